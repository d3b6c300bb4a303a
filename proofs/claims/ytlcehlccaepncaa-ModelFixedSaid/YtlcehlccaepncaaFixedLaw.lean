/-
  The walk of ModelFixed: whatever the input, it returns true, and nothing that was there before the call has changed.
-/
import Derived.Test.YtlcehlccaepncaaFixed
set_option linter.unusedVariables false
set_option linter.unusedSimpArgs false
namespace Go.Proofs.Ytlcehlccaepncaa.Own
open Go.RowKit Go.Proofs.YtlcehlccaepncaaW.PrintWords Go.Proofs.YtlcehlccaepncaaW.PrintMore Go.Proofs.Ytlcehlccaepncaa.H

def SevenRel (w : World) (B g o c n : Nat) (d : Nat) (v : Value) (wr : World) : Prop :=
  ∃ (i : Nat) (xs : List Nat), v = .int .i64 i ∧ i + d = n ∧ xs.length = n ∧ QRow wr B 23 1 (.slice (some ⟨g, o, none⟩) n c) n (u32s xs) ∧ But (fun k => k = g) w wr

theorem nats_of {l : List Int} (h : ∀ x ∈ l, 0 ≤ x ∧ x ≤ 4294967295) : ∃ os : List Nat, os.length = l.length ∧ l.map (Value.int .u32) = u32s os ∧ (∀ x ∈ os, x ≤ 4294967295) ∧ ∀ j, j < l.length → l.getD j 0 = ((os.getD j 0 : Nat) : Int) := by
  refine ⟨l.map Int.toNat, by simp, ?_, ?_, ?_⟩
  · unfold u32s
    rw [List.map_map]
    refine List.map_congr_left fun x hx => ?_
    have := (h x hx).1
    simp; omega
  · intro x hx
    obtain ⟨y, hy, rfl⟩ := List.mem_map.1 hx
    have := h y hy; omega
  · intro j hj
    have := h l[j] (List.getElem_mem hj)
    simp [hj]; omega

set_option maxHeartbeats 8000000 in
set_option maxRecDepth 100000 in
theorem fixedlaw_c (w : World) (A : Option Addr) (cap : Nat) (l : List Int) (hC : Kd.C (Kd.int .u32) w A l.length l) (hc0 : l.length ≤ cap) (hlm : l.length ≤ maxLen) (hw : ∀ x ∈ l, 0 ≤ x ∧ x ≤ 4294967295)
    (a1 : Int) (h1 : 0 ≤ a1 ∧ a1 ≤ 4294967295) (s : Int) (hs : -9223372036854775808 ≤ s ∧ s ≤ 9223372036854775807) : Calls Try.prog 5 #[.slice A l.length cap, .int .u32 a1, .int .i64 s] w fun e w' => e = .returned (.bool true) ∧ Below w.heap.size w w' := by
  obtain ⟨os, hol, hmap, h32, hget⟩ := nats_of hw
  have HC := Aside0.mk hC
  have H32 := Aside0.mk h32
  have HG := Aside0.mk hget
  have HMAP := Aside0.mk hmap
  clear hC hw h32 hget hmap
  unfold maxLen at hlm
  obtain ⟨n, hn⟩ : ∃ n, l.length = n := ⟨_, rfl⟩
  rw [hn] at hc0 hlm hol ⊢
  by_cases hl : n ≤ 100
  · have d1 : decide (100 < (n : Int)) = false := by simp; omega
    have d2 : decide (100 < n) = false := decide_eq_false (by omega)
    obtain ⟨a, rfl⟩ : ∃ a : Nat, a1 = (a : Int) := ⟨a1.toNat, by omega⟩
    go_enter Try.func5, Try.ntmps5
    go_wp2_with fail
    refine (lives_c w).mono ?_
    rintro e w1 ⟨rfl, hb1⟩
    have hc1 := HC.out
    rw [hn] at hc1
    go_wp2_with (at_builtin; refine wpList_append_q T44 _ rfl _ _ rfl w1.heap.size _ 0 [] rfl ?c0 A n cap (l.map (Value.int .u32)) rfl ?c1 ?c2 ?c3 ?c4 ?_)
    case c0 => exact q_empty' _ _ _ 23 1 rfl (Nat.le_refl _)
    case c1 => exact news_of_C (Kd.C_alloc (Kd.C_below hc1 hb1) _)
    case c2 => unfold maxLen; omega
    case c3 => omega
    case c4 => simp
    rintro v' w2 ⟨hq, hg, hat, _⟩
    simp only [Nat.zero_add, List.nil_append] at hq
    rw [HMAP.out] at hq
    obtain ⟨A1, k1, hv1, hk1⟩ := q_slice hq
    subst hv1
    have hb2 : Below w1.heap.size w1 w2 := ((Below.refl _ w1).alloc (Nat.le_refl _) _).grown hg (by simp) (fun k hk => by simp [Value.ownBlock] at hk; omega)
    have hb12 := hb1.trans (hb2.mono hb1.size)
    have HB1 := Aside0.mk hb1.size
    clear hg hat hc1 hb1 hb2
    by_cases hnn : n < 1 ∨ 64 < n
    · have HQ := Aside0.mk hq
      clear hq
      go_wp2_with fail
      refine (fixed_bad A1 n k1 hnn w2).mono ?_
      rintro e w3 ⟨rfl, rfl⟩
      go_wp2_with fail
      refine (rfixed_bad A n cap hnn w2).mono ?_
      rintro e w3 ⟨rfl, rfl⟩
      go_wp2_with fail
      exact bodyPost_ret (v := .bool true) (by simp [results, Try.results5, go_sem, *]) rfl ⟨rfl, hb12⟩
    · obtain ⟨g, o, rfl, _, hcl, hgf, hset⟩ := q_open hq (by omega)
      have hgl : g < w2.heap.size := q_lt hq g rfl
      have hbg : w1.heap.size ≤ g := (q_typed hq g rfl).1
      have hno : Nums w2 ⟨g, o, none⟩ os := ⟨fun j hj => by rw [add_at, hcl j (by omega)]; exact u32s_at hj, hgl⟩
      obtain ⟨ad, rfl, hca⟩ := C_at (Kd.C_below HC.out hb12) (by omega)
      have hna : Nums w2 ad os := ⟨fun j hj => by rw [hca j (by omega), HG.out j (by omega)], World.block_lt_of_cell? w2 _ (hca 0 (by omega))⟩
      have HQ := Aside0.mk hq
      clear hq hcl hgf hset hca
      subst hol
      go_wp2_with fail
      refine (fixed_c hno (by omega) H32.out k1).mono ?_
      rintro e w3 ⟨hb3, hpost3⟩
      have hna3 := hna.below hb3
      clear hno hna
      rcases hpost3 with ⟨hval, p, gm, om, c, rfl, hm⟩ | ⟨hval, rfl⟩
      · go_wp2_with fail
        refine (rfixed_c hna3 (by omega) H32.out cap).mono ?_
        rintro e w4 ⟨hb4, hpost4⟩
        rcases hpost4 with ⟨_, q, h, r, d, rfl, hr⟩ | ⟨hnv, _⟩
        · have hq4 := q_below (q_below HQ.out hb3) hb4
          have hm4 := (hm.below hb4)
          have hb34 := hb12.trans ((hb3.mono hb12.size).trans (hb4.mono (Nat.le_trans hb12.size hb3.size)))
          have hne : p ≠ g ∧ gm ≠ g ∧ q ≠ g ∧ h ≠ g := by
            have h1 := hm.hp; have h2 := hm.row.1; have h3 := hr.hp; have h4 := hr.row.1; have h5 := hb3.size
            omega
          have HR := Aside0.mk (And.intro hm4 (And.intro (hr.lower hb3.size) hb34))
          have HST := Aside0.mk (⟨0, os, rfl, by omega, rfl, hq4, But.refl _ w4⟩ : SevenRel w4 w1.heap.size g o k1 os.length os.length (.int .i64 ((0 : Nat) : Int)) w4)
          clear hm hr hq4 hm4 hb3 hb4 hna3 hb34
          go_wp2_with fail
          go_loopg [53] os.length (fun d v wr => SevenRel w4 w1.heap.size g o k1 os.length d v wr)
          case atStart => exact HST.out
          case round =>
            clear HST
            obtain ⟨i, xs, rfl, hi, hxl, hq, hb⟩ := hrel
            by_cases hlt : i < os.length
            · cases gk with
              | zero => omega
              | succ gk =>
              obtain ⟨g', o', he, _, hc, hgf, hset⟩ := q_open hq (by omega)
              simp only [Option.some.injEq, Addr.mk.injEq, and_true] at he
              obtain ⟨rfl, rfl⟩ := he
              have y0 := (hc i hlt).trans (u32s_at (by omega))
              have hil : (i : Int) < (os.length : Int) := by omega
              have H5 := Aside0.mk (And.intro (hset i (.int .u32 7) hlt) hb)
              clear hc hset hq hb
              go_wp2_with fail
              go_roundg gk
              case measure => omega
              case rel =>
                refine ⟨i + 1, xs.set i 7, by go_num, by omega, by simpa using hxl, ?_, H5.out.2.set (.inr rfl) _⟩
                rw [u32s_set]; exact H5.out.1
            · have hm5 := HR.out.1.but hb (by omega) (by omega)
              have hr5 := HR.out.2.1.but hb (by omega) (by omega)
              have hb5 : Below w.heap.size w wr := HR.out.2.2.trans (hb.below HR.out.2.2.size (fun k hk => by have := HB1.out; omega))
              obtain ⟨U, hU⟩ : ∃ U, IntKind.u64.wrap s = U := ⟨_, rfl⟩
              have hU1 : 0 ≤ U := by rw [← hU]; simp [IntKind.wrap, IntKind.bits, IntKind.signed]; omega
              obtain ⟨k, hk⟩ : ∃ k : Nat, Int.tmod U (os.length : Int) = (k : Int) := ⟨(Int.tmod U (os.length : Int)).toNat, by have := Int.tmod_nonneg (os.length : Int) hU1; omega⟩
              have hkl : k < os.length := by have := Int.tmod_lt_of_pos U (b := (os.length : Int)) (by omega); omega
              have hwn : IntKind.u64.wrap (os.length : Int) = (os.length : Int) := IntWalk.u64_in _ (by omega)
              have hwk : IntKind.u64.wrap (k : Int) = (k : Int) := IntWalk.u64_in _ (by omega)
              have hwk' : IntKind.i64.wrap (k : Int) = (k : Int) := IntWalk.i64_in _ (by omega)
              have hn0 : ((os.length : Int) == 0) = false := by rw [beq_eq_false_iff_ne]; omega
              have hn1 : (os.length == 0) = false := by rw [beq_eq_false_iff_ne]; omega
              have hn2 : ¬ os.length = 0 := by omega
              clear hq hb
              go_wp2_with fail

              refine (learn_fixed hm5 k hkl).mono ?_
              rintro e w6 ⟨rfl, rfl⟩
              go_wp2_with fail
              refine (same_c hm5 hr5 a (by omega)).mono ?_
              rintro e w7 ⟨rfl, hb7⟩
              have hb8 := hb5.trans (hb7.mono hb5.size)
              clear hb7 hb5 hm5 hr5
              go_wp2_with fail
              exact bodyPost_ret (v := .bool true) (by simp [results, Try.results5, go_sem, *]) rfl ⟨rfl, hb8⟩
        · exact absurd hval hnv
      · go_wp2_with fail
        refine (rfixed_c hna3 (by omega) H32.out cap).mono ?_
        rintro e w4 ⟨hb4, hpost4⟩
        rcases hpost4 with ⟨hv, _⟩ | ⟨_, v, rfl⟩
        · exact absurd hv hval
        · have hb34 := hb12.trans ((hb3.mono hb12.size).trans (hb4.mono (Nat.le_trans hb12.size hb3.size)))
          clear hna3 hb3 hb4 hb12
          go_wp2_with fail
          exact bodyPost_ret (v := .bool true) (by simp [results, Try.results5, go_sem, *]) rfl ⟨rfl, hb34⟩
  · have d1 : decide (100 < (n : Int)) = true := by simp; omega
    have d2 : decide (100 < n) = true := decide_eq_true (by omega)
    go_enter Try.func5, Try.ntmps5
    go_wp2_with fail
    refine (lives_c w).mono ?_
    rintro e w1 ⟨rfl, hb1⟩
    go_wp2_with fail
    refine (lives_c w1).mono ?_
    rintro e w2 ⟨rfl, hb2⟩
    have hb := hb1.trans (hb2.mono hb1.size)
    clear hb1 hb2
    go_wp2_with fail
    exact bodyPost_ret (v := .bool true) (by simp [results, Try.results5, go_sem, *]) rfl ⟨rfl, hb⟩
end Go.Proofs.Ytlcehlccaepncaa.Own
