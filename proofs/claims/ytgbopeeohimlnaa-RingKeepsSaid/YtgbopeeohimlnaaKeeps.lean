/-
  The walk of RingKeeps: whatever the input, it returns true, and nothing that was there before the call has changed.
-/
import Derived.Test.YtgbopeeohimlnaaKeeps0
set_option linter.unusedVariables false
set_option linter.unusedSimpArgs false
namespace Go.Proofs.Ytgbopeeohimlnaa.Own
open Go.RowKit Go.Proofs.YtgbopeeohimlnaaW.PrintWords Go.Proofs.YtgbopeeohimlnaaW.PrintMore Go.Proofs.Ytgbopeeohimlnaa.H

attribute [local go_sem] max2_int max_two

theorem sh_snoc {pks : List Pk} {i : Nat} {pk : Pk} (h : pks[i]? = some pk) (hs : ∀ q ∈ pks.take i, q.bs.length ≤ 100) (hp : pk.bs.length ≤ 100) : ∀ q ∈ pks.take (i + 1), q.bs.length ≤ 100 := by
  rw [take_snoc h]
  intro q hq
  rcases List.mem_append.1 hq with hq | hq
  · exact hs q hq
  · simp at hq; rw [hq]; exact hp
/-- At the head of the law's great loop: i packets were pushed. -/
def Outer (w : World) (pks : List Pk) (B p g n : Nat) (d : Nat) (v : Value) (wr : World) : Prop :=
  ∃ (i : Nat) (own : Nat → Prop), v = .int .i64 i ∧ i + d = pks.length ∧ Ring wr B p g n (pks.take i) own ∧ (∀ b, own b → b < wr.heap.size) ∧ Below w.heap.size w wr ∧ ∀ pk ∈ pks.take i, pk.bs.length ≤ 100

/-- At the head of the loop that asks for each packet that is kept. -/
def Asked (w : World) (pks : List Pk) (B p g n i first N : Nat) (own : Nat → Prop) (d : Nat) (v15 v16 : Value) (wr : World) : Prop :=
  ∃ k : Nat, v16 = .int .i64 k ∧ v15 = .int .i64 (jn pks first k) ∧ first ≤ k ∧ k + d = i + 1 ∧ Ring wr B p g n (pks.take (i + 1)) own ∧ Below w.heap.size w wr ∧ N ≤ wr.heap.size

def Turned (w2 : World) (B bx : Nat) (pk : Pk) (v : Value) (bq : Nat → Prop) (m : Nat) (x : Value) (wr : World) : Prop :=
  ∃ (k : Nat) (bs : List Int), x = .int .i64 k ∧ k + m = pk.bs.length ∧ bs.length = pk.bs.length ∧ Has wr bx 32 [.int .u32 pk.e, .int .u32 pk.num, .bool pk.wh, v] ∧ QRow wr B 5 1 v pk.bs.length (u8s bs) ∧ But bq w2 wr

set_option maxHeartbeats 8000000 in
set_option maxRecDepth 100000 in
theorem keeps_c (w : World) (a0 : Int) (h0 : -9223372036854775808 ≤ a0 ∧ a0 ≤ 9223372036854775807) (A : Option Addr) (c0 : Nat) (pks : List Pk) (hlm : pks.length ≤ maxLen) (hcm : ∀ pk ∈ pks, pk.bs.length ≤ maxLen) (hca : Came w A pks) (hc0 : pks.length ≤ c0) (at_ : Int) :
    Calls Try.prog 3 #[.int .i64 a0, .slice A pks.length c0, .int .i64 at_] w fun e w' => e = .returned (.bool true) ∧ Below w.heap.size w w' := by
  have HA := Aside0.mk hca
  have HM := Aside0.mk hcm
  obtain ⟨n, hsz, hn⟩ := size_is a0 h0
  have HS := Aside0.mk hsz
  clear hca hsz h0 hcm
  unfold maxLen at hlm
  by_cases hl : pks.length ≤ 60
  · have d1 : decide (60 < (pks.length : Int)) = false := by simp; omega
    have d2 : decide (60 < pks.length) = false := by simp; omega
    go_enter Try.func3, Try.ntmps3
    go_wp2_with fail
    refine (lives_c _).mono ?_
    rintro e w1 ⟨rfl, hb1⟩
    go_wp2_with fail
    rw [HS.out]
    refine (new_c n (by omega) _).mono ?_
    rintro e w2 ⟨p, g, rfl, hr, hb2⟩
    have hb := hb1.trans (hb2.mono hb1.size)
    have HB1 := Aside0.mk hb1.size
    clear hb1 hb2
    go_wp2_with fail
    go_loopg [54] pks.length (fun d v wr => Outer w pks w1.heap.size p g n d v wr)
    case atStart => exact ⟨0, (fun _ => False), rfl, by simp, by simpa using hr, fun _ h => absurd h id, hb, by simp⟩
    case round =>
      clear hr hb
      obtain ⟨i, own, rfl, hi, hr, hown, hb, hsh⟩ := hrel
      have HPG := Aside0.mk (And.intro hr.hr.lt (And.intro hr.glt (And.intro hr.hp hr.hg)))
      have hB1 : w1.heap.size ≤ wr.heap.size := by have := hr.hr.lt; have := hr.hp; omega
      by_cases hlt : i < pks.length
      · cases gk with
        | zero => omega
        | succ go =>
        obtain ⟨pk, hpk⟩ : ∃ pk, pks[i]? = some pk := ⟨pks[i], by simp [hlt]⟩
        obtain ⟨ad, Ai, ci, rfl, hat⟩ := HA.out i pk hpk
        have hat1 := hat.below hb
        obtain ⟨x0, x1, x2, x3, xb⟩ := hat1
        have dlt : decide ((i : Int) < (pks.length : Int)) = true := by simp; omega
        have hpm := HM.out pk (List.mem_of_getElem? hpk)
        unfold maxLen at hpm
        have HXB := Aside0.mk xb
        clear xb hat
        by_cases h100 : pk.bs.length ≤ 100
        · have e1 : decide (100 < (pk.bs.length : Int)) = false := by simp; omega
          have e2 : decide (100 < pk.bs.length) = false := by simp; omega
          go_wp2_with (at_builtin; refine wpList_append_q T30 _ rfl _ _ rfl w1.heap.size _ 0 [] rfl ?c0 Ai pk.bs.length ci (u8s pk.bs) rfl ?c1 ?c2 ?c3 ?c4 ?_)
          case c0 => exact q_empty' _ _ _ 5 1 (by simp) (by omega)
          case c1 => exact news_of_C (Kd.C_alloc (Kd.C_alloc (Kd.C_alloc HXB.out.2 _) _) _)
          case c2 => unfold maxLen; omega
          case c3 => omega
          case c4 => simp; omega
          rintro v' w3 ⟨hq, hg, hat', _⟩
          simp only [Nat.zero_add, List.nil_append] at hq
          obtain ⟨A1, k1, hv1, hk1⟩ := q_slice hq
          subst hv1
          obtain ⟨wb, hwb⟩ : ∃ wb, wr.alloc (.cells #[.int .u32 pk.e, .int .u32 pk.num, .bool pk.wh, .slice Ai pk.bs.length ci] 32) = wb := ⟨_, rfl⟩
          have hwbs : wb.heap.size = wr.heap.size + 1 := by rw [← hwb]; simp
          rw [hwb] at hg hat'
          have hbx := ((Has.new wb 32 [.int .u32 pk.e, .int .u32 pk.num, .bool pk.wh, .slice Ai pk.bs.length ci]).alloc (.cells #[] 5)).grown hg (by simp [Value.ownBlock, hwbs])
          rw [hwbs] at hbx
          have hb3 : Below wr.heap.size wr w3 := Below.grown ((((Below.refl _ wr).alloc (Nat.le_refl _) (.cells #[.int .u32 pk.e, .int .u32 pk.num, .bool pk.wh, .slice Ai pk.bs.length ci] 32)).alloc (by simp) (.cells #[.int .u32 pk.e, .int .u32 pk.num, .bool pk.wh, .slice Ai pk.bs.length ci] 32)).alloc (by simp; omega) (.cells #[] 5)) (by rw [hwb]; exact hg) (by simp; omega) (fun k hk => by simp [Value.ownBlock, hwbs] at hk; omega)
          have hob : ∀ k, (Value.slice A1 pk.bs.length k1).ownBlock = some k → wr.heap.size + 2 ≤ k := fun k hk => by
            rcases hat' with hat | ⟨b, hat, hb⟩
            · rw [hat] at hk; simp [Value.ownBlock, hwbs] at hk; omega
            · rw [hat] at hk; simp [hwbs] at hk hb; omega
          have HQ := Aside0.mk hq
          have HB3 := Aside0.mk hb3
          have HO := Aside0.mk hob
          have HBX := Aside0.mk hbx
          obtain ⟨o0, o1, o2, o3, of⟩ := hbx.four
          clear hq hb3 hob hbx hg hat' hwb hwbs hk1
          go_wp2_with fail
          obtain ⟨w4, hw4⟩ : ∃ w4, w3.setCell ⟨wr.heap.size + 1, 3, none⟩ (.slice A1 pk.bs.length k1) = w4 := ⟨_, rfl⟩
          rw [hw4]
          have hb4 : Below wr.heap.size wr w4 := by rw [← hw4]; exact HB3.out.setCell (by simp) _
          have hbx4 : Has w4 (wr.heap.size + 1) 32 [.int .u32 pk.e, .int .u32 pk.num, .bool pk.wh, .slice A1 pk.bs.length k1] := by rw [← hw4]; exact HBX.out.set 3 _
          have hq4 : QRow w4 w1.heap.size 5 1 (.slice A1 pk.bs.length k1) pk.bs.length (u8s pk.bs) := by rw [← hw4]; exact q_far HQ.out (fun k hk => by have := HO.out k hk; simp; omega) _
          clear hw4 o0 o1 o2 o3 of
          have hr4 := hr.below hb4
          have hb4' := hb.trans (hb4.mono hb.size)
          have hpk' : pk.bs.length ≤ k1 := by obtain ⟨_, _, he, hc⟩ := q_slice hq4; simp at he; omega
          have htk := take_snoc hpk
          refine (push_c hr4 pk A1 k1 ⟨hpk', C_of_q hq4⟩ (by omega) (by have := hb4.size; omega) (by rw [List.length_take]; omega)).mono ?_
          rintro e w5 ⟨rfl, hr5, hb5⟩
          rw [← htk] at hr5
          have hil : (pks.take i).length = i := by rw [List.length_take]; omega
          rw [hil]
          have hbx5 : Has w5 (wr.heap.size + 1) 32 [.int .u32 pk.e, .int .u32 pk.num, .bool pk.wh, .slice A1 pk.bs.length k1] := hbx4.but hb5 (by have := hr.hr.lt; have := hr.glt; omega)
          have hq5 : QRow w5 w1.heap.size 5 1 (.slice A1 pk.bs.length k1) pk.bs.length (u8s pk.bs) := q_but hq4 hb5 (fun k hk => by have := HO.out k hk; have := hr.hr.lt; have := hr.glt; omega)
          have hb5' : Below w.heap.size w w5 := hb4'.trans (hb5.below hb4'.size (fun k hk => by have := hr.hp; have := hr.hg; have := HB1.out; omega))
          have hown5 : ∀ b, (own b ∨ (w4.heap.size ≤ b ∧ b < w5.heap.size)) → b < w5.heap.size ∧ ∀ k, (Value.slice A1 pk.bs.length k1).ownBlock = some k → b ≠ k := by
            intro b hbo
            have h54 := hb5.size
            have h4r := hb4.size
            refine ⟨?_, fun k hk e => ?_⟩
            · rcases hbo with hbo | hbo
              · have := hown b hbo; omega
              · exact hbo.2
            · subst e
              have h1 := HO.out b hk
              have h2 := q_lt hq4 b hk
              rcases hbo with hbo | hbo
              · have := hown b hbo; omega
              · omega
          obtain ⟨own5, hr5, hown5⟩ : ∃ own5, Ring w5 w1.heap.size p g n (pks.take (i + 1)) own5 ∧ ∀ b, own5 b → b < w5.heap.size ∧ ∀ k, (Value.slice A1 pk.bs.length k1).ownBlock = some k → b ≠ k := ⟨_, hr5, hown5⟩
          have HN5 := Aside0.mk (Nat.le_trans hb4.size hb5.size)
          clear hr4 hb4 hbx4 hq4 hb4' hb5 hown hr hb htk hil HB3 HBX HQ
          have oc3 := hbx5.four.2.2.2.1
          go_wp2_with fail
          have HT := Aside0.mk (⟨0, pk.bs, rfl, by simp, rfl, hbx5, hq5, But.refl _ w5⟩ : Turned w5 w1.heap.size (wr.heap.size + 1) pk (.slice A1 pk.bs.length k1) (fun b => (Value.slice A1 pk.bs.length k1).ownBlock = some b) pk.bs.length (.int .i64 ((0 : Nat) : Int)) w5)
          clear oc3 hbx5 hq5
          obtain ⟨wo, rfl⟩ : ∃ wo : World, wo = wr := ⟨_, rfl⟩
          go_loopg [77] pk.bs.length (fun d v wr => Turned w5 w1.heap.size (wo.heap.size + 1) pk (.slice A1 pk.bs.length k1) (fun b => (Value.slice A1 pk.bs.length k1).ownBlock = some b) d v wr)
          case atStart => exact HT.out
          case round =>
            clear HT
            obtain ⟨k, bs, rfl, hk, hbl, hbx, hq, hbut⟩ := hrel
            have b3 := hbx.four.2.2.2.1
            by_cases hlt2 : k < pk.bs.length
            · cases gk with
              | zero => omega
              | succ gk =>
              obtain ⟨bq, o, rfl, hbq, hcell, hfr, hset⟩ := q_open hq (by omega)
              obtain ⟨x, hx⟩ := u8s_at (bs := bs) (j := k) (by omega)
              have hc := (hcell k hlt2).trans hx
              have hne : (⟨bq, o + k, none⟩ : Addr).block ≠ wo.heap.size + 1 := by
                intro e
                have h1 := HO.out bq rfl
                simp at e; omega
              have hset' : ∀ X, QRow (wr.setCell ⟨bq, o + k, none⟩ (.int .u8 X)) w1.heap.size 5 1 (.slice (some ⟨bq, o, none⟩) pk.bs.length k1) pk.bs.length (u8s (bs.set k X)) := fun X => by rw [u8s_set]; exact hset k _ hlt2
              have HSET := Aside0.mk hset'
              clear hset hset' hcell hx
              go_wp2_with fail
              go_roundg gk
              case measure => omega
              case rel => exact ⟨k + 1, bs.set k _, by go_num, by omega, by simpa using hbl, hbx.far (Ne.symm hne) _, HSET.out _, hbut.set (p := ⟨bq, o + k, none⟩) (.inr rfl) _⟩
            · have hr6 : Ring wr w1.heap.size p g n (pks.take (i + 1)) own5 := hr5.but hbut (by intro h; have := HO.out p h; have := hr5.hr.lt; have := HPG.out; omega) (by intro h; have := HO.out g h; have := HPG.out; omega) (fun b hbo h => (hown5 b hbo).2 b h rfl)
              have hb6 : Below w.heap.size w wr := hb5'.trans (hbut.below hb5'.size (fun k hk => by have := HO.out k hk; have := HPG.out; have := HB1.out; omega))
              have hown6 : ∀ b, own5 b → b < w5.heap.size := fun b hbo => (hown5 b hbo).1
              have hN := hbut.size
              have HC := Aside0.mk (And.intro hr6 (And.intro hb6 (And.intro hown6 hN)))
              clear hr6 hb6 hown6 hN hr5 hb5' hown5 hbut hq hbx b3 hbl
              obtain ⟨first, hfirst⟩ : ∃ first : Nat, (if (i : Int) + 1 - (n : Int) < 0 then (0 : Int) else (i : Int) + 1 - (n : Int)) = (first : Int) ∧ first = i + 1 - n := ⟨i + 1 - n, by split <;> omega, rfl⟩
              obtain ⟨hmx, hfi⟩ := hfirst
              have HFI := Aside0.mk hfi
              clear hfi
              go_wp2_with fail
              have HSH := Aside0.mk (sh_snoc hpk hsh h100)
              clear hsh
              have HJ := Aside0.mk (jn_start pks first)
              have hfi2 : first ≤ i := by have := HFI.out; omega
              go_loopg [15, 16] (i + 1 - first) (fun d v15 v16 wr => Asked w pks w1.heap.size p g n i first w5.heap.size own5 d v15 v16 wr)
              case atStart => exact ⟨first, rfl, by rw [HJ.out], Nat.le_refl _, by omega, HC.out.1, HC.out.2.1, HC.out.2.2.2⟩
              case round =>
                obtain ⟨k, rfl, rfl, hfk, hk, hr, hb, hN⟩ := hrel
                have HOWN := Aside0.mk HC.out.2.2.1
                clear HC HJ
                have hdk : decide ((k : Int) ≤ (i : Int)) = true ∨ decide ((k : Int) ≤ (i : Int)) = false := by simp; omega
                by_cases hlt3 : k ≤ i
                · cases gk with
                  | zero => omega
                  | succ gl =>
                  obtain ⟨qk, hqk⟩ : ∃ qk, pks[k]? = some qk := ⟨pks[k]'(by omega), by simp [show k < pks.length by omega]⟩
                  have hqk' : (pks.take (i + 1))[k]? = some qk := by rw [List.getElem?_take, if_pos (by omega)]; exact hqk
                  have hq100 : qk.bs.length ≤ 100 := HSH.out qk (List.mem_of_getElem? hqk')
                  obtain ⟨ad2, Ak, ck, hade, hat2⟩ := HA.out k qk hqk
                  obtain rfl := Option.some.inj hade
                  have dk : decide ((k : Int) ≤ (i : Int)) = true := by simp; omega
                  have dk2 : decide (k ≤ i) = true := by simp; omega
                  clear hdk
                  go_wp2_with fail
                  refine (at_yes hr k qk hqk' (by rw [List.length_take]; have := HFI.out; omega) (by omega)).mono ?_
                  rintro e w7 ⟨A2, c2, rfl, hq7, hb7⟩
                  go_wp2_with fail
                  obtain ⟨w8, hw8⟩ : ∃ w8, w7.alloc (.cells #[.int .u32 qk.e, .int .u32 qk.num, .bool qk.wh, .slice A2 qk.bs.length c2] 32) = w8 := ⟨_, rfl⟩
                  rw [hw8]
                  have hb78 : Below w7.heap.size w7 w8 := by rw [← hw8]; exact (Below.refl _ w7).alloc (Nat.le_refl _) _
                  have hbx8 : Has w8 w7.heap.size 32 [.int .u32 qk.e, .int .u32 qk.num, .bool qk.wh, .slice A2 qk.bs.length c2] := by rw [← hw8]; exact Has.new w7 32 [_, _, _, _]
                  clear hw8
                  have hb8 : Below wr.heap.size wr w8 := hb7.trans (hb78.mono hb7.size)
                  have hq8 := q_below hq7 hb78
                  have hat8 := hat2.below (hb.trans (hb8.mono hb.size))
                  have hqc : qk.bs.length ≤ c2 := by obtain ⟨_, _, he, hc⟩ := q_slice hq7; simp at he; omega
                  have HQB := Aside0.mk (show Bytes w8 A2 c2 qk.bs from ⟨hqc, C_of_q hq8⟩)
                  have HAB := Aside0.mk hat8.by_
                  have HBX8 := Aside0.mk hbx8
                  have HQ8 := Aside0.mk hq8
                  have HB8 := Aside0.mk hb8
                  obtain ⟨y0, y1, y2, y3, yf⟩ := hbx8.four
                  obtain ⟨z0, z1, z2, z3, _⟩ := hat8
                  have HR8 := Aside0.mk (And.intro (hr.below hb8) (And.intro (hb.trans (hb8.mono hb.size)) (Nat.le_trans hN hb8.size)))
                  have HNI := Aside0.mk hN
                  have hk0 : (0 : Int) ≤ (k : Int) := by omega
                  have hk1 : (k : Int) < (pks.length : Int) := by omega
                  clear hb7 hb78 hb8 hq8 hq7 hqc hbx8 hr hb hN yf
                  go_region_held3 (fun w' => w'.cell? ⟨w7.heap.size, 0, none⟩ = some (.int .u32 qk.e) ∧ w'.cell? ⟨w7.heap.size, 1, none⟩ = some (.int .u32 qk.num) ∧ w'.cell? ⟨w7.heap.size, 2, none⟩ = some (.bool qk.wh) ∧ w'.cell? ⟨w7.heap.size, 3, none⟩ = some (.slice A2 qk.bs.length c2) ∧ w'.cell? (ad.add (k * 4)) = some (.int .u32 qk.e) ∧ w'.cell? ⟨(ad.add (k * 4)).block, (ad.add (k * 4)).off + 1, none⟩ = some (.int .u32 qk.num) ∧ w'.cell? ⟨(ad.add (k * 4)).block, (ad.add (k * 4)).off + 2, none⟩ = some (.bool qk.wh) ∧ w'.cell? ⟨(ad.add (k * 4)).block, (ad.add (k * 4)).off + 3, none⟩ = some (.slice Ak qk.bs.length ck))
                    (first | (with_reducible exact ⟨cell_below hb3 y0, cell_below hb3 y1, cell_below hb3 y2, cell_below hb3 y3, cell_below hb3 z0, cell_below hb3 z1, cell_below hb3 z2, cell_below hb3 z3⟩) | go_keep)
                    (first | (go_at_call 9; refine (same_c qk A2 Ak c2 ck _ (HQB.out.below ((Below.refl _ _).drew)) (HAB.out.below ((Below.refl _ _).drew))).mono ?_; rintro e w9 ⟨rfl, hb9⟩; have hb3 := below_undrew hb9))
                  have hbx9 := HBX8.out.below hb3 HBX8.out.lt
                  have hq9 := q_below HQ8.out hb3
                  have HR9 := Aside0.mk (And.intro (HR8.out.1.below hb3) (And.intro (HR8.out.2.1.trans (hb3.mono HR8.out.2.1.size)) (Nat.le_trans HR8.out.2.2 hb3.size)))
                  have HT := Aside0.mk (⟨0, qk.bs, rfl, by simp, rfl, hbx9, hq9, But.refl _ w9⟩ : Turned w9 wr.heap.size w7.heap.size qk (.slice A2 qk.bs.length c2) (fun b => (Value.slice A2 qk.bs.length c2).ownBlock = some b) qk.bs.length (.int .i64 ((0 : Nat) : Int)) w9)
                  have oc3 := hbx9.four.2.2.2.1
                  have hne97 : w7.heap.size < w9.heap.size := hbx9.lt
                  have HOB := Aside0.mk (fun (b : Nat) (h : (Value.slice A2 qk.bs.length c2).ownBlock = some b) => (q_typed hq9 b h).1)
                  have HOT := Aside0.mk hbx9
                  clear hbx9 hq9 hb3 hb9 y0 y1 y2 y3 z0 z1 z2 z3 HR8 HQ8 HBX8 HAB HQB HB8
                  go_wp2_with fail
                  obtain ⟨wi, rfl⟩ : ∃ wi : World, wi = wr := ⟨_, rfl⟩
                  clear oc3
                  go_loopg [119] qk.bs.length (fun d v wr => Turned w9 wi.heap.size w7.heap.size qk (.slice A2 qk.bs.length c2) (fun b => (Value.slice A2 qk.bs.length c2).ownBlock = some b) d v wr)
                  case atStart => exact HT.out
                  case round =>
                    clear HT
                    obtain ⟨j, bs, rfl, hj, hbl, hbx, hq, hbut⟩ := hrel
                    have b3 := hbx.four.2.2.2.1
                    by_cases hlt4 : j < qk.bs.length
                    · cases gk with
                      | zero => omega
                      | succ gj =>
                      obtain ⟨bq, o, rfl, hbq, hcell, hfr, hset⟩ := q_open hq (by omega)
                      obtain ⟨x, hx⟩ := u8s_at (bs := bs) (j := j) (by omega)
                      have hc := (hcell j hlt4).trans hx
                      have hne : (⟨bq, o + j, none⟩ : Addr).block ≠ w7.heap.size := by
                        intro e
                        simp at e
                        subst e
                        have hx1 := hbx.out
                        have hc0 := hcell j hlt4
                        obtain ⟨_, cells, hcc⟩ := q_typed hq _ rfl
                        rw [hx1] at hcc
                        simp at hcc
                      have hset' : ∀ X, QRow (wr.setCell ⟨bq, o + j, none⟩ (.int .u8 X)) wi.heap.size 5 1 (.slice (some ⟨bq, o, none⟩) qk.bs.length c2) qk.bs.length (u8s (bs.set j X)) := fun X => by rw [u8s_set]; exact hset j _ hlt4
                      have HSET := Aside0.mk hset'
                      clear hset hset' hcell hx
                      go_wp2_with fail
                      go_roundg gj
                      case measure => omega
                      case rel => exact ⟨j + 1, bs.set j _, by go_num, by omega, by simpa using hbl, hbx.far (Ne.symm hne) _, HSET.out _, hbut.set (p := ⟨bq, o + j, none⟩) (.inr rfl) _⟩
                    · have hr10 : Ring wr w1.heap.size p g n (pks.take (i + 1)) own5 := HR9.out.1.but hbut (by intro h; have := HOB.out p h; have := HPG.out; have := HNI.out; have := HN5.out; omega) (by intro h; have := HOB.out g h; have := HPG.out; have := HNI.out; have := HN5.out; omega) (fun b hbo h => by have := HOB.out b h; have := HOWN.out b hbo; have := HNI.out; omega)
                      have hb10 : Below w.heap.size w wr := HR9.out.2.1.trans (hbut.below HR9.out.2.1.size (fun b hk => by have := HOB.out b hk; have := HPG.out; have := HB1.out; have := HNI.out; have := HN5.out; omega))
                      have hN10 : w5.heap.size ≤ wr.heap.size := Nat.le_trans HR9.out.2.2 hbut.size
                      have HC10 := Aside0.mk (And.intro hr10 (And.intro hb10 hN10))
                      have z2 := (hat2.below hb10).c2
                      have HJN := Aside0.mk (jn_step pks first k qk hqk hfk)
                      clear hr10 hb10 hN10 hbut hq hbx b3 hbl HR9 HOB HOT
                      by_cases hwh : qk.wh = true
                      · have hwb : (Value.bool qk.wh) = .bool true := by rw [hwh]
                        have HW := Aside0.mk hwh
                        clear hwh
                        go_wp2_with fail
                        go_roundg gl
                        case measure => omega
                        case rel => exact ⟨k + 1, by go_num, by rw [HJN.out, if_pos HW.out], by omega, by omega, HC10.out.1, HC10.out.2.1, HC10.out.2.2⟩
                      · have hwf : qk.wh = false := by simpa using hwh
                        have hwb : (Value.bool qk.wh) = .bool false := by rw [hwf]
                        have HW := Aside0.mk hwf
                        clear hwh hwf
                        go_wp2_with fail
                        go_roundg gl
                        case measure => omega
                        case rel => exact ⟨k + 1, by go_num, by rw [HJN.out, if_neg (by simp [HW.out])], by omega, by omega, HC10.out.1, HC10.out.2.1, HC10.out.2.2⟩
                · obtain rfl : k = i + 1 := by omega
                  have dk : decide (((i + 1 : Nat) : Int) ≤ (i : Int)) = false := decide_eq_false (by omega)
                  have dk2 : decide (i + 1 ≤ i) = false := decide_eq_false (by omega)
                  have dk3 : decide ((i : Int) + 1 ≤ (i : Int)) = false := decide_eq_false (by omega)
                  clear hdk
                  have hpl : (pks.take (i + 1)).length = i + 1 := by rw [List.length_take]; omega
                  have hff : first = (pks.take (i + 1)).length - n := by rw [hpl]; exact HFI.out
                  have HPL := Aside0.mk hpl
                  have HFF := Aside0.mk hff
                  clear hpl hff
                  by_cases hJ : lw (pks.take (i + 1)) < (first : Int)
                  · have hjn : jn pks first (i + 1) = -1 := by unfold jn; rw [if_pos hJ]
                    have HJJ := Aside0.mk hJ
                    clear hJ
                    go_wp2_with fail
                    refine (ends_is hr first ((i : Int) + 1) HFF.out (by rw [HPL.out]; omega)).mono ?_
                    rintro e w10 ⟨rfl, hd10⟩
                    have hr10 := hr.below hd10.below
                    have hb10 := hb.trans (hd10.below.mono hb.size)
                    have hN10 := Nat.le_trans hN hd10.below.size
                    clear hr hb hN hd10
                    go_wp2_with fail
                    refine (join_no hr10 (by rw [← HFF.out]; exact HJJ.out)).mono ?_
                    rintro e w11 ⟨rfl, hd11⟩
                    have hr11 := hr10.below hd11.below
                    have hb11 := hb10.trans (hd11.below.mono hb10.size)
                    have hN11 := Nat.le_trans hN10 hd11.below.size
                    clear hr10 hb10 hN10 hd11
                    go_wp2_with fail
                    refine (at_no' hr11 ((first : Int) - 1) (.inl (by rw [← HFF.out]; omega))).mono ?_
                    rintro e w12 ⟨rfl, hb12⟩
                    have hr12 := (hr11.below hb12).below ((Below.refl _ w12).alloc (Nat.le_refl _) zobj)
                    have hb12' := (hb11.trans (hb12.mono hb11.size)).alloc (Nat.le_trans hb11.size hb12.size) zobj
                    have hN12 : w5.heap.size ≤ (w12.alloc zobj).heap.size := by have := hb12.size; simp; omega
                    clear hr11 hb11 hN11 hb12
                    go_wp2_with fail
                    refine (at_no' hr12 ((i : Int) + 1) (.inr (by rw [HPL.out]; omega))).mono ?_
                    rintro e w13 ⟨rfl, hb13⟩
                    have hr13 := (hr12.below hb13).below ((Below.refl _ w13).alloc (Nat.le_refl _) zobj)
                    have hb13' := (hb12'.trans (hb13.mono hb12'.size)).alloc (Nat.le_trans hb12'.size hb13.size) zobj
                    have hN13 : w5.heap.size ≤ (w13.alloc zobj).heap.size := Nat.le_trans hN12 (Nat.le_trans hb13.size (by simp))
                    have H13 := Aside0.mk (And.intro hr13 (And.intro hb13' hN13))
                    clear hr12 hb12' hN12 hb13 hr13 hb13' hN13
                    go_wp2_with fail
                    go_roundg go
                    case measure => omega
                    case rel => exact ⟨i + 1, own5, by go_num, by omega, H13.out.1, fun b hbo => Nat.lt_of_lt_of_le (HOWN.out b hbo) H13.out.2.2, H13.out.2.1, HSH.out⟩
                  · have hjn : jn pks first (i + 1) = lw (pks.take (i + 1)) := by unfold jn; rw [if_neg hJ]
                    have hL0 : decide (0 ≤ lw (pks.take (i + 1))) = true := decide_eq_true (by omega)
                    have HJJ := Aside0.mk hJ
                    clear hJ
                    go_wp2_with fail
                    refine (ends_is hr first ((i : Int) + 1) HFF.out (by rw [HPL.out]; omega)).mono ?_
                    rintro e w10 ⟨rfl, hd10⟩
                    have hr10 := hr.below hd10.below
                    have hb10 := hb.trans (hd10.below.mono hb.size)
                    have hN10 := Nat.le_trans hN hd10.below.size
                    clear hr hb hN hd10
                    go_wp2_with fail
                    refine (join_yes hr10 (by rw [← HFF.out]; have := HJJ.out; omega)).mono ?_
                    rintro e w11 ⟨rfl, hd11⟩
                    have hr11 := hr10.below hd11.below
                    have hb11 := hb10.trans (hd11.below.mono hb10.size)
                    have hN11 := Nat.le_trans hN10 hd11.below.size
                    clear hr10 hb10 hN10 hd11
                    go_wp2_with fail
                    refine (at_no' hr11 ((first : Int) - 1) (.inl (by rw [← HFF.out]; omega))).mono ?_
                    rintro e w12 ⟨rfl, hb12⟩
                    have hr12 := (hr11.below hb12).below ((Below.refl _ w12).alloc (Nat.le_refl _) zobj)
                    have hb12' := (hb11.trans (hb12.mono hb11.size)).alloc (Nat.le_trans hb11.size hb12.size) zobj
                    have hN12 : w5.heap.size ≤ (w12.alloc zobj).heap.size := by have := hb12.size; simp; omega
                    clear hr11 hb11 hN11 hb12
                    go_wp2_with fail
                    refine (at_no' hr12 ((i : Int) + 1) (.inr (by rw [HPL.out]; omega))).mono ?_
                    rintro e w13 ⟨rfl, hb13⟩
                    have hr13 := (hr12.below hb13).below ((Below.refl _ w13).alloc (Nat.le_refl _) zobj)
                    have hb13' := (hb12'.trans (hb13.mono hb12'.size)).alloc (Nat.le_trans hb12'.size hb13.size) zobj
                    have hN13 : w5.heap.size ≤ (w13.alloc zobj).heap.size := Nat.le_trans hN12 (Nat.le_trans hb13.size (by simp))
                    have H13 := Aside0.mk (And.intro hr13 (And.intro hb13' hN13))
                    clear hr12 hb12' hN12 hb13 hr13 hb13' hN13
                    go_wp2_with fail
                    go_roundg go
                    case measure => omega
                    case rel => exact ⟨i + 1, own5, by go_num, by omega, H13.out.1, fun b hbo => Nat.lt_of_lt_of_le (HOWN.out b hbo) H13.out.2.2, H13.out.2.1, HSH.out⟩
        · have e1 : decide (100 < (pk.bs.length : Int)) = true := by simp; omega
          have e2 : decide (100 < pk.bs.length) = true := by simp; omega
          go_wp2_with fail
          go_ret
          exact ⟨rfl, hb.alloc hb.size _⟩
      · obtain rfl : i = pks.length := by omega
        rw [List.take_length] at hr hsh
        have dlt : decide ((pks.length : Int) < (pks.length : Int)) = false := decide_eq_false (by omega)
        have dlt2 : decide (pks.length < pks.length) = false := decide_eq_false (by omega)
        by_cases hin : ((pks.length - n : Nat) : Int) ≤ at_ ∧ at_ < (pks.length : Int)
        · obtain ⟨m, rfl⟩ : ∃ m : Nat, at_ = (m : Int) := ⟨at_.toNat, by omega⟩
          obtain ⟨qk, hqk⟩ : ∃ qk, pks[m]? = some qk := ⟨pks[m]'(by omega), by simp [show m < pks.length by omega]⟩
          have hq100 := hsh qk (List.mem_of_getElem? hqk)
          have t1 : decide (((pks.length - n : Nat) : Int) ≤ (m : Int)) = true := decide_eq_true hin.1
          have t2 : decide ((m : Int) < (pks.length : Int)) = true := decide_eq_true hin.2
          have t3 : decide (m < pks.length) = true := decide_eq_true (by omega)
          have t5 : pks.length ≤ m + n := by omega
          have t6 : decide (pks.length ≤ m + n) = true := decide_eq_true t5
          have HIN := Aside0.mk hin
          clear hin hsh hown
          go_wp2_with fail
          refine (at_yes hr m qk hqk (by have := HIN.out; omega) (by omega)).mono ?_
          rintro e wa ⟨A2, c2, rfl, _, hb2⟩
          have hr2 := (hr.below hb2).below ((Below.refl _ wa).alloc (Nat.le_refl _) (.cells #[.int .u32 qk.e, .int .u32 qk.num, .bool qk.wh, .slice A2 qk.bs.length c2] 32))
          have hb3 := (hb.trans (hb2.mono hb.size)).alloc (Nat.le_trans hb.size hb2.size) (.cells #[.int .u32 qk.e, .int .u32 qk.num, .bool qk.wh, .slice A2 qk.bs.length c2] 32)
          clear hr hb hb2
          go_wp2_with fail
          refine (ends_is hr2 (pks.length - n) (pks.length : Int) rfl rfl).mono ?_
          rintro e wb ⟨rfl, hd⟩
          have hb4 := hb3.trans (hd.below.mono hb3.size)
          go_wp2_with fail
          go_ret
          exact ⟨rfl, hb4⟩
        · have hor : decide (((pks.length - n : Nat) : Int) ≤ at_) = false ∨ (decide (((pks.length - n : Nat) : Int) ≤ at_) = true ∧ decide (at_ < (pks.length : Int)) = false) := by
            simp only [decide_eq_true_eq, decide_eq_false_iff_not]; omega
          have HIN := Aside0.mk hin
          clear hin hsh hown
          rcases hor with t1 | ⟨t1, t2⟩
          all_goals
            go_wp2_with fail
            refine (at_no' hr at_ (by have := HIN.out; omega)).mono ?_
            rintro e wa ⟨rfl, hb2⟩
            have hr2 := (hr.below hb2).below ((Below.refl _ wa).alloc (Nat.le_refl _) zobj)
            have hb3 := (hb.trans (hb2.mono hb.size)).alloc (Nat.le_trans hb.size hb2.size) zobj
            clear hr hb hb2
            go_wp2_with fail
            refine (ends_is hr2 (pks.length - n) (pks.length : Int) rfl rfl).mono ?_
            rintro e wb ⟨rfl, hd⟩
            have hb4 := hb3.trans (hd.below.mono hb3.size)
            go_wp2_with fail
            go_ret
            exact ⟨rfl, hb4⟩
  · have d1 : decide (60 < (pks.length : Int)) = true := by simp; omega
    have d2 : decide (60 < pks.length) = true := by simp; omega
    go_enter Try.func3, Try.ntmps3
    go_wp2_with fail
    refine (lives_c _).mono ?_
    rintro e w1 ⟨rfl, hb1⟩
    go_wp2_with fail
    refine (lives_c _).mono ?_
    rintro e w2 ⟨rfl, hb2⟩
    go_wp2_with fail
    go_ret
    exact ⟨rfl, hb1.trans (hb2.mono hb1.size)⟩
end Go.Proofs.Ytgbopeeohimlnaa.Own
