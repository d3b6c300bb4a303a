/-
  The walk of QueueRuns: whatever the input, it returns true, and nothing that was there before the call has changed.
-/
import Derived.Test.YtdfpfchkiogkgaaRuns0
import Derived.Lib.Bytes
set_option linter.unusedVariables false
set_option linter.unusedSimpArgs false
namespace Go.Proofs.Ytdfpfchkiogkgaa.Own
open Go.RowKit Go.Proofs.YtdfpfchkiogkgaaW.PrintWords Go.Proofs.YtdfpfchkiogkgaaW.PrintMore Go.Proofs.Ytdfpfchkiogkgaa.H

theorem T31 : SlT Try.prog 31 4 (.bool false) 1 1 := SlT.mk' Try.underlying31 (by kernel_rfl) rfl (by decide)
def bools (ws : List Bool) : List Value := ws.map Value.bool

/-- At the head of the law's first loop: i acts were done. -/
def RunsRel (w : World) (len B n : Nat) (d : Nat) (v7 v8 v9 v40 : Value) (wr : World) : Prop :=
  ∃ (i : Nat) (s : St) (own : Nat → Prop) (A : List Int) (ws : List Bool) (js ms : List Nat), v40 = .int .i64 (i : Int) ∧ i + d = len ∧ v8 = .int .i64 (ws.length : Int) ∧ v7 = .string (strOfNums A) ∧
    QRow wr B 4 1 v9 ws.length (bools ws) ∧ (∀ k, v9.ownBlock = some k → ¬ own k) ∧ QS wr B B s own ∧ Run n i s A ws js ms ∧ Below w.heap.size w wr ∧ B < wr.heap.size
theorem RunsRel.mk' {w wr : World} {len B n d i : Nat} {s : St} {own : Nat → Prop} {A : List Int} {ws : List Bool} {js ms : List Nat} {v9 : Value} (h1 : i + d = len) (h2 : QRow wr B 4 1 v9 ws.length (bools ws)) (h3 : ∀ k, v9.ownBlock = some k → ¬ own k) (h4 : QS wr B B s own) (h5 : Run n i s A ws js ms) (h6 : Below w.heap.size w wr) (h7 : B < wr.heap.size) :
    RunsRel w len B n d (.string (strOfNums A)) (.int .i64 (ws.length : Int)) v9 (.int .i64 (i : Int)) wr :=
  ⟨i, s, own, A, ws, js, ms, rfl, h1, rfl, rfl, h2, h3, h4, h5, h6, h7⟩
theorem QS.grown {w0 w : World} {B p : Nat} {s : St} {own : Nat → Prop} (h : QS w B p s own) (hsz : w0.heap.size ≤ w.heap.size) (hB : B ≤ w0.heap.size) : QS w B p s (grow own w0 w) := by
  obtain ⟨hv, lv, vs, h⟩ := h
  exact ⟨hv, lv, vs, h.wide (fun b hb => .inl hb) (fun b hb => by
    rcases hb with hb | hb
    · exact h.lt b hb
    · exact ⟨by omega, hb.2⟩)⟩
theorem tmod4' (k : Int) (h : 0 ≤ k) : (k.tmod 4 = 0 ∨ k.tmod 4 = 1) ∨ k.tmod 4 = 2 ∨ k.tmod 4 = 3 := by
  rw [Int.tmod_eq_emod_of_nonneg h]; omega

theorem Run.small {n i : Nat} {s : St} {A : List Int} {ws : List Bool} {js ms : List Nat} (h : Run n i s A ws js ms) (hi : i ≤ 80) : A.length ≤ 241 := by
  have h1 := congrArg List.length h.went
  simp only [List.length_append, List.length_cons, pkts_len] at h1
  have := h.few; have := h.num; omega
theorem RunsRel.step {w w4 w5 : World} {len B n d i : Nat} {s s' : St} {own : Nat → Prop} {A : List Int} {ws : List Bool} {js ms : List Nat} {v9 : Value} (h1 : i + 1 + d = len) (hq4 : QS w4 B B s own) (hb4 : Below w.heap.size w w4) (hB : w.heap.size ≤ B) (hqw4 : QRow w4 B 4 1 v9 ws.length (bools ws)) (how : ∀ k, v9.ownBlock = some k → ¬ own k)
    (hq5 : QS w5 B B s' (grow own w4 w5)) (hb5 : But own w4 w5) (hr : Run n (i + 1) s' A ws js ms) (hB4 : B < w4.heap.size) :
    RunsRel w len B n d (.string (strOfNums A)) (.int .i64 (ws.length : Int)) v9 (.int .i64 ((i : Int) + 1)) w5 := by
  have h54 := hb5.size
  exact RunsRel.mk' (i := i + 1) h1 (q_but hqw4 hb5 how) (fun k hk ho => by
    have h1 := q_lt hqw4 k hk
    rcases ho with ho | ho
    · exact how k hk ho
    · omega) hq5 hr (hb4.trans (hb5.below hb4.size (fun k hk => by have := hq4.lt k hk; omega))) (by omega)

theorem RunsRel.put {w w4 W w5 w6 : World} {len B n d i : Nat} {s s' : St} {own : Nat → Prop} {A : List Int} {ws : List Bool} {js ms : List Nat} {vw v6 : Value} {x : Bool} {o : Obj} (h1 : i + 1 + d = len) (hq4 : QS w4 B B s own) (hb4 : Below w.heap.size w w4) (hB : w.heap.size ≤ B) (hW : Below w4.heap.size w4 W)
    (how : ∀ k, vw.ownBlock = some k → ¬ own k) (hqw4 : QRow w4 B 4 1 vw ws.length (bools ws)) (hq5 : QS w5 B B s' (grow own W w5)) (hb5 : But own W w5) (hq7 : QRow w6 B 4 1 v6 (ws.length + 1) (bools ws ++ [.bool x])) (hg7 : (w5.alloc o).grownBy w6 vw.ownBlock)
    (hat7 : v6.ownBlock = vw.ownBlock ∨ ∃ b, v6.ownBlock = some b ∧ (w5.alloc o).heap.size ≤ b) (hr : Run n (i + 1) s' A (ws ++ [x]) js ms) (hB4 : B < w4.heap.size) :
    RunsRel w len B n d (.string (strOfNums A)) (.int .i64 ((ws.length : Int) + 1)) v6 (.int .i64 ((i : Int) + 1)) w6 := by
  have h54 := hb5.size
  have h4W := hW.size
  have h65 : w5.heap.size + 1 ≤ w6.heap.size := by have := hg7.size; simpa using this
  have hvw : ∀ k, vw.ownBlock = some k → B ≤ k ∧ k < w4.heap.size := fun k hk => ⟨(q_typed hqw4 k hk).1, q_lt hqw4 k hk⟩
  have hb65 : But (fun b => vw.ownBlock = some b) w5 w6 := (But.alloc (But.refl _ w5) o).grown hg7 (fun k hk => .inr hk)
  have hl : (ws ++ [x]).length = ws.length + 1 := by simp
  have h := RunsRel.mk' (w := w) (wr := w6) (len := len) (B := B) (n := n) (d := d) (i := i + 1) (s := s') (own := grow own W w5) (A := A) (ws := ws ++ [x]) (js := js) (ms := ms) (v9 := v6) h1 (by rw [hl]; simpa [bools] using hq7) (fun k hk ho => ?_) (Q.but hq5 hb65 (fun b h1 h2 => ?_)) hr ?_ (by omega)
  · rw [hl] at h
    simpa using h
  · rcases hat7 with hat | ⟨b, hat, hb⟩
    · rw [hat] at hk
      rcases ho with ho | ho
      · exact how k hk ho
      · have := hvw k hk; omega
    · rw [hat] at hk; simp at hk hb
      rcases ho with ho | ho
      · have := (Q.lt hq4 k ho).2; omega
      · omega
  · rcases h1 with h1 | h1
    · exact how b h2 h1
    · have := hvw b h2; omega
  · have h5 : Below w.heap.size w w5 := (hb4.trans (hW.mono hb4.size)).trans (hb5.below (by have := hb4.size; omega) (fun k hk => by have := Q.lt hq4 k hk; omega))
    exact h5.trans (hb65.below h5.size (fun k hk => by have := hvw k hk; omega))

theorem str_at (xs : List Int) (j : Nat) (x : Int) (h : j < (strOfNums xs).size) (hx : xs[j]? = some x) (hb : 0 ≤ x ∧ x ≤ 255) : (((strOfNums xs)[j]'h).toNat : Int) = x := by
  have hj := (List.getElem?_eq_some_iff.1 hx).1
  have hj2 := (List.getElem?_eq_some_iff.1 hx).2
  have : (strOfNums xs)[j]'h = UInt8.ofNat x.toNat := by
    show (strOfNums xs).data[j] = _
    simp [strOfNums, hj2]
  rw [this]
  simp
  omega
theorem str_some (x : Int) (xs : List Int) : (strOfNums (x :: xs)).toList.isEmpty = false ∧ ¬ (strOfNums (x :: xs)).toList = [] := by
  rw [Lib.strOfNums_toList]
  simp [Lib.bytesOf]
/-- At the head of the law's second loop: so many packets were looked at. -/
def SeenRel (L : List Nat) (w0 : World) (d : Nat) (v13 v14 : Value) (wr : World) : Prop :=
  ∃ t : Nat, v13 = .int .i64 (lst (-2) (L.take t)) ∧ v14 = .int .i64 ((3 * t + 1 : Nat) : Int) ∧ t + d = L.length ∧ w0 = wr
theorem lst_ge (L : List Nat) (last : Int) (h : -2 ≤ last) : -2 ≤ lst last L := by
  induction L generalizing last with
  | nil => exact h
  | cons n r ih => exact ih n (by omega)
theorem take_next {L : List Nat} {t n : Nat} (h : L[t]? = some n) : L.take (t + 1) = L.take t ++ [n] := by
  rw [List.take_add_one, h]; rfl
theorem bools_at {ws : List Bool} {n : Nat} (h : n < ws.length) : ∃ b, (bools ws)[n]? = some (.bool b) ∧ ws[n]? = some b := ⟨ws[n], by simp [bools, h], by simp [h]⟩
attribute [local go_sem] strOfNums_size str_snoc

set_option maxHeartbeats 8000000 in
set_option maxRecDepth 100000 in
theorem runs_c (w : World) (a0 : Int) (h0 : -9223372036854775808 ≤ a0 ∧ a0 ≤ 9223372036854775807) (A : Option Addr) (c0 : Nat) (acs : List Ac) (hlm : acs.length ≤ maxLen) (hwf : ∀ ac ∈ acs, ac.wf) (hca : Came w A acs) (hc0 : acs.length ≤ c0) :
    Calls Try.prog 3 #[.int .i64 a0, .slice A acs.length c0] w fun e w' => e = .returned (.bool true) ∧ Below w.heap.size w w' := by
  have HA := Aside0.mk hca
  have HW := Aside0.mk hwf
  obtain ⟨n, hsz, hn⟩ := size_is a0 h0
  have HS := Aside0.mk hsz
  clear hca hsz h0 hwf
  cases hfit : fitsB acs
  · go_enter Try.func3, Try.ntmps3
    go_wp2_with fail
    refine (lives_c _).mono ?_
    rintro e w1 ⟨rfl, hb1⟩
    go_wp2_with fail
    refine (fits_c w1 A c0 acs hlm HW.out (fun i ac hi => by obtain ⟨ad, Ai, ci, h1, h2⟩ := HA.out i ac hi; exact ⟨ad, Ai, ci, h1, h2.below hb1⟩)).mono ?_
    rintro e w2 ⟨rfl, hb2⟩
    rw [hfit]
    have hb := hb1.trans (hb2.mono hb1.size)
    clear hb1 hb2
    go_wp2_with fail
    refine (lives_c w2).mono ?_
    rintro e w3 ⟨rfl, hb3⟩
    have hb := hb.trans (hb3.mono hb.size)
    clear hb3
    go_wp2_with fail
    exact bodyPost_ret (v := .bool true) (by simp [results, Try.results3, go_sem, *]) rfl ⟨rfl, hb⟩
  · go_enter Try.func3, Try.ntmps3
    go_wp2_with fail
    refine (lives_c _).mono ?_
    rintro e w1 ⟨rfl, hb1⟩
    go_wp2_with fail
    refine (fits_c w1 A c0 acs hlm HW.out (fun i ac hi => by obtain ⟨ad, Ai, ci, h1, h2⟩ := HA.out i ac hi; exact ⟨ad, Ai, ci, h1, h2.below hb1⟩)).mono ?_
    rintro e w2 ⟨rfl, hb2⟩
    rw [hfit]
    have hb := hb1.trans (hb2.mono hb1.size)
    clear hb1 hb2
    have hf100 : acs.length ≤ 80 ∧ ∀ ac ∈ acs, ac.bs.length ≤ 100 := by
      simp [fitsB] at hfit; exact ⟨hfit.2, hfit.1⟩
    have hl80 := hf100.1
    clear hfit hf100
    go_wp2_with fail
    rw [HS.out]
    refine (new_c n (by omega) _).mono ?_
    rintro e w3 ⟨rfl, hq3, hb3⟩
    have hB := hb.size
    have hb := hb.trans (hb3.mono hb.size)
    obtain ⟨B, hBe⟩ : ∃ B, w2.heap.size = B := ⟨_, rfl⟩
    rw [hBe] at hq3 hB ⊢
    have hB3 := (hq3.lt B rfl).2
    have hal := (Below.refl w3.heap.size w3).alloc (Nat.le_refl _) (.cells (u8s [62]).toArray 5)
    have hq3' : QS (w3.alloc (.cells (u8s [62]).toArray 5)) B B ⟨[], [], n, true, 0⟩ (fun b => b = B) := hq3.below hal
    have hb := hb.trans (hal.mono hb.size)
    clear hb3 hq3 hal
    go_wp2_with fail
    refine (say_c hq3' (some ⟨w3.heap.size, 0, none⟩) 1 [62] (lit_new w3 [62] _) (by simp; omega) (by simp)).mono ?_
    rintro e w4 ⟨rfl, hq4, hb4⟩
    have hb := hb.trans (hb4.below hb.size (fun k hk => by omega))
    have hB4 : B < w4.heap.size := by have := hb4.size; simp at this; omega
    clear hb4 hq3' hBe hB3
    have hq4 : QS w4 B B ⟨[62], [], n, true, 0⟩ _ := hq4
    have HAT := Aside0.mk (RunsRel.mk' (w := w) (len := acs.length) (n := n) (d := acs.length) (i := 0) (v9 := .slice none 0 0) (by simp) (q_nil w4 B 4) (fun k hk => by simp [Value.ownBlock] at hk) hq4 (Run.start hn) hb hB4)
    clear hq4 hb hB4
    go_wp2_with fail
    go_loopg [7, 8, 9, 40] acs.length (fun d v7 v8 v9 v40 wr => RunsRel w acs.length B n d v7 v8 v9 v40 wr)
    case atStart => exact HAT.out
    case round =>
      clear HAT
      obtain ⟨i, s, own, O, ws, js, ms, rfl, hi, rfl, rfl, hqw, how, hq, hrun, hb, hBr⟩ := hrel
      obtain ⟨Aw, kw, rfl, hkw⟩ := q_slice hqw
      by_cases hlt : i < acs.length
      · cases gk with
        | zero => omega
        | succ go =>
        obtain ⟨ac, hac⟩ : ∃ ac, acs[i]? = some ac := ⟨acs[i], by simp [hlt]⟩
        obtain ⟨ad, Ai, ci, rfl, hat⟩ := HA.out i ac hac
        obtain ⟨x0, x1, x2, x3, xc, xb⟩ := hat.below hb
        have dlt : decide ((i : Int) < (acs.length : Int)) = true := by simp; omega
        have dlt2 : decide (i < acs.length) = true := decide_eq_true hlt
        have hwk := HW.out ac (List.mem_of_getElem? hac)
        have hal := (Below.refl wr.heap.size wr).alloc (Nat.le_refl _) (.cells #[.int .u8 ac.kind, .bool ac.whole, .int .i64 ac.n, .slice Ai ac.bs.length ci] 34)
        have hbx : Has (wr.alloc (.cells #[.int .u8 ac.kind, .bool ac.whole, .int .i64 ac.n, .slice Ai ac.bs.length ci] 34)) wr.heap.size 34 [.int .u8 ac.kind, .bool ac.whole, .int .i64 ac.n, .slice Ai ac.bs.length ci] := Has.new wr 34 [_, _, _, _]
        have hq4 := hq.below hal
        have hqw4 := q_below hqw hal
        have hb4 := hb.trans (hal.mono hb.size)
        have hTn : ¬ own wr.heap.size := fun h => by have := hq.lt _ h; omega
        have hk4 := tmod4' ac.kind hwk.1.1
        obtain ⟨r, hr⟩ : ∃ r, ac.kind.tmod 4 = r := ⟨_, rfl⟩
        rw [hr] at hk4
        clear hat xb hac hq hqw hb hal
        go_upto_region 13 with (fail)
        obtain ⟨w4, hw4⟩ : ∃ w4, wr.alloc (.cells #[.int .u8 ac.kind, .bool ac.whole, .int .i64 ac.n, .slice Ai ac.bs.length ci] 34) = w4 := ⟨_, rfl⟩
        rw [hw4] at hq4 hqw4 hb4 hbx ⊢
        have hB4 : B < w4.heap.size := by rw [← hw4]; simp; omega
        clear hw4 x0 x1 x2 x3 xc
        obtain ⟨o0, o1, o2, o3, of⟩ := hbx.four
        have HX := Aside0.mk (And.intro hbx hTn)
        have HQ := Aside0.mk (And.intro hq4 (And.intro hb4 (And.intro hqw4 how)))
        have HR := Aside0.mk hrun
        have hnum := hrun.num
        have hO := hrun.small (by omega)
        clear hbx hTn hq4 hb4 hqw4 how hrun
        rcases hk4 with hk4 | rfl | rfl
        · have hu8 : IntKind.u8.wrap (ws.length : Int) = (ws.length : Int) := by rw [IntKind.wrap_u8]; omega
          have hal := (Below.refl w4.heap.size w4).alloc (Nat.le_refl _) (.cells (u8s (pkt ws.length)).toArray 5)
          have hq5 : QS (w4.alloc (.cells (u8s (pkt ws.length)).toArray 5)) B B s own := HQ.out.1.below hal
          have hln := lit_new w4 (pkt ws.length) (0, 0)
          have H5 := Aside0.mk (And.intro hq5 (And.intro hal hln))
          clear hq5 hal hln
          rcases hk4 with rfl | rfl
          all_goals
            go_wp2_with fail
            refine (offer_c H5.out.1 (some ⟨w4.heap.size, 0, none⟩) 3 (pkt ws.length) ac.whole H5.out.2.2 ?ha ?hb ?hc).mono ?_
            case ha => exact fun ad ha ho => by injection ha with ha; subst ha; have := (HQ.out.1.lt _ ho).2; simp at this
            case hb => simp; omega
            case hc => have := HR.out.sound.lost; have := HR.out.sound.len; exact ⟨by simp [pkt], by omega, by omega⟩
            rintro e w5 ⟨rfl, hq6, hb6⟩
            have H6 := Aside0.mk (And.intro hq6 hb6)
            have hs5 : w4.heap.size + 1 ≤ w5.heap.size := by have := hb6.size; simpa using this
            clear hq6 hb6
            go_wp2_with (at_builtin; refine wpList_append_q T31 _ rfl _ _ rfl B (.slice Aw ws.length kw) ws.length (bools ws) rfl ?c0 (some ⟨w5.heap.size, 0, none⟩) 1 1 [.bool ac.whole] rfl ?c1 ?c2 ?c3 ?c4 ?_)
            case c0 => exact q_below (q_but (q_below HQ.out.2.2.1 H5.out.2.1) H6.out.2 HQ.out.2.2.2) ((Below.refl _ w5).alloc (Nat.le_refl _) _)
            case c1 => exact one_new w5 4 _ rfl
            case c2 => unfold maxLen; omega
            case c3 => omega
            case c4 => first | omega | (simp; omega)
            rintro v6 w6 ⟨hq7, hg7, hat7, _⟩
            have H7 := Aside0.mk (And.intro hq7 (And.intro hg7 hat7))
            clear hq7 hg7 hat7
            go_wp2_with fail
            go_roundg go
            case measure => omega
            case rel =>
              obtain ⟨ms', hrn⟩ := HR.out.offer ac.whole
              exact RunsRel.put (d := go) (by omega) HQ.out.1 HQ.out.2.1 hB H5.out.2.1 HQ.out.2.2.2 HQ.out.2.2.1 H6.out.1 H6.out.2 H7.out.1 H7.out.2.1 H7.out.2.2 hrn hB4
        · obtain ⟨K, hK⟩ : ∃ K, ac.n.tmod 20 = K := ⟨_, rfl⟩
          have hKb : K ≤ 19 := by rw [← hK]; have := Int.tmod_lt_of_pos ac.n (show (0 : Int) < 20 by omega); omega
          by_cases hK0 : K ≤ 0
          · have hcv : ∀ w', (convert 32 9 (.slice none 0 0)).run Try.prog w' = .ok (.string (strOfNums [])) w' := fun w' => str_of_q (bs := []) (show QRow w' 0 5 1 (.slice none 0 0) 0 (u8s []) from q_nil w' 0 5)
            have hcv4 := hcv w4
            clear hcv
            go_wp2_with fail
            refine (take_low K hK0 B _).mono ?_
            rintro e w5 ⟨rfl, rfl⟩
            go_wp2_with fail
            go_roundg go
            case measure => omega
            case rel =>
              have hrn := HR.out.same
              have h := RunsRel.step (w := w) (len := acs.length) (w5 := w4) (d := go) (by omega) HQ.out.1 HQ.out.2.1 hB HQ.out.2.2.1 HQ.out.2.2.2 (QS.grown (s := s) HQ.out.1 (Nat.le_refl _) (by omega)) (But.refl _ _) hrn hB4
              simpa using h
          · obtain ⟨N, rfl⟩ : ∃ N : Nat, K = (N : Int) := ⟨K.toNat, by omega⟩
            have hgl : (s.goes N).length ≤ 19 := by have := tk_len s.l s.hd N; have h : (s.goes N).length ≤ N := this; omega
            go_wp2_with fail
            refine (take_c HQ.out.1 N ⟨by omega, by omega⟩ (by omega)).mono ?_
            rintro e w5 ⟨v5, rfl, hv5, hq5, hb5⟩
            obtain ⟨A5, c5, he5, _⟩ := q_slice hv5
            subst he5
            have hcv5 := str_of_q hv5
            have H5 := Aside0.mk (And.intro hq5 hb5)
            clear hv5 hq5 hb5
            go_wp2_with fail
            go_roundg go
            case measure => omega
            case rel =>
              obtain ⟨js', ms', hrn⟩ := HR.out.take N
              exact RunsRel.step (w5 := w5) (d := go) (by omega) HQ.out.1 HQ.out.2.1 hB HQ.out.2.2.1 HQ.out.2.2.2 (QS.grown (s := s.take N) H5.out.1 H5.out.2.size (by omega)) H5.out.2 hrn hB4
        · go_wp2_with fail
          refine (flush_c HQ.out.1 (by have := HR.out.sound.lost; have := HR.out.sound.len; omega)).mono ?_
          rintro e w5 ⟨rfl, hq5, hb5⟩
          go_wp2_with fail
          go_roundg go
          case measure => omega
          case rel =>
            have hq5 : QS w5 B B s.flush own := hq5
            exact RunsRel.step (w5 := w5) (d := go) (by omega) HQ.out.1 HQ.out.2.1 hB HQ.out.2.2.1 HQ.out.2.2.2 (QS.grown (s := s.flush) hq5 hb5.size (by omega)) hb5 HR.out.flush hB4
      · have e1 : decide ((i : Int) < (acs.length : Int)) = false := by simp; omega
        have e2 : decide (i < acs.length) = false := decide_eq_false hlt
        have hlast := hrun.last (by omega)
        have hch := hrun.chain
        have hO := hrun.small (by omega)
        have hL : (js ++ ms).length ≤ 80 := by have := hrun.few; have := hrun.num; simp; omega
        have hws : ws.length ≤ 80 := by have := hrun.num; omega
        have hgo : (s.goes 1048576).length ≤ 241 := by
          have := congrArg List.length hlast
          simp only [List.length_append, List.length_cons, pkts_len] at this hL
          omega
        obtain ⟨L, hLe⟩ : ∃ L, js ++ ms = L := ⟨_, rfl⟩
        rw [hLe] at hlast hch hL
        have HL := Aside0.mk hlast
        have HC := Aside0.mk hch
        have HQ := Aside0.mk (And.intro hq (And.intro hb (And.intro hqw how)))
        clear hlast hch hq hb hqw how hrun hLe
        go_wp2_with fail
        refine (take_c HQ.out.1 1048576 ⟨by omega, by omega⟩ (by omega)).mono ?_
        rintro e w5 ⟨v5, rfl, hv5, hq5, hb5⟩
        obtain ⟨A5, c5, he5, _⟩ := q_slice hv5
        subst he5
        have hcv5 := str_of_q hv5
        have hqw5 := q_but HQ.out.2.2.1 hb5 HQ.out.2.2.2
        have hbe : Below w.heap.size w w5 := HQ.out.2.1.trans (hb5.below HQ.out.2.1.size (fun k hk => by have := HQ.out.1.lt k hk; omega))
        have HBE := Aside0.mk hbe
        have HQW := Aside0.mk hqw5
        clear hv5 hq5 hb5 hqw5 hbe
        go_upto_region 25 with (fail)
        rw [HL.out]
        obtain ⟨M, hM⟩ : ∃ M, M = 3 * L.length + 1 := ⟨_, rfl⟩
        have hbt := str_at (62 :: pkts L)
        have hSz : (strOfNums (62 :: pkts L)).size = M := by rw [strOfNums_size, List.length_cons, pkts_len, hM]
        have hS0 : ∀ h, (((strOfNums (62 :: pkts L))[0]'h).toNat : Int) = 62 := fun h => hbt 0 62 h rfl (by omega)
        have HBT := Aside0.mk hbt
        obtain ⟨S, hS⟩ : ∃ S, strOfNums (62 :: pkts L) = S := ⟨_, rfl⟩
        have hS1 := str_some 62 (pkts L)
        rw [hS] at HBT hSz hS0 hS1 ⊢
        obtain ⟨hS1, hS2⟩ := hS1
        have HM := Aside0.mk hM
        have hM3 : (M : Int) % 3 = 1 := by omega
        have hM3' : (M : Int).tmod 3 = 1 := by rw [Int.tmod_eq_emod_of_nonneg (by omega)]; exact hM3
        have hM0 : 0 < M := by omega
        have hM1 : M ≤ 241 := by omega
        clear HL hcv5 hgo hO hbt hS hM
        go_wp2_with fail
        clear hS0 hS1 hS2 hM3 hM3'
        have HZ := Aside0.mk (⟨0, rfl, rfl, by simp, rfl⟩ : SeenRel L w5 L.length (.int .i64 (-2)) (.int .i64 1) w5)
        go_loopg [13, 14] L.length (fun d v13 v14 wr => SeenRel L w5 d v13 v14 wr)
        case atStart => exact HZ.out
        case round =>
          clear HZ
          obtain ⟨t, rfl, rfl, ht, rfl⟩ := hrel
          by_cases hlt4 : t < L.length
          · cases gk with
            | zero => omega
            | succ gt =>
            obtain ⟨x, hx⟩ : ∃ x, L[t]? = some x := ⟨L[t], by simp [hlt4]⟩
            obtain ⟨k1, k2, k3⟩ := HC.out.at t x hx
            obtain ⟨z1, z2, z3⟩ := pkts_at L t x hx
            obtain ⟨b, hb1, hb2⟩ := bools_at k2
            have htk := take_next hx
            have hnl : lst (-2) (L.take (t + 1)) = (x : Int) := by rw [htk, lst_snoc]
            have HNL := Aside0.mk hnl
            obtain ⟨p, hp⟩ : ∃ p, p = 3 * t + 1 := ⟨_, rfl⟩
            have q1 : ∀ h, ((S[p]'h).toNat : Int) = 91 := fun h => HBT.out p 91 h (by rw [hp, List.getElem?_cons_succ]; exact z1) (by omega)
            have q2 : ∀ h, ((S[p + 1]'h).toNat : Int) = (x : Int) := fun h => HBT.out (p + 1) x h (by rw [List.getElem?_cons_succ, hp]; exact z2) (by omega)
            have q3 : ∀ h, ((S[p + 2]'h).toNat : Int) = 93 := fun h => HBT.out (p + 2) 93 h (by rw [List.getElem?_cons_succ, hp]; exact z3) (by omega)
            have hpM : p + 2 < M := by have := HM.out; omega
            have HP := Aside0.mk hp
            rw [← hp]
            obtain ⟨la, hla⟩ : ∃ la, lst (-2) (L.take t) = la := ⟨_, rfl⟩
            have hlg := lst_ge (L.take t) (-2) (by omega)
            rw [hla] at k1 k3 hlg ⊢
            have f1 : decide ((p : Int) < (M : Int)) = true := by simp; omega
            have f2 : decide (p < M) = true := by simp; omega
            clear hp hla hnl htk hx z1 z2 z3
            have g1 : decide ((x : Int) ≤ la) = false := decide_eq_false (by omega)
            have g2 : decide ((ws.length : Int) ≤ (x : Int)) = false := decide_eq_false (by omega)
            have g3 : decide (ws.length ≤ x) = false := decide_eq_false (by omega)
            by_cases he : (x : Int) = la + 1
            · have fe : ((x : Int) != la + 1) = false := by simp [he]
              have HE := Aside0.mk he
              clear he k3
              go_wp2_with fail
              go_roundg gt
              case measure => omega
              case rel => exact ⟨t + 1, by rw [HNL.out], by have := HP.out; congr 1; omega, by omega, rfl⟩
            · have fe : ((x : Int) != la + 1) = true := by simp [he]
              have hbt : b = true := by
                rcases k3 with k3 | k3
                · exact absurd k3 he
                · rw [hb2] at k3; exact Option.some.inj k3
              subst hbt
              obtain ⟨g, o, rfl, _, hcell, _, _⟩ := q_open HQW.out (by omega)
              have hc := (hcell x k2).trans hb1
              have hxi : (0 : Int) ≤ (x : Int) := by omega
              have hxi2 : (x : Int) < (ws.length : Int) := by omega
              clear he k3 hb1 hb2 hcell
              go_wp2_with fail
              go_roundg gt
              case measure => omega
              case rel => exact ⟨t + 1, by rw [HNL.out], by have := HP.out; congr 1; omega, by omega, rfl⟩
          · have f1 : decide (((3 * t + 1 : Nat) : Int) < (M : Int)) = false := by have := HM.out; exact decide_eq_false (by omega)
            have f2 : decide (3 * t + 1 < M) = false := by have := HM.out; exact decide_eq_false (by omega)
            obtain ⟨p, hp⟩ : ∃ p, p = 3 * t + 1 := ⟨_, rfl⟩
            rw [← hp] at f1 f2 ⊢
            clear hp
            go_wp2_with fail
            refine bodyPost_ret (v := .bool true) (by simp [results, Try.results3, go_sem, *]) rfl ⟨rfl, HBE.out⟩
end Go.Proofs.Ytdfpfchkiogkgaa.Own
