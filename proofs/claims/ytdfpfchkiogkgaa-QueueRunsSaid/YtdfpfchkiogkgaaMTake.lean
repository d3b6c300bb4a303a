/-
  The law's model: its function take by its contract.
-/
import Derived.Test.YtdfpfchkiogkgaaMOffer
set_option linter.unusedVariables false
set_option linter.unusedSimpArgs false
namespace Go.Proofs.Ytdfpfchkiogkgaa.Own
open Go.RowKit Go.Proofs.YtdfpfchkiogkgaaW.PrintWords Go.Proofs.YtdfpfchkiogkgaaW.PrintMore Go.Proofs.Ytdfpfchkiogkgaa.H

theorem str_snoc (a b : List Int) : strOfNums a ++ strOfNums b = strOfNums (a ++ b) := by
  apply ByteArray.ext
  simp [strOfNums]
theorem str_nil : strOfNums [] = ⟨#[]⟩ := rfl

theorem C_of_news {w : World} {A : Option Addr} {n : Nat} {xs : List Int} (h : News w 1 A n (u8s xs)) (hm : n ≤ 9223372036854775807) : Kd.C (Kd.int .u8) w A n xs := by
  have hl : xs.length = n := by have := h.1; simpa [u8s] using this
  refine ⟨hl, hm, fun hn => ?_⟩
  obtain ⟨ad, hA, hc⟩ := h.2.2 hn
  refine ⟨ad, hA, fun j p hj => ⟨[.int .u8 p], rfl, rfl, fun i u hu => ?_⟩⟩
  have hi : i = 0 := by
    have := (List.getElem?_eq_some_iff.1 hu).1
    simpa using this
  subst hi
  have := hc j (.int .u8 p) (by simp [u8s, hj])
  show w.cell? (ad.add (j * 1 + 0)) = _
  rw [show j * 1 + 0 = j by omega, this]; simpa using hu
theorem str_of_news {w : World} {A : Option Addr} {n c : Nat} {bs : List Int} (h : News w 1 A n (u8s bs)) (hm : n ≤ 9223372036854775807) : (convert 32 9 (.slice A n c)).run Try.prog w = .ok (.string (strOfNums bs)) w :=
  Kd.C_string Try.underlying32 Try.underlying5 Try.underlying9 (C_of_news h hm)
theorem News.one {w : World} {A : Option Addr} {n : Nat} {x : Int} {r : List Int} (h : News w 1 A n (u8s (x :: r))) : News w 1 A 1 (u8s [x]) := by
  have hl : n = r.length + 1 := by have := h.1; simpa [u8s] using this.symm
  refine ⟨rfl, fun u hu => h.2.1 u (by simp [u8s] at hu ⊢; exact .inl hu), fun _ => ?_⟩
  obtain ⟨ad, hA, hc⟩ := h.2.2 (by omega)
  refine ⟨ad, hA, fun j u hu => hc j u ?_⟩
  have hj : j = 0 := by have := (List.getElem?_eq_some_iff.1 hu).1; simpa [u8s] using this
  subst hj
  simpa [u8s] using hu

section
variable {mo : Nat → Prop} {w : World} {B m : Nat} {s : St} {hv lv : Value} {vs : List Value}
/-- The bytes ahead have become fewer: one went. -/
theorem MAt.headed {x : Int} {r : List Int} {A : Option Addr} {c : Nat} (h : MAt w B m s mo (.slice A s.hd.length c) lv vs) (hs : s.hd = x :: r) :
    MAt (w.setCell ⟨m, 0, none⟩ (.slice (if c = 1 then A else A.map (·.add 1)) (s.hd.length - 1) (c - 1))) B m { s with hd := r } mo (.slice (if c = 1 then A else A.map (·.add 1)) (s.hd.length - 1) (c - 1)) lv vs := by
  have mv : ∀ (u : Value) (k : Nat), k < w.heap.size → (k < B ∨ mo k) → k ≠ m → lv.ownBlock ≠ some k → (w.setCell ⟨m, 0, none⟩ u).heap[k]? = w.heap[k]? := fun u k hk _ h1 _ => Below.heap_setCell w _ _ k h1
  refine ⟨h.hp.set 0 _, Rd.move ?_ (mv _), q_far h.lq h.lne _, fun i v bs hi hbs => (h.pk i v bs hi hbs).move (mv _), h.op, h.ol, fun b hb => by have := h.lt b hb; simpa using this⟩
  obtain ⟨A', c', e, hc, hn, ha⟩ := h.hh
  injection e with e1 e2 e3
  subst e1; subst e3
  show Rd w B m mo lv _ r
  rw [hs] at hn ha hc ⊢
  obtain ⟨ad, rfl, hcell⟩ := hn.2.2 (by simp)
  have hlen : (x :: r).length - 1 = r.length := by simp
  rw [hlen]
  refine ⟨_, _, rfl, by simp at hc; omega, ⟨by simp [u8s], fun u hu => hn.2.1 u (by simp [u8s] at hu ⊢; exact .inr hu), fun h0 => ?_⟩, fun h0 ad' hA => ?_⟩
  · have hc1 : ¬ c = 1 := by simp at hc; omega
    rw [if_neg hc1]
    refine ⟨ad.add 1, rfl, fun j u hu => ?_⟩
    have := hcell (j + 1) u (by simpa [u8s] using hu)
    rw [Addr.add_add, Nat.add_comm]; exact this
  · have hc1 : ¬ c = 1 := by simp at hc; omega
    rw [if_neg hc1] at hA
    obtain rfl := Option.some.inj hA
    simpa [addr_block] using ha (by simp) ad rfl
/-- The next packet is begun. -/
theorem MAt.nexted {b : List Int} {l : List (List Int)} {v lv' : Value} (h : MAt w B m s mo hv lv (v :: vs)) (hs : s.l = b :: l) (hq : QRow w B 32 1 lv' l.length vs) (ho : ∀ k, lv'.ownBlock = some k → lv.ownBlock = some k) :
    MAt ((w.setCell ⟨m, 0, none⟩ v).setCell ⟨m, 1, none⟩ lv') B m { s with hd := b, l := l } mo v lv' vs := by
  have mv : ∀ k, k < w.heap.size → (k < B ∨ mo k) → k ≠ m → lv.ownBlock ≠ some k → ((w.setCell ⟨m, 0, none⟩ v).setCell ⟨m, 1, none⟩ lv').heap[k]? = w.heap[k]? := fun k hk _ h1 _ => by rw [Below.heap_setCell _ _ _ k h1, Below.heap_setCell _ _ _ k h1]
  have has : ∀ {u : Value} {bs : List Int}, Rd w B m mo lv u bs → Rd ((w.setCell ⟨m, 0, none⟩ v).setCell ⟨m, 1, none⟩ lv') B m mo lv' u bs := fun hr => (hr.move mv).as (fun _ h => h) (fun k _ _ h1 h2 => h1 (ho k h2))
  refine ⟨(h.hp.set 0 _).set 1 _, has (h.pk 0 v b rfl (by rw [hs]; rfl)), q_far (q_far hq (fun k hk => h.lne k (ho k hk)) _) (fun k hk => h.lne k (ho k hk)) _, fun i u bs hi hbs => ?_, h.op, fun k hk => h.ol k (ho k hk), fun b hb => by have := h.lt b hb; simpa using this⟩
  exact has (h.pk (i + 1) u bs (by simpa using hi) (by rw [hs]; simpa using hbs))
end

/-- n bytes are taken: so many have gone as 'out' holds. -/
def MTk (w : World) (B m : Nat) (s : St) (mo : Nat → Prop) (n : Nat) (out hd : List Int) (l : List (List Int)) (wr : World) (hv lv : Value) (vs : List Value) : Prop :=
  MAt wr B m { s with hd := hd, l := l } mo hv lv vs ∧ But mo w wr ∧ out.length ≤ n ∧ wr.heap.size = w.heap.size ∧ tk s.l s.hd n = (out ++ (tk l hd (n - out.length)).1, (tk l hd (n - out.length)).2)
def MTakeRel (w : World) (B m : Nat) (s : St) (mo : Nat → Prop) (n : Nat) (d : Nat) (v : Value) (wr : World) : Prop :=
  ∃ (out hd : List Int) (l : List (List Int)) (hv lv : Value) (vs : List Value), v = .string (strOfNums out) ∧ MTk w B m s mo n out hd l wr hv lv vs ∧ n - out.length = d
def MNextRel (w : World) (B m : Nat) (s : St) (mo : Nat → Prop) (n : Nat) (out : List Int) (d : Nat) (wr : World) : Prop :=
  ∃ (hd : List Int) (l : List (List Int)) (hv lv : Value) (vs : List Value), MTk w B m s mo n out hd l wr hv lv vs ∧ l.length = d

/-- What a take from the model leaves. -/
def MTakePost (w : World) (B m : Nat) (s : St) (mo : Nat → Prop) (n : Nat) (e : Ending) (w' : World) : Prop :=
  e = .returned (.string (strOfNums (s.goes n))) ∧ MS w' B m (s.take n) mo ∧ But mo w w' ∧ w'.heap.size = w.heap.size

theorem mtake_low (n : Int) (hn : n ≤ 0) (m : Nat) (w : World) : Calls Try.prog 14 #[.pointer (some ⟨m, 0, none⟩), .int .i64 n] w (Quiet (.string ⟨#[]⟩) w) := by
  have d1 : decide (0 < n) = false := decide_eq_false (by omega)
  go_enter Try.func14, Try.ntmps14
  go_wp2_with fail
  go_loopg [5] 0 (fun d v wr => v = .string ⟨#[]⟩ ∧ w = wr)
  case atStart => exact ⟨rfl, rfl⟩
  case round =>
    obtain ⟨rfl, rfl⟩ := hrel
    go_wp2_with fail
    exact bodyPost_ret (v := .string ⟨#[]⟩) (by simp [results, Try.results14, go_sem, *]) rfl ⟨rfl, rfl⟩

attribute [local go_sem] strOfNums_size str_snoc

set_option maxHeartbeats 16000000 in
theorem mtake_c {w : World} {B m : Nat} {s : St} {mo : Nat → Prop} (h : MS w B m s mo) (n : Nat) (hn : 0 < n ∧ n ≤ 1048576) :
    Calls Try.prog 14 #[.pointer (some ⟨m, 0, none⟩), .int .i64 (n : Int)] w (MTakePost w B m s mo n) := by
  obtain ⟨hv, lv, vs, h⟩ := h
  have HST := Aside0.mk (⟨[], s.hd, s.l, hv, lv, vs, rfl, ⟨h, But.refl _ _, by simp, rfl, by simp⟩, by simp⟩ : MTakeRel w B m s mo n n (.string (strOfNums [])) w)
  clear h
  go_enter Try.func14, Try.ntmps14
  go_wp2_with fail
  go_loopg [5] n (fun d v wr => MTakeRel w B m s mo n d v wr)
  case atStart => exact HST.out
  case round =>
    clear HST
    obtain ⟨out, hd, l, hv, lv, vs, rfl, h, hd1⟩ := hrel
    by_cases hlt : out.length < n
    · have e1 : decide ((out.length : Int) < (n : Int)) = true := by simp; omega
      have e2 : decide (out.length < n) = true := decide_eq_true hlt
      have HN := Aside0.mk (⟨hd, l, hv, lv, vs, h, rfl⟩ : MNextRel w B m s mo n out l.length wr)
      clear h
      cases gk with
      | zero => omega
      | succ go =>
      go_wp2_with fail
      go_loopg [] l.length (fun d wr => MNextRel w B m s mo n out d wr)
      case atStart => exact HN.out
      case round =>
        clear HN
        obtain ⟨hd, l, hv, lv, vs, ⟨h, hbut, hle, hsz, htk⟩, hd2⟩ := hrel
        obtain ⟨Ah, ch, hhv, hch, hnews, _⟩ := h.hh
        dsimp only at hhv hch hnews
        subst hhv
        obtain ⟨Al, kl, hlv, hkl⟩ := q_slice h.lq
        dsimp only at hlv hkl
        subst hlv
        have hp : Has wr m 41 [.slice Ah hd.length ch, .slice Al l.length kl, .int .i64 (s.most : Int), .bool s.drops, .int .i64 (s.lost : Int)] := h.hp
        obtain ⟨c0, c1, c2, c3, c4, cf⟩ := hp.five
        have H := Aside0.mk (And.intro h (And.intro hbut (And.intro hsz htk)))
        have HNW := Aside0.mk hnews
        clear h hbut hsz htk hnews hp
        by_cases hh : hd.length = 0
        · have e3 : ((hd.length : Int) == 0) = true := by simp [hh]
          have hh0 : hd = [] := List.eq_nil_of_length_eq_zero hh
          by_cases hll : l.length = 0
          · have e4 : decide (0 < (l.length : Int)) = false := decide_eq_false (by omega)
            have e5 : decide (0 < l.length) = false := decide_eq_false (by omega)
            have hl0 : l = [] := List.eq_nil_of_length_eq_zero hll
            obtain ⟨g1, g2⟩ := take_end (hd := hd) (l := l) H.out.2.2.2 (by rw [hl0, hh0]; exact tk_none _)
            clear hl0 hh0
            go_wp2_with fail
            refine bodyPost_ret (v := .string (strOfNums out)) (by simp [results, Try.results14, go_sem, *]) rfl ⟨by rw [g1], ?_, H.out.2.1, H.out.2.2.1⟩
            rw [g2]; exact ⟨_, _, _, H.out.1⟩
          · have e4 : decide (0 < (l.length : Int)) = true := by simp; omega
            have e5 : decide (0 < l.length) = true := by simp; omega
            obtain ⟨b, r, rfl⟩ : ∃ b r, l = b :: r := by cases l with | nil => simp at hll | cons b r => exact ⟨b, r, rfl⟩
            obtain ⟨v0, vr, rfl⟩ : ∃ v0 vr, vs = v0 :: vr := by
              have := H.out.1.vlen
              cases vs with
              | nil => simp at this
              | cons v0 vr => exact ⟨v0, vr, rfl⟩
            obtain ⟨g, o, rfl, _, hcl, _, _⟩ := q_open H.out.1.lq (by simp)
            have x0 := (hcl 0 (by simp)).trans (show _ = some v0 from rfl)
            rw [Nat.add_zero] at x0
            obtain ⟨Av, cv, rfl, _⟩ := H.out.1.pk 0 v0 b rfl rfl
            have hqd := q_drop H.out.1.lq (k := 1) (by simp)
            have HQD := Aside0.mk hqd
            clear hcl hqd
            rw [List.length_cons] at c1 hd2 e4 e5 hkl
            subst hh0
            have htn := H.out.2.2.2
            rw [tk_next _ _ _ (by omega)] at htn
            have HTN := Aside0.mk htn
            clear htn
            cases gk with
            | zero => omega
            | succ gn =>
            have HD2 := Aside0.mk (show r.length = gn by omega)
            clear hd2
            by_cases hk1 : kl = 1
            · subst hk1
              have hr0 : r = [] := List.eq_nil_of_length_eq_zero (by omega)
              have hgn : gn = 0 := by have := HD2.out; rw [hr0] at this; simpa using this.symm
              clear HD2
              subst hr0
              have hv0 : vr = [] := List.eq_nil_of_length_eq_zero (by simpa using H.out.1.vlen)
              subst hv0
              have hq1 : QRow wr B 32 1 (.slice (some ⟨g, o, none⟩) 0 0 ) 0 [] := by simpa using HQD.out
              have HX := Aside0.mk (And.intro (H.out.1.nexted (l := []) rfl hq1 (fun k hk => by simpa [Value.ownBlock] using hk)) ((H.out.2.1.set (p := ⟨m, 0, none⟩) (.inr H.out.1.op) (.slice Av b.length cv)).set (p := ⟨m, 1, none⟩) (.inr H.out.1.op) (.slice (some ⟨g, o, none⟩) 0 0)))
              clear hq1
              go_wp2_with fail
              go_region
              go_wp2_with fail
              go_roundg gn
              case measure => omega
              case rel =>
                exact ⟨b, [], _, _, _, ⟨HX.out.1.below (Below.refl _ _).drew, HX.out.2.drew, hle, by simp [H.out.2.2.1], HTN.out⟩, by simp [hgn]⟩
            · have hq1 : QRow wr B 32 1 (.slice (some ⟨g, o + 1, none⟩) r.length (kl - 1)) r.length vr := by simpa [hk1, add_at] using HQD.out
              have HX := Aside0.mk (And.intro (H.out.1.nexted (l := r) rfl hq1 (fun k hk => by simpa [Value.ownBlock] using hk)) ((H.out.2.1.set (p := ⟨m, 0, none⟩) (.inr H.out.1.op) (.slice Av b.length cv)).set (p := ⟨m, 1, none⟩) (.inr H.out.1.op) (.slice (some ⟨g, o + 1, none⟩) r.length (kl - 1))))
              clear hq1
              go_wp2_with fail
              go_region
              go_wp2_with fail
              go_roundg gn
              case measure => have := HD2.out; omega
              case rel =>
                exact ⟨b, r, _, _, _, ⟨HX.out.1.below (Below.refl _ _).drew, HX.out.2.drew, hle, by simp [H.out.2.2.1], HTN.out⟩, HD2.out⟩
        · have e3 : ((hd.length : Int) == 0) = false := by rw [beq_eq_false_iff_ne]; omega
          obtain ⟨x, r, rfl⟩ : ∃ x r, hd = x :: r := by cases hd with | nil => simp at hh | cons x r => exact ⟨x, r, rfl⟩
          have hcv := str_of_news (c := ch) (News.one HNW.out) (by omega)
          have hc1 : 1 ≤ ch := by simp at hch; omega
          have hr1 : 1 ≤ (x :: r).length := by simp
          have hhd := H.out.1.headed (x := x) (r := r) rfl
          dsimp only at hhd
          have hl1 : (x :: r).length - 1 = r.length := by simp
          rw [hl1] at hhd
          have hbt := H.out.2.1.set (p := ⟨m, 0, none⟩) (.inr H.out.1.op)
          have hHD := Aside0.mk hhd
          have hBT := Aside0.mk hbt
          clear hhd hl1 hbt
          have hol : (out ++ [x]).length = out.length + 1 := by simp
          have hchunk := tk_chunk l (x :: r) (n - out.length) 1 (by simp) (by omega)
          have htk := H.out.2.2.2
          rw [hchunk] at htk
          have HTK := Aside0.mk htk
          clear hchunk htk
          have HOL := Aside0.mk hol
          clear hol
          by_cases hk1 : ch = 1
          · subst hk1
            rw [if_pos rfl] at hHD
            go_wp2_with fail
            go_roundg go
            case measure => omega
            case rel =>
              refine ⟨out ++ [x], r, l, _, _, vs, rfl, ⟨hHD.out, hBT.out _, by rw [HOL.out]; omega, by simp [H.out.2.2.1], ?_⟩, by rw [HOL.out]; omega⟩
              rw [HTK.out, HOL.out, Nat.sub_sub]; simp
          · rw [if_neg hk1] at hHD
            go_wp2_with fail
            go_roundg go
            case measure => omega
            case rel =>
              refine ⟨out ++ [x], r, l, _, _, vs, rfl, ⟨hHD.out, hBT.out _, by rw [HOL.out]; omega, by simp [H.out.2.2.1], ?_⟩, by rw [HOL.out]; omega⟩
              rw [HTK.out, HOL.out, Nat.sub_sub]; simp
    · have e1 : decide ((out.length : Int) < (n : Int)) = false := by simp; omega
      have e2 : decide (out.length < n) = false := decide_eq_false hlt
      have H := Aside0.mk h
      clear h
      obtain ⟨g1, g2⟩ := take_end (hd := hd) (l := l) H.out.2.2.2.2 (by rw [show n - out.length = 0 by omega]; exact tk_zero _ _)
      go_wp2_with fail
      refine bodyPost_ret (v := .string (strOfNums out)) (by simp [results, Try.results14, go_sem, *]) rfl ⟨by rw [g1], ?_, H.out.2.1, H.out.2.2.2.1⟩
      rw [g2]; exact ⟨_, _, _, H.out.1⟩
end Go.Proofs.Ytdfpfchkiogkgaa.Own
