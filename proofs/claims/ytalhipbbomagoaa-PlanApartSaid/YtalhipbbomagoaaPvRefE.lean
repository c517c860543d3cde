/- The document's plan: its walk. No statement of the set is proved in this text. -/
import Derived.Test.YtalhipbbomagoaaPvRefD
namespace Go.Proofs.Ytalhipbbomagoaa.PvW
open Go.RowKit Go.Proofs.Ytalhipbbomagoaa.Cd Go.Proofs.Ytalhipbbomagoaa.AbP Go.Proofs.Ytalhipbbomagoaa.Num Go.Proofs.Ytalhipbbomagoaa.Pv
set_option maxRecDepth 100000
set_option maxHeartbeats 4000000
set_option linter.unusedVariables false
set_option linter.unusedSimpArgs false
def rpl0 (w : Bool) (segs : List dSeg.T) : Int := (hsz w + psz w * segs.length) % 18446744073709551616
def rplA (w : Bool) (segs : List dSeg.T) : List Int × Int := segs.foldl rst1 ([], rpl0 w segs)
def rplB (w : Bool) (segs : List dSeg.T) : List Int × Int := segs.foldl (rst2 (rplA w segs).1) ([], (rplA w segs).2)
def rplC (w : Bool) (segs : List dSeg.T) (secs : List dSec.T) : List Int × Int := secs.foldl (rst3 (rplB w segs).1) ([], (rplB w segs).2)
def rplE (w : Bool) (segs : List dSeg.T) (secs : List dSec.T) : Int := if secs.length = 0 then (rplC w segs secs).2 else (nextI (rplC w segs secs).2 0 8 + ssz w * (secs.length + 1)) % 18446744073709551616
def rplS (w : Bool) (segs : List dSeg.T) (secs : List dSec.T) : Int := if secs.length = 0 then 0 else nextI (rplC w segs secs).2 0 8
theorem plan_rel {w : Bool} {en st : Int} {segs : List dSeg.T} {secs : List dSec.T} (ok : ModelOk w en segs secs st) (hG : SegsN segs) (hN : SecsN secs) :
    ((planV w segs secs).ov = true → 65536 < rplE w segs secs) ∧ ((planV w segs secs).ov = false → rplE w segs secs = (planV w segs secs).sz ∧ rplE w segs secs ≤ 65536 ∧ (rplB w segs).1 = (planV w segs secs).S ∧ (rplC w segs secs).1 = (planV w segs secs).T ∧ rplS w segs secs = (planV w segs secs).sh) := by
  have hnp : 0 ≤ psz w * (segs.length : Int) ∧ psz w * (segs.length : Int) ≤ 896 := by have := ok.l16; cases w <;> simp only [psz, Bool.false_eq_true, ↓reduceIte] <;> omega
  have hns : 0 ≤ ssz w * ((secs.length : Int) + 1) ∧ ssz w * ((secs.length : Int) + 1) ≤ 4160 := by have := ok.l64; cases w <;> simp only [ssz, Bool.false_eq_true, ↓reduceIte] <;> omega
  have hh : hsz w = 64 ∨ hsz w = 52 := by cases w <;> simp [hsz]
  have r0 : PRel (hsz w, false) (hsz w) := ⟨fun _ => ⟨rfl, by show 0 ≤ hsz w; omega, by show hsz w ≤ 65536; omega⟩, fun h => by cases h⟩
  have rA0 : PRel (pla0 w segs) (rpl0 w segs) := by
    unfold pla0 rpl0
    by_cases h : segs.length = 0
    · rw [if_pos h]
      have e : (hsz w + psz w * (segs.length : Int)) % 18446744073709551616 = hsz w := by
        rw [h]
        simp only [Int.natCast_zero, Int.mul_zero, Int.add_zero]
        omega
      rw [e]
      exact r0
    · rw [if_neg h]
      have e : nextI (hsz w) 0 1 = hsz w := by unfold nextI; rw [if_neg (by omega), if_pos (by omega)]
      have := (lay_rel (n := segs.length * psz w) (v := 0) (al := 1) r0 (by omega) (by omega) rfl (by rw [Int.mul_comm]; omega)).1
      rw [e, Int.mul_comm (segs.length : Int) (psz w)] at this
      rw [Int.mul_comm (segs.length : Int) (psz w)]
      exact this
  have qA : QRel (pla0 w segs) (plaA w segs) (rplA w segs) := by
    refine fold_rel segs (fun c r s hs hQ => ?_) _ _ ⟨rA0, fun h => ⟨h, rfl⟩⟩
    have hz := segC_zero (ok.seg s hs)
    have hs0 := hG s hs
    unfold st1 rst1
    by_cases h1 : @Eq Int s.1 1
    · rw [if_pos h1, if_pos h1]
      have ho := (place_own (by have h := hz.2.1; rw [(hz.2.2 h1).1] at h; exact h)).2
      have how := hs0.ow
      exact lay_rel' hQ hs0.va hs0.al ((andI_pow hs0.al).1 hz.1) ⟨hs0.sz.1, by omega⟩
    · rw [if_neg h1, if_neg h1]
      exact ⟨hQ.1, fun h => ⟨(hQ.2 h).1, by show c.1 ++ [0] = r.1 ++ [0]; rw [(hQ.2 h).2]⟩⟩
  have qB : QRel (plaA w segs).2 (plaB w segs) (rplB w segs) := by
    refine fold_rel segs (fun c r s hs hQ => ?_) _ _ ⟨qA.1, fun h => ⟨h, rfl⟩⟩
    have hz := segC_zero (ok.seg s hs)
    have hs0 := hG s hs
    have hAA : c.2.2 = false → (plaA w segs).1 = (rplA w segs).1 := fun h => (qA.2 (hQ.2 h).1).2
    by_cases h4 : @Eq Int s.2.2.2.2.2.2.1.1 (-1)
    rotate_left
    · unfold st2 rst2
      rw [if_pos h4, if_pos h4]
      exact ⟨hQ.1, fun h => ⟨(hQ.2 h).1, by show c.1 ++ _ = r.1 ++ _; rw [(hQ.2 h).2, hAA h]⟩⟩
    by_cases h1 : @Eq Int s.1 1
    rotate_left
    · have e1 : st2 (plaA w segs).1 c s = (c.1 ++ [layR c.2 0 8], layS c.2 s.2.2.2.2.2.2.1.2.2.1 0 8) := (if_neg (fun h => h h4)).trans (if_pos h1)
      have e2 : rst2 (rplA w segs).1 r s = (r.1 ++ [nextI r.2 0 8], (nextI r.2 0 8 + s.2.2.2.2.2.2.1.2.2.1) % 18446744073709551616) := (if_neg (fun h => h h4)).trans (if_pos h1)
      rw [e1, e2]
      have ho := (place_own (by have h := hz.2.1; rw [h4] at h; exact h)).2
      have how := hs0.ow
      exact lay_rel' hQ (by omega) (by omega) pow8 ⟨hs0.sz.1, by omega⟩
    · have e1 : st2 (plaA w segs).1 c s = (c.1 ++ [(plaA w segs).1.getD c.1.length 0], c.2) := (if_neg (fun h => h h4)).trans (if_neg (fun h => h h1))
      have e2 : rst2 (rplA w segs).1 r s = (r.1 ++ [(rplA w segs).1.getD r.1.length 0], r.2) := (if_neg (fun h => h h4)).trans (if_neg (fun h => h h1))
      rw [e1, e2]
      exact ⟨hQ.1, fun h => ⟨(hQ.2 h).1, by show c.1 ++ _ = r.1 ++ _; rw [(hQ.2 h).2, hAA h]⟩⟩
  have qC : QRel (plaB w segs).2 (plaC w segs secs) (rplC w segs secs) := by
    refine fold_rel secs (fun c r s hs hQ => ?_) _ _ ⟨qB.1, fun h => ⟨h, rfl⟩⟩
    have hz := secC_zero (ok.sec s hs)
    have hs0 := hN s hs
    have hBB : c.2.2 = false → (plaB w segs).1 = (rplB w segs).1 := fun h => (qB.2 (hQ.2 h).1).2
    unfold st3 rst3
    by_cases h4 : @Eq Int s.2.2.2.2.2.2.2.2.2.1.1 (-1)
    rotate_left
    · rw [if_pos h4, if_pos h4]
      exact ⟨hQ.1, fun h => ⟨(hQ.2 h).1, by show c.1 ++ _ = r.1 ++ _; rw [(hQ.2 h).2, hBB h]⟩⟩
    rw [if_neg (fun h => h h4), if_neg (fun h => h h4)]
    have ho := (place_own (by have h := hz.1; rw [h4] at h; exact h)).2
    have how := hs0.ow
    exact lay_rel' hQ (by omega) (by omega) pow8 ⟨hs0.sz.1, by omega⟩
  have qE : PRel (plaE w segs secs) (rplE w segs secs) ∧ ((plaE w segs secs).2 = false → (plaC w segs secs).2.2 = false ∧ rplS w segs secs = (planV w segs secs).sh) := by
    have hsh : (planV w segs secs).sh = if secs.length = 0 then 0 else layR (plaC w segs secs).2 0 8 := rfl
    rw [hsh]
    unfold plaE rplE rplS
    by_cases h : secs.length = 0
    · rw [if_pos h, if_pos h, if_pos h, if_pos h]
      exact ⟨qC.1, fun h => ⟨h, rfl⟩⟩
    · rw [if_neg h, if_neg h, if_neg h, if_neg h]
      have := lay_rel (n := ssz w * (secs.length + 1)) (v := 0) (al := 8) qC.1 (by omega) (by omega) pow8 (by omega)
      rw [Int.mul_comm ((secs.length : Int) + 1) (ssz w)]
      exact this
  refine ⟨fun h => (qE.1.2 h).1, fun h => ?_⟩
  obtain ⟨g1, g2⟩ := qE.2 h
  obtain ⟨g3, g4⟩ := qC.2 g1
  obtain ⟨g5, g6⟩ := qB.2 g3
  obtain ⟨g7, g8, g9⟩ := qE.1.1 h
  exact ⟨g7, by omega, g6.symm, g4.symm, g2⟩
theorem rb_keeps {A : List Int} {segs : List dSeg.T} {p : Int} {j : Nat} {s : dSeg.T} (hs : segs[j]? = some s) (h1 : @Eq Int s.1 1) (h2 : @Eq Int s.2.2.2.2.2.2.1.1 (-1)) : ∀ i, j < i → i ≤ segs.length → ((segs.take i).foldl (rst2 A) ([], p)).1.getD j 0 = A.getD j 0
  | 0, h, _ => by omega
  | i + 1, h, hi => by
    obtain ⟨x, hx⟩ : ∃ x, segs[i]? = some x := ⟨segs[i], List.getElem?_eq_getElem (by omega)⟩
    rw [fold_snoc hx]
    have hl : ((segs.take i).foldl (rst2 A) ([], p)).1.length = i := by rw [rfold_len (rst2_len A), List.length_take]; simp; omega
    generalize hr : (segs.take i).foldl (rst2 A) ([], p) = r at *
    by_cases hj : j < i
    · have ih := rb_keeps (A := A) (p := p) hs h1 h2 i hj (by omega)
      rw [hr] at ih
      have e : ∀ y, (r.1 ++ [y]).getD j 0 = r.1.getD j 0 := fun y => by
        rw [List.getD_eq_getElem?_getD, List.getElem?_append_left (by omega), ← List.getD_eq_getElem?_getD]
      rw [← ih]
      unfold rst2
      split
      · exact e _
      · split
        · exact e _
        · exact e _
    · obtain rfl : j = i := by omega
      rw [hs] at hx
      obtain rfl := Option.some.inj hx
      unfold rst2
      rw [if_neg (fun h => h h2), if_neg (fun h => h h1)]
      show (r.1 ++ [A.getD r.1.length 0]).getD j 0 = _
      rw [List.getD_eq_getElem?_getD, List.getElem?_append_right (by omega), hl, Nat.sub_self]
      rfl
section
variable {K : PV → List OB → Prop} {w big : Bool} {o ab ty ma fl en st : Int} {segs : List dSeg.T} {secs : List dSec.T}
theorem rnext_spec {a v al : Int} (ha : Om (0 ≤ a ∧ a ≤ 18446744073709551615)) (hv : Om (0 ≤ v ∧ v ≤ 18446744073709551615)) (hal : Om (0 ≤ al ∧ al ≤ 18446744073709551615)) (hk : K (.int .u64 (nextI a v al)) []) : PCalls Try.prog 79 [.int .u64 a, .int .u64 v, .int .u64 al] [] K := by
  have ha := ha.o
  have hv := hv.o
  have hal := hal.o
  refine told_callP bezantref14_next.told fun Z hZ => ?_
  unfold bezantref14_next.c
  unfold nextI at hk
  by_cases h1 : 65536 < a
  · rw [if_pos h1] at hk
    refine W1 trivial @DD trivial ?_
    exact hk
  rw [if_neg h1] at hk
  by_cases h2 : al ≤ 1
  · rw [if_pos h2] at hk
    refine W1 trivial @DD trivial ?_
    exact hk
  rw [if_neg h2] at hk
  have hrem : Ab.abin .rem (.int .u64 v) (.int .u64 al) = some (.int .u64 (v % al)) := rem_c (by omega) (by omega)
  have hw0 := Int.emod_nonneg v (show al ≠ 0 by omega)
  have hw1 := Int.emod_lt_of_pos v (show 0 < al by omega)
  by_cases h3 : 65536 < al
  · rw [if_pos h3] at hk
    by_cases h4 : v % al < a
    · rw [if_pos h4] at hk
      refine W1 trivial (And.intro @DD @hrem) trivial ?_
      exact hk
    · rw [if_neg h4] at hk
      refine W1 trivial (And.intro @DD @hrem) trivial ?_
      exact hk
  rw [if_neg h3] at hk
  have hd0 := Int.emod_nonneg (v - a) (show al ≠ 0 by omega)
  have hd1 := Int.emod_lt_of_pos (v - a) (show 0 < al by omega)
  have hnm : ∀ j : Nat, (j : Int) ≤ (v - a) % al → ((a + j) % al = v % al ↔ (j : Int) = (v - a) % al) := fun j hj => next_mod (by omega) (by omega) hj
  refine W1 trivial (And.intro @DD @hrem) trivial ?_
  refine w_lp (fun q e s => s = [] ∧ ∃ j : Nat, (q : Int) + j = (v - a) % al ∧ e 0 = .int .u64 (a + j) ∧ e 2 = .int .u64 al ∧ e 7 = .int .u64 (v % al)) ((v - a) % al).toNat ?_ ?_
  · exact ⟨rfl, 0, by omega, by rw [Int.natCast_zero, Int.add_zero]; exact lk trivial, by exact lk trivial, by exact lk trivial⟩
  rintro q e s ⟨rfl, j, hj, e0, e2, e7⟩
  have hnj := hnm j (by omega)
  have hrem2 : Ab.abin .rem (.int .u64 (a + j)) (.int .u64 al) = some (.int .u64 ((a + j) % al)) := rem_c (by omega) (by omega)
  by_cases h5 : (j : Int) = (v - a) % al
  · have h6 := hnj.2 h5
    rw [← h5] at hk
    refine W1 (And.intro @e0 (And.intro @e2 @e7)) (And.intro @DD @hrem2) trivial ?_
    exact hk
  · have h6 : ¬ (a + j) % al = v % al := fun h => h5 (hnj.1 h)
    have hw2 : IntKind.wrap .u64 (a + j + 1) = a + (j + 1 : Nat) := by rw [wU64]; push_cast; omega
    refine W1 (And.intro @e0 (And.intro @e2 @e7)) (And.intro @DD (And.intro @hrem2 @hw2)) trivial ?_
    exact ⟨q - 1, by omega, rfl, j + 1, by push_cast; omega, by exact lk @e0, by exact lk @e2, by exact lk @e7⟩
theorem set_getD {l : List Int} {i : Nat} {v : Int} (h : i < l.length) : (l.set i v).getD i 0 = v := by
  rw [List.getD_eq_getElem?_getD, List.getElem?_set_self h]; rfl
theorem rplan_spec (he : Om (0 ≤ en ∧ en ≤ 18446744073709551615)) (hG : Am (SegsN segs)) (hN : Am (SecsN secs))
    (hk0 : wrongC w en segs secs st ≠ 0 → K (.tup [pvPlan0, .int .i64 (wrongC w en segs secs st)]) [])
    (hk1 : wrongC w en segs secs st = 0 → (planV w segs secs).ov = true → K (.tup [pvPlan0, .int .i64 8]) [])
    (hk2 : wrongC w en segs secs st = 0 → (planV w segs secs).ov = false → K (.tup [pvPlan (planV w segs secs), .int .i64 0]) []) :
    PCalls Try.prog 28 [.agg [.bool w, .bool big, .int .u8 o, .int .u8 ab, .int .u16 ty, .int .u16 ma, .int .u32 fl, .int .u64 en, .sl dSeg segs, .sl dSec secs, .int .i64 st]] [] K := by
  have he := he.o
  have hG := hG.o
  have hN := hN.o
  refine told_callP bezantref14_PlanOf.told fun Z hZ => ?_
  unfold bezantref14_PlanOf.c
  refine W1 trivial @DD trivial ?_
  refine rcheck_spec ⟨he⟩ ⟨hG⟩ ⟨hN⟩ ?_
  by_cases h0 : wrongC w en segs secs st = 0
  rotate_left
  · have := hk0 h0
    refine W1 trivial (And.intro @DD @h0) trivial ?_
    exact this
  have hk1 := hk1 h0
  have hk2 := hk2 h0
  have ok := modelOk h0
  have l16 := ok.l16
  have l64 := ok.l64
  have hrel := plan_rel ok hG hN
  clear hk0
  have hwh : IntKind.wrap .u64 (hsz w) = hsz w := by cases w <;> rfl
  have hh : hsz w = 64 ∨ hsz w = 52 := by cases w <;> simp [hsz]
  have hnp : 0 ≤ psz w * (segs.length : Int) ∧ psz w * (segs.length : Int) ≤ 896 := by cases w <;> simp only [psz, Bool.false_eq_true, ↓reduceIte] <;> omega
  have hw6 : IntKind.wrap .i64 (psz w * (segs.length : Int)) = psz w * (segs.length : Int) := by rw [wI64]; omega
  have hw7 : IntKind.wrap .u64 (psz w * (segs.length : Int)) = psz w * (segs.length : Int) := by rw [wU64]; omega
  refine W1 trivial (And.intro @DD (And.intro @h0 @hwh)) @sizes_spec ?_
  obtain ⟨ph, hph⟩ : ∃ x, x = (planV w segs secs).ph := ⟨_, rfl⟩
  refine ps_cut (fun e s => s = [.var [.bool w, .bool big, .int .u8 o, .int .u8 ab, .int .u16 ty, .int .u16 ma, .int .u32 fl, .int .u64 en, .sl dSeg segs, .sl dSec secs, .int .i64 st], .var [.int .u64 0, .int .u64 0, .int .u64 0, .nilS, .nilS], .arr (.int .u64) (List.replicate segs.length (0 : Int)), .arr (.int .u64) (List.replicate secs.length (0 : Int)), .var [.int .u64 ph, .int .u64 0, .int .u64 0, .osl 2 segs.length, .osl 3 secs.length]] ∧ e 1 = .ptr 0 0 ∧ e 2 = .ptr 1 0 ∧ e 7 = .int .i64 (ssz w) ∧ e 8 = .ptr 4 0 ∧ e 6 = .int .i64 (psz w) ∧ e 9 = .int .u64 (hsz w)) (fun h => ?_) (fun h => ?_) ?_
  · have hzl : ¬ segs.length = 0 := by have := of_decide_eq_true h; omega
    have e2 : ph = hsz w := by
      rw [hph]
      show (if segs.length = 0 then 0 else layR (hsz w, false) 0 1) = _
      rw [if_neg hzl]
      show layA (hsz w) 0 1 = _
      rw [layA_eq (by omega) (by omega) (by omega) rfl, if_pos (by omega)]
    rw [e2]
    refine W1 trivial (And.intro @DD @hwh) trivial ?_
    exact ⟨_, _, Gh.sel [0, 1, 2, 3, 4] (by decide) (hz0 hZ), rfl, by exact lk trivial, by exact lk trivial, by exact lk trivial, by exact lk trivial, by exact lk trivial, by exact lk trivial⟩
  · have hzl : segs.length = 0 := by have := of_decide_eq_false h; omega
    have e2 : ph = 0 := by rw [hph]; exact if_pos hzl
    rw [e2]
    refine W1 trivial (And.intro @DD @hwh) trivial ?_
    exact ⟨_, _, Gh.sel [0, 1, 2, 3, 4] (by decide) (hz0 hZ), rfl, by exact lk trivial, by exact lk trivial, by exact lk trivial, by exact lk trivial, by exact lk trivial, by exact lk trivial⟩
  rintro e s ⟨rfl, e1, e2, e7, e8, e6, e9⟩
  have hw8 : IntKind.wrap .u64 (hsz w + psz w * (segs.length : Int)) = rpl0 w segs := wU64 _
  refine W1 (And.intro @e1 (And.intro @e2 (And.intro @e6 (And.intro @e7 (And.intro @e8 @e9))))) (And.intro @DD (And.intro @hw6 (And.intro @hw7 @hw8))) trivial ?_
  refine w_lpG (fun q e s => ∃ i : Nat, q + i = segs.length ∧ s = [.var [.bool w, .bool big, .int .u8 o, .int .u8 ab, .int .u16 ty, .int .u16 ma, .int .u32 fl, .int .u64 en, .sl dSeg segs, .sl dSec secs, .int .i64 st], .var [.int .u64 0, .int .u64 0, .int .u64 0, .nilS, .nilS], .arr (.int .u64) (((segs.take i).foldl rst1 ([], rpl0 w segs)).1 ++ List.replicate (segs.length - i) (0 : Int)), .arr (.int .u64) (List.replicate secs.length (0 : Int)), .var [.int .u64 ph, .int .u64 0, .int .u64 0, .osl 2 segs.length, .osl 3 secs.length]] ∧ e 1 = .ptr 0 0 ∧ e 2 = .ptr 1 0 ∧ e 7 = .int .i64 (ssz w) ∧ e 8 = .ptr 4 0 ∧ e 9 = .int .u64 ((segs.take i).foldl rst1 ([], rpl0 w segs)).2 ∧ 0 ≤ ((segs.take i).foldl rst1 ([], rpl0 w segs)).2 ∧ ((segs.take i).foldl rst1 ([], rpl0 w segs)).2 ≤ 18446744073709551615 ∧ e 10 = .int .i64 i) segs.length ?_ ?_
  · exact ⟨0, rfl, rfl, by exact lk @e1, by exact lk @e2, by exact lk @e7, by exact lk @e8, by exact lk trivial, by show 0 ≤ rpl0 w segs; unfold rpl0; omega, by show rpl0 w segs ≤ _; unfold rpl0; omega, by exact lk trivial⟩
  clear e1 e2 e6 e7 e8 e9
  rintro q e s ⟨i, hi, rfl, e1, e2, e7, e8, e9, hb0, hb1, e10⟩
  by_cases hq : i < segs.length
  · obtain ⟨x, hx⟩ : ∃ x, segs[i]? = some x := ⟨segs[i], List.getElem?_eq_getElem hq⟩
    have hx0 := hG x (List.mem_of_getElem? hx)
    have hsn := fold_snoc (f := rst1) hx ([], rpl0 w segs)
    have hln : ((segs.take i).foldl rst1 ([], rpl0 w segs)).1.length = i := by rw [rfold_len rst1_len, List.length_take]; simp; omega
    generalize (segs.take i).foldl rst1 ([], rpl0 w segs) = r at *
    obtain ⟨A, p⟩ := r
    obtain ⟨sty, sfl, sva, spa, sme, sal, ⟨si, so, sz, sown, u⟩, u2⟩ := x
    obtain ⟨sva, rfl⟩ : ∃ v : Int, v = sva := ⟨sva, rfl⟩
    obtain ⟨sal, rfl⟩ : ∃ v : Int, v = sal := ⟨sal, rfl⟩
    obtain ⟨sz, rfl⟩ : ∃ v : Int, v = sz := ⟨sz, rfl⟩
    obtain ⟨nty, nva, npa, nme, nal, noff, nsz, now, nbo⟩ := hx0
    dsimp only at hln hb0 hb1 e9
    have hAl : (A ++ List.replicate (segs.length - i) (0 : Int)).length = segs.length := by rw [List.length_append, List.length_replicate]; omega
    by_cases h5 : @Eq Int sty 1
    · have e0 : rst1 (A, p) (sty, sfl, sva, spa, sme, sal, (si, so, sz, sown, u), u2) = (A ++ [nextI p sva sal], (nextI p sva sal + sz) % 18446744073709551616) := if_pos h5
      rw [e0] at hsn
      have hset := set_zero (v := nextI p sva sal) hln hq
      have hgs := set_getD (v := nextI p sva sal) (show i < (A ++ List.replicate (segs.length - i) (0 : Int)).length by omega)
      have hsl : ((A ++ List.replicate (segs.length - i) (0 : Int)).set i (nextI p sva sal)).length = segs.length := by rw [List.length_set]; exact hAl
      have hw9 : IntKind.wrap .u64 (nextI p sva sal + sz) = (nextI p sva sal + sz) % 18446744073709551616 := wU64 _
      refine W1 (And.intro @e1 (And.intro @e2 (And.intro @e7 (And.intro @e8 (And.intro @e9 @e10))))) (And.intro @DD (And.intro @hgs @hw9)) @rnext_spec ?_
      exact ⟨q - 1, by omega, _, _, Gh.sel [0, 1, 2, 3, 4] (by decide) (hz0 hZ), i + 1, by omega, by rw [hsn]; show _ = _; rw [← hset]; rfl, by exact lk @e1, by exact lk @e2, by exact lk @e7, by exact lk @e8, by rw [hsn]; exact lk @e9, by rw [hsn]; show 0 ≤ (nextI p sva sal + sz) % 18446744073709551616; omega, by rw [hsn]; show (nextI p sva sal + sz) % 18446744073709551616 ≤ _; omega, by exact lk @e10⟩
    · have e0 : rst1 (A, p) (sty, sfl, sva, spa, sme, sal, (si, so, sz, sown, u), u2) = (A ++ [0], p) := if_neg h5
      rw [e0] at hsn
      have hset : A ++ List.replicate (segs.length - i) (0 : Int) = (A ++ [0]) ++ List.replicate (segs.length - (i + 1)) 0 := by
        rw [show segs.length - i = (segs.length - (i + 1)) + 1 by omega, List.replicate_succ, List.append_assoc]; rfl
      refine W1 (And.intro @e1 (And.intro @e2 (And.intro @e7 (And.intro @e8 (And.intro @e9 @e10))))) @DD trivial ?_
      exact ⟨q - 1, by omega, _, _, Gh.sel [0, 1, 2, 3, 4] (by decide) (hz0 hZ), i + 1, by omega, by rw [hsn]; show _ = _; rw [← hset]; rfl, by exact lk @e1, by exact lk @e2, by exact lk @e7, by exact lk @e8, by rw [hsn]; exact lk @e9, by rw [hsn]; exact hb0, by rw [hsn]; exact hb1, by exact lk @e10⟩
  obtain rfl : i = segs.length := by omega
  obtain ⟨A, hA⟩ : ∃ A, A = rplA w segs := ⟨_, rfl⟩
  have hAe : (segs.take segs.length).foldl rst1 ([], rpl0 w segs) = A := by rw [List.take_length, hA]; rfl
  have hAl : A.1.length = segs.length := by rw [← hAe, rfold_len rst1_len, List.take_length]; simp
  rw [hAe] at e9 hb0 hb1
  rw [hAe, Nat.sub_self, List.replicate_zero, List.append_nil]
  refine W1 (And.intro @e1 (And.intro @e2 (And.intro @e7 (And.intro @e8 (And.intro @e9 @e10))))) @DD trivial ?_
  refine w_lpG (fun q e s => ∃ i : Nat, q + i = segs.length ∧ s = [.var [.bool w, .bool big, .int .u8 o, .int .u8 ab, .int .u16 ty, .int .u16 ma, .int .u32 fl, .int .u64 en, .sl dSeg segs, .sl dSec secs, .int .i64 st], .var [.int .u64 0, .int .u64 0, .int .u64 0, .nilS, .nilS], .arr (.int .u64) (((segs.take i).foldl (rst2 A.1) ([], A.2)).1 ++ A.1.drop i), .arr (.int .u64) (List.replicate secs.length (0 : Int)), .var [.int .u64 ph, .int .u64 0, .int .u64 0, .osl 2 segs.length, .osl 3 secs.length]] ∧ e 1 = .ptr 0 0 ∧ e 2 = .ptr 1 0 ∧ e 7 = .int .i64 (ssz w) ∧ e 8 = .ptr 4 0 ∧ e 9 = .int .u64 ((segs.take i).foldl (rst2 A.1) ([], A.2)).2 ∧ 0 ≤ ((segs.take i).foldl (rst2 A.1) ([], A.2)).2 ∧ ((segs.take i).foldl (rst2 A.1) ([], A.2)).2 ≤ 18446744073709551615 ∧ e 11 = .int .i64 i) segs.length ?_ ?_
  · exact ⟨0, rfl, rfl, by exact lk @e1, by exact lk @e2, by exact lk @e7, by exact lk @e8, by exact lk @e9, hb0, hb1, by exact lk trivial⟩
  clear e1 e2 e7 e8 e9 e10 hb0 hb1
  rintro q e s ⟨i, hi, rfl, e1, e2, e7, e8, e9, hb0, hb1, e11⟩
  by_cases hq : i < segs.length
  · obtain ⟨x, hx⟩ : ∃ x, segs[i]? = some x := ⟨segs[i], List.getElem?_eq_getElem hq⟩
    have hxm := List.mem_of_getElem? hx
    have hx0 := hG x hxm
    have hpl := (segC_zero (ok.seg x hxm)).2.1
    have hsn := fold_snoc (f := rst2 A.1) hx ([], A.2)
    have hln : ((segs.take i).foldl (rst2 A.1) ([], A.2)).1.length = i := by rw [rfold_len (rst2_len _), List.length_take]; simp; omega
    have hkp : ∀ (j : Nat) (s : dSeg.T), segs[j]? = some s → @Eq Int s.1 1 → j < i → ((segs.take i).foldl (rst2 A.1) ([], A.2)).1.getD j 0 = A.1.getD j 0 := fun j s hs h1 hj => by
      have := segC_zero (ok.seg s (List.mem_of_getElem? hs))
      exact rb_keeps hs h1 (this.2.2 h1).1 i hj (by omega)
    generalize (segs.take i).foldl (rst2 A.1) ([], A.2) = r at *
    obtain ⟨B, p⟩ := r
    obtain ⟨sty, sfl, sva, spa, sme, sal, ⟨si, so, sz, sown, u⟩, u2⟩ := x
    obtain ⟨si, rfl⟩ : ∃ v : Int, v = si := ⟨si, rfl⟩
    obtain ⟨so, rfl⟩ : ∃ v : Int, v = so := ⟨so, rfl⟩
    obtain ⟨sz, rfl⟩ : ∃ v : Int, v = sz := ⟨sz, rfl⟩
    obtain ⟨nty, nva, npa, nme, nal, noff, nsz, now, nbo⟩ := hx0
    dsimp only at hln hkp hpl hb0 hb1 e9
    have hBl : (B ++ A.1.drop i).length = segs.length := by rw [List.length_append, List.length_drop]; omega
    by_cases h4 : @Eq Int si (-1)
    rotate_left
    · obtain ⟨g1, g2, -, -, y, g3, g4, -⟩ := place_in hpl h4
      have hgd := getD_mix (a := A.1) hln (fun hj => hkp si.toNat y g3 g4 hj)
      have e0 : rst2 A.1 (B, p) (sty, sfl, sva, spa, sme, sal, (si, so, sz, sown, u), u2) = (B ++ [(A.1.getD si.toNat 0 + so) % 18446744073709551616], p) := if_pos h4
      rw [e0] at hsn
      have hw8 : IntKind.wrap .u64 (A.1.getD si.toNat 0 + so) = (A.1.getD si.toNat 0 + so) % 18446744073709551616 := wU64 _
      have hset := set_drop (v := (A.1.getD si.toNat 0 + so) % 18446744073709551616) hln (show i < A.1.length by omega)
      refine W1 (And.intro @e1 (And.intro @e2 (And.intro @e7 (And.intro @e8 (And.intro @e9 @e11))))) (And.intro @DD (And.intro @hgd @hw8)) trivial ?_
      exact ⟨q - 1, by omega, _, _, Gh.sel [0, 1, 2, 3, 4] (by decide) (hz0 hZ), i + 1, by omega, by rw [hsn]; show _ = _; rw [← hset]; rfl, by exact lk @e1, by exact lk @e2, by exact lk @e7, by exact lk @e8, by rw [hsn]; exact lk @e9, by rw [hsn]; exact hb0, by rw [hsn]; exact hb1, by exact lk @e11⟩
    by_cases h5 : @Eq Int sty 1
    rotate_left
    · have e0 : rst2 A.1 (B, p) (sty, sfl, sva, spa, sme, sal, (si, so, sz, sown, u), u2) = (B ++ [nextI p 0 8], (nextI p 0 8 + sz) % 18446744073709551616) := (if_neg (fun h => h h4)).trans (if_pos h5)
      rw [e0] at hsn
      have hset := set_drop (v := nextI p 0 8) hln (show i < A.1.length by omega)
      have hgs := set_getD (v := nextI p 0 8) (show i < (B ++ A.1.drop i).length by omega)
      have hsl : ((B ++ A.1.drop i).set i (nextI p 0 8)).length = segs.length := by rw [List.length_set]; exact hBl
      have hw9 : IntKind.wrap .u64 (nextI p 0 8 + sz) = (nextI p 0 8 + sz) % 18446744073709551616 := wU64 _
      refine W1 (And.intro @e1 (And.intro @e2 (And.intro @e7 (And.intro @e8 (And.intro @e9 @e11))))) (And.intro @DD (And.intro @hgs @hw9)) @rnext_spec ?_
      exact ⟨q - 1, by omega, _, _, Gh.sel [0, 1, 2, 3, 4] (by decide) (hz0 hZ), i + 1, by omega, by rw [hsn]; show _ = _; rw [← hset]; rfl, by exact lk @e1, by exact lk @e2, by exact lk @e7, by exact lk @e8, by rw [hsn]; exact lk @e9, by rw [hsn]; show 0 ≤ (nextI p 0 8 + sz) % 18446744073709551616; omega, by rw [hsn]; show (nextI p 0 8 + sz) % 18446744073709551616 ≤ _; omega, by exact lk @e11⟩
    · have e0 : rst2 A.1 (B, p) (sty, sfl, sva, spa, sme, sal, (si, so, sz, sown, u), u2) = (B ++ [A.1.getD B.length 0], p) := (if_neg (fun h => h h4)).trans (if_neg (fun h => h h5))
      rw [e0, hln] at hsn
      have hset := keep_drop (b := B) (show i < A.1.length by omega)
      refine W1 (And.intro @e1 (And.intro @e2 (And.intro @e7 (And.intro @e8 (And.intro @e9 @e11))))) @DD trivial ?_
      exact ⟨q - 1, by omega, _, _, Gh.sel [0, 1, 2, 3, 4] (by decide) (hz0 hZ), i + 1, by omega, by rw [hsn]; show _ = _; rw [← hset]; rfl, by exact lk @e1, by exact lk @e2, by exact lk @e7, by exact lk @e8, by rw [hsn]; exact lk @e9, by rw [hsn]; exact hb0, by rw [hsn]; exact hb1, by exact lk @e11⟩
  obtain rfl : i = segs.length := by omega
  obtain ⟨B, hB⟩ : ∃ B, B = rplB w segs := ⟨_, rfl⟩
  have hBe : (segs.take segs.length).foldl (rst2 A.1) ([], A.2) = B := by rw [List.take_length, hB, hA]; rfl
  have hBl : B.1.length = segs.length := by rw [← hBe, rfold_len (rst2_len _), List.take_length]; simp
  rw [hBe] at e9 hb0 hb1
  rw [hBe, List.drop_eq_nil_of_le (by omega), List.append_nil]
  refine W1 (And.intro @e1 (And.intro @e2 (And.intro @e7 (And.intro @e8 (And.intro @e9 @e11))))) @DD trivial ?_
  refine w_lpG (fun q e s => ∃ i : Nat, q + i = secs.length ∧ s = [.var [.bool w, .bool big, .int .u8 o, .int .u8 ab, .int .u16 ty, .int .u16 ma, .int .u32 fl, .int .u64 en, .sl dSeg segs, .sl dSec secs, .int .i64 st], .var [.int .u64 0, .int .u64 0, .int .u64 0, .nilS, .nilS], .arr (.int .u64) (B.1), .arr (.int .u64) (((secs.take i).foldl (rst3 B.1) ([], B.2)).1 ++ List.replicate (secs.length - i) (0 : Int)), .var [.int .u64 ph, .int .u64 0, .int .u64 0, .osl 2 segs.length, .osl 3 secs.length]] ∧ e 1 = .ptr 0 0 ∧ e 2 = .ptr 1 0 ∧ e 7 = .int .i64 (ssz w) ∧ e 8 = .ptr 4 0 ∧ e 9 = .int .u64 ((secs.take i).foldl (rst3 B.1) ([], B.2)).2 ∧ 0 ≤ ((secs.take i).foldl (rst3 B.1) ([], B.2)).2 ∧ ((secs.take i).foldl (rst3 B.1) ([], B.2)).2 ≤ 18446744073709551615 ∧ e 13 = .int .i64 i) secs.length ?_ ?_
  · exact ⟨0, rfl, rfl, by exact lk @e1, by exact lk @e2, by exact lk @e7, by exact lk @e8, by exact lk @e9, hb0, hb1, by exact lk trivial⟩
  clear e1 e2 e7 e8 e9 e11 hb0 hb1
  rintro q e s ⟨i, hi, rfl, e1, e2, e7, e8, e9, hb0, hb1, e13⟩
  by_cases hq : i < secs.length
  · obtain ⟨x, hx⟩ : ∃ x, secs[i]? = some x := ⟨secs[i], List.getElem?_eq_getElem hq⟩
    have hxm := List.mem_of_getElem? hx
    have hx0 := hN x hxm
    have hpl := (secC_zero (ok.sec x hxm)).1
    have hsn := fold_snoc (f := rst3 B.1) hx ([], B.2)
    have hln : ((secs.take i).foldl (rst3 B.1) ([], B.2)).1.length = i := by rw [rfold_len (rst3_len _), List.length_take]; simp; omega
    generalize (secs.take i).foldl (rst3 B.1) ([], B.2) = r at *
    obtain ⟨C, p⟩ := r
    obtain ⟨nm, sty, sfl, sad, ssi, sli, ssf, sal, sen, ⟨si, so, sz, sown, u⟩, u2⟩ := x
    obtain ⟨si, rfl⟩ : ∃ v : Int, v = si := ⟨si, rfl⟩
    obtain ⟨so, rfl⟩ : ∃ v : Int, v = so := ⟨so, rfl⟩
    obtain ⟨sz, rfl⟩ : ∃ v : Int, v = sz := ⟨sz, rfl⟩
    obtain ⟨nnm, nty, nfl, nad, nsi, nli, nal, nen, noff, nsz, now, nbo⟩ := hx0
    dsimp only at hln hpl hb0 hb1 e9
    have hCl : (C ++ List.replicate (secs.length - i) (0 : Int)).length = secs.length := by rw [List.length_append, List.length_replicate]; omega
    by_cases h4 : @Eq Int si (-1)
    rotate_left
    · obtain ⟨g1, g2, -, -, y, g3, g4, -⟩ := place_in hpl h4
      have e0 : rst3 B.1 (C, p) (nm, sty, sfl, sad, ssi, sli, ssf, sal, sen, (si, so, sz, sown, u), u2) = (C ++ [(B.1.getD si.toNat 0 + so) % 18446744073709551616], p) := if_pos h4
      rw [e0] at hsn
      have hw8 : IntKind.wrap .u64 (B.1.getD si.toNat 0 + so) = (B.1.getD si.toNat 0 + so) % 18446744073709551616 := wU64 _
      have hset := set_zero (v := (B.1.getD si.toNat 0 + so) % 18446744073709551616) hln hq
      refine W1 (And.intro @e1 (And.intro @e2 (And.intro @e7 (And.intro @e8 (And.intro @e9 @e13))))) (And.intro @DD @hw8) trivial ?_
      exact ⟨q - 1, by omega, _, _, Gh.sel [0, 1, 2, 3, 4] (by decide) (hz0 hZ), i + 1, by omega, by rw [hsn]; show _ = _; rw [← hset]; rfl, by exact lk @e1, by exact lk @e2, by exact lk @e7, by exact lk @e8, by rw [hsn]; exact lk @e9, by rw [hsn]; exact hb0, by rw [hsn]; exact hb1, by exact lk @e13⟩
    · have e0 : rst3 B.1 (C, p) (nm, sty, sfl, sad, ssi, sli, ssf, sal, sen, (si, so, sz, sown, u), u2) = (C ++ [nextI p 0 8], (nextI p 0 8 + sz) % 18446744073709551616) := if_neg (fun h => h h4)
      rw [e0] at hsn
      have hset := set_zero (v := nextI p 0 8) hln hq
      have hgs := set_getD (v := nextI p 0 8) (show i < (C ++ List.replicate (secs.length - i) (0 : Int)).length by omega)
      have hsl : ((C ++ List.replicate (secs.length - i) (0 : Int)).set i (nextI p 0 8)).length = secs.length := by rw [List.length_set]; exact hCl
      have hw9 : IntKind.wrap .u64 (nextI p 0 8 + sz) = (nextI p 0 8 + sz) % 18446744073709551616 := wU64 _
      refine W1 (And.intro @e1 (And.intro @e2 (And.intro @e7 (And.intro @e8 (And.intro @e9 @e13))))) (And.intro @DD (And.intro @hgs @hw9)) @rnext_spec ?_
      exact ⟨q - 1, by omega, _, _, Gh.sel [0, 1, 2, 3, 4] (by decide) (hz0 hZ), i + 1, by omega, by rw [hsn]; show _ = _; rw [← hset]; rfl, by exact lk @e1, by exact lk @e2, by exact lk @e7, by exact lk @e8, by rw [hsn]; exact lk @e9, by rw [hsn]; show 0 ≤ (nextI p 0 8 + sz) % 18446744073709551616; omega, by rw [hsn]; show (nextI p 0 8 + sz) % 18446744073709551616 ≤ _; omega, by exact lk @e13⟩
  obtain rfl : i = secs.length := by omega
  obtain ⟨C, hC⟩ : ∃ C, C = rplC w segs secs := ⟨_, rfl⟩
  have hCe : (secs.take secs.length).foldl (rst3 B.1) ([], B.2) = C := by rw [List.take_length, hC, hB]; rfl
  have hCl : C.1.length = secs.length := by rw [← hCe, rfold_len (rst3_len _), List.take_length]; simp
  rw [hCe] at e9 hb0 hb1
  rw [hCe, Nat.sub_self, List.replicate_zero, List.append_nil]
  have hnq : 0 ≤ ssz w * ((secs.length : Int) + 1) ∧ ssz w * ((secs.length : Int) + 1) ≤ 4160 := by cases w <;> simp only [ssz, Bool.false_eq_true, ↓reduceIte] <;> omega
  have hw8 : IntKind.wrap .i64 (ssz w * ((secs.length : Int) + 1)) = ssz w * ((secs.length : Int) + 1) := by rw [wI64]; omega
  have hw9 : IntKind.wrap .u64 (ssz w * ((secs.length : Int) + 1)) = ssz w * ((secs.length : Int) + 1) := by rw [wU64]; omega
  obtain ⟨sh, hsh⟩ : ∃ x, x = rplS w segs secs := ⟨_, rfl⟩
  refine W1 (And.intro @e1 (And.intro @e2 (And.intro @e7 (And.intro @e8 (And.intro @e9 @e13))))) @DD trivial ?_
  refine ps_cut (fun e s => s = [.var [.bool w, .bool big, .int .u8 o, .int .u8 ab, .int .u16 ty, .int .u16 ma, .int .u32 fl, .int .u64 en, .sl dSeg segs, .sl dSec secs, .int .i64 st], .var [.int .u64 0, .int .u64 0, .int .u64 0, .nilS, .nilS], .arr (.int .u64) (B.1), .arr (.int .u64) (C.1), .var [.int .u64 ph, .int .u64 sh, .int .u64 0, .osl 2 segs.length, .osl 3 secs.length]] ∧ e 1 = .ptr 0 0 ∧ e 2 = .ptr 1 0 ∧ e 7 = .int .i64 (ssz w) ∧ e 8 = .ptr 4 0 ∧ e 9 = .int .u64 (rplE w segs secs)) (fun h => ?_) (fun h => ?_) ?_
  · have hzl : ¬ secs.length = 0 := by have := of_decide_eq_true h; omega
    have q1 : rplE w segs secs = (nextI C.2 0 8 + ssz w * (secs.length + 1)) % 18446744073709551616 := by unfold rplE; rw [if_neg hzl, hC]
    have q2 : sh = nextI C.2 0 8 := by rw [hsh, hC]; unfold rplS; exact if_neg hzl
    have hwz : IntKind.wrap .u64 (nextI C.2 0 8 + ssz w * ((secs.length : Int) + 1)) = (nextI C.2 0 8 + ssz w * (secs.length + 1)) % 18446744073709551616 := wU64 _
    rw [q1, q2]
    refine W1 (And.intro @e1 (And.intro @e2 (And.intro @e7 (And.intro @e8 @e9)))) (And.intro @DD (And.intro @hw8 (And.intro @hw9 @hwz))) @rnext_spec ?_
    exact ⟨_, _, Gh.sel [0, 1, 2, 3, 4] (by decide) (hz0 hZ), rfl, by exact lk @e1, by exact lk @e2, by exact lk @e7, by exact lk @e8, by exact lk @e9⟩
  · have hzl : secs.length = 0 := by have := of_decide_eq_false h; omega
    have q1 : rplE w segs secs = C.2 := by unfold rplE; rw [if_pos hzl, hC]
    have q2 : sh = 0 := by rw [hsh]; unfold rplS; exact if_pos hzl
    rw [q1, q2]
    refine W1 (And.intro @e1 (And.intro @e2 (And.intro @e7 (And.intro @e8 @e9)))) @DD trivial ?_
    exact ⟨_, _, Gh.sel [0, 1, 2, 3, 4] (by decide) (hz0 hZ), rfl, by exact lk @e1, by exact lk @e2, by exact lk @e7, by exact lk @e8, by exact lk @e9⟩
  clear e1 e2 e7 e8 e9 e13 hb0 hb1
  rintro e s ⟨rfl, e1, e2, e7, e8, e9⟩
  rw [← hB, ← hC, ← hsh] at hrel
  cases hov : (planV w segs secs).ov with
  | true =>
    have := hk1 hov
    have hgt := hrel.1 hov
    refine W1 (And.intro @e1 (And.intro @e2 (And.intro @e7 (And.intro @e8 @e9)))) @DD trivial ?_
    exact this
  | false =>
    have := hk2 hov
    obtain ⟨g1, g2, g3, g4, g5⟩ := hrel.2 hov
    have hpv : pvPlan (planV w segs secs) = .agg [.int .u64 ph, .int .u64 sh, .int .u64 (rplE w segs secs), .sl (.int .u64) B.1, .sl (.int .u64) C.1] := by rw [hph, g5, g1, g3, g4]
    rw [hpv] at this
    refine Wn1 (And.intro @e1 (And.intro @e2 (And.intro @e7 (And.intro @e8 @e9)))) @DD trivial ?_
    refine ghW (Gh.frzC (b := 1) (j := 3) (b' := 2) (D' := .int .u64) (l := B.1) rfl rfl rfl hBl.symm) ?_
    refine ghW (Gh.frzC (b := 1) (j := 4) (b' := 3) (D' := .int .u64) (l := C.1) rfl rfl rfl hCl.symm) ?_
    refine W1 (And.intro @e1 (And.intro @e2 (And.intro @e7 (And.intro @e8 @e9)))) @DD trivial ?_
    exact this
end
end Go.Proofs.Ytalhipbbomagoaa.PvW
