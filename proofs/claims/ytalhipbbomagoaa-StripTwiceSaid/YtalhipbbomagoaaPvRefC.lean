/- The document's answer for what is wrong with a model. No statement of the set is proved in this text. -/
import Derived.Test.YtalhipbbomagoaaPvRefB
namespace Go.Proofs.Ytalhipbbomagoaa.PvW
open Go.RowKit Go.Proofs.Ytalhipbbomagoaa.Cd Go.Proofs.Ytalhipbbomagoaa.AbP Go.Proofs.Ytalhipbbomagoaa.Num Go.Proofs.Ytalhipbbomagoaa.Pv
set_option maxRecDepth 100000
set_option maxHeartbeats 4000000
set_option linter.unusedVariables false
set_option linter.unusedSimpArgs false
def seg4 (s : dSeg.T) : List Int := [s.2.2.1, s.2.2.2.1, s.2.2.2.2.1, s.2.2.2.2.2.1]
def sec5 (s : dSec.T) : List Int := [s.2.2.1, s.2.2.2.1, s.2.2.2.2.1, s.2.2.2.2.2.2.2.1, s.2.2.2.2.2.2.2.2.1]
def allNums (en : Int) (segs : List dSeg.T) (secs : List dSec.T) : List Int := en :: segs.flatMap seg4 ++ secs.flatMap sec5
theorem flat_len {α : Type} {f : α → List Int} {n : Nat} (hf : ∀ x, (f x).length = n) : ∀ l : List α, (l.flatMap f).length = n * l.length
  | [] => by simp
  | x :: l => by rw [List.flatMap_cons, List.length_append, hf, flat_len hf l, List.length_cons, Nat.mul_succ]; omega
theorem flat_snoc {α : Type} {f : α → List Int} {l : List α} {i : Nat} {x : α} (hx : l[i]? = some x) : (l.take (i + 1)).flatMap f = (l.take i).flatMap f ++ f x := by
  rw [List.take_add_one, hx, List.flatMap_append]
  simp
theorem all_flat {α : Type} {f : α → List Int} {p : Int → Bool} : ∀ l : List α, (l.flatMap f).all p = l.all fun x => (f x).all p
  | [] => rfl
  | x :: l => by rw [List.flatMap_cons, List.all_append, all_flat l, List.all_cons]
theorem allNums_fits (w : Bool) (en : Int) (segs : List dSeg.T) (secs : List dSec.T) : (allNums en segs secs).all (fitW w) = fitsM w en segs secs := by
  unfold allNums fitsM
  rw [List.all_append, List.all_cons, all_flat, all_flat]
  show (fitW w en && segs.all (segFit w) && secs.all (secFit w)) = _
  simp only [List.all_cons, List.all_nil, Bool.and_true]
theorem allNums_N {en : Int} {segs : List dSeg.T} {secs : List dSec.T} (he : 0 ≤ en ∧ en ≤ 18446744073709551615) (hG : SegsN segs) (hN : SecsN secs) : ∀ x ∈ allNums en segs secs, 0 ≤ x ∧ x ≤ 18446744073709551615 := by
  intro x hx
  unfold allNums at hx
  rcases List.mem_append.1 hx with hx | hx
  · rcases List.mem_cons.1 hx with rfl | hx
    · exact he
    · obtain ⟨s, hs, hx⟩ := List.mem_flatMap.1 hx
      have h := hG s hs
      simp only [seg4, List.mem_cons, List.not_mem_nil, or_false] at hx
      rcases hx with rfl | rfl | rfl | rfl
      · exact h.va
      · exact h.pa
      · exact h.me
      · exact h.al
  · obtain ⟨s, hs, hx⟩ := List.mem_flatMap.1 hx
    have h := hN s hs
    simp only [sec5, List.mem_cons, List.not_mem_nil, or_false] at hx
    rcases hx with rfl | rfl | rfl | rfl | rfl
    · exact h.fl
    · exact h.ad
    · exact h.si
    · exact h.al
    · exact h.en
theorem fit_narrow {v : Int} (h : fitW false v = true) (hv : 0 ≤ v) : v ≤ 4294967295 := by
  unfold fitW fitsB at h
  simp only [Bool.false_eq_true, ↓reduceIte, Bool.and_eq_true, decide_eq_true_eq] at h
  have := h.2
  have e : (256 : Int) ^ (4 : Int).toNat = 4294967296 := rfl
  rw [e] at this
  omega
section
variable {K : PV → List OB → Prop} {w big : Bool} {o ab ty ma fl en st : Int} {segs : List dSeg.T} {secs : List dSec.T}
theorem rcheck_spec (he : Om (0 ≤ en ∧ en ≤ 18446744073709551615)) (hG : Am (SegsN segs)) (hN : Am (SecsN secs)) (hk : K (.int .i64 (wrongC w en segs secs st)) []) :
    PCalls Try.prog 12 [.agg [.bool w, .bool big, .int .u8 o, .int .u8 ab, .int .u16 ty, .int .u16 ma, .int .u32 fl, .int .u64 en, .sl dSeg segs, .sl dSec secs, .int .i64 st]] [] K := by
  have he := he.o
  have hG := hG.o
  have hN := hN.o
  refine told_callP bezantref14_Check.told fun Z hZ => ?_
  unfold bezantref14_Check.c
  unfold wrongC at hk
  by_cases h1 : 16 < (segs.length : Int)
  · rw [if_pos (.inl (by omega))] at hk
    refine W1 trivial @DD trivial ?_
    exact hk
  by_cases h2 : 64 < (secs.length : Int)
  · rw [if_pos (.inr (by omega))] at hk
    refine W1 trivial @DD trivial ?_
    exact hk
  rw [if_neg (by omega)] at hk
  have hL : ∀ s ∈ segs, s.2.2.2.2.2.2.1.2.2.2.1.length ≤ 1000000 := fun s hs => (hG s hs).ow
  refine W1 trivial @DD trivial ?_
  apply x_arr 2 (.int .u64); (repeat any_goals first | exact mp_z | apply mp_s | exact rs_z | apply rs_t | apply rs_n | apply rs_c); (repeat any_goals first | (apply Lk.i; (simp only [↓LL, ↓reduceIte, Nat.reduceEqDiff]; (try rfl); done)) | (apply Rf.i; first | rfl | assumption) | (apply Vl.i; ((try simp (disch := omega) only [VV, ↓reduceIte, peqI, encP]); (try rfl); done)) | (apply Am.i; assumption) | (apply Pu.i; ((try simp only [↓reduceIte, UU, RR, Nat.reduceAdd, Nat.reduceEqDiff, cellsP, putP, fillQ, flatQ, shP, sh1, encP]); (try rfl); done)) | (apply Om.i; ((try simp only [MM]); (try omega); done)) | (apply Vw.i; first | exact As.sl _ _ | exact As.nil _ | exact As.arr _ _ _ _ rfl (by ((try simp only [MM]); (try omega); done)) | exact As.row _ _ _ _ _ rfl rfl | exact Src.str _ | exact Src.as (As.sl _ _) | exact Src.as (As.nil _) | exact Src.as (As.arr _ _ _ _ rfl (by ((try simp only [MM]); (try omega); done))) | exact Src.as (As.row _ _ _ _ _ rfl rfl))); (all_goals fail_if_success apply Mk.i)
  refine w_lpG (fun q e s => ∃ i : Nat, q + i = segs.length ∧ s = [.var [.bool w, .bool big, .int .u8 o, .int .u8 ab, .int .u16 ty, .int .u16 ma, .int .u32 fl, .int .u64 en, .sl dSeg segs, .sl dSec secs, .int .i64 st], .var [.bool w, .bool big], .arr (.int .u64) (en :: (segs.take i).flatMap seg4)] ∧ e 1 = .ptr 0 0 ∧ e 3 = .ptr 1 0 ∧ e 4 = .osl 2 (en :: (segs.take i).flatMap seg4).length ∧ e 5 = .int .i64 i) segs.length ?_ ?_
  · exact ⟨0, rfl, rfl, by exact lk trivial, by exact lk trivial, by exact lk trivial, by exact lk trivial⟩
  rintro q e s ⟨i, hi, rfl, e1, e3, e4, e5⟩
  have hfl : ((segs.take i).flatMap seg4).length = 4 * i := by rw [flat_len (n := 4) (fun x => rfl), List.length_take]; omega
  by_cases hq : i < segs.length
  · obtain ⟨x, hx⟩ : ∃ x, segs[i]? = some x := ⟨segs[i], List.getElem?_eq_getElem hq⟩
    have hsn := flat_snoc (f := seg4) hx
    obtain ⟨sty, sfl, sva, spa, sme, sal, ⟨si, so, sz, sown, u⟩, u2⟩ := x
    have hsn : (segs.take (i + 1)).flatMap seg4 = (segs.take i).flatMap seg4 ++ [sva, spa, sme, sal] := hsn
    generalize (segs.take i).flatMap seg4 = l at *
    have hll : ((en :: l).length : Int) = 4 * i + 1 := by rw [List.length_cons]; omega
    refine W1 (And.intro @e1 (And.intro @e3 (And.intro @e4 @e5))) @DD (@oArr 4 (.int .u64)) ?_
    exact ⟨q - 1, by omega, _, _, Gh.sel [0, 1, 2] (by decide) (hz0 hZ), i + 1, by omega, by rw [hsn]; rfl, by exact lk @e1, by exact lk @e3, by rw [hsn, show (en :: (l ++ [sva, spa, sme, sal])).length = (en :: l).length + 4 from by simp]; exact lk @e4, by exact lk @e5⟩
  obtain rfl : i = segs.length := by omega
  rw [List.take_length] at hfl e4 ⊢
  obtain ⟨l0, hl0⟩ : ∃ l0, l0 = en :: segs.flatMap seg4 := ⟨_, rfl⟩
  rw [← hl0] at e4 ⊢
  have hll0 : l0.length = 4 * segs.length + 1 := by rw [hl0, List.length_cons]; omega
  refine W1 (And.intro @e1 (And.intro @e3 (And.intro @e4 @e5))) @DD trivial ?_
  refine w_lpG (fun q e s => ∃ i : Nat, q + i = secs.length ∧ s = [.var [.bool w, .bool big, .int .u8 o, .int .u8 ab, .int .u16 ty, .int .u16 ma, .int .u32 fl, .int .u64 en, .sl dSeg segs, .sl dSec secs, .int .i64 st], .var [.bool w, .bool big], .arr (.int .u64) (l0 ++ (secs.take i).flatMap sec5)] ∧ e 1 = .ptr 0 0 ∧ e 3 = .ptr 1 0 ∧ e 4 = .osl 2 (l0 ++ (secs.take i).flatMap sec5).length ∧ e 7 = .int .i64 i) secs.length ?_ ?_
  · exact ⟨0, rfl, by rw [List.take_zero, List.flatMap_nil, List.append_nil], by exact lk @e1, by exact lk @e3, by rw [List.take_zero, List.flatMap_nil, List.append_nil]; exact lk @e4, by exact lk trivial⟩
  clear e1 e3 e4 e5 hfl hi
  rintro q e s ⟨i, hi, rfl, e1, e3, e4, e7⟩
  have hfl : ((secs.take i).flatMap sec5).length = 5 * i := by rw [flat_len (n := 5) (fun x => rfl), List.length_take]; omega
  by_cases hq : i < secs.length
  · obtain ⟨x, hx⟩ : ∃ x, secs[i]? = some x := ⟨secs[i], List.getElem?_eq_getElem hq⟩
    have hsn := flat_snoc (f := sec5) hx
    obtain ⟨nm, sty, sfl, sad, ssi, sli, ssf, sal, sen, ⟨si, so, sz, sown, u⟩, u2⟩ := x
    have hsn : (secs.take (i + 1)).flatMap sec5 = (secs.take i).flatMap sec5 ++ [sfl, sad, ssi, sal, sen] := hsn
    generalize (secs.take i).flatMap sec5 = l at *
    have hll : ((l0 ++ l).length : Int) = l0.length + 5 * i := by rw [List.length_append]; omega
    refine W1 (And.intro @e1 (And.intro @e3 (And.intro @e4 @e7))) @DD (@oArr 4 (.int .u64)) ?_
    exact ⟨q - 1, by omega, _, _, Gh.sel [0, 1, 2] (by decide) (hz0 hZ), i + 1, by omega, by rw [hsn, ← List.append_assoc]; rfl, by exact lk @e1, by exact lk @e3, by rw [hsn, show (l0 ++ (l ++ [sfl, sad, ssi, sal, sen])).length = (l0 ++ l).length + 5 from by simp; omega]; exact lk @e4, by exact lk @e7⟩
  obtain rfl : i = secs.length := by omega
  rw [List.take_length] at hfl e4 ⊢
  have hal : l0 ++ secs.flatMap sec5 = allNums en segs secs := by rw [hl0]; rfl
  have hln : (allNums en segs secs).length ≤ 400 := by rw [← hal, List.length_append]; omega
  have hNN := allNums_N he hG hN
  rw [hal] at e4 ⊢
  refine Wp1 (And.intro @e1 (And.intro @e3 (And.intro @e4 @e7))) @DD (And.intro (@oFrz 84) @trivial) ?_
  refine rfit_spec ⟨by omega⟩ ⟨hNN⟩ ?_
  rw [allNums_fits]
  cases h3 : fitsM w en segs secs with
  | false =>
    rw [if_pos h3] at hk
    refine W1 (And.intro @e1 (And.intro @e3 (And.intro @e4 @e7))) @DD trivial ?_
    exact hk
  | true =>
  rw [if_neg (by rw [h3]; decide)] at hk
  have hnr : ∀ s ∈ segs, w = false → @LE.le Int _ s.2.2.1 4294967295 ∧ @LE.le Int _ s.2.2.2.2.1 4294967295 := by
    rintro s hs rfl
    unfold fitsM at h3
    simp only [Bool.and_eq_true] at h3
    have h4 := List.all_eq_true.1 h3.1.2 s hs
    unfold segFit at h4
    simp only [List.all_cons, List.all_nil, Bool.and_eq_true, Bool.and_true] at h4
    exact ⟨fit_narrow h4.1 (hG s hs).va.1, fit_narrow h4.2.2.1 (hG s hs).me.1⟩
  refine W1 (And.intro @e1 (And.intro @e3 (And.intro @e4 @e7))) @DD trivial ?_
  refine w_lpG (fun q e s => ∃ i : Nat, q + i = segs.length ∧ s = [.var [.bool w, .bool big, .int .u8 o, .int .u8 ab, .int .u16 ty, .int .u16 ma, .int .u32 fl, .int .u64 en, .sl dSeg segs, .sl dSec secs, .int .i64 st], .var [.bool w, .bool big], .dead] ∧ (∀ y ∈ segs.take i, segCx w segs y = 0) ∧ e 1 = .ptr 0 0 ∧ e 3 = .ptr 1 0 ∧ e 10 = .int .i64 i) segs.length ?_ ?_
  · exact ⟨0, rfl, rfl, fun y hy => (by cases hy), by exact lk @e1, by exact lk @e3, by exact lk trivial⟩
  clear e1 e3 e4 e7 hfl hi hq
  rintro q e s ⟨i, hi, rfl, hall, e1, e3, e10⟩
  by_cases hq : i < segs.length
  · obtain ⟨x, hx⟩ : ∃ x, segs[i]? = some x := ⟨segs[i], List.getElem?_eq_getElem hq⟩
    have hxm := List.mem_of_getElem? hx
    have hx0 := hG x hxm
    have hxn := hnr x hxm
    have htk : segs.take (i + 1) = segs.take i ++ [x] := by rw [List.take_add_one, hx]; rfl
    have hat : segCx w segs x = 0 → ∀ y ∈ segs.take (i + 1), segCx w segs y = 0 := fun h y hy => by
      rw [htk] at hy
      rcases List.mem_append.1 hy with hy | hy
      · exact hall y hy
      · obtain rfl := List.mem_singleton.1 hy; exact h
    have han : segCx w segs x ≠ 0 → firstC (segCx w segs) segs = segCx w segs x := fun h => first_no segs i x hall hx h
    obtain ⟨sty, sfl, sva, spa, sme, sal, ⟨si, so, sz, sown, u⟩, u2⟩ := x
    have hat : segC w segs sty sva sme sal si so sz sown = 0 → ∀ y ∈ segs.take (i + 1), segCx w segs y = 0 := hat
    have han : segC w segs sty sva sme sal si so sz sown ≠ 0 → firstC (segCx w segs) segs = segC w segs sty sva sme sal si so sz sown := han
    have hx0 : SegN sty sva spa sme sal si so sz sown := hx0
    refine W1 (And.intro @e1 (And.intro @e3 @e10)) @DD trivial ?_
    refine rsegment_spec ⟨hx0⟩ ⟨hxn⟩ ⟨by omega⟩ hL ?_
    by_cases h4 : segC w segs sty sva sme sal si so sz sown = 0
    · have ha := hat h4
      refine W1 (And.intro @e1 (And.intro @e3 @e10)) (And.intro @DD @h4) trivial ?_
      exact ⟨q - 1, by omega, _, _, Gh.sel [0, 1, 2] (by decide) (hz0 hZ), i + 1, by omega, rfl, ha, by exact lk @e1, by exact lk @e3, by exact lk @e10⟩
    · have hf := han h4
      rw [hf, if_pos h4] at hk
      refine W1 (And.intro @e1 (And.intro @e3 @e10)) (And.intro @DD @h4) trivial ?_
      exact hk
  obtain rfl : i = segs.length := by omega
  rw [List.take_length] at hall
  rw [first_ok segs hall, if_neg (fun h => h rfl)] at hk
  have hri := rising_iff hG
  refine W1 (And.intro @e1 (And.intro @e3 @e10)) @DD trivial ?_
  refine w_lpG (fun q e s => ∃ i : Nat, q + i = segs.length ∧ s = [.var [.bool w, .bool big, .int .u8 o, .int .u8 ab, .int .u16 ty, .int .u16 ma, .int .u32 fl, .int .u64 en, .sl dSeg segs, .sl dSec secs, .int .i64 st], .var [.bool w, .bool big], .dead] ∧ (∀ i' k, i' < i → k < i' → belP segs k i') ∧ e 1 = .ptr 0 0 ∧ e 3 = .ptr 1 0 ∧ e 12 = .int .i64 i) segs.length ?_ ?_
  · exact ⟨0, rfl, rfl, fun i' k h => absurd h (Nat.not_lt_zero i'), by exact lk @e1, by exact lk @e3, by exact lk trivial⟩
  clear e1 e3 e10 hi hq hall
  rintro q e s ⟨i, hi, rfl, hall, e1, e3, e12⟩
  by_cases hq : i < segs.length
  · obtain ⟨y, hy⟩ : ∃ y, segs[i]? = some y := ⟨segs[i], List.getElem?_eq_getElem hq⟩
    refine W1 (And.intro @e1 (And.intro @e3 @e12)) @DD trivial ?_
    refine w_lpG (fun q e s => ∃ k : Nat, q + k = i ∧ s = [.var [.bool w, .bool big, .int .u8 o, .int .u8 ab, .int .u16 ty, .int .u16 ma, .int .u32 fl, .int .u64 en, .sl dSeg segs, .sl dSec secs, .int .i64 st], .var [.bool w, .bool big], .dead] ∧ (∀ k', k' < k → belP segs k' i) ∧ e 1 = .ptr 0 0 ∧ e 3 = .ptr 1 0 ∧ e 12 = .int .i64 i ∧ e 13 = .int .i64 k) i ?_ ?_
    · exact ⟨0, rfl, rfl, fun k h => absurd h (Nat.not_lt_zero k), by exact lk @e1, by exact lk @e3, by exact lk @e12, by exact lk trivial⟩
    clear e1 e3 e12
    rintro q2 e s ⟨k, hk2, rfl, hin, e1, e3, e12, e13⟩
    by_cases hkq : k < i
    · obtain ⟨x, hx⟩ : ∃ x, segs[k]? = some x := ⟨segs[k], List.getElem?_eq_getElem (by omega)⟩
      have hx0 := hG x (List.mem_of_getElem? hx)
      have hin' : belP segs k i → ∀ k', k' < k + 1 → belP segs k' i := fun h k' hk' => by
        by_cases hkk : k' < k
        · exact hin k' hkk
        · obtain rfl : k' = k := by omega
          exact h
      have hb1 : belP segs k i ↔ (@Eq Int x.1 1 → @Eq Int y.1 1 → belowB x.2.2.1 x.2.2.2.2.1 y.2.2.1 = true) := by
        constructor
        · exact fun h => h x y hx hy
        · intro h x' y' hx' hy'
          rw [hx] at hx'
          rw [hy] at hy'
          obtain rfl := Option.some.inj hx'
          obtain rfl := Option.some.inj hy'
          exact h
      have hno : ¬ belP segs k i → ¬ RisingP (loadsL segs) := fun h h2 => h (hri.1 h2 i k hkq)
      obtain ⟨xty, xfl, xva, xpa, xme, xal, ⟨xi, xo, xz, xown, xu⟩, xu2⟩ := x
      obtain ⟨yty, yfl, yva, ypa, yme, yal, ⟨yi, yo, yz, yown, yu⟩, yu2⟩ := y
      have hx0 : SegN xty xva xpa xme xal xi xo xz xown := hx0
      have hb1 : belP segs k i ↔ (@Eq Int xty 1 → @Eq Int yty 1 → belowB xva xme yva = true) := hb1
      have hv1 := hx0.va
      have hm1 := hx0.me
      cases hbe : belowB xva xme yva with
      | true =>
        have hgo := hin' (hb1.2 fun _ _ => hbe)
        by_cases hy1 : @Eq Int yty 1
        · by_cases hx1 : @Eq Int xty 1
          · refine W1 (And.intro @e1 (And.intro @e3 (And.intro @e12 @e13))) (And.intro @DD @hbe) @rbelow_spec ?_
            exact ⟨q2 - 1, by omega, _, _, Gh.sel [0, 1, 2] (by decide) (hz0 hZ), k + 1, by omega, rfl, hgo, by exact lk @e1, by exact lk @e3, by exact lk @e12, by exact lk @e13⟩
          · refine W1 (And.intro @e1 (And.intro @e3 (And.intro @e12 @e13))) (And.intro @DD @hbe) @rbelow_spec ?_
            exact ⟨q2 - 1, by omega, _, _, Gh.sel [0, 1, 2] (by decide) (hz0 hZ), k + 1, by omega, rfl, hgo, by exact lk @e1, by exact lk @e3, by exact lk @e12, by exact lk @e13⟩
        · refine W1 (And.intro @e1 (And.intro @e3 (And.intro @e12 @e13))) (And.intro @DD @hbe) @rbelow_spec ?_
          exact ⟨q2 - 1, by omega, _, _, Gh.sel [0, 1, 2] (by decide) (hz0 hZ), k + 1, by omega, rfl, hgo, by exact lk @e1, by exact lk @e3, by exact lk @e12, by exact lk @e13⟩
      | false =>
        by_cases hy1 : @Eq Int yty 1
        · by_cases hx1 : @Eq Int xty 1
          · rw [if_pos (hno fun h => by have := hb1.1 h hx1 hy1; rw [hbe] at this; cases this)] at hk
            refine W1 (And.intro @e1 (And.intro @e3 (And.intro @e12 @e13))) (And.intro @DD @hbe) @rbelow_spec ?_
            exact hk
          · have hgo := hin' (hb1.2 fun h _ => absurd h hx1)
            refine W1 (And.intro @e1 (And.intro @e3 (And.intro @e12 @e13))) (And.intro @DD @hbe) @rbelow_spec ?_
            exact ⟨q2 - 1, by omega, _, _, Gh.sel [0, 1, 2] (by decide) (hz0 hZ), k + 1, by omega, rfl, hgo, by exact lk @e1, by exact lk @e3, by exact lk @e12, by exact lk @e13⟩
        · have hgo := hin' (hb1.2 fun _ h => absurd h hy1)
          refine W1 (And.intro @e1 (And.intro @e3 (And.intro @e12 @e13))) (And.intro @DD @hbe) @rbelow_spec ?_
          exact ⟨q2 - 1, by omega, _, _, Gh.sel [0, 1, 2] (by decide) (hz0 hZ), k + 1, by omega, rfl, hgo, by exact lk @e1, by exact lk @e3, by exact lk @e12, by exact lk @e13⟩
    · obtain rfl : k = i := by omega
      have hgo : ∀ i' k', i' < k + 1 → k' < i' → belP segs k' i' := fun i' k' h1 h2 => by
        by_cases hik : i' < k
        · exact hall i' k' hik h2
        · obtain rfl : i' = k := by omega
          exact hin k' h2
      refine W1 (And.intro @e1 (And.intro @e3 (And.intro @e12 @e13))) @DD trivial ?_
      exact ⟨q - 1, by omega, _, _, Gh.sel [0, 1, 2] (by decide) (hz0 hZ), k + 1, by omega, rfl, hgo, by exact lk @e1, by exact lk @e3, by exact lk @e12⟩
  obtain rfl : i = segs.length := by omega
  have hris : RisingP (loadsL segs) := hri.2 fun i k hki => by
    by_cases h : i < segs.length
    · exact hall i k h hki
    · intro x y hx hy
      rw [List.getElem?_eq_none (by omega)] at hy
      cases hy
  rw [if_neg (fun h => h hris)] at hk
  refine W1 (And.intro @e1 (And.intro @e3 @e12)) @DD trivial ?_
  refine w_lpG (fun q e s => ∃ i : Nat, q + i = secs.length ∧ s = [.var [.bool w, .bool big, .int .u8 o, .int .u8 ab, .int .u16 ty, .int .u16 ma, .int .u32 fl, .int .u64 en, .sl dSeg segs, .sl dSec secs, .int .i64 st], .var [.bool w, .bool big], .dead] ∧ (∀ y ∈ secs.take i, secCx segs secs.length y = 0) ∧ e 1 = .ptr 0 0 ∧ e 3 = .ptr 1 0 ∧ e 15 = .int .i64 i) secs.length ?_ ?_
  · exact ⟨0, rfl, rfl, fun y hy => (by cases hy), by exact lk @e1, by exact lk @e3, by exact lk trivial⟩
  clear e1 e3 e12 hi hq hall
  rintro q e s ⟨i, hi, rfl, hall, e1, e3, e15⟩
  by_cases hq : i < secs.length
  · obtain ⟨x, hx⟩ : ∃ x, secs[i]? = some x := ⟨secs[i], List.getElem?_eq_getElem hq⟩
    have hx0 := hN x (List.mem_of_getElem? hx)
    have htk : secs.take (i + 1) = secs.take i ++ [x] := by rw [List.take_add_one, hx]; rfl
    have hat : secCx segs secs.length x = 0 → ∀ y ∈ secs.take (i + 1), secCx segs secs.length y = 0 := fun h y hy => by
      rw [htk] at hy
      rcases List.mem_append.1 hy with hy | hy
      · exact hall y hy
      · obtain rfl := List.mem_singleton.1 hy; exact h
    have han : secCx segs secs.length x ≠ 0 → firstC (secCx segs secs.length) secs = secCx segs secs.length x := fun h => first_no secs i x hall hx h
    obtain ⟨nm, sty, sfl, sad, ssi, sli, ssf, sal, sen, ⟨si, so, sz, sown, u⟩, u2⟩ := x
    obtain ⟨sz, rfl⟩ : ∃ v : Int, v = sz := ⟨sz, rfl⟩
    obtain ⟨ssi, rfl⟩ : ∃ v : Int, v = ssi := ⟨ssi, rfl⟩
    obtain ⟨sli, rfl⟩ : ∃ v : Int, v = sli := ⟨sli, rfl⟩
    have hat : secC segs secs.length sty ssi sli si so sz sown = 0 → ∀ y ∈ secs.take (i + 1), secCx segs secs.length y = 0 := hat
    have han : secC segs secs.length sty ssi sli si so sz sown ≠ 0 → firstC (secCx segs secs.length) secs = secC segs secs.length sty ssi sli si so sz sown := han
    have hx0 : SecN nm sty sfl sad ssi sli sal sen si so sz sown := hx0
    have hlb := hx0.li
    refine W1 (And.intro @e1 (And.intro @e3 @e15)) @DD trivial ?_
    refine rplace_spec14 ⟨hx0.off⟩ ⟨hx0.sz⟩ ⟨⟨by omega, hx0.ow⟩⟩ hL ?_
    unfold secC at hat han
    cases hp : placeOk segs si so sz sown with
    | false =>
      rw [if_pos (.inl hp)] at hat han
      rw [han (by decide), if_pos (by decide)] at hk
      by_cases h5 : @Eq Int sty 0
      · refine W1 (And.intro @e1 (And.intro @e3 @e15)) @DD trivial ?_
        exact hk
      by_cases h6 : @Eq Int sty 8
      · refine W1 (And.intro @e1 (And.intro @e3 @e15)) @DD trivial ?_
        exact hk
      refine W1 (And.intro @e1 (And.intro @e3 @e15)) @DD trivial ?_
      exact hk
    | true =>
      have hor : ∀ z : Int, (placeOk segs si so sz sown = false ∨ sz ≠ z) = (sz ≠ z) := fun z => propext ⟨fun h => h.elim (fun h => by rw [hp] at h; cases h) id, .inr⟩
      simp only [hor] at hat han
      by_cases h5 : @Eq Int sty 0
      · rw [if_pos (show @Eq Int sty 0 ∨ @Eq Int sty 8 from .inl h5)] at hat han
        by_cases h7 : sz = 0
        · by_cases h8 : (secs.length : Int) < sli
          · rw [if_neg (fun h => h h7), if_pos h8] at hat han
            rw [han (by decide), if_pos (by decide)] at hk
            refine W1 (And.intro @e1 (And.intro @e3 @e15)) @DD trivial ?_
            exact hk
          · rw [if_neg (fun h => h h7), if_neg h8] at hat
            have ha := hat rfl
            refine W1 (And.intro @e1 (And.intro @e3 @e15)) @DD trivial ?_
            exact ⟨q - 1, by omega, _, _, Gh.sel [0, 1, 2] (by decide) (hz0 hZ), i + 1, by omega, rfl, ha, by exact lk @e1, by exact lk @e3, by exact lk @e15⟩
        · rw [if_pos h7] at hat han
          rw [han (by decide), if_pos (by decide)] at hk
          refine W1 (And.intro @e1 (And.intro @e3 @e15)) @DD trivial ?_
          exact hk
      by_cases h6 : @Eq Int sty 8
      · rw [if_pos (show @Eq Int sty 0 ∨ @Eq Int sty 8 from .inr h6)] at hat han
        by_cases h7 : sz = 0
        · by_cases h8 : (secs.length : Int) < sli
          · rw [if_neg (fun h => h h7), if_pos h8] at hat han
            rw [han (by decide), if_pos (by decide)] at hk
            refine W1 (And.intro @e1 (And.intro @e3 @e15)) @DD trivial ?_
            exact hk
          · rw [if_neg (fun h => h h7), if_neg h8] at hat
            have ha := hat rfl
            refine W1 (And.intro @e1 (And.intro @e3 @e15)) @DD trivial ?_
            exact ⟨q - 1, by omega, _, _, Gh.sel [0, 1, 2] (by decide) (hz0 hZ), i + 1, by omega, rfl, ha, by exact lk @e1, by exact lk @e3, by exact lk @e15⟩
        · rw [if_pos h7] at hat han
          rw [han (by decide), if_pos (by decide)] at hk
          refine W1 (And.intro @e1 (And.intro @e3 @e15)) @DD trivial ?_
          exact hk
      rw [if_neg (show ¬ (@Eq Int sty 0 ∨ @Eq Int sty 8) from fun h => h.elim h5 h6)] at hat han
      by_cases h7 : sz = ssi
      · by_cases h8 : (secs.length : Int) < sli
        · rw [if_neg (fun h => h h7), if_pos h8] at hat han
          rw [han (by decide), if_pos (by decide)] at hk
          refine W1 (And.intro @e1 (And.intro @e3 @e15)) @DD trivial ?_
          exact hk
        · rw [if_neg (fun h => h h7), if_neg h8] at hat
          have ha := hat rfl
          refine W1 (And.intro @e1 (And.intro @e3 @e15)) @DD trivial ?_
          exact ⟨q - 1, by omega, _, _, Gh.sel [0, 1, 2] (by decide) (hz0 hZ), i + 1, by omega, rfl, ha, by exact lk @e1, by exact lk @e3, by exact lk @e15⟩
      · rw [if_pos h7] at hat han
        rw [han (by decide), if_pos (by decide)] at hk
        refine W1 (And.intro @e1 (And.intro @e3 @e15)) @DD trivial ?_
        exact hk
  · obtain rfl : i = secs.length := by omega
    rw [List.take_length] at hall
    rw [first_ok secs hall, if_neg (fun h => h rfl)] at hk
    refine W1 (And.intro @e1 (And.intro @e3 @e15)) @DD trivial ?_
    refine rnames_spec ⟨by omega⟩ ⟨hN⟩ ?_
    refine W1 (And.intro @e1 (And.intro @e3 @e15)) @DD trivial ?_
    exact hk
end
end Go.Proofs.Ytalhipbbomagoaa.PvW
