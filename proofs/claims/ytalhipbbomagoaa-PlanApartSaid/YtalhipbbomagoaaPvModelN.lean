/- The walk of ModelBare. No statement of the set is proved in this text. -/
import Derived.Test.YtalhipbbomagoaaPvModelM
namespace Go.Proofs.Ytalhipbbomagoaa.PvW
open Go.RowKit Go.Proofs.Ytalhipbbomagoaa.Cd Go.Proofs.Ytalhipbbomagoaa.AbP Go.Proofs.Ytalhipbbomagoaa.Num Go.Proofs.Ytalhipbbomagoaa.Pv
set_option maxRecDepth 100000
set_option maxHeartbeats 4000000
set_option linter.unusedVariables false
set_option linter.unusedSimpArgs false
section
variable {K : PV → List OB → Prop} {w big : Bool} {o ab ty ma fl en st : Int} {segs : List dSeg.T} {secs : List dSec.T}
theorem fitW_iff (hv : 0 ≤ en ∧ en ≤ 18446744073709551615) : fitW w en = (w || decide (en ≤ 4294967295)) := by
  unfold fitW fitsB
  cases w
  · simp only [Bool.false_eq_true, ↓reduceIte, Bool.false_or]
    rw [show wideB 4 = true from rfl, Bool.true_and]
    exact decide_eq_decide.2 ⟨fun h => by have h : en < 4294967296 := h; omega, fun h => by show en < 4294967296; omega⟩
  · simp only [↓reduceIte, Bool.true_or]
    rw [show wideB 8 = true from rfl, Bool.true_and]
    exact decide_eq_true (by show en < 18446744073709551616; omega)
theorem wrong0 (w : Bool) (en st : Int) : wrongC w en [] [] st = if fitW w en = false then 1 else if st = 0 then 0 else 10 := by
  unfold wrongC
  rw [if_neg (by simp)]
  have e : fitsM w en [] [] = fitW w en := by simp [fitsM]
  rw [e]
  by_cases h : fitW w en = false
  · rw [if_pos h, if_pos h]
  rw [if_neg h, if_neg h, if_neg (by simp [firstC]), if_neg (fun h => h (by intro i x y hx; simp [loadsL] at hx)), if_neg (by simp [firstC])]
  unfold namesC
  by_cases h0 : st = 0
  · rw [if_pos h0, if_neg (by simp [h0]), if_pos h0]
    simp
  · rw [if_pos (show st < 0 ∨ (([] : List dSec.T).length : Int) < st by simp only [List.length_nil]; omega), if_neg h0]
theorem check0_spec (he : Om (0 ≤ en ∧ en ≤ 18446744073709551615)) (hk0 : wrongC w en [] [] st = 0 → K .nilI []) (hk1 : wrongC w en [] [] st ≠ 0 → K (eCode (wrongC w en [] [] st)) []) :
    PCalls Try.prog 24 [.agg [.bool w, .bool big, .int .u8 o, .int .u8 ab, .int .u16 ty, .int .u16 ma, .int .u32 fl, .int .u64 en, .nilS, .nilS, .int .i64 st]] [] K :=
  PCalls.wkA (.g (WkA.mdi w big o ab ty ma fl en st) .z) (check_spec he ⟨fun s hs => by cases hs⟩ ⟨fun s hs => by cases hs⟩ hk0 hk1)
theorem same0_spec (hk : K (.bool true) []) :
    PCalls Try.prog 35 [.agg [.bool w, .bool big, .int .u8 o, .int .u8 ab, .int .u16 ty, .int .u16 ma, .int .u32 fl, .int .u64 en, .nilS, .nilS, .int .i64 st], .agg [.bool w, .bool big, .int .u8 o, .int .u8 ab, .int .u16 ty, .int .u16 ma, .int .u32 fl, .int .u64 en, .nilS, .nilS, .int .i64 st]] [] K :=
  PCalls.wkA (.g (WkA.mdi w big o ab ty ma fl en st) (.g (WkA.mdi w big o ab ty ma fl en st) .z)) (same_spec ⟨⟨by simp, by simp⟩⟩ (fun s hs => by cases hs) (fun s hs => by cases hs) hk)
theorem same_en {en' : Int} (h : en ≠ en') (hk : K (.bool false) []) :
    PCalls Try.prog 35 [.agg [.bool w, .bool big, .int .u8 o, .int .u8 ab, .int .u16 ty, .int .u16 ma, .int .u32 fl, .int .u64 en, .nilS, .nilS, .int .i64 st], .agg [.bool w, .bool big, .int .u8 o, .int .u8 ab, .int .u16 ty, .int .u16 ma, .int .u32 fl, .int .u64 en', .nilS, .nilS, .int .i64 st]] [] K := by
  have hq := identM_same w big o ab
  refine told_callP model_Same.told fun Z hZ => ?_
  unfold model_Same.c
  refine W1 trivial @DD trivial ?_
  exact hk
theorem up14_spec (hk : K (.bool true) []) : PCalls Try.prog 23 [] [] K := by
  refine told_callP bezantlaw14_up.told fun Z hZ => ?_
  unfold bezantlaw14_up.c
  refine W1 trivial @DD trivial ?_
  refine check0_spec ⟨by omega⟩ (fun h0 => ?_) (fun h1 => ?_)
  rotate_left
  · exact absurd (by rw [wrong0]; decide) h1
  refine W1 trivial @DD trivial ?_
  refine check0_spec ⟨by omega⟩ (fun h0 => ?_) (fun h1 => ?_)
  · have h0 : (10 : Int) = 0 := by rw [← h0, wrong0]; decide
    cases h0
  rw [show wrongC false 0 [] [] 1 = 10 by rw [wrong0]; decide]
  refine W1 trivial @DD @code_spec ?_
  refine same0_spec ?_
  refine W1 trivial @DD trivial ?_
  refine same_en (by decide) ?_
  refine W1 trivial @DD trivial ?_
  exact hk
theorem mbare_core (he : 0 ≤ en ∧ en ≤ 18446744073709551615) (hG : ∀ s ∈ segs, SegG s) (hM : ∀ s ∈ secs, SecG s) :
    PCalls Try.prog 5 [.agg [.bool w, .bool big, .int .u8 o, .int .u8 ab, .int .u16 ty, .int .u16 ma, .int .u32 fl, .int .u64 en, .sl dSeg segs, .sl dSec secs, .int .i64 st]] [] fun p _ => p = .bool true := by
  refine told_callP bezantlaw14_ModelBare.told fun Z hZ => ?_
  unfold bezantlaw14_ModelBare.c
  refine W1 trivial @DD @up14_spec ?_
  refine few_spec (fun s hs => (hG s hs).2) (fun s hs => (hM s hs).2) (fun l20 l70 hs1 hs2 => ?_) ?_
  rotate_left
  · refine W1 trivial @DD trivial ?_
    rfl
  have hGN := segsN_of hG hs1
  have hMN := secsN_of hM hs2
  have hL : ∀ s ∈ segs, s.2.2.2.2.2.2.1.2.2.2.1.length ≤ 1000000 := fun s hs => Nat.le_trans (hs1 s hs) (by omega)
  have hbare : (wrongC w en [] [] 0 = 0 ∧ (w = true ∨ en ≤ 4294967295)) ∨ (wrongC w en [] [] 0 = 1 ∧ w = false ∧ ¬ en ≤ 4294967295) := by
    rw [wrong0, fitW_iff he]
    cases w
    · by_cases h : en ≤ 4294967295
      · exact .inl ⟨by simp [h], .inr h⟩
      · exact .inr ⟨by simp [h], rfl, h⟩
    · exact .inl ⟨by simp, .inl rfl⟩
  refine W1 trivial @DD trivial ?_
  rcases hbare with ⟨hb0, hw⟩ | ⟨hb1, hw, hen⟩
  · refine check0_spec ⟨he⟩ (fun _ => ?_) (fun h => absurd hb0 h)
    cases w
    · have hen : en ≤ 4294967295 := hw.elim (fun h => by cases h) id
      refine W1 trivial @DD trivial ?_
      refine check_spec ⟨he⟩ ⟨hGN⟩ ⟨hMN⟩ (fun h0 => ?_) (fun h1 => ?_)
      rotate_left
      · refine W1 trivial @DD trivial ?_
        rfl
      have ok := modelOk h0
      refine W1 trivial @DD trivial ?_
      refine w_lpG (fun q e s => ∃ i : Nat, q + i = segs.length ∧ s = [.var [.bool false, .bool big, .int .u8 o, .int .u8 ab, .int .u16 ty, .int .u16 ma, .int .u32 fl, .int .u64 en, .sl dSeg segs, .sl dSec secs, .int .i64 st], .var [.bool false, .bool big, .int .u8 o, .int .u8 ab, .int .u16 ty, .int .u16 ma, .int .u32 fl, .int .u64 en, .nilS, .nilS, .int .i64 0]] ∧ e 1 = .ptr 0 0 ∧ e 3 = .bool true ∧ e 5 = .int .u64 (lastVa (loadsL (segs.take i))) ∧ e 6 = .int .i64 i) segs.length ?_ ?_
      · exact ⟨0, rfl, rfl, by exact lk trivial, by exact lk trivial, by exact lk trivial, by exact lk trivial⟩
      rintro q e s ⟨i, hi, rfl, e1, e3, e5, e6⟩
      by_cases hq : i < segs.length
      · obtain ⟨x, hx⟩ : ∃ x, segs[i]? = some x := ⟨segs[i], List.getElem?_eq_getElem hq⟩
        have hxm := List.mem_of_getElem? hx
        have hx0 := hGN x hxm
        have hz := segC_zero (ok.seg x hxm)
        have hld : loadsL (segs.take (i + 1)) = loadsL (segs.take i) ++ loadsL [x] := by rw [List.take_add_one, hx, loads_app]; rfl
        have hris : @Eq Int x.1 1 → lastVa (loadsL (segs.take i)) ≤ x.2.2.1 := fun h => rising_last ok.ris (loads_at hx h) hx0.va.1
        have hev := andI_even hx0.al hz.1
        have hbl := place_bytes hz.2.1 hx0.off.1 hx0.sz.1
        have hpo : @Eq Int x.2.2.2.2.2.2.1.1 (-1) → @Eq Int x.2.2.2.2.2.2.1.2.2.1 (x.2.2.2.2.2.2.1.2.2.2.1.length : Int) := fun h => by
          have := hz.2.1
          rw [h] at this
          exact (place_own this).2
        obtain ⟨sty, sfl, sva, spa, sme, sal, ⟨si, so, sz, sown, u⟩, u2⟩ := x
        obtain ⟨sz, rfl⟩ : ∃ v : Int, v = sz := ⟨sz, rfl⟩
        obtain ⟨sal, rfl⟩ : ∃ v : Int, v = sal := ⟨sal, rfl⟩
        obtain ⟨sva, rfl⟩ : ∃ v : Int, v = sva := ⟨sva, rfl⟩
        obtain ⟨sme, rfl⟩ : ∃ v : Int, v = sme := ⟨sme, rfl⟩
        have hx0 : SegN sty sva spa sme sal si so sz sown := hx0
        dsimp only at hz hris hev hbl hpo
        have bal := hx0.al
        have bsz := hx0.sz
        have bow := hx0.ow
        generalize hlv0 : lastVa (loadsL (segs.take i)) = lv at *
        refine W1 (And.intro @e1 (And.intro @e3 (And.intro @e5 @e6))) @DD trivial ?_
        refine bytes_spec ⟨⟨hx0.off.1, hx0.off.2, hx0.sz.1, hx0.sz.2⟩⟩ ⟨⟨by omega, hx0.ow⟩⟩ hL (fun h0 => ?_) ?_
        · rw [h0] at hbl
          have hs0 : sz = 0 := hbl.symm
          by_cases h1 : @Eq Int sty 1
          · have hlv : lastVa (loadsL (segs.take (i + 1))) = sva := by
              rw [hld]
              show lastVa (loadsL (segs.take i) ++ (if @Eq Int sty 1 then _ else _)) = _
              rw [if_pos h1]
              exact lastVa_snoc _ _
            have hr := hris h1
            obtain ⟨q1, q2, q3⟩ := hz.2.2 h1
            have q4 := hpo q1
            by_cases h2 : sal ≤ 1
            · refine W1 (And.intro @e1 (And.intro @e3 (And.intro @e5 @e6))) @DD trivial ?_
              exact ⟨q - 1, by omega, _, _, Gh.sel [0, 1] (by decide) (hz0 hZ), i + 1, by omega, rfl, by exact lk @e1, by exact lk @e3, by rw [hlv]; exact lk @e5, by exact lk @e6⟩
            · have h3 : sal % 2 = 0 := hev.elim (fun h => absurd h h2) id
              have hrem : Ab.abin .rem (.int .u64 sal) (.int .u64 2) = some (.int .u64 (sal % 2)) := rem_c (by omega) (by omega)
              refine W1 (And.intro @e1 (And.intro @e3 (And.intro @e5 @e6))) (And.intro @DD @hrem) trivial ?_
              exact ⟨q - 1, by omega, _, _, Gh.sel [0, 1] (by decide) (hz0 hZ), i + 1, by omega, rfl, by exact lk @e1, by exact lk @e3, by rw [hlv]; exact lk @e5, by exact lk @e6⟩
          · have hlv : lastVa (loadsL (segs.take (i + 1))) = lastVa (loadsL (segs.take i)) := by
              rw [hld]
              show lastVa (loadsL (segs.take i) ++ (if @Eq Int sty 1 then _ else _)) = _
              rw [if_neg h1]
              show lastVa (loadsL (segs.take i) ++ []) = _
              rw [List.append_nil]
            refine W1 (And.intro @e1 (And.intro @e3 (And.intro @e5 @e6))) @DD trivial ?_
            exact ⟨q - 1, by omega, _, _, Gh.sel [0, 1] (by decide) (hz0 hZ), i + 1, by omega, rfl, by exact lk @e1, by exact lk @e3, by rw [hlv, hlv0]; exact lk @e5, by exact lk @e6⟩
        · generalize bytesAt segs si so sz sown = bl at hbl
          by_cases h1 : @Eq Int sty 1
          · have hlv : lastVa (loadsL (segs.take (i + 1))) = sva := by
              rw [hld]
              show lastVa (loadsL (segs.take i) ++ (if @Eq Int sty 1 then _ else _)) = _
              rw [if_pos h1]
              exact lastVa_snoc _ _
            have hr := hris h1
            obtain ⟨q1, q2, q3⟩ := hz.2.2 h1
            have q4 := hpo q1
            by_cases h2 : sal ≤ 1
            · refine W1 (And.intro @e1 (And.intro @e3 (And.intro @e5 @e6))) @DD trivial ?_
              exact ⟨q - 1, by omega, _, _, Gh.sel [0, 1] (by decide) (hz0 hZ), i + 1, by omega, rfl, by exact lk @e1, by exact lk @e3, by rw [hlv]; exact lk @e5, by exact lk @e6⟩
            · have h3 : sal % 2 = 0 := hev.elim (fun h => absurd h h2) id
              have hrem : Ab.abin .rem (.int .u64 sal) (.int .u64 2) = some (.int .u64 (sal % 2)) := rem_c (by omega) (by omega)
              refine W1 (And.intro @e1 (And.intro @e3 (And.intro @e5 @e6))) (And.intro @DD @hrem) trivial ?_
              exact ⟨q - 1, by omega, _, _, Gh.sel [0, 1] (by decide) (hz0 hZ), i + 1, by omega, rfl, by exact lk @e1, by exact lk @e3, by rw [hlv]; exact lk @e5, by exact lk @e6⟩
          · have hlv : lastVa (loadsL (segs.take (i + 1))) = lastVa (loadsL (segs.take i)) := by
              rw [hld]
              show lastVa (loadsL (segs.take i) ++ (if @Eq Int sty 1 then _ else _)) = _
              rw [if_neg h1]
              show lastVa (loadsL (segs.take i) ++ []) = _
              rw [List.append_nil]
            refine W1 (And.intro @e1 (And.intro @e3 (And.intro @e5 @e6))) @DD trivial ?_
            exact ⟨q - 1, by omega, _, _, Gh.sel [0, 1] (by decide) (hz0 hZ), i + 1, by omega, rfl, by exact lk @e1, by exact lk @e3, by rw [hlv, hlv0]; exact lk @e5, by exact lk @e6⟩
      obtain rfl : i = segs.length := by omega
      refine W1 (And.intro @e1 (And.intro @e3 (And.intro @e5 @e6))) @DD trivial ?_
      refine w_lpG (fun q e s => ∃ i : Nat, q + i = secs.length ∧ s = [.var [.bool false, .bool big, .int .u8 o, .int .u8 ab, .int .u16 ty, .int .u16 ma, .int .u32 fl, .int .u64 en, .sl dSeg segs, .sl dSec secs, .int .i64 st], .var [.bool false, .bool big, .int .u8 o, .int .u8 ab, .int .u16 ty, .int .u16 ma, .int .u32 fl, .int .u64 en, .nilS, .nilS, .int .i64 0]] ∧ e 1 = .ptr 0 0 ∧ e 3 = .bool true ∧ e 8 = .int .i64 i) secs.length ?_ ?_
      · exact ⟨0, rfl, rfl, by exact lk @e1, by exact lk @e3, by exact lk trivial⟩
      clear e1 e3 e5 e6
      rintro q e s ⟨i, hi, rfl, e1, e3, e8⟩
      by_cases hq : i < secs.length
      · obtain ⟨x, hx⟩ : ∃ x, secs[i]? = some x := ⟨secs[i], List.getElem?_eq_getElem hq⟩
        have hxm := List.mem_of_getElem? hx
        have hx0 := hMN x hxm
        have hz := secC_zero (ok.sec x hxm)
        have hbl := place_bytes hz.1 hx0.off.1 hx0.sz.1
        obtain ⟨nm, sty, sfl, sad, ssi, sli, ssf, sal, sen, ⟨si, so, sz, sown, u⟩, u2⟩ := x
        obtain ⟨sz, rfl⟩ : ∃ v : Int, v = sz := ⟨sz, rfl⟩
        obtain ⟨ssi, rfl⟩ : ∃ v : Int, v = ssi := ⟨ssi, rfl⟩
        have hx0 : SecN nm sty sfl sad ssi sli sal sen si so sz sown := hx0
        dsimp only at hz hbl
        have bsz := hx0.sz
        have bow := hx0.ow
        refine W1 (And.intro @e1 (And.intro @e3 @e8)) @DD trivial ?_
        refine bytes_spec ⟨⟨hx0.off.1, hx0.off.2, hx0.sz.1, hx0.sz.2⟩⟩ ⟨⟨by omega, hx0.ow⟩⟩ hL (fun h0 => ?_) ?_
        · rw [h0] at hbl
          have hs0 : sz = 0 := hbl.symm
          by_cases h1 : @Eq Int sty 0
          · refine W1 (And.intro @e1 (And.intro @e3 @e8)) @DD trivial ?_
            exact ⟨q - 1, by omega, _, _, Gh.sel [0, 1] (by decide) (hz0 hZ), i + 1, by omega, rfl, by exact lk @e1, by exact lk @e3, by exact lk @e8⟩
          by_cases h2 : @Eq Int sty 8
          · refine W1 (And.intro @e1 (And.intro @e3 @e8)) @DD trivial ?_
            exact ⟨q - 1, by omega, _, _, Gh.sel [0, 1] (by decide) (hz0 hZ), i + 1, by omega, rfl, by exact lk @e1, by exact lk @e3, by exact lk @e8⟩
          have h3 : sz = ssi := by rw [hz.2.1]; exact if_neg (fun h => h.elim h1 h2)
          refine W1 (And.intro @e1 (And.intro @e3 @e8)) @DD trivial ?_
          exact ⟨q - 1, by omega, _, _, Gh.sel [0, 1] (by decide) (hz0 hZ), i + 1, by omega, rfl, by exact lk @e1, by exact lk @e3, by exact lk @e8⟩
        · generalize bytesAt segs si so sz sown = bl at hbl
          by_cases h1 : @Eq Int sty 0
          · refine W1 (And.intro @e1 (And.intro @e3 @e8)) @DD trivial ?_
            exact ⟨q - 1, by omega, _, _, Gh.sel [0, 1] (by decide) (hz0 hZ), i + 1, by omega, rfl, by exact lk @e1, by exact lk @e3, by exact lk @e8⟩
          by_cases h2 : @Eq Int sty 8
          · refine W1 (And.intro @e1 (And.intro @e3 @e8)) @DD trivial ?_
            exact ⟨q - 1, by omega, _, _, Gh.sel [0, 1] (by decide) (hz0 hZ), i + 1, by omega, rfl, by exact lk @e1, by exact lk @e3, by exact lk @e8⟩
          have h3 : sz = ssi := by rw [hz.2.1]; exact if_neg (fun h => h.elim h1 h2)
          refine W1 (And.intro @e1 (And.intro @e3 @e8)) @DD trivial ?_
          exact ⟨q - 1, by omega, _, _, Gh.sel [0, 1] (by decide) (hz0 hZ), i + 1, by omega, rfl, by exact lk @e1, by exact lk @e3, by exact lk @e8⟩
      obtain rfl : i = secs.length := by omega
      refine W1 (And.intro @e1 (And.intro @e3 @e8)) @DD trivial ?_
      rfl
    · refine W1 trivial @DD trivial ?_
      refine check_spec ⟨he⟩ ⟨hGN⟩ ⟨hMN⟩ (fun h0 => ?_) (fun h1 => ?_)
      rotate_left
      · refine W1 trivial @DD trivial ?_
        rfl
      have ok := modelOk h0
      refine W1 trivial @DD trivial ?_
      refine w_lpG (fun q e s => ∃ i : Nat, q + i = segs.length ∧ s = [.var [.bool true, .bool big, .int .u8 o, .int .u8 ab, .int .u16 ty, .int .u16 ma, .int .u32 fl, .int .u64 en, .sl dSeg segs, .sl dSec secs, .int .i64 st], .var [.bool true, .bool big, .int .u8 o, .int .u8 ab, .int .u16 ty, .int .u16 ma, .int .u32 fl, .int .u64 en, .nilS, .nilS, .int .i64 0]] ∧ e 1 = .ptr 0 0 ∧ e 3 = .bool true ∧ e 5 = .int .u64 (lastVa (loadsL (segs.take i))) ∧ e 6 = .int .i64 i) segs.length ?_ ?_
      · exact ⟨0, rfl, rfl, by exact lk trivial, by exact lk trivial, by exact lk trivial, by exact lk trivial⟩
      rintro q e s ⟨i, hi, rfl, e1, e3, e5, e6⟩
      by_cases hq : i < segs.length
      · obtain ⟨x, hx⟩ : ∃ x, segs[i]? = some x := ⟨segs[i], List.getElem?_eq_getElem hq⟩
        have hxm := List.mem_of_getElem? hx
        have hx0 := hGN x hxm
        have hz := segC_zero (ok.seg x hxm)
        have hld : loadsL (segs.take (i + 1)) = loadsL (segs.take i) ++ loadsL [x] := by rw [List.take_add_one, hx, loads_app]; rfl
        have hris : @Eq Int x.1 1 → lastVa (loadsL (segs.take i)) ≤ x.2.2.1 := fun h => rising_last ok.ris (loads_at hx h) hx0.va.1
        have hev := andI_even hx0.al hz.1
        have hbl := place_bytes hz.2.1 hx0.off.1 hx0.sz.1
        have hpo : @Eq Int x.2.2.2.2.2.2.1.1 (-1) → @Eq Int x.2.2.2.2.2.2.1.2.2.1 (x.2.2.2.2.2.2.1.2.2.2.1.length : Int) := fun h => by
          have := hz.2.1
          rw [h] at this
          exact (place_own this).2
        obtain ⟨sty, sfl, sva, spa, sme, sal, ⟨si, so, sz, sown, u⟩, u2⟩ := x
        obtain ⟨sz, rfl⟩ : ∃ v : Int, v = sz := ⟨sz, rfl⟩
        obtain ⟨sal, rfl⟩ : ∃ v : Int, v = sal := ⟨sal, rfl⟩
        obtain ⟨sva, rfl⟩ : ∃ v : Int, v = sva := ⟨sva, rfl⟩
        obtain ⟨sme, rfl⟩ : ∃ v : Int, v = sme := ⟨sme, rfl⟩
        have hx0 : SegN sty sva spa sme sal si so sz sown := hx0
        dsimp only at hz hris hev hbl hpo
        have bal := hx0.al
        have bsz := hx0.sz
        have bow := hx0.ow
        generalize hlv0 : lastVa (loadsL (segs.take i)) = lv at *
        refine W1 (And.intro @e1 (And.intro @e3 (And.intro @e5 @e6))) @DD trivial ?_
        refine bytes_spec ⟨⟨hx0.off.1, hx0.off.2, hx0.sz.1, hx0.sz.2⟩⟩ ⟨⟨by omega, hx0.ow⟩⟩ hL (fun h0 => ?_) ?_
        · rw [h0] at hbl
          have hs0 : sz = 0 := hbl.symm
          by_cases h1 : @Eq Int sty 1
          · have hlv : lastVa (loadsL (segs.take (i + 1))) = sva := by
              rw [hld]
              show lastVa (loadsL (segs.take i) ++ (if @Eq Int sty 1 then _ else _)) = _
              rw [if_pos h1]
              exact lastVa_snoc _ _
            have hr := hris h1
            obtain ⟨q1, q2, q3⟩ := hz.2.2 h1
            have q4 := hpo q1
            by_cases h2 : sal ≤ 1
            · refine W1 (And.intro @e1 (And.intro @e3 (And.intro @e5 @e6))) @DD trivial ?_
              exact ⟨q - 1, by omega, _, _, Gh.sel [0, 1] (by decide) (hz0 hZ), i + 1, by omega, rfl, by exact lk @e1, by exact lk @e3, by rw [hlv]; exact lk @e5, by exact lk @e6⟩
            · have h3 : sal % 2 = 0 := hev.elim (fun h => absurd h h2) id
              have hrem : Ab.abin .rem (.int .u64 sal) (.int .u64 2) = some (.int .u64 (sal % 2)) := rem_c (by omega) (by omega)
              refine W1 (And.intro @e1 (And.intro @e3 (And.intro @e5 @e6))) (And.intro @DD @hrem) trivial ?_
              exact ⟨q - 1, by omega, _, _, Gh.sel [0, 1] (by decide) (hz0 hZ), i + 1, by omega, rfl, by exact lk @e1, by exact lk @e3, by rw [hlv]; exact lk @e5, by exact lk @e6⟩
          · have hlv : lastVa (loadsL (segs.take (i + 1))) = lastVa (loadsL (segs.take i)) := by
              rw [hld]
              show lastVa (loadsL (segs.take i) ++ (if @Eq Int sty 1 then _ else _)) = _
              rw [if_neg h1]
              show lastVa (loadsL (segs.take i) ++ []) = _
              rw [List.append_nil]
            refine W1 (And.intro @e1 (And.intro @e3 (And.intro @e5 @e6))) @DD trivial ?_
            exact ⟨q - 1, by omega, _, _, Gh.sel [0, 1] (by decide) (hz0 hZ), i + 1, by omega, rfl, by exact lk @e1, by exact lk @e3, by rw [hlv, hlv0]; exact lk @e5, by exact lk @e6⟩
        · generalize bytesAt segs si so sz sown = bl at hbl
          by_cases h1 : @Eq Int sty 1
          · have hlv : lastVa (loadsL (segs.take (i + 1))) = sva := by
              rw [hld]
              show lastVa (loadsL (segs.take i) ++ (if @Eq Int sty 1 then _ else _)) = _
              rw [if_pos h1]
              exact lastVa_snoc _ _
            have hr := hris h1
            obtain ⟨q1, q2, q3⟩ := hz.2.2 h1
            have q4 := hpo q1
            by_cases h2 : sal ≤ 1
            · refine W1 (And.intro @e1 (And.intro @e3 (And.intro @e5 @e6))) @DD trivial ?_
              exact ⟨q - 1, by omega, _, _, Gh.sel [0, 1] (by decide) (hz0 hZ), i + 1, by omega, rfl, by exact lk @e1, by exact lk @e3, by rw [hlv]; exact lk @e5, by exact lk @e6⟩
            · have h3 : sal % 2 = 0 := hev.elim (fun h => absurd h h2) id
              have hrem : Ab.abin .rem (.int .u64 sal) (.int .u64 2) = some (.int .u64 (sal % 2)) := rem_c (by omega) (by omega)
              refine W1 (And.intro @e1 (And.intro @e3 (And.intro @e5 @e6))) (And.intro @DD @hrem) trivial ?_
              exact ⟨q - 1, by omega, _, _, Gh.sel [0, 1] (by decide) (hz0 hZ), i + 1, by omega, rfl, by exact lk @e1, by exact lk @e3, by rw [hlv]; exact lk @e5, by exact lk @e6⟩
          · have hlv : lastVa (loadsL (segs.take (i + 1))) = lastVa (loadsL (segs.take i)) := by
              rw [hld]
              show lastVa (loadsL (segs.take i) ++ (if @Eq Int sty 1 then _ else _)) = _
              rw [if_neg h1]
              show lastVa (loadsL (segs.take i) ++ []) = _
              rw [List.append_nil]
            refine W1 (And.intro @e1 (And.intro @e3 (And.intro @e5 @e6))) @DD trivial ?_
            exact ⟨q - 1, by omega, _, _, Gh.sel [0, 1] (by decide) (hz0 hZ), i + 1, by omega, rfl, by exact lk @e1, by exact lk @e3, by rw [hlv, hlv0]; exact lk @e5, by exact lk @e6⟩
      obtain rfl : i = segs.length := by omega
      refine W1 (And.intro @e1 (And.intro @e3 (And.intro @e5 @e6))) @DD trivial ?_
      refine w_lpG (fun q e s => ∃ i : Nat, q + i = secs.length ∧ s = [.var [.bool true, .bool big, .int .u8 o, .int .u8 ab, .int .u16 ty, .int .u16 ma, .int .u32 fl, .int .u64 en, .sl dSeg segs, .sl dSec secs, .int .i64 st], .var [.bool true, .bool big, .int .u8 o, .int .u8 ab, .int .u16 ty, .int .u16 ma, .int .u32 fl, .int .u64 en, .nilS, .nilS, .int .i64 0]] ∧ e 1 = .ptr 0 0 ∧ e 3 = .bool true ∧ e 8 = .int .i64 i) secs.length ?_ ?_
      · exact ⟨0, rfl, rfl, by exact lk @e1, by exact lk @e3, by exact lk trivial⟩
      clear e1 e3 e5 e6
      rintro q e s ⟨i, hi, rfl, e1, e3, e8⟩
      by_cases hq : i < secs.length
      · obtain ⟨x, hx⟩ : ∃ x, secs[i]? = some x := ⟨secs[i], List.getElem?_eq_getElem hq⟩
        have hxm := List.mem_of_getElem? hx
        have hx0 := hMN x hxm
        have hz := secC_zero (ok.sec x hxm)
        have hbl := place_bytes hz.1 hx0.off.1 hx0.sz.1
        obtain ⟨nm, sty, sfl, sad, ssi, sli, ssf, sal, sen, ⟨si, so, sz, sown, u⟩, u2⟩ := x
        obtain ⟨sz, rfl⟩ : ∃ v : Int, v = sz := ⟨sz, rfl⟩
        obtain ⟨ssi, rfl⟩ : ∃ v : Int, v = ssi := ⟨ssi, rfl⟩
        have hx0 : SecN nm sty sfl sad ssi sli sal sen si so sz sown := hx0
        dsimp only at hz hbl
        have bsz := hx0.sz
        have bow := hx0.ow
        refine W1 (And.intro @e1 (And.intro @e3 @e8)) @DD trivial ?_
        refine bytes_spec ⟨⟨hx0.off.1, hx0.off.2, hx0.sz.1, hx0.sz.2⟩⟩ ⟨⟨by omega, hx0.ow⟩⟩ hL (fun h0 => ?_) ?_
        · rw [h0] at hbl
          have hs0 : sz = 0 := hbl.symm
          by_cases h1 : @Eq Int sty 0
          · refine W1 (And.intro @e1 (And.intro @e3 @e8)) @DD trivial ?_
            exact ⟨q - 1, by omega, _, _, Gh.sel [0, 1] (by decide) (hz0 hZ), i + 1, by omega, rfl, by exact lk @e1, by exact lk @e3, by exact lk @e8⟩
          by_cases h2 : @Eq Int sty 8
          · refine W1 (And.intro @e1 (And.intro @e3 @e8)) @DD trivial ?_
            exact ⟨q - 1, by omega, _, _, Gh.sel [0, 1] (by decide) (hz0 hZ), i + 1, by omega, rfl, by exact lk @e1, by exact lk @e3, by exact lk @e8⟩
          have h3 : sz = ssi := by rw [hz.2.1]; exact if_neg (fun h => h.elim h1 h2)
          refine W1 (And.intro @e1 (And.intro @e3 @e8)) @DD trivial ?_
          exact ⟨q - 1, by omega, _, _, Gh.sel [0, 1] (by decide) (hz0 hZ), i + 1, by omega, rfl, by exact lk @e1, by exact lk @e3, by exact lk @e8⟩
        · generalize bytesAt segs si so sz sown = bl at hbl
          by_cases h1 : @Eq Int sty 0
          · refine W1 (And.intro @e1 (And.intro @e3 @e8)) @DD trivial ?_
            exact ⟨q - 1, by omega, _, _, Gh.sel [0, 1] (by decide) (hz0 hZ), i + 1, by omega, rfl, by exact lk @e1, by exact lk @e3, by exact lk @e8⟩
          by_cases h2 : @Eq Int sty 8
          · refine W1 (And.intro @e1 (And.intro @e3 @e8)) @DD trivial ?_
            exact ⟨q - 1, by omega, _, _, Gh.sel [0, 1] (by decide) (hz0 hZ), i + 1, by omega, rfl, by exact lk @e1, by exact lk @e3, by exact lk @e8⟩
          have h3 : sz = ssi := by rw [hz.2.1]; exact if_neg (fun h => h.elim h1 h2)
          refine W1 (And.intro @e1 (And.intro @e3 @e8)) @DD trivial ?_
          exact ⟨q - 1, by omega, _, _, Gh.sel [0, 1] (by decide) (hz0 hZ), i + 1, by omega, rfl, by exact lk @e1, by exact lk @e3, by exact lk @e8⟩
      obtain rfl : i = secs.length := by omega
      refine W1 (And.intro @e1 (And.intro @e3 @e8)) @DD trivial ?_
      rfl
  · subst hw
    refine check0_spec ⟨he⟩ (fun h => by rw [hb1] at h; cases h) (fun _ => ?_)
    rw [hb1]
    refine W1 trivial @DD trivial ?_
    refine check_spec ⟨he⟩ ⟨hGN⟩ ⟨hMN⟩ (fun h0 => ?_) (fun h1 => ?_)
    rotate_left
    · refine W1 trivial @DD trivial ?_
      rfl
    have ok := modelOk h0
    refine W1 trivial @DD trivial ?_
    refine w_lpG (fun q e s => ∃ i : Nat, q + i = segs.length ∧ s = [.var [.bool false, .bool big, .int .u8 o, .int .u8 ab, .int .u16 ty, .int .u16 ma, .int .u32 fl, .int .u64 en, .sl dSeg segs, .sl dSec secs, .int .i64 st], .var [.bool false, .bool big, .int .u8 o, .int .u8 ab, .int .u16 ty, .int .u16 ma, .int .u32 fl, .int .u64 en, .nilS, .nilS, .int .i64 0]] ∧ e 1 = .ptr 0 0 ∧ e 3 = .bool true ∧ e 5 = .int .u64 (lastVa (loadsL (segs.take i))) ∧ e 6 = .int .i64 i) segs.length ?_ ?_
    · exact ⟨0, rfl, rfl, by exact lk trivial, by exact lk trivial, by exact lk trivial, by exact lk trivial⟩
    rintro q e s ⟨i, hi, rfl, e1, e3, e5, e6⟩
    by_cases hq : i < segs.length
    · obtain ⟨x, hx⟩ : ∃ x, segs[i]? = some x := ⟨segs[i], List.getElem?_eq_getElem hq⟩
      have hxm := List.mem_of_getElem? hx
      have hx0 := hGN x hxm
      have hz := segC_zero (ok.seg x hxm)
      have hld : loadsL (segs.take (i + 1)) = loadsL (segs.take i) ++ loadsL [x] := by rw [List.take_add_one, hx, loads_app]; rfl
      have hris : @Eq Int x.1 1 → lastVa (loadsL (segs.take i)) ≤ x.2.2.1 := fun h => rising_last ok.ris (loads_at hx h) hx0.va.1
      have hev := andI_even hx0.al hz.1
      have hbl := place_bytes hz.2.1 hx0.off.1 hx0.sz.1
      have hpo : @Eq Int x.2.2.2.2.2.2.1.1 (-1) → @Eq Int x.2.2.2.2.2.2.1.2.2.1 (x.2.2.2.2.2.2.1.2.2.2.1.length : Int) := fun h => by
        have := hz.2.1
        rw [h] at this
        exact (place_own this).2
      obtain ⟨sty, sfl, sva, spa, sme, sal, ⟨si, so, sz, sown, u⟩, u2⟩ := x
      obtain ⟨sz, rfl⟩ : ∃ v : Int, v = sz := ⟨sz, rfl⟩
      obtain ⟨sal, rfl⟩ : ∃ v : Int, v = sal := ⟨sal, rfl⟩
      obtain ⟨sva, rfl⟩ : ∃ v : Int, v = sva := ⟨sva, rfl⟩
      obtain ⟨sme, rfl⟩ : ∃ v : Int, v = sme := ⟨sme, rfl⟩
      have hx0 : SegN sty sva spa sme sal si so sz sown := hx0
      dsimp only at hz hris hev hbl hpo
      have bal := hx0.al
      have bsz := hx0.sz
      have bow := hx0.ow
      generalize hlv0 : lastVa (loadsL (segs.take i)) = lv at *
      refine W1 (And.intro @e1 (And.intro @e3 (And.intro @e5 @e6))) @DD trivial ?_
      refine bytes_spec ⟨⟨hx0.off.1, hx0.off.2, hx0.sz.1, hx0.sz.2⟩⟩ ⟨⟨by omega, hx0.ow⟩⟩ hL (fun h0 => ?_) ?_
      · rw [h0] at hbl
        have hs0 : sz = 0 := hbl.symm
        by_cases h1 : @Eq Int sty 1
        · have hlv : lastVa (loadsL (segs.take (i + 1))) = sva := by
            rw [hld]
            show lastVa (loadsL (segs.take i) ++ (if @Eq Int sty 1 then _ else _)) = _
            rw [if_pos h1]
            exact lastVa_snoc _ _
          have hr := hris h1
          obtain ⟨q1, q2, q3⟩ := hz.2.2 h1
          have q4 := hpo q1
          by_cases h2 : sal ≤ 1
          · refine W1 (And.intro @e1 (And.intro @e3 (And.intro @e5 @e6))) @DD trivial ?_
            exact ⟨q - 1, by omega, _, _, Gh.sel [0, 1] (by decide) (hz0 hZ), i + 1, by omega, rfl, by exact lk @e1, by exact lk @e3, by rw [hlv]; exact lk @e5, by exact lk @e6⟩
          · have h3 : sal % 2 = 0 := hev.elim (fun h => absurd h h2) id
            have hrem : Ab.abin .rem (.int .u64 sal) (.int .u64 2) = some (.int .u64 (sal % 2)) := rem_c (by omega) (by omega)
            refine W1 (And.intro @e1 (And.intro @e3 (And.intro @e5 @e6))) (And.intro @DD @hrem) trivial ?_
            exact ⟨q - 1, by omega, _, _, Gh.sel [0, 1] (by decide) (hz0 hZ), i + 1, by omega, rfl, by exact lk @e1, by exact lk @e3, by rw [hlv]; exact lk @e5, by exact lk @e6⟩
        · have hlv : lastVa (loadsL (segs.take (i + 1))) = lastVa (loadsL (segs.take i)) := by
            rw [hld]
            show lastVa (loadsL (segs.take i) ++ (if @Eq Int sty 1 then _ else _)) = _
            rw [if_neg h1]
            show lastVa (loadsL (segs.take i) ++ []) = _
            rw [List.append_nil]
          refine W1 (And.intro @e1 (And.intro @e3 (And.intro @e5 @e6))) @DD trivial ?_
          exact ⟨q - 1, by omega, _, _, Gh.sel [0, 1] (by decide) (hz0 hZ), i + 1, by omega, rfl, by exact lk @e1, by exact lk @e3, by rw [hlv, hlv0]; exact lk @e5, by exact lk @e6⟩
      · generalize bytesAt segs si so sz sown = bl at hbl
        by_cases h1 : @Eq Int sty 1
        · have hlv : lastVa (loadsL (segs.take (i + 1))) = sva := by
            rw [hld]
            show lastVa (loadsL (segs.take i) ++ (if @Eq Int sty 1 then _ else _)) = _
            rw [if_pos h1]
            exact lastVa_snoc _ _
          have hr := hris h1
          obtain ⟨q1, q2, q3⟩ := hz.2.2 h1
          have q4 := hpo q1
          by_cases h2 : sal ≤ 1
          · refine W1 (And.intro @e1 (And.intro @e3 (And.intro @e5 @e6))) @DD trivial ?_
            exact ⟨q - 1, by omega, _, _, Gh.sel [0, 1] (by decide) (hz0 hZ), i + 1, by omega, rfl, by exact lk @e1, by exact lk @e3, by rw [hlv]; exact lk @e5, by exact lk @e6⟩
          · have h3 : sal % 2 = 0 := hev.elim (fun h => absurd h h2) id
            have hrem : Ab.abin .rem (.int .u64 sal) (.int .u64 2) = some (.int .u64 (sal % 2)) := rem_c (by omega) (by omega)
            refine W1 (And.intro @e1 (And.intro @e3 (And.intro @e5 @e6))) (And.intro @DD @hrem) trivial ?_
            exact ⟨q - 1, by omega, _, _, Gh.sel [0, 1] (by decide) (hz0 hZ), i + 1, by omega, rfl, by exact lk @e1, by exact lk @e3, by rw [hlv]; exact lk @e5, by exact lk @e6⟩
        · have hlv : lastVa (loadsL (segs.take (i + 1))) = lastVa (loadsL (segs.take i)) := by
            rw [hld]
            show lastVa (loadsL (segs.take i) ++ (if @Eq Int sty 1 then _ else _)) = _
            rw [if_neg h1]
            show lastVa (loadsL (segs.take i) ++ []) = _
            rw [List.append_nil]
          refine W1 (And.intro @e1 (And.intro @e3 (And.intro @e5 @e6))) @DD trivial ?_
          exact ⟨q - 1, by omega, _, _, Gh.sel [0, 1] (by decide) (hz0 hZ), i + 1, by omega, rfl, by exact lk @e1, by exact lk @e3, by rw [hlv, hlv0]; exact lk @e5, by exact lk @e6⟩
    obtain rfl : i = segs.length := by omega
    refine W1 (And.intro @e1 (And.intro @e3 (And.intro @e5 @e6))) @DD trivial ?_
    refine w_lpG (fun q e s => ∃ i : Nat, q + i = secs.length ∧ s = [.var [.bool false, .bool big, .int .u8 o, .int .u8 ab, .int .u16 ty, .int .u16 ma, .int .u32 fl, .int .u64 en, .sl dSeg segs, .sl dSec secs, .int .i64 st], .var [.bool false, .bool big, .int .u8 o, .int .u8 ab, .int .u16 ty, .int .u16 ma, .int .u32 fl, .int .u64 en, .nilS, .nilS, .int .i64 0]] ∧ e 1 = .ptr 0 0 ∧ e 3 = .bool true ∧ e 8 = .int .i64 i) secs.length ?_ ?_
    · exact ⟨0, rfl, rfl, by exact lk @e1, by exact lk @e3, by exact lk trivial⟩
    clear e1 e3 e5 e6
    rintro q e s ⟨i, hi, rfl, e1, e3, e8⟩
    by_cases hq : i < secs.length
    · obtain ⟨x, hx⟩ : ∃ x, secs[i]? = some x := ⟨secs[i], List.getElem?_eq_getElem hq⟩
      have hxm := List.mem_of_getElem? hx
      have hx0 := hMN x hxm
      have hz := secC_zero (ok.sec x hxm)
      have hbl := place_bytes hz.1 hx0.off.1 hx0.sz.1
      obtain ⟨nm, sty, sfl, sad, ssi, sli, ssf, sal, sen, ⟨si, so, sz, sown, u⟩, u2⟩ := x
      obtain ⟨sz, rfl⟩ : ∃ v : Int, v = sz := ⟨sz, rfl⟩
      obtain ⟨ssi, rfl⟩ : ∃ v : Int, v = ssi := ⟨ssi, rfl⟩
      have hx0 : SecN nm sty sfl sad ssi sli sal sen si so sz sown := hx0
      dsimp only at hz hbl
      have bsz := hx0.sz
      have bow := hx0.ow
      refine W1 (And.intro @e1 (And.intro @e3 @e8)) @DD trivial ?_
      refine bytes_spec ⟨⟨hx0.off.1, hx0.off.2, hx0.sz.1, hx0.sz.2⟩⟩ ⟨⟨by omega, hx0.ow⟩⟩ hL (fun h0 => ?_) ?_
      · rw [h0] at hbl
        have hs0 : sz = 0 := hbl.symm
        by_cases h1 : @Eq Int sty 0
        · refine W1 (And.intro @e1 (And.intro @e3 @e8)) @DD trivial ?_
          exact ⟨q - 1, by omega, _, _, Gh.sel [0, 1] (by decide) (hz0 hZ), i + 1, by omega, rfl, by exact lk @e1, by exact lk @e3, by exact lk @e8⟩
        by_cases h2 : @Eq Int sty 8
        · refine W1 (And.intro @e1 (And.intro @e3 @e8)) @DD trivial ?_
          exact ⟨q - 1, by omega, _, _, Gh.sel [0, 1] (by decide) (hz0 hZ), i + 1, by omega, rfl, by exact lk @e1, by exact lk @e3, by exact lk @e8⟩
        have h3 : sz = ssi := by rw [hz.2.1]; exact if_neg (fun h => h.elim h1 h2)
        refine W1 (And.intro @e1 (And.intro @e3 @e8)) @DD trivial ?_
        exact ⟨q - 1, by omega, _, _, Gh.sel [0, 1] (by decide) (hz0 hZ), i + 1, by omega, rfl, by exact lk @e1, by exact lk @e3, by exact lk @e8⟩
      · generalize bytesAt segs si so sz sown = bl at hbl
        by_cases h1 : @Eq Int sty 0
        · refine W1 (And.intro @e1 (And.intro @e3 @e8)) @DD trivial ?_
          exact ⟨q - 1, by omega, _, _, Gh.sel [0, 1] (by decide) (hz0 hZ), i + 1, by omega, rfl, by exact lk @e1, by exact lk @e3, by exact lk @e8⟩
        by_cases h2 : @Eq Int sty 8
        · refine W1 (And.intro @e1 (And.intro @e3 @e8)) @DD trivial ?_
          exact ⟨q - 1, by omega, _, _, Gh.sel [0, 1] (by decide) (hz0 hZ), i + 1, by omega, rfl, by exact lk @e1, by exact lk @e3, by exact lk @e8⟩
        have h3 : sz = ssi := by rw [hz.2.1]; exact if_neg (fun h => h.elim h1 h2)
        refine W1 (And.intro @e1 (And.intro @e3 @e8)) @DD trivial ?_
        exact ⟨q - 1, by omega, _, _, Gh.sel [0, 1] (by decide) (hz0 hZ), i + 1, by omega, rfl, by exact lk @e1, by exact lk @e3, by exact lk @e8⟩
    obtain rfl : i = secs.length := by omega
    refine W1 (And.intro @e1 (And.intro @e3 @e8)) @DD trivial ?_
    rfl
theorem mbare_walk (x0 : ((.st (.cons (.st (.cons (.st (.cons .bool (.cons .bool .nil))) (.cons (.int .u8) (.cons (.int .u8) .nil)))) (.cons (.int .u16) (.cons (.int .u16) (.cons (.int .u32) (.cons (.int .u64) (.cons (.sl (.st (.cons (.int .u32) (.cons (.int .u32) (.cons (.int .u64) (.cons (.int .u64) (.cons (.int .u64) (.cons (.int .u64) (.cons (.st (.cons (.int .i64) (.cons (.int .u64) (.cons (.int .u64) (.cons (.sl (.int .u8)) .nil))))) .nil))))))))) (.cons (.sl (.st (.cons (.int .u32) (.cons (.int .u32) (.cons (.int .u64) (.cons (.int .u64) (.cons (.int .u64) (.cons (.int .u32) (.cons (.int .u32) (.cons (.int .u64) (.cons (.int .u64) (.cons (.st (.cons (.int .i64) (.cons (.int .u64) (.cons (.int .u64) (.cons (.sl (.int .u8)) .nil))))) .nil)))))))))))) (.cons (.int .i64) .nil))))))))) : Ab.D).T) (g0 : ((.st (.cons (.st (.cons (.st (.cons .bool (.cons .bool .nil))) (.cons (.int .u8) (.cons (.int .u8) .nil)))) (.cons (.int .u16) (.cons (.int .u16) (.cons (.int .u32) (.cons (.int .u64) (.cons (.sl (.st (.cons (.int .u32) (.cons (.int .u32) (.cons (.int .u64) (.cons (.int .u64) (.cons (.int .u64) (.cons (.int .u64) (.cons (.st (.cons (.int .i64) (.cons (.int .u64) (.cons (.int .u64) (.cons (.sl (.int .u8)) .nil))))) .nil))))))))) (.cons (.sl (.st (.cons (.int .u32) (.cons (.int .u32) (.cons (.int .u64) (.cons (.int .u64) (.cons (.int .u64) (.cons (.int .u32) (.cons (.int .u32) (.cons (.int .u64) (.cons (.int .u64) (.cons (.st (.cons (.int .i64) (.cons (.int .u64) (.cons (.int .u64) (.cons (.sl (.int .u8)) .nil))))) .nil)))))))))))) (.cons (.int .i64) .nil))))))))) : Ab.D).good x0) :
    PCalls Try.prog 5 [pvD (.st (.cons (.st (.cons (.st (.cons .bool (.cons .bool .nil))) (.cons (.int .u8) (.cons (.int .u8) .nil)))) (.cons (.int .u16) (.cons (.int .u16) (.cons (.int .u32) (.cons (.int .u64) (.cons (.sl (.st (.cons (.int .u32) (.cons (.int .u32) (.cons (.int .u64) (.cons (.int .u64) (.cons (.int .u64) (.cons (.int .u64) (.cons (.st (.cons (.int .i64) (.cons (.int .u64) (.cons (.int .u64) (.cons (.sl (.int .u8)) .nil))))) .nil))))))))) (.cons (.sl (.st (.cons (.int .u32) (.cons (.int .u32) (.cons (.int .u64) (.cons (.int .u64) (.cons (.int .u64) (.cons (.int .u32) (.cons (.int .u32) (.cons (.int .u64) (.cons (.int .u64) (.cons (.st (.cons (.int .i64) (.cons (.int .u64) (.cons (.int .u64) (.cons (.sl (.int .u8)) .nil))))) .nil)))))))))))) (.cons (.int .i64) .nil))))))))) x0] [] fun p _ => p = .bool true := by
  obtain ⟨⟨⟨w, big, _⟩, o, ab, _⟩, ty, ma, fl, en, segs, secs, st, _⟩ := x0
  obtain ⟨_, _, _, _, g4, g5, g6, _⟩ := g0
  exact mbare_core (u64_of g4) (segG_of g5.2) (secG_of g6.2)
end
end Go.Proofs.Ytalhipbbomagoaa.PvW
