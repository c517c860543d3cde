/- The walk of StripTwice. No statement of the set is proved in this text. -/
import Derived.Test.YtalhipbbomagoaaPvStripG
import Derived.Test.YtalhipbbomagoaaPvModelL
namespace Go.Proofs.Ytalhipbbomagoaa.PvW
open Go.RowKit Go.Proofs.Ytalhipbbomagoaa.Cd Go.Proofs.Ytalhipbbomagoaa.AbP Go.Proofs.Ytalhipbbomagoaa.Num Go.Proofs.Ytalhipbbomagoaa.Pv
set_option maxRecDepth 100000
set_option maxHeartbeats 4000000
set_option linter.unusedVariables false
set_option linter.unusedSimpArgs false
section
variable {K : PV → List OB → Prop} {w big : Bool} {o ab ty ma fl en st : Int} {segs : List dSeg.T} {secs : List dSec.T}
theorem bclone_frz {l : List Int} (hm : Om (l.length ≤ 1000000)) (hk : K (.sl (.int .u8) l) []) : PCalls Try.prog 73 [.sl (.int .u8) l] [] K := by
  have hm := hm.o
  refine told_callP bytes_Clone.told fun Z hZ => ?_
  unfold bytes_Clone.c
  refine W1 trivial trivial trivial ?_
  refine nl_Sl fun r hr => ?_
  cases r
  · show pops _ _ _ _ _ (putE _ _ (.bool false)) _
    refine Wn1 trivial trivial (@oArr 0 (.int .u8)) ?_
    apply x_frz 2; (repeat any_goals first | exact mp_z | apply mp_s | exact rs_z | apply rs_t | apply rs_n | apply rs_c); (repeat any_goals first | (apply Lk.i; (simp only [↓LL, ↓reduceIte, Nat.reduceEqDiff]; (try rfl); done)) | (apply Rf.i; first | rfl | assumption) | (apply Vl.i; ((try simp (disch := omega) only [VV, ↓reduceIte, peqI, encP]); (try rfl); done)) | (apply Am.i; assumption) | (apply Pu.i; ((try simp only [↓reduceIte, UU, RR, Nat.reduceAdd, Nat.reduceEqDiff, cellsP, putP, fillQ, flatQ, shP, sh1, encP]); (try rfl); done)) | (apply Om.i; ((try simp only [MM]); (try omega); done)) | (apply Vw.i; first | exact As.sl _ _ | exact As.nil _ | exact As.arr _ _ _ _ rfl (by ((try simp only [MM]); (try omega); done)) | exact As.row _ _ _ _ _ rfl rfl | exact Src.str _ | exact Src.as (As.sl _ _) | exact Src.as (As.nil _) | exact Src.as (As.arr _ _ _ _ rfl (by ((try simp only [MM]); (try omega); done))) | exact Src.as (As.row _ _ _ _ _ rfl rfl))); (all_goals fail_if_success apply Mk.i)
    refine W1 trivial trivial trivial ?_
    exact hk
  · obtain rfl := hr rfl
    show pops _ _ _ _ _ (putE _ _ (.bool true)) _
    refine Wn1 trivial trivial trivial ?_
    apply x_virt 2 (.int .u8); (repeat any_goals first | exact mp_z | apply mp_s | exact rs_z | apply rs_t | apply rs_n | apply rs_c); (repeat any_goals first | (apply Lk.i; (simp only [↓LL, ↓reduceIte, Nat.reduceEqDiff]; (try rfl); done)) | (apply Rf.i; first | rfl | assumption) | (apply Vl.i; ((try simp (disch := omega) only [VV, ↓reduceIte, peqI, encP]); (try rfl); done)) | (apply Am.i; assumption) | (apply Pu.i; ((try simp only [↓reduceIte, UU, RR, Nat.reduceAdd, Nat.reduceEqDiff, cellsP, putP, fillQ, flatQ, shP, sh1, encP]); (try rfl); done)) | (apply Om.i; ((try simp only [MM]); (try omega); done)) | (apply Vw.i; first | exact As.sl _ _ | exact As.nil _ | exact As.arr _ _ _ _ rfl (by ((try simp only [MM]); (try omega); done)) | exact As.row _ _ _ _ _ rfl rfl | exact Src.str _ | exact Src.as (As.sl _ _) | exact Src.as (As.nil _) | exact Src.as (As.arr _ _ _ _ rfl (by ((try simp only [MM]); (try omega); done))) | exact Src.as (As.row _ _ _ _ _ rfl rfl))); (all_goals fail_if_success apply Mk.i)
    apply x_frz 2; (repeat any_goals first | exact mp_z | apply mp_s | exact rs_z | apply rs_t | apply rs_n | apply rs_c); (repeat any_goals first | (apply Lk.i; (simp only [↓LL, ↓reduceIte, Nat.reduceEqDiff]; (try rfl); done)) | (apply Rf.i; first | rfl | assumption) | (apply Vl.i; ((try simp (disch := omega) only [VV, ↓reduceIte, peqI, encP]); (try rfl); done)) | (apply Am.i; assumption) | (apply Pu.i; ((try simp only [↓reduceIte, UU, RR, Nat.reduceAdd, Nat.reduceEqDiff, cellsP, putP, fillQ, flatQ, shP, sh1, encP]); (try rfl); done)) | (apply Om.i; ((try simp only [MM]); (try omega); done)) | (apply Vw.i; first | exact As.sl _ _ | exact As.nil _ | exact As.arr _ _ _ _ rfl (by ((try simp only [MM]); (try omega); done)) | exact As.row _ _ _ _ _ rfl rfl | exact Src.str _ | exact Src.as (As.sl _ _) | exact Src.as (As.nil _) | exact Src.as (As.arr _ _ _ _ rfl (by ((try simp only [MM]); (try omega); done))) | exact Src.as (As.row _ _ _ _ _ rfl rfl))); (all_goals fail_if_success apply Mk.i)
    refine W1 trivial trivial trivial ?_
    exact hk
theorem img_spec (hl : Om (segs.length ≤ 1000)) (hL : ∀ s ∈ segs, s.2.2.2.2.2.2.1.2.2.2.1.length ≤ 1000000) (hk : K (.agg [.int .u64 en, .sl dReg (imgL segs)]) []) :
    PCalls Try.prog 34 [.agg [.bool w, .bool big, .int .u8 o, .int .u8 ab, .int .u16 ty, .int .u16 ma, .int .u32 fl, .int .u64 en, .sl dSeg segs, .sl dSec secs, .int .i64 st]] [] K := by
  have hl := hl.o
  refine told_callP image_Model.told fun Z hZ => ?_
  unfold image_Model.c
  refine W1 trivial @DD trivial ?_
  apply x_virtV 2 1 dReg; (repeat any_goals first | exact mp_z | apply mp_s | exact rs_z | apply rs_t | apply rs_n | apply rs_c); (repeat any_goals first | (apply Lk.i; (simp only [↓LL, ↓reduceIte, Nat.reduceEqDiff]; (try rfl); done)) | (apply Rf.i; first | rfl | assumption) | (apply Vl.i; ((try simp (disch := omega) only [VV, ↓reduceIte, peqI, encP]); (try rfl); done)) | (apply Am.i; assumption) | (apply Pu.i; ((try simp only [↓reduceIte, UU, RR, Nat.reduceAdd, Nat.reduceEqDiff, cellsP, putP, fillQ, flatQ, shP, sh1, encP]); (try rfl); done)) | (apply Om.i; ((try simp only [MM]); (try omega); done)) | (apply Vw.i; first | exact As.sl _ _ | exact As.nil _ | exact As.arr _ _ _ _ rfl (by ((try simp only [MM]); (try omega); done)) | exact As.row _ _ _ _ _ rfl rfl | exact Src.str _ | exact Src.as (As.sl _ _) | exact Src.as (As.nil _) | exact Src.as (As.arr _ _ _ _ rfl (by ((try simp only [MM]); (try omega); done))) | exact Src.as (As.row _ _ _ _ _ rfl rfl))); (all_goals fail_if_success apply Mk.i)
  refine w_lpG (fun q e s => ∃ i : Nat, q + i = segs.length ∧ s = [.var [.bool w, .bool big, .int .u8 o, .int .u8 ab, .int .u16 ty, .int .u16 ma, .int .u32 fl, .int .u64 en, .sl dSeg segs, .sl dSec secs, .int .i64 st], .var [.int .u64 0, .nilS], .var [.int .u64 en, .osl 3 (imgL (segs.take i)).length], .arr dReg (imgL (segs.take i))] ∧ e 1 = .ptr 0 0 ∧ e 2 = .ptr 1 0 ∧ e 3 = .ptr 2 0 ∧ e 10 = .sl dSeg segs ∧ e 11 = .int .i64 segs.length ∧ e 12 = .int .i64 i) segs.length ?_ ?_
  · exact ⟨0, rfl, rfl, by exact lk trivial, by exact lk trivial, by exact lk trivial, by exact lk trivial, by exact lk trivial, by exact lk trivial⟩
  rintro q e s ⟨i, hi, rfl, e1, e2, e3, e10, e11, e12⟩
  by_cases hq : i < segs.length
  · obtain ⟨x, hx⟩ : ∃ x, segs[i]? = some x := ⟨segs[i], List.getElem?_eq_getElem hq⟩
    have hx0 := hL x (List.mem_of_getElem? hx)
    have hsn := img_snoc hx
    have hil := img_len (segs.take i)
    rw [List.length_take] at hil
    generalize imgL (segs.take i) = G at *
    obtain ⟨sty, sfl, sva, spa, sme, sal, ⟨si, so, sz, sown, u⟩, u2⟩ := x
    dsimp only at hx0
    by_cases h1 : @Eq Int sty 1
    · have hsn : imgL (segs.take (i + 1)) = G ++ [(sva, sme, sfl, sown, PUnit.unit)] := hsn.trans (congrArg (G ++ ·) (if_pos h1))
      refine W1 (And.intro @e1 (And.intro @e2 (And.intro @e3 (And.intro @e10 (And.intro @e11 @e12))))) @DD @bclone_frz ?_
      refine W1 (And.intro @e1 (And.intro @e2 (And.intro @e3 (And.intro @e10 (And.intro @e11 @e12))))) @DD (@oArr 5 dReg) ?_
      exact ⟨q - 1, by omega, _, _, Gh.sel [0, 1, 2, 3] (by decide) (hz0 hZ), i + 1, by omega, by rw [hsn, List.length_append]; rfl, by exact lk @e1, by exact lk @e2, by exact lk @e3, by exact lk @e10, by exact lk @e11, by exact lk @e12⟩
    · have hsn : imgL (segs.take (i + 1)) = G := hsn.trans ((congrArg (G ++ ·) (if_neg h1)).trans (List.append_nil G))
      refine W1 (And.intro @e1 (And.intro @e2 (And.intro @e3 (And.intro @e10 (And.intro @e11 @e12))))) @DD trivial ?_
      exact ⟨q - 1, by omega, _, _, Gh.sel [0, 1, 2, 3] (by decide) (hz0 hZ), i + 1, by omega, by rw [hsn]; rfl, by exact lk @e1, by exact lk @e2, by exact lk @e3, by exact lk @e10, by exact lk @e11, by exact lk @e12⟩
  obtain rfl : i = segs.length := by omega
  rw [List.take_length]
  refine Wn1 (And.intro @e1 (And.intro @e2 (And.intro @e3 (And.intro @e10 (And.intro @e11 @e12))))) @DD trivial ?_
  refine ghW (Gh.frzC (b := 1) (j := 1) (b' := 3) (D' := dReg) (l := imgL segs) rfl rfl rfl rfl) ?_
  refine W1 (And.intro @e1 (And.intro @e2 (And.intro @e3 (And.intro @e10 (And.intro @e11 @e12))))) @DD trivial ?_
  exact hk
theorem rimg_spec {l : List dReg.T} (hl : Om (l.length ≤ 1000000)) (hL : ∀ r ∈ l, r.2.2.2.1.length ≤ 1000000) (hk : K (.bool true) []) :
    PCalls Try.prog 33 [.agg [.int .u64 en, .sl dReg l], .agg [.int .u64 en, .sl dReg l]] [] K := by
  have hl := hl.o
  refine told_callP bezantref14_SameImage.told fun Z hZ => ?_
  unfold bezantref14_SameImage.c
  have hbs : ∀ s : List UInt8, (s == s) = true := fun s => beq_self_eq_true s
  refine W1 trivial @DD trivial ?_
  refine w_lpG (fun q e s => ∃ i : Nat, q + i = l.length ∧ s = [.var [.int .u64 en, .sl dReg l], .var [.int .u64 en, .sl dReg l]] ∧ e 2 = .ptr 0 0 ∧ e 3 = .ptr 1 0 ∧ e 5 = .int .i64 i) l.length ?_ ?_
  · exact ⟨0, rfl, rfl, by exact lk trivial, by exact lk trivial, by exact lk trivial⟩
  rintro q e s ⟨i, hi, rfl, e2, e3, e5⟩
  by_cases hq : i < l.length
  · obtain ⟨x, hx⟩ : ∃ x, l[i]? = some x := ⟨l[i], List.getElem?_eq_getElem hq⟩
    have hx0 := hL x (List.mem_of_getElem? hx)
    obtain ⟨ra, rs, rf, rb, u⟩ := x
    dsimp only at hx0
    refine W1 (And.intro @e2 (And.intro @e3 @e5)) (And.intro @DD @hbs) trivial ?_
    exact ⟨q - 1, by omega, _, _, Gh.sel [0, 1] (by decide) (hz0 hZ), i + 1, by omega, rfl, by exact lk @e2, by exact lk @e3, by exact lk @e5⟩
  refine W1 (And.intro @e2 (And.intro @e3 @e5)) @DD trivial ?_
  exact hk
theorem img_mem {l : List dSeg.T} {r : dReg.T} (h : r ∈ imgL l) : ∃ s ∈ l, r.2.2.2.1 = s.2.2.2.2.2.2.1.2.2.2.1 := by
  obtain ⟨s, hs, hr⟩ := List.mem_flatMap.1 h
  unfold imgF at hr
  split at hr
  · obtain rfl := List.mem_singleton.1 hr
    exact ⟨s, hs, rfl⟩
  · cases hr
theorem stwice_core (he : 0 ≤ en ∧ en ≤ 18446744073709551615) (hG : ∀ s ∈ segs, SegG s) (hM : ∀ s ∈ secs, SecG s) :
    PCalls Try.prog 8 [.agg [.bool w, .bool big, .int .u8 o, .int .u8 ab, .int .u16 ty, .int .u16 ma, .int .u32 fl, .int .u64 en, .sl dSeg segs, .sl dSec secs, .int .i64 st]] [] fun p _ => p = .bool true := by
  refine told_callP bezantlaw18_StripTwice.told fun Z hZ => ?_
  unfold bezantlaw18_StripTwice.c
  refine W1 trivial @DD @up18_spec ?_
  refine few_spec (fun s hs => (hG s hs).2) (fun s hs => (hM s hs).2) (fun l20 l70 hs1 hs2 => ?_) ?_
  rotate_left
  · refine W1 trivial @DD trivial ?_
    rfl
  have hGN := segsN_of hG hs1
  have hMN := secsN_of hM hs2
  refine W1 trivial @DD trivial ?_
  refine check_spec ⟨he⟩ ⟨hGN⟩ ⟨hMN⟩ (fun h0 => ?_) (fun h1 => ?_)
  rotate_left
  · refine W1 trivial @DD trivial ?_
    rfl
  have ok := modelOk h0
  have hL : ∀ s ∈ segs, s.2.2.2.2.2.2.1.2.2.2.1.length ≤ 1000000 := fun s hs => Nat.le_trans (hs1 s hs) (by omega)
  have hSN := strip_N (st := st) hMN
  have hok := wrong_of (strip_ok ok hMN)
  have hag := strip_again (st := st) (secs := secs)
  have hsl := strip_len secs st secs 0
  have hat := fun (i : Nat) (x : dSec.T) (hx : secs[i]? = some x) => strip_at (st := st) hx
  have hS : ∀ s ∈ stripL secs st 0 secs, s.2.2.2.2.2.2.2.2.2.1.2.2.2.1.length ≤ 1000000 := fun s hs => (hSN s hs).ow
  have hil := img_len segs
  have hiL : ∀ r ∈ imgL segs, r.2.2.2.1.length ≤ 1000000 := fun r hr => by
    obtain ⟨s, hs, e⟩ := img_mem hr
    rw [e]
    exact hL s hs
  refine W1 trivial @DD trivial ?_
  refine strip_spec ⟨⟨by omega, by omega⟩⟩ ⟨hGN⟩ ⟨hMN⟩ ?_
  generalize hss : stripL secs st 0 secs = ss at *
  refine W1 trivial @DD trivial ?_
  refine img_spec ⟨by omega⟩ hL ?_
  refine W1 trivial @DD trivial ?_
  refine img_spec ⟨by omega⟩ hL ?_
  refine W1 trivial @DD trivial ?_
  refine rimg_spec ⟨by omega⟩ hiL ?_
  refine W1 trivial @DD trivial ?_
  refine check_spec ⟨he⟩ ⟨hGN⟩ ⟨hSN⟩ (fun _ => ?_) (fun h => absurd hok h)
  refine W1 trivial @DD trivial ?_
  refine strip_spec ⟨⟨by omega, by omega⟩⟩ ⟨hGN⟩ ⟨hSN⟩ ?_
  rw [hag]
  refine W1 trivial @DD trivial ?_
  refine same_spec ⟨⟨by omega, by omega⟩⟩ hL hS ?_
  refine W1 trivial @DD trivial ?_
  refine same_spec ⟨⟨by omega, by omega⟩⟩ hL hS ?_
  refine W1 trivial @DD trivial ?_
  refine w_lpG (fun q e s => ∃ i : Nat, q + i = secs.length ∧ s = [.var [.bool w, .bool big, .int .u8 o, .int .u8 ab, .int .u16 ty, .int .u16 ma, .int .u32 fl, .int .u64 en, .sl dSeg segs, .sl dSec secs, .int .i64 st], .var [.bool w, .bool big, .int .u8 o, .int .u8 ab, .int .u16 ty, .int .u16 ma, .int .u32 fl, .int .u64 en, .sl dSeg segs, .sl dSec ss, .int .i64 st], .var [.bool w, .bool big, .int .u8 o, .int .u8 ab, .int .u16 ty, .int .u16 ma, .int .u32 fl, .int .u64 en, .sl dSeg segs, .sl dSec ss, .int .i64 st]] ∧ e 1 = .ptr 0 0 ∧ e 3 = .bool true ∧ e 4 = .ptr 1 0 ∧ e 7 = .int .i64 i) secs.length ?_ ?_
  · exact ⟨0, rfl, rfl, by exact lk trivial, by exact lk trivial, by exact lk trivial, by exact lk trivial⟩
  rintro q e s ⟨i, hi, rfl, e1, e3, e4, e7⟩
  by_cases hq : i < secs.length
  · obtain ⟨x, hx⟩ : ∃ x, secs[i]? = some x := ⟨secs[i], List.getElem?_eq_getElem hq⟩
    have hx0 := hMN x (List.mem_of_getElem? hx)
    have hxs := hat i x hx
    have hgs : stayB st i x.2.2.1 = true → goesB secs st i x = false := fun h => goes_stay h
    have hgt : stayB st i x.2.2.1 = false → goesB secs st i x = false → ¬ @Eq Int x.2.1 2 ∧ ¬ @Eq Int x.2.1 18 ∧ ¬ @Eq Int x.2.1 4 ∧ ¬ @Eq Int x.2.1 9 := fun h1 h2 => by
      unfold goesB at h2
      rw [Bool.or_eq_false_iff] at h2
      have h3 : earlyB secs st i x.2.1 x.2.2.1 x.1 = false := h2.1
      unfold earlyB at h3
      rw [h1, Bool.not_false, Bool.true_and] at h3
      simp only [Bool.or_eq_false_iff, decide_eq_false_iff_not] at h3
      exact ⟨h3.1.1.1.1.1, h3.1.1.1.1.2, h3.1.1.1.2, h3.1.1.2⟩
    generalize goesB secs st i x = g at *
    obtain ⟨nm, sty, sfl, sad, ssi, sli, ssf, sal, sen, ⟨si, so, sz, sown, ⟨⟩⟩, ⟨⟩⟩ := x
    obtain ⟨sfl, rfl⟩ : ∃ v : Int, v = sfl := ⟨sfl, rfl⟩
    have hx0 : SecN nm sty sfl sad ssi sli sal sen si so sz sown := hx0
    obtain ⟨nnm, nty, nfl, nad, nsi, nli, nal, nen, noff, nsz, now, nbo⟩ := hx0
    have hgs : stayB st i sfl = true → g = false := hgs
    have hgt : stayB st i sfl = false → g = false → ¬ @Eq Int sty 2 ∧ ¬ @Eq Int sty 18 ∧ ¬ @Eq Int sty 4 ∧ ¬ @Eq Int sty 9 := hgt
    have hw1 : IntKind.wrap .i64 ((i : Int) + 1) = (i : Int) + 1 := by rw [wI64]; omega
    have hqu : Ab.abin .quo (.int .u64 sfl) (.int .u64 2) = some (.int .u64 (sfl / 2)) := by rw [quo_c (by omega) (by omega), wU64]; congr 2; omega
    have hr : Ab.abin .rem (.int .u64 (sfl / 2)) (.int .u64 2) = some (.int .u64 (sfl / 2 % 2)) := rem_c (by omega) (by omega)
    have hlx : ∀ s ∈ ([(nm, sty, sfl, sad, ssi, sli, ssf, sal, sen, (si, so, sz, sown, PUnit.unit), PUnit.unit)] : List dSec.T), s.2.2.2.2.2.2.2.2.2.1.2.2.2.1.length ≤ 1000000 := fun s hs => by
      obtain rfl := List.mem_singleton.1 hs
      exact now
    by_cases h1 : sfl / 2 % 2 = 1
    · have hg := hgs (by unfold stayB; rw [decide_eq_true h1, Bool.true_or])
      subst hg
      rw [if_neg (by decide)] at hxs
      refine W1 (And.intro @e1 (And.intro @e3 (And.intro @e4 @e7))) (And.intro @DD (And.intro @hw1 (And.intro @hqu @hr))) trivial ?_
      apply a_arr 4 dSec; (repeat any_goals first | exact mp_z | apply mp_s | exact rs_z | apply rs_t | apply rs_n | apply rs_c); (repeat any_goals first | (apply Lk.i; (simp only [↓LL, ↓reduceIte, Nat.reduceEqDiff]; (try rfl); done)) | (apply Rf.i; first | rfl | assumption) | (apply Vl.i; ((try simp (disch := omega) only [VV, ↓reduceIte, peqI, encP]); (try rfl); done)) | (apply Am.i; assumption) | (apply Pu.i; ((try simp only [↓reduceIte, UU, RR, Nat.reduceAdd, Nat.reduceEqDiff, cellsP, putP, fillQ, flatQ, shP, sh1, encP]); (try rfl); done)) | (apply Om.i; ((try simp only [MM]); (try omega); done)) | (apply Vw.i; first | exact As.sl _ _ | exact As.nil _ | exact As.arr _ _ _ _ rfl (by ((try simp only [MM]); (try omega); done)) | exact As.row _ _ _ _ _ rfl rfl | exact Src.str _ | exact Src.as (As.sl _ _) | exact Src.as (As.nil _) | exact Src.as (As.arr _ _ _ _ rfl (by ((try simp only [MM]); (try omega); done))) | exact Src.as (As.row _ _ _ _ _ rfl rfl))); (all_goals fail_if_success apply Mk.i)
      apply a_arr 6 dSec; (repeat any_goals first | exact mp_z | apply mp_s | exact rs_z | apply rs_t | apply rs_n | apply rs_c); (repeat any_goals first | (apply Lk.i; (simp only [↓LL, ↓reduceIte, Nat.reduceEqDiff]; (try rfl); done)) | (apply Rf.i; first | rfl | assumption) | (apply Vl.i; ((try simp (disch := omega) only [VV, ↓reduceIte, peqI, encP]); (try rfl); done)) | (apply Am.i; assumption) | (apply Pu.i; ((try simp only [↓reduceIte, UU, RR, Nat.reduceAdd, Nat.reduceEqDiff, cellsP, putP, fillQ, flatQ, shP, sh1, encP]); (try rfl); done)) | (apply Om.i; ((try simp only [MM]); (try omega); done)) | (apply Vw.i; first | exact As.sl _ _ | exact As.nil _ | exact As.arr _ _ _ _ rfl (by ((try simp only [MM]); (try omega); done)) | exact As.row _ _ _ _ _ rfl rfl | exact Src.str _ | exact Src.as (As.sl _ _) | exact Src.as (As.nil _) | exact Src.as (As.arr _ _ _ _ rfl (by ((try simp only [MM]); (try omega); done))) | exact Src.as (As.row _ _ _ _ _ rfl rfl))); (all_goals fail_if_success apply Mk.i)
      refine ca_VA (.g (.p ⟨rfl⟩ <| .p ⟨rfl⟩ <| .p ⟨rfl⟩ <| .p ⟨rfl⟩ <| .p ⟨rfl⟩ <| .p ⟨rfl⟩ <| .p ⟨rfl⟩ <| .p ⟨rfl⟩ <| .n dSeg <| .a (d := dSec) (x := [(nm, sty, sfl, sad, ssi, sli, ssf, sal, sen, (si, so, sz, sown, PUnit.unit), PUnit.unit)]) ⟨rfl⟩ ⟨rfl⟩ ⟨rfl⟩ <| .p ⟨rfl⟩ .z) ⟨rfl⟩ <| .g (.p ⟨rfl⟩ <| .p ⟨rfl⟩ <| .p ⟨rfl⟩ <| .p ⟨rfl⟩ <| .p ⟨rfl⟩ <| .p ⟨rfl⟩ <| .p ⟨rfl⟩ <| .p ⟨rfl⟩ <| .n dSeg <| .a (d := dSec) (x := [(nm, sty, sfl, sad, ssi, sli, ssf, sal, sen, (si, so, sz, sown, PUnit.unit), PUnit.unit)]) ⟨rfl⟩ ⟨rfl⟩ ⟨rfl⟩ <| .p ⟨rfl⟩ .z) ⟨rfl⟩ .z) ?_
      refine same_spec ⟨⟨by simp, by simp⟩⟩ (fun s hs => by cases hs) hlx ?_
      refine W1 (And.intro @e1 (And.intro @e3 (And.intro @e4 @e7))) @DD trivial ?_
      exact ⟨q - 1, by omega, _, _, Gh.sel [0, 1, 2] (by decide) (hz0 hZ), i + 1, by omega, rfl, by exact lk @e1, by exact lk @e3, by exact lk @e4, by exact lk @e7⟩
    by_cases h2 : (i : Int) + 1 = st
    · have hg := hgs (by unfold stayB; rw [decide_eq_true h2, Bool.or_true])
      subst hg
      rw [if_neg (by decide)] at hxs
      refine W1 (And.intro @e1 (And.intro @e3 (And.intro @e4 @e7))) (And.intro @DD (And.intro @hw1 (And.intro @hqu @hr))) trivial ?_
      apply a_arr 4 dSec; (repeat any_goals first | exact mp_z | apply mp_s | exact rs_z | apply rs_t | apply rs_n | apply rs_c); (repeat any_goals first | (apply Lk.i; (simp only [↓LL, ↓reduceIte, Nat.reduceEqDiff]; (try rfl); done)) | (apply Rf.i; first | rfl | assumption) | (apply Vl.i; ((try simp (disch := omega) only [VV, ↓reduceIte, peqI, encP]); (try rfl); done)) | (apply Am.i; assumption) | (apply Pu.i; ((try simp only [↓reduceIte, UU, RR, Nat.reduceAdd, Nat.reduceEqDiff, cellsP, putP, fillQ, flatQ, shP, sh1, encP]); (try rfl); done)) | (apply Om.i; ((try simp only [MM]); (try omega); done)) | (apply Vw.i; first | exact As.sl _ _ | exact As.nil _ | exact As.arr _ _ _ _ rfl (by ((try simp only [MM]); (try omega); done)) | exact As.row _ _ _ _ _ rfl rfl | exact Src.str _ | exact Src.as (As.sl _ _) | exact Src.as (As.nil _) | exact Src.as (As.arr _ _ _ _ rfl (by ((try simp only [MM]); (try omega); done))) | exact Src.as (As.row _ _ _ _ _ rfl rfl))); (all_goals fail_if_success apply Mk.i)
      apply a_arr 6 dSec; (repeat any_goals first | exact mp_z | apply mp_s | exact rs_z | apply rs_t | apply rs_n | apply rs_c); (repeat any_goals first | (apply Lk.i; (simp only [↓LL, ↓reduceIte, Nat.reduceEqDiff]; (try rfl); done)) | (apply Rf.i; first | rfl | assumption) | (apply Vl.i; ((try simp (disch := omega) only [VV, ↓reduceIte, peqI, encP]); (try rfl); done)) | (apply Am.i; assumption) | (apply Pu.i; ((try simp only [↓reduceIte, UU, RR, Nat.reduceAdd, Nat.reduceEqDiff, cellsP, putP, fillQ, flatQ, shP, sh1, encP]); (try rfl); done)) | (apply Om.i; ((try simp only [MM]); (try omega); done)) | (apply Vw.i; first | exact As.sl _ _ | exact As.nil _ | exact As.arr _ _ _ _ rfl (by ((try simp only [MM]); (try omega); done)) | exact As.row _ _ _ _ _ rfl rfl | exact Src.str _ | exact Src.as (As.sl _ _) | exact Src.as (As.nil _) | exact Src.as (As.arr _ _ _ _ rfl (by ((try simp only [MM]); (try omega); done))) | exact Src.as (As.row _ _ _ _ _ rfl rfl))); (all_goals fail_if_success apply Mk.i)
      refine ca_VA (.g (.p ⟨rfl⟩ <| .p ⟨rfl⟩ <| .p ⟨rfl⟩ <| .p ⟨rfl⟩ <| .p ⟨rfl⟩ <| .p ⟨rfl⟩ <| .p ⟨rfl⟩ <| .p ⟨rfl⟩ <| .n dSeg <| .a (d := dSec) (x := [(nm, sty, sfl, sad, ssi, sli, ssf, sal, sen, (si, so, sz, sown, PUnit.unit), PUnit.unit)]) ⟨rfl⟩ ⟨rfl⟩ ⟨rfl⟩ <| .p ⟨rfl⟩ .z) ⟨rfl⟩ <| .g (.p ⟨rfl⟩ <| .p ⟨rfl⟩ <| .p ⟨rfl⟩ <| .p ⟨rfl⟩ <| .p ⟨rfl⟩ <| .p ⟨rfl⟩ <| .p ⟨rfl⟩ <| .p ⟨rfl⟩ <| .n dSeg <| .a (d := dSec) (x := [(nm, sty, sfl, sad, ssi, sli, ssf, sal, sen, (si, so, sz, sown, PUnit.unit), PUnit.unit)]) ⟨rfl⟩ ⟨rfl⟩ ⟨rfl⟩ <| .p ⟨rfl⟩ .z) ⟨rfl⟩ .z) ?_
      refine same_spec ⟨⟨by simp, by simp⟩⟩ (fun s hs => by cases hs) hlx ?_
      refine W1 (And.intro @e1 (And.intro @e3 (And.intro @e4 @e7))) @DD trivial ?_
      exact ⟨q - 1, by omega, _, _, Gh.sel [0, 1, 2] (by decide) (hz0 hZ), i + 1, by omega, rfl, by exact lk @e1, by exact lk @e3, by exact lk @e4, by exact lk @e7⟩
    have hst : stayB st i sfl = false := by unfold stayB; rw [decide_eq_false h1, decide_eq_false h2]; rfl
    cases g
    · rw [if_neg (by decide)] at hxs
      obtain ⟨t1, t2, t3, t4⟩ := hgt hst rfl
      refine W1 (And.intro @e1 (And.intro @e3 (And.intro @e4 @e7))) (And.intro @DD (And.intro @hw1 (And.intro @hqu @hr))) trivial ?_
      exact ⟨q - 1, by omega, _, _, Gh.sel [0, 1, 2] (by decide) (hz0 hZ), i + 1, by omega, rfl, by exact lk @e1, by exact lk @e3, by exact lk @e4, by exact lk @e7⟩
    · rw [if_pos rfl] at hxs
      have hxs : ss[i]? = some ((0 : Int), (0 : Int), (0 : Int), (0 : Int), (0 : Int), (0 : Int), (0 : Int), (0 : Int), (0 : Int), ((-1 : Int), (0 : Int), (0 : Int), ([] : List Int), PUnit.unit), PUnit.unit) := hxs
      refine W1 (And.intro @e1 (And.intro @e3 (And.intro @e4 @e7))) (And.intro @DD (And.intro @hw1 (And.intro @hqu @hr))) trivial ?_
      exact ⟨q - 1, by omega, _, _, Gh.sel [0, 1, 2] (by decide) (hz0 hZ), i + 1, by omega, rfl, by exact lk @e1, by exact lk @e3, by exact lk @e4, by exact lk @e7⟩
  refine W1 (And.intro @e1 (And.intro @e3 (And.intro @e4 @e7))) @DD trivial ?_
  rfl
theorem stwice_walk (x0 : ((.st (.cons (.st (.cons (.st (.cons .bool (.cons .bool .nil))) (.cons (.int .u8) (.cons (.int .u8) .nil)))) (.cons (.int .u16) (.cons (.int .u16) (.cons (.int .u32) (.cons (.int .u64) (.cons (.sl (.st (.cons (.int .u32) (.cons (.int .u32) (.cons (.int .u64) (.cons (.int .u64) (.cons (.int .u64) (.cons (.int .u64) (.cons (.st (.cons (.int .i64) (.cons (.int .u64) (.cons (.int .u64) (.cons (.sl (.int .u8)) .nil))))) .nil))))))))) (.cons (.sl (.st (.cons (.int .u32) (.cons (.int .u32) (.cons (.int .u64) (.cons (.int .u64) (.cons (.int .u64) (.cons (.int .u32) (.cons (.int .u32) (.cons (.int .u64) (.cons (.int .u64) (.cons (.st (.cons (.int .i64) (.cons (.int .u64) (.cons (.int .u64) (.cons (.sl (.int .u8)) .nil))))) .nil)))))))))))) (.cons (.int .i64) .nil))))))))) : Ab.D).T) (g0 : ((.st (.cons (.st (.cons (.st (.cons .bool (.cons .bool .nil))) (.cons (.int .u8) (.cons (.int .u8) .nil)))) (.cons (.int .u16) (.cons (.int .u16) (.cons (.int .u32) (.cons (.int .u64) (.cons (.sl (.st (.cons (.int .u32) (.cons (.int .u32) (.cons (.int .u64) (.cons (.int .u64) (.cons (.int .u64) (.cons (.int .u64) (.cons (.st (.cons (.int .i64) (.cons (.int .u64) (.cons (.int .u64) (.cons (.sl (.int .u8)) .nil))))) .nil))))))))) (.cons (.sl (.st (.cons (.int .u32) (.cons (.int .u32) (.cons (.int .u64) (.cons (.int .u64) (.cons (.int .u64) (.cons (.int .u32) (.cons (.int .u32) (.cons (.int .u64) (.cons (.int .u64) (.cons (.st (.cons (.int .i64) (.cons (.int .u64) (.cons (.int .u64) (.cons (.sl (.int .u8)) .nil))))) .nil)))))))))))) (.cons (.int .i64) .nil))))))))) : Ab.D).good x0) :
    PCalls Try.prog 8 [pvD (.st (.cons (.st (.cons (.st (.cons .bool (.cons .bool .nil))) (.cons (.int .u8) (.cons (.int .u8) .nil)))) (.cons (.int .u16) (.cons (.int .u16) (.cons (.int .u32) (.cons (.int .u64) (.cons (.sl (.st (.cons (.int .u32) (.cons (.int .u32) (.cons (.int .u64) (.cons (.int .u64) (.cons (.int .u64) (.cons (.int .u64) (.cons (.st (.cons (.int .i64) (.cons (.int .u64) (.cons (.int .u64) (.cons (.sl (.int .u8)) .nil))))) .nil))))))))) (.cons (.sl (.st (.cons (.int .u32) (.cons (.int .u32) (.cons (.int .u64) (.cons (.int .u64) (.cons (.int .u64) (.cons (.int .u32) (.cons (.int .u32) (.cons (.int .u64) (.cons (.int .u64) (.cons (.st (.cons (.int .i64) (.cons (.int .u64) (.cons (.int .u64) (.cons (.sl (.int .u8)) .nil))))) .nil)))))))))))) (.cons (.int .i64) .nil))))))))) x0] [] fun p _ => p = .bool true := by
  obtain ⟨⟨⟨w, big, _⟩, o, ab, _⟩, ty, ma, fl, en, segs, secs, st, _⟩ := x0
  obtain ⟨_, _, _, _, g4, g5, g6, _⟩ := g0
  exact stwice_core (u64_of g4) (segG_of g5.2) (secG_of g6.2)
end
end Go.Proofs.Ytalhipbbomagoaa.PvW
