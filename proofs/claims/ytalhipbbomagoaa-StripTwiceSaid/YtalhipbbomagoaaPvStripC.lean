/- Which sections go: the walks, with m's lists read only (r), and as blocks of the caller's own (o). No statement of the set is proved in this text. -/
import Derived.Test.YtalhipbbomagoaaPvStripB
namespace Go.Proofs.Ytalhipbbomagoaa.PvW
open Go.RowKit Go.Proofs.Ytalhipbbomagoaa.Cd Go.Proofs.Ytalhipbbomagoaa.AbP Go.Proofs.Ytalhipbbomagoaa.Num Go.Proofs.Ytalhipbbomagoaa.Pv
set_option maxRecDepth 100000
set_option maxHeartbeats 4000000
set_option linter.unusedVariables false
set_option linter.unusedSimpArgs false
theorem clone_own {K : PV → List OB → Prop} {l : List Bool} (hm : Om (l.length ≤ 1000000)) (hk : K (.osl 0 l.length) [.arr .bool l]) : PCalls Try.prog 52 [.sl .bool l] [] K := by
  have hm := hm.o
  refine told_callP slices_Clone_bool_bool.told fun Z hZ => ?_
  unfold slices_Clone_bool_bool.c
  refine W1 trivial trivial trivial ?_
  refine nl_Sl fun r hr => ?_
  cases r
  · show pops _ _ _ _ _ (putE _ _ (.bool false)) _
    refine W1 trivial trivial (@oArr 0 .bool) ?_
    have hk' : K (.osl 0 (0 + l.length)) [.arr .bool l] := by rw [Nat.zero_add]; exact hk
    exact hk'
  · obtain rfl := hr rfl
    show pops _ _ _ _ _ (putE _ _ (.bool true)) _
    refine Wn1 trivial trivial trivial ?_
    apply x_virt 2 .bool; (repeat any_goals first | exact mp_z | apply mp_s | exact rs_z | apply rs_t | apply rs_n | apply rs_c); (repeat any_goals first | (apply Lk.i; (simp only [↓LL, ↓reduceIte, Nat.reduceEqDiff]; (try rfl); done)) | (apply Rf.i; first | rfl | assumption) | (apply Vl.i; ((try simp (disch := omega) only [VV, ↓reduceIte, peqI, encP]); (try rfl); done)) | (apply Am.i; assumption) | (apply Pu.i; ((try simp only [↓reduceIte, UU, RR, Nat.reduceAdd, Nat.reduceEqDiff, cellsP, putP, fillQ, flatQ, shP, sh1, encP]); (try rfl); done)) | (apply Om.i; ((try simp only [MM]); (try omega); done)) | (apply Vw.i; first | exact As.sl _ _ | exact As.nil _ | exact As.arr _ _ _ _ rfl (by ((try simp only [MM]); (try omega); done)) | exact As.row _ _ _ _ _ rfl rfl | exact Src.str _ | exact Src.as (As.sl _ _) | exact Src.as (As.nil _) | exact Src.as (As.arr _ _ _ _ rfl (by ((try simp only [MM]); (try omega); done))) | exact Src.as (As.row _ _ _ _ _ rfl rfl))); (all_goals fail_if_success apply Mk.i)
    refine W1 trivial trivial trivial ?_
    exact hk
theorem set_midS {α : Type} {a r : List α} {v x : α} {i : Nat} (h : a.length = i) : (a ++ x :: r).set i v = (a ++ [v]) ++ r := by
  subst h
  rw [List.set_append_right _ _ (Nat.le_refl _), Nat.sub_self, List.set_cons_zero, List.append_assoc]; rfl
theorem set_rep {α : Type} {a : List α} {v z : α} {i n : Nat} (h : a.length = i) (hi : i < n) : (a ++ List.replicate (n - i) z).set i v = (a ++ [v]) ++ List.replicate (n - (i + 1)) z := by
  rw [show n - i = (n - (i + 1)) + 1 by omega, List.replicate_succ, set_midS h]
section
variable {K : PV → List OB → Prop} {w big : Bool} {o ab ty ma fl en st : Int} {segs : List dSeg.T} {secs : List dSec.T}
theorem sname_r {nm sty sfl sad ssi sli ssf sal sen i off sz : Int} {own : List Int} (hl : Om (secs.length ≤ 1000000)) (hN : Am (SecsN secs)) (hn : Om (0 ≤ nm ∧ nm ≤ 4294967295)) (hk : K (.str (nameS secs st nm)) []) :
    PCalls Try.prog 93 [.agg [.bool w, .bool big, .int .u8 o, .int .u8 ab, .int .u16 ty, .int .u16 ma, .int .u32 fl, .int .u64 en, .sl dSeg segs, .sl dSec secs, .int .i64 st], .agg [.int .u32 nm, .int .u32 sty, .int .u64 sfl, .int .u64 sad, .int .u64 ssi, .int .u32 sli, .int .u32 ssf, .int .u64 sal, .int .u64 sen, .int .i64 i, .int .u64 off, .int .u64 sz, .sl (.int .u8) own]] [] K := by
  have hl := hl.o
  have hN := hN.o
  have hn := hn.o
  refine told_callP strip_name.told fun Z hZ => ?_
  unfold strip_name.c
  unfold nameS at hk
  by_cases h1 : st < 1
  · rw [if_pos (.inl h1)] at hk
    refine W1 trivial @DD trivial ?_
    exact hk
  by_cases h2 : (secs.length : Int) < st
  · rw [if_pos (.inr h2)] at hk
    refine W1 trivial @DD trivial ?_
    exact hk
  rw [if_neg (fun h => h.elim h1 h2)] at hk
  obtain ⟨y, hy⟩ : ∃ y, secs[(st - 1).toNat]? = some y := ⟨secs[(st - 1).toNat]'(by omega), List.getElem?_eq_getElem (by omega)⟩
  rw [hy] at hk
  have hy0 := hN y (List.mem_of_getElem? hy)
  obtain ⟨ynm, yty, yfl, yad, ysi, yli, ysf, yal, yen, ⟨yi, yo, yz, yown, yu⟩, yu2⟩ := y
  dsimp only at hk
  have hw1 : IntKind.wrap .i64 (st - 1) = st - 1 := by rw [wI64]; omega
  refine W1 trivial (And.intro @DD @hw1) trivial ?_
  refine sget_str_spec ⟨hy0.ow⟩ ⟨by omega⟩ (fun ok => ?_) (fun no => ?_)
  · rw [if_pos ok] at hk
    refine W1 trivial @DD trivial ?_
    exact hk
  · rw [if_neg (by rw [no]; decide)] at hk
    refine W1 trivial @DD trivial ?_
    exact hk
theorem early_r {i : Nat} {x : dSec.T} (hx : secs[i]? = some x) (hl : Om (secs.length ≤ 1000000)) (hN : Am (SecsN secs)) (hk : K (.bool (secE secs st i x)) []) :
    PCalls Try.prog 51 [.agg [.bool w, .bool big, .int .u8 o, .int .u8 ab, .int .u16 ty, .int .u16 ma, .int .u32 fl, .int .u64 en, .sl dSeg segs, .sl dSec secs, .int .i64 st], .int .i64 i] [] K := by
  have hl := hl.o
  have hN := hN.o
  have hi := (List.getElem?_eq_some_iff.1 hx).1
  refine told_callP strip_early.told fun Z hZ => ?_
  unfold strip_early.c
  have hx0 := hN x (List.mem_of_getElem? hx)
  obtain ⟨nm, sty, sfl, sad, ssi, sli, ssf, sal, sen, ⟨si, so, sz, sown, u⟩, u2⟩ := x
  obtain ⟨sfl, rfl⟩ : ∃ v : Int, v = sfl := ⟨sfl, rfl⟩
  have hx0 : SecN nm sty sfl sad ssi sli sal sen si so sz sown := hx0
  obtain ⟨nnm, nty, nfl, nad, nsi, nli, nal, nen, noff, nsz, now, nbo⟩ := hx0
  have hk : K (.bool (earlyB secs st i sty sfl nm)) [] := hk
  unfold earlyB stayB at hk
  have hand := and_u64 sfl 2
  rw [flag2 nfl] at hand
  have hw1 : IntKind.wrap .i64 ((i : Int) + 1) = (i : Int) + 1 := by rw [wI64]; omega
  by_cases h1 : sfl / 2 % 2 = 1
  · rw [show 2 * (sfl / 2 % 2) = 2 by omega] at hand
    rw [decide_eq_true h1, Bool.true_or, Bool.not_true, Bool.false_and] at hk
    refine W1 trivial (And.intro @DD (And.intro @hand @hw1)) trivial ?_
    exact hk
  rw [show 2 * (sfl / 2 % 2) = 0 by omega] at hand
  rw [decide_eq_false h1, Bool.false_or] at hk
  by_cases h2 : (i : Int) + 1 = st
  · rw [decide_eq_true h2, Bool.not_true, Bool.false_and] at hk
    refine W1 trivial (And.intro @DD (And.intro @hand @hw1)) trivial ?_
    exact hk
  rw [decide_eq_false h2, Bool.not_false, Bool.true_and] at hk
  by_cases h3 : sty = 2
  · simp only [decide_eq_true h3, Bool.true_or] at hk
    refine W1 trivial (And.intro @DD (And.intro @hand @hw1)) trivial ?_
    exact hk
  by_cases h4 : sty = 18
  · simp only [decide_eq_true h4, Bool.true_or, Bool.or_true] at hk
    refine W1 trivial (And.intro @DD (And.intro @hand @hw1)) trivial ?_
    exact hk
  by_cases h5 : sty = 4
  · simp only [decide_eq_true h5, Bool.true_or, Bool.or_true] at hk
    refine W1 trivial (And.intro @DD (And.intro @hand @hw1)) trivial ?_
    exact hk
  by_cases h6 : sty = 9
  · simp only [decide_eq_true h6, Bool.true_or, Bool.or_true] at hk
    refine W1 trivial (And.intro @DD (And.intro @hand @hw1)) trivial ?_
    exact hk
  simp only [decide_eq_false h3, decide_eq_false h4, decide_eq_false h5, decide_eq_false h6, Bool.false_or] at hk
  have hns := nameS_size hN st nm
  refine W1 trivial (And.intro @DD (And.intro @hand @hw1)) trivial ?_
  refine sname_r ⟨hl⟩ ⟨hN⟩ ⟨nnm⟩ ?_
  have e1 : preB (nameS secs st nm) ⟨#[46, 100, 101, 98, 117, 103]⟩ = preB (nameS secs st nm) sDebug := rfl
  refine W1 trivial @DD @hasp2_spec ?_
  rw [e1]
  cases h7 : preB (nameS secs st nm) sDebug with
  | true =>
    rw [h7, Bool.true_or] at hk
    refine W1 trivial @DD @hasp2_spec ?_
    exact hk
  | false =>
    rw [h7, Bool.false_or] at hk
    refine W1 trivial @DD @hasp2_spec ?_
    exact hk
theorem goes_r (hl : Om (segs.length ≤ 1000000 ∧ secs.length ≤ 1000000)) (hN : Am (SecsN secs)) (hk : K (.sl .bool (goesL secs st 0 secs)) []) :
    PCalls Try.prog 17 [.agg [.bool w, .bool big, .int .u8 o, .int .u8 ab, .int .u16 ty, .int .u16 ma, .int .u32 fl, .int .u64 en, .sl dSeg segs, .sl dSec secs, .int .i64 st]] [] K := by
  have hl := hl.o
  have hN := hN.o
  refine told_callP strip_Goes.told fun Z hZ => ?_
  unfold strip_Goes.c
  refine W1 trivial @DD trivial ?_
  refine w_lpG (fun q e s => ∃ i : Nat, q + i = secs.length ∧ s = [.var [.bool w, .bool big, .int .u8 o, .int .u8 ab, .int .u16 ty, .int .u16 ma, .int .u32 fl, .int .u64 en, .sl dSeg segs, .sl dSec secs, .int .i64 st], .arr .bool (firstsL secs st 0 (secs.take i) ++ List.replicate (secs.length - i) false)] ∧ e 1 = .ptr 0 0 ∧ e 3 = .osl 1 secs.length ∧ e 18 = .int .i64 secs.length ∧ e 19 = .int .i64 i) secs.length ?_ ?_
  · exact ⟨0, rfl, rfl, by exact lk trivial, by exact lk trivial, by exact lk trivial, by exact lk trivial⟩
  rintro q e s ⟨i, hi, rfl, e1, e3, e18, e19⟩
  by_cases hq : i < secs.length
  · obtain ⟨x, hx⟩ : ∃ x, secs[i]? = some x := ⟨secs[i], List.getElem?_eq_getElem hq⟩
    have htk : secs.take (i + 1) = secs.take i ++ [x] := by rw [List.take_add_one, hx]; rfl
    have hli : (secs.take i).length = i := by rw [List.length_take]; omega
    have hsn : firstsL secs st 0 (secs.take (i + 1)) = firstsL secs st 0 (secs.take i) ++ [secE secs st i x] := by rw [htk, firsts_snoc, hli, Nat.zero_add]
    have hln : (firstsL secs st 0 (secs.take i)).length = i := by rw [firsts_len, hli]
    generalize firstsL secs st 0 (secs.take i) = A at *
    have hset := set_rep (v := secE secs st i x) (z := false) hln hq
    have hAl : (A ++ List.replicate (secs.length - i) false).length = secs.length := by rw [List.length_append, List.length_replicate]; omega
    refine W1 (And.intro @e1 (And.intro @e3 (And.intro @e18 @e19))) @DD trivial ?_
    refine early_r hx ⟨hl.2⟩ ⟨hN⟩ ?_
    refine W1 (And.intro @e1 (And.intro @e3 (And.intro @e18 @e19))) @DD trivial ?_
    exact ⟨q - 1, by omega, _, _, Gh.sel [0, 1] (by decide) (hz0 hZ), i + 1, by omega, by rw [hsn]; show _ = _; rw [← hset]; rfl, by exact lk @e1, by exact lk @e3, by exact lk @e18, by exact lk @e19⟩
  obtain rfl : i = secs.length := by omega
  have hli : (secs.take secs.length).length = secs.length := by rw [List.length_take]; omega
  rw [Nat.sub_self, List.replicate_zero, List.append_nil, List.take_length]
  obtain ⟨A, hA⟩ : ∃ A, A = firstsL secs st 0 secs := ⟨_, rfl⟩
  have hAl : A.length = secs.length := by rw [hA, firsts_len]
  rw [← hA]
  refine Wp1 (And.intro @e1 (And.intro @e3 (And.intro @e18 @e19))) @DD (And.intro (@oFrz 3) @trivial) ?_
  refine clone_own ⟨by omega⟩ ?_
  refine W1 (And.intro @e1 (And.intro @e3 (And.intro @e18 @e19))) @DD trivial ?_
  refine w_lpG (fun q e s => ∃ i : Nat, q + i = secs.length ∧ s = [.var [.bool w, .bool big, .int .u8 o, .int .u8 ab, .int .u16 ty, .int .u16 ma, .int .u32 fl, .int .u64 en, .sl dSeg segs, .sl dSec secs, .int .i64 st], .dead, .arr .bool (goesL secs st 0 (secs.take i) ++ A.drop i)] ∧ e 1 = .ptr 0 0 ∧ e 3 = .sl .bool A ∧ e 5 = .osl 2 secs.length ∧ e 32 = .sl dSec secs ∧ e 33 = .int .i64 secs.length ∧ e 34 = .int .i64 i) secs.length ?_ ?_
  · exact ⟨0, rfl, by rw [List.take_zero]; rfl, by exact lk @e1, by exact lk @e3, by rw [← hAl]; exact lk trivial, by exact lk trivial, by exact lk trivial, by exact lk trivial⟩
  clear e1 e3 e18 e19 hi hq
  rintro q e s ⟨i, hi, rfl, e1, e3, e5, e32, e33, e34⟩
  have hAk : ∀ (k : Nat) (y : dSec.T), secs[k]? = some y → A[k]? = some (secE secs st k y) := fun k y hy => by rw [hA, firsts_get secs st secs 0 k y hy, Nat.zero_add]
  by_cases hq : i < secs.length
  · obtain ⟨x, hx⟩ : ∃ x, secs[i]? = some x := ⟨secs[i], List.getElem?_eq_getElem hq⟩
    have hx0 := hN x (List.mem_of_getElem? hx)
    have htk : secs.take (i + 1) = secs.take i ++ [x] := by rw [List.take_add_one, hx]; rfl
    have hli : (secs.take i).length = i := by rw [List.length_take]; omega
    have hsn : goesL secs st 0 (secs.take (i + 1)) = goesL secs st 0 (secs.take i) ++ [goesB secs st i x] := by rw [htk, goes_snoc, hli, Nat.zero_add]
    have hln : (goesL secs st 0 (secs.take i)).length = i := by rw [goes_len, hli]
    generalize goesL secs st 0 (secs.take i) = G at *
    have hAi := hAk i x hx
    obtain ⟨fi, hfi⟩ : ∃ fi, fi = secE secs st i x := ⟨_, rfl⟩
    rw [← hfi] at hAi
    have hdr : A.drop i = fi :: A.drop (i + 1) := by
      obtain ⟨h1, h2⟩ := List.getElem?_eq_some_iff.1 hAi
      rw [← h2]
      exact List.drop_eq_getElem_cons h1
    have hGl : (G ++ A.drop i).length = secs.length := by rw [List.length_append, List.length_drop]; omega
    have hGi : (G ++ A.drop i)[i]? = some fi := by rw [hdr, List.getElem?_append_right (by omega), hln, Nat.sub_self]; rfl
    have hgo : goesB secs st i x = (fi || (!stayB st i x.2.2.1 && decide (@Eq Int x.2.1 3) && (symsB secs st i 0 secs && !othsB secs st i 0 secs))) := by rw [hfi]; rfl
    rw [hgo] at hsn
    have hkeep : G ++ A.drop i = (G ++ [fi]) ++ A.drop (i + 1) := by rw [hdr, List.append_assoc]; rfl
    have hset : ∀ v, (G ++ A.drop i).set i v = (G ++ [v]) ++ A.drop (i + 1) := fun v => by rw [hdr, set_midS hln]
    obtain ⟨nm, sty, sfl, sad, ssi, sli, ssf, sal, sen, ⟨si, so, sz, sown, u⟩, u2⟩ := x
    obtain ⟨sfl, rfl⟩ : ∃ v : Int, v = sfl := ⟨sfl, rfl⟩
    have hx0 : SecN nm sty sfl sad ssi sli sal sen si so sz sown := hx0
    obtain ⟨nnm, nty, nfl, nad, nsi, nli, nal, nen, noff, nsz, now, nbo⟩ := hx0
    have hsn : goesL secs st 0 (secs.take (i + 1)) = G ++ [fi || (!stayB st i sfl && decide (@Eq Int sty 3) && (symsB secs st i 0 secs && !othsB secs st i 0 secs))] := hsn
    unfold stayB at hsn
    have hand := and_u64 sfl 2
    rw [flag2 nfl] at hand
    have hw1 : IntKind.wrap .i64 ((i : Int) + 1) = (i : Int) + 1 := by rw [wI64]; omega
    by_cases h1 : sfl / 2 % 2 = 1
    · rw [show 2 * (sfl / 2 % 2) = 2 by omega] at hand
      rw [decide_eq_true h1, Bool.true_or, Bool.not_true, Bool.false_and, Bool.false_and, Bool.or_false] at hsn
      refine W1 (And.intro @e1 (And.intro @e3 (And.intro @e5 (And.intro @e32 (And.intro @e33 @e34))))) (And.intro @DD (And.intro @hand @hw1)) trivial ?_
      exact ⟨q - 1, by omega, _, _, Gh.sel [0, 1, 2] (by decide) (hz0 hZ), i + 1, by omega, by rw [hsn]; show _ = _; rw [← hkeep]; rfl, by exact lk @e1, by exact lk @e3, by exact lk @e5, by exact lk @e32, by exact lk @e33, by exact lk @e34⟩
    rw [show 2 * (sfl / 2 % 2) = 0 by omega] at hand
    rw [decide_eq_false h1, Bool.false_or] at hsn
    by_cases h2 : (i : Int) + 1 = st
    · rw [decide_eq_true h2, Bool.not_true, Bool.false_and, Bool.false_and, Bool.or_false] at hsn
      refine W1 (And.intro @e1 (And.intro @e3 (And.intro @e5 (And.intro @e32 (And.intro @e33 @e34))))) (And.intro @DD (And.intro @hand @hw1)) trivial ?_
      exact ⟨q - 1, by omega, _, _, Gh.sel [0, 1, 2] (by decide) (hz0 hZ), i + 1, by omega, by rw [hsn]; show _ = _; rw [← hkeep]; rfl, by exact lk @e1, by exact lk @e3, by exact lk @e5, by exact lk @e32, by exact lk @e33, by exact lk @e34⟩
    rw [decide_eq_false h2, Bool.not_false, Bool.true_and] at hsn
    by_cases h3 : @Eq Int sty 3
    rotate_left
    · rw [decide_eq_false h3, Bool.false_and, Bool.or_false] at hsn
      refine W1 (And.intro @e1 (And.intro @e3 (And.intro @e5 (And.intro @e32 (And.intro @e33 @e34))))) (And.intro @DD (And.intro @hand @hw1)) trivial ?_
      exact ⟨q - 1, by omega, _, _, Gh.sel [0, 1, 2] (by decide) (hz0 hZ), i + 1, by omega, by rw [hsn]; show _ = _; rw [← hkeep]; rfl, by exact lk @e1, by exact lk @e3, by exact lk @e5, by exact lk @e32, by exact lk @e33, by exact lk @e34⟩
    rw [decide_eq_true h3, Bool.true_and] at hsn
    refine W1 (And.intro @e1 (And.intro @e3 (And.intro @e5 (And.intro @e32 (And.intro @e33 @e34))))) (And.intro @DD (And.intro @hand @hw1)) trivial ?_
    refine w_lpG (fun q e s => ∃ k : Nat, q + k = secs.length ∧ s = [.var [.bool w, .bool big, .int .u8 o, .int .u8 ab, .int .u16 ty, .int .u16 ma, .int .u32 fl, .int .u64 en, .sl dSeg segs, .sl dSec secs, .int .i64 st], .dead, .arr .bool (G ++ A.drop i), .var [.int .u32 nm, .int .u32 sty, .int .u64 sfl, .int .u64 sad, .int .u64 ssi, .int .u32 sli, .int .u32 ssf, .int .u64 sal, .int .u64 sen, .int .i64 si, .int .u64 so, .int .u64 sz, .sl (.int .u8) sown]] ∧ e 1 = .ptr 0 0 ∧ e 3 = .sl .bool A ∧ e 5 = .osl 2 secs.length ∧ e 6 = .int .i64 i ∧ e 8 = .bool (symsB secs st i 0 (secs.take k)) ∧ e 9 = .bool (othsB secs st i 0 (secs.take k)) ∧ e 32 = .sl dSec secs ∧ e 33 = .int .i64 secs.length ∧ e 34 = .int .i64 i ∧ e 56 = .sl dSec secs ∧ e 57 = .int .i64 secs.length ∧ e 58 = .int .i64 k) secs.length ?_ ?_
    · exact ⟨0, rfl, rfl, by exact lk @e1, by exact lk @e3, by exact lk @e5, by exact lk trivial, by exact lk trivial, by exact lk trivial, by exact lk @e32, by exact lk @e33, by exact lk @e34, by exact lk trivial, by exact lk trivial, by exact lk trivial⟩
    clear e1 e3 e5 e32 e33 e34
    rintro q2 e s ⟨k, hk2, rfl, e1, e3, e5, e6, e8, e9, e32, e33, e34, e56, e57, e58⟩
    by_cases hkq : k < secs.length
    · obtain ⟨y, hy⟩ : ∃ y, secs[k]? = some y := ⟨secs[k], List.getElem?_eq_getElem hkq⟩
      have hy0 := hN y (List.mem_of_getElem? hy)
      have hAy := hAk k y hy
      have htk2 : secs.take (k + 1) = secs.take k ++ [y] := by rw [List.take_add_one, hy]; rfl
      have hlk : (secs.take k).length = k := by rw [List.length_take]; omega
      have hs8 := syms_snoc secs st i (secs.take k) 0 y
      have hs9 := oths_snoc secs st i (secs.take k) 0 y
      rw [hlk, Nat.zero_add, ← htk2] at hs8 hs9
      generalize symsB secs st i 0 (secs.take k) = sy at *
      generalize othsB secs st i 0 (secs.take k) = ot at *
      generalize secE secs st k y = fk at *
      obtain ⟨ynm, yty, yfl, yad, ysi, yli, ysf, yal, yen, ⟨yi, yo, yz, yown, yu⟩, yu2⟩ := y
      obtain ⟨yli, rfl⟩ : ∃ v : Int, v = yli := ⟨yli, rfl⟩
      have hyl := hy0.li
      have hyl : 0 ≤ yli ∧ yli ≤ 4294967295 := hyl
      dsimp only at hs8 hs9
      have hwl : IntKind.wrap .i64 yli = yli := by rw [wI64]; omega
      by_cases h5 : @Eq Int yli (i + 1)
      · rw [decide_eq_true h5, Bool.true_and] at hs8 hs9
        by_cases h6 : @Eq Int yty 2
        · rw [decide_eq_true h6, Bool.and_true] at hs8
          cases sy <;> cases fk <;> cases ot <;> (simp only [Bool.false_or, Bool.true_or, Bool.not_true, Bool.not_false] at hs8 hs9; refine W1 (And.intro @e1 (And.intro @e3 (And.intro @e5 (And.intro @e6 (And.intro @e8 (And.intro @e9 (And.intro @e32 (And.intro @e33 (And.intro @e34 (And.intro @e56 (And.intro @e57 @e58))))))))))) (And.intro @DD (And.intro @hw1 @hwl)) trivial ?_; exact ⟨q2 - 1, by omega, _, _, Gh.sel [0, 1, 2, 3] (by decide) (hz0 hZ), k + 1, by omega, rfl, by exact lk @e1, by exact lk @e3, by exact lk @e5, by exact lk @e6, by rw [hs8]; exact lk @e8, by rw [hs9]; exact lk @e9, by exact lk @e32, by exact lk @e33, by exact lk @e34, by exact lk @e56, by exact lk @e57, by exact lk @e58⟩)
        · rw [decide_eq_false h6, Bool.and_false, Bool.or_false] at hs8
          cases sy <;> cases fk <;> cases ot <;> (simp only [Bool.false_or, Bool.true_or, Bool.not_true, Bool.not_false] at hs9; refine W1 (And.intro @e1 (And.intro @e3 (And.intro @e5 (And.intro @e6 (And.intro @e8 (And.intro @e9 (And.intro @e32 (And.intro @e33 (And.intro @e34 (And.intro @e56 (And.intro @e57 @e58))))))))))) (And.intro @DD (And.intro @hw1 @hwl)) trivial ?_; exact ⟨q2 - 1, by omega, _, _, Gh.sel [0, 1, 2, 3] (by decide) (hz0 hZ), k + 1, by omega, rfl, by exact lk @e1, by exact lk @e3, by exact lk @e5, by exact lk @e6, by rw [hs8]; exact lk @e8, by rw [hs9]; exact lk @e9, by exact lk @e32, by exact lk @e33, by exact lk @e34, by exact lk @e56, by exact lk @e57, by exact lk @e58⟩)
      · rw [decide_eq_false h5, Bool.false_and, Bool.or_false] at hs8 hs9
        refine W1 (And.intro @e1 (And.intro @e3 (And.intro @e5 (And.intro @e6 (And.intro @e8 (And.intro @e9 (And.intro @e32 (And.intro @e33 (And.intro @e34 (And.intro @e56 (And.intro @e57 @e58))))))))))) (And.intro @DD (And.intro @hw1 @hwl)) trivial ?_
        exact ⟨q2 - 1, by omega, _, _, Gh.sel [0, 1, 2, 3] (by decide) (hz0 hZ), k + 1, by omega, rfl, by exact lk @e1, by exact lk @e3, by exact lk @e5, by exact lk @e6, by rw [hs8]; exact lk @e8, by rw [hs9]; exact lk @e9, by exact lk @e32, by exact lk @e33, by exact lk @e34, by exact lk @e56, by exact lk @e57, by exact lk @e58⟩
    obtain rfl : k = secs.length := by omega
    rw [List.take_length] at e8 e9
    generalize symsB secs st i 0 secs = sy at *
    generalize othsB secs st i 0 secs = ot at *
    cases fi <;> cases sy <;> cases ot <;> (simp only [Bool.false_or, Bool.true_or, Bool.not_true, Bool.not_false, Bool.and_true, Bool.and_false, Bool.true_and, Bool.false_and] at hsn; refine W1 (And.intro @e1 (And.intro @e3 (And.intro @e5 (And.intro @e6 (And.intro @e8 (And.intro @e9 (And.intro @e32 (And.intro @e33 (And.intro @e34 (And.intro @e56 (And.intro @e57 @e58))))))))))) (And.intro @DD @hw1) trivial ?_; exact ⟨q - 1, by omega, _, _, Gh.sel [0, 1, 2] (by decide) (hz0 hZ), i + 1, by omega, by rw [hsn]; show _ = _; rw [← hset]; rfl, by exact lk @e1, by exact lk @e3, by exact lk @e5, by exact lk @e32, by exact lk @e33, by exact lk @e34⟩)
  obtain rfl : i = secs.length := by omega
  rw [List.take_length, List.drop_eq_nil_of_le (by omega), List.append_nil]
  have hGl := goes_len secs st secs 0
  refine Wn1 (And.intro @e1 (And.intro @e3 (And.intro @e5 (And.intro @e32 (And.intro @e33 @e34))))) @DD trivial ?_
  apply x_frz 2; (repeat any_goals first | exact mp_z | apply mp_s | exact rs_z | apply rs_t | apply rs_n | apply rs_c); (repeat any_goals first | (apply Lk.i; (simp only [↓LL, ↓reduceIte, Nat.reduceEqDiff]; (try rfl); done)) | (apply Rf.i; first | rfl | assumption) | (apply Vl.i; ((try simp (disch := omega) only [VV, ↓reduceIte, peqI, encP]); (try rfl); done)) | (apply Am.i; assumption) | (apply Pu.i; ((try simp only [↓reduceIte, UU, RR, Nat.reduceAdd, Nat.reduceEqDiff, cellsP, putP, fillQ, flatQ, shP, sh1, encP]); (try rfl); done)) | (apply Om.i; ((try simp only [MM]); (try omega); done)) | (apply Vw.i; first | exact As.sl _ _ | exact As.nil _ | exact As.arr _ _ _ _ rfl (by ((try simp only [MM]); (try omega); done)) | exact As.row _ _ _ _ _ rfl rfl | exact Src.str _ | exact Src.as (As.sl _ _) | exact Src.as (As.nil _) | exact Src.as (As.arr _ _ _ _ rfl (by ((try simp only [MM]); (try omega); done))) | exact Src.as (As.row _ _ _ _ _ rfl rfl))); (all_goals fail_if_success apply Mk.i)
  refine W1 (And.intro @e1 (And.intro @e3 (And.intro @e5 (And.intro @e32 (And.intro @e33 @e34))))) @DD trivial ?_
  exact hk
end
end Go.Proofs.Ytalhipbbomagoaa.PvW
