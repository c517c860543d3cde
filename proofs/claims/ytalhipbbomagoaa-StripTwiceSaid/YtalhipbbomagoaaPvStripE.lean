/- The document's answers for models that are the same, for images, and for what is stripped. No statement of the set is proved in this text. -/
import Derived.Test.YtalhipbbomagoaaPvStripD
import Derived.Test.YtalhipbbomagoaaPvRefC
namespace Go.Proofs.Ytalhipbbomagoaa.Pv
open Go.RowKit Go.Proofs.Ytalhipbbomagoaa.Ab Go.Proofs.Ytalhipbbomagoaa.AbP Go.Proofs.Ytalhipbbomagoaa.Num
set_option maxRecDepth 100000
set_option maxHeartbeats 4000000
set_option linter.unusedVariables false
set_option linter.unusedSimpArgs false
section
variable {P : Program} {Z : Bs} {K : Env → List OB → Prop} {e : Env} {s s' : List OB} {cs : List CO} {pr : List Operand} {d : Option Nat} {kp : Bool}
/-- structs handed over, with blocks of one's own in them, as data -/
inductive CvA : List OB → List PV → List PV → List OB → Prop where
  | z {s : List OB} : CvA s [] [] s
  | p {s s1 : List OB} {p : PV} {l l' : List PV} (h : Rf (per3 p = true)) (k : CvA s l l' s1) : CvA s (p :: l) (p :: l') s1
  | g {s s1 s2 : List OB} {a a' l l' : List PV} (c : Cv s a a' s1) (h : Rf (a'.all per2 = true)) (k : CvA s1 l l' s2) : CvA s (.agg a :: l) (.agg a' :: l') s2
theorem CvA.ok {Z : Bs} {h : Hp} {s s1 : List OB} {ps ps' : List PV} (c : CvA s ps ps' s1) : ∀ {E : Nat → Bool} {i : Nat → Option Nat} {vs : List Value}, SR Z h E i s → PRs ⟨Hp.mask h E, i, s⟩ ps vs →
    ∃ E' i', SR Z h E' i' s1 ∧ Cx.le ⟨Hp.mask h E, i, s⟩ ⟨Hp.mask h E', i', s1⟩ ∧ PRs ⟨Hp.mask h E', i', s1⟩ ps' vs ∧ ps'.all per3 = true := by
  induction c with
  | z =>
    intro E i vs S A
    exact ⟨E, i, S, .refl _, A, rfl⟩
  | p hp _ ih =>
    intro E i vs S A
    obtain ⟨v, t, rfl, h1, h2⟩ := A.uncons
    obtain ⟨E', i', S', le', A', p'⟩ := ih S h2
    exact ⟨E', i', S', le', .cons (h1.mono le') A', by rw [List.all_cons, hp.o, p']; rfl⟩
  | g c hh _ ih =>
    intro E i vs S A
    obtain ⟨v, t, rfl, h1, h2⟩ := A.uncons
    obtain ⟨b, rfl, h3⟩ := h1.agg_inv
    obtain ⟨E1, i1, S1, le1, A1, -⟩ := c.ok S h3
    obtain ⟨E', i', S', le', A', p'⟩ := ih S1 (h2.mono le1)
    have A2 := A1.mono le'
    refine ⟨E', i', S', le1.trans le', .cons (.agg _ b A2.1 A2.2) A', ?_⟩
    rw [List.all_cons, p', Bool.and_true]
    exact hh.o
theorem ca_VA {f : FuncId} {ps ps' : List PV} {s1 : List OB} (hv : CvA s ps ps' s1) (hk : PCalls P f ps' [] (Aft P Z pr cs K e s1 d)) : CaG P Z pr cs K e s d kp f ps := fun xs ha fr h ⟨E, i, S, R⟩ => by
  obtain ⟨E1, i1, S1, le1, A1, hper⟩ := hv.ok S (R.map ha)
  have A := perL (X := ⟨Hp.mask h E1, i1, s1⟩) (Y := ⟨Hp.mask h E1, i1, []⟩) (fun p v q => per3_PR q (.refl _)) hper A1
  have S0 : SR ⟨h, E1, i1, []⟩ h E1 i1 [] := ⟨fun id o h => by simp at h, fun _ _ _ _ _ h => by simp at h, rfl, Nat.le_refl _, fun b k hb _ => ⟨hb, rfl⟩, fun b ⟨id, o, ho, _⟩ => by simp at ho, .refl _⟩
  refine s_call ((hk h E1 i1 _ S0 A).mono fun v h' ⟨p, t, E', i', ⟨k1, k2, k3⟩, T, hp⟩ => ?_)
  obtain ⟨S', hkp⟩ := S1.frame T k2
  exact ⟨fun _ => hkp, k3 _ _ ⟨E', _, S1.after S', ((R.mono le1).mono S'.le).put (shP_PR k1 hp)⟩⟩
end
end Go.Proofs.Ytalhipbbomagoaa.Pv
namespace Go.Proofs.Ytalhipbbomagoaa.PvW
open Go.RowKit Go.Proofs.Ytalhipbbomagoaa.Cd Go.Proofs.Ytalhipbbomagoaa.AbP Go.Proofs.Ytalhipbbomagoaa.Num Go.Proofs.Ytalhipbbomagoaa.Pv
set_option maxRecDepth 100000
set_option maxHeartbeats 4000000
set_option linter.unusedVariables false
set_option linter.unusedSimpArgs false
abbrev dReg : Ab.D := (.st (.cons (.int .u64) (.cons (.int .u64) (.cons (.int .u32) (.cons (.sl (.int .u8)) .nil)))))
def imgF (s : dSeg.T) : List dReg.T := if @Eq Int s.1 1 then [((s.2.2.1, s.2.2.2.2.1, s.2.1, s.2.2.2.2.2.2.1.2.2.2.1, PUnit.unit) : dReg.T)] else []
/-- what a model loads -/
def imgL (l : List dSeg.T) : List dReg.T := l.flatMap imgF
theorem img_snoc {l : List dSeg.T} {i : Nat} {x : dSeg.T} (hx : l[i]? = some x) : imgL (l.take (i + 1)) = imgL (l.take i) ++ imgF x := by
  unfold imgL
  rw [List.take_add_one, hx, List.flatMap_append]
  simp
theorem img_len : ∀ l : List dSeg.T, (imgL l).length ≤ l.length
  | [] => Nat.le_refl 0
  | s :: l => by
    have ih := img_len l
    show (imgF s ++ imgL l).length ≤ _
    unfold imgF
    rw [List.length_append, List.length_cons]
    split
    · simp only [List.length_singleton]; omega
    · simp only [List.length_nil]; omega
section
variable {K : PV → List OB → Prop} {w big : Bool} {o ab ty ma fl en st : Int} {segs : List dSeg.T} {secs : List dSec.T}
theorem rmat_spec {i off sz : Int} {own : List Int} (hl : Om (own.length ≤ 1000000)) (hk : K (.bool true) []) : PCalls Try.prog 47 [.agg [.int .i64 i, .int .u64 off, .int .u64 sz, .sl (.int .u8) own], .agg [.int .i64 i, .int .u64 off, .int .u64 sz, .sl (.int .u8) own]] [] K := by
  have hl := hl.o
  refine told_callP bezantref14_samePlace.told fun Z hZ => ?_
  unfold bezantref14_samePlace.c
  have hbs : ∀ s : List UInt8, (s == s) = true := fun s => beq_self_eq_true s
  refine W1 trivial (And.intro @DD @hbs) trivial ?_
  exact hk
theorem rsame_spec (hl : Om (segs.length ≤ 1000000 ∧ secs.length ≤ 1000000)) (hL : ∀ s ∈ segs, s.2.2.2.2.2.2.1.2.2.2.1.length ≤ 1000000) (hM : ∀ s ∈ secs, s.2.2.2.2.2.2.2.2.2.1.2.2.2.1.length ≤ 1000000) (hk : K (.bool true) []) :
    PCalls Try.prog 13 [.agg [.bool w, .bool big, .int .u8 o, .int .u8 ab, .int .u16 ty, .int .u16 ma, .int .u32 fl, .int .u64 en, .sl dSeg segs, .sl dSec secs, .int .i64 st], .agg [.bool w, .bool big, .int .u8 o, .int .u8 ab, .int .u16 ty, .int .u16 ma, .int .u32 fl, .int .u64 en, .sl dSeg segs, .sl dSec secs, .int .i64 st]] [] K := by
  have hl := hl.o
  have hq := identM_same w big o ab
  refine told_callP bezantref14_Same.told fun Z hZ => ?_
  unfold bezantref14_Same.c
  refine W1 trivial @DD trivial ?_
  refine w_lpG (fun q e s => ∃ i : Nat, q + i = segs.length ∧ s = [.var [.bool w, .bool big, .int .u8 o, .int .u8 ab, .int .u16 ty, .int .u16 ma, .int .u32 fl, .int .u64 en, .sl dSeg segs, .sl dSec secs, .int .i64 st], .var [.bool w, .bool big, .int .u8 o, .int .u8 ab, .int .u16 ty, .int .u16 ma, .int .u32 fl, .int .u64 en, .sl dSeg segs, .sl dSec secs, .int .i64 st]] ∧ e 2 = .ptr 0 0 ∧ e 3 = .ptr 1 0 ∧ e 5 = .int .i64 i) segs.length ?_ ?_
  · exact ⟨0, rfl, rfl, by exact lk trivial, by exact lk trivial, by exact lk trivial⟩
  rintro q e s ⟨i, hi, rfl, e2, e3, e5⟩
  by_cases hq : i < segs.length
  · obtain ⟨x, hx⟩ : ∃ x, segs[i]? = some x := ⟨segs[i], List.getElem?_eq_getElem hq⟩
    have hx0 := hL x (List.mem_of_getElem? hx)
    obtain ⟨sty, sfl, sva, spa, sme, sal, ⟨si, so, sz, sown, u⟩, u2⟩ := x
    dsimp only at hx0
    refine W1 (And.intro @e2 (And.intro @e3 @e5)) @DD @rmat_spec ?_
    exact ⟨q - 1, by omega, _, _, Gh.sel [0, 1] (by decide) (hz0 hZ), i + 1, by omega, rfl, by exact lk @e2, by exact lk @e3, by exact lk @e5⟩
  refine W1 (And.intro @e2 (And.intro @e3 @e5)) @DD trivial ?_
  refine w_lpG (fun q e s => ∃ i : Nat, q + i = secs.length ∧ s = [.var [.bool w, .bool big, .int .u8 o, .int .u8 ab, .int .u16 ty, .int .u16 ma, .int .u32 fl, .int .u64 en, .sl dSeg segs, .sl dSec secs, .int .i64 st], .var [.bool w, .bool big, .int .u8 o, .int .u8 ab, .int .u16 ty, .int .u16 ma, .int .u32 fl, .int .u64 en, .sl dSeg segs, .sl dSec secs, .int .i64 st]] ∧ e 2 = .ptr 0 0 ∧ e 3 = .ptr 1 0 ∧ e 9 = .int .i64 i) secs.length ?_ ?_
  · exact ⟨0, rfl, rfl, by exact lk @e2, by exact lk @e3, by exact lk trivial⟩
  clear e2 e3 e5 hq hi
  rintro q e s ⟨i, hi, rfl, e2, e3, e9⟩
  by_cases hq : i < secs.length
  · obtain ⟨x, hx⟩ : ∃ x, secs[i]? = some x := ⟨secs[i], List.getElem?_eq_getElem hq⟩
    have hx0 := hM x (List.mem_of_getElem? hx)
    obtain ⟨nm, sty, sfl, sad, ssi, sli, ssf, sal, sen, ⟨si, so, sz, sown, u⟩, u2⟩ := x
    dsimp only at hx0
    refine W1 (And.intro @e2 (And.intro @e3 @e9)) @DD @rmat_spec ?_
    exact ⟨q - 1, by omega, _, _, Gh.sel [0, 1] (by decide) (hz0 hZ), i + 1, by omega, rfl, by exact lk @e2, by exact lk @e3, by exact lk @e9⟩
  refine W1 (And.intro @e2 (And.intro @e3 @e9)) @DD trivial ?_
  exact hk
theorem rbools_spec {l : List Bool} (hl : Om (l.length ≤ 1000000)) (hk : K (.int .i64 1) []) : PCalls Try.prog 16 [.sl .bool l, .sl .bool l] [] K := by
  have hl := hl.o
  refine told_callP bezantlaw00_Bools.told fun Z hZ => ?_
  unfold bezantlaw00_Bools.c
  refine W1 trivial @DD trivial ?_
  refine w_lp (fun q e s => s = [] ∧ ∃ i : Nat, q + i = l.length ∧ e 0 = .sl .bool l ∧ e 1 = .sl .bool l ∧ e 5 = .int .i64 i) l.length ?_ ?_
  · exact ⟨rfl, 0, by omega, by exact lk trivial, by exact lk trivial, by exact lk trivial⟩
  rintro q e s ⟨rfl, i, hi, e0, e1, e5⟩
  by_cases hq : i < l.length
  · obtain ⟨x, hx⟩ : ∃ x, l[i]? = some x := ⟨l[i], List.getElem?_eq_getElem hq⟩
    cases x
    · refine W1 (And.intro @e0 (And.intro @e1 @e5)) @DD trivial ?_
      exact ⟨q - 1, by omega, rfl, i + 1, by omega, by exact lk @e0, by exact lk @e1, by exact lk @e5⟩
    · refine W1 (And.intro @e0 (And.intro @e1 @e5)) @DD trivial ?_
      exact ⟨q - 1, by omega, rfl, i + 1, by omega, by exact lk @e0, by exact lk @e1, by exact lk @e5⟩
  · refine W1 (And.intro @e0 (And.intro @e1 @e5)) @DD trivial ?_
    exact hk
/-- the document's list of which go -/
theorem rgoes_spec (hl : Om (segs.length ≤ 1000 ∧ secs.length ≤ 1000)) (hN : Am (SecsN secs)) (hk : K (.sl .bool (goesL secs st 0 secs)) []) :
    PCalls Try.prog 18 [.agg [.bool w, .bool big, .int .u8 o, .int .u8 ab, .int .u16 ty, .int .u16 ma, .int .u32 fl, .int .u64 en, .sl dSeg segs, .sl dSec secs, .int .i64 st]] [] K := by
  have hl := hl.o
  have hN := hN.o
  refine told_callP bezantref18_Goes.told fun Z hZ => ?_
  unfold bezantref18_Goes.c
  refine W1 trivial @DD trivial ?_
  apply x_virt 3 .bool; (repeat any_goals first | exact mp_z | apply mp_s | exact rs_z | apply rs_t | apply rs_n | apply rs_c); (repeat any_goals first | (apply Lk.i; (simp only [↓LL, ↓reduceIte, Nat.reduceEqDiff]; (try rfl); done)) | (apply Rf.i; first | rfl | assumption) | (apply Vl.i; ((try simp (disch := omega) only [VV, ↓reduceIte, peqI, encP]); (try rfl); done)) | (apply Am.i; assumption) | (apply Pu.i; ((try simp only [↓reduceIte, UU, RR, Nat.reduceAdd, Nat.reduceEqDiff, cellsP, putP, fillQ, flatQ, shP, sh1, encP]); (try rfl); done)) | (apply Om.i; ((try simp only [MM]); (try omega); done)) | (apply Vw.i; first | exact As.sl _ _ | exact As.nil _ | exact As.arr _ _ _ _ rfl (by ((try simp only [MM]); (try omega); done)) | exact As.row _ _ _ _ _ rfl rfl | exact Src.str _ | exact Src.as (As.sl _ _) | exact Src.as (As.nil _) | exact Src.as (As.arr _ _ _ _ rfl (by ((try simp only [MM]); (try omega); done))) | exact Src.as (As.row _ _ _ _ _ rfl rfl))); (all_goals fail_if_success apply Mk.i)
  refine w_lpG (fun q e s => ∃ i : Nat, q + i = secs.length ∧ s = [.var [.bool w, .bool big, .int .u8 o, .int .u8 ab, .int .u16 ty, .int .u16 ma, .int .u32 fl, .int .u64 en, .sl dSeg segs, .sl dSec secs, .int .i64 st], .arr .bool (goesL secs st 0 (secs.take i))] ∧ e 1 = .ptr 0 0 ∧ e 3 = .osl 1 (goesL secs st 0 (secs.take i)).length ∧ e 4 = .int .i64 i) secs.length ?_ ?_
  · exact ⟨0, rfl, rfl, by exact lk trivial, by exact lk trivial, by exact lk trivial⟩
  rintro q e s ⟨i, hi, rfl, e1, e3, e4⟩
  by_cases hq : i < secs.length
  · obtain ⟨x, hx⟩ : ∃ x, secs[i]? = some x := ⟨secs[i], List.getElem?_eq_getElem hq⟩
    have htk : secs.take (i + 1) = secs.take i ++ [x] := by rw [List.take_add_one, hx]; rfl
    have hli : (secs.take i).length = i := by rw [List.length_take]; omega
    have hsn : goesL secs st 0 (secs.take (i + 1)) = goesL secs st 0 (secs.take i) ++ [goesB secs st i x] := by rw [htk, goes_snoc, hli, Nat.zero_add]
    have hln : (goesL secs st 0 (secs.take i)).length = i := by rw [goes_len, hli]
    generalize goesL secs st 0 (secs.take i) = G at *
    have hxm := List.mem_of_getElem? hx
    refine W1 (And.intro @e1 (And.intro @e3 @e4)) @DD trivial ?_
    refine rfirst_spec hx ⟨by omega⟩ ⟨hN⟩ ?_
    refine W1 (And.intro @e1 (And.intro @e3 @e4)) @DD trivial ?_
    refine stays_spec hx ⟨by omega⟩ ⟨hN⟩ ?_
    have hgo : goesB secs st i x = (secE secs st i x || (!stayB st i x.2.2.1 && decide (@Eq Int x.2.1 3) && (symsB secs st i 0 secs && !othsB secs st i 0 secs))) := rfl
    rw [hgo] at hsn
    generalize secE secs st i x = fi at *
    cases hsb : stayB st i x.2.2.1
    rotate_left
    · rw [hsb, Bool.not_true, Bool.false_and, Bool.false_and, Bool.or_false] at hsn
      obtain ⟨nm, sty, sfl, sad, ssi, sli, ssf, sal, sen, ⟨si, so, sz, sown, u⟩, u2⟩ := x
      refine W1 (And.intro @e1 (And.intro @e3 @e4)) @DD (@oArr 2 .bool) ?_
      exact ⟨q - 1, by omega, _, _, Gh.sel [0, 1] (by decide) (hz0 hZ), i + 1, by omega, by rw [hsn]; rfl, by exact lk @e1, by rw [hsn, List.length_append]; exact lk @e3, by exact lk @e4⟩
    rw [hsb, Bool.not_false, Bool.true_and] at hsn
    by_cases h3 : @Eq Int x.2.1 3
    rotate_left
    · rw [decide_eq_false h3, Bool.false_and, Bool.or_false] at hsn
      obtain ⟨nm, sty, sfl, sad, ssi, sli, ssf, sal, sen, ⟨si, so, sz, sown, u⟩, u2⟩ := x
      have h3 : ¬ @Eq Int sty 3 := h3
      refine W1 (And.intro @e1 (And.intro @e3 @e4)) @DD (@oArr 2 .bool) ?_
      exact ⟨q - 1, by omega, _, _, Gh.sel [0, 1] (by decide) (hz0 hZ), i + 1, by omega, by rw [hsn]; rfl, by exact lk @e1, by rw [hsn, List.length_append]; exact lk @e3, by exact lk @e4⟩
    rw [decide_eq_true h3, Bool.true_and] at hsn
    obtain ⟨nm, sty, sfl, sad, ssi, sli, ssf, sal, sen, ⟨si, so, sz, sown, u⟩, u2⟩ := x
    have h3 : @Eq Int sty 3 := h3
    have hw1 : IntKind.wrap .i64 ((i : Int) + 1) = (i : Int) + 1 := by rw [wI64]; omega
    refine W1 (And.intro @e1 (And.intro @e3 @e4)) @DD trivial ?_
    refine w_lpG (fun q e s => ∃ k : Nat, q + k = secs.length ∧ s = [.var [.bool w, .bool big, .int .u8 o, .int .u8 ab, .int .u16 ty, .int .u16 ma, .int .u32 fl, .int .u64 en, .sl dSeg segs, .sl dSec secs, .int .i64 st], .arr .bool G] ∧ e 1 = .ptr 0 0 ∧ e 3 = .osl 1 G.length ∧ e 4 = .int .i64 i ∧ e 5 = .bool fi ∧ e 7 = .bool (symsB secs st i 0 (secs.take k)) ∧ e 8 = .bool (othsB secs st i 0 (secs.take k)) ∧ e 9 = .int .i64 k) secs.length ?_ ?_
    · exact ⟨0, rfl, rfl, by exact lk @e1, by exact lk @e3, by exact lk @e4, by exact lk trivial, by exact lk trivial, by exact lk trivial, by exact lk trivial⟩
    clear e1 e3 e4
    rintro q2 e s ⟨k, hk2, rfl, e1, e3, e4, e5, e7, e8, e9⟩
    by_cases hkq : k < secs.length
    · obtain ⟨y, hy⟩ : ∃ y, secs[k]? = some y := ⟨secs[k], List.getElem?_eq_getElem hkq⟩
      have hy0 := hN y (List.mem_of_getElem? hy)
      have htk2 : secs.take (k + 1) = secs.take k ++ [y] := by rw [List.take_add_one, hy]; rfl
      have hlk : (secs.take k).length = k := by rw [List.length_take]; omega
      have hs8 := syms_snoc secs st i (secs.take k) 0 y
      have hs9 := oths_snoc secs st i (secs.take k) 0 y
      rw [hlk, Nat.zero_add, ← htk2] at hs8 hs9
      have hfs := fun K => rfirst_spec (K := K) (w := w) (big := big) (o := o) (ab := ab) (ty := ty) (ma := ma) (fl := fl) (en := en) (st := st) (segs := segs) hy ⟨by omega⟩ ⟨hN⟩
      generalize symsB secs st i 0 (secs.take k) = sy at *
      generalize othsB secs st i 0 (secs.take k) = ot at *
      generalize secE secs st k y = fk at *
      obtain ⟨ynm, yty, yfl, yad, ysi, yli, ysf, yal, yen, ⟨yi, yo, yz, yown, yu⟩, yu2⟩ := y
      obtain ⟨yli, rfl⟩ : ∃ v : Int, v = yli := ⟨yli, rfl⟩
      have hyl := hy0.li
      have hyl : 0 ≤ yli ∧ yli ≤ 4294967295 := hyl
      dsimp only at hs8 hs9
      have hwl : IntKind.wrap .i64 yli = yli := by rw [wI64]; omega
      by_cases h5 : @Eq Int yli (i + 1)
      · rw [decide_eq_true h5, Bool.true_and] at hs8 hs9
        by_cases h6 : @Eq Int yty 2
        · rw [decide_eq_true h6, Bool.and_true] at hs8
          refine W1 (And.intro @e1 (And.intro @e3 (And.intro @e4 (And.intro @e5 (And.intro @e7 (And.intro @e8 @e9)))))) (And.intro @DD (And.intro @hw1 @hwl)) trivial ?_
          refine hfs _ ?_
          cases sy <;> cases fk <;> cases ot <;> (simp only [Bool.false_or, Bool.true_or, Bool.not_true, Bool.not_false] at hs8 hs9; refine W1 (And.intro @e1 (And.intro @e3 (And.intro @e4 (And.intro @e5 (And.intro @e7 (And.intro @e8 @e9)))))) (And.intro @DD (And.intro @hw1 @hwl)) trivial ?_; exact ⟨q2 - 1, by omega, _, _, Gh.sel [0, 1] (by decide) (hz0 hZ), k + 1, by omega, rfl, by exact lk @e1, by exact lk @e3, by exact lk @e4, by exact lk @e5, by rw [hs8]; exact lk @e7, by rw [hs9]; exact lk @e8, by exact lk @e9⟩)
        · rw [decide_eq_false h6, Bool.and_false, Bool.or_false] at hs8
          refine W1 (And.intro @e1 (And.intro @e3 (And.intro @e4 (And.intro @e5 (And.intro @e7 (And.intro @e8 @e9)))))) (And.intro @DD (And.intro @hw1 @hwl)) trivial ?_
          refine hfs _ ?_
          cases sy <;> cases fk <;> cases ot <;> (simp only [Bool.false_or, Bool.true_or, Bool.not_true, Bool.not_false] at hs9; refine W1 (And.intro @e1 (And.intro @e3 (And.intro @e4 (And.intro @e5 (And.intro @e7 (And.intro @e8 @e9)))))) (And.intro @DD (And.intro @hw1 @hwl)) trivial ?_; exact ⟨q2 - 1, by omega, _, _, Gh.sel [0, 1] (by decide) (hz0 hZ), k + 1, by omega, rfl, by exact lk @e1, by exact lk @e3, by exact lk @e4, by exact lk @e5, by rw [hs8]; exact lk @e7, by rw [hs9]; exact lk @e8, by exact lk @e9⟩)
      · rw [decide_eq_false h5, Bool.false_and, Bool.or_false] at hs8 hs9
        refine W1 (And.intro @e1 (And.intro @e3 (And.intro @e4 (And.intro @e5 (And.intro @e7 (And.intro @e8 @e9)))))) (And.intro @DD (And.intro @hw1 @hwl)) trivial ?_
        exact ⟨q2 - 1, by omega, _, _, Gh.sel [0, 1] (by decide) (hz0 hZ), k + 1, by omega, rfl, by exact lk @e1, by exact lk @e3, by exact lk @e4, by exact lk @e5, by rw [hs8]; exact lk @e7, by rw [hs9]; exact lk @e8, by exact lk @e9⟩
    obtain rfl : k = secs.length := by omega
    rw [List.take_length] at e7 e8
    generalize symsB secs st i 0 secs = sy at *
    generalize othsB secs st i 0 secs = ot at *
    cases fi <;> cases sy <;> cases ot <;> (simp only [Bool.false_or, Bool.true_or, Bool.not_true, Bool.not_false, Bool.and_true, Bool.and_false, Bool.true_and, Bool.false_and] at hsn; refine W1 (And.intro @e1 (And.intro @e3 (And.intro @e4 (And.intro @e5 (And.intro @e7 (And.intro @e8 @e9)))))) (And.intro @DD @hw1) (@oArr 2 .bool) ?_; exact ⟨q - 1, by omega, _, _, Gh.sel [0, 1] (by decide) (hz0 hZ), i + 1, by omega, by rw [hsn]; rfl, by exact lk @e1, by rw [hsn, List.length_append]; exact lk @e3, by exact lk @e4⟩)
  obtain rfl : i = secs.length := by omega
  rw [List.take_length] at e3 ⊢
  have hGl := goes_len secs st secs 0
  refine Wn1 (And.intro @e1 (And.intro @e3 @e4)) @DD trivial ?_
  apply x_frz 2; (repeat any_goals first | exact mp_z | apply mp_s | exact rs_z | apply rs_t | apply rs_n | apply rs_c); (repeat any_goals first | (apply Lk.i; (simp only [↓LL, ↓reduceIte, Nat.reduceEqDiff]; (try rfl); done)) | (apply Rf.i; first | rfl | assumption) | (apply Vl.i; ((try simp (disch := omega) only [VV, ↓reduceIte, peqI, encP]); (try rfl); done)) | (apply Am.i; assumption) | (apply Pu.i; ((try simp only [↓reduceIte, UU, RR, Nat.reduceAdd, Nat.reduceEqDiff, cellsP, putP, fillQ, flatQ, shP, sh1, encP]); (try rfl); done)) | (apply Om.i; ((try simp only [MM]); (try omega); done)) | (apply Vw.i; first | exact As.sl _ _ | exact As.nil _ | exact As.arr _ _ _ _ rfl (by ((try simp only [MM]); (try omega); done)) | exact As.row _ _ _ _ _ rfl rfl | exact Src.str _ | exact Src.as (As.sl _ _) | exact Src.as (As.nil _) | exact Src.as (As.arr _ _ _ _ rfl (by ((try simp only [MM]); (try omega); done))) | exact Src.as (As.row _ _ _ _ _ rfl rfl))); (all_goals fail_if_success apply Mk.i)
  refine W1 (And.intro @e1 (And.intro @e3 @e4)) @DD trivial ?_
  exact hk
end
end Go.Proofs.Ytalhipbbomagoaa.PvW
