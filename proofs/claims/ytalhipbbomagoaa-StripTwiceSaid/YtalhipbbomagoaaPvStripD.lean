/- What strip.Strip yields. No statement of the set is proved in this text. -/
import Derived.Test.YtalhipbbomagoaaPvStripO
namespace Go.Proofs.Ytalhipbbomagoaa.PvW
open Go.RowKit Go.Proofs.Ytalhipbbomagoaa.Cd Go.Proofs.Ytalhipbbomagoaa.AbP Go.Proofs.Ytalhipbbomagoaa.Num Go.Proofs.Ytalhipbbomagoaa.Pv
set_option maxRecDepth 100000
set_option maxHeartbeats 4000000
set_option linter.unusedVariables false
set_option linter.unusedSimpArgs false
def zeroSec : dSec.T := ((0 : Int), (0 : Int), (0 : Int), (0 : Int), (0 : Int), (0 : Int), (0 : Int), (0 : Int), (0 : Int), ((-1 : Int), (0 : Int), (0 : Int), ([] : List Int), PUnit.unit), PUnit.unit)
/-- the sections that are left -/
def stripL (secs : List dSec.T) (st : Int) : Nat → List dSec.T → List dSec.T
  | _, [] => []
  | i, s :: l => (if goesB secs st i s = true then zeroSec else s) :: stripL secs st (i + 1) l
theorem strip_len (secs : List dSec.T) (st : Int) : ∀ (l : List dSec.T) (i : Nat), (stripL secs st i l).length = l.length
  | [], _ => rfl
  | s :: l, i => by rw [stripL, List.length_cons, strip_len secs st l, List.length_cons]
theorem strip_snoc (secs : List dSec.T) (st : Int) : ∀ (l : List dSec.T) (i : Nat) (x : dSec.T), stripL secs st i (l ++ [x]) = stripL secs st i l ++ [if goesB secs st (i + l.length) x = true then zeroSec else x]
  | [], i, x => rfl
  | s :: l, i, x => by
    rw [List.cons_append, stripL, strip_snoc secs st l, stripL, List.cons_append, List.length_cons, show i + 1 + l.length = i + (l.length + 1) by omega]
theorem strip_get (secs : List dSec.T) (st : Int) : ∀ (l : List dSec.T) (i k : Nat) (x : dSec.T), l[k]? = some x → (stripL secs st i l)[k]? = some (if goesB secs st (i + k) x = true then zeroSec else x)
  | [], i, k, x, h => by simp at h
  | s :: l, i, 0, x, h => by obtain rfl : s = x := (by simpa using h); rfl
  | s :: l, i, k + 1, x, h => by
    have := strip_get secs st l (i + 1) k x (by simpa using h)
    rw [stripL, List.getElem?_cons_succ, this, show i + 1 + k = i + (k + 1) by omega]
section
variable {K : PV → List OB → Prop} {w big : Bool} {o ab ty ma fl en st : Int} {segs : List dSeg.T} {secs : List dSec.T}
theorem bclone_own {l : List Int} (hm : Om (l.length ≤ 1000000)) (hk : K (.osl 0 l.length) [.arr (.int .u8) l]) : PCalls Try.prog 73 [.sl (.int .u8) l] [] K := by
  have hm := hm.o
  refine told_callP bytes_Clone.told fun Z hZ => ?_
  unfold bytes_Clone.c
  refine W1 trivial trivial trivial ?_
  refine nl_Sl fun r hr => ?_
  cases r
  · show pops _ _ _ _ _ (putE _ _ (.bool false)) _
    refine W1 trivial trivial (@oArr 0 (.int .u8)) ?_
    have hk' : K (.osl 0 (0 + l.length)) [.arr (.int .u8) l] := by rw [Nat.zero_add]; exact hk
    exact hk'
  · obtain rfl := hr rfl
    show pops _ _ _ _ _ (putE _ _ (.bool true)) _
    refine Wn1 trivial trivial trivial ?_
    apply x_virt 2 (.int .u8); (repeat any_goals first | exact mp_z | apply mp_s | exact rs_z | apply rs_t | apply rs_n | apply rs_c); (repeat any_goals first | (apply Lk.i; (simp only [↓LL, ↓reduceIte, Nat.reduceEqDiff]; (try rfl); done)) | (apply Rf.i; first | rfl | assumption) | (apply Vl.i; ((try simp (disch := omega) only [VV, ↓reduceIte, peqI, encP]); (try rfl); done)) | (apply Am.i; assumption) | (apply Pu.i; ((try simp only [↓reduceIte, UU, RR, Nat.reduceAdd, Nat.reduceEqDiff, cellsP, putP, fillQ, flatQ, shP, sh1, encP]); (try rfl); done)) | (apply Om.i; ((try simp only [MM]); (try omega); done)) | (apply Vw.i; first | exact As.sl _ _ | exact As.nil _ | exact As.arr _ _ _ _ rfl (by ((try simp only [MM]); (try omega); done)) | exact As.row _ _ _ _ _ rfl rfl | exact Src.str _ | exact Src.as (As.sl _ _) | exact Src.as (As.nil _) | exact Src.as (As.arr _ _ _ _ rfl (by ((try simp only [MM]); (try omega); done))) | exact Src.as (As.row _ _ _ _ _ rfl rfl))); (all_goals fail_if_success apply Mk.i)
    refine W1 trivial trivial trivial ?_
    exact hk
theorem gclone_own {l : List dSeg.T} (hm : Om (l.length ≤ 1000000)) (hk : K (.osl 0 l.length) [.arr dSeg l]) : PCalls Try.prog 48 [.sl dSeg l] [] K := by
  have hm := hm.o
  refine told_callP slices_Clone_api_Seg_api_Seg.told fun Z hZ => ?_
  unfold slices_Clone_api_Seg_api_Seg.c
  refine W1 trivial trivial trivial ?_
  refine nl_Sl fun r hr => ?_
  cases r
  · show pops _ _ _ _ _ (putE _ _ (.bool false)) _
    refine W1 trivial trivial (@oArr 0 dSeg) ?_
    have hk' : K (.osl 0 (0 + l.length)) [.arr dSeg l] := by rw [Nat.zero_add]; exact hk
    exact hk'
  · obtain rfl := hr rfl
    show pops _ _ _ _ _ (putE _ _ (.bool true)) _
    refine Wn1 trivial trivial trivial ?_
    apply x_virt 2 dSeg; (repeat any_goals first | exact mp_z | apply mp_s | exact rs_z | apply rs_t | apply rs_n | apply rs_c); (repeat any_goals first | (apply Lk.i; (simp only [↓LL, ↓reduceIte, Nat.reduceEqDiff]; (try rfl); done)) | (apply Rf.i; first | rfl | assumption) | (apply Vl.i; ((try simp (disch := omega) only [VV, ↓reduceIte, peqI, encP]); (try rfl); done)) | (apply Am.i; assumption) | (apply Pu.i; ((try simp only [↓reduceIte, UU, RR, Nat.reduceAdd, Nat.reduceEqDiff, cellsP, putP, fillQ, flatQ, shP, sh1, encP]); (try rfl); done)) | (apply Om.i; ((try simp only [MM]); (try omega); done)) | (apply Vw.i; first | exact As.sl _ _ | exact As.nil _ | exact As.arr _ _ _ _ rfl (by ((try simp only [MM]); (try omega); done)) | exact As.row _ _ _ _ _ rfl rfl | exact Src.str _ | exact Src.as (As.sl _ _) | exact Src.as (As.nil _) | exact Src.as (As.arr _ _ _ _ rfl (by ((try simp only [MM]); (try omega); done))) | exact Src.as (As.row _ _ _ _ _ rfl rfl))); (all_goals fail_if_success apply Mk.i)
    refine W1 trivial trivial trivial ?_
    exact hk
theorem cclone_own {l : List dSec.T} (hm : Om (l.length ≤ 1000000)) (hk : K (.osl 0 l.length) [.arr dSec l]) : PCalls Try.prog 49 [.sl dSec l] [] K := by
  have hm := hm.o
  refine told_callP slices_Clone_api_Sec_api_Sec.told fun Z hZ => ?_
  unfold slices_Clone_api_Sec_api_Sec.c
  refine W1 trivial trivial trivial ?_
  refine nl_Sl fun r hr => ?_
  cases r
  · show pops _ _ _ _ _ (putE _ _ (.bool false)) _
    refine W1 trivial trivial (@oArr 0 dSec) ?_
    have hk' : K (.osl 0 (0 + l.length)) [.arr dSec l] := by rw [Nat.zero_add]; exact hk
    exact hk'
  · obtain rfl := hr rfl
    show pops _ _ _ _ _ (putE _ _ (.bool true)) _
    refine Wn1 trivial trivial trivial ?_
    apply x_virt 2 dSec; (repeat any_goals first | exact mp_z | apply mp_s | exact rs_z | apply rs_t | apply rs_n | apply rs_c); (repeat any_goals first | (apply Lk.i; (simp only [↓LL, ↓reduceIte, Nat.reduceEqDiff]; (try rfl); done)) | (apply Rf.i; first | rfl | assumption) | (apply Vl.i; ((try simp (disch := omega) only [VV, ↓reduceIte, peqI, encP]); (try rfl); done)) | (apply Am.i; assumption) | (apply Pu.i; ((try simp only [↓reduceIte, UU, RR, Nat.reduceAdd, Nat.reduceEqDiff, cellsP, putP, fillQ, flatQ, shP, sh1, encP]); (try rfl); done)) | (apply Om.i; ((try simp only [MM]); (try omega); done)) | (apply Vw.i; first | exact As.sl _ _ | exact As.nil _ | exact As.arr _ _ _ _ rfl (by ((try simp only [MM]); (try omega); done)) | exact As.row _ _ _ _ _ rfl rfl | exact Src.str _ | exact Src.as (As.sl _ _) | exact Src.as (As.nil _) | exact Src.as (As.arr _ _ _ _ rfl (by ((try simp only [MM]); (try omega); done))) | exact Src.as (As.row _ _ _ _ _ rfl rfl))); (all_goals fail_if_success apply Mk.i)
    refine W1 trivial trivial trivial ?_
    exact hk
theorem splace_spec {i off sz : Int} {own : List Int} (hm : Om (own.length ≤ 1000000)) (hk : K (.agg [.int .i64 i, .int .u64 off, .int .u64 sz, .sl (.int .u8) own]) []) : PCalls Try.prog 50 [.agg [.int .i64 i, .int .u64 off, .int .u64 sz, .sl (.int .u8) own]] [] K := by
  have hm := hm.o
  refine told_callP strip_place.told fun Z hZ => ?_
  unfold strip_place.c
  refine Wn1 trivial @DD @bclone_own ?_
  refine ghW (Gh.frzC (b := 1) (j := 3) (b' := 2) (D' := .int .u8) (l := own) rfl rfl rfl rfl) ?_
  refine W1 trivial trivial trivial ?_
  exact hk
theorem strip_spec (hl : Om (segs.length ≤ 1000 ∧ secs.length ≤ 1000)) (hG : Am (SegsN segs)) (hN : Am (SecsN secs)) (hk : K (.agg [.bool w, .bool big, .int .u8 o, .int .u8 ab, .int .u16 ty, .int .u16 ma, .int .u32 fl, .int .u64 en, .sl dSeg segs, .sl dSec (stripL secs st 0 secs), .int .i64 st]) []) :
    PCalls Try.prog 14 [.agg [.bool w, .bool big, .int .u8 o, .int .u8 ab, .int .u16 ty, .int .u16 ma, .int .u32 fl, .int .u64 en, .sl dSeg segs, .sl dSec secs, .int .i64 st]] [] K := by
  have hl := hl.o
  have hG := hG.o
  have hN := hN.o
  refine told_callP strip_Strip.told fun Z hZ => ?_
  unfold strip_Strip.c
  refine W1 trivial @DD (And.intro @gclone_own @cclone_own) ?_
  refine w_lpG (fun q e s => ∃ i : Nat, q + i = segs.length ∧ s = [.var [.bool w, .bool big, .int .u8 o, .int .u8 ab, .int .u16 ty, .int .u16 ma, .int .u32 fl, .int .u64 en, .osl 2 segs.length, .osl 3 secs.length, .int .i64 st], .var [.bool false, .bool false, .int .u8 0, .int .u8 0, .int .u16 0, .int .u16 0, .int .u32 0, .int .u64 0, .nilS, .nilS, .int .i64 0], .arr dSeg segs, .arr dSec secs] ∧ e 1 = .ptr 0 0 ∧ e 2 = .ptr 1 0 ∧ e 16 = .int .i64 segs.length ∧ e 17 = .int .i64 i) segs.length ?_ ?_
  · exact ⟨0, rfl, rfl, by exact lk trivial, by exact lk trivial, by exact lk trivial, by exact lk trivial⟩
  rintro q e s ⟨i, hi, rfl, e1, e2, e16, e17⟩
  by_cases hq : i < segs.length
  · obtain ⟨x, hx⟩ : ∃ x, segs[i]? = some x := ⟨segs[i], List.getElem?_eq_getElem hq⟩
    have hx0 := (hG x (List.mem_of_getElem? hx)).ow
    have hset : segs.set i x = segs := by obtain ⟨h, e⟩ := List.getElem?_eq_some_iff.1 hx; rw [← e]; exact List.set_getElem_self h
    obtain ⟨sty, sfl, sva, spa, sme, sal, ⟨si, so, sz, sown, ⟨⟩⟩, ⟨⟩⟩ := x
    dsimp only at hx0
    refine W1 (And.intro @e1 (And.intro @e2 (And.intro @e16 @e17))) @DD @splace_spec ?_
    exact ⟨q - 1, by omega, _, _, Gh.sel [0, 1, 2, 3] (by decide) (hz0 hZ), i + 1, by omega, by show [_, _, OB.arr dSeg _, _] = [_, _, OB.arr dSeg _, _]; rw [hset]; rfl, by exact lk @e1, by exact lk @e2, by exact lk @e16, by exact lk @e17⟩
  obtain rfl : i = segs.length := by omega
  refine W1 (And.intro @e1 (And.intro @e2 (And.intro @e16 @e17))) @DD trivial ?_
  apply ca_S [2, 3]; (repeat any_goals first | exact mp_z | apply mp_s | exact rs_z | apply rs_t | apply rs_n | apply rs_c); (repeat any_goals first | (apply Lk.i; (simp only [↓LL, ↓reduceIte, Nat.reduceEqDiff]; (try rfl); done)) | (apply Rf.i; first | rfl | assumption) | (apply Vl.i; ((try simp (disch := omega) only [VV, ↓reduceIte, peqI, encP]); (try rfl); done)) | (apply Am.i; assumption) | (apply Pu.i; ((try simp only [↓reduceIte, UU, RR, Nat.reduceAdd, Nat.reduceEqDiff, cellsP, putP, fillQ, flatQ, shP, sh1, encP]); (try rfl); done)) | (apply Om.i; ((try simp only [MM]); (try omega); done)) | (apply Vw.i; first | exact As.sl _ _ | exact As.nil _ | exact As.arr _ _ _ _ rfl (by ((try simp only [MM]); (try omega); done)) | exact As.row _ _ _ _ _ rfl rfl | exact Src.str _ | exact Src.as (As.sl _ _) | exact Src.as (As.nil _) | exact Src.as (As.arr _ _ _ _ rfl (by ((try simp only [MM]); (try omega); done))) | exact Src.as (As.row _ _ _ _ _ rfl rfl))); (all_goals fail_if_success apply Mk.i)
  refine goes_o ⟨⟨by omega, by omega⟩⟩ ⟨hN⟩ ?_
  obtain ⟨A, hA⟩ : ∃ A, A = goesL secs st 0 secs := ⟨_, rfl⟩
  have hAl : A.length = secs.length := by rw [hA, goes_len]
  have hAk : ∀ (k : Nat) (y : dSec.T), secs[k]? = some y → A[k]? = some (goesB secs st k y) := fun k y hy => by rw [hA, goes_get secs st secs 0 k y hy, Nat.zero_add]
  rw [← hA]
  refine W1 (And.intro @e1 (And.intro @e2 (And.intro @e16 @e17))) @DD trivial ?_
  refine w_lpG (fun q e s => ∃ i : Nat, q + i = secs.length ∧ s = [.var [.bool w, .bool big, .int .u8 o, .int .u8 ab, .int .u16 ty, .int .u16 ma, .int .u32 fl, .int .u64 en, .osl 2 segs.length, .osl 3 secs.length, .int .i64 st], .var [.bool false, .bool false, .int .u8 0, .int .u8 0, .int .u16 0, .int .u16 0, .int .u32 0, .int .u64 0, .nilS, .nilS, .int .i64 0], .arr dSeg segs, .arr dSec (stripL secs st 0 (secs.take i) ++ secs.drop i)] ∧ e 1 = .ptr 0 0 ∧ e 2 = .ptr 1 0 ∧ e 34 = .sl .bool A ∧ e 35 = .int .i64 secs.length ∧ e 36 = .int .i64 i) secs.length ?_ ?_
  · exact ⟨0, rfl, rfl, by exact lk @e1, by exact lk @e2, by exact lk trivial, by rw [← hAl]; exact lk trivial, by exact lk trivial⟩
  clear e1 e2 e16 e17 hi hq
  rintro q e s ⟨i, hi, rfl, e1, e2, e34, e35, e36⟩
  by_cases hq : i < secs.length
  · obtain ⟨x, hx⟩ : ∃ x, secs[i]? = some x := ⟨secs[i], List.getElem?_eq_getElem hq⟩
    have hx0 := (hN x (List.mem_of_getElem? hx)).ow
    have hAi := hAk i x hx
    have htk : secs.take (i + 1) = secs.take i ++ [x] := by rw [List.take_add_one, hx]; rfl
    have hli : (secs.take i).length = i := by rw [List.length_take]; omega
    have hsn : stripL secs st 0 (secs.take (i + 1)) = stripL secs st 0 (secs.take i) ++ [if goesB secs st i x = true then zeroSec else x] := by rw [htk, strip_snoc, hli, Nat.zero_add]
    have hln : (stripL secs st 0 (secs.take i)).length = i := by rw [strip_len, hli]
    generalize stripL secs st 0 (secs.take i) = P at *
    have hdr : secs.drop i = x :: secs.drop (i + 1) := by
      obtain ⟨h1, h2⟩ := List.getElem?_eq_some_iff.1 hx
      rw [← h2]
      exact List.drop_eq_getElem_cons h1
    have hPl : (P ++ secs.drop i).length = secs.length := by rw [List.length_append, List.length_drop]; omega
    have hPi : (P ++ secs.drop i)[i]? = some x := by rw [hdr, List.getElem?_append_right (by omega), hln, Nat.sub_self]; rfl
    have hset : (P ++ secs.drop i).set i x = P ++ secs.drop i := by obtain ⟨h, e⟩ := List.getElem?_eq_some_iff.1 hPi; rw [← e]; exact List.set_getElem_self h
    have hset2 : ∀ v, ((P ++ secs.drop i).set i x).set i v = (P ++ [v]) ++ secs.drop (i + 1) := fun v => by rw [hset, hdr, set_midS hln]
    have hPs : ((P ++ secs.drop i).set i x).length = secs.length := by rw [List.length_set]; exact hPl
    have hPx : ((P ++ secs.drop i).set i x)[i]? = some x := by rw [hset]; exact hPi
    generalize goesB secs st i x = g at *
    obtain ⟨nm, sty, sfl, sad, ssi, sli, ssf, sal, sen, ⟨si, so, sz, sown, ⟨⟩⟩, ⟨⟩⟩ := x
    dsimp only at hx0
    cases g
    · rw [if_neg (by decide)] at hsn
      refine W1 (And.intro @e1 (And.intro @e2 (And.intro @e34 (And.intro @e35 @e36)))) @DD @splace_spec ?_
      exact ⟨q - 1, by omega, _, _, Gh.sel [0, 1, 2, 3] (by decide) (hz0 hZ), i + 1, by omega, by show [_, _, _, OB.arr dSec _] = [_, _, _, OB.arr dSec _]; rw [hsn, hset, hdr, List.append_assoc]; rfl, by exact lk @e1, by exact lk @e2, by exact lk @e34, by exact lk @e35, by exact lk @e36⟩
    · rw [if_pos rfl] at hsn
      refine W1 (And.intro @e1 (And.intro @e2 (And.intro @e34 (And.intro @e35 @e36)))) @DD @splace_spec ?_
      exact ⟨q - 1, by omega, _, _, Gh.sel [0, 1, 2, 3] (by decide) (hz0 hZ), i + 1, by omega, by show [_, _, _, OB.arr dSec _] = [_, _, _, OB.arr dSec _]; rw [hsn, ← hset2 zeroSec]; rfl, by exact lk @e1, by exact lk @e2, by exact lk @e34, by exact lk @e35, by exact lk @e36⟩
  obtain rfl : i = secs.length := by omega
  have hsl := strip_len secs st secs 0
  rw [List.take_length, List.drop_eq_nil_of_le (by omega), List.append_nil]
  refine Wn1 (And.intro @e1 (And.intro @e2 (And.intro @e34 (And.intro @e35 @e36)))) @DD trivial ?_
  refine ghW (Gh.frzC (b := 1) (j := 8) (b' := 2) (D' := dSeg) (l := segs) rfl rfl rfl rfl) ?_
  refine ghW (Gh.frzC (b := 1) (j := 9) (b' := 3) (D' := dSec) (l := stripL secs st 0 secs) rfl rfl rfl hsl.symm) ?_
  refine W1 (And.intro @e1 (And.intro @e2 (And.intro @e34 (And.intro @e35 @e36)))) @DD trivial ?_
  exact hk
end
end Go.Proofs.Ytalhipbbomagoaa.PvW
