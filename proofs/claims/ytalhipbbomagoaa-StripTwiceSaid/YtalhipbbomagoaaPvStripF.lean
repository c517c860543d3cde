/- The walk of StripTells. No statement of the set is proved in this text. -/
import Derived.Test.YtalhipbbomagoaaPvStripE
import Derived.Test.YtalhipbbomagoaaTdBare
import Derived.Test.YtalhipbbomagoaaPvModelK
namespace Go.Proofs.Ytalhipbbomagoaa.PvW
open Go.RowKit Go.Proofs.Ytalhipbbomagoaa.Cd Go.Proofs.Ytalhipbbomagoaa.AbP Go.Proofs.Ytalhipbbomagoaa.Num Go.Proofs.Ytalhipbbomagoaa.Pv
set_option maxRecDepth 100000
set_option maxHeartbeats 4000000
set_option linter.unusedVariables false
set_option linter.unusedSimpArgs false
theorem strip_mem {secs : List dSec.T} {st : Int} : ∀ {l : List dSec.T} {i : Nat} {x : dSec.T}, x ∈ stripL secs st i l → x = zeroSec ∨ x ∈ l
  | [], i, x, h => by cases h
  | s :: l, i, x, h => by
    rcases List.mem_cons.1 h with h | h
    · split at h
      · exact .inl h
      · exact .inr (by rw [h]; exact List.mem_cons_self)
    · exact (strip_mem h).imp id (List.mem_cons_of_mem _)
section
variable {K : PV → List OB → Prop} {w big : Bool} {o ab ty ma fl en st : Int} {segs : List dSeg.T} {secs : List dSec.T}
theorem rstrip_spec (hl : Om (segs.length ≤ 1000 ∧ secs.length ≤ 1000)) (hN : Am (SecsN secs)) (hk : K (.agg [.bool w, .bool big, .int .u8 o, .int .u8 ab, .int .u16 ty, .int .u16 ma, .int .u32 fl, .int .u64 en, .sl dSeg segs, .sl dSec (stripL secs st 0 secs), .int .i64 st]) []) :
    PCalls Try.prog 15 [.agg [.bool w, .bool big, .int .u8 o, .int .u8 ab, .int .u16 ty, .int .u16 ma, .int .u32 fl, .int .u64 en, .sl dSeg segs, .sl dSec secs, .int .i64 st]] [] K := by
  have hl := hl.o
  have hN := hN.o
  refine told_callP bezantref18_Strip.told fun Z hZ => ?_
  unfold bezantref18_Strip.c
  refine W1 trivial @DD trivial ?_
  refine rgoes_spec ⟨hl⟩ ⟨hN⟩ ?_
  obtain ⟨A, hA⟩ : ∃ A, A = goesL secs st 0 secs := ⟨_, rfl⟩
  have hAl : A.length = secs.length := by rw [hA, goes_len]
  have hAk : ∀ (k : Nat) (y : dSec.T), secs[k]? = some y → A[k]? = some (goesB secs st k y) := fun k y hy => by rw [hA, goes_get secs st secs 0 k y hy, Nat.zero_add]
  rw [← hA]
  refine W1 trivial @DD trivial ?_
  apply x_virtV 2 9 dSec; (repeat any_goals first | exact mp_z | apply mp_s | exact rs_z | apply rs_t | apply rs_n | apply rs_c); (repeat any_goals first | (apply Lk.i; (simp only [↓LL, ↓reduceIte, Nat.reduceEqDiff]; (try rfl); done)) | (apply Rf.i; first | rfl | assumption) | (apply Vl.i; ((try simp (disch := omega) only [VV, ↓reduceIte, peqI, encP]); (try rfl); done)) | (apply Am.i; assumption) | (apply Pu.i; ((try simp only [↓reduceIte, UU, RR, Nat.reduceAdd, Nat.reduceEqDiff, cellsP, putP, fillQ, flatQ, shP, sh1, encP]); (try rfl); done)) | (apply Om.i; ((try simp only [MM]); (try omega); done)) | (apply Vw.i; first | exact As.sl _ _ | exact As.nil _ | exact As.arr _ _ _ _ rfl (by ((try simp only [MM]); (try omega); done)) | exact As.row _ _ _ _ _ rfl rfl | exact Src.str _ | exact Src.as (As.sl _ _) | exact Src.as (As.nil _) | exact Src.as (As.arr _ _ _ _ rfl (by ((try simp only [MM]); (try omega); done))) | exact Src.as (As.row _ _ _ _ _ rfl rfl))); (all_goals fail_if_success apply Mk.i)
  refine w_lpG (fun q e s => ∃ i : Nat, q + i = secs.length ∧ s = [.var [.bool w, .bool big, .int .u8 o, .int .u8 ab, .int .u16 ty, .int .u16 ma, .int .u32 fl, .int .u64 en, .sl dSeg segs, .sl dSec secs, .int .i64 st], .var [.bool false, .bool false, .int .u8 0, .int .u8 0, .int .u16 0, .int .u16 0, .int .u32 0, .int .u64 0, .nilS, .nilS, .int .i64 0], .var [.bool w, .bool big, .int .u8 o, .int .u8 ab, .int .u16 ty, .int .u16 ma, .int .u32 fl, .int .u64 en, .sl dSeg segs, .osl 3 (stripL secs st 0 (secs.take i)).length, .int .i64 st], .arr dSec (stripL secs st 0 (secs.take i))] ∧ e 1 = .ptr 0 0 ∧ e 2 = .ptr 1 0 ∧ e 3 = .ptr 2 0 ∧ e 4 = .sl .bool A ∧ e 5 = .int .i64 i) secs.length ?_ ?_
  · exact ⟨0, rfl, rfl, by exact lk trivial, by exact lk trivial, by exact lk trivial, by exact lk trivial, by exact lk trivial⟩
  rintro q e s ⟨i, hi, rfl, e1, e2, e3, e4, e5⟩
  by_cases hq : i < secs.length
  · obtain ⟨x, hx⟩ : ∃ x, secs[i]? = some x := ⟨secs[i], List.getElem?_eq_getElem hq⟩
    have hAi := hAk i x hx
    have htk : secs.take (i + 1) = secs.take i ++ [x] := by rw [List.take_add_one, hx]; rfl
    have hli : (secs.take i).length = i := by rw [List.length_take]; omega
    have hsn : stripL secs st 0 (secs.take (i + 1)) = stripL secs st 0 (secs.take i) ++ [if goesB secs st i x = true then zeroSec else x] := by rw [htk, strip_snoc, hli, Nat.zero_add]
    have hln : (stripL secs st 0 (secs.take i)).length = i := by rw [strip_len, hli]
    generalize stripL secs st 0 (secs.take i) = P at *
    generalize goesB secs st i x = g at *
    obtain ⟨nm, sty, sfl, sad, ssi, sli, ssf, sal, sen, ⟨si, so, sz, sown, ⟨⟩⟩, ⟨⟩⟩ := x
    cases g
    · rw [if_neg (by decide)] at hsn
      refine W1 (And.intro @e1 (And.intro @e2 (And.intro @e3 (And.intro @e4 @e5)))) @DD (@oArr 4 dSec) ?_
      exact ⟨q - 1, by omega, _, _, Gh.sel [0, 1, 2, 3] (by decide) (hz0 hZ), i + 1, by omega, by rw [hsn, List.length_append]; rfl, by exact lk @e1, by exact lk @e2, by exact lk @e3, by exact lk @e4, by exact lk @e5⟩
    · rw [if_pos rfl] at hsn
      refine W1 (And.intro @e1 (And.intro @e2 (And.intro @e3 (And.intro @e4 @e5)))) @DD (@oArr 4 dSec) ?_
      exact ⟨q - 1, by omega, _, _, Gh.sel [0, 1, 2, 3] (by decide) (hz0 hZ), i + 1, by omega, by rw [hsn, List.length_append]; rfl, by exact lk @e1, by exact lk @e2, by exact lk @e3, by exact lk @e4, by exact lk @e5⟩
  obtain rfl : i = secs.length := by omega
  have hsl := strip_len secs st secs 0
  rw [List.take_length]
  refine Wn1 (And.intro @e1 (And.intro @e2 (And.intro @e3 (And.intro @e4 @e5)))) @DD trivial ?_
  refine ghW (Gh.frzC (b := 1) (j := 9) (b' := 3) (D' := dSec) (l := stripL secs st 0 secs) rfl rfl rfl rfl) ?_
  refine W1 (And.intro @e1 (And.intro @e2 (And.intro @e3 (And.intro @e4 @e5)))) @DD trivial ?_
  exact hk
theorem goes0_spec (hk : K (.sl .bool []) []) : PCalls Try.prog 17 [.agg [.bool w, .bool big, .int .u8 o, .int .u8 ab, .int .u16 ty, .int .u16 ma, .int .u32 fl, .int .u64 en, .nilS, .nilS, .int .i64 st]] [] K :=
  PCalls.wkA (.g (WkA.mdi w big o ab ty ma fl en st) .z) (goes_r ⟨⟨by simp, by simp⟩⟩ ⟨fun s hs => by cases hs⟩ hk)
abbrev symSec : dSec.T := ((0 : Int), (2 : Int), (0 : Int), (0 : Int), (0 : Int), (0 : Int), (0 : Int), (0 : Int), (0 : Int), ((-1 : Int), (0 : Int), (0 : Int), ([] : List Int), PUnit.unit), PUnit.unit)
theorem up18_spec (hk : K (.bool true) []) : PCalls Try.prog 10 [] [] K := by
  refine told_callP bezantlaw18_up.told fun Z hZ => ?_
  unfold bezantlaw18_up.c
  refine W1 trivial @DD trivial ?_
  apply a_arr 0 dSec; (repeat any_goals first | exact mp_z | apply mp_s | exact rs_z | apply rs_t | apply rs_n | apply rs_c); (repeat any_goals first | (apply Lk.i; (simp only [↓LL, ↓reduceIte, Nat.reduceEqDiff]; (try rfl); done)) | (apply Rf.i; first | rfl | assumption) | (apply Vl.i; ((try simp (disch := omega) only [VV, ↓reduceIte, peqI, encP]); (try rfl); done)) | (apply Am.i; assumption) | (apply Pu.i; ((try simp only [↓reduceIte, UU, RR, Nat.reduceAdd, Nat.reduceEqDiff, cellsP, putP, fillQ, flatQ, shP, sh1, encP]); (try rfl); done)) | (apply Om.i; ((try simp only [MM]); (try omega); done)) | (apply Vw.i; first | exact As.sl _ _ | exact As.nil _ | exact As.arr _ _ _ _ rfl (by ((try simp only [MM]); (try omega); done)) | exact As.row _ _ _ _ _ rfl rfl | exact Src.str _ | exact Src.as (As.sl _ _) | exact Src.as (As.nil _) | exact Src.as (As.arr _ _ _ _ rfl (by ((try simp only [MM]); (try omega); done))) | exact Src.as (As.row _ _ _ _ _ rfl rfl))); (all_goals fail_if_success apply Mk.i)
  refine ca_VA (.g (.p ⟨rfl⟩ <| .p ⟨rfl⟩ <| .p ⟨rfl⟩ <| .p ⟨rfl⟩ <| .p ⟨rfl⟩ <| .p ⟨rfl⟩ <| .p ⟨rfl⟩ <| .p ⟨rfl⟩ <| .n dSeg <| .a (d := dSec) (x := [symSec]) ⟨rfl⟩ ⟨rfl⟩ ⟨rfl⟩ <| .p ⟨rfl⟩ .z) ⟨rfl⟩ .z) ?_
  have hN : SecsN [symSec] := fun s hs => by
    obtain rfl := List.mem_singleton.1 hs
    exact ⟨by decide, by decide, by decide, by decide, by decide, by decide, by decide, by decide, by decide, by decide, Nat.zero_le _, fun x hx => by cases hx⟩
  refine strip_spec (segs := []) (secs := [symSec]) ⟨⟨by simp, by simp⟩⟩ ⟨fun s hs => by cases hs⟩ ⟨hN⟩ ?_
  have hs : stripL [symSec] 0 0 [symSec] = [zeroSec] := rfl
  have hz : ([zeroSec] : List dSec.T)[0]? = some ((0 : Int), (0 : Int), (0 : Int), (0 : Int), (0 : Int), (0 : Int), (0 : Int), (0 : Int), (0 : Int), ((-1 : Int), (0 : Int), (0 : Int), ([] : List Int), PUnit.unit), PUnit.unit) := rfl
  have hzl : (([zeroSec] : List dSec.T).length : Int) = 1 := rfl
  rw [hs]
  refine W1 trivial @DD trivial ?_
  refine goes0_spec ?_
  have hnl : (([] : List Bool).length : Int) = 0 := rfl
  refine W1 trivial (And.intro @DD (And.intro @hzl @hnl)) trivial ?_
  exact hk
theorem stells18_core (he : 0 ≤ en ∧ en ≤ 18446744073709551615) (hG : ∀ s ∈ segs, SegG s) (hM : ∀ s ∈ secs, SecG s) :
    PCalls Try.prog 3 [.agg [.bool w, .bool big, .int .u8 o, .int .u8 ab, .int .u16 ty, .int .u16 ma, .int .u32 fl, .int .u64 en, .sl dSeg segs, .sl dSec secs, .int .i64 st]] [] fun p _ => p = .bool true := by
  refine told_callP bezantlaw18_StripTells.told fun Z hZ => ?_
  unfold bezantlaw18_StripTells.c
  refine W1 trivial @DD @up18_spec ?_
  refine few_spec (fun s hs => (hG s hs).2) (fun s hs => (hM s hs).2) (fun l20 l70 hs1 hs2 => ?_) ?_
  rotate_left
  · refine W1 trivial @DD trivial ?_
    rfl
  have hGN := segsN_of hG hs1
  have hMN := secsN_of hM hs2
  refine W1 trivial @DD trivial ?_
  refine rcheck_spec ⟨he⟩ ⟨hGN⟩ ⟨hMN⟩ ?_
  by_cases h0 : wrongC w en segs secs st = 0
  rotate_left
  · refine W1 trivial (And.intro @DD @h0) trivial ?_
    rfl
  have hL : ∀ s ∈ segs, s.2.2.2.2.2.2.1.2.2.2.1.length ≤ 1000000 := fun s hs => Nat.le_trans (hs1 s hs) (by omega)
  have hS : ∀ s ∈ stripL secs st 0 secs, s.2.2.2.2.2.2.2.2.2.1.2.2.2.1.length ≤ 1000000 := fun s hs => by
    rcases strip_mem hs with rfl | hs
    · exact Nat.zero_le _
    · exact Nat.le_trans (hs2 s hs) (by omega)
  have hsl := strip_len secs st secs 0
  have hgl := goes_len secs st secs 0
  refine W1 trivial (And.intro @DD @h0) trivial ?_
  refine strip_spec ⟨⟨by omega, by omega⟩⟩ ⟨hGN⟩ ⟨hMN⟩ ?_
  refine W1 trivial @DD trivial ?_
  refine rstrip_spec ⟨⟨by omega, by omega⟩⟩ ⟨hMN⟩ ?_
  refine W1 trivial @DD trivial ?_
  refine rsame_spec ⟨⟨by omega, by omega⟩⟩ hL hS ?_
  refine W1 trivial @DD trivial ?_
  refine goes_r ⟨⟨by omega, by omega⟩⟩ ⟨hMN⟩ ?_
  refine W1 trivial @DD trivial ?_
  refine rgoes_spec ⟨⟨by omega, by omega⟩⟩ ⟨hMN⟩ ?_
  refine W1 trivial @DD @rbools_spec ?_
  rfl
theorem stells18_walk (x0 : ((.st (.cons (.st (.cons (.st (.cons .bool (.cons .bool .nil))) (.cons (.int .u8) (.cons (.int .u8) .nil)))) (.cons (.int .u16) (.cons (.int .u16) (.cons (.int .u32) (.cons (.int .u64) (.cons (.sl (.st (.cons (.int .u32) (.cons (.int .u32) (.cons (.int .u64) (.cons (.int .u64) (.cons (.int .u64) (.cons (.int .u64) (.cons (.st (.cons (.int .i64) (.cons (.int .u64) (.cons (.int .u64) (.cons (.sl (.int .u8)) .nil))))) .nil))))))))) (.cons (.sl (.st (.cons (.int .u32) (.cons (.int .u32) (.cons (.int .u64) (.cons (.int .u64) (.cons (.int .u64) (.cons (.int .u32) (.cons (.int .u32) (.cons (.int .u64) (.cons (.int .u64) (.cons (.st (.cons (.int .i64) (.cons (.int .u64) (.cons (.int .u64) (.cons (.sl (.int .u8)) .nil))))) .nil)))))))))))) (.cons (.int .i64) .nil))))))))) : Ab.D).T) (g0 : ((.st (.cons (.st (.cons (.st (.cons .bool (.cons .bool .nil))) (.cons (.int .u8) (.cons (.int .u8) .nil)))) (.cons (.int .u16) (.cons (.int .u16) (.cons (.int .u32) (.cons (.int .u64) (.cons (.sl (.st (.cons (.int .u32) (.cons (.int .u32) (.cons (.int .u64) (.cons (.int .u64) (.cons (.int .u64) (.cons (.int .u64) (.cons (.st (.cons (.int .i64) (.cons (.int .u64) (.cons (.int .u64) (.cons (.sl (.int .u8)) .nil))))) .nil))))))))) (.cons (.sl (.st (.cons (.int .u32) (.cons (.int .u32) (.cons (.int .u64) (.cons (.int .u64) (.cons (.int .u64) (.cons (.int .u32) (.cons (.int .u32) (.cons (.int .u64) (.cons (.int .u64) (.cons (.st (.cons (.int .i64) (.cons (.int .u64) (.cons (.int .u64) (.cons (.sl (.int .u8)) .nil))))) .nil)))))))))))) (.cons (.int .i64) .nil))))))))) : Ab.D).good x0) :
    PCalls Try.prog 3 [pvD (.st (.cons (.st (.cons (.st (.cons .bool (.cons .bool .nil))) (.cons (.int .u8) (.cons (.int .u8) .nil)))) (.cons (.int .u16) (.cons (.int .u16) (.cons (.int .u32) (.cons (.int .u64) (.cons (.sl (.st (.cons (.int .u32) (.cons (.int .u32) (.cons (.int .u64) (.cons (.int .u64) (.cons (.int .u64) (.cons (.int .u64) (.cons (.st (.cons (.int .i64) (.cons (.int .u64) (.cons (.int .u64) (.cons (.sl (.int .u8)) .nil))))) .nil))))))))) (.cons (.sl (.st (.cons (.int .u32) (.cons (.int .u32) (.cons (.int .u64) (.cons (.int .u64) (.cons (.int .u64) (.cons (.int .u32) (.cons (.int .u32) (.cons (.int .u64) (.cons (.int .u64) (.cons (.st (.cons (.int .i64) (.cons (.int .u64) (.cons (.int .u64) (.cons (.sl (.int .u8)) .nil))))) .nil)))))))))))) (.cons (.int .i64) .nil))))))))) x0] [] fun p _ => p = .bool true := by
  obtain ⟨⟨⟨w, big, _⟩, o, ab, _⟩, ty, ma, fl, en, segs, secs, st, _⟩ := x0
  obtain ⟨_, _, _, _, g4, g5, g6, _⟩ := g0
  exact stells18_core (u64_of g4) (segG_of g5.2) (secG_of g6.2)
end
end Go.Proofs.Ytalhipbbomagoaa.PvW
