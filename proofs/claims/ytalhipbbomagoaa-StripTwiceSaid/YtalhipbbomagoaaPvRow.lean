/- What the document's answers for rows of numbers, and Code, yield. No statement of the set is proved in this text. -/
import Derived.Test.YtalhipbbomagoaaPvRowP
import Derived.Test.YtalhipbbomagoaaTdRow
namespace Go.Proofs.Ytalhipbbomagoaa.PvW
open Go.RowKit Go.Proofs.Ytalhipbbomagoaa.Cd Go.Proofs.Ytalhipbbomagoaa.AbP Go.Proofs.Ytalhipbbomagoaa.Num Go.Proofs.Ytalhipbbomagoaa.Pv
set_option maxRecDepth 100000
set_option maxHeartbeats 4000000
set_option linter.unusedVariables false
set_option linter.unusedSimpArgs false
variable {K : PV → List OB → Prop}
theorem nums_spec {b ns : List Int} {a : Int} {big : Bool} (hB : Am (B b)) (hb : Om (b.length ≤ 1000000000000)) (hm : Om (ns.length ≤ 1000)) (ha : Om (0 ≤ a ∧ a ≤ 18446744073709551615))
    (hk1 : (numsAt b big a [] ns).2 = true → K (.tup [.osl 0 (numsAt b big a [] ns).1.length, .bool true]) [.arr (.int .u64) (numsAt b big a [] ns).1]) (hk2 : (numsAt b big a [] ns).2 = false → K (.tup [.nilS, .bool false]) []) :
    PCalls Try.prog 119 [.sl (.int .u8) b, .int .u64 a, .sl (.int .i64) ns, .bool big] [] K := by
  refine told_callP bezantref04_Numbers.told fun Z hZ => ?_
  unfold bezantref04_Numbers.c
  replace hB := hB.o
  replace hb := hb.o
  replace hm := hm.o
  replace ha := ha.o
  refine W1 trivial trivial trivial ?_
  apply x_virt 10 (.int .u64); (repeat any_goals first | exact mp_z | apply mp_s | exact rs_z | apply rs_t | apply rs_n | apply rs_c); (repeat any_goals first | (apply Lk.i; (simp only [↓LL, ↓reduceIte, Nat.reduceEqDiff]; (try rfl); done)) | (apply Rf.i; first | rfl | assumption) | (apply Vl.i; ((try simp (disch := omega) only [VV, ↓reduceIte, peqI, encP]); (try rfl); done)) | (apply Am.i; assumption) | (apply Pu.i; ((try simp only [↓reduceIte, UU, RR, Nat.reduceAdd, Nat.reduceEqDiff, cellsP, putP, fillQ, flatQ, shP, sh1, encP]); (try rfl); done)) | (apply Om.i; ((try simp only [MM]); (try omega); done)) | (apply Vw.i; first | exact As.sl _ _ | exact As.nil _ | exact As.arr _ _ _ _ rfl (by ((try simp only [MM]); (try omega); done)) | exact As.row _ _ _ _ _ rfl rfl | exact Src.str _ | exact Src.as (As.sl _ _) | exact Src.as (As.nil _) | exact Src.as (As.arr _ _ _ _ rfl (by ((try simp only [MM]); (try omega); done))) | exact Src.as (As.row _ _ _ _ _ rfl rfl))); (all_goals fail_if_success apply Mk.i)
  refine w_lpG (fun q e s => ∃ i : Nat, q + i = ns.length ∧ ∃ a' acc, s = [.arr (.int .u64) acc] ∧ acc.length = i ∧ (0 ≤ a' ∧ a' ≤ 18446744073709551615) ∧ numsAt b big a' acc (ns.drop i) = numsAt b big a [] ns ∧ e 0 = .sl (.int .u8) b ∧ e 1 = .int .u64 a' ∧ e 2 = .sl (.int .i64) ns ∧ e 3 = .bool big ∧ e 10 = .osl 0 i ∧ e 11 = .int .i64 i) ns.length ?_ ?_
  · exact ⟨0, rfl, a, [], rfl, rfl, ha, rfl, by exact lk trivial, by exact lk trivial, by exact lk trivial, by exact lk trivial, by exact lk trivial, by exact lk trivial⟩
  rintro q e s ⟨i, hi, a', acc, rfl, hacc, ha', hR, e0, e1, e2, e3, e10, e11⟩
  by_cases hq : i < ns.length
  · have hd : ns.drop i = ns.getD i 0 :: ns.drop (i + 1) := by
      rw [List.drop_eq_getElem_cons hq, List.getD_eq_getElem?_getD, List.getElem?_eq_getElem hq]
      rfl
    rw [hd] at hR
    simp only [numsAt] at hR
    cases hg : (getSpec b a' (ns.getD i 0) big).2
    · rw [hg, if_neg (by simp)] at hR
      refine W1 (And.intro @e0 (And.intro @e1 (And.intro @e2 (And.intro @e3 (And.intro @e10 (And.intro @e11 @hg)))))) @DD @rget_spec ?_
      exact hk2 (by rw [← hR])
    · rw [hg, if_pos rfl] at hR
      obtain ⟨hw, hle⟩ := getSpec_true hg
      obtain ⟨m, hm', h1, h2⟩ := wide_nat hw
      refine W1 (And.intro @e0 (And.intro @e1 (And.intro @e2 (And.intro @e3 (And.intro @e10 (And.intro @e11 @hg)))))) (And.intro @DD @hm') @rget_spec ?_
      rw [hm'] at hle
      refine ⟨q - 1, by omega, _, _, Gh.sel [0] (by decide) (hz0 hZ), i + 1, by omega, a' + ns.getD i 0, acc ++ [(getSpec b a' (ns.getD i 0) big).1], by rw [hm']; rfl, by simp [hacc], ⟨by omega, by omega⟩, hR, by exact lk @e0, by rw [hm']; exact lk @e1, by exact lk @e2, by exact lk @e3, ?_, by exact lk @e11⟩
      simp only [↓LL, ↓reduceIte, Nat.reduceEqDiff, hacc, UU]
      rfl
  · obtain rfl : i = ns.length := by omega
    rw [List.drop_length] at hR
    simp only [numsAt] at hR
    refine W1 (And.intro @e0 (And.intro @e1 (And.intro @e2 (And.intro @e3 (And.intro @e10 @e11))))) @DD trivial ?_
    have := hk1 (by rw [← hR])
    rw [← hR] at this
    simp only [hacc] at this
    exact this
theorem word4_spec {w b : Bool} (hk : K (.int .i64 (wd w)) []) : PCalls Try.prog 68 [.agg [.bool w, .bool b]] [] K := by
  refine told_callP bezantref04_Word.told fun Z hZ => ?_
  unfold bezantref04_Word.c
  cases w
  all_goals
    refine W1 trivial trivial trivial ?_
    exact hk
theorem sizes_spec {w b : Bool} (hk : K (.tup [.int .i64 (if w = true then 64 else 52), .int .i64 (if w = true then 56 else 32), .int .i64 (if w = true then 64 else 40)]) []) : PCalls Try.prog 30 [.agg [.bool w, .bool b]] [] K := by
  refine told_callP bezantref04_Sizes.told fun Z hZ => ?_
  unfold bezantref04_Sizes.c
  cases w
  all_goals
    refine W1 trivial trivial trivial ?_
    exact hk
abbrev eCode (c : Int) : PV := .ifc 98 (.int .i64 c)
theorem code0_spec (hk : K (.int .i64 0) []) : PCalls Try.prog 22 [.nilI] [] K := by
  refine told_callP bezantlaw00_Code.told fun Z hZ => ?_
  unfold bezantlaw00_Code.c
  refine W1 trivial trivial trivial ?_
  exact hk
theorem cmpC : Ab.cmpInt Try.prog 98 = true := by kernel_rfl
theorem eqC (a b : Int) (c : Bool) : peqI Try.prog false c (eCode a) (eCode b) = some (a == b) := by
  simp [peqI, cmpC, Ab.nb]
theorem code_spec {c : Int} (h : Om (1 ≤ c ∧ c ≤ 12)) (hk : K (.int .i64 c) []) : PCalls Try.prog 22 [eCode c] [] K := by
  refine told_callP bezantlaw00_Code.told fun Z hZ => ?_
  unfold bezantlaw00_Code.c
  obtain ⟨h1, h2⟩ := h.o
  refine W1 trivial trivial trivial ?_
  refine w_lp (fun q e s => s = [] ∧ ∃ i : Int, q = (c - i).toNat ∧ 1 ≤ i ∧ i ≤ c ∧ e 0 = eCode c ∧ e 3 = .int .i64 i) (c - 1).toNat ?_ ?_
  · exact ⟨rfl, 1, rfl, by omega, h1, by exact lk trivial, by exact lk trivial⟩
  rintro q e s ⟨rfl, i, rfl, hi1, hi2, e0, e3⟩
  by_cases hq : i = c
  · subst hq
    refine W1 (And.intro @e0 @e3) (And.intro @DD @eqC) trivial ?_
    exact hk
  · have hb : (c == i) = false := by simp; omega
    refine W1 (And.intro @e0 @e3) (And.intro @DD (And.intro @eqC @hb)) trivial ?_
    exact ⟨_, by omega, rfl, i + 1, rfl, by omega, by omega, by exact lk @e0, by exact lk @e3⟩
end Go.Proofs.Ytalhipbbomagoaa.PvW
