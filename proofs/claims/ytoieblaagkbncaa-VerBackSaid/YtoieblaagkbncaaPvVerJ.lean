/- What ver.Defs yields. No statement of the set is proved in this text. -/
import Derived.Test.YtoieblaagkbncaaPvVerI
namespace Go.Proofs.Ytoieblaagkbncaa.PvW
open Go.RowKit Go.Proofs.Ytoieblaagkbncaa.Cd Go.Proofs.Ytoieblaagkbncaa.AbP Go.Proofs.Ytoieblaagkbncaa.Num Go.Proofs.Ytoieblaagkbncaa.Pv
set_option maxRecDepth 100000
set_option maxHeartbeats 4000000
set_option linter.unusedVariables false
set_option linter.unusedSimpArgs false
section
variable {K : PV → List OB → Prop} {b : List Int} {big : Bool}
abbrev defsG (b : List Int) (big : Bool) : List dDef.T × Option (Int × Int) := allG b 20 (rdD b big) (updRD b big) (innD b big) (b.length + 1) 0 []
theorem rdD_ok (hB : B b) (a : Int) : 0 ≤ (rdD b big a).m ∧ (rdD b big a).m ≤ 65535 ∧ 0 ≤ (rdD b big a).v ∧ (rdD b big a).v ≤ 65535 ∧ 0 ≤ (rdD b big a).f ∧ (rdD b big a).f ≤ 4294967295 ∧ 0 ≤ (rdD b big a).n ∧ (rdD b big a).n ≤ 4294967295 :=
  ⟨(range2 hB _ _).1, (range2 hB _ _).2, (range2 hB _ _).1, (range2 hB _ _).2, (range4 hB _ _).1, (range4 hB _ _).2, (range4 hB _ _).1, (range4 hB _ _).2⟩
theorem vdefs_spec (hB : Am (B b)) (hm : Om (b.length ≤ 100000)) (hk0 : b.length = 0 → K (.tup [.sl dDef [], .nilI]) [])
    (hk1 : b.length ≠ 0 → (defsG b big).2 = none → K (.tup [.sl dDef (defsG b big).1, .nilI]) [])
    (hk2 : b.length ≠ 0 → ∀ p c, (defsG b big).2 = some (p, c) → K (.tup [.sl dDef [], eSpot p c]) []) :
    PCalls Try.prog 13 [.sl (.int .u8) b, .bool big] [] K := by
  have hB := hB.o
  have hm := hm.o
  refine told_callP ver_Defs.told fun Z hZ => ?_
  unfold ver_Defs.c
  by_cases h0 : b.length = 0
  · have := hk0 h0
    refine Wn1 trivial @DD trivial ?_
    apply x_nil 4 dDef; (repeat any_goals first | exact mp_z | apply mp_s | exact rs_z | apply rs_t | apply rs_n | apply rs_c); (repeat any_goals first | (apply Lk.i; (simp only [↓LL, ↓reduceIte, Nat.reduceEqDiff]; (try rfl); done)) | (apply Rf.i; first | rfl | assumption) | (apply Vl.i; ((try simp (disch := omega) only [VV, ↓reduceIte, peqI, encP]); (try rfl); done)) | (apply Am.i; assumption) | (apply Pu.i; ((try simp only [↓reduceIte, UU, RR, Nat.reduceAdd, Nat.reduceEqDiff, cellsP, putP, fillQ, flatQ, shP, sh1, encP]); (try rfl); done)) | (apply Om.i; ((try simp only [MM]); (try omega); done)) | (apply Vw.i; first | exact As.sl _ _ | exact As.nil _ | exact As.arr _ _ _ _ rfl (by ((try simp only [MM]); (try omega); done)) | exact As.row _ _ _ _ _ rfl rfl | exact Src.str _ | exact Src.as (As.sl _ _) | exact Src.as (As.nil _) | exact Src.as (As.arr _ _ _ _ rfl (by ((try simp only [MM]); (try omega); done))) | exact Src.as (As.row _ _ _ _ _ rfl rfl))); (all_goals fail_if_success apply Mk.i)
    refine W1 trivial trivial trivial ?_
    exact this
  replace hk1 := hk1 h0
  replace hk2 := hk2 h0
  refine W1 trivial @DD (@aVirtV 2 0 dDef) ?_
  refine ca_F ⟨rfl⟩ (vall_spec (S := SD) (T := TD) (rd := rdD b big) (updR := updRD b big) (inn := innD b big) (x0 := []) (N := b.length + 1) (by omega) (by decide) (by omega) (rdD_ok hB) List.length rfl (fun x a m p => Nat.le_of_eq (List.length_append))
    (fun x a K hx ha h1 hk => dread_spec hB (by omega) hx ha h1 hk) (fun x a m p K hx h1 h2 hp hp2 k1 k2 => dinner_spec (t := updRD b big x a) hB (by omega) hx h1 h2 hp hp2 k1 k2) (fun hok a' => ?_) (fun p c hno s' => ?_))
  · have := hk1 hok
    show pops _ _ _ _ _ _ [rv b a' big, .var [.ptr 0 0], .var [.osl 3 (defsG b big).1.length], .arr dDef (defsG b big).1]
    refine Wn1 trivial @DD trivial ?_
    apply x_frz 4; (repeat any_goals first | exact mp_z | apply mp_s | exact rs_z | apply rs_t | apply rs_n | apply rs_c); (repeat any_goals first | (apply Lk.i; (simp only [↓LL, ↓reduceIte, Nat.reduceEqDiff]; (try rfl); done)) | (apply Rf.i; first | rfl | assumption) | (apply Vl.i; ((try simp (disch := omega) only [VV, ↓reduceIte, peqI, encP]); (try rfl); done)) | (apply Am.i; assumption) | (apply Pu.i; ((try simp only [↓reduceIte, UU, RR, Nat.reduceAdd, Nat.reduceEqDiff, cellsP, putP, fillQ, flatQ, shP, sh1, encP]); (try rfl); done)) | (apply Om.i; ((try simp only [MM]); (try omega); done)) | (apply Vw.i; first | exact As.sl _ _ | exact As.nil _ | exact As.arr _ _ _ _ rfl (by ((try simp only [MM]); (try omega); done)) | exact As.row _ _ _ _ _ rfl rfl | exact Src.str _ | exact Src.as (As.sl _ _) | exact Src.as (As.nil _) | exact Src.as (As.arr _ _ _ _ rfl (by ((try simp only [MM]); (try omega); done))) | exact Src.as (As.row _ _ _ _ _ rfl rfl))); (all_goals fail_if_success apply Mk.i)
    refine W1 trivial trivial trivial ?_
    exact this
  · have := hk2 p c hno
    refine Wn1 trivial @DD trivial ?_
    apply x_nil 4 dDef; (repeat any_goals first | exact mp_z | apply mp_s | exact rs_z | apply rs_t | apply rs_n | apply rs_c); (repeat any_goals first | (apply Lk.i; (simp only [↓LL, ↓reduceIte, Nat.reduceEqDiff]; (try rfl); done)) | (apply Rf.i; first | rfl | assumption) | (apply Vl.i; ((try simp (disch := omega) only [VV, ↓reduceIte, peqI, encP]); (try rfl); done)) | (apply Am.i; assumption) | (apply Pu.i; ((try simp only [↓reduceIte, UU, RR, Nat.reduceAdd, Nat.reduceEqDiff, cellsP, putP, fillQ, flatQ, shP, sh1, encP]); (try rfl); done)) | (apply Om.i; ((try simp only [MM]); (try omega); done)) | (apply Vw.i; first | exact As.sl _ _ | exact As.nil _ | exact As.arr _ _ _ _ rfl (by ((try simp only [MM]); (try omega); done)) | exact As.row _ _ _ _ _ rfl rfl | exact Src.str _ | exact Src.as (As.sl _ _) | exact Src.as (As.nil _) | exact Src.as (As.arr _ _ _ _ rfl (by ((try simp only [MM]); (try omega); done))) | exact Src.as (As.row _ _ _ _ _ rfl rfl))); (all_goals fail_if_success apply Mk.i)
    refine W1 trivial trivial trivial ?_
    exact this
end
end Go.Proofs.Ytoieblaagkbncaa.PvW
