/- The row of bezant/bezantlaw13.VerBack: called with any values that can be read as data it returns true and leaves the arguments as they were. -/
import Derived.Test.YtoieblaagkbncaaRows
import Derived.Test.YtoieblaagkbncaaPvVerU
import Derived.Test.YtoieblaagkbncaaAbO
import Derived.WalkKit
import Derived.ProofKit
import Derived.OpenShut
import Derived.ShutString
import Derived.ChangeOld
import Derived.Below
import Derived.SizedLaws
namespace Go.Proofs.Ytoieblaagkbncaa.RowVerBack
open Go.ChangeShapes Go.WideShapes Go.ChangeAt Go.RowKit Go.Proofs.Ytoieblaagkbncaa.Ab
open Go.ChangeMaps (open_string shut_string)
set_option linter.unusedVariables false
theorem own : ownKnob Try.prog.godebug = none := by kernel_rfl
theorem laidOut : laidOutB Try.prog = true := by kernel_rfl
set_option maxHeartbeats 1000000 in
set_option maxRecDepth 100000 in
theorem lifted (os : Os) (started : os.Started) (H : Type) (enc : TypeId × Value → H) :
    ReturnsInHanded {} Try.checked os 4 .any (Rows.verBackSpec.pre6 enc Try.prog Try.f4 Rows.verBackRow.domain false) (Rows.verBackSpec.post enc Try.prog Try.f4 false true false false) := by
  refine returnsInHanded_of_change_sized (C := Try.checked) own started (by kernel_rfl) Try.func4
    (ChangeSpec.witness6 (enc := enc) (C := Try.checked) false ⟨#[], #[.slice none 0 0, .slice none 0 0, .bool false, .slice none 0 0, .int .i64 0], []⟩ 8 (by kernel_rfl) (by kernel_rfl) (by kernel_rfl) (by kernel_rfl)) ?_
  intro W base args ds gs before hval0 hW hcnd hsz0 _
  have hval : ∀ (j : Nat) t v, Try.f4.params[j]? = some t → args[j]? = some v → Value.okWide Try.prog W .any base t v := hval0
  have hW' := hW
  obtain ⟨p, q, hA0, hV, rfl, hfz, hnd⟩ := hW
  have hA : DataW.TrodAll enc Try.prog W 0 (fun _ => true) true Try.f4.params.toList args.toList ds p := hA0
  rw [Try.params4] at hA hval
  obtain ⟨v0, vs0, d0, ds0, p0, q0, hargs, rfl, rfl, h0, r0⟩ := trodAll_cons hA
  obtain ⟨v1, vs1, d1, ds1, p1, q1, rfl, rfl, rfl, h1, r1⟩ := trodAll_cons r0
  obtain ⟨v2, vs2, d2, ds2, p2, q2, rfl, rfl, rfl, h2, r2⟩ := trodAll_cons r1
  obtain ⟨v3, vs3, d3, ds3, p3, q3, rfl, rfl, rfl, h3, r3⟩ := trodAll_cons r2
  obtain ⟨v4, vs4, d4, ds4, p4, q4, rfl, rfl, rfl, h4, r4⟩ := trodAll_cons r3
  obtain ⟨rfl, rfl, rfl⟩ := trodAll_nil r4
  obtain rfl : args = #[v0, v1, v2, v3, v4] := by cases args; simp_all
  obtain ⟨rfl, rfl⟩ := trodVars_none hV
  have k0 := h0
  have lt0 : ∀ x ∈ p0, x.block < W.heap.size := by obtain ⟨m, hm⟩ := k0; exact DataW.trod_lt m _ _ _ hm
  obtain ⟨x0, u0, V0, g0, R0⟩ := arg (.sl (.st (.cons (.int .u16) (.cons (.int .u16) (.cons (.int .u32) (.cons (.sl (.int .u32)) .nil)))))) (by kernel_rfl) (hval 0 22 v0 rfl rfl) h0
  have k1 := h1
  have lt1 : ∀ x ∈ p1, x.block < W.heap.size := by obtain ⟨m, hm⟩ := k1; exact DataW.trod_lt m _ _ _ hm
  obtain ⟨x1, u1, V1, g1, R1⟩ := arg (.sl (.st (.cons (.int .u32) (.cons (.sl (.st (.cons (.int .u32) (.cons (.int .u16) (.cons (.int .u16) (.cons (.int .u32) .nil)))))) .nil)))) (by kernel_rfl) (hval 1 23 v1 rfl rfl) h1
  have k2 := h2
  have lt2 : ∀ x ∈ p2, x.block < W.heap.size := by obtain ⟨m, hm⟩ := k2; exact DataW.trod_lt m _ _ _ hm
  obtain ⟨x2, u2, V2, g2, R2⟩ := arg .bool (by kernel_rfl) (hval 2 4 v2 rfl rfl) h2
  have k3 := h3
  have lt3 : ∀ x ∈ p3, x.block < W.heap.size := by obtain ⟨m, hm⟩ := k3; exact DataW.trod_lt m _ _ _ hm
  obtain ⟨x3, u3, V3, g3, R3⟩ := arg (.sl (.int .u8)) (by kernel_rfl) (hval 3 24 v3 rfl rfl) h3
  have k4 := h4
  have lt4 : ∀ x ∈ p4, x.block < W.heap.size := by obtain ⟨m, hm⟩ := k4; exact DataW.trod_lt m _ _ _ hm
  obtain ⟨x4, u4, V4, g4, R4⟩ := arg (.int .i64) (by kernel_rfl) (hval 4 3 v4 rfl rfl) h4
  clear hA0 hval0 hsz0
  refine (law_of (Go.Proofs.Ytoieblaagkbncaa.Pv.law_call (w := W) (Go.Proofs.Ytoieblaagkbncaa.PvW.vback_walk x0 g0 x1 g1 x2 g2 x3 g3 x4 g4) (.cons (Go.Proofs.Ytoieblaagkbncaa.Pv.V_PR V0) (.cons (Go.Proofs.Ytoieblaagkbncaa.Pv.V_PR V1) (.cons (Go.Proofs.Ytoieblaagkbncaa.Pv.V_PR V2) (.cons (Go.Proofs.Ytoieblaagkbncaa.Pv.V_PR V3) (.cons (Go.Proofs.Ytoieblaagkbncaa.Pv.V_PR V4) (.nil _))))))) (VRs.cons R0 (VRs.cons R1 (VRs.cons R2 (VRs.cons R3 (VRs.cons R4 (VRs.nil _))))))).mono fun e W' ⟨he, bel⟩ => ?_
  subst he
  exact ⟨_, rfl, _, _, _, [], _, [], hW', trodAll_mk1 (shut_bool Try.underlying4 _), (trodAll_cons_mk (Below.trod laidOut (by kernel_rfl) (of_decide_eq_true (by kernel_rfl)) k0 bel lt0) (trodAll_cons_mk (Below.trod laidOut (by kernel_rfl) (of_decide_eq_true (by kernel_rfl)) k1 bel lt1) (trodAll_cons_mk (Below.trod laidOut (by kernel_rfl) (of_decide_eq_true (by kernel_rfl)) k2 bel lt2) (trodAll_cons_mk (Below.trod laidOut (by kernel_rfl) (of_decide_eq_true (by kernel_rfl)) k3 bel lt3) (trodAll_cons_mk (Below.trod laidOut (by kernel_rfl) (of_decide_eq_true (by kernel_rfl)) k4 bel lt4) trodAll_mk0))))), rfl, bel.frame _, fun h => by cases h⟩
theorem over : Rows.verBackRow.holds Try.pinned (OpenSpec.ofChange Rows.verBackSpec) :=
  OpenClaim.holds_of_wide 4 Try.f4 rfl rfl rfl rfl rfl rfl rfl ⟨rfl, rfl, rfl, rfl, rfl⟩ rfl rfl rfl rfl rfl (by kernel_rfl) Try.func4 (by kernel_rfl)
    (of_decide_eq_true (by kernel_rfl)) (by unfold Func.isWrapper; first | (rw [if_pos (by decide +kernel)]; kernel_rfl) | (rw [if_neg (by decide +kernel)]; exact ⟨rfl, rfl⟩))
    (fun os started H enc _ => lifted os started H enc)
theorem proved : Rows.VerBackSaid := over
#print axioms proved
end Go.Proofs.Ytoieblaagkbncaa.RowVerBack
namespace Go.Proofs.Ytoieblaagkbncaa
/-- The row, under a short name, for the claim. -/
theorem verBack_holds : Rows.VerBackSaid := RowVerBack.proved
end Go.Proofs.Ytoieblaagkbncaa
