/- States of plain values: structs held against each other; what a law is handed. No statement of the set is proved in this text. -/
import Derived.Test.YtalhipbbomagoaaPvJ
import Derived.Test.YtalhipbbomagoaaAbO
namespace Go.Proofs.Ytalhipbbomagoaa.Pv
open Go.RowKit Go.Proofs.Ytalhipbbomagoaa.Ab Go.Proofs.Ytalhipbbomagoaa.AbP Go.Proofs.Ytalhipbbomagoaa.Num
set_option linter.unusedVariables false
set_option linter.unusedSimpArgs false
def EqS (P : Program) (t : TypeId) (l l' : List PV) (r : Bool) : Prop := ∃ us us', toVs l = some us ∧ toVs l' = some us' ∧ ∀ w, (Op.equal t (.agg us.toArray) (.agg us'.toArray)).run P w = .ok r w
theorem beq_same : ∀ (d : D) (x : d.T), d.beq x x = true
  | .int _, x => beq_self_eq_true (α := Int) x
  | .bool, x => beq_self_eq_true (α := Bool) x
  | .str, x => beq_self_eq_true (α := List UInt8) (ByteArray.toList x)
  | .sl _, _ => rfl
  | .st d, x => beq_same d x
  | .nil, _ => rfl
  | .cons d e, x => by show (d.beq x.1 x.1 && e.beq x.2 x.2) = true; rw [beq_same d, beq_same e]; rfl
theorem EqS.of {P : Program} {t : TypeId} (d : D) (hf : d.flat = true) (hc : (D.st d).chk P (.ty t) = true) (hq : (D.st d).qchk P (.ty t) = true) (hd : d.dep + 1 ≤ 10000) (x y : d.T) {l l' : List PV} (h1 : toVs l = some (d.enc x)) (h2 : toVs l' = some (d.enc y)) : EqS P t l l' (d.beq x y) :=
  ⟨_, _, h1, h2, fun w => eq_st d hf hc hq hd x y w⟩
theorem EqS.same {P : Program} {t : TypeId} (d : D) (hf : d.flat = true) (hc : (D.st d).chk P (.ty t) = true) (hq : (D.st d).qchk P (.ty t) = true) (hd : d.dep + 1 ≤ 10000) (x : d.T) {l : List PV} (h1 : toVs l = some (d.enc x)) : EqS P t l l true := by
  have := EqS.of d hf hc hq hd x x h1 h1
  rwa [beq_same] at this
section
variable {P : Program} {Z : Bs} {K : Env → List OB → Prop} {Q : QP} {e : Env} {s s' : List OB} {cs : List CO} {pr : List Operand} {d : Option Nat} {kp : Bool} {x y z : Operand}
theorem q_eqE {ne q r : Bool} {t : TypeId} {l l' : List PV} (hx : Lk (evE e x = .agg l)) (hy : Lk (evE e y = .agg l')) (he : Am (EqS P t l l' r)) (hq : Vl (nb ne r = q)) (hk : pops P Z pr cs K (putE e d (.bool q)) s) : pops P Z pr (⟨d, none, kp, .f (.eqS ne t x y)⟩ :: cs) K e s := by
  obtain ⟨us, us', h1, h2, h3⟩ := he.o
  exact q_eqQ hx hy ⟨h1⟩ ⟨h2⟩ h3 hq hk
end
theorem u64_of {x : Int} (h : (Lit.int .u64 x).wf = true) : U64 x := by
  have := h
  simp [Lit.wf, IntKind.min, IntKind.max, IntKind.bits, IntKind.signed] at this
  unfold U64
  omega
theorem u32_of {x : Int} (h : (Lit.int .u32 x).wf = true) : U64 x ∧ x ≤ 4294967295 := by
  have := h
  simp [Lit.wf, IntKind.min, IntKind.max, IntKind.bits, IntKind.signed] at this
  unfold U64
  omega
theorem u16_of {x : Int} (h : (Lit.int .u16 x).wf = true) : U64 x ∧ x ≤ 65535 := by
  have := h
  simp [Lit.wf, IntKind.min, IntKind.max, IntKind.bits, IntKind.signed] at this
  unfold U64
  omega
theorem u8_of {x : Int} (h : (Lit.int .u8 x).wf = true) : 0 ≤ x ∧ x ≤ 255 := by
  have := h
  simp [Lit.wf, IntKind.min, IntKind.max, IntKind.bits, IntKind.signed] at this
  omega
theorem i64_of {x : Int} (h : (Lit.int .i64 x).wf = true) : -9223372036854775808 ≤ x ∧ x ≤ 9223372036854775807 := by
  have := h
  simp [Lit.wf, IntKind.min, IntKind.max, IntKind.bits, IntKind.signed] at this
  omega
theorem B_of {l : List Int} (h : ∀ x ∈ l, (Lit.int .u8 x).wf = true) : B l := fun x hx => u8_of (h x hx)
end Go.Proofs.Ytalhipbbomagoaa.Pv
