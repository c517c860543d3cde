/- Errors of two kinds as one kind of value; contracts of bezantlaw00.Code and bezantlaw00.Spot. -/
import Derived.Test.YteohkpfacjjaeaaProg
import Derived.Test.YteohkpfacjjaeaaWWords
import Derived.Test.YteohkpfacjjaeaaWLast
import Derived.Test.YteohkpfacjjaeaaWMore
import Derived.LaidEql
namespace Go
section
variable {P : Program} (w : World)
theorem run_equalIn_iface_int (d : Nat) {ti tn : TypeId} {ms : Array (String × TypeId)} {i : TypeInfo} {k : IntKind} (a b : Int)
    (hi : P.underlying ti = some (.interface ms)) (hn : P.underlying tn = some (.int k)) (hinfo : P.info? tn = some i) (hcomp : i.comparable = true) :
    (Op.equalIn (d + 2) ti (.iface tn (.int k a)) (.iface tn (.int k b))).run P w = .ok (a == b) w := by
  simp [Op.equalIn, run_underlying hi, run_underlying hn, typeInfo, hinfo, hcomp]
/-- 'x == y', both interface values of one integer type: as the numbers are. -/
theorem run_eql_iface_int {ti tn : TypeId} {ms : Array (String × TypeId)} {i : TypeInfo} {k : IntKind} (a b : Int)
    (hi : P.underlying ti = some (.interface ms)) (hn : P.underlying tn = some (.int k)) (hinfo : P.info? tn = some i) (hcomp : i.comparable = true) :
    (binOp .eql ti (.iface tn (.int k a)) (.iface tn (.int k b))).run P w = .ok (.bool (a == b)) w := by
  simp only [binOp]
  simp [Op.equal, Op.maxDepth, run_equalIn_iface_int w 9998 a b hi hn hinfo hcomp]
end
end Go
namespace Go.Proofs.Yteohkpfacjjaeaa.Base
open Go.RowKit Go.Proofs.YteohkpfacjjaeaaW.PrintWords Go.Proofs.YteohkpfacjjaeaaW.PrintLast Go.Proofs.YteohkpfacjjaeaaW.PrintMore
set_option linter.unusedVariables false
set_option linter.unusedSimpArgs false

/-- An error as it is told: one of api's numbers, or such a number with a place. -/
inductive Er where
  | code (c : Int)
  | spot (at_ c : Int)
abbrev TCode : Nat := 100
abbrev TSpot : Nat := 102
abbrev TSpotP : Nat := 99
abbrev TErr : Nat := 41
abbrev fCode : Nat := 39
abbrev fSpot : Nat := 23

/-- What an error's value leads to. -/
def ErV (w : World) (base : Nat) (r : Option Er) (v : Value) : Prop :=
  match r with
  | none => v = .nilIface
  | some (.code c) => v = .iface 100 (.int .i64 c)
  | some (.spot a c) => ∃ g, v = .iface 99 (.pointer (some ⟨g, 0, none⟩)) ∧ base ≤ g ∧ w.heap[g]? = some (.cells #[.int .i64 a, .int .i64 c] 102 (0, 0))
theorem ErV.below {w w1 : World} {base : Nat} {r : Option Er} {v : Value} (h : ErV w base r v) (hb : Below w.heap.size w w1) : ErV w1 base r v := by
  cases r with
  | none => exact h
  | some x =>
    cases x with
    | code c => exact h
    | spot a c =>
      obtain ⟨g, hv, hg, hh⟩ := h
      exact ⟨g, hv, hg, (hb.block g (Array.getElem?_eq_some_iff.1 hh).1).trans hh⟩
theorem ErV.lower {w : World} {base base' : Nat} {r : Option Er} {v : Value} (h : ErV w base r v) (hb : base' ≤ base) : ErV w base' r v := by
  cases r with
  | none => exact h
  | some x =>
    cases x with
    | code c => exact h
    | spot a c =>
      obtain ⟨g, hv, hg, hh⟩ := h
      exact ⟨g, hv, Nat.le_trans hb hg, hh⟩
theorem blk_set_any {w : World} {g : Nat} {cs : Array Value} {t : TypeId} (h : w.heap[g]? = some (.cells cs t (0, 0))) : ∃ cs', w.heap[g]? = some (.cells cs' t (0, 0)) := ⟨cs, h⟩
theorem ErV.far {w : World} {base : Nat} {r : Option Er} {v : Value} (h : ErV w base r v) {g : Nat} {t : TypeId} (hb : ∃ cs, w.heap[g]? = some (.cells cs t (0, 0))) (ht : t ≠ 102) (j : Nat) (u : Value) : ErV (w.setCell ⟨g, j, none⟩ u) base r v := by
  cases r with
  | none => exact h
  | some x =>
    cases x with
    | code c => exact h
    | spot a c =>
      obtain ⟨g', hv, hg, hh⟩ := h
      obtain ⟨cs, hb⟩ := hb
      refine ⟨g', hv, hg, ?_⟩
      refine (Below.heap_setCell w ⟨g, j, none⟩ u g' ?_).trans hh
      intro e
      have e : g' = g := e
      subst e
      rw [hh] at hb
      injection hb with hb
      injection hb with _ hb
      exact ht hb.symm
theorem code_info : ((Try.prog.info? 100).map (·.comparable)) = some true := by kernel_rfl
set_option maxHeartbeats 1000000 in
set_option maxRecDepth 100000 in
theorem Code_nil (w : World) : Calls Try.prog 39 #[.nilIface] w fun e w' => e = .returned (.int .i64 0) ∧ w = w' := by
  have hu := Try.underlying41
  go_enter Try.func39, Try.ntmps39
  go_wp2
  go_ret
  exact ⟨rfl, rfl⟩
set_option maxHeartbeats 1000000 in
set_option maxRecDepth 100000 in
theorem Code_code (c : Int) (h1 : 1 ≤ c) (h2 : c ≤ 12) (w : World) : Calls Try.prog 39 #[.iface 100 (.int .i64 c)] w fun e w' => e = .returned (.int .i64 c) ∧ w = w' := by
  have hu := Try.underlying41
  obtain ⟨i, hi, hcomp⟩ := Option.map_eq_some_iff.1 code_info
  have hq := fun (w : World) (a b : Int) => run_eql_iface_int (P := Try.prog) w a b Try.underlying41 Try.underlying100 hi hcomp
  clear hi hcomp
  go_enter Try.func39, Try.ntmps39
  go_wp2
  go_loop [3] (fun i => ∃ k : Int, 1 ≤ k ∧ k ≤ c ∧ i = .int .i64 k) (fun i => (c + 1 - intOf i).toNat)
  case atStart => exact ⟨1, by omega, by omega, rfl⟩
  case round =>
    obtain ⟨k, hk1, hk2, rfl⟩ := hrel
    have h12 : decide (k ≤ 12) = true := decide_eq_true (by omega)
    by_cases e : c = k
    · subst e
      have hb : (c == c) = true := by simp
      go_wp2
      go_ret
      exact ⟨rfl, rfl⟩
    · have hb : (c == k) = false := by simp [e]
      go_wp2
      go_round
      case rel => exact ⟨k + 1, by omega, by omega, by go_num⟩
      case measure => simp [intOf]; omega

set_option maxHeartbeats 1000000 in
set_option maxRecDepth 100000 in
theorem Spot_nil (w : World) : Calls Try.prog 23 #[.nilIface] w fun e w' => e = .returned (.tuple #[.int .i64 0, .int .i64 0]) ∧ Drawn0 w w' := by
  have hu := Try.underlying41
  go_enter Try.func23, Try.ntmps23
  go_wp2
  go_ret2
  exact ⟨rfl, Drawn0.refl _⟩
set_option maxHeartbeats 1000000 in
set_option maxRecDepth 100000 in
theorem Spot_code (c : Int) (h1 : 1 ≤ c) (h2 : c ≤ 12) (w : World) : Calls Try.prog 23 #[.iface 100 (.int .i64 c)] w fun e w' => e = .returned (.tuple #[.int .i64 c, .int .i64 (-1)]) ∧ Drawn0 w w' := by
  have hu := Try.underlying41
  have hta : ∀ (v : Value) (W : World), (Instr.typeAssert (.iface 100 v) 41 99 true).run Try.prog W = .ok (.tuple #[.pointer none, .bool false]) W := fun v W => by rfl
  go_enter Try.func23, Try.ntmps23
  go_wp2_with (go_at_call 39; refine (Code_code c h1 h2 _).mono ?_; rintro e w' ⟨rfl, rfl⟩)
  go_ret2
  exact ⟨rfl, Drawn0.refl _⟩
set_option maxHeartbeats 1000000 in
set_option maxRecDepth 100000 in
theorem Spot_spot (a c : Int) (v : Value) (base : Nat) (w : World) (hv : ErV w base (some (.spot a c)) v) : Calls Try.prog 23 #[v] w fun e w' => e = .returned (.tuple #[.int .i64 c, .int .i64 a]) ∧ Drawn0 w w' := by
  obtain ⟨g, rfl, hg, hh⟩ := hv
  have hu := Try.underlying41
  have hu2 := Try.underlying102
  have hta : ∀ (v : Value) (W : World), (Instr.typeAssert (.iface 99 v) 41 99 true).run Try.prog W = .ok (.tuple #[v, .bool true]) W := fun v W => by rfl
  have h0 : w.cell? ⟨g, 0, none⟩ = some (.int .i64 a) := (blk_cell hh 0).trans rfl
  have h1 : w.cell? ⟨g, 1, none⟩ = some (.int .i64 c) := (blk_cell hh 1).trans rfl
  clear hh hg
  go_enter Try.func23, Try.ntmps23
  go_wp2
  go_quiet (fail)
  go_wp2
  go_ret2
  exact ⟨rfl, ⟨_, rfl⟩⟩

end Go.Proofs.Yteohkpfacjjaeaa.Base
