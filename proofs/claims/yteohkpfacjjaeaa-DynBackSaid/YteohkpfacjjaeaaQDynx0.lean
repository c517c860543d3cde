/- Functions told by our printer (out of the kit's) as plain Lean functions, and that the code comes to what they tell: no statement of the set is proved in this text. -/
import Derived.Test.YteohkpfacjjaeaaProg
import Derived.Test.YteohkpfacjjaeaaBase
import Derived.Below
import Derived.Deep.Draws
import Derived.Deep.AppendLies
import Derived.Maps.AppendAt
import Derived.OwnWalk
import Derived.Laws.BytesArg
import Derived.Laws.MakeOwn
import Derived.Laws.OwnMore
import Derived.Deep.OwnRows
import Derived.Tactics
import Derived.Lib.ConvBytes
import Derived.Laws.Slices
import Derived.WalkKit
import Derived.KernelRfl
import Derived.RowKit3
import Derived.Deep.LoopGhost
import Derived.Deep.QuietTactic
import Derived.BigQuiet
import Derived.WideLaws
import Derived.Deep.DeepCutAuto
import Derived.Deep.CutBlock
import Derived.Deep.RegionHeld3
import Derived.Laws.Rows
import Derived.Lib.AppendStr
import Derived.ArgAppend
import Derived.Laws.IdiomCopy
import Derived.OrdersHeld
import Derived.Laws.BitsLemmas
import Derived.RowKit
import Derived.Test.YteohkpfacjjaeaaWWords
import Derived.Test.YteohkpfacjjaeaaWLast
import Derived.Test.YteohkpfacjjaeaaWTab
import Derived.Test.YteohkpfacjjaeaaWFour
import Derived.Test.YteohkpfacjjaeaaWQPut
import Derived.Test.YteohkpfacjjaeaaWApart
import Derived.Test.YteohkpfacjjaeaaWArr
import Derived.Test.YteohkpfacjjaeaaWZeros
import Derived.Test.YteohkpfacjjaeaaWFoot
import Derived.Test.YteohkpfacjjaeaaWKept
import Derived.Test.YteohkpfacjjaeaaWShare
import Derived.Test.YteohkpfacjjaeaaWN
import Derived.Test.YteohkpfacjjaeaaWFootNe
import Derived.Test.YteohkpfacjjaeaaWAt
import Derived.Test.YteohkpfacjjaeaaWEqStruct
import Derived.Test.YteohkpfacjjaeaaWRepsOne
import Derived.Test.YteohkpfacjjaeaaWInv
import Derived.Test.YteohkpfacjjaeaaWInvWords
import Derived.Test.YteohkpfacjjaeaaWGuard
import Derived.Test.YteohkpfacjjaeaaWNEv
import Derived.Test.YteohkpfacjjaeaaWMore
namespace Go.Proofs.Yteohkpfacjjaeaa.QDyn
open Go.RowKit Go.Proofs.YteohkpfacjjaeaaW.PrintWords Go.Proofs.YteohkpfacjjaeaaW.PrintLast Go.Proofs.YteohkpfacjjaeaaW.PrintMore
attribute [local go_sem] max2_int min2_int max_two min_two max_three min_three max_four min_four   -- for this text's walks alone
set_option linter.unusedVariables false
set_option linter.unusedSimpArgs false



/-- An error's value, out of: is it one, is it a Spot, its Code, the row of its Spot. -/
def errW2 : Value → Value → Value → Value → Value
  | .bool true, .bool true, _, .slice a _ _ => .iface 99 (.pointer a)
  | .bool true, .bool true, _, _ => .iface 99 (.pointer none)
  | .bool true, _, c, _ => .iface 100 c
  | _, _, _, _ => .nilIface
theorem errW2_nil (s c v : Value) : errW2 (.bool false) s c v = .nilIface := by cases s <;> rfl
theorem errW2_code (c v : Value) : errW2 (.bool true) (.bool false) c v = .iface 100 c := rfl
theorem errW2_spot (c : Value) (a : Option Addr) (n m : Nat) : errW2 (.bool true) (.bool true) c (.slice a n m) = .iface 99 (.pointer a) := rfl
theorem errW2_eql (e s : Bool) (c : Int) (v : Value) (W : World) : (binOp .eql 41 (errW2 (.bool e) (.bool s) (.int .i64 c) v) .nilIface).run Try.prog W = .ok (.bool (!e)) W := by
  have hu := Try.underlying41
  cases e <;> cases s
  · rw [errW2_nil]; go_simp
  · rw [errW2_nil]; go_simp
  · rw [errW2_code]; go_simp
  · cases v <;> (show (binOp _ _ (.iface 99 _) _).run _ _ = _; go_simp)
theorem errW2_neq (e s : Bool) (c : Int) (v : Value) (W : World) : (binOp .neq 41 (errW2 (.bool e) (.bool s) (.int .i64 c) v) .nilIface).run Try.prog W = .ok (.bool e) W := by
  have hu := Try.underlying41
  cases e <;> cases s
  · rw [errW2_nil]; go_simp
  · rw [errW2_nil]; go_simp
  · rw [errW2_code]; go_simp
  · cases v <;> (show (binOp _ _ (.iface 99 _) _).run _ _ = _; go_simp)
theorem errW2_geql (x : Operand) (e s : Bool) (c : Int) (v : Value) : eqGuard .eql 41 x (.const .nilIface) (errW2 (.bool e) (.bool s) (.int .i64 c) v) .nilIface = pure () := by
  cases e <;> cases s <;> first | (cases x <;> rfl) | (cases v <;> cases x <;> rfl)
theorem errW2_gneq (x : Operand) (e s : Bool) (c : Int) (v : Value) : eqGuard .neq 41 x (.const .nilIface) (errW2 (.bool e) (.bool s) (.int .i64 c) v) .nilIface = pure () := by
  cases e <;> cases s <;> first | (cases x <;> rfl) | (cases v <;> cases x <;> rfl)
def errW : Option Int → Value
  | none => .nilIface
  | some c => .iface 0 (.int .i64 c)
theorem errW_none : errW none = .nilIface := rfl
theorem errW_some (c : Int) : errW (some c) = .iface 0 (.int .i64 c) := rfl

theorem info3 : (Try.prog.info? 3).map (fun i => (i.zero, i.size, i.bytes)) = some (some (.int .i64 0), 1, 8) := by kernel_rfl
theorem info5 : (Try.prog.info? 5).map (fun i => (i.zero, i.size, i.bytes)) = some (some (.int .u8 0), 1, 1) := by kernel_rfl
theorem info23 : (Try.prog.info? 23).map (fun i => (i.zero, i.size, i.bytes)) = some (some (.int .u64 0), 1, 8) := by kernel_rfl
theorem info73 : (Try.prog.info? 73).map (fun i => (i.zero, i.size, i.bytes)) = some (some (.agg #[(.int .u64 0), (.int .u64 0)]), 2, 16) := by kernel_rfl
-- the values' own types
/-! #### struct type 102 -/
structure S102 where
  f0 : Int
  f1 : Int
def z102 : S102 := ⟨(0 : Int), (0 : Int)⟩
def k102 : Kd S102 := Kd.iso (Kd.pair (Kd.int .i64) (Kd.int .i64)) (fun x : S102 => (x.f0, x.f1))
theorem k102_open {w : World} {x : S102} {cs : List Value} (h : k102.K w x cs) : cs = [.int .i64 x.f0, .int .i64 x.f1] := by
  obtain ⟨_, _, rfl, rfl, rfl⟩ := h
  exact rfl
theorem k102_openM {w : World} {base : Nat} {ok : Nat → Prop} {x : S102} {cs : List Value} (h : k102.M w base ok x cs) : cs = [.int .i64 x.f0, .int .i64 x.f1] := by
  obtain ⟨_, _, rfl, rfl, rfl⟩ := h
  exact rfl
theorem k102_mk (w : World) (x : S102)  : k102.K w x [.int .i64 x.f0, .int .i64 x.f1] := ⟨[.int .i64 x.f0], [.int .i64 x.f1], rfl, rfl, rfl⟩
theorem k102_mkM (w : World) (base : Nat) (ok : Nat → Prop) (x : S102)  : k102.M w base ok x [.int .i64 x.f0, .int .i64 x.f1] := ⟨[.int .i64 x.f0], [.int .i64 x.f1], rfl, rfl, rfl⟩
def rd_T102 (xs : List S102) (i : Int) : S102 := xs.getD i.toNat z102
theorem at_T102 {w : World} {A : Option Addr} {n : Nat} {xs : List S102} (h : Kd.C k102 w A n xs) (i : Int) (h0 : 0 ≤ i) (h1 : i < n) : ∃ ad , A = some ad ∧ w.cell? (ad.add (i.toNat * 2)) = some (.int .i64 (rd_T102 xs i).f0) ∧ w.cell? ⟨(ad.add (i.toNat * 2)).block, (ad.add (i.toNat * 2)).off + 1, none⟩ = some (.int .i64 (rd_T102 xs i).f1) := by
  obtain ⟨ad, c, e, _, hK, hc0⟩ := Kd.C_get h z102 i h0 h1
  have hc : ∀ j u, c[j]? = some u → w.cell? (ad.add (i.toNat * 2 + j)) = some u := hc0
  obtain rfl := k102_open hK
  exact ⟨ad, e, hc 0 _ rfl, by rw [← add_field _ _ 1 (by omega)]; exact hc 1 _ rfl⟩

/-! #### struct type 73 -/
structure S73 where
  f0 : Int
  f1 : Int
def z73 : S73 := ⟨(0 : Int), (0 : Int)⟩
def k73 : Kd S73 := Kd.iso (Kd.pair (Kd.int .u64) (Kd.int .u64)) (fun x : S73 => (x.f0, x.f1))
theorem k73_open {w : World} {x : S73} {cs : List Value} (h : k73.K w x cs) : cs = [.int .u64 x.f0, .int .u64 x.f1] := by
  obtain ⟨_, _, rfl, rfl, rfl⟩ := h
  exact rfl
theorem k73_openM {w : World} {base : Nat} {ok : Nat → Prop} {x : S73} {cs : List Value} (h : k73.M w base ok x cs) : cs = [.int .u64 x.f0, .int .u64 x.f1] := by
  obtain ⟨_, _, rfl, rfl, rfl⟩ := h
  exact rfl
theorem k73_mk (w : World) (x : S73)  : k73.K w x [.int .u64 x.f0, .int .u64 x.f1] := ⟨[.int .u64 x.f0], [.int .u64 x.f1], rfl, rfl, rfl⟩
theorem k73_mkM (w : World) (base : Nat) (ok : Nat → Prop) (x : S73)  : k73.M w base ok x [.int .u64 x.f0, .int .u64 x.f1] := ⟨[.int .u64 x.f0], [.int .u64 x.f1], rfl, rfl, rfl⟩
def rd_T73 (xs : List S73) (i : Int) : S73 := xs.getD i.toNat z73
theorem at_T73 {w : World} {A : Option Addr} {n : Nat} {xs : List S73} (h : Kd.C k73 w A n xs) (i : Int) (h0 : 0 ≤ i) (h1 : i < n) : ∃ ad , A = some ad ∧ w.cell? (ad.add (i.toNat * 2)) = some (.int .u64 (rd_T73 xs i).f0) ∧ w.cell? ⟨(ad.add (i.toNat * 2)).block, (ad.add (i.toNat * 2)).off + 1, none⟩ = some (.int .u64 (rd_T73 xs i).f1) := by
  obtain ⟨ad, c, e, _, hK, hc0⟩ := Kd.C_get h z73 i h0 h1
  have hc : ∀ j u, c[j]? = some u → w.cell? (ad.add (i.toNat * 2 + j)) = some u := hc0
  obtain rfl := k73_open hK
  exact ⟨ad, e, hc 0 _ rfl, by rw [← add_field _ _ 1 (by omega)]; exact hc 1 _ rfl⟩

/-- A variable of type Spot, as a row of one Spot. -/
theorem spot_row {w : World} {g base : Nat} {a c : Int} {ok : Nat → Prop} (h : w.heap[g]? = some (.cells #[.int .i64 a, .int .i64 c] 102 (0, 0))) (hb : base ≤ g) (hok : ok g) : Kd.R k102 102 w base ok (.slice (some ⟨g, 0, none⟩) 1 1) [⟨a, c⟩] :=
  ⟨fun k hk => by
      have : g = k := by simpa [Value.ownBlock] using hk
      exact this ▸ hok, _, ⟨rfl, .inr ⟨g, 1, _, rfl, hb, h, Nat.le_refl _, by decide, rfl, rfl⟩⟩, Reps.c2 (k102_mkM _ _ _ ⟨a, c⟩) (Reps.none _ _)⟩

end Go.Proofs.Yteohkpfacjjaeaa.QDyn
