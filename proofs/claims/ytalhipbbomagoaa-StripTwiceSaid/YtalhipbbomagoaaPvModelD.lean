/- bytes.Index at one byte, bytes.Cut, strs.Get. No statement of the set is proved in this text. -/
import Derived.Test.YtalhipbbomagoaaPvModelC
namespace Go.Proofs.Ytalhipbbomagoaa.PvW
open Go.RowKit Go.Proofs.Ytalhipbbomagoaa.Cd Go.Proofs.Ytalhipbbomagoaa.AbP Go.Proofs.Ytalhipbbomagoaa.Num Go.Proofs.Ytalhipbbomagoaa.Pv
set_option maxRecDepth 100000
set_option maxHeartbeats 4000000
set_option linter.unusedVariables false
set_option linter.unusedSimpArgs false
/-- where the first 0 stands; -1: nowhere -/
def ixB (b : List Int) : Int := Lib.indexByte (Lib.bytesOf b) (0 : Int).toNat.toUInt8
theorem index_lt : ∀ (l : List UInt8) (c : UInt8), -1 ≤ Lib.indexByte l c ∧ Lib.indexByte l c < l.length
  | [], c => by simp [Lib.indexByte]
  | b :: l, c => by
    have ih := index_lt l c
    unfold Lib.indexByte
    split
    · simp
    · split
      · simp; omega
      · simp only [List.length_cons]; omega
theorem bytesOf_len (b : List Int) : (Lib.bytesOf b).length = b.length := by simp [Lib.bytesOf]
theorem ixB_lt (b : List Int) : -1 ≤ ixB b ∧ ixB b < b.length := by
  have := index_lt (Lib.bytesOf b) (0 : Int).toNat.toUInt8
  rw [bytesOf_len] at this
  exact this
section
variable {K : PV → List OB → Prop}
theorem bindex_spec {b : List Int} (hb : Om (0 < b.length ∧ b.length ≤ 1000000)) (hk : K (.int .i64 (ixB b)) []) : PCalls Try.prog 137 [.sl (.int .u8) b, .sl (.int .u8) [0]] [] K := by
  have hb := hb.o
  refine told_callP bytes_Index.told fun Z hZ => ?_
  unfold bytes_Index.c
  have h1 : (([(0 : Int)].length : Nat) : Int) = 1 := rfl
  have hx : [(0 : Int)][0]? = some (0 : Int) := rfl
  refine W1 trivial (And.intro @DD @h1) @idx_spec ?_
  exact hk
theorem cut_spec {b : List Int} (hb : Om (0 < b.length ∧ b.length ≤ 1000000)) (hk1 : 0 ≤ ixB b → K (.tup [.sl (.int .u8) (b.take (ixB b).toNat), .sl (.int .u8) (b.drop (ixB b + 1).toNat), .bool true]) []) (hk0 : ixB b = -1 → K (.tup [.sl (.int .u8) b, .nilS, .bool false]) []) :
    PCalls Try.prog 131 [.sl (.int .u8) b, .sl (.int .u8) [0]] [] K := by
  have hb := hb.o
  refine told_callP bytes_Cut.told fun Z hZ => ?_
  unfold bytes_Cut.c
  have h1 : (([(0 : Int)].length : Nat) : Int) = 1 := rfl
  have hix := ixB_lt b
  by_cases h0 : 0 ≤ ixB b
  · have := hk1 h0
    refine W1 trivial (And.intro @DD @h1) @bindex_spec ?_
    exact this
  · have := hk0 (by omega)
    refine W1 trivial (And.intro @DD @h1) @bindex_spec ?_
    exact this
/-- is there a name at a place -/
def okName (b : List Int) (off : Int) : Bool := decide (off < b.length) && decide (0 ≤ ixB (b.drop off.toNat))
theorem sget_str_spec {b : List Int} {off : Int} (hb : Om (b.length ≤ 1000000)) (ho : Om (0 ≤ off ∧ off ≤ 18446744073709551615)) (hk1 : okName b off = true → K (.tup [.str (sOf ((b.drop off.toNat).take (ixB (b.drop off.toNat)).toNat)), .bool true]) []) (hk0 : okName b off = false → K (.tup [.str ⟨#[]⟩, .bool false]) []) :
    PCalls Try.prog 120 [.sl (.int .u8) b, .int .u64 off] [] K := by
  have hb := hb.o
  have ho := ho.o
  refine told_callP strs_Get.told fun Z hZ => ?_
  unfold strs_Get.c
  by_cases h1 : off < b.length
  rotate_left
  · have := hk0 (by simp [okName, h1])
    refine W1 trivial @DD trivial ?_
    exact this
  have hdl : (b.drop off.toNat).length = b.length - off.toNat := List.length_drop
  have hix := ixB_lt (b.drop off.toNat)
  refine W1 trivial @DD trivial ?_
  refine cut_spec ⟨by omega⟩ (fun h => ?_) (fun h => ?_)
  · have := hk1 (by simp [okName, h1, h])
    refine W1 trivial @DD trivial ?_
    exact this
  · have := hk0 (by simp [okName, h1, h])
    refine W1 trivial @DD trivial ?_
    exact this
end
end Go.Proofs.Ytalhipbbomagoaa.PvW
