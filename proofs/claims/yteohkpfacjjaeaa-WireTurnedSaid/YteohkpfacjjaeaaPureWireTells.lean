/- The law WireTells, told as a plain Lean function, answers true for every input. -/
import Derived.Test.YteohkpfacjjaeaaNWirex4
import Derived.Test.YteohkpfacjjaeaaWirePure
namespace Go.Proofs.Yteohkpfacjjaeaa.Pure
open Go.RowKit Go.Proofs.Yteohkpfacjjaeaa.MWire Go.Proofs.YteohkpfacjjaeaaW.PrintWords Go.Proofs.YteohkpfacjjaeaaW.PrintLast Go.Proofs.Yteohkpfacjjaeaa.Num Go.Proofs.Yteohkpfacjjaeaa.WirePure
theorem u64_of {x : Int} (h : (Lit.int .u64 x).wf = true) : U64 x := by
  have := h
  simp [Lit.wf, IntKind.min, IntKind.max, IntKind.bits, IntKind.signed] at this
  unfold U64
  omega
theorem i64_of {x : Int} (h : (Lit.int .i64 x).wf = true) : x ≤ 9223372036854775807 := by
  have := h
  simp [Lit.wf, IntKind.min, IntKind.max, IntKind.bits, IntKind.signed] at this
  omega
theorem B_of {l : List Int} (h : ∀ x ∈ l, (Lit.int .u8 x).wf = true) : B l := by
  intro x hx
  have := h x hx
  simp [Lit.wf, IntKind.min, IntKind.max, IntKind.bits, IntKind.signed] at this
  omega
theorem up_ev : Ev (fun n => bezantlaw01_up.f n) true := Ev.of (bezantlaw01_up.mono) (k := 30) (by kernel_rfl)
theorem WireTells' (l : List Int) (a n : Int) (big : Bool) (v size : Int) (hm : l.length ≤ maxLen) (hl : ∀ x ∈ l, (Lit.int .u8 x).wf = true) (ha : (Lit.int .u64 a).wf = true) (hn : (Lit.int .i64 n).wf = true) (hv : (Lit.int .u64 v).wf = true) (hs : (Lit.int .u64 size).wf = true) : ∃ k, bezantlaw01_WireTells.f k l a n big v size = some true := by
  have hB := B_of hl
  have hA := u64_of ha
  have hV := u64_of hv
  have hS := u64_of hs
  refine Ev.rounds ?_
  unfold bezantlaw01_WireTells.f
  refine Ev.bind up_ev ?_
  by_cases c : (l.length : Int) > 10000
  · simp only [if_pos c]
    exact Ev.now _
  · simp only [if_neg c, if_true]
    refine Ev.bind (get_ev hB hm hA n big) ?_
    refine Ev.bind (getR_ev hB hm hA n big) ?_
    simp only [if_true, beq_self_eq_true]
    refine Ev.bind (put_ev v n big) ?_
    refine Ev.bind (putR_ev hV n big) ?_
    simp only [if_true]
    rw [fits_f hV]
    simp only [Option.bind_some]
    refine Ev.bind (fitsR_ev hV n (i64_of hn)) ?_
    simp only [beq_self_eq_true, if_true]
    rw [within_f hA hS, withinR_f hA hS]
    simp only [Option.bind_some, beq_self_eq_true]
    exact Ev.now _
end Go.Proofs.Yteohkpfacjjaeaa.Pure
