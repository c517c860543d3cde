/- The walk of VerTells. No statement of the set is proved in this text. -/
import Derived.Test.YtoieblaagkbncaaPvVerK
namespace Go.Proofs.Ytoieblaagkbncaa.PvW
open Go.RowKit Go.Proofs.Ytoieblaagkbncaa.Cd Go.Proofs.Ytoieblaagkbncaa.AbP Go.Proofs.Ytoieblaagkbncaa.Num Go.Proofs.Ytoieblaagkbncaa.Pv
set_option maxRecDepth 100000
set_option maxHeartbeats 4000000
set_option linter.unusedVariables false
set_option linter.unusedSimpArgs false
structure DefG (fl nd ha : Int) (names : List Int) : Prop where
  fl : 0 ≤ fl ∧ fl ≤ 65535
  nd : 0 ≤ nd ∧ nd ≤ 65535
  ha : 0 ≤ ha ∧ ha ≤ 4294967295
  na : ∀ x ∈ names, 0 ≤ x ∧ x ≤ 4294967295
theorem defG_of {l : List dDef.T} (h : ∀ x ∈ l, dDef.good x) : ∀ x ∈ l, DefG x.1 x.2.1 x.2.2.1 x.2.2.2.1 := fun x hx => by
  have hh := h x hx
  obtain ⟨fl, nd, ha, na, u⟩ := x
  obtain ⟨k0, k1, k2, k3, _⟩ := hh
  exact ⟨⟨(u16_of k0).1.1, (u16_of k0).2⟩, ⟨(u16_of k1).1.1, (u16_of k1).2⟩, ⟨(u32_of k2).1.1, (u32_of k2).2⟩, fun y hy => ⟨(u32_of (k3.2 y hy)).1.1, (u32_of (k3.2 y hy)).2⟩⟩
theorem needG_of {l : List dNeed.T} (h : ∀ x ∈ l, dNeed.good x) : ∀ x ∈ l, (0 ≤ (x.1 : Int) ∧ (x.1 : Int) ≤ 4294967295) ∧ ∀ y ∈ x.2.1, AuxN y.1 y.2.1 y.2.2.1 y.2.2.2.1 := fun x hx => by
  have hh := h x hx
  obtain ⟨fi, ax, u⟩ := x
  obtain ⟨k0, k1, _⟩ := hh
  refine ⟨⟨(u32_of k0).1.1, (u32_of k0).2⟩, fun y hy => ?_⟩
  have hy := k1.2 y hy
  obtain ⟨ha, fl, ot, na, u⟩ := y
  obtain ⟨j0, j1, j2, j3, _⟩ := hy
  exact ⟨⟨(u32_of j0).1.1, (u32_of j0).2⟩, ⟨(u16_of j1).1.1, (u16_of j1).2⟩, ⟨(u16_of j2).1.1, (u16_of j2).2⟩, ⟨(u32_of j3).1.1, (u32_of j3).2⟩⟩
theorem defsN_of {l : List dDef.T} (h : ∀ x ∈ l, DefG x.1 x.2.1 x.2.2.1 x.2.2.2.1) (hs : ∀ x ∈ l, x.2.2.2.1.length ≤ 100) : DefsN l := fun x hx => ⟨(h x hx).fl, (h x hx).nd, (h x hx).ha, (h x hx).na, hs x hx⟩
theorem needsN_of {l : List dNeed.T} (h : ∀ x ∈ l, (0 ≤ (x.1 : Int) ∧ (x.1 : Int) ≤ 4294967295) ∧ ∀ y ∈ x.2.1, AuxN y.1 y.2.1 y.2.2.1 y.2.2.2.1) (hs : ∀ x ∈ l, x.2.1.length ≤ 100) : NeedsN l := fun x hx => ⟨(h x hx).1, (h x hx).2, hs x hx⟩
theorem vtells_core {big : Bool} {b : List Int} {l : List dDef.T} {m : List dNeed.T} (hg : ∀ x ∈ l, DefG x.1 x.2.1 x.2.2.1 x.2.2.2.1) (hgm : ∀ x ∈ m, (0 ≤ (x.1 : Int) ∧ (x.1 : Int) ≤ 4294967295) ∧ ∀ y ∈ x.2.1, AuxN y.1 y.2.1 y.2.2.1 y.2.2.2.1) (hB : B b) :
    PCalls Try.prog 3 [.sl dDef l, .sl dNeed m, .bool big, .sl (.int .u8) b] [] fun p _ => p = .bool true := by
  refine told_callP bezantlaw13_VerTells.told fun Z hZ => ?_
  unfold bezantlaw13_VerTells.c
  refine W1 trivial @DD @up13_spec ?_
  refine vsmall_spec (fun h1 h2 h3 h4 => ?_) ?_
  rotate_left
  · refine W1 trivial @DD trivial ?_
    rfl
  by_cases hb : 5000 < (b.length : Int)
  · refine W1 trivial @DD trivial ?_
    rfl
  have hN := defsN_of hg h3
  have hM := needsN_of hgm h4
  have hbs : ∀ s : List UInt8, (s == s) = true := fun s => beq_self_eq_true s
  cases hd : defsOk l with
  | true =>
    cases hn : needsOk m with
    | true =>
      refine W1 trivial (And.intro @DD @hbs) (And.intro @vputDefs_ok (And.intro @rputDefs_ok (And.intro @vputNeeds_ok @rputNeeds_ok))) ?_
      rcases vcases dDef b (defsG b big) with ⟨e1, e2, e3, e4⟩ | ⟨p1, c1, e1, e2, e3, e4⟩
      · refine W1 trivial @DD (And.intro @vdefsE_spec (And.intro @rdefsE_spec (And.intro @spotN_spec @sdefsE_spec))) ?_
        rcases vcases dNeed b (needsG b big) with ⟨d1, d2, d3, d4⟩ | ⟨p2, c2, d1, d2, d3, d4⟩
        · refine W1 trivial @DD (And.intro @vneedsE_spec (And.intro @rneedsE_spec (And.intro @spotN_spec @sneedsE_spec))) ?_
          rfl
        · refine W1 trivial @DD (And.intro @vneedsE_spec (And.intro @rneedsE_spec (And.intro @spotS_spec @sneedsE_spec))) ?_
          rfl
      · refine W1 trivial @DD (And.intro @vdefsE_spec (And.intro @rdefsE_spec (And.intro @spotS_spec @sdefsE_spec))) ?_
        rcases vcases dNeed b (needsG b big) with ⟨d1, d2, d3, d4⟩ | ⟨p2, c2, d1, d2, d3, d4⟩
        · refine W1 trivial @DD (And.intro @vneedsE_spec (And.intro @rneedsE_spec (And.intro @spotN_spec @sneedsE_spec))) ?_
          rfl
        · refine W1 trivial @DD (And.intro @vneedsE_spec (And.intro @rneedsE_spec (And.intro @spotS_spec @sneedsE_spec))) ?_
          rfl
    | false =>
      refine W1 trivial (And.intro @DD @hbs) (And.intro @vputDefs_ok (And.intro @rputDefs_ok (And.intro @vputNeeds_no (And.intro @rputNeeds_no @code_spec)))) ?_
      rcases vcases dDef b (defsG b big) with ⟨e1, e2, e3, e4⟩ | ⟨p1, c1, e1, e2, e3, e4⟩
      · refine W1 trivial @DD (And.intro @vdefsE_spec (And.intro @rdefsE_spec (And.intro @spotN_spec @sdefsE_spec))) ?_
        rcases vcases dNeed b (needsG b big) with ⟨d1, d2, d3, d4⟩ | ⟨p2, c2, d1, d2, d3, d4⟩
        · refine W1 trivial @DD (And.intro @vneedsE_spec (And.intro @rneedsE_spec (And.intro @spotN_spec @sneedsE_spec))) ?_
          rfl
        · refine W1 trivial @DD (And.intro @vneedsE_spec (And.intro @rneedsE_spec (And.intro @spotS_spec @sneedsE_spec))) ?_
          rfl
      · refine W1 trivial @DD (And.intro @vdefsE_spec (And.intro @rdefsE_spec (And.intro @spotS_spec @sdefsE_spec))) ?_
        rcases vcases dNeed b (needsG b big) with ⟨d1, d2, d3, d4⟩ | ⟨p2, c2, d1, d2, d3, d4⟩
        · refine W1 trivial @DD (And.intro @vneedsE_spec (And.intro @rneedsE_spec (And.intro @spotN_spec @sneedsE_spec))) ?_
          rfl
        · refine W1 trivial @DD (And.intro @vneedsE_spec (And.intro @rneedsE_spec (And.intro @spotS_spec @sneedsE_spec))) ?_
          rfl
  | false =>
    cases hn : needsOk m with
    | true =>
      refine W1 trivial (And.intro @DD @hbs) (And.intro @vputDefs_no (And.intro @rputDefs_no (And.intro @vputNeeds_ok (And.intro @rputNeeds_ok @code_spec)))) ?_
      rcases vcases dDef b (defsG b big) with ⟨e1, e2, e3, e4⟩ | ⟨p1, c1, e1, e2, e3, e4⟩
      · refine W1 trivial @DD (And.intro @vdefsE_spec (And.intro @rdefsE_spec (And.intro @spotN_spec @sdefsE_spec))) ?_
        rcases vcases dNeed b (needsG b big) with ⟨d1, d2, d3, d4⟩ | ⟨p2, c2, d1, d2, d3, d4⟩
        · refine W1 trivial @DD (And.intro @vneedsE_spec (And.intro @rneedsE_spec (And.intro @spotN_spec @sneedsE_spec))) ?_
          rfl
        · refine W1 trivial @DD (And.intro @vneedsE_spec (And.intro @rneedsE_spec (And.intro @spotS_spec @sneedsE_spec))) ?_
          rfl
      · refine W1 trivial @DD (And.intro @vdefsE_spec (And.intro @rdefsE_spec (And.intro @spotS_spec @sdefsE_spec))) ?_
        rcases vcases dNeed b (needsG b big) with ⟨d1, d2, d3, d4⟩ | ⟨p2, c2, d1, d2, d3, d4⟩
        · refine W1 trivial @DD (And.intro @vneedsE_spec (And.intro @rneedsE_spec (And.intro @spotN_spec @sneedsE_spec))) ?_
          rfl
        · refine W1 trivial @DD (And.intro @vneedsE_spec (And.intro @rneedsE_spec (And.intro @spotS_spec @sneedsE_spec))) ?_
          rfl
    | false =>
      refine W1 trivial (And.intro @DD @hbs) (And.intro @vputDefs_no (And.intro @rputDefs_no (And.intro @vputNeeds_no (And.intro @rputNeeds_no @code_spec)))) ?_
      rcases vcases dDef b (defsG b big) with ⟨e1, e2, e3, e4⟩ | ⟨p1, c1, e1, e2, e3, e4⟩
      · refine W1 trivial @DD (And.intro @vdefsE_spec (And.intro @rdefsE_spec (And.intro @spotN_spec @sdefsE_spec))) ?_
        rcases vcases dNeed b (needsG b big) with ⟨d1, d2, d3, d4⟩ | ⟨p2, c2, d1, d2, d3, d4⟩
        · refine W1 trivial @DD (And.intro @vneedsE_spec (And.intro @rneedsE_spec (And.intro @spotN_spec @sneedsE_spec))) ?_
          rfl
        · refine W1 trivial @DD (And.intro @vneedsE_spec (And.intro @rneedsE_spec (And.intro @spotS_spec @sneedsE_spec))) ?_
          rfl
      · refine W1 trivial @DD (And.intro @vdefsE_spec (And.intro @rdefsE_spec (And.intro @spotS_spec @sdefsE_spec))) ?_
        rcases vcases dNeed b (needsG b big) with ⟨d1, d2, d3, d4⟩ | ⟨p2, c2, d1, d2, d3, d4⟩
        · refine W1 trivial @DD (And.intro @vneedsE_spec (And.intro @rneedsE_spec (And.intro @spotN_spec @sneedsE_spec))) ?_
          rfl
        · refine W1 trivial @DD (And.intro @vneedsE_spec (And.intro @rneedsE_spec (And.intro @spotS_spec @sneedsE_spec))) ?_
          rfl
theorem vtells_walk (x0 : ((.sl (.st (.cons (.int .u16) (.cons (.int .u16) (.cons (.int .u32) (.cons (.sl (.int .u32)) .nil)))))) : Ab.D).T) (g0 : ((.sl (.st (.cons (.int .u16) (.cons (.int .u16) (.cons (.int .u32) (.cons (.sl (.int .u32)) .nil)))))) : Ab.D).good x0) (x1 : ((.sl (.st (.cons (.int .u32) (.cons (.sl (.st (.cons (.int .u32) (.cons (.int .u16) (.cons (.int .u16) (.cons (.int .u32) .nil)))))) .nil)))) : Ab.D).T) (g1 : ((.sl (.st (.cons (.int .u32) (.cons (.sl (.st (.cons (.int .u32) (.cons (.int .u16) (.cons (.int .u16) (.cons (.int .u32) .nil)))))) .nil)))) : Ab.D).good x1) (x2 : (.bool : Ab.D).T) (g2 : (.bool : Ab.D).good x2) (x3 : ((.sl (.int .u8)) : Ab.D).T) (g3 : ((.sl (.int .u8)) : Ab.D).good x3) :
    PCalls Try.prog 3 [pvD (.sl (.st (.cons (.int .u16) (.cons (.int .u16) (.cons (.int .u32) (.cons (.sl (.int .u32)) .nil)))))) x0, pvD (.sl (.st (.cons (.int .u32) (.cons (.sl (.st (.cons (.int .u32) (.cons (.int .u16) (.cons (.int .u16) (.cons (.int .u32) .nil)))))) .nil)))) x1, pvD .bool x2, pvD (.sl (.int .u8)) x3] [] fun p _ => p = .bool true := 
  vtells_core (defG_of g0.2) (needG_of g1.2) (B_of g3.2)
end Go.Proofs.Ytoieblaagkbncaa.PvW
