/- The walk of HeadTells. No statement of the set is proved in this text. -/
import Derived.Test.YtmknnlbbfeldbaaPvHeadD
namespace Go.Proofs.Ytmknnlbbfeldbaa.PvW
open Go.RowKit Go.Proofs.Ytmknnlbbfeldbaa.Cd Go.Proofs.Ytmknnlbbfeldbaa.AbP Go.Proofs.Ytmknnlbbfeldbaa.Num Go.Proofs.Ytmknnlbbfeldbaa.Pv
set_option maxRecDepth 100000
set_option maxHeartbeats 4000000
set_option linter.unusedVariables false
set_option linter.unusedSimpArgs false
section
variable {K : PV → List OB → Prop}
abbrev dHeadI : Ab.D := (.cons (.st (.cons (.st (.cons .bool (.cons .bool .nil))) (.cons (.int .u8) (.cons (.int .u8) .nil)))) (.cons (.int .u16) (.cons (.int .u16) (.cons (.int .u64) (.cons (.int .u64) (.cons (.int .u64) (.cons (.int .u32) (.cons (.int .u16) (.cons (.int .u16) (.cons (.int .u16) .nil))))))))))
theorem head_same (w big : Bool) (o a ty ma en po so fl pn sn st : Int) : EqS Try.prog 45 [.bool w, .bool big, .int .u8 o, .int .u8 a, .int .u16 ty, .int .u16 ma, .int .u64 en, .int .u64 po, .int .u64 so, .int .u32 fl, .int .u16 pn, .int .u16 sn, .int .u16 st] [.bool w, .bool big, .int .u8 o, .int .u8 a, .int .u16 ty, .int .u16 ma, .int .u64 en, .int .u64 po, .int .u64 so, .int .u32 fl, .int .u16 pn, .int .u16 sn, .int .u16 st] true :=
  EqS.same dHeadI (by decide) (by kernel_rfl) (by kernel_rfl) (by decide) (((w, big, ()), o, a, ()), ty, ma, en, po, so, fl, pn, sn, st, ()) rfl
theorem up4_spec (hk : K (.bool true) []) : PCalls Try.prog 17 [] [] K := by
  refine told_callP bezantlaw04_up.told fun Z hZ => ?_
  unfold bezantlaw04_up.c
  have h1 : (headB false false 0 0 2 0 0 0 0 0 0 0 0).length = 52 := by decide
  have h2 : (headB false false 0 0 2 0 0 0 0 0 0 0 0).getD 16 0 = 2 := by decide
  generalize hC : headB false false 0 0 2 0 0 0 0 0 0 0 0 = C at h1 h2
  refine W1 trivial @DD trivial ?_
  refine hput_spec ⟨⟨by decide, by decide, by decide, by decide, by unfold U64; decide, by unfold U64; decide, by unfold U64; decide, by decide, by decide, by decide, by decide⟩⟩ (fun _ => ?_) (fun no => absurd no (by decide))
  rw [hC, h1]
  refine W1 trivial @DD trivial ?_
  refine hput_spec ⟨⟨by decide, by decide, by decide, by decide, by unfold U64; decide, by unfold U64; decide, by unfold U64; decide, by decide, by decide, by decide, by decide⟩⟩ (fun no => absurd no (by decide)) (fun _ => ?_)
  refine W1 trivial @DD trivial ?_
  refine hsize_spec ?_
  rw [show hsz true = 64 from rfl]
  refine W1 trivial (And.intro @DD (And.intro @h1 @h2)) @code_spec ?_
  exact hk
theorem htells_core {w big : Bool} {o a ty ma en po so fl pn sn st : Int} {b : List Int} (hG : HeadN o a ty ma en po so fl pn sn st) (hB : B b) :
    PCalls Try.prog 5 [.agg [.bool w, .bool big, .int .u8 o, .int .u8 a, .int .u16 ty, .int .u16 ma, .int .u64 en, .int .u64 po, .int .u64 so, .int .u32 fl, .int .u16 pn, .int .u16 sn, .int .u16 st], .sl (.int .u8) b] [] fun p _ => p = .bool true := by
  refine told_callP bezantlaw04_HeadTells.told fun Z hZ => ?_
  unfold bezantlaw04_HeadTells.c
  have hs1 := head_same w big o a ty ma en po so fl pn sn st
  have hs2 := head_same false false 0 0 0 0 0 0 0 0 0 0 0
  by_cases h1 : 10000 < (b.length : Int)
  · refine W1 trivial @DD @up4_spec ?_
    rfl
  refine W1 trivial @DD (And.intro @up4_spec @sizes_spec) ?_
  refine hput_spec ⟨hG⟩ (fun ok => ?_) (fun no => ?_)
  · refine W1 trivial @DD trivial ?_
    refine rhput_spec ⟨hG⟩ (fun _ => ?_) (fun no => absurd ok (by rw [no]; decide))
    refine W1 trivial @DD trivial ?_
    refine hget_spec ⟨hB⟩ ⟨by omega⟩ (fun a c hb => ?_) (fun hb => ?_)
    · refine W1 trivial @DD trivial ?_
      refine rhget_spec ⟨hB⟩ ⟨by omega⟩ (fun a' c' hb' => ?_) (fun hb' => by rw [hb] at hb'; cases hb')
      rw [hb] at hb'
      obtain ⟨rfl, rfl⟩ := Prod.mk.inj (Option.some.inj hb')
      refine W1 trivial @DD (And.intro @spotS_spec (And.intro @hsize_spec @code_spec)) ?_
      rfl
    · have hs3 := head_same (decide (b.getD 4 0 = 2)) (decide (b.getD 5 0 = 2)) (b.getD 7 0) (b.getD 8 0) ((gets b (decide (b.getD 5 0 = 2)) 16 (headW (decide (b.getD 4 0 = 2)))).getD 0 0) ((gets b (decide (b.getD 5 0 = 2)) 16 (headW (decide (b.getD 4 0 = 2)))).getD 1 0) ((gets b (decide (b.getD 5 0 = 2)) 16 (headW (decide (b.getD 4 0 = 2)))).getD 3 0) ((gets b (decide (b.getD 5 0 = 2)) 16 (headW (decide (b.getD 4 0 = 2)))).getD 4 0) ((gets b (decide (b.getD 5 0 = 2)) 16 (headW (decide (b.getD 4 0 = 2)))).getD 5 0) ((gets b (decide (b.getD 5 0 = 2)) 16 (headW (decide (b.getD 4 0 = 2)))).getD 6 0) ((gets b (decide (b.getD 5 0 = 2)) 16 (headW (decide (b.getD 4 0 = 2)))).getD 9 0) ((gets b (decide (b.getD 5 0 = 2)) 16 (headW (decide (b.getD 4 0 = 2)))).getD 11 0) ((gets b (decide (b.getD 5 0 = 2)) 16 (headW (decide (b.getD 4 0 = 2)))).getD 12 0)
      refine W1 trivial @DD trivial ?_
      refine rhget_spec ⟨hB⟩ ⟨by omega⟩ (fun a' c' hb' => by rw [hb] at hb'; cases hb') (fun _ => ?_)
      refine W1 trivial @DD (And.intro @spotN_spec (And.intro @hsize_spec @code_spec)) ?_
      rfl
  · refine W1 trivial @DD trivial ?_
    refine rhput_spec ⟨hG⟩ (fun ok => absurd ok (by rw [no]; decide)) (fun _ => ?_)
    refine W1 trivial @DD trivial ?_
    refine hget_spec ⟨hB⟩ ⟨by omega⟩ (fun a c hb => ?_) (fun hb => ?_)
    · refine W1 trivial @DD trivial ?_
      refine rhget_spec ⟨hB⟩ ⟨by omega⟩ (fun a' c' hb' => ?_) (fun hb' => by rw [hb] at hb'; cases hb')
      rw [hb] at hb'
      obtain ⟨rfl, rfl⟩ := Prod.mk.inj (Option.some.inj hb')
      refine W1 trivial @DD (And.intro @spotS_spec (And.intro @hsize_spec @code_spec)) ?_
      rfl
    · have hs3 := head_same (decide (b.getD 4 0 = 2)) (decide (b.getD 5 0 = 2)) (b.getD 7 0) (b.getD 8 0) ((gets b (decide (b.getD 5 0 = 2)) 16 (headW (decide (b.getD 4 0 = 2)))).getD 0 0) ((gets b (decide (b.getD 5 0 = 2)) 16 (headW (decide (b.getD 4 0 = 2)))).getD 1 0) ((gets b (decide (b.getD 5 0 = 2)) 16 (headW (decide (b.getD 4 0 = 2)))).getD 3 0) ((gets b (decide (b.getD 5 0 = 2)) 16 (headW (decide (b.getD 4 0 = 2)))).getD 4 0) ((gets b (decide (b.getD 5 0 = 2)) 16 (headW (decide (b.getD 4 0 = 2)))).getD 5 0) ((gets b (decide (b.getD 5 0 = 2)) 16 (headW (decide (b.getD 4 0 = 2)))).getD 6 0) ((gets b (decide (b.getD 5 0 = 2)) 16 (headW (decide (b.getD 4 0 = 2)))).getD 9 0) ((gets b (decide (b.getD 5 0 = 2)) 16 (headW (decide (b.getD 4 0 = 2)))).getD 11 0) ((gets b (decide (b.getD 5 0 = 2)) 16 (headW (decide (b.getD 4 0 = 2)))).getD 12 0)
      refine W1 trivial @DD trivial ?_
      refine rhget_spec ⟨hB⟩ ⟨by omega⟩ (fun a' c' hb' => by rw [hb] at hb'; cases hb') (fun _ => ?_)
      refine W1 trivial @DD (And.intro @spotN_spec (And.intro @hsize_spec @code_spec)) ?_
      rfl
theorem headN_of {w big : Bool} {u1 u2 u3 : Unit} {o a ty ma en po so fl pn sn st : Int} (h : dHeadI.good (((w, big, u1), o, a, u2), ty, ma, en, po, so, fl, pn, sn, st, u3)) : HeadN o a ty ma en po so fl pn sn st := by
  obtain ⟨⟨_, k0, k1, _⟩, k2, k3, k4, k5, k6, k7, k8, k9, k10, _⟩ := h
  exact ⟨u8_of k0, u8_of k1, ⟨(u16_of k2).1.1, (u16_of k2).2⟩, ⟨(u16_of k3).1.1, (u16_of k3).2⟩, u64_of k4, u64_of k5, u64_of k6, ⟨(u32_of k7).1.1, (u32_of k7).2⟩, ⟨(u16_of k8).1.1, (u16_of k8).2⟩, ⟨(u16_of k9).1.1, (u16_of k9).2⟩, ⟨(u16_of k10).1.1, (u16_of k10).2⟩⟩
theorem htells_walk (x0 : ((.st (.cons (.st (.cons (.st (.cons .bool (.cons .bool .nil))) (.cons (.int .u8) (.cons (.int .u8) .nil)))) (.cons (.int .u16) (.cons (.int .u16) (.cons (.int .u64) (.cons (.int .u64) (.cons (.int .u64) (.cons (.int .u32) (.cons (.int .u16) (.cons (.int .u16) (.cons (.int .u16) .nil))))))))))) : Ab.D).T) (g0 : ((.st (.cons (.st (.cons (.st (.cons .bool (.cons .bool .nil))) (.cons (.int .u8) (.cons (.int .u8) .nil)))) (.cons (.int .u16) (.cons (.int .u16) (.cons (.int .u64) (.cons (.int .u64) (.cons (.int .u64) (.cons (.int .u32) (.cons (.int .u16) (.cons (.int .u16) (.cons (.int .u16) .nil))))))))))) : Ab.D).good x0) (x1 : ((.sl (.int .u8)) : Ab.D).T) (g1 : ((.sl (.int .u8)) : Ab.D).good x1) :
    PCalls Try.prog 5 [pvD (.st (.cons (.st (.cons (.st (.cons .bool (.cons .bool .nil))) (.cons (.int .u8) (.cons (.int .u8) .nil)))) (.cons (.int .u16) (.cons (.int .u16) (.cons (.int .u64) (.cons (.int .u64) (.cons (.int .u64) (.cons (.int .u32) (.cons (.int .u16) (.cons (.int .u16) (.cons (.int .u16) .nil))))))))))) x0, pvD (.sl (.int .u8)) x1] [] fun p _ => p = .bool true := by
  obtain ⟨⟨⟨w, big, _⟩, o, a, _⟩, ty, ma, en, po, so, fl, pn, sn, st, _⟩ := x0
  exact htells_core (headN_of g0) (B_of g1.2)
end
end Go.Proofs.Ytmknnlbbfeldbaa.PvW
