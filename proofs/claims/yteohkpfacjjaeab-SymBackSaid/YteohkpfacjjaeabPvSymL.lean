/- The walk of SymTells. No statement of the set is proved in this text. -/
import Derived.Test.YteohkpfacjjaeabPvSymC
namespace Go.Proofs.Yteohkpfacjjaeab.PvW
open Go.RowKit Go.Proofs.Yteohkpfacjjaeab.Cd Go.Proofs.Yteohkpfacjjaeab.AbP Go.Proofs.Yteohkpfacjjaeab.Num Go.Proofs.Yteohkpfacjjaeab.Pv
set_option maxRecDepth 100000
set_option maxHeartbeats 4000000
set_option linter.unusedVariables false
set_option linter.unusedSimpArgs false
section
variable {K : PV → List OB → Prop}
theorem up8_spec (hk : K (.bool true) []) : PCalls Try.prog 34 [] [] K := by
  refine told_callP bezantlaw08_up.told fun Z hZ => ?_
  unfold bezantlaw08_up.c
  refine W1 trivial trivial trivial ?_
  refine yall_spec (N := 16) ⟨fun x hx => by rw [List.eq_of_mem_replicate hx]; decide⟩ ⟨by decide⟩ ⟨rfl⟩ (fun no => absurd no (by decide)) (fun _ => ?_)
  have e0 : ((17 : Nat) : Int) - ((17 % 16 : Nat) : Int) = 16 := by decide
  rw [List.length_replicate, e0]
  refine W1 trivial @DD (And.intro @spotS_spec (@aArr 1 dSym)) ?_
  refine idx8_spec (l := [(0, 0, 0, 65535, 0, 0, ())]) (ext := [7, 0, 0, 0]) (i := 0) ⟨by unfold B; decide⟩ ⟨?_⟩ ⟨by decide⟩ ⟨by decide⟩ ⟨by decide⟩ ?_
  · intro x hx
    rw [List.mem_singleton.1 hx]
    exact ⟨by decide, by decide, by decide, by decide, by decide, by decide⟩
  have e : idx8 false [(0, 0, 0, 65535, 0, 0, ())] [7, 0, 0, 0] 0 = (7, true) := by decide
  rw [e]
  refine W1 trivial @DD trivial ?_
  exact hk
theorem symG_of {x : dSym.T} (h : dSym.good x) : SymG x := by
  obtain ⟨nm, inf, oth, shn, val, siz, _⟩ := x
  obtain ⟨k0, k1, k2, k3, k4, k5, _⟩ := h
  exact ⟨⟨(u32_of k0).1.1, (u32_of k0).2⟩, u8_of k1, u8_of k2, ⟨(u16_of k3).1.1, (u16_of k3).2⟩, u64_of k4, u64_of k5⟩
theorem ytells_core {w big : Bool} {l : List dSym.T} {b ext : List Int} {i : Int} (hG : ∀ x ∈ l, SymG x) (hB : B b) (hX : B ext) (hi : -9223372036854775808 ≤ i ∧ i ≤ 9223372036854775807) :
    PCalls Try.prog 8 [.sl dSym l, .agg [.bool w, .bool big], .sl (.int .u8) b, .sl (.int .u8) ext, .int .i64 i] [] fun p _ => p = .bool true := by
  refine told_callP bezantlaw08_SymTells.told fun Z hZ => ?_
  unfold bezantlaw08_SymTells.c
  by_cases h1 : 100 < (l.length : Int)
  · refine W1 trivial @DD @up8_spec ?_
    rfl
  by_cases h2 : 5000 < (b.length : Int)
  · refine W1 trivial @DD @up8_spec ?_
    rfl
  by_cases h3 : 5000 < (ext.length : Int)
  · refine W1 trivial @DD @up8_spec ?_
    rfl
  obtain ⟨N, hN⟩ : ∃ N : Nat, (if w = true then 24 else 16 : Int) = N ∧ 16 ≤ N := by cases w <;> exact ⟨_, rfl, by decide⟩
  have hlb := symsB_le (w := w) (big := big) l (i := l.length) (by omega)
  rw [List.take_length] at hlb
  cases hok : recOk (symP w) l
  · refine W1 trivial @DD @up8_spec ?_
    refine yput_spec ⟨hG⟩ ⟨by omega⟩ (fun ok => absurd ok (by rw [hok]; decide)) (fun _ => ?_)
    refine W1 trivial @DD trivial ?_
    refine rputs8_spec ⟨hG⟩ ⟨by omega⟩ (fun ok => absurd ok (by rw [hok]; decide)) (fun _ => ?_)
    refine W1 trivial @DD @code_spec ?_
    have e1 := hN.1
    by_cases hr : b.length % N = 0
    · refine W1 trivial @DD trivial ?_
      refine yall_spec (N := N) ⟨hB⟩ ⟨by omega⟩ ⟨e1⟩ (fun _ => ?_) (fun no => absurd hr no)
      refine W1 trivial @DD trivial ?_
      refine rsyms_spec (N := N) ⟨hB⟩ ⟨by omega⟩ ⟨e1⟩ (fun _ => ?_) (fun no => absurd hr no)
      have hk : b.length / N ≤ 5000 := Nat.le_trans (Nat.div_le_self _ _) (by omega)
      have hgl : (symsG w big b (b.length / N)).length = b.length / N := recG_len
      generalize symsG w big b (b.length / N) = G at *
      generalize b.length / N = k at *
      subst hgl
      refine W1 trivial @DD @spotN_spec ?_
      refine idx8_spec ⟨hX⟩ ⟨hG⟩ ⟨by omega⟩ ⟨by omega⟩ ⟨hi⟩ ?_
      refine W1 trivial @DD trivial ?_
      refine ridx8_spec ⟨hX⟩ ⟨hG⟩ ⟨by omega⟩ ⟨by omega⟩ ⟨hi⟩ ?_
      refine W1 trivial @DD @same8_spec ?_
      rfl
    · refine W1 trivial @DD trivial ?_
      refine yall_spec (N := N) ⟨hB⟩ ⟨by omega⟩ ⟨e1⟩ (fun yes => absurd yes hr) (fun _ => ?_)
      refine W1 trivial @DD trivial ?_
      refine rsyms_spec (N := N) ⟨hB⟩ ⟨by omega⟩ ⟨e1⟩ (fun yes => absurd yes hr) (fun _ => ?_)
      have hle : b.length % N ≤ b.length := Nat.mod_le _ _
      generalize b.length % N = r at *
      refine W1 trivial @DD @spotS_spec ?_
      refine idx8_spec ⟨hX⟩ ⟨hG⟩ ⟨by omega⟩ ⟨by omega⟩ ⟨hi⟩ ?_
      refine W1 trivial @DD trivial ?_
      refine ridx8_spec ⟨hX⟩ ⟨hG⟩ ⟨by omega⟩ ⟨by omega⟩ ⟨hi⟩ ?_
      refine W1 trivial @DD trivial ?_
      refine PCalls.wk (.n dSym (.n dSym .z)) ?_
      refine W1 trivial @DD @same8_spec ?_
      rfl
  · refine W1 trivial @DD @up8_spec ?_
    refine yput_spec ⟨hG⟩ ⟨by omega⟩ (fun _ => ?_) (fun no => absurd hok (by rw [no]; decide))
    refine W1 trivial @DD trivial ?_
    refine rputs8_spec ⟨hG⟩ ⟨by omega⟩ (fun _ => ?_) (fun no => absurd hok (by rw [no]; decide))
    refine W1 trivial @DD trivial ?_
    have e1 := hN.1
    by_cases hr : b.length % N = 0
    · refine W1 trivial @DD trivial ?_
      refine yall_spec (N := N) ⟨hB⟩ ⟨by omega⟩ ⟨e1⟩ (fun _ => ?_) (fun no => absurd hr no)
      refine W1 trivial @DD trivial ?_
      refine rsyms_spec (N := N) ⟨hB⟩ ⟨by omega⟩ ⟨e1⟩ (fun _ => ?_) (fun no => absurd hr no)
      have hk : b.length / N ≤ 5000 := Nat.le_trans (Nat.div_le_self _ _) (by omega)
      have hgl : (symsG w big b (b.length / N)).length = b.length / N := recG_len
      generalize symsG w big b (b.length / N) = G at *
      generalize b.length / N = k at *
      subst hgl
      refine W1 trivial @DD @spotN_spec ?_
      refine idx8_spec ⟨hX⟩ ⟨hG⟩ ⟨by omega⟩ ⟨by omega⟩ ⟨hi⟩ ?_
      refine W1 trivial @DD trivial ?_
      refine ridx8_spec ⟨hX⟩ ⟨hG⟩ ⟨by omega⟩ ⟨by omega⟩ ⟨hi⟩ ?_
      refine W1 trivial @DD @same8_spec ?_
      rfl
    · refine W1 trivial @DD trivial ?_
      refine yall_spec (N := N) ⟨hB⟩ ⟨by omega⟩ ⟨e1⟩ (fun yes => absurd yes hr) (fun _ => ?_)
      refine W1 trivial @DD trivial ?_
      refine rsyms_spec (N := N) ⟨hB⟩ ⟨by omega⟩ ⟨e1⟩ (fun yes => absurd yes hr) (fun _ => ?_)
      have hle : b.length % N ≤ b.length := Nat.mod_le _ _
      generalize b.length % N = r at *
      refine W1 trivial @DD @spotS_spec ?_
      refine idx8_spec ⟨hX⟩ ⟨hG⟩ ⟨by omega⟩ ⟨by omega⟩ ⟨hi⟩ ?_
      refine W1 trivial @DD trivial ?_
      refine ridx8_spec ⟨hX⟩ ⟨hG⟩ ⟨by omega⟩ ⟨by omega⟩ ⟨hi⟩ ?_
      refine W1 trivial @DD trivial ?_
      refine PCalls.wk (.n dSym (.n dSym .z)) ?_
      refine W1 trivial @DD @same8_spec ?_
      rfl
theorem ytells_walk (x0 : ((.sl (.st (.cons (.int .u32) (.cons (.int .u8) (.cons (.int .u8) (.cons (.int .u16) (.cons (.int .u64) (.cons (.int .u64) .nil)))))))) : Ab.D).T) (g0 : ((.sl (.st (.cons (.int .u32) (.cons (.int .u8) (.cons (.int .u8) (.cons (.int .u16) (.cons (.int .u64) (.cons (.int .u64) .nil)))))))) : Ab.D).good x0) (x1 : ((.st (.cons .bool (.cons .bool .nil))) : Ab.D).T) (g1 : ((.st (.cons .bool (.cons .bool .nil))) : Ab.D).good x1)
    (x2 : ((.sl (.int .u8)) : Ab.D).T) (g2 : ((.sl (.int .u8)) : Ab.D).good x2) (x3 : ((.sl (.int .u8)) : Ab.D).T) (g3 : ((.sl (.int .u8)) : Ab.D).good x3) (x4 : ((.int .i64) : Ab.D).T) (g4 : ((.int .i64) : Ab.D).good x4) :
    PCalls Try.prog 8 [pvD (.sl (.st (.cons (.int .u32) (.cons (.int .u8) (.cons (.int .u8) (.cons (.int .u16) (.cons (.int .u64) (.cons (.int .u64) .nil)))))))) x0, pvD (.st (.cons .bool (.cons .bool .nil))) x1, pvD (.sl (.int .u8)) x2, pvD (.sl (.int .u8)) x3, pvD (.int .i64) x4] [] fun p _ => p = .bool true := by
  obtain ⟨w, big, _⟩ := x1
  exact ytells_core (fun x hx => symG_of (g0.2 x hx)) (B_of g2.2) (B_of g3.2) (i64_of g4)
end
end Go.Proofs.Yteohkpfacjjaeab.PvW
