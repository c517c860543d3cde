/- The walk of SymBack. No statement of the set is proved in this text. -/
import Derived.Test.YteohkpfacjjaeabPvSymL
namespace Go.Proofs.Yteohkpfacjjaeab.PvW
open Go.RowKit Go.Proofs.Yteohkpfacjjaeab.Cd Go.Proofs.Yteohkpfacjjaeab.AbP Go.Proofs.Yteohkpfacjjaeab.Num Go.Proofs.Yteohkpfacjjaeab.Pv
set_option maxRecDepth 100000
set_option maxHeartbeats 4000000
set_option linter.unusedVariables false
set_option linter.unusedSimpArgs false
section
variable {K : PV → List OB → Prop}
theorem symP_snd (w : Bool) (x : dSym.T) : (symP w x).map (·.2) = symW w := by cases w <;> rfl
theorem symP_ge {w : Bool} {x : dSym.T} (h : SymG x) : ∀ q ∈ symP w x, 0 ≤ q.1 := by
  obtain ⟨⟨g0, _⟩, ⟨g1, _⟩, ⟨g2, _⟩, ⟨g3, _⟩, ⟨g4, _⟩, ⟨g5, _⟩⟩ := h
  cases w <;> (intro q hq; simp [symP, symN] at hq; rcases hq with rfl | rfl | rfl | rfl | rfl | rfl <;> assumption)
theorem symD_P {w : Bool} {x : dSym.T} (h : SymG x) : symD w ((symP w x).map (·.1)) = x := by
  obtain ⟨nm, inf, oth, shn, val, siz, ⟨⟩⟩ := x
  obtain ⟨⟨g0, h0⟩, ⟨g1, h1⟩, ⟨g2, h2⟩, ⟨g3, h3⟩, ⟨g4, h4⟩, ⟨g5, h5⟩⟩ := h
  have e0 := w32 g0 h0
  have e1 := w8 g1 h1
  have e2 := w8 g2 h2
  have e3 := w16 g3 h3
  cases w
  · show (IntKind.u32.wrap nm, IntKind.u8.wrap inf, IntKind.u8.wrap oth, IntKind.u16.wrap shn, val, siz, ()) = _
    rw [e0, e1, e2, e3]
  · show (IntKind.u32.wrap nm, IntKind.u8.wrap inf, IntKind.u8.wrap oth, IntKind.u16.wrap shn, val, siz, ()) = _
    rw [e0, e1, e2, e3]
theorem sym_back {w : Bool} (v : List Int) (hl : v.length = (symW w).length) (hU : ∀ x ∈ v, U64 x) (hok : rowOk (v.zip (symW w)) = true) : symP w (symD w v) = v.zip (symW w) ∧ SymG (symD w v) := by
  have p1 : (256 : Int) ^ 1 = 256 := by decide
  have p2 : (256 : Int) ^ 2 = 65536 := by decide
  have p4 : (256 : Int) ^ 4 = 4294967296 := by decide
  cases w
  · match v, hl with
    | [v0, v1, v2, v3, v4, v5], _ =>
    simp only [List.forall_mem_cons] at hU
    obtain ⟨⟨a0, b0⟩, ⟨a1, b1⟩, ⟨a2, b2⟩, ⟨a3, b3⟩, ⟨a4, b4⟩, ⟨a5, b5⟩, -⟩ := hU
    have hok : rowOk [(v0, 4), (v1, 4), (v2, 4), (v3, 1), (v4, 1), (v5, 2)] = true := hok
    simp only [rowOk, List.all_cons, List.all_nil, Bool.and_true, Bool.and_eq_true] at hok
    obtain ⟨f0, f1, f2, f3, f4, f5⟩ := hok
    have f0 := fits_lt 4 f0 rfl
    have f3 := fits_lt 1 f3 rfl
    have f4 := fits_lt 1 f4 rfl
    have f5 := fits_lt 2 f5 rfl
    have e0 := w32 a0 (by omega)
    have e1 := w8 a3 (by omega)
    have e2 := w8 a4 (by omega)
    have e3 := w16 a5 (by omega)
    have e : symD false [v0, v1, v2, v3, v4, v5] = (v0, v3, v4, v5, v1, v2, ()) := by
      show (IntKind.u32.wrap v0, IntKind.u8.wrap v3, IntKind.u8.wrap v4, IntKind.u16.wrap v5, v1, v2, ()) = _
      rw [e0, e1, e2, e3]
    rw [e]
    exact ⟨rfl, show SymN v0 v3 v4 v5 v1 v2 from ⟨⟨a0, by omega⟩, ⟨a3, by omega⟩, ⟨a4, by omega⟩, ⟨a5, by omega⟩, ⟨a1, b1⟩, ⟨a2, b2⟩⟩⟩
  · match v, hl with
    | [v0, v1, v2, v3, v4, v5], _ =>
    simp only [List.forall_mem_cons] at hU
    obtain ⟨⟨a0, b0⟩, ⟨a1, b1⟩, ⟨a2, b2⟩, ⟨a3, b3⟩, ⟨a4, b4⟩, ⟨a5, b5⟩, -⟩ := hU
    have hok : rowOk [(v0, 4), (v1, 1), (v2, 1), (v3, 2), (v4, 8), (v5, 8)] = true := hok
    simp only [rowOk, List.all_cons, List.all_nil, Bool.and_true, Bool.and_eq_true] at hok
    obtain ⟨f0, f1, f2, f3, f4, f5⟩ := hok
    have f0 := fits_lt 4 f0 rfl
    have f1 := fits_lt 1 f1 rfl
    have f2 := fits_lt 1 f2 rfl
    have f3 := fits_lt 2 f3 rfl
    have e0 := w32 a0 (by omega)
    have e1 := w8 a1 (by omega)
    have e2 := w8 a2 (by omega)
    have e3 := w16 a3 (by omega)
    have e : symD true [v0, v1, v2, v3, v4, v5] = (v0, v1, v2, v3, v4, v5, ()) := by
      show (IntKind.u32.wrap v0, IntKind.u8.wrap v1, IntKind.u8.wrap v2, IntKind.u16.wrap v3, v4, v5, ()) = _
      rw [e0, e1, e2, e3]
    rw [e]
    exact ⟨rfl, show SymN v0 v1 v2 v3 v4 v5 from ⟨⟨a0, by omega⟩, ⟨a1, by omega⟩, ⟨a2, by omega⟩, ⟨a3, by omega⟩, ⟨a4, b4⟩, ⟨a5, b5⟩⟩⟩
theorem sym_all (w : Bool) (big : Bool) {b : List Int} (hB : B b) {N : Nat} (hN : (if w = true then 24 else 16 : Int) = N) (hr : b.length % N = 0) : ∃ G, symsG w big b (b.length / N) = G ∧ b.length / N = G.length ∧ recB big (symP w) G = b ∧ recOk (symP w) G = true ∧ ∀ x ∈ G, SymG x := by
  have hs := symW_sum w
  rw [hN] at hs
  have hbk : b.length / N * N = b.length := by have := Nat.div_add_mod b.length N; rw [hr, Nat.add_zero, Nat.mul_comm] at this; exact this
  obtain ⟨h1, h2⟩ := rec_get_put (big := big) (P := symP w) (dec := symD w) hB (symW_wide w) hs (fun v hl hU hok => (sym_back v hl hU hok).1) (b.length / N) (Nat.le_of_eq hbk)
  rw [hbk, List.take_length] at h1
  refine ⟨_, rfl, recG_len.symm, h1, h2, fun x hx => ?_⟩
  unfold symsG recG at hx
  obtain ⟨i, hi, rfl⟩ := List.mem_map.1 hx
  have hi := List.mem_range.1 hi
  have hle : i * N + N ≤ b.length := by
    rw [← Nat.succ_mul, ← hbk]
    exact Nat.mul_le_mul_right N hi
  obtain ⟨g1, g2, g3⟩ := put_gets (big := big) hB (symW w) (i * N) (symW_wide w) (by rw [hs]; omega)
  have e : sumL (symW w) * (i : Int) = ((i * N : Nat) : Int) := by rw [hs]; push_cast; exact Int.mul_comm _ _
  rw [e]
  exact (sym_back _ (by cases w <;> rfl) g3 g1).2
theorem yback_core {w big : Bool} {l : List dSym.T} {b : List Int} (hG : ∀ x ∈ l, SymG x) (hB : B b) :
    PCalls Try.prog 9 [.sl dSym l, .agg [.bool w, .bool big], .sl (.int .u8) b] [] fun p _ => p = .bool true := by
  refine told_callP bezantlaw08_SymBack.told fun Z hZ => ?_
  unfold bezantlaw08_SymBack.c
  by_cases h1 : 100 < (l.length : Int)
  · refine W1 trivial @DD @up8_spec ?_
    rfl
  by_cases h2 : 5000 < (b.length : Int)
  · refine W1 trivial @DD @up8_spec ?_
    rfl
  obtain ⟨N, e1, hN⟩ : ∃ N : Nat, (if w = true then 24 else 16 : Int) = N ∧ 16 ≤ N := by cases w <;> exact ⟨_, rfl, by decide⟩
  have hlb := symsB_le (w := w) (big := big) l (i := l.length) (by omega)
  rw [List.take_length] at hlb
  cases hok : recOk (symP w) l
  · cases w
    · refine W1 trivial @DD @up8_spec ?_
      refine yput_spec ⟨hG⟩ ⟨by omega⟩ (fun ok => absurd ok (by rw [hok]; decide)) (fun _ => ?_)
      refine W1 trivial @DD trivial ?_
      by_cases hr : b.length % N = 0
      · obtain ⟨G, hGe, hgl, q1, q2, q3⟩ := sym_all _ big hB e1 hr
        refine yall_spec (N := N) ⟨hB⟩ ⟨by omega⟩ ⟨e1⟩ (fun _ => ?_) (fun no => absurd hr no)
        have hk : b.length / N ≤ 5000 := Nat.le_trans (Nat.div_le_self _ _) (by omega)
        rw [hgl] at hk
        rw [hGe, hgl]
        refine W1 trivial @DD trivial ?_
        refine yput_spec ⟨q3⟩ ⟨by omega⟩ (fun _ => ?_) (fun no => absurd q2 (by rw [no]; decide))
        rw [q1]
        refine W1 trivial @DD trivial ?_
        rfl
      · refine yall_spec (N := N) ⟨hB⟩ ⟨by omega⟩ ⟨e1⟩ (fun yes => absurd yes hr) (fun _ => ?_)
        refine W1 trivial @DD trivial ?_
        rfl
    · exfalso
      have : recOk (symP true) l = true := List.all_eq_true.2 fun x hx => (symN_ok (hG x hx) true).trans rfl
      rw [hok] at this
      cases this
  · have hcl : (recB big (symP w) l).length = l.length * N := by
      rw [recB_len (symP_len w big)]
      congr 1
      cases w <;> simp at e1 ⊢ <;> omega
    have hc2 : l.length * N ≤ 100 * 24 := Nat.mul_le_mul (by omega) (by cases w <;> simp at e1 <;> omega)
    rw [← hcl] at hc2
    have hC := recB_B (big := big) (P := symP w) l
    have hput := rec_put_get (big := big) (symW_wide w) (fun x _ => symP_snd w x) (fun x hx => symP_ge (hG x hx)) (fun x hx => List.all_eq_true.1 hok x hx) (fun x hx => symD_P (hG x hx)) []
    rw [List.append_nil] at hput
    refine W1 trivial @DD @up8_spec ?_
    refine yput_spec ⟨hG⟩ ⟨by omega⟩ (fun _ => ?_) (fun no => absurd hok (by rw [no]; decide))
    generalize recB big (symP w) l = C at *
    refine W1 trivial @DD trivial ?_
    have hd : C.length / N = l.length := by rw [hcl]; exact Nat.mul_div_cancel _ (by omega)
    refine yall_spec (N := N) ⟨hC⟩ ⟨by omega⟩ ⟨e1⟩ (fun _ => ?_) (fun no => absurd (by rw [hcl]; exact Nat.mul_mod_left _ _) no)
    have hput : symsG w big C l.length = l := hput
    rw [hd, hput]
    refine W1 trivial @DD @same8_spec ?_
    by_cases hr : b.length % N = 0
    · obtain ⟨G, hGe, hgl, q1, q2, q3⟩ := sym_all _ big hB e1 hr
      refine yall_spec (N := N) ⟨hB⟩ ⟨by omega⟩ ⟨e1⟩ (fun _ => ?_) (fun no => absurd hr no)
      have hk : b.length / N ≤ 5000 := Nat.le_trans (Nat.div_le_self _ _) (by omega)
      rw [hgl] at hk
      rw [hGe, hgl]
      refine W1 trivial @DD trivial ?_
      refine yput_spec ⟨q3⟩ ⟨by omega⟩ (fun _ => ?_) (fun no => absurd q2 (by rw [no]; decide))
      rw [q1]
      refine W1 trivial @DD trivial ?_
      rfl
    · refine yall_spec (N := N) ⟨hB⟩ ⟨by omega⟩ ⟨e1⟩ (fun yes => absurd yes hr) (fun _ => ?_)
      refine W1 trivial @DD trivial ?_
      rfl
theorem yback_walk (x0 : ((.sl (.st (.cons (.int .u32) (.cons (.int .u8) (.cons (.int .u8) (.cons (.int .u16) (.cons (.int .u64) (.cons (.int .u64) .nil)))))))) : Ab.D).T) (g0 : ((.sl (.st (.cons (.int .u32) (.cons (.int .u8) (.cons (.int .u8) (.cons (.int .u16) (.cons (.int .u64) (.cons (.int .u64) .nil)))))))) : Ab.D).good x0) (x1 : ((.st (.cons .bool (.cons .bool .nil))) : Ab.D).T) (g1 : ((.st (.cons .bool (.cons .bool .nil))) : Ab.D).good x1)
    (x2 : ((.sl (.int .u8)) : Ab.D).T) (g2 : ((.sl (.int .u8)) : Ab.D).good x2) :
    PCalls Try.prog 9 [pvD (.sl (.st (.cons (.int .u32) (.cons (.int .u8) (.cons (.int .u8) (.cons (.int .u16) (.cons (.int .u64) (.cons (.int .u64) .nil)))))))) x0, pvD (.st (.cons .bool (.cons .bool .nil))) x1, pvD (.sl (.int .u8)) x2] [] fun p _ => p = .bool true := by
  obtain ⟨w, big, _⟩ := x1
  exact yback_core (fun x hx => symG_of (g0.2 x hx)) (B_of g2.2)
end
end Go.Proofs.Yteohkpfacjjaeab.PvW
