/- The walk of NoteTells. No statement of the set is proved in this text. -/
import Derived.Test.YtmknnlbbfeldbaaPvNoteL
namespace Go.Proofs.Ytmknnlbbfeldbaa.PvW
open Go.RowKit Go.Proofs.Ytmknnlbbfeldbaa.Cd Go.Proofs.Ytmknnlbbfeldbaa.AbP Go.Proofs.Ytmknnlbbfeldbaa.Num Go.Proofs.Ytmknnlbbfeldbaa.Pv
set_option maxRecDepth 100000
set_option maxHeartbeats 4000000
set_option linter.unusedVariables false
set_option linter.unusedSimpArgs false
section
variable {K : PV → List OB → Prop}
structure NoteG (x : dNote.T) : Prop where
  bn : B x.1
  bd : B x.2.1
  t : (0 : Int) ≤ x.2.2.1 ∧ (x.2.2.1 : Int) ≤ 4294967295
theorem notesN {l : List dNote.T} (hg : ∀ x ∈ l, NoteG x) (h : ∀ x ∈ l, x.1.length ≤ 500 ∧ x.2.1.length ≤ 500) : ∀ x ∈ l, NoteN x := fun x hx =>
  ⟨Nat.le_trans (h x hx).1 (by decide), Nat.le_trans (h x hx).2 (by decide), (hg x hx).bn, (hg x hx).bd, (hg x hx).t⟩
theorem notesA_ok {big : Bool} : ∀ (k : Nat) (b : List Int) (r c : Int), (notesG big k b).2 = some (r, c) → (c = 2 ∨ c = 4) ∧ 0 ≤ r ∧ r ≤ b.length
  | 0, b, r, c, h => by cases h
  | k + 1, b, r, c, h => by
    unfold notesG at h
    split at h
    · cases h
    · split at h
      · rename_i h1
        obtain ⟨rfl, rfl⟩ := Prod.mk.inj (Option.some.inj h)
        have := oneBad_cases big b
        exact ⟨by omega, by omega, by omega⟩
      · obtain ⟨h1, h2, h3⟩ := notesA_ok k (oneRest big b) r c h
        have hl : (oneRest big b).length ≤ b.length := by
          unfold oneRest
          rw [List.length_drop, List.length_drop, List.length_drop]
          omega
        exact ⟨h1, h2, by omega⟩
theorem ntells_core {w big : Bool} {b : List Int} {l : List dNote.T} (hg : ∀ x ∈ l, NoteG x) (hB : B b) :
    PCalls Try.prog 3 [.sl dNote l, .agg [.bool w, .bool big], .sl (.int .u8) b] [] fun p _ => p = .bool true := by
  refine told_callP bezantlaw11_NoteTells.told fun Z hZ => ?_
  unfold bezantlaw11_NoteTells.c
  refine W1 trivial @DD @up11_spec ?_
  refine nsmall_spec (fun h40 hsm => ?_) ?_
  rotate_left
  · refine W1 trivial @DD trivial ?_
    rfl
  by_cases hb : 5000 < (b.length : Int)
  · refine W1 trivial @DD trivial ?_
    rfl
  have hN := notesN hg hsm
  have hbs : ∀ s : List UInt8, (s == s) = true := fun s => beq_self_eq_true s
  refine W1 trivial @DD trivial ?_
  refine nall_spec ⟨hB⟩ ⟨by omega⟩ (fun hok => ?_) (fun r c hno => ?_)
  · refine W1 trivial @DD trivial ?_
    refine rnotes_spec ⟨hB⟩ ⟨by omega⟩ (fun _ => ?_) (fun r c hno => by rw [hok] at hno; cases hno)
    refine W1 trivial @DD @spotN_spec ?_
    refine nsame_spec ⟨Nat.le_trans (Nat.le_trans (Nat.le_mul_of_pos_left _ (by decide : 0 < 12)) (notes_back hB (by omega) (Nat.lt_succ_self _) hok).2.2) (by omega)⟩ ?_
    refine W1 trivial (And.intro @DD @hbs) (And.intro @nput_spec @rnput_spec) ?_
    rfl
  · refine W1 trivial @DD trivial ?_
    refine rnotes_spec ⟨hB⟩ ⟨by omega⟩ (fun hok => by rw [hok] at hno; cases hno) (fun r' c' hno' => ?_)
    rw [hno] at hno'
    obtain ⟨rfl, rfl⟩ := Prod.mk.inj (Option.some.inj hno')
    refine W1 trivial @DD @spotS_spec ?_
    refine PCalls.wk (.n dNote (.n dNote .z)) ?_
    refine nsame_spec ⟨by decide⟩ ?_
    refine W1 trivial (And.intro @DD @hbs) (And.intro @nput_spec @rnput_spec) ?_
    rfl
theorem noteG_of {l : List dNote.T} (h : ∀ x ∈ l, dNote.good x) : ∀ x ∈ l, NoteG x := fun x hx => by
  have hh := h x hx
  obtain ⟨nm, ds, ty, u⟩ := x
  obtain ⟨k0, k1, k2, _⟩ := hh
  exact ⟨B_of k0.2, B_of k1.2, ⟨(u32_of k2).1.1, (u32_of k2).2⟩⟩
theorem ntells_walk (x0 : ((.sl (.st (.cons (.sl (.int .u8)) (.cons (.sl (.int .u8)) (.cons (.int .u32) .nil))))) : Ab.D).T) (g0 : ((.sl (.st (.cons (.sl (.int .u8)) (.cons (.sl (.int .u8)) (.cons (.int .u32) .nil))))) : Ab.D).good x0) (x1 : ((.st (.cons .bool (.cons .bool .nil))) : Ab.D).T) (g1 : ((.st (.cons .bool (.cons .bool .nil))) : Ab.D).good x1) (x2 : ((.sl (.int .u8)) : Ab.D).T) (g2 : ((.sl (.int .u8)) : Ab.D).good x2) :
    PCalls Try.prog 3 [pvD (.sl (.st (.cons (.sl (.int .u8)) (.cons (.sl (.int .u8)) (.cons (.int .u32) .nil))))) x0, pvD (.st (.cons .bool (.cons .bool .nil))) x1, pvD (.sl (.int .u8)) x2] [] fun p _ => p = .bool true := by
  obtain ⟨w, big, _⟩ := x1
  exact ntells_core (noteG_of g0.2) (B_of g2.2)
end
end Go.Proofs.Ytmknnlbbfeldbaa.PvW
