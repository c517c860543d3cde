/- The walk of NoteBack. No statement of the set is proved in this text. -/
import Derived.Test.YtmknnlbbfeldbaaPvNoteT
namespace Go.Proofs.Ytmknnlbbfeldbaa.PvW
open Go.RowKit Go.Proofs.Ytmknnlbbfeldbaa.Cd Go.Proofs.Ytmknnlbbfeldbaa.AbP Go.Proofs.Ytmknnlbbfeldbaa.Num Go.Proofs.Ytmknnlbbfeldbaa.Pv
set_option maxRecDepth 100000
set_option maxHeartbeats 4000000
set_option linter.unusedVariables false
set_option linter.unusedSimpArgs false
section
variable {K : PV → List OB → Prop}
theorem notesB_B (big : Bool) : ∀ {l : List dNote.T}, (∀ x ∈ l, NoteN x) → B (notesB big l)
  | [], _ => fun x hx => by cases hx
  | x :: l, h => by
    have h0 := h x (by simp)
    show B (noteB big x ++ notesB big l)
    exact B_append (B_append (rowB_B _ _) (B_append (full_B h0.bn) (full_B h0.bd))) (notesB_B big fun y hy => h y (List.mem_cons_of_mem _ hy))
theorem nback_core {w big : Bool} {b : List Int} {l : List dNote.T} (hg : ∀ x ∈ l, NoteG x) (hB : B b) :
    PCalls Try.prog 4 [.sl dNote l, .agg [.bool w, .bool big], .sl (.int .u8) b] [] fun p _ => p = .bool true := by
  refine told_callP bezantlaw11_NoteBack.told fun Z hZ => ?_
  unfold bezantlaw11_NoteBack.c
  refine W1 trivial @DD @up11_spec ?_
  refine nsmall_spec (fun h40 hsm => ?_) ?_
  rotate_left
  · refine W1 trivial @DD trivial ?_
    rfl
  by_cases hb : 5000 < (b.length : Int)
  · refine W1 trivial @DD trivial ?_
    rfl
  have hN := notesN hg hsm
  have hbs : ∀ s : List UInt8, (s == s) = true := fun s => beq_self_eq_true s
  have hNB : ∀ x ∈ l, (noteB big x).length ≤ 1018 := fun x hx => by
    have h1 := full_le x.1
    have h2 := full_le x.2.1
    have h5 := noteP_len big x
    have h6 := hsm x hx
    unfold noteB
    rw [List.length_append, List.length_append]
    omega
  have hlb : (notesB big l).length ≤ 1018 * l.length := by
    clear hN hsm h40 hg
    induction l with
    | nil => simp [notesB]
    | cons x l ih =>
      have e : notesB big (x :: l) = noteB big x ++ notesB big l := rfl
      have i1 := ih (fun y hy => hNB y (List.mem_cons_of_mem _ hy))
      have i2 := hNB x (by simp)
      rw [e, List.length_append, List.length_cons]
      omega
  have hgot : notesA big (notesB big l) = (l, none) := notes_got hN (Nat.lt_succ_self _)
  refine W1 trivial @DD @nput_spec ?_
  refine nall_spec ⟨notesB_B big hN⟩ ⟨by omega⟩ (fun _ => ?_) (fun r c hno => by rw [hgot] at hno; cases hno)
  rw [hgot]
  refine W1 trivial @DD trivial ?_
  refine nsame_spec ⟨by omega⟩ ?_
  refine W1 trivial @DD trivial ?_
  refine nall_spec ⟨hB⟩ ⟨by omega⟩ (fun hok => ?_) (fun r c hno => ?_)
  · obtain ⟨q1, q2, q3⟩ := notes_back (big := big) hB (by omega) (Nat.lt_succ_self _) hok
    have q1 : notesB big (notesA big b).1 = b := q1
    have q2 : ∀ x ∈ (notesA big b).1, NoteN x := q2
    have q3 : 12 * (notesA big b).1.length ≤ b.length := q3
    generalize (notesA big b).1 = y at *
    refine W1 trivial (And.intro @DD (And.intro @q1 @hbs)) @nput_spec ?_
    rfl
  · refine W1 trivial @DD trivial ?_
    rfl
theorem nback_walk (x0 : ((.sl (.st (.cons (.sl (.int .u8)) (.cons (.sl (.int .u8)) (.cons (.int .u32) .nil))))) : Ab.D).T) (g0 : ((.sl (.st (.cons (.sl (.int .u8)) (.cons (.sl (.int .u8)) (.cons (.int .u32) .nil))))) : Ab.D).good x0) (x1 : ((.st (.cons .bool (.cons .bool .nil))) : Ab.D).T) (g1 : ((.st (.cons .bool (.cons .bool .nil))) : Ab.D).good x1) (x2 : ((.sl (.int .u8)) : Ab.D).T) (g2 : ((.sl (.int .u8)) : Ab.D).good x2) :
    PCalls Try.prog 4 [pvD (.sl (.st (.cons (.sl (.int .u8)) (.cons (.sl (.int .u8)) (.cons (.int .u32) .nil))))) x0, pvD (.st (.cons .bool (.cons .bool .nil))) x1, pvD (.sl (.int .u8)) x2] [] fun p _ => p = .bool true := by
  obtain ⟨w, big, _⟩ := x1
  exact nback_core (noteG_of g0.2) (B_of g2.2)
end
end Go.Proofs.Ytmknnlbbfeldbaa.PvW
