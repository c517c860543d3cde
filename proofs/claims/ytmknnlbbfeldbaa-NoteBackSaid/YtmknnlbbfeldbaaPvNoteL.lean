/- What the laws of notes ask of what is handed in. No statement of the set is proved in this text. -/
import Derived.Test.YtmknnlbbfeldbaaPvNoteE
import Derived.Test.YtmknnlbbfeldbaaPvNoteF
import Derived.Test.YtmknnlbbfeldbaaPvN
namespace Go.Proofs.Ytmknnlbbfeldbaa.PvW
open Go.RowKit Go.Proofs.Ytmknnlbbfeldbaa.Cd Go.Proofs.Ytmknnlbbfeldbaa.AbP Go.Proofs.Ytmknnlbbfeldbaa.Num Go.Proofs.Ytmknnlbbfeldbaa.Pv
set_option maxRecDepth 100000
set_option maxHeartbeats 4000000
set_option linter.unusedVariables false
set_option linter.unusedSimpArgs false
section
variable {K : PV → List OB → Prop}
theorem up11_spec (hk : K (.bool true) []) : PCalls Try.prog 9 [] [] K := by
  refine told_callP bezantlaw11_up.told fun Z hZ => ?_
  unfold bezantlaw11_up.c
  have hN : ∀ x ∈ [(([97], [], 0, ()) : dNote.T)], NoteN x := by
    intro x hx
    obtain rfl := List.mem_singleton.1 hx
    exact ⟨by decide, by decide, fun y hy => (by obtain rfl := List.mem_singleton.1 hy; decide), fun y hy => (by cases hy), ⟨by decide, by decide⟩⟩
  have hl : (notesB false [(([97], [], 0, ()) : dNote.T)]).length = 16 := by decide
  have hB : B (notesB false [(([97], [], 0, ()) : dNote.T)]) := by unfold B; decide
  have hg := notes_got (big := false) (k := 16 + 1) hN (by rw [hl]; decide)
  have hA : notesA false (notesB false [(([97], [], 0, ()) : dNote.T)]) = ([([97], [], 0, ())], none) := by
    show notesG false (_ + 1) _ = _
    rw [hl]
    exact hg
  refine W1 trivial @DD trivial ?_
  apply aArr 0 (.int .u8); (repeat any_goals first | exact mp_z | apply mp_s | exact rs_z | apply rs_t | apply rs_n | apply rs_c); (repeat any_goals first | (apply Lk.i; (simp only [↓LL, ↓reduceIte, Nat.reduceEqDiff]; (try rfl); done)) | (apply Rf.i; first | rfl | assumption) | (apply Vl.i; ((try simp (disch := omega) only [VV, ↓reduceIte, peqI, encP]); (try rfl); done)) | (apply Am.i; assumption) | (apply Pu.i; ((try simp only [↓reduceIte, UU, RR, Nat.reduceAdd, Nat.reduceEqDiff, cellsP, putP, fillQ, flatQ, shP, sh1, encP]); (try rfl); done)) | (apply Om.i; ((try simp only [MM]); (try omega); done)) | (apply Vw.i; first | exact As.sl _ _ | exact As.nil _ | exact As.arr _ _ _ _ rfl (by ((try simp only [MM]); (try omega); done)) | exact As.row _ _ _ _ _ rfl rfl | exact Src.str _ | exact Src.as (As.sl _ _) | exact Src.as (As.nil _) | exact Src.as (As.arr _ _ _ _ rfl (by ((try simp only [MM]); (try omega); done))) | exact Src.as (As.row _ _ _ _ _ rfl rfl))); (all_goals fail_if_success apply Mk.i)
  refine caGh (Gh.frzW (b := 1) (j := 0) rfl rfl rfl rfl) ?_
  apply aArr 1 dNote; (repeat any_goals first | exact mp_z | apply mp_s | exact rs_z | apply rs_t | apply rs_n | apply rs_c); (repeat any_goals first | (apply Lk.i; (simp only [↓LL, ↓reduceIte, Nat.reduceEqDiff]; (try rfl); done)) | (apply Rf.i; first | rfl | assumption) | (apply Vl.i; ((try simp (disch := omega) only [VV, ↓reduceIte, peqI, encP]); (try rfl); done)) | (apply Am.i; assumption) | (apply Pu.i; ((try simp only [↓reduceIte, UU, RR, Nat.reduceAdd, Nat.reduceEqDiff, cellsP, putP, fillQ, flatQ, shP, sh1, encP]); (try rfl); done)) | (apply Om.i; ((try simp only [MM]); (try omega); done)) | (apply Vw.i; first | exact As.sl _ _ | exact As.nil _ | exact As.arr _ _ _ _ rfl (by ((try simp only [MM]); (try omega); done)) | exact As.row _ _ _ _ _ rfl rfl | exact Src.str _ | exact Src.as (As.sl _ _) | exact Src.as (As.nil _) | exact Src.as (As.arr _ _ _ _ rfl (by ((try simp only [MM]); (try omega); done))) | exact Src.as (As.row _ _ _ _ _ rfl rfl))); (all_goals fail_if_success apply Mk.i)
  refine ca_V (Cv.a ⟨rfl⟩ ⟨rfl⟩ ⟨rfl⟩ (Cv.p ⟨rfl⟩ Cv.z)) ?_
  refine nput_spec ⟨by decide⟩ ⟨hN⟩ ?_
  refine Wp1 trivial @DD (And.intro (@xFrz 1) @trivial) ?_
  refine nall_spec ⟨hB⟩ ⟨by rw [hl]; decide⟩ (fun _ => ?_) (fun r c h => by rw [hA] at h; cases h)
  rw [hA]
  have hbs : ((sOf [97]).toList == (⟨#[97]⟩ : ByteArray).toList) = true := by rw [show sOf [97] = (⟨#[97]⟩ : ByteArray) from rfl]; exact beq_self_eq_true _
  have hli : ((notesB false [(([97], [], 0, ()) : dNote.T)]).length : Int) = 16 := by rw [hl]; rfl
  have hone : (([(([97], [], 0, ()) : dNote.T)].length : Nat) : Int) = 1 := rfl
  have hx : [(([97], [], 0, ()) : dNote.T)][0]? = some (([97], [], 0, ()) : dNote.T) := rfl
  refine W1 trivial (And.intro @DD (And.intro @hbs (And.intro @hli @hone))) trivial ?_
  exact hk
theorem nsmall_spec {l : List dNote.T} (hk1 : l.length ≤ 40 → (∀ x ∈ l, x.1.length ≤ 500 ∧ x.2.1.length ≤ 500) → K (.int .i64 1) []) (hk0 : K (.int .i64 0) []) : PCalls Try.prog 10 [.sl dNote l] [] K := by
  refine told_callP bezantlaw11_small.told fun Z hZ => ?_
  unfold bezantlaw11_small.c
  by_cases h40 : 40 < (l.length : Int)
  · refine W1 trivial @DD trivial ?_
    exact hk0
  refine W1 trivial @DD trivial ?_
  refine w_lp (fun q e s => s = [] ∧ ∃ i : Nat, q + i = l.length ∧ (∀ x ∈ l.take i, x.1.length ≤ 500 ∧ x.2.1.length ≤ 500) ∧ e 0 = .sl dNote l ∧ e 3 = .int .i64 i) l.length ?_ ?_
  · exact ⟨rfl, 0, rfl, fun x hx => (by cases hx), by exact lk trivial, by exact lk trivial⟩
  rintro q e s ⟨rfl, i, hi, hall, e0, e3⟩
  by_cases hq : i < l.length
  · obtain ⟨x, hx⟩ : ∃ x, l[i]? = some x := ⟨l[i], List.getElem?_eq_getElem hq⟩
    have hst : x.1.length ≤ 500 ∧ x.2.1.length ≤ 500 → ∀ y ∈ l.take (i + 1), y.1.length ≤ 500 ∧ y.2.1.length ≤ 500 := fun h y hy => by
      rw [take_snocD hx] at hy
      rcases List.mem_append.1 hy with hy | hy
      · exact hall y hy
      · obtain rfl := List.mem_singleton.1 hy; exact h
    obtain ⟨nm, ds, ty, u⟩ := x
    have hst : (nm.length ≤ 500 ∧ ds.length ≤ 500) → ∀ y ∈ l.take (i + 1), y.1.length ≤ 500 ∧ y.2.1.length ≤ 500 := hst
    by_cases h1 : 500 < (nm.length : Int)
    · refine W1 (And.intro @e0 @e3) @DD trivial ?_
      exact hk0
    by_cases h2 : 500 < (ds.length : Int)
    · refine W1 (And.intro @e0 @e3) @DD trivial ?_
      exact hk0
    refine W1 (And.intro @e0 @e3) @DD trivial ?_
    exact ⟨q - 1, by omega, rfl, i + 1, by omega, hst ⟨by omega, by omega⟩, by exact lk @e0, by exact lk @e3⟩
  · obtain rfl : i = l.length := by omega
    rw [List.take_length] at hall
    have := hk1 (by omega) hall
    refine W1 (And.intro @e0 @e3) @DD trivial ?_
    exact this
theorem nsame_spec {l : List dNote.T} (hm : Om (l.length ≤ 1000000000)) (hk : K (.bool true) []) : PCalls Try.prog 14 [.sl dNote l, .sl dNote l] [] K := by
  have hm := hm.o
  refine told_callP bezantref04_SameNotes.told fun Z hZ => ?_
  unfold bezantref04_SameNotes.c
  have hbs : ∀ s : List UInt8, (s == s) = true := fun s => beq_self_eq_true s
  refine W1 trivial @DD trivial ?_
  refine w_lp (fun q e s => s = [] ∧ ∃ i : Nat, q + i = l.length ∧ e 0 = .sl dNote l ∧ e 1 = .sl dNote l ∧ e 5 = .int .i64 i) l.length ?_ ?_
  · exact ⟨rfl, 0, rfl, by exact lk trivial, by exact lk trivial, by exact lk trivial⟩
  rintro q e s ⟨rfl, i, hi, e0, e1, e5⟩
  by_cases hq : i < l.length
  · obtain ⟨x, hx⟩ : ∃ x, l[i]? = some x := ⟨l[i], List.getElem?_eq_getElem hq⟩
    obtain ⟨nm, ds, ty, u⟩ := x
    refine W1 (And.intro @e0 (And.intro @e1 @e5)) (And.intro @DD @hbs) trivial ?_
    exact ⟨q - 1, by omega, rfl, i + 1, by omega, by exact lk @e0, by exact lk @e1, by exact lk @e5⟩
  · obtain rfl : i = l.length := by omega
    refine W1 (And.intro @e0 (And.intro @e1 @e5)) @DD trivial ?_
    exact hk
end
end Go.Proofs.Ytmknnlbbfeldbaa.PvW
