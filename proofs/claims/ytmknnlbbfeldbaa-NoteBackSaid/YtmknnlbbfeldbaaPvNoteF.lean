/- Plain lemmas: notes that are put and got. No statement of the set is proved in this text. -/
import Derived.Test.YtmknnlbbfeldbaaPvNoteD
namespace Go.Proofs.Ytmknnlbbfeldbaa.PvW
open Go.RowKit Go.Proofs.Ytmknnlbbfeldbaa.Cd Go.Proofs.Ytmknnlbbfeldbaa.AbP Go.Proofs.Ytmknnlbbfeldbaa.Num Go.Proofs.Ytmknnlbbfeldbaa.Pv
set_option maxRecDepth 100000
set_option maxHeartbeats 4000000
set_option linter.unusedVariables false
set_option linter.unusedSimpArgs false
theorem gets3 (b : List Int) (big : Bool) : gets b big 0 [4, 4, 4] = [nN big b, nD big b, nT big b] := rfl
theorem fits_4 {x : Int} (h : x ≤ 4294967295) : fitsB x 4 = true := by
  have hp : (256 : Int) ^ 4 = 4294967296 := by decide
  exact fitsn (m := 4) rfl rfl (by omega)
theorem up4_len (x : List Int) : up4 (x.length : Int) = (full x).length := (full_len x).symm
theorem take_full (x Y : List Int) : (full x ++ Y).take x.length = x := by
  unfold full
  rw [List.append_assoc]
  exact List.take_left' rfl
theorem padz_full (x Y : List Int) : padz (full x ++ Y) x.length = true := by
  unfold padz
  rw [up4_len, Int.toNat_natCast, Int.toNat_natCast, List.take_left' rfl, List.all_eq_true]
  intro y hy
  unfold full at hy
  rw [List.drop_left] at hy
  exact decide_eq_true (List.mem_replicate.1 hy).2
/-- the first of notes that were put -/
theorem note_got {big : Bool} {x : dNote.T} (h : NoteN x) (R : List Int) : oneBad big (noteB big x ++ R) = 0 ∧ oneNote big (noteB big x ++ R) = x ∧ oneRest big (noteB big x ++ R) = R := by
  have hP := noteP_len big x
  have hpt : (256 : Int) ^ 4 = 4294967296 := by decide
  have h1 : (x.1.length : Int) ≤ 4294967295 := by have := h.n; omega
  have h2 : (x.2.1.length : Int) ≤ 4294967295 := by have := h.d; omega
  have hok : rowOk (noteP x) = true := by
    simp only [rowOk, noteP, prs, List.map_cons, List.map_nil, List.all_cons, List.all_nil, fits_4 h1, fits_4 h2, fits_4 h.t.2, Bool.and_true]
  have hg := gets_put (big := big) (noteP x) [] (full x.1 ++ (full x.2.1 ++ R)) hok (by
    intro q hq
    simp only [noteP, prs, List.map_cons, List.map_nil, List.mem_cons, List.not_mem_nil, or_false] at hq
    rcases hq with rfl | rfl | rfl
    · exact Int.natCast_nonneg _
    · exact Int.natCast_nonneg _
    · exact h.t.1)
  have hb : noteB big x ++ R = [] ++ (rowB big (noteP x) ++ (full x.1 ++ (full x.2.1 ++ R))) := by
    unfold noteB
    simp only [List.append_assoc, List.nil_append]
  rw [← hb] at hg
  have hg2 : gets (noteB big x ++ R) big 0 [4, 4, 4] = [(x.1.length : Int), (x.2.1.length : Int), x.2.2.1] := hg
  rw [gets3] at hg2
  injection hg2 with e1 hg2
  injection hg2 with e2 hg2
  injection hg2 with e3 hg2
  have hd : (noteB big x ++ R).drop 12 = full x.1 ++ (full x.2.1 ++ R) := by
    rw [hb, List.nil_append]
    exact List.drop_left' hP
  have hd2 : ((noteB big x ++ R).drop 12).drop (up4 (x.1.length : Int)).toNat = full x.2.1 ++ R := by
    rw [hd, up4_len, Int.toNat_natCast]
    exact List.drop_left' rfl
  have hl : ((noteB big x ++ R).length : Int) = 12 + (full x.1).length + (full x.2.1).length + R.length := by
    rw [hb]
    simp only [List.length_append, hP, List.length_nil]
    omega
  refine ⟨?_, ?_, ?_⟩
  · unfold oneBad
    rw [e1, e2, if_neg (by rw [up4_len, up4_len]; omega), hd, padz_full, if_neg (by decide), ← hd, hd2, padz_full, if_neg (by decide)]
  · unfold oneNote
    rw [e1, e2, e3, hd2, hd, Int.toNat_natCast, Int.toNat_natCast, take_full, take_full]
  · unfold oneRest
    rw [e1, e2, hd2, up4_len, Int.toNat_natCast]
    exact List.drop_left' rfl
theorem notes_got {big : Bool} : ∀ {l : List dNote.T} {k : Nat}, (∀ x ∈ l, NoteN x) → (notesB big l).length < k → notesG big k (notesB big l) = (l, none)
  | [], k + 1, _, _ => by simp [notesG, notesB]
  | x :: l, k + 1, h, hk => by
    have e : notesB big (x :: l) = noteB big x ++ notesB big l := rfl
    obtain ⟨h1, h2, h3⟩ := note_got (big := big) (h x (by simp)) (notesB big l)
    have hP := noteP_len big x
    have hl : 12 ≤ (noteB big x).length := by unfold noteB; rw [List.length_append]; omega
    have ih := notes_got (big := big) (l := l) (k := k) (fun y hy => h y (List.mem_cons_of_mem _ hy)) (by rw [e, List.length_append] at hk; omega)
    rw [e]
    unfold notesG
    rw [if_neg (by rw [List.length_append]; omega), h1, h2, h3, ih]
    rfl
theorem full_take {c : List Int} {n : Int} (h0 : 0 ≤ n) (hl : up4 n ≤ c.length) (hp : padz c n = true) : full (c.take n.toNat) = c.take (up4 n).toNat := by
  have hu : n ≤ up4 n ∧ up4 n ≤ n + 3 := by unfold up4; omega
  have hlen : (c.take n.toNat).length = n.toNat := by rw [List.length_take]; omega
  unfold full
  rw [hlen, Int.toNat_of_nonneg h0]
  have e : c.take (up4 n).toNat = c.take n.toNat ++ (c.take (up4 n).toNat).drop n.toNat := by
    have := (List.take_append_drop n.toNat (c.take (up4 n).toNat)).symm
    rw [List.take_take, Nat.min_eq_left (by omega)] at this
    exact this
  rw [e]
  congr 1
  symm
  rw [List.eq_replicate_iff]
  refine ⟨by rw [List.length_drop, List.length_take]; unfold up4 at *; omega, fun y hy => ?_⟩
  have := (List.all_eq_true.1 hp) y hy
  exact of_decide_eq_true this
/-- what is got, put -/
theorem note_back {big : Bool} {b : List Int} (hB : B b) (h : oneBad big b = 0) : noteB big (oneNote big b) ++ oneRest big b = b ∧ (oneNote big b).1.length ≤ b.length ∧ (oneNote big b).2.1.length ≤ b.length := by
  obtain ⟨n0, n1⟩ := range4 hB 0 big
  obtain ⟨d0, d1⟩ := range4 hB 4 big
  have hbad : oneBad big b = if (b.length : Int) < 12 ∨ (b.length : Int) - 12 < up4 (nN big b) + up4 (nD big b) then 2
    else if padz (b.drop 12) (nN big b) = false then 4 else if padz ((b.drop 12).drop (up4 (nN big b)).toNat) (nD big b) = false then 4 else 0 := rfl
  rw [h] at hbad
  by_cases c1 : (b.length : Int) < 12 ∨ (b.length : Int) - 12 < up4 (nN big b) + up4 (nD big b)
  · rw [if_pos c1] at hbad; cases hbad
  rw [if_neg c1] at hbad
  by_cases c2 : padz (b.drop 12) (nN big b) = false
  · rw [if_pos c2] at hbad; cases hbad
  rw [if_neg c2] at hbad
  by_cases c3 : padz ((b.drop 12).drop (up4 (nN big b)).toNat) (nD big b) = false
  · rw [if_pos c3] at hbad; cases hbad
  have c2 : padz (b.drop 12) (nN big b) = true := by simpa using c2
  have c3 : padz ((b.drop 12).drop (up4 (nN big b)).toNat) (nD big b) = true := by simpa using c3
  obtain ⟨h1, h2, h3⟩ := put_gets (big := big) hB [4, 4, 4] 0 (by decide) (by show (0 : Int) + (4 + (4 + (4 + 0))) ≤ b.length; omega)
  have h2 : rowB big ((gets b big 0 [4, 4, 4]).zip [4, 4, 4]) = b.take 12 := h2
  rw [gets3] at h2
  have hu1 : nN big b ≤ up4 (nN big b) ∧ up4 (nN big b) ≤ nN big b + 3 := by unfold up4; omega
  have hu2 : nD big b ≤ up4 (nD big b) ∧ up4 (nD big b) ≤ nD big b + 3 := by unfold up4; omega
  have hl1 : (((b.drop 12).take (nN big b).toNat).length : Int) = nN big b := by rw [List.length_take, List.length_drop]; unfold nN nD at *; omega
  have hl2 : ((((b.drop 12).drop (up4 (nN big b)).toNat).take (nD big b).toNat).length : Int) = nD big b := by rw [List.length_take, List.length_drop, List.length_drop]; unfold nN nD at *; omega
  have hp : noteP (oneNote big b) = [nN big b, nD big b, nT big b].zip [4, 4, 4] := by
    show [((((b.drop 12).take (nN big b).toNat).length : Int), 4), ((((b.drop 12).drop (up4 (nN big b)).toNat).take (nD big b).toNat).length, 4), (nT big b, 4)] = _
    rw [hl1, hl2]
    rfl
  have f1 : full (oneNote big b).1 = (b.drop 12).take (up4 (nN big b)).toNat := full_take n0 (by rw [List.length_drop]; unfold nN nD at *; omega) c2
  have f2 : full (oneNote big b).2.1 = ((b.drop 12).drop (up4 (nN big b)).toNat).take (up4 (nD big b)).toNat := full_take d0 (by rw [List.length_drop, List.length_drop]; unfold nN nD at *; omega) c3
  refine ⟨?_, ?_, ?_⟩
  · unfold noteB oneRest
    rw [hp, h2, f1, f2, List.append_assoc, List.append_assoc, List.take_append_drop, List.take_append_drop, List.take_append_drop]
  · show ((b.drop 12).take (nN big b).toNat).length ≤ _
    rw [List.length_take, List.length_drop]
    omega
  · show (((b.drop 12).drop (up4 (nN big b)).toNat).take (nD big b).toNat).length ≤ _
    rw [List.length_take, List.length_drop, List.length_drop]
    omega
theorem notes_back {big : Bool} : ∀ {k : Nat} {b : List Int}, B b → b.length ≤ 10000 → b.length < k → (notesG big k b).2 = none → notesB big (notesG big k b).1 = b ∧ (∀ x ∈ (notesG big k b).1, NoteN x) ∧ 12 * (notesG big k b).1.length ≤ b.length
  | k + 1, b, hB, hm, hk, hn => by
    by_cases h0 : b.length = 0
    · have e : notesG big (k + 1) b = ([], none) := if_pos h0
      rw [e]
      exact ⟨(List.eq_nil_of_length_eq_zero h0).symm, fun x hx => (by cases hx), by simp⟩
    have e : notesG big (k + 1) b = if oneBad big b ≠ 0 then ([], some ((b.length : Int), oneBad big b)) else (oneNote big b :: (notesG big k (oneRest big b)).1, (notesG big k (oneRest big b)).2) := if_neg h0
    by_cases h1 : oneBad big b = 0
    rotate_left
    · rw [e, if_pos h1] at hn; cases hn
    rw [if_neg (fun h => h h1)] at e
    rw [e] at hn ⊢
    obtain ⟨r1, r2⟩ := oneRest_len hB h1
    obtain ⟨g1, g2, g3⟩ := note_back hB h1
    have hBr : B (oneRest big b) := fun x hx => hB x (List.mem_of_mem_drop (List.mem_of_mem_drop (List.mem_of_mem_drop hx)))
    obtain ⟨i1, i2, i3⟩ := notes_back (k := k) hBr (by omega) (by omega) hn
    obtain ⟨t0, t1⟩ := range4 hB 8 big
    refine ⟨?_, fun x hx => ?_, by rw [List.length_cons]; omega⟩
    · show noteB big (oneNote big b) ++ notesB big (notesG big k (oneRest big b)).1 = b
      rw [i1, g1]
    · rcases List.mem_cons.1 hx with rfl | hx
      · exact ⟨Nat.le_trans g2 hm, Nat.le_trans g3 hm, fun x hx => hB x (List.mem_of_mem_drop (List.mem_of_mem_take hx)), fun x hx => hB x (List.mem_of_mem_drop (List.mem_of_mem_drop (List.mem_of_mem_take hx))), ⟨t0, t1⟩⟩
      · exact i2 x hx
end Go.Proofs.Ytmknnlbbfeldbaa.PvW
