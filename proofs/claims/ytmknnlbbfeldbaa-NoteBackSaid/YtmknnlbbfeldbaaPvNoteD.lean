/- What note's functions that get all yield. No statement of the set is proved in this text. -/
import Derived.Test.YtmknnlbbfeldbaaPvNoteC
namespace Go.Proofs.Ytmknnlbbfeldbaa.PvW
open Go.RowKit Go.Proofs.Ytmknnlbbfeldbaa.Cd Go.Proofs.Ytmknnlbbfeldbaa.AbP Go.Proofs.Ytmknnlbbfeldbaa.Num Go.Proofs.Ytmknnlbbfeldbaa.Pv
set_option maxRecDepth 100000
set_option maxHeartbeats 4000000
set_option linter.unusedVariables false
set_option linter.unusedSimpArgs false
variable {K : PV → List OB → Prop}
abbrev nN (big : Bool) (b : List Int) : Int := (getSpec b 0 4 big).1
abbrev nD (big : Bool) (b : List Int) : Int := (getSpec b 4 4 big).1
abbrev nT (big : Bool) (b : List Int) : Int := (getSpec b 8 4 big).1
/-- what is amiss with the first note; 0: nothing -/
def oneBad (big : Bool) (b : List Int) : Int := if (b.length : Int) < 12 ∨ (b.length : Int) - 12 < up4 (nN big b) + up4 (nD big b) then 2
  else if padz (b.drop 12) (nN big b) = false then 4 else if padz ((b.drop 12).drop (up4 (nN big b)).toNat) (nD big b) = false then 4 else 0
def oneNote (big : Bool) (b : List Int) : dNote.T := ((b.drop 12).take (nN big b).toNat, ((b.drop 12).drop (up4 (nN big b)).toNat).take (nD big b).toNat, nT big b, ())
def oneRest (big : Bool) (b : List Int) : List Int := ((b.drop 12).drop (up4 (nN big b)).toNat).drop (up4 (nD big b)).toNat
theorem none_spec {w big : Bool} {b : List Int} (hB : Am (B b)) (hm : Om (b.length ≤ 1000000))
    (hS : oneBad big b = 2 → K (.tup [.agg [.nilS, .nilS, .int .u32 0], .nilS, .int .i64 2]) [])
    (hA : oneBad big b = 4 → K (.tup [.agg [.nilS, .nilS, .int .u32 (nT big b)], .nilS, .int .i64 4]) [])
    (hD : oneBad big b = 4 → K (.tup [.agg [.sl (.int .u8) (oneNote big b).1, .nilS, .int .u32 (nT big b)], .nilS, .int .i64 4]) [])
    (hO : oneBad big b = 0 → K (.tup [.agg [.sl (.int .u8) (oneNote big b).1, .sl (.int .u8) (oneNote big b).2.1, .int .u32 (nT big b)], .sl (.int .u8) (oneRest big b), .int .i64 0]) []) :
    PCalls Try.prog 33 [.sl (.int .u8) b, .agg [.bool w, .bool big]] [] K := by
  have hB := hB.o
  have hm := hm.o
  refine told_callP note_one.told fun Z hZ => ?_
  unfold note_one.c
  have hok : (getSpec b 8 4 big).2 = decide (12 ≤ (b.length : Int)) := by rw [getSpec_ok rfl]; congr 1
  obtain ⟨n0, n1⟩ := range4 hB 0 big
  obtain ⟨d0, d1⟩ := range4 hB 4 big
  obtain ⟨t0, t1⟩ := range4 hB 8 big
  have hu1 : nN big b ≤ up4 (nN big b) ∧ up4 (nN big b) ≤ nN big b + 3 := by unfold up4; omega
  have hu2 : nD big b ≤ up4 (nD big b) ∧ up4 (nD big b) ≤ nD big b + 3 := by unfold up4; omega
  have hbad : oneBad big b = if (b.length : Int) < 12 ∨ (b.length : Int) - 12 < up4 (nN big b) + up4 (nD big b) then 2
    else if padz (b.drop 12) (nN big b) = false then 4 else if padz ((b.drop 12).drop (up4 (nN big b)).toNat) (nD big b) = false then 4 else 0 := rfl
  have e1 : (oneNote big b).1 = (b.drop 12).take (nN big b).toNat := rfl
  have e2 : (oneNote big b).2.1 = ((b.drop 12).drop (up4 (nN big b)).toNat).take (nD big b).toNat := rfl
  have e3 : oneRest big b = ((b.drop 12).drop (up4 (nN big b)).toNat).drop (up4 (nD big b)).toNat := rfl
  rw [e1] at hD hO
  rw [e2, e3] at hO
  unfold nT at hA hD hO
  have hup1 : (getSpec b 0 4 big).1 + (0 - (getSpec b 0 4 big).1) % 4 = up4 (getSpec b 0 4 big).1 := rfl
  have hup2 : up4 (getSpec b 0 4 big).1 + (getSpec b 4 4 big).1 + (0 - (getSpec b 4 4 big).1) % 4 = up4 (getSpec b 0 4 big).1 + up4 (getSpec b 4 4 big).1 := by unfold up4; omega
  unfold nN nD at *
  generalize oneBad big b = bad at *
  by_cases h12 : 12 ≤ (b.length : Int)
  rotate_left
  · have hok : (getSpec b 8 4 big).2 = false := by rw [hok]; exact decide_eq_false h12
    rw [if_pos (.inl (by omega))] at hbad
    have := hS hbad
    refine W1 trivial (And.intro @DD @hok) @get_spec ?_
    exact this
  have hok : (getSpec b 8 4 big).2 = true := by rw [hok]; exact decide_eq_true h12
  have hdl : (b.drop 12).length = b.length - 12 := List.length_drop
  by_cases hle : (b.length : Int) - 12 < up4 (getSpec b 0 4 big).1 + up4 (getSpec b 4 4 big).1
  · rw [if_pos (.inr hle)] at hbad
    have := hS hbad
    refine W1 trivial (And.intro @DD (And.intro @hok (And.intro @and_3u (And.intro @hup1 @hup2)))) @get_spec ?_
    exact this
  rw [if_neg (by omega)] at hbad
  refine W1 trivial (And.intro @DD (And.intro @hok (And.intro @and_3u (And.intro @hup1 @hup2)))) @get_spec ?_
  refine ncut_spec ⟨by omega⟩ ⟨by omega⟩ (fun no => absurd (show up4 (getSpec b 0 4 big).1 ≤ (b.drop 12).length by omega) no) (fun _ hz => ?_) (fun _ hz => ?_)
  · rw [if_pos hz] at hbad
    have := hA hbad
    refine W1 trivial @DD trivial ?_
    exact this
  rw [if_neg (by rw [hz]; decide)] at hbad
  have hd2 : ((b.drop 12).drop (up4 (getSpec b 0 4 big).1).toNat).length = b.length - 12 - (up4 (getSpec b 0 4 big).1).toNat := by rw [List.length_drop, List.length_drop]
  refine W1 trivial @DD trivial ?_
  refine ncut_spec ⟨by omega⟩ ⟨by omega⟩ (fun no => absurd (show up4 (getSpec b 4 4 big).1 ≤ ((b.drop 12).drop (up4 (getSpec b 0 4 big).1).toNat).length by omega) no) (fun _ hz2 => ?_) (fun _ hz2 => ?_)
  · rw [if_pos hz2] at hbad
    have := hD hbad
    refine W1 trivial @DD trivial ?_
    exact this
  rw [if_neg (by rw [hz2]; decide)] at hbad
  have := hO hbad
  refine W1 trivial @DD trivial ?_
  exact this
/-- all notes, and what is amiss: of how many bytes from the end on, and its number -/
def notesG (big : Bool) : Nat → List Int → List dNote.T × Option (Int × Int)
  | 0, _ => ([], none)
  | k + 1, b => if b.length = 0 then ([], none) else if oneBad big b ≠ 0 then ([], some (b.length, oneBad big b)) else (oneNote big b :: (notesG big k (oneRest big b)).1, (notesG big k (oneRest big b)).2)
abbrev notesA (big : Bool) (b : List Int) : List dNote.T × Option (Int × Int) := notesG big (b.length + 1) b
theorem oneRest_len {big : Bool} {b : List Int} (hB : B b) (h0 : oneBad big b = 0) : (oneRest big b).length < b.length ∧ (oneRest big b).length + 12 ≤ b.length := by
  have hl : 12 ≤ b.length := by
    refine Nat.le_of_not_lt fun hlt => ?_
    unfold oneBad at h0
    rw [if_pos (.inl (by omega))] at h0
    cases h0
  unfold oneRest
  rw [List.length_drop, List.length_drop, List.length_drop]
  omega
theorem oneBad_cases (big : Bool) (b : List Int) : oneBad big b = 0 ∨ oneBad big b = 2 ∨ oneBad big b = 4 := by
  unfold oneBad
  repeat' split
  all_goals simp
theorem nall_spec {w big : Bool} {b : List Int} (hB : Am (B b)) (hm : Om (b.length ≤ 100000))
    (hk1 : (notesA big b).2 = none → K (.tup [.osl 0 (notesA big b).1.length, .nilI]) [.arr dNote (notesA big b).1])
    (hk2 : ∀ r c, (notesA big b).2 = some (r, c) → K (.tup [.nilS, eSpot ((b.length : Int) - r) c]) []) :
    PCalls Try.prog 11 [.sl (.int .u8) b, .agg [.bool w, .bool big]] [] K := by
  have hB := hB.o
  have hm := hm.o
  refine told_callP note_All.told fun Z hZ => ?_
  unfold note_All.c
  refine W1 trivial trivial (@xVirt 6 dNote) ?_
  generalize hG : notesA big b = G at *
  refine w_lpG (fun q e s => ∃ (c : List Int) (acc : List dNote.T), B c ∧ c.length < q ∧ c.length ≤ b.length ∧ acc.length + c.length ≤ b.length ∧ acc ++ (notesG big q c).1 = G.1 ∧ (notesG big q c).2 = G.2 ∧ s = [.var [.bool w, .bool big], .arr dNote acc] ∧ e 0 = .sl (.int .u8) c ∧ e 3 = .ptr 0 0 ∧ e 6 = .osl 1 acc.length ∧ e 7 = .int .i64 b.length) (b.length + 1) ?_ ?_
  · exact ⟨b, [], hB, by omega, by omega, by simp, by rw [← hG]; rfl, by rw [← hG], rfl, by exact lk trivial, by exact lk trivial, by exact lk trivial, by exact lk trivial⟩
  rintro q e s ⟨c, acc, hBc, hcq, hcb, hab, hacc, herr, rfl, e0, e3, e6, e7⟩
  cases q with
  | zero => omega
  | succ q =>
  by_cases hc0 : c.length = 0
  · have h1 : notesG big (q + 1) c = ([], none) := if_pos hc0
    rw [h1] at hacc herr
    have := hk1 herr.symm
    rw [← hacc, List.append_nil] at this
    refine W1 (And.intro @e0 (And.intro @e3 (And.intro @e6 @e7))) @DD trivial ?_
    exact this
  have h1 : notesG big (q + 1) c = if oneBad big c ≠ 0 then ([], some ((c.length : Int), oneBad big c)) else (oneNote big c :: (notesG big q (oneRest big c)).1, (notesG big q (oneRest big c)).2) := if_neg hc0
  rw [h1] at hacc herr
  have hbd : oneBad big c ≠ 0 → K (.tup [.nilS, eSpot ((b.length : Int) - (c.length : Int)) (oneBad big c)]) [] := fun h => by
    rw [if_pos h] at herr
    exact hk2 _ _ herr.symm
  refine W1 (And.intro @e0 (And.intro @e3 (And.intro @e6 @e7))) @DD trivial ?_
  refine none_spec ⟨hBc⟩ ⟨by omega⟩ (fun h => ?_) (fun h => ?_) (fun h => ?_) (fun h => ?_)
  · have := hbd (by rw [h]; decide)
    rw [h] at this
    refine W1 (And.intro @e0 (And.intro @e3 (And.intro @e6 @e7))) @DD trivial ?_
    exact this
  · have := hbd (by rw [h]; decide)
    rw [h] at this
    refine W1 (And.intro @e0 (And.intro @e3 (And.intro @e6 @e7))) @DD trivial ?_
    exact this
  · have := hbd (by rw [h]; decide)
    rw [h] at this
    refine W1 (And.intro @e0 (And.intro @e3 (And.intro @e6 @e7))) @DD trivial ?_
    exact this
  rw [if_neg (by rw [h]; decide)] at hacc herr
  obtain ⟨hr1, hr2⟩ := oneRest_len hBc h
  have hnote : (oneNote big c) = ((oneNote big c).1, (oneNote big c).2.1, nT big c, ()) := rfl
  have hBr : B (oneRest big c) := fun x hx => hBc x (List.mem_of_mem_drop (List.mem_of_mem_drop (List.mem_of_mem_drop hx)))
  refine W1 (And.intro @e0 (And.intro @e3 (And.intro @e6 @e7))) @DD trivial ?_
  refine ⟨q, by omega, _, _, Gh.sel [0, 1] (by decide) (hz0 hZ), oneRest big c, acc ++ [oneNote big c], hBr, by omega, by omega, by rw [List.length_append]; simp; omega, by rw [List.append_assoc]; exact hacc, herr, rfl, by exact lk trivial, by exact lk @e3, ?_, by exact lk @e7⟩
  rw [List.length_append]
  exact lk trivial
end Go.Proofs.Ytmknnlbbfeldbaa.PvW
