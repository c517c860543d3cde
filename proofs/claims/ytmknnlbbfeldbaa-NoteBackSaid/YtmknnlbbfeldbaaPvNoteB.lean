/- What the document's answer for notes' bytes yields. No statement of the set is proved in this text. -/
import Derived.Test.YtmknnlbbfeldbaaPvNote
namespace Go.Proofs.Ytmknnlbbfeldbaa.PvW
open Go.RowKit Go.Proofs.Ytmknnlbbfeldbaa.Cd Go.Proofs.Ytmknnlbbfeldbaa.AbP Go.Proofs.Ytmknnlbbfeldbaa.Num Go.Proofs.Ytmknnlbbfeldbaa.Pv
set_option maxRecDepth 100000
set_option maxHeartbeats 4000000
set_option linter.unusedVariables false
set_option linter.unusedSimpArgs false
variable {K : PV → List OB → Prop}
theorem full_app {C x : List Int} (h : C.length % 4 = 0) : full (C ++ x) = C ++ full x := by
  unfold full
  have e : ((0 - ((C ++ x).length : Int)) % 4) = ((0 - (x.length : Int)) % 4) := by rw [List.length_append]; omega
  rw [e, List.append_assoc]
theorem rep_snoc (X : List Int) (j : Nat) : (X ++ List.replicate j (0 : Int)) ++ [0] = X ++ List.replicate (j + 1) 0 := by
  rw [List.append_assoc, List.replicate_succ']
theorem rup_spec {n : Int} (hn : Om (0 ≤ n ∧ n ≤ 4294967295)) (hk : K (.int .u64 (n + (0 - n) % 4)) []) : PCalls Try.prog 35 [.int .u64 n] [] K := by
  have hn := hn.o
  refine told_callP bezantref04_up.told fun Z hZ => ?_
  unfold bezantref04_up.c
  rw [show n + (0 - n) % 4 = (n + 3) / 4 * 4 by omega] at hk
  refine W1 trivial (And.intro @DD @quo_c) trivial ?_
  exact hk
theorem rnput_spec {w big : Bool} {l : List dNote.T} (hl : Om (l.length ≤ 1000)) (hN : Am (∀ x ∈ l, NoteN x)) (hk : K (.osl 0 (notesB big l).length) [.arr (.int .u8) (notesB big l)]) :
    PCalls Try.prog 16 [.sl dNote l, .agg [.bool w, .bool big]] [] K := by
  have hl := hl.o
  have hN := hN.o
  refine told_callP bezantref04_PutNotes.told fun Z hZ => ?_
  unfold bezantref04_PutNotes.c
  refine W1 trivial trivial (@xVirt 5 (.int .u8)) ?_
  refine w_lpG (fun q e s => ∃ i : Nat, q + i = l.length ∧ s = [.var [.bool w, .bool big], .arr (.int .u8) (notesB big (l.take i))] ∧ e 0 = .sl dNote l ∧ e 3 = .ptr 0 0 ∧ e 5 = .osl 1 (notesB big (l.take i)).length ∧ e 6 = .int .i64 i) l.length ?_ ?_
  · exact ⟨0, rfl, rfl, by exact lk trivial, by exact lk trivial, by exact lk trivial, by exact lk trivial⟩
  rintro q e s ⟨i, hi, rfl, e0, e3, e5, e6⟩
  by_cases hq : i < l.length
  · obtain ⟨x, hx⟩ : ∃ x, l[i]? = some x := ⟨l[i], List.getElem?_eq_getElem hq⟩
    have hNx := hN x (List.mem_of_getElem? hx)
    obtain ⟨hlb, hmod⟩ := notesB_len (big := big) (l := l.take i) (fun y hy => hN y (List.mem_of_mem_take hy))
    rw [List.length_take, Nat.min_eq_left (by omega)] at hlb
    have hsx : notesB big (l.take (i + 1)) = notesB big (l.take i) ++ noteB big x := by rw [take_snocD hx, notesB_snoc]
    have hP := noteP_len big x
    have hPz : (noteP x) = [((x.1.length : Int)), (x.2.1.length : Int), x.2.2.1].zip [4, 4, 4] := rfl
    obtain ⟨nm, ds, ty, u⟩ := x
    have h1 : nm.length ≤ 10000 := hNx.n
    have h2 : ds.length ≤ 10000 := hNx.d
    have h3 : (0 : Int) ≤ ty ∧ ty ≤ 4294967295 := hNx.t
    have hty : IntKind.u64.wrap ty = ty := u64_id h3
    generalize notesB big (l.take i) = C at *
    refine W1 (And.intro @e0 (And.intro @e3 (And.intro @e5 @e6))) (And.intro @DD @hty) trivial ?_
    refine row_spec (l := [(nm.length : Int), (ds.length : Int), ty]) (ns := [4, 4, 4]) ⟨?_⟩ ⟨by decide⟩ ⟨Nat.le_refl 3⟩ ⟨show 3 ≤ 1000 by decide⟩ ?_
    · simp only [List.forall_mem_cons, U64]
      exact ⟨⟨by omega, by omega⟩, ⟨by omega, by omega⟩, ⟨h3.1, Int.le_trans h3.2 (by decide)⟩, fun _ h => by cases h⟩
    rw [← hPz]
    refine W1 (And.intro @e0 (And.intro @e3 (And.intro @e5 @e6))) @DD trivial ?_
    have hf1 := full_le nm
    have hf2 := full_le ds
    have hm1 := full_mod nm
    have hq1 : (C ++ rowB big (noteP (nm, ds, ty, u))).length % 4 = 0 := by rw [List.length_append]; omega
    have hql : (C ++ rowB big (noteP (nm, ds, ty, u))).length = C.length + 12 := by rw [List.length_append, hP]
    have hfa := full_app (x := nm) hq1
    have hC3 : C ++ noteB big (nm, ds, ty, u) = ((C ++ rowB big (noteP (nm, ds, ty, u))) ++ full nm) ++ full ds := by simp only [noteB, List.append_assoc]
    rw [← hfa] at hC3
    have hC2l : (C ++ rowB big (noteP (nm, ds, ty, u)) ++ nm).length = C.length + 12 + nm.length := by rw [List.length_append, hql]
    have hC2e : (C ++ rowB big (noteP (nm, ds, ty, u))).length + nm.length = (C ++ rowB big (noteP (nm, ds, ty, u)) ++ nm).length := List.length_append.symm
    have hCm := full_mod (C ++ rowB big (noteP (nm, ds, ty, u)) ++ nm)
    have hCf := full_le (C ++ rowB big (noteP (nm, ds, ty, u)) ++ nm)
    generalize C ++ rowB big (noteP (nm, ds, ty, u)) ++ nm = C2 at *
    generalize C ++ rowB big (noteP (nm, ds, ty, u)) = C1 at *
    refine ghW (Gh.sel [0, 1] (by decide) (hz0 hZ)) ?_
    refine w_lpG (fun q e s => ∃ j : Nat, q + j = ((0 - (C2.length : Int)) % 4).toNat ∧ s = [.var [.bool w, .bool big], .arr (.int .u8) (C2 ++ List.replicate j (0 : Int))] ∧ e 0 = .sl dNote l ∧ e 3 = .ptr 0 0 ∧ e 5 = .osl 1 (C2.length + j) ∧ e 6 = .int .i64 i) ((0 - (C2.length : Int)) % 4).toNat ?_ ?_
    · exact ⟨0, rfl, by simp only [List.replicate_zero, List.append_nil]; rfl, by exact lk @e0, by exact lk @e3, by rw [Nat.add_zero, ← hC2e]; exact lk trivial, by exact lk @e6⟩
    rintro q2 e s ⟨j, hj, rfl, e0, e3, e5, e6⟩
    have hlj : (C2 ++ List.replicate j (0 : Int)).length = C2.length + j := by rw [List.length_append, List.length_replicate]
    by_cases hj0 : q2 = 0
    rotate_left
    · have hne : decide (¬ ((C2 ++ List.replicate j (0 : Int)).length : Int) % 4 = 0) = true := decide_eq_true (by omega)
      refine W1 (And.intro @e0 (And.intro @e3 (And.intro @e5 @e6))) (And.intro @DD (And.intro @rem_c @hne)) trivial ?_
      refine ⟨q2 - 1, by omega, _, _, Gh.sel [0, 1] (by decide) (hz0 hZ), j + 1, by omega, by rw [← rep_snoc]; rfl, by exact lk @e0, by exact lk @e3, by rw [← Nat.add_assoc, ← hlj]; exact lk @e5, by exact lk @e6⟩
    have hne : decide (¬ ((C2 ++ List.replicate j (0 : Int)).length : Int) % 4 = 0) = false := decide_eq_false (by omega)
    have hfu : C2 ++ List.replicate j (0 : Int) = full C2 := by unfold full; congr 2; omega
    refine W1 (And.intro @e0 (And.intro @e3 (And.intro @e5 @e6))) (And.intro @DD (And.intro @rem_c @hne)) trivial ?_
    rw [hfu]
    have hfb := full_app (x := ds) hCm
    have hC4e : (full C2).length + ds.length = (full C2 ++ ds).length := List.length_append.symm
    rw [← hfb] at hC3
    have hC4l := hC4e
    have hC5 : (full C2 ++ ds).length ≤ 100000000 := by omega
    generalize full C2 ++ ds = C3 at *
    have hCg := full_le C3
    refine ghW (Gh.sel [0, 1] (by decide) (hz0 hZ)) ?_
    refine w_lpG (fun q e s => ∃ j : Nat, q + j = ((0 - (C3.length : Int)) % 4).toNat ∧ s = [.var [.bool w, .bool big], .arr (.int .u8) (C3 ++ List.replicate j (0 : Int))] ∧ e 0 = .sl dNote l ∧ e 3 = .ptr 0 0 ∧ e 5 = .osl 1 (C3.length + j) ∧ e 6 = .int .i64 i) ((0 - (C3.length : Int)) % 4).toNat ?_ ?_
    · exact ⟨0, rfl, by simp only [List.replicate_zero, List.append_nil]; rfl, by exact lk @e0, by exact lk @e3, by rw [Nat.add_zero, ← hC4e]; exact lk trivial, by exact lk @e6⟩
    rintro q2 e s ⟨j, hj, rfl, e0, e3, e5, e6⟩
    have hlj3 : (C3 ++ List.replicate j (0 : Int)).length = C3.length + j := by rw [List.length_append, List.length_replicate]
    by_cases hj0 : q2 = 0
    rotate_left
    · have hne : decide (¬ ((C3 ++ List.replicate j (0 : Int)).length : Int) % 4 = 0) = true := decide_eq_true (by omega)
      refine W1 (And.intro @e0 (And.intro @e3 (And.intro @e5 @e6))) (And.intro @DD (And.intro @rem_c @hne)) trivial ?_
      refine ⟨q2 - 1, by omega, _, _, Gh.sel [0, 1] (by decide) (hz0 hZ), j + 1, by omega, by rw [← rep_snoc]; rfl, by exact lk @e0, by exact lk @e3, by rw [← Nat.add_assoc, ← hlj3]; exact lk @e5, by exact lk @e6⟩
    have hne : decide (¬ ((C3 ++ List.replicate j (0 : Int)).length : Int) % 4 = 0) = false := decide_eq_false (by omega)
    have hfu : C3 ++ List.replicate j (0 : Int) = full C3 := by unfold full; congr 2; omega
    refine W1 (And.intro @e0 (And.intro @e3 (And.intro @e5 @e6))) (And.intro @DD (And.intro @rem_c @hne)) trivial ?_
    rw [hfu]
    refine ⟨q - 1, by omega, _, _, Gh.sel [0, 1] (by decide) (hz0 hZ), i + 1, by omega, by rw [hsx, hC3]; rfl, by exact lk @e0, by exact lk @e3, ?_, by exact lk @e6⟩
    rw [hsx, hC3, ← hfu, hlj3]
    exact lk @e5
  · obtain rfl : i = l.length := by omega
    rw [List.take_length] at *
    refine W1 (And.intro @e0 (And.intro @e3 (And.intro @e5 @e6))) @DD trivial ?_
    exact hk
end Go.Proofs.Ytmknnlbbfeldbaa.PvW
