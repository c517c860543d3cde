/- What the document's answer for needs' bytes yields. No statement of the set is proved in this text. -/
import Derived.Test.YtoieblaagkbncaaPvVerB
import Derived.Test.YtoieblaagkbncaaPvPg
namespace Go.Proofs.Ytoieblaagkbncaa.PvW
open Go.RowKit Go.Proofs.Ytoieblaagkbncaa.Cd Go.Proofs.Ytoieblaagkbncaa.AbP Go.Proofs.Ytoieblaagkbncaa.Num Go.Proofs.Ytoieblaagkbncaa.Pv
set_option maxRecDepth 100000
set_option maxHeartbeats 4000000
set_option linter.unusedVariables false
set_option linter.unusedSimpArgs false
variable {K : PV → List OB → Prop}
theorem rputNeeds_spec {big : Bool} {l : List dNeed.T} (hl : Om (l.length ≤ 40)) (hN : Am (NeedsN l))
    (hk1 : needsOk l = true → K (.tup [.osl 0 (needsB big l).length, .bool true]) [.arr (.int .u8) (needsB big l)]) (hk2 : needsOk l = false → K (.tup [.nilS, .bool false]) []) :
    PCalls Try.prog 11 [.sl dNeed l, .bool big] [] K := by
  have hl := hl.o
  have hN := hN.o
  refine told_callP bezantref12_PutNeeds.told fun Z hZ => ?_
  unfold bezantref12_PutNeeds.c
  refine W1 trivial trivial (@xVirt 6 (.int .u8)) ?_
  refine w_lpG (fun q e s => ∃ i : Nat, q + i = l.length ∧ (l.take i).all (fun d => decide (0 < d.2.1.length)) = true ∧ s = [.arr (.int .u8) (idxB (needB big l.length) 0 (l.take i))] ∧ e 0 = .sl dNeed l ∧ e 1 = .bool big ∧ e 6 = .osl 0 (idxB (needB big l.length) 0 (l.take i)).length ∧ e 7 = .int .i64 i) l.length ?_ ?_
  · exact ⟨0, rfl, rfl, rfl, by exact lk trivial, by exact lk trivial, by exact lk trivial, by exact lk trivial⟩
  rintro q e s ⟨i, hi, hall, rfl, e0, e1, e6, e7⟩
  by_cases hq : i < l.length
  · obtain ⟨x, hx⟩ : ∃ x, l[i]? = some x := ⟨l[i], List.getElem?_eq_getElem hq⟩
    have hNx := hN x (List.mem_of_getElem? hx)
    have hlb := needsB_le (big := big) (m := l.length) (k := 0) (l := l.take i) (fun y hy => hN y (List.mem_of_mem_take hy))
    rw [List.length_take, Nat.min_eq_left (by omega)] at hlb
    have hsx := idxB_take (f := needB big l.length) hx
    have hal := fun h => all_take (p := fun d : dNeed.T => decide (0 < d.2.1.length)) hx hall h
    have han : decide (0 < x.2.1.length) = false → needsOk l = false := fun h => all_no hx h
    generalize idxB (needB big l.length) 0 (l.take i) = C at *
    obtain ⟨fi, ax, u⟩ := x
    obtain ⟨⟨a0, a1⟩, hax, hnl⟩ : NeedN fi ax := hNx
    by_cases h0 : (ax.length : Int) < 1
    · have := hk2 (han (decide_eq_false (by show ¬ 0 < ax.length; omega)))
      refine W1 (And.intro @e0 (And.intro @e1 (And.intro @e6 @e7))) @DD trivial ?_
      exact this
    have hal := hal (decide_eq_true (by show 0 < ax.length; omega))
    have hnx := nx_ok (i := i) (many := l.length) (size := 16 + 16 * (ax.length : Int)) (by omega)
    refine W1 (And.intro @e0 (And.intro @e1 (And.intro @e6 @e7))) @DD @rstep_spec ?_
    refine row_spec (l := [1, (ax.length : Int), fi, 16, nx i l.length (16 + 16 * (ax.length : Int))]) (ns := [2, 2, 4, 4, 4]) ⟨?_⟩ ⟨by decide⟩ ⟨Nat.le_refl 5⟩ ⟨show 5 ≤ 1000 by decide⟩ ?_
    · simp only [List.forall_mem_cons, U64]
      exact ⟨⟨by omega, by omega⟩, ⟨by omega, by omega⟩, ⟨by omega, by omega⟩, ⟨by omega, by omega⟩, ⟨by omega, by omega⟩, fun _ h => by cases h⟩
    have hz : ([1, (ax.length : Int), fi, 16, nx i l.length (16 + 16 * (ax.length : Int))] : List Int).zip [2, 2, 4, 4, 4] = prs 2 [1, (ax.length : Int)] ++ prs 4 [fi, 16, nx i l.length (16 + 16 * (ax.length : Int))] := rfl
    rw [hz]
    have hH : rowB big (prs 2 [1, (ax.length : Int)] ++ prs 4 [fi, 16, nx i l.length (16 + 16 * (ax.length : Int))]) = needH big l.length i fi ax.length := rfl
    have hHl := needH_le big l.length i fi ax.length
    rw [← hH] at hHl
    have hC3 : C ++ rowB big (prs 2 [1, (ax.length : Int)] ++ prs 4 [fi, 16, nx i l.length (16 + 16 * (ax.length : Int))]) = C ++ needH big l.length i fi ax.length := by rw [hH]
    refine W1 (And.intro @e0 (And.intro @e1 (And.intro @e6 @e7))) @DD trivial ?_
    generalize rowB big (prs 2 [1, (ax.length : Int)] ++ prs 4 [fi, 16, nx i l.length (16 + 16 * (ax.length : Int))]) = H at *
    have hC3l : (C ++ H).length ≤ C.length + 56 := by rw [List.length_append]; omega
    have hC3e : C.length + H.length = (C ++ H).length := List.length_append.symm
    generalize C ++ H = C3 at *
    refine ghW (Gh.sel [0] (by decide) (hz0 hZ)) ?_
    have hfl : ∀ k, (idxB (auxR big ax.length) 0 (ax.take k)).length ≤ 4000 := fun k => by
      have := idxB_le (f := auxR big ax.length) (m := 40) (ax.take k) 0 (fun i x _ => by have := rowB_le big (prs 4 [x.1] ++ prs 2 [x.2.1, x.2.2.1] ++ prs 4 [x.2.2.2.1, nx i ax.length 16]); simpa [prs, auxR] using this)
      rw [List.length_take] at this
      omega
    refine w_lpG (fun q e s => ∃ k : Nat, q + k = ax.length ∧ s = [.arr (.int .u8) (C3 ++ idxB (auxR big ax.length) 0 (ax.take k))] ∧ e 0 = .sl dNeed l ∧ e 1 = .bool big ∧ e 6 = .osl 0 (C3.length + (idxB (auxR big ax.length) 0 (ax.take k)).length) ∧ e 7 = .int .i64 i ∧ e 8 = .int .i64 ax.length ∧ e 11 = .int .i64 k) ax.length ?_ ?_
    · exact ⟨0, rfl, by simp only [List.take_zero, idxB, List.append_nil]; rfl, by exact lk @e0, by exact lk @e1, by rw [← hC3e]; exact lk trivial, by exact lk @e7, by exact lk trivial, by exact lk trivial⟩
    rintro q3 e s ⟨k, hk, rfl, e0, e1, e6, e7, e8, e11⟩
    have hfk := hfl k
    by_cases hkq : k < ax.length
    · obtain ⟨x, hxk⟩ : ∃ x, ax[k]? = some x := ⟨_, List.getElem?_eq_getElem hkq⟩
      have hxm := hax x (List.mem_of_getElem? hxk)
      have hst := idxB_take (f := auxR big ax.length) hxk
      have hnk := nx_ok (i := k) (many := ax.length) (size := 16) (by omega)
      have hau : auxR big ax.length k x = rowB big (prs 4 [x.1] ++ prs 2 [x.2.1, x.2.2.1] ++ prs 4 [x.2.2.2.1, nx k ax.length 16]) := rfl
      have hr4 := rowB_le big (prs 4 [x.1] ++ prs 2 [x.2.1, x.2.2.1] ++ prs 4 [x.2.2.2.1, nx k ax.length 16])
      have hr5 : (prs 4 [x.1] ++ prs 2 [x.2.1, x.2.2.1] ++ prs 4 [x.2.2.2.1, nx k ax.length 16]).length = 5 := rfl
      obtain ⟨ha, fl, ot, na, u2⟩ := x
      obtain ⟨⟨b0, b1⟩, ⟨c0, c1⟩, ⟨d0, d1⟩, ⟨f0, f1⟩⟩ : AuxN ha fl ot na := hxm
      have hau : auxR big ax.length k (ha, fl, ot, na, u2) = rowB big (prs 4 [ha] ++ prs 2 [fl, ot] ++ prs 4 [na, nx k ax.length 16]) := hau
      have hr4 : (rowB big (prs 4 [ha] ++ prs 2 [fl, ot] ++ prs 4 [na, nx k ax.length 16])).length ≤ 8 * 5 := hr4
      generalize idxB (auxR big ax.length) 0 (ax.take k) = M at *
      refine W1 (And.intro @e0 (And.intro @e1 (And.intro @e6 (And.intro @e7 (And.intro @e8 @e11))))) @DD @rstep_spec ?_
      refine row_spec (l := [ha, fl, ot, na, nx k ax.length 16]) (ns := [4, 2, 2, 4, 4]) ⟨?_⟩ ⟨by decide⟩ ⟨Nat.le_refl 5⟩ ⟨show 5 ≤ 1000 by decide⟩ ?_
      · simp only [List.forall_mem_cons, U64]
        exact ⟨⟨by omega, by omega⟩, ⟨by omega, by omega⟩, ⟨by omega, by omega⟩, ⟨by omega, by omega⟩, ⟨by omega, by omega⟩, fun _ h => by cases h⟩
      have hz2 : ([ha, fl, ot, na, nx k ax.length 16] : List Int).zip [4, 2, 2, 4, 4] = prs 4 [ha] ++ prs 2 [fl, ot] ++ prs 4 [na, nx k ax.length 16] := rfl
      rw [hz2]
      refine W1 (And.intro @e0 (And.intro @e1 (And.intro @e6 (And.intro @e7 (And.intro @e8 @e11))))) @DD trivial ?_
      refine ⟨q3 - 1, by omega, _, _, Gh.sel [0] (by decide) (hz0 hZ), k + 1, by omega, by rw [hst, hau, ← List.append_assoc]; rfl, by exact lk @e0, by exact lk @e1, ?_, by exact lk @e7, by exact lk @e8, by exact lk @e11⟩
      rw [hst, hau]
      simp only [List.length_append, ← Nat.add_assoc]
      exact lk @e6
    obtain rfl : k = ax.length := by omega
    rw [List.take_length] at *
    refine W1 (And.intro @e0 (And.intro @e1 (And.intro @e6 (And.intro @e7 (And.intro @e8 @e11))))) @DD trivial ?_
    have er : idxB (needB big l.length) 0 (l.take (i + 1)) = C3 ++ idxB (auxR big ax.length) 0 ax := by
      rw [hsx, hC3]
      unfold needB
      rw [List.append_assoc]
      rfl
    refine ⟨q - 1, by omega, _, _, Gh.sel [0] (by decide) (hz0 hZ), i + 1, by omega, hal, by rw [er]; rfl, by exact lk @e0, by exact lk @e1, ?_, by exact lk @e7⟩
    rw [er, List.length_append]
    exact lk @e6
  · obtain rfl : i = l.length := by omega
    rw [List.take_length] at *
    have := hk1 hall
    refine W1 (And.intro @e0 (And.intro @e1 (And.intro @e6 @e7))) @DD trivial ?_
    exact this
end Go.Proofs.Ytoieblaagkbncaa.PvW
