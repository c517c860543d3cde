/- What the document's answers for versions' bytes yield. No statement of the set is proved in this text. -/
import Derived.Test.YtoieblaagkbncaaPvVerB
import Derived.Test.YtoieblaagkbncaaPvPg
namespace Go.Proofs.Ytoieblaagkbncaa.PvW
open Go.RowKit Go.Proofs.Ytoieblaagkbncaa.Cd Go.Proofs.Ytoieblaagkbncaa.AbP Go.Proofs.Ytoieblaagkbncaa.Num Go.Proofs.Ytoieblaagkbncaa.Pv
set_option maxRecDepth 100000
set_option maxHeartbeats 4000000
set_option linter.unusedVariables false
set_option linter.unusedSimpArgs false
variable {K : PV → List OB → Prop}
theorem rputDefs_spec {big : Bool} {l : List dDef.T} (hl : Om (l.length ≤ 40)) (hN : Am (DefsN l))
    (hk1 : defsOk l = true → K (.tup [.osl 0 (defsB big l).length, .bool true]) [.arr (.int .u8) (defsB big l)]) (hk2 : defsOk l = false → K (.tup [.nilS, .bool false]) []) :
    PCalls Try.prog 9 [.sl dDef l, .bool big] [] K := by
  have hl := hl.o
  have hN := hN.o
  refine told_callP bezantref12_PutDefs.told fun Z hZ => ?_
  unfold bezantref12_PutDefs.c
  refine W1 trivial trivial (@xVirt 6 (.int .u8)) ?_
  refine w_lpG (fun q e s => ∃ i : Nat, q + i = l.length ∧ (l.take i).all (fun d => decide (0 < d.2.2.2.1.length)) = true ∧ s = [.arr (.int .u8) (idxB (defB big l.length) 0 (l.take i))] ∧ e 0 = .sl dDef l ∧ e 1 = .bool big ∧ e 6 = .osl 0 (idxB (defB big l.length) 0 (l.take i)).length ∧ e 7 = .int .i64 i) l.length ?_ ?_
  · exact ⟨0, rfl, rfl, rfl, by exact lk trivial, by exact lk trivial, by exact lk trivial, by exact lk trivial⟩
  rintro q e s ⟨i, hi, hall, rfl, e0, e1, e6, e7⟩
  by_cases hq : i < l.length
  · obtain ⟨x, hx⟩ : ∃ x, l[i]? = some x := ⟨l[i], List.getElem?_eq_getElem hq⟩
    have hNx := hN x (List.mem_of_getElem? hx)
    have hlb := defsB_le (big := big) (m := l.length) (k := 0) (l := l.take i) (fun y hy => hN y (List.mem_of_mem_take hy))
    rw [List.length_take, Nat.min_eq_left (by omega)] at hlb
    have hsx := idxB_take (f := defB big l.length) hx
    have hal := fun h => all_take (p := fun d : dDef.T => decide (0 < d.2.2.2.1.length)) hx hall h
    have han : decide (0 < x.2.2.2.1.length) = false → defsOk l = false := fun h => all_no hx h
    generalize idxB (defB big l.length) 0 (l.take i) = C at *
    obtain ⟨fl, nd, ha, na, u⟩ := x
    obtain ⟨⟨a0, a1⟩, ⟨b0, b1⟩, ⟨c0, c1⟩, hna, hnl⟩ : DefN fl nd ha na := hNx
    by_cases h0 : (na.length : Int) < 1
    · have := hk2 (han (decide_eq_false (by show ¬ 0 < na.length; omega)))
      refine W1 (And.intro @e0 (And.intro @e1 (And.intro @e6 @e7))) @DD trivial ?_
      exact this
    have hal := hal (decide_eq_true (by show 0 < na.length; omega))
    have hnx := nx_ok (i := i) (many := l.length) (size := 20 + 8 * (na.length : Int)) (by omega)
    refine W1 (And.intro @e0 (And.intro @e1 (And.intro @e6 @e7))) @DD @rstep_spec ?_
    refine row_spec (l := [1, fl, nd, (na.length : Int), ha, 20, nx i l.length (20 + 8 * (na.length : Int))]) (ns := [2, 2, 2, 2, 4, 4, 4]) ⟨?_⟩ ⟨by decide⟩ ⟨Nat.le_refl 7⟩ ⟨show 7 ≤ 1000 by decide⟩ ?_
    · simp only [List.forall_mem_cons, U64]
      exact ⟨⟨by omega, by omega⟩, ⟨by omega, by omega⟩, ⟨by omega, by omega⟩, ⟨by omega, by omega⟩, ⟨by omega, by omega⟩, ⟨by omega, by omega⟩, ⟨by omega, by omega⟩, fun _ h => by cases h⟩
    have hz : ([1, fl, nd, (na.length : Int), ha, 20, nx i l.length (20 + 8 * (na.length : Int))] : List Int).zip [2, 2, 2, 2, 4, 4, 4] = prs 2 [1, fl, nd, na.length] ++ prs 4 [ha, 20, nx i l.length (20 + 8 * (na.length : Int))] := rfl
    rw [hz]
    have hH : rowB big (prs 2 [1, fl, nd, na.length] ++ prs 4 [ha, 20, nx i l.length (20 + 8 * (na.length : Int))]) = defH big l.length i fl nd ha na.length := rfl
    have hHl := defH_le big l.length i fl nd ha na.length
    rw [← hH] at hHl
    have hC3 : C ++ rowB big (prs 2 [1, fl, nd, na.length] ++ prs 4 [ha, 20, nx i l.length (20 + 8 * (na.length : Int))]) = C ++ defH big l.length i fl nd ha na.length := by rw [hH]
    refine W1 (And.intro @e0 (And.intro @e1 (And.intro @e6 @e7))) @DD trivial ?_
    generalize rowB big (prs 2 [1, fl, nd, na.length] ++ prs 4 [ha, 20, nx i l.length (20 + 8 * (na.length : Int))]) = H at *
    have hC3l : (C ++ H).length ≤ C.length + 56 := by rw [List.length_append]; omega
    have hC3e : C.length + H.length = (C ++ H).length := List.length_append.symm
    generalize C ++ H = C3 at *
    refine ghW (Gh.sel [0] (by decide) (hz0 hZ)) ?_
    have hfl : ∀ k, (idxB (fun (k : Nat) (x : Int) => rowB big (prs 4 [x, nx k na.length 8])) 0 (na.take k)).length ≤ 1600 := fun k => by
      have := idxB_le (f := fun (k : Nat) (x : Int) => rowB big (prs 4 [x, nx k na.length 8])) (m := 16) (na.take k) 0 (fun i x _ => by have := rowB_le big (prs 4 [x, nx i na.length 8]); simpa [prs] using this)
      rw [List.length_take] at this
      omega
    refine w_lpG (fun q e s => ∃ k : Nat, q + k = na.length ∧ s = [.arr (.int .u8) (C3 ++ idxB (fun (k : Nat) (x : Int) => rowB big (prs 4 [x, nx k na.length 8])) 0 (na.take k))] ∧ e 0 = .sl dDef l ∧ e 1 = .bool big ∧ e 6 = .osl 0 (C3.length + (idxB (fun (k : Nat) (x : Int) => rowB big (prs 4 [x, nx k na.length 8])) 0 (na.take k)).length) ∧ e 7 = .int .i64 i ∧ e 8 = .int .i64 na.length ∧ e 11 = .int .i64 k) na.length ?_ ?_
    · exact ⟨0, rfl, by simp only [List.take_zero, idxB, List.append_nil]; rfl, by exact lk @e0, by exact lk @e1, by rw [← hC3e]; exact lk trivial, by exact lk @e7, by exact lk trivial, by exact lk trivial⟩
    rintro q3 e s ⟨k, hk, rfl, e0, e1, e6, e7, e8, e11⟩
    have hfk := hfl k
    by_cases hkq : k < na.length
    · obtain ⟨x, hxk⟩ : ∃ x, na[k]? = some x := ⟨_, List.getElem?_eq_getElem hkq⟩
      obtain ⟨x0, x1⟩ := hna x (List.mem_of_getElem? hxk)
      have hgx : na.getD k 0 = x := by rw [List.getD_eq_getElem?_getD, hxk]; rfl
      have hst := idxB_take (f := fun (k : Nat) (x : Int) => rowB big (prs 4 [x, nx k na.length 8])) hxk
      have hnk := nx_ok (i := k) (many := na.length) (size := 8) (by omega)
      have hr4 := rowB_le big (prs 4 [x, nx k na.length 8])
      have hr5 : (prs 4 [x, nx k na.length 8]).length = 2 := rfl
      generalize idxB (fun (k : Nat) (x : Int) => rowB big (prs 4 [x, nx k na.length 8])) 0 (na.take k) = M at *
      refine W1 (And.intro @e0 (And.intro @e1 (And.intro @e6 (And.intro @e7 (And.intro @e8 @e11))))) (And.intro @DD @hgx) @rstep_spec ?_
      refine row_spec (l := [x, nx k na.length 8]) (ns := [4, 4]) ⟨?_⟩ ⟨by decide⟩ ⟨Nat.le_refl 2⟩ ⟨show 2 ≤ 1000 by decide⟩ ?_
      · simp only [List.forall_mem_cons, U64]
        exact ⟨⟨by omega, by omega⟩, ⟨by omega, by omega⟩, fun _ h => by cases h⟩
      have hz2 : ([x, nx k na.length 8] : List Int).zip [4, 4] = prs 4 [x, nx k na.length 8] := rfl
      rw [hz2]
      refine W1 (And.intro @e0 (And.intro @e1 (And.intro @e6 (And.intro @e7 (And.intro @e8 @e11))))) @DD trivial ?_
      refine ⟨q3 - 1, by omega, _, _, Gh.sel [0] (by decide) (hz0 hZ), k + 1, by omega, by rw [hst, ← List.append_assoc]; rfl, by exact lk @e0, by exact lk @e1, ?_, by exact lk @e7, by exact lk @e8, by exact lk @e11⟩
      rw [hst]
      simp only [List.length_append, ← Nat.add_assoc]
      exact lk @e6
    obtain rfl : k = na.length := by omega
    rw [List.take_length] at *
    refine W1 (And.intro @e0 (And.intro @e1 (And.intro @e6 (And.intro @e7 (And.intro @e8 @e11))))) @DD trivial ?_
    have er : idxB (defB big l.length) 0 (l.take (i + 1)) = C3 ++ idxB (fun (k : Nat) (x : Int) => rowB big (prs 4 [x, nx k na.length 8])) 0 na := by
      rw [hsx, hC3]
      unfold defB
      rw [List.append_assoc]
      rfl
    refine ⟨q - 1, by omega, _, _, Gh.sel [0] (by decide) (hz0 hZ), i + 1, by omega, hal, by rw [er]; rfl, by exact lk @e0, by exact lk @e1, ?_, by exact lk @e7⟩
    rw [er, List.length_append]
    exact lk @e6
  · obtain rfl : i = l.length := by omega
    rw [List.take_length] at *
    have := hk1 hall
    refine W1 (And.intro @e0 (And.intro @e1 (And.intro @e6 @e7))) @DD trivial ?_
    exact this
end Go.Proofs.Ytoieblaagkbncaa.PvW
