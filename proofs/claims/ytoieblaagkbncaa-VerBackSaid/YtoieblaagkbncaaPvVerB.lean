/- What ver's functions that put definitions yield. No statement of the set is proved in this text. -/
import Derived.Test.YtoieblaagkbncaaPvVer
namespace Go.Proofs.Ytoieblaagkbncaa.PvW
open Go.RowKit Go.Proofs.Ytoieblaagkbncaa.Cd Go.Proofs.Ytoieblaagkbncaa.AbP Go.Proofs.Ytoieblaagkbncaa.Num Go.Proofs.Ytoieblaagkbncaa.Pv
set_option maxRecDepth 100000
set_option maxHeartbeats 4000000
set_option linter.unusedVariables false
set_option linter.unusedSimpArgs false
variable {K : PV → List OB → Prop}
/-- may definitions be? -/
def defsOk (l : List dDef.T) : Bool := l.all fun d => decide (0 < d.2.2.2.1.length)
def needsOk (l : List dNeed.T) : Bool := l.all fun d => decide (0 < d.2.1.length)
theorem all_take {α : Type} {p : α → Bool} {l : List α} {i : Nat} {x : α} (hx : l[i]? = some x) (h : (l.take i).all p = true) (hp : p x = true) : (l.take (i + 1)).all p = true := by
  rw [take_snocD hx, List.all_append, h]
  simp [hp]
theorem all_no {α : Type} {p : α → Bool} {l : List α} {i : Nat} {x : α} (hx : l[i]? = some x) (hp : p x = false) : l.all p = false := by
  rw [List.all_eq_false]
  exact ⟨x, List.mem_of_getElem? hx, by simp [hp]⟩
theorem vputDefs_spec {big : Bool} {l : List dDef.T} (hl : Om (l.length ≤ 40)) (hN : Am (DefsN l))
    (hk1 : defsOk l = true → K (.tup [.osl 0 (defsB big l).length, .nilI]) [.arr (.int .u8) (defsB big l)]) (hk2 : defsOk l = false → K (.tup [.nilS, eCode 1]) []) :
    PCalls Try.prog 8 [.sl dDef l, .bool big] [] K := by
  have hl := hl.o
  have hN := hN.o
  refine told_callP ver_PutDefs.told fun Z hZ => ?_
  unfold ver_PutDefs.c
  refine W1 trivial trivial (@xVirtV 0 0 (.int .u8)) ?_
  refine w_lpG (fun q e s => ∃ i : Nat, q + i = l.length ∧ (l.take i).all (fun d => decide (0 < d.2.2.2.1.length)) = true ∧ s = [.var [.osl 1 (idxB (defB big l.length) 0 (l.take i)).length, .bool big], .arr (.int .u8) (idxB (defB big l.length) 0 (l.take i))] ∧ e 0 = .sl dDef l ∧ e 6 = .ptr 0 0 ∧ e 17 = .sl dDef l ∧ e 18 = .int .i64 l.length ∧ e 19 = .int .i64 i) l.length ?_ ?_
  · exact ⟨0, rfl, rfl, rfl, by exact lk trivial, by exact lk trivial, by exact lk trivial, by exact lk trivial, by exact lk trivial⟩
  rintro q e s ⟨i, hi, hall, rfl, e0, e6, e17, e18, e19⟩
  by_cases hq : i < l.length
  · obtain ⟨x, hx⟩ : ∃ x, l[i]? = some x := ⟨l[i], List.getElem?_eq_getElem hq⟩
    have hNx := hN x (List.mem_of_getElem? hx)
    have hlb := defsB_le (big := big) (m := l.length) (k := 0) (l := l.take i) (fun y hy => hN y (List.mem_of_mem_take hy))
    rw [List.length_take, Nat.min_eq_left (by omega)] at hlb
    have hsx := idxB_take (f := defB big l.length) hx
    have hal := fun h => all_take (p := fun d : dDef.T => decide (0 < d.2.2.2.1.length)) hx hall h
    have han : decide (0 < x.2.2.2.1.length) = false → defsOk l = false := fun h => all_no hx h
    generalize idxB (defB big l.length) 0 (l.take i) = C at *
    obtain ⟨fl, nd, ha, na, u⟩ := x
    obtain ⟨⟨a0, a1⟩, ⟨b0, b1⟩, ⟨c0, c1⟩, hna, hnl⟩ : DefN fl nd ha na := hNx
    by_cases h0 : (na.length : Int) < 1
    · have := hk2 (han (decide_eq_false (by show ¬ 0 < na.length; omega)))
      refine W1 (And.intro @e0 (And.intro @e6 (And.intro @e17 (And.intro @e18 @e19)))) @DD trivial ?_
      exact this
    have hal := hal (decide_eq_true (by show 0 < na.length; omega))
    refine W1 (And.intro @e0 (And.intro @e6 (And.intro @e17 (And.intro @e18 @e19)))) @DD trivial ?_
    apply x_arr 3 (.int .u64); (repeat any_goals first | exact mp_z | apply mp_s | exact rs_z | apply rs_t | apply rs_n | apply rs_c); (repeat any_goals first | (apply Lk.i; (simp only [↓LL, ↓reduceIte, Nat.reduceEqDiff]; (try rfl); done)) | (apply Rf.i; first | rfl | assumption) | (apply Vl.i; ((try simp (disch := omega) only [VV, ↓reduceIte, peqI, encP]); (try rfl); done)) | (apply Am.i; assumption) | (apply Pu.i; ((try simp only [↓reduceIte, UU, RR, Nat.reduceAdd, Nat.reduceEqDiff, cellsP, putP, fillQ, flatQ, shP, sh1, encP]); (try rfl); done)) | (apply Om.i; ((try simp only [MM]); (try omega); done)) | (apply Vw.i; first | exact As.sl _ _ | exact As.nil _ | exact As.arr _ _ _ _ rfl (by ((try simp only [MM]); (try omega); done)) | exact As.row _ _ _ _ _ rfl rfl | exact Src.str _ | exact Src.as (As.sl _ _) | exact Src.as (As.nil _) | exact Src.as (As.arr _ _ _ _ rfl (by ((try simp only [MM]); (try omega); done))) | exact Src.as (As.row _ _ _ _ _ rfl rfl))); (all_goals fail_if_success apply Mk.i)
    refine w_lpG (fun q e s => ∃ k : Nat, q + k = 4 ∧ s = [.var [.osl 1 (C ++ rowB big (prs 2 (([1, fl, nd, (na.length : Int)] : List Int).take k))).length, .bool big], .arr (.int .u8) (C ++ rowB big (prs 2 (([1, fl, nd, (na.length : Int)] : List Int).take k))), .var [.int .u16 fl, .int .u16 nd, .int .u32 ha, .sl (.int .u32) na], .arr (.int .u64) [1, fl, nd, (na.length : Int)]] ∧ e 0 = .sl dDef l ∧ e 6 = .ptr 0 0 ∧ e 7 = .int .i64 i ∧ e 8 = .ptr 2 0 ∧ e 9 = .int .i64 na.length ∧ e 17 = .sl dDef l ∧ e 18 = .int .i64 l.length ∧ e 19 = .int .i64 i ∧ e 42 = .osl 3 4 ∧ e 43 = .int .i64 4 ∧ e 44 = .int .i64 k) 4 ?_ ?_
    · exact ⟨0, rfl, by simp [rowB, prs], by exact lk @e0, by exact lk @e6, by exact lk trivial, by exact lk trivial, by exact lk trivial, by exact lk @e17, by exact lk @e18, by exact lk @e19, by exact lk trivial, by exact lk trivial, by exact lk trivial⟩
    rintro q2 e s ⟨k, hk, rfl, e0, e6, e7, e8, e9, e17, e18, e19, e42, e43, e44⟩
    have hr1 := rowB_le big (prs 2 (([1, fl, nd, (na.length : Int)] : List Int).take k))
    have hr2 : (prs 2 (([1, fl, nd, (na.length : Int)] : List Int).take k)).length ≤ 4 := by simp [prs]; omega
    by_cases hkq : k < 4
    · have hrt := prs_take (n := 2) (l := [1, fl, nd, (na.length : Int)]) (i := k) hkq
      have hU : 0 ≤ ([1, fl, nd, (na.length : Int)] : List Int).getD k 0 ∧ ([1, fl, nd, (na.length : Int)] : List Int).getD k 0 ≤ 65535 := by
        have hc : k = 0 ∨ k = 1 ∨ k = 2 ∨ k = 3 := by omega
        rcases hc with rfl | rfl | rfl | rfl
        · exact ⟨show (0 : Int) ≤ 1 by decide, show (1 : Int) ≤ 65535 by decide⟩
        · exact ⟨a0, a1⟩
        · exact ⟨b0, b1⟩
        · exact ⟨by show (0 : Int) ≤ (na.length : Int); omega, by show (na.length : Int) ≤ 65535; omega⟩
      refine W1 (And.intro @e0 (And.intro @e6 (And.intro @e7 (And.intro @e8 (And.intro @e9 (And.intro @e17 (And.intro @e18 (And.intro @e19 (And.intro @e42 (And.intro @e43 @e44)))))))))) @DD (And.intro (@caS [0, 1]) @vput_spec) ?_
      have er : rowB big (prs 2 (([1, fl, nd, (na.length : Int)] : List Int).take (k + 1))) = rowB big (prs 2 (([1, fl, nd, (na.length : Int)] : List Int).take k)) ++ putSpec (([1, fl, nd, (na.length : Int)] : List Int).getD k 0) 2 big := by rw [hrt, rowB_app]; simp [rowB]
      exact ⟨q2 - 1, by omega, _, _, Gh.sel [0, 1, 2, 3] (by decide) (hz0 hZ), k + 1, by omega, by rw [er, ← List.append_assoc]; rfl, by exact lk @e0, by exact lk @e6, by exact lk @e7, by exact lk @e8, by exact lk @e9, by exact lk @e17, by exact lk @e18, by exact lk @e19, by exact lk @e42, by exact lk @e43, by exact lk @e44⟩
    obtain rfl : k = 4 := by omega
    have hC2l : (C ++ rowB big (prs 2 (([1, fl, nd, (na.length : Int)] : List Int).take 4))).length ≤ C.length + 32 := by rw [List.length_append]; omega
    have hC2 : C ++ rowB big (prs 2 (([1, fl, nd, (na.length : Int)] : List Int).take 4)) = C ++ rowB big (prs 2 [1, fl, nd, (na.length : Int)]) := rfl
    generalize C ++ rowB big (prs 2 (([1, fl, nd, (na.length : Int)] : List Int).take 4)) = C2 at *
    have hnx := nx_ok (i := i) (many := l.length) (size := 20 + 8 * (na.length : Int)) (by omega)
    have hp1 := putSpec_le ha 4 big
    have hp2 := putSpec_le 20 4 big
    have hp3 := putSpec_le (nx i l.length (20 + 8 * (na.length : Int))) 4 big
    refine W1 (And.intro @e0 (And.intro @e6 (And.intro @e7 (And.intro @e8 (And.intro @e9 (And.intro @e17 (And.intro @e18 (And.intro @e19 (And.intro @e42 (And.intro @e43 @e44)))))))))) @DD (And.intro (@caS [0, 1]) (And.intro @vput_spec @vnext_spec)) ?_
    have hC3 : C2 ++ putSpec ha 4 big ++ putSpec 20 4 big ++ putSpec (nx i l.length (20 + 8 * (na.length : Int))) 4 big = C ++ defH big l.length i fl nd ha na.length := by
      rw [hC2]
      simp only [defH, rowB, prs, List.map_cons, List.map_nil, List.flatMap_append, List.flatMap_cons, List.flatMap_nil, List.append_assoc, List.append_nil]
    have hC3l : (C2 ++ putSpec ha 4 big ++ putSpec 20 4 big ++ putSpec (nx i l.length (20 + 8 * (na.length : Int))) 4 big).length ≤ C.length + 56 := by
      simp only [List.length_append]
      omega
    generalize C2 ++ putSpec ha 4 big ++ putSpec 20 4 big ++ putSpec (nx i l.length (20 + 8 * (na.length : Int))) 4 big = C3 at *
    have hfl : ∀ k, (idxB (fun (k : Nat) (x : Int) => rowB big (prs 4 [x, nx k na.length 8])) 0 (na.take k)).length ≤ 1600 := fun k => by
      have := idxB_le (f := fun (k : Nat) (x : Int) => rowB big (prs 4 [x, nx k na.length 8])) (m := 16) (na.take k) 0 (fun i x _ => by have := rowB_le big (prs 4 [x, nx i na.length 8]); simpa [prs] using this)
      rw [List.length_take] at this
      omega
    refine w_lpG (fun q e s => ∃ k : Nat, q + k = na.length ∧ s = [.var [.osl 1 (C3 ++ idxB (fun (k : Nat) (x : Int) => rowB big (prs 4 [x, nx k na.length 8])) 0 (na.take k)).length, .bool big], .arr (.int .u8) (C3 ++ idxB (fun (k : Nat) (x : Int) => rowB big (prs 4 [x, nx k na.length 8])) 0 (na.take k)), .var [.int .u16 fl, .int .u16 nd, .int .u32 ha, .sl (.int .u32) na], .arr (.int .u64) [1, fl, nd, (na.length : Int)]] ∧ e 0 = .sl dDef l ∧ e 6 = .ptr 0 0 ∧ e 9 = .int .i64 na.length ∧ e 17 = .sl dDef l ∧ e 18 = .int .i64 l.length ∧ e 19 = .int .i64 i ∧ e 69 = .sl (.int .u32) na ∧ e 70 = .int .i64 na.length ∧ e 71 = .int .i64 k) na.length ?_ ?_
    · exact ⟨0, rfl, by simp only [List.take_zero, idxB, List.append_nil], by exact lk @e0, by exact lk @e6, by exact lk @e9, by exact lk @e17, by exact lk @e18, by exact lk @e19, by exact lk trivial, by exact lk trivial, by exact lk trivial⟩
    rintro q3 e s ⟨k, hk, rfl, e0, e6, e9, e17, e18, e19, e69, e70, e71⟩
    have hfk := hfl k
    by_cases hkq : k < na.length
    · obtain ⟨x, hx⟩ : ∃ x, na[k]? = some x := ⟨_, List.getElem?_eq_getElem hkq⟩
      obtain ⟨x0, x1⟩ := hna x (List.mem_of_getElem? hx)
      have hgx : na.getD k 0 = x := by rw [List.getD_eq_getElem?_getD, hx]; rfl
      have hst := idxB_take (f := fun (k : Nat) (x : Int) => rowB big (prs 4 [x, nx k na.length 8])) hx
      have hnk := nx_ok (i := k) (many := na.length) (size := 8) (by omega)
      have hp4 := putSpec_le x 4 big
      generalize idxB (fun (k : Nat) (x : Int) => rowB big (prs 4 [x, nx k na.length 8])) 0 (na.take k) = M at *
      refine W1 (And.intro @e0 (And.intro @e6 (And.intro @e9 (And.intro @e17 (And.intro @e18 (And.intro @e19 (And.intro @e69 (And.intro @e70 @e71)))))))) (And.intro @DD @hgx) (And.intro (@caS [0, 1]) (And.intro @vput_spec @vnext_spec)) ?_
      have er : C3 ++ idxB (fun (k : Nat) (x : Int) => rowB big (prs 4 [x, nx k na.length 8])) 0 (na.take (k + 1)) = C3 ++ M ++ putSpec x 4 big ++ putSpec (nx k na.length 8) 4 big := by
        rw [hst]
        simp only [rowB, prs, List.map_cons, List.map_nil, List.flatMap_cons, List.flatMap_nil, List.append_assoc, List.append_nil]
      exact ⟨q3 - 1, by omega, _, _, Gh.sel [0, 1, 2, 3] (by decide) (hz0 hZ), k + 1, by omega, by rw [er]; rfl, by exact lk @e0, by exact lk @e6, by exact lk @e9, by exact lk @e17, by exact lk @e18, by exact lk @e19, by exact lk @e69, by exact lk @e70, by exact lk @e71⟩
    obtain rfl : k = na.length := by omega
    rw [List.take_length] at *
    refine W1 (And.intro @e0 (And.intro @e6 (And.intro @e9 (And.intro @e17 (And.intro @e18 (And.intro @e19 (And.intro @e69 (And.intro @e70 @e71)))))))) @DD trivial ?_
    have er : idxB (defB big l.length) 0 (l.take (i + 1)) = C3 ++ idxB (fun (k : Nat) (x : Int) => rowB big (prs 4 [x, nx k na.length 8])) 0 na := by
      rw [hsx, hC3]
      unfold defB
      rw [List.append_assoc]
      rfl
    exact ⟨q - 1, by omega, _, _, Gh.sel [0, 1] (by decide) (hz0 hZ), i + 1, by omega, hal, by rw [er]; rfl, by exact lk @e0, by exact lk @e6, by exact lk @e17, by exact lk @e18, by exact lk @e19⟩
  · obtain rfl : i = l.length := by omega
    rw [List.take_length] at *
    have := hk1 hall
    refine W1 (And.intro @e0 (And.intro @e6 (And.intro @e17 (And.intro @e18 @e19)))) @DD trivial ?_
    exact this
end Go.Proofs.Ytoieblaagkbncaa.PvW
