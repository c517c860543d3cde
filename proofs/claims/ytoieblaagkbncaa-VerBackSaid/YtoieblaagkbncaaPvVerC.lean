/- What ver's functions that put needs yield. No statement of the set is proved in this text. -/
import Derived.Test.YtoieblaagkbncaaPvVerB
namespace Go.Proofs.Ytoieblaagkbncaa.PvW
open Go.RowKit Go.Proofs.Ytoieblaagkbncaa.Cd Go.Proofs.Ytoieblaagkbncaa.AbP Go.Proofs.Ytoieblaagkbncaa.Num Go.Proofs.Ytoieblaagkbncaa.Pv
set_option maxRecDepth 100000
set_option maxHeartbeats 4000000
set_option linter.unusedVariables false
set_option linter.unusedSimpArgs false
variable {K : PV → List OB → Prop}
theorem vputNeeds_spec {big : Bool} {l : List dNeed.T} (hl : Om (l.length ≤ 40)) (hN : Am (NeedsN l))
    (hk1 : needsOk l = true → K (.tup [.osl 0 (needsB big l).length, .nilI]) [.arr (.int .u8) (needsB big l)]) (hk2 : needsOk l = false → K (.tup [.nilS, eCode 1]) []) :
    PCalls Try.prog 10 [.sl dNeed l, .bool big] [] K := by
  have hl := hl.o
  have hN := hN.o
  refine told_callP ver_PutNeeds.told fun Z hZ => ?_
  unfold ver_PutNeeds.c
  refine W1 trivial trivial (@xVirtV 0 0 (.int .u8)) ?_
  refine w_lpG (fun q e s => ∃ i : Nat, q + i = l.length ∧ (l.take i).all (fun d => decide (0 < d.2.1.length)) = true ∧ s = [.var [.osl 1 (idxB (needB big l.length) 0 (l.take i)).length, .bool big], .arr (.int .u8) (idxB (needB big l.length) 0 (l.take i))] ∧ e 0 = .sl dNeed l ∧ e 6 = .ptr 0 0 ∧ e 15 = .sl dNeed l ∧ e 16 = .int .i64 l.length ∧ e 17 = .int .i64 i) l.length ?_ ?_
  · exact ⟨0, rfl, rfl, rfl, by exact lk trivial, by exact lk trivial, by exact lk trivial, by exact lk trivial, by exact lk trivial⟩
  rintro q e s ⟨i, hi, hall, rfl, e0, e6, e17, e18, e19⟩
  by_cases hq : i < l.length
  · obtain ⟨x, hx⟩ : ∃ x, l[i]? = some x := ⟨l[i], List.getElem?_eq_getElem hq⟩
    have hNx := hN x (List.mem_of_getElem? hx)
    have hlb := needsB_le (big := big) (m := l.length) (k := 0) (l := l.take i) (fun y hy => hN y (List.mem_of_mem_take hy))
    rw [List.length_take, Nat.min_eq_left (by omega)] at hlb
    have hsx := idxB_take (f := needB big l.length) hx
    have hal := fun h => all_take (p := fun d : dNeed.T => decide (0 < d.2.1.length)) hx hall h
    have han : decide (0 < x.2.1.length) = false → needsOk l = false := fun h => all_no hx h
    generalize idxB (needB big l.length) 0 (l.take i) = C at *
    obtain ⟨fi, ax, u⟩ := x
    obtain ⟨⟨a0, a1⟩, hax, hnl⟩ : NeedN fi ax := hNx
    by_cases h0 : (ax.length : Int) < 1
    · have := hk2 (han (decide_eq_false (by show ¬ 0 < ax.length; omega)))
      refine W1 (And.intro @e0 (And.intro @e6 (And.intro @e17 (And.intro @e18 @e19)))) @DD trivial ?_
      exact this
    have hal := hal (decide_eq_true (by show 0 < ax.length; omega))
    have hnx := nx_ok (i := i) (many := l.length) (size := 16 + 16 * (ax.length : Int)) (by omega)
    have hp0 := putSpec_le 1 2 big
    have hp1 := putSpec_le (ax.length : Int) 2 big
    have hp2 := putSpec_le fi 4 big
    have hp3 := putSpec_le 16 4 big
    have hp4 := putSpec_le (nx i l.length (16 + 16 * (ax.length : Int))) 4 big
    refine W1 (And.intro @e0 (And.intro @e6 (And.intro @e17 (And.intro @e18 @e19)))) @DD (And.intro (@caS [0, 1]) (And.intro @vput_spec @vnext_spec)) ?_
    have hC3 : C ++ putSpec 1 2 big ++ putSpec (ax.length : Int) 2 big ++ putSpec fi 4 big ++ putSpec 16 4 big ++ putSpec (nx i l.length (16 + 16 * (ax.length : Int))) 4 big = C ++ needH big l.length i fi ax.length := by
      simp only [needH, rowB, prs, List.map_cons, List.map_nil, List.flatMap_append, List.flatMap_cons, List.flatMap_nil, List.append_assoc, List.append_nil]
    have hC3l : (C ++ putSpec 1 2 big ++ putSpec (ax.length : Int) 2 big ++ putSpec fi 4 big ++ putSpec 16 4 big ++ putSpec (nx i l.length (16 + 16 * (ax.length : Int))) 4 big).length ≤ C.length + 56 := by
      simp only [List.length_append]
      omega
    generalize C ++ putSpec 1 2 big ++ putSpec (ax.length : Int) 2 big ++ putSpec fi 4 big ++ putSpec 16 4 big ++ putSpec (nx i l.length (16 + 16 * (ax.length : Int))) 4 big = C3 at *
    have hfl : ∀ k, (idxB (auxR big ax.length) 0 (ax.take k)).length ≤ 4000 := fun k => by
      have := idxB_le (f := auxR big ax.length) (m := 40) (ax.take k) 0 (fun i x _ => by have := rowB_le big (prs 4 [x.1] ++ prs 2 [x.2.1, x.2.2.1] ++ prs 4 [x.2.2.2.1, nx i ax.length 16]); simpa [prs, auxR] using this)
      rw [List.length_take] at this
      omega
    refine w_lpG (fun q e s => ∃ (k : Nat) (t : List OB), q + k = ax.length ∧ s = [.var [.osl 1 (C3 ++ idxB (auxR big ax.length) 0 (ax.take k)).length, .bool big], .arr (.int .u8) (C3 ++ idxB (auxR big ax.length) 0 (ax.take k)), .var [.int .u32 fi, .sl dAux ax]] ∧ e 0 = .sl dNeed l ∧ e 6 = .ptr 0 0 ∧ e 9 = .int .i64 ax.length ∧ e 15 = .sl dNeed l ∧ e 16 = .int .i64 l.length ∧ e 17 = .int .i64 i ∧ e 55 = .sl dAux ax ∧ e 56 = .int .i64 ax.length ∧ e 57 = .int .i64 k) ax.length ?_ ?_
    · exact ⟨0, [], rfl, by simp only [List.take_zero, idxB, List.append_nil], by exact lk @e0, by exact lk @e6, by exact lk trivial, by exact lk @e17, by exact lk @e18, by exact lk @e19, by exact lk trivial, by exact lk trivial, by exact lk trivial⟩
    rintro q3 e s ⟨k, t, hk, rfl, e0, e6, e9, e17, e18, e19, e69, e70, e71⟩
    have hfk := hfl k
    by_cases hkq : k < ax.length
    · obtain ⟨x, hx⟩ : ∃ x, ax[k]? = some x := ⟨_, List.getElem?_eq_getElem hkq⟩
      have hxm := hax x (List.mem_of_getElem? hx)
      have hst := idxB_take (f := auxR big ax.length) hx
      have hnk := nx_ok (i := k) (many := ax.length) (size := 16) (by omega)
      have hau : auxR big ax.length k x = rowB big (prs 4 [x.1] ++ prs 2 [x.2.1, x.2.2.1] ++ prs 4 [x.2.2.2.1, nx k ax.length 16]) := rfl
      obtain ⟨ha, fl, ot, na, u2⟩ := x
      obtain ⟨⟨b0, b1⟩, ⟨c0, c1⟩, ⟨d0, d1⟩, ⟨f0, f1⟩⟩ : AuxN ha fl ot na := hxm
      have hp0 := putSpec_le ha 4 big
      have hp1 := putSpec_le fl 2 big
      have hp2 := putSpec_le ot 2 big
      have hp3 := putSpec_le na 4 big
      generalize idxB (auxR big ax.length) 0 (ax.take k) = M at *
      refine W1 (And.intro @e0 (And.intro @e6 (And.intro @e9 (And.intro @e17 (And.intro @e18 (And.intro @e19 (And.intro @e69 (And.intro @e70 @e71)))))))) @DD (And.intro (@caS [0, 1]) (And.intro @vput_spec @vnext_spec)) ?_
      have er : C3 ++ idxB (auxR big ax.length) 0 (ax.take (k + 1)) = C3 ++ M ++ putSpec ha 4 big ++ putSpec fl 2 big ++ putSpec ot 2 big ++ putSpec na 4 big ++ putSpec (nx k ax.length 16) 4 big := by
        rw [hst, hau]
        simp only [rowB, prs, List.map_cons, List.map_nil, List.flatMap_append, List.flatMap_cons, List.flatMap_nil, List.append_assoc, List.append_nil]
      exact ⟨q3 - 1, by omega, _, _, Gh.sel [0, 1, 2] (by decide) (hz0 hZ), k + 1, [], by omega, by rw [er]; rfl, by exact lk @e0, by exact lk @e6, by exact lk @e9, by exact lk @e17, by exact lk @e18, by exact lk @e19, by exact lk @e69, by exact lk @e70, by exact lk @e71⟩
    obtain rfl : k = ax.length := by omega
    rw [List.take_length] at *
    refine W1 (And.intro @e0 (And.intro @e6 (And.intro @e9 (And.intro @e17 (And.intro @e18 (And.intro @e19 (And.intro @e69 (And.intro @e70 @e71)))))))) @DD trivial ?_
    have er : idxB (needB big l.length) 0 (l.take (i + 1)) = C3 ++ idxB (auxR big ax.length) 0 ax := by
      rw [hsx, hC3]
      unfold needB
      rw [List.append_assoc]
      rfl
    exact ⟨q - 1, by omega, _, _, Gh.sel [0, 1] (by decide) (hz0 hZ), i + 1, by omega, hal, by rw [er]; rfl, by exact lk @e0, by exact lk @e6, by exact lk @e17, by exact lk @e18, by exact lk @e19⟩
  · obtain rfl : i = l.length := by omega
    rw [List.take_length] at *
    have := hk1 hall
    refine W1 (And.intro @e0 (And.intro @e6 (And.intro @e17 (And.intro @e18 @e19)))) @DD trivial ?_
    exact this
end Go.Proofs.Ytoieblaagkbncaa.PvW
