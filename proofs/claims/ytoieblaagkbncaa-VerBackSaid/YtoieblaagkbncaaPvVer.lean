/- What ver's functions that put yield. No statement of the set is proved in this text. -/
import Derived.Test.YtoieblaagkbncaaPvSpot
import Derived.Test.YtoieblaagkbncaaPvN
import Derived.Test.YtoieblaagkbncaaTdVer
namespace Go.Proofs.Ytoieblaagkbncaa.PvW
open Go.RowKit Go.Proofs.Ytoieblaagkbncaa.Cd Go.Proofs.Ytoieblaagkbncaa.AbP Go.Proofs.Ytoieblaagkbncaa.Num Go.Proofs.Ytoieblaagkbncaa.Pv
set_option maxRecDepth 100000
set_option maxHeartbeats 4000000
set_option linter.unusedVariables false
set_option linter.unusedSimpArgs false
section
variable {α : Type} {f : Nat → α → List Int}
def idxB (f : Nat → α → List Int) : Nat → List α → List Int
  | _, [] => []
  | k, x :: l => f k x ++ idxB f (k + 1) l
theorem idxB_snoc : ∀ (l : List α) (k : Nat) (x : α), idxB f k (l ++ [x]) = idxB f k l ++ f (k + l.length) x
  | [], k, x => by simp [idxB]
  | y :: l, k, x => by
    show f k y ++ idxB f (k + 1) (l ++ [x]) = (f k y ++ idxB f (k + 1) l) ++ _
    rw [idxB_snoc l, List.append_assoc]
    congr 2
    rw [List.length_cons, show k + 1 + l.length = k + (l.length + 1) by omega]
theorem take_snocD {l : List α} {i : Nat} {x : α} (h : l[i]? = some x) : l.take (i + 1) = l.take i ++ [x] := by
  rw [List.take_add_one, h]
  rfl
theorem idxB_take {l : List α} {i : Nat} {x : α} (h : l[i]? = some x) : idxB f 0 (l.take (i + 1)) = idxB f 0 (l.take i) ++ f i x := by
  have hlt := (List.getElem?_eq_some_iff.1 h).1
  rw [take_snocD h, idxB_snoc, List.length_take, Nat.min_eq_left (by omega), Nat.zero_add]
theorem idxB_le {m : Nat} : ∀ (l : List α) (k : Nat), (∀ i, ∀ x ∈ l, (f i x).length ≤ m) → (idxB f k l).length ≤ m * l.length
  | [], k, _ => by simp [idxB]
  | x :: l, k, h => by
    show (f k x ++ idxB f (k + 1) l).length ≤ _
    have h1 := h k x (by simp)
    have h2 := idxB_le l (k + 1) (fun i y hy => h i y (List.mem_cons_of_mem _ hy))
    rw [List.length_append, List.length_cons, Nat.mul_succ]
    omega
end
/-- how far the next one is -/
def nx (i many size : Int) : Int := if i + 1 = many then 0 else size
theorem nx_ok {i many size : Int} (h : 0 ≤ size ∧ size ≤ 1000000) : 0 ≤ nx i many size ∧ nx i many size ≤ 1000000 := by
  unfold nx
  split <;> omega
abbrev dDef : Ab.D := (.st (.cons (.int .u16) (.cons (.int .u16) (.cons (.int .u32) (.cons (.sl (.int .u32)) .nil)))))
abbrev dNeed : Ab.D := (.st (.cons (.int .u32) (.cons (.sl (.st (.cons (.int .u32) (.cons (.int .u16) (.cons (.int .u16) (.cons (.int .u32) .nil)))))) .nil)))
abbrev dAux : Ab.D := (.st (.cons (.int .u32) (.cons (.int .u16) (.cons (.int .u16) (.cons (.int .u32) .nil)))))
def namesB (big : Bool) (l : List Int) : List Int := idxB (fun k x => rowB big (prs 4 [x, nx k l.length 8])) 0 l
def defH (big : Bool) (m i fl nd ha n : Int) : List Int := rowB big (prs 2 [1, fl, nd, n] ++ prs 4 [ha, 20, nx i m (20 + 8 * n)])
def defB (big : Bool) (m : Int) (i : Nat) (d : dDef.T) : List Int := defH big m i d.1 d.2.1 d.2.2.1 (d.2.2.2.1.length : Int) ++ namesB big d.2.2.2.1
def defsB (big : Bool) (l : List dDef.T) : List Int := idxB (defB big l.length) 0 l
def auxR (big : Bool) (n : Int) (k : Nat) (x : dAux.T) : List Int := rowB big (prs 4 [x.1] ++ prs 2 [x.2.1, x.2.2.1] ++ prs 4 [x.2.2.2.1, nx k n 16])
def auxsB (big : Bool) (l : List dAux.T) : List Int := idxB (auxR big l.length) 0 l
def needH (big : Bool) (m i fi n : Int) : List Int := rowB big (prs 2 [1, n] ++ prs 4 [fi, 16, nx i m (16 + 16 * n)])
def needB (big : Bool) (m : Int) (i : Nat) (d : dNeed.T) : List Int := needH big m i d.1 (d.2.1.length : Int) ++ auxsB big d.2.1
def needsB (big : Bool) (l : List dNeed.T) : List Int := idxB (needB big l.length) 0 l
structure DefN (fl nd ha : Int) (names : List Int) : Prop where
  fl : 0 ≤ fl ∧ fl ≤ 65535
  nd : 0 ≤ nd ∧ nd ≤ 65535
  ha : 0 ≤ ha ∧ ha ≤ 4294967295
  na : ∀ x ∈ names, 0 ≤ x ∧ x ≤ 4294967295
  le : names.length ≤ 100
structure AuxN (ha fl ot na : Int) : Prop where
  ha : 0 ≤ ha ∧ ha ≤ 4294967295
  fl : 0 ≤ fl ∧ fl ≤ 65535
  ot : 0 ≤ ot ∧ ot ≤ 65535
  na : 0 ≤ na ∧ na ≤ 4294967295
structure NeedN (fi : Int) (l : List dAux.T) : Prop where
  fi : 0 ≤ fi ∧ fi ≤ 4294967295
  ax : ∀ x ∈ l, AuxN x.1 x.2.1 x.2.2.1 x.2.2.2.1
  le : l.length ≤ 100
abbrev DefsN (l : List dDef.T) : Prop := ∀ d ∈ l, DefN d.1 d.2.1 d.2.2.1 d.2.2.2.1
abbrev NeedsN (l : List dNeed.T) : Prop := ∀ d ∈ l, NeedN d.1 d.2.1
theorem namesB_le (big : Bool) (l : List Int) : (namesB big l).length ≤ 16 * l.length := idxB_le l 0 fun i x _ => by have := rowB_le big (prs 4 [x, nx i l.length 8]); simpa [prs] using this
theorem auxsB_le (big : Bool) (l : List dAux.T) : (auxsB big l).length ≤ 40 * l.length := idxB_le l 0 fun i x _ => by have := rowB_le big (prs 4 [x.1] ++ prs 2 [x.2.1, x.2.2.1] ++ prs 4 [x.2.2.2.1, nx i l.length 16]); simpa [prs, auxR] using this
theorem defH_le (big : Bool) (m i fl nd ha n : Int) : (defH big m i fl nd ha n).length ≤ 56 := by have := rowB_le big (prs 2 [1, fl, nd, n] ++ prs 4 [ha, 20, nx i m (20 + 8 * n)]); simpa [prs, defH] using this
theorem needH_le (big : Bool) (m i fi n : Int) : (needH big m i fi n).length ≤ 40 := by have := rowB_le big (prs 2 [1, n] ++ prs 4 [fi, 16, nx i m (16 + 16 * n)]); simpa [prs, needH] using this
theorem defsB_le {big : Bool} {m : Int} {l : List dDef.T} {k : Nat} (h : DefsN l) : (idxB (defB big m) k l).length ≤ 1656 * l.length := idxB_le l k fun i x hx => by
  have h1 := defH_le big m i x.1 x.2.1 x.2.2.1 (x.2.2.2.1.length : Int)
  have h2 := namesB_le big x.2.2.2.1
  have h3 := (h x hx).le
  unfold defB
  rw [List.length_append]
  omega
theorem needsB_le {big : Bool} {m : Int} {l : List dNeed.T} {k : Nat} (h : NeedsN l) : (idxB (needB big m) k l).length ≤ 4040 * l.length := idxB_le l k fun i x hx => by
  have h1 := needH_le big m i x.1 (x.2.1.length : Int)
  have h2 := auxsB_le big x.2.1
  have h3 := (h x hx).le
  unfold needB
  rw [List.length_append]
  omega
section
variable {K : PV → List OB → Prop}
theorem vput_spec {n v : Int} {big : Bool} {bs : List Int} {nb : Nat} (hw : Rf (wideB n = true)) (hv : Om (0 ≤ v ∧ v ≤ 18446744073709551615)) (hnb : Om (nb = bs.length)) (hb : Om (bs.length ≤ 10000000))
    (hk : K (.tup []) [.var [.osl 1 (bs ++ putSpec v n big).length, .bool big], .arr (.int .u8) (bs ++ putSpec v n big)]) :
    PCalls Try.prog 26 [.ptr 0 0, .int .i64 n, .int .u64 v] [.var [.osl 1 nb, .bool big], .arr (.int .u8) bs] K := by
  refine told_callS ver_writer_put.told fun Z hZ => ?_
  unfold ver_writer_put.c
  replace hw := hw.o
  replace hv := hv.o
  replace hb := hb.o
  obtain rfl := hnb.o
  have hp := putSpec_le v n big
  refine W1 trivial @DD @put_spec ?_
  rw [List.length_append] at hk
  exact ⟨_, rfl, rfl, hk⟩
theorem vnext_spec {i m n : Int} (hi : Om (0 ≤ i ∧ i ≤ 1000000)) (hm : Om (0 ≤ m ∧ m ≤ 1000000)) (hn : Om (0 ≤ n ∧ n ≤ 1000000)) (hk : K (.int .u64 (nx i m n)) []) : PCalls Try.prog 27 [.int .i64 i, .int .i64 m, .int .i64 n] [] K := by
  refine told_callP ver_next.told fun Z hZ => ?_
  unfold ver_next.c
  replace hi := hi.o
  replace hm := hm.o
  replace hn := hn.o
  unfold nx at hk
  by_cases h : i + 1 = m
  · rw [if_pos h] at hk
    refine W1 trivial @DD trivial ?_
    exact hk
  · rw [if_neg h] at hk
    refine W1 trivial @DD trivial ?_
    exact hk
theorem rstep_spec {i m n : Int} (hi : Om (0 ≤ i ∧ i ≤ 1000000)) (hm : Om (0 ≤ m ∧ m ≤ 1000000)) (hn : Om (0 ≤ n ∧ n ≤ 1000000)) (hk : K (.int .u64 (nx i m n)) []) : PCalls Try.prog 29 [.int .i64 i, .int .i64 m, .int .i64 n] [] K := by
  refine told_callP bezantref12_step.told fun Z hZ => ?_
  unfold bezantref12_step.c
  replace hi := hi.o
  replace hm := hm.o
  replace hn := hn.o
  unfold nx at hk
  by_cases h : i + 1 = m
  · rw [if_pos h] at hk
    refine W1 trivial @DD trivial ?_
    exact hk
  · rw [if_neg h] at hk
    refine W1 trivial @DD trivial ?_
    exact hk
end
end Go.Proofs.Ytoieblaagkbncaa.PvW
