/- Steps that make and write blocks of bytes and numbers. No statement of the set is proved in this text. -/
import Derived.Test.YteohkpfacjjaeaaAbP
namespace Go.Proofs.Yteohkpfacjjaeaa.Ab
open Go.RowKit Go.Proofs.Yteohkpfacjjaeaa.AbP
set_option linter.unusedVariables false
set_option linter.unusedSimpArgs false
theorem own_row {h0 h : Hp} {L : List (Nat × Blk)} {b es n c : Nat} {l : List Value} (S : St h0 h ((b, ⟨l, es, true⟩) :: L)) (hn : l.length = n * es) : rowV h es (.slice (some ⟨b, 0, none⟩) n c) = some l := by
  have := blk_cells (S.get 0 rfl) rfl (n * es) 0 (by show 0 + n * es ≤ l.length; omega)
  show h.cellsFrom _ 0 (n * es) = some l
  rw [this]
  simp only [List.drop_zero]
  rw [← hn, List.take_length]
theorem zerosOne (z : Value) (n : Nat) : zerosOf 1 [z] n = List.replicate n z := by
  unfold zerosOf
  rw [Nat.mul_one]
  apply List.ext_getElem
  · simp
  · intro i h1 h2
    simp [Nat.mod_one]
section
variable {P : Program} {K : Fr → Hp → Prop} {f : Fr} {h h0 : Hp} {L : List (Nat × Blk)} {cs : List CO} {d : Option Nat} {kp : Bool} {x y : Operand} {u v : Value}
theorem s_mks {es bytes : Nat} {zero : List Value} {k k' : IntKind} {n : Int} (S : St h0 h L) (hx : evF f x = .int k n) (hy : evF f y = .int k' n) (h1 : 0 ≤ n) (h2 : bytes * n ≤ 2 ^ 48) (h3 : n < 2 ^ 62)
    (hk : ∀ h' b, St h0 h' ((b, ⟨zerosOf es zero n.toNat, es, true⟩) :: L) → aops P cs K (putF f d (.slice (some ⟨b, 0, none⟩) n.toNat n.toNat)) h') : aops P (⟨d, none, kp, .f (.mks es bytes zero x y)⟩ :: cs) K f h :=
  s_new (v := fun b => .slice (some ⟨b, 0, none⟩) n.toNat n.toNat) S (by simp only [FOp.run, hx, hy]; rw [if_pos ⟨by trivial, h1, h2, h3⟩]) hk
/-- a store of one cell into one's own block -/
theorem s_st1 {b o : Nat} {k : Blk} (S : St h0 h ((b, k) :: L)) (hx : evF f x = .pointer (some ⟨b, o, none⟩)) (hy : evF f y = v) (hc : v.cells = #[v] := by rfl) (h1 : v.oneCell' = true := by rfl) (hl : k.live = true := by rfl) (ho : o < k.cells.length)
    (hk : ∀ h', St h0 h' ((b, { k with cells := k.cells.set o v }) :: L) → aops P cs K (putF f d undef) h') (hkp : kp = false := by rfl) : aops P (⟨d, none, kp, .e (.st 1 x y)⟩ :: cs) K f h := by
  refine s_stS S 0 hx rfl hl (by rw [hy, hc]; rfl) ho (by rw [hy, hc]; simp [h1]) (fun h' S' => hk h' ?_) hkp
  rw [hy, hc] at S'
  exact S'
theorem s_bsl1 (hx : evF f x = v) (hc : v.cells = #[v] := by rfl) (h1 : v.oneCell' = true := by rfl) (hk : ∀ h' b, St h h' [(b, ⟨[v], 1, true⟩)] → aops P cs K (putF f d (.slice (some ⟨b, 0, none⟩) 1 1)) h') : aops P (⟨d, none, kp, .f (.bsl 1 [x])⟩ :: cs) K f h :=
  s_new (v := fun b => .slice (some ⟨b, 0, none⟩) 1 1) (St.refl h) (by
    simp only [FOp.run, List.map_cons, List.map_nil, hx, flatOf, hc]
    simp [h1]) hk
theorem s_appB {es bytes : Nat} {u : Value} {l new : List Value} {A : Option Addr} {n c : Nat} (hx : evF f x = u) (b : Bld h0 h L es u l) (hy : evF f y = .slice A n c) (hr : rowV h es (.slice A n c) = some new) (hes : 0 < es) (hb : (l.length + new.length) * bytes ≤ 2 ^ 46) (hb2 : l.length + new.length < 2 ^ 62)
    (hk : ∀ u' h', Bld h0 h' L es u' (l ++ new) → aops P cs K (putF f d u') h') (hkp : kp = false := by rfl) : aops P (⟨d, none, kp, .e (.app es bytes x y)⟩ :: cs) K f h := by
  obtain ⟨u', h', e1, e2, _⟩ := Bld.append (n := 0) (bytes := bytes) (new := new) (m := n) b (rowV_len hr) hb hb2 hes
  exact s_app (by rw [hy]; exact srcV_row hr) (by rw [hx]; exact e1) (fun hh => by rw [hkp] at hh; cases hh) (hk u' h' e2)
end
/-- A built slice's form. -/
theorem Bld.form {h0 h : Hp} {L : List (Nat × Blk)} {es : Nat} {v : Value} {l : List Value} (b : Bld h0 h L es v l) : ∃ A n c, v = .slice A n c ∧ l.length = n * es := by
  cases b with
  | nil s => exact ⟨none, 0, 0, rfl, by simp⟩
  | blk b n c l hn hc s => exact ⟨_, n, c, rfl, hn⟩
theorem Bld.own {h0 h : Hp} {L : List (Nat × Blk)} {b es n c : Nat} {l : List Value} (S : St h0 h ((b, ⟨l, es, true⟩) :: L)) (hn : l.length = n * es) (hc : c = n ∨ c = n + 1 := by simp) : Bld h0 h L es (.slice (some ⟨b, 0, none⟩) n c) l := .blk b n c l hn hc S
/-- Bytes built. -/
theorem Bld.by {h0 h : Hp} {L : List (Nat × Blk)} {v : Value} {l : List Int} (b : Bld h0 h L 1 v (byV l)) : ∃ A c, v = .slice A l.length c ∧ rowV h 1 (.slice A l.length c) = some (byV l) := by
  obtain ⟨A, n, c, rfl, hn⟩ := b.form
  obtain rfl : n = l.length := by rw [byV_len] at hn; omega
  exact ⟨A, c, rfl, b.row⟩
end Go.Proofs.Yteohkpfacjjaeaa.Ab
