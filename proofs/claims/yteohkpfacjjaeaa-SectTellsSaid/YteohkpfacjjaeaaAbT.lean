/- Steps on blocks of one's own, which are known by name. No statement of the set is proved in this text. -/
import Derived.Test.YteohkpfacjjaeaaAbS
namespace Go.Proofs.Yteohkpfacjjaeaa.Ab
open Go.RowKit Go.Proofs.Yteohkpfacjjaeaa.AbP Go.Proofs.Yteohkpfacjjaeaa.Num
set_option linter.unusedVariables false
set_option linter.unusedSimpArgs false
/-- the bytes of a row of bytes as a string -/
def sBytes (l : List Int) : List UInt8 := l.map fun x => UInt8.ofNat x.toNat
theorem strOf_byV : ∀ l : List Int, strOf (byV l) = some (sBytes l)
  | [] => rfl
  | x :: l => by
    show strOf (.int .u8 x :: byV l) = _
    unfold strOf
    rw [strOf_byV l]
    rfl
/-- numbers as cells -/
def kV (k : IntKind) (l : List Int) : List Value := l.map fun x => .int k x
theorem toNatL (n : Nat) : Int.toNat (no_index (@OfNat.ofNat Int n instOfNat)) = @OfNat.ofNat Nat n (instOfNatNat n) := rfl
theorem kV_len (k : IntKind) (l : List Int) : (kV k l).length = l.length := by simp [kV]
theorem kV_append (k : IntKind) (a b : List Int) : kV k (a ++ b) = kV k a ++ kV k b := by simp [kV]
theorem kV_get {k : IntKind} {l : List Int} {i : Nat} (h : i < l.length) : (kV k l)[i]? = some (.int k (l.getD i 0)) := by
  unfold kV
  rw [List.getElem?_map, List.getElem?_eq_getElem h, List.getD_eq_getElem?_getD, List.getElem?_eq_getElem h]
  rfl
theorem St.cellm {h0 h : Hp} {L : List (Nat × Blk)} {b o : Nat} {k : Blk} {v : Value} (S : St h0 h L) (hm : (b, k) ∈ L) (hl : k.live = true) (hv : k.cells[o]? = some v) : h.cell? ⟨b, o, none⟩ = some v := by
  obtain ⟨i, hi⟩ := List.getElem?_of_mem hm
  exact S.cell i hi hl hv
theorem St.rowm {h0 h : Hp} {L : List (Nat × Blk)} {b n es c : Nat} {l : List Value} (S : St h0 h L) (hm : (b, ⟨l, es, true⟩) ∈ L) (hn : l.length = n * es) : rowV h es (.slice (some ⟨b, 0, none⟩) n c) = some l := by
  have := blk_cells (S.has _ hm).2 rfl (n * es) 0 (by show 0 + n * es ≤ l.length; omega)
  show h.cellsFrom _ 0 (n * es) = some l
  rw [this]
  simp only [List.drop_zero]
  rw [← hn, List.take_length]
theorem fieldsP (b o i : Nat) : Addr.add ⟨b, o, none⟩ i = ⟨b, o + i, none⟩ := add_b b o i
def oneL (l : List Value) : Bool := l.all fun v => match v with | .int _ _ | .bool _ | .string _ | .slice _ _ _ | .pointer _ | .iface _ _ | .nilIface | .nilFunc | .func _ _ _ => true | _ => false
theorem oneL_one {l : List Value} (h : oneL l = true) : l.all (·.oneCell') = true := by
  unfold oneL at h
  rw [List.all_eq_true] at h ⊢
  intro x hx
  have := h x hx
  cases x <;> first | rfl | simp at this
theorem oneL_cells {l : List Value} (h : oneL l = true) : ∀ v ∈ l, v.cells = #[v] := by
  unfold oneL at h
  rw [List.all_eq_true] at h
  intro x hx
  have := h x hx
  cases x <;> first | rfl | simp at this
theorem flatOne : ∀ {l : List Value}, oneL l = true → flatOf 1 l = some l
  | [], _ => rfl
  | v :: l, h => by
    have h2 : oneL l = true := by unfold oneL at h ⊢; rw [List.all_cons, Bool.and_eq_true] at h; exact h.2
    have e := oneL_cells h v (by simp)
    have e2 : oneL [v] = true := by unfold oneL at h ⊢; rw [List.all_cons, Bool.and_eq_true] at h; simpa using h.1
    unfold flatOf
    rw [if_pos ⟨by rw [e]; rfl, by rw [e]; exact oneL_one e2⟩, flatOne h2, e]
    rfl
section
variable {P : Program} {K : Fr → Hp → Prop} {f : Fr} {h h0 : Hp} {L L' : List (Nat × Blk)} {cs : List CO} {d : Option Nat} {kp : Bool} {x y : Operand} {u v : Value} {b o : Nat} {k : Blk} {l l' : List Value}
theorem s_boxO (S : St h0 h L) (hx : evF f x = v) (hc : v.cells.toList = l) (h1 : oneL l = true) (hk : ∀ h' b, St h0 h' ((b, ⟨l, 0, true⟩) :: L) → aops P cs K (putF f d (.pointer (some ⟨b, 0, none⟩))) h') : aops P (⟨d, none, kp, .f (.box x)⟩ :: cs) K f h :=
  s_new (v := fun b => .pointer (some ⟨b, 0, none⟩)) S (by
    simp only [FOp.run, hx, hc]
    rw [if_pos (oneL_one h1)]) hk
theorem s_newO (S : St h0 h L) (hk : ∀ h' b, St h0 h' ((b, ⟨l, 0, true⟩) :: L) → aops P cs K (putF f d (.pointer (some ⟨b, 0, none⟩))) h') : aops P (⟨d, none, kp, .f (.new l)⟩ :: cs) K f h :=
  s_new (v := fun b => .pointer (some ⟨b, 0, none⟩)) S (by simp only [FOp.run]) hk
theorem s_bslO {xs : List Operand} (S : St h0 h L) (hx : xs.map (evF f) = l) (h1 : oneL l = true) (hk : ∀ h' b, St h0 h' ((b, ⟨l, 1, true⟩) :: L) → aops P cs K (putF f d (.slice (some ⟨b, 0, none⟩) l.length l.length)) h') : aops P (⟨d, none, kp, .f (.bsl 1 xs)⟩ :: cs) K f h :=
  s_new (v := fun b => .slice (some ⟨b, 0, none⟩) l.length l.length) S (by
    have hl : xs.length = l.length := by rw [← hx, List.length_map]
    simp only [FOp.run, hx, flatOne h1, hl, Option.map_some]) hk
theorem s_fadO {off : Nat} (hx : evF f x = .pointer (some ⟨b, o, none⟩)) (hk : aops P cs K (putF f d (.pointer (some ⟨b, o + off, none⟩))) h) : aops P (⟨d, none, kp, .f (.fad off x)⟩ :: cs) K f h := by
  refine s_fad hx rfl ?_
  rw [add_b]
  exact hk
theorem s_ldO (S : St h0 h L) (hx : evF f x = .pointer (some ⟨b, o, none⟩)) (hm : (b, k) ∈ L) (hl : k.live = true) (hv : k.cells[o]? = some v) (hk : aops P cs K (putF f d v) h) : aops P (⟨d, none, kp, .f (.ld none x)⟩ :: cs) K f h := s_ld hx (S.cellm hm hl hv) hk
theorem s_ldnO {n : Nat} (S : St h0 h L) (hx : evF f x = .pointer (some ⟨b, 0, none⟩)) (hm : (b, k) ∈ L) (hl : k.live = true) (hn : k.cells.length = n) (hk : aops P cs K (putF f d (.agg k.cells.toArray)) h) : aops P (⟨d, none, kp, .f (.ld (some n) x)⟩ :: cs) K f h := by
  obtain ⟨i, hi⟩ := List.getElem?_of_mem hm
  exact s_ldn S i hx hi hl hn hk
theorem s_stO (i : Nat) {size : Nat} (S : St h0 h L) (hx : evF f x = .pointer (some ⟨b, o, none⟩)) (hy : evF f y = v) (hi : L[i]? = some (b, k)) (hl : k.live = true) (hc : v.cells.toList = l) (h1 : oneL l = true) (hs : l.length = size) (ho : o + size ≤ k.cells.length) (hL : L.set i (b, ⟨putAt k.cells o l, k.es, true⟩) = L')
    (hk : ∀ h', St h0 h' L' → aops P cs K (putF f d undef) h') (hkp : kp = false := by rfl) : aops P (⟨d, none, kp, .e (.st size x y)⟩ :: cs) K f h := by
  refine s_stS S i hx hi hl (by rw [hy, ← hs, ← hc]; rfl) ho (by rw [hy, hc]; exact oneL_one h1) (fun h' S' => hk h' ?_) hkp
  rw [hy, hc] at S'
  rw [← hL]
  cases k
  simp only at hl
  subst hl
  exact S'
theorem s_bld {zero : List Value} {ps : List (Nat × Nat)} {xs : List Operand} {vs r : List Value} (hx : xs.map (evF f) = vs) (hr : fillL zero ps vs = some r) (hk : aops P cs K (putF f d (.agg r.toArray)) h) : aops P (⟨d, none, kp, .f (.bld zero ps xs)⟩ :: cs) K f h :=
  s_f (v := .agg r.toArray) (by simp only [FOp.run, hx, hr, Option.map_some]) hk
theorem s_mkF {fn : Fn} {A B : List Operand} {va vb : List Value} (ha : A.map (evF f) = va) (hb : B.map (evF f) = vb) (hk : aops P cs K (putF f d (.func fn va.toArray vb.toArray)) h) : aops P (⟨d, none, kp, .f (.mkF fn A B)⟩ :: cs) K f h :=
  s_f (v := .func fn va.toArray vb.toArray) (by simp only [FOp.run, ha, hb]) hk
/-- a call of a function value -/
theorem s_calF {fx : Operand} {args : List Operand} {g : FuncId} {va vb vs : List Value} (hf : evF f fx = .func (.func g) va.toArray vb.toArray) (ha : args.map (evF f) = vs) (hl : va ++ vs ++ vb = l) (hk : ACalls P g l h fun v h' => (kp = true → Keeps h h') ∧ aops P cs K (putF f d v) h') : aops P (⟨d, none, kp, .e (.cal fx args)⟩ :: cs) K f h :=
  s_cal hf (by rw [ha]; show ACalls P g (va ++ vs ++ vb) h _; rw [hl]; exact hk)
end
end Go.Proofs.Yteohkpfacjjaeaa.Ab
