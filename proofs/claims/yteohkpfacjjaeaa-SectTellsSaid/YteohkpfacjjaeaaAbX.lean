/- Steps beside a slice that is being built. No statement of the set is proved in this text. -/
import Derived.Test.YteohkpfacjjaeaaAbT
namespace Go.Proofs.Yteohkpfacjjaeaa.Ab
open Go.RowKit Go.Proofs.Yteohkpfacjjaeaa.AbP Go.Proofs.Yteohkpfacjjaeaa.Num
set_option linter.unusedVariables false
set_option linter.unusedSimpArgs false
theorem St.perm {h0 h : Hp} {L L' : List (Nat × Blk)} (S : St h0 h L) (hp : L.Perm L') : St h0 h L' :=
  ⟨S.keep, S.next, fun p h => S.has p (hp.mem_iff.2 h), (hp.map _).nodup S.nodup⟩
theorem St.nil' {h0 h : Hp} {L : List (Nat × Blk)} (S : St h0 h L) : St h0 h [] := S.drop _ (List.nil_sublist _)
theorem St.call0 {h0 h h' : Hp} {L : List (Nat × Blk)} (S : St h0 h L) (T : St h h' []) : St h0 h' L := S.call T
theorem Bld.write {h0 h : Hp} {L : List (Nat × Blk)} {es : Nat} {v : Value} {l : List Value} (B : Bld h0 h L es v l) (i : Nat) {b : Nat} {k : Blk} (hi : L[i]? = some (b, k)) {o : Nat} {vs : List Value} (hl : k.live = true) (ho : o + vs.length ≤ k.cells.length) (h1 : vs.all (·.oneCell') = true) :
    ∃ h', h.write ⟨b, o, none⟩ vs = some h' ∧ Bld h0 h' (L.set i (b, { k with cells := putAt k.cells o vs })) es v l := by
  cases B with
  | nil s =>
    obtain ⟨h', e1, e2⟩ := s.write i hi hl ho h1
    exact ⟨h', e1, .nil e2⟩
  | blk b' n c l hn hc s =>
    obtain ⟨h', e1, e2⟩ := s.write (i + 1) (by simpa using hi) hl ho h1
    exact ⟨h', e1, .blk b' n c l hn hc e2⟩
theorem Bld.dropL {h0 h : Hp} {L M : List (Nat × Blk)} {es : Nat} {v : Value} {l : List Value} (B : Bld h0 h L es v l) (hm : M.Sublist L) : Bld h0 h M es v l := by
  cases B with
  | nil s => exact .nil (s.drop _ hm)
  | blk b n c l hn hc s => exact .blk b n c l hn hc (s.drop _ (hm.cons_cons _))
theorem Bld.nil' {h0 h : Hp} {L : List (Nat × Blk)} {es : Nat} {v : Value} {l : List Value} (B : Bld h0 h L es v l) : Bld h0 h [] es v l := B.dropL (List.nil_sublist _)
theorem Bld.push {h0 h h' : Hp} {L M : List (Nat × Blk)} {es : Nat} {v : Value} {l : List Value} (B : Bld h0 h L es v l) (t : St h h' M) : Bld h0 h' (M ++ L) es v l := by
  cases B with
  | nil s => exact .nil (s.call t)
  | blk b n c l hn hc s => exact .blk b n c l hn hc ((s.call t).perm List.perm_middle)
theorem Bld.after {h0 h1 h : Hp} {L : List (Nat × Blk)} {es : Nat} {v : Value} {l : List Value} (B : Bld h1 h [] es v l) (S : St h0 h1 L) : Bld h0 h L es v l := by
  cases B with
  | nil s => exact .nil (S.call s)
  | blk b n c l hn hc s => exact .blk b n c l hn hc (S.call s)
theorem one_slice {h0 h : Hp} {L : List (Nat × Blk)} {es : Nat} {v : Value} {l : List Value} (B : Bld h0 h L es v l) : oneL [v] = true ∧ v.cells.toList = [v] := by
  obtain ⟨A, n, c, rfl, _⟩ := B.form
  exact ⟨rfl, rfl⟩
theorem rv_tmp {f : Fr} {h : Hp} {t : Nat} {v : Value} (hx : evF f (.tmp t) = v) : rv f h (.tmp t) = some v := by subst hx; rfl
theorem rv_cell {f : Fr} {h0 h : Hp} {L : List (Nat × Blk)} (S : St h0 h L) {t b o : Nat} {k : Blk} {v : Value} (hx : evF f (.tmp t) = .pointer (some ⟨b, o, none⟩)) (hm : (b, k) ∈ L) (hl : k.live = true) (hv : k.cells[o]? = some v) : rv f h (.cell t none) = some v := by
  have hx' : f t = _ := hx
  simp only [rv, hx']
  exact S.cellm hm hl hv
theorem rv_celln {f : Fr} {h0 h : Hp} {L : List (Nat × Blk)} (S : St h0 h L) {t b n : Nat} {k : Blk} (hx : evF f (.tmp t) = .pointer (some ⟨b, 0, none⟩)) (hm : (b, k) ∈ L) (hl : k.live = true) (hn : k.cells.length = n) : rv f h (.cell t (some n)) = some (.agg k.cells.toArray) := by
  have hx' : f t = _ := hx
  simp only [rv, hx']
  have := blk_cells (S.has _ hm).2 hl n 0 (by show 0 + n ≤ k.cells.length; omega)
  have e : h.cells? ⟨b, 0, none⟩ n = some k.cells := by
    show h.cellsFrom _ 0 n = _
    rw [this, List.drop_zero, ← hn, List.take_length]
  rw [e]
  rfl
theorem rvs_cons {f : Fr} {h : Hp} {r : RV} {l : List RV} {v : Value} {vs : List Value} (h1 : rv f h r = some v) (h2 : rvs f h l = some vs) : rvs f h (r :: l) = some (v :: vs) := by simp only [rvs, h1, h2]
theorem rvs_nil (f : Fr) (h : Hp) : rvs f h [] = some [] := rfl
theorem r_any {f : Fr} {h : Hp} {rs : List RV} {KK : Value → Hp → Prop} {l : List Value} (hl : rvs f h rs = some l) (hk : KK (one l) h) : retA rs KK .ret f h := ⟨l, hl, hk⟩
section
variable {P : Program} {K : Fr → Hp → Prop} {f : Fr} {h h0 : Hp} {L L' : List (Nat × Blk)} {cs : List CO} {d : Option Nat} {kp : Bool} {x y : Operand} {u v w : Value} {b o es : Nat} {k : Blk} {l l' bs : List Value}
theorem s_stB (i : Nat) {size : Nat} (B : Bld h0 h L es w bs) (hx : evF f x = .pointer (some ⟨b, o, none⟩)) (hy : evF f y = v) (hi : L[i]? = some (b, k)) (hl : k.live = true) (hc : v.cells.toList = l) (h1 : oneL l = true) (hs : l.length = size) (ho : o + size ≤ k.cells.length) (hL : L.set i (b, ⟨putAt k.cells o l, k.es, true⟩) = L')
    (hk : ∀ h', Bld h0 h' L' es w bs → aops P cs K (putF f d undef) h') (hkp : kp = false := by rfl) : aops P (⟨d, none, kp, .e (.st size x y)⟩ :: cs) K f h := by
  obtain ⟨h', hw, hS⟩ := B.write i hi (o := o) (vs := (evF f y).cells.toList) hl (by rw [hy, hc, hs]; exact ho) (by rw [hy, hc]; exact oneL_one h1)
  refine s_st hx (by rw [hy, ← hs, ← hc]; rfl) hw (hk h' ?_) hkp
  rw [hy, hc] at hS
  rw [← hL]
  cases k
  simp only at hl
  subst hl
  exact hS
theorem s_bslB {xs : List Operand} (B : Bld h0 h L es w bs) (hx : xs.map (evF f) = l) (h1 : oneL l = true) (hk : ∀ h' b, Bld h0 h' ((b, ⟨l, 1, true⟩) :: L) es w bs → aops P cs K (putF f d (.slice (some ⟨b, 0, none⟩) l.length l.length)) h') : aops P (⟨d, none, kp, .f (.bsl 1 xs)⟩ :: cs) K f h :=
  s_bslO (St.refl h) hx h1 fun h' b S => hk h' b (B.push S)
theorem s_newB (B : Bld h0 h L es w bs) (hk : ∀ h' b, Bld h0 h' ((b, ⟨l, 0, true⟩) :: L) es w bs → aops P cs K (putF f d (.pointer (some ⟨b, 0, none⟩))) h') : aops P (⟨d, none, kp, .f (.new l)⟩ :: cs) K f h :=
  s_newO (St.refl h) fun h' b S => hk h' b (B.push S)
end
section
variable {P : Program} {K : Fr → Hp → Prop} {f : Fr} {h h0 : Hp} {cs : List CO} {d : Option Nat} {kp : Bool} {x y : Operand} {v : Value} {es n c k : Nat} {l : List Value} {a : Addr}
theorem s_iadR {A : Option Addr} {j : Int} {kk : IntKind} (hr : rowV h es (.slice A n c) = some l) (hx : evF f x = .slice A n c) (hi : evF f y = .int kk j) (h0 : 0 ≤ j) (h1 : j < n) (hk : ∀ a, A = some a → aops P cs K (putF f d (.pointer (some (a.add (j.toNat * es))))) h) : aops P (⟨d, none, kp, .f (.iad es x y)⟩ :: cs) K f h := by
  obtain ⟨a, rfl⟩ := rowV_some hr (by omega)
  exact s_f (v := .pointer (some (a.add (j.toNat * es)))) (by simp only [FOp.run, hx, hi]; rw [if_pos ⟨h0, h1⟩]) (hk a rfl)
theorem s_eqQ {ne q r : Bool} {t : TypeId} {p p' : Array Value} (ha : evF f x = .agg p) (hb : evF f y = .agg p') (he : ∀ w, (Op.equal t (.agg p) (.agg p')).run P w = .ok r w) (hq : nb ne r = q) (hs : (p ++ p').all (fun | .int _ _ | .bool _ | .string _ => true | _ => false) = true) (hk : aops P cs K (putF f d (.bool q)) h) : aops P (⟨d, none, kp, .f (.eqS ne t x y)⟩ :: cs) K f h :=
  s_eqS ha hb hs he (by rw [hq]; exact hk)
theorem s_ldR (hr : rowV h es (.slice (some a) n c) = some l) (hx : evF f x = .pointer (some (a.add k))) (hv : l[k]? = some v) (hk : aops P cs K (putF f d v) h) : aops P (⟨d, none, kp, .f (.ld none x)⟩ :: cs) K f h :=
  s_ld hx (rowV_cell hr hv) hk
theorem s_fadR {off : Nat} (hr : rowV h es (.slice (some a) n c) = some l) (hx : evF f x = .pointer (some (a.add k))) (hl : k < l.length) (hk : aops P cs K (putF f d (.pointer (some (a.add (k + off))))) h) : aops P (⟨d, none, kp, .f (.fad off x)⟩ :: cs) K f h := by
  have hs := rowV_spot hr (by omega)
  refine s_fad hx (by unfold Addr.add; split <;> simp [hs]) ?_
  rw [add_add _ _ _ hs]
  exact hk
end
end Go.Proofs.Yteohkpfacjjaeaa.Ab
