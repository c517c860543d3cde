/- Steps whose side goals bear marks, so that one short tactic closes them. No statement of the set is proved in this text. -/
import Derived.Test.YteohkpfacjjaeaaAbX
namespace Go.Proofs.Yteohkpfacjjaeaa.Ab
open Go.RowKit Go.Proofs.Yteohkpfacjjaeaa.AbP Go.Proofs.Yteohkpfacjjaeaa.Num
set_option linter.unusedVariables false
set_option linter.unusedSimpArgs false
/-- A side goal's mark: which kind it is of. -/
structure Mk (t : Nat) (p : Prop) : Prop where i :: o : p
abbrev Lk := Mk 0
theorem Lk.i {p : Prop} (h : p) : Lk p := ⟨h⟩
abbrev Vl := Mk 1
theorem Vl.i {p : Prop} (h : p) : Vl p := ⟨h⟩
abbrev Am := Mk 2
theorem Am.i {p : Prop} (h : p) : Am p := ⟨h⟩
abbrev Rf := Mk 3
theorem Rf.i {p : Prop} (h : p) : Rf p := ⟨h⟩
abbrev Om := Mk 4
theorem Om.i {p : Prop} (h : p) : Om p := ⟨h⟩
abbrev Mm := Mk 5
theorem Mm.i {p : Prop} (h : p) : Mm p := ⟨h⟩
abbrev Mp := Mk 6
theorem Mp.i {p : Prop} (h : p) : Mp p := ⟨h⟩
abbrev Rs := Mk 7
theorem Rs.i {p : Prop} (h : p) : Rs p := ⟨h⟩
abbrev Cl := Mk 8
theorem Cl.i {p : Prop} (h : p) : Cl p := ⟨h⟩
abbrev Pu := Mk 9
theorem Pu.i {p : Prop} (h : p) : Pu p := ⟨h⟩
abbrev Ud := Mk 10
theorem Ud.i {p : Prop} (h : p) : Ud p := ⟨h⟩
inductive Upd : List (Nat × Blk) → Nat → Blk → Blk → List (Nat × Blk) → Prop where
  | z {b : Nat} {k k' : Blk} {L : List (Nat × Blk)} : Upd ((b, k) :: L) b k k' ((b, k') :: L)
  | s {p : Nat × Blk} {b : Nat} {k k' : Blk} {L L' : List (Nat × Blk)} (h : Upd L b k k' L') : Upd (p :: L) b k k' (p :: L')
theorem Upd.at {L L' : List (Nat × Blk)} {b : Nat} {k k' : Blk} (u : Upd L b k k' L') : ∃ i, L[i]? = some (b, k) ∧ L.set i (b, k') = L' := by
  induction u with
  | z => exact ⟨0, rfl, rfl⟩
  | s h ih => obtain ⟨i, h1, h2⟩ := ih; exact ⟨i + 1, by simpa using h1, by simp [h2]⟩
def wv (w : Value) (b : Bool) : Bool := match w with
  | .bool x => x == b
  | _ => false
def gsel (w : Value) (b : Bool) (A B : Prop) : Prop := if wv w b = true then A else B
def psel (w : Value) (A B : Prop) : Prop := match w with
  | .bool true => A
  | .bool false => B
  | _ => False
section
variable {A B : Prop}
theorem gs1 (h : A) : gsel (.bool true) true A B := by simpa [gsel, wv] using h
theorem gs2 (h : A) : gsel (.bool false) false A B := by simpa [gsel, wv] using h
theorem gs3 (h : B) : gsel (.bool true) false A B := by simpa [gsel, wv] using h
theorem gs4 (h : B) : gsel (.bool false) true A B := by simpa [gsel, wv] using h
theorem gs5 {b : Bool} (h : B) : gsel undef b A B := by simpa [gsel, wv, undef] using h
theorem ps1 (h : A) : psel (.bool true) A B := h
theorem ps2 (h : B) : psel (.bool false) A B := h
end
section
variable {P : Program} {K : Fr → Hp → Prop} {Q : QA} {f : Fr} {h h0 : Hp} {L L' : List (Nat × Blk)} {cs : List CO} {d : Option Nat} {kp : Bool} {x y z : Operand} {u v w : Value} {b o es n c : Nat} {k : Blk} {l l' bs : List Value} {A : Option Addr} {a : Addr}
theorem q_mv (hx : Lk (evF f x = v)) (hk : aops P cs K (putF f d v) h) : aops P (⟨d, none, kp, .f (.mv x)⟩ :: cs) K f h := s_mv hx.o hk
theorem q_bin {op : BinOp} (hx : Lk (evF f x = u)) (hy : Lk (evF f y = w)) (hv : Vl (abin op u w = some v)) (hk : aops P cs K (putF f d v) h) : aops P (⟨d, none, kp, .f (.bin op x y)⟩ :: cs) K f h := s_bin hx.o hy.o hv.o hk
theorem pk_t (hc : evF f z = .bool true) (hk : aops P (⟨d, none, kp, .f (.mv x)⟩ :: cs) K f h) : aops P (⟨d, none, kp, .f (.pick z x y)⟩ :: cs) K f h := by
  unfold aops at hk ⊢
  rw [if_pos (show wantC none f = true from rfl)] at hk ⊢
  obtain ⟨v, k, h1, h2⟩ := hk
  refine ⟨v, k, ?_, h2⟩
  rcases h1 with h1 | ⟨_, _, _, _, _, _, _, h1, _⟩
  · left
    simpa [FOp.run, hc] using h1
  · simp at h1
theorem pk_f (hc : evF f z = .bool false) (hk : aops P (⟨d, none, kp, .f (.mv y)⟩ :: cs) K f h) : aops P (⟨d, none, kp, .f (.pick z x y)⟩ :: cs) K f h := by
  unfold aops at hk ⊢
  rw [if_pos (show wantC none f = true from rfl)] at hk ⊢
  obtain ⟨v, k, h1, h2⟩ := hk
  refine ⟨v, k, ?_, h2⟩
  rcases h1 with h1 | ⟨_, _, _, _, _, _, _, h1, _⟩
  · left
    simpa [FOp.run, hc] using h1
  · simp at h1
theorem q_pk (hc : Lk (evF f z = w)) (hk : psel w (aops P (⟨d, none, kp, .f (.mv x)⟩ :: cs) K f h) (aops P (⟨d, none, kp, .f (.mv y)⟩ :: cs) K f h)) : aops P (⟨d, none, kp, .f (.pick z x y)⟩ :: cs) K f h := by
  have hc := hc.o
  unfold psel at hk
  split at hk
  · exact pk_t hc hk
  · exact pk_f hc hk
  · exact hk.elim
theorem q_un {op : UnOp} (hx : Lk (evF f x = u)) (hv : Vl (aun op u = some v)) (hk : aops P cs K (putF f d v) h) : aops P (⟨d, none, kp, .f (.un op x)⟩ :: cs) K f h := s_un hx.o hv.o hk
theorem q_cvt {k k' : IntKind} {n m : Int} (hx : Lk (evF f x = .int k' n)) (hv : Vl (k.wrap n = m)) (hk : aops P cs K (putF f d (.int k m)) h) : aops P (⟨d, none, kp, .f (.cvt k x)⟩ :: cs) K f h := s_cvt hx.o hv.o hk
theorem q_ln (hx : Lk (evF f x = .slice A n c)) (hk : aops P cs K (putF f d (.int .i64 n)) h) : aops P (⟨d, none, kp, .f (.len false x)⟩ :: cs) K f h := s_lnL hx.o hk
theorem q_ls {s : ByteArray} (hx : Lk (evF f x = .string s)) (hk : aops P cs K (putF f d (.int .i64 s.size)) h) : aops P (⟨d, none, kp, .f (.len true x)⟩ :: cs) K f h := s_lnS hx.o hk
theorem q_ext {i : Nat} {l : Array Value} (hx : Lk (evF f x = .tuple l)) (hv : Vl (l[i]? = some v)) (hk : aops P cs K (putF f d v) h) : aops P (⟨d, none, kp, .f (.ext x i)⟩ :: cs) K f h := s_ext hx.o hv.o hk
theorem q_fld {off : Nat} {l : Array Value} (hx : Lk (evF f x = .agg l)) (hv : Vl (l[off]? = some v)) (hk : aops P cs K (putF f d v) h) : aops P (⟨d, none, kp, .f (.fld off none x)⟩ :: cs) K f h := s_fld hx.o hv.o hk
theorem q_eqB {ne a b r : Bool} (hx : Lk (evF f x = .bool a)) (hy : Lk (evF f y = .bool b)) (hv : Vl (nb ne (a == b) = r)) (hk : aops P cs K (putF f d (.bool r)) h) : aops P (⟨d, none, kp, .f (.eqB ne x y)⟩ :: cs) K f h := s_eqB hx.o hy.o hv.o hk
theorem q_eqI {ne : Bool} (hx : Lk (evF f x = u)) (hy : Lk (evF f y = w)) (hv : Vl (aeqI P ne (isC x || isC y) u w = some v)) (hk : aops P cs K (putF f d v) h) : aops P (⟨d, none, kp, .f (.eqI ne x y)⟩ :: cs) K f h := s_eqI hx.o hy.o hv.o hk
theorem q_eqN {tag : Nat} {ne : Bool} (hx : Lk (evF f x = u)) (hy : Lk (evF f y = w)) (hv : Vl (aeqN tag ne u w = some v)) (hk : aops P cs K (putF f d v) h) : aops P (⟨d, none, kp, .f (.eqN tag ne x y)⟩ :: cs) K f h := s_eqN hx.o hy.o hv.o hk
theorem q_mkI {t : TypeId} (hx : Lk (evF f x = v)) (hk : aops P cs K (putF f d (.iface t v)) h) : aops P (⟨d, none, kp, .f (.mkI t x)⟩ :: cs) K f h := s_mkI hx.o hk
theorem q_gd {s : Nat} {b : Bool} {op : COp} (hs : Lk (evF f (.tmp s) = w)) (hk : gsel w b (aops P (⟨d, none, kp, op⟩ :: cs) K f h) (aops P cs K (putF f d undef) h)) : aops P (⟨d, some (s, b), kp, op⟩ :: cs) K f h := by
  have hs : f s = w := hs.o
  unfold gsel at hk
  have e : wantC (some (s, b)) f = wv w b := by rw [← hs]; rfl
  rw [← e] at hk
  unfold aops
  split at hk
  · rename_i hw
    rw [if_pos hw]
    unfold aops at hk
    rw [if_pos (show wantC none f = true from rfl)] at hk
    exact hk
  · rename_i hw
    rw [if_neg hw]
    exact hk
theorem q_cd {p q : AC} (hc : Lk (evF f z = w)) (hk : psel w (awp P p Q f h) (awp P q Q f h)) : awp P (.cond z p q) Q f h := by
  have hc := hc.o
  unfold psel at hk
  split at hk
  · exact w_ct hc hk
  · exact w_cf hc hk
  · exact hk.elim
theorem q_call {g : FuncId} {l : List Operand} {vs : List Value} (ha : Mp (l.map (evF f) = vs)) (hk : ACalls P g vs h fun v h' => (kp = true → Keeps h h') ∧ aops P cs K (putF f d v) h') : aops P (⟨d, none, kp, .e (.cal (.func g) l)⟩ :: cs) K f h := s_callv ha.o hk
theorem q_calF {fx : Operand} {args : List Operand} {g : FuncId} {va vb vs : List Value} (hf : Lk (evF f fx = .func (.func g) va.toArray vb.toArray)) (ha : Mp (args.map (evF f) = vs)) (hl : Vl (va ++ vs ++ vb = l)) (hk : ACalls P g l h fun v h' => (kp = true → Keeps h h') ∧ aops P cs K (putF f d v) h') : aops P (⟨d, none, kp, .e (.cal fx args)⟩ :: cs) K f h := s_calF hf.o ha.o hl.o hk
theorem q_bld {zero r vs : List Value} {ps : List (Nat × Nat)} {xs : List Operand} (hx : Mp (xs.map (evF f) = vs)) (hr : Pu (fillL zero ps vs = some r)) (hk : aops P cs K (putF f d (.agg r.toArray)) h) : aops P (⟨d, none, kp, .f (.bld zero ps xs)⟩ :: cs) K f h := s_bld hx.o hr.o hk
theorem q_mkF {fn : Fn} {A B : List Operand} {va vb : List Value} (ha : Mp (A.map (evF f) = va)) (hb : Mp (B.map (evF f) = vb)) (hk : aops P cs K (putF f d (.func fn va.toArray vb.toArray)) h) : aops P (⟨d, none, kp, .f (.mkF fn A B)⟩ :: cs) K f h := s_mkF ha.o hb.o hk
theorem q_ret {rs : List RV} {KK : Value → Hp → Prop} {l : List Value} (hl : Rs (rvs f h rs = some l)) (hk : KK (one l) h) : retA rs KK .ret f h := r_any hl.o hk
theorem q_fadO {off : Nat} (hx : Lk (evF f x = .pointer (some ⟨b, o, none⟩))) (hk : aops P cs K (putF f d (.pointer (some ⟨b, o + off, none⟩))) h) : aops P (⟨d, none, kp, .f (.fad off x)⟩ :: cs) K f h := s_fadO hx.o hk
theorem q_fadR {off : Nat} {kk : Nat} (hx : Lk (evF f x = .pointer (some (a.add kk)))) (hr : Am (rowV h es (.slice (some a) n c) = some l)) (hl : Om (kk < l.length)) (hk : aops P cs K (putF f d (.pointer (some (a.add (kk + off))))) h) : aops P (⟨d, none, kp, .f (.fad off x)⟩ :: cs) K f h := s_fadR hr.o hx.o hl.o hk
theorem Cl.own (S : Am (St h0 h L)) (hm : Mm ((b, k) ∈ L)) (hl : Rf (k.live = true)) (hv : Vl (k.cells[o]? = some v)) : Cl (h.cell? ⟨b, o, none⟩ = some v) := ⟨S.o.cellm hm.o hl.o hv.o⟩
theorem Cl.row {kk : Nat} (hr : Am (rowV h es (.slice (some a) n c) = some l)) (hv : Vl (l[kk]? = some v)) : Cl (h.cell? (a.add kk) = some v) := ⟨rowV_cell hr.o hv.o⟩
theorem q_ld (hx : Lk (evF f x = .pointer (some a))) (hc : Cl (h.cell? a = some v)) (hk : aops P cs K (putF f d v) h) : aops P (⟨d, none, kp, .f (.ld none x)⟩ :: cs) K f h := s_ld hx.o hc.o hk
theorem q_ldn (hx : Lk (evF f x = .pointer (some ⟨b, 0, none⟩))) (S : Am (St h0 h L)) (hm : Mm ((b, k) ∈ L)) (hl : Rf (k.live = true)) (hn : Rf (k.cells.length = n)) (hk : aops P cs K (putF f d (.agg k.cells.toArray)) h) : aops P (⟨d, none, kp, .f (.ld (some n) x)⟩ :: cs) K f h := s_ldnO S.o hx.o hm.o hl.o hn.o hk
theorem q_iad {j : Int} {kk : IntKind} (hx : Lk (evF f x = .slice A n c)) (hi : Lk (evF f y = .int kk j)) (hr : Am (rowV h es (.slice A n c) = some l)) (h0 : Om (0 ≤ j)) (h1 : Om (j < n)) (hk : ∀ a, A = some a → aops P cs K (putF f d (.pointer (some (a.add (j.toNat * es))))) h) : aops P (⟨d, none, kp, .f (.iad es x y)⟩ :: cs) K f h := s_iadR hr.o hx.o hi.o h0.o h1.o hk
theorem q_iaO {j : Int} {kk : IntKind} (hx : Lk (evF f x = .slice (some ⟨b, 0, none⟩) n c)) (S : Am (St h0 h L)) (hm : Mm ((b, k) ∈ L)) (hi : Lk (evF f y = .int kk j)) (h0 : Om (0 ≤ j)) (h1 : Om (j < n)) (hk : aops P cs K (putF f d (.pointer (some ⟨b, j.toNat * es, none⟩))) h) : aops P (⟨d, none, kp, .f (.iad es x y)⟩ :: cs) K f h := s_ia hx.o hi.o h0.o h1.o hk
theorem q_ix {t : Nat} {kq : Bool} {j : Int} {kk : IntKind} (hx : Lk (evF f x = .slice A n c)) (hi : Lk (evF f y = .int kk j)) (hr : Am (rowV h 1 (.slice A n c) = some l)) (h0 : Om (0 ≤ j)) (h1 : Om (j < n)) (hv : Vl (l[j.toNat]? = some v)) (hk : ∀ u, aops P cs K (putF (putF f (some t) u) d v) h) : aops P (⟨some t, none, kp, .f (.iad 1 x y)⟩ :: ⟨d, none, kq, .f (.ld none (.tmp t))⟩ :: cs) K f h := s_ix hx.o hi.o hr.o h0.o h1.o hv.o hk
theorem q_b2s {l : List Int} (hx : Lk (evF f x = .slice A n c)) (hr : Am (rowV h 1 (.slice A n c) = some (byV l))) (hk : aops P cs K (putF f d (.string ⟨(sBytes l).toArray⟩)) h) : aops P (⟨d, none, kp, .f (.b2s x)⟩ :: cs) K f h := s_b2s hx.o hr.o (strOf_byV l) hk
theorem q_box (S : Am (St h0 h L)) (hx : Lk (evF f x = v)) (hc : Pu (v.cells.toList = l)) (h1 : Rf (oneL l = true)) (hk : ∀ h' b, St h0 h' ((b, ⟨l, 0, true⟩) :: L) → aops P cs K (putF f d (.pointer (some ⟨b, 0, none⟩))) h') : aops P (⟨d, none, kp, .f (.box x)⟩ :: cs) K f h := s_boxO S.o hx.o hc.o h1.o hk
theorem q_bsl {xs : List Operand} (S : St h0 h L) (hx : Mp (xs.map (evF f) = l)) (h1 : Rf (oneL l = true)) (hk : ∀ h' b, St h0 h' ((b, ⟨l, 1, true⟩) :: L) → aops P cs K (putF f d (.slice (some ⟨b, 0, none⟩) l.length l.length)) h') : aops P (⟨d, none, kp, .f (.bsl 1 xs)⟩ :: cs) K f h := s_bslO S hx.o h1.o hk
theorem q_bslB {xs : List Operand} (B : Bld h0 h L es w bs) (hx : Mp (xs.map (evF f) = l)) (h1 : Rf (oneL l = true)) (hk : ∀ h' b, Bld h0 h' ((b, ⟨l, 1, true⟩) :: L) es w bs → aops P cs K (putF f d (.slice (some ⟨b, 0, none⟩) l.length l.length)) h') : aops P (⟨d, none, kp, .f (.bsl 1 xs)⟩ :: cs) K f h := s_bslB B hx.o h1.o hk
theorem q_stO {size : Nat} {cs' : List Value} (S : St h0 h L) (hx : Lk (evF f x = .pointer (some ⟨b, o, none⟩))) (hy : Lk (evF f y = v)) (hc : Pu (v.cells.toList = l)) (hu : Ud (Upd L b k ⟨cs', k.es, true⟩ L')) (hp : Pu (putAt k.cells o l = cs')) (hl : Rf (k.live = true)) (h1 : Rf (oneL l = true)) (hs : Rf (l.length = size)) (ho : Rf (Nat.ble (o + size) k.cells.length = true))
    (hk : ∀ h', St h0 h' L' → aops P cs K (putF f d undef) h') (hkp : Rf (kp = false)) : aops P (⟨d, none, kp, .e (.st size x y)⟩ :: cs) K f h := by
  obtain ⟨i, e1, e2⟩ := hu.o.at
  exact s_stO i S hx.o hy.o e1 hl.o hc.o h1.o hs.o (Nat.le_of_ble_eq_true ho.o) (by rw [hp.o]; exact e2) hk hkp.o
theorem q_stB {size : Nat} {cs' : List Value} (B : Bld h0 h L es w bs) (hx : Lk (evF f x = .pointer (some ⟨b, o, none⟩))) (hy : Lk (evF f y = v)) (hc : Pu (v.cells.toList = l)) (hu : Ud (Upd L b k ⟨cs', k.es, true⟩ L')) (hp : Pu (putAt k.cells o l = cs')) (hl : Rf (k.live = true)) (h1 : Rf (oneL l = true)) (hs : Rf (l.length = size)) (ho : Rf (Nat.ble (o + size) k.cells.length = true))
    (hk : ∀ h', Bld h0 h' L' es w bs → aops P cs K (putF f d undef) h') (hkp : Rf (kp = false)) : aops P (⟨d, none, kp, .e (.st size x y)⟩ :: cs) K f h := by
  obtain ⟨i, e1, e2⟩ := hu.o.at
  exact s_stB i B hx.o hy.o e1 hl.o hc.o h1.o hs.o (Nat.le_of_ble_eq_true ho.o) (by rw [hp.o]; exact e2) hk hkp.o
theorem rs_z : Rs (rvs f h [] = some []) := ⟨rfl⟩
theorem rs_t {rs : List RV} {t : Nat} {vs : List Value} (h1 : Lk (evF f (.tmp t) = v)) (h2 : Rs (rvs f h rs = some vs)) : Rs (rvs f h (.tmp t :: rs) = some (v :: vs)) := ⟨rvs_cons (rv_tmp h1.o) h2.o⟩
theorem rs_n {rs : List RV} {t : Nat} {vs : List Value} (h1 : Lk (evF f (.tmp t) = .pointer (some ⟨b, 0, none⟩))) (S : Am (St h0 h L)) (hm : Mm ((b, k) ∈ L)) (hl : Rf (k.live = true)) (hn : Rf (k.cells.length = n)) (h2 : Rs (rvs f h rs = some vs)) : Rs (rvs f h (.cell t (some n) :: rs) = some (.agg k.cells.toArray :: vs)) := ⟨rvs_cons (rv_celln S.o h1.o hm.o hl.o hn.o) h2.o⟩
theorem rs_c {rs : List RV} {t : Nat} {vs : List Value} (h1 : Lk (evF f (.tmp t) = .pointer (some ⟨b, o, none⟩))) (S : Am (St h0 h L)) (hm : Mm ((b, k) ∈ L)) (hl : Rf (k.live = true)) (hv : Rf (k.cells[o]? = some v)) (h2 : Rs (rvs f h rs = some vs)) : Rs (rvs f h (.cell t none :: rs) = some (v :: vs)) := ⟨rvs_cons (rv_cell S.o h1.o hm.o hl.o hv.o) h2.o⟩
theorem mp_z : Mp ([].map (evF f) = []) := ⟨rfl⟩
theorem mp_s {l : List Operand} {vs : List Value} (h1 : Lk (evF f x = v)) (h2 : Mp (l.map (evF f) = vs)) : Mp ((x :: l).map (evF f) = v :: vs) := ⟨by rw [List.map_cons, h1.o, h2.o]⟩
end
theorem ix_ok {P : Program} {cs : List CO} {K : Fr → Hp → Prop} {f : Fr} {h : Hp} (hk : aops P cs K f h) : aops P cs K f h := hk
theorem LL : type_of% (And.intro @ev_T <| And.intro @ev_C <| And.intro @ev_F <| And.intro @put_at <| And.intro @put_none @init_at) := And.intro @ev_T <| And.intro @ev_C <| And.intro @ev_F <| And.intro @put_at <| And.intro @put_none @init_at
theorem VV : type_of% (And.intro @b_add <| And.intro @b_sub <| And.intro @b_mul <| And.intro @b_eql <| And.intro @b_neq <| And.intro @b_lss <| And.intro @b_leq <| And.intro @b_gtr <| And.intro @b_geq <| And.intro @u_not <| And.intro @u_neg <| And.intro @s_eql <| And.intro @s_neq <| And.intro @uw <| And.intro @iw <| And.intro @w8 <| And.intro @w16 <| And.intro @w32 <| And.intro @kV_get <| And.intro @byV_get <| And.intro @Int.toNat_natCast <| And.intro @Int.toNat_zero <| And.intro @Int.toNat_one <| And.intro @Nat.mul_one <| And.intro @decide_true <| And.intro @decide_false <| And.intro @Bool.or_true <| And.intro @Bool.true_or <| And.intro @Bool.or_false <| And.intro @Bool.false_or <| And.intro @Bool.and_true <| And.intro @Bool.true_and <| And.intro @Bool.and_false <| And.intro @Bool.false_and <| And.intro @Bool.not_true <| And.intro @Bool.not_false <| And.intro @Bool.true_beq @Bool.false_beq) := And.intro @b_add <| And.intro @b_sub <| And.intro @b_mul <| And.intro @b_eql <| And.intro @b_neq <| And.intro @b_lss <| And.intro @b_leq <| And.intro @b_gtr <| And.intro @b_geq <| And.intro @u_not <| And.intro @u_neg <| And.intro @s_eql <| And.intro @s_neq <| And.intro @uw <| And.intro @iw <| And.intro @w8 <| And.intro @w16 <| And.intro @w32 <| And.intro @kV_get <| And.intro @byV_get <| And.intro @Int.toNat_natCast <| And.intro @Int.toNat_zero <| And.intro @Int.toNat_one <| And.intro @Nat.mul_one <| And.intro @decide_true <| And.intro @decide_false <| And.intro @Bool.or_true <| And.intro @Bool.true_or <| And.intro @Bool.or_false <| And.intro @Bool.false_or <| And.intro @Bool.and_true <| And.intro @Bool.true_and <| And.intro @Bool.and_false <| And.intro @Bool.false_and <| And.intro @Bool.not_true <| And.intro @Bool.not_false <| And.intro @Bool.true_beq @Bool.false_beq
theorem DD : type_of% (And.intro @dlt <| And.intro @dltF <| And.intro @dle <| And.intro @dleF <| And.intro @deq <| And.intro @deqF <| And.intro @dne @dneF) := And.intro @dlt <| And.intro @dltF <| And.intro @dle <| And.intro @dleF <| And.intro @deq <| And.intro @deqF <| And.intro @dne @dneF
end Go.Proofs.Yteohkpfacjjaeaa.Ab
