/- States of plain values: the steps that make and write nothing. No statement of the set is proved in this text. -/
import Derived.Test.YtalhipbbomagoaaPvC
namespace Go.Proofs.Ytalhipbbomagoaa.Pv
open Go.RowKit Go.Proofs.Ytalhipbbomagoaa.Ab
set_option linter.unusedVariables false
set_option linter.unusedSimpArgs false
/-- A side goal's mark: which kind it is of. -/
structure Mk (t : Nat) (p : Prop) : Prop where i :: o : p
abbrev Lk := Mk 0
theorem Lk.i {p : Prop} (h : p) : Lk p := ⟨h⟩
abbrev Vl := Mk 1
theorem Vl.i {p : Prop} (h : p) : Vl p := ⟨h⟩
abbrev Am := Mk 2
theorem Am.i {p : Prop} (h : p) : Am p := ⟨h⟩
abbrev Rf := Mk 3
theorem Rf.i {p : Prop} (h : p) : Rf p := ⟨h⟩
abbrev Om := Mk 4
theorem Om.i {p : Prop} (h : p) : Om p := ⟨h⟩
abbrev Mp := Mk 6
theorem Mp.i {p : Prop} (h : p) : Mp p := ⟨h⟩
abbrev Rs := Mk 7
theorem Rs.i {p : Prop} (h : p) : Rs p := ⟨h⟩
abbrev Pu := Mk 9
theorem Pu.i {p : Prop} (h : p) : Pu p := ⟨h⟩
abbrev Vw := Mk 11
theorem Vw.i {p : Prop} (h : p) : Vw p := ⟨h⟩
def toV : PV → Option Value
  | .int k n => some (.int k n)
  | .bool b => some (.bool b)
  | .str s => some (.string s)
  | _ => none
theorem toV_inv {X : Cx} {p : PV} {u v : Value} (h : toV p = some u) (hp : PR X p v) : v = u := by
  unfold toV at h
  split at h
  · obtain rfl := Option.some.inj h; exact hp.int_inv
  · obtain rfl := Option.some.inj h; exact hp.bool_inv
  · obtain rfl := Option.some.inj h; exact hp.str_inv
  · simp at h
def cellsP : PV → List PV
  | .agg l => l
  | p => [p]
def one1 : PV → Bool
  | .agg _ | .tup _ | .und => false
  | _ => true
theorem one1_one {X : Cx} {p : PV} {v : Value} (h : one1 p = true) (hp : PR X p v) : v.oneCell' = true ∧ v.cells = #[v] := by
  cases p with
  | und => simp [one1] at h
  | agg l => simp [one1] at h
  | tup l => simp [one1] at h
  | int k n => obtain rfl := hp.int_inv; exact ⟨rfl, rfl⟩
  | bool b => obtain rfl := hp.bool_inv; exact ⟨rfl, rfl⟩
  | str b => obtain rfl := hp.str_inv; exact ⟨rfl, rfl⟩
  | nilI => obtain rfl := hp.nilI_inv; exact ⟨rfl, rfl⟩
  | nilF => obtain rfl := hp.nilF_inv; exact ⟨rfl, rfl⟩
  | nilP => obtain rfl := hp.nilP_inv; exact ⟨rfl, rfl⟩
  | nilS => obtain rfl := hp.nilS_inv; exact ⟨rfl, rfl⟩
  | ifc t q => obtain ⟨u, rfl, _⟩ := hp.ifc_inv; exact ⟨rfl, rfl⟩
  | fn g a b => obtain ⟨a', b', rfl, _⟩ := hp.fn_inv; exact ⟨rfl, rfl⟩
  | ptr b o => obtain ⟨a, rfl⟩ := hp.ptr_form; exact ⟨rfl, rfl⟩
  | osl b n => obtain ⟨A, m, c, rfl⟩ := hp.osl_form; exact ⟨rfl, rfl⟩
  | osb b n lo m => obtain ⟨A, k, c, rfl⟩ := hp.osb_form; exact ⟨rfl, rfl⟩
  | oel b n i o => obtain ⟨a, rfl⟩ := hp.oel_form; exact ⟨rfl, rfl⟩
  | sl d l => obtain ⟨A, c, rw, rfl, _⟩ := hp.sl_inv'; exact ⟨rfl, rfl⟩
  | elt d l i o => obtain ⟨a, n, c, rw, rfl, _⟩ := hp.elt_inv; exact ⟨rfl, rfl⟩
  | ref l o => obtain ⟨a, cs, rfl, _⟩ := hp.ref_inv; exact ⟨rfl, rfl⟩
/-- The cells of a value that has known ones. -/
theorem cellsP_PR {X : Cx} {p : PV} {v : Value} (hp : PR X p v) {c : List PV} (hc : cellsP p = c) (h1 : c.all one1 = true) : PRs X c v.cells.toList ∧ v.cells.toList.all (·.oneCell') = true := by
  subst hc
  have key : ∀ (l : List PV) (us : List Value), PRs X l us → l.all one1 = true → us.all (·.oneCell') = true := by
    intro l
    induction l with
    | nil =>
      intro us h _
      have : us = [] := List.eq_nil_of_length_eq_zero h.1.symm
      subst this; rfl
    | cons q l ih =>
      intro us h h1
      obtain ⟨u, t, rfl, k1, k2⟩ := h.uncons
      rw [List.all_cons, Bool.and_eq_true] at h1 ⊢
      exact ⟨(one1_one h1.1 k1).1, ih t k2 h1.2⟩
  by_cases hq : ∃ l, p = .agg l
  · obtain ⟨l, rfl⟩ := hq
    obtain ⟨a, rfl, ha⟩ := hp.agg_inv
    have e : (Value.agg a.toArray).cells.toList = a := by simp [Value.cells]
    rw [e]
    exact ⟨ha, key l a ha h1⟩
  · have e : cellsP p = [p] := by cases p <;> first | rfl | exact absurd ⟨_, rfl⟩ hq
    rw [e] at h1 ⊢
    rw [List.all_cons, Bool.and_eq_true] at h1
    obtain ⟨k1, k2⟩ := one1_one h1.1 hp
    rw [k2]
    exact ⟨.one hp, by simp [k1]⟩
/-- A value seen as a list of data. -/
inductive As (s : List OB) : PV → (d : D) → List d.T → Prop where
  | sl (d : D) (l : List d.T) : As s (.sl d l) d l
  | nil (d : D) : As s .nilS d []
  | arr (b n : Nat) (d : D) (l : List d.T) (hb : s[b]? = some (.arr d l)) (hn : n = l.length) : As s (.osl b n) d l
  | row (b n : Nat) (c : List PV) (d : D) (l : List d.T) (hb : s[b]? = some (.row d.sz n c)) (hd : decs d n c = some l) : As s (.osl b n) d l
theorem blk_row {h : Hp} {b es n c : Nat} {us : List Value} (hb : h.blk? b = some ⟨us, es, true⟩) (hn : us.length = n * es) : rowV h es (.slice (some ⟨b, 0, none⟩) n c) = some us := by
  show h.cells? _ _ = _
  rw [blk_cells' hb rfl (by show 0 + n * es ≤ us.length; omega)]
  simp only [List.drop_zero]
  rw [← hn, List.take_length]
theorem As.view {Z : Bs} {h : Hp} {E : Nat → Bool} {i : Nat → Option Nat} {s : List OB} (S : SR Z h E i s) {p : PV} {d : D} {l : List d.T} (a : As s p d l) {v : Value} (hp : PR ⟨Hp.mask h E, i, s⟩ p v) :
    ∃ A c us, v = .slice A l.length c ∧ l.length ≤ c ∧ rowV h d.sz v = some us ∧ Chunks (d.Is (Hp.mask h E)) l us := by
  cases a with
  | sl =>
    obtain ⟨A, c, rw, rfl, h0, h1, h2⟩ := hp.sl_inv'
    exact ⟨A, c, rw, rfl, h0, (mask_sub h E).row h1, h2⟩
  | nil =>
    obtain rfl := hp.nilS_inv
    exact ⟨none, 0, [], rfl, Nat.le_refl _, rfl, rfl⟩
  | arr b n d l hb hn =>
    obtain ⟨hd, hob⟩ := S.ob b _ hb
    subst hn
    rcases hp.osl_inv _ _ ⟨_, hb, rfl⟩ with h1 | ⟨-, c, hc, hv⟩
    · omega
    · rcases hob with ⟨k1, rfl⟩ | ⟨k, us, k1, k2, k3, k4⟩
      · have k1' : i b = none := k1
        simp only [k1', slV] at hv
        exact ⟨none, 0, [], hv, Nat.le_refl _, by rw [hv]; rfl, rfl⟩
      · have k1' : i b = some k := k1
        simp only [k1', slV] at hv
        have hl := Chunks_len k4
        exact ⟨_, c, us, hv, by omega, by rw [hv]; exact blk_row k3 hl, k4⟩
  | row b n c d l hb hd =>
    obtain ⟨k, cs, k1, k2, k3, k4, k5, k6⟩ := S.ob b _ hb
    obtain ⟨q1, q2⟩ := decs_is n _ _ _ hd k6
    rcases hp.osl_inv _ _ ⟨_, hb, rfl⟩ with h1 | ⟨-, c, hc, hv⟩
    · omega
    · have k1' : i b = some k := k1
      simp only [k1', slV] at hv
      have hl := Chunks_len q1
      rw [q2] at hl ⊢
      exact ⟨_, c, cs, hv, by omega, by rw [hv]; exact blk_row k3 hl, q1⟩
section
variable {P : Program} {Z : Bs} {K : Env → List OB → Prop} {Q : QP} {e : Env} {s s' : List OB} {cs : List CO} {pr : List Operand} {d : Option Nat} {kp : Bool} {x y z : Operand} {p q r : PV} {u v w : Value} {b o n m i j : Nat} {l c : List PV} {D' : D}
theorem ER.at {X : Cx} {f : Fr} (R : ER X e f) (hx : evE e x = p) : PR X p (evF f x) := hx ▸ R.ev x
theorem p_f {fo : FOp} (hr : ∀ f h E i, SR Z h E i s → ER ⟨Hp.mask h E, i, s⟩ e f → ∃ v, fo.run P (evF f) h h.next = some (v, none) ∧ PR ⟨Hp.mask h E, i, s⟩ p v) (hk : pops P Z (rdF fo pr) cs K (putE e d p) s) : pops P Z pr (⟨d, none, kp, .f fo⟩ :: cs) K e s := fun f h ⟨E, i, S, R⟩ => by
  obtain ⟨v, h1, h2⟩ := hr f h E i S R
  exact s_f h1 (hk _ _ ⟨E, i, S, R.put h2⟩)
theorem q_mv (hx : Lk (evE e x = p)) (hk : pops P Z pr cs K (putE e d p) s) : pops P Z pr (⟨d, none, kp, .f (.mv x)⟩ :: cs) K e s :=
  p_f (fun f h E i S R => ⟨_, by simp only [FOp.run], R.at hx.o⟩) hk
theorem q_bin {op : BinOp} (hx : Lk (toV (evE e x) = some u)) (hy : Lk (toV (evE e y) = some w)) (hv : Vl (abin op u w = some v)) (hk : pops P Z pr cs K (putE e d (ofC v)) s) : pops P Z pr (⟨d, none, kp, .f (.bin op x y)⟩ :: cs) K e s :=
  p_f (fun f h E i S R => ⟨v, by simp only [FOp.run, toV_inv hx.o (R.ev x), toV_inv hy.o (R.ev y), hv.o, Option.map_some], ofC_PR _ v⟩) hk
theorem q_un {op : UnOp} (hx : Lk (toV (evE e x) = some u)) (hv : Vl (aun op u = some v)) (hk : pops P Z pr cs K (putE e d (ofC v)) s) : pops P Z pr (⟨d, none, kp, .f (.un op x)⟩ :: cs) K e s :=
  p_f (fun f h E i S R => ⟨v, by simp only [FOp.run, toV_inv hx.o (R.ev x), hv.o, Option.map_some], ofC_PR _ v⟩) hk
theorem q_cvt {k k' : IntKind} {a b : Int} (hx : Lk (evE e x = .int k' a)) (hv : Vl (k.wrap a = b)) (hk : pops P Z pr cs K (putE e d (.int k b)) s) : pops P Z pr (⟨d, none, kp, .f (.cvt k x)⟩ :: cs) K e s :=
  p_f (fun f h E i S R => ⟨.int k b, by simp only [FOp.run, (R.at hx.o).int_inv, hv.o], .int k b⟩) hk
theorem q_eqB {ne a b r : Bool} (hx : Lk (evE e x = .bool a)) (hy : Lk (evE e y = .bool b)) (hv : Vl (nb ne (a == b) = r)) (hk : pops P Z pr cs K (putE e d (.bool r)) s) : pops P Z pr (⟨d, none, kp, .f (.eqB ne x y)⟩ :: cs) K e s :=
  p_f (fun f h E i S R => ⟨.bool r, by simp only [FOp.run, (R.at hx.o).bool_inv, (R.at hy.o).bool_inv, hv.o], .bool r⟩) hk
def peqI (P : Program) (ne c : Bool) : PV → PV → Option Bool
  | .nilI, .nilI => if c then some (nb ne true) else none
  | .nilI, .ifc _ _ => some (nb ne false)
  | .ifc _ _, .nilI => some (nb ne false)
  | .ifc t v, .ifc u x => if t ≠ u then some (nb ne false) else
    match v, x with
    | .int k a, .int k' b => if k = k' ∧ cmpInt P t = true then some (nb ne (a == b)) else none
    | _, _ => none
  | _, _ => none
theorem peqI_run {X : Cx} {ne c r : Bool} (h : peqI P ne c p q = some r) (hp : PR X p v) (hq : PR X q w) : aeqI P ne c v w = some (.bool r) := by
  unfold peqI at h
  split at h
  · obtain rfl := hp.nilI_inv
    obtain rfl := hq.nilI_inv
    split at h
    · rename_i hc
      obtain rfl := Option.some.inj h
      simp only [aeqI, hc, if_true]
    · simp at h
  · obtain rfl := hp.nilI_inv
    obtain ⟨u, rfl, _⟩ := hq.ifc_inv
    obtain rfl := Option.some.inj h
    rfl
  · obtain rfl := hq.nilI_inv
    obtain ⟨u, rfl, _⟩ := hp.ifc_inv
    obtain rfl := Option.some.inj h
    rfl
  · obtain ⟨u, rfl, hu⟩ := hp.ifc_inv
    obtain ⟨u', rfl, hu'⟩ := hq.ifc_inv
    split at h
    · rename_i hne
      obtain rfl := Option.some.inj h
      simp only [aeqI, if_pos hne]
    · rename_i hne
      split at h
      · obtain rfl := hu.int_inv
        obtain rfl := hu'.int_inv
        split at h
        · rename_i hk
          obtain rfl := Option.some.inj h
          simp only [aeqI, if_neg hne, if_pos hk]
        · simp at h
      · simp at h
  · simp at h
theorem q_eqI {ne r : Bool} (hx : Lk (evE e x = p)) (hy : Lk (evE e y = q)) (hv : Vl (peqI P ne (isC x || isC y) p q = some r)) (hk : pops P Z pr cs K (putE e d (.bool r)) s) : pops P Z pr (⟨d, none, kp, .f (.eqI ne x y)⟩ :: cs) K e s :=
  p_f (fun f h E i S R => ⟨.bool r, by simp only [FOp.run, peqI_run hv.o (R.at hx.o) (R.at hy.o), Option.map_some], .bool r⟩) hk
/-- Is a pointer nil? -/
def isNilP : PV → Option Bool
  | .nilP => some true
  | .ref _ _ => some false
  | .elt _ _ _ _ => some false
  | .ptr _ _ => some false
  | .oel _ _ _ _ => some false
  | _ => none
theorem isNilP_run {X : Cx} {ne a : Bool} (h : isNilP p = some a) (hp : PR X p v) : aeqN 0 ne v (.pointer none) = some (.bool (nb ne a)) := by
  unfold isNilP at h
  split at h
  · obtain rfl := hp.nilP_inv; obtain rfl := Option.some.inj h; rfl
  · obtain ⟨a, cs, rfl, _⟩ := hp.ref_inv; obtain rfl := Option.some.inj h; rfl
  · obtain ⟨a, n, c, rw, rfl, _⟩ := hp.elt_inv; obtain rfl := Option.some.inj h; rfl
  · obtain ⟨a, rfl⟩ := hp.ptr_form; obtain rfl := Option.some.inj h; rfl
  · obtain ⟨a, rfl⟩ := hp.oel_form; obtain rfl := Option.some.inj h; rfl
  · simp at h
theorem q_eqP {ne a r : Bool} (hx : Lk (evE e x = p)) (hy : Lk (evE e y = .nilP)) (hp : Rf (isNilP p = some a)) (hv : Vl (nb ne a = r)) (hk : pops P Z pr cs K (putE e d (.bool r)) s) : pops P Z pr (⟨d, none, kp, .f (.eqN 0 ne x y)⟩ :: cs) K e s :=
  p_f (fun f h E i S R => ⟨.bool r, by simp only [FOp.run, (R.at hy.o).nilP_inv, isNilP_run hp.o (R.at hx.o), hv.o, Option.map_some], .bool r⟩) hk
theorem q_eqF1 {ne r : Bool} {g : FuncId} {a b : List PV} (hx : Lk (evE e x = .fn g a b)) (hy : Lk (evE e y = .nilF)) (hv : Vl (nb ne false = r)) (hk : pops P Z pr cs K (putE e d (.bool r)) s) : pops P Z pr (⟨d, none, kp, .f (.eqN 2 ne x y)⟩ :: cs) K e s :=
  p_f (fun f h E i S R => ⟨.bool r, by
    obtain ⟨a', b', h1, _⟩ := (R.at hx.o).fn_inv
    simp only [FOp.run, (R.at hy.o).nilF_inv, h1, aeqN, if_true, hv.o, Option.map_some], .bool r⟩) hk
theorem q_eqF0 {ne r : Bool} (hx : Lk (evE e x = .nilF)) (hy : Lk (evE e y = .nilF)) (hv : Vl (nb ne true = r)) (hk : pops P Z pr cs K (putE e d (.bool r)) s) : pops P Z pr (⟨d, none, kp, .f (.eqN 2 ne x y)⟩ :: cs) K e s :=
  p_f (fun f h E i S R => ⟨.bool r, by simp only [FOp.run, (R.at hy.o).nilF_inv, (R.at hx.o).nilF_inv, aeqN, if_true, hv.o, Option.map_some], .bool r⟩) hk
theorem q_eqS0 {ne r : Bool} (hx : Lk (evE e x = .nilS)) (hy : Lk (evE e y = .nilS)) (hv : Vl (nb ne true = r)) (hk : pops P Z pr cs K (putE e d (.bool r)) s) : pops P Z pr (⟨d, none, kp, .f (.eqN 1 ne x y)⟩ :: cs) K e s :=
  p_f (fun f h E i S R => ⟨.bool r, by simp only [FOp.run, (R.at hy.o).nilS_inv, (R.at hx.o).nilS_inv, aeqN, if_true, Option.isNone_none, hv.o, Option.map_some], .bool r⟩) hk
/-- A list that is read, held against nil: what is told isn't known; it is true only of no elements. -/
theorem q_eqSl {ne : Bool} {l : List D'.T} (hx : Lk (evE e x = .sl D' l)) (hy : Lk (evE e y = .nilS)) (hk : ∀ r : Bool, (r = true → l = []) → pops P Z pr cs K (putE e d (.bool (nb ne r))) s) : pops P Z pr (⟨d, none, kp, .f (.eqN 1 ne x y)⟩ :: cs) K e s := fun f h ⟨E, i, S, R⟩ => by
  obtain ⟨A, c, rw, h1, h0, h2, h3⟩ := (R.at hx.o).sl_inv'
  refine s_f (v := .bool (nb ne A.isNone)) (by simp only [FOp.run, h1, (R.at hy.o).nilS_inv, aeqN, if_true, Option.map_some]) (hk A.isNone (fun hA => ?_) _ _ ⟨E, i, S, R.put (.bool _)⟩)
  cases A with
  | some a => simp at hA
  | none =>
    unfold rowV at h2
    simp only at h2
    split at h2
    · rename_i h4; exact List.eq_nil_of_length_eq_zero h4
    · simp at h2
theorem q_eqSo {ne r : Bool} {l : List D'.T} (hx : Lk (evE e x = .osl b n)) (hy : Lk (evE e y = .nilS)) (hb : Rf (s[b]? = some (.arr D' l))) (hn : Om (n = l.length)) (h0 : Om (0 < l.length)) (hv : Vl (nb ne false = r)) (hk : pops P Z pr cs K (putE e d (.bool r)) s) : pops P Z pr (⟨d, none, kp, .f (.eqN 1 ne x y)⟩ :: cs) K e s :=
  p_f (fun f h E i S R => ⟨.bool r, by
    have hn := hn.o
    have h0 := h0.o
    obtain ⟨hd, hob⟩ := S.ob b _ hb.o
    rcases (R.at hx.o).osl_inv _ _ ⟨_, hb.o, rfl⟩ with h1 | ⟨-, c, hc, hv'⟩
    · omega
    · rcases hob with ⟨k1, rfl⟩ | ⟨k, us, k1, k2, k3, k4⟩
      · simp at h0
      · have k1' : i b = some k := k1
        simp only [k1', slV] at hv'
        simp only [FOp.run, hv', (R.at hy.o).nilS_inv, aeqN, if_true, Option.isNone_some, hv.o, Option.map_some], .bool r⟩) hk
theorem q_str {t : ByteArray} (hx : Lk (evE e x = .str t)) (hk : pops P Z pr cs K (putE e d (.str t)) s) : pops P Z pr (⟨d, none, kp, .f (.str x)⟩ :: cs) K e s :=
  p_f (fun f h E i S R => ⟨.string t, by simp only [FOp.run, (R.at hx.o).str_inv], .str t⟩) hk
/-- Bytes as a string. -/
def sOf (l : List Int) : ByteArray := ⟨(l.map fun x => UInt8.ofNat x.toNat).toArray⟩
theorem strOf_map : ∀ l : List Int, strOf (l.map (Value.int .u8)) = some (l.map fun x => UInt8.ofNat x.toNat)
  | [] => rfl
  | x :: l => by
    show strOf (.int .u8 x :: l.map (Value.int .u8)) = _
    unfold strOf
    rw [strOf_map l]
    rfl
theorem Chunks_int {m : Hp} {k : IntKind} : ∀ {l : List Int} {us : List Value}, Chunks ((D.int k).Is m) l us → us = l.map (Value.int k)
  | [], us, h => h
  | x :: l, us, ⟨c, t, e, h1, h2⟩ => by
    have e1 : c = [.int k x] := h1
    rw [e, e1, Chunks_int h2]
    rfl
theorem q_b2s {l : List Int} (hx : Lk (evE e x = p)) (ha : Vw (As s p (.int .u8) l)) (hk : pops P Z (x :: pr) cs K (putE e d (.str (sOf l))) s) : pops P Z pr (⟨d, none, kp, .f (.b2s x)⟩ :: cs) K e s := fun f h ⟨E, i, S, R⟩ => by
  obtain ⟨A, c, us, h1, h0, h2, h3⟩ := ha.o.view S (R.at hx.o)
  rw [h1] at h2
  have e := Chunks_int h3
  exact s_b2s h1 h2 (by rw [e]; exact strOf_map l) (hk _ _ ⟨E, i, S, R.put (.str _)⟩)
theorem q_mkI {t : TypeId} (hx : Lk (evE e x = p)) (hk : pops P Z pr cs K (putE e d (.ifc t p)) s) : pops P Z pr (⟨d, none, kp, .f (.mkI t x)⟩ :: cs) K e s :=
  p_f (fun f h E i S R => ⟨_, by simp only [FOp.run], .ifc t _ _ (R.at hx.o)⟩) hk
theorem mp_z : Mp ([].map (evE e) = []) := ⟨rfl⟩
theorem mp_s {xs : List Operand} {ps : List PV} (h1 : Lk (evE e x = p)) (h2 : Mp (xs.map (evE e) = ps)) : Mp ((x :: xs).map (evE e) = p :: ps) := ⟨by rw [List.map_cons, h1.o, h2.o]⟩
theorem ER.map {X : Cx} {f : Fr} (R : ER X e f) {xs : List Operand} {ps : List PV} (h : xs.map (evE e) = ps) : PRs X ps (xs.map (evF f)) := by
  rw [← h]
  exact PRs.map fun x _ => R.ev x
theorem q_mkF {g : FuncId} {A B : List Operand} {pa pb : List PV} (ha : Mp (A.map (evE e) = pa)) (hb : Mp (B.map (evE e) = pb)) (hk : pops P Z pr cs K (putE e d (.fn g pa pb)) s) : pops P Z pr (⟨d, none, kp, .f (.mkF (.func g) A B)⟩ :: cs) K e s :=
  p_f (fun f h E i S R => ⟨_, by simp only [FOp.run], PR.fn g pa pb _ _ (R.map ha.o).1 (R.map hb.o).1 (R.map ha.o).2 (R.map hb.o).2⟩) hk
theorem q_ext (hx : Lk (evE e x = .tup l)) (hv : Vl (l[i]? = some p)) (hk : pops P Z pr cs K (putE e d p) s) : pops P Z pr (⟨d, none, kp, .f (.ext x i)⟩ :: cs) K e s :=
  p_f (fun f h E i' S R => by
    obtain ⟨a, h1, h2⟩ := (R.at hx.o).tup_inv
    obtain ⟨v, h3, h4⟩ := h2.get hv.o
    exact ⟨v, by simp only [FOp.run, h1, List.getElem?_toArray, h3, Option.map_some], h4⟩) hk
theorem q_fld {off : Nat} (hx : Lk (evE e x = .agg l)) (hv : Vl (l[off]? = some p)) (hk : pops P Z pr cs K (putE e d p) s) : pops P Z pr (⟨d, none, kp, .f (.fld off none x)⟩ :: cs) K e s :=
  p_f (fun f h E i' S R => by
    obtain ⟨a, h1, h2⟩ := (R.at hx.o).agg_inv
    obtain ⟨v, h3, h4⟩ := h2.get hv.o
    exact ⟨v, by simp only [FOp.run, h1, List.getElem?_toArray, h3, Option.map_some], h4⟩) hk
theorem q_fldn {off : Nat} (hx : Lk (evE e x = .agg l)) (hv : Pu ((l.drop off).take m = c)) (hk : pops P Z pr cs K (putE e d (.agg c)) s) : pops P Z pr (⟨d, none, kp, .f (.fld off (some m) x)⟩ :: cs) K e s :=
  p_f (fun f h E i' S R => by
    obtain ⟨a, h1, h2⟩ := (R.at hx.o).agg_inv
    have h3 := (h2.drop off).take m
    rw [hv.o] at h3
    refine ⟨.agg ((a.drop off).take m).toArray, ?_, .agg _ _ h3.1 h3.2⟩
    simp only [FOp.run, h1, Option.map_some]
    congr 4
    rw [List.extract_toArray, List.extract_eq_take_drop, Nat.add_sub_cancel_left]) hk
def psel (p : PV) (A B : Prop) : Prop := match p with
  | .bool true => A
  | .bool false => B
  | _ => False
def gsel (p : PV) (b : Bool) (A B : Prop) : Prop := match p with
  | .bool x => if x = b then A else B
  | .tup _ => B
  | _ => False
section
variable {A B : Prop}
theorem gs1 (h : A) : gsel (.bool true) true A B := by simpa [gsel] using h
theorem gs2 (h : A) : gsel (.bool false) false A B := by simpa [gsel] using h
theorem gs3 (h : B) : gsel (.bool true) false A B := by simpa [gsel] using h
theorem gs4 (h : B) : gsel (.bool false) true A B := by simpa [gsel] using h
theorem gs5 {l : List PV} {b : Bool} (h : B) : gsel (.tup l) b A B := h
theorem ps1 (h : A) : psel (.bool true) A B := h
theorem ps2 (h : B) : psel (.bool false) A B := h
end
theorem a_pk {f : Fr} {h : Hp} {KK : Fr → Hp → Prop} {t : Bool} (hc : evF f z = .bool t) (hk : aops P pr (⟨d, none, kp, .f (.mv (if t = true then x else y))⟩ :: cs) KK f h) : aops P pr (⟨d, none, kp, .f (.pick z x y)⟩ :: cs) KK f h := by
  unfold aops at hk ⊢
  rw [if_pos (show wantC none f = true from rfl)] at hk ⊢
  obtain ⟨v, k, h1, h2⟩ := hk
  refine ⟨v, k, ?_, h2⟩
  rcases h1 with h1 | ⟨_, _, _, _, _, _, _, h1, _⟩
  · left
    cases t <;> simpa [FOp.run, hc] using h1
  · simp at h1
theorem pk_t (hc : evE e z = .bool true) (hk : pops P Z pr (⟨d, none, kp, .f (.mv x)⟩ :: cs) K e s) : pops P Z pr (⟨d, none, kp, .f (.pick z x y)⟩ :: cs) K e s := fun f h hr => by
  obtain ⟨E, i, S, R⟩ := id hr
  exact a_pk (t := true) (R.at hc).bool_inv (hk f h hr)
theorem pk_f (hc : evE e z = .bool false) (hk : pops P Z pr (⟨d, none, kp, .f (.mv y)⟩ :: cs) K e s) : pops P Z pr (⟨d, none, kp, .f (.pick z x y)⟩ :: cs) K e s := fun f h hr => by
  obtain ⟨E, i, S, R⟩ := id hr
  exact a_pk (t := false) (R.at hc).bool_inv (hk f h hr)
theorem q_pk (hc : Lk (evE e z = p)) (hk : psel p (pops P Z pr (⟨d, none, kp, .f (.mv x)⟩ :: cs) K e s) (pops P Z pr (⟨d, none, kp, .f (.mv y)⟩ :: cs) K e s)) : pops P Z pr (⟨d, none, kp, .f (.pick z x y)⟩ :: cs) K e s := by
  have hc := hc.o
  unfold psel at hk
  split at hk
  · exact pk_t hc hk
  · exact pk_f hc hk
  · exact hk.elim
theorem q_gd {t : Nat} {b : Bool} {op : COp} (hs : Lk (evE e (.tmp t) = p)) (hk : gsel p b (pops P Z pr (⟨d, none, kp, op⟩ :: cs) K e s) (pops P Z (rdO op pr) cs K (putE e d (.tup [])) s)) : pops P Z pr (⟨d, some (t, b), kp, op⟩ :: cs) K e s := fun f h hr => by
  obtain ⟨E, i, S, R⟩ := id hr
  have h1 := R.at hs.o
  have h1 : PR ⟨Hp.mask h E, i, s⟩ p (f t) := h1
  have no : wantC (some (t, b)) f = false → pops P Z (rdO op pr) cs K (putE e d (.tup [])) s → aops P pr (⟨d, some (t, b), kp, op⟩ :: cs) (Lf Z K) f h := fun hw hk => by
    unfold aops
    rw [if_neg (by rw [hw]; simp)]
    exact hk _ _ ⟨E, i, S, R.put (undef_PR _)⟩
  unfold gsel at hk
  split at hk
  · rename_i x
    have h2 := h1.bool_inv
    split at hk
    · rename_i hxb
      have h3 := hk f h hr
      unfold aops at h3 ⊢
      rw [if_pos (show wantC (some (t, b)) f = true by simp [wantC, h2, hxb])]
      rw [if_pos (show wantC none f = true from rfl)] at h3
      exact h3
    · rename_i hxb
      exact no (by simp [wantC, h2, hxb]) hk
  · obtain ⟨a, h2, _⟩ := h1.tup_inv
    exact no (by simp [wantC, h2]) hk
  · exact hk.elim
theorem q_cd {a b : AC} (hc : Lk (evE e z = p)) (hk : psel p (pwp P Z a Q e s) (pwp P Z b Q e s)) : pwp P Z (.cond z a b) Q e s := by
  have hc := hc.o
  unfold psel at hk
  split at hk
  · exact w_cond hc (fun _ => hk) (fun h => by simp at h)
  · exact w_cond hc (fun h => by simp at h) (fun _ => hk)
  · exact hk.elim
/-! struct literals -/
def putP (cs : List PV) (off : Nat) : List PV → List PV
  | [] => cs
  | v :: vs => putP (cs.set off v) (off + 1) vs
theorem PRs.set {X : Cx} {l : List PV} {us : List Value} (h : PRs X l us) (hp : PR X p v) (i : Nat) : PRs X (l.set i p) (us.set i v) :=
  ⟨by simp [h.1], fun j q w hq hw => by
    rw [List.getElem?_set] at hq hw
    by_cases e : i = j
    · subst e
      rw [if_pos rfl] at hq hw
      split at hq
      · rename_i hlt
        rw [if_pos (by rw [← h.1]; exact hlt)] at hw
        obtain rfl := Option.some.inj hq
        obtain rfl := Option.some.inj hw
        exact hp
      · simp at hq
    · rw [if_neg e] at hq hw
      exact h.2 j q w hq hw⟩
theorem putP_PRs {X : Cx} : ∀ {c : List PV} {vs : List Value} (hc : PRs X c vs) {l : List PV} {us : List Value} (hl : PRs X l us) (o : Nat), PRs X (putP l o c) (putAt us o vs)
  | [], vs, hc, l, us, hl, o => by
    have : vs = [] := List.eq_nil_of_length_eq_zero hc.1.symm
    subst this
    exact hl
  | p :: c, vs, hc, l, us, hl, o => by
    obtain ⟨v, t, rfl, h1, h2⟩ := hc.uncons
    exact putP_PRs h2 (hl.set h1 o) (o + 1)
theorem putP_len : ∀ (c l : List PV) (o : Nat), (putP l o c).length = l.length
  | [], l, o => rfl
  | p :: c, l, o => by
    show (putP (l.set o p) (o + 1) c).length = _
    rw [putP_len c]
    simp
def fillP : List PV → List (Nat × Nat) → List PV → Option (List PV)
  | cs, [], [] => some cs
  | cs, (off, size) :: ps, v :: vs => if ((cellsP v).all one1 && (cellsP v).length == size && Nat.ble (off + size) cs.length) = true then fillP (putP cs off (cellsP v)) ps vs else none
  | _, _, _ => none
theorem fillP_run {X : Cx} : ∀ {ps : List (Nat × Nat)} {l : List PV} {us : List Value} {vp : List PV} {vs : List Value} {r : List PV}, fillP l ps vp = some r → PRs X l us → PRs X vp vs → ∃ r', fillL us ps vs = some r' ∧ PRs X r r'
  | [], l, us, vp, vs, r, h, hl, hv => by
    cases vp with
    | nil =>
      have : vs = [] := List.eq_nil_of_length_eq_zero hv.1.symm
      subst this
      obtain rfl : l = r := by simpa [fillP] using h
      exact ⟨us, rfl, hl⟩
    | cons _ _ => simp [fillP] at h
  | (off, size) :: ps, l, us, vp, vs, r, h, hl, hv => by
    cases vp with
    | nil => simp [fillP] at h
    | cons p vp =>
      obtain ⟨v, t, rfl, h1, h2⟩ := hv.uncons
      simp only [fillP] at h
      split at h
      · rename_i hc
        simp only [Bool.and_eq_true, beq_iff_eq] at hc
        obtain ⟨⟨c1, c2⟩, c3⟩ := hc
        obtain ⟨k1, k2⟩ := cellsP_PR h1 rfl c1
        obtain ⟨r', g1, g2⟩ := fillP_run h (putP_PRs k1 hl off) h2
        refine ⟨r', ?_, g2⟩
        simp only [fillL]
        rw [if_pos ⟨by rw [← Array.length_toList, ← k1.1, c2], by rw [← hl.1]; exact Nat.le_of_ble_eq_true c3⟩]
        exact g1
      · simp at h
theorem q_bld {zero : List Value} {ps : List (Nat × Nat)} {xs : List Operand} {vp : List PV} (hx : Mp (xs.map (evE e) = vp)) (hr : Pu (fillP (zero.map ofC) ps vp = some l)) (hk : pops P Z pr cs K (putE e d (.agg l)) s) : pops P Z pr (⟨d, none, kp, .f (.bld zero ps xs)⟩ :: cs) K e s :=
  p_f (fun f h E i' S R => by
    obtain ⟨r', h1, h2⟩ := fillP_run hr.o (ofCs_PR _ zero) (R.map hx.o)
    exact ⟨.agg r'.toArray, by simp only [FOp.run, h1, Option.map_some], .agg _ _ h2.1 h2.2⟩) hk
/-! others -/
theorem q_lns {t : ByteArray} (hx : Lk (evE e x = .str t)) (hk : pops P Z pr cs K (putE e d (.int .i64 t.size)) s) : pops P Z pr (⟨d, none, kp, .f (.len true x)⟩ :: cs) K e s :=
  p_f (fun f h E i S R => ⟨.int .i64 t.size, by simp [FOp.run, (R.at hx.o).str_inv], .int _ _⟩) hk
theorem q_ln {l : List D'.T} (hx : Lk (evE e x = .sl D' l)) (hk : pops P Z pr cs K (putE e d (.int .i64 l.length)) s) : pops P Z pr (⟨d, none, kp, .f (.len false x)⟩ :: cs) K e s :=
  p_f (fun f h E i S R => by
    obtain ⟨A, c, rw, h1, _⟩ := (R.at hx.o).sl_inv'
    exact ⟨.int .i64 l.length, by simp [FOp.run, h1], .int _ _⟩) hk
theorem q_ln0 (hx : Lk (evE e x = .nilS)) (hk : pops P Z pr cs K (putE e d (.int .i64 0)) s) : pops P Z pr (⟨d, none, kp, .f (.len false x)⟩ :: cs) K e s :=
  p_f (fun f h E i S R => ⟨.int .i64 0, by simp [FOp.run, (R.at hx.o).nilS_inv], .int _ _⟩) hk
theorem q_lnO {l : List D'.T} (hx : Lk (evE e x = .osl b n)) (hb : Rf (s[b]? = some (.arr D' l))) (hn : Om (n = l.length)) (hk : pops P Z pr cs K (putE e d (.int .i64 l.length)) s) : pops P Z pr (⟨d, none, kp, .f (.len false x)⟩ :: cs) K e s :=
  p_f (fun f h E i S R => by
    obtain ⟨A, c, us, h1, _⟩ := (As.arr b n D' l hb.o hn.o).view S (R.at hx.o)
    exact ⟨.int .i64 l.length, by simp [FOp.run, h1], .int _ _⟩) hk
theorem q_lnR {es : Nat} (hx : Lk (evE e x = .osl b n)) (hb : Rf (s[b]? = some (.row es n l))) (hk : pops P Z pr cs K (putE e d (.int .i64 n)) s) : pops P Z pr (⟨d, none, kp, .f (.len false x)⟩ :: cs) K e s :=
  p_f (fun f h E i S R => by
    obtain ⟨k, cs, k1, _⟩ := S.ob b _ hb.o
    have k1 : i b = some k := k1
    rcases (R.at hx.o).osl_inv _ _ ⟨_, hb.o, rfl⟩ with h1 | ⟨-, c, hc, hv⟩
    · omega
    · simp only [k1, slV] at hv
      exact ⟨.int .i64 n, by simp [FOp.run, hv], .int _ _⟩) hk
theorem q_mn {k k' : IntKind} {a b c : Int} (hx : Lk (evE e x = .int k a)) (hy : Lk (evE e y = .int k' b)) (hv : Vl ((if b < a then b else a) = c)) (hk : pops P Z pr cs K (putE e d (.int k c)) s) : pops P Z pr (⟨d, none, kp, .f (.mn x y)⟩ :: cs) K e s :=
  p_f (fun f h E i S R => ⟨.int k c, by simp only [FOp.run, (R.at hx.o).int_inv, (R.at hy.o).int_inv, hv.o], .int _ _⟩) hk
theorem q_mx {k k' : IntKind} {a b c : Int} (hx : Lk (evE e x = .int k a)) (hy : Lk (evE e y = .int k' b)) (hv : Vl ((if b > a then b else a) = c)) (hk : pops P Z pr cs K (putE e d (.int k c)) s) : pops P Z pr (⟨d, none, kp, .f (.mx x y)⟩ :: cs) K e s :=
  p_f (fun f h E i S R => ⟨.int k c, by simp only [FOp.run, (R.at hx.o).int_inv, (R.at hy.o).int_inv, hv.o], .int _ _⟩) hk
def isChk : PV → Bool
  | .ptr _ _ | .ref _ _ | .elt _ _ _ _ | .oel _ _ _ _ | .fn _ _ _ | .ifc _ _ => true
  | _ => false
theorem q_chk (hx : Lk (evE e x = p)) (hp : Rf (isChk p = true)) (hk : pops P Z pr cs K (putE e d p) s) : pops P Z pr (⟨d, none, kp, .f (.chk x)⟩ :: cs) K e s :=
  p_f (fun f h E i S R => by
    have h1 := R.at hx.o
    have hp := hp.o
    refine ⟨evF f x, ?_, h1⟩
    simp only [FOp.run]
    unfold isChk at hp
    split at hp
    · obtain ⟨a, h2⟩ := h1.ptr_form; rw [h2]
    · obtain ⟨a, cs, h2, _⟩ := h1.ref_inv; rw [h2]
    · obtain ⟨a, n, c, rw, h2, _⟩ := h1.elt_inv; rw [h2]
    · obtain ⟨a, h2⟩ := h1.oel_form; rw [h2]
    · obtain ⟨a, b, h2, _⟩ := h1.fn_inv; rw [h2]
    · obtain ⟨u, h2, _⟩ := h1.ifc_inv; rw [h2]
    · simp at hp) hk
theorem q_tasY {t : TypeId} {ok : Bool} {zero : Value} (hx : Lk (evE e x = .ifc t p)) (hk : pops P Z pr cs K (putE e d (if ok = true then .tup [p, .bool true] else p)) s) : pops P Z pr (⟨d, none, kp, .f (.tas t ok zero x)⟩ :: cs) K e s :=
  p_f (fun f h E i S R => by
    obtain ⟨u, h1, h2⟩ := (R.at hx.o).ifc_inv
    refine ⟨if ok = true then .tuple #[u, .bool true] else u, by simp only [FOp.run, h1, if_true], ?_⟩
    cases ok
    · exact h2
    · have := PRs.cons h2 (.one (X := ⟨Hp.mask h E, i, s⟩) (.bool true))
      exact .tup _ _ this.1 this.2) hk
theorem q_tasN {t u : TypeId} {zero : Value} (hx : Lk (evE e x = .ifc u p)) (hne : Rf (Nat.beq u t = false)) (hk : pops P Z pr cs K (putE e d (.tup [ofV zero, .bool false])) s) : pops P Z pr (⟨d, none, kp, .f (.tas t true zero x)⟩ :: cs) K e s :=
  p_f (fun f h E i S R => by
    obtain ⟨w, h1, h2⟩ := (R.at hx.o).ifc_inv
    refine ⟨.tuple #[zero, .bool false], ?_, ?_⟩
    · simp only [FOp.run, h1]
      rw [if_neg (Nat.ne_of_beq_eq_false hne.o)]
      simp
    · have := PRs.cons (ofV_PR ⟨Hp.mask h E, i, s⟩ zero) (.one (.bool false))
      exact .tup _ _ this.1 this.2) hk
theorem q_tasI {t : TypeId} {zero : Value} (hx : Lk (evE e x = .nilI)) (hk : pops P Z pr cs K (putE e d (.tup [ofV zero, .bool false])) s) : pops P Z pr (⟨d, none, kp, .f (.tas t true zero x)⟩ :: cs) K e s :=
  p_f (fun f h E i S R => by
    have h1 := (R.at hx.o).nilI_inv
    refine ⟨.tuple #[zero, .bool false], by simp only [FOp.run, h1]; simp, ?_⟩
    have := PRs.cons (ofV_PR ⟨Hp.mask h E, i, s⟩ zero) (.one (.bool false))
    exact .tup _ _ this.1 this.2) hk
def toVs : List PV → Option (List Value)
  | [] => some []
  | p :: l => match toV p, toVs l with
    | some v, some vs => some (v :: vs)
    | _, _ => none
theorem toVs_inv {X : Cx} : ∀ {l : List PV} {us vs : List Value}, toVs l = some us → PRs X l vs → vs = us ∧ us.all (fun | .int _ _ | .bool _ | .string _ => true | _ => false) = true
  | [], us, vs, h, hp => by
    obtain rfl : [] = us := by simpa [toVs] using h
    exact ⟨List.eq_nil_of_length_eq_zero hp.1.symm, rfl⟩
  | p :: l, us, vs, h, hp => by
    obtain ⟨v, t, rfl, h1, h2⟩ := hp.uncons
    unfold toVs at h
    split at h
    · rename_i a b ha hb
      obtain rfl := Option.some.inj h
      obtain ⟨k1, k2⟩ := toVs_inv hb h2
      refine ⟨by rw [k1, toV_inv ha h1], ?_⟩
      rw [List.all_cons, k2, Bool.and_true]
      unfold toV at ha
      split at ha <;> first | (obtain rfl := Option.some.inj ha; rfl) | simp at ha
    · simp at h
/-- Two structs held against each other. -/
theorem q_eqQ {ne q r : Bool} {t : TypeId} {l l' : List PV} {us us' : List Value} (hx : Lk (evE e x = .agg l)) (hy : Lk (evE e y = .agg l')) (h1 : Rf (toVs l = some us)) (h2 : Rf (toVs l' = some us')) (he : ∀ w, (Op.equal t (.agg us.toArray) (.agg us'.toArray)).run P w = .ok r w) (hq : Vl (nb ne r = q)) (hk : pops P Z pr cs K (putE e d (.bool q)) s) : pops P Z pr (⟨d, none, kp, .f (.eqS ne t x y)⟩ :: cs) K e s := fun f h ⟨E, i, S, R⟩ => by
  obtain ⟨a, g1, g2⟩ := (R.at hx.o).agg_inv
  obtain ⟨a', g3, g4⟩ := (R.at hy.o).agg_inv
  obtain ⟨rfl, k1⟩ := toVs_inv h1.o g2
  obtain ⟨rfl, k2⟩ := toVs_inv h2.o g4
  refine s_eqS g1 g3 ?_ he (by rw [hq.o]; exact hk _ _ ⟨E, i, S, R.put (.bool q)⟩)
  rw [List.append_toArray]
  simp only [List.all_toArray, List.all_append]
  rw [Bool.and_eq_true]
  exact ⟨k1, k2⟩
end
end Go.Proofs.Ytalhipbbomagoaa.Pv
