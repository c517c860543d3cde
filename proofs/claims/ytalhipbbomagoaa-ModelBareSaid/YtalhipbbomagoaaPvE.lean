/- States of plain values: the steps that look into memory, make blocks, and write. No statement of the set is proved in this text. -/
import Derived.Test.YtalhipbbomagoaaPvD
import Derived.Test.YtalhipbbomagoaaAbP
namespace Go.Proofs.Ytalhipbbomagoaa.Pv
open Go.RowKit Go.Proofs.Ytalhipbbomagoaa.Ab Go.Proofs.Ytalhipbbomagoaa.AbP
set_option linter.unusedVariables false
set_option linter.unusedSimpArgs false
/-- What a block that is made says. -/
def OBc (X : Cx) (k : Blk) : OB → Prop
  | .dead => True
  | .var l => ∃ cs, k = ⟨cs, 0, true⟩ ∧ cs.all (·.oneCell') = true ∧ PRs X l cs
  | .row es n l => ∃ cs, k = ⟨cs, es, true⟩ ∧ cs.all (·.oneCell') = true ∧ l.length = n * es ∧ PRs X l cs
  | .arr d l => 0 < d.sz ∧ ∃ us, k = ⟨us, d.sz, true⟩ ∧ Chunks (d.Is X.m) l us
theorem OBc.obr {X : Cx} {k : Blk} {o : OB} (hc : OBc X k o) {h : Hp} {E : Nat → Bool} {id b : Nat} (hi : X.i id = some b) (hE : E b = true) (hb : h.blk? b = some k) : OBR X h E id o := by
  cases o with
  | dead => trivial
  | var l => obtain ⟨cs, rfl, h1, h2⟩ := hc; exact ⟨b, cs, hi, hE, hb, h1, h2⟩
  | row es n l => obtain ⟨cs, rfl, h1, h2, h3⟩ := hc; exact ⟨b, cs, hi, hE, hb, h1, h2, h3⟩
  | arr d l => obtain ⟨hd, us, rfl, h1⟩ := hc; exact ⟨hd, .inr ⟨b, us, hi, hE, hb, h1⟩⟩
section
variable {P : Program} {Z : Bs} {K : Env → List OB → Prop} {Q : QP} {e : Env} {s s' : List OB} {cs : List CO} {pr : List Operand} {d : Option Nat} {kp : Bool} {x y z : Operand} {p q r : PV} {u v w : Value} {b o n m i j es : Nat} {l l' c : List PV} {D' : D}
theorem p_mk {fo : FOp} {o' : OB} (hr : ∀ f h E i, SR Z h E i s → ER ⟨Hp.mask h E, i, s⟩ e f → ∃ v k, fo.run P (evF f) h h.next = some (v, some k) ∧ ∀ Y : Cx, Cx.le ⟨Hp.mask h E, i, s⟩ Y → Y.s = s ++ [o'] → Y.i s.length = some h.next → OBc Y k o' ∧ PR Y p v)
    (hs : s ++ [o'] = s') (hk : pops P Z (rdF fo pr) cs K (putE e d p) s') : pops P Z pr (⟨d, none, kp, .f fo⟩ :: cs) K e s := fun f h ⟨E, i, S, R⟩ => by
  subst hs
  obtain ⟨v, k, h1, h2⟩ := hr f h E i S R
  obtain ⟨S', le'⟩ := S.add o' (some h.next) (h.push k) (fun b => b == h.next || E b) rfl (by rw [Hp.next_push]; omega)
    (fun b k' hb => by
      have hlt := (Hp.blk_lt hb).2
      have hne : b ≠ h.next := by omega
      exact ⟨by rw [Hp.blk_push_ne _ _ hne]; exact hb, by simp [hne]⟩)
    (fun b hb => by obtain rfl := Option.some.inj hb; exact Nat.le_refl _)
    (fun le => (h2 _ le rfl (ups_at _ _ _)).1.obr (ups_at _ _ _) (by simp) (Hp.blk_push h k))
  exact s_a h1 (hk _ _ ⟨_, _, S', (R.mono le').put (h2 _ le' rfl (ups_at _ _ _)).2⟩)
theorem q_new {cells : List Value} (hc : Rf (cells.all (·.oneCell') = true)) (hn : Pu (s.length = n)) (hs : Pu (s ++ [.var (cells.map ofC)] = s')) (hk : pops P Z pr cs K (putE e d (.ptr n 0)) s') : pops P Z pr (⟨d, none, kp, .f (.new cells)⟩ :: cs) K e s :=
  p_mk (o' := .var (cells.map ofC)) (fun f h E i S R => ⟨.pointer (some ⟨h.next, 0, none⟩), ⟨cells, 0, true⟩, by simp only [FOp.run], fun Y hle h1 h2 => ⟨⟨cells, rfl, hc.o, ofCs_PR Y cells⟩, by
    rw [hn.o] at h2
    refine .ptr n 0 _ ⟨_, rfl⟩ (by rw [h1, List.length_append, hn.o]; simp) (fun _ => ⟨_, h2, rfl⟩)⟩⟩) hs.o hk
theorem q_box (hx : Lk (evE e x = p)) (hc : Pu (cellsP p = c)) (h1 : Rf (c.all one1 = true)) (hn : Pu (s.length = n)) (hs : Pu (s ++ [.var c] = s')) (hk : pops P Z pr cs K (putE e d (.ptr n 0)) s') : pops P Z pr (⟨d, none, kp, .f (.box x)⟩ :: cs) K e s :=
  p_mk (o' := .var c) (fun f h E i S R => by
    obtain ⟨k1, k2⟩ := cellsP_PR (R.at hx.o) hc.o h1.o
    refine ⟨.pointer (some ⟨h.next, 0, none⟩), ⟨(evF f x).cells.toList, 0, true⟩, by simp only [FOp.run]; rw [if_pos k2], fun Y hle g1 g2 => ⟨⟨_, rfl, k2, k1.mono hle⟩, ?_⟩⟩
    rw [hn.o] at g2
    exact .ptr n 0 _ ⟨_, rfl⟩ (by rw [g1, List.length_append, hn.o]; simp) (fun _ => ⟨_, g2, rfl⟩)) hs.o hk
theorem rep_zeros (z : Value) (n : Nat) : zerosOf 1 [z] n = List.replicate n z := by
  unfold zerosOf
  rw [Nat.mul_one]
  apply List.ext_getElem
  · simp
  · intro i h1 h2
    simp [Nat.mod_one]
theorem Chunks_rep {m : Hp} {d : D} {z : d.T} {v : Value} (h : d.Is m z [v]) : ∀ n : Nat, Chunks (d.Is m) (List.replicate n z) (List.replicate n v)
  | 0 => rfl
  | n + 1 => ⟨[v], _, by rw [List.replicate_succ]; rfl, h, Chunks_rep h n⟩
/-- A slice made, of zeros. -/
theorem mk_rep {bytes : Nat} {k k' : IntKind} {a : Int} {z : D'.T} {zv : Value} (hz : ∀ m : Hp, D'.Is m z [zv]) (hsz : D'.sz = 1) (hx : evE e x = .int k a) (hy : evE e y = .int k' a) (h0 : 0 ≤ a) (h1 : (bytes : Int) * a ≤ 2 ^ 48) (h2 : a < 2 ^ 62) (hj : a.toNat = m) (hn : s.length = n) (hs : s ++ [.arr D' (List.replicate m z)] = s')
    (hk : pops P Z pr cs K (putE e d (.osl n m)) s') : pops P Z pr (⟨d, none, kp, .f (.mks 1 bytes [zv] x y)⟩ :: cs) K e s := by
  subst hj
  refine p_mk (o' := .arr D' (List.replicate a.toNat z)) (fun f h E i S R => ⟨.slice (some ⟨h.next, 0, none⟩) a.toNat a.toNat, ⟨zerosOf 1 [zv] a.toNat, 1, true⟩, by simp only [FOp.run, (R.at hx).int_inv, (R.at hy).int_inv]; rw [if_pos ⟨trivial, h0, h1, h2⟩], fun Y hle g1 g2 => ⟨⟨by omega, List.replicate a.toNat zv, by rw [hsz, rep_zeros], Chunks_rep (hz _) _⟩, ?_⟩⟩) hs hk
  rw [hn] at g2
  refine .osl n _ _ ⟨_, _, _, rfl⟩ (by rw [g1, List.length_append, hn]; simp) (fun es' n' hl => .inr ⟨?_, _, .inl rfl, by rw [g2]; rfl⟩)
  obtain ⟨o, ho, hsig⟩ := hl
  rw [g1, ← hn] at ho
  simp only [List.getElem?_append_right, Nat.le_refl, Nat.sub_self, List.getElem?_cons_zero] at ho
  obtain rfl := Option.some.inj ho
  simp only [OB.sig, List.length_replicate, Option.some.injEq, Prod.mk.injEq] at hsig
  exact hsig.2
theorem q_mksI {bytes : Nat} {k0 k k' : IntKind} {a : Int} (hx : Lk (evE e x = .int k a)) (hy : Lk (evE e y = .int k' a)) (h0 : Om (0 ≤ a)) (h1 : Om ((bytes : Int) * a ≤ 2 ^ 48)) (h2 : Om (a < 2 ^ 62)) (hj : Vl (a.toNat = m)) (hn : Pu (s.length = n)) (hs : Pu (s ++ [.arr (.int k0) (List.replicate m (0 : Int))] = s'))
    (hk : pops P Z pr cs K (putE e d (.osl n m)) s') : pops P Z pr (⟨d, none, kp, .f (.mks 1 bytes [.int k0 0] x y)⟩ :: cs) K e s :=
  mk_rep (D' := .int k0) (z := (0 : Int)) (fun m => rfl) rfl hx.o hy.o h0.o h1.o h2.o hj.o hn.o hs.o hk
theorem q_mksB {bytes : Nat} {k k' : IntKind} {a : Int} (hx : Lk (evE e x = .int k a)) (hy : Lk (evE e y = .int k' a)) (h0 : Om (0 ≤ a)) (h1 : Om ((bytes : Int) * a ≤ 2 ^ 48)) (h2 : Om (a < 2 ^ 62)) (hj : Vl (a.toNat = m)) (hn : Pu (s.length = n)) (hs : Pu (s ++ [.arr .bool (List.replicate m false)] = s'))
    (hk : pops P Z pr cs K (putE e d (.osl n m)) s') : pops P Z pr (⟨d, none, kp, .f (.mks 1 bytes [.bool false] x y)⟩ :: cs) K e s :=
  mk_rep (D' := .bool) (z := false) (fun m => rfl) rfl hx.o hy.o h0.o h1.o h2.o hj.o hn.o hs.o hk
def flatP (es : Nat) : List PV → Option (List PV)
  | [] => some []
  | p :: l => if ((cellsP p).all one1 && (cellsP p).length == es) = true then (flatP es l).map (cellsP p ++ ·) else none
theorem flatP_run {X : Cx} : ∀ {l : List PV} {us : List Value} {c : List PV}, flatP es l = some c → PRs X l us → ∃ r, flatOf es us = some r ∧ PRs X c r ∧ r.all (·.oneCell') = true ∧ c.length = l.length * es
  | [], us, c, h, hl => by
    have : us = [] := List.eq_nil_of_length_eq_zero hl.1.symm
    subst this
    obtain rfl : [] = c := by simpa [flatP] using h
    exact ⟨[], rfl, .nil X, rfl, by simp⟩
  | p :: l, us, c, h, hl => by
    obtain ⟨v, t, rfl, h1, h2⟩ := hl.uncons
    simp only [flatP] at h
    split at h
    · rename_i hc
      simp only [Bool.and_eq_true, beq_iff_eq] at hc
      obtain ⟨c', hc', rfl⟩ := Option.map_eq_some_iff.1 h
      obtain ⟨k1, k2⟩ := cellsP_PR h1 rfl hc.1
      obtain ⟨r, g1, g2, g3, g4⟩ := flatP_run hc' h2
      refine ⟨v.cells.toList ++ r, ?_, k1.append g2, by rw [List.all_append, k2, g3]; rfl, by rw [List.length_append, hc.2, g4, List.length_cons, Nat.succ_mul, Nat.add_comm]⟩
      unfold flatOf
      rw [if_pos ⟨by rw [← Array.length_toList, ← k1.1, hc.2], k2⟩, g1]
      rfl
    · simp at h
theorem q_bsl {xs : List Operand} {ps : List PV} (hx : Mp (xs.map (evE e) = ps)) (hf : Pu (flatP es ps = some c)) (hm : Pu (ps.length = m)) (hn : Pu (s.length = n)) (hs : Pu (s ++ [.row es m c] = s')) (hk : pops P Z pr cs K (putE e d (.osl n m)) s') : pops P Z pr (⟨d, none, kp, .f (.bsl es xs)⟩ :: cs) K e s :=
  p_mk (o' := .row es m c) (fun f h E i S R => by
    have hp := R.map hx.o
    obtain ⟨r, g1, g2, g3, g4⟩ := flatP_run hf.o hp
    have hlen : xs.length = m := by rw [← hm.o, hp.1, List.length_map]
    refine ⟨.slice (some ⟨h.next, 0, none⟩) xs.length xs.length, ⟨r, es, true⟩, by simp only [FOp.run, g1, Option.map_some], fun Y hle q1 q2 => ⟨⟨r, rfl, g3, by rw [g4, hm.o], g2.mono hle⟩, ?_⟩⟩
    rw [hn.o] at q2
    rw [hlen]
    refine .osl n m _ ⟨_, _, _, rfl⟩ (by rw [q1, List.length_append, hn.o]; simp) (fun es' n' hl => .inr ⟨?_, _, .inl rfl, by rw [q2]; rfl⟩)
    obtain ⟨o, ho, hsig⟩ := hl
    rw [q1, ← hn.o] at ho
    simp only [List.getElem?_append_right, Nat.le_refl, Nat.sub_self, List.getElem?_cons_zero] at ho
    obtain rfl := Option.some.inj ho
    simp only [OB.sig, Option.some.injEq, Prod.mk.injEq] at hsig
    exact hsig.2) hs.o hk
/-- a string's bytes -/
def bytI (t : ByteArray) : List Int := t.data.toList.map fun b => (b.toNat : Int)
theorem bytI_len (t : ByteArray) : (bytI t).length = t.size := by
  unfold bytI
  rw [List.length_map, Array.length_toList]
  rfl
theorem Chunks_map {m : Hp} {k : IntKind} : ∀ l : List Int, Chunks ((D.int k).Is m) l (l.map (Value.int k))
  | [] => rfl
  | x :: l => ⟨[.int k x], l.map (Value.int k), rfl, rfl, Chunks_map l⟩
theorem bytesOf_map (t : ByteArray) : bytesOf t = (bytI t).map (Value.int .u8) := by
  unfold bytesOf bytI
  rw [List.map_map]
  rfl
theorem q_s2b {t : ByteArray} (hx : Lk (evE e x = .str t)) (hn : Pu (s.length = n)) (hs : Pu (s ++ [.arr (.int .u8) (bytI t)] = s')) (hk : pops P Z pr cs K (putE e d (.osl n (bytI t).length)) s') : pops P Z pr (⟨d, none, kp, .f (.s2b x)⟩ :: cs) K e s :=
  p_mk (o' := .arr (.int .u8) (bytI t)) (fun f h E i S R => by
    refine ⟨.slice (some ⟨h.next, 0, none⟩) t.size (t.size + 1), ⟨bytesOf t, 1, true⟩, by simp only [FOp.run, (R.at hx.o).str_inv], fun Y hle g1 g2 => ⟨⟨by decide, (bytI t).map (Value.int .u8), by rw [bytesOf_map]; rfl, Chunks_map _⟩, ?_⟩⟩
    rw [hn.o] at g2
    rw [bytI_len]
    refine .osl n _ _ ⟨_, _, _, rfl⟩ (by rw [g1, List.length_append, hn.o]; simp) (fun es' n' hl => .inr ⟨?_, _, .inr rfl, by rw [g2]; rfl⟩)
    obtain ⟨o, ho, hsig⟩ := hl
    rw [g1, ← hn.o] at ho
    simp only [List.getElem?_append_right, Nat.le_refl, Nat.sub_self, List.getElem?_cons_zero] at ho
    obtain rfl := Option.some.inj ho
    simp only [OB.sig, Option.some.injEq, Prod.mk.injEq] at hsig
    rw [← hsig.2]
    exact (bytI_len t).symm) hs.o hk
/-! loads -/
theorem q_ldV (hx : Lk (evE e x = .ptr b o)) (hb : Rf (s[b]? = some (.var l))) (hv : Rf (l[o]? = some p)) (hk : pops P Z (x :: pr) cs K (putE e d p) s) : pops P Z pr (⟨d, none, kp, .f (.ld none x)⟩ :: cs) K e s :=
  p_f (fun f h E i S R => by
    obtain ⟨k, cs, q1, q2, q3, q4, q5⟩ := own_cells S hb.o
    obtain ⟨k', q6, hv'⟩ := (R.at hx.o).ptr_inv ⟨_, hb.o, rfl⟩
    have q6 : i b = some k' := q6
    rw [q1] at q6
    obtain rfl := Option.some.inj q6
    obtain ⟨v, k1, k2⟩ := q5.get hv.o
    exact ⟨v, by simp only [FOp.run, hv', blk_cell q3 rfl k1, Option.map_some], k2⟩) hk
theorem q_ldVn (hx : Lk (evE e x = .ptr b o)) (hb : Rf (s[b]? = some (.var l))) (hl : Rf (Nat.ble (o + n) l.length = true)) (hv : Pu ((l.drop o).take n = c)) (hk : pops P Z (x :: pr) cs K (putE e d (.agg c)) s) : pops P Z pr (⟨d, none, kp, .f (.ld (some n) x)⟩ :: cs) K e s :=
  p_f (fun f h E i S R => by
    obtain ⟨k, cs, q1, q2, q3, q4, q5⟩ := own_cells S hb.o
    obtain ⟨k', q6, hv'⟩ := (R.at hx.o).ptr_inv ⟨_, hb.o, rfl⟩
    have q6 : i b = some k' := q6
    rw [q1] at q6
    obtain rfl := Option.some.inj q6
    have k1 := (q5.drop o).take n
    rw [hv.o] at k1
    exact ⟨.agg ((cs.drop o).take n).toArray, by simp only [FOp.run, hv', blk_cells' q3 rfl (by show o + n ≤ cs.length; rw [← q5.1]; exact Nat.le_of_ble_eq_true hl.o), Option.map_some], .agg _ _ k1.1 k1.2⟩) hk
theorem rw_at {m : Hp} {l : List D'.T} {rw : List Value} (hc : Chunks (D'.Is m) l rw) {x : D'.T} (hi : l[i]? = some x) : ((rw.drop (i * D'.sz)).take D'.sz).length = D'.sz := D.Is_len _ _ _ (Chunks_get hc hi)
theorem drop_take_get {α : Type} (l : List α) (k n o : Nat) (ho : o < n) : ((l.drop k).take n)[o]? = l[k + o]? := by
  rw [List.getElem?_take, if_pos ho, List.getElem?_drop]
theorem q_ldE {l : List D'.T} {x' : D'.T} (hx : Lk (evE e x = .elt D' l i o)) (hi : Am (l[i]? = some x')) (hv : Vl ((encP D' x')[o]? = some p)) (hk : pops P Z (x :: pr) cs K (putE e d p) s) : pops P Z pr (⟨d, none, kp, .f (.ld none x)⟩ :: cs) K e s :=
  p_f (fun f h E i' S R => by
    obtain ⟨a, n, c, rw, h1, h2, h3, h4, h5⟩ := (R.at hx.o).elt_inv
    have k1 := encP_of (X := ⟨Hp.mask h E, i', s⟩) _ _ _ (Chunks_get h5 hi.o)
    obtain ⟨v, k2, k3⟩ := k1.get hv.o
    have ho : o < D'.sz := by rw [← encP_len D' x']; exact (List.getElem?_eq_some_iff.1 hv.o).1
    rw [drop_take_get _ _ _ _ ho] at k2
    exact ⟨v, by simp only [FOp.run, h1, (mask_sub h E).cell _ _ (rowV_cell h4 k2), Option.map_some], k3⟩) hk
theorem q_ldI {k : IntKind} {l : List Int} (hx : Lk (evE e x = .elt (.int k) l i 0)) (hk : pops P Z (x :: pr) cs K (putE e d (.int k (l.getD i 0))) s) : pops P Z pr (⟨d, none, kp, .f (.ld none x)⟩ :: cs) K e s :=
  p_f (fun f h E i' S R => by
    obtain ⟨a, n, c, rw, h1, h2, h3, h4, h5⟩ := (R.at hx.o).elt_inv
    have e1 := Chunks_int h5
    subst e1
    have k2 : (l.map (Value.int k))[i * (D.int k).sz + 0]? = some (.int k (l.getD i 0)) := by
      have h2' : i < l.length := h2
      show (l.map (Value.int k))[i * 1 + 0]? = _
      rw [Nat.mul_one, Nat.add_zero, List.getElem?_map, List.getD_eq_getElem?_getD, List.getElem?_eq_getElem h2']
      rfl
    exact ⟨_, by simp only [FOp.run, h1, (mask_sub h E).cell _ _ (rowV_cell h4 k2), Option.map_some], .int _ _⟩) hk
theorem cells_add {h : Hp} {a : Addr} (hs : a.spot = none) {rw : List Value} {N k n : Nat} (hr : h.cells? a N = some rw) (hk : k + n ≤ N) : h.cells? (a.add k) n = some ((rw.drop k).take n) := by
  have hN := cellsFrom_len _ _ _ hr
  have : ∀ (n j : Nat), k + j + n ≤ N → h.cellsFrom (a.add k) j n = some ((rw.drop (k + j)).take n) := by
    intro n
    induction n with
    | zero => intro j hj; simp [Hp.cellsFrom]
    | succ n ih =>
      intro j hj
      have hlt : k + j < rw.length := by omega
      have h1 := cellsFrom_get _ _ _ hr (k + j) rw[k + j] (by simp [hlt])
      rw [Nat.zero_add] at h1
      simp only [Hp.cellsFrom]
      rw [Ab.add_add _ _ _ hs, h1]
      simp only
      rw [ih (j + 1) (by omega), List.drop_eq_getElem_cons hlt]
      rfl
  have h0 := this n 0 (by omega)
  exact h0
theorem q_ldEn {l : List D'.T} {x' : D'.T} (hx : Lk (evE e x = .elt D' l i o)) (hi : Am (l[i]? = some x')) (hl : Rf (Nat.ble (o + n) D'.sz = true)) (hv : Pu (((encP D' x').drop o).take n = c)) (hk : pops P Z (x :: pr) cs K (putE e d (.agg c)) s) : pops P Z pr (⟨d, none, kp, .f (.ld (some n) x)⟩ :: cs) K e s :=
  p_f (fun f h E i' S R => by
    obtain ⟨a, N, cc, rw, h1, h2, h3, h4, h5⟩ := (R.at hx.o).elt_inv
    have k1 := ((encP_of (X := ⟨Hp.mask h E, i', s⟩) _ _ _ (Chunks_get h5 hi.o)).drop o).take n
    rw [hv.o] at k1
    have hln := Nat.le_of_ble_eq_true hl.o
    have hrl := Chunks_len h5
    have hsp := rowV_spot h4 (by rw [hrl]; exact Nat.mul_pos (by omega) h3)
    have hb : (i + 1) * D'.sz ≤ l.length * D'.sz := Nat.mul_le_mul_right _ (by omega)
    have hN : rw.length = N * D'.sz := rowV_len h4
    rw [Nat.succ_mul] at hb
    have k2 := cells_add hsp (k := i * D'.sz + o) (n := n) (show (Hp.mask h E).cells? a (N * D'.sz) = some rw from h4) (by omega)
    have e1 : (((rw.drop (i * D'.sz)).take D'.sz).drop o).take n = (rw.drop (i * D'.sz + o)).take n := by
      rw [List.drop_take, List.drop_drop, List.take_take, Nat.min_eq_left (by omega)]
    rw [e1] at k1
    exact ⟨.agg ((rw.drop (i * D'.sz + o)).take n).toArray, by simp only [FOp.run, h1, show h.cells? (a.add (i * D'.sz + o)) n = _ from (mask_sub h E).cellsFrom _ _ _ k2, Option.map_some], .agg _ _ k1.1 k1.2⟩) hk
theorem q_ldR {N : List PV} (hx : Lk (evE e x = .ref N o)) (hv : Vl (N[o]? = some p)) (hk : pops P Z (x :: pr) cs K (putE e d p) s) : pops P Z pr (⟨d, none, kp, .f (.ld none x)⟩ :: cs) K e s :=
  p_f (fun f h E i' S R => by
    obtain ⟨a, cs, h1, h2, h3, h4⟩ := (R.at hx.o).ref_inv
    obtain ⟨v, k1, k2⟩ := h4.get hv.o
    have := cellsFrom_get _ _ _ h3 o v k1
    rw [Nat.zero_add] at this
    exact ⟨v, by simp only [FOp.run, h1, (mask_sub h E).cell _ _ this, Option.map_some], k2⟩) hk
theorem q_ldRn {N : List PV} (hx : Lk (evE e x = .ref N o)) (hl : Rf (Nat.ble (o + n) N.length = true)) (hv : Pu ((N.drop o).take n = c)) (hk : pops P Z (x :: pr) cs K (putE e d (.agg c)) s) : pops P Z pr (⟨d, none, kp, .f (.ld (some n) x)⟩ :: cs) K e s :=
  p_f (fun f h E i' S R => by
    obtain ⟨a, cs, h1, h2, h3, h4⟩ := (R.at hx.o).ref_inv
    have k1 := (h4.drop o).take n
    rw [hv.o] at k1
    have k2 := cells_add h2 (k := o) (n := n) h3 (Nat.le_of_ble_eq_true hl.o)
    exact ⟨.agg ((cs.drop o).take n).toArray, by simp only [FOp.run, h1, show h.cells? (a.add o) n = _ from (mask_sub h E).cellsFrom _ _ _ k2, Option.map_some], .agg _ _ k1.1 k1.2⟩) hk
theorem arr_at {h : Hp} {E : Nat → Bool} {i : Nat → Option Nat} (S : SR Z h E i s) {l : List D'.T} (hb : s[b]? = some (.arr D' l)) (h0 : 0 < l.length) : ∃ k us, i b = some k ∧ E k = true ∧ h.blk? k = some ⟨us, D'.sz, true⟩ ∧ Chunks (D'.Is (Hp.mask h E)) l us ∧ 0 < D'.sz := by
  obtain ⟨hd, ⟨k1, rfl⟩ | ⟨k, us, k1, k2, k3, k4⟩⟩ := S.ob b _ hb
  · simp at h0
  · exact ⟨k, us, k1, k2, k3, k4, hd⟩
theorem q_ldO {l : List D'.T} {x' : D'.T} (hx : Lk (evE e x = .oel b n i o)) (hb : Rf (s[b]? = some (.arr D' l))) (hn : Om (n = l.length)) (hi : Am (l[i]? = some x')) (hv : Vl ((encP D' x')[o]? = some p)) (hk : pops P Z (x :: pr) cs K (putE e d p) s) : pops P Z pr (⟨d, none, kp, .f (.ld none x)⟩ :: cs) K e s :=
  p_f (fun f h E i' S R => by
    have hlt := (List.getElem?_eq_some_iff.1 hi.o).1
    have hn := hn.o
    obtain ⟨k, us, k1, k2, k3, k4, k5⟩ := arr_at S hb.o (by omega)
    rcases (R.at hx.o).oel_inv _ _ ⟨_, hb.o, rfl⟩ with h1 | ⟨-, h2, k', h3, h4⟩
    · omega
    · have h3 : i' b = some k' := h3
      rw [k1] at h3
      obtain rfl := Option.some.inj h3
      have g1 := encP_of (X := ⟨Hp.mask h E, i', s⟩) _ _ _ (Chunks_get k4 hi.o)
      obtain ⟨v, g2, g3⟩ := g1.get hv.o
      have ho : o < D'.sz := by rw [← encP_len D' x']; exact (List.getElem?_eq_some_iff.1 hv.o).1
      rw [drop_take_get _ _ _ _ ho] at g2
      exact ⟨v, by simp only [FOp.run, h4, blk_cell k3 rfl g2, Option.map_some], g3⟩) hk
theorem q_ldOI {k : IntKind} {l : List Int} (hx : Lk (evE e x = .oel b n i 0)) (hb : Rf (s[b]? = some (.arr (.int k) l))) (hn : Om (n = l.length)) (hi : Om (i < l.length)) (hk : pops P Z (x :: pr) cs K (putE e d (.int k (l.getD i 0))) s) : pops P Z pr (⟨d, none, kp, .f (.ld none x)⟩ :: cs) K e s := by
  refine q_ldO (D' := .int k) (x' := (l.getD i 0 : Int)) hx hb hn ⟨?_⟩ ⟨rfl⟩ hk
  show l[i]? = some (l.getD i 0)
  rw [List.getD_eq_getElem?_getD, List.getElem?_eq_getElem hi.o]
  rfl
theorem q_ldOn {l : List D'.T} {x' : D'.T} (hx : Lk (evE e x = .oel b n i o)) (hb : Rf (s[b]? = some (.arr D' l))) (hn : Om (n = l.length)) (hi : Am (l[i]? = some x')) (hl : Rf (Nat.ble (o + m) D'.sz = true)) (hv : Pu (((encP D' x').drop o).take m = c)) (hk : pops P Z (x :: pr) cs K (putE e d (.agg c)) s) : pops P Z pr (⟨d, none, kp, .f (.ld (some m) x)⟩ :: cs) K e s :=
  p_f (fun f h E i' S R => by
    have hlt := (List.getElem?_eq_some_iff.1 hi.o).1
    have hn := hn.o
    obtain ⟨k, us, k1, k2, k3, k4, k5⟩ := arr_at S hb.o (by omega)
    rcases (R.at hx.o).oel_inv _ _ ⟨_, hb.o, rfl⟩ with h1 | ⟨-, h2, k', h3, h4⟩
    · omega
    · have h3 : i' b = some k' := h3
      rw [k1] at h3
      obtain rfl := Option.some.inj h3
      have g1 := ((encP_of (X := ⟨Hp.mask h E, i', s⟩) _ _ _ (Chunks_get k4 hi.o)).drop o).take m
      rw [hv.o] at g1
      have hln := Nat.le_of_ble_eq_true hl.o
      have hrl := Chunks_len k4
      have hb' : (i + 1) * D'.sz ≤ l.length * D'.sz := Nat.mul_le_mul_right _ (by omega)
      rw [Nat.succ_mul] at hb'
      have e1 : (((us.drop (i * D'.sz)).take D'.sz).drop o).take m = (us.drop (i * D'.sz + o)).take m := by
        rw [List.drop_take, List.drop_drop, List.take_take, Nat.min_eq_left (by omega)]
      rw [e1] at g1
      exact ⟨.agg ((us.drop (i * D'.sz + o)).take m).toArray, by simp only [FOp.run, h4, blk_cells' k3 rfl (show i * D'.sz + o + m ≤ us.length by omega), Option.map_some], .agg _ _ g1.1 g1.2⟩) hk
theorem q_ldW (hx : Lk (evE e x = .oel b n i o)) (hb : Rf (s[b]? = some (.row es n l))) (hv : Vl (l[i * es + o]? = some p)) (hk : pops P Z (x :: pr) cs K (putE e d p) s) : pops P Z pr (⟨d, none, kp, .f (.ld none x)⟩ :: cs) K e s :=
  p_f (fun f h E i' S R => by
    obtain ⟨k, cs, k1, k2, k3, k4, k5, k6⟩ := S.ob b _ hb.o
    rcases (R.at hx.o).oel_inv _ _ ⟨_, hb.o, rfl⟩ with h1 | ⟨-, h2, k', h3, h4⟩
    · omega
    · have h3 : i' b = some k' := h3
      have k1 : i' b = some k := k1
      rw [k1] at h3
      obtain rfl := Option.some.inj h3
      obtain ⟨v, g1, g2⟩ := k6.get hv.o
      exact ⟨v, by simp only [FOp.run, h4, blk_cell k3 rfl g1, Option.map_some], g2⟩) hk
/-! addresses -/
theorem q_iad {k : IntKind} {a : Int} {l : List D'.T} (hx : Lk (evE e x = .sl D' l)) (hy : Lk (evE e y = .int k a)) (h0 : Om (0 ≤ a)) (h1 : Om (a < l.length)) (hj : Vl (a.toNat = i)) (he : Rf (Nat.beq D'.sz es = true)) (hd : Rf (Nat.blt 0 es = true)) (hk : pops P Z pr cs K (putE e d (.elt D' l i 0)) s) : pops P Z pr (⟨d, none, kp, .f (.iad es x y)⟩ :: cs) K e s :=
  p_f (fun f h E i' S R => by
    obtain ⟨A, c, rw, g1, g0, g2, g3⟩ := (R.at hx.o).sl_inv'
    have h0 := h0.o
    have h1 := h1.o
    have he := Nat.eq_of_beq_eq_true he.o
    have hd := Nat.le_of_ble_eq_true hd.o
    have hj := hj.o
    obtain ⟨a', rfl⟩ := rowV_some g2 (by omega)
    refine ⟨.pointer (some (a'.add (a.toNat * es))), by simp only [FOp.run, g1, (R.at hy.o).int_inv]; rw [if_pos ⟨h0, h1⟩], ?_⟩
    subst he hj
    exact .elt D' l a.toNat 0 a' _ _ rw (by omega) (by omega) g2 g3) hk
theorem q_iadO {k : IntKind} {a : Int} {l : List D'.T} (hx : Lk (evE e x = .osl b n)) (hy : Lk (evE e y = .int k a)) (hb : Rf (s[b]? = some (.arr D' l))) (hn : Om (n = l.length)) (h0 : Om (0 ≤ a)) (h1 : Om (a < l.length)) (hj : Vl (a.toNat = i)) (he : Rf (Nat.beq D'.sz es = true)) (hk : pops P Z pr cs K (putE e d (.oel b n i 0)) s) : pops P Z pr (⟨d, none, kp, .f (.iad es x y)⟩ :: cs) K e s :=
  p_f (fun f h E i' S R => by
    have h0 := h0.o
    have h1 := h1.o
    have hn := hn.o
    have he := Nat.eq_of_beq_eq_true he.o
    have hj := hj.o
    obtain ⟨k, us, k1, k2, k3, k4, k5⟩ := arr_at S hb.o (by omega)
    rcases (R.at hx.o).osl_inv _ _ ⟨_, hb.o, rfl⟩ with g1 | ⟨-, c, hc, hv⟩
    · omega
    · simp only [k1, slV] at hv
      refine ⟨.pointer (some ⟨k, a.toNat * es, none⟩), by simp only [FOp.run, hv, (R.at hy.o).int_inv]; rw [if_pos ⟨h0, by omega⟩, add_b, Nat.zero_add], ?_⟩
      subst he hj
      refine .oel b n _ 0 _ ⟨_, rfl⟩ (List.getElem?_eq_some_iff.1 hb.o).1 (fun es' n' hl => ?_)
      obtain ⟨o, ho, hsig⟩ := hl
      have ho : s[b]? = some o := ho
      rw [hb.o] at ho
      obtain rfl := Option.some.inj ho
      simp only [OB.sig, Option.some.injEq, Prod.mk.injEq] at hsig
      exact .inr ⟨by omega, by omega, k, k1, by rw [hsig.1]; rfl⟩) hk
theorem q_iadR {k : IntKind} {a : Int} (hx : Lk (evE e x = .osl b n)) (hy : Lk (evE e y = .int k a)) (hb : Rf (s[b]? = some (.row es n l))) (h0 : Om (0 ≤ a)) (h1 : Om (a < n)) (hj : Vl (a.toNat = i)) (hk : pops P Z pr cs K (putE e d (.oel b n i 0)) s) : pops P Z pr (⟨d, none, kp, .f (.iad es x y)⟩ :: cs) K e s :=
  p_f (fun f h E i' S R => by
    have h0 := h0.o
    have h1 := h1.o
    have hj := hj.o
    obtain ⟨k, cs, k1, k2, k3, k4, k5, k6⟩ := S.ob b _ hb.o
    rcases (R.at hx.o).osl_inv _ _ ⟨_, hb.o, rfl⟩ with g1 | ⟨-, c, hc, hv⟩
    · omega
    · have k1 : i' b = some k := k1
      simp only [k1, slV] at hv
      refine ⟨.pointer (some ⟨k, a.toNat * es, none⟩), by simp only [FOp.run, hv, (R.at hy.o).int_inv]; rw [if_pos ⟨h0, by omega⟩, add_b, Nat.zero_add], ?_⟩
      subst hj
      refine .oel b n _ 0 _ ⟨_, rfl⟩ (List.getElem?_eq_some_iff.1 hb.o).1 (fun es' n' hl => ?_)
      obtain ⟨o, ho, hsig⟩ := hl
      have ho : s[b]? = some o := ho
      rw [hb.o] at ho
      obtain rfl := Option.some.inj ho
      simp only [OB.sig, Option.some.injEq, Prod.mk.injEq] at hsig
      exact .inr ⟨by omega, by omega, k, k1, by rw [hsig.1]; rfl⟩) hk
theorem q_fadV {off : Nat} (hx : Lk (evE e x = .ptr b o)) (hb : Rf (s[b]? = some (.var l))) (hj : Pu (o + off = j)) (hk : pops P Z pr cs K (putE e d (.ptr b j)) s) : pops P Z pr (⟨d, none, kp, .f (.fad off x)⟩ :: cs) K e s :=
  p_f (fun f h E i S R => by
    obtain ⟨k, q6, hv'⟩ := (R.at hx.o).ptr_inv ⟨_, hb.o, rfl⟩
    refine ⟨.pointer (some ⟨k, o + off, none⟩), by simp [FOp.run, hv', add_b], ?_⟩
    rw [hj.o]
    exact .ptr b j _ ⟨_, rfl⟩ (List.getElem?_eq_some_iff.1 hb.o).1 (fun _ => ⟨k, q6, rfl⟩)) hk
theorem q_fadE {off : Nat} {l : List D'.T} (hx : Lk (evE e x = .elt D' l i o)) (hj : Pu (o + off = j)) (hk : pops P Z pr cs K (putE e d (.elt D' l i j)) s) : pops P Z pr (⟨d, none, kp, .f (.fad off x)⟩ :: cs) K e s :=
  p_f (fun f h E i' S R => by
    obtain ⟨a, n, c, rw, h1, h2, h3, h4, h5⟩ := (R.at hx.o).elt_inv
    have hsp := rowV_spot h4 (by rw [Chunks_len h5]; exact Nat.mul_pos (by omega) h3)
    have hsp2 : (a.add (i * D'.sz + o)).spot = none := by unfold Addr.add; split <;> first | exact hsp | rfl
    refine ⟨.pointer (some (a.add (i * D'.sz + (o + off)))), by simp only [FOp.run, h1, hsp2, Option.isSome_none, Bool.false_eq_true, if_false]; rw [Ab.add_add _ _ _ hsp, Nat.add_assoc], ?_⟩
    rw [hj.o]
    exact .elt D' l i j a n c rw h2 h3 h4 h5) hk
theorem q_fadR {off : Nat} {N : List PV} (hx : Lk (evE e x = .ref N o)) (hj : Pu (o + off = j)) (hk : pops P Z pr cs K (putE e d (.ref N j)) s) : pops P Z pr (⟨d, none, kp, .f (.fad off x)⟩ :: cs) K e s :=
  p_f (fun f h E i' S R => by
    obtain ⟨a, cs, h1, h2, h3, h4⟩ := (R.at hx.o).ref_inv
    have hsp2 : (a.add o).spot = none := by unfold Addr.add; split <;> first | exact h2 | rfl
    refine ⟨.pointer (some (a.add (o + off))), by simp only [FOp.run, h1, hsp2, Option.isSome_none, Bool.false_eq_true, if_false]; rw [Ab.add_add _ _ _ h2], ?_⟩
    rw [hj.o]
    exact .ref N j a cs h2 h4.1 h3 h4.2) hk
theorem q_fadO {off : Nat} {ob : OB} (hx : Lk (evE e x = .oel b n i o)) (hb : Rf (s[b]? = some ob)) (hs : Rf (ob.sig = some (es, n))) (hj : Pu (o + off = j)) (hk : pops P Z pr cs K (putE e d (.oel b n i j)) s) : pops P Z pr (⟨d, none, kp, .f (.fad off x)⟩ :: cs) K e s :=
  p_f (fun f h E i' S R => by
    rcases (R.at hx.o).oel_inv _ _ ⟨_, hb.o, hs.o⟩ with h1 | ⟨-, h2, k, h3, h4⟩
    · omega
    · refine ⟨.pointer (some ⟨k, i * es + o + off, none⟩), by simp [FOp.run, h4, add_b], ?_⟩
      refine .oel b n i j _ ⟨_, rfl⟩ (List.getElem?_eq_some_iff.1 hb.o).1 (fun es' n' hl => ?_)
      obtain ⟨o', ho, hsig⟩ := hl
      have ho : s[b]? = some o' := ho
      rw [hb.o] at ho
      obtain rfl := Option.some.inj ho
      rw [hs.o] at hsig
      simp only [Option.some.injEq, Prod.mk.injEq] at hsig
      exact .inr ⟨hsig.2, h2, k, h3, by rw [← hj.o, ← hsig.1, Nat.add_assoc]⟩) hk
/-! stores -/
theorem write_at {h : Hp} {k : Nat} {B : Blk} {o : Nat} {vs : List Value} (hb : h.blk? k = some B) (hl : B.live = true) (ho : o + vs.length ≤ B.cells.length) (h1 : vs.all (·.oneCell') = true) : h.write ⟨k, o, none⟩ vs = some (h.setBlk k { B with cells := putAt B.cells o vs }) := by
  unfold Hp.write
  simp only [hb]
  rw [if_pos ⟨hl, trivial, ho, h1⟩]
theorem q_stV {size : Nat} {l' : List PV} (hx : Lk (evE e x = .ptr b o)) (hy : Lk (evE e y = p)) (hb : Rf (s[b]? = some (.var l))) (hc : Pu (cellsP p = c)) (h1 : Rf (c.all one1 = true)) (hz : Rf (Nat.beq c.length size = true)) (ho : Rf (Nat.ble (o + size) l.length = true)) (hp : Pu (putP l o c = l')) (hs : Pu (s.set b (.var l') = s')) (hkp : Rf (kp = false))
    (hk : pops P Z pr cs K (putE e d (.tup [])) s') : pops P Z pr (⟨d, none, kp, .e (.st size x y)⟩ :: cs) K e s := fun f h ⟨E, i, S, R⟩ => by
  obtain ⟨k, us, q1, q2, q3, q4, q5⟩ := own_cells S hb.o
  obtain ⟨k', q6, hv'⟩ := (R.at hx.o).ptr_inv ⟨_, hb.o, rfl⟩
  have q6 : i b = some k' := q6
  rw [q1] at q6
  obtain rfl := Option.some.inj q6
  obtain ⟨k1, k2⟩ := cellsP_PR (R.at hy.o) hc.o h1.o
  have hz := Nat.eq_of_beq_eq_true hz.o
  have ho := Nat.le_of_ble_eq_true ho.o
  have hlen : (evF f y).cells.toList.length = size := by rw [← k1.1]; exact hz
  have hw := write_at q3 rfl (o := o) (vs := (evF f y).cells.toList) (by show o + _ ≤ us.length; rw [hlen, ← q5.1]; exact ho) k2
  have hlo := (Hp.blk_lt q3).1
  obtain ⟨S', le'⟩ := S.upd b (.var l) (.var l') (i b) (h.setBlk k ⟨putAt us o (evF f y).cells.toList, 0, true⟩) E hb.o (by rfl) (by rw [Hp.next_set]; exact Nat.le_refl _)
    (fun b' k' hb' hne => by
      have hne' : b' ≠ k := fun e => hne ⟨rfl, by rw [e]; exact q1⟩
      exact ⟨by rw [Hp.blk_set_ne _ _ hlo hne']; exact hb', rfl⟩)
    (fun b' _ hb' => .inl ⟨rfl, hb'⟩) rfl ⟨fun _ => ⟨rfl, rfl⟩, fun es n h => by simp [OB.sig] at h⟩
    (fun le => ⟨k, putAt us o (evF f y).cells.toList, (ups_at _ _ _).trans q1, q2, Hp.blk_set _ _ q3, putAt_one _ _ _ k2 q4, by have t := putP_PRs k1 q5 o; rw [hp.o] at t; exact t.mono le⟩)
  rw [hs.o] at S' le'
  exact s_st hv' (by rw [← hlen]; simp) hw (hk _ _ ⟨E, _, S', (R.mono le').put (undef_PR _)⟩) hkp.o
theorem putAt_mid : ∀ (vs A B C : List Value) (o : Nat), o + vs.length ≤ B.length → putAt (A ++ (B ++ C)) (A.length + o) vs = A ++ (putAt B o vs ++ C)
  | [], A, B, C, o, h => rfl
  | v :: vs, A, B, C, o, h => by
    rw [List.length_cons] at h
    show putAt ((A ++ (B ++ C)).set (A.length + o) v) (A.length + o + 1) vs = A ++ (putAt (B.set o v) (o + 1) vs ++ C)
    rw [← putAt_mid vs A (B.set o v) C (o + 1) (by simp; omega), List.set_append_right _ _ (by omega), Nat.add_sub_cancel_left, List.set_append_left _ _ (by omega)]
    rfl
theorem q_stO {size : Nat} {l : List D'.T} {x0 x1 : D'.T} (hx : Lk (evE e x = .oel b n i o)) (hy : Lk (evE e y = p)) (hb : Rf (s[b]? = some (.arr D' l))) (hn : Om (n = l.length)) (hi : Am (l[i]? = some x0)) (hc : Pu (cellsP p = c)) (h1 : Rf (c.all one1 = true)) (hz : Rf (Nat.beq c.length size = true)) (ho : Rf (Nat.ble (o + size) D'.sz = true)) (hp : Pu (decP D' (putP (encP D' x0) o c) = some x1)) (hs : Pu (s.set b (.arr D' (l.set i x1)) = s')) (hkp : Rf (kp = false))
    (hk : pops P Z pr cs K (putE e d (.tup [])) s') : pops P Z pr (⟨d, none, kp, .e (.st size x y)⟩ :: cs) K e s := fun f h ⟨E, i', S, R⟩ => by
  have hlt := (List.getElem?_eq_some_iff.1 hi.o).1
  have hn := hn.o
  obtain ⟨k, us, q1, q2, q3, q4, q5⟩ := arr_at S hb.o (by omega)
  rcases (R.at hx.o).oel_inv _ _ ⟨_, hb.o, rfl⟩ with g1 | ⟨-, g2, k', g3, hv'⟩
  · omega
  have g3 : i' b = some k' := g3
  rw [q1] at g3
  obtain rfl := Option.some.inj g3
  obtain ⟨k1, k2⟩ := cellsP_PR (R.at hy.o) hc.o h1.o
  have hz := Nat.eq_of_beq_eq_true hz.o
  have ho := Nat.le_of_ble_eq_true ho.o
  have hlen : (evF f y).cells.toList.length = size := by rw [← k1.1]; exact hz
  have hus := Chunks_len q4
  have hb' : (i + 1) * D'.sz ≤ l.length * D'.sz := Nat.mul_le_mul_right _ (by omega)
  rw [Nat.succ_mul] at hb'
  have hone : us.all (·.oneCell') = true := by
    have : ∀ (l : List D'.T) (us : List Value), Chunks (D'.Is (Hp.mask h E)) l us → us.all (·.oneCell') = true := by
      have one : ∀ (d : D) (x : d.T) (c : List Value), d.Is (Hp.mask h E) x c → c.all (·.oneCell') = true := by
        intro d
        induction d with
        | int k => intro x c hc; have e : c = _ := hc; subst e; rfl
        | bool => intro x c hc; have e : c = _ := hc; subst e; rfl
        | str => intro x c hc; have e : c = _ := hc; subst e; rfl
        | sl d _ => intro x c hc; obtain ⟨A, n, rw, e, _⟩ := hc; subst e; rfl
        | st d ih => intro x c hc; exact ih x c hc
        | nil => intro x c hc; have e : c = _ := hc; subst e; rfl
        | cons d e ih1 ih2 => intro x c hc; obtain ⟨c1, c2, e, a1, a2⟩ := hc; subst e; rw [List.all_append, ih1 _ _ a1, ih2 _ _ a2]; rfl
      intro l
      induction l with
      | nil => intro us hu; have e : us = [] := hu; subst e; rfl
      | cons x l ih => intro us ⟨c, t, e, a1, a2⟩; subst e; rw [List.all_append, one _ _ _ a1, ih _ a2]; rfl
    exact this l us q4
  have hw := write_at q3 rfl (o := i * D'.sz + o) (vs := (evF f y).cells.toList) (by show _ ≤ us.length; rw [hlen]; omega) k2
  have hlo := (Hp.blk_lt q3).1
  have g0 := Chunks_get q4 hi.o
  have hB : ((us.drop (i * D'.sz)).take D'.sz).length = D'.sz := D.Is_len _ _ _ g0
  have hsplit : us = us.take (i * D'.sz) ++ ((us.drop (i * D'.sz)).take D'.sz ++ us.drop ((i + 1) * D'.sz)) := by
    have e1 : us.drop ((i + 1) * D'.sz) = (us.drop (i * D'.sz)).drop D'.sz := by rw [List.drop_drop, Nat.succ_mul]
    rw [e1, List.take_append_drop, List.take_append_drop]
  have hA : (us.take (i * D'.sz)).length = i * D'.sz := by rw [List.length_take]; omega
  have hput : putAt us (i * D'.sz + o) (evF f y).cells.toList = us.take (i * D'.sz) ++ (putAt ((us.drop (i * D'.sz)).take D'.sz) o (evF f y).cells.toList ++ us.drop ((i + 1) * D'.sz)) := by
    have := putAt_mid (evF f y).cells.toList (us.take (i * D'.sz)) ((us.drop (i * D'.sz)).take D'.sz) (us.drop ((i + 1) * D'.sz)) o (by rw [hB, hlen]; exact ho)
    rw [hA, ← hsplit] at this
    exact this
  obtain ⟨S', le'⟩ := S.upd b (.arr D' l) (.arr D' (l.set i x1)) (i' b) (h.setBlk k ⟨putAt us (i * D'.sz + o) (evF f y).cells.toList, D'.sz, true⟩) E hb.o (by rfl) (by rw [Hp.next_set]; exact Nat.le_refl _)
    (fun b' k' hb' hne => by
      have hne' : b' ≠ k := fun e => hne ⟨rfl, by rw [e]; exact q1⟩
      exact ⟨by rw [Hp.blk_set_ne _ _ hlo hne']; exact hb', rfl⟩)
    (fun b' _ hb' => .inl ⟨rfl, hb'⟩) rfl ⟨fun h => by simp [OB.isV] at h, fun es n h _ => ⟨n, Nat.le_refl _, by simpa [OB.sig] using h, fun _ => rfl⟩⟩
    (fun le => ⟨q5, .inr ⟨k, _, (ups_at _ _ _).trans q1, q2, Hp.blk_set _ _ q3, by
      have a1 := decP_is (X := ⟨Hp.mask h E, i', s⟩) D' _ x1 _ hp.o (putP_PRs k1 (encP_of (X := ⟨Hp.mask h E, i', s⟩) _ _ _ g0) o)
      have t := ChMono (Is_mono le.m D') (Chunks_set q4 hlt a1)
      rw [← hput] at t
      exact t⟩⟩)
  rw [hs.o] at S' le'
  exact s_st hv' (by rw [← hlen]; simp) hw (hk _ _ ⟨E, _, S', (R.mono le').put (undef_PR _)⟩) hkp.o
theorem q_stOI {k : IntKind} {a : Int} {l : List Int} (hx : Lk (evE e x = .oel b n i 0)) (hy : Lk (evE e y = .int k a)) (hb : Rf (s[b]? = some (.arr (.int k) l))) (hn : Om (n = l.length)) (hi : Om (i < l.length)) (hs : Pu (s.set b (.arr (.int k) (l.set i a)) = s')) (hkp : Rf (kp = false))
    (hk : pops P Z pr cs K (putE e d (.tup [])) s') : pops P Z pr (⟨d, none, kp, .e (.st 1 x y)⟩ :: cs) K e s := by
  refine q_stO (D' := .int k) (x0 := (l.getD i 0 : Int)) (x1 := (a : Int)) hx hy hb hn ⟨?_⟩ ⟨rfl⟩ ⟨rfl⟩ ⟨rfl⟩ ⟨rfl⟩ ⟨by show (if k = k then some a else none) = some a; rw [if_pos rfl]⟩ hs hkp hk
  show l[i]? = some (l.getD i 0)
  rw [List.getD_eq_getElem?_getD, List.getElem?_eq_getElem hi.o]
  rfl
theorem q_stOB {a : Bool} {l : List Bool} (hx : Lk (evE e x = .oel b n i 0)) (hy : Lk (evE e y = .bool a)) (hb : Rf (s[b]? = some (.arr .bool l))) (hn : Om (n = l.length)) (hi : Om (i < l.length)) (hs : Pu (s.set b (.arr .bool (l.set i a)) = s')) (hkp : Rf (kp = false))
    (hk : pops P Z pr cs K (putE e d (.tup [])) s') : pops P Z pr (⟨d, none, kp, .e (.st 1 x y)⟩ :: cs) K e s := by
  refine q_stO (D' := .bool) (x0 := (l.getD i false : Bool)) (x1 := (a : Bool)) hx hy hb hn ⟨?_⟩ ⟨rfl⟩ ⟨rfl⟩ ⟨rfl⟩ ⟨rfl⟩ ⟨rfl⟩ hs hkp hk
  show l[i]? = some (l.getD i false)
  rw [List.getD_eq_getElem?_getD, List.getElem?_eq_getElem hi.o]
  rfl
end
end Go.Proofs.Ytalhipbbomagoaa.Pv
