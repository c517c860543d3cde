/- States of plain values: cuts, copies, strings; and what the steps' side goals are closed with. No statement of the set is proved in this text. -/
import Derived.Test.YtalhipbbomagoaaPvG
namespace Go.Proofs.Ytalhipbbomagoaa.Pv
open Go.RowKit Go.Proofs.Ytalhipbbomagoaa.Ab Go.Proofs.Ytalhipbbomagoaa.AbP
set_option linter.unusedVariables false
set_option linter.unusedSimpArgs false
theorem cells0 (h : Hp) (a : Addr) (n : Nat) (hn : n = 0) : h.cells? a n = some [] := by subst hn; rfl
theorem cut_is {m : Hp} {d : D} {l : List d.T} {A : Option Addr} {c lo hi : Nat} (hd : 0 < d.sz) (base : Nat) (h : (D.sl d).Is m l [.slice A l.length c]) (h1 : lo ≤ hi) (h2 : hi ≤ l.length) : (D.sl d).Is m ((l.take hi).drop lo) [cutS base d.sz A l.length c lo hi] := by
  obtain ⟨A', c', rw, e, h0, hr, hc⟩ := h
  simp only [List.cons.injEq, Value.slice.injEq, and_true, true_and] at e
  obtain ⟨rfl, rfl⟩ := e
  have hlen : ((l.take hi).drop lo).length = hi - lo := by rw [List.length_drop, List.length_take, Nat.min_eq_left h2]
  have hcut : Chunks (d.Is m) ((l.take hi).drop lo) ((rw.take (hi * d.sz)).drop (lo * d.sz)) := (Chunks_split lo (Chunks_split hi hc).1).2
  have hrl := Chunks_len hc
  have hmul : hi * d.sz ≤ l.length * d.sz := Nat.mul_le_mul_right _ h2
  have hmul2 : lo * d.sz ≤ hi * d.sz := Nat.mul_le_mul_right _ h1
  have hsub : (hi - lo) * d.sz = hi * d.sz - lo * d.sz := Nat.sub_mul _ _ _
  have e1 : (rw.take (hi * d.sz)).drop (lo * d.sz) = (rw.drop (lo * d.sz)).take ((hi - lo) * d.sz) := by rw [List.drop_take, hsub]
  rw [e1] at hcut
  -- a slice that begins there
  have mk : ∀ (B : Addr) (cc : Nat), hi - lo ≤ cc → ((hi - lo = 0) ∨ ∃ a, A = some a ∧ B = a.add (lo * d.sz)) → (D.sl d).Is m ((l.take hi).drop lo) [.slice (some B) (hi - lo) cc] := fun B cc hcc hB => by
    refine ⟨some B, cc, (rw.drop (lo * d.sz)).take ((hi - lo) * d.sz), by rw [hlen], by rw [hlen]; exact hcc, ?_, hcut⟩
    rw [hlen]
    show m.cells? B ((hi - lo) * d.sz) = _
    rcases hB with h0 | ⟨a, rfl, rfl⟩
    · rw [h0, Nat.zero_mul, List.take_zero]; rfl
    · by_cases hz : hi - lo = 0
      · rw [hz, Nat.zero_mul, List.take_zero]; rfl
      · have hsp := rowV_spot hr (by rw [hrl]; exact Nat.mul_pos (by omega) hd)
        exact cells_add hsp (N := l.length * d.sz) hr (by omega)
  unfold cutS
  cases A with
  | none =>
    have hz : l.length = 0 := by
      unfold rowV at hr
      simp only at hr
      split at hr
      · assumption
      · simp at hr
    have hz2 : hi - lo = 0 := by omega
    refine ⟨none, c - lo, [], by rw [hlen], by rw [hlen]; omega, ?_, ?_⟩
    · rw [hlen]
      show (if hi - lo = 0 then some [] else none) = some []
      rw [if_pos hz2]
    · have : (l.take hi).drop lo = [] := List.eq_nil_of_length_eq_zero (by omega)
      rw [this]
      rfl
  | some a =>
    simp only
    split
    · refine mk _ _ (by omega) ?_
      split
      · exact .inl (by omega)
      · exact .inr ⟨a, rfl, rfl⟩
    · split
      · rename_i hlo
        subst hlo
        rw [Nat.sub_zero] at mk
        refine mk a _ ?_ (.inr ⟨a, rfl, by rw [Nat.zero_mul]; rfl⟩)
        split
        · omega
        · split <;> omega
      · split
        · rename_i hg
          have := mk ⟨a.block, 0, some 0⟩ 1 (by omega) (.inl (by omega))
          rw [show hi - lo = 0 by omega] at this
          exact this
        · refine mk _ _ ?_ (.inr ⟨a, rfl, rfl⟩)
          split <;> omega
def loP (e : Env) : Option Operand → Option Int
  | none => some 0
  | some x => match evE e x with
    | .int _ n => some n
    | _ => none
def hiP (e : Env) (len : Nat) : Option Operand → Option Int
  | none => some len
  | some x => match evE e x with
    | .int _ n => some n
    | _ => none
section
variable {P : Program} {Z : Bs} {K : Env → List OB → Prop} {Q : QP} {e : Env} {s s' : List OB} {cs : List CO} {pr : List Operand} {d : Option Nat} {kp : Bool} {x y z : Operand} {p q r : PV} {u v w : Value} {b o n m i j es : Nat} {l l' c : List PV} {D' : D} {lo hi : Option Operand} {a g : Int}
theorem cutB_of {X : Cx} {f : Fr} (R : ER X e f) {len : Nat} (hlo : loP e lo = some a) (hhi : hiP e len hi = some g) (h0 : 0 ≤ a) (h1 : a ≤ g) (h2 : g ≤ len) : cutB len (lo.map (evF f)) (hi.map (evF f)) = some (a.toNat, g.toNat) := by
  have k1 : (lo.map (evF f) = none ∧ a = 0) ∨ ∃ kk, lo.map (evF f) = some (.int kk a) := by
    cases lo with
    | none => exact .inl ⟨rfl, (Option.some.inj hlo).symm⟩
    | some x =>
      simp only [loP] at hlo
      split at hlo
      · rename_i kk n hx
        obtain rfl := Option.some.inj hlo
        have := R.ev x
        rw [hx] at this
        exact .inr ⟨kk, by rw [Option.map_some, this.int_inv]⟩
      · simp at hlo
  have k2 : (hi.map (evF f) = none ∧ g = len) ∨ ∃ kk, hi.map (evF f) = some (.int kk g) := by
    cases hi with
    | none => exact .inl ⟨rfl, (Option.some.inj hhi).symm⟩
    | some x =>
      simp only [hiP] at hhi
      split at hhi
      · rename_i kk n hx
        obtain rfl := Option.some.inj hhi
        have := R.ev x
        rw [hx] at this
        exact .inr ⟨kk, by rw [Option.map_some, this.int_inv]⟩
      · simp at hhi
  unfold cutB
  rcases k1 with ⟨k1, rfl⟩ | ⟨kk, k1⟩ <;> rcases k2 with ⟨k2, rfl⟩ | ⟨kk2, k2⟩ <;> (rw [k1, k2]; simp only [asI]; rw [if_pos ⟨h0, h1, h2⟩])
theorem q_slc {l : List D'.T} (hx : Lk (evE e x = .sl D' l)) (hlo : Lk (loP e lo = some a)) (hhi : Lk (hiP e l.length hi = some g)) (h0 : Om (0 ≤ a)) (h1 : Om (a ≤ g)) (h2 : Om (g ≤ l.length)) (hj : Vl (a.toNat = i)) (hg : Vl (g.toNat = j)) (he : Rf (Nat.beq D'.sz es = true)) (hd : Rf (Nat.blt 0 es = true)) (hk : pops P Z pr cs K (putE e d (.sl D' ((l.take j).drop i))) s) : pops P Z pr (⟨d, none, kp, .f (.slc es x lo hi)⟩ :: cs) K e s :=
  p_f (fun f h E i' S R => by
    have he := Nat.eq_of_beq_eq_true he.o
    have hd := Nat.le_of_ble_eq_true hd.o
    obtain ⟨A, c, rw, g1, g0, g2, g3⟩ := (R.at hx.o).sl_inv'
    have h0 := h0.o
    have h1 := h1.o
    have h2 := h2.o
    refine ⟨cutS h.old.heap.size es A l.length c a.toNat g.toNat, by simp only [FOp.run, g1]; rw [if_pos g0, cutB_of R hlo.o hhi.o h0 h1 h2]; rfl, ?_⟩
    rw [hj.o, hg.o]
    subst he
    refine .sl D' _ _ (cut_is (by omega) _ ⟨A, c, rw, rfl, g0, g2, g3⟩ ?_ ?_)
    · rw [← hj.o, ← hg.o]; omega
    · rw [← hg.o]; omega) hk
theorem q_slcN (hx : Lk (evE e x = .nilS)) (hlo : Lk (loP e lo = some a)) (hhi : Lk (hiP e 0 hi = some g)) (h0 : Om (0 = a)) (h1 : Om (0 = g)) (hk : pops P Z pr cs K (putE e d .nilS) s) : pops P Z pr (⟨d, none, kp, .f (.slc es x lo hi)⟩ :: cs) K e s :=
  p_f (fun f h E i' S R => by
    have h0 := h0.o
    have h1 := h1.o
    refine ⟨.slice none 0 0, ?_, .nilS⟩
    simp only [FOp.run, (R.at hx.o).nilS_inv]
    rw [if_pos (Nat.le_refl _), cutB_of R hlo.o hhi.o (by omega) (by omega) (by omega), ← h0, ← h1]
    rfl) hk
theorem q_slcO {l : List D'.T} (hx : Lk (evE e x = .osl b n)) (hb : Rf (s[b]? = some (.arr D' l))) (hn : Om (n = l.length)) (hlo : Lk (loP e lo = some a)) (hhi : Lk (hiP e l.length hi = some g)) (h0 : Om (0 ≤ a)) (h1 : Om (a ≤ g)) (h2 : Om (g ≤ l.length)) (hj : Vl (a.toNat = i)) (hg : Vl ((g - a).toNat = j)) (he : Rf (Nat.beq D'.sz es = true)) (hk : pops P Z pr cs K (putE e d (.osb b n i j)) s) : pops P Z pr (⟨d, none, kp, .f (.slc es x lo hi)⟩ :: cs) K e s :=
  p_f (fun f h E i' S R => by
    have he := Nat.eq_of_beq_eq_true he.o
    subst he
    have h0 := h0.o
    have h1 := h1.o
    have h2 := h2.o
    obtain rfl := hn.o
    have hj := hj.o
    have hg := hg.o
    have hpr := R.at hx.o
    have hlt := (List.getElem?_eq_some_iff.1 hb.o).1
    rcases hpr.osl_inv _ _ ⟨_, hb.o, rfl⟩ with hh | ⟨-, c, hc, hv⟩
    · omega
    have lvn : ∀ {es' n' : Nat}, lvS ⟨Hp.mask h E, i', s⟩ b es' n' → es' = D'.sz ∧ n' = l.length := fun hl => by
      obtain ⟨o, ho, hsig⟩ := hl
      have ho : s[b]? = some o := ho
      rw [hb.o] at ho
      obtain rfl := Option.some.inj ho
      simp only [OB.sig, Option.some.injEq, Prod.mk.injEq] at hsig
      exact ⟨hsig.1.symm, by omega⟩
    have hcB := cutB_of R hlo.o hhi.o h0 h1 h2
    obtain ⟨hd, hob⟩ := S.ob b _ hb.o
    rcases hob with ⟨k1, rfl⟩ | ⟨k, us, k1, k2, k3, k4⟩
    · have k1 : i' b = none := k1
      simp only [k1, slV] at hv
      simp only [List.length_nil] at h2 hcB
      refine ⟨.slice none 0 0, ?_, .osb b _ i j _ ⟨_, _, _, rfl⟩ hlt (fun es' n' hl => .inr ⟨(lvn hl).2.symm, by omega, none, 0, by omega, by rw [show j = 0 by omega], .inl (by omega)⟩)⟩
      simp only [FOp.run, hv]
      rw [if_pos (Nat.le_refl _), hcB]
      simp only [Option.map_some, cutS]
      rw [show g.toNat - a.toNat = 0 by omega, Nat.zero_sub]
    · have k1 : i' b = some k := k1
      have hv' : evF f x = .slice (some ⟨k, 0, none⟩) l.length c := by rw [hv]; show slV (i' b) l.length c = _; rw [k1]; rfl
      have hlo' := (Hp.blk_lt k3).1
      refine ⟨cutS h.old.heap.size D'.sz (some ⟨k, 0, none⟩) l.length c a.toNat g.toNat, by simp only [FOp.run, hv']; rw [if_pos (by omega), hcB]; rfl, ?_⟩
      unfold cutS
      simp only
      rw [if_neg (by omega)]
      split
      · rename_i hz
        refine .osb b _ i j _ ⟨_, _, _, rfl⟩ hlt (fun es' n' hl => .inr ⟨(lvn hl).2.symm, by omega, some ⟨k, 0, none⟩, _, ?_, by rw [show g.toNat = j by omega], .inr ⟨k, k1, by rw [← hj, hz, Nat.zero_mul]⟩⟩)
        split
        · omega
        · split <;> omega
      · split
        · exact .osb b _ i j _ ⟨_, _, _, rfl⟩ hlt (fun es' n' hl => .inr ⟨(lvn hl).2.symm, by omega, _, 1, by omega, by rw [show j = 0 by omega], .inl (by omega)⟩)
        · refine .osb b _ i j _ ⟨_, _, _, rfl⟩ hlt (fun es' n' hl => .inr ⟨(lvn hl).2.symm, by omega, _, _, ?_, by rw [show g.toNat - a.toNat = j by omega], .inr ⟨k, k1, by rw [add_b, Nat.zero_add, ← hj, (lvn hl).1]⟩⟩)
          split <;> omega) hk
/-! copies -/
theorem putAt_all : ∀ (vs B : List Value), B.length = vs.length → putAt B 0 vs = vs := by
  have key : ∀ (vs A B : List Value), B.length = vs.length → putAt (A ++ B) A.length vs = A ++ vs := by
    intro vs
    induction vs with
    | nil => intro A B h; have : B = [] := List.eq_nil_of_length_eq_zero h; subst this; simp [putAt]
    | cons v vs ih =>
      intro A B h
      cases B with
      | nil => simp at h
      | cons w B =>
        show putAt ((A ++ w :: B).set A.length v) (A.length + 1) vs = _
        have e1 : (A ++ w :: B).set A.length v = (A ++ [v]) ++ B := by
          rw [List.set_append_right _ _ (Nat.le_refl _), Nat.sub_self]
          simp
        have := ih (A ++ [v]) B (by simpa using h)
        rw [e1]
        simp only [List.length_append, List.length_cons, List.length_nil, Nat.zero_add] at this
        rw [this]
        simp
  intro vs B h
  have := key vs [] B h
  simpa using this
def dstOf : PV → Option (Nat × Nat × Nat × Nat)
  | .osb b n lo m => some (b, n, lo, m)
  | .osl b n => some (b, n, 0, n)
  | _ => none
theorem q_cpy {lo' m' : Nat} {l l2 : List D'.T} (hx : Lk (evE e x = p)) (hp : Rf (dstOf p = some (b, n, lo', m'))) (hy : Lk (evE e y = q)) (hb : Rf (s[b]? = some (.arr D' l))) (hn : Om (n = l.length)) (ha : Vw (Src s q D' l2)) (he : Rf (Nat.beq D'.sz es = true)) (hm : Om (l2.length ≤ m')) (hs : Pu (s.set b (.arr D' (l.take lo' ++ (l2 ++ l.drop (lo' + l2.length)))) = s')) (hkp : Rf (kp = false))
    (hk : pops P Z pr cs K (putE e d (.int .i64 l2.length)) s') : pops P Z pr (⟨d, none, kp, .e (.cpy es x y)⟩ :: cs) K e s := fun f h ⟨E, i, S, R⟩ => by
  have he := Nat.eq_of_beq_eq_true he.o
  subst he
  have hn := hn.o
  have hm := hm.o
  obtain ⟨new, g1, g2⟩ := ha.o.view S (R.at hy.o)
  have gl := Chunks_len g2
  -- the place that is written
  have hdst : ∃ A c, evF f x = .slice A m' c ∧ lo' + m' ≤ n ∧ (m' = 0 ∨ ∃ k, i b = some k ∧ A = some ⟨k, lo' * D'.sz, none⟩) := by
    have hpr := R.at hx.o
    have hp := hp.o
    unfold dstOf at hp
    split at hp
    · simp only [Option.some.injEq, Prod.mk.injEq] at hp
      obtain ⟨rfl, rfl, rfl, rfl⟩ := hp
      rcases hpr.osb_inv _ _ ⟨_, hb.o, rfl⟩ with hh | ⟨-, h1, A, c, h2, h3, h4⟩
      · omega
      · exact ⟨A, c, h3, h1, h4⟩
    · simp only [Option.some.injEq, Prod.mk.injEq] at hp
      obtain ⟨e1, e2, e3, e4⟩ := hp
      subst e3
      rw [e2] at e4
      subst e4
      rw [e1, e2] at hpr
      rcases hpr.osl_inv _ _ ⟨_, hb.o, rfl⟩ with hh | ⟨-, c, hc, hv⟩
      · omega
      · obtain ⟨hd, ⟨k1, hl0⟩ | ⟨k, us, k1, k2, k3, k4⟩⟩ := S.ob _ _ hb.o
        · have k1 : i _ = none := k1
          simp only [k1, slV] at hv
          have : n = 0 := by rw [hn, hl0]; rfl
          subst this
          exact ⟨none, 0, hv, by omega, .inl rfl⟩
        · have k1 : i _ = some k := k1
          simp only [k1, slV] at hv
          exact ⟨_, c, hv, by omega, .inr ⟨k, k1, by rw [Nat.zero_mul]⟩⟩
    · simp at hp
  obtain ⟨A, c, hv, hle, hA⟩ := hdst
  by_cases hz : l2.length = 0
  · have hl2 : l2 = [] := List.eq_nil_of_length_eq_zero hz
    have hu := S.upd b (.arr D' l) (.arr D' (l.take lo' ++ (l2 ++ l.drop (lo' + l2.length)))) (i b) h E hb.o rfl (Nat.le_refl _) (fun b' k' hb' _ => ⟨hb', rfl⟩) (fun b' _ hb' => .inl ⟨rfl, hb'⟩) rfl ⟨fun h => by simp [OB.isV] at h, fun es n hh _ => ⟨n, Nat.le_refl _, by rw [hl2, List.nil_append, List.length_nil, Nat.add_zero, List.take_append_drop] at hh; exact hh, fun _ => rfl⟩⟩
      (fun le => by
        rw [hl2, List.nil_append, List.length_nil, Nat.add_zero, List.take_append_drop] at le ⊢
        exact (S.ob b _ hb.o).mono le (ups_at _ _ _) (fun b k _ hk => ⟨hk, rfl⟩))
    rw [hs.o] at hu
    obtain ⟨S', le'⟩ := hu
    unfold aops
    rw [if_pos (show wantC none f = true from rfl)]
    simp only [EOp.run, hv]
    refine ⟨new, l2.length, g1, ?_⟩
    rw [if_pos (by omega)]
    have := hk _ _ ⟨E, _, S', (R.mono le').put (.int .i64 _)⟩
    rw [hz] at this
    exact ⟨fun hh => (by rw [hkp.o] at hh; cases hh), this⟩
  · rcases hA with h0 | ⟨k, k1, rfl⟩
    · omega
    obtain ⟨hd, ⟨k1', hl0⟩ | ⟨k', us, k1', k2, k3, k4⟩⟩ := S.ob b _ hb.o
    · subst hl0; simp at hn; omega
    have k1' : i b = some k' := k1'
    rw [k1] at k1'
    obtain rfl := Option.some.inj k1'
    have hul := Chunks_len k4
    have hone : new.all (·.oneCell') = true := by
      have : ∀ (l : List D'.T) (us : List Value), Chunks (D'.Is (Hp.mask h E)) l us → us.all (·.oneCell') = true := by
        have one : ∀ (d : D) (x : d.T) (c : List Value), d.Is (Hp.mask h E) x c → c.all (·.oneCell') = true := by
          intro d
          induction d with
          | int k => intro x c hc; have e : c = _ := hc; subst e; rfl
          | bool => intro x c hc; have e : c = _ := hc; subst e; rfl
          | str => intro x c hc; have e : c = _ := hc; subst e; rfl
          | sl d _ => intro x c hc; obtain ⟨A, n, rw, e, _⟩ := hc; subst e; rfl
          | st d ih => intro x c hc; exact ih x c hc
          | nil => intro x c hc; have e : c = _ := hc; subst e; rfl
          | cons d e ih1 ih2 => intro x c hc; obtain ⟨c1, c2, e, a1, a2⟩ := hc; subst e; rw [List.all_append, ih1 _ _ a1, ih2 _ _ a2]; rfl
        intro l
        induction l with
        | nil => intro us hu; have e : us = [] := hu; subst e; rfl
        | cons x l ih => intro us ⟨c, t, e, a1, a2⟩; subst e; rw [List.all_append, one _ _ _ a1, ih _ a2]; rfl
      exact this l2 new g2
    have hmul : (lo' + l2.length) * D'.sz ≤ l.length * D'.sz := Nat.mul_le_mul_right _ (by omega)
    rw [Nat.add_mul] at hmul
    have hw := write_at k3 rfl (o := lo' * D'.sz) (vs := new) (by show _ ≤ us.length; omega) hone
    have hput : putAt us (lo' * D'.sz) new = us.take (lo' * D'.sz) ++ (new ++ us.drop ((lo' + l2.length) * D'.sz)) := by
      have hB : ((us.drop (lo' * D'.sz)).take new.length).length = new.length := by rw [List.length_take, List.length_drop]; omega
      have hA : (us.take (lo' * D'.sz)).length = lo' * D'.sz := by rw [List.length_take]; omega
      have hsplit : us = us.take (lo' * D'.sz) ++ ((us.drop (lo' * D'.sz)).take new.length ++ us.drop ((lo' + l2.length) * D'.sz)) := by
        have e1 : us.drop ((lo' + l2.length) * D'.sz) = (us.drop (lo' * D'.sz)).drop new.length := by rw [List.drop_drop, Nat.add_mul, gl]
        rw [e1, List.take_append_drop, List.take_append_drop]
      have := putAt_mid new (us.take (lo' * D'.sz)) ((us.drop (lo' * D'.sz)).take new.length) (us.drop ((lo' + l2.length) * D'.sz)) 0 (by rw [hB]; omega)
      rw [hA, ← hsplit, Nat.add_zero, putAt_all _ _ hB] at this
      exact this
    have hlo := (Hp.blk_lt k3).1
    have hlen : (l.take lo' ++ (l2 ++ l.drop (lo' + l2.length))).length = l.length := by
      simp only [List.length_append, List.length_take, List.length_drop]
      omega
    have hu := S.upd b (.arr D' l) (.arr D' (l.take lo' ++ (l2 ++ l.drop (lo' + l2.length)))) (i b) (h.setBlk k ⟨putAt us (lo' * D'.sz) new, D'.sz, true⟩) E hb.o (by rfl) (by rw [Hp.next_set]; exact Nat.le_refl _)
      (fun b' k' hb' hne => by
        have hne' : b' ≠ k := fun e => hne ⟨rfl, by rw [e]; exact k1⟩
        exact ⟨by rw [Hp.blk_set_ne _ _ hlo hne']; exact hb', rfl⟩)
      (fun b' _ hb' => .inl ⟨rfl, hb'⟩) rfl ⟨fun h => by simp [OB.isV] at h, fun es n hh _ => by
        simp only [OB.sig, hlen, Option.some.injEq, Prod.mk.injEq] at hh
        exact ⟨n, Nat.le_refl _, by simp [OB.sig, hh.1, hh.2], fun _ => rfl⟩⟩
      (fun le => ⟨hd, .inr ⟨k, _, (ups_at _ _ _).trans k1, k2, Hp.blk_set _ _ k3, by
        have t1 := ChMono (Is_mono le.m D') (Chunks_split lo' k4).1
        have t2 := ChMono (Is_mono le.m D') (Chunks_split (lo' + l2.length) k4).2
        have t3 := ChMono (Is_mono le.m D') g2
        have t := Chunks_append t1 (Chunks_append t3 t2)
        rw [← hput] at t
        exact t⟩⟩)
    rw [hs.o] at hu
    obtain ⟨S', le'⟩ := hu
    unfold aops
    rw [if_pos (show wantC none f = true from rfl)]
    simp only [EOp.run, hv]
    refine ⟨new, l2.length, g1, ?_⟩
    have hmin : min l2.length m' = l2.length := Nat.min_eq_left hm
    rw [if_neg (by omega)]
    refine ⟨_, by rw [hmin, ← gl, List.take_length]; exact hw, fun hh => (by rw [hkp.o] at hh; cases hh), ?_⟩
    have := hk _ _ ⟨E, _, S', (R.mono le').put (.int .i64 _)⟩
    rw [hmin]
    exact this
/-! strings, and what a walk's steps are closed with -/
theorem bytI_get {t : ByteArray} {i : Nat} (hi : i < t.size) : ∃ c : UInt8, t[i]? = some c ∧ (bytI t).getD i 0 = c.toNat := by
  refine ⟨t[i], by simp [hi], ?_⟩
  have hi' : i < t.data.toList.length := by rw [Array.length_toList]; exact hi
  unfold bytI
  rw [List.getD_eq_getElem?_getD, List.getElem?_map, List.getElem?_eq_getElem hi']
  rfl
theorem q_ixs {t : ByteArray} {k : IntKind} (hx : Lk (evE e x = .str t)) (hy : Lk (evE e y = .int k a)) (h0 : Om (0 ≤ a)) (h1 : Om (a < t.size)) (hj : Vl (a.toNat = i)) (hk : pops P Z pr cs K (putE e d (.int .u8 ((bytI t).getD i 0))) s) : pops P Z pr (⟨d, none, kp, .f (.ixs x y)⟩ :: cs) K e s :=
  p_f (fun f h E i' S R => by
    have h0 := h0.o
    have h1 := h1.o
    obtain ⟨c, hc, he⟩ := bytI_get (t := t) (i := a.toNat) (by omega)
    refine ⟨.int .u8 c.toNat, by simp only [FOp.run, (R.at hx.o).str_inv, (R.at hy.o).int_inv]; rw [if_pos h0, hc]; rfl, ?_⟩
    rw [← hj.o, he]
    exact .int _ _) hk
theorem q_slS {t : ByteArray} (hx : Lk (evE e x = .str t)) (hlo : Lk (loP e lo = some a)) (hhi : Lk (hiP e t.size hi = some g)) (h0 : Om (0 ≤ a)) (h1 : Om (a ≤ g)) (h2 : Om (g ≤ t.size)) (hj : Vl (a.toNat = i)) (hg : Vl (g.toNat = j)) (hk : pops P Z pr cs K (putE e d (.str (t.extract i j))) s) : pops P Z pr (⟨d, none, kp, .f (.slS x lo hi)⟩ :: cs) K e s :=
  p_f (fun f h E i' S R => by
    refine ⟨.string (t.extract i j), by simp only [FOp.run, (R.at hx.o).str_inv]; rw [cutB_of R hlo.o hhi.o h0.o h1.o h2.o, ← hj.o, ← hg.o]; rfl, .str _⟩) hk
theorem p_nil (hk : K e s) : pops P Z pr [] K e s := fun f h hr => ⟨e, s, hk, hr⟩
/-! struct literals, in two parts: what they are, and that they may be -/
def fillQ : List PV → List (Nat × Nat) → List PV → List PV
  | cs, (off, _) :: ps, v :: vs => fillQ (putP cs off (cellsP v)) ps vs
  | cs, _, _ => cs
def fillOk : Nat → List (Nat × Nat) → List PV → Bool
  | _, [], [] => true
  | n, (off, size) :: ps, v :: vs => ((cellsP v).all one1 && (cellsP v).length == size && Nat.ble (off + size) n) && fillOk n ps vs
  | _, _, _ => false
theorem fillQ_run : ∀ (ps : List (Nat × Nat)) (l vs : List PV), fillOk l.length ps vs = true → fillP l ps vs = some (fillQ l ps vs)
  | [], l, [], h => rfl
  | [], l, v :: vs, h => by simp [fillOk] at h
  | (off, size) :: ps, l, [], h => by simp [fillOk] at h
  | (off, size) :: ps, l, v :: vs, h => by
    simp only [fillOk] at h
    rw [Bool.and_eq_true] at h
    simp only [fillP, fillQ]
    rw [if_pos h.1]
    exact fillQ_run ps _ vs (by rw [putP_len]; exact h.2)
theorem q_bldQ {zero : List Value} {ps : List (Nat × Nat)} {xs : List Operand} {vp : List PV} (hx : Mp (xs.map (evE e) = vp)) (ho : Rf (fillOk (zero.map ofC).length ps vp = true)) (hr : Pu (fillQ (zero.map ofC) ps vp = l)) (hk : pops P Z pr cs K (putE e d (.agg l)) s) : pops P Z pr (⟨d, none, kp, .f (.bld zero ps xs)⟩ :: cs) K e s :=
  q_bld hx ⟨by rw [fillQ_run _ _ _ ho.o, hr.o]⟩ hk
def flatQ : List PV → List PV
  | [] => []
  | p :: l => cellsP p ++ flatQ l
def flatOk (es : Nat) (l : List PV) : Bool := l.all fun p => (cellsP p).all one1 && (cellsP p).length == es
theorem flatQ_run : ∀ (l : List PV), flatOk es l = true → flatP es l = some (flatQ l)
  | [], h => rfl
  | p :: l, h => by
    unfold flatOk at h
    rw [List.all_cons, Bool.and_eq_true] at h
    simp only [flatP, flatQ]
    rw [if_pos h.1, flatQ_run l h.2]
    rfl
theorem q_bslQ {xs : List Operand} {ps : List PV} (hx : Mp (xs.map (evE e) = ps)) (ho : Rf (flatOk es ps = true)) (hf : Pu (flatQ ps = c)) (hm : Pu (ps.length = m)) (hn : Pu (s.length = n)) (hs : Pu (s ++ [.row es m c] = s')) (hk : pops P Z pr cs K (putE e d (.osl n m)) s') : pops P Z pr (⟨d, none, kp, .f (.bsl es xs)⟩ :: cs) K e s :=
  q_bsl hx ⟨by rw [flatQ_run _ ho.o, hf.o]⟩ hm hn hs hk
/-! results -/
theorem rs_z : Rs (prvs e s [] = some []) := ⟨rfl⟩
theorem rs_t {rs : List RV} {t : Nat} {ps : List PV} (h1 : Lk (evE e (.tmp t) = p)) (h2 : Rs (prvs e s rs = some ps)) : Rs (prvs e s (.tmp t :: rs) = some (p :: ps)) := ⟨by
  have h1 : e t = p := h1.o
  simp only [prvs, prv, h1, h2.o]⟩
theorem rs_c {rs : List RV} {t : Nat} {ps : List PV} (h1 : Lk (evE e (.tmp t) = .ptr b o)) (hb : Rf (s[b]? = some (.var l))) (hv : Rf (l[o]? = some p)) (h2 : Rs (prvs e s rs = some ps)) : Rs (prvs e s (.cell t none :: rs) = some (p :: ps)) := ⟨by
  have h1 : e t = _ := h1.o
  simp only [prvs, prv, h1, hb.o, hv.o, h2.o]⟩
theorem rs_n {rs : List RV} {t : Nat} {ps : List PV} (h1 : Lk (evE e (.tmp t) = .ptr b o)) (hb : Rf (s[b]? = some (.var l))) (hl : Rf (Nat.ble (o + m) l.length = true)) (hv : Pu ((l.drop o).take m = c)) (h2 : Rs (prvs e s rs = some ps)) : Rs (prvs e s (.cell t (some m) :: rs) = some (.agg c :: ps)) := ⟨by
  have h1 : e t = _ := h1.o
  simp only [prvs, prv, h1, hb.o, h2.o, hv.o]
  rw [if_pos (Nat.le_of_ble_eq_true hl.o)]⟩
section
variable {rs : List RV} {KK : PV → List OB → Prop}
def notTup : PV → Bool
  | .tup _ => false
  | _ => true
theorem r_per1 (hl : Rs (prvs e s rs = some [p])) (hp : Rf (per3 p = true)) (hne : Rf (notTup p = true)) (hk : KK p []) : retP rs (gcK KK) .ret e s := ⟨[p], hl.o, (p, []), by
  show gc s p = _
  have hp := hp.o
  have hne := hne.o
  cases p <;> first | (simp [notTup] at hne; done) | (unfold per3 per2 per1 at hp; simp at hp; done) | (unfold gc; simp only; rw [if_pos hp]), hk⟩
theorem r_pern {q : PV} {l : List PV} (hl : Rs (prvs e s rs = some (p :: q :: l))) (hp : Rf ((p :: q :: l).all per2 = true)) (hk : KK (.tup (p :: q :: l)) []) : retP rs (gcK KK) .ret e s := ⟨_, hl.o, (.tup (p :: q :: l), []), by
  show gc s (.tup (p :: q :: l)) = _
  have key : ∀ (k : Nat) (l : List PV), l.all per2 = true → gcL s k l = some (l, [], []) := by
    intro k l
    induction l generalizing k with
    | nil => intro _; rfl
    | cons p l ih =>
      intro h
      rw [List.all_cons, Bool.and_eq_true] at h
      unfold gcL
      split
      · simp [per2, per1] at h
      · rw [if_pos h.1, ih k h.2]
        rfl
  unfold gc
  simp only
  rw [key 0 _ hp.o]
  rfl, hk⟩
theorem r_osl1 {l : List D'.T} (hl : Rs (prvs e s rs = some [.osl b n])) (hb : Rf (s[b]? = some (.arr D' l))) (hk : KK (.osl 0 n) [.arr D' l]) : retP rs (gcK KK) .ret e s := ⟨_, hl.o, (.osl 0 n, [.arr D' l]), by
  show gc s (.osl b n) = _
  unfold gc
  simp only [hb.o], hk⟩
theorem r_osl2 {l : List D'.T} {q : PV} (hl : Rs (prvs e s rs = some [.osl b n, q])) (hb : Rf (s[b]? = some (.arr D' l))) (hq : Rf (per2 q = true)) (hk : KK (.tup [.osl 0 n, q]) [.arr D' l]) : retP rs (gcK KK) .ret e s := ⟨_, hl.o, (.tup [.osl 0 n, q], [.arr D' l]), by
  show gc s (.tup [.osl b n, q]) = _
  have hq := hq.o
  have h1 : gcL s 1 [q] = some ([q], [], []) := by
    unfold gcL
    split
    · simp [per2, per1] at hq
    · rw [if_pos hq]; rfl
  unfold gc
  simp only
  unfold gcL
  simp only [hb.o, h1]
  rfl, hk⟩
theorem r_osl3 {D2 : D} {b2 n2 : Nat} {l : List D'.T} {l2 : List D2.T} {q : PV} (hl : Rs (prvs e s rs = some [.osl b n, .osl b2 n2, q])) (hb : Rf (s[b]? = some (.arr D' l))) (hb2 : Rf (s[b2]? = some (.arr D2 l2))) (hne : Rf (Nat.beq b2 b = false)) (hq : Rf (per2 q = true)) (hk : KK (.tup [.osl 0 n, .osl 1 n2, q]) [.arr D' l, .arr D2 l2]) : retP rs (gcK KK) .ret e s := ⟨_, hl.o, (.tup [.osl 0 n, .osl 1 n2, q], [.arr D' l, .arr D2 l2]), by
  show gc s (.tup [.osl b n, .osl b2 n2, q]) = _
  have hq := hq.o
  have h1 : gcL s 2 [q] = some ([q], [], []) := by
    unfold gcL
    split
    · simp [per2, per1] at hq
    · rw [if_pos hq]; rfl
  have h2 : gcL s 1 [.osl b2 n2, q] = some ([.osl 1 n2, q], [.arr D2 l2], [b2]) := by
    unfold gcL
    simp only [hb2.o, h1]
    rfl
  have hne' : b ≠ b2 := fun e => by have := Nat.ne_of_beq_eq_false hne.o; exact this e.symm
  unfold gc
  simp only
  unfold gcL
  simp only [hb.o, h2]
  simp [hne'], hk⟩
/-- the results of a function that is handed blocks of one's own -/
theorem r_all {ps : List PV} (hl : Rs (prvs e s rs = some ps)) (hk : KK (onep ps) s) : retP rs KK .ret e s := ⟨ps, hl.o, hk⟩
end
theorem ps_of {A B : Prop} {t : Bool} (h1 : t = true → A) (h2 : t = false → B) : psel (.bool t) A B := by
  cases t
  · exact h2 rfl
  · exact h1 rfl
theorem gs_of {A B : Prop} {t b : Bool} (h1 : t = b → A) (h2 : t ≠ b → B) : gsel (.bool t) b A B := by
  show if t = b then A else B
  split
  · rename_i h; exact h1 h
  · rename_i h; exact h2 h
end
/-! look-ups -/
theorem ev_T (e : Env) (t : Nat) : evE e (.tmp t) = e t := rfl
theorem ev_C (e : Env) (v : Value) : evE e (.const v) = ofV v := rfl
theorem ev_F (e : Env) (g : Nat) : evE e (.func g) = .fn g [] [] := rfl
theorem put_at (e : Env) (d : Nat) (p : PV) (t : Nat) : putE e (some d) p t = if t = d then p else e t := rfl
theorem put_none (e : Env) (p : PV) : putE e none p = e := rfl
theorem init_at (args : List PV) (t : Nat) : initE args t = args.getD t (.tup []) := rfl
theorem ofV_i (k : IntKind) (n : Int) : ofV (.int k n) = .int k n := rfl
theorem ofV_b (b : Bool) : ofV (.bool b) = .bool b := rfl
theorem ofV_s (t : ByteArray) : ofV (.string t) = .str t := rfl
theorem ofV_p : ofV (.pointer none) = .nilP := rfl
theorem ofV_l : ofV (.slice none 0 0) = .nilS := rfl
theorem ofV_I : ofV .nilIface = .nilI := rfl
theorem ofV_F : ofV .nilFunc = .nilF := rfl
theorem ofV_a (l : List Value) : ofV (.agg l.toArray) = .agg (l.map ofC) := by simp [ofV]
theorem ofC_i (k : IntKind) (n : Int) : ofC (.int k n) = .int k n := rfl
theorem ofC_b (b : Bool) : ofC (.bool b) = .bool b := rfl
theorem ofC_s (t : ByteArray) : ofC (.string t) = .str t := rfl
theorem ofC_p : ofC (.pointer none) = .nilP := rfl
theorem ofC_l : ofC (.slice none 0 0) = .nilS := rfl
theorem ofC_I : ofC .nilIface = .nilI := rfl
theorem ofC_F : ofC .nilFunc = .nilF := rfl
theorem toV_i (k : IntKind) (n : Int) : toV (.int k n) = some (.int k n) := rfl
theorem toV_b (b : Bool) : toV (.bool b) = some (.bool b) := rfl
theorem toV_s (t : ByteArray) : toV (.str t) = some (.string t) := rfl
theorem loP_n (e : Env) : loP e none = some 0 := rfl
theorem hiP_n (e : Env) (n : Nat) : hiP e n none = some n := rfl
theorem loP_s (e : Env) (x : Operand) : loP e (some x) = match evE e x with | .int _ n => some n | _ => none := rfl
theorem hiP_s (e : Env) (m : Nat) (x : Operand) : hiP e m (some x) = match evE e x with | .int _ n => some n | _ => none := rfl
theorem shP_t (k : Nat) (l : List PV) : shP k (.tup l) = .tup (l.map (sh1 k)) := rfl
theorem isC_t (t : Nat) : isC (.tmp t) = false := rfl
theorem isC_c (v : Value) : isC (.const v) = true := rfl
theorem nb_t (b : Bool) : nb true b = !b := rfl
theorem nb_f (b : Bool) : nb false b = b := rfl
theorem t_gz {α : Type} (a d : α) (l : List α) : (a :: l).getD 0 d = a := rfl
theorem t_gs {α : Type} (a d : α) (l : List α) (n : Nat) : (a :: l).getD (n + 1) d = l.getD n d := rfl
theorem t_mc {α β : Type} (f : α → β) (a : α) (l : List α) : (a :: l).map f = f a :: l.map f := rfl
theorem t_mn {α β : Type} (f : α → β) : ([] : List α).map f = [] := rfl
theorem t_lc {α : Type} (a : α) (l : List α) : (a :: l).length = l.length + 1 := rfl
theorem t_ln {α : Type} : ([] : List α).length = 0 := rfl
theorem t_an {α : Type} (l : List α) : [] ++ l = l := rfl
theorem t_ac {α : Type} (a : α) (l m : List α) : (a :: l) ++ m = a :: (l ++ m) := rfl
theorem t_na {α : Type} (l : List α) : l ++ [] = l := List.append_nil l
theorem t_sz {α : Type} (a b : α) (l : List α) : (a :: l).set 0 b = b :: l := rfl
theorem t_ss {α : Type} (a b : α) (l : List α) (n : Nat) : (a :: l).set (n + 1) b = a :: l.set n b := rfl
theorem t_ds {α : Type} (a : α) (l : List α) (n : Nat) : (a :: l).drop (n + 1) = l.drop n := rfl
theorem t_dz {α : Type} (l : List α) : l.drop 0 = l := rfl
theorem t_ts {α : Type} (a : α) (l : List α) (n : Nat) : (a :: l).take (n + 1) = a :: l.take n := rfl
theorem t_tz {α : Type} (l : List α) : l.take 0 = [] := rfl
theorem t_la {α : Type} (l m : List α) : (l ++ m).length = l.length + m.length := List.length_append
theorem t_lt {α : Type} (l : List α) (n : Nat) : (l.take n).length = min n l.length := List.length_take
theorem t_ld {α : Type} (l : List α) (n : Nat) : (l.drop n).length = l.length - n := List.length_drop
theorem t_lr {α : Type} (n : Nat) (a : α) : (List.replicate n a).length = n := List.length_replicate
theorem t_ls {α : Type} (l : List α) (n : Nat) (a : α) : (l.set n a).length = l.length := List.length_set
theorem t_lm {α β : Type} (f : α → β) (l : List α) : (l.map f).length = l.length := List.length_map f
theorem t_qz {α : Type} (a : α) (l : List α) : (a :: l)[0]? = some a := rfl
theorem t_qs {α : Type} (a : α) (l : List α) (n : Nat) : (a :: l)[n + 1]? = l[n]? := rfl
theorem t_ne {α : Type} (a b : α) : (a ≠ b) = ¬ a = b := rfl
theorem t_be {α : Type} [BEq α] [ReflBEq α] (a : α) : (a == a) = true := beq_self_eq_true a
theorem LL : type_of% (And.intro @ev_T <| And.intro @ev_C <| And.intro @ev_F <| And.intro @put_at <| And.intro @put_none <| And.intro @init_at <| And.intro @ofV_i <| And.intro @ofV_b <| And.intro @ofV_s <| And.intro @ofV_p <| And.intro @ofV_l <| And.intro @ofV_I <| And.intro @ofV_F <| And.intro @ofV_a <| And.intro @ofC_i <| And.intro @ofC_b <| And.intro @ofC_s <| And.intro @ofC_p <| And.intro @ofC_l <| And.intro @ofC_I <| And.intro @ofC_F <| And.intro @toV_i <| And.intro @toV_b <| And.intro @toV_s <| And.intro @t_gz <| And.intro @t_gs <| And.intro @loP_n <| And.intro @hiP_n <| And.intro @loP_s <| And.intro @hiP_s <| And.intro @t_mc @t_mn) := And.intro @ev_T <| And.intro @ev_C <| And.intro @ev_F <| And.intro @put_at <| And.intro @put_none <| And.intro @init_at <| And.intro @ofV_i <| And.intro @ofV_b <| And.intro @ofV_s <| And.intro @ofV_p <| And.intro @ofV_l <| And.intro @ofV_I <| And.intro @ofV_F <| And.intro @ofV_a <| And.intro @ofC_i <| And.intro @ofC_b <| And.intro @ofC_s <| And.intro @ofC_p <| And.intro @ofC_l <| And.intro @ofC_I <| And.intro @ofC_F <| And.intro @toV_i <| And.intro @toV_b <| And.intro @toV_s <| And.intro @t_gz <| And.intro @t_gs <| And.intro @loP_n <| And.intro @hiP_n <| And.intro @loP_s <| And.intro @hiP_s <| And.intro @t_mc @t_mn
theorem UU : type_of% (And.intro @t_lc <| And.intro @t_ln <| And.intro @Nat.zero_add <| And.intro @t_an <| And.intro @t_ac <| And.intro @t_na <| And.intro @t_sz <| And.intro @t_ss <| And.intro @t_ds <| And.intro @t_dz <| And.intro @t_ts <| And.intro @t_tz <| And.intro @t_mc <| And.intro @t_mn <| And.intro @ofC_i <| And.intro @ofC_b <| And.intro @ofC_s <| And.intro @ofC_p <| And.intro @ofC_l <| And.intro @ofC_I @ofC_F) := And.intro @t_lc <| And.intro @t_ln <| And.intro @Nat.zero_add <| And.intro @t_an <| And.intro @t_ac <| And.intro @t_na <| And.intro @t_sz <| And.intro @t_ss <| And.intro @t_ds <| And.intro @t_dz <| And.intro @t_ts <| And.intro @t_tz <| And.intro @t_mc <| And.intro @t_mn <| And.intro @ofC_i <| And.intro @ofC_b <| And.intro @ofC_s <| And.intro @ofC_p <| And.intro @ofC_l <| And.intro @ofC_I @ofC_F
theorem MM : type_of% (And.intro @t_la <| And.intro @t_lt <| And.intro @t_ld <| And.intro @t_lc <| And.intro @t_ln <| And.intro @t_lr <| And.intro @t_ls @t_lm) := And.intro @t_la <| And.intro @t_lt <| And.intro @t_ld <| And.intro @t_lc <| And.intro @t_ln <| And.intro @t_lr <| And.intro @t_ls @t_lm
theorem lenN {α : Type} : ([] : List α).length = 0 := rfl
theorem toNatL (n : Nat) : Int.toNat (no_index (@OfNat.ofNat Int n instOfNat)) = @OfNat.ofNat Nat n (instOfNatNat n) := rfl
theorem VV : type_of% (And.intro @b_add <| And.intro @b_sub <| And.intro @b_mul <| And.intro @b_eql <| And.intro @b_neq <| And.intro @b_lss <| And.intro @b_leq <| And.intro @b_gtr <| And.intro @b_geq <| And.intro @u_not <| And.intro @u_neg <| And.intro @s_eql <| And.intro @s_neq <| And.intro @uw <| And.intro @iw <| And.intro @w8 <| And.intro @w16 <| And.intro @w32 <| And.intro @Int.toNat_natCast <| And.intro @Int.toNat_zero <| And.intro @Int.toNat_one <| And.intro @decide_true <| And.intro @decide_false <| And.intro @Bool.or_true <| And.intro @Bool.true_or <| And.intro @Bool.or_false <| And.intro @Bool.false_or <| And.intro @Bool.and_true <| And.intro @Bool.true_and <| And.intro @Bool.and_false <| And.intro @Bool.false_and <| And.intro @Bool.not_true <| And.intro @Bool.not_false <| And.intro @Bool.true_beq <| And.intro @Bool.false_beq <| And.intro @t_qz <| And.intro @t_qs <| And.intro @toNatL <| And.intro @t_ne <| And.intro @not_true_eq_false <| And.intro @not_false_eq_true <| And.intro @Bool.false_eq_true <| And.intro @t_be <| And.intro @Nat.add_zero <| And.intro @Nat.zero_add <| And.intro @isC_t <| And.intro @isC_c <| And.intro @nb_t @nb_f) := And.intro @b_add <| And.intro @b_sub <| And.intro @b_mul <| And.intro @b_eql <| And.intro @b_neq <| And.intro @b_lss <| And.intro @b_leq <| And.intro @b_gtr <| And.intro @b_geq <| And.intro @u_not <| And.intro @u_neg <| And.intro @s_eql <| And.intro @s_neq <| And.intro @uw <| And.intro @iw <| And.intro @w8 <| And.intro @w16 <| And.intro @w32 <| And.intro @Int.toNat_natCast <| And.intro @Int.toNat_zero <| And.intro @Int.toNat_one <| And.intro @decide_true <| And.intro @decide_false <| And.intro @Bool.or_true <| And.intro @Bool.true_or <| And.intro @Bool.or_false <| And.intro @Bool.false_or <| And.intro @Bool.and_true <| And.intro @Bool.true_and <| And.intro @Bool.and_false <| And.intro @Bool.false_and <| And.intro @Bool.not_true <| And.intro @Bool.not_false <| And.intro @Bool.true_beq <| And.intro @Bool.false_beq <| And.intro @t_qz <| And.intro @t_qs <| And.intro @toNatL <| And.intro @t_ne <| And.intro @not_true_eq_false <| And.intro @not_false_eq_true <| And.intro @Bool.false_eq_true <| And.intro @t_be <| And.intro @Nat.add_zero <| And.intro @Nat.zero_add <| And.intro @isC_t <| And.intro @isC_c <| And.intro @nb_t @nb_f
theorem DD : type_of% (And.intro @dlt <| And.intro @dltF <| And.intro @dle <| And.intro @dleF <| And.intro @deq <| And.intro @deqF <| And.intro @dne @dneF) := And.intro @dlt <| And.intro @dltF <| And.intro @dle <| And.intro @dleF <| And.intro @deq <| And.intro @deqF <| And.intro @dne @dneF
end Go.Proofs.Ytalhipbbomagoaa.Pv
