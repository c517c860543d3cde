/- More on rows of known cells: stores into them, slices that stand in them. No statement of the set is proved in this text. -/
import Derived.Test.YtmknnlbbfeldbaaPvM
namespace Go.Proofs.Ytmknnlbbfeldbaa.Pv
open Go.RowKit Go.Proofs.Ytmknnlbbfeldbaa.Ab Go.Proofs.Ytmknnlbbfeldbaa.AbP Go.Proofs.Ytmknnlbbfeldbaa.Num
set_option linter.unusedVariables false
set_option linter.unusedSimpArgs false
section
variable {P : Program} {Z : Bs} {K : Env → List OB → Prop} {Q : QP} {e : Env} {s s' : List OB} {cs : List CO} {pr : List Operand} {d : Option Nat} {kp : Bool} {es n b o i : Nat} {l c : List PV} {D' : D} {q : PV}
/-- a store into a row -/
theorem st_W {size : Nat} {l' : List PV} (hc : Pu (cellsP q = c)) (h1 : Rf (c.all one1 = true)) (hz : Rf (Nat.beq c.length size = true)) (ho : Om (i * es + o + size ≤ l.length)) (hp : Vl (putP l (i * es + o) c = l')) (hs : Pu (s.set b (.row es n l') = s')) (hkp : Rf (kp = false)) (hk : pops P Z pr cs K (putE e d (.tup [])) s') : StS P Z pr cs K e s d kp size b n i o q (.row es n l) := fun hb x y hx hy f h ⟨E, i', S, R⟩ => by
  obtain ⟨k, us, q1, q2, q3, q4, qn, q5⟩ := S.ob b _ hb
  have q1 : i' b = some k := q1
  rcases (R.at hx).oel_inv _ _ ⟨_, hb, rfl⟩ with hh | ⟨-, hi, k', q6, hv'⟩
  · omega
  have q6 : i' b = some k' := q6
  rw [q1] at q6
  obtain rfl := Option.some.inj q6
  obtain ⟨k1, k2⟩ := cellsP_PR (R.at hy) hc.o h1.o
  have hz := Nat.eq_of_beq_eq_true hz.o
  have ho := ho.o
  have hp := hp.o
  have hlen : (evF f y).cells.toList.length = size := by rw [← k1.1]; exact hz
  have hw := write_at q3 rfl (o := i * es + o) (vs := (evF f y).cells.toList) (by show _ + _ ≤ us.length; rw [hlen, ← q5.1]; exact ho) k2
  have hlo := (Hp.blk_lt q3).1
  have t := putP_PRs k1 q5 (i * es + o)
  rw [hp] at t
  obtain ⟨S', le'⟩ := S.upd b (.row es n l) (.row es n l') (i' b) (h.setBlk k ⟨putAt us (i * es + o) (evF f y).cells.toList, es, true⟩) E hb (by rfl) (by rw [Hp.next_set]; exact Nat.le_refl _)
    (fun b' k' hb' hne => by
      have hne' : b' ≠ k := fun e => hne ⟨rfl, by rw [e]; exact q1⟩
      exact ⟨by rw [Hp.blk_set_ne _ _ hlo hne']; exact hb', rfl⟩)
    (fun b' _ hb' => .inl ⟨rfl, hb'⟩) rfl ⟨fun h => by simp [OB.isV] at h, fun es' n' hh _ => ⟨n', Nat.le_refl _, hh, fun _ => rfl⟩⟩
    (fun le => ⟨k, putAt us (i * es + o) (evF f y).cells.toList, (ups_at _ _ _).trans q1, q2, Hp.blk_set _ _ q3, putAt_one _ _ _ k2 q4, by rw [t.1, putAt_length, ← q5.1]; exact qn, t.mono le⟩)
  rw [hs.o] at S' le'
  exact s_st hv' (by rw [← hlen]; simp) hw (hk _ _ ⟨E, _, S', (R.mono le').put (undef_PR _)⟩) hkp.o
theorem encP_one : ∀ (d : D) (x : d.T) (p : PV), p ∈ encP d x → one1 p = true
  | .int _, _, p, h => by obtain rfl := List.mem_singleton.1 h; rfl
  | .bool, _, p, h => by obtain rfl := List.mem_singleton.1 h; rfl
  | .str, _, p, h => by obtain rfl := List.mem_singleton.1 h; rfl
  | .sl _, _, p, h => by obtain rfl := List.mem_singleton.1 h; rfl
  | .st d, x, p, h => encP_one d x p h
  | .nil, _, p, h => by cases h
  | .cons d e, x, p, h => by
    rcases List.mem_append.1 h with h | h
    · exact encP_one d _ p h
    · exact encP_one e _ p h
theorem encs_of {X : Cx} {D' : D} : ∀ {l : List D'.T} {us : List Value}, Chunks (D'.Is X.m) l us → PRs X (l.flatMap (encP D')) us
  | [], us, h => by
    have e : us = [] := h
    subst e
    exact .nil X
  | x :: l, us, ⟨c, t, e, h1, h2⟩ => by
    subst e
    exact (encP_of D' x c h1).append (encs_of h2)
/-- a list of data, as a row of its cells -/
theorem Gh.row (D' : D) {l : List D'.T} (hb : s[b]? = some (.arr D' l)) (h0 : 0 < l.length) : Gh Z e s e (s.set b (.row D'.sz l.length (l.flatMap (encP D')))) := fun f h ⟨E, i, S, R⟩ => by
  obtain ⟨k, us, k1, k2, k3, k4, hd⟩ := arr_at S hb h0
  have hul := Chunks_len k4
  have he := encs_of (X := ⟨Hp.mask h E, i, s⟩) k4
  have hone : us.all (·.oneCell') = true := by
    rw [List.all_eq_true]
    intro v hv
    obtain ⟨j, hj⟩ := List.getElem?_of_mem hv
    have hpl : ∃ p, (l.flatMap (encP D'))[j]? = some p := by
      have hlt : j < (l.flatMap (encP D')).length := by rw [he.1]; exact (List.getElem?_eq_some_iff.1 hj).1
      exact ⟨_, List.getElem?_eq_getElem hlt⟩
    obtain ⟨p, hpj⟩ := hpl
    have h1 : one1 p = true := by
      have hm := List.mem_of_getElem? hpj
      obtain ⟨x, -, hx⟩ := List.mem_flatMap.1 hm
      exact encP_one D' x p hx
    exact (one1_one h1 (he.2 j p v hpj hj)).1
  obtain ⟨S', le'⟩ := S.upd b _ (.row D'.sz l.length (l.flatMap (encP D'))) (i b) h E hb rfl (Nat.le_refl _) (fun b' k' hb' _ => ⟨hb', rfl⟩) (fun b' _ hb' => .inl ⟨rfl, hb'⟩) rfl
    ⟨fun h => by simp [OB.isV] at h, fun es n' hh _ => ⟨n', Nat.le_refl _, by simpa [OB.sig] using hh, fun _ => rfl⟩⟩
    (fun le => ⟨k, us, (ups_at _ _ _).trans k1, k2, k3, hone, by rw [he.1, hul], he.mono le⟩)
  exact ⟨E, _, S', R.mono le'⟩
/-- a slice of one's own that stands in a row, as a list that is only read -/
theorem Gh.frzW {D' : D} {b' n' j : Nat} {l : List D'.T} (hb : s[b]? = some (.row es n c)) (hj : c[j]? = some (.osl b' n')) (hb' : s[b']? = some (.arr D' l)) (hn : n' = l.length) : Gh Z e s e ((s.set b' .dead).set b (.row es n (c.set j (.sl D' l)))) := fun f h ⟨E, i, S, R⟩ => by
  have hne : b' ≠ b := fun e => by rw [e, hb] at hb'; simp at hb'
  obtain ⟨S1, le1⟩ := S.free hb' rfl
  obtain ⟨k, us, q1, q2, q3, q4, qn, q5⟩ := S.ob b _ hb
  have hv : ∃ v, us[j]? = some v := by
    have hlt : j < us.length := by rw [← q5.1]; exact (List.getElem?_eq_some_iff.1 hj).1
    exact ⟨_, List.getElem?_eq_getElem hlt⟩
  obtain ⟨v, hv⟩ := hv
  have hz := frz_is S hb' hn (q5.2 j _ v hj hv)
  have hb1 : (s.set b' .dead)[b]? = some (.row es n c) := by rw [List.getElem?_set, if_neg hne]; exact hb
  obtain ⟨k', us', r1, r2, r3, r4, rn, r5⟩ := S1.ob b _ hb1
  have hk : k' = k := by
    have r1 : ups i b' none b = some k' := r1
    rw [ups_ne _ _ (Ne.symm hne)] at r1
    have q1 : i b = some k := q1
    rw [q1] at r1
    exact (Option.some.inj r1).symm
  subst hk
  have hus : us' = us := by
    rw [q3] at r3
    have := Option.some.inj r3
    injection this with h1 _ _
    exact h1.symm
  subst hus
  obtain ⟨S2, le2⟩ := S1.upd b (.row es n c) (.row es n (c.set j (.sl D' l))) (ups i b' none b) h _ hb1 rfl (Nat.le_refl _) (fun b2 k2 hb2 _ => ⟨hb2, rfl⟩) (fun b2 _ hb2 => .inl ⟨rfl, hb2⟩) rfl
    ⟨fun h => by simp [OB.isV] at h, fun es' n'' hh _ => ⟨n'', Nat.le_refl _, hh, fun _ => rfl⟩⟩
    (fun le => ⟨k', us', (ups_at _ _ _).trans r1, r2, r3, r4, by rw [List.length_set]; exact rn, by
      have r6 := r5.mono le
      refine ⟨by rw [List.length_set]; exact r6.1, fun a p w hp hw => ?_⟩
      rw [List.getElem?_set] at hp
      by_cases e : j = a
      · subst e
        rw [if_pos rfl] at hp
        split at hp
        · obtain rfl := Option.some.inj hp
          rw [hv] at hw
          obtain rfl := Option.some.inj hw
          exact hz.mono le
        · simp at hp
      · rw [if_neg e] at hp
        exact r6.2 a p w hp hw⟩)
  exact ⟨_, _, S2, (R.mono le1).mono le2⟩
/-- nothing in a row's cell, as a list of one's own -/
theorem Gh.virtW (D' : D) {j : Nat} (hb : s[b]? = some (.row es n c)) (hx : c[j]? = some .nilS) (hd : 0 < D'.sz) : Gh Z e s e (s.set b (.row es n (c.set j (.osl s.length 0))) ++ [.arr D' []]) := fun f h ⟨E, i, S, R⟩ => by
  have hlt := (List.getElem?_eq_some_iff.1 hb).1
  obtain ⟨S1, le1⟩ := S.add (.arr D' []) none h E rfl (Nat.le_refl _) (fun b k hb => ⟨hb, rfl⟩) (fun b hb => by simp at hb) (fun le => ⟨hd, .inl ⟨ups_at _ _ _, rfl⟩⟩)
  have hb1 : (s ++ [OB.arr D' []])[b]? = some (.row es n c) := by rw [List.getElem?_append_left hlt]; exact hb
  obtain ⟨k, us, q1, q2, q3, q4, qn, q5⟩ := S1.ob b _ hb1
  obtain ⟨S2, le2⟩ := S1.upd b (.row es n c) (.row es n (c.set j (.osl s.length 0))) (ups i s.length none b) h E hb1 rfl (Nat.le_refl _) (fun b' k' hb' _ => ⟨hb', rfl⟩) (fun b' _ hb' => .inl ⟨rfl, hb'⟩) rfl
    ⟨fun h => by simp [OB.isV] at h, fun es' n'' hh _ => ⟨n'', Nat.le_refl _, hh, fun _ => rfl⟩⟩
    (fun le => ⟨k, us, (ups_at _ _ _).trans q1, q2, q3, q4, by rw [List.length_set]; exact qn, (q5.mono le).put fun v hv => by
      have h1 := (q5.mono le).2 j .nilS v hx hv
      rw [h1.nilS_inv]
      refine .osl _ 0 _ ⟨_, _, _, rfl⟩ (by simp) (fun es' n' hl => .inr ⟨?_, 0, .inl rfl, ?_⟩)
      · obtain ⟨o', ho, hsig⟩ := hl
        have ho : ((s ++ [OB.arr D' []]).set b (.row es n (c.set j (.osl s.length 0))))[s.length]? = some o' := ho
        rw [List.getElem?_set, if_neg (by omega)] at ho
        simp at ho
        subst ho
        simp [OB.sig] at hsig
        exact hsig.2
      · show _ = slV (ups (ups i s.length none) b (ups i s.length none b) s.length) 0 0
        rw [ups_ne _ _ (by omega), ups_at]
        rfl⟩)
  have e1 : (s ++ [OB.arr D' []]).set b (.row es n (c.set j (.osl s.length 0))) = s.set b (.row es n (c.set j (.osl s.length 0))) ++ [.arr D' []] := by
    rw [List.set_append_left _ _ hlt]
  rw [e1] at S2 le2
  exact ⟨E, _, S2, (R.mono le1).mono le2⟩
end
end Go.Proofs.Ytmknnlbbfeldbaa.Pv
