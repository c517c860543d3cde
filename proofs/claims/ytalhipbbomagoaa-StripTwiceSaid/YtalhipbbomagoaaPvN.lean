/- More on rows of known cells: stores into them, slices that stand in them. No statement of the set is proved in this text. -/
import Derived.Test.YtalhipbbomagoaaBa3
namespace Go.Proofs.Ytalhipbbomagoaa.Pv
open Go.RowKit Go.Proofs.Ytalhipbbomagoaa.Ab Go.Proofs.Ytalhipbbomagoaa.AbP Go.Proofs.Ytalhipbbomagoaa.Num
set_option maxRecDepth 100000
set_option maxHeartbeats 4000000
set_option linter.unusedVariables false
set_option linter.unusedSimpArgs false
section
variable {P : Program} {Z : Bs} {K : Env → List OB → Prop} {Q : QP} {e : Env} {s s' : List OB} {cs : List CO} {pr : List Operand} {d : Option Nat} {kp : Bool} {es n b o i : Nat} {l c : List PV} {D' : D} {q : PV}
/-- a store into a row -/
theorem st_W {size : Nat} {l' : List PV} (hc : Pu (cellsP q = c)) (h1 : Rf (c.all one1 = true)) (hz : Rf (Nat.beq c.length size = true)) (ho : Om (i * es + o + size ≤ l.length)) (hp : Vl (putP l (i * es + o) c = l')) (hs : Pu (s.set b (.row es n l') = s')) (hkp : Rf (kp = false)) (hk : pops P Z pr cs K (putE e d (.tup [])) s') : StS P Z pr cs K e s d kp size b n i o q (.row es n l) := fun hb x y hx hy f h ⟨E, i', S, R⟩ => by
  obtain ⟨k, us, q1, q2, q3, q4, qn, q5⟩ := S.ob b _ hb
  have q1 : i' b = some k := q1
  rcases (R.at hx).oel_inv _ _ ⟨_, hb, rfl⟩ with hh | ⟨-, hi, k', q6, hv'⟩
  · omega
  have q6 : i' b = some k' := q6
  rw [q1] at q6
  obtain rfl := Option.some.inj q6
  obtain ⟨k1, k2⟩ := cellsP_PR (R.at hy) hc.o h1.o
  have hz := Nat.eq_of_beq_eq_true hz.o
  have ho := ho.o
  have hp := hp.o
  have hlen : (evF f y).cells.toList.length = size := by rw [← k1.1]; exact hz
  have hw := write_at q3 rfl (o := i * es + o) (vs := (evF f y).cells.toList) (by show _ + _ ≤ us.length; rw [hlen, ← q5.1]; exact ho) k2
  have hlo := (Hp.blk_lt q3).1
  have t := putP_PRs k1 q5 (i * es + o)
  rw [hp] at t
  obtain ⟨S', le'⟩ := S.upd b (.row es n l) (.row es n l') (i' b) (h.setBlk k ⟨putAt us (i * es + o) (evF f y).cells.toList, es, true⟩) E hb (by rfl) (by rw [Hp.next_set]; exact Nat.le_refl _)
    (fun b' k' hb' hne => by
      have hne' : b' ≠ k := fun e => hne ⟨rfl, by rw [e]; exact q1⟩
      exact ⟨by rw [Hp.blk_set_ne _ _ hlo hne']; exact hb', rfl⟩)
    (fun b' _ hb' => .inl ⟨rfl, hb'⟩) rfl ⟨fun h => by simp [OB.isV] at h, fun es' n' hh _ => ⟨n', Nat.le_refl _, hh, fun _ => rfl⟩⟩
    (fun le => ⟨k, putAt us (i * es + o) (evF f y).cells.toList, (ups_at _ _ _).trans q1, q2, Hp.blk_set _ _ q3, putAt_one _ _ _ k2 q4, by rw [t.1, putAt_length, ← q5.1]; exact qn, t.mono le⟩)
  rw [hs.o] at S' le'
  exact s_st hv' (by rw [← hlen]; simp) hw (hk _ _ ⟨E, _, S', (R.mono le').put (undef_PR _)⟩) hkp.o
theorem encP_one : ∀ (d : D) (x : d.T) (p : PV), p ∈ encP d x → one1 p = true
  | .int _, _, p, h => by obtain rfl := List.mem_singleton.1 h; rfl
  | .bool, _, p, h => by obtain rfl := List.mem_singleton.1 h; rfl
  | .str, _, p, h => by obtain rfl := List.mem_singleton.1 h; rfl
  | .sl _, _, p, h => by obtain rfl := List.mem_singleton.1 h; rfl
  | .st d, x, p, h => encP_one d x p h
  | .nil, _, p, h => by cases h
  | .cons d e, x, p, h => by
    rcases List.mem_append.1 h with h | h
    · exact encP_one d _ p h
    · exact encP_one e _ p h
theorem encs_of {X : Cx} {D' : D} : ∀ {l : List D'.T} {us : List Value}, Chunks (D'.Is X.m) l us → PRs X (l.flatMap (encP D')) us
  | [], us, h => by
    have e : us = [] := h
    subst e
    exact .nil X
  | x :: l, us, ⟨c, t, e, h1, h2⟩ => by
    subst e
    exact (encP_of D' x c h1).append (encs_of h2)
/-- a list of data, as a row of its cells -/
theorem Gh.row (D' : D) {l : List D'.T} (hb : s[b]? = some (.arr D' l)) (h0 : 0 < l.length) : Gh Z e s e (s.set b (.row D'.sz l.length (l.flatMap (encP D')))) := fun f h ⟨E, i, S, R⟩ => by
  obtain ⟨k, us, k1, k2, k3, k4, hd⟩ := arr_at S hb h0
  have hul := Chunks_len k4
  have he := encs_of (X := ⟨Hp.mask h E, i, s⟩) k4
  have hone : us.all (·.oneCell') = true := by
    rw [List.all_eq_true]
    intro v hv
    obtain ⟨j, hj⟩ := List.getElem?_of_mem hv
    have hpl : ∃ p, (l.flatMap (encP D'))[j]? = some p := by
      have hlt : j < (l.flatMap (encP D')).length := by rw [he.1]; exact (List.getElem?_eq_some_iff.1 hj).1
      exact ⟨_, List.getElem?_eq_getElem hlt⟩
    obtain ⟨p, hpj⟩ := hpl
    have h1 : one1 p = true := by
      have hm := List.mem_of_getElem? hpj
      obtain ⟨x, -, hx⟩ := List.mem_flatMap.1 hm
      exact encP_one D' x p hx
    exact (one1_one h1 (he.2 j p v hpj hj)).1
  obtain ⟨S', le'⟩ := S.upd b _ (.row D'.sz l.length (l.flatMap (encP D'))) (i b) h E hb rfl (Nat.le_refl _) (fun b' k' hb' _ => ⟨hb', rfl⟩) (fun b' _ hb' => .inl ⟨rfl, hb'⟩) rfl
    ⟨fun h => by simp [OB.isV] at h, fun es n' hh _ => ⟨n', Nat.le_refl _, by simpa [OB.sig] using hh, fun _ => rfl⟩⟩
    (fun le => ⟨k, us, (ups_at _ _ _).trans k1, k2, k3, hone, by rw [he.1, hul], he.mono le⟩)
  exact ⟨E, _, S', R.mono le'⟩
/-- a slice of one's own that stands in a row, as a list that is only read -/
theorem Gh.frzW {D' : D} {b' n' j : Nat} {l : List D'.T} (hb : s[b]? = some (.row es n c)) (hj : c[j]? = some (.osl b' n')) (hb' : s[b']? = some (.arr D' l)) (hn : n' = l.length) : Gh Z e s e ((s.set b' .dead).set b (.row es n (c.set j (.sl D' l)))) := fun f h ⟨E, i, S, R⟩ => by
  have hne : b' ≠ b := fun e => by rw [e, hb] at hb'; simp at hb'
  obtain ⟨S1, le1⟩ := S.free hb' rfl
  obtain ⟨k, us, q1, q2, q3, q4, qn, q5⟩ := S.ob b _ hb
  have hv : ∃ v, us[j]? = some v := by
    have hlt : j < us.length := by rw [← q5.1]; exact (List.getElem?_eq_some_iff.1 hj).1
    exact ⟨_, List.getElem?_eq_getElem hlt⟩
  obtain ⟨v, hv⟩ := hv
  have hz := frz_is S hb' hn (q5.2 j _ v hj hv)
  have hb1 : (s.set b' .dead)[b]? = some (.row es n c) := by rw [List.getElem?_set, if_neg hne]; exact hb
  obtain ⟨k', us', r1, r2, r3, r4, rn, r5⟩ := S1.ob b _ hb1
  have hk : k' = k := by
    have r1 : ups i b' none b = some k' := r1
    rw [ups_ne _ _ (Ne.symm hne)] at r1
    have q1 : i b = some k := q1
    rw [q1] at r1
    exact (Option.some.inj r1).symm
  subst hk
  have hus : us' = us := by
    rw [q3] at r3
    have := Option.some.inj r3
    injection this with h1 _ _
    exact h1.symm
  subst hus
  obtain ⟨S2, le2⟩ := S1.upd b (.row es n c) (.row es n (c.set j (.sl D' l))) (ups i b' none b) h _ hb1 rfl (Nat.le_refl _) (fun b2 k2 hb2 _ => ⟨hb2, rfl⟩) (fun b2 _ hb2 => .inl ⟨rfl, hb2⟩) rfl
    ⟨fun h => by simp [OB.isV] at h, fun es' n'' hh _ => ⟨n'', Nat.le_refl _, hh, fun _ => rfl⟩⟩
    (fun le => ⟨k', us', (ups_at _ _ _).trans r1, r2, r3, r4, by rw [List.length_set]; exact rn, by
      have r6 := r5.mono le
      refine ⟨by rw [List.length_set]; exact r6.1, fun a p w hp hw => ?_⟩
      rw [List.getElem?_set] at hp
      by_cases e : j = a
      · subst e
        rw [if_pos rfl] at hp
        split at hp
        · obtain rfl := Option.some.inj hp
          rw [hv] at hw
          obtain rfl := Option.some.inj hw
          exact hz.mono le
        · simp at hp
      · rw [if_neg e] at hp
        exact r6.2 a p w hp hw⟩)
  exact ⟨_, _, S2, (R.mono le1).mono le2⟩
/-- a slice of one's own that stands in a variable, as a list that is only read -/
theorem Gh.frzC {D' : D} {b' n' j : Nat} {l : List D'.T} (hb : s[b]? = some (.var c)) (hj : c[j]? = some (.osl b' n')) (hb' : s[b']? = some (.arr D' l)) (hn : n' = l.length) : Gh Z e s e ((s.set b' .dead).set b (.var (c.set j (.sl D' l)))) := fun f h ⟨E, i, S, R⟩ => by
  have hne : b' ≠ b := fun e => by rw [e, hb] at hb'; simp at hb'
  obtain ⟨S1, le1⟩ := S.free hb' rfl
  obtain ⟨k, us, q1, q2, q3, q4, q5⟩ := S.ob b _ hb
  have hv : ∃ v, us[j]? = some v := by
    have hlt : j < us.length := by rw [← q5.1]; exact (List.getElem?_eq_some_iff.1 hj).1
    exact ⟨_, List.getElem?_eq_getElem hlt⟩
  obtain ⟨v, hv⟩ := hv
  have hz := frz_is S hb' hn (q5.2 j _ v hj hv)
  have hb1 : (s.set b' .dead)[b]? = some (.var c) := by rw [List.getElem?_set, if_neg hne]; exact hb
  obtain ⟨k', us', r1, r2, r3, r4, r5⟩ := S1.ob b _ hb1
  have hk : k' = k := by
    have r1 : ups i b' none b = some k' := r1
    rw [ups_ne _ _ (Ne.symm hne)] at r1
    have q1 : i b = some k := q1
    rw [q1] at r1
    exact (Option.some.inj r1).symm
  subst hk
  have hus : us' = us := by
    rw [q3] at r3
    have := Option.some.inj r3
    injection this with h1 _ _
    exact h1.symm
  subst hus
  obtain ⟨S2, le2⟩ := S1.upd b (.var c) (.var (c.set j (.sl D' l))) (ups i b' none b) h _ hb1 rfl (Nat.le_refl _) (fun b2 k2 hb2 _ => ⟨hb2, rfl⟩) (fun b2 _ hb2 => .inl ⟨rfl, hb2⟩) rfl
    ⟨fun _ => ⟨rfl, rfl⟩, fun es n h => by simp [OB.sig] at h⟩
    (fun le => ⟨k', us', (ups_at _ _ _).trans r1, r2, r3, r4, by
      have r6 := r5.mono le
      refine ⟨by rw [List.length_set]; exact r6.1, fun a p w hp hw => ?_⟩
      rw [List.getElem?_set] at hp
      by_cases e : j = a
      · subst e
        rw [if_pos rfl] at hp
        split at hp
        · obtain rfl := Option.some.inj hp
          rw [hv] at hw
          obtain rfl := Option.some.inj hw
          exact hz.mono le
        · simp at hp
      · rw [if_neg e] at hp
        exact r6.2 a p w hp hw⟩)
  exact ⟨_, _, S2, (R.mono le1).mono le2⟩
/-- nothing in a row's cell, as a list of one's own -/
theorem Gh.virtW (D' : D) {j : Nat} (hb : s[b]? = some (.row es n c)) (hx : c[j]? = some .nilS) (hd : 0 < D'.sz) : Gh Z e s e (s.set b (.row es n (c.set j (.osl s.length 0))) ++ [.arr D' []]) := fun f h ⟨E, i, S, R⟩ => by
  have hlt := (List.getElem?_eq_some_iff.1 hb).1
  obtain ⟨S1, le1⟩ := S.add (.arr D' []) none h E rfl (Nat.le_refl _) (fun b k hb => ⟨hb, rfl⟩) (fun b hb => by simp at hb) (fun le => ⟨hd, .inl ⟨ups_at _ _ _, rfl⟩⟩)
  have hb1 : (s ++ [OB.arr D' []])[b]? = some (.row es n c) := by rw [List.getElem?_append_left hlt]; exact hb
  obtain ⟨k, us, q1, q2, q3, q4, qn, q5⟩ := S1.ob b _ hb1
  obtain ⟨S2, le2⟩ := S1.upd b (.row es n c) (.row es n (c.set j (.osl s.length 0))) (ups i s.length none b) h E hb1 rfl (Nat.le_refl _) (fun b' k' hb' _ => ⟨hb', rfl⟩) (fun b' _ hb' => .inl ⟨rfl, hb'⟩) rfl
    ⟨fun h => by simp [OB.isV] at h, fun es' n'' hh _ => ⟨n'', Nat.le_refl _, hh, fun _ => rfl⟩⟩
    (fun le => ⟨k, us, (ups_at _ _ _).trans q1, q2, q3, q4, by rw [List.length_set]; exact qn, (q5.mono le).put fun v hv => by
      have h1 := (q5.mono le).2 j .nilS v hx hv
      rw [h1.nilS_inv]
      refine .osl _ 0 _ ⟨_, _, _, rfl⟩ (by simp) (fun es' n' hl => .inr ⟨?_, 0, .inl rfl, ?_⟩)
      · obtain ⟨o', ho, hsig⟩ := hl
        have ho : ((s ++ [OB.arr D' []]).set b (.row es n (c.set j (.osl s.length 0))))[s.length]? = some o' := ho
        rw [List.getElem?_set, if_neg (by omega)] at ho
        simp at ho
        subst ho
        simp [OB.sig] at hsig
        exact hsig.2
      · show _ = slV (ups (ups i s.length none) b (ups i s.length none b) s.length) 0 0
        rw [ups_ne _ _ (by omega), ups_at]
        rfl⟩)
  have e1 : (s ++ [OB.arr D' []]).set b (.row es n (c.set j (.osl s.length 0))) = s.set b (.row es n (c.set j (.osl s.length 0))) ++ [.arr D' []] := by
    rw [List.set_append_left _ _ hlt]
  rw [e1] at S2 le2
  exact ⟨E, _, S2, (R.mono le1).mono le2⟩
theorem chunk_one {X : Cx} {D' : D} {l : List D'.T} {us : List Value} (k4 : Chunks (D'.Is X.m) l us) : us.all (·.oneCell') = true := by
  have he := encs_of (X := X) k4
  rw [List.all_eq_true]
  intro v hv
  obtain ⟨j, hj⟩ := List.getElem?_of_mem hv
  have hlt : j < (l.flatMap (encP D')).length := by rw [he.1]; exact (List.getElem?_eq_some_iff.1 hj).1
  have hpj := List.getElem?_eq_getElem hlt
  have h1 : one1 ((l.flatMap (encP D'))[j]) = true := by
    obtain ⟨x, -, hx⟩ := List.mem_flatMap.1 (List.mem_of_getElem? hpj)
    exact encP_one D' x _ hx
  exact (one1_one h1 (he.2 j _ v hpj hj)).1
/-- a row appended to a list, told as a row -/
theorem q_appW {x y : Operand} {bytes b2 n2 : Nat} {l : List D'.T} {c2 : List PV} (hx : Lk (evE e x = .osl b n)) (hy : Lk (evE e y = .osl b2 n2)) (hb : Rf (s[b]? = some (.arr D' l))) (hb2 : Rf (s[b2]? = some (.row es n2 c2))) (hn : Om (n = l.length)) (he : Rf (Nat.beq D'.sz es = true)) (h0 : Om (0 < n2)) (h1 : Om ((l.length + n2) * bytes ≤ 2 ^ 46)) (h2 : Om (l.length + n2 < 2 ^ 62)) (hs : Pu (s.set b (.row es (l.length + n2) (l.flatMap (encP D') ++ c2)) = s'))
    (hk : pops P Z pr cs K (putE e d (.osl b (l.length + n2))) s') : pops P Z pr (⟨d, none, false, .e (.app es bytes x y)⟩ :: cs) K e s := fun f h ⟨E, i, S, R⟩ => by
  have he := Nat.eq_of_beq_eq_true he.o
  subst he
  have hn := hn.o
  have h0 := h0.o
  have h1 := h1.o
  have h2 := h2.o
  obtain ⟨k2', us2, g1, g2, g3, g4, g5, g6⟩ := S.ob b2 _ hb2.o
  have g1 : i b2 = some k2' := g1
  obtain ⟨hd, hob⟩ := S.ob b _ hb.o
  have hlt := (List.getElem?_eq_some_iff.1 hb.o).1
  rcases (R.at hx.o).osl_inv _ _ ⟨_, hb.o, rfl⟩ with hh | ⟨-, c, hc, hv⟩
  · omega
  rcases (R.at hy.o).osl_inv _ _ ⟨_, hb2.o, rfl⟩ with hh | ⟨-, c3, hc3, hv3⟩
  · omega
  simp only [g1, slV] at hv3
  have hul2 : us2.length = n2 * D'.sz := by rw [← g6.1]; exact g5
  have hsrc : srcV h D'.sz (evF f y) = some (us2, n2) := by
    rw [hv3]
    simp only [srcV]
    rw [blk_cells' g3 rfl (by show 0 + n2 * D'.sz ≤ us2.length; omega), List.drop_zero, ← hul2, List.take_length]
    rfl
  have lvn : ∀ {i' : Nat → Option Nat} {m : Hp} {es' n' : Nat}, lvS ⟨m, i', s'⟩ b es' n' → es' = D'.sz ∧ n' = l.length + n2 := fun hl => by
    obtain ⟨o, ho, hsig⟩ := hl
    rw [← hs.o] at ho
    have ho : (s.set b (.row D'.sz (l.length + n2) (l.flatMap (encP D') ++ c2)))[b]? = some o := ho
    rw [List.getElem?_set, if_pos rfl, if_pos hlt] at ho
    obtain rfl := Option.some.inj ho
    simp only [OB.sig, Option.some.injEq, Prod.mk.injEq] at hsig
    exact ⟨hsig.1.symm, hsig.2.symm⟩
  have hlen' : b < s'.length := by rw [← hs.o]; simpa using hlt
  have fin : ∀ (h' : Hp) (us : List Value), (∀ b' k', h.blk? b' = some k' → ¬ (OB.live (.arr D' l) = true ∧ i b = some b') → h'.blk? b' = some k') → h'.old = h.old → h'.next = h.next + 1 → h'.blk? h.next = some ⟨us ++ us2, D'.sz, true⟩ → Chunks (D'.Is (Hp.mask h E)) l us →
      h.append D'.sz bytes (evF f x) us2 n2 = some (.slice (some ⟨h.next, 0, none⟩) (l.length + n2) (l.length + n2 + 1), h') → aops P pr (⟨d, none, false, .e (.app D'.sz bytes x y)⟩ :: cs) (Lf Z K) f h := fun h' us q1 q2 q3 q4 q5 q6 => by
    have he5 := encs_of (X := ⟨Hp.mask h E, i, s⟩) q5
    have hu := S.upd b (.arr D' l) (.row D'.sz (l.length + n2) (l.flatMap (encP D') ++ c2)) (some h.next) h' (fun b' => b' == h.next || E b') hb.o q2 (by omega)
      (fun b' k' hb' hne => ⟨q1 b' k' hb' hne, by
        have : b' ≠ h.next := by have := (Hp.blk_lt hb').2; omega
        simp [this]⟩)
      (fun b' _ hb' => by obtain rfl := Option.some.inj hb'; exact .inr (Nat.le_refl _)) rfl
      ⟨fun h => by simp [OB.isV] at h, fun es n hh _ => by
        simp only [OB.sig, Option.some.injEq, Prod.mk.injEq] at hh
        exact ⟨l.length, by omega, by simp [OB.sig, hh.1], fun e => by omega⟩⟩
      (fun le => ⟨h.next, us ++ us2, ups_at _ _ _, by simp, q4, by rw [List.all_append, chunk_one (X := ⟨Hp.mask h E, i, s⟩) q5, g4]; rfl, by rw [List.length_append, g5, he5.1, Chunks_len q5, Nat.add_mul], (he5.mono le).append (g6.mono le)⟩)
    rw [hs.o] at hu
    obtain ⟨S', le'⟩ := hu
    refine s_gen (fun K1 hK => ⟨us2, n2, _, _, hsrc, q6, hK⟩) (fun hh => by cases hh) (hk _ _ ⟨_, _, S', (R.mono le').put ?_⟩)
    refine .osl b _ _ ⟨_, _, _, rfl⟩ hlen' (fun es' n' hl => .inr ⟨(lvn hl).2.symm, _, .inr rfl, ?_⟩)
    show _ = slV (ups i b (some h.next) b) _ _
    rw [ups_at]
    rfl
  have hm : ¬ n2 = 0 := by omega
  rcases hob with ⟨k1, k2⟩ | ⟨k, us, k1, k2, k3, k4⟩
  · have k1 : i b = none := k1
    subst k2
    refine fin (h.push ⟨[] ++ us2, D'.sz, true⟩) [] (fun b' k' hb' _ => ?_) rfl (by rw [Hp.next_push]) (Hp.blk_push _ _) rfl ?_
    · rw [Hp.blk_push_ne _ _ (by have := (Hp.blk_lt hb').2; omega)]; exact hb'
    · rw [hv]
      simp only [List.length_nil] at hn h1 h2
      subst hn
      simp only [k1, slV, Hp.append]
      rw [if_neg (by simp; simp at h1 h2; omega), if_neg hm, if_pos ⟨trivial, trivial⟩]
      simp
  · have k1 : i b = some k := k1
    have hlo := (Hp.blk_lt k3).1
    have hul := Chunks_len k4
    have hcells : h.cells? ⟨k, 0, none⟩ (n * D'.sz) = some us := by
      rw [blk_cells' k3 rfl (by show 0 + n * D'.sz ≤ us.length; rw [hul, hn]; omega), List.drop_zero, hn, ← hul, List.take_length]
    have hv' : evF f x = .slice (some ⟨k, 0, none⟩) n c := by rw [hv]; show slV (i b) n c = _; rw [k1]; rfl
    by_cases hcn : c = n
    · refine fin (h.push ⟨us ++ us2, D'.sz, true⟩) us (fun b' k' hb' _ => ?_) rfl (by rw [Hp.next_push]) (Hp.blk_push _ _) k4 ?_
      · rw [Hp.blk_push_ne _ _ (by have := (Hp.blk_lt hb').2; omega)]; exact hb'
      · rw [hv']
        simp only [Hp.append]
        rw [if_neg (by simp only [Decidable.not_not]; exact ⟨by omega, by rw [hn]; exact h1, by omega⟩), if_neg hm]
        simp only [hcells]
        rw [if_pos hcn, hn]
    · have hkill : h.kill k = h.setBlk k ⟨us, D'.sz, false⟩ := Hp.kill_eq k3
      have hnx : (h.kill k).next = h.next := by rw [hkill, Hp.next_set]
      refine fin ((h.kill k).push ⟨us ++ us2, D'.sz, true⟩) us (fun b' k' hb' hne => ?_) (by rw [hkill]; rfl) (by rw [Hp.next_push, hnx]) (by rw [← hnx]; exact Hp.blk_push _ _) k4 ?_
      · have hne' : b' ≠ k := fun e => hne ⟨rfl, by rw [e]; exact k1⟩
        rw [Hp.blk_push_ne _ _ (by rw [hnx]; have := (Hp.blk_lt hb').2; omega), hkill, Hp.blk_set_ne _ _ hlo hne']
        exact hb'
      · rw [hv']
        simp only [Hp.append]
        rw [if_neg (by simp only [Decidable.not_not]; exact ⟨by omega, by rw [hn]; exact h1, by omega⟩), if_neg hm]
        simp only [hcells]
        rw [if_neg hcn, if_pos ⟨by omega, by omega, trivial, trivial, by simp [k3]⟩, hn]
/-- a call of a function that is handed variables of one's own, beside what was read -/
theorem ca_SK {f : FuncId} {ps : List PV} (js : List Nat) (hj : Rf (goodJ s.length js = true)) {l' : List PV} {s0 : List OB} (hr : Pu (ps.map (renB js) = l')) (hs : Pu (selS js s = s0)) {rs : List PV} (hrs : Mp (pr.map (evE e) = rs)) (hc : Rf (capOk js ps = true)) (ha : Rf (ps.all (argOk s rs) = true)) (hk : PCalls P f l' s0 (AftS P Z pr cs K e s d js)) : CaG P Z pr cs K e s d kp f ps := fun xs hx fr h ⟨E, i, S, R⟩ => by
  have A := R.map hx
  rw [← hr.o, ← hs.o] at hk
  have hcall := call_SK js hj.o hrs.o hc.o ha.o hk S R A
  refine s_calP (fx := .func f) (g := f) (a := #[]) (b := #[]) rfl ?_
  have e1 : (#[] : Array Value).toList ++ xs.map (evF fr) ++ (#[] : Array Value).toList = xs.map (evF fr) := by simp
  rw [e1]
  exact hcall
theorem renB_enc (js : List Nat) : ∀ (d : D) (x : d.T), (encP d x).map (renB js) = encP d x
  | .int _, _ => rfl
  | .bool, _ => rfl
  | .str, _ => rfl
  | .sl _, _ => rfl
  | .st d, x => renB_enc js d x
  | .nil, _ => rfl
  | .cons d e, x => by show (encP d x.1 ++ encP e x.2).map (renB js) = encP d x.1 ++ encP e x.2; rw [List.map_append, renB_enc js d, renB_enc js e]
theorem renB_encs (js : List Nat) (d : D) (l : List d.T) : (l.flatMap (encP d)).map (renB js) = l.flatMap (encP d) := by
  induction l with
  | nil => rfl
  | cons x l ih => rw [List.flatMap_cons, List.map_append, renB_enc, ih]
theorem sameD_self : ∀ d : D, sameD d d = some ⟨rfl⟩
  | .int _ => by simp [sameD]
  | .bool => rfl
  | .str => rfl
  | .nil => rfl
  | .sl a => by simp [sameD, sameD_self a]
  | .st a => by simp [sameD, sameD_self a]
  | .cons a b => by simp [sameD, sameD_self a, sameD_self b]
theorem decP_enc : ∀ (d : D) (x : d.T), decP d (encP d x) = some x
  | .int _, _ => by simp [encP, decP]
  | .bool, _ => rfl
  | .str, _ => rfl
  | .sl d, l => by simp [encP, decP, sameD_self d]
  | .st d, x => decP_enc d x
  | .nil, _ => rfl
  | .cons d e, x => by
    show (match decP d ((encP d x.1 ++ encP e x.2).take d.sz), decP e ((encP d x.1 ++ encP e x.2).drop d.sz) with | some x, some y => some (x, y) | _, _ => none) = some x
    rw [List.take_left' (encP_len d x.1), List.drop_left' (encP_len d x.1), decP_enc d, decP_enc e]
theorem decs_encs (d : D) : ∀ l : List d.T, decs d l.length (l.flatMap (encP d)) = some l
  | [] => rfl
  | x :: l => by
    show (match decP d ((encP d x ++ l.flatMap (encP d)).take d.sz), decs d l.length ((encP d x ++ l.flatMap (encP d)).drop d.sz) with | some x, some r => some (x :: r) | _, _ => none) = some (x :: l)
    rw [List.take_left' (encP_len d x), List.drop_left' (encP_len d x), decP_enc d, decs_encs d l]
theorem encs_len (d : D) (l : List d.T) : (l.flatMap (encP d)).length = l.length * d.sz := by
  induction l with
  | nil => simp
  | cons x l ih => rw [List.flatMap_cons, List.length_append, encP_len, ih, List.length_cons, Nat.add_mul, Nat.one_mul, Nat.add_comm]
/-- the cells of the last thing -/
theorem last_at {d : D} (l : List d.T) (c : List PV) (o : Nat) : (l.flatMap (encP d) ++ c)[l.length * d.sz + o]? = c[o]? := by
  rw [← encs_len, List.getElem?_append_right (Nat.le_add_right _ _), Nat.add_sub_cancel_left]
theorem last_set {d : D} (l : List d.T) (c : List PV) (o : Nat) (p : PV) : (l.flatMap (encP d) ++ c).set (l.length * d.sz + o) p = l.flatMap (encP d) ++ c.set o p := by
  rw [← encs_len, List.set_append_right _ _ (Nat.le_add_right _ _), Nat.add_sub_cancel_left]
end
end Go.Proofs.Ytalhipbbomagoaa.Pv
