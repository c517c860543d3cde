/- States of plain values: calls, results, laws. No statement of the set is proved in this text. -/
import Derived.Test.YtalhipbbomagoaaPvF
namespace Go.Proofs.Ytalhipbbomagoaa.Pv
open Go.RowKit Go.Proofs.Ytalhipbbomagoaa.Ab Go.Proofs.Ytalhipbbomagoaa.AbP
set_option linter.unusedVariables false
set_option linter.unusedSimpArgs false
/-! values that know of no block of one's own -/
def per1 : PV → Bool
  | .int _ _ | .bool _ | .str _ | .nilI | .nilF | .nilP | .nilS | .sl _ _ | .elt _ _ _ _ => true
  | _ => false
def per2 : PV → Bool
  | .agg l => l.all per1
  | .tup l => l.all per1
  | .ref l _ => l.all per1
  | .ifc _ (.ref l _) => l.all per1
  | .ifc _ v => per1 v
  | .fn _ [] [] => true
  | p => per1 p
def per3 : PV → Bool
  | .agg l => l.all per2
  | .tup l => l.all per2
  | p => per2 p
theorem per1_PR {X Y : Cx} {p : PV} {v : Value} (h : per1 p = true) (hm : KeepsC X.m Y.m) (hp : PR X p v) : PR Y p v := by
  cases p with
  | int k n => rw [hp.int_inv]; exact .int k n
  | bool b => rw [hp.bool_inv]; exact .bool b
  | str s => rw [hp.str_inv]; exact .str s
  | nilI => rw [hp.nilI_inv]; exact .nilI
  | nilF => rw [hp.nilF_inv]; exact .nilF
  | nilP => rw [hp.nilP_inv]; exact .nilP
  | nilS => rw [hp.nilS_inv]; exact .nilS
  | sl d l => exact .sl d l v (Is_mono hm (.sl d) l [v] hp.sl_inv)
  | elt d l i o =>
    obtain ⟨a, n, c, rw, rfl, h1, h2, h3, h4⟩ := hp.elt_inv
    exact .elt d l i o a n c rw h1 h2 (hm.row h3) (ChMono (Is_mono hm d) h4)
  | _ => simp [per1] at h
theorem perL {X Y : Cx} {q : PV → Bool} (hq : ∀ p v, q p = true → PR X p v → PR Y p v) {l : List PV} {us : List Value} (h : l.all q = true) (hp : PRs X l us) : PRs Y l us :=
  ⟨hp.1, fun j p v h1 h2 => hq p v (List.all_eq_true.1 h p (List.mem_of_getElem? h1)) (hp.2 j p v h1 h2)⟩
theorem per_ref {X Y : Cx} (hm : KeepsC X.m Y.m) {l : List PV} {o : Nat} {v : Value} (h : l.all per1 = true) (hp : PR X (.ref l o) v) : PR Y (.ref l o) v := by
  obtain ⟨a, cs, rfl, h1, h2, h3⟩ := hp.ref_inv
  have h4 := perL (fun p v q => per1_PR q hm) h h3
  exact .ref l o a cs h1 h4.1 (hm.cellsFrom _ _ _ h2) h4.2
theorem per2_PR {X Y : Cx} {p : PV} {v : Value} (h : per2 p = true) (hm : KeepsC X.m Y.m) (hp : PR X p v) : PR Y p v := by
  unfold per2 at h
  split at h
  · obtain ⟨a, rfl, h1⟩ := hp.agg_inv
    have := perL (fun p v q => per1_PR q hm) h h1
    exact .agg _ _ this.1 this.2
  · obtain ⟨a, rfl, h1⟩ := hp.tup_inv
    have := perL (fun p v q => per1_PR q hm) h h1
    exact .tup _ _ this.1 this.2
  · exact per_ref hm h hp
  · obtain ⟨u, rfl, h1⟩ := hp.ifc_inv
    exact .ifc _ _ _ (per_ref hm h h1)
  · obtain ⟨u, rfl, h1⟩ := hp.ifc_inv
    exact .ifc _ _ _ (per1_PR h hm h1)
  · obtain ⟨a, b, rfl, h1, h2⟩ := hp.fn_inv
    exact .fn _ _ _ _ _ h1.1 h2.1 (fun j p v h => by simp at h) (fun j p v h => by simp at h)
  · exact per1_PR h hm hp
theorem per3_PR {X Y : Cx} {p : PV} {v : Value} (h : per3 p = true) (hm : KeepsC X.m Y.m) (hp : PR X p v) : PR Y p v := by
  unfold per3 at h
  split at h
  · obtain ⟨a, rfl, h1⟩ := hp.agg_inv
    have := perL (fun p v q => per2_PR q hm) h h1
    exact .agg _ _ this.1 this.2
  · obtain ⟨a, rfl, h1⟩ := hp.tup_inv
    have := perL (fun p v q => per2_PR q hm) h h1
    exact .tup _ _ this.1 this.2
  · exact per2_PR h hm hp
/-! results of a call that hands over at most lists of its own -/
/-- The results, with the lists of one's own named anew (from k on), and these. -/
def gcL (s : List OB) : Nat → List PV → Option (List PV × List OB × List Nat)
  | _, [] => some ([], [], [])
  | k, p :: l => match p with
    | .osl b n => match s[b]?, gcL s (k + 1) l with
      | some (.arr d x), some (l', t, bs) => if bs.contains b then none else some (.osl k n :: l', .arr d x :: t, b :: bs)
      | _, _ => none
    | p => if per2 p then (gcL s k l).map fun r => (p :: r.1, r.2.1, r.2.2) else none
def gc (s : List OB) : PV → Option (PV × List OB)
  | .tup l => (gcL s 0 l).map fun r => (.tup r.1, r.2.1)
  | .osl b n => match s[b]? with
    | some (.arr d x) => some (.osl 0 n, [.arr d x])
    | _ => none
  | p => if per3 p then some (p, []) else none
def gcK (K : PV → List OB → Prop) (p : PV) (s : List OB) : Prop := ∃ r, gc s p = some r ∧ K r.1 r.2
theorem gcL_spec {X : Cx} {h : Hp} {E : Nat → Bool} (hm : X.m = Hp.mask h E) (hob : ∀ id o, X.s[id]? = some o → OBR X h E id o) : ∀ (l : List PV) (k : Nat) (l' : List PV) (t : List OB) (bs : List Nat) (us : List Value), gcL X.s k l = some (l', t, bs) → PRs X l us →
    bs.Nodup ∧ t.length = bs.length ∧ (∀ (j b : Nat), bs[j]? = some b → ∃ (d : D) (x : List d.T), X.s[b]? = some (OB.arr d x) ∧ t[j]? = some (OB.arr d x)) ∧
    ∀ (Y : Cx), Y.m = X.m → (∀ (j b : Nat), bs[j]? = some b → Y.s[k + j]? = X.s[b]? ∧ Y.i (k + j) = X.i b) → PRs Y l' us
  | [], k, l', t, bs, us, hg, hp => by
    simp only [gcL, Option.some.injEq, Prod.mk.injEq] at hg
    obtain ⟨rfl, rfl, rfl⟩ := hg
    have : us = [] := List.eq_nil_of_length_eq_zero hp.1.symm
    subst this
    exact ⟨List.nodup_nil, rfl, fun j b h => by simp at h, fun Y _ _ => .nil Y⟩
  | p :: l, k, l', t, bs, us, hg, hp => by
    obtain ⟨v, vs, rfl, h1, h2⟩ := hp.uncons
    unfold gcL at hg
    split at hg
    · rename_i b n
      split at hg
      · rename_i d x l1 t1 bs1 hb hr
        split at hg
        · simp at hg
        · rename_i hnb
          simp only [Option.some.injEq, Prod.mk.injEq] at hg
          obtain ⟨rfl, rfl, rfl⟩ := hg
          obtain ⟨g1, g2, g3, g4⟩ := gcL_spec hm hob l (k + 1) l1 t1 bs1 vs hr h2
          refine ⟨List.nodup_cons.2 ⟨by simpa using hnb, g1⟩, by simp [g2], fun j b' hj => ?_, fun Y hYm hY => ?_⟩
          · cases j with
            | zero => simp at hj; subst hj; exact ⟨d, x, hb, rfl⟩
            | succ j => simpa using g3 j b' (by simpa using hj)
          · refine .cons ?_ (g4 Y hYm fun j b' hj => by
              have := hY (j + 1) b' (by simpa using hj)
              rw [show k + 1 + j = k + (j + 1) by omega]
              exact this)
            obtain ⟨y1, y2⟩ := hY 0 b rfl
            rw [Nat.add_zero] at y1 y2
            refine .osl k n v h1.osl_form ?_ (fun es n' hl => ?_)
            · have : Y.s[k]? = some (.arr d x) := y1.trans hb
              exact (List.getElem?_eq_some_iff.1 this).1
            · obtain ⟨o, ho, hs⟩ := hl
              rw [y1] at ho
              rw [y2]
              exact h1.osl_inv es n' ⟨o, ho, hs⟩
      · simp at hg
    · rename_i hne
      split at hg
      · rename_i hper
        obtain ⟨r, hr, he⟩ := Option.map_eq_some_iff.1 hg
        simp only [Prod.mk.injEq] at he
        obtain ⟨rfl, rfl, rfl⟩ := he
        obtain ⟨g1, g2, g3, g4⟩ := gcL_spec hm hob l k r.1 r.2.1 r.2.2 vs hr h2
        exact ⟨g1, g2, g3, fun Y hYm hY => .cons (per2_PR hper (by rw [hYm]; exact .refl _) h1) (g4 Y hYm hY)⟩
      · simp at hg
/-- A state of which only some lists are kept. -/
theorem SR.only {h0 : Hp} {E0 : Nat → Bool} {i0 : Nat → Option Nat} {h : Hp} {E : Nat → Bool} {i : Nat → Option Nat} {s : List OB} (S : SR ⟨h0, E0, i0, []⟩ h E i s) (t : List OB) (bs : List Nat) (hn : bs.Nodup) (hl : t.length = bs.length) (ht : ∀ (j b : Nat), bs[j]? = some b → ∃ (d : D) (x : List d.T), s[b]? = some (OB.arr d x) ∧ t[j]? = some (OB.arr d x)) :
    SR ⟨h0, E0, i0, []⟩ h E (fun j => (bs[j]?).bind i) t := by
  have key : ∀ (j : Nat) (o : OB), t[j]? = some o → ∃ (b : Nat) (d : D) (x : List d.T), bs[j]? = some b ∧ s[b]? = some (OB.arr d x) ∧ o = OB.arr d x := fun j o ho => by
    have hj : j < bs.length := by rw [← hl]; exact (List.getElem?_eq_some_iff.1 ho).1
    obtain ⟨d, x, h1, h2⟩ := ht j bs[j] (by simp [hj])
    rw [h2] at ho
    exact ⟨bs[j], d, x, by simp [hj], h1, (Option.some.inj ho).symm⟩
  refine ⟨fun j o ho => ?_, fun j j' b o o' ho ho' _ _ hi hi' => ?_, S.old, S.next, S.keep, fun b ⟨j, o, ho, hlv, hi⟩ => ?_, ⟨S.le.m, Nat.zero_le _, fun b hb => absurd hb (Nat.not_lt_zero _), fun b es n hb => absurd hb (Nat.not_lt_zero _)⟩⟩
  · obtain ⟨b, d, x, h1, h2, rfl⟩ := key j o ho
    obtain ⟨hd, h3 | ⟨k, us, k1, k2, k3, k4⟩⟩ := S.ob b _ h2
    · exact ⟨hd, .inl ⟨by show (bs[j]?).bind i = none; rw [h1]; exact h3.1, h3.2⟩⟩
    · exact ⟨hd, .inr ⟨k, us, by show (bs[j]?).bind i = some k; rw [h1]; exact k1, k2, k3, k4⟩⟩
  · obtain ⟨c, d, x, h1, h2, rfl⟩ := key j o ho
    obtain ⟨c', d', x', h1', h2', rfl⟩ := key j' o' ho'
    have hi : i c = some b := by have : (bs[j]?).bind i = some b := hi; rwa [h1] at this
    have hi' : i c' = some b := by have : (bs[j']?).bind i = some b := hi'; rwa [h1'] at this
    have e := S.inj c c' b _ _ h2 h2' rfl rfl hi hi'
    subst e
    exact (List.getElem?_inj (List.getElem?_eq_some_iff.1 h1).1 hn).1 (h1.trans h1'.symm)
  · obtain ⟨c, d, x, h1, h2, rfl⟩ := key j o ho
    have hi : i c = some b := by have : (bs[j]?).bind i = some b := hi; rwa [h1] at this
    exact S.fresh b ⟨c, _, h2, rfl, hi⟩
theorem gc_spec {h0 : Hp} {E0 : Nat → Bool} {i0 : Nat → Option Nat} {h : Hp} {E : Nat → Bool} {i : Nat → Option Nat} {s : List OB} (S : SR ⟨h0, E0, i0, []⟩ h E i s) {p p' : PV} {t : List OB} {v : Value} (hg : gc s p = some (p', t)) (hp : PR ⟨Hp.mask h E, i, s⟩ p v) :
    ∃ i', SR ⟨h0, E0, i0, []⟩ h E i' t ∧ PR ⟨Hp.mask h E, i', t⟩ p' v := by
  unfold gc at hg
  split at hg
  · rename_i l
    obtain ⟨r, hr, he⟩ := Option.map_eq_some_iff.1 hg
    simp only [Prod.mk.injEq] at he
    obtain ⟨rfl, rfl⟩ := he
    obtain ⟨us, rfl, hus⟩ := hp.tup_inv
    obtain ⟨g1, g2, g3, g4⟩ := gcL_spec (X := ⟨Hp.mask h E, i, s⟩) rfl S.ob l 0 r.1 r.2.1 r.2.2 us hr hus
    refine ⟨_, S.only r.2.1 r.2.2 g1 g2 g3, ?_⟩
    have := g4 ⟨Hp.mask h E, fun j => (r.2.2[j]?).bind i, r.2.1⟩ rfl (fun j b hj => by
      obtain ⟨d, x, k1, k2⟩ := g3 j b hj
      rw [Nat.zero_add]
      exact ⟨k2.trans k1.symm, by show (r.2.2[j]?).bind i = i b; rw [hj]; rfl⟩)
    exact .tup _ _ this.1 this.2
  · rename_i b n
    split at hg
    · rename_i d x hb
      simp only [Option.some.injEq, Prod.mk.injEq] at hg
      obtain ⟨rfl, rfl⟩ := hg
      refine ⟨_, S.only [.arr d x] [b] (by simp) rfl (fun j b' hj => ?_), ?_⟩
      · cases j with
        | zero => simp at hj; subst hj; exact ⟨d, x, hb, rfl⟩
        | succ j => simp at hj
      · refine .osl 0 n v hp.osl_form (by simp) (fun es n' hl => ?_)
        obtain ⟨o, ho, hs⟩ := hl
        have ho : some (OB.arr d x) = some o := ho
        obtain rfl := Option.some.inj ho
        exact hp.osl_inv es n' ⟨_, hb, hs⟩
    · simp at hg
  · split at hg
    · rename_i hper
      simp only [Option.some.injEq, Prod.mk.injEq] at hg
      obtain ⟨rfl, rfl⟩ := hg
      exact ⟨_, S.only [] [] List.nodup_nil rfl (fun j b hj => by simp at hj), per3_PR (X := ⟨Hp.mask h E, i, s⟩) hper (.refl _) hp⟩
    · simp at hg
/-- A function that is handed data alone: its body walked, from no blocks of one's own. -/
theorem told_callP {P : Program} {g N : Nat} {ac : AC} {rs : List RV} (t : IsTold P g N ac rs) {args : List PV} {K : PV → List OB → Prop} (hk : ∀ Z : Bs, Z.s = [] → pwp P Z ac (retP rs (gcK K)) (initE args) []) (ha : args.length ≤ N := by first | decide | simp) : PCalls P g args [] K := by
  intro h E i vs S A
  refine (told_call t hk ha h E i vs S A).mono fun v h' hc => ?_
  obtain ⟨p, s', E', i', ⟨r, hg, hK⟩, S', hp⟩ := hc
  obtain ⟨i2, S2, hp2⟩ := gc_spec S' hg hp
  exact ⟨r.1, r.2, E', i2, hK, S2, hp2⟩
/-! calls -/
def sh1 (k : Nat) : PV → PV
  | .osl b n => .osl (b + k) n
  | p => p
def shP (k : Nat) : PV → PV
  | .tup l => .tup (l.map (sh1 k))
  | p => sh1 k p
def ok1 : PV → Bool
  | .osl _ _ => true
  | p => per2 p
def okP : PV → Bool
  | .tup l => l.all ok1
  | .osl _ _ => true
  | p => per3 p
def okT : List OB → Bool
  | [] => true
  | .arr _ _ :: t => okT t
  | .dead :: t => okT t
  | _ => false
theorem okT_at : ∀ {t : List OB} {j : Nat} {o : OB}, okT t = true → t[j]? = some o → (∃ (d : D) (x : List d.T), o = OB.arr d x) ∨ o = OB.dead
  | [], j, o, h, hj => by simp at hj
  | p :: t, j, o, h, hj => by
    cases p with
    | arr d x =>
      cases j with
      | zero => simp at hj; exact .inl ⟨d, x, hj.symm⟩
      | succ j => exact okT_at (show okT t = true from h) (by simpa using hj)
    | dead =>
      cases j with
      | zero => simp at hj; exact .inr hj.symm
      | succ j => exact okT_at (show okT t = true from h) (by simpa using hj)
    | var l => simp [okT] at h
    | row es n l => simp [okT] at h
/-- A call of a function that is handed data alone, from any state. -/
theorem SR.frame {Z : Bs} {h h' : Hp} {E E' : Nat → Bool} {i i0 i' : Nat → Option Nat} {s t : List OB} (S : SR Z h E i s) (T : SR ⟨h, E, i0, []⟩ h' E' i' t) (ht : okT t = true) :
    SR ⟨h, E, i, s⟩ h' E' (fun j => if j < s.length then i j else i' (j - s.length)) (s ++ t) ∧ Keeps h h' := by
  have hkeep : ∀ b k, h.blk? b = some k → h'.blk? b = some k ∧ E' b = E b := fun b k hb => T.keep b k hb (fun ⟨id, o, ho, _⟩ => by simp at ho)
  have hcase : ∀ j p, (s ++ t)[j]? = some p → (j < s.length ∧ s[j]? = some p) ∨ (¬ j < s.length ∧ t[j - s.length]? = some p) := fun j p hp => by
    by_cases hj : j < s.length
    · rw [List.getElem?_append_left hj] at hp; exact .inl ⟨hj, hp⟩
    · rw [List.getElem?_append_right (by omega)] at hp; exact .inr ⟨hj, hp⟩
  have hle : Cx.le ⟨Hp.mask h E, i, s⟩ ⟨Hp.mask h' E', fun j => if j < s.length then i j else i' (j - s.length), s ++ t⟩ := by
    refine ⟨T.le.m, by simp, fun b hb hv => ?_, fun b es n hb hv => ?_⟩
    · have hb : b < s.length := hb
      obtain ⟨o, ho, hq⟩ := hv
      have ho : (s ++ t)[b]? = some o := ho
      rw [List.getElem?_append_left hb] at ho
      exact ⟨⟨o, ho, hq⟩, if_pos hb⟩
    · have hb : b < s.length := hb
      obtain ⟨o, ho, hq⟩ := hv
      have ho : (s ++ t)[b]? = some o := ho
      rw [List.getElem?_append_left hb] at ho
      exact ⟨n, Nat.le_refl _, ⟨o, ho, hq⟩, fun _ => if_pos hb⟩
  refine ⟨⟨fun j p hp => ?_, fun j j' b p p' hp hp' hl hl' hi hi' => ?_, T.old, T.next, fun b k hb _ => hkeep b k hb, fun b ⟨j, o, ho, hlv, hi⟩ => ?_, hle⟩, T.old, fun b k hb => (hkeep b k hb).1⟩
  · rcases hcase j p hp with ⟨hj, hq⟩ | ⟨hj, hq⟩
    · exact (S.ob j p hq).mono hle (if_pos hj) (fun b k _ hk => hkeep b k hk)
    · rcases okT_at ht hq with ⟨d, x, rfl⟩ | rfl
      · obtain ⟨hd, h3 | ⟨k, us, k1, k2, k3, k4⟩⟩ := T.ob _ _ hq
        · exact ⟨hd, .inl ⟨(if_neg hj).trans h3.1, h3.2⟩⟩
        · exact ⟨hd, .inr ⟨k, us, (if_neg hj).trans k1, k2, k3, k4⟩⟩
      · trivial
  · have lo : ∀ j p b, s[j]? = some p → p.live = true → i j = some b → b < h.next := fun j p b hp hl hb => by
      obtain ⟨k, hk, -⟩ := ((S.ob j p hp).at hl hb).2
      exact (Hp.blk_lt hk).2
    have hi2 : ∀ j p b, t[j]? = some p → p.live = true → i' j = some b → h.next ≤ b := fun j p b hp hl hb => by
      rcases T.fresh b ⟨j, p, hp, hl, hb⟩ with ⟨id, o, ho, _⟩ | q
      · simp at ho
      · exact q
    rcases hcase j p hp with ⟨hj, hq⟩ | ⟨hj, hq⟩ <;> rcases hcase j' p' hp' with ⟨hj', hq'⟩ | ⟨hj', hq'⟩
    · exact S.inj j j' b p p' hq hq' hl hl' ((if_pos hj).symm.trans hi) ((if_pos hj').symm.trans hi')
    · have a1 := lo j p b hq hl ((if_pos hj).symm.trans hi)
      have a2 := hi2 _ p' b hq' hl' ((if_neg hj').symm.trans hi')
      omega
    · have a1 := lo j' p' b hq' hl' ((if_pos hj').symm.trans hi')
      have a2 := hi2 _ p b hq hl ((if_neg hj).symm.trans hi)
      omega
    · have := T.inj _ _ b p p' hq hq' hl hl' ((if_neg hj).symm.trans hi) ((if_neg hj').symm.trans hi')
      omega
  · rcases hcase j o ho with ⟨hj, hq⟩ | ⟨hj, hq⟩
    · exact .inl ⟨j, o, hq, hlv, (if_pos hj).symm.trans hi⟩
    · rcases T.fresh b ⟨_, o, hq, hlv, (if_neg hj).symm.trans hi⟩ with ⟨id, o, ho, _⟩ | q
      · simp at ho
      · exact .inr q
theorem sh1_PR {m : Hp} {i i' : Nat → Option Nat} {s t : List OB} {p : PV} {v : Value} (h : ok1 p = true) (hp : PR ⟨m, i', t⟩ p v) : PR ⟨m, fun j => if j < s.length then i j else i' (j - s.length), s ++ t⟩ (sh1 s.length p) v := by
  by_cases hq : ∃ b n, p = .osl b n
  · obtain ⟨b, n, rfl⟩ := hq
    have hb : b < t.length := by cases hp with | osl _ _ _ hv hb k => exact hb
    refine .osl _ n v hp.osl_form (by simp; omega) (fun es n' hl => ?_)
    obtain ⟨o, ho, hs⟩ := hl
    have ho : (s ++ t)[b + s.length]? = some o := ho
    rw [List.getElem?_append_right (by omega), Nat.add_sub_cancel] at ho
    have := hp.osl_inv es n' ⟨o, ho, hs⟩
    have e : (if b + s.length < s.length then i (b + s.length) else i' (b + s.length - s.length)) = i' b := by rw [if_neg (by omega), Nat.add_sub_cancel]
    show n < n' ∨ (n = n' ∧ ∃ c, (c = n ∨ c = n + 1) ∧ v = slV (if b + s.length < s.length then i (b + s.length) else i' (b + s.length - s.length)) n c)
    rw [e]
    exact this
  · have e1 : sh1 s.length p = p := by cases p <;> first | rfl | exact absurd ⟨_, _, rfl⟩ hq
    have e2 : per2 p = true := by cases p <;> first | exact h | exact absurd ⟨_, _, rfl⟩ hq
    rw [e1]
    exact per2_PR (X := ⟨m, i', t⟩) e2 (.refl m) hp
theorem shP_PR {m : Hp} {i i' : Nat → Option Nat} {s t : List OB} {p : PV} {v : Value} (h : okP p = true) (hp : PR ⟨m, i', t⟩ p v) : PR ⟨m, fun j => if j < s.length then i j else i' (j - s.length), s ++ t⟩ (shP s.length p) v := by
  unfold okP at h
  split at h
  · obtain ⟨us, rfl, h1⟩ := hp.tup_inv
    have key : ∀ (l : List PV) (us : List Value), l.all ok1 = true → PRs ⟨m, i', t⟩ l us → PRs ⟨m, fun j => if j < s.length then i j else i' (j - s.length), s ++ t⟩ (l.map (sh1 s.length)) us := by
      intro l
      induction l with
      | nil => intro us _ hu; have : us = [] := List.eq_nil_of_length_eq_zero hu.1.symm; subst this; exact .nil _
      | cons p l ih =>
        intro us ha hu
        obtain ⟨v, vs, rfl, k1, k2⟩ := hu.uncons
        rw [List.all_cons, Bool.and_eq_true] at ha
        exact .cons (sh1_PR ha.1 k1) (ih vs ha.2 k2)
    have := key _ _ h h1
    exact .tup _ _ this.1 this.2
  · exact sh1_PR rfl hp
  · rename_i hne1 hne2
    have e1 : shP s.length p = p := by cases p <;> first | rfl | exact absurd rfl (hne1 _) | exact absurd rfl (hne2 _ _)
    rw [e1]
    exact per3_PR (X := ⟨m, i', t⟩) h (.refl m) hp
section
variable {P : Program} {Z : Bs} {K : Env → List OB → Prop} {Q : QP} {e : Env} {s s' : List OB} {cs : List CO} {pr : List Operand} {d : Option Nat} {kp : Bool} {x y z : Operand} {p q r : PV} {u v w : Value} {b o n m i j es : Nat} {l l' c : List PV} {D' : D}
/-- what stands behind a call of a function that is handed data alone -/
def Aft (P : Program) (Z : Bs) (pr : List Operand) (cs : List CO) (K : Env → List OB → Prop) (e : Env) (s : List OB) (d : Option Nat) (p : PV) (t : List OB) : Prop := okP p = true ∧ okT t = true ∧ pops P Z pr cs K (putE e d (shP s.length p)) (s ++ t)
theorem aft_i {t : List OB} {p' : PV} (h1 : Rf (okP p = true)) (h2 : Rf (okT t = true)) (hn : Pu (shP s.length p = p')) (hs : Pu (s ++ t = s')) (hk : pops P Z pr cs K (putE e d p') s') : Aft P Z pr cs K e s d p t := ⟨h1.o, h2.o, by rw [hn.o, hs.o]; exact hk⟩
theorem q_call {g : FuncId} {xs : List Operand} {ps : List PV} (ha : Mp (xs.map (evE e) = ps)) (hper : Rf (ps.all per3 = true)) (hk : PCalls P g ps [] (Aft P Z pr cs K e s d)) : pops P Z pr (⟨d, none, kp, .e (.cal (.func g) xs)⟩ :: cs) K e s := fun f h ⟨E, i, S, R⟩ => by
  have A := perL (X := ⟨Hp.mask h E, i, s⟩) (Y := ⟨Hp.mask h E, i, []⟩) (fun p v q => per3_PR q (.refl _)) hper.o (R.map ha.o)
  have S0 : SR ⟨h, E, i, []⟩ h E i [] := ⟨fun id o h => by simp at h, fun _ _ _ _ _ h => by simp at h, rfl, Nat.le_refl _, fun b k hb _ => ⟨hb, rfl⟩, fun b ⟨id, o, ho, _⟩ => by simp at ho, .refl _⟩
  refine s_call ((hk h E i _ S0 A).mono fun v h' ⟨p, t, E', i', ⟨k1, k2, k3⟩, T, hp⟩ => ?_)
  obtain ⟨S', hkp⟩ := S.frame T k2
  exact ⟨fun _ => hkp, k3 _ _ ⟨E', _, S.after S', (R.mono S'.le).put (shP_PR k1 hp)⟩⟩
/-- a call that is handed blocks of one's own too -/
theorem q_callF {fx : Operand} {g : FuncId} {xs : List Operand} {ps pa pb : List PV} (hf : Lk (evE e fx = .fn g pa pb)) (ha : Mp (xs.map (evE e) = ps)) (hl : Pu (pa ++ ps ++ pb = l)) (hkp : Rf (kp = false)) (hk : PCalls P g l s (fun p s' => pops P Z pr cs K (putE e d p) s')) : pops P Z pr (⟨d, none, kp, .e (.cal fx xs)⟩ :: cs) K e s := fun f h ⟨E, i, S, R⟩ => by
  obtain ⟨a', b', h1, h2, h3⟩ := (R.at hf.o).fn_inv
  have A := (h2.append (R.map ha.o)).append h3
  rw [hl.o] at A
  refine s_cal h1 ((hk h E i _ S.base A).mono fun v h' ⟨p, s', E', i', k1, T, hp⟩ => ⟨fun hh => (by rw [hkp.o] at hh; cases hh), k1 _ _ ⟨E', i', S.after T, (R.mono T.le).put hp⟩⟩)
end
/-! laws -/
def pvD : (d : D) → d.T → PV
  | .int k, n => .int k n
  | .bool, b => .bool b
  | .str, s => .str s
  | .sl d, l => .sl d l
  | .st d, x => .agg (encP d x)
  | .nil, _ => .und
  | .cons _ _, _ => .und
theorem V_PR {X : Cx} {d : D} {x : d.T} {u : Value} (hv : d.V X.m x u) : PR X (pvD d x) u := by
  cases d with
  | int k => have e : [u] = [Value.int k x] := hv; simp only [List.cons.injEq, and_true] at e; subst e; exact .int k x
  | bool => have e : [u] = [Value.bool x] := hv; simp only [List.cons.injEq, and_true] at e; subst e; exact .bool x
  | str => have e : [u] = [Value.string x] := hv; simp only [List.cons.injEq, and_true] at e; subst e; exact .str x
  | sl d => exact .sl d x u hv
  | st d => obtain ⟨us, rfl, h⟩ := hv; have := encP_of d x us h; exact .agg _ _ this.1 this.2
  | nil => exact .und u
  | cons d e => exact .und u
/-- A law's call. -/
theorem law_call {P : Program} {g : FuncId} {ps : List PV} {us : List Value} {w : World} (hk : PCalls P g ps [] fun p _ => p = .bool true) (ha : PRs ⟨⟨w, []⟩, fun _ => none, []⟩ ps us) : ACalls P g us ⟨w, []⟩ fun v _ => v = .bool true := by
  have S0 : SR ⟨⟨w, []⟩, fun _ => false, fun _ => none, []⟩ ⟨w, []⟩ (fun _ => false) (fun _ => none) [] := ⟨fun id o h => by simp at h, fun _ _ _ _ _ h => by simp at h, rfl, Nat.le_refl _, fun b k hb _ => ⟨hb, rfl⟩, fun b ⟨id, o, ho, _⟩ => by simp at ho, .refl _⟩
  refine (hk ⟨w, []⟩ (fun _ => false) (fun _ => none) us S0 ha).mono fun v h' ⟨p, t, E', i', h1, _, hp⟩ => ?_
  subst h1
  exact hp.bool_inv
end Go.Proofs.Ytalhipbbomagoaa.Pv
