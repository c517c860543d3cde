/- States of plain values: what it is that a state says of memory, and how it goes over when a block of one's own is made, written, or given up. No statement of the set is proved in this text. -/
import Derived.Test.YtalhipbbomagoaaPvA
namespace Go.Proofs.Ytalhipbbomagoaa.Pv
open Go.RowKit Go.Proofs.Ytalhipbbomagoaa.Ab
set_option linter.unusedVariables false
set_option linter.unusedSimpArgs false
/-- Memory without the blocks that may not be looked at. -/
def Hp.mask (h : Hp) (E : Nat → Bool) : Hp := ⟨h.old, h.new.mapIdx fun j k => if E (h.old.heap.size + j) = true then { k with live := false } else k⟩
theorem mask_blk (h : Hp) (E : Nat → Bool) (b : Nat) : (Hp.mask h E).blk? b = (h.blk? b).map fun k => if E b = true then { k with live := false } else k := by
  unfold Hp.blk? Hp.mask
  simp only
  split
  · rfl
  · rename_i hb
    rw [List.getElem?_mapIdx, show h.old.heap.size + (b - h.old.heap.size) = b by omega]
theorem mask_cell {h : Hp} {E : Nat → Bool} {a : Addr} {v : Value} : (Hp.mask h E).cell? a = some v ↔ h.cell? a = some v ∧ (a.block < h.old.heap.size ∨ E a.block = false) := by
  unfold Hp.cell?
  rw [mask_blk]
  have e : (Hp.mask h E).old = h.old := rfl
  rw [e]
  by_cases hb : a.block < h.old.heap.size
  · simp [hb]
  · simp only [hb, if_false, false_or]
    split
    · simp
    · cases hk : h.blk? a.block with
      | none => simp
      | some k =>
        simp only [Option.map_some]
        cases hE : E a.block
        · simp
        · simp
theorem mask_sub (h : Hp) (E : Nat → Bool) : KeepsC (Hp.mask h E) h := ⟨rfl, fun ad v hv => (mask_cell.1 hv).1⟩
theorem mask_none (h : Hp) (E : Nat → Bool) (hE : ∀ b, h.old.heap.size ≤ b → b < h.next → E b = false) : KeepsC h (Hp.mask h E) := ⟨rfl, fun ad v hv => mask_cell.2 ⟨hv, by
  by_cases hb : ad.block < h.old.heap.size
  · exact .inl hb
  · refine .inr (hE _ (by omega) ?_)
    unfold Hp.cell? at hv
    rw [if_neg hb] at hv
    split at hv
    · simp at hv
    · cases hk : h.blk? ad.block with
      | none => simp [hk] at hv
      | some k => exact (Hp.blk_lt hk).2⟩⟩
/-- Where a state began: memory, what might not be looked at, and whose own blocks there were. -/
structure Bs where
  h : Hp
  E : Nat → Bool
  i : Nat → Option Nat
  s : List OB
def own (i : Nat → Option Nat) (s : List OB) (b : Nat) : Prop := ∃ id o, s[id]? = some o ∧ o.live = true ∧ i id = some b
def Bs.B (Z : Bs) (b : Nat) : Prop := own Z.i Z.s b
def Bs.X (Z : Bs) : Cx := ⟨Hp.mask Z.h Z.E, Z.i, Z.s⟩
/-- What a block of one's own says. -/
def OBR (X : Cx) (h : Hp) (E : Nat → Bool) (id : Nat) : OB → Prop
  | .dead => True
  | .var l => ∃ b cs, X.i id = some b ∧ E b = true ∧ h.blk? b = some ⟨cs, 0, true⟩ ∧ cs.all (·.oneCell') = true ∧ PRs X l cs
  | .row es n l => ∃ b cs, X.i id = some b ∧ E b = true ∧ h.blk? b = some ⟨cs, es, true⟩ ∧ cs.all (·.oneCell') = true ∧ l.length = n * es ∧ PRs X l cs
  | .arr d l => 0 < d.sz ∧ ((X.i id = none ∧ l = []) ∨ ∃ b us, X.i id = some b ∧ E b = true ∧ h.blk? b = some ⟨us, d.sz, true⟩ ∧ Chunks (d.Is X.m) l us)
theorem OBR.mono {X Y : Cx} (hle : X.le Y) {h h' : Hp} {E E' : Nat → Bool} {id : Nat} {o : OB} (hi : Y.i id = X.i id) (hk : ∀ b k, X.i id = some b → h.blk? b = some k → h'.blk? b = some k ∧ E' b = E b) (hr : OBR X h E id o) : OBR Y h' E' id o := by
  cases o with
  | dead => trivial
  | var l =>
    obtain ⟨b, cs, h1, h2, h3, h4, h5⟩ := hr
    obtain ⟨k1, k2⟩ := hk b _ h1 h3
    exact ⟨b, cs, hi.trans h1, k2.trans h2, k1, h4, h5.mono hle⟩
  | row es n l =>
    obtain ⟨b, cs, h1, h2, h3, h4, h5, h6⟩ := hr
    obtain ⟨k1, k2⟩ := hk b _ h1 h3
    exact ⟨b, cs, hi.trans h1, k2.trans h2, k1, h4, h5, h6.mono hle⟩
  | arr d l =>
    obtain ⟨hd, h1 | ⟨b, us, h1, h2, h3, h4⟩⟩ := hr
    · exact ⟨hd, .inl ⟨hi.trans h1.1, h1.2⟩⟩
    · obtain ⟨k1, k2⟩ := hk b _ h1 h3
      exact ⟨hd, .inr ⟨b, us, hi.trans h1, k2.trans h2, k1, ChMono (Is_mono hle.m d) h4⟩⟩
/-- A state, begun at Z. -/
structure SR (Z : Bs) (h : Hp) (E : Nat → Bool) (i : Nat → Option Nat) (s : List OB) : Prop where
  ob : ∀ id o, s[id]? = some o → OBR ⟨Hp.mask h E, i, s⟩ h E id o
  inj : ∀ id id' b o o', s[id]? = some o → s[id']? = some o' → o.live = true → o'.live = true → i id = some b → i id' = some b → id = id'
  old : h.old = Z.h.old
  next : Z.h.next ≤ h.next
  keep : ∀ b k, Z.h.blk? b = some k → ¬ Z.B b → h.blk? b = some k ∧ E b = Z.E b
  fresh : ∀ b, own i s b → Z.B b ∨ Z.h.next ≤ b
  le : Cx.le Z.X ⟨Hp.mask h E, i, s⟩
theorem OBR.at {X : Cx} {h : Hp} {E : Nat → Bool} {id : Nat} {o : OB} (hr : OBR X h E id o) (hl : o.live = true) {b : Nat} (hb : X.i id = some b) : E b = true ∧ ∃ k, h.blk? b = some k ∧ k.live = true := by
  cases o with
  | dead => simp [OB.live] at hl
  | var l => obtain ⟨b', cs, h1, h2, h3, h4⟩ := hr; rw [hb] at h1; obtain rfl := Option.some.inj h1; exact ⟨h2, _, h3, rfl⟩
  | row es n l => obtain ⟨b', cs, h1, h2, h3, h4⟩ := hr; rw [hb] at h1; obtain rfl := Option.some.inj h1; exact ⟨h2, _, h3, rfl⟩
  | arr d l =>
    obtain ⟨hd, h1 | ⟨b', us, h1, h2, h3, h4⟩⟩ := hr
    · rw [hb] at h1; simp at h1
    · rw [hb] at h1; obtain rfl := Option.some.inj h1; exact ⟨h2, _, h3, rfl⟩
def ups (i : Nat → Option Nat) (id : Nat) (ib : Option Nat) : Nat → Option Nat := fun j => if j = id then ib else i j
theorem ups_at (i : Nat → Option Nat) (id : Nat) (ib : Option Nat) : ups i id ib id = ib := by simp [ups]
theorem ups_ne (i : Nat → Option Nat) {id j : Nat} (ib : Option Nat) (h : j ≠ id) : ups i id ib j = i j := by simp [ups, h]
/-- How one's own block may go over. -/
structure Ovr (o o' : OB) (same : Prop) : Prop where
  v : o'.isV = true → o.isV = true ∧ same
  s : ∀ es n, o'.sig = some (es, n) → o.live = true → ∃ n0, n0 ≤ n ∧ o.sig = some (es, n0) ∧ (n0 = n → same)
/-- One's own block goes over; all else stays. -/
theorem SR.upd {Z : Bs} {h : Hp} {E : Nat → Bool} {i : Nat → Option Nat} {s : List OB} (S : SR Z h E i s) (id : Nat) (o o' : OB) (ib : Option Nat) (h' : Hp) (E' : Nat → Bool) (ho : s[id]? = some o)
    (hold : h'.old = h.old) (hnext : h.next ≤ h'.next) (hkeep : ∀ b k, h.blk? b = some k → ¬ (o.live = true ∧ i id = some b) → h'.blk? b = some k ∧ E' b = E b)
    (hib : ∀ b, o'.live = true → ib = some b → (o.live = true ∧ i id = some b) ∨ h.next ≤ b) (hdead : o.live = true) (hov : Ovr o o' (ib = i id))
    (hob : Cx.le ⟨Hp.mask h E, i, s⟩ ⟨Hp.mask h' E', ups i id ib, s.set id o'⟩ → OBR ⟨Hp.mask h' E', ups i id ib, s.set id o'⟩ h' E' id o') :
    SR Z h' E' (ups i id ib) (s.set id o') ∧ Cx.le ⟨Hp.mask h E, i, s⟩ ⟨Hp.mask h' E', ups i id ib, s.set id o'⟩ := by
  have hid : id < s.length := (List.getElem?_eq_some_iff.1 ho).1
  have hset : (s.set id o')[id]? = some o' := by rw [List.getElem?_set, if_pos rfl, if_pos hid]
  have hne : ∀ j, j ≠ id → (s.set id o')[j]? = s[j]? := fun j hj => by rw [List.getElem?_set, if_neg (fun e => hj e.symm)]
  have hle : Cx.le ⟨Hp.mask h E, i, s⟩ ⟨Hp.mask h' E', ups i id ib, s.set id o'⟩ := by
    refine ⟨⟨hold, fun ad v hv => ?_⟩, by simp, fun b hb hv => ?_, fun b es n hb hv => ?_⟩
    · obtain ⟨h1, h2⟩ := mask_cell.1 hv
      refine mask_cell.2 ?_
      rw [hold]
      by_cases hlt : ad.block < h.old.heap.size
      · refine ⟨?_, .inl hlt⟩
        unfold Hp.cell? at h1 ⊢
        rw [if_pos hlt] at h1
        rw [hold, if_pos hlt]
        exact h1
      · have hE : E ad.block = false := by
          rcases h2 with h2 | h2
          · exact absurd h2 hlt
          · exact h2
        have hnot : ¬ (o.live = true ∧ i id = some ad.block) := fun ⟨q1, q2⟩ => by
          have := ((S.ob id o ho).at q1 q2).1
          rw [hE] at this
          simp at this
        unfold Hp.cell? at h1 ⊢
        rw [if_neg hlt] at h1
        rw [hold, if_neg hlt]
        split at h1
        · simp at h1
        · rename_i hs
          rw [if_neg hs]
          cases hk : h.blk? ad.block with
          | none => simp [hk] at h1
          | some k =>
            obtain ⟨k1, k2⟩ := hkeep _ _ hk hnot
            rw [hk] at h1
            rw [k1]
            exact ⟨h1, .inr (k2.trans hE)⟩
    · obtain ⟨p, hp, hq⟩ := hv
      by_cases e : b = id
      · subst e
        have hp' : (s.set b o')[b]? = some p := hp
        rw [hset] at hp'
        obtain rfl := Option.some.inj hp'
        obtain ⟨q1, q2⟩ := hov.v hq
        exact ⟨⟨o, ho, q1⟩, by show ups i b ib b = i b; rw [ups_at, q2]⟩
      · have hp' : (s.set id o')[b]? = some p := hp
        rw [hne b e] at hp'
        exact ⟨⟨p, hp', hq⟩, ups_ne i ib e⟩
    · obtain ⟨p, hp, hq⟩ := hv
      by_cases e : b = id
      · subst e
        have hp' : (s.set b o')[b]? = some p := hp
        rw [hset] at hp'
        obtain rfl := Option.some.inj hp'
        obtain ⟨n0, q1, q2, q3⟩ := hov.s es n hq hdead
        exact ⟨n0, q1, ⟨o, ho, q2⟩, fun q => by show ups i b ib b = i b; rw [ups_at, q3 q]⟩
      · have hp' : (s.set id o')[b]? = some p := hp
        rw [hne b e] at hp'
        exact ⟨n, Nat.le_refl _, ⟨p, hp', hq⟩, fun _ => ups_ne i ib e⟩
  refine ⟨⟨fun j p hp => ?_, fun j j' b p p' hp hp' hl hl' hi hi' => ?_, hold.trans S.old, Nat.le_trans S.next hnext, fun b k hb hB => ?_, fun b hb => ?_, S.le.trans hle⟩, hle⟩
  · by_cases e : j = id
    · subst e
      rw [hset] at hp
      obtain rfl := Option.some.inj hp
      exact hob hle
    · rw [hne j e] at hp
      by_cases hpl : p.live = true
      · refine (S.ob j p hp).mono hle (ups_ne i ib e) (fun b k hb hk => hkeep b k hk fun ⟨q1, q2⟩ => ?_)
        exact e (S.inj j id b p o hp ho hpl q1 hb q2)
      · cases p with
        | dead => trivial
        | _ => simp [OB.live] at hpl
  · have lt : ∀ j p b, s[j]? = some p → p.live = true → i j = some b → b < h.next := fun j p b hp hl hb => by
      obtain ⟨k, hk, -⟩ := ((S.ob j p hp).at hl hb).2
      exact (Hp.blk_lt hk).2
    by_cases e : j = id <;> by_cases e' : j' = id
    · rw [e, e']
    · subst e
      rw [hset] at hp
      obtain rfl := Option.some.inj hp
      rw [hne j' e'] at hp'
      rw [ups_at] at hi
      rw [ups_ne i ib e'] at hi'
      rcases hib b hl hi with ⟨q1, q2⟩ | q
      · exact S.inj j j' b o p' ho hp' q1 hl' q2 hi'
      · have := lt j' p' b hp' hl' hi'
        omega
    · subst e'
      rw [hset] at hp'
      obtain rfl := Option.some.inj hp'
      rw [hne j e] at hp
      rw [ups_at] at hi'
      rw [ups_ne i ib e] at hi
      rcases hib b hl' hi' with ⟨q1, q2⟩ | q
      · exact S.inj j j' b p o hp ho hl q1 hi q2
      · have := lt j p b hp hl hi
        omega
    · rw [hne j e] at hp
      rw [hne j' e'] at hp'
      rw [ups_ne i ib e] at hi
      rw [ups_ne i ib e'] at hi'
      exact S.inj j j' b p p' hp hp' hl hl' hi hi'
  · obtain ⟨q1, q2⟩ := S.keep b k hb hB
    have hlt := (Hp.blk_lt hb).2
    obtain ⟨r1, r2⟩ := hkeep b k q1 (fun ⟨t1, t2⟩ => by
      rcases S.fresh b ⟨id, o, ho, t1, t2⟩ with q | q
      · exact hB q
      · omega)
    exact ⟨r1, r2.trans q2⟩
  · obtain ⟨j, p, hp, hl, hi⟩ := hb
    by_cases e : j = id
    · subst e
      rw [hset] at hp
      obtain rfl := Option.some.inj hp
      rw [ups_at] at hi
      rcases hib b hl hi with ⟨q1, q2⟩ | q
      · exact S.fresh b ⟨j, o, ho, q1, q2⟩
      · exact .inr (Nat.le_trans S.next q)
    · rw [hne j e] at hp
      rw [ups_ne i ib e] at hi
      exact S.fresh b ⟨j, p, hp, hl, hi⟩
/-- A block of one's own is made. -/
theorem SR.add {Z : Bs} {h : Hp} {E : Nat → Bool} {i : Nat → Option Nat} {s : List OB} (S : SR Z h E i s) (o' : OB) (ib : Option Nat) (h' : Hp) (E' : Nat → Bool)
    (hold : h'.old = h.old) (hnext : h.next ≤ h'.next) (hkeep : ∀ b k, h.blk? b = some k → h'.blk? b = some k ∧ E' b = E b)
    (hib : ∀ b, ib = some b → h.next ≤ b)
    (hob : Cx.le ⟨Hp.mask h E, i, s⟩ ⟨Hp.mask h' E', ups i s.length ib, s ++ [o']⟩ → OBR ⟨Hp.mask h' E', ups i s.length ib, s ++ [o']⟩ h' E' s.length o') :
    SR Z h' E' (ups i s.length ib) (s ++ [o']) ∧ Cx.le ⟨Hp.mask h E, i, s⟩ ⟨Hp.mask h' E', ups i s.length ib, s ++ [o']⟩ := by
  have hlast : (s ++ [o'])[s.length]? = some o' := by simp
  have hin : ∀ j, j < s.length → (s ++ [o'])[j]? = s[j]? := fun j hj => by rw [List.getElem?_append_left hj]
  have hcase : ∀ j p, (s ++ [o'])[j]? = some p → (j < s.length ∧ s[j]? = some p) ∨ (j = s.length ∧ p = o') := fun j p hp => by
    by_cases hj : j < s.length
    · exact .inl ⟨hj, by rw [← hin j hj]; exact hp⟩
    · have := (List.getElem?_eq_some_iff.1 hp).1
      simp at this
      have e : j = s.length := by omega
      subst e
      rw [hlast] at hp
      exact .inr ⟨rfl, (Option.some.inj hp).symm⟩
  have hle : Cx.le ⟨Hp.mask h E, i, s⟩ ⟨Hp.mask h' E', ups i s.length ib, s ++ [o']⟩ := by
    refine ⟨⟨hold, fun ad v hv => ?_⟩, by simp, fun b hb hv => ?_, fun b es n hb hv => ?_⟩
    · obtain ⟨h1, h2⟩ := mask_cell.1 hv
      refine mask_cell.2 ?_
      rw [hold]
      by_cases hlt : ad.block < h.old.heap.size
      · refine ⟨?_, .inl hlt⟩
        unfold Hp.cell? at h1 ⊢
        rw [if_pos hlt] at h1
        rw [hold, if_pos hlt]
        exact h1
      · have hE : E ad.block = false := by
          rcases h2 with h2 | h2
          · exact absurd h2 hlt
          · exact h2
        unfold Hp.cell? at h1 ⊢
        rw [if_neg hlt] at h1
        rw [hold, if_neg hlt]
        split at h1
        · simp at h1
        · rename_i hs
          rw [if_neg hs]
          cases hk : h.blk? ad.block with
          | none => simp [hk] at h1
          | some k =>
            obtain ⟨k1, k2⟩ := hkeep _ _ hk
            rw [hk] at h1
            rw [k1]
            exact ⟨h1, .inr (k2.trans hE)⟩
    · obtain ⟨p, hp, hq⟩ := hv
      have hb' : b < s.length := hb
      have hp' : (s ++ [o'])[b]? = some p := hp
      rw [hin b hb'] at hp'
      exact ⟨⟨p, hp', hq⟩, ups_ne i ib (by omega)⟩
    · obtain ⟨p, hp, hq⟩ := hv
      have hb' : b < s.length := hb
      have hp' : (s ++ [o'])[b]? = some p := hp
      rw [hin b hb'] at hp'
      exact ⟨n, Nat.le_refl _, ⟨p, hp', hq⟩, fun _ => ups_ne i ib (by omega)⟩
  refine ⟨⟨fun j p hp => ?_, fun j j' b p p' hp hp' hl hl' hi hi' => ?_, hold.trans S.old, Nat.le_trans S.next hnext, fun b k hb hB => ?_, fun b hb => ?_, S.le.trans hle⟩, hle⟩
  · rcases hcase j p hp with ⟨hj, hp⟩ | ⟨rfl, rfl⟩
    · exact (S.ob j p hp).mono hle (ups_ne i ib (by omega)) (fun b k hb hk => hkeep b k hk)
    · exact hob hle
  · have lt : ∀ j p b, s[j]? = some p → p.live = true → i j = some b → b < h.next := fun j p b hp hl hb => by
      obtain ⟨k, hk, -⟩ := ((S.ob j p hp).at hl hb).2
      exact (Hp.blk_lt hk).2
    rcases hcase j p hp with ⟨hj, hq⟩ | ⟨rfl, rfl⟩ <;> rcases hcase j' p' hp' with ⟨hj', hq'⟩ | ⟨rfl, rfl⟩
    · rw [ups_ne i ib (by omega)] at hi hi'
      exact S.inj j j' b p p' hq hq' hl hl' hi hi'
    · rw [ups_ne i ib (by omega)] at hi
      rw [ups_at] at hi'
      have := lt j p b hq hl hi
      have := hib b hi'
      omega
    · rw [ups_ne i ib (by omega)] at hi'
      rw [ups_at] at hi
      have := lt j' p' b hq' hl' hi'
      have := hib b hi
      omega
    · rfl
  · obtain ⟨q1, q2⟩ := S.keep b k hb hB
    obtain ⟨r1, r2⟩ := hkeep b k q1
    exact ⟨r1, r2.trans q2⟩
  · obtain ⟨j, p, hp, hl, hi⟩ := hb
    rcases hcase j p hp with ⟨hj, hp⟩ | ⟨rfl, rfl⟩
    · rw [ups_ne i ib (by omega)] at hi
      exact S.fresh b ⟨j, p, hp, hl, hi⟩
    · rw [ups_at] at hi
      exact .inr (Nat.le_trans S.next (hib b hi))
/-- A call's beginning. -/
theorem SR.base {Z : Bs} {h : Hp} {E : Nat → Bool} {i : Nat → Option Nat} {s : List OB} (S : SR Z h E i s) : SR ⟨h, E, i, s⟩ h E i s :=
  ⟨S.ob, S.inj, rfl, Nat.le_refl _, fun b k hb _ => ⟨hb, rfl⟩, fun b hb => .inl hb, .refl _⟩
/-- A call's end. -/
theorem SR.after {Z : Bs} {h h' : Hp} {E E' : Nat → Bool} {i i' : Nat → Option Nat} {s s' : List OB} (S : SR Z h E i s) (T : SR ⟨h, E, i, s⟩ h' E' i' s') : SR Z h' E' i' s' := by
  refine ⟨T.ob, T.inj, T.old.trans S.old, Nat.le_trans S.next T.next, fun b k hb hB => ?_, fun b hb => ?_, S.le.trans T.le⟩
  · obtain ⟨q1, q2⟩ := S.keep b k hb hB
    obtain ⟨r1, r2⟩ := T.keep b k q1 (fun t => by
      rcases S.fresh b t with q | q
      · exact hB q
      · have := (Hp.blk_lt hb).2; omega)
    exact ⟨r1, r2.trans q2⟩
  · rcases T.fresh b hb with q | q
    · exact S.fresh b q
    · exact .inr (Nat.le_trans S.next q)
end Go.Proofs.Ytalhipbbomagoaa.Pv
