/- Regions that draw their order: told in one order, and that the machine does that in whatever order. No statement of the set is proved in this text. -/
import Derived.Test.YtalhipbbomagoaaAbG
namespace Go.Proofs.Ytalhipbbomagoaa.Ab
open Go.RowKit
set_option linter.unusedVariables false
set_option linter.unusedSimpArgs false
def predsO (o : Oper) : List Nat := o.after.toList.filterMap fun e => if Region.binds .any e then some e.on else none
def predsAt (ops : Array Oper) (i : Nat) : List Nat := match ops[i]? with | some o => predsO o | none => []
def slotOf : Operand → Option Nat
  | .tmp t => some t
  | _ => none
def readsC (c : CO) : List Nat := c.op.reads.filterMap slotOf ++ (match c.guard with | some (s, _) => [s] | none => [])
def isE (c : CO) : Bool := match c.op with | .e _ => true | _ => false
/-- Does it look into memory, or make a block? -/
def heapy (c : CO) : Bool := match c.op with
  | .f (.ld _ _) | .f (.b2s _) | .f (.s2b _) | .f (.new _) | .f (.box _) | .f (.mks _ _ _ _ _) | .f (.bsl _ _) => true
  | _ => false
def c0 : CO := ⟨none, none, false, .f (.mv (.tmp 0))⟩
def wr (cs : List CO) (t : Nat) : Option Nat := (List.range cs.length).find? fun u => (cs.getD u c0).dst == some t
/-- What is read stands, whatever is written behind it. -/
def quiet (cs : List CO) (ms : List Nat) (u : Nat) : Bool :=
  (readsC (cs.getD u c0)).all fun t => match wr cs t with | none => true | some w => (ms.getD u 0).testBit w
def walkOk (ops : Array Oper) (cs : List CO) (ms : List Nat) : List Nat → Nat → Bool
  | [], M => (List.range ops.size).all fun i => M.testBit i
  | j :: suf, M => decide (j < ops.size) && !M.testBit j && (predsAt ops j).all (fun e => M.testBit e) &&
    (!isE (cs.getD j c0) || ((List.range ops.size).all (fun i => M.testBit i || i == j || (predsAt ops i).any fun e => !M.testBit e) &&
      ((cs.getD j c0).keep || (List.range ops.size).all fun u => !M.testBit u || !heapy (cs.getD u c0) || (ms.getD j 0).testBit u) &&
      (!(cs.getD j c0).keep || (List.range ops.size).all fun u => !M.testBit u || !heapy (cs.getD u c0) || (ms.getD j 0).testBit u || quiet cs ms u))) &&
    walkOk ops cs ms suf (M ||| 2 ^ j)
def regOk (ops : Array Oper) (cs : List CO) (ms ord : List Nat) : Bool :=
  cs.length == ops.size &&
  ((List.range ops.size).all fun i => (predsAt ops i).all fun e => decide (e < i)) &&
  ((List.range ops.size).all fun j => (List.range ops.size).all fun i => !(ms.getD j 0).testBit i || (predsAt ops j).any fun e => e == i || (ms.getD e 0).testBit i) &&
  ((List.range ops.size).all fun j => decide (ms.getD j 0 < 2 ^ ops.size)) &&
  ((List.range ops.size).all fun i => (List.range i).all fun j => (cs.getD i c0).dst == none || (cs.getD i c0).dst != (cs.getD j c0).dst) &&
  ((List.range ops.size).all fun r => (readsC (cs.getD r c0)).all fun t => match wr cs t with | none => true | some u => u == r || (ms.getD r 0).testBit u || (ms.getD u 0).testBit r) &&
  walkOk ops cs ms ord 0
section
variable {P : Program} {N : Nat} {ops : Array Oper} {cs : List CO} {ms : List Nat}
/-- What the check says, and that the told ones are the code's. -/
structure RegP (P : Program) (N : Nat) (ops : Array Oper) (cs : List CO) (ms : List Nat) : Prop where
  len : cs.length = ops.size
  comp : ∀ i o, ops[i]? = some o → ∃ c, compO P N ops o = some c ∧ cs.getD i c0 = { c with keep := (cs.getD i c0).keep }
  back : ∀ i, i < ops.size → ∀ e ∈ predsAt ops i, e < i
  mask : ∀ j i, j < ops.size → (ms.getD j 0).testBit i = true → ∃ e ∈ predsAt ops j, e = i ∨ (ms.getD e 0).testBit i = true
  uniq : ∀ i j, i < ops.size → j < ops.size → ∀ t, (cs.getD i c0).dst = some t → (cs.getD j c0).dst = some t → i = j
  rw_ : ∀ r, r < ops.size → ∀ t ∈ readsC (cs.getD r c0), ∀ u, wr cs t = some u → u = r ∨ (ms.getD r 0).testBit u = true ∨ (ms.getD u 0).testBit r = true
theorem wr_spec (hR : RegP P N ops cs ms) {t u : Nat} : wr cs t = some u ↔ u < ops.size ∧ (cs.getD u c0).dst = some t := by
  constructor
  · intro h
    have h1 := List.find?_some h
    have h2 := List.mem_of_find?_eq_some h
    rw [List.mem_range, hR.len] at h2
    exact ⟨h2, by simpa using h1⟩
  · rintro ⟨h1, h2⟩
    cases h : wr cs t with
    | none =>
      have := List.find?_eq_none.1 h u (by rw [List.mem_range, hR.len]; exact h1)
      exact absurd (by simpa using h2) (by simpa using this)
    | some u' =>
      have h3 := List.find?_some h
      have h4 := List.mem_of_find?_eq_some h
      rw [List.mem_range, hR.len] at h4
      rw [hR.uniq u' u h4 h1 t (by simpa using h3) h2]
def val (cs : List CO) (v : Nat → Value) (f0 : Fr) (D : Nat → Bool) : Fr := fun t => match wr cs t with
  | some u => if D u then v u else f0 t
  | none => f0 t
/-- closed: with each one those that it waits for -/
def Closed (n : Nat) (ms : List Nat) (D : Nat → Bool) : Prop := ∀ u i, u < n → D u = true → (ms.getD u 0).testBit i = true → D i = true
theorem val_read (hR : RegP P N ops cs ms) {v : Nat → Value} {f0 : Fr} {D : Nat → Bool} {r : Nat} (hr : r < ops.size) (hD : Closed ops.size ms D) (hn : D r = false) (hp : ∀ e ∈ predsAt ops r, D e = true) (hlt : ∀ e, D e = true → e < ops.size) {t : Nat} (ht : t ∈ readsC (cs.getD r c0)) :
    val cs v f0 D t = val cs v f0 (fun u => (ms.getD r 0).testBit u) t := by
  unfold val
  cases h : wr cs t with
  | none => rfl
  | some u =>
    have hu := ((wr_spec hR).1 h).1
    simp only
    by_cases hm : (ms.getD r 0).testBit u = true
    · have : D u = true := by
        obtain ⟨e, he, h2⟩ := hR.mask r u hr hm
        rcases h2 with rfl | h2
        · exact hp _ he
        · exact hD e u (hlt e (hp _ he)) (hp _ he) h2
      rw [if_pos this, if_pos hm]
    · have : D u = false := by
        rcases hR.rw_ r hr t ht u h with rfl | h1 | h1
        · exact hn
        · exact absurd h1 hm
        · cases hd : D u with
          | false => rfl
          | true => rw [hD u r hu hd h1] at hn; simp at hn
      rw [if_neg (by rw [this]; simp), if_neg hm]
theorem val_put (hR : RegP P N ops cs ms) {v : Nat → Value} {f0 : Fr} {D D' : Nat → Bool} {j : Nat} (hj : j < ops.size) (hn : D j = false) (hD' : ∀ i, D' i = (D i || i == j)) {x : Value} :
    val cs (fun i => if i = j then x else v i) f0 D' = putF (val cs v f0 D) (cs.getD j c0).dst x := by
  funext t
  have hnot : ∀ u, D u = true → u ≠ j := fun u hu e => by rw [e, hn] at hu; simp at hu
  cases hd : (cs.getD j c0).dst with
  | none =>
    simp only [putF, val]
    cases h : wr cs t with
    | none => rfl
    | some u =>
      have hne : u ≠ j := fun e => by
        have := ((wr_spec hR).1 h).2
        rw [e, hd] at this
        simp at this
      simp only [hD', hne, if_false, beq_iff_eq, Bool.or_false, show (u == j) = false by simp [hne]]
  | some s =>
    simp only [putF, val]
    by_cases e : t = s
    · subst e
      rw [if_pos rfl, (wr_spec hR).2 ⟨hj, hd⟩]
      simp [hD']
    · rw [if_neg e]
      cases h : wr cs t with
      | none => rfl
      | some u =>
        have hne : u ≠ j := fun e2 => by
          have := ((wr_spec hR).1 h).2
          rw [e2, hd] at this
          exact e (Option.some.inj this).symm
        simp only [hD', hne, if_false, show (u == j) = false by simp [hne], Bool.or_false]
/-- What an operation that was told, and is not carried out yet, is good for. -/
structure Pend (P : Program) (cs : List CO) (ms : List Nat) (v : Nat → Value) (f0 : Fr) (idf : Nat → Nat) (kf : Nat → Option Blk) (H : Hp) (R : AR) (u : Nat) : Prop where
  yes : wantC (cs.getD u c0).guard (val cs v f0 fun x => (ms.getD u 0).testBit x) = true → ∃ fo, (cs.getD u c0).op = .f fo ∧ fo.ok P (evF (val cs v f0 fun x => (ms.getD u 0).testBit x)) H (idf u) (v u) (kf u)
  blk : ∀ b, kf u = some b → H.blk? (idf u) = some b ∧ R.rho (idf u) = none
  no : wantC (cs.getD u c0).guard (val cs v f0 fun x => (ms.getD u 0).testBit x) = false → v u = undef
  heap : (kf u).isSome = true → heapy (cs.getD u c0) = true
  lv : ∀ b, kf u = some b → b.live = true
structure J (P : Program) (N B : Nat) (ops : Array Oper) (cs : List CO) (ms : List Nat) (f0 : Fr) (M : Nat) (suf : List Nat) (D : Nat → Bool) (v : Nat → Value) (idf : Nat → Nat) (kf : Nat → Option Blk) (R : AR) (H : Hp) (a : Act) (w : World) : Prop where
  rel : Rel R H w
  walk : walkOk ops cs ms suf M = true
  sub : ∀ i, D i = true → M.testBit i = true
  mlt : ∀ i, M.testBit i = true → i < ops.size
  dcl : Closed ops.size ms D
  dpre : ∀ i, D i = true → ∀ e ∈ predsAt ops i, D e = true
  mcl : Closed ops.size ms fun i => M.testBit i
  size : a.tmps.size = N
  fr : ∀ t, VR R (val cs v f0 D t) (a.tmps.getD t undef)
  def_ : a.defers = []
  pend : ∀ u, M.testBit u = true → D u = false → Pend P cs ms v f0 idf kf H R u
  es : ∀ u, M.testBit u = true → isE (cs.getD u c0) = true → D u = true
  lo : B ≤ H.next
  low : ∀ u, M.testBit u = true → D u = false → (kf u).isSome = true → B ≤ idf u
  ids : ∀ u u', M.testBit u = true → M.testBit u' = true → D u = false → D u' = false → (kf u).isSome = true → (kf u').isSome = true → idf u = idf u' → u = u'
theorem bit_add (M j i : Nat) : (M ||| 2 ^ j).testBit i = (M.testBit i || i == j) := by
  rw [Nat.testBit_or, Nat.testBit_two_pow]
  congr 1
  rw [Bool.eq_iff_iff]
  simp
  exact ⟨fun h => h.symm, fun h => h.symm⟩
/-- the slots read decide what an operation yields -/
theorem ev_reads {f g : Fr} {l : List Operand} (h : ∀ t ∈ l.filterMap slotOf, f t = g t) : ∀ x ∈ l, evF f x = evF g x := by
  intro x hx
  cases x with
  | tmp t => exact h t (List.mem_filterMap.2 ⟨.tmp t, hx, rfl⟩)
  | const v => rfl
  | global g => rfl
  | func g => rfl
theorem want_reads {f g : Fr} {c : CO} (h : ∀ t ∈ readsC c, f t = g t) : wantC c.guard f = wantC c.guard g := by
  unfold wantC
  cases hg : c.guard with
  | none => rfl
  | some p =>
    obtain ⟨s, b⟩ := p
    have : f s = g s := h s (by unfold readsC; rw [hg]; simp)
    simp only [this]
theorem run_reads {P : Program} {fo : FOp} {e1 e2 : Operand → Value} {h : Hp} {id : Nat} (hr : ∀ x ∈ fo.reads, e1 x = e2 x) : fo.run P e1 h id = fo.run P e2 h id := by
  have m1 : ∀ {x : Operand}, fo.reads = [x] → e1 x = e2 x := fun h => hr _ (by rw [h]; simp)
  have m2 : ∀ {x y : Operand}, fo.reads = [x, y] → e1 x = e2 x ∧ e1 y = e2 y := fun h => ⟨hr _ (by rw [h]; simp), hr _ (by rw [h]; simp)⟩
  have mo : ∀ (o : Option Operand), (∀ x ∈ o.toList, e1 x = e2 x) → o.map e1 = o.map e2 := by
    intro o ho
    cases o with
    | none => rfl
    | some x => simp [ho x (by simp)]
  have ml : ∀ (l : List Operand), (∀ x ∈ l, e1 x = e2 x) → l.map e1 = l.map e2 := fun l hl => List.map_congr_left hl
  cases fo
  case mkF fn a b =>
    simp only [FOp.run]
    rw [ml a (fun x hx => hr x (List.mem_append_left _ hx)), ml b (fun x hx => hr x (List.mem_append_right _ hx))]
  case slS x lo hi =>
    simp only [FOp.run]
    rw [hr x (by simp [FOp.reads]), mo lo (fun y hy => hr y (by simp only [FOp.reads]; exact List.mem_cons_of_mem _ (List.mem_append_left _ hy))), mo hi (fun y hy => hr y (by simp only [FOp.reads]; exact List.mem_cons_of_mem _ (List.mem_append_right _ hy)))]
  case slc size x lo hi =>
    simp only [FOp.run]
    rw [hr x (by simp [FOp.reads]), mo lo (fun y hy => hr y (by simp only [FOp.reads]; exact List.mem_cons_of_mem _ (List.mem_append_left _ hy))), mo hi (fun y hy => hr y (by simp only [FOp.reads]; exact List.mem_cons_of_mem _ (List.mem_append_right _ hy)))]
  case new => rfl
  case bsl es xs =>
    simp only [FOp.run]
    rw [ml xs hr]
  case bld z ps xs =>
    simp only [FOp.run]
    rw [ml xs hr]
  case pick c a b =>
    simp only [FOp.run]
    rw [hr c (by simp [FOp.reads]), hr a (by simp [FOp.reads]), hr b (by simp [FOp.reads])]
  all_goals first
    | (simp only [FOp.run]; rw [m1 rfl]; done)
    | (obtain ⟨q1, q2⟩ := m2 rfl; simp only [FOp.run]; rw [q1, q2]; done)
    | (obtain ⟨q1, q2⟩ := m2 rfl; simp only [FOp.run]; done)
theorem ok_reads {P : Program} {fo : FOp} {e1 e2 : Operand → Value} {h : Hp} {id : Nat} {v : Value} {k : Option Blk} (hr : ∀ x ∈ fo.reads, e1 x = e2 x) (h1 : fo.ok P e1 h id v k) : fo.ok P e2 h id v k := by
  rcases h1 with h1 | ⟨ne, t, x, y, a, b, r, rfl, h2, h3, h4, h5⟩
  · exact .inl ((run_reads hr).symm.trans h1)
  · exact .inr ⟨ne, t, x, y, a, b, r, rfl, h2, (hr x (by simp [FOp.reads])).symm.trans h3, (hr y (by simp [FOp.reads])).symm.trans h4, h5⟩
/-- what looks not into memory is told of whatever memory -/
theorem ok_any {P : Program} {fo : FOp} {ev : Operand → Value} {h h' : Hp} {id : Nat} {v : Value} {k : Option Blk} (hh : heapy ⟨none, none, false, .f fo⟩ = false) (ho : h'.old = h.old) (h1 : fo.ok P ev h id v k) : fo.ok P ev h' id v k := by
  rcases h1 with h1 | h1
  · left
    cases fo
    case slc => simp only [FOp.run] at h1 ⊢; rw [ho]; exact h1
    all_goals first
      | (simp [heapy] at hh; done)
      | exact h1
  · exact .inr h1
theorem heapy_of {P : Program} {c : CO} {fo : FOp} (hop : c.op = .f fo) {ev : Operand → Value} {h : Hp} {id : Nat} {v : Value} {k : Option Blk} (h1 : fo.ok P ev h id v k) (hk : k.isSome = true) : heapy c = true := by
  cases k with
  | none => simp at hk
  | some b =>
    rcases h1 with h1 | ⟨_, _, _, _, _, _, _, _, h2, _⟩
    · unfold heapy
      rw [hop]
      cases fo <;> simp only [FOp.run] at h1 <;> (repeat' split at h1) <;> first
        | rfl
        | (simp at h1; done)
        | (obtain ⟨x, hx, hx2⟩ := Option.map_eq_some_iff.1 h1; simp at hx2; done)
    · simp at h2
theorem pend_v {v v' : Nat → Value} {f0 : Fr} {idf idf' : Nat → Nat} {kf kf' : Nat → Option Blk} {H H' : Hp} {R R' : AR} {u : Nat} (hp : Pend P cs ms v f0 idf kf H R u)
    (hv : ∀ x, (ms.getD u 0).testBit x = true → v' x = v x) (hvu : v' u = v u) (hi : idf' u = idf u) (hkf : kf' u = kf u) (hok : ∀ fo, (cs.getD u c0).op = .f fo → fo.ok P (evF (val cs v f0 fun x => (ms.getD u 0).testBit x)) H (idf u) (v u) (kf u) → fo.ok P (evF (val cs v f0 fun x => (ms.getD u 0).testBit x)) H' (idf u) (v u) (kf u))
    (hb : ∀ b, kf u = some b → H.blk? (idf u) = some b → R.rho (idf u) = none → H'.blk? (idf u) = some b ∧ R'.rho (idf u) = none) : Pend P cs ms v' f0 idf' kf' H' R' u := by
  have e : val cs v' f0 (fun x => (ms.getD u 0).testBit x) = val cs v f0 fun x => (ms.getD u 0).testBit x := by
    funext t
    unfold val
    cases wr cs t with
    | none => rfl
    | some x =>
      simp only
      by_cases hm : (ms.getD u 0).testBit x = true
      · rw [if_pos hm, if_pos hm, hv x hm]
      · rw [if_neg hm, if_neg hm]
  refine ⟨fun h => ?_, fun b h => ?_, fun h => ?_, fun h => hp.heap (by rw [← hkf]; exact h), fun b h => hp.lv b (by rw [← hkf]; exact h)⟩
  · rw [e] at h ⊢
    obtain ⟨fo, h1, h2⟩ := hp.yes h
    refine ⟨fo, h1, ?_⟩
    rw [hi, hvu, hkf]
    exact hok fo h1 h2
  · rw [hkf] at h
    obtain ⟨h1, h2⟩ := hp.blk b h
    rw [hi]
    exact hb b h h1 h2
  · rw [e] at h
    rw [hvu]
    exact hp.no h
theorem walk_cons {j : Nat} {suf : List Nat} {M : Nat} (h : walkOk ops cs ms (j :: suf) M = true) :
    j < ops.size ∧ M.testBit j = false ∧ (∀ e ∈ predsAt ops j, M.testBit e = true) ∧ (isE (cs.getD j c0) = true → (∀ i, i < ops.size → M.testBit i = false → i ≠ j → ∃ e ∈ predsAt ops i, M.testBit e = false) ∧
      ((cs.getD j c0).keep = false → ∀ u, u < ops.size → M.testBit u = true → heapy (cs.getD u c0) = true → (ms.getD j 0).testBit u = true) ∧
      ((cs.getD j c0).keep = true → ∀ u, u < ops.size → M.testBit u = true → heapy (cs.getD u c0) = true → (ms.getD j 0).testBit u = true ∨ quiet cs ms u = true)) ∧ walkOk ops cs ms suf (M ||| 2 ^ j) = true := by
  unfold walkOk at h
  simp only [Bool.and_eq_true, decide_eq_true_eq, Bool.not_eq_true', List.all_eq_true, Bool.or_eq_true, List.mem_range, beq_iff_eq, List.any_eq_true] at h
  obtain ⟨⟨⟨⟨h1, h2⟩, h3⟩, h4⟩, h5⟩ := h
  refine ⟨h1, h2, h3, fun he => ?_, h5⟩
  rw [he] at h4
  simp only [Bool.true_eq_false, false_or] at h4
  refine ⟨fun i hi hm hne => ?_, fun hk u hu hm hh => ?_, fun hk u hu hm hh => ?_⟩
  · rcases h4.1.1 i hi with (h | h) | h
    · rw [hm] at h; simp at h
    · exact absurd h hne
    · exact h
  · rcases h4.1.2 with h | h
    · rw [hk] at h; simp at h
    · rcases h u hu with (h | h) | h
      · rw [hm] at h; simp at h
      · rw [hh] at h; simp at h
      · exact h
  · rcases h4.2 with h | h
    · rw [hk] at h; simp at h
    · rcases h u hu with ((h | h) | h) | h
      · rw [hm] at h; simp at h
      · rw [hh] at h; simp at h
      · exact .inl h
      · exact .inr h
theorem KeepsP.cell {T : List Nat} {pr : List Operand} {f : Fr} {h h' : Hp} (hk : KeepsP T pr f h h') {a : Addr} (ha : ∀ b ∈ T, a.block ≠ b) {v : Value} (hc : h.cell? a = some v) : h'.cell? a = some v := by
  unfold Hp.cell? at hc ⊢
  rw [hk.1]
  split at hc
  · rename_i hlt
    rw [if_pos hlt]
    exact hc
  · rename_i hlt
    rw [if_neg hlt]
    split at hc
    · simp at hc
    · rename_i hs
      rw [if_neg hs]
      split at hc
      · rename_i k hb
        rw [hk.2.1 _ _ hb (fun hm => ha _ hm rfl)]
        exact hc
      · simp at hc
theorem KeepsP.cellsFrom {T : List Nat} {pr : List Operand} {f : Fr} {h h' : Hp} (hk : KeepsP T pr f h h') {a : Addr} (ha : ∀ b ∈ T, a.block ≠ b) : ∀ (n i : Nat) (l : List Value), h.cellsFrom a i n = some l → h'.cellsFrom a i n = some l
  | 0, i, l, hl => by simpa [Hp.cellsFrom] using hl
  | n + 1, i, l, hl => by
    simp only [Hp.cellsFrom] at hl ⊢
    have ha' : ∀ b ∈ T, (a.add i).block ≠ b := fun b hb => by
      have : (a.add i).block = a.block := by unfold Addr.add; split <;> rfl
      rw [this]; exact ha b hb
    cases hc : h.cell? (a.add i) with
    | none => simp [hc] at hl
    | some v =>
      simp only [hc] at hl
      obtain ⟨t, ht, rfl⟩ := Option.map_eq_some_iff.1 hl
      rw [hk.cell ha' hc]
      simp only
      rw [hk.cellsFrom ha n (i + 1) t ht]
      rfl
theorem touch_rho {R : AR} {H : Hp} {w : World} (hr : Rel R H w) {eo : EOp} {ev ev' : Operand → Value} (hv : ∀ x ∈ eo.reads, VR R (ev x) (ev' x)) : ∀ b ∈ eo.touch ev, ∀ k, H.blk? b = some k → k.live = true → R.rho b ≠ none := by
  have key : ∀ (x : Operand), x ∈ eo.reads → ∀ a n c, ev x = .slice (some a) n c → a.spot = none → ∀ k, H.blk? a.block = some k → k.live = true → R.rho a.block ≠ none := by
    intro x hx a n c he hs k hk hl hn
    have h1 := hv x hx
    rw [he] at h1
    generalize ev' x = u at h1
    cases h1 with
    | sl _ a' _ _ c' h =>
      cases h with
      | old _ _ _ h => have := (Hp.blk_lt hk).1; rw [← hr.base] at this; omega
      | new b o _ _ cb cs cc _ h hrr => rw [hrr] at hn; simp at hn
      | dead _ _ _ _ _ h hd =>
        obtain ⟨-, k2, h2, h3⟩ := hr.dead _ hd
        rw [hk] at h2
        obtain rfl := Option.some.inj h2
        rw [hl] at h3
        simp at h3
      | junk _ _ _ h hs' => rw [hs] at hs'; simp at hs'
  intro b hb k hk hl
  cases eo with
  | app es bytes s x =>
    unfold EOp.touch at hb
    simp only at hb
    split at hb
    · rename_i a n c he
      split at hb
      · rename_i hs
        simp only [List.mem_singleton] at hb
        subst hb
        exact key s (by simp [EOp.reads]) a n c he hs k hk hl
      · cases hb
    · cases hb
  | apz es bytes zc s x =>
    unfold EOp.touch at hb
    simp only at hb
    split at hb
    · rename_i a n c he
      split at hb
      · rename_i hs
        simp only [List.mem_singleton] at hb
        subst hb
        exact key s (by simp [EOp.reads]) a n c he hs k hk hl
      · cases hb
    · cases hb
  | cpy es d s =>
    unfold EOp.touch at hb
    simp only at hb
    split at hb
    · rename_i a n c he
      split at hb
      · rename_i hs
        simp only [List.mem_singleton] at hb
        subst hb
        exact key d (by simp [EOp.reads]) a n c he hs k hk hl
      · cases hb
    · cases hb
  | mst x => cases hb
  | st size x v =>
    have hb : b ∈ [ev x].filterMap ptB := hb
    obtain ⟨v', hv1, hv2⟩ := List.mem_filterMap.1 hb
    obtain rfl := List.mem_singleton.1 hv1
    have hvr := hv x (by simp [EOp.reads])
    unfold ptB at hv2
    split at hv2
    · rename_i a he
      split at hv2
      · rename_i hs
        obtain rfl := Option.some.inj hv2
        rw [he] at hvr
        generalize ev' x = u at hvr
        intro hn
        cases hvr with
        | ptr _ a' h =>
          cases h with
          | old _ h => have := (Hp.blk_lt hk).1; rw [← hr.base] at this; omega
          | new b o cb cs cc h hrr => rw [hrr] at hn; simp at hn
          | dead _ _ h hd =>
            obtain ⟨-, k2, h2, h3⟩ := hr.dead _ hd
            rw [hk] at h2
            obtain rfl := Option.some.inj h2
            rw [hl] at h3
            simp at h3
          | junk _ _ h hs' => rw [hs] at hs'; simp at hs'
      · cases hv2
    · cases hv2
  | cal f args =>
    unfold EOp.touch at hb
    simp only at hb
    split at hb
    · rename_i g p q he
      obtain ⟨v, hv1, hv2⟩ := List.mem_filterMap.1 hb
      have hvf := hv f (by simp [EOp.reads])
      rw [he] at hvf
      unfold ptB at hv2
      split at hv2
      · rename_i a
        split at hv2
        · rename_i hs
          obtain rfl := Option.some.inj hv2
          have hvr : ∃ v', VR R (.pointer (some a)) v' := by
            generalize ev' f = f' at hvf
            cases hvf with
            | func _ _ p' _ q' h1 h2 ka kb =>
              rcases List.mem_append.1 hv1 with h | h
              · rcases List.mem_append.1 h with h | h
                · obtain ⟨j, hj⟩ := List.getElem?_of_mem h
                  have hlt : j < p.size := by simpa using (List.getElem?_eq_some_iff.1 hj).1
                  exact ⟨p'[j]'(by omega), ka j _ _ (by simpa using hj) (by simp)⟩
                · obtain ⟨x, hx, hx2⟩ := List.mem_map.1 h
                  exact ⟨ev' x, hx2 ▸ hv x (by simp [EOp.reads, hx])⟩
              · obtain ⟨j, hj⟩ := List.getElem?_of_mem h
                have hlt : j < q.size := by simpa using (List.getElem?_eq_some_iff.1 hj).1
                exact ⟨q'[j]'(by omega), kb j _ _ (by simpa using hj) (by simp)⟩
          obtain ⟨v', hvr⟩ := hvr
          intro hn
          cases hvr with
          | ptr _ a' h =>
            cases h with
            | old _ h => have := (Hp.blk_lt hk).1; rw [← hr.base] at this; omega
            | new b o cb cs cc h hrr => rw [hrr] at hn; simp at hn
            | dead _ _ h hd =>
              obtain ⟨-, k2, h2, h3⟩ := hr.dead _ hd
              rw [hk] at h2
              obtain rfl := Option.some.inj h2
              rw [hl] at h3
              simp at h3
            | junk _ _ h hs' => rw [hs] at hs'; simp at hs'
        · cases hv2
      · cases hv2
    · cases hb
/-- What is read stands where nothing is changed but blocks to which no address is known. -/
theorem ok_quiet (hR : RegP P N ops cs ms) {v : Nat → Value} {f0 : Fr} {M : Nat} (hM : Closed ops.size ms fun i => M.testBit i) {u : Nat} (hu : u < ops.size) (huM : M.testBit u = true) {fo : FOp} (hop : (cs.getD u c0).op = .f fo) (hh : heapy (cs.getD u c0) = true) (hq : quiet cs ms u = true) {T : List Nat} {pr : List Operand} (hpr : ∀ n x, (cs.getD u c0).op = .f (.ld n x) → x ∈ pr) (hpr2 : ∀ x, (cs.getD u c0).op = .f (.b2s x) → x ∈ pr) {H H' : Hp} (hk : KeepsP T pr (val cs v f0 fun i => M.testBit i) H H') {id : Nat} {x : Value} {k : Option Blk}
    (h1 : fo.ok P (evF (val cs v f0 fun y => (ms.getD u 0).testBit y)) H id x k) : fo.ok P (evF (val cs v f0 fun y => (ms.getD u 0).testBit y)) H' id x k := by
  unfold quiet at hq
  have q2 := hq
  rw [List.all_eq_true] at q2
  have st : ∀ t ∈ readsC (cs.getD u c0), val cs v f0 (fun i => M.testBit i) t = val cs v f0 (fun y => (ms.getD u 0).testBit y) t := fun t ht => by
    have := q2 t ht
    unfold val
    cases hw : wr cs t with
    | none => rfl
    | some y =>
      rw [hw] at this
      simp only at this ⊢
      rw [if_pos this, if_pos (hM u y hu huM this)]
  rcases h1 with h1 | h1
  · left
    cases fo
    case ld n y =>
      simp only [FOp.run] at h1 ⊢
      have hblk : ∀ a, evF (val cs v f0 fun y => (ms.getD u 0).testBit y) y = .pointer (some a) → ∀ b ∈ T, a.block ≠ b := by
        intro a ha b hb
        cases y with
        | tmp t =>
          have h2 := st t (by unfold readsC; rw [hop]; simp [COp.reads, FOp.reads, slotOf])
          exact hk.2.2 b hb (.tmp t) (hpr _ _ hop) a (by
            have h3 : evF (val cs v f0 fun i => M.testBit i) (.tmp t) = .pointer (some a) := h2.trans ha
            rw [h3]; rfl)
        | const c =>
          obtain ⟨c1, hc1, hc2⟩ := hR.comp u _ (show ops[u]? = some ops[u] by simp [hu])
          have h3 := (compO_spec hc1).2.2.1
          have h4 : c1.op = (cs.getD u c0).op := by rw [hc2]
          rw [h4, hop] at h3
          have ha : c = .pointer (some a) := ha
          subst ha
          simp [COp.reads, FOp.reads, okOpd, plainV, plainC] at h3
        | global g =>
          obtain ⟨c1, hc1, hc2⟩ := hR.comp u _ (show ops[u]? = some ops[u] by simp [hu])
          have h3 := (compO_spec hc1).2.2.1
          have h4 : c1.op = (cs.getD u c0).op := by rw [hc2]
          rw [h4, hop] at h3
          simp [COp.reads, FOp.reads, okOpd] at h3
        | func g => cases ha
      split at h1
      · rename_i a ha
        have hb := hblk a ha
        cases n with
        | none =>
          obtain ⟨v, hv, he⟩ := Option.map_eq_some_iff.1 h1
          simp only [hk.cell hb hv, Option.map_some]
          exact congrArg some he
        | some n =>
          obtain ⟨v, hv, he⟩ := Option.map_eq_some_iff.1 h1
          obtain ⟨l, hl, rfl⟩ := Option.map_eq_some_iff.1 hv
          simp only [show H'.cells? a n = _ from hk.cellsFrom hb n 0 l hl, Option.map_some]
          exact congrArg some he
      · simp at h1
    case b2s y =>
      simp only [FOp.run] at h1 ⊢
      split at h1
      · exact h1
      · rename_i a n c ha
        by_cases hn : n = 0
        · subst hn
          exact h1
        have hblk : ∀ b ∈ T, a.block ≠ b := by
          intro b hb
          cases y with
          | tmp t =>
            have h2 := st t (by unfold readsC; rw [hop]; simp [COp.reads, FOp.reads, slotOf])
            exact hk.2.2 b hb (.tmp t) (hpr2 _ hop) a (by
              have h3 : evF (val cs v f0 fun i => M.testBit i) (.tmp t) = .slice (some a) n c := h2.trans ha
              rw [h3]
              show (if n = 0 then none else some a) = some a
              rw [if_neg hn])
          | const c' =>
            obtain ⟨c1, hc1, hc2⟩ := hR.comp u _ (show ops[u]? = some ops[u] by simp [hu])
            have h3 := (compO_spec hc1).2.2.1
            have h4 : c1.op = (cs.getD u c0).op := by rw [hc2]
            rw [h4, hop] at h3
            have ha : c' = .slice (some a) n c := ha
            subst ha
            simp [COp.reads, FOp.reads, okOpd, plainV, plainC] at h3
          | global g => cases ha
          | func g => cases ha
        obtain ⟨l0, hl0, -⟩ := Option.map_eq_some_iff.1 h1
        obtain ⟨l, hl, -⟩ := Option.bind_eq_some_iff.1 hl0
        have h5 : H'.cells? a n = some l := hk.cellsFrom hblk n 0 l hl
        rw [hl] at h1
        rw [h5]
        exact h1
      · simp at h1
    case slc size y lo hi =>
      unfold heapy at hh
      rw [hop] at hh
      simp at hh
    all_goals exact h1
  · exact .inr h1
theorem Hp.next_pushO (h : Hp) (k : Option Blk) : h.next ≤ (h.pushO k).next := by
  cases k with
  | none => exact Nat.le_refl _
  | some k => show h.next ≤ (h.push k).next; rw [Hp.next_push]; omega
/-- All that is read, of the ones that are told, is known. -/
def RdOk (cs : List CO) (M : Nat) (pr : List Operand) : Prop := (∀ u n x, M.testBit u = true → (cs.getD u c0).op = .f (.ld n x) → x ∈ pr) ∧ ∀ u x, M.testBit u = true → (cs.getD u c0).op = .f (.b2s x) → x ∈ pr
theorem rdO_sub {op : COp} {pr : List Operand} {x : Operand} (h : x ∈ pr) : x ∈ rdO op pr := by
  cases op with
  | f fo => cases fo <;> first | exact h | exact List.mem_cons_of_mem _ h
  | e eo => exact h
theorem RdOk.add {cs : List CO} {M j : Nat} {pr : List Operand} (h : RdOk cs M pr) : RdOk cs (M ||| 2 ^ j) (rdO (cs.getD j c0).op pr) := by
  refine ⟨fun u n x hu ho => ?_, fun u x hu ho => ?_⟩
  all_goals
    rw [bit_add] at hu
    by_cases e : u = j
    · subst e
      rw [ho]
      exact List.mem_cons_self
    · have hu' : M.testBit u = true := by simpa [e] using hu
      first
        | exact rdO_sub (h.1 u n x hu' ho)
        | exact rdO_sub (h.2 u x hu' ho)
/-- Those that write nothing are told as early as can be. -/
theorem adv {B : Nat} (hR : RegP P N ops cs ms) {K : Fr → Hp → Prop} {f0 : Fr} {D : Nat → Bool} {R : AR} {a : Act} {w : World} : ∀ (suf : List Nat) (M : Nat) (v : Nat → Value) (idf : Nat → Nat) (kf : Nat → Option Blk) (H : Hp) (pr : List Operand), RdOk cs M pr →
    J P N B ops cs ms f0 M suf D v idf kf R H a w → aops P pr (suf.map fun i => cs.getD i c0) K (val cs v f0 fun i => M.testBit i) H →
    ∃ M' suf' v' idf' kf' H' pr', RdOk cs M' pr' ∧ J P N B ops cs ms f0 M' suf' D v' idf' kf' R H' a w ∧ aops P pr' (suf'.map fun i => cs.getD i c0) K (val cs v' f0 fun i => M'.testBit i) H' ∧ (suf' = [] ∨ ∃ j r, suf' = j :: r ∧ isE (cs.getD j c0) = true) ∧ Keeps H H'
  | [], M, v, idf, kf, H, pr, hp, hj, hk => ⟨M, [], v, idf, kf, H, pr, hp, hj, hk, .inl rfl, .refl H⟩
  | j :: suf, M, v, idf, kf, H, pr, hp, hj, hk => by
    by_cases he : isE (cs.getD j c0) = true
    · exact ⟨M, _, v, idf, kf, H, pr, hp, hj, hk, .inr ⟨j, suf, rfl, he⟩, .refl H⟩
    · obtain ⟨w1, w2, w3, -, w5⟩ := walk_cons hj.walk
      have hDj : D j = false := by
        cases h : D j with
        | false => rfl
        | true => rw [hj.sub j h] at w2; simp at w2
      have hread : ∀ t ∈ readsC (cs.getD j c0), val cs v f0 (fun i => M.testBit i) t = val cs v f0 (fun u => (ms.getD j 0).testBit u) t := fun t ht => val_read hR w1 hj.mcl w2 w3 hj.mlt ht
      have anc : ∀ x, (ms.getD j 0).testBit x = true → x ≠ j := fun x hx e => by
        obtain ⟨e1, h1, h2⟩ := hR.mask j x w1 hx
        have : M.testBit x = true := by
          rcases h2 with rfl | h2
          · exact w3 _ h1
          · exact hj.mcl e1 x (hj.mlt _ (w3 _ h1)) (w3 _ h1) h2
        rw [e, w2] at this
        simp at this
      have ancu : ∀ u x, M.testBit u = true → (ms.getD u 0).testBit x = true → x ≠ j := fun u x hu hx e => by
        have := hj.mcl u x (hj.mlt u hu) hu hx
        rw [e] at this
        simp only at this
        rw [w2] at this
        simp at this
      have hne : ∀ u, M.testBit u = true → u ≠ j := fun u hu e => by rw [e, w2] at hu; simp at hu
      simp only [List.map_cons, aops] at hk
      have hmcl : Closed ops.size ms fun i => (M ||| 2 ^ j).testBit i := by
        intro u i hu h1 h2
        simp only [bit_add] at h1 ⊢
        by_cases e : u = j
        · subst e
          obtain ⟨e1, h3, h4⟩ := hR.mask u i hu h2
          rw [show M.testBit i = true by
            rcases h4 with rfl | h4
            · exact w3 _ h3
            · exact hj.mcl e1 i (hj.mlt _ (w3 _ h3)) (w3 _ h3) h4]
          rfl
        · have h1' : M.testBit u = true := by simpa [e] using h1
          have h3 : M.testBit i = true := hj.mcl u i hu h1' h2
          rw [h3]
          rfl
      -- the next state, whatever is told of j
      have next : ∀ (x : Value) (k : Option Blk) (H' : Hp), Keeps H H' → H.next ≤ H'.next → Rel R H' w → (∀ b, k = some b → H'.blk? H.next = some b ∧ R.rho H.next = none) → (k.isSome = true → heapy (cs.getD j c0) = true) → (∀ b, k = some b → b.live = true) →
          (wantC (cs.getD j c0).guard (val cs v f0 fun i => M.testBit i) = true → ∃ fo, (cs.getD j c0).op = .f fo ∧ fo.ok P (evF (val cs v f0 fun i => M.testBit i)) H' H.next x k) → (wantC (cs.getD j c0).guard (val cs v f0 fun i => M.testBit i) = false → x = undef) →
          J P N B ops cs ms f0 (M ||| 2 ^ j) suf D (fun i => if i = j then x else v i) (fun i => if i = j then H.next else idf i) (fun i => if i = j then k else kf i) R H' a w := by
        intro x k H' hke hnx hrel hblk hheap hlv hyes hno
        have evj : ∀ fo, (cs.getD j c0).op = .f fo → ∀ y ∈ fo.reads, evF (val cs v f0 fun i => M.testBit i) y = evF (val cs v f0 fun u => (ms.getD j 0).testBit u) y := fun fo hfo => ev_reads (fun t ht => hread t (by unfold readsC; rw [hfo]; exact List.mem_append_left _ ht))
        have ev2 : val cs (fun i => if i = j then x else v i) f0 (fun u => (ms.getD j 0).testBit u) = val cs v f0 fun u => (ms.getD j 0).testBit u := by
          funext t
          unfold val
          cases wr cs t with
          | none => rfl
          | some y =>
            simp only
            by_cases hm : (ms.getD j 0).testBit y = true
            · rw [if_pos hm, if_pos hm, if_neg (anc y hm)]
            · rw [if_neg hm, if_neg hm]
        refine ⟨hrel, w5, fun i hi => by rw [bit_add, hj.sub i hi]; rfl, fun i hi => ?_, hj.dcl, hj.dpre, hmcl, hj.size, fun t => ?_, hj.def_, fun u hu hd => ?_, fun u hu hue => ?_, Nat.le_trans hj.lo hnx, fun u hu hd hs => ?_, fun u u' hu hu' hd hd' hs hs' hid => ?_⟩
        · rw [bit_add] at hi
          rcases Bool.or_eq_true_iff.1 hi with h | h
          · exact hj.mlt i h
          · rw [beq_iff_eq] at h; omega
        · have := hj.fr t
          have e : val cs (fun i => if i = j then x else v i) f0 D t = val cs v f0 D t := by
            unfold val
            cases wr cs t with
            | none => rfl
            | some y =>
              simp only
              by_cases hd : D y = true
              · rw [if_pos hd, if_pos hd, if_neg (fun e => by rw [e, hDj] at hd; simp at hd)]
              · rw [if_neg hd, if_neg hd]
          rw [e]
          exact this
        · rw [bit_add] at hu
          by_cases e : u = j
          · subst e
            refine ⟨fun h => ?_, fun b hb => ?_, fun h => ?_, fun h => by simp only [if_true] at h; exact hheap h, fun b hb => by simp only [if_true] at hb; exact hlv b hb⟩
            · rw [ev2] at h ⊢
              rw [← want_reads hread] at h
              obtain ⟨fo, h1, h2⟩ := hyes h
              refine ⟨fo, h1, ?_⟩
              simp only [if_true]
              exact ok_reads (evj fo h1) h2
            · simp only [if_true] at hb ⊢
              exact hblk b hb
            · rw [ev2] at h
              rw [← want_reads hread] at h
              simp only [if_true]
              exact hno h
          · have hu' : M.testBit u = true := by simpa [e] using hu
            exact pend_v (hj.pend u hu' hd) (fun x hx => by rw [if_neg (ancu u x hu' hx)]) (by rw [if_neg e]) (by rw [if_neg e]) (by rw [if_neg e]) (fun fo _ h => ok_keep hke h) (fun b hb h1 h2 => ⟨hke.2 _ _ h1, h2⟩)
        · rw [bit_add] at hu
          by_cases e : u = j
          · subst e; exact absurd hue he
          · exact hj.es u (by simpa [e] using hu) hue
        · rw [bit_add] at hu
          by_cases e : u = j
          · subst e
            simp only [if_true]
            exact hj.lo
          · simp only [e, if_false] at hs ⊢
            exact hj.low u (by simpa [e] using hu) hd hs
        · rw [bit_add] at hu hu'
          by_cases e : u = j <;> by_cases e' : u' = j
          · rw [e, e']
          · have h' : M.testBit u' = true := by simpa [e'] using hu'
            simp only [e, e', if_true, if_false] at hid hs'
            exfalso
            obtain ⟨b, hb⟩ := Option.isSome_iff_exists.1 hs'
            have := (Hp.blk_lt ((hj.pend u' h' hd').blk b hb).1).2
            omega
          · have h' : M.testBit u = true := by simpa [e] using hu
            simp only [e, e', if_true, if_false] at hid hs
            exfalso
            obtain ⟨b, hb⟩ := Option.isSome_iff_exists.1 hs
            have := (Hp.blk_lt ((hj.pend u h' hd).blk b hb).1).2
            omega
          · simp only [e, e', if_false] at hid hs hs'
            exact hj.ids u u' (by simpa [e] using hu) (by simpa [e'] using hu') hd hd' hs hs' hid
      have hput : ∀ x, val cs (fun i => if i = j then x else v i) f0 (fun i => (M ||| 2 ^ j).testBit i) = putF (val cs v f0 fun i => M.testBit i) (cs.getD j c0).dst x := fun x => val_put hR w1 w2 (fun i => bit_add M j i)
      split at hk
      · rename_i hw
        cases hop : (cs.getD j c0).op with
        | e eo => exact absurd (show isE (cs.getD j c0) = true by unfold isE; rw [hop]) he
        | f fo =>
          rw [hop] at hk
          simp only at hk
          obtain ⟨x, k, hok, hk⟩ := hk
          have hj' := next x k (H.pushO k) (Keeps.pushO H k) (Hp.next_pushO H k) (by cases k with | none => exact hj.rel | some b => exact (hj.rel.push b).1)
            (fun b hb => by subst hb; exact ⟨Hp.blk_push _ _, (hj.rel.push b).2⟩) (fun h => heapy_of hop hok h) (ok_id hok) (fun _ => ⟨fo, hop, ok_keep (Keeps.pushO H k) hok⟩) (fun h => by rw [hw] at h; simp at h)
          rw [← hput] at hk
          have hp' := hp.add (j := j)
          rw [hop] at hp'
          obtain ⟨M', suf', v', idf', kf', H', pr', r0, r1, r2, r3, r4⟩ := adv hR suf _ _ _ _ _ _ hp' hj' hk
          exact ⟨M', suf', v', idf', kf', H', pr', r0, r1, r2, r3, (Keeps.pushO H k).trans r4⟩
      · rename_i hw
        have hj' := next undef none H (.refl H) (Nat.le_refl _) hj.rel (fun b hb => by simp at hb) (fun h => by simp at h) (fun b hb => by simp at hb) (fun h => absurd h hw) (fun _ => rfl)
        rw [← hput] at hk
        exact adv hR suf _ _ _ _ _ _ (hp.add (j := j)) hj' hk
def lst (l : Array Bool) (i : Nat) : Bool := l.getD i false
theorem lst_set {l : Array Bool} {i : Nat} (hi : i < l.size) (j : Nat) : lst (l.setIfInBounds i true) j = (lst l j || j == i) := by
  unfold lst
  simp only [Array.getD_eq_getD_getElem?]
  rw [Array.getElem?_setIfInBounds]
  by_cases e : i = j
  · subst e; simp [hi]
  · rw [if_neg e]
    have : (j == i) = false := by simp; exact fun h => e h.symm
    rw [this, Bool.or_false]
def cnt (n : Nat) (l : Array Bool) : Nat := (List.range n).countP fun i => !lst l i
theorem cnt_set {l : Array Bool} {i n : Nat} (hi : i < l.size) (hn : i < n) (hu : lst l i = false) : cnt n (l.setIfInBounds i true) + 1 = cnt n l := by
  unfold cnt
  have key : ∀ (xs : List Nat), xs.Nodup → i ∈ xs → (xs.countP fun j => !lst (l.setIfInBounds i true) j) + 1 = xs.countP fun j => !lst l j := by
    intro xs
    induction xs with
    | nil => intro _ h; simp at h
    | cons x xs ih =>
      intro hnd hm
      rw [List.nodup_cons] at hnd
      by_cases e : x = i
      · subst e
        have hrest : (xs.countP fun j => !lst (l.setIfInBounds x true) j) = xs.countP fun j => !lst l j := by
          apply List.countP_congr
          intro j hj
          have : j ≠ x := fun e => hnd.1 (e ▸ hj)
          rw [lst_set hi]
          simp [this]
        rw [List.countP_cons, hrest, List.countP_cons]
        have e1 : lst (l.setIfInBounds x true) x = true := by rw [lst_set hi]; simp
        rw [e1, hu]
        simp
      · rcases List.mem_cons.1 hm with h | h
        · exact absurd h.symm e
        · have := ih hnd.2 h
          rw [List.countP_cons, List.countP_cons]
          have e1 : lst (l.setIfInBounds i true) x = lst l x := by rw [lst_set hi]; simp [e]
          rw [e1]
          omega
  exact key _ List.nodup_range (List.mem_range.2 hn)
theorem cnt_zero {l : Array Bool} {n : Nat} (h : cnt n l = 0) {i : Nat} (hi : i < n) : lst l i = true := by
  unfold cnt at h
  rw [List.countP_eq_zero] at h
  have := h i (List.mem_range.2 hi)
  simpa using this
theorem preds_of {o : Oper} {i : Nat} (ho : ops[i]? = some o) {D : Nat → Bool} : (∀ e ∈ o.after, Region.binds .any e = true → D e.on = true) ↔ ∀ e ∈ predsAt ops i, D e = true := by
  unfold predsAt predsO
  rw [ho]
  constructor
  · intro h e he
    obtain ⟨x, hx, hx2⟩ := List.mem_filterMap.1 he
    split at hx2
    · rename_i hb
      obtain rfl := Option.some.inj hx2
      exact h x (by simpa using hx) hb
    · simp at hx2
  · intro h e he hb
    exact h e.on (List.mem_filterMap.2 ⟨e, by simpa using he, by rw [if_pos hb]⟩)
theorem all_done (hR : RegP P N ops cs ms) {l : Array Bool} (hs : l.size = ops.size) (hr : Region.ready .any ops l = []) : ∀ i, i < ops.size → lst l i = true := by
  intro i
  induction i using Nat.strongRecOn with
  | _ i ih =>
    intro hi
    cases h : lst l i with
    | true => rfl
    | false =>
      exfalso
      have ho : ops[i]? = some ops[i] := by simp [hi]
      have : i ∈ Region.ready .any ops l := by
        rw [mem_ready]
        refine ⟨?_, ops[i], ho, ?_⟩
        · unfold lst at h
          simp only [Array.getD_eq_getD_getElem?] at h ⊢
          simp [hs, hi] at h ⊢
          exact h
        · exact (preds_of ho (D := fun x => l.getD x false)).2 (fun e he => ih e (hR.back i hi e he) (Nat.lt_trans (hR.back i hi e he) hi))
      rw [hr] at this
      simp at this
theorem mem_rdy (hR : RegP P N ops cs ms) {l : Array Bool} (hs : l.size = ops.size) {i : Nat} (hi : i ∈ Region.ready .any ops l) : i < ops.size ∧ lst l i = false ∧ ∀ e ∈ predsAt ops i, lst l e = true := by
  rw [mem_ready] at hi
  obtain ⟨h1, o, ho, h2⟩ := hi
  have hlt := (Array.getElem?_eq_some_iff.1 ho).1
  refine ⟨hlt, ?_, (preds_of ho (D := fun x => l.getD x false)).1 h2⟩
  unfold lst
  simp only [Array.getD_eq_getD_getElem?] at h1 ⊢
  simp [hs, hlt] at h1 ⊢
  exact h1
theorem draw_sound {B : Nat} (hR : RegP P N ops cs ms) {K : Fr → Hp → Prop} {Q : Exit → Act → World → Prop} {f0 : Fr} {R0 : AR} {H0 : Hp} (hB : B = H0.next)
    (hq : ∀ f' h' R' a' w', K f' h' → Step R0 H0 R' h' w' → FR R' N f' a' → a'.defers = [] → Q .normal a' w') : ∀ (fuel : Nat) (l : Array Bool) (M : Nat) (suf : List Nat) (v : Nat → Value) (idf : Nat → Nat) (kf : Nat → Option Blk) (R : AR) (H : Hp) (a : Act) (w : World) (pr : List Operand), RdOk cs M pr →
    l.size = ops.size → cnt ops.size l ≤ fuel → J P N B ops cs ms f0 M suf (lst l) v idf kf R H a w → aops P pr (suf.map fun i => cs.getD i c0) K (val cs v f0 fun i => M.testBit i) H → (suf = [] ∨ ∃ j r, suf = j :: r ∧ isE (cs.getD j c0) = true) →
    R0.le R → H.old = H0.old → (∀ b e, R.rho b = some e → R0.rho b = some e ∨ B ≤ b) → wpAny P .any ops Q fuel l a w := by
  intro fuel
  induction fuel with
  | zero =>
    intro l M suf v idf kf R H a w pr hp hls hc hj hk hsuf h1 h2 h3
    have hall : ∀ i, i < ops.size → lst l i = true := fun i hi => cnt_zero (by omega) hi
    have hnil : Region.ready .any ops l = [] := by
      cases hr : Region.ready .any ops l with
      | nil => rfl
      | cons x xs =>
        have hm := mem_rdy hR hls (i := x) (by rw [hr]; simp)
        rw [hall x hm.1] at hm
        simp at hm
    refine ⟨hnil, ?_⟩
    have hsn : suf = [] := by
      rcases hsuf with h | ⟨j, r, rfl, -⟩
      · exact h
      · obtain ⟨w1, w2, -⟩ := walk_cons hj.walk
        have := hj.sub j (hall j w1)
        rw [w2] at this
        simp at this
    subst hsn
    have hM : ∀ i, (fun i => M.testBit i) i = lst l i := by
      intro i
      by_cases hi : i < ops.size
      · rw [hall i hi]; exact hj.sub i (hall i hi)
      · cases hm : M.testBit i with
        | true => exact absurd (hj.mlt i hm) hi
        | false =>
          cases hd : lst l i with
          | true => rw [hj.sub i hd] at hm; simp at hm
          | false => exact hm
    have hMl : (fun i => M.testBit i) = lst l := funext hM
    rw [hMl] at hk
    exact hq _ H R a w hk ⟨h1, hj.rel, h2, by rw [← hB]; exact hj.lo, by rw [← hB]; exact h3⟩ ⟨hj.size, hj.fr⟩ hj.def_
  | succ fuel ih =>
    intro l M suf v idf kf R H a w pr hp hls hc hj hk hsuf h1 h2 h3
    refine ⟨fun hnil => ?_, fun i hi => ?_⟩
    · have hall := all_done hR hls hnil
      have hsn : suf = [] := by
        rcases hsuf with h | ⟨j, r, rfl, -⟩
        · exact h
        · obtain ⟨w1, w2, -⟩ := walk_cons hj.walk
          have := hj.sub j (hall j w1)
          rw [w2] at this
          simp at this
      subst hsn
      have hM : ∀ i, (fun i => M.testBit i) i = lst l i := by
        intro i
        by_cases hi : i < ops.size
        · rw [hall i hi]; exact hj.sub i (hall i hi)
        · cases hm : M.testBit i with
          | true => exact absurd (hj.mlt i hm) hi
          | false =>
            cases hd : lst l i with
            | true => rw [hj.sub i hd] at hm; simp at hm
            | false => exact hm
      have hMl : (fun i => M.testBit i) = lst l := funext hM
      rw [hMl] at hk
      exact hq _ H R a w hk ⟨h1, hj.rel, h2, by rw [← hB]; exact hj.lo, by rw [← hB]; exact h3⟩ ⟨hj.size, hj.fr⟩ hj.def_
    · obtain ⟨hin, hiu, hip⟩ := mem_rdy hR hls hi
      have ho : ops[i]? = some ops[i] := by simp [hin]
      obtain ⟨c, hc0, hceq⟩ := hR.comp i _ ho
      obtain ⟨s1, s2, s3, s4⟩ := compO_spec hc0
      have g1 : (cs.getD i c0).op = c.op := by rw [hceq]
      have g2 : (cs.getD i c0).dst = c.dst := by rw [hceq]
      have g3 : (cs.getD i c0).guard = c.guard := by rw [hceq]
      have hdlt : ∀ e, lst l e = true → e < ops.size := fun e he => hj.mlt e (hj.sub e he)
      have hread : ∀ t ∈ readsC (cs.getD i c0), val cs v f0 (lst l) t = val cs v f0 (fun u => (ms.getD i 0).testBit u) t := fun t ht => val_read hR hin hj.dcl hiu hip hdlt ht
      -- the slots of the machine that the operation looks at
      have hfr : ∀ t ∈ readsC (cs.getD i c0), VR R (val cs v f0 (fun u => (ms.getD i 0).testBit u) t) (a.tmps.getD t undef) := fun t ht => by rw [← hread t ht]; exact hj.fr t
      have hwant : Region.wanted ops[i] (yielded ops a.tmps) = wantC c.guard (val cs v f0 fun u => (ms.getD i 0).testBit u) := want_eq hc0 (fun s b hg => hfr s (by unfold readsC; rw [g3, hg]; simp))
      have hls' : (l.setIfInBounds i true).size = ops.size := by simp [hls]
      have hcnt : cnt ops.size (l.setIfInBounds i true) ≤ fuel := by
        have := cnt_set (n := ops.size) (by omega : i < l.size) hin hiu
        omega
      have hlst : ∀ j, lst (l.setIfInBounds i true) j = (lst l j || j == i) := lst_set (by omega)
      have hdcl : Closed ops.size ms (lst (l.setIfInBounds i true)) := by
        intro u x hu hx hm
        rw [hlst] at hx ⊢
        by_cases e : u = i
        · subst e
          obtain ⟨e1, k1, k2⟩ := hR.mask u x hu hm
          have : lst l x = true := by
            rcases k2 with rfl | k2
            · exact hip _ k1
            · exact hj.dcl e1 x (hdlt _ (hip _ k1)) (hip _ k1) k2
          rw [this]; rfl
        · have : lst l u = true := by simpa [e] using hx
          rw [hj.dcl u x hu this hm]; rfl
      have hdpre : ∀ j, lst (l.setIfInBounds i true) j = true → ∀ e ∈ predsAt ops j, lst (l.setIfInBounds i true) e = true := by
        intro j hx e he
        rw [hlst] at hx ⊢
        by_cases e1 : j = i
        · subst e1; rw [hip e he]; rfl
        · have : lst l j = true := by simpa [e1] using hx
          rw [hj.dpre j this e he]; rfl
      have evi : ∀ f : Fr, ∀ x ∈ c.op.reads, (∀ t ∈ readsC (cs.getD i c0), VR R (f t) (a.tmps.getD t undef)) → VR R (evF f x) (a.eval x) := fun f x hx hv => opd_VR (List.all_eq_true.1 s3 x hx) (fun t ht => hv t (by
        unfold readsC
        rw [g1]
        refine List.mem_append_left _ (List.mem_filterMap.2 ⟨x, hx, ?_⟩)
        rw [ht]; rfl))
      unfold wpOp
      simp only [ho, hwant]
      by_cases hMi : M.testBit i = true
      · -- it was told before
        have hpend := hj.pend i hMi hiu
        -- behind it
        have behind : ∀ (v' : Value) (R' : AR) (w' : World), VR R' (v i) v' → R.le R' → Rel R' H w' → (∀ b e, R'.rho b = some e → R.rho b = some e ∨ ((kf i).isSome = true ∧ b = idf i)) →
            wpAny P .any ops Q fuel (l.setIfInBounds i true) (a.put ops[i].dst v') w' := by
          intro v' R' w' k1 k2 k3 k4
          refine ih _ M suf v idf kf R' H _ w' pr hp hls' hcnt ⟨k3, hj.walk, fun j hx => ?_, hj.mlt, hdcl, hdpre, hj.mcl, put_size.trans hj.size, fun t => ?_, put_defers.trans hj.def_, fun u hu hd => ?_, fun u hu he => ?_, hj.lo, fun u hu hd hs => ?_, fun u u' hu hu' hd hd' => ?_⟩ hk hsuf (h1.trans k2) h2 (fun b e hb => ?_)
          · rw [hlst] at hx
            by_cases e : j = i
            · rw [e]; exact hMi
            · exact hj.sub j (by simpa [e] using hx)
          · rw [put_get hj.size (fun s hs => s4 s (s2.trans hs))]
            have hvp := val_put (v := v) (f0 := f0) hR hin hiu hlst (x := v i)
            have hid : (fun j => if j = i then v i else v j) = v := by
              funext j
              by_cases e : j = i
              · rw [if_pos e, e]
              · rw [if_neg e]
            rw [hid] at hvp
            rw [hvp, g2, s2]
            cases hd : ops[i].dst with
            | none => simpa [putF] using (hj.fr t).mono k2
            | some s =>
              simp only [putF, Option.some.injEq]
              by_cases e : t = s
              · subst e; simpa using k1
              · rw [if_neg e, if_neg (fun k => e k.symm)]
                exact (hj.fr t).mono k2
          · rw [hlst] at hd
            simp only [Bool.or_eq_false_iff, beq_eq_false_iff_ne] at hd
            refine pend_v (hj.pend u hu hd.1) (fun _ _ => rfl) rfl rfl rfl (fun _ _ h => h) (fun b hb q1 q2 => ⟨q1, ?_⟩)
            cases hrr : R'.rho (idf u) with
            | none => rfl
            | some e =>
              rcases k4 _ _ hrr with h | ⟨h, h'⟩
              · rw [q2] at h; simp at h
              · exact absurd (hj.ids u i hu hMi hd.1 hiu (by rw [hb]; rfl) h h') hd.2
          · rw [hlst, hj.es u hu he]; rfl
          · rw [hlst] at hd
            simp only [Bool.or_eq_false_iff] at hd
            exact hj.low u hu hd.1 hs
          · rw [hlst] at hd hd'
            simp only [Bool.or_eq_false_iff] at hd hd'
            exact hj.ids u u' hu hu' hd.1 hd'.1
          · rcases k4 b e hb with h | ⟨h, rfl⟩
            · exact h3 b e h
            · exact .inr (hj.low i hMi hiu h)
        split
        · rename_i hw
          rw [← g3] at hw
          obtain ⟨fo, f1, f2⟩ := hpend.yes hw
          rw [g1] at f1
          have hcf : compF P ops[i] = some fo := by
            rcases compOp_spec s1 with ⟨fo', e1, e2⟩ | ⟨eo, e1, e2⟩
            · rw [f1] at e1
              obtain rfl := COp.f.inj e1
              exact e2
            · rw [f1] at e1; simp at e1
          obtain ⟨v', w', R', r1, r2, r3, r4, r5⟩ := fo_sound (ev' := a.eval) hcf (fun x hx => evi _ x (by rw [f1]; exact hx) hfr) hj.rel f2 hpend.blk
          refine .inl ?_
          show Oper.upon P ops[i] a _ Q ((execOp a.eval ops[i]).run P w)
          rw [r1]
          exact behind v' R' w' r2 r3 r4 r5
        · rename_i hw
          rw [← g3] at hw
          have := hpend.no (by simpa using hw)
          exact behind undef R w (by rw [this]; exact undef_VR R) (.refl R) hj.rel (fun _ _ h => .inl h)
      · -- it is the one that writes
        have hMi' : M.testBit i = false := by simpa using hMi
        obtain ⟨r, rfl, hE⟩ : ∃ r, suf = i :: r ∧ isE (cs.getD i c0) = true := by
          rcases hsuf with rfl | ⟨j, r, rfl, hE⟩
          · have hw := hj.walk
            unfold walkOk at hw
            rw [List.all_eq_true] at hw
            have := hw i (List.mem_range.2 hin)
            rw [hMi'] at this
            simp at this
          · by_cases e : i = j
            · subst e; exact ⟨r, rfl, hE⟩
            · obtain ⟨-, -, -, w4, -⟩ := walk_cons hj.walk
              obtain ⟨e1, k1, k2⟩ := (w4 hE).1 i hin hMi' e
              have := hj.sub e1 (hip e1 k1)
              rw [k2] at this
              simp at this
        obtain ⟨w1, w2, w3, w4, w5⟩ := walk_cons hj.walk
        obtain ⟨-, w4, w4q⟩ := w4 hE
        have hreadM : ∀ t ∈ readsC (cs.getD i c0), val cs v f0 (fun i => M.testBit i) t = val cs v f0 (fun u => (ms.getD i 0).testBit u) t := fun t ht => val_read hR hin hj.mcl hMi' w3 hj.mlt ht
        have hfrM : ∀ t ∈ readsC (cs.getD i c0), VR R (val cs v f0 (fun i => M.testBit i) t) (a.tmps.getD t undef) := fun t ht => by rw [hreadM t ht]; exact hfr t ht
        have ancu : ∀ u x, M.testBit u = true → (ms.getD u 0).testBit x = true → x ≠ i := fun u x hu hx e => by
          have := hj.mcl u x (hj.mlt u hu) hu hx
          rw [e] at this
          simp only at this
          rw [hMi'] at this
          simp at this
        have hne : ∀ u, M.testBit u = true → u ≠ i := fun u hu e => by rw [e, hMi'] at hu; simp at hu
        have hbit : ∀ j, (fun i_1 => (M ||| 2 ^ i).testBit i_1) j = ((fun i => M.testBit i) j || j == i) := fun j => bit_add M i j
        have hopE : ∀ pr : List Operand, rdO (cs.getD i c0).op pr = pr := fun pr => by
          unfold isE at hE
          split at hE
          · rename_i h; rw [h]; rfl
          · simp at hE
        have go : ∀ (T : List Nat) (x x' : Value) (H' : Hp) (R' : AR) (w' : World), (∀ b ∈ T, ∀ k, H.blk? b = some k → k.live = true → R.rho b ≠ none) → VR R' x x' → Step R H R' H' w' → ((cs.getD i c0).keep = true → Keeps H H' ∨ KeepsP T pr (val cs v f0 fun i => M.testBit i) H H') → aops P pr (r.map fun i => cs.getD i c0) K (putF (val cs v f0 fun i => M.testBit i) (cs.getD i c0).dst x) H' →
            wpAny P .any ops Q fuel (l.setIfInBounds i true) (a.put ops[i].dst x') w' := by
          intro T x x' H' R' w' hT k1 k2 k3 k4
          have hput := val_put (v := v) (f0 := f0) hR hin hMi' hbit (x := x)
          rw [← hput] at k4
          have hput2 := val_put (v := v) (f0 := f0) hR hin hiu hlst (x := x)
          have hJ : J P N B ops cs ms f0 (M ||| 2 ^ i) r (lst (l.setIfInBounds i true)) (fun j => if j = i then x else v j) idf kf R' H' (a.put ops[i].dst x') w' := by
            refine ⟨k2.rel, w5, fun j hx => ?_, fun j hx => ?_, hdcl, hdpre, ?_, put_size.trans hj.size, fun t => ?_, put_defers.trans hj.def_, fun u hu hd => ?_, fun u hu he => ?_, Nat.le_trans hj.lo k2.next, fun u hu hd hs => ?_, fun u u' hu hu' hd hd' => ?_⟩
            · rw [hlst] at hx
              rw [bit_add]
              rcases Bool.or_eq_true_iff.1 hx with h | h
              · rw [hj.sub j h]; rfl
              · rw [h]; simp
            · rw [bit_add] at hx
              rcases Bool.or_eq_true_iff.1 hx with h | h
              · exact hj.mlt j h
              · rw [beq_iff_eq] at h; omega
            · intro u y hu hx hm
              simp only [bit_add] at hx ⊢
              by_cases e : u = i
              · subst e
                obtain ⟨e1, q1, q2⟩ := hR.mask u y hu hm
                have : M.testBit y = true := by
                  rcases q2 with rfl | q2
                  · exact w3 _ q1
                  · exact hj.mcl e1 y (hj.mlt _ (w3 _ q1)) (w3 _ q1) q2
                rw [this]; rfl
              · have h4 : M.testBit u = true := by simpa [e] using hx
                have h5 : M.testBit y = true := hj.mcl u y hu h4 hm
                rw [h5]; rfl
            · rw [put_get hj.size (fun s hs => s4 s (s2.trans hs)), hput2, g2, s2]
              cases hd : ops[i].dst with
              | none => simpa [putF] using (hj.fr t).mono k2.le
              | some s =>
                simp only [putF, Option.some.injEq]
                by_cases e : t = s
                · subst e; simpa using k1
                · rw [if_neg e, if_neg (fun k => e k.symm)]
                  exact (hj.fr t).mono k2.le
            · rw [hlst] at hd
              simp only [Bool.or_eq_false_iff, beq_eq_false_iff_ne] at hd
              have hu' : M.testBit u = true := by
                rw [bit_add] at hu
                simpa [hd.2] using hu
              have hpe := hj.pend u hu' hd.1
              have nomask : ¬ (ms.getD i 0).testBit u = true := fun this => by
                obtain ⟨e1, q1, q2⟩ := hR.mask i u hin this
                have : lst l u = true := by
                  rcases q2 with rfl | q2
                  · exact hip _ q1
                  · exact hj.dcl e1 u (hdlt _ (hip _ q1)) (hip _ q1) q2
                rw [hd.1] at this
                simp at this
              have hkeep : heapy (cs.getD u c0) = true → Keeps H H' ∨ (KeepsP T pr (val cs v f0 fun i => M.testBit i) H H' ∧ quiet cs ms u = true) := by
                intro hh
                cases hk : (cs.getD i c0).keep with
                | true =>
                  rcases k3 hk with q | q
                  · exact .inl q
                  · rcases w4q hk u (hj.mlt u hu') hu' hh with q' | q'
                    · exact absurd q' nomask
                    · exact .inr ⟨q, q'⟩
                | false => exact absurd (w4 hk u (hj.mlt u hu') hu' hh) nomask
              refine pend_v hpe (fun y hy => by rw [if_neg (ancu u y hu' hy)]) (by rw [if_neg hd.2]) rfl rfl (fun fo hfo hok => ?_) (fun b hb q1 q2 => ?_)
              · cases hh : heapy (cs.getD u c0) with
                | true =>
                  rcases hkeep hh with q | ⟨q, q'⟩
                  · exact ok_keep q hok
                  · exact ok_quiet hR hj.mcl (hj.mlt u hu') hu' hfo hh q' (fun n x ho => hp.1 u n x hu' ho) (fun x ho => hp.2 u x hu' ho) q hok
                | false => exact ok_any (by unfold heapy at hh ⊢; rw [hfo] at hh; exact hh) k2.old hok
              · have hh := hpe.heap (by rw [hb]; rfl)
                refine ⟨?_, ?_⟩
                · rcases hkeep hh with q | ⟨q, -⟩
                  · exact q.2 _ _ q1
                  · exact q.2.1 _ _ q1 (fun hm => hT _ hm _ q1 (hpe.lv b hb) q2)
                cases hrr : R'.rho (idf u) with
                | none => rfl
                | some e =>
                  rcases k2.new _ _ hrr with h | h
                  · rw [q2] at h; simp at h
                  · have := (Hp.blk_lt q1).2; omega
            · rw [hlst]
              rw [bit_add] at hu
              by_cases e : u = i
              · subst e; simp
              · rw [hj.es u (by simpa [e] using hu) he]; rfl
            · rw [hlst] at hd
              simp only [Bool.or_eq_false_iff, beq_eq_false_iff_ne] at hd
              rw [bit_add] at hu
              exact hj.low u (by simpa [hd.2] using hu) hd.1 hs
            · rw [hlst] at hd hd'
              simp only [Bool.or_eq_false_iff, beq_eq_false_iff_ne] at hd hd'
              rw [bit_add] at hu hu'
              exact hj.ids u u' (by simpa [hd.2] using hu) (by simpa [hd'.2] using hu') hd.1 hd'.1
          have hp2 := hp.add (j := i)
          rw [hopE] at hp2
          obtain ⟨M', suf', v', idf', kf', H2, pr', a0, a1, a2, a3, a4⟩ := adv hR r _ _ _ _ _ _ hp2 hJ k4
          exact ih _ M' suf' v' idf' kf' R' H2 _ w' pr' a0 hls' hcnt a1 a2 a3 (h1.trans k2.le) (a4.1.trans (k2.old.trans h2)) (fun b e hb => (k2.new b e hb).elim (h3 b e) (fun h => .inr (Nat.le_trans hj.lo h)))
        simp only [List.map_cons, aops] at hk
        rw [show wantC c.guard (val cs v f0 fun u => (ms.getD i 0).testBit u) = wantC (cs.getD i c0).guard (val cs v f0 fun i => M.testBit i) by rw [g3]; exact (want_reads (c := c) (fun t ht => (hreadM t (by unfold readsC at ht ⊢; rw [g1, g3]; exact ht)).symm))]
        split
        · rename_i hw
          rw [if_pos hw] at hk
          rcases compOp_spec s1 with ⟨fo, e1, e2⟩ | ⟨eo, e1, e2⟩
          · exfalso
            unfold isE at hE
            rw [g1, e1] at hE
            simp at hE
          · rw [g1, e1] at hk
            simp only at hk
            exact .inl (eo_sound e2 (fun x hx => evi _ x (by rw [e1]; exact hx) hfrM) hj.rel hk (fun x x' H' R' w' q1 q2 q3 => go _ x x' H' R' w' (touch_rho hj.rel (fun y hy => evi _ y (by rw [e1]; exact hy) hfrM)) q2 q3 q1.1 q1.2))
        · rename_i hw
          rw [if_neg hw] at hk
          exact go [] undef undef H R w (fun b hb => by cases hb) (undef_VR R) (.refl hj.rel) (fun _ => .inl (.refl H)) (by rw [hopE] at hk; exact hk)
end
end Go.Proofs.Ytalhipbbomagoaa.Ab
