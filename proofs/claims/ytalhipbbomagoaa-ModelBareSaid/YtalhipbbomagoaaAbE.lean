/- That the machine does what the operations tell that write nothing: all of them in one word. No statement of the set is proved in this text. -/
import Derived.Test.YtalhipbbomagoaaAbD
namespace Go.Proofs.Ytalhipbbomagoaa.Ab
open Go.RowKit
set_option linter.unusedVariables false
set_option linter.unusedSimpArgs false
theorem FOut.same {P : Program} {R : AR} {h : Hp} {w : World} {id : Nat} {s : Sem Next} {v v' : Value} {k : Option Blk} (hr : Rel R h w) (hs : s.run P w = .ok (.value v') w) (hv : VR R v v') : FOut P R h w id s v k :=
  ⟨v', w, R, hs, hv, .refl R, hr, fun _ _ h => .inl h⟩
theorem VR.cells {R : AR} {v v' : Value} (h : VR R v v') : v.cells.size = v'.cells.size ∧ ∀ (i : Nat) x x', v.cells[i]? = some x → v'.cells[i]? = some x' → VR R x x' := by
  by_cases hv : ∃ a, v = .agg a
  · obtain ⟨a, rfl⟩ := hv
    cases h with
    | agg _ a' ha ka => exact ⟨ha, ka⟩
  · have e : v.cells = #[v] := by cases v <;> first | rfl | exact absurd ⟨_, rfl⟩ hv
    have e' : v'.cells = #[v'] := by cases h <;> first | rfl | exact absurd ⟨_, rfl⟩ hv
    rw [e, e']
    refine ⟨rfl, fun i x x' h1 h2 => ?_⟩
    cases i with
    | zero => simp at h1 h2; subst h1 h2; exact h
    | succ i => simp at h1
theorem VR.one {R : AR} {v v' : Value} (h : VR R v v') : v'.oneCell' = v.oneCell' := by cases h <;> rfl
theorem VRs.one {R : AR} {l l' : List Value} (h : VRs R l l') (ho : l.all (·.oneCell') = true) : l'.all (·.oneCell') = true := by
  rw [List.all_eq_true] at ho ⊢
  intro x hx
  obtain ⟨i, hi, rfl⟩ := List.getElem_of_mem hx
  have h1 := h.1
  have := h.2 i (l[i]'(by omega)) l'[i] (by simp) (by simp)
  rw [this.one]
  exact ho _ (List.getElem_mem _)
theorem plain1 {v : Value} (h : plainC v = true) : v.oneCell' = true := by cases v <;> first | rfl | simp [plainC] at h
theorem plain_one {l : List Value} (h : ∀ x ∈ l, plainC x = true) : l.all (·.oneCell') = true := List.all_eq_true.2 fun x hx => plain1 (h x hx)
theorem zeros_one {z : Value} (h : z.cells.all plainC = true) (h0 : z.cells.size ≠ 0) {es n : Nat} : (zerosOf es z.cells.toList n).all (·.oneCell') = true := by
  rw [List.all_eq_true]
  intro x hx
  obtain ⟨i, -, rfl⟩ := List.mem_map.1 hx
  have hm : i % z.cells.toList.length < z.cells.size := Nat.mod_lt _ (by simp; omega)
  have : z.cells.toList.getD (i % z.cells.toList.length) undef = z.cells[i % z.cells.toList.length] := by simp only [List.getD]; rw [List.getElem?_eq_getElem (by simpa using hm)]; simp
  rw [this]
  exact plain1 (Array.all_eq_true_iff_forall_mem.1 h _ (Array.getElem_mem _))
theorem flat_one {es : Nat} {l F : List Value} (h : flatOf es l = some F) : F.all (·.oneCell') = true := by
  induction l generalizing F with
  | nil => simp [flatOf] at h; subst h; rfl
  | cons v l ih =>
    unfold flatOf at h
    split at h
    · rename_i hv
      obtain ⟨G, hG, rfl⟩ := Option.map_eq_some_iff.1 h
      rw [List.all_append, hv.2, ih hG]
      rfl
    · simp at h
theorem bytes_one (s : ByteArray) : (bytesOf s).all (·.oneCell') = true := by
  rw [List.all_eq_true]
  intro x hx
  obtain ⟨b, -, rfl⟩ := List.mem_map.1 hx
  rfl
/-- A block is made. -/
theorem made {P : Program} {R : AR} {h : Hp} {w : World} (hr : Rel R h w) {id : Nat} {k : Blk} (hk : h.blk? id = some k) (hl : k.live = true) (hn : R.rho id = none) {c : Array Value} {t : TypeId} {fz : Nat × Nat} {cc : Nat} {w' : World}
    (hh : w'.heap = w.heap.push (.cells c t fz)) (ho : w'.os = w.os) (ht : w'.tape = w.tape) (hp : w'.output = w.output)
    (hfz : FzOk c.size fz) (hroom : cc * k.es ≤ c.size) (hlen : k.cells.length ≤ c.size) (hone : k.cells.all (·.oneCell') = true) (hv : ∀ (o : Nat) v v', k.cells[o]? = some v → c[o]? = some v' → VR R v v')
    {s : Sem Next} {v v' : Value} (hs : s.run P w = .ok (.value v') w') (hvr : VR (R.add id (w.heap.size, c.size, cc)) v v') : FOut P R h w id s v (some k) := by
  obtain ⟨hle, hrel⟩ := hr.alloc hk hl hn hh ho ht hp hfz hroom hlen hone hv
  refine ⟨v', w', _, hs, hvr, hle, hrel, fun b e hb => ?_⟩
  have hb2 : (if b = id then some (w.heap.size, c.size, cc) else R.rho b) = some e := hb
  by_cases e1 : b = id
  · exact .inr ⟨rfl, e1⟩
  · rw [if_neg e1] at hb2
    exact .inl hb2
theorem add_at (R : AR) (id : Nat) (e : Nat × Nat × Nat) : (R.add id e).rho id = some e := by
  show (if id = id then _ else _) = _
  rw [if_pos rfl]
theorem ptr_made {R : AR} {h : Hp} {w : World} (hr : Rel R h w) {id : Nat} {k : Blk} (hk : h.blk? id = some k) (cb cs cc : Nat) : VR (R.add id (cb, cs, cc)) (.pointer (some ⟨id, 0, none⟩)) (.pointer (some ⟨cb, 0, none⟩)) :=
  .ptr _ _ (.new _ _ _ _ _ (by show R.base ≤ id; rw [hr.base]; exact (Hp.blk_lt hk).1) (add_at _ _ _))
theorem sl_made {R : AR} {h : Hp} {w : World} (hr : Rel R h w) {id : Nat} {k : Blk} (hk : h.blk? id = some k) (cb cs cc n c c' : Nat) (h1 : n ≤ c') (h2 : c = n → c' = n) (h3 : c = n + 1 → c' = cc) : VR (R.add id (cb, cs, cc)) (.slice (some ⟨id, 0, none⟩) n c) (.slice (some ⟨cb, 0, none⟩) n c') :=
  .sl _ _ _ _ _ (.new _ _ _ _ _ _ _ _ (by show R.base ≤ id; rw [hr.base]; exact (Hp.blk_lt hk).1) (add_at _ _ _) h1 h2 (fun e _ => h3 e))
theorem scal_VR {R : AR} {a : Array Value} {v' : Value} (ha : a.all (fun | .int _ _ | .bool _ | .string _ => true | _ => false) = true) (h : VR R (.agg a) v') : v' = .agg a := by
  cases h with
  | agg _ a' hs ka =>
    congr 1
    apply Array.ext_getElem?
    intro i
    cases h1 : a[i]? with
    | none =>
      rw [Array.getElem?_eq_none_iff] at h1
      rw [Array.getElem?_eq_none (by omega)]
    | some x =>
      have hlt := (Array.getElem?_eq_some_iff.1 h1).1
      have h2 : a'[i]? = some a'[i] := by simp [show i < a'.size by omega]
      have := ka i _ _ h1 h2
      have hx := Array.all_eq_true_iff_forall_mem.1 ha _ (Array.mem_of_getElem? h1)
      rw [h2]
      generalize a'[i] = y at *
      cases this <;> first | rfl | simp at hx
section
variable {P : Program} {R : AR} {h : Hp} {w : World} {id : Nat} {ev ev' : Operand → Value} {v : Value} {k : Option Blk}
theorem lookup_of {α : Type} {l l' : List α} {f g : α → Value} (hf : ∀ x ∈ l, VR R (f x) (g x)) : VRs R (l.map f) (l.map g) :=
  ⟨by simp, fun i a b h1 h2 => by
    simp only [List.getElem?_map, Option.map_eq_some_iff] at h1 h2
    obtain ⟨x, hx, rfl⟩ := h1
    obtain ⟨y, hy, rfl⟩ := h2
    rw [hx] at hy
    obtain rfl := Option.some.inj hy
    exact hf x (List.mem_of_getElem? hx)⟩
theorem arr_of {l : List Operand} (hf : ∀ x ∈ l, VR R (ev x) (ev' x)) (i : Nat) (a b : Value) (h1 : ((l.map ev).toArray)[i]? = some a) (h2 : ((l.map ev').toArray)[i]? = some b) : VR R a b :=
  (lookup_of (l' := l) hf).2 i a b (by simpa using h1) (by simpa using h2)
theorem some_inj_pair {α β : Type} {a c : α} {b d : β} (h : some (a, b) = some (c, d)) : a = c ∧ b = d := by simpa using h
theorem map_pair {α β : Type} {o : Option α} {b d : β} {c : α} (h : o.map (·, b) = some (c, d)) : o = some c ∧ b = d := by
  cases o <;> simp at h
  exact ⟨by rw [h.1], h.2⟩
theorem mem1 {α : Type} {x : α} {Q : α → Prop} (h : ∀ y ∈ [x], Q y) : Q x := h x (by simp)
theorem mem2 {α : Type} {x y : α} {Q : α → Prop} (h : ∀ z ∈ [x, y], Q z) : Q x ∧ Q y := ⟨h x (by simp), h y (by simp)⟩
theorem b2s_run {P : Program} {w : World} {l : List Value} {s : List UInt8} (h : strOf l = some s) {a : Addr} {n c : Nat} (hl : (loadCells a n).run P w = .ok l.toArray w) : (Conv.bytesToString (.slice (some a) n c)).run P w = .ok (.string ⟨s.toArray⟩) w := by
  simp only [Conv.bytesToString, Sem.run_bind, hl, Result.andThen_ok, List.forIn_toArray]
  rw [b2s_loop P w _ (fun n r => rfl) l s _ h, foldl_push]
  simp [ByteArray.empty, ByteArray.emptyWithCapacity]
  rfl
theorem s2b_run {P : Program} {w : World} {e : TypeId} {s : ByteArray} : ∃ (cap : Nat) (c : Array Value) (w' : World), s.size ≤ cap ∧ c.size = cap ∧ (∀ (o : Nat) v v', (bytesOf s)[o]? = some v → c[o]? = some v' → v' = v) ∧ (Conv.stringToBytes e s).run P w = .ok (.slice (some ⟨w.heap.size, 0, none⟩) s.size cap) w' ∧
    w'.heap = w.heap.push (.cells c e (cap, cap + 1)) ∧ w'.os = w.os ∧ w'.tape = w.tape ∧ w'.output = w.output := by
  obtain ⟨cap, hcap, hch⟩ : ∃ cap, s.size ≤ cap ∧ (choose (.appendCap s.size 0 e)).run P w = .ok cap { w with drawn := w.drawn + 1 } :=
    ⟨(Question.appendCap s.size 0 e).cut (w.tape w.drawn (.appendCap s.size 0 e)), Nat.le_add_right _ _, by rw [run_choose]; rfl⟩
  let el : Array Value := s.data.map fun b => Value.int .u8 b.toNat
  have hel : el.size = s.size := by show (Array.map _ s.data).size = s.data.size; rw [Array.size_map]
  let c : Array Value := el ++ Array.replicate (cap - s.size) (Value.int .u8 0)
  have hc : c.size = cap := by
    show (el ++ Array.replicate (cap - s.size) (Value.int .u8 0)).size = cap
    rw [Array.size_append, hel, Array.size_replicate]
    omega
  refine ⟨cap, c, { w with drawn := w.drawn + 1, heap := w.heap.push (.cells c e (cap, cap + 1)) }, hcap, hc, ?_, ?_, rfl, rfl, rfl, rfl⟩
  · intro o v v' h1 h2
    have hlt := (List.getElem?_eq_some_iff.1 h1).1
    have hb : (bytesOf s).length = el.size := by simp [bytesOf, el]
    have h3 : c[o]? = el[o]? := by
      simp only [c]
      rw [Array.getElem?_append, if_pos (by omega)]
    have h4 : el[o]? = (bytesOf s)[o]? := by simp [el, bytesOf]
    rw [h3, h4, h1] at h2
    exact (Option.some.inj h2).symm
  · simp only [Conv.stringToBytes, Sem.run_bind, hch, Result.andThen_ok, newRow, run_newObj, Sem.run_pure, markStringish, run_shape]
    have hsh : ({ w with drawn := w.drawn + 1, heap := w.heap.push (.cells c e) } : World).shape? w.heap.size = some (e, cap) := by
      simp [World.shape?, hc]
    have hc' : c = Array.map (fun b => Value.int IntKind.u8 ↑(UInt8.toNat b)) s.data ++ Array.replicate (cap - s.size) (Value.int IntKind.u8 0) := rfl
    rw [← hc', hsh]
    simp only [Sem.run_bind, run_freeze, Result.andThen_ok, Sem.run_pure]
    congr 1
    simp only [World.freeze]
    rw [if_neg (by omega)]
    congr 1
    apply Array.ext_getElem?
    intro i
    rw [Array.getElem?_modify]
    by_cases hi : w.heap.size = i
    · subst hi
      simp
    · simp [hi]
      rw [Array.getElem?_push, Array.getElem?_push, if_neg (fun e => hi e.symm), if_neg (fun e => hi e.symm)]
theorem fold_set (off : Nat) : ∀ (l : List Value) (j : Nat) (cs : Array Value), off + j + l.length ≤ cs.size →
    ((l.zipIdx j).foldl (fun cs p => cs.setIfInBounds (off + p.2) p.1) cs).size = cs.size ∧
    ∀ i, ((l.zipIdx j).foldl (fun cs p => cs.setIfInBounds (off + p.2) p.1) cs)[i]? = if off + j ≤ i ∧ i < off + j + l.length then l[i - (off + j)]? else cs[i]?
  | [], j, cs, h => ⟨rfl, fun i => by rw [if_neg (by simp)]; rfl⟩
  | v :: l, j, cs, h => by
    simp only [List.length_cons] at h
    have ih := fold_set off l (j + 1) (cs.setIfInBounds (off + j) v) (by simp; omega)
    simp only [List.zipIdx_cons, List.foldl_cons]
    refine ⟨by rw [ih.1]; simp, fun i => ?_⟩
    rw [ih.2 i]
    simp only [List.length_cons]
    by_cases h1 : i = off + j
    · subst h1
      rw [if_neg (by omega), if_pos (by omega), Nat.sub_self]
      simp [show off + j < cs.size by omega]
    · by_cases h2 : off + j ≤ i ∧ i < off + j + (l.length + 1)
      · rw [if_pos (by omega), if_pos h2]
        rw [show i - (off + j) = (i - (off + (j + 1))) + 1 by omega]
        rfl
      · rw [if_neg (by omega), if_neg h2, Array.getElem?_setIfInBounds, if_neg (by omega)]
theorem fill_all (size : Nat) : ∀ (vs : List Value) (F : List Value) (st : Nat) (cs : Array Value), flatOf size vs = some F → (st + vs.length) * size ≤ cs.size →
    ∃ cs', Instr.fill (fun i => some (i * size, size)) cs ((List.range' st vs.length).zip vs) = some cs' ∧ cs'.size = cs.size ∧ (∀ i, i < st * size → cs'[i]? = cs[i]?) ∧ F.length = vs.length * size ∧ ∀ i, i < F.length → cs'[st * size + i]? = F[i]?
  | [], F, st, cs, h, hs => by
    simp [flatOf] at h
    subst h
    exact ⟨cs, rfl, rfl, fun _ _ => rfl, by simp, fun i hi => by simp at hi⟩
  | v :: vs, F, st, cs, h, hs => by
    unfold flatOf at h
    split at h
    · rename_i hv
      obtain ⟨hv, -⟩ := hv
      obtain ⟨G, hG, rfl⟩ := Option.map_eq_some_iff.1 h
      rw [List.length_cons] at hs
      have hm : (st + (vs.length + 1)) * size = st * size + size + vs.length * size := by
        rw [Nat.add_mul, Nat.add_mul]; omega
      have hm2 : (st + 1 + vs.length) * size = st * size + size + vs.length * size := by
        rw [Nat.add_mul, Nat.add_mul]; omega
      have hm3 : (st + 1) * size = st * size + size := by rw [Nat.add_mul]; omega
      obtain ⟨f1, f2⟩ := fold_set (st * size) v.cells.toList 0 cs (by simp [hv]; omega)
      obtain ⟨cs', g1, g2, g3, g4, g5⟩ := fill_all size vs G (st + 1) (v.cells.toList.zipIdx.foldl (fun cs p => cs.setIfInBounds (st * size + p.2) p.1) cs) hG (by rw [f1]; omega)
      refine ⟨cs', ?_, by rw [g2, f1], fun i hi => ?_, ?_, fun i hi => ?_⟩
      · rw [List.length_cons, List.range'_succ, List.zip_cons_cons]
        unfold Instr.fill
        simp only
        rw [if_neg (by simp [hv]; omega)]
        rw [← g1]
        congr 1
        rw [← Array.foldl_toList, Array.toList_zipIdx]
      · rw [g3 i (by omega), f2 i, if_neg (by omega)]
      · simp [g4, hv]
        rw [Nat.add_mul]
        try omega
      · rw [List.length_append, Array.length_toList, hv] at hi
        by_cases c : i < size
        · rw [g3 _ (by omega), f2, if_pos (by simp [hv]; omega), List.getElem?_append, if_pos (by simp [hv]; omega)]
          congr 1
          omega
        · rw [List.getElem?_append, if_neg (by simp [hv]; omega)]
          have := g5 (i - size) (by omega)
          rw [hm3, show st * size + size + (i - size) = st * size + i by omega] at this
          rw [this]
          simp [hv]
    · simp at h
theorem flatOf_VR {R : AR} {size : Nat} {l l' : List Value} (h : VRs R l l') {F : List Value} (hF : flatOf size l = some F) : ∃ F', flatOf size l' = some F' ∧ VRs R F F' := by
  induction l generalizing l' F with
  | nil =>
    cases l' with
    | nil => exact ⟨F, hF, by simp [flatOf] at hF; subst hF; exact .nil R⟩
    | cons _ _ => simp [VRs] at h
  | cons v l ih =>
    obtain ⟨v', t', rfl, h1, h2⟩ := h.uncons
    unfold flatOf at hF
    split at hF
    · rename_i hv
      obtain ⟨G, hG, rfl⟩ := Option.map_eq_some_iff.1 hF
      obtain ⟨G', hG', hv'⟩ := ih h2 hG
      obtain ⟨c1, c2⟩ := h1.cells
      obtain ⟨hv, hvo⟩ := hv
      refine ⟨v'.cells.toList ++ G', ?_, VRs.append ⟨by simpa using c1, fun i x x' a b => c2 i x x' (by simpa using a) (by simpa using b)⟩ hv'⟩
      unfold flatOf
      rw [if_pos ⟨by omega, VRs.one ⟨by simpa using c1, fun i x x' a b => c2 i x x' (by simpa using a) (by simpa using b)⟩ hvo⟩, hG']
      rfl
    · simp at hF
theorem fold_put (l : List Value) : ∀ (off j : Nat) (cs : List Value), ((l.zipIdx j).foldl (fun (cs : Array Value) p => cs.setIfInBounds (off + p.2) p.1) cs.toArray) = (putAt cs (off + j) l).toArray := by
  induction l with
  | nil => intro off j cs; rfl
  | cons v l ih =>
    intro off j cs
    simp only [List.zipIdx_cons, List.foldl_cons, putAt, List.setIfInBounds_toArray]
    rw [ih]
    rfl
theorem putAt_len (vs : List Value) : ∀ (cs : List Value) (off : Nat), (putAt cs off vs).length = cs.length := by
  induction vs with
  | nil => intro cs off; rfl
  | cons v vs ih => intro cs off; rw [putAt, ih]; simp
theorem putAt_VRs {R : AR} : ∀ (vs vs' : List Value) (cs cs' : List Value) (off : Nat), VRs R vs vs' → VRs R cs cs' → VRs R (putAt cs off vs) (putAt cs' off vs')
  | [], vs', cs, cs', off, hv, hc => by
    cases vs' with
    | nil => exact hc
    | cons _ _ => simp [VRs] at hv
  | v :: vs, vs', cs, cs', off, hv, hc => by
    obtain ⟨v', t', rfl, h1, h2⟩ := hv.uncons
    refine putAt_VRs vs t' _ _ (off + 1) h2 ⟨by simp [hc.1], fun o x x' ha hb => ?_⟩
    rw [List.getElem?_set] at ha hb
    by_cases e : off = o
    · subst e
      rw [if_pos rfl] at ha hb
      split at ha
      · split at hb
        · simp at ha hb
          subst ha hb
          exact h1
        · simp at hb
      · simp at ha
    · rw [if_neg e] at ha hb
      exact hc.2 o x x' ha hb
theorem fillL_run {R : AR} (place : Nat → Option (Nat × Nat)) : ∀ (is : List Nat) (ps : List (Nat × Nat)) (vs vs' : List Value) (cs cs' F : List Value), (∀ (k i : Nat) p, is[k]? = some i → ps[k]? = some p → place i = some p) → is.length = ps.length → VRs R vs vs' → VRs R cs cs' → fillL cs ps vs = some F →
    ∃ F', Instr.fill place cs'.toArray (is.zip vs') = some F'.toArray ∧ VRs R F F'
  | is, [], vs, vs', cs, cs', F, hp, hl, hv, hc, hF => by
    cases vs with
    | nil =>
      simp [fillL] at hF
      subst hF
      have : is = [] := List.eq_nil_of_length_eq_zero hl
      subst this
      exact ⟨cs', rfl, hc⟩
    | cons _ _ => simp [fillL] at hF
  | is, (off, size) :: ps, vs, vs', cs, cs', F, hp, hl, hv, hc, hF => by
    cases vs with
    | nil => simp [fillL] at hF
    | cons v vs =>
      obtain ⟨v', t', rfl, h1, h2⟩ := hv.uncons
      cases is with
      | nil => simp at hl
      | cons i is =>
        unfold fillL at hF
        split at hF
        · rename_i hcond
          obtain ⟨c1, c2⟩ := h1.cells
          have hvv : VRs R v.cells.toList v'.cells.toList := ⟨by simpa using c1, fun i x x' a b => c2 i x x' (by simpa using a) (by simpa using b)⟩
          obtain ⟨F', f1, f2⟩ := fillL_run place is ps vs t' _ (putAt cs' off v'.cells.toList) F (fun k i p h3 h4 => hp (k + 1) i p (by simpa using h3) (by simpa using h4)) (by simpa using hl) h2 (putAt_VRs _ _ _ _ off hvv hc) hF
          refine ⟨F', ?_, f2⟩
          have hpl : place i = some (off, size) := hp 0 i (off, size) rfl rfl
          rw [List.zip_cons_cons]
          unfold Instr.fill
          simp only [hpl]
          have hcl := hc.1
          rw [if_neg (by simp; omega)]
          rw [← f1]
          congr 1
          rw [← Array.foldl_toList, Array.toList_zipIdx]
          exact fold_put _ off 0 cs'
        · simp at hF
theorem places_run {P : Program} (fs : Array Field) (h : (fs.all fun f => (P.info? f.type).isSome) = true) (w : World) : (fs.mapM fun f => (do pure (f.offset, ← sizeOf f.type) : Sem (Nat × Nat))).run P w = .ok (fs.map fun f => (f.offset, ((P.info? f.type).map (·.size)).getD 0)) w := by
  have key : ∀ l : List Field, (∀ f ∈ l, (P.info? f.type).isSome = true) → (l.mapM fun f => (do pure (f.offset, ← sizeOf f.type) : Sem (Nat × Nat))).run P w = .ok (l.map fun f => (f.offset, ((P.info? f.type).map (·.size)).getD 0)) w := by
    intro l
    induction l with
    | nil => intro _; rfl
    | cons f l ih =>
      intro hl
      obtain ⟨inf, hi⟩ := Option.isSome_iff_exists.1 (hl f (by simp))
      rw [List.mapM_cons]
      simp only [Sem.run_bind, size_run hi, Result.andThen_ok, Sem.run_pure]
      rw [ih (fun g hg => hl g (List.mem_cons_of_mem _ hg))]
      simp [hi]
  rw [Array.mapM_eq_mapM_toList]
  have := key fs.toList (fun f hf => Array.all_eq_true_iff_forall_mem.1 h f (by simpa using hf))
  simp only [Sem.run_map, this, Result.andThen_ok]
  congr 1
  apply Array.ext'
  simp
/-- what ends alike: an operation whose value is told, and that makes no block -/
theorem fo_sound {o : Oper} {fo : FOp} (hc : compF P o = some fo) (hev : ∀ x ∈ fo.reads, VR R (ev x) (ev' x)) (hr : Rel R h w) (hok : fo.ok P ev h id v k) (hid : ∀ b, k = some b → h.blk? id = some b ∧ R.rho id = none) : FOut P R h w id (execOp ev' o) v k := by
  obtain ⟨dst, op, ty, pos, aft, grd⟩ := o
  cases op with
  | move x =>
    obtain rfl := Option.some.inj hc
    rcases hok with hrun | ⟨_, _, _, _, _, _, _, he, _⟩
    · obtain ⟨rfl, rfl⟩ := some_inj_pair hrun
      exact FOut.same hr rfl (mem1 (Q := fun y => VR R (ev y) (ev' y)) hev)
    · simp at he
  | assign x =>
    obtain rfl := Option.some.inj hc
    rcases hok with hrun | ⟨_, _, _, _, _, _, _, he, _⟩
    · obtain ⟨rfl, rfl⟩ := some_inj_pair hrun
      exact FOut.same hr rfl (mem1 (Q := fun y => VR R (ev y) (ev' y)) hev)
    · simp at he
  | binOp op t x y yt =>
    have fin : ∀ {v' : Value}, (do eqGuard op t x y (ev' x) (ev' y); binOp op t (ev' x) (ev' y) : Sem Value).run P w = .ok v' w → VR R v v' → FOut P R h w id (execOp ev' ⟨dst, .binOp op t x y yt, ty, pos, aft, grd⟩) v k := fun h1 h2 => FSound.fin (FSound.same hr h1 h2)
    simp only [compF] at hc
    split at hc
    · obtain rfl := Option.some.inj hc
      rcases hok with hrun | ⟨_, _, _, _, _, _, _, he, _⟩
      · obtain ⟨h1, rfl⟩ := map_pair hrun
        obtain ⟨hx, hy⟩ := mem2 (Q := fun y => VR R (ev y) (ev' y)) hev
        obtain ⟨h2, h3⟩ := abin_run h1 hx hy t x y w
        exact fin h2 h3
      · simp at he
    · obtain rfl := Option.some.inj hc
      rcases hok with hrun | ⟨_, _, _, _, _, _, _, he, _⟩
      · obtain ⟨h1, rfl⟩ := map_pair hrun
        obtain ⟨hx, hy⟩ := mem2 (Q := fun y => VR R (ev y) (ev' y)) hev
        obtain ⟨h2, h3⟩ := abin_run h1 hx hy t x y w
        exact fin h2 h3
      · simp at he
    · rename_i hu
      obtain ⟨ne, hn, rfl⟩ := Option.map_eq_some_iff.1 hc
      rcases hok with hrun | ⟨_, _, _, _, _, _, _, he, _⟩
      · obtain ⟨hx, hy⟩ := mem2 (Q := fun y => VR R (ev y) (ev' y)) hev
        simp only [FOp.run] at hrun
        split at hrun
        · rename_i a b ha hb
          obtain ⟨rfl, rfl⟩ := some_inj_pair hrun
          rw [ha] at hx
          rw [hb] at hy
          generalize ev' x = x' at *
          generalize ev' y = y' at *
          cases hx
          cases hy
          refine fin ?_ (.bool _)
          rw [eqGuard_if _ _ _ _ _ _ (by simp) (by simp)]
          refine eql_run hn (.inr (.inr (.inl ⟨_, rfl⟩))) ?_
          exact eq_bb (und_run hu w) 9999 _ _
        · simp at hrun
      · simp at he
    · rename_i ms hu
      obtain ⟨ne, hn, rfl⟩ := Option.map_eq_some_iff.1 hc
      rcases hok with hrun | ⟨_, _, _, _, _, _, _, he, _⟩
      · obtain ⟨h1, rfl⟩ := map_pair hrun
        obtain ⟨hx, hy⟩ := mem2 (Q := fun y => VR R (ev y) (ev' y)) hev
        obtain ⟨h2, h3⟩ := aeqI_run hu hn h1 hx hy w
        exact fin h2 h3
      · simp at he
    · rename_i e hu
      obtain ⟨ne, hn, rfl⟩ := Option.map_eq_some_iff.1 hc
      rcases hok with hrun | ⟨_, _, _, _, _, _, _, he, _⟩
      · obtain ⟨h1, rfl⟩ := map_pair hrun
        obtain ⟨hx, hy⟩ := mem2 (Q := fun y => VR R (ev y) (ev' y)) hev
        obtain ⟨h2, h3⟩ := aeqN_run hu (.inl ⟨_, rfl, rfl⟩) hn h1 hx hy w
        exact fin h2 h3
      · simp at he
    · rename_i e hu
      obtain ⟨ne, hn, rfl⟩ := Option.map_eq_some_iff.1 hc
      rcases hok with hrun | ⟨_, _, _, _, _, _, _, he, _⟩
      · obtain ⟨h1, rfl⟩ := map_pair hrun
        obtain ⟨hx, hy⟩ := mem2 (Q := fun y => VR R (ev y) (ev' y)) hev
        obtain ⟨h2, h3⟩ := aeqN_run hu (.inr (.inl ⟨_, rfl, rfl⟩)) hn h1 hx hy w
        exact fin h2 h3
      · simp at he
    · rename_i p q r hu
      obtain ⟨ne, hn, rfl⟩ := Option.map_eq_some_iff.1 hc
      rcases hok with hrun | ⟨_, _, _, _, _, _, _, he, _⟩
      · obtain ⟨h1, rfl⟩ := map_pair hrun
        obtain ⟨hx, hy⟩ := mem2 (Q := fun y => VR R (ev y) (ev' y)) hev
        obtain ⟨h2, h3⟩ := aeqN_run hu (.inr (.inr ⟨_, _, _, rfl, rfl⟩)) hn h1 hx hy w
        exact fin h2 h3
      · simp at he
    · rename_i fs hu
      split at hc
      · simp at hc
      · rename_i hgt
        obtain ⟨ne, hn, rfl⟩ := Option.map_eq_some_iff.1 hc
        rcases hok with hrun | ⟨ne', t', x', y', a, b, r, he, rfl, ha, hb, hs, hrun, rfl⟩
        · simp [FOp.run] at hrun
        · simp only [FOp.eqS.injEq] at he
          obtain ⟨rfl, rfl, rfl, rfl⟩ := he
          obtain ⟨hx, hy⟩ := mem2 (Q := fun y => VR R (ev y) (ev' y)) hev
          rw [ha] at hx
          rw [hb] at hy
          rw [Array.all_append, Bool.and_eq_true] at hs
          have e1 := scal_VR hs.1 hx
          have e2 := scal_VR hs.2 hy
          refine fin (v' := .bool (nb ne r)) ?_ (.bool _)
          rw [e1, e2]
          have hg : (eqGuard op t x y (.agg a) (.agg b)).run P w = .ok () w := by
            cases op <;> simp [neq?] at hn <;> simp [eqGuard, hgt]
          rw [Sem.run_bind, hg]
          exact eql_run hn (.inr (.inr (.inr (.inr (.inr (.inr ⟨_, rfl⟩)))))) (hrun w)
    · simp at hc
  | unOp op t x =>
    obtain rfl := Option.some.inj hc
    rcases hok with hrun | ⟨_, _, _, _, _, _, _, he, _⟩
    · obtain ⟨h1, rfl⟩ := map_pair hrun
      have hx := mem1 (Q := fun y => VR R (ev y) (ev' y)) hev
      unfold aun at h1
      split at h1
      · rename_i kk n hv
        rw [hv] at hx
        have hp := semPure_run h1 P w
        refine FSound.fin (FSound.same (v' := v) hr ?_ ?_)
        · generalize ev' x = x' at *
          cases hx
          exact hp
        · have : ∃ k n, v = .int k n := by
            unfold semPure at h1
            split at h1
            · rename_i u hu
              obtain rfl := Option.some.inj h1
              cases op <;> simp only [Op.unary, Op.intArith, Op.intBits, stuck] at hu <;> first | (simp only [pure, Sem.pure.injEq, reduceCtorEq] at hu; subst hu; exact ⟨_, _, rfl⟩) | (cases hu; done)
            · simp at h1
          obtain ⟨_, _, rfl⟩ := this
          constructor
      · rename_i b hv
        rw [hv] at hx
        have hp := semPure_run h1 P w
        refine FSound.fin (FSound.same (v' := v) hr ?_ ?_)
        · generalize ev' x = x' at *
          cases hx
          exact hp
        · have : ∃ b, v = .bool b := by
            unfold semPure at h1
            split at h1
            · rename_i u hu
              obtain rfl := Option.some.inj h1
              cases op <;> simp only [Op.unary, stuck] at hu <;> first | (simp only [pure, Sem.pure.injEq, reduceCtorEq] at hu; subst hu; exact ⟨_, rfl⟩) | (cases hu; done)
            · simp at h1
          obtain ⟨_, rfl⟩ := this
          constructor
      · simp at h1
    · simp at he
  | makeInterface t x =>
    simp only [compF] at hc
    split at hc
    · simp at hc
    · rename_i d h1 hu
      obtain rfl := Option.some.inj hc
      rcases hok with hrun | ⟨_, _, _, _, _, _, _, he, _⟩
      · obtain ⟨rfl, rfl⟩ := some_inj_pair hrun
        have hx := mem1 (Q := fun y => VR R (ev y) (ev' y)) hev
        refine FSound.fin (FSound.same (v' := .iface t (ev' x)) hr ?_ (.iface _ _ _ hx))
        unfold Instr.makeInterface
        rw [Sem.run_bind, und_run hu]
        cases d <;> first | rfl | exact absurd rfl (h1 _)
      · simp at he
    · simp at hc
  | makeFunc fn f c =>
    obtain rfl := Option.some.inj hc
    rcases hok with hrun | ⟨_, _, _, _, _, _, _, he, _⟩
    · obtain ⟨rfl, rfl⟩ := some_inj_pair hrun
      have hf : ∀ x ∈ f.toList, VR R (ev x) (ev' x) := fun x hx => hev x (by simp only [FOp.reads]; exact List.mem_append_left _ hx)
      have hg : ∀ x ∈ c.toList, VR R (ev x) (ev' x) := fun x hx => hev x (by simp only [FOp.reads]; exact List.mem_append_right _ hx)
      have e1 : f.map ev' = (f.toList.map ev').toArray := by apply Array.ext'; simp
      have e2 : c.map ev' = (c.toList.map ev').toArray := by apply Array.ext'; simp
      refine FSound.fin (FSound.same (v' := .func fn (f.map ev') (c.map ev')) hr rfl ?_)
      rw [e1, e2]
      exact .func _ _ _ _ _ (by simp) (by simp) (arr_of hf) (arr_of hg)
    · simp at he
  | extract x i =>
    obtain rfl := Option.some.inj hc
    rcases hok with hrun | ⟨_, _, _, _, _, _, _, he, _⟩
    · have hx := mem1 (Q := fun y => VR R (ev y) (ev' y)) hev
      simp only [FOp.run] at hrun
      split at hrun
      · rename_i vs hv
        obtain ⟨h1, rfl⟩ := map_pair hrun
        rw [hv] at hx
        have hs : ∃ v', (Instr.extract (ev' x) i).run P w = .ok v' w ∧ VR R v v' := by
          generalize ev' x = x' at *
          cases hx with
          | tuple _ a' ha ka =>
            have hlt := (Array.getElem?_eq_some_iff.1 h1).1
            have h2 : a'[i]? = some a'[i] := by simp [show i < a'.size by omega]
            exact ⟨a'[i], by simp [Instr.extract, h2], ka i _ _ h1 h2⟩
        obtain ⟨v', h2, h3⟩ := hs
        exact FSound.fin (FSound.same hr h2 h3)
      · simp at hrun
    · simp at he
  | field t x i =>
    simp only [compF] at hc
    split at hc
    · rename_i fs hu
      split at hc
      · rename_i f hf
        split at hc
        · rename_i inf ha hi
          obtain rfl := Option.some.inj hc
          rcases hok with hrun | ⟨_, _, _, _, _, _, _, he, _⟩
          · have hx := mem1 (Q := fun y => VR R (ev y) (ev' y)) hev
            simp only [FOp.run] at hrun
            split at hrun
            · rename_i cs hv
              obtain ⟨h1, rfl⟩ := map_pair hrun
              obtain rfl := Option.some.inj h1
              rw [hv] at hx
              have hs : ∃ v', (Instr.field t (ev' x) i).run P w = .ok v' w ∧ VR R (.agg (cs.extract f.offset (f.offset + inf.size))) v' := by
                generalize ev' x = x' at *
                cases hx with
                | agg _ a' hs ka =>
                  refine ⟨.agg (a'.extract f.offset (f.offset + inf.size)), ?_, ?_⟩
                  · simp [Instr.field, und_run hu, hf, asAgg, part, agg_run ha, size_run hi]
                  · refine .agg _ _ (by simp [hs]) (fun j y y' h1 h2 => ?_)
                    simp only [Array.getElem?_extract] at h1 h2
                    rw [hs] at h1
                    split at h1
                    · rename_i hj
                      rw [if_pos hj] at h2
                      exact ka _ _ _ h1 h2
                    · simp at h1
              obtain ⟨v', h2, h3⟩ := hs
              exact FSound.fin (FSound.same hr h2 h3)
            · simp at hrun
          · simp at he
        · rename_i inf ha hi
          obtain rfl := Option.some.inj hc
          rcases hok with hrun | ⟨_, _, _, _, _, _, _, he, _⟩
          · have hx := mem1 (Q := fun y => VR R (ev y) (ev' y)) hev
            simp only [FOp.run] at hrun
            split at hrun
            · rename_i cs hv
              obtain ⟨h1, rfl⟩ := map_pair hrun
              rw [hv] at hx
              have hs : ∃ v', (Instr.field t (ev' x) i).run P w = .ok v' w ∧ VR R v v' := by
                generalize ev' x = x' at *
                cases hx with
                | agg _ a' hs ka =>
                  have hlt := (Array.getElem?_eq_some_iff.1 h1).1
                  have h2 : a'[f.offset]? = some a'[f.offset] := by simp [show f.offset < a'.size by omega]
                  refine ⟨a'[f.offset], ?_, ka _ _ _ h1 h2⟩
                  simp [Instr.field, und_run hu, hf, asAgg, part, agg_run ha, h2]
              obtain ⟨v', h2, h3⟩ := hs
              exact FSound.fin (FSound.same hr h2 h3)
            · simp at hrun
          · simp at he
        · simp at hc
      · simp at hc
    · simp at hc
  | fieldAddr t x i =>
    simp only [compF] at hc
    split at hc
    · rename_i fs hu
      split at hc
      · rename_i f hf
        split at hc
        · rename_i inf hi
          split at hc
          · simp at hc
          · rename_i hsz
            obtain rfl := Option.some.inj hc
            rcases hok with hrun | ⟨_, _, _, _, _, _, _, he, _⟩
            · have hx := mem1 (Q := fun y => VR R (ev y) (ev' y)) hev
              simp only [FOp.run] at hrun
              split at hrun
              · rename_i a hv
                split at hrun
                · simp at hrun
                · rename_i hsp
                  obtain ⟨rfl, rfl⟩ := some_inj_pair hrun
                  rw [hv] at hx
                  have hs : ∃ v', (Instr.fieldAt t (ev' x) i).run P w = .ok v' w ∧ VR R (.pointer (some (a.add f.offset))) v' := by
                    generalize ev' x = x' at *
                    cases hx with
                    | ptr _ a' ha =>
                      refine ⟨.pointer (some (a'.add f.offset)), ?_, .ptr _ _ (ha.add (fun k => hsp k.2) _)⟩
                      simp [Instr.fieldAt, und_run hu, hf, Instr.sureAddr, fieldPlace, size_run hi, hsz]
                  obtain ⟨v', h2, h3⟩ := hs
                  exact FSound.fin (FSound.same hr h2 h3)
              · simp at hrun
            · simp at he
        · simp at hc
      · simp at hc
    · simp at hc
  | indexAddr t x i =>
    simp only [compF] at hc
    split at hc
    · rename_i e hu
      obtain ⟨inf, hi, rfl⟩ := Option.map_eq_some_iff.1 hc
      rcases hok with hrun | ⟨_, _, _, _, _, _, _, he, _⟩
      · obtain ⟨hx, hy⟩ := mem2 (Q := fun y => VR R (ev y) (ev' y)) hev
        simp only [FOp.run] at hrun
        split at hrun
        · rename_i a n c kk j hv hw
          split at hrun
          · rename_i hj
            obtain ⟨rfl, rfl⟩ := some_inj_pair hrun
            rw [hv] at hx
            rw [hw] at hy
            have hs : ∃ v', (Instr.indexAt t (ev' x) (ev' i)).run P w = .ok v' w ∧ VR R (.pointer (some (a.add (j.toNat * inf.size)))) v' := by
              generalize ev' x = x' at *
              generalize ev' i = i' at *
              cases hy
              cases hx with
              | sl _ a' _ _ c' hsl =>
                refine ⟨.pointer (some (a'.add (j.toNat * inf.size))), ?_, ?_⟩
                · simp [Instr.indexAt, asIntOf, und_run hu, size_run hi, hj]
                · by_cases hd : R.dead a.block ∧ R.base ≤ a.block
                  · refine .ptr _ _ (.dead _ _ ?_ ?_)
                    · unfold Addr.add; split <;> exact hd.2
                    · unfold Addr.add; split <;> exact hd.1
                  · refine .ptr _ _ (hsl.addr.add (fun k => ?_) _)
                    exact hsl.junk0 (by omega) (fun h => hd ⟨h, k.1⟩) k
            obtain ⟨v', h2, h3⟩ := hs
            exact FSound.fin (FSound.same hr h2 h3)
          · simp at hrun
        · simp at hrun
      · simp at he
    · simp at hc
  | index t x i =>
    simp only [compF] at hc
    split at hc
    · rename_i hu
      obtain rfl := Option.some.inj hc
      rcases hok with hrun | ⟨_, _, _, _, _, _, _, he, _⟩
      · obtain ⟨hx, hy⟩ := mem2 (Q := fun y => VR R (ev y) (ev' y)) hev
        simp only [FOp.run] at hrun
        split at hrun
        · rename_i s kk j hv hw
          split at hrun
          · rename_i hj
            obtain ⟨b, hb, hb2⟩ := Option.map_eq_some_iff.1 hrun
            simp only [Prod.mk.injEq] at hb2
            obtain ⟨rfl, rfl⟩ := hb2
            rw [hv] at hx
            rw [hw] at hy
            have hs : (Instr.index t (ev' x) (ev' i)).run P w = .ok (.int .u8 b.toNat) w := by
              generalize ev' x = x' at *
              generalize ev' i = i' at *
              cases hy
              cases hx
              simp [Instr.index, asIntOf, und_run hu, hj, hb]
            exact FSound.fin (FSound.same hr hs (.int _ _))
          · simp at hrun
        · simp at hrun
      · simp at he
    · simp at hc
  | load t x =>
    simp only [compF] at hc
    split at hc
    · rename_i inf ha hi
      obtain rfl := Option.some.inj hc
      rcases hok with hrun | ⟨_, _, _, _, _, _, _, he, _⟩
      · have hx := mem1 (Q := fun y => VR R (ev y) (ev' y)) hev
        simp only [FOp.run] at hrun
        split at hrun
        · rename_i a hv
          obtain ⟨h1, rfl⟩ := map_pair hrun
          obtain ⟨l, hl, rfl⟩ := Option.map_eq_some_iff.1 h1
          rw [hv] at hx
          have hs : ∃ v', (Instr.loadAt t (ev' x)).run P w = .ok v' w ∧ VR R (.agg l.toArray) v' := by
            generalize ev' x = x' at *
            cases hx with
            | ptr _ a' had =>
              obtain ⟨l', h2, -, h3, h4⟩ := hr.cells P had hl
              refine ⟨.agg l'.toArray, ?_, .agg _ _ (by simpa using h2.1) (fun j y y' k1 k2 => h2.2 j y y' (by simpa using k1) (by simpa using k2))⟩
              simp [Instr.loadAt, Instr.sureAddr, loadVar, agg_run ha, size_run hi, h4]
          obtain ⟨v', h2, h3⟩ := hs
          exact FSound.fin (FSound.same hr h2 h3)
        · simp at hrun
      · simp at he
    · rename_i inf ha hi
      obtain rfl := Option.some.inj hc
      rcases hok with hrun | ⟨_, _, _, _, _, _, _, he, _⟩
      · have hx := mem1 (Q := fun y => VR R (ev y) (ev' y)) hev
        simp only [FOp.run] at hrun
        split at hrun
        · rename_i a hv
          obtain ⟨h1, rfl⟩ := map_pair hrun
          rw [hv] at hx
          have hs : ∃ v', (Instr.loadAt t (ev' x)).run P w = .ok v' w ∧ VR R v v' := by
            generalize ev' x = x' at *
            cases hx with
            | ptr _ a' had =>
              obtain ⟨v', h2, h3, -⟩ := hr.cell had h1
              refine ⟨v', ?_, h3⟩
              simp [Instr.loadAt, Instr.sureAddr, loadVar, agg_run ha, h2]
          obtain ⟨v', h2, h3⟩ := hs
          exact FSound.fin (FSound.same hr h2 h3)
        · simp at hrun
      · simp at he
    · simp at hc
  | nilCheck x =>
    obtain rfl := Option.some.inj hc
    rcases hok with hrun | ⟨_, _, _, _, _, _, _, he, _⟩
    · have hx := mem1 (Q := fun y => VR R (ev y) (ev' y)) hev
      simp only [FOp.run] at hrun
      have fin : ∀ {v' : Value}, (execOp ev' ⟨dst, .nilCheck x, ty, pos, aft, grd⟩).run P w = .ok (.value v') w → VR R v v' → FOut P R h w id (execOp ev' ⟨dst, .nilCheck x, ty, pos, aft, grd⟩) v k := fun h1 h2 => FOut.same hr h1 h2
      simp only [execOp] at fin ⊢
      split at hrun
      · rename_i a hv
        obtain ⟨rfl, rfl⟩ := some_inj_pair hrun
        rw [hv] at hx
        generalize ev' x = x' at *
        cases hx with
        | ptr _ a' ha => exact fin rfl (.ptr _ _ ha)
      · rename_i f p q hv
        obtain ⟨rfl, rfl⟩ := some_inj_pair hrun
        rw [hv] at hx
        generalize ev' x = x' at *
        cases hx with
        | func _ _ a' _ b' ha hb ka kb => exact fin rfl (.func _ _ _ _ _ ha hb ka kb)
      · rename_i u y hv
        obtain ⟨rfl, rfl⟩ := some_inj_pair hrun
        rw [hv] at hx
        generalize ev' x = x' at *
        cases hx with
        | iface _ _ y' hy => exact fin rfl (.iface _ _ _ hy)
      · simp at hrun
    · simp at he
  | convert src dt x =>
    simp only [compF] at hc
    split at hc
    · rename_i k1 k2 h1 h2
      obtain rfl := Option.some.inj hc
      rcases hok with hrun | ⟨_, _, _, _, _, _, _, he, _⟩
      · have hx := mem1 (Q := fun y => VR R (ev y) (ev' y)) hev
        simp only [FOp.run] at hrun
        split at hrun
        · rename_i kk n hv
          obtain ⟨rfl, rfl⟩ := some_inj_pair hrun
          rw [hv] at hx
          have hs : (Go.convert src dt (ev' x)).run P w = .ok (.int k2 (k2.wrap n)) w := by
            generalize ev' x = x' at *
            cases hx
            simp [Go.convert, und_run h1, und_run h2, Conv.intToInt]
          exact FSound.fin (FSound.same hr hs (.int _ _))
        · simp at hrun
      · simp at he
    · rename_i h1 h2
      obtain rfl := Option.some.inj hc
      rcases hok with hrun | ⟨_, _, _, _, _, _, _, he, _⟩
      · have hx := mem1 (Q := fun y => VR R (ev y) (ev' y)) hev
        simp only [FOp.run] at hrun
        split at hrun
        · rename_i s hv
          obtain ⟨rfl, rfl⟩ := some_inj_pair hrun
          rw [hv] at hx
          have hs : (Go.convert src dt (ev' x)).run P w = .ok (.string s) w := by
            generalize ev' x = x' at *
            cases hx
            simp [Go.convert, und_run h1, und_run h2]
          exact FSound.fin (FSound.same hr hs (.string _))
        · simp at hrun
      · simp at he
    · rename_i e h1 h2
      split at hc
      · rename_i hb
        have hbe : P.underlying e = some (.int .u8) := by
          unfold byteT at hb
          split at hb
          · assumption
          · simp at hb
        obtain rfl := Option.some.inj hc
        rcases hok with hrun | ⟨_, _, _, _, _, _, _, he, _⟩
        · have hx := mem1 (Q := fun y => VR R (ev y) (ev' y)) hev
          simp only [FOp.run] at hrun
          split at hrun
          · rename_i n c hv
            obtain ⟨rfl, rfl⟩ := some_inj_pair hrun
            rw [hv] at hx
            have hs : (Go.convert src dt (ev' x)).run P w = .ok (.string .empty) w := by
              generalize ev' x = x' at *
              cases hx
              simp [Go.convert, und_run h1, und_run h2, und_run hbe, Conv.bytesToString]
            exact FSound.fin (FSound.same hr hs (.string _))
          · rename_i a n c hv
            obtain ⟨l, hl, hl2⟩ := Option.map_eq_some_iff.1 hrun
            obtain ⟨cs, hcs, hst⟩ := Option.bind_eq_some_iff.1 hl
            simp only [Prod.mk.injEq] at hl2
            obtain ⟨rfl, rfl⟩ := hl2
            rw [hv] at hx
            have hs : (Go.convert src dt (ev' x)).run P w = .ok (.string ⟨l.toArray⟩) w := by
              generalize ev' x = x' at *
              cases hx with
              | sl _ a' _ _ c' hsl =>
                obtain ⟨l', k1, -, k2, k3⟩ := hr.cells P hsl.addr hcs
                obtain rfl := strOf_run hst k1
                have := b2s_run (c := c') hst k3
                simp [Go.convert, und_run h1, und_run h2, und_run hbe, this]
            exact FSound.fin (FSound.same hr hs (.string _))
          · simp at hrun
        · simp at he
      · simp at hc
    · rename_i e h1 h2
      split at hc
      · rename_i hb
        have hbe : P.underlying e = some (.int .u8) := by
          unfold byteT at hb
          split at hb
          · assumption
          · simp at hb
        obtain rfl := Option.some.inj hc
        rcases hok with hrun | ⟨_, _, _, _, _, _, _, he, _⟩
        · have hx := mem1 (Q := fun y => VR R (ev y) (ev' y)) hev
          simp only [FOp.run] at hrun
          split at hrun
          · rename_i s hv
            obtain ⟨rfl, rfl⟩ := some_inj_pair hrun
            rw [hv] at hx
            obtain ⟨hk, hn⟩ := hid _ rfl
            obtain ⟨cap, c, w', k1, k2, k3, k4, k5, k6, k7, k8⟩ := s2b_run (P := P) (w := w) (e := e) (s := s)
            have hs : (Go.convert src dt (ev' x)).run P w = .ok (.slice (some ⟨w.heap.size, 0, none⟩) s.size cap) w' := by
              generalize ev' x = x' at *
              cases hx
              simp [Go.convert, und_run h1, und_run h2, und_run hbe, k4]
            refine made (cc := cap) hr hk rfl hn k5 k6 k7 k8 (by rw [k2]; exact FzOk.behind _) (by simp [k2]) (by simp [bytesOf, k2]; exact k1) (bytes_one s) (fun o y y' a1 a2 => ?_) (v' := .slice (some ⟨w.heap.size, 0, none⟩) s.size cap) (by show (do pure (Next.value (← Go.convert src dt (ev' x))) : Sem Next).run P w = _; simp [hs]) (sl_made hr hk _ _ _ _ _ _ k1 (fun e => by omega) (fun _ => rfl))
            rw [k3 o y y' a1 a2]
            simp only [bytesOf, List.getElem?_map, Option.map_eq_some_iff] at a1
            obtain ⟨z, -, rfl⟩ := a1
            exact .int _ _
          · simp at hrun
        · simp at he
      · simp at hc
    · simp at hc
  | slice t x lo hi mx =>
    cases mx with
    | some _ => simp [compF] at hc
    | none =>
    simp only [compF] at hc
    have hlo : ∀ fo : FOp, (fo = .slS x lo hi ∨ ∃ sz, fo = .slc sz x lo hi) → (∀ y ∈ fo.reads, VR R (ev y) (ev' y)) → VR R (ev x) (ev' x) ∧ (∀ v v', lo.map ev = some v → lo.map ev' = some v' → VR R v v') ∧ (∀ v v', hi.map ev = some v → hi.map ev' = some v' → VR R v v') := by
      intro fo hfo hr
      have hr2 : ∀ y ∈ x :: (lo.toList ++ hi.toList), VR R (ev y) (ev' y) := by
        rcases hfo with rfl | ⟨sz, rfl⟩ <;> exact hr
      refine ⟨hr2 x (by simp), fun v v' h1 h2 => ?_, fun v v' h1 h2 => ?_⟩
      · cases lo with
        | none => simp at h1
        | some y => simp at h1 h2; subst h1 h2; exact hr2 y (by simp)
      · cases hi with
        | none => simp at h1
        | some y => simp at h1 h2; subst h1 h2; exact hr2 y (by simp)
    split at hc
    · rename_i hu
      obtain rfl := Option.some.inj hc
      rcases hok with hrun | ⟨_, _, _, _, _, _, _, he, _⟩
      · obtain ⟨hx, h1, h2⟩ := hlo _ (.inl rfl) hev
        simp only [FOp.run] at hrun
        split at hrun
        · rename_i s hv
          obtain ⟨⟨l, g⟩, hcut, hp⟩ := Option.map_eq_some_iff.1 hrun
          simp only [Prod.mk.injEq] at hp
          obtain ⟨rfl, rfl⟩ := hp
          rw [hv] at hx
          obtain ⟨k1, k2, k3⟩ := cutB_run (P := P) (R := R) (Nat.le_refl s.size) hcut (lo' := lo.map ev') (hi' := hi.map ev') (by simp) (by simp) h1 h2 false w
          have hs : (Instr.sliceAt t (ev' x) (lo.map ev') (hi.map ev') none).run P w = .ok (.string (s.extract l g)) w := by
            generalize ev' x = x' at *
            cases hx
            simp [Instr.sliceAt, Instr.slice, und_run hu, k3]
          exact FSound.fin (FSound.same hr hs (.string _))
        · simp at hrun
      · simp at he
    · rename_i e hu
      obtain ⟨inf, hi', rfl⟩ := Option.map_eq_some_iff.1 hc
      rcases hok with hrun | ⟨_, _, _, _, _, _, _, he, _⟩
      · obtain ⟨hx, h1, h2⟩ := hlo _ (.inr ⟨_, rfl⟩) hev
        simp only [FOp.run] at hrun
        split at hrun
        · rename_i a n c hv
          split at hrun
          · rename_i hnc
            obtain ⟨⟨l, g⟩, hcut, hp⟩ := Option.map_eq_some_iff.1 hrun
            simp only [Prod.mk.injEq] at hp
            obtain ⟨rfl, rfl⟩ := hp
            rw [hv] at hx
            have hs : ∃ v', (Instr.sliceAt t (ev' x) (lo.map ev') (hi.map ev') none).run P w = .ok v' w ∧ VR R (cutS h.old.heap.size inf.size a n c l g) v' := by
              generalize ev' x = x' at *
              have hx2 : ∃ a' c', x' = .slice a' n c' ∧ n ≤ c' := by
                cases hx with
                | nils _ _ => exact ⟨_, _, rfl, hnc⟩
                | sl a a' _ _ c' hsl =>
                  refine ⟨_, _, rfl, ?_⟩
                  by_cases hb : a.block < R.base
                  · cases hsl with
                    | old => exact hnc
                    | new => simp at hb; omega
                    | dead => omega
                    | junk => omega
                  · exact hsl.len hb
              obtain ⟨a', c', rfl, hn⟩ := hx2
              obtain ⟨k1, k2, k3⟩ := cutB_run (P := P) (R := R) hn hcut (lo' := lo.map ev') (hi' := hi.map ev') (by simp) (by simp) h1 h2 true w
              refine ⟨_, ?_, cutS_run (P := P) (size := inf.size) hr.base hx k1 k2⟩
              simp [Instr.sliceAt, Instr.slice, und_run hu, k3, size_run hi']
            obtain ⟨v', h3, h4⟩ := hs
            exact FSound.fin (FSound.same hr h3 h4)
          · simp at hrun
        · simp at hrun
      · simp at he
    · simp at hc
  | alloc t =>
    simp only [compF] at hc
    obtain ⟨inf, hi, hc⟩ := Option.bind_eq_some_iff.1 hc
    obtain ⟨z, hz, hc⟩ := Option.bind_eq_some_iff.1 hc
    split at hc
    · rename_i hp
      obtain rfl := Option.some.inj hc
      rcases hok with hrun | ⟨_, _, _, _, _, _, _, he, _⟩
      · obtain ⟨rfl, rfl⟩ := some_inj_pair hrun
        obtain ⟨hk, hn⟩ := hid _ rfl
        have hs : (Instr.alloc t true (.tuple #[])).run P w = .ok (.pointer (some ⟨w.heap.size, 0, none⟩)) { w with heap := w.heap.push (.cells z.cells t) } := by
          simp [Instr.alloc, zero_run hi hz, newVar, newRow]
        refine made (cc := 0) (w' := { w with heap := w.heap.push (.cells z.cells t) }) hr hk rfl hn rfl rfl rfl rfl (FzOk.zero _) (by simp) (by simp) (plain_one (fun x hx => Array.all_eq_true_iff_forall_mem.1 hp x (by simpa using hx))) (fun o y y' a1 a2 => ?_) (by show (do pure (Next.value (← Instr.alloc t true (.tuple #[]))) : Sem Next).run P w = _; rw [Sem.run_bind, hs]; rfl) (ptr_made hr hk _ _ _)
        simp only [Array.getElem?_toList] at a1
        rw [a1] at a2
        obtain rfl := Option.some.inj a2
        exact plainC_VR (Array.all_eq_true_iff_forall_mem.1 hp _ (Array.mem_of_getElem? a1))
      · simp at he
    · simp at hc
  | box t x =>
    obtain rfl := Option.some.inj hc
    rcases hok with hrun | ⟨_, _, _, _, _, _, _, he, _⟩
    · have hx := mem1 (Q := fun y => VR R (ev y) (ev' y)) hev
      simp only [FOp.run] at hrun
      split at hrun
      case isFalse => simp at hrun
      rename_i hone
      obtain ⟨rfl, rfl⟩ := some_inj_pair hrun
      obtain ⟨hk, hn⟩ := hid _ rfl
      obtain ⟨c1, c2⟩ := hx.cells
      have hs : (Instr.box t (ev' x)).run P w = .ok (.pointer (some ⟨w.heap.size, 0, none⟩)) { w with heap := w.heap.push (.cells (ev' x).cells t) } := by
        simp [Instr.box, newVar, newRow]
      exact made (cc := 0) (w' := { w with heap := w.heap.push (.cells (ev' x).cells t) }) hr hk rfl hn rfl rfl rfl rfl (FzOk.zero _) (by simp) (by simp [c1]) hone (fun o y y' a1 a2 => c2 o y y' (by simpa using a1) a2) (by show (do pure (Next.value (← Instr.box t (ev' x))) : Sem Next).run P w = _; rw [Sem.run_bind, hs]; rfl) (ptr_made hr hk _ _ _)
    · simp at he
  | typeAssert x xt t ok =>
    have key : ∀ d : TypeDesc, P.underlying t = some d → (∀ m, d ≠ .interface m) → ∀ inf, P.info? t = some inf → ∀ z, inf.zero = some z → plainV z = true → fo = .tas t ok z x → FOut P R h w id (execOp ev' ⟨dst, .typeAssert x xt t ok, ty, pos, aft, grd⟩) v k := by
      intro d hu hd inf hi z hz hp hfo
      subst hfo
      rcases hok with hrun | ⟨_, _, _, _, _, _, _, he, _⟩
      · have hx := mem1 (Q := fun y => VR R (ev y) (ev' y)) hev
        simp only [FOp.run] at hrun
        split at hrun
        · rename_i u y hv
          rw [hv] at hx
          have hs : ∃ v', (Instr.typeAssert (ev' x) xt t ok).run P w = .ok v' w ∧ VR R v v' := by
            generalize ev' x = x' at *
            cases hx with
            | iface _ _ y' hy =>
              split at hrun
              · rename_i hut
                obtain ⟨rfl, rfl⟩ := some_inj_pair hrun
                refine ⟨if ok = true then .tuple #[y', .bool true] else y', ?_, ?_⟩
                · cases d <;> first | (simp [Instr.typeAssert, und_run hu, hut]; done) | exact absurd rfl (hd _)
                · cases ok
                  · exact hy
                  · refine .tuple _ _ rfl (fun i a b h1 h2 => ?_)
                    match i with
                    | 0 => simp at h1 h2; subst h1 h2; exact hy
                    | 1 => simp at h1 h2; subst h1 h2; exact .bool _
                    | i + 2 => simp at h1
              · rename_i hut
                split at hrun
                · rename_i hok
                  obtain ⟨rfl, rfl⟩ := some_inj_pair hrun
                  refine ⟨.tuple #[z, .bool false], ?_, ?_⟩
                  · cases d <;> first | (simp [Instr.typeAssert, und_run hu, hut, hok, zero_run hi hz]; done) | exact absurd rfl (hd _)
                  · refine .tuple _ _ rfl (fun i a b h1 h2 => ?_)
                    match i with
                    | 0 => simp at h1 h2; subst h1 h2; exact plainV_VR hp
                    | 1 => simp at h1 h2; subst h1 h2; exact .bool _
                    | i + 2 => simp at h1
                · simp at hrun
          obtain ⟨v', h2, h3⟩ := hs
          exact FSound.fin (FSound.same hr h2 h3)
        · rename_i hv
          rw [hv] at hx
          split at hrun
          · rename_i hok
            obtain ⟨rfl, rfl⟩ := some_inj_pair hrun
            have hs : ∃ v', (Instr.typeAssert (ev' x) xt t ok).run P w = .ok v' w ∧ VR R (.tuple #[z, .bool false]) v' := by
              generalize ev' x = x' at *
              cases hx
              refine ⟨.tuple #[z, .bool false], ?_, ?_⟩
              · cases d <;> first | (simp [Instr.typeAssert, und_run hu, hok, zero_run hi hz]; done) | exact absurd rfl (hd _)
              · refine .tuple _ _ rfl (fun i a b h1 h2 => ?_)
                match i with
                | 0 => simp at h1 h2; subst h1 h2; exact plainV_VR hp
                | 1 => simp at h1 h2; subst h1 h2; exact .bool _
                | i + 2 => simp at h1
            obtain ⟨v', h2, h3⟩ := hs
            exact FSound.fin (FSound.same hr h2 h3)
          · simp at hrun
        · simp at hrun
      · simp at he
    simp only [compF] at hc
    split at hc
    · rename_i e hu
      obtain ⟨inf, hi, hc⟩ := Option.bind_eq_some_iff.1 hc
      obtain ⟨z, hz, hc⟩ := Option.bind_eq_some_iff.1 hc
      split at hc
      · rename_i hp
        exact key _ hu (by simp) inf hi z hz hp (Option.some.inj hc).symm
      · simp at hc
    · rename_i e hu
      obtain ⟨inf, hi, hc⟩ := Option.bind_eq_some_iff.1 hc
      obtain ⟨z, hz, hc⟩ := Option.bind_eq_some_iff.1 hc
      split at hc
      · rename_i hp
        exact key _ hu (by simp) inf hi z hz hp (Option.some.inj hc).symm
      · simp at hc
    · simp at hc
  | makeSlice t l c =>
    simp only [compF] at hc
    split at hc
    · rename_i e hu
      obtain ⟨inf, hi, hc⟩ := Option.bind_eq_some_iff.1 hc
      obtain ⟨z, hz, hc⟩ := Option.bind_eq_some_iff.1 hc
      split at hc
      · rename_i hp
        obtain ⟨hp, hz0⟩ := hp
        obtain rfl := Option.some.inj hc
        rcases hok with hrun | ⟨_, _, _, _, _, _, _, he, _⟩
        · obtain ⟨hx, hy⟩ := mem2 (Q := fun y => VR R (ev y) (ev' y)) hev
          simp only [FOp.run] at hrun
          split at hrun
          · rename_i k1 n k2 m hv hw
            split at hrun
            · rename_i hcnd
              obtain ⟨rfl, hn0, hn1, hn2⟩ := hcnd
              obtain ⟨rfl, rfl⟩ := some_inj_pair hrun
              rw [hv] at hx
              rw [hw] at hy
              obtain ⟨hk, hn⟩ := hid _ rfl
              obtain ⟨N, rfl⟩ : ∃ N : Nat, n = (N : Int) := ⟨n.toNat, by omega⟩
              have hwr : IntKind.i64.wrap (N : Int) = (N : Int) := IntWalk.i64_in _ (by omega)
              let cs : Array Value := (Array.range (N * inf.size)).map (z.cells[· % z.cells.size]!)
              have hs : (Instr.makeSlice t (ev' l) (ev' c)).run P w = .ok (.slice (some ⟨w.heap.size, 0, none⟩) N N) { w with heap := w.heap.push (.cells cs e) } := by
                generalize ev' l = x' at *
                generalize ev' c = y' at *
                cases hx
                cases hy
                have hai : ∀ (k : IntKind) (n : Int) (w : World), (asInt (.int k n)).run P w = .ok n w := fun _ _ _ => rfl
                have e1 : ¬ ((N : Int) < 0) := by omega
                have e2 : ¬ (281474976710656 < (inf.bytes : Int) * (N : Int)) := by omega
                by_cases h0 : N * inf.size = 0
                · have hcs : cs = #[] := by simp [cs, h0]
                  rw [hcs]
                  simp [Instr.makeSlice, und_run hu, info_run hi, size_run hi, hai, hwr, h0, newRow, e1, e2]
                  rw [Array.eq_empty_of_size_eq_zero (xs := Array.range 0) (by simp), Array.map_empty]
                · simp [Instr.makeSlice, und_run hu, info_run hi, size_run hi, hai, hwr, zero_run hi hz, newRow, e1, e2]
                  rw [if_neg h0]
              refine made (cc := N) (w' := { w with heap := w.heap.push (.cells cs e) }) hr hk rfl hn rfl rfl rfl rfl (FzOk.zero _) (by simp [cs]) (by simp [cs, zerosOf]) (zeros_one hp hz0) (fun o y y' a1 a2 => ?_) (by show (do pure (Next.value (← Instr.makeSlice t (ev' l) (ev' c))) : Sem Next).run P w = _; rw [Sem.run_bind, hs]; rfl) (sl_made hr hk _ _ _ _ _ _ (by simp) (fun _ => by simp) (fun e => by simp at e))
              have hlt : o < N * inf.size := by
                have := (List.getElem?_eq_some_iff.1 a1).1
                simpa [zerosOf] using this
              have hm : o % z.cells.size < z.cells.size := Nat.mod_lt _ (by omega)
              simp only [zerosOf, Int.toNat_natCast, List.getElem?_map, List.getElem?_range hlt, Option.map_some, Option.some.injEq] at a1
              have e3 : cs[o]? = some (z.cells[o % z.cells.size]) := by
                simp [cs, hlt, hm]
              rw [e3] at a2
              obtain rfl := Option.some.inj a2
              subst a1
              have e4 : z.cells.toList.getD (o % z.cells.toList.length) undef = z.cells[o % z.cells.size] := by
                simp [List.getD, hm]
              rw [e4]
              exact plainC_VR (Array.all_eq_true_iff_forall_mem.1 hp _ (Array.getElem_mem _))
            · simp at hrun
          · simp at hrun
        · simp at he
      · simp at hc
    · simp at hc
  | buildSlice t len parts =>
    simp only [compF] at hc
    split at hc
    · rename_i e hu
      obtain ⟨inf, hi, hc⟩ := Option.bind_eq_some_iff.1 hc
      split at hc
      · rename_i hp
        obtain ⟨hp1, hp2, hp3, hp4⟩ := hp
        obtain ⟨z, hz, hz2⟩ := Option.map_eq_some_iff.1 hp4
        obtain rfl := Option.some.inj hc
        rcases hok with hrun | ⟨_, _, _, _, _, _, _, he, _⟩
        · simp only [FOp.run] at hrun
          obtain ⟨F, hF, hF2⟩ := Option.map_eq_some_iff.1 hrun
          simp only [Prod.mk.injEq] at hF2
          obtain ⟨rfl, rfl⟩ := hF2
          obtain ⟨hk, hn⟩ := hid _ rfl
          have hlen : parts.toList.length = len := by have := congrArg List.length hp1; simpa using this
          have hvr : VRs R ((parts.toList.map (·.2)).map ev) ((parts.toList.map (·.2)).map ev') := lookup_of (l' := parts.toList.map (·.2)) (fun x hx => hev x hx)
          obtain ⟨F', hF', hFv⟩ := flatOf_VR hvr hF
          have hl' : ((parts.toList.map (·.2)).map ev').length = len := by simp [hlen]
          have hzip : (parts.map fun (p : Nat × Operand) => (p.1, ev' p.2)).toList = (List.range' 0 ((parts.toList.map (·.2)).map ev').length).zip ((parts.toList.map (·.2)).map ev') := by
            rw [hl', ← List.range_eq_range', ← hp1, Array.toList_map]
            simp [List.zip_map', List.map_map, Function.comp_def]
          have hs : ∃ cs' : Array Value, cs'.size = len * inf.size ∧ (∀ i, i < F'.length → cs'[i]? = F'[i]?) ∧ F'.length = len * inf.size ∧ (Instr.buildSlice t len (parts.map fun (p : Nat × Operand) => (p.1, ev' p.2))).run P w = .ok (.slice (some ⟨w.heap.size, 0, none⟩) len len) { w with heap := w.heap.push (.cells cs' e) } := by
            by_cases h0 : len * inf.size = 0
            · have hln : len = 0 := by rcases Nat.mul_eq_zero.1 h0 with h | h <;> omega
              subst hln
              obtain rfl : parts = #[] := Array.eq_empty_of_size_eq_zero (by simpa using hlen)
              simp [flatOf] at hF'
              subst hF'
              refine ⟨#[], by simp, fun i hi => by simp at hi, by simp, ?_⟩
              simp [Instr.buildSlice, und_run hu, size_run hi, Instr.fill, newRow]
              try rw [Array.eq_empty_of_size_eq_zero (xs := Array.range 0) (by simp), Array.map_empty]
            · have hsz : z.cells.size = inf.size := hz2
              obtain ⟨cs', g1, g2, g3, g4, g5⟩ := fill_all inf.size _ F' 0 ((Array.range (len * inf.size)).map (z.cells[· % z.cells.size]!)) hF' (by rw [hl']; simp)
              rw [hl'] at g4
              refine ⟨cs', by rw [g2]; simp, fun i hi => by have := g5 i hi; rwa [Nat.zero_mul, Nat.zero_add] at this, g4, ?_⟩
              rw [← hzip] at g1
              simp only [Instr.buildSlice, Sem.run_bind, und_run hu, Result.andThen_ok, size_run hi, if_neg (show ¬ (len * inf.size > 2 ^ 24) by omega), h0, if_false, zero_run hi hz, Sem.run_pure, g1, newRow, run_newObj]
          obtain ⟨cs', e1, e2, e3, e4⟩ := hs
          have hxl : (parts.toList.map (·.2)).length = len := by simp [hlen]
          rw [hxl]
          refine made (cc := len) (w' := { w with heap := w.heap.push (.cells cs' e) }) hr hk rfl hn rfl rfl rfl rfl (FzOk.zero _) (by rw [e1]; exact Nat.le_refl _) (by rw [e1, ← e3]; exact Nat.le_of_eq hFv.1) (flat_one hF) (fun o y y' a1 a2 => ?_) (by show (do pure (Next.value (← Instr.buildSlice t len (parts.map fun (p : Nat × Operand) => (p.1, ev' p.2)))) : Sem Next).run P w = _; rw [Sem.run_bind, e4]; rfl) (sl_made hr hk _ _ _ _ _ _ (Nat.le_refl _) (fun _ => rfl) (fun e => by omega))
          have hlt : o < F.length := (List.getElem?_eq_some_iff.1 a1).1
          have hl2 := hFv.1
          rw [e2 o (by omega)] at a2
          exact hFv.2 o y y' a1 a2
        · simp at he
      · simp at hc
    · simp at hc
  | call c =>
    obtain ⟨callee, args, argTypes⟩ := c
    have harr : ∀ {xs : List Operand}, args.toList = xs → args = xs.toArray := fun h => by rw [← h]
    simp only [compF, compC] at hc
    have fin : ∀ {b : Builtin} {s : Sem Value} {v' : Value}, (∀ x, builtin b argTypes ty x (args.map ev') = do pure (.value (← s))) → callee = .builtin b → s.run P w = .ok v' w → VR R v v' → FOut P R h w id (execOp ev' ⟨dst, .call ⟨callee, args, argTypes⟩, ty, pos, aft, grd⟩) v k := by
      intro b s v' hb hcal h1 h2
      subst hcal
      refine FOut.same hr (v' := v') ?_ h2
      show (builtin b argTypes ty _ (args.map ev')).run P w = _
      rw [hb]
      simp [h1]
    split at hc
    · split at hc
      · rename_i x t hx1 ht
        obtain rfl := harr hx1
        split at hc
        · rename_i hu
          obtain rfl := Option.some.inj hc
          rcases hok with hrun | ⟨_, _, _, _, _, _, _, he, _⟩
          · have hx := mem1 (Q := fun y => VR R (ev y) (ev' y)) hev
            simp only [FOp.run] at hrun
            split at hrun
            · rename_i s hv
              obtain ⟨rfl, rfl⟩ := some_inj_pair hrun
              rw [hv] at hx
              refine fin (b := .len) (s := Builtin.len_ argTypes ty ([x].toArray.map ev')) (v' := .int .i64 s.size) (fun _ => rfl) rfl ?_ (.int _ _)
              have e1 : ([x].toArray.map ev')[0]? = some (ev' x) := by simp
              simp only [Builtin.len_, ht, e1, Sem.run_bind, und_run hu, Result.andThen_ok]
              generalize ev' x = x' at *
              cases hx
              rfl
            · simp at hrun
            · simp at hrun
          · simp at he
        · rename_i e hu
          obtain rfl := Option.some.inj hc
          rcases hok with hrun | ⟨_, _, _, _, _, _, _, he, _⟩
          · have hx := mem1 (Q := fun y => VR R (ev y) (ev' y)) hev
            simp only [FOp.run] at hrun
            split at hrun
            · simp at hrun
            · rename_i a n c hv
              simp only [Bool.false_eq_true, if_false] at hrun
              obtain ⟨rfl, rfl⟩ := some_inj_pair hrun
              rw [hv] at hx
              refine fin (b := .len) (s := Builtin.len_ argTypes ty ([x].toArray.map ev')) (v' := .int .i64 n) (fun _ => rfl) rfl ?_ (.int _ _)
              have e1 : ([x].toArray.map ev')[0]? = some (ev' x) := by simp
              simp only [Builtin.len_, ht, e1, Sem.run_bind, und_run hu, Result.andThen_ok]
              generalize ev' x = x' at *
              cases hx <;> rfl
            · simp at hrun
          · simp at he
        · simp at hc
      · simp at hc
    · split at hc
      · rename_i x y hx1
        obtain rfl := harr hx1
        obtain rfl := Option.some.inj hc
        rcases hok with hrun | ⟨_, _, _, _, _, _, _, he, _⟩
        · obtain ⟨hx, hy⟩ := mem2 (Q := fun y => VR R (ev y) (ev' y)) hev
          simp only [FOp.run] at hrun
          split at hrun
          · rename_i k1 a k2 b hv hw
            obtain ⟨rfl, rfl⟩ := some_inj_pair hrun
            rw [hv] at hx
            rw [hw] at hy
            refine fin (b := .min) (s := Builtin.min_ argTypes ty ([x, y].toArray.map ev')) (v' := .int k1 (if b < a then b else a)) (fun _ => rfl) rfl ?_ (.int _ _)
            have e1 : [x, y].toArray.map ev' = #[ev' x, ev' y] := by simp
            rw [e1]
            generalize ev' x = x' at *
            generalize ev' y = y' at *
            cases hx
            cases hy
            rfl
          · simp at hrun
        · simp at he
      · simp at hc
    · split at hc
      · rename_i x y hx1
        obtain rfl := harr hx1
        obtain rfl := Option.some.inj hc
        rcases hok with hrun | ⟨_, _, _, _, _, _, _, he, _⟩
        · obtain ⟨hx, hy⟩ := mem2 (Q := fun y => VR R (ev y) (ev' y)) hev
          simp only [FOp.run] at hrun
          split at hrun
          · rename_i k1 a k2 b hv hw
            obtain ⟨rfl, rfl⟩ := some_inj_pair hrun
            rw [hv] at hx
            rw [hw] at hy
            refine fin (b := .max) (s := Builtin.max_ argTypes ty ([x, y].toArray.map ev')) (v' := .int k1 (if b > a then b else a)) (fun _ => rfl) rfl ?_ (.int _ _)
            have e1 : [x, y].toArray.map ev' = #[ev' x, ev' y] := by simp
            rw [e1]
            generalize ev' x = x' at *
            generalize ev' y = y' at *
            cases hx
            cases hy
            rfl
          · simp at hrun
        · simp at he
      · simp at hc
    · simp at hc
  | pick c x y =>
    obtain rfl := Option.some.inj hc
    rcases hok with hrun | ⟨_, _, _, _, _, _, _, he, _⟩
    · have h1 : VR R (ev c) (ev' c) := hev c (by simp [FOp.reads])
      have h2 : VR R (ev x) (ev' x) := hev x (by simp [FOp.reads])
      have h3 : VR R (ev y) (ev' y) := hev y (by simp [FOp.reads])
      simp only [FOp.run] at hrun
      split at hrun
      · rename_i t hv
        obtain ⟨rfl, rfl⟩ := some_inj_pair hrun
        rw [hv] at h1
        have hb : ev' c = .bool t := by
          generalize ev' c = z at h1
          cases h1
          rfl
        refine FOut.same hr (v' := if t then ev' x else ev' y) ?_ (by cases t <;> assumption)
        show (do pure (Next.value (if ← asBool (ev' c) then ev' x else ev' y)) : Sem Next).run P w = _
        rw [hb]
        cases t <;> rfl
      · simp at hrun
    · simp at he
  | build t parts =>
    simp only [compF] at hc
    split at hc
    · rename_i fs hu
      split at hc
      · rename_i inf ps hi hps
        obtain ⟨z, hz, hc⟩ := Option.bind_eq_some_iff.1 hc
        split at hc
        · rename_i hp
          obtain ⟨hp1, hp2⟩ := hp
          obtain rfl := Option.some.inj hc
          rcases hok with hrun | ⟨_, _, _, _, _, _, _, he, _⟩
          · simp only [FOp.run] at hrun
            obtain ⟨F, hF, hF2⟩ := Option.map_eq_some_iff.1 hrun
            simp only [Prod.mk.injEq] at hF2
            obtain ⟨rfl, rfl⟩ := hF2
            have hvr : VRs R ((parts.toList.map (·.2)).map ev) ((parts.toList.map (·.2)).map ev') := lookup_of (l' := parts.toList.map (·.2)) (fun x hx => hev x hx)
            have hzz : VRs R z.cells.toList z.cells.toList := ⟨rfl, fun i a b h1 h2 => by
              rw [h1] at h2
              obtain rfl := Option.some.inj h2
              exact plainC_VR (Array.all_eq_true_iff_forall_mem.1 hp1 _ (by have := List.mem_of_getElem? h1; simpa using this))⟩
            have hpl : ∀ (l : List (Nat × Operand)) (ps : List (Nat × Nat)), placesOf P fs l = some ps → l.length = ps.length ∧ ∀ (k i : Nat) p, (l.map (·.1))[k]? = some i → ps[k]? = some p → ((fs.map fun f => (f.offset, ((P.info? f.type).map (·.size)).getD 0))[i]?) = some p := by
              intro l
              induction l with
              | nil => intro ps h; simp [placesOf] at h; subst h; exact ⟨rfl, fun k i p h => by simp at h⟩
              | cons q l ih =>
                intro ps h
                obtain ⟨j, x⟩ := q
                unfold placesOf at h
                split at h
                · rename_i f ps' h1 h2
                  obtain ⟨inf', hi', rfl⟩ := Option.map_eq_some_iff.1 h
                  obtain ⟨l1, l2⟩ := ih ps' h2
                  refine ⟨by simp [l1], fun k i p h3 h4 => ?_⟩
                  cases k with
                  | zero => simp at h3 h4; subst h3 h4; simp [h1, hi']
                  | succ k => simp at h3 h4; exact l2 k i p (by simpa using h3) h4
                · simp at h
            obtain ⟨p1, p2⟩ := hpl _ _ hps
            obtain ⟨F', g1, g2⟩ := fillL_run (fun i => (fs.map fun f => (f.offset, ((P.info? f.type).map (·.size)).getD 0))[i]?) (parts.toList.map (·.1)) ps _ _ _ _ F p2 (by simpa using p1) hvr hzz hF
            have hzip : (parts.map fun (p : Nat × Operand) => (p.1, ev' p.2)).toList = (parts.toList.map (·.1)).zip ((parts.toList.map (·.2)).map ev') := by
              rw [Array.toList_map]
              simp [List.zip_map', List.map_map, Function.comp_def]
            refine FSound.fin (FSound.same (v' := .agg F'.toArray) hr ?_ (.agg _ _ (by simpa using g2.1) (fun i a b h1 h2 => g2.2 i a b (by simpa using h1) (by simpa using h2))))
            show (Instr.build t (parts.map fun (p : Nat × Operand) => (p.1, ev' p.2))).run P w = _
            rw [← hzip] at g1
            simp only [Array.toArray_toList] at g1
            simp only [Instr.build, Sem.run_bind, zero_run hi hz, Result.andThen_ok, und_run hu, places_run fs hp2, g1, Sem.run_pure]
          · simp at he
        · simp at hc
      · simp at hc
    · simp at hc
  | _ => simp [compF] at hc
end
end Go.Proofs.Ytalhipbbomagoaa.Ab
