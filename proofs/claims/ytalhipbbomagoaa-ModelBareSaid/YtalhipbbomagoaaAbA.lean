/- A heap of plain values ('Hp'), a relation between it and the machine's memory ('Rel'), and the operations of the code over it: told here; that the machine does what they tell is shown in the texts behind this one. No statement of the set is proved in this text. -/
import Derived.OrdersHeld
import Derived.LoopN
import Derived.Scope
import Derived.ScopeJumps
import Derived.WalkKit
namespace Go.Proofs.Ytalhipbbomagoaa.Ab
open Go.RowKit
set_option linter.unusedVariables false
set_option linter.unusedSimpArgs false
/-- A block: its cells, how many of them an element has, and whether it may be looked at still. -/
structure Blk where
  cells : List Value
  es : Nat
  live : Bool
/-- Memory: that which was there (it is only read), and the blocks that were made since. -/
structure Hp where
  old : World
  new : List Blk
def Hp.next (h : Hp) : Nat := h.old.heap.size + h.new.length
def Hp.blk? (h : Hp) (b : Nat) : Option Blk := if b < h.old.heap.size then none else h.new[b - h.old.heap.size]?
/-- A value out of memory that was there. (A slice of length 0 may have any address.) -/
def absV (base : Nat) : Value → Option Value
  | .slice (some a) n c => if a.block < base then some (.slice (some a) n c) else if n = 0 then some (.slice (some ⟨a.block, 0, some 0⟩) 0 1) else none
  | .pointer (some a) => if a.block < base then some (.pointer (some a)) else none
  | .bool b => some (.bool b)
  | .int k n => some (.int k n)
  | .string s => some (.string s)
  | .slice none n c => some (.slice none n c)
  | .pointer none => some (.pointer none)
  | .nilIface => some .nilIface
  | .nilFunc => some .nilFunc
  | _ => none
def Hp.cell? (h : Hp) (a : Addr) : Option Value :=
  if a.block < h.old.heap.size then (h.old.cell? a).bind (absV h.old.heap.size)
  else if a.spot.isSome then none
  else match h.blk? a.block with
    | some k => if k.live then k.cells[a.off]? else none
    | none => none
def Hp.cellsFrom (h : Hp) (a : Addr) : (i n : Nat) → Option (List Value)
  | _, 0 => some []
  | i, n + 1 => match h.cell? (a.add i) with
    | some v => (h.cellsFrom a (i + 1) n).map (v :: ·)
    | none => none
def Hp.cells? (h : Hp) (a : Addr) (n : Nat) : Option (List Value) := h.cellsFrom a 0 n
def Hp.push (h : Hp) (k : Blk) : Hp := ⟨h.old, h.new ++ [k]⟩
def Hp.pushO (h : Hp) : Option Blk → Hp
  | none => h
  | some k => h.push k
def Hp.setBlk (h : Hp) (b : Nat) (k : Blk) : Hp := ⟨h.old, h.new.set (b - h.old.heap.size) k⟩
def putAt (cs : List Value) (off : Nat) : List Value → List Value
  | [] => cs
  | v :: vs => putAt (cs.set off v) (off + 1) vs
/-- Cells written from an address on. -/
def Hp.write (h : Hp) (a : Addr) (vs : List Value) : Option Hp :=
  match h.blk? a.block with
  | some k => if k.live = true ∧ a.spot = none ∧ a.off + vs.length ≤ k.cells.length ∧ vs.all (·.oneCell') = true then some (h.setBlk a.block { k with cells := putAt k.cells a.off vs }) else none
  | none => none
def Hp.kill (h : Hp) (b : Nat) : Hp := match h.blk? b with
  | some k => h.setBlk b { k with live := false }
  | none => h
/-- How blocks made stand to blocks of the machine: its number, how many cells it has, how many elements a slice of it from its head has room for; and which ones may not be looked at any more. -/
structure AR where
  base : Nat
  rho : Nat → Option (Nat × Nat × Nat)
  dead : Nat → Prop
inductive AddrR (R : AR) : Addr → Addr → Prop
  | old (a : Addr) (h : a.block < R.base) : AddrR R a a
  | new (b o cb cs cc : Nat) (h : R.base ≤ b) (hr : R.rho b = some (cb, cs, cc)) : AddrR R ⟨b, o, none⟩ ⟨cb, o, none⟩
  | dead (a a' : Addr) (h : R.base ≤ a.block) (hd : R.dead a.block) : AddrR R a a'
  | junk (a a' : Addr) (h : R.base ≤ a.block) (hs : a.spot.isSome = true) : AddrR R a a'
/-- A slice's address and room: of memory that was there the same; else what its number tells: as many as it is long: just as many; one more: as many as the block has room for. -/
inductive SlR (R : AR) : Addr → Nat → Nat → Addr → Nat → Prop
  | old (a : Addr) (n c : Nat) (h : a.block < R.base) : SlR R a n c a c
  | new (b o n c cb cs cc c' : Nat) (h : R.base ≤ b) (hr : R.rho b = some (cb, cs, cc)) (h1 : n ≤ c') (h2 : c = n → c' = n) (h3 : c = n + 1 → o = 0 → c' = cc) : SlR R ⟨b, o, none⟩ n c ⟨cb, o, none⟩ c'
  | dead (a a' : Addr) (n c c' : Nat) (h : R.base ≤ a.block) (hd : R.dead a.block) (h1 : n ≤ c') (h2 : c = n → c' = n) : SlR R a n c a' c'
  | junk (a a' : Addr) (c' : Nat) (h : R.base ≤ a.block) (hs : a.spot.isSome = true) : SlR R a 0 1 a' c'
inductive VR (R : AR) : Value → Value → Prop
  | bool (b : Bool) : VR R (.bool b) (.bool b)
  | int (k : IntKind) (n : Int) : VR R (.int k n) (.int k n)
  | float (k : FloatKind) (n : Nat) : VR R (.float k n) (.float k n)
  | complex (k : FloatKind) (a b : Nat) : VR R (.complex k a b) (.complex k a b)
  | string (s : ByteArray) : VR R (.string s) (.string s)
  | nilp : VR R (.pointer none) (.pointer none)
  | ptr (a a' : Addr) (h : AddrR R a a') : VR R (.pointer (some a)) (.pointer (some a'))
  | nils (n c : Nat) : VR R (.slice none n c) (.slice none n c)
  | sl (a a' : Addr) (n c c' : Nat) (h : SlR R a n c a' c') : VR R (.slice (some a) n c) (.slice (some a') n c')
  | nilm : VR R (.map none) (.map none)
  | oldm (r : Nat) (h : r < R.base) : VR R (.map (some r)) (.map (some r))
  | nilc : VR R (.chan none) (.chan none)
  | nilFunc : VR R .nilFunc .nilFunc
  | nilIface : VR R .nilIface .nilIface
  | iface (t : TypeId) (v v' : Value) (h : VR R v v') : VR R (.iface t v) (.iface t v')
  | func (fn : Fn) (a a' b b' : Array Value) (ha : a.size = a'.size) (hb : b.size = b'.size) (ka : ∀ (i : Nat) v v', a[i]? = some v → a'[i]? = some v' → VR R v v') (kb : ∀ (i : Nat) v v', b[i]? = some v → b'[i]? = some v' → VR R v v') : VR R (.func fn a b) (.func fn a' b')
  | agg (a a' : Array Value) (ha : a.size = a'.size) (ka : ∀ (i : Nat) v v', a[i]? = some v → a'[i]? = some v' → VR R v v') : VR R (.agg a) (.agg a')
  | tuple (a a' : Array Value) (ha : a.size = a'.size) (ka : ∀ (i : Nat) v v', a[i]? = some v → a'[i]? = some v' → VR R v v') : VR R (.tuple a) (.tuple a')
/-- More is known, or less may be looked at. -/
structure AR.le (R R' : AR) : Prop where
  base : R'.base = R.base
  rho : ∀ b e, R.rho b = some e → R'.rho b = some e ∨ R'.dead b
  dead : ∀ b, R.dead b → R'.dead b
theorem AR.le.refl (R : AR) : R.le R := ⟨rfl, fun _ _ h => .inl h, fun _ h => h⟩
theorem AR.le.trans {R S T : AR} (h : R.le S) (k : S.le T) : R.le T :=
  ⟨k.base.trans h.base, fun b e hb => (h.rho b e hb).elim (k.rho b e) (fun hd => .inr (k.dead b hd)), fun b hb => k.dead b (h.dead b hb)⟩
theorem AddrR.mono {R R' : AR} (hle : R.le R') {a a' : Addr} (h : AddrR R a a') : AddrR R' a a' := by
  cases h with
  | old _ h => exact .old _ (hle.base ▸ h)
  | new b o cb cs cc h hr =>
    rcases hle.rho _ _ hr with h2 | h2
    · exact .new _ _ _ _ _ (hle.base ▸ h) h2
    · exact .dead _ _ (by rw [hle.base]; exact h) h2
  | dead _ _ h hd => exact .dead _ _ (hle.base ▸ h) (hle.dead _ hd)
  | junk _ _ h hs => exact .junk _ _ (hle.base ▸ h) hs
theorem SlR.mono {R R' : AR} (hle : R.le R') {a a' : Addr} {n c c' : Nat} (h : SlR R a n c a' c') : SlR R' a n c a' c' := by
  cases h with
  | old _ _ _ h => exact .old _ _ _ (hle.base ▸ h)
  | new b o _ _ cb cs cc _ h hr h1 h2 h3 =>
    rcases hle.rho _ _ hr with k | k
    · exact .new _ _ _ _ _ _ _ _ (hle.base ▸ h) k h1 h2 h3
    · exact .dead _ _ _ _ _ (by rw [hle.base]; exact h) k h1 h2
  | dead _ _ _ _ _ h hd h1 h2 => exact .dead _ _ _ _ _ (hle.base ▸ h) (hle.dead _ hd) h1 h2
  | junk _ _ _ h hs => exact .junk _ _ _ (hle.base ▸ h) hs
theorem VR.mono {R R' : AR} (hle : R.le R') {v v' : Value} (h : VR R v v') : VR R' v v' := by
  induction h with
  | ptr a a' h => exact .ptr _ _ (h.mono hle)
  | sl a a' n c c' h => exact .sl _ _ _ _ _ (h.mono hle)
  | oldm r h => exact .oldm _ (hle.base ▸ h)
  | iface t v v' _ ih => exact .iface _ _ _ ih
  | func fn a a' b b' ha hb _ _ ka kb => exact .func _ _ _ _ _ ha hb ka kb
  | agg a a' ha _ ka => exact .agg _ _ ha ka
  | tuple a a' ha _ ka => exact .tuple _ _ ha ka
  | _ => constructor
/-- Lists of values, one by one. -/
def VRs (R : AR) (l l' : List Value) : Prop := l.length = l'.length ∧ ∀ (i : Nat) v v', l[i]? = some v → l'[i]? = some v' → VR R v v'
theorem VRs.mono {R R' : AR} (hle : R.le R') {l l' : List Value} (h : VRs R l l') : VRs R' l l' := ⟨h.1, fun i v v' a b => (h.2 i v v' a b).mono hle⟩
theorem VRs.nil (R : AR) : VRs R [] [] := ⟨rfl, fun i v v' h => by simp at h⟩
theorem VRs.cons {R : AR} {v v' : Value} {l l' : List Value} (h : VR R v v') (k : VRs R l l') : VRs R (v :: l) (v' :: l') := by
  refine ⟨by simp [k.1], fun i x x' hx hx' => ?_⟩
  cases i with
  | zero => simp at hx hx'; subst hx hx'; exact h
  | succ i => simp at hx hx'; exact k.2 i x x' hx hx'
theorem VRs.uncons {R : AR} {v : Value} {l l' : List Value} (h : VRs R (v :: l) l') : ∃ v' t', l' = v' :: t' ∧ VR R v v' ∧ VRs R l t' := by
  cases l' with
  | nil => simp [VRs] at h
  | cons v' t' => exact ⟨v', t', rfl, h.2 0 v v' rfl rfl, by have := h.1; simpa using this, fun i x x' hx hx' => h.2 (i + 1) x x' (by simpa using hx) (by simpa using hx')⟩
theorem VRs.append {R : AR} {a a' b b' : List Value} (h : VRs R a a') (k : VRs R b b') : VRs R (a ++ b) (a' ++ b') := by
  induction a generalizing a' with
  | nil =>
    cases a' with
    | nil => exact k
    | cons _ _ => simp [VRs] at h
  | cons v a ih =>
    obtain ⟨v', t', rfl, h1, h2⟩ := h.uncons
    exact .cons h1 (ih h2)
/-- No cell of a block is frozen. -/
def FzOk (cs : Nat) (fz : Nat × Nat) : Prop := fz.1 ≤ fz.2 ∧ ∀ o, o < cs → ¬ (fz.1 ≤ o ∧ o < fz.2)
theorem FzOk.zero (cs : Nat) : FzOk cs (0, 0) := ⟨Nat.le_refl _, fun o _ h => Nat.not_lt_zero _ h.2⟩
theorem FzOk.behind (cs : Nat) : FzOk cs (cs, cs + 1) := ⟨Nat.le_succ _, fun o h k => Nat.lt_irrefl _ (Nat.lt_of_lt_of_le h k.1)⟩
/-- The cells of the machine's memory that the blocks made stand for. -/
structure BlkR (R : AR) (k : Blk) (w : World) (cb cs cc : Nat) : Prop where
  live : k.live = true
  lo : R.base ≤ cb
  room : cc * k.es ≤ cs
  len : k.cells.length ≤ cs
  one : k.cells.all (·.oneCell') = true
  mem : ∃ (c : Array Value) (t : TypeId) (fz : Nat × Nat), w.heap[cb]? = some (.cells c t fz) ∧ c.size = cs ∧ FzOk cs fz ∧ ∀ (o : Nat) v v', k.cells[o]? = some v → c[o]? = some v' → VR R v v'
structure Rel (R : AR) (h : Hp) (w : World) : Prop where
  base : R.base = h.old.heap.size
  below : Below h.old.heap.size h.old w
  dead : ∀ b, R.dead b → R.rho b = none ∧ ∃ k, h.blk? b = some k ∧ k.live = false
  blk : ∀ b cb cs cc, R.rho b = some (cb, cs, cc) → R.base ≤ b ∧ ∃ k, h.blk? b = some k ∧ BlkR R k w cb cs cc
  inj : ∀ b b' e e', R.rho b = some e → R.rho b' = some e' → e.1 = e'.1 → b = b'
/-- From one state to a later one. -/
structure Step (R : AR) (h : Hp) (R' : AR) (h' : Hp) (w' : World) : Prop where
  le : R.le R'
  rel : Rel R' h' w'
  old : h'.old = h.old
  next : h.next ≤ h'.next
  new : ∀ b e, R'.rho b = some e → R.rho b = some e ∨ h.next ≤ b
theorem Step.refl {R : AR} {h : Hp} {w : World} (hr : Rel R h w) : Step R h R h w := ⟨.refl R, hr, rfl, Nat.le_refl _, fun _ _ h => .inl h⟩
theorem Step.trans {R R' R2 : AR} {h h' h2 : Hp} {w' w2 : World} (s : Step R h R' h' w') (t : Step R' h' R2 h2 w2) : Step R h R2 h2 w2 :=
  ⟨s.le.trans t.le, t.rel, t.old.trans s.old, Nat.le_trans s.next t.next, fun b e hb => (t.new b e hb).elim (s.new b e) (fun h => .inr (Nat.le_trans s.next h))⟩
theorem Hp.blk_lt {h : Hp} {b : Nat} {k : Blk} (hb : h.blk? b = some k) : h.old.heap.size ≤ b ∧ b < h.next := by
  unfold Hp.blk? at hb
  split at hb
  · simp at hb
  · rename_i hlt
    have := (List.getElem?_eq_some_iff.1 hb).1
    unfold Hp.next
    omega
theorem absV_VR {R : AR} {v u : Value} (h : absV R.base v = some u) : VR R u v := by
  unfold absV at h
  split at h
  · split at h
    · rename_i hb
      obtain rfl := Option.some.inj h
      exact .sl _ _ _ _ _ (.old _ _ _ hb)
    · rename_i hb
      split at h
      · rename_i hn
        subst hn
        obtain rfl := Option.some.inj h
        exact .sl _ _ _ _ _ (.junk _ _ _ (by simpa using hb) rfl)
      · simp at h
  · split at h
    · rename_i hb
      obtain rfl := Option.some.inj h
      exact .ptr _ _ (.old _ hb)
    · simp at h
  all_goals first
    | (obtain rfl := Option.some.inj h; constructor)
    | simp at h
theorem absV_one {b : Nat} {v u : Value} (h : absV b v = some u) : u.oneCell' = true := by
  unfold absV at h
  (repeat' split at h) <;> first | (obtain rfl := Option.some.inj h; rfl) | simp at h
/-- A cell that may be read stands in the machine's memory. -/
theorem Rel.cell {R : AR} {h : Hp} {w : World} (hr : Rel R h w) {a a' : Addr} (ha : AddrR R a a') {v : Value} (hc : h.cell? a = some v) : ∃ v', w.cell? a' = some v' ∧ VR R v v' ∧ v.oneCell' = true := by
  unfold Hp.cell? at hc
  cases ha with
  | old _ hb =>
    rw [if_pos (hr.base ▸ hb)] at hc
    obtain ⟨u, hu, hv⟩ := Option.bind_eq_some_iff.1 hc
    rw [← hr.base] at hv
    exact ⟨u, (hr.below.cell (hr.base ▸ hb)).trans hu, absV_VR hv, absV_one hv⟩
  | new b o cb cs cc hb hrho =>
    have hb' := hb
    rw [hr.base] at hb'
    rw [if_neg (by simpa using hb')] at hc
    obtain ⟨-, k, hk, hbr⟩ := hr.blk _ _ _ _ hrho
    simp only [hk, Option.isSome_none, Bool.false_eq_true, if_false, hbr.live, if_true] at hc
    obtain ⟨c, t, fz, hm, hs, hf, hv⟩ := hbr.mem
    have ho := (List.getElem?_eq_some_iff.1 hc).1
    have hl := hbr.len
    have hlt : o < c.size := by omega
    refine ⟨c[o], ?_, hv o v _ hc (by simp [hlt]), List.all_eq_true.1 hbr.one _ (List.mem_of_getElem? hc)⟩
    simp [World.cell?, hm, hlt]
  | dead _ _ hb hd =>
    rw [if_neg (by rw [← hr.base]; omega)] at hc
    cases hk : h.blk? a.block with
    | none => simp [hk] at hc
    | some k =>
      obtain ⟨k2, h2, h3⟩ := (hr.dead _ hd).2
      rw [hk] at h2
      obtain rfl := Option.some.inj h2
      simp [hk, h3] at hc
  | junk _ _ hb hs =>
    rw [if_neg (by rw [← hr.base]; omega), if_pos hs] at hc
    simp at hc
theorem AddrR.add {R : AR} {a a' : Addr} (h : AddrR R a a') (hj : ¬ (R.base ≤ a.block ∧ a.spot.isSome = true)) (n : Nat) : AddrR R (a.add n) (a'.add n) := by
  cases h with
  | old _ hb =>
    refine .old _ ?_
    unfold Addr.add
    split <;> exact hb
  | new b o cb cs cc hb hr =>
    unfold Addr.add
    split
    · exact .new _ _ _ _ _ hb hr
    · exact .new _ _ _ _ _ hb hr
  | dead _ _ hb hd =>
    unfold Addr.add
    split
    · exact .dead _ _ hb hd
    · exact .dead _ _ hb hd
  | junk _ _ hb hs => exact absurd ⟨hb, hs⟩ hj
theorem Rel.cellsFrom {R : AR} {h : Hp} {w : World} (hr : Rel R h w) {a a' : Addr} (ha : AddrR R a a') (hj : ¬ (R.base ≤ a.block ∧ a.spot.isSome = true)) : ∀ (n i : Nat) (l : List Value), h.cellsFrom a i n = some l →
    ∃ l', VRs R l l' ∧ l.all (·.oneCell') = true ∧ l'.length = n ∧ ∀ j v, l'[j]? = some v → w.cell? (a'.add (i + j)) = some v
  | 0, i, l, hl => by
    simp [Hp.cellsFrom] at hl
    subst hl
    exact ⟨[], .nil R, rfl, rfl, by simp⟩
  | n + 1, i, l, hl => by
    simp only [Hp.cellsFrom] at hl
    cases hc : h.cell? (a.add i) with
    | none => simp [hc] at hl
    | some v =>
      simp only [hc] at hl
      obtain ⟨t, ht, rfl⟩ := Option.map_eq_some_iff.1 hl
      obtain ⟨v', hw, hv, ho⟩ := hr.cell (ha.add hj i) hc
      obtain ⟨t', h1, h1o, h2, h3⟩ := hr.cellsFrom ha hj n (i + 1) t ht
      refine ⟨v' :: t', .cons hv h1, by simp only [List.all_cons, ho, h1o, Bool.and_self], by simp [h2], fun j u hj => ?_⟩
      cases j with
      | zero => simp at hj; subst hj; simpa using hw
      | succ j => simp at hj; have := h3 j u hj; rwa [show i + (j + 1) = i + 1 + j by omega]
theorem Rel.cells {R : AR} {h : Hp} {w : World} (P : Program) (hr : Rel R h w) {a a' : Addr} (ha : AddrR R a a') {n : Nat} {l : List Value} (hl : h.cells? a n = some l) :
    ∃ l', VRs R l l' ∧ l.all (·.oneCell') = true ∧ l'.length = n ∧ (loadCells a' n).run P w = .ok l'.toArray w := by
  have key : ∃ l', VRs R l l' ∧ l.all (·.oneCell') = true ∧ l'.length = n ∧ ∀ j v, l'[j]? = some v → w.cell? (a'.add (0 + j)) = some v := by
    by_cases hj : R.base ≤ a.block ∧ a.spot.isSome = true
    · cases n with
      | zero =>
        simp [Hp.cells?, Hp.cellsFrom] at hl
        subst hl
        exact ⟨[], .nil R, rfl, rfl, by simp⟩
      | succ n =>
        have : h.cell? (a.add 0) = none := by
          show h.cell? a = none
          unfold Hp.cell?
          rw [if_neg (by have := hj.1; rw [hr.base] at this; omega), if_pos hj.2]
        simp [Hp.cells?, Hp.cellsFrom, this] at hl
    · exact hr.cellsFrom ha hj n 0 l hl
  obtain ⟨l', h1, h1o, h2, h3⟩ := key
  refine ⟨l', h1, h1o, h2, ?_⟩
  have := run_loadCells_list (P := P) w a' l' (fun j v hj => by simpa using h3 j v hj)
  rwa [h2] at this
def AR.add (R : AR) (id : Nat) (e : Nat × Nat × Nat) : AR := ⟨R.base, fun b => if b = id then some e else R.rho b, R.dead⟩
/-- A block that the machine has made for one that is told. -/
theorem Rel.alloc {R : AR} {h : Hp} {w : World} (hr : Rel R h w) {id : Nat} {k : Blk} (hk : h.blk? id = some k) (hl : k.live = true) (hn : R.rho id = none)
    {c : Array Value} {t : TypeId} {fz : Nat × Nat} {cc : Nat} {w' : World} (hh : w'.heap = w.heap.push (.cells c t fz)) (ho : w'.os = w.os) (ht : w'.tape = w.tape) (hp : w'.output = w.output)
    (hfz : FzOk c.size fz) (hroom : cc * k.es ≤ c.size) (hlen : k.cells.length ≤ c.size) (hone : k.cells.all (·.oneCell') = true) (hv : ∀ (o : Nat) v v', k.cells[o]? = some v → c[o]? = some v' → VR R v v') :
    R.le (R.add id (w.heap.size, c.size, cc)) ∧ Rel (R.add id (w.heap.size, c.size, cc)) h w' := by
  have hle : R.le (R.add id (w.heap.size, c.size, cc)) := by
    refine ⟨rfl, fun b e hb => .inl ?_, fun b hb => hb⟩
    show (if b = id then _ else R.rho b) = some e
    rw [if_neg (fun e => by rw [e, hn] at hb; simp at hb)]
    exact hb
  have hsz := hr.below.size
  refine ⟨hle, ⟨hr.base, ?_, fun b hb => ⟨?_, (hr.dead b hb).2⟩, fun b cb cs cc' hb => ?_, fun b b' e e' hb hb' he => ?_⟩⟩
  · refine ⟨ho.trans hr.below.os, ht.trans hr.below.tape, hp.trans hr.below.output, by rw [hh]; simp; omega, fun j hj => ?_⟩
    rw [hh, Array.getElem?_push, if_neg (by omega)]
    exact hr.below.block j hj
  · show (if b = id then _ else R.rho b) = none
    rw [if_neg]
    · exact (hr.dead b hb).1
    · intro e
      subst e
      obtain ⟨k2, h2, h3⟩ := (hr.dead b hb).2
      rw [hk] at h2
      obtain rfl := Option.some.inj h2
      rw [hl] at h3
      simp at h3
  · have hb2 : (if b = id then some (w.heap.size, c.size, cc) else R.rho b) = some (cb, cs, cc') := hb
    by_cases e : b = id
    · subst e
      rw [if_pos rfl] at hb2
      simp only [Option.some.injEq, Prod.mk.injEq] at hb2
      obtain ⟨rfl, rfl, rfl⟩ := hb2
      refine ⟨by show R.base ≤ b; rw [hr.base]; exact (Hp.blk_lt hk).1, k, hk, hl, by show R.base ≤ _; rw [hr.base]; exact hsz, hroom, hlen, hone, c, t, fz, ?_, rfl, hfz, fun o v v' h1 h2 => (hv o v v' h1 h2).mono hle⟩
      rw [hh]
      simp
    · rw [if_neg e] at hb2
      obtain ⟨h0, k2, hk2, hb3⟩ := hr.blk _ _ _ _ hb2
      obtain ⟨c2, t2, fz2, hm, hs, hf, hv2⟩ := hb3.mem
      have hlt : cb < w.heap.size := (Array.getElem?_eq_some_iff.1 hm).1
      refine ⟨h0, k2, hk2, hb3.live, hb3.lo, hb3.room, hb3.len, hb3.one, c2, t2, fz2, ?_, hs, hf, fun o v v' h1 h2 => (hv2 o v v' h1 h2).mono hle⟩
      rw [hh, Array.getElem?_push, if_neg (by omega)]
      exact hm
  · have hb2 : (if b = id then some (w.heap.size, c.size, cc) else R.rho b) = some e := hb
    have hb3 : (if b' = id then some (w.heap.size, c.size, cc) else R.rho b') = some e' := hb'
    have lt : ∀ b e, R.rho b = some e → e.1 < w.heap.size := fun b e hb => by
      obtain ⟨cb, cs, cc⟩ := e
      obtain ⟨-, k2, -, hb3⟩ := hr.blk _ _ _ _ hb
      obtain ⟨c2, t2, fz2, hm, -⟩ := hb3.mem
      exact (Array.getElem?_eq_some_iff.1 hm).1
    by_cases h1 : b = id <;> by_cases h2 : b' = id
    · rw [h1, h2]
    · rw [if_pos h1] at hb2
      rw [if_neg h2] at hb3
      obtain rfl := Option.some.inj hb2
      have := lt _ _ hb3
      simp at he
      omega
    · rw [if_neg h1] at hb2
      rw [if_pos h2] at hb3
      obtain rfl := Option.some.inj hb3
      have := lt _ _ hb2
      simp at he
      omega
    · rw [if_neg h1] at hb2
      rw [if_neg h2] at hb3
      exact hr.inj _ _ _ _ hb2 hb3 he
/-- A block told that the machine has not made yet. -/
theorem Hp.blk_push (h : Hp) (k : Blk) : (h.push k).blk? h.next = some k := by
  unfold Hp.blk? Hp.push Hp.next
  rw [if_neg (by simp)]
  simp
theorem Hp.blk_push_ne (h : Hp) (k : Blk) {b : Nat} (hb : b ≠ h.next) : (h.push k).blk? b = h.blk? b := by
  unfold Hp.blk? Hp.push
  unfold Hp.next at hb
  by_cases c : b < h.old.heap.size
  · simp [c]
  · simp only [c, if_false]
    rw [List.getElem?_append]
    by_cases c2 : b - h.old.heap.size < h.new.length
    · rw [if_pos c2]
    · rw [if_neg c2, List.getElem?_eq_none (by simp; omega), List.getElem?_eq_none (by omega)]
theorem Hp.next_push (h : Hp) (k : Blk) : (h.push k).next = h.next + 1 := by
  simp [Hp.next, Hp.push]
  omega
theorem Hp.blk_next (h : Hp) : h.blk? h.next = none := by
  unfold Hp.blk? Hp.next
  rw [if_neg (by omega)]
  simp
theorem Rel.push {R : AR} {h : Hp} {w : World} (hr : Rel R h w) (k : Blk) : Rel R (h.push k) w ∧ R.rho h.next = none := by
  have hn : R.rho h.next = none := by
    cases hb : R.rho h.next with
    | none => rfl
    | some e =>
      obtain ⟨cb, cs, cc⟩ := e
      obtain ⟨-, k, hk, -⟩ := hr.blk _ _ _ _ hb
      rw [Hp.blk_next] at hk
      simp at hk
  refine ⟨⟨hr.base, hr.below, fun b hb => ⟨(hr.dead b hb).1, ?_⟩, fun b cb cs cc hb => ?_, hr.inj⟩, hn⟩
  · obtain ⟨k2, h2, h3⟩ := (hr.dead b hb).2
    refine ⟨k2, ?_, h3⟩
    rw [Hp.blk_push_ne _ _ (fun e => by rw [e, Hp.blk_next] at h2; simp at h2)]
    exact h2
  · obtain ⟨h0, k2, hk2, hb3⟩ := hr.blk _ _ _ _ hb
    refine ⟨h0, k2, ?_, hb3⟩
    rw [Hp.blk_push_ne _ _ (fun e => by subst e; rw [hn] at hb; simp at hb)]
    exact hk2
end Go.Proofs.Ytalhipbbomagoaa.Ab
