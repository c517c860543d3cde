/- States of plain values: what a walk knows of memory is told by values alone. Told here: the values, what it is that they stand for, and how that lasts. No statement of the set is proved in this text. -/
import Derived.Test.YtalhipbbomagoaaAbV
import Derived.Test.YtalhipbbomagoaaAbQ
namespace Go.Proofs.Ytalhipbbomagoaa.Pv
open Go.RowKit Go.Proofs.Ytalhipbbomagoaa.Ab
set_option linter.unusedVariables false
set_option linter.unusedSimpArgs false
/-- A plain value. 'sl': a slice that is only read, as a list; 'osl': a whole slice of a block of one's own; 'osb': a part of it; 'ptr': into a variable of one's own; 'oel': to an element of a block of one's own; 'elt': to an element of a list that is read; 'ref': to cells that are read. -/
inductive PV where
  | und
  | int (k : IntKind) (n : Int)
  | bool (b : Bool)
  | str (s : ByteArray)
  | agg (l : List PV)
  | tup (l : List PV)
  | nilI
  | nilF
  | nilP
  | nilS
  | ifc (t : TypeId) (v : PV)
  | fn (g : FuncId) (a b : List PV)
  | ptr (b o : Nat)
  | osl (b n : Nat)
  | osb (b n lo m : Nat)
  | oel (b n i o : Nat)
  | sl (d : D) (l : List d.T)
  | elt (d : D) (l : List d.T) (i o : Nat)
  | ref (l : List PV) (o : Nat)
/-- A block of one's own: a variable, a row of known cells, or a list of data. -/
inductive OB where
  | dead
  | var (l : List PV)
  | row (es n : Nat) (l : List PV)
  | arr (d : D) (l : List d.T)
def OB.sig : OB → Option (Nat × Nat)
  | .dead => none
  | .var _ => none
  | .row es n _ => some (es, n)
  | .arr d l => some (d.sz, l.length)
def OB.isV : OB → Bool
  | .var _ => true
  | _ => false
def OB.live : OB → Bool
  | .dead => false
  | _ => true
structure Cx where
  m : Hp
  i : Nat → Option Nat
  s : List OB
def lvV (X : Cx) (b : Nat) : Prop := ∃ o, X.s[b]? = some o ∧ o.isV = true
def lvS (X : Cx) (b es n : Nat) : Prop := ∃ o, X.s[b]? = some o ∧ o.sig = some (es, n)
def slV : Option Nat → Nat → Nat → Value
  | none, _, _ => .slice none 0 0
  | some k, n, c => .slice (some ⟨k, 0, none⟩) n c
inductive PR (X : Cx) : PV → Value → Prop where
  | und (v : Value) : PR X .und v
  | int (k : IntKind) (n : Int) : PR X (.int k n) (.int k n)
  | bool (b : Bool) : PR X (.bool b) (.bool b)
  | str (s : ByteArray) : PR X (.str s) (.string s)
  | agg (l : List PV) (a : List Value) (hl : l.length = a.length) (h : ∀ (j : Nat) p v, l[j]? = some p → a[j]? = some v → PR X p v) : PR X (.agg l) (.agg a.toArray)
  | tup (l : List PV) (a : List Value) (hl : l.length = a.length) (h : ∀ (j : Nat) p v, l[j]? = some p → a[j]? = some v → PR X p v) : PR X (.tup l) (.tuple a.toArray)
  | nilI : PR X .nilI .nilIface
  | nilF : PR X .nilF .nilFunc
  | nilP : PR X .nilP (.pointer none)
  | nilS : PR X .nilS (.slice none 0 0)
  | ifc (t : TypeId) (p : PV) (v : Value) (h : PR X p v) : PR X (.ifc t p) (.iface t v)
  | fn (g : FuncId) (a b : List PV) (a' b' : List Value) (ha : a.length = a'.length) (hb : b.length = b'.length) (ka : ∀ (j : Nat) p v, a[j]? = some p → a'[j]? = some v → PR X p v) (kb : ∀ (j : Nat) p v, b[j]? = some p → b'[j]? = some v → PR X p v) : PR X (.fn g a b) (.func (.func g) a'.toArray b'.toArray)
  | ptr (b o : Nat) (v : Value) (hv : ∃ a, v = .pointer (some a)) (hb : b < X.s.length) (h : lvV X b → ∃ k, X.i b = some k ∧ v = .pointer (some ⟨k, o, none⟩)) : PR X (.ptr b o) v
  | osl (b n : Nat) (v : Value) (hv : ∃ A n c, v = .slice A n c) (hb : b < X.s.length) (h : ∀ es n', lvS X b es n' → n < n' ∨ (n = n' ∧ ∃ c, (c = n ∨ c = n + 1) ∧ v = slV (X.i b) n c)) : PR X (.osl b n) v
  | osb (b n lo m : Nat) (v : Value) (hv : ∃ A n c, v = .slice A n c) (hb : b < X.s.length) (h : ∀ es n', lvS X b es n' → n < n' ∨ (n = n' ∧ lo + m ≤ n ∧ ∃ A c, m ≤ c ∧ v = .slice A m c ∧ (m = 0 ∨ ∃ k, X.i b = some k ∧ A = some ⟨k, lo * es, none⟩))) : PR X (.osb b n lo m) v
  | oel (b n i o : Nat) (v : Value) (hv : ∃ a, v = .pointer (some a)) (hb : b < X.s.length) (h : ∀ es n', lvS X b es n' → n < n' ∨ (n = n' ∧ i < n ∧ ∃ k, X.i b = some k ∧ v = .pointer (some ⟨k, i * es + o, none⟩))) : PR X (.oel b n i o) v
  | sl (d : D) (l : List d.T) (v : Value) (h : (D.sl d).Is X.m l [v]) : PR X (.sl d l) v
  | elt (d : D) (l : List d.T) (i o : Nat) (a : Addr) (n c : Nat) (rw : List Value) (hi : i < l.length) (hd : 0 < d.sz) (hr : rowV X.m d.sz (.slice (some a) n c) = some rw) (hc : Chunks (d.Is X.m) l rw) : PR X (.elt d l i o) (.pointer (some (a.add (i * d.sz + o))))
  | ref (l : List PV) (o : Nat) (a : Addr) (cs : List Value) (hs : a.spot = none) (hl : l.length = cs.length) (hc : X.m.cells? a l.length = some cs) (h : ∀ (j : Nat) p v, l[j]? = some p → cs[j]? = some v → PR X p v) : PR X (.ref l o) (.pointer (some (a.add o)))
/-- Lists, one by one. -/
def PRs (X : Cx) (l : List PV) (us : List Value) : Prop := l.length = us.length ∧ ∀ (j : Nat) p v, l[j]? = some p → us[j]? = some v → PR X p v
theorem PRs.nil (X : Cx) : PRs X [] [] := ⟨rfl, fun j p v h => by simp at h⟩
theorem PRs.cons {X : Cx} {p : PV} {v : Value} {l : List PV} {us : List Value} (h : PR X p v) (k : PRs X l us) : PRs X (p :: l) (v :: us) :=
  ⟨by simp [k.1], fun j q u hq hu => by
    cases j with
    | zero => simp at hq hu; subst hq hu; exact h
    | succ j => exact k.2 j q u (by simpa using hq) (by simpa using hu)⟩
theorem PRs.uncons {X : Cx} {p : PV} {l : List PV} {us : List Value} (h : PRs X (p :: l) us) : ∃ v t, us = v :: t ∧ PR X p v ∧ PRs X l t := by
  cases us with
  | nil => simp [PRs] at h
  | cons v t => exact ⟨v, t, rfl, h.2 0 p v rfl rfl, by have := h.1; simpa using this, fun j q u hq hu => h.2 (j + 1) q u (by simpa using hq) (by simpa using hu)⟩
theorem PRs.append {X : Cx} : ∀ {a b : List PV} {us vs : List Value}, PRs X a us → PRs X b vs → PRs X (a ++ b) (us ++ vs)
  | [], b, us, vs, h, k => by
    have : us = [] := List.eq_nil_of_length_eq_zero h.1.symm
    subst this; exact k
  | p :: a, b, us, vs, h, k => by
    obtain ⟨v, t, rfl, h1, h2⟩ := h.uncons
    exact .cons h1 (h2.append k)
theorem PRs.get {X : Cx} {l : List PV} {us : List Value} (h : PRs X l us) {j : Nat} {p : PV} (hp : l[j]? = some p) : ∃ v, us[j]? = some v ∧ PR X p v := by
  have hlt : j < us.length := by rw [← h.1]; exact (List.getElem?_eq_some_iff.1 hp).1
  exact ⟨us[j], by simp [hlt], h.2 j p _ hp (by simp [hlt])⟩
theorem PRs.map {X : Cx} {α : Type} {f : α → PV} {g : α → Value} {l : List α} (h : ∀ x ∈ l, PR X (f x) (g x)) : PRs X (l.map f) (l.map g) :=
  ⟨by simp, fun j p v hp hv => by
    simp only [List.getElem?_map, Option.map_eq_some_iff] at hp hv
    obtain ⟨x, hx, rfl⟩ := hp
    obtain ⟨y, hy, rfl⟩ := hv
    rw [hx] at hy
    obtain rfl := Option.some.inj hy
    exact h x (List.mem_of_getElem? hx)⟩
theorem PRs.take {X : Cx} {l : List PV} {us : List Value} (h : PRs X l us) (n : Nat) : PRs X (l.take n) (us.take n) :=
  ⟨by simp [h.1], fun j p v hp hv => by
    rw [List.getElem?_take] at hp hv
    split at hp
    · rename_i hj
      rw [if_pos hj] at hv
      exact h.2 j p v hp hv
    · simp at hp⟩
theorem PRs.drop {X : Cx} {l : List PV} {us : List Value} (h : PRs X l us) (n : Nat) : PRs X (l.drop n) (us.drop n) :=
  ⟨by simp [h.1], fun j p v hp hv => by
    rw [List.getElem?_drop] at hp hv
    exact h.2 _ p v hp hv⟩
/-- All that can be read can be read later. -/
structure KeepsC (a b : Hp) : Prop where
  old : b.old = a.old
  cell : ∀ ad v, a.cell? ad = some v → b.cell? ad = some v
theorem KeepsC.refl (a : Hp) : KeepsC a a := ⟨rfl, fun _ _ h => h⟩
theorem KeepsC.trans {a b c : Hp} (h : KeepsC a b) (k : KeepsC b c) : KeepsC a c := ⟨k.old.trans h.old, fun ad v hv => k.cell ad v (h.cell ad v hv)⟩
theorem KeepsC.cellsFrom {h h' : Hp} (hk : KeepsC h h') {a : Addr} : ∀ (n i : Nat) (l : List Value), h.cellsFrom a i n = some l → h'.cellsFrom a i n = some l
  | 0, i, l, hl => by simpa [Hp.cellsFrom] using hl
  | n + 1, i, l, hl => by
    simp only [Hp.cellsFrom] at hl ⊢
    cases hc : h.cell? (a.add i) with
    | none => simp [hc] at hl
    | some v =>
      simp only [hc] at hl
      obtain ⟨t, ht, rfl⟩ := Option.map_eq_some_iff.1 hl
      rw [hk.cell _ _ hc]
      simp only
      rw [hk.cellsFrom n (i + 1) t ht]
      rfl
theorem KeepsC.row {h h' : Hp} (k : KeepsC h h') {es : Nat} {v : Value} {l : List Value} (hr : rowV h es v = some l) : rowV h' es v = some l := by
  unfold rowV at hr ⊢
  split at hr
  · exact hr
  · exact k.cellsFrom _ _ _ hr
  · simp at hr
theorem ChMono {α : Type} {p q : α → List Value → Prop} (h : ∀ x c, p x c → q x c) : ∀ {l : List α} {r : List Value}, Chunks p l r → Chunks q l r
  | [], r, hr => hr
  | x :: l, r, ⟨c, t, e, h1, h2⟩ => ⟨c, t, e, h x c h1, ChMono h h2⟩
theorem Is_mono {a b : Hp} (k : KeepsC a b) : ∀ (d : D) (x : d.T) (us : List Value), d.Is a x us → d.Is b x us
  | .int _, _, _, h => h
  | .bool, _, _, h => h
  | .str, _, _, h => h
  | .sl d, l, us, h => by
    obtain ⟨A, c, rw, e, h0, h1, h2⟩ := h
    exact ⟨A, c, rw, e, h0, k.row h1, ChMono (Is_mono k d) h2⟩
  | .st d, x, us, h => Is_mono k d x us h
  | .nil, _, _, h => h
  | .cons d e, x, us, h => by
    obtain ⟨c, r, q, h1, h2⟩ := h
    exact ⟨c, r, q, Is_mono k d _ _ h1, Is_mono k e _ _ h2⟩
/-- A later state: what can be read stands; a block of one's own is what it was, or has grown, or is gone. -/
structure Cx.le (X Y : Cx) : Prop where
  m : KeepsC X.m Y.m
  len : X.s.length ≤ Y.s.length
  v : ∀ b, b < X.s.length → lvV Y b → lvV X b ∧ Y.i b = X.i b
  s : ∀ b es n, b < X.s.length → lvS Y b es n → ∃ n0, n0 ≤ n ∧ lvS X b es n0 ∧ (n0 = n → Y.i b = X.i b)
theorem Cx.le.refl (X : Cx) : X.le X := ⟨.refl _, Nat.le_refl _, fun _ _ h => ⟨h, rfl⟩, fun b es n _ h => ⟨n, Nat.le_refl _, h, fun _ => rfl⟩⟩
theorem Cx.le.trans {X Y Z : Cx} (h : X.le Y) (k : Y.le Z) : X.le Z :=
  ⟨h.m.trans k.m, Nat.le_trans h.len k.len, fun b hb hz => by
    obtain ⟨h1, e1⟩ := k.v b (Nat.lt_of_lt_of_le hb h.len) hz
    obtain ⟨h2, e2⟩ := h.v b hb h1
    exact ⟨h2, e1.trans e2⟩, fun b es n hb hz => by
    obtain ⟨n1, l1, h1, e1⟩ := k.s b es n (Nat.lt_of_lt_of_le hb h.len) hz
    obtain ⟨n0, l0, h0, e0⟩ := h.s b es n1 hb h1
    exact ⟨n0, Nat.le_trans l0 l1, h0, fun e => by
      have a1 : n1 = n := by omega
      have a0 : n0 = n1 := by omega
      exact (e1 a1).trans (e0 a0)⟩⟩
theorem PR.mono {X Y : Cx} (hle : X.le Y) {p : PV} {v : Value} (h : PR X p v) : PR Y p v := by
  induction h with
  | und v => exact .und v
  | agg l a hl _ ih => exact .agg l a hl ih
  | tup l a hl _ ih => exact .tup l a hl ih
  | ifc t p v _ ih => exact .ifc t p v ih
  | fn g a b a' b' ha hb _ _ ka kb => exact .fn g a b a' b' ha hb ka kb
  | ptr b o v hv hb h =>
    refine .ptr b o v hv (Nat.lt_of_lt_of_le hb hle.len) (fun hl => ?_)
    obtain ⟨h1, e1⟩ := hle.v b hb hl
    rw [e1]
    exact h h1
  | osl b n v hv hb h =>
    refine .osl b n v hv (Nat.lt_of_lt_of_le hb hle.len) (fun es n' hl => ?_)
    obtain ⟨n0, l0, h0, e0⟩ := hle.s b es n' hb hl
    rcases h es n0 h0 with h1 | ⟨h1, h2⟩
    · exact .inl (by omega)
    · by_cases e : n0 = n'
      · rw [e0 e]
        exact .inr ⟨h1.trans e, h2⟩
      · exact .inl (by omega)
  | osb b n lo m v hv hb h =>
    refine .osb b n lo m v hv (Nat.lt_of_lt_of_le hb hle.len) (fun es n' hl => ?_)
    obtain ⟨n0, l0, h0, e0⟩ := hle.s b es n' hb hl
    rcases h es n0 h0 with h1 | ⟨h1, h2⟩
    · exact .inl (by omega)
    · by_cases e : n0 = n'
      · rw [e0 e]
        exact .inr ⟨h1.trans e, h2⟩
      · exact .inl (by omega)
  | oel b n i o v hv hb h =>
    refine .oel b n i o v hv (Nat.lt_of_lt_of_le hb hle.len) (fun es n' hl => ?_)
    obtain ⟨n0, l0, h0, e0⟩ := hle.s b es n' hb hl
    rcases h es n0 h0 with h1 | ⟨h1, h2⟩
    · exact .inl (by omega)
    · by_cases e : n0 = n'
      · rw [e0 e]
        exact .inr ⟨h1.trans e, h2⟩
      · exact .inl (by omega)
  | sl d l v h => exact .sl d l v (Is_mono hle.m (.sl d) l [v] h)
  | elt d l i o a n c rw hi hd hr hc => exact .elt d l i o a n c rw hi hd (hle.m.row hr) (ChMono (Is_mono hle.m d) hc)
  | ref l o a cs hs hl hc _ ih => exact .ref l o a cs hs hl (hle.m.cellsFrom _ _ _ hc) ih
  | _ => constructor
theorem PRs.mono {X Y : Cx} (hle : X.le Y) {l : List PV} {us : List Value} (h : PRs X l us) : PRs Y l us := ⟨h.1, fun j p v hp hv => (h.2 j p v hp hv).mono hle⟩
/-! what stands for what -/
section
variable {X : Cx} {v : Value}
theorem PR.int_inv {k : IntKind} {n : Int} (h : PR X (.int k n) v) : v = .int k n := by cases h; rfl
theorem PR.bool_inv {b : Bool} (h : PR X (.bool b) v) : v = .bool b := by cases h; rfl
theorem PR.str_inv {s : ByteArray} (h : PR X (.str s) v) : v = .string s := by cases h; rfl
theorem PR.agg_inv {l : List PV} (h : PR X (.agg l) v) : ∃ a, v = .agg a.toArray ∧ PRs X l a := by cases h with | agg _ a hl k => exact ⟨a, rfl, hl, k⟩
theorem PR.tup_inv {l : List PV} (h : PR X (.tup l) v) : ∃ a, v = .tuple a.toArray ∧ PRs X l a := by cases h with | tup _ a hl k => exact ⟨a, rfl, hl, k⟩
theorem PR.fn_inv {g : FuncId} {a b : List PV} (h : PR X (.fn g a b) v) : ∃ a' b', v = .func (.func g) a'.toArray b'.toArray ∧ PRs X a a' ∧ PRs X b b' := by cases h with | fn _ _ _ a' b' ha hb ka kb => exact ⟨a', b', rfl, ⟨ha, ka⟩, hb, kb⟩
theorem PR.ifc_inv {t : TypeId} {p : PV} (h : PR X (.ifc t p) v) : ∃ u, v = .iface t u ∧ PR X p u := by cases h with | ifc _ _ u k => exact ⟨u, rfl, k⟩
theorem PR.nilI_inv (h : PR X .nilI v) : v = .nilIface := by cases h; rfl
theorem PR.nilF_inv (h : PR X .nilF v) : v = .nilFunc := by cases h; rfl
theorem PR.nilP_inv (h : PR X .nilP v) : v = .pointer none := by cases h; rfl
theorem PR.nilS_inv (h : PR X .nilS v) : v = .slice none 0 0 := by cases h; rfl
theorem PR.ptr_inv {b o : Nat} (h : PR X (.ptr b o) v) : lvV X b → ∃ k, X.i b = some k ∧ v = .pointer (some ⟨k, o, none⟩) := by cases h with | ptr _ _ _ hv hb k => exact k
theorem PR.ptr_form {b o : Nat} (h : PR X (.ptr b o) v) : ∃ a, v = .pointer (some a) := by cases h with | ptr _ _ _ hv hb k => exact hv
theorem PR.osl_form {b n : Nat} (h : PR X (.osl b n) v) : ∃ A n c, v = .slice A n c := by cases h with | osl _ _ _ hv hb k => exact hv
theorem PR.osb_form {b n lo m : Nat} (h : PR X (.osb b n lo m) v) : ∃ A n c, v = .slice A n c := by cases h with | osb _ _ _ _ _ hv hb k => exact hv
theorem PR.oel_form {b n i o : Nat} (h : PR X (.oel b n i o) v) : ∃ a, v = .pointer (some a) := by cases h with | oel _ _ _ _ _ hv hb k => exact hv
theorem PR.osl_inv {b n : Nat} (h : PR X (.osl b n) v) : ∀ es n', lvS X b es n' → n < n' ∨ (n = n' ∧ ∃ c, (c = n ∨ c = n + 1) ∧ v = slV (X.i b) n c) := by cases h with | osl _ _ _ hv hb k => exact k
theorem PR.osb_inv {b n lo m : Nat} (h : PR X (.osb b n lo m) v) : ∀ es n', lvS X b es n' → n < n' ∨ (n = n' ∧ lo + m ≤ n ∧ ∃ A c, m ≤ c ∧ v = .slice A m c ∧ (m = 0 ∨ ∃ k, X.i b = some k ∧ A = some ⟨k, lo * es, none⟩)) := by cases h with | osb _ _ _ _ _ hv hb k => exact k
theorem PR.oel_inv {b n i o : Nat} (h : PR X (.oel b n i o) v) : ∀ es n', lvS X b es n' → n < n' ∨ (n = n' ∧ i < n ∧ ∃ k, X.i b = some k ∧ v = .pointer (some ⟨k, i * es + o, none⟩)) := by cases h with | oel _ _ _ _ _ hv hb k => exact k
theorem PR.sl_inv {d : D} {l : List d.T} (h : PR X (.sl d l) v) : (D.sl d).Is X.m l [v] := by cases h with | sl _ _ _ k => exact k
theorem PR.sl_inv' {d : D} {l : List d.T} (h : PR X (.sl d l) v) : ∃ A c rw, v = .slice A l.length c ∧ l.length ≤ c ∧ rowV X.m d.sz (.slice A l.length c) = some rw ∧ Chunks (d.Is X.m) l rw := by
  obtain ⟨A, c, rw, e, h0, h1, h2⟩ := h.sl_inv
  exact ⟨A, c, rw, by simpa using e, h0, h1, h2⟩
theorem PR.elt_inv {d : D} {l : List d.T} {i o : Nat} (h : PR X (.elt d l i o) v) : ∃ a n c rw, v = .pointer (some (a.add (i * d.sz + o))) ∧ i < l.length ∧ 0 < d.sz ∧ rowV X.m d.sz (.slice (some a) n c) = some rw ∧ Chunks (d.Is X.m) l rw := by cases h with | elt _ _ _ _ a n c rw hi hd hr hc => exact ⟨a, n, c, rw, rfl, hi, hd, hr, hc⟩
theorem PR.ref_inv {l : List PV} {o : Nat} (h : PR X (.ref l o) v) : ∃ a cs, v = .pointer (some (a.add o)) ∧ a.spot = none ∧ X.m.cells? a l.length = some cs ∧ PRs X l cs := by cases h with | ref _ _ a cs hs hl hc k => exact ⟨a, cs, rfl, hs, hc, hl, k⟩
end
/-! data as plain values -/
def encP : (d : D) → d.T → List PV
  | .int k, n => [.int k n]
  | .bool, b => [.bool b]
  | .str, s => [.str s]
  | .sl d, l => [.sl d l]
  | .st d, x => encP d x
  | .nil, _ => []
  | .cons d e, x => encP d x.1 ++ encP e x.2
theorem encP_len : ∀ (d : D) (x : d.T), (encP d x).length = d.sz
  | .int _, _ => rfl
  | .bool, _ => rfl
  | .str, _ => rfl
  | .sl _, _ => rfl
  | .st d, x => encP_len d x
  | .nil, _ => rfl
  | .cons d e, x => by show (encP d x.1 ++ encP e x.2).length = d.sz + e.sz; rw [List.length_append, encP_len d, encP_len e]
theorem PRs.one {X : Cx} {p : PV} {v : Value} (h : PR X p v) : PRs X [p] [v] := .cons h (.nil X)
theorem PRs.one_inv {X : Cx} {p : PV} {us : List Value} (h : PRs X [p] us) : ∃ v, us = [v] ∧ PR X p v := by
  obtain ⟨v, t, rfl, h1, h2⟩ := h.uncons
  have : t = [] := List.eq_nil_of_length_eq_zero h2.1.symm
  subst this
  exact ⟨v, rfl, h1⟩
theorem encP_of {X : Cx} : ∀ (d : D) (x : d.T) (us : List Value), d.Is X.m x us → PRs X (encP d x) us
  | .int _, _, us, h => by have e : us = _ := h; subst e; exact .one (.int _ _)
  | .bool, _, us, h => by have e : us = _ := h; subst e; exact .one (.bool _)
  | .str, _, us, h => by have e : us = _ := h; subst e; exact .one (.str _)
  | .sl d, l, us, h => by
    obtain ⟨A, c, rw, e, h0, h1, h2⟩ := h
    subst e
    exact .one (.sl d l _ ⟨A, c, rw, rfl, h0, h1, h2⟩)
  | .st d, x, us, h => encP_of d x us h
  | .nil, _, us, h => by have e : us = _ := h; subst e; exact .nil X
  | .cons d e, x, us, h => by
    obtain ⟨c, r, q, h1, h2⟩ := h
    subst q
    exact (encP_of d _ _ h1).append (encP_of e _ _ h2)
/-- The same data, told twice. -/
def sameD : (a b : D) → Option (PLift (a = b))
  | .int k, .int k' => if h : k = k' then some ⟨by rw [h]⟩ else none
  | .bool, .bool => some ⟨rfl⟩
  | .str, .str => some ⟨rfl⟩
  | .nil, .nil => some ⟨rfl⟩
  | .sl a, .sl b => match sameD a b with
    | some ⟨h⟩ => some ⟨by rw [h]⟩
    | none => none
  | .st a, .st b => match sameD a b with
    | some ⟨h⟩ => some ⟨by rw [h]⟩
    | none => none
  | .cons a c, .cons b e => match sameD a b, sameD c e with
    | some ⟨h⟩, some ⟨k⟩ => some ⟨by rw [h, k]⟩
    | _, _ => none
  | _, _ => none
/-- Plain values read as data. -/
def decP : (d : D) → List PV → Option d.T
  | .int k, l => match l with
    | [.int k' n] => if k = k' then some n else none
    | _ => none
  | .bool, l => match l with
    | [.bool b] => some b
    | _ => none
  | .str, l => match l with
    | [.str s] => some s
    | _ => none
  | .sl d, l => match l with
    | [.sl d' l'] => (match sameD d' d with
      | some ⟨h⟩ => some (h ▸ l')
      | none => none)
    | [.nilS] => some ([] : List d.T)
    | _ => none
  | .st d, l => decP d l
  | .nil, l => match l with
    | [] => some ()
    | _ => none
  | .cons d e, l => match decP d (l.take d.sz), decP e (l.drop d.sz) with
    | some x, some y => some (x, y)
    | _, _ => none
theorem Is_nilS (m : Hp) (d : D) : (D.sl d).Is m ([] : List d.T) [.slice none 0 0] := ⟨none, 0, [], rfl, Nat.le_refl _, rfl, rfl⟩
theorem decP_is {X : Cx} : ∀ (d : D) (l : List PV) (x : d.T) (us : List Value), decP d l = some x → PRs X l us → d.Is X.m x us
  | .int k, l, x, us, h, hp => by
    unfold decP at h
    split at h
    · split at h
      · rename_i e
        subst e
        obtain ⟨v, rfl, hv⟩ := hp.one_inv
        obtain rfl := hv.int_inv
        obtain rfl := Option.some.inj h
        rfl
      · simp at h
    · simp at h
  | .bool, l, x, us, h, hp => by
    unfold decP at h
    split at h
    · obtain ⟨v, rfl, hv⟩ := hp.one_inv
      obtain rfl := hv.bool_inv
      obtain rfl := Option.some.inj h
      rfl
    · simp at h
  | .str, l, x, us, h, hp => by
    unfold decP at h
    split at h
    · obtain ⟨v, rfl, hv⟩ := hp.one_inv
      obtain rfl := hv.str_inv
      obtain rfl := Option.some.inj h
      rfl
    · simp at h
  | .sl d, l, x, us, h, hp => by
    unfold decP at h
    split at h
    · split at h
      · rename_i e _
        subst e
        obtain ⟨v, rfl, hv⟩ := hp.one_inv
        obtain rfl := Option.some.inj h
        exact hv.sl_inv
      · simp at h
    · obtain ⟨v, rfl, hv⟩ := hp.one_inv
      obtain rfl := hv.nilS_inv
      obtain rfl := Option.some.inj h
      exact Is_nilS _ d
    · simp at h
  | .st d, l, x, us, h, hp => decP_is d l x us h hp
  | .nil, l, x, us, h, hp => by
    unfold decP at h
    split at h
    · exact List.eq_nil_of_length_eq_zero hp.1.symm
    · simp at h
  | .cons d e, l, x, us, h, hp => by
    unfold decP at h
    split at h
    · rename_i a b ha hb
      obtain rfl := Option.some.inj h
      exact ⟨us.take d.sz, us.drop d.sz, (List.take_append_drop _ _).symm, decP_is d _ _ _ ha (hp.take _), decP_is e _ _ _ hb (hp.drop _)⟩
    · simp at h
/-- So many elements. -/
def decs (d : D) : Nat → List PV → Option (List d.T)
  | 0, l => match l with
    | [] => some []
    | _ => none
  | n + 1, l => match decP d (l.take d.sz), decs d n (l.drop d.sz) with
    | some x, some r => some (x :: r)
    | _, _ => none
theorem decs_is {X : Cx} {d : D} : ∀ (n : Nat) (l : List PV) (r : List d.T) (us : List Value), decs d n l = some r → PRs X l us → Chunks (d.Is X.m) r us ∧ r.length = n
  | 0, l, r, us, h, hp => by
    unfold decs at h
    split at h
    · obtain rfl := Option.some.inj h
      exact ⟨List.eq_nil_of_length_eq_zero hp.1.symm, rfl⟩
    · simp at h
  | n + 1, l, r, us, h, hp => by
    unfold decs at h
    split at h
    · rename_i x r' hx hr
      obtain rfl := Option.some.inj h
      obtain ⟨h1, h2⟩ := decs_is n _ _ _ hr (hp.drop _)
      exact ⟨⟨us.take d.sz, us.drop d.sz, (List.take_append_drop _ _).symm, decP_is d _ _ _ hx (hp.take _), h1⟩, by simp [h2]⟩
    · simp at h
/-! rows of data -/
theorem Chunks_len {m : Hp} {d : D} : ∀ {l : List d.T} {us : List Value}, Chunks (d.Is m) l us → us.length = l.length * d.sz
  | [], us, h => by have e : us = [] := h; subst e; simp
  | x :: l, us, ⟨c, t, e, h1, h2⟩ => by
    subst e
    rw [List.length_append, D.Is_len d x c h1, Chunks_len h2, List.length_cons, Nat.succ_mul, Nat.add_comm]
theorem Chunks_append {α : Type} {p : α → List Value → Prop} : ∀ {a b : List α} {us vs : List Value}, Chunks p a us → Chunks p b vs → Chunks p (a ++ b) (us ++ vs)
  | [], b, us, vs, h, k => by have e : us = [] := h; subst e; exact k
  | x :: a, b, us, vs, ⟨c, t, e, h1, h2⟩, k => by
    subst e
    exact ⟨c, t ++ vs, by rw [List.append_assoc], h1, Chunks_append h2 k⟩
theorem Chunks_split {m : Hp} {d : D} : ∀ (n : Nat) {l : List d.T} {us : List Value}, Chunks (d.Is m) l us → Chunks (d.Is m) (l.take n) (us.take (n * d.sz)) ∧ Chunks (d.Is m) (l.drop n) (us.drop (n * d.sz))
  | 0, l, us, h => ⟨by simp; exact rfl, by simpa using h⟩
  | n + 1, [], us, h => by have e : us = [] := h; subst e; simp; exact rfl
  | n + 1, x :: l, us, ⟨c, t, e, h1, h2⟩ => by
    subst e
    have hc := D.Is_len d x c h1
    obtain ⟨k1, k2⟩ := Chunks_split n h2
    have e1 : (c ++ t).take ((n + 1) * d.sz) = c ++ t.take (n * d.sz) := by
      rw [List.take_append, hc, Nat.succ_mul, Nat.add_sub_cancel, List.take_of_length_le (by omega)]
    have e2 : (c ++ t).drop ((n + 1) * d.sz) = t.drop (n * d.sz) := by
      rw [List.drop_append, hc, Nat.succ_mul, Nat.add_sub_cancel, List.drop_eq_nil_of_le (by omega), List.nil_append]
    rw [e1, e2]
    exact ⟨⟨c, _, rfl, h1, k1⟩, k2⟩
theorem Chunks_get {m : Hp} {d : D} {l : List d.T} {us : List Value} (h : Chunks (d.Is m) l us) {i : Nat} {x : d.T} (hx : l[i]? = some x) : d.Is m x ((us.drop (i * d.sz)).take d.sz) := by
  obtain ⟨-, k⟩ := Chunks_split i h
  have hi := (List.getElem?_eq_some_iff.1 hx).1
  have e : l.drop i = x :: l.drop (i + 1) := by
    rw [List.drop_eq_getElem_cons hi]
    have := (List.getElem?_eq_some_iff.1 hx).2
    rw [this]
  rw [e] at k
  obtain ⟨c, t, e2, h1, h2⟩ := k
  have hc := D.Is_len d x c h1
  rw [e2, ← hc, List.take_left']
  · exact h1
  · rfl
theorem Chunks_set {m : Hp} {d : D} {l : List d.T} {us : List Value} (h : Chunks (d.Is m) l us) {i : Nat} (hi : i < l.length) {x : d.T} {c : List Value} (hx : d.Is m x c) : Chunks (d.Is m) (l.set i x) (us.take (i * d.sz) ++ (c ++ us.drop ((i + 1) * d.sz))) := by
  have h1 := (Chunks_split i h).1
  have h2 := (Chunks_split (i + 1) h).2
  have e : l.set i x = l.take i ++ (x :: l.drop (i + 1)) := by
    rw [List.set_eq_take_append_cons_drop, if_pos hi]
  rw [e]
  exact Chunks_append h1 ⟨c, _, rfl, hx, h2⟩
end Go.Proofs.Ytalhipbbomagoaa.Pv
