/- Arguments that can be read as data, told as plain data over the heap of plain values; and a law's call out of what is told of it. No statement of the set is proved in this text. -/
import Derived.Test.YtalhipbbomagoaaAbU
import Derived.ProofKit
import Derived.OpenShut
import Derived.ShutString
import Derived.ChangeOld
import Derived.ChangeMaps
import Derived.Deep.Slices
import Derived.Below
namespace Go.Proofs.Ytalhipbbomagoaa.Ab
open Go.RowKit Go.WideShapes Go.ChangeShapes
open Go.ChangeMaps (open_string shut_string)
set_option linter.unusedVariables false
set_option linter.unusedSimpArgs false
inductive D where
  | int (k : IntKind)
  | bool
  | str
  | sl (d : D)
  | st (d : D)
  | nil
  | cons (d e : D)
abbrev D.T : D → Type
  | .int _ => Int
  | .bool => Bool
  | .str => ByteArray
  | .sl d => List d.T
  | .st d => d.T
  | .nil => Unit
  | .cons d e => d.T × e.T
def D.sz : D → Nat
  | .int _ | .bool | .str | .sl _ => 1
  | .st d => d.sz
  | .nil => 0
  | .cons d e => d.sz + e.sz
def Chunks {α : Type} (p : α → List Value → Prop) : List α → List Value → Prop
  | [], r => r = []
  | x :: l, r => ∃ c t, r = c ++ t ∧ p x c ∧ Chunks p l t
def D.Is (h : Hp) : (d : D) → d.T → List Value → Prop
  | .int k, n, us => us = [.int k n]
  | .bool, b, us => us = [.bool b]
  | .str, s, us => us = [.string s]
  | .st d, x, us => d.Is h x us
  | .nil, _, us => us = []
  | .cons d e, x, us => ∃ c r, us = c ++ r ∧ d.Is h x.1 c ∧ e.Is h x.2 r
  | .sl d, l, us => ∃ A c rw, us = [.slice A (List.length l) c] ∧ List.length l ≤ c ∧ rowV h d.sz (.slice A (List.length l) c) = some rw ∧ Chunks (d.Is h) l rw
def D.good : (d : D) → d.T → Prop
  | .int k, n => (Lit.int k n).wf = true
  | .bool, _ => True
  | .str, s => ByteArray.size s ≤ maxLen
  | .st d, x => d.good x
  | .nil, _ => True
  | .cons d e, x => d.good x.1 ∧ e.good x.2
  | .sl d, (l : List d.T) => List.length l ≤ 140737488351232 ∧ ∀ x ∈ l, d.good x
inductive Md where
  | ty (t : TypeId)
  | fs (total off : Nat) (l : List Field)
def D.chk (P : Program) : D → Md → Bool
  | .int k, .ty t => match P.underlying t with
    | some (.int k') => k == k'
    | _ => false
  | .bool, .ty t => match P.underlying t with
    | some .bool => true
    | _ => false
  | .str, .ty t => match P.underlying t with
    | some .string => true
    | _ => false
  | .sl d, .ty t => match P.underlying t with
    | some (.slice e) => d.sz == P.cellsOf e && decide (0 < d.sz ∧ 0 < P.bytesOf e) && d.chk P (.ty e)
    | _ => false
  | .st d, .ty t => match P.underlying t with
    | some (.struct fs) => d.chk P (.fs (P.cellsOf t) 0 fs.toList)
    | _ => false
  | .nil, .fs total off [] => off == total
  | .cons d e, .fs total off (f :: l) => f.offset == off && d.sz == P.cellsOf f.type && d.chk P (.ty f.type) && e.chk P (.fs total (off + d.sz) l)
  | _, _ => false
def absL (base : Nat) : List Value → Option (List Value)
  | [] => some []
  | v :: l => match absV base v, absL base l with
    | some u, some r => some (u :: r)
    | _, _ => none
theorem absL_append {base : Nat} : ∀ {a b us vs : List Value}, absL base a = some us → absL base b = some vs → absL base (a ++ b) = some (us ++ vs)
  | [], b, us, vs, h1, h2 => by simp [absL] at h1; subst h1; simpa using h2
  | v :: a, b, us, vs, h1, h2 => by
    unfold absL at h1
    split at h1
    · rename_i u r hu hr
      obtain rfl := Option.some.inj h1
      simp [absL, hu, absL_append hr h2]
    · simp at h1
theorem absL_len {base : Nat} : ∀ {a us : List Value}, absL base a = some us → us.length = a.length
  | [], us, h1 => by simp [absL] at h1; subst h1; rfl
  | v :: a, us, h1 => by
    unfold absL at h1
    split at h1
    · rename_i u r hu hr
      obtain rfl := Option.some.inj h1
      simp [absL_len hr]
    · simp at h1
theorem absL_get {base : Nat} : ∀ {a us : List Value}, absL base a = some us → ∀ (i : Nat) (v u : Value), a[i]? = some v → us[i]? = some u → absV base v = some u
  | [], us, h1, i, v, u, hv, hu => by simp at hv
  | w :: a, us, h1, i, v, u, hv, hu => by
    unfold absL at h1
    split at h1
    · rename_i u' r hu' hr
      obtain rfl := Option.some.inj h1
      cases i with
      | zero => simp at hv hu; subst hv hu; exact hu'
      | succ i => exact absL_get hr i v u (by simpa using hv) (by simpa using hu)
    · simp at h1
theorem absL_VRs {R : AR} {a us : List Value} (h : absL R.base a = some us) : VRs R us a := ⟨absL_len h, fun i u v hu hv => absV_VR (absL_get h i v u hv hu)⟩
def R0 (w : World) : AR := ⟨w.heap.size, fun _ => none, fun _ => False⟩
theorem Rel0 (w : World) : Rel (R0 w) ⟨w, []⟩ w := ⟨rfl, .refl _ _, fun _ h => h.elim, fun _ _ _ _ h => by simp [R0] at h, fun _ _ _ _ h => by simp [R0] at h⟩
/-- What cells tell. -/
def Op (w : World) (d : D) (cs : List Value) : Prop := ∃ (x : d.T) (us : List Value), absL w.heap.size cs = some us ∧ d.Is ⟨w, []⟩ x us ∧ d.good x
theorem D.Is_len {h : Hp} : ∀ (d : D) (x : d.T) (us : List Value), d.Is h x us → us.length = d.sz
  | .int k, _, us, hi => by have e : us = _ := hi; rw [e]; rfl
  | .bool, _, us, hi => by have e : us = _ := hi; rw [e]; rfl
  | .str, _, us, hi => by have e : us = _ := hi; rw [e]; rfl
  | .sl d, _, us, hi => by obtain ⟨A, c, rw, e, _⟩ := hi; rw [e]; rfl
  | .st d, x, us, hi => D.Is_len d x us hi
  | .nil, _, us, hi => by have e : us = _ := hi; rw [e]; rfl
  | .cons d e, x, us, hi => by
    obtain ⟨c, r, q, h1, h2⟩ := hi
    rw [q, List.length_append, D.Is_len d _ _ h1, D.Is_len e _ _ h2]
    rfl
theorem mapM_len {α β : Type} {f : α → Option β} : ∀ {l : List α} {r : List β}, l.mapM f = some r → r.length = l.length
  | [], r, h => by
    have : r = [] := by simpa using h
    rw [this]
    rfl
  | a :: l, r, h => by
    rw [List.mapM_cons] at h
    simp only [Option.bind_eq_bind, Option.bind_eq_some_iff, Option.pure_def, Option.some.injEq] at h
    obtain ⟨b, hb, r', hr, rfl⟩ := h
    simp [mapM_len hr]
theorem mapM_get {α β : Type} {f : α → Option β} : ∀ {l : List α} {r : List β}, l.mapM f = some r → ∀ (i : Nat) (a : α), l[i]? = some a → f a = r[i]?
  | [], r, h, i, a, ha => by simp at ha
  | b :: l, r, h, i, a, ha => by
    rw [List.mapM_cons] at h
    simp only [Option.bind_eq_bind, Option.bind_eq_some_iff, Option.pure_def, Option.some.injEq] at h
    obtain ⟨c, hc, r', hr, rfl⟩ := h
    cases i with
    | zero =>
      have : b = a := by simpa using ha
      subst this
      simpa using hc
    | succ i => simpa using mapM_get hr i a (by simpa using ha)
theorem wcells_at {w : World} {a : Addr} {n : Nat} {cs : List Value} (h : w.cells? 0 a n = some cs) : cs.length = n ∧ ∀ i u, cs[i]? = some u → w.cell? (a.add i) = some u := by
  unfold World.cells? at h
  rw [if_pos (Nat.zero_le _)] at h
  have hl : cs.length = n := by simpa using mapM_len h
  refine ⟨hl, fun i u hu => ?_⟩
  have hi : i < n := by
    have := (List.getElem?_eq_some_iff.1 hu).1
    omega
  have := mapM_get h i i (by simp [hi])
  rw [this, hu]
theorem cells_of_get {h : Hp} {a : Addr} : ∀ (l : List Value) (i : Nat), (∀ j u, l[j]? = some u → h.cell? (a.add (i + j)) = some u) → h.cellsFrom a i l.length = some l
  | [], i, hh => rfl
  | v :: l, i, hh => by
    have h1 := hh 0 v rfl
    simp only [Nat.add_zero] at h1
    have h2 := cells_of_get l (i + 1) (fun j u hj => by rw [show i + 1 + j = i + (j + 1) by omega]; exact hh (j + 1) u (by simpa using hj))
    show h.cellsFrom a i (l.length + 1) = _
    simp only [Hp.cellsFrom, h1, h2, Option.map_some]
theorem chunks_mk {α : Type} {p : α → List Value → Prop} {s : Nat} : ∀ (n : Nat) (q : Nat → List Value → Prop), (∀ i, i < n → ∃ x c, p x c ∧ c.length = s ∧ q i c) →
    ∃ (l : List α) (r : List Value), l.length = n ∧ Chunks p l r ∧ r.length = n * s ∧ (∀ i, i < n → ∃ c, q i c ∧ (r.drop (i * s)).take s = c) ∧ (∀ x ∈ l, ∃ i c, i < n ∧ p x c ∧ q i c)
  | 0, q, _ => ⟨[], [], rfl, rfl, by simp, fun i hi => absurd hi (by omega), fun x hx => by cases hx⟩
  | n + 1, q, hh => by
    obtain ⟨x, c, h1, h2, h3⟩ := hh 0 (by omega)
    obtain ⟨l, r, g1, g2, g3, g4, g5⟩ := chunks_mk n (fun i => q (i + 1)) (fun i hi => hh (i + 1) (by omega))
    refine ⟨x :: l, c ++ r, by simp [g1], ⟨c, r, rfl, h1, g2⟩, by rw [List.length_append, h2, g3, Nat.succ_mul]; omega, fun i hi => ?_, fun y hy => ?_⟩
    · cases i with
      | zero => exact ⟨c, h3, by rw [Nat.zero_mul, List.drop_zero, ← h2, List.take_left']; rfl⟩
      | succ i =>
        obtain ⟨c', k1, k2⟩ := g4 i (by omega)
        refine ⟨c', k1, ?_⟩
        rw [Nat.succ_mul, Nat.add_comm, ← h2, List.drop_append, h2]
        rw [show s + i * s - s = i * s by omega, List.drop_eq_nil_of_le (by omega), List.nil_append]
        exact k2
    · rcases List.mem_cons.1 hy with rfl | hy
      · exact ⟨0, c, by omega, h1, h3⟩
      · obtain ⟨i, c', k1, k2, k3⟩ := g5 y hy
        exact ⟨i + 1, c', by omega, k2, k3⟩
theorem wAll_get {P : Program} {H : Type} {e : TypeId} {p : Nat → Bool} : ∀ {l : List (DataW H)}, (DataW.weightsAll P e l).all p = true → ∀ (i : Nat) (d : DataW H), l[i]? = some d → (d.weights P e).all p = true
  | [], _, i, d, hd => by simp at hd
  | x :: l, h, i, d, hd => by
    rw [DataW.weightsAll, List.all_append, Bool.and_eq_true] at h
    cases i with
    | zero => obtain rfl := Option.some.inj hd; exact h.1
    | succ i => exact wAll_get h.2 i d (by simpa using hd)
theorem wEach_get {P : Program} {H : Type} {p : Nat → Bool} : ∀ {ts : List TypeId} {l : List (DataW H)}, (DataW.weightsEach P ts l).all p = true → ∀ (i : Nat) (t : TypeId) (d : DataW H), ts[i]? = some t → l[i]? = some d → (d.weights P t).all p = true
  | [], _, _, i, t, d, ht, _ => by simp at ht
  | _ :: _, [], _, i, t, d, _, hd => by simp at hd
  | t :: ts, x :: l, h, i, t', d, ht, hd => by
    rw [DataW.weightsEach, List.all_append, Bool.and_eq_true] at h
    cases i with
    | zero => obtain rfl := Option.some.inj ht; obtain rfl := Option.some.inj hd; exact h.1
    | succ i => exact wEach_get h.2 i t' d (by simpa using ht) (by simpa using hd)
section
variable {P : Program} {H : Type} {enc : TypeId × Value → H} {w : World}
theorem D.opens : ∀ (d : D),
    (∀ t, d.chk P (.ty t) = true → ∀ (fuel : Nat) (cs : List Value) (x : DataW H × List MemPlace), DataW.trod enc P w 0 (fun _ => true) true fuel t cs = some x → (x.1.weights P t).all (· ≤ reachBytes) = true → Op w d cs) ∧
    (∀ total off fl, d.chk P (.fs total off fl) = true → ∀ (cs : List Value), cs.length = total → (∀ (i : Nat) (f : Field), fl[i]? = some f → ∃ n x, DataW.trod enc P w 0 (fun _ => true) true n f.type ((cs.drop f.offset).take (P.cellsOf f.type)) = some x ∧ (x.1.weights P f.type).all (· ≤ reachBytes) = true) → Op w d (cs.drop off))
  | .int k => ⟨fun t hc fuel cs x hx hw0 => by
      unfold D.chk at hc
      split at hc
      · rename_i k' ht
        obtain rfl : k = k' := by simpa using hc
        obtain ⟨n, rfl, _, hw⟩ := DataW.trod_int ht hx
        exact ⟨n, _, rfl, rfl, hw⟩
      · simp at hc, fun _ _ _ hc => by simp [D.chk] at hc⟩
  | .bool => ⟨fun t hc fuel cs x hx hw0 => by
      unfold D.chk at hc
      split at hc
      · rename_i ht
        obtain ⟨b, rfl, _⟩ := DataW.trod_bool ht hx
        exact ⟨b, _, rfl, rfl, trivial⟩
      · simp at hc, fun _ _ _ hc => by simp [D.chk] at hc⟩
  | .str => ⟨fun t hc fuel cs x hx hw0 => by
      unfold D.chk at hc
      split at hc
      · rename_i ht
        obtain ⟨s, rfl, _, hs⟩ := DataW.trod_string ht hx
        exact ⟨s, _, rfl, rfl, hs⟩
      · simp at hc, fun _ _ _ hc => by simp [D.chk] at hc⟩
  | .sl d => ⟨fun t hc fuel cs x hx hw0 => by
      unfold D.chk at hc
      split at hc
      · rename_i e ht
        simp only [Bool.and_eq_true, beq_iff_eq, decide_eq_true_eq] at hc
        obtain ⟨⟨hz, hp, hpb⟩, hd⟩ := hc
        rcases DataW.trod_slice ht hx with ⟨rfl, _⟩ | ⟨a, len, cap, elems, rest, n, _, rfl, hxe, _, hlc, hcap, hel, hget, _, _⟩
        · exact ⟨([] : List d.T), [.slice none 0 0], rfl, ⟨none, 0, [], rfl, Nat.le_refl _, rfl, rfl⟩, Nat.zero_le _, fun x hx => by cases hx⟩
        · rw [hxe, DataW.weights, ht] at hw0
          simp only [List.all_cons, List.all_append, Bool.and_eq_true, decide_eq_true_eq] at hw0
          have hlen : len ≤ 140737488351232 := by
            have h1 := hw0.1
            rw [List.length_map, List.length_map, hel] at h1
            have h2 : len ≤ (len + rest.length) * P.bytesOf e := Nat.le_trans (Nat.le_add_right _ _) (Nat.le_mul_of_pos_right _ hpb)
            exact Nat.le_trans h2 (Nat.le_trans h1 (by decide))
          have hall : ∀ i, i < len → ∃ (b : d.T) (c : List Value), (d.Is ⟨w, []⟩ b c ∧ d.good b) ∧ c.length = d.sz ∧ (∀ j u, c[j]? = some u → Hp.cell? ⟨w, []⟩ (a.add (i * d.sz + j)) = some u ∧ a.block < w.heap.size) := by
            intro i hi
            have h1 := hget i hi
            rw [List.getElem?_eq_getElem (by omega)] at h1
            obtain ⟨c, hcc, h2⟩ := Option.bind_eq_some_iff.1 h1
            obtain ⟨hcl, hcell⟩ := wcells_at hcc
            obtain ⟨b, us, k1, k2, k3⟩ := (D.opens d).1 e hd n c _ h2 (wAll_get hw0.2.1 i _ (by rw [List.getElem?_map, List.getElem?_eq_getElem (by omega)]; rfl))
            refine ⟨b, us, ⟨k2, k3⟩, D.Is_len d b us k2, fun j u hu => ?_⟩
            have hj : j < c.length := by rw [← absL_len k1]; exact (List.getElem?_eq_some_iff.1 hu).1
            have hcj := hcell j c[j] (by simp [hj])
            rw [Deep.add_add] at hcj
            have hab : (a.add (i * P.cellsOf e + j)).block = a.block := by unfold Addr.add; split <;> rfl
            have hlt : a.block < w.heap.size := by
              have := hcj
              unfold World.cell? at this
              rw [hab] at this
              cases hh : w.heap[a.block]? with
              | none => simp [hh] at this
              | some o => exact (Array.getElem?_eq_some_iff.1 hh).1
            refine ⟨?_, hlt⟩
            unfold Hp.cell?
            rw [hz, if_pos (by rw [hab]; exact hlt), hcj]
            exact absL_get k1 j c[j] u (by simp [hj]) hu
          obtain ⟨l, r, g1, g2, g3, g4, g5⟩ := chunks_mk (p := fun b c => d.Is ⟨w, []⟩ b c ∧ d.good b) len (fun i c => ∀ j u, c[j]? = some u → Hp.cell? ⟨w, []⟩ (a.add (i * d.sz + j)) = some u ∧ a.block < w.heap.size) hall
          have hch : ∀ (l : List d.T) (r : List Value), Chunks (fun b c => d.Is ⟨w, []⟩ b c ∧ d.good b) l r → Chunks (d.Is ⟨w, []⟩) l r := by
            intro l
            induction l with
            | nil => intro r h; exact h
            | cons x l ih => intro r ⟨c, t, h1, h2, h3⟩; exact ⟨c, t, h1, h2.1, ih t h3⟩
          have hgood : List.length l ≤ 140737488351232 ∧ ∀ x ∈ l, d.good x := ⟨by rw [g1]; exact hlen, fun x hx => by obtain ⟨i, c, _, h2, _⟩ := g5 x hx; exact h2.2⟩
          by_cases hlt : a.block < w.heap.size
          · refine ⟨l, [.slice (some a) len cap], by simp [absL, absV, hlt], ⟨some a, cap, r, by rw [g1], by rw [g1]; exact hlc, ?_, hch l r g2⟩, hgood⟩
            show Hp.cells? _ a _ = some r
            unfold Hp.cells?
            rw [g1, ← g3]
            refine cells_of_get r 0 (fun j u hj => ?_)
            have hjl := (List.getElem?_eq_some_iff.1 hj).1
            rw [Nat.zero_add]
            have hdm : j = j / d.sz * d.sz + j % d.sz := by rw [Nat.mul_comm]; exact (Nat.div_add_mod j d.sz).symm
            have hq : j / d.sz < len := by rw [Nat.div_lt_iff_lt_mul hp]; omega
            obtain ⟨c, k1, k2⟩ := g4 (j / d.sz) hq
            rw [hdm]
            refine (k1 (j % d.sz) u ?_).1
            rw [← k2, List.getElem?_take, if_pos (Nat.mod_lt _ hp), List.getElem?_drop, ← hdm]
            exact hj
          · have h0 : len = 0 := by
              rcases Nat.eq_zero_or_pos len with e0 | e0
              · exact e0
              · exfalso
                obtain ⟨b, c, h1, h2, h3⟩ := hall 0 e0
                exact hlt (h3 0 (c[0]'(by omega)) (by simp [show 0 < c.length by omega])).2
            subst h0
            have hl0 : l = [] := List.eq_nil_of_length_eq_zero g1
            subst hl0
            exact ⟨([] : List d.T), [.slice (some ⟨a.block, 0, some 0⟩) 0 1], by simp [absL, absV, hlt], ⟨_, _, [], rfl, Nat.zero_le _, by show Hp.cells? _ _ _ = _; simp [Hp.cells?, Hp.cellsFrom], rfl⟩, hgood⟩
      · simp at hc, fun _ _ _ hc => by simp [D.chk] at hc⟩
  | .st d => ⟨fun t hc fuel cs x hx hw0 => by
      unfold D.chk at hc
      split at hc
      · rename_i fs ht
        obtain ⟨xs, n, _, hxe, hlen, hsz, hf⟩ := DataW.trod_struct ht hx
        rw [hxe, DataW.weights, ht] at hw0
        have := (D.opens d).2 _ 0 fs.toList hc cs hlen (fun i f hi => by
          have h1 := hf i f (by simpa using hi)
          have h2 : i < xs.length := by
            rw [hsz]
            have := (List.getElem?_eq_some_iff.1 hi).1
            simpa using this
          exact ⟨_, _, h1.trans (List.getElem?_eq_getElem h2), wEach_get hw0 i _ _ (by rw [List.getElem?_map, hi]; rfl) (by rw [List.getElem?_map, List.getElem?_eq_getElem h2]; rfl)⟩)
        rw [List.drop_zero] at this
        exact this
      · simp at hc, fun _ _ _ hc => by simp [D.chk] at hc⟩
  | .nil => ⟨fun _ hc => by simp [D.chk] at hc, fun total off fl hc cs hl hf => by
      cases fl with
      | cons _ _ => simp [D.chk] at hc
      | nil =>
        have : off = total := by simpa [D.chk] using hc
        exact ⟨(), [], by rw [List.drop_eq_nil_of_le (by omega)]; rfl, rfl, trivial⟩⟩
  | .cons d e => ⟨fun _ hc => by simp [D.chk] at hc, fun total off fl hc cs hl hf => by
      cases fl with
      | nil => simp [D.chk] at hc
      | cons f fl =>
        simp only [D.chk, Bool.and_eq_true, beq_iff_eq] at hc
        obtain ⟨⟨⟨h1, h2⟩, h3⟩, h4⟩ := hc
        obtain ⟨n, x, hx, hwx⟩ := hf 0 f rfl
        obtain ⟨a, us, k1, k2, k3⟩ := (D.opens d).1 _ h3 n _ x hx hwx
        obtain ⟨b, vs, m1, m2, m3⟩ := (D.opens e).2 total (off + d.sz) fl h4 cs hl (fun i g hg => hf (i + 1) g hg)
        refine ⟨(a, b), us ++ vs, ?_, ⟨us, vs, rfl, k2, m2⟩, k3, m3⟩
        have := absL_append k1 m1
        rw [h1, ← h2, ← List.drop_drop, List.take_append_drop] at this
        exact this⟩
end
/-- A value that stands for data. -/
def D.V (h : Hp) : (d : D) → d.T → Value → Prop
  | .st d, x, u => ∃ us : List Value, u = .agg us.toArray ∧ d.Is h x us
  | .int k, x, u => D.Is h (.int k) x [u]
  | .bool, x, u => D.Is h .bool x [u]
  | .str, x, u => D.Is h .str x [u]
  | .sl d, x, u => D.Is h (.sl d) x [u]
  | .nil, x, u => False
  | .cons d e, x, u => False
theorem arg {P : Program} {H : Type} {enc : TypeId × Value → H} {w : World} {base : Nat} {r : Reach} {t : TypeId} {v : Value} {x : DataW H} {p : List MemPlace} (d : D) (hc : d.chk P (.ty t) = true) (hv : Value.okWide P w r base t v) (h : DataW.Trod enc P w 0 (fun _ => true) true t v x p) (hz : (x.weights P t).all (· ≤ reachBytes) = true) :
    ∃ (y : d.T) (u : Value), d.V ⟨w, []⟩ y u ∧ d.good y ∧ VR (R0 w) u v := by
  have h' := h
  obtain ⟨fuel, hf⟩ := h
  obtain ⟨y, us, k1, k2, k3⟩ := (D.opens d).1 t hc fuel _ _ hf hz
  have one : ∀ v : Value, v.cells.toList = [v] → absL w.heap.size v.cells.toList = some us → ∃ u, us = [u] ∧ VR (R0 w) u v := by
    intro v hv hk
    rw [hv] at hk
    unfold absL at hk
    split at hk
    · rename_i u r hu hr
      have hr' : r = [] := by simpa [absL] using hr.symm
      subst hr'
      exact ⟨u, (Option.some.inj hk).symm, absV_VR hu⟩
    · simp at hk
  cases d with
  | int k =>
    unfold D.chk at hc
    split at hc
    · rename_i k' ht
      obtain ⟨n, rfl, _⟩ := open_int ht hv h'
      obtain ⟨u, rfl, hu⟩ := one _ rfl k1
      exact ⟨y, u, k2, k3, hu⟩
    · simp at hc
  | bool =>
    unfold D.chk at hc
    split at hc
    · rename_i ht
      obtain ⟨n, rfl, _⟩ := open_bool ht hv h'
      obtain ⟨u, rfl, hu⟩ := one _ rfl k1
      exact ⟨y, u, k2, k3, hu⟩
    · simp at hc
  | str =>
    unfold D.chk at hc
    split at hc
    · rename_i ht
      obtain ⟨n, rfl, _⟩ := open_string ht hv h'
      obtain ⟨u, rfl, hu⟩ := one _ rfl k1
      exact ⟨y, u, k2, k3, hu⟩
    · simp at hc
  | sl d =>
    unfold D.chk at hc
    split at hc
    · rename_i e ht
      obtain ⟨a, len, cap, rfl⟩ := okWide_slice ht hv
      obtain ⟨u, rfl, hu⟩ := one _ rfl k1
      exact ⟨y, u, k2, k3, hu⟩
    · simp at hc
  | st d =>
    unfold D.chk at hc
    split at hc
    · rename_i fs ht
      obtain ⟨cs, rfl, _⟩ := okWide_struct ht hv
      refine ⟨y, .agg us.toArray, ⟨us, rfl, k2⟩, k3, ?_⟩
      have := absL_VRs (R := R0 w) k1
      exact .agg _ _ (by simpa [Value.cells] using this.1) (fun i a b ha hb => this.2 i a b (by simpa using ha) (by simpa [Value.cells] using hb))
    · simp at hc
  | nil => simp [D.chk] at hc
  | cons d e => simp [D.chk] at hc
/-- A law's call. -/
theorem law_of {P : Program} {g : FuncId} {us vs : List Value} {w : World} (hc : ACalls P g us ⟨w, []⟩ fun v _ => v = .bool true) (hv : VRs (R0 w) us vs) : Calls P g vs.toArray w fun e w' => e = .returned (.bool true) ∧ Below w.heap.size w w' := by
  refine (hc.2 (R0 w) w vs (Rel0 w) hv).mono fun e w' ⟨v, v', h', R', k, he, hv', hs⟩ => ?_
  subst k
  cases hv'
  refine ⟨he, ?_⟩
  have := hs.rel.below
  rw [hs.old] at this
  exact this
/-! data without slices -/
def D.flat : D → Bool
  | .sl _ => false
  | .st d => d.flat
  | .cons d e => d.flat && e.flat
  | _ => true
def D.enc : (d : D) → d.T → List Value
  | .int k, n => [.int k n]
  | .bool, b => [.bool b]
  | .str, s => [.string s]
  | .sl _, _ => []
  | .st d, x => d.enc x
  | .nil, _ => []
  | .cons d e, x => d.enc x.1 ++ e.enc x.2
theorem D.Is_flat {h : Hp} : ∀ (d : D) (x : d.T) (us : List Value), d.flat = true → d.Is h x us → us = d.enc x
  | .int _, _, _, _, h => h
  | .bool, _, _, _, h => h
  | .str, _, _, _, h => h
  | .sl _, _, _, hf, _ => by simp [D.flat] at hf
  | .st d, x, us, hf, h => D.Is_flat d x us hf h
  | .nil, _, _, _, h => h
  | .cons d e, x, us, hf, h => by
    obtain ⟨c, r, q, h1, h2⟩ := h
    simp only [D.flat, Bool.and_eq_true] at hf
    rw [q, D.Is_flat d _ _ hf.1 h1, D.Is_flat e _ _ hf.2 h2]
    rfl
theorem Chunks_flat {h : Hp} {d : D} (hf : d.flat = true) : ∀ (l : List d.T) (r : List Value), Chunks (d.Is h) l r → r = l.flatMap d.enc
  | [], r, hr => hr
  | x :: l, r, ⟨c, t, e, h1, h2⟩ => by rw [e, D.Is_flat d x c hf h1, Chunks_flat hf l t h2]; rfl
theorem D.sl_flat {h : Hp} {d : D} {l : List d.T} {u : Value} (hf : d.flat = true) (hv : (D.sl d).V h l u) : ∃ A c, u = .slice A l.length c ∧ rowV h d.sz u = some (l.flatMap d.enc) := by
  obtain ⟨A, c, rw, e, _, h1, h2⟩ := hv
  obtain rfl : u = .slice A l.length c := by simpa using e
  exact ⟨A, c, rfl, by rw [h1, Chunks_flat hf l rw h2]⟩
end Go.Proofs.Ytalhipbbomagoaa.Ab
