/- An argument that can be read as data, of whatever type made of integers, bools, strings, structs and slices: there is a plain value that its cells tell (Kd.K), with what is known of its numbers and lengths. -/
import Derived.Test.YteohkpfacjjaeaaWWords
import Derived.ProofKit
import Derived.OpenShut
import Derived.ChangeOld
import Derived.Deep.Slices
namespace Go.Proofs.Yteohkpfacjjaeaa.Opens
open Go.RowKit Go.WideShapes Go.Proofs.YteohkpfacjjaeaaW.PrintWords
set_option linter.unusedVariables false
set_option linter.unusedSimpArgs false
section
variable {P : Program}
def Opens (P : Program) (t : TypeId) {α : Type} (d : Kd α) (good : α → Prop) : Prop :=
  ∀ (H : Type) (enc : TypeId × Value → H) (w : World) (fuel : Nat) (cs : List Value) (x : DataW H × List MemPlace),
    DataW.trod enc P w 0 (fun _ => true) true fuel t cs = some x → ∃ a, d.K w a cs ∧ good a
theorem Opens.int {t : TypeId} {k : IntKind} (ht : P.underlying t = some (.int k)) : Opens P t (Kd.int k) (fun n => (Lit.int k n).wf = true) := by
  intro H enc w fuel cs x h
  obtain ⟨n, rfl, _, hw⟩ := DataW.trod_int ht h
  exact ⟨n, rfl, hw⟩
theorem Opens.bool {t : TypeId} (ht : P.underlying t = some .bool) : Opens P t Kd.bool (fun _ => True) := by
  intro H enc w fuel cs x h
  obtain ⟨b, rfl, _⟩ := DataW.trod_bool ht h
  exact ⟨b, rfl, trivial⟩
theorem Opens.string {t : TypeId} (ht : P.underlying t = some .string) : Opens P t Kd.string (fun s => s.size ≤ maxLen) := by
  intro H enc w fuel cs x h
  obtain ⟨s, rfl, _, hs⟩ := DataW.trod_string ht h
  exact ⟨s, rfl, hs⟩
theorem Opens.imp {t : TypeId} {α : Type} {d : Kd α} {good good' : α → Prop} (h : Opens P t d good) (hi : ∀ a, good a → good' a) : Opens P t d good' := by
  intro H enc w fuel cs x hx
  obtain ⟨a, ha, hg⟩ := h H enc w fuel cs x hx
  exact ⟨a, ha, hi a hg⟩
theorem Opens.iso {t : TypeId} {α β : Type} {d : Kd α} {good : α → Prop} (h : Opens P t d good) (f : β → α) (g : α → β) (hfg : ∀ a, f (g a) = a) : Opens P t (Kd.iso d f) (fun b => good (f b)) := by
  intro H enc w fuel cs x hx
  obtain ⟨a, ha, hg⟩ := h H enc w fuel cs x hx
  refine ⟨g a, ?_, ?_⟩
  · show d.K w (f (g a)) cs
    rw [hfg]
    exact ha
  · show good (f (g a))
    rw [hfg]
    exact hg
def Trods {H : Type} (P : Program) (enc : TypeId × Value → H) (w : World) (fuel : Nat) : List TypeId → List Value → Prop
  | [], cs => cs = []
  | t :: ts, cs => (∃ x, DataW.trod enc P w 0 (fun _ => true) true fuel t (cs.take (P.cellsOf t)) = some x) ∧ Trods P enc w fuel ts (cs.drop (P.cellsOf t))
def OpensFs (P : Program) (ts : List TypeId) {α : Type} (d : Kd α) (good : α → Prop) : Prop :=
  ∀ (H : Type) (enc : TypeId × Value → H) (w : World) (fuel : Nat) (cs : List Value), Trods P enc w fuel ts cs → ∃ a, d.K w a cs ∧ good a
theorem OpensFs.one {t : TypeId} {α : Type} {d : Kd α} {good : α → Prop} (h : Opens P t d good) : OpensFs P [t] d good := by
  intro H enc w fuel cs ⟨⟨x, hx⟩, hn⟩
  have hn : cs.drop (P.cellsOf t) = [] := hn
  have e : cs.take (P.cellsOf t) = cs := by
    have := List.take_append_drop (P.cellsOf t) cs
    rw [hn, List.append_nil] at this
    exact this
  rw [e] at hx
  exact h H enc w fuel cs x hx
theorem OpensFs.cons {t : TypeId} {ts : List TypeId} {α β : Type} {d : Kd α} {good : α → Prop} {d' : Kd β} {good' : β → Prop} (h : Opens P t d good) (hs : OpensFs P ts d' good') :
    OpensFs P (t :: ts) (Kd.pair d d') (fun p => good p.1 ∧ good' p.2) := by
  intro H enc w fuel cs ⟨⟨x, hx⟩, hn⟩
  obtain ⟨a, ha, hg⟩ := h H enc w fuel _ x hx
  obtain ⟨b, hb, hg'⟩ := hs H enc w fuel _ hn
  exact ⟨(a, b), ⟨_, _, (List.take_append_drop (P.cellsOf t) cs).symm, ha, hb⟩, hg, hg'⟩
def laid (P : Program) (total : Nat) : Nat → List Field → List TypeId → Bool
  | off, [], [] => off == total
  | off, f :: fs, t :: ts => f.type == t && (f.offset == off && laid P total (off + P.cellsOf t) fs ts)
  | _, _, _ => false
theorem trods_of {H : Type} {enc : TypeId × Value → H} {w : World} {fuel total : Nat} {cs : List Value} (hcs : cs.length = total) :
    ∀ (fs : List Field) (ts : List TypeId) (off : Nat), laid P total off fs ts = true →
      (∀ (i : Nat) (f : Field), fs[i]? = some f → ∃ x, DataW.trod enc P w 0 (fun _ => true) true fuel f.type ((cs.drop f.offset).take (P.cellsOf f.type)) = some x) → Trods P enc w fuel ts (cs.drop off)
  | [], [], off, hl, _ => by
    have : off = total := by simpa [laid] using hl
    show cs.drop off = ([] : List Value)
    rw [List.drop_eq_nil_iff]
    omega
  | f :: fs, t :: ts, off, hl, h => by
    simp only [laid, Bool.and_eq_true, beq_iff_eq] at hl
    obtain ⟨h1, h2, h3⟩ := hl
    obtain ⟨x, hx⟩ := h 0 f rfl
    refine ⟨⟨x, ?_⟩, ?_⟩
    · rw [h2, h1] at hx
      exact hx
    · rw [List.drop_drop]
      exact trods_of hcs fs ts (off + P.cellsOf t) h3 (fun i g hg => h (i + 1) g hg)
  | [], _ :: _, _, hl, _ => by simp [laid] at hl
  | _ :: _, [], _, hl, _ => by simp [laid] at hl
theorem Opens.struct {t : TypeId} {fs : Array Field} {ts : List TypeId} {α : Type} {d : Kd α} {good : α → Prop} (ht : P.underlying t = some (.struct fs)) (hl : laid P (P.cellsOf t) 0 fs.toList ts = true) (h : OpensFs P ts d good) : Opens P t d good := by
  intro H enc w fuel cs x hx
  obtain ⟨xs, n, _, _, hlen, hsz, hf⟩ := DataW.trod_struct ht hx
  refine h H enc w n cs ?_
  have := trods_of (enc := enc) (w := w) (fuel := n) hlen fs.toList ts 0 hl (fun i f hi => by
    have h1 := hf i f (by simpa using hi)
    have h2 : i < xs.length := by
      rw [hsz]
      have := (List.getElem?_eq_some_iff.1 hi).1
      simpa using this
    exact ⟨_, h1.trans (List.getElem?_eq_getElem h2)⟩)
  simpa using this
theorem pick_list {α : Type} {Q : Nat → α → Prop} : ∀ n, (∀ i, i < n → ∃ a, Q i a) → ∃ l : List α, l.length = n ∧ ∀ i a, l[i]? = some a → Q i a
  | 0, _ => ⟨[], rfl, fun i a h => by simp at h⟩
  | n + 1, h => by
    obtain ⟨l, hl, hq⟩ := pick_list n (fun i hi => h i (by omega))
    obtain ⟨a, ha⟩ := h n (by omega)
    refine ⟨l ++ [a], by simp [hl], fun i b hb => ?_⟩
    rw [List.getElem?_append] at hb
    split at hb
    · exact hq i b hb
    · rename_i hn
      have hi : i - l.length = 0 := by
        rcases Nat.eq_zero_or_pos (i - l.length) with e | e
        · exact e
        · rw [List.getElem?_eq_none (by simp; omega)] at hb
          cases hb
      rw [hi] at hb
      have hb : a = b := by simpa using hb
      subst hb
      have : i = n := by omega
      subst this
      exact ha
theorem mapM_len {α β : Type} {f : α → Option β} : ∀ {l : List α} {r : List β}, l.mapM f = some r → r.length = l.length
  | [], r, h => by
    have : r = [] := by simpa using h
    rw [this]
    rfl
  | a :: l, r, h => by
    rw [List.mapM_cons] at h
    simp only [Option.bind_eq_bind, Option.bind_eq_some_iff, Option.pure_def, Option.some.injEq] at h
    obtain ⟨b, hb, r', hr, rfl⟩ := h
    simp [mapM_len hr]
theorem mapM_get {α β : Type} {f : α → Option β} : ∀ {l : List α} {r : List β}, l.mapM f = some r → ∀ (i : Nat) (a : α), l[i]? = some a → f a = r[i]?
  | [], r, h, i, a, ha => by simp at ha
  | b :: l, r, h, i, a, ha => by
    rw [List.mapM_cons] at h
    simp only [Option.bind_eq_bind, Option.bind_eq_some_iff, Option.pure_def, Option.some.injEq] at h
    obtain ⟨c, hc, r', hr, rfl⟩ := h
    cases i with
    | zero =>
      have : b = a := by simpa using ha
      subst this
      simpa using hc
    | succ i => simpa using mapM_get hr i a (by simpa using ha)
theorem cells_at {w : World} {a : Addr} {n : Nat} {cs : List Value} (h : w.cells? 0 a n = some cs) : cs.length = n ∧ ∀ i u, cs[i]? = some u → w.cell? (a.add i) = some u := by
  unfold World.cells? at h
  rw [if_pos (Nat.zero_le _)] at h
  have hl : cs.length = n := by simpa using mapM_len h
  refine ⟨hl, fun i u hu => ?_⟩
  have hi : i < n := by
    have := (List.getElem?_eq_some_iff.1 hu).1
    omega
  have := mapM_get h i i (by simp [hi])
  rw [this, hu]
theorem Opens.slice {t e : TypeId} {α : Type} {d : Kd α} {good : α → Prop} (ht : P.underlying t = some (.slice e)) (h : Opens P e d good) (hz : d.sz = P.cellsOf e) :
    Opens P t (Kd.slice e d) (fun xs => xs.length ≤ maxLen ∧ ∀ x ∈ xs, good x) := by
  intro H enc w fuel cs x hx
  rcases DataW.trod_slice ht hx with ⟨rfl, _⟩ | ⟨a, len, cap, elems, rest, n, _, rfl, _, _, hlc, hcap, hel, hget, _, _⟩
  · exact ⟨[], ⟨none, 0, rfl, Nat.le_refl _, rfl, Nat.zero_le _, fun h => absurd h (by simp)⟩, Nat.zero_le _, fun x hx => by cases hx⟩
  · have hall : ∀ i, i < len → ∃ b : α, ∃ c, c.length = d.sz ∧ d.K w b c ∧ (∀ j u, c[j]? = some u → w.cell? (a.add (i * d.sz + j)) = some u) ∧ good b := by
      intro i hi
      have h1 := hget i hi
      rw [List.getElem?_eq_getElem (by omega)] at h1
      obtain ⟨c, hc, h2⟩ := Option.bind_eq_some_iff.1 h1
      obtain ⟨hcl, hcell⟩ := cells_at hc
      obtain ⟨b, hb, hg⟩ := h H enc w n c _ h2
      refine ⟨b, c, by rw [hz]; exact hcl, hb, fun j u hu => ?_, hg⟩
      have := hcell j u hu
      rw [Deep.add_add] at this
      rw [hz]
      exact this
    obtain ⟨l, hl, hq⟩ := pick_list len hall
    refine ⟨l, ⟨some a, cap, by rw [hl], by omega, rfl, by unfold maxLen at hcap; omega, fun _ => ⟨a, rfl, fun j p hp => ?_⟩⟩, by omega, fun x hx => ?_⟩
    · obtain ⟨c, h1, h2, h3, _⟩ := hq j p hp
      exact ⟨c, h1, h2, h3⟩
    · obtain ⟨i, hi, rfl⟩ := List.getElem_of_mem hx
      obtain ⟨c, _, _, _, h4⟩ := hq i _ (List.getElem?_eq_getElem hi)
      exact h4
end
section
variable {P : Program} {H : Type} {enc : TypeId × Value → H} {w : World} {base : Nat} {r : Reach} {t : TypeId} {v : Value} {x : DataW H} {p : List MemPlace} {α : Type} {d : Kd α} {good : α → Prop}
/-- A struct by value. -/
theorem arg_struct {fs : Array Field} (ht : P.underlying t = some (.struct fs)) (ho : Opens P t d good) (hv : Value.okWide P w r base t v) (h : DataW.Trod enc P w 0 (fun _ => true) true t v x p) : ∃ a cs, v = .agg cs ∧ d.K w a cs.toList ∧ good a := by
  obtain ⟨cs, rfl, _⟩ := okWide_struct ht hv
  obtain ⟨fuel, hf⟩ := h
  obtain ⟨a, ha, hg⟩ := ho H enc w fuel _ _ hf
  exact ⟨a, cs, rfl, by simpa [Value.cells] using ha, hg⟩
/-- A slice. -/
theorem arg_slice {e : TypeId} (ht : P.underlying t = some (.slice e)) (ho : Opens P e d good) (hz : d.sz = P.cellsOf e) (hv : Value.okWide P w r base t v) (h : DataW.Trod enc P w 0 (fun _ => true) true t v x p) :
    ∃ (A : Option Addr) (xs : List α) (c : Nat), v = .slice A xs.length c ∧ xs.length ≤ c ∧ d.C w A xs.length xs ∧ xs.length ≤ maxLen ∧ ∀ y ∈ xs, good y := by
  obtain ⟨a, len, cap, rfl⟩ := okWide_slice ht hv
  obtain ⟨fuel, hf⟩ := h
  obtain ⟨xs, ⟨A, c, hcs, hc, hC⟩, hg1, hg2⟩ := Opens.slice ht ho hz H enc w fuel _ _ hf
  simp only [Value.cells, List.cons.injEq, and_true] at hcs
  exact ⟨A, xs, c, hcs, hc, hC, hg1, hg2⟩
end
end Go.Proofs.Yteohkpfacjjaeaa.Opens
