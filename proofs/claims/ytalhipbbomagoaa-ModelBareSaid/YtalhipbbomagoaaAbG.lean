/- The regions of the code, told over a heap of plain values in one order, and that the machine does that in whatever order. No statement of the set is proved in this text. -/
import Derived.Test.YtalhipbbomagoaaAbF
namespace Go.Proofs.Ytalhipbbomagoaa.Ab
open Go.RowKit
set_option linter.unusedVariables false
set_option linter.unusedSimpArgs false
abbrev Fr := Nat → Value
def evF (f : Fr) : Operand → Value
  | .tmp t => f t
  | .const v => v
  | .global g => .pointer (some ⟨g, 0, none⟩)
  | .func g => .func (.func g) #[] #[]
def putF (f : Fr) : Option Nat → Value → Fr
  | none, _ => f
  | some d, v => fun t => if t = d then v else f t
inductive COp where
  | f (o : FOp)
  | e (o : EOp)
structure CO where
  dst : Option Nat
  guard : Option (Nat × Bool)
  keep : Bool
  op : COp
def COp.reads : COp → List Operand
  | .f o => o.reads
  | .e o => o.reads
def wantC (g : Option (Nat × Bool)) (f : Fr) : Bool :=
  match g with
  | none => true
  | some (s, b) => match f s with
    | .bool x => x == b
    | _ => false
/-- All that was there is as it was. -/
def Keeps (h h' : Hp) : Prop := h'.old = h.old ∧ ∀ b k, h.blk? b = some k → h'.blk? b = some k
def ptB : Value → Option Nat
  | .pointer (some a) => if a.spot = none then some a.block else none
  | _ => none
/-- The blocks that an operation may change. -/
def EOp.touch (ev : Operand → Value) : EOp → List Nat
  | .app _ _ s _ => match ev s with
    | .slice (some a) _ _ => if a.spot = none then [a.block] else []
    | _ => []
  | .apz _ _ _ s _ => match ev s with
    | .slice (some a) _ _ => if a.spot = none then [a.block] else []
    | _ => []
  | .cpy _ d _ => match ev d with
    | .slice (some a) _ _ => if a.spot = none then [a.block] else []
    | _ => []
  | .cal f args => match ev f with
    | .func _ a b => (a.toList ++ args.map ev ++ b.toList).filterMap ptB
    | _ => []
  | .st _ a _ => [ev a].filterMap ptB
  | .mst _ => []
/-- Where a value leads to, if anything can be read there. -/
def ptOf : Value → Option Addr
  | .pointer (some a) => some a
  | .slice (some a) n _ => if n = 0 then none else some a
  | _ => none
/-- All is as it was but for some blocks, into which nothing points that is read. -/
def KeepsP (T : List Nat) (pr : List Operand) (f : Fr) (h h' : Hp) : Prop := h'.old = h.old ∧ (∀ b k, h.blk? b = some k → b ∉ T → h'.blk? b = some k) ∧ ∀ b ∈ T, ∀ x ∈ pr, ∀ a, ptOf (evF f x) = some a → a.block ≠ b
/-- what is read, of an operation -/
def rdF : FOp → List Operand → List Operand
  | .ld _ x, pr => x :: pr
  | .b2s x, pr => x :: pr
  | _, pr => pr
def rdO : COp → List Operand → List Operand
  | .f fo, pr => rdF fo pr
  | .e _, pr => pr
def aops (P : Program) : List Operand → List CO → (Fr → Hp → Prop) → Fr → Hp → Prop
  | pr, [], K, f, h => K f h
  | pr, c :: cs, K, f, h =>
    if wantC c.guard f = true then
      match c.op with
      | .f fo => ∃ v k, fo.ok P (evF f) h h.next v k ∧ aops P (rdF fo pr) cs K (putF f c.dst v) (h.pushO k)
      | .e eo => eo.run P (evF f) h fun v h' => (c.keep = true → Keeps h h' ∨ KeepsP (eo.touch (evF f)) pr f h h') ∧ aops P pr cs K (putF f c.dst v) h'
    else aops P (rdO c.op pr) cs K (putF f c.dst undef) h
def compOp (P : Program) (o : Oper) : Option COp :=
  match compF P o with
  | some fo => some (.f fo)
  | none => (compE P o).map .e
def dstOk (N : Nat) : Option Nat → Bool
  | none => true
  | some d => d < N
def compO (P : Program) (N : Nat) (ops : Array Oper) (o : Oper) : Option CO :=
  match compOp P o with
  | none => none
  | some c =>
    if c.reads.all okOpd && dstOk N o.dst then
      match o.guard with
      | none => some ⟨o.dst, none, false, c⟩
      | some (j, b) => ((ops[j]?).bind (·.dst)).map fun s => ⟨o.dst, some (s, b), false, c⟩
    else none
def FR (R : AR) (N : Nat) (f : Fr) (a : Act) : Prop := a.tmps.size = N ∧ ∀ t, VR R (f t) (a.tmps.getD t undef)
theorem FR.mono {R R' : AR} (hle : R.le R') {N : Nat} {f : Fr} {a : Act} (h : FR R N f a) : FR R' N f a := ⟨h.1, fun t => (h.2 t).mono hle⟩
theorem undef_VR (R : AR) : VR R undef undef := .tuple _ _ rfl (fun i v v' h => by simp at h)
theorem opd_VR {R : AR} {f : Fr} {a : Act} {x : Operand} (hx : okOpd x = true) (h : ∀ t, x = .tmp t → VR R (f t) (a.tmps.getD t undef)) : VR R (evF f x) (a.eval x) := by
  cases x with
  | tmp t => exact h t rfl
  | const v => exact plainV_VR hx
  | global g => simp [okOpd] at hx
  | func g => exact .func _ _ _ _ _ rfl rfl (fun i v v' h => by simp at h) (fun i v v' h => by simp at h)
theorem put_get {a : Act} {d : Option Nat} {v : Value} {N : Nat} (hN : a.tmps.size = N) (hd : ∀ s, d = some s → s < N) (t : Nat) : (a.put d v).tmps.getD t undef = if d = some t then v else a.tmps.getD t undef := by
  cases d with
  | none => simp [Act.put]
  | some s =>
    have hs := hd s rfl
    simp only [Act.put, Option.some.injEq]
    by_cases e : s = t
    · subst e
      simp [Array.getD, hN, hs]
    · rw [if_neg e]
      simp only [Array.getD_eq_getD_getElem?]
      rw [Array.getElem?_setIfInBounds, if_neg e]
theorem put_size {a : Act} {d : Option Nat} {v : Value} : (a.put d v).tmps.size = a.tmps.size := by cases d <;> simp [Act.put]
theorem put_defers {a : Act} {d : Option Nat} {v : Value} : (a.put d v).defers = a.defers := by cases d <;> rfl
theorem FR.put {R : AR} {N : Nat} {f : Fr} {a : Act} (h : FR R N f a) {d : Option Nat} (hd : ∀ s, d = some s → s < N) {v v' : Value} (hv : VR R v v') : FR R N (putF f d v) (a.put d v') := by
  refine ⟨put_size.trans h.1, fun t => ?_⟩
  rw [put_get h.1 hd]
  cases d with
  | none => simpa [putF] using h.2 t
  | some s =>
    simp only [putF, Option.some.injEq]
    by_cases e : t = s
    · subst e
      simpa using hv
    · rw [if_neg e, if_neg (fun k => e k.symm)]
      exact h.2 t
theorem want_eq {R : AR} {N : Nat} {f : Fr} {a : Act} {ops : Array Oper} {P : Program} {o : Oper} {c : CO} (hc : compO P N ops o = some c) (h : ∀ s b, c.guard = some (s, b) → VR R (f s) (a.tmps.getD s undef)) : Region.wanted o (yielded ops a.tmps) = wantC c.guard f := by
  unfold compO at hc
  split at hc
  · simp at hc
  · split at hc
    · split at hc
      · rename_i hg
        obtain rfl := Option.some.inj hc
        simp [Region.wanted, hg, wantC]
      · rename_i j b hg
        obtain ⟨s, hs, rfl⟩ := Option.map_eq_some_iff.1 hc
        have hv := h s b rfl
        simp only [Region.wanted, hg, wantC, yielded, hs, Option.bind_some]
        have e : a.tmps.getD s undef = (a.tmps[s]?).getD undef := by simp
        rw [e] at hv
        cases ht : a.tmps[s]? with
        | none =>
          rw [ht] at hv
          simp only [Option.getD_none, undef] at hv
          generalize f s = x at hv
          cases hv
          rfl
        | some y =>
          rw [ht] at hv
          simp only [Option.getD_some] at hv
          generalize f s = x at hv
          cases hv <;> first | rfl | simp
    · simp at hc
theorem compO_spec {P : Program} {N : Nat} {ops : Array Oper} {o : Oper} {c : CO} (hc : compO P N ops o = some c) : compOp P o = some c.op ∧ c.dst = o.dst ∧ c.op.reads.all okOpd = true ∧ ∀ s, c.dst = some s → s < N := by
  unfold compO at hc
  split at hc
  · simp at hc
  · rename_i co hco
    split at hc
    · rename_i hk
      rw [Bool.and_eq_true] at hk
      split at hc
      · obtain rfl := Option.some.inj hc
        refine ⟨hco, rfl, hk.1, fun s hs => ?_⟩
        have hs' : o.dst = some s := hs
        rw [hs'] at hk
        simpa [dstOk] using hk.2
      · obtain ⟨s, hs, rfl⟩ := Option.map_eq_some_iff.1 hc
        refine ⟨hco, rfl, hk.1, fun s hs => ?_⟩
        have hs' : o.dst = some s := hs
        rw [hs'] at hk
        simpa [dstOk] using hk.2
    · simp at hc
theorem compOp_spec {P : Program} {o : Oper} {c : COp} (h : compOp P o = some c) : (∃ fo, c = .f fo ∧ compF P o = some fo) ∨ ∃ eo, c = .e eo ∧ compE P o = some eo := by
  unfold compOp at h
  split at h
  · rename_i fo hf
    exact .inl ⟨fo, (Option.some.inj h).symm, hf⟩
  · obtain ⟨eo, he, rfl⟩ := Option.map_eq_some_iff.1 h
    exact .inr ⟨eo, rfl, he⟩
theorem ok_id {P : Program} {fo : FOp} {ev : Operand → Value} {h : Hp} {id : Nat} {v : Value} {k : Option Blk} (h1 : fo.ok P ev h id v k) : ∀ b, k = some b → b.live = true := by
  intro b hb
  subst hb
  rcases h1 with h1 | ⟨_, _, _, _, _, _, _, _, h2, _⟩
  · cases fo <;> simp only [FOp.run] at h1 <;> (repeat' split at h1) <;> first
      | (simp at h1; done)
      | (simp only [Option.some.injEq, Prod.mk.injEq] at h1; obtain ⟨-, rfl⟩ := h1; rfl)
      | (obtain ⟨x, hx, hx2⟩ := Option.map_eq_some_iff.1 h1; simp only [Prod.mk.injEq, reduceCtorEq, and_false] at hx2; done)
      | (obtain ⟨x, hx, hx2⟩ := Option.map_eq_some_iff.1 h1; simp only [Prod.mk.injEq, Option.some.injEq] at hx2; obtain ⟨-, rfl⟩ := hx2; rfl)
  · simp at h2
theorem Keeps.refl (h : Hp) : Keeps h h := ⟨rfl, fun _ _ h => h⟩
theorem Keeps.trans {a b c : Hp} (h : Keeps a b) (k : Keeps b c) : Keeps a c := ⟨k.1.trans h.1, fun x y hx => k.2 x y (h.2 x y hx)⟩
theorem Keeps.push (h : Hp) (k : Blk) : Keeps h (h.push k) := ⟨rfl, fun b x hb => by
  rw [Hp.blk_push_ne _ _ (fun e => by rw [e, Hp.blk_next] at hb; simp at hb)]
  exact hb⟩
theorem Keeps.pushO (h : Hp) (k : Option Blk) : Keeps h (h.pushO k) := by
  cases k with
  | none => exact .refl h
  | some k => exact .push h k
theorem Keeps.cell {h h' : Hp} (hk : Keeps h h') {a : Addr} {v : Value} (hc : h.cell? a = some v) : h'.cell? a = some v := by
  unfold Hp.cell? at hc ⊢
  rw [hk.1]
  split at hc
  · rename_i hlt
    rw [if_pos hlt]
    exact hc
  · rename_i hlt
    rw [if_neg hlt]
    split at hc
    · simp at hc
    · rename_i hs
      rw [if_neg hs]
      split at hc
      · rename_i k hb
        rw [hk.2 _ _ hb]
        exact hc
      · simp at hc
theorem Keeps.cellsFrom {h h' : Hp} (hk : Keeps h h') {a : Addr} : ∀ (n i : Nat) (l : List Value), h.cellsFrom a i n = some l → h'.cellsFrom a i n = some l
  | 0, i, l, hl => by simpa [Hp.cellsFrom] using hl
  | n + 1, i, l, hl => by
    simp only [Hp.cellsFrom] at hl ⊢
    cases hc : h.cell? (a.add i) with
    | none => simp [hc] at hl
    | some v =>
      simp only [hc] at hl
      obtain ⟨t, ht, rfl⟩ := Option.map_eq_some_iff.1 hl
      rw [hk.cell hc]
      simp only
      rw [hk.cellsFrom n (i + 1) t ht]
      rfl
theorem Keeps.cells {h h' : Hp} (hk : Keeps h h') {a : Addr} {n : Nat} {l : List Value} (hl : h.cells? a n = some l) : h'.cells? a n = some l := hk.cellsFrom n 0 l hl
theorem run_keep {P : Program} {fo : FOp} {ev : Operand → Value} {h h' : Hp} {id : Nat} {r : Value × Option Blk} (hk : Keeps h h') (h1 : fo.run P ev h id = some r) : fo.run P ev h' id = some r := by
  cases fo
  case b2s x =>
    simp only [FOp.run] at h1 ⊢
    split at h1
    · exact h1
    · obtain ⟨l, hl, rfl⟩ := Option.map_eq_some_iff.1 h1
      obtain ⟨c, hc, hs⟩ := Option.bind_eq_some_iff.1 hl
      simp only [hk.cells hc, Option.bind_some, hs, Option.map_some]
    · simp at h1
  case ld n x =>
    simp only [FOp.run] at h1 ⊢
    split at h1
    · cases n with
      | none =>
        obtain ⟨v, hv, rfl⟩ := Option.map_eq_some_iff.1 h1
        simp only [hk.cell hv, Option.map_some]
      | some n =>
        obtain ⟨v, hv, rfl⟩ := Option.map_eq_some_iff.1 h1
        obtain ⟨l, hl, rfl⟩ := Option.map_eq_some_iff.1 hv
        simp only [hk.cells hl, Option.map_some]
    · simp at h1
  case slc size x lo hi =>
    simp only [FOp.run] at h1 ⊢
    rw [hk.1]
    exact h1
  all_goals exact h1
theorem ok_keep {P : Program} {fo : FOp} {ev : Operand → Value} {h h' : Hp} {id : Nat} {v : Value} {k : Option Blk} (hk : Keeps h h') (h1 : fo.ok P ev h id v k) : fo.ok P ev h' id v k := h1.imp (run_keep hk) (fun h => h)
/-- In the order of the text. -/
theorem seq_sound {P : Program} {N : Nat} {ops : Array Oper} {Q : Exit → Act → World → Prop} {K : Fr → Hp → Prop} : ∀ (is : List Nat) (cs : List CO) {pr : List Operand} {R : AR} {f : Fr} {h : Hp} {a : Act} {w : World},
    is.length = cs.length → (∀ (k i : Nat) (c : CO), is[k]? = some i → cs[k]? = some c → ∃ o c0, ops[i]? = some o ∧ compO P N ops o = some c0 ∧ c = { c0 with keep := c.keep }) →
    aops P pr cs K f h → Rel R h w → FR R N f a → a.defers = [] →
    (∀ f' h' R' a' w', K f' h' → Step R h R' h' w' → FR R' N f' a' → a'.defers = [] → Q .normal a' w') → wpOps P ops Q is a w
  | [], cs, pr, R, f, h, a, w, hl, hco, hk, hr, hf, hd, hq => by
    cases cs with
    | nil => exact hq f h R a w hk (.refl hr) hf hd
    | cons _ _ => simp at hl
  | i :: is, [], pr, R, f, h, a, w, hl, hco, hk, hr, hf, hd, hq => by simp at hl
  | i :: is, c :: cs, pr, R, f, h, a, w, hl, hco, hk, hr, hf, hd, hq => by
    obtain ⟨o, c0, ho, hc0, hceq⟩ := hco 0 i c rfl rfl
    obtain ⟨s1, s2, s3, s4⟩ := compO_spec hc0
    have g1 : c.op = c0.op := by rw [hceq]
    have g2 : c.dst = c0.dst := by rw [hceq]
    have g3 : c.guard = c0.guard := by rw [hceq]
    have hwant := want_eq (R := R) (f := f) (a := a) hc0 (fun s b _ => hf.2 s)
    have hrec := fun {pr R f h a w} => seq_sound (P := P) (N := N) (ops := ops) (Q := Q) (K := K) is cs (pr := pr) (R := R) (f := f) (h := h) (a := a) (w := w) (by simpa using hl) (fun k i' c' h1 h2 => hco (k + 1) i' c' (by simpa using h1) (by simpa using h2))
    rw [wpOps_cons]
    unfold wpOp
    simp only [ho, hwant]
    unfold aops at hk
    rw [g1, g2, g3] at hk
    have hdst : o.dst = c0.dst := s2.symm
    split
    · rename_i hw
      rw [if_pos hw] at hk
      refine .inl ?_
      rcases compOp_spec s1 with ⟨fo, e1, e2⟩ | ⟨eo, e1, e2⟩
      · rw [e1] at hk s3
        simp only at hk
        obtain ⟨v, k, hok, hk⟩ := hk
        have hev : ∀ x ∈ fo.reads, VR R (evF f x) (a.eval x) := fun x hx => opd_VR (List.all_eq_true.1 s3 x hx) (fun t _ => hf.2 t)
        have hpush : Rel R (h.pushO k) w ∧ ∀ b, k = some b → (h.pushO k).blk? h.next = some b ∧ R.rho h.next = none := by
          cases k with
          | none => exact ⟨hr, fun b hb => by simp at hb⟩
          | some b => exact ⟨(hr.push b).1, fun b' hb' => by obtain rfl := Option.some.inj hb'; exact ⟨Hp.blk_push _ _, (hr.push b).2⟩⟩
        have hok2 : fo.ok P (evF f) (h.pushO k) h.next v k := by
          exact ok_keep (Keeps.pushO h k) hok
        obtain ⟨v', w', R', r1, r2, r3, r4, r5⟩ := fo_sound (ev' := a.eval) e2 hev hpush.1 hok2 hpush.2
        show Oper.upon P o a _ Q ((execOp a.eval o).run P w)
        rw [r1]
        show wpOps P ops Q is (a.put o.dst v') w'
        have hstep : Step R h R' (h.pushO k) w' := by
          refine ⟨r3, r4, by cases k <;> rfl, by cases k; exact Nat.le_refl _; (show h.next ≤ (h.push _).next; rw [Hp.next_push]; omega), fun b e hb => ?_⟩
          rcases r5 b e hb with h1 | ⟨-, h1⟩
          · exact .inl h1
          · exact .inr (by omega)
        refine hrec hk r4 ?_ (put_defers.trans hd) (fun f2 h2 R2 a2 w2 k1 k2 k3 k4 => hq f2 h2 R2 a2 w2 k1 (hstep.trans k2) k3 k4)
        rw [hdst]
        exact (hf.mono r3).put s4 r2
      · rw [e1] at hk s3
        simp only at hk
        have hev : ∀ x ∈ eo.reads, VR R (evF f x) (a.eval x) := fun x hx => opd_VR (List.all_eq_true.1 s3 x hx) (fun t _ => hf.2 t)
        refine eo_sound e2 hev hr hk (fun v v' h' R' w' k1 k2 k3 => ?_)
        refine hrec k1.2 k3.rel ?_ (put_defers.trans hd) (fun f2 h2 R2 a2 w2 j1 j2 j3 j4 => hq f2 h2 R2 a2 w2 j1 (k3.trans j2) j3 j4)
        rw [hdst]
        exact (hf.mono k3.le).put s4 k2
    · rename_i hw
      rw [if_neg hw] at hk
      refine hrec hk hr ?_ (put_defers.trans hd) hq
      rw [hdst]
      exact hf.put s4 (undef_VR R)
end Go.Proofs.Ytalhipbbomagoaa.Ab
