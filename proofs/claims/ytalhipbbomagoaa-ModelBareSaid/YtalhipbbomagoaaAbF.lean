/- The operations of the code that write or call, told over a heap of plain values, and that the machine does what they tell. No statement of the set is proved in this text. -/
import Derived.Test.YtalhipbbomagoaaAbE
namespace Go.Proofs.Ytalhipbbomagoaa.Ab
open Go.RowKit
set_option linter.unusedVariables false
set_option linter.unusedSimpArgs false
/-- What holds behind a call: of any memory that stands to the heap as told. -/
def CPost (R : AR) (h : Hp) (K : Value → Hp → Prop) (e : Ending) (w' : World) : Prop := ∃ v v' h' R', K v h' ∧ e = .returned v' ∧ VR R' v v' ∧ Step R h R' h' w'
def ACalls (P : Program) (g : FuncId) (args : List Value) (h : Hp) (K : Value → Hp → Prop) : Prop :=
  (∃ fn, P.funcs[g]? = some fn ∧ (fn.name == "runtime.NumGoroutine") = false ∧ fn.body.isNone = false) ∧
  ∀ R w args', Rel R h w → VRs R args args' → Calls P g args'.toArray w (CPost R h K)
theorem ACalls.mono {P : Program} {g : FuncId} {args : List Value} {h : Hp} {K K' : Value → Hp → Prop} (hc : ACalls P g args h K) (hk : ∀ v h', K v h' → K' v h') : ACalls P g args h K' :=
  ⟨hc.1, fun R w args' hr hv => (hc.2 R w args' hr hv).mono fun e w' ⟨v, v', h', R', k, r⟩ => ⟨v, v', h', R', hk _ _ k, r⟩⟩
inductive EOp where
  | st (size : Nat) (a v : Operand)
  | cal (f : Operand) (args : List Operand)
  | app (es bytes : Nat) (s x : Operand)
  | apz (es bytes : Nat) (zc : List Value) (s x : Operand)
  | cpy (es : Nat) (d s : Operand)
  | mst (x : Operand)
def EOp.reads : EOp → List Operand
  | .st _ a v => [a, v]
  | .cal f args => f :: args
  | .app _ _ s x => [s, x]
  | .apz _ _ _ s x => [s, x]
  | .cpy _ d s => [d, s]
  | .mst x => [x]
/-- The cells of what is appended, or copied, and of how many elements. -/
def srcV (h : Hp) (es : Nat) : Value → Option (List Value × Nat)
  | .slice none n _ => if n = 0 then some ([], 0) else none
  | .slice (some a) n _ => (h.cells? a (n * es)).map (·, n)
  | .string s => if es = 1 then some (bytesOf s, s.size) else none
  | _ => none
def Hp.append (h : Hp) (es bytes : Nat) (s : Value) (new : List Value) (n : Nat) : Option (Value × Hp) :=
  match s with
  | .slice b m c =>
    if ¬ (m ≤ c ∧ (m + n) * bytes ≤ 2 ^ 46 ∧ m + n < 2 ^ 62) then none
    else if n = 0 then some (s, h)
    else match b with
      | none => if m = 0 ∧ c = 0 then some (.slice (some ⟨h.next, 0, none⟩) n (n + 1), h.push ⟨new, es, true⟩) else none
      | some a =>
        match h.cells? a (m * es) with
        | none => none
        | some old =>
          if c = m then some (.slice (some ⟨h.next, 0, none⟩) (m + n) (m + n + 1), h.push ⟨old ++ new, es, true⟩)
          else if ¬ a.block < h.old.heap.size ∧ c = m + 1 ∧ a.off = 0 ∧ a.spot = none ∧ (h.blk? a.block).map (fun k => (k.es, k.live)) = some (es, true) then some (.slice (some ⟨h.next, 0, none⟩) (m + n) (m + n + 1), (h.kill a.block).push ⟨old ++ new, es, true⟩)
          else none
  | _ => none
def cpyK (h : Hp) (K : Value → Hp → Prop) (l : List Value) (r : Nat) : Option Addr → Prop
  | some a => ∃ h', h.write a l = some h' ∧ K (.int .i64 r) h'
  | none => False
def EOp.run (P : Program) (ev : Operand → Value) (h : Hp) (K : Value → Hp → Prop) : EOp → Prop
  | .st size a v => match ev a with
    | .pointer (some ad) => (ev v).cells.size = size ∧ ∃ h', h.write ad (ev v).cells.toList = some h' ∧ K undef h'
    | _ => False
  | .cal f args => match ev f with
    | .func (.func g) a b => ACalls P g (a.toList ++ args.map ev ++ b.toList) h K
    | _ => False
  | .app es bytes s x => ∃ new n v h', srcV h es (ev x) = some (new, n) ∧ h.append es bytes (ev s) new n = some (v, h') ∧ K v h'
  | .apz es bytes zc s x => match ev x with
    | .int _ n => 0 ≤ n ∧ ∃ v h', h.append es bytes (ev s) (zerosOf es zc n.toNat) n.toNat = some (v, h') ∧ K v h'
    | _ => False
  | .cpy es d s => match ev d with
    | .slice b m _ => ∃ new n, srcV h es (ev s) = some (new, n) ∧
      if min n m = 0 then K (.int .i64 0) h
      else cpyK h K (new.take (min n m * es)) (min n m) b
    | _ => False
  | .mst x => match ev x with
    | .slice (some a) n c => (a.spot = none ∧ ∃ k, h.blk? a.block = some k ∧ k.live = true) ∧ K (.slice (some a) n c) h
    | _ => False
def srcT (P : Program) (t : TypeId) : Bool := match P.underlying t with | some (.slice _) => true | some .string => true | _ => false
def compE (P : Program) (o : Oper) : Option EOp :=
  match o.op with
  | .store t a v => (P.info? t).map fun inf => .st inf.size a v
  | .convert src dst x => match P.underlying src with
    | some (.slice e) => if src = dst ∧ byteT P e = true then some (.mst x) else none
    | _ => none
  | .call c =>
    match c.callee with
    | .value f => some (.cal f c.args.toList)
    | .builtin .append =>
      match c.args.toList, c.argTypes.toList with
      | [s, x], [t, u] =>
        match P.underlying t with
        | some (.slice e) => if srcT P u then (P.info? e).bind fun inf => inf.zero.bind fun z => if z.cells.all plainC ∧ z.cells.size = inf.size then some (.app inf.size inf.bytes s x) else none else match P.underlying u with
          | some (.int _) => (P.info? e).bind fun inf => inf.zero.bind fun z => if z.cells.all plainC ∧ z.cells.size = inf.size ∧ z.cells.size ≠ 0 then some (.apz inf.size inf.bytes z.cells.toList s x) else none
          | _ => none
        | _ => none
      | _, _ => none
    | .builtin .copy =>
      match c.args.toList, c.argTypes.toList with
      | [d, s], [t, u] =>
        match P.underlying t with
        | some (.slice e) => if srcT P u then (P.info? e).map fun inf => .cpy inf.size d s else none
        | _ => none
      | _, _ => none
    | _ => none
  | _ => none
theorem putAt_length (vs : List Value) : ∀ (cs : List Value) (off : Nat), (putAt cs off vs).length = cs.length := by
  induction vs with
  | nil => intro cs off; rfl
  | cons v vs ih => intro cs off; rw [putAt, ih]; simp
/-- Cells stored one behind the other. -/
theorem storeCells_run (P : Program) (g o : Nat) (t : TypeId) (fz : Nat × Nat) : ∀ (vs : List Value) (i : Nat) (cur : Array Value) (w : World), w.heap[g]? = some (.cells cur t fz) → o + i + vs.length ≤ cur.size → (∀ p, p < cur.size → ¬ (fz.1 ≤ p ∧ p < fz.2)) → (∀ v ∈ vs, v.oneCell' = true) →
    ∃ w', (storeCells ⟨g, o, none⟩ vs i).run P w = .ok () w' ∧ w'.heap[g]? = some (.cells (putAt cur.toList (o + i) vs).toArray t fz) ∧ (∀ b, b ≠ g → w'.heap[b]? = w.heap[b]?) ∧ w'.heap.size = w.heap.size ∧ w'.os = w.os ∧ w'.tape = w.tape ∧ w'.output = w.output
  | [], i, cur, w, hg, hs, hf, ho => ⟨w, by simp [storeCells], by simpa [putAt] using hg, fun _ _ => rfl, rfl, rfl, rfl, rfl⟩
  | v :: vs, i, cur, w, hg, hs, hf, ho => by
    rw [List.length_cons] at hs
    have ha : (Addr.add ⟨g, o, none⟩ i) = ⟨g, o + i, none⟩ := by
      unfold Addr.add
      split
      · rename_i h; subst h; rfl
      · rfl
    have hlt : o + i < cur.size := by omega
    have hc : w.cell? ⟨g, o + i, none⟩ = some cur[o + i] := by simp [World.cell?, hg, hlt]
    have hfr : w.frozen? ⟨g, o + i, none⟩ = false := by
      have := hf (o + i) hlt
      simp only [World.frozen?, hg]
      rw [Bool.eq_false_iff]
      intro hh
      simp only [Bool.and_eq_true, decide_eq_true_eq] at hh
      exact this hh
    have hset : (w.setCell ⟨g, o + i, none⟩ v).heap[g]? = some (.cells (cur.setIfInBounds (o + i) v) t fz) := by
      simp [World.setCell, Array.getElem?_modify, hg]
    obtain ⟨w', h1, h2, h3, h4, h5⟩ := storeCells_run P g o t fz vs (i + 1) (cur.setIfInBounds (o + i) v) (w.setCell ⟨g, o + i, none⟩ v) hset (by simp; omega) (fun p hp => hf p (by simpa using hp)) (fun x hx => ho x (List.mem_cons_of_mem _ hx))
    refine ⟨w', ?_, ?_, fun b hb => ?_, by rw [h4]; simp, h5⟩
    · simp only [storeCells, Sem.run_bind, ha]
      rw [run_store P w _ v _ (ho v (by simp)), hc]
      simp only [hfr, Bool.false_eq_true, if_false, Result.andThen_ok]
      exact h1
    · rw [h2]
      congr 2
      simp [putAt, Array.toList_setIfInBounds]
      rfl
    · rw [h3 b hb]
      exact Below.heap_setCell _ _ _ _ hb
theorem putAt_VR {R : AR} : ∀ (vs vs' : List Value) (cs : List Value) (cs' : List Value) (off : Nat), VRs R vs vs' → (∀ (o : Nat) v v', cs[o]? = some v → cs'[o]? = some v' → VR R v v') → ∀ (o : Nat) v v', (putAt cs off vs)[o]? = some v → (putAt cs' off vs')[o]? = some v' → VR R v v'
  | [], vs', cs, cs', off, hv, hc => by
    cases vs' with
    | nil => exact hc
    | cons _ _ => simp [VRs] at hv
  | v :: vs, vs', cs, cs', off, hv, hc => by
    obtain ⟨v', t', rfl, h1, h2⟩ := hv.uncons
    refine putAt_VR vs t' (cs.set off v) (cs'.set off v') (off + 1) h2 (fun o x x' ha hb => ?_)
    rw [List.getElem?_set] at ha hb
    by_cases e : off = o
    · subst e
      rw [if_pos rfl] at ha hb
      split at ha
      · split at hb
        · simp at ha hb
          subst ha hb
          exact h1
        · simp at hb
      · simp at ha
    · rw [if_neg e] at ha hb
      exact hc o x x' ha hb
theorem putAt_one : ∀ (vs cs : List Value) (off : Nat), vs.all (·.oneCell') = true → cs.all (·.oneCell') = true → (putAt cs off vs).all (·.oneCell') = true
  | [], cs, off, _, h => h
  | v :: vs, cs, off, h, hc => by
    rw [List.all_cons, Bool.and_eq_true] at h
    refine putAt_one vs _ _ h.2 ?_
    rw [List.all_eq_true] at hc ⊢
    intro x hx
    rcases List.mem_or_eq_of_mem_set hx with h1 | h1
    · exact hc x h1
    · rw [h1]; exact h.1
theorem Hp.blk_set (h : Hp) {b : Nat} {k0 : Blk} (k : Blk) (hb : h.blk? b = some k0) : (h.setBlk b k).blk? b = some k := by
  obtain ⟨h1, h2⟩ := Hp.blk_lt hb
  unfold Hp.blk? Hp.setBlk
  rw [if_neg (by simpa using h1)]
  unfold Hp.next at h2
  simp [show b - h.old.heap.size < h.new.length by omega]
theorem Hp.blk_set_ne (h : Hp) {b b' : Nat} (k : Blk) (hb : h.old.heap.size ≤ b) (hne : b' ≠ b) : (h.setBlk b k).blk? b' = h.blk? b' := by
  unfold Hp.blk? Hp.setBlk
  by_cases c : b' < h.old.heap.size
  · simp [c]
  · simp only [c, if_false]
    rw [List.getElem?_set_ne (by omega)]
theorem Hp.next_set (h : Hp) (b : Nat) (k : Blk) : (h.setBlk b k).next = h.next := by simp [Hp.next, Hp.setBlk]
/-- A write into a block told is a store into the machine's. -/
theorem Rel.write {R : AR} {h h' : Hp} {w : World} (P : Program) (hr : Rel R h w) {a a' : Addr} (ha : AddrR R a a') {vs vs' : List Value} (hv : VRs R vs vs') (hw : h.write a vs = some h') :
    ∃ w', (storeCells a' vs').run P w = .ok () w' ∧ Step R h R h' w' := by
  unfold Hp.write at hw
  split at hw
  · rename_i k hk
    split at hw
    · rename_i hc
      obtain ⟨hl, hsp, hle, hone⟩ := hc
      obtain rfl := Option.some.inj hw
      obtain ⟨hlo, hhi⟩ := Hp.blk_lt hk
      cases ha with
      | old _ hb => rw [hr.base] at hb; omega
      | new b o cb cs cc hb hrho =>
        obtain ⟨-, k2, hk2, hbr⟩ := hr.blk _ _ _ _ hrho
        have e : h.blk? b = some k := hk
        rw [hk2] at e
        obtain rfl := Option.some.inj e
        obtain ⟨c, t, fz, hm, hs, hf, hvr⟩ := hbr.mem
        have hlen := hbr.len
        obtain ⟨w', h1, h2, h3, h4, h5, h6, h7⟩ := storeCells_run P cb o t fz vs' 0 c w hm (by have := hv.1; simp only at hle; omega) (fun p hp => hf.2 p (by omega)) (fun v hv' => List.all_eq_true.1 (hv.one hone) v hv')
        refine ⟨w', h1, .refl R, ⟨hr.base, ?_, fun b' hd => ?_, fun b' cb' cs' cc' hb' => ?_, hr.inj⟩, rfl, by rw [Hp.next_set]; exact Nat.le_refl _, fun b e he => .inl he⟩
        · have hlo' := hbr.lo
          rw [hr.base] at hlo'
          exact ⟨h5.trans hr.below.os, h6.trans hr.below.tape, h7.trans hr.below.output, by show h.old.heap.size ≤ _; rw [h4]; exact hr.below.size, fun j hj => by rw [h3 j (by show j ≠ cb; have : j < h.old.heap.size := hj; omega)]; exact hr.below.block j hj⟩
        · obtain ⟨d1, k3, d2, d3⟩ := hr.dead b' hd
          refine ⟨d1, k3, ?_, d3⟩
          rw [Hp.blk_set_ne _ _ hlo (fun e => by subst e; rw [hrho] at d1; simp at d1)]
          exact d2
        · obtain ⟨h0, k3, hk3, hb3⟩ := hr.blk _ _ _ _ hb'
          by_cases e : b' = b
          · subst e
            rw [hrho] at hb'
            simp only [Option.some.injEq, Prod.mk.injEq] at hb'
            obtain ⟨rfl, rfl, rfl⟩ := hb'
            refine ⟨h0, _, Hp.blk_set _ _ hk, hbr.live, hbr.lo, hbr.room, by simp [putAt_length]; exact hbr.len, putAt_one _ _ _ hone hbr.one, _, t, fz, h2, by simp [putAt_length, hs], hf, fun o2 v v' a1 a2 => ?_⟩
            refine putAt_VR vs vs' k2.cells c.toList o hv (fun o3 x x' b1 b2 => hvr o3 x x' b1 (by simpa using b2)) o2 v v' a1 ?_
            simpa using a2
          · refine ⟨h0, k3, by rw [Hp.blk_set_ne _ _ hlo e]; exact hk3, hb3.live, hb3.lo, hb3.room, hb3.len, hb3.one, ?_⟩
            obtain ⟨c3, t3, fz3, hm3, r3⟩ := hb3.mem
            refine ⟨c3, t3, fz3, ?_, r3⟩
            rw [h3 cb' (fun e2 => e (hr.inj _ _ _ _ hb' hrho e2))]
            exact hm3
      | dead _ _ hb hd =>
        obtain ⟨-, k2, h2, h3⟩ := hr.dead _ hd
        rw [hk] at h2
        obtain rfl := Option.some.inj h2
        rw [hl] at h3
        simp at h3
      | junk _ _ hb hs => rw [hsp] at hs; simp at hs
    · simp at hw
  · simp at hw
def AR.kill (R : AR) (b id : Nat) (e : Nat × Nat × Nat) : AR := ⟨R.base, fun x => if x = id then some e else if x = b then none else R.rho x, fun x => R.dead x ∨ x = b⟩
theorem Rel.lt {R : AR} {h : Hp} {w : World} (hr : Rel R h w) {b : Nat} {e : Nat × Nat × Nat} (hb : R.rho b = some e) : e.1 < w.heap.size := by
  obtain ⟨cb, cs, cc⟩ := e
  obtain ⟨-, k2, -, hb3⟩ := hr.blk _ _ _ _ hb
  obtain ⟨c2, t2, fz2, hm, -⟩ := hb3.mem
  exact (Array.getElem?_eq_some_iff.1 hm).1
theorem Hp.kill_eq {h : Hp} {b : Nat} {k : Blk} (hk : h.blk? b = some k) : h.kill b = h.setBlk b { k with live := false } := by
  unfold Hp.kill
  rw [hk]
/-- A block whose cells go over to another one: it may not be looked at any more. -/
theorem Rel.move {R : AR} {h : Hp} {w : World} (hr : Rel R h w) {b cb0 cs0 cc0 : Nat} (hb : R.rho b = some (cb0, cs0, cc0)) (k : Blk) (hl : k.live = true) {w' : World} {cb cs cc : Nat} (hcb : cb = cb0 ∨ w.heap.size ≤ cb)
    (hsame : ∀ i, i ≠ cb0 → i < w.heap.size → w'.heap[i]? = w.heap[i]?) (hsz : w.heap.size ≤ w'.heap.size) (ho : w'.os = w.os) (ht : w'.tape = w.tape) (hp : w'.output = w.output) (hroom : cc * k.es ≤ cs) (hlen : k.cells.length ≤ cs) (hone : k.cells.all (·.oneCell') = true)
    (hmem : ∃ (c : Array Value) (t : TypeId) (fz : Nat × Nat), w'.heap[cb]? = some (.cells c t fz) ∧ c.size = cs ∧ FzOk cs fz ∧ ∀ (o : Nat) v v', k.cells[o]? = some v → c[o]? = some v' → VR R v v') :
    Step R h (R.kill b h.next (cb, cs, cc)) ((h.kill b).push k) w' := by
  obtain ⟨hlo, k0, hk0, hb0⟩ := hr.blk _ _ _ _ hb
  have hlo2 : h.old.heap.size ≤ b := hr.base ▸ hlo
  have hbn : b ≠ h.next := fun e => by rw [e, Hp.blk_next] at hk0; simp at hk0
  have hnn : R.rho h.next = none := (hr.push k).2
  have hkn : (h.kill b).next = h.next := by rw [Hp.kill_eq hk0, Hp.next_set]
  have hko : (h.kill b).old = h.old := by rw [Hp.kill_eq hk0]; rfl
  have hkb : (h.kill b).blk? b = some { k0 with live := false } := by rw [Hp.kill_eq hk0, Hp.blk_set _ _ hk0]
  have hke : ∀ b', b' ≠ b → (h.kill b).blk? b' = h.blk? b' := fun b' hne => by rw [Hp.kill_eq hk0, Hp.blk_set_ne _ _ hlo2 hne]
  have hle : R.le (R.kill b h.next (cb, cs, cc)) := by
    refine ⟨rfl, fun x e hx => ?_, fun x hx => .inl hx⟩
    by_cases e1 : x = b
    · exact .inr (.inr e1)
    · left
      show (if x = h.next then _ else if x = b then none else R.rho x) = some e
      rw [if_neg (fun e2 => by rw [e2, hnn] at hx; simp at hx), if_neg e1]
      exact hx
  have hold : ∀ x e, (R.kill b h.next (cb, cs, cc)).rho x = some e → (x = h.next ∧ e = (cb, cs, cc)) ∨ (x ≠ h.next ∧ x ≠ b ∧ R.rho x = some e) := by
    intro x e hx
    have hx2 : (if x = h.next then some (cb, cs, cc) else if x = b then none else R.rho x) = some e := hx
    by_cases e1 : x = h.next
    · rw [if_pos e1] at hx2
      exact .inl ⟨e1, (Option.some.inj hx2).symm⟩
    · rw [if_neg e1] at hx2
      by_cases e2 : x = b
      · rw [if_pos e2] at hx2; simp at hx2
      · rw [if_neg e2] at hx2
        exact .inr ⟨e1, e2, hx2⟩
  have hcbn : ∀ x e, x ≠ b → R.rho x = some e → e.1 ≠ cb := by
    intro x e hx he hcc
    rcases hcb with h1 | h1
    · exact hx (hr.inj _ _ _ _ he hb (by rw [hcc, h1]))
    · have := hr.lt he; omega
  have hcb0 : h.old.heap.size ≤ cb0 := hr.base ▸ hb0.lo
  have hbase : h.old.heap.size ≤ w.heap.size := hr.below.size
  refine ⟨hle, ⟨?_, ?_, fun x hx => ?_, fun x cbx csx ccx hx => ?_, fun x y ex ey hx hy hxy => ?_⟩, ?_, ?_, fun x e hx => ?_⟩
  · show R.base = (h.kill b).old.heap.size
    rw [hko]; exact hr.base
  · show Below (h.kill b).old.heap.size (h.kill b).old w'
    rw [hko]
    refine ⟨ho.trans hr.below.os, ht.trans hr.below.tape, hp.trans hr.below.output, Nat.le_trans hbase hsz, fun j hj => ?_⟩
    rw [hsame j (by omega) (by omega)]
    exact hr.below.block j hj
  · have hx' : R.dead x ∨ x = b := hx
    have hxn : x ≠ h.next := by
      rcases hx' with h1 | h1
      · intro e
        obtain ⟨-, k2, h2, -⟩ := hr.dead x h1
        rw [e, Hp.blk_next] at h2
        simp at h2
      · rw [h1]; exact hbn
    refine ⟨?_, ?_⟩
    · show (if x = h.next then _ else if x = b then none else R.rho x) = none
      rw [if_neg hxn]
      split
      · rfl
      · rename_i hxb
        exact (hr.dead x (hx'.resolve_right hxb)).1
    · rw [Hp.blk_push_ne _ _ (by rw [hkn]; exact hxn)]
      by_cases hxb : x = b
      · subst hxb
        exact ⟨_, hkb, rfl⟩
      · rw [hke _ hxb]
        exact (hr.dead x (hx'.resolve_right hxb)).2
  · rcases hold _ _ hx with ⟨rfl, he⟩ | ⟨h1, h2, h3⟩
    · simp only [Prod.mk.injEq] at he
      obtain ⟨rfl, rfl, rfl⟩ := he
      refine ⟨by show R.base ≤ h.next; rw [hr.base]; unfold Hp.next; omega, k, by rw [← hkn]; exact Hp.blk_push _ _, hl, ?_, hroom, hlen, hone, ?_⟩
      · show R.base ≤ cbx
        rw [hr.base]
        rcases hcb with e | e <;> omega
      · obtain ⟨c, t, fz, m1, m2, m3, m4⟩ := hmem
        exact ⟨c, t, fz, m1, m2, m3, fun o v v' a1 a2 => (m4 o v v' a1 a2).mono hle⟩
    · obtain ⟨g1, k2, g2, g3⟩ := hr.blk _ _ _ _ h3
      refine ⟨g1, k2, by rw [Hp.blk_push_ne _ _ (by rw [hkn]; exact h1), hke _ h2]; exact g2, g3.live, g3.lo, g3.room, g3.len, g3.one, ?_⟩
      obtain ⟨c, t, fz, m1, m2, m3, m4⟩ := g3.mem
      refine ⟨c, t, fz, ?_, m2, m3, fun o v v' a1 a2 => (m4 o v v' a1 a2).mono hle⟩
      rw [hsame cbx (fun e => h2 (hr.inj _ _ _ _ h3 hb e)) (Array.getElem?_eq_some_iff.1 m1).1]
      exact m1
  · rcases hold _ _ hx with ⟨rfl, rfl⟩ | ⟨h1, h2, h3⟩ <;> rcases hold _ _ hy with ⟨rfl, rfl⟩ | ⟨j1, j2, j3⟩
    · rfl
    · exact absurd hxy.symm (hcbn _ _ j2 j3)
    · exact absurd hxy (hcbn _ _ h2 h3)
    · exact hr.inj _ _ _ _ h3 j3 hxy
  · show (h.kill b).old = h.old
    exact hko
  · rw [Hp.next_push, hkn]
    omega
  · rcases hold _ _ hx with ⟨rfl, -⟩ | ⟨-, -, h3⟩
    · exact .inr (Nat.le_refl _)
    · exact .inl h3
theorem cellsFrom_take {h : Hp} {a : Addr} : ∀ (n i m : Nat) (l : List Value), h.cellsFrom a i n = some l → m ≤ n → h.cellsFrom a i m = some (l.take m)
  | n, i, 0, l, _, _ => by simp [Hp.cellsFrom]
  | 0, i, m + 1, l, _, hm => by omega
  | n + 1, i, m + 1, l, hl, hm => by
    simp only [Hp.cellsFrom] at hl ⊢
    cases hc : h.cell? (a.add i) with
    | none => simp [hc] at hl
    | some v =>
      simp only [hc] at hl ⊢
      obtain ⟨t, ht, rfl⟩ := Option.map_eq_some_iff.1 hl
      rw [cellsFrom_take n (i + 1) m t ht (by omega)]
      rfl
theorem srcV_run {R : AR} {h : Hp} {w : World} (P : Program) (hr : Rel R h w) {es n : Nat} {x x' : Value} {new : List Value} (hs : srcV h es x = some (new, n)) (hx : VR R x x') :
    (Builtin.lenOf x').run P w = .ok n w ∧ new.all (·.oneCell') = true ∧ new.length = n * es ∧ ∀ m, m ≤ n → ∃ l', VRs R (new.take (m * es)) l' ∧ (Builtin.firstCells es m x').run P w = .ok l'.toArray w := by
  unfold srcV at hs
  split at hs
  · split at hs
    · rename_i hn
      subst hn
      simp only [Option.some.injEq, Prod.mk.injEq] at hs
      obtain ⟨rfl, rfl⟩ := hs
      cases hx
      exact ⟨rfl, rfl, by simp, fun m hm => ⟨[], by simpa using VRs.nil R, rfl⟩⟩
    · simp at hs
  · rename_i a n' c
    obtain ⟨l, hl, he⟩ := Option.map_eq_some_iff.1 hs
    simp only [Prod.mk.injEq] at he
    obtain ⟨rfl, rfl⟩ := he
    cases hx with
    | sl _ a' _ _ c' hsl =>
      obtain ⟨l', k1, k2, k3, k4⟩ := hr.cells P hsl.addr hl
      refine ⟨rfl, k2, by rw [k1.1, k3], fun m hm => ?_⟩
      obtain ⟨l2, j1, j2, j3, j4⟩ := hr.cells P hsl.addr (show h.cells? a (m * es) = some (l.take (m * es)) from cellsFrom_take _ _ _ _ hl (Nat.mul_le_mul hm (Nat.le_refl _)))
      exact ⟨l2, j1, j4⟩
  · split at hs
    · rename_i s he
      subst he
      simp only [Option.some.injEq, Prod.mk.injEq] at hs
      obtain ⟨rfl, rfl⟩ := hs
      cases hx
      refine ⟨rfl, bytes_one s, by unfold bytesOf; rw [List.length_map, Nat.mul_one]; exact Array.length_toList, fun m hm => ⟨(bytesOf s).take (m * 1), ?_, ?_⟩⟩
      · refine ⟨rfl, fun i v v' h1 h2 => ?_⟩
        rw [h1] at h2
        obtain rfl := Option.some.inj h2
        have : v ∈ bytesOf s := List.mem_of_mem_take (List.mem_of_getElem? h1)
        obtain ⟨b, -, rfl⟩ := List.mem_map.1 this
        exact .int _ _
      · simp only [Builtin.firstCells, Sem.run_pure]
        congr 1
        apply Array.ext'
        simp [bytesOf, List.map_take]
    · simp at hs
  · simp at hs
theorem growBy_le (n : Nat) : ∀ (r c : Nat), Builtin.growBy n r c ≤ max c (n + (n + 768) / 4)
  | 0, c => by simp [Builtin.growBy]; omega
  | r + 1, c => by
    unfold Builtin.growBy
    split
    · omega
    · have := growBy_le n r (c + (c + 768) / 4)
      omega
theorem nextcap_le {n c : Nat} (h : c < n) : Builtin.nextslicecap n c ≤ 3 * n := by
  unfold Builtin.nextslicecap
  split
  · omega
  · split
    · omega
    · have := growBy_le n 4 c
      omega
theorem grow_run {P : Program} {w : World} {t u e ty : TypeId} {inf : TypeInfo} {z : Value} (ht : P.underlying t = some (.slice e)) (hu : srcT P u = true) (hi : P.info? e = some inf) (hz : inf.zero = some z) (hzs : z.cells.size = inf.size) {b : Option Addr} {m c n : Nat} {x' : Value} {old new : List Value}
    (hl : (Builtin.lenOf x').run P w = .ok n w) (hgt : c < m + n) (hbd : (m + n) * inf.bytes ≤ 2 ^ 46) (hbd2 : m + n < 2 ^ 62) (ho : (Builtin.firstCells inf.size m (.slice b m c)).run P w.drew = .ok old.toArray w.drew) (hn : (Builtin.firstCells inf.size n x').run P w.drew = .ok new.toArray w.drew) (hol : old.length = m * inf.size) (hnl : new.length = n * inf.size) :
    ∃ (cap : Nat) (cs : Array Value) (w' : World), m + n ≤ cap ∧ cs.size = cap * inf.size ∧ (∀ i, i < old.length + new.length → cs[i]? = (old ++ new)[i]?) ∧ (Builtin.append_ #[t, u] ty #[.slice b m c, x']).run P w = .ok (.slice (some ⟨w.heap.size, 0, none⟩) (m + n) cap) w' ∧ w'.heap = w.heap.push (.cells cs e) ∧ w'.os = w.os ∧ w'.tape = w.tape ∧ w'.output = w.output := by
  have hq : ∃ cap, m + n ≤ cap ∧ (choose (.appendCap (m + n) c e)).run P w = .ok cap w.drew := ⟨(Question.appendCap (m + n) c e).cut (w.tape w.drawn (.appendCap (m + n) c e)), Nat.le_add_right _ _, by rw [run_choose]; rfl⟩
  obtain ⟨cap, hcap, hch⟩ := hq
  have hzz : (∃ e', P.underlying u = some (.slice e')) ∨ P.underlying u = some .string := by
    unfold srcT at hu
    split at hu
    · exact .inl ⟨_, by assumption⟩
    · exact .inr (by assumption)
    · simp at hu
  have hnc := nextcap_le hgt
  have hb2 : Builtin.nextslicecap (m + n) c * inf.bytes ≤ 3 * (m + n) * inf.bytes := Nat.mul_le_mul hnc (Nat.le_refl _)
  have hb3 : 3 * (m + n) * inf.bytes = 3 * ((m + n) * inf.bytes) := by rw [Nat.mul_assoc]
  have h48 : ¬ (Builtin.nextslicecap (m + n) c * inf.bytes > 2 ^ 48) := by omega
  have hmax : ¬ (((m + n : Nat) : Int) > IntKind.i64.max ∧ (False ∨ inf.bytes = 0)) := by
    intro h
    have h1 := h.1
    have : IntKind.i64.max = 9223372036854775807 := by decide
    omega
  let cs : Array Value := old.toArray ++ new.toArray ++ Builtin.zeroCells z.cells (cap - (m + n))
  have hcs : cs.size = cap * inf.size := by
    show (old.toArray ++ new.toArray ++ Builtin.zeroCells z.cells (cap - (m + n))).size = _
    rw [Array.size_append, Array.size_append]
    have hzl : (Builtin.zeroCells z.cells (cap - (m + n))).size = (cap - (m + n)) * inf.size := by simp [Builtin.zeroCells, hzs]
    rw [hzl, List.size_toArray, List.size_toArray, hol, hnl, ← Nat.add_mul, ← Nat.add_mul]
    congr 1
    omega
  refine ⟨cap, cs, { w.drew with heap := w.heap.push (.cells cs e) }, hcap, hcs, fun i hi => ?_, ?_, rfl, rfl, rfl, rfl⟩
  · show (old.toArray ++ new.toArray ++ Builtin.zeroCells z.cells (cap - (m + n)))[i]? = _
    rw [Array.getElem?_append, if_pos (by simp; omega)]
    simp [List.getElem?_append]
  · have hlo := ho
    have hln := hn
    have hle : ¬ (m + n ≤ c) := by omega
    have e1 : ∀ w, (sizeOf e).run P w = .ok inf.size w := size_run hi
    have e2 : ∀ w, (typeInfo e).run P w = .ok inf w := info_run hi
    have e3 : ∀ w, (zeroValue e).run P w = .ok z w := zero_run hi hz
    rcases hzz with ⟨e', hdd⟩ | hdd
    all_goals
      simp only [Builtin.append_, List.getElem?_toArray, List.getElem?_cons_zero, List.getElem?_cons_succ, Sem.run_bind, und_run ht, Result.andThen_ok, e1, und_run hdd, Sem.run_pure, Bool.false_eq_true, if_false, hl, hle, false_or, Sem.run_ite, e2]
      rw [if_neg (by simpa using hmax), if_neg h48]
      simp only [Sem.run_bind, hch, Result.andThen_ok, run_askRoom, hlo, Bool.not_false, if_true, hln, e3, newRow, run_newObj, Sem.run_pure]
      rfl
theorem srcT_cases {P : Program} {u : TypeId} (hu : srcT P u = true) : (∃ e', P.underlying u = some (.slice e')) ∨ P.underlying u = some .string := by
  unfold srcT at hu
  split at hu
  · exact .inl ⟨_, by assumption⟩
  · exact .inr (by assumption)
  · simp at hu
theorem room_run {P : Program} {w : World} {t u e ty : TypeId} {inf : TypeInfo} (ht : P.underlying t = some (.slice e)) (hu : srcT P u = true) (hi : P.info? e = some inf) {b : Option Addr} {m c n : Nat} {x' : Value} {new : List Value} {w' : World}
    (hl : (Builtin.lenOf x').run P w = .ok n w) (hle : m + n ≤ c) (hn : (Builtin.firstCells inf.size n x').run P w = .ok new.toArray w)
    (hst : match b with | none => w' = w | some a => (storeCells (a.add (m * inf.size)) new).run P w = .ok () w') :
    (Builtin.append_ #[t, u] ty #[.slice b m c, x']).run P w = .ok (.slice b (m + n) c) w' := by
  have e1 : ∀ w, (sizeOf e).run P w = .ok inf.size w := size_run hi
  rcases srcT_cases hu with ⟨e', hdd⟩ | hdd
  all_goals
    simp only [Builtin.append_, List.getElem?_toArray, List.getElem?_cons_zero, List.getElem?_cons_succ, Sem.run_bind, und_run ht, Result.andThen_ok, e1, und_run hdd, Sem.run_pure, Bool.false_eq_true, if_false, hl, hle, if_true, Bool.not_false, hn, Sem.run_ite]
    cases b with
    | none => simp only at hst; subst hst; simp
    | some a => simp only at hst; simp [hst]
theorem Rel.drew {R : AR} {h : Hp} {w : World} (hr : Rel R h w) : Rel R h w.drew :=
  ⟨hr.base, ⟨hr.below.os, hr.below.tape, hr.below.output, hr.below.size, hr.below.block⟩, hr.dead, fun b cb cs cc hb => by
    obtain ⟨k1, k2, k3, k4⟩ := hr.blk b cb cs cc hb
    exact ⟨k1, k2, k3, k4.live, k4.lo, k4.room, k4.len, k4.one, k4.mem⟩, hr.inj⟩
theorem cellsFrom_get {h : Hp} {a : Addr} : ∀ (n i : Nat) (l : List Value), h.cellsFrom a i n = some l → ∀ (j : Nat) v, l[j]? = some v → h.cell? (a.add (i + j)) = some v
  | 0, i, l, hl, j, v, hv => by simp [Hp.cellsFrom] at hl; subst hl; simp at hv
  | n + 1, i, l, hl, j, v, hv => by
    simp only [Hp.cellsFrom] at hl
    cases hc : h.cell? (a.add i) with
    | none => simp [hc] at hl
    | some x =>
      simp only [hc] at hl
      obtain ⟨t, ht, rfl⟩ := Option.map_eq_some_iff.1 hl
      cases j with
      | zero => simp at hv; subst hv; simpa using hc
      | succ j =>
        simp at hv
        have := cellsFrom_get n (i + 1) t ht j v hv
        rwa [show i + (j + 1) = i + 1 + j by omega]
theorem cells_at {h : Hp} {b o : Nat} {k : Blk} (hk : h.blk? b = some k) (hl : k.live = true) {N : Nat} {l : List Value} (hc : h.cells? ⟨b, o, none⟩ N = some l) {i : Nat} {v : Value} (hv : l[i]? = some v) : k.cells[o + i]? = some v := by
  have h1 := cellsFrom_get N 0 l hc i v hv
  have hlo := (Hp.blk_lt hk).1
  have e : Addr.add ⟨b, o, none⟩ (0 + i) = ⟨b, o + i, none⟩ := by
    unfold Addr.add
    split
    · rename_i h
      simp only [Nat.zero_add] at h
      rw [h]
      rfl
    · simp
  rw [e] at h1
  unfold Hp.cell? at h1
  rw [if_neg (by simpa using hlo)] at h1
  simpa [hk, hl] using h1
theorem putAt_get : ∀ (vs cs : List Value) (off o : Nat), off + vs.length ≤ cs.length → (putAt cs off vs)[o]? = if off ≤ o ∧ o < off + vs.length then vs[o - off]? else cs[o]?
  | [], cs, off, o, h => by rw [if_neg (by simp)]; rfl
  | v :: vs, cs, off, o, h => by
    rw [List.length_cons] at h
    rw [putAt, putAt_get vs _ _ _ (by simp; omega), List.length_cons]
    by_cases h1 : o = off
    · subst h1
      rw [if_neg (by omega), if_pos (by omega), Nat.sub_self, List.getElem?_set_self (by omega)]
      rfl
    · by_cases h2 : off ≤ o ∧ o < off + (vs.length + 1)
      · rw [if_pos (by omega), if_pos h2, show o - off = (o - (off + 1)) + 1 by omega]
        rfl
      · rw [if_neg (by omega), if_neg h2, List.getElem?_set_ne (by omega)]
/-- An append, of whatever is appended. -/
theorem append_core {P : Program} {R : AR} {h : Hp} {w : World} (hr : Rel R h w) {t u e ty : TypeId} {inf : TypeInfo}
    {s s' x' : Value} (hs : VR R s s') {new new' new2 : List Value} {n : Nat} (hone : new.all (·.oneCell') = true) (hnl : new.length = n * inf.size) (hnv : VRs R new new') (hnv2 : VRs R new new2)
    (room : ∀ {b : Option Addr} {m c : Nat} {w' : World}, m + n < 2 ^ 62 → (m + n) * inf.bytes ≤ 2 ^ 46 → m + n ≤ c → (match b with | none => w' = w | some a => (storeCells (a.add (m * inf.size)) new').run P w = .ok () w') → (Builtin.append_ #[t, u] ty #[.slice b m c, x']).run P w = .ok (.slice b (m + n) c) w')
    (grow : ∀ {b : Option Addr} {m c : Nat} {old : List Value}, c < m + n → (m + n) * inf.bytes ≤ 2 ^ 46 → m + n < 2 ^ 62 → (Builtin.firstCells inf.size m (.slice b m c)).run P w.drew = .ok old.toArray w.drew → old.length = m * inf.size → new2.length = n * inf.size →
      ∃ (cap : Nat) (cs : Array Value) (w' : World), m + n ≤ cap ∧ cs.size = cap * inf.size ∧ (∀ i, i < old.length + new2.length → cs[i]? = (old ++ new2)[i]?) ∧ (Builtin.append_ #[t, u] ty #[.slice b m c, x']).run P w = .ok (.slice (some ⟨w.heap.size, 0, none⟩) (m + n) cap) w' ∧ w'.heap = w.heap.push (.cells cs e) ∧ w'.os = w.os ∧ w'.tape = w.tape ∧ w'.output = w.output)
    {v : Value} {h' : Hp} (ha : h.append inf.size inf.bytes s new n = some (v, h')) :
    ∃ v' w' R', (Builtin.append_ #[t, u] ty #[s', x']).run P w = .ok v' w' ∧ VR R' v v' ∧ Step R h R' h' w' := by
  have hnl' : new'.length = n * inf.size := by rw [← hnv.1, hnl]
  have hrd : Rel R h w.drew := hr.drew
  have hnl2 : new2.length = n * inf.size := by rw [← hnv2.1, hnl]
  have hnext : R.rho h.next = none := (hr.push ⟨[], 0, true⟩).2
  have hnb : R.base ≤ h.next := by rw [hr.base]; unfold Hp.next; omega
  unfold Hp.append at ha
  split at ha
  · rename_i b m c
    split at ha
    · simp at ha
    · rename_i hbd
      simp only [Decidable.not_not] at hbd
      obtain ⟨hmc, hbd1, hbd2⟩ := hbd
      -- the machine's slice
      have hs2 : ∃ b' c', s' = .slice b' m c' ∧ m ≤ c' := by
        cases hs with
        | nils _ _ => exact ⟨_, _, rfl, hmc⟩
        | sl a a' _ _ c' hsl =>
          refine ⟨_, _, rfl, ?_⟩
          by_cases hb : a.block < R.base
          · cases hsl with
            | old => exact hmc
            | new => simp at hb; omega
            | dead => omega
            | junk => omega
          · exact hsl.len hb
      obtain ⟨b', c', rfl, hmc'⟩ := hs2
      split at ha
      · rename_i hn0
        subst hn0
        simp only [Option.some.injEq, Prod.mk.injEq] at ha
        obtain ⟨rfl, rfl⟩ := ha
        have hne : new' = [] := List.eq_nil_of_length_eq_zero (by omega)
        subst hne
        refine ⟨_, w, R, room (by omega) (by omega) (by omega) ?_, by simpa using hs, .refl hr⟩
        cases b' with
        | none => rfl
        | some a => simp [storeCells]
      · rename_i hn0
        -- a new block of the machine's, and one told
        have fresh : ∀ (old old' : List Value), VRs R old old' → old.all (·.oneCell') = true → old.length = m * inf.size → (Builtin.firstCells inf.size m (.slice b' m c')).run P w.drew = .ok old'.toArray w.drew → c' < m + n →
            ∃ v' w' R', (Builtin.append_ #[t, u] ty #[.slice b' m c', x']).run P w = .ok v' w' ∧ VR R' (.slice (some ⟨h.next, 0, none⟩) (m + n) (m + n + 1)) v' ∧ Step R h R' (h.push ⟨old ++ new, inf.size, true⟩) w' := by
          intro old old' hov hoo hol hof hgt
          obtain ⟨cap, cs, w', g1, g2, g3, g4, g5, g6, g7, g8⟩ := grow hgt hbd1 hbd2 hof (by rw [← hov.1, hol]) hnl2
          have hp := (hr.push ⟨old ++ new, inf.size, true⟩).1
          have hle : (old ++ new).length ≤ cs.size := by
            rw [List.length_append, hol, hnl, g2, ← Nat.add_mul]
            exact Nat.mul_le_mul g1 (Nat.le_refl _)
          obtain ⟨q1, q2⟩ := hp.alloc (cc := cap) (Hp.blk_push _ _) rfl hnext g5 g6 g7 g8 (FzOk.zero _) (by show cap * inf.size ≤ cs.size; omega) hle (by rw [List.all_append, hoo, hone]; rfl) (fun o y y' a1 a2 => by
            have hlt := (List.getElem?_eq_some_iff.1 a1).1
            have hlt2 : o < old'.length + new2.length := by
              rw [← hov.1, hnl2, ← hnl, ← List.length_append]; exact hlt
            rw [g3 o hlt2] at a2
            exact (VRs.append hov hnv2).2 o y y' a1 a2)
          refine ⟨_, w', R.add h.next (w.heap.size, cs.size, cap), g4, .sl _ _ _ _ _ (.new _ _ _ _ _ _ _ _ hnb (add_at _ _ _) g1 (fun e => by omega) (fun _ _ => rfl)), q1, q2, rfl, by rw [Hp.next_push]; omega, fun x e hx => ?_⟩
          have hx2 : (if x = h.next then some (w.heap.size, cs.size, cap) else R.rho x) = some e := hx
          by_cases e1 : x = h.next
          · exact .inr (by omega)
          · rw [if_neg e1] at hx2
            exact .inl hx2
        split at ha
        · split at ha
          · rename_i h0
            obtain ⟨rfl, rfl⟩ := h0
            simp only [Option.some.injEq, Prod.mk.injEq] at ha
            obtain ⟨rfl, rfl⟩ := ha
            cases hs
            have := fresh [] [] (.nil R) rfl (by simp) (by simp [Builtin.firstCells]) (by omega)
            simpa using this
          · simp at ha
        · rename_i a
          split at ha
          · simp at ha
          · rename_i old hold
            cases hs with
            | sl _ a' _ _ _ hsl =>
            obtain ⟨old', k1, k2, k3, k4⟩ := hrd.cells P hsl.addr hold
            have hol : old.length = m * inf.size := by rw [k1.1, k3]
            have hof : (Builtin.firstCells inf.size m (.slice (some a') m c')).run P w.drew = .ok old'.toArray w.drew := by
              simp only [Builtin.firstCells]
              exact k4
            split at ha
            · rename_i hcm
              subst hcm
              simp only [Option.some.injEq, Prod.mk.injEq] at ha
              obtain ⟨rfl, rfl⟩ := ha
              have htight : c' = c := by
                cases hsl with
                | old => rfl
                | new _ _ _ _ _ _ _ _ _ _ _ h2 => exact h2 rfl
                | dead _ _ _ _ _ hb hd _ h2 => exact h2 rfl
              exact fresh old old' k1 k2 hol hof (by omega)
            · split at ha
              · rename_i hcm hcond
                obtain ⟨hnb', hc1, hoff, hsp, hblk⟩ := hcond
                simp only [Option.some.injEq, Prod.mk.injEq] at ha
                obtain ⟨rfl, rfl⟩ := ha
                obtain ⟨k0, hk0, hk1⟩ := Option.map_eq_some_iff.1 hblk
                simp only [Prod.mk.injEq] at hk1
                obtain ⟨hes, hlive⟩ := hk1
                cases hsl with
                | old _ _ _ hb => rw [hr.base] at hb; omega
                | junk _ _ _ _ hj => rw [hsp] at hj; simp at hj
                | dead _ _ _ _ _ hb hd =>
                  obtain ⟨-, k2, h2, h3⟩ := hr.dead _ hd
                  rw [hk0] at h2
                  obtain rfl := Option.some.inj h2
                  rw [hlive] at h3
                  simp at h3
                | new b o _ _ cb cs cc _ hb hrho h1 h2 h3 =>
                  obtain rfl : o = 0 := hoff
                  have hcc : c' = cc := h3 hc1 rfl
                  subst hcc
                  obtain ⟨-, kb, hkb, hbr⟩ := hr.blk _ _ _ _ hrho
                  have e0 : h.blk? b = some k0 := hk0
                  rw [hkb] at e0
                  obtain rfl := Option.some.inj e0
                  obtain ⟨cc0, tt, fz, hm, hms, hmf, hmv⟩ := hbr.mem
                  have hroom := hbr.room
                  rw [hes] at hroom
                  have hold2 : ∀ (i : Nat) (v : Value), old[i]? = some v → kb.cells[i]? = some v := by
                    intro i v hiv
                    have := cells_at hkb hlive hold hiv
                    simpa using this
                  have hlt : cb < w.heap.size := hr.lt hrho
                  by_cases hfit : m + n ≤ c'
                  · have hfit2 : (m + n) * inf.size ≤ c' * inf.size := Nat.mul_le_mul hfit (Nat.le_refl _)
                    rw [Nat.add_mul] at hfit2
                    have hadd : (Addr.add ⟨cb, 0, none⟩ (m * inf.size)) = ⟨cb, m * inf.size, none⟩ := by
                      unfold Addr.add
                      split
                      · rename_i h; rw [h]
                      · simp
                    obtain ⟨w', s1, s2, s3, s4, s5, s6, s7⟩ := storeCells_run P cb (m * inf.size) tt fz new' 0 cc0 w hm (by omega) (fun p hp => hmf.2 p (by omega)) (fun v hv' => List.all_eq_true.1 (hnv.one hone) v hv')
                    refine ⟨_, w', R.kill b h.next (cb, cs, c'), room hbd2 hbd1 hfit (by simp only [hadd]; exact s1), .sl _ _ _ _ _ (.new _ _ _ _ cb cs c' _ hnb (by show (if h.next = h.next then _ else _) = _; rw [if_pos rfl]) hfit (fun e => by omega) (fun _ _ => rfl)),
                      hr.move hrho ⟨old ++ new, inf.size, true⟩ rfl (.inl rfl) (fun i hi _ => s3 i hi) (by omega) s5 s6 s7 hroom (by show (old ++ new).length ≤ cs; rw [List.length_append, hol, hnl]; omega) (by show (old ++ new).all _ = true; rw [List.all_append, k2, hone]; rfl) ⟨_, tt, fz, s2, by simp [putAt_length, hms], hmf, fun o y y' a1 a2 => ?_⟩⟩
                    have a2' : (putAt cc0.toList (m * inf.size) new')[o]? = some y' := by simpa using a2
                    have a1' : (old ++ new)[o]? = some y := a1
                    rw [putAt_get _ _ _ _ (by simp; omega)] at a2'
                    rw [List.getElem?_append] at a1'
                    by_cases ho : o < old.length
                    · rw [if_pos ho] at a1'
                      rw [if_neg (by omega)] at a2'
                      exact hmv o y y' (hold2 o y a1') (by simpa using a2')
                    · rw [if_neg ho] at a1'
                      have := (List.getElem?_eq_some_iff.1 a1').1
                      rw [if_pos (by omega)] at a2'
                      rw [hol] at a1'
                      exact hnv.2 _ y y' a1' a2'
                  · obtain ⟨cap, csn, w', g1, g2, g3, g4, g5, g6, g7, g8⟩ := grow (by omega) hbd1 hbd2 hof (by rw [← k1.1, hol]) hnl2
                    have hle : (old ++ new).length ≤ csn.size := by
                      rw [List.length_append, hol, hnl, g2, ← Nat.add_mul]
                      exact Nat.mul_le_mul g1 (Nat.le_refl _)
                    refine ⟨_, w', R.kill b h.next (w.heap.size, csn.size, cap), g4, .sl _ _ _ _ _ (.new _ _ _ _ w.heap.size csn.size cap _ hnb (by show (if h.next = h.next then _ else _) = _; rw [if_pos rfl]) g1 (fun e => by omega) (fun _ _ => rfl)),
                      hr.move hrho ⟨old ++ new, inf.size, true⟩ rfl (.inr (Nat.le_refl _)) (fun i hi hil => by rw [g5, Array.getElem?_push, if_neg (by omega)]) (by rw [g5]; simp) g6 g7 g8 (by show cap * inf.size ≤ csn.size; omega) hle (by show (old ++ new).all _ = true; rw [List.all_append, k2, hone]; rfl) ⟨csn, e, (0, 0), by rw [g5]; simp, rfl, FzOk.zero _, fun o y y' a1 a2 => ?_⟩⟩
                    have a1' : (old ++ new)[o]? = some y := a1
                    have hlt := (List.getElem?_eq_some_iff.1 a1').1
                    have hlt2 : o < old'.length + new2.length := by
                      rw [← k1.1, hnl2, ← hnl, ← List.length_append]; exact hlt
                    rw [g3 o hlt2] at a2
                    exact (VRs.append k1 hnv2).2 o y y' a1' a2
              · simp at ha
  · simp at ha
/-- An append. -/
theorem append_sound {P : Program} {R : AR} {h : Hp} {w : World} (hr : Rel R h w) {t u e ty : TypeId} {inf : TypeInfo} {z : Value} (ht : P.underlying t = some (.slice e)) (hu : srcT P u = true) (hi : P.info? e = some inf) (hz : inf.zero = some z) (hzs : z.cells.size = inf.size)
    {s s' x x' : Value} (hs : VR R s s') (hx : VR R x x') {new : List Value} {n : Nat} (hsrc : srcV h inf.size x = some (new, n)) {v : Value} {h' : Hp} (ha : h.append inf.size inf.bytes s new n = some (v, h')) :
    ∃ v' w' R', (Builtin.append_ #[t, u] ty #[s', x']).run P w = .ok v' w' ∧ VR R' v v' ∧ Step R h R' h' w' := by
  obtain ⟨hlen, hone, hnl, hfirst⟩ := srcV_run P hr hsrc hx
  obtain ⟨new', hnv, hnew⟩ := hfirst n (Nat.le_refl _)
  rw [List.take_of_length_le (by omega)] at hnv
  have hrd : Rel R h w.drew := hr.drew
  obtain ⟨_, _, _, hfirst2⟩ := srcV_run P hrd hsrc hx
  obtain ⟨new2, hnv2, hnew2⟩ := hfirst2 n (Nat.le_refl _)
  rw [List.take_of_length_le (by omega)] at hnv2
  exact append_core (u := u) (ty := ty) hr hs hone hnl hnv hnv2 (fun _ _ h1 h2 => room_run ht hu hi hlen h1 hnew h2) (fun h1 h2 h3 h4 h5 h6 => grow_run (ty := ty) ht hu hi hz hzs hlen h1 h2 h3 h4 hnew2 h5 h6) ha
/-- An append of as many zeros as a number tells. -/
theorem zeros_val {z : Value} {es n : Nat} (hzs : z.cells.size = es) (h : ¬ n * es = 0) : Builtin.zeroCells z.cells n = (zerosOf es z.cells.toList n).toArray := by
  apply Array.ext'
  simp only [Builtin.zeroCells, zerosOf, hzs, Array.toList_map, Array.toList_range]
  refine List.map_congr_left fun i hi => ?_
  have h0 : 0 < es := Nat.pos_of_ne_zero fun e => h (by rw [e, Nat.mul_zero])
  have hlt : i % es < z.cells.size := by rw [hzs]; exact Nat.mod_lt _ h0
  have e0 : z.cells.toList.length = es := by simpa using hzs
  rw [List.getD_eq_getElem?_getD, e0, List.getElem?_eq_getElem (by omega), getElem!_pos z.cells (i % es) hlt]
  simp
theorem zeros_VR (R : AR) {z : Value} (hp : z.cells.all plainC = true) {es n : Nat} (hz0 : z.cells.size ≠ 0) : VRs R (zerosOf es z.cells.toList n) (zerosOf es z.cells.toList n) := by
  refine ⟨rfl, fun j v v' hv hv' => ?_⟩
  rw [hv] at hv'
  obtain rfl := Option.some.inj hv'
  unfold zerosOf at hv
  obtain ⟨i, hi, rfl⟩ := Option.map_eq_some_iff.1 (by rw [List.getElem?_map] at hv; exact hv)
  have hlt : i % z.cells.toList.length < z.cells.toList.length := Nat.mod_lt _ (by simp; omega)
  show VR R (z.cells.toList.getD (i % z.cells.toList.length) undef) (z.cells.toList.getD (i % z.cells.toList.length) undef)
  rw [List.getD_eq_getElem?_getD, List.getElem?_eq_getElem hlt]
  refine plainC_VR ?_
  have := Array.all_eq_true.1 hp (i % z.cells.toList.length) (by simpa using hlt)
  simpa using this
theorem apz_sound {P : Program} {R : AR} {h : Hp} {w : World} (hr : Rel R h w) {t u e ty : TypeId} {kk : IntKind} {inf : TypeInfo} {z : Value} (ht : P.underlying t = some (.slice e)) (hu : P.underlying u = some (.int kk)) (hi : P.info? e = some inf) (hz : inf.zero = some z) (hzs : z.cells.size = inf.size) (hp : z.cells.all plainC = true) (hz0 : z.cells.size ≠ 0)
    {s s' : Value} (hs : VR R s s') {k : IntKind} {N : Int} (hN : 0 ≤ N) {v : Value} {h' : Hp} (ha : h.append inf.size inf.bytes s (zerosOf inf.size z.cells.toList N.toNat) N.toNat = some (v, h')) :
    ∃ v' w' R', (Builtin.append_ #[t, u] ty #[s', .int k N]).run P w = .ok v' w' ∧ VR R' v v' ∧ Step R h R' h' w' := by
  have hlen : (zerosOf inf.size z.cells.toList N.toNat).length = N.toNat * inf.size := by simp [zerosOf]
  have hV := zeros_VR R hp (es := inf.size) (n := N.toNat) hz0
  have e1 : ∀ w, (sizeOf e).run P w = .ok inf.size w := size_run hi
  have e2 : ∀ w, (typeInfo e).run P w = .ok inf w := info_run hi
  have e3 : ∀ w, (zeroValue e).run P w = .ok z w := zero_run hi hz
  have hz1 : ∀ w : World, (if N.toNat * inf.size = 0 then Result.ok #[] w else Result.ok (Builtin.zeroCells z.cells N.toNat) w) = Result.ok (zerosOf inf.size z.cells.toList N.toNat).toArray w := by
    intro w
    by_cases h0 : N.toNat * inf.size = 0
    · rw [if_pos h0]
      simp [zerosOf, h0]
    · rw [if_neg h0, zeros_val hzs h0]
  have hasI : ∀ w : World, (asInt (.int k N)).run P w = .ok N w := fun w => by simp [asInt, asIntOf]
  have key : ∀ m : Nat, m + N.toNat < 2 ^ 62 → (m + N.toNat) * inf.bytes ≤ 2 ^ 46 → IntKind.i64.wrap N = N ∧ ¬ N < 0 ∧ ¬ N * (inf.bytes : Int) > 2 ^ 48 := fun m h1 h2 => by
    refine ⟨Go.IntWalk.i64_in N ⟨by omega, by omega⟩, by omega, ?_⟩
    have : N.toNat * inf.bytes ≤ 2 ^ 46 := Nat.le_trans (Nat.mul_le_mul (Nat.le_add_left _ _) (Nat.le_refl _)) h2
    have h3 : ((N.toNat * inf.bytes : Nat) : Int) = N * (inf.bytes : Int) := by rw [Int.natCast_mul, Int.toNat_of_nonneg hN]
    omega
  refine append_core (u := u) (ty := ty) (e := e) hr hs (zeros_one hp hz0) hlen hV hV (fun h1 h2 h3 h4 => ?_) (fun h1 h2 h3 h4 h5 h6 => ?_) ha
  · rename_i b m c w'
    obtain ⟨hw, hl0, hb⟩ := key m h1 h2
    simp only [Builtin.append_, List.getElem?_toArray, List.getElem?_cons_zero, List.getElem?_cons_succ, Sem.run_bind, und_run ht, und_run hu, Result.andThen_ok, e1, Sem.run_pure, if_true, Sem.run_ite, hasI, hw, if_neg hl0, e2, if_neg hb, if_pos h3, Bool.not_true, Bool.false_eq_true, if_false, e3, hz1]
    cases b with
    | none => simp only at h4; subst h4; simp
    | some a => simp only at h4; simp [h4]
  · rename_i b m c old
    obtain ⟨hw, hl0, hb⟩ := key m h3 h2
    have hq : ∃ cap, m + N.toNat ≤ cap ∧ (choose (.appendCap (m + N.toNat) c e)).run P w = .ok cap w.drew := ⟨(Question.appendCap (m + N.toNat) c e).cut (w.tape w.drawn (.appendCap (m + N.toNat) c e)), Nat.le_add_right _ _, by rw [run_choose]; rfl⟩
    obtain ⟨cap, hcap, hch⟩ := hq
    have hnc := nextcap_le h1
    have hb2 : Builtin.nextslicecap (m + N.toNat) c * inf.bytes ≤ 3 * (m + N.toNat) * inf.bytes := Nat.mul_le_mul hnc (Nat.le_refl _)
    have hb3 : 3 * (m + N.toNat) * inf.bytes = 3 * ((m + N.toNat) * inf.bytes) := by rw [Nat.mul_assoc]
    have h48 : ¬ (Builtin.nextslicecap (m + N.toNat) c * inf.bytes > 2 ^ 48) := by omega
    have hmax : ¬ (((m + N.toNat : Nat) : Int) > IntKind.i64.max ∧ (True ∨ inf.bytes = 0)) := by
      intro h
      have h1 := h.1
      have : IntKind.i64.max = 9223372036854775807 := by decide
      omega
    have hle : ¬ (m + N.toNat ≤ c) := by omega
    let cs : Array Value := old.toArray ++ (zerosOf inf.size z.cells.toList N.toNat).toArray ++ Builtin.zeroCells z.cells (cap - (m + N.toNat))
    have hcs : cs.size = cap * inf.size := by
      show (old.toArray ++ (zerosOf inf.size z.cells.toList N.toNat).toArray ++ Builtin.zeroCells z.cells (cap - (m + N.toNat))).size = _
      rw [Array.size_append, Array.size_append]
      have hzl : (Builtin.zeroCells z.cells (cap - (m + N.toNat))).size = (cap - (m + N.toNat)) * inf.size := by simp [Builtin.zeroCells, hzs]
      rw [hzl, List.size_toArray, List.size_toArray, h5, hlen, ← Nat.add_mul, ← Nat.add_mul]
      congr 1
      omega
    refine ⟨cap, cs, { w.drew with heap := w.heap.push (.cells cs e) }, hcap, hcs, fun i hi => ?_, ?_, rfl, rfl, rfl, rfl⟩
    · show (old.toArray ++ (zerosOf inf.size z.cells.toList N.toNat).toArray ++ Builtin.zeroCells z.cells (cap - (m + N.toNat)))[i]? = _
      rw [Array.getElem?_append, if_pos (by simp at hi ⊢; omega)]
      simp [List.getElem?_append]
    · simp only [Builtin.append_, List.getElem?_toArray, List.getElem?_cons_zero, List.getElem?_cons_succ, Sem.run_bind, und_run ht, und_run hu, Result.andThen_ok, e1, Sem.run_pure, if_true, Sem.run_ite, hasI, hw, if_neg hl0, e2, if_neg hb, if_neg hle, Bool.not_true, Bool.false_eq_true, if_false]
      rw [if_neg (by simpa using hmax), if_neg h48]
      simp only [Sem.run_bind, hch, Result.andThen_ok, run_askRoom, h4, hz1, e3, newRow, run_newObj, Sem.run_pure]
      rfl
/-- A copy. -/
theorem copy_sound {P : Program} {R : AR} {h : Hp} {w : World} (hr : Rel R h w) {t u e ty : TypeId} {inf : TypeInfo} (ht : P.underlying t = some (.slice e)) (hi : P.info? e = some inf)
    {b : Option Addr} {m c : Nat} {d' x x' : Value} (hd : VR R (.slice b m c) d') (hx : VR R x x') {new : List Value} {n : Nat} (hsrc : srcV h inf.size x = some (new, n)) {K : Value → Hp → Prop}
    (hk : if min n m = 0 then K (.int .i64 0) h else cpyK h K (new.take (min n m * inf.size)) (min n m) b) :
    ∃ v w' h', (Builtin.copy_ #[t, u] ty #[d', x']).run P w = .ok v w' ∧ K v h' ∧ VR R v v ∧ Step R h R h' w' := by
  obtain ⟨hlen, hone, hnl, hfirst⟩ := srcV_run P hr hsrc hx
  have hmn : min n m ≤ n := Nat.min_le_left _ _
  obtain ⟨l', k1, k2⟩ := hfirst (min n m) hmn
  have e1 : ∀ w, (sizeOf e).run P w = .ok inf.size w := size_run hi
  have hd2 : ∃ b' c', d' = .slice b' m c' := by cases hd <;> exact ⟨_, _, rfl⟩
  obtain ⟨b', c', rfl⟩ := hd2
  have run : ∀ w', (match b' with | none => w' = w | some a => (storeCells a l').run P w = .ok () w') → (Builtin.copy_ #[t, u] ty #[.slice b' m c', x']).run P w = .ok (.int .i64 (min n m : Nat)) w' := by
    intro w' hst
    simp only [Builtin.copy_, List.getElem?_toArray, List.getElem?_cons_zero, List.getElem?_cons_succ, Sem.run_bind, und_run ht, Result.andThen_ok, e1, hlen]
    have k2' : (Builtin.firstCells inf.size (Nat.min n m) x').run P w = .ok l'.toArray w := k2
    rw [k2']
    cases b' with
    | none => simp only at hst; subst hst; rfl
    | some a => simp only at hst; simp [hst, goInt]
  split at hk
  · rename_i h0
    have hl0 : l' = [] := by
      have := k1.1
      rw [h0] at this
      exact List.eq_nil_of_length_eq_zero (by simpa using this.symm)
    subst hl0
    have := run w (by cases b' <;> simp [storeCells])
    rw [h0] at this
    exact ⟨_, w, h, this, hk, .int _ _, .refl hr⟩
  · cases b with
    | none => exact hk.elim
    | some a =>
      obtain ⟨h', hw, hkk⟩ := hk
      cases hd with
      | sl _ a' _ _ _ hsl =>
        obtain ⟨w', s1, s2⟩ := hr.write P hsl.addr k1 hw
        exact ⟨_, w', h', run w' s1, hkk, .int _ _, s2⟩
theorem VRs_map {R : AR} {ev ev' : Operand → Value} (l : List Operand) (hf : ∀ x ∈ l, VR R (ev x) (ev' x)) : VRs R (l.map ev) (l.map ev') := lookup_of (l' := l) hf
theorem VRs_arr {R : AR} {a a' : Array Value} (hs : a.size = a'.size) (h : ∀ (i : Nat) v v', a[i]? = some v → a'[i]? = some v' → VR R v v') : VRs R a.toList a'.toList :=
  ⟨by simpa using hs, fun i v v' h1 h2 => h i v v' (by simpa using h1) (by simpa using h2)⟩
/-- A block's slice marked: the cell behind the block's last one is frozen. -/
theorem Rel.mark {R : AR} {h : Hp} {w : World} (P : Program) (hr : Rel R h w) {b cb cs cc : Nat} (hb : R.rho b = some (cb, cs, cc)) (o : Nat) : ∃ w', (markStringish ⟨cb, o, none⟩).run P w = .ok () w' ∧ Rel R h w' := by
  obtain ⟨h0, k, hk, hbr⟩ := hr.blk _ _ _ _ hb
  obtain ⟨c, t, fz, hm, hs, hf, hv⟩ := hbr.mem
  have hsh : w.shape? cb = some (t, cs) := by simp [World.shape?, hm, hs]
  refine ⟨w.freeze ⟨cb, cs, none⟩ 1, ?_, ?_⟩
  · simp [markStringish, run_shape, hsh, run_freeze]
  have hat : (w.freeze ⟨cb, cs, none⟩ 1).heap[cb]? = some (.cells c t (if fz.1 == fz.2 then (cs, cs + 1) else (min fz.1 cs, max fz.2 (cs + 1)))) := by
    simp [World.freeze, Array.getElem?_modify, hm]
  have hne : ∀ j, j ≠ cb → (w.freeze ⟨cb, cs, none⟩ 1).heap[j]? = w.heap[j]? := by
    intro j hj
    simp [World.freeze, Array.getElem?_modify, Ne.symm hj]
  have hz : FzOk cs (if fz.1 == fz.2 then (cs, cs + 1) else (min fz.1 cs, max fz.2 (cs + 1))) := by
    split
    · exact FzOk.behind _
    · rename_i hne
      have h1 : fz.1 ≠ fz.2 := by simpa using hne
      have h2 := hf.1
      have h3 : cs ≤ fz.1 := by
        refine Nat.le_of_not_lt fun hlt => hf.2 fz.1 hlt ⟨Nat.le_refl _, by omega⟩
      exact ⟨by simp only; omega, fun o ho => by simp only; omega⟩
  refine ⟨hr.base, ?_, hr.dead, fun b' cb' cs' cc' hb' => ?_, hr.inj⟩
  · have hlo := hbr.lo
    rw [hr.base] at hlo
    exact ⟨hr.below.os, hr.below.tape, hr.below.output, by have := hr.below.size; simp [World.freeze]; exact this, fun j hj => by rw [hne j (by omega)]; exact hr.below.block j hj⟩
  · obtain ⟨g0, k3, hk3, hb3⟩ := hr.blk _ _ _ _ hb'
    refine ⟨g0, k3, hk3, hb3.live, hb3.lo, hb3.room, hb3.len, hb3.one, ?_⟩
    by_cases e : b' = b
    · subst e
      rw [hb] at hb'
      simp only [Option.some.injEq, Prod.mk.injEq] at hb'
      obtain ⟨rfl, rfl, rfl⟩ := hb'
      rw [hk] at hk3
      obtain rfl := Option.some.inj hk3
      exact ⟨c, t, _, hat, hs, hz, hv⟩
    · obtain ⟨c3, t3, fz3, hm3, r3⟩ := hb3.mem
      refine ⟨c3, t3, fz3, ?_, r3⟩
      rw [hne cb' (fun e2 => e (hr.inj _ _ _ _ hb' hb e2))]
      exact hm3
/-- What an operation that writes, or calls, tells is what the machine does. -/
theorem eo_sound {P : Program} {R : AR} {h : Hp} {w : World} {o : Oper} {eo : EOp} {ev : Operand → Value} {a : Act} {K : Value → Hp → Prop} {next : Act → World → Prop} {Q : Exit → Act → World → Prop} (hc : compE P o = some eo) (hev : ∀ x ∈ eo.reads, VR R (ev x) (a.eval x)) (hr : Rel R h w) (hrun : eo.run P ev h K)
    (hnext : ∀ v v' h' R' w', K v h' → VR R' v v' → Step R h R' h' w' → next (a.put o.dst v') w') : o.wp P a w next Q := by
  obtain ⟨dst, op, ty, pos, aft, grd⟩ := o
  cases op with
  | store t x y =>
    obtain ⟨inf, hi, rfl⟩ := Option.map_eq_some_iff.1 hc
    obtain ⟨hx, hy⟩ := mem2 (Q := fun y => VR R (ev y) (a.eval y)) hev
    simp only [EOp.run] at hrun
    split at hrun
    · rename_i ad hv
      obtain ⟨hsz, h', hw, hk⟩ := hrun
      rw [hv] at hx
      obtain ⟨c1, c2⟩ := hy.cells
      have hs : ∃ w', (Instr.storeAt t (a.eval x) (a.eval y)).run P w = .ok () w' ∧ Step R h R h' w' := by
        generalize a.eval x = x' at *
        cases hx with
        | ptr _ ad' had =>
          obtain ⟨w', s1, s2⟩ := hr.write P had (VRs_arr c1 c2) hw
          refine ⟨w', ?_, s2⟩
          have e1 : ¬ ((a.eval y).cells.size ≠ inf.size) := by rw [← c1]; omega
          simp only [Instr.storeAt, Instr.sureAddr, pure_bind, storeVar, Sem.run_bind, size_run hi, Result.andThen_ok, if_neg e1]
          exact s1
      obtain ⟨w', s1, s2⟩ := hs
      show Oper.upon P _ a next Q ((execOp a.eval ⟨dst, .store t x y, ty, pos, aft, grd⟩).run P w)
      have : (execOp a.eval ⟨dst, .store t x y, ty, pos, aft, grd⟩).run P w = .ok .skip w' := by
        show (do Instr.storeAt t (a.eval x) (a.eval y); pure .skip : Sem Next).run P w = _
        simp [s1]
      rw [this]
      refine hnext undef undef h' R w' hk (.tuple _ _ rfl (fun i v v' h1 h2 => by simp at h1)) s2
    · exact hrun.elim
  | convert src dt x =>
    simp only [compE] at hc
    split at hc
    · rename_i e hu
      split at hc
      · rename_i hb
        obtain ⟨rfl, hb⟩ := hb
        have hbe : P.underlying e = some (.int .u8) := by
          unfold byteT at hb
          split at hb
          · assumption
          · simp at hb
        obtain rfl := Option.some.inj hc
        have hx := mem1 (Q := fun y => VR R (ev y) (a.eval y)) hev
        simp only [EOp.run] at hrun
        split at hrun
        · rename_i ad n c hv
          obtain ⟨⟨hsp, k, hk, hl⟩, hK⟩ := hrun
          rw [hv] at hx
          have hs : ∃ ad' c' w', a.eval x = .slice (some ad') n c' ∧ (markStringish ad').run P w = .ok () w' ∧ Rel R h w' := by
            generalize a.eval x = x' at *
            cases hx with
            | sl _ ad' _ _ c' hsl =>
              cases hsl with
              | old _ _ _ hlt => have := (Hp.blk_lt hk).1; rw [← hr.base] at this; omega
              | new b o _ _ cb cs cc _ hlt hrho =>
                obtain ⟨w', m1, m2⟩ := hr.mark P hrho o
                exact ⟨_, _, w', rfl, m1, m2⟩
              | dead _ _ _ _ _ hlt hd =>
                obtain ⟨-, k2, h2, h3⟩ := hr.dead _ hd
                rw [hk] at h2
                obtain rfl := Option.some.inj h2
                rw [hl] at h3
                simp at h3
              | junk _ _ _ hlt hs' => rw [hsp] at hs'; simp at hs'
          obtain ⟨ad', c', w', ea, m1, m2⟩ := hs
          show Oper.upon P _ a next Q ((execOp a.eval ⟨dst, .convert src src x, ty, pos, aft, grd⟩).run P w)
          have : (execOp a.eval ⟨dst, .convert src src x, ty, pos, aft, grd⟩).run P w = .ok (.value (a.eval x)) w' := by
            show (do pure (Next.value (← Go.convert src src (a.eval x))) : Sem Next).run P w = _
            rw [ea]
            simp [Go.convert, und_run hu, und_run hbe, m1]
          rw [this]
          refine hnext _ _ h R w' hK ?_ ⟨.refl R, m2, rfl, Nat.le_refl _, fun _ _ h => .inl h⟩
          exact hx
        · exact hrun.elim
      · simp at hc
    · simp at hc
  | call c =>
    obtain ⟨callee, args, argTypes⟩ := c
    simp only [compE] at hc
    split at hc
    · rename_i f
      obtain rfl := Option.some.inj hc
      simp only [EOp.run] at hrun
      split at hrun
      · rename_i g p q hv
        have hf : VR R (ev f) (a.eval f) := hev f (by simp [EOp.reads])
        rw [hv] at hf
        obtain ⟨⟨fn, hfn, hname, hbody⟩, hcall⟩ := hrun
        generalize hg : a.eval f = f' at hf
        cases hf with
        | func _ _ p' _ q' ha hb ka kb =>
          have hargs : VRs R (p.toList ++ args.toList.map ev ++ q.toList) (p'.toList ++ args.toList.map a.eval ++ q'.toList) :=
            VRs.append (VRs.append (VRs_arr ha ka) (VRs_map _ (fun x hx => hev x (by simp only [EOp.reads]; exact List.mem_cons_of_mem _ hx)))) (VRs_arr hb kb)
          have hcalls := hcall R w _ hr hargs
          have hex : (execOp a.eval ⟨dst, .call ⟨.value f, args, argTypes⟩, ty, pos, aft, grd⟩).run P w = .ok (.enter g (p' ++ args.map a.eval ++ q')) w := by
            show (do let d ← resolve a.eval ⟨.value f, args, argTypes⟩ ty; invoke d.target d.args : Sem Next).run P w = _
            simp only [resolve, hg, Deferred.ofValue, pure_bind, invoke, callFunc, Sem.run_bind, run_program, Result.andThen_ok, hfn]
            simp [hname, hbody]
          show Oper.upon P _ a next Q ((execOp a.eval ⟨dst, .call ⟨.value f, args, argTypes⟩, ty, pos, aft, grd⟩).run P w)
          rw [hex]
          have harr : (p'.toList ++ args.toList.map a.eval ++ q'.toList).toArray = p' ++ args.map a.eval ++ q' := by
            apply Array.ext'
            simp
          rw [harr] at hcalls
          refine Calls.mono hcalls fun e w' hp => ?_
          obtain ⟨v, v', h', R', k1, rfl, k2, k3⟩ := hp
          exact hnext v v' h' R' w' k1 k2 k3
      · exact hrun.elim
    · split at hc
      · rename_i s x t u hargs htys
        split at hc
        · rename_i e ht
          split at hc
          · rename_i hu
            obtain ⟨inf, hi, hc⟩ := Option.bind_eq_some_iff.1 hc
            obtain ⟨z, hz, hc⟩ := Option.bind_eq_some_iff.1 hc
            split at hc
            · rename_i hzz
              obtain rfl := Option.some.inj hc
              obtain ⟨new, n, v, h', h1, h2, hk⟩ := hrun
              obtain ⟨hs, hx⟩ := mem2 (Q := fun y => VR R (ev y) (a.eval y)) hev
              obtain ⟨v', w', R', g1, g2, g3⟩ := append_sound (ty := ty) hr ht hu hi hz hzz.2 hs hx h1 h2
              have ea : args = #[s, x] := Array.ext' hargs
              have et : argTypes = #[t, u] := Array.ext' htys
              subst ea et
              show Oper.upon P _ a next Q ((execOp a.eval ⟨dst, .call ⟨.builtin .append, #[s, x], #[t, u]⟩, ty, pos, aft, grd⟩).run P w)
              have : (execOp a.eval ⟨dst, .call ⟨.builtin .append, #[s, x], #[t, u]⟩, ty, pos, aft, grd⟩).run P w = .ok (.value v') w' := by
                have em : (#[s, x] : Array Operand).map a.eval = #[a.eval s, a.eval x] := by simp
                show (builtin .append #[t, u] ty ((#[s, x] : Array Operand).map fun | .const _ => true | _ => false) ((#[s, x] : Array Operand).map a.eval)).run P w = _
                rw [em]
                show (do pure (Next.value (← Builtin.append_ #[t, u] ty #[a.eval s, a.eval x])) : Sem Next).run P w = _
                simp [g1]
              rw [this]
              exact hnext v v' h' R' w' hk g2 g3
            · simp at hc
          · split at hc
            · rename_i kk hu
              obtain ⟨inf, hi, hc⟩ := Option.bind_eq_some_iff.1 hc
              obtain ⟨z, hz, hc⟩ := Option.bind_eq_some_iff.1 hc
              split at hc
              · rename_i hzz
                obtain rfl := Option.some.inj hc
                obtain ⟨hs, hx⟩ := mem2 (Q := fun y => VR R (ev y) (a.eval y)) hev
                simp only [EOp.run] at hrun
                split at hrun
                · rename_i k N hv
                  obtain ⟨h0, v, h', h2, hk⟩ := hrun
                  rw [hv] at hx
                  have hx' : a.eval x = .int k N := by
                    generalize a.eval x = q at hx
                    cases hx
                    rfl
                  obtain ⟨v', w', R', g1, g2, g3⟩ := apz_sound (ty := ty) (k := k) hr ht hu hi hz hzz.2.1 hzz.1 hzz.2.2 hs h0 h2
                  have ea : args = #[s, x] := Array.ext' hargs
                  have et : argTypes = #[t, u] := Array.ext' htys
                  subst ea et
                  show Oper.upon P _ a next Q ((execOp a.eval ⟨dst, .call ⟨.builtin .append, #[s, x], #[t, u]⟩, ty, pos, aft, grd⟩).run P w)
                  have : (execOp a.eval ⟨dst, .call ⟨.builtin .append, #[s, x], #[t, u]⟩, ty, pos, aft, grd⟩).run P w = .ok (.value v') w' := by
                    have em : (#[s, x] : Array Operand).map a.eval = #[a.eval s, a.eval x] := by simp
                    show (builtin .append #[t, u] ty ((#[s, x] : Array Operand).map fun | .const _ => true | _ => false) ((#[s, x] : Array Operand).map a.eval)).run P w = _
                    rw [em]
                    show (do pure (Next.value (← Builtin.append_ #[t, u] ty #[a.eval s, a.eval x])) : Sem Next).run P w = _
                    rw [hx']
                    simp [g1]
                  rw [this]
                  exact hnext v v' h' R' w' hk g2 g3
                · exact hrun.elim
              · simp at hc
            · simp at hc
        · simp at hc
      · simp at hc
    · split at hc
      · rename_i s x t u hargs htys
        split at hc
        · rename_i e ht
          split at hc
          · obtain ⟨inf, hi, rfl⟩ := Option.map_eq_some_iff.1 hc
            simp only [EOp.run] at hrun
            obtain ⟨hs, hx⟩ := mem2 (Q := fun y => VR R (ev y) (a.eval y)) hev
            split at hrun
            · rename_i b m cc hv
              rw [hv] at hs
              obtain ⟨new, n, h1, h2⟩ := hrun
              obtain ⟨v, w', h', g1, g2, g3, g4⟩ := copy_sound (u := u) (ty := ty) hr ht hi hs hx h1 h2
              have ea : args = #[s, x] := Array.ext' hargs
              have et : argTypes = #[t, u] := Array.ext' htys
              subst ea et
              show Oper.upon P _ a next Q ((execOp a.eval ⟨dst, .call ⟨.builtin .copy, #[s, x], #[t, u]⟩, ty, pos, aft, grd⟩).run P w)
              have : (execOp a.eval ⟨dst, .call ⟨.builtin .copy, #[s, x], #[t, u]⟩, ty, pos, aft, grd⟩).run P w = .ok (.value v) w' := by
                have em : (#[s, x] : Array Operand).map a.eval = #[a.eval s, a.eval x] := by simp
                show (builtin .copy #[t, u] ty ((#[s, x] : Array Operand).map fun | .const _ => true | _ => false) ((#[s, x] : Array Operand).map a.eval)).run P w = _
                rw [em]
                show (do pure (Next.value (← Builtin.copy_ #[t, u] ty #[a.eval s, a.eval x])) : Sem Next).run P w = _
                simp [g1]
              rw [this]
              exact hnext v v h' R w' g2 g3 g4
            · exact hrun.elim
          · simp at hc
        · simp at hc
      · simp at hc
    · simp at hc
  | _ => simp [compE] at hc
end Go.Proofs.Ytalhipbbomagoaa.Ab
