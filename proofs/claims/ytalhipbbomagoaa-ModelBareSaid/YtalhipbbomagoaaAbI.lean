/- Code, told over a heap of plain values: what holds behind it holds behind the machine's run; and of calls. No statement of the set is proved in this text. -/
import Derived.Test.YtalhipbbomagoaaAbH
namespace Go.Proofs.Ytalhipbbomagoaa.Ab
open Go.RowKit
set_option linter.unusedVariables false
set_option linter.unusedSimpArgs false
def masksOf (ops : Array Oper) : List Nat :=
  (List.range ops.size).foldl (fun ms j => ms ++ [(predsAt ops j).foldl (fun s e => s ||| 2 ^ e ||| ms.getD e 0) 0]) []
def ordFrom (ops : Array Oper) (cs : List CO) : Nat → Nat → List Nat
  | 0, _ => []
  | n + 1, M =>
    let ready := (List.range ops.size).filter fun i => !M.testBit i && (predsAt ops i).all fun e => M.testBit e
    match ready.find? fun i => !isE (cs.getD i c0) with
    | some i => i :: ordFrom ops cs n (M ||| 2 ^ i)
    | none => match ready with
      | i :: _ => i :: ordFrom ops cs n (M ||| 2 ^ i)
      | [] => []
def keepFrom (ops : Array Oper) (cs : List CO) (ms : List Nat) : List Nat → Nat → List Nat
  | [], _ => []
  | j :: ord, M => (if isE (cs.getD j c0) && (List.range ops.size).any (fun u => M.testBit u && heapy (cs.getD u c0) && !(ms.getD j 0).testBit u) then [j] else []) ++ keepFrom ops cs ms ord (M ||| 2 ^ j)
def listO (P : Program) (N : Nat) (ops : Array Oper) : List Oper → Option (List CO)
  | [] => some []
  | o :: os => match compO P N ops o, listO P N ops os with
    | some c, some cs => some (c :: cs)
    | _, _ => none
def keepCs (ks : List Nat) (i : Nat) : List CO → List CO
  | [] => []
  | c :: cs => { c with keep := ks.contains i } :: keepCs ks (i + 1) cs
def compReg (P : Program) (N : Nat) (ops : Array Oper) (draw : Bool) : Option (List CO) :=
  match listO P N ops ops.toList with
  | none => none
  | some cs =>
    if draw then
      let ms := masksOf ops
      let ord := ordFrom ops cs ops.size 0
      let cs' := keepCs (keepFrom ops cs ms ord 0) 0 cs
      if P.follows .mixedOrders && regOk ops cs' ms ord then some (ord.map fun i => cs'.getD i c0) else none
    else some cs
theorem listO_spec {P : Program} {N : Nat} {ops : Array Oper} : ∀ (os : List Oper) (cs : List CO), listO P N ops os = some cs → cs.length = os.length ∧ ∀ (i : Nat) o, os[i]? = some o → ∃ c, cs[i]? = some c ∧ compO P N ops o = some c
  | [], cs, h => by
    simp [listO] at h
    subst h
    exact ⟨rfl, fun i o h => by simp at h⟩
  | o :: os, cs, h => by
    unfold listO at h
    split at h
    · rename_i c cs' h1 h2
      obtain rfl := Option.some.inj h
      obtain ⟨l1, l2⟩ := listO_spec os cs' h2
      refine ⟨by simp [l1], fun i o' hi => ?_⟩
      cases i with
      | zero => simp at hi; subst hi; exact ⟨c, rfl, h1⟩
      | succ i => simp at hi; obtain ⟨c', k1, k2⟩ := l2 i o' hi; exact ⟨c', by simpa using k1, k2⟩
    · simp at h
theorem keepCs_spec (ks : List Nat) : ∀ (cs : List CO) (j : Nat), (keepCs ks j cs).length = cs.length ∧ ∀ (i : Nat) c, cs[i]? = some c → ∃ b, (keepCs ks j cs)[i]? = some { c with keep := b }
  | [], j => ⟨rfl, fun i c h => by simp at h⟩
  | c :: cs, j => by
    obtain ⟨h1, h2⟩ := keepCs_spec ks cs (j + 1)
    refine ⟨by simp [keepCs, h1], fun i c' hi => ?_⟩
    cases i with
    | zero => simp at hi; subst hi; exact ⟨_, rfl⟩
    | succ i => simp at hi; obtain ⟨b, hb⟩ := h2 i c' hi; exact ⟨b, by simpa [keepCs] using hb⟩
theorem regOk_spec {P : Program} {N : Nat} {ops : Array Oper} {cs : List CO} {ms ord : List Nat} (h : regOk ops cs ms ord = true) (hc : ∀ i o, ops[i]? = some o → ∃ c, compO P N ops o = some c ∧ cs.getD i c0 = { c with keep := (cs.getD i c0).keep }) : RegP P N ops cs ms ∧ walkOk ops cs ms ord 0 = true := by
  unfold regOk at h
  simp only [Bool.and_eq_true, beq_iff_eq] at h
  obtain ⟨⟨⟨⟨⟨⟨h1, h2⟩, h3⟩, h4⟩, h5⟩, h6⟩, h7⟩ := h
  refine ⟨⟨h1, hc, fun i hi e he => ?_, fun j i hj hm => ?_, fun i j hi hj t ha hb => ?_, fun r hr t ht u hu => ?_⟩, h7⟩
  · have := List.all_eq_true.1 (List.all_eq_true.1 h2 i (List.mem_range.2 hi)) e he
    simpa using this
  · have hlt : i < ops.size := by
      have h8 := List.all_eq_true.1 h4 j (List.mem_range.2 hj)
      simp only [decide_eq_true_eq] at h8
      rcases Nat.lt_or_ge i ops.size with h | h
      · exact h
      · have := Nat.testBit_lt_two_pow (Nat.lt_of_lt_of_le h8 (Nat.pow_le_pow_right (by decide) h))
        rw [this] at hm
        simp at hm
    have := List.all_eq_true.1 (List.all_eq_true.1 h3 j (List.mem_range.2 hj)) i (List.mem_range.2 hlt)
    rw [hm] at this
    simp only [Bool.not_true, Bool.false_or, List.any_eq_true, Bool.or_eq_true, beq_iff_eq] at this
    exact this
  · have key : ∀ i j, i < ops.size → j < i → (cs.getD i c0).dst = some t → (cs.getD j c0).dst = some t → False := by
      intro i j hi hj ha hb
      have := List.all_eq_true.1 (List.all_eq_true.1 h5 i (List.mem_range.2 hi)) j (List.mem_range.2 hj)
      rw [ha, hb] at this
      simp at this
    rcases Nat.lt_trichotomy i j with h | h | h
    · exact (key j i hj h hb ha).elim
    · exact h
    · exact (key i j hi h ha hb).elim
  · have := List.all_eq_true.1 (List.all_eq_true.1 h6 r (List.mem_range.2 hr)) t ht
    rw [hu] at this
    simp only [Bool.or_eq_true, beq_iff_eq] at this
    rcases this with (h | h) | h
    · exact .inl h
    · exact .inr (.inl h)
    · exact .inr (.inr h)
theorem Hp.lt_refl : True := trivial
theorem reg_sound {P : Program} {N : Nat} {ops : Array Oper} {draw : Bool} {l : List CO} (hl : compReg P N ops draw = some l) {K : Fr → Hp → Prop} {Q : Exit → Act → World → Prop} {R : AR} {f : Fr} {h : Hp} {a : Act} {w : World} {id : Nat}
    (hk : aops P [] l K f h) (hr : Rel R h w) (hf : FR R N f a) (hd : a.defers = []) (hq : ∀ f' h' R' a' w', K f' h' → Step R h R' h' w' → FR R' N f' a' → a'.defers = [] → Q .normal a' w') : (Code.region id ops draw).wp P Q a w := by
  unfold compReg at hl
  split at hl
  · simp at hl
  · rename_i cs hcs
    obtain ⟨l1, l2⟩ := listO_spec _ _ hcs
    split at hl
    · rename_i hdr
      subst hdr
      simp only at hl
      split at hl
      · rename_i hok
        rw [Bool.and_eq_true] at hok
        obtain ⟨hmix, hok⟩ := hok
        obtain rfl := Option.some.inj hl
        generalize hks : keepFrom ops cs (masksOf ops) (ordFrom ops cs ops.size 0) 0 = ks at *
        generalize ordFrom ops cs ops.size 0 = ord at *
        generalize masksOf ops = ms at *
        obtain ⟨k1, k2⟩ := keepCs_spec ks cs 0
        have hcomp : ∀ i o, ops[i]? = some o → ∃ c, compO P N ops o = some c ∧ (keepCs ks 0 cs).getD i c0 = { c with keep := ((keepCs ks 0 cs).getD i c0).keep } := by
          intro i o ho
          obtain ⟨c, h1, h2⟩ := l2 i o (by simpa using ho)
          obtain ⟨b, hb⟩ := k2 i c h1
          refine ⟨c, h2, ?_⟩
          have : (keepCs ks 0 cs).getD i c0 = { c with keep := b } := by simp only [List.getD, hb, Option.getD_some]
          rw [this]
        obtain ⟨hR, hwalk⟩ := regOk_spec hok hcomp
        refine wp_region_any hmix ?_
        have hj : J P N h.next ops (keepCs ks 0 cs) ms f 0 ord (lst (Array.replicate ops.size false)) (fun _ => undef) (fun _ => 0) (fun _ => none) R h a w.drew := by
          have hf0 : ∀ i, lst (Array.replicate ops.size false) i = false := by
            intro i
            unfold lst
            simp only [Array.getD_eq_getD_getElem?, Array.getElem?_replicate]
            split <;> rfl
          refine ⟨hr.drew, hwalk, fun i hi => by rw [hf0] at hi; simp at hi, fun i hi => by simp at hi, fun u i hu hx => by rw [hf0] at hx; simp at hx, fun i hi => by rw [hf0] at hi; simp at hi, fun u i hu hx => by simp at hx, hf.1, fun t => ?_, hd, fun u hu => by simp at hu, fun u hu => by simp at hu, Nat.le_refl _, fun u hu => by simp at hu, fun u u' hu => by simp at hu⟩
          have : val (keepCs ks 0 cs) (fun _ => undef) f (lst (Array.replicate ops.size false)) t = f t := by
            unfold val
            cases wr (keepCs ks 0 cs) t with
            | none => rfl
            | some u => simp only; rw [if_neg (by rw [hf0]; simp)]
          rw [this]
          exact hf.2 t
        have hv0 : (val (keepCs ks 0 cs) (fun _ => undef) f fun i => (0 : Nat).testBit i) = f := by
          funext t
          unfold val
          cases wr (keepCs ks 0 cs) t <;> simp
        obtain ⟨M', suf', v', idf', kf', H', pr', a0, a1, a2, a3, a4⟩ := adv hR ord 0 _ _ _ h [] ⟨fun u n x hu _ => by simp at hu, fun u x hu _ => by simp at hu⟩ hj (by rw [hv0]; exact hk)
        refine draw_sound hR rfl (fun f' h' R' a' w' q1 q2 q3 q4 => hq f' h' R' a' w' q1 q2 q3 q4) ops.size (Array.replicate ops.size false) M' suf' v' idf' kf' R H' a w.drew pr' a0 (by simp) ?_ a1 a2 a3 (.refl R) a4.1 (fun b e hb => .inl hb)
        unfold cnt
        exact Nat.le_trans List.countP_le_length (by simp)
      · simp at hl
    · rename_i hdr
      have hdr' : draw = false := by simpa using hdr
      subst hdr'
      obtain rfl := Option.some.inj hl
      refine wp_region (seq_sound (N := N) (R := R) (f := f) (h := h) (List.range ops.size) cs (by simp [l1]) (fun k i c h1 h2 => ?_) hk hr hf hd hq)
      have hki : k < ops.size ∧ k = i := by
        rw [List.getElem?_range] at h1
        · exact ⟨by have := (List.getElem?_eq_some_iff.1 h2).1; rw [l1] at this; exact this, Option.some.inj h1⟩
        · have := (List.getElem?_eq_some_iff.1 h2).1; rw [l1] at this; exact this
      obtain ⟨hk', rfl⟩ := hki
      have ho : ops[k]? = some ops[k] := by simp [hk']
      obtain ⟨c', q1, q2⟩ := l2 k ops[k] (by simp [hk'])
      rw [h2] at q1
      obtain rfl := Option.some.inj q1
      exact ⟨ops[k], c, ho, q2, rfl⟩
inductive AC where
  | skip
  | reg (l : List CO)
  | seq (a b : AC)
  | cond (c : Operand) (a b : AC)
  | block (id : Nat) (a : AC)
  | loop (a : AC)
  | scope (a : AC)
  | exit (id : Nat)
  | ret
  | bad
  | goto (l : Nat)
  | jmp (l : Nat) (a b : AC)
def compA (P : Program) (N : Nat) : Code → Option AC
  | .skip => some .skip
  | .region _ ops draw => some (match compReg P N ops draw with
    | some l => .reg l
    | none => .bad)
  | .seq a b => match compA P N a, compA P N b with
    | some a, some b => some (.seq a b)
    | _, _ => none
  | .cond c a b => match compA P N a, compA P N b with
    | some a, some b => if okOpd c then some (.cond c a b) else none
    | _, _ => none
  | .block id a => (compA P N a).map (.block id)
  | .loop a => (compA P N a).map .loop
  | .scope a => (compA P N a).map .scope
  | .exit id => some (.exit id)
  | .ret => some .ret
  | .label _ => some .skip
  | .goto l => some (.goto l)
  | _ => some .bad
/-- The first label that is gone to. -/
def goL : Code → Option Nat
  | .goto l => some l
  | .seq a b => match goL a with
    | some l => some l
    | none => goL b
  | .cond _ a b => match goL a with
    | some l => some l
    | none => goL b
  | .block _ a => goL a
  | .loop a => goL a
  | _ => none
/-- As compA; a scope in which the run goes back to one label is told by what it goes through first, and by what it goes through from the label on. -/
def compB (P : Program) (N : Nat) : Code → Option AC
  | .scope a => match goL a with
    | some l => match findLabel a l with
      | some r => match compA P N a, compA P N r with
        | some x, some y => some (.jmp l x y)
        | _, _ => none
      | none => none
    | none => (compB P N a).map .scope
  | .seq a b => match compB P N a, compB P N b with
    | some a, some b => some (.seq a b)
    | _, _ => none
  | c => compA P N c
abbrev QA := Exit → Fr → Hp → Prop
def thenA (K : Fr → Hp → Prop) (Q : QA) : QA
  | .normal => K
  | e => Q e
def inBlk (id : Nat) (Q : QA) : QA
  | .exit id' => fun f h => if id' = id then Q .normal f h else Q (.exit id') f h
  | e => Q e
def noGo (Q : QA) : QA
  | .goto _ => fun _ _ => False
  | e => Q e
def rnds (B : QA → Fr → Hp → Prop) (Q : QA) : Nat → Fr → Hp → Prop
  | 0 => fun _ _ => False
  | n + 1 => B (thenA (rnds B Q n) Q)
def goK (l : Nat) (K : Fr → Hp → Prop) (Q : QA) : QA
  | .goto l' => fun f h => l' = l ∧ K f h
  | e => Q e
def jrn (B : QA → Fr → Hp → Prop) (l : Nat) (Q : QA) : Nat → Fr → Hp → Prop
  | 0 => fun _ _ => False
  | n + 1 => B (goK l (jrn B l Q n) Q)
def awp (P : Program) : AC → QA → Fr → Hp → Prop
  | .skip, Q => Q .normal
  | .reg l, Q => aops P [] l (Q .normal)
  | .seq a b, Q => awp P a (thenA (awp P b Q) Q)
  | .cond c a b, Q => fun f h => match evF f c with
    | .bool t => if t = true then awp P a Q f h else awp P b Q f h
    | _ => False
  | .block id a, Q => awp P a (inBlk id Q)
  | .loop a, Q => fun f h => ∃ n, rnds (awp P a) Q n f h
  | .scope a, Q => awp P a (noGo Q)
  | .exit id, Q => Q (.exit id)
  | .ret, Q => Q .ret
  | .bad, _ => fun _ _ => False
  | .goto l, Q => Q (.goto l)
  | .jmp l a b, Q => fun f h => ∃ n, awp P a (goK l (jrn (awp P b) l Q n) Q) f h
def conc (N : Nat) (R : AR) (h : Hp) (Q : QA) (e : Exit) (a' : Act) (w' : World) : Prop := ∃ f' h' R', Q e f' h' ∧ Step R h R' h' w' ∧ FR R' N f' a' ∧ a'.defers = []
theorem conc_trans {N : Nat} {R R' : AR} {h h' : Hp} {w' : World} {Q : QA} (s : Step R h R' h' w') {e : Exit} {a : Act} {w : World} (c : conc N R' h' Q e a w) : conc N R h Q e a w := by
  obtain ⟨f2, h2, R2, c1, c2, c3, c4⟩ := c
  exact ⟨f2, h2, R2, c1, s.trans c2, c3, c4⟩
theorem awp_sound {P : Program} {N : Nat} : ∀ (c : Code) (ac : AC), compA P N c = some ac → ∀ (Q : QA) (f : Fr) (h : Hp), awp P ac Q f h → ∀ (R : AR) (w : World) (a : Act), Rel R h w → FR R N f a → a.defers = [] → c.wp P (conc N R h Q) a w
  | .skip, ac, hc, Q, f, h, hk, R, w, a, hr, hf, hd => by
    obtain rfl := Option.some.inj hc
    exact wp_skip ⟨f, h, R, hk, .refl hr, hf, hd⟩
  | .region id ops draw, ac, hc, Q, f, h, hk, R, w, a, hr, hf, hd => by
    obtain rfl := Option.some.inj hc
    split at hk
    rotate_left
    · exact hk.elim
    rename_i l hl
    exact reg_sound hl hk hr hf hd (fun f' h' R' a' w' q1 q2 q3 q4 => ⟨f', h', R', q1, q2, q3, q4⟩)
  | .seq x y, ac, hc, Q, f, h, hk, R, w, a, hr, hf, hd => by
    unfold compA at hc
    split at hc
    · rename_i ax ay hx hy
      obtain rfl := Option.some.inj hc
      refine wp_seq (wp_mono (awp_sound x ax hx _ f h hk R w a hr hf hd) (fun e a' w' hq => ?_))
      obtain ⟨f', h', R', q1, q2, q3, q4⟩ := hq
      cases e with
      | normal => exact wp_mono (awp_sound y ay hy Q f' h' q1 R' w' a' q2.rel q3 q4) (fun e a w c => conc_trans q2 c)
      | _ => exact ⟨f', h', R', q1, q2, q3, q4⟩
    · simp at hc
  | .cond c x y, ac, hc, Q, f, h, hk, R, w, a, hr, hf, hd => by
    unfold compA at hc
    split at hc
    · rename_i ax ay hx hy
      split at hc
      · rename_i hok
        obtain rfl := Option.some.inj hc
        unfold awp at hk
        split at hk
        · rename_i t ht
          have hv : VR R (evF f c) (a.eval c) := opd_VR hok (fun t _ => hf.2 t)
          rw [ht] at hv
          have he : a.eval c = .bool t := by
            generalize a.eval c = v at hv
            cases hv
            rfl
          refine wp_cond he ?_
          cases t with
          | true => exact awp_sound x ax hx Q f h (by simpa using hk) R w a hr hf hd
          | false => exact awp_sound y ay hy Q f h (by simpa using hk) R w a hr hf hd
        · exact hk.elim
      · simp at hc
    · simp at hc
  | .block id x, ac, hc, Q, f, h, hk, R, w, a, hr, hf, hd => by
    obtain ⟨ax, hx, rfl⟩ := Option.map_eq_some_iff.1 hc
    refine wp_block (wp_mono (awp_sound x ax hx _ f h hk R w a hr hf hd) (fun e a' w' hq => ?_))
    obtain ⟨f', h', R', q1, q2, q3, q4⟩ := hq
    cases e with
    | exit id' =>
      show if id' = id then _ else _
      simp only [inBlk] at q1
      split
      · rename_i e; rw [if_pos e] at q1; exact ⟨f', h', R', q1, q2, q3, q4⟩
      · rename_i e; rw [if_neg e] at q1; exact ⟨f', h', R', q1, q2, q3, q4⟩
    | _ => exact ⟨f', h', R', q1, q2, q3, q4⟩
  | .loop x, ac, hc, Q, f, h, hk, R, w, a, hr, hf, hd => by
    obtain ⟨ax, hx, rfl⟩ := Option.map_eq_some_iff.1 hc
    obtain ⟨n, hn⟩ := hk
    refine wp_loop_rounds n ?_
    have key : ∀ n f h R w a, rnds (awp P ax) Q n f h → Rel R h w → FR R N f a → a.defers = [] → Code.rounds P x (conc N R h Q) n a w := by
      intro n
      induction n with
      | zero => intro f h R w a hn; exact hn.elim
      | succ n ih =>
        intro f h R w a hn hr hf hd
        refine wp_mono (awp_sound x ax hx _ f h hn R w a hr hf hd) (fun e a' w' hq => ?_)
        obtain ⟨f', h', R', q1, q2, q3, q4⟩ := hq
        cases e with
        | normal =>
          have := ih f' h' R' w' a' q1 q2.rel q3 q4
          exact rounds_mono (fun e a w c => conc_trans q2 c) n a' w' this
        | _ => exact ⟨f', h', R', q1, q2, q3, q4⟩
    exact key n f h R w a hn hr hf hd
  | .scope x, ac, hc, Q, f, h, hk, R, w, a, hr, hf, hd => by
    obtain ⟨ax, hx, rfl⟩ := Option.map_eq_some_iff.1 hc
    refine wp_scope_straight (wp_mono (awp_sound x ax hx _ f h hk R w a hr hf hd) (fun e a' w' hq => ?_))
    obtain ⟨f', h', R', q1, q2, q3, q4⟩ := hq
    cases e with
    | goto l => exact q1.elim
    | _ => exact ⟨f', h', R', q1, q2, q3, q4⟩
  | .exit id, ac, hc, Q, f, h, hk, R, w, a, hr, hf, hd => by
    obtain rfl := Option.some.inj hc
    exact wp_exit ⟨f, h, R, hk, .refl hr, hf, hd⟩
  | .ret, ac, hc, Q, f, h, hk, R, w, a, hr, hf, hd => by
    obtain rfl := Option.some.inj hc
    exact wp_ret ⟨f, h, R, hk, .refl hr, hf, hd⟩
  | .label l, ac, hc, Q, f, h, hk, R, w, a, hr, hf, hd => by
    obtain rfl := Option.some.inj hc
    exact wp_label ⟨f, h, R, hk, .refl hr, hf, hd⟩
  | .goto l, ac, hc, Q, f, h, hk, R, w, a, hr, hf, hd => by
    obtain rfl := Option.some.inj hc
    exact wp_goto ⟨f, h, R, hk, .refl hr, hf, hd⟩
  | .rangeFunc _ _ _ _, ac, hc, _, _, _, hk, _, _, _, _, _, _ => by
    obtain rfl := Option.some.inj hc
    exact hk.elim
  | .refuse _, ac, hc, _, _, _, hk, _, _, _, _, _, _ => by
    obtain rfl := Option.some.inj hc
    exact hk.elim
where
  rounds_mono {P : Program} {c : Code} {Q Q' : Exit → Act → World → Prop} (h : ∀ e a w, Q e a w → Q' e a w) : ∀ (n : Nat) (a : Act) (w : World), Code.rounds P c Q n a w → Code.rounds P c Q' n a w
    | 0, a, w, hh => hh
    | n + 1, a, w, hh => wp_mono hh (fun e a w hq => by
        cases e with
        | normal => exact rounds_mono h n a w hq
        | _ => exact h _ _ _ hq)
/-- A scope in which the run goes back to one label, so and so often. -/
theorem wp_scope_rounds {P : Program} {a : Act} {w : World} {Q : Exit → Act → World → Prop} {c rest : Code} (l : Nat) (J : Nat → Act → World → Prop) (hf : findLabel c l = some rest)
    (first : c.wp P (Exit.jump l (fun a w => ∃ n, J n a w) Q) a w)
    (pass : ∀ n a w, J n a w → rest.wp P (Exit.jump l (fun a' w' => ∃ m, m < n ∧ J m a' w') Q) a w) : (Code.scope c).wp P Q a w := by
  intro b k cs
  have hg : gotoIn l (.inScope c :: k) = some (.code rest :: .inScope c :: k) := by simp [gotoIn, hf]
  have key : ∀ n a w, J n a w → ∃ e a' w', Q e a' w' ∧ Arrives P (lone (b.at a (.code rest :: .inScope c :: k)) cs w) b k cs e a' w' := by
    intro n
    induction n using Nat.strongRecOn with
    | _ n ih =>
      intro a w hJ
      obtain ⟨e, a₁, w₁, hq, harr⟩ := pass n a w hJ b (.inScope c :: k) cs
      cases e with
      | normal => exact ⟨.normal, a₁, w₁, hq, Steps.trans harr (.one step_inScope)⟩
      | exit id => exact ⟨.exit id, a₁, w₁, hq, fun k' hk => harr k' (by simp [exitTo, hk])⟩
      | goto l' =>
        obtain ⟨rfl, m, hlt, hJ'⟩ := hq
        obtain ⟨e₂, a₂, w₂, hq₂, harr₂⟩ := ih m hlt a₁ w₁ hJ'
        exact ⟨e₂, a₂, w₂, hq₂, .of_steps (harr _ hg) harr₂⟩
      | ret => exact ⟨_, a₁, w₁, hq, harr⟩
      | panic ch => exact ⟨_, a₁, w₁, hq, harr⟩
      | outgrown => exact ⟨_, a₁, w₁, hq, harr⟩
  obtain ⟨e, a₁, w₁, hq, harr⟩ := first b (.inScope c :: k) cs
  cases e with
  | normal => exact ⟨.normal, a₁, w₁, hq, .head step_scope (Steps.trans harr (.one step_inScope))⟩
  | exit id => exact ⟨.exit id, a₁, w₁, hq, fun k' hk => .head step_scope (harr k' (by simp [exitTo, hk]))⟩
  | goto l' =>
    obtain ⟨rfl, n, hJ'⟩ := hq
    obtain ⟨e₂, a₂, w₂, hq₂, harr₂⟩ := key n a₁ w₁ hJ'
    exact ⟨e₂, a₂, w₂, hq₂, .of_steps (.head step_scope (harr _ hg)) harr₂⟩
  | ret => exact ⟨_, a₁, w₁, hq, .of_steps (.one step_scope) harr⟩
  | panic ch => exact ⟨_, a₁, w₁, hq, .of_steps (.one step_scope) harr⟩
  | outgrown => exact ⟨_, a₁, w₁, hq, .of_steps (.one step_scope) harr⟩
theorem awpB_sound {P : Program} {N : Nat} : ∀ (c : Code) (ac : AC), compB P N c = some ac → ∀ (Q : QA) (f : Fr) (h : Hp), awp P ac Q f h → ∀ (R : AR) (w : World) (a : Act), Rel R h w → FR R N f a → a.defers = [] → c.wp P (conc N R h Q) a w := by
  intro c
  induction c with
  | scope x ih =>
    intro ac hc Q f h hk R w a hr hf hd
    unfold compB at hc
    split at hc
    · rename_i l hl
      split at hc
      · rename_i r hfl
        split at hc
        · rename_i ax ay hx hy
          obtain rfl := Option.some.inj hc
          obtain ⟨n, hn⟩ := hk
          refine wp_scope_rounds l (fun n a' w' => ∃ f' h' R', jrn (awp P ay) l Q n f' h' ∧ Step R h R' h' w' ∧ FR R' N f' a' ∧ a'.defers = []) hfl ?_ (fun n a' w' hJ => ?_)
          · refine wp_mono (awp_sound x ax hx _ f h hn R w a hr hf hd) (fun e a' w' hq => ?_)
            obtain ⟨f', h', R', q1, q2, q3, q4⟩ := hq
            cases e with
            | goto l' => exact ⟨q1.1, n, f', h', R', q1.2, q2, q3, q4⟩
            | _ => exact ⟨f', h', R', q1, q2, q3, q4⟩
          · obtain ⟨f', h', R', q1, q2, q3, q4⟩ := hJ
            cases n with
            | zero => exact q1.elim
            | succ n =>
              refine wp_mono (awp_sound r ay hy _ f' h' q1 R' w' a' q2.rel q3 q4) (fun e a2 w2 hq => ?_)
              obtain ⟨f2, h2, R2, p1, p2, p3, p4⟩ := hq
              cases e with
              | goto l' => exact ⟨p1.1, n, Nat.lt_succ_self n, f2, h2, R2, p1.2, q2.trans p2, p3, p4⟩
              | _ => exact ⟨f2, h2, R2, p1, q2.trans p2, p3, p4⟩
        · simp at hc
      · simp at hc
    · obtain ⟨ax, hx, rfl⟩ := Option.map_eq_some_iff.1 hc
      refine wp_scope_straight (wp_mono (ih ax hx _ f h hk R w a hr hf hd) (fun e a' w' hq => ?_))
      obtain ⟨f', h', R', q1, q2, q3, q4⟩ := hq
      cases e with
      | goto l => exact q1.elim
      | _ => exact ⟨f', h', R', q1, q2, q3, q4⟩
  | seq x y ihx ihy =>
    intro ac hc Q f h hk R w a hr hf hd
    unfold compB at hc
    split at hc
    · rename_i ax ay hx hy
      obtain rfl := Option.some.inj hc
      refine wp_seq (wp_mono (ihx ax hx _ f h hk R w a hr hf hd) (fun e a' w' hq => ?_))
      obtain ⟨f', h', R', q1, q2, q3, q4⟩ := hq
      cases e with
      | normal => exact wp_mono (ihy ay hy Q f' h' q1 R' w' a' q2.rel q3 q4) (fun e a w c => conc_trans q2 c)
      | _ => exact ⟨f', h', R', q1, q2, q3, q4⟩
    · simp at hc
  | _ => exact fun ac hc => awp_sound _ ac hc
inductive RV where
  | tmp (t : Nat)
  | cell (t : Nat) (n : Option Nat)
def compR (P : Program) : List ResultVar → Option (List RV)
  | [] => some []
  | .tmp t :: l => (compR P l).map (.tmp t :: ·)
  | .cell a t :: l => match aggT P t, P.info? t, compR P l with
    | some true, some inf, some r => some (.cell a (some inf.size) :: r)
    | some false, some _, some r => some (.cell a none :: r)
    | _, _, _ => none
def rv (f : Fr) (h : Hp) : RV → Option Value
  | .tmp t => some (f t)
  | .cell a n => match f a with
    | .pointer (some ad) => match n with
      | none => h.cell? ad
      | some m => (h.cells? ad m).map fun (l : List Value) => Value.agg l.toArray
    | _ => none
def rvs (f : Fr) (h : Hp) : List RV → Option (List Value)
  | [] => some []
  | r :: l => match rv f h r, rvs f h l with
    | some v, some vs => some (v :: vs)
    | _, _ => none
def one (l : List Value) : Value := match l with
  | [v] => v
  | l => .tuple l.toArray
def retA (rs : List RV) (K : Value → Hp → Prop) : QA
  | .normal => fun f h => ∃ l, rvs f h rs = some l ∧ K (one l) h
  | .ret => fun f h => ∃ l, rvs f h rs = some l ∧ K (one l) h
  | _ => fun _ _ => False
def initF (args : List Value) : Fr := fun t => args.getD t undef
def rvRun (a : Act) : ResultVar → Sem Value
  | .tmp t => pure (a.tmps.getD t undef)
  | .cell b t => do loadVar t (← asAddr (a.tmps.getD b undef))
theorem rvs_run {P : Program} {R : AR} {h : Hp} {w : World} {f : Fr} {a : Act} (hr : Rel R h w) (hf : ∀ t, VR R (f t) (a.tmps.getD t undef)) : ∀ (l : List ResultVar) (rs : List RV) (vs : List Value), compR P l = some rs → rvs f h rs = some vs →
    ∃ vs', VRs R vs vs' ∧ (l.mapM (rvRun a)).run P w = .ok vs' w
  | [], rs, vs, hc, hv => by
    simp [compR] at hc
    subst hc
    simp [rvs] at hv
    subst hv
    exact ⟨[], .nil R, by simp⟩
  | r :: l, rs, vs, hc, hv => by
    have key : ∀ (r' : RV) (rs' : List RV), rs = r' :: rs' → compR P l = some rs' → (∀ v, rv f h r' = some v → ∃ v', VR R v v' ∧ (rvRun a r).run P w = .ok v' w) → ∃ vs', VRs R vs vs' ∧ ((r :: l).mapM (rvRun a)).run P w = .ok vs' w := by
      intro r' rs' he hc' hr'
      subst he
      unfold rvs at hv
      split at hv
      · rename_i v vs2 h1 h2
        obtain rfl := Option.some.inj hv
        obtain ⟨v', k1, k2⟩ := hr' v h1
        obtain ⟨vs', j1, j2⟩ := rvs_run hr hf l rs' vs2 hc' h2
        exact ⟨v' :: vs', .cons k1 j1, by simp [List.mapM_cons, k2, j2]⟩
      · simp at hv
    cases r with
    | tmp t =>
      obtain ⟨rs', h1, rfl⟩ := Option.map_eq_some_iff.1 hc
      refine key _ _ rfl h1 (fun v hv => ?_)
      obtain rfl := Option.some.inj hv
      exact ⟨_, hf t, rfl⟩
    | cell b t =>
      unfold compR at hc
      split at hc
      · rename_i inf r' h1 h2 h3
        obtain rfl := Option.some.inj hc
        refine key _ _ rfl h3 (fun v hv => ?_)
        have hb := hf b
        simp only [rv] at hv
        split at hv
        · rename_i ad he
          rw [he] at hb
          obtain ⟨l2, hl2, rfl⟩ := Option.map_eq_some_iff.1 hv
          generalize hg : a.tmps.getD b undef = x at hb
          cases hb with
          | ptr _ ad' had =>
            obtain ⟨l', g1, g2, g3, g4⟩ := hr.cells P had hl2
            refine ⟨.agg l'.toArray, .agg _ _ (by simpa using g1.1) (fun j y y' q1 q2 => g1.2 j y y' (by simpa using q1) (by simpa using q2)), ?_⟩
            simp [rvRun, hg, asAddr, loadVar, agg_run h1, size_run h2, g4]
        · simp at hv
      · rename_i inf r' h1 h2 h3
        obtain rfl := Option.some.inj hc
        refine key _ _ rfl h3 (fun v hv => ?_)
        have hb := hf b
        simp only [rv] at hv
        split at hv
        · rename_i ad he
          rw [he] at hb
          generalize hg : a.tmps.getD b undef = x at hb
          cases hb with
          | ptr _ ad' had =>
            obtain ⟨v', g1, g2, -⟩ := hr.cell had hv
            refine ⟨v', g2, ?_⟩
            simp [rvRun, hg, asAddr, loadVar, agg_run h1, g1]
        · simp at hv
      · simp at hc
theorem one_VR {R : AR} {l l' : List Value} (h : VRs R l l') : VR R (one l) (if hh : l'.toArray.size = 1 then l'.toArray[0] else .tuple l'.toArray) := by
  have hl := h.1
  match l, l', h, hl with
  | [v], [v'], h, _ => exact h.2 0 v v' rfl rfl
  | [], [], h, _ => exact .tuple _ _ rfl (fun i v v' h => by simp at h)
  | a :: b :: l, l', h, hl =>
    have : ¬ (l'.toArray.size = 1) := by simp at hl ⊢; omega
    rw [dif_neg this]
    exact .tuple _ _ (by simpa using hl) (fun i v v' h1 h2 => h.2 i v v' (by simpa using h1) (by simpa using h2))
/-- A function whose code is told: what holds behind it. -/
theorem call_of {P : Program} {g : FuncId} {fn : Func} {c : Code} {ac : AC} {rs : List RV} (hf : P.funcs[g]? = some fn) (hn : (fn.name == "runtime.NumGoroutine") = false) (hb : fn.body = some c) (hc : compB P fn.ntmps c = some ac) (hrs : compR P fn.results.toList = some rs)
    {args : List Value} (ha : args.length ≤ fn.ntmps) {h : Hp} {K : Value → Hp → Prop} (hk : awp P ac (retA rs K) (initF args) h) : ACalls P g args h K := by
  refine ⟨⟨fn, hf, hn, by rw [hb]; rfl⟩, fun R w args' hr hv => ?_⟩
  have hl : args'.length = args.length := hv.1.symm
  refine calls_of_wp hf hb ?_
  have hfr : FR R fn.ntmps (initF args) { tmps := args'.toArray ++ Array.replicate (fn.ntmps - args'.toArray.size) undef, defers := [] } := by
    refine ⟨by simp; omega, fun t => ?_⟩
    have e : (args'.toArray ++ Array.replicate (fn.ntmps - args'.toArray.size) undef).getD t undef = args'.getD t undef := by
      simp only [Array.getD_eq_getD_getElem?, Array.getElem?_append, List.size_toArray, List.getElem?_toArray, List.getD]
      by_cases h1 : t < args'.length
      · rw [if_pos h1]
      · rw [if_neg h1, List.getElem?_eq_none (by omega)]
        simp only [Array.getElem?_replicate, Option.getD_none]
        split <;> rfl
    show VR R (args.getD t undef) ((args'.toArray ++ Array.replicate (fn.ntmps - args'.toArray.size) undef).getD t undef)
    rw [e]
    simp only [List.getD]
    by_cases h1 : t < args.length
    · have e1 : args[t]? = some args[t] := by simp [h1]
      have e2 : args'[t]? = some (args'[t]'(by omega)) := by simp [show t < args'.length by omega]
      rw [e1, e2]
      exact hv.2 t _ _ e1 e2
    · rw [List.getElem?_eq_none (by omega), List.getElem?_eq_none (by omega)]
      exact undef_VR R
  refine wp_mono (awpB_sound c ac hc _ _ h hk R w _ hr hfr rfl) (fun e a' w' hq => ?_)
  obtain ⟨f', h', R', q1, q2, q3, q4⟩ := hq
  have fin : ∀ l, rvs f' h' rs = some l → K (one l) h' → a'.defers = [] ∧ ∃ v, (results fn a'.tmps).run P w' = .ok v w' ∧ CPost R h K (.returned v) w' := by
    intro l h1 h2
    refine ⟨q4, ?_⟩
    obtain ⟨vs', k1, k2⟩ := rvs_run (P := P) q2.rel q3.2 fn.results.toList rs l hrs h1
    refine ⟨_, ?_, one l, _, h', R', h2, rfl, one_VR k1, q2⟩
    have hres : results fn a'.tmps = (do let vs ← fn.results.mapM (rvRun a'); pure (if h : vs.size = 1 then vs[0] else .tuple vs)) := by
      unfold results
      rfl
    rw [hres, Sem.run_bind]
    have e : (fn.results.mapM (rvRun a')).run P w' = .ok vs'.toArray w' := by
      rw [Array.mapM_eq_mapM_toList]
      simp [k2]
    rw [e]
    rfl
  cases e with
  | normal => obtain ⟨l, h1, h2⟩ := q1; exact fin l h1 h2
  | ret => obtain ⟨l, h1, h2⟩ := q1; exact fin l h1 h2
  | _ => exact q1.elim
end Go.Proofs.Ytalhipbbomagoaa.Ab
