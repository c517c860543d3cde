/- States of plain values: code walked over them. No statement of the set is proved in this text. -/
import Derived.Test.YtalhipbbomagoaaPvB
namespace Go.Proofs.Ytalhipbbomagoaa.Pv
open Go.RowKit Go.Proofs.Ytalhipbbomagoaa.Ab
set_option linter.unusedVariables false
set_option linter.unusedSimpArgs false
abbrev Env := Nat → PV
def ofC : Value → PV
  | .bool b => .bool b
  | .int k n => .int k n
  | .string s => .str s
  | .pointer none => .nilP
  | .slice none 0 0 => .nilS
  | .nilIface => .nilI
  | .nilFunc => .nilF
  | _ => .und
def ofV : Value → PV
  | .agg cs => .agg (cs.toList.map ofC)
  | .tuple cs => .tup (cs.toList.map ofC)
  | v => ofC v
theorem ofC_PR (X : Cx) (v : Value) : PR X (ofC v) v := by
  unfold ofC
  split <;> constructor
theorem ofCs_PR (X : Cx) (l : List Value) : PRs X (l.map ofC) l := by
  have := PRs.map (X := X) (f := ofC) (g := id) (l := l) (fun x _ => ofC_PR X x)
  simpa using this
theorem ofV_PR (X : Cx) (v : Value) : PR X (ofV v) v := by
  unfold ofV
  split
  · rename_i cs
    have h := ofCs_PR X cs.toList
    have := PR.agg _ _ h.1 h.2
    simpa using this
  · rename_i cs
    have h := ofCs_PR X cs.toList
    have := PR.tup _ _ h.1 h.2
    simpa using this
  · exact ofC_PR X v
def evE (e : Env) : Operand → PV
  | .tmp t => e t
  | .const v => ofV v
  | .global _ => .und
  | .func g => .fn g [] []
def putE (e : Env) : Option Nat → PV → Env
  | none, _ => e
  | some d, p => fun t => if t = d then p else e t
def initE (args : List PV) : Env := fun t => args.getD t (.tup [])
def ER (X : Cx) (e : Env) (f : Fr) : Prop := ∀ t, PR X (e t) (f t)
theorem ER.mono {X Y : Cx} (hle : X.le Y) {e : Env} {f : Fr} (h : ER X e f) : ER Y e f := fun t => (h t).mono hle
theorem ER.ev {X : Cx} {e : Env} {f : Fr} (h : ER X e f) (x : Operand) : PR X (evE e x) (evF f x) := by
  cases x with
  | tmp t => exact h t
  | const v => exact ofV_PR X v
  | global g => exact .und _
  | func g => exact PR.fn g [] [] [] [] rfl rfl (fun j p v h => by simp at h) (fun j p v h => by simp at h)
theorem ER.put {X : Cx} {e : Env} {f : Fr} (h : ER X e f) {d : Option Nat} {p : PV} {v : Value} (hp : PR X p v) : ER X (putE e d p) (putF f d v) := by
  intro t
  cases d with
  | none => exact h t
  | some d =>
    show PR X (if t = d then p else e t) (if t = d then v else f t)
    split
    · exact hp
    · exact h t
theorem undef_PR (X : Cx) : PR X (.tup []) undef := PR.tup [] [] rfl (fun j p v h => by simp at h)
theorem ER.init {X : Cx} {args : List PV} {vs : List Value} (h : PRs X args vs) : ER X (initE args) (initF vs) := by
  intro t
  show PR X (args.getD t (.tup [])) (vs.getD t undef)
  rw [List.getD_eq_getElem?_getD, List.getD_eq_getElem?_getD]
  cases ha : args[t]? with
  | none =>
    have : vs[t]? = none := by
      rw [List.getElem?_eq_none_iff] at ha ⊢
      rw [← h.1]; exact ha
    rw [this]
    exact undef_PR X
  | some p =>
    obtain ⟨v, hv, hp⟩ := h.get ha
    rw [hv]
    exact hp
def Rp (Z : Bs) (e : Env) (s : List OB) (f : Fr) (h : Hp) : Prop := ∃ E i, SR Z h E i s ∧ ER ⟨Hp.mask h E, i, s⟩ e f
def Lf (Z : Bs) (K : Env → List OB → Prop) (f : Fr) (h : Hp) : Prop := ∃ e s, K e s ∧ Rp Z e s f h
def pops (P : Program) (Z : Bs) (pr : List Operand) (cs : List CO) (K : Env → List OB → Prop) (e : Env) (s : List OB) : Prop := ∀ f h, Rp Z e s f h → aops P pr cs (Lf Z K) f h
abbrev QP := Exit → Env → List OB → Prop
def pwp (P : Program) (Z : Bs) (a : AC) (Q : QP) (e : Env) (s : List OB) : Prop := ∀ f h, Rp Z e s f h → awp P a (fun x => Lf Z (Q x)) f h
def thenP (K : Env → List OB → Prop) (Q : QP) : QP
  | .normal => K
  | x => Q x
def inBlkP (id : Nat) (Q : QP) : QP
  | .exit id' => fun e s => if id' = id then Q .normal e s else Q (.exit id') e s
  | x => Q x
def goKP (l : Nat) (K : Env → List OB → Prop) (Q : QP) : QP
  | .goto l' => fun e s => l' = l ∧ K e s
  | x => Q x
def noGoP (Q : QP) : QP
  | .goto _ => fun _ _ => False
  | x => Q x
section
variable {P : Program} {Z : Bs} {Q : QP} {e : Env} {s : List OB}
theorem pwp_mono {a : AC} {Q' : QP} (hq : ∀ x e s, Q x e s → Q' x e s) (h : pwp P Z a Q e s) : pwp P Z a Q' e s :=
  fun f hh hr => awp_mono a _ _ (fun x f h ⟨e, s, h1, h2⟩ => ⟨e, s, hq x e s h1, h2⟩) f hh (h f hh hr)
theorem w_reg {l : List CO} (hk : pops P Z [] l (Q .normal) e s) : pwp P Z (.reg l) Q e s := fun f h hr => hk f h hr
theorem w_sq {a b : AC} (hk : pwp P Z a (thenP (pwp P Z b Q) Q) e s) : pwp P Z (.seq a b) Q e s := fun f h hr =>
  awp_mono a _ _ (fun x f h hx => by
    obtain ⟨e, s, h1, h2⟩ := hx
    cases x with
    | normal => exact h1 f h h2
    | _ => exact ⟨e, s, h1, h2⟩) f h (hk f h hr)
theorem w_cond {c : Operand} {a b : AC} {t : Bool} (hc : evE e c = .bool t) (h1 : t = true → pwp P Z a Q e s) (h2 : t = false → pwp P Z b Q e s) : pwp P Z (.cond c a b) Q e s := fun f h hr => by
  obtain ⟨E, i, S, R⟩ := id hr
  have := R.ev c
  rw [hc] at this
  have hv := this.bool_inv
  unfold awp
  simp only [hv]
  cases t
  · exact h2 rfl f h hr
  · exact h1 rfl f h hr
theorem w_blk {id : Nat} {a : AC} (hk : pwp P Z a (inBlkP id Q) e s) : pwp P Z (.block id a) Q e s := fun f h hr =>
  awp_mono a _ _ (fun x f h hx => by
    obtain ⟨e, s, h1, h2⟩ := hx
    cases x with
    | exit id' =>
      show if id' = id then Lf Z (Q .normal) f h else Lf Z (Q (.exit id')) f h
      have h1' : if id' = id then Q .normal e s else Q (.exit id') e s := h1
      by_cases hi : id' = id
      · rw [if_pos hi] at h1' ⊢; exact ⟨e, s, h1', h2⟩
      · rw [if_neg hi] at h1' ⊢; exact ⟨e, s, h1', h2⟩
    | _ => exact ⟨e, s, h1, h2⟩) f h (hk f h hr)
theorem w_scp {a : AC} (hk : pwp P Z a (noGoP Q) e s) : pwp P Z (.scope a) Q e s := fun f h hr =>
  awp_mono a _ _ (fun x f h hx => by
    obtain ⟨e, s, h1, h2⟩ := hx
    cases x with
    | goto l => exact h1.elim
    | _ => exact ⟨e, s, h1, h2⟩) f h (hk f h hr)
theorem w_skip (hk : Q .normal e s) : pwp P Z .skip Q e s := fun f h hr => ⟨e, s, hk, hr⟩
theorem w_exit {id : Nat} (hk : Q (.exit id) e s) : pwp P Z (.exit id) Q e s := fun f h hr => ⟨e, s, hk, hr⟩
theorem w_ret (hk : Q .ret e s) : pwp P Z .ret Q e s := fun f h hr => ⟨e, s, hk, hr⟩
theorem t_nor {K : Env → List OB → Prop} (hk : K e s) : thenP K Q .normal e s := hk
theorem t_exit {K : Env → List OB → Prop} {id : Nat} (hk : Q (.exit id) e s) : thenP K Q (.exit id) e s := hk
theorem t_ret {K : Env → List OB → Prop} (hk : Q .ret e s) : thenP K Q .ret e s := hk
theorem i_nor {id : Nat} (hk : Q .normal e s) : inBlkP id Q .normal e s := hk
theorem i_exit {id : Nat} (hk : Q .normal e s) : inBlkP id Q (.exit id) e s := by
  show if id = id then _ else _
  rw [if_pos rfl]
  exact hk
theorem i_exit' {id id' : Nat} (hk : Q (.exit id') e s) (hne : id' ≠ id := by decide) : inBlkP id Q (.exit id') e s := by
  show if id' = id then _ else _
  rw [if_neg hne]
  exact hk
theorem i_ret {id : Nat} (hk : Q .ret e s) : inBlkP id Q .ret e s := hk
theorem g_nor (hk : Q .normal e s) : noGoP Q .normal e s := hk
theorem g_exit {id : Nat} (hk : Q (.exit id) e s) : noGoP Q (.exit id) e s := hk
theorem g_ret (hk : Q .ret e s) : noGoP Q .ret e s := hk
/-- a loop: of a state of which so much is left -/
theorem w_lp {a : AC} (I : Nat → Env → List OB → Prop) (n : Nat) (h0 : I n e s) (hr : ∀ n e s, I n e s → pwp P Z a (thenP (fun e s => ∃ m, m < n ∧ I m e s) Q) e s) : pwp P Z (.loop a) Q e s := fun f h hrp => by
  refine Ab.w_lp (fun n f h => ∃ e s, I n e s ∧ Rp Z e s f h) n ⟨e, s, h0, hrp⟩ (fun n f h ⟨e, s, hi, hr'⟩ => ?_)
  refine awp_mono a _ _ (fun x f h hx => ?_) f h (hr n e s hi f h hr')
  obtain ⟨e, s, h1, h2⟩ := hx
  cases x with
  | normal => obtain ⟨m, hm, hi⟩ := h1; exact ⟨m, hm, e, s, hi, h2⟩
  | _ => exact ⟨e, s, h1, h2⟩
/-- what may be told otherwise, without a step of the code -/
def Gh (Z : Bs) (e : Env) (s : List OB) (e' : Env) (s' : List OB) : Prop := ∀ f h, Rp Z e s f h → Rp Z e' s' f h
theorem w_goto {l : Nat} (hk : Q (.goto l) e s) : pwp P Z (.goto l) Q e s := fun f h hr => ⟨e, s, hk, hr⟩
theorem t_goto {K : Env → List OB → Prop} {l : Nat} (hk : Q (.goto l) e s) : thenP K Q (.goto l) e s := hk
theorem i_goto {id l : Nat} (hk : Q (.goto l) e s) : inBlkP id Q (.goto l) e s := hk
theorem k_nor {K : Env → List OB → Prop} {l : Nat} (hk : Q .normal e s) : goKP l K Q .normal e s := hk
theorem k_ret {K : Env → List OB → Prop} {l : Nat} (hk : Q .ret e s) : goKP l K Q .ret e s := hk
theorem k_exit {K : Env → List OB → Prop} {l id : Nat} (hk : Q (.exit id) e s) : goKP l K Q (.exit id) e s := hk
theorem k_goto {K : Env → List OB → Prop} {l : Nat} (hk : K e s) : goKP l K Q (.goto l) e s := ⟨rfl, hk⟩
/-- a run that goes back to one label, and whose state may be told otherwise there -/
theorem w_jmp {l : Nat} {a b : AC} (I : Nat → Env → List OB → Prop) (n0 : Nat) (h0 : pwp P Z a (goKP l (fun e s => ∃ m, m < n0 ∧ ∃ e' s', Gh Z e s e' s' ∧ I m e' s') Q) e s) (hr : ∀ n e s, I n e s → pwp P Z b (goKP l (fun e s => ∃ m, m < n ∧ ∃ e' s', Gh Z e s e' s' ∧ I m e' s') Q) e s) : pwp P Z (.jmp l a b) Q e s := fun f h hrp => by
  refine Ab.w_jmp (fun n f h => ∃ e s, I n e s ∧ Rp Z e s f h) n0 ?_ (fun n f h ⟨e, s, hi, hr'⟩ => ?_)
  · refine awp_mono a _ _ (fun x f h hx => ?_) f h (h0 f h hrp)
    obtain ⟨e, s, h1, h2⟩ := hx
    cases x with
    | goto l' => obtain ⟨h0, m, hm, e', s', hg, hi⟩ := h1; exact ⟨h0, m, hm, e', s', hi, hg f h h2⟩
    | _ => exact ⟨e, s, h1, h2⟩
  · refine awp_mono b _ _ (fun x f h hx => ?_) f h (hr n e s hi f h hr')
    obtain ⟨e, s, h1, h2⟩ := hx
    cases x with
    | goto l' => obtain ⟨h0, m, hm, e', s', hg, hi⟩ := h1; exact ⟨h0, m, hm, e', s', hi, hg f h h2⟩
    | _ => exact ⟨e, s, h1, h2⟩
/-- a loop whose state may be told otherwise at its end -/
theorem w_lpG {a : AC} (I : Nat → Env → List OB → Prop) (n : Nat) (h0 : I n e s) (hr : ∀ n e s, I n e s → pwp P Z a (thenP (fun e s => ∃ m, m < n ∧ ∃ e' s', Gh Z e s e' s' ∧ I m e' s') Q) e s) : pwp P Z (.loop a) Q e s := fun f h hrp => by
  refine Ab.w_lp (fun n f h => ∃ e s, I n e s ∧ Rp Z e s f h) n ⟨e, s, h0, hrp⟩ (fun n f h ⟨e, s, hi, hr'⟩ => ?_)
  refine awp_mono a _ _ (fun x f h hx => ?_) f h (hr n e s hi f h hr')
  obtain ⟨e, s, h1, h2⟩ := hx
  cases x with
  | normal => obtain ⟨m, hm, e', s', hg, hi⟩ := h1; exact ⟨m, hm, e', s', hi, hg f h h2⟩
  | _ => exact ⟨e, s, h1, h2⟩
end
/-! calls -/
/-- What a call leaves. -/
def CallK (K : PV → List OB → Prop) (Z : Bs) (v : Value) (h' : Hp) : Prop := ∃ p s' E' i', K p s' ∧ SR Z h' E' i' s' ∧ PR ⟨Hp.mask h' E', i', s'⟩ p v
/-- A call, from a state on: what holds of the state behind it. -/
def PCalls (P : Program) (g : FuncId) (args : List PV) (s : List OB) (K : PV → List OB → Prop) : Prop :=
  ∀ h E i vs, SR ⟨h, E, i, s⟩ h E i s → PRs ⟨Hp.mask h E, i, s⟩ args vs → ACalls P g vs h (CallK K ⟨h, E, i, s⟩)
theorem PCalls.mono {P : Program} {g : FuncId} {args : List PV} {s : List OB} {K K' : PV → List OB → Prop} (hc : PCalls P g args s K) (hk : ∀ p s, K p s → K' p s) : PCalls P g args s K' :=
  fun h E i vs S A => (hc h E i vs S A).mono fun v h' ⟨p, s', E', i', h1, h2⟩ => ⟨p, s', E', i', hk p s' h1, h2⟩
/-! results -/
def prv (e : Env) (s : List OB) : RV → Option PV
  | .tmp t => some (e t)
  | .cell a n => match e a with
    | .ptr b o => match s[b]? with
      | some (.var l) => match n with
        | none => l[o]?
        | some m => if o + m ≤ l.length then some (.agg ((l.drop o).take m)) else none
      | _ => none
    | _ => none
def prvs (e : Env) (s : List OB) : List RV → Option (List PV)
  | [] => some []
  | r :: l => match prv e s r, prvs e s l with
    | some p, some ps => some (p :: ps)
    | _, _ => none
def onep (l : List PV) : PV := match l with
  | [p] => p
  | l => .tup l
def retP (rs : List RV) (K : PV → List OB → Prop) : QP
  | .normal => fun e s => ∃ l, prvs e s rs = some l ∧ K (onep l) s
  | .ret => fun e s => ∃ l, prvs e s rs = some l ∧ K (onep l) s
  | _ => fun _ _ => False
theorem own_cells {h : Hp} {E : Nat → Bool} {i : Nat → Option Nat} {s : List OB} {Z : Bs} (S : SR Z h E i s) {b : Nat} {l : List PV} (hb : s[b]? = some (.var l)) : ∃ k cs, i b = some k ∧ E k = true ∧ h.blk? k = some ⟨cs, 0, true⟩ ∧ cs.all (·.oneCell') = true ∧ PRs ⟨Hp.mask h E, i, s⟩ l cs := S.ob b _ hb
theorem blk_cell {h : Hp} {b o : Nat} {k : Blk} {v : Value} (hb : h.blk? b = some k) (hl : k.live = true) (hv : k.cells[o]? = some v) : h.cell? ⟨b, o, none⟩ = some v := by
  have hlo := (Hp.blk_lt hb).1
  unfold Hp.cell?
  rw [if_neg (by simpa using hlo)]
  simp [hb, hl, hv]
theorem blk_cells' {h : Hp} {b o n : Nat} {k : Blk} (hb : h.blk? b = some k) (hl : k.live = true) (hn : o + n ≤ k.cells.length) : h.cells? ⟨b, o, none⟩ n = some ((k.cells.drop o).take n) := by
  have e : ∀ (m i : Nat), h.cellsFrom ⟨b, o, none⟩ i m = h.cellsFrom ⟨b, 0, none⟩ (o + i) m := by
    intro m
    induction m with
    | zero => intro i; rfl
    | succ m ih =>
      intro i
      simp only [Hp.cellsFrom]
      have e1 : Addr.add ⟨b, o, none⟩ i = Addr.add ⟨b, 0, none⟩ (o + i) := by
        unfold Addr.add
        by_cases hi : i = 0
        · subst hi
          by_cases ho : o = 0
          · subst ho; rfl
          · simp [ho]
        · simp [hi]
      rw [e1, ih (i + 1)]
      rfl
  show h.cellsFrom _ 0 n = _
  rw [e n 0]
  exact blk_cells hb hl n o hn
theorem prv_rv {Z : Bs} {h : Hp} {E : Nat → Bool} {i : Nat → Option Nat} {s : List OB} {e : Env} {f : Fr} (S : SR Z h E i s) (R : ER ⟨Hp.mask h E, i, s⟩ e f) {r : RV} {p : PV} (hp : prv e s r = some p) : ∃ v, rv f h r = some v ∧ PR ⟨Hp.mask h E, i, s⟩ p v := by
  cases r with
  | tmp t =>
    obtain rfl : e t = p := by simpa [prv] using hp
    exact ⟨f t, rfl, R t⟩
  | cell a n =>
    unfold prv at hp
    simp only at hp
    split at hp
    · rename_i b o he
      split at hp
      · rename_i l hl
        obtain ⟨k, cs, q1, q2, q3, q4, q5⟩ := own_cells S hl
        have ha := R a
        rw [he] at ha
        obtain ⟨k', q6, hv⟩ := ha.ptr_inv ⟨_, hl, rfl⟩
        have q6' : i b = some k' := q6
        rw [q1] at q6'
        obtain rfl := Option.some.inj q6'
        cases n with
        | none =>
          obtain ⟨v, k1, k2⟩ := q5.get hp
          refine ⟨v, ?_, k2⟩
          simp only [rv, hv]
          exact blk_cell q3 rfl k1
        | some m =>
          simp only at hp
          split at hp
          · rename_i hle
            obtain rfl := Option.some.inj hp
            have q7 := (q5.drop o).take m
            refine ⟨.agg ((cs.drop o).take m).toArray, ?_, .agg _ _ q7.1 q7.2⟩
            simp only [rv, hv]
            rw [blk_cells' q3 rfl (by show o + m ≤ cs.length; rw [← q5.1]; exact hle)]
            rfl
          · simp at hp
      · simp at hp
    · simp at hp
theorem prvs_rvs {Z : Bs} {h : Hp} {E : Nat → Bool} {i : Nat → Option Nat} {s : List OB} {e : Env} {f : Fr} (S : SR Z h E i s) (R : ER ⟨Hp.mask h E, i, s⟩ e f) : ∀ {rs : List RV} {l : List PV}, prvs e s rs = some l → ∃ vs, rvs f h rs = some vs ∧ PRs ⟨Hp.mask h E, i, s⟩ l vs
  | [], l, hl => by
    obtain rfl : [] = l := by simpa [prvs] using hl
    exact ⟨[], rfl, .nil _⟩
  | r :: rs, l, hl => by
    unfold prvs at hl
    split at hl
    · rename_i p ps h1 h2
      obtain rfl := Option.some.inj hl
      obtain ⟨v, k1, k2⟩ := prv_rv S R h1
      obtain ⟨vs, k3, k4⟩ := prvs_rvs S R h2
      exact ⟨v :: vs, by simp only [rvs, k1, k3], .cons k2 k4⟩
    · simp at hl
theorem onep_PR {X : Cx} {l : List PV} {vs : List Value} (h : PRs X l vs) : PR X (onep l) (one vs) := by
  unfold onep one
  cases l with
  | nil =>
    have : vs = [] := List.eq_nil_of_length_eq_zero h.1.symm
    subst this
    exact .tup [] [] rfl (fun j p v h => by simp at h)
  | cons p l =>
    obtain ⟨v, t, rfl, h1, h2⟩ := h.uncons
    cases l with
    | nil =>
      have : t = [] := List.eq_nil_of_length_eq_zero h2.1.symm
      subst this
      exact h1
    | cons q l =>
      obtain ⟨v2, t2, rfl, h3, h4⟩ := h2.uncons
      exact .tup _ _ h.1 h.2
/-- A function's body walked is a call told. -/
theorem told_call {P : Program} {g N : Nat} {ac : AC} {rs : List RV} (t : IsTold P g N ac rs) {args : List PV} {s : List OB} {K : PV → List OB → Prop} (hk : ∀ Z : Bs, Z.s = s → pwp P Z ac (retP rs K) (initE args) s) (ha : args.length ≤ N := by first | decide | simp) : PCalls P g args s K := by
  intro h E i vs S A
  refine t.call ?_ (by rw [← A.1]; exact ha)
  refine awp_mono ac _ _ (fun x f h' hx => ?_) _ _ (hk ⟨h, E, i, s⟩ rfl (initF vs) h ⟨E, i, S, .init A⟩)
  obtain ⟨e, s', h1, E', i', S', R'⟩ := hx
  have fin : ∀ l, prvs e s' rs = some l → K (onep l) s' → ∃ l, rvs f h' rs = some l ∧ CallK K ⟨h, E, i, s⟩ (one l) h' := fun l hl hK => by
    obtain ⟨us, k1, k2⟩ := prvs_rvs S' R' hl
    exact ⟨us, k1, onep l, s', E', i', hK, S', onep_PR k2⟩
  cases x with
  | normal => obtain ⟨l, hl, hK⟩ := h1; exact fin l hl hK
  | ret => obtain ⟨l, hl, hK⟩ := h1; exact fin l hl hK
  | _ => exact h1.elim
end Go.Proofs.Ytalhipbbomagoaa.Pv
