/- How code that is told over a heap of plain values is walked: step by step. No statement of the set is proved in this text. -/
import Derived.Test.YtalhipbbomagoaaAbI
namespace Go.Proofs.Ytalhipbbomagoaa.Ab
open Go.RowKit
set_option linter.unusedVariables false
set_option linter.unusedSimpArgs false
abbrev T (t : Nat) : Operand := .tmp t
abbrev C (v : Value) : Operand := .const v
theorem ev_T (f : Fr) (t : Nat) : evF f (.tmp t) = f t := rfl
theorem ev_C (f : Fr) (v : Value) : evF f (.const v) = v := rfl
theorem ev_F (f : Fr) (g : Nat) : evF f (.func g) = .func (.func g) #[] #[] := rfl
theorem put_at (f : Fr) (d : Nat) (v : Value) (t : Nat) : putF f (some d) v t = if t = d then v else f t := rfl
theorem put_none (f : Fr) (v : Value) : putF f none v = f := rfl
theorem init_at (args : List Value) (t : Nat) : initF args t = args.getD t undef := rfl
/-! numbers -/
theorem b_add (k : IntKind) (a b : Int) : abin .add (.int k a) (.int k b) = some (.int k (k.wrap (a + b))) := by simp [abin, binOp, Op.intArith, semPure, pure]
theorem b_sub (k : IntKind) (a b : Int) : abin .sub (.int k a) (.int k b) = some (.int k (k.wrap (a - b))) := by simp [abin, binOp, Op.intArith, semPure, pure]
theorem b_mul (k : IntKind) (a b : Int) : abin .mul (.int k a) (.int k b) = some (.int k (k.wrap (a * b))) := by simp [abin, binOp, Op.intArith, semPure, pure]
theorem b_quo (k : IntKind) (a b : Int) (h : b ≠ 0) : abin .quo (.int k a) (.int k b) = some (.int k (k.wrap (a.tdiv b))) := by simp [abin, binOp, Op.intDiv, semPure, pure, h]
theorem b_rem (k : IntKind) (a b : Int) (h : b ≠ 0) : abin .rem (.int k a) (.int k b) = some (.int k (a.tmod b)) := by simp [abin, binOp, Op.intDiv, semPure, pure, h]
theorem b_eql (k : IntKind) (a b : Int) : abin .eql (.int k a) (.int k b) = some (.bool (decide (a = b))) := by simp [abin, binOp, Op.intCmp, semPure, pure, BEq.beq]
theorem b_neq (k : IntKind) (a b : Int) : abin .neq (.int k a) (.int k b) = some (.bool (decide (a ≠ b))) := by simp [abin, binOp, Op.intCmp, semPure, pure, bne, BEq.beq]
theorem b_lss (k : IntKind) (a b : Int) : abin .lss (.int k a) (.int k b) = some (.bool (decide (a < b))) := by simp [abin, binOp, Op.intCmp, semPure, pure]
theorem b_leq (k : IntKind) (a b : Int) : abin .leq (.int k a) (.int k b) = some (.bool (decide (a ≤ b))) := by simp [abin, binOp, Op.intCmp, semPure, pure]
theorem b_gtr (k : IntKind) (a b : Int) : abin .gtr (.int k a) (.int k b) = some (.bool (decide (b < a))) := by simp [abin, binOp, Op.intCmp, semPure, pure]
theorem b_geq (k : IntKind) (a b : Int) : abin .geq (.int k a) (.int k b) = some (.bool (decide (b ≤ a))) := by simp [abin, binOp, Op.intCmp, semPure, pure]
theorem b_and (k : IntKind) (a b : Int) : abin .and (.int k a) (.int k b) = some (.int k (k.wrap (BitVec.ofInt k.bits a &&& BitVec.ofInt k.bits b).toNat)) := by simp [abin, binOp, Op.intBits, semPure, pure]
theorem b_or (k : IntKind) (a b : Int) : abin .or (.int k a) (.int k b) = some (.int k (k.wrap (BitVec.ofInt k.bits a ||| BitVec.ofInt k.bits b).toNat)) := by simp [abin, binOp, Op.intBits, semPure, pure]
theorem b_andNot (k : IntKind) (a b : Int) : abin .andNot (.int k a) (.int k b) = some (.int k (k.wrap (BitVec.ofInt k.bits a &&& ~~~BitVec.ofInt k.bits b).toNat)) := by simp [abin, binOp, Op.intBits, semPure, pure]
theorem b_shl (k k' : IntKind) (a b : Int) (h : ¬ b < 0) : abin .shl (.int k a) (.int k' b) = some (.int k (k.wrap (a * 2 ^ min b.toNat k.bits))) := by simp [abin, binOp, Op.shift, semPure, pure, h]
theorem b_shr (k k' : IntKind) (a b : Int) (h : ¬ b < 0) : abin .shr (.int k a) (.int k' b) = some (.int k (a.fdiv (2 ^ min b.toNat k.bits))) := by simp [abin, binOp, Op.shift, semPure, pure, h]
theorem s_eql (a b : ByteArray) : abin .eql (.string a) (.string b) = some (.bool (a.toList == b.toList)) := by simp [abin, binOp, Op.stringOp, semPure, pure]
theorem s_neq (a b : ByteArray) : abin .neq (.string a) (.string b) = some (.bool (!(a.toList == b.toList))) := by simp [abin, binOp, Op.stringOp, semPure, pure]
theorem u_not (b : Bool) : aun .not (.bool b) = some (.bool (!b)) := rfl
theorem u_neg (k : IntKind) (a : Int) : aun .neg (.int k a) = some (.int k (k.wrap (0 - a))) := rfl
/-! steps -/
section
variable {P : Program} {K : Fr → Hp → Prop} {Q : QA} {f : Fr} {h : Hp} {cs : List CO} {d : Option Nat} {kp : Bool} {pr : List Operand}
theorem s_f {fo : FOp} {v : Value} (hr : fo.run P (evF f) h h.next = some (v, none)) (hk : aops P (rdF fo pr) cs K (putF f d v) h) : aops P pr (⟨d, none, kp, .f fo⟩ :: cs) K f h := by
  unfold aops
  rw [if_pos (show wantC none f = true from rfl)]
  exact ⟨v, none, .inl hr, hk⟩
theorem s_g {s : Nat} {b x : Bool} {op : COp} (hs : f s = .bool x) (h1 : x = b → aops P pr (⟨d, none, kp, op⟩ :: cs) K f h) (h2 : x ≠ b → aops P (rdO op pr) cs K (putF f d undef) h) : aops P pr (⟨d, some (s, b), kp, op⟩ :: cs) K f h := by
  unfold aops
  simp only [wantC, hs]
  by_cases e : x = b
  · subst e
    have := h1 rfl
    unfold aops at this
    simpa [wantC] using this
  · have : (x == b) = false := by simp [e]
    rw [this, if_neg (by simp)]
    exact h2 e
theorem s_a {fo : FOp} {v : Value} {k : Blk} (hr : fo.run P (evF f) h h.next = some (v, some k)) (hk : aops P (rdF fo pr) cs K (putF f d v) (h.push k)) : aops P pr (⟨d, none, kp, .f fo⟩ :: cs) K f h := by
  unfold aops
  rw [if_pos (show wantC none f = true from rfl)]
  exact ⟨v, some k, .inl hr, hk⟩
theorem s_eqS {ne : Bool} {t : TypeId} {x y : Operand} {a b : Array Value} {r : Bool} (ha : evF f x = .agg a) (hb : evF f y = .agg b) (hs : (a ++ b).all (fun | .int _ _ | .bool _ | .string _ => true | _ => false) = true) (he : ∀ w, (Op.equal t (.agg a) (.agg b)).run P w = .ok r w) (hk : aops P pr cs K (putF f d (.bool (nb ne r))) h) : aops P pr (⟨d, none, kp, .f (.eqS ne t x y)⟩ :: cs) K f h := by
  unfold aops
  rw [if_pos (show wantC none f = true from rfl)]
  exact ⟨_, none, .inr ⟨ne, t, x, y, a, b, r, rfl, rfl, ha, hb, hs, he, rfl⟩, hk⟩
theorem s_nil (hk : K f h) : aops P pr [] K f h := hk
theorem kp_o {kp : Bool} {T : List Nat} {f : Fr} {h h' : Hp} (hk : kp = true → Keeps h h') : kp = true → Keeps h h' ∨ KeepsP T pr f h h' := fun hh => .inl (hk hh)
theorem s_cal {fx : Operand} {args : List Operand} {g : FuncId} {a b : Array Value} (hf : evF f fx = .func (.func g) a b) (hk : ACalls P g (a.toList ++ args.map (evF f) ++ b.toList) h fun v h' => (kp = true → Keeps h h') ∧ aops P pr cs K (putF f d v) h') : aops P pr (⟨d, none, kp, .e (.cal fx args)⟩ :: cs) K f h := by
  unfold aops
  rw [if_pos (show wantC none f = true from rfl)]
  simp only [EOp.run, hf]
  exact hk.mono fun v h' q => ⟨kp_o q.1, q.2⟩
theorem s_stP {size : Nat} {a v : Operand} {ad : Addr} {h' : Hp} (ha : evF f a = .pointer (some ad)) (hs : (evF f v).cells.size = size) (hw : h.write ad (evF f v).cells.toList = some h') (hkp : kp = true → Keeps h h' ∨ KeepsP ((EOp.st size a v).touch (evF f)) pr f h h') (hk : aops P pr cs K (putF f d undef) h') : aops P pr (⟨d, none, kp, .e (.st size a v)⟩ :: cs) K f h := by
  unfold aops
  rw [if_pos (show wantC none f = true from rfl)]
  simp only [EOp.run, ha]
  exact ⟨hs, h', hw, hkp, hk⟩
theorem s_calP {fx : Operand} {args : List Operand} {g : FuncId} {a b : Array Value} (hf : evF f fx = .func (.func g) a b) (hk : ACalls P g (a.toList ++ args.map (evF f) ++ b.toList) h fun v h' => KeepsP ((a.toList ++ args.map (evF f) ++ b.toList).filterMap ptB) pr f h h' ∧ aops P pr cs K (putF f d v) h') : aops P pr (⟨d, none, kp, .e (.cal fx args)⟩ :: cs) K f h := by
  unfold aops
  rw [if_pos (show wantC none f = true from rfl)]
  simp only [EOp.run, hf]
  refine hk.mono fun v h' q => ⟨fun _ => .inr ?_, q.2⟩
  have e : (EOp.cal fx args).touch (evF f) = (a.toList ++ args.map (evF f) ++ b.toList).filterMap ptB := by
    unfold EOp.touch
    simp only [hf]
  rw [e]
  exact q.1
theorem s_app {es bytes : Nat} {s x : Operand} {new : List Value} {n : Nat} {v : Value} {h' : Hp} (h1 : srcV h es (evF f x) = some (new, n)) (h2 : h.append es bytes (evF f s) new n = some (v, h')) (hkp : kp = true → Keeps h h') (hk : aops P pr cs K (putF f d v) h') : aops P pr (⟨d, none, kp, .e (.app es bytes s x)⟩ :: cs) K f h := by
  unfold aops
  rw [if_pos (show wantC none f = true from rfl)]
  exact ⟨new, n, v, h', h1, h2, kp_o hkp, hk⟩
theorem s_appK {es bytes : Nat} {s x : Operand} {new : List Value} {n : Nat} {v : Value} {h' : Hp} (h1 : srcV h es (evF f x) = some (new, n)) (h2 : h.append es bytes (evF f s) new n = some (v, h')) (hkp : kp = true → Keeps h h' ∨ KeepsP ((EOp.app es bytes s x).touch (evF f)) pr f h h') (hk : aops P pr cs K (putF f d v) h') : aops P pr (⟨d, none, kp, .e (.app es bytes s x)⟩ :: cs) K f h := by
  unfold aops
  rw [if_pos (show wantC none f = true from rfl)]
  exact ⟨new, n, v, h', h1, h2, hkp, hk⟩
theorem s_gen {eo : EOp} {v : Value} {h' : Hp} (hrun : ∀ K1 : Value → Hp → Prop, K1 v h' → eo.run P (evF f) h K1) (hkp : kp = true → Keeps h h' ∨ KeepsP (eo.touch (evF f)) pr f h h') (hk : aops P pr cs K (putF f d v) h') : aops P pr (⟨d, none, kp, .e eo⟩ :: cs) K f h := by
  unfold aops
  rw [if_pos (show wantC none f = true from rfl)]
  exact hrun _ ⟨hkp, hk⟩
theorem s_st {size : Nat} {a v : Operand} {ad : Addr} {h' : Hp} (ha : evF f a = .pointer (some ad)) (hs : (evF f v).cells.size = size) (hw : h.write ad (evF f v).cells.toList = some h') (hk : aops P pr cs K (putF f d undef) h') (hkp : kp = false := by rfl) : aops P pr (⟨d, none, kp, .e (.st size a v)⟩ :: cs) K f h := by
  unfold aops
  rw [if_pos (show wantC none f = true from rfl)]
  simp only [EOp.run, ha]
  exact ⟨hs, h', hw, fun h => (by rw [hkp] at h; simp at h), hk⟩
theorem w_reg {l : List CO} (hk : aops P [] l (Q .normal) f h) : awp P (.reg l) Q f h := hk
theorem w_seq {a b : AC} (hk : ∀ K : Fr → Hp → Prop, (∀ f h, awp P b Q f h → K f h) → awp P a (thenA K Q) f h) : awp P (.seq a b) Q f h := hk _ fun _ _ h => h
theorem w_cond {c : Operand} {a b : AC} {t : Bool} (hc : evF f c = .bool t) (h1 : t = true → awp P a Q f h) (h2 : t = false → awp P b Q f h) : awp P (.cond c a b) Q f h := by
  unfold awp
  simp only [hc]
  cases t
  · exact h2 rfl
  · exact h1 rfl
end
/-! what a walk knows of memory: that which was there stands, and its own blocks -/
structure St (h0 h : Hp) (L : List (Nat × Blk)) : Prop where
  keep : Keeps h0 h
  next : h0.next ≤ h.next
  has : ∀ p ∈ L, h0.next ≤ p.1 ∧ h.blk? p.1 = some p.2
  nodup : (L.map (·.1)).Nodup
theorem St.refl (h : Hp) : St h h [] := ⟨.refl h, Nat.le_refl _, fun p hp => by simp at hp, by simp⟩
theorem St.push {h0 h : Hp} {L : List (Nat × Blk)} (s : St h0 h L) (k : Blk) : St h0 (h.push k) ((h.next, k) :: L) := by
  refine ⟨s.keep.trans (.push h k), by rw [Hp.next_push]; have := s.next; omega, fun p hp => ?_, ?_⟩
  · rcases List.mem_cons.1 hp with rfl | hp
    · exact ⟨s.next, Hp.blk_push h k⟩
    · obtain ⟨h1, h2⟩ := s.has p hp
      exact ⟨h1, (Keeps.push h k).2 _ _ h2⟩
  · rw [List.map_cons, List.nodup_cons]
    refine ⟨fun hm => ?_, s.nodup⟩
    obtain ⟨p, hp, e⟩ := List.mem_map.1 hm
    have := (Hp.blk_lt (s.has p hp).2).2
    omega
/-- a call of a function that leaves what was there -/
theorem St.call {h0 h h' : Hp} {L M : List (Nat × Blk)} (s : St h0 h L) (t : St h h' M) : St h0 h' (M ++ L) := by
  refine ⟨s.keep.trans t.keep, Nat.le_trans s.next t.next, fun p hp => ?_, ?_⟩
  · rcases List.mem_append.1 hp with hp | hp
    · obtain ⟨h1, h2⟩ := t.has p hp
      exact ⟨Nat.le_trans s.next h1, h2⟩
    · obtain ⟨h1, h2⟩ := s.has p hp
      exact ⟨h1, t.keep.2 _ _ h2⟩
  · rw [List.map_append]
    refine List.nodup_append.2 ⟨t.nodup, s.nodup, fun a ha b hb e => ?_⟩
    obtain ⟨p, hp, rfl⟩ := List.mem_map.1 ha
    obtain ⟨q, hq, rfl⟩ := List.mem_map.1 hb
    have h1 := (t.has p hp).1
    have h2 := (Hp.blk_lt (s.has q hq).2).2
    omega
theorem St.get {h0 h : Hp} {L : List (Nat × Blk)} (s : St h0 h L) (i : Nat) {b : Nat} {k : Blk} (hi : L[i]? = some (b, k)) : h.blk? b = some k := (s.has (b, k) (List.mem_of_getElem? hi)).2
/-- a write into one of the walk's own blocks -/
theorem St.write {h0 h : Hp} {L : List (Nat × Blk)} (s : St h0 h L) (i : Nat) {b : Nat} {k : Blk} (hi : L[i]? = some (b, k)) {o : Nat} {vs : List Value} (hl : k.live = true) (ho : o + vs.length ≤ k.cells.length) (h1 : vs.all (·.oneCell') = true) :
    ∃ h', h.write ⟨b, o, none⟩ vs = some h' ∧ St h0 h' (L.set i (b, { k with cells := putAt k.cells o vs })) := by
  have hb := s.get i hi
  obtain ⟨hlo, hhi⟩ := Hp.blk_lt hb
  have hb0 := (s.has (b, k) (List.mem_of_getElem? hi)).1
  refine ⟨h.setBlk b { k with cells := putAt k.cells o vs }, ?_, ?_⟩
  · unfold Hp.write
    simp only [hb]
    rw [if_pos ⟨hl, trivial, ho, h1⟩]
  · have hmap : (L.set i (b, { k with cells := putAt k.cells o vs })).map (·.1) = L.map (·.1) := by
      rw [List.map_set]
      apply List.ext_getElem?
      intro j
      rw [List.getElem?_set]
      by_cases e : i = j
      · subst e
        rw [if_pos rfl]
        simp [hi]
        exact (List.getElem?_eq_some_iff.1 hi).1
      · rw [if_neg e]
    refine ⟨⟨s.keep.1, fun b' k' hk' => ?_⟩, by rw [Hp.next_set]; exact s.next, fun p hp => ?_, by rw [hmap]; exact s.nodup⟩
    · have hne : b' ≠ b := fun e => by
        have := (Hp.blk_lt hk').2
        omega
      rw [Hp.blk_set_ne _ _ hlo hne]
      exact s.keep.2 _ _ hk'
    · obtain ⟨j, hj⟩ := List.getElem?_of_mem hp
      rw [List.getElem?_set] at hj
      by_cases e : i = j
      · subst e
        rw [if_pos rfl] at hj
        split at hj
        · obtain rfl := Option.some.inj hj
          exact ⟨hb0, Hp.blk_set _ _ hb⟩
        · simp at hj
      · rw [if_neg e] at hj
        obtain ⟨q1, q2⟩ := s.has p (List.mem_of_getElem? hj)
        have hne : p.1 ≠ b := fun e2 => by
          have hnd := s.nodup
          have g1 : (L.map (·.1))[i]? = some b := by simp [hi]
          have g2 : (L.map (·.1))[j]? = some b := by simp [hj, e2]
          exact e (List.getElem?_inj (List.getElem?_eq_some_iff.1 g1).1 hnd |>.1 (g1.trans g2.symm))
        exact ⟨q1, by rw [Hp.blk_set_ne _ _ hlo hne]; exact q2⟩
theorem St.drop {h0 h : Hp} {L : List (Nat × Blk)} (s : St h0 h L) (M : List (Nat × Blk)) (hm : M.Sublist L) : St h0 h M :=
  ⟨s.keep, s.next, fun p hp => s.has p (hm.mem hp), s.nodup.sublist (hm.map _)⟩
/-- A function's code is what is told. -/
def IsTold (P : Program) (g N : Nat) (ac : AC) (rs : List RV) : Prop := ∃ fn c, P.funcs[g]? = some fn ∧ (fn.name == "runtime.NumGoroutine") = false ∧ fn.body = some c ∧ fn.ntmps = N ∧ compB P N c = some ac ∧ compR P fn.results.toList = some rs
theorem IsTold.call {P : Program} {g N : Nat} {ac : AC} {rs : List RV} (t : IsTold P g N ac rs) {args : List Value} {h : Hp} {K : Value → Hp → Prop} (hk : awp P ac (retA rs K) (initF args) h) (ha : args.length ≤ N := by first | decide | simp) : ACalls P g args h K := by
  obtain ⟨fn, c, h1, h2, h3, rfl, h5, h6⟩ := t
  exact call_of h1 h2 h3 h5 h6 ha hk
section
variable {P : Program} {K : Fr → Hp → Prop} {Q : QA} {f : Fr} {h : Hp}
theorem w_sq {a b : AC} (hk : awp P a (thenA (awp P b Q) Q) f h) : awp P (.seq a b) Q f h := hk
theorem w_blk {id : Nat} {a : AC} (hk : awp P a (inBlk id Q) f h) : awp P (.block id a) Q f h := hk
theorem w_scp {a : AC} (hk : awp P a (noGo Q) f h) : awp P (.scope a) Q f h := hk
theorem w_skip (hk : Q .normal f h) : awp P .skip Q f h := hk
theorem w_exit {id : Nat} (hk : Q (.exit id) f h) : awp P (.exit id) Q f h := hk
theorem w_ret (hk : Q .ret f h) : awp P .ret Q f h := hk
theorem t_nor (hk : K f h) : thenA K Q .normal f h := hk
theorem t_exit {id : Nat} (hk : Q (.exit id) f h) : thenA K Q (.exit id) f h := hk
theorem t_ret (hk : Q .ret f h) : thenA K Q .ret f h := hk
theorem i_nor {id : Nat} (hk : Q .normal f h) : inBlk id Q .normal f h := hk
theorem i_exit {id : Nat} (hk : Q .normal f h) : inBlk id Q (.exit id) f h := by
  show if id = id then _ else _
  rw [if_pos rfl]
  exact hk
theorem i_exit' {id id' : Nat} (hk : Q (.exit id') f h) (hne : id' ≠ id := by decide) : inBlk id Q (.exit id') f h := by
  show if id' = id then _ else _
  rw [if_neg hne]
  exact hk
theorem i_ret {id : Nat} (hk : Q .ret f h) : inBlk id Q .ret f h := hk
theorem g_nor (hk : Q .normal f h) : noGo Q .normal f h := hk
theorem g_exit {id : Nat} (hk : Q (.exit id) f h) : noGo Q (.exit id) f h := hk
theorem g_ret (hk : Q .ret f h) : noGo Q .ret f h := hk
theorem ret_nor {rs : List RV} {KK : Value → Hp → Prop} {l : List Value} (hl : rvs f h rs = some l) (hk : KK (one l) h) : retA rs KK .normal f h := ⟨l, hl, hk⟩
theorem ret_ret {rs : List RV} {KK : Value → Hp → Prop} {l : List Value} (hl : rvs f h rs = some l) (hk : KK (one l) h) : retA rs KK .ret f h := ⟨l, hl, hk⟩
end
/-! slices that are read -/
def rowV (h : Hp) (es : Nat) : Value → Option (List Value)
  | .slice none n _ => if n = 0 then some [] else none
  | .slice (some a) n _ => h.cells? a (n * es)
  | _ => none
theorem Keeps.row {h h' : Hp} (k : Keeps h h') {es : Nat} {v : Value} {l : List Value} (hr : rowV h es v = some l) : rowV h' es v = some l := by
  unfold rowV at hr ⊢
  split at hr
  · exact hr
  · exact k.cells hr
  · simp at hr
theorem cellsFrom_len {h : Hp} {a : Addr} : ∀ (n i : Nat) (l : List Value), h.cellsFrom a i n = some l → l.length = n
  | 0, i, l, hl => by simp [Hp.cellsFrom] at hl; subst hl; rfl
  | n + 1, i, l, hl => by
    simp only [Hp.cellsFrom] at hl
    cases hc : h.cell? (a.add i) with
    | none => simp [hc] at hl
    | some v =>
      simp only [hc] at hl
      obtain ⟨t, ht, rfl⟩ := Option.map_eq_some_iff.1 hl
      simp [cellsFrom_len n (i + 1) t ht]
theorem rowV_len {h : Hp} {es : Nat} {A : Option Addr} {n c : Nat} {l : List Value} (hr : rowV h es (.slice A n c) = some l) : l.length = n * es := by
  unfold rowV at hr
  cases A with
  | none =>
    simp only at hr
    split at hr
    · rename_i e; subst e; simp at hr; subst hr; simp
    · simp at hr
  | some a => exact cellsFrom_len _ _ _ hr
theorem rowV_some {h : Hp} {es : Nat} {A : Option Addr} {n c : Nat} {l : List Value} (hr : rowV h es (.slice A n c) = some l) (hn : 0 < n) : ∃ a, A = some a := by
  cases A with
  | none => unfold rowV at hr; simp only at hr; rw [if_neg (by omega)] at hr; simp at hr
  | some a => exact ⟨a, rfl⟩
theorem rowV_cell {h : Hp} {es : Nat} {a : Addr} {n c : Nat} {l : List Value} (hr : rowV h es (.slice (some a) n c) = some l) {j : Nat} {v : Value} (hj : l[j]? = some v) : h.cell? (a.add j) = some v := by
  have := cellsFrom_get _ _ _ hr j v hj
  rwa [Nat.zero_add] at this
theorem add_add (a : Addr) (i j : Nat) (hs : a.spot = none) : (a.add i).add j = a.add (i + j) := by
  unfold Addr.add
  cases a
  simp only at hs
  subst hs
  by_cases h1 : i = 0 <;> by_cases h2 : j = 0 <;> simp [h1, h2, Nat.add_assoc]
theorem srcV_row {h : Hp} {es : Nat} {A : Option Addr} {n c : Nat} {l : List Value} (hr : rowV h es (.slice A n c) = some l) : srcV h es (.slice A n c) = some (l, n) := by
  unfold rowV at hr
  unfold srcV
  cases A with
  | none =>
    simp only at hr ⊢
    split at hr
    · rename_i e; subst e; simp at hr; subst hr; simp
    · simp at hr
  | some a => simp only at hr ⊢; rw [hr]; rfl
/-- A slice that a walk has built: nothing, or one of its own blocks, that only it knows. -/
inductive Bld (h0 h : Hp) (L : List (Nat × Blk)) (es : Nat) : Value → List Value → Prop
  | nil (s : St h0 h L) : Bld h0 h L es (.slice none 0 0) []
  | blk (b n c : Nat) (l : List Value) (hn : l.length = n * es) (hc : c = n ∨ c = n + 1) (s : St h0 h ((b, ⟨l, es, true⟩) :: L)) : Bld h0 h L es (.slice (some ⟨b, 0, none⟩) n c) l
theorem Bld.st {h0 h : Hp} {L : List (Nat × Blk)} {es : Nat} {v : Value} {l : List Value} (b : Bld h0 h L es v l) : St h0 h L := by
  cases b with
  | nil s => exact s
  | blk b n c l hn hc s => exact s.drop _ (List.sublist_cons_self _ _)
theorem blk_cells {h : Hp} {b : Nat} {k : Blk} (hb : h.blk? b = some k) (hl : k.live = true) : ∀ (n i : Nat), i + n ≤ k.cells.length → h.cellsFrom ⟨b, 0, none⟩ i n = some ((k.cells.drop i).take n)
  | 0, i, _ => by simp [Hp.cellsFrom]
  | n + 1, i, hi => by
    have hlo := (Hp.blk_lt hb).1
    have e : h.cell? (Addr.add ⟨b, 0, none⟩ i) = some k.cells[i] := by
      have : Addr.add ⟨b, 0, none⟩ i = ⟨b, i, none⟩ := by
        unfold Addr.add
        split
        · rename_i h; rw [h]
        · simp
      rw [this]
      unfold Hp.cell?
      rw [if_neg (by simpa using hlo)]
      simp [hb, hl, show i < k.cells.length by omega]
    simp only [Hp.cellsFrom, e, blk_cells hb hl n (i + 1) (by omega), Option.map_some]
    rw [List.drop_eq_getElem_cons (show i < k.cells.length by omega)]
    rfl
theorem Bld.row {h0 h : Hp} {L : List (Nat × Blk)} {es : Nat} {v : Value} {l : List Value} (b : Bld h0 h L es v l) : rowV h es v = some l := by
  cases b with
  | nil s => rfl
  | blk b n c l hn hc s =>
    have := blk_cells (s.get 0 rfl) rfl (n * es) 0 (by show 0 + n * es ≤ l.length; omega)
    show h.cellsFrom _ 0 (n * es) = some l
    rw [this]
    simp only [List.drop_zero]
    rw [← hn, List.take_length]
theorem Bld.call {h0 h h' : Hp} {L M : List (Nat × Blk)} {es : Nat} {v : Value} {l : List Value} (b : Bld h0 h L es v l) (t : St h h' M) : Bld h0 h' L es v l := by
  cases b with
  | nil s => exact .nil ((s.call t).drop _ (List.sublist_append_right _ _))
  | blk b n c l hn hc s => exact .blk b n c l hn hc ((s.call t).drop _ (List.sublist_append_right _ _))
/-- An append onto what the walk has built. -/
theorem Bld.append {h0 h : Hp} {L : List (Nat × Blk)} {es bytes : Nat} {v : Value} {l new : List Value} {n m : Nat} (b : Bld h0 h L es v l) (hm : new.length = m * es) (hb : (l.length + new.length) * bytes ≤ 2 ^ 46) (hb2 : l.length + new.length < 2 ^ 62) (hes : 0 < es) :
    ∃ v' h', h.append es bytes v new m = some (v', h') ∧ Bld h0 h' L es v' (l ++ new) ∧ (∃ A k c, v' = .slice A k c ∧ (k * es = (l ++ new).length)) := by
  cases b with
  | nil s =>
    have hmb : m * bytes ≤ 2 ^ 46 := by
      refine Nat.le_trans (Nat.mul_le_mul (?_ : m ≤ [].length + new.length) (Nat.le_refl _)) hb
      rw [hm]
      have := Nat.le_mul_of_pos_right m hes
      simpa using this
    have hm2 : m < 2 ^ 62 := by
      have := Nat.le_mul_of_pos_right m hes
      simp at hb2
      omega
    unfold Hp.append
    simp only [Nat.zero_add]
    rw [if_neg (by simp; omega)]
    by_cases h0m : m = 0
    · subst h0m
      rw [if_pos rfl]
      have : new = [] := List.eq_nil_of_length_eq_zero (by omega)
      subst this
      exact ⟨_, _, rfl, .nil s, none, 0, 0, rfl, by simp⟩
    · rw [if_neg h0m, if_pos ⟨trivial, trivial⟩]
      exact ⟨_, _, rfl, .blk _ m _ new hm (.inr rfl) (s.push _), _, _, _, rfl, by simp [hm]⟩
  | blk b n c l hn hc s =>
    have hbl := s.get 0 (show ((b, (⟨l, es, true⟩ : Blk)) :: L)[0]? = some (b, ⟨l, es, true⟩) from rfl)
    have hlo := (Hp.blk_lt hbl).1
    have hnm : n + m ≤ l.length + new.length := by
      rw [hn, hm, ← Nat.add_mul]
      exact Nat.le_mul_of_pos_right _ hes
    have h1 : (n + m) * bytes ≤ 2 ^ 46 := Nat.le_trans (Nat.mul_le_mul hnm (Nat.le_refl _)) hb
    unfold Hp.append
    simp only
    rw [if_neg (by simp only [Decidable.not_not]; refine ⟨by omega, h1, by omega⟩)]
    by_cases h0m : m = 0
    · subst h0m
      rw [if_pos rfl]
      have : new = [] := List.eq_nil_of_length_eq_zero (by omega)
      subst this
      exact ⟨_, _, rfl, by rw [List.append_nil]; exact .blk b n c l hn hc s, _, _, _, rfl, by simp [hn]⟩
    · rw [if_neg h0m]
      have hcells : h.cells? ⟨b, 0, none⟩ (n * es) = some l := by
        have := blk_cells hbl rfl (n * es) 0 (by show 0 + n * es ≤ l.length; omega)
        show h.cellsFrom _ 0 (n * es) = some l
        rw [this]
        simp only [List.drop_zero]
        rw [← hn, List.take_length]
      have hlen : (l ++ new).length = (n + m) * es := by rw [List.length_append, hn, hm, Nat.add_mul]
      simp only [hcells]
      have s1 : St h0 h L := s.drop _ (List.sublist_cons_self _ _)
      by_cases hcn : c = n
      · rw [if_pos hcn]
        exact ⟨_, _, rfl, .blk _ (n + m) _ _ hlen (.inr rfl) (s1.push _), _, _, _, rfl, hlen.symm⟩
      · rw [if_neg hcn, if_pos ⟨by omega, by omega, trivial, trivial, by simp [hbl]⟩]
        refine ⟨_, _, rfl, .blk _ (n + m) _ _ hlen (.inr rfl) ?_, _, _, _, rfl, hlen.symm⟩
        have hk : h.kill b = h.setBlk b { (⟨l, es, true⟩ : Blk) with live := false } := Hp.kill_eq hbl
        have hb0 := (s.has (b, ⟨l, es, true⟩) (by simp)).1
        have sk : St h0 (h.kill b) L := by
          rw [hk]
          refine ⟨⟨s.keep.1, fun b' k' hk' => ?_⟩, by rw [Hp.next_set]; exact s.next, fun p hp => ?_, s1.nodup⟩
          · have hne : b' ≠ b := fun e => by have := (Hp.blk_lt hk').2; simp only at hb0; omega
            rw [Hp.blk_set_ne _ _ hlo hne]
            exact s.keep.2 _ _ hk'
          · obtain ⟨q1, q2⟩ := s1.has p hp
            have hne : p.1 ≠ b := fun e => by
              have := s.nodup
              rw [List.map_cons, List.nodup_cons] at this
              exact this.1 (List.mem_map.2 ⟨p, hp, e⟩)
            exact ⟨q1, by rw [Hp.blk_set_ne _ _ hlo hne]; exact q2⟩
        have hnx : (h.kill b).next = h.next := by rw [hk, Hp.next_set]
        have := sk.push ⟨l ++ new, es, true⟩
        rw [hnx] at this
        exact this
section
variable {P : Program} {K : Fr → Hp → Prop} {f : Fr} {h h0 : Hp} {L : List (Nat × Blk)} {cs : List CO} {d : Option Nat} {kp : Bool} {pr : List Operand}
/-- an operation that makes a block -/
theorem s_new {fo : FOp} {v : Nat → Value} {k : Blk} (S : St h0 h L) (hr : fo.run P (evF f) h h.next = some (v h.next, some k)) (hk : ∀ h' b, St h0 h' ((b, k) :: L) → aops P (rdF fo pr) cs K (putF f d (v b)) h') : aops P pr (⟨d, none, kp, .f fo⟩ :: cs) K f h :=
  s_a hr (hk _ _ (S.push k))
theorem St.cell {b o : Nat} {k : Blk} {v : Value} (S : St h0 h L) (i : Nat) (hi : L[i]? = some (b, k)) (hl : k.live = true) (hv : k.cells[o]? = some v) : h.cell? ⟨b, o, none⟩ = some v := by
  have hb := S.get i hi
  have hlo := (Hp.blk_lt hb).1
  unfold Hp.cell?
  rw [if_neg (by simpa using hlo)]
  simp [hb, hl, hv]
theorem s_ld {x : Operand} {a : Addr} {v : Value} (hx : evF f x = .pointer (some a)) (hc : h.cell? a = some v) (hk : aops P (x :: pr) cs K (putF f d v) h) : aops P pr (⟨d, none, kp, .f (.ld none x)⟩ :: cs) K f h :=
  s_f (v := v) (by simp only [FOp.run, hx, hc, Option.map_some]) hk
theorem s_ldn {x : Operand} {n b : Nat} {k : Blk} (S : St h0 h L) (i : Nat) (hx : evF f x = .pointer (some ⟨b, 0, none⟩)) (hi : L[i]? = some (b, k)) (hl : k.live = true) (hn : k.cells.length = n) (hk : aops P (x :: pr) cs K (putF f d (.agg k.cells.toArray)) h) : aops P pr (⟨d, none, kp, .f (.ld (some n) x)⟩ :: cs) K f h := by
  refine s_f (v := .agg k.cells.toArray) ?_ hk
  have := blk_cells (S.get i hi) hl n 0 (by omega)
  have e : h.cells? ⟨b, 0, none⟩ n = some k.cells := by
    show h.cellsFrom _ 0 n = _
    rw [this, List.drop_zero, ← hn, List.take_length]
  simp only [FOp.run, hx, e, Option.map_some]
/-- a store into one of the walk's own blocks -/
theorem s_stS {size : Nat} {a v : Operand} {b o : Nat} {k : Blk} (S : St h0 h L) (i : Nat) (ha : evF f a = .pointer (some ⟨b, o, none⟩)) (hi : L[i]? = some (b, k)) (hl : k.live = true) (hs : (evF f v).cells.size = size) (ho : o + size ≤ k.cells.length) (h1 : (evF f v).cells.toList.all (·.oneCell') = true)
    (hk : ∀ h', St h0 h' (L.set i (b, { k with cells := putAt k.cells o (evF f v).cells.toList })) → aops P pr cs K (putF f d undef) h') (hkp : kp = false := by rfl) : aops P pr (⟨d, none, kp, .e (.st size a v)⟩ :: cs) K f h := by
  obtain ⟨h', hw, hS⟩ := S.write i hi (o := o) (vs := (evF f v).cells.toList) hl (by simp; omega) h1
  exact s_st ha hs hw (hk h' hS) hkp
end
section
variable {P : Program} {K : Fr → Hp → Prop} {Q : QA} {f : Fr} {h : Hp} {cs : List CO} {d : Option Nat} {kp : Bool} {pr : List Operand}
theorem s_gy {s : Nat} {b : Bool} {op : COp} (hs : f s = .bool b) (hk : aops P pr (⟨d, none, kp, op⟩ :: cs) K f h) : aops P pr (⟨d, some (s, b), kp, op⟩ :: cs) K f h := s_g hs (fun _ => hk) (fun h => absurd rfl h)
theorem s_gn {s : Nat} {b x : Bool} {op : COp} (hs : f s = .bool x) (hne : x = !b) (hk : aops P (rdO op pr) cs K (putF f d undef) h) : aops P pr (⟨d, some (s, b), kp, op⟩ :: cs) K f h := s_g hs (fun h => by subst h; cases x <;> simp at hne) (fun _ => hk)
theorem w_ct {c : Operand} {a b : AC} (hc : evF f c = .bool true) (hk : awp P a Q f h) : awp P (.cond c a b) Q f h := w_cond hc (fun _ => hk) (fun h => by simp at h)
theorem w_cf {c : Operand} {a b : AC} (hc : evF f c = .bool false) (hk : awp P b Q f h) : awp P (.cond c a b) Q f h := w_cond hc (fun h => by simp at h) (fun _ => hk)
theorem s_cl {fx : Operand} {args : List Operand} {g : FuncId} {a b : Array Value} {l : List Value} (hf : evF f fx = .func (.func g) a b) (ha : a.toList ++ args.map (evF f) ++ b.toList = l) (hk : ACalls P g l h fun v h' => (kp = true → Keeps h h') ∧ aops P pr cs K (putF f d v) h') : aops P pr (⟨d, none, kp, .e (.cal fx args)⟩ :: cs) K f h := s_cal hf (by rw [ha]; exact hk)
theorem r_one {rs : List RV} {KK : Value → Hp → Prop} {v : Value} (hl : rvs f h rs = some [v]) (hk : KK v h) : retA rs KK .ret f h := ⟨[v], hl, hk⟩
theorem r_two {rs : List RV} {KK : Value → Hp → Prop} {u v : Value} (hl : rvs f h rs = some [u, v]) (hk : KK (.tuple #[u, v]) h) : retA rs KK .ret f h := ⟨[u, v], hl, hk⟩
theorem r_three {rs : List RV} {KK : Value → Hp → Prop} {u v x : Value} (hl : rvs f h rs = some [u, v, x]) (hk : KK (.tuple #[u, v, x]) h) : retA rs KK .ret f h := ⟨[u, v, x], hl, hk⟩
/-- a loop: of a state of which so much is left -/
theorem w_loop {a : AC} (I : Nat → Fr → Hp → Prop) (n : Nat) (h0 : I n f h) (hr : ∀ n f h, I n f h → awp P a (thenA (fun f h => ∃ m, m < n ∧ I m f h) Q) f h) (hm : ∀ (Q1 Q2 : QA), (∀ e f h, Q1 e f h → Q2 e f h) → ∀ f h, awp P a Q1 f h → awp P a Q2 f h) : awp P (.loop a) Q f h := by
  have key : ∀ n f h, I n f h → rnds (awp P a) Q (n + 1) f h := by
    intro n
    induction n using Nat.strongRecOn with
    | _ n ih =>
      intro f h hi
      refine hm _ _ (fun e f h he => ?_) f h (hr n f h hi)
      cases e with
      | normal =>
        obtain ⟨m, hlt, hi'⟩ := he
        have h1 := ih m hlt f h hi'
        have mono : ∀ k j, k ≤ j → ∀ f h, rnds (awp P a) Q k f h → rnds (awp P a) Q j f h := by
          intro k
          induction k with
          | zero => intro j _ f h hh; exact hh.elim
          | succ k ihk =>
            intro j hj f h hh
            obtain ⟨j, rfl⟩ : ∃ j', j = j' + 1 := ⟨j - 1, by omega⟩
            refine hm _ _ (fun e f h he => ?_) f h hh
            cases e with
            | normal => exact ihk j (by omega) f h he
            | _ => exact he
        exact mono (m + 1) n (by omega) f h h1
      | _ => exact he
  exact ⟨n + 1, key n f h h0⟩
end
theorem eop_mono {P : Program} {eo : EOp} {ev : Operand → Value} {h : Hp} {K K' : Value → Hp → Prop} (hk : ∀ v h, K v h → K' v h) (hr : eo.run P ev h K) : eo.run P ev h K' := by
  cases eo with
  | st size a v =>
    simp only [EOp.run] at hr ⊢
    split at hr
    · obtain ⟨h1, h', h2, h3⟩ := hr; exact ⟨h1, h', h2, hk _ _ h3⟩
    · exact hr
  | cal f args =>
    simp only [EOp.run] at hr ⊢
    split at hr
    · exact hr.mono hk
    · exact hr
  | app es bytes s x =>
    obtain ⟨new, n, v, h', h1, h2, h3⟩ := hr
    exact ⟨new, n, v, h', h1, h2, hk _ _ h3⟩
  | apz es bytes zc s x =>
    simp only [EOp.run] at hr ⊢
    split at hr
    · obtain ⟨h0, v, h', h2, h3⟩ := hr
      exact ⟨h0, v, h', h2, hk _ _ h3⟩
    · exact hr
  | cpy es d s =>
    simp only [EOp.run] at hr ⊢
    split at hr
    · obtain ⟨new, n, h1, h2⟩ := hr
      refine ⟨new, n, h1, ?_⟩
      split
      · rename_i h0; rw [if_pos h0] at h2; exact hk _ _ h2
      · rename_i h0
        rw [if_neg h0] at h2
        rename_i b _ _ _
        cases b with
        | none => exact h2
        | some a => obtain ⟨h', h3, h4⟩ := h2; exact ⟨h', h3, hk _ _ h4⟩
    · exact hr
  | mst x =>
    simp only [EOp.run] at hr ⊢
    split at hr
    · exact ⟨hr.1, hk _ _ hr.2⟩
    · exact hr
theorem aops_mono {P : Program} {K K' : Fr → Hp → Prop} (hk : ∀ f h, K f h → K' f h) : ∀ (cs : List CO) (pr : List Operand) (f : Fr) (h : Hp), aops P pr cs K f h → aops P pr cs K' f h
  | [], pr, f, h, hh => hk f h hh
  | c :: cs, pr, f, h, hh => by
    unfold aops at hh ⊢
    split
    · rename_i hw
      rw [if_pos hw] at hh
      cases hc : c.op with
      | f fo =>
        rw [hc] at hh
        obtain ⟨v, k, h1, h2⟩ := hh
        exact ⟨v, k, h1, aops_mono hk cs _ _ _ h2⟩
      | e eo =>
        rw [hc] at hh
        exact eop_mono (fun v h' ⟨h1, h2⟩ => ⟨h1, aops_mono hk cs _ _ _ h2⟩) hh
    · rename_i hw
      rw [if_neg hw] at hh
      exact aops_mono hk cs _ _ _ hh
theorem awp_mono {P : Program} : ∀ (a : AC) (Q1 Q2 : QA), (∀ e f h, Q1 e f h → Q2 e f h) → ∀ f h, awp P a Q1 f h → awp P a Q2 f h
  | .skip, Q1, Q2, hq, f, h, hh => hq _ _ _ hh
  | .reg l, Q1, Q2, hq, f, h, hh => aops_mono (hq _) l [] f h hh
  | .seq a b, Q1, Q2, hq, f, h, hh => awp_mono a _ _ (fun e f h he => by
      cases e with
      | normal => exact awp_mono b _ _ hq f h he
      | _ => exact hq _ _ _ he) f h hh
  | .cond c a b, Q1, Q2, hq, f, h, hh => by
    unfold awp at hh ⊢
    split at hh
    · split
      · rename_i ht; rw [if_pos ht] at hh; exact awp_mono a _ _ hq f h hh
      · rename_i ht; rw [if_neg ht] at hh; exact awp_mono b _ _ hq f h hh
    · exact hh
  | .block id a, Q1, Q2, hq, f, h, hh => awp_mono a _ _ (fun e f h he => by
      cases e with
      | exit id' =>
        simp only [inBlk] at he ⊢
        split
        · rename_i hi; rw [if_pos hi] at he; exact hq _ _ _ he
        · rename_i hi; rw [if_neg hi] at he; exact hq _ _ _ he
      | _ => exact hq _ _ _ he) f h hh
  | .loop a, Q1, Q2, hq, f, h, hh => by
    obtain ⟨n, hn⟩ := hh
    refine ⟨n, ?_⟩
    have key : ∀ n f h, rnds (awp P a) Q1 n f h → rnds (awp P a) Q2 n f h := by
      intro n
      induction n with
      | zero => intro f h hh; exact hh
      | succ n ih =>
        intro f h hh
        refine awp_mono a _ _ (fun e f h he => ?_) f h hh
        cases e with
        | normal => exact ih f h he
        | _ => exact hq _ _ _ he
    exact key n f h hn
  | .scope a, Q1, Q2, hq, f, h, hh => awp_mono a _ _ (fun e f h he => by
      cases e with
      | goto l => exact he
      | _ => exact hq _ _ _ he) f h hh
  | .exit id, Q1, Q2, hq, f, h, hh => hq _ _ _ hh
  | .ret, Q1, Q2, hq, f, h, hh => hq _ _ _ hh
  | .bad, Q1, Q2, hq, f, h, hh => hh
  | .goto l, Q1, Q2, hq, f, h, hh => hq _ _ _ hh
  | .jmp l a b, Q1, Q2, hq, f, h, hh => by
    obtain ⟨n, hn⟩ := hh
    have key : ∀ n f h, jrn (awp P b) l Q1 n f h → jrn (awp P b) l Q2 n f h := by
      intro n
      induction n with
      | zero => intro f h hh; exact hh
      | succ n ih =>
        intro f h hh
        refine awp_mono b _ _ (fun e f h he => ?_) f h hh
        cases e with
        | goto l' => exact ⟨he.1, ih f h he.2⟩
        | _ => exact hq _ _ _ he
    refine ⟨n, awp_mono a _ _ (fun e f h he => ?_) f h hn⟩
    cases e with
    | goto l' => exact ⟨he.1, key n f h he.2⟩
    | _ => exact hq _ _ _ he
/-- a run that goes back to one label: of a state of which so much is left -/
theorem w_jmp {P : Program} {Q : QA} {f : Fr} {h : Hp} {l : Nat} {a b : AC} (I : Nat → Fr → Hp → Prop) (n0 : Nat) (h0 : awp P a (goK l (fun f h => ∃ m, m < n0 ∧ I m f h) Q) f h) (hr : ∀ n f h, I n f h → awp P b (goK l (fun f h => ∃ m, m < n ∧ I m f h) Q) f h) : awp P (.jmp l a b) Q f h := by
  have mono : ∀ k j, k ≤ j → ∀ f h, jrn (awp P b) l Q k f h → jrn (awp P b) l Q j f h := by
    intro k
    induction k with
    | zero => intro j _ f h hh; exact hh.elim
    | succ k ihk =>
      intro j hj f h hh
      obtain ⟨j, rfl⟩ : ∃ j', j = j' + 1 := ⟨j - 1, by omega⟩
      refine awp_mono b _ _ (fun e f h he => ?_) f h hh
      cases e with
      | goto l' => exact ⟨he.1, ihk j (by omega) f h he.2⟩
      | _ => exact he
  have key : ∀ n f h, I n f h → jrn (awp P b) l Q (n + 1) f h := by
    intro n
    induction n using Nat.strongRecOn with
    | _ n ih =>
      intro f h hi
      refine awp_mono b _ _ (fun e f h he => ?_) f h (hr n f h hi)
      cases e with
      | goto l' =>
        obtain ⟨h1, m, hlt, hi'⟩ := he
        exact ⟨h1, mono (m + 1) n (by omega) f h (ih m hlt f h hi')⟩
      | _ => exact he
  refine ⟨n0, awp_mono a _ _ (fun e f h he => ?_) f h h0⟩
  cases e with
  | goto l' =>
    obtain ⟨h1, m, hlt, hi'⟩ := he
    exact ⟨h1, mono (m + 1) n0 (by omega) f h (key m f h hi')⟩
  | _ => exact he
/-- a loop: of a state of which so much is left -/
theorem w_lp {P : Program} {Q : QA} {f : Fr} {h : Hp} {a : AC} (I : Nat → Fr → Hp → Prop) (n : Nat) (h0 : I n f h) (hr : ∀ n f h, I n f h → awp P a (thenA (fun f h => ∃ m, m < n ∧ I m f h) Q) f h) : awp P (.loop a) Q f h := w_loop I n h0 hr (awp_mono a)
end Go.Proofs.Ytalhipbbomagoaa.Ab
