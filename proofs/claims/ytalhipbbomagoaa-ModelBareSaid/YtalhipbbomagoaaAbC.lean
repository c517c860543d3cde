/- That the machine does what the operations tell that write nothing. No statement of the set is proved in this text. -/
import Derived.Test.YtalhipbbomagoaaAbB
namespace Go.Proofs.Ytalhipbbomagoaa.Ab
open Go.RowKit
set_option linter.unusedVariables false
set_option linter.unusedSimpArgs false
/-- What is shown of each operation: run over related operands it yields a related value; a block that it tells is made. -/
def FSound (P : Program) (R : AR) (h : Hp) (w : World) (id : Nat) (s : Sem Value) (v : Value) (k : Option Blk) : Prop :=
  ∃ v' w' R', s.run P w = .ok v' w' ∧ VR R' v v' ∧ R.le R' ∧ Rel R' h w' ∧ ∀ b e, R'.rho b = some e → R.rho b = some e ∨ (k.isSome = true ∧ b = id)
theorem FSound.same {P : Program} {R : AR} {h : Hp} {w : World} {id : Nat} {s : Sem Value} {v v' : Value} {k : Option Blk} (hr : Rel R h w) (hs : s.run P w = .ok v' w) (hv : VR R v v') : FSound P R h w id s v k :=
  ⟨v', w, R, hs, hv, .refl R, hr, fun _ _ h => .inl h⟩
theorem semPure_run {s : Sem Value} {v : Value} (h : semPure s = some v) (P : Program) (w : World) : s.run P w = .ok v w := by
  unfold semPure at h
  split at h
  · obtain rfl := Option.some.inj h
    rfl
  · simp at h
theorem plainC_VR {R : AR} {v : Value} (h : plainC v = true) : VR R v v := by
  unfold plainC at h
  split at h
  all_goals first
    | constructor
    | simp at h
theorem plainV_VR {R : AR} {v : Value} (h : plainV v = true) : VR R v v := by
  unfold plainV at h
  split at h
  · refine .agg _ _ rfl (fun i x x' h1 h2 => ?_)
    rw [h1] at h2
    obtain rfl := Option.some.inj h2
    exact plainC_VR (Array.all_eq_true_iff_forall_mem.1 h _ (Array.mem_of_getElem? h1))
  · refine .tuple _ _ rfl (fun i x x' h1 h2 => ?_)
    rw [h1] at h2
    obtain rfl := Option.some.inj h2
    exact plainC_VR (Array.all_eq_true_iff_forall_mem.1 h _ (Array.mem_of_getElem? h1))
  · exact plainC_VR h
theorem abin_run {P : Program} {R : AR} {op : BinOp} {x y v x' y' : Value} (h : abin op x y = some v) (hx : VR R x x') (hy : VR R y y') (t : TypeId) (a b : Operand) (w : World) :
    (do eqGuard op t a b x' y'; binOp op t x' y' : Sem Value).run P w = .ok v w ∧ VR R v v := by
  unfold abin at h
  split at h
  · cases hx
    cases hy
    rename_i k n k' m
    have e : binOp op t (.int k n) (.int k' m) = binOp op 0 (.int k n) (.int k' m) := by cases op <;> rfl
    have hrun := semPure_run h P w
    have hg : (eqGuard op t a b (.int k n) (.int k' m)).run P w = .ok () w := by cases op <;> rfl
    refine ⟨by rw [Sem.run_bind, hg, e]; exact hrun, ?_⟩
    have hv : (∃ k n, v = .int k n) ∨ ∃ b, v = .bool b := by
      unfold semPure at h
      split at h
      · rename_i u hu
        obtain rfl := Option.some.inj h
        cases op <;> simp only [binOp, Op.shift, Op.intArith, Op.intDiv, Op.intBits, Op.intCmp, stuck, runtimePanic, goPanic] at hu <;> (repeat' split at hu) <;> first | (simp only [pure, Sem.pure.injEq, reduceCtorEq] at hu; subst hu; first | exact .inl ⟨_, _, rfl⟩ | exact .inr ⟨_, rfl⟩) | (cases hu; done) | skip
      · simp at h
    rcases hv with ⟨_, _, rfl⟩ | ⟨_, rfl⟩ <;> constructor
  · cases hx
    cases hy
    rename_i p q
    have e : binOp op t (.string p) (.string q) = binOp op 0 (.string p) (.string q) := by cases op <;> rfl
    have hrun := semPure_run h P w
    have hg : (eqGuard op t a b (.string p) (.string q)).run P w = .ok () w := by cases op <;> rfl
    refine ⟨by rw [Sem.run_bind, hg, e]; exact hrun, ?_⟩
    have hv : (∃ s, v = .string s) ∨ ∃ b, v = .bool b := by
      unfold semPure at h
      split at h
      · rename_i u hu
        obtain rfl := Option.some.inj h
        cases op <;> simp only [binOp, Op.stringOp, stuck, unsupported] at hu <;> (repeat' split at hu) <;> first | (simp only [pure, Sem.pure.injEq, reduceCtorEq] at hu; subst hu; first | exact .inl ⟨_, rfl⟩ | exact .inr ⟨_, rfl⟩) | (cases hu; done)
      · simp at h
    rcases hv with ⟨_, rfl⟩ | ⟨_, rfl⟩ <;> constructor
  · simp at h
theorem eq_nn {P : Program} {t : TypeId} {ms : Array (String × TypeId)} {w : World} (hu : (underlying t).run P w = .ok (.interface ms) w) (d : Nat) : (Op.equalIn (d + 1) t .nilIface .nilIface).run P w = .ok true w := by
  simp only [Op.equalIn, Sem.run_bind, hu, Result.andThen_ok]
  rfl
theorem eq_ni {P : Program} {t : TypeId} {ms : Array (String × TypeId)} {w : World} (hu : (underlying t).run P w = .ok (.interface ms) w) (d : Nat) (u : TypeId) (v : Value) : (Op.equalIn (d + 1) t .nilIface (.iface u v)).run P w = .ok false w := by
  simp only [Op.equalIn, Sem.run_bind, hu, Result.andThen_ok]
  rfl
theorem eq_in {P : Program} {t : TypeId} {ms : Array (String × TypeId)} {w : World} (hu : (underlying t).run P w = .ok (.interface ms) w) (d : Nat) (u : TypeId) (v : Value) : (Op.equalIn (d + 1) t (.iface u v) .nilIface).run P w = .ok false w := by
  simp only [Op.equalIn, Sem.run_bind, hu, Result.andThen_ok]
  rfl
theorem eq_ne {P : Program} {t : TypeId} {ms : Array (String × TypeId)} {w : World} (hu : (underlying t).run P w = .ok (.interface ms) w) (d : Nat) {u1 u2 : TypeId} (h : u1 ≠ u2) (v x : Value) : (Op.equalIn (d + 1) t (.iface u1 v) (.iface u2 x)).run P w = .ok false w := by
  simp only [Op.equalIn, Sem.run_bind, hu, Result.andThen_ok, if_pos h]
  rfl
theorem eq_ii {P : Program} {t u : TypeId} {ms : Array (String × TypeId)} {w : World} (hu : (underlying t).run P w = .ok (.interface ms) w) {inf : TypeInfo} (hi : (typeInfo u).run P w = .ok inf w) {kk : IntKind} (hui : (underlying u).run P w = .ok (.int kk) w) (hc : inf.comparable = true) (d : Nat) (k : IntKind) (a b : Int) : (Op.equalIn (d + 2) t (.iface u (.int k a)) (.iface u (.int k b))).run P w = .ok (a == b) w := by
  have e : (Op.equalIn (d + 1) u (.int k a) (.int k b)).run P w = .ok (a == b) w := by
    simp only [Op.equalIn, Sem.run_bind, hui, Result.andThen_ok, if_true]
    rfl
  rw [Op.equalIn]
  simp only [Sem.run_bind, hu, Result.andThen_ok, ne_eq, not_true, if_false, hi, hc, Bool.not_true, Bool.false_eq_true]
  exact e
theorem eqGuard_if (op : BinOp) (t : TypeId) (a b : Operand) (x y : Value) (h : ¬ (x = .nilIface ∧ y = .nilIface)) (h2 : ∀ c, x ≠ .agg c) : eqGuard op t a b x y = pure () := by
  cases op <;> cases x <;> first | rfl | (cases y <;> first | rfl | exact absurd ⟨rfl, rfl⟩ h | exact absurd rfl (h2 _))
theorem eql_run {P : Program} {t : TypeId} {x y : Value} {r : Bool} {w : World} {ne : Bool} {op : BinOp} (hn : neq? op = some ne) (hx : (∃ t v, x = .iface t v) ∨ x = .nilIface ∨ (∃ b, x = .bool b) ∨ (∃ a n c, x = .slice a n c) ∨ (∃ a b c, x = .func a b c) ∨ x = .nilFunc ∨ (∃ c, x = .agg c)) (h : (Op.equal t x y).run P w = .ok r w) : (binOp op t x y).run P w = .ok (.bool (nb ne r)) w := by
  have e1 : ∀ s : Sem Bool, s.run P w = .ok r w → (do pure (.bool (← s)) : Sem Value).run P w = .ok (.bool r) w := fun s hs => by simp [hs]
  have e2 : ∀ s : Sem Bool, s.run P w = .ok r w → (do pure (.bool (!(← s))) : Sem Value).run P w = .ok (.bool (!r)) w := fun s hs => by simp [hs]
  cases op <;> simp [neq?] at hn <;> subst hn
  · rcases hx with ⟨_, _, rfl⟩ | rfl | ⟨_, rfl⟩ | ⟨_, _, _, rfl⟩ | ⟨_, _, _, rfl⟩ | rfl | ⟨_, rfl⟩ <;> exact e1 _ h
  · rcases hx with ⟨_, _, rfl⟩ | rfl | ⟨_, rfl⟩ | ⟨_, _, _, rfl⟩ | ⟨_, _, _, rfl⟩ | rfl | ⟨_, rfl⟩ <;> exact e2 _ h
theorem aeqI_run {P : Program} {R : AR} {op : BinOp} {ne : Bool} {x y v x' y' : Value} {a b : Operand} {t : TypeId} {ms : Array (String × TypeId)} (ht : P.underlying t = some (.interface ms)) (hn : neq? op = some ne) (h : aeqI P ne (isC a || isC b) x y = some v) (hx : VR R x x') (hy : VR R y y') (w : World) :
    (do eqGuard op t a b x' y'; binOp op t x' y' : Sem Value).run P w = .ok v w ∧ VR R v v := by
  have hv : ∃ r, v = .bool r := by
    unfold aeqI at h
    (repeat' split at h) <;> first | exact ⟨_, (Option.some.inj h).symm⟩ | simp at h
  refine ⟨?_, by obtain ⟨r, rfl⟩ := hv; constructor⟩
  have hu : ∀ w, (underlying t).run P w = .ok (.interface ms) w := fun w => by simp [underlying, ht]
  unfold aeqI at h
  split at h
  · cases hx
    cases hy
    split at h
    · rename_i hc
      obtain rfl := Option.some.inj h
      have hg : (eqGuard op t a b .nilIface .nilIface).run P w = .ok () w := by
        cases op <;> simp [neq?] at hn <;> cases a <;> cases b <;> simp [isC] at hc <;> simp [eqGuard]
      rw [Sem.run_bind, hg]
      exact eql_run hn (.inr (.inl rfl)) (eq_nn (hu w) 9999)
    · simp at h
  · cases hx
    cases hy
    obtain rfl := Option.some.inj h
    rw [eqGuard_if _ _ _ _ _ _ (by simp) (by simp)]
    exact eql_run hn (.inr (.inl rfl)) (eq_ni (hu w) 9999 _ _)
  · cases hx
    cases hy
    obtain rfl := Option.some.inj h
    rw [eqGuard_if _ _ _ _ _ _ (by simp) (by simp)]
    exact eql_run hn (.inl ⟨_, _, rfl⟩) (eq_in (hu w) 9999 _ _)
  · cases hx with
    | iface t1 v1 v1' h1 =>
    cases hy with
    | iface t2 v2 v2' h2 =>
    rw [eqGuard_if _ _ _ _ _ _ (by simp) (by simp)]
    split at h
    · rename_i hne
      obtain rfl := Option.some.inj h
      exact eql_run hn (.inl ⟨_, _, rfl⟩) (eq_ne (hu w) 9999 hne _ _)
    · rename_i he
      simp only [ne_eq, Decidable.not_not] at he
      subst he
      split at h
      · cases h1
        cases h2
        split at h
        · rename_i hk
          obtain ⟨rfl, hcmp⟩ := hk
          obtain rfl := Option.some.inj h
          unfold cmpInt at hcmp
          split at hcmp
          · rename_i inf kk hi hui
            exact eql_run hn (.inl ⟨_, _, rfl⟩) (eq_ii (kk := kk) (inf := inf) (hu w) (by simp [typeInfo, hi]) (by simp [underlying, hui]) hcmp 9998 _ _ _)
          · simp at hcmp
        · simp at h
      · simp at h
  · simp at h
theorem eq_pn {P : Program} {t e : TypeId} {w : World} (hu : (underlying t).run P w = .ok (.pointer e) w) (d : Nat) (a : Option Addr) : (Op.equalIn (d + 1) t (.pointer a) (.pointer none)).run P w = .ok a.isNone w := by
  simp only [Op.equalIn, Sem.run_bind, hu, Result.andThen_ok]
  cases a <;> rfl
theorem eq_sn {P : Program} {t e : TypeId} {w : World} (hu : (underlying t).run P w = .ok (.slice e) w) (d : Nat) (a : Option Addr) (n c m k : Nat) : (Op.equalIn (d + 1) t (.slice a n c) (.slice none m k)).run P w = .ok a.isNone w := by
  simp only [Op.equalIn, Sem.run_bind, hu, Result.andThen_ok]
  cases a <;> rfl
theorem eq_fn {P : Program} {t : TypeId} {p q : Array TypeId} {r : Bool} {w : World} (hu : (underlying t).run P w = .ok (.func p q r) w) (d : Nat) (f : Fn) (a b : Array Value) : (Op.equalIn (d + 1) t (.func f a b) .nilFunc).run P w = .ok false w := by
  simp only [Op.equalIn, Sem.run_bind, hu, Result.andThen_ok]
  rfl
theorem eq_ff {P : Program} {t : TypeId} {p q : Array TypeId} {r : Bool} {w : World} (hu : (underlying t).run P w = .ok (.func p q r) w) (d : Nat) : (Op.equalIn (d + 1) t .nilFunc .nilFunc).run P w = .ok true w := by
  simp only [Op.equalIn, Sem.run_bind, hu, Result.andThen_ok]
  rfl
theorem eql_ptr {P : Program} {t : TypeId} {a b : Option Addr} {r : Bool} {w : World} {ne : Bool} {op : BinOp} (hn : neq? op = some ne) (h : (Op.equal t (.pointer a) (.pointer b)).run P w = .ok r w) : (binOp op t (.pointer a) (.pointer b)).run P w = .ok (.bool (nb ne r)) w := by
  have e1 : ∀ s : Sem Bool, s.run P w = .ok r w → (do pure (.bool (← s)) : Sem Value).run P w = .ok (.bool r) w := fun s hs => by simp [hs]
  have e2 : ∀ s : Sem Bool, s.run P w = .ok r w → (do pure (.bool (!(← s))) : Sem Value).run P w = .ok (.bool (!r)) w := fun s hs => by simp [hs]
  cases op <;> simp [neq?] at hn <;> subst hn
  · cases a <;> cases b <;> exact e1 _ h
  · cases a <;> cases b <;> exact e2 _ h
theorem eq_bb {P : Program} {t : TypeId} {w : World} (hu : (underlying t).run P w = .ok .bool w) (d : Nat) (a b : Bool) : (Op.equalIn (d + 1) t (.bool a) (.bool b)).run P w = .ok (a == b) w := by
  simp only [Op.equalIn, Sem.run_bind, hu, Result.andThen_ok]
  rfl
theorem aeqN_run {P : Program} {R : AR} {op : BinOp} {tag : Nat} {ne : Bool} {x y v x' y' : Value} {a b : Operand} {t : TypeId} {d : TypeDesc} (ht : P.underlying t = some d) (hd : (∃ e, d = .pointer e ∧ tag = 0) ∨ (∃ e, d = .slice e ∧ tag = 1) ∨ ∃ p q r, d = .func p q r ∧ tag = 2) (hn : neq? op = some ne) (h : aeqN tag ne x y = some v) (hx : VR R x x') (hy : VR R y y') (w : World) :
    (do eqGuard op t a b x' y'; binOp op t x' y' : Sem Value).run P w = .ok v w ∧ VR R v v := by
  have hv : ∃ r, v = .bool r := by
    unfold aeqN at h
    (repeat' split at h) <;> first | exact ⟨_, (Option.some.inj h).symm⟩ | simp at h
  refine ⟨?_, by obtain ⟨r, rfl⟩ := hv; constructor⟩
  have hu : ∀ w, (underlying t).run P w = .ok d w := fun w => by simp [underlying, ht]
  unfold aeqN at h
  split at h
  · split at h
    · rename_i htag
      obtain ⟨e, rfl⟩ : ∃ e, d = .pointer e := by
        rcases hd with ⟨e, rfl, -⟩ | ⟨e, -, hp⟩ | ⟨p, q, r, -, hp⟩
        · exact ⟨e, rfl⟩
        all_goals omega
      cases hy
      obtain rfl := Option.some.inj h
      cases hx with
      | nilp =>
        rw [eqGuard_if _ _ _ _ _ _ (by simp) (by simp)]
        exact eql_ptr hn (eq_pn (hu w) 9999 _)
      | ptr p p' hp =>
        rw [eqGuard_if _ _ _ _ _ _ (by simp) (by simp)]
        exact eql_ptr hn (eq_pn (hu w) 9999 _)
    · simp at h
  · split at h
    · rename_i htag
      obtain ⟨e, rfl⟩ : ∃ e, d = .slice e := by
        rcases hd with ⟨e, -, hp⟩ | ⟨e, rfl, -⟩ | ⟨p, q, r, -, hp⟩
        · omega
        · exact ⟨e, rfl⟩
        all_goals omega
      cases hy
      obtain rfl := Option.some.inj h
      cases hx with
      | nils n c =>
        rw [eqGuard_if _ _ _ _ _ _ (by simp) (by simp)]
        exact eql_run hn (.inr (.inr (.inr (.inl ⟨_, _, _, rfl⟩)))) (eq_sn (hu w) 9999 _ _ _ _ _)
      | sl p p' n c c' hp =>
        rw [eqGuard_if _ _ _ _ _ _ (by simp) (by simp)]
        exact eql_run hn (.inr (.inr (.inr (.inl ⟨_, _, _, rfl⟩)))) (eq_sn (hu w) 9999 _ _ _ _ _)
    · simp at h
  · split at h
    · rename_i htag
      obtain ⟨p, q, r, rfl⟩ : ∃ p q r, d = .func p q r := by
        rcases hd with ⟨e, -, hp⟩ | ⟨e, -, hp⟩ | ⟨p, q, r, rfl, -⟩
        · omega
        · omega
        · exact ⟨p, q, r, rfl⟩
      cases hy
      cases hx
      obtain rfl := Option.some.inj h
      rw [eqGuard_if _ _ _ _ _ _ (by simp) (by simp)]
      exact eql_run hn (.inr (.inr (.inr (.inr (.inr (.inl rfl)))))) (eq_ff (hu w) 9999)
    · simp at h
  · split at h
    · rename_i htag
      obtain ⟨p, q, r, rfl⟩ : ∃ p q r, d = .func p q r := by
        rcases hd with ⟨e, -, hp⟩ | ⟨e, -, hp⟩ | ⟨p, q, r, rfl, -⟩
        · omega
        · omega
        · exact ⟨p, q, r, rfl⟩
      cases hy
      cases hx
      obtain rfl := Option.some.inj h
      rw [eqGuard_if _ _ _ _ _ _ (by simp) (by simp)]
      exact eql_run hn (.inr (.inr (.inr (.inr (.inl ⟨_, _, _, rfl⟩))))) (eq_fn (hu w) 9999 _ _ _)
    · simp at h
  · simp at h
theorem strOf_run {R : AR} {l l' : List Value} {s : List UInt8} (h : strOf l = some s) (hl : VRs R l l') : l' = l := by
  induction l generalizing l' s with
  | nil =>
    cases l' with
    | nil => rfl
    | cons _ _ => simp [VRs] at hl
  | cons v l ih =>
    obtain ⟨v', t', rfl, h1, h2⟩ := hl.uncons
    unfold strOf at h
    split at h
    · simp at *
    · rename_i n t he
      simp only [List.cons.injEq] at he
      obtain ⟨rfl, rfl⟩ := he
      obtain ⟨u, hu, -⟩ := Option.map_eq_some_iff.1 h
      cases h1
      rw [ih hu h2]
    · simp at h
theorem b2s_loop (P : Program) (w : World) (f : Value → ByteArray → Sem (ForInStep ByteArray)) (hf : ∀ n r, f (.int .u8 n) r = pure (.yield (r.push (UInt8.ofNat n.toNat)))) : ∀ (l : List Value) (s : List UInt8) (acc : ByteArray), strOf l = some s →
    (forIn (m := Sem) l acc f).run P w = .ok (s.foldl ByteArray.push acc) w
  | [], s, acc, h => by
    simp [strOf] at h
    subst h
    rfl
  | v :: l, s, acc, h => by
    unfold strOf at h
    split at h
    · rename_i he
      simp at he
    · rename_i n t he
      simp only [List.cons.injEq] at he
      obtain ⟨rfl, rfl⟩ := he
      obtain ⟨u, hu, rfl⟩ := Option.map_eq_some_iff.1 h
      rw [List.forIn_cons, hf]
      simp only [Sem.run_bind, Sem.run_pure, Result.andThen_ok]
      exact b2s_loop P w f hf l u _ hu
    · simp at h
theorem foldl_push (s : List UInt8) (acc : ByteArray) : s.foldl ByteArray.push acc = ⟨acc.data ++ s.toArray⟩ := by
  induction s generalizing acc with
  | nil => simp
  | cons b s ih =>
    rw [List.foldl_cons, ih]
    simp [ByteArray.push]
end Go.Proofs.Ytalhipbbomagoaa.Ab
