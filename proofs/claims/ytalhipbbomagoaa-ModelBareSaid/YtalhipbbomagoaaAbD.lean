/- That the machine does what the operations tell that write nothing: all of them in one word. No statement of the set is proved in this text. -/
import Derived.Test.YtalhipbbomagoaaAbC
namespace Go.Proofs.Ytalhipbbomagoaa.Ab
open Go.RowKit
set_option linter.unusedVariables false
set_option linter.unusedSimpArgs false
def FOut (P : Program) (R : AR) (h : Hp) (w : World) (id : Nat) (s : Sem Next) (v : Value) (k : Option Blk) : Prop :=
  ∃ v' w' R', s.run P w = .ok (.value v') w' ∧ VR R' v v' ∧ R.le R' ∧ Rel R' h w' ∧ ∀ b e, R'.rho b = some e → R.rho b = some e ∨ (k.isSome = true ∧ b = id)
theorem FSound.fin {P : Program} {R : AR} {h : Hp} {w : World} {id : Nat} {s : Sem Value} {v : Value} {k : Option Blk} (hs : FSound P R h w id s v k) : FOut P R h w id (do pure (Next.value (← s))) v k := by
  obtain ⟨v', w', R', h1, h2⟩ := hs
  exact ⟨v', w', R', by simp [h1], h2⟩
theorem und_run {P : Program} {t : TypeId} {d : TypeDesc} (h : P.underlying t = some d) (w : World) : (underlying t).run P w = .ok d w := by simp [underlying, h]
theorem info_run {P : Program} {t : TypeId} {d : TypeInfo} (h : P.info? t = some d) (w : World) : (typeInfo t).run P w = .ok d w := by simp [typeInfo, h]
theorem size_run {P : Program} {t : TypeId} {d : TypeInfo} (h : P.info? t = some d) (w : World) : (sizeOf t).run P w = .ok d.size w := by simp [sizeOf, info_run h]
theorem zero_run {P : Program} {t : TypeId} {d : TypeInfo} (h : P.info? t = some d) {z : Value} (hz : d.zero = some z) (w : World) : (zeroValue t).run P w = .ok z w := by simp [zeroValue, info_run h, hz]
theorem agg_run {P : Program} {t : TypeId} {b : Bool} (h : aggT P t = some b) (w : World) : (isAgg t).run P w = .ok b w := by
  unfold aggT at h
  unfold isAgg
  rw [Sem.run_bind]
  split at h
  · rename_i d he
    rw [und_run he]
    obtain rfl := Option.some.inj h
    rfl
  · rename_i d e he
    rw [und_run he]
    obtain rfl := Option.some.inj h
    rfl
  · rename_i d h1 h2 he
    rw [und_run he]
    obtain rfl := Option.some.inj h
    cases d <;> first | rfl | exact absurd rfl (h1 _) | exact absurd rfl (h2 _ _)
  · simp at h
theorem VR.asInt {R : AR} {v v' : Value} (h : VR R v v') {n : Int} (hv : asI v = some n) : v' = v ∧ ∃ k, v = .int k n := by
  unfold asI at hv
  split at hv
  · obtain rfl := Option.some.inj hv
    cases h
    exact ⟨rfl, _, rfl⟩
  · simp at hv
theorem cutB_run {P : Program} {R : AR} {n c' : Nat} (hn : n ≤ c') {lo hi lo' hi' : Option Value} {l g : Nat} (h : cutB n lo hi = some (l, g)) (h1 : lo.isSome = lo'.isSome) (h2 : hi.isSome = hi'.isSome) (k1 : ∀ v v', lo = some v → lo' = some v' → VR R v v') (k2 : ∀ v v', hi = some v → hi' = some v' → VR R v v') (b : Bool) (w : World) :
    l ≤ g ∧ g ≤ n ∧ (Instr.sliceBounds b n c' lo' hi' none).run P w = .ok (l, g, c') w := by
  have hb : ∀ (k : IntKind) (m : Int) (y : Nat) (code : BoundsCode), 0 ≤ m → m ≤ y → (Instr.sliceBound (.int k m) y code).run P w = .ok m.toNat w := by
    intro k m y code h0 h3
    simp [Instr.sliceBound, asIntOf, h0, h3]
  unfold cutB at h
  cases hi with
  | none =>
    cases hi' with
    | some _ => simp at h2
    | none =>
      cases lo with
      | none =>
        cases lo' with
        | some _ => simp at h1
        | none =>
          simp at h
          obtain ⟨rfl, rfl⟩ := h
          exact ⟨Nat.zero_le _, Nat.le_refl _, by simp [Instr.sliceBounds]⟩
      | some v =>
        cases lo' with
        | none => simp at h1
        | some v' =>
          cases ha : asI v with
          | none => simp [ha] at h
          | some m =>
            obtain ⟨rfl, k, rfl⟩ := (k1 v v' rfl rfl).asInt ha
            simp only [ha] at h
            split at h
            · rename_i hc
              simp only [Option.some.injEq, Prod.mk.injEq] at h
              obtain ⟨rfl, rfl⟩ := h
              refine ⟨by omega, by omega, ?_⟩
              simp [Instr.sliceBounds, hb k m n _ hc.1 (by omega)]
            · simp at h
  | some u =>
    cases hi' with
    | none => simp at h2
    | some u' =>
      cases hg : asI u with
      | none => simp [hg] at h
      | some q =>
        obtain ⟨rfl, k2', rfl⟩ := (k2 u u' rfl rfl).asInt hg
        cases lo with
        | none =>
          cases lo' with
          | some _ => simp at h1
          | none =>
            simp only [hg] at h
            split at h
            · rename_i hc
              simp only [Option.some.injEq, Prod.mk.injEq] at h
              obtain ⟨rfl, rfl⟩ := h
              refine ⟨by omega, by omega, ?_⟩
              simp [Instr.sliceBounds, hb k2' q c' _ (by omega) (by omega)]
            · simp at h
        | some v =>
          cases lo' with
          | none => simp at h1
          | some v' =>
            cases ha : asI v with
            | none => simp [hg, ha] at h
            | some m =>
              obtain ⟨rfl, k, rfl⟩ := (k1 v v' rfl rfl).asInt ha
              simp only [hg, ha] at h
              split at h
              · rename_i hc
                simp only [Option.some.injEq, Prod.mk.injEq] at h
                obtain ⟨rfl, rfl⟩ := h
                refine ⟨by omega, by omega, ?_⟩
                simp [Instr.sliceBounds, hb k2' q c' _ (by omega) (by omega), hb k m q.toNat _ hc.1 (by omega)]
              · simp at h
theorem SlR.len {R : AR} {a a' : Addr} {n c c' : Nat} (h : SlR R a n c a' c') (hb : ¬ a.block < R.base) : n ≤ c' := by
  cases h with
  | old _ _ _ h => exact absurd h hb
  | new _ _ _ _ _ _ _ _ _ _ h1 => exact h1
  | dead _ _ _ _ _ _ _ h1 _ => exact h1
  | junk => exact Nat.zero_le _
theorem SlR.addr {R : AR} {a a' : Addr} {n c c' : Nat} (h : SlR R a n c a' c') : AddrR R a a' := by
  cases h with
  | old _ _ _ h => exact .old _ h
  | new b o _ _ cb cs cc _ h hr => exact .new _ _ _ _ _ h hr
  | dead _ _ _ _ _ h hd => exact .dead _ _ h hd
  | junk _ _ _ h hs => exact .junk _ _ h hs
theorem SlR.junk0 {R : AR} {a a' : Addr} {n c c' : Nat} (h : SlR R a n c a' c') (hn : 0 < n) (hd : ¬ R.dead a.block) : ¬ (R.base ≤ a.block ∧ a.spot.isSome = true) := by
  cases h with
  | old _ _ _ h => intro k; omega
  | new b o _ _ cb cs cc _ h hr => intro k; simp at k
  | dead _ _ _ _ _ h hd' => exact absurd hd' hd
  | junk _ _ _ h hs => omega
/-- What a cut of a slice is. -/
theorem cutS_run {P : Program} {R : AR} {base size n c c' l g : Nat} {a a' : Option Addr} (hb : R.base = base) (h : VR R (.slice a n c) (.slice a' n c')) (h1 : l ≤ g) (h2 : g ≤ n) :
    VR R (cutS base size a n c l g) (.slice (if c' = l then a' else a'.map (·.add (l * size))) (g - l) (c' - l)) := by
  unfold cutS
  cases h with
  | nils _ _ => simp; exact .nils _ _
  | sl a a' _ _ _ h =>
    simp only
    by_cases hlt : a.block < base
    · rw [if_pos hlt]
      cases h with
      | old _ _ _ h =>
        have e : (if c = l then some a else Option.map (fun x => x.add (l * size)) (some a)) = some (if c = l then a else a.add (l * size)) := by split <;> rfl
        rw [e]
        refine .sl _ _ _ _ _ (.old _ _ _ ?_)
        split
        · exact h
        · unfold Addr.add
          split <;> exact h
      | new => simp at hlt; omega
      | dead => omega
      | junk => omega
    · rw [if_neg hlt]
      have hl := h.len (by rw [hb]; exact hlt)
      by_cases h0 : l = 0
      · subst h0
        rw [if_pos rfl]
        have e : (if c' = 0 then some a' else Option.map (fun x => x.add (0 * size)) (some a')) = some a' := by
          split
          · rfl
          · simp [Addr.add]
        rw [e, Nat.sub_zero, Nat.sub_zero]
        refine .sl _ _ _ _ _ ?_
        cases h with
        | old _ _ _ h => omega
        | new b o _ _ cb cs cc _ k hr h1' h2' h3' =>
          refine .new _ _ _ _ _ _ _ _ k hr (by omega) (fun e => ?_) (fun e ho => ?_)
          · split at e
            · have := h2' (by omega); omega
            · split at e <;> omega
          · split at e
            · exact h3' (by omega) ho
            · split at e
              · exact h3' (by assumption) ho
              · omega
        | dead _ _ _ _ _ k hd h1' h2' =>
          refine .dead _ _ _ _ _ k hd (by omega) (fun e => ?_)
          split at e
          · have := h2' (by omega); omega
          · split at e <;> omega
        | junk _ _ _ k hs =>
          obtain rfl : g = 0 := by omega
          exact .junk _ _ _ k hs
      · rw [if_neg h0]
        by_cases he : g = l
        · rw [if_pos he]
          subst he
          rw [Nat.sub_self]
          have : ∃ z, (if c' = g then some a' else Option.map (fun x => x.add (g * size)) (some a')) = some z := by split <;> exact ⟨_, rfl⟩
          obtain ⟨z, hz⟩ := this
          rw [hz]
          exact .sl _ _ _ _ _ (.junk _ _ _ (by show R.base ≤ a.block; omega) rfl)
        · rw [if_neg he]
          have e : (if c' = l then some a' else Option.map (fun x => x.add (l * size)) (some a')) = some (a'.add (l * size)) := by
            rw [if_neg (by omega)]
            rfl
          rw [e]
          refine .sl _ _ _ _ _ ?_
          cases h with
          | old _ _ _ h => omega
          | new b o _ _ cb cs cc _ k hr h1' h2' h3' =>
            have : ∃ o', Addr.add ⟨b, o, none⟩ (l * size) = ⟨b, o', none⟩ ∧ Addr.add ⟨cb, o, none⟩ (l * size) = ⟨cb, o', none⟩ := by
              unfold Addr.add
              split
              · exact ⟨o, rfl, rfl⟩
              · exact ⟨_, rfl, rfl⟩
            obtain ⟨o', e1, e2⟩ := this
            rw [e1, e2]
            refine .new _ _ _ _ _ _ _ _ k hr (by omega) (fun e => ?_) (fun e ho => ?_)
            · split at e
              · rename_i hcn
                have := h2' hcn.1
                omega
              · omega
            · split at e <;> omega
          | dead _ _ _ _ _ k hd h1' h2' =>
            refine .dead _ _ _ _ _ ?_ ?_ (by omega) (fun e => ?_)
            · unfold Addr.add; split <;> exact k
            · unfold Addr.add; split <;> exact hd
            · split at e
              · rename_i hcn
                have := h2' hcn.1
                omega
              · omega
          | junk _ _ _ k hs => omega
end Go.Proofs.Ytalhipbbomagoaa.Ab
