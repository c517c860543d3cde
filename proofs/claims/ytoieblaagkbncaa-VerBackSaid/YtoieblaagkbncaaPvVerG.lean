/- What ver's readers of many things yield, whatever reads one. No statement of the set is proved in this text. -/
import Derived.Test.YtoieblaagkbncaaPvVerF
namespace Go.Proofs.Ytoieblaagkbncaa.PvW
open Go.RowKit Go.Proofs.Ytoieblaagkbncaa.Cd Go.Proofs.Ytoieblaagkbncaa.AbP Go.Proofs.Ytoieblaagkbncaa.Num Go.Proofs.Ytoieblaagkbncaa.Pv
set_option maxRecDepth 100000
set_option maxHeartbeats 4000000
set_option linter.unusedVariables false
set_option linter.unusedSimpArgs false
/-- many things, one behind the other; 'val': how far the next one is; 'upd': what is told then -/
def chainG {σ : Type} (b : List Int) (size : Int) (val : Int → Int) (upd : σ → Int → σ) : Nat → Int → σ → σ × Option (Int × Int)
  | 0, a, x => (x, none)
  | k + 1, a, x => if a + size ≤ b.length then (if (0 < k ∧ val a < size) ∨ (k = 0 ∧ val a ≠ 0) then (upd x a, some (a, 4)) else if k = 0 then (upd x a, none) else chainG b size val upd k (a + val a) (upd x a)) else (x, some (pl b a, 2))
theorem w_jmpS {P : Program} {Z : Bs} {Q : QP} {e : Env} {s : List OB} {l : Nat} {r b : Ab.AC} (I : Nat → Env → List OB → Prop) (n0 : Nat) (h0 : pwp P Z r (thenP (fun e s => I n0 e s) (fun _ _ _ => False)) e s)
    (hr : ∀ n e s, I n e s → pwp P Z b (goKP l (fun e s => ∃ m, m < n ∧ ∃ e' s', Gh Z e s e' s' ∧ I m e' s') Q) e s) : pwp P Z (.jmp l (.seq r b) b) Q e s :=
  w_jmp I n0 (w_sq (pwp_mono (fun x e s h => by
    cases x with
    | normal => exact hr n0 e s h
    | _ => exact h.elim) h0)) hr
theorem w_jmpE {P : Program} {Z : Bs} {Q : QP} {e : Env} {s : List OB} {l : Nat} {b : Ab.AC} (I : Nat → Env → List OB → Prop) (n0 : Nat) (h0 : I n0 e s)
    (hr : ∀ n e s, I n e s → pwp P Z b (goKP l (fun e s => ∃ m, m < n ∧ ∃ e' s', Gh Z e s e' s' ∧ I m e' s') Q) e s) : pwp P Z (.jmp l b b) Q e s :=
  w_jmp I n0 (hr n0 e s h0) hr
section
variable {K : PV → List OB → Prop} {σ τ : Type} {S : σ → List OB} {T : τ → List OB} {b : List Int} {big : Bool} {g : FuncId} {ca : List PV} {val : Int → Int} {upd : σ → Int → σ}
theorem vchain_spec {many : Nat} {size a0 : Int} {x0 : σ} (hm : b.length ≤ 1000000) (hs : 1 ≤ size ∧ size ≤ 100) (hn : 1 ≤ many ∧ many ≤ 65535) (ha : 0 ≤ a0 ∧ a0 ≤ 10000000000) (hval : ∀ a, 0 ≤ val a ∧ val a ≤ 4294967295)
    (L : σ → Nat) (hL0 : L x0 = 0) (hL : ∀ x a, L (upd x a) ≤ L x + 1) (hread : ∀ x a (K : PV → List OB → Prop), L x ≤ 65535 → 0 ≤ a → a + size ≤ b.length → K (.int .u64 (val a)) (rv b (a + size) big :: S (upd x a)) → PCalls Try.prog g ca (rv b a big :: S x) K)
    (hk1 : (chainG b size val upd many a0 x0).2 = none → ∀ a', K .nilI (rv b a' big :: S (chainG b size val upd many a0 x0).1))
    (hk2 : ∀ p c, (chainG b size val upd many a0 x0).2 = some (p, c) → ∀ s', K (eSpot p c) s') :
    PCalls Try.prog 33 [.ptr 0 0, .int .i64 many, .int .u64 size, .fn g [] ca] (rv b a0 big :: S x0) K := by
  refine told_call ver_reader_chain.told fun Z hZ => ?_
  unfold ver_reader_chain.c
  refine W1 trivial trivial trivial ?_
  generalize hG : chainG b size val upd many a0 x0 = G at *
  refine w_jmpS (fun q e s => ∃ (k : Nat) (a : Int) (x : σ), q = k + 1 ∧ k + 1 ≤ many ∧ 0 ≤ a ∧ a ≤ 10000000000 ∧ chainG b size val upd (k + 1) a x = G ∧ L x + (k + 1) ≤ many ∧ s = rv b a big :: S x ∧ e 0 = .ptr 0 0 ∧ e 1 = .int .i64 many ∧ e 2 = .int .u64 size ∧ e 3 = .fn g [] ca ∧ e 9 = .int .i64 ((many : Int) - ((k : Int) + 1))) many ?_ ?_
  · refine W1 trivial trivial trivial ?_
    obtain ⟨k, rfl⟩ : ∃ k, many = k + 1 := ⟨many - 1, by omega⟩
    exact ⟨k, a0, x0, rfl, Nat.le_refl _, ha.1, ha.2, hG, by omega, rfl, by exact lk trivial, by exact lk trivial, by exact lk trivial, by exact lk trivial, by rw [show (((k + 1 : Nat) : Int) - ((k : Int) + 1)) = 0 by push_cast; omega]; exact lk trivial⟩
  rintro q e s ⟨k, a, x, rfl, hkm, ha0, ha1, hg, hLx, rfl, e0, e1, e2, e3, e9⟩
  have hpa : a + size ≤ (b.length : Int) → pl b a = a := fun h => by unfold pl; rw [if_neg (by omega)]
  obtain ⟨w0, w1⟩ := hval a
  have hC : chainG b size val upd (k + 1) a x = if a + size ≤ b.length then (if (0 < k ∧ val a < size) ∨ (k = 0 ∧ val a ≠ 0) then (upd x a, some (a, 4)) else if k = 0 then (upd x a, none) else chainG b size val upd k (a + val a) (upd x a)) else (x, some (pl b a, 2)) := rfl
  rw [hC] at hg
  by_cases h1 : a + size ≤ (b.length : Int)
  rotate_left
  · rw [if_neg h1] at hg
    have := hk2 _ _ (by rw [← hg])
    refine W1 (And.intro @e0 (And.intro @e1 (And.intro @e2 (And.intro @e3 @e9)))) (And.intro @DD @h1) (And.intro (@caS [0]) (And.intro @vhas_spec @vspot_spec)) ?_
    exact ⟨_, rfl, this _⟩
  rw [if_pos h1] at hg
  refine W1 (And.intro @e0 (And.intro @e1 (And.intro @e2 (And.intro @e3 @e9)))) (And.intro @DD @h1) (And.intro (@caS [0]) (And.intro @vhas_spec @vspot_spec)) ?_
  refine cf_F ⟨rfl⟩ (hread x a _ (by omega) (by omega) h1 ?_)
  by_cases h2 : (0 < k ∧ val a < size) ∨ (k = 0 ∧ val a ≠ 0)
  · rw [if_pos h2] at hg
    have := hk2 _ _ (by rw [← hg])
    have hpl := hpa h1
    by_cases h3 : 0 < k
    · have h4 : val a < size := by omega
      refine W1 (And.intro @e0 (And.intro @e1 (And.intro @e2 (And.intro @e3 @e9)))) (And.intro @DD @hpl) (And.intro (@caS [0]) (And.intro @vhas_spec @vspot_spec)) ?_
      rw [hpl]
      exact ⟨_, rfl, this _⟩
    · have h4 : val a ≠ 0 := by omega
      refine W1 (And.intro @e0 (And.intro @e1 (And.intro @e2 (And.intro @e3 @e9)))) (And.intro @DD (And.intro @hpl @h4)) (And.intro (@caS [0]) (And.intro @vhas_spec @vspot_spec)) ?_
      rw [hpl]
      exact ⟨_, rfl, this _⟩
  rw [if_neg h2] at hg
  by_cases h3 : k = 0
  · rw [if_pos h3] at hg
    have := hk1 (by rw [← hg])
    rw [← hg] at this
    have h4 : val a = 0 := by omega
    refine W1 (And.intro @e0 (And.intro @e1 (And.intro @e2 (And.intro @e3 @e9)))) (And.intro @DD @h4) (And.intro (@caS [0]) (And.intro @vhas_spec @vspot_spec)) ?_
    exact ⟨_, rfl, this _⟩
  rw [if_neg h3] at hg
  have h4 : ¬ val a < size := by omega
  refine W1 (And.intro @e0 (And.intro @e1 (And.intro @e2 (And.intro @e3 @e9)))) @DD (And.intro (@caS [0]) (And.intro @vhas_spec @vspot_spec)) ?_
  obtain ⟨j, rfl⟩ : ∃ j, k = j + 1 := ⟨k - 1, by omega⟩
  exact ⟨j + 1, by omega, _, _, Gh.refl _ _, j, a + val a, upd x a, rfl, by omega, by omega, by omega, hg, by have := hL x a; omega, rfl, by exact lk @e0, by exact lk @e1, by exact lk @e2, by exact lk @e3, by rw [show (many : Int) - ((j : Int) + 1) = (many : Int) - (((j + 1 : Nat) : Int) + 1) + 1 by push_cast; omega]; exact lk trivial⟩
end
end Go.Proofs.Ytoieblaagkbncaa.PvW
