/- What ver's reader of all yields, whatever reads one. No statement of the set is proved in this text. -/
import Derived.Test.YtoieblaagkbncaaPvVerG
namespace Go.Proofs.Ytoieblaagkbncaa.PvW
open Go.RowKit Go.Proofs.Ytoieblaagkbncaa.Cd Go.Proofs.Ytoieblaagkbncaa.AbP Go.Proofs.Ytoieblaagkbncaa.Num Go.Proofs.Ytoieblaagkbncaa.Pv
set_option maxRecDepth 100000
set_option maxHeartbeats 4000000
set_option linter.unusedVariables false
set_option linter.unusedSimpArgs false
/-- what is read of one: version, many, first, n -/
structure Hd where
  v : Int
  m : Int
  f : Int
  n : Int
/-- all things, up to the last one -/
def allG {σ τ : Type} (b : List Int) (size : Int) (rd : Int → Hd) (updR : σ → Int → τ) (inn : Nat → Int → τ → σ × Option (Int × Int)) : Nat → Int → σ → σ × Option (Int × Int)
  | 0, a, x => (x, none)
  | k + 1, a, x => if a + size ≤ b.length then (if (rd a).v ≠ 1 ∨ (rd a).m = 0 ∨ (rd a).f < size then (x, some (a, 4)) else match (inn (rd a).m.toNat (a + (rd a).f) (updR x a)).2 with
      | some e => (x, some e)
      | none => if (rd a).n = 0 then ((inn (rd a).m.toNat (a + (rd a).f) (updR x a)).1, none) else if (rd a).n < size then (x, some (a, 4)) else allG b size rd updR inn k (a + (rd a).n) (inn (rd a).m.toNat (a + (rd a).f) (updR x a)).1) else (x, some (pl b a, 2))
section
variable {K : PV → List OB → Prop} {σ τ : Type} {S : σ → List OB} {T : τ → List OB} {b : List Int} {big : Bool} {g1 g2 : FuncId} {c1 c2 : List PV} {rd : Int → Hd} {updR : σ → Int → τ} {inn : Nat → Int → τ → σ × Option (Int × Int)}
theorem vall_spec {size : Int} {x0 : σ} {N : Nat} (hm : b.length ≤ 1000000) (hs : 1 ≤ size ∧ size ≤ 100) (hN : b.length < N)
    (hrd : ∀ a, 0 ≤ (rd a).m ∧ (rd a).m ≤ 65535 ∧ 0 ≤ (rd a).v ∧ (rd a).v ≤ 65535 ∧ 0 ≤ (rd a).f ∧ (rd a).f ≤ 4294967295 ∧ 0 ≤ (rd a).n ∧ (rd a).n ≤ 4294967295)
    (L : σ → Nat) (hL0 : L x0 = 0) (hL : ∀ x a m p, L (inn m p (updR x a)).1 ≤ L x + 1) (hread : ∀ x a (K : PV → List OB → Prop), L x ≤ 1000000 → 0 ≤ a → a + size ≤ b.length → K (.tup [.int .u64 (rd a).v, .int .i64 (rd a).m, .int .u64 (rd a).f, .int .u64 (rd a).n]) (rv b (a + size) big :: T (updR x a)) → PCalls Try.prog g1 c1 (rv b a big :: S x) K)
    (hinn : ∀ x a (m : Nat) p (K : PV → List OB → Prop), L x ≤ 1000000 → 1 ≤ m → m ≤ 65535 → 0 ≤ p → p ≤ 10000000000 → ((inn m p (updR x a)).2 = none → ∀ a', K .nilI (rv b a' big :: S (inn m p (updR x a)).1)) → (∀ q c, (inn m p (updR x a)).2 = some (q, c) → ∀ s', K (eSpot q c) s') → PCalls Try.prog g2 (.int .i64 (m : Int) :: c2) (rv b p big :: T (updR x a)) K)
    (hk1 : (allG b size rd updR inn N 0 x0).2 = none → ∀ a', K .nilI (rv b a' big :: S (allG b size rd updR inn N 0 x0).1))
    (hk2 : ∀ p c, (allG b size rd updR inn N 0 x0).2 = some (p, c) → ∀ s', K (eSpot p c) s') :
    PCalls Try.prog 35 [.ptr 0 0, .int .u64 size, .fn g1 [] c1, .fn g2 [] c2] (rv b 0 big :: S x0) K := by
  refine told_call ver_reader_all.told fun Z hZ => ?_
  unfold ver_reader_all.c
  refine W1 trivial trivial trivial ?_
  generalize hG : allG b size rd updR inn N 0 x0 = G at *
  refine w_jmpE (fun q e s => ∃ (a : Int) (x : σ), 0 ≤ a ∧ a ≤ 10000000000 ∧ (b.length : Int) - a < q ∧ 0 < q ∧ allG b size rd updR inn q a x = G ∧ (L x : Int) ≤ a ∧ s = rv b a big :: S x ∧ e 0 = .ptr 0 0 ∧ e 1 = .int .u64 size ∧ e 2 = .fn g1 [] c1 ∧ e 3 = .fn g2 [] c2) N ?_ ?_
  · exact ⟨0, x0, by decide, by decide, by omega, by omega, hG, by rw [hL0]; decide, rfl, by exact lk trivial, by exact lk trivial, by exact lk trivial, by exact lk trivial⟩
  rintro q e s ⟨a, x, ha0, ha1, hq, hq0, hg, hLx, rfl, e0, e1, e2, e3⟩
  obtain ⟨k, rfl⟩ : ∃ k, q = k + 1 := ⟨q - 1, by omega⟩
  have hpa : a + size ≤ (b.length : Int) → pl b a = a := fun h => by unfold pl; rw [if_neg (by omega)]
  obtain ⟨m0, m1, v0, v1, f0, f1, n0, n1⟩ := hrd a
  unfold allG at hg
  have hr := hread x a
  generalize rd a = r at *
  obtain ⟨rv', rm, rf, rn⟩ := r
  simp only at m0 m1 v0 v1 f0 f1 n0 n1 hr hg
  by_cases h1 : a + size ≤ (b.length : Int)
  rotate_left
  · rw [if_neg h1] at hg
    have := hk2 _ _ (by rw [← hg])
    refine W1 (And.intro @e0 (And.intro @e1 (And.intro @e2 @e3))) (And.intro @DD @h1) (And.intro (@caS [0]) (And.intro @vhas_spec @vspot_spec)) ?_
    exact ⟨_, rfl, this _⟩
  rw [if_pos h1] at hg
  have hpl := hpa h1
  refine W1 (And.intro @e0 (And.intro @e1 (And.intro @e2 @e3))) (And.intro @DD @h1) (And.intro (@caS [0]) (And.intro @vhas_spec @vspot_spec)) ?_
  refine cf_F ⟨rfl⟩ (hr _ (by omega) ha0 h1 ?_)
  by_cases h2 : rv' ≠ 1 ∨ rm = 0 ∨ rf < size
  · rw [if_pos h2] at hg
    have := hk2 _ _ (by rw [← hg])
    rw [← hpl] at this
    by_cases h3 : rv' = 1
    rotate_left
    · refine W1 (And.intro @e0 (And.intro @e1 (And.intro @e2 @e3))) (And.intro @DD @h3) (And.intro (@caS [0]) (And.intro @vhas_spec @vspot_spec)) ?_
      exact ⟨_, rfl, this _⟩
    by_cases h4 : rm = 0
    · refine W1 (And.intro @e0 (And.intro @e1 (And.intro @e2 @e3))) (And.intro @DD (And.intro @h3 @h4)) (And.intro (@caS [0]) (And.intro @vhas_spec @vspot_spec)) ?_
      exact ⟨_, rfl, this _⟩
    have h5 : rf < size := by omega
    refine W1 (And.intro @e0 (And.intro @e1 (And.intro @e2 @e3))) (And.intro @DD (And.intro @h3 @h4)) (And.intro (@caS [0]) (And.intro @vhas_spec @vspot_spec)) ?_
    exact ⟨_, rfl, this _⟩
  rw [if_neg h2] at hg
  have h3 : rv' = 1 := by omega
  have h4 : ¬ rm = 0 := by omega
  have h5 : ¬ rf < size := by omega
  refine W1 (And.intro @e0 (And.intro @e1 (And.intro @e2 @e3))) (And.intro @DD (And.intro @h3 @h4)) (And.intro (@caS [0]) (And.intro @vhas_spec @vspot_spec)) ?_
  have hmn : ((rm.toNat : Nat) : Int) = rm := by omega
  have hi := fun K => hinn x a rm.toNat (a + rf) K (by omega) (by omega) (by omega) (by omega) (by omega)
  rw [hmn] at hi
  refine cf_F ⟨rfl⟩ (hi _ (fun hok a' => ?_) (fun p c hno s' => ?_))
  rotate_left
  · rw [hno] at hg
    have := hk2 _ _ (by rw [← hg])
    refine W1 (And.intro @e0 (And.intro @e1 (And.intro @e2 @e3))) @DD trivial ?_
    exact ⟨_, rfl, this _⟩
  rw [hok] at hg
  simp only at hg
  by_cases h6 : rn = 0
  · rw [if_pos h6] at hg
    have := hk1 (by rw [← hg])
    rw [← hg] at this
    refine W1 (And.intro @e0 (And.intro @e1 (And.intro @e2 @e3))) (And.intro @DD @h6) trivial ?_
    exact ⟨_, rfl, this _⟩
  rw [if_neg h6] at hg
  by_cases h7 : rn < size
  · rw [if_pos h7] at hg
    have := hk2 _ _ (by rw [← hg])
    rw [← hpl] at this
    refine W1 (And.intro @e0 (And.intro @e1 (And.intro @e2 @e3))) (And.intro @DD @h6) (And.intro (@caS [0]) @vspot_spec) ?_
    exact ⟨_, rfl, this _⟩
  rw [if_neg h7] at hg
  refine W1 (And.intro @e0 (And.intro @e1 (And.intro @e2 @e3))) (And.intro @DD @h6) (And.intro (@caS [0]) @vspot_spec) ?_
  exact ⟨k, by omega, _, _, Gh.refl _ _, a + rn, _, by omega, by omega, by omega, by omega, hg, by have := hL x a rm.toNat (a + rf); omega, rfl, by exact lk @e0, by exact lk @e1, by exact lk @e2, by exact lk @e3⟩
end
end Go.Proofs.Ytoieblaagkbncaa.PvW
