/- What the document's answer for needs of bytes yields. No statement of the set is proved in this text. -/
import Derived.Test.YtoieblaagkbncaaPvVerN
import Derived.Test.YtoieblaagkbncaaPvVerP
namespace Go.Proofs.Ytoieblaagkbncaa.PvW
open Go.RowKit Go.Proofs.Ytoieblaagkbncaa.Cd Go.Proofs.Ytoieblaagkbncaa.AbP Go.Proofs.Ytoieblaagkbncaa.Num Go.Proofs.Ytoieblaagkbncaa.Pv
set_option maxRecDepth 100000
set_option maxHeartbeats 4000000
set_option linter.unusedVariables false
set_option linter.unusedSimpArgs false
section
variable {K : PV → List OB → Prop} {b : List Int} {big : Bool}
theorem rneeds_spec {N : Nat} (hB : Am (B b)) (hm : Om (b.length ≤ 100000)) (hNb : Om (b.length < N))
    (hk0 : b.length = 0 → K (.tup [.sl dNeed [], .int .i64 0, .int .i64 0]) [])
    (hk1 : b.length ≠ 0 → (allG b 16 (rdN b big) (updRN b big) (innN b big) N 0 []).2 = none → K (.tup [.sl dNeed (allG b 16 (rdN b big) (updRN b big) (innN b big) N 0 []).1, .int .i64 0, .int .i64 0]) [])
    (hk2 : b.length ≠ 0 → ∀ p c, (allG b 16 (rdN b big) (updRN b big) (innN b big) N 0 []).2 = some (p, c) → K (.tup [.nilS, .int .i64 c, .int .i64 p]) []) :
    PCalls Try.prog 18 [.sl (.int .u8) b, .bool big] [] K := by
  have hB := hB.o
  have hm := hm.o
  have hNb := hNb.o
  refine told_callP bezantref12_Needs.told fun Z hZ => ?_
  unfold bezantref12_Needs.c
  refine W1 trivial trivial (@xVirt 7 dNeed) ?_
  by_cases h0 : b.length = 0
  · refine w_lpG (fun q e s => s = [.arr dNeed []] ∧ e 0 = .sl (.int .u8) b ∧ e 7 = .osl 0 0) 0 ?_ ?_
    · exact ⟨rfl, by exact lk trivial, by exact lk trivial⟩
    rintro q e s ⟨rfl, e0, e7⟩
    refine Wn1 (And.intro @e0 @e7) @DD trivial ?_
    apply x_frz 4; (repeat any_goals first | exact mp_z | apply mp_s | exact rs_z | apply rs_t | apply rs_n | apply rs_c); (repeat any_goals first | (apply Lk.i; (simp only [↓LL, ↓reduceIte, Nat.reduceEqDiff]; (try rfl); done)) | (apply Rf.i; first | rfl | assumption) | (apply Vl.i; ((try simp (disch := omega) only [VV, ↓reduceIte, peqI, encP]); (try rfl); done)) | (apply Am.i; assumption) | (apply Pu.i; ((try simp only [↓reduceIte, UU, RR, Nat.reduceAdd, Nat.reduceEqDiff, cellsP, putP, fillQ, flatQ, shP, sh1, encP]); (try rfl); done)) | (apply Om.i; ((try simp only [MM]); (try omega); done)) | (apply Vw.i; first | exact As.sl _ _ | exact As.nil _ | exact As.arr _ _ _ _ rfl (by ((try simp only [MM]); (try omega); done)) | exact As.row _ _ _ _ _ rfl rfl | exact Src.str _ | exact Src.as (As.sl _ _) | exact Src.as (As.nil _) | exact Src.as (As.arr _ _ _ _ rfl (by ((try simp only [MM]); (try omega); done))) | exact Src.as (As.row _ _ _ _ _ rfl rfl))); (all_goals fail_if_success apply Mk.i)
    refine W1 trivial trivial trivial ?_
    exact hk0 h0
  replace hk1 := hk1 h0
  replace hk2 := hk2 h0
  generalize hG : allG b 16 (rdN b big) (updRN b big) (innN b big) N 0 [] = G at *
  refine w_lpG (fun q e s => ∃ (a : Int) (acc : List dNeed.T), 0 ≤ a ∧ a ≤ 10000000000 ∧ (b.length : Int) - a < q ∧ 0 < q ∧ allG b 16 (rdN b big) (updRN b big) (innN b big) q a acc = G ∧ (acc.length : Int) ≤ a ∧ s = [.arr dNeed acc] ∧ e 0 = .sl (.int .u8) b ∧ e 1 = .bool big ∧ e 7 = .osl 0 acc.length ∧ e 8 = .int .u64 a) N ?_ ?_
  · exact ⟨0, [], by decide, by decide, by omega, by omega, hG, by decide, rfl, by exact lk trivial, by exact lk trivial, by exact lk trivial, by exact lk trivial⟩
  rintro q e s ⟨a, acc, ha0, ha1, hq, hq0, hg, hLx, rfl, e0, e1, e7, e8⟩
  obtain ⟨k, rfl⟩ : ∃ k, q = k + 1 := ⟨q - 1, by omega⟩
  have hpa : ∀ {a : Int}, a ≤ (b.length : Int) → pl b a = a := fun h => by unfold pl; rw [if_neg (by omega)]
  unfold allG at hg
  obtain ⟨v0, v1⟩ := range2 hB a big
  obtain ⟨m0, m1⟩ := range2 hB (a + 2) big
  obtain ⟨hh0, hh1⟩ := range4 hB (a + 2 + 2) big
  obtain ⟨f0, f1⟩ := range4 hB (a + 2 + 2 + 4) big
  obtain ⟨n0, n1⟩ := range4 hB (a + 2 + 2 + 4 + 4) big
  have hvl : (gets b big a [2, 2, 4, 4, 4]) = [gt b big a 2, gt b big (a + 2) 2, gt b big (a + 2 + 2) 4, gt b big (a + 2 + 2 + 4) 4, gt b big (a + 2 + 2 + 4 + 4) 4] := rfl
  have hrd : rdN b big a = ⟨gt b big a 2, gt b big (a + 2) 2, gt b big (a + 2 + 2 + 4) 4, gt b big (a + 2 + 2 + 4 + 4) 4⟩ := rfl
  have hup : updRN b big acc a = (acc, gt b big (a + 2 + 2) 4) := rfl
  rw [hrd, hup] at hg
  simp only at hg
  unfold gt at *
  generalize (getSpec b a 2 big).1 = rv' at *
  generalize (getSpec b (a + 2) 2 big).1 = rm at *
  generalize (getSpec b (a + 2 + 2) 4 big).1 = fi at *
  generalize (getSpec b (a + 2 + 2 + 4) 4 big).1 = rf at *
  generalize (getSpec b (a + 2 + 2 + 4 + 4) 4 big).1 = rn at *
  refine W1 (And.intro @e0 (And.intro @e1 (And.intro @e7 @e8))) @DD trivial ?_
  by_cases h1 : a + 16 ≤ (b.length : Int)
  rotate_left
  · rw [if_neg h1] at hg
    have := hk2 _ _ (by rw [← hg])
    have hR := numsAt_no (b := b) (big := big) (ns := [2, 2, 4, 4, 4]) (a := a) (acc := []) (by decide) (by decide) (by show ¬ a + (2 + (2 + (4 + (4 + (4 + 0))))) ≤ b.length; omega)
    refine nums_spec ⟨hB⟩ ⟨by omega⟩ ⟨by decide⟩ ⟨by omega⟩ (fun no => absurd no (by rw [hR]; simp)) (fun _ => ?_)
    refine W1 (And.intro @e0 (And.intro @e1 (And.intro @e7 @e8))) @DD @rplace_spec ?_
    exact this
  rw [if_pos h1] at hg
  have hpl := hpa (show a ≤ (b.length : Int) by omega)
  have hNA := numsAt_ok (b := b) (big := big) (ns := [2, 2, 4, 4, 4]) (a := a) (acc := []) (by decide) (by show a + (2 + (2 + (4 + (4 + (4 + 0))))) ≤ b.length; omega)
  refine nums_spec ⟨hB⟩ ⟨by omega⟩ ⟨by decide⟩ ⟨by omega⟩ (fun _ => ?_) (fun no => absurd no (by rw [hNA]; simp))
  rw [hNA, List.nil_append, hvl]
  by_cases h2 : rv' ≠ 1 ∨ rm = 0 ∨ rf < 16
  · rw [if_pos h2] at hg
    have := hk2 _ _ (by rw [← hg])
    rw [← hpl] at this
    by_cases h3 : rv' = 1
    rotate_left
    · refine Wp1 (And.intro @e0 (And.intro @e1 (And.intro @e7 @e8))) (And.intro @DD @h3) (And.intro (@oFrz 9) @rplace_spec) ?_
      exact this
    by_cases h4 : rm = 0
    · refine Wp1 (And.intro @e0 (And.intro @e1 (And.intro @e7 @e8))) (And.intro @DD (And.intro @h3 @h4)) (And.intro (@oFrz 9) @rplace_spec) ?_
      exact this
    have h5 : rf < 16 := by omega
    refine Wp1 (And.intro @e0 (And.intro @e1 (And.intro @e7 @e8))) (And.intro @DD (And.intro @h3 @h4)) (And.intro (@oFrz 9) @rplace_spec) ?_
    exact this
  rw [if_neg h2] at hg
  have h3 : rv' = 1 := by omega
  have h4 : ¬ rm = 0 := by omega
  have h5 : ¬ rf < 16 := by omega
  refine Wp1 (And.intro @e0 (And.intro @e1 (And.intro @e7 @e8))) (And.intro @DD (And.intro @h3 @h4)) (And.intro (@oFrz 9) @trivial) ?_
  apply x_virtV 3 1 dAux; (repeat any_goals first | exact mp_z | apply mp_s | exact rs_z | apply rs_t | apply rs_n | apply rs_c); (repeat any_goals first | (apply Lk.i; (simp only [↓LL, ↓reduceIte, Nat.reduceEqDiff]; (try rfl); done)) | (apply Rf.i; first | rfl | assumption) | (apply Vl.i; ((try simp (disch := omega) only [VV, ↓reduceIte, peqI, encP]); (try rfl); done)) | (apply Am.i; assumption) | (apply Pu.i; ((try simp only [↓reduceIte, UU, RR, Nat.reduceAdd, Nat.reduceEqDiff, cellsP, putP, fillQ, flatQ, shP, sh1, encP]); (try rfl); done)) | (apply Om.i; ((try simp only [MM]); (try omega); done)) | (apply Vw.i; first | exact As.sl _ _ | exact As.nil _ | exact As.arr _ _ _ _ rfl (by ((try simp only [MM]); (try omega); done)) | exact As.row _ _ _ _ _ rfl rfl | exact Src.str _ | exact Src.as (As.sl _ _) | exact Src.as (As.nil _) | exact Src.as (As.arr _ _ _ _ rfl (by ((try simp only [MM]); (try omega); done))) | exact Src.as (As.row _ _ _ _ _ rfl rfl))); (all_goals fail_if_success apply Mk.i)
  refine ghW (Gh.sel [0, 3, 4] (by decide) (hz0 hZ)) ?_
  have hI2 : (innN b big rm.toNat (a + rf) (acc, fi)).2 = (auxsG b big rm.toNat (a + rf)).2 := rfl
  have hI1 : (innN b big rm.toNat (a + rf) (acc, fi)).1 = acc ++ [((fi, (auxsG b big rm.toNat (a + rf)).1, ()) : dNeed.T)] := rfl
  rw [hI2, hI1] at hg
  have hkE : ∀ p c, (auxsG b big rm.toNat (a + rf)).2 = some (p, c) → K (.tup [.nilS, .int .i64 c, .int .i64 p]) [] := fun p c h => by
    rw [h] at hg
    exact hk2 _ _ (by rw [← hg])
  have hM : ((rm.toNat : Nat) : Int) = rm := by omega
  have hM1 : 1 ≤ rm.toNat ∧ rm.toNat ≤ 65535 := by omega
  have hCG : chainG b 16 (valN b big) (updN b big) rm.toNat (a + rf) [] = auxsG b big rm.toNat (a + rf) := rfl
  generalize auxsG b big rm.toNat (a + rf) = CG at *
  have hrm3 : ([rv', rm, fi, rf, rn] : List Int).getD 1 0 = rm := rfl
  generalize hM2 : rm.toNat = M at *
  refine w_lpG (fun q e s => ∃ (k : Nat) (p : Int) (na : List dAux.T), q + k = M ∧ 0 ≤ p ∧ p ≤ 10000000000 ∧ na.length = k ∧ ((k < M ∧ chainG b 16 (valN b big) (updN b big) (M - k) p na = CG) ∨ (k = M ∧ CG = (na, none))) ∧ s = [.arr dNeed acc, .var [.int .u32 fi, .osl 2 na.length], .arr dAux na] ∧ e 0 = .sl (.int .u8) b ∧ e 1 = .bool big ∧ e 7 = .osl 0 acc.length ∧ e 8 = .int .u64 a ∧ e 9 = .sl (.int .u64) [rv', rm, fi, rf, rn] ∧ e 11 = .ptr 1 0 ∧ e 12 = .int .u64 p ∧ e 13 = .int .i64 k) M ?_ ?_
  · exact ⟨0, a + rf, [], rfl, by omega, by omega, rfl, .inl ⟨by omega, hCG⟩, rfl, by exact lk @e0, by exact lk @e1, by exact lk @e7, by exact lk @e8, by exact lk trivial, by exact lk trivial, by exact lk trivial, by exact lk trivial⟩
  rintro q2 e s ⟨k2, p, na, hk, hp0, hp1, hnl, hor, rfl, e0, e1, e7, e8, e9, e11, e12, e13⟩
  by_cases hkM : k2 < M
  · rcases hor with ⟨-, hch⟩ | ⟨h, -⟩
    rotate_left
    · omega
    obtain ⟨j, hj⟩ : ∃ j, M - k2 = j + 1 := ⟨M - k2 - 1, by omega⟩
    rw [hj] at hch
    have hC : chainG b 16 (valN b big) (updN b big) (j + 1) p na = if p + 16 ≤ b.length then (if (0 < j ∧ valN b big p < 16) ∨ (j = 0 ∧ valN b big p ≠ 0) then (updN b big na p, some (p, 4)) else if j = 0 then (updN b big na p, none) else chainG b 16 (valN b big) (updN b big) j (p + valN b big p) (updN b big na p)) else (na, some (pl b p, 2)) := rfl
    rw [hC] at hch
    have hvl2 : gets b big p [4, 2, 2, 4, 4] = [gt b big p 4, gt b big (p + 4) 2, gt b big (p + 4 + 2) 2, gt b big (p + 4 + 2 + 2) 4, gt b big (p + 4 + 2 + 2 + 4) 4] := rfl
    obtain ⟨x0, x1⟩ := range4 hB p big
    obtain ⟨y0, y1⟩ := range2 hB (p + 4) big
    obtain ⟨z0, z1⟩ := range2 hB (p + 4 + 2) big
    obtain ⟨u0, u1⟩ := range4 hB (p + 4 + 2 + 2) big
    obtain ⟨w0, w1⟩ := range4 hB (p + 4 + 2 + 2 + 4) big
    have hup2 : updN b big na p = na ++ [((gt b big p 4, gt b big (p + 4) 2, gt b big (p + 4 + 2) 2, gt b big (p + 4 + 2 + 2) 4, ()) : dAux.T)] := rfl
    rw [hup2] at hch
    unfold valN at hch
    unfold gt at *
    generalize (getSpec b p 4 big).1 = x at *
    generalize (getSpec b (p + 4) 2 big).1 = y at *
    generalize (getSpec b (p + 4 + 2) 2 big).1 = z at *
    generalize (getSpec b (p + 4 + 2 + 2) 4 big).1 = u at *
    generalize (getSpec b (p + 4 + 2 + 2 + 4) 4 big).1 = w at *
    refine W1 (And.intro @e0 (And.intro @e1 (And.intro @e7 (And.intro @e8 (And.intro @e9 (And.intro @e11 (And.intro @e12 @e13))))))) (And.intro @DD @hrm3) trivial ?_
    by_cases g1 : p + 16 ≤ (b.length : Int)
    rotate_left
    · rw [if_neg g1] at hch
      have := hkE _ _ (by rw [← hch])
      have hR := numsAt_no (b := b) (big := big) (ns := [4, 2, 2, 4, 4]) (a := p) (acc := []) (by decide) (by decide) (by show ¬ p + (4 + (2 + (2 + (4 + (4 + 0))))) ≤ b.length; omega)
      refine nums_spec ⟨hB⟩ ⟨by omega⟩ ⟨by decide⟩ ⟨by omega⟩ (fun no => absurd no (by rw [hR]; simp)) (fun _ => ?_)
      refine W1 (And.intro @e0 (And.intro @e1 (And.intro @e7 (And.intro @e8 (And.intro @e9 (And.intro @e11 (And.intro @e12 @e13))))))) @DD @rplace_spec ?_
      exact this
    rw [if_pos g1] at hch
    have hplp := hpa (show p ≤ (b.length : Int) by omega)
    have hNA2 := numsAt_ok (b := b) (big := big) (ns := [4, 2, 2, 4, 4]) (a := p) (acc := []) (by decide) (by show p + (4 + (2 + (2 + (4 + (4 + 0))))) ≤ b.length; omega)
    refine nums_spec ⟨hB⟩ ⟨by omega⟩ ⟨by decide⟩ ⟨by omega⟩ (fun _ => ?_) (fun no => absurd no (by rw [hNA2]; simp))
    rw [hNA2, List.nil_append, hvl2]
    by_cases g2 : (0 < j ∧ w < 16) ∨ (j = 0 ∧ w ≠ 0)
    · rw [if_pos g2] at hch
      have := hkE _ _ (by rw [← hch])
      rw [← hplp] at this
      by_cases g3 : 0 < j
      · have g4 : w < 16 := by omega
        refine Wp1 (And.intro @e0 (And.intro @e1 (And.intro @e7 (And.intro @e8 (And.intro @e9 (And.intro @e11 (And.intro @e12 @e13))))))) (And.intro @DD @hrm3) (And.intro (@oFrz 14) @rplace_spec) ?_
        exact this
      · have g4 : ¬ w = 0 := by omega
        refine Wp1 (And.intro @e0 (And.intro @e1 (And.intro @e7 (And.intro @e8 (And.intro @e9 (And.intro @e11 (And.intro @e12 @e13))))))) (And.intro @DD (And.intro @hrm3 @g4)) (And.intro (@oFrz 14) @rplace_spec) ?_
        exact this
    rw [if_neg g2] at hch
    by_cases g3 : j = 0
    · rw [if_pos g3] at hch
      have g4 : w = 0 := by omega
      refine Wp1 (And.intro @e0 (And.intro @e1 (And.intro @e7 (And.intro @e8 (And.intro @e9 (And.intro @e11 (And.intro @e12 @e13))))))) (And.intro @DD (And.intro @hrm3 @g4)) (And.intro (@oFrz 14) @rplace_spec) ?_
      exact ⟨q2 - 1, by omega, _, _, Gh.sel [0, 1, 2] (by decide) (hz0 hZ), k2 + 1, p + 0, na ++ [((x, y, z, u, ()) : dAux.T)], by omega, by omega, by omega, by rw [List.length_append, hnl]; rfl, .inr ⟨by omega, hch.symm⟩, by rw [List.length_append]; rfl, by exact lk @e0, by exact lk @e1, by exact lk @e7, by exact lk @e8, by exact lk @e9, by exact lk @e11, by exact lk trivial, by exact lk trivial⟩
    · rw [if_neg g3] at hch
      have g4 : ¬ w < 16 := by omega
      refine Wp1 (And.intro @e0 (And.intro @e1 (And.intro @e7 (And.intro @e8 (And.intro @e9 (And.intro @e11 (And.intro @e12 @e13))))))) (And.intro @DD @hrm3) (And.intro (@oFrz 14) @rplace_spec) ?_
      exact ⟨q2 - 1, by omega, _, _, Gh.sel [0, 1, 2] (by decide) (hz0 hZ), k2 + 1, p + w, na ++ [((x, y, z, u, ()) : dAux.T)], by omega, by omega, by omega, by rw [List.length_append, hnl]; rfl, .inl ⟨by omega, by rw [show M - (k2 + 1) = j by omega]; exact hch⟩, by rw [List.length_append]; rfl, by exact lk @e0, by exact lk @e1, by exact lk @e7, by exact lk @e8, by exact lk @e9, by exact lk @e11, by exact lk trivial, by exact lk trivial⟩
  rcases hor with ⟨h, -⟩ | ⟨-, hch⟩
  · omega
  rw [hch] at hg
  simp only at hg
  refine ghW (Gh.frzC (b := 1) (j := 1) (b' := 2) (D' := dAux) (l := na) rfl rfl rfl rfl) ?_
  have hrn6 : ([rv', rm, fi, rf, rn] : List Int).getD 4 0 = rn := rfl
  by_cases h6 : rn = 0
  · rw [if_pos h6] at hg
    have := hk1 (by rw [← hg])
    rw [← hg] at this
    refine Wn1 (And.intro @e0 (And.intro @e1 (And.intro @e7 (And.intro @e8 (And.intro @e9 (And.intro @e11 (And.intro @e12 @e13))))))) (And.intro @DD (And.intro @hrm3 (And.intro @hrn6 @h6))) trivial ?_
    apply x_frz 4; (repeat any_goals first | exact mp_z | apply mp_s | exact rs_z | apply rs_t | apply rs_n | apply rs_c); (repeat any_goals first | (apply Lk.i; (simp only [↓LL, ↓reduceIte, Nat.reduceEqDiff]; (try rfl); done)) | (apply Rf.i; first | rfl | assumption) | (apply Vl.i; ((try simp (disch := omega) only [VV, ↓reduceIte, peqI, encP]); (try rfl); done)) | (apply Am.i; assumption) | (apply Pu.i; ((try simp only [↓reduceIte, UU, RR, Nat.reduceAdd, Nat.reduceEqDiff, cellsP, putP, fillQ, flatQ, shP, sh1, encP]); (try rfl); done)) | (apply Om.i; ((try simp only [MM]); (try omega); done)) | (apply Vw.i; first | exact As.sl _ _ | exact As.nil _ | exact As.arr _ _ _ _ rfl (by ((try simp only [MM]); (try omega); done)) | exact As.row _ _ _ _ _ rfl rfl | exact Src.str _ | exact Src.as (As.sl _ _) | exact Src.as (As.nil _) | exact Src.as (As.arr _ _ _ _ rfl (by ((try simp only [MM]); (try omega); done))) | exact Src.as (As.row _ _ _ _ _ rfl rfl))); (all_goals fail_if_success apply Mk.i)
    refine W1 trivial trivial trivial ?_
    exact this
  rw [if_neg h6] at hg
  by_cases h7 : rn < 16
  · rw [if_pos h7] at hg
    have := hk2 _ _ (by rw [← hg])
    rw [← hpl] at this
    refine W1 (And.intro @e0 (And.intro @e1 (And.intro @e7 (And.intro @e8 (And.intro @e9 (And.intro @e11 (And.intro @e12 @e13))))))) (And.intro @DD (And.intro @hrm3 (And.intro @hrn6 @h6))) @rplace_spec ?_
    exact this
  rw [if_neg h7] at hg
  refine W1 (And.intro @e0 (And.intro @e1 (And.intro @e7 (And.intro @e8 (And.intro @e9 (And.intro @e11 (And.intro @e12 @e13))))))) (And.intro @DD (And.intro @hrm3 (And.intro @hrn6 @h6))) @rplace_spec ?_
  refine ⟨k, by omega, _, _, Gh.sel [0] (by decide) (hz0 hZ), a + rn, acc ++ [((fi, na, ()) : dNeed.T)], by omega, by omega, by omega, by omega, hg, by rw [List.length_append]; show ((acc.length + 1 : Nat) : Int) ≤ _; omega, rfl, by exact lk @e0, by exact lk @e1, ?_, by exact lk trivial⟩
  rw [List.length_append]
  exact lk trivial
end
end Go.Proofs.Ytoieblaagkbncaa.PvW
