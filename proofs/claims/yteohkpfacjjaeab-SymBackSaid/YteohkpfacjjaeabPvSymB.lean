/- What sym.All, and the document's answers for symbols, yield. No statement of the set is proved in this text. -/
import Derived.Test.YteohkpfacjjaeabPvSym
namespace Go.Proofs.Yteohkpfacjjaeab.PvW
open Go.RowKit Go.Proofs.Yteohkpfacjjaeab.Cd Go.Proofs.Yteohkpfacjjaeab.AbP Go.Proofs.Yteohkpfacjjaeab.Num Go.Proofs.Yteohkpfacjjaeab.Pv
set_option maxRecDepth 100000
set_option maxHeartbeats 4000000
set_option linter.unusedVariables false
set_option linter.unusedSimpArgs false
variable {K : PV → List OB → Prop}
abbrev symW (w : Bool) : List Int := if w = true then [4, 1, 1, 2, 8, 8] else [4, 4, 4, 1, 1, 2]
theorem symW_wide (w : Bool) : ∀ n ∈ symW w, wideB n = true := by cases w <;> decide
theorem symW_sum (w : Bool) : sumL (symW w) = if w = true then 24 else 16 := by cases w <;> rfl
def symD (w : Bool) (l : List Int) : dSym.T := if w = true then (IntKind.u32.wrap (l.getD 0 0), IntKind.u8.wrap (l.getD 1 0), IntKind.u8.wrap (l.getD 2 0), IntKind.u16.wrap (l.getD 3 0), l.getD 4 0, l.getD 5 0, ()) else (IntKind.u32.wrap (l.getD 0 0), IntKind.u8.wrap (l.getD 3 0), IntKind.u8.wrap (l.getD 4 0), IntKind.u16.wrap (l.getD 5 0), l.getD 1 0, l.getD 2 0, ())
theorem yget1_spec {w big : Bool} {b : List Int} {a n : Int} (hB : Am (B b)) (hm : Om (b.length ≤ 1000000000000)) (hn : Om (0 ≤ n)) (ha : Om (0 ≤ a)) (hU2 : Om (a + n ≤ 18446744073709551615))
    (hk : K (.int .u64 (getSpec b a n big).1) [.var [.sl (.int .u8) b], .var [.int .u64 (a + n)], .var [.bool w, .bool big]]) :
    PCalls Try.prog 96 [.int .i64 n, .ptr 0 0, .ptr 1 0, .ptr 2 0] [.var [.sl (.int .u8) b], .var [.int .u64 a], .var [.bool w, .bool big]] K := by
  refine told_callS sym_get_1.told fun Z hZ => ?_
  unfold sym_get_1.c
  replace hB := hB.o
  replace hm := hm.o
  replace hn := hn.o
  replace ha := ha.o
  replace hU2 := hU2.o
  refine W1 trivial trivial @get_spec ?_
  exact ⟨_, rfl, rfl, hk⟩
theorem ygetF_spec {big : Bool} {b : List Int} (hB : Am (B b)) (hm : Om (b.length ≤ 1000000000000))
    (hk : ∀ v0 v1 v2 v3 v4 v5, gets b big 0 [4, 4, 4, 1, 1, 2] = [v0, v1, v2, v3, v4, v5] → K (.agg [.int .u32 (IntKind.u32.wrap v0), .int .u8 (IntKind.u8.wrap v3), .int .u8 (IntKind.u8.wrap v4), .int .u16 (IntKind.u16.wrap v5), .int .u64 v1, .int .u64 v2]) []) :
    PCalls Try.prog 75 [.sl (.int .u8) b, .agg [.bool false, .bool big]] [] K := by
  refine told_callP sym_get.told fun Z hZ => ?_
  unfold sym_get.c
  replace hB := hB.o
  replace hm := hm.o
  have hk := hk _ _ _ _ _ _ rfl
  refine W1 trivial trivial trivial ?_
  iterate 6
    (apply cf_S [0, 3, 1]; (repeat any_goals first | exact mp_z | apply mp_s | exact rs_z | apply rs_t | apply rs_n | apply rs_c); (repeat any_goals first | (apply Lk.i; (simp only [↓LL, ↓reduceIte, Nat.reduceEqDiff]; (try rfl); done)) | (apply Rf.i; first | rfl | assumption) | (apply Vl.i; ((try simp (disch := omega) only [VV, ↓reduceIte, peqI, encP]); (try rfl); done)) | (apply Am.i; assumption) | (apply Pu.i; ((try simp only [↓reduceIte, UU, RR, Nat.reduceAdd, Nat.reduceEqDiff, cellsP, putP, fillQ, flatQ, shP, sh1, encP]); (try rfl); done)) | (apply Om.i; ((try simp only [MM]); (try omega); done)) | (apply Vw.i; first | exact As.sl _ _ | exact As.nil _ | exact As.arr _ _ _ _ rfl (by ((try simp only [MM]); (try omega); done)) | exact As.row _ _ _ _ _ rfl rfl | exact Src.str _ | exact Src.as (As.sl _ _) | exact Src.as (As.nil _) | exact Src.as (As.arr _ _ _ _ rfl (by ((try simp only [MM]); (try omega); done))) | exact Src.as (As.row _ _ _ _ _ rfl rfl))); (all_goals fail_if_success apply Mk.i))
    refine yget1_spec ⟨hB⟩ ⟨hm⟩ ⟨by omega⟩ ⟨by omega⟩ ⟨by omega⟩ ?_
    refine W1 trivial trivial trivial ?_
  exact hk
theorem ygetT_spec {big : Bool} {b : List Int} (hB : Am (B b)) (hm : Om (b.length ≤ 1000000000000))
    (hk : ∀ v0 v1 v2 v3 v4 v5, gets b big 0 [4, 1, 1, 2, 8, 8] = [v0, v1, v2, v3, v4, v5] → K (.agg [.int .u32 (IntKind.u32.wrap v0), .int .u8 (IntKind.u8.wrap v1), .int .u8 (IntKind.u8.wrap v2), .int .u16 (IntKind.u16.wrap v3), .int .u64 v4, .int .u64 v5]) []) :
    PCalls Try.prog 75 [.sl (.int .u8) b, .agg [.bool true, .bool big]] [] K := by
  refine told_callP sym_get.told fun Z hZ => ?_
  unfold sym_get.c
  replace hB := hB.o
  replace hm := hm.o
  have hk := hk _ _ _ _ _ _ rfl
  refine W1 trivial trivial trivial ?_
  iterate 6
    (apply cf_S [0, 3, 1]; (repeat any_goals first | exact mp_z | apply mp_s | exact rs_z | apply rs_t | apply rs_n | apply rs_c); (repeat any_goals first | (apply Lk.i; (simp only [↓LL, ↓reduceIte, Nat.reduceEqDiff]; (try rfl); done)) | (apply Rf.i; first | rfl | assumption) | (apply Vl.i; ((try simp (disch := omega) only [VV, ↓reduceIte, peqI, encP]); (try rfl); done)) | (apply Am.i; assumption) | (apply Pu.i; ((try simp only [↓reduceIte, UU, RR, Nat.reduceAdd, Nat.reduceEqDiff, cellsP, putP, fillQ, flatQ, shP, sh1, encP]); (try rfl); done)) | (apply Om.i; ((try simp only [MM]); (try omega); done)) | (apply Vw.i; first | exact As.sl _ _ | exact As.nil _ | exact As.arr _ _ _ _ rfl (by ((try simp only [MM]); (try omega); done)) | exact As.row _ _ _ _ _ rfl rfl | exact Src.str _ | exact Src.as (As.sl _ _) | exact Src.as (As.nil _) | exact Src.as (As.arr _ _ _ _ rfl (by ((try simp only [MM]); (try omega); done))) | exact Src.as (As.row _ _ _ _ _ rfl rfl))); (all_goals fail_if_success apply Mk.i))
    refine yget1_spec ⟨hB⟩ ⟨hm⟩ ⟨by omega⟩ ⟨by omega⟩ ⟨by omega⟩ ?_
    refine W1 trivial trivial trivial ?_
  exact hk
theorem yget_spec {w big : Bool} {b : List Int} (hB : Am (B b)) (hm : Om (b.length ≤ 1000000000000))
    (hk : ∀ x0 x1 x2 x3 x4 x5, symD w (gets b big 0 (symW w)) = (x0, x1, x2, x3, x4, x5, ()) → K (.agg [.int .u32 x0, .int .u8 x1, .int .u8 x2, .int .u16 x3, .int .u64 x4, .int .u64 x5]) []) :
    PCalls Try.prog 75 [.sl (.int .u8) b, .agg [.bool w, .bool big]] [] K := by
  cases w
  · exact ygetF_spec hB hm fun v0 v1 v2 v3 v4 v5 hv => hk _ _ _ _ _ _ (by show symD false (gets b big 0 [4, 4, 4, 1, 1, 2]) = _; rw [hv]; rfl)
  · exact ygetT_spec hB hm fun v0 v1 v2 v3 v4 v5 hv => hk _ _ _ _ _ _ (by show symD true (gets b big 0 [4, 1, 1, 2, 8, 8]) = _; rw [hv]; rfl)
def symsG (w big : Bool) (b : List Int) (k : Nat) : List dSym.T := recG b big (symW w) (symD w) k
theorem yall_spec {w big : Bool} {b : List Int} {N : Nat} (hB : Am (B b)) (hm : Om (b.length ≤ 1000000)) (hN : Am ((if w = true then 24 else 16 : Int) = N)) 
    (hk1 : b.length % N = 0 → K (.tup [.osl 0 (b.length / N), .nilI]) [.arr dSym (symsG w big b (b.length / N))])
    (hk2 : b.length % N ≠ 0 → K (.tup [.nilS, eSpot (b.length - (b.length % N : Nat)) 2]) []) :
    PCalls Try.prog 37 [.sl (.int .u8) b, .agg [.bool w, .bool big]] [] K := by
  have hB := hB.o
  have hm := hm.o
  have hN := hN.o
  have hs := symW_sum w
  rw [hN] at hs
  have hN1 : 16 ≤ N ∧ N ≤ 24 := by cases w <;> simp at hN <;> omega
  refine told_callP sym_All.told fun Z hZ => ?_
  unfold sym_All.c
  refine W1 trivial trivial @ysize_spec ?_
  rw [hN]
  have hz : ((b.length : Int) % (N : Int)) = ((b.length % N : Nat) : Int) := rfl
  have hlt : b.length % N < N := Nat.mod_lt _ (by omega)
  have hle : b.length % N ≤ b.length := Nat.mod_le _ _
  by_cases hr : b.length % N = 0
  · refine W1 trivial (And.intro @DD (And.intro @rem_c (And.intro @hz @hr))) (@xVirt 8 dSym) ?_
    have hk1 := hk1 hr
    have hbk : b.length = N * (b.length / N) := by have := Nat.div_add_mod b.length N; omega
    generalize b.length / N = k at *
    have hk6 : k ≤ 1000000 := Nat.le_trans (Nat.le_mul_of_pos_left k (show 0 < N by omega)) (hbk ▸ hm)
    refine w_lpG (fun q e s => ∃ i : Nat, q + i = k ∧ s = [.var [.bool w, .bool big], .arr dSym (symsG w big b i)] ∧ e 0 = .sl (.int .u8) (b.drop (N * i)) ∧ e 3 = .ptr 0 0 ∧ e 6 = .int .i64 N ∧ e 8 = .osl 1 i) k ?_ ?_
    · exact ⟨0, rfl, rfl, by exact lk trivial, by exact lk trivial, by exact lk trivial, by exact lk trivial⟩
    rintro q e s ⟨i, hi, rfl, e0, e3, e6, e8⟩
    have hgl : (symsG w big b i).length = i := recG_len
    have hdl : (b.drop (N * i)).length = b.length - N * i := List.length_drop
    by_cases hq : i < k
    · have hni : N * i + N ≤ b.length := by
        rw [hbk]
        calc N * i + N = N * (i + 1) := (Nat.mul_succ N i).symm
          _ ≤ N * k := Nat.mul_le_mul_left N hq
      have hB2 : B ((b.drop (N * i)).take N) := seg_B hB _ _
      have hdr : ((b.drop (N * i)).drop N) = b.drop (N * (i + 1)) := by rw [List.drop_drop, Nat.mul_succ]
      have hgs : gets ((b.drop (N * i)).take N) big 0 (symW w) = gets b big (sumL (symW w) * (i : Int)) (symW w) := by
        have := gets_seg (b := b) (big := big) (a := N * i) (n := N) (symW w) 0 (symW_wide w) (by rw [hs]; omega) hni
        rw [hs]
        refine this.trans (congrArg (fun z => gets b big z (symW w)) ?_)
        push_cast
        omega
      refine W1 (And.intro @e0 (And.intro @e3 (And.intro @e6 @e8))) @DD @yget_spec ?_
      intro x0 x1 x2 x3 x4 x5 hx
      rw [hgs] at hx
      have hsx : symsG w big b (i + 1) = symsG w big b i ++ [(x0, x1, x2, x3, x4, x5, ())] := by unfold symsG; rw [recG_succ, hx]
      refine W1 (And.intro @e0 (And.intro @e3 (And.intro @e6 @e8))) @DD trivial ?_
      exact ⟨q - 1, by omega, _, _, Gh.sel [0, 1] (by decide) (hz0 hZ), i + 1, by omega, by rw [hsx]; rfl, by rw [← hdr]; exact lk @e0, by exact lk @e3, by exact lk @e6, by exact lk @hgl⟩
    · obtain rfl : i = k := by omega
      refine W1 (And.intro @e0 (And.intro @e3 (And.intro @e6 @e8))) @DD trivial ?_
      exact hk1
  · refine W1 trivial (And.intro @DD (And.intro @rem_c @hz)) trivial ?_
    exact hk2 hr
theorem srow8_spec {w b : Bool} (hk : K (.osl 0 6) [.arr (.int .i64) (symW w)]) : PCalls Try.prog 73 [.agg [.bool w, .bool b]] [] K := by
  refine told_callP bezantref04_symRow.told fun Z hZ => ?_
  unfold bezantref04_symRow.c
  cases w
  all_goals
    refine Wn1 trivial trivial trivial ?_
    first
      | (apply x_arr 1 (.int .i64); (repeat any_goals first | exact mp_z | apply mp_s | exact rs_z | apply rs_t | apply rs_n | apply rs_c); (repeat any_goals first | (apply Lk.i; (simp only [↓LL, ↓reduceIte, Nat.reduceEqDiff]; (try rfl); done)) | (apply Rf.i; first | rfl | assumption) | (apply Vl.i; ((try simp (disch := omega) only [VV, ↓reduceIte, peqI, encP]); (try rfl); done)) | (apply Am.i; assumption) | (apply Pu.i; ((try simp only [↓reduceIte, UU, RR, Nat.reduceAdd, Nat.reduceEqDiff, cellsP, putP, fillQ, flatQ, shP, sh1, encP]); (try rfl); done)) | (apply Om.i; ((try simp only [MM]); (try omega); done)) | (apply Vw.i; first | exact As.sl _ _ | exact As.nil _ | exact As.arr _ _ _ _ rfl (by ((try simp only [MM]); (try omega); done)) | exact As.row _ _ _ _ _ rfl rfl | exact Src.str _ | exact Src.as (As.sl _ _) | exact Src.as (As.nil _) | exact Src.as (As.arr _ _ _ _ rfl (by ((try simp only [MM]); (try omega); done))) | exact Src.as (As.row _ _ _ _ _ rfl rfl))); (all_goals fail_if_success apply Mk.i))
      | (apply x_arr 2 (.int .i64); (repeat any_goals first | exact mp_z | apply mp_s | exact rs_z | apply rs_t | apply rs_n | apply rs_c); (repeat any_goals first | (apply Lk.i; (simp only [↓LL, ↓reduceIte, Nat.reduceEqDiff]; (try rfl); done)) | (apply Rf.i; first | rfl | assumption) | (apply Vl.i; ((try simp (disch := omega) only [VV, ↓reduceIte, peqI, encP]); (try rfl); done)) | (apply Am.i; assumption) | (apply Pu.i; ((try simp only [↓reduceIte, UU, RR, Nat.reduceAdd, Nat.reduceEqDiff, cellsP, putP, fillQ, flatQ, shP, sh1, encP]); (try rfl); done)) | (apply Om.i; ((try simp only [MM]); (try omega); done)) | (apply Vw.i; first | exact As.sl _ _ | exact As.nil _ | exact As.arr _ _ _ _ rfl (by ((try simp only [MM]); (try omega); done)) | exact As.row _ _ _ _ _ rfl rfl | exact Src.str _ | exact Src.as (As.sl _ _) | exact Src.as (As.nil _) | exact Src.as (As.arr _ _ _ _ rfl (by ((try simp only [MM]); (try omega); done))) | exact Src.as (As.row _ _ _ _ _ rfl rfl))); (all_goals fail_if_success apply Mk.i))
    refine W1 trivial trivial trivial ?_
    exact hk
theorem rsyms_spec {w big : Bool} {b : List Int} {N : Nat} (hB : Am (B b)) (hm : Om (b.length ≤ 1000000)) (hN : Am ((if w = true then 24 else 16 : Int) = N)) 
    (hk1 : b.length % N = 0 → K (.tup [.osl 0 (b.length / N), .int .i64 (-1)]) [.arr dSym (symsG w big b (b.length / N))])
    (hk2 : b.length % N ≠ 0 → K (.tup [.nilS, .int .i64 (b.length - (b.length % N : Nat))]) []) :
    PCalls Try.prog 38 [.sl (.int .u8) b, .agg [.bool w, .bool big]] [] K := by
  have hB := hB.o
  have hm := hm.o
  have hN := hN.o
  have hs := symW_sum w
  rw [hN] at hs
  have hN1 : 16 ≤ N ∧ N ≤ 24 := by cases w <;> simp at hN <;> omega
  have hW : ∀ n ∈ symW w, 0 ≤ n ∧ n ≤ 100 := by cases w <;> decide
  have hwl : (symW w).length = 6 := by cases w <;> rfl
  refine told_callP bezantref04_Syms.told fun Z hZ => ?_
  unfold bezantref04_Syms.c
  refine W1 trivial @DD @srow8_spec ?_
  refine sum_spec ⟨hW⟩ ⟨by cases w <;> decide⟩ ?_
  rw [hs]
  refine W1 trivial @DD (@xVirt 7 dSym) ?_
  have hbk : b.length = N * (b.length / N) + b.length % N := by have := Nat.div_add_mod b.length N; omega
  have hlt : b.length % N < N := Nat.mod_lt _ (by omega)
  generalize b.length / N = k at *
  generalize b.length % N = r at *
  have hk6 : k ≤ 1000000 := Nat.le_trans (Nat.le_mul_of_pos_left k (show 0 < N by omega)) (by omega)
  refine w_lpG (fun q e s => ∃ i : Nat, q + i = k + 1 ∧ i ≤ k ∧ s = [.var [.bool w, .bool big], .dead, .arr dSym (symsG w big b i)] ∧ e 0 = .sl (.int .u8) b ∧ e 3 = .ptr 0 0 ∧ e 6 = .int .i64 N ∧ e 7 = .osl 2 i ∧ e 8 = .int .i64 ((N * i : Nat) : Int)) (k + 1) ?_ ?_
  · exact ⟨0, rfl, Nat.zero_le _, rfl, by exact lk trivial, by exact lk trivial, by exact lk trivial, by exact lk trivial, by exact lk trivial⟩
  rintro q e s ⟨i, hi, hik, rfl, e0, e3, e6, e7, e8⟩
  have hgl : (symsG w big b i).length = i := recG_len
  by_cases hq : i < k
  · have hni : N * i + N ≤ b.length := by
      rw [hbk]
      calc N * i + N = N * (i + 1) := (Nat.mul_succ N i).symm
        _ ≤ N * k := Nat.mul_le_mul_left N hq
        _ ≤ _ := Nat.le_add_right _ _
    have hR := numsAt_ok (b := b) (big := big) (a := ((N * i : Nat) : Int)) (acc := []) (symW_wide w) (by rw [hs]; omega)
    refine W1 (And.intro @e0 (And.intro @e3 (And.intro @e6 (And.intro @e7 @e8)))) @DD @srow8_spec ?_
    refine nums_spec ⟨hB⟩ ⟨by omega⟩ ⟨by rw [hwl]; decide⟩ ⟨by omega⟩ (fun _ => ?_) (fun no => absurd no (by rw [hR]; simp))
    rw [hR, List.nil_append]
    have e8' : ((N * (i + 1) : Nat) : Int) = ((N * i : Nat) : Int) + (N : Int) := by rw [Nat.mul_succ]; rfl
    have e1 : ((N * i : Nat) : Int) = sumL (symW w) * (i : Int) := by rw [hs]; push_cast; rfl
    have hsx : symsG w big b (i + 1) = symsG w big b i ++ [symD w (gets b big (sumL (symW w) * (i : Int)) (symW w))] := by unfold symsG; rw [recG_succ]
    rw [e1]
    have hG : (gets b big (sumL (symW w) * (i : Int)) (symW w)).length = 6 := by cases w <;> rfl
    generalize gets b big (sumL (symW w) * (i : Int)) (symW w) = G at *
    match G, hG with
    | [v0, v1, v2, v3, v4, v5], _ =>
    cases w
    all_goals
      refine W1 (And.intro @e0 (And.intro @e3 (And.intro @e6 (And.intro @e7 @e8)))) @DD trivial ?_
      exact ⟨q - 1, by omega, _, _, Gh.sel [0, 1, 2] (by decide) (hz0 hZ), i + 1, by omega, by omega, by rw [hsx]; rfl, by exact lk @e0, by exact lk @e3, by exact lk @e6, by exact lk @hgl, by rw [e8']; exact lk trivial⟩
  · obtain rfl : i = k := by omega
    by_cases hr : r = 0
    · refine W1 (And.intro @e0 (And.intro @e3 (And.intro @e6 (And.intro @e7 @e8)))) @DD trivial ?_
      exact hk1 hr
    · have hR := numsAt_no (b := b) (big := big) (a := ((N * i : Nat) : Int)) (acc := []) (symW_wide w) (by cases w <;> decide) (by rw [hs]; omega)
      refine W1 (And.intro @e0 (And.intro @e3 (And.intro @e6 (And.intro @e7 @e8)))) @DD @srow8_spec ?_
      refine nums_spec ⟨hB⟩ ⟨by omega⟩ ⟨by rw [hwl]; decide⟩ ⟨by omega⟩ (fun no => absurd no (by rw [hR]; simp)) (fun _ => ?_)
      have e1 : ((N * i : Nat) : Int) = (b.length : Int) - (r : Int) := by omega
      have hk2 := hk2 hr
      rw [← e1] at hk2
      refine W1 (And.intro @e0 (And.intro @e3 (And.intro @e6 (And.intro @e7 @e8)))) @DD trivial ?_
      exact hk2
theorem rputs8_spec {w big : Bool} {l : List dSym.T} (hG : Am (∀ x ∈ l, SymG x)) (hm : Om (l.length ≤ 100000))
    (hk1 : recOk (symP w) l = true → K (.tup [.osl 0 (recB big (symP w) l).length, .bool true]) [.arr (.int .u8) (recB big (symP w) l)])
    (hk2 : recOk (symP w) l = false → K (.tup [.nilS, .bool false]) []) :
    PCalls Try.prog 36 [.sl dSym l, .agg [.bool w, .bool big]] [] K := by
  have hG := hG.o
  have hm := hm.o
  have hwl : (symW w).length = 6 := by cases w <;> rfl
  refine told_callP bezantref04_PutSyms.told fun Z hZ => ?_
  unfold bezantref04_PutSyms.c
  refine W1 trivial trivial (@xVirt 6 (.int .u8)) ?_
  refine w_lpG (fun q e s => ∃ i : Nat, q + i = l.length ∧ recOk (symP w) (l.take i) = true ∧ s = [.var [.bool w, .bool big], .arr (.int .u8) (recB big (symP w) (l.take i))] ∧ e 0 = .sl dSym l ∧ e 3 = .ptr 0 0 ∧ e 6 = .osl 1 (recB big (symP w) (l.take i)).length ∧ e 7 = .int .i64 i) l.length ?_ ?_
  · exact ⟨0, rfl, rfl, rfl, by exact lk trivial, by exact lk trivial, by exact lk trivial, by exact lk trivial⟩
  rintro q e s ⟨i, hi, hok, rfl, e0, e3, e6, e7⟩
  have hlen2 := symsB_le (w := w) (big := big) l (i := i) hm
  by_cases hq : i < l.length
  · obtain ⟨x, hx⟩ : ∃ x, l[i]? = some x := ⟨l[i], by simp [hq]⟩
    have hxl2 : (rowB big (symP w x)).length ≤ 24 := by rw [symP_len]; cases w <;> decide
    have ht := recB_take (big := big) (P := symP w) hx
    have hto := recOk_take (P := symP w) hx
    have hg : SymG x := hG x (List.mem_of_getElem? hx)
    have hb := recOk_bad (P := symP w) hx
    rw [hok] at hto
    obtain ⟨nm, inf, oth, shn, val, siz, ⟨⟩⟩ := x
    change SymN nm inf oth shn val siz at hg
    obtain ⟨g0, h0⟩ := hg.nm
    obtain ⟨g1, h1⟩ := hg.inf
    obtain ⟨g2, h2⟩ := hg.oth
    obtain ⟨g3, h3⟩ := hg.shn
    obtain ⟨g4, h4⟩ := hg.val
    obtain ⟨g5, h5⟩ := hg.siz
    cases w
    · have hz : [nm, val, siz, inf, oth, shn].zip (symW false) = symP false (nm, inf, oth, shn, val, siz, PUnit.unit) := rfl
      refine W1 (And.intro @e0 (And.intro @e3 (And.intro @e6 @e7))) @DD @srow8_spec ?_
      refine row_spec ⟨by simp only [List.forall_mem_cons]; exact ⟨⟨by omega, by omega⟩, ⟨by omega, by omega⟩, ⟨by omega, by omega⟩, ⟨by omega, by omega⟩, ⟨by omega, by omega⟩, ⟨by omega, by omega⟩, fun _ h => by cases h⟩⟩ ⟨symW_wide false⟩ ⟨Nat.le_refl 6⟩ ⟨show 6 ≤ 1000 by decide⟩ ?_
      rw [hz]
      cases ho : rowOk (symP false (nm, inf, oth, shn, val, siz, PUnit.unit))
      · refine W1 (And.intro @e0 (And.intro @e3 (And.intro @e6 @e7))) @DD trivial ?_
        exact hk2 (hb ho)
      · refine W1 (And.intro @e0 (And.intro @e3 (And.intro @e6 @e7))) @DD trivial ?_
        exact ⟨q - 1, by omega, _, _, Gh.sel [0, 1] (by decide) (hz0 hZ), i + 1, by omega, by rw [hto]; exact ho, by rw [ht]; rfl, by exact lk @e0, by exact lk @e3, by rw [ht, List.length_append]; exact lk trivial, by exact lk @e7⟩
    · have hz : [nm, inf, oth, shn, val, siz].zip (symW true) = symP true (nm, inf, oth, shn, val, siz, PUnit.unit) := rfl
      refine W1 (And.intro @e0 (And.intro @e3 (And.intro @e6 @e7))) @DD @srow8_spec ?_
      refine row_spec ⟨by simp only [List.forall_mem_cons]; exact ⟨⟨by omega, by omega⟩, ⟨by omega, by omega⟩, ⟨by omega, by omega⟩, ⟨by omega, by omega⟩, ⟨by omega, by omega⟩, ⟨by omega, by omega⟩, fun _ h => by cases h⟩⟩ ⟨symW_wide true⟩ ⟨Nat.le_refl 6⟩ ⟨show 6 ≤ 1000 by decide⟩ ?_
      rw [hz]
      cases ho : rowOk (symP true (nm, inf, oth, shn, val, siz, PUnit.unit))
      · refine W1 (And.intro @e0 (And.intro @e3 (And.intro @e6 @e7))) @DD trivial ?_
        exact hk2 (hb ho)
      · refine W1 (And.intro @e0 (And.intro @e3 (And.intro @e6 @e7))) @DD trivial ?_
        exact ⟨q - 1, by omega, _, _, Gh.sel [0, 1] (by decide) (hz0 hZ), i + 1, by omega, by rw [hto]; exact ho, by rw [ht]; rfl, by exact lk @e0, by exact lk @e3, by rw [ht, List.length_append]; exact lk trivial, by exact lk @e7⟩
  · obtain rfl : i = l.length := by omega
    rw [List.take_length] at hok hlen2 e6 ⊢
    refine W1 (And.intro @e0 (And.intro @e3 (And.intro @e6 @e7))) @DD trivial ?_
    exact hk1 hok
end Go.Proofs.Yteohkpfacjjaeab.PvW
