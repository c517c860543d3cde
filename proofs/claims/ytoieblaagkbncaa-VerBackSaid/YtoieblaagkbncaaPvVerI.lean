/- What ver's reader of a definition yields. No statement of the set is proved in this text. -/
import Derived.Test.YtoieblaagkbncaaPvVerH
namespace Go.Proofs.Ytoieblaagkbncaa.PvW
open Go.RowKit Go.Proofs.Ytoieblaagkbncaa.Cd Go.Proofs.Ytoieblaagkbncaa.AbP Go.Proofs.Ytoieblaagkbncaa.Num Go.Proofs.Ytoieblaagkbncaa.Pv
set_option maxRecDepth 100000
set_option maxHeartbeats 4000000
set_option linter.unusedVariables false
set_option linter.unusedSimpArgs false
abbrev gt (b : List Int) (big : Bool) (a n : Int) : Int := (getSpec b a n big).1
def rdD (b : List Int) (big : Bool) (a : Int) : Hd := ⟨gt b big a 2, gt b big (a + 2 + 2 + 2) 2, gt b big (a + 2 + 2 + 2 + 2 + 4) 4, gt b big (a + 2 + 2 + 2 + 2 + 4 + 4) 4⟩
abbrev DT := List dDef.T × Int × Int × Int
def updRD (b : List Int) (big : Bool) (acc : List dDef.T) (a : Int) : DT := (acc, gt b big (a + 2) 2, gt b big (a + 2 + 2) 2, gt b big (a + 2 + 2 + 2 + 2) 4)
def SD (acc : List dDef.T) : List OB := [.var [.ptr 0 0], .var [.osl 3 acc.length], .arr dDef acc]
def cellD (t : DT) (p : PV) : List PV := t.1.flatMap (encP dDef) ++ [.int .u16 t.2.1, .int .u16 t.2.2.1, .int .u32 t.2.2.2, p]
def TD (t : DT) : List OB := [.var [.ptr 0 0], .var [.osl 3 (t.1.length + 1)], .row 4 (t.1.length + 1) (cellD t .nilS)]
def ND (t : DT) (na : List Int) : List OB := [.var [.ptr 0 0], .var [.osl 3 (t.1.length + 1)], .row 4 (t.1.length + 1) (cellD t (.osl 5 na.length)), .var [.oel 3 (t.1.length + 1) t.1.length 0], .arr (.int .u32) na]
theorem cellD_ren (js : List Nat) (t : DT) (p : PV) : (cellD t p).map (renB js) = cellD t (renB js p) := by
  unfold cellD
  rw [List.map_append, renB_encs]
  rfl
theorem cellD_at (t : DT) (p : PV) : (cellD t p)[t.1.length * 4 + 3]? = some p := by
  unfold cellD
  rw [show t.1.length * 4 + 3 = t.1.length * dDef.sz + 3 from rfl, last_at]
  rfl
theorem cellD_set (t : DT) (p q : PV) : (cellD t p).set (t.1.length * 4 + 3) q = cellD t q := by
  unfold cellD
  rw [show t.1.length * 4 + 3 = t.1.length * dDef.sz + 3 from rfl, last_set]
  rfl
theorem cellD_len (t : DT) (p : PV) : (cellD t p).length = (t.1.length + 1) * 4 := by
  unfold cellD
  rw [List.length_append, encs_len, show dDef.sz = 4 from rfl, List.length_cons, List.length_cons, List.length_cons, List.length_cons, List.length_nil]
  omega
theorem cellD_enc (t : DT) (na : List Int) : cellD t (.sl (.int .u32) na) = (t.1 ++ [((t.2.1, t.2.2.1, t.2.2.2, na, ()) : dDef.T)]).flatMap (encP dDef) := by
  unfold cellD
  rw [List.flatMap_append]
  rfl
section
variable {K : PV → List OB → Prop} {b : List Int} {big : Bool}
theorem dread_spec {acc : List dDef.T} {a : Int} (hB : B b) (hm : b.length ≤ 1000000) (hl : acc.length ≤ 1000000) (ha : 0 ≤ a) (ha2 : a + 20 ≤ b.length)
    (hk : K (.tup [.int .u64 (rdD b big a).v, .int .i64 (rdD b big a).m, .int .u64 (rdD b big a).f, .int .u64 (rdD b big a).n]) (rv b (a + 20) big :: TD (updRD b big acc a))) :
    PCalls Try.prog 30 [.ptr 1 0, .ptr 2 0] (rv b a big :: SD acc) K := by
  refine told_callS ver_Defs_1.told fun Z hZ => ?_
  unfold ver_Defs_1.c
  unfold SD at *
  have r1 := range2 hB (a + 2) big
  have r2 := range2 hB (a + 2 + 2) big
  have r3 := range2 hB (a + 2 + 2 + 2) big
  have r4 := range4 hB (a + 2 + 2 + 2 + 2) big
  refine W1 trivial @DD (And.intro @vget_spec (@caS [0])) ?_
  apply ca_SK [0]; (repeat any_goals first | exact mp_z | apply mp_s | exact rs_z | apply rs_t | apply rs_n | apply rs_c); (repeat any_goals first | (apply Lk.i; (simp only [↓LL, ↓reduceIte, Nat.reduceEqDiff]; (try rfl); done)) | (apply Rf.i; first | rfl | assumption) | (apply Vl.i; ((try simp (disch := omega) only [VV, ↓reduceIte, peqI, encP]); (try rfl); done)) | (apply Am.i; assumption) | (apply Pu.i; ((try simp only [↓reduceIte, UU, RR, Nat.reduceAdd, Nat.reduceEqDiff, cellsP, putP, fillQ, flatQ, shP, sh1, encP]); (try rfl); done)) | (apply Om.i; ((try simp only [MM]); (try omega); done)) | (apply Vw.i; first | exact As.sl _ _ | exact As.nil _ | exact As.arr _ _ _ _ rfl (by ((try simp only [MM]); (try omega); done)) | exact As.row _ _ _ _ _ rfl rfl | exact Src.str _ | exact Src.as (As.sl _ _) | exact Src.as (As.nil _) | exact Src.as (As.arr _ _ _ _ rfl (by ((try simp only [MM]); (try omega); done))) | exact Src.as (As.row _ _ _ _ _ rfl rfl))); (all_goals fail_if_success apply Mk.i)
  refine W1 trivial @DD @vget_spec ?_
  apply ca_SK [0]; (repeat any_goals first | exact mp_z | apply mp_s | exact rs_z | apply rs_t | apply rs_n | apply rs_c); (repeat any_goals first | (apply Lk.i; (simp only [↓LL, ↓reduceIte, Nat.reduceEqDiff]; (try rfl); done)) | (apply Rf.i; first | rfl | assumption) | (apply Vl.i; ((try simp (disch := omega) only [VV, ↓reduceIte, peqI, encP]); (try rfl); done)) | (apply Am.i; assumption) | (apply Pu.i; ((try simp only [↓reduceIte, UU, RR, Nat.reduceAdd, Nat.reduceEqDiff, cellsP, putP, fillQ, flatQ, shP, sh1, encP]); (try rfl); done)) | (apply Om.i; ((try simp only [MM]); (try omega); done)) | (apply Vw.i; first | exact As.sl _ _ | exact As.nil _ | exact As.arr _ _ _ _ rfl (by ((try simp only [MM]); (try omega); done)) | exact As.row _ _ _ _ _ rfl rfl | exact Src.str _ | exact Src.as (As.sl _ _) | exact Src.as (As.nil _) | exact Src.as (As.arr _ _ _ _ rfl (by ((try simp only [MM]); (try omega); done))) | exact Src.as (As.row _ _ _ _ _ rfl rfl))); (all_goals fail_if_success apply Mk.i)
  refine Wp1 trivial @DD (And.intro @q_appW (And.intro @vget_spec (@caS [0]))) ?_
  rw [show a + 20 = a + 2 + 2 + 2 + 2 + 4 + 4 + 4 by omega] at hk
  have hk' : K (.tup [.int .u64 (gt b big a 2), .int .i64 (gt b big (a + 2 + 2 + 2) 2), .int .u64 (gt b big (a + 2 + 2 + 2 + 2 + 4) 4), .int .u64 (gt b big (a + 2 + 2 + 2 + 2 + 4 + 4) 4)]) [rv b (a + 2 + 2 + 2 + 2 + 4 + 4 + 4) big, .var [.ptr 0 0], .var [.osl 3 (acc.length + 1)], .row 4 (acc.length + 1) ((cellD (updRD b big acc a) .nilS).map (renB (List.range 4)))] := by
    rw [cellD_ren]
    exact hk
  exact ⟨_, rfl, rfl, hk'⟩
theorem dname_spec {t : DT} {na : List Int} {a : Int} (hB : B b) (hm : b.length ≤ 1000000) (hl : na.length ≤ 65535) (ha : 0 ≤ a) (ha2 : a + 8 ≤ b.length)
    (hk : K (.int .u64 (gt b big (a + 4) 4)) (rv b (a + 8) big :: ND t (na ++ [gt b big a 4]))) :
    PCalls Try.prog 34 [.ptr 4 0, .ptr 1 0] (rv b a big :: ND t na) K := by
  refine told_callS ver_Defs_2_1.told fun Z hZ => ?_
  unfold ver_Defs_2_1.c
  unfold ND at *
  have r4 := range4 hB a big
  have h3 := cellD_at t (.osl 5 na.length)
  refine W1 trivial (And.intro @DD @h3) trivial ?_
  have hA : List.all [PV.ptr 0 0, .int .i64 4] (argOk [rv b a big, .var [.ptr 0 0], .var [.osl 3 (t.1.length + 1)], .row 4 (t.1.length + 1) (cellD t (.osl 5 na.length)), .var [.oel 3 (t.1.length + 1) t.1.length 0], .arr (.int .u32) na] [.ptr 1 0, .oel 3 (t.1.length + 1) t.1.length 3, .ptr 4 0, .ptr 4 0]) = true := by
    simp [argOk, sfP, noPt, Nat.beq_refl]
    exact ⟨rfl, rfl, rfl, rfl⟩
  apply ca_SK [0]; (repeat any_goals first | exact mp_z | apply mp_s | exact rs_z | apply rs_t | apply rs_n | apply rs_c); (repeat any_goals first | (apply Lk.i; (simp only [↓LL, ↓reduceIte, Nat.reduceEqDiff]; (try rfl); done)) | (apply Rf.i; first | rfl | assumption) | (apply Vl.i; ((try simp (disch := omega) only [VV, ↓reduceIte, peqI, encP]); (try rfl); done)) | (apply Am.i; assumption) | (apply Pu.i; ((try simp only [↓reduceIte, UU, RR, Nat.reduceAdd, Nat.reduceEqDiff, cellsP, putP, fillQ, flatQ, shP, sh1, encP]); (try rfl); done)) | (apply Om.i; ((try simp only [MM]); (try omega); done)) | (apply Vw.i; first | exact As.sl _ _ | exact As.nil _ | exact As.arr _ _ _ _ rfl (by ((try simp only [MM]); (try omega); done)) | exact As.row _ _ _ _ _ rfl rfl | exact Src.str _ | exact Src.as (As.sl _ _) | exact Src.as (As.nil _) | exact Src.as (As.arr _ _ _ _ rfl (by ((try simp only [MM]); (try omega); done))) | exact Src.as (As.row _ _ _ _ _ rfl rfl))); (all_goals fail_if_success apply Mk.i)
  have hS : List.all [PV.ptr 1 0, .oel 3 (t.1.length + 1) t.1.length 3, .ptr 4 0, .ptr 4 0] (sfP [rv b (a + 4) big, .var [.ptr 0 0], .var [.osl 3 (t.1.length + 1)], .row 4 (t.1.length + 1) (cellD t (.osl 5 na.length)), .var [.oel 3 (t.1.length + 1) t.1.length 0], .arr (.int .u32) na, .row 1 1 [.int .u32 (getSpec b a 4 big).1]] 5) = true := by
    simp [sfP, Nat.beq_refl]
    exact ⟨rfl, rfl, rfl⟩
  have hset : putP (cellD t (.osl 5 na.length)) (t.1.length * 4 + 3) [.osl 5 (na.length + 1)] = cellD t (.osl 5 (na.length + 1)) := cellD_set t _ _
  have hlen := cellD_len t (.osl 5 na.length)
  refine W1 trivial (And.intro @DD (And.intro @h3 @hset)) (And.intro @vget_spec (And.intro @st_W (@caS [0]))) ?_
  rw [show a + 8 = a + 4 + 4 by omega] at hk
  have hk' : K (.int .u64 (gt b big (a + 4) 4)) [rv b (a + 4 + 4) big, .var [.ptr 0 0], .var [.osl 3 (t.1.length + 1)], .row 4 (t.1.length + 1) ((cellD t (.osl 5 (na.length + 1))).map (renB (List.range 6))), .var [.oel 3 (t.1.length + 1) t.1.length 0], .arr (.int .u32) (na ++ [gt b big a 4])] := by
    rw [cellD_ren]
    rw [List.length_append] at hk
    exact hk
  exact ⟨_, rfl, rfl, hk'⟩
abbrev valD (b : List Int) (big : Bool) (a : Int) : Int := gt b big (a + 4) 4
abbrev updD (b : List Int) (big : Bool) (na : List Int) (a : Int) : List Int := na ++ [gt b big a 4]
abbrev namesG (b : List Int) (big : Bool) (many : Nat) (p : Int) : List Int × Option (Int × Int) := chainG b 8 (valD b big) (updD b big) many p []
def innD (b : List Int) (big : Bool) (many : Nat) (p : Int) (t : DT) : List dDef.T × Option (Int × Int) := (t.1 ++ [((t.2.1, t.2.2.1, t.2.2.2, (namesG b big many p).1, ()) : dDef.T)], (namesG b big many p).2)
theorem chain_len {b : List Int} {size : Int} {val : Int → Int} {big : Bool} : ∀ (k : Nat) (a : Int) (x : List Int), (chainG b size val (updD b big) k a x).1.length ≤ x.length + k
  | 0, a, x => Nat.le_refl _
  | k + 1, a, x => by
    unfold chainG
    have ih := chain_len (b := b) (size := size) (val := val) (big := big) k (a + val a) (updD b big x a)
    have hl : (updD b big x a).length = x.length + 1 := by unfold updD; rw [List.length_append]; rfl
    repeat' split
    all_goals (try simp only)
    all_goals omega
theorem dinner_spec {t : DT} {many : Nat} {p : Int} (hB : B b) (hm : b.length ≤ 1000000) (hl : t.1.length ≤ 1000000) (h1 : 1 ≤ many) (h2 : many ≤ 65535) (hp : 0 ≤ p) (hp2 : p ≤ 10000000000)
    (hk1 : (innD b big many p t).2 = none → ∀ a', K .nilI (rv b a' big :: SD (innD b big many p t).1))
    (hk2 : ∀ q c, (innD b big many p t).2 = some (q, c) → ∀ s', K (eSpot q c) s') :
    PCalls Try.prog 32 [.int .i64 (many : Int), .ptr 2 0, .ptr 1 0] (rv b p big :: TD t) K := by
  refine told_callS ver_Defs_2.told fun Z hZ => ?_
  unfold ver_Defs_2.c
  unfold TD at *
  have htn : (((t.1.length + 1 : Nat) : Int) - 1).toNat = t.1.length := by omega
  refine W1 trivial (And.intro @DD @htn) trivial ?_
  have hv : ∀ e, Gh Z e [rv b p big, .var [.ptr 0 0], .var [.osl 3 (t.1.length + 1)], .row 4 (t.1.length + 1) (cellD t .nilS), .var [.oel 3 (t.1.length + 1) t.1.length 0]] e (rv b p big :: ND t []) := fun e => by
    have h := Gh.virtW (Z := Z) (e := e) (.int .u32) (s := [rv b p big, .var [.ptr 0 0], .var [.osl 3 (t.1.length + 1)], .row 4 (t.1.length + 1) (cellD t .nilS), .var [.oel 3 (t.1.length + 1) t.1.length 0]]) (b := 3) (j := t.1.length * 4 + 3) rfl (cellD_at t .nilS) (by decide)
    have h : Gh Z e _ e [rv b p big, .var [.ptr 0 0], .var [.osl 3 (t.1.length + 1)], .row 4 (t.1.length + 1) ((cellD t .nilS).set (t.1.length * 4 + 3) (.osl 5 0)), .var [.oel 3 (t.1.length + 1) t.1.length 0], .arr (.int .u32) []] := h
    rw [cellD_set] at h
    exact h
  refine caGh (hv _) ?_
  refine ca_F ⟨rfl⟩ (vchain_spec (S := ND t) (val := valD b big) (upd := updD b big) (x0 := []) hm (by decide) ⟨h1, h2⟩ ⟨hp, hp2⟩ (fun a => range4 hB (a + 4) big) List.length rfl (fun x a => by rw [List.length_append]; exact Nat.le_refl _) (fun x a K h3 h4 h5 hk => dname_spec hB hm h3 h4 h5 hk) (fun hok a' => ?_) (fun q c hno s' => ?_))
  · have hna := chain_len (b := b) (size := 8) (val := valD b big) (big := big) many p []
    have hk := hk1 hok 
    have hI : (innD b big many p t).1 = t.1 ++ [((t.2.1, t.2.2.1, t.2.2.2, (namesG b big many p).1, ()) : dDef.T)] := rfl
    rw [hI] at hk
    generalize (namesG b big many p).1 = na at *
    refine Wn1 trivial (And.intro @DD @htn) trivial ?_
    have hf : ∀ e, Gh Z e (rv b a' big :: ND t na) e [rv b a' big, .var [.ptr 0 0], .var [.osl 3 (t.1.length + 1)], .arr dDef (t.1 ++ [((t.2.1, t.2.2.1, t.2.2.2, na, ()) : dDef.T)]), .var [.oel 3 (t.1.length + 1) t.1.length 0], .dead] := fun e => by
      have h := Gh.frzW (Z := Z) (e := e) (s := rv b a' big :: ND t na) (b := 3) (j := t.1.length * 4 + 3) (b' := 5) (D' := .int .u32) (l := na) rfl (cellD_at t _) rfl rfl
      have h : Gh Z e _ e [rv b a' big, .var [.ptr 0 0], .var [.osl 3 (t.1.length + 1)], .row 4 (t.1.length + 1) ((cellD t (.osl 5 na.length)).set (t.1.length * 4 + 3) (.sl (.int .u32) na)), .var [.oel 3 (t.1.length + 1) t.1.length 0], .dead] := h
      rw [cellD_set, cellD_enc] at h
      have hd := decs_encs dDef (t.1 ++ [((t.2.1, t.2.2.1, t.2.2.2, na, ()) : dDef.T)])
      rw [List.length_append] at hd
      exact h.trans (Gh.arr dDef (b := 3) (n := t.1.length + 1) rfl hd (by decide))
    refine ghW (hf _) (w_ret ?_)
    have hk3 := hk a'
    unfold SD at hk3
    rw [List.length_append] at hk3
    exact ⟨_, rfl, rfl, hk3⟩
  · have := hk2 q c hno
    refine W1 trivial (And.intro @DD @htn) trivial ?_
    exact ⟨_, rfl, rfl, this _⟩
end
end Go.Proofs.Ytoieblaagkbncaa.PvW
