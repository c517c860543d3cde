/- What ver.Needs yields. No statement of the set is proved in this text. -/
import Derived.Test.YtoieblaagkbncaaPvVerI
namespace Go.Proofs.Ytoieblaagkbncaa.PvW
open Go.RowKit Go.Proofs.Ytoieblaagkbncaa.Cd Go.Proofs.Ytoieblaagkbncaa.AbP Go.Proofs.Ytoieblaagkbncaa.Num Go.Proofs.Ytoieblaagkbncaa.Pv
set_option maxRecDepth 100000
set_option maxHeartbeats 4000000
set_option linter.unusedVariables false
set_option linter.unusedSimpArgs false
def rdN (b : List Int) (big : Bool) (a : Int) : Hd := ⟨gt b big a 2, gt b big (a + 2) 2, gt b big (a + 2 + 2 + 4) 4, gt b big (a + 2 + 2 + 4 + 4) 4⟩
abbrev NT := List dNeed.T × Int
def updRN (b : List Int) (big : Bool) (acc : List dNeed.T) (a : Int) : NT := (acc, gt b big (a + 2 + 2) 4)
def SN (acc : List dNeed.T) : List OB := [.var [.ptr 0 0], .var [.osl 3 acc.length], .arr dNeed acc]
def cellN (t : NT) (p : PV) : List PV := t.1.flatMap (encP dNeed) ++ [.int .u32 t.2, p]
def TN (t : NT) : List OB := [.var [.ptr 0 0], .var [.osl 3 (t.1.length + 1)], .row 2 (t.1.length + 1) (cellN t .nilS)]
def NN (t : NT) (ax : List dAux.T) : List OB := [.var [.ptr 0 0], .var [.osl 3 (t.1.length + 1)], .row 2 (t.1.length + 1) (cellN t (.osl 5 ax.length)), .var [.oel 3 (t.1.length + 1) t.1.length 0], .arr dAux ax]
theorem cellN_ren (js : List Nat) (t : NT) (p : PV) : (cellN t p).map (renB js) = cellN t (renB js p) := by
  unfold cellN
  rw [List.map_append, renB_encs]
  rfl
theorem cellN_at (t : NT) (p : PV) : (cellN t p)[t.1.length * 2 + 1]? = some p := by
  unfold cellN
  rw [show t.1.length * 2 + 1 = t.1.length * dNeed.sz + 1 from rfl, last_at]
  rfl
theorem cellN_set (t : NT) (p q : PV) : (cellN t p).set (t.1.length * 2 + 1) q = cellN t q := by
  unfold cellN
  rw [show t.1.length * 2 + 1 = t.1.length * dNeed.sz + 1 from rfl, last_set]
  rfl
theorem cellN_len (t : NT) (p : PV) : (cellN t p).length = (t.1.length + 1) * 2 := by
  unfold cellN
  rw [List.length_append, encs_len, show dNeed.sz = 2 from rfl, List.length_cons, List.length_cons, List.length_nil]
  omega
theorem cellN_enc (t : NT) (ax : List dAux.T) : cellN t (.sl dAux ax) = (t.1 ++ [((t.2, ax, ()) : dNeed.T)]).flatMap (encP dNeed) := by
  unfold cellN
  rw [List.flatMap_append]
  rfl
abbrev auxG (b : List Int) (big : Bool) (a : Int) : dAux.T := (gt b big a 4, gt b big (a + 4) 2, gt b big (a + 4 + 2) 2, gt b big (a + 4 + 2 + 2) 4, ())
abbrev valN (b : List Int) (big : Bool) (a : Int) : Int := gt b big (a + 4 + 2 + 2 + 4) 4
abbrev updN (b : List Int) (big : Bool) (ax : List dAux.T) (a : Int) : List dAux.T := ax ++ [auxG b big a]
abbrev auxsG (b : List Int) (big : Bool) (many : Nat) (p : Int) : List dAux.T × Option (Int × Int) := chainG b 16 (valN b big) (updN b big) many p []
def innN (b : List Int) (big : Bool) (many : Nat) (p : Int) (t : NT) : List dNeed.T × Option (Int × Int) := (t.1 ++ [((t.2, (auxsG b big many p).1, ()) : dNeed.T)], (auxsG b big many p).2)
theorem chain_lenN {b : List Int} {size : Int} {val : Int → Int} {big : Bool} : ∀ (k : Nat) (a : Int) (x : List dAux.T), (chainG b size val (updN b big) k a x).1.length ≤ x.length + k
  | 0, a, x => Nat.le_refl _
  | k + 1, a, x => by
    unfold chainG
    have ih := chain_lenN (b := b) (size := size) (val := val) (big := big) k (a + val a) (updN b big x a)
    have hl : (updN b big x a).length = x.length + 1 := by unfold updN; rw [List.length_append]; rfl
    repeat' split
    all_goals (try simp only)
    all_goals omega
section
variable {K : PV → List OB → Prop} {b : List Int} {big : Bool}
theorem nread_spec {acc : List dNeed.T} {a : Int} (hB : B b) (hm : b.length ≤ 1000000) (hl : acc.length ≤ 1000000) (ha : 0 ≤ a) (ha2 : a + 16 ≤ b.length)
    (hk : K (.tup [.int .u64 (rdN b big a).v, .int .i64 (rdN b big a).m, .int .u64 (rdN b big a).f, .int .u64 (rdN b big a).n]) (rv b (a + 16) big :: TN (updRN b big acc a))) :
    PCalls Try.prog 38 [.ptr 1 0, .ptr 2 0] (rv b a big :: SN acc) K := by
  refine told_callS ver_Needs_1.told fun Z hZ => ?_
  unfold ver_Needs_1.c
  unfold SN at *
  have r1 := range2 hB (a + 2) big
  have r2 := range4 hB (a + 2 + 2) big
  refine W1 trivial @DD (And.intro @vget_spec (@caS [0])) ?_
  apply ca_SK [0]; (repeat any_goals first | exact mp_z | apply mp_s | exact rs_z | apply rs_t | apply rs_n | apply rs_c); (repeat any_goals first | (apply Lk.i; (simp only [↓LL, ↓reduceIte, Nat.reduceEqDiff]; (try rfl); done)) | (apply Rf.i; first | rfl | assumption) | (apply Vl.i; ((try simp (disch := omega) only [VV, ↓reduceIte, peqI, encP]); (try rfl); done)) | (apply Am.i; assumption) | (apply Pu.i; ((try simp only [↓reduceIte, UU, RR, Nat.reduceAdd, Nat.reduceEqDiff, cellsP, putP, fillQ, flatQ, shP, sh1, encP]); (try rfl); done)) | (apply Om.i; ((try simp only [MM]); (try omega); done)) | (apply Vw.i; first | exact As.sl _ _ | exact As.nil _ | exact As.arr _ _ _ _ rfl (by ((try simp only [MM]); (try omega); done)) | exact As.row _ _ _ _ _ rfl rfl | exact Src.str _ | exact Src.as (As.sl _ _) | exact Src.as (As.nil _) | exact Src.as (As.arr _ _ _ _ rfl (by ((try simp only [MM]); (try omega); done))) | exact Src.as (As.row _ _ _ _ _ rfl rfl))); (all_goals fail_if_success apply Mk.i)
  refine Wp1 trivial @DD (And.intro @q_appW (And.intro @vget_spec (@caS [0]))) ?_
  rw [show a + 16 = a + 2 + 2 + 4 + 4 + 4 by omega] at hk
  have hk' : K (.tup [.int .u64 (gt b big a 2), .int .i64 (gt b big (a + 2) 2), .int .u64 (gt b big (a + 2 + 2 + 4) 4), .int .u64 (gt b big (a + 2 + 2 + 4 + 4) 4)]) [rv b (a + 2 + 2 + 4 + 4 + 4) big, .var [.ptr 0 0], .var [.osl 3 (acc.length + 1)], .row 2 (acc.length + 1) ((cellN (updRN b big acc a) .nilS).map (renB (List.range 4)))] := by
    rw [cellN_ren]
    exact hk
  exact ⟨_, rfl, rfl, hk'⟩
theorem naux_spec {t : NT} {ax : List dAux.T} {a : Int} (hB : B b) (hm : b.length ≤ 1000000) (hl : ax.length ≤ 65535) (ha : 0 ≤ a) (ha2 : a + 16 ≤ b.length)
    (hk : K (.int .u64 (valN b big a)) (rv b (a + 16) big :: NN t (ax ++ [auxG b big a]))) :
    PCalls Try.prog 40 [.ptr 1 0, .ptr 4 0] (rv b a big :: NN t ax) K := by
  refine told_callS ver_Needs_2_1.told fun Z hZ => ?_
  unfold ver_Needs_2_1.c
  unfold NN at *
  have r1 := range4 hB a big
  have r2 := range2 hB (a + 4) big
  have r3 := range2 hB (a + 4 + 2) big
  have r4 := range4 hB (a + 4 + 2 + 2) big
  have h3 := cellN_at t (.osl 5 ax.length)
  refine W1 trivial (And.intro @DD @h3) trivial ?_
  iterate 4
    apply ca_SK [0]; (repeat any_goals first | exact mp_z | apply mp_s | exact rs_z | apply rs_t | apply rs_n | apply rs_c); (repeat any_goals first | (apply Lk.i; (simp only [↓LL, ↓reduceIte, Nat.reduceEqDiff]; (try rfl); done)) | (apply Rf.i; first | rfl | assumption) | (apply Vl.i; ((try simp (disch := omega) only [VV, ↓reduceIte, peqI, encP]); (try rfl); done)) | (apply Am.i; assumption) | (apply Pu.i; ((try simp only [↓reduceIte, UU, RR, Nat.reduceAdd, Nat.reduceEqDiff, cellsP, putP, fillQ, flatQ, shP, sh1, encP]); (try rfl); done)) | (apply Om.i; ((try simp only [MM]); (try omega); done)) | (apply Vw.i; first | exact As.sl _ _ | exact As.nil _ | exact As.arr _ _ _ _ rfl (by ((try simp only [MM]); (try omega); done)) | exact As.row _ _ _ _ _ rfl rfl | exact Src.str _ | exact Src.as (As.sl _ _) | exact Src.as (As.nil _) | exact Src.as (As.arr _ _ _ _ rfl (by ((try simp only [MM]); (try omega); done))) | exact Src.as (As.row _ _ _ _ _ rfl rfl))); (all_goals fail_if_success apply Mk.i)
    refine W1 trivial (And.intro @DD @h3) @vget_spec ?_
  have hS : List.all [PV.ptr 6 0, .oel 3 (t.1.length + 1) t.1.length 1, .ptr 4 0, .ptr 4 0] (sfP [rv b (a + 4 + 2 + 2 + 4) big, .var [.ptr 0 0], .var [.osl 3 (t.1.length + 1)], .row 2 (t.1.length + 1) (cellN t (.osl 5 ax.length)), .var [.oel 3 (t.1.length + 1) t.1.length 0], .arr dAux ax, .var [.int .u32 (getSpec b a 4 big).1, .int .u16 (getSpec b (a + 4) 2 big).1, .int .u16 (getSpec b (a + 4 + 2) 2 big).1, .int .u32 (getSpec b (a + 4 + 2 + 2) 4 big).1], .row 4 1 [.int .u32 (getSpec b a 4 big).1, .int .u16 (getSpec b (a + 4) 2 big).1, .int .u16 (getSpec b (a + 4 + 2) 2 big).1, .int .u32 (getSpec b (a + 4 + 2 + 2) 4 big).1]] 5) = true := by
    simp [sfP, Nat.beq_refl]
    exact ⟨rfl, rfl, rfl⟩
  have hset : putP (cellN t (.osl 5 ax.length)) (t.1.length * 2 + 1) [.osl 5 (ax.length + 1)] = cellN t (.osl 5 (ax.length + 1)) := cellN_set t _ _
  have hlen := cellN_len t (.osl 5 ax.length)
  refine W1 trivial (And.intro @DD (And.intro @h3 @hset)) (And.intro @vget_spec (And.intro @st_W (@caS [0]))) ?_
  rw [show a + 16 = a + 4 + 2 + 2 + 4 + 4 by omega] at hk
  have hk' : K (.int .u64 (valN b big a)) [rv b (a + 4 + 2 + 2 + 4 + 4) big, .var [.ptr 0 0], .var [.osl 3 (t.1.length + 1)], .row 2 (t.1.length + 1) ((cellN t (.osl 5 (ax.length + 1))).map (renB (List.range 6))), .var [.oel 3 (t.1.length + 1) t.1.length 0], .arr dAux (ax ++ [auxG b big a])] := by
    rw [cellN_ren]
    rw [List.length_append] at hk
    exact hk
  exact ⟨_, rfl, rfl, hk'⟩
theorem ninner_spec {t : NT} {many : Nat} {p : Int} (hB : B b) (hm : b.length ≤ 1000000) (hl : t.1.length ≤ 1000000) (h1 : 1 ≤ many) (h2 : many ≤ 65535) (hp : 0 ≤ p) (hp2 : p ≤ 10000000000)
    (hk1 : (innN b big many p t).2 = none → ∀ a', K .nilI (rv b a' big :: SN (innN b big many p t).1))
    (hk2 : ∀ q c, (innN b big many p t).2 = some (q, c) → ∀ s', K (eSpot q c) s') :
    PCalls Try.prog 39 [.int .i64 (many : Int), .ptr 2 0, .ptr 1 0] (rv b p big :: TN t) K := by
  refine told_callS ver_Needs_2.told fun Z hZ => ?_
  unfold ver_Needs_2.c
  unfold TN at *
  have htn : (((t.1.length + 1 : Nat) : Int) - 1).toNat = t.1.length := by omega
  refine W1 trivial (And.intro @DD @htn) trivial ?_
  have hv : ∀ e, Gh Z e [rv b p big, .var [.ptr 0 0], .var [.osl 3 (t.1.length + 1)], .row 2 (t.1.length + 1) (cellN t .nilS), .var [.oel 3 (t.1.length + 1) t.1.length 0]] e (rv b p big :: NN t []) := fun e => by
    have h := Gh.virtW (Z := Z) (e := e) dAux (s := [rv b p big, .var [.ptr 0 0], .var [.osl 3 (t.1.length + 1)], .row 2 (t.1.length + 1) (cellN t .nilS), .var [.oel 3 (t.1.length + 1) t.1.length 0]]) (b := 3) (j := t.1.length * 2 + 1) rfl (cellN_at t .nilS) (by decide)
    have h : Gh Z e _ e [rv b p big, .var [.ptr 0 0], .var [.osl 3 (t.1.length + 1)], .row 2 (t.1.length + 1) ((cellN t .nilS).set (t.1.length * 2 + 1) (.osl 5 0)), .var [.oel 3 (t.1.length + 1) t.1.length 0], .arr dAux []] := h
    rw [cellN_set] at h
    exact h
  refine caGh (hv _) ?_
  refine ca_F ⟨rfl⟩ (vchain_spec (S := NN t) (val := valN b big) (upd := updN b big) (x0 := []) hm (by decide) ⟨h1, h2⟩ ⟨hp, hp2⟩ (fun a => range4 hB (a + 4 + 2 + 2 + 4) big) List.length rfl (fun x a => by rw [List.length_append]; exact Nat.le_refl _) (fun x a K h3 h4 h5 hk => naux_spec hB hm h3 h4 h5 hk) (fun hok a' => ?_) (fun q c hno s' => ?_))
  · have hna := chain_lenN (b := b) (size := 16) (val := valN b big) (big := big) many p []
    have hk := hk1 hok 
    have hI : (innN b big many p t).1 = t.1 ++ [((t.2, (auxsG b big many p).1, ()) : dNeed.T)] := rfl
    rw [hI] at hk
    generalize (auxsG b big many p).1 = na at *
    refine Wn1 trivial (And.intro @DD @htn) trivial ?_
    have hf : ∀ e, Gh Z e (rv b a' big :: NN t na) e [rv b a' big, .var [.ptr 0 0], .var [.osl 3 (t.1.length + 1)], .arr dNeed (t.1 ++ [((t.2, na, ()) : dNeed.T)]), .var [.oel 3 (t.1.length + 1) t.1.length 0], .dead] := fun e => by
      have h := Gh.frzW (Z := Z) (e := e) (s := rv b a' big :: NN t na) (b := 3) (j := t.1.length * 2 + 1) (b' := 5) (D' := dAux) (l := na) rfl (cellN_at t _) rfl rfl
      have h : Gh Z e _ e [rv b a' big, .var [.ptr 0 0], .var [.osl 3 (t.1.length + 1)], .row 2 (t.1.length + 1) ((cellN t (.osl 5 na.length)).set (t.1.length * 2 + 1) (.sl dAux na)), .var [.oel 3 (t.1.length + 1) t.1.length 0], .dead] := h
      rw [cellN_set, cellN_enc] at h
      have hd := decs_encs dNeed (t.1 ++ [((t.2, na, ()) : dNeed.T)])
      rw [List.length_append] at hd
      exact h.trans (Gh.arr dNeed (b := 3) (n := t.1.length + 1) rfl hd (by decide))
    refine ghW (hf _) (w_ret ?_)
    have hk3 := hk a'
    unfold SN at hk3
    rw [List.length_append] at hk3
    exact ⟨_, rfl, rfl, hk3⟩
  · have := hk2 q c hno
    refine W1 trivial (And.intro @DD @htn) trivial ?_
    exact ⟨_, rfl, rfl, this _⟩
abbrev needsG (b : List Int) (big : Bool) : List dNeed.T × Option (Int × Int) := allG b 16 (rdN b big) (updRN b big) (innN b big) (b.length + 1) 0 []
theorem rdN_ok (hB : B b) (a : Int) : 0 ≤ (rdN b big a).m ∧ (rdN b big a).m ≤ 65535 ∧ 0 ≤ (rdN b big a).v ∧ (rdN b big a).v ≤ 65535 ∧ 0 ≤ (rdN b big a).f ∧ (rdN b big a).f ≤ 4294967295 ∧ 0 ≤ (rdN b big a).n ∧ (rdN b big a).n ≤ 4294967295 :=
  ⟨(range2 hB _ _).1, (range2 hB _ _).2, (range2 hB _ _).1, (range2 hB _ _).2, (range4 hB _ _).1, (range4 hB _ _).2, (range4 hB _ _).1, (range4 hB _ _).2⟩
theorem vneeds_spec (hB : Am (B b)) (hm : Om (b.length ≤ 100000)) (hk0 : b.length = 0 → K (.tup [.sl dNeed [], .nilI]) [])
    (hk1 : b.length ≠ 0 → (needsG b big).2 = none → K (.tup [.sl dNeed (needsG b big).1, .nilI]) [])
    (hk2 : b.length ≠ 0 → ∀ p c, (needsG b big).2 = some (p, c) → K (.tup [.sl dNeed [], eSpot p c]) []) :
    PCalls Try.prog 17 [.sl (.int .u8) b, .bool big] [] K := by
  have hB := hB.o
  have hm := hm.o
  refine told_callP ver_Needs.told fun Z hZ => ?_
  unfold ver_Needs.c
  by_cases h0 : b.length = 0
  · have := hk0 h0
    refine Wn1 trivial @DD trivial ?_
    apply x_nil 4 dNeed; (repeat any_goals first | exact mp_z | apply mp_s | exact rs_z | apply rs_t | apply rs_n | apply rs_c); (repeat any_goals first | (apply Lk.i; (simp only [↓LL, ↓reduceIte, Nat.reduceEqDiff]; (try rfl); done)) | (apply Rf.i; first | rfl | assumption) | (apply Vl.i; ((try simp (disch := omega) only [VV, ↓reduceIte, peqI, encP]); (try rfl); done)) | (apply Am.i; assumption) | (apply Pu.i; ((try simp only [↓reduceIte, UU, RR, Nat.reduceAdd, Nat.reduceEqDiff, cellsP, putP, fillQ, flatQ, shP, sh1, encP]); (try rfl); done)) | (apply Om.i; ((try simp only [MM]); (try omega); done)) | (apply Vw.i; first | exact As.sl _ _ | exact As.nil _ | exact As.arr _ _ _ _ rfl (by ((try simp only [MM]); (try omega); done)) | exact As.row _ _ _ _ _ rfl rfl | exact Src.str _ | exact Src.as (As.sl _ _) | exact Src.as (As.nil _) | exact Src.as (As.arr _ _ _ _ rfl (by ((try simp only [MM]); (try omega); done))) | exact Src.as (As.row _ _ _ _ _ rfl rfl))); (all_goals fail_if_success apply Mk.i)
    refine W1 trivial trivial trivial ?_
    exact this
  replace hk1 := hk1 h0
  replace hk2 := hk2 h0
  refine W1 trivial @DD (@aVirtV 2 0 dNeed) ?_
  refine ca_F ⟨rfl⟩ (vall_spec (S := SN) (T := TN) (rd := rdN b big) (updR := updRN b big) (inn := innN b big) (x0 := []) (N := b.length + 1) (by omega) (by decide) (by omega) (rdN_ok hB) List.length rfl (fun x a m p => Nat.le_of_eq (List.length_append))
    (fun x a K hx ha h1 hk => nread_spec hB (by omega) hx ha h1 hk) (fun x a m p K hx h1 h2 hp hp2 k1 k2 => ninner_spec (t := updRN b big x a) hB (by omega) hx h1 h2 hp hp2 k1 k2) (fun hok a' => ?_) (fun p c hno s' => ?_))
  · have := hk1 hok
    show pops _ _ _ _ _ _ [rv b a' big, .var [.ptr 0 0], .var [.osl 3 (needsG b big).1.length], .arr dNeed (needsG b big).1]
    refine Wn1 trivial @DD trivial ?_
    apply x_frz 4; (repeat any_goals first | exact mp_z | apply mp_s | exact rs_z | apply rs_t | apply rs_n | apply rs_c); (repeat any_goals first | (apply Lk.i; (simp only [↓LL, ↓reduceIte, Nat.reduceEqDiff]; (try rfl); done)) | (apply Rf.i; first | rfl | assumption) | (apply Vl.i; ((try simp (disch := omega) only [VV, ↓reduceIte, peqI, encP]); (try rfl); done)) | (apply Am.i; assumption) | (apply Pu.i; ((try simp only [↓reduceIte, UU, RR, Nat.reduceAdd, Nat.reduceEqDiff, cellsP, putP, fillQ, flatQ, shP, sh1, encP]); (try rfl); done)) | (apply Om.i; ((try simp only [MM]); (try omega); done)) | (apply Vw.i; first | exact As.sl _ _ | exact As.nil _ | exact As.arr _ _ _ _ rfl (by ((try simp only [MM]); (try omega); done)) | exact As.row _ _ _ _ _ rfl rfl | exact Src.str _ | exact Src.as (As.sl _ _) | exact Src.as (As.nil _) | exact Src.as (As.arr _ _ _ _ rfl (by ((try simp only [MM]); (try omega); done))) | exact Src.as (As.row _ _ _ _ _ rfl rfl))); (all_goals fail_if_success apply Mk.i)
    refine W1 trivial trivial trivial ?_
    exact this
  · have := hk2 p c hno
    refine Wn1 trivial @DD trivial ?_
    apply x_nil 4 dNeed; (repeat any_goals first | exact mp_z | apply mp_s | exact rs_z | apply rs_t | apply rs_n | apply rs_c); (repeat any_goals first | (apply Lk.i; (simp only [↓LL, ↓reduceIte, Nat.reduceEqDiff]; (try rfl); done)) | (apply Rf.i; first | rfl | assumption) | (apply Vl.i; ((try simp (disch := omega) only [VV, ↓reduceIte, peqI, encP]); (try rfl); done)) | (apply Am.i; assumption) | (apply Pu.i; ((try simp only [↓reduceIte, UU, RR, Nat.reduceAdd, Nat.reduceEqDiff, cellsP, putP, fillQ, flatQ, shP, sh1, encP]); (try rfl); done)) | (apply Om.i; ((try simp only [MM]); (try omega); done)) | (apply Vw.i; first | exact As.sl _ _ | exact As.nil _ | exact As.arr _ _ _ _ rfl (by ((try simp only [MM]); (try omega); done)) | exact As.row _ _ _ _ _ rfl rfl | exact Src.str _ | exact Src.as (As.sl _ _) | exact Src.as (As.nil _) | exact Src.as (As.arr _ _ _ _ rfl (by ((try simp only [MM]); (try omega); done))) | exact Src.as (As.row _ _ _ _ _ rfl rfl))); (all_goals fail_if_success apply Mk.i)
    refine W1 trivial trivial trivial ?_
    exact this
end
end Go.Proofs.Ytoieblaagkbncaa.PvW
