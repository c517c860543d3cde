/- The walk of PlanApart. No statement of the set is proved in this text. -/
import Derived.Test.YtalhipbbomagoaaPvPlanD
import Derived.Test.YtalhipbbomagoaaPvPlanT
namespace Go.Proofs.Ytalhipbbomagoaa.PvW
open Go.RowKit Go.Proofs.Ytalhipbbomagoaa.Cd Go.Proofs.Ytalhipbbomagoaa.AbP Go.Proofs.Ytalhipbbomagoaa.Num Go.Proofs.Ytalhipbbomagoaa.Pv
set_option maxRecDepth 100000
set_option maxHeartbeats 4000000
set_option linter.unusedVariables false
set_option linter.unusedSimpArgs false
def FF (L : List (Int × Int)) : List Int := L.map Prod.fst
def ZZ (L : List (Int × Int)) : List Int := L.map Prod.snd
theorem FF_app (L M : List (Int × Int)) : FF (L ++ M) = FF L ++ FF M := List.map_append
theorem ZZ_app (L M : List (Int × Int)) : ZZ (L ++ M) = ZZ L ++ ZZ M := List.map_append
theorem FF_len (L : List (Int × Int)) : (FF L).length = L.length := List.length_map _
theorem ZZ_len (L : List (Int × Int)) : (ZZ L).length = L.length := List.length_map _
theorem FF_get {L : List (Int × Int)} {k : Nat} {q : Int × Int} (h : L[k]? = some q) : (FF L).getD k 0 = q.1 := by
  unfold FF
  rw [List.getD_eq_getElem?_getD, List.getElem?_map, h]; rfl
theorem ZZ_get {L : List (Int × Int)} {k : Nat} {q : Int × Int} (h : L[k]? = some q) : (ZZ L).getD k 0 = q.2 := by
  unfold ZZ
  rw [List.getD_eq_getElem?_getD, List.getElem?_map, h]; rfl
theorem prsL_le {α : Type} {own : α → Prop} [DecidablePred own] {siz : α → Int} {S : List Int} : ∀ (l : List α) (k : Nat), (prsL own siz S l k).length ≤ l.length
  | [], k => Nat.le_refl 0
  | x :: l, k => by
    have ih := prsL_le (own := own) (siz := siz) (S := S) l (k + 1)
    show (if own x then (S.getD k 0, siz x) :: prsL own siz S l (k + 1) else prsL own siz S l (k + 1)).length ≤ _
    split
    · simp only [List.length_cons]; omega
    · simp only [List.length_cons]; omega
section
variable {K : PV → List OB → Prop} {w big : Bool} {o ab ty ma fl en st : Int} {segs : List dSeg.T} {secs : List dSec.T}
theorem lastB_in {f s : Int} (hs : 1 ≤ s) (h : f + s ≤ 65536) : lastB f s = f + s - 1 := by
  unfold lastB
  rw [if_neg (by omega)]
theorem rmeet_spec {a n b m : Int} (ha : Om (0 ≤ a ∧ 0 ≤ n ∧ a + n ≤ 65536)) (hb : Om (0 ≤ b ∧ 0 ≤ m ∧ b + m ≤ 65536)) (h : Am (n = 0 ∨ m = 0 ∨ dis (a, n) (b, m))) (hk : K (.bool false) []) : PCalls Try.prog 32 [.int .u64 a, .int .u64 n, .int .u64 b, .int .u64 m] [] K := by
  have ha := ha.o
  have hb := hb.o
  have h := h.o
  unfold dis at h
  dsimp only at h
  refine told_callP bezantref01_Meet.told fun Z hZ => ?_
  unfold bezantref01_Meet.c
  by_cases h1 : n = 0
  · refine W1 trivial @DD trivial ?_
    exact hk
  by_cases h2 : m = 0
  · refine W1 trivial @DD trivial ?_
    exact hk
  by_cases h3 : a ≤ b
  · have hl := lastB_in (f := a) (s := n) (by omega) (by omega)
    refine W1 trivial (And.intro @DD @hl) @rlast_spec ?_
    exact hk
  · have hl := lastB_in (f := b) (s := m) (by omega) (by omega)
    refine W1 trivial (And.intro @DD @hl) @rlast_spec ?_
    exact hk
theorem papart_core (he : 0 ≤ en ∧ en ≤ 18446744073709551615) (hG : ∀ s ∈ segs, SegG s) (hM : ∀ s ∈ secs, SecG s) :
    PCalls Try.prog 7 [.agg [.bool w, .bool big, .int .u8 o, .int .u8 ab, .int .u16 ty, .int .u16 ma, .int .u32 fl, .int .u64 en, .sl dSeg segs, .sl dSec secs, .int .i64 st]] [] fun p _ => p = .bool true := by
  refine told_callP bezantlaw15_PlanApart.told fun Z hZ => ?_
  unfold bezantlaw15_PlanApart.c
  refine W1 trivial @DD @up15_spec ?_
  refine few_spec (fun s hs => (hG s hs).2) (fun s hs => (hM s hs).2) (fun l20 l70 hs1 hs2 => ?_) ?_
  rotate_left
  · refine W1 trivial @DD trivial ?_
    rfl
  have hGN := segsN_of hG hs1
  have hMN := secsN_of hM hs2
  refine W1 trivial @DD trivial ?_
  refine plan_spec ⟨he⟩ ⟨hGN⟩ ⟨hMN⟩ (fun h0 => ?_) (fun h0 h1 => ?_) (fun h0 h1 => ?_)
  · refine W1 trivial @DD trivial ?_
    rfl
  · refine W1 trivial @DD trivial ?_
    rfl
  have ok := modelOk h0
  have l16 := ok.l16
  have l64 := ok.l64
  obtain ⟨lS, lT, size, inG, inC, align, bytes, apart⟩ := planOk ok hGN hMN h1
  have hS64 : ∀ x ∈ (planV w segs secs).S, True := fun _ _ => trivial
  generalize planV w segs secs = pv at *
  obtain ⟨ph, sh, sz, S, T, ov⟩ := pv
  dsimp only at *
  clear h1 h0
  have hwh : IntKind.wrap .u64 (hsz w) = hsz w := by cases w <;> rfl
  have hnp : 0 ≤ psz w * (segs.length : Int) ∧ psz w * (segs.length : Int) ≤ 896 := by cases w <;> simp only [psz, Bool.false_eq_true, ↓reduceIte] <;> omega
  have hw6 : IntKind.wrap .i64 (psz w * (segs.length : Int)) = psz w * (segs.length : Int) := by rw [wI64]; omega
  have hw7 : IntKind.wrap .u64 (psz w * (segs.length : Int)) = psz w * (segs.length : Int) := by rw [wU64]; omega
  have hns : 0 ≤ ssz w * ((secs.length : Int) + 1) ∧ ssz w * ((secs.length : Int) + 1) ≤ 4160 := by cases w <;> simp only [ssz, Bool.false_eq_true, ↓reduceIte] <;> omega
  have hw8 : IntKind.wrap .i64 (ssz w * ((secs.length : Int) + 1)) = ssz w * ((secs.length : Int) + 1) := by rw [wI64]; omega
  have hw9 : IntKind.wrap .u64 (ssz w * ((secs.length : Int) + 1)) = ssz w * ((secs.length : Int) + 1) := by rw [wU64]; omega
  refine W1 trivial (And.intro @DD (And.intro @hwh (And.intro @hw6 @hw7))) @sizes_spec ?_
  obtain ⟨L0, hL0⟩ : ∃ L0, L0 = [((0 : Int), hsz w), (ph, psz w * (segs.length : Int))] ++ (if secs.length = 0 then [] else [(sh, ssz w * ((secs.length : Int) + 1))]) := ⟨_, rfl⟩
  rw [← hL0] at bytes apart
  have hL0n : L0.length ≤ 3 := by rw [hL0]; split <;> simp
  refine ps_cut (fun e s => s = [.var [.bool w, .bool big, .int .u8 o, .int .u8 ab, .int .u16 ty, .int .u16 ma, .int .u32 fl, .int .u64 en, .sl dSeg segs, .sl dSec secs, .int .i64 st], .var [.int .u64 ph, .int .u64 sh, .int .u64 sz, .sl (.int .u64) S, .sl (.int .u64) T], .arr (.int .u64) (FF (L0)), .arr (.int .u64) (ZZ (L0))] ∧ e 1 = .ptr 0 0 ∧ e 3 = .bool true ∧ e 4 = .ptr 1 0 ∧ e 9 = .osl 2 (FF (L0)).length ∧ e 10 = .osl 3 (ZZ (L0)).length) (fun h => ?_) (fun h => ?_) ?_
  · have hzl : ¬ secs.length = 0 := by have := of_decide_eq_true h; omega
    rw [if_neg hzl] at hL0
    have q1 : FF L0 = [0, ph, sh] := by rw [hL0]; rfl
    have q2 : ZZ L0 = [hsz w, psz w * (segs.length : Int), ssz w * ((secs.length : Int) + 1)] := by rw [hL0]; rfl
    rw [q1, q2]
    apply x_arr 2 (.int .u64); (repeat any_goals first | exact mp_z | apply mp_s | exact rs_z | apply rs_t | apply rs_n | apply rs_c); (repeat any_goals first | (apply Lk.i; (simp only [↓LL, ↓reduceIte, Nat.reduceEqDiff]; (try rfl); done)) | (apply Rf.i; first | rfl | assumption) | (apply Vl.i; ((try simp (disch := omega) only [VV, ↓reduceIte, peqI, encP]); (try rfl); done)) | (apply Am.i; assumption) | (apply Pu.i; ((try simp only [↓reduceIte, UU, RR, Nat.reduceAdd, Nat.reduceEqDiff, cellsP, putP, fillQ, flatQ, shP, sh1, encP]); (try rfl); done)) | (apply Om.i; ((try simp only [MM]); (try omega); done)) | (apply Vw.i; first | exact As.sl _ _ | exact As.nil _ | exact As.arr _ _ _ _ rfl (by ((try simp only [MM]); (try omega); done)) | exact As.row _ _ _ _ _ rfl rfl | exact Src.str _ | exact Src.as (As.sl _ _) | exact Src.as (As.nil _) | exact Src.as (As.arr _ _ _ _ rfl (by ((try simp only [MM]); (try omega); done))) | exact Src.as (As.row _ _ _ _ _ rfl rfl))); (all_goals fail_if_success apply Mk.i)
    apply x_arr 3 (.int .u64); (repeat any_goals first | exact mp_z | apply mp_s | exact rs_z | apply rs_t | apply rs_n | apply rs_c); (repeat any_goals first | (apply Lk.i; (simp only [↓LL, ↓reduceIte, Nat.reduceEqDiff]; (try rfl); done)) | (apply Rf.i; first | rfl | assumption) | (apply Vl.i; ((try simp (disch := omega) only [VV, ↓reduceIte, peqI, encP]); (try rfl); done)) | (apply Am.i; assumption) | (apply Pu.i; ((try simp only [↓reduceIte, UU, RR, Nat.reduceAdd, Nat.reduceEqDiff, cellsP, putP, fillQ, flatQ, shP, sh1, encP]); (try rfl); done)) | (apply Om.i; ((try simp only [MM]); (try omega); done)) | (apply Vw.i; first | exact As.sl _ _ | exact As.nil _ | exact As.arr _ _ _ _ rfl (by ((try simp only [MM]); (try omega); done)) | exact As.row _ _ _ _ _ rfl rfl | exact Src.str _ | exact Src.as (As.sl _ _) | exact Src.as (As.nil _) | exact Src.as (As.arr _ _ _ _ rfl (by ((try simp only [MM]); (try omega); done))) | exact Src.as (As.row _ _ _ _ _ rfl rfl))); (all_goals fail_if_success apply Mk.i)
    refine W1 trivial (And.intro @DD (And.intro @hw8 @hw9)) (@oArr 4 (.int .u64)) ?_
    refine W1 trivial (And.intro @DD (And.intro @hw8 @hw9)) (@oArr 5 (.int .u64)) ?_
    exact ⟨_, _, Gh.sel [0, 1, 2, 3] (by decide) (hz0 hZ), rfl, by exact lk trivial, by exact lk trivial, by exact lk trivial, by exact lk trivial, by exact lk trivial⟩
  · have hzl : secs.length = 0 := by have := of_decide_eq_false h; omega
    rw [if_pos hzl] at hL0
    have q1 : FF L0 = [0, ph] := by rw [hL0]; rfl
    have q2 : ZZ L0 = [hsz w, psz w * (segs.length : Int)] := by rw [hL0]; rfl
    rw [q1, q2]
    apply x_arr 2 (.int .u64); (repeat any_goals first | exact mp_z | apply mp_s | exact rs_z | apply rs_t | apply rs_n | apply rs_c); (repeat any_goals first | (apply Lk.i; (simp only [↓LL, ↓reduceIte, Nat.reduceEqDiff]; (try rfl); done)) | (apply Rf.i; first | rfl | assumption) | (apply Vl.i; ((try simp (disch := omega) only [VV, ↓reduceIte, peqI, encP]); (try rfl); done)) | (apply Am.i; assumption) | (apply Pu.i; ((try simp only [↓reduceIte, UU, RR, Nat.reduceAdd, Nat.reduceEqDiff, cellsP, putP, fillQ, flatQ, shP, sh1, encP]); (try rfl); done)) | (apply Om.i; ((try simp only [MM]); (try omega); done)) | (apply Vw.i; first | exact As.sl _ _ | exact As.nil _ | exact As.arr _ _ _ _ rfl (by ((try simp only [MM]); (try omega); done)) | exact As.row _ _ _ _ _ rfl rfl | exact Src.str _ | exact Src.as (As.sl _ _) | exact Src.as (As.nil _) | exact Src.as (As.arr _ _ _ _ rfl (by ((try simp only [MM]); (try omega); done))) | exact Src.as (As.row _ _ _ _ _ rfl rfl))); (all_goals fail_if_success apply Mk.i)
    apply x_arr 3 (.int .u64); (repeat any_goals first | exact mp_z | apply mp_s | exact rs_z | apply rs_t | apply rs_n | apply rs_c); (repeat any_goals first | (apply Lk.i; (simp only [↓LL, ↓reduceIte, Nat.reduceEqDiff]; (try rfl); done)) | (apply Rf.i; first | rfl | assumption) | (apply Vl.i; ((try simp (disch := omega) only [VV, ↓reduceIte, peqI, encP]); (try rfl); done)) | (apply Am.i; assumption) | (apply Pu.i; ((try simp only [↓reduceIte, UU, RR, Nat.reduceAdd, Nat.reduceEqDiff, cellsP, putP, fillQ, flatQ, shP, sh1, encP]); (try rfl); done)) | (apply Om.i; ((try simp only [MM]); (try omega); done)) | (apply Vw.i; first | exact As.sl _ _ | exact As.nil _ | exact As.arr _ _ _ _ rfl (by ((try simp only [MM]); (try omega); done)) | exact As.row _ _ _ _ _ rfl rfl | exact Src.str _ | exact Src.as (As.sl _ _) | exact Src.as (As.nil _) | exact Src.as (As.arr _ _ _ _ rfl (by ((try simp only [MM]); (try omega); done))) | exact Src.as (As.row _ _ _ _ _ rfl rfl))); (all_goals fail_if_success apply Mk.i)
    refine W1 trivial @DD trivial ?_
    exact ⟨_, _, Gh.sel [0, 1, 2, 3] (by decide) (hz0 hZ), rfl, by exact lk trivial, by exact lk trivial, by exact lk trivial, by exact lk trivial, by exact lk trivial⟩
  clear hL0
  rintro e s ⟨rfl, e1, e3, e4, e9, e10⟩
  refine W1 (And.intro @e1 (And.intro @e3 (And.intro @e4 (And.intro @e9 @e10)))) @DD trivial ?_
  refine w_lpG (fun q e s => ∃ i : Nat, q + i = segs.length ∧ s = [.var [.bool w, .bool big, .int .u8 o, .int .u8 ab, .int .u16 ty, .int .u16 ma, .int .u32 fl, .int .u64 en, .sl dSeg segs, .sl dSec secs, .int .i64 st], .var [.int .u64 ph, .int .u64 sh, .int .u64 sz, .sl (.int .u64) S, .sl (.int .u64) T], .arr (.int .u64) (FF (L0 ++ prsL ownG sizG S (segs.take i) 0)), .arr (.int .u64) (ZZ (L0 ++ prsL ownG sizG S (segs.take i) 0))] ∧ e 1 = .ptr 0 0 ∧ e 3 = .bool true ∧ e 4 = .ptr 1 0 ∧ e 9 = .osl 2 (FF (L0 ++ prsL ownG sizG S (segs.take i) 0)).length ∧ e 10 = .osl 3 (ZZ (L0 ++ prsL ownG sizG S (segs.take i) 0)).length ∧ e 11 = .int .i64 i) segs.length ?_ ?_
  · have hn : L0 ++ prsL ownG sizG S (segs.take 0) 0 = L0 := by rw [List.take_zero]; exact List.append_nil _
    rw [← hn] at e9 e10
    exact ⟨0, rfl, by rw [hn], by exact lk @e1, by exact lk @e3, by exact lk @e4, by exact lk @e9, by exact lk @e10, by exact lk trivial⟩
  clear e1 e3 e4 e9 e10
  rintro q e s ⟨i, hi, rfl, e1, e3, e4, e9, e10, e11⟩
  have hLl : (L0 ++ prsL ownG sizG S (segs.take i) 0).length ≤ 3 + i := by
    have := prsL_le (own := ownG) (siz := sizG) (S := S) (segs.take i) 0
    rw [List.length_take] at this
    rw [List.length_append]
    omega
  by_cases hq : i < segs.length
  · obtain ⟨x, hx⟩ : ∃ x, segs[i]? = some x := ⟨segs[i], List.getElem?_eq_getElem hq⟩
    have hxm := List.mem_of_getElem? hx
    have hx0 := hGN x hxm
    have hz := segC_zero (ok.seg x hxm)
    have hsn : L0 ++ prsL ownG sizG S (segs.take (i + 1)) 0 = (L0 ++ prsL ownG sizG S (segs.take i) 0) ++ (if ownG x then [(S.getD i 0, sizG x)] else []) := by
      rw [List.take_add_one, hx]
      show L0 ++ prsL ownG sizG S (segs.take i ++ [x]) 0 = _
      rw [prsL_snoc, List.length_take, show min i segs.length = i by omega, Nat.zero_add, List.append_assoc]
    have hFl := FF_len (L0 ++ prsL ownG sizG S (segs.take i) 0)
    have hZl := ZZ_len (L0 ++ prsL ownG sizG S (segs.take i) 0)
    generalize L0 ++ prsL ownG sizG S (segs.take i) 0 = L at *
    have hSi : S[i]? = some (S.getD i 0) := by rw [List.getD_eq_getElem?_getD, List.getElem?_eq_getElem (by omega)]; rfl
    have hin := inG i x hx
    have hal := align i x hx
    have hp1 : @Eq Int x.1 1 → @LT.lt Int _ 1 x.2.2.2.2.2.1 → (((S.getD i 0 - x.2.2.1) % 18446744073709551616) % x.2.2.2.2.2.1 : Int) = 0 := fun h1 h2 => by
      rw [Int.emod_emod_of_dvd _ (pow_dvd ⟨by omega, hx0.al.2⟩ ((andI_pow hx0.al).1 hz.1)).1]
      exact hal h1 h2
    have hpl := hz.2.1
    obtain ⟨sty, sfl, sva, spa, sme, sal, ⟨si, so, ss, sown, u⟩, u2⟩ := x
    obtain ⟨sva, rfl⟩ : ∃ v : Int, v = sva := ⟨sva, rfl⟩
    obtain ⟨sal, rfl⟩ : ∃ v : Int, v = sal := ⟨sal, rfl⟩
    obtain ⟨si, rfl⟩ : ∃ v : Int, v = si := ⟨si, rfl⟩
    obtain ⟨so, rfl⟩ : ∃ v : Int, v = so := ⟨so, rfl⟩
    obtain ⟨ss, rfl⟩ : ∃ v : Int, v = ss := ⟨ss, rfl⟩
    dsimp only at hp1 hin hpl
    have nal := hx0.al
    have nal : 0 ≤ sal ∧ sal ≤ 18446744073709551615 := nal
    have hwv : IntKind.wrap .u64 (S.getD i 0 - sva) = (S.getD i 0 - sva) % 18446744073709551616 := wU64 _
    have hrem : 1 < sal → Ab.abin .rem (.int .u64 ((S.getD i 0 - sva) % 18446744073709551616)) (.int .u64 sal) = some (.int .u64 (((S.getD i 0 - sva) % 18446744073709551616) % sal)) := fun h => rem_c (Int.emod_nonneg _ (by decide)) (by omega)
    by_cases h4 : @Eq Int si (-1)
    · have hsn : L0 ++ prsL ownG sizG S (segs.take (i + 1)) 0 = L ++ [(S.getD i 0, ss)] := by rw [hsn]; exact congrArg (L ++ ·) (if_pos h4)
      have q1 : FF (L0 ++ prsL ownG sizG S (segs.take (i + 1)) 0) = FF L ++ [S.getD i 0] := by rw [hsn, FF_app]; rfl
      have q2 : ZZ (L0 ++ prsL ownG sizG S (segs.take (i + 1)) 0) = ZZ L ++ [ss] := by rw [hsn, ZZ_app]; rfl
      have q3 : (FF L ++ [S.getD i 0]).length = (FF L).length + 1 := by simp
      have q4 : (ZZ L ++ [ss]).length = (ZZ L).length + 1 := by simp
      by_cases h5 : @Eq Int sty 1
      · by_cases h6 : 1 < sal
        · have hz1 := hp1 h5 h6
          have hr := hrem h6
          have hmx : (if (1 : Int) > sal then 1 else sal) = sal := if_neg (by omega)
          refine W1 (And.intro @e1 (And.intro @e3 (And.intro @e4 (And.intro @e9 (And.intro @e10 @e11))))) (And.intro @DD (And.intro @hwv (And.intro @hmx (And.intro @hr @hz1)))) (@oArr 5 (.int .u64)) ?_
          refine W1 (And.intro @e1 (And.intro @e3 (And.intro @e4 (And.intro @e9 (And.intro @e10 @e11))))) (And.intro @DD (And.intro @hwv (And.intro @hmx (And.intro @hr @hz1)))) (@oArr 6 (.int .u64)) ?_
          exact ⟨q - 1, by omega, _, _, Gh.sel [0, 1, 2, 3] (by decide) (hz0 hZ), i + 1, by omega, by rw [q1, q2]; rfl, by exact lk @e1, by exact lk @e3, by exact lk @e4, by rw [q1, q3]; exact lk @e9, by rw [q2, q4]; exact lk @e10, by exact lk @e11⟩
        · refine W1 (And.intro @e1 (And.intro @e3 (And.intro @e4 (And.intro @e9 (And.intro @e10 @e11))))) @DD (@oArr 5 (.int .u64)) ?_
          refine W1 (And.intro @e1 (And.intro @e3 (And.intro @e4 (And.intro @e9 (And.intro @e10 @e11))))) @DD (@oArr 6 (.int .u64)) ?_
          exact ⟨q - 1, by omega, _, _, Gh.sel [0, 1, 2, 3] (by decide) (hz0 hZ), i + 1, by omega, by rw [q1, q2]; rfl, by exact lk @e1, by exact lk @e3, by exact lk @e4, by rw [q1, q3]; exact lk @e9, by rw [q2, q4]; exact lk @e10, by exact lk @e11⟩
      · refine W1 (And.intro @e1 (And.intro @e3 (And.intro @e4 (And.intro @e9 (And.intro @e10 @e11))))) @DD (@oArr 5 (.int .u64)) ?_
        refine W1 (And.intro @e1 (And.intro @e3 (And.intro @e4 (And.intro @e9 (And.intro @e10 @e11))))) @DD (@oArr 6 (.int .u64)) ?_
        exact ⟨q - 1, by omega, _, _, Gh.sel [0, 1, 2, 3] (by decide) (hz0 hZ), i + 1, by omega, by rw [q1, q2]; rfl, by exact lk @e1, by exact lk @e3, by exact lk @e4, by rw [q1, q3]; exact lk @e9, by rw [q2, q4]; exact lk @e10, by exact lk @e11⟩
    · have hin := hin h4
      obtain ⟨g1, g2, -, -, y, g3, g4, -⟩ := place_in hpl h4
      have hSn : S[si.toNat]? = some (S.getD si.toNat 0) := by rw [List.getD_eq_getElem?_getD, List.getElem?_eq_getElem (by omega)]; rfl
      have hwo : IntKind.wrap .u64 (S.getD si.toNat 0 + so) = S.getD i 0 := by rw [wU64, hin]
      have hsn : L0 ++ prsL ownG sizG S (segs.take (i + 1)) 0 = L := by rw [hsn]; exact (congrArg (L ++ ·) (if_neg h4)).trans (List.append_nil L)
      have q1 : FF (L0 ++ prsL ownG sizG S (segs.take (i + 1)) 0) = FF L := by rw [hsn]
      have q2 : ZZ (L0 ++ prsL ownG sizG S (segs.take (i + 1)) 0) = ZZ L := by rw [hsn]
      have q3 : (FF L).length = (FF L).length := rfl
      have q4 : (ZZ L).length = (ZZ L).length := rfl
      by_cases h5 : @Eq Int sty 1
      · by_cases h6 : 1 < sal
        · have hz1 := hp1 h5 h6
          have hr := hrem h6
          have hmx : (if (1 : Int) > sal then 1 else sal) = sal := if_neg (by omega)
          refine W1 (And.intro @e1 (And.intro @e3 (And.intro @e4 (And.intro @e9 (And.intro @e10 @e11))))) (And.intro @DD (And.intro @hwo (And.intro @hwv (And.intro @hmx (And.intro @hr @hz1))))) trivial ?_
          exact ⟨q - 1, by omega, _, _, Gh.sel [0, 1, 2, 3] (by decide) (hz0 hZ), i + 1, by omega, by rw [q1, q2]; rfl, by exact lk @e1, by exact lk @e3, by exact lk @e4, by rw [q1, q3]; exact lk @e9, by rw [q2, q4]; exact lk @e10, by exact lk @e11⟩
        · refine W1 (And.intro @e1 (And.intro @e3 (And.intro @e4 (And.intro @e9 (And.intro @e10 @e11))))) (And.intro @DD @hwo) trivial ?_
          exact ⟨q - 1, by omega, _, _, Gh.sel [0, 1, 2, 3] (by decide) (hz0 hZ), i + 1, by omega, by rw [q1, q2]; rfl, by exact lk @e1, by exact lk @e3, by exact lk @e4, by rw [q1, q3]; exact lk @e9, by rw [q2, q4]; exact lk @e10, by exact lk @e11⟩
      · refine W1 (And.intro @e1 (And.intro @e3 (And.intro @e4 (And.intro @e9 (And.intro @e10 @e11))))) (And.intro @DD @hwo) trivial ?_
        exact ⟨q - 1, by omega, _, _, Gh.sel [0, 1, 2, 3] (by decide) (hz0 hZ), i + 1, by omega, by rw [q1, q2]; rfl, by exact lk @e1, by exact lk @e3, by exact lk @e4, by rw [q1, q3]; exact lk @e9, by rw [q2, q4]; exact lk @e10, by exact lk @e11⟩
  obtain rfl : i = segs.length := by omega
  rw [List.take_length] at e9 e10 hLl ⊢
  obtain ⟨L1, hL1⟩ : ∃ L1, L1 = L0 ++ prsL ownG sizG S segs 0 := ⟨_, rfl⟩
  rw [← hL1] at e9 e10 hLl bytes apart ⊢
  refine W1 (And.intro @e1 (And.intro @e3 (And.intro @e4 (And.intro @e9 (And.intro @e10 @e11))))) @DD trivial ?_
  refine w_lpG (fun q e s => ∃ i : Nat, q + i = secs.length ∧ s = [.var [.bool w, .bool big, .int .u8 o, .int .u8 ab, .int .u16 ty, .int .u16 ma, .int .u32 fl, .int .u64 en, .sl dSeg segs, .sl dSec secs, .int .i64 st], .var [.int .u64 ph, .int .u64 sh, .int .u64 sz, .sl (.int .u64) S, .sl (.int .u64) T], .arr (.int .u64) (FF (L1 ++ prsL ownC sizC T (secs.take i) 0)), .arr (.int .u64) (ZZ (L1 ++ prsL ownC sizC T (secs.take i) 0))] ∧ e 1 = .ptr 0 0 ∧ e 3 = .bool true ∧ e 4 = .ptr 1 0 ∧ e 9 = .osl 2 (FF (L1 ++ prsL ownC sizC T (secs.take i) 0)).length ∧ e 10 = .osl 3 (ZZ (L1 ++ prsL ownC sizC T (secs.take i) 0)).length ∧ e 13 = .int .i64 i) secs.length ?_ ?_
  · have hn : L1 ++ prsL ownC sizC T (secs.take 0) 0 = L1 := by rw [List.take_zero]; exact List.append_nil _
    rw [← hn] at e9 e10
    exact ⟨0, rfl, by rw [hn], by exact lk @e1, by exact lk @e3, by exact lk @e4, by exact lk @e9, by exact lk @e10, by exact lk trivial⟩
  clear e1 e3 e4 e9 e10 e11 hi
  rintro q e s ⟨i, hi, rfl, e1, e3, e4, e9, e10, e13⟩
  have hLl2 : (L1 ++ prsL ownC sizC T (secs.take i) 0).length ≤ 19 + i := by
    have := prsL_le (own := ownC) (siz := sizC) (S := T) (secs.take i) 0
    rw [List.length_take] at this
    rw [List.length_append]
    omega
  by_cases hq : i < secs.length
  · obtain ⟨x, hx⟩ : ∃ x, secs[i]? = some x := ⟨secs[i], List.getElem?_eq_getElem hq⟩
    have hxm := List.mem_of_getElem? hx
    have hx0 := hMN x hxm
    have hz := secC_zero (ok.sec x hxm)
    have hsn : L1 ++ prsL ownC sizC T (secs.take (i + 1)) 0 = (L1 ++ prsL ownC sizC T (secs.take i) 0) ++ (if ownC x then [(T.getD i 0, sizC x)] else []) := by
      rw [List.take_add_one, hx]
      show L1 ++ prsL ownC sizC T (secs.take i ++ [x]) 0 = _
      rw [prsL_snoc, List.length_take, show min i secs.length = i by omega, Nat.zero_add, List.append_assoc]
    have hFl := FF_len (L1 ++ prsL ownC sizC T (secs.take i) 0)
    have hZl := ZZ_len (L1 ++ prsL ownC sizC T (secs.take i) 0)
    generalize L1 ++ prsL ownC sizC T (secs.take i) 0 = L at *
    have hTi : T[i]? = some (T.getD i 0) := by rw [List.getD_eq_getElem?_getD, List.getElem?_eq_getElem (by omega)]; rfl
    have hin := inC i x hx
    have hpl := hz.1
    obtain ⟨nm, sty, sfl, sad, ssi, sli, ssf, sal, sen, ⟨si, so, ss, sown, u⟩, u2⟩ := x
    obtain ⟨si, rfl⟩ : ∃ v : Int, v = si := ⟨si, rfl⟩
    obtain ⟨so, rfl⟩ : ∃ v : Int, v = so := ⟨so, rfl⟩
    obtain ⟨ss, rfl⟩ : ∃ v : Int, v = ss := ⟨ss, rfl⟩
    dsimp only at hin hpl
    by_cases h4 : @Eq Int si (-1)
    · have hsn : L1 ++ prsL ownC sizC T (secs.take (i + 1)) 0 = L ++ [(T.getD i 0, ss)] := by rw [hsn]; exact congrArg (L ++ ·) (if_pos h4)
      have q1 : FF (L1 ++ prsL ownC sizC T (secs.take (i + 1)) 0) = FF L ++ [T.getD i 0] := by rw [hsn, FF_app]; rfl
      have q2 : ZZ (L1 ++ prsL ownC sizC T (secs.take (i + 1)) 0) = ZZ L ++ [ss] := by rw [hsn, ZZ_app]; rfl
      have q3 : (FF L ++ [T.getD i 0]).length = (FF L).length + 1 := by simp
      have q4 : (ZZ L ++ [ss]).length = (ZZ L).length + 1 := by simp
      refine W1 (And.intro @e1 (And.intro @e3 (And.intro @e4 (And.intro @e9 (And.intro @e10 @e13))))) @DD (@oArr 5 (.int .u64)) ?_
      refine W1 (And.intro @e1 (And.intro @e3 (And.intro @e4 (And.intro @e9 (And.intro @e10 @e13))))) @DD (@oArr 6 (.int .u64)) ?_
      exact ⟨q - 1, by omega, _, _, Gh.sel [0, 1, 2, 3] (by decide) (hz0 hZ), i + 1, by omega, by rw [q1, q2]; rfl, by exact lk @e1, by exact lk @e3, by exact lk @e4, by rw [q1, q3]; exact lk @e9, by rw [q2, q4]; exact lk @e10, by exact lk @e13⟩
    · have hin := hin h4
      obtain ⟨g1, g2, -, -, y, g3, g4, -⟩ := place_in hpl h4
      have hSn : S[si.toNat]? = some (S.getD si.toNat 0) := by rw [List.getD_eq_getElem?_getD, List.getElem?_eq_getElem (by omega)]; rfl
      have hwo : IntKind.wrap .u64 (S.getD si.toNat 0 + so) = T.getD i 0 := by rw [wU64, hin]
      have hsn : L1 ++ prsL ownC sizC T (secs.take (i + 1)) 0 = L := by rw [hsn]; exact (congrArg (L ++ ·) (if_neg h4)).trans (List.append_nil L)
      have q1 : FF (L1 ++ prsL ownC sizC T (secs.take (i + 1)) 0) = FF L := by rw [hsn]
      have q2 : ZZ (L1 ++ prsL ownC sizC T (secs.take (i + 1)) 0) = ZZ L := by rw [hsn]
      refine W1 (And.intro @e1 (And.intro @e3 (And.intro @e4 (And.intro @e9 (And.intro @e10 @e13))))) (And.intro @DD @hwo) trivial ?_
      exact ⟨q - 1, by omega, _, _, Gh.sel [0, 1, 2, 3] (by decide) (hz0 hZ), i + 1, by omega, by rw [q1, q2]; rfl, by exact lk @e1, by exact lk @e3, by exact lk @e4, by rw [q1]; exact lk @e9, by rw [q2]; exact lk @e10, by exact lk @e13⟩
  obtain rfl : i = secs.length := by omega
  rw [List.take_length] at e9 e10 hLl2 ⊢
  obtain ⟨L, hL⟩ : ∃ L, L = L1 ++ prsL ownC sizC T secs 0 := ⟨_, rfl⟩
  rw [← hL] at e9 e10 hLl2 bytes apart ⊢
  clear hL hL1
  have hFl := FF_len L
  have hZl := ZZ_len L
  rw [hFl] at e9
  rw [hZl] at e10
  refine W1 (And.intro @e1 (And.intro @e3 (And.intro @e4 (And.intro @e9 (And.intro @e10 @e13))))) @DD trivial ?_
  refine w_lpG (fun q e s => ∃ k : Nat, q + k = L.length ∧ s = [.var [.bool w, .bool big, .int .u8 o, .int .u8 ab, .int .u16 ty, .int .u16 ma, .int .u32 fl, .int .u64 en, .sl dSeg segs, .sl dSec secs, .int .i64 st], .var [.int .u64 ph, .int .u64 sh, .int .u64 sz, .sl (.int .u64) S, .sl (.int .u64) T], .arr (.int .u64) (FF (L)), .arr (.int .u64) (ZZ (L))] ∧ e 1 = .ptr 0 0 ∧ e 3 = .bool true ∧ e 4 = .ptr 1 0 ∧ e 9 = .osl 2 L.length ∧ e 10 = .osl 3 L.length ∧ e 15 = .int .i64 k) L.length ?_ ?_
  · exact ⟨0, rfl, rfl, by exact lk @e1, by exact lk @e3, by exact lk @e4, by exact lk @e9, by exact lk @e10, by exact lk trivial⟩
  clear e1 e3 e4 e9 e10 e13 hi
  rintro q e s ⟨k, hk, rfl, e1, e3, e4, e9, e10, e15⟩
  by_cases hq : k < L.length
  · obtain ⟨y, hy⟩ : ∃ y, L[k]? = some y := ⟨L[k], List.getElem?_eq_getElem hq⟩
    have hb := bytes y (List.mem_of_getElem? hy)
    have hy1 := FF_get hy
    have hy2 := ZZ_get hy
    have hap : ∀ (i : Nat) (x : Int × Int), i < k → L[i]? = some x → x.2 = 0 ∨ y.2 = 0 ∨ dis x y := fun i x hik hx => by
      obtain ⟨h1, rfl⟩ := List.getElem?_eq_some_iff.1 hx
      obtain ⟨h2, rfl⟩ := List.getElem?_eq_some_iff.1 hy
      exact List.pairwise_iff_getElem.1 apart i k h1 h2 hik
    obtain ⟨b, m⟩ := y
    dsimp only at hb hy1 hy2 hap
    have hwi : withinB b m sz = true := by unfold withinB; rw [decide_eq_true (by omega), decide_eq_true (by omega)]; rfl
    refine W1 (And.intro @e1 (And.intro @e3 (And.intro @e4 (And.intro @e9 (And.intro @e10 @e15))))) (And.intro @DD (And.intro @hy1 (And.intro @hy2 @hwi))) @rwithin_spec ?_
    refine w_lpG (fun q e s => ∃ i : Nat, q + i = k ∧ s = [.var [.bool w, .bool big, .int .u8 o, .int .u8 ab, .int .u16 ty, .int .u16 ma, .int .u32 fl, .int .u64 en, .sl dSeg segs, .sl dSec secs, .int .i64 st], .var [.int .u64 ph, .int .u64 sh, .int .u64 sz, .sl (.int .u64) S, .sl (.int .u64) T], .arr (.int .u64) (FF (L)), .arr (.int .u64) (ZZ (L))] ∧ e 1 = .ptr 0 0 ∧ e 3 = .bool true ∧ e 4 = .ptr 1 0 ∧ e 9 = .osl 2 L.length ∧ e 10 = .osl 3 L.length ∧ e 15 = .int .i64 k ∧ e 17 = .int .i64 i) k ?_ ?_
    · exact ⟨0, rfl, rfl, by exact lk @e1, by exact lk @e3, by exact lk @e4, by exact lk @e9, by exact lk @e10, by exact lk @e15, by exact lk trivial⟩
    clear e1 e3 e4 e9 e10 e15
    rintro q2 e s ⟨i, hi, rfl, e1, e3, e4, e9, e10, e15, e17⟩
    by_cases hik : i < k
    · obtain ⟨x, hx⟩ : ∃ x, L[i]? = some x := ⟨L[i], List.getElem?_eq_getElem (by omega)⟩
      have hxb := bytes x (List.mem_of_getElem? hx)
      have hx1 := FF_get hx
      have hx2 := ZZ_get hx
      have hap := hap i x hik hx
      obtain ⟨a, n⟩ := x
      dsimp only at hxb hx1 hx2 hap
      refine W1 (And.intro @e1 (And.intro @e3 (And.intro @e4 (And.intro @e9 (And.intro @e10 (And.intro @e15 @e17)))))) @DD trivial ?_
      rw [hx1, hx2, hy1, hy2]
      refine rmeet_spec ⟨by omega⟩ ⟨by omega⟩ ⟨hap⟩ ?_
      refine W1 (And.intro @e1 (And.intro @e3 (And.intro @e4 (And.intro @e9 (And.intro @e10 (And.intro @e15 @e17)))))) @DD trivial ?_
      exact ⟨q2 - 1, by omega, _, _, Gh.sel [0, 1, 2, 3] (by decide) (hz0 hZ), i + 1, by omega, rfl, by exact lk @e1, by exact lk @e3, by exact lk @e4, by exact lk @e9, by exact lk @e10, by exact lk @e15, by exact lk @e17⟩
    · refine W1 (And.intro @e1 (And.intro @e3 (And.intro @e4 (And.intro @e9 (And.intro @e10 (And.intro @e15 @e17)))))) @DD trivial ?_
      exact ⟨q - 1, by omega, _, _, Gh.sel [0, 1, 2, 3] (by decide) (hz0 hZ), k + 1, by omega, rfl, by exact lk @e1, by exact lk @e3, by exact lk @e4, by exact lk @e9, by exact lk @e10, by exact lk @e15⟩
  · refine W1 (And.intro @e1 (And.intro @e3 (And.intro @e4 (And.intro @e9 (And.intro @e10 @e15))))) @DD trivial ?_
    rfl
theorem papart_walk (x0 : ((.st (.cons (.st (.cons (.st (.cons .bool (.cons .bool .nil))) (.cons (.int .u8) (.cons (.int .u8) .nil)))) (.cons (.int .u16) (.cons (.int .u16) (.cons (.int .u32) (.cons (.int .u64) (.cons (.sl (.st (.cons (.int .u32) (.cons (.int .u32) (.cons (.int .u64) (.cons (.int .u64) (.cons (.int .u64) (.cons (.int .u64) (.cons (.st (.cons (.int .i64) (.cons (.int .u64) (.cons (.int .u64) (.cons (.sl (.int .u8)) .nil))))) .nil))))))))) (.cons (.sl (.st (.cons (.int .u32) (.cons (.int .u32) (.cons (.int .u64) (.cons (.int .u64) (.cons (.int .u64) (.cons (.int .u32) (.cons (.int .u32) (.cons (.int .u64) (.cons (.int .u64) (.cons (.st (.cons (.int .i64) (.cons (.int .u64) (.cons (.int .u64) (.cons (.sl (.int .u8)) .nil))))) .nil)))))))))))) (.cons (.int .i64) .nil))))))))) : Ab.D).T) (g0 : ((.st (.cons (.st (.cons (.st (.cons .bool (.cons .bool .nil))) (.cons (.int .u8) (.cons (.int .u8) .nil)))) (.cons (.int .u16) (.cons (.int .u16) (.cons (.int .u32) (.cons (.int .u64) (.cons (.sl (.st (.cons (.int .u32) (.cons (.int .u32) (.cons (.int .u64) (.cons (.int .u64) (.cons (.int .u64) (.cons (.int .u64) (.cons (.st (.cons (.int .i64) (.cons (.int .u64) (.cons (.int .u64) (.cons (.sl (.int .u8)) .nil))))) .nil))))))))) (.cons (.sl (.st (.cons (.int .u32) (.cons (.int .u32) (.cons (.int .u64) (.cons (.int .u64) (.cons (.int .u64) (.cons (.int .u32) (.cons (.int .u32) (.cons (.int .u64) (.cons (.int .u64) (.cons (.st (.cons (.int .i64) (.cons (.int .u64) (.cons (.int .u64) (.cons (.sl (.int .u8)) .nil))))) .nil)))))))))))) (.cons (.int .i64) .nil))))))))) : Ab.D).good x0) :
    PCalls Try.prog 7 [pvD (.st (.cons (.st (.cons (.st (.cons .bool (.cons .bool .nil))) (.cons (.int .u8) (.cons (.int .u8) .nil)))) (.cons (.int .u16) (.cons (.int .u16) (.cons (.int .u32) (.cons (.int .u64) (.cons (.sl (.st (.cons (.int .u32) (.cons (.int .u32) (.cons (.int .u64) (.cons (.int .u64) (.cons (.int .u64) (.cons (.int .u64) (.cons (.st (.cons (.int .i64) (.cons (.int .u64) (.cons (.int .u64) (.cons (.sl (.int .u8)) .nil))))) .nil))))))))) (.cons (.sl (.st (.cons (.int .u32) (.cons (.int .u32) (.cons (.int .u64) (.cons (.int .u64) (.cons (.int .u64) (.cons (.int .u32) (.cons (.int .u32) (.cons (.int .u64) (.cons (.int .u64) (.cons (.st (.cons (.int .i64) (.cons (.int .u64) (.cons (.int .u64) (.cons (.sl (.int .u8)) .nil))))) .nil)))))))))))) (.cons (.int .i64) .nil))))))))) x0] [] fun p _ => p = .bool true := by
  obtain ⟨⟨⟨w, big, _⟩, o, ab, _⟩, ty, ma, fl, en, segs, secs, st, _⟩ := x0
  obtain ⟨_, _, _, _, g4, g5, g6, _⟩ := g0
  exact papart_core (u64_of g4) (segG_of g5.2) (secG_of g6.2)
end
end Go.Proofs.Ytalhipbbomagoaa.PvW
