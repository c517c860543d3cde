/- What note's functions that put yield. No statement of the set is proved in this text. -/
import Derived.Test.YtmknnlbbfeldbaaPvSpot
import Derived.Test.YtmknnlbbfeldbaaPvPg
import Derived.Test.YtmknnlbbfeldbaaTdNote
namespace Go.Proofs.Ytmknnlbbfeldbaa.PvW
open Go.RowKit Go.Proofs.Ytmknnlbbfeldbaa.Cd Go.Proofs.Ytmknnlbbfeldbaa.AbP Go.Proofs.Ytmknnlbbfeldbaa.Num Go.Proofs.Ytmknnlbbfeldbaa.Pv
set_option maxRecDepth 100000
set_option maxHeartbeats 4000000
set_option linter.unusedVariables false
set_option linter.unusedSimpArgs false
variable {K : PV → List OB → Prop}
theorem and_3i (x : Int) : Ab.abin .and (.int .i64 x) (.int .i64 3) = some (.int .i64 (x % 4)) := by
  rw [Ab.b_and]
  have e : (BitVec.ofInt (IntKind.bits .i64) x &&& BitVec.ofInt (IntKind.bits .i64) 3).toNat = (x % 4).toNat := by
    show (BitVec.ofInt 64 x &&& BitVec.ofInt 64 3).toNat = _
    rw [BitVec.toNat_and, BitVec.toNat_ofInt, BitVec.toNat_ofInt]
    have h3 : ((3 : Int) % ((2 ^ 64 : Nat) : Int)).toNat = 2 ^ 2 - 1 := by decide
    rw [h3, Nat.and_two_pow_sub_one_eq_mod]
    omega
  have e2 : (((x % 4).toNat : Int) + 9223372036854775808) % 18446744073709551616 - 9223372036854775808 = x % 4 := by omega
  rw [e, wI64, e2]
theorem and_3u (n : Int) : Ab.abin .and (.int .u64 (IntKind.u64.wrap (0 - n))) (.int .u64 3) = some (.int .u64 ((0 - n) % 4)) := by
  have e2 : (0 - n) % 18446744073709551616 % 4 = (0 - n) % 4 := by omega
  rw [wU64, and_3 (by omega) (by omega), e2]
theorem u64_id {x : Int} (h : 0 ≤ x ∧ x ≤ 4294967295) : IntKind.u64.wrap x = x := by rw [wU64]; omega
abbrev dNote : Ab.D := (.st (.cons (.sl (.int .u8)) (.cons (.sl (.int .u8)) (.cons (.int .u32) .nil))))
/-- bytes, and 0s up to a multiple of four -/
def full (l : List Int) : List Int := l ++ List.replicate (((0 - (l.length : Int)) % 4).toNat) (0 : Int)
theorem full_len (l : List Int) : ((full l).length : Int) = l.length + (0 - (l.length : Int)) % 4 := by
  unfold full
  rw [List.length_append, List.length_replicate]
  omega
theorem full_le (l : List Int) : (full l).length ≤ l.length + 3 := by have := full_len l; omega
theorem full_mod (l : List Int) : (full l).length % 4 = 0 := by have := full_len l; omega
theorem full_B {l : List Int} (h : B l) : B (full l) := B_append h fun x hx => by obtain rfl := (List.mem_replicate.1 hx).2; decide
theorem clone_spec {l : List Int} (hm : Om (l.length ≤ 1000000)) (hk0 : l = [] → K .nilS []) (hk1 : K (.osl 0 l.length) [.arr (.int .u8) l]) : PCalls Try.prog 59 [.sl (.int .u8) l] [] K := by
  have hm := hm.o
  refine told_callP bytes_Clone.told fun Z hZ => ?_
  unfold bytes_Clone.c
  refine W1 trivial trivial trivial ?_
  refine nl_Sl fun r hr => ?_
  cases r
  · show pops _ _ _ _ _ (putE _ _ (.bool false)) _
    refine W1 trivial trivial (@oArr 0 (.int .u8)) ?_
    have hk1' : K (.osl 0 (0 + l.length)) [.arr (.int .u8) l] := by rw [Nat.zero_add]; exact hk1
    exact hk1'
  · obtain rfl := hr rfl
    show pops _ _ _ _ _ (putE _ _ (.bool true)) _
    refine W1 trivial trivial trivial ?_
    exact hk0 rfl
theorem nfull_spec {l : List Int} (hm : Om (l.length ≤ 1000000)) (hk : K (.osl 0 (full l).length) [.arr (.int .u8) (full l)]) : PCalls Try.prog 37 [.sl (.int .u8) l] [] K := by
  have hm := hm.o
  refine told_callP note_full.told fun Z hZ => ?_
  unfold note_full.c
  refine W1 trivial trivial trivial ?_
  refine clone_spec ⟨hm⟩ (fun h0 => ?_) ?_
  · subst h0
    refine W1 trivial (And.intro @DD @and_3i) (@oVirt 4 (.int .u8)) ?_
    exact hk
  · refine W1 trivial (And.intro @DD @and_3i) trivial ?_
    rw [show (full l).length = l.length + ((0 - (l.length : Int)) % 4).toNat by unfold full; rw [List.length_append, List.length_replicate]] at hk
    exact hk
abbrev noteP (x : dNote.T) : List (Int × Int) := prs 4 [x.1.length, x.2.1.length, x.2.2.1]
def noteB (big : Bool) (x : dNote.T) : List Int := rowB big (noteP x) ++ (full x.1 ++ full x.2.1)
def notesB (big : Bool) (l : List dNote.T) : List Int := l.flatMap (noteB big)
structure NoteN (x : dNote.T) : Prop where
  n : x.1.length ≤ 10000
  d : x.2.1.length ≤ 10000
  bn : B x.1
  bd : B x.2.1
  t : (0 : Int) ≤ x.2.2.1 ∧ (x.2.2.1 : Int) ≤ 4294967295
theorem noteP_len (big : Bool) (x : dNote.T) : (rowB big (noteP x)).length = 12 := by
  have hl : ∀ (v : Int) (n : Int), wideB n = true → (putSpec v n big).length = n.toNat := fun v n h => by rw [putSpec_len, if_pos h]
  simp only [rowB, noteP, prs, List.map_cons, List.map_nil, List.flatMap_cons, List.flatMap_nil, List.length_append, hl _ 4 rfl, List.length_nil]
  rfl
theorem noteB_len {big : Bool} {x : dNote.T} (h : NoteN x) : (noteB big x).length ≤ 20018 ∧ (noteB big x).length % 4 = 0 := by
  have h1 := full_le x.1
  have h2 := full_le x.2.1
  have h3 := full_mod x.1
  have h4 := full_mod x.2.1
  have h5 := noteP_len big x
  have h6 := h.n
  have h7 := h.d
  unfold noteB
  rw [List.length_append, List.length_append]
  omega
theorem notesB_len {big : Bool} : ∀ {l : List dNote.T}, (∀ x ∈ l, NoteN x) → (notesB big l).length ≤ 20018 * l.length ∧ (notesB big l).length % 4 = 0
  | [], _ => by simp [notesB]
  | x :: l, h => by
    obtain ⟨h1, h2⟩ := noteB_len (big := big) (h x (by simp))
    obtain ⟨h3, h4⟩ := notesB_len (big := big) (l := l) (fun y hy => h y (List.mem_cons_of_mem _ hy))
    show (noteB big x ++ notesB big l).length ≤ 20018 * (l.length + 1) ∧ _
    have e : (notesB big (x :: l)).length = (noteB big x).length + (notesB big l).length := by
      show (noteB big x ++ notesB big l).length = _
      rw [List.length_append]
    rw [e, List.length_append]
    omega
theorem notesB_snoc (big : Bool) (l : List dNote.T) (x : dNote.T) : notesB big (l ++ [x]) = notesB big l ++ noteB big x := by simp [notesB]
theorem take_snocD {α : Type} {l : List α} {i : Nat} {x : α} (h : l[i]? = some x) : l.take (i + 1) = l.take i ++ [x] := by
  rw [List.take_add_one, h]
  rfl
theorem nput_spec {w big : Bool} {l : List dNote.T} (hl : Om (l.length ≤ 1000)) (hN : Am (∀ x ∈ l, NoteN x)) (hk : K (.osl 0 (notesB big l).length) [.arr (.int .u8) (notesB big l)]) :
    PCalls Try.prog 15 [.sl dNote l, .agg [.bool w, .bool big]] [] K := by
  have hl := hl.o
  have hN := hN.o
  refine told_callP note_Put.told fun Z hZ => ?_
  unfold note_Put.c
  refine W1 trivial trivial (@xVirt 5 (.int .u8)) ?_
  refine w_lpG (fun q e s => ∃ i : Nat, q + i = l.length ∧ s = [.var [.bool w, .bool big], .arr (.int .u8) (notesB big (l.take i))] ∧ e 3 = .ptr 0 0 ∧ e 5 = .osl 1 (notesB big (l.take i)).length ∧ e 10 = .sl dNote l ∧ e 11 = .int .i64 l.length ∧ e 12 = .int .i64 i) l.length ?_ ?_
  · exact ⟨0, rfl, rfl, by exact lk trivial, by exact lk trivial, by exact lk trivial, by exact lk trivial, by exact lk trivial⟩
  rintro q e s ⟨i, hi, rfl, e3, e5, e10, e11, e12⟩
  by_cases hq : i < l.length
  · obtain ⟨x, hx⟩ : ∃ x, l[i]? = some x := ⟨l[i], List.getElem?_eq_getElem hq⟩
    have hNx := hN x (List.mem_of_getElem? hx)
    have hlb := (notesB_len (big := big) (l := l.take i) (fun y hy => hN y (List.mem_of_mem_take hy))).1
    rw [List.length_take, Nat.min_eq_left (by omega)] at hlb
    have hsx : notesB big (l.take (i + 1)) = notesB big (l.take i) ++ noteB big x := by rw [take_snocD hx, notesB_snoc]
    obtain ⟨nm, ds, ty, u⟩ := x
    have h1 : nm.length ≤ 10000 := hNx.n
    have h2 : ds.length ≤ 10000 := hNx.d
    have h3 : (0 : Int) ≤ ty ∧ ty ≤ 4294967295 := hNx.t
    generalize notesB big (l.take i) = C at *
    have hty : IntKind.u64.wrap ty = ty := u64_id h3
    refine W1 (And.intro @e3 (And.intro @e5 (And.intro @e10 (And.intro @e11 @e12)))) (And.intro @DD @hty) trivial ?_
    apply x_arr 3 (.int .u64); (repeat any_goals first | exact mp_z | apply mp_s | exact rs_z | apply rs_t | apply rs_n | apply rs_c); (repeat any_goals first | (apply Lk.i; (simp only [↓LL, ↓reduceIte, Nat.reduceEqDiff]; (try rfl); done)) | (apply Rf.i; first | rfl | assumption) | (apply Vl.i; ((try simp (disch := omega) only [VV, ↓reduceIte, peqI, encP]); (try rfl); done)) | (apply Am.i; assumption) | (apply Pu.i; ((try simp only [↓reduceIte, UU, RR, Nat.reduceAdd, Nat.reduceEqDiff, cellsP, putP, fillQ, flatQ, shP, sh1, encP]); (try rfl); done)) | (apply Om.i; ((try simp only [MM]); (try omega); done)) | (apply Vw.i; first | exact As.sl _ _ | exact As.nil _ | exact As.arr _ _ _ _ rfl (by ((try simp only [MM]); (try omega); done)) | exact As.row _ _ _ _ _ rfl rfl | exact Src.str _ | exact Src.as (As.sl _ _) | exact Src.as (As.nil _) | exact Src.as (As.arr _ _ _ _ rfl (by ((try simp only [MM]); (try omega); done))) | exact Src.as (As.row _ _ _ _ _ rfl rfl))); (all_goals fail_if_success apply Mk.i)
    refine w_lpG (fun q e s => ∃ k : Nat, q + k = 3 ∧ s = [.var [.bool w, .bool big], .arr (.int .u8) (C ++ rowB big (prs 4 (([(nm.length : Int), (ds.length : Int), ty] : List Int).take k))), .var [.sl (.int .u8) nm, .sl (.int .u8) ds, .int .u32 ty], .arr (.int .u64) [(nm.length : Int), (ds.length : Int), ty]] ∧ e 3 = .ptr 0 0 ∧ e 5 = .osl 1 (C ++ rowB big (prs 4 (([(nm.length : Int), (ds.length : Int), ty] : List Int).take k))).length ∧ e 7 = .ptr 2 0 ∧ e 10 = .sl dNote l ∧ e 11 = .int .i64 l.length ∧ e 12 = .int .i64 i ∧ e 27 = .osl 3 3 ∧ e 28 = .int .i64 3 ∧ e 29 = .int .i64 k) 3 ?_ ?_
    · exact ⟨0, rfl, by simp [rowB, prs], by exact lk @e3, by simp only [prs, rowB, List.take_zero, List.map_nil, List.flatMap_nil, List.append_nil]; exact lk @e5, by exact lk trivial, by exact lk @e10, by exact lk @e11, by exact lk @e12, by exact lk trivial, by exact lk trivial, by exact lk trivial⟩
    rintro q2 e s ⟨k, hk3, rfl, e3, e5, e7, e10, e11, e12, e27, e28, e29⟩
    have hr1 := rowB_le big (prs 4 (([(nm.length : Int), (ds.length : Int), ty] : List Int).take k))
    have hr2 : (prs 4 (([(nm.length : Int), (ds.length : Int), ty] : List Int).take k)).length ≤ 3 := by simp [prs]; omega
    by_cases hkq : k < 3
    · have hrt := prs_take (n := 4) (l := [(nm.length : Int), (ds.length : Int), ty]) (i := k) hkq
      have hU : 0 ≤ ([(nm.length : Int), (ds.length : Int), ty] : List Int).getD k 0 ∧ ([(nm.length : Int), (ds.length : Int), ty] : List Int).getD k 0 ≤ 4294967295 := by
        have hc : k = 0 ∨ k = 1 ∨ k = 2 := by omega
        rcases hc with rfl | rfl | rfl
        · exact ⟨by show (0 : Int) ≤ (nm.length : Int); omega, by show (nm.length : Int) ≤ 4294967295; omega⟩
        · exact ⟨by show (0 : Int) ≤ (ds.length : Int); omega, by show (ds.length : Int) ≤ 4294967295; omega⟩
        · exact h3
      have hp := putSpec_le (([(nm.length : Int), (ds.length : Int), ty] : List Int).getD k 0) 4 big
      refine W1 (And.intro @e3 (And.intro @e5 (And.intro @e7 (And.intro @e10 (And.intro @e11 (And.intro @e12 (And.intro @e27 (And.intro @e28 @e29)))))))) @DD @put_spec ?_
      have er : rowB big (prs 4 (([(nm.length : Int), (ds.length : Int), ty] : List Int).take (k + 1))) = rowB big (prs 4 (([(nm.length : Int), (ds.length : Int), ty] : List Int).take k)) ++ putSpec (([(nm.length : Int), (ds.length : Int), ty] : List Int).getD k 0) 4 big := by rw [hrt, rowB_app]; simp [rowB]
      refine ⟨q2 - 1, by omega, _, _, Gh.sel [0, 1, 2, 3] (by decide) (hz0 hZ), k + 1, by omega, by rw [er, ← List.append_assoc]; rfl, by exact lk @e3, ?_, by exact lk @e7, by exact lk @e10, by exact lk @e11, by exact lk @e12, by exact lk @e27, by exact lk @e28, by exact lk @e29⟩
      rw [er]
      simp only [List.length_append, ← Nat.add_assoc]
      exact lk @e5
    obtain rfl : k = 3 := by omega
    have hC2l : (C ++ rowB big (prs 4 (([(nm.length : Int), (ds.length : Int), ty] : List Int).take 3))).length ≤ C.length + 24 := by rw [List.length_append]; omega
    have hC2 : C ++ rowB big (prs 4 (([(nm.length : Int), (ds.length : Int), ty] : List Int).take 3)) = C ++ rowB big (noteP (nm, ds, ty, u)) := rfl
    generalize C ++ rowB big (prs 4 (([(nm.length : Int), (ds.length : Int), ty] : List Int).take 3)) = C2 at *
    have hf1 := full_le nm
    have hf2 := full_le ds
    refine W1 (And.intro @e3 (And.intro @e5 (And.intro @e7 (And.intro @e10 (And.intro @e11 (And.intro @e12 (And.intro @e27 (And.intro @e28 @e29)))))))) @DD @nfull_spec ?_
    have es : notesB big (l.take (i + 1)) = C2 ++ full nm ++ full ds := by
      rw [hsx, hC2]
      simp only [noteB, List.append_assoc]
    refine ⟨q - 1, by omega, _, _, Gh.sel [0, 1] (by decide) (hz0 hZ), i + 1, by omega, by rw [es]; rfl, by exact lk @e3, ?_, by exact lk @e10, by exact lk @e11, by exact lk @e12⟩
    rw [es]
    simp only [List.length_append]
    exact lk trivial
  · obtain rfl : i = l.length := by omega
    rw [List.take_length] at *
    refine W1 (And.intro @e3 (And.intro @e5 (And.intro @e10 (And.intro @e11 @e12)))) @DD trivial ?_
    exact hk
end Go.Proofs.Ytmknnlbbfeldbaa.PvW
