/- What the document's answer for all notes of bytes yields. No statement of the set is proved in this text. -/
import Derived.Test.YtmknnlbbfeldbaaPvNoteB
import Derived.Test.YtmknnlbbfeldbaaPvNoteD
namespace Go.Proofs.Ytmknnlbbfeldbaa.PvW
open Go.RowKit Go.Proofs.Ytmknnlbbfeldbaa.Cd Go.Proofs.Ytmknnlbbfeldbaa.AbP Go.Proofs.Ytmknnlbbfeldbaa.Num Go.Proofs.Ytmknnlbbfeldbaa.Pv
set_option maxRecDepth 100000
set_option maxHeartbeats 4000000
set_option linter.unusedVariables false
set_option linter.unusedSimpArgs false
variable {K : PV → List OB → Prop}
theorem getSpec_drop {b : List Int} {a : Nat} {k n : Int} {big : Bool} (ha : a ≤ b.length) (hk : 0 ≤ k) : getSpec (b.drop a) k n big = getSpec b ((a : Int) + k) n big := by
  unfold getSpec
  have e1 : a + k.toNat = ((a : Int) + k).toNat := by omega
  rw [List.length_drop, List.drop_drop, e1]
  by_cases h : wideB n = true ∧ (a : Int) + k + n ≤ (b.length : Int)
  · rw [if_pos h, if_pos ⟨h.1, by omega⟩]
  · rw [if_neg h, if_neg (fun h2 => h ⟨h2.1, by omega⟩)]
theorem getD_drop (b : List Int) (a j : Nat) : (b.drop a).getD j 0 = b.getD (a + j) 0 := by
  rw [List.getD_eq_getElem?_getD, List.getD_eq_getElem?_getD, List.getElem?_drop]
theorem padz_iff {b : List Int} {n : Int} (h0 : 0 ≤ n) (hl : up4 n ≤ b.length) : padz b n = true ↔ ∀ j : Nat, n ≤ j → (j : Int) < up4 n → b.getD j 0 = 0 := by
  unfold padz
  rw [List.all_eq_true]
  have hu : n ≤ up4 n ∧ up4 n ≤ n + 3 := by unfold up4; omega
  constructor
  · intro h j h1 h2
    have hj : ((b.take (up4 n).toNat).drop n.toNat)[j - n.toNat]? = some (b.getD j 0) := by
      rw [List.getElem?_drop, List.getElem?_take, if_pos (by omega), show n.toNat + (j - n.toNat) = j by omega, List.getD_eq_getElem?_getD, List.getElem?_eq_getElem (by omega)]
      rfl
    exact of_decide_eq_true (h _ (List.mem_of_getElem? hj))
  · intro h x hx
    obtain ⟨k, hk⟩ := List.getElem?_of_mem hx
    rw [List.getElem?_drop, List.getElem?_take] at hk
    split at hk
    · rename_i hlt
      have := h (n.toNat + k) (by omega) (by omega)
      rw [List.getD_eq_getElem?_getD, hk] at this
      exact decide_eq_true this
    · cases hk
/-- is a byte amiss that fills up? -/
def badAt (c : List Int) (n d : Int) (j : Nat) : Prop := ((j : Int) < up4 n ∨ up4 n + d ≤ j) ∧ c.getD j 0 ≠ 0
theorem bad_iff {c : List Int} {n d : Int} (h0 : 0 ≤ n) (h1 : 0 ≤ d) (hl : up4 n + up4 d ≤ c.length) : (padz c n = true ∧ padz (c.drop (up4 n).toNat) d = true) ↔ ∀ j : Nat, n ≤ j → (j : Int) < up4 n + up4 d → ¬ badAt c n d j := by
  have hu : n ≤ up4 n ∧ up4 n ≤ n + 3 := by unfold up4; omega
  have hv : d ≤ up4 d ∧ up4 d ≤ d + 3 := by unfold up4; omega
  rw [padz_iff h0 (by omega), padz_iff h1 (by rw [List.length_drop]; omega)]
  constructor
  · rintro ⟨p1, p2⟩ j hj1 hj2 ⟨hb, hz⟩
    rcases hb with hb | hb
    · exact hz (p1 j hj1 hb)
    · refine hz ?_
      have := p2 (j - (up4 n).toNat) (by omega) (by omega)
      rw [getD_drop, show (up4 n).toNat + (j - (up4 n).toNat) = j by omega] at this
      exact this
  · intro h
    refine ⟨fun j hj1 hj2 => ?_, fun j hj1 hj2 => ?_⟩
    · exact Decidable.byContradiction fun hz => h j hj1 (by omega) ⟨.inl hj2, hz⟩
    · rw [getD_drop]
      exact Decidable.byContradiction fun hz => h ((up4 n).toNat + j) (by omega) (by omega) ⟨.inr (by omega), hz⟩
theorem rnotes_spec {w big : Bool} {b : List Int} (hB : Am (B b)) (hm : Om (b.length ≤ 100000))
    (hk1 : (notesA big b).2 = none → K (.tup [.sl dNote (notesA big b).1, .int .i64 0, .int .i64 0]) [])
    (hk2 : ∀ r c, (notesA big b).2 = some (r, c) → K (.tup [.nilS, .int .i64 c, .int .i64 ((b.length : Int) - r)]) []) :
    PCalls Try.prog 12 [.sl (.int .u8) b, .agg [.bool w, .bool big]] [] K := by
  have hB := hB.o
  have hm := hm.o
  refine told_callP bezantref04_Notes.told fun Z hZ => ?_
  unfold bezantref04_Notes.c
  refine W1 trivial trivial (@xVirt 7 dNote) ?_
  generalize hG : notesA big b = G at *
  refine w_lpG (fun q e s => ∃ (a : Nat) (acc : List dNote.T), a ≤ b.length ∧ b.length - a < q ∧ acc.length ≤ a ∧ acc ++ (notesG big q (b.drop a)).1 = G.1 ∧ (notesG big q (b.drop a)).2 = G.2 ∧ s = [.var [.bool w, .bool big], .arr dNote acc] ∧ e 0 = .sl (.int .u8) b ∧ e 3 = .ptr 0 0 ∧ e 7 = .osl 1 acc.length ∧ e 8 = .int .i64 a) (b.length + 1) ?_ ?_
  · exact ⟨0, [], by omega, by omega, by simp, by rw [← hG]; rfl, by rw [← hG]; rfl, rfl, by exact lk trivial, by exact lk trivial, by exact lk trivial, by exact lk trivial⟩
  rintro q e s ⟨a, acc, hab, haq, hac, hacc, herr, rfl, e0, e3, e7, e8⟩
  have hcl : (b.drop a).length = b.length - a := List.length_drop
  have hBc : B (b.drop a) := fun x hx => hB x (List.mem_of_mem_drop hx)
  cases q with
  | zero => omega
  | succ q =>
  by_cases hc0 : (b.drop a).length = 0
  · have h1 : notesG big (q + 1) (b.drop a) = ([], none) := if_pos hc0
    rw [h1] at hacc herr
    have := hk1 herr.symm
    rw [← hacc, List.append_nil] at this
    refine Wn1 (And.intro @e0 (And.intro @e3 (And.intro @e7 @e8))) @DD trivial ?_
    apply x_frz 4; (repeat any_goals first | exact mp_z | apply mp_s | exact rs_z | apply rs_t | apply rs_n | apply rs_c); (repeat any_goals first | (apply Lk.i; (simp only [↓LL, ↓reduceIte, Nat.reduceEqDiff]; (try rfl); done)) | (apply Rf.i; first | rfl | assumption) | (apply Vl.i; ((try simp (disch := omega) only [VV, ↓reduceIte, peqI, encP]); (try rfl); done)) | (apply Am.i; assumption) | (apply Pu.i; ((try simp only [↓reduceIte, UU, RR, Nat.reduceAdd, Nat.reduceEqDiff, cellsP, putP, fillQ, flatQ, shP, sh1, encP]); (try rfl); done)) | (apply Om.i; ((try simp only [MM]); (try omega); done)) | (apply Vw.i; first | exact As.sl _ _ | exact As.nil _ | exact As.arr _ _ _ _ rfl (by ((try simp only [MM]); (try omega); done)) | exact As.row _ _ _ _ _ rfl rfl | exact Src.str _ | exact Src.as (As.sl _ _) | exact Src.as (As.nil _) | exact Src.as (As.arr _ _ _ _ rfl (by ((try simp only [MM]); (try omega); done))) | exact Src.as (As.row _ _ _ _ _ rfl rfl))); (all_goals fail_if_success apply Mk.i)
    refine W1 trivial trivial trivial ?_
    exact this
  have h1 : notesG big (q + 1) (b.drop a) = if oneBad big (b.drop a) ≠ 0 then ([], some (((b.drop a).length : Int), oneBad big (b.drop a))) else (oneNote big (b.drop a) :: (notesG big q (oneRest big (b.drop a))).1, (notesG big q (oneRest big (b.drop a))).2) := if_neg hc0
  rw [h1] at hacc herr
  have hbd : oneBad big (b.drop a) ≠ 0 → K (.tup [.nilS, .int .i64 (oneBad big (b.drop a)), .int .i64 (a : Int)]) [] := fun h => by
    rw [if_pos h] at herr
    have := hk2 _ _ herr.symm
    rw [show (b.length : Int) - ((b.drop a).length : Int) = a by omega] at this
    exact this
  have hbad : oneBad big (b.drop a) = if ((b.drop a).length : Int) < 12 ∨ ((b.drop a).length : Int) - 12 < up4 (nN big (b.drop a)) + up4 (nD big (b.drop a)) then 2
    else if padz ((b.drop a).drop 12) (nN big (b.drop a)) = false then 4 else if padz (((b.drop a).drop 12).drop (up4 (nN big (b.drop a))).toNat) (nD big (b.drop a)) = false then 4 else 0 := rfl
  have hN : oneNote big (b.drop a) = (((b.drop a).drop 12).take (nN big (b.drop a)).toNat, (((b.drop a).drop 12).drop (up4 (nN big (b.drop a))).toNat).take (nD big (b.drop a)).toNat, nT big (b.drop a), ()) := rfl
  have hR : oneRest big (b.drop a) = (((b.drop a).drop 12).drop (up4 (nN big (b.drop a))).toNat).drop (up4 (nD big (b.drop a))).toNat := rfl
  obtain ⟨n0, n1⟩ := range4 hBc 0 big
  obtain ⟨d0, d1⟩ := range4 hBc 4 big
  obtain ⟨t0, t1⟩ := range4 hBc 8 big
  have hv0 : (gets b big (a : Int) [4, 4, 4]).getD 0 0 = nN big (b.drop a) := by
    show (getSpec b a 4 big).1 = (getSpec (b.drop a) 0 4 big).1
    rw [getSpec_drop hab (by decide), Int.add_zero]
  have hv1 : (gets b big (a : Int) [4, 4, 4]).getD 1 0 = nD big (b.drop a) := by
    show (getSpec b (a + 4) 4 big).1 = (getSpec (b.drop a) 4 4 big).1
    rw [getSpec_drop hab (by decide)]
  have hv2 : (gets b big (a : Int) [4, 4, 4]).getD 2 0 = nT big (b.drop a) := by
    show (getSpec b (a + 4 + 4) 4 big).1 = (getSpec (b.drop a) 8 4 big).1
    rw [getSpec_drop hab (by decide), Int.add_assoc]
    rfl
  have hvl : (gets b big (a : Int) [4, 4, 4]).length = 3 := rfl
  rw [hcl] at hbad
  have hdd : (b.drop a).drop 12 = b.drop (a + 12) := List.drop_drop
  rw [hdd] at hbad hN hR
  have hR' : oneRest big (b.drop a) = b.drop (a + 12 + (up4 (nN big (b.drop a))).toNat + (up4 (nD big (b.drop a))).toNat) := by rw [hR]; simp only [List.drop_drop, Nat.add_assoc]
  unfold nN nD nT at *
  generalize (getSpec (b.drop a) 0 4 big).1 = nm at *
  generalize (getSpec (b.drop a) 4 4 big).1 = ds at *
  generalize (getSpec (b.drop a) 8 4 big).1 = ty at *
  generalize oneBad big (b.drop a) = bad at *
  refine W1 (And.intro @e0 (And.intro @e3 (And.intro @e7 @e8))) @DD trivial ?_
  by_cases h12 : (a : Int) + 12 ≤ b.length
  rotate_left
  · have hR := numsAt_no (b := b) (big := big) (ns := [4, 4, 4]) (a := a) (acc := []) (by decide) (by decide) (by show ¬ (a : Int) + (4 + (4 + (4 + 0))) ≤ b.length; omega)
    refine nums_spec ⟨hB⟩ ⟨by omega⟩ ⟨by decide⟩ ⟨by omega⟩ (fun no => absurd no (by rw [hR]; simp)) (fun _ => ?_)
    rw [if_pos (.inl (by omega))] at hbad
    have := hbd (by rw [hbad]; decide)
    rw [hbad] at this
    refine W1 (And.intro @e0 (And.intro @e3 (And.intro @e7 @e8))) @DD trivial ?_
    exact this
  have hNA := numsAt_ok (b := b) (big := big) (ns := [4, 4, 4]) (a := a) (acc := []) (by decide) (by show (a : Int) + (4 + (4 + (4 + 0))) ≤ b.length; omega)
  refine nums_spec ⟨hB⟩ ⟨by omega⟩ ⟨by decide⟩ ⟨by omega⟩ (fun _ => ?_) (fun no => absurd no (by rw [hNA]; simp))
  rw [hNA, List.nil_append]
  generalize gets b big (a : Int) [4, 4, 4] = v at *
  have hu1 : nm ≤ up4 nm ∧ up4 nm ≤ nm + 3 := by unfold up4; omega
  have hu2 : ds ≤ up4 ds ∧ up4 ds ≤ ds + 3 := by unfold up4; omega
  have hup1 : nm + (0 - nm) % 4 = up4 nm := rfl
  have hup2 : ds + (0 - ds) % 4 = up4 ds := rfl
  by_cases hle : (b.length : Int) - a - 12 < up4 nm + up4 ds
  · rw [if_pos (.inr (by omega))] at hbad
    have := hbd (by rw [hbad]; decide)
    rw [hbad] at this
    refine W1 (And.intro @e0 (And.intro @e3 (And.intro @e7 @e8))) (And.intro @DD (And.intro @hv0 (And.intro @hv1 (And.intro @hv2 (And.intro @hup1 @hup2))))) @rup_spec ?_
    exact this
  rw [if_neg (by omega)] at hbad
  have hcl2 : (b.drop (a + 12)).length = b.length - (a + 12) := List.length_drop
  have hbi := bad_iff (c := b.drop (a + 12)) n0 d0 (by omega)
  refine W1 (And.intro @e0 (And.intro @e3 (And.intro @e7 @e8))) (And.intro @DD (And.intro @hv0 (And.intro @hv1 (And.intro @hv2 (And.intro @hup1 @hup2))))) @rup_spec ?_
  refine w_lpG (fun q e s => ∃ j : Nat, (q : Int) + j = up4 nm + up4 ds ∧ nm ≤ j ∧ (∀ i : Nat, nm ≤ i → i < j → ¬ badAt (b.drop (a + 12)) nm ds i) ∧ s = [.var [.bool w, .bool big], .arr dNote acc, .dead, .arr (.int .u64) v] ∧ e 0 = .sl (.int .u8) b ∧ e 3 = .ptr 0 0 ∧ e 7 = .osl 1 acc.length ∧ e 8 = .int .i64 a ∧ e 9 = .osl 3 v.length ∧ e 13 = .int .i64 ((a : Int) + 12) ∧ e 14 = .int .i64 ((a : Int) + 12 + up4 nm) ∧ e 15 = .int .i64 ((a : Int) + 12 + up4 nm + up4 ds) ∧ e 16 = .int .i64 ((a : Int) + 12 + j)) (up4 nm + up4 ds - nm).toNat ?_ ?_
  · exact ⟨nm.toNat, by omega, by omega, fun i h1 h2 => by omega, rfl, by exact lk @e0, by exact lk @e3, by exact lk @e7, by exact lk @e8, by exact lk trivial, by exact lk trivial, by exact lk trivial, by exact lk trivial, by rw [Int.toNat_of_nonneg n0]; exact lk trivial⟩
  rintro q2 e s ⟨j, hj, hjn, hall, rfl, e0, e3, e7, e8, e9, e13, e14, e15, e16⟩
  have hgd : (b.drop (a + 12)).getD j 0 = b.getD (a + 12 + j) 0 := getD_drop b (a + 12) j
  have htn : ((a : Int) + 12 + j).toNat = a + 12 + j := by omega
  by_cases hj0 : q2 = 0
  rotate_left
  · have hnb : badAt (b.drop (a + 12)) nm ds j → K (.tup [.nilS, .int .i64 4, .int .i64 (a : Int)]) [] := fun hb => by
      have h4 : bad = 4 := by
        rw [hbad]
        by_cases p1 : padz (b.drop (a + 12)) nm = false
        · rw [if_pos p1]
        · rw [if_neg p1, if_pos (by
            refine Bool.eq_false_iff.2 fun p2 => ?_
            exact hbi.1 ⟨by simpa using p1, p2⟩ j hjn (by omega) hb)]
      have := hbd (by rw [h4]; decide)
      rw [h4] at this
      exact this
    unfold badAt at hnb
    rw [hgd] at hnb
    have hstep : ¬ badAt (b.drop (a + 12)) nm ds j → ∀ i : Nat, nm ≤ i → i < j + 1 → ¬ badAt (b.drop (a + 12)) nm ds i := fun hb i h1 h2 => by
      by_cases e : i = j
      · rw [e]; exact hb
      · exact hall i h1 (by omega)
    unfold badAt at hstep
    rw [hgd] at hstep
    by_cases c1 : (j : Int) < up4 nm
    · by_cases c2 : b.getD (a + 12 + j) 0 = 0
      · refine W1 (And.intro @e0 (And.intro @e3 (And.intro @e7 (And.intro @e8 (And.intro @e9 (And.intro @e13 (And.intro @e14 (And.intro @e15 @e16)))))))) (And.intro @DD (And.intro @hv0 (And.intro @hv1 (And.intro @htn @c2)))) trivial ?_
        refine ⟨q2 - 1, by omega, _, _, Gh.sel [0, 1, 2, 3] (by decide) (hz0 hZ), j + 1, by omega, by omega, hstep (fun h => h.2 c2), rfl, by exact lk @e0, by exact lk @e3, by exact lk @e7, by exact lk @e8, by exact lk @e9, by exact lk @e13, by exact lk @e14, by exact lk @e15, by exact lk @e16⟩
      · have := hnb ⟨.inl c1, c2⟩
        refine W1 (And.intro @e0 (And.intro @e3 (And.intro @e7 (And.intro @e8 (And.intro @e9 (And.intro @e13 (And.intro @e14 (And.intro @e15 @e16)))))))) (And.intro @DD (And.intro @hv0 (And.intro @hv1 @htn))) trivial ?_
        exact this
    by_cases c3 : up4 nm + ds ≤ j
    · by_cases c2 : b.getD (a + 12 + j) 0 = 0
      · refine W1 (And.intro @e0 (And.intro @e3 (And.intro @e7 (And.intro @e8 (And.intro @e9 (And.intro @e13 (And.intro @e14 (And.intro @e15 @e16)))))))) (And.intro @DD (And.intro @hv0 (And.intro @hv1 (And.intro @htn @c2)))) trivial ?_
        refine ⟨q2 - 1, by omega, _, _, Gh.sel [0, 1, 2, 3] (by decide) (hz0 hZ), j + 1, by omega, by omega, hstep (fun h => h.2 c2), rfl, by exact lk @e0, by exact lk @e3, by exact lk @e7, by exact lk @e8, by exact lk @e9, by exact lk @e13, by exact lk @e14, by exact lk @e15, by exact lk @e16⟩
      · have := hnb ⟨.inr c3, c2⟩
        refine W1 (And.intro @e0 (And.intro @e3 (And.intro @e7 (And.intro @e8 (And.intro @e9 (And.intro @e13 (And.intro @e14 (And.intro @e15 @e16)))))))) (And.intro @DD (And.intro @hv0 (And.intro @hv1 @htn))) trivial ?_
        exact this
    · refine W1 (And.intro @e0 (And.intro @e3 (And.intro @e7 (And.intro @e8 (And.intro @e9 (And.intro @e13 (And.intro @e14 (And.intro @e15 @e16)))))))) (And.intro @DD (And.intro @hv0 (And.intro @hv1 @htn))) trivial ?_
      refine ⟨q2 - 1, by omega, _, _, Gh.sel [0, 1, 2, 3] (by decide) (hz0 hZ), j + 1, by omega, by omega, hstep (fun h => h.1.elim c1 c3), rfl, by exact lk @e0, by exact lk @e3, by exact lk @e7, by exact lk @e8, by exact lk @e9, by exact lk @e13, by exact lk @e14, by exact lk @e15, by exact lk @e16⟩
  have hpz := hbi.2 (fun i h1 h2 => hall i h1 (by omega))
  rw [if_neg (by rw [hpz.1]; decide), if_neg (by rw [hpz.2]; decide)] at hbad
  rw [if_neg (by rw [hbad]; decide)] at hacc herr
  have htk : ∀ x y : Nat, (b.take (x + y)).drop x = (b.drop x).take y := fun x y => by rw [List.drop_take]; congr 1; omega
  have f1 : List.drop ((a : Int) + 12).toNat (List.take ((a : Int) + 12 + nm).toNat b) = (b.drop (a + 12)).take nm.toNat := by
    rw [show ((a : Int) + 12).toNat = a + 12 by omega, show ((a : Int) + 12 + nm).toNat = a + 12 + nm.toNat by omega, htk]
  have f2 : List.drop ((a : Int) + 12 + up4 nm).toNat (List.take ((a : Int) + 12 + up4 nm + ds).toNat b) = ((b.drop (a + 12)).drop (up4 nm).toNat).take ds.toNat := by
    rw [List.drop_drop, show ((a : Int) + 12 + up4 nm).toNat = a + 12 + (up4 nm).toNat by omega, show ((a : Int) + 12 + up4 nm + ds).toNat = a + 12 + (up4 nm).toNat + ds.toNat by omega, htk]
  have g1 := congrArg List.length f1
  have g2 := congrArg List.length f2
  rw [List.length_take] at g1 g2
  refine xFrz 9 (D' := .int .u64) (l := v) ⟨e9⟩ ⟨rfl⟩ ⟨rfl⟩ ⟨rfl⟩ ?_
  refine W1 (And.intro @e0 (And.intro @e3 (And.intro @e7 (And.intro @e8 (And.intro @e13 (And.intro @e14 (And.intro @e15 @e16))))))) (And.intro @DD (And.intro @hv0 (And.intro @hv1 @hv2))) trivial ?_
  rw [f1, f2] at *
  refine W1 (And.intro @e0 (And.intro @e3 (And.intro @e7 (And.intro @e8 (And.intro @e13 (And.intro @e14 (And.intro @e15 @e16))))))) (And.intro @DD (And.intro @hv0 (And.intro @hv1 @hv2))) (@oArr 4 (.int .u8)) ?_
  apply oFrz 106; (repeat any_goals first | exact mp_z | apply mp_s | exact rs_z | apply rs_t | apply rs_n | apply rs_c); (repeat any_goals first | (apply Lk.i; (simp only [↓LL, ↓reduceIte, Nat.reduceEqDiff]; (try rfl); done)) | (apply Rf.i; first | rfl | assumption) | (apply Vl.i; ((try simp (disch := omega) only [VV, ↓reduceIte, peqI, encP]); (try rfl); done)) | (apply Am.i; assumption) | (apply Pu.i; ((try simp only [↓reduceIte, UU, RR, Nat.reduceAdd, Nat.reduceEqDiff, cellsP, putP, fillQ, flatQ, shP, sh1, encP]); (try rfl); done)) | (apply Om.i; ((try simp only [MM]); (try omega); done)) | (apply Vw.i; first | exact As.sl _ _ | exact As.nil _ | exact As.arr _ _ _ _ rfl (by ((try simp only [MM]); (try omega); done)) | exact As.row _ _ _ _ _ rfl rfl | exact Src.str _ | exact Src.as (As.sl _ _) | exact Src.as (As.nil _) | exact Src.as (As.arr _ _ _ _ rfl (by ((try simp only [MM]); (try omega); done))) | exact Src.as (As.row _ _ _ _ _ rfl rfl))); (all_goals fail_if_success apply Mk.i)
  apply oArr 5 (.int .u8); (repeat any_goals first | exact mp_z | apply mp_s | exact rs_z | apply rs_t | apply rs_n | apply rs_c); (repeat any_goals first | (apply Lk.i; (simp only [↓LL, ↓reduceIte, Nat.reduceEqDiff]; (try rfl); done)) | (apply Rf.i; first | rfl | assumption) | (apply Vl.i; ((try simp (disch := omega) only [VV, ↓reduceIte, peqI, encP]); (try rfl); done)) | (apply Am.i; assumption) | (apply Pu.i; ((try simp only [↓reduceIte, UU, RR, Nat.reduceAdd, Nat.reduceEqDiff, cellsP, putP, fillQ, flatQ, shP, sh1, encP]); (try rfl); done)) | (apply Om.i; ((try simp only [MM]); (try omega); done)) | (apply Vw.i; first | exact As.sl _ _ | exact As.nil _ | exact As.arr _ _ _ _ rfl (by ((try simp only [MM]); (try omega); done)) | exact As.row _ _ _ _ _ rfl rfl | exact Src.str _ | exact Src.as (As.sl _ _) | exact Src.as (As.nil _) | exact Src.as (As.arr _ _ _ _ rfl (by ((try simp only [MM]); (try omega); done))) | exact Src.as (As.row _ _ _ _ _ rfl rfl))); (all_goals fail_if_success apply Mk.i)
  refine Wp1 (And.intro @e0 (And.intro @e3 (And.intro @e7 (And.intro @e8 (And.intro @e13 (And.intro @e14 (And.intro @e15 @e16))))))) (And.intro @DD (And.intro @hv0 (And.intro @hv1 @hv2))) (And.intro (@oFrz 117) @trivial) ?_
  have hpc : ((a + 12 + (up4 nm).toNat + (up4 ds).toNat : Nat) : Int) = (a : Int) + 12 + up4 nm + up4 ds := by push_cast; omega
  refine ⟨q, by omega, _, _, Gh.sel [0, 1] (by decide) (hz0 hZ), a + 12 + (up4 nm).toNat + (up4 ds).toNat, acc ++ [oneNote big (b.drop a)], by omega, by omega, by rw [List.length_append]; simp; omega, by rw [List.append_assoc, ← hR']; exact hacc, by rw [← hR']; exact herr, by rw [hN]; rfl, by exact lk @e0, by exact lk @e3, ?_, ?_⟩
  · rw [List.length_append]
    exact lk trivial
  · rw [hpc]
    exact lk trivial
end Go.Proofs.Ytmknnlbbfeldbaa.PvW
