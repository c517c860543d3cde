/- The law IdentBack, told as a plain Lean function, answers true for every input. -/
import Derived.Test.YteohkpfacjjaeaaIdentP
import Derived.Test.YteohkpfacjjaeaaRIdentx6
namespace Go.Proofs.Yteohkpfacjjaeaa.IdentP
open Go.RowKit Go.Proofs.YteohkpfacjjaeaaW.PrintWords Go.Proofs.YteohkpfacjjaeaaW.PrintLast Go.Proofs.YteohkpfacjjaeaaW.PrintMore Go.Proofs.Yteohkpfacjjaeaa.QIdent
set_option linter.unusedVariables false
set_option linter.unusedSimpArgs false
/-- an ident's first nine bytes, and what stands behind -/
def hd (x : Idt) (r : List Int) : List Int := 127 :: 69 :: 76 :: 70 :: two x.wide :: two x.big :: 1 :: x.os :: x.abi :: r
theorem two_eq (b : Bool) : (two b == 2) = b := by cases b <;> rfl
theorem idErr_hd (x : Idt) (r : List Int) : idErr (hd x r) = if r.length < 7 then some (((hd x r).length : Int), 2) else none := by
  obtain ⟨w, b, o, a⟩ := x
  have e : scan (hd ⟨w, b, o, a⟩ r) 7 0 = none := by
    cases w <;> cases b <;> simp [scan, bad, wrong, byte, hd, two]
  unfold idErr
  rw [e]
  have hlen : (hd ⟨w, b, o, a⟩ r).length = r.length + 9 := rfl
  by_cases h : r.length < 7
  · rw [if_pos h]
    exact if_pos (by rw [hlen]; omega)
  · rw [if_neg h]
    exact if_neg (by rw [hlen]; omega)
theorem idOf_hd (x : Idt) (r : List Int) (h : ¬ r.length < 7) : idOf (hd x r) = x := by
  unfold idOf
  rw [idErr_hd, if_neg h]
  show (⟨two x.wide == 2, two x.big == 2, x.os, x.abi⟩ : Idt) = x
  rw [two_eq, two_eq]
theorem told_hd (x : Idt) (r : List Int) : toldG (hd x r) (idErr (hd x r)) = if r.length < 7 then (false, false, 0, 0, true, true, 0, [⟨((hd x r).length : Int), 2⟩]) else (x.wide, x.big, x.os, x.abi, false, false, 0, []) := by
  rw [idErr_hd]
  by_cases h : r.length < 7
  · rw [if_pos h, if_pos h]
    rfl
  · rw [if_neg h, if_neg h]
    show ((two x.wide == 2), (two x.big == 2), x.os, x.abi, false, false, (0 : Int), ([] : List S102)) = _
    rw [two_eq, two_eq]
theorem pick_f (n : Int) : ∃ k : Nat, k < 7 ∧ bezantlaw00_Pick.f n 7 = some (k : Int) := by
  have h1 : Int.tmod n 7 < 7 := Int.tmod_lt_of_pos _ (by omega)
  have h2 : -7 < Int.tmod n 7 := by
    have := Int.lt_tmod_of_pos n (b := 7) (by omega)
    omega
  unfold bezantlaw00_Pick.f
  rw [if_neg (by omega)]
  by_cases h : Int.tmod n 7 < 0
  · rw [if_pos h, IntWalk.wrap64_in _ ⟨by omega, by omega⟩]
    exact ⟨(Int.tmod n 7 + 7).toNat, by omega, by rw [Int.toNat_of_nonneg (by omega)]⟩
  · rw [if_neg h]
    exact ⟨(Int.tmod n 7).toNat, by omega, by rw [Int.toNat_of_nonneg (by omega)]⟩
theorem xor_all : ([127, 69, 76, 70, 1, 2] : List Int).all (fun v => (List.range 256).all (fun n => n == 0 || !(Go.bits .xor .u8 v (n : Int) == v))) = true := by kernel_rfl
theorem xor_ne {v by_ : Int} (hv : v ∈ ([127, 69, 76, 70, 1, 2] : List Int)) (h0 : 0 ≤ by_) (h1 : by_ < 256) (hne : by_ ≠ 0) : Go.bits .xor .u8 v by_ ≠ v := by
  have h := List.all_eq_true.1 (List.all_eq_true.1 xor_all v hv) by_.toNat (List.mem_range.2 (by omega))
  rw [Int.toNat_of_nonneg h0] at h
  simp only [Bool.or_eq_true, beq_iff_eq, Bool.not_eq_true', beq_eq_false_iff_ne] at h
  rcases h with h | h
  · omega
  · exact h
/-- what ident.Get tells of an ident of whose first seven bytes one is another one: an error, or another ident -/
theorem turned {x : Idt} {k : Nat} (hk : k < 7) {v : Int} (hv : v ≠ rd (idBytes x) (k : Int)) : (toldG ((idBytes x).set k v) (idErr ((idBytes x).set k v))).2.2.2.2.1 = true ∨
    (!((toldG ((idBytes x).set k v) (idErr ((idBytes x).set k v))).1 == x.wide) || !((toldG ((idBytes x).set k v) (idErr ((idBytes x).set k v))).2.1 == x.big)) = true := by
  obtain ⟨w, b, o, a⟩ := x
  have : k = 0 ∨ k = 1 ∨ k = 2 ∨ k = 3 ∨ k = 4 ∨ k = 5 ∨ k = 6 := by omega
  have short : ¬ ((idBytes ⟨w, b, o, a⟩).set k v).length < 16 := by rw [List.length_set]; simp [idBytes]
  rcases this with rfl | rfl | rfl | rfl | rfl | rfl | rfl
  · have e : v ≠ 127 := hv
    left
    simp [toldG, idErr, scan, bad, wrong, byte, idBytes, e]
  · have e : v ≠ 69 := hv
    left
    simp [toldG, idErr, scan, bad, wrong, byte, idBytes, e]
  · have e : v ≠ 76 := hv
    left
    simp [toldG, idErr, scan, bad, wrong, byte, idBytes, e]
  · have e : v ≠ 70 := hv
    left
    simp [toldG, idErr, scan, bad, wrong, byte, idBytes, e]
  · have e : v ≠ two w := hv
    by_cases e1 : v = 1
    · subst e1
      cases w
      · exact absurd rfl e
      · cases b <;> (right; simp [toldG, idErr, scan, bad, wrong, byte, idBytes, two])
    · by_cases e2 : v = 2
      · subst e2
        cases w
        · cases b <;> (right; simp [toldG, idErr, scan, bad, wrong, byte, idBytes, two])
        · exact absurd rfl e
      · left
        simp [toldG, idErr, scan, bad, wrong, byte, idBytes, e1, e2]
  · have e : v ≠ two b := hv
    by_cases e1 : v = 1
    · subst e1
      cases b
      · exact absurd rfl e
      · cases w <;> (right; simp [toldG, idErr, scan, bad, wrong, byte, idBytes, two])
    · by_cases e2 : v = 2
      · subst e2
        cases b
        · cases w <;> (right; simp [toldG, idErr, scan, bad, wrong, byte, idBytes, two])
        · exact absurd rfl e
      · left
        cases w <;> simp [toldG, idErr, scan, bad, wrong, byte, idBytes, two, e1, e2]
  · have e : v ≠ 1 := hv
    left
    cases w <;> cases b <;> simp [toldG, idErr, scan, bad, wrong, byte, idBytes, two, e]
theorem rd_mem (x : Idt) {k : Nat} (hk : k < 7) : rd (idBytes x) (k : Int) ∈ ([127, 69, 76, 70, 1, 2] : List Int) := by
  obtain ⟨w, b, o, a⟩ := x
  have : k = 0 ∨ k = 1 ∨ k = 2 ∨ k = 3 ∨ k = 4 ∨ k = 5 ∨ k = 6 := by omega
  rcases this with rfl | rfl | rfl | rfl | rfl | rfl | rfl <;> cases w <;> cases b <;> (rw [rd_byte]; simp [byte, idBytes, two])
theorem j1_ev (x : Idt) (n by_ : Int) (h0 : 0 ≤ by_) (h1 : by_ < 256) : Ev (fun k => bezantlaw03_IdentBack.j1 k n by_ true (idBytes x) false x.wide x.big x.os x.abi) true := by
  obtain ⟨p, hp, ep⟩ := pick_f n
  have step : ∀ k, bezantlaw03_IdentBack.j1 (k + 1) n by_ true (idBytes x) false x.wide x.big x.os x.abi = (ident_Get.f k ((idBytes x).set p (Go.bits .xor .u8 (rd (idBytes x) (p : Int)) by_))).bind fun t => if by_ = 0 then some true else if t.2.2.2.2.1 = true then some true else some ((!(t.1 == x.wide) || (!(t.2.1 == x.big))) || (!(t.2.2.1 == x.os) || (!(t.2.2.2.1 == x.abi)))) := by
    intro k
    rw [bezantlaw03_IdentBack.j1]
    rw [if_neg (by simp), ep]
    simp only [Option.bind_some]
    rw [if_pos (by omega), if_pos (by simp [idBytes]; omega)]
    simp only [if_true, Int.toNat_natCast]
  refine Ev.step step ?_
  refine Ev.bind (get_ev _) ?_
  by_cases hb : by_ = 0
  · simp only [if_pos hb]
    exact Ev.now _
  · simp only [if_neg hb]
    rcases turned hp (xor_ne (rd_mem x hp) h0 h1 hb) with h | h
    · simp only [if_pos h]
      exact Ev.now _
    · by_cases h2 : (toldG ((idBytes x).set p (Go.bits .xor .u8 (rd (idBytes x) (p : Int)) by_)) (idErr ((idBytes x).set p (Go.bits .xor .u8 (rd (idBytes x) (p : Int)) by_)))).2.2.2.2.1 = true
      · simp only [if_pos h2]
        exact Ev.now _
      · simp only [if_neg h2, h, Bool.true_or]
        exact Ev.now _
theorem put_hd (x : Idt) : idBytes x = hd x [0, 0, 0, 0, 0, 0, 0] := rfl
theorem j0_ev (x : Idt) (n by_ : Int) (h0 : 0 ≤ by_) (h1 : by_ < 256) : Ev (fun k => bezantlaw03_IdentBack.j0 k n by_ true (idBytes x) false x.wide x.big x.os x.abi) true := by
  have step : ∀ k, bezantlaw03_IdentBack.j0 (k + 1) n by_ true (idBytes x) false x.wide x.big x.os x.abi = (ident_Get.f k (idBytes x)).bind fun t => if t.2.2.2.2.1 = true then bezantlaw03_IdentBack.j1 k n by_ true (idBytes x) true x.wide x.big x.os x.abi else bezantlaw03_IdentBack.j1 k n by_ true (idBytes x) ((!(t.1 == x.wide) || (!(t.2.1 == x.big))) || (!(t.2.2.1 == x.os) || (!(t.2.2.2.1 == x.abi)))) x.wide x.big x.os x.abi := by
    intro k
    rw [bezantlaw03_IdentBack.j0]
    rw [if_neg (by simp)]
  refine Ev.step step ?_
  refine Ev.bind (get_ev _) ?_
  rw [put_hd, told_hd, if_neg (by simp)]
  simp only [Bool.false_eq_true, if_false, beq_self_eq_true, Bool.not_true, Bool.or_self]
  exact j1_ev x n by_ h0 h1
theorem IdentBack' (x : Idt) (l : List Int) (n by_ : Int) (h0 : 0 ≤ by_) (h1 : by_ < 256) : ∃ k, bezantlaw03_IdentBack.f k x.wide x.big x.os x.abi l n by_ = some true := by
  refine Ev.rounds ?_
  unfold bezantlaw03_IdentBack.f
  refine Ev.bind up_ev ?_
  by_cases c : (l.length : Int) > 1000
  · simp only [if_pos c]
    exact Ev.now _
  · simp only [if_neg c]
    have e9 : (([] : List Int) ++ (idBytes x).take 9) ++ l = hd x l := rfl
    have hlen : (idBytes x).length = 16 := rfl
    simp only [put_f, Option.bind_some]
    rw [e9]
    simp only [hlen, List.length_nil, List.length_take, List.nil_append]
    have a1 : ((16 : Nat) : Int) = 16 := rfl
    have a2 : (9 : Int) ≤ ((16 : Nat) : Int) := by decide
    have a3 : 0 + min 9 16 < 140737488355328 := by decide
    have a4 : min 9 16 + l.length < 140737488355328 := by omega
    simp only [if_pos a1, if_pos a2, if_pos a3, if_pos a4]
    refine Ev.bind (get_ev _) ?_
    rw [told_hd]
    have e : (decide (((hd x l).length : Int) ≥ 16)) = !decide (l.length < 7) := by
      have hl9 : (hd x l).length = l.length + 9 := rfl
      by_cases h : l.length < 7
      · rw [decide_eq_true h]
        exact decide_eq_false (by omega)
      · rw [decide_eq_false h]
        exact decide_eq_true (by omega)
    rw [e]
    by_cases h : l.length < 7
    · rw [if_pos h, decide_eq_true h]
      simp only [Bool.not_true, bne_self_eq_false, Bool.false_eq_true, if_false, if_true]
      exact j0_ev x n by_ h0 h1
    · rw [if_neg h, decide_eq_false h]
      simp only [Bool.not_false, bne_self_eq_false, Bool.false_eq_true, if_false, beq_self_eq_true, Bool.not_true, Bool.or_self]
      exact j0_ev x n by_ h0 h1
end Go.Proofs.Yteohkpfacjjaeaa.IdentP
