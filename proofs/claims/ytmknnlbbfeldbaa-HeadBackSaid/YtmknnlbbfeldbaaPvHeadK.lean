/- The walk of HeadBack. No statement of the set is proved in this text. -/
import Derived.Test.YtmknnlbbfeldbaaPvHeadL
import Derived.Test.YtmknnlbbfeldbaaPvHeadE
namespace Go.Proofs.Ytmknnlbbfeldbaa.PvW
open Go.RowKit Go.Proofs.Ytmknnlbbfeldbaa.Cd Go.Proofs.Ytmknnlbbfeldbaa.AbP Go.Proofs.Ytmknnlbbfeldbaa.Num Go.Proofs.Ytmknnlbbfeldbaa.Pv
set_option maxRecDepth 100000
set_option maxHeartbeats 4000000
set_option linter.unusedVariables false
set_option linter.unusedSimpArgs false
section
variable {K : PV → List OB → Prop}
theorem tmod_fix (n b : Int) (hb : 0 < b) : (n.tmod b < 0 → n.tmod b + b = n % b) ∧ (¬ n.tmod b < 0 → n.tmod b = n % b) ∧ -b < n.tmod b ∧ n.tmod b < b := by
  have h := Int.tmod_eq_emod (a := n) (b := b)
  have h1 := Int.emod_nonneg n (show b ≠ 0 by omega)
  have h2 := Int.emod_lt_of_pos n hb
  have h3 : (b.natAbs : Int) = b := by omega
  by_cases c : 0 ≤ n ∨ b ∣ n
  · rw [if_pos c] at h
    omega
  · rw [if_neg c, h3] at h
    have : n % b ≠ 0 := fun e => c (.inr (Int.dvd_of_emod_eq_zero e))
    omega
theorem pick_spec {n b : Int} (hb : Om (0 < b ∧ b ≤ 1000)) (hk : K (.int .i64 (n % b)) []) : PCalls Try.prog 25 [.int .i64 n, .int .i64 b] [] K := by
  obtain ⟨h0, h1⟩ := hb.o
  refine told_callP bezantlaw00_Pick.told fun Z hZ => ?_
  unfold bezantlaw00_Pick.c
  have hd := Ab.b_rem .i64 n b (by omega)
  obtain ⟨f1, f2, f3, f4⟩ := tmod_fix n b h0
  generalize n.tmod b = t at *
  by_cases c : t < 0
  · rw [← f1 c] at hk
    refine W1 trivial (And.intro @DD @hd) trivial ?_
    exact hk
  · rw [← f2 c] at hk
    refine W1 trivial (And.intro @DD @hd) trivial ?_
    exact hk
theorem hback_core {w big : Bool} {o a ty ma en po so fl pn sn st n : Int} {b : List Int} (hG : HeadN o a ty ma en po so fl pn sn st) (hB : B b) :
    PCalls Try.prog 6 [.agg [.bool w, .bool big, .int .u8 o, .int .u8 a, .int .u16 ty, .int .u16 ma, .int .u64 en, .int .u64 po, .int .u64 so, .int .u32 fl, .int .u16 pn, .int .u16 sn, .int .u16 st], .sl (.int .u8) b, .int .i64 n] [] fun p _ => p = .bool true := by
  refine told_callP bezantlaw04_HeadBack.told fun Z hZ => ?_
  unfold bezantlaw04_HeadBack.c
  have hs1 := head_same w big o a ty ma en po so fl pn sn st
  by_cases h1 : 1000 < (b.length : Int)
  · refine W1 trivial @DD @up4_spec ?_
    rfl
  refine W1 trivial @DD @up4_spec ?_
  refine hput_spec ⟨hG⟩ (fun ok => ?_) (fun no => ?_)
  rotate_left
  · cases w
    · refine W1 trivial @DD trivial ?_
      rfl
    · rw [headOk_wide hG] at no
      cases no
  have hl := headB_len (w := w) (big := big) (o := o) (a := a) (ty := ty) (ma := ma) (en := en) (po := po) (so := so) (fl := fl) (pn := pn) (sn := sn) (st := st)
  have hb4 := head_4 (w := w) (big := big) (o := o) (a := a) (ty := ty) (ma := ma) (en := en) (po := po) (so := so) (fl := fl) (pn := pn) (sn := sn) (st := st) b
  have hb5 := head_5 (w := w) (big := big) (o := o) (a := a) (ty := ty) (ma := ma) (en := en) (po := po) (so := so) (fl := fl) (pn := pn) (sn := sn) (st := st) b
  have hb7 : (headB w big o a ty ma en po so fl pn sn st ++ b).getD 7 0 = o := rfl
  have hb8 : (headB w big o a ty ma en po so fl pn sn st ++ b).getD 8 0 = a := rfl
  have hbg := head_gets (big := big) hG ok b
  have hbb := head_back (big := big) hG ok b
  have hcut := fun k => head_cut (w := w) (big := big) (o := o) (a := a) (ty := ty) (ma := ma) (en := en) (po := po) (so := so) (fl := fl) (pn := pn) (sn := sn) (st := st) (k := k)
  have hC := headB_B (w := w) (big := big) hG
  have hz : 52 ≤ hsz w ∧ hsz w ≤ 64 := by cases w <;> decide
  generalize headB w big o a ty ma en po so fl pn sn st = C at *
  refine W1 trivial @DD (@oArr 2 (.int .u8)) ?_
  refine hget_spec ⟨B_append hC hB⟩ ⟨by rw [List.length_append]; omega⟩ (fun _ _ hh => by rw [hbb] at hh; cases hh) (fun _ => ?_)
  rw [hb4, hb5, hb7, hb8, hbg]
  have hn0 := Int.emod_nonneg n (b := (C.length : Int)) (by omega)
  have hn1 := Int.emod_lt_of_pos n (b := (C.length : Int)) (by omega)
  have hne : decide (¬ (C.length : Int) = hsz w) = false := by simp [hl]
  refine Wp1 trivial (And.intro @DD @hne) (And.intro (@oFrz 67) (And.intro @hsize_spec @pick_spec)) ?_
  have hK := hcut (n % (C.length : Int)).toNat (by omega)
  rw [show (((n % (C.length : Int)).toNat : Nat) : Int) = n % (C.length : Int) by omega] at hK
  have hCt : B (C.take (n % (C.length : Int)).toNat) := fun x hx => hC x (List.mem_of_mem_take hx)
  refine hget_spec ⟨hCt⟩ ⟨by rw [List.length_take]; omega⟩ (fun a' c' hh => ?_) (fun hh => by rw [hK] at hh; cases hh)
  rw [hK] at hh
  obtain ⟨rfl, rfl⟩ := Prod.mk.inj (Option.some.inj hh)
  refine W1 trivial @DD @spotS_spec ?_
  rfl
theorem hback_walk (x0 : ((.st (.cons (.st (.cons (.st (.cons .bool (.cons .bool .nil))) (.cons (.int .u8) (.cons (.int .u8) .nil)))) (.cons (.int .u16) (.cons (.int .u16) (.cons (.int .u64) (.cons (.int .u64) (.cons (.int .u64) (.cons (.int .u32) (.cons (.int .u16) (.cons (.int .u16) (.cons (.int .u16) .nil))))))))))) : Ab.D).T) (g0 : ((.st (.cons (.st (.cons (.st (.cons .bool (.cons .bool .nil))) (.cons (.int .u8) (.cons (.int .u8) .nil)))) (.cons (.int .u16) (.cons (.int .u16) (.cons (.int .u64) (.cons (.int .u64) (.cons (.int .u64) (.cons (.int .u32) (.cons (.int .u16) (.cons (.int .u16) (.cons (.int .u16) .nil))))))))))) : Ab.D).good x0) (x1 : ((.sl (.int .u8)) : Ab.D).T) (g1 : ((.sl (.int .u8)) : Ab.D).good x1) (x2 : ((.int .i64) : Ab.D).T) (g2 : ((.int .i64) : Ab.D).good x2) :
    PCalls Try.prog 6 [pvD (.st (.cons (.st (.cons (.st (.cons .bool (.cons .bool .nil))) (.cons (.int .u8) (.cons (.int .u8) .nil)))) (.cons (.int .u16) (.cons (.int .u16) (.cons (.int .u64) (.cons (.int .u64) (.cons (.int .u64) (.cons (.int .u32) (.cons (.int .u16) (.cons (.int .u16) (.cons (.int .u16) .nil))))))))))) x0, pvD (.sl (.int .u8)) x1, pvD (.int .i64) x2] [] fun p _ => p = .bool true := by
  obtain ⟨⟨⟨w, big, _⟩, o, a, _⟩, ty, ma, en, po, so, fl, pn, sn, st, _⟩ := x0
  exact hback_core (headN_of g0) (B_of g1.2)
end
end Go.Proofs.Ytmknnlbbfeldbaa.PvW
