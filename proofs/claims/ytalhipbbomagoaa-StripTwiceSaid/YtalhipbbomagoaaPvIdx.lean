/- bytes.IndexByte's contract: its callee has no Go body: the model's own entry. No statement of the set is proved in this text. -/
import Derived.Test.YtalhipbbomagoaaBa3
import Derived.Test.YtalhipbbomagoaaTdModel
import Derived.Lib.Strings
import Derived.Lib.Walk
import Derived.WalkKit
import Derived.Lib.BytesEntry
namespace Go.Proofs.Ytalhipbbomagoaa.PvW
open Go Go.RowKit Go.Proofs Go.Proofs.Ytalhipbbomagoaa.Cd Go.Proofs.Ytalhipbbomagoaa.Ab Go.Proofs.Ytalhipbbomagoaa.AbP Go.Proofs.Ytalhipbbomagoaa.Num Go.Proofs.Ytalhipbbomagoaa.Pv
set_option maxRecDepth 100000
set_option maxHeartbeats 4000000
set_option linter.unusedVariables false
set_option linter.unusedSimpArgs false
set_option maxHeartbeats 1000000 in
set_option maxRecDepth 100000 in
theorem idx_calls (b o n c : Nat) (xs : List Int) (cv : Int) (w : World) (hx : xs.length = n)
    (hc : ∀ i, i < n → w.cell? ⟨b, o + i, none⟩ = some (.int .u8 (xs.getD i 0))) :
    Calls Try.prog 139 #[.slice (some ⟨b, o, none⟩) n c, .int .u8 cv] w fun e w' => e = .returned (.int .i64 (Lib.indexByte (Lib.bytesOf xs) cv.toNat.toUInt8)) ∧ w' = w := by
  go_enter Try.func139, Try.ntmps139
  go_wp2
  rw [run_callFunc_extern Try.func143 (by kernel_rfl) (by kernel_rfl) (by kernel_rfl) (e := Extern.BytealgIndexByte.indexByte) (by kernel_rfl), Lib.run_indexByteSlice w b o n c xs hx hc cv]
  simp only [Result.andThen]
  rw [Oper.upon_value]
  go_wp2
  go_ret
  exact ⟨rfl, rfl⟩
theorem rel_spot {R : AR} {h : Hp} {w : World} (hr : Rel R h w) {a a' : Addr} {v : Value} (ha : AddrR R a a') (hs : a.spot = none) (hc : h.cell? a = some v) : a'.spot = none := by
  cases ha with
  | old _ hb => exact hs
  | new b o cb cs cc hb hrho => rfl
  | dead _ _ hb hd =>
    unfold Hp.cell? at hc
    rw [if_neg (by rw [← hr.base]; omega)] at hc
    cases hk : h.blk? a.block with
    | none => simp [hk] at hc
    | some k =>
      obtain ⟨k2, h2, h3⟩ := (hr.dead _ hd).2
      rw [hk] at h2
      obtain rfl := Option.some.inj h2
      simp [hk, h3] at hc
  | junk _ _ hb hs2 => rw [hs] at hs2; cases hs2
theorem slR_addr {R : AR} {a a' : Addr} {n c c' : Nat} (h : SlR R a n c a' c') (hs : a.spot = none) : AddrR R a a' := by
  cases h with
  | old _ _ _ hb => exact .old _ hb
  | new b o n c cb cs cc c' hb hr => exact .new _ _ _ _ _ hb hr
  | dead _ _ _ _ _ hb hd => exact .dead _ _ hb hd
  | junk _ _ _ hb hs2 => rw [hs] at hs2; cases hs2
theorem enc_u8 (b : List Int) : b.flatMap (D.enc (.int .u8)) = byV b := by
  induction b with
  | nil => rfl
  | cons x b ih => rw [List.flatMap_cons, ih]; rfl
theorem idx_spec {K : PV → List OB → Prop} {b : List Int} {c : Int} (hb : Om (0 < b.length)) (hk : K (.int .i64 (Lib.indexByte (Lib.bytesOf b) c.toNat.toUInt8)) []) :
    PCalls Try.prog 139 [.sl (.int .u8) b, .int .u8 c] [] K := by
  intro h E i vs S A
  obtain ⟨v1, t1, rfl, P1, A⟩ := A.uncons
  obtain ⟨v2, t2, rfl, P2, A⟩ := A.uncons
  obtain rfl : t2 = [] := List.eq_nil_of_length_eq_zero A.1.symm
  cases P2
  obtain ⟨A1, c1, rw, rfl, hc1, hr, hch⟩ := P1.sl_inv'
  have hbl := hb.o
  rw [Chunks_flat (d := .int .u8) rfl b rw hch, enc_u8] at hr
  obtain ⟨a, rfl⟩ := rowV_some hr hbl
  obtain ⟨fn, cc, h1, h2, h3, h4, h5, h6⟩ := bytes_IndexByte.told
  refine ⟨⟨fn, h1, h2, by rw [h3]; rfl⟩, fun R w args' hR hV => ?_⟩
  obtain ⟨u1, t1, rfl, V1, hV⟩ := hV.uncons
  obtain ⟨u2, t2, rfl, V2, hV⟩ := hV.uncons
  obtain rfl : t2 = [] := List.eq_nil_of_length_eq_zero hV.1.symm
  have e2 : u2 = .int .u8 c := by cases V2; rfl
  subst e2
  have key : ∃ a' c', u1 = .slice (some a') b.length c' ∧ SlR R a b.length c1 a' c' := by
    cases V1 with
    | sl _ a' _ _ c' hs => exact ⟨a', c', rfl, hs⟩
  obtain ⟨a', c', rfl, hs⟩ := key
  have hspot : a.spot = none := rowV_spot hr (by rw [byV_len]; exact hbl)
  have hA := slR_addr hs hspot
  have hcell : ∀ j, j < b.length → h.cell? (a.add j) = some (.int .u8 (b.getD j 0)) := fun j hj => (mask_cell.1 (rowV_cell hr (byV_get hj))).1
  have hw : ∀ j, j < b.length → w.cell? (a'.add j) = some (.int .u8 (b.getD j 0)) := fun j hj => by
    obtain ⟨v', q1, q2, _⟩ := hR.cell (hA.add (fun hh => by rw [hspot] at hh; cases hh.2) j) (hcell j hj)
    cases q2
    exact q1
  have hc0 := hcell 0 hbl
  have ea : a.add 0 = a := by
    obtain ⟨x, y, z⟩ := a
    obtain rfl : z = none := hspot
    exact add_b x y 0
  rw [ea] at hc0
  have hsp := rel_spot hR hA hspot hc0
  obtain ⟨x, y, z⟩ := a'
  obtain rfl : z = none := hsp
  refine (idx_calls x y b.length c' b c w rfl (fun j hj => by rw [← add_b]; exact hw j hj)).mono fun e w' ⟨he, hw'⟩ => ?_
  subst he hw'
  exact ⟨_, _, h, R, ⟨_, [], E, i, hk, S, .int _ _⟩, rfl, .int _ _, .refl hR⟩
end Go.Proofs.Ytalhipbbomagoaa.PvW
