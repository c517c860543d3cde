/- States of plain values: appends, cuts, copies, calls. No statement of the set is proved in this text. -/
import Derived.Test.YtalhipbbomagoaaPvE
namespace Go.Proofs.Ytalhipbbomagoaa.Pv
open Go.RowKit Go.Proofs.Ytalhipbbomagoaa.Ab Go.Proofs.Ytalhipbbomagoaa.AbP
set_option linter.unusedVariables false
set_option linter.unusedSimpArgs false
/-- What is appended, or copied: a list of data. -/
inductive Src (s : List OB) : PV → (d : D) → List d.T → Prop where
  | as {p : PV} {d : D} {l : List d.T} (a : As s p d l) : Src s p d l
  | str (t : ByteArray) : Src s (.str t) (.int .u8) (bytI t)
theorem Src.view {Z : Bs} {h : Hp} {E : Nat → Bool} {i : Nat → Option Nat} {s : List OB} (S : SR Z h E i s) {p : PV} {d : D} {l : List d.T} (a : Src s p d l) {v : Value} (hp : PR ⟨Hp.mask h E, i, s⟩ p v) :
    ∃ us, srcV h d.sz v = some (us, l.length) ∧ Chunks (d.Is (Hp.mask h E)) l us := by
  cases a with
  | as a =>
    obtain ⟨A, c, us, rfl, h0, h1, h2⟩ := a.view S hp
    exact ⟨us, srcV_row h1, h2⟩
  | str t =>
    obtain rfl := hp.str_inv
    refine ⟨(bytI t).map (Value.int .u8), ?_, Chunks_map _⟩
    show (if (1 : Nat) = 1 then some (bytesOf t, t.size) else none) = some (List.map (Value.int .u8) (bytI t), (bytI t).length)
    rw [if_pos rfl, bytesOf_map, bytI_len]
/-- What is read is not the block. -/
def sfP (s : List OB) (b : Nat) : PV → Bool
  | .ptr b' _ => (match s[b']? with | some (.var _) => true | _ => false) && !(Nat.beq b' b)
  | .oel b' n _ _ => (match s[b']? with | some (.row _ n' _) => Nat.beq n n' | _ => false) && !(Nat.beq b' b)
  | .elt _ _ _ _ => true
  | .ref l _ => Nat.blt 0 l.length
  | .tup _ => true
  | .nilS => true
  | .sl (.int _) _ => true
  | .osl b' n => (match s[b']? with | some (.arr _ l) => Nat.beq n l.length | some (.row _ n' _) => Nat.beq n n' | _ => false) && !(Nat.beq b' b)
  | _ => false
theorem add_block (a : Addr) (n : Nat) : (a.add n).block = a.block := by
  unfold Addr.add
  split <;> rfl
theorem sf_safe {Z : Bs} {h : Hp} {E : Nat → Bool} {i : Nat → Option Nat} {s : List OB} {b k : Nat} {o : OB} {p : PV} {v : Value} (S : SR Z h E i s) (hp : PR ⟨Hp.mask h E, i, s⟩ p v) (hs : sfP s b p = true) (hb : s[b]? = some o) (hl : o.live = true) (hk : i b = some k) : ∀ a, ptOf v = some a → a.block ≠ k := by
  intro a ha he
  obtain ⟨hE, kb, hkb, -⟩ := (S.ob b o hb).at hl hk
  have hlo := (Hp.blk_lt hkb).1
  have nomask : ∀ (a' : Addr) v', (Hp.mask h E).cell? a' = some v' → a'.block = k → False := fun a' v' hc e => by
    rcases (mask_cell.1 hc).2 with h1 | h1
    · rw [e] at h1; omega
    · rw [e, hE] at h1; cases h1
  cases hp with
  | ptr b' o' v hv hlt h =>
    simp only [sfP, Bool.and_eq_true] at hs
    obtain ⟨h1, h2⟩ := hs
    split at h1
    · rename_i l hl'
      obtain ⟨k', e1, e2⟩ := h ⟨_, hl', rfl⟩
      rw [e2] at ha
      have ha := Option.some.inj ha
      subst ha
      have : b' = b := S.inj b' b k _ _ hl' hb rfl hl (by rw [← he]; exact e1) hk
      subst this
      simp at h2
    · cases h1
  | oel b' n i' o' v hv hlt h =>
    simp only [sfP, Bool.and_eq_true] at hs
    obtain ⟨h1, h2⟩ := hs
    split at h1
    · rename_i es n' l hl'
      have hn := Nat.eq_of_beq_eq_true h1
      subst hn
      rcases h es n ⟨_, hl', rfl⟩ with h3 | ⟨-, -, k', e1, e2⟩
      · omega
      · rw [e2] at ha
        have ha := Option.some.inj ha
        subst ha
        have : b' = b := S.inj b' b k _ _ hl' hb rfl hl (by rw [← he]; exact e1) hk
        subst this
        simp at h2
    · cases h1
  | elt d l i' o' a' n c rw_ hi hd hr hc =>
    have ha := Option.some.inj ha
    rw [← ha, add_block] at he
    have hlen := Chunks_len hc
    have h0 : 0 < rw_.length := by rw [hlen]; exact Nat.mul_pos (by omega) hd
    have hcell := rowV_cell hr (j := 0) (v := rw_[0]) (by simp [h0])
    exact nomask _ _ hcell (by rw [add_block]; exact he)
  | ref l o' a' cs hs' hl' hc hq =>
    have ha := Option.some.inj ha
    rw [← ha, add_block] at he
    have h0 : 0 < l.length := by
      have : Nat.blt 0 l.length = true := hs
      simpa using this
    obtain ⟨m, hm⟩ : ∃ m, l.length = m + 1 := ⟨l.length - 1, by omega⟩
    rw [hm] at hc
    have hc : (Hp.mask h E).cellsFrom a' 0 (m + 1) = some cs := hc
    simp only [Hp.cellsFrom] at hc
    split at hc
    · rename_i v1 h1
      exact nomask _ _ h1 (by rw [add_block]; exact he)
    · simp at hc
  | tup l a' hl' h => cases ha
  | nilS => cases ha
  | sl d l v hsl =>
    cases d with
    | int kk =>
      obtain ⟨A, c, rw_, e, h0, h1, h2⟩ := hsl
      obtain rfl : v = .slice A l.length c := by simpa using e
      cases A with
      | none => cases ha
      | some a' =>
        have ha : (if l.length = 0 then none else some a') = some a := ha
        split at ha
        · cases ha
        · rename_i hn
          obtain rfl := Option.some.inj ha
          have hlen := Chunks_len h2
          have h0 : 0 < rw_.length := by
            rw [hlen]
            exact Nat.mul_pos (Nat.pos_of_ne_zero hn) (show 0 < 1 by decide)
          have hcell := rowV_cell h1 (j := 0) (v := rw_[0]) (by simp [h0])
          exact nomask _ _ hcell (by rw [add_block]; exact he)
    | _ => cases hs
  | osl b' n v hv hlt h =>
    simp only [sfP, Bool.and_eq_true] at hs
    obtain ⟨h1, h2⟩ := hs
    have key : ∀ es n' o', s[b']? = some o' → o'.live = true → o'.sig = some (es, n') → n = n' → False := fun es n' o' ho' hlv hsig hn => by
      rcases h es n' ⟨_, ho', hsig⟩ with h3 | ⟨-, c, -, e2⟩
      · omega
      · rw [e2] at ha
        have ha : ptOf (slV (i b') n c) = some a := ha
        cases hib : i b' with
        | none => rw [hib] at ha; cases ha
        | some k' =>
          rw [hib] at ha
          have ha : (if n = 0 then none else some (⟨k', 0, none⟩ : Addr)) = some a := ha
          split at ha
          · cases ha
          · have ha := Option.some.inj ha
            subst ha
            have : b' = b := S.inj b' b k _ _ ho' hb hlv hl (by rw [← he]; exact hib) hk
            subst this
            simp at h2
    split at h1
    · rename_i d l hl'
      exact key _ _ _ hl' rfl rfl (Nat.eq_of_beq_eq_true h1)
    · rename_i es n' l hl'
      exact key _ _ _ hl' rfl rfl (Nat.eq_of_beq_eq_true h1)
    · cases h1
  | _ => cases hs
section
variable {P : Program} {Z : Bs} {K : Env → List OB → Prop} {Q : QP} {e : Env} {s s' : List OB} {cs : List CO} {pr : List Operand} {d : Option Nat} {kp : Bool} {x y z : Operand} {p q r : PV} {u v w : Value} {b o n m i j es : Nat} {l l' c : List PV} {D' : D}
/-- onto what is one's own -/
theorem q_stVK {size : Nat} {l' : List PV} (hx : Lk (evE e x = .ptr b o)) (hy : Lk (evE e y = p)) (hb : Rf (s[b]? = some (.var l))) (hc : Pu (cellsP p = c)) (h1 : Rf (c.all one1 = true)) (hz : Rf (Nat.beq c.length size = true)) (ho : Rf (Nat.ble (o + size) l.length = true)) (hp : Pu (putP l o c = l')) (hs : Pu (s.set b (.var l') = s')) {ps : List PV} (hm : Mp (pr.map (evE e) = ps)) (hsf : Rf (ps.all (sfP s b) = true))
    (hk : pops P Z pr cs K (putE e d (.tup [])) s') : pops P Z pr (⟨d, none, true, .e (.st size x y)⟩ :: cs) K e s := fun f h ⟨E, i, S, R⟩ => by
  obtain ⟨k, us, q1, q2, q3, q4, q5⟩ := own_cells S hb.o
  obtain ⟨k', q6, hv'⟩ := (R.at hx.o).ptr_inv ⟨_, hb.o, rfl⟩
  have q6 : i b = some k' := q6
  rw [q1] at q6
  obtain rfl := Option.some.inj q6
  obtain ⟨k1, k2⟩ := cellsP_PR (R.at hy.o) hc.o h1.o
  have hz := Nat.eq_of_beq_eq_true hz.o
  have ho := Nat.le_of_ble_eq_true ho.o
  have hlen : (evF f y).cells.toList.length = size := by rw [← k1.1]; exact hz
  have hw := write_at q3 rfl (o := o) (vs := (evF f y).cells.toList) (by show o + _ ≤ us.length; rw [hlen, ← q5.1]; exact ho) k2
  have hlo := (Hp.blk_lt q3).1
  obtain ⟨S', le'⟩ := S.upd b (.var l) (.var l') (i b) (h.setBlk k ⟨putAt us o (evF f y).cells.toList, 0, true⟩) E hb.o (by rfl) (by rw [Hp.next_set]; exact Nat.le_refl _)
    (fun b' k' hb' hne => by
      have hne' : b' ≠ k := fun e => hne ⟨rfl, by rw [e]; exact q1⟩
      exact ⟨by rw [Hp.blk_set_ne _ _ hlo hne']; exact hb', rfl⟩)
    (fun b' _ hb' => .inl ⟨rfl, hb'⟩) rfl ⟨fun _ => ⟨rfl, rfl⟩, fun es n h => by simp [OB.sig] at h⟩
    (fun le => ⟨k, putAt us o (evF f y).cells.toList, (ups_at _ _ _).trans q1, q2, Hp.blk_set _ _ q3, putAt_one _ _ _ k2 q4, by have t := putP_PRs k1 q5 o; rw [hp.o] at t; exact t.mono le⟩)
  rw [hs.o] at S' le'
  refine s_stP hv' (by rw [← hlen]; simp) hw (fun _ => .inr ⟨rfl, fun b' k' hb' hn => ?_, fun b' hb' z hz a ha => ?_⟩) (hk _ _ ⟨E, _, S', (R.mono le').put (undef_PR _)⟩)
  · have hne' : b' ≠ k := fun e' => hn (by
      show b' ∈ [evF f x].filterMap ptB
      rw [hv', e']
      simp [ptB])
    rw [Hp.blk_set_ne _ _ hlo hne']
    exact hb'
  · have hb' : b' ∈ [evF f x].filterMap ptB := hb'
    rw [hv'] at hb'
    have hbk : b' = k := by simpa [ptB] using hb'
    rw [hbk]
    exact sf_safe S (R.ev z) (List.all_eq_true.1 (hm.o ▸ hsf.o) _ (List.mem_map_of_mem hz)) hb.o rfl q1 a ha
theorem q_appG {eo : EOp} {bytes : Nat} {l l' : List D'.T} (hx : Lk (evE e x = .osl b n)) (hb : Rf (s[b]? = some (.arr D' l))) (hn : Om (n = l.length)) (hsrc : ∀ f h E i, SR Z h E i s → ER ⟨Hp.mask h E, i, s⟩ e f → ∃ new, Chunks (D'.Is (Hp.mask h E)) l' new ∧ ∀ (v : Value) (h' : Hp) (K1 : Value → Hp → Prop), h.append D'.sz bytes (evF f x) new l'.length = some (v, h') → K1 v h' → eo.run P (evF f) h K1) (htouch : ∀ f : Fr, eo.touch (evF f) = match evF f x with | .slice (some a) _ _ => if a.spot = none then [a.block] else [] | _ => []) (h1 : Om ((l.length + l'.length) * bytes ≤ 2 ^ 46)) (h2 : Om (l.length + l'.length < 2 ^ 62)) (hs : Pu (s.set b (.arr D' (l ++ l')) = s')) (hkp : kp = true → ∀ x ∈ pr, sfP s b (evE e x) = true)
    (hk : pops P Z pr cs K (putE e d (.osl b (l.length + l'.length))) s') : pops P Z pr (⟨d, none, kp, .e eo⟩ :: cs) K e s := fun f h ⟨E, i, S, R⟩ => by
  have hn := hn.o
  have h1 := h1.o
  have h2 := h2.o
  obtain ⟨new, g2, g1⟩ := hsrc f h E i S R
  have gl := Chunks_len g2
  obtain ⟨hd, hob⟩ := S.ob b _ hb.o
  have hlt := (List.getElem?_eq_some_iff.1 hb.o).1
  have lvn : ∀ {i' : Nat → Option Nat} {m : Hp} {es' n' : Nat}, lvS ⟨m, i', s'⟩ b es' n' → es' = D'.sz ∧ n' = l.length + l'.length := fun hl => by
    obtain ⟨o, ho, hsig⟩ := hl
    rw [← hs.o] at ho
    have ho : (s.set b (.arr D' (l ++ l')))[b]? = some o := ho
    rw [List.getElem?_set, if_pos rfl, if_pos hlt] at ho
    obtain rfl := Option.some.inj ho
    simp only [OB.sig, List.length_append, Option.some.injEq, Prod.mk.injEq] at hsig
    exact ⟨hsig.1.symm, hsig.2.symm⟩
  have hlen' : b < s'.length := by rw [← hs.o]; simpa using hlt
  rcases (R.at hx.o).osl_inv _ _ ⟨_, hb.o, rfl⟩ with hh | ⟨-, c, hc, hv⟩
  · omega
  have keepP : ∀ {h' : Hp}, kp = true → (∀ b' k', h.blk? b' = some k' → ¬ (OB.live (.arr D' l) = true ∧ i b = some b') → h'.blk? b' = some k') → h'.old = h.old → KeepsP (eo.touch (evF f)) pr f h h' := fun hh q1 q2 => by
    refine ⟨q2, fun b' k' hb' hn => q1 b' k' hb' (fun hi => hn ?_), fun b' hb' y hy a ha => ?_⟩
    · rw [htouch, hv]
      show b' ∈ (match slV (i b) n c with | .slice (some a) _ _ => if a.spot = none then [a.block] else [] | _ => [])
      rw [hi.2]
      simp [slV]
    · rw [htouch, hv] at hb'
      have hb' : b' ∈ (match slV (i b) n c with | .slice (some a) _ _ => if a.spot = none then [a.block] else [] | _ => []) := hb'
      cases hib : i b with
      | none => rw [hib] at hb'; simp [slV] at hb'
      | some k =>
        rw [hib] at hb'
        simp [slV] at hb'
        subst hb'
        exact sf_safe S (R.ev y) (hkp hh y hy) hb.o rfl hib a ha
  by_cases hm : l'.length = 0
  · -- nothing is appended
    have hl' : l' = [] := List.eq_nil_of_length_eq_zero hm
    have hu := S.upd b (.arr D' l) (.arr D' (l ++ l')) (i b) h E hb.o rfl (Nat.le_refl _) (fun b' k' hb' _ => ⟨hb', rfl⟩) (fun b' _ hb' => .inl ⟨rfl, hb'⟩) rfl ⟨fun h => by simp [OB.isV] at h, fun es n hh _ => ⟨n, Nat.le_refl _, by rw [hl', List.append_nil] at hh; exact hh, fun _ => rfl⟩⟩
      (fun le => by
        rw [hl', List.append_nil] at le ⊢
        exact (S.ob b _ hb.o).mono le (ups_at _ _ _) (fun b k _ hk => ⟨hk, rfl⟩))
    rw [hs.o] at hu
    obtain ⟨S', le'⟩ := hu
    have happ : h.append D'.sz bytes (evF f x) new l'.length = some (evF f x, h) := by
      rw [hv]
      rcases hob with ⟨k1, k2⟩ | ⟨k, us, k1, k2, k3, k4⟩
      · have k1 : i b = none := k1
        simp only [k1, slV, Hp.append]
        rw [if_neg (by simp only [Decidable.not_not]; exact ⟨Nat.le_refl _, by rw [hm]; simp, by rw [hm]; decide⟩), if_pos hm]
      · have k1 : i b = some k := k1
        simp only [k1, slV, Hp.append]
        rw [if_neg (by rw [hm] at h1 h2 ⊢; simp only [Decidable.not_not]; exact ⟨by omega, by rw [hn]; exact h1, by omega⟩), if_pos hm]
    refine s_gen (fun K1 => g1 _ _ K1 happ) (fun _ => .inl (.refl h)) (hk _ _ ⟨E, _, S', (R.mono le').put ?_⟩)
    refine .osl b _ _ (R.at hx.o).osl_form hlen' (fun es' n' hl => .inr ⟨(lvn hl).2.symm, c, by omega, ?_⟩)
    show _ = slV (ups i b (i b) b) _ _
    rw [ups_at, hv, hm, Nat.add_zero, ← hn]
  · -- a new block
    have fin : ∀ (h' : Hp) (us : List Value), (∀ b' k', h.blk? b' = some k' → ¬ (OB.live (.arr D' l) = true ∧ i b = some b') → h'.blk? b' = some k') → h'.old = h.old → h'.next = h.next + 1 → h'.blk? h.next = some ⟨us ++ new, D'.sz, true⟩ → Chunks (D'.Is (Hp.mask h E)) l us →
        h.append D'.sz bytes (evF f x) new l'.length = some (.slice (some ⟨h.next, 0, none⟩) (l.length + l'.length) (l.length + l'.length + 1), h') → aops P pr (⟨d, none, kp, .e eo⟩ :: cs) (Lf Z K) f h := fun h' us q1 q2 q3 q4 q5 q6 => by
      have hu := S.upd b (.arr D' l) (.arr D' (l ++ l')) (some h.next) h' (fun b' => b' == h.next || E b') hb.o q2 (by omega)
        (fun b' k' hb' hne => ⟨q1 b' k' hb' hne, by
          have : b' ≠ h.next := by have := (Hp.blk_lt hb').2; omega
          simp [this]⟩)
        (fun b' _ hb' => by obtain rfl := Option.some.inj hb'; exact .inr (Nat.le_refl _)) rfl
        ⟨fun h => by simp [OB.isV] at h, fun es n hh _ => by
          simp only [OB.sig, List.length_append, Option.some.injEq, Prod.mk.injEq] at hh
          exact ⟨l.length, by omega, by simp [OB.sig, hh.1], fun e => by omega⟩⟩
        (fun le => ⟨hd, .inr ⟨h.next, us ++ new, ups_at _ _ _, by simp, q4, Chunks_append (ChMono (Is_mono le.m D') q5) (ChMono (Is_mono le.m D') g2)⟩⟩)
      rw [hs.o] at hu
      obtain ⟨S', le'⟩ := hu
      refine s_gen (fun K1 => g1 _ _ K1 q6) (fun hh => .inr (keepP hh q1 q2)) (hk _ _ ⟨_, _, S', (R.mono le').put ?_⟩)
      refine .osl b _ _ ⟨_, _, _, rfl⟩ hlen' (fun es' n' hl => .inr ⟨(lvn hl).2.symm, _, .inr rfl, ?_⟩)
      show _ = slV (ups i b (some h.next) b) _ _
      rw [ups_at]
      rfl
    rcases hob with ⟨k1, k2⟩ | ⟨k, us, k1, k2, k3, k4⟩
    · have k1 : i b = none := k1
      subst k2
      refine fin (h.push ⟨[] ++ new, D'.sz, true⟩) [] (fun b' k' hb' _ => ?_) rfl (by rw [Hp.next_push]) (Hp.blk_push _ _) rfl ?_
      · rw [Hp.blk_push_ne _ _ (by have := (Hp.blk_lt hb').2; omega)]; exact hb'
      · rw [hv]
        simp only [List.length_nil] at hn h1 h2
        subst hn
        simp only [k1, slV, Hp.append]
        rw [if_neg (by simp; simp at h1 h2; omega), if_neg hm, if_pos ⟨trivial, trivial⟩]
        simp
    · have k1 : i b = some k := k1
      have hlo := (Hp.blk_lt k3).1
      have hul := Chunks_len k4
      have hcells : h.cells? ⟨k, 0, none⟩ (n * D'.sz) = some us := by
        rw [blk_cells' k3 rfl (by show 0 + n * D'.sz ≤ us.length; rw [hul, hn]; omega), List.drop_zero, hn, ← hul, List.take_length]
      have hv' : evF f x = .slice (some ⟨k, 0, none⟩) n c := by rw [hv]; show slV (i b) n c = _; rw [k1]; rfl
      by_cases hcn : c = n
      · refine fin (h.push ⟨us ++ new, D'.sz, true⟩) us (fun b' k' hb' _ => ?_) rfl (by rw [Hp.next_push]) (Hp.blk_push _ _) k4 ?_
        · rw [Hp.blk_push_ne _ _ (by have := (Hp.blk_lt hb').2; omega)]; exact hb'
        · rw [hv']
          simp only [Hp.append]
          rw [if_neg (by simp only [Decidable.not_not]; exact ⟨by omega, by rw [hn]; exact h1, by omega⟩), if_neg hm]
          simp only [hcells]
          rw [if_pos hcn, hn]
      · have hkill : h.kill k = h.setBlk k ⟨us, D'.sz, false⟩ := Hp.kill_eq k3
        have hnx : (h.kill k).next = h.next := by rw [hkill, Hp.next_set]
        refine fin ((h.kill k).push ⟨us ++ new, D'.sz, true⟩) us (fun b' k' hb' hne => ?_) (by rw [hkill]; rfl) (by rw [Hp.next_push, hnx]) (by rw [← hnx]; exact Hp.blk_push _ _) k4 ?_
        · have hne' : b' ≠ k := fun e => hne ⟨rfl, by rw [e]; exact k1⟩
          rw [Hp.blk_push_ne _ _ (by rw [hnx]; have := (Hp.blk_lt hb').2; omega), hkill, Hp.blk_set_ne _ _ hlo hne']
          exact hb'
        · rw [hv']
          simp only [Hp.append]
          rw [if_neg (by simp only [Decidable.not_not]; exact ⟨by omega, by rw [hn]; exact h1, by omega⟩), if_neg hm]
          simp only [hcells]
          rw [if_neg hcn, if_pos ⟨by omega, by omega, trivial, trivial, by simp [k3]⟩, hn]
theorem q_appX {bytes : Nat} {l l' : List D'.T} (hx : Lk (evE e x = .osl b n)) (hy : Lk (evE e y = q)) (hb : Rf (s[b]? = some (.arr D' l))) (hn : Om (n = l.length)) (ha : Vw (Src s q D' l')) (he : Rf (Nat.beq D'.sz es = true)) (h1 : Om ((l.length + l'.length) * bytes ≤ 2 ^ 46)) (h2 : Om (l.length + l'.length < 2 ^ 62)) (hs : Pu (s.set b (.arr D' (l ++ l')) = s')) (hkp : kp = true → ∀ x ∈ pr, sfP s b (evE e x) = true)
    (hk : pops P Z pr cs K (putE e d (.osl b (l.length + l'.length))) s') : pops P Z pr (⟨d, none, kp, .e (.app es bytes x y)⟩ :: cs) K e s := by
  have he := Nat.eq_of_beq_eq_true he.o
  subst he
  refine q_appG (eo := .app D'.sz bytes x y) hx hb hn (fun f h E i S R => ?_) (fun f => rfl) h1 h2 hs hkp hk
  obtain ⟨new, g1, g2⟩ := ha.o.view S (R.at hy.o)
  exact ⟨new, g2, fun v h' K1 ha hK => ⟨new, _, v, h', g1, ha, hK⟩⟩
theorem q_apzX {bytes : Nat} {k kk : IntKind} {a : Int} {l : List Int} (hx : Lk (evE e x = .osl b n)) (hy : Lk (evE e y = .int kk a)) (hb : Rf (s[b]? = some (.arr (.int k) l))) (hn : Om (n = l.length)) (h0 : Om (0 ≤ a)) (hj : Vl (a.toNat = m)) (h1 : Om ((l.length + m) * bytes ≤ 2 ^ 46)) (h2 : Om (l.length + m < 2 ^ 62)) (hs : Pu (s.set b (.arr (.int k) (l ++ List.replicate m (0 : Int))) = s')) (hkp : kp = true → ∀ x ∈ pr, sfP s b (evE e x) = true)
    (hk : pops P Z pr cs K (putE e d (.osl b (l.length + m))) s') : pops P Z pr (⟨d, none, kp, .e (.apz 1 bytes [.int k 0] x y)⟩ :: cs) K e s := by
  have hj := hj.o
  have h0 := h0.o
  subst hj
  have hlen : (List.replicate a.toNat (0 : Int)).length = a.toNat := List.length_replicate
  refine q_appG (D' := .int k) (l' := List.replicate a.toNat (0 : Int)) (eo := .apz 1 bytes [.int k 0] x y) hx hb hn (fun f h E i S R => ⟨zerosOf 1 [.int k 0] a.toNat, ?_, fun v h' K1 ha hK => ?_⟩) (fun f => rfl) ⟨by rw [hlen]; exact h1.o⟩ ⟨by rw [hlen]; exact h2.o⟩ hs hkp (by rw [hlen]; exact hk)
  · rw [rep_zeros]
    exact Chunks_rep (d := .int k) (z := (0 : Int)) (v := .int k 0) rfl _
  · show match evF f y with | .int _ n => _ | _ => _
    rw [(R.at hy.o).int_inv]
    rw [hlen] at ha
    exact ⟨h0, v, h', ha, hK⟩
theorem q_apzO {bytes : Nat} {k kk : IntKind} {a : Int} {l : List Int} (hx : Lk (evE e x = .osl b n)) (hy : Lk (evE e y = .int kk a)) (hb : Rf (s[b]? = some (.arr (.int k) l))) (hn : Om (n = l.length)) (h0 : Om (0 ≤ a)) (hj : Vl (a.toNat = m)) (h1 : Om ((l.length + m) * bytes ≤ 2 ^ 46)) (h2 : Om (l.length + m < 2 ^ 62)) (hs : Pu (s.set b (.arr (.int k) (l ++ List.replicate m (0 : Int))) = s'))
    (hk : pops P Z pr cs K (putE e d (.osl b (l.length + m))) s') : pops P Z pr (⟨d, none, false, .e (.apz 1 bytes [.int k 0] x y)⟩ :: cs) K e s := q_apzX hx hy hb hn h0 hj h1 h2 hs (fun h => by cases h) hk
theorem q_apzK {bytes : Nat} {k kk : IntKind} {a : Int} {l : List Int} (hx : Lk (evE e x = .osl b n)) (hy : Lk (evE e y = .int kk a)) (hb : Rf (s[b]? = some (.arr (.int k) l))) (hn : Om (n = l.length)) (h0 : Om (0 ≤ a)) (hj : Vl (a.toNat = m)) (h1 : Om ((l.length + m) * bytes ≤ 2 ^ 46)) (h2 : Om (l.length + m < 2 ^ 62)) (hs : Pu (s.set b (.arr (.int k) (l ++ List.replicate m (0 : Int))) = s')) {ps : List PV} (hm : Mp (pr.map (evE e) = ps)) (hsf : Rf (ps.all (sfP s b) = true))
    (hk : pops P Z pr cs K (putE e d (.osl b (l.length + m))) s') : pops P Z pr (⟨d, none, true, .e (.apz 1 bytes [.int k 0] x y)⟩ :: cs) K e s := q_apzX hx hy hb hn h0 hj h1 h2 hs (fun _ z hz => List.all_eq_true.1 (hm.o ▸ hsf.o) _ (List.mem_map_of_mem hz)) hk
theorem q_appO {bytes : Nat} {l l' : List D'.T} (hx : Lk (evE e x = .osl b n)) (hy : Lk (evE e y = q)) (hb : Rf (s[b]? = some (.arr D' l))) (hn : Om (n = l.length)) (ha : Vw (Src s q D' l')) (he : Rf (Nat.beq D'.sz es = true)) (h1 : Om ((l.length + l'.length) * bytes ≤ 2 ^ 46)) (h2 : Om (l.length + l'.length < 2 ^ 62)) (hs : Pu (s.set b (.arr D' (l ++ l')) = s')) 
    (hk : pops P Z pr cs K (putE e d (.osl b (l.length + l'.length))) s') : pops P Z pr (⟨d, none, false, .e (.app es bytes x y)⟩ :: cs) K e s := q_appX hx hy hb hn ha he h1 h2 hs (fun h => by cases h) hk
theorem q_appK {bytes : Nat} {l l' : List D'.T} (hx : Lk (evE e x = .osl b n)) (hy : Lk (evE e y = q)) (hb : Rf (s[b]? = some (.arr D' l))) (hn : Om (n = l.length)) (ha : Vw (Src s q D' l')) (he : Rf (Nat.beq D'.sz es = true)) (h1 : Om ((l.length + l'.length) * bytes ≤ 2 ^ 46)) (h2 : Om (l.length + l'.length < 2 ^ 62)) (hs : Pu (s.set b (.arr D' (l ++ l')) = s')) {ps : List PV} (hm : Mp (pr.map (evE e) = ps)) (hsf : Rf (ps.all (sfP s b) = true))
    (hk : pops P Z pr cs K (putE e d (.osl b (l.length + l'.length))) s') : pops P Z pr (⟨d, none, true, .e (.app es bytes x y)⟩ :: cs) K e s := q_appX hx hy hb hn ha he h1 h2 hs (fun _ z hz => List.all_eq_true.1 (hm.o ▸ hsf.o) _ (List.mem_map_of_mem hz)) hk
/-! what may be told otherwise, without a step of the code -/
theorem ghO {e' : Env} (g : Gh Z e s e' s') (hk : pops P Z pr cs K e' s') : pops P Z pr cs K e s := fun f h hr => hk f h (g f h hr)
theorem ghW {a : AC} {e' : Env} (g : Gh Z e s e' s') (hk : pwp P Z a Q e' s') : pwp P Z a Q e s := fun f h hr => hk f h (g f h hr)
theorem Gh.refl (e : Env) (s : List OB) : Gh Z e s e s := fun f h hr => hr
theorem Gh.trans {e1 e2 e3 : Env} {s1 s2 s3 : List OB} (g : Gh Z e1 s1 e2 s2) (k : Gh Z e2 s2 e3 s3) : Gh Z e1 s1 e3 s3 := fun f h hr => k f h (g f h hr)
theorem putE_self {X : Cx} {f : Fr} {t : Nat} (R : ER X e f) (hp : PR X p (f t)) : ER X (putE e (some t) p) f := fun t' => by
  show PR X (if t' = t then p else e t') (f t')
  split
  · rename_i h; subst h; exact hp
  · exact R t'
/-- nothing, as a list of one's own -/
theorem Gh.virt (D' : D) {t : Nat} (hx : e t = .nilS) (hd : 0 < D'.sz)  : Gh Z e s (putE e (some t) (.osl s.length 0)) (s ++ [.arr D' []]) := fun f h ⟨E, i, S, R⟩ => by
  obtain ⟨S', le'⟩ := S.add (.arr D' []) none h E rfl (Nat.le_refl _) (fun b k hb => ⟨hb, rfl⟩) (fun b hb => by simp at hb) (fun le => ⟨hd, .inl ⟨ups_at _ _ _, rfl⟩⟩)
  refine ⟨E, _, S', putE_self (R.mono le') ?_⟩
  have h1 := R t
  rw [hx] at h1
  rw [h1.nilS_inv]
  refine .osl _ 0 _ ⟨_, _, _, rfl⟩ (by simp) (fun es' n' hl => .inr ⟨?_, 0, .inl rfl, by show _ = slV (ups i s.length none s.length) 0 0; rw [ups_at]; rfl⟩)
  obtain ⟨o, ho, hsig⟩ := hl
  have ho : (s ++ [OB.arr D' []])[s.length]? = some o := ho
  simp at ho
  subst ho
  simp [OB.sig] at hsig
  exact hsig.2
/-- a row of known cells, as a list of data -/
theorem Gh.arr (D' : D) {l' : List D'.T} (hb : s[b]? = some (.row D'.sz n c)) (hd : decs D' n c = some l') (h0 : 0 < D'.sz)  : Gh Z e s e (s.set b (.arr D' l')) := fun f h ⟨E, i, S, R⟩ => by
  obtain ⟨k, cs, k1, k2, k3, k4, k5, k6⟩ := S.ob b _ hb
  obtain ⟨q1, q2⟩ := decs_is n _ _ _ hd k6
  obtain ⟨S', le'⟩ := S.upd b _ (.arr D' l') (i b) h E hb rfl (Nat.le_refl _) (fun b' k' hb' _ => ⟨hb', rfl⟩) (fun b' _ hb' => .inl ⟨rfl, hb'⟩) rfl
    ⟨fun h => by simp [OB.isV] at h, fun es n' hh _ => ⟨n', Nat.le_refl _, by simpa [OB.sig, q2] using hh, fun _ => rfl⟩⟩
    (fun le => ⟨h0, .inr ⟨k, cs, (ups_at _ _ _).trans k1, k2, k3, ChMono (Is_mono le.m D') q1⟩⟩)
  exact ⟨E, _, S', R.mono le'⟩
/-- What is given up may be read by all. -/
theorem SR.free {h : Hp} {E : Nat → Bool} {i : Nat → Option Nat} (S : SR Z h E i s) {ob : OB} (hb : s[b]? = some ob) (hl : ob.live = true) :
    SR Z h (fun b' => if i b = some b' then false else E b') (ups i b none) (s.set b .dead) ∧ Cx.le ⟨Hp.mask h E, i, s⟩ ⟨Hp.mask h (fun b' => if i b = some b' then false else E b'), ups i b none, s.set b .dead⟩ :=
  S.upd b ob .dead none h _ hb rfl (Nat.le_refl _) (fun b' k' hb' hne => ⟨hb', by rw [if_neg (fun e => hne ⟨hl, e⟩)]⟩) (fun b' h _ => by simp [OB.live] at h) hl ⟨fun h => by simp [OB.isV] at h, fun es n h => by simp [OB.sig] at h⟩ (fun _ => trivial)
/-- what is one's own, as a list that is only read -/
theorem frz_is {h : Hp} {E : Nat → Bool} {i : Nat → Option Nat} (S : SR Z h E i s) {l : List D'.T} (hb : s[b]? = some (.arr D' l)) (hn : n = l.length) (hp : PR ⟨Hp.mask h E, i, s⟩ (.osl b n) v) :
    PR ⟨Hp.mask h (fun b' => if i b = some b' then false else E b'), ups i b none, s.set b .dead⟩ (.sl D' l) v := by
  obtain ⟨-, le'⟩ := S.free hb rfl
  obtain ⟨hd, hob⟩ := S.ob b _ hb
  rcases hp.osl_inv _ _ ⟨_, hb, rfl⟩ with hh | ⟨-, c, hc, hv⟩
  · omega
  rcases hob with ⟨k1, rfl⟩ | ⟨k, us, k1, k2, k3, k4⟩
  · have k1 : i b = none := k1
    simp only [k1, slV] at hv
    rw [hv]
    exact .sl D' [] _ (Is_nilS _ D')
  · have k1 : i b = some k := k1
    simp only [k1, slV] at hv
    rw [hv, hn]
    have hul := Chunks_len k4
    refine .sl D' l _ ⟨_, c, us, rfl, by omega, ?_, ChMono (Is_mono le'.m D') k4⟩
    show rowV (Hp.mask h (fun b' => if i b = some b' then false else E b')) D'.sz (.slice (some ⟨k, 0, none⟩) l.length c) = some us
    refine blk_row ?_ hul
    rw [mask_blk, k3]
    simp [k1]
theorem Gh.frz {t : Nat} {l : List D'.T} (hx : e t = .osl b n) (hb : s[b]? = some (.arr D' l)) (hn : n = l.length)  : Gh Z e s (putE e (some t) (.sl D' l)) (s.set b .dead) := fun f h ⟨E, i, S, R⟩ => by
  obtain ⟨S', le'⟩ := S.free hb rfl
  refine ⟨_, _, S', putE_self (R.mono le') ?_⟩
  have h1 := R t
  rw [hx] at h1
  exact frz_is S hb hn h1
/-- a variable of one's own, as cells that are only read -/
theorem frzV_is {h : Hp} {E : Nat → Bool} {i : Nat → Option Nat} (S : SR Z h E i s) (hb : s[b]? = some (.var l)) (hp : PR ⟨Hp.mask h E, i, s⟩ (.ptr b 0) v) :
    PR ⟨Hp.mask h (fun b' => if i b = some b' then false else E b'), ups i b none, s.set b .dead⟩ (.ref l 0) v := by
  obtain ⟨-, le'⟩ := S.free hb rfl
  obtain ⟨k, cs, q1, q2, q3, q4, q5⟩ := own_cells S hb
  obtain ⟨k', q6, hv⟩ := hp.ptr_inv ⟨_, hb, rfl⟩
  have q6 : i b = some k' := q6
  rw [q1] at q6
  obtain rfl := Option.some.inj q6
  rw [hv]
  refine PR.ref l 0 ⟨k, 0, none⟩ cs rfl q5.1 ?_ (q5.mono le').2
  rw [blk_cells' (k := ⟨cs, 0, true⟩) (by rw [mask_blk, q3]; simp [q1]) rfl (by show 0 + l.length ≤ cs.length; rw [q5.1]; omega), List.drop_zero, q5.1, List.take_length]
theorem Gh.frzV {t : Nat} (hx : e t = .ptr b 0) (hb : s[b]? = some (.var l))  : Gh Z e s (putE e (some t) (.ref l 0)) (s.set b .dead) := fun f h ⟨E, i, S, R⟩ => by
  obtain ⟨S', le'⟩ := S.free hb rfl
  refine ⟨_, _, S', putE_self (R.mono le') ?_⟩
  have h1 := R t
  rw [hx] at h1
  exact frzV_is S hb h1
/-- an address made an interface's value: it is only read from then on -/
theorem q_mkIP {t : TypeId} (hx : Lk (evE e x = .ptr b 0)) (hb : Rf (s[b]? = some (.var l))) (hs : Pu (s.set b .dead = s')) (hk : pops P Z pr cs K (putE e d (.ifc t (.ref l 0))) s') : pops P Z pr (⟨d, none, kp, .f (.mkI t x)⟩ :: cs) K e s := fun f h ⟨E, i, S, R⟩ => by
  have h1 := frzV_is S hb.o (R.at hx.o)
  obtain ⟨S', le'⟩ := S.free hb.o rfl
  rw [hs.o] at S' le' h1
  exact s_f (v := .iface t (evF f x)) (by simp only [FOp.run]) (hk _ _ ⟨_, _, S', (R.mono le').put (.ifc t _ _ h1)⟩)
/-- less is told -/
theorem Gh.fgt (g : Nat → PV) (hg : ∀ t, g t = e t ∨ g t = .und)  : Gh Z e s g s := fun f h ⟨E, i, S, R⟩ => ⟨E, i, S, fun t => by
  rcases hg t with h1 | h1
  · rw [h1]; exact R t
  · rw [h1]; exact .und _⟩
theorem Gh.nil {t : Nat} (D' : D) (hx : e t = .nilS)  : Gh Z e s (putE e (some t) (.sl D' [])) s := fun f h ⟨E, i, S, R⟩ => ⟨E, i, S, putE_self R (by
  have h1 := R t
  rw [hx] at h1
  rw [h1.nilS_inv]
  exact .sl D' [] _ (Is_nilS _ D'))⟩
/-! blocks of one's own, chosen and named anew -/
def idx : List Nat → Nat → Nat → Option Nat
  | [], _, _ => none
  | a :: l, k, b => if a = b then some k else idx l (k + 1) b
theorem idx_at : ∀ {js : List Nat} {k b j : Nat}, idx js k b = some j → k ≤ j ∧ js[j - k]? = some b
  | [], k, b, j, h => by simp [idx] at h
  | a :: l, k, b, j, h => by
    unfold idx at h
    split at h
    · rename_i hab
      obtain rfl := Option.some.inj h
      exact ⟨Nat.le_refl _, by rw [Nat.sub_self, hab]; rfl⟩
    · obtain ⟨h1, h2⟩ := idx_at h
      refine ⟨by omega, ?_⟩
      rw [show j - k = (j - (k + 1)) + 1 by omega]
      exact h2
def renA (js : List Nat) : PV → PV
  | .ptr b o => match idx js 0 b with | some j => .ptr j o | none => .und
  | .osl b n => match idx js 0 b with | some j => .osl j n | none => .und
  | .osb b n lo m => match idx js 0 b with | some j => .osb j n lo m | none => .und
  | .oel b n i o => match idx js 0 b with | some j => .oel j n i o | none => .und
  | .int k n => .int k n
  | .bool b => .bool b
  | .str t => .str t
  | .nilI => .nilI
  | .nilF => .nilF
  | .nilP => .nilP
  | .nilS => .nilS
  | .sl d l => .sl d l
  | .elt d l i o => .elt d l i o
  | _ => .und
def renB (js : List Nat) : PV → PV
  | .agg l => .agg (l.map (renA js))
  | .tup l => .tup (l.map (renA js))
  | .fn g a b => .fn g (a.map (renA js)) (b.map (renA js))
  | .ifc t (.ref l o) => .ifc t (.ref (l.map (renA js)) o)
  | .ifc t p => .ifc t (renA js p)
  | .ref l o => .ref (l.map (renA js)) o
  | p => renA js p
def renO (js : List Nat) : OB → OB
  | .var l => .var (l.map (renB js))
  | .row es n l => .row es n (l.map (renB js))
  | o => o
def selS (js : List Nat) (s : List OB) : List OB := js.map fun b => renO js (s.getD b .dead)
theorem renO_sig (js : List Nat) (o : OB) : (renO js o).sig = o.sig ∧ (renO js o).isV = o.isV ∧ (renO js o).live = o.live := by cases o <;> exact ⟨rfl, rfl, rfl⟩
theorem selS_at {js : List Nat} {j b : Nat} (hj : js[j]? = some b) : (selS js s)[j]? = some (renO js (s.getD b .dead)) := by
  unfold selS
  rw [List.getElem?_map, hj]
  rfl
section
variable {m : Hp} {i : Nat → Option Nat} {js : List Nat}
theorem sel_v {j b : Nat} (hj : js[j]? = some b) (h : lvV ⟨m, fun j => (js[j]?).bind i, selS js s⟩ j) : lvV ⟨m, i, s⟩ b := by
  obtain ⟨o, ho, hv⟩ := h
  have ho : (selS js s)[j]? = some o := ho
  rw [selS_at hj] at ho
  obtain rfl := Option.some.inj ho
  rw [(renO_sig js _).2.1] at hv
  refine ⟨s.getD b .dead, ?_, hv⟩
  show s[b]? = _
  rw [List.getD_eq_getElem?_getD] at hv ⊢
  cases hs : s[b]? with
  | none => rw [hs] at hv; simp [OB.isV] at hv
  | some o => rfl
theorem sel_s {j b es n : Nat} (hj : js[j]? = some b) (h : lvS ⟨m, fun j => (js[j]?).bind i, selS js s⟩ j es n) : lvS ⟨m, i, s⟩ b es n := by
  obtain ⟨o, ho, hv⟩ := h
  have ho : (selS js s)[j]? = some o := ho
  rw [selS_at hj] at ho
  obtain rfl := Option.some.inj ho
  rw [(renO_sig js _).1] at hv
  refine ⟨s.getD b .dead, ?_, hv⟩
  show s[b]? = _
  rw [List.getD_eq_getElem?_getD] at hv ⊢
  cases hs : s[b]? with
  | none => rw [hs] at hv; simp [OB.sig] at hv
  | some o => rfl
theorem renA_PR {p : PV} {v : Value} (hp : PR ⟨m, i, s⟩ p v) : PR ⟨m, fun j => (js[j]?).bind i, selS js s⟩ (renA js p) v := by
  have at0 : ∀ {b j : Nat}, idx js 0 b = some j → js[j]? = some b := fun h => by have := (idx_at h).2; rwa [Nat.sub_zero] at this
  have lt : ∀ {b j : Nat}, js[j]? = some b → j < (selS js s).length := fun h => by unfold selS; rw [List.length_map]; exact (List.getElem?_eq_some_iff.1 h).1
  have bi : ∀ {b j : Nat}, js[j]? = some b → (js[j]?).bind i = i b := fun h => by rw [h]; rfl
  cases p with
  | ptr b o =>
    unfold renA
    simp only
    split
    · rename_i j hj
      have h1 := at0 hj
      refine .ptr j o v hp.ptr_form (lt h1) (fun hl => ?_)
      show ∃ k, (js[j]?).bind i = some k ∧ _
      rw [bi h1]
      exact hp.ptr_inv (sel_v h1 hl)
    · exact .und v
  | osl b n =>
    unfold renA
    simp only
    split
    · rename_i j hj
      have h1 := at0 hj
      refine .osl j n v hp.osl_form (lt h1) (fun es n' hl => ?_)
      show _ ∨ (_ ∧ ∃ c, _ ∧ v = slV ((js[j]?).bind i) n c)
      rw [bi h1]
      exact hp.osl_inv es n' (sel_s h1 hl)
    · exact .und v
  | osb b n lo m' =>
    unfold renA
    simp only
    split
    · rename_i j hj
      have h1 := at0 hj
      refine .osb j n lo m' v hp.osb_form (lt h1) (fun es n' hl => ?_)
      show _ ∨ (_ ∧ _ ∧ ∃ A c, _ ∧ _ ∧ (_ ∨ ∃ k, (js[j]?).bind i = some k ∧ _))
      rw [bi h1]
      exact hp.osb_inv es n' (sel_s h1 hl)
    · exact .und v
  | oel b n k o =>
    unfold renA
    simp only
    split
    · rename_i j hj
      have h1 := at0 hj
      refine .oel j n k o v hp.oel_form (lt h1) (fun es n' hl => ?_)
      show _ ∨ (_ ∧ _ ∧ ∃ k', (js[j]?).bind i = some k' ∧ _)
      rw [bi h1]
      exact hp.oel_inv es n' (sel_s h1 hl)
    · exact .und v
  | int k n => rw [hp.int_inv]; exact .int k n
  | bool b => rw [hp.bool_inv]; exact .bool b
  | str t => rw [hp.str_inv]; exact .str t
  | nilI => rw [hp.nilI_inv]; exact .nilI
  | nilF => rw [hp.nilF_inv]; exact .nilF
  | nilP => rw [hp.nilP_inv]; exact .nilP
  | nilS => rw [hp.nilS_inv]; exact .nilS
  | sl d l => exact .sl d l v hp.sl_inv
  | elt d l k o =>
    obtain ⟨a, n, c, rw, rfl, h1, h2, h3, h4⟩ := hp.elt_inv
    exact .elt d l k o a n c rw h1 h2 h3 h4
  | _ => exact .und v
theorem renAs_PR {l : List PV} {us : List Value} (h : PRs ⟨m, i, s⟩ l us) : PRs ⟨m, fun j => (js[j]?).bind i, selS js s⟩ (l.map (renA js)) us :=
  ⟨by simp [h.1], fun j p v hp hv => by
    rw [List.getElem?_map] at hp
    obtain ⟨q, hq, rfl⟩ := Option.map_eq_some_iff.1 hp
    exact renA_PR (h.2 j q v hq hv)⟩
theorem renR_PR {l : List PV} {o : Nat} {v : Value} (h : PR ⟨m, i, s⟩ (.ref l o) v) : PR ⟨m, fun j => (js[j]?).bind i, selS js s⟩ (.ref (l.map (renA js)) o) v := by
  obtain ⟨a, cs, rfl, h1, h2, h3⟩ := h.ref_inv
  have h4 := renAs_PR (js := js) h3
  exact .ref _ o a cs h1 h4.1 (by rw [List.length_map]; exact h2) h4.2
theorem renB_PR {p : PV} {v : Value} (hp : PR ⟨m, i, s⟩ p v) : PR ⟨m, fun j => (js[j]?).bind i, selS js s⟩ (renB js p) v := by
  unfold renB
  split
  · obtain ⟨a, rfl, h⟩ := hp.agg_inv
    have := renAs_PR (js := js) h
    exact .agg _ _ this.1 this.2
  · obtain ⟨a, rfl, h⟩ := hp.tup_inv
    have := renAs_PR (js := js) h
    exact .tup _ _ this.1 this.2
  · obtain ⟨a, b, rfl, h1, h2⟩ := hp.fn_inv
    have k1 := renAs_PR (js := js) h1
    have k2 := renAs_PR (js := js) h2
    exact .fn _ _ _ _ _ k1.1 k2.1 k1.2 k2.2
  · obtain ⟨u, rfl, h⟩ := hp.ifc_inv
    exact .ifc _ _ _ (renR_PR h)
  · obtain ⟨u, rfl, h⟩ := hp.ifc_inv
    exact .ifc _ _ _ (renA_PR h)
  · exact renR_PR hp
  · exact renA_PR hp
theorem renBs_PR {l : List PV} {us : List Value} (h : PRs ⟨m, i, s⟩ l us) : PRs ⟨m, fun j => (js[j]?).bind i, selS js s⟩ (l.map (renB js)) us :=
  ⟨by simp [h.1], fun j p v hp hv => by
    rw [List.getElem?_map] at hp
    obtain ⟨q, hq, rfl⟩ := Option.map_eq_some_iff.1 hp
    exact renB_PR (h.2 j q v hq hv)⟩
end
theorem SR.sel {h : Hp} {E : Nat → Bool} {i : Nat → Option Nat} (js : List Nat) (hn : js.Nodup) (hz : ∀ b, b < Z.s.length → js[b]? = some b) (S : SR Z h E i s) : SR Z h E (fun j => (js[j]?).bind i) (selS js s) := by
  have key : ∀ (j : Nat) (o : OB), (selS js s)[j]? = some o → o.live = true → ∃ (b : Nat) (o' : OB), js[j]? = some b ∧ s[b]? = some o' ∧ o = renO js o' ∧ o'.live = true := fun j o ho hl => by
    have hj : j < js.length := by have := (List.getElem?_eq_some_iff.1 ho).1; unfold selS at this; rwa [List.length_map] at this
    have h1 : js[j]? = some js[j] := by simp [hj]
    rw [selS_at h1] at ho
    obtain rfl := Option.some.inj ho
    rw [(renO_sig js _).2.2] at hl
    rw [List.getD_eq_getElem?_getD] at hl
    cases hs : s[js[j]]? with
    | none => rw [hs] at hl; simp [OB.live] at hl
    | some o' =>
      rw [hs] at hl
      exact ⟨js[j], o', h1, hs, by rw [List.getD_eq_getElem?_getD, hs]; rfl, hl⟩
  refine ⟨fun j o ho => ?_, fun j j' b o o' ho ho' hl hl' hi hi' => ?_, S.old, S.next, S.keep, fun b ⟨j, o, ho, hl, hi⟩ => ?_, ?_⟩
  · by_cases hl : o.live = true
    · obtain ⟨b, o', h1, h2, rfl, h3⟩ := key j o ho hl
      have hob := S.ob b o' h2
      have hb : (js[j]?).bind i = i b := by rw [h1]; rfl
      cases o' with
      | dead => trivial
      | var l =>
        obtain ⟨k, cs, k1, k2, k3, k4, k5⟩ := hob
        exact ⟨k, cs, hb.trans k1, k2, k3, k4, renBs_PR k5⟩
      | row es n l =>
        obtain ⟨k, cs, k1, k2, k3, k4, k5, k6⟩ := hob
        exact ⟨k, cs, hb.trans k1, k2, k3, k4, by rw [List.length_map]; exact k5, renBs_PR k6⟩
      | arr d l =>
        obtain ⟨hd, k1 | ⟨k, us, k1, k2, k3, k4⟩⟩ := hob
        · exact ⟨hd, .inl ⟨hb.trans k1.1, k1.2⟩⟩
        · exact ⟨hd, .inr ⟨k, us, hb.trans k1, k2, k3, k4⟩⟩
    · cases o with
      | dead => trivial
      | _ => simp [OB.live] at hl
  · obtain ⟨c, p, h1, h2, rfl, h3⟩ := key j o ho hl
    obtain ⟨c', p', h1', h2', rfl, h3'⟩ := key j' o' ho' hl'
    have hi : i c = some b := by have : (js[j]?).bind i = some b := hi; rwa [h1] at this
    have hi' : i c' = some b := by have : (js[j']?).bind i = some b := hi'; rwa [h1'] at this
    have e := S.inj c c' b p p' h2 h2' h3 h3' hi hi'
    subst e
    exact (List.getElem?_inj (List.getElem?_eq_some_iff.1 h1).1 hn).1 (h1.trans h1'.symm)
  · obtain ⟨c, p, h1, h2, rfl, h3⟩ := key j o ho hl
    have hi : i c = some b := by have : (js[j]?).bind i = some b := hi; rwa [h1] at this
    exact S.fresh b ⟨c, p, h2, h3, hi⟩
  · refine ⟨S.le.m, ?_, fun b hb hv => ?_, fun b es n hb hv => ?_⟩
    · show Z.s.length ≤ (selS js s).length
      unfold selS
      rw [List.length_map]
      by_cases hz0 : Z.s.length = 0
      · omega
      · have := (List.getElem?_eq_some_iff.1 (hz (Z.s.length - 1) (by omega))).1
        omega
    · have h1 := hz b hb
      obtain ⟨q1, q2⟩ := S.le.v b hb (sel_v h1 hv)
      exact ⟨q1, by show (js[b]?).bind i = _; rw [h1]; exact q2⟩
    · have h1 := hz b hb
      obtain ⟨n0, q1, q2, q3⟩ := S.le.s b es n hb (sel_s h1 hv)
      exact ⟨n0, q1, q2, fun e => by show (js[b]?).bind i = _; rw [h1]; exact q3 e⟩
theorem Gh.sel (js : List Nat) (hn : js.Nodup) (hz : ∀ b, b < Z.s.length → js[b]? = some b) : Gh Z e s (fun t => renB js (e t)) (selS js s) := fun f h ⟨E, i, S, R⟩ => ⟨E, _, S.sel js hn hz, fun t => renB_PR (R t)⟩
end
end Go.Proofs.Ytalhipbbomagoaa.Pv
