/- States of plain values: calls that are handed some blocks of one's own, named anew for them. No statement of the set is proved in this text. -/
import Derived.Test.YtalhipbbomagoaaPvI
namespace Go.Proofs.Ytalhipbbomagoaa.Pv
open Go.RowKit Go.Proofs.Ytalhipbbomagoaa.Ab Go.Proofs.Ytalhipbbomagoaa.AbP
set_option linter.unusedVariables false
set_option linter.unusedSimpArgs false
def bkA (js : List Nat) : PV → PV
  | .ptr b o => .ptr (js.getD b 0) o
  | .osl b n => .osl (js.getD b 0) n
  | .osb b n lo m => .osb (js.getD b 0) n lo m
  | .oel b n i o => .oel (js.getD b 0) n i o
  | .int k n => .int k n
  | .bool b => .bool b
  | .str t => .str t
  | .nilI => .nilI
  | .nilF => .nilF
  | .nilP => .nilP
  | .nilS => .nilS
  | .sl d l => .sl d l
  | .elt d l i o => .elt d l i o
  | _ => .und
def bkB (js : List Nat) : PV → PV
  | .agg l => .agg (l.map (bkA js))
  | .tup l => .tup (l.map (bkA js))
  | .fn g a b => .fn g (a.map (bkA js)) (b.map (bkA js))
  | .ifc t (.ref l o) => .ifc t (.ref (l.map (bkA js)) o)
  | .ifc t p => .ifc t (bkA js p)
  | .ref l o => .ref (l.map (bkA js)) o
  | p => bkA js p
def bkO (js : List Nat) : OB → OB
  | .var l => .var (l.map (bkB js))
  | .row es n l => .row es n (l.map (bkB js))
  | o => o
theorem bkO_sig (js : List Nat) (o : OB) : (bkO js o).sig = o.sig ∧ (bkO js o).isV = o.isV ∧ (bkO js o).live = o.live := by cases o <;> exact ⟨rfl, rfl, rfl⟩
def updS (js0 : List Nat) : List Nat → List OB → List OB → List OB
  | b :: js, o :: t, s => updS js0 js t (s.set b (bkO js0 o))
  | _, _, s => s
theorem updS_len {js0 : List Nat} : ∀ (js : List Nat) (t s : List OB), (updS js0 js t s).length = s.length
  | [], t, s => by cases t <;> rfl
  | b :: js, [], s => rfl
  | b :: js, o :: t, s => by
    show (updS js0 js t (s.set b (bkO js0 o))).length = _
    rw [updS_len js t]
    simp
theorem updS_ne {js0 : List Nat} {b : Nat} : ∀ (js : List Nat) (t s : List OB), b ∉ js → (updS js0 js t s)[b]? = s[b]?
  | [], t, s, h => by cases t <;> rfl
  | c :: js, [], s, h => rfl
  | c :: js, o :: t, s, h => by
    rw [List.mem_cons, not_or] at h
    show (updS js0 js t (s.set c (bkO js0 o)))[b]? = _
    rw [updS_ne js t _ h.2, List.getElem?_set, if_neg (fun e => h.1 e.symm)]
theorem updS_at {js0 : List Nat} {b : Nat} : ∀ (js : List Nat) (t s : List OB) (j : Nat) (o : OB), js.Nodup → js[j]? = some b → t[j]? = some o → b < s.length → (updS js0 js t s)[b]? = some (bkO js0 o)
  | [], t, s, j, o, hn, hj, ht, hb => by simp at hj
  | c :: js, [], s, j, o, hn, hj, ht, hb => by simp at ht
  | c :: js, p :: t, s, j, o, hn, hj, ht, hb => by
    rw [List.nodup_cons] at hn
    show (updS js0 js t (s.set c (bkO js0 p)))[b]? = _
    cases j with
    | zero =>
      simp at hj ht
      subst hj ht
      rw [updS_ne js t _ hn.1, List.getElem?_set, if_pos rfl, if_pos hb]
    | succ j => exact updS_at js t _ j o hn.2 (by simpa using hj) (by simpa using ht) (by simpa using hb)
theorem mem_at {js : List Nat} {b : Nat} (h : b ∈ js) : ∃ j : Nat, js[j]? = some b := List.getElem?_of_mem h
section
variable {m : Hp} {i i' : Nat → Option Nat} {js : List Nat} {s t : List OB}
/-- of which block of one's own it is, behind the call -/
def bki (js : List Nat) (i i' : Nat → Option Nat) (b : Nat) : Option Nat := match idx js 0 b with
  | some j => i' j
  | none => i b
theorem idx_of : ∀ {js : List Nat} {k j b : Nat}, js.Nodup → js[j]? = some b → idx js k b = some (k + j)
  | [], k, j, b, hn, hj => by simp at hj
  | a :: js, k, j, b, hn, hj => by
    rw [List.nodup_cons] at hn
    unfold idx
    cases j with
    | zero => simp at hj; subst hj; rw [if_pos rfl]; rfl
    | succ j =>
      have hj' : js[j]? = some b := by simpa using hj
      have hne : a ≠ b := fun e => by subst e; exact hn.1 (List.mem_of_getElem? hj')
      rw [if_neg hne, idx_of hn.2 hj']
      congr 1
      omega
theorem idx_none : ∀ {js : List Nat} {k b : Nat}, b ∉ js → idx js k b = none
  | [], k, b, h => rfl
  | a :: js, k, b, h => by
    rw [List.mem_cons, not_or] at h
    unfold idx
    rw [if_neg (fun e => h.1 e.symm), idx_none h.2]
theorem bki_at (hn : js.Nodup) {j b : Nat} (hj : js[j]? = some b) : bki js i i' b = i' j := by
  unfold bki
  rw [idx_of (k := 0) hn hj, Nat.zero_add]
theorem bki_ne {b : Nat} (h : b ∉ js) : bki js i i' b = i b := by
  unfold bki
  rw [idx_none h]
theorem bk_lt (hl : t.length = js.length) (hs : ∀ b ∈ js, b < s.length) {j : Nat} (hj : j < t.length) : ∃ b, js[j]? = some b ∧ js.getD j 0 = b ∧ b < s.length := by
  have h1 : js[j]? = some js[j] := by simp [show j < js.length by omega]
  exact ⟨js[j], h1, by rw [List.getD_eq_getElem?_getD, h1]; rfl, hs _ (List.getElem_mem _)⟩
theorem bk_v (hn : js.Nodup) (hl : t.length = js.length) (hs : ∀ b ∈ js, b < s.length) {j b : Nat} (hj : js[j]? = some b) (h : lvV ⟨m, bki js i i', updS js js t s⟩ b) : lvV ⟨m, i', t⟩ j := by
  obtain ⟨o, ho, hv⟩ := h
  have hj' : j < t.length := by rw [hl]; exact (List.getElem?_eq_some_iff.1 hj).1
  have ht : t[j]? = some t[j] := by simp [hj']
  have ho : (updS js js t s)[b]? = some o := ho
  rw [updS_at js t s j _ hn hj ht (hs b (List.mem_of_getElem? hj))] at ho
  obtain rfl := Option.some.inj ho
  rw [(bkO_sig js _).2.1] at hv
  exact ⟨_, ht, hv⟩
theorem bk_s (hn : js.Nodup) (hl : t.length = js.length) (hs : ∀ b ∈ js, b < s.length) {j b es n : Nat} (hj : js[j]? = some b) (h : lvS ⟨m, bki js i i', updS js js t s⟩ b es n) : lvS ⟨m, i', t⟩ j es n := by
  obtain ⟨o, ho, hv⟩ := h
  have hj' : j < t.length := by rw [hl]; exact (List.getElem?_eq_some_iff.1 hj).1
  have ht : t[j]? = some t[j] := by simp [hj']
  have ho : (updS js js t s)[b]? = some o := ho
  rw [updS_at js t s j _ hn hj ht (hs b (List.mem_of_getElem? hj))] at ho
  obtain rfl := Option.some.inj ho
  rw [(bkO_sig js _).1] at hv
  exact ⟨_, ht, hv⟩
theorem bkA_PR (hn : js.Nodup) (hl : t.length = js.length) (hs : ∀ b ∈ js, b < s.length) {p : PV} {v : Value} (hp : PR ⟨m, i', t⟩ p v) : PR ⟨m, bki js i i', updS js js t s⟩ (bkA js p) v := by
  have ll : ∀ {b : Nat}, b < s.length → b < (updS js js t s).length := fun h => by rw [updS_len]; exact h
  cases p with
  | ptr b o =>
    have hb : b < t.length := by cases hp with | ptr _ _ _ hv hb k => exact hb
    obtain ⟨c, h1, h2, h3⟩ := bk_lt hl hs hb
    show PR _ (.ptr (js.getD b 0) o) v
    rw [h2]
    refine .ptr c o v hp.ptr_form (ll h3) (fun hlv => ?_)
    show ∃ k, bki js i i' c = some k ∧ _
    rw [bki_at hn h1]
    exact hp.ptr_inv (bk_v hn hl hs h1 hlv)
  | osl b n =>
    have hb : b < t.length := by cases hp with | osl _ _ _ hv hb k => exact hb
    obtain ⟨c, h1, h2, h3⟩ := bk_lt hl hs hb
    show PR _ (.osl (js.getD b 0) n) v
    rw [h2]
    refine .osl c n v hp.osl_form (ll h3) (fun es n' hlv => ?_)
    show _ ∨ (_ ∧ ∃ c', _ ∧ v = slV (bki js i i' c) n c')
    rw [bki_at hn h1]
    exact hp.osl_inv es n' (bk_s hn hl hs h1 hlv)
  | osb b n lo m' =>
    have hb : b < t.length := by cases hp with | osb _ _ _ _ _ hv hb k => exact hb
    obtain ⟨c, h1, h2, h3⟩ := bk_lt hl hs hb
    show PR _ (.osb (js.getD b 0) n lo m') v
    rw [h2]
    refine .osb c n lo m' v hp.osb_form (ll h3) (fun es n' hlv => ?_)
    show _ ∨ (_ ∧ _ ∧ ∃ A c', _ ∧ _ ∧ (_ ∨ ∃ k, bki js i i' c = some k ∧ _))
    rw [bki_at hn h1]
    exact hp.osb_inv es n' (bk_s hn hl hs h1 hlv)
  | oel b n k o =>
    have hb : b < t.length := by cases hp with | oel _ _ _ _ _ hv hb k => exact hb
    obtain ⟨c, h1, h2, h3⟩ := bk_lt hl hs hb
    show PR _ (.oel (js.getD b 0) n k o) v
    rw [h2]
    refine .oel c n k o v hp.oel_form (ll h3) (fun es n' hlv => ?_)
    show _ ∨ (_ ∧ _ ∧ ∃ k', bki js i i' c = some k' ∧ _)
    rw [bki_at hn h1]
    exact hp.oel_inv es n' (bk_s hn hl hs h1 hlv)
  | int k n => rw [hp.int_inv]; exact .int k n
  | bool b => rw [hp.bool_inv]; exact .bool b
  | str t => rw [hp.str_inv]; exact .str t
  | nilI => rw [hp.nilI_inv]; exact .nilI
  | nilF => rw [hp.nilF_inv]; exact .nilF
  | nilP => rw [hp.nilP_inv]; exact .nilP
  | nilS => rw [hp.nilS_inv]; exact .nilS
  | sl d l => exact .sl d l v hp.sl_inv
  | elt d l k o =>
    obtain ⟨a, n, c, rw, rfl, h1, h2, h3, h4⟩ := hp.elt_inv
    exact .elt d l k o a n c rw h1 h2 h3 h4
  | _ => exact .und v
theorem bkAs_PR (hn : js.Nodup) (hl : t.length = js.length) (hs : ∀ b ∈ js, b < s.length) {l : List PV} {us : List Value} (h : PRs ⟨m, i', t⟩ l us) : PRs ⟨m, bki js i i', updS js js t s⟩ (l.map (bkA js)) us :=
  ⟨by simp [h.1], fun j p v hp hv => by
    rw [List.getElem?_map] at hp
    obtain ⟨q, hq, rfl⟩ := Option.map_eq_some_iff.1 hp
    exact bkA_PR hn hl hs (h.2 j q v hq hv)⟩
theorem bkB_PR (hn : js.Nodup) (hl : t.length = js.length) (hs : ∀ b ∈ js, b < s.length) {p : PV} {v : Value} (hp : PR ⟨m, i', t⟩ p v) : PR ⟨m, bki js i i', updS js js t s⟩ (bkB js p) v := by
  have rf : ∀ {l : List PV} {o : Nat} {v : Value}, PR ⟨m, i', t⟩ (.ref l o) v → PR ⟨m, bki js i i', updS js js t s⟩ (.ref (l.map (bkA js)) o) v := fun h => by
    obtain ⟨a, cs, rfl, h1, h2, h3⟩ := h.ref_inv
    have h4 := bkAs_PR (i := i) (s := s) hn hl hs h3
    exact .ref _ _ a cs h1 h4.1 (by rw [List.length_map]; exact h2) h4.2
  unfold bkB
  split
  · obtain ⟨a, rfl, h⟩ := hp.agg_inv
    have := bkAs_PR (i := i) (s := s) hn hl hs h
    exact .agg _ _ this.1 this.2
  · obtain ⟨a, rfl, h⟩ := hp.tup_inv
    have := bkAs_PR (i := i) (s := s) hn hl hs h
    exact .tup _ _ this.1 this.2
  · obtain ⟨a, b, rfl, h1, h2⟩ := hp.fn_inv
    have k1 := bkAs_PR (i := i) (s := s) hn hl hs h1
    have k2 := bkAs_PR (i := i) (s := s) hn hl hs h2
    exact .fn _ _ _ _ _ k1.1 k2.1 k1.2 k2.2
  · obtain ⟨u, rfl, h⟩ := hp.ifc_inv
    exact .ifc _ _ _ (rf h)
  · obtain ⟨u, rfl, h⟩ := hp.ifc_inv
    exact .ifc _ _ _ (bkA_PR hn hl hs h)
  · exact rf hp
  · exact bkA_PR hn hl hs hp
theorem bkBs_PR (hn : js.Nodup) (hl : t.length = js.length) (hs : ∀ b ∈ js, b < s.length) {l : List PV} {us : List Value} (h : PRs ⟨m, i', t⟩ l us) : PRs ⟨m, bki js i i', updS js js t s⟩ (l.map (bkB js)) us :=
  ⟨by simp [h.1], fun j p v hp hv => by
    rw [List.getElem?_map] at hp
    obtain ⟨q, hq, rfl⟩ := Option.map_eq_some_iff.1 hp
    exact bkB_PR hn hl hs (h.2 j q v hq hv)⟩
end
/-- Behind a call that is handed some blocks of one's own. -/
theorem SR.back {Z : Bs} {h h' : Hp} {E E' : Nat → Bool} {i i' : Nat → Option Nat} {s t : List OB} {js : List Nat} (S : SR Z h E i s) (hn : js.Nodup) (hs : ∀ b ∈ js, b < s.length) (hl : t.length = js.length) (T : SR ⟨h, E, fun j => (js[j]?).bind i, selS js s⟩ h' E' i' t) :
    SR Z h' E' (bki js i i') (updS js js t s) ∧ Cx.le ⟨Hp.mask h E, i, s⟩ ⟨Hp.mask h' E', bki js i i', updS js js t s⟩ := by
  have own0 : ∀ k, own (fun j => (js[j]?).bind i) (selS js s) k → ∃ b ∈ js, ∃ o, s[b]? = some o ∧ o.live = true ∧ i b = some k := fun k ⟨j, o, ho, hlv, hi⟩ => by
    have hj : j < js.length := by have := (List.getElem?_eq_some_iff.1 ho).1; unfold selS at this; rwa [List.length_map] at this
    have h1 : js[j]? = some js[j] := by simp [hj]
    rw [selS_at h1] at ho
    obtain rfl := Option.some.inj ho
    rw [(renO_sig js _).2.2, List.getD_eq_getElem?_getD] at hlv
    have hi : (js[j]?).bind i = some k := hi
    rw [h1] at hi
    cases hsb : s[js[j]]? with
    | none => rw [hsb] at hlv; simp [OB.live] at hlv
    | some o' => rw [hsb] at hlv; exact ⟨js[j], List.getElem_mem _, o', hsb, hlv, hi⟩
  have hle : Cx.le ⟨Hp.mask h E, i, s⟩ ⟨Hp.mask h' E', bki js i i', updS js js t s⟩ := by
    refine ⟨T.le.m, by rw [updS_len]; exact Nat.le_refl _, fun b hb hv => ?_, fun b es n hb hv => ?_⟩
    · by_cases hm : b ∈ js
      · obtain ⟨j, hj⟩ := mem_at hm
        have h1 := bk_v hn hl hs hj hv
        have hj' : j < js.length := (List.getElem?_eq_some_iff.1 hj).1
        obtain ⟨q1, q2⟩ := T.le.v j (by show j < (selS js s).length; unfold selS; rw [List.length_map]; exact hj') h1
        refine ⟨sel_v hj q1, ?_⟩
        show bki js i i' b = i b
        rw [bki_at hn hj]
        have q2 : i' j = (js[j]?).bind i := q2
        rw [q2, hj]
        rfl
      · obtain ⟨o, ho, hq⟩ := hv
        have ho : (updS js js t s)[b]? = some o := ho
        rw [updS_ne js t s hm] at ho
        exact ⟨⟨o, ho, hq⟩, bki_ne hm⟩
    · by_cases hm : b ∈ js
      · obtain ⟨j, hj⟩ := mem_at hm
        have h1 := bk_s hn hl hs hj hv
        have hj' : j < js.length := (List.getElem?_eq_some_iff.1 hj).1
        obtain ⟨n0, q0, q1, q2⟩ := T.le.s j es n (by show j < (selS js s).length; unfold selS; rw [List.length_map]; exact hj') h1
        refine ⟨n0, q0, sel_s hj q1, fun e => ?_⟩
        show bki js i i' b = i b
        rw [bki_at hn hj]
        have q2 : i' j = (js[j]?).bind i := q2 e
        rw [q2, hj]
        rfl
      · obtain ⟨o, ho, hq⟩ := hv
        have ho : (updS js js t s)[b]? = some o := ho
        rw [updS_ne js t s hm] at ho
        exact ⟨n, Nat.le_refl _, ⟨o, ho, hq⟩, fun _ => bki_ne hm⟩
  have tat : ∀ {b : Nat} {o : OB}, b ∈ js → (updS js js t s)[b]? = some o → ∃ (j : Nat) (o' : OB), js[j]? = some b ∧ t[j]? = some o' ∧ o = bkO js o' := fun hm ho => by
    obtain ⟨j, hj⟩ := mem_at hm
    have hj' : j < t.length := by rw [hl]; exact (List.getElem?_eq_some_iff.1 hj).1
    have ht : t[j]? = some t[j] := by simp [hj']
    rw [updS_at js t s j _ hn hj ht (hs _ hm)] at ho
    exact ⟨j, _, hj, ht, (Option.some.inj ho).symm⟩
  have lo : ∀ j p b, s[j]? = some p → p.live = true → i j = some b → b < h.next := fun j p b hp hl hb => by
    obtain ⟨k, hk, -⟩ := ((S.ob j p hp).at hl hb).2
    exact (Hp.blk_lt hk).2
  -- a block of the ones that aren't handed over
  have rest : ∀ b o k, b ∉ js → s[b]? = some o → o.live = true → i b = some k → ¬ own (fun j => (js[j]?).bind i) (selS js s) k := fun b o k hm ho hlv hi hown => by
    obtain ⟨c, hc, o', h1, h2, h3⟩ := own0 k hown
    have := S.inj b c k o o' ho h1 hlv h2 hi h3
    subst this
    exact hm hc
  have fr : ∀ j o k, t[j]? = some o → o.live = true → i' j = some k → (∃ b ∈ js, ∃ o, s[b]? = some o ∧ o.live = true ∧ i b = some k) ∨ h.next ≤ k := fun j o k ho hlv hi => (T.fresh k ⟨j, o, ho, hlv, hi⟩).imp (own0 k) (fun q => q)
  refine ⟨⟨fun b o ho => ?_, fun b b' k o o' ho ho' hlv hlv' hi hi' => ?_, T.old.trans S.old, Nat.le_trans S.next T.next, fun b k hb hB => ?_, fun k ⟨b, o, ho, hlv, hi⟩ => ?_, S.le.trans hle⟩, hle⟩
  · by_cases hm : b ∈ js
    · obtain ⟨j, o', hj, ht, rfl⟩ := tat hm ho
      have hob := T.ob j o' ht
      have hb : bki js i i' b = i' j := bki_at hn hj
      cases o' with
      | dead => trivial
      | var l =>
        obtain ⟨k, cs, k1, k2, k3, k4, k5⟩ := hob
        exact ⟨k, cs, hb.trans k1, k2, k3, k4, bkBs_PR hn hl hs k5⟩
      | row es n l =>
        obtain ⟨k, cs, k1, k2, k3, k4, k5, k6⟩ := hob
        exact ⟨k, cs, hb.trans k1, k2, k3, k4, by rw [List.length_map]; exact k5, bkBs_PR hn hl hs k6⟩
      | arr d l =>
        obtain ⟨hd, k1 | ⟨k, us, k1, k2, k3, k4⟩⟩ := hob
        · exact ⟨hd, .inl ⟨hb.trans k1.1, k1.2⟩⟩
        · exact ⟨hd, .inr ⟨k, us, hb.trans k1, k2, k3, k4⟩⟩
    · rw [updS_ne js t s hm] at ho
      by_cases hlv : o.live = true
      · refine (S.ob b o ho).mono hle (bki_ne hm) (fun k B hk hB => ?_)
        exact T.keep k B hB (rest b o k hm ho hlv hk)
      · cases o with
        | dead => trivial
        | _ => simp [OB.live] at hlv
  · by_cases hm : b ∈ js <;> by_cases hm' : b' ∈ js
    · obtain ⟨j, p, hj, ht, rfl⟩ := tat hm ho
      obtain ⟨j', p', hj', ht', rfl⟩ := tat hm' ho'
      rw [(bkO_sig js _).2.2] at hlv hlv'
      have hi : i' j = some k := by rw [← bki_at (i := i) (i' := i') hn hj]; exact hi
      have hi' : i' j' = some k := by rw [← bki_at (i := i) (i' := i') hn hj']; exact hi'
      have e := T.inj j j' k p p' ht ht' hlv hlv' hi hi'
      subst e
      rw [hj] at hj'
      exact Option.some.inj hj'
    · obtain ⟨j, p, hj, ht, rfl⟩ := tat hm ho
      rw [(bkO_sig js _).2.2] at hlv
      rw [updS_ne js t s hm'] at ho'
      have hi : i' j = some k := by rw [← bki_at (i := i) (i' := i') hn hj]; exact hi
      have hi' : i b' = some k := by rw [← bki_ne (i := i) (i' := i') hm']; exact hi'
      rcases fr j p k ht hlv hi with ⟨c, hc, q, q1, q2, q3⟩ | q
      · have := S.inj b' c k o' q ho' q1 hlv' q2 hi' q3
        subst this
        exact absurd hc hm'
      · have := lo b' o' k ho' hlv' hi'
        omega
    · obtain ⟨j', p', hj', ht', rfl⟩ := tat hm' ho'
      rw [(bkO_sig js _).2.2] at hlv'
      rw [updS_ne js t s hm] at ho
      have hi' : i' j' = some k := by rw [← bki_at (i := i) (i' := i') hn hj']; exact hi'
      have hi : i b = some k := by rw [← bki_ne (i := i) (i' := i') hm]; exact hi
      rcases fr j' p' k ht' hlv' hi' with ⟨c, hc, q, q1, q2, q3⟩ | q
      · have := S.inj b c k o q ho q1 hlv q2 hi q3
        subst this
        exact absurd hc hm
      · have := lo b o k ho hlv hi
        omega
    · rw [updS_ne js t s hm] at ho
      rw [updS_ne js t s hm'] at ho'
      exact S.inj b b' k o o' ho ho' hlv hlv' (by rw [← bki_ne (i := i) (i' := i') hm]; exact hi) (by rw [← bki_ne (i := i) (i' := i') hm']; exact hi')
  · obtain ⟨q1, q2⟩ := S.keep b k hb hB
    obtain ⟨r1, r2⟩ := T.keep b k q1 (fun hown => by
      obtain ⟨c, hc, o, h1, h2, h3⟩ := own0 b hown
      rcases S.fresh b ⟨c, o, h1, h2, h3⟩ with q | q
      · exact hB q
      · have := (Hp.blk_lt hb).2; omega)
    exact ⟨r1, r2.trans q2⟩
  · by_cases hm : b ∈ js
    · obtain ⟨j, p, hj, ht, rfl⟩ := tat hm ho
      rw [(bkO_sig js _).2.2] at hlv
      have hi : i' j = some k := by rw [← bki_at (i := i) (i' := i') hn hj]; exact hi
      rcases fr j p k ht hlv hi with ⟨c, hc, q, q1, q2, q3⟩ | q
      · exact S.fresh k ⟨c, q, q1, q2, q3⟩
      · exact .inr (Nat.le_trans S.next q)
    · rw [updS_ne js t s hm] at ho
      exact S.fresh k ⟨b, o, ho, hlv, by rw [← bki_ne (i := i) (i' := i') hm]; exact hi⟩
/-- A function that is handed blocks of one's own: only these are told of behind it. -/
theorem told_callS {P : Program} {g N : Nat} {ac : AC} {rs : List RV} (t : IsTold P g N ac rs) {args : List PV} {s : List OB} {K : PV → List OB → Prop} (hk : ∀ Z : Bs, Z.s = s → pwp P Z ac (retP rs fun p t => per3 p = true ∧ K p (selS (List.range s.length) t)) (initE args) s) (ha : args.length ≤ N := by first | decide | simp) : PCalls P g args s K := by
  intro h E i vs S A
  refine (told_call t hk ha h E i vs S A).mono fun v h' ⟨p, s', E', i', ⟨hper, hK⟩, S', hp⟩ => ?_
  refine ⟨p, _, E', _, hK, S'.sel (List.range s.length) List.nodup_range (fun b hb => List.getElem?_range hb), ?_⟩
  exact per3_PR (X := ⟨Hp.mask h' E', i', s'⟩) hper (.refl _) hp
section
variable {P : Program} {Z : Bs} {K : Env → List OB → Prop} {Q : QP} {e : Env} {s s' : List OB} {cs : List CO} {pr : List Operand} {d : Option Nat} {kp : Bool} {p p' : PV}
/-- what stands behind a call of a function that is handed blocks of one's own -/
def AftS (P : Program) (Z : Bs) (pr : List Operand) (cs : List CO) (K : Env → List OB → Prop) (e : Env) (s : List OB) (d : Option Nat) (js : List Nat) (p : PV) (t : List OB) : Prop := t.length = js.length ∧ pops P Z pr cs K (putE e d (bkB js p)) (updS js js t s)
theorem afS_i {js : List Nat} {t : List OB} (h1 : Rf (Nat.beq t.length js.length = true)) (hn : Pu (bkB js p = p')) (hs : Pu (updS js js t s = s')) (hk : pops P Z pr cs K (putE e d p') s') : AftS P Z pr cs K e s d js p t := ⟨Nat.eq_of_beq_eq_true h1.o, by rw [hn.o, hs.o]; exact hk⟩
def goodJ (n : Nat) : List Nat → Bool
  | [] => true
  | b :: js => Nat.blt b n && !(js.contains b) && goodJ n js
theorem goodJ_ok {n : Nat} : ∀ {js : List Nat}, goodJ n js = true → js.Nodup ∧ ∀ b ∈ js, b < n
  | [], _ => ⟨List.nodup_nil, fun b hb => by cases hb⟩
  | a :: js, h => by
    unfold goodJ at h
    rw [Bool.and_eq_true, Bool.and_eq_true] at h
    obtain ⟨h1, h2⟩ := goodJ_ok h.2
    have ha : a ∉ js := by simpa using h.1.2
    refine ⟨List.nodup_cons.2 ⟨ha, h1⟩, fun b hb => ?_⟩
    rcases List.mem_cons.1 hb with rfl | hb
    · exact Nat.le_of_ble_eq_true h.1.1
    · exact h2 b hb
theorem call_S {f : FuncId} {ps : List PV} (js : List Nat) (hj : goodJ s.length js = true) (hk : PCalls P f (ps.map (renB js)) (selS js s) (AftS P Z pr cs K e s d js)) {h : Hp} {fr : Fr} {E : Nat → Bool} {i : Nat → Option Nat} (S : SR Z h E i s) (R : ER ⟨Hp.mask h E, i, s⟩ e fr) {vs : List Value} (A : PRs ⟨Hp.mask h E, i, s⟩ ps vs) :
    ACalls P f vs h fun v h' => aops P pr cs (Lf Z K) (putF fr d v) h' := by
  obtain ⟨hn, hs⟩ := goodJ_ok hj
  have S00 : SR ⟨⟨h.old, []⟩, E, i, []⟩ h E i s := by
    have nb : ∀ b, (Hp.mk h.old []).blk? b = none := fun b => by unfold Hp.blk?; split <;> simp
    refine ⟨S.ob, S.inj, rfl, by simp [Hp.next], fun b k hb _ => ?_, fun b ⟨id, o, ho, hl, hi⟩ => .inr ?_, ⟨⟨rfl, fun ad v hv => ?_⟩, Nat.zero_le _, fun b hb => absurd hb (Nat.not_lt_zero b), fun b es n hb => absurd hb (Nat.not_lt_zero b)⟩⟩
    · have hb : (Hp.mk h.old []).blk? b = some k := hb
      rw [nb] at hb
      simp at hb
    · obtain ⟨k, hk, -⟩ := ((S.ob id o ho).at hl hi).2
      have := (Hp.blk_lt hk).1
      simpa [Hp.next] using this
    · have hv : (Hp.mask ⟨h.old, []⟩ E).cell? ad = some v := hv
      obtain ⟨h1, -⟩ := mask_cell.1 hv
      unfold Hp.cell? at h1
      split at h1
      · rename_i hlt
        refine mask_cell.2 ⟨?_, .inl hlt⟩
        unfold Hp.cell?
        rw [if_pos hlt]
        exact h1
      · split at h1
        · simp at h1
        · rw [nb] at h1
          simp at h1
  have S0 : SR ⟨h, E, fun j => (js[j]?).bind i, selS js s⟩ h E (fun j => (js[j]?).bind i) (selS js s) := (S00.sel js hn (fun b (hb : b < ([] : List OB).length) => absurd hb (Nat.not_lt_zero b))).base
  have A0 : PRs ⟨Hp.mask h E, fun j => (js[j]?).bind i, selS js s⟩ (ps.map (renB js)) vs := renBs_PR A
  refine (hk h E _ vs S0 A0).mono fun v h' ⟨p, t, E', i', ⟨k1, k2⟩, T, hp⟩ => ?_
  obtain ⟨S', le'⟩ := S.back hn hs k1 T
  exact k2 _ _ ⟨E', _, S', (R.mono le').put (bkB_PR hn k1 hs hp)⟩
/-- a call of a function value that is handed blocks of one's own: 'js': which -/
theorem q_callS {fx : Operand} {g : FuncId} {xs : List Operand} {ps pa pb l : List PV} (js : List Nat) (hf : Lk (evE e fx = .fn g pa pb)) (ha : Mp (xs.map (evE e) = ps)) (hl : Pu (pa ++ ps ++ pb = l)) (hj : Rf (goodJ s.length js = true)) {l' : List PV} {s0 : List OB} (hr : Pu (l.map (renB js) = l')) (hs : Pu (selS js s = s0)) (hkp : Rf (kp = false)) (hk : PCalls P g l' s0 (AftS P Z pr cs K e s d js)) : pops P Z pr (⟨d, none, kp, .e (.cal fx xs)⟩ :: cs) K e s := fun f h ⟨E, i, S, R⟩ => by
  obtain ⟨a', b', h1, h2, h3⟩ := (R.at hf.o).fn_inv
  have A := (h2.append (R.map ha.o)).append h3
  rw [hl.o] at A
  rw [← hr.o, ← hs.o] at hk
  refine s_cal h1 ((call_S js hj.o hk S R A).mono fun v h' hc => ⟨fun hh => (by rw [hkp.o] at hh; cases hh), hc⟩)
theorem ca_S {f : FuncId} {ps : List PV} (js : List Nat) (hj : Rf (goodJ s.length js = true)) {l' : List PV} {s0 : List OB} (hr : Pu (ps.map (renB js) = l')) (hs : Pu (selS js s = s0)) (hkp : Rf (kp = false)) (hk : PCalls P f l' s0 (AftS P Z pr cs K e s d js)) : CaG P Z pr cs K e s d kp f ps := fun xs ha fr h ⟨E, i, S, R⟩ => by
  have A := R.map ha
  rw [← hr.o, ← hs.o] at hk
  refine s_call ((call_S js hj.o hk S R A).mono fun v h' hc => ⟨fun hh => (by rw [hkp.o] at hh; cases hh), hc⟩)
/-- a function value called -/
def CfG (P : Program) (Z : Bs) (pr : List Operand) (cs : List CO) (K : Env → List OB → Prop) (e : Env) (s : List OB) (d : Option Nat) (kp : Bool) (g : FuncId) (l : List PV) : Prop := ∀ fx xs pa ps pb, evE e fx = .fn g pa pb → xs.map (evE e) = ps → pa ++ ps ++ pb = l → pops P Z pr (⟨d, none, kp, .e (.cal fx xs)⟩ :: cs) K e s
theorem g_cf {fx : Operand} {g : FuncId} {xs : List Operand} {ps pa pb l : List PV} (hf : Lk (evE e fx = .fn g pa pb)) (ha : Mp (xs.map (evE e) = ps)) (hl : Pu (pa ++ ps ++ pb = l)) (hk : CfG P Z pr cs K e s d kp g l) : pops P Z pr (⟨d, none, kp, .e (.cal fx xs)⟩ :: cs) K e s := hk fx xs pa ps pb hf.o ha.o hl.o
theorem cf_S {g : FuncId} {l : List PV} (js : List Nat) (hj : Rf (goodJ s.length js = true)) {l' : List PV} {s0 : List OB} (hr : Pu (l.map (renB js) = l')) (hs : Pu (selS js s = s0)) (hkp : Rf (kp = false)) (hk : PCalls P g l' s0 (AftS P Z pr cs K e s d js)) : CfG P Z pr cs K e s d kp g l := fun fx xs pa ps pb hf ha hl => q_callS js ⟨hf⟩ ⟨ha⟩ ⟨hl⟩ hj hr hs hkp hk
theorem cf_F {g : FuncId} {l : List PV} (hkp : Rf (kp = false)) (hk : PCalls P g l s (fun p s' => pops P Z pr cs K (putE e d p) s')) : CfG P Z pr cs K e s d kp g l := fun fx xs pa ps pb hf ha hl => q_callF ⟨hf⟩ ⟨ha⟩ ⟨hl⟩ hkp hk
theorem cf_P {g : FuncId} {l : List PV} (hper : Rf (l.all per3 = true)) (hk : PCalls P g l [] (Aft P Z pr cs K e s d)) : CfG P Z pr cs K e s d kp g l := fun fx xs pa ps pb hf ha hl f h ⟨E, i, S, R⟩ => by
  obtain ⟨a', b', h1, h2, h3⟩ := (R.at hf).fn_inv
  have A0 := (h2.append (R.map ha)).append h3
  rw [hl] at A0
  have A := perL (X := ⟨Hp.mask h E, i, s⟩) (Y := ⟨Hp.mask h E, i, []⟩) (fun p v q => per3_PR q (.refl _)) hper.o A0
  have S0 : SR ⟨h, E, i, []⟩ h E i [] := ⟨fun id o h => by simp at h, fun _ _ _ _ _ h => by simp at h, rfl, Nat.le_refl _, fun b k hb _ => ⟨hb, rfl⟩, fun b ⟨id, o, ho, _⟩ => by simp at ho, .refl _⟩
  refine s_cal h1 ((hk h E i _ S0 A).mono fun v h' ⟨p, t, E', i', ⟨k1, k2, k3⟩, T, hp⟩ => ?_)
  obtain ⟨S', hkp⟩ := S.frame T k2
  exact ⟨fun _ => hkp, k3 _ _ ⟨E', _, S.after S', (R.mono S'.le).put (shP_PR k1 hp)⟩⟩
/-- a value that leads nowhere -/
def noPt : PV → Bool
  | .int _ _ | .bool _ | .str _ | .agg _ | .tup _ | .nilI | .nilF | .nilP | .nilS | .ifc _ _ | .fn _ _ _ | .osl _ _ | .osb _ _ _ _ | .sl _ _ => true
  | _ => false
def isVar (s : List OB) (j : Nat) : Bool := match s[j]? with | some (.var _) => true | _ => false
/-- an argument into which nothing leads that was read -/
def argOk (s : List OB) (rs : List PV) : PV → Bool
  | .ptr j _ => isVar s j && rs.all (sfP s j)
  | p => noPt p
def capOk (js : List Nat) (ps : List PV) : Bool := js.all fun j => ps.any fun p => match p with | .ptr b _ => Nat.beq b j | _ => false
theorem noPt_ok {X : Cx} {p : PV} {v : Value} (h : noPt p = true) (hp : PR X p v) : ptB v = none := by
  cases hp with
  | osl b n v hv hb k => obtain ⟨A, m, c, rfl⟩ := hv; rfl
  | osb b n lo m v hv hb k => obtain ⟨A, m, c, rfl⟩ := hv; rfl
  | sl d l v k => obtain ⟨A, c, rw, e, _⟩ := k; obtain rfl : v = .slice A l.length c := by simpa using e
                  rfl
  | ptr => simp [noPt] at h
  | oel => simp [noPt] at h
  | elt => simp [noPt] at h
  | ref => simp [noPt] at h
  | und => simp [noPt] at h
  | _ => rfl
theorem isVar_ok {s : List OB} {j : Nat} (h : isVar s j = true) : ∃ l, s[j]? = some (.var l) := by
  unfold isVar at h
  split at h
  · exact ⟨_, by assumption⟩
  · cases h
theorem call_SK {f : FuncId} {ps : List PV} (js : List Nat) (hj : goodJ s.length js = true) {rs : List PV} (hrs : pr.map (evE e) = rs) (hc : capOk js ps = true) (ha : ps.all (argOk s rs) = true) (hk : PCalls P f (ps.map (renB js)) (selS js s) (AftS P Z pr cs K e s d js)) {h : Hp} {fr : Fr} {E : Nat → Bool} {i : Nat → Option Nat} (S : SR Z h E i s) (R : ER ⟨Hp.mask h E, i, s⟩ e fr) {vs : List Value} (A : PRs ⟨Hp.mask h E, i, s⟩ ps vs) :
    ACalls P f vs h fun v h' => KeepsP (vs.filterMap ptB) pr fr h h' ∧ aops P pr cs (Lf Z K) (putF fr d v) h' := by
  obtain ⟨hn, hs⟩ := goodJ_ok hj
  have S00 : SR ⟨⟨h.old, []⟩, E, i, []⟩ h E i s := by
    have nb : ∀ b, (Hp.mk h.old []).blk? b = none := fun b => by unfold Hp.blk?; split <;> simp
    refine ⟨S.ob, S.inj, rfl, by simp [Hp.next], fun b k hb _ => ?_, fun b ⟨id, o, ho, hl, hi⟩ => .inr ?_, ⟨⟨rfl, fun ad v hv => ?_⟩, Nat.zero_le _, fun b hb => absurd hb (Nat.not_lt_zero b), fun b es n hb => absurd hb (Nat.not_lt_zero b)⟩⟩
    · have hb : (Hp.mk h.old []).blk? b = some k := hb
      rw [nb] at hb
      simp at hb
    · obtain ⟨k, hk, -⟩ := ((S.ob id o ho).at hl hi).2
      have := (Hp.blk_lt hk).1
      simpa [Hp.next] using this
    · have hv : (Hp.mask ⟨h.old, []⟩ E).cell? ad = some v := hv
      obtain ⟨h1, -⟩ := mask_cell.1 hv
      unfold Hp.cell? at h1
      split at h1
      · rename_i hlt
        refine mask_cell.2 ⟨?_, .inl hlt⟩
        unfold Hp.cell?
        rw [if_pos hlt]
        exact h1
      · split at h1
        · simp at h1
        · rw [nb] at h1
          simp at h1
  have S0 : SR ⟨h, E, fun j => (js[j]?).bind i, selS js s⟩ h E (fun j => (js[j]?).bind i) (selS js s) := (S00.sel js hn (fun b (hb : b < ([] : List OB).length) => absurd hb (Nat.not_lt_zero b))).base
  have A0 : PRs ⟨Hp.mask h E, fun j => (js[j]?).bind i, selS js s⟩ (ps.map (renB js)) vs := renBs_PR A
  refine (hk h E _ vs S0 A0).mono fun v h' ⟨p, t, E', i', ⟨k1, k2⟩, T, hp⟩ => ?_
  obtain ⟨S', le'⟩ := S.back hn hs k1 T
  refine ⟨⟨T.old, fun b k hb hbT => ?_, fun b hb x hx a hpa => ?_⟩, k2 _ _ ⟨E', _, S', (R.mono le').put (bkB_PR hn k1 hs hp)⟩⟩
  · refine (T.keep b k hb fun hown => hbT ?_).1
    obtain ⟨id, o, h1, h2, h3⟩ := hown
    obtain ⟨j, hj1, hj2⟩ := Option.bind_eq_some_iff.1 h3
    have hjm := List.mem_of_getElem? hj1
    have := List.all_eq_true.1 hc j hjm
    obtain ⟨q, hq, hqj⟩ := List.any_eq_true.1 this
    split at hqj
    · rename_i b' o'
      have hbj := Nat.eq_of_beq_eq_true hqj
      subst hbj
      obtain ⟨n, hn'⟩ := List.getElem?_of_mem hq
      obtain ⟨v', hv', hpv⟩ := A.get hn'
      have hok := List.all_eq_true.1 ha _ hq
      unfold argOk at hok
      rw [Bool.and_eq_true] at hok
      obtain ⟨l, hl⟩ := isVar_ok hok.1
      obtain ⟨k', e1, e2⟩ := hpv.ptr_inv ⟨_, hl, rfl⟩
      have e1 : i b' = some k' := e1
      rw [e1] at hj2
      obtain rfl := Option.some.inj hj2
      exact List.mem_filterMap.2 ⟨v', List.mem_of_getElem? hv', by rw [e2]; rfl⟩
    · cases hqj
  · obtain ⟨v', hv', hpb⟩ := List.mem_filterMap.1 hb
    obtain ⟨n, hn'⟩ := List.getElem?_of_mem hv'
    have hlt : n < ps.length := by rw [A.1]; exact (List.getElem?_eq_some_iff.1 hn').1
    have hpn : ps[n]? = some ps[n] := by simp [hlt]
    have hpr := A.2 n _ _ hpn hn'
    have hok := List.all_eq_true.1 ha _ (List.getElem_mem hlt)
    generalize ps[n] = q at *
    by_cases hq : ∃ j o, q = .ptr j o
    · obtain ⟨j, o, rfl⟩ := hq
      unfold argOk at hok
      rw [Bool.and_eq_true] at hok
      obtain ⟨l, hl⟩ := isVar_ok hok.1
      obtain ⟨k', e1, e2⟩ := hpr.ptr_inv ⟨_, hl, rfl⟩
      rw [e2] at hpb
      have hpb : some k' = some b := hpb
      obtain rfl := Option.some.inj hpb
      exact sf_safe S (R.ev x) (List.all_eq_true.1 hok.2 _ (hrs ▸ List.mem_map_of_mem hx)) hl rfl e1 a hpa
    · have : noPt q = true := by
        unfold argOk at hok
        split at hok
        · exact absurd ⟨_, _, rfl⟩ hq
        · exact hok
      rw [noPt_ok this hpr] at hpb
      cases hpb
/-- a call of a function value that is handed variables of one's own, beside what was read -/
theorem cf_SK {g : FuncId} {l : List PV} (js : List Nat) (hj : Rf (goodJ s.length js = true)) {l' : List PV} {s0 : List OB} (hr : Pu (l.map (renB js) = l')) (hs : Pu (selS js s = s0)) {rs : List PV} (hrs : Mp (pr.map (evE e) = rs)) (hc : Rf (capOk js l = true)) (ha : Rf (l.all (argOk s rs) = true)) (hk : PCalls P g l' s0 (AftS P Z pr cs K e s d js)) : CfG P Z pr cs K e s d kp g l := fun fx xs pa ps pb hf hx hl f h ⟨E, i, S, R⟩ => by
  obtain ⟨a', b', h1, h2, h3⟩ := (R.at hf).fn_inv
  have A := (h2.append (R.map hx)).append h3
  rw [hl] at A
  rw [← hr.o, ← hs.o] at hk
  exact s_calP h1 (call_SK js hj.o hrs.o hc.o ha.o hk S R A)
end
theorem PRs.put {X : Cx} {l : List PV} {us : List Value} (h : PRs X l us) {o : Nat} {q : PV} (hq : ∀ v, us[o]? = some v → PR X q v) : PRs X (l.set o q) us :=
  ⟨by simp [h.1], fun j p v hp hv => by
    rw [List.getElem?_set] at hp
    by_cases e : o = j
    · subst e
      rw [if_pos rfl] at hp
      split at hp
      · obtain rfl := Option.some.inj hp; exact hq v hv
      · simp at hp
    · rw [if_neg e] at hp
      exact h.2 j p v hp hv⟩
section
variable {P : Program} {Z : Bs} {K : Env → List OB → Prop} {Q : QP} {e : Env} {s s' : List OB} {cs : List CO} {pr : List Operand} {d : Option Nat} {kp : Bool} {es n : Nat} {l c : List PV}
/-- nothing in a variable, as a list of one's own -/
theorem gh_virtV (b o : Nat) (D' : D) (hb : Rf (s[b]? = some (.var l))) (hx : Rf (l[o]? = some .nilS)) (hd : Rf (Nat.blt 0 D'.sz = true)) (hs : Pu (s.set b (.var (l.set o (.osl s.length 0))) ++ [.arr D' []] = s')) : Gh Z e s e s' := fun f h ⟨E, i, S, R⟩ => by
  have hlt := (List.getElem?_eq_some_iff.1 hb.o).1
  obtain ⟨S1, le1⟩ := S.add (.arr D' []) none h E rfl (Nat.le_refl _) (fun b k hb => ⟨hb, rfl⟩) (fun b hb => by simp at hb) (fun le => ⟨Nat.le_of_ble_eq_true hd.o, .inl ⟨ups_at _ _ _, rfl⟩⟩)
  have hb1 : (s ++ [OB.arr D' []])[b]? = some (.var l) := by rw [List.getElem?_append_left hlt]; exact hb.o
  obtain ⟨k, us, q1, q2, q3, q4, q5⟩ := own_cells S1 hb1
  obtain ⟨S2, le2⟩ := S1.upd b (.var l) (.var (l.set o (.osl s.length 0))) (ups i s.length none b) h E hb1 rfl (Nat.le_refl _) (fun b' k' hb' _ => ⟨hb', rfl⟩) (fun b' _ hb' => .inl ⟨rfl, hb'⟩) rfl ⟨fun _ => ⟨rfl, rfl⟩, fun es n h => by simp [OB.sig] at h⟩
    (fun le => ⟨k, us, (ups_at _ _ _).trans q1, q2, q3, q4, (q5.mono le).put fun v hv => by
      have h1 := (q5.mono le).2 o .nilS v hx.o hv
      rw [h1.nilS_inv]
      refine .osl _ 0 _ ⟨_, _, _, rfl⟩ (by simp) (fun es' n' hl => .inr ⟨?_, 0, .inl rfl, ?_⟩)
      · obtain ⟨o', ho, hsig⟩ := hl
        have ho : ((s ++ [OB.arr D' []]).set b (.var (l.set o (.osl s.length 0))))[s.length]? = some o' := ho
        rw [List.getElem?_set, if_neg (by omega)] at ho
        simp at ho
        subst ho
        simp [OB.sig] at hsig
        exact hsig.2
      · show _ = slV (ups (ups i s.length none) b (ups i s.length none b) s.length) 0 0
        rw [ups_ne _ _ (by omega), ups_at]
        rfl⟩)
  have e1 : (s ++ [OB.arr D' []]).set b (.var (l.set o (.osl s.length 0))) = s' := by
    rw [← hs.o, List.set_append_left _ _ hlt]
  rw [e1] at S2 le2
  exact ⟨E, _, S2, (R.mono le1).mono le2⟩
theorem cfGh {g : FuncId} {a : List PV} (hg : Gh Z e s e s') (hk : CfG P Z pr cs K e s' d kp g a) : CfG P Z pr cs K e s d kp g a := fun fx xs pa ps pb hf ha hl => ghO hg (hk fx xs pa ps pb hf ha hl)
theorem caGh {g : FuncId} {a : List PV} (hg : Gh Z e s e s') (hk : CaG P Z pr cs K e s' d kp g a) : CaG P Z pr cs K e s d kp g a := fun xs ha => ghO hg (hk xs ha)
theorem f_arr {g : FuncId} {a : List PV} (b : Nat) (D' : D) {l' : List D'.T} (hb : Rf (s[b]? = some (.row es n c))) (he : Rf (Nat.beq D'.sz es = true)) (hd : Rf (decs D' n c = some l')) (h0 : Rf (Nat.blt 0 es = true)) (hs : Pu (s.set b (.arr D' l') = s')) (hk : CfG P Z pr cs K e s' d kp g a) : CfG P Z pr cs K e s d kp g a := cfGh (gh_arr b D' hb he hd h0 hs) hk
theorem f_virtV {g : FuncId} {a : List PV} (b o : Nat) (D' : D) (hb : Rf (s[b]? = some (.var l))) (hx : Rf (l[o]? = some .nilS)) (hd : Rf (Nat.blt 0 D'.sz = true)) (hs : Pu (s.set b (.var (l.set o (.osl s.length 0))) ++ [.arr D' []] = s')) (hk : CfG P Z pr cs K e s' d kp g a) : CfG P Z pr cs K e s d kp g a := cfGh (gh_virtV b o D' hb hx hd hs) hk
theorem a_arr {g : FuncId} {a : List PV} (b : Nat) (D' : D) {l' : List D'.T} (hb : Rf (s[b]? = some (.row es n c))) (he : Rf (Nat.beq D'.sz es = true)) (hd : Rf (decs D' n c = some l')) (h0 : Rf (Nat.blt 0 es = true)) (hs : Pu (s.set b (.arr D' l') = s')) (hk : CaG P Z pr cs K e s' d kp g a) : CaG P Z pr cs K e s d kp g a := caGh (gh_arr b D' hb he hd h0 hs) hk
theorem a_virtV {g : FuncId} {a : List PV} (b o : Nat) (D' : D) (hb : Rf (s[b]? = some (.var l))) (hx : Rf (l[o]? = some .nilS)) (hd : Rf (Nat.blt 0 D'.sz = true)) (hs : Pu (s.set b (.var (l.set o (.osl s.length 0))) ++ [.arr D' []] = s')) (hk : CaG P Z pr cs K e s' d kp g a) : CaG P Z pr cs K e s d kp g a := caGh (gh_virtV b o D' hb hx hd hs) hk
theorem x_virtV {a : AC} (b o : Nat) (D' : D) (hb : Rf (s[b]? = some (.var l))) (hx : Rf (l[o]? = some .nilS)) (hd : Rf (Nat.blt 0 D'.sz = true)) (hs : Pu (s.set b (.var (l.set o (.osl s.length 0))) ++ [.arr D' []] = s')) (hk : pwp P Z a Q e s') : pwp P Z a Q e s := ghW (gh_virtV b o D' hb hx hd hs) hk
end
theorem renA_int (js : List Nat) (k : IntKind) (n : Int) : renA js (.int k n) = .int k n := rfl
theorem renA_bool (js : List Nat) (b : Bool) : renA js (.bool b) = .bool b := rfl
theorem renA_str (js : List Nat) (t : ByteArray) : renA js (.str t) = .str t := rfl
theorem renA_nilI (js : List Nat)  : renA js (.nilI) = .nilI := rfl
theorem renA_nilF (js : List Nat)  : renA js (.nilF) = .nilF := rfl
theorem renA_nilP (js : List Nat)  : renA js (.nilP) = .nilP := rfl
theorem renA_nilS (js : List Nat)  : renA js (.nilS) = .nilS := rfl
theorem renA_sl (js : List Nat) (d : D) (l : List d.T) : renA js (.sl d l) = .sl d l := rfl
theorem renA_elt (js : List Nat) (d : D) (l : List d.T) (i o : Nat) : renA js (.elt d l i o) = .elt d l i o := rfl
theorem renB_int (js : List Nat) (k : IntKind) (n : Int) : renB js (.int k n) = .int k n := rfl
theorem renB_bool (js : List Nat) (b : Bool) : renB js (.bool b) = .bool b := rfl
theorem renB_str (js : List Nat) (t : ByteArray) : renB js (.str t) = .str t := rfl
theorem renB_nilI (js : List Nat)  : renB js (.nilI) = .nilI := rfl
theorem renB_nilF (js : List Nat)  : renB js (.nilF) = .nilF := rfl
theorem renB_nilP (js : List Nat)  : renB js (.nilP) = .nilP := rfl
theorem renB_nilS (js : List Nat)  : renB js (.nilS) = .nilS := rfl
theorem renB_sl (js : List Nat) (d : D) (l : List d.T) : renB js (.sl d l) = .sl d l := rfl
theorem renB_elt (js : List Nat) (d : D) (l : List d.T) (i o : Nat) : renB js (.elt d l i o) = .elt d l i o := rfl
theorem bkA_int (js : List Nat) (k : IntKind) (n : Int) : bkA js (.int k n) = .int k n := rfl
theorem bkA_bool (js : List Nat) (b : Bool) : bkA js (.bool b) = .bool b := rfl
theorem bkA_str (js : List Nat) (t : ByteArray) : bkA js (.str t) = .str t := rfl
theorem bkA_nilI (js : List Nat)  : bkA js (.nilI) = .nilI := rfl
theorem bkA_nilF (js : List Nat)  : bkA js (.nilF) = .nilF := rfl
theorem bkA_nilP (js : List Nat)  : bkA js (.nilP) = .nilP := rfl
theorem bkA_nilS (js : List Nat)  : bkA js (.nilS) = .nilS := rfl
theorem bkA_sl (js : List Nat) (d : D) (l : List d.T) : bkA js (.sl d l) = .sl d l := rfl
theorem bkA_elt (js : List Nat) (d : D) (l : List d.T) (i o : Nat) : bkA js (.elt d l i o) = .elt d l i o := rfl
theorem bkB_int (js : List Nat) (k : IntKind) (n : Int) : bkB js (.int k n) = .int k n := rfl
theorem bkB_bool (js : List Nat) (b : Bool) : bkB js (.bool b) = .bool b := rfl
theorem bkB_str (js : List Nat) (t : ByteArray) : bkB js (.str t) = .str t := rfl
theorem bkB_nilI (js : List Nat)  : bkB js (.nilI) = .nilI := rfl
theorem bkB_nilF (js : List Nat)  : bkB js (.nilF) = .nilF := rfl
theorem bkB_nilP (js : List Nat)  : bkB js (.nilP) = .nilP := rfl
theorem bkB_nilS (js : List Nat)  : bkB js (.nilS) = .nilS := rfl
theorem bkB_sl (js : List Nat) (d : D) (l : List d.T) : bkB js (.sl d l) = .sl d l := rfl
theorem bkB_elt (js : List Nat) (d : D) (l : List d.T) (i o : Nat) : bkB js (.elt d l i o) = .elt d l i o := rfl
theorem renA_ptr (js : List Nat) (b o : Nat) : renA js (.ptr b o) = match idx js 0 b with | some j => .ptr j o | none => .und := rfl
theorem renA_osl (js : List Nat) (b n : Nat) : renA js (.osl b n) = match idx js 0 b with | some j => .osl j n | none => .und := rfl
theorem renA_osb (js : List Nat) (b n lo m : Nat) : renA js (.osb b n lo m) = match idx js 0 b with | some j => .osb j n lo m | none => .und := rfl
theorem renA_oel (js : List Nat) (b n i o : Nat) : renA js (.oel b n i o) = match idx js 0 b with | some j => .oel j n i o | none => .und := rfl
theorem renB_ptr (js : List Nat) (b o : Nat) : renB js (.ptr b o) = match idx js 0 b with | some j => .ptr j o | none => .und := rfl
theorem renB_osl (js : List Nat) (b n : Nat) : renB js (.osl b n) = match idx js 0 b with | some j => .osl j n | none => .und := rfl
theorem renB_osb (js : List Nat) (b n lo m : Nat) : renB js (.osb b n lo m) = match idx js 0 b with | some j => .osb j n lo m | none => .und := rfl
theorem renB_oel (js : List Nat) (b n i o : Nat) : renB js (.oel b n i o) = match idx js 0 b with | some j => .oel j n i o | none => .und := rfl
theorem bkA_ptr (js : List Nat) (b o : Nat) : bkA js (.ptr b o) = .ptr (js.getD b 0) o := rfl
theorem bkA_osl (js : List Nat) (b n : Nat) : bkA js (.osl b n) = .osl (js.getD b 0) n := rfl
theorem bkA_osb (js : List Nat) (b n lo m : Nat) : bkA js (.osb b n lo m) = .osb (js.getD b 0) n lo m := rfl
theorem bkA_oel (js : List Nat) (b n i o : Nat) : bkA js (.oel b n i o) = .oel (js.getD b 0) n i o := rfl
theorem bkB_ptr (js : List Nat) (b o : Nat) : bkB js (.ptr b o) = .ptr (js.getD b 0) o := rfl
theorem bkB_osl (js : List Nat) (b n : Nat) : bkB js (.osl b n) = .osl (js.getD b 0) n := rfl
theorem bkB_osb (js : List Nat) (b n lo m : Nat) : bkB js (.osb b n lo m) = .osb (js.getD b 0) n lo m := rfl
theorem bkB_oel (js : List Nat) (b n i o : Nat) : bkB js (.oel b n i o) = .oel (js.getD b 0) n i o := rfl
theorem renB_agg (js : List Nat) (l : List PV) : renB js (.agg l) = .agg (l.map (renA js)) := rfl
theorem renB_tup (js : List Nat) (l : List PV) : renB js (.tup l) = .tup (l.map (renA js)) := rfl
theorem renB_fn (js : List Nat) (g : FuncId) (a b : List PV) : renB js (.fn g a b) = .fn g (a.map (renA js)) (b.map (renA js)) := rfl
theorem renB_ref (js : List Nat) (l : List PV) (o : Nat) : renB js (.ref l o) = .ref (l.map (renA js)) o := rfl
theorem renB_ifr (js : List Nat) (t : TypeId) (l : List PV) (o : Nat) : renB js (.ifc t (.ref l o)) = .ifc t (.ref (l.map (renA js)) o) := rfl
theorem renB_ifi (js : List Nat) (t : TypeId) (k : IntKind) (n : Int) : renB js (.ifc t (.int k n)) = .ifc t (.int k n) := rfl
theorem bkB_agg (js : List Nat) (l : List PV) : bkB js (.agg l) = .agg (l.map (bkA js)) := rfl
theorem bkB_tup (js : List Nat) (l : List PV) : bkB js (.tup l) = .tup (l.map (bkA js)) := rfl
theorem bkB_fn (js : List Nat) (g : FuncId) (a b : List PV) : bkB js (.fn g a b) = .fn g (a.map (bkA js)) (b.map (bkA js)) := rfl
theorem bkB_ref (js : List Nat) (l : List PV) (o : Nat) : bkB js (.ref l o) = .ref (l.map (bkA js)) o := rfl
theorem bkB_ifr (js : List Nat) (t : TypeId) (l : List PV) (o : Nat) : bkB js (.ifc t (.ref l o)) = .ifc t (.ref (l.map (bkA js)) o) := rfl
theorem bkB_ifi (js : List Nat) (t : TypeId) (k : IntKind) (n : Int) : bkB js (.ifc t (.int k n)) = .ifc t (.int k n) := rfl
theorem renO_var (js : List Nat) (l : List PV) : renO js (.var l) = .var (l.map (renB js)) := rfl
theorem renO_row (js : List Nat) (es n : Nat) (l : List PV) : renO js (.row es n l) = .row es n (l.map (renB js)) := rfl
theorem renO_arr (js : List Nat) (d : D) (l : List d.T) : renO js (.arr d l) = .arr d l := rfl
theorem renO_dead (js : List Nat)  : renO js (.dead) = .dead := rfl
theorem bkO_var (js : List Nat) (l : List PV) : bkO js (.var l) = .var (l.map (bkB js)) := rfl
theorem bkO_row (js : List Nat) (es n : Nat) (l : List PV) : bkO js (.row es n l) = .row es n (l.map (bkB js)) := rfl
theorem bkO_arr (js : List Nat) (d : D) (l : List d.T) : bkO js (.arr d l) = .arr d l := rfl
theorem bkO_dead (js : List Nat)  : bkO js (.dead) = .dead := rfl
theorem idx_c (a k b : Nat) (l : List Nat) : idx (a :: l) k b = if a = b then some k else idx l (k + 1) b := rfl
theorem idx_n (k b : Nat) : idx [] k b = none := rfl
theorem selS_d (js : List Nat) (s : List OB) : selS js s = js.map fun b => renO js (s.getD b .dead) := rfl
theorem updS_c (js0 js : List Nat) (b : Nat) (o : OB) (t s : List OB) : updS js0 (b :: js) (o :: t) s = updS js0 js t (s.set b (bkO js0 o)) := rfl
theorem updS_n (js0 : List Nat) (t s : List OB) : updS js0 [] t s = s := by cases t <;> rfl
theorem RR : type_of% (And.intro @renA_int <| And.intro @renA_bool <| And.intro @renA_str <| And.intro @renA_nilI <| And.intro @renA_nilF <| And.intro @renA_nilP <| And.intro @renA_nilS <| And.intro @renA_sl <| And.intro @renA_elt <| And.intro @renB_int <| And.intro @renB_bool <| And.intro @renB_str <| And.intro @renB_nilI <| And.intro @renB_nilF <| And.intro @renB_nilP <| And.intro @renB_nilS <| And.intro @renB_sl <| And.intro @renB_elt <| And.intro @bkA_int <| And.intro @bkA_bool <| And.intro @bkA_str <| And.intro @bkA_nilI <| And.intro @bkA_nilF <| And.intro @bkA_nilP <| And.intro @bkA_nilS <| And.intro @bkA_sl <| And.intro @bkA_elt <| And.intro @bkB_int <| And.intro @bkB_bool <| And.intro @bkB_str <| And.intro @bkB_nilI <| And.intro @bkB_nilF <| And.intro @bkB_nilP <| And.intro @bkB_nilS <| And.intro @bkB_sl <| And.intro @bkB_elt <| And.intro @renA_ptr <| And.intro @renA_osl <| And.intro @renA_osb <| And.intro @renA_oel <| And.intro @renB_ptr <| And.intro @renB_osl <| And.intro @renB_osb <| And.intro @renB_oel <| And.intro @bkA_ptr <| And.intro @bkA_osl <| And.intro @bkA_osb <| And.intro @bkA_oel <| And.intro @bkB_ptr <| And.intro @bkB_osl <| And.intro @bkB_osb <| And.intro @bkB_oel <| And.intro @renB_agg <| And.intro @renB_tup <| And.intro @renB_fn <| And.intro @renB_ref <| And.intro @renB_ifr <| And.intro @renB_ifi <| And.intro @bkB_agg <| And.intro @bkB_tup <| And.intro @bkB_fn <| And.intro @bkB_ref <| And.intro @bkB_ifr <| And.intro @bkB_ifi <| And.intro @renO_var <| And.intro @renO_row <| And.intro @renO_arr <| And.intro @renO_dead <| And.intro @bkO_var <| And.intro @bkO_row <| And.intro @bkO_arr <| And.intro @bkO_dead <| And.intro @idx_c <| And.intro @idx_n <| And.intro @selS_d <| And.intro @updS_c <| And.intro @updS_n <| And.intro @t_gz @t_gs) := And.intro @renA_int <| And.intro @renA_bool <| And.intro @renA_str <| And.intro @renA_nilI <| And.intro @renA_nilF <| And.intro @renA_nilP <| And.intro @renA_nilS <| And.intro @renA_sl <| And.intro @renA_elt <| And.intro @renB_int <| And.intro @renB_bool <| And.intro @renB_str <| And.intro @renB_nilI <| And.intro @renB_nilF <| And.intro @renB_nilP <| And.intro @renB_nilS <| And.intro @renB_sl <| And.intro @renB_elt <| And.intro @bkA_int <| And.intro @bkA_bool <| And.intro @bkA_str <| And.intro @bkA_nilI <| And.intro @bkA_nilF <| And.intro @bkA_nilP <| And.intro @bkA_nilS <| And.intro @bkA_sl <| And.intro @bkA_elt <| And.intro @bkB_int <| And.intro @bkB_bool <| And.intro @bkB_str <| And.intro @bkB_nilI <| And.intro @bkB_nilF <| And.intro @bkB_nilP <| And.intro @bkB_nilS <| And.intro @bkB_sl <| And.intro @bkB_elt <| And.intro @renA_ptr <| And.intro @renA_osl <| And.intro @renA_osb <| And.intro @renA_oel <| And.intro @renB_ptr <| And.intro @renB_osl <| And.intro @renB_osb <| And.intro @renB_oel <| And.intro @bkA_ptr <| And.intro @bkA_osl <| And.intro @bkA_osb <| And.intro @bkA_oel <| And.intro @bkB_ptr <| And.intro @bkB_osl <| And.intro @bkB_osb <| And.intro @bkB_oel <| And.intro @renB_agg <| And.intro @renB_tup <| And.intro @renB_fn <| And.intro @renB_ref <| And.intro @renB_ifr <| And.intro @renB_ifi <| And.intro @bkB_agg <| And.intro @bkB_tup <| And.intro @bkB_fn <| And.intro @bkB_ref <| And.intro @bkB_ifr <| And.intro @bkB_ifi <| And.intro @renO_var <| And.intro @renO_row <| And.intro @renO_arr <| And.intro @renO_dead <| And.intro @bkO_var <| And.intro @bkO_row <| And.intro @bkO_arr <| And.intro @bkO_dead <| And.intro @idx_c <| And.intro @idx_n <| And.intro @selS_d <| And.intro @updS_c <| And.intro @updS_n <| And.intro @t_gz @t_gs
end Go.Proofs.Ytalhipbbomagoaa.Pv
