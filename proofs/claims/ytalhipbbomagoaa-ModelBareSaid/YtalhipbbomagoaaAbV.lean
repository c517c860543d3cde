/- Steps of one kind of operation each. No statement of the set is proved in this text. -/
import Derived.Test.YtalhipbbomagoaaAbU
namespace Go.Proofs.Ytalhipbbomagoaa.Ab
open Go.RowKit
set_option linter.unusedVariables false
section
variable {P : Program} {K : Fr → Hp → Prop} {Q : QA} {f : Fr} {h : Hp} {cs : List CO} {d : Option Nat} {kp : Bool} {pr : List Operand} {x y z : Operand} {u v w : Value}
theorem s_mv (hx : evF f x = v) (hk : aops P pr cs K (putF f d v) h) : aops P pr (⟨d, none, kp, .f (.mv x)⟩ :: cs) K f h := s_f (v := v) (by simp only [FOp.run, hx]) hk
theorem s_bin {op : BinOp} (hx : evF f x = u) (hy : evF f y = w) (hv : abin op u w = some v) (hk : aops P pr cs K (putF f d v) h) : aops P pr (⟨d, none, kp, .f (.bin op x y)⟩ :: cs) K f h := s_f (v := v) (by simp only [FOp.run, hx, hy, hv, Option.map_some]) hk
theorem s_un {op : UnOp} (hx : evF f x = u) (hv : aun op u = some v) (hk : aops P pr cs K (putF f d v) h) : aops P pr (⟨d, none, kp, .f (.un op x)⟩ :: cs) K f h := s_f (v := v) (by simp only [FOp.run, hx, hv, Option.map_some]) hk
theorem s_cvt {k k' : IntKind} {n m : Int} (hx : evF f x = .int k' n) (hv : k.wrap n = m) (hk : aops P pr cs K (putF f d (.int k m)) h) : aops P pr (⟨d, none, kp, .f (.cvt k x)⟩ :: cs) K f h := s_f (v := .int k m) (by simp only [FOp.run, hx, hv]) hk
theorem s_pT (hc : evF f z = .bool true) (hx : evF f x = v) (hk : aops P pr cs K (putF f d v) h) : aops P pr (⟨d, none, kp, .f (.pick z x y)⟩ :: cs) K f h := s_f (v := v) (by simp [FOp.run, hx, hc]) hk
theorem s_pF (hc : evF f z = .bool false) (hx : evF f y = v) (hk : aops P pr cs K (putF f d v) h) : aops P pr (⟨d, none, kp, .f (.pick z x y)⟩ :: cs) K f h := s_f (v := v) (by simp [FOp.run, hx, hc]) hk
theorem s_lnL {A : Option Addr} {n c : Nat} (hx : evF f x = .slice A n c) (hk : aops P pr cs K (putF f d (.int .i64 n)) h) : aops P pr (⟨d, none, kp, .f (.len false x)⟩ :: cs) K f h := s_f (v := .int .i64 n) (by simp [FOp.run, hx]) hk
theorem s_lnS {s : ByteArray} (hx : evF f x = .string s) (hk : aops P pr cs K (putF f d (.int .i64 s.size)) h) : aops P pr (⟨d, none, kp, .f (.len true x)⟩ :: cs) K f h := s_f (v := .int .i64 s.size) (by simp [FOp.run, hx]) hk
theorem s_ext {i : Nat} {l : Array Value} (hx : evF f x = .tuple l) (hv : l[i]? = some v) (hk : aops P pr cs K (putF f d v) h) : aops P pr (⟨d, none, kp, .f (.ext x i)⟩ :: cs) K f h := s_f (v := v) (by simp only [FOp.run, hx, hv, Option.map_some]) hk
theorem s_fld {off : Nat} {l : Array Value} (hx : evF f x = .agg l) (hv : l[off]? = some v) (hk : aops P pr cs K (putF f d v) h) : aops P pr (⟨d, none, kp, .f (.fld off none x)⟩ :: cs) K f h := s_f (v := v) (by simp only [FOp.run, hx, hv, Option.map_some]) hk
theorem s_fldn {off m : Nat} {l : Array Value} (hx : evF f x = .agg l) (hv : Value.agg (l.extract off (off + m)) = v) (hk : aops P pr cs K (putF f d v) h) : aops P pr (⟨d, none, kp, .f (.fld off (some m) x)⟩ :: cs) K f h := s_f (v := v) (by simp only [FOp.run, hx, ← hv, Option.map_some]) hk
theorem s_eqB {ne a b r : Bool} (hx : evF f x = .bool a) (hy : evF f y = .bool b) (hv : nb ne (a == b) = r) (hk : aops P pr cs K (putF f d (.bool r)) h) : aops P pr (⟨d, none, kp, .f (.eqB ne x y)⟩ :: cs) K f h := s_f (v := .bool r) (by simp only [FOp.run, hx, hy, hv]) hk
theorem s_eqI {ne : Bool} (hx : evF f x = u) (hy : evF f y = w) (hv : aeqI P ne (isC x || isC y) u w = some v) (hk : aops P pr cs K (putF f d v) h) : aops P pr (⟨d, none, kp, .f (.eqI ne x y)⟩ :: cs) K f h := s_f (v := v) (by simp only [FOp.run, hx, hy, hv, Option.map_some]) hk
theorem s_eqN {tag : Nat} {ne : Bool} (hx : evF f x = u) (hy : evF f y = w) (hv : aeqN tag ne u w = some v) (hk : aops P pr cs K (putF f d v) h) : aops P pr (⟨d, none, kp, .f (.eqN tag ne x y)⟩ :: cs) K f h := s_f (v := v) (by simp only [FOp.run, hx, hy, hv, Option.map_some]) hk
theorem s_mkI {t : TypeId} (hx : evF f x = v) (hk : aops P pr cs K (putF f d (.iface t v)) h) : aops P pr (⟨d, none, kp, .f (.mkI t x)⟩ :: cs) K f h := s_f (v := .iface t v) (by simp only [FOp.run, hx]) hk
theorem s_fad {off : Nat} {a : Addr} (hx : evF f x = .pointer (some a)) (hs : a.spot = none) (hk : aops P pr cs K (putF f d (.pointer (some (a.add off)))) h) : aops P pr (⟨d, none, kp, .f (.fad off x)⟩ :: cs) K f h := s_f (v := .pointer (some (a.add off))) (by simp [FOp.run, hx, hs]) hk
theorem s_b2s {A : Option Addr} {n c : Nat} {l : List Value} {s : List UInt8} (hx : evF f x = .slice A n c) (hr : rowV h 1 (.slice A n c) = some l) (hs : strOf l = some s) (hk : aops P (x :: pr) cs K (putF f d (.string ⟨s.toArray⟩)) h) : aops P pr (⟨d, none, kp, .f (.b2s x)⟩ :: cs) K f h := by
  refine s_f (v := .string ⟨s.toArray⟩) ?_ hk
  simp only [FOp.run, hx]
  unfold rowV at hr
  cases A with
  | none =>
    simp only at hr ⊢
    split at hr
    · rename_i e
      obtain rfl := Option.some.inj hr
      simp only [strOf, Option.some.injEq] at hs
      subst hs
      rfl
    · simp at hr
  | some a =>
    simp only [Nat.mul_one] at hr ⊢
    rw [hr]
    simp only [Option.bind_some, hs, Option.map_some]
theorem s_call {g : FuncId} {l : List Operand} (hk : ACalls P g (l.map (evF f)) h fun v h' => (kp = true → Keeps h h') ∧ aops P pr cs K (putF f d v) h') : aops P pr (⟨d, none, kp, .e (.cal (.func g) l)⟩ :: cs) K f h := by
  refine s_cal (g := g) (a := #[]) (b := #[]) rfl ?_
  simpa using hk
theorem s_callv {g : FuncId} {l : List Operand} {vs : List Value} (ha : l.map (evF f) = vs) (hk : ACalls P g vs h fun v h' => (kp = true → Keeps h h') ∧ aops P pr cs K (putF f d v) h') : aops P pr (⟨d, none, kp, .e (.cal (.func g) l)⟩ :: cs) K f h := s_call (by rw [ha]; exact hk)
theorem s_gu {s : Nat} {b : Bool} {op : COp} (hs : f s = undef) (hk : aops P (rdO op pr) cs K (putF f d undef) h) : aops P pr (⟨d, some (s, b), kp, op⟩ :: cs) K f h := by
  unfold aops
  rw [if_neg (by simp [wantC, hs, undef])]
  exact hk
end
theorem ev_Ti (f : Fr) (t : Nat) : evF f (.tmp t) = f t := rfl
theorem map_nil' (g : Operand → Value) : [].map g = [] := rfl
theorem map_cons' (g : Operand → Value) (a : Operand) (l : List Operand) {v : Value} {vs : List Value} (h1 : g a = v) (h2 : l.map g = vs) : (a :: l).map g = v :: vs := by rw [List.map_cons, h1, h2]
end Go.Proofs.Ytalhipbbomagoaa.Ab
