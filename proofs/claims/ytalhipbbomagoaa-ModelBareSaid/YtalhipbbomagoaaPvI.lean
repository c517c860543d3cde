/- States of plain values: each step in parts, so that at most one rule fits each: first what is looked up, then by what that is. No statement of the set is proved in this text. -/
import Derived.Test.YtalhipbbomagoaaPvH
namespace Go.Proofs.Ytalhipbbomagoaa.Pv
open Go.RowKit Go.Proofs.Ytalhipbbomagoaa.Ab Go.Proofs.Ytalhipbbomagoaa.AbP
set_option linter.unusedVariables false
set_option linter.unusedSimpArgs false
section
variable {P : Program} {Z : Bs} {K : Env → List OB → Prop} {Q : QP} {e : Env} {s s' : List OB} {cs : List CO} {pr : List Operand} {d : Option Nat} {kp : Bool} {x y z : Operand} {p q r : PV} {u v w : Value} {b o n m i j es : Nat} {l l' c : List PV} {D' : D} {lo hi : Option Operand} {a g : Int} {ob : OB}
/-! loads -/
def LdG (P : Program) (Z : Bs) (pr : List Operand) (x : Operand) (cs : List CO) (K : Env → List OB → Prop) (e : Env) (s : List OB) (d : Option Nat) (nn : Option Nat) (p : PV) : Prop := ∀ kp, evE e x = p → pops P Z pr (⟨d, none, kp, .f (.ld nn x)⟩ :: cs) K e s
def LdS (P : Program) (Z : Bs) (pr : List Operand) (x : Operand) (cs : List CO) (K : Env → List OB → Prop) (e : Env) (s : List OB) (d : Option Nat) (nn : Option Nat) (b n i o : Nat) (ob : OB) : Prop := s[b]? = some ob → LdG P Z pr x cs K e s d nn (.oel b n i o)
theorem g_ld {nn : Option Nat} (hx : Lk (evE e x = p)) (hk : LdG P Z pr x cs K e s d nn p) : pops P Z pr (⟨d, none, kp, .f (.ld nn x)⟩ :: cs) K e s := hk kp hx.o
theorem ld_V (hb : Rf (s[b]? = some (.var l))) (hv : Rf (l[o]? = some p)) (hk : pops P Z (x :: pr) cs K (putE e d p) s) : LdG P Z pr x cs K e s d none (.ptr b o) := fun kp hx => q_ldV ⟨hx⟩ hb hv hk
theorem ld_Vn (hb : Rf (s[b]? = some (.var l))) (hl : Rf (Nat.ble (o + n) l.length = true)) (hv : Pu ((l.drop o).take n = c)) (hk : pops P Z (x :: pr) cs K (putE e d (.agg c)) s) : LdG P Z pr x cs K e s d (some n) (.ptr b o) := fun kp hx => q_ldVn ⟨hx⟩ hb hl hv hk
theorem ld_I {k : IntKind} {l : List Int} (hk : pops P Z (x :: pr) cs K (putE e d (.int k (l.getD i 0))) s) : LdG P Z pr x cs K e s d none (.elt (.int k) l i 0) := fun kp hx => q_ldI ⟨hx⟩ hk
theorem ld_E {l : List D'.T} {x' : D'.T} (hi : Am (l[i]? = some x')) (hv : Vl ((encP D' x')[o]? = some p)) (hk : pops P Z (x :: pr) cs K (putE e d p) s) : LdG P Z pr x cs K e s d none (.elt D' l i o) := fun kp hx => q_ldE ⟨hx⟩ hi hv hk
theorem ld_En {l : List D'.T} {x' : D'.T} (hi : Am (l[i]? = some x')) (hl : Rf (Nat.ble (o + n) D'.sz = true)) (hv : Pu (((encP D' x').drop o).take n = c)) (hk : pops P Z (x :: pr) cs K (putE e d (.agg c)) s) : LdG P Z pr x cs K e s d (some n) (.elt D' l i o) := fun kp hx => q_ldEn ⟨hx⟩ hi hl hv hk
theorem ld_R {N : List PV} (hv : Vl (N[o]? = some p)) (hk : pops P Z (x :: pr) cs K (putE e d p) s) : LdG P Z pr x cs K e s d none (.ref N o) := fun kp hx => q_ldR ⟨hx⟩ hv hk
theorem ld_Rn {N : List PV} (hl : Rf (Nat.ble (o + n) N.length = true)) (hv : Pu ((N.drop o).take n = c)) (hk : pops P Z (x :: pr) cs K (putE e d (.agg c)) s) : LdG P Z pr x cs K e s d (some n) (.ref N o) := fun kp hx => q_ldRn ⟨hx⟩ hl hv hk
theorem ld_O {nn : Option Nat} (hb : Rf (s[b]? = some ob)) (hk : LdS P Z pr x cs K e s d nn b n i o ob) : LdG P Z pr x cs K e s d nn (.oel b n i o) := hk hb.o
theorem ld_OI {k : IntKind} {l : List Int} (hn : Om (n = l.length)) (hi : Om (i < l.length)) (hk : pops P Z (x :: pr) cs K (putE e d (.int k (l.getD i 0))) s) : LdS P Z pr x cs K e s d none b n i 0 (.arr (.int k) l) := fun hb kp hx => q_ldOI ⟨hx⟩ ⟨hb⟩ hn hi hk
theorem ld_OE {l : List D'.T} {x' : D'.T} (hn : Om (n = l.length)) (hi : Am (l[i]? = some x')) (hv : Vl ((encP D' x')[o]? = some p)) (hk : pops P Z (x :: pr) cs K (putE e d p) s) : LdS P Z pr x cs K e s d none b n i o (.arr D' l) := fun hb kp hx => q_ldO ⟨hx⟩ ⟨hb⟩ hn hi hv hk
theorem ld_On {l : List D'.T} {x' : D'.T} (hn : Om (n = l.length)) (hi : Am (l[i]? = some x')) (hl : Rf (Nat.ble (o + m) D'.sz = true)) (hv : Pu (((encP D' x').drop o).take m = c)) (hk : pops P Z (x :: pr) cs K (putE e d (.agg c)) s) : LdS P Z pr x cs K e s d (some m) b n i o (.arr D' l) := fun hb kp hx => q_ldOn ⟨hx⟩ ⟨hb⟩ hn hi hl hv hk
theorem ld_W (hv : Vl (l[i * es + o]? = some p)) (hk : pops P Z (x :: pr) cs K (putE e d p) s) : LdS P Z pr x cs K e s d none b n i o (.row es n l) := fun hb kp hx => q_ldW ⟨hx⟩ ⟨hb⟩ hv hk
/-! addresses -/
def FdG (P : Program) (Z : Bs) (pr : List Operand) (cs : List CO) (K : Env → List OB → Prop) (e : Env) (s : List OB) (d : Option Nat) (off : Nat) (p : PV) : Prop := ∀ x kp, evE e x = p → pops P Z pr (⟨d, none, kp, .f (.fad off x)⟩ :: cs) K e s
theorem g_fad {off : Nat} (hx : Lk (evE e x = p)) (hk : FdG P Z pr cs K e s d off p) : pops P Z pr (⟨d, none, kp, .f (.fad off x)⟩ :: cs) K e s := hk x kp hx.o
theorem fd_V {off : Nat} (hb : Rf (s[b]? = some (.var l))) (hj : Pu (o + off = j)) (hk : pops P Z pr cs K (putE e d (.ptr b j)) s) : FdG P Z pr cs K e s d off (.ptr b o) := fun x kp hx => q_fadV ⟨hx⟩ hb hj hk
theorem fd_E {off : Nat} {l : List D'.T} (hj : Pu (o + off = j)) (hk : pops P Z pr cs K (putE e d (.elt D' l i j)) s) : FdG P Z pr cs K e s d off (.elt D' l i o) := fun x kp hx => q_fadE ⟨hx⟩ hj hk
theorem fd_R {off : Nat} {N : List PV} (hj : Pu (o + off = j)) (hk : pops P Z pr cs K (putE e d (.ref N j)) s) : FdG P Z pr cs K e s d off (.ref N o) := fun x kp hx => q_fadR ⟨hx⟩ hj hk
theorem fd_O {off : Nat} (hb : Rf (s[b]? = some ob)) (hs : Vl (ob.sig = some (es, m))) (hn : Om (n = m)) (hj : Pu (o + off = j)) (hk : pops P Z pr cs K (putE e d (.oel b n i j)) s) : FdG P Z pr cs K e s d off (.oel b n i o) := fun x kp hx => q_fadO (es := es) ⟨hx⟩ hb ⟨by rw [hn.o]; exact hs.o⟩ hj hk
def IdG (P : Program) (Z : Bs) (pr : List Operand) (cs : List CO) (K : Env → List OB → Prop) (e : Env) (s : List OB) (d : Option Nat) (es : Nat) (p : PV) (k : IntKind) (a : Int) : Prop := ∀ x y kp, evE e x = p → evE e y = .int k a → pops P Z pr (⟨d, none, kp, .f (.iad es x y)⟩ :: cs) K e s
def IdS (P : Program) (Z : Bs) (pr : List Operand) (cs : List CO) (K : Env → List OB → Prop) (e : Env) (s : List OB) (d : Option Nat) (es b n : Nat) (k : IntKind) (a : Int) (ob : OB) : Prop := s[b]? = some ob → IdG P Z pr cs K e s d es (.osl b n) k a
theorem g_iad {k : IntKind} (hx : Lk (evE e x = p)) (hy : Lk (evE e y = .int k a)) (hk : IdG P Z pr cs K e s d es p k a) : pops P Z pr (⟨d, none, kp, .f (.iad es x y)⟩ :: cs) K e s := hk x y kp hx.o hy.o
theorem id_S {k : IntKind} {l : List D'.T} (h0 : Om (0 ≤ a)) (h1 : Om (a < l.length)) (hj : Vl (a.toNat = i)) (he : Rf (Nat.beq D'.sz es = true)) (hd : Rf (Nat.blt 0 es = true)) (hk : pops P Z pr cs K (putE e d (.elt D' l i 0)) s) : IdG P Z pr cs K e s d es (.sl D' l) k a := fun x y kp hx hy => q_iad ⟨hx⟩ ⟨hy⟩ h0 h1 hj he hd hk
theorem id_O {k : IntKind} (hb : Rf (s[b]? = some ob)) (hk : IdS P Z pr cs K e s d es b n k a ob) : IdG P Z pr cs K e s d es (.osl b n) k a := hk hb.o
theorem id_A {k : IntKind} {l : List D'.T} (hn : Om (n = l.length)) (h0 : Om (0 ≤ a)) (h1 : Om (a < l.length)) (hj : Vl (a.toNat = i)) (he : Rf (Nat.beq D'.sz es = true)) (hk : pops P Z pr cs K (putE e d (.oel b n i 0)) s) : IdS P Z pr cs K e s d es b n k a (.arr D' l) := fun hb x y kp hx hy => q_iadO ⟨hx⟩ ⟨hy⟩ ⟨hb⟩ hn h0 h1 hj he hk
theorem id_R {k : IntKind} (h0 : Om (0 ≤ a)) (h1 : Om (a < n)) (hj : Vl (a.toNat = i)) (hk : pops P Z pr cs K (putE e d (.oel b n i 0)) s) : IdS P Z pr cs K e s d es b n k a (.row es n l) := fun hb x y kp hx hy => q_iadR ⟨hx⟩ ⟨hy⟩ ⟨hb⟩ h0 h1 hj hk
/-! lengths -/
def LnG (P : Program) (Z : Bs) (pr : List Operand) (cs : List CO) (K : Env → List OB → Prop) (e : Env) (s : List OB) (d : Option Nat) (p : PV) : Prop := ∀ x kp, evE e x = p → pops P Z pr (⟨d, none, kp, .f (.len false x)⟩ :: cs) K e s
def LnS (P : Program) (Z : Bs) (pr : List Operand) (cs : List CO) (K : Env → List OB → Prop) (e : Env) (s : List OB) (d : Option Nat) (b n : Nat) (ob : OB) : Prop := s[b]? = some ob → LnG P Z pr cs K e s d (.osl b n)
theorem g_ln (hx : Lk (evE e x = p)) (hk : LnG P Z pr cs K e s d p) : pops P Z pr (⟨d, none, kp, .f (.len false x)⟩ :: cs) K e s := hk x kp hx.o
theorem ln_S {l : List D'.T} (hk : pops P Z pr cs K (putE e d (.int .i64 l.length)) s) : LnG P Z pr cs K e s d (.sl D' l) := fun x kp hx => q_ln ⟨hx⟩ hk
theorem ln_0 (hk : pops P Z pr cs K (putE e d (.int .i64 0)) s) : LnG P Z pr cs K e s d .nilS := fun x kp hx => q_ln0 ⟨hx⟩ hk
theorem ln_O (hb : Rf (s[b]? = some ob)) (hk : LnS P Z pr cs K e s d b n ob) : LnG P Z pr cs K e s d (.osl b n) := hk hb.o
theorem ln_A {l : List D'.T} (hn : Om (n = l.length)) (hk : pops P Z pr cs K (putE e d (.int .i64 l.length)) s) : LnS P Z pr cs K e s d b n (.arr D' l) := fun hb x kp hx => q_lnO ⟨hx⟩ ⟨hb⟩ hn hk
theorem ln_R (hk : pops P Z pr cs K (putE e d (.int .i64 n)) s) : LnS P Z pr cs K e s d b n (.row es n l) := fun hb x kp hx => q_lnR ⟨hx⟩ ⟨hb⟩ hk
/-! stores -/
def StG (P : Program) (Z : Bs) (pr : List Operand) (cs : List CO) (K : Env → List OB → Prop) (e : Env) (s : List OB) (d : Option Nat) (kp : Bool) (size : Nat) (p q : PV) : Prop := ∀ x y, evE e x = p → evE e y = q → pops P Z pr (⟨d, none, kp, .e (.st size x y)⟩ :: cs) K e s
def StS (P : Program) (Z : Bs) (pr : List Operand) (cs : List CO) (K : Env → List OB → Prop) (e : Env) (s : List OB) (d : Option Nat) (kp : Bool) (size b n i o : Nat) (q : PV) (ob : OB) : Prop := s[b]? = some ob → StG P Z pr cs K e s d kp size (.oel b n i o) q
theorem g_st {size : Nat} (hx : Lk (evE e x = p)) (hy : Lk (evE e y = q)) (hk : StG P Z pr cs K e s d kp size p q) : pops P Z pr (⟨d, none, kp, .e (.st size x y)⟩ :: cs) K e s := hk x y hx.o hy.o
theorem st_V {size : Nat} {l' : List PV} (hb : Rf (s[b]? = some (.var l))) (hc : Pu (cellsP q = c)) (h1 : Rf (c.all one1 = true)) (hz : Rf (Nat.beq c.length size = true)) (ho : Rf (Nat.ble (o + size) l.length = true)) (hp : Pu (putP l o c = l')) (hs : Pu (s.set b (.var l') = s')) (hk : pops P Z pr cs K (putE e d (.tup [])) s') : StG P Z pr cs K e s d false size (.ptr b o) q := fun x y hx hy => q_stV ⟨hx⟩ ⟨hy⟩ hb hc h1 hz ho hp hs ⟨rfl⟩ hk
theorem st_VK {size : Nat} {l' : List PV} (hb : Rf (s[b]? = some (.var l))) (hc : Pu (cellsP q = c)) (h1 : Rf (c.all one1 = true)) (hz : Rf (Nat.beq c.length size = true)) (ho : Rf (Nat.ble (o + size) l.length = true)) (hp : Pu (putP l o c = l')) (hs : Pu (s.set b (.var l') = s')) {ps : List PV} (hm : Mp (pr.map (evE e) = ps)) (hsf : Rf (ps.all (sfP s b) = true)) (hk : pops P Z pr cs K (putE e d (.tup [])) s') : StG P Z pr cs K e s d true size (.ptr b o) q := fun x y hx hy => q_stVK ⟨hx⟩ ⟨hy⟩ hb hc h1 hz ho hp hs hm hsf hk
theorem st_O {size : Nat} (hb : Rf (s[b]? = some ob)) (hk : StS P Z pr cs K e s d kp size b n i o q ob) : StG P Z pr cs K e s d kp size (.oel b n i o) q := hk hb.o
theorem st_I {k : IntKind} {l : List Int} (hn : Om (n = l.length)) (hi : Om (i < l.length)) (hs : Pu (s.set b (.arr (.int k) (l.set i a)) = s')) (hkp : Rf (kp = false)) (hk : pops P Z pr cs K (putE e d (.tup [])) s') : StS P Z pr cs K e s d kp 1 b n i 0 (.int k a) (.arr (.int k) l) := fun hb x y hx hy => q_stOI ⟨hx⟩ ⟨hy⟩ ⟨hb⟩ hn hi hs hkp hk
theorem st_B {t : Bool} {l : List Bool} (hn : Om (n = l.length)) (hi : Om (i < l.length)) (hs : Pu (s.set b (.arr .bool (l.set i t)) = s')) (hkp : Rf (kp = false)) (hk : pops P Z pr cs K (putE e d (.tup [])) s') : StS P Z pr cs K e s d kp 1 b n i 0 (.bool t) (.arr .bool l) := fun hb x y hx hy => q_stOB ⟨hx⟩ ⟨hy⟩ ⟨hb⟩ hn hi hs hkp hk
theorem st_E {size : Nat} {l : List D'.T} {x0 x1 : D'.T} (hn : Om (n = l.length)) (hi : Am (l[i]? = some x0)) (hc : Pu (cellsP q = c)) (h1 : Rf (c.all one1 = true)) (hz : Rf (Nat.beq c.length size = true)) (ho : Rf (Nat.ble (o + size) D'.sz = true)) (hp : Rf (decP D' (putP (encP D' x0) o c) = some x1)) (hs : Pu (s.set b (.arr D' (l.set i x1)) = s')) (hkp : Rf (kp = false)) (hk : pops P Z pr cs K (putE e d (.tup [])) s') : StS P Z pr cs K e s d kp size b n i o q (.arr D' l) := fun hb x y hx hy => q_stO ⟨hx⟩ ⟨hy⟩ ⟨hb⟩ hn hi hc h1 hz ho ⟨hp.o⟩ hs hkp hk
/-! interfaces -/
def MkG (P : Program) (Z : Bs) (pr : List Operand) (cs : List CO) (K : Env → List OB → Prop) (e : Env) (s : List OB) (d : Option Nat) (t : TypeId) (p : PV) : Prop := ∀ x kp, evE e x = p → pops P Z pr (⟨d, none, kp, .f (.mkI t x)⟩ :: cs) K e s
theorem g_mk {t : TypeId} (hx : Lk (evE e x = p)) (hk : MkG P Z pr cs K e s d t p) : pops P Z pr (⟨d, none, kp, .f (.mkI t x)⟩ :: cs) K e s := hk x kp hx.o
theorem mk_P {t : TypeId} (hb : Rf (s[b]? = some (.var l))) (hs : Pu (s.set b .dead = s')) (hk : pops P Z pr cs K (putE e d (.ifc t (.ref l 0))) s') : MkG P Z pr cs K e s d t (.ptr b 0) := fun x kp hx => q_mkIP ⟨hx⟩ hb hs hk
theorem mk_G {t : TypeId} (hk : pops P Z pr cs K (putE e d (.ifc t p)) s) : MkG P Z pr cs K e s d t p := fun x kp hx => q_mkI ⟨hx⟩ hk
def TaG (P : Program) (Z : Bs) (pr : List Operand) (cs : List CO) (K : Env → List OB → Prop) (e : Env) (s : List OB) (d : Option Nat) (t : TypeId) (ok : Bool) (zero : Value) (p : PV) : Prop := ∀ x kp, evE e x = p → pops P Z pr (⟨d, none, kp, .f (.tas t ok zero x)⟩ :: cs) K e s
theorem g_ta {t : TypeId} {ok : Bool} {zero : Value} (hx : Lk (evE e x = p)) (hk : TaG P Z pr cs K e s d t ok zero p) : pops P Z pr (⟨d, none, kp, .f (.tas t ok zero x)⟩ :: cs) K e s := hk x kp hx.o
theorem ta_Y1 {t : TypeId} {zero : Value} (hk : pops P Z pr cs K (putE e d (.tup [p, .bool true])) s) : TaG P Z pr cs K e s d t true zero (.ifc t p) := fun x kp hx => q_tasY (ok := true) ⟨hx⟩ hk
theorem ta_Y0 {t : TypeId} {zero : Value} (hk : pops P Z pr cs K (putE e d p) s) : TaG P Z pr cs K e s d t false zero (.ifc t p) := fun x kp hx => q_tasY (ok := false) ⟨hx⟩ hk
theorem ta_N {t u : TypeId} {zero : Value} (hne : Rf (Nat.beq u t = false)) (hk : pops P Z pr cs K (putE e d (.tup [ofV zero, .bool false])) s) : TaG P Z pr cs K e s d t true zero (.ifc u p) := fun x kp hx => q_tasN ⟨hx⟩ hne hk
theorem ta_I {t : TypeId} {zero : Value} (hk : pops P Z pr cs K (putE e d (.tup [ofV zero, .bool false])) s) : TaG P Z pr cs K e s d t true zero .nilI := fun x kp hx => q_tasI ⟨hx⟩ hk
/-! nil -/
def NlG (P : Program) (Z : Bs) (pr : List Operand) (cs : List CO) (K : Env → List OB → Prop) (e : Env) (s : List OB) (d : Option Nat) (tag : Nat) (ne : Bool) (p q : PV) : Prop := ∀ x y kp, evE e x = p → evE e y = q → pops P Z pr (⟨d, none, kp, .f (.eqN tag ne x y)⟩ :: cs) K e s
theorem g_nl {tag : Nat} {ne : Bool} (hx : Lk (evE e x = p)) (hy : Lk (evE e y = q)) (hk : NlG P Z pr cs K e s d tag ne p q) : pops P Z pr (⟨d, none, kp, .f (.eqN tag ne x y)⟩ :: cs) K e s := hk x y kp hx.o hy.o
theorem nl_P {ne t r : Bool} (hp : Rf (isNilP p = some t)) (hv : Vl (nb ne t = r)) (hk : pops P Z pr cs K (putE e d (.bool r)) s) : NlG P Z pr cs K e s d 0 ne p .nilP := fun x y kp hx hy => q_eqP ⟨hx⟩ ⟨hy⟩ hp hv hk
theorem nl_F1 {ne r : Bool} {g : FuncId} {a b : List PV} (hv : Vl (nb ne false = r)) (hk : pops P Z pr cs K (putE e d (.bool r)) s) : NlG P Z pr cs K e s d 2 ne (.fn g a b) .nilF := fun x y kp hx hy => q_eqF1 ⟨hx⟩ ⟨hy⟩ hv hk
theorem nl_F0 {ne r : Bool} (hv : Vl (nb ne true = r)) (hk : pops P Z pr cs K (putE e d (.bool r)) s) : NlG P Z pr cs K e s d 2 ne .nilF .nilF := fun x y kp hx hy => q_eqF0 ⟨hx⟩ ⟨hy⟩ hv hk
theorem nl_S0 {ne r : Bool} (hv : Vl (nb ne true = r)) (hk : pops P Z pr cs K (putE e d (.bool r)) s) : NlG P Z pr cs K e s d 1 ne .nilS .nilS := fun x y kp hx hy => q_eqS0 ⟨hx⟩ ⟨hy⟩ hv hk
theorem nl_Sl {ne : Bool} {l : List D'.T} (hk : ∀ r : Bool, (r = true → l = []) → pops P Z pr cs K (putE e d (.bool (nb ne r))) s) : NlG P Z pr cs K e s d 1 ne (.sl D' l) .nilS := fun x y kp hx hy => q_eqSl ⟨hx⟩ ⟨hy⟩ hk
theorem nl_So {ne r : Bool} {l : List D'.T} (hb : Rf (s[b]? = some (.arr D' l))) (hn : Om (n = l.length)) (h0 : Om (0 < l.length)) (hv : Vl (nb ne false = r)) (hk : pops P Z pr cs K (putE e d (.bool r)) s) : NlG P Z pr cs K e s d 1 ne (.osl b n) .nilS := fun x y kp hx hy => q_eqSo ⟨hx⟩ ⟨hy⟩ hb hn h0 hv hk
/-- a slice of bytes, made a slice of bytes -/
theorem q_mst {es : Nat} (hx : Lk (evE e x = .osl b n)) (hb : Rf (s[b]? = some (.row es n l))) (hk : pops P Z pr cs K (putE e d (.osl b n)) s) : pops P Z pr (⟨d, none, kp, .e (.mst x)⟩ :: cs) K e s := fun f h ⟨E, i, S, R⟩ => by
  obtain ⟨k, cs', k1, k2, k3, -⟩ := S.ob b _ hb.o
  have hp := R.at hx.o
  rcases hp.osl_inv _ _ ⟨_, hb.o, rfl⟩ with g1 | ⟨-, c, hc, hv⟩
  · omega
  · have k1 : i b = some k := k1
    have hp2 := hp
    simp only [k1, slV] at hv
    rw [hv] at hp2
    refine s_gen (v := .slice (some ⟨k, 0, none⟩) n c) (h' := h) (fun K1 hk1 => ?_) (fun _ => .inl ⟨rfl, fun _ _ h => h⟩) (hk _ _ ⟨E, i, S, R.put hp2⟩)
    simp only [EOp.run, hv]
    exact ⟨⟨by simp, _, k3, rfl⟩, hk1⟩
/-! cuts -/
def SlG (P : Program) (Z : Bs) (pr : List Operand) (cs : List CO) (K : Env → List OB → Prop) (e : Env) (s : List OB) (d : Option Nat) (es : Nat) (lo hi : Option Operand) (p : PV) : Prop := ∀ x kp, evE e x = p → pops P Z pr (⟨d, none, kp, .f (.slc es x lo hi)⟩ :: cs) K e s
theorem g_sl (hx : Lk (evE e x = p)) (hk : SlG P Z pr cs K e s d es lo hi p) : pops P Z pr (⟨d, none, kp, .f (.slc es x lo hi)⟩ :: cs) K e s := hk x kp hx.o
theorem sl_Sa {l : List D'.T} (he : Rf (Nat.beq D'.sz es = true)) (hd : Rf (Nat.blt 0 es = true)) (hk : pops P Z pr cs K (putE e d (.sl D' l)) s) : SlG P Z pr cs K e s d es none none (.sl D' l) := fun x kp hx => q_slc (a := 0) (g := l.length) (i := 0) (j := l.length) ⟨hx⟩ ⟨rfl⟩ ⟨rfl⟩ ⟨Int.le_refl _⟩ ⟨Int.natCast_nonneg _⟩ ⟨Int.le_refl _⟩ ⟨rfl⟩ ⟨Int.toNat_natCast _⟩ he hd (by rw [List.take_length]; exact hk)
theorem sl_S0 {y : Operand} {l : List D'.T} (hhi : Lk (hiP e l.length (some y) = some g)) (h1 : Om (0 ≤ g)) (h2 : Om (g ≤ l.length)) (hg : Vl (g.toNat = j)) (he : Rf (Nat.beq D'.sz es = true)) (hd : Rf (Nat.blt 0 es = true)) (hk : pops P Z pr cs K (putE e d (.sl D' (l.take j))) s) : SlG P Z pr cs K e s d es none (some y) (.sl D' l) := fun x kp hx => q_slc (a := 0) (i := 0) ⟨hx⟩ ⟨rfl⟩ hhi ⟨Int.le_refl _⟩ h1 h2 ⟨rfl⟩ hg he hd hk
theorem sl_Sn {y : Operand} {l : List D'.T} (hlo : Lk (loP e (some y) = some a)) (h0 : Om (0 ≤ a)) (h1 : Om (a ≤ l.length)) (hj : Vl (a.toNat = i)) (he : Rf (Nat.beq D'.sz es = true)) (hd : Rf (Nat.blt 0 es = true)) (hk : pops P Z pr cs K (putE e d (.sl D' (l.drop i))) s) : SlG P Z pr cs K e s d es (some y) none (.sl D' l) := fun x kp hx => q_slc (g := l.length) (j := l.length) ⟨hx⟩ hlo ⟨rfl⟩ h0 h1 ⟨Int.le_refl _⟩ hj ⟨Int.toNat_natCast _⟩ he hd (by rw [List.take_length]; exact hk)
theorem sl_S {l : List D'.T} (hlo : Lk (loP e lo = some a)) (hhi : Lk (hiP e l.length hi = some g)) (h0 : Om (0 ≤ a)) (h1 : Om (a ≤ g)) (h2 : Om (g ≤ l.length)) (hj : Vl (a.toNat = i)) (hg : Vl (g.toNat = j)) (he : Rf (Nat.beq D'.sz es = true)) (hd : Rf (Nat.blt 0 es = true)) (hk : pops P Z pr cs K (putE e d (.sl D' ((l.take j).drop i))) s) : SlG P Z pr cs K e s d es lo hi (.sl D' l) := fun x kp hx => q_slc ⟨hx⟩ hlo hhi h0 h1 h2 hj hg he hd hk
theorem sl_N (hlo : Lk (loP e lo = some a)) (hhi : Lk (hiP e 0 hi = some g)) (h0 : Om (0 = a)) (h1 : Om (0 = g)) (hk : pops P Z pr cs K (putE e d .nilS) s) : SlG P Z pr cs K e s d es lo hi .nilS := fun x kp hx => q_slcN ⟨hx⟩ hlo hhi h0 h1 hk
theorem sl_O {l : List D'.T} (hb : Rf (s[b]? = some (.arr D' l))) (hn : Om (n = l.length)) (hlo : Lk (loP e lo = some a)) (hhi : Lk (hiP e l.length hi = some g)) (h0 : Om (0 ≤ a)) (h1 : Om (a ≤ g)) (h2 : Om (g ≤ l.length)) (hj : Vl (a.toNat = i)) (hg : Vl ((g - a).toNat = j)) (he : Rf (Nat.beq D'.sz es = true)) (hk : pops P Z pr cs K (putE e d (.osb b n i j)) s) : SlG P Z pr cs K e s d es lo hi (.osl b n) := fun x kp hx => q_slcO ⟨hx⟩ hb hn hlo hhi h0 h1 h2 hj hg he hk
/-! results -/
def RtG (KK : PV → List OB → Prop) (s : List OB) (ps : List PV) : Prop := ∀ rs e, prvs e s rs = some ps → retP rs (gcK KK) .ret e s
section
variable {rs : List RV} {KK : PV → List OB → Prop}
theorem g_rt {ps : List PV} (hl : Rs (prvs e s rs = some ps)) (hk : RtG KK s ps) : retP rs (gcK KK) .ret e s := hk rs e hl.o
def Rt1 (KK : PV → List OB → Prop) (s : List OB) (b n : Nat) (ob : OB) : Prop := s[b]? = some ob → RtG KK s [.osl b n]
theorem rt_o1 (hb : Rf (s[b]? = some ob)) (hk : Rt1 KK s b n ob) : RtG KK s [.osl b n] := hk hb.o
theorem rt_1a {l : List D'.T} (hk : KK (.osl 0 n) [.arr D' l]) : Rt1 KK s b n (.arr D' l) := fun hb rs e hl => r_osl1 ⟨hl⟩ ⟨hb⟩ hk
theorem rt_o2 {l : List D'.T} {q : PV} (hb : Rf (s[b]? = some (.arr D' l))) (hq : Rf (per2 q = true)) (hk : KK (.tup [.osl 0 n, q]) [.arr D' l]) : RtG KK s [.osl b n, q] := fun rs e hl => r_osl2 ⟨hl⟩ hb hq hk
theorem rt_o3 {D2 : D} {b2 n2 : Nat} {l : List D'.T} {l2 : List D2.T} {q : PV} (hb : Rf (s[b]? = some (.arr D' l))) (hb2 : Rf (s[b2]? = some (.arr D2 l2))) (hne : Rf (Nat.beq b2 b = false)) (hq : Rf (per2 q = true)) (hk : KK (.tup [.osl 0 n, .osl 1 n2, q]) [.arr D' l, .arr D2 l2]) : RtG KK s [.osl b n, .osl b2 n2, q] := fun rs e hl => r_osl3 ⟨hl⟩ hb hb2 hne hq hk
theorem rt_1 (hp : Rf (per3 p = true)) (hne : Rf (notTup p = true)) (hk : KK p []) : RtG KK s [p] := fun rs e hl => r_per1 ⟨hl⟩ hp hne hk
theorem rt_n {q : PV} {l : List PV} (hp : Rf ((p :: q :: l).all per2 = true)) (hk : KK (.tup (p :: q :: l)) []) : RtG KK s (p :: q :: l) := fun rs e hl => r_pern ⟨hl⟩ hp hk
end
/-! calls -/
def CaG (P : Program) (Z : Bs) (pr : List Operand) (cs : List CO) (K : Env → List OB → Prop) (e : Env) (s : List OB) (d : Option Nat) (kp : Bool) (f : FuncId) (ps : List PV) : Prop := ∀ xs, xs.map (evE e) = ps → pops P Z pr (⟨d, none, kp, .e (.cal (.func f) xs)⟩ :: cs) K e s
theorem g_ca {f : FuncId} {xs : List Operand} {ps : List PV} (ha : Mp (xs.map (evE e) = ps)) (hk : CaG P Z pr cs K e s d kp f ps) : pops P Z pr (⟨d, none, kp, .e (.cal (.func f) xs)⟩ :: cs) K e s := hk xs ha.o
theorem ca_P {f : FuncId} {ps : List PV} (hper : Rf (ps.all per3 = true)) (hk : PCalls P f ps [] (Aft P Z pr cs K e s d)) : CaG P Z pr cs K e s d kp f ps := fun xs ha => q_call ⟨ha⟩ hper hk
theorem ca_F {f : FuncId} {ps : List PV} (hkp : Rf (kp = false)) (hk : PCalls P f ps s (fun p s' => pops P Z pr cs K (putE e d p) s')) : CaG P Z pr cs K e s d kp f ps := fun xs ha => q_callF (fx := .func f) (pa := []) (pb := []) ⟨rfl⟩ ⟨ha⟩ ⟨by simp⟩ hkp hk
/-! what may be told otherwise -/
theorem gh_arr (b : Nat) (D' : D) {l' : List D'.T} (hb : Rf (s[b]? = some (.row es n c))) (he : Rf (Nat.beq D'.sz es = true)) (hd : Rf (decs D' n c = some l')) (h0 : Rf (Nat.blt 0 es = true)) (hs : Pu (s.set b (.arr D' l') = s')) : Gh Z e s e s' := by
  have he := Nat.eq_of_beq_eq_true he.o
  subst he
  rw [← hs.o]
  exact Gh.arr D' hb.o hd.o (Nat.le_of_ble_eq_true h0.o)
theorem gh_virt (t : Nat) (D' : D) (hx : Lk (evE e (.tmp t) = .nilS)) (hd : Rf (Nat.blt 0 D'.sz = true)) (hn : Pu (s.length = n)) (hs : Pu (s ++ [.arr D' []] = s')) : Gh Z e s (putE e (some t) (.osl n 0)) s' := by
  rw [← hs.o, ← hn.o]
  exact Gh.virt D' hx.o (Nat.le_of_ble_eq_true hd.o)
theorem gh_frz (t : Nat) {l : List D'.T} (hx : Lk (evE e (.tmp t) = .osl b n)) (hb : Rf (s[b]? = some (.arr D' l))) (hn : Om (n = l.length)) (hs : Pu (s.set b .dead = s')) : Gh Z e s (putE e (some t) (.sl D' l)) s' := by
  rw [← hs.o]
  exact Gh.frz hx.o hb.o hn.o
theorem gh_nil (t : Nat) (D' : D) (hx : Lk (evE e (.tmp t) = .nilS)) : Gh Z e s (putE e (some t) (.sl D' [])) s := Gh.nil D' hx.o
theorem o_arr (b : Nat) (D' : D) {l' : List D'.T} (hb : Rf (s[b]? = some (.row es n c))) (he : Rf (Nat.beq D'.sz es = true)) (hd : Rf (decs D' n c = some l')) (h0 : Rf (Nat.blt 0 es = true)) (hs : Pu (s.set b (.arr D' l') = s')) (hk : pops P Z pr cs K e s') : pops P Z pr cs K e s := ghO (gh_arr b D' hb he hd h0 hs) hk
theorem x_arr {a : AC} (b : Nat) (D' : D) {l' : List D'.T} (hb : Rf (s[b]? = some (.row es n c))) (he : Rf (Nat.beq D'.sz es = true)) (hd : Rf (decs D' n c = some l')) (h0 : Rf (Nat.blt 0 es = true)) (hs : Pu (s.set b (.arr D' l') = s')) (hk : pwp P Z a Q e s') : pwp P Z a Q e s := ghW (gh_arr b D' hb he hd h0 hs) hk
theorem o_virt (t : Nat) (D' : D) (hx : Lk (evE e (.tmp t) = .nilS)) (hd : Rf (Nat.blt 0 D'.sz = true)) (hn : Pu (s.length = n)) (hs : Pu (s ++ [.arr D' []] = s')) (hk : pops P Z pr cs K (putE e (some t) (.osl n 0)) s') : pops P Z pr cs K e s := ghO (gh_virt t D' hx hd hn hs) hk
theorem x_virt {a : AC} (t : Nat) (D' : D) (hx : Lk (evE e (.tmp t) = .nilS)) (hd : Rf (Nat.blt 0 D'.sz = true)) (hn : Pu (s.length = n)) (hs : Pu (s ++ [.arr D' []] = s')) (hk : pwp P Z a Q (putE e (some t) (.osl n 0)) s') : pwp P Z a Q e s := ghW (gh_virt t D' hx hd hn hs) hk
theorem o_frz (t : Nat) {l : List D'.T} (hx : Lk (evE e (.tmp t) = .osl b n)) (hb : Rf (s[b]? = some (.arr D' l))) (hn : Om (n = l.length)) (hs : Pu (s.set b .dead = s')) (hk : pops P Z pr cs K (putE e (some t) (.sl D' l)) s') : pops P Z pr cs K e s := ghO (gh_frz t hx hb hn hs) hk
theorem x_frz {a : AC} (t : Nat) {l : List D'.T} (hx : Lk (evE e (.tmp t) = .osl b n)) (hb : Rf (s[b]? = some (.arr D' l))) (hn : Om (n = l.length)) (hs : Pu (s.set b .dead = s')) (hk : pwp P Z a Q (putE e (some t) (.sl D' l)) s') : pwp P Z a Q e s := ghW (gh_frz t hx hb hn hs) hk
theorem o_nil (t : Nat) (D' : D) (hx : Lk (evE e (.tmp t) = .nilS)) (hk : pops P Z pr cs K (putE e (some t) (.sl D' [])) s) : pops P Z pr cs K e s := ghO (gh_nil t D' hx) hk
theorem x_nil {a : AC} (t : Nat) (D' : D) (hx : Lk (evE e (.tmp t) = .nilS)) (hk : pwp P Z a Q (putE e (some t) (.sl D' [])) s) : pwp P Z a Q e s := ghW (gh_nil t D' hx) hk
theorem hz0 (hZ : Z.s = []) {js : List Nat} (b : Nat) (hb : b < Z.s.length) : js[b]? = some b := by
  rw [hZ] at hb
  exact absurd hb (Nat.not_lt_zero b)
/-! rows of known cells handed over: what they are lists of -/
def kindOf : List PV → Option D
  | .int k _ :: _ => some (.int k)
  | .bool _ :: _ => some .bool
  | .str _ :: _ => some .str
  | _ => none
/-- What is handed over, as data. -/
inductive Cv : List OB → List PV → List PV → List OB → Prop where
  | z {s : List OB} : Cv s [] [] s
  | p {s s1 : List OB} {p : PV} {l l' : List PV} (h : Rf (per3 p = true)) (k : Cv s l l' s1) : Cv s (p :: l) (p :: l') s1
  | a {s s1 s2 : List OB} {b n : Nat} {d : D} {x : List d.T} {l l' : List PV} (hb : Rf (s[b]? = some (.arr d x))) (hn : Om (n = x.length)) (hs : Pu (s.set b .dead = s2)) (k : Cv s2 l l' s1) : Cv s (.osl b n :: l) (.sl d x :: l') s1
  | r {s s1 s2 : List OB} {b n es : Nat} {d : D} {c : List PV} {x : List d.T} {l l' : List PV} (hb : Rf (s[b]? = some (.row es n c))) (hk : Rf (kindOf c = some d)) (he : Rf (Nat.beq d.sz es = true)) (h0 : Rf (Nat.blt 0 es = true)) (hd : Rf (decs d n c = some x)) (hs : Pu (s.set b .dead = s2)) (k : Cv s2 l l' s1) : Cv s (.osl b n :: l) (.sl d x :: l') s1
  | n {s s1 : List OB} (d : D) {l l' : List PV} (k : Cv s l l' s1) : Cv s (.nilS :: l) (.sl d [] :: l') s1
theorem Cv.ok {Z : Bs} {h : Hp} {s s1 : List OB} {ps ps' : List PV} (c : Cv s ps ps' s1) : ∀ {E : Nat → Bool} {i : Nat → Option Nat} {vs : List Value}, SR Z h E i s → PRs ⟨Hp.mask h E, i, s⟩ ps vs →
    ∃ E' i', SR Z h E' i' s1 ∧ Cx.le ⟨Hp.mask h E, i, s⟩ ⟨Hp.mask h E', i', s1⟩ ∧ PRs ⟨Hp.mask h E', i', s1⟩ ps' vs ∧ ps'.all per3 = true := by
  induction c with
  | z =>
    intro E i vs S A
    exact ⟨E, i, S, .refl _, A, rfl⟩
  | p hp _ ih =>
    intro E i vs S A
    obtain ⟨v, t, rfl, h1, h2⟩ := A.uncons
    obtain ⟨E', i', S', le', A', p'⟩ := ih S h2
    exact ⟨E', i', S', le', .cons (h1.mono le') A', by rw [List.all_cons, hp.o, p']; rfl⟩
  | a hb hn hs _ ih =>
    intro E i vs S A
    obtain ⟨v, t, rfl, h1, h2⟩ := A.uncons
    obtain ⟨S1, le1⟩ := S.free hb.o rfl
    have h3 := frz_is S hb.o hn.o h1
    rw [hs.o] at S1 le1 h3
    obtain ⟨E', i', S', le', A', p'⟩ := ih S1 (h2.mono le1)
    exact ⟨E', i', S', le1.trans le', .cons (h3.mono le') A', by rw [List.all_cons, p']; rfl⟩
  | @r s s1 s2 b n es d c x l l' hb hk he h0 hd hs _ ih =>
    intro E i vs S A
    obtain ⟨v, t, rfl, h1, h2⟩ := A.uncons
    have he := Nat.eq_of_beq_eq_true he.o
    subst he
    obtain ⟨k, cs, k1, k2, k3, k4, k5, k6⟩ := S.ob b _ hb.o
    obtain ⟨q1, q2⟩ := decs_is n _ _ _ hd.o k6
    obtain ⟨S1, le1⟩ := S.free hb.o rfl
    have h3 : PR ⟨Hp.mask h (fun b' => if i b = some b' then false else E b'), ups i b none, s.set b .dead⟩ (.sl d x) v := by
      rcases h1.osl_inv _ _ ⟨_, hb.o, rfl⟩ with hh | ⟨-, c', hc, hv⟩
      · omega
      · have k1 : i b = some k := k1
        simp only [k1, slV] at hv
        have hul := Chunks_len q1
        rw [hv]
        refine .sl d x _ ⟨some ⟨k, 0, none⟩, c', cs, by rw [q2], by omega, ?_, ChMono (Is_mono le1.m d) q1⟩
        show rowV (Hp.mask h (fun b' => if i b = some b' then false else E b')) d.sz (.slice (some ⟨k, 0, none⟩) x.length c') = some cs
        refine blk_row ?_ hul
        rw [mask_blk, k3]
        simp [k1]
    rw [hs.o] at S1 le1 h3
    obtain ⟨E', i', S', le', A', p'⟩ := ih S1 (h2.mono le1)
    exact ⟨E', i', S', le1.trans le', .cons (h3.mono le') A', by rw [List.all_cons, p']; rfl⟩
  | n d _ ih =>
    intro E i vs S A
    obtain ⟨v, t, rfl, h1, h2⟩ := A.uncons
    obtain ⟨E', i', S', le', A', p'⟩ := ih S h2
    refine ⟨E', i', S', le', .cons ?_ A', by rw [List.all_cons, p']; rfl⟩
    rw [h1.nilS_inv]
    exact .sl d [] _ (Is_nilS _ d)
theorem ca_V {f : FuncId} {ps ps' : List PV} {s1 : List OB} (hv : Cv s ps ps' s1) (hk : PCalls P f ps' [] (Aft P Z pr cs K e s1 d)) : CaG P Z pr cs K e s d kp f ps := fun xs ha fr h ⟨E, i, S, R⟩ => by
  obtain ⟨E1, i1, S1, le1, A1, hper⟩ := hv.ok S (R.map ha)
  have A := perL (X := ⟨Hp.mask h E1, i1, s1⟩) (Y := ⟨Hp.mask h E1, i1, []⟩) (fun p v q => per3_PR q (.refl _)) hper A1
  have S0 : SR ⟨h, E1, i1, []⟩ h E1 i1 [] := ⟨fun id o h => by simp at h, fun _ _ _ _ _ h => by simp at h, rfl, Nat.le_refl _, fun b k hb _ => ⟨hb, rfl⟩, fun b ⟨id, o, ho, _⟩ => by simp at ho, .refl _⟩
  refine s_call ((hk h E1 i1 _ S0 A).mono fun v h' ⟨p, t, E', i', ⟨k1, k2, k3⟩, T, hp⟩ => ?_)
  obtain ⟨S', hkp⟩ := S1.frame T k2
  exact ⟨fun _ => hkp, k3 _ _ ⟨E', _, S1.after S', ((R.mono le1).mono S'.le).put (shP_PR k1 hp)⟩⟩
/-- a row of known cells returned -/
theorem w_row {a : AC} (b : Nat) {x : List D'.T} (hb : Rf (s[b]? = some (.row es n c))) (hk1 : Rf (kindOf c = some D')) (he : Rf (Nat.beq D'.sz es = true)) (hd : Rf (decs D' n c = some x)) (h0 : Rf (Nat.blt 0 es = true)) (hs : Pu (s.set b (.arr D' x) = s')) (hk : pwp P Z a Q e s') : pwp P Z a Q e s := x_arr b D' hb he hd h0 hs hk
end
end Go.Proofs.Ytalhipbbomagoaa.Pv
