/- A heap of plain values, walks over it, and functions of the program met by them: no statement of the set is proved in this text. -/
import Derived.OrdersHeld
import Derived.LoopN
import Derived.Scope
import Derived.ScopeJumps
import Derived.WalkKit
set_option linter.unusedVariables false
set_option linter.unusedSimpArgs false
set_option maxRecDepth 100000
set_option maxHeartbeats 4000000
section
namespace Go.Proofs.Ytcffpnlochillaa.Ab
open Go.RowKit
structure Blk where
  cells:List Value
  es:Nat
  live:Bool

structure Hp where
  old:World
  new:List Blk
def Hp.next (h:Hp):Nat:=h.old.heap.size+h.new.length
def Hp.blk? (h:Hp) (b:Nat):Option Blk:=if b < h.old.heap.size then none else h.new[b - h.old.heap.size]?

def absV (base:Nat):Value→Option Value
  | .slice (some a) n c=>if a.block < base then some (.slice (some a) n c) else if n=0 then some (.slice (some ⟨a.block,0,some 0⟩) 0 1) else none
  | .pointer (some a)=>if a.block < base then some (.pointer (some a)) else none
  | .bool b=>some (.bool b)
  | .int k n=>some (.int k n)
  | .string s=>some (.string s)
  | .slice none n c=>some (.slice none n c)
  | .pointer none=>some (.pointer none)
  | .nilIface=>some .nilIface
  | .nilFunc=>some .nilFunc
  | _=>none
def Hp.cell? (h:Hp) (a:Addr):Option Value :=
  if a.block < h.old.heap.size then (h.old.cell? a).bind (absV h.old.heap.size)
  else if a.spot.isSome then none
  else match h.blk? a.block with
    | some k=>if k.live then k.cells[a.off]? else none
    | none=>none
def Hp.cellsFrom (h:Hp) (a:Addr):(i n:Nat)→Option (List Value)
  | _,0=>some []
  | i, n + 1 => match h.cell? (a.add i) with
    | some v=>(h.cellsFrom a (i+1) n).map (v::·)
    | none=>none
def Hp.cells? (h:Hp) (a:Addr) (n:Nat):Option (List Value):=h.cellsFrom a 0 n
def Hp.push (h:Hp) (k:Blk):Hp:=⟨h.old,h.new++[k]⟩
def Hp.pushO (h:Hp):Option Blk→Hp
  | none=>h
  | some k=>h.push k
def Hp.setBlk (h:Hp) (b:Nat) (k:Blk):Hp:=⟨h.old,h.new.set (b - h.old.heap.size) k⟩
def putAt (cs:List Value) (off:Nat):List Value→List Value
  | []=>cs
  | v::vs=>putAt (cs.set off v) (off+1) vs

def Hp.write (h:Hp) (a:Addr) (vs:List Value):Option Hp :=
  match h.blk? a.block with
  | some k=>if k.live=true∧a.spot=none∧a.off+vs.length≤k.cells.length∧vs.all (·.oneCell')=true then some (h.setBlk a.block { k with cells:=putAt k.cells a.off vs }) else none
  | none=>none
def Hp.kill (h:Hp) (b:Nat):Hp:=match h.blk? b with
  | some k=>h.setBlk b { k with live:=false }
  | none=>h

structure AR where
  base:Nat
  rho:Nat→Option (Nat×Nat×Nat)
  dead:Nat→Prop
inductive AddrR (R:AR):Addr→Addr→Prop
  | old (a:Addr) (h:a.block < R.base):AddrR R a a
  | new (b o cb cs cc:Nat) (h:R.base≤b) (hr:R.rho b=some (cb,cs,cc)):AddrR R ⟨b,o,none⟩ ⟨cb,o,none⟩
  | dead (a a':Addr) (h:R.base≤a.block) (hd:R.dead a.block):AddrR R a a'
  | junk (a a':Addr) (h:R.base≤a.block) (hs:a.spot.isSome=true):AddrR R a a'

inductive SlR (R:AR):Addr→Nat→Nat→Addr→Nat→Prop
  | old (a:Addr) (n c:Nat) (h:a.block < R.base):SlR R a n c a c
  | new (b o n c cb cs cc c':Nat) (h:R.base≤b) (hr:R.rho b=some (cb,cs,cc)) (h1:n≤c') (h2:c=n→c'=n) (h3:c=n+1→o=0→c'=cc):SlR R ⟨b,o,none⟩ n c ⟨cb,o,none⟩ c'
  | dead (a a':Addr) (n c c':Nat) (h:R.base≤a.block) (hd:R.dead a.block) (h1:n≤c') (h2:c=n→c'=n):SlR R a n c a' c'
  | junk (a a':Addr) (c':Nat) (h:R.base≤a.block) (hs:a.spot.isSome=true):SlR R a 0 1 a' c'
inductive VR (R:AR):Value→Value→Prop
  | bool (b:Bool):VR R (.bool b) (.bool b)
  | int (k:IntKind) (n:Int):VR R (.int k n) (.int k n)
  | float (k:FloatKind) (n:Nat):VR R (.float k n) (.float k n)
  | complex (k:FloatKind) (a b:Nat):VR R (.complex k a b) (.complex k a b)
  | string (s:ByteArray):VR R (.string s) (.string s)
  | nilp:VR R (.pointer none) (.pointer none)
  | ptr (a a':Addr) (h:AddrR R a a'):VR R (.pointer (some a)) (.pointer (some a'))
  | nils (n c:Nat):VR R (.slice none n c) (.slice none n c)
  | sl (a a':Addr) (n c c':Nat) (h:SlR R a n c a' c'):VR R (.slice (some a) n c) (.slice (some a') n c')
  | nilm:VR R (.map none) (.map none)
  | oldm (r:Nat) (h:r < R.base):VR R (.map (some r)) (.map (some r))
  | nilc:VR R (.chan none) (.chan none)
  | nilFunc:VR R .nilFunc .nilFunc
  | nilIface:VR R .nilIface .nilIface
  | iface (t:TypeId) (v v':Value) (h:VR R v v'):VR R (.iface t v) (.iface t v')
  | func (fn:Fn) (a a' b b':Array Value) (ha:a.size=a'.size) (hb:b.size=b'.size) (ka:∀ (i:Nat) v v',a[i]? = some v→a'[i]? = some v'→VR R v v') (kb:∀ (i:Nat) v v',b[i]? = some v→b'[i]? = some v'→VR R v v'):VR R (.func fn a b) (.func fn a' b')
  | agg (a a':Array Value) (ha:a.size=a'.size) (ka:∀ (i:Nat) v v',a[i]? = some v→a'[i]? = some v'→VR R v v'):VR R (.agg a) (.agg a')
  | tuple (a a':Array Value) (ha:a.size=a'.size) (ka:∀ (i:Nat) v v',a[i]? = some v→a'[i]? = some v'→VR R v v'):VR R (.tuple a) (.tuple a')

structure AR.le (R R':AR):Prop where
  base:R'.base=R.base
  rho:∀ b e,R.rho b=some e→R'.rho b=some e∨R'.dead b
  dead:∀ b,R.dead b→R'.dead b
theorem AR.le.refl (R:AR):R.le R:=⟨rfl,fun _ _ h=>.inl h,fun _ h=>h⟩
theorem AR.le.trans {R S T:AR} (h:R.le S) (k:S.le T):R.le T :=
  ⟨k.base.trans h.base,fun b e hb=>(h.rho b e hb).elim (k.rho b e) (fun hd=>.inr (k.dead b hd)),fun b hb=>k.dead b (h.dead b hb)⟩
theorem AddrR.mono {R R':AR} (hle:R.le R') {a a':Addr} (h:AddrR R a a'):AddrR R' a a':=by
  cases h with
  | old _ h=>exact .old _ (hle.base ▸ h)
  | new b o cb cs cc h hr =>
    rcases hle.rho _ _ hr with h2 | h2
    · exact .new _ _ _ _ _ (hle.base ▸ h) h2
    · exact .dead _ _ (by rw [hle.base];exact h) h2
  | dead _ _ h hd=>exact .dead _ _ (hle.base ▸ h) (hle.dead _ hd)
  | junk _ _ h hs=>exact .junk _ _ (hle.base ▸ h) hs
theorem SlR.mono {R R':AR} (hle:R.le R') {a a':Addr} {n c c':Nat} (h:SlR R a n c a' c'):SlR R' a n c a' c':=by
  cases h with
  | old _ _ _ h=>exact .old _ _ _ (hle.base ▸ h)
  | new b o _ _ cb cs cc _ h hr h1 h2 h3 =>
    rcases hle.rho _ _ hr with k | k
    · exact .new _ _ _ _ _ _ _ _ (hle.base ▸ h) k h1 h2 h3
    · exact .dead _ _ _ _ _ (by rw [hle.base];exact h) k h1 h2
  | dead _ _ _ _ _ h hd h1 h2=>exact .dead _ _ _ _ _ (hle.base ▸ h) (hle.dead _ hd) h1 h2
  | junk _ _ _ h hs=>exact .junk _ _ _ (hle.base ▸ h) hs
theorem VR.mono {R R':AR} (hle:R.le R') {v v':Value} (h:VR R v v'):VR R' v v':=by
  induction h with
  | ptr a a' h=>exact .ptr _ _ (h.mono hle)
  | sl a a' n c c' h=>exact .sl _ _ _ _ _ (h.mono hle)
  | oldm r h=>exact .oldm _ (hle.base ▸ h)
  | iface t v v' _ ih=>exact .iface _ _ _ ih
  | func fn a a' b b' ha hb _ _ ka kb=>exact .func _ _ _ _ _ ha hb ka kb
  | agg a a' ha _ ka=>exact .agg _ _ ha ka
  | tuple a a' ha _ ka=>exact .tuple _ _ ha ka
  | _=>constructor

def VRs (R:AR) (l l':List Value):Prop:=l.length=l'.length∧∀ (i:Nat) v v',l[i]? = some v→l'[i]? = some v'→VR R v v'
theorem VRs.nil (R:AR):VRs R [] []:=⟨rfl,fun i v v' h=>by simp at h⟩
theorem VRs.cons {R:AR} {v v':Value} {l l':List Value} (h:VR R v v') (k:VRs R l l'):VRs R (v::l) (v'::l'):=by
  refine ⟨by simp [k.1],fun i x x' hx hx'=>?_⟩
  cases i with
  | zero=>simp at hx hx';subst hx hx';exact h
  | succ i=>simp at hx hx';exact k.2 i x x' hx hx'
theorem VRs.uncons {R:AR} {v:Value} {l l':List Value} (h:VRs R (v::l) l'):∃ v' t',l'=v'::t'∧VR R v v'∧VRs R l t':=by
  cases l' with
  | nil=>simp [VRs] at h
  | cons v' t'=>exact ⟨v',t',rfl,h.2 0 v v' rfl rfl,by have:=h.1;simpa using this,fun i x x' hx hx'=>h.2 (i+1) x x' (by simpa using hx) (by simpa using hx')⟩
theorem VRs.append {R:AR} {a a' b b':List Value} (h:VRs R a a') (k:VRs R b b'):VRs R (a++b) (a'++b'):=by
  induction a generalizing a' with
  | nil =>
    cases a' with
    | nil=>exact k
    | cons _ _=>simp [VRs] at h
  | cons v a ih =>
    obtain ⟨v',t',rfl,h1,h2⟩:=h.uncons
    exact .cons h1 (ih h2)

def FzOk (cs:Nat) (fz:Nat×Nat):Prop:=fz.1≤fz.2∧∀ o,o < cs→¬ (fz.1≤o∧o < fz.2)
theorem FzOk.zero (cs:Nat):FzOk cs (0,0):=⟨Nat.le_refl _,fun o _ h=>Nat.not_lt_zero _ h.2⟩
theorem FzOk.behind (cs:Nat):FzOk cs (cs,cs+1):=⟨Nat.le_succ _,fun o h k=>Nat.lt_irrefl _ (Nat.lt_of_lt_of_le h k.1)⟩

structure BlkR (R:AR) (k:Blk) (w:World) (cb cs cc:Nat):Prop where
  live:k.live=true
  lo:R.base≤cb
  room:cc * k.es≤cs
  len:k.cells.length≤cs
  one:k.cells.all (·.oneCell')=true
  mem:∃ (c:Array Value) (t:TypeId) (fz:Nat×Nat),w.heap[cb]? = some (.cells c t fz)∧c.size=cs∧FzOk cs fz∧∀ (o:Nat) v v',k.cells[o]? = some v→c[o]? = some v'→VR R v v'
structure Rel (R:AR) (h:Hp) (w:World):Prop where
  base:R.base=h.old.heap.size
  below:Below h.old.heap.size h.old w
  dead:∀ b,R.dead b→R.rho b=none∧∃ k,h.blk? b=some k∧k.live=false
  blk:∀ b cb cs cc,R.rho b=some (cb,cs,cc)→R.base≤b∧∃ k,h.blk? b=some k∧BlkR R k w cb cs cc
  inj:∀ b b' e e',R.rho b=some e→R.rho b'=some e'→e.1=e'.1→b=b'

structure Step (R:AR) (h:Hp) (R':AR) (h':Hp) (w':World):Prop where
  le:R.le R'
  rel:Rel R' h' w'
  old:h'.old=h.old
  next:h.next≤h'.next
  new:∀ b e,R'.rho b=some e→R.rho b=some e∨h.next≤b
theorem Step.refl {R:AR} {h:Hp} {w:World} (hr:Rel R h w):Step R h R h w:=⟨.refl R,hr,rfl,Nat.le_refl _,fun _ _ h=>.inl h⟩
theorem Step.trans {R R' R2:AR} {h h' h2:Hp} {w' w2:World} (s:Step R h R' h' w') (t:Step R' h' R2 h2 w2):Step R h R2 h2 w2 :=
  ⟨s.le.trans t.le,t.rel,t.old.trans s.old,Nat.le_trans s.next t.next,fun b e hb=>(t.new b e hb).elim (s.new b e) (fun h=>.inr (Nat.le_trans s.next h))⟩
theorem Hp.blk_lt {h:Hp} {b:Nat} {k:Blk} (hb:h.blk? b=some k):h.old.heap.size≤b∧b < h.next:=by
  unfold Hp.blk? at hb
  split at hb
  · simp at hb
  · rename_i hlt
    have:=(List.getElem?_eq_some_iff.1 hb).1
    unfold Hp.next
    omega
theorem absV_VR {R:AR} {v u:Value} (h:absV R.base v=some u):VR R u v:=by
  unfold absV at h
  split at h
  · split at h
    · rename_i hb
      obtain rfl:=Option.some.inj h
      exact .sl _ _ _ _ _ (.old _ _ _ hb)
    · rename_i hb
      split at h
      · rename_i hn
        subst hn
        obtain rfl:=Option.some.inj h
        exact .sl _ _ _ _ _ (.junk _ _ _ (by simpa using hb) rfl)
      · simp at h
  · split at h
    · rename_i hb
      obtain rfl:=Option.some.inj h
      exact .ptr _ _ (.old _ hb)
    · simp at h
  all_goals first
    | (obtain rfl:=Option.some.inj h;constructor)
    | simp at h
theorem absV_one {b:Nat} {v u:Value} (h:absV b v=some u):u.oneCell'=true:=by
  unfold absV at h
  (repeat' split at h) <;> first | (obtain rfl:=Option.some.inj h;rfl) | simp at h

theorem Rel.cell {R:AR} {h:Hp} {w:World} (hr:Rel R h w) {a a':Addr} (ha:AddrR R a a') {v:Value} (hc:h.cell? a=some v):∃ v',w.cell? a'=some v'∧VR R v v'∧v.oneCell'=true:=by
  unfold Hp.cell? at hc
  cases ha with
  | old _ hb =>
    rw [if_pos (hr.base ▸ hb)] at hc
    obtain ⟨u,hu,hv⟩:=Option.bind_eq_some_iff.1 hc
    rw [← hr.base] at hv
    exact ⟨u,(hr.below.cell (hr.base ▸ hb)).trans hu,absV_VR hv,absV_one hv⟩
  | new b o cb cs cc hb hrho =>
    have hb':=hb
    rw [hr.base] at hb'
    rw [if_neg (by simpa using hb')] at hc
    obtain ⟨-,k,hk,hbr⟩:=hr.blk _ _ _ _ hrho
    simp only [hk,Option.isSome_none,Bool.false_eq_true,if_false,hbr.live,if_true] at hc
    obtain ⟨c,t,fz,hm,hs,hf,hv⟩:=hbr.mem
    have ho:=(List.getElem?_eq_some_iff.1 hc).1
    have hl:=hbr.len
    have hlt:o < c.size:=by omega
    refine ⟨c[o],?_,hv o v _ hc (by simp [hlt]),List.all_eq_true.1 hbr.one _ (List.mem_of_getElem? hc)⟩
    simp [World.cell?,hm,hlt]
  | dead _ _ hb hd =>
    rw [if_neg (by rw [← hr.base];omega)] at hc
    cases hk:h.blk? a.block with
    | none=>simp [hk] at hc
    | some k =>
      obtain ⟨k2,h2,h3⟩:=(hr.dead _ hd).2
      rw [hk] at h2
      obtain rfl:=Option.some.inj h2
      simp [hk,h3] at hc
  | junk _ _ hb hs =>
    rw [if_neg (by rw [← hr.base];omega),if_pos hs] at hc
    simp at hc
theorem AddrR.add {R:AR} {a a':Addr} (h:AddrR R a a') (hj:¬ (R.base≤a.block∧a.spot.isSome=true)) (n:Nat):AddrR R (a.add n) (a'.add n):=by
  cases h with
  | old _ hb =>
    refine .old _ ?_
    unfold Addr.add
    split <;> exact hb
  | new b o cb cs cc hb hr =>
    unfold Addr.add
    split
    · exact .new _ _ _ _ _ hb hr
    · exact .new _ _ _ _ _ hb hr
  | dead _ _ hb hd =>
    unfold Addr.add
    split
    · exact .dead _ _ hb hd
    · exact .dead _ _ hb hd
  | junk _ _ hb hs=>exact absurd ⟨hb,hs⟩ hj
theorem Rel.cellsFrom {R:AR} {h:Hp} {w:World} (hr:Rel R h w) {a a':Addr} (ha:AddrR R a a') (hj:¬ (R.base≤a.block∧a.spot.isSome=true)):∀ (n i:Nat) (l:List Value),h.cellsFrom a i n=some l →
    ∃ l',VRs R l l'∧l.all (·.oneCell')=true∧l'.length=n∧∀ j v,l'[j]? = some v→w.cell? (a'.add (i+j))=some v
  | 0, i, l, hl => by
    simp [Hp.cellsFrom] at hl
    subst hl
    exact ⟨[],.nil R,rfl,rfl,by simp⟩
  | n + 1, i, l, hl => by
    simp only [Hp.cellsFrom] at hl
    cases hc:h.cell? (a.add i) with
    | none=>simp [hc] at hl
    | some v =>
      simp only [hc] at hl
      obtain ⟨t,ht,rfl⟩:=Option.map_eq_some_iff.1 hl
      obtain ⟨v',hw,hv,ho⟩:=hr.cell (ha.add hj i) hc
      obtain ⟨t',h1,h1o,h2,h3⟩:=hr.cellsFrom ha hj n (i+1) t ht
      refine ⟨v'::t',.cons hv h1,by simp only [List.all_cons,ho,h1o,Bool.and_self],by simp [h2],fun j u hj=>?_⟩
      cases j with
      | zero=>simp at hj;subst hj;simpa using hw
      | succ j=>simp at hj;have:=h3 j u hj;rwa [show i+(j+1)=i+1+j by omega]
theorem Rel.cells {R:AR} {h:Hp} {w:World} (P:Program) (hr:Rel R h w) {a a':Addr} (ha:AddrR R a a') {n:Nat} {l:List Value} (hl:h.cells? a n=some l) :
    ∃ l',VRs R l l'∧l.all (·.oneCell')=true∧l'.length=n∧(loadCells a' n).run P w = .ok l'.toArray w:=by
  have key:∃ l',VRs R l l'∧l.all (·.oneCell')=true∧l'.length=n∧∀ j v,l'[j]? = some v→w.cell? (a'.add (0+j))=some v:=by
    by_cases hj:R.base≤a.block∧a.spot.isSome=true
    · cases n with
      | zero =>
        simp [Hp.cells?,Hp.cellsFrom] at hl
        subst hl
        exact ⟨[],.nil R,rfl,rfl,by simp⟩
      | succ n =>
        have:h.cell? (a.add 0)=none:=by
          show h.cell? a=none
          unfold Hp.cell?
          rw [if_neg (by have:=hj.1;rw [hr.base] at this;omega),if_pos hj.2]
        simp [Hp.cells?,Hp.cellsFrom,this] at hl
    · exact hr.cellsFrom ha hj n 0 l hl
  obtain ⟨l',h1,h1o,h2,h3⟩:=key
  refine ⟨l',h1,h1o,h2,?_⟩
  have:=run_loadCells_list (P:=P) w a' l' (fun j v hj=>by simpa using h3 j v hj)
  rwa [h2] at this
def AR.add (R:AR) (id:Nat) (e:Nat×Nat×Nat):AR:=⟨R.base,fun b=>if b=id then some e else R.rho b,R.dead⟩

theorem Rel.alloc {R:AR} {h:Hp} {w:World} (hr:Rel R h w) {id:Nat} {k:Blk} (hk:h.blk? id=some k) (hl:k.live=true) (hn:R.rho id=none)
    {c:Array Value} {t:TypeId} {fz:Nat×Nat} {cc:Nat} {w':World} (hh:w'.heap=w.heap.push (.cells c t fz)) (ho:w'.os=w.os) (ht:w'.tape=w.tape) (hp:w'.output=w.output)
    (hfz:FzOk c.size fz) (hroom:cc * k.es≤c.size) (hlen:k.cells.length≤c.size) (hone:k.cells.all (·.oneCell')=true) (hv:∀ (o:Nat) v v',k.cells[o]? = some v→c[o]? = some v'→VR R v v') :
    R.le (R.add id (w.heap.size,c.size,cc))∧Rel (R.add id (w.heap.size,c.size,cc)) h w':=by
  have hle:R.le (R.add id (w.heap.size,c.size,cc)):=by
    refine ⟨rfl,fun b e hb=>.inl ?_,fun b hb=>hb⟩
    show (if b=id then _ else R.rho b)=some e
    rw [if_neg (fun e=>by rw [e,hn] at hb;simp at hb)]
    exact hb
  have hsz:=hr.below.size
  refine ⟨hle,⟨hr.base,?_,fun b hb=>⟨?_,(hr.dead b hb).2⟩,fun b cb cs cc' hb=>?_,fun b b' e e' hb hb' he=>?_⟩⟩
  · refine ⟨ho.trans hr.below.os,ht.trans hr.below.tape,hp.trans hr.below.output,by rw [hh];simp;omega,fun j hj=>?_⟩
    rw [hh,Array.getElem?_push,if_neg (by omega)]
    exact hr.below.block j hj
  · show (if b=id then _ else R.rho b)=none
    rw [if_neg]
    · exact (hr.dead b hb).1
    · intro e
      subst e
      obtain ⟨k2,h2,h3⟩:=(hr.dead b hb).2
      rw [hk] at h2
      obtain rfl:=Option.some.inj h2
      rw [hl] at h3
      simp at h3
  · have hb2:(if b=id then some (w.heap.size,c.size,cc) else R.rho b)=some (cb,cs,cc'):=hb
    by_cases e:b=id
    · subst e
      rw [if_pos rfl] at hb2
      simp only [Option.some.injEq,Prod.mk.injEq] at hb2
      obtain ⟨rfl,rfl,rfl⟩:=hb2
      refine ⟨by show R.base≤b;rw [hr.base];exact (Hp.blk_lt hk).1,k,hk,hl,by show R.base≤_;rw [hr.base];exact hsz,hroom,hlen,hone,c,t,fz,?_,rfl,hfz,fun o v v' h1 h2=>(hv o v v' h1 h2).mono hle⟩
      rw [hh]
      simp
    · rw [if_neg e] at hb2
      obtain ⟨h0,k2,hk2,hb3⟩:=hr.blk _ _ _ _ hb2
      obtain ⟨c2,t2,fz2,hm,hs,hf,hv2⟩:=hb3.mem
      have hlt:cb < w.heap.size:=(Array.getElem?_eq_some_iff.1 hm).1
      refine ⟨h0,k2,hk2,hb3.live,hb3.lo,hb3.room,hb3.len,hb3.one,c2,t2,fz2,?_,hs,hf,fun o v v' h1 h2=>(hv2 o v v' h1 h2).mono hle⟩
      rw [hh,Array.getElem?_push,if_neg (by omega)]
      exact hm
  · have hb2:(if b=id then some (w.heap.size,c.size,cc) else R.rho b)=some e:=hb
    have hb3:(if b'=id then some (w.heap.size,c.size,cc) else R.rho b')=some e':=hb'
    have lt:∀ b e,R.rho b=some e→e.1 < w.heap.size:=fun b e hb=>by
      obtain ⟨cb,cs,cc⟩:=e
      obtain ⟨-,k2,-,hb3⟩:=hr.blk _ _ _ _ hb
      obtain ⟨c2,t2,fz2,hm,-⟩:=hb3.mem
      exact (Array.getElem?_eq_some_iff.1 hm).1
    by_cases h1:b=id <;> by_cases h2:b'=id
    · rw [h1,h2]
    · rw [if_pos h1] at hb2
      rw [if_neg h2] at hb3
      obtain rfl:=Option.some.inj hb2
      have:=lt _ _ hb3
      simp at he
      omega
    · rw [if_neg h1] at hb2
      rw [if_pos h2] at hb3
      obtain rfl:=Option.some.inj hb3
      have:=lt _ _ hb2
      simp at he
      omega
    · rw [if_neg h1] at hb2
      rw [if_neg h2] at hb3
      exact hr.inj _ _ _ _ hb2 hb3 he

theorem Hp.blk_push (h:Hp) (k:Blk):(h.push k).blk? h.next=some k:=by
  unfold Hp.blk? Hp.push Hp.next
  rw [if_neg (by simp)]
  simp
theorem Hp.blk_push_ne (h:Hp) (k:Blk) {b:Nat} (hb:b≠h.next):(h.push k).blk? b=h.blk? b:=by
  unfold Hp.blk? Hp.push
  unfold Hp.next at hb
  by_cases c:b < h.old.heap.size
  · simp [c]
  · simp only [c,if_false]
    rw [List.getElem?_append]
    by_cases c2:b - h.old.heap.size < h.new.length
    · rw [if_pos c2]
    · rw [if_neg c2,List.getElem?_eq_none (by simp;omega),List.getElem?_eq_none (by omega)]
theorem Hp.next_push (h:Hp) (k:Blk):(h.push k).next=h.next+1:=by
  simp [Hp.next,Hp.push]
  omega
theorem Hp.blk_next (h:Hp):h.blk? h.next=none:=by
  unfold Hp.blk? Hp.next
  rw [if_neg (by omega)]
  simp
theorem Rel.push {R:AR} {h:Hp} {w:World} (hr:Rel R h w) (k:Blk):Rel R (h.push k) w∧R.rho h.next=none:=by
  have hn:R.rho h.next=none:=by
    cases hb:R.rho h.next with
    | none=>rfl
    | some e =>
      obtain ⟨cb,cs,cc⟩:=e
      obtain ⟨-,k,hk,-⟩:=hr.blk _ _ _ _ hb
      rw [Hp.blk_next] at hk
      simp at hk
  refine ⟨⟨hr.base,hr.below,fun b hb=>⟨(hr.dead b hb).1,?_⟩,fun b cb cs cc hb=>?_,hr.inj⟩,hn⟩
  · obtain ⟨k2,h2,h3⟩:=(hr.dead b hb).2
    refine ⟨k2,?_,h3⟩
    rw [Hp.blk_push_ne _ _ (fun e=>by rw [e,Hp.blk_next] at h2;simp at h2)]
    exact h2
  · obtain ⟨h0,k2,hk2,hb3⟩:=hr.blk _ _ _ _ hb
    refine ⟨h0,k2,?_,hb3⟩
    rw [Hp.blk_push_ne _ _ (fun e=>by subst e;rw [hn] at hb;simp at hb)]
    exact hk2
end Go.Proofs.Ytcffpnlochillaa.Ab
namespace Go.Proofs.Ytcffpnlochillaa.Ab
open Go.RowKit
inductive FOp where
  | mv (x:Operand)
  | bin (op:BinOp) (x y:Operand)
  | eqB (ne:Bool) (x y:Operand)
  | eqI (ne:Bool) (x y:Operand)
  | eqN (tag:Nat) (ne:Bool) (x y:Operand)
  | eqS (ne:Bool) (t:TypeId) (x y:Operand)
  | un (op:UnOp) (x:Operand)
  | cvt (k:IntKind) (x:Operand)
  | str (x:Operand)
  | b2s (x:Operand)
  | s2b (x:Operand)
  | mkI (t:TypeId) (x:Operand)
  | mkF (fn:Fn) (a b:List Operand)
  | ext (x:Operand) (i:Nat)
  | fld (off:Nat) (n:Option Nat) (x:Operand)
  | fad (off:Nat) (x:Operand)
  | iad (size:Nat) (x i:Operand)
  | ixs (x i:Operand)
  | slS (x:Operand) (lo hi:Option Operand)
  | slc (size:Nat) (x:Operand) (lo hi:Option Operand)
  | ld (n:Option Nat) (x:Operand)
  | new (cells:List Value)
  | box (x:Operand)
  | mks (es bytes:Nat) (zero:List Value) (l c:Operand)
  | bsl (es:Nat) (xs:List Operand)
  | len (str:Bool) (x:Operand)
  | mn (x y:Operand)
  | mx (x y:Operand)
  | chk (x:Operand)
  | tas (t:TypeId) (ok:Bool) (zero:Value) (x:Operand)
  | pick (c a b:Operand)
  | bld (zero:List Value) (ps:List (Nat×Nat)) (xs:List Operand)
def FOp.reads:FOp→List Operand
  | .mv x | .un _ x | .cvt _ x | .str x | .b2s x | .s2b x | .mkI _ x | .ext x _ | .fld _ _ x | .fad _ x | .ld _ x | .box x | .len _ x | .chk x | .tas _ _ _ x=>[x]
  | .bin _ x y | .eqB _ x y | .eqI _ x y | .eqN _ _ x y | .eqS _ _ x y | .iad _ x y | .ixs x y | .mks _ _ _ x y | .mn x y | .mx x y=>[x,y]
  | .mkF _ a b=>a++b
  | .slS x lo hi | .slc _ x lo hi=>x::(lo.toList++hi.toList)
  | .new _=>[]
  | .bsl _ xs=>xs
  | .pick c a b=>[c,a,b]
  | .bld _ _ xs=>xs
def semPure:Sem Value→Option Value
  | .pure v=>some v
  | _=>none
def abin (op:BinOp):Value→Value→Option Value
  | .int k a,.int k' b=>semPure (binOp op 0 (.int k a) (.int k' b))
  | .string a,.string b=>semPure (binOp op 0 (.string a) (.string b))
  | _,_=>none
def nb (ne b:Bool):Bool:=if ne then !b else b
def isC:Operand→Bool
  | .const _=>true
  | _=>false

def cmpInt (P:Program) (t:TypeId):Bool :=
  match P.info? t,P.underlying t with
  | some i,some (.int _)=>i.comparable
  | _,_=>false
def aeqI (P:Program) (ne c:Bool):Value→Value→Option Value
  | .nilIface,.nilIface=>if c then some (.bool (nb ne true)) else none
  | .nilIface,.iface _ _=>some (.bool (nb ne false))
  | .iface _ _,.nilIface=>some (.bool (nb ne false))
  | .iface t v, .iface u x => if t ≠ u then some (.bool (nb ne false)) else
    match v,x with
    | .int k a,.int k' b=>if k=k'∧cmpInt P t=true then some (.bool (nb ne (a == b))) else none
    | _,_=>none
  | _,_=>none
def aeqN (tag:Nat) (ne:Bool):Value→Value→Option Value
  | .pointer a,.pointer none=>if tag=0 then some (.bool (nb ne a.isNone)) else none
  | .slice a _ _,.slice none _ _=>if tag=1 then some (.bool (nb ne a.isNone)) else none
  | .nilFunc,.nilFunc=>if tag=2 then some (.bool (nb ne true)) else none
  | .func _ _ _,.nilFunc=>if tag=2 then some (.bool (nb ne false)) else none
  | _,_=>none
def aun (op:UnOp):Value→Option Value
  | .int k n=>semPure (Op.unary op (.int k n))
  | .bool b=>semPure (Op.unary op (.bool b))
  | _=>none
def strOf:List Value→Option (List UInt8)
  | []=>some []
  | .int .u8 n::l=>(strOf l).map (UInt8.ofNat n.toNat::·)
  | _=>none
def bytesOf (s:ByteArray):List Value:=s.data.toList.map fun b=>.int .u8 b.toNat
def asI:Value→Option Int
  | .int _ n=>some n
  | _=>none

def cutB (len:Nat) (lo hi:Option Value):Option (Nat×Nat) :=
  match (match hi with | none=>some (len:Int) | some v=>asI v),(match lo with | none=>some 0 | some v=>asI v) with
  | some h,some l=>if 0≤l∧l≤h∧h≤len then some (l.toNat,h.toNat) else none
  | _,_=>none
def zerosOf (es:Nat) (zero:List Value) (n:Nat):List Value:=(List.range (n * es)).map fun i=>zero.getD (i % zero.length) undef
def flatOf (es:Nat):List Value→Option (List Value)
  | []=>some []
  | v::l=>if v.cells.size=es∧v.cells.toList.all (·.oneCell')=true then (flatOf es l).map (v.cells.toList++·) else none

def fillL:List Value→List (Nat×Nat)→List Value→Option (List Value)
  | cs,[],[]=>some cs
  | cs,(off,size)::ps,v::vs=>if v.cells.size=size∧off+size≤cs.length then fillL (putAt cs off v.cells.toList) ps vs else none
  | _,_,_=>none

def cutS (base size:Nat) (a:Option Addr) (n c l g:Nat):Value :=
  match a with
  | none=>.slice none (g - l) (c - l)
  | some a =>
    if a.block < base then .slice (some (if c=l then a else a.add (l * size))) (g - l) (c - l)
    else if l=0 then .slice (some a) g (if g=n then c else if c=n+1 then g+1 else g+2)
    else if g=l then .slice (some ⟨a.block,0,some 0⟩) 0 1
    else .slice (some (a.add (l * size))) (g - l) (if c=n∧g=n then g - l else g - l+2)
def FOp.run (P:Program) (ev:Operand→Value) (h:Hp) (id:Nat):FOp→Option (Value×Option Blk)
  | .mv x=>some (ev x,none)
  | .bin op x y=>(abin op (ev x) (ev y)).map (·,none)
  | .eqB ne x y => match ev x, ev y with
    | .bool a,.bool b=>some (.bool (nb ne (a == b)),none)
    | _,_=>none
  | .eqI ne x y=>(aeqI P ne (isC x || isC y) (ev x) (ev y)).map (·,none)
  | .eqN tag ne x y=>(aeqN tag ne (ev x) (ev y)).map (·,none)
  | .eqS _ _ _ _=>none
  | .un op x=>(aun op (ev x)).map (·,none)
  | .cvt k x => match ev x with
    | .int _ n=>some (.int k (k.wrap n),none)
    | _=>none
  | .str x => match ev x with
    | .string s=>some (.string s,none)
    | _=>none
  | .b2s x => match ev x with
    | .slice none _ _=>some (.string .empty,none)
    | .slice (some a) n _=>((h.cells? a n).bind strOf).map fun (l:List UInt8)=>(.string ⟨l.toArray⟩,none)
    | _=>none
  | .s2b x => match ev x with
    | .string s=>some (.slice (some ⟨id,0,none⟩) s.size (s.size+1),some ⟨bytesOf s,1,true⟩)
    | _=>none
  | .mkI t x=>some (.iface t (ev x),none)
  | .mkF fn a b=>some (.func fn (a.map ev).toArray (b.map ev).toArray,none)
  | .ext x i => match ev x with
    | .tuple vs=>vs[i]?.map (·,none)
    | _=>none
  | .fld off n x => match ev x with
    | .agg cs=>(match n with | some m=>some (Value.agg (cs.extract off (off+m))) | none=>cs[off]?).map (·,none)
    | _=>none
  | .fad off x => match ev x with
    | .pointer (some a)=>if a.spot.isSome then none else some (.pointer (some (a.add off)),none)
    | _=>none
  | .iad size x i => match ev x, ev i with
    | .slice (some a) n _,.int _ j=>if 0≤j∧j < n then some (.pointer (some (a.add (j.toNat * size))),none) else none
    | _,_=>none
  | .ixs x i => match ev x, ev i with
    | .string s,.int _ j=>if 0≤j then s[j.toNat]?.map fun b=>(.int .u8 b.toNat,none) else none
    | _,_=>none
  | .slS x lo hi => match ev x with
    | .string s=>(cutB s.size (lo.map ev) (hi.map ev)).map fun p=>(.string (s.extract p.1 p.2),none)
    | _=>none
  | .slc size x lo hi => match ev x with
    | .slice a n c=>if n≤c then (cutB n (lo.map ev) (hi.map ev)).map fun p=>(cutS h.old.heap.size size a n c p.1 p.2,none) else none
    | _=>none
  | .ld n x => match ev x with
    | .pointer (some a)=>(match n with | none=>h.cell? a | some m=>(h.cells? a m).map fun (l:List Value)=>Value.agg l.toArray).map (·,none)
    | _=>none
  | .new cells=>some (.pointer (some ⟨id,0,none⟩),some ⟨cells,0,true⟩)
  | .box x=>if (ev x).cells.toList.all (·.oneCell')=true then some (.pointer (some ⟨id,0,none⟩),some ⟨(ev x).cells.toList,0,true⟩) else none
  | .mks es bytes zero l c => match ev l, ev c with
    | .int _ n,.int _ m=>if n=m∧0≤n∧bytes * n≤2 ^ 48∧n < 2 ^ 62 then some (.slice (some ⟨id,0,none⟩) n.toNat n.toNat,some ⟨zerosOf es zero n.toNat,es,true⟩) else none
    | _,_=>none
  | .bsl es xs=>(flatOf es (xs.map ev)).map fun l=>(.slice (some ⟨id,0,none⟩) xs.length xs.length,some ⟨l,es,true⟩)
  | .len st x => match ev x with
    | .string s=>if st then some (.int .i64 s.size,none) else none
    | .slice _ n _=>if st then none else some (.int .i64 n,none)
    | _=>none
  | .mn x y => match ev x, ev y with
    | .int k a,.int _ b=>some (.int k (if b < a then b else a),none)
    | _,_=>none
  | .mx x y => match ev x, ev y with
    | .int k a,.int _ b=>some (.int k (if b > a then b else a),none)
    | _,_=>none
  | .chk x => match ev x with
    | .pointer (some a)=>some (.pointer (some a),none)
    | .func (.func f) a b=>some (.func (.func f) a b,none)
    | .iface t v=>some (.iface t v,none)
    | _=>none
  | .tas t ok zero x => match ev x with
    | .iface u v=>if u=t then some (if ok then .tuple #[v,.bool true] else v,none) else if ok then some (.tuple #[zero,.bool false],none) else none
    | .nilIface=>if ok then some (.tuple #[zero,.bool false],none) else none
    | _=>none
  | .pick c a b => match ev c with
    | .bool t=>some (if t then ev a else ev b,none)
    | _=>none
  | .bld zero ps xs=>(fillL zero ps (xs.map ev)).map fun (l:List Value)=>(.agg l.toArray,none)

def FOp.ok (P:Program) (fo:FOp) (ev:Operand→Value) (h:Hp) (id:Nat) (v:Value) (k:Option Blk):Prop :=
  fo.run P ev h id=some (v,k)∨∃ ne t x y a b r,fo = .eqS ne t x y∧k=none∧ev x = .agg a∧ev y = .agg b∧(a++b).all (fun | .int _ _ | .bool _ | .string _=>true | _=>false)=true∧(∀ w,(Op.equal t (.agg a) (.agg b)).run P w = .ok r w)∧v = .bool (nb ne r)

def plainC:Value→Bool
  | .bool _ | .int _ _ | .string _ | .pointer none | .slice none _ _ | .map none | .nilFunc | .nilIface | .float _ _=>true
  | _=>false
def plainV:Value→Bool
  | .agg cs=>cs.all plainC
  | .tuple cs=>cs.all plainC
  | v=>plainC v
def okOpd:Operand→Bool
  | .tmp _ | .func _=>true
  | .const v=>plainV v
  | .global _=>false
def neq? : BinOp→Option Bool
  | .eql=>some false
  | .neq=>some true
  | _=>none
def byteT (P:Program) (e:TypeId):Bool:=match P.underlying e with | some (.int .u8)=>true | _=>false
def aggT (P:Program) (t:TypeId):Option Bool:=match P.underlying t with | some (.struct _) | some (.array _ _)=>some true | some _=>some false | none=>none
def compC (P:Program) (c:Call):Option FOp :=
  match c.callee with
  | .builtin .len =>
    match c.args.toList,c.argTypes[0]? with
    | [x], some t =>
      match P.underlying t with
      | some .string=>some (.len true x)
      | some (.slice _)=>some (.len false x)
      | _=>none
    | _,_=>none
  | .builtin .min=>match c.args.toList with | [x,y]=>some (.mn x y) | _=>none
  | .builtin .max=>match c.args.toList with | [x,y]=>some (.mx x y) | _=>none
  | _=>none
def placesOf (P:Program) (fs:Array Field):List (Nat×Operand)→Option (List (Nat×Nat))
  | []=>some []
  | (i, _) :: l => match fs[i]?, placesOf P fs l with
    | some f,some ps=>(P.info? f.type).map fun inf=>(f.offset,inf.size)::ps
    | _,_=>none
def compF (P:Program) (o:Oper):Option FOp :=
  match o.op with
  | .move x=>some (.mv x)
  | .assign x=>some (.mv x)
  | .binOp op t x y _ =>
    match P.underlying t with
    | some (.int _)=>some (.bin op x y)
    | some .string=>some (.bin op x y)
    | some .bool=>(neq? op).map fun n=>.eqB n x y
    | some (.interface _)=>(neq? op).map fun n=>.eqI n x y
    | some (.pointer _)=>(neq? op).map fun n=>.eqN 0 n x y
    | some (.slice _)=>(neq? op).map fun n=>.eqN 1 n x y
    | some (.func _ _ _)=>(neq? op).map fun n=>.eqN 2 n x y
    | some (.struct _)=>if P.eqGuardType P.depth t then none else (neq? op).map fun n=>.eqS n t x y
    | _=>none
  | .unOp op _ x=>some (.un op x)
  | .convert src dst x =>
    match P.underlying src,P.underlying dst with
    | some (.int _),some (.int k)=>some (.cvt k x)
    | some .string,some .string=>some (.str x)
    | some (.slice e),some .string=>if byteT P e then some (.b2s x) else none
    | some .string,some (.slice e)=>if byteT P e then some (.s2b x) else none
    | _,_=>none
  | .makeInterface t x =>
    match P.underlying t with
    | some (.interface _)=>none
    | some _=>some (.mkI t x)
    | none=>none
  | .makeFunc fn a b=>some (.mkF fn a.toList b.toList)
  | .extract x i=>some (.ext x i)
  | .field t x i =>
    match P.underlying t with
    | some (.struct fs) =>
      match fs[i]? with
      | some f =>
        match aggT P f.type,P.info? f.type with
        | some true,some inf=>some (.fld f.offset (some inf.size) x)
        | some false,some _=>some (.fld f.offset none x)
        | _,_=>none
      | none=>none
    | _=>none
  | .fieldAddr t x i =>
    match P.underlying t with
    | some (.struct fs) =>
      match fs[i]? with
      | some f =>
        match P.info? f.type with
        | some inf=>if inf.size=0 then none else some (.fad f.offset x)
        | none=>none
      | none=>none
    | _=>none
  | .indexAddr t x i =>
    match P.underlying t with
    | some (.slice e)=>(P.info? e).map fun inf=>.iad inf.size x i
    | _=>none
  | .index t x i =>
    match P.underlying t with
    | some .string=>some (.ixs x i)
    | _=>none
  | .slice t x lo hi none =>
    match P.underlying t with
    | some .string=>some (.slS x lo hi)
    | some (.slice e)=>(P.info? e).map fun inf=>.slc inf.size x lo hi
    | _=>none
  | .load t x =>
    match aggT P t,P.info? t with
    | some true,some inf=>some (.ld (some inf.size) x)
    | some false,some _=>some (.ld none x)
    | _,_=>none
  | .alloc t=>(P.info? t).bind fun inf=>inf.zero.bind fun z=>if z.cells.all plainC then some (.new z.cells.toList) else none
  | .box _ x=>some (.box x)
  | .makeSlice t l c =>
    match P.underlying t with
    | some (.slice e)=>(P.info? e).bind fun inf=>inf.zero.bind fun z=>if z.cells.all plainC∧z.cells.size≠0 then some (.mks inf.size inf.bytes z.cells.toList l c) else none
    | _=>none
  | .buildSlice t len parts =>
    match P.underlying t with
    | some (.slice e)=>(P.info? e).bind fun inf=>if parts.toList.map (·.1)=List.range len∧len * inf.size≤2 ^ 24∧inf.size≠0∧(inf.zero.map (·.cells.size))=some inf.size then some (.bsl inf.size (parts.toList.map (·.2))) else none
    | _=>none
  | .nilCheck x=>some (.chk x)
  | .pick c a b=>some (.pick c a b)
  | .build t parts =>
    match P.underlying t with
    | some (.struct fs) =>
      match P.info? t,placesOf P fs parts.toList with
      | some inf,some ps=>inf.zero.bind fun z=>if z.cells.all plainC∧(fs.all fun f=>(P.info? f.type).isSome)=true then some (.bld z.cells.toList ps (parts.toList.map (·.2))) else none
      | _,_=>none
    | _=>none
  | .typeAssert x _ t ok =>
    match P.underlying t with
    | some (.pointer _)=>(P.info? t).bind fun inf=>inf.zero.bind fun z=>if plainV z then some (.tas t ok z x) else none
    | some (.int _)=>(P.info? t).bind fun inf=>inf.zero.bind fun z=>if plainV z then some (.tas t ok z x) else none
    | _=>none
  | .call c=>compC P c
  | _=>none
end Go.Proofs.Ytcffpnlochillaa.Ab
namespace Go.Proofs.Ytcffpnlochillaa.Ab
open Go.RowKit
def FSound (P:Program) (R:AR) (h:Hp) (w:World) (id:Nat) (s:Sem Value) (v:Value) (k:Option Blk):Prop :=
  ∃ v' w' R',s.run P w = .ok v' w'∧VR R' v v'∧R.le R'∧Rel R' h w'∧∀ b e,R'.rho b=some e→R.rho b=some e∨(k.isSome=true∧b=id)
theorem FSound.same {P:Program} {R:AR} {h:Hp} {w:World} {id:Nat} {s:Sem Value} {v v':Value} {k:Option Blk} (hr:Rel R h w) (hs:s.run P w = .ok v' w) (hv:VR R v v'):FSound P R h w id s v k :=
  ⟨v',w,R,hs,hv,.refl R,hr,fun _ _ h=>.inl h⟩
theorem semPure_run {s:Sem Value} {v:Value} (h:semPure s=some v) (P:Program) (w:World):s.run P w = .ok v w:=by
  unfold semPure at h
  split at h
  · obtain rfl:=Option.some.inj h
    rfl
  · simp at h
theorem plainC_VR {R:AR} {v:Value} (h:plainC v=true):VR R v v:=by
  unfold plainC at h
  split at h
  all_goals first
    | constructor
    | simp at h
theorem plainV_VR {R:AR} {v:Value} (h:plainV v=true):VR R v v:=by
  unfold plainV at h
  split at h
  · refine .agg _ _ rfl (fun i x x' h1 h2=>?_)
    rw [h1] at h2
    obtain rfl:=Option.some.inj h2
    exact plainC_VR (Array.all_eq_true_iff_forall_mem.1 h _ (Array.mem_of_getElem? h1))
  · refine .tuple _ _ rfl (fun i x x' h1 h2=>?_)
    rw [h1] at h2
    obtain rfl:=Option.some.inj h2
    exact plainC_VR (Array.all_eq_true_iff_forall_mem.1 h _ (Array.mem_of_getElem? h1))
  · exact plainC_VR h
theorem abin_run {P:Program} {R:AR} {op:BinOp} {x y v x' y':Value} (h:abin op x y=some v) (hx:VR R x x') (hy:VR R y y') (t:TypeId) (a b:Operand) (w:World) :
    (do eqGuard op t a b x' y';binOp op t x' y':Sem Value).run P w = .ok v w∧VR R v v:=by
  unfold abin at h
  split at h
  · cases hx
    cases hy
    rename_i k n k' m
    have e:binOp op t (.int k n) (.int k' m)=binOp op 0 (.int k n) (.int k' m):=by cases op <;> rfl
    have hrun:=semPure_run h P w
    have hg:(eqGuard op t a b (.int k n) (.int k' m)).run P w = .ok () w:=by cases op <;> rfl
    refine ⟨by rw [Sem.run_bind,hg,e];exact hrun,?_⟩
    have hv:(∃ k n,v = .int k n)∨∃ b,v = .bool b:=by
      unfold semPure at h
      split at h
      · rename_i u hu
        obtain rfl:=Option.some.inj h
        cases op <;> simp only [binOp,Op.shift,Op.intArith,Op.intDiv,Op.intBits,Op.intCmp,stuck,runtimePanic,goPanic] at hu <;> (repeat' split at hu) <;> first | (simp only [pure,Sem.pure.injEq,reduceCtorEq] at hu;subst hu;first | exact .inl ⟨_,_,rfl⟩ | exact .inr ⟨_,rfl⟩) | (cases hu;done) | skip
      · simp at h
    rcases hv with ⟨_,_,rfl⟩ | ⟨_,rfl⟩ <;> constructor
  · cases hx
    cases hy
    rename_i p q
    have e:binOp op t (.string p) (.string q)=binOp op 0 (.string p) (.string q):=by cases op <;> rfl
    have hrun:=semPure_run h P w
    have hg:(eqGuard op t a b (.string p) (.string q)).run P w = .ok () w:=by cases op <;> rfl
    refine ⟨by rw [Sem.run_bind,hg,e];exact hrun,?_⟩
    have hv:(∃ s,v = .string s)∨∃ b,v = .bool b:=by
      unfold semPure at h
      split at h
      · rename_i u hu
        obtain rfl:=Option.some.inj h
        cases op <;> simp only [binOp,Op.stringOp,stuck,unsupported] at hu <;> (repeat' split at hu) <;> first | (simp only [pure,Sem.pure.injEq,reduceCtorEq] at hu;subst hu;first | exact .inl ⟨_,rfl⟩ | exact .inr ⟨_,rfl⟩) | (cases hu;done)
      · simp at h
    rcases hv with ⟨_,rfl⟩ | ⟨_,rfl⟩ <;> constructor
  · simp at h
theorem eq_nn {P:Program} {t:TypeId} {ms:Array (String×TypeId)} {w:World} (hu:(underlying t).run P w = .ok (.interface ms) w) (d:Nat):(Op.equalIn (d+1) t .nilIface .nilIface).run P w = .ok true w:=by
  simp only [Op.equalIn,Sem.run_bind,hu,Result.andThen_ok]
  rfl
theorem eq_ni {P:Program} {t:TypeId} {ms:Array (String×TypeId)} {w:World} (hu:(underlying t).run P w = .ok (.interface ms) w) (d:Nat) (u:TypeId) (v:Value):(Op.equalIn (d+1) t .nilIface (.iface u v)).run P w = .ok false w:=by
  simp only [Op.equalIn,Sem.run_bind,hu,Result.andThen_ok]
  rfl
theorem eq_in {P:Program} {t:TypeId} {ms:Array (String×TypeId)} {w:World} (hu:(underlying t).run P w = .ok (.interface ms) w) (d:Nat) (u:TypeId) (v:Value):(Op.equalIn (d+1) t (.iface u v) .nilIface).run P w = .ok false w:=by
  simp only [Op.equalIn,Sem.run_bind,hu,Result.andThen_ok]
  rfl
theorem eq_ne {P:Program} {t:TypeId} {ms:Array (String×TypeId)} {w:World} (hu:(underlying t).run P w = .ok (.interface ms) w) (d:Nat) {u1 u2:TypeId} (h:u1≠u2) (v x:Value):(Op.equalIn (d+1) t (.iface u1 v) (.iface u2 x)).run P w = .ok false w:=by
  simp only [Op.equalIn,Sem.run_bind,hu,Result.andThen_ok,if_pos h]
  rfl
theorem eq_ii {P:Program} {t u:TypeId} {ms:Array (String×TypeId)} {w:World} (hu:(underlying t).run P w = .ok (.interface ms) w) {inf:TypeInfo} (hi:(typeInfo u).run P w = .ok inf w) {kk:IntKind} (hui:(underlying u).run P w = .ok (.int kk) w) (hc:inf.comparable=true) (d:Nat) (k:IntKind) (a b:Int):(Op.equalIn (d+2) t (.iface u (.int k a)) (.iface u (.int k b))).run P w = .ok (a == b) w:=by
  have e:(Op.equalIn (d+1) u (.int k a) (.int k b)).run P w = .ok (a == b) w:=by
    simp only [Op.equalIn,Sem.run_bind,hui,Result.andThen_ok,if_true]
    rfl
  rw [Op.equalIn]
  simp only [Sem.run_bind,hu,Result.andThen_ok,ne_eq,not_true,if_false,hi,hc,Bool.not_true,Bool.false_eq_true]
  exact e
theorem eqGuard_if (op:BinOp) (t:TypeId) (a b:Operand) (x y:Value) (h:¬ (x = .nilIface∧y = .nilIface)) (h2:∀ c,x≠.agg c):eqGuard op t a b x y=pure ():=by
  cases op <;> cases x <;> first | rfl | (cases y <;> first | rfl | exact absurd ⟨rfl,rfl⟩ h | exact absurd rfl (h2 _))
theorem eql_run {P:Program} {t:TypeId} {x y:Value} {r:Bool} {w:World} {ne:Bool} {op:BinOp} (hn:neq? op=some ne) (hx:(∃ t v,x = .iface t v)∨x = .nilIface∨(∃ b,x = .bool b)∨(∃ a n c,x = .slice a n c)∨(∃ a b c,x = .func a b c)∨x = .nilFunc∨(∃ c,x = .agg c)) (h:(Op.equal t x y).run P w = .ok r w):(binOp op t x y).run P w = .ok (.bool (nb ne r)) w:=by
  have e1:∀ s:Sem Bool,s.run P w = .ok r w→(do pure (.bool (← s)):Sem Value).run P w = .ok (.bool r) w:=fun s hs=>by simp [hs]
  have e2:∀ s:Sem Bool,s.run P w = .ok r w→(do pure (.bool (!(← s))):Sem Value).run P w = .ok (.bool (!r)) w:=fun s hs=>by simp [hs]
  cases op <;> simp [neq?] at hn <;> subst hn
  · rcases hx with ⟨_,_,rfl⟩ | rfl | ⟨_,rfl⟩ | ⟨_,_,_,rfl⟩ | ⟨_,_,_,rfl⟩ | rfl | ⟨_,rfl⟩ <;> exact e1 _ h
  · rcases hx with ⟨_,_,rfl⟩ | rfl | ⟨_,rfl⟩ | ⟨_,_,_,rfl⟩ | ⟨_,_,_,rfl⟩ | rfl | ⟨_,rfl⟩ <;> exact e2 _ h
theorem aeqI_run {P:Program} {R:AR} {op:BinOp} {ne:Bool} {x y v x' y':Value} {a b:Operand} {t:TypeId} {ms:Array (String×TypeId)} (ht:P.underlying t=some (.interface ms)) (hn:neq? op=some ne) (h:aeqI P ne (isC a || isC b) x y=some v) (hx:VR R x x') (hy:VR R y y') (w:World) :
    (do eqGuard op t a b x' y';binOp op t x' y':Sem Value).run P w = .ok v w∧VR R v v:=by
  have hv:∃ r,v = .bool r:=by
    unfold aeqI at h
    (repeat' split at h) <;> first | exact ⟨_,(Option.some.inj h).symm⟩ | simp at h
  refine ⟨?_,by obtain ⟨r,rfl⟩:=hv;constructor⟩
  have hu:∀ w,(underlying t).run P w = .ok (.interface ms) w:=fun w=>by simp [underlying,ht]
  unfold aeqI at h
  split at h
  · cases hx
    cases hy
    split at h
    · rename_i hc
      obtain rfl:=Option.some.inj h
      have hg:(eqGuard op t a b .nilIface .nilIface).run P w = .ok () w:=by
        cases op <;> simp [neq?] at hn <;> cases a <;> cases b <;> simp [isC] at hc <;> simp [eqGuard]
      rw [Sem.run_bind,hg]
      exact eql_run hn (.inr (.inl rfl)) (eq_nn (hu w) 9999)
    · simp at h
  · cases hx
    cases hy
    obtain rfl:=Option.some.inj h
    rw [eqGuard_if _ _ _ _ _ _ (by simp) (by simp)]
    exact eql_run hn (.inr (.inl rfl)) (eq_ni (hu w) 9999 _ _)
  · cases hx
    cases hy
    obtain rfl:=Option.some.inj h
    rw [eqGuard_if _ _ _ _ _ _ (by simp) (by simp)]
    exact eql_run hn (.inl ⟨_,_,rfl⟩) (eq_in (hu w) 9999 _ _)
  · cases hx with
    | iface t1 v1 v1' h1 =>
    cases hy with
    | iface t2 v2 v2' h2 =>
    rw [eqGuard_if _ _ _ _ _ _ (by simp) (by simp)]
    split at h
    · rename_i hne
      obtain rfl:=Option.some.inj h
      exact eql_run hn (.inl ⟨_,_,rfl⟩) (eq_ne (hu w) 9999 hne _ _)
    · rename_i he
      simp only [ne_eq,Decidable.not_not] at he
      subst he
      split at h
      · cases h1
        cases h2
        split at h
        · rename_i hk
          obtain ⟨rfl,hcmp⟩:=hk
          obtain rfl:=Option.some.inj h
          unfold cmpInt at hcmp
          split at hcmp
          · rename_i inf kk hi hui
            exact eql_run hn (.inl ⟨_,_,rfl⟩) (eq_ii (kk:=kk) (inf:=inf) (hu w) (by simp [typeInfo,hi]) (by simp [underlying,hui]) hcmp 9998 _ _ _)
          · simp at hcmp
        · simp at h
      · simp at h
  · simp at h
theorem eq_pn {P:Program} {t e:TypeId} {w:World} (hu:(underlying t).run P w = .ok (.pointer e) w) (d:Nat) (a:Option Addr):(Op.equalIn (d+1) t (.pointer a) (.pointer none)).run P w = .ok a.isNone w:=by
  simp only [Op.equalIn,Sem.run_bind,hu,Result.andThen_ok]
  cases a <;> rfl
theorem eq_sn {P:Program} {t e:TypeId} {w:World} (hu:(underlying t).run P w = .ok (.slice e) w) (d:Nat) (a:Option Addr) (n c m k:Nat):(Op.equalIn (d+1) t (.slice a n c) (.slice none m k)).run P w = .ok a.isNone w:=by
  simp only [Op.equalIn,Sem.run_bind,hu,Result.andThen_ok]
  cases a <;> rfl
theorem eq_fn {P:Program} {t:TypeId} {p q:Array TypeId} {r:Bool} {w:World} (hu:(underlying t).run P w = .ok (.func p q r) w) (d:Nat) (f:Fn) (a b:Array Value):(Op.equalIn (d+1) t (.func f a b) .nilFunc).run P w = .ok false w:=by
  simp only [Op.equalIn,Sem.run_bind,hu,Result.andThen_ok]
  rfl
theorem eq_ff {P:Program} {t:TypeId} {p q:Array TypeId} {r:Bool} {w:World} (hu:(underlying t).run P w = .ok (.func p q r) w) (d:Nat):(Op.equalIn (d+1) t .nilFunc .nilFunc).run P w = .ok true w:=by
  simp only [Op.equalIn,Sem.run_bind,hu,Result.andThen_ok]
  rfl
theorem eql_ptr {P:Program} {t:TypeId} {a b:Option Addr} {r:Bool} {w:World} {ne:Bool} {op:BinOp} (hn:neq? op=some ne) (h:(Op.equal t (.pointer a) (.pointer b)).run P w = .ok r w):(binOp op t (.pointer a) (.pointer b)).run P w = .ok (.bool (nb ne r)) w:=by
  have e1:∀ s:Sem Bool,s.run P w = .ok r w→(do pure (.bool (← s)):Sem Value).run P w = .ok (.bool r) w:=fun s hs=>by simp [hs]
  have e2:∀ s:Sem Bool,s.run P w = .ok r w→(do pure (.bool (!(← s))):Sem Value).run P w = .ok (.bool (!r)) w:=fun s hs=>by simp [hs]
  cases op <;> simp [neq?] at hn <;> subst hn
  · cases a <;> cases b <;> exact e1 _ h
  · cases a <;> cases b <;> exact e2 _ h
theorem eq_bb {P:Program} {t:TypeId} {w:World} (hu:(underlying t).run P w = .ok .bool w) (d:Nat) (a b:Bool):(Op.equalIn (d+1) t (.bool a) (.bool b)).run P w = .ok (a == b) w:=by
  simp only [Op.equalIn,Sem.run_bind,hu,Result.andThen_ok]
  rfl
theorem aeqN_run {P:Program} {R:AR} {op:BinOp} {tag:Nat} {ne:Bool} {x y v x' y':Value} {a b:Operand} {t:TypeId} {d:TypeDesc} (ht:P.underlying t=some d) (hd:(∃ e,d = .pointer e∧tag=0)∨(∃ e,d = .slice e∧tag=1)∨∃ p q r,d = .func p q r∧tag=2) (hn:neq? op=some ne) (h:aeqN tag ne x y=some v) (hx:VR R x x') (hy:VR R y y') (w:World) :
    (do eqGuard op t a b x' y';binOp op t x' y':Sem Value).run P w = .ok v w∧VR R v v:=by
  have hv:∃ r,v = .bool r:=by
    unfold aeqN at h
    (repeat' split at h) <;> first | exact ⟨_,(Option.some.inj h).symm⟩ | simp at h
  refine ⟨?_,by obtain ⟨r,rfl⟩:=hv;constructor⟩
  have hu:∀ w,(underlying t).run P w = .ok d w:=fun w=>by simp [underlying,ht]
  unfold aeqN at h
  split at h
  · split at h
    · rename_i htag
      obtain ⟨e,rfl⟩:∃ e,d = .pointer e:=by
        rcases hd with ⟨e,rfl,-⟩ | ⟨e,-,hp⟩ | ⟨p,q,r,-,hp⟩
        · exact ⟨e,rfl⟩
        all_goals omega
      cases hy
      obtain rfl:=Option.some.inj h
      cases hx with
      | nilp =>
        rw [eqGuard_if _ _ _ _ _ _ (by simp) (by simp)]
        exact eql_ptr hn (eq_pn (hu w) 9999 _)
      | ptr p p' hp =>
        rw [eqGuard_if _ _ _ _ _ _ (by simp) (by simp)]
        exact eql_ptr hn (eq_pn (hu w) 9999 _)
    · simp at h
  · split at h
    · rename_i htag
      obtain ⟨e,rfl⟩:∃ e,d = .slice e:=by
        rcases hd with ⟨e,-,hp⟩ | ⟨e,rfl,-⟩ | ⟨p,q,r,-,hp⟩
        · omega
        · exact ⟨e,rfl⟩
        all_goals omega
      cases hy
      obtain rfl:=Option.some.inj h
      cases hx with
      | nils n c =>
        rw [eqGuard_if _ _ _ _ _ _ (by simp) (by simp)]
        exact eql_run hn (.inr (.inr (.inr (.inl ⟨_,_,_,rfl⟩)))) (eq_sn (hu w) 9999 _ _ _ _ _)
      | sl p p' n c c' hp =>
        rw [eqGuard_if _ _ _ _ _ _ (by simp) (by simp)]
        exact eql_run hn (.inr (.inr (.inr (.inl ⟨_,_,_,rfl⟩)))) (eq_sn (hu w) 9999 _ _ _ _ _)
    · simp at h
  · split at h
    · rename_i htag
      obtain ⟨p,q,r,rfl⟩:∃ p q r,d = .func p q r:=by
        rcases hd with ⟨e,-,hp⟩ | ⟨e,-,hp⟩ | ⟨p,q,r,rfl,-⟩
        · omega
        · omega
        · exact ⟨p,q,r,rfl⟩
      cases hy
      cases hx
      obtain rfl:=Option.some.inj h
      rw [eqGuard_if _ _ _ _ _ _ (by simp) (by simp)]
      exact eql_run hn (.inr (.inr (.inr (.inr (.inr (.inl rfl)))))) (eq_ff (hu w) 9999)
    · simp at h
  · split at h
    · rename_i htag
      obtain ⟨p,q,r,rfl⟩:∃ p q r,d = .func p q r:=by
        rcases hd with ⟨e,-,hp⟩ | ⟨e,-,hp⟩ | ⟨p,q,r,rfl,-⟩
        · omega
        · omega
        · exact ⟨p,q,r,rfl⟩
      cases hy
      cases hx
      obtain rfl:=Option.some.inj h
      rw [eqGuard_if _ _ _ _ _ _ (by simp) (by simp)]
      exact eql_run hn (.inr (.inr (.inr (.inr (.inl ⟨_,_,_,rfl⟩))))) (eq_fn (hu w) 9999 _ _ _)
    · simp at h
  · simp at h
theorem strOf_run {R:AR} {l l':List Value} {s:List UInt8} (h:strOf l=some s) (hl:VRs R l l'):l'=l:=by
  induction l generalizing l' s with
  | nil =>
    cases l' with
    | nil=>rfl
    | cons _ _=>simp [VRs] at hl
  | cons v l ih =>
    obtain ⟨v',t',rfl,h1,h2⟩:=hl.uncons
    unfold strOf at h
    split at h
    · simp at *
    · rename_i n t he
      simp only [List.cons.injEq] at he
      obtain ⟨rfl,rfl⟩:=he
      obtain ⟨u,hu,-⟩:=Option.map_eq_some_iff.1 h
      cases h1
      rw [ih hu h2]
    · simp at h
theorem b2s_loop (P:Program) (w:World) (f:Value→ByteArray→Sem (ForInStep ByteArray)) (hf:∀ n r,f (.int .u8 n) r=pure (.yield (r.push (UInt8.ofNat n.toNat)))):∀ (l:List Value) (s:List UInt8) (acc:ByteArray),strOf l=some s →
    (forIn (m:=Sem) l acc f).run P w = .ok (s.foldl ByteArray.push acc) w
  | [], s, acc, h => by
    simp [strOf] at h
    subst h
    rfl
  | v :: l, s, acc, h => by
    unfold strOf at h
    split at h
    · rename_i he
      simp at he
    · rename_i n t he
      simp only [List.cons.injEq] at he
      obtain ⟨rfl,rfl⟩:=he
      obtain ⟨u,hu,rfl⟩:=Option.map_eq_some_iff.1 h
      rw [List.forIn_cons,hf]
      simp only [Sem.run_bind,Sem.run_pure,Result.andThen_ok]
      exact b2s_loop P w f hf l u _ hu
    · simp at h
theorem foldl_push (s:List UInt8) (acc:ByteArray):s.foldl ByteArray.push acc=⟨acc.data++s.toArray⟩:=by
  induction s generalizing acc with
  | nil=>simp
  | cons b s ih =>
    rw [List.foldl_cons,ih]
    simp [ByteArray.push]
end Go.Proofs.Ytcffpnlochillaa.Ab
namespace Go.Proofs.Ytcffpnlochillaa.Ab
open Go.RowKit
def FOut (P:Program) (R:AR) (h:Hp) (w:World) (id:Nat) (s:Sem Next) (v:Value) (k:Option Blk):Prop :=
  ∃ v' w' R',s.run P w = .ok (.value v') w'∧VR R' v v'∧R.le R'∧Rel R' h w'∧∀ b e,R'.rho b=some e→R.rho b=some e∨(k.isSome=true∧b=id)
theorem FSound.fin {P:Program} {R:AR} {h:Hp} {w:World} {id:Nat} {s:Sem Value} {v:Value} {k:Option Blk} (hs:FSound P R h w id s v k):FOut P R h w id (do pure (Next.value (← s))) v k:=by
  obtain ⟨v',w',R',h1,h2⟩:=hs
  exact ⟨v',w',R',by simp [h1],h2⟩
theorem und_run {P:Program} {t:TypeId} {d:TypeDesc} (h:P.underlying t=some d) (w:World):(underlying t).run P w = .ok d w:=by simp [underlying,h]
theorem info_run {P:Program} {t:TypeId} {d:TypeInfo} (h:P.info? t=some d) (w:World):(typeInfo t).run P w = .ok d w:=by simp [typeInfo,h]
theorem size_run {P:Program} {t:TypeId} {d:TypeInfo} (h:P.info? t=some d) (w:World):(sizeOf t).run P w = .ok d.size w:=by simp [sizeOf,info_run h]
theorem zero_run {P:Program} {t:TypeId} {d:TypeInfo} (h:P.info? t=some d) {z:Value} (hz:d.zero=some z) (w:World):(zeroValue t).run P w = .ok z w:=by simp [zeroValue,info_run h,hz]
theorem agg_run {P:Program} {t:TypeId} {b:Bool} (h:aggT P t=some b) (w:World):(isAgg t).run P w = .ok b w:=by
  unfold aggT at h
  unfold isAgg
  rw [Sem.run_bind]
  split at h
  · rename_i d he
    rw [und_run he]
    obtain rfl:=Option.some.inj h
    rfl
  · rename_i d e he
    rw [und_run he]
    obtain rfl:=Option.some.inj h
    rfl
  · rename_i d h1 h2 he
    rw [und_run he]
    obtain rfl:=Option.some.inj h
    cases d <;> first | rfl | exact absurd rfl (h1 _) | exact absurd rfl (h2 _ _)
  · simp at h
theorem VR.asInt {R:AR} {v v':Value} (h:VR R v v') {n:Int} (hv:asI v=some n):v'=v∧∃ k,v = .int k n:=by
  unfold asI at hv
  split at hv
  · obtain rfl:=Option.some.inj hv
    cases h
    exact ⟨rfl,_,rfl⟩
  · simp at hv
theorem cutB_run {P:Program} {R:AR} {n c':Nat} (hn:n≤c') {lo hi lo' hi':Option Value} {l g:Nat} (h:cutB n lo hi=some (l,g)) (h1:lo.isSome=lo'.isSome) (h2:hi.isSome=hi'.isSome) (k1:∀ v v',lo=some v→lo'=some v'→VR R v v') (k2:∀ v v',hi=some v→hi'=some v'→VR R v v') (b:Bool) (w:World) :
    l≤g∧g≤n∧(Instr.sliceBounds b n c' lo' hi' none).run P w = .ok (l,g,c') w:=by
  have hb:∀ (k:IntKind) (m:Int) (y:Nat) (code:BoundsCode),0≤m→m≤y→(Instr.sliceBound (.int k m) y code).run P w = .ok m.toNat w:=by
    intro k m y code h0 h3
    simp [Instr.sliceBound,asIntOf,h0,h3]
  unfold cutB at h
  cases hi with
  | none =>
    cases hi' with
    | some _=>simp at h2
    | none =>
      cases lo with
      | none =>
        cases lo' with
        | some _=>simp at h1
        | none =>
          simp at h
          obtain ⟨rfl,rfl⟩:=h
          exact ⟨Nat.zero_le _,Nat.le_refl _,by simp [Instr.sliceBounds]⟩
      | some v =>
        cases lo' with
        | none=>simp at h1
        | some v' =>
          cases ha:asI v with
          | none=>simp [ha] at h
          | some m =>
            obtain ⟨rfl,k,rfl⟩:=(k1 v v' rfl rfl).asInt ha
            simp only [ha] at h
            split at h
            · rename_i hc
              simp only [Option.some.injEq,Prod.mk.injEq] at h
              obtain ⟨rfl,rfl⟩:=h
              refine ⟨by omega,by omega,?_⟩
              simp [Instr.sliceBounds,hb k m n _ hc.1 (by omega)]
            · simp at h
  | some u =>
    cases hi' with
    | none=>simp at h2
    | some u' =>
      cases hg:asI u with
      | none=>simp [hg] at h
      | some q =>
        obtain ⟨rfl,k2',rfl⟩:=(k2 u u' rfl rfl).asInt hg
        cases lo with
        | none =>
          cases lo' with
          | some _=>simp at h1
          | none =>
            simp only [hg] at h
            split at h
            · rename_i hc
              simp only [Option.some.injEq,Prod.mk.injEq] at h
              obtain ⟨rfl,rfl⟩:=h
              refine ⟨by omega,by omega,?_⟩
              simp [Instr.sliceBounds,hb k2' q c' _ (by omega) (by omega)]
            · simp at h
        | some v =>
          cases lo' with
          | none=>simp at h1
          | some v' =>
            cases ha:asI v with
            | none=>simp [hg,ha] at h
            | some m =>
              obtain ⟨rfl,k,rfl⟩:=(k1 v v' rfl rfl).asInt ha
              simp only [hg,ha] at h
              split at h
              · rename_i hc
                simp only [Option.some.injEq,Prod.mk.injEq] at h
                obtain ⟨rfl,rfl⟩:=h
                refine ⟨by omega,by omega,?_⟩
                simp [Instr.sliceBounds,hb k2' q c' _ (by omega) (by omega),hb k m q.toNat _ hc.1 (by omega)]
              · simp at h
theorem SlR.len {R:AR} {a a':Addr} {n c c':Nat} (h:SlR R a n c a' c') (hb:¬ a.block < R.base):n≤c':=by
  cases h with
  | old _ _ _ h=>exact absurd h hb
  | new _ _ _ _ _ _ _ _ _ _ h1=>exact h1
  | dead _ _ _ _ _ _ _ h1 _=>exact h1
  | junk=>exact Nat.zero_le _
theorem SlR.addr {R:AR} {a a':Addr} {n c c':Nat} (h:SlR R a n c a' c'):AddrR R a a':=by
  cases h with
  | old _ _ _ h=>exact .old _ h
  | new b o _ _ cb cs cc _ h hr=>exact .new _ _ _ _ _ h hr
  | dead _ _ _ _ _ h hd=>exact .dead _ _ h hd
  | junk _ _ _ h hs=>exact .junk _ _ h hs
theorem SlR.junk0 {R:AR} {a a':Addr} {n c c':Nat} (h:SlR R a n c a' c') (hn:0 < n) (hd:¬ R.dead a.block):¬ (R.base≤a.block∧a.spot.isSome=true):=by
  cases h with
  | old _ _ _ h=>intro k;omega
  | new b o _ _ cb cs cc _ h hr=>intro k;simp at k
  | dead _ _ _ _ _ h hd'=>exact absurd hd' hd
  | junk _ _ _ h hs=>omega

theorem cutS_run {P:Program} {R:AR} {base size n c c' l g:Nat} {a a':Option Addr} (hb:R.base=base) (h:VR R (.slice a n c) (.slice a' n c')) (h1:l≤g) (h2:g≤n) :
    VR R (cutS base size a n c l g) (.slice (if c'=l then a' else a'.map (·.add (l * size))) (g - l) (c' - l)):=by
  unfold cutS
  cases h with
  | nils _ _=>simp;exact .nils _ _
  | sl a a' _ _ _ h =>
    simp only
    by_cases hlt:a.block < base
    · rw [if_pos hlt]
      cases h with
      | old _ _ _ h =>
        have e:(if c=l then some a else Option.map (fun x=>x.add (l * size)) (some a))=some (if c=l then a else a.add (l * size)):=by split <;> rfl
        rw [e]
        refine .sl _ _ _ _ _ (.old _ _ _ ?_)
        split
        · exact h
        · unfold Addr.add
          split <;> exact h
      | new=>simp at hlt;omega
      | dead=>omega
      | junk=>omega
    · rw [if_neg hlt]
      have hl:=h.len (by rw [hb];exact hlt)
      by_cases h0:l=0
      · subst h0
        rw [if_pos rfl]
        have e:(if c'=0 then some a' else Option.map (fun x=>x.add (0 * size)) (some a'))=some a':=by
          split
          · rfl
          · simp [Addr.add]
        rw [e,Nat.sub_zero,Nat.sub_zero]
        refine .sl _ _ _ _ _ ?_
        cases h with
        | old _ _ _ h=>omega
        | new b o _ _ cb cs cc _ k hr h1' h2' h3' =>
          refine .new _ _ _ _ _ _ _ _ k hr (by omega) (fun e=>?_) (fun e ho=>?_)
          · split at e
            · have:=h2' (by omega);omega
            · split at e <;> omega
          · split at e
            · exact h3' (by omega) ho
            · split at e
              · exact h3' (by assumption) ho
              · omega
        | dead _ _ _ _ _ k hd h1' h2' =>
          refine .dead _ _ _ _ _ k hd (by omega) (fun e=>?_)
          split at e
          · have:=h2' (by omega);omega
          · split at e <;> omega
        | junk _ _ _ k hs =>
          obtain rfl:g=0:=by omega
          exact .junk _ _ _ k hs
      · rw [if_neg h0]
        by_cases he:g=l
        · rw [if_pos he]
          subst he
          rw [Nat.sub_self]
          have:∃ z,(if c'=g then some a' else Option.map (fun x=>x.add (g * size)) (some a'))=some z:=by split <;> exact ⟨_,rfl⟩
          obtain ⟨z,hz⟩:=this
          rw [hz]
          exact .sl _ _ _ _ _ (.junk _ _ _ (by show R.base≤a.block;omega) rfl)
        · rw [if_neg he]
          have e:(if c'=l then some a' else Option.map (fun x=>x.add (l * size)) (some a'))=some (a'.add (l * size)):=by
            rw [if_neg (by omega)]
            rfl
          rw [e]
          refine .sl _ _ _ _ _ ?_
          cases h with
          | old _ _ _ h=>omega
          | new b o _ _ cb cs cc _ k hr h1' h2' h3' =>
            have:∃ o',Addr.add ⟨b,o,none⟩ (l * size)=⟨b,o',none⟩∧Addr.add ⟨cb,o,none⟩ (l * size)=⟨cb,o',none⟩:=by
              unfold Addr.add
              split
              · exact ⟨o,rfl,rfl⟩
              · exact ⟨_,rfl,rfl⟩
            obtain ⟨o',e1,e2⟩:=this
            rw [e1,e2]
            refine .new _ _ _ _ _ _ _ _ k hr (by omega) (fun e=>?_) (fun e ho=>?_)
            · split at e
              · rename_i hcn
                have:=h2' hcn.1
                omega
              · omega
            · split at e <;> omega
          | dead _ _ _ _ _ k hd h1' h2' =>
            refine .dead _ _ _ _ _ ?_ ?_ (by omega) (fun e=>?_)
            · unfold Addr.add;split <;> exact k
            · unfold Addr.add;split <;> exact hd
            · split at e
              · rename_i hcn
                have:=h2' hcn.1
                omega
              · omega
          | junk _ _ _ k hs=>omega
end Go.Proofs.Ytcffpnlochillaa.Ab
namespace Go.Proofs.Ytcffpnlochillaa.Ab
open Go.RowKit
theorem FOut.same {P:Program} {R:AR} {h:Hp} {w:World} {id:Nat} {s:Sem Next} {v v':Value} {k:Option Blk} (hr:Rel R h w) (hs:s.run P w = .ok (.value v') w) (hv:VR R v v'):FOut P R h w id s v k :=
  ⟨v',w,R,hs,hv,.refl R,hr,fun _ _ h=>.inl h⟩
theorem VR.cells {R:AR} {v v':Value} (h:VR R v v'):v.cells.size=v'.cells.size∧∀ (i:Nat) x x',v.cells[i]? = some x→v'.cells[i]? = some x'→VR R x x':=by
  by_cases hv:∃ a,v = .agg a
  · obtain ⟨a,rfl⟩:=hv
    cases h with
    | agg _ a' ha ka=>exact ⟨ha,ka⟩
  · have e:v.cells = #[v]:=by cases v <;> first | rfl | exact absurd ⟨_,rfl⟩ hv
    have e':v'.cells = #[v']:=by cases h <;> first | rfl | exact absurd ⟨_,rfl⟩ hv
    rw [e,e']
    refine ⟨rfl,fun i x x' h1 h2=>?_⟩
    cases i with
    | zero=>simp at h1 h2;subst h1 h2;exact h
    | succ i=>simp at h1
theorem VR.one {R:AR} {v v':Value} (h:VR R v v'):v'.oneCell'=v.oneCell':=by cases h <;> rfl
theorem VRs.one {R:AR} {l l':List Value} (h:VRs R l l') (ho:l.all (·.oneCell')=true):l'.all (·.oneCell')=true:=by
  rw [List.all_eq_true] at ho ⊢
  intro x hx
  obtain ⟨i,hi,rfl⟩:=List.getElem_of_mem hx
  have h1:=h.1
  have:=h.2 i (l[i]'(by omega)) l'[i] (by simp) (by simp)
  rw [this.one]
  exact ho _ (List.getElem_mem _)
theorem plain1 {v:Value} (h:plainC v=true):v.oneCell'=true:=by cases v <;> first | rfl | simp [plainC] at h
theorem plain_one {l:List Value} (h:∀ x ∈ l,plainC x=true):l.all (·.oneCell')=true:=List.all_eq_true.2 fun x hx=>plain1 (h x hx)
theorem zeros_one {z:Value} (h:z.cells.all plainC=true) (h0:z.cells.size≠0) {es n:Nat}:(zerosOf es z.cells.toList n).all (·.oneCell')=true:=by
  rw [List.all_eq_true]
  intro x hx
  obtain ⟨i,-,rfl⟩:=List.mem_map.1 hx
  have hm:i % z.cells.toList.length < z.cells.size:=Nat.mod_lt _ (by simp;omega)
  have:z.cells.toList.getD (i % z.cells.toList.length) undef=z.cells[i % z.cells.toList.length]:=by simp only [List.getD];rw [List.getElem?_eq_getElem (by simpa using hm)];simp
  rw [this]
  exact plain1 (Array.all_eq_true_iff_forall_mem.1 h _ (Array.getElem_mem _))
theorem flat_one {es:Nat} {l F:List Value} (h:flatOf es l=some F):F.all (·.oneCell')=true:=by
  induction l generalizing F with
  | nil=>simp [flatOf] at h;subst h;rfl
  | cons v l ih =>
    unfold flatOf at h
    split at h
    · rename_i hv
      obtain ⟨G,hG,rfl⟩:=Option.map_eq_some_iff.1 h
      rw [List.all_append,hv.2,ih hG]
      rfl
    · simp at h
theorem bytes_one (s:ByteArray):(bytesOf s).all (·.oneCell')=true:=by
  rw [List.all_eq_true]
  intro x hx
  obtain ⟨b,-,rfl⟩:=List.mem_map.1 hx
  rfl

theorem made {P:Program} {R:AR} {h:Hp} {w:World} (hr:Rel R h w) {id:Nat} {k:Blk} (hk:h.blk? id=some k) (hl:k.live=true) (hn:R.rho id=none) {c:Array Value} {t:TypeId} {fz:Nat×Nat} {cc:Nat} {w':World}
    (hh:w'.heap=w.heap.push (.cells c t fz)) (ho:w'.os=w.os) (ht:w'.tape=w.tape) (hp:w'.output=w.output)
    (hfz:FzOk c.size fz) (hroom:cc * k.es≤c.size) (hlen:k.cells.length≤c.size) (hone:k.cells.all (·.oneCell')=true) (hv:∀ (o:Nat) v v',k.cells[o]? = some v→c[o]? = some v'→VR R v v')
    {s:Sem Next} {v v':Value} (hs:s.run P w = .ok (.value v') w') (hvr:VR (R.add id (w.heap.size,c.size,cc)) v v'):FOut P R h w id s v (some k):=by
  obtain ⟨hle,hrel⟩:=hr.alloc hk hl hn hh ho ht hp hfz hroom hlen hone hv
  refine ⟨v',w',_,hs,hvr,hle,hrel,fun b e hb=>?_⟩
  have hb2:(if b=id then some (w.heap.size,c.size,cc) else R.rho b)=some e:=hb
  by_cases e1:b=id
  · exact .inr ⟨rfl,e1⟩
  · rw [if_neg e1] at hb2
    exact .inl hb2
theorem add_at (R:AR) (id:Nat) (e:Nat×Nat×Nat):(R.add id e).rho id=some e:=by
  show (if id=id then _ else _)=_
  rw [if_pos rfl]
theorem ptr_made {R:AR} {h:Hp} {w:World} (hr:Rel R h w) {id:Nat} {k:Blk} (hk:h.blk? id=some k) (cb cs cc:Nat):VR (R.add id (cb,cs,cc)) (.pointer (some ⟨id,0,none⟩)) (.pointer (some ⟨cb,0,none⟩)) :=
  .ptr _ _ (.new _ _ _ _ _ (by show R.base≤id;rw [hr.base];exact (Hp.blk_lt hk).1) (add_at _ _ _))
theorem sl_made {R:AR} {h:Hp} {w:World} (hr:Rel R h w) {id:Nat} {k:Blk} (hk:h.blk? id=some k) (cb cs cc n c c':Nat) (h1:n≤c') (h2:c=n→c'=n) (h3:c=n+1→c'=cc):VR (R.add id (cb,cs,cc)) (.slice (some ⟨id,0,none⟩) n c) (.slice (some ⟨cb,0,none⟩) n c') :=
  .sl _ _ _ _ _ (.new _ _ _ _ _ _ _ _ (by show R.base≤id;rw [hr.base];exact (Hp.blk_lt hk).1) (add_at _ _ _) h1 h2 (fun e _=>h3 e))
theorem scal_VR {R:AR} {a:Array Value} {v':Value} (ha:a.all (fun | .int _ _ | .bool _ | .string _=>true | _=>false)=true) (h:VR R (.agg a) v'):v' = .agg a:=by
  cases h with
  | agg _ a' hs ka =>
    congr 1
    apply Array.ext_getElem?
    intro i
    cases h1:a[i]? with
    | none =>
      rw [Array.getElem?_eq_none_iff] at h1
      rw [Array.getElem?_eq_none (by omega)]
    | some x =>
      have hlt:=(Array.getElem?_eq_some_iff.1 h1).1
      have h2:a'[i]? = some a'[i]:=by simp [show i < a'.size by omega]
      have:=ka i _ _ h1 h2
      have hx:=Array.all_eq_true_iff_forall_mem.1 ha _ (Array.mem_of_getElem? h1)
      rw [h2]
      generalize a'[i]=y at *
      cases this <;> first | rfl | simp at hx
section
variable {P:Program} {R:AR} {h:Hp} {w:World} {id:Nat} {ev ev':Operand→Value} {v:Value} {k:Option Blk}
theorem lookup_of {α:Type} {l l':List α} {f g:α→Value} (hf:∀ x ∈ l,VR R (f x) (g x)):VRs R (l.map f) (l.map g) :=
  ⟨by simp,fun i a b h1 h2=>by
    simp only [List.getElem?_map,Option.map_eq_some_iff] at h1 h2
    obtain ⟨x,hx,rfl⟩:=h1
    obtain ⟨y,hy,rfl⟩:=h2
    rw [hx] at hy
    obtain rfl:=Option.some.inj hy
    exact hf x (List.mem_of_getElem? hx)⟩
theorem arr_of {l:List Operand} (hf:∀ x ∈ l,VR R (ev x) (ev' x)) (i:Nat) (a b:Value) (h1:((l.map ev).toArray)[i]? = some a) (h2:((l.map ev').toArray)[i]? = some b):VR R a b :=
  (lookup_of (l':=l) hf).2 i a b (by simpa using h1) (by simpa using h2)
theorem some_inj_pair {α β:Type} {a c:α} {b d:β} (h:some (a,b)=some (c,d)):a=c∧b=d:=by simpa using h
theorem map_pair {α β:Type} {o:Option α} {b d:β} {c:α} (h:o.map (·,b)=some (c,d)):o=some c∧b=d:=by
  cases o <;> simp at h
  exact ⟨by rw [h.1],h.2⟩
theorem mem1 {α:Type} {x:α} {Q:α→Prop} (h:∀ y ∈ [x],Q y):Q x:=h x (by simp)
theorem mem2 {α:Type} {x y:α} {Q:α→Prop} (h:∀ z ∈ [x,y],Q z):Q x∧Q y:=⟨h x (by simp),h y (by simp)⟩
theorem b2s_run {P:Program} {w:World} {l:List Value} {s:List UInt8} (h:strOf l=some s) {a:Addr} {n c:Nat} (hl:(loadCells a n).run P w = .ok l.toArray w):(Conv.bytesToString (.slice (some a) n c)).run P w = .ok (.string ⟨s.toArray⟩) w:=by
  simp only [Conv.bytesToString,Sem.run_bind,hl,Result.andThen_ok,List.forIn_toArray]
  rw [b2s_loop P w _ (fun n r=>rfl) l s _ h,foldl_push]
  simp [ByteArray.empty,ByteArray.emptyWithCapacity]
  rfl
theorem s2b_run {P:Program} {w:World} {e:TypeId} {s:ByteArray}:∃ (cap:Nat) (c:Array Value) (w':World),s.size≤cap∧c.size=cap∧(∀ (o:Nat) v v',(bytesOf s)[o]? = some v→c[o]? = some v'→v'=v)∧(Conv.stringToBytes e s).run P w = .ok (.slice (some ⟨w.heap.size,0,none⟩) s.size cap) w' ∧
    w'.heap=w.heap.push (.cells c e (cap,cap+1))∧w'.os=w.os∧w'.tape=w.tape∧w'.output=w.output:=by
  obtain ⟨cap,hcap,hch⟩:∃ cap,s.size≤cap∧(choose (.appendCap s.size 0 e)).run P w = .ok cap { w with drawn:=w.drawn+1 } :=
    ⟨(Question.appendCap s.size 0 e).cut (w.tape w.drawn (.appendCap s.size 0 e)),Nat.le_add_right _ _,by rw [run_choose];rfl⟩
  let el:Array Value:=s.data.map fun b=>Value.int .u8 b.toNat
  have hel:el.size=s.size:=by show (Array.map _ s.data).size=s.data.size;rw [Array.size_map]
  let c:Array Value:=el++Array.replicate (cap - s.size) (Value.int .u8 0)
  have hc:c.size=cap:=by
    show (el++Array.replicate (cap - s.size) (Value.int .u8 0)).size=cap
    rw [Array.size_append,hel,Array.size_replicate]
    omega
  refine ⟨cap,c,{ w with drawn:=w.drawn+1,heap:=w.heap.push (.cells c e (cap,cap+1)) },hcap,hc,?_,?_,rfl,rfl,rfl,rfl⟩
  · intro o v v' h1 h2
    have hlt:=(List.getElem?_eq_some_iff.1 h1).1
    have hb:(bytesOf s).length=el.size:=by simp [bytesOf,el]
    have h3:c[o]? = el[o]?:=by
      simp only [c]
      rw [Array.getElem?_append,if_pos (by omega)]
    have h4:el[o]? = (bytesOf s)[o]?:=by simp [el,bytesOf]
    rw [h3,h4,h1] at h2
    exact (Option.some.inj h2).symm
  · simp only [Conv.stringToBytes,Sem.run_bind,hch,Result.andThen_ok,newRow,run_newObj,Sem.run_pure,markStringish,run_shape]
    have hsh:({ w with drawn:=w.drawn+1,heap:=w.heap.push (.cells c e) }:World).shape? w.heap.size=some (e,cap):=by
      simp [World.shape?,hc]
    have hc':c=Array.map (fun b=>Value.int IntKind.u8 ↑(UInt8.toNat b)) s.data++Array.replicate (cap - s.size) (Value.int IntKind.u8 0):=rfl
    rw [← hc',hsh]
    simp only [Sem.run_bind,run_freeze,Result.andThen_ok,Sem.run_pure]
    congr 1
    simp only [World.freeze]
    rw [if_neg (by omega)]
    congr 1
    apply Array.ext_getElem?
    intro i
    rw [Array.getElem?_modify]
    by_cases hi:w.heap.size=i
    · subst hi
      simp
    · simp [hi]
      rw [Array.getElem?_push,Array.getElem?_push,if_neg (fun e=>hi e.symm),if_neg (fun e=>hi e.symm)]
theorem fold_set (off:Nat):∀ (l:List Value) (j:Nat) (cs:Array Value),off+j+l.length≤cs.size →
    ((l.zipIdx j).foldl (fun cs p=>cs.setIfInBounds (off+p.2) p.1) cs).size=cs.size ∧
    ∀ i,((l.zipIdx j).foldl (fun cs p=>cs.setIfInBounds (off+p.2) p.1) cs)[i]? = if off+j≤i∧i < off+j+l.length then l[i - (off+j)]? else cs[i]?
  | [],j,cs,h=>⟨rfl,fun i=>by rw [if_neg (by simp)];rfl⟩
  | v :: l, j, cs, h => by
    simp only [List.length_cons] at h
    have ih:=fold_set off l (j+1) (cs.setIfInBounds (off+j) v) (by simp;omega)
    simp only [List.zipIdx_cons,List.foldl_cons]
    refine ⟨by rw [ih.1];simp,fun i=>?_⟩
    rw [ih.2 i]
    simp only [List.length_cons]
    by_cases h1:i=off+j
    · subst h1
      rw [if_neg (by omega),if_pos (by omega),Nat.sub_self]
      simp [show off+j < cs.size by omega]
    · by_cases h2:off+j≤i∧i < off+j+(l.length+1)
      · rw [if_pos (by omega),if_pos h2]
        rw [show i - (off+j)=(i - (off+(j+1)))+1 by omega]
        rfl
      · rw [if_neg (by omega),if_neg h2,Array.getElem?_setIfInBounds,if_neg (by omega)]
theorem fill_all (size:Nat):∀ (vs:List Value) (F:List Value) (st:Nat) (cs:Array Value),flatOf size vs=some F→(st+vs.length) * size≤cs.size →
    ∃ cs',Instr.fill (fun i=>some (i * size,size)) cs ((List.range' st vs.length).zip vs)=some cs'∧cs'.size=cs.size∧(∀ i,i < st * size→cs'[i]? = cs[i]?)∧F.length=vs.length * size∧∀ i,i < F.length→cs'[st * size+i]? = F[i]?
  | [], F, st, cs, h, hs => by
    simp [flatOf] at h
    subst h
    exact ⟨cs,rfl,rfl,fun _ _=>rfl,by simp,fun i hi=>by simp at hi⟩
  | v :: vs, F, st, cs, h, hs => by
    unfold flatOf at h
    split at h
    · rename_i hv
      obtain ⟨hv,-⟩:=hv
      obtain ⟨G,hG,rfl⟩:=Option.map_eq_some_iff.1 h
      rw [List.length_cons] at hs
      have hm:(st+(vs.length+1)) * size=st * size+size+vs.length * size:=by
        rw [Nat.add_mul,Nat.add_mul];omega
      have hm2:(st+1+vs.length) * size=st * size+size+vs.length * size:=by
        rw [Nat.add_mul,Nat.add_mul];omega
      have hm3:(st+1) * size=st * size+size:=by rw [Nat.add_mul];omega
      obtain ⟨f1,f2⟩:=fold_set (st * size) v.cells.toList 0 cs (by simp [hv];omega)
      obtain ⟨cs',g1,g2,g3,g4,g5⟩:=fill_all size vs G (st+1) (v.cells.toList.zipIdx.foldl (fun cs p=>cs.setIfInBounds (st * size+p.2) p.1) cs) hG (by rw [f1];omega)
      refine ⟨cs',?_,by rw [g2,f1],fun i hi=>?_,?_,fun i hi=>?_⟩
      · rw [List.length_cons,List.range'_succ,List.zip_cons_cons]
        unfold Instr.fill
        simp only
        rw [if_neg (by simp [hv];omega)]
        rw [← g1]
        congr 1
        rw [← Array.foldl_toList,Array.toList_zipIdx]
      · rw [g3 i (by omega),f2 i,if_neg (by omega)]
      · simp [g4,hv]
        rw [Nat.add_mul]
        try omega
      · rw [List.length_append,Array.length_toList,hv] at hi
        by_cases c:i < size
        · rw [g3 _ (by omega),f2,if_pos (by simp [hv];omega),List.getElem?_append,if_pos (by simp [hv];omega)]
          congr 1
          omega
        · rw [List.getElem?_append,if_neg (by simp [hv];omega)]
          have:=g5 (i - size) (by omega)
          rw [hm3,show st * size+size+(i - size)=st * size+i by omega] at this
          rw [this]
          simp [hv]
    · simp at h
theorem flatOf_VR {R:AR} {size:Nat} {l l':List Value} (h:VRs R l l') {F:List Value} (hF:flatOf size l=some F):∃ F',flatOf size l'=some F'∧VRs R F F':=by
  induction l generalizing l' F with
  | nil =>
    cases l' with
    | nil=>exact ⟨F,hF,by simp [flatOf] at hF;subst hF;exact .nil R⟩
    | cons _ _=>simp [VRs] at h
  | cons v l ih =>
    obtain ⟨v',t',rfl,h1,h2⟩:=h.uncons
    unfold flatOf at hF
    split at hF
    · rename_i hv
      obtain ⟨G,hG,rfl⟩:=Option.map_eq_some_iff.1 hF
      obtain ⟨G',hG',hv'⟩:=ih h2 hG
      obtain ⟨c1,c2⟩:=h1.cells
      obtain ⟨hv,hvo⟩:=hv
      refine ⟨v'.cells.toList++G',?_,VRs.append ⟨by simpa using c1,fun i x x' a b=>c2 i x x' (by simpa using a) (by simpa using b)⟩ hv'⟩
      unfold flatOf
      rw [if_pos ⟨by omega,VRs.one ⟨by simpa using c1,fun i x x' a b=>c2 i x x' (by simpa using a) (by simpa using b)⟩ hvo⟩,hG']
      rfl
    · simp at hF
theorem fold_put (l:List Value):∀ (off j:Nat) (cs:List Value),((l.zipIdx j).foldl (fun (cs:Array Value) p=>cs.setIfInBounds (off+p.2) p.1) cs.toArray)=(putAt cs (off+j) l).toArray:=by
  induction l with
  | nil=>intro off j cs;rfl
  | cons v l ih =>
    intro off j cs
    simp only [List.zipIdx_cons,List.foldl_cons,putAt,List.setIfInBounds_toArray]
    rw [ih]
    rfl
theorem putAt_VRs {R:AR}:∀ (vs vs':List Value) (cs cs':List Value) (off:Nat),VRs R vs vs'→VRs R cs cs'→VRs R (putAt cs off vs) (putAt cs' off vs')
  | [], vs', cs, cs', off, hv, hc => by
    cases vs' with
    | nil=>exact hc
    | cons _ _=>simp [VRs] at hv
  | v :: vs, vs', cs, cs', off, hv, hc => by
    obtain ⟨v',t',rfl,h1,h2⟩:=hv.uncons
    refine putAt_VRs vs t' _ _ (off+1) h2 ⟨by simp [hc.1],fun o x x' ha hb=>?_⟩
    rw [List.getElem?_set] at ha hb
    by_cases e:off=o
    · subst e
      rw [if_pos rfl] at ha hb
      split at ha
      · split at hb
        · simp at ha hb
          subst ha hb
          exact h1
        · simp at hb
      · simp at ha
    · rw [if_neg e] at ha hb
      exact hc.2 o x x' ha hb
theorem fillL_run {R:AR} (place:Nat→Option (Nat×Nat)):∀ (is:List Nat) (ps:List (Nat×Nat)) (vs vs':List Value) (cs cs' F:List Value),(∀ (k i:Nat) p,is[k]? = some i→ps[k]? = some p→place i=some p)→is.length=ps.length→VRs R vs vs'→VRs R cs cs'→fillL cs ps vs=some F →
    ∃ F',Instr.fill place cs'.toArray (is.zip vs')=some F'.toArray∧VRs R F F'
  | is, [], vs, vs', cs, cs', F, hp, hl, hv, hc, hF => by
    cases vs with
    | nil =>
      simp [fillL] at hF
      subst hF
      have:is=[]:=List.eq_nil_of_length_eq_zero hl
      subst this
      exact ⟨cs',rfl,hc⟩
    | cons _ _=>simp [fillL] at hF
  | is, (off, size) :: ps, vs, vs', cs, cs', F, hp, hl, hv, hc, hF => by
    cases vs with
    | nil=>simp [fillL] at hF
    | cons v vs =>
      obtain ⟨v',t',rfl,h1,h2⟩:=hv.uncons
      cases is with
      | nil=>simp at hl
      | cons i is =>
        unfold fillL at hF
        split at hF
        · rename_i hcond
          obtain ⟨c1,c2⟩:=h1.cells
          have hvv:VRs R v.cells.toList v'.cells.toList:=⟨by simpa using c1,fun i x x' a b=>c2 i x x' (by simpa using a) (by simpa using b)⟩
          obtain ⟨F',f1,f2⟩:=fillL_run place is ps vs t' _ (putAt cs' off v'.cells.toList) F (fun k i p h3 h4=>hp (k+1) i p (by simpa using h3) (by simpa using h4)) (by simpa using hl) h2 (putAt_VRs _ _ _ _ off hvv hc) hF
          refine ⟨F',?_,f2⟩
          have hpl:place i=some (off,size):=hp 0 i (off,size) rfl rfl
          rw [List.zip_cons_cons]
          unfold Instr.fill
          simp only [hpl]
          have hcl:=hc.1
          rw [if_neg (by simp;omega)]
          rw [← f1]
          congr 1
          rw [← Array.foldl_toList,Array.toList_zipIdx]
          exact fold_put _ off 0 cs'
        · simp at hF
theorem places_run {P:Program} (fs:Array Field) (h:(fs.all fun f=>(P.info? f.type).isSome)=true) (w:World):(fs.mapM fun f=>(do pure (f.offset,← sizeOf f.type):Sem (Nat×Nat))).run P w = .ok (fs.map fun f=>(f.offset,((P.info? f.type).map (·.size)).getD 0)) w:=by
  have key:∀ l:List Field,(∀ f ∈ l,(P.info? f.type).isSome=true)→(l.mapM fun f=>(do pure (f.offset,← sizeOf f.type):Sem (Nat×Nat))).run P w = .ok (l.map fun f=>(f.offset,((P.info? f.type).map (·.size)).getD 0)) w:=by
    intro l
    induction l with
    | nil=>intro _;rfl
    | cons f l ih =>
      intro hl
      obtain ⟨inf,hi⟩:=Option.isSome_iff_exists.1 (hl f (by simp))
      rw [List.mapM_cons]
      simp only [Sem.run_bind,size_run hi,Result.andThen_ok,Sem.run_pure]
      rw [ih (fun g hg=>hl g (List.mem_cons_of_mem _ hg))]
      simp [hi]
  rw [Array.mapM_eq_mapM_toList]
  have:=key fs.toList (fun f hf=>Array.all_eq_true_iff_forall_mem.1 h f (by simpa using hf))
  simp only [Sem.run_map,this,Result.andThen_ok]
  congr 1
  apply Array.ext'
  simp

theorem fo_sound {o:Oper} {fo:FOp} (hc:compF P o=some fo) (hev:∀ x ∈ fo.reads,VR R (ev x) (ev' x)) (hr:Rel R h w) (hok:fo.ok P ev h id v k) (hid:∀ b,k=some b→h.blk? id=some b∧R.rho id=none):FOut P R h w id (execOp ev' o) v k:=by
  obtain ⟨dst,op,ty,pos,aft,grd⟩:=o
  cases op with
  | move x =>
    obtain rfl:=Option.some.inj hc
    rcases hok with hrun | ⟨_,_,_,_,_,_,_,he,_⟩
    · obtain ⟨rfl,rfl⟩:=some_inj_pair hrun
      exact FOut.same hr rfl (mem1 (Q:=fun y=>VR R (ev y) (ev' y)) hev)
    · simp at he
  | assign x =>
    obtain rfl:=Option.some.inj hc
    rcases hok with hrun | ⟨_,_,_,_,_,_,_,he,_⟩
    · obtain ⟨rfl,rfl⟩:=some_inj_pair hrun
      exact FOut.same hr rfl (mem1 (Q:=fun y=>VR R (ev y) (ev' y)) hev)
    · simp at he
  | binOp op t x y yt =>
    have fin:∀ {v':Value},(do eqGuard op t x y (ev' x) (ev' y);binOp op t (ev' x) (ev' y):Sem Value).run P w = .ok v' w→VR R v v'→FOut P R h w id (execOp ev' ⟨dst,.binOp op t x y yt,ty,pos,aft,grd⟩) v k:=fun h1 h2=>FSound.fin (FSound.same hr h1 h2)
    simp only [compF] at hc
    split at hc
    · obtain rfl:=Option.some.inj hc
      rcases hok with hrun | ⟨_,_,_,_,_,_,_,he,_⟩
      · obtain ⟨h1,rfl⟩:=map_pair hrun
        obtain ⟨hx,hy⟩:=mem2 (Q:=fun y=>VR R (ev y) (ev' y)) hev
        obtain ⟨h2,h3⟩:=abin_run h1 hx hy t x y w
        exact fin h2 h3
      · simp at he
    · obtain rfl:=Option.some.inj hc
      rcases hok with hrun | ⟨_,_,_,_,_,_,_,he,_⟩
      · obtain ⟨h1,rfl⟩:=map_pair hrun
        obtain ⟨hx,hy⟩:=mem2 (Q:=fun y=>VR R (ev y) (ev' y)) hev
        obtain ⟨h2,h3⟩:=abin_run h1 hx hy t x y w
        exact fin h2 h3
      · simp at he
    · rename_i hu
      obtain ⟨ne,hn,rfl⟩:=Option.map_eq_some_iff.1 hc
      rcases hok with hrun | ⟨_,_,_,_,_,_,_,he,_⟩
      · obtain ⟨hx,hy⟩:=mem2 (Q:=fun y=>VR R (ev y) (ev' y)) hev
        simp only [FOp.run] at hrun
        split at hrun
        · rename_i a b ha hb
          obtain ⟨rfl,rfl⟩:=some_inj_pair hrun
          rw [ha] at hx
          rw [hb] at hy
          generalize ev' x=x' at *
          generalize ev' y=y' at *
          cases hx
          cases hy
          refine fin ?_ (.bool _)
          rw [eqGuard_if _ _ _ _ _ _ (by simp) (by simp)]
          refine eql_run hn (.inr (.inr (.inl ⟨_,rfl⟩))) ?_
          exact eq_bb (und_run hu w) 9999 _ _
        · simp at hrun
      · simp at he
    · rename_i ms hu
      obtain ⟨ne,hn,rfl⟩:=Option.map_eq_some_iff.1 hc
      rcases hok with hrun | ⟨_,_,_,_,_,_,_,he,_⟩
      · obtain ⟨h1,rfl⟩:=map_pair hrun
        obtain ⟨hx,hy⟩:=mem2 (Q:=fun y=>VR R (ev y) (ev' y)) hev
        obtain ⟨h2,h3⟩:=aeqI_run hu hn h1 hx hy w
        exact fin h2 h3
      · simp at he
    · rename_i e hu
      obtain ⟨ne,hn,rfl⟩:=Option.map_eq_some_iff.1 hc
      rcases hok with hrun | ⟨_,_,_,_,_,_,_,he,_⟩
      · obtain ⟨h1,rfl⟩:=map_pair hrun
        obtain ⟨hx,hy⟩:=mem2 (Q:=fun y=>VR R (ev y) (ev' y)) hev
        obtain ⟨h2,h3⟩:=aeqN_run hu (.inl ⟨_,rfl,rfl⟩) hn h1 hx hy w
        exact fin h2 h3
      · simp at he
    · rename_i e hu
      obtain ⟨ne,hn,rfl⟩:=Option.map_eq_some_iff.1 hc
      rcases hok with hrun | ⟨_,_,_,_,_,_,_,he,_⟩
      · obtain ⟨h1,rfl⟩:=map_pair hrun
        obtain ⟨hx,hy⟩:=mem2 (Q:=fun y=>VR R (ev y) (ev' y)) hev
        obtain ⟨h2,h3⟩:=aeqN_run hu (.inr (.inl ⟨_,rfl,rfl⟩)) hn h1 hx hy w
        exact fin h2 h3
      · simp at he
    · rename_i p q r hu
      obtain ⟨ne,hn,rfl⟩:=Option.map_eq_some_iff.1 hc
      rcases hok with hrun | ⟨_,_,_,_,_,_,_,he,_⟩
      · obtain ⟨h1,rfl⟩:=map_pair hrun
        obtain ⟨hx,hy⟩:=mem2 (Q:=fun y=>VR R (ev y) (ev' y)) hev
        obtain ⟨h2,h3⟩:=aeqN_run hu (.inr (.inr ⟨_,_,_,rfl,rfl⟩)) hn h1 hx hy w
        exact fin h2 h3
      · simp at he
    · rename_i fs hu
      split at hc
      · simp at hc
      · rename_i hgt
        obtain ⟨ne,hn,rfl⟩:=Option.map_eq_some_iff.1 hc
        rcases hok with hrun | ⟨ne',t',x',y',a,b,r,he,rfl,ha,hb,hs,hrun,rfl⟩
        · simp [FOp.run] at hrun
        · simp only [FOp.eqS.injEq] at he
          obtain ⟨rfl,rfl,rfl,rfl⟩:=he
          obtain ⟨hx,hy⟩:=mem2 (Q:=fun y=>VR R (ev y) (ev' y)) hev
          rw [ha] at hx
          rw [hb] at hy
          rw [Array.all_append,Bool.and_eq_true] at hs
          have e1:=scal_VR hs.1 hx
          have e2:=scal_VR hs.2 hy
          refine fin (v':=.bool (nb ne r)) ?_ (.bool _)
          rw [e1,e2]
          have hg:(eqGuard op t x y (.agg a) (.agg b)).run P w = .ok () w:=by
            cases op <;> simp [neq?] at hn <;> simp [eqGuard,hgt]
          rw [Sem.run_bind,hg]
          exact eql_run hn (.inr (.inr (.inr (.inr (.inr (.inr ⟨_,rfl⟩)))))) (hrun w)
    · simp at hc
  | unOp op t x =>
    obtain rfl:=Option.some.inj hc
    rcases hok with hrun | ⟨_,_,_,_,_,_,_,he,_⟩
    · obtain ⟨h1,rfl⟩:=map_pair hrun
      have hx:=mem1 (Q:=fun y=>VR R (ev y) (ev' y)) hev
      unfold aun at h1
      split at h1
      · rename_i kk n hv
        rw [hv] at hx
        have hp:=semPure_run h1 P w
        refine FSound.fin (FSound.same (v':=v) hr ?_ ?_)
        · generalize ev' x=x' at *
          cases hx
          exact hp
        · have:∃ k n,v = .int k n:=by
            unfold semPure at h1
            split at h1
            · rename_i u hu
              obtain rfl:=Option.some.inj h1
              cases op <;> simp only [Op.unary,Op.intArith,Op.intBits,stuck] at hu <;> first | (simp only [pure,Sem.pure.injEq,reduceCtorEq] at hu;subst hu;exact ⟨_,_,rfl⟩) | (cases hu;done)
            · simp at h1
          obtain ⟨_,_,rfl⟩:=this
          constructor
      · rename_i b hv
        rw [hv] at hx
        have hp:=semPure_run h1 P w
        refine FSound.fin (FSound.same (v':=v) hr ?_ ?_)
        · generalize ev' x=x' at *
          cases hx
          exact hp
        · have:∃ b,v = .bool b:=by
            unfold semPure at h1
            split at h1
            · rename_i u hu
              obtain rfl:=Option.some.inj h1
              cases op <;> simp only [Op.unary,stuck] at hu <;> first | (simp only [pure,Sem.pure.injEq,reduceCtorEq] at hu;subst hu;exact ⟨_,rfl⟩) | (cases hu;done)
            · simp at h1
          obtain ⟨_,rfl⟩:=this
          constructor
      · simp at h1
    · simp at he
  | makeInterface t x =>
    simp only [compF] at hc
    split at hc
    · simp at hc
    · rename_i d h1 hu
      obtain rfl:=Option.some.inj hc
      rcases hok with hrun | ⟨_,_,_,_,_,_,_,he,_⟩
      · obtain ⟨rfl,rfl⟩:=some_inj_pair hrun
        have hx:=mem1 (Q:=fun y=>VR R (ev y) (ev' y)) hev
        refine FSound.fin (FSound.same (v':=.iface t (ev' x)) hr ?_ (.iface _ _ _ hx))
        unfold Instr.makeInterface
        rw [Sem.run_bind,und_run hu]
        cases d <;> first | rfl | exact absurd rfl (h1 _)
      · simp at he
    · simp at hc
  | makeFunc fn f c =>
    obtain rfl:=Option.some.inj hc
    rcases hok with hrun | ⟨_,_,_,_,_,_,_,he,_⟩
    · obtain ⟨rfl,rfl⟩:=some_inj_pair hrun
      have hf:∀ x ∈ f.toList,VR R (ev x) (ev' x):=fun x hx=>hev x (by simp only [FOp.reads];exact List.mem_append_left _ hx)
      have hg:∀ x ∈ c.toList,VR R (ev x) (ev' x):=fun x hx=>hev x (by simp only [FOp.reads];exact List.mem_append_right _ hx)
      have e1:f.map ev'=(f.toList.map ev').toArray:=by apply Array.ext';simp
      have e2:c.map ev'=(c.toList.map ev').toArray:=by apply Array.ext';simp
      refine FSound.fin (FSound.same (v':=.func fn (f.map ev') (c.map ev')) hr rfl ?_)
      rw [e1,e2]
      exact .func _ _ _ _ _ (by simp) (by simp) (arr_of hf) (arr_of hg)
    · simp at he
  | extract x i =>
    obtain rfl:=Option.some.inj hc
    rcases hok with hrun | ⟨_,_,_,_,_,_,_,he,_⟩
    · have hx:=mem1 (Q:=fun y=>VR R (ev y) (ev' y)) hev
      simp only [FOp.run] at hrun
      split at hrun
      · rename_i vs hv
        obtain ⟨h1,rfl⟩:=map_pair hrun
        rw [hv] at hx
        have hs:∃ v',(Instr.extract (ev' x) i).run P w = .ok v' w∧VR R v v':=by
          generalize ev' x=x' at *
          cases hx with
          | tuple _ a' ha ka =>
            have hlt:=(Array.getElem?_eq_some_iff.1 h1).1
            have h2:a'[i]? = some a'[i]:=by simp [show i < a'.size by omega]
            exact ⟨a'[i],by simp [Instr.extract,h2],ka i _ _ h1 h2⟩
        obtain ⟨v',h2,h3⟩:=hs
        exact FSound.fin (FSound.same hr h2 h3)
      · simp at hrun
    · simp at he
  | field t x i =>
    simp only [compF] at hc
    split at hc
    · rename_i fs hu
      split at hc
      · rename_i f hf
        split at hc
        · rename_i inf ha hi
          obtain rfl:=Option.some.inj hc
          rcases hok with hrun | ⟨_,_,_,_,_,_,_,he,_⟩
          · have hx:=mem1 (Q:=fun y=>VR R (ev y) (ev' y)) hev
            simp only [FOp.run] at hrun
            split at hrun
            · rename_i cs hv
              obtain ⟨h1,rfl⟩:=map_pair hrun
              obtain rfl:=Option.some.inj h1
              rw [hv] at hx
              have hs:∃ v',(Instr.field t (ev' x) i).run P w = .ok v' w∧VR R (.agg (cs.extract f.offset (f.offset+inf.size))) v':=by
                generalize ev' x=x' at *
                cases hx with
                | agg _ a' hs ka =>
                  refine ⟨.agg (a'.extract f.offset (f.offset+inf.size)),?_,?_⟩
                  · simp [Instr.field,und_run hu,hf,asAgg,part,agg_run ha,size_run hi]
                  · refine .agg _ _ (by simp [hs]) (fun j y y' h1 h2=>?_)
                    simp only [Array.getElem?_extract] at h1 h2
                    rw [hs] at h1
                    split at h1
                    · rename_i hj
                      rw [if_pos hj] at h2
                      exact ka _ _ _ h1 h2
                    · simp at h1
              obtain ⟨v',h2,h3⟩:=hs
              exact FSound.fin (FSound.same hr h2 h3)
            · simp at hrun
          · simp at he
        · rename_i inf ha hi
          obtain rfl:=Option.some.inj hc
          rcases hok with hrun | ⟨_,_,_,_,_,_,_,he,_⟩
          · have hx:=mem1 (Q:=fun y=>VR R (ev y) (ev' y)) hev
            simp only [FOp.run] at hrun
            split at hrun
            · rename_i cs hv
              obtain ⟨h1,rfl⟩:=map_pair hrun
              rw [hv] at hx
              have hs:∃ v',(Instr.field t (ev' x) i).run P w = .ok v' w∧VR R v v':=by
                generalize ev' x=x' at *
                cases hx with
                | agg _ a' hs ka =>
                  have hlt:=(Array.getElem?_eq_some_iff.1 h1).1
                  have h2:a'[f.offset]? = some a'[f.offset]:=by simp [show f.offset < a'.size by omega]
                  refine ⟨a'[f.offset],?_,ka _ _ _ h1 h2⟩
                  simp [Instr.field,und_run hu,hf,asAgg,part,agg_run ha,h2]
              obtain ⟨v',h2,h3⟩:=hs
              exact FSound.fin (FSound.same hr h2 h3)
            · simp at hrun
          · simp at he
        · simp at hc
      · simp at hc
    · simp at hc
  | fieldAddr t x i =>
    simp only [compF] at hc
    split at hc
    · rename_i fs hu
      split at hc
      · rename_i f hf
        split at hc
        · rename_i inf hi
          split at hc
          · simp at hc
          · rename_i hsz
            obtain rfl:=Option.some.inj hc
            rcases hok with hrun | ⟨_,_,_,_,_,_,_,he,_⟩
            · have hx:=mem1 (Q:=fun y=>VR R (ev y) (ev' y)) hev
              simp only [FOp.run] at hrun
              split at hrun
              · rename_i a hv
                split at hrun
                · simp at hrun
                · rename_i hsp
                  obtain ⟨rfl,rfl⟩:=some_inj_pair hrun
                  rw [hv] at hx
                  have hs:∃ v',(Instr.fieldAt t (ev' x) i).run P w = .ok v' w∧VR R (.pointer (some (a.add f.offset))) v':=by
                    generalize ev' x=x' at *
                    cases hx with
                    | ptr _ a' ha =>
                      refine ⟨.pointer (some (a'.add f.offset)),?_,.ptr _ _ (ha.add (fun k=>hsp k.2) _)⟩
                      simp [Instr.fieldAt,und_run hu,hf,Instr.sureAddr,fieldPlace,size_run hi,hsz]
                  obtain ⟨v',h2,h3⟩:=hs
                  exact FSound.fin (FSound.same hr h2 h3)
              · simp at hrun
            · simp at he
        · simp at hc
      · simp at hc
    · simp at hc
  | indexAddr t x i =>
    simp only [compF] at hc
    split at hc
    · rename_i e hu
      obtain ⟨inf,hi,rfl⟩:=Option.map_eq_some_iff.1 hc
      rcases hok with hrun | ⟨_,_,_,_,_,_,_,he,_⟩
      · obtain ⟨hx,hy⟩:=mem2 (Q:=fun y=>VR R (ev y) (ev' y)) hev
        simp only [FOp.run] at hrun
        split at hrun
        · rename_i a n c kk j hv hw
          split at hrun
          · rename_i hj
            obtain ⟨rfl,rfl⟩:=some_inj_pair hrun
            rw [hv] at hx
            rw [hw] at hy
            have hs:∃ v',(Instr.indexAt t (ev' x) (ev' i)).run P w = .ok v' w∧VR R (.pointer (some (a.add (j.toNat * inf.size)))) v':=by
              generalize ev' x=x' at *
              generalize ev' i=i' at *
              cases hy
              cases hx with
              | sl _ a' _ _ c' hsl =>
                refine ⟨.pointer (some (a'.add (j.toNat * inf.size))),?_,?_⟩
                · simp [Instr.indexAt,asIntOf,und_run hu,size_run hi,hj]
                · by_cases hd:R.dead a.block∧R.base≤a.block
                  · refine .ptr _ _ (.dead _ _ ?_ ?_)
                    · unfold Addr.add;split <;> exact hd.2
                    · unfold Addr.add;split <;> exact hd.1
                  · refine .ptr _ _ (hsl.addr.add (fun k=>?_) _)
                    exact hsl.junk0 (by omega) (fun h=>hd ⟨h,k.1⟩) k
            obtain ⟨v',h2,h3⟩:=hs
            exact FSound.fin (FSound.same hr h2 h3)
          · simp at hrun
        · simp at hrun
      · simp at he
    · simp at hc
  | index t x i =>
    simp only [compF] at hc
    split at hc
    · rename_i hu
      obtain rfl:=Option.some.inj hc
      rcases hok with hrun | ⟨_,_,_,_,_,_,_,he,_⟩
      · obtain ⟨hx,hy⟩:=mem2 (Q:=fun y=>VR R (ev y) (ev' y)) hev
        simp only [FOp.run] at hrun
        split at hrun
        · rename_i s kk j hv hw
          split at hrun
          · rename_i hj
            obtain ⟨b,hb,hb2⟩:=Option.map_eq_some_iff.1 hrun
            simp only [Prod.mk.injEq] at hb2
            obtain ⟨rfl,rfl⟩:=hb2
            rw [hv] at hx
            rw [hw] at hy
            have hs:(Instr.index t (ev' x) (ev' i)).run P w = .ok (.int .u8 b.toNat) w:=by
              generalize ev' x=x' at *
              generalize ev' i=i' at *
              cases hy
              cases hx
              simp [Instr.index,asIntOf,und_run hu,hj,hb]
            exact FSound.fin (FSound.same hr hs (.int _ _))
          · simp at hrun
        · simp at hrun
      · simp at he
    · simp at hc
  | load t x =>
    simp only [compF] at hc
    split at hc
    · rename_i inf ha hi
      obtain rfl:=Option.some.inj hc
      rcases hok with hrun | ⟨_,_,_,_,_,_,_,he,_⟩
      · have hx:=mem1 (Q:=fun y=>VR R (ev y) (ev' y)) hev
        simp only [FOp.run] at hrun
        split at hrun
        · rename_i a hv
          obtain ⟨h1,rfl⟩:=map_pair hrun
          obtain ⟨l,hl,rfl⟩:=Option.map_eq_some_iff.1 h1
          rw [hv] at hx
          have hs:∃ v',(Instr.loadAt t (ev' x)).run P w = .ok v' w∧VR R (.agg l.toArray) v':=by
            generalize ev' x=x' at *
            cases hx with
            | ptr _ a' had =>
              obtain ⟨l',h2,-,h3,h4⟩:=hr.cells P had hl
              refine ⟨.agg l'.toArray,?_,.agg _ _ (by simpa using h2.1) (fun j y y' k1 k2=>h2.2 j y y' (by simpa using k1) (by simpa using k2))⟩
              simp [Instr.loadAt,Instr.sureAddr,loadVar,agg_run ha,size_run hi,h4]
          obtain ⟨v',h2,h3⟩:=hs
          exact FSound.fin (FSound.same hr h2 h3)
        · simp at hrun
      · simp at he
    · rename_i inf ha hi
      obtain rfl:=Option.some.inj hc
      rcases hok with hrun | ⟨_,_,_,_,_,_,_,he,_⟩
      · have hx:=mem1 (Q:=fun y=>VR R (ev y) (ev' y)) hev
        simp only [FOp.run] at hrun
        split at hrun
        · rename_i a hv
          obtain ⟨h1,rfl⟩:=map_pair hrun
          rw [hv] at hx
          have hs:∃ v',(Instr.loadAt t (ev' x)).run P w = .ok v' w∧VR R v v':=by
            generalize ev' x=x' at *
            cases hx with
            | ptr _ a' had =>
              obtain ⟨v',h2,h3,-⟩:=hr.cell had h1
              refine ⟨v',?_,h3⟩
              simp [Instr.loadAt,Instr.sureAddr,loadVar,agg_run ha,h2]
          obtain ⟨v',h2,h3⟩:=hs
          exact FSound.fin (FSound.same hr h2 h3)
        · simp at hrun
      · simp at he
    · simp at hc
  | nilCheck x =>
    obtain rfl:=Option.some.inj hc
    rcases hok with hrun | ⟨_,_,_,_,_,_,_,he,_⟩
    · have hx:=mem1 (Q:=fun y=>VR R (ev y) (ev' y)) hev
      simp only [FOp.run] at hrun
      have fin:∀ {v':Value},(execOp ev' ⟨dst,.nilCheck x,ty,pos,aft,grd⟩).run P w = .ok (.value v') w→VR R v v'→FOut P R h w id (execOp ev' ⟨dst,.nilCheck x,ty,pos,aft,grd⟩) v k:=fun h1 h2=>FOut.same hr h1 h2
      simp only [execOp] at fin ⊢
      split at hrun
      · rename_i a hv
        obtain ⟨rfl,rfl⟩:=some_inj_pair hrun
        rw [hv] at hx
        generalize ev' x=x' at *
        cases hx with
        | ptr _ a' ha=>exact fin rfl (.ptr _ _ ha)
      · rename_i f p q hv
        obtain ⟨rfl,rfl⟩:=some_inj_pair hrun
        rw [hv] at hx
        generalize ev' x=x' at *
        cases hx with
        | func _ _ a' _ b' ha hb ka kb=>exact fin rfl (.func _ _ _ _ _ ha hb ka kb)
      · rename_i u y hv
        obtain ⟨rfl,rfl⟩:=some_inj_pair hrun
        rw [hv] at hx
        generalize ev' x=x' at *
        cases hx with
        | iface _ _ y' hy=>exact fin rfl (.iface _ _ _ hy)
      · simp at hrun
    · simp at he
  | convert src dt x =>
    simp only [compF] at hc
    split at hc
    · rename_i k1 k2 h1 h2
      obtain rfl:=Option.some.inj hc
      rcases hok with hrun | ⟨_,_,_,_,_,_,_,he,_⟩
      · have hx:=mem1 (Q:=fun y=>VR R (ev y) (ev' y)) hev
        simp only [FOp.run] at hrun
        split at hrun
        · rename_i kk n hv
          obtain ⟨rfl,rfl⟩:=some_inj_pair hrun
          rw [hv] at hx
          have hs:(Go.convert src dt (ev' x)).run P w = .ok (.int k2 (k2.wrap n)) w:=by
            generalize ev' x=x' at *
            cases hx
            simp [Go.convert,und_run h1,und_run h2,Conv.intToInt]
          exact FSound.fin (FSound.same hr hs (.int _ _))
        · simp at hrun
      · simp at he
    · rename_i h1 h2
      obtain rfl:=Option.some.inj hc
      rcases hok with hrun | ⟨_,_,_,_,_,_,_,he,_⟩
      · have hx:=mem1 (Q:=fun y=>VR R (ev y) (ev' y)) hev
        simp only [FOp.run] at hrun
        split at hrun
        · rename_i s hv
          obtain ⟨rfl,rfl⟩:=some_inj_pair hrun
          rw [hv] at hx
          have hs:(Go.convert src dt (ev' x)).run P w = .ok (.string s) w:=by
            generalize ev' x=x' at *
            cases hx
            simp [Go.convert,und_run h1,und_run h2]
          exact FSound.fin (FSound.same hr hs (.string _))
        · simp at hrun
      · simp at he
    · rename_i e h1 h2
      split at hc
      · rename_i hb
        have hbe:P.underlying e=some (.int .u8):=by
          unfold byteT at hb
          split at hb
          · assumption
          · simp at hb
        obtain rfl:=Option.some.inj hc
        rcases hok with hrun | ⟨_,_,_,_,_,_,_,he,_⟩
        · have hx:=mem1 (Q:=fun y=>VR R (ev y) (ev' y)) hev
          simp only [FOp.run] at hrun
          split at hrun
          · rename_i n c hv
            obtain ⟨rfl,rfl⟩:=some_inj_pair hrun
            rw [hv] at hx
            have hs:(Go.convert src dt (ev' x)).run P w = .ok (.string .empty) w:=by
              generalize ev' x=x' at *
              cases hx
              simp [Go.convert,und_run h1,und_run h2,und_run hbe,Conv.bytesToString]
            exact FSound.fin (FSound.same hr hs (.string _))
          · rename_i a n c hv
            obtain ⟨l,hl,hl2⟩:=Option.map_eq_some_iff.1 hrun
            obtain ⟨cs,hcs,hst⟩:=Option.bind_eq_some_iff.1 hl
            simp only [Prod.mk.injEq] at hl2
            obtain ⟨rfl,rfl⟩:=hl2
            rw [hv] at hx
            have hs:(Go.convert src dt (ev' x)).run P w = .ok (.string ⟨l.toArray⟩) w:=by
              generalize ev' x=x' at *
              cases hx with
              | sl _ a' _ _ c' hsl =>
                obtain ⟨l',k1,-,k2,k3⟩:=hr.cells P hsl.addr hcs
                obtain rfl:=strOf_run hst k1
                have:=b2s_run (c:=c') hst k3
                simp [Go.convert,und_run h1,und_run h2,und_run hbe,this]
            exact FSound.fin (FSound.same hr hs (.string _))
          · simp at hrun
        · simp at he
      · simp at hc
    · rename_i e h1 h2
      split at hc
      · rename_i hb
        have hbe:P.underlying e=some (.int .u8):=by
          unfold byteT at hb
          split at hb
          · assumption
          · simp at hb
        obtain rfl:=Option.some.inj hc
        rcases hok with hrun | ⟨_,_,_,_,_,_,_,he,_⟩
        · have hx:=mem1 (Q:=fun y=>VR R (ev y) (ev' y)) hev
          simp only [FOp.run] at hrun
          split at hrun
          · rename_i s hv
            obtain ⟨rfl,rfl⟩:=some_inj_pair hrun
            rw [hv] at hx
            obtain ⟨hk,hn⟩:=hid _ rfl
            obtain ⟨cap,c,w',k1,k2,k3,k4,k5,k6,k7,k8⟩:=s2b_run (P:=P) (w:=w) (e:=e) (s:=s)
            have hs:(Go.convert src dt (ev' x)).run P w = .ok (.slice (some ⟨w.heap.size,0,none⟩) s.size cap) w':=by
              generalize ev' x=x' at *
              cases hx
              simp [Go.convert,und_run h1,und_run h2,und_run hbe,k4]
            refine made (cc:=cap) hr hk rfl hn k5 k6 k7 k8 (by rw [k2];exact FzOk.behind _) (by simp [k2]) (by simp [bytesOf,k2];exact k1) (bytes_one s) (fun o y y' a1 a2=>?_) (v':=.slice (some ⟨w.heap.size,0,none⟩) s.size cap) (by show (do pure (Next.value (← Go.convert src dt (ev' x))):Sem Next).run P w=_;simp [hs]) (sl_made hr hk _ _ _ _ _ _ k1 (fun e=>by omega) (fun _=>rfl))
            rw [k3 o y y' a1 a2]
            simp only [bytesOf,List.getElem?_map,Option.map_eq_some_iff] at a1
            obtain ⟨z,-,rfl⟩:=a1
            exact .int _ _
          · simp at hrun
        · simp at he
      · simp at hc
    · simp at hc
  | slice t x lo hi mx =>
    cases mx with
    | some _=>simp [compF] at hc
    | none =>
    simp only [compF] at hc
    have hlo:∀ fo:FOp,(fo = .slS x lo hi∨∃ sz,fo = .slc sz x lo hi)→(∀ y ∈ fo.reads,VR R (ev y) (ev' y))→VR R (ev x) (ev' x)∧(∀ v v',lo.map ev=some v→lo.map ev'=some v'→VR R v v')∧(∀ v v',hi.map ev=some v→hi.map ev'=some v'→VR R v v'):=by
      intro fo hfo hr
      have hr2:∀ y ∈ x::(lo.toList++hi.toList),VR R (ev y) (ev' y):=by
        rcases hfo with rfl | ⟨sz,rfl⟩ <;> exact hr
      refine ⟨hr2 x (by simp),fun v v' h1 h2=>?_,fun v v' h1 h2=>?_⟩
      · cases lo with
        | none=>simp at h1
        | some y=>simp at h1 h2;subst h1 h2;exact hr2 y (by simp)
      · cases hi with
        | none=>simp at h1
        | some y=>simp at h1 h2;subst h1 h2;exact hr2 y (by simp)
    split at hc
    · rename_i hu
      obtain rfl:=Option.some.inj hc
      rcases hok with hrun | ⟨_,_,_,_,_,_,_,he,_⟩
      · obtain ⟨hx,h1,h2⟩:=hlo _ (.inl rfl) hev
        simp only [FOp.run] at hrun
        split at hrun
        · rename_i s hv
          obtain ⟨⟨l,g⟩,hcut,hp⟩:=Option.map_eq_some_iff.1 hrun
          simp only [Prod.mk.injEq] at hp
          obtain ⟨rfl,rfl⟩:=hp
          rw [hv] at hx
          obtain ⟨k1,k2,k3⟩:=cutB_run (P:=P) (R:=R) (Nat.le_refl s.size) hcut (lo':=lo.map ev') (hi':=hi.map ev') (by simp) (by simp) h1 h2 false w
          have hs:(Instr.sliceAt t (ev' x) (lo.map ev') (hi.map ev') none).run P w = .ok (.string (s.extract l g)) w:=by
            generalize ev' x=x' at *
            cases hx
            simp [Instr.sliceAt,Instr.slice,und_run hu,k3]
          exact FSound.fin (FSound.same hr hs (.string _))
        · simp at hrun
      · simp at he
    · rename_i e hu
      obtain ⟨inf,hi',rfl⟩:=Option.map_eq_some_iff.1 hc
      rcases hok with hrun | ⟨_,_,_,_,_,_,_,he,_⟩
      · obtain ⟨hx,h1,h2⟩:=hlo _ (.inr ⟨_,rfl⟩) hev
        simp only [FOp.run] at hrun
        split at hrun
        · rename_i a n c hv
          split at hrun
          · rename_i hnc
            obtain ⟨⟨l,g⟩,hcut,hp⟩:=Option.map_eq_some_iff.1 hrun
            simp only [Prod.mk.injEq] at hp
            obtain ⟨rfl,rfl⟩:=hp
            rw [hv] at hx
            have hs:∃ v',(Instr.sliceAt t (ev' x) (lo.map ev') (hi.map ev') none).run P w = .ok v' w∧VR R (cutS h.old.heap.size inf.size a n c l g) v':=by
              generalize ev' x=x' at *
              have hx2:∃ a' c',x' = .slice a' n c'∧n≤c':=by
                cases hx with
                | nils _ _=>exact ⟨_,_,rfl,hnc⟩
                | sl a a' _ _ c' hsl =>
                  refine ⟨_,_,rfl,?_⟩
                  by_cases hb:a.block < R.base
                  · cases hsl with
                    | old=>exact hnc
                    | new=>simp at hb;omega
                    | dead=>omega
                    | junk=>omega
                  · exact hsl.len hb
              obtain ⟨a',c',rfl,hn⟩:=hx2
              obtain ⟨k1,k2,k3⟩:=cutB_run (P:=P) (R:=R) hn hcut (lo':=lo.map ev') (hi':=hi.map ev') (by simp) (by simp) h1 h2 true w
              refine ⟨_,?_,cutS_run (P:=P) (size:=inf.size) hr.base hx k1 k2⟩
              simp [Instr.sliceAt,Instr.slice,und_run hu,k3,size_run hi']
            obtain ⟨v',h3,h4⟩:=hs
            exact FSound.fin (FSound.same hr h3 h4)
          · simp at hrun
        · simp at hrun
      · simp at he
    · simp at hc
  | alloc t =>
    simp only [compF] at hc
    obtain ⟨inf,hi,hc⟩:=Option.bind_eq_some_iff.1 hc
    obtain ⟨z,hz,hc⟩:=Option.bind_eq_some_iff.1 hc
    split at hc
    · rename_i hp
      obtain rfl:=Option.some.inj hc
      rcases hok with hrun | ⟨_,_,_,_,_,_,_,he,_⟩
      · obtain ⟨rfl,rfl⟩:=some_inj_pair hrun
        obtain ⟨hk,hn⟩:=hid _ rfl
        have hs:(Instr.alloc t true (.tuple #[])).run P w = .ok (.pointer (some ⟨w.heap.size,0,none⟩)) { w with heap:=w.heap.push (.cells z.cells t) }:=by
          simp [Instr.alloc,zero_run hi hz,newVar,newRow]
        refine made (cc:=0) (w':={ w with heap:=w.heap.push (.cells z.cells t) }) hr hk rfl hn rfl rfl rfl rfl (FzOk.zero _) (by simp) (by simp) (plain_one (fun x hx=>Array.all_eq_true_iff_forall_mem.1 hp x (by simpa using hx))) (fun o y y' a1 a2=>?_) (by show (do pure (Next.value (← Instr.alloc t true (.tuple #[]))):Sem Next).run P w=_;rw [Sem.run_bind,hs];rfl) (ptr_made hr hk _ _ _)
        simp only [Array.getElem?_toList] at a1
        rw [a1] at a2
        obtain rfl:=Option.some.inj a2
        exact plainC_VR (Array.all_eq_true_iff_forall_mem.1 hp _ (Array.mem_of_getElem? a1))
      · simp at he
    · simp at hc
  | box t x =>
    obtain rfl:=Option.some.inj hc
    rcases hok with hrun | ⟨_,_,_,_,_,_,_,he,_⟩
    · have hx:=mem1 (Q:=fun y=>VR R (ev y) (ev' y)) hev
      simp only [FOp.run] at hrun
      split at hrun
      case isFalse=>simp at hrun
      rename_i hone
      obtain ⟨rfl,rfl⟩:=some_inj_pair hrun
      obtain ⟨hk,hn⟩:=hid _ rfl
      obtain ⟨c1,c2⟩:=hx.cells
      have hs:(Instr.box t (ev' x)).run P w = .ok (.pointer (some ⟨w.heap.size,0,none⟩)) { w with heap:=w.heap.push (.cells (ev' x).cells t) }:=by
        simp [Instr.box,newVar,newRow]
      exact made (cc:=0) (w':={ w with heap:=w.heap.push (.cells (ev' x).cells t) }) hr hk rfl hn rfl rfl rfl rfl (FzOk.zero _) (by simp) (by simp [c1]) hone (fun o y y' a1 a2=>c2 o y y' (by simpa using a1) a2) (by show (do pure (Next.value (← Instr.box t (ev' x))):Sem Next).run P w=_;rw [Sem.run_bind,hs];rfl) (ptr_made hr hk _ _ _)
    · simp at he
  | typeAssert x xt t ok =>
    have key:∀ d:TypeDesc,P.underlying t=some d→(∀ m,d≠.interface m)→∀ inf,P.info? t=some inf→∀ z,inf.zero=some z→plainV z=true→fo = .tas t ok z x→FOut P R h w id (execOp ev' ⟨dst,.typeAssert x xt t ok,ty,pos,aft,grd⟩) v k:=by
      intro d hu hd inf hi z hz hp hfo
      subst hfo
      rcases hok with hrun | ⟨_,_,_,_,_,_,_,he,_⟩
      · have hx:=mem1 (Q:=fun y=>VR R (ev y) (ev' y)) hev
        simp only [FOp.run] at hrun
        split at hrun
        · rename_i u y hv
          rw [hv] at hx
          have hs:∃ v',(Instr.typeAssert (ev' x) xt t ok).run P w = .ok v' w∧VR R v v':=by
            generalize ev' x=x' at *
            cases hx with
            | iface _ _ y' hy =>
              split at hrun
              · rename_i hut
                obtain ⟨rfl,rfl⟩:=some_inj_pair hrun
                refine ⟨if ok=true then .tuple #[y',.bool true] else y',?_,?_⟩
                · cases d <;> first | (simp [Instr.typeAssert,und_run hu,hut];done) | exact absurd rfl (hd _)
                · cases ok
                  · exact hy
                  · refine .tuple _ _ rfl (fun i a b h1 h2=>?_)
                    match i with
                    | 0=>simp at h1 h2;subst h1 h2;exact hy
                    | 1=>simp at h1 h2;subst h1 h2;exact .bool _
                    | i+2=>simp at h1
              · rename_i hut
                split at hrun
                · rename_i hok
                  obtain ⟨rfl,rfl⟩:=some_inj_pair hrun
                  refine ⟨.tuple #[z,.bool false],?_,?_⟩
                  · cases d <;> first | (simp [Instr.typeAssert,und_run hu,hut,hok,zero_run hi hz];done) | exact absurd rfl (hd _)
                  · refine .tuple _ _ rfl (fun i a b h1 h2=>?_)
                    match i with
                    | 0=>simp at h1 h2;subst h1 h2;exact plainV_VR hp
                    | 1=>simp at h1 h2;subst h1 h2;exact .bool _
                    | i+2=>simp at h1
                · simp at hrun
          obtain ⟨v',h2,h3⟩:=hs
          exact FSound.fin (FSound.same hr h2 h3)
        · rename_i hv
          rw [hv] at hx
          split at hrun
          · rename_i hok
            obtain ⟨rfl,rfl⟩:=some_inj_pair hrun
            have hs:∃ v',(Instr.typeAssert (ev' x) xt t ok).run P w = .ok v' w∧VR R (.tuple #[z,.bool false]) v':=by
              generalize ev' x=x' at *
              cases hx
              refine ⟨.tuple #[z,.bool false],?_,?_⟩
              · cases d <;> first | (simp [Instr.typeAssert,und_run hu,hok,zero_run hi hz];done) | exact absurd rfl (hd _)
              · refine .tuple _ _ rfl (fun i a b h1 h2=>?_)
                match i with
                | 0=>simp at h1 h2;subst h1 h2;exact plainV_VR hp
                | 1=>simp at h1 h2;subst h1 h2;exact .bool _
                | i+2=>simp at h1
            obtain ⟨v',h2,h3⟩:=hs
            exact FSound.fin (FSound.same hr h2 h3)
          · simp at hrun
        · simp at hrun
      · simp at he
    simp only [compF] at hc
    split at hc
    · rename_i e hu
      obtain ⟨inf,hi,hc⟩:=Option.bind_eq_some_iff.1 hc
      obtain ⟨z,hz,hc⟩:=Option.bind_eq_some_iff.1 hc
      split at hc
      · rename_i hp
        exact key _ hu (by simp) inf hi z hz hp (Option.some.inj hc).symm
      · simp at hc
    · rename_i e hu
      obtain ⟨inf,hi,hc⟩:=Option.bind_eq_some_iff.1 hc
      obtain ⟨z,hz,hc⟩:=Option.bind_eq_some_iff.1 hc
      split at hc
      · rename_i hp
        exact key _ hu (by simp) inf hi z hz hp (Option.some.inj hc).symm
      · simp at hc
    · simp at hc
  | makeSlice t l c =>
    simp only [compF] at hc
    split at hc
    · rename_i e hu
      obtain ⟨inf,hi,hc⟩:=Option.bind_eq_some_iff.1 hc
      obtain ⟨z,hz,hc⟩:=Option.bind_eq_some_iff.1 hc
      split at hc
      · rename_i hp
        obtain ⟨hp,hz0⟩:=hp
        obtain rfl:=Option.some.inj hc
        rcases hok with hrun | ⟨_,_,_,_,_,_,_,he,_⟩
        · obtain ⟨hx,hy⟩:=mem2 (Q:=fun y=>VR R (ev y) (ev' y)) hev
          simp only [FOp.run] at hrun
          split at hrun
          · rename_i k1 n k2 m hv hw
            split at hrun
            · rename_i hcnd
              obtain ⟨rfl,hn0,hn1,hn2⟩:=hcnd
              obtain ⟨rfl,rfl⟩:=some_inj_pair hrun
              rw [hv] at hx
              rw [hw] at hy
              obtain ⟨hk,hn⟩:=hid _ rfl
              obtain ⟨N,rfl⟩:∃ N:Nat,n=(N:Int):=⟨n.toNat,by omega⟩
              have hwr:IntKind.i64.wrap (N:Int)=(N:Int):=IntWalk.i64_in _ (by omega)
              let cs:Array Value:=(Array.range (N * inf.size)).map (z.cells[· % z.cells.size]!)
              have hs:(Instr.makeSlice t (ev' l) (ev' c)).run P w = .ok (.slice (some ⟨w.heap.size,0,none⟩) N N) { w with heap:=w.heap.push (.cells cs e) }:=by
                generalize ev' l=x' at *
                generalize ev' c=y' at *
                cases hx
                cases hy
                have hai:∀ (k:IntKind) (n:Int) (w:World),(asInt (.int k n)).run P w = .ok n w:=fun _ _ _=>rfl
                have e1:¬ ((N:Int) < 0):=by omega
                have e2:¬ (281474976710656 < (inf.bytes:Int) * (N:Int)):=by omega
                by_cases h0:N * inf.size=0
                · have hcs:cs = #[]:=by simp [cs,h0]
                  rw [hcs]
                  simp [Instr.makeSlice,und_run hu,info_run hi,size_run hi,hai,hwr,h0,newRow,e1,e2]
                  rw [Array.eq_empty_of_size_eq_zero (xs:=Array.range 0) (by simp),Array.map_empty]
                · simp [Instr.makeSlice,und_run hu,info_run hi,size_run hi,hai,hwr,zero_run hi hz,newRow,e1,e2]
                  rw [if_neg h0]
              refine made (cc:=N) (w':={ w with heap:=w.heap.push (.cells cs e) }) hr hk rfl hn rfl rfl rfl rfl (FzOk.zero _) (by simp [cs]) (by simp [cs,zerosOf]) (zeros_one hp hz0) (fun o y y' a1 a2=>?_) (by show (do pure (Next.value (← Instr.makeSlice t (ev' l) (ev' c))):Sem Next).run P w=_;rw [Sem.run_bind,hs];rfl) (sl_made hr hk _ _ _ _ _ _ (by simp) (fun _=>by simp) (fun e=>by simp at e))
              have hlt:o < N * inf.size:=by
                have:=(List.getElem?_eq_some_iff.1 a1).1
                simpa [zerosOf] using this
              have hm:o % z.cells.size < z.cells.size:=Nat.mod_lt _ (by omega)
              simp only [zerosOf,Int.toNat_natCast,List.getElem?_map,List.getElem?_range hlt,Option.map_some,Option.some.injEq] at a1
              have e3:cs[o]? = some (z.cells[o % z.cells.size]):=by
                simp [cs,hlt,hm]
              rw [e3] at a2
              obtain rfl:=Option.some.inj a2
              subst a1
              have e4:z.cells.toList.getD (o % z.cells.toList.length) undef=z.cells[o % z.cells.size]:=by
                simp [List.getD,hm]
              rw [e4]
              exact plainC_VR (Array.all_eq_true_iff_forall_mem.1 hp _ (Array.getElem_mem _))
            · simp at hrun
          · simp at hrun
        · simp at he
      · simp at hc
    · simp at hc
  | buildSlice t len parts =>
    simp only [compF] at hc
    split at hc
    · rename_i e hu
      obtain ⟨inf,hi,hc⟩:=Option.bind_eq_some_iff.1 hc
      split at hc
      · rename_i hp
        obtain ⟨hp1,hp2,hp3,hp4⟩:=hp
        obtain ⟨z,hz,hz2⟩:=Option.map_eq_some_iff.1 hp4
        obtain rfl:=Option.some.inj hc
        rcases hok with hrun | ⟨_,_,_,_,_,_,_,he,_⟩
        · simp only [FOp.run] at hrun
          obtain ⟨F,hF,hF2⟩:=Option.map_eq_some_iff.1 hrun
          simp only [Prod.mk.injEq] at hF2
          obtain ⟨rfl,rfl⟩:=hF2
          obtain ⟨hk,hn⟩:=hid _ rfl
          have hlen:parts.toList.length=len:=by have:=congrArg List.length hp1;simpa using this
          have hvr:VRs R ((parts.toList.map (·.2)).map ev) ((parts.toList.map (·.2)).map ev'):=lookup_of (l':=parts.toList.map (·.2)) (fun x hx=>hev x hx)
          obtain ⟨F',hF',hFv⟩:=flatOf_VR hvr hF
          have hl':((parts.toList.map (·.2)).map ev').length=len:=by simp [hlen]
          have hzip:(parts.map fun (p:Nat×Operand)=>(p.1,ev' p.2)).toList=(List.range' 0 ((parts.toList.map (·.2)).map ev').length).zip ((parts.toList.map (·.2)).map ev'):=by
            rw [hl',← List.range_eq_range',← hp1,Array.toList_map]
            simp [List.zip_map',List.map_map,Function.comp_def]
          have hs:∃ cs':Array Value,cs'.size=len * inf.size∧(∀ i,i < F'.length→cs'[i]? = F'[i]?)∧F'.length=len * inf.size∧(Instr.buildSlice t len (parts.map fun (p:Nat×Operand)=>(p.1,ev' p.2))).run P w = .ok (.slice (some ⟨w.heap.size,0,none⟩) len len) { w with heap:=w.heap.push (.cells cs' e) }:=by
            by_cases h0:len * inf.size=0
            · have hln:len=0:=by rcases Nat.mul_eq_zero.1 h0 with h | h <;> omega
              subst hln
              obtain rfl:parts = #[]:=Array.eq_empty_of_size_eq_zero (by simpa using hlen)
              simp [flatOf] at hF'
              subst hF'
              refine ⟨#[],by simp,fun i hi=>by simp at hi,by simp,?_⟩
              simp [Instr.buildSlice,und_run hu,size_run hi,Instr.fill,newRow]
              try rw [Array.eq_empty_of_size_eq_zero (xs:=Array.range 0) (by simp),Array.map_empty]
            · have hsz:z.cells.size=inf.size:=hz2
              obtain ⟨cs',g1,g2,g3,g4,g5⟩:=fill_all inf.size _ F' 0 ((Array.range (len * inf.size)).map (z.cells[· % z.cells.size]!)) hF' (by rw [hl'];simp)
              rw [hl'] at g4
              refine ⟨cs',by rw [g2];simp,fun i hi=>by have:=g5 i hi;rwa [Nat.zero_mul,Nat.zero_add] at this,g4,?_⟩
              rw [← hzip] at g1
              simp only [Instr.buildSlice,Sem.run_bind,und_run hu,Result.andThen_ok,size_run hi,if_neg (show ¬ (len * inf.size > 2 ^ 24) by omega),h0,if_false,zero_run hi hz,Sem.run_pure,g1,newRow,run_newObj]
          obtain ⟨cs',e1,e2,e3,e4⟩:=hs
          have hxl:(parts.toList.map (·.2)).length=len:=by simp [hlen]
          rw [hxl]
          refine made (cc:=len) (w':={ w with heap:=w.heap.push (.cells cs' e) }) hr hk rfl hn rfl rfl rfl rfl (FzOk.zero _) (by rw [e1];exact Nat.le_refl _) (by rw [e1,← e3];exact Nat.le_of_eq hFv.1) (flat_one hF) (fun o y y' a1 a2=>?_) (by show (do pure (Next.value (← Instr.buildSlice t len (parts.map fun (p:Nat×Operand)=>(p.1,ev' p.2)))):Sem Next).run P w=_;rw [Sem.run_bind,e4];rfl) (sl_made hr hk _ _ _ _ _ _ (Nat.le_refl _) (fun _=>rfl) (fun e=>by omega))
          have hlt:o < F.length:=(List.getElem?_eq_some_iff.1 a1).1
          have hl2:=hFv.1
          rw [e2 o (by omega)] at a2
          exact hFv.2 o y y' a1 a2
        · simp at he
      · simp at hc
    · simp at hc
  | call c =>
    obtain ⟨callee,args,argTypes⟩:=c
    have harr:∀ {xs:List Operand},args.toList=xs→args=xs.toArray:=fun h=>by rw [← h]
    simp only [compF,compC] at hc
    have fin:∀ {b:Builtin} {s:Sem Value} {v':Value},(∀ x,builtin b argTypes ty x (args.map ev')=do pure (.value (← s)))→callee = .builtin b→s.run P w = .ok v' w→VR R v v'→FOut P R h w id (execOp ev' ⟨dst,.call ⟨callee,args,argTypes⟩,ty,pos,aft,grd⟩) v k:=by
      intro b s v' hb hcal h1 h2
      subst hcal
      refine FOut.same hr (v':=v') ?_ h2
      show (builtin b argTypes ty _ (args.map ev')).run P w=_
      rw [hb]
      simp [h1]
    split at hc
    · split at hc
      · rename_i x t hx1 ht
        obtain rfl:=harr hx1
        split at hc
        · rename_i hu
          obtain rfl:=Option.some.inj hc
          rcases hok with hrun | ⟨_,_,_,_,_,_,_,he,_⟩
          · have hx:=mem1 (Q:=fun y=>VR R (ev y) (ev' y)) hev
            simp only [FOp.run] at hrun
            split at hrun
            · rename_i s hv
              obtain ⟨rfl,rfl⟩:=some_inj_pair hrun
              rw [hv] at hx
              refine fin (b:=.len) (s:=Builtin.len_ argTypes ty ([x].toArray.map ev')) (v':=.int .i64 s.size) (fun _=>rfl) rfl ?_ (.int _ _)
              have e1:([x].toArray.map ev')[0]? = some (ev' x):=by simp
              simp only [Builtin.len_,ht,e1,Sem.run_bind,und_run hu,Result.andThen_ok]
              generalize ev' x=x' at *
              cases hx
              rfl
            · simp at hrun
            · simp at hrun
          · simp at he
        · rename_i e hu
          obtain rfl:=Option.some.inj hc
          rcases hok with hrun | ⟨_,_,_,_,_,_,_,he,_⟩
          · have hx:=mem1 (Q:=fun y=>VR R (ev y) (ev' y)) hev
            simp only [FOp.run] at hrun
            split at hrun
            · simp at hrun
            · rename_i a n c hv
              simp only [Bool.false_eq_true,if_false] at hrun
              obtain ⟨rfl,rfl⟩:=some_inj_pair hrun
              rw [hv] at hx
              refine fin (b:=.len) (s:=Builtin.len_ argTypes ty ([x].toArray.map ev')) (v':=.int .i64 n) (fun _=>rfl) rfl ?_ (.int _ _)
              have e1:([x].toArray.map ev')[0]? = some (ev' x):=by simp
              simp only [Builtin.len_,ht,e1,Sem.run_bind,und_run hu,Result.andThen_ok]
              generalize ev' x=x' at *
              cases hx <;> rfl
            · simp at hrun
          · simp at he
        · simp at hc
      · simp at hc
    · split at hc
      · rename_i x y hx1
        obtain rfl:=harr hx1
        obtain rfl:=Option.some.inj hc
        rcases hok with hrun | ⟨_,_,_,_,_,_,_,he,_⟩
        · obtain ⟨hx,hy⟩:=mem2 (Q:=fun y=>VR R (ev y) (ev' y)) hev
          simp only [FOp.run] at hrun
          split at hrun
          · rename_i k1 a k2 b hv hw
            obtain ⟨rfl,rfl⟩:=some_inj_pair hrun
            rw [hv] at hx
            rw [hw] at hy
            refine fin (b:=.min) (s:=Builtin.min_ argTypes ty ([x,y].toArray.map ev')) (v':=.int k1 (if b < a then b else a)) (fun _=>rfl) rfl ?_ (.int _ _)
            have e1:[x,y].toArray.map ev' = #[ev' x,ev' y]:=by simp
            rw [e1]
            generalize ev' x=x' at *
            generalize ev' y=y' at *
            cases hx
            cases hy
            rfl
          · simp at hrun
        · simp at he
      · simp at hc
    · split at hc
      · rename_i x y hx1
        obtain rfl:=harr hx1
        obtain rfl:=Option.some.inj hc
        rcases hok with hrun | ⟨_,_,_,_,_,_,_,he,_⟩
        · obtain ⟨hx,hy⟩:=mem2 (Q:=fun y=>VR R (ev y) (ev' y)) hev
          simp only [FOp.run] at hrun
          split at hrun
          · rename_i k1 a k2 b hv hw
            obtain ⟨rfl,rfl⟩:=some_inj_pair hrun
            rw [hv] at hx
            rw [hw] at hy
            refine fin (b:=.max) (s:=Builtin.max_ argTypes ty ([x,y].toArray.map ev')) (v':=.int k1 (if b > a then b else a)) (fun _=>rfl) rfl ?_ (.int _ _)
            have e1:[x,y].toArray.map ev' = #[ev' x,ev' y]:=by simp
            rw [e1]
            generalize ev' x=x' at *
            generalize ev' y=y' at *
            cases hx
            cases hy
            rfl
          · simp at hrun
        · simp at he
      · simp at hc
    · simp at hc
  | pick c x y =>
    obtain rfl:=Option.some.inj hc
    rcases hok with hrun | ⟨_,_,_,_,_,_,_,he,_⟩
    · have h1:VR R (ev c) (ev' c):=hev c (by simp [FOp.reads])
      have h2:VR R (ev x) (ev' x):=hev x (by simp [FOp.reads])
      have h3:VR R (ev y) (ev' y):=hev y (by simp [FOp.reads])
      simp only [FOp.run] at hrun
      split at hrun
      · rename_i t hv
        obtain ⟨rfl,rfl⟩:=some_inj_pair hrun
        rw [hv] at h1
        have hb:ev' c = .bool t:=by
          generalize ev' c=z at h1
          cases h1
          rfl
        refine FOut.same hr (v':=if t then ev' x else ev' y) ?_ (by cases t <;> assumption)
        show (do pure (Next.value (if ← asBool (ev' c) then ev' x else ev' y)):Sem Next).run P w=_
        rw [hb]
        cases t <;> rfl
      · simp at hrun
    · simp at he
  | build t parts =>
    simp only [compF] at hc
    split at hc
    · rename_i fs hu
      split at hc
      · rename_i inf ps hi hps
        obtain ⟨z,hz,hc⟩:=Option.bind_eq_some_iff.1 hc
        split at hc
        · rename_i hp
          obtain ⟨hp1,hp2⟩:=hp
          obtain rfl:=Option.some.inj hc
          rcases hok with hrun | ⟨_,_,_,_,_,_,_,he,_⟩
          · simp only [FOp.run] at hrun
            obtain ⟨F,hF,hF2⟩:=Option.map_eq_some_iff.1 hrun
            simp only [Prod.mk.injEq] at hF2
            obtain ⟨rfl,rfl⟩:=hF2
            have hvr:VRs R ((parts.toList.map (·.2)).map ev) ((parts.toList.map (·.2)).map ev'):=lookup_of (l':=parts.toList.map (·.2)) (fun x hx=>hev x hx)
            have hzz:VRs R z.cells.toList z.cells.toList:=⟨rfl,fun i a b h1 h2=>by
              rw [h1] at h2
              obtain rfl:=Option.some.inj h2
              exact plainC_VR (Array.all_eq_true_iff_forall_mem.1 hp1 _ (by have:=List.mem_of_getElem? h1;simpa using this))⟩
            have hpl:∀ (l:List (Nat×Operand)) (ps:List (Nat×Nat)),placesOf P fs l=some ps→l.length=ps.length∧∀ (k i:Nat) p,(l.map (·.1))[k]? = some i→ps[k]? = some p→((fs.map fun f=>(f.offset,((P.info? f.type).map (·.size)).getD 0))[i]?)=some p:=by
              intro l
              induction l with
              | nil=>intro ps h;simp [placesOf] at h;subst h;exact ⟨rfl,fun k i p h=>by simp at h⟩
              | cons q l ih =>
                intro ps h
                obtain ⟨j,x⟩:=q
                unfold placesOf at h
                split at h
                · rename_i f ps' h1 h2
                  obtain ⟨inf',hi',rfl⟩:=Option.map_eq_some_iff.1 h
                  obtain ⟨l1,l2⟩:=ih ps' h2
                  refine ⟨by simp [l1],fun k i p h3 h4=>?_⟩
                  cases k with
                  | zero=>simp at h3 h4;subst h3 h4;simp [h1,hi']
                  | succ k=>simp at h3 h4;exact l2 k i p (by simpa using h3) h4
                · simp at h
            obtain ⟨p1,p2⟩:=hpl _ _ hps
            obtain ⟨F',g1,g2⟩:=fillL_run (fun i=>(fs.map fun f=>(f.offset,((P.info? f.type).map (·.size)).getD 0))[i]?) (parts.toList.map (·.1)) ps _ _ _ _ F p2 (by simpa using p1) hvr hzz hF
            have hzip:(parts.map fun (p:Nat×Operand)=>(p.1,ev' p.2)).toList=(parts.toList.map (·.1)).zip ((parts.toList.map (·.2)).map ev'):=by
              rw [Array.toList_map]
              simp [List.zip_map',List.map_map,Function.comp_def]
            refine FSound.fin (FSound.same (v':=.agg F'.toArray) hr ?_ (.agg _ _ (by simpa using g2.1) (fun i a b h1 h2=>g2.2 i a b (by simpa using h1) (by simpa using h2))))
            show (Instr.build t (parts.map fun (p:Nat×Operand)=>(p.1,ev' p.2))).run P w=_
            rw [← hzip] at g1
            simp only [Array.toArray_toList] at g1
            simp only [Instr.build,Sem.run_bind,zero_run hi hz,Result.andThen_ok,und_run hu,places_run fs hp2,g1,Sem.run_pure]
          · simp at he
        · simp at hc
      · simp at hc
    · simp at hc
  | _=>simp [compF] at hc
end
end Go.Proofs.Ytcffpnlochillaa.Ab
namespace Go.Proofs.Ytcffpnlochillaa.Ab
open Go.RowKit
def CPost (R:AR) (h:Hp) (K:Value→Hp→Prop) (e:Ending) (w':World):Prop:=∃ v v' h' R',K v h'∧e = .returned v'∧VR R' v v'∧Step R h R' h' w'
def ACalls (P:Program) (g:FuncId) (args:List Value) (h:Hp) (K:Value→Hp→Prop):Prop :=
  (∃ fn, P.funcs[g]? = some fn ∧ (fn.name == "runtime.NumGoroutine") = false ∧ fn.body.isNone = false) ∧
  ∀ R w args',Rel R h w→VRs R args args'→Calls P g args'.toArray w (CPost R h K)
theorem ACalls.mono {P:Program} {g:FuncId} {args:List Value} {h:Hp} {K K':Value→Hp→Prop} (hc:ACalls P g args h K) (hk:∀ v h',K v h'→K' v h'):ACalls P g args h K' :=
  ⟨hc.1,fun R w args' hr hv=>(hc.2 R w args' hr hv).mono fun e w' ⟨v,v',h',R',k,r⟩=>⟨v,v',h',R',hk _ _ k,r⟩⟩
inductive EOp where
  | st (size:Nat) (a v:Operand)
  | cal (f:Operand) (args:List Operand)
  | app (es bytes:Nat) (s x:Operand)
  | apz (es bytes:Nat) (zc:List Value) (s x:Operand)
  | cpy (es:Nat) (d s:Operand)
  | mst (x:Operand)
def EOp.reads:EOp→List Operand
  | .st _ a v=>[a,v]
  | .cal f args=>f::args
  | .app _ _ s x=>[s,x]
  | .apz _ _ _ s x=>[s,x]
  | .cpy _ d s=>[d,s]
  | .mst x=>[x]

def srcV (h:Hp) (es:Nat):Value→Option (List Value×Nat)
  | .slice none n _=>if n=0 then some ([],0) else none
  | .slice (some a) n _=>(h.cells? a (n * es)).map (·,n)
  | .string s=>if es=1 then some (bytesOf s,s.size) else none
  | _=>none
def Hp.append (h:Hp) (es bytes:Nat) (s:Value) (new:List Value) (n:Nat):Option (Value×Hp) :=
  match s with
  | .slice b m c =>
    if ¬ (m≤c∧(m+n) * bytes≤2 ^ 46∧m+n < 2 ^ 62) then none
    else if n=0 then some (s,h)
    else match b with
      | none=>if m=0∧c=0 then some (.slice (some ⟨h.next,0,none⟩) n (n+1),h.push ⟨new,es,true⟩) else none
      | some a =>
        match h.cells? a (m * es) with
        | none=>none
        | some old =>
          if c=m then some (.slice (some ⟨h.next,0,none⟩) (m+n) (m+n+1),h.push ⟨old++new,es,true⟩)
          else if ¬ a.block < h.old.heap.size∧c=m+1∧a.off=0∧a.spot=none∧(h.blk? a.block).map (fun k=>(k.es,k.live))=some (es,true) then some (.slice (some ⟨h.next,0,none⟩) (m+n) (m+n+1),(h.kill a.block).push ⟨old++new,es,true⟩)
          else none
  | _=>none
def cpyK (h:Hp) (K:Value→Hp→Prop) (l:List Value) (r:Nat):Option Addr→Prop
  | some a=>∃ h',h.write a l=some h'∧K (.int .i64 r) h'
  | none=>False
def EOp.run (P:Program) (ev:Operand→Value) (h:Hp) (K:Value→Hp→Prop):EOp→Prop
  | .st size a v => match ev a with
    | .pointer (some ad)=>(ev v).cells.size=size∧∃ h',h.write ad (ev v).cells.toList=some h'∧K undef h'
    | _=>False
  | .cal f args => match ev f with
    | .func (.func g) a b=>ACalls P g (a.toList++args.map ev++b.toList) h K
    | _=>False
  | .app es bytes s x=>∃ new n v h',srcV h es (ev x)=some (new,n)∧h.append es bytes (ev s) new n=some (v,h')∧K v h'
  | .apz es bytes zc s x => match ev x with
    | .int _ n=>0≤n∧∃ v h',h.append es bytes (ev s) (zerosOf es zc n.toNat) n.toNat=some (v,h')∧K v h'
    | _=>False
  | .cpy es d s => match ev d with
    | .slice b m _ => ∃ new n, srcV h es (ev s) = some (new, n) ∧
      if min n m=0 then K (.int .i64 0) h
      else cpyK h K (new.take (min n m * es)) (min n m) b
    | _=>False
  | .mst x => match ev x with
    | .slice (some a) n c=>(a.spot=none∧∃ k,h.blk? a.block=some k∧k.live=true)∧K (.slice (some a) n c) h
    | _=>False
def srcT (P:Program) (t:TypeId):Bool:=match P.underlying t with | some (.slice _)=>true | some .string=>true | _=>false
def compE (P:Program) (o:Oper):Option EOp :=
  match o.op with
  | .store t a v=>(P.info? t).map fun inf=>.st inf.size a v
  | .convert src dst x => match P.underlying src with
    | some (.slice e)=>if src=dst∧byteT P e=true then some (.mst x) else none
    | _=>none
  | .call c =>
    match c.callee with
    | .value f=>some (.cal f c.args.toList)
    | .builtin .append =>
      match c.args.toList,c.argTypes.toList with
      | [s, x], [t, u] =>
        match P.underlying t with
        | some (.slice e) => if srcT P u then (P.info? e).bind fun inf => inf.zero.bind fun z => if z.cells.all plainC ∧ z.cells.size = inf.size then some (.app inf.size inf.bytes s x) else none else match P.underlying u with
          | some (.int _)=>(P.info? e).bind fun inf=>inf.zero.bind fun z=>if z.cells.all plainC∧z.cells.size=inf.size∧z.cells.size≠0 then some (.apz inf.size inf.bytes z.cells.toList s x) else none
          | _=>none
        | _=>none
      | _,_=>none
    | .builtin .copy =>
      match c.args.toList,c.argTypes.toList with
      | [d, s], [t, u] =>
        match P.underlying t with
        | some (.slice e)=>if srcT P u then (P.info? e).map fun inf=>.cpy inf.size d s else none
        | _=>none
      | _,_=>none
    | _=>none
  | _=>none
theorem putAt_length (vs:List Value):∀ (cs:List Value) (off:Nat),(putAt cs off vs).length=cs.length:=by
  induction vs with
  | nil=>intro cs off;rfl
  | cons v vs ih=>intro cs off;rw [putAt,ih];simp

theorem storeCells_run (P:Program) (g o:Nat) (t:TypeId) (fz:Nat×Nat):∀ (vs:List Value) (i:Nat) (cur:Array Value) (w:World),w.heap[g]? = some (.cells cur t fz)→o+i+vs.length≤cur.size→(∀ p,p < cur.size→¬ (fz.1≤p∧p < fz.2))→(∀ v ∈ vs,v.oneCell'=true) →
    ∃ w',(storeCells ⟨g,o,none⟩ vs i).run P w = .ok () w'∧w'.heap[g]? = some (.cells (putAt cur.toList (o+i) vs).toArray t fz)∧(∀ b,b≠g→w'.heap[b]? = w.heap[b]?)∧w'.heap.size=w.heap.size∧w'.os=w.os∧w'.tape=w.tape∧w'.output=w.output
  | [],i,cur,w,hg,hs,hf,ho=>⟨w,by simp [storeCells],by simpa [putAt] using hg,fun _ _=>rfl,rfl,rfl,rfl,rfl⟩
  | v :: vs, i, cur, w, hg, hs, hf, ho => by
    rw [List.length_cons] at hs
    have ha:(Addr.add ⟨g,o,none⟩ i)=⟨g,o+i,none⟩:=by
      unfold Addr.add
      split
      · rename_i h;subst h;rfl
      · rfl
    have hlt:o+i < cur.size:=by omega
    have hc:w.cell? ⟨g,o+i,none⟩=some cur[o+i]:=by simp [World.cell?,hg,hlt]
    have hfr:w.frozen? ⟨g,o+i,none⟩=false:=by
      have:=hf (o+i) hlt
      simp only [World.frozen?,hg]
      rw [Bool.eq_false_iff]
      intro hh
      simp only [Bool.and_eq_true,decide_eq_true_eq] at hh
      exact this hh
    have hset:(w.setCell ⟨g,o+i,none⟩ v).heap[g]? = some (.cells (cur.setIfInBounds (o+i) v) t fz):=by
      simp [World.setCell,Array.getElem?_modify,hg]
    obtain ⟨w',h1,h2,h3,h4,h5⟩:=storeCells_run P g o t fz vs (i+1) (cur.setIfInBounds (o+i) v) (w.setCell ⟨g,o+i,none⟩ v) hset (by simp;omega) (fun p hp=>hf p (by simpa using hp)) (fun x hx=>ho x (List.mem_cons_of_mem _ hx))
    refine ⟨w',?_,?_,fun b hb=>?_,by rw [h4];simp,h5⟩
    · simp only [storeCells,Sem.run_bind,ha]
      rw [run_store P w _ v _ (ho v (by simp)),hc]
      simp only [hfr,Bool.false_eq_true,if_false,Result.andThen_ok]
      exact h1
    · rw [h2]
      congr 2
      simp [putAt,Array.toList_setIfInBounds]
      rfl
    · rw [h3 b hb]
      exact Below.heap_setCell _ _ _ _ hb
theorem putAt_VR {R:AR}:∀ (vs vs':List Value) (cs:List Value) (cs':List Value) (off:Nat),VRs R vs vs'→(∀ (o:Nat) v v',cs[o]? = some v→cs'[o]? = some v'→VR R v v')→∀ (o:Nat) v v',(putAt cs off vs)[o]? = some v→(putAt cs' off vs')[o]? = some v'→VR R v v'
  | [], vs', cs, cs', off, hv, hc => by
    cases vs' with
    | nil=>exact hc
    | cons _ _=>simp [VRs] at hv
  | v :: vs, vs', cs, cs', off, hv, hc => by
    obtain ⟨v',t',rfl,h1,h2⟩:=hv.uncons
    refine putAt_VR vs t' (cs.set off v) (cs'.set off v') (off+1) h2 (fun o x x' ha hb=>?_)
    rw [List.getElem?_set] at ha hb
    by_cases e:off=o
    · subst e
      rw [if_pos rfl] at ha hb
      split at ha
      · split at hb
        · simp at ha hb
          subst ha hb
          exact h1
        · simp at hb
      · simp at ha
    · rw [if_neg e] at ha hb
      exact hc o x x' ha hb
theorem putAt_one:∀ (vs cs:List Value) (off:Nat),vs.all (·.oneCell')=true→cs.all (·.oneCell')=true→(putAt cs off vs).all (·.oneCell')=true
  | [],cs,off,_,h=>h
  | v :: vs, cs, off, h, hc => by
    rw [List.all_cons,Bool.and_eq_true] at h
    refine putAt_one vs _ _ h.2 ?_
    rw [List.all_eq_true] at hc ⊢
    intro x hx
    rcases List.mem_or_eq_of_mem_set hx with h1 | h1
    · exact hc x h1
    · rw [h1];exact h.1
theorem Hp.blk_set (h:Hp) {b:Nat} {k0:Blk} (k:Blk) (hb:h.blk? b=some k0):(h.setBlk b k).blk? b=some k:=by
  obtain ⟨h1,h2⟩:=Hp.blk_lt hb
  unfold Hp.blk? Hp.setBlk
  rw [if_neg (by simpa using h1)]
  unfold Hp.next at h2
  simp [show b - h.old.heap.size < h.new.length by omega]
theorem Hp.blk_set_ne (h:Hp) {b b':Nat} (k:Blk) (hb:h.old.heap.size≤b) (hne:b'≠b):(h.setBlk b k).blk? b'=h.blk? b':=by
  unfold Hp.blk? Hp.setBlk
  by_cases c:b' < h.old.heap.size
  · simp [c]
  · simp only [c,if_false]
    rw [List.getElem?_set_ne (by omega)]
theorem Hp.next_set (h:Hp) (b:Nat) (k:Blk):(h.setBlk b k).next=h.next:=by simp [Hp.next,Hp.setBlk]

theorem Rel.write {R:AR} {h h':Hp} {w:World} (P:Program) (hr:Rel R h w) {a a':Addr} (ha:AddrR R a a') {vs vs':List Value} (hv:VRs R vs vs') (hw:h.write a vs=some h') :
    ∃ w',(storeCells a' vs').run P w = .ok () w'∧Step R h R h' w':=by
  unfold Hp.write at hw
  split at hw
  · rename_i k hk
    split at hw
    · rename_i hc
      obtain ⟨hl,hsp,hle,hone⟩:=hc
      obtain rfl:=Option.some.inj hw
      obtain ⟨hlo,hhi⟩:=Hp.blk_lt hk
      cases ha with
      | old _ hb=>rw [hr.base] at hb;omega
      | new b o cb cs cc hb hrho =>
        obtain ⟨-,k2,hk2,hbr⟩:=hr.blk _ _ _ _ hrho
        have e:h.blk? b=some k:=hk
        rw [hk2] at e
        obtain rfl:=Option.some.inj e
        obtain ⟨c,t,fz,hm,hs,hf,hvr⟩:=hbr.mem
        have hlen:=hbr.len
        obtain ⟨w',h1,h2,h3,h4,h5,h6,h7⟩:=storeCells_run P cb o t fz vs' 0 c w hm (by have:=hv.1;simp only at hle;omega) (fun p hp=>hf.2 p (by omega)) (fun v hv'=>List.all_eq_true.1 (hv.one hone) v hv')
        refine ⟨w',h1,.refl R,⟨hr.base,?_,fun b' hd=>?_,fun b' cb' cs' cc' hb'=>?_,hr.inj⟩,rfl,by rw [Hp.next_set];exact Nat.le_refl _,fun b e he=>.inl he⟩
        · have hlo':=hbr.lo
          rw [hr.base] at hlo'
          exact ⟨h5.trans hr.below.os,h6.trans hr.below.tape,h7.trans hr.below.output,by show h.old.heap.size≤_;rw [h4];exact hr.below.size,fun j hj=>by rw [h3 j (by show j≠cb;have:j < h.old.heap.size:=hj;omega)];exact hr.below.block j hj⟩
        · obtain ⟨d1,k3,d2,d3⟩:=hr.dead b' hd
          refine ⟨d1,k3,?_,d3⟩
          rw [Hp.blk_set_ne _ _ hlo (fun e=>by subst e;rw [hrho] at d1;simp at d1)]
          exact d2
        · obtain ⟨h0,k3,hk3,hb3⟩:=hr.blk _ _ _ _ hb'
          by_cases e:b'=b
          · subst e
            rw [hrho] at hb'
            simp only [Option.some.injEq,Prod.mk.injEq] at hb'
            obtain ⟨rfl,rfl,rfl⟩:=hb'
            refine ⟨h0,_,Hp.blk_set _ _ hk,hbr.live,hbr.lo,hbr.room,by simp [putAt_length];exact hbr.len,putAt_one _ _ _ hone hbr.one,_,t,fz,h2,by simp [putAt_length,hs],hf,fun o2 v v' a1 a2=>?_⟩
            refine putAt_VR vs vs' k2.cells c.toList o hv (fun o3 x x' b1 b2=>hvr o3 x x' b1 (by simpa using b2)) o2 v v' a1 ?_
            simpa using a2
          · refine ⟨h0,k3,by rw [Hp.blk_set_ne _ _ hlo e];exact hk3,hb3.live,hb3.lo,hb3.room,hb3.len,hb3.one,?_⟩
            obtain ⟨c3,t3,fz3,hm3,r3⟩:=hb3.mem
            refine ⟨c3,t3,fz3,?_,r3⟩
            rw [h3 cb' (fun e2=>e (hr.inj _ _ _ _ hb' hrho e2))]
            exact hm3
      | dead _ _ hb hd =>
        obtain ⟨-,k2,h2,h3⟩:=hr.dead _ hd
        rw [hk] at h2
        obtain rfl:=Option.some.inj h2
        rw [hl] at h3
        simp at h3
      | junk _ _ hb hs=>rw [hsp] at hs;simp at hs
    · simp at hw
  · simp at hw
def AR.kill (R:AR) (b id:Nat) (e:Nat×Nat×Nat):AR:=⟨R.base,fun x=>if x=id then some e else if x=b then none else R.rho x,fun x=>R.dead x∨x=b⟩
theorem Rel.lt {R:AR} {h:Hp} {w:World} (hr:Rel R h w) {b:Nat} {e:Nat×Nat×Nat} (hb:R.rho b=some e):e.1 < w.heap.size:=by
  obtain ⟨cb,cs,cc⟩:=e
  obtain ⟨-,k2,-,hb3⟩:=hr.blk _ _ _ _ hb
  obtain ⟨c2,t2,fz2,hm,-⟩:=hb3.mem
  exact (Array.getElem?_eq_some_iff.1 hm).1
theorem Hp.kill_eq {h:Hp} {b:Nat} {k:Blk} (hk:h.blk? b=some k):h.kill b=h.setBlk b { k with live:=false }:=by
  unfold Hp.kill
  rw [hk]

theorem Rel.move {R:AR} {h:Hp} {w:World} (hr:Rel R h w) {b cb0 cs0 cc0:Nat} (hb:R.rho b=some (cb0,cs0,cc0)) (k:Blk) (hl:k.live=true) {w':World} {cb cs cc:Nat} (hcb:cb=cb0∨w.heap.size≤cb)
    (hsame:∀ i,i≠cb0→i < w.heap.size→w'.heap[i]? = w.heap[i]?) (hsz:w.heap.size≤w'.heap.size) (ho:w'.os=w.os) (ht:w'.tape=w.tape) (hp:w'.output=w.output) (hroom:cc * k.es≤cs) (hlen:k.cells.length≤cs) (hone:k.cells.all (·.oneCell')=true)
    (hmem:∃ (c:Array Value) (t:TypeId) (fz:Nat×Nat),w'.heap[cb]? = some (.cells c t fz)∧c.size=cs∧FzOk cs fz∧∀ (o:Nat) v v',k.cells[o]? = some v→c[o]? = some v'→VR R v v') :
    Step R h (R.kill b h.next (cb,cs,cc)) ((h.kill b).push k) w':=by
  obtain ⟨hlo,k0,hk0,hb0⟩:=hr.blk _ _ _ _ hb
  have hlo2:h.old.heap.size≤b:=hr.base ▸ hlo
  have hbn:b≠h.next:=fun e=>by rw [e,Hp.blk_next] at hk0;simp at hk0
  have hnn:R.rho h.next=none:=(hr.push k).2
  have hkn:(h.kill b).next=h.next:=by rw [Hp.kill_eq hk0,Hp.next_set]
  have hko:(h.kill b).old=h.old:=by rw [Hp.kill_eq hk0];rfl
  have hkb:(h.kill b).blk? b=some { k0 with live:=false }:=by rw [Hp.kill_eq hk0,Hp.blk_set _ _ hk0]
  have hke:∀ b',b'≠b→(h.kill b).blk? b'=h.blk? b':=fun b' hne=>by rw [Hp.kill_eq hk0,Hp.blk_set_ne _ _ hlo2 hne]
  have hle:R.le (R.kill b h.next (cb,cs,cc)):=by
    refine ⟨rfl,fun x e hx=>?_,fun x hx=>.inl hx⟩
    by_cases e1:x=b
    · exact .inr (.inr e1)
    · left
      show (if x=h.next then _ else if x=b then none else R.rho x)=some e
      rw [if_neg (fun e2=>by rw [e2,hnn] at hx;simp at hx),if_neg e1]
      exact hx
  have hold:∀ x e,(R.kill b h.next (cb,cs,cc)).rho x=some e→(x=h.next∧e=(cb,cs,cc))∨(x≠h.next∧x≠b∧R.rho x=some e):=by
    intro x e hx
    have hx2:(if x=h.next then some (cb,cs,cc) else if x=b then none else R.rho x)=some e:=hx
    by_cases e1:x=h.next
    · rw [if_pos e1] at hx2
      exact .inl ⟨e1,(Option.some.inj hx2).symm⟩
    · rw [if_neg e1] at hx2
      by_cases e2:x=b
      · rw [if_pos e2] at hx2;simp at hx2
      · rw [if_neg e2] at hx2
        exact .inr ⟨e1,e2,hx2⟩
  have hcbn:∀ x e,x≠b→R.rho x=some e→e.1≠cb:=by
    intro x e hx he hcc
    rcases hcb with h1 | h1
    · exact hx (hr.inj _ _ _ _ he hb (by rw [hcc,h1]))
    · have:=hr.lt he;omega
  have hcb0:h.old.heap.size≤cb0:=hr.base ▸ hb0.lo
  have hbase:h.old.heap.size≤w.heap.size:=hr.below.size
  refine ⟨hle,⟨?_,?_,fun x hx=>?_,fun x cbx csx ccx hx=>?_,fun x y ex ey hx hy hxy=>?_⟩,?_,?_,fun x e hx=>?_⟩
  · show R.base=(h.kill b).old.heap.size
    rw [hko];exact hr.base
  · show Below (h.kill b).old.heap.size (h.kill b).old w'
    rw [hko]
    refine ⟨ho.trans hr.below.os,ht.trans hr.below.tape,hp.trans hr.below.output,Nat.le_trans hbase hsz,fun j hj=>?_⟩
    rw [hsame j (by omega) (by omega)]
    exact hr.below.block j hj
  · have hx':R.dead x∨x=b:=hx
    have hxn:x≠h.next:=by
      rcases hx' with h1 | h1
      · intro e
        obtain ⟨-,k2,h2,-⟩:=hr.dead x h1
        rw [e,Hp.blk_next] at h2
        simp at h2
      · rw [h1];exact hbn
    refine ⟨?_,?_⟩
    · show (if x=h.next then _ else if x=b then none else R.rho x)=none
      rw [if_neg hxn]
      split
      · rfl
      · rename_i hxb
        exact (hr.dead x (hx'.resolve_right hxb)).1
    · rw [Hp.blk_push_ne _ _ (by rw [hkn];exact hxn)]
      by_cases hxb:x=b
      · subst hxb
        exact ⟨_,hkb,rfl⟩
      · rw [hke _ hxb]
        exact (hr.dead x (hx'.resolve_right hxb)).2
  · rcases hold _ _ hx with ⟨rfl,he⟩ | ⟨h1,h2,h3⟩
    · simp only [Prod.mk.injEq] at he
      obtain ⟨rfl,rfl,rfl⟩:=he
      refine ⟨by show R.base≤h.next;rw [hr.base];unfold Hp.next;omega,k,by rw [← hkn];exact Hp.blk_push _ _,hl,?_,hroom,hlen,hone,?_⟩
      · show R.base≤cbx
        rw [hr.base]
        rcases hcb with e | e <;> omega
      · obtain ⟨c,t,fz,m1,m2,m3,m4⟩:=hmem
        exact ⟨c,t,fz,m1,m2,m3,fun o v v' a1 a2=>(m4 o v v' a1 a2).mono hle⟩
    · obtain ⟨g1,k2,g2,g3⟩:=hr.blk _ _ _ _ h3
      refine ⟨g1,k2,by rw [Hp.blk_push_ne _ _ (by rw [hkn];exact h1),hke _ h2];exact g2,g3.live,g3.lo,g3.room,g3.len,g3.one,?_⟩
      obtain ⟨c,t,fz,m1,m2,m3,m4⟩:=g3.mem
      refine ⟨c,t,fz,?_,m2,m3,fun o v v' a1 a2=>(m4 o v v' a1 a2).mono hle⟩
      rw [hsame cbx (fun e=>h2 (hr.inj _ _ _ _ h3 hb e)) (Array.getElem?_eq_some_iff.1 m1).1]
      exact m1
  · rcases hold _ _ hx with ⟨rfl,rfl⟩ | ⟨h1,h2,h3⟩ <;> rcases hold _ _ hy with ⟨rfl,rfl⟩ | ⟨j1,j2,j3⟩
    · rfl
    · exact absurd hxy.symm (hcbn _ _ j2 j3)
    · exact absurd hxy (hcbn _ _ h2 h3)
    · exact hr.inj _ _ _ _ h3 j3 hxy
  · show (h.kill b).old=h.old
    exact hko
  · rw [Hp.next_push,hkn]
    omega
  · rcases hold _ _ hx with ⟨rfl,-⟩ | ⟨-,-,h3⟩
    · exact .inr (Nat.le_refl _)
    · exact .inl h3
theorem cellsFrom_take {h:Hp} {a:Addr}:∀ (n i m:Nat) (l:List Value),h.cellsFrom a i n=some l→m≤n→h.cellsFrom a i m=some (l.take m)
  | n,i,0,l,_,_=>by simp [Hp.cellsFrom]
  | 0,i,m+1,l,_,hm=>by omega
  | n + 1, i, m + 1, l, hl, hm => by
    simp only [Hp.cellsFrom] at hl ⊢
    cases hc:h.cell? (a.add i) with
    | none=>simp [hc] at hl
    | some v =>
      simp only [hc] at hl ⊢
      obtain ⟨t,ht,rfl⟩:=Option.map_eq_some_iff.1 hl
      rw [cellsFrom_take n (i+1) m t ht (by omega)]
      rfl
theorem srcV_run {R:AR} {h:Hp} {w:World} (P:Program) (hr:Rel R h w) {es n:Nat} {x x':Value} {new:List Value} (hs:srcV h es x=some (new,n)) (hx:VR R x x') :
    (Builtin.lenOf x').run P w = .ok n w∧new.all (·.oneCell')=true∧new.length=n * es∧∀ m,m≤n→∃ l',VRs R (new.take (m * es)) l'∧(Builtin.firstCells es m x').run P w = .ok l'.toArray w:=by
  unfold srcV at hs
  split at hs
  · split at hs
    · rename_i hn
      subst hn
      simp only [Option.some.injEq,Prod.mk.injEq] at hs
      obtain ⟨rfl,rfl⟩:=hs
      cases hx
      exact ⟨rfl,rfl,by simp,fun m hm=>⟨[],by simpa using VRs.nil R,rfl⟩⟩
    · simp at hs
  · rename_i a n' c
    obtain ⟨l,hl,he⟩:=Option.map_eq_some_iff.1 hs
    simp only [Prod.mk.injEq] at he
    obtain ⟨rfl,rfl⟩:=he
    cases hx with
    | sl _ a' _ _ c' hsl =>
      obtain ⟨l',k1,k2,k3,k4⟩:=hr.cells P hsl.addr hl
      refine ⟨rfl,k2,by rw [k1.1,k3],fun m hm=>?_⟩
      obtain ⟨l2,j1,j2,j3,j4⟩:=hr.cells P hsl.addr (show h.cells? a (m * es)=some (l.take (m * es)) from cellsFrom_take _ _ _ _ hl (Nat.mul_le_mul hm (Nat.le_refl _)))
      exact ⟨l2,j1,j4⟩
  · split at hs
    · rename_i s he
      subst he
      simp only [Option.some.injEq,Prod.mk.injEq] at hs
      obtain ⟨rfl,rfl⟩:=hs
      cases hx
      refine ⟨rfl,bytes_one s,by unfold bytesOf;rw [List.length_map,Nat.mul_one];exact Array.length_toList,fun m hm=>⟨(bytesOf s).take (m * 1),?_,?_⟩⟩
      · refine ⟨rfl,fun i v v' h1 h2=>?_⟩
        rw [h1] at h2
        obtain rfl:=Option.some.inj h2
        have:v ∈ bytesOf s:=List.mem_of_mem_take (List.mem_of_getElem? h1)
        obtain ⟨b,-,rfl⟩:=List.mem_map.1 this
        exact .int _ _
      · simp only [Builtin.firstCells,Sem.run_pure]
        congr 1
        apply Array.ext'
        simp [bytesOf,List.map_take]
    · simp at hs
  · simp at hs
theorem growBy_le (n:Nat):∀ (r c:Nat),Builtin.growBy n r c≤max c (n+(n+768) / 4)
  | 0,c=>by simp [Builtin.growBy];omega
  | r + 1, c => by
    unfold Builtin.growBy
    split
    · omega
    · have:=growBy_le n r (c+(c+768) / 4)
      omega
theorem nextcap_le {n c:Nat} (h:c < n):Builtin.nextslicecap n c≤3 * n:=by
  unfold Builtin.nextslicecap
  split
  · omega
  · split
    · omega
    · have:=growBy_le n 4 c
      omega
theorem grow_run {P:Program} {w:World} {t u e ty:TypeId} {inf:TypeInfo} {z:Value} (ht:P.underlying t=some (.slice e)) (hu:srcT P u=true) (hi:P.info? e=some inf) (hz:inf.zero=some z) (hzs:z.cells.size=inf.size) {b:Option Addr} {m c n:Nat} {x':Value} {old new:List Value}
    (hl:(Builtin.lenOf x').run P w = .ok n w) (hgt:c < m+n) (hbd:(m+n) * inf.bytes≤2 ^ 46) (hbd2:m+n < 2 ^ 62) (ho:(Builtin.firstCells inf.size m (.slice b m c)).run P w.drew = .ok old.toArray w.drew) (hn:(Builtin.firstCells inf.size n x').run P w.drew = .ok new.toArray w.drew) (hol:old.length=m * inf.size) (hnl:new.length=n * inf.size) :
    ∃ (cap:Nat) (cs:Array Value) (w':World),m+n≤cap∧cs.size=cap * inf.size∧(∀ i,i < old.length+new.length→cs[i]? = (old++new)[i]?)∧(Builtin.append_ #[t,u] ty #[.slice b m c,x']).run P w = .ok (.slice (some ⟨w.heap.size,0,none⟩) (m+n) cap) w'∧w'.heap=w.heap.push (.cells cs e)∧w'.os=w.os∧w'.tape=w.tape∧w'.output=w.output:=by
  have hq:∃ cap,m+n≤cap∧(choose (.appendCap (m+n) c e)).run P w = .ok cap w.drew:=⟨(Question.appendCap (m+n) c e).cut (w.tape w.drawn (.appendCap (m+n) c e)),Nat.le_add_right _ _,by rw [run_choose];rfl⟩
  obtain ⟨cap,hcap,hch⟩:=hq
  have hzz:(∃ e',P.underlying u=some (.slice e'))∨P.underlying u=some .string:=by
    unfold srcT at hu
    split at hu
    · exact .inl ⟨_,by assumption⟩
    · exact .inr (by assumption)
    · simp at hu
  have hnc:=nextcap_le hgt
  have hb2:Builtin.nextslicecap (m+n) c * inf.bytes≤3 * (m+n) * inf.bytes:=Nat.mul_le_mul hnc (Nat.le_refl _)
  have hb3:3 * (m+n) * inf.bytes=3 * ((m+n) * inf.bytes):=by rw [Nat.mul_assoc]
  have h48:¬ (Builtin.nextslicecap (m+n) c * inf.bytes > 2 ^ 48):=by omega
  have hmax:¬ (((m+n:Nat):Int) > IntKind.i64.max∧(False∨inf.bytes=0)):=by
    intro h
    have h1:=h.1
    have:IntKind.i64.max=9223372036854775807:=by decide
    omega
  let cs:Array Value:=old.toArray++new.toArray++Builtin.zeroCells z.cells (cap - (m+n))
  have hcs:cs.size=cap * inf.size:=by
    show (old.toArray++new.toArray++Builtin.zeroCells z.cells (cap - (m+n))).size=_
    rw [Array.size_append,Array.size_append]
    have hzl:(Builtin.zeroCells z.cells (cap - (m+n))).size=(cap - (m+n)) * inf.size:=by simp [Builtin.zeroCells,hzs]
    rw [hzl,List.size_toArray,List.size_toArray,hol,hnl,← Nat.add_mul,← Nat.add_mul]
    congr 1
    omega
  refine ⟨cap,cs,{ w.drew with heap:=w.heap.push (.cells cs e) },hcap,hcs,fun i hi=>?_,?_,rfl,rfl,rfl,rfl⟩
  · show (old.toArray++new.toArray++Builtin.zeroCells z.cells (cap - (m+n)))[i]? = _
    rw [Array.getElem?_append,if_pos (by simp;omega)]
    simp [List.getElem?_append]
  · have hlo:=ho
    have hln:=hn
    have hle:¬ (m+n≤c):=by omega
    have e1:∀ w,(sizeOf e).run P w = .ok inf.size w:=size_run hi
    have e2:∀ w,(typeInfo e).run P w = .ok inf w:=info_run hi
    have e3:∀ w,(zeroValue e).run P w = .ok z w:=zero_run hi hz
    rcases hzz with ⟨e',hdd⟩ | hdd
    all_goals
      simp only [Builtin.append_,List.getElem?_toArray,List.getElem?_cons_zero,List.getElem?_cons_succ,Sem.run_bind,und_run ht,Result.andThen_ok,e1,und_run hdd,Sem.run_pure,Bool.false_eq_true,if_false,hl,hle,false_or,Sem.run_ite,e2]
      rw [if_neg (by simpa using hmax),if_neg h48]
      simp only [Sem.run_bind,hch,Result.andThen_ok,run_askRoom,hlo,Bool.not_false,if_true,hln,e3,newRow,run_newObj,Sem.run_pure]
      rfl
theorem srcT_cases {P:Program} {u:TypeId} (hu:srcT P u=true):(∃ e',P.underlying u=some (.slice e'))∨P.underlying u=some .string:=by
  unfold srcT at hu
  split at hu
  · exact .inl ⟨_,by assumption⟩
  · exact .inr (by assumption)
  · simp at hu
theorem room_run {P:Program} {w:World} {t u e ty:TypeId} {inf:TypeInfo} (ht:P.underlying t=some (.slice e)) (hu:srcT P u=true) (hi:P.info? e=some inf) {b:Option Addr} {m c n:Nat} {x':Value} {new:List Value} {w':World}
    (hl:(Builtin.lenOf x').run P w = .ok n w) (hle:m+n≤c) (hn:(Builtin.firstCells inf.size n x').run P w = .ok new.toArray w)
    (hst:match b with | none=>w'=w | some a=>(storeCells (a.add (m * inf.size)) new).run P w = .ok () w') :
    (Builtin.append_ #[t,u] ty #[.slice b m c,x']).run P w = .ok (.slice b (m+n) c) w':=by
  have e1:∀ w,(sizeOf e).run P w = .ok inf.size w:=size_run hi
  rcases srcT_cases hu with ⟨e',hdd⟩ | hdd
  all_goals
    simp only [Builtin.append_,List.getElem?_toArray,List.getElem?_cons_zero,List.getElem?_cons_succ,Sem.run_bind,und_run ht,Result.andThen_ok,e1,und_run hdd,Sem.run_pure,Bool.false_eq_true,if_false,hl,hle,if_true,Bool.not_false,hn,Sem.run_ite]
    cases b with
    | none=>simp only at hst;subst hst;simp
    | some a=>simp only at hst;simp [hst]
theorem Rel.drew {R:AR} {h:Hp} {w:World} (hr:Rel R h w):Rel R h w.drew :=
  ⟨hr.base,⟨hr.below.os,hr.below.tape,hr.below.output,hr.below.size,hr.below.block⟩,hr.dead,fun b cb cs cc hb=>by
    obtain ⟨k1,k2,k3,k4⟩:=hr.blk b cb cs cc hb
    exact ⟨k1,k2,k3,k4.live,k4.lo,k4.room,k4.len,k4.one,k4.mem⟩,hr.inj⟩
theorem cellsFrom_get {h:Hp} {a:Addr}:∀ (n i:Nat) (l:List Value),h.cellsFrom a i n=some l→∀ (j:Nat) v,l[j]? = some v→h.cell? (a.add (i+j))=some v
  | 0,i,l,hl,j,v,hv=>by simp [Hp.cellsFrom] at hl;subst hl;simp at hv
  | n + 1, i, l, hl, j, v, hv => by
    simp only [Hp.cellsFrom] at hl
    cases hc:h.cell? (a.add i) with
    | none=>simp [hc] at hl
    | some x =>
      simp only [hc] at hl
      obtain ⟨t,ht,rfl⟩:=Option.map_eq_some_iff.1 hl
      cases j with
      | zero=>simp at hv;subst hv;simpa using hc
      | succ j =>
        simp at hv
        have:=cellsFrom_get n (i+1) t ht j v hv
        rwa [show i+(j+1)=i+1+j by omega]
theorem cells_at {h:Hp} {b o:Nat} {k:Blk} (hk:h.blk? b=some k) (hl:k.live=true) {N:Nat} {l:List Value} (hc:h.cells? ⟨b,o,none⟩ N=some l) {i:Nat} {v:Value} (hv:l[i]? = some v):k.cells[o+i]? = some v:=by
  have h1:=cellsFrom_get N 0 l hc i v hv
  have hlo:=(Hp.blk_lt hk).1
  have e:Addr.add ⟨b,o,none⟩ (0+i)=⟨b,o+i,none⟩:=by
    unfold Addr.add
    split
    · rename_i h
      simp only [Nat.zero_add] at h
      rw [h]
      rfl
    · simp
  rw [e] at h1
  unfold Hp.cell? at h1
  rw [if_neg (by simpa using hlo)] at h1
  simpa [hk,hl] using h1
theorem putAt_get:∀ (vs cs:List Value) (off o:Nat),off+vs.length≤cs.length→(putAt cs off vs)[o]? = if off≤o∧o < off+vs.length then vs[o - off]? else cs[o]?
  | [],cs,off,o,h=>by rw [if_neg (by simp)];rfl
  | v :: vs, cs, off, o, h => by
    rw [List.length_cons] at h
    rw [putAt,putAt_get vs _ _ _ (by simp;omega),List.length_cons]
    by_cases h1:o=off
    · subst h1
      rw [if_neg (by omega),if_pos (by omega),Nat.sub_self,List.getElem?_set_self (by omega)]
      rfl
    · by_cases h2:off≤o∧o < off+(vs.length+1)
      · rw [if_pos (by omega),if_pos h2,show o - off=(o - (off+1))+1 by omega]
        rfl
      · rw [if_neg (by omega),if_neg h2,List.getElem?_set_ne (by omega)]

theorem append_core {P:Program} {R:AR} {h:Hp} {w:World} (hr:Rel R h w) {t u e ty:TypeId} {inf:TypeInfo}
    {s s' x':Value} (hs:VR R s s') {new new' new2:List Value} {n:Nat} (hone:new.all (·.oneCell')=true) (hnl:new.length=n * inf.size) (hnv:VRs R new new') (hnv2:VRs R new new2)
    (room:∀ {b:Option Addr} {m c:Nat} {w':World},m+n < 2 ^ 62→(m+n) * inf.bytes≤2 ^ 46→m+n≤c→(match b with | none=>w'=w | some a=>(storeCells (a.add (m * inf.size)) new').run P w = .ok () w')→(Builtin.append_ #[t,u] ty #[.slice b m c,x']).run P w = .ok (.slice b (m+n) c) w')
    (grow:∀ {b:Option Addr} {m c:Nat} {old:List Value},c < m+n→(m+n) * inf.bytes≤2 ^ 46→m+n < 2 ^ 62→(Builtin.firstCells inf.size m (.slice b m c)).run P w.drew = .ok old.toArray w.drew→old.length=m * inf.size→new2.length=n * inf.size →
      ∃ (cap:Nat) (cs:Array Value) (w':World),m+n≤cap∧cs.size=cap * inf.size∧(∀ i,i < old.length+new2.length→cs[i]? = (old++new2)[i]?)∧(Builtin.append_ #[t,u] ty #[.slice b m c,x']).run P w = .ok (.slice (some ⟨w.heap.size,0,none⟩) (m+n) cap) w'∧w'.heap=w.heap.push (.cells cs e)∧w'.os=w.os∧w'.tape=w.tape∧w'.output=w.output)
    {v:Value} {h':Hp} (ha:h.append inf.size inf.bytes s new n=some (v,h')) :
    ∃ v' w' R',(Builtin.append_ #[t,u] ty #[s',x']).run P w = .ok v' w'∧VR R' v v'∧Step R h R' h' w':=by
  have hnl':new'.length=n * inf.size:=by rw [← hnv.1,hnl]
  have hrd:Rel R h w.drew:=hr.drew
  have hnl2:new2.length=n * inf.size:=by rw [← hnv2.1,hnl]
  have hnext:R.rho h.next=none:=(hr.push ⟨[],0,true⟩).2
  have hnb:R.base≤h.next:=by rw [hr.base];unfold Hp.next;omega
  unfold Hp.append at ha
  split at ha
  · rename_i b m c
    split at ha
    · simp at ha
    · rename_i hbd
      simp only [Decidable.not_not] at hbd
      obtain ⟨hmc,hbd1,hbd2⟩:=hbd
      
      have hs2:∃ b' c',s' = .slice b' m c'∧m≤c':=by
        cases hs with
        | nils _ _=>exact ⟨_,_,rfl,hmc⟩
        | sl a a' _ _ c' hsl =>
          refine ⟨_,_,rfl,?_⟩
          by_cases hb:a.block < R.base
          · cases hsl with
            | old=>exact hmc
            | new=>simp at hb;omega
            | dead=>omega
            | junk=>omega
          · exact hsl.len hb
      obtain ⟨b',c',rfl,hmc'⟩:=hs2
      split at ha
      · rename_i hn0
        subst hn0
        simp only [Option.some.injEq,Prod.mk.injEq] at ha
        obtain ⟨rfl,rfl⟩:=ha
        have hne:new'=[]:=List.eq_nil_of_length_eq_zero (by omega)
        subst hne
        refine ⟨_,w,R,room (by omega) (by omega) (by omega) ?_,by simpa using hs,.refl hr⟩
        cases b' with
        | none=>rfl
        | some a=>simp [storeCells]
      · rename_i hn0
        
        have fresh:∀ (old old':List Value),VRs R old old'→old.all (·.oneCell')=true→old.length=m * inf.size→(Builtin.firstCells inf.size m (.slice b' m c')).run P w.drew = .ok old'.toArray w.drew→c' < m+n →
            ∃ v' w' R',(Builtin.append_ #[t,u] ty #[.slice b' m c',x']).run P w = .ok v' w'∧VR R' (.slice (some ⟨h.next,0,none⟩) (m+n) (m+n+1)) v'∧Step R h R' (h.push ⟨old++new,inf.size,true⟩) w':=by
          intro old old' hov hoo hol hof hgt
          obtain ⟨cap,cs,w',g1,g2,g3,g4,g5,g6,g7,g8⟩:=grow hgt hbd1 hbd2 hof (by rw [← hov.1,hol]) hnl2
          have hp:=(hr.push ⟨old++new,inf.size,true⟩).1
          have hle:(old++new).length≤cs.size:=by
            rw [List.length_append,hol,hnl,g2,← Nat.add_mul]
            exact Nat.mul_le_mul g1 (Nat.le_refl _)
          obtain ⟨q1,q2⟩:=hp.alloc (cc:=cap) (Hp.blk_push _ _) rfl hnext g5 g6 g7 g8 (FzOk.zero _) (by show cap * inf.size≤cs.size;omega) hle (by rw [List.all_append,hoo,hone];rfl) (fun o y y' a1 a2=>by
            have hlt:=(List.getElem?_eq_some_iff.1 a1).1
            have hlt2:o < old'.length+new2.length:=by
              rw [← hov.1,hnl2,← hnl,← List.length_append];exact hlt
            rw [g3 o hlt2] at a2
            exact (VRs.append hov hnv2).2 o y y' a1 a2)
          refine ⟨_,w',R.add h.next (w.heap.size,cs.size,cap),g4,.sl _ _ _ _ _ (.new _ _ _ _ _ _ _ _ hnb (add_at _ _ _) g1 (fun e=>by omega) (fun _ _=>rfl)),q1,q2,rfl,by rw [Hp.next_push];omega,fun x e hx=>?_⟩
          have hx2:(if x=h.next then some (w.heap.size,cs.size,cap) else R.rho x)=some e:=hx
          by_cases e1:x=h.next
          · exact .inr (by omega)
          · rw [if_neg e1] at hx2
            exact .inl hx2
        split at ha
        · split at ha
          · rename_i h0
            obtain ⟨rfl,rfl⟩:=h0
            simp only [Option.some.injEq,Prod.mk.injEq] at ha
            obtain ⟨rfl,rfl⟩:=ha
            cases hs
            have:=fresh [] [] (.nil R) rfl (by simp) (by simp [Builtin.firstCells]) (by omega)
            simpa using this
          · simp at ha
        · rename_i a
          split at ha
          · simp at ha
          · rename_i old hold
            cases hs with
            | sl _ a' _ _ _ hsl =>
            obtain ⟨old',k1,k2,k3,k4⟩:=hrd.cells P hsl.addr hold
            have hol:old.length=m * inf.size:=by rw [k1.1,k3]
            have hof:(Builtin.firstCells inf.size m (.slice (some a') m c')).run P w.drew = .ok old'.toArray w.drew:=by
              simp only [Builtin.firstCells]
              exact k4
            split at ha
            · rename_i hcm
              subst hcm
              simp only [Option.some.injEq,Prod.mk.injEq] at ha
              obtain ⟨rfl,rfl⟩:=ha
              have htight:c'=c:=by
                cases hsl with
                | old=>rfl
                | new _ _ _ _ _ _ _ _ _ _ _ h2=>exact h2 rfl
                | dead _ _ _ _ _ hb hd _ h2=>exact h2 rfl
              exact fresh old old' k1 k2 hol hof (by omega)
            · split at ha
              · rename_i hcm hcond
                obtain ⟨hnb',hc1,hoff,hsp,hblk⟩:=hcond
                simp only [Option.some.injEq,Prod.mk.injEq] at ha
                obtain ⟨rfl,rfl⟩:=ha
                obtain ⟨k0,hk0,hk1⟩:=Option.map_eq_some_iff.1 hblk
                simp only [Prod.mk.injEq] at hk1
                obtain ⟨hes,hlive⟩:=hk1
                cases hsl with
                | old _ _ _ hb=>rw [hr.base] at hb;omega
                | junk _ _ _ _ hj=>rw [hsp] at hj;simp at hj
                | dead _ _ _ _ _ hb hd =>
                  obtain ⟨-,k2,h2,h3⟩:=hr.dead _ hd
                  rw [hk0] at h2
                  obtain rfl:=Option.some.inj h2
                  rw [hlive] at h3
                  simp at h3
                | new b o _ _ cb cs cc _ hb hrho h1 h2 h3 =>
                  obtain rfl:o=0:=hoff
                  have hcc:c'=cc:=h3 hc1 rfl
                  subst hcc
                  obtain ⟨-,kb,hkb,hbr⟩:=hr.blk _ _ _ _ hrho
                  have e0:h.blk? b=some k0:=hk0
                  rw [hkb] at e0
                  obtain rfl:=Option.some.inj e0
                  obtain ⟨cc0,tt,fz,hm,hms,hmf,hmv⟩:=hbr.mem
                  have hroom:=hbr.room
                  rw [hes] at hroom
                  have hold2:∀ (i:Nat) (v:Value),old[i]? = some v→kb.cells[i]? = some v:=by
                    intro i v hiv
                    have:=cells_at hkb hlive hold hiv
                    simpa using this
                  have hlt:cb < w.heap.size:=hr.lt hrho
                  by_cases hfit:m+n≤c'
                  · have hfit2:(m+n) * inf.size≤c' * inf.size:=Nat.mul_le_mul hfit (Nat.le_refl _)
                    rw [Nat.add_mul] at hfit2
                    have hadd:(Addr.add ⟨cb,0,none⟩ (m * inf.size))=⟨cb,m * inf.size,none⟩:=by
                      unfold Addr.add
                      split
                      · rename_i h;rw [h]
                      · simp
                    obtain ⟨w',s1,s2,s3,s4,s5,s6,s7⟩:=storeCells_run P cb (m * inf.size) tt fz new' 0 cc0 w hm (by omega) (fun p hp=>hmf.2 p (by omega)) (fun v hv'=>List.all_eq_true.1 (hnv.one hone) v hv')
                    refine ⟨_,w',R.kill b h.next (cb,cs,c'),room hbd2 hbd1 hfit (by simp only [hadd];exact s1),.sl _ _ _ _ _ (.new _ _ _ _ cb cs c' _ hnb (by show (if h.next=h.next then _ else _)=_;rw [if_pos rfl]) hfit (fun e=>by omega) (fun _ _=>rfl)),
                      hr.move hrho ⟨old++new,inf.size,true⟩ rfl (.inl rfl) (fun i hi _=>s3 i hi) (by omega) s5 s6 s7 hroom (by show (old++new).length≤cs;rw [List.length_append,hol,hnl];omega) (by show (old++new).all _=true;rw [List.all_append,k2,hone];rfl) ⟨_,tt,fz,s2,by simp [putAt_length,hms],hmf,fun o y y' a1 a2=>?_⟩⟩
                    have a2':(putAt cc0.toList (m * inf.size) new')[o]? = some y':=by simpa using a2
                    have a1':(old++new)[o]? = some y:=a1
                    rw [putAt_get _ _ _ _ (by simp;omega)] at a2'
                    rw [List.getElem?_append] at a1'
                    by_cases ho:o < old.length
                    · rw [if_pos ho] at a1'
                      rw [if_neg (by omega)] at a2'
                      exact hmv o y y' (hold2 o y a1') (by simpa using a2')
                    · rw [if_neg ho] at a1'
                      have:=(List.getElem?_eq_some_iff.1 a1').1
                      rw [if_pos (by omega)] at a2'
                      rw [hol] at a1'
                      exact hnv.2 _ y y' a1' a2'
                  · obtain ⟨cap,csn,w',g1,g2,g3,g4,g5,g6,g7,g8⟩:=grow (by omega) hbd1 hbd2 hof (by rw [← k1.1,hol]) hnl2
                    have hle:(old++new).length≤csn.size:=by
                      rw [List.length_append,hol,hnl,g2,← Nat.add_mul]
                      exact Nat.mul_le_mul g1 (Nat.le_refl _)
                    refine ⟨_,w',R.kill b h.next (w.heap.size,csn.size,cap),g4,.sl _ _ _ _ _ (.new _ _ _ _ w.heap.size csn.size cap _ hnb (by show (if h.next=h.next then _ else _)=_;rw [if_pos rfl]) g1 (fun e=>by omega) (fun _ _=>rfl)),
                      hr.move hrho ⟨old++new,inf.size,true⟩ rfl (.inr (Nat.le_refl _)) (fun i hi hil=>by rw [g5,Array.getElem?_push,if_neg (by omega)]) (by rw [g5];simp) g6 g7 g8 (by show cap * inf.size≤csn.size;omega) hle (by show (old++new).all _=true;rw [List.all_append,k2,hone];rfl) ⟨csn,e,(0,0),by rw [g5];simp,rfl,FzOk.zero _,fun o y y' a1 a2=>?_⟩⟩
                    have a1':(old++new)[o]? = some y:=a1
                    have hlt:=(List.getElem?_eq_some_iff.1 a1').1
                    have hlt2:o < old'.length+new2.length:=by
                      rw [← k1.1,hnl2,← hnl,← List.length_append];exact hlt
                    rw [g3 o hlt2] at a2
                    exact (VRs.append k1 hnv2).2 o y y' a1' a2
              · simp at ha
  · simp at ha

theorem append_sound {P:Program} {R:AR} {h:Hp} {w:World} (hr:Rel R h w) {t u e ty:TypeId} {inf:TypeInfo} {z:Value} (ht:P.underlying t=some (.slice e)) (hu:srcT P u=true) (hi:P.info? e=some inf) (hz:inf.zero=some z) (hzs:z.cells.size=inf.size)
    {s s' x x':Value} (hs:VR R s s') (hx:VR R x x') {new:List Value} {n:Nat} (hsrc:srcV h inf.size x=some (new,n)) {v:Value} {h':Hp} (ha:h.append inf.size inf.bytes s new n=some (v,h')) :
    ∃ v' w' R',(Builtin.append_ #[t,u] ty #[s',x']).run P w = .ok v' w'∧VR R' v v'∧Step R h R' h' w':=by
  obtain ⟨hlen,hone,hnl,hfirst⟩:=srcV_run P hr hsrc hx
  obtain ⟨new',hnv,hnew⟩:=hfirst n (Nat.le_refl _)
  rw [List.take_of_length_le (by omega)] at hnv
  have hrd:Rel R h w.drew:=hr.drew
  obtain ⟨_,_,_,hfirst2⟩:=srcV_run P hrd hsrc hx
  obtain ⟨new2,hnv2,hnew2⟩:=hfirst2 n (Nat.le_refl _)
  rw [List.take_of_length_le (by omega)] at hnv2
  exact append_core (u:=u) (ty:=ty) hr hs hone hnl hnv hnv2 (fun _ _ h1 h2=>room_run ht hu hi hlen h1 hnew h2) (fun h1 h2 h3 h4 h5 h6=>grow_run (ty:=ty) ht hu hi hz hzs hlen h1 h2 h3 h4 hnew2 h5 h6) ha

theorem zeros_val {z:Value} {es n:Nat} (hzs:z.cells.size=es) (h:¬ n * es=0):Builtin.zeroCells z.cells n=(zerosOf es z.cells.toList n).toArray:=by
  apply Array.ext'
  simp only [Builtin.zeroCells,zerosOf,hzs,Array.toList_map,Array.toList_range]
  refine List.map_congr_left fun i hi=>?_
  have h0:0 < es:=Nat.pos_of_ne_zero fun e=>h (by rw [e,Nat.mul_zero])
  have hlt:i % es < z.cells.size:=by rw [hzs];exact Nat.mod_lt _ h0
  have e0:z.cells.toList.length=es:=by simpa using hzs
  rw [List.getD_eq_getElem?_getD,e0,List.getElem?_eq_getElem (by omega),getElem!_pos z.cells (i % es) hlt]
  simp
theorem zeros_VR (R:AR) {z:Value} (hp:z.cells.all plainC=true) {es n:Nat} (hz0:z.cells.size≠0):VRs R (zerosOf es z.cells.toList n) (zerosOf es z.cells.toList n):=by
  refine ⟨rfl,fun j v v' hv hv'=>?_⟩
  rw [hv] at hv'
  obtain rfl:=Option.some.inj hv'
  unfold zerosOf at hv
  obtain ⟨i,hi,rfl⟩:=Option.map_eq_some_iff.1 (by rw [List.getElem?_map] at hv;exact hv)
  have hlt:i % z.cells.toList.length < z.cells.toList.length:=Nat.mod_lt _ (by simp;omega)
  show VR R (z.cells.toList.getD (i % z.cells.toList.length) undef) (z.cells.toList.getD (i % z.cells.toList.length) undef)
  rw [List.getD_eq_getElem?_getD,List.getElem?_eq_getElem hlt]
  refine plainC_VR ?_
  have:=Array.all_eq_true.1 hp (i % z.cells.toList.length) (by simpa using hlt)
  simpa using this
theorem apz_sound {P:Program} {R:AR} {h:Hp} {w:World} (hr:Rel R h w) {t u e ty:TypeId} {kk:IntKind} {inf:TypeInfo} {z:Value} (ht:P.underlying t=some (.slice e)) (hu:P.underlying u=some (.int kk)) (hi:P.info? e=some inf) (hz:inf.zero=some z) (hzs:z.cells.size=inf.size) (hp:z.cells.all plainC=true) (hz0:z.cells.size≠0)
    {s s':Value} (hs:VR R s s') {k:IntKind} {N:Int} (hN:0≤N) {v:Value} {h':Hp} (ha:h.append inf.size inf.bytes s (zerosOf inf.size z.cells.toList N.toNat) N.toNat=some (v,h')) :
    ∃ v' w' R',(Builtin.append_ #[t,u] ty #[s',.int k N]).run P w = .ok v' w'∧VR R' v v'∧Step R h R' h' w':=by
  have hlen:(zerosOf inf.size z.cells.toList N.toNat).length=N.toNat * inf.size:=by simp [zerosOf]
  have hV:=zeros_VR R hp (es:=inf.size) (n:=N.toNat) hz0
  have e1:∀ w,(sizeOf e).run P w = .ok inf.size w:=size_run hi
  have e2:∀ w,(typeInfo e).run P w = .ok inf w:=info_run hi
  have e3:∀ w,(zeroValue e).run P w = .ok z w:=zero_run hi hz
  have hz1:∀ w:World,(if N.toNat * inf.size=0 then Result.ok #[] w else Result.ok (Builtin.zeroCells z.cells N.toNat) w)=Result.ok (zerosOf inf.size z.cells.toList N.toNat).toArray w:=by
    intro w
    by_cases h0:N.toNat * inf.size=0
    · rw [if_pos h0]
      simp [zerosOf,h0]
    · rw [if_neg h0,zeros_val hzs h0]
  have hasI:∀ w:World,(asInt (.int k N)).run P w = .ok N w:=fun w=>by simp [asInt,asIntOf]
  have key:∀ m:Nat,m+N.toNat < 2 ^ 62→(m+N.toNat) * inf.bytes≤2 ^ 46→IntKind.i64.wrap N=N∧¬ N < 0∧¬ N * (inf.bytes:Int) > 2 ^ 48:=fun m h1 h2=>by
    refine ⟨Go.IntWalk.i64_in N ⟨by omega,by omega⟩,by omega,?_⟩
    have:N.toNat * inf.bytes≤2 ^ 46:=Nat.le_trans (Nat.mul_le_mul (Nat.le_add_left _ _) (Nat.le_refl _)) h2
    have h3:((N.toNat * inf.bytes:Nat):Int)=N * (inf.bytes:Int):=by rw [Int.natCast_mul,Int.toNat_of_nonneg hN]
    omega
  refine append_core (u:=u) (ty:=ty) (e:=e) hr hs (zeros_one hp hz0) hlen hV hV (fun h1 h2 h3 h4=>?_) (fun h1 h2 h3 h4 h5 h6=>?_) ha
  · rename_i b m c w'
    obtain ⟨hw,hl0,hb⟩:=key m h1 h2
    simp only [Builtin.append_,List.getElem?_toArray,List.getElem?_cons_zero,List.getElem?_cons_succ,Sem.run_bind,und_run ht,und_run hu,Result.andThen_ok,e1,Sem.run_pure,if_true,Sem.run_ite,hasI,hw,if_neg hl0,e2,if_neg hb,if_pos h3,Bool.not_true,Bool.false_eq_true,if_false,e3,hz1]
    cases b with
    | none=>simp only at h4;subst h4;simp
    | some a=>simp only at h4;simp [h4]
  · rename_i b m c old
    obtain ⟨hw,hl0,hb⟩:=key m h3 h2
    have hq:∃ cap,m+N.toNat≤cap∧(choose (.appendCap (m+N.toNat) c e)).run P w = .ok cap w.drew:=⟨(Question.appendCap (m+N.toNat) c e).cut (w.tape w.drawn (.appendCap (m+N.toNat) c e)),Nat.le_add_right _ _,by rw [run_choose];rfl⟩
    obtain ⟨cap,hcap,hch⟩:=hq
    have hnc:=nextcap_le h1
    have hb2:Builtin.nextslicecap (m+N.toNat) c * inf.bytes≤3 * (m+N.toNat) * inf.bytes:=Nat.mul_le_mul hnc (Nat.le_refl _)
    have hb3:3 * (m+N.toNat) * inf.bytes=3 * ((m+N.toNat) * inf.bytes):=by rw [Nat.mul_assoc]
    have h48:¬ (Builtin.nextslicecap (m+N.toNat) c * inf.bytes > 2 ^ 48):=by omega
    have hmax:¬ (((m+N.toNat:Nat):Int) > IntKind.i64.max∧(True∨inf.bytes=0)):=by
      intro h
      have h1:=h.1
      have:IntKind.i64.max=9223372036854775807:=by decide
      omega
    have hle:¬ (m+N.toNat≤c):=by omega
    let cs:Array Value:=old.toArray++(zerosOf inf.size z.cells.toList N.toNat).toArray++Builtin.zeroCells z.cells (cap - (m+N.toNat))
    have hcs:cs.size=cap * inf.size:=by
      show (old.toArray++(zerosOf inf.size z.cells.toList N.toNat).toArray++Builtin.zeroCells z.cells (cap - (m+N.toNat))).size=_
      rw [Array.size_append,Array.size_append]
      have hzl:(Builtin.zeroCells z.cells (cap - (m+N.toNat))).size=(cap - (m+N.toNat)) * inf.size:=by simp [Builtin.zeroCells,hzs]
      rw [hzl,List.size_toArray,List.size_toArray,h5,hlen,← Nat.add_mul,← Nat.add_mul]
      congr 1
      omega
    refine ⟨cap,cs,{ w.drew with heap:=w.heap.push (.cells cs e) },hcap,hcs,fun i hi=>?_,?_,rfl,rfl,rfl,rfl⟩
    · show (old.toArray++(zerosOf inf.size z.cells.toList N.toNat).toArray++Builtin.zeroCells z.cells (cap - (m+N.toNat)))[i]? = _
      rw [Array.getElem?_append,if_pos (by simp at hi ⊢;omega)]
      simp [List.getElem?_append]
    · simp only [Builtin.append_,List.getElem?_toArray,List.getElem?_cons_zero,List.getElem?_cons_succ,Sem.run_bind,und_run ht,und_run hu,Result.andThen_ok,e1,Sem.run_pure,if_true,Sem.run_ite,hasI,hw,if_neg hl0,e2,if_neg hb,if_neg hle,Bool.not_true,Bool.false_eq_true,if_false]
      rw [if_neg (by simpa using hmax),if_neg h48]
      simp only [Sem.run_bind,hch,Result.andThen_ok,run_askRoom,h4,hz1,e3,newRow,run_newObj,Sem.run_pure]
      rfl

theorem copy_sound {P:Program} {R:AR} {h:Hp} {w:World} (hr:Rel R h w) {t u e ty:TypeId} {inf:TypeInfo} (ht:P.underlying t=some (.slice e)) (hi:P.info? e=some inf)
    {b:Option Addr} {m c:Nat} {d' x x':Value} (hd:VR R (.slice b m c) d') (hx:VR R x x') {new:List Value} {n:Nat} (hsrc:srcV h inf.size x=some (new,n)) {K:Value→Hp→Prop}
    (hk:if min n m=0 then K (.int .i64 0) h else cpyK h K (new.take (min n m * inf.size)) (min n m) b) :
    ∃ v w' h',(Builtin.copy_ #[t,u] ty #[d',x']).run P w = .ok v w'∧K v h'∧VR R v v∧Step R h R h' w':=by
  obtain ⟨hlen,hone,hnl,hfirst⟩:=srcV_run P hr hsrc hx
  have hmn:min n m≤n:=Nat.min_le_left _ _
  obtain ⟨l',k1,k2⟩:=hfirst (min n m) hmn
  have e1:∀ w,(sizeOf e).run P w = .ok inf.size w:=size_run hi
  have hd2:∃ b' c',d' = .slice b' m c':=by cases hd <;> exact ⟨_,_,rfl⟩
  obtain ⟨b',c',rfl⟩:=hd2
  have run:∀ w',(match b' with | none=>w'=w | some a=>(storeCells a l').run P w = .ok () w')→(Builtin.copy_ #[t,u] ty #[.slice b' m c',x']).run P w = .ok (.int .i64 (min n m:Nat)) w':=by
    intro w' hst
    simp only [Builtin.copy_,List.getElem?_toArray,List.getElem?_cons_zero,List.getElem?_cons_succ,Sem.run_bind,und_run ht,Result.andThen_ok,e1,hlen]
    have k2':(Builtin.firstCells inf.size (Nat.min n m) x').run P w = .ok l'.toArray w:=k2
    rw [k2']
    cases b' with
    | none=>simp only at hst;subst hst;rfl
    | some a=>simp only at hst;simp [hst,goInt]
  split at hk
  · rename_i h0
    have hl0:l'=[]:=by
      have:=k1.1
      rw [h0] at this
      exact List.eq_nil_of_length_eq_zero (by simpa using this.symm)
    subst hl0
    have:=run w (by cases b' <;> simp [storeCells])
    rw [h0] at this
    exact ⟨_,w,h,this,hk,.int _ _,.refl hr⟩
  · cases b with
    | none=>exact hk.elim
    | some a =>
      obtain ⟨h',hw,hkk⟩:=hk
      cases hd with
      | sl _ a' _ _ _ hsl =>
        obtain ⟨w',s1,s2⟩:=hr.write P hsl.addr k1 hw
        exact ⟨_,w',h',run w' s1,hkk,.int _ _,s2⟩
theorem VRs_map {R:AR} {ev ev':Operand→Value} (l:List Operand) (hf:∀ x ∈ l,VR R (ev x) (ev' x)):VRs R (l.map ev) (l.map ev'):=lookup_of (l':=l) hf
theorem VRs_arr {R:AR} {a a':Array Value} (hs:a.size=a'.size) (h:∀ (i:Nat) v v',a[i]? = some v→a'[i]? = some v'→VR R v v'):VRs R a.toList a'.toList :=
  ⟨by simpa using hs,fun i v v' h1 h2=>h i v v' (by simpa using h1) (by simpa using h2)⟩

theorem Rel.mark {R:AR} {h:Hp} {w:World} (P:Program) (hr:Rel R h w) {b cb cs cc:Nat} (hb:R.rho b=some (cb,cs,cc)) (o:Nat):∃ w',(markStringish ⟨cb,o,none⟩).run P w = .ok () w'∧Rel R h w':=by
  obtain ⟨h0,k,hk,hbr⟩:=hr.blk _ _ _ _ hb
  obtain ⟨c,t,fz,hm,hs,hf,hv⟩:=hbr.mem
  have hsh:w.shape? cb=some (t,cs):=by simp [World.shape?,hm,hs]
  refine ⟨w.freeze ⟨cb,cs,none⟩ 1,?_,?_⟩
  · simp [markStringish,run_shape,hsh,run_freeze]
  have hat:(w.freeze ⟨cb,cs,none⟩ 1).heap[cb]? = some (.cells c t (if fz.1 == fz.2 then (cs,cs+1) else (min fz.1 cs,max fz.2 (cs+1)))):=by
    simp [World.freeze,Array.getElem?_modify,hm]
  have hne:∀ j,j≠cb→(w.freeze ⟨cb,cs,none⟩ 1).heap[j]? = w.heap[j]?:=by
    intro j hj
    simp [World.freeze,Array.getElem?_modify,Ne.symm hj]
  have hz:FzOk cs (if fz.1 == fz.2 then (cs,cs+1) else (min fz.1 cs,max fz.2 (cs+1))):=by
    split
    · exact FzOk.behind _
    · rename_i hne
      have h1:fz.1≠fz.2:=by simpa using hne
      have h2:=hf.1
      have h3:cs≤fz.1:=by
        refine Nat.le_of_not_lt fun hlt=>hf.2 fz.1 hlt ⟨Nat.le_refl _,by omega⟩
      exact ⟨by simp only;omega,fun o ho=>by simp only;omega⟩
  refine ⟨hr.base,?_,hr.dead,fun b' cb' cs' cc' hb'=>?_,hr.inj⟩
  · have hlo:=hbr.lo
    rw [hr.base] at hlo
    exact ⟨hr.below.os,hr.below.tape,hr.below.output,by have:=hr.below.size;simp [World.freeze];exact this,fun j hj=>by rw [hne j (by omega)];exact hr.below.block j hj⟩
  · obtain ⟨g0,k3,hk3,hb3⟩:=hr.blk _ _ _ _ hb'
    refine ⟨g0,k3,hk3,hb3.live,hb3.lo,hb3.room,hb3.len,hb3.one,?_⟩
    by_cases e:b'=b
    · subst e
      rw [hb] at hb'
      simp only [Option.some.injEq,Prod.mk.injEq] at hb'
      obtain ⟨rfl,rfl,rfl⟩:=hb'
      rw [hk] at hk3
      obtain rfl:=Option.some.inj hk3
      exact ⟨c,t,_,hat,hs,hz,hv⟩
    · obtain ⟨c3,t3,fz3,hm3,r3⟩:=hb3.mem
      refine ⟨c3,t3,fz3,?_,r3⟩
      rw [hne cb' (fun e2=>e (hr.inj _ _ _ _ hb' hb e2))]
      exact hm3

theorem eo_sound {P:Program} {R:AR} {h:Hp} {w:World} {o:Oper} {eo:EOp} {ev:Operand→Value} {a:Act} {K:Value→Hp→Prop} {next:Act→World→Prop} {Q:Exit→Act→World→Prop} (hc:compE P o=some eo) (hev:∀ x ∈ eo.reads,VR R (ev x) (a.eval x)) (hr:Rel R h w) (hrun:eo.run P ev h K)
    (hnext:∀ v v' h' R' w',K v h'→VR R' v v'→Step R h R' h' w'→next (a.put o.dst v') w'):o.wp P a w next Q:=by
  obtain ⟨dst,op,ty,pos,aft,grd⟩:=o
  cases op with
  | store t x y =>
    obtain ⟨inf,hi,rfl⟩:=Option.map_eq_some_iff.1 hc
    obtain ⟨hx,hy⟩:=mem2 (Q:=fun y=>VR R (ev y) (a.eval y)) hev
    simp only [EOp.run] at hrun
    split at hrun
    · rename_i ad hv
      obtain ⟨hsz,h',hw,hk⟩:=hrun
      rw [hv] at hx
      obtain ⟨c1,c2⟩:=hy.cells
      have hs:∃ w',(Instr.storeAt t (a.eval x) (a.eval y)).run P w = .ok () w'∧Step R h R h' w':=by
        generalize a.eval x=x' at *
        cases hx with
        | ptr _ ad' had =>
          obtain ⟨w',s1,s2⟩:=hr.write P had (VRs_arr c1 c2) hw
          refine ⟨w',?_,s2⟩
          have e1:¬ ((a.eval y).cells.size≠inf.size):=by rw [← c1];omega
          simp only [Instr.storeAt,Instr.sureAddr,pure_bind,storeVar,Sem.run_bind,size_run hi,Result.andThen_ok,if_neg e1]
          exact s1
      obtain ⟨w',s1,s2⟩:=hs
      show Oper.upon P _ a next Q ((execOp a.eval ⟨dst,.store t x y,ty,pos,aft,grd⟩).run P w)
      have:(execOp a.eval ⟨dst,.store t x y,ty,pos,aft,grd⟩).run P w = .ok .skip w':=by
        show (do Instr.storeAt t (a.eval x) (a.eval y);pure .skip:Sem Next).run P w=_
        simp [s1]
      rw [this]
      refine hnext undef undef h' R w' hk (.tuple _ _ rfl (fun i v v' h1 h2=>by simp at h1)) s2
    · exact hrun.elim
  | convert src dt x =>
    simp only [compE] at hc
    split at hc
    · rename_i e hu
      split at hc
      · rename_i hb
        obtain ⟨rfl,hb⟩:=hb
        have hbe:P.underlying e=some (.int .u8):=by
          unfold byteT at hb
          split at hb
          · assumption
          · simp at hb
        obtain rfl:=Option.some.inj hc
        have hx:=mem1 (Q:=fun y=>VR R (ev y) (a.eval y)) hev
        simp only [EOp.run] at hrun
        split at hrun
        · rename_i ad n c hv
          obtain ⟨⟨hsp,k,hk,hl⟩,hK⟩:=hrun
          rw [hv] at hx
          have hs:∃ ad' c' w',a.eval x = .slice (some ad') n c'∧(markStringish ad').run P w = .ok () w'∧Rel R h w':=by
            generalize a.eval x=x' at *
            cases hx with
            | sl _ ad' _ _ c' hsl =>
              cases hsl with
              | old _ _ _ hlt=>have:=(Hp.blk_lt hk).1;rw [← hr.base] at this;omega
              | new b o _ _ cb cs cc _ hlt hrho =>
                obtain ⟨w',m1,m2⟩:=hr.mark P hrho o
                exact ⟨_,_,w',rfl,m1,m2⟩
              | dead _ _ _ _ _ hlt hd =>
                obtain ⟨-,k2,h2,h3⟩:=hr.dead _ hd
                rw [hk] at h2
                obtain rfl:=Option.some.inj h2
                rw [hl] at h3
                simp at h3
              | junk _ _ _ hlt hs'=>rw [hsp] at hs';simp at hs'
          obtain ⟨ad',c',w',ea,m1,m2⟩:=hs
          show Oper.upon P _ a next Q ((execOp a.eval ⟨dst,.convert src src x,ty,pos,aft,grd⟩).run P w)
          have:(execOp a.eval ⟨dst,.convert src src x,ty,pos,aft,grd⟩).run P w = .ok (.value (a.eval x)) w':=by
            show (do pure (Next.value (← Go.convert src src (a.eval x))):Sem Next).run P w=_
            rw [ea]
            simp [Go.convert,und_run hu,und_run hbe,m1]
          rw [this]
          refine hnext _ _ h R w' hK ?_ ⟨.refl R,m2,rfl,Nat.le_refl _,fun _ _ h=>.inl h⟩
          exact hx
        · exact hrun.elim
      · simp at hc
    · simp at hc
  | call c =>
    obtain ⟨callee,args,argTypes⟩:=c
    simp only [compE] at hc
    split at hc
    · rename_i f
      obtain rfl:=Option.some.inj hc
      simp only [EOp.run] at hrun
      split at hrun
      · rename_i g p q hv
        have hf:VR R (ev f) (a.eval f):=hev f (by simp [EOp.reads])
        rw [hv] at hf
        obtain ⟨⟨fn,hfn,hname,hbody⟩,hcall⟩:=hrun
        generalize hg:a.eval f=f' at hf
        cases hf with
        | func _ _ p' _ q' ha hb ka kb =>
          have hargs:VRs R (p.toList++args.toList.map ev++q.toList) (p'.toList++args.toList.map a.eval++q'.toList) :=
            VRs.append (VRs.append (VRs_arr ha ka) (VRs_map _ (fun x hx=>hev x (by simp only [EOp.reads];exact List.mem_cons_of_mem _ hx)))) (VRs_arr hb kb)
          have hcalls:=hcall R w _ hr hargs
          have hex:(execOp a.eval ⟨dst,.call ⟨.value f,args,argTypes⟩,ty,pos,aft,grd⟩).run P w = .ok (.enter g (p'++args.map a.eval++q')) w:=by
            show (do let d ← resolve a.eval ⟨.value f,args,argTypes⟩ ty;invoke d.target d.args:Sem Next).run P w=_
            simp only [resolve,hg,Deferred.ofValue,pure_bind,invoke,callFunc,Sem.run_bind,run_program,Result.andThen_ok,hfn]
            simp [hname,hbody]
          show Oper.upon P _ a next Q ((execOp a.eval ⟨dst,.call ⟨.value f,args,argTypes⟩,ty,pos,aft,grd⟩).run P w)
          rw [hex]
          have harr:(p'.toList++args.toList.map a.eval++q'.toList).toArray=p'++args.map a.eval++q':=by
            apply Array.ext'
            simp
          rw [harr] at hcalls
          refine Calls.mono hcalls fun e w' hp=>?_
          obtain ⟨v,v',h',R',k1,rfl,k2,k3⟩:=hp
          exact hnext v v' h' R' w' k1 k2 k3
      · exact hrun.elim
    · split at hc
      · rename_i s x t u hargs htys
        split at hc
        · rename_i e ht
          split at hc
          · rename_i hu
            obtain ⟨inf,hi,hc⟩:=Option.bind_eq_some_iff.1 hc
            obtain ⟨z,hz,hc⟩:=Option.bind_eq_some_iff.1 hc
            split at hc
            · rename_i hzz
              obtain rfl:=Option.some.inj hc
              obtain ⟨new,n,v,h',h1,h2,hk⟩:=hrun
              obtain ⟨hs,hx⟩:=mem2 (Q:=fun y=>VR R (ev y) (a.eval y)) hev
              obtain ⟨v',w',R',g1,g2,g3⟩:=append_sound (ty:=ty) hr ht hu hi hz hzz.2 hs hx h1 h2
              have ea:args = #[s,x]:=Array.ext' hargs
              have et:argTypes = #[t,u]:=Array.ext' htys
              subst ea et
              show Oper.upon P _ a next Q ((execOp a.eval ⟨dst,.call ⟨.builtin .append,#[s,x],#[t,u]⟩,ty,pos,aft,grd⟩).run P w)
              have:(execOp a.eval ⟨dst,.call ⟨.builtin .append,#[s,x],#[t,u]⟩,ty,pos,aft,grd⟩).run P w = .ok (.value v') w':=by
                have em:(#[s,x]:Array Operand).map a.eval = #[a.eval s,a.eval x]:=by simp
                show (builtin .append #[t,u] ty ((#[s,x]:Array Operand).map fun | .const _=>true | _=>false) ((#[s,x]:Array Operand).map a.eval)).run P w=_
                rw [em]
                show (do pure (Next.value (← Builtin.append_ #[t,u] ty #[a.eval s,a.eval x])):Sem Next).run P w=_
                simp [g1]
              rw [this]
              exact hnext v v' h' R' w' hk g2 g3
            · simp at hc
          · split at hc
            · rename_i kk hu
              obtain ⟨inf,hi,hc⟩:=Option.bind_eq_some_iff.1 hc
              obtain ⟨z,hz,hc⟩:=Option.bind_eq_some_iff.1 hc
              split at hc
              · rename_i hzz
                obtain rfl:=Option.some.inj hc
                obtain ⟨hs,hx⟩:=mem2 (Q:=fun y=>VR R (ev y) (a.eval y)) hev
                simp only [EOp.run] at hrun
                split at hrun
                · rename_i k N hv
                  obtain ⟨h0,v,h',h2,hk⟩:=hrun
                  rw [hv] at hx
                  have hx':a.eval x = .int k N:=by
                    generalize a.eval x=q at hx
                    cases hx
                    rfl
                  obtain ⟨v',w',R',g1,g2,g3⟩:=apz_sound (ty:=ty) (k:=k) hr ht hu hi hz hzz.2.1 hzz.1 hzz.2.2 hs h0 h2
                  have ea:args = #[s,x]:=Array.ext' hargs
                  have et:argTypes = #[t,u]:=Array.ext' htys
                  subst ea et
                  show Oper.upon P _ a next Q ((execOp a.eval ⟨dst,.call ⟨.builtin .append,#[s,x],#[t,u]⟩,ty,pos,aft,grd⟩).run P w)
                  have:(execOp a.eval ⟨dst,.call ⟨.builtin .append,#[s,x],#[t,u]⟩,ty,pos,aft,grd⟩).run P w = .ok (.value v') w':=by
                    have em:(#[s,x]:Array Operand).map a.eval = #[a.eval s,a.eval x]:=by simp
                    show (builtin .append #[t,u] ty ((#[s,x]:Array Operand).map fun | .const _=>true | _=>false) ((#[s,x]:Array Operand).map a.eval)).run P w=_
                    rw [em]
                    show (do pure (Next.value (← Builtin.append_ #[t,u] ty #[a.eval s,a.eval x])):Sem Next).run P w=_
                    rw [hx']
                    simp [g1]
                  rw [this]
                  exact hnext v v' h' R' w' hk g2 g3
                · exact hrun.elim
              · simp at hc
            · simp at hc
        · simp at hc
      · simp at hc
    · split at hc
      · rename_i s x t u hargs htys
        split at hc
        · rename_i e ht
          split at hc
          · obtain ⟨inf,hi,rfl⟩:=Option.map_eq_some_iff.1 hc
            simp only [EOp.run] at hrun
            obtain ⟨hs,hx⟩:=mem2 (Q:=fun y=>VR R (ev y) (a.eval y)) hev
            split at hrun
            · rename_i b m cc hv
              rw [hv] at hs
              obtain ⟨new,n,h1,h2⟩:=hrun
              obtain ⟨v,w',h',g1,g2,g3,g4⟩:=copy_sound (u:=u) (ty:=ty) hr ht hi hs hx h1 h2
              have ea:args = #[s,x]:=Array.ext' hargs
              have et:argTypes = #[t,u]:=Array.ext' htys
              subst ea et
              show Oper.upon P _ a next Q ((execOp a.eval ⟨dst,.call ⟨.builtin .copy,#[s,x],#[t,u]⟩,ty,pos,aft,grd⟩).run P w)
              have:(execOp a.eval ⟨dst,.call ⟨.builtin .copy,#[s,x],#[t,u]⟩,ty,pos,aft,grd⟩).run P w = .ok (.value v) w':=by
                have em:(#[s,x]:Array Operand).map a.eval = #[a.eval s,a.eval x]:=by simp
                show (builtin .copy #[t,u] ty ((#[s,x]:Array Operand).map fun | .const _=>true | _=>false) ((#[s,x]:Array Operand).map a.eval)).run P w=_
                rw [em]
                show (do pure (Next.value (← Builtin.copy_ #[t,u] ty #[a.eval s,a.eval x])):Sem Next).run P w=_
                simp [g1]
              rw [this]
              exact hnext v v h' R w' g2 g3 g4
            · exact hrun.elim
          · simp at hc
        · simp at hc
      · simp at hc
    · simp at hc
  | _=>simp [compE] at hc
end Go.Proofs.Ytcffpnlochillaa.Ab
namespace Go.Proofs.Ytcffpnlochillaa.Ab
open Go.RowKit
abbrev Fr:=Nat→Value
def evF (f:Fr):Operand→Value
  | .tmp t=>f t
  | .const v=>v
  | .global g=>.pointer (some ⟨g,0,none⟩)
  | .func g=>.func (.func g) #[] #[]
def putF (f:Fr):Option Nat→Value→Fr
  | none,_=>f
  | some d,v=>fun t=>if t=d then v else f t
inductive COp where
  | f (o:FOp)
  | e (o:EOp)
structure CO where
  dst:Option Nat
  guard:Option (Nat×Bool)
  keep:Bool
  op:COp
def COp.reads:COp→List Operand
  | .f o=>o.reads
  | .e o=>o.reads
def wantC (g:Option (Nat×Bool)) (f:Fr):Bool :=
  match g with
  | none=>true
  | some (s, b) => match f s with
    | .bool x=>x == b
    | _=>false

def Keeps (h h':Hp):Prop:=h'.old=h.old∧∀ b k,h.blk? b=some k→h'.blk? b=some k
def ptB:Value→Option Nat
  | .pointer (some a)=>if a.spot=none then some a.block else none
  | _=>none

def EOp.touch (ev:Operand→Value):EOp→List Nat
  | .app _ _ s _ => match ev s with
    | .slice (some a) _ _=>if a.spot=none then [a.block] else []
    | _=>[]
  | .apz _ _ _ s _ => match ev s with
    | .slice (some a) _ _=>if a.spot=none then [a.block] else []
    | _=>[]
  | .cpy _ d _ => match ev d with
    | .slice (some a) _ _=>if a.spot=none then [a.block] else []
    | _=>[]
  | .cal f args => match ev f with
    | .func _ a b=>(a.toList++args.map ev++b.toList).filterMap ptB
    | _=>[]
  | .st _ a _=>[ev a].filterMap ptB
  | .mst _=>[]

def ptOf:Value→Option Addr
  | .pointer (some a)=>some a
  | .slice (some a) n _=>if n=0 then none else some a
  | _=>none

def KeepsP (T:List Nat) (pr:List Operand) (f:Fr) (h h':Hp):Prop:=h'.old=h.old∧(∀ b k,h.blk? b=some k→b ∉ T→h'.blk? b=some k)∧∀ b ∈ T,∀ x ∈ pr,∀ a,ptOf (evF f x)=some a→a.block≠b

def rdF:FOp→List Operand→List Operand
  | .ld _ x,pr=>x::pr
  | .b2s x,pr=>x::pr
  | _,pr=>pr
def rdO:COp→List Operand→List Operand
  | .f fo,pr=>rdF fo pr
  | .e _,pr=>pr
def aops (P:Program):List Operand→List CO→(Fr→Hp→Prop)→Fr→Hp→Prop
  | pr,[],K,f,h=>K f h
  | pr, c :: cs, K, f, h =>
    if wantC c.guard f=true then
      match c.op with
      | .f fo=>∃ v k,fo.ok P (evF f) h h.next v k∧aops P (rdF fo pr) cs K (putF f c.dst v) (h.pushO k)
      | .e eo=>eo.run P (evF f) h fun v h'=>(c.keep=true→Keeps h h'∨KeepsP (eo.touch (evF f)) pr f h h')∧aops P pr cs K (putF f c.dst v) h'
    else aops P (rdO c.op pr) cs K (putF f c.dst undef) h
def compOp (P:Program) (o:Oper):Option COp :=
  match compF P o with
  | some fo=>some (.f fo)
  | none=>(compE P o).map .e
def dstOk (N:Nat):Option Nat→Bool
  | none=>true
  | some d=>d < N
def compO (P:Program) (N:Nat) (ops:Array Oper) (o:Oper):Option CO :=
  match compOp P o with
  | none=>none
  | some c =>
    if c.reads.all okOpd && dstOk N o.dst then
      match o.guard with
      | none=>some ⟨o.dst,none,false,c⟩
      | some (j,b)=>((ops[j]?).bind (·.dst)).map fun s=>⟨o.dst,some (s,b),false,c⟩
    else none
def FR (R:AR) (N:Nat) (f:Fr) (a:Act):Prop:=a.tmps.size=N∧∀ t,VR R (f t) (a.tmps.getD t undef)
theorem FR.mono {R R':AR} (hle:R.le R') {N:Nat} {f:Fr} {a:Act} (h:FR R N f a):FR R' N f a:=⟨h.1,fun t=>(h.2 t).mono hle⟩
theorem undef_VR (R:AR):VR R undef undef:=.tuple _ _ rfl (fun i v v' h=>by simp at h)
theorem opd_VR {R:AR} {f:Fr} {a:Act} {x:Operand} (hx:okOpd x=true) (h:∀ t,x = .tmp t→VR R (f t) (a.tmps.getD t undef)):VR R (evF f x) (a.eval x):=by
  cases x with
  | tmp t=>exact h t rfl
  | const v=>exact plainV_VR hx
  | global g=>simp [okOpd] at hx
  | func g=>exact .func _ _ _ _ _ rfl rfl (fun i v v' h=>by simp at h) (fun i v v' h=>by simp at h)
theorem put_get {a:Act} {d:Option Nat} {v:Value} {N:Nat} (hN:a.tmps.size=N) (hd:∀ s,d=some s→s < N) (t:Nat):(a.put d v).tmps.getD t undef=if d=some t then v else a.tmps.getD t undef:=by
  cases d with
  | none=>simp [Act.put]
  | some s =>
    have hs:=hd s rfl
    simp only [Act.put,Option.some.injEq]
    by_cases e:s=t
    · subst e
      simp [Array.getD,hN,hs]
    · rw [if_neg e]
      simp only [Array.getD_eq_getD_getElem?]
      rw [Array.getElem?_setIfInBounds,if_neg e]
theorem put_size {a:Act} {d:Option Nat} {v:Value}:(a.put d v).tmps.size=a.tmps.size:=by cases d <;> simp [Act.put]
theorem put_defers {a:Act} {d:Option Nat} {v:Value}:(a.put d v).defers=a.defers:=by cases d <;> rfl
theorem FR.put {R:AR} {N:Nat} {f:Fr} {a:Act} (h:FR R N f a) {d:Option Nat} (hd:∀ s,d=some s→s < N) {v v':Value} (hv:VR R v v'):FR R N (putF f d v) (a.put d v'):=by
  refine ⟨put_size.trans h.1,fun t=>?_⟩
  rw [put_get h.1 hd]
  cases d with
  | none=>simpa [putF] using h.2 t
  | some s =>
    simp only [putF,Option.some.injEq]
    by_cases e:t=s
    · subst e
      simpa using hv
    · rw [if_neg e,if_neg (fun k=>e k.symm)]
      exact h.2 t
theorem want_eq {R:AR} {N:Nat} {f:Fr} {a:Act} {ops:Array Oper} {P:Program} {o:Oper} {c:CO} (hc:compO P N ops o=some c) (h:∀ s b,c.guard=some (s,b)→VR R (f s) (a.tmps.getD s undef)):Region.wanted o (yielded ops a.tmps)=wantC c.guard f:=by
  unfold compO at hc
  split at hc
  · simp at hc
  · split at hc
    · split at hc
      · rename_i hg
        obtain rfl:=Option.some.inj hc
        simp [Region.wanted,hg,wantC]
      · rename_i j b hg
        obtain ⟨s,hs,rfl⟩:=Option.map_eq_some_iff.1 hc
        have hv:=h s b rfl
        simp only [Region.wanted,hg,wantC,yielded,hs,Option.bind_some]
        have e:a.tmps.getD s undef=(a.tmps[s]?).getD undef:=by simp
        rw [e] at hv
        cases ht:a.tmps[s]? with
        | none =>
          rw [ht] at hv
          simp only [Option.getD_none,undef] at hv
          generalize f s=x at hv
          cases hv
          rfl
        | some y =>
          rw [ht] at hv
          simp only [Option.getD_some] at hv
          generalize f s=x at hv
          cases hv <;> first | rfl | simp
    · simp at hc
theorem compO_spec {P:Program} {N:Nat} {ops:Array Oper} {o:Oper} {c:CO} (hc:compO P N ops o=some c):compOp P o=some c.op∧c.dst=o.dst∧c.op.reads.all okOpd=true∧∀ s,c.dst=some s→s < N:=by
  unfold compO at hc
  split at hc
  · simp at hc
  · rename_i co hco
    split at hc
    · rename_i hk
      rw [Bool.and_eq_true] at hk
      split at hc
      · obtain rfl:=Option.some.inj hc
        refine ⟨hco,rfl,hk.1,fun s hs=>?_⟩
        have hs':o.dst=some s:=hs
        rw [hs'] at hk
        simpa [dstOk] using hk.2
      · obtain ⟨s,hs,rfl⟩:=Option.map_eq_some_iff.1 hc
        refine ⟨hco,rfl,hk.1,fun s hs=>?_⟩
        have hs':o.dst=some s:=hs
        rw [hs'] at hk
        simpa [dstOk] using hk.2
    · simp at hc
theorem compOp_spec {P:Program} {o:Oper} {c:COp} (h:compOp P o=some c):(∃ fo,c = .f fo∧compF P o=some fo)∨∃ eo,c = .e eo∧compE P o=some eo:=by
  unfold compOp at h
  split at h
  · rename_i fo hf
    exact .inl ⟨fo,(Option.some.inj h).symm,hf⟩
  · obtain ⟨eo,he,rfl⟩:=Option.map_eq_some_iff.1 h
    exact .inr ⟨eo,rfl,he⟩
theorem ok_id {P:Program} {fo:FOp} {ev:Operand→Value} {h:Hp} {id:Nat} {v:Value} {k:Option Blk} (h1:fo.ok P ev h id v k):∀ b,k=some b→b.live=true:=by
  intro b hb
  subst hb
  rcases h1 with h1 | ⟨_,_,_,_,_,_,_,_,h2,_⟩
  · cases fo <;> simp only [FOp.run] at h1 <;> (repeat' split at h1) <;> first
      | (simp at h1;done)
      | (simp only [Option.some.injEq,Prod.mk.injEq] at h1;obtain ⟨-,rfl⟩:=h1;rfl)
      | (obtain ⟨x,hx,hx2⟩:=Option.map_eq_some_iff.1 h1;simp only [Prod.mk.injEq,reduceCtorEq,and_false] at hx2;done)
      | (obtain ⟨x,hx,hx2⟩:=Option.map_eq_some_iff.1 h1;simp only [Prod.mk.injEq,Option.some.injEq] at hx2;obtain ⟨-,rfl⟩:=hx2;rfl)
  · simp at h2
theorem Keeps.refl (h:Hp):Keeps h h:=⟨rfl,fun _ _ h=>h⟩
theorem Keeps.trans {a b c:Hp} (h:Keeps a b) (k:Keeps b c):Keeps a c:=⟨k.1.trans h.1,fun x y hx=>k.2 x y (h.2 x y hx)⟩
theorem Keeps.push (h:Hp) (k:Blk):Keeps h (h.push k):=⟨rfl,fun b x hb=>by
  rw [Hp.blk_push_ne _ _ (fun e=>by rw [e,Hp.blk_next] at hb;simp at hb)]
  exact hb⟩
theorem Keeps.pushO (h:Hp) (k:Option Blk):Keeps h (h.pushO k):=by
  cases k with
  | none=>exact .refl h
  | some k=>exact .push h k
theorem Keeps.cell {h h':Hp} (hk:Keeps h h') {a:Addr} {v:Value} (hc:h.cell? a=some v):h'.cell? a=some v:=by
  unfold Hp.cell? at hc ⊢
  rw [hk.1]
  split at hc
  · rename_i hlt
    rw [if_pos hlt]
    exact hc
  · rename_i hlt
    rw [if_neg hlt]
    split at hc
    · simp at hc
    · rename_i hs
      rw [if_neg hs]
      split at hc
      · rename_i k hb
        rw [hk.2 _ _ hb]
        exact hc
      · simp at hc
theorem Keeps.cellsFrom {h h':Hp} (hk:Keeps h h') {a:Addr}:∀ (n i:Nat) (l:List Value),h.cellsFrom a i n=some l→h'.cellsFrom a i n=some l
  | 0,i,l,hl=>by simpa [Hp.cellsFrom] using hl
  | n + 1, i, l, hl => by
    simp only [Hp.cellsFrom] at hl ⊢
    cases hc:h.cell? (a.add i) with
    | none=>simp [hc] at hl
    | some v =>
      simp only [hc] at hl
      obtain ⟨t,ht,rfl⟩:=Option.map_eq_some_iff.1 hl
      rw [hk.cell hc]
      simp only
      rw [hk.cellsFrom n (i+1) t ht]
      rfl
theorem Keeps.cells {h h':Hp} (hk:Keeps h h') {a:Addr} {n:Nat} {l:List Value} (hl:h.cells? a n=some l):h'.cells? a n=some l:=hk.cellsFrom n 0 l hl
theorem run_keep {P:Program} {fo:FOp} {ev:Operand→Value} {h h':Hp} {id:Nat} {r:Value×Option Blk} (hk:Keeps h h') (h1:fo.run P ev h id=some r):fo.run P ev h' id=some r:=by
  cases fo
  case b2s x =>
    simp only [FOp.run] at h1 ⊢
    split at h1
    · exact h1
    · obtain ⟨l,hl,rfl⟩:=Option.map_eq_some_iff.1 h1
      obtain ⟨c,hc,hs⟩:=Option.bind_eq_some_iff.1 hl
      simp only [hk.cells hc,Option.bind_some,hs,Option.map_some]
    · simp at h1
  case ld n x =>
    simp only [FOp.run] at h1 ⊢
    split at h1
    · cases n with
      | none =>
        obtain ⟨v,hv,rfl⟩:=Option.map_eq_some_iff.1 h1
        simp only [hk.cell hv,Option.map_some]
      | some n =>
        obtain ⟨v,hv,rfl⟩:=Option.map_eq_some_iff.1 h1
        obtain ⟨l,hl,rfl⟩:=Option.map_eq_some_iff.1 hv
        simp only [hk.cells hl,Option.map_some]
    · simp at h1
  case slc size x lo hi =>
    simp only [FOp.run] at h1 ⊢
    rw [hk.1]
    exact h1
  all_goals exact h1
theorem ok_keep {P:Program} {fo:FOp} {ev:Operand→Value} {h h':Hp} {id:Nat} {v:Value} {k:Option Blk} (hk:Keeps h h') (h1:fo.ok P ev h id v k):fo.ok P ev h' id v k:=h1.imp (run_keep hk) (fun h=>h)

theorem seq_sound {P:Program} {N:Nat} {ops:Array Oper} {Q:Exit→Act→World→Prop} {K:Fr→Hp→Prop}:∀ (is:List Nat) (cs:List CO) {pr:List Operand} {R:AR} {f:Fr} {h:Hp} {a:Act} {w:World},
    is.length=cs.length→(∀ (k i:Nat) (c:CO),is[k]? = some i→cs[k]? = some c→∃ o c0,ops[i]? = some o∧compO P N ops o=some c0∧c = { c0 with keep:=c.keep }) →
    aops P pr cs K f h→Rel R h w→FR R N f a→a.defers=[] →
    (∀ f' h' R' a' w',K f' h'→Step R h R' h' w'→FR R' N f' a'→a'.defers=[]→Q .normal a' w')→wpOps P ops Q is a w
  | [], cs, pr, R, f, h, a, w, hl, hco, hk, hr, hf, hd, hq => by
    cases cs with
    | nil=>exact hq f h R a w hk (.refl hr) hf hd
    | cons _ _=>simp at hl
  | i::is,[],pr,R,f,h,a,w,hl,hco,hk,hr,hf,hd,hq=>by simp at hl
  | i :: is, c :: cs, pr, R, f, h, a, w, hl, hco, hk, hr, hf, hd, hq => by
    obtain ⟨o,c0,ho,hc0,hceq⟩:=hco 0 i c rfl rfl
    obtain ⟨s1,s2,s3,s4⟩:=compO_spec hc0
    have g1:c.op=c0.op:=by rw [hceq]
    have g2:c.dst=c0.dst:=by rw [hceq]
    have g3:c.guard=c0.guard:=by rw [hceq]
    have hwant:=want_eq (R:=R) (f:=f) (a:=a) hc0 (fun s b _=>hf.2 s)
    have hrec:=fun {pr R f h a w}=>seq_sound (P:=P) (N:=N) (ops:=ops) (Q:=Q) (K:=K) is cs (pr:=pr) (R:=R) (f:=f) (h:=h) (a:=a) (w:=w) (by simpa using hl) (fun k i' c' h1 h2=>hco (k+1) i' c' (by simpa using h1) (by simpa using h2))
    rw [wpOps_cons]
    unfold wpOp
    simp only [ho,hwant]
    unfold aops at hk
    rw [g1,g2,g3] at hk
    have hdst:o.dst=c0.dst:=s2.symm
    split
    · rename_i hw
      rw [if_pos hw] at hk
      refine .inl ?_
      rcases compOp_spec s1 with ⟨fo,e1,e2⟩ | ⟨eo,e1,e2⟩
      · rw [e1] at hk s3
        simp only at hk
        obtain ⟨v,k,hok,hk⟩:=hk
        have hev:∀ x ∈ fo.reads,VR R (evF f x) (a.eval x):=fun x hx=>opd_VR (List.all_eq_true.1 s3 x hx) (fun t _=>hf.2 t)
        have hpush:Rel R (h.pushO k) w∧∀ b,k=some b→(h.pushO k).blk? h.next=some b∧R.rho h.next=none:=by
          cases k with
          | none=>exact ⟨hr,fun b hb=>by simp at hb⟩
          | some b=>exact ⟨(hr.push b).1,fun b' hb'=>by obtain rfl:=Option.some.inj hb';exact ⟨Hp.blk_push _ _,(hr.push b).2⟩⟩
        have hok2:fo.ok P (evF f) (h.pushO k) h.next v k:=by
          exact ok_keep (Keeps.pushO h k) hok
        obtain ⟨v',w',R',r1,r2,r3,r4,r5⟩:=fo_sound (ev':=a.eval) e2 hev hpush.1 hok2 hpush.2
        show Oper.upon P o a _ Q ((execOp a.eval o).run P w)
        rw [r1]
        show wpOps P ops Q is (a.put o.dst v') w'
        have hstep:Step R h R' (h.pushO k) w':=by
          refine ⟨r3,r4,by cases k <;> rfl,by cases k;exact Nat.le_refl _;(show h.next≤(h.push _).next;rw [Hp.next_push];omega),fun b e hb=>?_⟩
          rcases r5 b e hb with h1 | ⟨-,h1⟩
          · exact .inl h1
          · exact .inr (by omega)
        refine hrec hk r4 ?_ (put_defers.trans hd) (fun f2 h2 R2 a2 w2 k1 k2 k3 k4=>hq f2 h2 R2 a2 w2 k1 (hstep.trans k2) k3 k4)
        rw [hdst]
        exact (hf.mono r3).put s4 r2
      · rw [e1] at hk s3
        simp only at hk
        have hev:∀ x ∈ eo.reads,VR R (evF f x) (a.eval x):=fun x hx=>opd_VR (List.all_eq_true.1 s3 x hx) (fun t _=>hf.2 t)
        refine eo_sound e2 hev hr hk (fun v v' h' R' w' k1 k2 k3=>?_)
        refine hrec k1.2 k3.rel ?_ (put_defers.trans hd) (fun f2 h2 R2 a2 w2 j1 j2 j3 j4=>hq f2 h2 R2 a2 w2 j1 (k3.trans j2) j3 j4)
        rw [hdst]
        exact (hf.mono k3.le).put s4 k2
    · rename_i hw
      rw [if_neg hw] at hk
      refine hrec hk hr ?_ (put_defers.trans hd) hq
      rw [hdst]
      exact hf.put s4 (undef_VR R)
end Go.Proofs.Ytcffpnlochillaa.Ab
namespace Go.Proofs.Ytcffpnlochillaa.Ab
open Go.RowKit
def predsO (o:Oper):List Nat:=o.after.toList.filterMap fun e=>if Region.binds .any e then some e.on else none
def predsAt (ops:Array Oper) (i:Nat):List Nat:=match ops[i]? with | some o=>predsO o | none=>[]
def slotOf:Operand→Option Nat
  | .tmp t=>some t
  | _=>none
def readsC (c:CO):List Nat:=c.op.reads.filterMap slotOf++(match c.guard with | some (s,_)=>[s] | none=>[])
def isE (c:CO):Bool:=match c.op with | .e _=>true | _=>false

def heapy (c:CO):Bool:=match c.op with
  | .f (.ld _ _) | .f (.b2s _) | .f (.s2b _) | .f (.new _) | .f (.box _) | .f (.mks _ _ _ _ _) | .f (.bsl _ _)=>true
  | _=>false
def c0:CO:=⟨none,none,false,.f (.mv (.tmp 0))⟩
def wr (cs:List CO) (t:Nat):Option Nat:=(List.range cs.length).find? fun u=>(cs.getD u c0).dst == some t

def quiet (cs:List CO) (ms:List Nat) (u:Nat):Bool :=
  (readsC (cs.getD u c0)).all fun t=>match wr cs t with | none=>true | some w=>(ms.getD u 0).testBit w
def walkOk (ops:Array Oper) (cs:List CO) (ms:List Nat):List Nat→Nat→Bool
  | [],M=>(List.range ops.size).all fun i=>M.testBit i
  | j :: suf, M => decide (j < ops.size) && !M.testBit j && (predsAt ops j).all (fun e => M.testBit e) &&
    (!isE (cs.getD j c0) || ((List.range ops.size).all (fun i=>M.testBit i || i == j || (predsAt ops i).any fun e=>!M.testBit e) &&
      ((cs.getD j c0).keep || (List.range ops.size).all fun u=>!M.testBit u || !heapy (cs.getD u c0) || (ms.getD j 0).testBit u) &&
      (!(cs.getD j c0).keep || (List.range ops.size).all fun u=>!M.testBit u || !heapy (cs.getD u c0) || (ms.getD j 0).testBit u || quiet cs ms u))) &&
    walkOk ops cs ms suf (M ||| 2 ^ j)
def regOk (ops:Array Oper) (cs:List CO) (ms ord:List Nat):Bool :=
  cs.length == ops.size &&
  ((List.range ops.size).all fun i=>(predsAt ops i).all fun e=>decide (e < i)) &&
  ((List.range ops.size).all fun j=>(List.range ops.size).all fun i=>!(ms.getD j 0).testBit i || (predsAt ops j).any fun e=>e == i || (ms.getD e 0).testBit i) &&
  ((List.range ops.size).all fun j=>decide (ms.getD j 0 < 2 ^ ops.size)) &&
  ((List.range ops.size).all fun i=>(List.range i).all fun j=>(cs.getD i c0).dst == none || (cs.getD i c0).dst != (cs.getD j c0).dst) &&
  ((List.range ops.size).all fun r=>(readsC (cs.getD r c0)).all fun t=>match wr cs t with | none=>true | some u=>u == r || (ms.getD r 0).testBit u || (ms.getD u 0).testBit r) &&
  walkOk ops cs ms ord 0
section
variable {P:Program} {N:Nat} {ops:Array Oper} {cs:List CO} {ms:List Nat}
structure RegP (P:Program) (N:Nat) (ops:Array Oper) (cs:List CO) (ms:List Nat):Prop where
  len:cs.length=ops.size
  comp:∀ i o,ops[i]? = some o→∃ c,compO P N ops o=some c∧cs.getD i c0 = { c with keep:=(cs.getD i c0).keep }
  back:∀ i,i < ops.size→∀ e ∈ predsAt ops i,e < i
  mask:∀ j i,j < ops.size→(ms.getD j 0).testBit i=true→∃ e ∈ predsAt ops j,e=i∨(ms.getD e 0).testBit i=true
  uniq:∀ i j,i < ops.size→j < ops.size→∀ t,(cs.getD i c0).dst=some t→(cs.getD j c0).dst=some t→i=j
  rw_:∀ r,r < ops.size→∀ t ∈ readsC (cs.getD r c0),∀ u,wr cs t=some u→u=r∨(ms.getD r 0).testBit u=true∨(ms.getD u 0).testBit r=true
theorem wr_spec (hR:RegP P N ops cs ms) {t u:Nat}:wr cs t=some u ↔ u < ops.size∧(cs.getD u c0).dst=some t:=by
  constructor
  · intro h
    have h1:=List.find?_some h
    have h2:=List.mem_of_find?_eq_some h
    rw [List.mem_range,hR.len] at h2
    exact ⟨h2,by simpa using h1⟩
  · rintro ⟨h1,h2⟩
    cases h:wr cs t with
    | none =>
      have:=List.find?_eq_none.1 h u (by rw [List.mem_range,hR.len];exact h1)
      exact absurd (by simpa using h2) (by simpa using this)
    | some u' =>
      have h3:=List.find?_some h
      have h4:=List.mem_of_find?_eq_some h
      rw [List.mem_range,hR.len] at h4
      rw [hR.uniq u' u h4 h1 t (by simpa using h3) h2]
def val (cs:List CO) (v:Nat→Value) (f0:Fr) (D:Nat→Bool):Fr:=fun t=>match wr cs t with
  | some u=>if D u then v u else f0 t
  | none=>f0 t

def Closed (n:Nat) (ms:List Nat) (D:Nat→Bool):Prop:=∀ u i,u < n→D u=true→(ms.getD u 0).testBit i=true→D i=true
theorem val_read (hR:RegP P N ops cs ms) {v:Nat→Value} {f0:Fr} {D:Nat→Bool} {r:Nat} (hr:r < ops.size) (hD:Closed ops.size ms D) (hn:D r=false) (hp:∀ e ∈ predsAt ops r,D e=true) (hlt:∀ e,D e=true→e < ops.size) {t:Nat} (ht:t ∈ readsC (cs.getD r c0)) :
    val cs v f0 D t=val cs v f0 (fun u=>(ms.getD r 0).testBit u) t:=by
  unfold val
  cases h:wr cs t with
  | none=>rfl
  | some u =>
    have hu:=((wr_spec hR).1 h).1
    simp only
    by_cases hm:(ms.getD r 0).testBit u=true
    · have:D u=true:=by
        obtain ⟨e,he,h2⟩:=hR.mask r u hr hm
        rcases h2 with rfl | h2
        · exact hp _ he
        · exact hD e u (hlt e (hp _ he)) (hp _ he) h2
      rw [if_pos this,if_pos hm]
    · have:D u=false:=by
        rcases hR.rw_ r hr t ht u h with rfl | h1 | h1
        · exact hn
        · exact absurd h1 hm
        · cases hd:D u with
          | false=>rfl
          | true=>rw [hD u r hu hd h1] at hn;simp at hn
      rw [if_neg (by rw [this];simp),if_neg hm]
theorem val_put (hR:RegP P N ops cs ms) {v:Nat→Value} {f0:Fr} {D D':Nat→Bool} {j:Nat} (hj:j < ops.size) (hn:D j=false) (hD':∀ i,D' i=(D i || i == j)) {x:Value} :
    val cs (fun i=>if i=j then x else v i) f0 D'=putF (val cs v f0 D) (cs.getD j c0).dst x:=by
  funext t
  have hnot:∀ u,D u=true→u≠j:=fun u hu e=>by rw [e,hn] at hu;simp at hu
  cases hd:(cs.getD j c0).dst with
  | none =>
    simp only [putF,val]
    cases h:wr cs t with
    | none=>rfl
    | some u =>
      have hne:u≠j:=fun e=>by
        have:=((wr_spec hR).1 h).2
        rw [e,hd] at this
        simp at this
      simp only [hD',hne,if_false,beq_iff_eq,Bool.or_false,show (u == j)=false by simp [hne]]
  | some s =>
    simp only [putF,val]
    by_cases e:t=s
    · subst e
      rw [if_pos rfl,(wr_spec hR).2 ⟨hj,hd⟩]
      simp [hD']
    · rw [if_neg e]
      cases h:wr cs t with
      | none=>rfl
      | some u =>
        have hne:u≠j:=fun e2=>by
          have:=((wr_spec hR).1 h).2
          rw [e2,hd] at this
          exact e (Option.some.inj this).symm
        simp only [hD',hne,if_false,show (u == j)=false by simp [hne],Bool.or_false]

structure Pend (P:Program) (cs:List CO) (ms:List Nat) (v:Nat→Value) (f0:Fr) (idf:Nat→Nat) (kf:Nat→Option Blk) (H:Hp) (R:AR) (u:Nat):Prop where
  yes:wantC (cs.getD u c0).guard (val cs v f0 fun x=>(ms.getD u 0).testBit x)=true→∃ fo,(cs.getD u c0).op = .f fo∧fo.ok P (evF (val cs v f0 fun x=>(ms.getD u 0).testBit x)) H (idf u) (v u) (kf u)
  blk:∀ b,kf u=some b→H.blk? (idf u)=some b∧R.rho (idf u)=none
  no:wantC (cs.getD u c0).guard (val cs v f0 fun x=>(ms.getD u 0).testBit x)=false→v u=undef
  heap:(kf u).isSome=true→heapy (cs.getD u c0)=true
  lv:∀ b,kf u=some b→b.live=true
structure J (P:Program) (N B:Nat) (ops:Array Oper) (cs:List CO) (ms:List Nat) (f0:Fr) (M:Nat) (suf:List Nat) (D:Nat→Bool) (v:Nat→Value) (idf:Nat→Nat) (kf:Nat→Option Blk) (R:AR) (H:Hp) (a:Act) (w:World):Prop where
  rel:Rel R H w
  walk:walkOk ops cs ms suf M=true
  sub:∀ i,D i=true→M.testBit i=true
  mlt:∀ i,M.testBit i=true→i < ops.size
  dcl:Closed ops.size ms D
  dpre:∀ i,D i=true→∀ e ∈ predsAt ops i,D e=true
  mcl:Closed ops.size ms fun i=>M.testBit i
  size:a.tmps.size=N
  fr:∀ t,VR R (val cs v f0 D t) (a.tmps.getD t undef)
  def_:a.defers=[]
  pend:∀ u,M.testBit u=true→D u=false→Pend P cs ms v f0 idf kf H R u
  es:∀ u,M.testBit u=true→isE (cs.getD u c0)=true→D u=true
  lo:B≤H.next
  low:∀ u,M.testBit u=true→D u=false→(kf u).isSome=true→B≤idf u
  ids:∀ u u',M.testBit u=true→M.testBit u'=true→D u=false→D u'=false→(kf u).isSome=true→(kf u').isSome=true→idf u=idf u'→u=u'
theorem bit_add (M j i:Nat):(M ||| 2 ^ j).testBit i=(M.testBit i || i == j):=by
  rw [Nat.testBit_or,Nat.testBit_two_pow]
  congr 1
  rw [Bool.eq_iff_iff]
  simp
  exact ⟨fun h=>h.symm,fun h=>h.symm⟩

theorem ev_reads {f g:Fr} {l:List Operand} (h:∀ t ∈ l.filterMap slotOf,f t=g t):∀ x ∈ l,evF f x=evF g x:=by
  intro x hx
  cases x with
  | tmp t=>exact h t (List.mem_filterMap.2 ⟨.tmp t,hx,rfl⟩)
  | const v=>rfl
  | global g=>rfl
  | func g=>rfl
theorem want_reads {f g:Fr} {c:CO} (h:∀ t ∈ readsC c,f t=g t):wantC c.guard f=wantC c.guard g:=by
  unfold wantC
  cases hg:c.guard with
  | none=>rfl
  | some p =>
    obtain ⟨s,b⟩:=p
    have:f s=g s:=h s (by unfold readsC;rw [hg];simp)
    simp only [this]
theorem run_reads {P:Program} {fo:FOp} {e1 e2:Operand→Value} {h:Hp} {id:Nat} (hr:∀ x ∈ fo.reads,e1 x=e2 x):fo.run P e1 h id=fo.run P e2 h id:=by
  have m1:∀ {x:Operand},fo.reads=[x]→e1 x=e2 x:=fun h=>hr _ (by rw [h];simp)
  have m2:∀ {x y:Operand},fo.reads=[x,y]→e1 x=e2 x∧e1 y=e2 y:=fun h=>⟨hr _ (by rw [h];simp),hr _ (by rw [h];simp)⟩
  have mo:∀ (o:Option Operand),(∀ x ∈ o.toList,e1 x=e2 x)→o.map e1=o.map e2:=by
    intro o ho
    cases o with
    | none=>rfl
    | some x=>simp [ho x (by simp)]
  have ml:∀ (l:List Operand),(∀ x ∈ l,e1 x=e2 x)→l.map e1=l.map e2:=fun l hl=>List.map_congr_left hl
  cases fo
  case mkF fn a b =>
    simp only [FOp.run]
    rw [ml a (fun x hx=>hr x (List.mem_append_left _ hx)),ml b (fun x hx=>hr x (List.mem_append_right _ hx))]
  case slS x lo hi =>
    simp only [FOp.run]
    rw [hr x (by simp [FOp.reads]),mo lo (fun y hy=>hr y (by simp only [FOp.reads];exact List.mem_cons_of_mem _ (List.mem_append_left _ hy))),mo hi (fun y hy=>hr y (by simp only [FOp.reads];exact List.mem_cons_of_mem _ (List.mem_append_right _ hy)))]
  case slc size x lo hi =>
    simp only [FOp.run]
    rw [hr x (by simp [FOp.reads]),mo lo (fun y hy=>hr y (by simp only [FOp.reads];exact List.mem_cons_of_mem _ (List.mem_append_left _ hy))),mo hi (fun y hy=>hr y (by simp only [FOp.reads];exact List.mem_cons_of_mem _ (List.mem_append_right _ hy)))]
  case new=>rfl
  case bsl es xs =>
    simp only [FOp.run]
    rw [ml xs hr]
  case bld z ps xs =>
    simp only [FOp.run]
    rw [ml xs hr]
  case pick c a b =>
    simp only [FOp.run]
    rw [hr c (by simp [FOp.reads]),hr a (by simp [FOp.reads]),hr b (by simp [FOp.reads])]
  all_goals first
    | (simp only [FOp.run];rw [m1 rfl];done)
    | (obtain ⟨q1,q2⟩:=m2 rfl;simp only [FOp.run];rw [q1,q2];done)
    | (obtain ⟨q1,q2⟩:=m2 rfl;simp only [FOp.run];done)
theorem ok_reads {P:Program} {fo:FOp} {e1 e2:Operand→Value} {h:Hp} {id:Nat} {v:Value} {k:Option Blk} (hr:∀ x ∈ fo.reads,e1 x=e2 x) (h1:fo.ok P e1 h id v k):fo.ok P e2 h id v k:=by
  rcases h1 with h1 | ⟨ne,t,x,y,a,b,r,rfl,h2,h3,h4,h5⟩
  · exact .inl ((run_reads hr).symm.trans h1)
  · exact .inr ⟨ne,t,x,y,a,b,r,rfl,h2,(hr x (by simp [FOp.reads])).symm.trans h3,(hr y (by simp [FOp.reads])).symm.trans h4,h5⟩

theorem ok_any {P:Program} {fo:FOp} {ev:Operand→Value} {h h':Hp} {id:Nat} {v:Value} {k:Option Blk} (hh:heapy ⟨none,none,false,.f fo⟩=false) (ho:h'.old=h.old) (h1:fo.ok P ev h id v k):fo.ok P ev h' id v k:=by
  rcases h1 with h1 | h1
  · left
    cases fo
    case slc=>simp only [FOp.run] at h1 ⊢;rw [ho];exact h1
    all_goals first
      | (simp [heapy] at hh;done)
      | exact h1
  · exact .inr h1
theorem heapy_of {P:Program} {c:CO} {fo:FOp} (hop:c.op = .f fo) {ev:Operand→Value} {h:Hp} {id:Nat} {v:Value} {k:Option Blk} (h1:fo.ok P ev h id v k) (hk:k.isSome=true):heapy c=true:=by
  cases k with
  | none=>simp at hk
  | some b =>
    rcases h1 with h1 | ⟨_,_,_,_,_,_,_,_,h2,_⟩
    · unfold heapy
      rw [hop]
      cases fo <;> simp only [FOp.run] at h1 <;> (repeat' split at h1) <;> first
        | rfl
        | (simp at h1;done)
        | (obtain ⟨x,hx,hx2⟩:=Option.map_eq_some_iff.1 h1;simp at hx2;done)
    · simp at h2
theorem pend_v {v v':Nat→Value} {f0:Fr} {idf idf':Nat→Nat} {kf kf':Nat→Option Blk} {H H':Hp} {R R':AR} {u:Nat} (hp:Pend P cs ms v f0 idf kf H R u)
    (hv:∀ x,(ms.getD u 0).testBit x=true→v' x=v x) (hvu:v' u=v u) (hi:idf' u=idf u) (hkf:kf' u=kf u) (hok:∀ fo,(cs.getD u c0).op = .f fo→fo.ok P (evF (val cs v f0 fun x=>(ms.getD u 0).testBit x)) H (idf u) (v u) (kf u)→fo.ok P (evF (val cs v f0 fun x=>(ms.getD u 0).testBit x)) H' (idf u) (v u) (kf u))
    (hb:∀ b,kf u=some b→H.blk? (idf u)=some b→R.rho (idf u)=none→H'.blk? (idf u)=some b∧R'.rho (idf u)=none):Pend P cs ms v' f0 idf' kf' H' R' u:=by
  have e:val cs v' f0 (fun x=>(ms.getD u 0).testBit x)=val cs v f0 fun x=>(ms.getD u 0).testBit x:=by
    funext t
    unfold val
    cases wr cs t with
    | none=>rfl
    | some x =>
      simp only
      by_cases hm:(ms.getD u 0).testBit x=true
      · rw [if_pos hm,if_pos hm,hv x hm]
      · rw [if_neg hm,if_neg hm]
  refine ⟨fun h=>?_,fun b h=>?_,fun h=>?_,fun h=>hp.heap (by rw [← hkf];exact h),fun b h=>hp.lv b (by rw [← hkf];exact h)⟩
  · rw [e] at h ⊢
    obtain ⟨fo,h1,h2⟩:=hp.yes h
    refine ⟨fo,h1,?_⟩
    rw [hi,hvu,hkf]
    exact hok fo h1 h2
  · rw [hkf] at h
    obtain ⟨h1,h2⟩:=hp.blk b h
    rw [hi]
    exact hb b h h1 h2
  · rw [e] at h
    rw [hvu]
    exact hp.no h
theorem walk_cons {j:Nat} {suf:List Nat} {M:Nat} (h:walkOk ops cs ms (j::suf) M=true) :
    j < ops.size ∧ M.testBit j = false ∧ (∀ e ∈ predsAt ops j, M.testBit e = true) ∧ (isE (cs.getD j c0) = true → (∀ i, i < ops.size → M.testBit i = false → i ≠ j → ∃ e ∈ predsAt ops i, M.testBit e = false) ∧
      ((cs.getD j c0).keep=false→∀ u,u < ops.size→M.testBit u=true→heapy (cs.getD u c0)=true→(ms.getD j 0).testBit u=true) ∧
      ((cs.getD j c0).keep=true→∀ u,u < ops.size→M.testBit u=true→heapy (cs.getD u c0)=true→(ms.getD j 0).testBit u=true∨quiet cs ms u=true))∧walkOk ops cs ms suf (M ||| 2 ^ j)=true:=by
  unfold walkOk at h
  simp only [Bool.and_eq_true,decide_eq_true_eq,Bool.not_eq_true',List.all_eq_true,Bool.or_eq_true,List.mem_range,beq_iff_eq,List.any_eq_true] at h
  obtain ⟨⟨⟨⟨h1,h2⟩,h3⟩,h4⟩,h5⟩:=h
  refine ⟨h1,h2,h3,fun he=>?_,h5⟩
  rw [he] at h4
  simp only [Bool.true_eq_false,false_or] at h4
  refine ⟨fun i hi hm hne=>?_,fun hk u hu hm hh=>?_,fun hk u hu hm hh=>?_⟩
  · rcases h4.1.1 i hi with (h | h) | h
    · rw [hm] at h;simp at h
    · exact absurd h hne
    · exact h
  · rcases h4.1.2 with h | h
    · rw [hk] at h;simp at h
    · rcases h u hu with (h | h) | h
      · rw [hm] at h;simp at h
      · rw [hh] at h;simp at h
      · exact h
  · rcases h4.2 with h | h
    · rw [hk] at h;simp at h
    · rcases h u hu with ((h | h) | h) | h
      · rw [hm] at h;simp at h
      · rw [hh] at h;simp at h
      · exact .inl h
      · exact .inr h
theorem KeepsP.cell {T:List Nat} {pr:List Operand} {f:Fr} {h h':Hp} (hk:KeepsP T pr f h h') {a:Addr} (ha:∀ b ∈ T,a.block≠b) {v:Value} (hc:h.cell? a=some v):h'.cell? a=some v:=by
  unfold Hp.cell? at hc ⊢
  rw [hk.1]
  split at hc
  · rename_i hlt
    rw [if_pos hlt]
    exact hc
  · rename_i hlt
    rw [if_neg hlt]
    split at hc
    · simp at hc
    · rename_i hs
      rw [if_neg hs]
      split at hc
      · rename_i k hb
        rw [hk.2.1 _ _ hb (fun hm=>ha _ hm rfl)]
        exact hc
      · simp at hc
theorem KeepsP.cellsFrom {T:List Nat} {pr:List Operand} {f:Fr} {h h':Hp} (hk:KeepsP T pr f h h') {a:Addr} (ha:∀ b ∈ T,a.block≠b):∀ (n i:Nat) (l:List Value),h.cellsFrom a i n=some l→h'.cellsFrom a i n=some l
  | 0,i,l,hl=>by simpa [Hp.cellsFrom] using hl
  | n + 1, i, l, hl => by
    simp only [Hp.cellsFrom] at hl ⊢
    have ha':∀ b ∈ T,(a.add i).block≠b:=fun b hb=>by
      have:(a.add i).block=a.block:=by unfold Addr.add;split <;> rfl
      rw [this];exact ha b hb
    cases hc:h.cell? (a.add i) with
    | none=>simp [hc] at hl
    | some v =>
      simp only [hc] at hl
      obtain ⟨t,ht,rfl⟩:=Option.map_eq_some_iff.1 hl
      rw [hk.cell ha' hc]
      simp only
      rw [hk.cellsFrom ha n (i+1) t ht]
      rfl
theorem touch_rho {R:AR} {H:Hp} {w:World} (hr:Rel R H w) {eo:EOp} {ev ev':Operand→Value} (hv:∀ x ∈ eo.reads,VR R (ev x) (ev' x)):∀ b ∈ eo.touch ev,∀ k,H.blk? b=some k→k.live=true→R.rho b≠none:=by
  have key:∀ (x:Operand),x ∈ eo.reads→∀ a n c,ev x = .slice (some a) n c→a.spot=none→∀ k,H.blk? a.block=some k→k.live=true→R.rho a.block≠none:=by
    intro x hx a n c he hs k hk hl hn
    have h1:=hv x hx
    rw [he] at h1
    generalize ev' x=u at h1
    cases h1 with
    | sl _ a' _ _ c' h =>
      cases h with
      | old _ _ _ h=>have:=(Hp.blk_lt hk).1;rw [← hr.base] at this;omega
      | new b o _ _ cb cs cc _ h hrr=>rw [hrr] at hn;simp at hn
      | dead _ _ _ _ _ h hd =>
        obtain ⟨-,k2,h2,h3⟩:=hr.dead _ hd
        rw [hk] at h2
        obtain rfl:=Option.some.inj h2
        rw [hl] at h3
        simp at h3
      | junk _ _ _ h hs'=>rw [hs] at hs';simp at hs'
  intro b hb k hk hl
  cases eo with
  | app es bytes s x =>
    unfold EOp.touch at hb
    simp only at hb
    split at hb
    · rename_i a n c he
      split at hb
      · rename_i hs
        simp only [List.mem_singleton] at hb
        subst hb
        exact key s (by simp [EOp.reads]) a n c he hs k hk hl
      · cases hb
    · cases hb
  | apz es bytes zc s x =>
    unfold EOp.touch at hb
    simp only at hb
    split at hb
    · rename_i a n c he
      split at hb
      · rename_i hs
        simp only [List.mem_singleton] at hb
        subst hb
        exact key s (by simp [EOp.reads]) a n c he hs k hk hl
      · cases hb
    · cases hb
  | cpy es d s =>
    unfold EOp.touch at hb
    simp only at hb
    split at hb
    · rename_i a n c he
      split at hb
      · rename_i hs
        simp only [List.mem_singleton] at hb
        subst hb
        exact key d (by simp [EOp.reads]) a n c he hs k hk hl
      · cases hb
    · cases hb
  | mst x=>cases hb
  | st size x v =>
    have hb:b ∈ [ev x].filterMap ptB:=hb
    obtain ⟨v',hv1,hv2⟩:=List.mem_filterMap.1 hb
    obtain rfl:=List.mem_singleton.1 hv1
    have hvr:=hv x (by simp [EOp.reads])
    unfold ptB at hv2
    split at hv2
    · rename_i a he
      split at hv2
      · rename_i hs
        obtain rfl:=Option.some.inj hv2
        rw [he] at hvr
        generalize ev' x=u at hvr
        intro hn
        cases hvr with
        | ptr _ a' h =>
          cases h with
          | old _ h=>have:=(Hp.blk_lt hk).1;rw [← hr.base] at this;omega
          | new b o cb cs cc h hrr=>rw [hrr] at hn;simp at hn
          | dead _ _ h hd =>
            obtain ⟨-,k2,h2,h3⟩:=hr.dead _ hd
            rw [hk] at h2
            obtain rfl:=Option.some.inj h2
            rw [hl] at h3
            simp at h3
          | junk _ _ h hs'=>rw [hs] at hs';simp at hs'
      · cases hv2
    · cases hv2
  | cal f args =>
    unfold EOp.touch at hb
    simp only at hb
    split at hb
    · rename_i g p q he
      obtain ⟨v,hv1,hv2⟩:=List.mem_filterMap.1 hb
      have hvf:=hv f (by simp [EOp.reads])
      rw [he] at hvf
      unfold ptB at hv2
      split at hv2
      · rename_i a
        split at hv2
        · rename_i hs
          obtain rfl:=Option.some.inj hv2
          have hvr:∃ v',VR R (.pointer (some a)) v':=by
            generalize ev' f=f' at hvf
            cases hvf with
            | func _ _ p' _ q' h1 h2 ka kb =>
              rcases List.mem_append.1 hv1 with h | h
              · rcases List.mem_append.1 h with h | h
                · obtain ⟨j,hj⟩:=List.getElem?_of_mem h
                  have hlt:j < p.size:=by simpa using (List.getElem?_eq_some_iff.1 hj).1
                  exact ⟨p'[j]'(by omega),ka j _ _ (by simpa using hj) (by simp)⟩
                · obtain ⟨x,hx,hx2⟩:=List.mem_map.1 h
                  exact ⟨ev' x,hx2 ▸ hv x (by simp [EOp.reads,hx])⟩
              · obtain ⟨j,hj⟩:=List.getElem?_of_mem h
                have hlt:j < q.size:=by simpa using (List.getElem?_eq_some_iff.1 hj).1
                exact ⟨q'[j]'(by omega),kb j _ _ (by simpa using hj) (by simp)⟩
          obtain ⟨v',hvr⟩:=hvr
          intro hn
          cases hvr with
          | ptr _ a' h =>
            cases h with
            | old _ h=>have:=(Hp.blk_lt hk).1;rw [← hr.base] at this;omega
            | new b o cb cs cc h hrr=>rw [hrr] at hn;simp at hn
            | dead _ _ h hd =>
              obtain ⟨-,k2,h2,h3⟩:=hr.dead _ hd
              rw [hk] at h2
              obtain rfl:=Option.some.inj h2
              rw [hl] at h3
              simp at h3
            | junk _ _ h hs'=>rw [hs] at hs';simp at hs'
        · cases hv2
      · cases hv2
    · cases hb

theorem ok_quiet (hR:RegP P N ops cs ms) {v:Nat→Value} {f0:Fr} {M:Nat} (hM:Closed ops.size ms fun i=>M.testBit i) {u:Nat} (hu:u < ops.size) (huM:M.testBit u=true) {fo:FOp} (hop:(cs.getD u c0).op = .f fo) (hh:heapy (cs.getD u c0)=true) (hq:quiet cs ms u=true) {T:List Nat} {pr:List Operand} (hpr:∀ n x,(cs.getD u c0).op = .f (.ld n x)→x ∈ pr) (hpr2:∀ x,(cs.getD u c0).op = .f (.b2s x)→x ∈ pr) {H H':Hp} (hk:KeepsP T pr (val cs v f0 fun i=>M.testBit i) H H') {id:Nat} {x:Value} {k:Option Blk}
    (h1:fo.ok P (evF (val cs v f0 fun y=>(ms.getD u 0).testBit y)) H id x k):fo.ok P (evF (val cs v f0 fun y=>(ms.getD u 0).testBit y)) H' id x k:=by
  unfold quiet at hq
  have q2:=hq
  rw [List.all_eq_true] at q2
  have st:∀ t ∈ readsC (cs.getD u c0),val cs v f0 (fun i=>M.testBit i) t=val cs v f0 (fun y=>(ms.getD u 0).testBit y) t:=fun t ht=>by
    have:=q2 t ht
    unfold val
    cases hw:wr cs t with
    | none=>rfl
    | some y =>
      rw [hw] at this
      simp only at this ⊢
      rw [if_pos this,if_pos (hM u y hu huM this)]
  rcases h1 with h1 | h1
  · left
    cases fo
    case ld n y =>
      simp only [FOp.run] at h1 ⊢
      have hblk:∀ a,evF (val cs v f0 fun y=>(ms.getD u 0).testBit y) y = .pointer (some a)→∀ b ∈ T,a.block≠b:=by
        intro a ha b hb
        cases y with
        | tmp t =>
          have h2:=st t (by unfold readsC;rw [hop];simp [COp.reads,FOp.reads,slotOf])
          exact hk.2.2 b hb (.tmp t) (hpr _ _ hop) a (by
            have h3:evF (val cs v f0 fun i=>M.testBit i) (.tmp t) = .pointer (some a):=h2.trans ha
            rw [h3];rfl)
        | const c =>
          obtain ⟨c1,hc1,hc2⟩:=hR.comp u _ (show ops[u]? = some ops[u] by simp [hu])
          have h3:=(compO_spec hc1).2.2.1
          have h4:c1.op=(cs.getD u c0).op:=by rw [hc2]
          rw [h4,hop] at h3
          have ha:c = .pointer (some a):=ha
          subst ha
          simp [COp.reads,FOp.reads,okOpd,plainV,plainC] at h3
        | global g =>
          obtain ⟨c1,hc1,hc2⟩:=hR.comp u _ (show ops[u]? = some ops[u] by simp [hu])
          have h3:=(compO_spec hc1).2.2.1
          have h4:c1.op=(cs.getD u c0).op:=by rw [hc2]
          rw [h4,hop] at h3
          simp [COp.reads,FOp.reads,okOpd] at h3
        | func g=>cases ha
      split at h1
      · rename_i a ha
        have hb:=hblk a ha
        cases n with
        | none =>
          obtain ⟨v,hv,he⟩:=Option.map_eq_some_iff.1 h1
          simp only [hk.cell hb hv,Option.map_some]
          exact congrArg some he
        | some n =>
          obtain ⟨v,hv,he⟩:=Option.map_eq_some_iff.1 h1
          obtain ⟨l,hl,rfl⟩:=Option.map_eq_some_iff.1 hv
          simp only [show H'.cells? a n=_ from hk.cellsFrom hb n 0 l hl,Option.map_some]
          exact congrArg some he
      · simp at h1
    case b2s y =>
      simp only [FOp.run] at h1 ⊢
      split at h1
      · exact h1
      · rename_i a n c ha
        by_cases hn:n=0
        · subst hn
          exact h1
        have hblk:∀ b ∈ T,a.block≠b:=by
          intro b hb
          cases y with
          | tmp t =>
            have h2:=st t (by unfold readsC;rw [hop];simp [COp.reads,FOp.reads,slotOf])
            exact hk.2.2 b hb (.tmp t) (hpr2 _ hop) a (by
              have h3:evF (val cs v f0 fun i=>M.testBit i) (.tmp t) = .slice (some a) n c:=h2.trans ha
              rw [h3]
              show (if n=0 then none else some a)=some a
              rw [if_neg hn])
          | const c' =>
            obtain ⟨c1,hc1,hc2⟩:=hR.comp u _ (show ops[u]? = some ops[u] by simp [hu])
            have h3:=(compO_spec hc1).2.2.1
            have h4:c1.op=(cs.getD u c0).op:=by rw [hc2]
            rw [h4,hop] at h3
            have ha:c' = .slice (some a) n c:=ha
            subst ha
            simp [COp.reads,FOp.reads,okOpd,plainV,plainC] at h3
          | global g=>cases ha
          | func g=>cases ha
        obtain ⟨l0,hl0,-⟩:=Option.map_eq_some_iff.1 h1
        obtain ⟨l,hl,-⟩:=Option.bind_eq_some_iff.1 hl0
        have h5:H'.cells? a n=some l:=hk.cellsFrom hblk n 0 l hl
        rw [hl] at h1
        rw [h5]
        exact h1
      · simp at h1
    case slc size y lo hi =>
      unfold heapy at hh
      rw [hop] at hh
      simp at hh
    all_goals exact h1
  · exact .inr h1
theorem Hp.next_pushO (h:Hp) (k:Option Blk):h.next≤(h.pushO k).next:=by
  cases k with
  | none=>exact Nat.le_refl _
  | some k=>show h.next≤(h.push k).next;rw [Hp.next_push];omega

def RdOk (cs:List CO) (M:Nat) (pr:List Operand):Prop:=(∀ u n x,M.testBit u=true→(cs.getD u c0).op = .f (.ld n x)→x ∈ pr)∧∀ u x,M.testBit u=true→(cs.getD u c0).op = .f (.b2s x)→x ∈ pr
theorem rdO_sub {op:COp} {pr:List Operand} {x:Operand} (h:x ∈ pr):x ∈ rdO op pr:=by
  cases op with
  | f fo=>cases fo <;> first | exact h | exact List.mem_cons_of_mem _ h
  | e eo=>exact h
theorem RdOk.add {cs:List CO} {M j:Nat} {pr:List Operand} (h:RdOk cs M pr):RdOk cs (M ||| 2 ^ j) (rdO (cs.getD j c0).op pr):=by
  refine ⟨fun u n x hu ho=>?_,fun u x hu ho=>?_⟩
  all_goals
    rw [bit_add] at hu
    by_cases e:u=j
    · subst e
      rw [ho]
      exact List.mem_cons_self
    · have hu':M.testBit u=true:=by simpa [e] using hu
      first
        | exact rdO_sub (h.1 u n x hu' ho)
        | exact rdO_sub (h.2 u x hu' ho)

theorem adv {B:Nat} (hR:RegP P N ops cs ms) {K:Fr→Hp→Prop} {f0:Fr} {D:Nat→Bool} {R:AR} {a:Act} {w:World}:∀ (suf:List Nat) (M:Nat) (v:Nat→Value) (idf:Nat→Nat) (kf:Nat→Option Blk) (H:Hp) (pr:List Operand),RdOk cs M pr →
    J P N B ops cs ms f0 M suf D v idf kf R H a w→aops P pr (suf.map fun i=>cs.getD i c0) K (val cs v f0 fun i=>M.testBit i) H →
    ∃ M' suf' v' idf' kf' H' pr',RdOk cs M' pr'∧J P N B ops cs ms f0 M' suf' D v' idf' kf' R H' a w∧aops P pr' (suf'.map fun i=>cs.getD i c0) K (val cs v' f0 fun i=>M'.testBit i) H'∧(suf'=[]∨∃ j r,suf'=j::r∧isE (cs.getD j c0)=true)∧Keeps H H'
  | [],M,v,idf,kf,H,pr,hp,hj,hk=>⟨M,[],v,idf,kf,H,pr,hp,hj,hk,.inl rfl,.refl H⟩
  | j :: suf, M, v, idf, kf, H, pr, hp, hj, hk => by
    by_cases he:isE (cs.getD j c0)=true
    · exact ⟨M,_,v,idf,kf,H,pr,hp,hj,hk,.inr ⟨j,suf,rfl,he⟩,.refl H⟩
    · obtain ⟨w1,w2,w3,-,w5⟩:=walk_cons hj.walk
      have hDj:D j=false:=by
        cases h:D j with
        | false=>rfl
        | true=>rw [hj.sub j h] at w2;simp at w2
      have hread:∀ t ∈ readsC (cs.getD j c0),val cs v f0 (fun i=>M.testBit i) t=val cs v f0 (fun u=>(ms.getD j 0).testBit u) t:=fun t ht=>val_read hR w1 hj.mcl w2 w3 hj.mlt ht
      have anc:∀ x,(ms.getD j 0).testBit x=true→x≠j:=fun x hx e=>by
        obtain ⟨e1,h1,h2⟩:=hR.mask j x w1 hx
        have:M.testBit x=true:=by
          rcases h2 with rfl | h2
          · exact w3 _ h1
          · exact hj.mcl e1 x (hj.mlt _ (w3 _ h1)) (w3 _ h1) h2
        rw [e,w2] at this
        simp at this
      have ancu:∀ u x,M.testBit u=true→(ms.getD u 0).testBit x=true→x≠j:=fun u x hu hx e=>by
        have:=hj.mcl u x (hj.mlt u hu) hu hx
        rw [e] at this
        simp only at this
        rw [w2] at this
        simp at this
      have hne:∀ u,M.testBit u=true→u≠j:=fun u hu e=>by rw [e,w2] at hu;simp at hu
      simp only [List.map_cons,aops] at hk
      have hmcl:Closed ops.size ms fun i=>(M ||| 2 ^ j).testBit i:=by
        intro u i hu h1 h2
        simp only [bit_add] at h1 ⊢
        by_cases e:u=j
        · subst e
          obtain ⟨e1,h3,h4⟩:=hR.mask u i hu h2
          rw [show M.testBit i=true by
            rcases h4 with rfl | h4
            · exact w3 _ h3
            · exact hj.mcl e1 i (hj.mlt _ (w3 _ h3)) (w3 _ h3) h4]
          rfl
        · have h1':M.testBit u=true:=by simpa [e] using h1
          have h3:M.testBit i=true:=hj.mcl u i hu h1' h2
          rw [h3]
          rfl
      
      have next:∀ (x:Value) (k:Option Blk) (H':Hp),Keeps H H'→H.next≤H'.next→Rel R H' w→(∀ b,k=some b→H'.blk? H.next=some b∧R.rho H.next=none)→(k.isSome=true→heapy (cs.getD j c0)=true)→(∀ b,k=some b→b.live=true) →
          (wantC (cs.getD j c0).guard (val cs v f0 fun i=>M.testBit i)=true→∃ fo,(cs.getD j c0).op = .f fo∧fo.ok P (evF (val cs v f0 fun i=>M.testBit i)) H' H.next x k)→(wantC (cs.getD j c0).guard (val cs v f0 fun i=>M.testBit i)=false→x=undef) →
          J P N B ops cs ms f0 (M ||| 2 ^ j) suf D (fun i=>if i=j then x else v i) (fun i=>if i=j then H.next else idf i) (fun i=>if i=j then k else kf i) R H' a w:=by
        intro x k H' hke hnx hrel hblk hheap hlv hyes hno
        have evj:∀ fo,(cs.getD j c0).op = .f fo→∀ y ∈ fo.reads,evF (val cs v f0 fun i=>M.testBit i) y=evF (val cs v f0 fun u=>(ms.getD j 0).testBit u) y:=fun fo hfo=>ev_reads (fun t ht=>hread t (by unfold readsC;rw [hfo];exact List.mem_append_left _ ht))
        have ev2:val cs (fun i=>if i=j then x else v i) f0 (fun u=>(ms.getD j 0).testBit u)=val cs v f0 fun u=>(ms.getD j 0).testBit u:=by
          funext t
          unfold val
          cases wr cs t with
          | none=>rfl
          | some y =>
            simp only
            by_cases hm:(ms.getD j 0).testBit y=true
            · rw [if_pos hm,if_pos hm,if_neg (anc y hm)]
            · rw [if_neg hm,if_neg hm]
        refine ⟨hrel,w5,fun i hi=>by rw [bit_add,hj.sub i hi];rfl,fun i hi=>?_,hj.dcl,hj.dpre,hmcl,hj.size,fun t=>?_,hj.def_,fun u hu hd=>?_,fun u hu hue=>?_,Nat.le_trans hj.lo hnx,fun u hu hd hs=>?_,fun u u' hu hu' hd hd' hs hs' hid=>?_⟩
        · rw [bit_add] at hi
          rcases Bool.or_eq_true_iff.1 hi with h | h
          · exact hj.mlt i h
          · rw [beq_iff_eq] at h;omega
        · have:=hj.fr t
          have e:val cs (fun i=>if i=j then x else v i) f0 D t=val cs v f0 D t:=by
            unfold val
            cases wr cs t with
            | none=>rfl
            | some y =>
              simp only
              by_cases hd:D y=true
              · rw [if_pos hd,if_pos hd,if_neg (fun e=>by rw [e,hDj] at hd;simp at hd)]
              · rw [if_neg hd,if_neg hd]
          rw [e]
          exact this
        · rw [bit_add] at hu
          by_cases e:u=j
          · subst e
            refine ⟨fun h=>?_,fun b hb=>?_,fun h=>?_,fun h=>by simp only [if_true] at h;exact hheap h,fun b hb=>by simp only [if_true] at hb;exact hlv b hb⟩
            · rw [ev2] at h ⊢
              rw [← want_reads hread] at h
              obtain ⟨fo,h1,h2⟩:=hyes h
              refine ⟨fo,h1,?_⟩
              simp only [if_true]
              exact ok_reads (evj fo h1) h2
            · simp only [if_true] at hb ⊢
              exact hblk b hb
            · rw [ev2] at h
              rw [← want_reads hread] at h
              simp only [if_true]
              exact hno h
          · have hu':M.testBit u=true:=by simpa [e] using hu
            exact pend_v (hj.pend u hu' hd) (fun x hx=>by rw [if_neg (ancu u x hu' hx)]) (by rw [if_neg e]) (by rw [if_neg e]) (by rw [if_neg e]) (fun fo _ h=>ok_keep hke h) (fun b hb h1 h2=>⟨hke.2 _ _ h1,h2⟩)
        · rw [bit_add] at hu
          by_cases e:u=j
          · subst e;exact absurd hue he
          · exact hj.es u (by simpa [e] using hu) hue
        · rw [bit_add] at hu
          by_cases e:u=j
          · subst e
            simp only [if_true]
            exact hj.lo
          · simp only [e,if_false] at hs ⊢
            exact hj.low u (by simpa [e] using hu) hd hs
        · rw [bit_add] at hu hu'
          by_cases e:u=j <;> by_cases e':u'=j
          · rw [e,e']
          · have h':M.testBit u'=true:=by simpa [e'] using hu'
            simp only [e,e',if_true,if_false] at hid hs'
            exfalso
            obtain ⟨b,hb⟩:=Option.isSome_iff_exists.1 hs'
            have:=(Hp.blk_lt ((hj.pend u' h' hd').blk b hb).1).2
            omega
          · have h':M.testBit u=true:=by simpa [e] using hu
            simp only [e,e',if_true,if_false] at hid hs
            exfalso
            obtain ⟨b,hb⟩:=Option.isSome_iff_exists.1 hs
            have:=(Hp.blk_lt ((hj.pend u h' hd).blk b hb).1).2
            omega
          · simp only [e,e',if_false] at hid hs hs'
            exact hj.ids u u' (by simpa [e] using hu) (by simpa [e'] using hu') hd hd' hs hs' hid
      have hput:∀ x,val cs (fun i=>if i=j then x else v i) f0 (fun i=>(M ||| 2 ^ j).testBit i)=putF (val cs v f0 fun i=>M.testBit i) (cs.getD j c0).dst x:=fun x=>val_put hR w1 w2 (fun i=>bit_add M j i)
      split at hk
      · rename_i hw
        cases hop:(cs.getD j c0).op with
        | e eo=>exact absurd (show isE (cs.getD j c0)=true by unfold isE;rw [hop]) he
        | f fo =>
          rw [hop] at hk
          simp only at hk
          obtain ⟨x,k,hok,hk⟩:=hk
          have hj':=next x k (H.pushO k) (Keeps.pushO H k) (Hp.next_pushO H k) (by cases k with | none=>exact hj.rel | some b=>exact (hj.rel.push b).1)
            (fun b hb=>by subst hb;exact ⟨Hp.blk_push _ _,(hj.rel.push b).2⟩) (fun h=>heapy_of hop hok h) (ok_id hok) (fun _=>⟨fo,hop,ok_keep (Keeps.pushO H k) hok⟩) (fun h=>by rw [hw] at h;simp at h)
          rw [← hput] at hk
          have hp':=hp.add (j:=j)
          rw [hop] at hp'
          obtain ⟨M',suf',v',idf',kf',H',pr',r0,r1,r2,r3,r4⟩:=adv hR suf _ _ _ _ _ _ hp' hj' hk
          exact ⟨M',suf',v',idf',kf',H',pr',r0,r1,r2,r3,(Keeps.pushO H k).trans r4⟩
      · rename_i hw
        have hj':=next undef none H (.refl H) (Nat.le_refl _) hj.rel (fun b hb=>by simp at hb) (fun h=>by simp at h) (fun b hb=>by simp at hb) (fun h=>absurd h hw) (fun _=>rfl)
        rw [← hput] at hk
        exact adv hR suf _ _ _ _ _ _ (hp.add (j:=j)) hj' hk
def lst (l:Array Bool) (i:Nat):Bool:=l.getD i false
theorem lst_set {l:Array Bool} {i:Nat} (hi:i < l.size) (j:Nat):lst (l.setIfInBounds i true) j=(lst l j || j == i):=by
  unfold lst
  simp only [Array.getD_eq_getD_getElem?]
  rw [Array.getElem?_setIfInBounds]
  by_cases e:i=j
  · subst e;simp [hi]
  · rw [if_neg e]
    have:(j == i)=false:=by simp;exact fun h=>e h.symm
    rw [this,Bool.or_false]
def cnt (n:Nat) (l:Array Bool):Nat:=(List.range n).countP fun i=>!lst l i
theorem cnt_set {l:Array Bool} {i n:Nat} (hi:i < l.size) (hn:i < n) (hu:lst l i=false):cnt n (l.setIfInBounds i true)+1=cnt n l:=by
  unfold cnt
  have key:∀ (xs:List Nat),xs.Nodup→i ∈ xs→(xs.countP fun j=>!lst (l.setIfInBounds i true) j)+1=xs.countP fun j=>!lst l j:=by
    intro xs
    induction xs with
    | nil=>intro _ h;simp at h
    | cons x xs ih =>
      intro hnd hm
      rw [List.nodup_cons] at hnd
      by_cases e:x=i
      · subst e
        have hrest:(xs.countP fun j=>!lst (l.setIfInBounds x true) j)=xs.countP fun j=>!lst l j:=by
          apply List.countP_congr
          intro j hj
          have:j≠x:=fun e=>hnd.1 (e ▸ hj)
          rw [lst_set hi]
          simp [this]
        rw [List.countP_cons,hrest,List.countP_cons]
        have e1:lst (l.setIfInBounds x true) x=true:=by rw [lst_set hi];simp
        rw [e1,hu]
        simp
      · rcases List.mem_cons.1 hm with h | h
        · exact absurd h.symm e
        · have:=ih hnd.2 h
          rw [List.countP_cons,List.countP_cons]
          have e1:lst (l.setIfInBounds i true) x=lst l x:=by rw [lst_set hi];simp [e]
          rw [e1]
          omega
  exact key _ List.nodup_range (List.mem_range.2 hn)
theorem cnt_zero {l:Array Bool} {n:Nat} (h:cnt n l=0) {i:Nat} (hi:i < n):lst l i=true:=by
  unfold cnt at h
  rw [List.countP_eq_zero] at h
  have:=h i (List.mem_range.2 hi)
  simpa using this
theorem preds_of {o:Oper} {i:Nat} (ho:ops[i]? = some o) {D:Nat→Bool}:(∀ e ∈ o.after,Region.binds .any e=true→D e.on=true) ↔ ∀ e ∈ predsAt ops i,D e=true:=by
  unfold predsAt predsO
  rw [ho]
  constructor
  · intro h e he
    obtain ⟨x,hx,hx2⟩:=List.mem_filterMap.1 he
    split at hx2
    · rename_i hb
      obtain rfl:=Option.some.inj hx2
      exact h x (by simpa using hx) hb
    · simp at hx2
  · intro h e he hb
    exact h e.on (List.mem_filterMap.2 ⟨e,by simpa using he,by rw [if_pos hb]⟩)
theorem all_done (hR:RegP P N ops cs ms) {l:Array Bool} (hs:l.size=ops.size) (hr:Region.ready .any ops l=[]):∀ i,i < ops.size→lst l i=true:=by
  intro i
  induction i using Nat.strongRecOn with
  | _ i ih =>
    intro hi
    cases h:lst l i with
    | true=>rfl
    | false =>
      exfalso
      have ho:ops[i]? = some ops[i]:=by simp [hi]
      have:i ∈ Region.ready .any ops l:=by
        rw [mem_ready]
        refine ⟨?_,ops[i],ho,?_⟩
        · unfold lst at h
          simp only [Array.getD_eq_getD_getElem?] at h ⊢
          simp [hs,hi] at h ⊢
          exact h
        · exact (preds_of ho (D:=fun x=>l.getD x false)).2 (fun e he=>ih e (hR.back i hi e he) (Nat.lt_trans (hR.back i hi e he) hi))
      rw [hr] at this
      simp at this
theorem mem_rdy (hR:RegP P N ops cs ms) {l:Array Bool} (hs:l.size=ops.size) {i:Nat} (hi:i ∈ Region.ready .any ops l):i < ops.size∧lst l i=false∧∀ e ∈ predsAt ops i,lst l e=true:=by
  rw [mem_ready] at hi
  obtain ⟨h1,o,ho,h2⟩:=hi
  have hlt:=(Array.getElem?_eq_some_iff.1 ho).1
  refine ⟨hlt,?_,(preds_of ho (D:=fun x=>l.getD x false)).1 h2⟩
  unfold lst
  simp only [Array.getD_eq_getD_getElem?] at h1 ⊢
  simp [hs,hlt] at h1 ⊢
  exact h1
theorem draw_sound {B:Nat} (hR:RegP P N ops cs ms) {K:Fr→Hp→Prop} {Q:Exit→Act→World→Prop} {f0:Fr} {R0:AR} {H0:Hp} (hB:B=H0.next)
    (hq:∀ f' h' R' a' w',K f' h'→Step R0 H0 R' h' w'→FR R' N f' a'→a'.defers=[]→Q .normal a' w'):∀ (fuel:Nat) (l:Array Bool) (M:Nat) (suf:List Nat) (v:Nat→Value) (idf:Nat→Nat) (kf:Nat→Option Blk) (R:AR) (H:Hp) (a:Act) (w:World) (pr:List Operand),RdOk cs M pr →
    l.size=ops.size→cnt ops.size l≤fuel→J P N B ops cs ms f0 M suf (lst l) v idf kf R H a w→aops P pr (suf.map fun i=>cs.getD i c0) K (val cs v f0 fun i=>M.testBit i) H→(suf=[]∨∃ j r,suf=j::r∧isE (cs.getD j c0)=true) →
    R0.le R→H.old=H0.old→(∀ b e,R.rho b=some e→R0.rho b=some e∨B≤b)→wpAny P .any ops Q fuel l a w:=by
  intro fuel
  induction fuel with
  | zero =>
    intro l M suf v idf kf R H a w pr hp hls hc hj hk hsuf h1 h2 h3
    have hall:∀ i,i < ops.size→lst l i=true:=fun i hi=>cnt_zero (by omega) hi
    have hnil:Region.ready .any ops l=[]:=by
      cases hr:Region.ready .any ops l with
      | nil=>rfl
      | cons x xs =>
        have hm:=mem_rdy hR hls (i:=x) (by rw [hr];simp)
        rw [hall x hm.1] at hm
        simp at hm
    refine ⟨hnil,?_⟩
    have hsn:suf=[]:=by
      rcases hsuf with h | ⟨j,r,rfl,-⟩
      · exact h
      · obtain ⟨w1,w2,-⟩:=walk_cons hj.walk
        have:=hj.sub j (hall j w1)
        rw [w2] at this
        simp at this
    subst hsn
    have hM:∀ i,(fun i=>M.testBit i) i=lst l i:=by
      intro i
      by_cases hi:i < ops.size
      · rw [hall i hi];exact hj.sub i (hall i hi)
      · cases hm:M.testBit i with
        | true=>exact absurd (hj.mlt i hm) hi
        | false =>
          cases hd:lst l i with
          | true=>rw [hj.sub i hd] at hm;simp at hm
          | false=>exact hm
    have hMl:(fun i=>M.testBit i)=lst l:=funext hM
    rw [hMl] at hk
    exact hq _ H R a w hk ⟨h1,hj.rel,h2,by rw [← hB];exact hj.lo,by rw [← hB];exact h3⟩ ⟨hj.size,hj.fr⟩ hj.def_
  | succ fuel ih =>
    intro l M suf v idf kf R H a w pr hp hls hc hj hk hsuf h1 h2 h3
    refine ⟨fun hnil=>?_,fun i hi=>?_⟩
    · have hall:=all_done hR hls hnil
      have hsn:suf=[]:=by
        rcases hsuf with h | ⟨j,r,rfl,-⟩
        · exact h
        · obtain ⟨w1,w2,-⟩:=walk_cons hj.walk
          have:=hj.sub j (hall j w1)
          rw [w2] at this
          simp at this
      subst hsn
      have hM:∀ i,(fun i=>M.testBit i) i=lst l i:=by
        intro i
        by_cases hi:i < ops.size
        · rw [hall i hi];exact hj.sub i (hall i hi)
        · cases hm:M.testBit i with
          | true=>exact absurd (hj.mlt i hm) hi
          | false =>
            cases hd:lst l i with
            | true=>rw [hj.sub i hd] at hm;simp at hm
            | false=>exact hm
      have hMl:(fun i=>M.testBit i)=lst l:=funext hM
      rw [hMl] at hk
      exact hq _ H R a w hk ⟨h1,hj.rel,h2,by rw [← hB];exact hj.lo,by rw [← hB];exact h3⟩ ⟨hj.size,hj.fr⟩ hj.def_
    · obtain ⟨hin,hiu,hip⟩:=mem_rdy hR hls hi
      have ho:ops[i]? = some ops[i]:=by simp [hin]
      obtain ⟨c,hc0,hceq⟩:=hR.comp i _ ho
      obtain ⟨s1,s2,s3,s4⟩:=compO_spec hc0
      have g1:(cs.getD i c0).op=c.op:=by rw [hceq]
      have g2:(cs.getD i c0).dst=c.dst:=by rw [hceq]
      have g3:(cs.getD i c0).guard=c.guard:=by rw [hceq]
      have hdlt:∀ e,lst l e=true→e < ops.size:=fun e he=>hj.mlt e (hj.sub e he)
      have hread:∀ t ∈ readsC (cs.getD i c0),val cs v f0 (lst l) t=val cs v f0 (fun u=>(ms.getD i 0).testBit u) t:=fun t ht=>val_read hR hin hj.dcl hiu hip hdlt ht
      
      have hfr:∀ t ∈ readsC (cs.getD i c0),VR R (val cs v f0 (fun u=>(ms.getD i 0).testBit u) t) (a.tmps.getD t undef):=fun t ht=>by rw [← hread t ht];exact hj.fr t
      have hwant:Region.wanted ops[i] (yielded ops a.tmps)=wantC c.guard (val cs v f0 fun u=>(ms.getD i 0).testBit u):=want_eq hc0 (fun s b hg=>hfr s (by unfold readsC;rw [g3,hg];simp))
      have hls':(l.setIfInBounds i true).size=ops.size:=by simp [hls]
      have hcnt:cnt ops.size (l.setIfInBounds i true)≤fuel:=by
        have:=cnt_set (n:=ops.size) (by omega:i < l.size) hin hiu
        omega
      have hlst:∀ j,lst (l.setIfInBounds i true) j=(lst l j || j == i):=lst_set (by omega)
      have hdcl:Closed ops.size ms (lst (l.setIfInBounds i true)):=by
        intro u x hu hx hm
        rw [hlst] at hx ⊢
        by_cases e:u=i
        · subst e
          obtain ⟨e1,k1,k2⟩:=hR.mask u x hu hm
          have:lst l x=true:=by
            rcases k2 with rfl | k2
            · exact hip _ k1
            · exact hj.dcl e1 x (hdlt _ (hip _ k1)) (hip _ k1) k2
          rw [this];rfl
        · have:lst l u=true:=by simpa [e] using hx
          rw [hj.dcl u x hu this hm];rfl
      have hdpre:∀ j,lst (l.setIfInBounds i true) j=true→∀ e ∈ predsAt ops j,lst (l.setIfInBounds i true) e=true:=by
        intro j hx e he
        rw [hlst] at hx ⊢
        by_cases e1:j=i
        · subst e1;rw [hip e he];rfl
        · have:lst l j=true:=by simpa [e1] using hx
          rw [hj.dpre j this e he];rfl
      have evi:∀ f:Fr,∀ x ∈ c.op.reads,(∀ t ∈ readsC (cs.getD i c0),VR R (f t) (a.tmps.getD t undef))→VR R (evF f x) (a.eval x):=fun f x hx hv=>opd_VR (List.all_eq_true.1 s3 x hx) (fun t ht=>hv t (by
        unfold readsC
        rw [g1]
        refine List.mem_append_left _ (List.mem_filterMap.2 ⟨x,hx,?_⟩)
        rw [ht];rfl))
      unfold wpOp
      simp only [ho,hwant]
      by_cases hMi:M.testBit i=true
      ·
        have hpend:=hj.pend i hMi hiu
        
        have behind:∀ (v':Value) (R':AR) (w':World),VR R' (v i) v'→R.le R'→Rel R' H w'→(∀ b e,R'.rho b=some e→R.rho b=some e∨((kf i).isSome=true∧b=idf i)) →
            wpAny P .any ops Q fuel (l.setIfInBounds i true) (a.put ops[i].dst v') w':=by
          intro v' R' w' k1 k2 k3 k4
          refine ih _ M suf v idf kf R' H _ w' pr hp hls' hcnt ⟨k3,hj.walk,fun j hx=>?_,hj.mlt,hdcl,hdpre,hj.mcl,put_size.trans hj.size,fun t=>?_,put_defers.trans hj.def_,fun u hu hd=>?_,fun u hu he=>?_,hj.lo,fun u hu hd hs=>?_,fun u u' hu hu' hd hd'=>?_⟩ hk hsuf (h1.trans k2) h2 (fun b e hb=>?_)
          · rw [hlst] at hx
            by_cases e:j=i
            · rw [e];exact hMi
            · exact hj.sub j (by simpa [e] using hx)
          · rw [put_get hj.size (fun s hs=>s4 s (s2.trans hs))]
            have hvp:=val_put (v:=v) (f0:=f0) hR hin hiu hlst (x:=v i)
            have hid:(fun j=>if j=i then v i else v j)=v:=by
              funext j
              by_cases e:j=i
              · rw [if_pos e,e]
              · rw [if_neg e]
            rw [hid] at hvp
            rw [hvp,g2,s2]
            cases hd:ops[i].dst with
            | none=>simpa [putF] using (hj.fr t).mono k2
            | some s =>
              simp only [putF,Option.some.injEq]
              by_cases e:t=s
              · subst e;simpa using k1
              · rw [if_neg e,if_neg (fun k=>e k.symm)]
                exact (hj.fr t).mono k2
          · rw [hlst] at hd
            simp only [Bool.or_eq_false_iff,beq_eq_false_iff_ne] at hd
            refine pend_v (hj.pend u hu hd.1) (fun _ _=>rfl) rfl rfl rfl (fun _ _ h=>h) (fun b hb q1 q2=>⟨q1,?_⟩)
            cases hrr:R'.rho (idf u) with
            | none=>rfl
            | some e =>
              rcases k4 _ _ hrr with h | ⟨h,h'⟩
              · rw [q2] at h;simp at h
              · exact absurd (hj.ids u i hu hMi hd.1 hiu (by rw [hb];rfl) h h') hd.2
          · rw [hlst,hj.es u hu he];rfl
          · rw [hlst] at hd
            simp only [Bool.or_eq_false_iff] at hd
            exact hj.low u hu hd.1 hs
          · rw [hlst] at hd hd'
            simp only [Bool.or_eq_false_iff] at hd hd'
            exact hj.ids u u' hu hu' hd.1 hd'.1
          · rcases k4 b e hb with h | ⟨h,rfl⟩
            · exact h3 b e h
            · exact .inr (hj.low i hMi hiu h)
        split
        · rename_i hw
          rw [← g3] at hw
          obtain ⟨fo,f1,f2⟩:=hpend.yes hw
          rw [g1] at f1
          have hcf:compF P ops[i]=some fo:=by
            rcases compOp_spec s1 with ⟨fo',e1,e2⟩ | ⟨eo,e1,e2⟩
            · rw [f1] at e1
              obtain rfl:=COp.f.inj e1
              exact e2
            · rw [f1] at e1;simp at e1
          obtain ⟨v',w',R',r1,r2,r3,r4,r5⟩:=fo_sound (ev':=a.eval) hcf (fun x hx=>evi _ x (by rw [f1];exact hx) hfr) hj.rel f2 hpend.blk
          refine .inl ?_
          show Oper.upon P ops[i] a _ Q ((execOp a.eval ops[i]).run P w)
          rw [r1]
          exact behind v' R' w' r2 r3 r4 r5
        · rename_i hw
          rw [← g3] at hw
          have:=hpend.no (by simpa using hw)
          exact behind undef R w (by rw [this];exact undef_VR R) (.refl R) hj.rel (fun _ _ h=>.inl h)
      ·
        have hMi':M.testBit i=false:=by simpa using hMi
        obtain ⟨r,rfl,hE⟩:∃ r,suf=i::r∧isE (cs.getD i c0)=true:=by
          rcases hsuf with rfl | ⟨j,r,rfl,hE⟩
          · have hw:=hj.walk
            unfold walkOk at hw
            rw [List.all_eq_true] at hw
            have:=hw i (List.mem_range.2 hin)
            rw [hMi'] at this
            simp at this
          · by_cases e:i=j
            · subst e;exact ⟨r,rfl,hE⟩
            · obtain ⟨-,-,-,w4,-⟩:=walk_cons hj.walk
              obtain ⟨e1,k1,k2⟩:=(w4 hE).1 i hin hMi' e
              have:=hj.sub e1 (hip e1 k1)
              rw [k2] at this
              simp at this
        obtain ⟨w1,w2,w3,w4,w5⟩:=walk_cons hj.walk
        obtain ⟨-,w4,w4q⟩:=w4 hE
        have hreadM:∀ t ∈ readsC (cs.getD i c0),val cs v f0 (fun i=>M.testBit i) t=val cs v f0 (fun u=>(ms.getD i 0).testBit u) t:=fun t ht=>val_read hR hin hj.mcl hMi' w3 hj.mlt ht
        have hfrM:∀ t ∈ readsC (cs.getD i c0),VR R (val cs v f0 (fun i=>M.testBit i) t) (a.tmps.getD t undef):=fun t ht=>by rw [hreadM t ht];exact hfr t ht
        have ancu:∀ u x,M.testBit u=true→(ms.getD u 0).testBit x=true→x≠i:=fun u x hu hx e=>by
          have:=hj.mcl u x (hj.mlt u hu) hu hx
          rw [e] at this
          simp only at this
          rw [hMi'] at this
          simp at this
        have hne:∀ u,M.testBit u=true→u≠i:=fun u hu e=>by rw [e,hMi'] at hu;simp at hu
        have hbit:∀ j,(fun i_1=>(M ||| 2 ^ i).testBit i_1) j=((fun i=>M.testBit i) j || j == i):=fun j=>bit_add M i j
        have hopE:∀ pr:List Operand,rdO (cs.getD i c0).op pr=pr:=fun pr=>by
          unfold isE at hE
          split at hE
          · rename_i h;rw [h];rfl
          · simp at hE
        have go:∀ (T:List Nat) (x x':Value) (H':Hp) (R':AR) (w':World),(∀ b ∈ T,∀ k,H.blk? b=some k→k.live=true→R.rho b≠none)→VR R' x x'→Step R H R' H' w'→((cs.getD i c0).keep=true→Keeps H H'∨KeepsP T pr (val cs v f0 fun i=>M.testBit i) H H')→aops P pr (r.map fun i=>cs.getD i c0) K (putF (val cs v f0 fun i=>M.testBit i) (cs.getD i c0).dst x) H' →
            wpAny P .any ops Q fuel (l.setIfInBounds i true) (a.put ops[i].dst x') w':=by
          intro T x x' H' R' w' hT k1 k2 k3 k4
          have hput:=val_put (v:=v) (f0:=f0) hR hin hMi' hbit (x:=x)
          rw [← hput] at k4
          have hput2:=val_put (v:=v) (f0:=f0) hR hin hiu hlst (x:=x)
          have hJ:J P N B ops cs ms f0 (M ||| 2 ^ i) r (lst (l.setIfInBounds i true)) (fun j=>if j=i then x else v j) idf kf R' H' (a.put ops[i].dst x') w':=by
            refine ⟨k2.rel,w5,fun j hx=>?_,fun j hx=>?_,hdcl,hdpre,?_,put_size.trans hj.size,fun t=>?_,put_defers.trans hj.def_,fun u hu hd=>?_,fun u hu he=>?_,Nat.le_trans hj.lo k2.next,fun u hu hd hs=>?_,fun u u' hu hu' hd hd'=>?_⟩
            · rw [hlst] at hx
              rw [bit_add]
              rcases Bool.or_eq_true_iff.1 hx with h | h
              · rw [hj.sub j h];rfl
              · rw [h];simp
            · rw [bit_add] at hx
              rcases Bool.or_eq_true_iff.1 hx with h | h
              · exact hj.mlt j h
              · rw [beq_iff_eq] at h;omega
            · intro u y hu hx hm
              simp only [bit_add] at hx ⊢
              by_cases e:u=i
              · subst e
                obtain ⟨e1,q1,q2⟩:=hR.mask u y hu hm
                have:M.testBit y=true:=by
                  rcases q2 with rfl | q2
                  · exact w3 _ q1
                  · exact hj.mcl e1 y (hj.mlt _ (w3 _ q1)) (w3 _ q1) q2
                rw [this];rfl
              · have h4:M.testBit u=true:=by simpa [e] using hx
                have h5:M.testBit y=true:=hj.mcl u y hu h4 hm
                rw [h5];rfl
            · rw [put_get hj.size (fun s hs=>s4 s (s2.trans hs)),hput2,g2,s2]
              cases hd:ops[i].dst with
              | none=>simpa [putF] using (hj.fr t).mono k2.le
              | some s =>
                simp only [putF,Option.some.injEq]
                by_cases e:t=s
                · subst e;simpa using k1
                · rw [if_neg e,if_neg (fun k=>e k.symm)]
                  exact (hj.fr t).mono k2.le
            · rw [hlst] at hd
              simp only [Bool.or_eq_false_iff,beq_eq_false_iff_ne] at hd
              have hu':M.testBit u=true:=by
                rw [bit_add] at hu
                simpa [hd.2] using hu
              have hpe:=hj.pend u hu' hd.1
              have nomask:¬ (ms.getD i 0).testBit u=true:=fun this=>by
                obtain ⟨e1,q1,q2⟩:=hR.mask i u hin this
                have:lst l u=true:=by
                  rcases q2 with rfl | q2
                  · exact hip _ q1
                  · exact hj.dcl e1 u (hdlt _ (hip _ q1)) (hip _ q1) q2
                rw [hd.1] at this
                simp at this
              have hkeep:heapy (cs.getD u c0)=true→Keeps H H'∨(KeepsP T pr (val cs v f0 fun i=>M.testBit i) H H'∧quiet cs ms u=true):=by
                intro hh
                cases hk:(cs.getD i c0).keep with
                | true =>
                  rcases k3 hk with q | q
                  · exact .inl q
                  · rcases w4q hk u (hj.mlt u hu') hu' hh with q' | q'
                    · exact absurd q' nomask
                    · exact .inr ⟨q,q'⟩
                | false=>exact absurd (w4 hk u (hj.mlt u hu') hu' hh) nomask
              refine pend_v hpe (fun y hy=>by rw [if_neg (ancu u y hu' hy)]) (by rw [if_neg hd.2]) rfl rfl (fun fo hfo hok=>?_) (fun b hb q1 q2=>?_)
              · cases hh:heapy (cs.getD u c0) with
                | true =>
                  rcases hkeep hh with q | ⟨q,q'⟩
                  · exact ok_keep q hok
                  · exact ok_quiet hR hj.mcl (hj.mlt u hu') hu' hfo hh q' (fun n x ho=>hp.1 u n x hu' ho) (fun x ho=>hp.2 u x hu' ho) q hok
                | false=>exact ok_any (by unfold heapy at hh ⊢;rw [hfo] at hh;exact hh) k2.old hok
              · have hh:=hpe.heap (by rw [hb];rfl)
                refine ⟨?_,?_⟩
                · rcases hkeep hh with q | ⟨q,-⟩
                  · exact q.2 _ _ q1
                  · exact q.2.1 _ _ q1 (fun hm=>hT _ hm _ q1 (hpe.lv b hb) q2)
                cases hrr:R'.rho (idf u) with
                | none=>rfl
                | some e =>
                  rcases k2.new _ _ hrr with h | h
                  · rw [q2] at h;simp at h
                  · have:=(Hp.blk_lt q1).2;omega
            · rw [hlst]
              rw [bit_add] at hu
              by_cases e:u=i
              · subst e;simp
              · rw [hj.es u (by simpa [e] using hu) he];rfl
            · rw [hlst] at hd
              simp only [Bool.or_eq_false_iff,beq_eq_false_iff_ne] at hd
              rw [bit_add] at hu
              exact hj.low u (by simpa [hd.2] using hu) hd.1 hs
            · rw [hlst] at hd hd'
              simp only [Bool.or_eq_false_iff,beq_eq_false_iff_ne] at hd hd'
              rw [bit_add] at hu hu'
              exact hj.ids u u' (by simpa [hd.2] using hu) (by simpa [hd'.2] using hu') hd.1 hd'.1
          have hp2:=hp.add (j:=i)
          rw [hopE] at hp2
          obtain ⟨M',suf',v',idf',kf',H2,pr',a0,a1,a2,a3,a4⟩:=adv hR r _ _ _ _ _ _ hp2 hJ k4
          exact ih _ M' suf' v' idf' kf' R' H2 _ w' pr' a0 hls' hcnt a1 a2 a3 (h1.trans k2.le) (a4.1.trans (k2.old.trans h2)) (fun b e hb=>(k2.new b e hb).elim (h3 b e) (fun h=>.inr (Nat.le_trans hj.lo h)))
        simp only [List.map_cons,aops] at hk
        rw [show wantC c.guard (val cs v f0 fun u=>(ms.getD i 0).testBit u)=wantC (cs.getD i c0).guard (val cs v f0 fun i=>M.testBit i) by rw [g3];exact (want_reads (c:=c) (fun t ht=>(hreadM t (by unfold readsC at ht ⊢;rw [g1,g3];exact ht)).symm))]
        split
        · rename_i hw
          rw [if_pos hw] at hk
          rcases compOp_spec s1 with ⟨fo,e1,e2⟩ | ⟨eo,e1,e2⟩
          · exfalso
            unfold isE at hE
            rw [g1,e1] at hE
            simp at hE
          · rw [g1,e1] at hk
            simp only at hk
            exact .inl (eo_sound e2 (fun x hx=>evi _ x (by rw [e1];exact hx) hfrM) hj.rel hk (fun x x' H' R' w' q1 q2 q3=>go _ x x' H' R' w' (touch_rho hj.rel (fun y hy=>evi _ y (by rw [e1];exact hy) hfrM)) q2 q3 q1.1 q1.2))
        · rename_i hw
          rw [if_neg hw] at hk
          exact go [] undef undef H R w (fun b hb=>by cases hb) (undef_VR R) (.refl hj.rel) (fun _=>.inl (.refl H)) (by rw [hopE] at hk;exact hk)
end
end Go.Proofs.Ytcffpnlochillaa.Ab
end
