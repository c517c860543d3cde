/- A heap of plain values, walks over it, and functions of the program met by them: no statement of the set is proved in this text. -/
import Derived.Test.YtcffpnlochillaaKb01
import Derived.ProofKit
import Derived.OpenShut
import Derived.ShutString
import Derived.ChangeOld
import Derived.ChangeMaps
import Derived.Deep.Slices
import Derived.Below
import Derived.Laws.StructEq
import Derived.ChangeKeysEq
import Derived.Laws.BitsLemmas
import Derived.IntWalk
import Derived.RowKit
import Derived.KernelRfl
set_option linter.unusedVariables false
set_option linter.unusedSimpArgs false
set_option maxRecDepth 100000
set_option maxHeartbeats 4000000
section
namespace Go.Proofs.Ytcffpnlochillaa.Ab
open Go.RowKit
def masksOf (ops:Array Oper):List Nat :=
  (List.range ops.size).foldl (fun ms j=>ms++[(predsAt ops j).foldl (fun s e=>s ||| 2 ^ e ||| ms.getD e 0) 0]) []
def ordFrom (ops:Array Oper) (cs:List CO):Nat→Nat→List Nat
  | 0,_=>[]
  | n + 1, M =>
    let ready:=(List.range ops.size).filter fun i=>!M.testBit i && (predsAt ops i).all fun e=>M.testBit e
    match ready.find? fun i=>!isE (cs.getD i c0) with
    | some i=>i::ordFrom ops cs n (M ||| 2 ^ i)
    | none => match ready with
      | i::_=>i::ordFrom ops cs n (M ||| 2 ^ i)
      | []=>[]
def keepFrom (ops:Array Oper) (cs:List CO) (ms:List Nat):List Nat→Nat→List Nat
  | [],_=>[]
  | j::ord,M=>(if isE (cs.getD j c0) && (List.range ops.size).any (fun u=>M.testBit u && heapy (cs.getD u c0) && !(ms.getD j 0).testBit u) then [j] else [])++keepFrom ops cs ms ord (M ||| 2 ^ j)
def listO (P:Program) (N:Nat) (ops:Array Oper):List Oper→Option (List CO)
  | []=>some []
  | o :: os => match compO P N ops o, listO P N ops os with
    | some c,some cs=>some (c::cs)
    | _,_=>none
def keepCs (ks:List Nat) (i:Nat):List CO→List CO
  | []=>[]
  | c::cs=>{ c with keep:=ks.contains i }::keepCs ks (i+1) cs
def compReg (P:Program) (N:Nat) (ops:Array Oper) (draw:Bool):Option (List CO) :=
  match listO P N ops ops.toList with
  | none=>none
  | some cs =>
    if draw then
      let ms:=masksOf ops
      let ord:=ordFrom ops cs ops.size 0
      let cs':=keepCs (keepFrom ops cs ms ord 0) 0 cs
      if P.follows .mixedOrders && regOk ops cs' ms ord then some (ord.map fun i=>cs'.getD i c0) else none
    else some cs
theorem listO_spec {P:Program} {N:Nat} {ops:Array Oper}:∀ (os:List Oper) (cs:List CO),listO P N ops os=some cs→cs.length=os.length∧∀ (i:Nat) o,os[i]? = some o→∃ c,cs[i]? = some c∧compO P N ops o=some c
  | [], cs, h => by
    simp [listO] at h
    subst h
    exact ⟨rfl,fun i o h=>by simp at h⟩
  | o :: os, cs, h => by
    unfold listO at h
    split at h
    · rename_i c cs' h1 h2
      obtain rfl:=Option.some.inj h
      obtain ⟨l1,l2⟩:=listO_spec os cs' h2
      refine ⟨by simp [l1],fun i o' hi=>?_⟩
      cases i with
      | zero=>simp at hi;subst hi;exact ⟨c,rfl,h1⟩
      | succ i=>simp at hi;obtain ⟨c',k1,k2⟩:=l2 i o' hi;exact ⟨c',by simpa using k1,k2⟩
    · simp at h
theorem keepCs_spec (ks:List Nat):∀ (cs:List CO) (j:Nat),(keepCs ks j cs).length=cs.length∧∀ (i:Nat) c,cs[i]? = some c→∃ b,(keepCs ks j cs)[i]? = some { c with keep:=b }
  | [],j=>⟨rfl,fun i c h=>by simp at h⟩
  | c :: cs, j => by
    obtain ⟨h1,h2⟩:=keepCs_spec ks cs (j+1)
    refine ⟨by simp [keepCs,h1],fun i c' hi=>?_⟩
    cases i with
    | zero=>simp at hi;subst hi;exact ⟨_,rfl⟩
    | succ i=>simp at hi;obtain ⟨b,hb⟩:=h2 i c' hi;exact ⟨b,by simpa [keepCs] using hb⟩
theorem regOk_spec {P:Program} {N:Nat} {ops:Array Oper} {cs:List CO} {ms ord:List Nat} (h:regOk ops cs ms ord=true) (hc:∀ i o,ops[i]? = some o→∃ c,compO P N ops o=some c∧cs.getD i c0 = { c with keep:=(cs.getD i c0).keep }):RegP P N ops cs ms∧walkOk ops cs ms ord 0=true:=by
  unfold regOk at h
  simp only [Bool.and_eq_true,beq_iff_eq] at h
  obtain ⟨⟨⟨⟨⟨⟨h1,h2⟩,h3⟩,h4⟩,h5⟩,h6⟩,h7⟩:=h
  refine ⟨⟨h1,hc,fun i hi e he=>?_,fun j i hj hm=>?_,fun i j hi hj t ha hb=>?_,fun r hr t ht u hu=>?_⟩,h7⟩
  · have:=List.all_eq_true.1 (List.all_eq_true.1 h2 i (List.mem_range.2 hi)) e he
    simpa using this
  · have hlt:i < ops.size:=by
      have h8:=List.all_eq_true.1 h4 j (List.mem_range.2 hj)
      simp only [decide_eq_true_eq] at h8
      rcases Nat.lt_or_ge i ops.size with h | h
      · exact h
      · have:=Nat.testBit_lt_two_pow (Nat.lt_of_lt_of_le h8 (Nat.pow_le_pow_right (by decide) h))
        rw [this] at hm
        simp at hm
    have:=List.all_eq_true.1 (List.all_eq_true.1 h3 j (List.mem_range.2 hj)) i (List.mem_range.2 hlt)
    rw [hm] at this
    simp only [Bool.not_true,Bool.false_or,List.any_eq_true,Bool.or_eq_true,beq_iff_eq] at this
    exact this
  · have key:∀ i j,i < ops.size→j < i→(cs.getD i c0).dst=some t→(cs.getD j c0).dst=some t→False:=by
      intro i j hi hj ha hb
      have:=List.all_eq_true.1 (List.all_eq_true.1 h5 i (List.mem_range.2 hi)) j (List.mem_range.2 hj)
      rw [ha,hb] at this
      simp at this
    rcases Nat.lt_trichotomy i j with h | h | h
    · exact (key j i hj h hb ha).elim
    · exact h
    · exact (key i j hi h ha hb).elim
  · have:=List.all_eq_true.1 (List.all_eq_true.1 h6 r (List.mem_range.2 hr)) t ht
    rw [hu] at this
    simp only [Bool.or_eq_true,beq_iff_eq] at this
    rcases this with (h | h) | h
    · exact .inl h
    · exact .inr (.inl h)
    · exact .inr (.inr h)
theorem reg_sound {P:Program} {N:Nat} {ops:Array Oper} {draw:Bool} {l:List CO} (hl:compReg P N ops draw=some l) {K:Fr→Hp→Prop} {Q:Exit→Act→World→Prop} {R:AR} {f:Fr} {h:Hp} {a:Act} {w:World} {id:Nat}
    (hk:aops P [] l K f h) (hr:Rel R h w) (hf:FR R N f a) (hd:a.defers=[]) (hq:∀ f' h' R' a' w',K f' h'→Step R h R' h' w'→FR R' N f' a'→a'.defers=[]→Q .normal a' w'):(Code.region id ops draw).wp P Q a w:=by
  unfold compReg at hl
  split at hl
  · simp at hl
  · rename_i cs hcs
    obtain ⟨l1,l2⟩:=listO_spec _ _ hcs
    split at hl
    · rename_i hdr
      subst hdr
      simp only at hl
      split at hl
      · rename_i hok
        rw [Bool.and_eq_true] at hok
        obtain ⟨hmix,hok⟩:=hok
        obtain rfl:=Option.some.inj hl
        generalize hks:keepFrom ops cs (masksOf ops) (ordFrom ops cs ops.size 0) 0=ks at *
        generalize ordFrom ops cs ops.size 0=ord at *
        generalize masksOf ops=ms at *
        obtain ⟨k1,k2⟩:=keepCs_spec ks cs 0
        have hcomp:∀ i o,ops[i]? = some o→∃ c,compO P N ops o=some c∧(keepCs ks 0 cs).getD i c0 = { c with keep:=((keepCs ks 0 cs).getD i c0).keep }:=by
          intro i o ho
          obtain ⟨c,h1,h2⟩:=l2 i o (by simpa using ho)
          obtain ⟨b,hb⟩:=k2 i c h1
          refine ⟨c,h2,?_⟩
          have:(keepCs ks 0 cs).getD i c0 = { c with keep:=b }:=by simp only [List.getD,hb,Option.getD_some]
          rw [this]
        obtain ⟨hR,hwalk⟩:=regOk_spec hok hcomp
        refine wp_region_any hmix ?_
        have hj:J P N h.next ops (keepCs ks 0 cs) ms f 0 ord (lst (Array.replicate ops.size false)) (fun _=>undef) (fun _=>0) (fun _=>none) R h a w.drew:=by
          have hf0:∀ i,lst (Array.replicate ops.size false) i=false:=by
            intro i
            unfold lst
            simp only [Array.getD_eq_getD_getElem?,Array.getElem?_replicate]
            split <;> rfl
          refine ⟨hr.drew,hwalk,fun i hi=>by rw [hf0] at hi;simp at hi,fun i hi=>by simp at hi,fun u i hu hx=>by rw [hf0] at hx;simp at hx,fun i hi=>by rw [hf0] at hi;simp at hi,fun u i hu hx=>by simp at hx,hf.1,fun t=>?_,hd,fun u hu=>by simp at hu,fun u hu=>by simp at hu,Nat.le_refl _,fun u hu=>by simp at hu,fun u u' hu=>by simp at hu⟩
          have:val (keepCs ks 0 cs) (fun _=>undef) f (lst (Array.replicate ops.size false)) t=f t:=by
            unfold val
            cases wr (keepCs ks 0 cs) t with
            | none=>rfl
            | some u=>simp only;rw [if_neg (by rw [hf0];simp)]
          rw [this]
          exact hf.2 t
        have hv0:(val (keepCs ks 0 cs) (fun _=>undef) f fun i=>(0:Nat).testBit i)=f:=by
          funext t
          unfold val
          cases wr (keepCs ks 0 cs) t <;> simp
        obtain ⟨M',suf',v',idf',kf',H',pr',a0,a1,a2,a3,a4⟩:=adv hR ord 0 _ _ _ h [] ⟨fun u n x hu _=>by simp at hu,fun u x hu _=>by simp at hu⟩ hj (by rw [hv0];exact hk)
        refine draw_sound hR rfl (fun f' h' R' a' w' q1 q2 q3 q4=>hq f' h' R' a' w' q1 q2 q3 q4) ops.size (Array.replicate ops.size false) M' suf' v' idf' kf' R H' a w.drew pr' a0 (by simp) ?_ a1 a2 a3 (.refl R) a4.1 (fun b e hb=>.inl hb)
        unfold cnt
        exact Nat.le_trans List.countP_le_length (by simp)
      · simp at hl
    · rename_i hdr
      have hdr':draw=false:=by simpa using hdr
      subst hdr'
      obtain rfl:=Option.some.inj hl
      refine wp_region (seq_sound (N:=N) (R:=R) (f:=f) (h:=h) (List.range ops.size) cs (by simp [l1]) (fun k i c h1 h2=>?_) hk hr hf hd hq)
      have hki:k < ops.size∧k=i:=by
        rw [List.getElem?_range] at h1
        · exact ⟨by have:=(List.getElem?_eq_some_iff.1 h2).1;rw [l1] at this;exact this,Option.some.inj h1⟩
        · have:=(List.getElem?_eq_some_iff.1 h2).1;rw [l1] at this;exact this
      obtain ⟨hk',rfl⟩:=hki
      have ho:ops[k]? = some ops[k]:=by simp [hk']
      obtain ⟨c',q1,q2⟩:=l2 k ops[k] (by simp [hk'])
      rw [h2] at q1
      obtain rfl:=Option.some.inj q1
      exact ⟨ops[k],c,ho,q2,rfl⟩
inductive AC where
  | skip
  | reg (l:List CO)
  | seq (a b:AC)
  | cond (c:Operand) (a b:AC)
  | block (id:Nat) (a:AC)
  | loop (a:AC)
  | scope (a:AC)
  | exit (id:Nat)
  | ret
  | bad
  | goto (l:Nat)
  | jmp (l:Nat) (a b:AC)
def compA (P:Program) (N:Nat):Code→Option AC
  | .skip=>some .skip
  | .region _ ops draw => some (match compReg P N ops draw with
    | some l=>.reg l
    | none=>.bad)
  | .seq a b => match compA P N a, compA P N b with
    | some a,some b=>some (.seq a b)
    | _,_=>none
  | .cond c a b => match compA P N a, compA P N b with
    | some a,some b=>if okOpd c then some (.cond c a b) else none
    | _,_=>none
  | .block id a=>(compA P N a).map (.block id)
  | .loop a=>(compA P N a).map .loop
  | .scope a=>(compA P N a).map .scope
  | .exit id=>some (.exit id)
  | .ret=>some .ret
  | .label _=>some .skip
  | .goto l=>some (.goto l)
  | _=>some .bad

def goL:Code→Option Nat
  | .goto l=>some l
  | .seq a b => match goL a with
    | some l=>some l
    | none=>goL b
  | .cond _ a b => match goL a with
    | some l=>some l
    | none=>goL b
  | .block _ a=>goL a
  | .loop a=>goL a
  | _=>none

def compB (P:Program) (N:Nat):Code→Option AC
  | .scope a => match goL a with
    | some l => match findLabel a l with
      | some r => match compA P N a, compA P N r with
        | some x,some y=>some (.jmp l x y)
        | _,_=>none
      | none=>none
    | none=>(compB P N a).map .scope
  | .seq a b => match compB P N a, compB P N b with
    | some a,some b=>some (.seq a b)
    | _,_=>none
  | c=>compA P N c
abbrev QA:=Exit→Fr→Hp→Prop
def thenA (K:Fr→Hp→Prop) (Q:QA):QA
  | .normal=>K
  | e=>Q e
def inBlk (id:Nat) (Q:QA):QA
  | .exit id'=>fun f h=>if id'=id then Q .normal f h else Q (.exit id') f h
  | e=>Q e
def noGo (Q:QA):QA
  | .goto _=>fun _ _=>False
  | e=>Q e
def rnds (B:QA→Fr→Hp→Prop) (Q:QA):Nat→Fr→Hp→Prop
  | 0=>fun _ _=>False
  | n+1=>B (thenA (rnds B Q n) Q)
def goK (l:Nat) (K:Fr→Hp→Prop) (Q:QA):QA
  | .goto l'=>fun f h=>l'=l∧K f h
  | e=>Q e
def jrn (B:QA→Fr→Hp→Prop) (l:Nat) (Q:QA):Nat→Fr→Hp→Prop
  | 0=>fun _ _=>False
  | n+1=>B (goK l (jrn B l Q n) Q)
def awp (P:Program):AC→QA→Fr→Hp→Prop
  | .skip,Q=>Q .normal
  | .reg l,Q=>aops P [] l (Q .normal)
  | .seq a b,Q=>awp P a (thenA (awp P b Q) Q)
  | .cond c a b, Q => fun f h => match evF f c with
    | .bool t=>if t=true then awp P a Q f h else awp P b Q f h
    | _=>False
  | .block id a,Q=>awp P a (inBlk id Q)
  | .loop a,Q=>fun f h=>∃ n,rnds (awp P a) Q n f h
  | .scope a,Q=>awp P a (noGo Q)
  | .exit id,Q=>Q (.exit id)
  | .ret,Q=>Q .ret
  | .bad,_=>fun _ _=>False
  | .goto l,Q=>Q (.goto l)
  | .jmp l a b,Q=>fun f h=>∃ n,awp P a (goK l (jrn (awp P b) l Q n) Q) f h
def conc (N:Nat) (R:AR) (h:Hp) (Q:QA) (e:Exit) (a':Act) (w':World):Prop:=∃ f' h' R',Q e f' h'∧Step R h R' h' w'∧FR R' N f' a'∧a'.defers=[]
theorem conc_trans {N:Nat} {R R':AR} {h h':Hp} {w':World} {Q:QA} (s:Step R h R' h' w') {e:Exit} {a:Act} {w:World} (c:conc N R' h' Q e a w):conc N R h Q e a w:=by
  obtain ⟨f2,h2,R2,c1,c2,c3,c4⟩:=c
  exact ⟨f2,h2,R2,c1,s.trans c2,c3,c4⟩
theorem awp_sound {P:Program} {N:Nat}:∀ (c:Code) (ac:AC),compA P N c=some ac→∀ (Q:QA) (f:Fr) (h:Hp),awp P ac Q f h→∀ (R:AR) (w:World) (a:Act),Rel R h w→FR R N f a→a.defers=[]→c.wp P (conc N R h Q) a w
  | .skip, ac, hc, Q, f, h, hk, R, w, a, hr, hf, hd => by
    obtain rfl:=Option.some.inj hc
    exact wp_skip ⟨f,h,R,hk,.refl hr,hf,hd⟩
  | .region id ops draw, ac, hc, Q, f, h, hk, R, w, a, hr, hf, hd => by
    obtain rfl:=Option.some.inj hc
    split at hk
    rotate_left
    · exact hk.elim
    rename_i l hl
    exact reg_sound hl hk hr hf hd (fun f' h' R' a' w' q1 q2 q3 q4=>⟨f',h',R',q1,q2,q3,q4⟩)
  | .seq x y, ac, hc, Q, f, h, hk, R, w, a, hr, hf, hd => by
    unfold compA at hc
    split at hc
    · rename_i ax ay hx hy
      obtain rfl:=Option.some.inj hc
      refine wp_seq (wp_mono (awp_sound x ax hx _ f h hk R w a hr hf hd) (fun e a' w' hq=>?_))
      obtain ⟨f',h',R',q1,q2,q3,q4⟩:=hq
      cases e with
      | normal=>exact wp_mono (awp_sound y ay hy Q f' h' q1 R' w' a' q2.rel q3 q4) (fun e a w c=>conc_trans q2 c)
      | _=>exact ⟨f',h',R',q1,q2,q3,q4⟩
    · simp at hc
  | .cond c x y, ac, hc, Q, f, h, hk, R, w, a, hr, hf, hd => by
    unfold compA at hc
    split at hc
    · rename_i ax ay hx hy
      split at hc
      · rename_i hok
        obtain rfl:=Option.some.inj hc
        unfold awp at hk
        split at hk
        · rename_i t ht
          have hv:VR R (evF f c) (a.eval c):=opd_VR hok (fun t _=>hf.2 t)
          rw [ht] at hv
          have he:a.eval c = .bool t:=by
            generalize a.eval c=v at hv
            cases hv
            rfl
          refine wp_cond he ?_
          cases t with
          | true=>exact awp_sound x ax hx Q f h (by simpa using hk) R w a hr hf hd
          | false=>exact awp_sound y ay hy Q f h (by simpa using hk) R w a hr hf hd
        · exact hk.elim
      · simp at hc
    · simp at hc
  | .block id x, ac, hc, Q, f, h, hk, R, w, a, hr, hf, hd => by
    obtain ⟨ax,hx,rfl⟩:=Option.map_eq_some_iff.1 hc
    refine wp_block (wp_mono (awp_sound x ax hx _ f h hk R w a hr hf hd) (fun e a' w' hq=>?_))
    obtain ⟨f',h',R',q1,q2,q3,q4⟩:=hq
    cases e with
    | exit id' =>
      show if id'=id then _ else _
      simp only [inBlk] at q1
      split
      · rename_i e;rw [if_pos e] at q1;exact ⟨f',h',R',q1,q2,q3,q4⟩
      · rename_i e;rw [if_neg e] at q1;exact ⟨f',h',R',q1,q2,q3,q4⟩
    | _=>exact ⟨f',h',R',q1,q2,q3,q4⟩
  | .loop x, ac, hc, Q, f, h, hk, R, w, a, hr, hf, hd => by
    obtain ⟨ax,hx,rfl⟩:=Option.map_eq_some_iff.1 hc
    obtain ⟨n,hn⟩:=hk
    refine wp_loop_rounds n ?_
    have key:∀ n f h R w a,rnds (awp P ax) Q n f h→Rel R h w→FR R N f a→a.defers=[]→Code.rounds P x (conc N R h Q) n a w:=by
      intro n
      induction n with
      | zero=>intro f h R w a hn;exact hn.elim
      | succ n ih =>
        intro f h R w a hn hr hf hd
        refine wp_mono (awp_sound x ax hx _ f h hn R w a hr hf hd) (fun e a' w' hq=>?_)
        obtain ⟨f',h',R',q1,q2,q3,q4⟩:=hq
        cases e with
        | normal =>
          have:=ih f' h' R' w' a' q1 q2.rel q3 q4
          exact rounds_mono (fun e a w c=>conc_trans q2 c) n a' w' this
        | _=>exact ⟨f',h',R',q1,q2,q3,q4⟩
    exact key n f h R w a hn hr hf hd
  | .scope x, ac, hc, Q, f, h, hk, R, w, a, hr, hf, hd => by
    obtain ⟨ax,hx,rfl⟩:=Option.map_eq_some_iff.1 hc
    refine wp_scope_straight (wp_mono (awp_sound x ax hx _ f h hk R w a hr hf hd) (fun e a' w' hq=>?_))
    obtain ⟨f',h',R',q1,q2,q3,q4⟩:=hq
    cases e with
    | goto l=>exact q1.elim
    | _=>exact ⟨f',h',R',q1,q2,q3,q4⟩
  | .exit id, ac, hc, Q, f, h, hk, R, w, a, hr, hf, hd => by
    obtain rfl:=Option.some.inj hc
    exact wp_exit ⟨f,h,R,hk,.refl hr,hf,hd⟩
  | .ret, ac, hc, Q, f, h, hk, R, w, a, hr, hf, hd => by
    obtain rfl:=Option.some.inj hc
    exact wp_ret ⟨f,h,R,hk,.refl hr,hf,hd⟩
  | .label l, ac, hc, Q, f, h, hk, R, w, a, hr, hf, hd => by
    obtain rfl:=Option.some.inj hc
    exact wp_label ⟨f,h,R,hk,.refl hr,hf,hd⟩
  | .goto l, ac, hc, Q, f, h, hk, R, w, a, hr, hf, hd => by
    obtain rfl:=Option.some.inj hc
    exact wp_goto ⟨f,h,R,hk,.refl hr,hf,hd⟩
  | .rangeFunc _ _ _ _, ac, hc, _, _, _, hk, _, _, _, _, _, _ => by
    obtain rfl:=Option.some.inj hc
    exact hk.elim
  | .refuse _, ac, hc, _, _, _, hk, _, _, _, _, _, _ => by
    obtain rfl:=Option.some.inj hc
    exact hk.elim
where
  rounds_mono {P:Program} {c:Code} {Q Q':Exit→Act→World→Prop} (h:∀ e a w,Q e a w→Q' e a w):∀ (n:Nat) (a:Act) (w:World),Code.rounds P c Q n a w→Code.rounds P c Q' n a w
    | 0,a,w,hh=>hh
    | n + 1, a, w, hh => wp_mono hh (fun e a w hq => by
        cases e with
        | normal=>exact rounds_mono h n a w hq
        | _=>exact h _ _ _ hq)

theorem wp_scope_rounds {P:Program} {a:Act} {w:World} {Q:Exit→Act→World→Prop} {c rest:Code} (l:Nat) (J:Nat→Act→World→Prop) (hf:findLabel c l=some rest)
    (first:c.wp P (Exit.jump l (fun a w=>∃ n,J n a w) Q) a w)
    (pass:∀ n a w,J n a w→rest.wp P (Exit.jump l (fun a' w'=>∃ m,m < n∧J m a' w') Q) a w):(Code.scope c).wp P Q a w:=by
  intro b k cs
  have hg:gotoIn l (.inScope c::k)=some (.code rest::.inScope c::k):=by simp [gotoIn,hf]
  have key:∀ n a w,J n a w→∃ e a' w',Q e a' w'∧Arrives P (lone (b.at a (.code rest::.inScope c::k)) cs w) b k cs e a' w':=by
    intro n
    induction n using Nat.strongRecOn with
    | _ n ih =>
      intro a w hJ
      obtain ⟨e,a₁,w₁,hq,harr⟩:=pass n a w hJ b (.inScope c::k) cs
      cases e with
      | normal=>exact ⟨.normal,a₁,w₁,hq,Steps.trans harr (.one step_inScope)⟩
      | exit id=>exact ⟨.exit id,a₁,w₁,hq,fun k' hk=>harr k' (by simp [exitTo,hk])⟩
      | goto l' =>
        obtain ⟨rfl,m,hlt,hJ'⟩:=hq
        obtain ⟨e₂,a₂,w₂,hq₂,harr₂⟩:=ih m hlt a₁ w₁ hJ'
        exact ⟨e₂,a₂,w₂,hq₂,.of_steps (harr _ hg) harr₂⟩
      | ret=>exact ⟨_,a₁,w₁,hq,harr⟩
      | panic ch=>exact ⟨_,a₁,w₁,hq,harr⟩
      | outgrown=>exact ⟨_,a₁,w₁,hq,harr⟩
  obtain ⟨e,a₁,w₁,hq,harr⟩:=first b (.inScope c::k) cs
  cases e with
  | normal=>exact ⟨.normal,a₁,w₁,hq,.head step_scope (Steps.trans harr (.one step_inScope))⟩
  | exit id=>exact ⟨.exit id,a₁,w₁,hq,fun k' hk=>.head step_scope (harr k' (by simp [exitTo,hk]))⟩
  | goto l' =>
    obtain ⟨rfl,n,hJ'⟩:=hq
    obtain ⟨e₂,a₂,w₂,hq₂,harr₂⟩:=key n a₁ w₁ hJ'
    exact ⟨e₂,a₂,w₂,hq₂,.of_steps (.head step_scope (harr _ hg)) harr₂⟩
  | ret=>exact ⟨_,a₁,w₁,hq,.of_steps (.one step_scope) harr⟩
  | panic ch=>exact ⟨_,a₁,w₁,hq,.of_steps (.one step_scope) harr⟩
  | outgrown=>exact ⟨_,a₁,w₁,hq,.of_steps (.one step_scope) harr⟩
theorem awpB_sound {P:Program} {N:Nat}:∀ (c:Code) (ac:AC),compB P N c=some ac→∀ (Q:QA) (f:Fr) (h:Hp),awp P ac Q f h→∀ (R:AR) (w:World) (a:Act),Rel R h w→FR R N f a→a.defers=[]→c.wp P (conc N R h Q) a w:=by
  intro c
  induction c with
  | scope x ih =>
    intro ac hc Q f h hk R w a hr hf hd
    unfold compB at hc
    split at hc
    · rename_i l hl
      split at hc
      · rename_i r hfl
        split at hc
        · rename_i ax ay hx hy
          obtain rfl:=Option.some.inj hc
          obtain ⟨n,hn⟩:=hk
          refine wp_scope_rounds l (fun n a' w'=>∃ f' h' R',jrn (awp P ay) l Q n f' h'∧Step R h R' h' w'∧FR R' N f' a'∧a'.defers=[]) hfl ?_ (fun n a' w' hJ=>?_)
          · refine wp_mono (awp_sound x ax hx _ f h hn R w a hr hf hd) (fun e a' w' hq=>?_)
            obtain ⟨f',h',R',q1,q2,q3,q4⟩:=hq
            cases e with
            | goto l'=>exact ⟨q1.1,n,f',h',R',q1.2,q2,q3,q4⟩
            | _=>exact ⟨f',h',R',q1,q2,q3,q4⟩
          · obtain ⟨f',h',R',q1,q2,q3,q4⟩:=hJ
            cases n with
            | zero=>exact q1.elim
            | succ n =>
              refine wp_mono (awp_sound r ay hy _ f' h' q1 R' w' a' q2.rel q3 q4) (fun e a2 w2 hq=>?_)
              obtain ⟨f2,h2,R2,p1,p2,p3,p4⟩:=hq
              cases e with
              | goto l'=>exact ⟨p1.1,n,Nat.lt_succ_self n,f2,h2,R2,p1.2,q2.trans p2,p3,p4⟩
              | _=>exact ⟨f2,h2,R2,p1,q2.trans p2,p3,p4⟩
        · simp at hc
      · simp at hc
    · obtain ⟨ax,hx,rfl⟩:=Option.map_eq_some_iff.1 hc
      refine wp_scope_straight (wp_mono (ih ax hx _ f h hk R w a hr hf hd) (fun e a' w' hq=>?_))
      obtain ⟨f',h',R',q1,q2,q3,q4⟩:=hq
      cases e with
      | goto l=>exact q1.elim
      | _=>exact ⟨f',h',R',q1,q2,q3,q4⟩
  | seq x y ihx ihy =>
    intro ac hc Q f h hk R w a hr hf hd
    unfold compB at hc
    split at hc
    · rename_i ax ay hx hy
      obtain rfl:=Option.some.inj hc
      refine wp_seq (wp_mono (ihx ax hx _ f h hk R w a hr hf hd) (fun e a' w' hq=>?_))
      obtain ⟨f',h',R',q1,q2,q3,q4⟩:=hq
      cases e with
      | normal=>exact wp_mono (ihy ay hy Q f' h' q1 R' w' a' q2.rel q3 q4) (fun e a w c=>conc_trans q2 c)
      | _=>exact ⟨f',h',R',q1,q2,q3,q4⟩
    · simp at hc
  | _=>exact fun ac hc=>awp_sound _ ac hc
inductive RV where
  | tmp (t:Nat)
  | cell (t:Nat) (n:Option Nat)
def compR (P:Program):List ResultVar→Option (List RV)
  | []=>some []
  | .tmp t::l=>(compR P l).map (.tmp t::·)
  | .cell a t :: l => match aggT P t, P.info? t, compR P l with
    | some true,some inf,some r=>some (.cell a (some inf.size)::r)
    | some false,some _,some r=>some (.cell a none::r)
    | _,_,_=>none
def rv (f:Fr) (h:Hp):RV→Option Value
  | .tmp t=>some (f t)
  | .cell a n => match f a with
    | .pointer (some ad) => match n with
      | none=>h.cell? ad
      | some m=>(h.cells? ad m).map fun (l:List Value)=>Value.agg l.toArray
    | _=>none
def rvs (f:Fr) (h:Hp):List RV→Option (List Value)
  | []=>some []
  | r :: l => match rv f h r, rvs f h l with
    | some v,some vs=>some (v::vs)
    | _,_=>none
def one (l:List Value):Value:=match l with
  | [v]=>v
  | l=>.tuple l.toArray
def retA (rs:List RV) (K:Value→Hp→Prop):QA
  | .normal=>fun f h=>∃ l,rvs f h rs=some l∧K (one l) h
  | .ret=>fun f h=>∃ l,rvs f h rs=some l∧K (one l) h
  | _=>fun _ _=>False
def initF (args:List Value):Fr:=fun t=>args.getD t undef
def rvRun (a:Act):ResultVar→Sem Value
  | .tmp t=>pure (a.tmps.getD t undef)
  | .cell b t=>do loadVar t (← asAddr (a.tmps.getD b undef))
theorem rvs_run {P:Program} {R:AR} {h:Hp} {w:World} {f:Fr} {a:Act} (hr:Rel R h w) (hf:∀ t,VR R (f t) (a.tmps.getD t undef)):∀ (l:List ResultVar) (rs:List RV) (vs:List Value),compR P l=some rs→rvs f h rs=some vs →
    ∃ vs',VRs R vs vs'∧(l.mapM (rvRun a)).run P w = .ok vs' w
  | [], rs, vs, hc, hv => by
    simp [compR] at hc
    subst hc
    simp [rvs] at hv
    subst hv
    exact ⟨[],.nil R,by simp⟩
  | r :: l, rs, vs, hc, hv => by
    have key:∀ (r':RV) (rs':List RV),rs=r'::rs'→compR P l=some rs'→(∀ v,rv f h r'=some v→∃ v',VR R v v'∧(rvRun a r).run P w = .ok v' w)→∃ vs',VRs R vs vs'∧((r::l).mapM (rvRun a)).run P w = .ok vs' w:=by
      intro r' rs' he hc' hr'
      subst he
      unfold rvs at hv
      split at hv
      · rename_i v vs2 h1 h2
        obtain rfl:=Option.some.inj hv
        obtain ⟨v',k1,k2⟩:=hr' v h1
        obtain ⟨vs',j1,j2⟩:=rvs_run hr hf l rs' vs2 hc' h2
        exact ⟨v'::vs',.cons k1 j1,by simp [List.mapM_cons,k2,j2]⟩
      · simp at hv
    cases r with
    | tmp t =>
      obtain ⟨rs',h1,rfl⟩:=Option.map_eq_some_iff.1 hc
      refine key _ _ rfl h1 (fun v hv=>?_)
      obtain rfl:=Option.some.inj hv
      exact ⟨_,hf t,rfl⟩
    | cell b t =>
      unfold compR at hc
      split at hc
      · rename_i inf r' h1 h2 h3
        obtain rfl:=Option.some.inj hc
        refine key _ _ rfl h3 (fun v hv=>?_)
        have hb:=hf b
        simp only [rv] at hv
        split at hv
        · rename_i ad he
          rw [he] at hb
          obtain ⟨l2,hl2,rfl⟩:=Option.map_eq_some_iff.1 hv
          generalize hg:a.tmps.getD b undef=x at hb
          cases hb with
          | ptr _ ad' had =>
            obtain ⟨l',g1,g2,g3,g4⟩:=hr.cells P had hl2
            refine ⟨.agg l'.toArray,.agg _ _ (by simpa using g1.1) (fun j y y' q1 q2=>g1.2 j y y' (by simpa using q1) (by simpa using q2)),?_⟩
            simp [rvRun,hg,asAddr,loadVar,agg_run h1,size_run h2,g4]
        · simp at hv
      · rename_i inf r' h1 h2 h3
        obtain rfl:=Option.some.inj hc
        refine key _ _ rfl h3 (fun v hv=>?_)
        have hb:=hf b
        simp only [rv] at hv
        split at hv
        · rename_i ad he
          rw [he] at hb
          generalize hg:a.tmps.getD b undef=x at hb
          cases hb with
          | ptr _ ad' had =>
            obtain ⟨v',g1,g2,-⟩:=hr.cell had hv
            refine ⟨v',g2,?_⟩
            simp [rvRun,hg,asAddr,loadVar,agg_run h1,g1]
        · simp at hv
      · simp at hc
theorem one_VR {R:AR} {l l':List Value} (h:VRs R l l'):VR R (one l) (if hh:l'.toArray.size=1 then l'.toArray[0] else .tuple l'.toArray):=by
  have hl:=h.1
  match l,l',h,hl with
  | [v],[v'],h,_=>exact h.2 0 v v' rfl rfl
  | [],[],h,_=>exact .tuple _ _ rfl (fun i v v' h=>by simp at h)
  | a :: b :: l, l', h, hl =>
    have:¬ (l'.toArray.size=1):=by simp at hl ⊢;omega
    rw [dif_neg this]
    exact .tuple _ _ (by simpa using hl) (fun i v v' h1 h2=>h.2 i v v' (by simpa using h1) (by simpa using h2))

theorem call_of {P : Program} {g : FuncId} {fn : Func} {c : Code} {ac : AC} {rs : List RV} (hf : P.funcs[g]? = some fn) (hn : (fn.name == "runtime.NumGoroutine") = false) (hb : fn.body = some c) (hc : compB P fn.ntmps c = some ac) (hrs : compR P fn.results.toList = some rs)
    {args:List Value} (ha:args.length≤fn.ntmps) {h:Hp} {K:Value→Hp→Prop} (hk:awp P ac (retA rs K) (initF args) h):ACalls P g args h K:=by
  refine ⟨⟨fn,hf,hn,by rw [hb];rfl⟩,fun R w args' hr hv=>?_⟩
  have hl:args'.length=args.length:=hv.1.symm
  refine calls_of_wp hf hb ?_
  have hfr:FR R fn.ntmps (initF args) { tmps:=args'.toArray++Array.replicate (fn.ntmps - args'.toArray.size) undef,defers:=[] }:=by
    refine ⟨by simp;omega,fun t=>?_⟩
    have e:(args'.toArray++Array.replicate (fn.ntmps - args'.toArray.size) undef).getD t undef=args'.getD t undef:=by
      simp only [Array.getD_eq_getD_getElem?,Array.getElem?_append,List.size_toArray,List.getElem?_toArray,List.getD]
      by_cases h1:t < args'.length
      · rw [if_pos h1]
      · rw [if_neg h1,List.getElem?_eq_none (by omega)]
        simp only [Array.getElem?_replicate,Option.getD_none]
        split <;> rfl
    show VR R (args.getD t undef) ((args'.toArray++Array.replicate (fn.ntmps - args'.toArray.size) undef).getD t undef)
    rw [e]
    simp only [List.getD]
    by_cases h1:t < args.length
    · have e1:args[t]? = some args[t]:=by simp [h1]
      have e2:args'[t]? = some (args'[t]'(by omega)):=by simp [show t < args'.length by omega]
      rw [e1,e2]
      exact hv.2 t _ _ e1 e2
    · rw [List.getElem?_eq_none (by omega),List.getElem?_eq_none (by omega)]
      exact undef_VR R
  refine wp_mono (awpB_sound c ac hc _ _ h hk R w _ hr hfr rfl) (fun e a' w' hq=>?_)
  obtain ⟨f',h',R',q1,q2,q3,q4⟩:=hq
  have fin:∀ l,rvs f' h' rs=some l→K (one l) h'→a'.defers=[]∧∃ v,(results fn a'.tmps).run P w' = .ok v w'∧CPost R h K (.returned v) w':=by
    intro l h1 h2
    refine ⟨q4,?_⟩
    obtain ⟨vs',k1,k2⟩:=rvs_run (P:=P) q2.rel q3.2 fn.results.toList rs l hrs h1
    refine ⟨_,?_,one l,_,h',R',h2,rfl,one_VR k1,q2⟩
    have hres:results fn a'.tmps=(do let vs ← fn.results.mapM (rvRun a');pure (if h:vs.size=1 then vs[0] else .tuple vs)):=by
      unfold results
      rfl
    rw [hres,Sem.run_bind]
    have e:(fn.results.mapM (rvRun a')).run P w' = .ok vs'.toArray w':=by
      rw [Array.mapM_eq_mapM_toList]
      simp [k2]
    rw [e]
    rfl
  cases e with
  | normal=>obtain ⟨l,h1,h2⟩:=q1;exact fin l h1 h2
  | ret=>obtain ⟨l,h1,h2⟩:=q1;exact fin l h1 h2
  | _=>exact q1.elim
end Go.Proofs.Ytcffpnlochillaa.Ab
namespace Go.Proofs.Ytcffpnlochillaa.Ab
open Go.RowKit
abbrev T (t:Nat):Operand:=.tmp t
abbrev C (v:Value):Operand:=.const v
theorem ev_T (f:Fr) (t:Nat):evF f (.tmp t)=f t:=rfl
theorem ev_C (f:Fr) (v:Value):evF f (.const v)=v:=rfl
theorem ev_F (f:Fr) (g:Nat):evF f (.func g) = .func (.func g) #[] #[]:=rfl
theorem put_at (f:Fr) (d:Nat) (v:Value) (t:Nat):putF f (some d) v t=if t=d then v else f t:=rfl
theorem put_none (f:Fr) (v:Value):putF f none v=f:=rfl
theorem init_at (args:List Value) (t:Nat):initF args t=args.getD t undef:=rfl

theorem b_add (k:IntKind) (a b:Int):abin .add (.int k a) (.int k b)=some (.int k (k.wrap (a+b))):=by simp [abin,binOp,Op.intArith,semPure,pure]
theorem b_sub (k:IntKind) (a b:Int):abin .sub (.int k a) (.int k b)=some (.int k (k.wrap (a - b))):=by simp [abin,binOp,Op.intArith,semPure,pure]
theorem b_mul (k:IntKind) (a b:Int):abin .mul (.int k a) (.int k b)=some (.int k (k.wrap (a * b))):=by simp [abin,binOp,Op.intArith,semPure,pure]
theorem b_eql (k:IntKind) (a b:Int):abin .eql (.int k a) (.int k b)=some (.bool (decide (a=b))):=by simp [abin,binOp,Op.intCmp,semPure,pure,BEq.beq]
theorem b_neq (k:IntKind) (a b:Int):abin .neq (.int k a) (.int k b)=some (.bool (decide (a≠b))):=by simp [abin,binOp,Op.intCmp,semPure,pure,bne,BEq.beq]
theorem b_lss (k:IntKind) (a b:Int):abin .lss (.int k a) (.int k b)=some (.bool (decide (a < b))):=by simp [abin,binOp,Op.intCmp,semPure,pure]
theorem b_leq (k:IntKind) (a b:Int):abin .leq (.int k a) (.int k b)=some (.bool (decide (a≤b))):=by simp [abin,binOp,Op.intCmp,semPure,pure]
theorem b_gtr (k:IntKind) (a b:Int):abin .gtr (.int k a) (.int k b)=some (.bool (decide (b < a))):=by simp [abin,binOp,Op.intCmp,semPure,pure]
theorem b_geq (k:IntKind) (a b:Int):abin .geq (.int k a) (.int k b)=some (.bool (decide (b≤a))):=by simp [abin,binOp,Op.intCmp,semPure,pure]
theorem b_and (k:IntKind) (a b:Int):abin .and (.int k a) (.int k b)=some (.int k (k.wrap (BitVec.ofInt k.bits a &&& BitVec.ofInt k.bits b).toNat)):=by simp [abin,binOp,Op.intBits,semPure,pure]
theorem b_or (k:IntKind) (a b:Int):abin .or (.int k a) (.int k b)=some (.int k (k.wrap (BitVec.ofInt k.bits a ||| BitVec.ofInt k.bits b).toNat)):=by simp [abin,binOp,Op.intBits,semPure,pure]
theorem b_shl (k k':IntKind) (a b:Int) (h:¬ b < 0):abin .shl (.int k a) (.int k' b)=some (.int k (k.wrap (a * 2 ^ min b.toNat k.bits))):=by simp [abin,binOp,Op.shift,semPure,pure,h]
theorem b_shr (k k':IntKind) (a b:Int) (h:¬ b < 0):abin .shr (.int k a) (.int k' b)=some (.int k (a.fdiv (2 ^ min b.toNat k.bits))):=by simp [abin,binOp,Op.shift,semPure,pure,h]
theorem s_eql (a b:ByteArray):abin .eql (.string a) (.string b)=some (.bool (a.toList == b.toList)):=by simp [abin,binOp,Op.stringOp,semPure,pure]
theorem s_neq (a b:ByteArray):abin .neq (.string a) (.string b)=some (.bool (!(a.toList == b.toList))):=by simp [abin,binOp,Op.stringOp,semPure,pure]
theorem u_not (b:Bool):aun .not (.bool b)=some (.bool (!b)):=rfl
theorem u_neg (k:IntKind) (a:Int):aun .neg (.int k a)=some (.int k (k.wrap (0 - a))):=rfl

section
variable {P:Program} {K:Fr→Hp→Prop} {Q:QA} {f:Fr} {h:Hp} {cs:List CO} {d:Option Nat} {kp:Bool} {pr:List Operand}
theorem s_f {fo:FOp} {v:Value} (hr:fo.run P (evF f) h h.next=some (v,none)) (hk:aops P (rdF fo pr) cs K (putF f d v) h):aops P pr (⟨d,none,kp,.f fo⟩::cs) K f h:=by
  unfold aops
  rw [if_pos (show wantC none f=true from rfl)]
  exact ⟨v,none,.inl hr,hk⟩
theorem s_a {fo:FOp} {v:Value} {k:Blk} (hr:fo.run P (evF f) h h.next=some (v,some k)) (hk:aops P (rdF fo pr) cs K (putF f d v) (h.push k)):aops P pr (⟨d,none,kp,.f fo⟩::cs) K f h:=by
  unfold aops
  rw [if_pos (show wantC none f=true from rfl)]
  exact ⟨v,some k,.inl hr,hk⟩
theorem s_eqS {ne:Bool} {t:TypeId} {x y:Operand} {a b:Array Value} {r:Bool} (ha:evF f x = .agg a) (hb:evF f y = .agg b) (hs:(a++b).all (fun | .int _ _ | .bool _ | .string _=>true | _=>false)=true) (he:∀ w,(Op.equal t (.agg a) (.agg b)).run P w = .ok r w) (hk:aops P pr cs K (putF f d (.bool (nb ne r))) h):aops P pr (⟨d,none,kp,.f (.eqS ne t x y)⟩::cs) K f h:=by
  unfold aops
  rw [if_pos (show wantC none f=true from rfl)]
  exact ⟨_,none,.inr ⟨ne,t,x,y,a,b,r,rfl,rfl,ha,hb,hs,he,rfl⟩,hk⟩
theorem kp_o {kp:Bool} {T:List Nat} {f:Fr} {h h':Hp} (hk:kp=true→Keeps h h'):kp=true→Keeps h h'∨KeepsP T pr f h h':=fun hh=>.inl (hk hh)
theorem s_cal {fx:Operand} {args:List Operand} {g:FuncId} {a b:Array Value} (hf:evF f fx = .func (.func g) a b) (hk:ACalls P g (a.toList++args.map (evF f)++b.toList) h fun v h'=>(kp=true→Keeps h h')∧aops P pr cs K (putF f d v) h'):aops P pr (⟨d,none,kp,.e (.cal fx args)⟩::cs) K f h:=by
  unfold aops
  rw [if_pos (show wantC none f=true from rfl)]
  simp only [EOp.run,hf]
  exact hk.mono fun v h' q=>⟨kp_o q.1,q.2⟩
theorem s_stP {size:Nat} {a v:Operand} {ad:Addr} {h':Hp} (ha:evF f a = .pointer (some ad)) (hs:(evF f v).cells.size=size) (hw:h.write ad (evF f v).cells.toList=some h') (hkp:kp=true→Keeps h h'∨KeepsP ((EOp.st size a v).touch (evF f)) pr f h h') (hk:aops P pr cs K (putF f d undef) h'):aops P pr (⟨d,none,kp,.e (.st size a v)⟩::cs) K f h:=by
  unfold aops
  rw [if_pos (show wantC none f=true from rfl)]
  simp only [EOp.run,ha]
  exact ⟨hs,h',hw,hkp,hk⟩
theorem s_calP {fx:Operand} {args:List Operand} {g:FuncId} {a b:Array Value} (hf:evF f fx = .func (.func g) a b) (hk:ACalls P g (a.toList++args.map (evF f)++b.toList) h fun v h'=>KeepsP ((a.toList++args.map (evF f)++b.toList).filterMap ptB) pr f h h'∧aops P pr cs K (putF f d v) h'):aops P pr (⟨d,none,kp,.e (.cal fx args)⟩::cs) K f h:=by
  unfold aops
  rw [if_pos (show wantC none f=true from rfl)]
  simp only [EOp.run,hf]
  refine hk.mono fun v h' q=>⟨fun _=>.inr ?_,q.2⟩
  have e:(EOp.cal fx args).touch (evF f)=(a.toList++args.map (evF f)++b.toList).filterMap ptB:=by
    unfold EOp.touch
    simp only [hf]
  rw [e]
  exact q.1
theorem s_gen {eo:EOp} {v:Value} {h':Hp} (hrun:∀ K1:Value→Hp→Prop,K1 v h'→eo.run P (evF f) h K1) (hkp:kp=true→Keeps h h'∨KeepsP (eo.touch (evF f)) pr f h h') (hk:aops P pr cs K (putF f d v) h'):aops P pr (⟨d,none,kp,.e eo⟩::cs) K f h:=by
  unfold aops
  rw [if_pos (show wantC none f=true from rfl)]
  exact hrun _ ⟨hkp,hk⟩
theorem s_st {size:Nat} {a v:Operand} {ad:Addr} {h':Hp} (ha:evF f a = .pointer (some ad)) (hs:(evF f v).cells.size=size) (hw:h.write ad (evF f v).cells.toList=some h') (hk:aops P pr cs K (putF f d undef) h') (hkp:kp=false:=by rfl):aops P pr (⟨d,none,kp,.e (.st size a v)⟩::cs) K f h:=by
  unfold aops
  rw [if_pos (show wantC none f=true from rfl)]
  simp only [EOp.run,ha]
  exact ⟨hs,h',hw,fun h=>(by rw [hkp] at h;simp at h),hk⟩
theorem w_reg {l:List CO} (hk:aops P [] l (Q .normal) f h):awp P (.reg l) Q f h:=hk
theorem w_cond {c:Operand} {a b:AC} {t:Bool} (hc:evF f c = .bool t) (h1:t=true→awp P a Q f h) (h2:t=false→awp P b Q f h):awp P (.cond c a b) Q f h:=by
  unfold awp
  simp only [hc]
  cases t
  · exact h2 rfl
  · exact h1 rfl
end
def IsTold (P : Program) (g N : Nat) (ac : AC) (rs : List RV) : Prop := ∃ fn c, P.funcs[g]? = some fn ∧ (fn.name == "runtime.NumGoroutine") = false ∧ fn.body = some c ∧ fn.ntmps = N ∧ compB P N c = some ac ∧ compR P fn.results.toList = some rs
theorem IsTold.call {P:Program} {g N:Nat} {ac:AC} {rs:List RV} (t:IsTold P g N ac rs) {args:List Value} {h:Hp} {K:Value→Hp→Prop} (hk:awp P ac (retA rs K) (initF args) h) (ha:args.length≤N:=by first | decide | simp):ACalls P g args h K:=by
  obtain ⟨fn,c,h1,h2,h3,rfl,h5,h6⟩:=t
  exact call_of h1 h2 h3 h5 h6 ha hk
section
variable {P:Program} {K:Fr→Hp→Prop} {Q:QA} {f:Fr} {h:Hp}
theorem w_sq {a b:AC} (hk:awp P a (thenA (awp P b Q) Q) f h):awp P (.seq a b) Q f h:=hk
theorem w_blk {id:Nat} {a:AC} (hk:awp P a (inBlk id Q) f h):awp P (.block id a) Q f h:=hk
theorem w_scp {a:AC} (hk:awp P a (noGo Q) f h):awp P (.scope a) Q f h:=hk
theorem w_skip (hk:Q .normal f h):awp P .skip Q f h:=hk
theorem w_exit {id:Nat} (hk:Q (.exit id) f h):awp P (.exit id) Q f h:=hk
theorem w_ret (hk:Q .ret f h):awp P .ret Q f h:=hk
theorem t_nor (hk:K f h):thenA K Q .normal f h:=hk
theorem t_exit {id:Nat} (hk:Q (.exit id) f h):thenA K Q (.exit id) f h:=hk
theorem t_ret (hk:Q .ret f h):thenA K Q .ret f h:=hk
theorem i_nor {id:Nat} (hk:Q .normal f h):inBlk id Q .normal f h:=hk
theorem i_exit {id:Nat} (hk:Q .normal f h):inBlk id Q (.exit id) f h:=by
  show if id=id then _ else _
  rw [if_pos rfl]
  exact hk
theorem i_exit' {id id':Nat} (hk:Q (.exit id') f h) (hne:id'≠id:=by decide):inBlk id Q (.exit id') f h:=by
  show if id'=id then _ else _
  rw [if_neg hne]
  exact hk
theorem i_ret {id:Nat} (hk:Q .ret f h):inBlk id Q .ret f h:=hk
theorem g_nor (hk:Q .normal f h):noGo Q .normal f h:=hk
theorem g_ret (hk:Q .ret f h):noGo Q .ret f h:=hk
end
def rowV (h:Hp) (es:Nat):Value→Option (List Value)
  | .slice none n _=>if n=0 then some [] else none
  | .slice (some a) n _=>h.cells? a (n * es)
  | _=>none
theorem cellsFrom_len {h:Hp} {a:Addr}:∀ (n i:Nat) (l:List Value),h.cellsFrom a i n=some l→l.length=n
  | 0,i,l,hl=>by simp [Hp.cellsFrom] at hl;subst hl;rfl
  | n + 1, i, l, hl => by
    simp only [Hp.cellsFrom] at hl
    cases hc:h.cell? (a.add i) with
    | none=>simp [hc] at hl
    | some v =>
      simp only [hc] at hl
      obtain ⟨t,ht,rfl⟩:=Option.map_eq_some_iff.1 hl
      simp [cellsFrom_len n (i+1) t ht]
theorem rowV_len {h:Hp} {es:Nat} {A:Option Addr} {n c:Nat} {l:List Value} (hr:rowV h es (.slice A n c)=some l):l.length=n * es:=by
  unfold rowV at hr
  cases A with
  | none =>
    simp only at hr
    split at hr
    · rename_i e;subst e;simp at hr;subst hr;simp
    · simp at hr
  | some a=>exact cellsFrom_len _ _ _ hr
theorem rowV_some {h:Hp} {es:Nat} {A:Option Addr} {n c:Nat} {l:List Value} (hr:rowV h es (.slice A n c)=some l) (hn:0 < n):∃ a,A=some a:=by
  cases A with
  | none=>unfold rowV at hr;simp only at hr;rw [if_neg (by omega)] at hr;simp at hr
  | some a=>exact ⟨a,rfl⟩
theorem rowV_cell {h:Hp} {es:Nat} {a:Addr} {n c:Nat} {l:List Value} (hr:rowV h es (.slice (some a) n c)=some l) {j:Nat} {v:Value} (hj:l[j]? = some v):h.cell? (a.add j)=some v:=by
  have:=cellsFrom_get _ _ _ hr j v hj
  rwa [Nat.zero_add] at this
theorem add_add (a:Addr) (i j:Nat) (hs:a.spot=none):(a.add i).add j=a.add (i+j):=by
  unfold Addr.add
  cases a
  simp only at hs
  subst hs
  by_cases h1:i=0 <;> by_cases h2:j=0 <;> simp [h1,h2,Nat.add_assoc]
theorem srcV_row {h:Hp} {es:Nat} {A:Option Addr} {n c:Nat} {l:List Value} (hr:rowV h es (.slice A n c)=some l):srcV h es (.slice A n c)=some (l,n):=by
  unfold rowV at hr
  unfold srcV
  cases A with
  | none =>
    simp only at hr ⊢
    split at hr
    · rename_i e;subst e;simp at hr;subst hr;simp
    · simp at hr
  | some a=>simp only at hr ⊢;rw [hr];rfl

theorem blk_cells {h:Hp} {b:Nat} {k:Blk} (hb:h.blk? b=some k) (hl:k.live=true):∀ (n i:Nat),i+n≤k.cells.length→h.cellsFrom ⟨b,0,none⟩ i n=some ((k.cells.drop i).take n)
  | 0,i,_=>by simp [Hp.cellsFrom]
  | n + 1, i, hi => by
    have hlo:=(Hp.blk_lt hb).1
    have e:h.cell? (Addr.add ⟨b,0,none⟩ i)=some k.cells[i]:=by
      have:Addr.add ⟨b,0,none⟩ i=⟨b,i,none⟩:=by
        unfold Addr.add
        split
        · rename_i h;rw [h]
        · simp
      rw [this]
      unfold Hp.cell?
      rw [if_neg (by simpa using hlo)]
      simp [hb,hl,show i < k.cells.length by omega]
    simp only [Hp.cellsFrom,e,blk_cells hb hl n (i+1) (by omega),Option.map_some]
    rw [List.drop_eq_getElem_cons (show i < k.cells.length by omega)]
    rfl
section
variable {P:Program} {K:Fr→Hp→Prop} {f:Fr} {h h0:Hp} {L:List (Nat×Blk)} {cs:List CO} {d:Option Nat} {kp:Bool} {pr:List Operand}
end
section
variable {P:Program} {K:Fr→Hp→Prop} {Q:QA} {f:Fr} {h:Hp} {cs:List CO} {d:Option Nat} {kp:Bool} {pr:List Operand}
theorem w_loop {a:AC} (I:Nat→Fr→Hp→Prop) (n:Nat) (h0:I n f h) (hr:∀ n f h,I n f h→awp P a (thenA (fun f h=>∃ m,m < n∧I m f h) Q) f h) (hm:∀ (Q1 Q2:QA),(∀ e f h,Q1 e f h→Q2 e f h)→∀ f h,awp P a Q1 f h→awp P a Q2 f h):awp P (.loop a) Q f h:=by
  have key:∀ n f h,I n f h→rnds (awp P a) Q (n+1) f h:=by
    intro n
    induction n using Nat.strongRecOn with
    | _ n ih =>
      intro f h hi
      refine hm _ _ (fun e f h he=>?_) f h (hr n f h hi)
      cases e with
      | normal =>
        obtain ⟨m,hlt,hi'⟩:=he
        have h1:=ih m hlt f h hi'
        have mono:∀ k j,k≤j→∀ f h,rnds (awp P a) Q k f h→rnds (awp P a) Q j f h:=by
          intro k
          induction k with
          | zero=>intro j _ f h hh;exact hh.elim
          | succ k ihk =>
            intro j hj f h hh
            obtain ⟨j,rfl⟩:∃ j',j=j'+1:=⟨j - 1,by omega⟩
            refine hm _ _ (fun e f h he=>?_) f h hh
            cases e with
            | normal=>exact ihk j (by omega) f h he
            | _=>exact he
        exact mono (m+1) n (by omega) f h h1
      | _=>exact he
  exact ⟨n+1,key n f h h0⟩
end
theorem eop_mono {P:Program} {eo:EOp} {ev:Operand→Value} {h:Hp} {K K':Value→Hp→Prop} (hk:∀ v h,K v h→K' v h) (hr:eo.run P ev h K):eo.run P ev h K':=by
  cases eo with
  | st size a v =>
    simp only [EOp.run] at hr ⊢
    split at hr
    · obtain ⟨h1,h',h2,h3⟩:=hr;exact ⟨h1,h',h2,hk _ _ h3⟩
    · exact hr
  | cal f args =>
    simp only [EOp.run] at hr ⊢
    split at hr
    · exact hr.mono hk
    · exact hr
  | app es bytes s x =>
    obtain ⟨new,n,v,h',h1,h2,h3⟩:=hr
    exact ⟨new,n,v,h',h1,h2,hk _ _ h3⟩
  | apz es bytes zc s x =>
    simp only [EOp.run] at hr ⊢
    split at hr
    · obtain ⟨h0,v,h',h2,h3⟩:=hr
      exact ⟨h0,v,h',h2,hk _ _ h3⟩
    · exact hr
  | cpy es d s =>
    simp only [EOp.run] at hr ⊢
    split at hr
    · obtain ⟨new,n,h1,h2⟩:=hr
      refine ⟨new,n,h1,?_⟩
      split
      · rename_i h0;rw [if_pos h0] at h2;exact hk _ _ h2
      · rename_i h0
        rw [if_neg h0] at h2
        rename_i b _ _ _
        cases b with
        | none=>exact h2
        | some a=>obtain ⟨h',h3,h4⟩:=h2;exact ⟨h',h3,hk _ _ h4⟩
    · exact hr
  | mst x =>
    simp only [EOp.run] at hr ⊢
    split at hr
    · exact ⟨hr.1,hk _ _ hr.2⟩
    · exact hr
theorem aops_mono {P:Program} {K K':Fr→Hp→Prop} (hk:∀ f h,K f h→K' f h):∀ (cs:List CO) (pr:List Operand) (f:Fr) (h:Hp),aops P pr cs K f h→aops P pr cs K' f h
  | [],pr,f,h,hh=>hk f h hh
  | c :: cs, pr, f, h, hh => by
    unfold aops at hh ⊢
    split
    · rename_i hw
      rw [if_pos hw] at hh
      cases hc:c.op with
      | f fo =>
        rw [hc] at hh
        obtain ⟨v,k,h1,h2⟩:=hh
        exact ⟨v,k,h1,aops_mono hk cs _ _ _ h2⟩
      | e eo =>
        rw [hc] at hh
        exact eop_mono (fun v h' ⟨h1,h2⟩=>⟨h1,aops_mono hk cs _ _ _ h2⟩) hh
    · rename_i hw
      rw [if_neg hw] at hh
      exact aops_mono hk cs _ _ _ hh
theorem awp_mono {P:Program}:∀ (a:AC) (Q1 Q2:QA),(∀ e f h,Q1 e f h→Q2 e f h)→∀ f h,awp P a Q1 f h→awp P a Q2 f h
  | .skip,Q1,Q2,hq,f,h,hh=>hq _ _ _ hh
  | .reg l,Q1,Q2,hq,f,h,hh=>aops_mono (hq _) l [] f h hh
  | .seq a b,Q1,Q2,hq,f,h,hh=>awp_mono a _ _ (fun e f h he=>by
      cases e with
      | normal=>exact awp_mono b _ _ hq f h he
      | _=>exact hq _ _ _ he) f h hh
  | .cond c a b, Q1, Q2, hq, f, h, hh => by
    unfold awp at hh ⊢
    split at hh
    · split
      · rename_i ht;rw [if_pos ht] at hh;exact awp_mono a _ _ hq f h hh
      · rename_i ht;rw [if_neg ht] at hh;exact awp_mono b _ _ hq f h hh
    · exact hh
  | .block id a,Q1,Q2,hq,f,h,hh=>awp_mono a _ _ (fun e f h he=>by
      cases e with
      | exit id' =>
        simp only [inBlk] at he ⊢
        split
        · rename_i hi;rw [if_pos hi] at he;exact hq _ _ _ he
        · rename_i hi;rw [if_neg hi] at he;exact hq _ _ _ he
      | _=>exact hq _ _ _ he) f h hh
  | .loop a, Q1, Q2, hq, f, h, hh => by
    obtain ⟨n,hn⟩:=hh
    refine ⟨n,?_⟩
    have key:∀ n f h,rnds (awp P a) Q1 n f h→rnds (awp P a) Q2 n f h:=by
      intro n
      induction n with
      | zero=>intro f h hh;exact hh
      | succ n ih =>
        intro f h hh
        refine awp_mono a _ _ (fun e f h he=>?_) f h hh
        cases e with
        | normal=>exact ih f h he
        | _=>exact hq _ _ _ he
    exact key n f h hn
  | .scope a,Q1,Q2,hq,f,h,hh=>awp_mono a _ _ (fun e f h he=>by
      cases e with
      | goto l=>exact he
      | _=>exact hq _ _ _ he) f h hh
  | .exit id,Q1,Q2,hq,f,h,hh=>hq _ _ _ hh
  | .ret,Q1,Q2,hq,f,h,hh=>hq _ _ _ hh
  | .bad,Q1,Q2,hq,f,h,hh=>hh
  | .goto l,Q1,Q2,hq,f,h,hh=>hq _ _ _ hh
  | .jmp l a b, Q1, Q2, hq, f, h, hh => by
    obtain ⟨n,hn⟩:=hh
    have key:∀ n f h,jrn (awp P b) l Q1 n f h→jrn (awp P b) l Q2 n f h:=by
      intro n
      induction n with
      | zero=>intro f h hh;exact hh
      | succ n ih =>
        intro f h hh
        refine awp_mono b _ _ (fun e f h he=>?_) f h hh
        cases e with
        | goto l'=>exact ⟨he.1,ih f h he.2⟩
        | _=>exact hq _ _ _ he
    refine ⟨n,awp_mono a _ _ (fun e f h he=>?_) f h hn⟩
    cases e with
    | goto l'=>exact ⟨he.1,key n f h he.2⟩
    | _=>exact hq _ _ _ he

theorem w_lp {P:Program} {Q:QA} {f:Fr} {h:Hp} {a:AC} (I:Nat→Fr→Hp→Prop) (n:Nat) (h0:I n f h) (hr:∀ n f h,I n f h→awp P a (thenA (fun f h=>∃ m,m < n∧I m f h) Q) f h):awp P (.loop a) Q f h:=w_loop I n h0 hr (awp_mono a)
end Go.Proofs.Ytcffpnlochillaa.Ab
namespace Go.Proofs.Ytcffpnlochillaa.Ab
open Go.RowKit
section
variable {P:Program} {K:Fr→Hp→Prop} {Q:QA} {f:Fr} {h:Hp} {cs:List CO} {d:Option Nat} {kp:Bool} {pr:List Operand} {x y z:Operand} {u v w:Value}
theorem s_b2s {A:Option Addr} {n c:Nat} {l:List Value} {s:List UInt8} (hx:evF f x = .slice A n c) (hr:rowV h 1 (.slice A n c)=some l) (hs:strOf l=some s) (hk:aops P (x::pr) cs K (putF f d (.string ⟨s.toArray⟩)) h):aops P pr (⟨d,none,kp,.f (.b2s x)⟩::cs) K f h:=by
  refine s_f (v:=.string ⟨s.toArray⟩) ?_ hk
  simp only [FOp.run,hx]
  unfold rowV at hr
  cases A with
  | none =>
    simp only at hr ⊢
    split at hr
    · rename_i e
      obtain rfl:=Option.some.inj hr
      simp only [strOf,Option.some.injEq] at hs
      subst hs
      rfl
    · simp at hr
  | some a =>
    simp only [Nat.mul_one] at hr ⊢
    rw [hr]
    simp only [Option.bind_some,hs,Option.map_some]
theorem s_call {g:FuncId} {l:List Operand} (hk:ACalls P g (l.map (evF f)) h fun v h'=>(kp=true→Keeps h h')∧aops P pr cs K (putF f d v) h'):aops P pr (⟨d,none,kp,.e (.cal (.func g) l)⟩::cs) K f h:=by
  refine s_cal (g:=g) (a:=#[]) (b:=#[]) rfl ?_
  simpa using hk
end
end Go.Proofs.Ytcffpnlochillaa.Ab
namespace Go.Proofs.Ytcffpnlochillaa.Ab
open Go.RowKit Go.WideShapes Go.ChangeShapes
open Go.ChangeMaps (open_string shut_string)
inductive D where
  | int (k:IntKind)
  | bool
  | str
  | sl (d:D)
  | st (d:D)
  | nil
  | cons (d e:D)
abbrev D.T:D→Type
  | .int _=>Int
  | .bool=>Bool
  | .str=>ByteArray
  | .sl d=>List d.T
  | .st d=>d.T
  | .nil=>Unit
  | .cons d e=>d.T×e.T
def D.sz:D→Nat
  | .int _ | .bool | .str | .sl _=>1
  | .st d=>d.sz
  | .nil=>0
  | .cons d e=>d.sz+e.sz
def Chunks {α:Type} (p:α→List Value→Prop):List α→List Value→Prop
  | [],r=>r=[]
  | x::l,r=>∃ c t,r=c++t∧p x c∧Chunks p l t
def D.Is (h:Hp):(d:D)→d.T→List Value→Prop
  | .int k,n,us=>us=[.int k n]
  | .bool,b,us=>us=[.bool b]
  | .str,s,us=>us=[.string s]
  | .st d,x,us=>d.Is h x us
  | .nil,_,us=>us=[]
  | .cons d e,x,us=>∃ c r,us=c++r∧d.Is h x.1 c∧e.Is h x.2 r
  | .sl d,l,us=>∃ A c rw,us=[.slice A (List.length l) c]∧List.length l≤c∧rowV h d.sz (.slice A (List.length l) c)=some rw∧Chunks (d.Is h) l rw
def D.good:(d:D)→d.T→Prop
  | .int k,n=>(Lit.int k n).wf=true
  | .bool,_=>True
  | .str,s=>ByteArray.size s≤maxLen
  | .st d,x=>d.good x
  | .nil,_=>True
  | .cons d e,x=>d.good x.1∧e.good x.2
  | .sl d,(l:List d.T)=>List.length l≤140737488351232∧∀ x ∈ l,d.good x
inductive Md where
  | ty (t:TypeId)
  | fs (total off:Nat) (l:List Field)
def D.chk (P:Program):D→Md→Bool
  | .int k, .ty t => match P.underlying t with
    | some (.int k')=>k == k'
    | _=>false
  | .bool, .ty t => match P.underlying t with
    | some .bool=>true
    | _=>false
  | .str, .ty t => match P.underlying t with
    | some .string=>true
    | _=>false
  | .sl d, .ty t => match P.underlying t with
    | some (.slice e)=>d.sz == P.cellsOf e && decide (0 < d.sz∧0 < P.bytesOf e) && d.chk P (.ty e)
    | _=>false
  | .st d, .ty t => match P.underlying t with
    | some (.struct fs)=>d.chk P (.fs (P.cellsOf t) 0 fs.toList)
    | _=>false
  | .nil,.fs total off []=>off == total
  | .cons d e,.fs total off (f::l)=>f.offset == off && d.sz == P.cellsOf f.type && d.chk P (.ty f.type) && e.chk P (.fs total (off+d.sz) l)
  | _,_=>false
def absL (base:Nat):List Value→Option (List Value)
  | []=>some []
  | v :: l => match absV base v, absL base l with
    | some u,some r=>some (u::r)
    | _,_=>none
theorem absL_append {base:Nat}:∀ {a b us vs:List Value},absL base a=some us→absL base b=some vs→absL base (a++b)=some (us++vs)
  | [],b,us,vs,h1,h2=>by simp [absL] at h1;subst h1;simpa using h2
  | v :: a, b, us, vs, h1, h2 => by
    unfold absL at h1
    split at h1
    · rename_i u r hu hr
      obtain rfl:=Option.some.inj h1
      simp [absL,hu,absL_append hr h2]
    · simp at h1
theorem absL_len {base:Nat}:∀ {a us:List Value},absL base a=some us→us.length=a.length
  | [],us,h1=>by simp [absL] at h1;subst h1;rfl
  | v :: a, us, h1 => by
    unfold absL at h1
    split at h1
    · rename_i u r hu hr
      obtain rfl:=Option.some.inj h1
      simp [absL_len hr]
    · simp at h1
theorem absL_get {base:Nat}:∀ {a us:List Value},absL base a=some us→∀ (i:Nat) (v u:Value),a[i]? = some v→us[i]? = some u→absV base v=some u
  | [],us,h1,i,v,u,hv,hu=>by simp at hv
  | w :: a, us, h1, i, v, u, hv, hu => by
    unfold absL at h1
    split at h1
    · rename_i u' r hu' hr
      obtain rfl:=Option.some.inj h1
      cases i with
      | zero=>simp at hv hu;subst hv hu;exact hu'
      | succ i=>exact absL_get hr i v u (by simpa using hv) (by simpa using hu)
    · simp at h1
theorem absL_VRs {R:AR} {a us:List Value} (h:absL R.base a=some us):VRs R us a:=⟨absL_len h,fun i u v hu hv=>absV_VR (absL_get h i v u hv hu)⟩
def R0 (w:World):AR:=⟨w.heap.size,fun _=>none,fun _=>False⟩
theorem Rel0 (w:World):Rel (R0 w) ⟨w,[]⟩ w:=⟨rfl,.refl _ _,fun _ h=>h.elim,fun _ _ _ _ h=>by simp [R0] at h,fun _ _ _ _ h=>by simp [R0] at h⟩

def Op (w:World) (d:D) (cs:List Value):Prop:=∃ (x:d.T) (us:List Value),absL w.heap.size cs=some us∧d.Is ⟨w,[]⟩ x us∧d.good x
theorem D.Is_len {h:Hp}:∀ (d:D) (x:d.T) (us:List Value),d.Is h x us→us.length=d.sz
  | .int k,_,us,hi=>by have e:us=_:=hi;rw [e];rfl
  | .bool,_,us,hi=>by have e:us=_:=hi;rw [e];rfl
  | .str,_,us,hi=>by have e:us=_:=hi;rw [e];rfl
  | .sl d,_,us,hi=>by obtain ⟨A,c,rw,e,_⟩:=hi;rw [e];rfl
  | .st d,x,us,hi=>D.Is_len d x us hi
  | .nil,_,us,hi=>by have e:us=_:=hi;rw [e];rfl
  | .cons d e, x, us, hi => by
    obtain ⟨c,r,q,h1,h2⟩:=hi
    rw [q,List.length_append,D.Is_len d _ _ h1,D.Is_len e _ _ h2]
    rfl
theorem mapM_len {α β:Type} {f:α→Option β}:∀ {l:List α} {r:List β},l.mapM f=some r→r.length=l.length
  | [], r, h => by
    have:r=[]:=by simpa using h
    rw [this]
    rfl
  | a :: l, r, h => by
    rw [List.mapM_cons] at h
    simp only [Option.bind_eq_bind,Option.bind_eq_some_iff,Option.pure_def,Option.some.injEq] at h
    obtain ⟨b,hb,r',hr,rfl⟩:=h
    simp [mapM_len hr]
theorem mapM_get {α β:Type} {f:α→Option β}:∀ {l:List α} {r:List β},l.mapM f=some r→∀ (i:Nat) (a:α),l[i]? = some a→f a=r[i]?
  | [],r,h,i,a,ha=>by simp at ha
  | b :: l, r, h, i, a, ha => by
    rw [List.mapM_cons] at h
    simp only [Option.bind_eq_bind,Option.bind_eq_some_iff,Option.pure_def,Option.some.injEq] at h
    obtain ⟨c,hc,r',hr,rfl⟩:=h
    cases i with
    | zero =>
      have:b=a:=by simpa using ha
      subst this
      simpa using hc
    | succ i=>simpa using mapM_get hr i a (by simpa using ha)
theorem wcells_at {w:World} {a:Addr} {n:Nat} {cs:List Value} (h:w.cells? 0 a n=some cs):cs.length=n∧∀ i u,cs[i]? = some u→w.cell? (a.add i)=some u:=by
  unfold World.cells? at h
  rw [if_pos (Nat.zero_le _)] at h
  have hl:cs.length=n:=by simpa using mapM_len h
  refine ⟨hl,fun i u hu=>?_⟩
  have hi:i < n:=by
    have:=(List.getElem?_eq_some_iff.1 hu).1
    omega
  have:=mapM_get h i i (by simp [hi])
  rw [this,hu]
theorem cells_of_get {h:Hp} {a:Addr}:∀ (l:List Value) (i:Nat),(∀ j u,l[j]? = some u→h.cell? (a.add (i+j))=some u)→h.cellsFrom a i l.length=some l
  | [],i,hh=>rfl
  | v :: l, i, hh => by
    have h1:=hh 0 v rfl
    simp only [Nat.add_zero] at h1
    have h2:=cells_of_get l (i+1) (fun j u hj=>by rw [show i+1+j=i+(j+1) by omega];exact hh (j+1) u (by simpa using hj))
    show h.cellsFrom a i (l.length+1)=_
    simp only [Hp.cellsFrom,h1,h2,Option.map_some]
theorem chunks_mk {α:Type} {p:α→List Value→Prop} {s:Nat}:∀ (n:Nat) (q:Nat→List Value→Prop),(∀ i,i < n→∃ x c,p x c∧c.length=s∧q i c) →
    ∃ (l:List α) (r:List Value),l.length=n∧Chunks p l r∧r.length=n * s∧(∀ i,i < n→∃ c,q i c∧(r.drop (i * s)).take s=c)∧(∀ x ∈ l,∃ i c,i < n∧p x c∧q i c)
  | 0,q,_=>⟨[],[],rfl,rfl,by simp,fun i hi=>absurd hi (by omega),fun x hx=>by cases hx⟩
  | n + 1, q, hh => by
    obtain ⟨x,c,h1,h2,h3⟩:=hh 0 (by omega)
    obtain ⟨l,r,g1,g2,g3,g4,g5⟩:=chunks_mk n (fun i=>q (i+1)) (fun i hi=>hh (i+1) (by omega))
    refine ⟨x::l,c++r,by simp [g1],⟨c,r,rfl,h1,g2⟩,by rw [List.length_append,h2,g3,Nat.succ_mul];omega,fun i hi=>?_,fun y hy=>?_⟩
    · cases i with
      | zero=>exact ⟨c,h3,by rw [Nat.zero_mul,List.drop_zero,← h2,List.take_left'];rfl⟩
      | succ i =>
        obtain ⟨c',k1,k2⟩:=g4 i (by omega)
        refine ⟨c',k1,?_⟩
        rw [Nat.succ_mul,Nat.add_comm,← h2,List.drop_append,h2]
        rw [show s+i * s - s=i * s by omega,List.drop_eq_nil_of_le (by omega),List.nil_append]
        exact k2
    · rcases List.mem_cons.1 hy with rfl | hy
      · exact ⟨0,c,by omega,h1,h3⟩
      · obtain ⟨i,c',k1,k2,k3⟩:=g5 y hy
        exact ⟨i+1,c',by omega,k2,k3⟩
theorem wAll_get {P:Program} {H:Type} {e:TypeId} {p:Nat→Bool}:∀ {l:List (DataW H)},(DataW.weightsAll P e l).all p=true→∀ (i:Nat) (d:DataW H),l[i]? = some d→(d.weights P e).all p=true
  | [],_,i,d,hd=>by simp at hd
  | x :: l, h, i, d, hd => by
    rw [DataW.weightsAll,List.all_append,Bool.and_eq_true] at h
    cases i with
    | zero=>obtain rfl:=Option.some.inj hd;exact h.1
    | succ i=>exact wAll_get h.2 i d (by simpa using hd)
theorem wEach_get {P:Program} {H:Type} {p:Nat→Bool}:∀ {ts:List TypeId} {l:List (DataW H)},(DataW.weightsEach P ts l).all p=true→∀ (i:Nat) (t:TypeId) (d:DataW H),ts[i]? = some t→l[i]? = some d→(d.weights P t).all p=true
  | [],_,_,i,t,d,ht,_=>by simp at ht
  | _::_,[],_,i,t,d,_,hd=>by simp at hd
  | t :: ts, x :: l, h, i, t', d, ht, hd => by
    rw [DataW.weightsEach,List.all_append,Bool.and_eq_true] at h
    cases i with
    | zero=>obtain rfl:=Option.some.inj ht;obtain rfl:=Option.some.inj hd;exact h.1
    | succ i=>exact wEach_get h.2 i t' d (by simpa using ht) (by simpa using hd)
section
variable {P:Program} {H:Type} {enc:TypeId×Value→H} {w:World}
theorem D.opens:∀ (d:D),
    (∀ t,d.chk P (.ty t)=true→∀ (fuel:Nat) (cs:List Value) (x:DataW H×List MemPlace),DataW.trod enc P w 0 (fun _=>true) true fuel t cs=some x→(x.1.weights P t).all (·≤reachBytes)=true→Op w d cs) ∧
    (∀ total off fl,d.chk P (.fs total off fl)=true→∀ (cs:List Value),cs.length=total→(∀ (i:Nat) (f:Field),fl[i]? = some f→∃ n x,DataW.trod enc P w 0 (fun _=>true) true n f.type ((cs.drop f.offset).take (P.cellsOf f.type))=some x∧(x.1.weights P f.type).all (·≤reachBytes)=true)→Op w d (cs.drop off))
  | .int k=>⟨fun t hc fuel cs x hx hw0=>by
      unfold D.chk at hc
      split at hc
      · rename_i k' ht
        obtain rfl:k=k':=by simpa using hc
        obtain ⟨n,rfl,_,hw⟩:=DataW.trod_int ht hx
        exact ⟨n,_,rfl,rfl,hw⟩
      · simp at hc,fun _ _ _ hc=>by simp [D.chk] at hc⟩
  | .bool=>⟨fun t hc fuel cs x hx hw0=>by
      unfold D.chk at hc
      split at hc
      · rename_i ht
        obtain ⟨b,rfl,_⟩:=DataW.trod_bool ht hx
        exact ⟨b,_,rfl,rfl,trivial⟩
      · simp at hc,fun _ _ _ hc=>by simp [D.chk] at hc⟩
  | .str=>⟨fun t hc fuel cs x hx hw0=>by
      unfold D.chk at hc
      split at hc
      · rename_i ht
        obtain ⟨s,rfl,_,hs⟩:=DataW.trod_string ht hx
        exact ⟨s,_,rfl,rfl,hs⟩
      · simp at hc,fun _ _ _ hc=>by simp [D.chk] at hc⟩
  | .sl d=>⟨fun t hc fuel cs x hx hw0=>by
      unfold D.chk at hc
      split at hc
      · rename_i e ht
        simp only [Bool.and_eq_true,beq_iff_eq,decide_eq_true_eq] at hc
        obtain ⟨⟨hz,hp,hpb⟩,hd⟩:=hc
        rcases DataW.trod_slice ht hx with ⟨rfl,_⟩ | ⟨a,len,cap,elems,rest,n,_,rfl,hxe,_,hlc,hcap,hel,hget,_,_⟩
        · exact ⟨([]:List d.T),[.slice none 0 0],rfl,⟨none,0,[],rfl,Nat.le_refl _,rfl,rfl⟩,Nat.zero_le _,fun x hx=>by cases hx⟩
        · rw [hxe,DataW.weights,ht] at hw0
          simp only [List.all_cons,List.all_append,Bool.and_eq_true,decide_eq_true_eq] at hw0
          have hlen:len≤140737488351232:=by
            have h1:=hw0.1
            rw [List.length_map,List.length_map,hel] at h1
            have h2:len≤(len+rest.length) * P.bytesOf e:=Nat.le_trans (Nat.le_add_right _ _) (Nat.le_mul_of_pos_right _ hpb)
            exact Nat.le_trans h2 (Nat.le_trans h1 (by decide))
          have hall:∀ i,i < len→∃ (b:d.T) (c:List Value),(d.Is ⟨w,[]⟩ b c∧d.good b)∧c.length=d.sz∧(∀ j u,c[j]? = some u→Hp.cell? ⟨w,[]⟩ (a.add (i * d.sz+j))=some u∧a.block < w.heap.size):=by
            intro i hi
            have h1:=hget i hi
            rw [List.getElem?_eq_getElem (by omega)] at h1
            obtain ⟨c,hcc,h2⟩:=Option.bind_eq_some_iff.1 h1
            obtain ⟨hcl,hcell⟩:=wcells_at hcc
            obtain ⟨b,us,k1,k2,k3⟩:=(D.opens d).1 e hd n c _ h2 (wAll_get hw0.2.1 i _ (by rw [List.getElem?_map,List.getElem?_eq_getElem (by omega)];rfl))
            refine ⟨b,us,⟨k2,k3⟩,D.Is_len d b us k2,fun j u hu=>?_⟩
            have hj:j < c.length:=by rw [← absL_len k1];exact (List.getElem?_eq_some_iff.1 hu).1
            have hcj:=hcell j c[j] (by simp [hj])
            rw [Deep.add_add] at hcj
            have hab:(a.add (i * P.cellsOf e+j)).block=a.block:=by unfold Addr.add;split <;> rfl
            have hlt:a.block < w.heap.size:=by
              have:=hcj
              unfold World.cell? at this
              rw [hab] at this
              cases hh:w.heap[a.block]? with
              | none=>simp [hh] at this
              | some o=>exact (Array.getElem?_eq_some_iff.1 hh).1
            refine ⟨?_,hlt⟩
            unfold Hp.cell?
            rw [hz,if_pos (by rw [hab];exact hlt),hcj]
            exact absL_get k1 j c[j] u (by simp [hj]) hu
          obtain ⟨l,r,g1,g2,g3,g4,g5⟩:=chunks_mk (p:=fun b c=>d.Is ⟨w,[]⟩ b c∧d.good b) len (fun i c=>∀ j u,c[j]? = some u→Hp.cell? ⟨w,[]⟩ (a.add (i * d.sz+j))=some u∧a.block < w.heap.size) hall
          have hch:∀ (l:List d.T) (r:List Value),Chunks (fun b c=>d.Is ⟨w,[]⟩ b c∧d.good b) l r→Chunks (d.Is ⟨w,[]⟩) l r:=by
            intro l
            induction l with
            | nil=>intro r h;exact h
            | cons x l ih=>intro r ⟨c,t,h1,h2,h3⟩;exact ⟨c,t,h1,h2.1,ih t h3⟩
          have hgood:List.length l≤140737488351232∧∀ x ∈ l,d.good x:=⟨by rw [g1];exact hlen,fun x hx=>by obtain ⟨i,c,_,h2,_⟩:=g5 x hx;exact h2.2⟩
          by_cases hlt:a.block < w.heap.size
          · refine ⟨l,[.slice (some a) len cap],by simp [absL,absV,hlt],⟨some a,cap,r,by rw [g1],by rw [g1];exact hlc,?_,hch l r g2⟩,hgood⟩
            show Hp.cells? _ a _=some r
            unfold Hp.cells?
            rw [g1,← g3]
            refine cells_of_get r 0 (fun j u hj=>?_)
            have hjl:=(List.getElem?_eq_some_iff.1 hj).1
            rw [Nat.zero_add]
            have hdm:j=j / d.sz * d.sz+j % d.sz:=by rw [Nat.mul_comm];exact (Nat.div_add_mod j d.sz).symm
            have hq:j / d.sz < len:=by rw [Nat.div_lt_iff_lt_mul hp];omega
            obtain ⟨c,k1,k2⟩:=g4 (j / d.sz) hq
            rw [hdm]
            refine (k1 (j % d.sz) u ?_).1
            rw [← k2,List.getElem?_take,if_pos (Nat.mod_lt _ hp),List.getElem?_drop,← hdm]
            exact hj
          · have h0:len=0:=by
              rcases Nat.eq_zero_or_pos len with e0 | e0
              · exact e0
              · exfalso
                obtain ⟨b,c,h1,h2,h3⟩:=hall 0 e0
                exact hlt (h3 0 (c[0]'(by omega)) (by simp [show 0 < c.length by omega])).2
            subst h0
            have hl0:l=[]:=List.eq_nil_of_length_eq_zero g1
            subst hl0
            exact ⟨([]:List d.T),[.slice (some ⟨a.block,0,some 0⟩) 0 1],by simp [absL,absV,hlt],⟨_,_,[],rfl,Nat.zero_le _,by show Hp.cells? _ _ _=_;simp [Hp.cells?,Hp.cellsFrom],rfl⟩,hgood⟩
      · simp at hc,fun _ _ _ hc=>by simp [D.chk] at hc⟩
  | .st d=>⟨fun t hc fuel cs x hx hw0=>by
      unfold D.chk at hc
      split at hc
      · rename_i fs ht
        obtain ⟨xs,n,_,hxe,hlen,hsz,hf⟩:=DataW.trod_struct ht hx
        rw [hxe,DataW.weights,ht] at hw0
        have:=(D.opens d).2 _ 0 fs.toList hc cs hlen (fun i f hi=>by
          have h1:=hf i f (by simpa using hi)
          have h2:i < xs.length:=by
            rw [hsz]
            have:=(List.getElem?_eq_some_iff.1 hi).1
            simpa using this
          exact ⟨_,_,h1.trans (List.getElem?_eq_getElem h2),wEach_get hw0 i _ _ (by rw [List.getElem?_map,hi];rfl) (by rw [List.getElem?_map,List.getElem?_eq_getElem h2];rfl)⟩)
        rw [List.drop_zero] at this
        exact this
      · simp at hc,fun _ _ _ hc=>by simp [D.chk] at hc⟩
  | .nil=>⟨fun _ hc=>by simp [D.chk] at hc,fun total off fl hc cs hl hf=>by
      cases fl with
      | cons _ _=>simp [D.chk] at hc
      | nil =>
        have:off=total:=by simpa [D.chk] using hc
        exact ⟨(),[],by rw [List.drop_eq_nil_of_le (by omega)];rfl,rfl,trivial⟩⟩
  | .cons d e=>⟨fun _ hc=>by simp [D.chk] at hc,fun total off fl hc cs hl hf=>by
      cases fl with
      | nil=>simp [D.chk] at hc
      | cons f fl =>
        simp only [D.chk,Bool.and_eq_true,beq_iff_eq] at hc
        obtain ⟨⟨⟨h1,h2⟩,h3⟩,h4⟩:=hc
        obtain ⟨n,x,hx,hwx⟩:=hf 0 f rfl
        obtain ⟨a,us,k1,k2,k3⟩:=(D.opens d).1 _ h3 n _ x hx hwx
        obtain ⟨b,vs,m1,m2,m3⟩:=(D.opens e).2 total (off+d.sz) fl h4 cs hl (fun i g hg=>hf (i+1) g hg)
        refine ⟨(a,b),us++vs,?_,⟨us,vs,rfl,k2,m2⟩,k3,m3⟩
        have:=absL_append k1 m1
        rw [h1,← h2,← List.drop_drop,List.take_append_drop] at this
        exact this⟩
end
def D.V (h:Hp):(d:D)→d.T→Value→Prop
  | .st d,x,u=>∃ us:List Value,u = .agg us.toArray∧d.Is h x us
  | .int k,x,u=>D.Is h (.int k) x [u]
  | .bool,x,u=>D.Is h .bool x [u]
  | .str,x,u=>D.Is h .str x [u]
  | .sl d,x,u=>D.Is h (.sl d) x [u]
  | .nil,x,u=>False
  | .cons d e,x,u=>False
theorem arg {P:Program} {H:Type} {enc:TypeId×Value→H} {w:World} {base:Nat} {r:Reach} {t:TypeId} {v:Value} {x:DataW H} {p:List MemPlace} (d:D) (hc:d.chk P (.ty t)=true) (hv:Value.okWide P w r base t v) (h:DataW.Trod enc P w 0 (fun _=>true) true t v x p) (hz:(x.weights P t).all (·≤reachBytes)=true) :
    ∃ (y:d.T) (u:Value),d.V ⟨w,[]⟩ y u∧d.good y∧VR (R0 w) u v:=by
  have h':=h
  obtain ⟨fuel,hf⟩:=h
  obtain ⟨y,us,k1,k2,k3⟩:=(D.opens d).1 t hc fuel _ _ hf hz
  have one:∀ v:Value,v.cells.toList=[v]→absL w.heap.size v.cells.toList=some us→∃ u,us=[u]∧VR (R0 w) u v:=by
    intro v hv hk
    rw [hv] at hk
    unfold absL at hk
    split at hk
    · rename_i u r hu hr
      have hr':r=[]:=by simpa [absL] using hr.symm
      subst hr'
      exact ⟨u,(Option.some.inj hk).symm,absV_VR hu⟩
    · simp at hk
  cases d with
  | int k =>
    unfold D.chk at hc
    split at hc
    · rename_i k' ht
      obtain ⟨n,rfl,_⟩:=open_int ht hv h'
      obtain ⟨u,rfl,hu⟩:=one _ rfl k1
      exact ⟨y,u,k2,k3,hu⟩
    · simp at hc
  | bool =>
    unfold D.chk at hc
    split at hc
    · rename_i ht
      obtain ⟨n,rfl,_⟩:=open_bool ht hv h'
      obtain ⟨u,rfl,hu⟩:=one _ rfl k1
      exact ⟨y,u,k2,k3,hu⟩
    · simp at hc
  | str =>
    unfold D.chk at hc
    split at hc
    · rename_i ht
      obtain ⟨n,rfl,_⟩:=open_string ht hv h'
      obtain ⟨u,rfl,hu⟩:=one _ rfl k1
      exact ⟨y,u,k2,k3,hu⟩
    · simp at hc
  | sl d =>
    unfold D.chk at hc
    split at hc
    · rename_i e ht
      obtain ⟨a,len,cap,rfl⟩:=okWide_slice ht hv
      obtain ⟨u,rfl,hu⟩:=one _ rfl k1
      exact ⟨y,u,k2,k3,hu⟩
    · simp at hc
  | st d =>
    unfold D.chk at hc
    split at hc
    · rename_i fs ht
      obtain ⟨cs,rfl,_⟩:=okWide_struct ht hv
      refine ⟨y,.agg us.toArray,⟨us,rfl,k2⟩,k3,?_⟩
      have:=absL_VRs (R:=R0 w) k1
      exact .agg _ _ (by simpa [Value.cells] using this.1) (fun i a b ha hb=>this.2 i a b (by simpa using ha) (by simpa [Value.cells] using hb))
    · simp at hc
  | nil=>simp [D.chk] at hc
  | cons d e=>simp [D.chk] at hc

theorem law_of {P:Program} {g:FuncId} {us vs:List Value} {w:World} (hc:ACalls P g us ⟨w,[]⟩ fun v _=>v = .bool true) (hv:VRs (R0 w) us vs):Calls P g vs.toArray w fun e w'=>e = .returned (.bool true)∧Below w.heap.size w w':=by
  refine (hc.2 (R0 w) w vs (Rel0 w) hv).mono fun e w' ⟨v,v',h',R',k,he,hv',hs⟩=>?_
  subst k
  cases hv'
  refine ⟨he,?_⟩
  have:=hs.rel.below
  rw [hs.old] at this
  exact this

def D.flat:D→Bool
  | .sl _=>false
  | .st d=>d.flat
  | .cons d e=>d.flat && e.flat
  | _=>true
def D.enc:(d:D)→d.T→List Value
  | .int k,n=>[.int k n]
  | .bool,b=>[.bool b]
  | .str,s=>[.string s]
  | .sl _,_=>[]
  | .st d,x=>d.enc x
  | .nil,_=>[]
  | .cons d e,x=>d.enc x.1++e.enc x.2
theorem D.Is_flat {h:Hp}:∀ (d:D) (x:d.T) (us:List Value),d.flat=true→d.Is h x us→us=d.enc x
  | .int _,_,_,_,h=>h
  | .bool,_,_,_,h=>h
  | .str,_,_,_,h=>h
  | .sl _,_,_,hf,_=>by simp [D.flat] at hf
  | .st d,x,us,hf,h=>D.Is_flat d x us hf h
  | .nil,_,_,_,h=>h
  | .cons d e, x, us, hf, h => by
    obtain ⟨c,r,q,h1,h2⟩:=h
    simp only [D.flat,Bool.and_eq_true] at hf
    rw [q,D.Is_flat d _ _ hf.1 h1,D.Is_flat e _ _ hf.2 h2]
    rfl
theorem Chunks_flat {h:Hp} {d:D} (hf:d.flat=true):∀ (l:List d.T) (r:List Value),Chunks (d.Is h) l r→r=l.flatMap d.enc
  | [],r,hr=>hr
  | x::l,r,⟨c,t,e,h1,h2⟩=>by rw [e,D.Is_flat d x c hf h1,Chunks_flat hf l t h2];rfl
end Go.Proofs.Ytcffpnlochillaa.Ab
namespace Go.Proofs.Ytcffpnlochillaa.Ab
open Go.RowKit
end Go.Proofs.Ytcffpnlochillaa.Ab
namespace Go.Proofs.Ytcffpnlochillaa.Num
open Go.RowKit
def beNum (l:List Int):Int:=l.foldl (fun v b=>v * 256+b) 0
def ord (big:Bool) (l:List Int):List Int:=if big=true then l else l.reverse
def num (big:Bool) (l:List Int):Int:=beNum (ord big l)
def dig (v:Int) (i:Nat):Int:=v / 256 ^ i % 256
def le (n:Nat) (v:Int):List Int:=(List.range n).map (dig v)
def enc (n:Nat) (big:Bool) (v:Int):List Int:=if big=true then (le n v).reverse else le n v
def B (l:List Int):Prop:=∀ x ∈ l,0≤x∧x≤255
theorem le_length (n:Nat) (v:Int):(le n v).length=n:=by simp [le]
theorem enc_length (n:Nat) (big:Bool) (v:Int):(enc n big v).length=n:=by
  unfold enc
  split <;> simp [le_length]
theorem dig_range (v:Int) (i:Nat):0≤dig v i∧dig v i≤255:=by
  unfold dig
  omega
theorem le_B (n:Nat) (v:Int):B (le n v):=by
  intro x hx
  obtain ⟨i,_,rfl⟩:=List.mem_map.1 hx
  exact dig_range v i
theorem enc_B (n:Nat) (big:Bool) (v:Int):B (enc n big v):=by
  intro x hx
  unfold enc at hx
  split at hx
  · exact le_B n v x (List.mem_reverse.1 hx)
  · exact le_B n v x hx
theorem le_succ (n:Nat) (v:Int):le (n+1) v=le n v++[dig v n]:=by simp [le,List.range_succ]
theorem beNum_snoc (l:List Int) (b:Int):beNum (l++[b])=beNum l * 256+b:=by simp [beNum]
theorem foldl_shift (l:List Int):∀ a:Int,l.foldl (fun v b=>v * 256+b) a=a * 256 ^ l.length+beNum l:=by
  induction l with
  | nil=>intro a;simp [beNum]
  | cons x l ih =>
    intro a
    have h1:beNum (x::l)=x * 256 ^ l.length+beNum l:=by
      show l.foldl (fun v b=>v * 256+b) (0 * 256+x)=_
      rw [ih]
      simp
    rw [List.foldl_cons,ih,h1,List.length_cons,Int.pow_succ,Int.add_mul]
    rw [show a * 256 * 256 ^ l.length=a * (256 ^ l.length * 256) by rw [Int.mul_assoc,Int.mul_comm 256 _]]
    omega
theorem beNum_cons (x:Int) (l:List Int):beNum (x::l)=x * 256 ^ l.length+beNum l:=by
  have:=foldl_shift l (0 * 256+x)
  simpa [beNum] using this
theorem pow_pos (n:Nat):(0:Int) < 256 ^ n:=Int.pow_pos (by decide)
theorem mod_step (v m:Int) (hm:0 < m):v % (m * 256)=(v / m % 256) * m+v % m:=by
  rw [Int.emod_def v (m * 256),Int.emod_def v m,Int.emod_def (v / m) 256,← Int.ediv_ediv_of_nonneg (show (0:Int)≤m by omega)]
  generalize v / m=q
  generalize q / 256=p
  rw [Int.sub_mul,show m * 256 * p=256 * p * m by rw [Int.mul_comm m 256,Int.mul_assoc,Int.mul_comm m p,Int.mul_assoc],Int.mul_comm q m]
  omega
theorem beNum_le (v:Int) (n:Nat):beNum (le n v).reverse=v % 256 ^ n:=by
  induction n with
  | zero=>simp [le,beNum,Int.emod_one]
  | succ n ih =>
    rw [le_succ,List.reverse_append,List.reverse_singleton,List.singleton_append,beNum_cons,ih,List.length_reverse,le_length,Int.pow_succ,mod_step v _ (pow_pos n)]
    rfl

theorem num_enc (n:Nat) (big:Bool) (v:Int):num big (enc n big v)=v % 256 ^ n:=by
  unfold num enc ord
  cases big
  · simpa using beNum_le v n
  · simpa using beNum_le v n
theorem beNum_range {l:List Int} (h:B l):0≤beNum l∧beNum l < 256 ^ l.length:=by
  induction l with
  | nil=>simp [beNum]
  | cons x l ih =>
    have hx:=h x List.mem_cons_self
    have hl:=ih (fun y hy=>h y (List.mem_cons_of_mem _ hy))
    rw [beNum_cons,List.length_cons,Int.pow_succ]
    have hp:=pow_pos l.length
    generalize (256:Int) ^ l.length=m at *
    have h1:x * m≤255 * m:=Int.mul_le_mul_of_nonneg_right hx.2 (by omega)
    have h2:0≤x * m:=Int.mul_nonneg hx.1 (by omega)
    omega
theorem ord_B {big:Bool} {l:List Int} (h:B l):B (ord big l):=by
  intro x hx
  unfold ord at hx
  split at hx
  · exact h x hx
  · exact h x (List.mem_reverse.1 hx)
theorem ord_length (big:Bool) (l:List Int):(ord big l).length=l.length:=by
  unfold ord
  split <;> simp
theorem num_range {big:Bool} {l:List Int} (h:B l):0≤num big l∧num big l < 256 ^ l.length:=by
  have:=beNum_range (ord_B (big:=big) h)
  rwa [ord_length] at this
theorem or_byte {x b:Int} (h0:0≤x) (h1:x < 72057594037927936) (hb0:0≤b) (hb1:b≤255):Go.bits .or .u64 (x * 256) b=x * 256+b:=by
  have e64:(2:Int) ^ 64=18446744073709551616:=by decide
  have e8:(2:Int) ^ 8=256:=by decide
  have hw:∀ n:Int,0≤n→n < 2 ^ 64→IntKind.u64.wrap n=n:=by
    intro n h0 h1
    rw [e64] at h1
    exact IntWalk.u64_in n ⟨h0,by omega⟩
  refine bits_join .u64 64 (Nat.le_refl _) hw 8 (x * 256) b ?_ ?_ ?_ hb0 ?_ ?_
  · omega
  · rw [e8];omega
  · rw [e64];omega
  · rw [e8];omega
  · rw [e64];omega
end Go.Proofs.Ytcffpnlochillaa.Num
namespace Go.Proofs.Ytcffpnlochillaa.AbP
open Go.RowKit Go.Proofs.Ytcffpnlochillaa.Num Go.Proofs.Ytcffpnlochillaa.Ab
def U64 (x:Int):Prop:=0≤x∧x≤18446744073709551615
theorem uw {x:Int} (h0:0≤x) (h1:x≤18446744073709551615):IntKind.u64.wrap x=x:=IntWalk.u64_in x ⟨h0,h1⟩
def wideB (n:Int):Bool:=decide (n=1) || decide (n=2) || decide (n=4) || decide (n=8)
theorem wide_cases {n:Int} (h:wideB n=true):n=1∨n=2∨n=4∨n=8:=by
  unfold wideB at h
  simp at h
  omega
def putSpec (v n:Int) (big:Bool):List Int:=if wideB n=true then enc n.toNat big v else []
theorem pow_mono {i j:Nat} (h:i≤j):(256:Int) ^ i≤256 ^ j:=by
  induction h with
  | refl=>exact Int.le_refl _
  | step h ih =>
    rw [Int.pow_succ]
    have:=pow_pos i
    omega
def fitsB (v n:Int):Bool:=wideB n && decide (v < 256 ^ n.toNat)
theorem div_zero {v:Int} (hv:0≤v) (m:Int) (hm:0 < m):(v / m=0) ↔ v < m:=by
  constructor
  · intro h
    have:=Int.emod_lt_of_pos v hm
    have e:=Int.mul_ediv_add_emod v m
    rw [h] at e
    omega
  · intro h
    exact Int.ediv_eq_zero_of_lt hv h
def withinB (a n size:Int):Bool:=decide (a≤size) && decide (n≤size - a)
def getSpec (l:List Int) (a n:Int) (big:Bool):Int×Bool:=if wideB n=true∧a+n≤l.length then (num big ((l.drop a.toNat).take n.toNat),true) else (0,false)
def seg (l:List Int) (a n:Nat):List Int:=(l.drop a).take n
theorem seg_length {l:List Int} {a n:Nat} (h:a+n≤l.length):(seg l a n).length=n:=by
  unfold seg
  rw [List.length_take,List.length_drop]
  omega
theorem seg_get {l:List Int} {a n j:Nat} (hj:j < n):(seg l a n).getD j 0=l.getD (a+j) 0:=by
  unfold seg
  rw [List.getD_eq_getElem?_getD,List.getD_eq_getElem?_getD,List.getElem?_take,if_pos hj,List.getElem?_drop]
theorem ord_get {l:List Int} {a n:Nat} (h:a+n≤l.length) (big:Bool) {i:Nat} (hi:i < n):(ord big (seg l a n)).getD i 0=l.getD (if big=true then a+i else a+(n - 1 - i)) 0:=by
  unfold ord
  cases big with
  | true=>simp only [if_true];exact seg_get hi
  | false =>
    simp only [Bool.false_eq_true,if_false]
    have hl:=seg_length h
    rw [List.getD_eq_getElem?_getD,List.getElem?_reverse (by omega),hl,← List.getD_eq_getElem?_getD,seg_get (by omega)]
theorem B_get {l:List Int} (h:B l) (i:Nat):0≤l.getD i 0∧l.getD i 0≤255:=by
  rw [List.getD_eq_getElem?_getD]
  cases e:l[i]? with
  | none=>simp
  | some x=>simpa using h x (List.mem_of_getElem? e)
theorem seg_B {l:List Int} (h:B l) (a n:Nat):B (seg l a n):=fun x hx=>h x (List.mem_of_mem_drop (List.mem_of_mem_take hx))
theorem take_snoc {o:List Int} {i:Nat} (h:i < o.length):o.take (i+1)=o.take i++[o.getD i 0]:=by
  rw [List.take_add_one,List.getD_eq_getElem?_getD,List.getElem?_eq_getElem h]
  rfl
theorem part_range {o:List Int} (h:B o) {i:Nat} (hi:i≤7):0≤beNum (o.take i)∧beNum (o.take i) < 72057594037927936:=by
  have hr:=beNum_range (l:=o.take i) (fun x hx=>h x (List.mem_of_mem_take hx))
  refine ⟨hr.1,Int.lt_of_lt_of_le hr.2 ?_⟩
  have:(o.take i).length≤7:=by rw [List.length_take];omega
  have h2:(256:Int) ^ (o.take i).length≤256 ^ 7:=pow_mono this
  have:(256:Int) ^ 7=72057594037927936:=by decide
  omega

def byV (l:List Int):List Value:=l.map fun x=>.int .u8 x
theorem byV_len (l:List Int):(byV l).length=l.length:=by simp [byV]
theorem byV_get {l:List Int} {i:Nat} (h:i < l.length):(byV l)[i]? = some (.int .u8 (l.getD i 0)):=by
  unfold byV
  rw [List.getElem?_map,List.getElem?_eq_getElem h,List.getD_eq_getElem?_getD,List.getElem?_eq_getElem h]
  rfl
theorem iw {x:Int} (h0 : -9223372036854775808≤x) (h1:x≤9223372036854775807):IntKind.i64.wrap x=x:=IntWalk.i64_in x ⟨h0,h1⟩
theorem w8 {x:Int} (h0:0≤x) (h1:x≤255):IntKind.u8.wrap x=x:=IntWalk.u8_in x ⟨h0,h1⟩
theorem w16 {x:Int} (h0:0≤x) (h1:x≤65535):IntKind.u16.wrap x=x:=IntWalk.u16_in x ⟨h0,h1⟩
theorem w32 {x:Int} (h0:0≤x) (h1:x≤4294967295):IntKind.u32.wrap x=x:=IntWalk.u32_in x ⟨h0,h1⟩
theorem dlt {x y:Int} (h:x < y):decide (x < y)=true:=decide_eq_true h
theorem dltF {x y:Int} (h:¬ x < y):decide (x < y)=false:=decide_eq_false h
theorem dle {x y:Int} (h:x≤y):decide (x≤y)=true:=decide_eq_true h
theorem dleF {x y:Int} (h:¬ x≤y):decide (x≤y)=false:=decide_eq_false h
theorem deq {x y:Int} (h:x=y):decide (x=y)=true:=decide_eq_true h
theorem deqF {x y:Int} (h:¬ x=y):decide (x=y)=false:=decide_eq_false h
theorem dne {x y:Int} (h:¬ x=y):decide (¬ x=y)=true:=decide_eq_true h
theorem dneF {x y:Int} (h:x=y):decide (¬ x=y)=false:=decide_eq_false (fun k=>k h)
section
variable {P:Program} {K:Fr→Hp→Prop} {Q:QA} {f:Fr} {h:Hp} {cs:List CO} {d:Option Nat} {kp kq:Bool} {pr:List Operand}
theorem rowV_spot {h:Hp} {es:Nat} {a:Addr} {n c:Nat} {l:List Value} (hr:rowV h es (.slice (some a) n c)=some l) (hl:0 < l.length):a.spot=none:=by
  have:=rowV_cell hr (j:=0) (v:=l[0]) (by simp [hl])
  rw [show a.add 0=a from rfl] at this
  unfold Hp.cell? at this
  cases hs:a.spot with
  | none=>rfl
  | some x =>
    simp only [hs,Option.isSome_some,if_true] at this
    split at this
    · obtain ⟨u,hu,_⟩:=Option.bind_eq_some_iff.1 this
      unfold World.cell? at hu
      split at hu
      · simp [hs] at hu
      · simp at hu
    · simp at this

end
theorem b_shl8 {k:IntKind} {x:Int} (h0:0≤x) (h1:x < 72057594037927936):abin .shl (.int .u64 x) (.int k 8)=some (.int .u64 (x * 256)):=by
  rw [b_shl _ _ _ _ (by omega)]
  show some (Value.int .u64 (IntKind.u64.wrap (x * 256)))=_
  rw [uw (by omega) (by omega)]
theorem b_or8 {x b:Int} (h0:0≤x) (h1:x < 72057594037927936) (hb0:0≤b) (hb1:b≤255):abin .or (.int .u64 (x * 256)) (.int .u64 b)=some (.int .u64 (x * 256+b)):=by
  rw [b_or]
  exact congrArg (fun z=>some (Value.int .u64 z)) (or_byte h0 h1 hb0 hb1)
theorem add_b (b o i:Nat):Addr.add ⟨b,o,none⟩ i=⟨b,o+i,none⟩:=by
  unfold Addr.add
  split
  · rename_i h;rw [h];rfl
  · rfl
section
variable {P:Program} {K:Fr→Hp→Prop} {f:Fr} {h:Hp} {cs:List CO} {d:Option Nat} {kp:Bool} {pr:List Operand}
end
theorem wide_nat {n:Int} (h:wideB n=true):∃ m:Nat,n=(m:Int)∧1≤m∧m≤8:=by
  rcases wide_cases h with rfl | rfl | rfl | rfl
  · exact ⟨1,rfl,by omega,by omega⟩
  · exact ⟨2,rfl,by omega,by omega⟩
  · exact ⟨4,rfl,by omega,by omega⟩
  · exact ⟨8,rfl,by omega,by omega⟩
theorem putSpec_len (v n:Int) (big:Bool):(putSpec v n big).length=if wideB n=true then n.toNat else 0:=by
  unfold putSpec
  split
  · rw [enc_length]
  · rfl
theorem putSpec_le (v n:Int) (big:Bool):(putSpec v n big).length≤8:=by
  rw [putSpec_len]
  split
  · rename_i h
    rcases wide_cases h with rfl | rfl | rfl | rfl <;> decide
  · omega
theorem putSpec_B (v n:Int) (big:Bool):B (putSpec v n big):=by
  unfold putSpec
  split
  · exact enc_B _ _ _
  · intro x hx;cases hx
end Go.Proofs.Ytcffpnlochillaa.AbP
namespace Go.Proofs.Ytcffpnlochillaa.Pv
open Go.RowKit Go.Proofs.Ytcffpnlochillaa.Ab
inductive PV where
  | und
  | int (k:IntKind) (n:Int)
  | bool (b:Bool)
  | str (s:ByteArray)
  | agg (l:List PV)
  | tup (l:List PV)
  | nilI
  | nilF
  | nilP
  | nilS
  | ifc (t:TypeId) (v:PV)
  | fn (g:FuncId) (a b:List PV)
  | ptr (b o:Nat)
  | osl (b n:Nat)
  | osb (b n lo m:Nat)
  | oel (b n i o:Nat)
  | sl (d:D) (l:List d.T)
  | elt (d:D) (l:List d.T) (i o:Nat)
  | ref (l:List PV) (o:Nat)

inductive OB where
  | dead
  | var (l:List PV)
  | row (es n:Nat) (l:List PV)
  | arr (d:D) (l:List d.T)
def OB.sig:OB→Option (Nat×Nat)
  | .dead=>none
  | .var _=>none
  | .row es n _=>some (es,n)
  | .arr d l=>some (d.sz,l.length)
def OB.isV:OB→Bool
  | .var _=>true
  | _=>false
def OB.live:OB→Bool
  | .dead=>false
  | _=>true
structure Cx where
  m:Hp
  i:Nat→Option Nat
  s:List OB
def lvV (X:Cx) (b:Nat):Prop:=∃ o,X.s[b]? = some o∧o.isV=true
def lvS (X:Cx) (b es n:Nat):Prop:=∃ o,X.s[b]? = some o∧o.sig=some (es,n)
def slV:Option Nat→Nat→Nat→Value
  | none,_,_=>.slice none 0 0
  | some k,n,c=>.slice (some ⟨k,0,none⟩) n c
inductive PR (X:Cx):PV→Value→Prop where
  | und (v:Value):PR X .und v
  | int (k:IntKind) (n:Int):PR X (.int k n) (.int k n)
  | bool (b:Bool):PR X (.bool b) (.bool b)
  | str (s:ByteArray):PR X (.str s) (.string s)
  | agg (l:List PV) (a:List Value) (hl:l.length=a.length) (h:∀ (j:Nat) p v,l[j]? = some p→a[j]? = some v→PR X p v):PR X (.agg l) (.agg a.toArray)
  | tup (l:List PV) (a:List Value) (hl:l.length=a.length) (h:∀ (j:Nat) p v,l[j]? = some p→a[j]? = some v→PR X p v):PR X (.tup l) (.tuple a.toArray)
  | nilI:PR X .nilI .nilIface
  | nilF:PR X .nilF .nilFunc
  | nilP:PR X .nilP (.pointer none)
  | nilS:PR X .nilS (.slice none 0 0)
  | ifc (t:TypeId) (p:PV) (v:Value) (h:PR X p v):PR X (.ifc t p) (.iface t v)
  | fn (g:FuncId) (a b:List PV) (a' b':List Value) (ha:a.length=a'.length) (hb:b.length=b'.length) (ka:∀ (j:Nat) p v,a[j]? = some p→a'[j]? = some v→PR X p v) (kb:∀ (j:Nat) p v,b[j]? = some p→b'[j]? = some v→PR X p v):PR X (.fn g a b) (.func (.func g) a'.toArray b'.toArray)
  | ptr (b o:Nat) (v:Value) (hv:∃ a,v = .pointer (some a)) (hb:b < X.s.length) (h:lvV X b→∃ k,X.i b=some k∧v = .pointer (some ⟨k,o,none⟩)):PR X (.ptr b o) v
  | osl (b n:Nat) (v:Value) (hv:∃ A n c,v = .slice A n c) (hb:b < X.s.length) (h:∀ es n',lvS X b es n'→n < n'∨(n=n'∧∃ c,(c=n∨c=n+1)∧v=slV (X.i b) n c)):PR X (.osl b n) v
  | osb (b n lo m:Nat) (v:Value) (hv:∃ A n c,v = .slice A n c) (hb:b < X.s.length) (h:∀ es n',lvS X b es n'→n < n'∨(n=n'∧lo+m≤n∧∃ A c,m≤c∧v = .slice A m c∧(m=0∨∃ k,X.i b=some k∧A=some ⟨k,lo * es,none⟩))):PR X (.osb b n lo m) v
  | oel (b n i o:Nat) (v:Value) (hv:∃ a,v = .pointer (some a)) (hb:b < X.s.length) (h:∀ es n',lvS X b es n'→n < n'∨(n=n'∧i < n∧∃ k,X.i b=some k∧v = .pointer (some ⟨k,i * es+o,none⟩))):PR X (.oel b n i o) v
  | sl (d:D) (l:List d.T) (v:Value) (h:(D.sl d).Is X.m l [v]):PR X (.sl d l) v
  | elt (d:D) (l:List d.T) (i o:Nat) (a:Addr) (n c:Nat) (rw:List Value) (hi:i < l.length) (hd:0 < d.sz) (hr:rowV X.m d.sz (.slice (some a) n c)=some rw) (hc:Chunks (d.Is X.m) l rw):PR X (.elt d l i o) (.pointer (some (a.add (i * d.sz+o))))
  | ref (l:List PV) (o:Nat) (a:Addr) (cs:List Value) (hs:a.spot=none) (hl:l.length=cs.length) (hc:X.m.cells? a l.length=some cs) (h:∀ (j:Nat) p v,l[j]? = some p→cs[j]? = some v→PR X p v):PR X (.ref l o) (.pointer (some (a.add o)))

def PRs (X:Cx) (l:List PV) (us:List Value):Prop:=l.length=us.length∧∀ (j:Nat) p v,l[j]? = some p→us[j]? = some v→PR X p v
theorem PRs.nil (X:Cx):PRs X [] []:=⟨rfl,fun j p v h=>by simp at h⟩
theorem PRs.cons {X:Cx} {p:PV} {v:Value} {l:List PV} {us:List Value} (h:PR X p v) (k:PRs X l us):PRs X (p::l) (v::us) :=
  ⟨by simp [k.1],fun j q u hq hu=>by
    cases j with
    | zero=>simp at hq hu;subst hq hu;exact h
    | succ j=>exact k.2 j q u (by simpa using hq) (by simpa using hu)⟩
theorem PRs.uncons {X:Cx} {p:PV} {l:List PV} {us:List Value} (h:PRs X (p::l) us):∃ v t,us=v::t∧PR X p v∧PRs X l t:=by
  cases us with
  | nil=>simp [PRs] at h
  | cons v t=>exact ⟨v,t,rfl,h.2 0 p v rfl rfl,by have:=h.1;simpa using this,fun j q u hq hu=>h.2 (j+1) q u (by simpa using hq) (by simpa using hu)⟩
theorem PRs.append {X:Cx}:∀ {a b:List PV} {us vs:List Value},PRs X a us→PRs X b vs→PRs X (a++b) (us++vs)
  | [], b, us, vs, h, k => by
    have:us=[]:=List.eq_nil_of_length_eq_zero h.1.symm
    subst this;exact k
  | p :: a, b, us, vs, h, k => by
    obtain ⟨v,t,rfl,h1,h2⟩:=h.uncons
    exact .cons h1 (h2.append k)
theorem PRs.get {X:Cx} {l:List PV} {us:List Value} (h:PRs X l us) {j:Nat} {p:PV} (hp:l[j]? = some p):∃ v,us[j]? = some v∧PR X p v:=by
  have hlt:j < us.length:=by rw [← h.1];exact (List.getElem?_eq_some_iff.1 hp).1
  exact ⟨us[j],by simp [hlt],h.2 j p _ hp (by simp [hlt])⟩
theorem PRs.map {X:Cx} {α:Type} {f:α→PV} {g:α→Value} {l:List α} (h:∀ x ∈ l,PR X (f x) (g x)):PRs X (l.map f) (l.map g) :=
  ⟨by simp,fun j p v hp hv=>by
    simp only [List.getElem?_map,Option.map_eq_some_iff] at hp hv
    obtain ⟨x,hx,rfl⟩:=hp
    obtain ⟨y,hy,rfl⟩:=hv
    rw [hx] at hy
    obtain rfl:=Option.some.inj hy
    exact h x (List.mem_of_getElem? hx)⟩
theorem PRs.take {X:Cx} {l:List PV} {us:List Value} (h:PRs X l us) (n:Nat):PRs X (l.take n) (us.take n) :=
  ⟨by simp [h.1],fun j p v hp hv=>by
    rw [List.getElem?_take] at hp hv
    split at hp
    · rename_i hj
      rw [if_pos hj] at hv
      exact h.2 j p v hp hv
    · simp at hp⟩
theorem PRs.drop {X:Cx} {l:List PV} {us:List Value} (h:PRs X l us) (n:Nat):PRs X (l.drop n) (us.drop n) :=
  ⟨by simp [h.1],fun j p v hp hv=>by
    rw [List.getElem?_drop] at hp hv
    exact h.2 _ p v hp hv⟩

structure KeepsC (a b:Hp):Prop where
  old:b.old=a.old
  cell:∀ ad v,a.cell? ad=some v→b.cell? ad=some v
theorem KeepsC.refl (a:Hp):KeepsC a a:=⟨rfl,fun _ _ h=>h⟩
theorem KeepsC.trans {a b c:Hp} (h:KeepsC a b) (k:KeepsC b c):KeepsC a c:=⟨k.old.trans h.old,fun ad v hv=>k.cell ad v (h.cell ad v hv)⟩
theorem KeepsC.cellsFrom {h h':Hp} (hk:KeepsC h h') {a:Addr}:∀ (n i:Nat) (l:List Value),h.cellsFrom a i n=some l→h'.cellsFrom a i n=some l
  | 0,i,l,hl=>by simpa [Hp.cellsFrom] using hl
  | n + 1, i, l, hl => by
    simp only [Hp.cellsFrom] at hl ⊢
    cases hc:h.cell? (a.add i) with
    | none=>simp [hc] at hl
    | some v =>
      simp only [hc] at hl
      obtain ⟨t,ht,rfl⟩:=Option.map_eq_some_iff.1 hl
      rw [hk.cell _ _ hc]
      simp only
      rw [hk.cellsFrom n (i+1) t ht]
      rfl
theorem KeepsC.row {h h':Hp} (k:KeepsC h h') {es:Nat} {v:Value} {l:List Value} (hr:rowV h es v=some l):rowV h' es v=some l:=by
  unfold rowV at hr ⊢
  split at hr
  · exact hr
  · exact k.cellsFrom _ _ _ hr
  · simp at hr
theorem ChMono {α:Type} {p q:α→List Value→Prop} (h:∀ x c,p x c→q x c):∀ {l:List α} {r:List Value},Chunks p l r→Chunks q l r
  | [],r,hr=>hr
  | x::l,r,⟨c,t,e,h1,h2⟩=>⟨c,t,e,h x c h1,ChMono h h2⟩
theorem Is_mono {a b:Hp} (k:KeepsC a b):∀ (d:D) (x:d.T) (us:List Value),d.Is a x us→d.Is b x us
  | .int _,_,_,h=>h
  | .bool,_,_,h=>h
  | .str,_,_,h=>h
  | .sl d, l, us, h => by
    obtain ⟨A,c,rw,e,h0,h1,h2⟩:=h
    exact ⟨A,c,rw,e,h0,k.row h1,ChMono (Is_mono k d) h2⟩
  | .st d,x,us,h=>Is_mono k d x us h
  | .nil,_,_,h=>h
  | .cons d e, x, us, h => by
    obtain ⟨c,r,q,h1,h2⟩:=h
    exact ⟨c,r,q,Is_mono k d _ _ h1,Is_mono k e _ _ h2⟩

structure Cx.le (X Y:Cx):Prop where
  m:KeepsC X.m Y.m
  len:X.s.length≤Y.s.length
  v:∀ b,b < X.s.length→lvV Y b→lvV X b∧Y.i b=X.i b
  s:∀ b es n,b < X.s.length→lvS Y b es n→∃ n0,n0≤n∧lvS X b es n0∧(n0=n→Y.i b=X.i b)
theorem Cx.le.refl (X:Cx):X.le X:=⟨.refl _,Nat.le_refl _,fun _ _ h=>⟨h,rfl⟩,fun b es n _ h=>⟨n,Nat.le_refl _,h,fun _=>rfl⟩⟩
theorem Cx.le.trans {X Y Z:Cx} (h:X.le Y) (k:Y.le Z):X.le Z :=
  ⟨h.m.trans k.m,Nat.le_trans h.len k.len,fun b hb hz=>by
    obtain ⟨h1,e1⟩:=k.v b (Nat.lt_of_lt_of_le hb h.len) hz
    obtain ⟨h2,e2⟩:=h.v b hb h1
    exact ⟨h2,e1.trans e2⟩,fun b es n hb hz=>by
    obtain ⟨n1,l1,h1,e1⟩:=k.s b es n (Nat.lt_of_lt_of_le hb h.len) hz
    obtain ⟨n0,l0,h0,e0⟩:=h.s b es n1 hb h1
    exact ⟨n0,Nat.le_trans l0 l1,h0,fun e=>by
      have a1:n1=n:=by omega
      have a0:n0=n1:=by omega
      exact (e1 a1).trans (e0 a0)⟩⟩
theorem PR.mono {X Y:Cx} (hle:X.le Y) {p:PV} {v:Value} (h:PR X p v):PR Y p v:=by
  induction h with
  | und v=>exact .und v
  | agg l a hl _ ih=>exact .agg l a hl ih
  | tup l a hl _ ih=>exact .tup l a hl ih
  | ifc t p v _ ih=>exact .ifc t p v ih
  | fn g a b a' b' ha hb _ _ ka kb=>exact .fn g a b a' b' ha hb ka kb
  | ptr b o v hv hb h =>
    refine .ptr b o v hv (Nat.lt_of_lt_of_le hb hle.len) (fun hl=>?_)
    obtain ⟨h1,e1⟩:=hle.v b hb hl
    rw [e1]
    exact h h1
  | osl b n v hv hb h =>
    refine .osl b n v hv (Nat.lt_of_lt_of_le hb hle.len) (fun es n' hl=>?_)
    obtain ⟨n0,l0,h0,e0⟩:=hle.s b es n' hb hl
    rcases h es n0 h0 with h1 | ⟨h1,h2⟩
    · exact .inl (by omega)
    · by_cases e:n0=n'
      · rw [e0 e]
        exact .inr ⟨h1.trans e,h2⟩
      · exact .inl (by omega)
  | osb b n lo m v hv hb h =>
    refine .osb b n lo m v hv (Nat.lt_of_lt_of_le hb hle.len) (fun es n' hl=>?_)
    obtain ⟨n0,l0,h0,e0⟩:=hle.s b es n' hb hl
    rcases h es n0 h0 with h1 | ⟨h1,h2⟩
    · exact .inl (by omega)
    · by_cases e:n0=n'
      · rw [e0 e]
        exact .inr ⟨h1.trans e,h2⟩
      · exact .inl (by omega)
  | oel b n i o v hv hb h =>
    refine .oel b n i o v hv (Nat.lt_of_lt_of_le hb hle.len) (fun es n' hl=>?_)
    obtain ⟨n0,l0,h0,e0⟩:=hle.s b es n' hb hl
    rcases h es n0 h0 with h1 | ⟨h1,h2⟩
    · exact .inl (by omega)
    · by_cases e:n0=n'
      · rw [e0 e]
        exact .inr ⟨h1.trans e,h2⟩
      · exact .inl (by omega)
  | sl d l v h=>exact .sl d l v (Is_mono hle.m (.sl d) l [v] h)
  | elt d l i o a n c rw hi hd hr hc=>exact .elt d l i o a n c rw hi hd (hle.m.row hr) (ChMono (Is_mono hle.m d) hc)
  | ref l o a cs hs hl hc _ ih=>exact .ref l o a cs hs hl (hle.m.cellsFrom _ _ _ hc) ih
  | _=>constructor
theorem PRs.mono {X Y:Cx} (hle:X.le Y) {l:List PV} {us:List Value} (h:PRs X l us):PRs Y l us:=⟨h.1,fun j p v hp hv=>(h.2 j p v hp hv).mono hle⟩

section
variable {X:Cx} {v:Value}
theorem PR.int_inv {k:IntKind} {n:Int} (h:PR X (.int k n) v):v = .int k n:=by cases h;rfl
theorem PR.bool_inv {b:Bool} (h:PR X (.bool b) v):v = .bool b:=by cases h;rfl
theorem PR.str_inv {s:ByteArray} (h:PR X (.str s) v):v = .string s:=by cases h;rfl
theorem PR.agg_inv {l:List PV} (h:PR X (.agg l) v):∃ a,v = .agg a.toArray∧PRs X l a:=by cases h with | agg _ a hl k=>exact ⟨a,rfl,hl,k⟩
theorem PR.tup_inv {l:List PV} (h:PR X (.tup l) v):∃ a,v = .tuple a.toArray∧PRs X l a:=by cases h with | tup _ a hl k=>exact ⟨a,rfl,hl,k⟩
theorem PR.fn_inv {g:FuncId} {a b:List PV} (h:PR X (.fn g a b) v):∃ a' b',v = .func (.func g) a'.toArray b'.toArray∧PRs X a a'∧PRs X b b':=by cases h with | fn _ _ _ a' b' ha hb ka kb=>exact ⟨a',b',rfl,⟨ha,ka⟩,hb,kb⟩
theorem PR.ifc_inv {t:TypeId} {p:PV} (h:PR X (.ifc t p) v):∃ u,v = .iface t u∧PR X p u:=by cases h with | ifc _ _ u k=>exact ⟨u,rfl,k⟩
theorem PR.nilI_inv (h:PR X .nilI v):v = .nilIface:=by cases h;rfl
theorem PR.nilF_inv (h:PR X .nilF v):v = .nilFunc:=by cases h;rfl
theorem PR.nilP_inv (h:PR X .nilP v):v = .pointer none:=by cases h;rfl
theorem PR.nilS_inv (h:PR X .nilS v):v = .slice none 0 0:=by cases h;rfl
theorem PR.ptr_inv {b o:Nat} (h:PR X (.ptr b o) v):lvV X b→∃ k,X.i b=some k∧v = .pointer (some ⟨k,o,none⟩):=by cases h with | ptr _ _ _ hv hb k=>exact k
theorem PR.ptr_form {b o:Nat} (h:PR X (.ptr b o) v):∃ a,v = .pointer (some a):=by cases h with | ptr _ _ _ hv hb k=>exact hv
theorem PR.osl_form {b n:Nat} (h:PR X (.osl b n) v):∃ A n c,v = .slice A n c:=by cases h with | osl _ _ _ hv hb k=>exact hv
theorem PR.osb_form {b n lo m:Nat} (h:PR X (.osb b n lo m) v):∃ A n c,v = .slice A n c:=by cases h with | osb _ _ _ _ _ hv hb k=>exact hv
theorem PR.oel_form {b n i o:Nat} (h:PR X (.oel b n i o) v):∃ a,v = .pointer (some a):=by cases h with | oel _ _ _ _ _ hv hb k=>exact hv
theorem PR.osl_inv {b n:Nat} (h:PR X (.osl b n) v):∀ es n',lvS X b es n'→n < n'∨(n=n'∧∃ c,(c=n∨c=n+1)∧v=slV (X.i b) n c):=by cases h with | osl _ _ _ hv hb k=>exact k
theorem PR.osb_inv {b n lo m:Nat} (h:PR X (.osb b n lo m) v):∀ es n',lvS X b es n'→n < n'∨(n=n'∧lo+m≤n∧∃ A c,m≤c∧v = .slice A m c∧(m=0∨∃ k,X.i b=some k∧A=some ⟨k,lo * es,none⟩)):=by cases h with | osb _ _ _ _ _ hv hb k=>exact k
theorem PR.oel_inv {b n i o:Nat} (h:PR X (.oel b n i o) v):∀ es n',lvS X b es n'→n < n'∨(n=n'∧i < n∧∃ k,X.i b=some k∧v = .pointer (some ⟨k,i * es+o,none⟩)):=by cases h with | oel _ _ _ _ _ hv hb k=>exact k
theorem PR.sl_inv {d:D} {l:List d.T} (h:PR X (.sl d l) v):(D.sl d).Is X.m l [v]:=by cases h with | sl _ _ _ k=>exact k
theorem PR.sl_inv' {d:D} {l:List d.T} (h:PR X (.sl d l) v):∃ A c rw,v = .slice A l.length c∧l.length≤c∧rowV X.m d.sz (.slice A l.length c)=some rw∧Chunks (d.Is X.m) l rw:=by
  obtain ⟨A,c,rw,e,h0,h1,h2⟩:=h.sl_inv
  exact ⟨A,c,rw,by simpa using e,h0,h1,h2⟩
theorem PR.elt_inv {d:D} {l:List d.T} {i o:Nat} (h:PR X (.elt d l i o) v):∃ a n c rw,v = .pointer (some (a.add (i * d.sz+o)))∧i < l.length∧0 < d.sz∧rowV X.m d.sz (.slice (some a) n c)=some rw∧Chunks (d.Is X.m) l rw:=by cases h with | elt _ _ _ _ a n c rw hi hd hr hc=>exact ⟨a,n,c,rw,rfl,hi,hd,hr,hc⟩
theorem PR.ref_inv {l:List PV} {o:Nat} (h:PR X (.ref l o) v):∃ a cs,v = .pointer (some (a.add o))∧a.spot=none∧X.m.cells? a l.length=some cs∧PRs X l cs:=by cases h with | ref _ _ a cs hs hl hc k=>exact ⟨a,cs,rfl,hs,hc,hl,k⟩
end
def encP:(d:D)→d.T→List PV
  | .int k,n=>[.int k n]
  | .bool,b=>[.bool b]
  | .str,s=>[.str s]
  | .sl d,l=>[.sl d l]
  | .st d,x=>encP d x
  | .nil,_=>[]
  | .cons d e,x=>encP d x.1++encP e x.2
theorem encP_len:∀ (d:D) (x:d.T),(encP d x).length=d.sz
  | .int _,_=>rfl
  | .bool,_=>rfl
  | .str,_=>rfl
  | .sl _,_=>rfl
  | .st d,x=>encP_len d x
  | .nil,_=>rfl
  | .cons d e,x=>by show (encP d x.1++encP e x.2).length=d.sz+e.sz;rw [List.length_append,encP_len d,encP_len e]
theorem PRs.one {X:Cx} {p:PV} {v:Value} (h:PR X p v):PRs X [p] [v]:=.cons h (.nil X)
theorem PRs.one_inv {X:Cx} {p:PV} {us:List Value} (h:PRs X [p] us):∃ v,us=[v]∧PR X p v:=by
  obtain ⟨v,t,rfl,h1,h2⟩:=h.uncons
  have:t=[]:=List.eq_nil_of_length_eq_zero h2.1.symm
  subst this
  exact ⟨v,rfl,h1⟩
theorem encP_of {X:Cx}:∀ (d:D) (x:d.T) (us:List Value),d.Is X.m x us→PRs X (encP d x) us
  | .int _,_,us,h=>by have e:us=_:=h;subst e;exact .one (.int _ _)
  | .bool,_,us,h=>by have e:us=_:=h;subst e;exact .one (.bool _)
  | .str,_,us,h=>by have e:us=_:=h;subst e;exact .one (.str _)
  | .sl d, l, us, h => by
    obtain ⟨A,c,rw,e,h0,h1,h2⟩:=h
    subst e
    exact .one (.sl d l _ ⟨A,c,rw,rfl,h0,h1,h2⟩)
  | .st d,x,us,h=>encP_of d x us h
  | .nil,_,us,h=>by have e:us=_:=h;subst e;exact .nil X
  | .cons d e, x, us, h => by
    obtain ⟨c,r,q,h1,h2⟩:=h
    subst q
    exact (encP_of d _ _ h1).append (encP_of e _ _ h2)

def sameD:(a b:D)→Option (PLift (a=b))
  | .int k,.int k'=>if h:k=k' then some ⟨by rw [h]⟩ else none
  | .bool,.bool=>some ⟨rfl⟩
  | .str,.str=>some ⟨rfl⟩
  | .nil,.nil=>some ⟨rfl⟩
  | .sl a, .sl b => match sameD a b with
    | some ⟨h⟩=>some ⟨by rw [h]⟩
    | none=>none
  | .st a, .st b => match sameD a b with
    | some ⟨h⟩=>some ⟨by rw [h]⟩
    | none=>none
  | .cons a c, .cons b e => match sameD a b, sameD c e with
    | some ⟨h⟩,some ⟨k⟩=>some ⟨by rw [h,k]⟩
    | _,_=>none
  | _,_=>none

def decP:(d:D)→List PV→Option d.T
  | .int k, l => match l with
    | [.int k' n]=>if k=k' then some n else none
    | _=>none
  | .bool, l => match l with
    | [.bool b]=>some b
    | _=>none
  | .str, l => match l with
    | [.str s]=>some s
    | _=>none
  | .sl d, l => match l with
    | [.sl d' l'] => (match sameD d' d with
      | some ⟨h⟩=>some (h ▸ l')
      | none=>none)
    | [.nilS]=>some ([]:List d.T)
    | _=>none
  | .st d,l=>decP d l
  | .nil, l => match l with
    | []=>some ()
    | _=>none
  | .cons d e, l => match decP d (l.take d.sz), decP e (l.drop d.sz) with
    | some x,some y=>some (x,y)
    | _,_=>none
theorem Is_nilS (m:Hp) (d:D):(D.sl d).Is m ([]:List d.T) [.slice none 0 0]:=⟨none,0,[],rfl,Nat.le_refl _,rfl,rfl⟩
theorem decP_is {X:Cx}:∀ (d:D) (l:List PV) (x:d.T) (us:List Value),decP d l=some x→PRs X l us→d.Is X.m x us
  | .int k, l, x, us, h, hp => by
    unfold decP at h
    split at h
    · split at h
      · rename_i e
        subst e
        obtain ⟨v,rfl,hv⟩:=hp.one_inv
        obtain rfl:=hv.int_inv
        obtain rfl:=Option.some.inj h
        rfl
      · simp at h
    · simp at h
  | .bool, l, x, us, h, hp => by
    unfold decP at h
    split at h
    · obtain ⟨v,rfl,hv⟩:=hp.one_inv
      obtain rfl:=hv.bool_inv
      obtain rfl:=Option.some.inj h
      rfl
    · simp at h
  | .str, l, x, us, h, hp => by
    unfold decP at h
    split at h
    · obtain ⟨v,rfl,hv⟩:=hp.one_inv
      obtain rfl:=hv.str_inv
      obtain rfl:=Option.some.inj h
      rfl
    · simp at h
  | .sl d, l, x, us, h, hp => by
    unfold decP at h
    split at h
    · split at h
      · rename_i e _
        subst e
        obtain ⟨v,rfl,hv⟩:=hp.one_inv
        obtain rfl:=Option.some.inj h
        exact hv.sl_inv
      · simp at h
    · obtain ⟨v,rfl,hv⟩:=hp.one_inv
      obtain rfl:=hv.nilS_inv
      obtain rfl:=Option.some.inj h
      exact Is_nilS _ d
    · simp at h
  | .st d,l,x,us,h,hp=>decP_is d l x us h hp
  | .nil, l, x, us, h, hp => by
    unfold decP at h
    split at h
    · exact List.eq_nil_of_length_eq_zero hp.1.symm
    · simp at h
  | .cons d e, l, x, us, h, hp => by
    unfold decP at h
    split at h
    · rename_i a b ha hb
      obtain rfl:=Option.some.inj h
      exact ⟨us.take d.sz,us.drop d.sz,(List.take_append_drop _ _).symm,decP_is d _ _ _ ha (hp.take _),decP_is e _ _ _ hb (hp.drop _)⟩
    · simp at h

def decs (d:D):Nat→List PV→Option (List d.T)
  | 0, l => match l with
    | []=>some []
    | _=>none
  | n + 1, l => match decP d (l.take d.sz), decs d n (l.drop d.sz) with
    | some x,some r=>some (x::r)
    | _,_=>none
theorem decs_is {X:Cx} {d:D}:∀ (n:Nat) (l:List PV) (r:List d.T) (us:List Value),decs d n l=some r→PRs X l us→Chunks (d.Is X.m) r us∧r.length=n
  | 0, l, r, us, h, hp => by
    unfold decs at h
    split at h
    · obtain rfl:=Option.some.inj h
      exact ⟨List.eq_nil_of_length_eq_zero hp.1.symm,rfl⟩
    · simp at h
  | n + 1, l, r, us, h, hp => by
    unfold decs at h
    split at h
    · rename_i x r' hx hr
      obtain rfl:=Option.some.inj h
      obtain ⟨h1,h2⟩:=decs_is n _ _ _ hr (hp.drop _)
      exact ⟨⟨us.take d.sz,us.drop d.sz,(List.take_append_drop _ _).symm,decP_is d _ _ _ hx (hp.take _),h1⟩,by simp [h2]⟩
    · simp at h

theorem Chunks_len {m:Hp} {d:D}:∀ {l:List d.T} {us:List Value},Chunks (d.Is m) l us→us.length=l.length * d.sz
  | [],us,h=>by have e:us=[]:=h;subst e;simp
  | x :: l, us, ⟨c, t, e, h1, h2⟩ => by
    subst e
    rw [List.length_append,D.Is_len d x c h1,Chunks_len h2,List.length_cons,Nat.succ_mul,Nat.add_comm]
theorem Chunks_append {α:Type} {p:α→List Value→Prop}:∀ {a b:List α} {us vs:List Value},Chunks p a us→Chunks p b vs→Chunks p (a++b) (us++vs)
  | [],b,us,vs,h,k=>by have e:us=[]:=h;subst e;exact k
  | x :: a, b, us, vs, ⟨c, t, e, h1, h2⟩, k => by
    subst e
    exact ⟨c,t++vs,by rw [List.append_assoc],h1,Chunks_append h2 k⟩
theorem Chunks_split {m:Hp} {d:D}:∀ (n:Nat) {l:List d.T} {us:List Value},Chunks (d.Is m) l us→Chunks (d.Is m) (l.take n) (us.take (n * d.sz))∧Chunks (d.Is m) (l.drop n) (us.drop (n * d.sz))
  | 0,l,us,h=>⟨by simp;exact rfl,by simpa using h⟩
  | n+1,[],us,h=>by have e:us=[]:=h;subst e;simp;exact rfl
  | n + 1, x :: l, us, ⟨c, t, e, h1, h2⟩ => by
    subst e
    have hc:=D.Is_len d x c h1
    obtain ⟨k1,k2⟩:=Chunks_split n h2
    have e1:(c++t).take ((n+1) * d.sz)=c++t.take (n * d.sz):=by
      rw [List.take_append,hc,Nat.succ_mul,Nat.add_sub_cancel,List.take_of_length_le (by omega)]
    have e2:(c++t).drop ((n+1) * d.sz)=t.drop (n * d.sz):=by
      rw [List.drop_append,hc,Nat.succ_mul,Nat.add_sub_cancel,List.drop_eq_nil_of_le (by omega),List.nil_append]
    rw [e1,e2]
    exact ⟨⟨c,_,rfl,h1,k1⟩,k2⟩
theorem Chunks_get {m:Hp} {d:D} {l:List d.T} {us:List Value} (h:Chunks (d.Is m) l us) {i:Nat} {x:d.T} (hx:l[i]? = some x):d.Is m x ((us.drop (i * d.sz)).take d.sz):=by
  obtain ⟨-,k⟩:=Chunks_split i h
  have hi:=(List.getElem?_eq_some_iff.1 hx).1
  have e:l.drop i=x::l.drop (i+1):=by
    rw [List.drop_eq_getElem_cons hi]
    have:=(List.getElem?_eq_some_iff.1 hx).2
    rw [this]
  rw [e] at k
  obtain ⟨c,t,e2,h1,h2⟩:=k
  have hc:=D.Is_len d x c h1
  rw [e2,← hc,List.take_left']
  · exact h1
  · rfl
theorem Chunks_set {m:Hp} {d:D} {l:List d.T} {us:List Value} (h:Chunks (d.Is m) l us) {i:Nat} (hi:i < l.length) {x:d.T} {c:List Value} (hx:d.Is m x c):Chunks (d.Is m) (l.set i x) (us.take (i * d.sz)++(c++us.drop ((i+1) * d.sz))):=by
  have h1:=(Chunks_split i h).1
  have h2:=(Chunks_split (i+1) h).2
  have e:l.set i x=l.take i++(x::l.drop (i+1)):=by
    rw [List.set_eq_take_append_cons_drop,if_pos hi]
  rw [e]
  exact Chunks_append h1 ⟨c,_,rfl,hx,h2⟩
end Go.Proofs.Ytcffpnlochillaa.Pv
namespace Go.Proofs.Ytcffpnlochillaa.Pv
open Go.RowKit Go.Proofs.Ytcffpnlochillaa.Ab
def Hp.mask (h:Hp) (E:Nat→Bool):Hp:=⟨h.old,h.new.mapIdx fun j k=>if E (h.old.heap.size+j)=true then { k with live:=false } else k⟩
theorem mask_blk (h:Hp) (E:Nat→Bool) (b:Nat):(Hp.mask h E).blk? b=(h.blk? b).map fun k=>if E b=true then { k with live:=false } else k:=by
  unfold Hp.blk? Hp.mask
  simp only
  split
  · rfl
  · rename_i hb
    rw [List.getElem?_mapIdx,show h.old.heap.size+(b - h.old.heap.size)=b by omega]
theorem mask_cell {h:Hp} {E:Nat→Bool} {a:Addr} {v:Value}:(Hp.mask h E).cell? a=some v ↔ h.cell? a=some v∧(a.block < h.old.heap.size∨E a.block=false):=by
  unfold Hp.cell?
  rw [mask_blk]
  have e:(Hp.mask h E).old=h.old:=rfl
  rw [e]
  by_cases hb:a.block < h.old.heap.size
  · simp [hb]
  · simp only [hb,if_false,false_or]
    split
    · simp
    · cases hk:h.blk? a.block with
      | none=>simp
      | some k =>
        simp only [Option.map_some]
        cases hE:E a.block
        · simp
        · simp
theorem mask_sub (h:Hp) (E:Nat→Bool):KeepsC (Hp.mask h E) h:=⟨rfl,fun ad v hv=>(mask_cell.1 hv).1⟩
structure Bs where
  h:Hp
  E:Nat→Bool
  i:Nat→Option Nat
  s:List OB
def own (i:Nat→Option Nat) (s:List OB) (b:Nat):Prop:=∃ id o,s[id]? = some o∧o.live=true∧i id=some b
def Bs.B (Z:Bs) (b:Nat):Prop:=own Z.i Z.s b
def Bs.X (Z:Bs):Cx:=⟨Hp.mask Z.h Z.E,Z.i,Z.s⟩

def OBR (X:Cx) (h:Hp) (E:Nat→Bool) (id:Nat):OB→Prop
  | .dead=>True
  | .var l=>∃ b cs,X.i id=some b∧E b=true∧h.blk? b=some ⟨cs,0,true⟩∧cs.all (·.oneCell')=true∧PRs X l cs
  | .row es n l=>∃ b cs,X.i id=some b∧E b=true∧h.blk? b=some ⟨cs,es,true⟩∧cs.all (·.oneCell')=true∧l.length=n * es∧PRs X l cs
  | .arr d l=>0 < d.sz∧((X.i id=none∧l=[])∨∃ b us,X.i id=some b∧E b=true∧h.blk? b=some ⟨us,d.sz,true⟩∧Chunks (d.Is X.m) l us)
theorem OBR.mono {X Y:Cx} (hle:X.le Y) {h h':Hp} {E E':Nat→Bool} {id:Nat} {o:OB} (hi:Y.i id=X.i id) (hk:∀ b k,X.i id=some b→h.blk? b=some k→h'.blk? b=some k∧E' b=E b) (hr:OBR X h E id o):OBR Y h' E' id o:=by
  cases o with
  | dead=>trivial
  | var l =>
    obtain ⟨b,cs,h1,h2,h3,h4,h5⟩:=hr
    obtain ⟨k1,k2⟩:=hk b _ h1 h3
    exact ⟨b,cs,hi.trans h1,k2.trans h2,k1,h4,h5.mono hle⟩
  | row es n l =>
    obtain ⟨b,cs,h1,h2,h3,h4,h5,h6⟩:=hr
    obtain ⟨k1,k2⟩:=hk b _ h1 h3
    exact ⟨b,cs,hi.trans h1,k2.trans h2,k1,h4,h5,h6.mono hle⟩
  | arr d l =>
    obtain ⟨hd,h1 | ⟨b,us,h1,h2,h3,h4⟩⟩:=hr
    · exact ⟨hd,.inl ⟨hi.trans h1.1,h1.2⟩⟩
    · obtain ⟨k1,k2⟩:=hk b _ h1 h3
      exact ⟨hd,.inr ⟨b,us,hi.trans h1,k2.trans h2,k1,ChMono (Is_mono hle.m d) h4⟩⟩

structure SR (Z:Bs) (h:Hp) (E:Nat→Bool) (i:Nat→Option Nat) (s:List OB):Prop where
  ob:∀ id o,s[id]? = some o→OBR ⟨Hp.mask h E,i,s⟩ h E id o
  inj:∀ id id' b o o',s[id]? = some o→s[id']? = some o'→o.live=true→o'.live=true→i id=some b→i id'=some b→id=id'
  old:h.old=Z.h.old
  next:Z.h.next≤h.next
  keep:∀ b k,Z.h.blk? b=some k→¬ Z.B b→h.blk? b=some k∧E b=Z.E b
  fresh:∀ b,own i s b→Z.B b∨Z.h.next≤b
  le:Cx.le Z.X ⟨Hp.mask h E,i,s⟩
theorem OBR.at {X:Cx} {h:Hp} {E:Nat→Bool} {id:Nat} {o:OB} (hr:OBR X h E id o) (hl:o.live=true) {b:Nat} (hb:X.i id=some b):E b=true∧∃ k,h.blk? b=some k∧k.live=true:=by
  cases o with
  | dead=>simp [OB.live] at hl
  | var l=>obtain ⟨b',cs,h1,h2,h3,h4⟩:=hr;rw [hb] at h1;obtain rfl:=Option.some.inj h1;exact ⟨h2,_,h3,rfl⟩
  | row es n l=>obtain ⟨b',cs,h1,h2,h3,h4⟩:=hr;rw [hb] at h1;obtain rfl:=Option.some.inj h1;exact ⟨h2,_,h3,rfl⟩
  | arr d l =>
    obtain ⟨hd,h1 | ⟨b',us,h1,h2,h3,h4⟩⟩:=hr
    · rw [hb] at h1;simp at h1
    · rw [hb] at h1;obtain rfl:=Option.some.inj h1;exact ⟨h2,_,h3,rfl⟩
def ups (i:Nat→Option Nat) (id:Nat) (ib:Option Nat):Nat→Option Nat:=fun j=>if j=id then ib else i j
theorem ups_at (i:Nat→Option Nat) (id:Nat) (ib:Option Nat):ups i id ib id=ib:=by simp [ups]
theorem ups_ne (i:Nat→Option Nat) {id j:Nat} (ib:Option Nat) (h:j≠id):ups i id ib j=i j:=by simp [ups,h]

structure Ovr (o o':OB) (same:Prop):Prop where
  v:o'.isV=true→o.isV=true∧same
  s:∀ es n,o'.sig=some (es,n)→o.live=true→∃ n0,n0≤n∧o.sig=some (es,n0)∧(n0=n→same)

theorem SR.upd {Z:Bs} {h:Hp} {E:Nat→Bool} {i:Nat→Option Nat} {s:List OB} (S:SR Z h E i s) (id:Nat) (o o':OB) (ib:Option Nat) (h':Hp) (E':Nat→Bool) (ho:s[id]? = some o)
    (hold:h'.old=h.old) (hnext:h.next≤h'.next) (hkeep:∀ b k,h.blk? b=some k→¬ (o.live=true∧i id=some b)→h'.blk? b=some k∧E' b=E b)
    (hib:∀ b,o'.live=true→ib=some b→(o.live=true∧i id=some b)∨h.next≤b) (hdead:o.live=true) (hov:Ovr o o' (ib=i id))
    (hob:Cx.le ⟨Hp.mask h E,i,s⟩ ⟨Hp.mask h' E',ups i id ib,s.set id o'⟩→OBR ⟨Hp.mask h' E',ups i id ib,s.set id o'⟩ h' E' id o') :
    SR Z h' E' (ups i id ib) (s.set id o')∧Cx.le ⟨Hp.mask h E,i,s⟩ ⟨Hp.mask h' E',ups i id ib,s.set id o'⟩:=by
  have hid:id < s.length:=(List.getElem?_eq_some_iff.1 ho).1
  have hset:(s.set id o')[id]? = some o':=by rw [List.getElem?_set,if_pos rfl,if_pos hid]
  have hne:∀ j,j≠id→(s.set id o')[j]? = s[j]?:=fun j hj=>by rw [List.getElem?_set,if_neg (fun e=>hj e.symm)]
  have hle:Cx.le ⟨Hp.mask h E,i,s⟩ ⟨Hp.mask h' E',ups i id ib,s.set id o'⟩:=by
    refine ⟨⟨hold,fun ad v hv=>?_⟩,by simp,fun b hb hv=>?_,fun b es n hb hv=>?_⟩
    · obtain ⟨h1,h2⟩:=mask_cell.1 hv
      refine mask_cell.2 ?_
      rw [hold]
      by_cases hlt:ad.block < h.old.heap.size
      · refine ⟨?_,.inl hlt⟩
        unfold Hp.cell? at h1 ⊢
        rw [if_pos hlt] at h1
        rw [hold,if_pos hlt]
        exact h1
      · have hE:E ad.block=false:=by
          rcases h2 with h2 | h2
          · exact absurd h2 hlt
          · exact h2
        have hnot:¬ (o.live=true∧i id=some ad.block):=fun ⟨q1,q2⟩=>by
          have:=((S.ob id o ho).at q1 q2).1
          rw [hE] at this
          simp at this
        unfold Hp.cell? at h1 ⊢
        rw [if_neg hlt] at h1
        rw [hold,if_neg hlt]
        split at h1
        · simp at h1
        · rename_i hs
          rw [if_neg hs]
          cases hk:h.blk? ad.block with
          | none=>simp [hk] at h1
          | some k =>
            obtain ⟨k1,k2⟩:=hkeep _ _ hk hnot
            rw [hk] at h1
            rw [k1]
            exact ⟨h1,.inr (k2.trans hE)⟩
    · obtain ⟨p,hp,hq⟩:=hv
      by_cases e:b=id
      · subst e
        have hp':(s.set b o')[b]? = some p:=hp
        rw [hset] at hp'
        obtain rfl:=Option.some.inj hp'
        obtain ⟨q1,q2⟩:=hov.v hq
        exact ⟨⟨o,ho,q1⟩,by show ups i b ib b=i b;rw [ups_at,q2]⟩
      · have hp':(s.set id o')[b]? = some p:=hp
        rw [hne b e] at hp'
        exact ⟨⟨p,hp',hq⟩,ups_ne i ib e⟩
    · obtain ⟨p,hp,hq⟩:=hv
      by_cases e:b=id
      · subst e
        have hp':(s.set b o')[b]? = some p:=hp
        rw [hset] at hp'
        obtain rfl:=Option.some.inj hp'
        obtain ⟨n0,q1,q2,q3⟩:=hov.s es n hq hdead
        exact ⟨n0,q1,⟨o,ho,q2⟩,fun q=>by show ups i b ib b=i b;rw [ups_at,q3 q]⟩
      · have hp':(s.set id o')[b]? = some p:=hp
        rw [hne b e] at hp'
        exact ⟨n,Nat.le_refl _,⟨p,hp',hq⟩,fun _=>ups_ne i ib e⟩
  refine ⟨⟨fun j p hp=>?_,fun j j' b p p' hp hp' hl hl' hi hi'=>?_,hold.trans S.old,Nat.le_trans S.next hnext,fun b k hb hB=>?_,fun b hb=>?_,S.le.trans hle⟩,hle⟩
  · by_cases e:j=id
    · subst e
      rw [hset] at hp
      obtain rfl:=Option.some.inj hp
      exact hob hle
    · rw [hne j e] at hp
      by_cases hpl:p.live=true
      · refine (S.ob j p hp).mono hle (ups_ne i ib e) (fun b k hb hk=>hkeep b k hk fun ⟨q1,q2⟩=>?_)
        exact e (S.inj j id b p o hp ho hpl q1 hb q2)
      · cases p with
        | dead=>trivial
        | _=>simp [OB.live] at hpl
  · have lt:∀ j p b,s[j]? = some p→p.live=true→i j=some b→b < h.next:=fun j p b hp hl hb=>by
      obtain ⟨k,hk,-⟩:=((S.ob j p hp).at hl hb).2
      exact (Hp.blk_lt hk).2
    by_cases e:j=id <;> by_cases e':j'=id
    · rw [e,e']
    · subst e
      rw [hset] at hp
      obtain rfl:=Option.some.inj hp
      rw [hne j' e'] at hp'
      rw [ups_at] at hi
      rw [ups_ne i ib e'] at hi'
      rcases hib b hl hi with ⟨q1,q2⟩ | q
      · exact S.inj j j' b o p' ho hp' q1 hl' q2 hi'
      · have:=lt j' p' b hp' hl' hi'
        omega
    · subst e'
      rw [hset] at hp'
      obtain rfl:=Option.some.inj hp'
      rw [hne j e] at hp
      rw [ups_at] at hi'
      rw [ups_ne i ib e] at hi
      rcases hib b hl' hi' with ⟨q1,q2⟩ | q
      · exact S.inj j j' b p o hp ho hl q1 hi q2
      · have:=lt j p b hp hl hi
        omega
    · rw [hne j e] at hp
      rw [hne j' e'] at hp'
      rw [ups_ne i ib e] at hi
      rw [ups_ne i ib e'] at hi'
      exact S.inj j j' b p p' hp hp' hl hl' hi hi'
  · obtain ⟨q1,q2⟩:=S.keep b k hb hB
    have hlt:=(Hp.blk_lt hb).2
    obtain ⟨r1,r2⟩:=hkeep b k q1 (fun ⟨t1,t2⟩=>by
      rcases S.fresh b ⟨id,o,ho,t1,t2⟩ with q | q
      · exact hB q
      · omega)
    exact ⟨r1,r2.trans q2⟩
  · obtain ⟨j,p,hp,hl,hi⟩:=hb
    by_cases e:j=id
    · subst e
      rw [hset] at hp
      obtain rfl:=Option.some.inj hp
      rw [ups_at] at hi
      rcases hib b hl hi with ⟨q1,q2⟩ | q
      · exact S.fresh b ⟨j,o,ho,q1,q2⟩
      · exact .inr (Nat.le_trans S.next q)
    · rw [hne j e] at hp
      rw [ups_ne i ib e] at hi
      exact S.fresh b ⟨j,p,hp,hl,hi⟩

theorem SR.add {Z:Bs} {h:Hp} {E:Nat→Bool} {i:Nat→Option Nat} {s:List OB} (S:SR Z h E i s) (o':OB) (ib:Option Nat) (h':Hp) (E':Nat→Bool)
    (hold:h'.old=h.old) (hnext:h.next≤h'.next) (hkeep:∀ b k,h.blk? b=some k→h'.blk? b=some k∧E' b=E b)
    (hib:∀ b,ib=some b→h.next≤b)
    (hob:Cx.le ⟨Hp.mask h E,i,s⟩ ⟨Hp.mask h' E',ups i s.length ib,s++[o']⟩→OBR ⟨Hp.mask h' E',ups i s.length ib,s++[o']⟩ h' E' s.length o') :
    SR Z h' E' (ups i s.length ib) (s++[o'])∧Cx.le ⟨Hp.mask h E,i,s⟩ ⟨Hp.mask h' E',ups i s.length ib,s++[o']⟩:=by
  have hlast:(s++[o'])[s.length]? = some o':=by simp
  have hin:∀ j,j < s.length→(s++[o'])[j]? = s[j]?:=fun j hj=>by rw [List.getElem?_append_left hj]
  have hcase:∀ j p,(s++[o'])[j]? = some p→(j < s.length∧s[j]? = some p)∨(j=s.length∧p=o'):=fun j p hp=>by
    by_cases hj:j < s.length
    · exact .inl ⟨hj,by rw [← hin j hj];exact hp⟩
    · have:=(List.getElem?_eq_some_iff.1 hp).1
      simp at this
      have e:j=s.length:=by omega
      subst e
      rw [hlast] at hp
      exact .inr ⟨rfl,(Option.some.inj hp).symm⟩
  have hle:Cx.le ⟨Hp.mask h E,i,s⟩ ⟨Hp.mask h' E',ups i s.length ib,s++[o']⟩:=by
    refine ⟨⟨hold,fun ad v hv=>?_⟩,by simp,fun b hb hv=>?_,fun b es n hb hv=>?_⟩
    · obtain ⟨h1,h2⟩:=mask_cell.1 hv
      refine mask_cell.2 ?_
      rw [hold]
      by_cases hlt:ad.block < h.old.heap.size
      · refine ⟨?_,.inl hlt⟩
        unfold Hp.cell? at h1 ⊢
        rw [if_pos hlt] at h1
        rw [hold,if_pos hlt]
        exact h1
      · have hE:E ad.block=false:=by
          rcases h2 with h2 | h2
          · exact absurd h2 hlt
          · exact h2
        unfold Hp.cell? at h1 ⊢
        rw [if_neg hlt] at h1
        rw [hold,if_neg hlt]
        split at h1
        · simp at h1
        · rename_i hs
          rw [if_neg hs]
          cases hk:h.blk? ad.block with
          | none=>simp [hk] at h1
          | some k =>
            obtain ⟨k1,k2⟩:=hkeep _ _ hk
            rw [hk] at h1
            rw [k1]
            exact ⟨h1,.inr (k2.trans hE)⟩
    · obtain ⟨p,hp,hq⟩:=hv
      have hb':b < s.length:=hb
      have hp':(s++[o'])[b]? = some p:=hp
      rw [hin b hb'] at hp'
      exact ⟨⟨p,hp',hq⟩,ups_ne i ib (by omega)⟩
    · obtain ⟨p,hp,hq⟩:=hv
      have hb':b < s.length:=hb
      have hp':(s++[o'])[b]? = some p:=hp
      rw [hin b hb'] at hp'
      exact ⟨n,Nat.le_refl _,⟨p,hp',hq⟩,fun _=>ups_ne i ib (by omega)⟩
  refine ⟨⟨fun j p hp=>?_,fun j j' b p p' hp hp' hl hl' hi hi'=>?_,hold.trans S.old,Nat.le_trans S.next hnext,fun b k hb hB=>?_,fun b hb=>?_,S.le.trans hle⟩,hle⟩
  · rcases hcase j p hp with ⟨hj,hp⟩ | ⟨rfl,rfl⟩
    · exact (S.ob j p hp).mono hle (ups_ne i ib (by omega)) (fun b k hb hk=>hkeep b k hk)
    · exact hob hle
  · have lt:∀ j p b,s[j]? = some p→p.live=true→i j=some b→b < h.next:=fun j p b hp hl hb=>by
      obtain ⟨k,hk,-⟩:=((S.ob j p hp).at hl hb).2
      exact (Hp.blk_lt hk).2
    rcases hcase j p hp with ⟨hj,hq⟩ | ⟨rfl,rfl⟩ <;> rcases hcase j' p' hp' with ⟨hj',hq'⟩ | ⟨rfl,rfl⟩
    · rw [ups_ne i ib (by omega)] at hi hi'
      exact S.inj j j' b p p' hq hq' hl hl' hi hi'
    · rw [ups_ne i ib (by omega)] at hi
      rw [ups_at] at hi'
      have:=lt j p b hq hl hi
      have:=hib b hi'
      omega
    · rw [ups_ne i ib (by omega)] at hi'
      rw [ups_at] at hi
      have:=lt j' p' b hq' hl' hi'
      have:=hib b hi
      omega
    · rfl
  · obtain ⟨q1,q2⟩:=S.keep b k hb hB
    obtain ⟨r1,r2⟩:=hkeep b k q1
    exact ⟨r1,r2.trans q2⟩
  · obtain ⟨j,p,hp,hl,hi⟩:=hb
    rcases hcase j p hp with ⟨hj,hp⟩ | ⟨rfl,rfl⟩
    · rw [ups_ne i ib (by omega)] at hi
      exact S.fresh b ⟨j,p,hp,hl,hi⟩
    · rw [ups_at] at hi
      exact .inr (Nat.le_trans S.next (hib b hi))

theorem SR.base {Z:Bs} {h:Hp} {E:Nat→Bool} {i:Nat→Option Nat} {s:List OB} (S:SR Z h E i s):SR ⟨h,E,i,s⟩ h E i s :=
  ⟨S.ob,S.inj,rfl,Nat.le_refl _,fun b k hb _=>⟨hb,rfl⟩,fun b hb=>.inl hb,.refl _⟩

theorem SR.after {Z:Bs} {h h':Hp} {E E':Nat→Bool} {i i':Nat→Option Nat} {s s':List OB} (S:SR Z h E i s) (T:SR ⟨h,E,i,s⟩ h' E' i' s'):SR Z h' E' i' s':=by
  refine ⟨T.ob,T.inj,T.old.trans S.old,Nat.le_trans S.next T.next,fun b k hb hB=>?_,fun b hb=>?_,S.le.trans T.le⟩
  · obtain ⟨q1,q2⟩:=S.keep b k hb hB
    obtain ⟨r1,r2⟩:=T.keep b k q1 (fun t=>by
      rcases S.fresh b t with q | q
      · exact hB q
      · have:=(Hp.blk_lt hb).2;omega)
    exact ⟨r1,r2.trans q2⟩
  · rcases T.fresh b hb with q | q
    · exact S.fresh b q
    · exact .inr (Nat.le_trans S.next q)
end Go.Proofs.Ytcffpnlochillaa.Pv
namespace Go.Proofs.Ytcffpnlochillaa.Pv
open Go.RowKit Go.Proofs.Ytcffpnlochillaa.Ab
abbrev Env:=Nat→PV
def ofC:Value→PV
  | .bool b=>.bool b
  | .int k n=>.int k n
  | .string s=>.str s
  | .pointer none=>.nilP
  | .slice none 0 0=>.nilS
  | .nilIface=>.nilI
  | .nilFunc=>.nilF
  | _=>.und
def ofV:Value→PV
  | .agg cs=>.agg (cs.toList.map ofC)
  | .tuple cs=>.tup (cs.toList.map ofC)
  | v=>ofC v
theorem ofC_PR (X:Cx) (v:Value):PR X (ofC v) v:=by
  unfold ofC
  split <;> constructor
theorem ofCs_PR (X:Cx) (l:List Value):PRs X (l.map ofC) l:=by
  have:=PRs.map (X:=X) (f:=ofC) (g:=id) (l:=l) (fun x _=>ofC_PR X x)
  simpa using this
theorem ofV_PR (X:Cx) (v:Value):PR X (ofV v) v:=by
  unfold ofV
  split
  · rename_i cs
    have h:=ofCs_PR X cs.toList
    have:=PR.agg _ _ h.1 h.2
    simpa using this
  · rename_i cs
    have h:=ofCs_PR X cs.toList
    have:=PR.tup _ _ h.1 h.2
    simpa using this
  · exact ofC_PR X v
def evE (e:Env):Operand→PV
  | .tmp t=>e t
  | .const v=>ofV v
  | .global _=>.und
  | .func g=>.fn g [] []
def putE (e:Env):Option Nat→PV→Env
  | none,_=>e
  | some d,p=>fun t=>if t=d then p else e t
def initE (args:List PV):Env:=fun t=>args.getD t (.tup [])
def ER (X:Cx) (e:Env) (f:Fr):Prop:=∀ t,PR X (e t) (f t)
theorem ER.mono {X Y:Cx} (hle:X.le Y) {e:Env} {f:Fr} (h:ER X e f):ER Y e f:=fun t=>(h t).mono hle
theorem ER.ev {X:Cx} {e:Env} {f:Fr} (h:ER X e f) (x:Operand):PR X (evE e x) (evF f x):=by
  cases x with
  | tmp t=>exact h t
  | const v=>exact ofV_PR X v
  | global g=>exact .und _
  | func g=>exact PR.fn g [] [] [] [] rfl rfl (fun j p v h=>by simp at h) (fun j p v h=>by simp at h)
theorem ER.put {X:Cx} {e:Env} {f:Fr} (h:ER X e f) {d:Option Nat} {p:PV} {v:Value} (hp:PR X p v):ER X (putE e d p) (putF f d v):=by
  intro t
  cases d with
  | none=>exact h t
  | some d =>
    show PR X (if t=d then p else e t) (if t=d then v else f t)
    split
    · exact hp
    · exact h t
theorem undef_PR (X:Cx):PR X (.tup []) undef:=PR.tup [] [] rfl (fun j p v h=>by simp at h)
theorem ER.init {X:Cx} {args:List PV} {vs:List Value} (h:PRs X args vs):ER X (initE args) (initF vs):=by
  intro t
  show PR X (args.getD t (.tup [])) (vs.getD t undef)
  rw [List.getD_eq_getElem?_getD,List.getD_eq_getElem?_getD]
  cases ha:args[t]? with
  | none =>
    have:vs[t]? = none:=by
      rw [List.getElem?_eq_none_iff] at ha ⊢
      rw [← h.1];exact ha
    rw [this]
    exact undef_PR X
  | some p =>
    obtain ⟨v,hv,hp⟩:=h.get ha
    rw [hv]
    exact hp
def Rp (Z:Bs) (e:Env) (s:List OB) (f:Fr) (h:Hp):Prop:=∃ E i,SR Z h E i s∧ER ⟨Hp.mask h E,i,s⟩ e f
def Lf (Z:Bs) (K:Env→List OB→Prop) (f:Fr) (h:Hp):Prop:=∃ e s,K e s∧Rp Z e s f h
def pops (P:Program) (Z:Bs) (pr:List Operand) (cs:List CO) (K:Env→List OB→Prop) (e:Env) (s:List OB):Prop:=∀ f h,Rp Z e s f h→aops P pr cs (Lf Z K) f h
abbrev QP:=Exit→Env→List OB→Prop
def pwp (P:Program) (Z:Bs) (a:AC) (Q:QP) (e:Env) (s:List OB):Prop:=∀ f h,Rp Z e s f h→awp P a (fun x=>Lf Z (Q x)) f h
def thenP (K:Env→List OB→Prop) (Q:QP):QP
  | .normal=>K
  | x=>Q x
def inBlkP (id:Nat) (Q:QP):QP
  | .exit id'=>fun e s=>if id'=id then Q .normal e s else Q (.exit id') e s
  | x=>Q x
def goKP (l:Nat) (K:Env→List OB→Prop) (Q:QP):QP
  | .goto l'=>fun e s=>l'=l∧K e s
  | x=>Q x
def noGoP (Q:QP):QP
  | .goto _=>fun _ _=>False
  | x=>Q x
section
variable {P:Program} {Z:Bs} {Q:QP} {e:Env} {s:List OB}
theorem pwp_mono {a:AC} {Q':QP} (hq:∀ x e s,Q x e s→Q' x e s) (h:pwp P Z a Q e s):pwp P Z a Q' e s :=
  fun f hh hr=>awp_mono a _ _ (fun x f h ⟨e,s,h1,h2⟩=>⟨e,s,hq x e s h1,h2⟩) f hh (h f hh hr)
theorem w_reg {l:List CO} (hk:pops P Z [] l (Q .normal) e s):pwp P Z (.reg l) Q e s:=fun f h hr=>hk f h hr
theorem w_sq {a b:AC} (hk:pwp P Z a (thenP (pwp P Z b Q) Q) e s):pwp P Z (.seq a b) Q e s:=fun f h hr =>
  awp_mono a _ _ (fun x f h hx=>by
    obtain ⟨e,s,h1,h2⟩:=hx
    cases x with
    | normal=>exact h1 f h h2
    | _=>exact ⟨e,s,h1,h2⟩) f h (hk f h hr)
theorem w_cond {c:Operand} {a b:AC} {t:Bool} (hc:evE e c = .bool t) (h1:t=true→pwp P Z a Q e s) (h2:t=false→pwp P Z b Q e s):pwp P Z (.cond c a b) Q e s:=fun f h hr=>by
  obtain ⟨E,i,S,R⟩:=id hr
  have:=R.ev c
  rw [hc] at this
  have hv:=this.bool_inv
  unfold awp
  simp only [hv]
  cases t
  · exact h2 rfl f h hr
  · exact h1 rfl f h hr
theorem w_blk {id:Nat} {a:AC} (hk:pwp P Z a (inBlkP id Q) e s):pwp P Z (.block id a) Q e s:=fun f h hr =>
  awp_mono a _ _ (fun x f h hx=>by
    obtain ⟨e,s,h1,h2⟩:=hx
    cases x with
    | exit id' =>
      show if id'=id then Lf Z (Q .normal) f h else Lf Z (Q (.exit id')) f h
      have h1':if id'=id then Q .normal e s else Q (.exit id') e s:=h1
      by_cases hi:id'=id
      · rw [if_pos hi] at h1' ⊢;exact ⟨e,s,h1',h2⟩
      · rw [if_neg hi] at h1' ⊢;exact ⟨e,s,h1',h2⟩
    | _=>exact ⟨e,s,h1,h2⟩) f h (hk f h hr)
theorem w_scp {a:AC} (hk:pwp P Z a (noGoP Q) e s):pwp P Z (.scope a) Q e s:=fun f h hr =>
  awp_mono a _ _ (fun x f h hx=>by
    obtain ⟨e,s,h1,h2⟩:=hx
    cases x with
    | goto l=>exact h1.elim
    | _=>exact ⟨e,s,h1,h2⟩) f h (hk f h hr)
theorem w_skip (hk:Q .normal e s):pwp P Z .skip Q e s:=fun f h hr=>⟨e,s,hk,hr⟩
theorem w_exit {id:Nat} (hk:Q (.exit id) e s):pwp P Z (.exit id) Q e s:=fun f h hr=>⟨e,s,hk,hr⟩
theorem w_ret (hk:Q .ret e s):pwp P Z .ret Q e s:=fun f h hr=>⟨e,s,hk,hr⟩
theorem t_nor {K:Env→List OB→Prop} (hk:K e s):thenP K Q .normal e s:=hk
theorem t_exit {K:Env→List OB→Prop} {id:Nat} (hk:Q (.exit id) e s):thenP K Q (.exit id) e s:=hk
theorem t_ret {K:Env→List OB→Prop} (hk:Q .ret e s):thenP K Q .ret e s:=hk
theorem i_nor {id:Nat} (hk:Q .normal e s):inBlkP id Q .normal e s:=hk
theorem i_exit {id:Nat} (hk:Q .normal e s):inBlkP id Q (.exit id) e s:=by
  show if id=id then _ else _
  rw [if_pos rfl]
  exact hk
theorem i_exit' {id id':Nat} (hk:Q (.exit id') e s) (hne:id'≠id:=by decide):inBlkP id Q (.exit id') e s:=by
  show if id'=id then _ else _
  rw [if_neg hne]
  exact hk
theorem i_ret {id:Nat} (hk:Q .ret e s):inBlkP id Q .ret e s:=hk
theorem g_nor (hk:Q .normal e s):noGoP Q .normal e s:=hk
theorem g_ret (hk:Q .ret e s):noGoP Q .ret e s:=hk

theorem w_lp {a:AC} (I:Nat→Env→List OB→Prop) (n:Nat) (h0:I n e s) (hr:∀ n e s,I n e s→pwp P Z a (thenP (fun e s=>∃ m,m < n∧I m e s) Q) e s):pwp P Z (.loop a) Q e s:=fun f h hrp=>by
  refine Ab.w_lp (fun n f h=>∃ e s,I n e s∧Rp Z e s f h) n ⟨e,s,h0,hrp⟩ (fun n f h ⟨e,s,hi,hr'⟩=>?_)
  refine awp_mono a _ _ (fun x f h hx=>?_) f h (hr n e s hi f h hr')
  obtain ⟨e,s,h1,h2⟩:=hx
  cases x with
  | normal=>obtain ⟨m,hm,hi⟩:=h1;exact ⟨m,hm,e,s,hi,h2⟩
  | _=>exact ⟨e,s,h1,h2⟩

def Gh (Z:Bs) (e:Env) (s:List OB) (e':Env) (s':List OB):Prop:=∀ f h,Rp Z e s f h→Rp Z e' s' f h
theorem w_goto {l:Nat} (hk:Q (.goto l) e s):pwp P Z (.goto l) Q e s:=fun f h hr=>⟨e,s,hk,hr⟩
theorem t_goto {K:Env→List OB→Prop} {l:Nat} (hk:Q (.goto l) e s):thenP K Q (.goto l) e s:=hk
theorem i_goto {id l:Nat} (hk:Q (.goto l) e s):inBlkP id Q (.goto l) e s:=hk
theorem k_nor {K:Env→List OB→Prop} {l:Nat} (hk:Q .normal e s):goKP l K Q .normal e s:=hk
theorem k_ret {K:Env→List OB→Prop} {l:Nat} (hk:Q .ret e s):goKP l K Q .ret e s:=hk
theorem k_exit {K:Env→List OB→Prop} {l id:Nat} (hk:Q (.exit id) e s):goKP l K Q (.exit id) e s:=hk
theorem k_goto {K:Env→List OB→Prop} {l:Nat} (hk:K e s):goKP l K Q (.goto l) e s:=⟨rfl,hk⟩

theorem w_lpG {a:AC} (I:Nat→Env→List OB→Prop) (n:Nat) (h0:I n e s) (hr:∀ n e s,I n e s→pwp P Z a (thenP (fun e s=>∃ m,m < n∧∃ e' s',Gh Z e s e' s'∧I m e' s') Q) e s):pwp P Z (.loop a) Q e s:=fun f h hrp=>by
  refine Ab.w_lp (fun n f h=>∃ e s,I n e s∧Rp Z e s f h) n ⟨e,s,h0,hrp⟩ (fun n f h ⟨e,s,hi,hr'⟩=>?_)
  refine awp_mono a _ _ (fun x f h hx=>?_) f h (hr n e s hi f h hr')
  obtain ⟨e,s,h1,h2⟩:=hx
  cases x with
  | normal=>obtain ⟨m,hm,e',s',hg,hi⟩:=h1;exact ⟨m,hm,e',s',hi,hg f h h2⟩
  | _=>exact ⟨e,s,h1,h2⟩
end
def CallK (K:PV→List OB→Prop) (Z:Bs) (v:Value) (h':Hp):Prop:=∃ p s' E' i',K p s'∧SR Z h' E' i' s'∧PR ⟨Hp.mask h' E',i',s'⟩ p v

def PCalls (P:Program) (g:FuncId) (args:List PV) (s:List OB) (K:PV→List OB→Prop):Prop :=
  ∀ h E i vs,SR ⟨h,E,i,s⟩ h E i s→PRs ⟨Hp.mask h E,i,s⟩ args vs→ACalls P g vs h (CallK K ⟨h,E,i,s⟩)
def prv (e:Env) (s:List OB):RV→Option PV
  | .tmp t=>some (e t)
  | .cell a n => match e a with
    | .ptr b o => match s[b]? with
      | some (.var l) => match n with
        | none=>l[o]?
        | some m=>if o+m≤l.length then some (.agg ((l.drop o).take m)) else none
      | _=>none
    | _=>none
def prvs (e:Env) (s:List OB):List RV→Option (List PV)
  | []=>some []
  | r :: l => match prv e s r, prvs e s l with
    | some p,some ps=>some (p::ps)
    | _,_=>none
def onep (l:List PV):PV:=match l with
  | [p]=>p
  | l=>.tup l
def retP (rs:List RV) (K:PV→List OB→Prop):QP
  | .normal=>fun e s=>∃ l,prvs e s rs=some l∧K (onep l) s
  | .ret=>fun e s=>∃ l,prvs e s rs=some l∧K (onep l) s
  | _=>fun _ _=>False
theorem own_cells {h:Hp} {E:Nat→Bool} {i:Nat→Option Nat} {s:List OB} {Z:Bs} (S:SR Z h E i s) {b:Nat} {l:List PV} (hb:s[b]? = some (.var l)):∃ k cs,i b=some k∧E k=true∧h.blk? k=some ⟨cs,0,true⟩∧cs.all (·.oneCell')=true∧PRs ⟨Hp.mask h E,i,s⟩ l cs:=S.ob b _ hb
theorem blk_cell {h:Hp} {b o:Nat} {k:Blk} {v:Value} (hb:h.blk? b=some k) (hl:k.live=true) (hv:k.cells[o]? = some v):h.cell? ⟨b,o,none⟩=some v:=by
  have hlo:=(Hp.blk_lt hb).1
  unfold Hp.cell?
  rw [if_neg (by simpa using hlo)]
  simp [hb,hl,hv]
theorem blk_cells' {h:Hp} {b o n:Nat} {k:Blk} (hb:h.blk? b=some k) (hl:k.live=true) (hn:o+n≤k.cells.length):h.cells? ⟨b,o,none⟩ n=some ((k.cells.drop o).take n):=by
  have e:∀ (m i:Nat),h.cellsFrom ⟨b,o,none⟩ i m=h.cellsFrom ⟨b,0,none⟩ (o+i) m:=by
    intro m
    induction m with
    | zero=>intro i;rfl
    | succ m ih =>
      intro i
      simp only [Hp.cellsFrom]
      have e1:Addr.add ⟨b,o,none⟩ i=Addr.add ⟨b,0,none⟩ (o+i):=by
        unfold Addr.add
        by_cases hi:i=0
        · subst hi
          by_cases ho:o=0
          · subst ho;rfl
          · simp [ho]
        · simp [hi]
      rw [e1,ih (i+1)]
      rfl
  show h.cellsFrom _ 0 n=_
  rw [e n 0]
  exact blk_cells hb hl n o hn
theorem prv_rv {Z:Bs} {h:Hp} {E:Nat→Bool} {i:Nat→Option Nat} {s:List OB} {e:Env} {f:Fr} (S:SR Z h E i s) (R:ER ⟨Hp.mask h E,i,s⟩ e f) {r:RV} {p:PV} (hp:prv e s r=some p):∃ v,rv f h r=some v∧PR ⟨Hp.mask h E,i,s⟩ p v:=by
  cases r with
  | tmp t =>
    obtain rfl:e t=p:=by simpa [prv] using hp
    exact ⟨f t,rfl,R t⟩
  | cell a n =>
    unfold prv at hp
    simp only at hp
    split at hp
    · rename_i b o he
      split at hp
      · rename_i l hl
        obtain ⟨k,cs,q1,q2,q3,q4,q5⟩:=own_cells S hl
        have ha:=R a
        rw [he] at ha
        obtain ⟨k',q6,hv⟩:=ha.ptr_inv ⟨_,hl,rfl⟩
        have q6':i b=some k':=q6
        rw [q1] at q6'
        obtain rfl:=Option.some.inj q6'
        cases n with
        | none =>
          obtain ⟨v,k1,k2⟩:=q5.get hp
          refine ⟨v,?_,k2⟩
          simp only [rv,hv]
          exact blk_cell q3 rfl k1
        | some m =>
          simp only at hp
          split at hp
          · rename_i hle
            obtain rfl:=Option.some.inj hp
            have q7:=(q5.drop o).take m
            refine ⟨.agg ((cs.drop o).take m).toArray,?_,.agg _ _ q7.1 q7.2⟩
            simp only [rv,hv]
            rw [blk_cells' q3 rfl (by show o+m≤cs.length;rw [← q5.1];exact hle)]
            rfl
          · simp at hp
      · simp at hp
    · simp at hp
theorem prvs_rvs {Z:Bs} {h:Hp} {E:Nat→Bool} {i:Nat→Option Nat} {s:List OB} {e:Env} {f:Fr} (S:SR Z h E i s) (R:ER ⟨Hp.mask h E,i,s⟩ e f):∀ {rs:List RV} {l:List PV},prvs e s rs=some l→∃ vs,rvs f h rs=some vs∧PRs ⟨Hp.mask h E,i,s⟩ l vs
  | [], l, hl => by
    obtain rfl:[]=l:=by simpa [prvs] using hl
    exact ⟨[],rfl,.nil _⟩
  | r :: rs, l, hl => by
    unfold prvs at hl
    split at hl
    · rename_i p ps h1 h2
      obtain rfl:=Option.some.inj hl
      obtain ⟨v,k1,k2⟩:=prv_rv S R h1
      obtain ⟨vs,k3,k4⟩:=prvs_rvs S R h2
      exact ⟨v::vs,by simp only [rvs,k1,k3],.cons k2 k4⟩
    · simp at hl
theorem onep_PR {X:Cx} {l:List PV} {vs:List Value} (h:PRs X l vs):PR X (onep l) (one vs):=by
  unfold onep one
  cases l with
  | nil =>
    have:vs=[]:=List.eq_nil_of_length_eq_zero h.1.symm
    subst this
    exact .tup [] [] rfl (fun j p v h=>by simp at h)
  | cons p l =>
    obtain ⟨v,t,rfl,h1,h2⟩:=h.uncons
    cases l with
    | nil =>
      have:t=[]:=List.eq_nil_of_length_eq_zero h2.1.symm
      subst this
      exact h1
    | cons q l =>
      obtain ⟨v2,t2,rfl,h3,h4⟩:=h2.uncons
      exact .tup _ _ h.1 h.2

theorem told_call {P:Program} {g N:Nat} {ac:AC} {rs:List RV} (t:IsTold P g N ac rs) {args:List PV} {s:List OB} {K:PV→List OB→Prop} (hk:∀ Z:Bs,Z.s=s→pwp P Z ac (retP rs K) (initE args) s) (ha:args.length≤N:=by first | decide | simp):PCalls P g args s K:=by
  intro h E i vs S A
  refine t.call ?_ (by rw [← A.1];exact ha)
  refine awp_mono ac _ _ (fun x f h' hx=>?_) _ _ (hk ⟨h,E,i,s⟩ rfl (initF vs) h ⟨E,i,S,.init A⟩)
  obtain ⟨e,s',h1,E',i',S',R'⟩:=hx
  have fin:∀ l,prvs e s' rs=some l→K (onep l) s'→∃ l,rvs f h' rs=some l∧CallK K ⟨h,E,i,s⟩ (one l) h':=fun l hl hK=>by
    obtain ⟨us,k1,k2⟩:=prvs_rvs S' R' hl
    exact ⟨us,k1,onep l,s',E',i',hK,S',onep_PR k2⟩
  cases x with
  | normal=>obtain ⟨l,hl,hK⟩:=h1;exact fin l hl hK
  | ret=>obtain ⟨l,hl,hK⟩:=h1;exact fin l hl hK
  | _=>exact h1.elim
end Go.Proofs.Ytcffpnlochillaa.Pv
namespace Go.Proofs.Ytcffpnlochillaa.Pv
open Go.RowKit Go.Proofs.Ytcffpnlochillaa.Ab
structure Mk (t:Nat) (p:Prop):Prop where i::o:p
abbrev Lk:=Mk 0
theorem Lk.i {p:Prop} (h:p):Lk p:=⟨h⟩
abbrev Vl:=Mk 1
theorem Vl.i {p:Prop} (h:p):Vl p:=⟨h⟩
abbrev Am:=Mk 2
theorem Am.i {p:Prop} (h:p):Am p:=⟨h⟩
abbrev Rf:=Mk 3
theorem Rf.i {p:Prop} (h:p):Rf p:=⟨h⟩
abbrev Om:=Mk 4
theorem Om.i {p:Prop} (h:p):Om p:=⟨h⟩
abbrev Mp:=Mk 6
abbrev Rs:=Mk 7
abbrev Pu:=Mk 9
theorem Pu.i {p:Prop} (h:p):Pu p:=⟨h⟩
abbrev Vw:=Mk 11
theorem Vw.i {p:Prop} (h:p):Vw p:=⟨h⟩
def toV:PV→Option Value
  | .int k n=>some (.int k n)
  | .bool b=>some (.bool b)
  | .str s=>some (.string s)
  | _=>none
theorem toV_inv {X:Cx} {p:PV} {u v:Value} (h:toV p=some u) (hp:PR X p v):v=u:=by
  unfold toV at h
  split at h
  · obtain rfl:=Option.some.inj h;exact hp.int_inv
  · obtain rfl:=Option.some.inj h;exact hp.bool_inv
  · obtain rfl:=Option.some.inj h;exact hp.str_inv
  · simp at h
def cellsP:PV→List PV
  | .agg l=>l
  | p=>[p]
def one1:PV→Bool
  | .agg _ | .tup _ | .und=>false
  | _=>true
theorem one1_one {X:Cx} {p:PV} {v:Value} (h:one1 p=true) (hp:PR X p v):v.oneCell'=true∧v.cells = #[v]:=by
  cases p with
  | und=>simp [one1] at h
  | agg l=>simp [one1] at h
  | tup l=>simp [one1] at h
  | int k n=>obtain rfl:=hp.int_inv;exact ⟨rfl,rfl⟩
  | bool b=>obtain rfl:=hp.bool_inv;exact ⟨rfl,rfl⟩
  | str b=>obtain rfl:=hp.str_inv;exact ⟨rfl,rfl⟩
  | nilI=>obtain rfl:=hp.nilI_inv;exact ⟨rfl,rfl⟩
  | nilF=>obtain rfl:=hp.nilF_inv;exact ⟨rfl,rfl⟩
  | nilP=>obtain rfl:=hp.nilP_inv;exact ⟨rfl,rfl⟩
  | nilS=>obtain rfl:=hp.nilS_inv;exact ⟨rfl,rfl⟩
  | ifc t q=>obtain ⟨u,rfl,_⟩:=hp.ifc_inv;exact ⟨rfl,rfl⟩
  | fn g a b=>obtain ⟨a',b',rfl,_⟩:=hp.fn_inv;exact ⟨rfl,rfl⟩
  | ptr b o=>obtain ⟨a,rfl⟩:=hp.ptr_form;exact ⟨rfl,rfl⟩
  | osl b n=>obtain ⟨A,m,c,rfl⟩:=hp.osl_form;exact ⟨rfl,rfl⟩
  | osb b n lo m=>obtain ⟨A,k,c,rfl⟩:=hp.osb_form;exact ⟨rfl,rfl⟩
  | oel b n i o=>obtain ⟨a,rfl⟩:=hp.oel_form;exact ⟨rfl,rfl⟩
  | sl d l=>obtain ⟨A,c,rw,rfl,_⟩:=hp.sl_inv';exact ⟨rfl,rfl⟩
  | elt d l i o=>obtain ⟨a,n,c,rw,rfl,_⟩:=hp.elt_inv;exact ⟨rfl,rfl⟩
  | ref l o=>obtain ⟨a,cs,rfl,_⟩:=hp.ref_inv;exact ⟨rfl,rfl⟩

theorem cellsP_PR {X:Cx} {p:PV} {v:Value} (hp:PR X p v) {c:List PV} (hc:cellsP p=c) (h1:c.all one1=true):PRs X c v.cells.toList∧v.cells.toList.all (·.oneCell')=true:=by
  subst hc
  have key:∀ (l:List PV) (us:List Value),PRs X l us→l.all one1=true→us.all (·.oneCell')=true:=by
    intro l
    induction l with
    | nil =>
      intro us h _
      have:us=[]:=List.eq_nil_of_length_eq_zero h.1.symm
      subst this;rfl
    | cons q l ih =>
      intro us h h1
      obtain ⟨u,t,rfl,k1,k2⟩:=h.uncons
      rw [List.all_cons,Bool.and_eq_true] at h1 ⊢
      exact ⟨(one1_one h1.1 k1).1,ih t k2 h1.2⟩
  by_cases hq:∃ l,p = .agg l
  · obtain ⟨l,rfl⟩:=hq
    obtain ⟨a,rfl,ha⟩:=hp.agg_inv
    have e:(Value.agg a.toArray).cells.toList=a:=by simp [Value.cells]
    rw [e]
    exact ⟨ha,key l a ha h1⟩
  · have e:cellsP p=[p]:=by cases p <;> first | rfl | exact absurd ⟨_,rfl⟩ hq
    rw [e] at h1 ⊢
    rw [List.all_cons,Bool.and_eq_true] at h1
    obtain ⟨k1,k2⟩:=one1_one h1.1 hp
    rw [k2]
    exact ⟨.one hp,by simp [k1]⟩

inductive As (s:List OB):PV→(d:D)→List d.T→Prop where
  | sl (d:D) (l:List d.T):As s (.sl d l) d l
  | nil (d:D):As s .nilS d []
  | arr (b n:Nat) (d:D) (l:List d.T) (hb:s[b]? = some (.arr d l)) (hn:n=l.length):As s (.osl b n) d l
  | row (b n:Nat) (c:List PV) (d:D) (l:List d.T) (hb:s[b]? = some (.row d.sz n c)) (hd:decs d n c=some l):As s (.osl b n) d l
theorem blk_row {h:Hp} {b es n c:Nat} {us:List Value} (hb:h.blk? b=some ⟨us,es,true⟩) (hn:us.length=n * es):rowV h es (.slice (some ⟨b,0,none⟩) n c)=some us:=by
  show h.cells? _ _=_
  rw [blk_cells' hb rfl (by show 0+n * es≤us.length;omega)]
  simp only [List.drop_zero]
  rw [← hn,List.take_length]
theorem As.view {Z:Bs} {h:Hp} {E:Nat→Bool} {i:Nat→Option Nat} {s:List OB} (S:SR Z h E i s) {p:PV} {d:D} {l:List d.T} (a:As s p d l) {v:Value} (hp:PR ⟨Hp.mask h E,i,s⟩ p v) :
    ∃ A c us,v = .slice A l.length c∧l.length≤c∧rowV h d.sz v=some us∧Chunks (d.Is (Hp.mask h E)) l us:=by
  cases a with
  | sl =>
    obtain ⟨A,c,rw,rfl,h0,h1,h2⟩:=hp.sl_inv'
    exact ⟨A,c,rw,rfl,h0,(mask_sub h E).row h1,h2⟩
  | nil =>
    obtain rfl:=hp.nilS_inv
    exact ⟨none,0,[],rfl,Nat.le_refl _,rfl,rfl⟩
  | arr b n d l hb hn =>
    obtain ⟨hd,hob⟩:=S.ob b _ hb
    subst hn
    rcases hp.osl_inv _ _ ⟨_,hb,rfl⟩ with h1 | ⟨-,c,hc,hv⟩
    · omega
    · rcases hob with ⟨k1,rfl⟩ | ⟨k,us,k1,k2,k3,k4⟩
      · have k1':i b=none:=k1
        simp only [k1',slV] at hv
        exact ⟨none,0,[],hv,Nat.le_refl _,by rw [hv];rfl,rfl⟩
      · have k1':i b=some k:=k1
        simp only [k1',slV] at hv
        have hl:=Chunks_len k4
        exact ⟨_,c,us,hv,by omega,by rw [hv];exact blk_row k3 hl,k4⟩
  | row b n c d l hb hd =>
    obtain ⟨k,cs,k1,k2,k3,k4,k5,k6⟩:=S.ob b _ hb
    obtain ⟨q1,q2⟩:=decs_is n _ _ _ hd k6
    rcases hp.osl_inv _ _ ⟨_,hb,rfl⟩ with h1 | ⟨-,c,hc,hv⟩
    · omega
    · have k1':i b=some k:=k1
      simp only [k1',slV] at hv
      have hl:=Chunks_len q1
      rw [q2] at hl ⊢
      exact ⟨_,c,cs,hv,by omega,by rw [hv];exact blk_row k3 hl,q1⟩
section
variable {P:Program} {Z:Bs} {K:Env→List OB→Prop} {Q:QP} {e:Env} {s s':List OB} {cs:List CO} {pr:List Operand} {d:Option Nat} {kp:Bool} {x y z:Operand} {p q r:PV} {u v w:Value} {b o n m i j:Nat} {l c:List PV} {D':D}
theorem ER.at {X:Cx} {f:Fr} (R:ER X e f) (hx:evE e x=p):PR X p (evF f x):=hx ▸ R.ev x
theorem p_f {fo:FOp} (hr:∀ f h E i,SR Z h E i s→ER ⟨Hp.mask h E,i,s⟩ e f→∃ v,fo.run P (evF f) h h.next=some (v,none)∧PR ⟨Hp.mask h E,i,s⟩ p v) (hk:pops P Z (rdF fo pr) cs K (putE e d p) s):pops P Z pr (⟨d,none,kp,.f fo⟩::cs) K e s:=fun f h ⟨E,i,S,R⟩=>by
  obtain ⟨v,h1,h2⟩:=hr f h E i S R
  exact s_f h1 (hk _ _ ⟨E,i,S,R.put h2⟩)
theorem q_mv (hx:Lk (evE e x=p)) (hk:pops P Z pr cs K (putE e d p) s):pops P Z pr (⟨d,none,kp,.f (.mv x)⟩::cs) K e s :=
  p_f (fun f h E i S R=>⟨_,by simp only [FOp.run],R.at hx.o⟩) hk
theorem q_bin {op:BinOp} (hx:Lk (toV (evE e x)=some u)) (hy:Lk (toV (evE e y)=some w)) (hv:Vl (abin op u w=some v)) (hk:pops P Z pr cs K (putE e d (ofC v)) s):pops P Z pr (⟨d,none,kp,.f (.bin op x y)⟩::cs) K e s :=
  p_f (fun f h E i S R=>⟨v,by simp only [FOp.run,toV_inv hx.o (R.ev x),toV_inv hy.o (R.ev y),hv.o,Option.map_some],ofC_PR _ v⟩) hk
theorem q_un {op:UnOp} (hx:Lk (toV (evE e x)=some u)) (hv:Vl (aun op u=some v)) (hk:pops P Z pr cs K (putE e d (ofC v)) s):pops P Z pr (⟨d,none,kp,.f (.un op x)⟩::cs) K e s :=
  p_f (fun f h E i S R=>⟨v,by simp only [FOp.run,toV_inv hx.o (R.ev x),hv.o,Option.map_some],ofC_PR _ v⟩) hk
theorem q_cvt {k k':IntKind} {a b:Int} (hx:Lk (evE e x = .int k' a)) (hv:Vl (k.wrap a=b)) (hk:pops P Z pr cs K (putE e d (.int k b)) s):pops P Z pr (⟨d,none,kp,.f (.cvt k x)⟩::cs) K e s :=
  p_f (fun f h E i S R=>⟨.int k b,by simp only [FOp.run,(R.at hx.o).int_inv,hv.o],.int k b⟩) hk
theorem q_eqB {ne a b r:Bool} (hx:Lk (evE e x = .bool a)) (hy:Lk (evE e y = .bool b)) (hv:Vl (nb ne (a == b)=r)) (hk:pops P Z pr cs K (putE e d (.bool r)) s):pops P Z pr (⟨d,none,kp,.f (.eqB ne x y)⟩::cs) K e s :=
  p_f (fun f h E i S R=>⟨.bool r,by simp only [FOp.run,(R.at hx.o).bool_inv,(R.at hy.o).bool_inv,hv.o],.bool r⟩) hk
def peqI (P:Program) (ne c:Bool):PV→PV→Option Bool
  | .nilI,.nilI=>if c then some (nb ne true) else none
  | .nilI,.ifc _ _=>some (nb ne false)
  | .ifc _ _,.nilI=>some (nb ne false)
  | .ifc t v, .ifc u x => if t ≠ u then some (nb ne false) else
    match v,x with
    | .int k a,.int k' b=>if k=k'∧cmpInt P t=true then some (nb ne (a == b)) else none
    | _,_=>none
  | _,_=>none
theorem peqI_run {X:Cx} {ne c r:Bool} (h:peqI P ne c p q=some r) (hp:PR X p v) (hq:PR X q w):aeqI P ne c v w=some (.bool r):=by
  unfold peqI at h
  split at h
  · obtain rfl:=hp.nilI_inv
    obtain rfl:=hq.nilI_inv
    split at h
    · rename_i hc
      obtain rfl:=Option.some.inj h
      simp only [aeqI,hc,if_true]
    · simp at h
  · obtain rfl:=hp.nilI_inv
    obtain ⟨u,rfl,_⟩:=hq.ifc_inv
    obtain rfl:=Option.some.inj h
    rfl
  · obtain rfl:=hq.nilI_inv
    obtain ⟨u,rfl,_⟩:=hp.ifc_inv
    obtain rfl:=Option.some.inj h
    rfl
  · obtain ⟨u,rfl,hu⟩:=hp.ifc_inv
    obtain ⟨u',rfl,hu'⟩:=hq.ifc_inv
    split at h
    · rename_i hne
      obtain rfl:=Option.some.inj h
      simp only [aeqI,if_pos hne]
    · rename_i hne
      split at h
      · obtain rfl:=hu.int_inv
        obtain rfl:=hu'.int_inv
        split at h
        · rename_i hk
          obtain rfl:=Option.some.inj h
          simp only [aeqI,if_neg hne,if_pos hk]
        · simp at h
      · simp at h
  · simp at h
theorem q_eqI {ne r:Bool} (hx:Lk (evE e x=p)) (hy:Lk (evE e y=q)) (hv:Vl (peqI P ne (isC x || isC y) p q=some r)) (hk:pops P Z pr cs K (putE e d (.bool r)) s):pops P Z pr (⟨d,none,kp,.f (.eqI ne x y)⟩::cs) K e s :=
  p_f (fun f h E i S R=>⟨.bool r,by simp only [FOp.run,peqI_run hv.o (R.at hx.o) (R.at hy.o),Option.map_some],.bool r⟩) hk

def isNilP:PV→Option Bool
  | .nilP=>some true
  | .ref _ _=>some false
  | .elt _ _ _ _=>some false
  | .ptr _ _=>some false
  | .oel _ _ _ _=>some false
  | _=>none
theorem isNilP_run {X:Cx} {ne a:Bool} (h:isNilP p=some a) (hp:PR X p v):aeqN 0 ne v (.pointer none)=some (.bool (nb ne a)):=by
  unfold isNilP at h
  split at h
  · obtain rfl:=hp.nilP_inv;obtain rfl:=Option.some.inj h;rfl
  · obtain ⟨a,cs,rfl,_⟩:=hp.ref_inv;obtain rfl:=Option.some.inj h;rfl
  · obtain ⟨a,n,c,rw,rfl,_⟩:=hp.elt_inv;obtain rfl:=Option.some.inj h;rfl
  · obtain ⟨a,rfl⟩:=hp.ptr_form;obtain rfl:=Option.some.inj h;rfl
  · obtain ⟨a,rfl⟩:=hp.oel_form;obtain rfl:=Option.some.inj h;rfl
  · simp at h
theorem q_eqP {ne a r:Bool} (hx:Lk (evE e x=p)) (hy:Lk (evE e y = .nilP)) (hp:Rf (isNilP p=some a)) (hv:Vl (nb ne a=r)) (hk:pops P Z pr cs K (putE e d (.bool r)) s):pops P Z pr (⟨d,none,kp,.f (.eqN 0 ne x y)⟩::cs) K e s :=
  p_f (fun f h E i S R=>⟨.bool r,by simp only [FOp.run,(R.at hy.o).nilP_inv,isNilP_run hp.o (R.at hx.o),hv.o,Option.map_some],.bool r⟩) hk
theorem q_eqF1 {ne r:Bool} {g:FuncId} {a b:List PV} (hx:Lk (evE e x = .fn g a b)) (hy:Lk (evE e y = .nilF)) (hv:Vl (nb ne false=r)) (hk:pops P Z pr cs K (putE e d (.bool r)) s):pops P Z pr (⟨d,none,kp,.f (.eqN 2 ne x y)⟩::cs) K e s :=
  p_f (fun f h E i S R=>⟨.bool r,by
    obtain ⟨a',b',h1,_⟩:=(R.at hx.o).fn_inv
    simp only [FOp.run,(R.at hy.o).nilF_inv,h1,aeqN,if_true,hv.o,Option.map_some],.bool r⟩) hk
theorem q_eqF0 {ne r:Bool} (hx:Lk (evE e x = .nilF)) (hy:Lk (evE e y = .nilF)) (hv:Vl (nb ne true=r)) (hk:pops P Z pr cs K (putE e d (.bool r)) s):pops P Z pr (⟨d,none,kp,.f (.eqN 2 ne x y)⟩::cs) K e s :=
  p_f (fun f h E i S R=>⟨.bool r,by simp only [FOp.run,(R.at hy.o).nilF_inv,(R.at hx.o).nilF_inv,aeqN,if_true,hv.o,Option.map_some],.bool r⟩) hk
theorem q_eqS0 {ne r:Bool} (hx:Lk (evE e x = .nilS)) (hy:Lk (evE e y = .nilS)) (hv:Vl (nb ne true=r)) (hk:pops P Z pr cs K (putE e d (.bool r)) s):pops P Z pr (⟨d,none,kp,.f (.eqN 1 ne x y)⟩::cs) K e s :=
  p_f (fun f h E i S R=>⟨.bool r,by simp only [FOp.run,(R.at hy.o).nilS_inv,(R.at hx.o).nilS_inv,aeqN,if_true,Option.isNone_none,hv.o,Option.map_some],.bool r⟩) hk

theorem q_eqSl {ne:Bool} {l:List D'.T} (hx:Lk (evE e x = .sl D' l)) (hy:Lk (evE e y = .nilS)) (hk:∀ r:Bool,(r=true→l=[])→pops P Z pr cs K (putE e d (.bool (nb ne r))) s):pops P Z pr (⟨d,none,kp,.f (.eqN 1 ne x y)⟩::cs) K e s:=fun f h ⟨E,i,S,R⟩=>by
  obtain ⟨A,c,rw,h1,h0,h2,h3⟩:=(R.at hx.o).sl_inv'
  refine s_f (v:=.bool (nb ne A.isNone)) (by simp only [FOp.run,h1,(R.at hy.o).nilS_inv,aeqN,if_true,Option.map_some]) (hk A.isNone (fun hA=>?_) _ _ ⟨E,i,S,R.put (.bool _)⟩)
  cases A with
  | some a=>simp at hA
  | none =>
    unfold rowV at h2
    simp only at h2
    split at h2
    · rename_i h4;exact List.eq_nil_of_length_eq_zero h4
    · simp at h2
theorem q_eqSo {ne r:Bool} {l:List D'.T} (hx:Lk (evE e x = .osl b n)) (hy:Lk (evE e y = .nilS)) (hb:Rf (s[b]? = some (.arr D' l))) (hn:Om (n=l.length)) (h0:Om (0 < l.length)) (hv:Vl (nb ne false=r)) (hk:pops P Z pr cs K (putE e d (.bool r)) s):pops P Z pr (⟨d,none,kp,.f (.eqN 1 ne x y)⟩::cs) K e s :=
  p_f (fun f h E i S R=>⟨.bool r,by
    have hn:=hn.o
    have h0:=h0.o
    obtain ⟨hd,hob⟩:=S.ob b _ hb.o
    rcases (R.at hx.o).osl_inv _ _ ⟨_,hb.o,rfl⟩ with h1 | ⟨-,c,hc,hv'⟩
    · omega
    · rcases hob with ⟨k1,rfl⟩ | ⟨k,us,k1,k2,k3,k4⟩
      · simp at h0
      · have k1':i b=some k:=k1
        simp only [k1',slV] at hv'
        simp only [FOp.run,hv',(R.at hy.o).nilS_inv,aeqN,if_true,Option.isNone_some,hv.o,Option.map_some],.bool r⟩) hk
theorem q_str {t:ByteArray} (hx:Lk (evE e x = .str t)) (hk:pops P Z pr cs K (putE e d (.str t)) s):pops P Z pr (⟨d,none,kp,.f (.str x)⟩::cs) K e s :=
  p_f (fun f h E i S R=>⟨.string t,by simp only [FOp.run,(R.at hx.o).str_inv],.str t⟩) hk

def sOf (l:List Int):ByteArray:=⟨(l.map fun x=>UInt8.ofNat x.toNat).toArray⟩
theorem strOf_map:∀ l:List Int,strOf (l.map (Value.int .u8))=some (l.map fun x=>UInt8.ofNat x.toNat)
  | []=>rfl
  | x :: l => by
    show strOf (.int .u8 x::l.map (Value.int .u8))=_
    unfold strOf
    rw [strOf_map l]
    rfl
theorem Chunks_int {m:Hp} {k:IntKind}:∀ {l:List Int} {us:List Value},Chunks ((D.int k).Is m) l us→us=l.map (Value.int k)
  | [],us,h=>h
  | x :: l, us, ⟨c, t, e, h1, h2⟩ => by
    have e1:c=[.int k x]:=h1
    rw [e,e1,Chunks_int h2]
    rfl
theorem q_b2s {l:List Int} (hx:Lk (evE e x=p)) (ha:Vw (As s p (.int .u8) l)) (hk:pops P Z (x::pr) cs K (putE e d (.str (sOf l))) s):pops P Z pr (⟨d,none,kp,.f (.b2s x)⟩::cs) K e s:=fun f h ⟨E,i,S,R⟩=>by
  obtain ⟨A,c,us,h1,h0,h2,h3⟩:=ha.o.view S (R.at hx.o)
  rw [h1] at h2
  have e:=Chunks_int h3
  exact s_b2s h1 h2 (by rw [e];exact strOf_map l) (hk _ _ ⟨E,i,S,R.put (.str _)⟩)
theorem q_mkI {t:TypeId} (hx:Lk (evE e x=p)) (hk:pops P Z pr cs K (putE e d (.ifc t p)) s):pops P Z pr (⟨d,none,kp,.f (.mkI t x)⟩::cs) K e s :=
  p_f (fun f h E i S R=>⟨_,by simp only [FOp.run],.ifc t _ _ (R.at hx.o)⟩) hk
theorem mp_z:Mp ([].map (evE e)=[]):=⟨rfl⟩
theorem mp_s {xs:List Operand} {ps:List PV} (h1:Lk (evE e x=p)) (h2:Mp (xs.map (evE e)=ps)):Mp ((x::xs).map (evE e)=p::ps):=⟨by rw [List.map_cons,h1.o,h2.o]⟩
theorem ER.map {X:Cx} {f:Fr} (R:ER X e f) {xs:List Operand} {ps:List PV} (h:xs.map (evE e)=ps):PRs X ps (xs.map (evF f)):=by
  rw [← h]
  exact PRs.map fun x _=>R.ev x
theorem q_mkF {g:FuncId} {A B:List Operand} {pa pb:List PV} (ha:Mp (A.map (evE e)=pa)) (hb:Mp (B.map (evE e)=pb)) (hk:pops P Z pr cs K (putE e d (.fn g pa pb)) s):pops P Z pr (⟨d,none,kp,.f (.mkF (.func g) A B)⟩::cs) K e s :=
  p_f (fun f h E i S R=>⟨_,by simp only [FOp.run],PR.fn g pa pb _ _ (R.map ha.o).1 (R.map hb.o).1 (R.map ha.o).2 (R.map hb.o).2⟩) hk
theorem q_ext (hx:Lk (evE e x = .tup l)) (hv:Vl (l[i]? = some p)) (hk:pops P Z pr cs K (putE e d p) s):pops P Z pr (⟨d,none,kp,.f (.ext x i)⟩::cs) K e s :=
  p_f (fun f h E i' S R=>by
    obtain ⟨a,h1,h2⟩:=(R.at hx.o).tup_inv
    obtain ⟨v,h3,h4⟩:=h2.get hv.o
    exact ⟨v,by simp only [FOp.run,h1,List.getElem?_toArray,h3,Option.map_some],h4⟩) hk
theorem q_fld {off:Nat} (hx:Lk (evE e x = .agg l)) (hv:Vl (l[off]? = some p)) (hk:pops P Z pr cs K (putE e d p) s):pops P Z pr (⟨d,none,kp,.f (.fld off none x)⟩::cs) K e s :=
  p_f (fun f h E i' S R=>by
    obtain ⟨a,h1,h2⟩:=(R.at hx.o).agg_inv
    obtain ⟨v,h3,h4⟩:=h2.get hv.o
    exact ⟨v,by simp only [FOp.run,h1,List.getElem?_toArray,h3,Option.map_some],h4⟩) hk
theorem q_fldn {off:Nat} (hx:Lk (evE e x = .agg l)) (hv:Pu ((l.drop off).take m=c)) (hk:pops P Z pr cs K (putE e d (.agg c)) s):pops P Z pr (⟨d,none,kp,.f (.fld off (some m) x)⟩::cs) K e s :=
  p_f (fun f h E i' S R=>by
    obtain ⟨a,h1,h2⟩:=(R.at hx.o).agg_inv
    have h3:=(h2.drop off).take m
    rw [hv.o] at h3
    refine ⟨.agg ((a.drop off).take m).toArray,?_,.agg _ _ h3.1 h3.2⟩
    simp only [FOp.run,h1,Option.map_some]
    congr 4
    rw [List.extract_toArray,List.extract_eq_take_drop,Nat.add_sub_cancel_left]) hk
def psel (p:PV) (A B:Prop):Prop:=match p with
  | .bool true=>A
  | .bool false=>B
  | _=>False
def gsel (p:PV) (b:Bool) (A B:Prop):Prop:=match p with
  | .bool x=>if x=b then A else B
  | .tup _=>B
  | _=>False
section
variable {A B:Prop}
theorem gs1 (h:A):gsel (.bool true) true A B:=by simpa [gsel] using h
theorem gs2 (h:A):gsel (.bool false) false A B:=by simpa [gsel] using h
theorem gs3 (h:B):gsel (.bool true) false A B:=by simpa [gsel] using h
theorem gs4 (h:B):gsel (.bool false) true A B:=by simpa [gsel] using h
theorem gs5 {l:List PV} {b:Bool} (h:B):gsel (.tup l) b A B:=h
theorem ps1 (h:A):psel (.bool true) A B:=h
theorem ps2 (h:B):psel (.bool false) A B:=h
end
theorem a_pk {f:Fr} {h:Hp} {KK:Fr→Hp→Prop} {t:Bool} (hc:evF f z = .bool t) (hk:aops P pr (⟨d,none,kp,.f (.mv (if t=true then x else y))⟩::cs) KK f h):aops P pr (⟨d,none,kp,.f (.pick z x y)⟩::cs) KK f h:=by
  unfold aops at hk ⊢
  rw [if_pos (show wantC none f=true from rfl)] at hk ⊢
  obtain ⟨v,k,h1,h2⟩:=hk
  refine ⟨v,k,?_,h2⟩
  rcases h1 with h1 | ⟨_,_,_,_,_,_,_,h1,_⟩
  · left
    cases t <;> simpa [FOp.run,hc] using h1
  · simp at h1
theorem pk_t (hc:evE e z = .bool true) (hk:pops P Z pr (⟨d,none,kp,.f (.mv x)⟩::cs) K e s):pops P Z pr (⟨d,none,kp,.f (.pick z x y)⟩::cs) K e s:=fun f h hr=>by
  obtain ⟨E,i,S,R⟩:=id hr
  exact a_pk (t:=true) (R.at hc).bool_inv (hk f h hr)
theorem pk_f (hc:evE e z = .bool false) (hk:pops P Z pr (⟨d,none,kp,.f (.mv y)⟩::cs) K e s):pops P Z pr (⟨d,none,kp,.f (.pick z x y)⟩::cs) K e s:=fun f h hr=>by
  obtain ⟨E,i,S,R⟩:=id hr
  exact a_pk (t:=false) (R.at hc).bool_inv (hk f h hr)
theorem q_pk (hc:Lk (evE e z=p)) (hk:psel p (pops P Z pr (⟨d,none,kp,.f (.mv x)⟩::cs) K e s) (pops P Z pr (⟨d,none,kp,.f (.mv y)⟩::cs) K e s)):pops P Z pr (⟨d,none,kp,.f (.pick z x y)⟩::cs) K e s:=by
  have hc:=hc.o
  unfold psel at hk
  split at hk
  · exact pk_t hc hk
  · exact pk_f hc hk
  · exact hk.elim
theorem q_gd {t:Nat} {b:Bool} {op:COp} (hs:Lk (evE e (.tmp t)=p)) (hk:gsel p b (pops P Z pr (⟨d,none,kp,op⟩::cs) K e s) (pops P Z (rdO op pr) cs K (putE e d (.tup [])) s)):pops P Z pr (⟨d,some (t,b),kp,op⟩::cs) K e s:=fun f h hr=>by
  obtain ⟨E,i,S,R⟩:=id hr
  have h1:=R.at hs.o
  have h1:PR ⟨Hp.mask h E,i,s⟩ p (f t):=h1
  have no:wantC (some (t,b)) f=false→pops P Z (rdO op pr) cs K (putE e d (.tup [])) s→aops P pr (⟨d,some (t,b),kp,op⟩::cs) (Lf Z K) f h:=fun hw hk=>by
    unfold aops
    rw [if_neg (by rw [hw];simp)]
    exact hk _ _ ⟨E,i,S,R.put (undef_PR _)⟩
  unfold gsel at hk
  split at hk
  · rename_i x
    have h2:=h1.bool_inv
    split at hk
    · rename_i hxb
      have h3:=hk f h hr
      unfold aops at h3 ⊢
      rw [if_pos (show wantC (some (t,b)) f=true by simp [wantC,h2,hxb])]
      rw [if_pos (show wantC none f=true from rfl)] at h3
      exact h3
    · rename_i hxb
      exact no (by simp [wantC,h2,hxb]) hk
  · obtain ⟨a,h2,_⟩:=h1.tup_inv
    exact no (by simp [wantC,h2]) hk
  · exact hk.elim
theorem q_cd {a b:AC} (hc:Lk (evE e z=p)) (hk:psel p (pwp P Z a Q e s) (pwp P Z b Q e s)):pwp P Z (.cond z a b) Q e s:=by
  have hc:=hc.o
  unfold psel at hk
  split at hk
  · exact w_cond hc (fun _=>hk) (fun h=>by simp at h)
  · exact w_cond hc (fun h=>by simp at h) (fun _=>hk)
  · exact hk.elim

def putP (cs:List PV) (off:Nat):List PV→List PV
  | []=>cs
  | v::vs=>putP (cs.set off v) (off+1) vs
theorem PRs.set {X:Cx} {l:List PV} {us:List Value} (h:PRs X l us) (hp:PR X p v) (i:Nat):PRs X (l.set i p) (us.set i v) :=
  ⟨by simp [h.1],fun j q w hq hw=>by
    rw [List.getElem?_set] at hq hw
    by_cases e:i=j
    · subst e
      rw [if_pos rfl] at hq hw
      split at hq
      · rename_i hlt
        rw [if_pos (by rw [← h.1];exact hlt)] at hw
        obtain rfl:=Option.some.inj hq
        obtain rfl:=Option.some.inj hw
        exact hp
      · simp at hq
    · rw [if_neg e] at hq hw
      exact h.2 j q w hq hw⟩
theorem putP_PRs {X:Cx}:∀ {c:List PV} {vs:List Value} (hc:PRs X c vs) {l:List PV} {us:List Value} (hl:PRs X l us) (o:Nat),PRs X (putP l o c) (putAt us o vs)
  | [], vs, hc, l, us, hl, o => by
    have:vs=[]:=List.eq_nil_of_length_eq_zero hc.1.symm
    subst this
    exact hl
  | p :: c, vs, hc, l, us, hl, o => by
    obtain ⟨v,t,rfl,h1,h2⟩:=hc.uncons
    exact putP_PRs h2 (hl.set h1 o) (o+1)
theorem putP_len:∀ (c l:List PV) (o:Nat),(putP l o c).length=l.length
  | [],l,o=>rfl
  | p :: c, l, o => by
    show (putP (l.set o p) (o+1) c).length=_
    rw [putP_len c]
    simp
def fillP:List PV→List (Nat×Nat)→List PV→Option (List PV)
  | cs,[],[]=>some cs
  | cs,(off,size)::ps,v::vs=>if ((cellsP v).all one1 && (cellsP v).length == size && Nat.ble (off+size) cs.length)=true then fillP (putP cs off (cellsP v)) ps vs else none
  | _,_,_=>none
theorem fillP_run {X:Cx}:∀ {ps:List (Nat×Nat)} {l:List PV} {us:List Value} {vp:List PV} {vs:List Value} {r:List PV},fillP l ps vp=some r→PRs X l us→PRs X vp vs→∃ r',fillL us ps vs=some r'∧PRs X r r'
  | [], l, us, vp, vs, r, h, hl, hv => by
    cases vp with
    | nil =>
      have:vs=[]:=List.eq_nil_of_length_eq_zero hv.1.symm
      subst this
      obtain rfl:l=r:=by simpa [fillP] using h
      exact ⟨us,rfl,hl⟩
    | cons _ _=>simp [fillP] at h
  | (off, size) :: ps, l, us, vp, vs, r, h, hl, hv => by
    cases vp with
    | nil=>simp [fillP] at h
    | cons p vp =>
      obtain ⟨v,t,rfl,h1,h2⟩:=hv.uncons
      simp only [fillP] at h
      split at h
      · rename_i hc
        simp only [Bool.and_eq_true,beq_iff_eq] at hc
        obtain ⟨⟨c1,c2⟩,c3⟩:=hc
        obtain ⟨k1,k2⟩:=cellsP_PR h1 rfl c1
        obtain ⟨r',g1,g2⟩:=fillP_run h (putP_PRs k1 hl off) h2
        refine ⟨r',?_,g2⟩
        simp only [fillL]
        rw [if_pos ⟨by rw [← Array.length_toList,← k1.1,c2],by rw [← hl.1];exact Nat.le_of_ble_eq_true c3⟩]
        exact g1
      · simp at h
theorem q_bld {zero:List Value} {ps:List (Nat×Nat)} {xs:List Operand} {vp:List PV} (hx:Mp (xs.map (evE e)=vp)) (hr:Pu (fillP (zero.map ofC) ps vp=some l)) (hk:pops P Z pr cs K (putE e d (.agg l)) s):pops P Z pr (⟨d,none,kp,.f (.bld zero ps xs)⟩::cs) K e s :=
  p_f (fun f h E i' S R=>by
    obtain ⟨r',h1,h2⟩:=fillP_run hr.o (ofCs_PR _ zero) (R.map hx.o)
    exact ⟨.agg r'.toArray,by simp only [FOp.run,h1,Option.map_some],.agg _ _ h2.1 h2.2⟩) hk

theorem q_lns {t:ByteArray} (hx:Lk (evE e x = .str t)) (hk:pops P Z pr cs K (putE e d (.int .i64 t.size)) s):pops P Z pr (⟨d,none,kp,.f (.len true x)⟩::cs) K e s :=
  p_f (fun f h E i S R=>⟨.int .i64 t.size,by simp [FOp.run,(R.at hx.o).str_inv],.int _ _⟩) hk
theorem q_ln {l:List D'.T} (hx:Lk (evE e x = .sl D' l)) (hk:pops P Z pr cs K (putE e d (.int .i64 l.length)) s):pops P Z pr (⟨d,none,kp,.f (.len false x)⟩::cs) K e s :=
  p_f (fun f h E i S R=>by
    obtain ⟨A,c,rw,h1,_⟩:=(R.at hx.o).sl_inv'
    exact ⟨.int .i64 l.length,by simp [FOp.run,h1],.int _ _⟩) hk
theorem q_ln0 (hx:Lk (evE e x = .nilS)) (hk:pops P Z pr cs K (putE e d (.int .i64 0)) s):pops P Z pr (⟨d,none,kp,.f (.len false x)⟩::cs) K e s :=
  p_f (fun f h E i S R=>⟨.int .i64 0,by simp [FOp.run,(R.at hx.o).nilS_inv],.int _ _⟩) hk
theorem q_lnO {l:List D'.T} (hx:Lk (evE e x = .osl b n)) (hb:Rf (s[b]? = some (.arr D' l))) (hn:Om (n=l.length)) (hk:pops P Z pr cs K (putE e d (.int .i64 l.length)) s):pops P Z pr (⟨d,none,kp,.f (.len false x)⟩::cs) K e s :=
  p_f (fun f h E i S R=>by
    obtain ⟨A,c,us,h1,_⟩:=(As.arr b n D' l hb.o hn.o).view S (R.at hx.o)
    exact ⟨.int .i64 l.length,by simp [FOp.run,h1],.int _ _⟩) hk
theorem q_lnR {es:Nat} (hx:Lk (evE e x = .osl b n)) (hb:Rf (s[b]? = some (.row es n l))) (hk:pops P Z pr cs K (putE e d (.int .i64 n)) s):pops P Z pr (⟨d,none,kp,.f (.len false x)⟩::cs) K e s :=
  p_f (fun f h E i S R=>by
    obtain ⟨k,cs,k1,_⟩:=S.ob b _ hb.o
    have k1:i b=some k:=k1
    rcases (R.at hx.o).osl_inv _ _ ⟨_,hb.o,rfl⟩ with h1 | ⟨-,c,hc,hv⟩
    · omega
    · simp only [k1,slV] at hv
      exact ⟨.int .i64 n,by simp [FOp.run,hv],.int _ _⟩) hk
theorem q_mn {k k':IntKind} {a b c:Int} (hx:Lk (evE e x = .int k a)) (hy:Lk (evE e y = .int k' b)) (hv:Vl ((if b < a then b else a)=c)) (hk:pops P Z pr cs K (putE e d (.int k c)) s):pops P Z pr (⟨d,none,kp,.f (.mn x y)⟩::cs) K e s :=
  p_f (fun f h E i S R=>⟨.int k c,by simp only [FOp.run,(R.at hx.o).int_inv,(R.at hy.o).int_inv,hv.o],.int _ _⟩) hk
theorem q_mx {k k':IntKind} {a b c:Int} (hx:Lk (evE e x = .int k a)) (hy:Lk (evE e y = .int k' b)) (hv:Vl ((if b > a then b else a)=c)) (hk:pops P Z pr cs K (putE e d (.int k c)) s):pops P Z pr (⟨d,none,kp,.f (.mx x y)⟩::cs) K e s :=
  p_f (fun f h E i S R=>⟨.int k c,by simp only [FOp.run,(R.at hx.o).int_inv,(R.at hy.o).int_inv,hv.o],.int _ _⟩) hk
def isChk:PV→Bool
  | .ptr _ _ | .ref _ _ | .elt _ _ _ _ | .oel _ _ _ _ | .fn _ _ _ | .ifc _ _=>true
  | _=>false
theorem q_chk (hx:Lk (evE e x=p)) (hp:Rf (isChk p=true)) (hk:pops P Z pr cs K (putE e d p) s):pops P Z pr (⟨d,none,kp,.f (.chk x)⟩::cs) K e s :=
  p_f (fun f h E i S R=>by
    have h1:=R.at hx.o
    have hp:=hp.o
    refine ⟨evF f x,?_,h1⟩
    simp only [FOp.run]
    unfold isChk at hp
    split at hp
    · obtain ⟨a,h2⟩:=h1.ptr_form;rw [h2]
    · obtain ⟨a,cs,h2,_⟩:=h1.ref_inv;rw [h2]
    · obtain ⟨a,n,c,rw,h2,_⟩:=h1.elt_inv;rw [h2]
    · obtain ⟨a,h2⟩:=h1.oel_form;rw [h2]
    · obtain ⟨a,b,h2,_⟩:=h1.fn_inv;rw [h2]
    · obtain ⟨u,h2,_⟩:=h1.ifc_inv;rw [h2]
    · simp at hp) hk
theorem q_tasY {t:TypeId} {ok:Bool} {zero:Value} (hx:Lk (evE e x = .ifc t p)) (hk:pops P Z pr cs K (putE e d (if ok=true then .tup [p,.bool true] else p)) s):pops P Z pr (⟨d,none,kp,.f (.tas t ok zero x)⟩::cs) K e s :=
  p_f (fun f h E i S R=>by
    obtain ⟨u,h1,h2⟩:=(R.at hx.o).ifc_inv
    refine ⟨if ok=true then .tuple #[u,.bool true] else u,by simp only [FOp.run,h1,if_true],?_⟩
    cases ok
    · exact h2
    · have:=PRs.cons h2 (.one (X:=⟨Hp.mask h E,i,s⟩) (.bool true))
      exact .tup _ _ this.1 this.2) hk
theorem q_tasN {t u:TypeId} {zero:Value} (hx:Lk (evE e x = .ifc u p)) (hne:Rf (Nat.beq u t=false)) (hk:pops P Z pr cs K (putE e d (.tup [ofV zero,.bool false])) s):pops P Z pr (⟨d,none,kp,.f (.tas t true zero x)⟩::cs) K e s :=
  p_f (fun f h E i S R=>by
    obtain ⟨w,h1,h2⟩:=(R.at hx.o).ifc_inv
    refine ⟨.tuple #[zero,.bool false],?_,?_⟩
    · simp only [FOp.run,h1]
      rw [if_neg (Nat.ne_of_beq_eq_false hne.o)]
      simp
    · have:=PRs.cons (ofV_PR ⟨Hp.mask h E,i,s⟩ zero) (.one (.bool false))
      exact .tup _ _ this.1 this.2) hk
theorem q_tasI {t:TypeId} {zero:Value} (hx:Lk (evE e x = .nilI)) (hk:pops P Z pr cs K (putE e d (.tup [ofV zero,.bool false])) s):pops P Z pr (⟨d,none,kp,.f (.tas t true zero x)⟩::cs) K e s :=
  p_f (fun f h E i S R=>by
    have h1:=(R.at hx.o).nilI_inv
    refine ⟨.tuple #[zero,.bool false],by simp only [FOp.run,h1];simp,?_⟩
    have:=PRs.cons (ofV_PR ⟨Hp.mask h E,i,s⟩ zero) (.one (.bool false))
    exact .tup _ _ this.1 this.2) hk
def toVs:List PV→Option (List Value)
  | []=>some []
  | p :: l => match toV p, toVs l with
    | some v,some vs=>some (v::vs)
    | _,_=>none
theorem toVs_inv {X:Cx}:∀ {l:List PV} {us vs:List Value},toVs l=some us→PRs X l vs→vs=us∧us.all (fun | .int _ _ | .bool _ | .string _=>true | _=>false)=true
  | [], us, vs, h, hp => by
    obtain rfl:[]=us:=by simpa [toVs] using h
    exact ⟨List.eq_nil_of_length_eq_zero hp.1.symm,rfl⟩
  | p :: l, us, vs, h, hp => by
    obtain ⟨v,t,rfl,h1,h2⟩:=hp.uncons
    unfold toVs at h
    split at h
    · rename_i a b ha hb
      obtain rfl:=Option.some.inj h
      obtain ⟨k1,k2⟩:=toVs_inv hb h2
      refine ⟨by rw [k1,toV_inv ha h1],?_⟩
      rw [List.all_cons,k2,Bool.and_true]
      unfold toV at ha
      split at ha <;> first | (obtain rfl:=Option.some.inj ha;rfl) | simp at ha
    · simp at h

theorem q_eqQ {ne q r:Bool} {t:TypeId} {l l':List PV} {us us':List Value} (hx:Lk (evE e x = .agg l)) (hy:Lk (evE e y = .agg l')) (h1:Rf (toVs l=some us)) (h2:Rf (toVs l'=some us')) (he:∀ w,(Op.equal t (.agg us.toArray) (.agg us'.toArray)).run P w = .ok r w) (hq:Vl (nb ne r=q)) (hk:pops P Z pr cs K (putE e d (.bool q)) s):pops P Z pr (⟨d,none,kp,.f (.eqS ne t x y)⟩::cs) K e s:=fun f h ⟨E,i,S,R⟩=>by
  obtain ⟨a,g1,g2⟩:=(R.at hx.o).agg_inv
  obtain ⟨a',g3,g4⟩:=(R.at hy.o).agg_inv
  obtain ⟨rfl,k1⟩:=toVs_inv h1.o g2
  obtain ⟨rfl,k2⟩:=toVs_inv h2.o g4
  refine s_eqS g1 g3 ?_ he (by rw [hq.o];exact hk _ _ ⟨E,i,S,R.put (.bool q)⟩)
  rw [List.append_toArray]
  simp only [List.all_toArray,List.all_append]
  rw [Bool.and_eq_true]
  exact ⟨k1,k2⟩
end
end Go.Proofs.Ytcffpnlochillaa.Pv
namespace Go.Proofs.Ytcffpnlochillaa.Pv
open Go.RowKit Go.Proofs.Ytcffpnlochillaa.Ab Go.Proofs.Ytcffpnlochillaa.AbP
def OBc (X:Cx) (k:Blk):OB→Prop
  | .dead=>True
  | .var l=>∃ cs,k=⟨cs,0,true⟩∧cs.all (·.oneCell')=true∧PRs X l cs
  | .row es n l=>∃ cs,k=⟨cs,es,true⟩∧cs.all (·.oneCell')=true∧l.length=n * es∧PRs X l cs
  | .arr d l=>0 < d.sz∧∃ us,k=⟨us,d.sz,true⟩∧Chunks (d.Is X.m) l us
theorem OBc.obr {X:Cx} {k:Blk} {o:OB} (hc:OBc X k o) {h:Hp} {E:Nat→Bool} {id b:Nat} (hi:X.i id=some b) (hE:E b=true) (hb:h.blk? b=some k):OBR X h E id o:=by
  cases o with
  | dead=>trivial
  | var l=>obtain ⟨cs,rfl,h1,h2⟩:=hc;exact ⟨b,cs,hi,hE,hb,h1,h2⟩
  | row es n l=>obtain ⟨cs,rfl,h1,h2,h3⟩:=hc;exact ⟨b,cs,hi,hE,hb,h1,h2,h3⟩
  | arr d l=>obtain ⟨hd,us,rfl,h1⟩:=hc;exact ⟨hd,.inr ⟨b,us,hi,hE,hb,h1⟩⟩
section
variable {P:Program} {Z:Bs} {K:Env→List OB→Prop} {Q:QP} {e:Env} {s s':List OB} {cs:List CO} {pr:List Operand} {d:Option Nat} {kp:Bool} {x y z:Operand} {p q r:PV} {u v w:Value} {b o n m i j es:Nat} {l l' c:List PV} {D':D}
theorem p_mk {fo:FOp} {o':OB} (hr:∀ f h E i,SR Z h E i s→ER ⟨Hp.mask h E,i,s⟩ e f→∃ v k,fo.run P (evF f) h h.next=some (v,some k)∧∀ Y:Cx,Cx.le ⟨Hp.mask h E,i,s⟩ Y→Y.s=s++[o']→Y.i s.length=some h.next→OBc Y k o'∧PR Y p v)
    (hs:s++[o']=s') (hk:pops P Z (rdF fo pr) cs K (putE e d p) s'):pops P Z pr (⟨d,none,kp,.f fo⟩::cs) K e s:=fun f h ⟨E,i,S,R⟩=>by
  subst hs
  obtain ⟨v,k,h1,h2⟩:=hr f h E i S R
  obtain ⟨S',le'⟩:=S.add o' (some h.next) (h.push k) (fun b=>b == h.next || E b) rfl (by rw [Hp.next_push];omega)
    (fun b k' hb=>by
      have hlt:=(Hp.blk_lt hb).2
      have hne:b≠h.next:=by omega
      exact ⟨by rw [Hp.blk_push_ne _ _ hne];exact hb,by simp [hne]⟩)
    (fun b hb=>by obtain rfl:=Option.some.inj hb;exact Nat.le_refl _)
    (fun le=>(h2 _ le rfl (ups_at _ _ _)).1.obr (ups_at _ _ _) (by simp) (Hp.blk_push h k))
  exact s_a h1 (hk _ _ ⟨_,_,S',(R.mono le').put (h2 _ le' rfl (ups_at _ _ _)).2⟩)
theorem q_new {cells:List Value} (hc:Rf (cells.all (·.oneCell')=true)) (hn:Pu (s.length=n)) (hs:Pu (s++[.var (cells.map ofC)]=s')) (hk:pops P Z pr cs K (putE e d (.ptr n 0)) s'):pops P Z pr (⟨d,none,kp,.f (.new cells)⟩::cs) K e s :=
  p_mk (o':=.var (cells.map ofC)) (fun f h E i S R=>⟨.pointer (some ⟨h.next,0,none⟩),⟨cells,0,true⟩,by simp only [FOp.run],fun Y hle h1 h2=>⟨⟨cells,rfl,hc.o,ofCs_PR Y cells⟩,by
    rw [hn.o] at h2
    refine .ptr n 0 _ ⟨_,rfl⟩ (by rw [h1,List.length_append,hn.o];simp) (fun _=>⟨_,h2,rfl⟩)⟩⟩) hs.o hk
theorem q_box (hx:Lk (evE e x=p)) (hc:Pu (cellsP p=c)) (h1:Rf (c.all one1=true)) (hn:Pu (s.length=n)) (hs:Pu (s++[.var c]=s')) (hk:pops P Z pr cs K (putE e d (.ptr n 0)) s'):pops P Z pr (⟨d,none,kp,.f (.box x)⟩::cs) K e s :=
  p_mk (o':=.var c) (fun f h E i S R=>by
    obtain ⟨k1,k2⟩:=cellsP_PR (R.at hx.o) hc.o h1.o
    refine ⟨.pointer (some ⟨h.next,0,none⟩),⟨(evF f x).cells.toList,0,true⟩,by simp only [FOp.run];rw [if_pos k2],fun Y hle g1 g2=>⟨⟨_,rfl,k2,k1.mono hle⟩,?_⟩⟩
    rw [hn.o] at g2
    exact .ptr n 0 _ ⟨_,rfl⟩ (by rw [g1,List.length_append,hn.o];simp) (fun _=>⟨_,g2,rfl⟩)) hs.o hk
theorem rep_zeros (z:Value) (n:Nat):zerosOf 1 [z] n=List.replicate n z:=by
  unfold zerosOf
  rw [Nat.mul_one]
  apply List.ext_getElem
  · simp
  · intro i h1 h2
    simp [Nat.mod_one]
theorem Chunks_rep {m:Hp} {d:D} {z:d.T} {v:Value} (h:d.Is m z [v]):∀ n:Nat,Chunks (d.Is m) (List.replicate n z) (List.replicate n v)
  | 0=>rfl
  | n+1=>⟨[v],_,by rw [List.replicate_succ];rfl,h,Chunks_rep h n⟩

theorem mk_rep {bytes:Nat} {k k':IntKind} {a:Int} {z:D'.T} {zv:Value} (hz:∀ m:Hp,D'.Is m z [zv]) (hsz:D'.sz=1) (hx:evE e x = .int k a) (hy:evE e y = .int k' a) (h0:0≤a) (h1:(bytes:Int) * a≤2 ^ 48) (h2:a < 2 ^ 62) (hj:a.toNat=m) (hn:s.length=n) (hs:s++[.arr D' (List.replicate m z)]=s')
    (hk:pops P Z pr cs K (putE e d (.osl n m)) s'):pops P Z pr (⟨d,none,kp,.f (.mks 1 bytes [zv] x y)⟩::cs) K e s:=by
  subst hj
  refine p_mk (o':=.arr D' (List.replicate a.toNat z)) (fun f h E i S R=>⟨.slice (some ⟨h.next,0,none⟩) a.toNat a.toNat,⟨zerosOf 1 [zv] a.toNat,1,true⟩,by simp only [FOp.run,(R.at hx).int_inv,(R.at hy).int_inv];rw [if_pos ⟨trivial,h0,h1,h2⟩],fun Y hle g1 g2=>⟨⟨by omega,List.replicate a.toNat zv,by rw [hsz,rep_zeros],Chunks_rep (hz _) _⟩,?_⟩⟩) hs hk
  rw [hn] at g2
  refine .osl n _ _ ⟨_,_,_,rfl⟩ (by rw [g1,List.length_append,hn];simp) (fun es' n' hl=>.inr ⟨?_,_,.inl rfl,by rw [g2];rfl⟩)
  obtain ⟨o,ho,hsig⟩:=hl
  rw [g1,← hn] at ho
  simp only [List.getElem?_append_right,Nat.le_refl,Nat.sub_self,List.getElem?_cons_zero] at ho
  obtain rfl:=Option.some.inj ho
  simp only [OB.sig,List.length_replicate,Option.some.injEq,Prod.mk.injEq] at hsig
  exact hsig.2
theorem q_mksI {bytes:Nat} {k0 k k':IntKind} {a:Int} (hx:Lk (evE e x = .int k a)) (hy:Lk (evE e y = .int k' a)) (h0:Om (0≤a)) (h1:Om ((bytes:Int) * a≤2 ^ 48)) (h2:Om (a < 2 ^ 62)) (hj:Vl (a.toNat=m)) (hn:Pu (s.length=n)) (hs:Pu (s++[.arr (.int k0) (List.replicate m (0:Int))]=s'))
    (hk:pops P Z pr cs K (putE e d (.osl n m)) s'):pops P Z pr (⟨d,none,kp,.f (.mks 1 bytes [.int k0 0] x y)⟩::cs) K e s :=
  mk_rep (D':=.int k0) (z:=(0:Int)) (fun m=>rfl) rfl hx.o hy.o h0.o h1.o h2.o hj.o hn.o hs.o hk
theorem q_mksB {bytes:Nat} {k k':IntKind} {a:Int} (hx:Lk (evE e x = .int k a)) (hy:Lk (evE e y = .int k' a)) (h0:Om (0≤a)) (h1:Om ((bytes:Int) * a≤2 ^ 48)) (h2:Om (a < 2 ^ 62)) (hj:Vl (a.toNat=m)) (hn:Pu (s.length=n)) (hs:Pu (s++[.arr .bool (List.replicate m false)]=s'))
    (hk:pops P Z pr cs K (putE e d (.osl n m)) s'):pops P Z pr (⟨d,none,kp,.f (.mks 1 bytes [.bool false] x y)⟩::cs) K e s :=
  mk_rep (D':=.bool) (z:=false) (fun m=>rfl) rfl hx.o hy.o h0.o h1.o h2.o hj.o hn.o hs.o hk
def flatP (es:Nat):List PV→Option (List PV)
  | []=>some []
  | p::l=>if ((cellsP p).all one1 && (cellsP p).length == es)=true then (flatP es l).map (cellsP p++·) else none
theorem flatP_run {X:Cx}:∀ {l:List PV} {us:List Value} {c:List PV},flatP es l=some c→PRs X l us→∃ r,flatOf es us=some r∧PRs X c r∧r.all (·.oneCell')=true∧c.length=l.length * es
  | [], us, c, h, hl => by
    have:us=[]:=List.eq_nil_of_length_eq_zero hl.1.symm
    subst this
    obtain rfl:[]=c:=by simpa [flatP] using h
    exact ⟨[],rfl,.nil X,rfl,by simp⟩
  | p :: l, us, c, h, hl => by
    obtain ⟨v,t,rfl,h1,h2⟩:=hl.uncons
    simp only [flatP] at h
    split at h
    · rename_i hc
      simp only [Bool.and_eq_true,beq_iff_eq] at hc
      obtain ⟨c',hc',rfl⟩:=Option.map_eq_some_iff.1 h
      obtain ⟨k1,k2⟩:=cellsP_PR h1 rfl hc.1
      obtain ⟨r,g1,g2,g3,g4⟩:=flatP_run hc' h2
      refine ⟨v.cells.toList++r,?_,k1.append g2,by rw [List.all_append,k2,g3];rfl,by rw [List.length_append,hc.2,g4,List.length_cons,Nat.succ_mul,Nat.add_comm]⟩
      unfold flatOf
      rw [if_pos ⟨by rw [← Array.length_toList,← k1.1,hc.2],k2⟩,g1]
      rfl
    · simp at h
theorem q_bsl {xs:List Operand} {ps:List PV} (hx:Mp (xs.map (evE e)=ps)) (hf:Pu (flatP es ps=some c)) (hm:Pu (ps.length=m)) (hn:Pu (s.length=n)) (hs:Pu (s++[.row es m c]=s')) (hk:pops P Z pr cs K (putE e d (.osl n m)) s'):pops P Z pr (⟨d,none,kp,.f (.bsl es xs)⟩::cs) K e s :=
  p_mk (o':=.row es m c) (fun f h E i S R=>by
    have hp:=R.map hx.o
    obtain ⟨r,g1,g2,g3,g4⟩:=flatP_run hf.o hp
    have hlen:xs.length=m:=by rw [← hm.o,hp.1,List.length_map]
    refine ⟨.slice (some ⟨h.next,0,none⟩) xs.length xs.length,⟨r,es,true⟩,by simp only [FOp.run,g1,Option.map_some],fun Y hle q1 q2=>⟨⟨r,rfl,g3,by rw [g4,hm.o],g2.mono hle⟩,?_⟩⟩
    rw [hn.o] at q2
    rw [hlen]
    refine .osl n m _ ⟨_,_,_,rfl⟩ (by rw [q1,List.length_append,hn.o];simp) (fun es' n' hl=>.inr ⟨?_,_,.inl rfl,by rw [q2];rfl⟩)
    obtain ⟨o,ho,hsig⟩:=hl
    rw [q1,← hn.o] at ho
    simp only [List.getElem?_append_right,Nat.le_refl,Nat.sub_self,List.getElem?_cons_zero] at ho
    obtain rfl:=Option.some.inj ho
    simp only [OB.sig,Option.some.injEq,Prod.mk.injEq] at hsig
    exact hsig.2) hs.o hk

def bytI (t:ByteArray):List Int:=t.data.toList.map fun b=>(b.toNat:Int)
theorem bytI_len (t:ByteArray):(bytI t).length=t.size:=by
  unfold bytI
  rw [List.length_map,Array.length_toList]
  rfl
theorem Chunks_map {m:Hp} {k:IntKind}:∀ l:List Int,Chunks ((D.int k).Is m) l (l.map (Value.int k))
  | []=>rfl
  | x::l=>⟨[.int k x],l.map (Value.int k),rfl,rfl,Chunks_map l⟩
theorem bytesOf_map (t:ByteArray):bytesOf t=(bytI t).map (Value.int .u8):=by
  unfold bytesOf bytI
  rw [List.map_map]
  rfl
theorem q_s2b {t:ByteArray} (hx:Lk (evE e x = .str t)) (hn:Pu (s.length=n)) (hs:Pu (s++[.arr (.int .u8) (bytI t)]=s')) (hk:pops P Z pr cs K (putE e d (.osl n (bytI t).length)) s'):pops P Z pr (⟨d,none,kp,.f (.s2b x)⟩::cs) K e s :=
  p_mk (o':=.arr (.int .u8) (bytI t)) (fun f h E i S R=>by
    refine ⟨.slice (some ⟨h.next,0,none⟩) t.size (t.size+1),⟨bytesOf t,1,true⟩,by simp only [FOp.run,(R.at hx.o).str_inv],fun Y hle g1 g2=>⟨⟨by decide,(bytI t).map (Value.int .u8),by rw [bytesOf_map];rfl,Chunks_map _⟩,?_⟩⟩
    rw [hn.o] at g2
    rw [bytI_len]
    refine .osl n _ _ ⟨_,_,_,rfl⟩ (by rw [g1,List.length_append,hn.o];simp) (fun es' n' hl=>.inr ⟨?_,_,.inr rfl,by rw [g2];rfl⟩)
    obtain ⟨o,ho,hsig⟩:=hl
    rw [g1,← hn.o] at ho
    simp only [List.getElem?_append_right,Nat.le_refl,Nat.sub_self,List.getElem?_cons_zero] at ho
    obtain rfl:=Option.some.inj ho
    simp only [OB.sig,Option.some.injEq,Prod.mk.injEq] at hsig
    rw [← hsig.2]
    exact (bytI_len t).symm) hs.o hk

theorem q_ldV (hx:Lk (evE e x = .ptr b o)) (hb:Rf (s[b]? = some (.var l))) (hv:Rf (l[o]? = some p)) (hk:pops P Z (x::pr) cs K (putE e d p) s):pops P Z pr (⟨d,none,kp,.f (.ld none x)⟩::cs) K e s :=
  p_f (fun f h E i S R=>by
    obtain ⟨k,cs,q1,q2,q3,q4,q5⟩:=own_cells S hb.o
    obtain ⟨k',q6,hv'⟩:=(R.at hx.o).ptr_inv ⟨_,hb.o,rfl⟩
    have q6:i b=some k':=q6
    rw [q1] at q6
    obtain rfl:=Option.some.inj q6
    obtain ⟨v,k1,k2⟩:=q5.get hv.o
    exact ⟨v,by simp only [FOp.run,hv',blk_cell q3 rfl k1,Option.map_some],k2⟩) hk
theorem q_ldVn (hx:Lk (evE e x = .ptr b o)) (hb:Rf (s[b]? = some (.var l))) (hl:Rf (Nat.ble (o+n) l.length=true)) (hv:Pu ((l.drop o).take n=c)) (hk:pops P Z (x::pr) cs K (putE e d (.agg c)) s):pops P Z pr (⟨d,none,kp,.f (.ld (some n) x)⟩::cs) K e s :=
  p_f (fun f h E i S R=>by
    obtain ⟨k,cs,q1,q2,q3,q4,q5⟩:=own_cells S hb.o
    obtain ⟨k',q6,hv'⟩:=(R.at hx.o).ptr_inv ⟨_,hb.o,rfl⟩
    have q6:i b=some k':=q6
    rw [q1] at q6
    obtain rfl:=Option.some.inj q6
    have k1:=(q5.drop o).take n
    rw [hv.o] at k1
    exact ⟨.agg ((cs.drop o).take n).toArray,by simp only [FOp.run,hv',blk_cells' q3 rfl (by show o+n≤cs.length;rw [← q5.1];exact Nat.le_of_ble_eq_true hl.o),Option.map_some],.agg _ _ k1.1 k1.2⟩) hk
theorem drop_take_get {α:Type} (l:List α) (k n o:Nat) (ho:o < n):((l.drop k).take n)[o]? = l[k+o]?:=by
  rw [List.getElem?_take,if_pos ho,List.getElem?_drop]
theorem q_ldE {l:List D'.T} {x':D'.T} (hx:Lk (evE e x = .elt D' l i o)) (hi:Am (l[i]? = some x')) (hv:Vl ((encP D' x')[o]? = some p)) (hk:pops P Z (x::pr) cs K (putE e d p) s):pops P Z pr (⟨d,none,kp,.f (.ld none x)⟩::cs) K e s :=
  p_f (fun f h E i' S R=>by
    obtain ⟨a,n,c,rw,h1,h2,h3,h4,h5⟩:=(R.at hx.o).elt_inv
    have k1:=encP_of (X:=⟨Hp.mask h E,i',s⟩) _ _ _ (Chunks_get h5 hi.o)
    obtain ⟨v,k2,k3⟩:=k1.get hv.o
    have ho:o < D'.sz:=by rw [← encP_len D' x'];exact (List.getElem?_eq_some_iff.1 hv.o).1
    rw [drop_take_get _ _ _ _ ho] at k2
    exact ⟨v,by simp only [FOp.run,h1,(mask_sub h E).cell _ _ (rowV_cell h4 k2),Option.map_some],k3⟩) hk
theorem q_ldI {k:IntKind} {l:List Int} (hx:Lk (evE e x = .elt (.int k) l i 0)) (hk:pops P Z (x::pr) cs K (putE e d (.int k (l.getD i 0))) s):pops P Z pr (⟨d,none,kp,.f (.ld none x)⟩::cs) K e s :=
  p_f (fun f h E i' S R=>by
    obtain ⟨a,n,c,rw,h1,h2,h3,h4,h5⟩:=(R.at hx.o).elt_inv
    have e1:=Chunks_int h5
    subst e1
    have k2:(l.map (Value.int k))[i * (D.int k).sz+0]? = some (.int k (l.getD i 0)):=by
      have h2':i < l.length:=h2
      show (l.map (Value.int k))[i * 1+0]? = _
      rw [Nat.mul_one,Nat.add_zero,List.getElem?_map,List.getD_eq_getElem?_getD,List.getElem?_eq_getElem h2']
      rfl
    exact ⟨_,by simp only [FOp.run,h1,(mask_sub h E).cell _ _ (rowV_cell h4 k2),Option.map_some],.int _ _⟩) hk
theorem cells_add {h:Hp} {a:Addr} (hs:a.spot=none) {rw:List Value} {N k n:Nat} (hr:h.cells? a N=some rw) (hk:k+n≤N):h.cells? (a.add k) n=some ((rw.drop k).take n):=by
  have hN:=cellsFrom_len _ _ _ hr
  have:∀ (n j:Nat),k+j+n≤N→h.cellsFrom (a.add k) j n=some ((rw.drop (k+j)).take n):=by
    intro n
    induction n with
    | zero=>intro j hj;simp [Hp.cellsFrom]
    | succ n ih =>
      intro j hj
      have hlt:k+j < rw.length:=by omega
      have h1:=cellsFrom_get _ _ _ hr (k+j) rw[k+j] (by simp [hlt])
      rw [Nat.zero_add] at h1
      simp only [Hp.cellsFrom]
      rw [Ab.add_add _ _ _ hs,h1]
      simp only
      rw [ih (j+1) (by omega),List.drop_eq_getElem_cons hlt]
      rfl
  have h0:=this n 0 (by omega)
  exact h0
theorem q_ldEn {l:List D'.T} {x':D'.T} (hx:Lk (evE e x = .elt D' l i o)) (hi:Am (l[i]? = some x')) (hl:Rf (Nat.ble (o+n) D'.sz=true)) (hv:Pu (((encP D' x').drop o).take n=c)) (hk:pops P Z (x::pr) cs K (putE e d (.agg c)) s):pops P Z pr (⟨d,none,kp,.f (.ld (some n) x)⟩::cs) K e s :=
  p_f (fun f h E i' S R=>by
    obtain ⟨a,N,cc,rw,h1,h2,h3,h4,h5⟩:=(R.at hx.o).elt_inv
    have k1:=((encP_of (X:=⟨Hp.mask h E,i',s⟩) _ _ _ (Chunks_get h5 hi.o)).drop o).take n
    rw [hv.o] at k1
    have hln:=Nat.le_of_ble_eq_true hl.o
    have hrl:=Chunks_len h5
    have hsp:=rowV_spot h4 (by rw [hrl];exact Nat.mul_pos (by omega) h3)
    have hb:(i+1) * D'.sz≤l.length * D'.sz:=Nat.mul_le_mul_right _ (by omega)
    have hN:rw.length=N * D'.sz:=rowV_len h4
    rw [Nat.succ_mul] at hb
    have k2:=cells_add hsp (k:=i * D'.sz+o) (n:=n) (show (Hp.mask h E).cells? a (N * D'.sz)=some rw from h4) (by omega)
    have e1:(((rw.drop (i * D'.sz)).take D'.sz).drop o).take n=(rw.drop (i * D'.sz+o)).take n:=by
      rw [List.drop_take,List.drop_drop,List.take_take,Nat.min_eq_left (by omega)]
    rw [e1] at k1
    exact ⟨.agg ((rw.drop (i * D'.sz+o)).take n).toArray,by simp only [FOp.run,h1,show h.cells? (a.add (i * D'.sz+o)) n=_ from (mask_sub h E).cellsFrom _ _ _ k2,Option.map_some],.agg _ _ k1.1 k1.2⟩) hk
theorem q_ldR {N:List PV} (hx:Lk (evE e x = .ref N o)) (hv:Vl (N[o]? = some p)) (hk:pops P Z (x::pr) cs K (putE e d p) s):pops P Z pr (⟨d,none,kp,.f (.ld none x)⟩::cs) K e s :=
  p_f (fun f h E i' S R=>by
    obtain ⟨a,cs,h1,h2,h3,h4⟩:=(R.at hx.o).ref_inv
    obtain ⟨v,k1,k2⟩:=h4.get hv.o
    have:=cellsFrom_get _ _ _ h3 o v k1
    rw [Nat.zero_add] at this
    exact ⟨v,by simp only [FOp.run,h1,(mask_sub h E).cell _ _ this,Option.map_some],k2⟩) hk
theorem q_ldRn {N:List PV} (hx:Lk (evE e x = .ref N o)) (hl:Rf (Nat.ble (o+n) N.length=true)) (hv:Pu ((N.drop o).take n=c)) (hk:pops P Z (x::pr) cs K (putE e d (.agg c)) s):pops P Z pr (⟨d,none,kp,.f (.ld (some n) x)⟩::cs) K e s :=
  p_f (fun f h E i' S R=>by
    obtain ⟨a,cs,h1,h2,h3,h4⟩:=(R.at hx.o).ref_inv
    have k1:=(h4.drop o).take n
    rw [hv.o] at k1
    have k2:=cells_add h2 (k:=o) (n:=n) h3 (Nat.le_of_ble_eq_true hl.o)
    exact ⟨.agg ((cs.drop o).take n).toArray,by simp only [FOp.run,h1,show h.cells? (a.add o) n=_ from (mask_sub h E).cellsFrom _ _ _ k2,Option.map_some],.agg _ _ k1.1 k1.2⟩) hk
theorem arr_at {h:Hp} {E:Nat→Bool} {i:Nat→Option Nat} (S:SR Z h E i s) {l:List D'.T} (hb:s[b]? = some (.arr D' l)) (h0:0 < l.length):∃ k us,i b=some k∧E k=true∧h.blk? k=some ⟨us,D'.sz,true⟩∧Chunks (D'.Is (Hp.mask h E)) l us∧0 < D'.sz:=by
  obtain ⟨hd,⟨k1,rfl⟩ | ⟨k,us,k1,k2,k3,k4⟩⟩:=S.ob b _ hb
  · simp at h0
  · exact ⟨k,us,k1,k2,k3,k4,hd⟩
theorem q_ldO {l:List D'.T} {x':D'.T} (hx:Lk (evE e x = .oel b n i o)) (hb:Rf (s[b]? = some (.arr D' l))) (hn:Om (n=l.length)) (hi:Am (l[i]? = some x')) (hv:Vl ((encP D' x')[o]? = some p)) (hk:pops P Z (x::pr) cs K (putE e d p) s):pops P Z pr (⟨d,none,kp,.f (.ld none x)⟩::cs) K e s :=
  p_f (fun f h E i' S R=>by
    have hlt:=(List.getElem?_eq_some_iff.1 hi.o).1
    have hn:=hn.o
    obtain ⟨k,us,k1,k2,k3,k4,k5⟩:=arr_at S hb.o (by omega)
    rcases (R.at hx.o).oel_inv _ _ ⟨_,hb.o,rfl⟩ with h1 | ⟨-,h2,k',h3,h4⟩
    · omega
    · have h3:i' b=some k':=h3
      rw [k1] at h3
      obtain rfl:=Option.some.inj h3
      have g1:=encP_of (X:=⟨Hp.mask h E,i',s⟩) _ _ _ (Chunks_get k4 hi.o)
      obtain ⟨v,g2,g3⟩:=g1.get hv.o
      have ho:o < D'.sz:=by rw [← encP_len D' x'];exact (List.getElem?_eq_some_iff.1 hv.o).1
      rw [drop_take_get _ _ _ _ ho] at g2
      exact ⟨v,by simp only [FOp.run,h4,blk_cell k3 rfl g2,Option.map_some],g3⟩) hk
theorem q_ldOI {k:IntKind} {l:List Int} (hx:Lk (evE e x = .oel b n i 0)) (hb:Rf (s[b]? = some (.arr (.int k) l))) (hn:Om (n=l.length)) (hi:Om (i < l.length)) (hk:pops P Z (x::pr) cs K (putE e d (.int k (l.getD i 0))) s):pops P Z pr (⟨d,none,kp,.f (.ld none x)⟩::cs) K e s:=by
  refine q_ldO (D':=.int k) (x':=(l.getD i 0:Int)) hx hb hn ⟨?_⟩ ⟨rfl⟩ hk
  show l[i]? = some (l.getD i 0)
  rw [List.getD_eq_getElem?_getD,List.getElem?_eq_getElem hi.o]
  rfl
theorem q_ldOn {l:List D'.T} {x':D'.T} (hx:Lk (evE e x = .oel b n i o)) (hb:Rf (s[b]? = some (.arr D' l))) (hn:Om (n=l.length)) (hi:Am (l[i]? = some x')) (hl:Rf (Nat.ble (o+m) D'.sz=true)) (hv:Pu (((encP D' x').drop o).take m=c)) (hk:pops P Z (x::pr) cs K (putE e d (.agg c)) s):pops P Z pr (⟨d,none,kp,.f (.ld (some m) x)⟩::cs) K e s :=
  p_f (fun f h E i' S R=>by
    have hlt:=(List.getElem?_eq_some_iff.1 hi.o).1
    have hn:=hn.o
    obtain ⟨k,us,k1,k2,k3,k4,k5⟩:=arr_at S hb.o (by omega)
    rcases (R.at hx.o).oel_inv _ _ ⟨_,hb.o,rfl⟩ with h1 | ⟨-,h2,k',h3,h4⟩
    · omega
    · have h3:i' b=some k':=h3
      rw [k1] at h3
      obtain rfl:=Option.some.inj h3
      have g1:=((encP_of (X:=⟨Hp.mask h E,i',s⟩) _ _ _ (Chunks_get k4 hi.o)).drop o).take m
      rw [hv.o] at g1
      have hln:=Nat.le_of_ble_eq_true hl.o
      have hrl:=Chunks_len k4
      have hb':(i+1) * D'.sz≤l.length * D'.sz:=Nat.mul_le_mul_right _ (by omega)
      rw [Nat.succ_mul] at hb'
      have e1:(((us.drop (i * D'.sz)).take D'.sz).drop o).take m=(us.drop (i * D'.sz+o)).take m:=by
        rw [List.drop_take,List.drop_drop,List.take_take,Nat.min_eq_left (by omega)]
      rw [e1] at g1
      exact ⟨.agg ((us.drop (i * D'.sz+o)).take m).toArray,by simp only [FOp.run,h4,blk_cells' k3 rfl (show i * D'.sz+o+m≤us.length by omega),Option.map_some],.agg _ _ g1.1 g1.2⟩) hk
theorem q_ldW (hx:Lk (evE e x = .oel b n i o)) (hb:Rf (s[b]? = some (.row es n l))) (hv:Vl (l[i * es+o]? = some p)) (hk:pops P Z (x::pr) cs K (putE e d p) s):pops P Z pr (⟨d,none,kp,.f (.ld none x)⟩::cs) K e s :=
  p_f (fun f h E i' S R=>by
    obtain ⟨k,cs,k1,k2,k3,k4,k5,k6⟩:=S.ob b _ hb.o
    rcases (R.at hx.o).oel_inv _ _ ⟨_,hb.o,rfl⟩ with h1 | ⟨-,h2,k',h3,h4⟩
    · omega
    · have h3:i' b=some k':=h3
      have k1:i' b=some k:=k1
      rw [k1] at h3
      obtain rfl:=Option.some.inj h3
      obtain ⟨v,g1,g2⟩:=k6.get hv.o
      exact ⟨v,by simp only [FOp.run,h4,blk_cell k3 rfl g1,Option.map_some],g2⟩) hk

theorem q_iad {k:IntKind} {a:Int} {l:List D'.T} (hx:Lk (evE e x = .sl D' l)) (hy:Lk (evE e y = .int k a)) (h0:Om (0≤a)) (h1:Om (a < l.length)) (hj:Vl (a.toNat=i)) (he:Rf (Nat.beq D'.sz es=true)) (hd:Rf (Nat.blt 0 es=true)) (hk:pops P Z pr cs K (putE e d (.elt D' l i 0)) s):pops P Z pr (⟨d,none,kp,.f (.iad es x y)⟩::cs) K e s :=
  p_f (fun f h E i' S R=>by
    obtain ⟨A,c,rw,g1,g0,g2,g3⟩:=(R.at hx.o).sl_inv'
    have h0:=h0.o
    have h1:=h1.o
    have he:=Nat.eq_of_beq_eq_true he.o
    have hd:=Nat.le_of_ble_eq_true hd.o
    have hj:=hj.o
    obtain ⟨a',rfl⟩:=rowV_some g2 (by omega)
    refine ⟨.pointer (some (a'.add (a.toNat * es))),by simp only [FOp.run,g1,(R.at hy.o).int_inv];rw [if_pos ⟨h0,h1⟩],?_⟩
    subst he hj
    exact .elt D' l a.toNat 0 a' _ _ rw (by omega) (by omega) g2 g3) hk
theorem q_iadO {k:IntKind} {a:Int} {l:List D'.T} (hx:Lk (evE e x = .osl b n)) (hy:Lk (evE e y = .int k a)) (hb:Rf (s[b]? = some (.arr D' l))) (hn:Om (n=l.length)) (h0:Om (0≤a)) (h1:Om (a < l.length)) (hj:Vl (a.toNat=i)) (he:Rf (Nat.beq D'.sz es=true)) (hk:pops P Z pr cs K (putE e d (.oel b n i 0)) s):pops P Z pr (⟨d,none,kp,.f (.iad es x y)⟩::cs) K e s :=
  p_f (fun f h E i' S R=>by
    have h0:=h0.o
    have h1:=h1.o
    have hn:=hn.o
    have he:=Nat.eq_of_beq_eq_true he.o
    have hj:=hj.o
    obtain ⟨k,us,k1,k2,k3,k4,k5⟩:=arr_at S hb.o (by omega)
    rcases (R.at hx.o).osl_inv _ _ ⟨_,hb.o,rfl⟩ with g1 | ⟨-,c,hc,hv⟩
    · omega
    · simp only [k1,slV] at hv
      refine ⟨.pointer (some ⟨k,a.toNat * es,none⟩),by simp only [FOp.run,hv,(R.at hy.o).int_inv];rw [if_pos ⟨h0,by omega⟩,add_b,Nat.zero_add],?_⟩
      subst he hj
      refine .oel b n _ 0 _ ⟨_,rfl⟩ (List.getElem?_eq_some_iff.1 hb.o).1 (fun es' n' hl=>?_)
      obtain ⟨o,ho,hsig⟩:=hl
      have ho:s[b]? = some o:=ho
      rw [hb.o] at ho
      obtain rfl:=Option.some.inj ho
      simp only [OB.sig,Option.some.injEq,Prod.mk.injEq] at hsig
      exact .inr ⟨by omega,by omega,k,k1,by rw [hsig.1];rfl⟩) hk
theorem q_iadR {k:IntKind} {a:Int} (hx:Lk (evE e x = .osl b n)) (hy:Lk (evE e y = .int k a)) (hb:Rf (s[b]? = some (.row es n l))) (h0:Om (0≤a)) (h1:Om (a < n)) (hj:Vl (a.toNat=i)) (hk:pops P Z pr cs K (putE e d (.oel b n i 0)) s):pops P Z pr (⟨d,none,kp,.f (.iad es x y)⟩::cs) K e s :=
  p_f (fun f h E i' S R=>by
    have h0:=h0.o
    have h1:=h1.o
    have hj:=hj.o
    obtain ⟨k,cs,k1,k2,k3,k4,k5,k6⟩:=S.ob b _ hb.o
    rcases (R.at hx.o).osl_inv _ _ ⟨_,hb.o,rfl⟩ with g1 | ⟨-,c,hc,hv⟩
    · omega
    · have k1:i' b=some k:=k1
      simp only [k1,slV] at hv
      refine ⟨.pointer (some ⟨k,a.toNat * es,none⟩),by simp only [FOp.run,hv,(R.at hy.o).int_inv];rw [if_pos ⟨h0,by omega⟩,add_b,Nat.zero_add],?_⟩
      subst hj
      refine .oel b n _ 0 _ ⟨_,rfl⟩ (List.getElem?_eq_some_iff.1 hb.o).1 (fun es' n' hl=>?_)
      obtain ⟨o,ho,hsig⟩:=hl
      have ho:s[b]? = some o:=ho
      rw [hb.o] at ho
      obtain rfl:=Option.some.inj ho
      simp only [OB.sig,Option.some.injEq,Prod.mk.injEq] at hsig
      exact .inr ⟨by omega,by omega,k,k1,by rw [hsig.1];rfl⟩) hk
theorem q_fadV {off:Nat} (hx:Lk (evE e x = .ptr b o)) (hb:Rf (s[b]? = some (.var l))) (hj:Pu (o+off=j)) (hk:pops P Z pr cs K (putE e d (.ptr b j)) s):pops P Z pr (⟨d,none,kp,.f (.fad off x)⟩::cs) K e s :=
  p_f (fun f h E i S R=>by
    obtain ⟨k,q6,hv'⟩:=(R.at hx.o).ptr_inv ⟨_,hb.o,rfl⟩
    refine ⟨.pointer (some ⟨k,o+off,none⟩),by simp [FOp.run,hv',add_b],?_⟩
    rw [hj.o]
    exact .ptr b j _ ⟨_,rfl⟩ (List.getElem?_eq_some_iff.1 hb.o).1 (fun _=>⟨k,q6,rfl⟩)) hk
theorem q_fadE {off:Nat} {l:List D'.T} (hx:Lk (evE e x = .elt D' l i o)) (hj:Pu (o+off=j)) (hk:pops P Z pr cs K (putE e d (.elt D' l i j)) s):pops P Z pr (⟨d,none,kp,.f (.fad off x)⟩::cs) K e s :=
  p_f (fun f h E i' S R=>by
    obtain ⟨a,n,c,rw,h1,h2,h3,h4,h5⟩:=(R.at hx.o).elt_inv
    have hsp:=rowV_spot h4 (by rw [Chunks_len h5];exact Nat.mul_pos (by omega) h3)
    have hsp2:(a.add (i * D'.sz+o)).spot=none:=by unfold Addr.add;split <;> first | exact hsp | rfl
    refine ⟨.pointer (some (a.add (i * D'.sz+(o+off)))),by simp only [FOp.run,h1,hsp2,Option.isSome_none,Bool.false_eq_true,if_false];rw [Ab.add_add _ _ _ hsp,Nat.add_assoc],?_⟩
    rw [hj.o]
    exact .elt D' l i j a n c rw h2 h3 h4 h5) hk
theorem q_fadR {off:Nat} {N:List PV} (hx:Lk (evE e x = .ref N o)) (hj:Pu (o+off=j)) (hk:pops P Z pr cs K (putE e d (.ref N j)) s):pops P Z pr (⟨d,none,kp,.f (.fad off x)⟩::cs) K e s :=
  p_f (fun f h E i' S R=>by
    obtain ⟨a,cs,h1,h2,h3,h4⟩:=(R.at hx.o).ref_inv
    have hsp2:(a.add o).spot=none:=by unfold Addr.add;split <;> first | exact h2 | rfl
    refine ⟨.pointer (some (a.add (o+off))),by simp only [FOp.run,h1,hsp2,Option.isSome_none,Bool.false_eq_true,if_false];rw [Ab.add_add _ _ _ h2],?_⟩
    rw [hj.o]
    exact .ref N j a cs h2 h4.1 h3 h4.2) hk
theorem q_fadO {off:Nat} {ob:OB} (hx:Lk (evE e x = .oel b n i o)) (hb:Rf (s[b]? = some ob)) (hs:Rf (ob.sig=some (es,n))) (hj:Pu (o+off=j)) (hk:pops P Z pr cs K (putE e d (.oel b n i j)) s):pops P Z pr (⟨d,none,kp,.f (.fad off x)⟩::cs) K e s :=
  p_f (fun f h E i' S R=>by
    rcases (R.at hx.o).oel_inv _ _ ⟨_,hb.o,hs.o⟩ with h1 | ⟨-,h2,k,h3,h4⟩
    · omega
    · refine ⟨.pointer (some ⟨k,i * es+o+off,none⟩),by simp [FOp.run,h4,add_b],?_⟩
      refine .oel b n i j _ ⟨_,rfl⟩ (List.getElem?_eq_some_iff.1 hb.o).1 (fun es' n' hl=>?_)
      obtain ⟨o',ho,hsig⟩:=hl
      have ho:s[b]? = some o':=ho
      rw [hb.o] at ho
      obtain rfl:=Option.some.inj ho
      rw [hs.o] at hsig
      simp only [Option.some.injEq,Prod.mk.injEq] at hsig
      exact .inr ⟨hsig.2,h2,k,h3,by rw [← hj.o,← hsig.1,Nat.add_assoc]⟩) hk

theorem write_at {h:Hp} {k:Nat} {B:Blk} {o:Nat} {vs:List Value} (hb:h.blk? k=some B) (hl:B.live=true) (ho:o+vs.length≤B.cells.length) (h1:vs.all (·.oneCell')=true):h.write ⟨k,o,none⟩ vs=some (h.setBlk k { B with cells:=putAt B.cells o vs }):=by
  unfold Hp.write
  simp only [hb]
  rw [if_pos ⟨hl,trivial,ho,h1⟩]
theorem q_stV {size:Nat} {l':List PV} (hx:Lk (evE e x = .ptr b o)) (hy:Lk (evE e y=p)) (hb:Rf (s[b]? = some (.var l))) (hc:Pu (cellsP p=c)) (h1:Rf (c.all one1=true)) (hz:Rf (Nat.beq c.length size=true)) (ho:Rf (Nat.ble (o+size) l.length=true)) (hp:Pu (putP l o c=l')) (hs:Pu (s.set b (.var l')=s')) (hkp:Rf (kp=false))
    (hk:pops P Z pr cs K (putE e d (.tup [])) s'):pops P Z pr (⟨d,none,kp,.e (.st size x y)⟩::cs) K e s:=fun f h ⟨E,i,S,R⟩=>by
  obtain ⟨k,us,q1,q2,q3,q4,q5⟩:=own_cells S hb.o
  obtain ⟨k',q6,hv'⟩:=(R.at hx.o).ptr_inv ⟨_,hb.o,rfl⟩
  have q6:i b=some k':=q6
  rw [q1] at q6
  obtain rfl:=Option.some.inj q6
  obtain ⟨k1,k2⟩:=cellsP_PR (R.at hy.o) hc.o h1.o
  have hz:=Nat.eq_of_beq_eq_true hz.o
  have ho:=Nat.le_of_ble_eq_true ho.o
  have hlen:(evF f y).cells.toList.length=size:=by rw [← k1.1];exact hz
  have hw:=write_at q3 rfl (o:=o) (vs:=(evF f y).cells.toList) (by show o+_≤us.length;rw [hlen,← q5.1];exact ho) k2
  have hlo:=(Hp.blk_lt q3).1
  obtain ⟨S',le'⟩:=S.upd b (.var l) (.var l') (i b) (h.setBlk k ⟨putAt us o (evF f y).cells.toList,0,true⟩) E hb.o (by rfl) (by rw [Hp.next_set];exact Nat.le_refl _)
    (fun b' k' hb' hne=>by
      have hne':b'≠k:=fun e=>hne ⟨rfl,by rw [e];exact q1⟩
      exact ⟨by rw [Hp.blk_set_ne _ _ hlo hne'];exact hb',rfl⟩)
    (fun b' _ hb'=>.inl ⟨rfl,hb'⟩) rfl ⟨fun _=>⟨rfl,rfl⟩,fun es n h=>by simp [OB.sig] at h⟩
    (fun le=>⟨k,putAt us o (evF f y).cells.toList,(ups_at _ _ _).trans q1,q2,Hp.blk_set _ _ q3,putAt_one _ _ _ k2 q4,by have t:=putP_PRs k1 q5 o;rw [hp.o] at t;exact t.mono le⟩)
  rw [hs.o] at S' le'
  exact s_st hv' (by rw [← hlen];simp) hw (hk _ _ ⟨E,_,S',(R.mono le').put (undef_PR _)⟩) hkp.o
theorem putAt_mid:∀ (vs A B C:List Value) (o:Nat),o+vs.length≤B.length→putAt (A++(B++C)) (A.length+o) vs=A++(putAt B o vs++C)
  | [],A,B,C,o,h=>rfl
  | v :: vs, A, B, C, o, h => by
    rw [List.length_cons] at h
    show putAt ((A++(B++C)).set (A.length+o) v) (A.length+o+1) vs=A++(putAt (B.set o v) (o+1) vs++C)
    rw [← putAt_mid vs A (B.set o v) C (o+1) (by simp;omega),List.set_append_right _ _ (by omega),Nat.add_sub_cancel_left,List.set_append_left _ _ (by omega)]
    rfl
theorem q_stO {size:Nat} {l:List D'.T} {x0 x1:D'.T} (hx:Lk (evE e x = .oel b n i o)) (hy:Lk (evE e y=p)) (hb:Rf (s[b]? = some (.arr D' l))) (hn:Om (n=l.length)) (hi:Am (l[i]? = some x0)) (hc:Pu (cellsP p=c)) (h1:Rf (c.all one1=true)) (hz:Rf (Nat.beq c.length size=true)) (ho:Rf (Nat.ble (o+size) D'.sz=true)) (hp:Pu (decP D' (putP (encP D' x0) o c)=some x1)) (hs:Pu (s.set b (.arr D' (l.set i x1))=s')) (hkp:Rf (kp=false))
    (hk:pops P Z pr cs K (putE e d (.tup [])) s'):pops P Z pr (⟨d,none,kp,.e (.st size x y)⟩::cs) K e s:=fun f h ⟨E,i',S,R⟩=>by
  have hlt:=(List.getElem?_eq_some_iff.1 hi.o).1
  have hn:=hn.o
  obtain ⟨k,us,q1,q2,q3,q4,q5⟩:=arr_at S hb.o (by omega)
  rcases (R.at hx.o).oel_inv _ _ ⟨_,hb.o,rfl⟩ with g1 | ⟨-,g2,k',g3,hv'⟩
  · omega
  have g3:i' b=some k':=g3
  rw [q1] at g3
  obtain rfl:=Option.some.inj g3
  obtain ⟨k1,k2⟩:=cellsP_PR (R.at hy.o) hc.o h1.o
  have hz:=Nat.eq_of_beq_eq_true hz.o
  have ho:=Nat.le_of_ble_eq_true ho.o
  have hlen:(evF f y).cells.toList.length=size:=by rw [← k1.1];exact hz
  have hus:=Chunks_len q4
  have hb':(i+1) * D'.sz≤l.length * D'.sz:=Nat.mul_le_mul_right _ (by omega)
  rw [Nat.succ_mul] at hb'
  have hone:us.all (·.oneCell')=true:=by
    have:∀ (l:List D'.T) (us:List Value),Chunks (D'.Is (Hp.mask h E)) l us→us.all (·.oneCell')=true:=by
      have one:∀ (d:D) (x:d.T) (c:List Value),d.Is (Hp.mask h E) x c→c.all (·.oneCell')=true:=by
        intro d
        induction d with
        | int k=>intro x c hc;have e:c=_:=hc;subst e;rfl
        | bool=>intro x c hc;have e:c=_:=hc;subst e;rfl
        | str=>intro x c hc;have e:c=_:=hc;subst e;rfl
        | sl d _=>intro x c hc;obtain ⟨A,n,rw,e,_⟩:=hc;subst e;rfl
        | st d ih=>intro x c hc;exact ih x c hc
        | nil=>intro x c hc;have e:c=_:=hc;subst e;rfl
        | cons d e ih1 ih2=>intro x c hc;obtain ⟨c1,c2,e,a1,a2⟩:=hc;subst e;rw [List.all_append,ih1 _ _ a1,ih2 _ _ a2];rfl
      intro l
      induction l with
      | nil=>intro us hu;have e:us=[]:=hu;subst e;rfl
      | cons x l ih=>intro us ⟨c,t,e,a1,a2⟩;subst e;rw [List.all_append,one _ _ _ a1,ih _ a2];rfl
    exact this l us q4
  have hw:=write_at q3 rfl (o:=i * D'.sz+o) (vs:=(evF f y).cells.toList) (by show _≤us.length;rw [hlen];omega) k2
  have hlo:=(Hp.blk_lt q3).1
  have g0:=Chunks_get q4 hi.o
  have hB:((us.drop (i * D'.sz)).take D'.sz).length=D'.sz:=D.Is_len _ _ _ g0
  have hsplit:us=us.take (i * D'.sz)++((us.drop (i * D'.sz)).take D'.sz++us.drop ((i+1) * D'.sz)):=by
    have e1:us.drop ((i+1) * D'.sz)=(us.drop (i * D'.sz)).drop D'.sz:=by rw [List.drop_drop,Nat.succ_mul]
    rw [e1,List.take_append_drop,List.take_append_drop]
  have hA:(us.take (i * D'.sz)).length=i * D'.sz:=by rw [List.length_take];omega
  have hput:putAt us (i * D'.sz+o) (evF f y).cells.toList=us.take (i * D'.sz)++(putAt ((us.drop (i * D'.sz)).take D'.sz) o (evF f y).cells.toList++us.drop ((i+1) * D'.sz)):=by
    have:=putAt_mid (evF f y).cells.toList (us.take (i * D'.sz)) ((us.drop (i * D'.sz)).take D'.sz) (us.drop ((i+1) * D'.sz)) o (by rw [hB,hlen];exact ho)
    rw [hA,← hsplit] at this
    exact this
  obtain ⟨S',le'⟩:=S.upd b (.arr D' l) (.arr D' (l.set i x1)) (i' b) (h.setBlk k ⟨putAt us (i * D'.sz+o) (evF f y).cells.toList,D'.sz,true⟩) E hb.o (by rfl) (by rw [Hp.next_set];exact Nat.le_refl _)
    (fun b' k' hb' hne=>by
      have hne':b'≠k:=fun e=>hne ⟨rfl,by rw [e];exact q1⟩
      exact ⟨by rw [Hp.blk_set_ne _ _ hlo hne'];exact hb',rfl⟩)
    (fun b' _ hb'=>.inl ⟨rfl,hb'⟩) rfl ⟨fun h=>by simp [OB.isV] at h,fun es n h _=>⟨n,Nat.le_refl _,by simpa [OB.sig] using h,fun _=>rfl⟩⟩
    (fun le=>⟨q5,.inr ⟨k,_,(ups_at _ _ _).trans q1,q2,Hp.blk_set _ _ q3,by
      have a1:=decP_is (X:=⟨Hp.mask h E,i',s⟩) D' _ x1 _ hp.o (putP_PRs k1 (encP_of (X:=⟨Hp.mask h E,i',s⟩) _ _ _ g0) o)
      have t:=ChMono (Is_mono le.m D') (Chunks_set q4 hlt a1)
      rw [← hput] at t
      exact t⟩⟩)
  rw [hs.o] at S' le'
  exact s_st hv' (by rw [← hlen];simp) hw (hk _ _ ⟨E,_,S',(R.mono le').put (undef_PR _)⟩) hkp.o
theorem q_stOI {k:IntKind} {a:Int} {l:List Int} (hx:Lk (evE e x = .oel b n i 0)) (hy:Lk (evE e y = .int k a)) (hb:Rf (s[b]? = some (.arr (.int k) l))) (hn:Om (n=l.length)) (hi:Om (i < l.length)) (hs:Pu (s.set b (.arr (.int k) (l.set i a))=s')) (hkp:Rf (kp=false))
    (hk:pops P Z pr cs K (putE e d (.tup [])) s'):pops P Z pr (⟨d,none,kp,.e (.st 1 x y)⟩::cs) K e s:=by
  refine q_stO (D':=.int k) (x0:=(l.getD i 0:Int)) (x1:=(a:Int)) hx hy hb hn ⟨?_⟩ ⟨rfl⟩ ⟨rfl⟩ ⟨rfl⟩ ⟨rfl⟩ ⟨by show (if k=k then some a else none)=some a;rw [if_pos rfl]⟩ hs hkp hk
  show l[i]? = some (l.getD i 0)
  rw [List.getD_eq_getElem?_getD,List.getElem?_eq_getElem hi.o]
  rfl
theorem q_stOB {a:Bool} {l:List Bool} (hx:Lk (evE e x = .oel b n i 0)) (hy:Lk (evE e y = .bool a)) (hb:Rf (s[b]? = some (.arr .bool l))) (hn:Om (n=l.length)) (hi:Om (i < l.length)) (hs:Pu (s.set b (.arr .bool (l.set i a))=s')) (hkp:Rf (kp=false))
    (hk:pops P Z pr cs K (putE e d (.tup [])) s'):pops P Z pr (⟨d,none,kp,.e (.st 1 x y)⟩::cs) K e s:=by
  refine q_stO (D':=.bool) (x0:=(l.getD i false:Bool)) (x1:=(a:Bool)) hx hy hb hn ⟨?_⟩ ⟨rfl⟩ ⟨rfl⟩ ⟨rfl⟩ ⟨rfl⟩ ⟨rfl⟩ hs hkp hk
  show l[i]? = some (l.getD i false)
  rw [List.getD_eq_getElem?_getD,List.getElem?_eq_getElem hi.o]
  rfl
end
end Go.Proofs.Ytcffpnlochillaa.Pv
end
