/- A heap of plain values, walks over it, and functions of the program met by them: no statement of the set is proved in this text. -/
import Derived.Test.YtcffpnlochillaaKb02
set_option linter.unusedVariables false
set_option linter.unusedSimpArgs false
set_option maxRecDepth 100000
set_option maxHeartbeats 4000000
section
namespace Go.Proofs.Ytcffpnlochillaa.Pv
open Go.RowKit Go.Proofs.Ytcffpnlochillaa.Ab Go.Proofs.Ytcffpnlochillaa.AbP
inductive Src (s:List OB):PV→(d:D)→List d.T→Prop where
  | as {p:PV} {d:D} {l:List d.T} (a:As s p d l):Src s p d l
  | str (t:ByteArray):Src s (.str t) (.int .u8) (bytI t)
theorem Src.view {Z:Bs} {h:Hp} {E:Nat→Bool} {i:Nat→Option Nat} {s:List OB} (S:SR Z h E i s) {p:PV} {d:D} {l:List d.T} (a:Src s p d l) {v:Value} (hp:PR ⟨Hp.mask h E,i,s⟩ p v) :
    ∃ us,srcV h d.sz v=some (us,l.length)∧Chunks (d.Is (Hp.mask h E)) l us:=by
  cases a with
  | as a =>
    obtain ⟨A,c,us,rfl,h0,h1,h2⟩:=a.view S hp
    exact ⟨us,srcV_row h1,h2⟩
  | str t =>
    obtain rfl:=hp.str_inv
    refine ⟨(bytI t).map (Value.int .u8),?_,Chunks_map _⟩
    show (if (1:Nat)=1 then some (bytesOf t,t.size) else none)=some (List.map (Value.int .u8) (bytI t),(bytI t).length)
    rw [if_pos rfl,bytesOf_map,bytI_len]

def sfP (s:List OB) (b:Nat):PV→Bool
  | .ptr b' _=>(match s[b']? with | some (.var _)=>true | _=>false) && !(Nat.beq b' b)
  | .oel b' n _ _=>(match s[b']? with | some (.row _ n' _)=>Nat.beq n n' | _=>false) && !(Nat.beq b' b)
  | .elt _ _ _ _=>true
  | .ref l _=>Nat.blt 0 l.length
  | .tup _=>true
  | .nilS=>true
  | .sl (.int _) _=>true
  | .osl b' n=>(match s[b']? with | some (.arr _ l)=>Nat.beq n l.length | some (.row _ n' _)=>Nat.beq n n' | _=>false) && !(Nat.beq b' b)
  | _=>false
theorem add_block (a:Addr) (n:Nat):(a.add n).block=a.block:=by
  unfold Addr.add
  split <;> rfl
theorem sf_safe {Z:Bs} {h:Hp} {E:Nat→Bool} {i:Nat→Option Nat} {s:List OB} {b k:Nat} {o:OB} {p:PV} {v:Value} (S:SR Z h E i s) (hp:PR ⟨Hp.mask h E,i,s⟩ p v) (hs:sfP s b p=true) (hb:s[b]? = some o) (hl:o.live=true) (hk:i b=some k):∀ a,ptOf v=some a→a.block≠k:=by
  intro a ha he
  obtain ⟨hE,kb,hkb,-⟩:=(S.ob b o hb).at hl hk
  have hlo:=(Hp.blk_lt hkb).1
  have nomask:∀ (a':Addr) v',(Hp.mask h E).cell? a'=some v'→a'.block=k→False:=fun a' v' hc e=>by
    rcases (mask_cell.1 hc).2 with h1 | h1
    · rw [e] at h1;omega
    · rw [e,hE] at h1;cases h1
  cases hp with
  | ptr b' o' v hv hlt h =>
    simp only [sfP,Bool.and_eq_true] at hs
    obtain ⟨h1,h2⟩:=hs
    split at h1
    · rename_i l hl'
      obtain ⟨k',e1,e2⟩:=h ⟨_,hl',rfl⟩
      rw [e2] at ha
      have ha:=Option.some.inj ha
      subst ha
      have:b'=b:=S.inj b' b k _ _ hl' hb rfl hl (by rw [← he];exact e1) hk
      subst this
      simp at h2
    · cases h1
  | oel b' n i' o' v hv hlt h =>
    simp only [sfP,Bool.and_eq_true] at hs
    obtain ⟨h1,h2⟩:=hs
    split at h1
    · rename_i es n' l hl'
      have hn:=Nat.eq_of_beq_eq_true h1
      subst hn
      rcases h es n ⟨_,hl',rfl⟩ with h3 | ⟨-,-,k',e1,e2⟩
      · omega
      · rw [e2] at ha
        have ha:=Option.some.inj ha
        subst ha
        have:b'=b:=S.inj b' b k _ _ hl' hb rfl hl (by rw [← he];exact e1) hk
        subst this
        simp at h2
    · cases h1
  | elt d l i' o' a' n c rw_ hi hd hr hc =>
    have ha:=Option.some.inj ha
    rw [← ha,add_block] at he
    have hlen:=Chunks_len hc
    have h0:0 < rw_.length:=by rw [hlen];exact Nat.mul_pos (by omega) hd
    have hcell:=rowV_cell hr (j:=0) (v:=rw_[0]) (by simp [h0])
    exact nomask _ _ hcell (by rw [add_block];exact he)
  | ref l o' a' cs hs' hl' hc hq =>
    have ha:=Option.some.inj ha
    rw [← ha,add_block] at he
    have h0:0 < l.length:=by
      have:Nat.blt 0 l.length=true:=hs
      simpa using this
    obtain ⟨m,hm⟩:∃ m,l.length=m+1:=⟨l.length - 1,by omega⟩
    rw [hm] at hc
    have hc:(Hp.mask h E).cellsFrom a' 0 (m+1)=some cs:=hc
    simp only [Hp.cellsFrom] at hc
    split at hc
    · rename_i v1 h1
      exact nomask _ _ h1 (by rw [add_block];exact he)
    · simp at hc
  | tup l a' hl' h=>cases ha
  | nilS=>cases ha
  | sl d l v hsl =>
    cases d with
    | int kk =>
      obtain ⟨A,c,rw_,e,h0,h1,h2⟩:=hsl
      obtain rfl:v = .slice A l.length c:=by simpa using e
      cases A with
      | none=>cases ha
      | some a' =>
        have ha:(if l.length=0 then none else some a')=some a:=ha
        split at ha
        · cases ha
        · rename_i hn
          obtain rfl:=Option.some.inj ha
          have hlen:=Chunks_len h2
          have h0:0 < rw_.length:=by
            rw [hlen]
            exact Nat.mul_pos (Nat.pos_of_ne_zero hn) (show 0 < 1 by decide)
          have hcell:=rowV_cell h1 (j:=0) (v:=rw_[0]) (by simp [h0])
          exact nomask _ _ hcell (by rw [add_block];exact he)
    | _=>cases hs
  | osl b' n v hv hlt h =>
    simp only [sfP,Bool.and_eq_true] at hs
    obtain ⟨h1,h2⟩:=hs
    have key:∀ es n' o',s[b']? = some o'→o'.live=true→o'.sig=some (es,n')→n=n'→False:=fun es n' o' ho' hlv hsig hn=>by
      rcases h es n' ⟨_,ho',hsig⟩ with h3 | ⟨-,c,-,e2⟩
      · omega
      · rw [e2] at ha
        have ha:ptOf (slV (i b') n c)=some a:=ha
        cases hib:i b' with
        | none=>rw [hib] at ha;cases ha
        | some k' =>
          rw [hib] at ha
          have ha:(if n=0 then none else some (⟨k',0,none⟩:Addr))=some a:=ha
          split at ha
          · cases ha
          · have ha:=Option.some.inj ha
            subst ha
            have:b'=b:=S.inj b' b k _ _ ho' hb hlv hl (by rw [← he];exact hib) hk
            subst this
            simp at h2
    split at h1
    · rename_i d l hl'
      exact key _ _ _ hl' rfl rfl (Nat.eq_of_beq_eq_true h1)
    · rename_i es n' l hl'
      exact key _ _ _ hl' rfl rfl (Nat.eq_of_beq_eq_true h1)
    · cases h1
  | _=>cases hs
section
variable {P:Program} {Z:Bs} {K:Env→List OB→Prop} {Q:QP} {e:Env} {s s':List OB} {cs:List CO} {pr:List Operand} {d:Option Nat} {kp:Bool} {x y z:Operand} {p q r:PV} {u v w:Value} {b o n m i j es:Nat} {l l' c:List PV} {D':D}
theorem q_stVK {size:Nat} {l':List PV} (hx:Lk (evE e x = .ptr b o)) (hy:Lk (evE e y=p)) (hb:Rf (s[b]? = some (.var l))) (hc:Pu (cellsP p=c)) (h1:Rf (c.all one1=true)) (hz:Rf (Nat.beq c.length size=true)) (ho:Rf (Nat.ble (o+size) l.length=true)) (hp:Pu (putP l o c=l')) (hs:Pu (s.set b (.var l')=s')) {ps:List PV} (hm:Mp (pr.map (evE e)=ps)) (hsf:Rf (ps.all (sfP s b)=true))
    (hk:pops P Z pr cs K (putE e d (.tup [])) s'):pops P Z pr (⟨d,none,true,.e (.st size x y)⟩::cs) K e s:=fun f h ⟨E,i,S,R⟩=>by
  obtain ⟨k,us,q1,q2,q3,q4,q5⟩:=own_cells S hb.o
  obtain ⟨k',q6,hv'⟩:=(R.at hx.o).ptr_inv ⟨_,hb.o,rfl⟩
  have q6:i b=some k':=q6
  rw [q1] at q6
  obtain rfl:=Option.some.inj q6
  obtain ⟨k1,k2⟩:=cellsP_PR (R.at hy.o) hc.o h1.o
  have hz:=Nat.eq_of_beq_eq_true hz.o
  have ho:=Nat.le_of_ble_eq_true ho.o
  have hlen:(evF f y).cells.toList.length=size:=by rw [← k1.1];exact hz
  have hw:=write_at q3 rfl (o:=o) (vs:=(evF f y).cells.toList) (by show o+_≤us.length;rw [hlen,← q5.1];exact ho) k2
  have hlo:=(Hp.blk_lt q3).1
  obtain ⟨S',le'⟩:=S.upd b (.var l) (.var l') (i b) (h.setBlk k ⟨putAt us o (evF f y).cells.toList,0,true⟩) E hb.o (by rfl) (by rw [Hp.next_set];exact Nat.le_refl _)
    (fun b' k' hb' hne=>by
      have hne':b'≠k:=fun e=>hne ⟨rfl,by rw [e];exact q1⟩
      exact ⟨by rw [Hp.blk_set_ne _ _ hlo hne'];exact hb',rfl⟩)
    (fun b' _ hb'=>.inl ⟨rfl,hb'⟩) rfl ⟨fun _=>⟨rfl,rfl⟩,fun es n h=>by simp [OB.sig] at h⟩
    (fun le=>⟨k,putAt us o (evF f y).cells.toList,(ups_at _ _ _).trans q1,q2,Hp.blk_set _ _ q3,putAt_one _ _ _ k2 q4,by have t:=putP_PRs k1 q5 o;rw [hp.o] at t;exact t.mono le⟩)
  rw [hs.o] at S' le'
  refine s_stP hv' (by rw [← hlen];simp) hw (fun _=>.inr ⟨rfl,fun b' k' hb' hn=>?_,fun b' hb' z hz a ha=>?_⟩) (hk _ _ ⟨E,_,S',(R.mono le').put (undef_PR _)⟩)
  · have hne':b'≠k:=fun e'=>hn (by
      show b' ∈ [evF f x].filterMap ptB
      rw [hv',e']
      simp [ptB])
    rw [Hp.blk_set_ne _ _ hlo hne']
    exact hb'
  · have hb':b' ∈ [evF f x].filterMap ptB:=hb'
    rw [hv'] at hb'
    have hbk:b'=k:=by simpa [ptB] using hb'
    rw [hbk]
    exact sf_safe S (R.ev z) (List.all_eq_true.1 (hm.o ▸ hsf.o) _ (List.mem_map_of_mem hz)) hb.o rfl q1 a ha
theorem q_appG {eo:EOp} {bytes:Nat} {l l':List D'.T} (hx:Lk (evE e x = .osl b n)) (hb:Rf (s[b]? = some (.arr D' l))) (hn:Om (n=l.length)) (hsrc:∀ f h E i,SR Z h E i s→ER ⟨Hp.mask h E,i,s⟩ e f→∃ new,Chunks (D'.Is (Hp.mask h E)) l' new∧∀ (v:Value) (h':Hp) (K1:Value→Hp→Prop),h.append D'.sz bytes (evF f x) new l'.length=some (v,h')→K1 v h'→eo.run P (evF f) h K1) (htouch:∀ f:Fr,eo.touch (evF f)=match evF f x with | .slice (some a) _ _=>if a.spot=none then [a.block] else [] | _=>[]) (h1:Om ((l.length+l'.length) * bytes≤2 ^ 46)) (h2:Om (l.length+l'.length < 2 ^ 62)) (hs:Pu (s.set b (.arr D' (l++l'))=s')) (hkp:kp=true→∀ x ∈ pr,sfP s b (evE e x)=true)
    (hk:pops P Z pr cs K (putE e d (.osl b (l.length+l'.length))) s'):pops P Z pr (⟨d,none,kp,.e eo⟩::cs) K e s:=fun f h ⟨E,i,S,R⟩=>by
  have hn:=hn.o
  have h1:=h1.o
  have h2:=h2.o
  obtain ⟨new,g2,g1⟩:=hsrc f h E i S R
  have gl:=Chunks_len g2
  obtain ⟨hd,hob⟩:=S.ob b _ hb.o
  have hlt:=(List.getElem?_eq_some_iff.1 hb.o).1
  have lvn:∀ {i':Nat→Option Nat} {m:Hp} {es' n':Nat},lvS ⟨m,i',s'⟩ b es' n'→es'=D'.sz∧n'=l.length+l'.length:=fun hl=>by
    obtain ⟨o,ho,hsig⟩:=hl
    rw [← hs.o] at ho
    have ho:(s.set b (.arr D' (l++l')))[b]? = some o:=ho
    rw [List.getElem?_set,if_pos rfl,if_pos hlt] at ho
    obtain rfl:=Option.some.inj ho
    simp only [OB.sig,List.length_append,Option.some.injEq,Prod.mk.injEq] at hsig
    exact ⟨hsig.1.symm,hsig.2.symm⟩
  have hlen':b < s'.length:=by rw [← hs.o];simpa using hlt
  rcases (R.at hx.o).osl_inv _ _ ⟨_,hb.o,rfl⟩ with hh | ⟨-,c,hc,hv⟩
  · omega
  have keepP:∀ {h':Hp},kp=true→(∀ b' k',h.blk? b'=some k'→¬ (OB.live (.arr D' l)=true∧i b=some b')→h'.blk? b'=some k')→h'.old=h.old→KeepsP (eo.touch (evF f)) pr f h h':=fun hh q1 q2=>by
    refine ⟨q2,fun b' k' hb' hn=>q1 b' k' hb' (fun hi=>hn ?_),fun b' hb' y hy a ha=>?_⟩
    · rw [htouch,hv]
      show b' ∈ (match slV (i b) n c with | .slice (some a) _ _=>if a.spot=none then [a.block] else [] | _=>[])
      rw [hi.2]
      simp [slV]
    · rw [htouch,hv] at hb'
      have hb':b' ∈ (match slV (i b) n c with | .slice (some a) _ _=>if a.spot=none then [a.block] else [] | _=>[]):=hb'
      cases hib:i b with
      | none=>rw [hib] at hb';simp [slV] at hb'
      | some k =>
        rw [hib] at hb'
        simp [slV] at hb'
        subst hb'
        exact sf_safe S (R.ev y) (hkp hh y hy) hb.o rfl hib a ha
  by_cases hm:l'.length=0
  ·
    have hl':l'=[]:=List.eq_nil_of_length_eq_zero hm
    have hu:=S.upd b (.arr D' l) (.arr D' (l++l')) (i b) h E hb.o rfl (Nat.le_refl _) (fun b' k' hb' _=>⟨hb',rfl⟩) (fun b' _ hb'=>.inl ⟨rfl,hb'⟩) rfl ⟨fun h=>by simp [OB.isV] at h,fun es n hh _=>⟨n,Nat.le_refl _,by rw [hl',List.append_nil] at hh;exact hh,fun _=>rfl⟩⟩
      (fun le=>by
        rw [hl',List.append_nil] at le ⊢
        exact (S.ob b _ hb.o).mono le (ups_at _ _ _) (fun b k _ hk=>⟨hk,rfl⟩))
    rw [hs.o] at hu
    obtain ⟨S',le'⟩:=hu
    have happ:h.append D'.sz bytes (evF f x) new l'.length=some (evF f x,h):=by
      rw [hv]
      rcases hob with ⟨k1,k2⟩ | ⟨k,us,k1,k2,k3,k4⟩
      · have k1:i b=none:=k1
        simp only [k1,slV,Hp.append]
        rw [if_neg (by simp only [Decidable.not_not];exact ⟨Nat.le_refl _,by rw [hm];simp,by rw [hm];decide⟩),if_pos hm]
      · have k1:i b=some k:=k1
        simp only [k1,slV,Hp.append]
        rw [if_neg (by rw [hm] at h1 h2 ⊢;simp only [Decidable.not_not];exact ⟨by omega,by rw [hn];exact h1,by omega⟩),if_pos hm]
    refine s_gen (fun K1=>g1 _ _ K1 happ) (fun _=>.inl (.refl h)) (hk _ _ ⟨E,_,S',(R.mono le').put ?_⟩)
    refine .osl b _ _ (R.at hx.o).osl_form hlen' (fun es' n' hl=>.inr ⟨(lvn hl).2.symm,c,by omega,?_⟩)
    show _=slV (ups i b (i b) b) _ _
    rw [ups_at,hv,hm,Nat.add_zero,← hn]
  ·
    have fin:∀ (h':Hp) (us:List Value),(∀ b' k',h.blk? b'=some k'→¬ (OB.live (.arr D' l)=true∧i b=some b')→h'.blk? b'=some k')→h'.old=h.old→h'.next=h.next+1→h'.blk? h.next=some ⟨us++new,D'.sz,true⟩→Chunks (D'.Is (Hp.mask h E)) l us →
        h.append D'.sz bytes (evF f x) new l'.length=some (.slice (some ⟨h.next,0,none⟩) (l.length+l'.length) (l.length+l'.length+1),h')→aops P pr (⟨d,none,kp,.e eo⟩::cs) (Lf Z K) f h:=fun h' us q1 q2 q3 q4 q5 q6=>by
      have hu:=S.upd b (.arr D' l) (.arr D' (l++l')) (some h.next) h' (fun b'=>b' == h.next || E b') hb.o q2 (by omega)
        (fun b' k' hb' hne=>⟨q1 b' k' hb' hne,by
          have:b'≠h.next:=by have:=(Hp.blk_lt hb').2;omega
          simp [this]⟩)
        (fun b' _ hb'=>by obtain rfl:=Option.some.inj hb';exact .inr (Nat.le_refl _)) rfl
        ⟨fun h=>by simp [OB.isV] at h,fun es n hh _=>by
          simp only [OB.sig,List.length_append,Option.some.injEq,Prod.mk.injEq] at hh
          exact ⟨l.length,by omega,by simp [OB.sig,hh.1],fun e=>by omega⟩⟩
        (fun le=>⟨hd,.inr ⟨h.next,us++new,ups_at _ _ _,by simp,q4,Chunks_append (ChMono (Is_mono le.m D') q5) (ChMono (Is_mono le.m D') g2)⟩⟩)
      rw [hs.o] at hu
      obtain ⟨S',le'⟩:=hu
      refine s_gen (fun K1=>g1 _ _ K1 q6) (fun hh=>.inr (keepP hh q1 q2)) (hk _ _ ⟨_,_,S',(R.mono le').put ?_⟩)
      refine .osl b _ _ ⟨_,_,_,rfl⟩ hlen' (fun es' n' hl=>.inr ⟨(lvn hl).2.symm,_,.inr rfl,?_⟩)
      show _=slV (ups i b (some h.next) b) _ _
      rw [ups_at]
      rfl
    rcases hob with ⟨k1,k2⟩ | ⟨k,us,k1,k2,k3,k4⟩
    · have k1:i b=none:=k1
      subst k2
      refine fin (h.push ⟨[]++new,D'.sz,true⟩) [] (fun b' k' hb' _=>?_) rfl (by rw [Hp.next_push]) (Hp.blk_push _ _) rfl ?_
      · rw [Hp.blk_push_ne _ _ (by have:=(Hp.blk_lt hb').2;omega)];exact hb'
      · rw [hv]
        simp only [List.length_nil] at hn h1 h2
        subst hn
        simp only [k1,slV,Hp.append]
        rw [if_neg (by simp;simp at h1 h2;omega),if_neg hm,if_pos ⟨trivial,trivial⟩]
        simp
    · have k1:i b=some k:=k1
      have hlo:=(Hp.blk_lt k3).1
      have hul:=Chunks_len k4
      have hcells:h.cells? ⟨k,0,none⟩ (n * D'.sz)=some us:=by
        rw [blk_cells' k3 rfl (by show 0+n * D'.sz≤us.length;rw [hul,hn];omega),List.drop_zero,hn,← hul,List.take_length]
      have hv':evF f x = .slice (some ⟨k,0,none⟩) n c:=by rw [hv];show slV (i b) n c=_;rw [k1];rfl
      by_cases hcn:c=n
      · refine fin (h.push ⟨us++new,D'.sz,true⟩) us (fun b' k' hb' _=>?_) rfl (by rw [Hp.next_push]) (Hp.blk_push _ _) k4 ?_
        · rw [Hp.blk_push_ne _ _ (by have:=(Hp.blk_lt hb').2;omega)];exact hb'
        · rw [hv']
          simp only [Hp.append]
          rw [if_neg (by simp only [Decidable.not_not];exact ⟨by omega,by rw [hn];exact h1,by omega⟩),if_neg hm]
          simp only [hcells]
          rw [if_pos hcn,hn]
      · have hkill:h.kill k=h.setBlk k ⟨us,D'.sz,false⟩:=Hp.kill_eq k3
        have hnx:(h.kill k).next=h.next:=by rw [hkill,Hp.next_set]
        refine fin ((h.kill k).push ⟨us++new,D'.sz,true⟩) us (fun b' k' hb' hne=>?_) (by rw [hkill];rfl) (by rw [Hp.next_push,hnx]) (by rw [← hnx];exact Hp.blk_push _ _) k4 ?_
        · have hne':b'≠k:=fun e=>hne ⟨rfl,by rw [e];exact k1⟩
          rw [Hp.blk_push_ne _ _ (by rw [hnx];have:=(Hp.blk_lt hb').2;omega),hkill,Hp.blk_set_ne _ _ hlo hne']
          exact hb'
        · rw [hv']
          simp only [Hp.append]
          rw [if_neg (by simp only [Decidable.not_not];exact ⟨by omega,by rw [hn];exact h1,by omega⟩),if_neg hm]
          simp only [hcells]
          rw [if_neg hcn,if_pos ⟨by omega,by omega,trivial,trivial,by simp [k3]⟩,hn]
theorem q_appX {bytes:Nat} {l l':List D'.T} (hx:Lk (evE e x = .osl b n)) (hy:Lk (evE e y=q)) (hb:Rf (s[b]? = some (.arr D' l))) (hn:Om (n=l.length)) (ha:Vw (Src s q D' l')) (he:Rf (Nat.beq D'.sz es=true)) (h1:Om ((l.length+l'.length) * bytes≤2 ^ 46)) (h2:Om (l.length+l'.length < 2 ^ 62)) (hs:Pu (s.set b (.arr D' (l++l'))=s')) (hkp:kp=true→∀ x ∈ pr,sfP s b (evE e x)=true)
    (hk:pops P Z pr cs K (putE e d (.osl b (l.length+l'.length))) s'):pops P Z pr (⟨d,none,kp,.e (.app es bytes x y)⟩::cs) K e s:=by
  have he:=Nat.eq_of_beq_eq_true he.o
  subst he
  refine q_appG (eo:=.app D'.sz bytes x y) hx hb hn (fun f h E i S R=>?_) (fun f=>rfl) h1 h2 hs hkp hk
  obtain ⟨new,g1,g2⟩:=ha.o.view S (R.at hy.o)
  exact ⟨new,g2,fun v h' K1 ha hK=>⟨new,_,v,h',g1,ha,hK⟩⟩
theorem q_apzX {bytes:Nat} {k kk:IntKind} {a:Int} {l:List Int} (hx:Lk (evE e x = .osl b n)) (hy:Lk (evE e y = .int kk a)) (hb:Rf (s[b]? = some (.arr (.int k) l))) (hn:Om (n=l.length)) (h0:Om (0≤a)) (hj:Vl (a.toNat=m)) (h1:Om ((l.length+m) * bytes≤2 ^ 46)) (h2:Om (l.length+m < 2 ^ 62)) (hs:Pu (s.set b (.arr (.int k) (l++List.replicate m (0:Int)))=s')) (hkp:kp=true→∀ x ∈ pr,sfP s b (evE e x)=true)
    (hk:pops P Z pr cs K (putE e d (.osl b (l.length+m))) s'):pops P Z pr (⟨d,none,kp,.e (.apz 1 bytes [.int k 0] x y)⟩::cs) K e s:=by
  have hj:=hj.o
  have h0:=h0.o
  subst hj
  have hlen:(List.replicate a.toNat (0:Int)).length=a.toNat:=List.length_replicate
  refine q_appG (D':=.int k) (l':=List.replicate a.toNat (0:Int)) (eo:=.apz 1 bytes [.int k 0] x y) hx hb hn (fun f h E i S R=>⟨zerosOf 1 [.int k 0] a.toNat,?_,fun v h' K1 ha hK=>?_⟩) (fun f=>rfl) ⟨by rw [hlen];exact h1.o⟩ ⟨by rw [hlen];exact h2.o⟩ hs hkp (by rw [hlen];exact hk)
  · rw [rep_zeros]
    exact Chunks_rep (d:=.int k) (z:=(0:Int)) (v:=.int k 0) rfl _
  · show match evF f y with | .int _ n=>_ | _=>_
    rw [(R.at hy.o).int_inv]
    rw [hlen] at ha
    exact ⟨h0,v,h',ha,hK⟩
theorem q_apzO {bytes:Nat} {k kk:IntKind} {a:Int} {l:List Int} (hx:Lk (evE e x = .osl b n)) (hy:Lk (evE e y = .int kk a)) (hb:Rf (s[b]? = some (.arr (.int k) l))) (hn:Om (n=l.length)) (h0:Om (0≤a)) (hj:Vl (a.toNat=m)) (h1:Om ((l.length+m) * bytes≤2 ^ 46)) (h2:Om (l.length+m < 2 ^ 62)) (hs:Pu (s.set b (.arr (.int k) (l++List.replicate m (0:Int)))=s'))
    (hk:pops P Z pr cs K (putE e d (.osl b (l.length+m))) s'):pops P Z pr (⟨d,none,false,.e (.apz 1 bytes [.int k 0] x y)⟩::cs) K e s:=q_apzX hx hy hb hn h0 hj h1 h2 hs (fun h=>by cases h) hk
theorem q_apzK {bytes:Nat} {k kk:IntKind} {a:Int} {l:List Int} (hx:Lk (evE e x = .osl b n)) (hy:Lk (evE e y = .int kk a)) (hb:Rf (s[b]? = some (.arr (.int k) l))) (hn:Om (n=l.length)) (h0:Om (0≤a)) (hj:Vl (a.toNat=m)) (h1:Om ((l.length+m) * bytes≤2 ^ 46)) (h2:Om (l.length+m < 2 ^ 62)) (hs:Pu (s.set b (.arr (.int k) (l++List.replicate m (0:Int)))=s')) {ps:List PV} (hm:Mp (pr.map (evE e)=ps)) (hsf:Rf (ps.all (sfP s b)=true))
    (hk:pops P Z pr cs K (putE e d (.osl b (l.length+m))) s'):pops P Z pr (⟨d,none,true,.e (.apz 1 bytes [.int k 0] x y)⟩::cs) K e s:=q_apzX hx hy hb hn h0 hj h1 h2 hs (fun _ z hz=>List.all_eq_true.1 (hm.o ▸ hsf.o) _ (List.mem_map_of_mem hz)) hk
theorem q_appO {bytes:Nat} {l l':List D'.T} (hx:Lk (evE e x = .osl b n)) (hy:Lk (evE e y=q)) (hb:Rf (s[b]? = some (.arr D' l))) (hn:Om (n=l.length)) (ha:Vw (Src s q D' l')) (he:Rf (Nat.beq D'.sz es=true)) (h1:Om ((l.length+l'.length) * bytes≤2 ^ 46)) (h2:Om (l.length+l'.length < 2 ^ 62)) (hs:Pu (s.set b (.arr D' (l++l'))=s'))
    (hk:pops P Z pr cs K (putE e d (.osl b (l.length+l'.length))) s'):pops P Z pr (⟨d,none,false,.e (.app es bytes x y)⟩::cs) K e s:=q_appX hx hy hb hn ha he h1 h2 hs (fun h=>by cases h) hk
theorem q_appK {bytes:Nat} {l l':List D'.T} (hx:Lk (evE e x = .osl b n)) (hy:Lk (evE e y=q)) (hb:Rf (s[b]? = some (.arr D' l))) (hn:Om (n=l.length)) (ha:Vw (Src s q D' l')) (he:Rf (Nat.beq D'.sz es=true)) (h1:Om ((l.length+l'.length) * bytes≤2 ^ 46)) (h2:Om (l.length+l'.length < 2 ^ 62)) (hs:Pu (s.set b (.arr D' (l++l'))=s')) {ps:List PV} (hm:Mp (pr.map (evE e)=ps)) (hsf:Rf (ps.all (sfP s b)=true))
    (hk:pops P Z pr cs K (putE e d (.osl b (l.length+l'.length))) s'):pops P Z pr (⟨d,none,true,.e (.app es bytes x y)⟩::cs) K e s:=q_appX hx hy hb hn ha he h1 h2 hs (fun _ z hz=>List.all_eq_true.1 (hm.o ▸ hsf.o) _ (List.mem_map_of_mem hz)) hk

theorem ghO {e':Env} (g:Gh Z e s e' s') (hk:pops P Z pr cs K e' s'):pops P Z pr cs K e s:=fun f h hr=>hk f h (g f h hr)
theorem ghW {a:AC} {e':Env} (g:Gh Z e s e' s') (hk:pwp P Z a Q e' s'):pwp P Z a Q e s:=fun f h hr=>hk f h (g f h hr)
theorem putE_self {X:Cx} {f:Fr} {t:Nat} (R:ER X e f) (hp:PR X p (f t)):ER X (putE e (some t) p) f:=fun t'=>by
  show PR X (if t'=t then p else e t') (f t')
  split
  · rename_i h;subst h;exact hp
  · exact R t'

theorem Gh.virt (D':D) {t:Nat} (hx:e t = .nilS) (hd:0 < D'.sz)  : Gh Z e s (putE e (some t) (.osl s.length 0)) (s++[.arr D' []]):=fun f h ⟨E,i,S,R⟩=>by
  obtain ⟨S',le'⟩:=S.add (.arr D' []) none h E rfl (Nat.le_refl _) (fun b k hb=>⟨hb,rfl⟩) (fun b hb=>by simp at hb) (fun le=>⟨hd,.inl ⟨ups_at _ _ _,rfl⟩⟩)
  refine ⟨E,_,S',putE_self (R.mono le') ?_⟩
  have h1:=R t
  rw [hx] at h1
  rw [h1.nilS_inv]
  refine .osl _ 0 _ ⟨_,_,_,rfl⟩ (by simp) (fun es' n' hl=>.inr ⟨?_,0,.inl rfl,by show _=slV (ups i s.length none s.length) 0 0;rw [ups_at];rfl⟩)
  obtain ⟨o,ho,hsig⟩:=hl
  have ho:(s++[OB.arr D' []])[s.length]? = some o:=ho
  simp at ho
  subst ho
  simp [OB.sig] at hsig
  exact hsig.2

theorem Gh.arr (D':D) {l':List D'.T} (hb:s[b]? = some (.row D'.sz n c)) (hd:decs D' n c=some l') (h0:0 < D'.sz)  : Gh Z e s e (s.set b (.arr D' l')):=fun f h ⟨E,i,S,R⟩=>by
  obtain ⟨k,cs,k1,k2,k3,k4,k5,k6⟩:=S.ob b _ hb
  obtain ⟨q1,q2⟩:=decs_is n _ _ _ hd k6
  obtain ⟨S',le'⟩:=S.upd b _ (.arr D' l') (i b) h E hb rfl (Nat.le_refl _) (fun b' k' hb' _=>⟨hb',rfl⟩) (fun b' _ hb'=>.inl ⟨rfl,hb'⟩) rfl
    ⟨fun h=>by simp [OB.isV] at h,fun es n' hh _=>⟨n',Nat.le_refl _,by simpa [OB.sig,q2] using hh,fun _=>rfl⟩⟩
    (fun le=>⟨h0,.inr ⟨k,cs,(ups_at _ _ _).trans k1,k2,k3,ChMono (Is_mono le.m D') q1⟩⟩)
  exact ⟨E,_,S',R.mono le'⟩

theorem SR.free {h:Hp} {E:Nat→Bool} {i:Nat→Option Nat} (S:SR Z h E i s) {ob:OB} (hb:s[b]? = some ob) (hl:ob.live=true) :
    SR Z h (fun b'=>if i b=some b' then false else E b') (ups i b none) (s.set b .dead)∧Cx.le ⟨Hp.mask h E,i,s⟩ ⟨Hp.mask h (fun b'=>if i b=some b' then false else E b'),ups i b none,s.set b .dead⟩ :=
  S.upd b ob .dead none h _ hb rfl (Nat.le_refl _) (fun b' k' hb' hne=>⟨hb',by rw [if_neg (fun e=>hne ⟨hl,e⟩)]⟩) (fun b' h _=>by simp [OB.live] at h) hl ⟨fun h=>by simp [OB.isV] at h,fun es n h=>by simp [OB.sig] at h⟩ (fun _=>trivial)

theorem frz_is {h:Hp} {E:Nat→Bool} {i:Nat→Option Nat} (S:SR Z h E i s) {l:List D'.T} (hb:s[b]? = some (.arr D' l)) (hn:n=l.length) (hp:PR ⟨Hp.mask h E,i,s⟩ (.osl b n) v) :
    PR ⟨Hp.mask h (fun b'=>if i b=some b' then false else E b'),ups i b none,s.set b .dead⟩ (.sl D' l) v:=by
  obtain ⟨-,le'⟩:=S.free hb rfl
  obtain ⟨hd,hob⟩:=S.ob b _ hb
  rcases hp.osl_inv _ _ ⟨_,hb,rfl⟩ with hh | ⟨-,c,hc,hv⟩
  · omega
  rcases hob with ⟨k1,rfl⟩ | ⟨k,us,k1,k2,k3,k4⟩
  · have k1:i b=none:=k1
    simp only [k1,slV] at hv
    rw [hv]
    exact .sl D' [] _ (Is_nilS _ D')
  · have k1:i b=some k:=k1
    simp only [k1,slV] at hv
    rw [hv,hn]
    have hul:=Chunks_len k4
    refine .sl D' l _ ⟨_,c,us,rfl,by omega,?_,ChMono (Is_mono le'.m D') k4⟩
    show rowV (Hp.mask h (fun b'=>if i b=some b' then false else E b')) D'.sz (.slice (some ⟨k,0,none⟩) l.length c)=some us
    refine blk_row ?_ hul
    rw [mask_blk,k3]
    simp [k1]
theorem Gh.frz {t:Nat} {l:List D'.T} (hx:e t = .osl b n) (hb:s[b]? = some (.arr D' l)) (hn:n=l.length)  : Gh Z e s (putE e (some t) (.sl D' l)) (s.set b .dead):=fun f h ⟨E,i,S,R⟩=>by
  obtain ⟨S',le'⟩:=S.free hb rfl
  refine ⟨_,_,S',putE_self (R.mono le') ?_⟩
  have h1:=R t
  rw [hx] at h1
  exact frz_is S hb hn h1

theorem frzV_is {h:Hp} {E:Nat→Bool} {i:Nat→Option Nat} (S:SR Z h E i s) (hb:s[b]? = some (.var l)) (hp:PR ⟨Hp.mask h E,i,s⟩ (.ptr b 0) v) :
    PR ⟨Hp.mask h (fun b'=>if i b=some b' then false else E b'),ups i b none,s.set b .dead⟩ (.ref l 0) v:=by
  obtain ⟨-,le'⟩:=S.free hb rfl
  obtain ⟨k,cs,q1,q2,q3,q4,q5⟩:=own_cells S hb
  obtain ⟨k',q6,hv⟩:=hp.ptr_inv ⟨_,hb,rfl⟩
  have q6:i b=some k':=q6
  rw [q1] at q6
  obtain rfl:=Option.some.inj q6
  rw [hv]
  refine PR.ref l 0 ⟨k,0,none⟩ cs rfl q5.1 ?_ (q5.mono le').2
  rw [blk_cells' (k:=⟨cs,0,true⟩) (by rw [mask_blk,q3];simp [q1]) rfl (by show 0+l.length≤cs.length;rw [q5.1];omega),List.drop_zero,q5.1,List.take_length]
theorem q_mkIP {t:TypeId} (hx:Lk (evE e x = .ptr b 0)) (hb:Rf (s[b]? = some (.var l))) (hs:Pu (s.set b .dead=s')) (hk:pops P Z pr cs K (putE e d (.ifc t (.ref l 0))) s'):pops P Z pr (⟨d,none,kp,.f (.mkI t x)⟩::cs) K e s:=fun f h ⟨E,i,S,R⟩=>by
  have h1:=frzV_is S hb.o (R.at hx.o)
  obtain ⟨S',le'⟩:=S.free hb.o rfl
  rw [hs.o] at S' le' h1
  exact s_f (v:=.iface t (evF f x)) (by simp only [FOp.run]) (hk _ _ ⟨_,_,S',(R.mono le').put (.ifc t _ _ h1)⟩)

def idx:List Nat→Nat→Nat→Option Nat
  | [],_,_=>none
  | a::l,k,b=>if a=b then some k else idx l (k+1) b
theorem idx_at:∀ {js:List Nat} {k b j:Nat},idx js k b=some j→k≤j∧js[j - k]? = some b
  | [],k,b,j,h=>by simp [idx] at h
  | a :: l, k, b, j, h => by
    unfold idx at h
    split at h
    · rename_i hab
      obtain rfl:=Option.some.inj h
      exact ⟨Nat.le_refl _,by rw [Nat.sub_self,hab];rfl⟩
    · obtain ⟨h1,h2⟩:=idx_at h
      refine ⟨by omega,?_⟩
      rw [show j - k=(j - (k+1))+1 by omega]
      exact h2
def renA (js:List Nat):PV→PV
  | .ptr b o=>match idx js 0 b with | some j=>.ptr j o | none=>.und
  | .osl b n=>match idx js 0 b with | some j=>.osl j n | none=>.und
  | .osb b n lo m=>match idx js 0 b with | some j=>.osb j n lo m | none=>.und
  | .oel b n i o=>match idx js 0 b with | some j=>.oel j n i o | none=>.und
  | .int k n=>.int k n
  | .bool b=>.bool b
  | .str t=>.str t
  | .nilI=>.nilI
  | .nilF=>.nilF
  | .nilP=>.nilP
  | .nilS=>.nilS
  | .sl d l=>.sl d l
  | .elt d l i o=>.elt d l i o
  | _=>.und
def renB (js:List Nat):PV→PV
  | .agg l=>.agg (l.map (renA js))
  | .tup l=>.tup (l.map (renA js))
  | .fn g a b=>.fn g (a.map (renA js)) (b.map (renA js))
  | .ifc t (.ref l o)=>.ifc t (.ref (l.map (renA js)) o)
  | .ifc t p=>.ifc t (renA js p)
  | .ref l o=>.ref (l.map (renA js)) o
  | p=>renA js p
def renO (js:List Nat):OB→OB
  | .var l=>.var (l.map (renB js))
  | .row es n l=>.row es n (l.map (renB js))
  | o=>o
def selS (js:List Nat) (s:List OB):List OB:=js.map fun b=>renO js (s.getD b .dead)
theorem renO_sig (js:List Nat) (o:OB):(renO js o).sig=o.sig∧(renO js o).isV=o.isV∧(renO js o).live=o.live:=by cases o <;> exact ⟨rfl,rfl,rfl⟩
theorem selS_at {js:List Nat} {j b:Nat} (hj:js[j]? = some b):(selS js s)[j]? = some (renO js (s.getD b .dead)):=by
  unfold selS
  rw [List.getElem?_map,hj]
  rfl
section
variable {m:Hp} {i:Nat→Option Nat} {js:List Nat}
theorem sel_v {j b:Nat} (hj:js[j]? = some b) (h:lvV ⟨m,fun j=>(js[j]?).bind i,selS js s⟩ j):lvV ⟨m,i,s⟩ b:=by
  obtain ⟨o,ho,hv⟩:=h
  have ho:(selS js s)[j]? = some o:=ho
  rw [selS_at hj] at ho
  obtain rfl:=Option.some.inj ho
  rw [(renO_sig js _).2.1] at hv
  refine ⟨s.getD b .dead,?_,hv⟩
  show s[b]? = _
  rw [List.getD_eq_getElem?_getD] at hv ⊢
  cases hs:s[b]? with
  | none=>rw [hs] at hv;simp [OB.isV] at hv
  | some o=>rfl
theorem sel_s {j b es n:Nat} (hj:js[j]? = some b) (h:lvS ⟨m,fun j=>(js[j]?).bind i,selS js s⟩ j es n):lvS ⟨m,i,s⟩ b es n:=by
  obtain ⟨o,ho,hv⟩:=h
  have ho:(selS js s)[j]? = some o:=ho
  rw [selS_at hj] at ho
  obtain rfl:=Option.some.inj ho
  rw [(renO_sig js _).1] at hv
  refine ⟨s.getD b .dead,?_,hv⟩
  show s[b]? = _
  rw [List.getD_eq_getElem?_getD] at hv ⊢
  cases hs:s[b]? with
  | none=>rw [hs] at hv;simp [OB.sig] at hv
  | some o=>rfl
theorem renA_PR {p:PV} {v:Value} (hp:PR ⟨m,i,s⟩ p v):PR ⟨m,fun j=>(js[j]?).bind i,selS js s⟩ (renA js p) v:=by
  have at0:∀ {b j:Nat},idx js 0 b=some j→js[j]? = some b:=fun h=>by have:=(idx_at h).2;rwa [Nat.sub_zero] at this
  have lt:∀ {b j:Nat},js[j]? = some b→j < (selS js s).length:=fun h=>by unfold selS;rw [List.length_map];exact (List.getElem?_eq_some_iff.1 h).1
  have bi:∀ {b j:Nat},js[j]? = some b→(js[j]?).bind i=i b:=fun h=>by rw [h];rfl
  cases p with
  | ptr b o =>
    unfold renA
    simp only
    split
    · rename_i j hj
      have h1:=at0 hj
      refine .ptr j o v hp.ptr_form (lt h1) (fun hl=>?_)
      show ∃ k,(js[j]?).bind i=some k∧_
      rw [bi h1]
      exact hp.ptr_inv (sel_v h1 hl)
    · exact .und v
  | osl b n =>
    unfold renA
    simp only
    split
    · rename_i j hj
      have h1:=at0 hj
      refine .osl j n v hp.osl_form (lt h1) (fun es n' hl=>?_)
      show _∨(_∧∃ c,_∧v=slV ((js[j]?).bind i) n c)
      rw [bi h1]
      exact hp.osl_inv es n' (sel_s h1 hl)
    · exact .und v
  | osb b n lo m' =>
    unfold renA
    simp only
    split
    · rename_i j hj
      have h1:=at0 hj
      refine .osb j n lo m' v hp.osb_form (lt h1) (fun es n' hl=>?_)
      show _∨(_∧_∧∃ A c,_∧_∧(_∨∃ k,(js[j]?).bind i=some k∧_))
      rw [bi h1]
      exact hp.osb_inv es n' (sel_s h1 hl)
    · exact .und v
  | oel b n k o =>
    unfold renA
    simp only
    split
    · rename_i j hj
      have h1:=at0 hj
      refine .oel j n k o v hp.oel_form (lt h1) (fun es n' hl=>?_)
      show _∨(_∧_∧∃ k',(js[j]?).bind i=some k'∧_)
      rw [bi h1]
      exact hp.oel_inv es n' (sel_s h1 hl)
    · exact .und v
  | int k n=>rw [hp.int_inv];exact .int k n
  | bool b=>rw [hp.bool_inv];exact .bool b
  | str t=>rw [hp.str_inv];exact .str t
  | nilI=>rw [hp.nilI_inv];exact .nilI
  | nilF=>rw [hp.nilF_inv];exact .nilF
  | nilP=>rw [hp.nilP_inv];exact .nilP
  | nilS=>rw [hp.nilS_inv];exact .nilS
  | sl d l=>exact .sl d l v hp.sl_inv
  | elt d l k o =>
    obtain ⟨a,n,c,rw,rfl,h1,h2,h3,h4⟩:=hp.elt_inv
    exact .elt d l k o a n c rw h1 h2 h3 h4
  | _=>exact .und v
theorem renAs_PR {l:List PV} {us:List Value} (h:PRs ⟨m,i,s⟩ l us):PRs ⟨m,fun j=>(js[j]?).bind i,selS js s⟩ (l.map (renA js)) us :=
  ⟨by simp [h.1],fun j p v hp hv=>by
    rw [List.getElem?_map] at hp
    obtain ⟨q,hq,rfl⟩:=Option.map_eq_some_iff.1 hp
    exact renA_PR (h.2 j q v hq hv)⟩
theorem renR_PR {l:List PV} {o:Nat} {v:Value} (h:PR ⟨m,i,s⟩ (.ref l o) v):PR ⟨m,fun j=>(js[j]?).bind i,selS js s⟩ (.ref (l.map (renA js)) o) v:=by
  obtain ⟨a,cs,rfl,h1,h2,h3⟩:=h.ref_inv
  have h4:=renAs_PR (js:=js) h3
  exact .ref _ o a cs h1 h4.1 (by rw [List.length_map];exact h2) h4.2
theorem renB_PR {p:PV} {v:Value} (hp:PR ⟨m,i,s⟩ p v):PR ⟨m,fun j=>(js[j]?).bind i,selS js s⟩ (renB js p) v:=by
  unfold renB
  split
  · obtain ⟨a,rfl,h⟩:=hp.agg_inv
    have:=renAs_PR (js:=js) h
    exact .agg _ _ this.1 this.2
  · obtain ⟨a,rfl,h⟩:=hp.tup_inv
    have:=renAs_PR (js:=js) h
    exact .tup _ _ this.1 this.2
  · obtain ⟨a,b,rfl,h1,h2⟩:=hp.fn_inv
    have k1:=renAs_PR (js:=js) h1
    have k2:=renAs_PR (js:=js) h2
    exact .fn _ _ _ _ _ k1.1 k2.1 k1.2 k2.2
  · obtain ⟨u,rfl,h⟩:=hp.ifc_inv
    exact .ifc _ _ _ (renR_PR h)
  · obtain ⟨u,rfl,h⟩:=hp.ifc_inv
    exact .ifc _ _ _ (renA_PR h)
  · exact renR_PR hp
  · exact renA_PR hp
theorem renBs_PR {l:List PV} {us:List Value} (h:PRs ⟨m,i,s⟩ l us):PRs ⟨m,fun j=>(js[j]?).bind i,selS js s⟩ (l.map (renB js)) us :=
  ⟨by simp [h.1],fun j p v hp hv=>by
    rw [List.getElem?_map] at hp
    obtain ⟨q,hq,rfl⟩:=Option.map_eq_some_iff.1 hp
    exact renB_PR (h.2 j q v hq hv)⟩
end
theorem SR.sel {h:Hp} {E:Nat→Bool} {i:Nat→Option Nat} (js:List Nat) (hn:js.Nodup) (hz:∀ b,b < Z.s.length→js[b]? = some b) (S:SR Z h E i s):SR Z h E (fun j=>(js[j]?).bind i) (selS js s):=by
  have key:∀ (j:Nat) (o:OB),(selS js s)[j]? = some o→o.live=true→∃ (b:Nat) (o':OB),js[j]? = some b∧s[b]? = some o'∧o=renO js o'∧o'.live=true:=fun j o ho hl=>by
    have hj:j < js.length:=by have:=(List.getElem?_eq_some_iff.1 ho).1;unfold selS at this;rwa [List.length_map] at this
    have h1:js[j]? = some js[j]:=by simp [hj]
    rw [selS_at h1] at ho
    obtain rfl:=Option.some.inj ho
    rw [(renO_sig js _).2.2] at hl
    rw [List.getD_eq_getElem?_getD] at hl
    cases hs:s[js[j]]? with
    | none=>rw [hs] at hl;simp [OB.live] at hl
    | some o' =>
      rw [hs] at hl
      exact ⟨js[j],o',h1,hs,by rw [List.getD_eq_getElem?_getD,hs];rfl,hl⟩
  refine ⟨fun j o ho=>?_,fun j j' b o o' ho ho' hl hl' hi hi'=>?_,S.old,S.next,S.keep,fun b ⟨j,o,ho,hl,hi⟩=>?_,?_⟩
  · by_cases hl:o.live=true
    · obtain ⟨b,o',h1,h2,rfl,h3⟩:=key j o ho hl
      have hob:=S.ob b o' h2
      have hb:(js[j]?).bind i=i b:=by rw [h1];rfl
      cases o' with
      | dead=>trivial
      | var l =>
        obtain ⟨k,cs,k1,k2,k3,k4,k5⟩:=hob
        exact ⟨k,cs,hb.trans k1,k2,k3,k4,renBs_PR k5⟩
      | row es n l =>
        obtain ⟨k,cs,k1,k2,k3,k4,k5,k6⟩:=hob
        exact ⟨k,cs,hb.trans k1,k2,k3,k4,by rw [List.length_map];exact k5,renBs_PR k6⟩
      | arr d l =>
        obtain ⟨hd,k1 | ⟨k,us,k1,k2,k3,k4⟩⟩:=hob
        · exact ⟨hd,.inl ⟨hb.trans k1.1,k1.2⟩⟩
        · exact ⟨hd,.inr ⟨k,us,hb.trans k1,k2,k3,k4⟩⟩
    · cases o with
      | dead=>trivial
      | _=>simp [OB.live] at hl
  · obtain ⟨c,p,h1,h2,rfl,h3⟩:=key j o ho hl
    obtain ⟨c',p',h1',h2',rfl,h3'⟩:=key j' o' ho' hl'
    have hi:i c=some b:=by have:(js[j]?).bind i=some b:=hi;rwa [h1] at this
    have hi':i c'=some b:=by have:(js[j']?).bind i=some b:=hi';rwa [h1'] at this
    have e:=S.inj c c' b p p' h2 h2' h3 h3' hi hi'
    subst e
    exact (List.getElem?_inj (List.getElem?_eq_some_iff.1 h1).1 hn).1 (h1.trans h1'.symm)
  · obtain ⟨c,p,h1,h2,rfl,h3⟩:=key j o ho hl
    have hi:i c=some b:=by have:(js[j]?).bind i=some b:=hi;rwa [h1] at this
    exact S.fresh b ⟨c,p,h2,h3,hi⟩
  · refine ⟨S.le.m,?_,fun b hb hv=>?_,fun b es n hb hv=>?_⟩
    · show Z.s.length≤(selS js s).length
      unfold selS
      rw [List.length_map]
      by_cases hz0:Z.s.length=0
      · omega
      · have:=(List.getElem?_eq_some_iff.1 (hz (Z.s.length - 1) (by omega))).1
        omega
    · have h1:=hz b hb
      obtain ⟨q1,q2⟩:=S.le.v b hb (sel_v h1 hv)
      exact ⟨q1,by show (js[b]?).bind i=_;rw [h1];exact q2⟩
    · have h1:=hz b hb
      obtain ⟨n0,q1,q2,q3⟩:=S.le.s b es n hb (sel_s h1 hv)
      exact ⟨n0,q1,q2,fun e=>by show (js[b]?).bind i=_;rw [h1];exact q3 e⟩
theorem Gh.sel (js:List Nat) (hn:js.Nodup) (hz:∀ b,b < Z.s.length→js[b]? = some b):Gh Z e s (fun t=>renB js (e t)) (selS js s):=fun f h ⟨E,i,S,R⟩=>⟨E,_,S.sel js hn hz,fun t=>renB_PR (R t)⟩
end
end Go.Proofs.Ytcffpnlochillaa.Pv
namespace Go.Proofs.Ytcffpnlochillaa.Pv
open Go.RowKit Go.Proofs.Ytcffpnlochillaa.Ab Go.Proofs.Ytcffpnlochillaa.AbP
def per1:PV→Bool
  | .int _ _ | .bool _ | .str _ | .nilI | .nilF | .nilP | .nilS | .sl _ _ | .elt _ _ _ _=>true
  | _=>false
def per2:PV→Bool
  | .agg l=>l.all per1
  | .tup l=>l.all per1
  | .ref l _=>l.all per1
  | .ifc _ (.ref l _)=>l.all per1
  | .ifc _ v=>per1 v
  | .fn _ [] []=>true
  | p=>per1 p
def per3:PV→Bool
  | .agg l=>l.all per2
  | .tup l=>l.all per2
  | p=>per2 p
theorem per1_PR {X Y:Cx} {p:PV} {v:Value} (h:per1 p=true) (hm:KeepsC X.m Y.m) (hp:PR X p v):PR Y p v:=by
  cases p with
  | int k n=>rw [hp.int_inv];exact .int k n
  | bool b=>rw [hp.bool_inv];exact .bool b
  | str s=>rw [hp.str_inv];exact .str s
  | nilI=>rw [hp.nilI_inv];exact .nilI
  | nilF=>rw [hp.nilF_inv];exact .nilF
  | nilP=>rw [hp.nilP_inv];exact .nilP
  | nilS=>rw [hp.nilS_inv];exact .nilS
  | sl d l=>exact .sl d l v (Is_mono hm (.sl d) l [v] hp.sl_inv)
  | elt d l i o =>
    obtain ⟨a,n,c,rw,rfl,h1,h2,h3,h4⟩:=hp.elt_inv
    exact .elt d l i o a n c rw h1 h2 (hm.row h3) (ChMono (Is_mono hm d) h4)
  | _=>simp [per1] at h
theorem perL {X Y:Cx} {q:PV→Bool} (hq:∀ p v,q p=true→PR X p v→PR Y p v) {l:List PV} {us:List Value} (h:l.all q=true) (hp:PRs X l us):PRs Y l us :=
  ⟨hp.1,fun j p v h1 h2=>hq p v (List.all_eq_true.1 h p (List.mem_of_getElem? h1)) (hp.2 j p v h1 h2)⟩
theorem per_ref {X Y:Cx} (hm:KeepsC X.m Y.m) {l:List PV} {o:Nat} {v:Value} (h:l.all per1=true) (hp:PR X (.ref l o) v):PR Y (.ref l o) v:=by
  obtain ⟨a,cs,rfl,h1,h2,h3⟩:=hp.ref_inv
  have h4:=perL (fun p v q=>per1_PR q hm) h h3
  exact .ref l o a cs h1 h4.1 (hm.cellsFrom _ _ _ h2) h4.2
theorem per2_PR {X Y:Cx} {p:PV} {v:Value} (h:per2 p=true) (hm:KeepsC X.m Y.m) (hp:PR X p v):PR Y p v:=by
  unfold per2 at h
  split at h
  · obtain ⟨a,rfl,h1⟩:=hp.agg_inv
    have:=perL (fun p v q=>per1_PR q hm) h h1
    exact .agg _ _ this.1 this.2
  · obtain ⟨a,rfl,h1⟩:=hp.tup_inv
    have:=perL (fun p v q=>per1_PR q hm) h h1
    exact .tup _ _ this.1 this.2
  · exact per_ref hm h hp
  · obtain ⟨u,rfl,h1⟩:=hp.ifc_inv
    exact .ifc _ _ _ (per_ref hm h h1)
  · obtain ⟨u,rfl,h1⟩:=hp.ifc_inv
    exact .ifc _ _ _ (per1_PR h hm h1)
  · obtain ⟨a,b,rfl,h1,h2⟩:=hp.fn_inv
    exact .fn _ _ _ _ _ h1.1 h2.1 (fun j p v h=>by simp at h) (fun j p v h=>by simp at h)
  · exact per1_PR h hm hp
theorem per3_PR {X Y:Cx} {p:PV} {v:Value} (h:per3 p=true) (hm:KeepsC X.m Y.m) (hp:PR X p v):PR Y p v:=by
  unfold per3 at h
  split at h
  · obtain ⟨a,rfl,h1⟩:=hp.agg_inv
    have:=perL (fun p v q=>per2_PR q hm) h h1
    exact .agg _ _ this.1 this.2
  · obtain ⟨a,rfl,h1⟩:=hp.tup_inv
    have:=perL (fun p v q=>per2_PR q hm) h h1
    exact .tup _ _ this.1 this.2
  · exact per2_PR h hm hp


def gcL (s:List OB):Nat→List PV→Option (List PV×List OB×List Nat)
  | _,[]=>some ([],[],[])
  | k, p :: l => match p with
    | .osl b n => match s[b]?, gcL s (k + 1) l with
      | some (.arr d x),some (l',t,bs)=>if bs.contains b then none else some (.osl k n::l',.arr d x::t,b::bs)
      | _,_=>none
    | p=>if per2 p then (gcL s k l).map fun r=>(p::r.1,r.2.1,r.2.2) else none
def gc (s:List OB):PV→Option (PV×List OB)
  | .tup l=>(gcL s 0 l).map fun r=>(.tup r.1,r.2.1)
  | .osl b n => match s[b]? with
    | some (.arr d x)=>some (.osl 0 n,[.arr d x])
    | _=>none
  | p=>if per3 p then some (p,[]) else none
def gcK (K:PV→List OB→Prop) (p:PV) (s:List OB):Prop:=∃ r,gc s p=some r∧K r.1 r.2
theorem gcL_spec {X:Cx} {h:Hp} {E:Nat→Bool} (hm:X.m=Hp.mask h E) (hob:∀ id o,X.s[id]? = some o→OBR X h E id o):∀ (l:List PV) (k:Nat) (l':List PV) (t:List OB) (bs:List Nat) (us:List Value),gcL X.s k l=some (l',t,bs)→PRs X l us →
    bs.Nodup∧t.length=bs.length∧(∀ (j b:Nat),bs[j]? = some b→∃ (d:D) (x:List d.T),X.s[b]? = some (OB.arr d x)∧t[j]? = some (OB.arr d x)) ∧
    ∀ (Y:Cx),Y.m=X.m→(∀ (j b:Nat),bs[j]? = some b→Y.s[k+j]? = X.s[b]?∧Y.i (k+j)=X.i b)→PRs Y l' us
  | [], k, l', t, bs, us, hg, hp => by
    simp only [gcL,Option.some.injEq,Prod.mk.injEq] at hg
    obtain ⟨rfl,rfl,rfl⟩:=hg
    have:us=[]:=List.eq_nil_of_length_eq_zero hp.1.symm
    subst this
    exact ⟨List.nodup_nil,rfl,fun j b h=>by simp at h,fun Y _ _=>.nil Y⟩
  | p :: l, k, l', t, bs, us, hg, hp => by
    obtain ⟨v,vs,rfl,h1,h2⟩:=hp.uncons
    unfold gcL at hg
    split at hg
    · rename_i b n
      split at hg
      · rename_i d x l1 t1 bs1 hb hr
        split at hg
        · simp at hg
        · rename_i hnb
          simp only [Option.some.injEq,Prod.mk.injEq] at hg
          obtain ⟨rfl,rfl,rfl⟩:=hg
          obtain ⟨g1,g2,g3,g4⟩:=gcL_spec hm hob l (k+1) l1 t1 bs1 vs hr h2
          refine ⟨List.nodup_cons.2 ⟨by simpa using hnb,g1⟩,by simp [g2],fun j b' hj=>?_,fun Y hYm hY=>?_⟩
          · cases j with
            | zero=>simp at hj;subst hj;exact ⟨d,x,hb,rfl⟩
            | succ j=>simpa using g3 j b' (by simpa using hj)
          · refine .cons ?_ (g4 Y hYm fun j b' hj=>by
              have:=hY (j+1) b' (by simpa using hj)
              rw [show k+1+j=k+(j+1) by omega]
              exact this)
            obtain ⟨y1,y2⟩:=hY 0 b rfl
            rw [Nat.add_zero] at y1 y2
            refine .osl k n v h1.osl_form ?_ (fun es n' hl=>?_)
            · have:Y.s[k]? = some (.arr d x):=y1.trans hb
              exact (List.getElem?_eq_some_iff.1 this).1
            · obtain ⟨o,ho,hs⟩:=hl
              rw [y1] at ho
              rw [y2]
              exact h1.osl_inv es n' ⟨o,ho,hs⟩
      · simp at hg
    · rename_i hne
      split at hg
      · rename_i hper
        obtain ⟨r,hr,he⟩:=Option.map_eq_some_iff.1 hg
        simp only [Prod.mk.injEq] at he
        obtain ⟨rfl,rfl,rfl⟩:=he
        obtain ⟨g1,g2,g3,g4⟩:=gcL_spec hm hob l k r.1 r.2.1 r.2.2 vs hr h2
        exact ⟨g1,g2,g3,fun Y hYm hY=>.cons (per2_PR hper (by rw [hYm];exact .refl _) h1) (g4 Y hYm hY)⟩
      · simp at hg

theorem SR.only {h0:Hp} {E0:Nat→Bool} {i0:Nat→Option Nat} {h:Hp} {E:Nat→Bool} {i:Nat→Option Nat} {s:List OB} (S:SR ⟨h0,E0,i0,[]⟩ h E i s) (t:List OB) (bs:List Nat) (hn:bs.Nodup) (hl:t.length=bs.length) (ht:∀ (j b:Nat),bs[j]? = some b→∃ (d:D) (x:List d.T),s[b]? = some (OB.arr d x)∧t[j]? = some (OB.arr d x)) :
    SR ⟨h0,E0,i0,[]⟩ h E (fun j=>(bs[j]?).bind i) t:=by
  have key:∀ (j:Nat) (o:OB),t[j]? = some o→∃ (b:Nat) (d:D) (x:List d.T),bs[j]? = some b∧s[b]? = some (OB.arr d x)∧o=OB.arr d x:=fun j o ho=>by
    have hj:j < bs.length:=by rw [← hl];exact (List.getElem?_eq_some_iff.1 ho).1
    obtain ⟨d,x,h1,h2⟩:=ht j bs[j] (by simp [hj])
    rw [h2] at ho
    exact ⟨bs[j],d,x,by simp [hj],h1,(Option.some.inj ho).symm⟩
  refine ⟨fun j o ho=>?_,fun j j' b o o' ho ho' _ _ hi hi'=>?_,S.old,S.next,S.keep,fun b ⟨j,o,ho,hlv,hi⟩=>?_,⟨S.le.m,Nat.zero_le _,fun b hb=>absurd hb (Nat.not_lt_zero _),fun b es n hb=>absurd hb (Nat.not_lt_zero _)⟩⟩
  · obtain ⟨b,d,x,h1,h2,rfl⟩:=key j o ho
    obtain ⟨hd,h3 | ⟨k,us,k1,k2,k3,k4⟩⟩:=S.ob b _ h2
    · exact ⟨hd,.inl ⟨by show (bs[j]?).bind i=none;rw [h1];exact h3.1,h3.2⟩⟩
    · exact ⟨hd,.inr ⟨k,us,by show (bs[j]?).bind i=some k;rw [h1];exact k1,k2,k3,k4⟩⟩
  · obtain ⟨c,d,x,h1,h2,rfl⟩:=key j o ho
    obtain ⟨c',d',x',h1',h2',rfl⟩:=key j' o' ho'
    have hi:i c=some b:=by have:(bs[j]?).bind i=some b:=hi;rwa [h1] at this
    have hi':i c'=some b:=by have:(bs[j']?).bind i=some b:=hi';rwa [h1'] at this
    have e:=S.inj c c' b _ _ h2 h2' rfl rfl hi hi'
    subst e
    exact (List.getElem?_inj (List.getElem?_eq_some_iff.1 h1).1 hn).1 (h1.trans h1'.symm)
  · obtain ⟨c,d,x,h1,h2,rfl⟩:=key j o ho
    have hi:i c=some b:=by have:(bs[j]?).bind i=some b:=hi;rwa [h1] at this
    exact S.fresh b ⟨c,_,h2,rfl,hi⟩
theorem gc_spec {h0:Hp} {E0:Nat→Bool} {i0:Nat→Option Nat} {h:Hp} {E:Nat→Bool} {i:Nat→Option Nat} {s:List OB} (S:SR ⟨h0,E0,i0,[]⟩ h E i s) {p p':PV} {t:List OB} {v:Value} (hg:gc s p=some (p',t)) (hp:PR ⟨Hp.mask h E,i,s⟩ p v) :
    ∃ i',SR ⟨h0,E0,i0,[]⟩ h E i' t∧PR ⟨Hp.mask h E,i',t⟩ p' v:=by
  unfold gc at hg
  split at hg
  · rename_i l
    obtain ⟨r,hr,he⟩:=Option.map_eq_some_iff.1 hg
    simp only [Prod.mk.injEq] at he
    obtain ⟨rfl,rfl⟩:=he
    obtain ⟨us,rfl,hus⟩:=hp.tup_inv
    obtain ⟨g1,g2,g3,g4⟩:=gcL_spec (X:=⟨Hp.mask h E,i,s⟩) rfl S.ob l 0 r.1 r.2.1 r.2.2 us hr hus
    refine ⟨_,S.only r.2.1 r.2.2 g1 g2 g3,?_⟩
    have:=g4 ⟨Hp.mask h E,fun j=>(r.2.2[j]?).bind i,r.2.1⟩ rfl (fun j b hj=>by
      obtain ⟨d,x,k1,k2⟩:=g3 j b hj
      rw [Nat.zero_add]
      exact ⟨k2.trans k1.symm,by show (r.2.2[j]?).bind i=i b;rw [hj];rfl⟩)
    exact .tup _ _ this.1 this.2
  · rename_i b n
    split at hg
    · rename_i d x hb
      simp only [Option.some.injEq,Prod.mk.injEq] at hg
      obtain ⟨rfl,rfl⟩:=hg
      refine ⟨_,S.only [.arr d x] [b] (by simp) rfl (fun j b' hj=>?_),?_⟩
      · cases j with
        | zero=>simp at hj;subst hj;exact ⟨d,x,hb,rfl⟩
        | succ j=>simp at hj
      · refine .osl 0 n v hp.osl_form (by simp) (fun es n' hl=>?_)
        obtain ⟨o,ho,hs⟩:=hl
        have ho:some (OB.arr d x)=some o:=ho
        obtain rfl:=Option.some.inj ho
        exact hp.osl_inv es n' ⟨_,hb,hs⟩
    · simp at hg
  · split at hg
    · rename_i hper
      simp only [Option.some.injEq,Prod.mk.injEq] at hg
      obtain ⟨rfl,rfl⟩:=hg
      exact ⟨_,S.only [] [] List.nodup_nil rfl (fun j b hj=>by simp at hj),per3_PR (X:=⟨Hp.mask h E,i,s⟩) hper (.refl _) hp⟩
    · simp at hg

theorem told_callP {P:Program} {g N:Nat} {ac:AC} {rs:List RV} (t:IsTold P g N ac rs) {args:List PV} {K:PV→List OB→Prop} (hk:∀ Z:Bs,Z.s=[]→pwp P Z ac (retP rs (gcK K)) (initE args) []) (ha:args.length≤N:=by first | decide | simp):PCalls P g args [] K:=by
  intro h E i vs S A
  refine (told_call t hk ha h E i vs S A).mono fun v h' hc=>?_
  obtain ⟨p,s',E',i',⟨r,hg,hK⟩,S',hp⟩:=hc
  obtain ⟨i2,S2,hp2⟩:=gc_spec S' hg hp
  exact ⟨r.1,r.2,E',i2,hK,S2,hp2⟩

def sh1 (k:Nat):PV→PV
  | .osl b n=>.osl (b+k) n
  | p=>p
def shP (k:Nat):PV→PV
  | .tup l=>.tup (l.map (sh1 k))
  | p=>sh1 k p
def ok1:PV→Bool
  | .osl _ _=>true
  | p=>per2 p
def okP:PV→Bool
  | .tup l=>l.all ok1
  | .osl _ _=>true
  | p=>per3 p
def okT:List OB→Bool
  | []=>true
  | .arr _ _::t=>okT t
  | .dead::t=>okT t
  | _=>false
theorem okT_at:∀ {t:List OB} {j:Nat} {o:OB},okT t=true→t[j]? = some o→(∃ (d:D) (x:List d.T),o=OB.arr d x)∨o=OB.dead
  | [],j,o,h,hj=>by simp at hj
  | p :: t, j, o, h, hj => by
    cases p with
    | arr d x =>
      cases j with
      | zero=>simp at hj;exact .inl ⟨d,x,hj.symm⟩
      | succ j=>exact okT_at (show okT t=true from h) (by simpa using hj)
    | dead =>
      cases j with
      | zero=>simp at hj;exact .inr hj.symm
      | succ j=>exact okT_at (show okT t=true from h) (by simpa using hj)
    | var l=>simp [okT] at h
    | row es n l=>simp [okT] at h

theorem SR.frame {Z:Bs} {h h':Hp} {E E':Nat→Bool} {i i0 i':Nat→Option Nat} {s t:List OB} (S:SR Z h E i s) (T:SR ⟨h,E,i0,[]⟩ h' E' i' t) (ht:okT t=true) :
    SR ⟨h,E,i,s⟩ h' E' (fun j=>if j < s.length then i j else i' (j - s.length)) (s++t)∧Keeps h h':=by
  have hkeep:∀ b k,h.blk? b=some k→h'.blk? b=some k∧E' b=E b:=fun b k hb=>T.keep b k hb (fun ⟨id,o,ho,_⟩=>by simp at ho)
  have hcase:∀ j p,(s++t)[j]? = some p→(j < s.length∧s[j]? = some p)∨(¬ j < s.length∧t[j - s.length]? = some p):=fun j p hp=>by
    by_cases hj:j < s.length
    · rw [List.getElem?_append_left hj] at hp;exact .inl ⟨hj,hp⟩
    · rw [List.getElem?_append_right (by omega)] at hp;exact .inr ⟨hj,hp⟩
  have hle:Cx.le ⟨Hp.mask h E,i,s⟩ ⟨Hp.mask h' E',fun j=>if j < s.length then i j else i' (j - s.length),s++t⟩:=by
    refine ⟨T.le.m,by simp,fun b hb hv=>?_,fun b es n hb hv=>?_⟩
    · have hb:b < s.length:=hb
      obtain ⟨o,ho,hq⟩:=hv
      have ho:(s++t)[b]? = some o:=ho
      rw [List.getElem?_append_left hb] at ho
      exact ⟨⟨o,ho,hq⟩,if_pos hb⟩
    · have hb:b < s.length:=hb
      obtain ⟨o,ho,hq⟩:=hv
      have ho:(s++t)[b]? = some o:=ho
      rw [List.getElem?_append_left hb] at ho
      exact ⟨n,Nat.le_refl _,⟨o,ho,hq⟩,fun _=>if_pos hb⟩
  refine ⟨⟨fun j p hp=>?_,fun j j' b p p' hp hp' hl hl' hi hi'=>?_,T.old,T.next,fun b k hb _=>hkeep b k hb,fun b ⟨j,o,ho,hlv,hi⟩=>?_,hle⟩,T.old,fun b k hb=>(hkeep b k hb).1⟩
  · rcases hcase j p hp with ⟨hj,hq⟩ | ⟨hj,hq⟩
    · exact (S.ob j p hq).mono hle (if_pos hj) (fun b k _ hk=>hkeep b k hk)
    · rcases okT_at ht hq with ⟨d,x,rfl⟩ | rfl
      · obtain ⟨hd,h3 | ⟨k,us,k1,k2,k3,k4⟩⟩:=T.ob _ _ hq
        · exact ⟨hd,.inl ⟨(if_neg hj).trans h3.1,h3.2⟩⟩
        · exact ⟨hd,.inr ⟨k,us,(if_neg hj).trans k1,k2,k3,k4⟩⟩
      · trivial
  · have lo:∀ j p b,s[j]? = some p→p.live=true→i j=some b→b < h.next:=fun j p b hp hl hb=>by
      obtain ⟨k,hk,-⟩:=((S.ob j p hp).at hl hb).2
      exact (Hp.blk_lt hk).2
    have hi2:∀ j p b,t[j]? = some p→p.live=true→i' j=some b→h.next≤b:=fun j p b hp hl hb=>by
      rcases T.fresh b ⟨j,p,hp,hl,hb⟩ with ⟨id,o,ho,_⟩ | q
      · simp at ho
      · exact q
    rcases hcase j p hp with ⟨hj,hq⟩ | ⟨hj,hq⟩ <;> rcases hcase j' p' hp' with ⟨hj',hq'⟩ | ⟨hj',hq'⟩
    · exact S.inj j j' b p p' hq hq' hl hl' ((if_pos hj).symm.trans hi) ((if_pos hj').symm.trans hi')
    · have a1:=lo j p b hq hl ((if_pos hj).symm.trans hi)
      have a2:=hi2 _ p' b hq' hl' ((if_neg hj').symm.trans hi')
      omega
    · have a1:=lo j' p' b hq' hl' ((if_pos hj').symm.trans hi')
      have a2:=hi2 _ p b hq hl ((if_neg hj).symm.trans hi)
      omega
    · have:=T.inj _ _ b p p' hq hq' hl hl' ((if_neg hj).symm.trans hi) ((if_neg hj').symm.trans hi')
      omega
  · rcases hcase j o ho with ⟨hj,hq⟩ | ⟨hj,hq⟩
    · exact .inl ⟨j,o,hq,hlv,(if_pos hj).symm.trans hi⟩
    · rcases T.fresh b ⟨_,o,hq,hlv,(if_neg hj).symm.trans hi⟩ with ⟨id,o,ho,_⟩ | q
      · simp at ho
      · exact .inr q
theorem sh1_PR {m:Hp} {i i':Nat→Option Nat} {s t:List OB} {p:PV} {v:Value} (h:ok1 p=true) (hp:PR ⟨m,i',t⟩ p v):PR ⟨m,fun j=>if j < s.length then i j else i' (j - s.length),s++t⟩ (sh1 s.length p) v:=by
  by_cases hq:∃ b n,p = .osl b n
  · obtain ⟨b,n,rfl⟩:=hq
    have hb:b < t.length:=by cases hp with | osl _ _ _ hv hb k=>exact hb
    refine .osl _ n v hp.osl_form (by simp;omega) (fun es n' hl=>?_)
    obtain ⟨o,ho,hs⟩:=hl
    have ho:(s++t)[b+s.length]? = some o:=ho
    rw [List.getElem?_append_right (by omega),Nat.add_sub_cancel] at ho
    have:=hp.osl_inv es n' ⟨o,ho,hs⟩
    have e:(if b+s.length < s.length then i (b+s.length) else i' (b+s.length - s.length))=i' b:=by rw [if_neg (by omega),Nat.add_sub_cancel]
    show n < n'∨(n=n'∧∃ c,(c=n∨c=n+1)∧v=slV (if b+s.length < s.length then i (b+s.length) else i' (b+s.length - s.length)) n c)
    rw [e]
    exact this
  · have e1:sh1 s.length p=p:=by cases p <;> first | rfl | exact absurd ⟨_,_,rfl⟩ hq
    have e2:per2 p=true:=by cases p <;> first | exact h | exact absurd ⟨_,_,rfl⟩ hq
    rw [e1]
    exact per2_PR (X:=⟨m,i',t⟩) e2 (.refl m) hp
theorem shP_PR {m:Hp} {i i':Nat→Option Nat} {s t:List OB} {p:PV} {v:Value} (h:okP p=true) (hp:PR ⟨m,i',t⟩ p v):PR ⟨m,fun j=>if j < s.length then i j else i' (j - s.length),s++t⟩ (shP s.length p) v:=by
  unfold okP at h
  split at h
  · obtain ⟨us,rfl,h1⟩:=hp.tup_inv
    have key:∀ (l:List PV) (us:List Value),l.all ok1=true→PRs ⟨m,i',t⟩ l us→PRs ⟨m,fun j=>if j < s.length then i j else i' (j - s.length),s++t⟩ (l.map (sh1 s.length)) us:=by
      intro l
      induction l with
      | nil=>intro us _ hu;have:us=[]:=List.eq_nil_of_length_eq_zero hu.1.symm;subst this;exact .nil _
      | cons p l ih =>
        intro us ha hu
        obtain ⟨v,vs,rfl,k1,k2⟩:=hu.uncons
        rw [List.all_cons,Bool.and_eq_true] at ha
        exact .cons (sh1_PR ha.1 k1) (ih vs ha.2 k2)
    have:=key _ _ h h1
    exact .tup _ _ this.1 this.2
  · exact sh1_PR rfl hp
  · rename_i hne1 hne2
    have e1:shP s.length p=p:=by cases p <;> first | rfl | exact absurd rfl (hne1 _) | exact absurd rfl (hne2 _ _)
    rw [e1]
    exact per3_PR (X:=⟨m,i',t⟩) h (.refl m) hp
section
variable {P:Program} {Z:Bs} {K:Env→List OB→Prop} {Q:QP} {e:Env} {s s':List OB} {cs:List CO} {pr:List Operand} {d:Option Nat} {kp:Bool} {x y z:Operand} {p q r:PV} {u v w:Value} {b o n m i j es:Nat} {l l' c:List PV} {D':D}
def Aft (P:Program) (Z:Bs) (pr:List Operand) (cs:List CO) (K:Env→List OB→Prop) (e:Env) (s:List OB) (d:Option Nat) (p:PV) (t:List OB):Prop:=okP p=true∧okT t=true∧pops P Z pr cs K (putE e d (shP s.length p)) (s++t)
theorem aft_i {t:List OB} {p':PV} (h1:Rf (okP p=true)) (h2:Rf (okT t=true)) (hn:Pu (shP s.length p=p')) (hs:Pu (s++t=s')) (hk:pops P Z pr cs K (putE e d p') s'):Aft P Z pr cs K e s d p t:=⟨h1.o,h2.o,by rw [hn.o,hs.o];exact hk⟩
theorem q_call {g:FuncId} {xs:List Operand} {ps:List PV} (ha:Mp (xs.map (evE e)=ps)) (hper:Rf (ps.all per3=true)) (hk:PCalls P g ps [] (Aft P Z pr cs K e s d)):pops P Z pr (⟨d,none,kp,.e (.cal (.func g) xs)⟩::cs) K e s:=fun f h ⟨E,i,S,R⟩=>by
  have A:=perL (X:=⟨Hp.mask h E,i,s⟩) (Y:=⟨Hp.mask h E,i,[]⟩) (fun p v q=>per3_PR q (.refl _)) hper.o (R.map ha.o)
  have S0:SR ⟨h,E,i,[]⟩ h E i []:=⟨fun id o h=>by simp at h,fun _ _ _ _ _ h=>by simp at h,rfl,Nat.le_refl _,fun b k hb _=>⟨hb,rfl⟩,fun b ⟨id,o,ho,_⟩=>by simp at ho,.refl _⟩
  refine s_call ((hk h E i _ S0 A).mono fun v h' ⟨p,t,E',i',⟨k1,k2,k3⟩,T,hp⟩=>?_)
  obtain ⟨S',hkp⟩:=S.frame T k2
  exact ⟨fun _=>hkp,k3 _ _ ⟨E',_,S.after S',(R.mono S'.le).put (shP_PR k1 hp)⟩⟩

theorem q_callF {fx:Operand} {g:FuncId} {xs:List Operand} {ps pa pb:List PV} (hf:Lk (evE e fx = .fn g pa pb)) (ha:Mp (xs.map (evE e)=ps)) (hl:Pu (pa++ps++pb=l)) (hkp:Rf (kp=false)) (hk:PCalls P g l s (fun p s'=>pops P Z pr cs K (putE e d p) s')):pops P Z pr (⟨d,none,kp,.e (.cal fx xs)⟩::cs) K e s:=fun f h ⟨E,i,S,R⟩=>by
  obtain ⟨a',b',h1,h2,h3⟩:=(R.at hf.o).fn_inv
  have A:=(h2.append (R.map ha.o)).append h3
  rw [hl.o] at A
  refine s_cal h1 ((hk h E i _ S.base A).mono fun v h' ⟨p,s',E',i',k1,T,hp⟩=>⟨fun hh=>(by rw [hkp.o] at hh;cases hh),k1 _ _ ⟨E',i',S.after T,(R.mono T.le).put hp⟩⟩)
end
def pvD:(d:D)→d.T→PV
  | .int k,n=>.int k n
  | .bool,b=>.bool b
  | .str,s=>.str s
  | .sl d,l=>.sl d l
  | .st d,x=>.agg (encP d x)
  | .nil,_=>.und
  | .cons _ _,_=>.und
theorem V_PR {X:Cx} {d:D} {x:d.T} {u:Value} (hv:d.V X.m x u):PR X (pvD d x) u:=by
  cases d with
  | int k=>have e:[u]=[Value.int k x]:=hv;simp only [List.cons.injEq,and_true] at e;subst e;exact .int k x
  | bool=>have e:[u]=[Value.bool x]:=hv;simp only [List.cons.injEq,and_true] at e;subst e;exact .bool x
  | str=>have e:[u]=[Value.string x]:=hv;simp only [List.cons.injEq,and_true] at e;subst e;exact .str x
  | sl d=>exact .sl d x u hv
  | st d=>obtain ⟨us,rfl,h⟩:=hv;have:=encP_of d x us h;exact .agg _ _ this.1 this.2
  | nil=>exact .und u
  | cons d e=>exact .und u

theorem law_call {P:Program} {g:FuncId} {ps:List PV} {us:List Value} {w:World} (hk:PCalls P g ps [] fun p _=>p = .bool true) (ha:PRs ⟨⟨w,[]⟩,fun _=>none,[]⟩ ps us):ACalls P g us ⟨w,[]⟩ fun v _=>v = .bool true:=by
  have S0:SR ⟨⟨w,[]⟩,fun _=>false,fun _=>none,[]⟩ ⟨w,[]⟩ (fun _=>false) (fun _=>none) []:=⟨fun id o h=>by simp at h,fun _ _ _ _ _ h=>by simp at h,rfl,Nat.le_refl _,fun b k hb _=>⟨hb,rfl⟩,fun b ⟨id,o,ho,_⟩=>by simp at ho,.refl _⟩
  refine (hk ⟨w,[]⟩ (fun _=>false) (fun _=>none) us S0 ha).mono fun v h' ⟨p,t,E',i',h1,_,hp⟩=>?_
  subst h1
  exact hp.bool_inv
end Go.Proofs.Ytcffpnlochillaa.Pv
namespace Go.Proofs.Ytcffpnlochillaa.Pv
open Go.RowKit Go.Proofs.Ytcffpnlochillaa.Ab Go.Proofs.Ytcffpnlochillaa.AbP
theorem cut_is {m:Hp} {d:D} {l:List d.T} {A:Option Addr} {c lo hi:Nat} (hd:0 < d.sz) (base:Nat) (h:(D.sl d).Is m l [.slice A l.length c]) (h1:lo≤hi) (h2:hi≤l.length):(D.sl d).Is m ((l.take hi).drop lo) [cutS base d.sz A l.length c lo hi]:=by
  obtain ⟨A',c',rw,e,h0,hr,hc⟩:=h
  simp only [List.cons.injEq,Value.slice.injEq,and_true,true_and] at e
  obtain ⟨rfl,rfl⟩:=e
  have hlen:((l.take hi).drop lo).length=hi - lo:=by rw [List.length_drop,List.length_take,Nat.min_eq_left h2]
  have hcut:Chunks (d.Is m) ((l.take hi).drop lo) ((rw.take (hi * d.sz)).drop (lo * d.sz)):=(Chunks_split lo (Chunks_split hi hc).1).2
  have hrl:=Chunks_len hc
  have hmul:hi * d.sz≤l.length * d.sz:=Nat.mul_le_mul_right _ h2
  have hmul2:lo * d.sz≤hi * d.sz:=Nat.mul_le_mul_right _ h1
  have hsub:(hi - lo) * d.sz=hi * d.sz - lo * d.sz:=Nat.sub_mul _ _ _
  have e1:(rw.take (hi * d.sz)).drop (lo * d.sz)=(rw.drop (lo * d.sz)).take ((hi - lo) * d.sz):=by rw [List.drop_take,hsub]
  rw [e1] at hcut
  
  have mk:∀ (B:Addr) (cc:Nat),hi - lo≤cc→((hi - lo=0)∨∃ a,A=some a∧B=a.add (lo * d.sz))→(D.sl d).Is m ((l.take hi).drop lo) [.slice (some B) (hi - lo) cc]:=fun B cc hcc hB=>by
    refine ⟨some B,cc,(rw.drop (lo * d.sz)).take ((hi - lo) * d.sz),by rw [hlen],by rw [hlen];exact hcc,?_,hcut⟩
    rw [hlen]
    show m.cells? B ((hi - lo) * d.sz)=_
    rcases hB with h0 | ⟨a,rfl,rfl⟩
    · rw [h0,Nat.zero_mul,List.take_zero];rfl
    · by_cases hz:hi - lo=0
      · rw [hz,Nat.zero_mul,List.take_zero];rfl
      · have hsp:=rowV_spot hr (by rw [hrl];exact Nat.mul_pos (by omega) hd)
        exact cells_add hsp (N:=l.length * d.sz) hr (by omega)
  unfold cutS
  cases A with
  | none =>
    have hz:l.length=0:=by
      unfold rowV at hr
      simp only at hr
      split at hr
      · assumption
      · simp at hr
    have hz2:hi - lo=0:=by omega
    refine ⟨none,c - lo,[],by rw [hlen],by rw [hlen];omega,?_,?_⟩
    · rw [hlen]
      show (if hi - lo=0 then some [] else none)=some []
      rw [if_pos hz2]
    · have:(l.take hi).drop lo=[]:=List.eq_nil_of_length_eq_zero (by omega)
      rw [this]
      rfl
  | some a =>
    simp only
    split
    · refine mk _ _ (by omega) ?_
      split
      · exact .inl (by omega)
      · exact .inr ⟨a,rfl,rfl⟩
    · split
      · rename_i hlo
        subst hlo
        rw [Nat.sub_zero] at mk
        refine mk a _ ?_ (.inr ⟨a,rfl,by rw [Nat.zero_mul];rfl⟩)
        split
        · omega
        · split <;> omega
      · split
        · rename_i hg
          have:=mk ⟨a.block,0,some 0⟩ 1 (by omega) (.inl (by omega))
          rw [show hi - lo=0 by omega] at this
          exact this
        · refine mk _ _ ?_ (.inr ⟨a,rfl,rfl⟩)
          split <;> omega
def loP (e:Env):Option Operand→Option Int
  | none=>some 0
  | some x => match evE e x with
    | .int _ n=>some n
    | _=>none
def hiP (e:Env) (len:Nat):Option Operand→Option Int
  | none=>some len
  | some x => match evE e x with
    | .int _ n=>some n
    | _=>none
section
variable {P:Program} {Z:Bs} {K:Env→List OB→Prop} {Q:QP} {e:Env} {s s':List OB} {cs:List CO} {pr:List Operand} {d:Option Nat} {kp:Bool} {x y z:Operand} {p q r:PV} {u v w:Value} {b o n m i j es:Nat} {l l' c:List PV} {D':D} {lo hi:Option Operand} {a g:Int}
theorem cutB_of {X:Cx} {f:Fr} (R:ER X e f) {len:Nat} (hlo:loP e lo=some a) (hhi:hiP e len hi=some g) (h0:0≤a) (h1:a≤g) (h2:g≤len):cutB len (lo.map (evF f)) (hi.map (evF f))=some (a.toNat,g.toNat):=by
  have k1:(lo.map (evF f)=none∧a=0)∨∃ kk,lo.map (evF f)=some (.int kk a):=by
    cases lo with
    | none=>exact .inl ⟨rfl,(Option.some.inj hlo).symm⟩
    | some x =>
      simp only [loP] at hlo
      split at hlo
      · rename_i kk n hx
        obtain rfl:=Option.some.inj hlo
        have:=R.ev x
        rw [hx] at this
        exact .inr ⟨kk,by rw [Option.map_some,this.int_inv]⟩
      · simp at hlo
  have k2:(hi.map (evF f)=none∧g=len)∨∃ kk,hi.map (evF f)=some (.int kk g):=by
    cases hi with
    | none=>exact .inl ⟨rfl,(Option.some.inj hhi).symm⟩
    | some x =>
      simp only [hiP] at hhi
      split at hhi
      · rename_i kk n hx
        obtain rfl:=Option.some.inj hhi
        have:=R.ev x
        rw [hx] at this
        exact .inr ⟨kk,by rw [Option.map_some,this.int_inv]⟩
      · simp at hhi
  unfold cutB
  rcases k1 with ⟨k1,rfl⟩ | ⟨kk,k1⟩ <;> rcases k2 with ⟨k2,rfl⟩ | ⟨kk2,k2⟩ <;> (rw [k1,k2];simp only [asI];rw [if_pos ⟨h0,h1,h2⟩])
theorem q_slc {l:List D'.T} (hx:Lk (evE e x = .sl D' l)) (hlo:Lk (loP e lo=some a)) (hhi:Lk (hiP e l.length hi=some g)) (h0:Om (0≤a)) (h1:Om (a≤g)) (h2:Om (g≤l.length)) (hj:Vl (a.toNat=i)) (hg:Vl (g.toNat=j)) (he:Rf (Nat.beq D'.sz es=true)) (hd:Rf (Nat.blt 0 es=true)) (hk:pops P Z pr cs K (putE e d (.sl D' ((l.take j).drop i))) s):pops P Z pr (⟨d,none,kp,.f (.slc es x lo hi)⟩::cs) K e s :=
  p_f (fun f h E i' S R=>by
    have he:=Nat.eq_of_beq_eq_true he.o
    have hd:=Nat.le_of_ble_eq_true hd.o
    obtain ⟨A,c,rw,g1,g0,g2,g3⟩:=(R.at hx.o).sl_inv'
    have h0:=h0.o
    have h1:=h1.o
    have h2:=h2.o
    refine ⟨cutS h.old.heap.size es A l.length c a.toNat g.toNat,by simp only [FOp.run,g1];rw [if_pos g0,cutB_of R hlo.o hhi.o h0 h1 h2];rfl,?_⟩
    rw [hj.o,hg.o]
    subst he
    refine .sl D' _ _ (cut_is (by omega) _ ⟨A,c,rw,rfl,g0,g2,g3⟩ ?_ ?_)
    · rw [← hj.o,← hg.o];omega
    · rw [← hg.o];omega) hk
theorem q_slcN (hx:Lk (evE e x = .nilS)) (hlo:Lk (loP e lo=some a)) (hhi:Lk (hiP e 0 hi=some g)) (h0:Om (0=a)) (h1:Om (0=g)) (hk:pops P Z pr cs K (putE e d .nilS) s):pops P Z pr (⟨d,none,kp,.f (.slc es x lo hi)⟩::cs) K e s :=
  p_f (fun f h E i' S R=>by
    have h0:=h0.o
    have h1:=h1.o
    refine ⟨.slice none 0 0,?_,.nilS⟩
    simp only [FOp.run,(R.at hx.o).nilS_inv]
    rw [if_pos (Nat.le_refl _),cutB_of R hlo.o hhi.o (by omega) (by omega) (by omega),← h0,← h1]
    rfl) hk
theorem q_slcO {l:List D'.T} (hx:Lk (evE e x = .osl b n)) (hb:Rf (s[b]? = some (.arr D' l))) (hn:Om (n=l.length)) (hlo:Lk (loP e lo=some a)) (hhi:Lk (hiP e l.length hi=some g)) (h0:Om (0≤a)) (h1:Om (a≤g)) (h2:Om (g≤l.length)) (hj:Vl (a.toNat=i)) (hg:Vl ((g - a).toNat=j)) (he:Rf (Nat.beq D'.sz es=true)) (hk:pops P Z pr cs K (putE e d (.osb b n i j)) s):pops P Z pr (⟨d,none,kp,.f (.slc es x lo hi)⟩::cs) K e s :=
  p_f (fun f h E i' S R=>by
    have he:=Nat.eq_of_beq_eq_true he.o
    subst he
    have h0:=h0.o
    have h1:=h1.o
    have h2:=h2.o
    obtain rfl:=hn.o
    have hj:=hj.o
    have hg:=hg.o
    have hpr:=R.at hx.o
    have hlt:=(List.getElem?_eq_some_iff.1 hb.o).1
    rcases hpr.osl_inv _ _ ⟨_,hb.o,rfl⟩ with hh | ⟨-,c,hc,hv⟩
    · omega
    have lvn:∀ {es' n':Nat},lvS ⟨Hp.mask h E,i',s⟩ b es' n'→es'=D'.sz∧n'=l.length:=fun hl=>by
      obtain ⟨o,ho,hsig⟩:=hl
      have ho:s[b]? = some o:=ho
      rw [hb.o] at ho
      obtain rfl:=Option.some.inj ho
      simp only [OB.sig,Option.some.injEq,Prod.mk.injEq] at hsig
      exact ⟨hsig.1.symm,by omega⟩
    have hcB:=cutB_of R hlo.o hhi.o h0 h1 h2
    obtain ⟨hd,hob⟩:=S.ob b _ hb.o
    rcases hob with ⟨k1,rfl⟩ | ⟨k,us,k1,k2,k3,k4⟩
    · have k1:i' b=none:=k1
      simp only [k1,slV] at hv
      simp only [List.length_nil] at h2 hcB
      refine ⟨.slice none 0 0,?_,.osb b _ i j _ ⟨_,_,_,rfl⟩ hlt (fun es' n' hl=>.inr ⟨(lvn hl).2.symm,by omega,none,0,by omega,by rw [show j=0 by omega],.inl (by omega)⟩)⟩
      simp only [FOp.run,hv]
      rw [if_pos (Nat.le_refl _),hcB]
      simp only [Option.map_some,cutS]
      rw [show g.toNat - a.toNat=0 by omega,Nat.zero_sub]
    · have k1:i' b=some k:=k1
      have hv':evF f x = .slice (some ⟨k,0,none⟩) l.length c:=by rw [hv];show slV (i' b) l.length c=_;rw [k1];rfl
      have hlo':=(Hp.blk_lt k3).1
      refine ⟨cutS h.old.heap.size D'.sz (some ⟨k,0,none⟩) l.length c a.toNat g.toNat,by simp only [FOp.run,hv'];rw [if_pos (by omega),hcB];rfl,?_⟩
      unfold cutS
      simp only
      rw [if_neg (by omega)]
      split
      · rename_i hz
        refine .osb b _ i j _ ⟨_,_,_,rfl⟩ hlt (fun es' n' hl=>.inr ⟨(lvn hl).2.symm,by omega,some ⟨k,0,none⟩,_,?_,by rw [show g.toNat=j by omega],.inr ⟨k,k1,by rw [← hj,hz,Nat.zero_mul]⟩⟩)
        split
        · omega
        · split <;> omega
      · split
        · exact .osb b _ i j _ ⟨_,_,_,rfl⟩ hlt (fun es' n' hl=>.inr ⟨(lvn hl).2.symm,by omega,_,1,by omega,by rw [show j=0 by omega],.inl (by omega)⟩)
        · refine .osb b _ i j _ ⟨_,_,_,rfl⟩ hlt (fun es' n' hl=>.inr ⟨(lvn hl).2.symm,by omega,_,_,?_,by rw [show g.toNat - a.toNat=j by omega],.inr ⟨k,k1,by rw [add_b,Nat.zero_add,← hj,(lvn hl).1]⟩⟩)
          split <;> omega) hk

theorem putAt_all:∀ (vs B:List Value),B.length=vs.length→putAt B 0 vs=vs:=by
  have key:∀ (vs A B:List Value),B.length=vs.length→putAt (A++B) A.length vs=A++vs:=by
    intro vs
    induction vs with
    | nil=>intro A B h;have:B=[]:=List.eq_nil_of_length_eq_zero h;subst this;simp [putAt]
    | cons v vs ih =>
      intro A B h
      cases B with
      | nil=>simp at h
      | cons w B =>
        show putAt ((A++w::B).set A.length v) (A.length+1) vs=_
        have e1:(A++w::B).set A.length v=(A++[v])++B:=by
          rw [List.set_append_right _ _ (Nat.le_refl _),Nat.sub_self]
          simp
        have:=ih (A++[v]) B (by simpa using h)
        rw [e1]
        simp only [List.length_append,List.length_cons,List.length_nil,Nat.zero_add] at this
        rw [this]
        simp
  intro vs B h
  have:=key vs [] B h
  simpa using this
def dstOf:PV→Option (Nat×Nat×Nat×Nat)
  | .osb b n lo m=>some (b,n,lo,m)
  | .osl b n=>some (b,n,0,n)
  | _=>none
theorem q_cpy {lo' m':Nat} {l l2:List D'.T} (hx:Lk (evE e x=p)) (hp:Rf (dstOf p=some (b,n,lo',m'))) (hy:Lk (evE e y=q)) (hb:Rf (s[b]? = some (.arr D' l))) (hn:Om (n=l.length)) (ha:Vw (Src s q D' l2)) (he:Rf (Nat.beq D'.sz es=true)) (hm:Om (l2.length≤m')) (hs:Pu (s.set b (.arr D' (l.take lo'++(l2++l.drop (lo'+l2.length))))=s')) (hkp:Rf (kp=false))
    (hk:pops P Z pr cs K (putE e d (.int .i64 l2.length)) s'):pops P Z pr (⟨d,none,kp,.e (.cpy es x y)⟩::cs) K e s:=fun f h ⟨E,i,S,R⟩=>by
  have he:=Nat.eq_of_beq_eq_true he.o
  subst he
  have hn:=hn.o
  have hm:=hm.o
  obtain ⟨new,g1,g2⟩:=ha.o.view S (R.at hy.o)
  have gl:=Chunks_len g2
  
  have hdst:∃ A c,evF f x = .slice A m' c∧lo'+m'≤n∧(m'=0∨∃ k,i b=some k∧A=some ⟨k,lo' * D'.sz,none⟩):=by
    have hpr:=R.at hx.o
    have hp:=hp.o
    unfold dstOf at hp
    split at hp
    · simp only [Option.some.injEq,Prod.mk.injEq] at hp
      obtain ⟨rfl,rfl,rfl,rfl⟩:=hp
      rcases hpr.osb_inv _ _ ⟨_,hb.o,rfl⟩ with hh | ⟨-,h1,A,c,h2,h3,h4⟩
      · omega
      · exact ⟨A,c,h3,h1,h4⟩
    · simp only [Option.some.injEq,Prod.mk.injEq] at hp
      obtain ⟨e1,e2,e3,e4⟩:=hp
      subst e3
      rw [e2] at e4
      subst e4
      rw [e1,e2] at hpr
      rcases hpr.osl_inv _ _ ⟨_,hb.o,rfl⟩ with hh | ⟨-,c,hc,hv⟩
      · omega
      · obtain ⟨hd,⟨k1,hl0⟩ | ⟨k,us,k1,k2,k3,k4⟩⟩:=S.ob _ _ hb.o
        · have k1:i _=none:=k1
          simp only [k1,slV] at hv
          have:n=0:=by rw [hn,hl0];rfl
          subst this
          exact ⟨none,0,hv,by omega,.inl rfl⟩
        · have k1:i _=some k:=k1
          simp only [k1,slV] at hv
          exact ⟨_,c,hv,by omega,.inr ⟨k,k1,by rw [Nat.zero_mul]⟩⟩
    · simp at hp
  obtain ⟨A,c,hv,hle,hA⟩:=hdst
  by_cases hz:l2.length=0
  · have hl2:l2=[]:=List.eq_nil_of_length_eq_zero hz
    have hu:=S.upd b (.arr D' l) (.arr D' (l.take lo'++(l2++l.drop (lo'+l2.length)))) (i b) h E hb.o rfl (Nat.le_refl _) (fun b' k' hb' _=>⟨hb',rfl⟩) (fun b' _ hb'=>.inl ⟨rfl,hb'⟩) rfl ⟨fun h=>by simp [OB.isV] at h,fun es n hh _=>⟨n,Nat.le_refl _,by rw [hl2,List.nil_append,List.length_nil,Nat.add_zero,List.take_append_drop] at hh;exact hh,fun _=>rfl⟩⟩
      (fun le=>by
        rw [hl2,List.nil_append,List.length_nil,Nat.add_zero,List.take_append_drop] at le ⊢
        exact (S.ob b _ hb.o).mono le (ups_at _ _ _) (fun b k _ hk=>⟨hk,rfl⟩))
    rw [hs.o] at hu
    obtain ⟨S',le'⟩:=hu
    unfold aops
    rw [if_pos (show wantC none f=true from rfl)]
    simp only [EOp.run,hv]
    refine ⟨new,l2.length,g1,?_⟩
    rw [if_pos (by omega)]
    have:=hk _ _ ⟨E,_,S',(R.mono le').put (.int .i64 _)⟩
    rw [hz] at this
    exact ⟨fun hh=>(by rw [hkp.o] at hh;cases hh),this⟩
  · rcases hA with h0 | ⟨k,k1,rfl⟩
    · omega
    obtain ⟨hd,⟨k1',hl0⟩ | ⟨k',us,k1',k2,k3,k4⟩⟩:=S.ob b _ hb.o
    · subst hl0;simp at hn;omega
    have k1':i b=some k':=k1'
    rw [k1] at k1'
    obtain rfl:=Option.some.inj k1'
    have hul:=Chunks_len k4
    have hone:new.all (·.oneCell')=true:=by
      have:∀ (l:List D'.T) (us:List Value),Chunks (D'.Is (Hp.mask h E)) l us→us.all (·.oneCell')=true:=by
        have one:∀ (d:D) (x:d.T) (c:List Value),d.Is (Hp.mask h E) x c→c.all (·.oneCell')=true:=by
          intro d
          induction d with
          | int k=>intro x c hc;have e:c=_:=hc;subst e;rfl
          | bool=>intro x c hc;have e:c=_:=hc;subst e;rfl
          | str=>intro x c hc;have e:c=_:=hc;subst e;rfl
          | sl d _=>intro x c hc;obtain ⟨A,n,rw,e,_⟩:=hc;subst e;rfl
          | st d ih=>intro x c hc;exact ih x c hc
          | nil=>intro x c hc;have e:c=_:=hc;subst e;rfl
          | cons d e ih1 ih2=>intro x c hc;obtain ⟨c1,c2,e,a1,a2⟩:=hc;subst e;rw [List.all_append,ih1 _ _ a1,ih2 _ _ a2];rfl
        intro l
        induction l with
        | nil=>intro us hu;have e:us=[]:=hu;subst e;rfl
        | cons x l ih=>intro us ⟨c,t,e,a1,a2⟩;subst e;rw [List.all_append,one _ _ _ a1,ih _ a2];rfl
      exact this l2 new g2
    have hmul:(lo'+l2.length) * D'.sz≤l.length * D'.sz:=Nat.mul_le_mul_right _ (by omega)
    rw [Nat.add_mul] at hmul
    have hw:=write_at k3 rfl (o:=lo' * D'.sz) (vs:=new) (by show _≤us.length;omega) hone
    have hput:putAt us (lo' * D'.sz) new=us.take (lo' * D'.sz)++(new++us.drop ((lo'+l2.length) * D'.sz)):=by
      have hB:((us.drop (lo' * D'.sz)).take new.length).length=new.length:=by rw [List.length_take,List.length_drop];omega
      have hA:(us.take (lo' * D'.sz)).length=lo' * D'.sz:=by rw [List.length_take];omega
      have hsplit:us=us.take (lo' * D'.sz)++((us.drop (lo' * D'.sz)).take new.length++us.drop ((lo'+l2.length) * D'.sz)):=by
        have e1:us.drop ((lo'+l2.length) * D'.sz)=(us.drop (lo' * D'.sz)).drop new.length:=by rw [List.drop_drop,Nat.add_mul,gl]
        rw [e1,List.take_append_drop,List.take_append_drop]
      have:=putAt_mid new (us.take (lo' * D'.sz)) ((us.drop (lo' * D'.sz)).take new.length) (us.drop ((lo'+l2.length) * D'.sz)) 0 (by rw [hB];omega)
      rw [hA,← hsplit,Nat.add_zero,putAt_all _ _ hB] at this
      exact this
    have hlo:=(Hp.blk_lt k3).1
    have hlen:(l.take lo'++(l2++l.drop (lo'+l2.length))).length=l.length:=by
      simp only [List.length_append,List.length_take,List.length_drop]
      omega
    have hu:=S.upd b (.arr D' l) (.arr D' (l.take lo'++(l2++l.drop (lo'+l2.length)))) (i b) (h.setBlk k ⟨putAt us (lo' * D'.sz) new,D'.sz,true⟩) E hb.o (by rfl) (by rw [Hp.next_set];exact Nat.le_refl _)
      (fun b' k' hb' hne=>by
        have hne':b'≠k:=fun e=>hne ⟨rfl,by rw [e];exact k1⟩
        exact ⟨by rw [Hp.blk_set_ne _ _ hlo hne'];exact hb',rfl⟩)
      (fun b' _ hb'=>.inl ⟨rfl,hb'⟩) rfl ⟨fun h=>by simp [OB.isV] at h,fun es n hh _=>by
        simp only [OB.sig,hlen,Option.some.injEq,Prod.mk.injEq] at hh
        exact ⟨n,Nat.le_refl _,by simp [OB.sig,hh.1,hh.2],fun _=>rfl⟩⟩
      (fun le=>⟨hd,.inr ⟨k,_,(ups_at _ _ _).trans k1,k2,Hp.blk_set _ _ k3,by
        have t1:=ChMono (Is_mono le.m D') (Chunks_split lo' k4).1
        have t2:=ChMono (Is_mono le.m D') (Chunks_split (lo'+l2.length) k4).2
        have t3:=ChMono (Is_mono le.m D') g2
        have t:=Chunks_append t1 (Chunks_append t3 t2)
        rw [← hput] at t
        exact t⟩⟩)
    rw [hs.o] at hu
    obtain ⟨S',le'⟩:=hu
    unfold aops
    rw [if_pos (show wantC none f=true from rfl)]
    simp only [EOp.run,hv]
    refine ⟨new,l2.length,g1,?_⟩
    have hmin:min l2.length m'=l2.length:=Nat.min_eq_left hm
    rw [if_neg (by omega)]
    refine ⟨_,by rw [hmin,← gl,List.take_length];exact hw,fun hh=>(by rw [hkp.o] at hh;cases hh),?_⟩
    have:=hk _ _ ⟨E,_,S',(R.mono le').put (.int .i64 _)⟩
    rw [hmin]
    exact this

theorem bytI_get {t:ByteArray} {i:Nat} (hi:i < t.size):∃ c:UInt8,t[i]? = some c∧(bytI t).getD i 0=c.toNat:=by
  refine ⟨t[i],by simp [hi],?_⟩
  have hi':i < t.data.toList.length:=by rw [Array.length_toList];exact hi
  unfold bytI
  rw [List.getD_eq_getElem?_getD,List.getElem?_map,List.getElem?_eq_getElem hi']
  rfl
theorem q_ixs {t:ByteArray} {k:IntKind} (hx:Lk (evE e x = .str t)) (hy:Lk (evE e y = .int k a)) (h0:Om (0≤a)) (h1:Om (a < t.size)) (hj:Vl (a.toNat=i)) (hk:pops P Z pr cs K (putE e d (.int .u8 ((bytI t).getD i 0))) s):pops P Z pr (⟨d,none,kp,.f (.ixs x y)⟩::cs) K e s :=
  p_f (fun f h E i' S R=>by
    have h0:=h0.o
    have h1:=h1.o
    obtain ⟨c,hc,he⟩:=bytI_get (t:=t) (i:=a.toNat) (by omega)
    refine ⟨.int .u8 c.toNat,by simp only [FOp.run,(R.at hx.o).str_inv,(R.at hy.o).int_inv];rw [if_pos h0,hc];rfl,?_⟩
    rw [← hj.o,he]
    exact .int _ _) hk
theorem q_slS {t:ByteArray} (hx:Lk (evE e x = .str t)) (hlo:Lk (loP e lo=some a)) (hhi:Lk (hiP e t.size hi=some g)) (h0:Om (0≤a)) (h1:Om (a≤g)) (h2:Om (g≤t.size)) (hj:Vl (a.toNat=i)) (hg:Vl (g.toNat=j)) (hk:pops P Z pr cs K (putE e d (.str (t.extract i j))) s):pops P Z pr (⟨d,none,kp,.f (.slS x lo hi)⟩::cs) K e s :=
  p_f (fun f h E i' S R=>by
    refine ⟨.string (t.extract i j),by simp only [FOp.run,(R.at hx.o).str_inv];rw [cutB_of R hlo.o hhi.o h0.o h1.o h2.o,← hj.o,← hg.o];rfl,.str _⟩) hk
theorem p_nil (hk:K e s):pops P Z pr [] K e s:=fun f h hr=>⟨e,s,hk,hr⟩

def fillQ:List PV→List (Nat×Nat)→List PV→List PV
  | cs,(off,_)::ps,v::vs=>fillQ (putP cs off (cellsP v)) ps vs
  | cs,_,_=>cs
def fillOk:Nat→List (Nat×Nat)→List PV→Bool
  | _,[],[]=>true
  | n,(off,size)::ps,v::vs=>((cellsP v).all one1 && (cellsP v).length == size && Nat.ble (off+size) n) && fillOk n ps vs
  | _,_,_=>false
theorem fillQ_run:∀ (ps:List (Nat×Nat)) (l vs:List PV),fillOk l.length ps vs=true→fillP l ps vs=some (fillQ l ps vs)
  | [],l,[],h=>rfl
  | [],l,v::vs,h=>by simp [fillOk] at h
  | (off,size)::ps,l,[],h=>by simp [fillOk] at h
  | (off, size) :: ps, l, v :: vs, h => by
    simp only [fillOk] at h
    rw [Bool.and_eq_true] at h
    simp only [fillP,fillQ]
    rw [if_pos h.1]
    exact fillQ_run ps _ vs (by rw [putP_len];exact h.2)
theorem q_bldQ {zero:List Value} {ps:List (Nat×Nat)} {xs:List Operand} {vp:List PV} (hx:Mp (xs.map (evE e)=vp)) (ho:Rf (fillOk (zero.map ofC).length ps vp=true)) (hr:Pu (fillQ (zero.map ofC) ps vp=l)) (hk:pops P Z pr cs K (putE e d (.agg l)) s):pops P Z pr (⟨d,none,kp,.f (.bld zero ps xs)⟩::cs) K e s :=
  q_bld hx ⟨by rw [fillQ_run _ _ _ ho.o,hr.o]⟩ hk
def flatQ:List PV→List PV
  | []=>[]
  | p::l=>cellsP p++flatQ l
def flatOk (es:Nat) (l:List PV):Bool:=l.all fun p=>(cellsP p).all one1 && (cellsP p).length == es
theorem flatQ_run:∀ (l:List PV),flatOk es l=true→flatP es l=some (flatQ l)
  | [],h=>rfl
  | p :: l, h => by
    unfold flatOk at h
    rw [List.all_cons,Bool.and_eq_true] at h
    simp only [flatP,flatQ]
    rw [if_pos h.1,flatQ_run l h.2]
    rfl
theorem q_bslQ {xs:List Operand} {ps:List PV} (hx:Mp (xs.map (evE e)=ps)) (ho:Rf (flatOk es ps=true)) (hf:Pu (flatQ ps=c)) (hm:Pu (ps.length=m)) (hn:Pu (s.length=n)) (hs:Pu (s++[.row es m c]=s')) (hk:pops P Z pr cs K (putE e d (.osl n m)) s'):pops P Z pr (⟨d,none,kp,.f (.bsl es xs)⟩::cs) K e s :=
  q_bsl hx ⟨by rw [flatQ_run _ ho.o,hf.o]⟩ hm hn hs hk

theorem rs_z:Rs (prvs e s []=some []):=⟨rfl⟩
theorem rs_t {rs:List RV} {t:Nat} {ps:List PV} (h1:Lk (evE e (.tmp t)=p)) (h2:Rs (prvs e s rs=some ps)):Rs (prvs e s (.tmp t::rs)=some (p::ps)):=⟨by
  have h1:e t=p:=h1.o
  simp only [prvs,prv,h1,h2.o]⟩
theorem rs_c {rs:List RV} {t:Nat} {ps:List PV} (h1:Lk (evE e (.tmp t) = .ptr b o)) (hb:Rf (s[b]? = some (.var l))) (hv:Rf (l[o]? = some p)) (h2:Rs (prvs e s rs=some ps)):Rs (prvs e s (.cell t none::rs)=some (p::ps)):=⟨by
  have h1:e t=_:=h1.o
  simp only [prvs,prv,h1,hb.o,hv.o,h2.o]⟩
theorem rs_n {rs:List RV} {t:Nat} {ps:List PV} (h1:Lk (evE e (.tmp t) = .ptr b o)) (hb:Rf (s[b]? = some (.var l))) (hl:Rf (Nat.ble (o+m) l.length=true)) (hv:Pu ((l.drop o).take m=c)) (h2:Rs (prvs e s rs=some ps)):Rs (prvs e s (.cell t (some m)::rs)=some (.agg c::ps)):=⟨by
  have h1:e t=_:=h1.o
  simp only [prvs,prv,h1,hb.o,h2.o,hv.o]
  rw [if_pos (Nat.le_of_ble_eq_true hl.o)]⟩
section
variable {rs:List RV} {KK:PV→List OB→Prop}
def notTup:PV→Bool
  | .tup _=>false
  | _=>true
theorem r_per1 (hl:Rs (prvs e s rs=some [p])) (hp:Rf (per3 p=true)) (hne:Rf (notTup p=true)) (hk:KK p []):retP rs (gcK KK) .ret e s:=⟨[p],hl.o,(p,[]),by
  show gc s p=_
  have hp:=hp.o
  have hne:=hne.o
  cases p <;> first | (simp [notTup] at hne;done) | (unfold per3 per2 per1 at hp;simp at hp;done) | (unfold gc;simp only;rw [if_pos hp]),hk⟩
theorem r_pern {q:PV} {l:List PV} (hl:Rs (prvs e s rs=some (p::q::l))) (hp:Rf ((p::q::l).all per2=true)) (hk:KK (.tup (p::q::l)) []):retP rs (gcK KK) .ret e s:=⟨_,hl.o,(.tup (p::q::l),[]),by
  show gc s (.tup (p::q::l))=_
  have key:∀ (k:Nat) (l:List PV),l.all per2=true→gcL s k l=some (l,[],[]):=by
    intro k l
    induction l generalizing k with
    | nil=>intro _;rfl
    | cons p l ih =>
      intro h
      rw [List.all_cons,Bool.and_eq_true] at h
      unfold gcL
      split
      · simp [per2,per1] at h
      · rw [if_pos h.1,ih k h.2]
        rfl
  unfold gc
  simp only
  rw [key 0 _ hp.o]
  rfl,hk⟩
theorem r_osl1 {l:List D'.T} (hl:Rs (prvs e s rs=some [.osl b n])) (hb:Rf (s[b]? = some (.arr D' l))) (hk:KK (.osl 0 n) [.arr D' l]):retP rs (gcK KK) .ret e s:=⟨_,hl.o,(.osl 0 n,[.arr D' l]),by
  show gc s (.osl b n)=_
  unfold gc
  simp only [hb.o],hk⟩
theorem r_osl2 {l:List D'.T} {q:PV} (hl:Rs (prvs e s rs=some [.osl b n,q])) (hb:Rf (s[b]? = some (.arr D' l))) (hq:Rf (per2 q=true)) (hk:KK (.tup [.osl 0 n,q]) [.arr D' l]):retP rs (gcK KK) .ret e s:=⟨_,hl.o,(.tup [.osl 0 n,q],[.arr D' l]),by
  show gc s (.tup [.osl b n,q])=_
  have hq:=hq.o
  have h1:gcL s 1 [q]=some ([q],[],[]):=by
    unfold gcL
    split
    · simp [per2,per1] at hq
    · rw [if_pos hq];rfl
  unfold gc
  simp only
  unfold gcL
  simp only [hb.o,h1]
  rfl,hk⟩
theorem r_osl3 {D2:D} {b2 n2:Nat} {l:List D'.T} {l2:List D2.T} {q:PV} (hl:Rs (prvs e s rs=some [.osl b n,.osl b2 n2,q])) (hb:Rf (s[b]? = some (.arr D' l))) (hb2:Rf (s[b2]? = some (.arr D2 l2))) (hne:Rf (Nat.beq b2 b=false)) (hq:Rf (per2 q=true)) (hk:KK (.tup [.osl 0 n,.osl 1 n2,q]) [.arr D' l,.arr D2 l2]):retP rs (gcK KK) .ret e s:=⟨_,hl.o,(.tup [.osl 0 n,.osl 1 n2,q],[.arr D' l,.arr D2 l2]),by
  show gc s (.tup [.osl b n,.osl b2 n2,q])=_
  have hq:=hq.o
  have h1:gcL s 2 [q]=some ([q],[],[]):=by
    unfold gcL
    split
    · simp [per2,per1] at hq
    · rw [if_pos hq];rfl
  have h2:gcL s 1 [.osl b2 n2,q]=some ([.osl 1 n2,q],[.arr D2 l2],[b2]):=by
    unfold gcL
    simp only [hb2.o,h1]
    rfl
  have hne':b≠b2:=fun e=>by have:=Nat.ne_of_beq_eq_false hne.o;exact this e.symm
  unfold gc
  simp only
  unfold gcL
  simp only [hb.o,h2]
  simp [hne'],hk⟩

end
theorem ps_of {A B:Prop} {t:Bool} (h1:t=true→A) (h2:t=false→B):psel (.bool t) A B:=by
  cases t
  · exact h2 rfl
  · exact h1 rfl
end
theorem ev_T (e:Env) (t:Nat):evE e (.tmp t)=e t:=rfl
theorem ev_C (e:Env) (v:Value):evE e (.const v)=ofV v:=rfl
theorem ev_F (e:Env) (g:Nat):evE e (.func g) = .fn g [] []:=rfl
theorem put_at (e:Env) (d:Nat) (p:PV) (t:Nat):putE e (some d) p t=if t=d then p else e t:=rfl
theorem put_none (e:Env) (p:PV):putE e none p=e:=rfl
theorem init_at (args:List PV) (t:Nat):initE args t=args.getD t (.tup []):=rfl
theorem ofV_i (k:IntKind) (n:Int):ofV (.int k n) = .int k n:=rfl
theorem ofV_b (b:Bool):ofV (.bool b) = .bool b:=rfl
theorem ofV_s (t:ByteArray):ofV (.string t) = .str t:=rfl
theorem ofV_p:ofV (.pointer none) = .nilP:=rfl
theorem ofV_l:ofV (.slice none 0 0) = .nilS:=rfl
theorem ofV_I:ofV .nilIface = .nilI:=rfl
theorem ofV_F:ofV .nilFunc = .nilF:=rfl
theorem ofV_a (l:List Value):ofV (.agg l.toArray) = .agg (l.map ofC):=by simp [ofV]
theorem ofC_i (k:IntKind) (n:Int):ofC (.int k n) = .int k n:=rfl
theorem ofC_b (b:Bool):ofC (.bool b) = .bool b:=rfl
theorem ofC_s (t:ByteArray):ofC (.string t) = .str t:=rfl
theorem ofC_p:ofC (.pointer none) = .nilP:=rfl
theorem ofC_l:ofC (.slice none 0 0) = .nilS:=rfl
theorem ofC_I:ofC .nilIface = .nilI:=rfl
theorem ofC_F:ofC .nilFunc = .nilF:=rfl
theorem toV_i (k:IntKind) (n:Int):toV (.int k n)=some (.int k n):=rfl
theorem toV_b (b:Bool):toV (.bool b)=some (.bool b):=rfl
theorem toV_s (t:ByteArray):toV (.str t)=some (.string t):=rfl
theorem loP_n (e:Env):loP e none=some 0:=rfl
theorem hiP_n (e:Env) (n:Nat):hiP e n none=some n:=rfl
theorem loP_s (e:Env) (x:Operand):loP e (some x)=match evE e x with | .int _ n=>some n | _=>none:=rfl
theorem hiP_s (e:Env) (m:Nat) (x:Operand):hiP e m (some x)=match evE e x with | .int _ n=>some n | _=>none:=rfl
theorem isC_t (t:Nat):isC (.tmp t)=false:=rfl
theorem isC_c (v:Value):isC (.const v)=true:=rfl
theorem nb_t (b:Bool):nb true b = !b:=rfl
theorem nb_f (b:Bool):nb false b=b:=rfl
theorem t_gz {α:Type} (a d:α) (l:List α):(a::l).getD 0 d=a:=rfl
theorem t_gs {α:Type} (a d:α) (l:List α) (n:Nat):(a::l).getD (n+1) d=l.getD n d:=rfl
theorem t_mc {α β:Type} (f:α→β) (a:α) (l:List α):(a::l).map f=f a::l.map f:=rfl
theorem t_mn {α β:Type} (f:α→β):([]:List α).map f=[]:=rfl
theorem t_lc {α:Type} (a:α) (l:List α):(a::l).length=l.length+1:=rfl
theorem t_ln {α:Type}:([]:List α).length=0:=rfl
theorem t_an {α:Type} (l:List α):[]++l=l:=rfl
theorem t_ac {α:Type} (a:α) (l m:List α):(a::l)++m=a::(l++m):=rfl
theorem t_na {α:Type} (l:List α):l++[]=l:=List.append_nil l
theorem t_sz {α:Type} (a b:α) (l:List α):(a::l).set 0 b=b::l:=rfl
theorem t_ss {α:Type} (a b:α) (l:List α) (n:Nat):(a::l).set (n+1) b=a::l.set n b:=rfl
theorem t_ds {α:Type} (a:α) (l:List α) (n:Nat):(a::l).drop (n+1)=l.drop n:=rfl
theorem t_dz {α:Type} (l:List α):l.drop 0=l:=rfl
theorem t_ts {α:Type} (a:α) (l:List α) (n:Nat):(a::l).take (n+1)=a::l.take n:=rfl
theorem t_tz {α:Type} (l:List α):l.take 0=[]:=rfl
theorem t_la {α:Type} (l m:List α):(l++m).length=l.length+m.length:=List.length_append
theorem t_lt {α:Type} (l:List α) (n:Nat):(l.take n).length=min n l.length:=List.length_take
theorem t_ld {α:Type} (l:List α) (n:Nat):(l.drop n).length=l.length - n:=List.length_drop
theorem t_lr {α:Type} (n:Nat) (a:α):(List.replicate n a).length=n:=List.length_replicate
theorem t_ls {α:Type} (l:List α) (n:Nat) (a:α):(l.set n a).length=l.length:=List.length_set
theorem t_lm {α β:Type} (f:α→β) (l:List α):(l.map f).length=l.length:=List.length_map f
theorem t_qz {α:Type} (a:α) (l:List α):(a::l)[0]? = some a:=rfl
theorem t_qs {α:Type} (a:α) (l:List α) (n:Nat):(a::l)[n+1]? = l[n]?:=rfl
theorem t_ne {α:Type} (a b:α):(a≠b) = ¬ a=b:=rfl
theorem t_be {α:Type} [BEq α] [ReflBEq α] (a:α):(a == a)=true:=beq_self_eq_true a
theorem LL:type_of% (And.intro @ev_T <| And.intro @ev_C <| And.intro @ev_F <| And.intro @put_at <| And.intro @put_none <| And.intro @init_at <| And.intro @ofV_i <| And.intro @ofV_b <| And.intro @ofV_s <| And.intro @ofV_p <| And.intro @ofV_l <| And.intro @ofV_I <| And.intro @ofV_F <| And.intro @ofV_a <| And.intro @ofC_i <| And.intro @ofC_b <| And.intro @ofC_s <| And.intro @ofC_p <| And.intro @ofC_l <| And.intro @ofC_I <| And.intro @ofC_F <| And.intro @toV_i <| And.intro @toV_b <| And.intro @toV_s <| And.intro @t_gz <| And.intro @t_gs <| And.intro @loP_n <| And.intro @hiP_n <| And.intro @loP_s <| And.intro @hiP_s <| And.intro @t_mc @t_mn):=And.intro @ev_T <| And.intro @ev_C <| And.intro @ev_F <| And.intro @put_at <| And.intro @put_none <| And.intro @init_at <| And.intro @ofV_i <| And.intro @ofV_b <| And.intro @ofV_s <| And.intro @ofV_p <| And.intro @ofV_l <| And.intro @ofV_I <| And.intro @ofV_F <| And.intro @ofV_a <| And.intro @ofC_i <| And.intro @ofC_b <| And.intro @ofC_s <| And.intro @ofC_p <| And.intro @ofC_l <| And.intro @ofC_I <| And.intro @ofC_F <| And.intro @toV_i <| And.intro @toV_b <| And.intro @toV_s <| And.intro @t_gz <| And.intro @t_gs <| And.intro @loP_n <| And.intro @hiP_n <| And.intro @loP_s <| And.intro @hiP_s <| And.intro @t_mc @t_mn
theorem UU:type_of% (And.intro @t_lc <| And.intro @t_ln <| And.intro @Nat.zero_add <| And.intro @t_an <| And.intro @t_ac <| And.intro @t_na <| And.intro @t_sz <| And.intro @t_ss <| And.intro @t_ds <| And.intro @t_dz <| And.intro @t_ts <| And.intro @t_tz <| And.intro @t_mc <| And.intro @t_mn <| And.intro @ofC_i <| And.intro @ofC_b <| And.intro @ofC_s <| And.intro @ofC_p <| And.intro @ofC_l <| And.intro @ofC_I @ofC_F):=And.intro @t_lc <| And.intro @t_ln <| And.intro @Nat.zero_add <| And.intro @t_an <| And.intro @t_ac <| And.intro @t_na <| And.intro @t_sz <| And.intro @t_ss <| And.intro @t_ds <| And.intro @t_dz <| And.intro @t_ts <| And.intro @t_tz <| And.intro @t_mc <| And.intro @t_mn <| And.intro @ofC_i <| And.intro @ofC_b <| And.intro @ofC_s <| And.intro @ofC_p <| And.intro @ofC_l <| And.intro @ofC_I @ofC_F
theorem MM:type_of% (And.intro @t_la <| And.intro @t_lt <| And.intro @t_ld <| And.intro @t_lc <| And.intro @t_ln <| And.intro @t_lr <| And.intro @t_ls @t_lm):=And.intro @t_la <| And.intro @t_lt <| And.intro @t_ld <| And.intro @t_lc <| And.intro @t_ln <| And.intro @t_lr <| And.intro @t_ls @t_lm
theorem toNatL (n:Nat):Int.toNat (no_index (@OfNat.ofNat Int n instOfNat))=@OfNat.ofNat Nat n (instOfNatNat n):=rfl
theorem VV:type_of% (And.intro @b_add <| And.intro @b_sub <| And.intro @b_mul <| And.intro @b_eql <| And.intro @b_neq <| And.intro @b_lss <| And.intro @b_leq <| And.intro @b_gtr <| And.intro @b_geq <| And.intro @u_not <| And.intro @u_neg <| And.intro @s_eql <| And.intro @s_neq <| And.intro @uw <| And.intro @iw <| And.intro @w8 <| And.intro @w16 <| And.intro @w32 <| And.intro @Int.toNat_natCast <| And.intro @Int.toNat_zero <| And.intro @Int.toNat_one <| And.intro @decide_true <| And.intro @decide_false <| And.intro @Bool.or_true <| And.intro @Bool.true_or <| And.intro @Bool.or_false <| And.intro @Bool.false_or <| And.intro @Bool.and_true <| And.intro @Bool.true_and <| And.intro @Bool.and_false <| And.intro @Bool.false_and <| And.intro @Bool.not_true <| And.intro @Bool.not_false <| And.intro @Bool.true_beq <| And.intro @Bool.false_beq <| And.intro @t_qz <| And.intro @t_qs <| And.intro @toNatL <| And.intro @t_ne <| And.intro @not_true_eq_false <| And.intro @not_false_eq_true <| And.intro @Bool.false_eq_true <| And.intro @t_be <| And.intro @Nat.add_zero <| And.intro @Nat.zero_add <| And.intro @isC_t <| And.intro @isC_c <| And.intro @nb_t @nb_f):=And.intro @b_add <| And.intro @b_sub <| And.intro @b_mul <| And.intro @b_eql <| And.intro @b_neq <| And.intro @b_lss <| And.intro @b_leq <| And.intro @b_gtr <| And.intro @b_geq <| And.intro @u_not <| And.intro @u_neg <| And.intro @s_eql <| And.intro @s_neq <| And.intro @uw <| And.intro @iw <| And.intro @w8 <| And.intro @w16 <| And.intro @w32 <| And.intro @Int.toNat_natCast <| And.intro @Int.toNat_zero <| And.intro @Int.toNat_one <| And.intro @decide_true <| And.intro @decide_false <| And.intro @Bool.or_true <| And.intro @Bool.true_or <| And.intro @Bool.or_false <| And.intro @Bool.false_or <| And.intro @Bool.and_true <| And.intro @Bool.true_and <| And.intro @Bool.and_false <| And.intro @Bool.false_and <| And.intro @Bool.not_true <| And.intro @Bool.not_false <| And.intro @Bool.true_beq <| And.intro @Bool.false_beq <| And.intro @t_qz <| And.intro @t_qs <| And.intro @toNatL <| And.intro @t_ne <| And.intro @not_true_eq_false <| And.intro @not_false_eq_true <| And.intro @Bool.false_eq_true <| And.intro @t_be <| And.intro @Nat.add_zero <| And.intro @Nat.zero_add <| And.intro @isC_t <| And.intro @isC_c <| And.intro @nb_t @nb_f
theorem DD:type_of% (And.intro @dlt <| And.intro @dltF <| And.intro @dle <| And.intro @dleF <| And.intro @deq <| And.intro @deqF <| And.intro @dne @dneF):=And.intro @dlt <| And.intro @dltF <| And.intro @dle <| And.intro @dleF <| And.intro @deq <| And.intro @deqF <| And.intro @dne @dneF
end Go.Proofs.Ytcffpnlochillaa.Pv
namespace Go.Proofs.Ytcffpnlochillaa.Pv
open Go.RowKit Go.Proofs.Ytcffpnlochillaa.Ab Go.Proofs.Ytcffpnlochillaa.AbP
section
variable {P:Program} {Z:Bs} {K:Env→List OB→Prop} {Q:QP} {e:Env} {s s':List OB} {cs:List CO} {pr:List Operand} {d:Option Nat} {kp:Bool} {x y z:Operand} {p q r:PV} {u v w:Value} {b o n m i j es:Nat} {l l' c:List PV} {D':D} {lo hi:Option Operand} {a g:Int} {ob:OB}
def LdG (P:Program) (Z:Bs) (pr:List Operand) (x:Operand) (cs:List CO) (K:Env→List OB→Prop) (e:Env) (s:List OB) (d:Option Nat) (nn:Option Nat) (p:PV):Prop:=∀ kp,evE e x=p→pops P Z pr (⟨d,none,kp,.f (.ld nn x)⟩::cs) K e s
def LdS (P:Program) (Z:Bs) (pr:List Operand) (x:Operand) (cs:List CO) (K:Env→List OB→Prop) (e:Env) (s:List OB) (d:Option Nat) (nn:Option Nat) (b n i o:Nat) (ob:OB):Prop:=s[b]? = some ob→LdG P Z pr x cs K e s d nn (.oel b n i o)
theorem g_ld {nn:Option Nat} (hx:Lk (evE e x=p)) (hk:LdG P Z pr x cs K e s d nn p):pops P Z pr (⟨d,none,kp,.f (.ld nn x)⟩::cs) K e s:=hk kp hx.o
theorem ld_V (hb:Rf (s[b]? = some (.var l))) (hv:Rf (l[o]? = some p)) (hk:pops P Z (x::pr) cs K (putE e d p) s):LdG P Z pr x cs K e s d none (.ptr b o):=fun kp hx=>q_ldV ⟨hx⟩ hb hv hk
theorem ld_Vn (hb:Rf (s[b]? = some (.var l))) (hl:Rf (Nat.ble (o+n) l.length=true)) (hv:Pu ((l.drop o).take n=c)) (hk:pops P Z (x::pr) cs K (putE e d (.agg c)) s):LdG P Z pr x cs K e s d (some n) (.ptr b o):=fun kp hx=>q_ldVn ⟨hx⟩ hb hl hv hk
theorem ld_I {k:IntKind} {l:List Int} (hk:pops P Z (x::pr) cs K (putE e d (.int k (l.getD i 0))) s):LdG P Z pr x cs K e s d none (.elt (.int k) l i 0):=fun kp hx=>q_ldI ⟨hx⟩ hk
theorem ld_E {l:List D'.T} {x':D'.T} (hi:Am (l[i]? = some x')) (hv:Vl ((encP D' x')[o]? = some p)) (hk:pops P Z (x::pr) cs K (putE e d p) s):LdG P Z pr x cs K e s d none (.elt D' l i o):=fun kp hx=>q_ldE ⟨hx⟩ hi hv hk
theorem ld_En {l:List D'.T} {x':D'.T} (hi:Am (l[i]? = some x')) (hl:Rf (Nat.ble (o+n) D'.sz=true)) (hv:Pu (((encP D' x').drop o).take n=c)) (hk:pops P Z (x::pr) cs K (putE e d (.agg c)) s):LdG P Z pr x cs K e s d (some n) (.elt D' l i o):=fun kp hx=>q_ldEn ⟨hx⟩ hi hl hv hk
theorem ld_R {N:List PV} (hv:Vl (N[o]? = some p)) (hk:pops P Z (x::pr) cs K (putE e d p) s):LdG P Z pr x cs K e s d none (.ref N o):=fun kp hx=>q_ldR ⟨hx⟩ hv hk
theorem ld_Rn {N:List PV} (hl:Rf (Nat.ble (o+n) N.length=true)) (hv:Pu ((N.drop o).take n=c)) (hk:pops P Z (x::pr) cs K (putE e d (.agg c)) s):LdG P Z pr x cs K e s d (some n) (.ref N o):=fun kp hx=>q_ldRn ⟨hx⟩ hl hv hk
theorem ld_O {nn:Option Nat} (hb:Rf (s[b]? = some ob)) (hk:LdS P Z pr x cs K e s d nn b n i o ob):LdG P Z pr x cs K e s d nn (.oel b n i o):=hk hb.o
theorem ld_OI {k:IntKind} {l:List Int} (hn:Om (n=l.length)) (hi:Om (i < l.length)) (hk:pops P Z (x::pr) cs K (putE e d (.int k (l.getD i 0))) s):LdS P Z pr x cs K e s d none b n i 0 (.arr (.int k) l):=fun hb kp hx=>q_ldOI ⟨hx⟩ ⟨hb⟩ hn hi hk
theorem ld_OE {l:List D'.T} {x':D'.T} (hn:Om (n=l.length)) (hi:Am (l[i]? = some x')) (hv:Vl ((encP D' x')[o]? = some p)) (hk:pops P Z (x::pr) cs K (putE e d p) s):LdS P Z pr x cs K e s d none b n i o (.arr D' l):=fun hb kp hx=>q_ldO ⟨hx⟩ ⟨hb⟩ hn hi hv hk
theorem ld_On {l:List D'.T} {x':D'.T} (hn:Om (n=l.length)) (hi:Am (l[i]? = some x')) (hl:Rf (Nat.ble (o+m) D'.sz=true)) (hv:Pu (((encP D' x').drop o).take m=c)) (hk:pops P Z (x::pr) cs K (putE e d (.agg c)) s):LdS P Z pr x cs K e s d (some m) b n i o (.arr D' l):=fun hb kp hx=>q_ldOn ⟨hx⟩ ⟨hb⟩ hn hi hl hv hk
theorem ld_W (hv:Vl (l[i * es+o]? = some p)) (hk:pops P Z (x::pr) cs K (putE e d p) s):LdS P Z pr x cs K e s d none b n i o (.row es n l):=fun hb kp hx=>q_ldW ⟨hx⟩ ⟨hb⟩ hv hk

def FdG (P:Program) (Z:Bs) (pr:List Operand) (cs:List CO) (K:Env→List OB→Prop) (e:Env) (s:List OB) (d:Option Nat) (off:Nat) (p:PV):Prop:=∀ x kp,evE e x=p→pops P Z pr (⟨d,none,kp,.f (.fad off x)⟩::cs) K e s
theorem g_fad {off:Nat} (hx:Lk (evE e x=p)) (hk:FdG P Z pr cs K e s d off p):pops P Z pr (⟨d,none,kp,.f (.fad off x)⟩::cs) K e s:=hk x kp hx.o
theorem fd_V {off:Nat} (hb:Rf (s[b]? = some (.var l))) (hj:Pu (o+off=j)) (hk:pops P Z pr cs K (putE e d (.ptr b j)) s):FdG P Z pr cs K e s d off (.ptr b o):=fun x kp hx=>q_fadV ⟨hx⟩ hb hj hk
theorem fd_E {off:Nat} {l:List D'.T} (hj:Pu (o+off=j)) (hk:pops P Z pr cs K (putE e d (.elt D' l i j)) s):FdG P Z pr cs K e s d off (.elt D' l i o):=fun x kp hx=>q_fadE ⟨hx⟩ hj hk
theorem fd_R {off:Nat} {N:List PV} (hj:Pu (o+off=j)) (hk:pops P Z pr cs K (putE e d (.ref N j)) s):FdG P Z pr cs K e s d off (.ref N o):=fun x kp hx=>q_fadR ⟨hx⟩ hj hk
theorem fd_O {off:Nat} (hb:Rf (s[b]? = some ob)) (hs:Vl (ob.sig=some (es,m))) (hn:Om (n=m)) (hj:Pu (o+off=j)) (hk:pops P Z pr cs K (putE e d (.oel b n i j)) s):FdG P Z pr cs K e s d off (.oel b n i o):=fun x kp hx=>q_fadO (es:=es) ⟨hx⟩ hb ⟨by rw [hn.o];exact hs.o⟩ hj hk
def IdG (P:Program) (Z:Bs) (pr:List Operand) (cs:List CO) (K:Env→List OB→Prop) (e:Env) (s:List OB) (d:Option Nat) (es:Nat) (p:PV) (k:IntKind) (a:Int):Prop:=∀ x y kp,evE e x=p→evE e y = .int k a→pops P Z pr (⟨d,none,kp,.f (.iad es x y)⟩::cs) K e s
def IdS (P:Program) (Z:Bs) (pr:List Operand) (cs:List CO) (K:Env→List OB→Prop) (e:Env) (s:List OB) (d:Option Nat) (es b n:Nat) (k:IntKind) (a:Int) (ob:OB):Prop:=s[b]? = some ob→IdG P Z pr cs K e s d es (.osl b n) k a
theorem g_iad {k:IntKind} (hx:Lk (evE e x=p)) (hy:Lk (evE e y = .int k a)) (hk:IdG P Z pr cs K e s d es p k a):pops P Z pr (⟨d,none,kp,.f (.iad es x y)⟩::cs) K e s:=hk x y kp hx.o hy.o
theorem id_S {k:IntKind} {l:List D'.T} (h0:Om (0≤a)) (h1:Om (a < l.length)) (hj:Vl (a.toNat=i)) (he:Rf (Nat.beq D'.sz es=true)) (hd:Rf (Nat.blt 0 es=true)) (hk:pops P Z pr cs K (putE e d (.elt D' l i 0)) s):IdG P Z pr cs K e s d es (.sl D' l) k a:=fun x y kp hx hy=>q_iad ⟨hx⟩ ⟨hy⟩ h0 h1 hj he hd hk
theorem id_O {k:IntKind} (hb:Rf (s[b]? = some ob)) (hk:IdS P Z pr cs K e s d es b n k a ob):IdG P Z pr cs K e s d es (.osl b n) k a:=hk hb.o
theorem id_A {k:IntKind} {l:List D'.T} (hn:Om (n=l.length)) (h0:Om (0≤a)) (h1:Om (a < l.length)) (hj:Vl (a.toNat=i)) (he:Rf (Nat.beq D'.sz es=true)) (hk:pops P Z pr cs K (putE e d (.oel b n i 0)) s):IdS P Z pr cs K e s d es b n k a (.arr D' l):=fun hb x y kp hx hy=>q_iadO ⟨hx⟩ ⟨hy⟩ ⟨hb⟩ hn h0 h1 hj he hk
theorem id_R {k:IntKind} (h0:Om (0≤a)) (h1:Om (a < n)) (hj:Vl (a.toNat=i)) (hk:pops P Z pr cs K (putE e d (.oel b n i 0)) s):IdS P Z pr cs K e s d es b n k a (.row es n l):=fun hb x y kp hx hy=>q_iadR ⟨hx⟩ ⟨hy⟩ ⟨hb⟩ h0 h1 hj hk

def LnG (P:Program) (Z:Bs) (pr:List Operand) (cs:List CO) (K:Env→List OB→Prop) (e:Env) (s:List OB) (d:Option Nat) (p:PV):Prop:=∀ x kp,evE e x=p→pops P Z pr (⟨d,none,kp,.f (.len false x)⟩::cs) K e s
def LnS (P:Program) (Z:Bs) (pr:List Operand) (cs:List CO) (K:Env→List OB→Prop) (e:Env) (s:List OB) (d:Option Nat) (b n:Nat) (ob:OB):Prop:=s[b]? = some ob→LnG P Z pr cs K e s d (.osl b n)
theorem g_ln (hx:Lk (evE e x=p)) (hk:LnG P Z pr cs K e s d p):pops P Z pr (⟨d,none,kp,.f (.len false x)⟩::cs) K e s:=hk x kp hx.o
theorem ln_S {l:List D'.T} (hk:pops P Z pr cs K (putE e d (.int .i64 l.length)) s):LnG P Z pr cs K e s d (.sl D' l):=fun x kp hx=>q_ln ⟨hx⟩ hk
theorem ln_0 (hk:pops P Z pr cs K (putE e d (.int .i64 0)) s):LnG P Z pr cs K e s d .nilS:=fun x kp hx=>q_ln0 ⟨hx⟩ hk
theorem ln_O (hb:Rf (s[b]? = some ob)) (hk:LnS P Z pr cs K e s d b n ob):LnG P Z pr cs K e s d (.osl b n):=hk hb.o
theorem ln_A {l:List D'.T} (hn:Om (n=l.length)) (hk:pops P Z pr cs K (putE e d (.int .i64 l.length)) s):LnS P Z pr cs K e s d b n (.arr D' l):=fun hb x kp hx=>q_lnO ⟨hx⟩ ⟨hb⟩ hn hk
theorem ln_R (hk:pops P Z pr cs K (putE e d (.int .i64 n)) s):LnS P Z pr cs K e s d b n (.row es n l):=fun hb x kp hx=>q_lnR ⟨hx⟩ ⟨hb⟩ hk

def StG (P:Program) (Z:Bs) (pr:List Operand) (cs:List CO) (K:Env→List OB→Prop) (e:Env) (s:List OB) (d:Option Nat) (kp:Bool) (size:Nat) (p q:PV):Prop:=∀ x y,evE e x=p→evE e y=q→pops P Z pr (⟨d,none,kp,.e (.st size x y)⟩::cs) K e s
def StS (P:Program) (Z:Bs) (pr:List Operand) (cs:List CO) (K:Env→List OB→Prop) (e:Env) (s:List OB) (d:Option Nat) (kp:Bool) (size b n i o:Nat) (q:PV) (ob:OB):Prop:=s[b]? = some ob→StG P Z pr cs K e s d kp size (.oel b n i o) q
theorem g_st {size:Nat} (hx:Lk (evE e x=p)) (hy:Lk (evE e y=q)) (hk:StG P Z pr cs K e s d kp size p q):pops P Z pr (⟨d,none,kp,.e (.st size x y)⟩::cs) K e s:=hk x y hx.o hy.o
theorem st_V {size:Nat} {l':List PV} (hb:Rf (s[b]? = some (.var l))) (hc:Pu (cellsP q=c)) (h1:Rf (c.all one1=true)) (hz:Rf (Nat.beq c.length size=true)) (ho:Rf (Nat.ble (o+size) l.length=true)) (hp:Pu (putP l o c=l')) (hs:Pu (s.set b (.var l')=s')) (hk:pops P Z pr cs K (putE e d (.tup [])) s'):StG P Z pr cs K e s d false size (.ptr b o) q:=fun x y hx hy=>q_stV ⟨hx⟩ ⟨hy⟩ hb hc h1 hz ho hp hs ⟨rfl⟩ hk
theorem st_VK {size:Nat} {l':List PV} (hb:Rf (s[b]? = some (.var l))) (hc:Pu (cellsP q=c)) (h1:Rf (c.all one1=true)) (hz:Rf (Nat.beq c.length size=true)) (ho:Rf (Nat.ble (o+size) l.length=true)) (hp:Pu (putP l o c=l')) (hs:Pu (s.set b (.var l')=s')) {ps:List PV} (hm:Mp (pr.map (evE e)=ps)) (hsf:Rf (ps.all (sfP s b)=true)) (hk:pops P Z pr cs K (putE e d (.tup [])) s'):StG P Z pr cs K e s d true size (.ptr b o) q:=fun x y hx hy=>q_stVK ⟨hx⟩ ⟨hy⟩ hb hc h1 hz ho hp hs hm hsf hk
theorem st_O {size:Nat} (hb:Rf (s[b]? = some ob)) (hk:StS P Z pr cs K e s d kp size b n i o q ob):StG P Z pr cs K e s d kp size (.oel b n i o) q:=hk hb.o
theorem st_I {k:IntKind} {l:List Int} (hn:Om (n=l.length)) (hi:Om (i < l.length)) (hs:Pu (s.set b (.arr (.int k) (l.set i a))=s')) (hkp:Rf (kp=false)) (hk:pops P Z pr cs K (putE e d (.tup [])) s'):StS P Z pr cs K e s d kp 1 b n i 0 (.int k a) (.arr (.int k) l):=fun hb x y hx hy=>q_stOI ⟨hx⟩ ⟨hy⟩ ⟨hb⟩ hn hi hs hkp hk
theorem st_B {t:Bool} {l:List Bool} (hn:Om (n=l.length)) (hi:Om (i < l.length)) (hs:Pu (s.set b (.arr .bool (l.set i t))=s')) (hkp:Rf (kp=false)) (hk:pops P Z pr cs K (putE e d (.tup [])) s'):StS P Z pr cs K e s d kp 1 b n i 0 (.bool t) (.arr .bool l):=fun hb x y hx hy=>q_stOB ⟨hx⟩ ⟨hy⟩ ⟨hb⟩ hn hi hs hkp hk
theorem st_E {size:Nat} {l:List D'.T} {x0 x1:D'.T} (hn:Om (n=l.length)) (hi:Am (l[i]? = some x0)) (hc:Pu (cellsP q=c)) (h1:Rf (c.all one1=true)) (hz:Rf (Nat.beq c.length size=true)) (ho:Rf (Nat.ble (o+size) D'.sz=true)) (hp:Rf (decP D' (putP (encP D' x0) o c)=some x1)) (hs:Pu (s.set b (.arr D' (l.set i x1))=s')) (hkp:Rf (kp=false)) (hk:pops P Z pr cs K (putE e d (.tup [])) s'):StS P Z pr cs K e s d kp size b n i o q (.arr D' l):=fun hb x y hx hy=>q_stO ⟨hx⟩ ⟨hy⟩ ⟨hb⟩ hn hi hc h1 hz ho ⟨hp.o⟩ hs hkp hk

def MkG (P:Program) (Z:Bs) (pr:List Operand) (cs:List CO) (K:Env→List OB→Prop) (e:Env) (s:List OB) (d:Option Nat) (t:TypeId) (p:PV):Prop:=∀ x kp,evE e x=p→pops P Z pr (⟨d,none,kp,.f (.mkI t x)⟩::cs) K e s
theorem g_mk {t:TypeId} (hx:Lk (evE e x=p)) (hk:MkG P Z pr cs K e s d t p):pops P Z pr (⟨d,none,kp,.f (.mkI t x)⟩::cs) K e s:=hk x kp hx.o
theorem mk_P {t:TypeId} (hb:Rf (s[b]? = some (.var l))) (hs:Pu (s.set b .dead=s')) (hk:pops P Z pr cs K (putE e d (.ifc t (.ref l 0))) s'):MkG P Z pr cs K e s d t (.ptr b 0):=fun x kp hx=>q_mkIP ⟨hx⟩ hb hs hk
theorem mk_G {t:TypeId} (hk:pops P Z pr cs K (putE e d (.ifc t p)) s):MkG P Z pr cs K e s d t p:=fun x kp hx=>q_mkI ⟨hx⟩ hk
def TaG (P:Program) (Z:Bs) (pr:List Operand) (cs:List CO) (K:Env→List OB→Prop) (e:Env) (s:List OB) (d:Option Nat) (t:TypeId) (ok:Bool) (zero:Value) (p:PV):Prop:=∀ x kp,evE e x=p→pops P Z pr (⟨d,none,kp,.f (.tas t ok zero x)⟩::cs) K e s
theorem g_ta {t:TypeId} {ok:Bool} {zero:Value} (hx:Lk (evE e x=p)) (hk:TaG P Z pr cs K e s d t ok zero p):pops P Z pr (⟨d,none,kp,.f (.tas t ok zero x)⟩::cs) K e s:=hk x kp hx.o
theorem ta_Y1 {t:TypeId} {zero:Value} (hk:pops P Z pr cs K (putE e d (.tup [p,.bool true])) s):TaG P Z pr cs K e s d t true zero (.ifc t p):=fun x kp hx=>q_tasY (ok:=true) ⟨hx⟩ hk
theorem ta_Y0 {t:TypeId} {zero:Value} (hk:pops P Z pr cs K (putE e d p) s):TaG P Z pr cs K e s d t false zero (.ifc t p):=fun x kp hx=>q_tasY (ok:=false) ⟨hx⟩ hk
theorem ta_N {t u:TypeId} {zero:Value} (hne:Rf (Nat.beq u t=false)) (hk:pops P Z pr cs K (putE e d (.tup [ofV zero,.bool false])) s):TaG P Z pr cs K e s d t true zero (.ifc u p):=fun x kp hx=>q_tasN ⟨hx⟩ hne hk
theorem ta_I {t:TypeId} {zero:Value} (hk:pops P Z pr cs K (putE e d (.tup [ofV zero,.bool false])) s):TaG P Z pr cs K e s d t true zero .nilI:=fun x kp hx=>q_tasI ⟨hx⟩ hk

def NlG (P:Program) (Z:Bs) (pr:List Operand) (cs:List CO) (K:Env→List OB→Prop) (e:Env) (s:List OB) (d:Option Nat) (tag:Nat) (ne:Bool) (p q:PV):Prop:=∀ x y kp,evE e x=p→evE e y=q→pops P Z pr (⟨d,none,kp,.f (.eqN tag ne x y)⟩::cs) K e s
theorem g_nl {tag:Nat} {ne:Bool} (hx:Lk (evE e x=p)) (hy:Lk (evE e y=q)) (hk:NlG P Z pr cs K e s d tag ne p q):pops P Z pr (⟨d,none,kp,.f (.eqN tag ne x y)⟩::cs) K e s:=hk x y kp hx.o hy.o
theorem nl_P {ne t r:Bool} (hp:Rf (isNilP p=some t)) (hv:Vl (nb ne t=r)) (hk:pops P Z pr cs K (putE e d (.bool r)) s):NlG P Z pr cs K e s d 0 ne p .nilP:=fun x y kp hx hy=>q_eqP ⟨hx⟩ ⟨hy⟩ hp hv hk
theorem nl_F1 {ne r:Bool} {g:FuncId} {a b:List PV} (hv:Vl (nb ne false=r)) (hk:pops P Z pr cs K (putE e d (.bool r)) s):NlG P Z pr cs K e s d 2 ne (.fn g a b) .nilF:=fun x y kp hx hy=>q_eqF1 ⟨hx⟩ ⟨hy⟩ hv hk
theorem nl_F0 {ne r:Bool} (hv:Vl (nb ne true=r)) (hk:pops P Z pr cs K (putE e d (.bool r)) s):NlG P Z pr cs K e s d 2 ne .nilF .nilF:=fun x y kp hx hy=>q_eqF0 ⟨hx⟩ ⟨hy⟩ hv hk
theorem nl_S0 {ne r:Bool} (hv:Vl (nb ne true=r)) (hk:pops P Z pr cs K (putE e d (.bool r)) s):NlG P Z pr cs K e s d 1 ne .nilS .nilS:=fun x y kp hx hy=>q_eqS0 ⟨hx⟩ ⟨hy⟩ hv hk
theorem nl_Sl {ne:Bool} {l:List D'.T} (hk:∀ r:Bool,(r=true→l=[])→pops P Z pr cs K (putE e d (.bool (nb ne r))) s):NlG P Z pr cs K e s d 1 ne (.sl D' l) .nilS:=fun x y kp hx hy=>q_eqSl ⟨hx⟩ ⟨hy⟩ hk
theorem nl_So {ne r:Bool} {l:List D'.T} (hb:Rf (s[b]? = some (.arr D' l))) (hn:Om (n=l.length)) (h0:Om (0 < l.length)) (hv:Vl (nb ne false=r)) (hk:pops P Z pr cs K (putE e d (.bool r)) s):NlG P Z pr cs K e s d 1 ne (.osl b n) .nilS:=fun x y kp hx hy=>q_eqSo ⟨hx⟩ ⟨hy⟩ hb hn h0 hv hk

theorem q_mst {es:Nat} (hx:Lk (evE e x = .osl b n)) (hb:Rf (s[b]? = some (.row es n l))) (hk:pops P Z pr cs K (putE e d (.osl b n)) s):pops P Z pr (⟨d,none,kp,.e (.mst x)⟩::cs) K e s:=fun f h ⟨E,i,S,R⟩=>by
  obtain ⟨k,cs',k1,k2,k3,-⟩:=S.ob b _ hb.o
  have hp:=R.at hx.o
  rcases hp.osl_inv _ _ ⟨_,hb.o,rfl⟩ with g1 | ⟨-,c,hc,hv⟩
  · omega
  · have k1:i b=some k:=k1
    have hp2:=hp
    simp only [k1,slV] at hv
    rw [hv] at hp2
    refine s_gen (v:=.slice (some ⟨k,0,none⟩) n c) (h':=h) (fun K1 hk1=>?_) (fun _=>.inl ⟨rfl,fun _ _ h=>h⟩) (hk _ _ ⟨E,i,S,R.put hp2⟩)
    simp only [EOp.run,hv]
    exact ⟨⟨by simp,_,k3,rfl⟩,hk1⟩

def SlG (P:Program) (Z:Bs) (pr:List Operand) (cs:List CO) (K:Env→List OB→Prop) (e:Env) (s:List OB) (d:Option Nat) (es:Nat) (lo hi:Option Operand) (p:PV):Prop:=∀ x kp,evE e x=p→pops P Z pr (⟨d,none,kp,.f (.slc es x lo hi)⟩::cs) K e s
theorem g_sl (hx:Lk (evE e x=p)) (hk:SlG P Z pr cs K e s d es lo hi p):pops P Z pr (⟨d,none,kp,.f (.slc es x lo hi)⟩::cs) K e s:=hk x kp hx.o
theorem sl_Sa {l:List D'.T} (he:Rf (Nat.beq D'.sz es=true)) (hd:Rf (Nat.blt 0 es=true)) (hk:pops P Z pr cs K (putE e d (.sl D' l)) s):SlG P Z pr cs K e s d es none none (.sl D' l):=fun x kp hx=>q_slc (a:=0) (g:=l.length) (i:=0) (j:=l.length) ⟨hx⟩ ⟨rfl⟩ ⟨rfl⟩ ⟨Int.le_refl _⟩ ⟨Int.natCast_nonneg _⟩ ⟨Int.le_refl _⟩ ⟨rfl⟩ ⟨Int.toNat_natCast _⟩ he hd (by rw [List.take_length];exact hk)
theorem sl_S0 {y:Operand} {l:List D'.T} (hhi:Lk (hiP e l.length (some y)=some g)) (h1:Om (0≤g)) (h2:Om (g≤l.length)) (hg:Vl (g.toNat=j)) (he:Rf (Nat.beq D'.sz es=true)) (hd:Rf (Nat.blt 0 es=true)) (hk:pops P Z pr cs K (putE e d (.sl D' (l.take j))) s):SlG P Z pr cs K e s d es none (some y) (.sl D' l):=fun x kp hx=>q_slc (a:=0) (i:=0) ⟨hx⟩ ⟨rfl⟩ hhi ⟨Int.le_refl _⟩ h1 h2 ⟨rfl⟩ hg he hd hk
theorem sl_Sn {y:Operand} {l:List D'.T} (hlo:Lk (loP e (some y)=some a)) (h0:Om (0≤a)) (h1:Om (a≤l.length)) (hj:Vl (a.toNat=i)) (he:Rf (Nat.beq D'.sz es=true)) (hd:Rf (Nat.blt 0 es=true)) (hk:pops P Z pr cs K (putE e d (.sl D' (l.drop i))) s):SlG P Z pr cs K e s d es (some y) none (.sl D' l):=fun x kp hx=>q_slc (g:=l.length) (j:=l.length) ⟨hx⟩ hlo ⟨rfl⟩ h0 h1 ⟨Int.le_refl _⟩ hj ⟨Int.toNat_natCast _⟩ he hd (by rw [List.take_length];exact hk)
theorem sl_S {l:List D'.T} (hlo:Lk (loP e lo=some a)) (hhi:Lk (hiP e l.length hi=some g)) (h0:Om (0≤a)) (h1:Om (a≤g)) (h2:Om (g≤l.length)) (hj:Vl (a.toNat=i)) (hg:Vl (g.toNat=j)) (he:Rf (Nat.beq D'.sz es=true)) (hd:Rf (Nat.blt 0 es=true)) (hk:pops P Z pr cs K (putE e d (.sl D' ((l.take j).drop i))) s):SlG P Z pr cs K e s d es lo hi (.sl D' l):=fun x kp hx=>q_slc ⟨hx⟩ hlo hhi h0 h1 h2 hj hg he hd hk
theorem sl_N (hlo:Lk (loP e lo=some a)) (hhi:Lk (hiP e 0 hi=some g)) (h0:Om (0=a)) (h1:Om (0=g)) (hk:pops P Z pr cs K (putE e d .nilS) s):SlG P Z pr cs K e s d es lo hi .nilS:=fun x kp hx=>q_slcN ⟨hx⟩ hlo hhi h0 h1 hk
theorem sl_O {l:List D'.T} (hb:Rf (s[b]? = some (.arr D' l))) (hn:Om (n=l.length)) (hlo:Lk (loP e lo=some a)) (hhi:Lk (hiP e l.length hi=some g)) (h0:Om (0≤a)) (h1:Om (a≤g)) (h2:Om (g≤l.length)) (hj:Vl (a.toNat=i)) (hg:Vl ((g - a).toNat=j)) (he:Rf (Nat.beq D'.sz es=true)) (hk:pops P Z pr cs K (putE e d (.osb b n i j)) s):SlG P Z pr cs K e s d es lo hi (.osl b n):=fun x kp hx=>q_slcO ⟨hx⟩ hb hn hlo hhi h0 h1 h2 hj hg he hk

def RtG (KK:PV→List OB→Prop) (s:List OB) (ps:List PV):Prop:=∀ rs e,prvs e s rs=some ps→retP rs (gcK KK) .ret e s
section
variable {rs:List RV} {KK:PV→List OB→Prop}
theorem g_rt {ps:List PV} (hl:Rs (prvs e s rs=some ps)) (hk:RtG KK s ps):retP rs (gcK KK) .ret e s:=hk rs e hl.o
def Rt1 (KK:PV→List OB→Prop) (s:List OB) (b n:Nat) (ob:OB):Prop:=s[b]? = some ob→RtG KK s [.osl b n]
theorem rt_o1 (hb:Rf (s[b]? = some ob)) (hk:Rt1 KK s b n ob):RtG KK s [.osl b n]:=hk hb.o
theorem rt_1a {l:List D'.T} (hk:KK (.osl 0 n) [.arr D' l]):Rt1 KK s b n (.arr D' l):=fun hb rs e hl=>r_osl1 ⟨hl⟩ ⟨hb⟩ hk
theorem rt_o2 {l:List D'.T} {q:PV} (hb:Rf (s[b]? = some (.arr D' l))) (hq:Rf (per2 q=true)) (hk:KK (.tup [.osl 0 n,q]) [.arr D' l]):RtG KK s [.osl b n,q]:=fun rs e hl=>r_osl2 ⟨hl⟩ hb hq hk
theorem rt_o3 {D2:D} {b2 n2:Nat} {l:List D'.T} {l2:List D2.T} {q:PV} (hb:Rf (s[b]? = some (.arr D' l))) (hb2:Rf (s[b2]? = some (.arr D2 l2))) (hne:Rf (Nat.beq b2 b=false)) (hq:Rf (per2 q=true)) (hk:KK (.tup [.osl 0 n,.osl 1 n2,q]) [.arr D' l,.arr D2 l2]):RtG KK s [.osl b n,.osl b2 n2,q]:=fun rs e hl=>r_osl3 ⟨hl⟩ hb hb2 hne hq hk
theorem rt_1 (hp:Rf (per3 p=true)) (hne:Rf (notTup p=true)) (hk:KK p []):RtG KK s [p]:=fun rs e hl=>r_per1 ⟨hl⟩ hp hne hk
theorem rt_n {q:PV} {l:List PV} (hp:Rf ((p::q::l).all per2=true)) (hk:KK (.tup (p::q::l)) []):RtG KK s (p::q::l):=fun rs e hl=>r_pern ⟨hl⟩ hp hk
end
def CaG (P:Program) (Z:Bs) (pr:List Operand) (cs:List CO) (K:Env→List OB→Prop) (e:Env) (s:List OB) (d:Option Nat) (kp:Bool) (f:FuncId) (ps:List PV):Prop:=∀ xs,xs.map (evE e)=ps→pops P Z pr (⟨d,none,kp,.e (.cal (.func f) xs)⟩::cs) K e s
theorem g_ca {f:FuncId} {xs:List Operand} {ps:List PV} (ha:Mp (xs.map (evE e)=ps)) (hk:CaG P Z pr cs K e s d kp f ps):pops P Z pr (⟨d,none,kp,.e (.cal (.func f) xs)⟩::cs) K e s:=hk xs ha.o
theorem ca_P {f:FuncId} {ps:List PV} (hper:Rf (ps.all per3=true)) (hk:PCalls P f ps [] (Aft P Z pr cs K e s d)):CaG P Z pr cs K e s d kp f ps:=fun xs ha=>q_call ⟨ha⟩ hper hk
theorem ca_F {f:FuncId} {ps:List PV} (hkp:Rf (kp=false)) (hk:PCalls P f ps s (fun p s'=>pops P Z pr cs K (putE e d p) s')):CaG P Z pr cs K e s d kp f ps:=fun xs ha=>q_callF (fx:=.func f) (pa:=[]) (pb:=[]) ⟨rfl⟩ ⟨ha⟩ ⟨by simp⟩ hkp hk

theorem gh_arr (b:Nat) (D':D) {l':List D'.T} (hb:Rf (s[b]? = some (.row es n c))) (he:Rf (Nat.beq D'.sz es=true)) (hd:Rf (decs D' n c=some l')) (h0:Rf (Nat.blt 0 es=true)) (hs:Pu (s.set b (.arr D' l')=s')):Gh Z e s e s':=by
  have he:=Nat.eq_of_beq_eq_true he.o
  subst he
  rw [← hs.o]
  exact Gh.arr D' hb.o hd.o (Nat.le_of_ble_eq_true h0.o)
theorem gh_virt (t:Nat) (D':D) (hx:Lk (evE e (.tmp t) = .nilS)) (hd:Rf (Nat.blt 0 D'.sz=true)) (hn:Pu (s.length=n)) (hs:Pu (s++[.arr D' []]=s')):Gh Z e s (putE e (some t) (.osl n 0)) s':=by
  rw [← hs.o,← hn.o]
  exact Gh.virt D' hx.o (Nat.le_of_ble_eq_true hd.o)
theorem gh_frz (t:Nat) {l:List D'.T} (hx:Lk (evE e (.tmp t) = .osl b n)) (hb:Rf (s[b]? = some (.arr D' l))) (hn:Om (n=l.length)) (hs:Pu (s.set b .dead=s')):Gh Z e s (putE e (some t) (.sl D' l)) s':=by
  rw [← hs.o]
  exact Gh.frz hx.o hb.o hn.o
theorem x_arr {a:AC} (b:Nat) (D':D) {l':List D'.T} (hb:Rf (s[b]? = some (.row es n c))) (he:Rf (Nat.beq D'.sz es=true)) (hd:Rf (decs D' n c=some l')) (h0:Rf (Nat.blt 0 es=true)) (hs:Pu (s.set b (.arr D' l')=s')) (hk:pwp P Z a Q e s'):pwp P Z a Q e s:=ghW (gh_arr b D' hb he hd h0 hs) hk
theorem x_virt {a:AC} (t:Nat) (D':D) (hx:Lk (evE e (.tmp t) = .nilS)) (hd:Rf (Nat.blt 0 D'.sz=true)) (hn:Pu (s.length=n)) (hs:Pu (s++[.arr D' []]=s')) (hk:pwp P Z a Q (putE e (some t) (.osl n 0)) s'):pwp P Z a Q e s:=ghW (gh_virt t D' hx hd hn hs) hk
theorem x_frz {a:AC} (t:Nat) {l:List D'.T} (hx:Lk (evE e (.tmp t) = .osl b n)) (hb:Rf (s[b]? = some (.arr D' l))) (hn:Om (n=l.length)) (hs:Pu (s.set b .dead=s')) (hk:pwp P Z a Q (putE e (some t) (.sl D' l)) s'):pwp P Z a Q e s:=ghW (gh_frz t hx hb hn hs) hk
theorem hz0 (hZ:Z.s=[]) {js:List Nat} (b:Nat) (hb:b < Z.s.length):js[b]? = some b:=by
  rw [hZ] at hb
  exact absurd hb (Nat.not_lt_zero b)

def kindOf:List PV→Option D
  | .int k _::_=>some (.int k)
  | .bool _::_=>some .bool
  | .str _::_=>some .str
  | _=>none

inductive Cv:List OB→List PV→List PV→List OB→Prop where
  | z {s:List OB}:Cv s [] [] s
  | p {s s1:List OB} {p:PV} {l l':List PV} (h:Rf (per3 p=true)) (k:Cv s l l' s1):Cv s (p::l) (p::l') s1
  | a {s s1 s2:List OB} {b n:Nat} {d:D} {x:List d.T} {l l':List PV} (hb:Rf (s[b]? = some (.arr d x))) (hn:Om (n=x.length)) (hs:Pu (s.set b .dead=s2)) (k:Cv s2 l l' s1):Cv s (.osl b n::l) (.sl d x::l') s1
  | r {s s1 s2:List OB} {b n es:Nat} {d:D} {c:List PV} {x:List d.T} {l l':List PV} (hb:Rf (s[b]? = some (.row es n c))) (hk:Rf (kindOf c=some d)) (he:Rf (Nat.beq d.sz es=true)) (h0:Rf (Nat.blt 0 es=true)) (hd:Rf (decs d n c=some x)) (hs:Pu (s.set b .dead=s2)) (k:Cv s2 l l' s1):Cv s (.osl b n::l) (.sl d x::l') s1
  | n {s s1:List OB} (d:D) {l l':List PV} (k:Cv s l l' s1):Cv s (.nilS::l) (.sl d []::l') s1
theorem Cv.ok {Z:Bs} {h:Hp} {s s1:List OB} {ps ps':List PV} (c:Cv s ps ps' s1):∀ {E:Nat→Bool} {i:Nat→Option Nat} {vs:List Value},SR Z h E i s→PRs ⟨Hp.mask h E,i,s⟩ ps vs →
    ∃ E' i',SR Z h E' i' s1∧Cx.le ⟨Hp.mask h E,i,s⟩ ⟨Hp.mask h E',i',s1⟩∧PRs ⟨Hp.mask h E',i',s1⟩ ps' vs∧ps'.all per3=true:=by
  induction c with
  | z =>
    intro E i vs S A
    exact ⟨E,i,S,.refl _,A,rfl⟩
  | p hp _ ih =>
    intro E i vs S A
    obtain ⟨v,t,rfl,h1,h2⟩:=A.uncons
    obtain ⟨E',i',S',le',A',p'⟩:=ih S h2
    exact ⟨E',i',S',le',.cons (h1.mono le') A',by rw [List.all_cons,hp.o,p'];rfl⟩
  | a hb hn hs _ ih =>
    intro E i vs S A
    obtain ⟨v,t,rfl,h1,h2⟩:=A.uncons
    obtain ⟨S1,le1⟩:=S.free hb.o rfl
    have h3:=frz_is S hb.o hn.o h1
    rw [hs.o] at S1 le1 h3
    obtain ⟨E',i',S',le',A',p'⟩:=ih S1 (h2.mono le1)
    exact ⟨E',i',S',le1.trans le',.cons (h3.mono le') A',by rw [List.all_cons,p'];rfl⟩
  | @r s s1 s2 b n es d c x l l' hb hk he h0 hd hs _ ih =>
    intro E i vs S A
    obtain ⟨v,t,rfl,h1,h2⟩:=A.uncons
    have he:=Nat.eq_of_beq_eq_true he.o
    subst he
    obtain ⟨k,cs,k1,k2,k3,k4,k5,k6⟩:=S.ob b _ hb.o
    obtain ⟨q1,q2⟩:=decs_is n _ _ _ hd.o k6
    obtain ⟨S1,le1⟩:=S.free hb.o rfl
    have h3:PR ⟨Hp.mask h (fun b'=>if i b=some b' then false else E b'),ups i b none,s.set b .dead⟩ (.sl d x) v:=by
      rcases h1.osl_inv _ _ ⟨_,hb.o,rfl⟩ with hh | ⟨-,c',hc,hv⟩
      · omega
      · have k1:i b=some k:=k1
        simp only [k1,slV] at hv
        have hul:=Chunks_len q1
        rw [hv]
        refine .sl d x _ ⟨some ⟨k,0,none⟩,c',cs,by rw [q2],by omega,?_,ChMono (Is_mono le1.m d) q1⟩
        show rowV (Hp.mask h (fun b'=>if i b=some b' then false else E b')) d.sz (.slice (some ⟨k,0,none⟩) x.length c')=some cs
        refine blk_row ?_ hul
        rw [mask_blk,k3]
        simp [k1]
    rw [hs.o] at S1 le1 h3
    obtain ⟨E',i',S',le',A',p'⟩:=ih S1 (h2.mono le1)
    exact ⟨E',i',S',le1.trans le',.cons (h3.mono le') A',by rw [List.all_cons,p'];rfl⟩
  | n d _ ih =>
    intro E i vs S A
    obtain ⟨v,t,rfl,h1,h2⟩:=A.uncons
    obtain ⟨E',i',S',le',A',p'⟩:=ih S h2
    refine ⟨E',i',S',le',.cons ?_ A',by rw [List.all_cons,p'];rfl⟩
    rw [h1.nilS_inv]
    exact .sl d [] _ (Is_nilS _ d)
theorem ca_V {f:FuncId} {ps ps':List PV} {s1:List OB} (hv:Cv s ps ps' s1) (hk:PCalls P f ps' [] (Aft P Z pr cs K e s1 d)):CaG P Z pr cs K e s d kp f ps:=fun xs ha fr h ⟨E,i,S,R⟩=>by
  obtain ⟨E1,i1,S1,le1,A1,hper⟩:=hv.ok S (R.map ha)
  have A:=perL (X:=⟨Hp.mask h E1,i1,s1⟩) (Y:=⟨Hp.mask h E1,i1,[]⟩) (fun p v q=>per3_PR q (.refl _)) hper A1
  have S0:SR ⟨h,E1,i1,[]⟩ h E1 i1 []:=⟨fun id o h=>by simp at h,fun _ _ _ _ _ h=>by simp at h,rfl,Nat.le_refl _,fun b k hb _=>⟨hb,rfl⟩,fun b ⟨id,o,ho,_⟩=>by simp at ho,.refl _⟩
  refine s_call ((hk h E1 i1 _ S0 A).mono fun v h' ⟨p,t,E',i',⟨k1,k2,k3⟩,T,hp⟩=>?_)
  obtain ⟨S',hkp⟩:=S1.frame T k2
  exact ⟨fun _=>hkp,k3 _ _ ⟨E',_,S1.after S',((R.mono le1).mono S'.le).put (shP_PR k1 hp)⟩⟩

end
end Go.Proofs.Ytcffpnlochillaa.Pv
namespace Go.Proofs.Ytcffpnlochillaa.Pv
open Go.RowKit Go.Proofs.Ytcffpnlochillaa.Ab Go.Proofs.Ytcffpnlochillaa.AbP
def bkA (js:List Nat):PV→PV
  | .ptr b o=>.ptr (js.getD b 0) o
  | .osl b n=>.osl (js.getD b 0) n
  | .osb b n lo m=>.osb (js.getD b 0) n lo m
  | .oel b n i o=>.oel (js.getD b 0) n i o
  | .int k n=>.int k n
  | .bool b=>.bool b
  | .str t=>.str t
  | .nilI=>.nilI
  | .nilF=>.nilF
  | .nilP=>.nilP
  | .nilS=>.nilS
  | .sl d l=>.sl d l
  | .elt d l i o=>.elt d l i o
  | _=>.und
def bkB (js:List Nat):PV→PV
  | .agg l=>.agg (l.map (bkA js))
  | .tup l=>.tup (l.map (bkA js))
  | .fn g a b=>.fn g (a.map (bkA js)) (b.map (bkA js))
  | .ifc t (.ref l o)=>.ifc t (.ref (l.map (bkA js)) o)
  | .ifc t p=>.ifc t (bkA js p)
  | .ref l o=>.ref (l.map (bkA js)) o
  | p=>bkA js p
def bkO (js:List Nat):OB→OB
  | .var l=>.var (l.map (bkB js))
  | .row es n l=>.row es n (l.map (bkB js))
  | o=>o
theorem bkO_sig (js:List Nat) (o:OB):(bkO js o).sig=o.sig∧(bkO js o).isV=o.isV∧(bkO js o).live=o.live:=by cases o <;> exact ⟨rfl,rfl,rfl⟩
def updS (js0:List Nat):List Nat→List OB→List OB→List OB
  | b::js,o::t,s=>updS js0 js t (s.set b (bkO js0 o))
  | _,_,s=>s
theorem updS_len {js0:List Nat}:∀ (js:List Nat) (t s:List OB),(updS js0 js t s).length=s.length
  | [],t,s=>by cases t <;> rfl
  | b::js,[],s=>rfl
  | b :: js, o :: t, s => by
    show (updS js0 js t (s.set b (bkO js0 o))).length=_
    rw [updS_len js t]
    simp
theorem updS_ne {js0:List Nat} {b:Nat}:∀ (js:List Nat) (t s:List OB),b ∉ js→(updS js0 js t s)[b]? = s[b]?
  | [],t,s,h=>by cases t <;> rfl
  | c::js,[],s,h=>rfl
  | c :: js, o :: t, s, h => by
    rw [List.mem_cons,not_or] at h
    show (updS js0 js t (s.set c (bkO js0 o)))[b]? = _
    rw [updS_ne js t _ h.2,List.getElem?_set,if_neg (fun e=>h.1 e.symm)]
theorem updS_at {js0:List Nat} {b:Nat}:∀ (js:List Nat) (t s:List OB) (j:Nat) (o:OB),js.Nodup→js[j]? = some b→t[j]? = some o→b < s.length→(updS js0 js t s)[b]? = some (bkO js0 o)
  | [],t,s,j,o,hn,hj,ht,hb=>by simp at hj
  | c::js,[],s,j,o,hn,hj,ht,hb=>by simp at ht
  | c :: js, p :: t, s, j, o, hn, hj, ht, hb => by
    rw [List.nodup_cons] at hn
    show (updS js0 js t (s.set c (bkO js0 p)))[b]? = _
    cases j with
    | zero =>
      simp at hj ht
      subst hj ht
      rw [updS_ne js t _ hn.1,List.getElem?_set,if_pos rfl,if_pos hb]
    | succ j=>exact updS_at js t _ j o hn.2 (by simpa using hj) (by simpa using ht) (by simpa using hb)
theorem mem_at {js:List Nat} {b:Nat} (h:b ∈ js):∃ j:Nat,js[j]? = some b:=List.getElem?_of_mem h
section
variable {m:Hp} {i i':Nat→Option Nat} {js:List Nat} {s t:List OB}
def bki (js:List Nat) (i i':Nat→Option Nat) (b:Nat):Option Nat:=match idx js 0 b with
  | some j=>i' j
  | none=>i b
theorem idx_of:∀ {js:List Nat} {k j b:Nat},js.Nodup→js[j]? = some b→idx js k b=some (k+j)
  | [],k,j,b,hn,hj=>by simp at hj
  | a :: js, k, j, b, hn, hj => by
    rw [List.nodup_cons] at hn
    unfold idx
    cases j with
    | zero=>simp at hj;subst hj;rw [if_pos rfl];rfl
    | succ j =>
      have hj':js[j]? = some b:=by simpa using hj
      have hne:a≠b:=fun e=>by subst e;exact hn.1 (List.mem_of_getElem? hj')
      rw [if_neg hne,idx_of hn.2 hj']
      congr 1
      omega
theorem idx_none:∀ {js:List Nat} {k b:Nat},b ∉ js→idx js k b=none
  | [],k,b,h=>rfl
  | a :: js, k, b, h => by
    rw [List.mem_cons,not_or] at h
    unfold idx
    rw [if_neg (fun e=>h.1 e.symm),idx_none h.2]
theorem bki_at (hn:js.Nodup) {j b:Nat} (hj:js[j]? = some b):bki js i i' b=i' j:=by
  unfold bki
  rw [idx_of (k:=0) hn hj,Nat.zero_add]
theorem bki_ne {b:Nat} (h:b ∉ js):bki js i i' b=i b:=by
  unfold bki
  rw [idx_none h]
theorem bk_lt (hl:t.length=js.length) (hs:∀ b ∈ js,b < s.length) {j:Nat} (hj:j < t.length):∃ b,js[j]? = some b∧js.getD j 0=b∧b < s.length:=by
  have h1:js[j]? = some js[j]:=by simp [show j < js.length by omega]
  exact ⟨js[j],h1,by rw [List.getD_eq_getElem?_getD,h1];rfl,hs _ (List.getElem_mem _)⟩
theorem bk_v (hn:js.Nodup) (hl:t.length=js.length) (hs:∀ b ∈ js,b < s.length) {j b:Nat} (hj:js[j]? = some b) (h:lvV ⟨m,bki js i i',updS js js t s⟩ b):lvV ⟨m,i',t⟩ j:=by
  obtain ⟨o,ho,hv⟩:=h
  have hj':j < t.length:=by rw [hl];exact (List.getElem?_eq_some_iff.1 hj).1
  have ht:t[j]? = some t[j]:=by simp [hj']
  have ho:(updS js js t s)[b]? = some o:=ho
  rw [updS_at js t s j _ hn hj ht (hs b (List.mem_of_getElem? hj))] at ho
  obtain rfl:=Option.some.inj ho
  rw [(bkO_sig js _).2.1] at hv
  exact ⟨_,ht,hv⟩
theorem bk_s (hn:js.Nodup) (hl:t.length=js.length) (hs:∀ b ∈ js,b < s.length) {j b es n:Nat} (hj:js[j]? = some b) (h:lvS ⟨m,bki js i i',updS js js t s⟩ b es n):lvS ⟨m,i',t⟩ j es n:=by
  obtain ⟨o,ho,hv⟩:=h
  have hj':j < t.length:=by rw [hl];exact (List.getElem?_eq_some_iff.1 hj).1
  have ht:t[j]? = some t[j]:=by simp [hj']
  have ho:(updS js js t s)[b]? = some o:=ho
  rw [updS_at js t s j _ hn hj ht (hs b (List.mem_of_getElem? hj))] at ho
  obtain rfl:=Option.some.inj ho
  rw [(bkO_sig js _).1] at hv
  exact ⟨_,ht,hv⟩
theorem bkA_PR (hn:js.Nodup) (hl:t.length=js.length) (hs:∀ b ∈ js,b < s.length) {p:PV} {v:Value} (hp:PR ⟨m,i',t⟩ p v):PR ⟨m,bki js i i',updS js js t s⟩ (bkA js p) v:=by
  have ll:∀ {b:Nat},b < s.length→b < (updS js js t s).length:=fun h=>by rw [updS_len];exact h
  cases p with
  | ptr b o =>
    have hb:b < t.length:=by cases hp with | ptr _ _ _ hv hb k=>exact hb
    obtain ⟨c,h1,h2,h3⟩:=bk_lt hl hs hb
    show PR _ (.ptr (js.getD b 0) o) v
    rw [h2]
    refine .ptr c o v hp.ptr_form (ll h3) (fun hlv=>?_)
    show ∃ k,bki js i i' c=some k∧_
    rw [bki_at hn h1]
    exact hp.ptr_inv (bk_v hn hl hs h1 hlv)
  | osl b n =>
    have hb:b < t.length:=by cases hp with | osl _ _ _ hv hb k=>exact hb
    obtain ⟨c,h1,h2,h3⟩:=bk_lt hl hs hb
    show PR _ (.osl (js.getD b 0) n) v
    rw [h2]
    refine .osl c n v hp.osl_form (ll h3) (fun es n' hlv=>?_)
    show _∨(_∧∃ c',_∧v=slV (bki js i i' c) n c')
    rw [bki_at hn h1]
    exact hp.osl_inv es n' (bk_s hn hl hs h1 hlv)
  | osb b n lo m' =>
    have hb:b < t.length:=by cases hp with | osb _ _ _ _ _ hv hb k=>exact hb
    obtain ⟨c,h1,h2,h3⟩:=bk_lt hl hs hb
    show PR _ (.osb (js.getD b 0) n lo m') v
    rw [h2]
    refine .osb c n lo m' v hp.osb_form (ll h3) (fun es n' hlv=>?_)
    show _∨(_∧_∧∃ A c',_∧_∧(_∨∃ k,bki js i i' c=some k∧_))
    rw [bki_at hn h1]
    exact hp.osb_inv es n' (bk_s hn hl hs h1 hlv)
  | oel b n k o =>
    have hb:b < t.length:=by cases hp with | oel _ _ _ _ _ hv hb k=>exact hb
    obtain ⟨c,h1,h2,h3⟩:=bk_lt hl hs hb
    show PR _ (.oel (js.getD b 0) n k o) v
    rw [h2]
    refine .oel c n k o v hp.oel_form (ll h3) (fun es n' hlv=>?_)
    show _∨(_∧_∧∃ k',bki js i i' c=some k'∧_)
    rw [bki_at hn h1]
    exact hp.oel_inv es n' (bk_s hn hl hs h1 hlv)
  | int k n=>rw [hp.int_inv];exact .int k n
  | bool b=>rw [hp.bool_inv];exact .bool b
  | str t=>rw [hp.str_inv];exact .str t
  | nilI=>rw [hp.nilI_inv];exact .nilI
  | nilF=>rw [hp.nilF_inv];exact .nilF
  | nilP=>rw [hp.nilP_inv];exact .nilP
  | nilS=>rw [hp.nilS_inv];exact .nilS
  | sl d l=>exact .sl d l v hp.sl_inv
  | elt d l k o =>
    obtain ⟨a,n,c,rw,rfl,h1,h2,h3,h4⟩:=hp.elt_inv
    exact .elt d l k o a n c rw h1 h2 h3 h4
  | _=>exact .und v
theorem bkAs_PR (hn:js.Nodup) (hl:t.length=js.length) (hs:∀ b ∈ js,b < s.length) {l:List PV} {us:List Value} (h:PRs ⟨m,i',t⟩ l us):PRs ⟨m,bki js i i',updS js js t s⟩ (l.map (bkA js)) us :=
  ⟨by simp [h.1],fun j p v hp hv=>by
    rw [List.getElem?_map] at hp
    obtain ⟨q,hq,rfl⟩:=Option.map_eq_some_iff.1 hp
    exact bkA_PR hn hl hs (h.2 j q v hq hv)⟩
theorem bkB_PR (hn:js.Nodup) (hl:t.length=js.length) (hs:∀ b ∈ js,b < s.length) {p:PV} {v:Value} (hp:PR ⟨m,i',t⟩ p v):PR ⟨m,bki js i i',updS js js t s⟩ (bkB js p) v:=by
  have rf:∀ {l:List PV} {o:Nat} {v:Value},PR ⟨m,i',t⟩ (.ref l o) v→PR ⟨m,bki js i i',updS js js t s⟩ (.ref (l.map (bkA js)) o) v:=fun h=>by
    obtain ⟨a,cs,rfl,h1,h2,h3⟩:=h.ref_inv
    have h4:=bkAs_PR (i:=i) (s:=s) hn hl hs h3
    exact .ref _ _ a cs h1 h4.1 (by rw [List.length_map];exact h2) h4.2
  unfold bkB
  split
  · obtain ⟨a,rfl,h⟩:=hp.agg_inv
    have:=bkAs_PR (i:=i) (s:=s) hn hl hs h
    exact .agg _ _ this.1 this.2
  · obtain ⟨a,rfl,h⟩:=hp.tup_inv
    have:=bkAs_PR (i:=i) (s:=s) hn hl hs h
    exact .tup _ _ this.1 this.2
  · obtain ⟨a,b,rfl,h1,h2⟩:=hp.fn_inv
    have k1:=bkAs_PR (i:=i) (s:=s) hn hl hs h1
    have k2:=bkAs_PR (i:=i) (s:=s) hn hl hs h2
    exact .fn _ _ _ _ _ k1.1 k2.1 k1.2 k2.2
  · obtain ⟨u,rfl,h⟩:=hp.ifc_inv
    exact .ifc _ _ _ (rf h)
  · obtain ⟨u,rfl,h⟩:=hp.ifc_inv
    exact .ifc _ _ _ (bkA_PR hn hl hs h)
  · exact rf hp
  · exact bkA_PR hn hl hs hp
theorem bkBs_PR (hn:js.Nodup) (hl:t.length=js.length) (hs:∀ b ∈ js,b < s.length) {l:List PV} {us:List Value} (h:PRs ⟨m,i',t⟩ l us):PRs ⟨m,bki js i i',updS js js t s⟩ (l.map (bkB js)) us :=
  ⟨by simp [h.1],fun j p v hp hv=>by
    rw [List.getElem?_map] at hp
    obtain ⟨q,hq,rfl⟩:=Option.map_eq_some_iff.1 hp
    exact bkB_PR hn hl hs (h.2 j q v hq hv)⟩
end
theorem SR.back {Z:Bs} {h h':Hp} {E E':Nat→Bool} {i i':Nat→Option Nat} {s t:List OB} {js:List Nat} (S:SR Z h E i s) (hn:js.Nodup) (hs:∀ b ∈ js,b < s.length) (hl:t.length=js.length) (T:SR ⟨h,E,fun j=>(js[j]?).bind i,selS js s⟩ h' E' i' t) :
    SR Z h' E' (bki js i i') (updS js js t s)∧Cx.le ⟨Hp.mask h E,i,s⟩ ⟨Hp.mask h' E',bki js i i',updS js js t s⟩:=by
  have own0:∀ k,own (fun j=>(js[j]?).bind i) (selS js s) k→∃ b ∈ js,∃ o,s[b]? = some o∧o.live=true∧i b=some k:=fun k ⟨j,o,ho,hlv,hi⟩=>by
    have hj:j < js.length:=by have:=(List.getElem?_eq_some_iff.1 ho).1;unfold selS at this;rwa [List.length_map] at this
    have h1:js[j]? = some js[j]:=by simp [hj]
    rw [selS_at h1] at ho
    obtain rfl:=Option.some.inj ho
    rw [(renO_sig js _).2.2,List.getD_eq_getElem?_getD] at hlv
    have hi:(js[j]?).bind i=some k:=hi
    rw [h1] at hi
    cases hsb:s[js[j]]? with
    | none=>rw [hsb] at hlv;simp [OB.live] at hlv
    | some o'=>rw [hsb] at hlv;exact ⟨js[j],List.getElem_mem _,o',hsb,hlv,hi⟩
  have hle:Cx.le ⟨Hp.mask h E,i,s⟩ ⟨Hp.mask h' E',bki js i i',updS js js t s⟩:=by
    refine ⟨T.le.m,by rw [updS_len];exact Nat.le_refl _,fun b hb hv=>?_,fun b es n hb hv=>?_⟩
    · by_cases hm:b ∈ js
      · obtain ⟨j,hj⟩:=mem_at hm
        have h1:=bk_v hn hl hs hj hv
        have hj':j < js.length:=(List.getElem?_eq_some_iff.1 hj).1
        obtain ⟨q1,q2⟩:=T.le.v j (by show j < (selS js s).length;unfold selS;rw [List.length_map];exact hj') h1
        refine ⟨sel_v hj q1,?_⟩
        show bki js i i' b=i b
        rw [bki_at hn hj]
        have q2:i' j=(js[j]?).bind i:=q2
        rw [q2,hj]
        rfl
      · obtain ⟨o,ho,hq⟩:=hv
        have ho:(updS js js t s)[b]? = some o:=ho
        rw [updS_ne js t s hm] at ho
        exact ⟨⟨o,ho,hq⟩,bki_ne hm⟩
    · by_cases hm:b ∈ js
      · obtain ⟨j,hj⟩:=mem_at hm
        have h1:=bk_s hn hl hs hj hv
        have hj':j < js.length:=(List.getElem?_eq_some_iff.1 hj).1
        obtain ⟨n0,q0,q1,q2⟩:=T.le.s j es n (by show j < (selS js s).length;unfold selS;rw [List.length_map];exact hj') h1
        refine ⟨n0,q0,sel_s hj q1,fun e=>?_⟩
        show bki js i i' b=i b
        rw [bki_at hn hj]
        have q2:i' j=(js[j]?).bind i:=q2 e
        rw [q2,hj]
        rfl
      · obtain ⟨o,ho,hq⟩:=hv
        have ho:(updS js js t s)[b]? = some o:=ho
        rw [updS_ne js t s hm] at ho
        exact ⟨n,Nat.le_refl _,⟨o,ho,hq⟩,fun _=>bki_ne hm⟩
  have tat:∀ {b:Nat} {o:OB},b ∈ js→(updS js js t s)[b]? = some o→∃ (j:Nat) (o':OB),js[j]? = some b∧t[j]? = some o'∧o=bkO js o':=fun hm ho=>by
    obtain ⟨j,hj⟩:=mem_at hm
    have hj':j < t.length:=by rw [hl];exact (List.getElem?_eq_some_iff.1 hj).1
    have ht:t[j]? = some t[j]:=by simp [hj']
    rw [updS_at js t s j _ hn hj ht (hs _ hm)] at ho
    exact ⟨j,_,hj,ht,(Option.some.inj ho).symm⟩
  have lo:∀ j p b,s[j]? = some p→p.live=true→i j=some b→b < h.next:=fun j p b hp hl hb=>by
    obtain ⟨k,hk,-⟩:=((S.ob j p hp).at hl hb).2
    exact (Hp.blk_lt hk).2
  
  have rest:∀ b o k,b ∉ js→s[b]? = some o→o.live=true→i b=some k→¬ own (fun j=>(js[j]?).bind i) (selS js s) k:=fun b o k hm ho hlv hi hown=>by
    obtain ⟨c,hc,o',h1,h2,h3⟩:=own0 k hown
    have:=S.inj b c k o o' ho h1 hlv h2 hi h3
    subst this
    exact hm hc
  have fr:∀ j o k,t[j]? = some o→o.live=true→i' j=some k→(∃ b ∈ js,∃ o,s[b]? = some o∧o.live=true∧i b=some k)∨h.next≤k:=fun j o k ho hlv hi=>(T.fresh k ⟨j,o,ho,hlv,hi⟩).imp (own0 k) (fun q=>q)
  refine ⟨⟨fun b o ho=>?_,fun b b' k o o' ho ho' hlv hlv' hi hi'=>?_,T.old.trans S.old,Nat.le_trans S.next T.next,fun b k hb hB=>?_,fun k ⟨b,o,ho,hlv,hi⟩=>?_,S.le.trans hle⟩,hle⟩
  · by_cases hm:b ∈ js
    · obtain ⟨j,o',hj,ht,rfl⟩:=tat hm ho
      have hob:=T.ob j o' ht
      have hb:bki js i i' b=i' j:=bki_at hn hj
      cases o' with
      | dead=>trivial
      | var l =>
        obtain ⟨k,cs,k1,k2,k3,k4,k5⟩:=hob
        exact ⟨k,cs,hb.trans k1,k2,k3,k4,bkBs_PR hn hl hs k5⟩
      | row es n l =>
        obtain ⟨k,cs,k1,k2,k3,k4,k5,k6⟩:=hob
        exact ⟨k,cs,hb.trans k1,k2,k3,k4,by rw [List.length_map];exact k5,bkBs_PR hn hl hs k6⟩
      | arr d l =>
        obtain ⟨hd,k1 | ⟨k,us,k1,k2,k3,k4⟩⟩:=hob
        · exact ⟨hd,.inl ⟨hb.trans k1.1,k1.2⟩⟩
        · exact ⟨hd,.inr ⟨k,us,hb.trans k1,k2,k3,k4⟩⟩
    · rw [updS_ne js t s hm] at ho
      by_cases hlv:o.live=true
      · refine (S.ob b o ho).mono hle (bki_ne hm) (fun k B hk hB=>?_)
        exact T.keep k B hB (rest b o k hm ho hlv hk)
      · cases o with
        | dead=>trivial
        | _=>simp [OB.live] at hlv
  · by_cases hm:b ∈ js <;> by_cases hm':b' ∈ js
    · obtain ⟨j,p,hj,ht,rfl⟩:=tat hm ho
      obtain ⟨j',p',hj',ht',rfl⟩:=tat hm' ho'
      rw [(bkO_sig js _).2.2] at hlv hlv'
      have hi:i' j=some k:=by rw [← bki_at (i:=i) (i':=i') hn hj];exact hi
      have hi':i' j'=some k:=by rw [← bki_at (i:=i) (i':=i') hn hj'];exact hi'
      have e:=T.inj j j' k p p' ht ht' hlv hlv' hi hi'
      subst e
      rw [hj] at hj'
      exact Option.some.inj hj'
    · obtain ⟨j,p,hj,ht,rfl⟩:=tat hm ho
      rw [(bkO_sig js _).2.2] at hlv
      rw [updS_ne js t s hm'] at ho'
      have hi:i' j=some k:=by rw [← bki_at (i:=i) (i':=i') hn hj];exact hi
      have hi':i b'=some k:=by rw [← bki_ne (i:=i) (i':=i') hm'];exact hi'
      rcases fr j p k ht hlv hi with ⟨c,hc,q,q1,q2,q3⟩ | q
      · have:=S.inj b' c k o' q ho' q1 hlv' q2 hi' q3
        subst this
        exact absurd hc hm'
      · have:=lo b' o' k ho' hlv' hi'
        omega
    · obtain ⟨j',p',hj',ht',rfl⟩:=tat hm' ho'
      rw [(bkO_sig js _).2.2] at hlv'
      rw [updS_ne js t s hm] at ho
      have hi':i' j'=some k:=by rw [← bki_at (i:=i) (i':=i') hn hj'];exact hi'
      have hi:i b=some k:=by rw [← bki_ne (i:=i) (i':=i') hm];exact hi
      rcases fr j' p' k ht' hlv' hi' with ⟨c,hc,q,q1,q2,q3⟩ | q
      · have:=S.inj b c k o q ho q1 hlv q2 hi q3
        subst this
        exact absurd hc hm
      · have:=lo b o k ho hlv hi
        omega
    · rw [updS_ne js t s hm] at ho
      rw [updS_ne js t s hm'] at ho'
      exact S.inj b b' k o o' ho ho' hlv hlv' (by rw [← bki_ne (i:=i) (i':=i') hm];exact hi) (by rw [← bki_ne (i:=i) (i':=i') hm'];exact hi')
  · obtain ⟨q1,q2⟩:=S.keep b k hb hB
    obtain ⟨r1,r2⟩:=T.keep b k q1 (fun hown=>by
      obtain ⟨c,hc,o,h1,h2,h3⟩:=own0 b hown
      rcases S.fresh b ⟨c,o,h1,h2,h3⟩ with q | q
      · exact hB q
      · have:=(Hp.blk_lt hb).2;omega)
    exact ⟨r1,r2.trans q2⟩
  · by_cases hm:b ∈ js
    · obtain ⟨j,p,hj,ht,rfl⟩:=tat hm ho
      rw [(bkO_sig js _).2.2] at hlv
      have hi:i' j=some k:=by rw [← bki_at (i:=i) (i':=i') hn hj];exact hi
      rcases fr j p k ht hlv hi with ⟨c,hc,q,q1,q2,q3⟩ | q
      · exact S.fresh k ⟨c,q,q1,q2,q3⟩
      · exact .inr (Nat.le_trans S.next q)
    · rw [updS_ne js t s hm] at ho
      exact S.fresh k ⟨b,o,ho,hlv,by rw [← bki_ne (i:=i) (i':=i') hm];exact hi⟩

theorem told_callS {P:Program} {g N:Nat} {ac:AC} {rs:List RV} (t:IsTold P g N ac rs) {args:List PV} {s:List OB} {K:PV→List OB→Prop} (hk:∀ Z:Bs,Z.s=s→pwp P Z ac (retP rs fun p t=>per3 p=true∧K p (selS (List.range s.length) t)) (initE args) s) (ha:args.length≤N:=by first | decide | simp):PCalls P g args s K:=by
  intro h E i vs S A
  refine (told_call t hk ha h E i vs S A).mono fun v h' ⟨p,s',E',i',⟨hper,hK⟩,S',hp⟩=>?_
  refine ⟨p,_,E',_,hK,S'.sel (List.range s.length) List.nodup_range (fun b hb=>List.getElem?_range hb),?_⟩
  exact per3_PR (X:=⟨Hp.mask h' E',i',s'⟩) hper (.refl _) hp
section
variable {P:Program} {Z:Bs} {K:Env→List OB→Prop} {Q:QP} {e:Env} {s s':List OB} {cs:List CO} {pr:List Operand} {d:Option Nat} {kp:Bool} {p p':PV}
def AftS (P:Program) (Z:Bs) (pr:List Operand) (cs:List CO) (K:Env→List OB→Prop) (e:Env) (s:List OB) (d:Option Nat) (js:List Nat) (p:PV) (t:List OB):Prop:=t.length=js.length∧pops P Z pr cs K (putE e d (bkB js p)) (updS js js t s)
theorem afS_i {js:List Nat} {t:List OB} (h1:Rf (Nat.beq t.length js.length=true)) (hn:Pu (bkB js p=p')) (hs:Pu (updS js js t s=s')) (hk:pops P Z pr cs K (putE e d p') s'):AftS P Z pr cs K e s d js p t:=⟨Nat.eq_of_beq_eq_true h1.o,by rw [hn.o,hs.o];exact hk⟩
def goodJ (n:Nat):List Nat→Bool
  | []=>true
  | b::js=>Nat.blt b n && !(js.contains b) && goodJ n js
theorem goodJ_ok {n:Nat}:∀ {js:List Nat},goodJ n js=true→js.Nodup∧∀ b ∈ js,b < n
  | [],_=>⟨List.nodup_nil,fun b hb=>by cases hb⟩
  | a :: js, h => by
    unfold goodJ at h
    rw [Bool.and_eq_true,Bool.and_eq_true] at h
    obtain ⟨h1,h2⟩:=goodJ_ok h.2
    have ha:a ∉ js:=by simpa using h.1.2
    refine ⟨List.nodup_cons.2 ⟨ha,h1⟩,fun b hb=>?_⟩
    rcases List.mem_cons.1 hb with rfl | hb
    · exact Nat.le_of_ble_eq_true h.1.1
    · exact h2 b hb
theorem call_S {f:FuncId} {ps:List PV} (js:List Nat) (hj:goodJ s.length js=true) (hk:PCalls P f (ps.map (renB js)) (selS js s) (AftS P Z pr cs K e s d js)) {h:Hp} {fr:Fr} {E:Nat→Bool} {i:Nat→Option Nat} (S:SR Z h E i s) (R:ER ⟨Hp.mask h E,i,s⟩ e fr) {vs:List Value} (A:PRs ⟨Hp.mask h E,i,s⟩ ps vs) :
    ACalls P f vs h fun v h'=>aops P pr cs (Lf Z K) (putF fr d v) h':=by
  obtain ⟨hn,hs⟩:=goodJ_ok hj
  have S00:SR ⟨⟨h.old,[]⟩,E,i,[]⟩ h E i s:=by
    have nb:∀ b,(Hp.mk h.old []).blk? b=none:=fun b=>by unfold Hp.blk?;split <;> simp
    refine ⟨S.ob,S.inj,rfl,by simp [Hp.next],fun b k hb _=>?_,fun b ⟨id,o,ho,hl,hi⟩=>.inr ?_,⟨⟨rfl,fun ad v hv=>?_⟩,Nat.zero_le _,fun b hb=>absurd hb (Nat.not_lt_zero b),fun b es n hb=>absurd hb (Nat.not_lt_zero b)⟩⟩
    · have hb:(Hp.mk h.old []).blk? b=some k:=hb
      rw [nb] at hb
      simp at hb
    · obtain ⟨k,hk,-⟩:=((S.ob id o ho).at hl hi).2
      have:=(Hp.blk_lt hk).1
      simpa [Hp.next] using this
    · have hv:(Hp.mask ⟨h.old,[]⟩ E).cell? ad=some v:=hv
      obtain ⟨h1,-⟩:=mask_cell.1 hv
      unfold Hp.cell? at h1
      split at h1
      · rename_i hlt
        refine mask_cell.2 ⟨?_,.inl hlt⟩
        unfold Hp.cell?
        rw [if_pos hlt]
        exact h1
      · split at h1
        · simp at h1
        · rw [nb] at h1
          simp at h1
  have S0:SR ⟨h,E,fun j=>(js[j]?).bind i,selS js s⟩ h E (fun j=>(js[j]?).bind i) (selS js s):=(S00.sel js hn (fun b (hb:b < ([]:List OB).length)=>absurd hb (Nat.not_lt_zero b))).base
  have A0:PRs ⟨Hp.mask h E,fun j=>(js[j]?).bind i,selS js s⟩ (ps.map (renB js)) vs:=renBs_PR A
  refine (hk h E _ vs S0 A0).mono fun v h' ⟨p,t,E',i',⟨k1,k2⟩,T,hp⟩=>?_
  obtain ⟨S',le'⟩:=S.back hn hs k1 T
  exact k2 _ _ ⟨E',_,S',(R.mono le').put (bkB_PR hn k1 hs hp)⟩

theorem q_callS {fx:Operand} {g:FuncId} {xs:List Operand} {ps pa pb l:List PV} (js:List Nat) (hf:Lk (evE e fx = .fn g pa pb)) (ha:Mp (xs.map (evE e)=ps)) (hl:Pu (pa++ps++pb=l)) (hj:Rf (goodJ s.length js=true)) {l':List PV} {s0:List OB} (hr:Pu (l.map (renB js)=l')) (hs:Pu (selS js s=s0)) (hkp:Rf (kp=false)) (hk:PCalls P g l' s0 (AftS P Z pr cs K e s d js)):pops P Z pr (⟨d,none,kp,.e (.cal fx xs)⟩::cs) K e s:=fun f h ⟨E,i,S,R⟩=>by
  obtain ⟨a',b',h1,h2,h3⟩:=(R.at hf.o).fn_inv
  have A:=(h2.append (R.map ha.o)).append h3
  rw [hl.o] at A
  rw [← hr.o,← hs.o] at hk
  refine s_cal h1 ((call_S js hj.o hk S R A).mono fun v h' hc=>⟨fun hh=>(by rw [hkp.o] at hh;cases hh),hc⟩)
theorem ca_S {f:FuncId} {ps:List PV} (js:List Nat) (hj:Rf (goodJ s.length js=true)) {l':List PV} {s0:List OB} (hr:Pu (ps.map (renB js)=l')) (hs:Pu (selS js s=s0)) (hkp:Rf (kp=false)) (hk:PCalls P f l' s0 (AftS P Z pr cs K e s d js)):CaG P Z pr cs K e s d kp f ps:=fun xs ha fr h ⟨E,i,S,R⟩=>by
  have A:=R.map ha
  rw [← hr.o,← hs.o] at hk
  refine s_call ((call_S js hj.o hk S R A).mono fun v h' hc=>⟨fun hh=>(by rw [hkp.o] at hh;cases hh),hc⟩)

def CfG (P:Program) (Z:Bs) (pr:List Operand) (cs:List CO) (K:Env→List OB→Prop) (e:Env) (s:List OB) (d:Option Nat) (kp:Bool) (g:FuncId) (l:List PV):Prop:=∀ fx xs pa ps pb,evE e fx = .fn g pa pb→xs.map (evE e)=ps→pa++ps++pb=l→pops P Z pr (⟨d,none,kp,.e (.cal fx xs)⟩::cs) K e s
theorem g_cf {fx:Operand} {g:FuncId} {xs:List Operand} {ps pa pb l:List PV} (hf:Lk (evE e fx = .fn g pa pb)) (ha:Mp (xs.map (evE e)=ps)) (hl:Pu (pa++ps++pb=l)) (hk:CfG P Z pr cs K e s d kp g l):pops P Z pr (⟨d,none,kp,.e (.cal fx xs)⟩::cs) K e s:=hk fx xs pa ps pb hf.o ha.o hl.o
theorem cf_S {g:FuncId} {l:List PV} (js:List Nat) (hj:Rf (goodJ s.length js=true)) {l':List PV} {s0:List OB} (hr:Pu (l.map (renB js)=l')) (hs:Pu (selS js s=s0)) (hkp:Rf (kp=false)) (hk:PCalls P g l' s0 (AftS P Z pr cs K e s d js)):CfG P Z pr cs K e s d kp g l:=fun fx xs pa ps pb hf ha hl=>q_callS js ⟨hf⟩ ⟨ha⟩ ⟨hl⟩ hj hr hs hkp hk
theorem cf_F {g:FuncId} {l:List PV} (hkp:Rf (kp=false)) (hk:PCalls P g l s (fun p s'=>pops P Z pr cs K (putE e d p) s')):CfG P Z pr cs K e s d kp g l:=fun fx xs pa ps pb hf ha hl=>q_callF ⟨hf⟩ ⟨ha⟩ ⟨hl⟩ hkp hk
theorem cf_P {g:FuncId} {l:List PV} (hper:Rf (l.all per3=true)) (hk:PCalls P g l [] (Aft P Z pr cs K e s d)):CfG P Z pr cs K e s d kp g l:=fun fx xs pa ps pb hf ha hl f h ⟨E,i,S,R⟩=>by
  obtain ⟨a',b',h1,h2,h3⟩:=(R.at hf).fn_inv
  have A0:=(h2.append (R.map ha)).append h3
  rw [hl] at A0
  have A:=perL (X:=⟨Hp.mask h E,i,s⟩) (Y:=⟨Hp.mask h E,i,[]⟩) (fun p v q=>per3_PR q (.refl _)) hper.o A0
  have S0:SR ⟨h,E,i,[]⟩ h E i []:=⟨fun id o h=>by simp at h,fun _ _ _ _ _ h=>by simp at h,rfl,Nat.le_refl _,fun b k hb _=>⟨hb,rfl⟩,fun b ⟨id,o,ho,_⟩=>by simp at ho,.refl _⟩
  refine s_cal h1 ((hk h E i _ S0 A).mono fun v h' ⟨p,t,E',i',⟨k1,k2,k3⟩,T,hp⟩=>?_)
  obtain ⟨S',hkp⟩:=S.frame T k2
  exact ⟨fun _=>hkp,k3 _ _ ⟨E',_,S.after S',(R.mono S'.le).put (shP_PR k1 hp)⟩⟩

def noPt:PV→Bool
  | .int _ _ | .bool _ | .str _ | .agg _ | .tup _ | .nilI | .nilF | .nilP | .nilS | .ifc _ _ | .fn _ _ _ | .osl _ _ | .osb _ _ _ _ | .sl _ _=>true
  | _=>false
def isVar (s:List OB) (j:Nat):Bool:=match s[j]? with | some (.var _)=>true | _=>false

def argOk (s:List OB) (rs:List PV):PV→Bool
  | .ptr j _=>isVar s j && rs.all (sfP s j)
  | p=>noPt p
def capOk (js:List Nat) (ps:List PV):Bool:=js.all fun j=>ps.any fun p=>match p with | .ptr b _=>Nat.beq b j | _=>false
theorem noPt_ok {X:Cx} {p:PV} {v:Value} (h:noPt p=true) (hp:PR X p v):ptB v=none:=by
  cases hp with
  | osl b n v hv hb k=>obtain ⟨A,m,c,rfl⟩:=hv;rfl
  | osb b n lo m v hv hb k=>obtain ⟨A,m,c,rfl⟩:=hv;rfl
  | sl d l v k => obtain ⟨A, c, rw, e, _⟩ := k; obtain rfl : v = .slice A l.length c := by simpa using e
                  rfl
  | ptr=>simp [noPt] at h
  | oel=>simp [noPt] at h
  | elt=>simp [noPt] at h
  | ref=>simp [noPt] at h
  | und=>simp [noPt] at h
  | _=>rfl
theorem isVar_ok {s:List OB} {j:Nat} (h:isVar s j=true):∃ l,s[j]? = some (.var l):=by
  unfold isVar at h
  split at h
  · exact ⟨_,by assumption⟩
  · cases h
theorem call_SK {f:FuncId} {ps:List PV} (js:List Nat) (hj:goodJ s.length js=true) {rs:List PV} (hrs:pr.map (evE e)=rs) (hc:capOk js ps=true) (ha:ps.all (argOk s rs)=true) (hk:PCalls P f (ps.map (renB js)) (selS js s) (AftS P Z pr cs K e s d js)) {h:Hp} {fr:Fr} {E:Nat→Bool} {i:Nat→Option Nat} (S:SR Z h E i s) (R:ER ⟨Hp.mask h E,i,s⟩ e fr) {vs:List Value} (A:PRs ⟨Hp.mask h E,i,s⟩ ps vs) :
    ACalls P f vs h fun v h'=>KeepsP (vs.filterMap ptB) pr fr h h'∧aops P pr cs (Lf Z K) (putF fr d v) h':=by
  obtain ⟨hn,hs⟩:=goodJ_ok hj
  have S00:SR ⟨⟨h.old,[]⟩,E,i,[]⟩ h E i s:=by
    have nb:∀ b,(Hp.mk h.old []).blk? b=none:=fun b=>by unfold Hp.blk?;split <;> simp
    refine ⟨S.ob,S.inj,rfl,by simp [Hp.next],fun b k hb _=>?_,fun b ⟨id,o,ho,hl,hi⟩=>.inr ?_,⟨⟨rfl,fun ad v hv=>?_⟩,Nat.zero_le _,fun b hb=>absurd hb (Nat.not_lt_zero b),fun b es n hb=>absurd hb (Nat.not_lt_zero b)⟩⟩
    · have hb:(Hp.mk h.old []).blk? b=some k:=hb
      rw [nb] at hb
      simp at hb
    · obtain ⟨k,hk,-⟩:=((S.ob id o ho).at hl hi).2
      have:=(Hp.blk_lt hk).1
      simpa [Hp.next] using this
    · have hv:(Hp.mask ⟨h.old,[]⟩ E).cell? ad=some v:=hv
      obtain ⟨h1,-⟩:=mask_cell.1 hv
      unfold Hp.cell? at h1
      split at h1
      · rename_i hlt
        refine mask_cell.2 ⟨?_,.inl hlt⟩
        unfold Hp.cell?
        rw [if_pos hlt]
        exact h1
      · split at h1
        · simp at h1
        · rw [nb] at h1
          simp at h1
  have S0:SR ⟨h,E,fun j=>(js[j]?).bind i,selS js s⟩ h E (fun j=>(js[j]?).bind i) (selS js s):=(S00.sel js hn (fun b (hb:b < ([]:List OB).length)=>absurd hb (Nat.not_lt_zero b))).base
  have A0:PRs ⟨Hp.mask h E,fun j=>(js[j]?).bind i,selS js s⟩ (ps.map (renB js)) vs:=renBs_PR A
  refine (hk h E _ vs S0 A0).mono fun v h' ⟨p,t,E',i',⟨k1,k2⟩,T,hp⟩=>?_
  obtain ⟨S',le'⟩:=S.back hn hs k1 T
  refine ⟨⟨T.old,fun b k hb hbT=>?_,fun b hb x hx a hpa=>?_⟩,k2 _ _ ⟨E',_,S',(R.mono le').put (bkB_PR hn k1 hs hp)⟩⟩
  · refine (T.keep b k hb fun hown=>hbT ?_).1
    obtain ⟨id,o,h1,h2,h3⟩:=hown
    obtain ⟨j,hj1,hj2⟩:=Option.bind_eq_some_iff.1 h3
    have hjm:=List.mem_of_getElem? hj1
    have:=List.all_eq_true.1 hc j hjm
    obtain ⟨q,hq,hqj⟩:=List.any_eq_true.1 this
    split at hqj
    · rename_i b' o'
      have hbj:=Nat.eq_of_beq_eq_true hqj
      subst hbj
      obtain ⟨n,hn'⟩:=List.getElem?_of_mem hq
      obtain ⟨v',hv',hpv⟩:=A.get hn'
      have hok:=List.all_eq_true.1 ha _ hq
      unfold argOk at hok
      rw [Bool.and_eq_true] at hok
      obtain ⟨l,hl⟩:=isVar_ok hok.1
      obtain ⟨k',e1,e2⟩:=hpv.ptr_inv ⟨_,hl,rfl⟩
      have e1:i b'=some k':=e1
      rw [e1] at hj2
      obtain rfl:=Option.some.inj hj2
      exact List.mem_filterMap.2 ⟨v',List.mem_of_getElem? hv',by rw [e2];rfl⟩
    · cases hqj
  · obtain ⟨v',hv',hpb⟩:=List.mem_filterMap.1 hb
    obtain ⟨n,hn'⟩:=List.getElem?_of_mem hv'
    have hlt:n < ps.length:=by rw [A.1];exact (List.getElem?_eq_some_iff.1 hn').1
    have hpn:ps[n]? = some ps[n]:=by simp [hlt]
    have hpr:=A.2 n _ _ hpn hn'
    have hok:=List.all_eq_true.1 ha _ (List.getElem_mem hlt)
    generalize ps[n]=q at *
    by_cases hq:∃ j o,q = .ptr j o
    · obtain ⟨j,o,rfl⟩:=hq
      unfold argOk at hok
      rw [Bool.and_eq_true] at hok
      obtain ⟨l,hl⟩:=isVar_ok hok.1
      obtain ⟨k',e1,e2⟩:=hpr.ptr_inv ⟨_,hl,rfl⟩
      rw [e2] at hpb
      have hpb:some k'=some b:=hpb
      obtain rfl:=Option.some.inj hpb
      exact sf_safe S (R.ev x) (List.all_eq_true.1 hok.2 _ (hrs ▸ List.mem_map_of_mem hx)) hl rfl e1 a hpa
    · have:noPt q=true:=by
        unfold argOk at hok
        split at hok
        · exact absurd ⟨_,_,rfl⟩ hq
        · exact hok
      rw [noPt_ok this hpr] at hpb
      cases hpb

theorem cf_SK {g:FuncId} {l:List PV} (js:List Nat) (hj:Rf (goodJ s.length js=true)) {l':List PV} {s0:List OB} (hr:Pu (l.map (renB js)=l')) (hs:Pu (selS js s=s0)) {rs:List PV} (hrs:Mp (pr.map (evE e)=rs)) (hc:Rf (capOk js l=true)) (ha:Rf (l.all (argOk s rs)=true)) (hk:PCalls P g l' s0 (AftS P Z pr cs K e s d js)):CfG P Z pr cs K e s d kp g l:=fun fx xs pa ps pb hf hx hl f h ⟨E,i,S,R⟩=>by
  obtain ⟨a',b',h1,h2,h3⟩:=(R.at hf).fn_inv
  have A:=(h2.append (R.map hx)).append h3
  rw [hl] at A
  rw [← hr.o,← hs.o] at hk
  exact s_calP h1 (call_SK js hj.o hrs.o hc.o ha.o hk S R A)
end
theorem PRs.put {X:Cx} {l:List PV} {us:List Value} (h:PRs X l us) {o:Nat} {q:PV} (hq:∀ v,us[o]? = some v→PR X q v):PRs X (l.set o q) us :=
  ⟨by simp [h.1],fun j p v hp hv=>by
    rw [List.getElem?_set] at hp
    by_cases e:o=j
    · subst e
      rw [if_pos rfl] at hp
      split at hp
      · obtain rfl:=Option.some.inj hp;exact hq v hv
      · simp at hp
    · rw [if_neg e] at hp
      exact h.2 j p v hp hv⟩
section
variable {P:Program} {Z:Bs} {K:Env→List OB→Prop} {Q:QP} {e:Env} {s s':List OB} {cs:List CO} {pr:List Operand} {d:Option Nat} {kp:Bool} {es n:Nat} {l c:List PV}
theorem gh_virtV (b o:Nat) (D':D) (hb:Rf (s[b]? = some (.var l))) (hx:Rf (l[o]? = some .nilS)) (hd:Rf (Nat.blt 0 D'.sz=true)) (hs:Pu (s.set b (.var (l.set o (.osl s.length 0)))++[.arr D' []]=s')):Gh Z e s e s':=fun f h ⟨E,i,S,R⟩=>by
  have hlt:=(List.getElem?_eq_some_iff.1 hb.o).1
  obtain ⟨S1,le1⟩:=S.add (.arr D' []) none h E rfl (Nat.le_refl _) (fun b k hb=>⟨hb,rfl⟩) (fun b hb=>by simp at hb) (fun le=>⟨Nat.le_of_ble_eq_true hd.o,.inl ⟨ups_at _ _ _,rfl⟩⟩)
  have hb1:(s++[OB.arr D' []])[b]? = some (.var l):=by rw [List.getElem?_append_left hlt];exact hb.o
  obtain ⟨k,us,q1,q2,q3,q4,q5⟩:=own_cells S1 hb1
  obtain ⟨S2,le2⟩:=S1.upd b (.var l) (.var (l.set o (.osl s.length 0))) (ups i s.length none b) h E hb1 rfl (Nat.le_refl _) (fun b' k' hb' _=>⟨hb',rfl⟩) (fun b' _ hb'=>.inl ⟨rfl,hb'⟩) rfl ⟨fun _=>⟨rfl,rfl⟩,fun es n h=>by simp [OB.sig] at h⟩
    (fun le=>⟨k,us,(ups_at _ _ _).trans q1,q2,q3,q4,(q5.mono le).put fun v hv=>by
      have h1:=(q5.mono le).2 o .nilS v hx.o hv
      rw [h1.nilS_inv]
      refine .osl _ 0 _ ⟨_,_,_,rfl⟩ (by simp) (fun es' n' hl=>.inr ⟨?_,0,.inl rfl,?_⟩)
      · obtain ⟨o',ho,hsig⟩:=hl
        have ho:((s++[OB.arr D' []]).set b (.var (l.set o (.osl s.length 0))))[s.length]? = some o':=ho
        rw [List.getElem?_set,if_neg (by omega)] at ho
        simp at ho
        subst ho
        simp [OB.sig] at hsig
        exact hsig.2
      · show _=slV (ups (ups i s.length none) b (ups i s.length none b) s.length) 0 0
        rw [ups_ne _ _ (by omega),ups_at]
        rfl⟩)
  have e1:(s++[OB.arr D' []]).set b (.var (l.set o (.osl s.length 0)))=s':=by
    rw [← hs.o,List.set_append_left _ _ hlt]
  rw [e1] at S2 le2
  exact ⟨E,_,S2,(R.mono le1).mono le2⟩
theorem cfGh {g:FuncId} {a:List PV} (hg:Gh Z e s e s') (hk:CfG P Z pr cs K e s' d kp g a):CfG P Z pr cs K e s d kp g a:=fun fx xs pa ps pb hf ha hl=>ghO hg (hk fx xs pa ps pb hf ha hl)
theorem caGh {g:FuncId} {a:List PV} (hg:Gh Z e s e s') (hk:CaG P Z pr cs K e s' d kp g a):CaG P Z pr cs K e s d kp g a:=fun xs ha=>ghO hg (hk xs ha)
theorem f_arr {g:FuncId} {a:List PV} (b:Nat) (D':D) {l':List D'.T} (hb:Rf (s[b]? = some (.row es n c))) (he:Rf (Nat.beq D'.sz es=true)) (hd:Rf (decs D' n c=some l')) (h0:Rf (Nat.blt 0 es=true)) (hs:Pu (s.set b (.arr D' l')=s')) (hk:CfG P Z pr cs K e s' d kp g a):CfG P Z pr cs K e s d kp g a:=cfGh (gh_arr b D' hb he hd h0 hs) hk
theorem f_virtV {g:FuncId} {a:List PV} (b o:Nat) (D':D) (hb:Rf (s[b]? = some (.var l))) (hx:Rf (l[o]? = some .nilS)) (hd:Rf (Nat.blt 0 D'.sz=true)) (hs:Pu (s.set b (.var (l.set o (.osl s.length 0)))++[.arr D' []]=s')) (hk:CfG P Z pr cs K e s' d kp g a):CfG P Z pr cs K e s d kp g a:=cfGh (gh_virtV b o D' hb hx hd hs) hk
theorem x_virtV {a:AC} (b o:Nat) (D':D) (hb:Rf (s[b]? = some (.var l))) (hx:Rf (l[o]? = some .nilS)) (hd:Rf (Nat.blt 0 D'.sz=true)) (hs:Pu (s.set b (.var (l.set o (.osl s.length 0)))++[.arr D' []]=s')) (hk:pwp P Z a Q e s'):pwp P Z a Q e s:=ghW (gh_virtV b o D' hb hx hd hs) hk
end
theorem renA_int (js:List Nat) (k:IntKind) (n:Int):renA js (.int k n) = .int k n:=rfl
theorem renA_bool (js:List Nat) (b:Bool):renA js (.bool b) = .bool b:=rfl
theorem renA_str (js:List Nat) (t:ByteArray):renA js (.str t) = .str t:=rfl
theorem renA_nilI (js:List Nat)  : renA js (.nilI) = .nilI:=rfl
theorem renA_nilF (js:List Nat)  : renA js (.nilF) = .nilF:=rfl
theorem renA_nilP (js:List Nat)  : renA js (.nilP) = .nilP:=rfl
theorem renA_nilS (js:List Nat)  : renA js (.nilS) = .nilS:=rfl
theorem renA_sl (js:List Nat) (d:D) (l:List d.T):renA js (.sl d l) = .sl d l:=rfl
theorem renA_elt (js:List Nat) (d:D) (l:List d.T) (i o:Nat):renA js (.elt d l i o) = .elt d l i o:=rfl
theorem renB_int (js:List Nat) (k:IntKind) (n:Int):renB js (.int k n) = .int k n:=rfl
theorem renB_bool (js:List Nat) (b:Bool):renB js (.bool b) = .bool b:=rfl
theorem renB_str (js:List Nat) (t:ByteArray):renB js (.str t) = .str t:=rfl
theorem renB_nilI (js:List Nat)  : renB js (.nilI) = .nilI:=rfl
theorem renB_nilF (js:List Nat)  : renB js (.nilF) = .nilF:=rfl
theorem renB_nilP (js:List Nat)  : renB js (.nilP) = .nilP:=rfl
theorem renB_nilS (js:List Nat)  : renB js (.nilS) = .nilS:=rfl
theorem renB_sl (js:List Nat) (d:D) (l:List d.T):renB js (.sl d l) = .sl d l:=rfl
theorem renB_elt (js:List Nat) (d:D) (l:List d.T) (i o:Nat):renB js (.elt d l i o) = .elt d l i o:=rfl
theorem bkA_int (js:List Nat) (k:IntKind) (n:Int):bkA js (.int k n) = .int k n:=rfl
theorem bkA_bool (js:List Nat) (b:Bool):bkA js (.bool b) = .bool b:=rfl
theorem bkA_str (js:List Nat) (t:ByteArray):bkA js (.str t) = .str t:=rfl
theorem bkA_nilI (js:List Nat)  : bkA js (.nilI) = .nilI:=rfl
theorem bkA_nilF (js:List Nat)  : bkA js (.nilF) = .nilF:=rfl
theorem bkA_nilP (js:List Nat)  : bkA js (.nilP) = .nilP:=rfl
theorem bkA_nilS (js:List Nat)  : bkA js (.nilS) = .nilS:=rfl
theorem bkA_sl (js:List Nat) (d:D) (l:List d.T):bkA js (.sl d l) = .sl d l:=rfl
theorem bkA_elt (js:List Nat) (d:D) (l:List d.T) (i o:Nat):bkA js (.elt d l i o) = .elt d l i o:=rfl
theorem bkB_int (js:List Nat) (k:IntKind) (n:Int):bkB js (.int k n) = .int k n:=rfl
theorem bkB_bool (js:List Nat) (b:Bool):bkB js (.bool b) = .bool b:=rfl
theorem bkB_str (js:List Nat) (t:ByteArray):bkB js (.str t) = .str t:=rfl
theorem bkB_nilI (js:List Nat)  : bkB js (.nilI) = .nilI:=rfl
theorem bkB_nilF (js:List Nat)  : bkB js (.nilF) = .nilF:=rfl
theorem bkB_nilP (js:List Nat)  : bkB js (.nilP) = .nilP:=rfl
theorem bkB_nilS (js:List Nat)  : bkB js (.nilS) = .nilS:=rfl
theorem bkB_sl (js:List Nat) (d:D) (l:List d.T):bkB js (.sl d l) = .sl d l:=rfl
theorem bkB_elt (js:List Nat) (d:D) (l:List d.T) (i o:Nat):bkB js (.elt d l i o) = .elt d l i o:=rfl
theorem renA_ptr (js:List Nat) (b o:Nat):renA js (.ptr b o)=match idx js 0 b with | some j=>.ptr j o | none=>.und:=rfl
theorem renA_osl (js:List Nat) (b n:Nat):renA js (.osl b n)=match idx js 0 b with | some j=>.osl j n | none=>.und:=rfl
theorem renA_osb (js:List Nat) (b n lo m:Nat):renA js (.osb b n lo m)=match idx js 0 b with | some j=>.osb j n lo m | none=>.und:=rfl
theorem renA_oel (js:List Nat) (b n i o:Nat):renA js (.oel b n i o)=match idx js 0 b with | some j=>.oel j n i o | none=>.und:=rfl
theorem renB_ptr (js:List Nat) (b o:Nat):renB js (.ptr b o)=match idx js 0 b with | some j=>.ptr j o | none=>.und:=rfl
theorem renB_osl (js:List Nat) (b n:Nat):renB js (.osl b n)=match idx js 0 b with | some j=>.osl j n | none=>.und:=rfl
theorem renB_osb (js:List Nat) (b n lo m:Nat):renB js (.osb b n lo m)=match idx js 0 b with | some j=>.osb j n lo m | none=>.und:=rfl
theorem renB_oel (js:List Nat) (b n i o:Nat):renB js (.oel b n i o)=match idx js 0 b with | some j=>.oel j n i o | none=>.und:=rfl
theorem bkA_ptr (js:List Nat) (b o:Nat):bkA js (.ptr b o) = .ptr (js.getD b 0) o:=rfl
theorem bkA_osl (js:List Nat) (b n:Nat):bkA js (.osl b n) = .osl (js.getD b 0) n:=rfl
theorem bkA_osb (js:List Nat) (b n lo m:Nat):bkA js (.osb b n lo m) = .osb (js.getD b 0) n lo m:=rfl
theorem bkA_oel (js:List Nat) (b n i o:Nat):bkA js (.oel b n i o) = .oel (js.getD b 0) n i o:=rfl
theorem bkB_ptr (js:List Nat) (b o:Nat):bkB js (.ptr b o) = .ptr (js.getD b 0) o:=rfl
theorem bkB_osl (js:List Nat) (b n:Nat):bkB js (.osl b n) = .osl (js.getD b 0) n:=rfl
theorem bkB_osb (js:List Nat) (b n lo m:Nat):bkB js (.osb b n lo m) = .osb (js.getD b 0) n lo m:=rfl
theorem bkB_oel (js:List Nat) (b n i o:Nat):bkB js (.oel b n i o) = .oel (js.getD b 0) n i o:=rfl
theorem renB_agg (js:List Nat) (l:List PV):renB js (.agg l) = .agg (l.map (renA js)):=rfl
theorem renB_tup (js:List Nat) (l:List PV):renB js (.tup l) = .tup (l.map (renA js)):=rfl
theorem renB_fn (js:List Nat) (g:FuncId) (a b:List PV):renB js (.fn g a b) = .fn g (a.map (renA js)) (b.map (renA js)):=rfl
theorem renB_ref (js:List Nat) (l:List PV) (o:Nat):renB js (.ref l o) = .ref (l.map (renA js)) o:=rfl
theorem renB_ifr (js:List Nat) (t:TypeId) (l:List PV) (o:Nat):renB js (.ifc t (.ref l o)) = .ifc t (.ref (l.map (renA js)) o):=rfl
theorem renB_ifi (js:List Nat) (t:TypeId) (k:IntKind) (n:Int):renB js (.ifc t (.int k n)) = .ifc t (.int k n):=rfl
theorem bkB_agg (js:List Nat) (l:List PV):bkB js (.agg l) = .agg (l.map (bkA js)):=rfl
theorem bkB_tup (js:List Nat) (l:List PV):bkB js (.tup l) = .tup (l.map (bkA js)):=rfl
theorem bkB_fn (js:List Nat) (g:FuncId) (a b:List PV):bkB js (.fn g a b) = .fn g (a.map (bkA js)) (b.map (bkA js)):=rfl
theorem bkB_ref (js:List Nat) (l:List PV) (o:Nat):bkB js (.ref l o) = .ref (l.map (bkA js)) o:=rfl
theorem bkB_ifr (js:List Nat) (t:TypeId) (l:List PV) (o:Nat):bkB js (.ifc t (.ref l o)) = .ifc t (.ref (l.map (bkA js)) o):=rfl
theorem bkB_ifi (js:List Nat) (t:TypeId) (k:IntKind) (n:Int):bkB js (.ifc t (.int k n)) = .ifc t (.int k n):=rfl
theorem renO_var (js:List Nat) (l:List PV):renO js (.var l) = .var (l.map (renB js)):=rfl
theorem renO_row (js:List Nat) (es n:Nat) (l:List PV):renO js (.row es n l) = .row es n (l.map (renB js)):=rfl
theorem renO_arr (js:List Nat) (d:D) (l:List d.T):renO js (.arr d l) = .arr d l:=rfl
theorem renO_dead (js:List Nat)  : renO js (.dead) = .dead:=rfl
theorem bkO_var (js:List Nat) (l:List PV):bkO js (.var l) = .var (l.map (bkB js)):=rfl
theorem bkO_row (js:List Nat) (es n:Nat) (l:List PV):bkO js (.row es n l) = .row es n (l.map (bkB js)):=rfl
theorem bkO_arr (js:List Nat) (d:D) (l:List d.T):bkO js (.arr d l) = .arr d l:=rfl
theorem bkO_dead (js:List Nat)  : bkO js (.dead) = .dead:=rfl
theorem idx_c (a k b:Nat) (l:List Nat):idx (a::l) k b=if a=b then some k else idx l (k+1) b:=rfl
theorem idx_n (k b:Nat):idx [] k b=none:=rfl
theorem selS_d (js:List Nat) (s:List OB):selS js s=js.map fun b=>renO js (s.getD b .dead):=rfl
theorem updS_c (js0 js:List Nat) (b:Nat) (o:OB) (t s:List OB):updS js0 (b::js) (o::t) s=updS js0 js t (s.set b (bkO js0 o)):=rfl
theorem updS_n (js0:List Nat) (t s:List OB):updS js0 [] t s=s:=by cases t <;> rfl
theorem RR:type_of% (And.intro @renA_int <| And.intro @renA_bool <| And.intro @renA_str <| And.intro @renA_nilI <| And.intro @renA_nilF <| And.intro @renA_nilP <| And.intro @renA_nilS <| And.intro @renA_sl <| And.intro @renA_elt <| And.intro @renB_int <| And.intro @renB_bool <| And.intro @renB_str <| And.intro @renB_nilI <| And.intro @renB_nilF <| And.intro @renB_nilP <| And.intro @renB_nilS <| And.intro @renB_sl <| And.intro @renB_elt <| And.intro @bkA_int <| And.intro @bkA_bool <| And.intro @bkA_str <| And.intro @bkA_nilI <| And.intro @bkA_nilF <| And.intro @bkA_nilP <| And.intro @bkA_nilS <| And.intro @bkA_sl <| And.intro @bkA_elt <| And.intro @bkB_int <| And.intro @bkB_bool <| And.intro @bkB_str <| And.intro @bkB_nilI <| And.intro @bkB_nilF <| And.intro @bkB_nilP <| And.intro @bkB_nilS <| And.intro @bkB_sl <| And.intro @bkB_elt <| And.intro @renA_ptr <| And.intro @renA_osl <| And.intro @renA_osb <| And.intro @renA_oel <| And.intro @renB_ptr <| And.intro @renB_osl <| And.intro @renB_osb <| And.intro @renB_oel <| And.intro @bkA_ptr <| And.intro @bkA_osl <| And.intro @bkA_osb <| And.intro @bkA_oel <| And.intro @bkB_ptr <| And.intro @bkB_osl <| And.intro @bkB_osb <| And.intro @bkB_oel <| And.intro @renB_agg <| And.intro @renB_tup <| And.intro @renB_fn <| And.intro @renB_ref <| And.intro @renB_ifr <| And.intro @renB_ifi <| And.intro @bkB_agg <| And.intro @bkB_tup <| And.intro @bkB_fn <| And.intro @bkB_ref <| And.intro @bkB_ifr <| And.intro @bkB_ifi <| And.intro @renO_var <| And.intro @renO_row <| And.intro @renO_arr <| And.intro @renO_dead <| And.intro @bkO_var <| And.intro @bkO_row <| And.intro @bkO_arr <| And.intro @bkO_dead <| And.intro @idx_c <| And.intro @idx_n <| And.intro @selS_d <| And.intro @updS_c <| And.intro @updS_n <| And.intro @t_gz @t_gs):=And.intro @renA_int <| And.intro @renA_bool <| And.intro @renA_str <| And.intro @renA_nilI <| And.intro @renA_nilF <| And.intro @renA_nilP <| And.intro @renA_nilS <| And.intro @renA_sl <| And.intro @renA_elt <| And.intro @renB_int <| And.intro @renB_bool <| And.intro @renB_str <| And.intro @renB_nilI <| And.intro @renB_nilF <| And.intro @renB_nilP <| And.intro @renB_nilS <| And.intro @renB_sl <| And.intro @renB_elt <| And.intro @bkA_int <| And.intro @bkA_bool <| And.intro @bkA_str <| And.intro @bkA_nilI <| And.intro @bkA_nilF <| And.intro @bkA_nilP <| And.intro @bkA_nilS <| And.intro @bkA_sl <| And.intro @bkA_elt <| And.intro @bkB_int <| And.intro @bkB_bool <| And.intro @bkB_str <| And.intro @bkB_nilI <| And.intro @bkB_nilF <| And.intro @bkB_nilP <| And.intro @bkB_nilS <| And.intro @bkB_sl <| And.intro @bkB_elt <| And.intro @renA_ptr <| And.intro @renA_osl <| And.intro @renA_osb <| And.intro @renA_oel <| And.intro @renB_ptr <| And.intro @renB_osl <| And.intro @renB_osb <| And.intro @renB_oel <| And.intro @bkA_ptr <| And.intro @bkA_osl <| And.intro @bkA_osb <| And.intro @bkA_oel <| And.intro @bkB_ptr <| And.intro @bkB_osl <| And.intro @bkB_osb <| And.intro @bkB_oel <| And.intro @renB_agg <| And.intro @renB_tup <| And.intro @renB_fn <| And.intro @renB_ref <| And.intro @renB_ifr <| And.intro @renB_ifi <| And.intro @bkB_agg <| And.intro @bkB_tup <| And.intro @bkB_fn <| And.intro @bkB_ref <| And.intro @bkB_ifr <| And.intro @bkB_ifi <| And.intro @renO_var <| And.intro @renO_row <| And.intro @renO_arr <| And.intro @renO_dead <| And.intro @bkO_var <| And.intro @bkO_row <| And.intro @bkO_arr <| And.intro @bkO_dead <| And.intro @idx_c <| And.intro @idx_n <| And.intro @selS_d <| And.intro @updS_c <| And.intro @updS_n <| And.intro @t_gz @t_gs
end Go.Proofs.Ytcffpnlochillaa.Pv
namespace Go.Proofs.Ytcffpnlochillaa.Pv
open Go.RowKit Go.Proofs.Ytcffpnlochillaa.Ab Go.Proofs.Ytcffpnlochillaa.AbP Go.Proofs.Ytcffpnlochillaa.Num
def EqS (P:Program) (t:TypeId) (l l':List PV) (r:Bool):Prop:=∃ us us',toVs l=some us∧toVs l'=some us'∧∀ w,(Op.equal t (.agg us.toArray) (.agg us'.toArray)).run P w = .ok r w
section
variable {P:Program} {Z:Bs} {K:Env→List OB→Prop} {Q:QP} {e:Env} {s s':List OB} {cs:List CO} {pr:List Operand} {d:Option Nat} {kp:Bool} {x y z:Operand}
theorem q_eqE {ne q r:Bool} {t:TypeId} {l l':List PV} (hx:Lk (evE e x = .agg l)) (hy:Lk (evE e y = .agg l')) (he:Am (EqS P t l l' r)) (hq:Vl (nb ne r=q)) (hk:pops P Z pr cs K (putE e d (.bool q)) s):pops P Z pr (⟨d,none,kp,.f (.eqS ne t x y)⟩::cs) K e s:=by
  obtain ⟨us,us',h1,h2,h3⟩:=he.o
  exact q_eqQ hx hy ⟨h1⟩ ⟨h2⟩ h3 hq hk
end
theorem u64_of {x:Int} (h:(Lit.int .u64 x).wf=true):U64 x:=by
  have:=h
  simp [Lit.wf,IntKind.min,IntKind.max,IntKind.bits,IntKind.signed] at this
  unfold U64
  omega
theorem u32_of {x:Int} (h:(Lit.int .u32 x).wf=true):U64 x∧x≤4294967295:=by
  have:=h
  simp [Lit.wf,IntKind.min,IntKind.max,IntKind.bits,IntKind.signed] at this
  unfold U64
  omega
theorem u16_of {x:Int} (h:(Lit.int .u16 x).wf=true):U64 x∧x≤65535:=by
  have:=h
  simp [Lit.wf,IntKind.min,IntKind.max,IntKind.bits,IntKind.signed] at this
  unfold U64
  omega
theorem u8_of {x:Int} (h:(Lit.int .u8 x).wf=true):0≤x∧x≤255:=by
  have:=h
  simp [Lit.wf,IntKind.min,IntKind.max,IntKind.bits,IntKind.signed] at this
  omega
theorem B_of {l:List Int} (h:∀ x ∈ l,(Lit.int .u8 x).wf=true):B l:=fun x hx=>u8_of (h x hx)
end Go.Proofs.Ytcffpnlochillaa.Pv
namespace Go.Proofs.Ytcffpnlochillaa.Pv
open Go.RowKit Go.Proofs.Ytcffpnlochillaa.Ab Go.Proofs.Ytcffpnlochillaa.AbP Go.Proofs.Ytcffpnlochillaa.Num
structure Kp (p:Prop):Prop where
  o:p
theorem xVirt (t:Nat) (D':D) {P:Program} {Z:Bs} {Q:QP} {e:Env} {s:List OB} {s':List OB} {a:AC} {n:Nat} (hx:Lk (evE e (.tmp t) = .nilS)) (hd:Rf (Nat.blt 0 D'.sz=true)) (hn:Pu (s.length=n)) (hs:Pu (s++[.arr D' []]=s')) (hk:pwp P Z a Q (putE e (some t) (.osl n 0)) s'):pwp P Z a Q e s:=ghW (gh_virt t D' hx hd hn hs) hk
theorem oArr (b:Nat) (D':D) {P:Program} {Z:Bs} {K:Env→List OB→Prop} {e:Env} {s:List OB} {s':List OB} {cs:List CO} {pr:List Operand} {es n:Nat} {c:List PV} {l':List D'.T} (hb:Rf (s[b]? = some (.row es n c))) (he:Rf (Nat.beq D'.sz es=true)) (hd:Rf (decs D' n c=some l')) (h0:Rf (Nat.blt 0 es=true)) (hs:Pu (s.set b (.arr D' l')=s')) (hk:pops P Z pr cs K e s'):pops P Z pr cs K e s:=ghO (gh_arr b D' hb he hd h0 hs) hk
theorem oFrz (t:Nat) {P:Program} {Z:Bs} {K:Env→List OB→Prop} {e:Env} {s:List OB} {s':List OB} {cs:List CO} {pr:List Operand} {D':D} {b n:Nat} {l:List D'.T} (hx:Lk (evE e (.tmp t) = .osl b n)) (hb:Rf (s[b]? = some (.arr D' l))) (hn:Om (n=l.length)) (hs:Pu (s.set b .dead=s')) (hk:pops P Z pr cs K (putE e (some t) (.sl D' l)) s'):pops P Z pr cs K e s:=ghO (gh_frz t hx hb hn hs) hk
theorem lk {FP G:Prop} (F:FP) (h:FP→G:=by intro F;(simp only [↓LL,↓reduceIte,Nat.reduceEqDiff,F];(try rfl);done)):G:=h F
theorem W1 {FP VP SP A0 G:Prop} (F:FP) (V:VP) (S:SP) (a0:A0) (h:FP→VP→SP→Kp A0→G:=by intro F V S k0;(repeat (first | with_reducible (first | apply w_sq | apply w_reg | apply p_nil | apply t_nor | apply gs1 | apply gs2 | apply gs3 | apply gs4 | apply gs5 | apply ps1 | apply ps2 | apply w_ret | apply w_skip | apply w_exit | apply t_exit | apply t_ret | apply i_nor | apply i_exit | apply i_ret | apply w_blk | apply w_scp | apply g_nor | apply g_ret | apply w_goto | apply t_goto | apply i_goto | apply k_nor | apply k_ret | apply k_exit | apply k_goto) | (with_reducible refine i_exit' ?_) | ((with_reducible first | apply q_mv | apply q_bin | apply q_gd | apply q_pk | apply q_cvt | apply g_ld | apply g_fad | apply q_cd | apply q_ext | apply q_fld | apply q_fldn | apply g_ln | apply ld_V | apply fd_V | apply ln_S | apply q_lns | apply q_un | apply q_eqB | apply q_eqI | apply g_iad | apply id_S | apply ld_I | apply ld_E | apply ld_En | apply ld_Vn | apply ld_O | apply ld_OI | apply ld_OE | apply ld_On | apply ld_W | apply ld_R | apply ld_Rn | apply fd_E | apply fd_R | apply fd_O | apply id_O | apply id_A | apply id_R | apply ln_0 | apply ln_O | apply ln_A | apply ln_R | apply g_st | apply st_V | apply st_VK | apply st_O | apply st_I | apply st_B | apply st_E | apply g_mk | apply mk_P | apply mk_G | apply g_ta | apply ta_Y1 | apply ta_Y0 | apply ta_N | apply ta_I | apply g_nl | apply nl_F1 | apply nl_F0 | apply nl_S0 | apply nl_So | apply nl_P | apply g_sl | apply sl_Sa | apply sl_S0 | apply sl_Sn | apply sl_S | apply sl_N | apply sl_O | apply g_rt | apply rt_o1 | apply rt_1a | apply rt_o2 | apply rt_o3 | apply rt_1 | apply rt_n | apply q_new | apply q_box | apply q_bslQ | apply q_bldQ | apply q_mksI | apply q_mksB | apply q_mst | apply q_appO | apply q_appK | apply q_apzO | apply q_apzK | apply q_cpy | apply q_b2s | apply q_s2b | apply q_str | apply q_ixs | apply q_slS | apply q_mkF | apply q_mn | apply q_mx | apply q_chk | apply g_ca | apply aft_i | apply afS_i | apply g_cf | apply q_eqE);(repeat any_goals first | exact mp_z | apply mp_s | exact rs_z | apply rs_t | apply rs_n | apply rs_c);(repeat any_goals first | (apply Lk.i;(simp only [↓LL,↓reduceIte,Nat.reduceEqDiff,F];(try rfl);done)) | (apply Rf.i;first | rfl | assumption) | (apply Vl.i;((try simp (disch:=omega) only [VV,↓reduceIte,peqI,encP,F,V]);(try rfl);done)) | (apply Am.i;assumption) | (apply Pu.i;((try simp only [↓reduceIte,UU,RR,Nat.reduceAdd,Nat.reduceEqDiff,cellsP,putP,fillQ,flatQ,shP,sh1,encP]);(try rfl);done)) | (apply Om.i;((try simp only [MM]);(try omega);done)) | (apply Vw.i;first | exact As.sl _ _ | exact As.nil _ | exact As.arr _ _ _ _ rfl (by ((try simp only [MM]);(try omega);done)) | exact As.row _ _ _ _ _ rfl rfl | exact Src.str _ | exact Src.as (As.sl _ _) | exact Src.as (As.nil _) | exact Src.as (As.arr _ _ _ _ rfl (by ((try simp only [MM]);(try omega);done))) | exact Src.as (As.row _ _ _ _ _ rfl rfl)));(all_goals fail_if_success apply Mk.i)) | ((with_reducible apply ca_P);focus (apply Rf.i;rfl)) | ((with_reducible apply cf_P);focus (apply Rf.i;rfl)) | ((with_reducible first | apply S | apply S.1 | apply S.2 | apply S.2.1 | apply S.2.2 | apply S.2.2.1 | apply S.2.2.2 | apply S.2.2.2.1 | apply S.2.2.2.2 | apply S.2.2.2.2.1 | apply S.2.2.2.2.2 | apply S.2.2.2.2.2.1 | apply S.2.2.2.2.2.2);(repeat any_goals first | exact mp_z | apply mp_s | exact rs_z | apply rs_t | apply rs_n | apply rs_c);(repeat any_goals first | (apply Lk.i;(simp only [↓LL,↓reduceIte,Nat.reduceEqDiff,F];(try rfl);done)) | (apply Rf.i;first | rfl | assumption) | (apply Vl.i;((try simp (disch:=omega) only [VV,↓reduceIte,peqI,encP,F,V]);(try rfl);done)) | (apply Am.i;assumption) | (apply Pu.i;((try simp only [↓reduceIte,UU,RR,Nat.reduceAdd,Nat.reduceEqDiff,cellsP,putP,fillQ,flatQ,shP,sh1,encP]);(try rfl);done)) | (apply Om.i;((try simp only [MM]);(try omega);done)) | (apply Vw.i;first | exact As.sl _ _ | exact As.nil _ | exact As.arr _ _ _ _ rfl (by ((try simp only [MM]);(try omega);done)) | exact As.row _ _ _ _ _ rfl rfl | exact Src.str _ | exact Src.as (As.sl _ _) | exact Src.as (As.nil _) | exact Src.as (As.arr _ _ _ _ rfl (by ((try simp only [MM]);(try omega);done))) | exact Src.as (As.row _ _ _ _ _ rfl rfl)));(all_goals fail_if_success apply Mk.i)) | ((with_reducible apply ca_V);focus ((repeat first | exact Cv.z | (apply Cv.p;focus (apply Rf.i;rfl)) | (apply Cv.a;(focus (apply Rf.i;rfl));(focus (apply Om.i;first | rfl | omega | ((try simp only [MM]);(try omega);done)));(focus (apply Pu.i;((try simp only [↓reduceIte,UU,RR,Nat.reduceAdd,Nat.reduceEqDiff,cellsP,putP,fillQ,flatQ,shP,sh1,encP]);(try rfl);done)))) | (apply Cv.r;(iterate 5 (focus (apply Rf.i;rfl)));(focus (apply Pu.i;((try simp only [↓reduceIte,UU,RR,Nat.reduceAdd,Nat.reduceEqDiff,cellsP,putP,fillQ,flatQ,shP,sh1,encP]);(try rfl);done)))));done))));exact k0.o):G:=h F V S ⟨a0⟩
theorem Wn1 {FP VP SP A0 G:Prop} (F:FP) (V:VP) (S:SP) (a0:A0) (h:FP→VP→SP→Kp A0→G:=by intro F V S k0;(repeat (first | with_reducible (first | apply w_sq | apply w_reg | apply p_nil | apply t_nor | apply gs1 | apply gs2 | apply gs3 | apply gs4 | apply gs5 | apply ps1 | apply ps2 | apply w_skip | apply w_exit | apply t_exit | apply t_ret | apply i_nor | apply i_exit | apply i_ret | apply w_blk | apply w_scp | apply g_nor | apply g_ret | apply w_goto | apply t_goto | apply i_goto | apply k_nor | apply k_ret | apply k_exit | apply k_goto) | (with_reducible refine i_exit' ?_) | ((with_reducible first | apply q_mv | apply q_bin | apply q_gd | apply q_pk | apply q_cvt | apply g_ld | apply g_fad | apply q_cd | apply q_ext | apply q_fld | apply q_fldn | apply g_ln | apply ld_V | apply fd_V | apply ln_S | apply q_lns | apply q_un | apply q_eqB | apply q_eqI | apply g_iad | apply id_S | apply ld_I | apply ld_E | apply ld_En | apply ld_Vn | apply ld_O | apply ld_OI | apply ld_OE | apply ld_On | apply ld_W | apply ld_R | apply ld_Rn | apply fd_E | apply fd_R | apply fd_O | apply id_O | apply id_A | apply id_R | apply ln_0 | apply ln_O | apply ln_A | apply ln_R | apply g_st | apply st_V | apply st_VK | apply st_O | apply st_I | apply st_B | apply st_E | apply g_mk | apply mk_P | apply mk_G | apply g_ta | apply ta_Y1 | apply ta_Y0 | apply ta_N | apply ta_I | apply g_nl | apply nl_F1 | apply nl_F0 | apply nl_S0 | apply nl_So | apply nl_P | apply g_sl | apply sl_Sa | apply sl_S0 | apply sl_Sn | apply sl_S | apply sl_N | apply sl_O | apply g_rt | apply rt_o1 | apply rt_1a | apply rt_o2 | apply rt_o3 | apply rt_1 | apply rt_n | apply q_new | apply q_box | apply q_bslQ | apply q_bldQ | apply q_mksI | apply q_mksB | apply q_mst | apply q_appO | apply q_appK | apply q_apzO | apply q_apzK | apply q_cpy | apply q_b2s | apply q_s2b | apply q_str | apply q_ixs | apply q_slS | apply q_mkF | apply q_mn | apply q_mx | apply q_chk | apply g_ca | apply aft_i | apply afS_i | apply g_cf | apply q_eqE);(repeat any_goals first | exact mp_z | apply mp_s | exact rs_z | apply rs_t | apply rs_n | apply rs_c);(repeat any_goals first | (apply Lk.i;(simp only [↓LL,↓reduceIte,Nat.reduceEqDiff,F];(try rfl);done)) | (apply Rf.i;first | rfl | assumption) | (apply Vl.i;((try simp (disch:=omega) only [VV,↓reduceIte,peqI,encP,F,V]);(try rfl);done)) | (apply Am.i;assumption) | (apply Pu.i;((try simp only [↓reduceIte,UU,RR,Nat.reduceAdd,Nat.reduceEqDiff,cellsP,putP,fillQ,flatQ,shP,sh1,encP]);(try rfl);done)) | (apply Om.i;((try simp only [MM]);(try omega);done)) | (apply Vw.i;first | exact As.sl _ _ | exact As.nil _ | exact As.arr _ _ _ _ rfl (by ((try simp only [MM]);(try omega);done)) | exact As.row _ _ _ _ _ rfl rfl | exact Src.str _ | exact Src.as (As.sl _ _) | exact Src.as (As.nil _) | exact Src.as (As.arr _ _ _ _ rfl (by ((try simp only [MM]);(try omega);done))) | exact Src.as (As.row _ _ _ _ _ rfl rfl)));(all_goals fail_if_success apply Mk.i)) | ((with_reducible apply ca_P);focus (apply Rf.i;rfl)) | ((with_reducible apply cf_P);focus (apply Rf.i;rfl)) | ((with_reducible first | apply S | apply S.1 | apply S.2 | apply S.2.1 | apply S.2.2 | apply S.2.2.1 | apply S.2.2.2 | apply S.2.2.2.1 | apply S.2.2.2.2 | apply S.2.2.2.2.1 | apply S.2.2.2.2.2 | apply S.2.2.2.2.2.1 | apply S.2.2.2.2.2.2);(repeat any_goals first | exact mp_z | apply mp_s | exact rs_z | apply rs_t | apply rs_n | apply rs_c);(repeat any_goals first | (apply Lk.i;(simp only [↓LL,↓reduceIte,Nat.reduceEqDiff,F];(try rfl);done)) | (apply Rf.i;first | rfl | assumption) | (apply Vl.i;((try simp (disch:=omega) only [VV,↓reduceIte,peqI,encP,F,V]);(try rfl);done)) | (apply Am.i;assumption) | (apply Pu.i;((try simp only [↓reduceIte,UU,RR,Nat.reduceAdd,Nat.reduceEqDiff,cellsP,putP,fillQ,flatQ,shP,sh1,encP]);(try rfl);done)) | (apply Om.i;((try simp only [MM]);(try omega);done)) | (apply Vw.i;first | exact As.sl _ _ | exact As.nil _ | exact As.arr _ _ _ _ rfl (by ((try simp only [MM]);(try omega);done)) | exact As.row _ _ _ _ _ rfl rfl | exact Src.str _ | exact Src.as (As.sl _ _) | exact Src.as (As.nil _) | exact Src.as (As.arr _ _ _ _ rfl (by ((try simp only [MM]);(try omega);done))) | exact Src.as (As.row _ _ _ _ _ rfl rfl)));(all_goals fail_if_success apply Mk.i)) | ((with_reducible apply ca_V);focus ((repeat first | exact Cv.z | (apply Cv.p;focus (apply Rf.i;rfl)) | (apply Cv.a;(focus (apply Rf.i;rfl));(focus (apply Om.i;first | rfl | omega | ((try simp only [MM]);(try omega);done)));(focus (apply Pu.i;((try simp only [↓reduceIte,UU,RR,Nat.reduceAdd,Nat.reduceEqDiff,cellsP,putP,fillQ,flatQ,shP,sh1,encP]);(try rfl);done)))) | (apply Cv.r;(iterate 5 (focus (apply Rf.i;rfl)));(focus (apply Pu.i;((try simp only [↓reduceIte,UU,RR,Nat.reduceAdd,Nat.reduceEqDiff,cellsP,putP,fillQ,flatQ,shP,sh1,encP]);(try rfl);done)))));done))));exact k0.o):G:=h F V S ⟨a0⟩
theorem Wv1 {FP VP SP A0 G:Prop} (F:FP) (V:VP) (S:SP) (a0:A0) (h:FP→VP→SP→Kp A0→G:=by intro F V S k0;(repeat (first | with_reducible (first | apply w_sq | apply w_reg | apply p_nil | apply t_nor | apply gs1 | apply gs2 | apply gs3 | apply gs4 | apply gs5 | apply ps1 | apply ps2 | apply w_ret | apply w_skip | apply w_exit | apply t_exit | apply t_ret | apply i_nor | apply i_exit | apply i_ret | apply w_blk | apply w_scp | apply g_nor | apply g_ret | apply w_goto | apply t_goto | apply i_goto | apply k_nor | apply k_ret | apply k_exit | apply k_goto) | (with_reducible refine i_exit' ?_) | ((with_reducible first | apply q_mv | apply q_bin | apply q_gd | apply q_pk | apply q_cvt | apply g_ld | apply g_fad | apply q_cd | apply q_ext | apply q_fld | apply q_fldn | apply g_ln | apply ld_V | apply fd_V | apply ln_S | apply q_lns | apply q_un | apply q_eqB | apply q_eqI | apply g_iad | apply id_S | apply ld_I | apply ld_E | apply ld_En | apply ld_Vn | apply ld_O | apply ld_OI | apply ld_OE | apply ld_On | apply ld_W | apply ld_R | apply ld_Rn | apply fd_E | apply fd_R | apply fd_O | apply id_O | apply id_A | apply id_R | apply ln_0 | apply ln_O | apply ln_A | apply ln_R | apply g_st | apply st_V | apply st_VK | apply st_O | apply st_I | apply st_B | apply st_E | apply g_mk | apply mk_P | apply mk_G | apply g_ta | apply ta_Y1 | apply ta_Y0 | apply ta_N | apply ta_I | apply g_nl | apply nl_F1 | apply nl_F0 | apply nl_S0 | apply nl_So | apply nl_P | apply g_sl | apply sl_Sa | apply sl_S0 | apply sl_Sn | apply sl_S | apply sl_N | apply sl_O | apply g_rt | apply rt_o1 | apply rt_1a | apply rt_o2 | apply rt_o3 | apply rt_1 | apply rt_n | apply q_new | apply q_box | apply q_bslQ | apply q_bldQ | apply q_mksI | apply q_mksB | apply q_mst | apply q_appO | apply q_appK | apply q_apzO | apply q_apzK | apply q_cpy | apply q_b2s | apply q_s2b | apply q_str | apply q_ixs | apply q_slS | apply q_mkF | apply q_mn | apply q_mx | apply q_chk | apply g_ca | apply aft_i | apply afS_i | apply g_cf | apply q_eqE);(repeat any_goals first | exact mp_z | apply mp_s | exact rs_z | apply rs_t | apply rs_n | apply rs_c);(repeat any_goals first | (apply Lk.i;(simp only [↓LL,↓reduceIte,Nat.reduceEqDiff,F];(try rfl);done)) | (apply Rf.i;first | rfl | assumption) | (apply Vl.i;((try simp (disch:=omega) only [VV,↓reduceIte,peqI,encP,F,V]);(try rfl);done)) | (apply Am.i;assumption) | (apply Pu.i;((try simp only [↓reduceIte,UU,RR,Nat.reduceAdd,Nat.reduceEqDiff,cellsP,putP,fillQ,flatQ,shP,sh1,encP]);(try rfl);done)) | (apply Om.i;((try simp only [MM]);(try omega);done)) | (apply Vw.i;first | exact As.sl _ _ | exact As.nil _ | exact As.arr _ _ _ _ rfl (by ((try simp only [MM]);(try omega);done)) | exact As.row _ _ _ _ _ rfl rfl | exact Src.str _ | exact Src.as (As.sl _ _) | exact Src.as (As.nil _) | exact Src.as (As.arr _ _ _ _ rfl (by ((try simp only [MM]);(try omega);done))) | exact Src.as (As.row _ _ _ _ _ rfl rfl)));(all_goals fail_if_success apply Mk.i)) | ((with_reducible apply ca_P);focus (apply Rf.i;rfl)) | ((with_reducible apply cf_P);focus (apply Rf.i;rfl)) | ((with_reducible first | apply S | apply S.1 | apply S.2 | apply S.2.1 | apply S.2.2 | apply S.2.2.1 | apply S.2.2.2 | apply S.2.2.2.1 | apply S.2.2.2.2 | apply S.2.2.2.2.1 | apply S.2.2.2.2.2 | apply S.2.2.2.2.2.1 | apply S.2.2.2.2.2.2);(repeat any_goals first | exact mp_z | apply mp_s | exact rs_z | apply rs_t | apply rs_n | apply rs_c);(repeat any_goals first | (apply Lk.i;(simp only [↓LL,↓reduceIte,Nat.reduceEqDiff,F];(try rfl);done)) | (apply Rf.i;first | rfl | assumption) | (apply Vl.i;((try simp (disch:=omega) only [VV,↓reduceIte,peqI,encP,F,V]);(try rfl);done)) | (apply Am.i;assumption) | (apply Pu.i;((try simp only [↓reduceIte,UU,RR,Nat.reduceAdd,Nat.reduceEqDiff,cellsP,putP,fillQ,flatQ,shP,sh1,encP]);(try rfl);done)) | (apply Om.i;((try simp only [MM]);(try omega);done)) | (apply Vw.i;first | exact As.sl _ _ | exact As.nil _ | exact As.arr _ _ _ _ rfl (by ((try simp only [MM]);(try omega);done)) | exact As.row _ _ _ _ _ rfl rfl | exact Src.str _ | exact Src.as (As.sl _ _) | exact Src.as (As.nil _) | exact Src.as (As.arr _ _ _ _ rfl (by ((try simp only [MM]);(try omega);done))) | exact Src.as (As.row _ _ _ _ _ rfl rfl)));(all_goals fail_if_success apply Mk.i)) | ((fail;skip);focus ((repeat first | exact Cv.z | (apply Cv.p;focus (apply Rf.i;rfl)) | (apply Cv.a;(focus (apply Rf.i;rfl));(focus (apply Om.i;first | rfl | omega | ((try simp only [MM]);(try omega);done)));(focus (apply Pu.i;((try simp only [↓reduceIte,UU,RR,Nat.reduceAdd,Nat.reduceEqDiff,cellsP,putP,fillQ,flatQ,shP,sh1,encP]);(try rfl);done)))) | (apply Cv.r;(iterate 5 (focus (apply Rf.i;rfl)));(focus (apply Pu.i;((try simp only [↓reduceIte,UU,RR,Nat.reduceAdd,Nat.reduceEqDiff,cellsP,putP,fillQ,flatQ,shP,sh1,encP]);(try rfl);done)))));done))));exact k0.o):G:=h F V S ⟨a0⟩
theorem Wp1 {FP VP SP A0 G:Prop} (F:FP) (V:VP) (S:SP) (a0:A0) (h:FP→VP→SP→Kp A0→G:=by intro F V S k0;(repeat (first | ((with_reducible apply S.1);(repeat any_goals first | exact mp_z | apply mp_s | exact rs_z | apply rs_t | apply rs_n | apply rs_c);(repeat any_goals first | (apply Lk.i;(simp only [↓LL,↓reduceIte,Nat.reduceEqDiff,F];(try rfl);done)) | (apply Rf.i;first | rfl | assumption) | (apply Vl.i;((try simp (disch:=omega) only [VV,↓reduceIte,peqI,encP,F,V]);(try rfl);done)) | (apply Am.i;assumption) | (apply Pu.i;((try simp only [↓reduceIte,UU,RR,Nat.reduceAdd,Nat.reduceEqDiff,cellsP,putP,fillQ,flatQ,shP,sh1,encP]);(try rfl);done)) | (apply Om.i;((try simp only [MM]);(try omega);done)) | (apply Vw.i;first | exact As.sl _ _ | exact As.nil _ | exact As.arr _ _ _ _ rfl (by ((try simp only [MM]);(try omega);done)) | exact As.row _ _ _ _ _ rfl rfl | exact Src.str _ | exact Src.as (As.sl _ _) | exact Src.as (As.nil _) | exact Src.as (As.arr _ _ _ _ rfl (by ((try simp only [MM]);(try omega);done))) | exact Src.as (As.row _ _ _ _ _ rfl rfl)));(all_goals fail_if_success apply Mk.i)) | with_reducible (first | apply w_sq | apply w_reg | apply p_nil | apply t_nor | apply gs1 | apply gs2 | apply gs3 | apply gs4 | apply gs5 | apply ps1 | apply ps2 | apply w_ret | apply w_skip | apply w_exit | apply t_exit | apply t_ret | apply i_nor | apply i_exit | apply i_ret | apply w_blk | apply w_scp | apply g_nor | apply g_ret | apply w_goto | apply t_goto | apply i_goto | apply k_nor | apply k_ret | apply k_exit | apply k_goto) | (with_reducible refine i_exit' ?_) | ((with_reducible first | apply q_mv | apply q_bin | apply q_gd | apply q_pk | apply q_cvt | apply g_ld | apply g_fad | apply q_cd | apply q_ext | apply q_fld | apply q_fldn | apply g_ln | apply ld_V | apply fd_V | apply ln_S | apply q_lns | apply q_un | apply q_eqB | apply q_eqI | apply g_iad | apply id_S | apply ld_I | apply ld_E | apply ld_En | apply ld_Vn | apply ld_O | apply ld_OI | apply ld_OE | apply ld_On | apply ld_W | apply ld_R | apply ld_Rn | apply fd_E | apply fd_R | apply fd_O | apply id_O | apply id_A | apply id_R | apply ln_0 | apply ln_O | apply ln_A | apply ln_R | apply g_st | apply st_V | apply st_VK | apply st_O | apply st_I | apply st_B | apply st_E | apply g_mk | apply mk_P | apply mk_G | apply g_ta | apply ta_Y1 | apply ta_Y0 | apply ta_N | apply ta_I | apply g_nl | apply nl_F1 | apply nl_F0 | apply nl_S0 | apply nl_So | apply nl_P | apply g_sl | apply sl_Sa | apply sl_S0 | apply sl_Sn | apply sl_S | apply sl_N | apply sl_O | apply g_rt | apply rt_o1 | apply rt_1a | apply rt_o2 | apply rt_o3 | apply rt_1 | apply rt_n | apply q_new | apply q_box | apply q_bslQ | apply q_bldQ | apply q_mksI | apply q_mksB | apply q_mst | apply q_appO | apply q_appK | apply q_apzO | apply q_apzK | apply q_cpy | apply q_b2s | apply q_s2b | apply q_str | apply q_ixs | apply q_slS | apply q_mkF | apply q_mn | apply q_mx | apply q_chk | apply g_ca | apply aft_i | apply afS_i | apply g_cf | apply q_eqE);(repeat any_goals first | exact mp_z | apply mp_s | exact rs_z | apply rs_t | apply rs_n | apply rs_c);(repeat any_goals first | (apply Lk.i;(simp only [↓LL,↓reduceIte,Nat.reduceEqDiff,F];(try rfl);done)) | (apply Rf.i;first | rfl | assumption) | (apply Vl.i;((try simp (disch:=omega) only [VV,↓reduceIte,peqI,encP,F,V]);(try rfl);done)) | (apply Am.i;assumption) | (apply Pu.i;((try simp only [↓reduceIte,UU,RR,Nat.reduceAdd,Nat.reduceEqDiff,cellsP,putP,fillQ,flatQ,shP,sh1,encP]);(try rfl);done)) | (apply Om.i;((try simp only [MM]);(try omega);done)) | (apply Vw.i;first | exact As.sl _ _ | exact As.nil _ | exact As.arr _ _ _ _ rfl (by ((try simp only [MM]);(try omega);done)) | exact As.row _ _ _ _ _ rfl rfl | exact Src.str _ | exact Src.as (As.sl _ _) | exact Src.as (As.nil _) | exact Src.as (As.arr _ _ _ _ rfl (by ((try simp only [MM]);(try omega);done))) | exact Src.as (As.row _ _ _ _ _ rfl rfl)));(all_goals fail_if_success apply Mk.i)) | ((with_reducible apply ca_P);focus (apply Rf.i;rfl)) | ((with_reducible apply cf_P);focus (apply Rf.i;rfl)) | ((with_reducible first | apply S | apply S.1 | apply S.2 | apply S.2.1 | apply S.2.2 | apply S.2.2.1 | apply S.2.2.2 | apply S.2.2.2.1 | apply S.2.2.2.2 | apply S.2.2.2.2.1 | apply S.2.2.2.2.2 | apply S.2.2.2.2.2.1 | apply S.2.2.2.2.2.2);(repeat any_goals first | exact mp_z | apply mp_s | exact rs_z | apply rs_t | apply rs_n | apply rs_c);(repeat any_goals first | (apply Lk.i;(simp only [↓LL,↓reduceIte,Nat.reduceEqDiff,F];(try rfl);done)) | (apply Rf.i;first | rfl | assumption) | (apply Vl.i;((try simp (disch:=omega) only [VV,↓reduceIte,peqI,encP,F,V]);(try rfl);done)) | (apply Am.i;assumption) | (apply Pu.i;((try simp only [↓reduceIte,UU,RR,Nat.reduceAdd,Nat.reduceEqDiff,cellsP,putP,fillQ,flatQ,shP,sh1,encP]);(try rfl);done)) | (apply Om.i;((try simp only [MM]);(try omega);done)) | (apply Vw.i;first | exact As.sl _ _ | exact As.nil _ | exact As.arr _ _ _ _ rfl (by ((try simp only [MM]);(try omega);done)) | exact As.row _ _ _ _ _ rfl rfl | exact Src.str _ | exact Src.as (As.sl _ _) | exact Src.as (As.nil _) | exact Src.as (As.arr _ _ _ _ rfl (by ((try simp only [MM]);(try omega);done))) | exact Src.as (As.row _ _ _ _ _ rfl rfl)));(all_goals fail_if_success apply Mk.i)) | ((with_reducible apply ca_V);focus ((repeat first | exact Cv.z | (apply Cv.p;focus (apply Rf.i;rfl)) | (apply Cv.a;(focus (apply Rf.i;rfl));(focus (apply Om.i;first | rfl | omega | ((try simp only [MM]);(try omega);done)));(focus (apply Pu.i;((try simp only [↓reduceIte,UU,RR,Nat.reduceAdd,Nat.reduceEqDiff,cellsP,putP,fillQ,flatQ,shP,sh1,encP]);(try rfl);done)))) | (apply Cv.r;(iterate 5 (focus (apply Rf.i;rfl)));(focus (apply Pu.i;((try simp only [↓reduceIte,UU,RR,Nat.reduceAdd,Nat.reduceEqDiff,cellsP,putP,fillQ,flatQ,shP,sh1,encP]);(try rfl);done)))));done))));exact k0.o):G:=h F V S ⟨a0⟩
theorem VwA {p:Prop} (h:p:=by first | exact As.sl _ _ | exact As.nil _ | exact As.arr _ _ _ _ rfl (by ((try simp only [MM]);(try omega);done)) | exact As.row _ _ _ _ _ rfl rfl | exact Src.str _ | exact Src.as (As.sl _ _) | exact Src.as (As.nil _) | exact Src.as (As.arr _ _ _ _ rfl (by ((try simp only [MM]);(try omega);done))) | exact Src.as (As.row _ _ _ _ _ rfl rfl)):p:=h
end Go.Proofs.Ytcffpnlochillaa.Pv
namespace Go.Proofs.Ytcffpnlochillaa.Ab
abbrev xM (a b:Nat):CO:=⟨some a,none,false,.f (.mv (T b))⟩
abbrev xN (a b:Nat) (c:Bool) (d:Nat):CO:=⟨some a,some (b,c),false,.f (.mv (T d))⟩
abbrev xX (a b c:Nat):CO:=⟨some a,none,false,.f (.ext (T b) c)⟩
abbrev xF (a:Nat) (f:FOp):CO:=⟨some a,none,false,.f f⟩
abbrev xG (a b:Nat) (c:Bool) (f:FOp):CO:=⟨some a,some (b,c),false,.f f⟩
abbrev xE (a:Nat) (f:EOp):CO:=⟨some a,none,false,.e f⟩
abbrev xU (f:EOp):CO:=⟨none,none,false,.e f⟩
abbrev xZ (n:Int):Operand:=C (.int .i64 n)
end Go.Proofs.Ytcffpnlochillaa.Ab
namespace Go.Proofs.Ytcffpnlochillaa.Pv
end Go.Proofs.Ytcffpnlochillaa.Pv
end
