/- A heap of plain values, walks over it, and functions of the program met by them: no statement of the set is proved in this text. -/
import Derived.Test.YtcffpnlochillaaKb03
import Derived.Test.YtcffpnlochillaaKb17
import Derived.Test.YtcffpnlochillaaKb20
import Derived.Test.YtcffpnlochillaaKb22
import Derived.Test.YtcffpnlochillaaKb23
set_option linter.unusedVariables false
set_option linter.unusedSimpArgs false
set_option maxRecDepth 100000
set_option maxHeartbeats 4000000
section
namespace Go.Proofs.Ytcffpnlochillaa.Pv
open Go.RowKit Go.Proofs.Ytcffpnlochillaa.Ab Go.Proofs.Ytcffpnlochillaa.AbP Go.Proofs.Ytcffpnlochillaa.Num
section
variable {P:Program} {Z:Bs} {K:Env→List OB→Prop} {Q:QP} {e:Env} {s s':List OB} {cs:List CO} {pr:List Operand} {d:Option Nat} {kp:Bool} {es n b o i:Nat} {l c:List PV} {D':D} {q:PV}
theorem Gh.frzW {D':D} {b' n' j:Nat} {l:List D'.T} (hb:s[b]? = some (.row es n c)) (hj:c[j]? = some (.osl b' n')) (hb':s[b']? = some (.arr D' l)) (hn:n'=l.length):Gh Z e s e ((s.set b' .dead).set b (.row es n (c.set j (.sl D' l)))):=fun f h ⟨E,i,S,R⟩=>by
  have hne:b'≠b:=fun e=>by rw [e,hb] at hb';simp at hb'
  obtain ⟨S1,le1⟩:=S.free hb' rfl
  obtain ⟨k,us,q1,q2,q3,q4,qn,q5⟩:=S.ob b _ hb
  have hv:∃ v,us[j]? = some v:=by
    have hlt:j < us.length:=by rw [← q5.1];exact (List.getElem?_eq_some_iff.1 hj).1
    exact ⟨_,List.getElem?_eq_getElem hlt⟩
  obtain ⟨v,hv⟩:=hv
  have hz:=frz_is S hb' hn (q5.2 j _ v hj hv)
  have hb1:(s.set b' .dead)[b]? = some (.row es n c):=by rw [List.getElem?_set,if_neg hne];exact hb
  obtain ⟨k',us',r1,r2,r3,r4,rn,r5⟩:=S1.ob b _ hb1
  have hk:k'=k:=by
    have r1:ups i b' none b=some k':=r1
    rw [ups_ne _ _ (Ne.symm hne)] at r1
    have q1:i b=some k:=q1
    rw [q1] at r1
    exact (Option.some.inj r1).symm
  subst hk
  have hus:us'=us:=by
    rw [q3] at r3
    have:=Option.some.inj r3
    injection this with h1 _ _
    exact h1.symm
  subst hus
  obtain ⟨S2,le2⟩:=S1.upd b (.row es n c) (.row es n (c.set j (.sl D' l))) (ups i b' none b) h _ hb1 rfl (Nat.le_refl _) (fun b2 k2 hb2 _=>⟨hb2,rfl⟩) (fun b2 _ hb2=>.inl ⟨rfl,hb2⟩) rfl
    ⟨fun h=>by simp [OB.isV] at h,fun es' n'' hh _=>⟨n'',Nat.le_refl _,hh,fun _=>rfl⟩⟩
    (fun le=>⟨k',us',(ups_at _ _ _).trans r1,r2,r3,r4,by rw [List.length_set];exact rn,by
      have r6:=r5.mono le
      refine ⟨by rw [List.length_set];exact r6.1,fun a p w hp hw=>?_⟩
      rw [List.getElem?_set] at hp
      by_cases e:j=a
      · subst e
        rw [if_pos rfl] at hp
        split at hp
        · obtain rfl:=Option.some.inj hp
          rw [hv] at hw
          obtain rfl:=Option.some.inj hw
          exact hz.mono le
        · simp at hp
      · rw [if_neg e] at hp
        exact r6.2 a p w hp hw⟩)
  exact ⟨_,_,S2,(R.mono le1).mono le2⟩

theorem Gh.frzC {D':D} {b' n' j:Nat} {l:List D'.T} (hb:s[b]? = some (.var c)) (hj:c[j]? = some (.osl b' n')) (hb':s[b']? = some (.arr D' l)) (hn:n'=l.length):Gh Z e s e ((s.set b' .dead).set b (.var (c.set j (.sl D' l)))):=fun f h ⟨E,i,S,R⟩=>by
  have hne:b'≠b:=fun e=>by rw [e,hb] at hb';simp at hb'
  obtain ⟨S1,le1⟩:=S.free hb' rfl
  obtain ⟨k,us,q1,q2,q3,q4,q5⟩:=S.ob b _ hb
  have hv:∃ v,us[j]? = some v:=by
    have hlt:j < us.length:=by rw [← q5.1];exact (List.getElem?_eq_some_iff.1 hj).1
    exact ⟨_,List.getElem?_eq_getElem hlt⟩
  obtain ⟨v,hv⟩:=hv
  have hz:=frz_is S hb' hn (q5.2 j _ v hj hv)
  have hb1:(s.set b' .dead)[b]? = some (.var c):=by rw [List.getElem?_set,if_neg hne];exact hb
  obtain ⟨k',us',r1,r2,r3,r4,r5⟩:=S1.ob b _ hb1
  have hk:k'=k:=by
    have r1:ups i b' none b=some k':=r1
    rw [ups_ne _ _ (Ne.symm hne)] at r1
    have q1:i b=some k:=q1
    rw [q1] at r1
    exact (Option.some.inj r1).symm
  subst hk
  have hus:us'=us:=by
    rw [q3] at r3
    have:=Option.some.inj r3
    injection this with h1 _ _
    exact h1.symm
  subst hus
  obtain ⟨S2,le2⟩:=S1.upd b (.var c) (.var (c.set j (.sl D' l))) (ups i b' none b) h _ hb1 rfl (Nat.le_refl _) (fun b2 k2 hb2 _=>⟨hb2,rfl⟩) (fun b2 _ hb2=>.inl ⟨rfl,hb2⟩) rfl
    ⟨fun _=>⟨rfl,rfl⟩,fun es n h=>by simp [OB.sig] at h⟩
    (fun le=>⟨k',us',(ups_at _ _ _).trans r1,r2,r3,r4,by
      have r6:=r5.mono le
      refine ⟨by rw [List.length_set];exact r6.1,fun a p w hp hw=>?_⟩
      rw [List.getElem?_set] at hp
      by_cases e:j=a
      · subst e
        rw [if_pos rfl] at hp
        split at hp
        · obtain rfl:=Option.some.inj hp
          rw [hv] at hw
          obtain rfl:=Option.some.inj hw
          exact hz.mono le
        · simp at hp
      · rw [if_neg e] at hp
        exact r6.2 a p w hp hw⟩)
  exact ⟨_,_,S2,(R.mono le1).mono le2⟩

theorem ca_SK {f:FuncId} {ps:List PV} (js:List Nat) (hj:Rf (goodJ s.length js=true)) {l':List PV} {s0:List OB} (hr:Pu (ps.map (renB js)=l')) (hs:Pu (selS js s=s0)) {rs:List PV} (hrs:Mp (pr.map (evE e)=rs)) (hc:Rf (capOk js ps=true)) (ha:Rf (ps.all (argOk s rs)=true)) (hk:PCalls P f l' s0 (AftS P Z pr cs K e s d js)):CaG P Z pr cs K e s d kp f ps:=fun xs hx fr h ⟨E,i,S,R⟩=>by
  have A:=R.map hx
  rw [← hr.o,← hs.o] at hk
  have hcall:=call_SK js hj.o hrs.o hc.o ha.o hk S R A
  refine s_calP (fx:=.func f) (g:=f) (a:=#[]) (b:=#[]) rfl ?_
  have e1:(#[]:Array Value).toList++xs.map (evF fr)++(#[]:Array Value).toList=xs.map (evF fr):=by simp
  rw [e1]
  exact hcall
end
end Go.Proofs.Ytcffpnlochillaa.Pv
end
section
namespace Go.Proofs.Ytcffpnlochillaa.PvW
open Go.RowKit Go.Proofs.Ytcffpnlochillaa.Cd Go.Proofs.Ytcffpnlochillaa.AbP Go.Proofs.Ytcffpnlochillaa.Num Go.Proofs.Ytcffpnlochillaa.Pv
abbrev dProgM:Ab.D:=(.st (.cons (.int .u32) (.cons (.int .u32) (.cons (.int .u64) (.cons (.int .u64) (.cons (.int .u64) (.cons (.int .u64) (.cons (.int .u64) (.cons (.int .u64) .nil)))))))))
abbrev Place4:=Int×Int×Int×List Int

def ownP (b:List Int) (off n:Int):Place4:=(-1,0,n,(b.drop off.toNat).take n.toNat)

def findP (b:List Int) (off n:Int):List dProgM.T→Nat→Place4
  | [],_=>ownP b off n
  | x::l,i=>if 0 < n∧@Eq Int x.1 1∧@LE.le Int _ x.2.2.1 off∧withinB (off - x.2.2.1) n x.2.2.2.2.2.1=true then (i,off - x.2.2.1,n,[]) else findP b off n l (i+1)
section
variable {K:PV→List OB→Prop} {b:List Int} {w big:Bool} {o ab ty ma en po so fl pn sn sx np ns f0 f1 f2 f3 f4 f5 f6 f7 f8 f9 st:Int} {loads:List dProgM.T} {segs:List dSeg.T} {secs:List dSec.T}
theorem fclone_spec {l:List Int} (hm:Om (l.length≤1000000)) (hk:K (.sl (.int .u8) l) []):PCalls Try.prog 20 [.sl (.int .u8) l] [] K:=by
  have hm:=hm.o
  refine told_callP bytes_Clone.told fun Z hZ=>?_
  unfold bytes_Clone.c
  refine W1 trivial trivial trivial ?_
  refine nl_Sl fun r hr=>?_
  cases r
  · show pops _ _ _ _ _ (putE _ _ (.bool false)) _
    refine Wn1 trivial trivial (@oArr 0 (.int .u8)) ?_
    apply x_frz 2;(repeat any_goals first | exact mp_z | apply mp_s | exact rs_z | apply rs_t | apply rs_n | apply rs_c);(repeat any_goals first | (apply Lk.i;(simp only [↓LL,↓reduceIte,Nat.reduceEqDiff];(try rfl);done)) | (apply Rf.i;first | rfl | assumption) | (apply Vl.i;((try simp (disch:=omega) only [VV,↓reduceIte,peqI,encP]);(try rfl);done)) | (apply Am.i;assumption) | (apply Pu.i;((try simp only [↓reduceIte,UU,RR,Nat.reduceAdd,Nat.reduceEqDiff,cellsP,putP,fillQ,flatQ,shP,sh1,encP]);(try rfl);done)) | (apply Om.i;((try simp only [MM]);(try omega);done)) | (apply Vw.i;exact VwA));(all_goals fail_if_success apply Mk.i)
    refine W1 trivial trivial trivial ?_
    exact hk
  · obtain rfl:=hr rfl
    show pops _ _ _ _ _ (putE _ _ (.bool true)) _
    refine Wn1 trivial trivial trivial ?_
    apply x_virt 2 (.int .u8);(repeat any_goals first | exact mp_z | apply mp_s | exact rs_z | apply rs_t | apply rs_n | apply rs_c);(repeat any_goals first | (apply Lk.i;(simp only [↓LL,↓reduceIte,Nat.reduceEqDiff];(try rfl);done)) | (apply Rf.i;first | rfl | assumption) | (apply Vl.i;((try simp (disch:=omega) only [VV,↓reduceIte,peqI,encP]);(try rfl);done)) | (apply Am.i;assumption) | (apply Pu.i;((try simp only [↓reduceIte,UU,RR,Nat.reduceAdd,Nat.reduceEqDiff,cellsP,putP,fillQ,flatQ,shP,sh1,encP]);(try rfl);done)) | (apply Om.i;((try simp only [MM]);(try omega);done)) | (apply Vw.i;exact VwA));(all_goals fail_if_success apply Mk.i)
    apply x_frz 2;(repeat any_goals first | exact mp_z | apply mp_s | exact rs_z | apply rs_t | apply rs_n | apply rs_c);(repeat any_goals first | (apply Lk.i;(simp only [↓LL,↓reduceIte,Nat.reduceEqDiff];(try rfl);done)) | (apply Rf.i;first | rfl | assumption) | (apply Vl.i;((try simp (disch:=omega) only [VV,↓reduceIte,peqI,encP]);(try rfl);done)) | (apply Am.i;assumption) | (apply Pu.i;((try simp only [↓reduceIte,UU,RR,Nat.reduceAdd,Nat.reduceEqDiff,cellsP,putP,fillQ,flatQ,shP,sh1,encP]);(try rfl);done)) | (apply Om.i;((try simp only [MM]);(try omega);done)) | (apply Vw.i;exact VwA));(all_goals fail_if_success apply Mk.i)
    refine W1 trivial trivial trivial ?_
    exact hk
end
end Go.Proofs.Ytcffpnlochillaa.PvW
end
