/- A heap of plain values, walks over it, and functions of the program met by them: no statement of the set is proved in this text. -/
import Derived.Test.YtcffpnlochillaaGreatDoorKb03
import Derived.Test.YtcffpnlochillaaGreatDoorKb12
import Derived.Test.YtcffpnlochillaaGreatDoorKb14
import Derived.Test.YtcffpnlochillaaGreatDoorKb15
import Derived.Test.YtcffpnlochillaaGreatDoorKb16
set_option linter.unusedVariables false
set_option linter.unusedSimpArgs false
set_option maxRecDepth 100000
set_option maxHeartbeats 4000000
section
namespace Go.Proofs.YtcffpnlochillaaGreatDoor.Pv
open Go.RowKit Go.Proofs.YtcffpnlochillaaGreatDoor.Ab Go.Proofs.YtcffpnlochillaaGreatDoor.AbP Go.Proofs.YtcffpnlochillaaGreatDoor.Num
section
variable {P:Program} {Z:Bs} {K:Env→List OB→Prop} {Q:QP} {e:Env} {s s':List OB} {cs:List CO} {pr:List Operand} {d:Option Nat} {kp:Bool} {es n b o i:Nat} {l c:List PV} {D':D} {q:PV}
theorem Gh.frzW {D':D} {b' n' j:Nat} {l:List D'.T} (hb:s[b]? = some (.row es n c)) (hj:c[j]? = some (.osl b' n')) (hb':s[b']? = some (.arr D' l)) (hn:n'=l.length):Gh Z e s e ((s.set b' .dead).set b (.row es n (c.set j (.sl D' l)))):=fun f h ⟨E,i,S,R⟩=>by
  have hne:b'≠b:=fun e=>by rw [e,hb] at hb';simp at hb'
  obtain ⟨S1,le1⟩:=S.free hb' rfl
  obtain ⟨k,us,q1,q2,q3,q4,qn,q5⟩:=S.ob b _ hb
  have hv:∃ v,us[j]? = some v:=by
    have hlt:j < us.length:=by rw [← q5.1];exact (List.getElem?_eq_some_iff.1 hj).1
    exact ⟨_,List.getElem?_eq_getElem hlt⟩
  obtain ⟨v,hv⟩:=hv
  have hz:=frz_is S hb' hn (q5.2 j _ v hj hv)
  have hb1:(s.set b' .dead)[b]? = some (.row es n c):=by rw [List.getElem?_set,if_neg hne];exact hb
  obtain ⟨k',us',r1,r2,r3,r4,rn,r5⟩:=S1.ob b _ hb1
  have hk:k'=k:=by
    have r1:ups i b' none b=some k':=r1
    rw [ups_ne _ _ (Ne.symm hne)] at r1
    have q1:i b=some k:=q1
    rw [q1] at r1
    exact (Option.some.inj r1).symm
  subst hk
  have hus:us'=us:=by
    rw [q3] at r3
    have:=Option.some.inj r3
    injection this with h1 _ _
    exact h1.symm
  subst hus
  obtain ⟨S2,le2⟩:=S1.upd b (.row es n c) (.row es n (c.set j (.sl D' l))) (ups i b' none b) h _ hb1 rfl (Nat.le_refl _) (fun b2 k2 hb2 _=>⟨hb2,rfl⟩) (fun b2 _ hb2=>.inl ⟨rfl,hb2⟩) rfl
    ⟨fun h=>by simp [OB.isV] at h,fun es' n'' hh _=>⟨n'',Nat.le_refl _,hh,fun _=>rfl⟩⟩
    (fun le=>⟨k',us',(ups_at _ _ _).trans r1,r2,r3,r4,by rw [List.length_set];exact rn,by
      have r6:=r5.mono le
      refine ⟨by rw [List.length_set];exact r6.1,fun a p w hp hw=>?_⟩
      rw [List.getElem?_set] at hp
      by_cases e:j=a
      · subst e
        rw [if_pos rfl] at hp
        split at hp
        · obtain rfl:=Option.some.inj hp
          rw [hv] at hw
          obtain rfl:=Option.some.inj hw
          exact hz.mono le
        · simp at hp
      · rw [if_neg e] at hp
        exact r6.2 a p w hp hw⟩)
  exact ⟨_,_,S2,(R.mono le1).mono le2⟩

theorem Gh.frzC {D':D} {b' n' j:Nat} {l:List D'.T} (hb:s[b]? = some (.var c)) (hj:c[j]? = some (.osl b' n')) (hb':s[b']? = some (.arr D' l)) (hn:n'=l.length):Gh Z e s e ((s.set b' .dead).set b (.var (c.set j (.sl D' l)))):=fun f h ⟨E,i,S,R⟩=>by
  have hne:b'≠b:=fun e=>by rw [e,hb] at hb';simp at hb'
  obtain ⟨S1,le1⟩:=S.free hb' rfl
  obtain ⟨k,us,q1,q2,q3,q4,q5⟩:=S.ob b _ hb
  have hv:∃ v,us[j]? = some v:=by
    have hlt:j < us.length:=by rw [← q5.1];exact (List.getElem?_eq_some_iff.1 hj).1
    exact ⟨_,List.getElem?_eq_getElem hlt⟩
  obtain ⟨v,hv⟩:=hv
  have hz:=frz_is S hb' hn (q5.2 j _ v hj hv)
  have hb1:(s.set b' .dead)[b]? = some (.var c):=by rw [List.getElem?_set,if_neg hne];exact hb
  obtain ⟨k',us',r1,r2,r3,r4,r5⟩:=S1.ob b _ hb1
  have hk:k'=k:=by
    have r1:ups i b' none b=some k':=r1
    rw [ups_ne _ _ (Ne.symm hne)] at r1
    have q1:i b=some k:=q1
    rw [q1] at r1
    exact (Option.some.inj r1).symm
  subst hk
  have hus:us'=us:=by
    rw [q3] at r3
    have:=Option.some.inj r3
    injection this with h1 _ _
    exact h1.symm
  subst hus
  obtain ⟨S2,le2⟩:=S1.upd b (.var c) (.var (c.set j (.sl D' l))) (ups i b' none b) h _ hb1 rfl (Nat.le_refl _) (fun b2 k2 hb2 _=>⟨hb2,rfl⟩) (fun b2 _ hb2=>.inl ⟨rfl,hb2⟩) rfl
    ⟨fun _=>⟨rfl,rfl⟩,fun es n h=>by simp [OB.sig] at h⟩
    (fun le=>⟨k',us',(ups_at _ _ _).trans r1,r2,r3,r4,by
      have r6:=r5.mono le
      refine ⟨by rw [List.length_set];exact r6.1,fun a p w hp hw=>?_⟩
      rw [List.getElem?_set] at hp
      by_cases e:j=a
      · subst e
        rw [if_pos rfl] at hp
        split at hp
        · obtain rfl:=Option.some.inj hp
          rw [hv] at hw
          obtain rfl:=Option.some.inj hw
          exact hz.mono le
        · simp at hp
      · rw [if_neg e] at hp
        exact r6.2 a p w hp hw⟩)
  exact ⟨_,_,S2,(R.mono le1).mono le2⟩

theorem ca_SK {f:FuncId} {ps:List PV} (js:List Nat) (hj:Rf (goodJ s.length js=true)) {l':List PV} {s0:List OB} (hr:Pu (ps.map (renB js)=l')) (hs:Pu (selS js s=s0)) {rs:List PV} (hrs:Mp (pr.map (evE e)=rs)) (hc:Rf (capOk js ps=true)) (ha:Rf (ps.all (argOk s rs)=true)) (hk:PCalls P f l' s0 (AftS P Z pr cs K e s d js)):CaG P Z pr cs K e s d kp f ps:=fun xs hx fr h ⟨E,i,S,R⟩=>by
  have A:=R.map hx
  rw [← hr.o,← hs.o] at hk
  have hcall:=call_SK js hj.o hrs.o hc.o ha.o hk S R A
  refine s_calP (fx:=.func f) (g:=f) (a:=#[]) (b:=#[]) rfl ?_
  have e1:(#[]:Array Value).toList++xs.map (evF fr)++(#[]:Array Value).toList=xs.map (evF fr):=by simp
  rw [e1]
  exact hcall
end
end Go.Proofs.YtcffpnlochillaaGreatDoor.Pv
end
section
namespace Go.Proofs.YtcffpnlochillaaGreatDoor.PvW
open Go.RowKit Go.Proofs.YtcffpnlochillaaGreatDoor.Cd Go.Proofs.YtcffpnlochillaaGreatDoor.AbP Go.Proofs.YtcffpnlochillaaGreatDoor.Num Go.Proofs.YtcffpnlochillaaGreatDoor.Pv
abbrev dProgM:Ab.D:=(.st (.cons (.int .u32) (.cons (.int .u32) (.cons (.int .u64) (.cons (.int .u64) (.cons (.int .u64) (.cons (.int .u64) (.cons (.int .u64) (.cons (.int .u64) .nil)))))))))
abbrev Place4:=Int×Int×Int×List Int

def ownP (b:List Int) (off n:Int):Place4:=(-1,0,n,(b.drop off.toNat).take n.toNat)

def findP (b:List Int) (off n:Int):List dProgM.T→Nat→Place4
  | [],_=>ownP b off n
  | x::l,i=>if 0 < n∧@Eq Int x.1 1∧@LE.le Int _ x.2.2.1 off∧withinB (off - x.2.2.1) n x.2.2.2.2.2.1=true then (i,off - x.2.2.1,n,[]) else findP b off n l (i+1)
abbrev pvPlace (p:Place4):PV:=.agg [.int .i64 p.1,.int .u64 p.2.1,.int .u64 p.2.2.1,.sl (.int .u8) p.2.2.2]
section
variable {K:PV→List OB→Prop} {b:List Int} {w big:Bool} {o ab ty ma en po so fl pn sn sx np ns f0 f1 f2 f3 f4 f5 f6 f7 f8 f9 st:Int} {loads:List dProgM.T} {segs:List dSeg.T} {secs:List dSec.T}
theorem fspot_spec {a c:Int} (ha:Om (0≤a∧a≤9223372036854775807)) (hk:K (eSpot a c) []):PCalls Tryz.prog 39 [.int .u64 a,.int .i64 c] [] K:=by
  have ha:=ha.o
  refine told_callP file_spot.told fun Z hZ=>?_
  unfold file_spot.c
  refine W1 trivial @DD trivial ?_
  exact hk
theorem fplace_spec {x y:Int} (hk:K (.int .u64 (if w=true then y else x)) [.var [.sl (.int .u8) b,.bool w,.bool big,.int .u8 o,.int .u8 ab,.int .u16 ty,.int .u16 ma,.int .u64 en,.int .u64 po,.int .u64 so,.int .u32 fl,.int .u16 pn,.int .u16 sn,.int .u16 sx,.bool w,.bool big,.int .u64 np,.int .u64 ns,.int .u32 f0,.int .u32 f1,.int .u64 f2,.int .u64 f3,.int .u64 f4,.int .u64 f5,.int .u32 f6,.int .u32 f7,.int .u64 f8,.int .u64 f9,.bool w,.bool big,.int .u8 o,.int .u8 ab,.int .u16 ty,.int .u16 ma,.int .u32 fl,.int .u64 en,.osl 2 segs.length,.osl 3 secs.length,.int .i64 st,.osl 1 loads.length],.arr dProgM loads,.arr dSeg segs,.arr dSec secs]):PCalls Tryz.prog 96 [.ptr 0 0,.int .u64 x,.int .u64 y] [.var [.sl (.int .u8) b,.bool w,.bool big,.int .u8 o,.int .u8 ab,.int .u16 ty,.int .u16 ma,.int .u64 en,.int .u64 po,.int .u64 so,.int .u32 fl,.int .u16 pn,.int .u16 sn,.int .u16 sx,.bool w,.bool big,.int .u64 np,.int .u64 ns,.int .u32 f0,.int .u32 f1,.int .u64 f2,.int .u64 f3,.int .u64 f4,.int .u64 f5,.int .u32 f6,.int .u32 f7,.int .u64 f8,.int .u64 f9,.bool w,.bool big,.int .u8 o,.int .u8 ab,.int .u16 ty,.int .u16 ma,.int .u32 fl,.int .u64 en,.osl 2 segs.length,.osl 3 secs.length,.int .i64 st,.osl 1 loads.length],.arr dProgM loads,.arr dSeg segs,.arr dSec secs] K:=by
  refine told_callS file_parser_place.told fun Z hZ=>?_
  unfold file_parser_place.c
  cases w
  · refine W1 trivial @DD trivial ?_
    exact ⟨_,rfl,rfl,hk⟩
  · refine W1 trivial @DD trivial ?_
    exact ⟨_,rfl,rfl,hk⟩
theorem fhas_spec {a n:Int} (ha:Om (0≤a∧a≤18446744073709551615)) (hb:Om (b.length≤1000000)) (hk:K (.bool (withinB a n b.length)) [.var [.sl (.int .u8) b,.bool w,.bool big,.int .u8 o,.int .u8 ab,.int .u16 ty,.int .u16 ma,.int .u64 en,.int .u64 po,.int .u64 so,.int .u32 fl,.int .u16 pn,.int .u16 sn,.int .u16 sx,.bool w,.bool big,.int .u64 np,.int .u64 ns,.int .u32 f0,.int .u32 f1,.int .u64 f2,.int .u64 f3,.int .u64 f4,.int .u64 f5,.int .u32 f6,.int .u32 f7,.int .u64 f8,.int .u64 f9,.bool w,.bool big,.int .u8 o,.int .u8 ab,.int .u16 ty,.int .u16 ma,.int .u32 fl,.int .u64 en,.osl 2 segs.length,.osl 3 secs.length,.int .i64 st,.osl 1 loads.length],.arr dProgM loads,.arr dSeg segs,.arr dSec secs]):PCalls Tryz.prog 98 [.ptr 0 0,.int .u64 a,.int .u64 n] [.var [.sl (.int .u8) b,.bool w,.bool big,.int .u8 o,.int .u8 ab,.int .u16 ty,.int .u16 ma,.int .u64 en,.int .u64 po,.int .u64 so,.int .u32 fl,.int .u16 pn,.int .u16 sn,.int .u16 sx,.bool w,.bool big,.int .u64 np,.int .u64 ns,.int .u32 f0,.int .u32 f1,.int .u64 f2,.int .u64 f3,.int .u64 f4,.int .u64 f5,.int .u32 f6,.int .u32 f7,.int .u64 f8,.int .u64 f9,.bool w,.bool big,.int .u8 o,.int .u8 ab,.int .u16 ty,.int .u16 ma,.int .u32 fl,.int .u64 en,.osl 2 segs.length,.osl 3 secs.length,.int .i64 st,.osl 1 loads.length],.arr dProgM loads,.arr dSeg segs,.arr dSec secs] K:=by
  have ha:=ha.o
  have hb:=hb.o
  refine told_callS file_parser_has.told fun Z hZ=>?_
  unfold file_parser_has.c
  refine W1 trivial @DD @within_spec ?_
  exact ⟨_,rfl,rfl,hk⟩
theorem fclone_spec {l:List Int} (hm:Om (l.length≤1000000)) (hk:K (.sl (.int .u8) l) []):PCalls Tryz.prog 56 [.sl (.int .u8) l] [] K:=by
  have hm:=hm.o
  refine told_callP bytes_Clone.told fun Z hZ=>?_
  unfold bytes_Clone.c
  refine W1 trivial trivial trivial ?_
  refine nl_Sl fun r hr=>?_
  cases r
  · show pops _ _ _ _ _ (putE _ _ (.bool false)) _
    refine Wn1 trivial trivial (@oArr 0 (.int .u8)) ?_
    apply x_frz 2;(repeat any_goals first | exact mp_z | apply mp_s | exact rs_z | apply rs_t | apply rs_n | apply rs_c);(repeat any_goals first | (apply Lk.i;(simp only [↓LL,↓reduceIte,Nat.reduceEqDiff];(try rfl);done)) | (apply Rf.i;first | rfl | assumption) | (apply Vl.i;((try simp (disch:=omega) only [VV,↓reduceIte,peqI,encP]);(try rfl);done)) | (apply Am.i;assumption) | (apply Pu.i;((try simp only [↓reduceIte,UU,RR,Nat.reduceAdd,Nat.reduceEqDiff,cellsP,putP,fillQ,flatQ,shP,sh1,encP]);(try rfl);done)) | (apply Om.i;((try simp only [MM]);(try omega);done)) | (apply Vw.i;exact VwA));(all_goals fail_if_success apply Mk.i)
    refine W1 trivial trivial trivial ?_
    exact hk
  · obtain rfl:=hr rfl
    show pops _ _ _ _ _ (putE _ _ (.bool true)) _
    refine Wn1 trivial trivial trivial ?_
    apply x_virt 2 (.int .u8);(repeat any_goals first | exact mp_z | apply mp_s | exact rs_z | apply rs_t | apply rs_n | apply rs_c);(repeat any_goals first | (apply Lk.i;(simp only [↓LL,↓reduceIte,Nat.reduceEqDiff];(try rfl);done)) | (apply Rf.i;first | rfl | assumption) | (apply Vl.i;((try simp (disch:=omega) only [VV,↓reduceIte,peqI,encP]);(try rfl);done)) | (apply Am.i;assumption) | (apply Pu.i;((try simp only [↓reduceIte,UU,RR,Nat.reduceAdd,Nat.reduceEqDiff,cellsP,putP,fillQ,flatQ,shP,sh1,encP]);(try rfl);done)) | (apply Om.i;((try simp only [MM]);(try omega);done)) | (apply Vw.i;exact VwA));(all_goals fail_if_success apply Mk.i)
    apply x_frz 2;(repeat any_goals first | exact mp_z | apply mp_s | exact rs_z | apply rs_t | apply rs_n | apply rs_c);(repeat any_goals first | (apply Lk.i;(simp only [↓LL,↓reduceIte,Nat.reduceEqDiff];(try rfl);done)) | (apply Rf.i;first | rfl | assumption) | (apply Vl.i;((try simp (disch:=omega) only [VV,↓reduceIte,peqI,encP]);(try rfl);done)) | (apply Am.i;assumption) | (apply Pu.i;((try simp only [↓reduceIte,UU,RR,Nat.reduceAdd,Nat.reduceEqDiff,cellsP,putP,fillQ,flatQ,shP,sh1,encP]);(try rfl);done)) | (apply Om.i;((try simp only [MM]);(try omega);done)) | (apply Vw.i;exact VwA));(all_goals fail_if_success apply Mk.i)
    refine W1 trivial trivial trivial ?_
    exact hk
theorem fown_spec {off n:Int} (ho:Om (0≤off∧off≤18446744073709551615∧0≤n)) (hin:Om (n=0∨off+n≤b.length)) (hb:Om (b.length≤1000000)) (hk:K (pvPlace (ownP b off n)) [.var [.sl (.int .u8) b,.bool w,.bool big,.int .u8 o,.int .u8 ab,.int .u16 ty,.int .u16 ma,.int .u64 en,.int .u64 po,.int .u64 so,.int .u32 fl,.int .u16 pn,.int .u16 sn,.int .u16 sx,.bool w,.bool big,.int .u64 np,.int .u64 ns,.int .u32 f0,.int .u32 f1,.int .u64 f2,.int .u64 f3,.int .u64 f4,.int .u64 f5,.int .u32 f6,.int .u32 f7,.int .u64 f8,.int .u64 f9,.bool w,.bool big,.int .u8 o,.int .u8 ab,.int .u16 ty,.int .u16 ma,.int .u32 fl,.int .u64 en,.osl 2 segs.length,.osl 3 secs.length,.int .i64 st,.osl 1 loads.length],.arr dProgM loads,.arr dSeg segs,.arr dSec secs]):PCalls Tryz.prog 99 [.ptr 0 0,.int .u64 off,.int .u64 n] [.var [.sl (.int .u8) b,.bool w,.bool big,.int .u8 o,.int .u8 ab,.int .u16 ty,.int .u16 ma,.int .u64 en,.int .u64 po,.int .u64 so,.int .u32 fl,.int .u16 pn,.int .u16 sn,.int .u16 sx,.bool w,.bool big,.int .u64 np,.int .u64 ns,.int .u32 f0,.int .u32 f1,.int .u64 f2,.int .u64 f3,.int .u64 f4,.int .u64 f5,.int .u32 f6,.int .u32 f7,.int .u64 f8,.int .u64 f9,.bool w,.bool big,.int .u8 o,.int .u8 ab,.int .u16 ty,.int .u16 ma,.int .u32 fl,.int .u64 en,.osl 2 segs.length,.osl 3 secs.length,.int .i64 st,.osl 1 loads.length],.arr dProgM loads,.arr dSeg segs,.arr dSec secs] K:=by
  have ho:=ho.o
  have hin:=hin.o
  have hb:=hb.o
  refine told_callS file_parser_own.told fun Z hZ=>?_
  unfold file_parser_own.c
  by_cases h0:n=0
  · subst h0
    refine Wn1 trivial @DD trivial ?_
    apply x_virtV 4 3 (.int .u8);(repeat any_goals first | exact mp_z | apply mp_s | exact rs_z | apply rs_t | apply rs_n | apply rs_c);(repeat any_goals first | (apply Lk.i;(simp only [↓LL,↓reduceIte,Nat.reduceEqDiff];(try rfl);done)) | (apply Rf.i;first | rfl | assumption) | (apply Vl.i;((try simp (disch:=omega) only [VV,↓reduceIte,peqI,encP]);(try rfl);done)) | (apply Am.i;assumption) | (apply Pu.i;((try simp only [↓reduceIte,UU,RR,Nat.reduceAdd,Nat.reduceEqDiff,cellsP,putP,fillQ,flatQ,shP,sh1,encP]);(try rfl);done)) | (apply Om.i;((try simp only [MM]);(try omega);done)) | (apply Vw.i;exact VwA));(all_goals fail_if_success apply Mk.i)
    refine ghW (Gh.frzC (b:=4) (j:=3) (b':=5) (D':=.int .u8) (l:=[]) rfl rfl rfl rfl) ?_
    refine W1 trivial trivial trivial ?_
    exact ⟨_,rfl,rfl,hk⟩
  · have hw:IntKind.wrap .u64 (off+n)=off+n:=by rw [wU64];omega
    have e:List.drop off.toNat (List.take (off+n).toNat b)=(b.drop off.toNat).take n.toNat:=by
      rw [List.drop_take]
      congr 1
      omega
    refine W1 trivial (And.intro @DD @hw) trivial ?_
    rw [e]
    refine fclone_spec ⟨by rw [List.length_take,List.length_drop];omega⟩ ?_
    refine W1 trivial @DD trivial ?_
    exact ⟨_,rfl,rfl,hk⟩
end
end Go.Proofs.YtcffpnlochillaaGreatDoor.PvW
end
