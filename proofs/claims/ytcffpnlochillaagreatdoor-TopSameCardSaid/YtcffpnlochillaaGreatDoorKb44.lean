/- A heap of plain values, walks over it, and functions of the program met by them: no statement of the set is proved in this text. -/
import Derived.Test.YtcffpnlochillaaGreatDoorKb12
import Derived.Test.YtcffpnlochillaaGreatDoorKb35
import Derived.Test.YtcffpnlochillaaGreatDoorKb42
import Derived.Test.YtcffpnlochillaaGreatDoorKb43
import Derived.Test.YtcffpnlochillaaGreatDoorRows
import Derived.LaidLaws
import Derived.LaidHandle
import Derived.Stop.Joined
set_option linter.unusedVariables false
set_option linter.unusedSimpArgs false
set_option maxRecDepth 100000
set_option maxHeartbeats 4000000
section
namespace Go.Proofs.YtcffpnlochillaaGreatDoor.Pv
open Go.RowKit Go.Proofs.YtcffpnlochillaaGreatDoor.Ab Go.Proofs.YtcffpnlochillaaGreatDoor.AbP Go.Proofs.YtcffpnlochillaaGreatDoor.Num Go.Proofs.YtcffpnlochillaaGreatDoor.PvW
section
variable {g:World→Prop} {P:Program} {Z:Bs} {K:Env→List OB→Prop} {e:Env} {s s':List OB} {cs:List CO} {pr:List Operand} {d:Option Nat} {kp:Bool}
theorem GCalls.wkA {f:FuncId} {a b:List PV} {K:PV→List OB→Prop} (h:WkA a b) (hk:GCalls g P f b s K):GCalls g P f a s K:=fun hp E i vs hg S A=>hk hp E i vs hg S (h.ok A)
theorem ca_GV {f:FuncId} {ps ps':List PV} {s1:List OB} (hg:g Z.h.old) (hv:Cv s ps ps' s1) (hk:GCalls g P f ps' [] (Aft P Z pr cs K e s1 d)):CaG P Z pr cs K e s d kp f ps:=fun xs ha fr h ⟨E,i,S,R⟩=>by
  obtain ⟨E1,i1,S1,le1,A1,hper⟩:=hv.ok S (R.map ha)
  have A:=perL (X:=⟨Hp.mask h E1,i1,s1⟩) (Y:=⟨Hp.mask h E1,i1,[]⟩) (fun p v q=>per3_PR q (.refl _)) hper A1
  have S0:SR ⟨h,E1,i1,[]⟩ h E1 i1 []:=⟨fun id o h=>by simp at h,fun _ _ _ _ _ h=>by simp at h,rfl,Nat.le_refl _,fun b k hb _=>⟨hb,rfl⟩,fun b ⟨id,o,ho,_⟩=>by simp at ho,.refl _⟩
  refine s_call ((hk h E1 i1 _ (by rw [S.old];exact hg) S0 A).mono fun v h' ⟨p,t,E',i',⟨k1,k2,k3⟩,T,hp⟩=>?_)
  obtain ⟨S',hkp⟩:=S1.frame T k2
  exact ⟨fun _=>hkp,k3 _ _ ⟨E',_,S1.after S',((R.mono le1).mono S'.le).put (shP_PR k1 hp)⟩⟩

def gFn (f:FuncId):Bool:=[15,25,11,29,30].contains f
theorem caGp {f:FuncId} {ps:List PV} (hf:Rf (gFn f=true)) (hg:Am (laidG Z.h.old)) (hper:Rf (ps.all per3=true)) (hk:GCalls laidG P f ps [] (Aft P Z pr cs K e s d)):CaG P Z pr cs K e s d kp f ps:=ca_GP hg hper hk
theorem caGo {f:FuncId} {D':D} {b n:Nat} {l:List D'.T} (hf:Rf (gFn f=true)) (hg:Am (laidG Z.h.old)) (hb:Rf (s[b]? = some (.arr D' l))) (hn:Om (n=l.length)) (hs:Pu (s.set b .dead=s')) (hk:GCalls laidG P f [.sl D' l] [] (Aft P Z pr cs K e s' d)):CaG P Z pr cs K e s d kp f [.osl b n] :=
  ca_GV hg.o (.a hb hn hs .z) hk
end
end Go.Proofs.YtcffpnlochillaaGreatDoor.Pv
end
section
namespace Go.Proofs.YtcffpnlochillaaGreatDoor.PvW
open Go.RowKit Go.Proofs.YtcffpnlochillaaGreatDoor.Cd Go.Proofs.YtcffpnlochillaaGreatDoor.AbP Go.Proofs.YtcffpnlochillaaGreatDoor.Num Go.Proofs.YtcffpnlochillaaGreatDoor.Pv
theorem B_take {l:List Int} (h:B l) (n:Nat):B (l.take n):=fun x hx=>h x (List.mem_of_mem_take hx)
theorem B_drop {l:List Int} (h:B l) (n:Nat):B (l.drop n):=fun x hx=>h x (List.mem_of_mem_drop hx)
theorem lays_B:∀ {L:List Pc} {b:List Int},B b→(∀ p ∈ L,B p.2)→B (lays b L)
  | [],b,hb,_=>hb
  | p::L,b,hb,h=>lays_B (b:=ovl b p.1 p.2) (B_append (B_take hb _) (B_append (h p (by simp)) (B_drop hb _))) (fun q hq=>h q (List.mem_cons_of_mem _ hq))
theorem rep_B (n:Nat):B (List.replicate n 0):=fun x hx=>by
  have:=List.eq_of_mem_replicate hx
  subst this
  exact ⟨by decide,by decide⟩
section
variable {K:PV→List OB→Prop} {w big:Bool} {o ab ty ma en fl st:Int} {segs:List dSeg.T} {secs:List dSec.T}
theorem encB_B (ok:ModelOk w en segs secs st) (hG:SegsN segs) (hN:SecsN secs) (po:PlanOk w segs secs) (hH:HdrN o ab ty ma fl) (he:U64 en):B (encB w big o ab ty ma en fl st segs secs):=by
  obtain ⟨hHN,-⟩:=enc_headN ok po hH he
  refine lays_B (rep_B _) fun p hp=>?_
  unfold encPc at hp
  simp only [List.mem_append] at hp
  rcases hp with ((hp | hp) | hp) | hp
  · rcases List.mem_cons.1 hp with rfl | hp
    · exact headB_B hHN
    · obtain rfl:=List.mem_singleton.1 hp
      exact recB_B _
  · split at hp
    · cases hp
    · obtain rfl:=List.mem_singleton.1 hp
      exact B_append (rep_B _) (recB_B _)
  · obtain ⟨i,x,hx,-,rfl⟩:=pcsL_mem hp
    exact (hG x (List.mem_of_getElem? hx)).bo
  · obtain ⟨i,x,hx,-,rfl⟩:=pcsL_mem hp
    exact (hN x (List.mem_of_getElem? hx)).bo

structure Wr (w:Bool) (o ab ty ma en fl st:Int) (segs:List dSeg.T) (secs:List dSec.T):Prop where
  ok:ModelOk w en segs secs st
  ov:(planV w segs secs).ov=false
  hG:SegsN segs
  hN:SecsN secs
  hGF:SegsF segs
  hNF:SecsF secs
  hH:HdrN o ab ty ma fl
  en:U64 en
theorem Wr.po (W:Wr w o ab ty ma en fl st segs secs):PlanOk w segs secs:=planOk W.ok W.hG W.hN W.ov
theorem Wr.len (W:Wr w o ab ty ma en fl st segs secs):(encB w big o ab ty ma en fl st segs secs).length=(planV w segs secs).sz.toNat∧(encB w big o ab ty ma en fl st segs secs).length≤65536:=by
  have h:=encB_len (big:=big) (o:=o) (ab:=ab) (ty:=ty) (ma:=ma) (fl:=fl) W.ok W.po
  have hz:=W.po.size
  exact ⟨h,by omega⟩
theorem Wr.B (W:Wr w o ab ty ma en fl st segs secs):B (encB w big o ab ty ma en fl st segs secs):=encB_B W.ok W.hG W.hN W.po W.hH W.en
theorem parsed_wr {b:List Int} (h:Parsed b segs secs st):Wr (hdW b) (b.getD 7 0) (b.getD 8 0) ((hdV b).getD 0 0) ((hdV b).getD 1 0) (hdEn b) ((hdV b).getD 6 0) st segs secs:=⟨h.ok,h.ov,h.hG,h.hN,h.hGF,h.hNF,h.hH,h.en⟩

theorem parse_encG (W:Wr w o ab ty ma en fl st segs secs) {rest:List Int} (hB:B rest) (hl:(encB w big o ab ty ma en fl st segs secs).length+rest.length≤65536) (hk:K (.tup [.agg [.bool w,.bool big,.int .u8 o,.int .u8 ab,.int .u16 ty,.int .u16 ma,.int .u32 fl,.int .u64 en,.sl dSeg segs,.sl dSec secs,.int .i64 st],.nilI]) []) :
    GCalls laidG Tryz.prog 15 [.sl (.int .u8) (encB w big o ab ty ma en fl st segs secs++rest)] [] K:=by
  have hlen:=(W.len (big:=big)).1
  have hz:=W.po.size
  obtain ⟨h0,h1,h2,h3,h4,h5,h6⟩:=parse_enc (big:=big) W.ok W.hG W.hN W.hGF W.hNF W.hH W.en W.ov rest (by omega)
  refine parse_G ⟨B_append W.B hB⟩ ⟨by rw [List.length_append];omega⟩ (fun a c h=>by rw [h6] at h;cases h) (fun segs' secs' st' h=>?_)
  rw [h6] at h
  simp only [PRes.ok.injEq] at h
  obtain ⟨rfl,rfl,rfl⟩:=h
  unfold mdP
  rw [h1,h2,h3,h4,h5]
  exact hk
theorem parse_encG0 (W:Wr w o ab ty ma en fl st segs secs) (hk:K (.tup [.agg [.bool w,.bool big,.int .u8 o,.int .u8 ab,.int .u16 ty,.int .u16 ma,.int .u32 fl,.int .u64 en,.sl dSeg segs,.sl dSec secs,.int .i64 st],.nilI]) []) :
    GCalls laidG Tryz.prog 15 [.sl (.int .u8) (encB w big o ab ty ma en fl st segs secs)] [] K:=by
  have h:=parse_encG (big:=big) W (rest:=[]) (fun _ h=>by cases h) (by have:=(W.len (big:=big)).2;simpa using this) hk
  rw [List.append_nil] at h
  exact h
theorem parse_nil:parseP [] = .bad 0 2:=by
  unfold parseP
  rw [if_neg (by decide)]
  rfl
theorem wr_bare {w:Bool} {ty:Int} (h:0≤ty∧ty≤65535):Wr w 0 0 ty 0 0 0 0 [] []:=by
  refine ⟨⟨by decide,by decide,by cases w <;> decide,fun s hs=>(by cases hs),?_,fun s hs=>(by cases hs),rfl⟩,by cases w <;> decide,fun s hs=>(by cases hs),fun s hs=>(by cases hs),fun s hs=>(by cases hs),fun s hs=>(by cases hs),⟨by decide,by decide,h,by decide,by decide⟩,⟨by decide,by decide⟩⟩
  intro i a b ha
  simp [loadsL] at ha
theorem up16_spec (hk:K (.bool true) []):GCalls laidG Tryz.prog 25 [] [] K:=by
  refine told_callG bezantlaw16_up.told fun Z hZ hg=>?_
  unfold bezantlaw16_up.c
  have W:=wr_bare (w:=false) (ty:=2) (by decide)
  have hEl:(encB false false 0 0 2 0 0 0 0 [] []).length=52:=by rw [(W.len (big:=false)).1];decide
  refine Wp1 trivial @DD (And.intro @caGp @trivial) ?_
  refine GCalls.wkA (.n (.int .u8) .z) (parse_G ⟨fun _ h=>by cases h⟩ ⟨by decide⟩ (fun a c h=>?_) (fun segs secs st h=>by rw [parse_nil] at h;cases h))
  rw [parse_nil] at h
  simp only [PRes.bad.injEq] at h
  obtain ⟨rfl,rfl⟩:=h
  refine Wp1 trivial @DD (And.intro @spotS_spec @trivial) ?_
  refine PCalls.wkA (.g (WkA.mdi false false 0 0 2 0 0 0 0) .z) (enc_spec ⟨by decide⟩ W.hG W.hN W.hGF W.hNF W.hH (fun h=>absurd (wrong_ok W.ok) h) (fun _ h=>by rw [W.ov] at h;cases h) (fun _ _=>?_))
  refine Wp1 trivial @DD (And.intro @caGp @trivial) ?_
  refine parse_encG0 W ?_
  refine W1 trivial (And.intro @DD @hEl) trivial ?_
  exact hk
end
end Go.Proofs.YtcffpnlochillaaGreatDoor.PvW
end
section
namespace Go.Proofs.YtcffpnlochillaaGreatDoor.PvW
open Go.RowKit Go.Proofs.YtcffpnlochillaaGreatDoor.Cd Go.Proofs.YtcffpnlochillaaGreatDoor.AbP Go.Proofs.YtcffpnlochillaaGreatDoor.Num Go.Proofs.YtcffpnlochillaaGreatDoor.Pv
theorem segF_of {l:List dSeg.T} (h:∀ x ∈ l,dSeg.good x):SegsF l:=fun x hx=>by
  have hh:=h x hx
  obtain ⟨ty,fl,va,pa,me,al,⟨i,off,sz,own,u⟩,u2⟩:=x
  obtain ⟨k0,k1,_⟩:=hh
  exact ⟨(u32_of k1).1.1,(u32_of k1).2⟩
theorem secF_of {l:List dSec.T} (h:∀ x ∈ l,dSec.good x):SecsF l:=fun x hx=>by
  have hh:=h x hx
  obtain ⟨nm,ty,fl,ad,si,li,sf,al,en,⟨i,off,sz,own,u⟩,u2⟩:=x
  obtain ⟨k0,k1,k2,k3,k4,k5,k6,_⟩:=hh
  exact ⟨(u32_of k6).1.1,(u32_of k6).2⟩
section
variable {w big:Bool} {o ab ty ma en fl st:Int} {segs:List dSeg.T} {secs:List dSec.T}
theorem fback_core {rest:List Int} (hG:∀ s ∈ segs,SegG s) (hM:∀ s ∈ secs,SecG s) (hGF:SegsF segs) (hNF:SecsF secs) (hH:HdrN o ab ty ma fl) (he:U64 en) (hB:B rest) :
    GCalls laidG Tryz.prog 8 [.agg [.bool w,.bool big,.int .u8 o,.int .u8 ab,.int .u16 ty,.int .u16 ma,.int .u32 fl,.int .u64 en,.sl dSeg segs,.sl dSec secs,.int .i64 st],.sl (.int .u8) rest] [] fun p _=>p = .bool true:=by
  refine told_callG bezantlaw16_FileBack.told fun Z hZ hg=>?_
  unfold bezantlaw16_FileBack.c
  refine Wp1 trivial @DD (And.intro @caGp @trivial) ?_
  refine up16_spec ?_
  refine W1 trivial @DD trivial ?_
  refine few_spec (fun s hs=>(hG s hs).2) (fun s hs=>(hM s hs).2) (fun l20 l70 hs1 hs2=>?_) ?_
  rotate_left
  · refine W1 trivial @DD trivial ?_
    rfl
  by_cases hrl:1000 < rest.length
  · refine W1 trivial @DD trivial ?_
    rfl
  have hGN:=segsN_of hG hs1
  have hMN:=secsN_of hM hs2
  have hL:∀ s ∈ segs,s.2.2.2.2.2.2.1.2.2.2.1.length≤1000000:=fun s hs=>Nat.le_trans (hs1 s hs) (by omega)
  have hLC:∀ s ∈ secs,s.2.2.2.2.2.2.2.2.2.1.2.2.2.1.length≤1000000:=fun s hs=>Nat.le_trans (hs2 s hs) (by omega)
  refine W1 trivial @DD trivial ?_
  refine enc_spec ⟨he⟩ hGN hMN hGF hNF hH (fun h0=>?_) (fun h0 h1=>?_) (fun h0 h1=>?_)
  · refine W1 trivial @DD trivial ?_
    rfl
  · refine W1 trivial @DD trivial ?_
    rfl
  have W:Wr w o ab ty ma en fl st segs secs:=⟨modelOk h0,h1,hGN,hMN,hGF,hNF,hH,he⟩
  have hEl:=(W.len (big:=big)).2
  refine Wp1 trivial @DD (And.intro @caGp @trivial) ?_
  refine parse_encG0 W ?_
  refine W1 trivial @DD trivial ?_
  refine same_spec ⟨⟨by omega,by omega⟩⟩ hL hLC ?_
  by_cases hbl:65536 < (encB w big o ab ty ma en fl st segs secs).length+rest.length
  · refine W1 trivial @DD trivial ?_
    rfl
  have hPG:=fun (K:PV→List OB→Prop)=>parse_encG (K:=K) (big:=big) W hB (by omega)
  generalize encB w big o ab ty ma en fl st segs secs=E at *
  refine Wv1 trivial @DD (@oArr 2 (.int .u8)) ?_
  apply caGo;(repeat any_goals first | exact mp_z | apply mp_s | exact rs_z | apply rs_t | apply rs_n | apply rs_c);(repeat any_goals first | (apply Lk.i;(simp only [↓LL,↓reduceIte,Nat.reduceEqDiff];(try rfl);done)) | (apply Rf.i;first | rfl | assumption) | (apply Vl.i;((try simp (disch:=omega) only [VV,↓reduceIte,peqI,encP]);(try rfl);done)) | (apply Am.i;assumption) | (apply Pu.i;((try simp only [↓reduceIte,UU,RR,Nat.reduceAdd,Nat.reduceEqDiff,cellsP,putP,fillQ,flatQ,shP,sh1,encP]);(try rfl);done)) | (apply Om.i;((try simp only [MM]);(try omega);done)) | (apply Vw.i;exact VwA));(all_goals fail_if_success apply Mk.i)
  refine hPG _ ?_
  refine W1 trivial @DD trivial ?_
  refine same_spec ⟨⟨by omega,by omega⟩⟩ hL hLC ?_
  refine W1 trivial @DD trivial ?_
  rfl
theorem hdrN_of {w big:Bool} {u1 u2 u3:Unit} {o ab ty ma fl en st:Int} {segs:List dSeg.T} {secs:List dSec.T} (h:((.cons (.st (.cons (.st (.cons .bool (.cons .bool .nil))) (.cons (.int .u8) (.cons (.int .u8) .nil)))) (.cons (.int .u16) (.cons (.int .u16) (.cons (.int .u32) (.cons (.int .u64) (.cons (.sl (.st (.cons (.int .u32) (.cons (.int .u32) (.cons (.int .u64) (.cons (.int .u64) (.cons (.int .u64) (.cons (.int .u64) (.cons (.st (.cons (.int .i64) (.cons (.int .u64) (.cons (.int .u64) (.cons (.sl (.int .u8)) .nil))))) .nil))))))))) (.cons (.sl (.st (.cons (.int .u32) (.cons (.int .u32) (.cons (.int .u64) (.cons (.int .u64) (.cons (.int .u64) (.cons (.int .u32) (.cons (.int .u32) (.cons (.int .u64) (.cons (.int .u64) (.cons (.st (.cons (.int .i64) (.cons (.int .u64) (.cons (.int .u64) (.cons (.sl (.int .u8)) .nil))))) .nil)))))))))))) (.cons (.int .i64) .nil)))))))):Ab.D).good (((w,big,u1),o,ab,u2),ty,ma,fl,en,segs,secs,st,u3)):HdrN o ab ty ma fl:=by
  obtain ⟨⟨_,k0,k1,_⟩,k2,k3,k4,_⟩:=h
  exact ⟨u8_of k0,u8_of k1,⟨(u16_of k2).1.1,(u16_of k2).2⟩,⟨(u16_of k3).1.1,(u16_of k3).2⟩,⟨(u32_of k4).1.1,(u32_of k4).2⟩⟩
theorem fback_walk (x0:((.st (.cons (.st (.cons (.st (.cons .bool (.cons .bool .nil))) (.cons (.int .u8) (.cons (.int .u8) .nil)))) (.cons (.int .u16) (.cons (.int .u16) (.cons (.int .u32) (.cons (.int .u64) (.cons (.sl (.st (.cons (.int .u32) (.cons (.int .u32) (.cons (.int .u64) (.cons (.int .u64) (.cons (.int .u64) (.cons (.int .u64) (.cons (.st (.cons (.int .i64) (.cons (.int .u64) (.cons (.int .u64) (.cons (.sl (.int .u8)) .nil))))) .nil))))))))) (.cons (.sl (.st (.cons (.int .u32) (.cons (.int .u32) (.cons (.int .u64) (.cons (.int .u64) (.cons (.int .u64) (.cons (.int .u32) (.cons (.int .u32) (.cons (.int .u64) (.cons (.int .u64) (.cons (.st (.cons (.int .i64) (.cons (.int .u64) (.cons (.int .u64) (.cons (.sl (.int .u8)) .nil))))) .nil)))))))))))) (.cons (.int .i64) .nil))))))))):Ab.D).T) (g0:((.st (.cons (.st (.cons (.st (.cons .bool (.cons .bool .nil))) (.cons (.int .u8) (.cons (.int .u8) .nil)))) (.cons (.int .u16) (.cons (.int .u16) (.cons (.int .u32) (.cons (.int .u64) (.cons (.sl (.st (.cons (.int .u32) (.cons (.int .u32) (.cons (.int .u64) (.cons (.int .u64) (.cons (.int .u64) (.cons (.int .u64) (.cons (.st (.cons (.int .i64) (.cons (.int .u64) (.cons (.int .u64) (.cons (.sl (.int .u8)) .nil))))) .nil))))))))) (.cons (.sl (.st (.cons (.int .u32) (.cons (.int .u32) (.cons (.int .u64) (.cons (.int .u64) (.cons (.int .u64) (.cons (.int .u32) (.cons (.int .u32) (.cons (.int .u64) (.cons (.int .u64) (.cons (.st (.cons (.int .i64) (.cons (.int .u64) (.cons (.int .u64) (.cons (.sl (.int .u8)) .nil))))) .nil)))))))))))) (.cons (.int .i64) .nil))))))))):Ab.D).good x0) (x1:((.sl (.int .u8)):Ab.D).T) (g1:((.sl (.int .u8)):Ab.D).good x1) :
    GCalls laidG Tryz.prog 8 [pvD (.st (.cons (.st (.cons (.st (.cons .bool (.cons .bool .nil))) (.cons (.int .u8) (.cons (.int .u8) .nil)))) (.cons (.int .u16) (.cons (.int .u16) (.cons (.int .u32) (.cons (.int .u64) (.cons (.sl (.st (.cons (.int .u32) (.cons (.int .u32) (.cons (.int .u64) (.cons (.int .u64) (.cons (.int .u64) (.cons (.int .u64) (.cons (.st (.cons (.int .i64) (.cons (.int .u64) (.cons (.int .u64) (.cons (.sl (.int .u8)) .nil))))) .nil))))))))) (.cons (.sl (.st (.cons (.int .u32) (.cons (.int .u32) (.cons (.int .u64) (.cons (.int .u64) (.cons (.int .u64) (.cons (.int .u32) (.cons (.int .u32) (.cons (.int .u64) (.cons (.int .u64) (.cons (.st (.cons (.int .i64) (.cons (.int .u64) (.cons (.int .u64) (.cons (.sl (.int .u8)) .nil))))) .nil)))))))))))) (.cons (.int .i64) .nil))))))))) x0,pvD (.sl (.int .u8)) x1] [] fun p _=>p = .bool true:=by
  obtain ⟨⟨⟨w,big,_⟩,o,ab,_⟩,ty,ma,fl,en,segs,secs,st,_⟩:=x0
  have hH:=hdrN_of g0
  obtain ⟨_,_,_,_,g4,g5,g6,_⟩:=g0
  exact fback_core (segG_of g5.2) (secG_of g6.2) (segF_of g5.2) (secF_of g6.2) hH (u64_of g4) (B_of g1.2)
end
end Go.Proofs.YtcffpnlochillaaGreatDoor.PvW
end
section
namespace Go.Proofs.YtcffpnlochillaaGreatDoor.Laid
open Go Go.ChangeShapes Go.WideShapes Go.RowKit
theorem et : Tryz.prog.globalNamed "errors.errorType" = some 0 := by kernel_rfl
theorem rt : (Tryz.prog.cutTypes.find? (·.1 == "internal/reflectlite.rtype")).map (·.2) = some 224 := by kernel_rfl
theorem size:Tryz.prog.types.size=292:=by kernel_rfl
theorem oneRow:((List.range 292).filter fun t=>Tryz.prog.rowNamed t [101,114,114,111,114])=[42]:=by kernel_rfl
theorem laid_of {W : World} (h : laidMetH Tryz.prog [("errors.errorType", Rows.laid_errors_errorType)] W) : Go.Proofs.YtcffpnlochillaaGreatDoor.Pv.laidG W := by
  have h' : laidMet Tryz.prog [] W ∧ handlesMet Tryz.prog [("errors.errorType", Rows.laid_errors_errorType)] W := h
  obtain ⟨name,u,ty,e1,e2,e3,e4,e5⟩:=h'.2 _ (List.mem_singleton.2 rfl)
  have en:name=[101,114,114,111,114]:=(Option.some.inj e1).symm
  subst en
  obtain rfl:=Option.some.inj (rt.symm.trans e2)
  have hm:ty ∈ (List.range 292).filter fun t=>Tryz.prog.rowNamed t [101,114,114,111,114]:=List.mem_filter.2 ⟨List.mem_range.2 (by rw [← size];exact e3),e4⟩
  rw [oneRow] at hm
  obtain rfl:=List.mem_singleton.1 hm
  have hh:typeHandle Tryz.prog 42 = .pointer (some ⟨2,42,none⟩):=by kernel_rfl
  rw [hh] at e5
  show W.cell? ⟨0,0,none⟩=_
  simpa using World.var?_cell et e5 0
noncomputable def laidWorld (os:Os):World :=
  let w0:=World.holding Tryz.prog os ⟨#[],#[],[]⟩
  { w0 with heap:=w0.heap.modify 0 fun
      | .cells _ t frozen=>.cells #[.iface 224 (.agg #[.pointer (some ⟨2,42,none⟩)])] t frozen
      | o=>o }
theorem laid_met (os : Os) (args : Array Value) : laidMetH Tryz.prog [("errors.errorType", Rows.laid_errors_errorType)] ((laidWorld os).forCall (fun _ _ => 0) ⟨#[], args, []⟩).memory :=
  laidMetH_of_parts (laidMet_nil _ _) (by kernel_rfl)
end Go.Proofs.YtcffpnlochillaaGreatDoor.Laid
end
