/- A heap of plain values, walks over it, and functions of the program met by them: no statement of the set is proved in this text. -/
import Derived.Test.YtcffpnlochillaaGreatDoorKb32
import Derived.Test.YtcffpnlochillaaGreatDoorKb39
set_option linter.unusedVariables false
set_option linter.unusedSimpArgs false
set_option maxRecDepth 100000
set_option maxHeartbeats 4000000
section
namespace Go.Proofs.YtcffpnlochillaaGreatDoor.PvW
open Go.RowKit Go.Proofs.YtcffpnlochillaaGreatDoor.Cd Go.Proofs.YtcffpnlochillaaGreatDoor.AbP Go.Proofs.YtcffpnlochillaaGreatDoor.Num Go.Proofs.YtcffpnlochillaaGreatDoor.Pv
structure PlN (b:List Int) (p:Place4):Prop where
  off:0≤p.2.1∧p.2.1≤18446744073709551615
  sz:0≤p.2.2.1∧p.2.2.1≤18446744073709551615
  ow:p.2.2.2.length≤b.length
  bo:B p.2.2.2
theorem ownP_N {b:List Int} (hB:B b) {off n:Int} (hn:0≤n∧n≤18446744073709551615):PlN b (ownP b off n) :=
  ⟨⟨Int.le_refl _,by show (0:Int)≤18446744073709551615;decide⟩,hn,by show ((b.drop _).take _).length≤_;rw [List.length_take,List.length_drop];omega,seg_B hB _ _⟩
theorem findP_N {b:List Int} (hB:B b) {off n:Int} (ho:0≤off∧off≤18446744073709551615) (hn:0≤n∧n≤18446744073709551615):∀ (l:List dProgM.T) (i:Nat),LoadsN l→PlN b (findP b off n l i)
  | [],i,_=>ownP_N hB hn
  | x :: l, i, h => by
    show PlN b (if _ then _ else findP b off n l (i+1))
    split
    · rename_i hc
      have hx:=(h x (by simp)).off
      have hc2:@LE.le Int _ x.2.2.1 off:=hc.2.2.1
      obtain ⟨xo,hxo⟩:∃ v:Int,v=x.2.2.1:=⟨_,rfl⟩
      have hx:0≤xo∧xo≤18446744073709551615:=by rw [hxo];exact hx
      have hc2:xo≤off:=by rw [hxo];exact hc2
      exact ⟨by show 0 ≤ off - x.2.2.1 ∧ off - x.2.2.1 ≤ _; have e : off - x.2.2.1 = off - xo := by rw [hxo]
                rw [e];omega,hn,Nat.zero_le _,fun _ h=>by cases h⟩
    · exact findP_N hB ho hn l (i+1) (fun y hy=>h y (List.mem_cons_of_mem _ hy))
theorem segPl_N {b:List Int} (hB:B b) {L:List dProgM.T} (hL:LoadsN L) {t fl off va pa fs me al:Int} (hN:ProgN t fl off va pa fs me al):PlN b (segPl b L (t,fl,off,va,pa,fs,me,al,PUnit.unit)):=by
  unfold segPl
  split
  · exact ownP_N hB hN.fs
  · exact findP_N hB hN.off hN.fs _ _ hL
theorem secPl_N {b:List Int} (hB:B b) {L:List dProgM.T} (hL:LoadsN L) {st:Int} {i:Nat} {nm ty fl ad off si li sf al en:Int} (hN:SectN nm ty fl ad off si li sf al en):PlN b (secPl b L st i (nm,ty,fl,ad,off,si,li,sf,al,en,PUnit.unit)):=by
  unfold secPl
  split
  · exact ⟨⟨Int.le_refl _,by decide⟩,⟨Int.le_refl _,by decide⟩,Nat.zero_le _,fun _ h=>by cases h⟩
  · split
    · exact ownP_N hB hN.si
    · exact findP_N hB hN.off hN.si _ _ hL
theorem segsP_N {b:List Int} (hB:B b) (hb:b.length≤1000000) {w big:Bool} {po:Int} {n:Nat}:SegsN (segsP b (loadsP b w big po n))∧SegsF (segsP b (loadsP b w big po n))∧∀ s ∈ segsP b (loadsP b w big po n),(bodyG s).length≤b.length:=by
  have key:∀ s ∈ segsP b (loadsP b w big po n),SegN s.1 s.2.2.1 s.2.2.2.1 s.2.2.2.2.1 s.2.2.2.2.2.1 s.2.2.2.2.2.2.1.1 s.2.2.2.2.2.2.1.2.1 s.2.2.2.2.2.2.1.2.2.1 s.2.2.2.2.2.2.1.2.2.2.1∧((0:Int)≤s.2.1∧@LE.le Int _ s.2.1 4294967295)∧(bodyG s).length≤b.length:=fun s hs=>by
    unfold segsP at hs
    obtain ⟨x,hx,rfl⟩:=List.mem_map.1 hs
    unfold loadsP at hx
    obtain ⟨i,hi,rfl⟩:=List.mem_map.1 hx
    obtain ⟨t,fl,off,va,pa,fs,me,al,e,hN⟩:=loadAt_N hB w big po i
    rw [e]
    have hp:=segPl_N hB (L:=loadsP b w big po n) (loadsP_N hB) hN
    have how:=hp.ow
    exact ⟨⟨hN.t,hN.va,hN.pa,hN.me,hN.al,hp.off,hp.sz,Nat.le_trans hp.ow hb,hp.bo⟩,hN.fl,hp.ow⟩
  exact ⟨fun s hs=>(key s hs).1,fun s hs=>(key s hs).2.1,fun s hs=>(key s hs).2.2⟩
theorem secsP_N {b:List Int} (hB:B b) (hb:b.length≤1000000) {w big:Bool} {so st:Int} {L:List dProgM.T} (hL:LoadsN L) {n:Nat}:SecsN (secsP b w big so L st n)∧SecsF (secsP b w big so L st n)∧∀ s ∈ secsP b w big so L st n,(bodyC s).length≤b.length:=by
  have key:∀ s ∈ secsP b w big so L st n,SecN s.1 s.2.1 s.2.2.1 s.2.2.2.1 s.2.2.2.2.1 s.2.2.2.2.2.1 s.2.2.2.2.2.2.2.1 s.2.2.2.2.2.2.2.2.1 s.2.2.2.2.2.2.2.2.2.1.1 s.2.2.2.2.2.2.2.2.2.1.2.1 s.2.2.2.2.2.2.2.2.2.1.2.2.1 s.2.2.2.2.2.2.2.2.2.1.2.2.2.1∧((0:Int)≤s.2.2.2.2.2.2.1∧@LE.le Int _ s.2.2.2.2.2.2.1 4294967295)∧(bodyC s).length≤b.length:=fun s hs=>by
    unfold secsP at hs
    obtain ⟨k,hk,rfl⟩:=List.mem_map.1 hs
    obtain ⟨nm,ty,fl,ad,off,si,li,sf,al,en,e,hN⟩:=secAt_N hB w big so (k+1)
    rw [e]
    have hp:=secPl_N hB (L:=L) (st:=st) (i:=k+1) hL hN
    exact ⟨⟨hN.nm,hN.ty,hN.fl,hN.ad,hN.si,hN.li,hN.al,hN.en,hp.off,hp.sz,Nat.le_trans hp.ow hb,hp.bo⟩,hN.sf,hp.ow⟩
  exact ⟨fun s hs=>(key s hs).1,fun s hs=>(key s hs).2.1,fun s hs=>(key s hs).2.2⟩
abbrev hdEn (b:List Int):Int:=(hdV b).getD 3 0
theorem hdV_N {b:List Int} (hB:B b):(0≤(hdV b).getD 0 0∧(hdV b).getD 0 0≤65535)∧(0≤(hdV b).getD 1 0∧(hdV b).getD 1 0≤65535)∧U64 ((hdV b).getD 3 0)∧U64 ((hdV b).getD 4 0)∧U64 ((hdV b).getD 5 0)∧(0≤(hdV b).getD 6 0∧(hdV b).getD 6 0≤4294967295)∧(0≤(hdV b).getD 9 0∧(hdV b).getD 9 0≤65535)∧(0≤(hdV b).getD 11 0∧(hdV b).getD 11 0≤65535)∧(0≤(hdV b).getD 12 0∧(hdV b).getD 12 0≤65535) :=
  ⟨range2 hB _ _,range2 hB _ _,gets_U64 hB _ _ _ (headW_wide _) 3,gets_U64 hB _ _ _ (headW_wide _) 4,gets_U64 hB _ _ _ (headW_wide _) 5,range4 hB _ _,range2 hB _ _,range2 hB _ _,range2 hB _ _⟩
theorem getB {b:List Int} (hB:B b) (i:Nat):0≤b.getD i 0∧b.getD i 0≤255:=by
  by_cases h:i < b.length
  · exact hB _ (getD_mem h)
  · rw [List.getD_eq_getElem?_getD,List.getElem?_eq_none (by omega)]
    exact ⟨by decide,by decide⟩

structure Parsed (b:List Int) (segs:List dSeg.T) (secs:List dSec.T) (st:Int):Prop where
  len:b.length≤65536
  head:headBad b=none
  ok:ModelOk (hdW b) (hdEn b) segs secs st
  ov:(planV (hdW b) segs secs).ov=false
  hG:SegsN segs
  hN:SecsN secs
  hGF:SegsF segs
  hNF:SecsF secs
  lG:∀ s ∈ segs,(bodyG s).length≤b.length
  lC:∀ s ∈ secs,(bodyC s).length≤b.length
  hH:HdrN (b.getD 7 0) (b.getD 8 0) ((hdV b).getD 0 0) ((hdV b).getD 1 0) ((hdV b).getD 6 0)
  en:U64 (hdEn b)
  how:∃ (x:dSectM.T) (n:Int) (np:Int),sectionsP b (hdW b) (hdB b) ((hdV b).getD 5 0) ((hdV b).getD 11 0) = .ok (x,n)∧programsP b (hdW b) ((hdV b).getD 4 0) ((hdV b).getD 5 0) ((hdV b).getD 9 0) ((hdV b).getD 12 0) x = .ok (np,st)∧firstE (loadE b (hdW b) (hdB b) ((hdV b).getD 4 0)) np.toNat=none∧segs=segsP b (loadsP b (hdW b) (hdB b) ((hdV b).getD 4 0) np.toNat)
theorem parsed {b:List Int} (hB:B b) {segs:List dSeg.T} {secs:List dSec.T} {st:Int} (h:parseP b = .ok segs secs st):Parsed b segs secs st:=by
  unfold parseP at h
  by_cases h0:65536 < b.length
  · rw [if_pos h0] at h;cases h
  rw [if_neg h0] at h
  cases hb:headBad b with
  | some e=>rw [hb] at h;cases h
  | none =>
  rw [hb] at h
  have h:bodyP b (hdW b) (hdB b) ((hdV b).getD 3 0) ((hdV b).getD 4 0) ((hdV b).getD 5 0) ((hdV b).getD 9 0) ((hdV b).getD 11 0) ((hdV b).getD 12 0) = .ok segs secs st:=h
  unfold bodyP at h
  cases h1:sectionsP b (hdW b) (hdB b) ((hdV b).getD 5 0) ((hdV b).getD 11 0) with
  | error e=>rw [h1] at h;cases h
  | ok r =>
  rw [h1] at h
  dsimp only at h
  cases h2:programsP b (hdW b) ((hdV b).getD 4 0) ((hdV b).getD 5 0) ((hdV b).getD 9 0) ((hdV b).getD 12 0) r.1 with
  | error e=>rw [h2] at h;cases h
  | ok q =>
  rw [h2] at h
  dsimp only at h
  cases h3:firstE (loadE b (hdW b) (hdB b) ((hdV b).getD 4 0)) q.1.toNat with
  | some e=>rw [h3] at h;cases h
  | none =>
  rw [h3] at h
  dsimp only at h
  cases h4:firstE (fun k=>secE b (hdW b) (hdB b) ((hdV b).getD 5 0) (k+1)) (r.2 - 1).toNat with
  | some e=>rw [h4] at h;cases h
  | none =>
  rw [h4] at h
  dsimp only at h
  unfold lastP at h
  have hbl:b.length≤65536:=by omega
  obtain ⟨v0,v1,v3,v4,v5,v6,v9,v11,v12⟩:=hdV_N hB
  obtain ⟨g1,g2,g3⟩:=segsP_N hB (show b.length≤1000000 by omega) (w:=hdW b) (big:=hdB b) (po:=(hdV b).getD 4 0) (n:=q.1.toNat)
  obtain ⟨c1,c2,c3⟩:=secsP_N hB (show b.length≤1000000 by omega) (w:=hdW b) (big:=hdB b) (so:=(hdV b).getD 5 0) (st:=q.2) (L:=loadsP b (hdW b) (hdB b) ((hdV b).getD 4 0) q.1.toNat) (loadsP_N hB) (n:=(r.2 - 1).toNat)
  split at h
  · rename_i hw
    split at h
    · cases h
    · rename_i hov
      simp only [PRes.ok.injEq] at h
      obtain ⟨rfl,rfl,rfl⟩:=h
      exact ⟨hbl,hb,modelOk hw,by simpa using hov,g1,c1,g2,c2,g3,c3,⟨getB hB 7,getB hB 8,v0,v1,v6⟩,v3,r.1,r.2,q.1,h1,h2,h3,rfl⟩
  · cases h
end Go.Proofs.YtcffpnlochillaaGreatDoor.PvW
end
