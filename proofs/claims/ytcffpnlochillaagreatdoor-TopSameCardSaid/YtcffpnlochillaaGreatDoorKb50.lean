/- A heap of plain values, walks over it, and functions of the program met by them: no statement of the set is proved in this text. -/
import Derived.Test.YtcffpnlochillaaGreatDoorKb46
import Derived.Test.YtcffpnlochillaaGreatDoorKb49
set_option linter.unusedVariables false
set_option linter.unusedSimpArgs false
set_option maxRecDepth 100000
set_option maxHeartbeats 4000000
section
namespace Go.Proofs.YtcffpnlochillaaGreatDoor.PvW
open Go.RowKit Go.Proofs.YtcffpnlochillaaGreatDoor.Cd Go.Proofs.YtcffpnlochillaaGreatDoor.AbP Go.Proofs.YtcffpnlochillaaGreatDoor.Num Go.Proofs.YtcffpnlochillaaGreatDoor.Pv
theorem im_in {segs:List dSeg.T} (hG:SegsN segs):∀ r ∈ imL segs,(0:Int)≤r.1∧r.2.2.2.1.length≤1000000:=by
  intro r hr
  obtain ⟨s,hs,h⟩:=List.mem_flatMap.1 hr
  have hN:=hG s hs
  unfold imF at h
  split at h
  · obtain rfl:=List.mem_singleton.1 h
    exact ⟨hN.va.1,hN.ow⟩
  · cases h
theorem progs_np {b:List Int} {w:Bool} {po so pn sx:Int} {x:dSectM.T} {q:Int×Int} (h:programsP b w po so pn sx x = .ok q) (h0:pn≠65535):q.1=pn∧pn≤16:=by
  unfold programsP at h
  dsimp only at h
  split at h
  · cases h
  try rw [if_neg h0] at h
  split at h
  · cases h
  split at h
  · cases h
  split at h
  · cases h
  obtain rfl:=Except.ok.inj h
  exact ⟨rfl,by omega⟩
section
variable {K:PV→List OB→Prop} {segs:List dSeg.T} {secs:List dSec.T} {st:Int}
theorem ifile_parsed {b:List Int} (hB:B b) (P:Parsed b segs secs st) (hpn:(hdV b).getD 9 0≠65535) (hk:K (.tup [.agg [.int .u64 ((hdV b).getD 3 0),.sl dRegI (imL segs)],.nilI]) []) :
    PCalls Tryz.prog 19 [.sl (.int .u8) b] [] K:=by
  obtain ⟨x,n,np,h1,h2,h3,h4⟩:=P.how
  obtain ⟨v0,v1,v3,v4,v5,v6,v9,v11,v12⟩:=hdV_N hB
  obtain ⟨q1,q2⟩:=progs_np h2 hpn
  dsimp only at q1
  subst q1
  obtain ⟨m,hm⟩:∃ m:Nat,(hdV b).getD 9 0=(m:Int):=⟨((hdV b).getD 9 0).toNat,by omega⟩
  have hin:=progs_in h2
  rw [hm] at h3 h4 hin q2
  rw [Int.toNat_natCast] at h3 h4
  have hl:=P.len
  refine ifile_spec (n:=m) hB (by omega) P.head hm (by omega) ?_ (fun i hi=>firstE_all h3 i hi) ?_
  · by_cases h0:m=0
    · exact .inl h0
    · exact .inr (hin (by dsimp only;omega))
  · rw [h4] at hk
    exact hk
theorem tsame_core {b:List Int} {a:Int} (hB:B b) (ha:0≤a∧a≤18446744073709551615) :
    GCalls laidG Tryz.prog 4 [.sl (.int .u8) b,.int .u64 a] [] fun p _=>p = .bool true:=by
  refine told_callG bezanttop_TopSame.told fun Z hZ hg=>?_
  unfold bezanttop_TopSame.c
  refine Wp1 trivial @DD (And.intro @caGp @trivial) ?_
  refine upT_spec ?_
  by_cases hbl:70000 < b.length
  · refine W1 trivial @DD trivial ?_
    rfl
  refine Wp1 trivial @DD (And.intro @caGp @trivial) ?_
  refine parse_G ⟨hB⟩ ⟨by omega⟩ (fun a c h=>?_) (fun segs secs st h=>?_)
  · refine W1 trivial @DD trivial ?_
    rfl
  have P:=parsed hB h
  have W:Wr (hdW b) (b.getD 7 0) (b.getD 8 0) ((hdV b).getD 0 0) ((hdV b).getD 1 0) ((hdV b).getD 3 0) ((hdV b).getD 6 0) st segs secs:=parsed_wr P
  have l16:=W.ok.l16
  have l64:=W.ok.l64
  have hLS:∀ s ∈ segs,s.2.2.2.2.2.2.1.2.2.2.1.length≤1000000:=fun s hs=>(W.hG s hs).ow
  have hLC:∀ s ∈ secs,s.2.2.2.2.2.2.2.2.2.1.2.2.2.1.length≤1000000:=fun s hs=>(W.hN s hs).ow
  have hI:=im_in W.hG
  have hIl:=im_len segs
  have hHd:=fun (K:PV→List OB→Prop) (hk:K (.tup [.agg [.bool (hdW b),.bool (hdB b),.int .u8 (b.getD 7 0),.int .u8 (b.getD 8 0),.int .u16 ((hdV b).getD 0 0),.int .u16 ((hdV b).getD 1 0),.int .u64 ((hdV b).getD 3 0),.int .u64 ((hdV b).getD 4 0),.int .u64 ((hdV b).getD 5 0),.int .u32 ((hdV b).getD 6 0),.int .u16 ((hdV b).getD 9 0),.int .u16 ((hdV b).getD 11 0),.int .u16 ((hdV b).getD 12 0)],.int .i64 0,.int .i64 0]) []) =>
    rhget_spec (K:=K) (b:=b) ⟨hB⟩ ⟨by omega⟩ (fun a c hh=>by rw [P.head] at hh;cases hh) (fun _=>hk)
  have hIf:=fun (K:PV→List OB→Prop)=>ifile_parsed (K:=K) hB P
  obtain ⟨v0,v1,v3,v4,v5,v6,v9,v11,v12⟩:=hdV_N hB
  unfold mdP
  clear h P
  generalize (hdV b).getD 0 0=ty at *
  generalize (hdV b).getD 1 0=ma at *
  generalize (hdV b).getD 3 0=en at *
  generalize (hdV b).getD 4 0=po at *
  generalize (hdV b).getD 5 0=so at *
  generalize (hdV b).getD 6 0=fl at *
  generalize (hdV b).getD 9 0=pn at *
  generalize (hdV b).getD 11 0=sn at *
  generalize (hdV b).getD 12 0=sx at *
  generalize hdW b=w at *
  generalize hdB b=big at *
  generalize b.getD 7 0=o at *
  generalize b.getD 8 0=ab at *
  have hEn:=fun (K:PV→List OB→Prop) (hk:K (.tup [.sl (.int .u8) (encB w big o ab ty ma en fl st segs secs),.nilI]) [])=>enc_spec (K:=K) (big:=big) ⟨W.en⟩ W.hG W.hN W.hGF W.hNF W.hH (fun h=>absurd (wrong_ok W.ok) h) (fun _ h=>by rw [W.ov] at h;cases h) (fun _ _=>hk)
  have hPE:=fun (K:PV→List OB→Prop)=>parse_encG0 (K:=K) (big:=big) W
  have hIE:=fun (K:PV→List OB→Prop)=>ifile_enc (K:=K) (big:=big) W
  have hEl:=(W.len (big:=big)).2
  generalize encB w big o ab ty ma en fl st segs secs=E at *
  clear W
  have hAt:=fun (K:PV→List OB→Prop)=>iat_spec (K:=K) (en:=en) (l:=imL segs) ha (by omega) hI
  have hRi:=fun (K:PV→List OB→Prop)=>rimI_spec (K:=K) (en:=en) (l:=imL segs) ⟨by omega⟩ (fun r hr=>(hI r hr).2)
  refine W1 trivial @DD trivial ?_
  refine hEn _ ?_
  refine Wp1 trivial @DD (And.intro @caGp @trivial) ?_
  refine hPE _ ?_
  refine W1 trivial @DD trivial ?_
  refine hEn _ ?_
  refine W1 trivial @DD trivial ?_
  refine same_spec ⟨⟨by omega,by omega⟩⟩ hLS hLC ?_
  refine W1 trivial @DD trivial ?_
  refine hIE _ ?_
  refine W1 trivial @DD trivial ?_
  refine rmimI_spec ⟨by omega⟩ hLS ?_
  refine W1 trivial @DD trivial ?_
  refine hRi _ ?_
  refine W1 trivial @DD trivial ?_
  refine hHd _ ?_
  by_cases hpn:pn=65535
  · refine W1 trivial @DD trivial ?_
    rfl
  refine W1 trivial @DD trivial ?_
  refine hIf _ hpn ?_
  refine W1 trivial @DD trivial ?_
  refine hRi _ ?_
  refine W1 trivial @DD trivial ?_
  refine hAt _ ?_
  refine W1 trivial @DD trivial ?_
  refine hAt _ ?_
  generalize atP (imL segs) a=r
  obtain ⟨r1,r2,r3⟩:=r
  cases r3
  · refine W1 trivial @DD trivial ?_
    rfl
  · refine W1 trivial @DD trivial ?_
    rfl
theorem tsame_walk (x0:((.sl (.int .u8)):Ab.D).T) (g0:((.sl (.int .u8)):Ab.D).good x0) (x1:((.int .u64):Ab.D).T) (g1:((.int .u64):Ab.D).good x1) :
    GCalls laidG Tryz.prog 4 [pvD (.sl (.int .u8)) x0,pvD (.int .u64) x1] [] fun p _=>p = .bool true:=tsame_core (B_of g0.2) (u64_of g1)
end
end Go.Proofs.YtcffpnlochillaaGreatDoor.PvW
end
