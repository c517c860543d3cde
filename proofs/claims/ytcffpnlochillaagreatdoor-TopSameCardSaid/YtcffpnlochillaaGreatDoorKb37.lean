/- A heap of plain values, walks over it, and functions of the program met by them: no statement of the set is proved in this text. -/
import Derived.Test.YtcffpnlochillaaGreatDoorKb36
set_option linter.unusedVariables false
set_option linter.unusedSimpArgs false
set_option maxRecDepth 100000
set_option maxHeartbeats 4000000
section
namespace Go.Proofs.YtcffpnlochillaaGreatDoor.PvW
open Go.RowKit Go.Proofs.YtcffpnlochillaaGreatDoor.Cd Go.Proofs.YtcffpnlochillaaGreatDoor.AbP Go.Proofs.YtcffpnlochillaaGreatDoor.Num Go.Proofs.YtcffpnlochillaaGreatDoor.Pv
section
variable {K:PV→List OB→Prop} {b:List Int} {w big:Bool} {o ab ty ma en po so fl pn sn sx np ns f0 f1 f2 f3 f4 f5 f6 f7 f8 f9 st:Int} {loads:List dProgM.T} {segs:List dSeg.T} {secs:List dSec.T}
theorem fprograms_spec (hb:Om (b.length≤1000000)) (hpo:Om (0≤po∧po≤18446744073709551615)) (hso:Om (0≤so∧so≤18446744073709551615)) (hpn:Om (0≤pn∧pn≤65535)) (hsx:Om (0≤sx∧sx≤65535)) (hN:Am (SectN f0 f1 f2 f3 f4 f5 f6 f7 f8 f9))
    (hk1:∀ a c,programsP b w po so pn sx (f0,f1,f2,f3,f4,f5,f6,f7,f8,f9,PUnit.unit) = .error (a,c)→∀ mp mt:Int,K (eSpot a c) [.var [.sl (.int .u8) b,.bool w,.bool big,.int .u8 o,.int .u8 ab,.int .u16 ty,.int .u16 ma,.int .u64 en,.int .u64 po,.int .u64 so,.int .u32 fl,.int .u16 pn,.int .u16 sn,.int .u16 sx,.bool w,.bool big,.int .u64 mp,.int .u64 ns,.int .u32 f0,.int .u32 f1,.int .u64 f2,.int .u64 f3,.int .u64 f4,.int .u64 f5,.int .u32 f6,.int .u32 f7,.int .u64 f8,.int .u64 f9,.bool w,.bool big,.int .u8 o,.int .u8 ab,.int .u16 ty,.int .u16 ma,.int .u32 fl,.int .u64 en,.osl 2 segs.length,.osl 3 secs.length,.int .i64 mt,.osl 1 loads.length],.arr dProgM loads,.arr dSeg segs,.arr dSec secs])
    (hk2:∀ mp mt:Int,programsP b w po so pn sx (f0,f1,f2,f3,f4,f5,f6,f7,f8,f9,PUnit.unit) = .ok (mp,mt)→0≤mp∧mp≤16→(0 < mp→withinB po (mp * psz w) b.length=true)→0≤mt∧mt≤4294967295→K .nilI [.var [.sl (.int .u8) b,.bool w,.bool big,.int .u8 o,.int .u8 ab,.int .u16 ty,.int .u16 ma,.int .u64 en,.int .u64 po,.int .u64 so,.int .u32 fl,.int .u16 pn,.int .u16 sn,.int .u16 sx,.bool w,.bool big,.int .u64 mp,.int .u64 ns,.int .u32 f0,.int .u32 f1,.int .u64 f2,.int .u64 f3,.int .u64 f4,.int .u64 f5,.int .u32 f6,.int .u32 f7,.int .u64 f8,.int .u64 f9,.bool w,.bool big,.int .u8 o,.int .u8 ab,.int .u16 ty,.int .u16 ma,.int .u32 fl,.int .u64 en,.osl 2 segs.length,.osl 3 secs.length,.int .i64 mt,.osl 1 loads.length],.arr dProgM loads,.arr dSeg segs,.arr dSec secs]) :
    PCalls Tryz.prog 42 [.ptr 0 0] [.var [.sl (.int .u8) b,.bool w,.bool big,.int .u8 o,.int .u8 ab,.int .u16 ty,.int .u16 ma,.int .u64 en,.int .u64 po,.int .u64 so,.int .u32 fl,.int .u16 pn,.int .u16 sn,.int .u16 sx,.bool w,.bool big,.int .u64 0,.int .u64 ns,.int .u32 f0,.int .u32 f1,.int .u64 f2,.int .u64 f3,.int .u64 f4,.int .u64 f5,.int .u32 f6,.int .u32 f7,.int .u64 f8,.int .u64 f9,.bool w,.bool big,.int .u8 o,.int .u8 ab,.int .u16 ty,.int .u16 ma,.int .u32 fl,.int .u64 en,.osl 2 segs.length,.osl 3 secs.length,.int .i64 0,.osl 1 loads.length],.arr dProgM loads,.arr dSeg segs,.arr dSec secs] K:=by
  have hb:=hb.o
  have hpo:=hpo.o
  have hso:=hso.o
  have hpn:=hpn.o
  have hsx:=hsx.o
  have hN6:=hN.o.li
  have hN7:=hN.o.sf
  have hp1:0≤pl w 44 56∧pl w 44 56≤100:=pl_le (by decide) (by decide)
  have hp2:0≤pl w 28 32∧pl w 28 32≤100:=pl_le (by decide) (by decide)
  have hp3:0≤pl w 50 62∧pl w 50 62≤100:=pl_le (by decide) (by decide)
  refine told_callS file_parser_programs.told fun Z hZ=>?_
  unfold file_parser_programs.c
  refine W1 trivial @DD trivial ?_
  apply ca_S [0,1,2,3];(repeat any_goals first | exact mp_z | apply mp_s | exact rs_z | apply rs_t | apply rs_n | apply rs_c);(repeat any_goals first | (apply Lk.i;(simp only [↓LL,↓reduceIte,Nat.reduceEqDiff];(try rfl);done)) | (apply Rf.i;first | rfl | assumption) | (apply Vl.i;((try simp (disch:=omega) only [VV,↓reduceIte,peqI,encP]);(try rfl);done)) | (apply Am.i;assumption) | (apply Pu.i;((try simp only [↓reduceIte,UU,RR,Nat.reduceAdd,Nat.reduceEqDiff,cellsP,putP,fillQ,flatQ,shP,sh1,encP]);(try rfl);done)) | (apply Om.i;((try simp only [MM]);(try omega);done)) | (apply Vw.i;exact VwA));(all_goals fail_if_success apply Mk.i)
  refine fplace_spec ?_
  rw [show (if w=true then (56:Int) else 44)=pl w 44 56 from rfl]
  have hcz:IntKind.wrap .u64 (if w=true then 56 else 32)=psz w:=by cases w <;> rfl
  have hcx:IntKind.wrap .i64 sx=sx:=by rw [wI64];omega
  have hc6:IntKind.wrap .i64 f6=f6:=by rw [wI64];omega
  have hc7:IntKind.wrap .u64 f7=f7:=by rw [wU64];omega
  have hcn:IntKind.wrap .u64 pn=pn:=by rw [wU64];omega
  obtain ⟨n,hn⟩:∃ n:Int,n=if pn=65535 then f7 else pn:=⟨_,rfl⟩
  have hP:programsP b w po so pn sx (f0,f1,f2,f3,f4,f5,f6,f7,f8,f9,PUnit.unit)=if pn=65535∧so=0 then .error (pl w 44 56,4) else if 16 < n then .error (pl w 44 56,8) else if 0 < n∧withinB po (n * psz w) b.length=false then .error (pl w 28 32,5) else if sx=65535∧so=0 then .error (pl w 50 62,4) else .ok (n,if sx=65535 then f6 else sx):=by
    unfold programsP
    rw [hn]
  refine W1 trivial (And.intro @DD @hcn) trivial ?_
  refine ps_cut (fun e s=>¬ (pn=65535∧so=0)∧s=[.var [.sl (.int .u8) b,.bool w,.bool big,.int .u8 o,.int .u8 ab,.int .u16 ty,.int .u16 ma,.int .u64 en,.int .u64 po,.int .u64 so,.int .u32 fl,.int .u16 pn,.int .u16 sn,.int .u16 sx,.bool w,.bool big,.int .u64 n,.int .u64 ns,.int .u32 f0,.int .u32 f1,.int .u64 f2,.int .u64 f3,.int .u64 f4,.int .u64 f5,.int .u32 f6,.int .u32 f7,.int .u64 f8,.int .u64 f9,.bool w,.bool big,.int .u8 o,.int .u8 ab,.int .u16 ty,.int .u16 ma,.int .u32 fl,.int .u64 en,.osl 2 segs.length,.osl 3 secs.length,.int .i64 0,.osl 1 loads.length],.arr dProgM loads,.arr dSeg segs,.arr dSec secs]∧e 0 = .ptr 0 0∧e 3 = .int .u64 (pl w 44 56)) (fun h=>?_) (fun h=>?_) ?_
  · have hp:=of_decide_eq_true h
    have hn:n=f7:=by rw [hn,if_pos hp]
    rw [hn]
    by_cases h1:so=0
    · have:=hk1 (pl w 44 56) 4 (by rw [hP,if_pos ⟨hp,h1⟩]) pn 0
      refine W1 trivial (And.intro @DD @hcn) @fspot_spec ?_
      exact ⟨_,rfl,rfl,this⟩
    · refine W1 trivial (And.intro @DD @hc7) trivial ?_
      exact ⟨_,_,Gh.sel [0,1,2,3] (by decide) (hz4 hZ (by decide)),fun h=>h1 h.2,rfl,by exact lk trivial,by exact lk trivial⟩
  · have hp:=of_decide_eq_false h
    have hn:n=pn:=by rw [hn,if_neg hp]
    rw [hn]
    refine W1 trivial @DD trivial ?_
    exact ⟨_,_,Gh.sel [0,1,2,3] (by decide) (hz4 hZ (by decide)),fun h=>hp h.1,rfl,by exact lk trivial,by exact lk trivial⟩
  have hn0:0≤n∧n≤18446744073709551615:=by rw [hn];split <;> omega
  clear hn
  rintro e s ⟨hne,rfl,e0,e3⟩
  rw [if_neg hne] at hP
  by_cases h2:16 < n
  · have:=hk1 (pl w 44 56) 8 (by rw [hP,if_pos h2]) n 0
    refine W1 (And.intro @e0 @e3) @DD @fspot_spec ?_
    exact ⟨_,rfl,rfl,this⟩
  rw [if_neg h2] at hP
  by_cases h3:0 < n
  · have hnz:0≤n * psz w∧n * psz w≤5000:=by cases w <;> simp only [psz,Bool.false_eq_true,↓reduceIte] <;> omega
    have hwr:IntKind.wrap .u64 (n * psz w)=n * psz w:=by rw [wU64];omega
    cases h5:withinB po (n * psz w) b.length
    · have:=hk1 (pl w 28 32) 5 (by rw [hP,if_pos ⟨h3,h5⟩]) n 0
      refine W1 (And.intro @e0 @e3) (And.intro @DD (And.intro @hcz @hwr)) @psize_spec ?_
      apply ca_S [0,1,2,3];(repeat any_goals first | exact mp_z | apply mp_s | exact rs_z | apply rs_t | apply rs_n | apply rs_c);(repeat any_goals first | (apply Lk.i;(simp only [↓LL,↓reduceIte,Nat.reduceEqDiff,e0,e3];(try rfl);done)) | (apply Rf.i;first | rfl | assumption) | (apply Vl.i;((try simp (disch:=omega) only [VV,↓reduceIte,peqI,encP,e0,e3]);(try rfl);done)) | (apply Am.i;assumption) | (apply Pu.i;((try simp only [↓reduceIte,UU,RR,Nat.reduceAdd,Nat.reduceEqDiff,cellsP,putP,fillQ,flatQ,shP,sh1,encP]);(try rfl);done)) | (apply Om.i;((try simp only [MM]);(try omega);done)) | (apply Vw.i;exact VwA));(all_goals fail_if_success apply Mk.i)
      refine fhas_f ⟨h5⟩ ⟨hpo⟩ ⟨hb⟩ ?_
      refine W1 (And.intro @e0 @e3) @DD @fspot_spec ?_
      apply ca_S [0,1,2,3];(repeat any_goals first | exact mp_z | apply mp_s | exact rs_z | apply rs_t | apply rs_n | apply rs_c);(repeat any_goals first | (apply Lk.i;(simp only [↓LL,↓reduceIte,Nat.reduceEqDiff,e0,e3];(try rfl);done)) | (apply Rf.i;first | rfl | assumption) | (apply Vl.i;((try simp (disch:=omega) only [VV,↓reduceIte,peqI,encP,e0,e3]);(try rfl);done)) | (apply Am.i;assumption) | (apply Pu.i;((try simp only [↓reduceIte,UU,RR,Nat.reduceAdd,Nat.reduceEqDiff,cellsP,putP,fillQ,flatQ,shP,sh1,encP]);(try rfl);done)) | (apply Om.i;((try simp only [MM]);(try omega);done)) | (apply Vw.i;exact VwA));(all_goals fail_if_success apply Mk.i)
      refine fplace_spec ?_
      rw [show (if w=true then (32:Int) else 28)=pl w 28 32 from rfl]
      refine W1 (And.intro @e0 @e3) @DD @fspot_spec ?_
      exact ⟨_,rfl,rfl,this⟩
    · rw [if_neg (fun h=>by rw [h5] at h;cases h.2)] at hP
      have hin:0 < n→withinB po (n * psz w) b.length=true:=fun _=>h5
      refine W1 (And.intro @e0 @e3) (And.intro @DD (And.intro @hcz @hwr)) @psize_spec ?_
      apply ca_S [0,1,2,3];(repeat any_goals first | exact mp_z | apply mp_s | exact rs_z | apply rs_t | apply rs_n | apply rs_c);(repeat any_goals first | (apply Lk.i;(simp only [↓LL,↓reduceIte,Nat.reduceEqDiff,e0,e3];(try rfl);done)) | (apply Rf.i;first | rfl | assumption) | (apply Vl.i;((try simp (disch:=omega) only [VV,↓reduceIte,peqI,encP,e0,e3]);(try rfl);done)) | (apply Am.i;assumption) | (apply Pu.i;((try simp only [↓reduceIte,UU,RR,Nat.reduceAdd,Nat.reduceEqDiff,cellsP,putP,fillQ,flatQ,shP,sh1,encP]);(try rfl);done)) | (apply Om.i;((try simp only [MM]);(try omega);done)) | (apply Vw.i;exact VwA));(all_goals fail_if_success apply Mk.i)
      refine fhas_t ⟨h5⟩ ⟨hpo⟩ ⟨hb⟩ ?_
      by_cases h6:sx=65535
      · by_cases h7:so=0
        · have:=hk1 (pl w 50 62) 4 (by rw [hP,if_pos ⟨h6,h7⟩]) n sx
          refine W1 (And.intro @e0 @e3) (And.intro @DD @hcx) trivial ?_
          apply ca_S [0,1,2,3];(repeat any_goals first | exact mp_z | apply mp_s | exact rs_z | apply rs_t | apply rs_n | apply rs_c);(repeat any_goals first | (apply Lk.i;(simp only [↓LL,↓reduceIte,Nat.reduceEqDiff,e0,e3];(try rfl);done)) | (apply Rf.i;first | rfl | assumption) | (apply Vl.i;((try simp (disch:=omega) only [VV,↓reduceIte,peqI,encP,e0,e3]);(try rfl);done)) | (apply Am.i;assumption) | (apply Pu.i;((try simp only [↓reduceIte,UU,RR,Nat.reduceAdd,Nat.reduceEqDiff,cellsP,putP,fillQ,flatQ,shP,sh1,encP]);(try rfl);done)) | (apply Om.i;((try simp only [MM]);(try omega);done)) | (apply Vw.i;exact VwA));(all_goals fail_if_success apply Mk.i)
          refine fplace_spec ?_
          rw [show (if w=true then (62:Int) else 50)=pl w 50 62 from rfl]
          refine W1 (And.intro @e0 @e3) @DD @fspot_spec ?_
          exact ⟨_,rfl,rfl,this⟩
        · have:=hk2 n f6 (by rw [hP,if_neg (fun h=>h7 h.2),if_pos h6]) (by omega) hin (by omega)
          refine W1 (And.intro @e0 @e3) (And.intro @DD (And.intro @hcx @hc6)) trivial ?_
          exact ⟨_,rfl,rfl,this⟩
      · have:=hk2 n sx (by rw [hP,if_neg (fun h=>h6 h.1),if_neg h6]) (by omega) hin (by omega)
        refine W1 (And.intro @e0 @e3) (And.intro @DD @hcx) trivial ?_
        exact ⟨_,rfl,rfl,this⟩
  · rw [if_neg (fun h=>h3 h.1)] at hP
    have hin:0 < n→withinB po (n * psz w) b.length=true:=fun h=>absurd h h3
    by_cases h6:sx=65535
    · by_cases h7:so=0
      · have:=hk1 (pl w 50 62) 4 (by rw [hP,if_pos ⟨h6,h7⟩]) n sx
        refine W1 (And.intro @e0 @e3) (And.intro @DD @hcx) trivial ?_
        apply ca_S [0,1,2,3];(repeat any_goals first | exact mp_z | apply mp_s | exact rs_z | apply rs_t | apply rs_n | apply rs_c);(repeat any_goals first | (apply Lk.i;(simp only [↓LL,↓reduceIte,Nat.reduceEqDiff,e0,e3];(try rfl);done)) | (apply Rf.i;first | rfl | assumption) | (apply Vl.i;((try simp (disch:=omega) only [VV,↓reduceIte,peqI,encP,e0,e3]);(try rfl);done)) | (apply Am.i;assumption) | (apply Pu.i;((try simp only [↓reduceIte,UU,RR,Nat.reduceAdd,Nat.reduceEqDiff,cellsP,putP,fillQ,flatQ,shP,sh1,encP]);(try rfl);done)) | (apply Om.i;((try simp only [MM]);(try omega);done)) | (apply Vw.i;exact VwA));(all_goals fail_if_success apply Mk.i)
        refine fplace_spec ?_
        rw [show (if w=true then (62:Int) else 50)=pl w 50 62 from rfl]
        refine W1 (And.intro @e0 @e3) @DD @fspot_spec ?_
        exact ⟨_,rfl,rfl,this⟩
      · have:=hk2 n f6 (by rw [hP,if_neg (fun h=>h7 h.2),if_pos h6]) (by omega) hin (by omega)
        refine W1 (And.intro @e0 @e3) (And.intro @DD (And.intro @hcx @hc6)) trivial ?_
        exact ⟨_,rfl,rfl,this⟩
    · have:=hk2 n sx (by rw [hP,if_neg (fun h=>h6 h.1),if_neg h6]) (by omega) hin (by omega)
      refine W1 (And.intro @e0 @e3) (And.intro @DD @hcx) trivial ?_
      exact ⟨_,rfl,rfl,this⟩
end
end Go.Proofs.YtcffpnlochillaaGreatDoor.PvW
end
