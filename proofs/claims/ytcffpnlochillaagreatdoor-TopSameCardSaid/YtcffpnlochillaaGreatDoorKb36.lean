/- A heap of plain values, walks over it, and functions of the program met by them: no statement of the set is proved in this text. -/
import Derived.Test.YtcffpnlochillaaGreatDoorKb19
import Derived.Test.YtcffpnlochillaaGreatDoorKb24
set_option linter.unusedVariables false
set_option linter.unusedSimpArgs false
set_option maxRecDepth 100000
set_option maxHeartbeats 4000000
section
namespace Go.Proofs.YtcffpnlochillaaGreatDoor.PvW
open Go.RowKit Go.Proofs.YtcffpnlochillaaGreatDoor.Cd Go.Proofs.YtcffpnlochillaaGreatDoor.AbP Go.Proofs.YtcffpnlochillaaGreatDoor.Num Go.Proofs.YtcffpnlochillaaGreatDoor.Pv
section
variable {K:PV→List OB→Prop} {b:List Int} {w big:Bool} {o ab ty ma en po so fl pn sn sx np ns f0 f1 f2 f3 f4 f5 f6 f7 f8 f9 st:Int} {loads:List dProgM.T} {segs:List dSeg.T} {secs:List dSec.T}
theorem fhas_t {a n:Int} (h:Am (withinB a n b.length=true)) (ha:Om (0≤a∧a≤18446744073709551615)) (hb:Om (b.length≤1000000)) (hk:K (.bool true) [.var [.sl (.int .u8) b,.bool w,.bool big,.int .u8 o,.int .u8 ab,.int .u16 ty,.int .u16 ma,.int .u64 en,.int .u64 po,.int .u64 so,.int .u32 fl,.int .u16 pn,.int .u16 sn,.int .u16 sx,.bool w,.bool big,.int .u64 np,.int .u64 ns,.int .u32 f0,.int .u32 f1,.int .u64 f2,.int .u64 f3,.int .u64 f4,.int .u64 f5,.int .u32 f6,.int .u32 f7,.int .u64 f8,.int .u64 f9,.bool w,.bool big,.int .u8 o,.int .u8 ab,.int .u16 ty,.int .u16 ma,.int .u32 fl,.int .u64 en,.osl 2 segs.length,.osl 3 secs.length,.int .i64 st,.osl 1 loads.length],.arr dProgM loads,.arr dSeg segs,.arr dSec secs]):PCalls Tryz.prog 98 [.ptr 0 0,.int .u64 a,.int .u64 n] [.var [.sl (.int .u8) b,.bool w,.bool big,.int .u8 o,.int .u8 ab,.int .u16 ty,.int .u16 ma,.int .u64 en,.int .u64 po,.int .u64 so,.int .u32 fl,.int .u16 pn,.int .u16 sn,.int .u16 sx,.bool w,.bool big,.int .u64 np,.int .u64 ns,.int .u32 f0,.int .u32 f1,.int .u64 f2,.int .u64 f3,.int .u64 f4,.int .u64 f5,.int .u32 f6,.int .u32 f7,.int .u64 f8,.int .u64 f9,.bool w,.bool big,.int .u8 o,.int .u8 ab,.int .u16 ty,.int .u16 ma,.int .u32 fl,.int .u64 en,.osl 2 segs.length,.osl 3 secs.length,.int .i64 st,.osl 1 loads.length],.arr dProgM loads,.arr dSeg segs,.arr dSec secs] K:=fhas_spec ha hb (by rw [h.o];exact hk)
theorem fhas_f {a n:Int} (h:Am (withinB a n b.length=false)) (ha:Om (0≤a∧a≤18446744073709551615)) (hb:Om (b.length≤1000000)) (hk:K (.bool false) [.var [.sl (.int .u8) b,.bool w,.bool big,.int .u8 o,.int .u8 ab,.int .u16 ty,.int .u16 ma,.int .u64 en,.int .u64 po,.int .u64 so,.int .u32 fl,.int .u16 pn,.int .u16 sn,.int .u16 sx,.bool w,.bool big,.int .u64 np,.int .u64 ns,.int .u32 f0,.int .u32 f1,.int .u64 f2,.int .u64 f3,.int .u64 f4,.int .u64 f5,.int .u32 f6,.int .u32 f7,.int .u64 f8,.int .u64 f9,.bool w,.bool big,.int .u8 o,.int .u8 ab,.int .u16 ty,.int .u16 ma,.int .u32 fl,.int .u64 en,.osl 2 segs.length,.osl 3 secs.length,.int .i64 st,.osl 1 loads.length],.arr dProgM loads,.arr dSeg segs,.arr dSec secs]):PCalls Tryz.prog 98 [.ptr 0 0,.int .u64 a,.int .u64 n] [.var [.sl (.int .u8) b,.bool w,.bool big,.int .u8 o,.int .u8 ab,.int .u16 ty,.int .u16 ma,.int .u64 en,.int .u64 po,.int .u64 so,.int .u32 fl,.int .u16 pn,.int .u16 sn,.int .u16 sx,.bool w,.bool big,.int .u64 np,.int .u64 ns,.int .u32 f0,.int .u32 f1,.int .u64 f2,.int .u64 f3,.int .u64 f4,.int .u64 f5,.int .u32 f6,.int .u32 f7,.int .u64 f8,.int .u64 f9,.bool w,.bool big,.int .u8 o,.int .u8 ab,.int .u16 ty,.int .u16 ma,.int .u32 fl,.int .u64 en,.osl 2 segs.length,.osl 3 secs.length,.int .i64 st,.osl 1 loads.length],.arr dProgM loads,.arr dSeg segs,.arr dSec secs] K:=fhas_spec ha hb (by rw [h.o];exact hk)
theorem pl_le {w:Bool} {x y:Int} (hx:0≤x∧x≤100) (hy:0≤y∧y≤100):0≤pl w x y∧pl w x y≤100:=by unfold pl;split <;> omega
theorem fsections_spec (hB:Am (B b)) (hb:Om (b.length≤1000000)) (hso:Om (0≤so∧so≤18446744073709551615)) (hsn:Om (0≤sn∧sn≤65535))
    (hk1:∀ a c,sectionsP b w big so sn = .error (a,c)→∀ g0 g1 g2 g3 g4 g5 g6 g7 g8 g9 ms:Int,K (eSpot a c) [.var [.sl (.int .u8) b,.bool w,.bool big,.int .u8 o,.int .u8 ab,.int .u16 ty,.int .u16 ma,.int .u64 en,.int .u64 po,.int .u64 so,.int .u32 fl,.int .u16 pn,.int .u16 sn,.int .u16 sx,.bool w,.bool big,.int .u64 np,.int .u64 ms,.int .u32 g0,.int .u32 g1,.int .u64 g2,.int .u64 g3,.int .u64 g4,.int .u64 g5,.int .u32 g6,.int .u32 g7,.int .u64 g8,.int .u64 g9,.bool w,.bool big,.int .u8 o,.int .u8 ab,.int .u16 ty,.int .u16 ma,.int .u32 fl,.int .u64 en,.osl 2 segs.length,.osl 3 secs.length,.int .i64 st,.osl 1 loads.length],.arr dProgM loads,.arr dSeg segs,.arr dSec secs])
    (hk2:∀ g0 g1 g2 g3 g4 g5 g6 g7 g8 g9 ms:Int,sectionsP b w big so sn = .ok ((g0,g1,g2,g3,g4,g5,g6,g7,g8,g9,PUnit.unit),ms)→SectN g0 g1 g2 g3 g4 g5 g6 g7 g8 g9→0≤ms∧ms≤65→K .nilI [.var [.sl (.int .u8) b,.bool w,.bool big,.int .u8 o,.int .u8 ab,.int .u16 ty,.int .u16 ma,.int .u64 en,.int .u64 po,.int .u64 so,.int .u32 fl,.int .u16 pn,.int .u16 sn,.int .u16 sx,.bool w,.bool big,.int .u64 np,.int .u64 ms,.int .u32 g0,.int .u32 g1,.int .u64 g2,.int .u64 g3,.int .u64 g4,.int .u64 g5,.int .u32 g6,.int .u32 g7,.int .u64 g8,.int .u64 g9,.bool w,.bool big,.int .u8 o,.int .u8 ab,.int .u16 ty,.int .u16 ma,.int .u32 fl,.int .u64 en,.osl 2 segs.length,.osl 3 secs.length,.int .i64 st,.osl 1 loads.length],.arr dProgM loads,.arr dSeg segs,.arr dSec secs]) :
    PCalls Tryz.prog 41 [.ptr 0 0] [.var [.sl (.int .u8) b,.bool w,.bool big,.int .u8 o,.int .u8 ab,.int .u16 ty,.int .u16 ma,.int .u64 en,.int .u64 po,.int .u64 so,.int .u32 fl,.int .u16 pn,.int .u16 sn,.int .u16 sx,.bool w,.bool big,.int .u64 np,.int .u64 0,.int .u32 0,.int .u32 0,.int .u64 0,.int .u64 0,.int .u64 0,.int .u64 0,.int .u32 0,.int .u32 0,.int .u64 0,.int .u64 0,.bool w,.bool big,.int .u8 o,.int .u8 ab,.int .u16 ty,.int .u16 ma,.int .u32 fl,.int .u64 en,.osl 2 segs.length,.osl 3 secs.length,.int .i64 st,.osl 1 loads.length],.arr dProgM loads,.arr dSeg segs,.arr dSec secs] K:=by
  have hB:=hB.o
  have hb:=hb.o
  have hso:=hso.o
  have hsn:=hsn.o
  have hp1:0≤pl w 32 40∧pl w 32 40≤100:=pl_le (by decide) (by decide)
  have hp2:0≤pl w 48 60∧pl w 48 60≤100:=pl_le (by decide) (by decide)
  have hsz:40≤ssz w∧ssz w≤64:=by cases w <;> decide
  refine told_callS file_parser_sections.told fun Z hZ=>?_
  unfold file_parser_sections.c
  refine W1 trivial @DD trivial ?_
  apply ca_S [0,1,2,3];(repeat any_goals first | exact mp_z | apply mp_s | exact rs_z | apply rs_t | apply rs_n | apply rs_c);(repeat any_goals first | (apply Lk.i;(simp only [↓LL,↓reduceIte,Nat.reduceEqDiff];(try rfl);done)) | (apply Rf.i;first | rfl | assumption) | (apply Vl.i;((try simp (disch:=omega) only [VV,↓reduceIte,peqI,encP]);(try rfl);done)) | (apply Am.i;assumption) | (apply Pu.i;((try simp only [↓reduceIte,UU,RR,Nat.reduceAdd,Nat.reduceEqDiff,cellsP,putP,fillQ,flatQ,shP,sh1,encP]);(try rfl);done)) | (apply Om.i;((try simp only [MM]);(try omega);done)) | (apply Vw.i;exact VwA));(all_goals fail_if_success apply Mk.i)
  refine fplace_spec ?_
  rw [show (if w=true then (40:Int) else 32)=pl w 32 40 from rfl]
  by_cases h0:so=0
  · subst h0
    by_cases h1:sn=0
    · subst h1
      have:=hk2 0 0 0 0 0 0 0 0 0 0 0 (by unfold sectionsP;rw [if_pos rfl,if_pos rfl];rfl) ⟨by decide,by decide,by decide,by decide,by decide,by decide,by decide,by decide,by decide,by decide⟩ (by decide)
      refine W1 trivial @DD trivial ?_
      exact ⟨_,rfl,rfl,this⟩
    · have:=hk1 (pl w 48 60) 4 (by unfold sectionsP;rw [if_pos rfl,if_neg h1]) 0 0 0 0 0 0 0 0 0 0 0
      refine W1 trivial @DD trivial ?_
      apply ca_S [0,1,2,3];(repeat any_goals first | exact mp_z | apply mp_s | exact rs_z | apply rs_t | apply rs_n | apply rs_c);(repeat any_goals first | (apply Lk.i;(simp only [↓LL,↓reduceIte,Nat.reduceEqDiff];(try rfl);done)) | (apply Rf.i;first | rfl | assumption) | (apply Vl.i;((try simp (disch:=omega) only [VV,↓reduceIte,peqI,encP]);(try rfl);done)) | (apply Am.i;assumption) | (apply Pu.i;((try simp only [↓reduceIte,UU,RR,Nat.reduceAdd,Nat.reduceEqDiff,cellsP,putP,fillQ,flatQ,shP,sh1,encP]);(try rfl);done)) | (apply Om.i;((try simp only [MM]);(try omega);done)) | (apply Vw.i;exact VwA));(all_goals fail_if_success apply Mk.i)
      refine fplace_spec ?_
      rw [show (if w=true then (60:Int) else 48)=pl w 48 60 from rfl]
      refine W1 trivial @DD @fspot_spec ?_
      exact ⟨_,rfl,rfl,this⟩
  by_cases h2:so+ssz w≤b.length
  rotate_left
  · have:=hk1 (pl w 32 40) 5 (by unfold sectionsP;rw [if_neg h0,if_neg h2]) 0 0 0 0 0 0 0 0 0 0 0
    refine W1 trivial @DD trivial ?_
    refine sget_spec ⟨hB⟩ ⟨by omega⟩ ⟨hso⟩ (fun h=>absurd h h2) (fun _=>?_)
    refine W1 trivial @DD @fspot_spec ?_
    exact ⟨_,rfl,rfl,this⟩
  obtain ⟨nm,ty',fl',ad,off,si,li,sf,al,en',hx,hN⟩:=sectG_N hB w big so
  have hnsi:=hN.si
  obtain ⟨n,hn⟩:∃ n:Int,n=if sn=0 then si else sn:=⟨_,rfl⟩
  have hS:sectionsP b w big so sn=if n=0∨65 < n then .error (pl w 32 40,8) else if withinB so (n * ssz w) b.length=true then .ok ((nm,ty',fl',ad,off,si,li,sf,al,en',PUnit.unit),n) else .error (pl w 32 40,5):=by
    unfold sectionsP
    rw [if_neg h0,if_pos h2,hx,hn]
  have hcz:IntKind.wrap .u64 (if w=true then 64 else 40)=ssz w:=by cases w <;> rfl
  have hcs:IntKind.wrap .u64 sn=sn:=by rw [wU64];omega
  refine W1 trivial (And.intro @DD @hcs) @sgetT_spec ?_
  refine ps_cut (fun e s=>s=[.var [.sl (.int .u8) b,.bool w,.bool big,.int .u8 o,.int .u8 ab,.int .u16 ty,.int .u16 ma,.int .u64 en,.int .u64 po,.int .u64 so,.int .u32 fl,.int .u16 pn,.int .u16 sn,.int .u16 sx,.bool w,.bool big,.int .u64 np,.int .u64 n,.int .u32 nm,.int .u32 ty',.int .u64 fl',.int .u64 ad,.int .u64 off,.int .u64 si,.int .u32 li,.int .u32 sf,.int .u64 al,.int .u64 en',.bool w,.bool big,.int .u8 o,.int .u8 ab,.int .u16 ty,.int .u16 ma,.int .u32 fl,.int .u64 en,.osl 2 segs.length,.osl 3 secs.length,.int .i64 st,.osl 1 loads.length],.arr dProgM loads,.arr dSeg segs,.arr dSec secs]∧e 0 = .ptr 0 0∧e 3 = .int .u64 (pl w 32 40)) (fun h=>?_) (fun h=>?_) ?_
  · have hn:n=si:=by rw [hn,if_pos (of_decide_eq_true h)]
    rw [hn]
    refine W1 trivial @DD trivial ?_
    exact ⟨_,_,Gh.sel [0,1,2,3] (by decide) (hz4 hZ (by decide)),rfl,by exact lk trivial,by exact lk trivial⟩
  · have hn:n=sn:=by rw [hn,if_neg (of_decide_eq_false h)]
    rw [hn]
    refine W1 trivial @DD trivial ?_
    exact ⟨_,_,Gh.sel [0,1,2,3] (by decide) (hz4 hZ (by decide)),rfl,by exact lk trivial,by exact lk trivial⟩
  have hn0:0≤n∧n≤18446744073709551615:=by rw [hn];split <;> omega
  clear hn
  rintro e s ⟨rfl,e0,e3⟩
  by_cases h3:n=0
  · have:=hk1 (pl w 32 40) 8 (by rw [hS,if_pos (.inl h3)]) nm ty' fl' ad off si li sf al en' n
    refine W1 (And.intro @e0 @e3) @DD @fspot_spec ?_
    exact ⟨_,rfl,rfl,this⟩
  by_cases h4:65 < n
  · have:=hk1 (pl w 32 40) 8 (by rw [hS,if_pos (.inr h4)]) nm ty' fl' ad off si li sf al en' n
    refine W1 (And.intro @e0 @e3) @DD @fspot_spec ?_
    exact ⟨_,rfl,rfl,this⟩
  have hnz:0≤n * ssz w∧n * ssz w≤5000:=by cases w <;> simp only [ssz,Bool.false_eq_true,↓reduceIte] <;> omega
  have hwr:IntKind.wrap .u64 (n * ssz w)=n * ssz w:=by rw [wU64];omega
  cases h5:withinB so (n * ssz w) b.length
  · have:=hk1 (pl w 32 40) 5 (by rw [hS,if_neg (by omega),h5,if_neg (by simp)]) nm ty' fl' ad off si li sf al en' n
    refine W1 (And.intro @e0 @e3) (And.intro @DD (And.intro @hcz @hwr)) @ssize_spec ?_
    apply ca_S [0,1,2,3];(repeat any_goals first | exact mp_z | apply mp_s | exact rs_z | apply rs_t | apply rs_n | apply rs_c);(repeat any_goals first | (apply Lk.i;(simp only [↓LL,↓reduceIte,Nat.reduceEqDiff,e0,e3];(try rfl);done)) | (apply Rf.i;first | rfl | assumption) | (apply Vl.i;((try simp (disch:=omega) only [VV,↓reduceIte,peqI,encP,e0,e3]);(try rfl);done)) | (apply Am.i;assumption) | (apply Pu.i;((try simp only [↓reduceIte,UU,RR,Nat.reduceAdd,Nat.reduceEqDiff,cellsP,putP,fillQ,flatQ,shP,sh1,encP]);(try rfl);done)) | (apply Om.i;((try simp only [MM]);(try omega);done)) | (apply Vw.i;exact VwA));(all_goals fail_if_success apply Mk.i)
    refine fhas_f ⟨h5⟩ ⟨hso⟩ ⟨hb⟩ ?_
    refine W1 (And.intro @e0 @e3) @DD @fspot_spec ?_
    exact ⟨_,rfl,rfl,this⟩
  · have:=hk2 nm ty' fl' ad off si li sf al en' n (by rw [hS,if_neg (by omega),h5,if_pos rfl]) hN (by omega)
    refine W1 (And.intro @e0 @e3) (And.intro @DD (And.intro @hcz @hwr)) @ssize_spec ?_
    apply ca_S [0,1,2,3];(repeat any_goals first | exact mp_z | apply mp_s | exact rs_z | apply rs_t | apply rs_n | apply rs_c);(repeat any_goals first | (apply Lk.i;(simp only [↓LL,↓reduceIte,Nat.reduceEqDiff,e0,e3];(try rfl);done)) | (apply Rf.i;first | rfl | assumption) | (apply Vl.i;((try simp (disch:=omega) only [VV,↓reduceIte,peqI,encP,e0,e3]);(try rfl);done)) | (apply Am.i;assumption) | (apply Pu.i;((try simp only [↓reduceIte,UU,RR,Nat.reduceAdd,Nat.reduceEqDiff,cellsP,putP,fillQ,flatQ,shP,sh1,encP]);(try rfl);done)) | (apply Om.i;((try simp only [MM]);(try omega);done)) | (apply Vw.i;exact VwA));(all_goals fail_if_success apply Mk.i)
    refine fhas_t ⟨h5⟩ ⟨hso⟩ ⟨hb⟩ ?_
    refine W1 (And.intro @e0 @e3) @DD @fspot_spec ?_
    exact ⟨_,rfl,rfl,this⟩
end
end Go.Proofs.YtcffpnlochillaaGreatDoor.PvW
end
