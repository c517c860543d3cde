/- A heap of plain values, walks over it, and functions of the program met by them: no statement of the set is proved in this text. -/
import Derived.Test.YtcffpnlochillaaGreatDoorKb26
import Derived.Test.YtcffpnlochillaaGreatDoorKb40
import Derived.Test.YtcffpnlochillaaGreatDoorKb42
set_option linter.unusedVariables false
set_option linter.unusedSimpArgs false
set_option maxRecDepth 100000
set_option maxHeartbeats 4000000
section
namespace Go.Proofs.YtcffpnlochillaaGreatDoor.PvW
open Go.RowKit Go.Proofs.YtcffpnlochillaaGreatDoor.Cd Go.Proofs.YtcffpnlochillaaGreatDoor.AbP Go.Proofs.YtcffpnlochillaaGreatDoor.Num Go.Proofs.YtcffpnlochillaaGreatDoor.Pv
abbrev mdZ:PV:=.agg [.bool false,.bool false,.int .u8 0,.int .u8 0,.int .u16 0,.int .u16 0,.int .u32 0,.int .u64 0,.nilS,.nilS,.int .i64 0]
abbrev mdP (b:List Int) (segs:List dSeg.T) (secs:List dSec.T) (st:Int):PV:=.agg [.bool (hdW b),.bool (hdB b),.int .u8 (b.getD 7 0),.int .u8 (b.getD 8 0),.int .u16 ((hdV b).getD 0 0),.int .u16 ((hdV b).getD 1 0),.int .u32 ((hdV b).getD 6 0),.int .u64 ((hdV b).getD 3 0),.sl dSeg segs,.sl dSec secs,.int .i64 st]
theorem bodyP_1 {b:List Int} {w big:Bool} {en po so pn sn sx:Int} {a c:Int} (h:sectionsP b w big so sn = .error (a,c)):bodyP b w big en po so pn sn sx = .bad a c:=by
  unfold bodyP
  rw [h]
theorem bodyP_2 {b:List Int} {w big:Bool} {en po so pn sn sx:Int} {x:dSectM.T} {n a c:Int} (h:sectionsP b w big so sn = .ok (x,n)) (h2:programsP b w po so pn sx x = .error (a,c)):bodyP b w big en po so pn sn sx = .bad a c:=by
  unfold bodyP
  rw [h]
  dsimp only
  rw [h2]
theorem bodyP_3 {b:List Int} {w big:Bool} {en po so pn sn sx:Int} {x:dSectM.T} {n np st a c:Int} (h:sectionsP b w big so sn = .ok (x,n)) (h2:programsP b w po so pn sx x = .ok (np,st)) (h3:firstE (loadE b w big po) np.toNat=some (a,c)):bodyP b w big en po so pn sn sx = .bad a c:=by
  unfold bodyP
  rw [h]
  dsimp only
  rw [h2]
  dsimp only
  rw [h3]
theorem bodyP_4 {b:List Int} {w big:Bool} {en po so pn sn sx:Int} {x:dSectM.T} {n np st a c:Int} (h:sectionsP b w big so sn = .ok (x,n)) (h2:programsP b w po so pn sx x = .ok (np,st)) (h3:firstE (loadE b w big po) np.toNat=none) (h4:firstE (fun k=>secE b w big so (k+1)) (n - 1).toNat=some (a,c)):bodyP b w big en po so pn sn sx = .bad a c:=by
  unfold bodyP
  rw [h]
  dsimp only
  rw [h2]
  dsimp only
  rw [h3]
  dsimp only
  rw [h4]
theorem bodyP_5 {b:List Int} {w big:Bool} {en po so pn sn sx:Int} {x:dSectM.T} {n np st:Int} (h:sectionsP b w big so sn = .ok (x,n)) (h2:programsP b w po so pn sx x = .ok (np,st)) (h3:firstE (loadE b w big po) np.toNat=none) (h4:firstE (fun k=>secE b w big so (k+1)) (n - 1).toNat=none):bodyP b w big en po so pn sn sx=lastP w en (segsP b (loadsP b w big po np.toNat)) (secsP b w big so (loadsP b w big po np.toNat) st (n - 1).toNat) st:=by
  unfold bodyP
  rw [h]
  dsimp only
  rw [h2]
  dsimp only
  rw [h3]
  dsimp only
  rw [h4]
theorem sections_in {b:List Int} {w big:Bool} {so sn n:Int} {x:dSectM.T} (h:sectionsP b w big so sn = .ok (x,n)):n=0∨so+n * ssz w≤b.length:=by
  unfold sectionsP at h
  by_cases h0:so=0
  · rw [if_pos h0] at h
    by_cases h1:sn=0
    · rw [if_pos h1] at h
      simp only [Except.ok.injEq,Prod.mk.injEq] at h
      exact .inl h.2.symm
    · rw [if_neg h1] at h;cases h
  rw [if_neg h0] at h
  by_cases h2:so+ssz w≤b.length
  rotate_left
  · rw [if_neg h2] at h;cases h
  rw [if_pos h2] at h
  dsimp only at h
  generalize (if sn=0 then (sectG (gets b big so (secW w))).2.2.2.2.2.1 else sn:Int)=m at h
  by_cases h3:m=0∨65 < m
  · rw [if_pos h3] at h;cases h
  rw [if_neg h3] at h
  cases h4:withinB so (m * ssz w) b.length with
  | false=>rw [h4,if_neg (by simp)] at h;cases h
  | true =>
    rw [h4,if_pos rfl] at h
    simp only [Except.ok.injEq,Prod.mk.injEq] at h
    obtain ⟨-,rfl⟩:=h
    have:=within_le h4
    exact .inr (by omega)
section
variable {K:PV→List OB→Prop}
theorem parse_G {b:List Int} (hB:Am (B b)) (hb:Om (b.length≤1000000)) (hk1:∀ a c,parseP b = .bad a c→K (.tup [mdZ,eSpot a c]) []) (hk2:∀ segs secs st,parseP b = .ok segs secs st→K (.tup [mdP b segs secs st,.nilI]) []) :
    GCalls laidG Tryz.prog 15 [.sl (.int .u8) b] [] K:=by
  have hB:=hB.o
  have hb:=hb.o
  refine told_callG file_Parse.told fun Z hZ hg=>?_
  unfold file_Parse.c
  by_cases hl:65536 < b.length
  · have:=hk1 65536 8 (by unfold parseP;rw [if_pos hl])
    refine W1 trivial @DD @fspot_spec ?_
    exact this
  have hP:parseP b=(match headBad b with | some e=>.bad e.1 e.2 | none=>bodyP b (hdW b) (hdB b) ((hdV b).getD 3 0) ((hdV b).getD 4 0) ((hdV b).getD 5 0) ((hdV b).getD 9 0) ((hdV b).getD 11 0) ((hdV b).getD 12 0)):=by unfold parseP;rw [if_neg hl];cases headBad b <;> rfl
  refine W1 trivial @DD trivial ?_
  refine hget_spec ⟨hB⟩ ⟨hb⟩ (fun a c hh=>?_) (fun hh=>?_)
  · have:=hk1 a c (by rw [hP,hh])
    refine W1 trivial @DD trivial ?_
    exact this
  rw [hh] at hP
  have hP:parseP b=bodyP b (hdW b) (hdB b) ((hdV b).getD 3 0) ((hdV b).getD 4 0) ((hdV b).getD 5 0) ((hdV b).getD 9 0) ((hdV b).getD 11 0) ((hdV b).getD 12 0):=hP
  obtain ⟨v0,v1,v3,v4,v5,v6,v9,v11,v12⟩:=hdV_N hB
  unfold U64 at v3 v4 v5
  have hk:∀ (segs:List dSeg.T) (secs:List dSec.T) (st:Int),parseP b = .ok segs secs st→K (.tup [.agg [.bool (hdW b),.bool (hdB b),.int .u8 (b.getD 7 0),.int .u8 (b.getD 8 0),.int .u16 ((hdV b).getD 0 0),.int .u16 ((hdV b).getD 1 0),.int .u32 ((hdV b).getD 6 0),.int .u64 ((hdV b).getD 3 0),.sl dSeg segs,.sl dSec secs,.int .i64 st],.nilI]) []:=hk2
  clear hk2
  show Aft _ _ _ _ _ _ _ _ (.tup [.agg [.bool (hdW b),.bool (hdB b),.int .u8 (b.getD 7 0),.int .u8 (b.getD 8 0),.int .u16 ((hdV b).getD 0 0),.int .u16 ((hdV b).getD 1 0),.int .u64 ((hdV b).getD 3 0),.int .u64 ((hdV b).getD 4 0),.int .u64 ((hdV b).getD 5 0),.int .u32 ((hdV b).getD 6 0),.int .u16 ((hdV b).getD 9 0),.int .u16 ((hdV b).getD 11 0),.int .u16 ((hdV b).getD 12 0)],.nilI]) _
  generalize (hdV b).getD 0 0=ty at *
  generalize (hdV b).getD 1 0=ma at *
  generalize (hdV b).getD 3 0=en at *
  generalize (hdV b).getD 4 0=po at *
  generalize (hdV b).getD 5 0=so at *
  generalize (hdV b).getD 6 0=fl at *
  generalize (hdV b).getD 9 0=pn at *
  generalize (hdV b).getD 11 0=sn at *
  generalize (hdV b).getD 12 0=sx at *
  generalize hdW b=w at *
  generalize hdB b=big at *
  generalize b.getD 7 0=o at *
  generalize b.getD 8 0=ab at *
  refine W1 trivial @DD trivial ?_
  apply x_virtV 2 39 dProgM;(repeat any_goals first | exact mp_z | apply mp_s | exact rs_z | apply rs_t | apply rs_n | apply rs_c);(repeat any_goals first | (apply Lk.i;(simp only [↓LL,↓reduceIte,Nat.reduceEqDiff];(try rfl);done)) | (apply Rf.i;first | rfl | assumption) | (apply Vl.i;((try simp (disch:=omega) only [VV,↓reduceIte,peqI,encP]);(try rfl);done)) | (apply Am.i;assumption) | (apply Pu.i;((try simp only [↓reduceIte,UU,RR,Nat.reduceAdd,Nat.reduceEqDiff,cellsP,putP,fillQ,flatQ,shP,sh1,encP]);(try rfl);done)) | (apply Om.i;((try simp only [MM]);(try omega);done)) | (apply Vw.i;exact VwA));(all_goals fail_if_success apply Mk.i)
  apply x_virtV 2 36 dSeg;(repeat any_goals first | exact mp_z | apply mp_s | exact rs_z | apply rs_t | apply rs_n | apply rs_c);(repeat any_goals first | (apply Lk.i;(simp only [↓LL,↓reduceIte,Nat.reduceEqDiff];(try rfl);done)) | (apply Rf.i;first | rfl | assumption) | (apply Vl.i;((try simp (disch:=omega) only [VV,↓reduceIte,peqI,encP]);(try rfl);done)) | (apply Am.i;assumption) | (apply Pu.i;((try simp only [↓reduceIte,UU,RR,Nat.reduceAdd,Nat.reduceEqDiff,cellsP,putP,fillQ,flatQ,shP,sh1,encP]);(try rfl);done)) | (apply Om.i;((try simp only [MM]);(try omega);done)) | (apply Vw.i;exact VwA));(all_goals fail_if_success apply Mk.i)
  apply x_virtV 2 37 dSec;(repeat any_goals first | exact mp_z | apply mp_s | exact rs_z | apply rs_t | apply rs_n | apply rs_c);(repeat any_goals first | (apply Lk.i;(simp only [↓LL,↓reduceIte,Nat.reduceEqDiff];(try rfl);done)) | (apply Rf.i;first | rfl | assumption) | (apply Vl.i;((try simp (disch:=omega) only [VV,↓reduceIte,peqI,encP]);(try rfl);done)) | (apply Am.i;assumption) | (apply Pu.i;((try simp only [↓reduceIte,UU,RR,Nat.reduceAdd,Nat.reduceEqDiff,cellsP,putP,fillQ,flatQ,shP,sh1,encP]);(try rfl);done)) | (apply Om.i;((try simp only [MM]);(try omega);done)) | (apply Vw.i;exact VwA));(all_goals fail_if_success apply Mk.i)
  refine w_lpG (fun q e s=>(e 0 = .sl (.int .u8) b∧e 2 = .ptr 0 0∧e 3 = .nilI∧e 4 = .ptr 1 0∧e 6 = .ptr 2 0∧e 56 = .osl 3 4∧e 57 = .int .i64 4) ∧
    ((q=4∧e 58 = .int .i64 0∧s=[.var [.bool false,.bool false,.int .u8 0,.int .u8 0,.int .u16 0,.int .u16 0,.int .u32 0,.int .u64 0,.nilS,.nilS,.int .i64 0],.var [.bool w,.bool big,.int .u8 o,.int .u8 ab,.int .u16 ty,.int .u16 ma,.int .u64 en,.int .u64 po,.int .u64 so,.int .u32 fl,.int .u16 pn,.int .u16 sn,.int .u16 sx],.var [.sl (.int .u8) b,.bool w,.bool big,.int .u8 o,.int .u8 ab,.int .u16 ty,.int .u16 ma,.int .u64 en,.int .u64 po,.int .u64 so,.int .u32 fl,.int .u16 pn,.int .u16 sn,.int .u16 sx,.bool w,.bool big,.int .u64 0,.int .u64 0,.int .u32 0,.int .u32 0,.int .u64 0,.int .u64 0,.int .u64 0,.int .u64 0,.int .u32 0,.int .u32 0,.int .u64 0,.int .u64 0,.bool w,.bool big,.int .u8 o,.int .u8 ab,.int .u16 ty,.int .u16 ma,.int .u32 fl,.int .u64 en,.osl 5 (([]:List dSeg.T)).length,.osl 6 (([]:List dSec.T)).length,.int .i64 0,.osl 4 (([]:List dProgM.T)).length],.row 1 4 [.fn 41 [.ptr 2 0] [],.fn 42 [.ptr 2 0] [],.fn 43 [.ptr 2 0] [],.fn 44 [.ptr 2 0] []],.arr dProgM ([]:List dProgM.T),.arr dSeg ([]:List dSeg.T),.arr dSec ([]:List dSec.T)])
    ∨ (q=3∧e 58 = .int .i64 1∧∃ g0 g1 g2 g3 g4 g5 g6 g7 g8 g9 ms:Int,sectionsP b w big so sn = .ok ((g0,g1,g2,g3,g4,g5,g6,g7,g8,g9,PUnit.unit),ms)∧SectN g0 g1 g2 g3 g4 g5 g6 g7 g8 g9∧(0≤ms∧ms≤65)∧s=[.var [.bool false,.bool false,.int .u8 0,.int .u8 0,.int .u16 0,.int .u16 0,.int .u32 0,.int .u64 0,.nilS,.nilS,.int .i64 0],.var [.bool w,.bool big,.int .u8 o,.int .u8 ab,.int .u16 ty,.int .u16 ma,.int .u64 en,.int .u64 po,.int .u64 so,.int .u32 fl,.int .u16 pn,.int .u16 sn,.int .u16 sx],.var [.sl (.int .u8) b,.bool w,.bool big,.int .u8 o,.int .u8 ab,.int .u16 ty,.int .u16 ma,.int .u64 en,.int .u64 po,.int .u64 so,.int .u32 fl,.int .u16 pn,.int .u16 sn,.int .u16 sx,.bool w,.bool big,.int .u64 0,.int .u64 ms,.int .u32 g0,.int .u32 g1,.int .u64 g2,.int .u64 g3,.int .u64 g4,.int .u64 g5,.int .u32 g6,.int .u32 g7,.int .u64 g8,.int .u64 g9,.bool w,.bool big,.int .u8 o,.int .u8 ab,.int .u16 ty,.int .u16 ma,.int .u32 fl,.int .u64 en,.osl 5 (([]:List dSeg.T)).length,.osl 6 (([]:List dSec.T)).length,.int .i64 0,.osl 4 (([]:List dProgM.T)).length],.row 1 4 [.fn 41 [.ptr 2 0] [],.fn 42 [.ptr 2 0] [],.fn 43 [.ptr 2 0] [],.fn 44 [.ptr 2 0] []],.arr dProgM ([]:List dProgM.T),.arr dSeg ([]:List dSeg.T),.arr dSec ([]:List dSec.T)])
    ∨ (q=2∧e 58 = .int .i64 2∧∃ g0 g1 g2 g3 g4 g5 g6 g7 g8 g9 ms mt:Int,∃ n:Nat,sectionsP b w big so sn = .ok ((g0,g1,g2,g3,g4,g5,g6,g7,g8,g9,PUnit.unit),ms)∧SectN g0 g1 g2 g3 g4 g5 g6 g7 g8 g9∧(0≤ms∧ms≤65)∧programsP b w po so pn sx (g0,g1,g2,g3,g4,g5,g6,g7,g8,g9,PUnit.unit) = .ok ((n:Int),mt)∧n≤16∧(n=0∨po+n * psz w≤b.length)∧(0≤mt∧mt≤4294967295)∧s=[.var [.bool false,.bool false,.int .u8 0,.int .u8 0,.int .u16 0,.int .u16 0,.int .u32 0,.int .u64 0,.nilS,.nilS,.int .i64 0],.var [.bool w,.bool big,.int .u8 o,.int .u8 ab,.int .u16 ty,.int .u16 ma,.int .u64 en,.int .u64 po,.int .u64 so,.int .u32 fl,.int .u16 pn,.int .u16 sn,.int .u16 sx],.var [.sl (.int .u8) b,.bool w,.bool big,.int .u8 o,.int .u8 ab,.int .u16 ty,.int .u16 ma,.int .u64 en,.int .u64 po,.int .u64 so,.int .u32 fl,.int .u16 pn,.int .u16 sn,.int .u16 sx,.bool w,.bool big,.int .u64 ((n:Nat):Int),.int .u64 ms,.int .u32 g0,.int .u32 g1,.int .u64 g2,.int .u64 g3,.int .u64 g4,.int .u64 g5,.int .u32 g6,.int .u32 g7,.int .u64 g8,.int .u64 g9,.bool w,.bool big,.int .u8 o,.int .u8 ab,.int .u16 ty,.int .u16 ma,.int .u32 fl,.int .u64 en,.osl 5 (([]:List dSeg.T)).length,.osl 6 (([]:List dSec.T)).length,.int .i64 mt,.osl 4 (([]:List dProgM.T)).length],.row 1 4 [.fn 41 [.ptr 2 0] [],.fn 42 [.ptr 2 0] [],.fn 43 [.ptr 2 0] [],.fn 44 [.ptr 2 0] []],.arr dProgM ([]:List dProgM.T),.arr dSeg ([]:List dSeg.T),.arr dSec ([]:List dSec.T)])
    ∨ (q=1∧e 58 = .int .i64 3∧∃ g0 g1 g2 g3 g4 g5 g6 g7 g8 g9 ms mt:Int,∃ n:Nat,sectionsP b w big so sn = .ok ((g0,g1,g2,g3,g4,g5,g6,g7,g8,g9,PUnit.unit),ms)∧SectN g0 g1 g2 g3 g4 g5 g6 g7 g8 g9∧(0≤ms∧ms≤65)∧programsP b w po so pn sx (g0,g1,g2,g3,g4,g5,g6,g7,g8,g9,PUnit.unit) = .ok ((n:Int),mt)∧n≤16∧(n=0∨po+n * psz w≤b.length)∧(0≤mt∧mt≤4294967295)∧firstE (loadE b w big po) n=none∧s=[.var [.bool false,.bool false,.int .u8 0,.int .u8 0,.int .u16 0,.int .u16 0,.int .u32 0,.int .u64 0,.nilS,.nilS,.int .i64 0],.var [.bool w,.bool big,.int .u8 o,.int .u8 ab,.int .u16 ty,.int .u16 ma,.int .u64 en,.int .u64 po,.int .u64 so,.int .u32 fl,.int .u16 pn,.int .u16 sn,.int .u16 sx],.var [.sl (.int .u8) b,.bool w,.bool big,.int .u8 o,.int .u8 ab,.int .u16 ty,.int .u16 ma,.int .u64 en,.int .u64 po,.int .u64 so,.int .u32 fl,.int .u16 pn,.int .u16 sn,.int .u16 sx,.bool w,.bool big,.int .u64 ((n:Nat):Int),.int .u64 ms,.int .u32 g0,.int .u32 g1,.int .u64 g2,.int .u64 g3,.int .u64 g4,.int .u64 g5,.int .u32 g6,.int .u32 g7,.int .u64 g8,.int .u64 g9,.bool w,.bool big,.int .u8 o,.int .u8 ab,.int .u16 ty,.int .u16 ma,.int .u32 fl,.int .u64 en,.osl 5 ((segsP b (loadsP b w big po n))).length,.osl 6 (([]:List dSec.T)).length,.int .i64 mt,.osl 4 ((loadsP b w big po n)).length],.row 1 4 [.fn 41 [.ptr 2 0] [],.fn 42 [.ptr 2 0] [],.fn 43 [.ptr 2 0] [],.fn 44 [.ptr 2 0] []],.arr dProgM (loadsP b w big po n),.arr dSeg (segsP b (loadsP b w big po n)),.arr dSec ([]:List dSec.T)])
    ∨ (q=0∧e 58 = .int .i64 4∧∃ g0 g1 g2 g3 g4 g5 g6 g7 g8 g9 ms mt:Int,∃ n:Nat,sectionsP b w big so sn = .ok ((g0,g1,g2,g3,g4,g5,g6,g7,g8,g9,PUnit.unit),ms)∧SectN g0 g1 g2 g3 g4 g5 g6 g7 g8 g9∧(0≤ms∧ms≤65)∧programsP b w po so pn sx (g0,g1,g2,g3,g4,g5,g6,g7,g8,g9,PUnit.unit) = .ok ((n:Int),mt)∧n≤16∧(n=0∨po+n * psz w≤b.length)∧(0≤mt∧mt≤4294967295)∧firstE (loadE b w big po) n=none∧firstE (fun k=>secE b w big so (k+1)) (ms - 1).toNat=none∧s=[.var [.bool false,.bool false,.int .u8 0,.int .u8 0,.int .u16 0,.int .u16 0,.int .u32 0,.int .u64 0,.nilS,.nilS,.int .i64 0],.var [.bool w,.bool big,.int .u8 o,.int .u8 ab,.int .u16 ty,.int .u16 ma,.int .u64 en,.int .u64 po,.int .u64 so,.int .u32 fl,.int .u16 pn,.int .u16 sn,.int .u16 sx],.var [.sl (.int .u8) b,.bool w,.bool big,.int .u8 o,.int .u8 ab,.int .u16 ty,.int .u16 ma,.int .u64 en,.int .u64 po,.int .u64 so,.int .u32 fl,.int .u16 pn,.int .u16 sn,.int .u16 sx,.bool w,.bool big,.int .u64 ((n:Nat):Int),.int .u64 ms,.int .u32 g0,.int .u32 g1,.int .u64 g2,.int .u64 g3,.int .u64 g4,.int .u64 g5,.int .u32 g6,.int .u32 g7,.int .u64 g8,.int .u64 g9,.bool w,.bool big,.int .u8 o,.int .u8 ab,.int .u16 ty,.int .u16 ma,.int .u32 fl,.int .u64 en,.osl 5 ((segsP b (loadsP b w big po n))).length,.osl 6 ((secsP b w big so (loadsP b w big po n) mt (ms - 1).toNat)).length,.int .i64 mt,.osl 4 ((loadsP b w big po n)).length],.row 1 4 [.fn 41 [.ptr 2 0] [],.fn 42 [.ptr 2 0] [],.fn 43 [.ptr 2 0] [],.fn 44 [.ptr 2 0] []],.arr dProgM (loadsP b w big po n),.arr dSeg (segsP b (loadsP b w big po n)),.arr dSec (secsP b w big so (loadsP b w big po n) mt (ms - 1).toNat)]))) 4 ?_ ?_
  · exact ⟨⟨by exact lk trivial,by exact lk trivial,by exact lk trivial,by exact lk trivial,by exact lk trivial,by exact lk trivial,by exact lk trivial⟩,.inl ⟨rfl,by exact lk trivial,rfl⟩⟩
  rintro q e s ⟨⟨e0,e2,e3,e4,e6,e56,e57⟩,⟨rfl,e58,rfl⟩ | ⟨rfl,e58,g0,g1,g2,g3,g4,g5,g6,g7,g8,g9,ms,hS,hN,hms,rfl⟩ | ⟨rfl,e58,g0,g1,g2,g3,g4,g5,g6,g7,g8,g9,ms,mt,n,hS,hN,hms,hP2,hn,hni,hmt,rfl⟩ | ⟨rfl,e58,g0,g1,g2,g3,g4,g5,g6,g7,g8,g9,ms,mt,n,hS,hN,hms,hP2,hn,hni,hmt,hF,rfl⟩ | ⟨rfl,e58,g0,g1,g2,g3,g4,g5,g6,g7,g8,g9,ms,mt,n,hS,hN,hms,hP2,hn,hni,hmt,hF,hC,rfl⟩⟩
  · refine W1 (And.intro @e0 (And.intro @e2 (And.intro @e3 (And.intro @e4 (And.intro @e6 (And.intro @e56 (And.intro @e57 @e58))))))) @DD trivial ?_
    apply cf_S [2,4,5,6];(repeat any_goals first | exact mp_z | apply mp_s | exact rs_z | apply rs_t | apply rs_n | apply rs_c);(repeat any_goals first | (apply Lk.i;(simp only [↓LL,↓reduceIte,Nat.reduceEqDiff,e0,e2,e3,e4,e6,e56,e57,e58];(try rfl);done)) | (apply Rf.i;first | rfl | assumption) | (apply Vl.i;((try simp (disch:=omega) only [VV,↓reduceIte,peqI,encP,e0,e2,e3,e4,e6,e56,e57,e58]);(try rfl);done)) | (apply Am.i;assumption) | (apply Pu.i;((try simp only [↓reduceIte,UU,RR,Nat.reduceAdd,Nat.reduceEqDiff,cellsP,putP,fillQ,flatQ,shP,sh1,encP]);(try rfl);done)) | (apply Om.i;((try simp only [MM]);(try omega);done)) | (apply Vw.i;exact VwA));(all_goals fail_if_success apply Mk.i)
    refine fsections_spec (loads:=[]) (segs:=[]) (secs:=[]) ⟨hB⟩ ⟨hb⟩ ⟨v5⟩ ⟨v11⟩ (fun a c hE g0 g1 g2 g3 g4 g5 g6 g7 g8 g9 ms=>?_) (fun g0 g1 g2 g3 g4 g5 g6 g7 g8 g9 ms hS hN hms=>?_)
    · have:=hk1 a c (hP.trans (bodyP_1 hE))
      refine W1 (And.intro @e0 (And.intro @e2 (And.intro @e3 (And.intro @e4 (And.intro @e6 (And.intro @e56 (And.intro @e57 @e58))))))) @DD trivial ?_
      exact this
    · refine W1 (And.intro @e0 (And.intro @e2 (And.intro @e3 (And.intro @e4 (And.intro @e6 (And.intro @e56 (And.intro @e57 @e58))))))) @DD trivial ?_
      exact ⟨3,by omega,_,_,Gh.sel [0,1,2,3,4,5,6] (by decide) (hz0 hZ),⟨by exact lk @e0,by exact lk @e2,by exact lk @e3,by exact lk @e4,by exact lk @e6,by exact lk @e56,by exact lk @e57⟩,.inr (.inl ⟨rfl,by exact lk @e58,g0,g1,g2,g3,g4,g5,g6,g7,g8,g9,ms,hS,hN,hms,rfl⟩)⟩
  · refine W1 (And.intro @e0 (And.intro @e2 (And.intro @e3 (And.intro @e4 (And.intro @e6 (And.intro @e56 (And.intro @e57 @e58))))))) @DD trivial ?_
    apply cf_S [2,4,5,6];(repeat any_goals first | exact mp_z | apply mp_s | exact rs_z | apply rs_t | apply rs_n | apply rs_c);(repeat any_goals first | (apply Lk.i;(simp only [↓LL,↓reduceIte,Nat.reduceEqDiff,e0,e2,e3,e4,e6,e56,e57,e58];(try rfl);done)) | (apply Rf.i;first | rfl | assumption) | (apply Vl.i;((try simp (disch:=omega) only [VV,↓reduceIte,peqI,encP,e0,e2,e3,e4,e6,e56,e57,e58]);(try rfl);done)) | (apply Am.i;assumption) | (apply Pu.i;((try simp only [↓reduceIte,UU,RR,Nat.reduceAdd,Nat.reduceEqDiff,cellsP,putP,fillQ,flatQ,shP,sh1,encP]);(try rfl);done)) | (apply Om.i;((try simp only [MM]);(try omega);done)) | (apply Vw.i;exact VwA));(all_goals fail_if_success apply Mk.i)
    refine fprograms_spec (loads:=[]) (segs:=[]) (secs:=[]) ⟨hb⟩ ⟨v4⟩ ⟨v5⟩ ⟨v9⟩ ⟨v12⟩ ⟨hN⟩ (fun a c hE mp mt=>?_) (fun mp mt hQ hmp hin hmt=>?_)
    · have:=hk1 a c (hP.trans (bodyP_2 hS hE))
      refine W1 (And.intro @e0 (And.intro @e2 (And.intro @e3 (And.intro @e4 (And.intro @e6 (And.intro @e56 (And.intro @e57 @e58))))))) @DD trivial ?_
      exact this
    · obtain ⟨n,rfl⟩:∃ n:Nat,mp=n:=⟨mp.toNat,by omega⟩
      have hni:n=0∨po+n * psz w≤b.length:=by
        by_cases hn0:n=0
        · exact .inl hn0
        · have:=within_le (hin (by omega))
          exact .inr (by omega)
      refine W1 (And.intro @e0 (And.intro @e2 (And.intro @e3 (And.intro @e4 (And.intro @e6 (And.intro @e56 (And.intro @e57 @e58))))))) @DD trivial ?_
      exact ⟨2,by omega,_,_,Gh.sel [0,1,2,3,4,5,6] (by decide) (hz0 hZ),⟨by exact lk @e0,by exact lk @e2,by exact lk @e3,by exact lk @e4,by exact lk @e6,by exact lk @e56,by exact lk @e57⟩,.inr (.inr (.inl ⟨rfl,by exact lk @e58,g0,g1,g2,g3,g4,g5,g6,g7,g8,g9,ms,mt,n,hS,hN,hms,hQ,by omega,hni,hmt,rfl⟩))⟩
  · refine W1 (And.intro @e0 (And.intro @e2 (And.intro @e3 (And.intro @e4 (And.intro @e6 (And.intro @e56 (And.intro @e57 @e58))))))) @DD trivial ?_
    apply cf_S [2,4,5,6];(repeat any_goals first | exact mp_z | apply mp_s | exact rs_z | apply rs_t | apply rs_n | apply rs_c);(repeat any_goals first | (apply Lk.i;(simp only [↓LL,↓reduceIte,Nat.reduceEqDiff,e0,e2,e3,e4,e6,e56,e57,e58];(try rfl);done)) | (apply Rf.i;first | rfl | assumption) | (apply Vl.i;((try simp (disch:=omega) only [VV,↓reduceIte,peqI,encP,e0,e2,e3,e4,e6,e56,e57,e58]);(try rfl);done)) | (apply Am.i;assumption) | (apply Pu.i;((try simp only [↓reduceIte,UU,RR,Nat.reduceAdd,Nat.reduceEqDiff,cellsP,putP,fillQ,flatQ,shP,sh1,encP]);(try rfl);done)) | (apply Om.i;((try simp only [MM]);(try omega);done)) | (apply Vw.i;exact VwA));(all_goals fail_if_success apply Mk.i)
    refine fsegments_spec (secs:=[]) ⟨hB⟩ ⟨hb⟩ ⟨v4⟩ ⟨hn⟩ hni (fun a c hE L=>?_) (fun hF=>?_)
    · have:=hk1 a c (hP.trans (bodyP_3 hS hP2 hE))
      refine W1 (And.intro @e0 (And.intro @e2 (And.intro @e3 (And.intro @e4 (And.intro @e6 (And.intro @e56 (And.intro @e57 @e58))))))) @DD trivial ?_
      exact this
    · refine W1 (And.intro @e0 (And.intro @e2 (And.intro @e3 (And.intro @e4 (And.intro @e6 (And.intro @e56 (And.intro @e57 @e58))))))) @DD trivial ?_
      exact ⟨1,by omega,_,_,Gh.sel [0,1,2,3,4,5,6] (by decide) (hz0 hZ),⟨by exact lk @e0,by exact lk @e2,by exact lk @e3,by exact lk @e4,by exact lk @e6,by exact lk @e56,by exact lk @e57⟩,.inr (.inr (.inr (.inl ⟨rfl,by exact lk @e58,g0,g1,g2,g3,g4,g5,g6,g7,g8,g9,ms,mt,n,hS,hN,hms,hP2,hn,hni,hmt,hF,rfl⟩)))⟩
  · refine W1 (And.intro @e0 (And.intro @e2 (And.intro @e3 (And.intro @e4 (And.intro @e6 (And.intro @e56 (And.intro @e57 @e58))))))) @DD trivial ?_
    apply cf_S [2,4,5,6];(repeat any_goals first | exact mp_z | apply mp_s | exact rs_z | apply rs_t | apply rs_n | apply rs_c);(repeat any_goals first | (apply Lk.i;(simp only [↓LL,↓reduceIte,Nat.reduceEqDiff,e0,e2,e3,e4,e6,e56,e57,e58];(try rfl);done)) | (apply Rf.i;first | rfl | assumption) | (apply Vl.i;((try simp (disch:=omega) only [VV,↓reduceIte,peqI,encP,e0,e2,e3,e4,e6,e56,e57,e58]);(try rfl);done)) | (apply Am.i;assumption) | (apply Pu.i;((try simp only [↓reduceIte,UU,RR,Nat.reduceAdd,Nat.reduceEqDiff,cellsP,putP,fillQ,flatQ,shP,sh1,encP]);(try rfl);done)) | (apply Om.i;((try simp only [MM]);(try omega);done)) | (apply Vw.i;exact VwA));(all_goals fail_if_success apply Mk.i)
    refine frest_spec ⟨hB⟩ ⟨hb⟩ ⟨v5⟩ ⟨hms⟩ (sections_in hS) (loadsP_N hB) ⟨by rw [loadsP_len];omega⟩ ⟨hmt⟩ (fun a c hE L=>?_) (fun hC=>?_)
    · have:=hk1 a c (hP.trans (bodyP_4 hS hP2 hF hE))
      refine W1 (And.intro @e0 (And.intro @e2 (And.intro @e3 (And.intro @e4 (And.intro @e6 (And.intro @e56 (And.intro @e57 @e58))))))) @DD trivial ?_
      exact this
    · refine W1 (And.intro @e0 (And.intro @e2 (And.intro @e3 (And.intro @e4 (And.intro @e6 (And.intro @e56 (And.intro @e57 @e58))))))) @DD trivial ?_
      exact ⟨0,by omega,_,_,Gh.sel [0,1,2,3,4,5,6] (by decide) (hz0 hZ),⟨by exact lk @e0,by exact lk @e2,by exact lk @e3,by exact lk @e4,by exact lk @e6,by exact lk @e56,by exact lk @e57⟩,.inr (.inr (.inr (.inr ⟨rfl,by exact lk @e58,g0,g1,g2,g3,g4,g5,g6,g7,g8,g9,ms,mt,n,hS,hN,hms,hP2,hn,hni,hmt,hF,hC,rfl⟩)))⟩
  have hL:=hP.trans (bodyP_5 hS hP2 hF hC)
  have hGN:=(segsP_N hB hb (w:=w) (big:=big) (po:=po) (n:=n)).1
  have hCN:=(secsP_N hB hb (w:=w) (big:=big) (so:=so) (st:=mt) (L:=loadsP b w big po n) (loadsP_N hB) (n:=(ms - 1).toNat)).1
  rw [Int.toNat_natCast] at hL
  generalize segsP b (loadsP b w big po n)=segs at *
  generalize secsP b w big so (loadsP b w big po n) mt (ms - 1).toNat=secs at *
  refine ghW (Gh.frzC (b:=2) (j:=36) (b':=5) (D':=dSeg) (l:=segs) rfl rfl rfl rfl) ?_
  refine ghW (Gh.frzC (b:=2) (j:=37) (b':=6) (D':=dSec) (l:=secs) rfl rfl rfl rfl) ?_
  refine W1 (And.intro @e0 (And.intro @e2 (And.intro @e3 (And.intro @e4 (And.intro @e6 (And.intro @e56 (And.intro @e57 @e58))))))) @DD trivial ?_
  refine plan_spec ⟨v3⟩ ⟨hGN⟩ ⟨hCN⟩ (fun h0=>?_) (fun h0 h1=>?_) (fun h0 h1=>?_)
  · have:=hk1 0 (wrongC w en segs secs mt) (by rw [hL];unfold lastP;rw [if_neg h0])
    refine Wp1 (And.intro @e0 (And.intro @e2 (And.intro @e3 (And.intro @e4 (And.intro @e6 (And.intro @e56 (And.intro @e57 @e58))))))) @DD (And.intro @q_mkI @trivial) ?_
    refine ca_GF ⟨hg⟩ ⟨rfl⟩ ?_
    refine as_G (x:=0) ?_ ?_
    · rfl
    refine W1 (And.intro @e0 (And.intro @e2 (And.intro @e3 (And.intro @e4 (And.intro @e6 (And.intro @e56 (And.intro @e57 @e58))))))) @DD @fspot_spec ?_
    exact this
  · have:=hk1 0 8 (by rw [hL];unfold lastP;rw [if_pos h0,if_pos h1])
    refine Wp1 (And.intro @e0 (And.intro @e2 (And.intro @e3 (And.intro @e4 (And.intro @e6 (And.intro @e56 (And.intro @e57 @e58))))))) @DD (And.intro @q_mkI @trivial) ?_
    refine ca_GF ⟨hg⟩ ⟨rfl⟩ ?_
    refine as_G (x:=0) ?_ ?_
    · rfl
    refine W1 (And.intro @e0 (And.intro @e2 (And.intro @e3 (And.intro @e4 (And.intro @e6 (And.intro @e56 (And.intro @e57 @e58))))))) @DD @fspot_spec ?_
    exact this
  · have:=hk segs secs mt (by rw [hL];unfold lastP;rw [if_pos h0,if_neg (by rw [h1];simp)])
    refine W1 (And.intro @e0 (And.intro @e2 (And.intro @e3 (And.intro @e4 (And.intro @e6 (And.intro @e56 (And.intro @e57 @e58))))))) @DD trivial ?_
    exact this
end
end Go.Proofs.YtcffpnlochillaaGreatDoor.PvW
end
