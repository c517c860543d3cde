/- A heap of plain values, walks over it, and functions of the program met by them: no statement of the set is proved in this text. -/
import Derived.Test.YtcffpnlochillaaKb29
set_option linter.unusedVariables false
set_option linter.unusedSimpArgs false
set_option maxRecDepth 100000
set_option maxHeartbeats 4000000
section
namespace Go.Proofs.Ytcffpnlochillaa.PvW
open Go.RowKit Go.Proofs.Ytcffpnlochillaa.Cd Go.Proofs.Ytcffpnlochillaa.AbP Go.Proofs.Ytcffpnlochillaa.Num Go.Proofs.Ytcffpnlochillaa.Pv
variable {K:PV→List OB→Prop}
abbrev headW (w:Bool):List Int:=[2,2,4,wd w,wd w,wd w,4,2,2,2,2,2,2]
theorem headW_wide (w:Bool):∀ n ∈ headW w,wideB n=true:=by cases w <;> decide
def numBad (w:Bool) (v:List Int):Option (Int×Int) :=
  if v.getD 2 0≠1 then some (20,4) else if v.getD 7 0≠hsz w then some (28+3 * wd w,4)
  else if 0 < v.getD 9 0∧v.getD 8 0≠hpr w then some (28+3 * wd w+2,4)
  else if 0 < v.getD 5 0∧v.getD 10 0≠hsc w then some (28+3 * wd w+6,4) else none
def headBad (b:List Int):Option (Int×Int):=match idBad b with
  | some x=>some x
  | none=>if (b.length:Int) < hsz (decide (b.getD 4 0=2)) then some (b.length,2) else numBad (decide (b.getD 4 0=2)) (gets b (decide (b.getD 5 0=2)) 16 (headW (decide (b.getD 4 0=2))))
abbrev headZ:PV:=.agg [.bool false,.bool false,.int .u8 0,.int .u8 0,.int .u16 0,.int .u16 0,.int .u64 0,.int .u64 0,.int .u64 0,.int .u32 0,.int .u16 0,.int .u16 0,.int .u16 0]
abbrev headA (w big:Bool) (o a:Int) (v:List Int):PV:=.agg [.bool w,.bool big,.int .u8 o,.int .u8 a,.int .u16 (v.getD 0 0),.int .u16 (v.getD 1 0),.int .u64 (v.getD 3 0),.int .u64 (v.getD 4 0),.int .u64 (v.getD 5 0),.int .u32 (v.getD 6 0),.int .u16 (v.getD 9 0),.int .u16 (v.getD 11 0),.int .u16 (v.getD 12 0)]
theorem hget1_spec {w big:Bool} {b:List Int} {a n:Int} (hB:Am (B b)) (hm:Om (b.length≤1000000000000)) (hn:Om (0≤n)) (ha:Om (0≤a)) (hU2:Om (a+n≤18446744073709551615))
    (hk:K (.int .u64 (getSpec b a n big).1) [.var [.sl (.int .u8) b],.var [.int .u64 (a+n)],.var [.bool w,.bool big]]) :
    PCalls Try.prog 35 [.int .i64 n,.ptr 0 0,.ptr 1 0,.ptr 2 0] [.var [.sl (.int .u8) b],.var [.int .u64 a],.var [.bool w,.bool big]] K:=by
  refine told_callS head_Get_1.told fun Z hZ=>?_
  unfold head_Get_1.c
  replace hB:=hB.o
  replace hm:=hm.o
  replace hn:=hn.o
  replace ha:=ha.o
  replace hU2:=hU2.o
  refine W1 trivial trivial @get_spec ?_
  exact ⟨_,rfl,rfl,hk⟩
theorem hget2_spec {a:Int} (ha:Om (0≤a∧a≤1000)) (hk:K (.tup [.agg [.bool false,.bool false,.int .u8 0,.int .u8 0,.int .u16 0,.int .u16 0,.int .u64 0,.int .u64 0,.int .u64 0,.int .u32 0,.int .u16 0,.int .u16 0,.int .u16 0],eSpot a 4]) []):PCalls Try.prog 37 [.int .u64 a] [] K:=by
  obtain ⟨a0,a1⟩:=ha.o
  refine told_callP head_Get_2.told fun Z hZ=>?_
  unfold head_Get_2.c
  refine W1 trivial @DD trivial ?_
  exact hk
theorem hget_spec {b:List Int} (hB:Am (B b)) (hm:Om (b.length≤1000000)) (hk1:∀ a c,headBad b=some (a,c)→K (.tup [headZ,eSpot a c]) [])
    (hk2:headBad b=none→K (.tup [headA (decide (b.getD 4 0=2)) (decide (b.getD 5 0=2)) (b.getD 7 0) (b.getD 8 0) (gets b (decide (b.getD 5 0=2)) 16 (headW (decide (b.getD 4 0=2)))),.nilI]) []) :
    PCalls Try.prog 16 [.sl (.int .u8) b] [] K:=by
  have hB:=hB.o
  have hm:=hm.o
  refine told_callP head_Get.told fun Z hZ=>?_
  unfold head_Get.c
  have hH:headBad b=(match idBad b with | some x=>some x | none=>if (b.length:Int) < hsz (decide (b.getD 4 0=2)) then some (b.length,2) else numBad (decide (b.getD 4 0=2)) (gets b (decide (b.getD 5 0=2)) 16 (headW (decide (b.getD 4 0=2))))):=rfl
  refine W1 trivial @DD trivial ?_
  refine iget_spec ⟨hB⟩ ⟨hm⟩ (fun a c hid=>?_) (fun hid=>?_)
  · have hk:=hk1 a c (by rw [hH,hid])
    refine W1 trivial @DD trivial ?_
    exact hk
  rw [hid] at hH
  have hH:headBad b=if (b.length:Int) < hsz (decide (b.getD 4 0=2)) then some ((b.length:Int),2) else numBad (decide (b.getD 4 0=2)) (gets b (decide (b.getD 5 0=2)) 16 (headW (decide (b.getD 4 0=2)))):=hH
  unfold idV
  generalize decide (b.getD 4 0=2)=w at *
  generalize decide (b.getD 5 0=2)=big at *
  have hsz1:52≤hsz w∧hsz w≤64:=by cases w <;> decide
  by_cases hl:(b.length:Int) < hsz w
  · rw [if_pos hl] at hH
    have hk:=hk1 _ _ hH
    refine W1 trivial @DD @hsize_spec ?_
    exact hk
  rw [if_neg hl] at hH
  have hwd:=wd_le w
  have hsum:hsz w=40+3 * wd w:=by cases w <;> rfl
  have hpz:0≤hpr w∧hpr w≤56:=by cases w <;> decide
  have hsz0:0≤hsc w∧hsc w≤64:=by cases w <;> decide
  have r0:=range2 hB 16 big
  have r1:=range2 hB (16+2) big
  have r6:=range4 hB (16+2+2+4+wd w+wd w+wd w) big
  have r9:=range2 hB (16+2+2+4+wd w+wd w+wd w+4+2+2) big
  have r11:=range2 hB (16+2+2+4+wd w+wd w+wd w+4+2+2+2+2) big
  have r12:=range2 hB (16+2+2+4+wd w+wd w+wd w+4+2+2+2+2+2) big
  refine W1 trivial @DD @hsize_spec ?_
  iterate 2
    apply cf_SK [0,4,3];(repeat any_goals first | exact mp_z | apply mp_s | exact rs_z | apply rs_t | apply rs_n | apply rs_c);(repeat any_goals first | (apply Lk.i;(simp only [↓LL,↓reduceIte,Nat.reduceEqDiff];(try rfl);done)) | (apply Rf.i;first | rfl | assumption) | (apply Vl.i;((try simp (disch:=omega) only [VV,↓reduceIte,peqI,encP]);(try rfl);done)) | (apply Am.i;assumption) | (apply Pu.i;((try simp only [↓reduceIte,UU,RR,Nat.reduceAdd,Nat.reduceEqDiff,cellsP,putP,fillQ,flatQ,shP,sh1,encP]);(try rfl);done)) | (apply Om.i;((try simp only [MM]);(try omega);done)) | (apply Vw.i;exact VwA));(all_goals fail_if_success apply Mk.i)
    refine hget1_spec ⟨hB⟩ ⟨by omega⟩ ⟨by omega⟩ ⟨by omega⟩ ⟨by omega⟩ ?_
    refine W1 trivial @DD @hword_spec ?_
  iterate 11
    apply cf_S [0,4,3];(repeat any_goals first | exact mp_z | apply mp_s | exact rs_z | apply rs_t | apply rs_n | apply rs_c);(repeat any_goals first | (apply Lk.i;(simp only [↓LL,↓reduceIte,Nat.reduceEqDiff];(try rfl);done)) | (apply Rf.i;first | rfl | assumption) | (apply Vl.i;((try simp (disch:=omega) only [VV,↓reduceIte,peqI,encP]);(try rfl);done)) | (apply Am.i;assumption) | (apply Pu.i;((try simp only [↓reduceIte,UU,RR,Nat.reduceAdd,Nat.reduceEqDiff,cellsP,putP,fillQ,flatQ,shP,sh1,encP]);(try rfl);done)) | (apply Om.i;((try simp only [MM]);(try omega);done)) | (apply Vw.i;exact VwA));(all_goals fail_if_success apply Mk.i)
    refine hget1_spec ⟨hB⟩ ⟨by omega⟩ ⟨by omega⟩ ⟨by omega⟩ ⟨by omega⟩ ?_
    refine W1 trivial @DD @hword_spec ?_
  have hN:headBad b=if (getSpec b (16+2+2) 4 big).1≠1 then some (20,4) else if (getSpec b (16+2+2+4+wd w+wd w+wd w+4) 2 big).1≠hsz w then some (28+3 * wd w,4)
      else if 0 < (getSpec b (16+2+2+4+wd w+wd w+wd w+4+2+2) 2 big).1∧(getSpec b (16+2+2+4+wd w+wd w+wd w+4+2) 2 big).1≠hpr w then some (28+3 * wd w+2,4)
      else if 0 < (getSpec b (16+2+2+4+wd w+wd w) (wd w) big).1∧(getSpec b (16+2+2+4+wd w+wd w+wd w+4+2+2+2) 2 big).1≠hsc w then some (28+3 * wd w+6,4) else none:=hH
  have hO:16+2+2+4+wd w+wd w+wd w+4=28+3 * wd w:=by omega
  clear hH
  by_cases c1:(getSpec b (16+2+2) 4 big).1=1
  rotate_left
  · rw [if_pos c1] at hN
    have hk:=hk1 _ _ hN
    refine W1 trivial @DD (And.intro @hsize_spec (And.intro @hparts_spec @hget2_spec)) ?_
    exact hk
  rw [if_neg (fun h=>h c1)] at hN
  by_cases c2:(getSpec b (16+2+2+4+wd w+wd w+wd w+4) 2 big).1=hsz w
  rotate_left
  · rw [if_pos c2] at hN
    have hk:=hk1 _ _ hN
    rw [← hO] at hk
    refine W1 trivial @DD (And.intro @hsize_spec (And.intro @hparts_spec @hget2_spec)) ?_
    exact hk
  rw [if_neg (fun h=>h c2)] at hN
  by_cases c3:0 < (getSpec b (16+2+2+4+wd w+wd w+wd w+4+2+2) 2 big).1
  · by_cases c4:(getSpec b (16+2+2+4+wd w+wd w+wd w+4+2) 2 big).1=hpr w
    rotate_left
    · rw [if_pos ⟨c3,c4⟩] at hN
      have hk:=hk1 _ _ hN
      rw [← hO] at hk
      refine W1 trivial @DD (And.intro @hsize_spec (And.intro @hparts_spec @hget2_spec)) ?_
      exact hk
    rw [if_neg (fun h=>h.2 c4)] at hN
    by_cases c5:0 < (getSpec b (16+2+2+4+wd w+wd w) (wd w) big).1
    · by_cases c6:(getSpec b (16+2+2+4+wd w+wd w+wd w+4+2+2+2) 2 big).1=hsc w
      rotate_left
      · rw [if_pos ⟨c5,c6⟩] at hN
        have hk:=hk1 _ _ hN
        rw [← hO] at hk
        refine W1 trivial @DD (And.intro @hsize_spec (And.intro @hparts_spec @hget2_spec)) ?_
        exact hk
      rw [if_neg (fun h=>h.2 c6)] at hN
      have hk:=hk2 hN
      refine W1 trivial @DD (And.intro @hsize_spec (And.intro @hparts_spec @hget2_spec)) ?_
      exact hk
    · rw [if_neg (fun h=>c5 h.1)] at hN
      have hk:=hk2 hN
      refine W1 trivial @DD (And.intro @hsize_spec (And.intro @hparts_spec @hget2_spec)) ?_
      exact hk
  · rw [if_neg (fun h=>c3 h.1)] at hN
    by_cases c5:0 < (getSpec b (16+2+2+4+wd w+wd w) (wd w) big).1
    · by_cases c6:(getSpec b (16+2+2+4+wd w+wd w+wd w+4+2+2+2) 2 big).1=hsc w
      rotate_left
      · rw [if_pos ⟨c5,c6⟩] at hN
        have hk:=hk1 _ _ hN
        rw [← hO] at hk
        refine W1 trivial @DD (And.intro @hsize_spec (And.intro @hparts_spec @hget2_spec)) ?_
        exact hk
      rw [if_neg (fun h=>h.2 c6)] at hN
      have hk:=hk2 hN
      refine W1 trivial @DD (And.intro @hsize_spec (And.intro @hparts_spec @hget2_spec)) ?_
      exact hk
    · rw [if_neg (fun h=>c5 h.1)] at hN
      have hk:=hk2 hN
      refine W1 trivial @DD (And.intro @hsize_spec (And.intro @hparts_spec @hget2_spec)) ?_
      exact hk
end Go.Proofs.Ytcffpnlochillaa.PvW
end
