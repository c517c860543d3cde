/- A heap of plain values, walks over it, and functions of the program met by them: no statement of the set is proved in this text. -/
import Derived.Test.YtcffpnlochillaaGreatDoorKb12
import Derived.Test.YtcffpnlochillaaGreatDoorKb25
import Derived.Test.YtcffpnlochillaaGreatDoorKb29
import Derived.Test.YtcffpnlochillaaGreatDoorKb48
set_option linter.unusedVariables false
set_option linter.unusedSimpArgs false
set_option maxRecDepth 100000
set_option maxHeartbeats 4000000
section
namespace Go.Proofs.YtcffpnlochillaaGreatDoor.PvW
open Go.RowKit Go.Proofs.YtcffpnlochillaaGreatDoor.Cd Go.Proofs.YtcffpnlochillaaGreatDoor.AbP Go.Proofs.YtcffpnlochillaaGreatDoor.Num Go.Proofs.YtcffpnlochillaaGreatDoor.Pv
variable {K:PV→List OB→Prop}
theorem idW_ok (i:Nat) (c:Int):idW i c=0∨idW i c=3∨idW i c=4:=by
  unfold idW
  repeat' split
  all_goals simp
theorem idScan_ok (b:List Int):∀ (n i:Nat) (a c:Int),i≤b.length→idScan b i n=some (a,c)→2≤c∧c≤4∧0≤a∧a < i+n∧a≤b.length
  | 0,i,a,c,hi,h=>by cases h
  | n + 1, i, a, c, hi, h => by
    unfold idScan at h
    split at h
    · rename_i hl
      obtain ⟨rfl,rfl⟩:=Prod.mk.inj (Option.some.inj h)
      omega
    · rename_i hl
      split at h
      · rename_i hw
        obtain ⟨rfl,rfl⟩:=Prod.mk.inj (Option.some.inj h)
        have:=idW_ok i (b.getD i 0)
        omega
      · have:=idScan_ok b n (i+1) a c (by omega) h
        omega
theorem idBad_ok {b:List Int} {a c:Int} (h:idBad b=some (a,c)):2≤c∧c≤4∧0≤a∧a≤16∧a≤b.length:=by
  unfold idBad at h
  split at h
  · rename_i x hx
    obtain rfl:=Option.some.inj h
    have:=idScan_ok b 7 0 a c (Nat.zero_le _) hx
    omega
  · split at h
    · obtain ⟨rfl,rfl⟩:=Prod.mk.inj (Option.some.inj h)
      omega
    · cases h
theorem rhget_spec {b:List Int} (hB:Am (B b)) (hm:Om (b.length≤1000000)) (hk1:∀ a c,headBad b=some (a,c)→K (.tup [headZ,.int .i64 c,.int .i64 a]) [])
    (hk2:headBad b=none→K (.tup [headA (decide (b.getD 4 0=2)) (decide (b.getD 5 0=2)) (b.getD 7 0) (b.getD 8 0) (gets b (decide (b.getD 5 0=2)) 16 (headW (decide (b.getD 4 0=2)))),.int .i64 0,.int .i64 0]) []) :
    PCalls Tryz.prog 22 [.sl (.int .u8) b] [] K:=by
  have hB:=hB.o
  have hm:=hm.o
  refine told_callP bezantref04_GetHead.told fun Z hZ=>?_
  unfold bezantref04_GetHead.c
  have hH:headBad b=(match idBad b with | some x=>some x | none=>if (b.length:Int) < hsz (decide (b.getD 4 0=2)) then some (b.length,2) else numBad (decide (b.getD 4 0=2)) (gets b (decide (b.getD 5 0=2)) 16 (headW (decide (b.getD 4 0=2))))):=rfl
  refine W1 trivial @DD trivial ?_
  refine riget_spec ⟨hB⟩ ⟨hm⟩ (fun a c hid=>?_) (fun hid=>?_)
  · have hk:=hk1 a c (by rw [hH,hid])
    have hc:=idBad_ok hid
    refine W1 trivial @DD trivial ?_
    exact hk
  rw [hid] at hH
  have hH:headBad b=if (b.length:Int) < hsz (decide (b.getD 4 0=2)) then some ((b.length:Int),2) else numBad (decide (b.getD 4 0=2)) (gets b (decide (b.getD 5 0=2)) 16 (headW (decide (b.getD 4 0=2)))):=hH
  unfold idV
  generalize decide (b.getD 4 0=2)=w at *
  generalize decide (b.getD 5 0=2)=big at *
  have hsz1:52≤hsz w∧hsz w≤64:=by cases w <;> decide
  by_cases hl:(b.length:Int) < hsz w
  · rw [if_pos hl] at hH
    have hk:=hk1 _ _ hH
    refine W1 trivial @DD @sizes_spec ?_
    exact hk
  rw [if_neg hl] at hH
  refine Wp1 trivial @DD (And.intro (@oFrz 12) (And.intro @sizes_spec @rhrow_spec)) ?_
  have hsum:=headW_sum w
  have hwd:=wd_le w
  have hR:=numsAt_ok (b:=b) (big:=big) (a:=16) (acc:=[]) (headW_wide w) (by rw [hsum];omega)
  refine nums_spec ⟨hB⟩ ⟨by omega⟩ ⟨show 13≤1000 by decide⟩ ⟨by omega⟩ (fun _=>?_) (fun no=>absurd no (by rw [hR];simp))
  rw [hR,List.nil_append]
  have r0:0≤(gets b big 16 (headW w)).getD 0 0∧(gets b big 16 (headW w)).getD 0 0≤65535:=range2 hB 16 big
  have r1:0≤(gets b big 16 (headW w)).getD 1 0∧(gets b big 16 (headW w)).getD 1 0≤65535:=range2 hB (16+2) big
  have r6:0≤(gets b big 16 (headW w)).getD 6 0∧(gets b big 16 (headW w)).getD 6 0≤4294967295:=range4 hB (16+2+2+4+wd w+wd w+wd w) big
  have r9:0≤(gets b big 16 (headW w)).getD 9 0∧(gets b big 16 (headW w)).getD 9 0≤65535:=range2 hB (16+2+2+4+wd w+wd w+wd w+4+2+2) big
  have r11:0≤(gets b big 16 (headW w)).getD 11 0∧(gets b big 16 (headW w)).getD 11 0≤65535:=range2 hB (16+2+2+4+wd w+wd w+wd w+4+2+2+2+2) big
  have r12:0≤(gets b big 16 (headW w)).getD 12 0∧(gets b big 16 (headW w)).getD 12 0≤65535:=range2 hB (16+2+2+4+wd w+wd w+wd w+4+2+2+2+2+2) big
  have r5:0≤(gets b big 16 (headW w)).getD 5 0:=(getSpec_range (n:=wd w) hB _ rfl).1
  have hlen:(gets b big 16 (headW w)).length=13:=rfl
  have hpz:0≤hpr w∧hpr w≤56:=by cases w <;> decide
  have hsz0:0≤hsc w∧hsc w≤64:=by cases w <;> decide
  have hW:∀ k,∀ n ∈ (headW w).take k,0≤n∧n≤100:=fun k n hn=>by
    have:∀ n ∈ headW w,0≤n∧n≤100:=by cases w <;> decide
    exact this n (List.mem_of_mem_take hn)
  have hs7:sumL ((headW w).take 7)=12+3 * wd w:=by cases w <;> rfl
  have hs8:sumL ((headW w).take 8)=14+3 * wd w:=by cases w <;> rfl
  have hs10:sumL ((headW w).take 10)=18+3 * wd w:=by cases w <;> rfl
  generalize gets b big 16 (headW w)=v at *
  unfold numBad at hH
  by_cases c1:v.getD 2 0=1
  rotate_left
  · rw [if_pos c1] at hH
    have hk:=hk1 _ _ hH
    refine W1 trivial @DD trivial ?_
    exact hk
  rw [if_neg (fun h=>h c1)] at hH
  by_cases c2:v.getD 7 0=hsz w
  rotate_left
  · rw [if_pos c2] at hH
    have hk:=hk1 _ _ hH
    refine W1 trivial @DD trivial ?_
    refine sum_spec ⟨hW 7⟩ ⟨by simp⟩ ?_
    rw [hs7]
    refine W1 trivial @DD trivial ?_
    rw [show (16:Int)+(12+3 * wd w)=28+3 * wd w by omega]
    exact hk
  rw [if_neg (fun h=>h c2)] at hH
  by_cases c3:0 < v.getD 9 0
  · by_cases c4:v.getD 8 0=hpr w
    rotate_left
    · rw [if_pos ⟨c3,c4⟩] at hH
      have hk:=hk1 _ _ hH
      refine W1 trivial @DD trivial ?_
      refine sum_spec ⟨hW 8⟩ ⟨by simp⟩ ?_
      rw [hs8]
      refine W1 trivial @DD trivial ?_
      rw [show (16:Int)+(14+3 * wd w)=28+3 * wd w+2 by omega]
      exact hk
    rw [if_neg (fun h=>h.2 c4)] at hH
    by_cases c5:0 < v.getD 5 0
    · by_cases c6:v.getD 10 0=hsc w
      rotate_left
      · rw [if_pos ⟨c5,c6⟩] at hH
        have hk:=hk1 _ _ hH
        refine W1 trivial @DD trivial ?_
        refine sum_spec ⟨hW 10⟩ ⟨by simp⟩ ?_
        rw [hs10]
        refine W1 trivial @DD trivial ?_
        rw [show (16:Int)+(18+3 * wd w)=28+3 * wd w+6 by omega]
        exact hk
      rw [if_neg (fun h=>h.2 c6)] at hH
      have hk:=hk2 hH
      refine W1 trivial @DD trivial ?_
      exact hk
    · rw [if_neg (fun h=>c5 h.1)] at hH
      have hk:=hk2 hH
      refine W1 trivial @DD trivial ?_
      exact hk
  · rw [if_neg (fun h=>c3 h.1)] at hH
    by_cases c5:0 < v.getD 5 0
    · by_cases c6:v.getD 10 0=hsc w
      rotate_left
      · rw [if_pos ⟨c5,c6⟩] at hH
        have hk:=hk1 _ _ hH
        refine W1 trivial @DD trivial ?_
        refine sum_spec ⟨hW 10⟩ ⟨by simp⟩ ?_
        rw [hs10]
        refine W1 trivial @DD trivial ?_
        rw [show (16:Int)+(18+3 * wd w)=28+3 * wd w+6 by omega]
        exact hk
      rw [if_neg (fun h=>h.2 c6)] at hH
      have hk:=hk2 hH
      refine W1 trivial @DD trivial ?_
      exact hk
    · rw [if_neg (fun h=>c5 h.1)] at hH
      have hk:=hk2 hH
      refine W1 trivial @DD trivial ?_
      exact hk
end Go.Proofs.YtcffpnlochillaaGreatDoor.PvW
end
section
namespace Go.Proofs.YtcffpnlochillaaGreatDoor.PvW
open Go.RowKit Go.Proofs.YtcffpnlochillaaGreatDoor.Cd Go.Proofs.YtcffpnlochillaaGreatDoor.AbP Go.Proofs.YtcffpnlochillaaGreatDoor.Num Go.Proofs.YtcffpnlochillaaGreatDoor.Pv
section
variable {K:PV→List OB→Prop} {w big:Bool} {o ab ty ma fl en st:Int} {segs:List dSeg.T} {secs:List dSec.T}
theorem rmat_spec {i off sz:Int} {own:List Int} (hl:Om (own.length≤1000000)) (hk:K (.bool true) []):PCalls Tryz.prog 46 [.agg [.int .i64 i,.int .u64 off,.int .u64 sz,.sl (.int .u8) own],.agg [.int .i64 i,.int .u64 off,.int .u64 sz,.sl (.int .u8) own]] [] K:=by
  have hl:=hl.o
  refine told_callP bezantref14_samePlace.told fun Z hZ=>?_
  unfold bezantref14_samePlace.c
  have hbs:∀ s:List UInt8,(s == s)=true:=fun s=>beq_self_eq_true s
  refine W1 trivial (And.intro @DD @hbs) trivial ?_
  exact hk
theorem rsame_spec (hl:Om (segs.length≤1000000∧secs.length≤1000000)) (hL:∀ s ∈ segs,s.2.2.2.2.2.2.1.2.2.2.1.length≤1000000) (hM:∀ s ∈ secs,s.2.2.2.2.2.2.2.2.2.1.2.2.2.1.length≤1000000) (hk:K (.bool true) []) :
    PCalls Tryz.prog 16 [.agg [.bool w,.bool big,.int .u8 o,.int .u8 ab,.int .u16 ty,.int .u16 ma,.int .u32 fl,.int .u64 en,.sl dSeg segs,.sl dSec secs,.int .i64 st],.agg [.bool w,.bool big,.int .u8 o,.int .u8 ab,.int .u16 ty,.int .u16 ma,.int .u32 fl,.int .u64 en,.sl dSeg segs,.sl dSec secs,.int .i64 st]] [] K:=by
  have hl:=hl.o
  have hq:=identM_same w big o ab
  refine told_callP bezantref14_Same.told fun Z hZ=>?_
  unfold bezantref14_Same.c
  refine W1 trivial @DD trivial ?_
  refine w_lpG (fun q e s=>∃ i:Nat,q+i=segs.length∧s=[.var [.bool w,.bool big,.int .u8 o,.int .u8 ab,.int .u16 ty,.int .u16 ma,.int .u32 fl,.int .u64 en,.sl dSeg segs,.sl dSec secs,.int .i64 st],.var [.bool w,.bool big,.int .u8 o,.int .u8 ab,.int .u16 ty,.int .u16 ma,.int .u32 fl,.int .u64 en,.sl dSeg segs,.sl dSec secs,.int .i64 st]]∧e 2 = .ptr 0 0∧e 3 = .ptr 1 0∧e 5 = .int .i64 i) segs.length ?_ ?_
  · exact ⟨0,rfl,rfl,by exact lk trivial,by exact lk trivial,by exact lk trivial⟩
  rintro q e s ⟨i,hi,rfl,e2,e3,e5⟩
  by_cases hq:i < segs.length
  · obtain ⟨x,hx⟩:∃ x,segs[i]? = some x:=⟨segs[i],List.getElem?_eq_getElem hq⟩
    have hx0:=hL x (List.mem_of_getElem? hx)
    obtain ⟨sty,sfl,sva,spa,sme,sal,⟨si,so,sz,sown,u⟩,u2⟩:=x
    dsimp only at hx0
    refine W1 (And.intro @e2 (And.intro @e3 @e5)) @DD @rmat_spec ?_
    exact ⟨q - 1,by omega,_,_,Gh.sel [0,1] (by decide) (hz0 hZ),i+1,by omega,rfl,by exact lk @e2,by exact lk @e3,by exact lk @e5⟩
  refine W1 (And.intro @e2 (And.intro @e3 @e5)) @DD trivial ?_
  refine w_lpG (fun q e s=>∃ i:Nat,q+i=secs.length∧s=[.var [.bool w,.bool big,.int .u8 o,.int .u8 ab,.int .u16 ty,.int .u16 ma,.int .u32 fl,.int .u64 en,.sl dSeg segs,.sl dSec secs,.int .i64 st],.var [.bool w,.bool big,.int .u8 o,.int .u8 ab,.int .u16 ty,.int .u16 ma,.int .u32 fl,.int .u64 en,.sl dSeg segs,.sl dSec secs,.int .i64 st]]∧e 2 = .ptr 0 0∧e 3 = .ptr 1 0∧e 9 = .int .i64 i) secs.length ?_ ?_
  · exact ⟨0,rfl,rfl,by exact lk @e2,by exact lk @e3,by exact lk trivial⟩
  clear e2 e3 e5 hq hi
  rintro q e s ⟨i,hi,rfl,e2,e3,e9⟩
  by_cases hq:i < secs.length
  · obtain ⟨x,hx⟩:∃ x,secs[i]? = some x:=⟨secs[i],List.getElem?_eq_getElem hq⟩
    have hx0:=hM x (List.mem_of_getElem? hx)
    obtain ⟨nm,sty,sfl,sad,ssi,sli,ssf,sal,sen,⟨si,so,sz,sown,u⟩,u2⟩:=x
    dsimp only at hx0
    refine W1 (And.intro @e2 (And.intro @e3 @e9)) @DD @rmat_spec ?_
    exact ⟨q - 1,by omega,_,_,Gh.sel [0,1] (by decide) (hz0 hZ),i+1,by omega,rfl,by exact lk @e2,by exact lk @e3,by exact lk @e9⟩
  refine W1 (And.intro @e2 (And.intro @e3 @e9)) @DD trivial ?_
  exact hk
end
end Go.Proofs.YtcffpnlochillaaGreatDoor.PvW
end
section
namespace Go.Proofs.YtcffpnlochillaaGreatDoor.PvW
open Go.RowKit Go.Proofs.YtcffpnlochillaaGreatDoor.Cd Go.Proofs.YtcffpnlochillaaGreatDoor.AbP Go.Proofs.YtcffpnlochillaaGreatDoor.Num Go.Proofs.YtcffpnlochillaaGreatDoor.Pv
theorem segC_rng (w:Bool) (segs:List dSeg.T) (ty va me al i off sz:Int) (own:List Int):0≤segC w segs ty va me al i off sz own∧segC w segs ty va me al i off sz own≤12:=by
  unfold segC
  repeat' split
  all_goals omega
theorem secC_rng (segs:List dSeg.T) (n:Nat) (ty si li i off sz:Int) (own:List Int):0≤secC segs n ty si li i off sz own∧secC segs n ty si li i off sz own≤12:=by
  unfold secC
  repeat' split
  all_goals omega
theorem namesC_rng (secs:List dSec.T) (st:Int):0≤namesC secs st∧namesC secs st≤12:=by
  unfold namesC
  repeat' split
  all_goals omega
theorem firstC_rng {α:Type} {f:α→Int} (h:∀ x,0≤f x∧f x≤12):∀ l:List α,0≤firstC f l∧firstC f l≤12
  | []=>by show 0≤(0:Int)∧(0:Int)≤12;omega
  | x :: l => by
    show 0≤(if f x≠0 then f x else firstC f l)∧(if f x≠0 then f x else firstC f l)≤12
    split
    · exact h x
    · exact firstC_rng h l
theorem wrongC_rng (w:Bool) (en:Int) (segs:List dSeg.T) (secs:List dSec.T) (st:Int):0≤wrongC w en segs secs st∧wrongC w en segs secs st≤12:=by
  have h1:=firstC_rng (f:=segCx w segs) (fun s=>segC_rng ..) segs
  have h2:=firstC_rng (f:=secCx segs secs.length) (fun s=>secC_rng ..) secs
  have h3:=namesC_rng secs st
  unfold wrongC
  repeat' split
  all_goals omega
theorem headBad_rng {b:List Int} {a c:Int} (h:headBad b=some (a,c)):1≤c∧c≤12∧0≤a∧a≤b.length:=by
  unfold headBad at h
  split at h
  · rename_i x hx
    obtain rfl:=Option.some.inj h
    have:=idBad_ok hx
    omega
  · split at h
    · obtain ⟨rfl,rfl⟩:=Prod.mk.inj (Option.some.inj h)
      omega
    · rename_i hl
      unfold numBad at h
      have hw:(hsz (decide (b.getD 4 0=2))=52∧wd (decide (b.getD 4 0=2))=4)∨(hsz (decide (b.getD 4 0=2))=64∧wd (decide (b.getD 4 0=2))=8):=by
        cases decide (b.getD 4 0=2) <;> decide
      generalize decide (b.getD 4 0=2)=w at *
      repeat' split at h
      all_goals first | (obtain ⟨rfl,rfl⟩:=Prod.mk.inj (Option.some.inj h);omega) | cases h
theorem mul_pre {i n m:Int} (hm:0≤m) (h:i+1≤n):i * m+m≤n * m:=by
  have:=Int.mul_le_mul_of_nonneg_right h hm
  rw [Int.add_mul,Int.one_mul] at this
  exact this
theorem progs_in {b:List Int} {w:Bool} {po so pn sx:Int} {x:dSectM.T} {q:Int×Int} (h:programsP b w po so pn sx x = .ok q) (h0:0 < q.1):po+q.1 * psz w≤b.length:=by
  unfold programsP at h
  dsimp only at h
  split at h
  · cases h
  generalize (if pn=65535 then x.2.2.2.2.2.2.2.1 else pn)=np at *
  split at h
  · cases h
  split at h
  · cases h
  rename_i hw
  split at h
  · cases h
  obtain rfl:=Except.ok.inj h
  dsimp only at h0 ⊢
  cases hwi:withinB po (np * psz w) b.length with
  | false=>exact absurd ⟨h0,hwi⟩ hw
  | true =>
    simp only [withinB,Bool.and_eq_true,decide_eq_true_eq] at hwi
    omega
theorem sects_in {b:List Int} {w big:Bool} {so sn:Int} {r:dSectM.T×Int} (h:sectionsP b w big so sn = .ok r) (h0:0 < r.2):so+r.2 * ssz w≤b.length:=by
  unfold sectionsP at h
  dsimp only at h
  split at h
  · split at h
    · obtain rfl:=Except.ok.inj h
      exact absurd h0 (by decide)
    · cases h
  split at h
  · generalize (if sn=0 then _ else sn:Int)=n at *
    split at h
    · cases h
    split at h
    · rename_i hwi
      obtain rfl:=Except.ok.inj h
      dsimp only at h0 ⊢
      simp only [withinB,Bool.and_eq_true,decide_eq_true_eq] at hwi
      omega
    · cases h
  · cases h
theorem bad_rng {b:List Int} (hB:B b) {a c:Int} (h:parseP b = .bad a c):1≤c∧c≤12∧0≤a∧a≤b.length:=by
  unfold parseP at h
  split at h
  · simp only [PRes.bad.injEq] at h
    omega
  split at h
  · rename_i e he
    simp only [PRes.bad.injEq] at h
    obtain ⟨rfl,rfl⟩:=h
    exact headBad_rng he
  rename_i hl hh
  have hlen:(hdW b=true→64≤b.length)∧(hdW b=false→52≤b.length):=by
    unfold headBad at hh
    split at hh
    · cases hh
    split at hh
    · cases hh
    rename_i hl2
    show (hdW b=true→_)∧(hdW b=false→_)
    change ¬ (b.length:Int) < hsz (hdW b) at hl2
    constructor
    · intro hw
      rw [hw] at hl2
      have:hsz true=64:=rfl
      omega
    · intro hw
      rw [hw] at hl2
      have:hsz false=52:=rfl
      omega
  obtain ⟨v0,v1,v3,v4,v5,v6,v9,v11,v12⟩:=hdV_N hB
  generalize (hdV b).getD 3 0=en at *
  generalize (hdV b).getD 4 0=po at *
  generalize (hdV b).getD 5 0=so at *
  generalize (hdV b).getD 9 0=pn at *
  generalize (hdV b).getD 11 0=sn at *
  generalize (hdV b).getD 12 0=sx at *
  generalize hdW b=w at *
  generalize hdB b=big at *
  have hp0:0≤psz w∧0≤ssz w:=by cases w <;> decide
  have hpl:∀ x y:Int,0≤x→x≤52→0≤y→y≤64→0≤pl w x y∧pl w x y≤b.length:=by
    intro x y h1 h2 h3 h4
    cases w
    · have:=hlen.2 rfl
      show 0≤x∧x≤_
      omega
    · have:=hlen.1 rfl
      show 0≤y∧y≤_
      omega
  unfold bodyP at h
  cases h1:sectionsP b w big so sn with
  | error e =>
    rw [h1] at h
    simp only [PRes.bad.injEq] at h
    obtain ⟨rfl,rfl⟩:=h
    unfold sectionsP at h1
    have q1:=hpl 48 60 (by decide) (by decide) (by decide) (by decide)
    have q2:=hpl 32 40 (by decide) (by decide) (by decide) (by decide)
    dsimp only at h1
    repeat' split at h1
    all_goals first | (obtain rfl:=Except.error.inj h1;dsimp only;omega) | cases h1
  | ok r =>
  rw [h1] at h
  dsimp only at h
  cases h2:programsP b w po so pn sx r.1 with
  | error e =>
    rw [h2] at h
    simp only [PRes.bad.injEq] at h
    obtain ⟨rfl,rfl⟩:=h
    unfold programsP at h2
    have q1:=hpl 44 56 (by decide) (by decide) (by decide) (by decide)
    have q2:=hpl 28 32 (by decide) (by decide) (by decide) (by decide)
    have q3:=hpl 50 62 (by decide) (by decide) (by decide) (by decide)
    dsimp only at h2
    repeat' split at h2
    all_goals first | (obtain rfl:=Except.error.inj h2;dsimp only;omega) | cases h2
  | ok q =>
  rw [h2] at h
  dsimp only at h
  cases h3:firstE (loadE b w big po) q.1.toNat with
  | some e =>
    rw [h3] at h
    simp only [PRes.bad.injEq] at h
    obtain ⟨rfl,rfl⟩:=h
    obtain ⟨i,hi,he⟩:=firstE_in h3
    unfold loadE at he
    split at he
    · obtain rfl:=Option.some.inj he
      have hin:=progs_in h2 (by omega)
      have:=mul_pre (i:=i) (n:=q.1) (m:=psz w) hp0.1 (by omega)
      have:0≤(i:Int) * psz w:=Int.mul_nonneg (by omega) hp0.1
      have:=v4.1
      dsimp only
      omega
    · cases he
  | none =>
  rw [h3] at h
  dsimp only at h
  cases h4:firstE (fun k=>secE b w big so (k+1)) (r.2 - 1).toNat with
  | some e =>
    rw [h4] at h
    simp only [PRes.bad.injEq] at h
    obtain ⟨rfl,rfl⟩:=h
    obtain ⟨i,hi,he⟩:=firstE_in h4
    unfold secE at he
    split at he
    · obtain rfl:=Option.some.inj he
      have hin:=sects_in h1 (by omega)
      have:=mul_pre (i:=((i+1:Nat):Int)) (n:=r.2) (m:=ssz w) hp0.2 (by omega)
      have:0≤((i+1:Nat):Int) * ssz w:=Int.mul_nonneg (by omega) hp0.2
      have:=v5.1
      dsimp only
      omega
    · cases he
  | none =>
  rw [h4] at h
  dsimp only at h
  unfold lastP at h
  have hr:=wrongC_rng w en (segsP b (loadsP b w big po q.1.toNat)) (secsP b w big so (loadsP b w big po q.1.toNat) q.2 (r.2 - 1).toNat) q.2
  split at h
  · split at h
    · simp only [PRes.bad.injEq] at h
      omega
    · cases h
  · rename_i hne
    simp only [PRes.bad.injEq] at h
    omega
section
variable {K:PV→List OB→Prop}
theorem ttotal_core {b:List Int} (hB:B b):GCalls laidG Tryz.prog 5 [.sl (.int .u8) b] [] fun p _=>p = .bool true:=by
  refine told_callG bezanttop_TopTotal.told fun Z hZ hg=>?_
  unfold bezanttop_TopTotal.c
  refine Wp1 trivial @DD (And.intro @caGp @trivial) ?_
  refine upT_spec ?_
  by_cases hbl:70000 < b.length
  · refine W1 trivial @DD trivial ?_
    rfl
  refine Wp1 trivial @DD (And.intro @caGp @trivial) ?_
  refine parse_G ⟨hB⟩ ⟨by omega⟩ (fun a c h=>?_) (fun segs secs st h=>?_)
  · have hr:=bad_rng hB h
    refine Wp1 trivial @DD (And.intro @spotS_spec @trivial) ?_
    refine PCalls.wkA (.g (WkA.mdi false false 0 0 0 0 0 0 0) (.g (WkA.mdi false false 0 0 0 0 0 0 0) .z)) (rsame_spec ⟨⟨by simp,by simp⟩⟩ (fun s hs=>by cases hs) (fun s hs=>by cases hs) ?_)
    refine W1 trivial @DD trivial ?_
    rfl
  · refine W1 trivial @DD trivial ?_
    rfl
theorem ttotal_walk (x0:((.sl (.int .u8)):Ab.D).T) (g0:((.sl (.int .u8)):Ab.D).good x0) :
    GCalls laidG Tryz.prog 5 [pvD (.sl (.int .u8)) x0] [] fun p _=>p = .bool true:=ttotal_core (B_of g0.2)
end
end Go.Proofs.YtcffpnlochillaaGreatDoor.PvW
end
