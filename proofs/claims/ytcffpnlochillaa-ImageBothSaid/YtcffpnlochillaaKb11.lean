/- A heap of plain values, walks over it, and functions of the program met by them: no statement of the set is proved in this text. -/
import Derived.Test.YtcffpnlochillaaKb10
set_option linter.unusedVariables false
set_option linter.unusedSimpArgs false
set_option maxRecDepth 100000
set_option maxHeartbeats 4000000
section
namespace Go.Proofs.Ytcffpnlochillaa.PvW
open Go.RowKit Go.Proofs.Ytcffpnlochillaa.Cd Go.Proofs.Ytcffpnlochillaa.AbP Go.Proofs.Ytcffpnlochillaa.Num Go.Proofs.Ytcffpnlochillaa.Pv
def andI (a b:Int):Int:=((BitVec.ofInt 64 a &&& BitVec.ofInt 64 b).toNat:Int)
structure SegN (ty va pa me al i off sz:Int) (own:List Int):Prop where
  ty:0≤ty∧ty≤4294967295
  va:0≤va∧va≤18446744073709551615
  pa:0≤pa∧pa≤18446744073709551615
  me:0≤me∧me≤18446744073709551615
  al:0≤al∧al≤18446744073709551615
  off:0≤off∧off≤18446744073709551615
  sz:0≤sz∧sz≤18446744073709551615
  ow:own.length≤1000000
  bo:B own
structure SecN (nm ty fl ad si li al en i off sz:Int) (own:List Int):Prop where
  nm:0≤nm∧nm≤4294967295
  ty:0≤ty∧ty≤4294967295
  fl:0≤fl∧fl≤18446744073709551615
  ad:0≤ad∧ad≤18446744073709551615
  si:0≤si∧si≤18446744073709551615
  li:0≤li∧li≤4294967295
  al:0≤al∧al≤18446744073709551615
  en:0≤en∧en≤18446744073709551615
  off:0≤off∧off≤18446744073709551615
  sz:0≤sz∧sz≤18446744073709551615
  ow:own.length≤1000000
  bo:B own

def roomB (w:Bool) (va:Int):Int:=if w=true then (0 - va) % 18446744073709551616 else (4294967296 - va) % 18446744073709551616

def segC (w:Bool) (segs:List dSeg.T) (ty va me al i off sz:Int) (own:List Int):Int :=
  if andI al ((al - 1) % 18446744073709551616)≠0 then 6
  else if placeOk segs i off sz own=false∨(ty=1∧i≠-1) then 1
  else if ty≠1 then 0
  else if me < sz then 5
  else if roomB w va < me∧(roomB w va≠0∨va≠0) then 12 else 0

def secC (segs:List dSeg.T) (n:Nat) (ty si li i off sz:Int) (own:List Int):Int :=
  if placeOk segs i off sz own=false∨sz≠(if ty=0∨ty=8 then 0 else si) then 1
  else if (n:Int) < li then 10 else 0
theorem and_u64 (a b:Int):Ab.abin .and (.int .u64 a) (.int .u64 b)=some (.int .u64 (andI a b)):=by
  rw [Ab.b_and,wU64]
  have h:=(BitVec.ofInt 64 a &&& BitVec.ofInt 64 b).isLt
  show some (Value.int .u64 (((BitVec.ofInt 64 a &&& BitVec.ofInt 64 b).toNat:Int) % 18446744073709551616))=_
  rw [Int.emod_eq_of_lt (by omega) (by omega)]
  rfl
section
variable {K:PV→List OB→Prop} {w big:Bool} {o ab ty ma fl en st:Int} {segs:List dSeg.T} {secs:List dSec.T}
theorem seg_spec {sty sfl sva spa sme sal i off sz:Int} {own:List Int} (hG:Am (SegN sty sva spa sme sal i off sz own)) (hl:Om (segs.length≤1000000)) (hL:∀ s ∈ segs,s.2.2.2.2.2.2.1.2.2.2.1.length≤1000000) (hk:K (.int .i64 (segC w segs sty sva sme sal i off sz own)) []) :
    PCalls Try.prog 47 [.agg [.bool w,.bool big,.int .u8 o,.int .u8 ab,.int .u16 ty,.int .u16 ma,.int .u32 fl,.int .u64 en,.sl dSeg segs,.sl dSec secs,.int .i64 st],.agg [.int .u32 sty,.int .u32 sfl,.int .u64 sva,.int .u64 spa,.int .u64 sme,.int .u64 sal,.int .i64 i,.int .u64 off,.int .u64 sz,.sl (.int .u8) own]] [] K:=by
  obtain ⟨nty,nva,npa,nme,nal,noff,nsz,now,nbo⟩:=hG.o
  have hl:=hl.o
  refine told_callP model_seg.told fun Z hZ=>?_
  unfold model_seg.c
  unfold segC at hk
  have ha:=and_u64 sal ((sal - 1) % 18446744073709551616)
  have hw1:IntKind.wrap .u64 (sal - 1)=(sal - 1) % 18446744073709551616:=wU64 _
  by_cases h1:andI sal ((sal - 1) % 18446744073709551616)=0
  rotate_left
  · rw [if_pos h1] at hk
    refine W1 trivial (And.intro @DD (And.intro @hw1 @ha)) trivial ?_
    exact hk
  rw [if_neg (fun h=>h h1)] at hk
  by_cases h2:sty=1
  rotate_left
  · refine W1 trivial (And.intro @DD (And.intro @hw1 @ha)) trivial ?_
    refine place_spec ⟨noff⟩ ⟨⟨hl,now⟩⟩ hL ?_
    cases hp:placeOk segs i off sz own with
    | false =>
      rw [if_pos (.inl hp)] at hk
      refine W1 trivial @DD trivial ?_
      exact hk
    | true =>
      rw [if_neg (fun h=>h.elim (fun h=>by rw [hp] at h;cases h) fun h=>h2 h.1),if_pos h2] at hk
      refine W1 trivial @DD trivial ?_
      exact hk
  refine W1 trivial (And.intro @DD (And.intro @hw1 @ha)) trivial ?_
  refine place_spec ⟨noff⟩ ⟨⟨hl,now⟩⟩ hL ?_
  cases hp:placeOk segs i off sz own with
  | false =>
    rw [if_pos (.inl hp)] at hk
    refine W1 trivial @DD trivial ?_
    exact hk
  | true =>
    by_cases h3:i = -1
    rotate_left
    · rw [if_pos (.inr ⟨h2,h3⟩)] at hk
      refine W1 trivial @DD trivial ?_
      exact hk
    rw [if_neg (fun h=>h.elim (fun h=>by rw [hp] at h;cases h) fun h=>h.2 h3),if_neg (fun h=>h h2)] at hk
    by_cases h4:sme < sz
    · rw [if_pos h4] at hk
      refine W1 trivial @DD trivial ?_
      exact hk
    rw [if_neg h4] at hk
    cases w
    · rw [show roomB false sva=(4294967296 - sva) % 18446744073709551616 from rfl] at hk
      have hwr:IntKind.wrap .u64 (4294967296 - sva)=(4294967296 - sva) % 18446744073709551616:=wU64 _
      generalize (4294967296 - sva) % 18446744073709551616=r at *
      by_cases h5:r < sme∧(r≠0∨sva≠0)
      · rw [if_pos h5] at hk
        by_cases h6:r=0
        · have h7:sva≠0:=by omega
          refine W1 trivial (And.intro @DD @hwr) trivial ?_
          exact hk
        · refine W1 trivial (And.intro @DD @hwr) trivial ?_
          exact hk
      · rw [if_neg h5] at hk
        by_cases h8:r < sme
        · have h6:r=0:=by omega
          have h7:sva=0:=by omega
          refine W1 trivial (And.intro @DD @hwr) trivial ?_
          exact hk
        · refine W1 trivial (And.intro @DD @hwr) trivial ?_
          exact hk
    · rw [show roomB true sva=(0 - sva) % 18446744073709551616 from rfl] at hk
      have hwr:IntKind.wrap .u64 (0 - sva)=(0 - sva) % 18446744073709551616:=wU64 _
      generalize (0 - sva) % 18446744073709551616=r at *
      by_cases h5:r < sme∧(r≠0∨sva≠0)
      · rw [if_pos h5] at hk
        by_cases h6:r=0
        · have h7:sva≠0:=by omega
          refine W1 trivial (And.intro @DD @hwr) trivial ?_
          exact hk
        · refine W1 trivial (And.intro @DD @hwr) trivial ?_
          exact hk
      · rw [if_neg h5] at hk
        by_cases h8:r < sme
        · have h6:r=0:=by omega
          have h7:sva=0:=by omega
          refine W1 trivial (And.intro @DD @hwr) trivial ?_
          exact hk
        · refine W1 trivial (And.intro @DD @hwr) trivial ?_
          exact hk
theorem sec_spec {nm sty sfl sad ssi sli ssf sal sen i off sz:Int} {own:List Int} (hG:Am (SecN nm sty sfl sad ssi sli sal sen i off sz own)) (hl:Om (segs.length≤1000000∧secs.length≤1000000)) (hL:∀ s ∈ segs,s.2.2.2.2.2.2.1.2.2.2.1.length≤1000000) (hk:K (.int .i64 (secC segs secs.length sty ssi sli i off sz own)) []) :
    PCalls Try.prog 49 [.agg [.bool w,.bool big,.int .u8 o,.int .u8 ab,.int .u16 ty,.int .u16 ma,.int .u32 fl,.int .u64 en,.sl dSeg segs,.sl dSec secs,.int .i64 st],.agg [.int .u32 nm,.int .u32 sty,.int .u64 sfl,.int .u64 sad,.int .u64 ssi,.int .u32 sli,.int .u32 ssf,.int .u64 sal,.int .u64 sen,.int .i64 i,.int .u64 off,.int .u64 sz,.sl (.int .u8) own]] [] K:=by
  obtain ⟨nnm,nty,nfl,nad,nsi,nli,nal,nen,noff,nsz,now,nbo⟩:=hG.o
  have hl:=hl.o
  refine told_callP model_sec.told fun Z hZ=>?_
  unfold model_sec.c
  unfold secC at hk
  generalize hz:(if sty=0∨sty=8 then 0 else ssi)=z at *
  have hzb:0≤z∧z≤18446744073709551615:=by rw [← hz];split <;> omega
  cases hp:placeOk segs i off sz own with
  | false =>
    rw [if_pos (.inl hp)] at hk
    by_cases h1:sty=0
    · refine W1 trivial @DD trivial ?_
      refine place_spec ⟨noff⟩ ⟨⟨hl.1,now⟩⟩ hL ?_
      rw [hp]
      refine W1 trivial @DD trivial ?_
      exact hk
    by_cases h2:sty=8
    · refine W1 trivial @DD trivial ?_
      refine place_spec ⟨noff⟩ ⟨⟨hl.1,now⟩⟩ hL ?_
      rw [hp]
      refine W1 trivial @DD trivial ?_
      exact hk
    refine W1 trivial @DD trivial ?_
    refine place_spec ⟨noff⟩ ⟨⟨hl.1,now⟩⟩ hL ?_
    rw [hp]
    refine W1 trivial @DD trivial ?_
    exact hk
  | true =>
    have hk:K (.int .i64 (if sz≠z then 1 else if (secs.length:Int) < sli then 10 else 0)) []:=by simpa only [hp,Bool.true_eq_false,false_or] using hk
    by_cases h1:sty=0
    · have hz0:z=0:=by rw [← hz,if_pos (.inl h1)]
      refine W1 trivial @DD trivial ?_
      refine place_spec ⟨noff⟩ ⟨⟨hl.1,now⟩⟩ hL ?_
      rw [hp]
      by_cases h3:sz=z
      · rw [if_neg (fun h=>h h3)] at hk
        by_cases h4:(secs.length:Int) < sli
        · rw [if_pos h4] at hk
          refine W1 trivial @DD trivial ?_
          exact hk
        · rw [if_neg h4] at hk
          refine W1 trivial @DD trivial ?_
          exact hk
      · rw [if_pos h3] at hk
        refine W1 trivial @DD trivial ?_
        exact hk
    by_cases h2:sty=8
    · have hz0:z=0:=by rw [← hz,if_pos (.inr h2)]
      refine W1 trivial @DD trivial ?_
      refine place_spec ⟨noff⟩ ⟨⟨hl.1,now⟩⟩ hL ?_
      rw [hp]
      by_cases h3:sz=z
      · rw [if_neg (fun h=>h h3)] at hk
        by_cases h4:(secs.length:Int) < sli
        · rw [if_pos h4] at hk
          refine W1 trivial @DD trivial ?_
          exact hk
        · rw [if_neg h4] at hk
          refine W1 trivial @DD trivial ?_
          exact hk
      · rw [if_pos h3] at hk
        refine W1 trivial @DD trivial ?_
        exact hk
    have hz0:z=ssi:=by rw [← hz,if_neg (by omega)]
    refine W1 trivial @DD trivial ?_
    refine place_spec ⟨noff⟩ ⟨⟨hl.1,now⟩⟩ hL ?_
    rw [hp]
    by_cases h3:sz=z
    · rw [if_neg (fun h=>h h3)] at hk
      by_cases h4:(secs.length:Int) < sli
      · rw [if_pos h4] at hk
        refine W1 trivial @DD trivial ?_
        exact hk
      · rw [if_neg h4] at hk
        refine W1 trivial @DD trivial ?_
        exact hk
    · rw [if_pos h3] at hk
      refine W1 trivial @DD trivial ?_
      exact hk
end
end Go.Proofs.Ytcffpnlochillaa.PvW
end
