/- A heap of plain values, walks over it, and functions of the program met by them: no statement of the set is proved in this text. -/
import Derived.Test.YtcffpnlochillaaGreatDoorKb08
set_option linter.unusedVariables false
set_option linter.unusedSimpArgs false
set_option maxRecDepth 100000
set_option maxHeartbeats 4000000
section
namespace Go.Proofs.YtcffpnlochillaaGreatDoor.PvW
open Go.RowKit Go.Proofs.YtcffpnlochillaaGreatDoor.Cd Go.Proofs.YtcffpnlochillaaGreatDoor.AbP Go.Proofs.YtcffpnlochillaaGreatDoor.Num Go.Proofs.YtcffpnlochillaaGreatDoor.Pv
def andI (a b:Int):Int:=((BitVec.ofInt 64 a &&& BitVec.ofInt 64 b).toNat:Int)
structure SegN (ty va pa me al i off sz:Int) (own:List Int):Prop where
  ty:0≤ty∧ty≤4294967295
  va:0≤va∧va≤18446744073709551615
  pa:0≤pa∧pa≤18446744073709551615
  me:0≤me∧me≤18446744073709551615
  al:0≤al∧al≤18446744073709551615
  off:0≤off∧off≤18446744073709551615
  sz:0≤sz∧sz≤18446744073709551615
  ow:own.length≤1000000
  bo:B own
structure SecN (nm ty fl ad si li al en i off sz:Int) (own:List Int):Prop where
  nm:0≤nm∧nm≤4294967295
  ty:0≤ty∧ty≤4294967295
  fl:0≤fl∧fl≤18446744073709551615
  ad:0≤ad∧ad≤18446744073709551615
  si:0≤si∧si≤18446744073709551615
  li:0≤li∧li≤4294967295
  al:0≤al∧al≤18446744073709551615
  en:0≤en∧en≤18446744073709551615
  off:0≤off∧off≤18446744073709551615
  sz:0≤sz∧sz≤18446744073709551615
  ow:own.length≤1000000
  bo:B own

def roomB (w:Bool) (va:Int):Int:=if w=true then (0 - va) % 18446744073709551616 else (4294967296 - va) % 18446744073709551616

def segC (w:Bool) (segs:List dSeg.T) (ty va me al i off sz:Int) (own:List Int):Int :=
  if andI al ((al - 1) % 18446744073709551616)≠0 then 6
  else if placeOk segs i off sz own=false∨(ty=1∧i≠-1) then 1
  else if ty≠1 then 0
  else if me < sz then 5
  else if roomB w va < me∧(roomB w va≠0∨va≠0) then 12 else 0

def secC (segs:List dSeg.T) (n:Nat) (ty si li i off sz:Int) (own:List Int):Int :=
  if placeOk segs i off sz own=false∨sz≠(if ty=0∨ty=8 then 0 else si) then 1
  else if (n:Int) < li then 10 else 0
theorem and_u64 (a b:Int):Ab.abin .and (.int .u64 a) (.int .u64 b)=some (.int .u64 (andI a b)):=by
  rw [Ab.b_and,wU64]
  have h:=(BitVec.ofInt 64 a &&& BitVec.ofInt 64 b).isLt
  show some (Value.int .u64 (((BitVec.ofInt 64 a &&& BitVec.ofInt 64 b).toNat:Int) % 18446744073709551616))=_
  rw [Int.emod_eq_of_lt (by omega) (by omega)]
  rfl
section
variable {K:PV→List OB→Prop} {w big:Bool} {o ab ty ma fl en st:Int} {segs:List dSeg.T} {secs:List dSec.T}
theorem seg_spec {sty sfl sva spa sme sal i off sz:Int} {own:List Int} (hG:Am (SegN sty sva spa sme sal i off sz own)) (hl:Om (segs.length≤1000000)) (hL:∀ s ∈ segs,s.2.2.2.2.2.2.1.2.2.2.1.length≤1000000) (hk:K (.int .i64 (segC w segs sty sva sme sal i off sz own)) []) :
    PCalls Tryz.prog 106 [.agg [.bool w,.bool big,.int .u8 o,.int .u8 ab,.int .u16 ty,.int .u16 ma,.int .u32 fl,.int .u64 en,.sl dSeg segs,.sl dSec secs,.int .i64 st],.agg [.int .u32 sty,.int .u32 sfl,.int .u64 sva,.int .u64 spa,.int .u64 sme,.int .u64 sal,.int .i64 i,.int .u64 off,.int .u64 sz,.sl (.int .u8) own]] [] K:=by
  obtain ⟨nty,nva,npa,nme,nal,noff,nsz,now,nbo⟩:=hG.o
  have hl:=hl.o
  refine told_callP model_seg.told fun Z hZ=>?_
  unfold model_seg.c
  unfold segC at hk
  have ha:=and_u64 sal ((sal - 1) % 18446744073709551616)
  have hw1:IntKind.wrap .u64 (sal - 1)=(sal - 1) % 18446744073709551616:=wU64 _
  by_cases h1:andI sal ((sal - 1) % 18446744073709551616)=0
  rotate_left
  · rw [if_pos h1] at hk
    refine W1 trivial (And.intro @DD (And.intro @hw1 @ha)) trivial ?_
    exact hk
  rw [if_neg (fun h=>h h1)] at hk
  by_cases h2:sty=1
  rotate_left
  · refine W1 trivial (And.intro @DD (And.intro @hw1 @ha)) trivial ?_
    refine place_spec ⟨noff⟩ ⟨⟨hl,now⟩⟩ hL ?_
    cases hp:placeOk segs i off sz own with
    | false =>
      rw [if_pos (.inl hp)] at hk
      refine W1 trivial @DD trivial ?_
      exact hk
    | true =>
      rw [if_neg (fun h=>h.elim (fun h=>by rw [hp] at h;cases h) fun h=>h2 h.1),if_pos h2] at hk
      refine W1 trivial @DD trivial ?_
      exact hk
  refine W1 trivial (And.intro @DD (And.intro @hw1 @ha)) trivial ?_
  refine place_spec ⟨noff⟩ ⟨⟨hl,now⟩⟩ hL ?_
  cases hp:placeOk segs i off sz own with
  | false =>
    rw [if_pos (.inl hp)] at hk
    refine W1 trivial @DD trivial ?_
    exact hk
  | true =>
    by_cases h3:i = -1
    rotate_left
    · rw [if_pos (.inr ⟨h2,h3⟩)] at hk
      refine W1 trivial @DD trivial ?_
      exact hk
    rw [if_neg (fun h=>h.elim (fun h=>by rw [hp] at h;cases h) fun h=>h.2 h3),if_neg (fun h=>h h2)] at hk
    by_cases h4:sme < sz
    · rw [if_pos h4] at hk
      refine W1 trivial @DD trivial ?_
      exact hk
    rw [if_neg h4] at hk
    cases w
    · rw [show roomB false sva=(4294967296 - sva) % 18446744073709551616 from rfl] at hk
      have hwr:IntKind.wrap .u64 (4294967296 - sva)=(4294967296 - sva) % 18446744073709551616:=wU64 _
      generalize (4294967296 - sva) % 18446744073709551616=r at *
      by_cases h5:r < sme∧(r≠0∨sva≠0)
      · rw [if_pos h5] at hk
        by_cases h6:r=0
        · have h7:sva≠0:=by omega
          refine W1 trivial (And.intro @DD @hwr) trivial ?_
          exact hk
        · refine W1 trivial (And.intro @DD @hwr) trivial ?_
          exact hk
      · rw [if_neg h5] at hk
        by_cases h8:r < sme
        · have h6:r=0:=by omega
          have h7:sva=0:=by omega
          refine W1 trivial (And.intro @DD @hwr) trivial ?_
          exact hk
        · refine W1 trivial (And.intro @DD @hwr) trivial ?_
          exact hk
    · rw [show roomB true sva=(0 - sva) % 18446744073709551616 from rfl] at hk
      have hwr:IntKind.wrap .u64 (0 - sva)=(0 - sva) % 18446744073709551616:=wU64 _
      generalize (0 - sva) % 18446744073709551616=r at *
      by_cases h5:r < sme∧(r≠0∨sva≠0)
      · rw [if_pos h5] at hk
        by_cases h6:r=0
        · have h7:sva≠0:=by omega
          refine W1 trivial (And.intro @DD @hwr) trivial ?_
          exact hk
        · refine W1 trivial (And.intro @DD @hwr) trivial ?_
          exact hk
      · rw [if_neg h5] at hk
        by_cases h8:r < sme
        · have h6:r=0:=by omega
          have h7:sva=0:=by omega
          refine W1 trivial (And.intro @DD @hwr) trivial ?_
          exact hk
        · refine W1 trivial (And.intro @DD @hwr) trivial ?_
          exact hk
theorem sec_spec {nm sty sfl sad ssi sli ssf sal sen i off sz:Int} {own:List Int} (hG:Am (SecN nm sty sfl sad ssi sli sal sen i off sz own)) (hl:Om (segs.length≤1000000∧secs.length≤1000000)) (hL:∀ s ∈ segs,s.2.2.2.2.2.2.1.2.2.2.1.length≤1000000) (hk:K (.int .i64 (secC segs secs.length sty ssi sli i off sz own)) []) :
    PCalls Tryz.prog 108 [.agg [.bool w,.bool big,.int .u8 o,.int .u8 ab,.int .u16 ty,.int .u16 ma,.int .u32 fl,.int .u64 en,.sl dSeg segs,.sl dSec secs,.int .i64 st],.agg [.int .u32 nm,.int .u32 sty,.int .u64 sfl,.int .u64 sad,.int .u64 ssi,.int .u32 sli,.int .u32 ssf,.int .u64 sal,.int .u64 sen,.int .i64 i,.int .u64 off,.int .u64 sz,.sl (.int .u8) own]] [] K:=by
  obtain ⟨nnm,nty,nfl,nad,nsi,nli,nal,nen,noff,nsz,now,nbo⟩:=hG.o
  have hl:=hl.o
  refine told_callP model_sec.told fun Z hZ=>?_
  unfold model_sec.c
  unfold secC at hk
  generalize hz:(if sty=0∨sty=8 then 0 else ssi)=z at *
  have hzb:0≤z∧z≤18446744073709551615:=by rw [← hz];split <;> omega
  cases hp:placeOk segs i off sz own with
  | false =>
    rw [if_pos (.inl hp)] at hk
    by_cases h1:sty=0
    · refine W1 trivial @DD trivial ?_
      refine place_spec ⟨noff⟩ ⟨⟨hl.1,now⟩⟩ hL ?_
      rw [hp]
      refine W1 trivial @DD trivial ?_
      exact hk
    by_cases h2:sty=8
    · refine W1 trivial @DD trivial ?_
      refine place_spec ⟨noff⟩ ⟨⟨hl.1,now⟩⟩ hL ?_
      rw [hp]
      refine W1 trivial @DD trivial ?_
      exact hk
    refine W1 trivial @DD trivial ?_
    refine place_spec ⟨noff⟩ ⟨⟨hl.1,now⟩⟩ hL ?_
    rw [hp]
    refine W1 trivial @DD trivial ?_
    exact hk
  | true =>
    have hk:K (.int .i64 (if sz≠z then 1 else if (secs.length:Int) < sli then 10 else 0)) []:=by simpa only [hp,Bool.true_eq_false,false_or] using hk
    by_cases h1:sty=0
    · have hz0:z=0:=by rw [← hz,if_pos (.inl h1)]
      refine W1 trivial @DD trivial ?_
      refine place_spec ⟨noff⟩ ⟨⟨hl.1,now⟩⟩ hL ?_
      rw [hp]
      by_cases h3:sz=z
      · rw [if_neg (fun h=>h h3)] at hk
        by_cases h4:(secs.length:Int) < sli
        · rw [if_pos h4] at hk
          refine W1 trivial @DD trivial ?_
          exact hk
        · rw [if_neg h4] at hk
          refine W1 trivial @DD trivial ?_
          exact hk
      · rw [if_pos h3] at hk
        refine W1 trivial @DD trivial ?_
        exact hk
    by_cases h2:sty=8
    · have hz0:z=0:=by rw [← hz,if_pos (.inr h2)]
      refine W1 trivial @DD trivial ?_
      refine place_spec ⟨noff⟩ ⟨⟨hl.1,now⟩⟩ hL ?_
      rw [hp]
      by_cases h3:sz=z
      · rw [if_neg (fun h=>h h3)] at hk
        by_cases h4:(secs.length:Int) < sli
        · rw [if_pos h4] at hk
          refine W1 trivial @DD trivial ?_
          exact hk
        · rw [if_neg h4] at hk
          refine W1 trivial @DD trivial ?_
          exact hk
      · rw [if_pos h3] at hk
        refine W1 trivial @DD trivial ?_
        exact hk
    have hz0:z=ssi:=by rw [← hz,if_neg (by omega)]
    refine W1 trivial @DD trivial ?_
    refine place_spec ⟨noff⟩ ⟨⟨hl.1,now⟩⟩ hL ?_
    rw [hp]
    by_cases h3:sz=z
    · rw [if_neg (fun h=>h h3)] at hk
      by_cases h4:(secs.length:Int) < sli
      · rw [if_pos h4] at hk
        refine W1 trivial @DD trivial ?_
        exact hk
      · rw [if_neg h4] at hk
        refine W1 trivial @DD trivial ?_
        exact hk
    · rw [if_pos h3] at hk
      refine W1 trivial @DD trivial ?_
      exact hk
end
end Go.Proofs.YtcffpnlochillaaGreatDoor.PvW
end
section
namespace Go.Proofs.YtcffpnlochillaaGreatDoor.PvW
open Go.RowKit Go.Proofs.YtcffpnlochillaaGreatDoor.Cd Go.Proofs.YtcffpnlochillaaGreatDoor.AbP Go.Proofs.YtcffpnlochillaaGreatDoor.Num Go.Proofs.YtcffpnlochillaaGreatDoor.Pv
def ixB (b:List Int):Int:=Lib.indexByte (Lib.bytesOf b) (0:Int).toNat.toUInt8
theorem index_lt:∀ (l:List UInt8) (c:UInt8),-1≤Lib.indexByte l c∧Lib.indexByte l c < l.length
  | [],c=>by simp [Lib.indexByte]
  | b :: l, c => by
    have ih:=index_lt l c
    unfold Lib.indexByte
    split
    · simp
    · split
      · simp;omega
      · simp only [List.length_cons];omega
theorem bytesOf_len (b:List Int):(Lib.bytesOf b).length=b.length:=by simp [Lib.bytesOf]
theorem ixB_lt (b:List Int) : -1≤ixB b∧ixB b < b.length:=by
  have:=index_lt (Lib.bytesOf b) (0:Int).toNat.toUInt8
  rw [bytesOf_len] at this
  exact this
section
variable {K:PV→List OB→Prop}
theorem bindex_spec {b:List Int} (hb:Om (0 < b.length∧b.length≤1000000)) (hk:K (.int .i64 (ixB b)) []):PCalls Tryz.prog 171 [.sl (.int .u8) b,.sl (.int .u8) [0]] [] K:=by
  have hb:=hb.o
  refine told_callP bytes_Index.told fun Z hZ=>?_
  unfold bytes_Index.c
  have h1:(([(0:Int)].length:Nat):Int)=1:=rfl
  have hx:[(0:Int)][0]? = some (0:Int):=rfl
  refine W1 trivial (And.intro @DD @h1) @idx_spec ?_
  exact hk
theorem cut_spec {b:List Int} (hb:Om (0 < b.length∧b.length≤1000000)) (hk1:0≤ixB b→K (.tup [.sl (.int .u8) (b.take (ixB b).toNat),.sl (.int .u8) (b.drop (ixB b+1).toNat),.bool true]) []) (hk0:ixB b = -1→K (.tup [.sl (.int .u8) b,.nilS,.bool false]) []) :
    PCalls Tryz.prog 163 [.sl (.int .u8) b,.sl (.int .u8) [0]] [] K:=by
  have hb:=hb.o
  refine told_callP bytes_Cut.told fun Z hZ=>?_
  unfold bytes_Cut.c
  have h1:(([(0:Int)].length:Nat):Int)=1:=rfl
  have hix:=ixB_lt b
  by_cases h0:0≤ixB b
  · have:=hk1 h0
    refine W1 trivial (And.intro @DD @h1) @bindex_spec ?_
    exact this
  · have:=hk0 (by omega)
    refine W1 trivial (And.intro @DD @h1) @bindex_spec ?_
    exact this

def okName (b:List Int) (off:Int):Bool:=decide (off < b.length) && decide (0≤ixB (b.drop off.toNat))
theorem sget_str_spec {b:List Int} {off:Int} (hb:Om (b.length≤1000000)) (ho:Om (0≤off∧off≤18446744073709551615)) (hk1:okName b off=true→K (.tup [.str (sOf ((b.drop off.toNat).take (ixB (b.drop off.toNat)).toNat)),.bool true]) []) (hk0:okName b off=false→K (.tup [.str ⟨#[]⟩,.bool false]) []) :
    PCalls Tryz.prog 145 [.sl (.int .u8) b,.int .u64 off] [] K:=by
  have hb:=hb.o
  have ho:=ho.o
  refine told_callP strs_Get.told fun Z hZ=>?_
  unfold strs_Get.c
  by_cases h1:off < b.length
  rotate_left
  · have:=hk0 (by simp [okName,h1])
    refine W1 trivial @DD trivial ?_
    exact this
  have hdl:(b.drop off.toNat).length=b.length - off.toNat:=List.length_drop
  have hix:=ixB_lt (b.drop off.toNat)
  refine W1 trivial @DD trivial ?_
  refine cut_spec ⟨by omega⟩ (fun h=>?_) (fun h=>?_)
  · have:=hk1 (by simp [okName,h1,h])
    refine W1 trivial @DD trivial ?_
    exact this
  · have:=hk0 (by simp [okName,h1,h])
    refine W1 trivial @DD trivial ?_
    exact this
end
end Go.Proofs.YtcffpnlochillaaGreatDoor.PvW
end
section
namespace Go.Proofs.YtcffpnlochillaaGreatDoor.PvW
open Go.RowKit Go.Proofs.YtcffpnlochillaaGreatDoor.Cd Go.Proofs.YtcffpnlochillaaGreatDoor.AbP Go.Proofs.YtcffpnlochillaaGreatDoor.Num Go.Proofs.YtcffpnlochillaaGreatDoor.Pv
def namesC (secs:List dSec.T) (st:Int):Int :=
  if st < 0∨(secs.length:Int) < st then 10
  else if st=0 then (if (secs.all fun s=>decide (@Eq Int s.1 0))=true then 0 else 9)
  else match secs[(st - 1).toNat]? with
    | none=>10
    | some s=>if ¬ @Eq Int s.2.1 3∨¬ @Eq Int s.2.2.2.2.2.2.2.2.2.1.1 (-1) then 9 else if (secs.all fun x=>okName s.2.2.2.2.2.2.2.2.2.1.2.2.2.1 x.1)=true then 0 else 9
abbrev SecsN (secs:List dSec.T):Prop:=∀ s ∈ secs,SecN s.1 s.2.1 s.2.2.1 s.2.2.2.1 s.2.2.2.2.1 s.2.2.2.2.2.1 s.2.2.2.2.2.2.2.1 s.2.2.2.2.2.2.2.2.1 s.2.2.2.2.2.2.2.2.2.1.1 s.2.2.2.2.2.2.2.2.2.1.2.1 s.2.2.2.2.2.2.2.2.2.1.2.2.1 s.2.2.2.2.2.2.2.2.2.1.2.2.2.1
theorem all_takeS {α:Type} {p:α→Bool} {l:List α} {i:Nat} {x:α} (hx:l[i]? = some x) (h:(l.take i).all p=true) (hp:p x=true):(l.take (i+1)).all p=true:=by
  rw [List.take_add_one,hx]
  simp [List.all_append,h,hp]
theorem all_noS {α:Type} {p:α→Bool} {l:List α} {i:Nat} {x:α} (hx:l[i]? = some x) (hp:p x=false):¬ l.all p=true:=fun h=>by
  have:=List.all_eq_true.1 h x (List.mem_of_getElem? hx)
  rw [hp] at this
  cases this
section
variable {K:PV→List OB→Prop} {w big:Bool} {o ab ty ma fl en st:Int} {segs:List dSeg.T} {secs:List dSec.T}
theorem names_spec (hl:Om (secs.length≤1000000)) (hN:Am (SecsN secs)) (hk:K (.int .i64 (namesC secs st)) []) :
    PCalls Tryz.prog 109 [.agg [.bool w,.bool big,.int .u8 o,.int .u8 ab,.int .u16 ty,.int .u16 ma,.int .u32 fl,.int .u64 en,.sl dSeg segs,.sl dSec secs,.int .i64 st]] [] K:=by
  have hl:=hl.o
  have hN:=hN.o
  refine told_callP model_names.told fun Z hZ=>?_
  unfold model_names.c
  unfold namesC at hk
  by_cases h1:st < 0
  · rw [if_pos (.inl h1)] at hk
    refine W1 trivial @DD trivial ?_
    exact hk
  by_cases h2:(secs.length:Int) < st
  · rw [if_pos (.inr h2)] at hk
    refine W1 trivial @DD trivial ?_
    exact hk
  rw [if_neg (fun h=>h.elim h1 h2)] at hk
  by_cases h3:st=0
  · rw [if_pos h3] at hk
    refine W1 trivial @DD trivial ?_
    refine w_lpG (fun q e s=>∃ i:Nat,q+i=secs.length∧s=[.var [.bool w,.bool big,.int .u8 o,.int .u8 ab,.int .u16 ty,.int .u16 ma,.int .u32 fl,.int .u64 en,.sl dSeg segs,.sl dSec secs,.int .i64 st]]∧((secs.take i).all fun s=>decide (@Eq Int s.1 0))=true∧e 1 = .ptr 0 0∧e 25 = .sl dSec secs∧e 26 = .int .i64 secs.length∧e 27 = .int .i64 i) secs.length ?_ ?_
    · exact ⟨0,rfl,rfl,rfl,by exact lk trivial,by exact lk trivial,by exact lk trivial,by exact lk trivial⟩
    rintro q e s ⟨i,hi,rfl,hall,e1,e25,e26,e27⟩
    by_cases hq:i < secs.length
    · obtain ⟨x,hx⟩:∃ x,secs[i]? = some x:=⟨secs[i],List.getElem?_eq_getElem hq⟩
      by_cases h4:@Eq Int x.1 0
      · have ha:=all_takeS hx hall (decide_eq_true h4)
        obtain ⟨nm,sty,sfl,sad,ssi,sli,ssf,sal,sen,⟨si,so,sz,sown,u⟩,u2⟩:=x
        have h4:@Eq Int nm 0:=h4
        refine W1 (And.intro @e1 (And.intro @e25 (And.intro @e26 @e27))) @DD trivial ?_
        exact ⟨q - 1,by omega,_,_,Gh.sel [0] (by decide) (hz0 hZ),i+1,by omega,rfl,ha,by exact lk @e1,by exact lk @e25,by exact lk @e26,by exact lk @e27⟩
      · rw [if_neg (all_noS hx (decide_eq_false h4))] at hk
        obtain ⟨nm,sty,sfl,sad,ssi,sli,ssf,sal,sen,⟨si,so,sz,sown,u⟩,u2⟩:=x
        have h4:¬ @Eq Int nm 0:=h4
        refine W1 (And.intro @e1 (And.intro @e25 (And.intro @e26 @e27))) @DD trivial ?_
        exact hk
    · obtain rfl:i=secs.length:=by omega
      rw [List.take_length] at hall
      rw [if_pos hall] at hk
      refine W1 (And.intro @e1 (And.intro @e25 (And.intro @e26 @e27))) @DD trivial ?_
      exact hk
  rw [if_neg h3] at hk
  obtain ⟨y,hy⟩:∃ y,secs[(st - 1).toNat]? = some y:=⟨secs[(st - 1).toNat]'(by omega),List.getElem?_eq_getElem (by omega)⟩
  rw [hy] at hk
  have hy0:=hN y (List.mem_of_getElem? hy)
  obtain ⟨ynm,yty,yfl,yad,ysi,yli,ysf,yal,yen,⟨yi,yo,yz,yown,yu⟩,yu2⟩:=y
  dsimp only at hk hy0
  have hyo:=hy0.ow
  by_cases h4:@Eq Int yty 3
  rotate_left
  · rw [if_pos (.inl h4)] at hk
    refine W1 trivial @DD trivial ?_
    exact hk
  by_cases h5:@Eq Int yi (-1)
  rotate_left
  · rw [if_pos (.inr h5)] at hk
    refine W1 trivial @DD trivial ?_
    exact hk
  rw [if_neg (fun h=>h.elim (fun h=>h h4) fun h=>h h5)] at hk
  refine W1 trivial @DD trivial ?_
  refine w_lpG (fun q e s=>∃ i:Nat,q+i=secs.length∧s=[.var [.bool w,.bool big,.int .u8 o,.int .u8 ab,.int .u16 ty,.int .u16 ma,.int .u32 fl,.int .u64 en,.sl dSeg segs,.sl dSec secs,.int .i64 st],.var [.int .u32 ynm,.int .u32 yty,.int .u64 yfl,.int .u64 yad,.int .u64 ysi,.int .u32 yli,.int .u32 ysf,.int .u64 yal,.int .u64 yen,.int .i64 yi,.int .u64 yo,.int .u64 yz,.sl (.int .u8) yown]]∧((secs.take i).all fun x=>okName yown x.1)=true∧e 5 = .ptr 1 0∧e 52 = .sl dSec secs∧e 53 = .int .i64 secs.length∧e 54 = .int .i64 i) secs.length ?_ ?_
  · exact ⟨0,rfl,rfl,rfl,by exact lk trivial,by exact lk trivial,by exact lk trivial,by exact lk trivial⟩
  rintro q e s ⟨i,hi,rfl,hall,e5,e52,e53,e54⟩
  by_cases hq:i < secs.length
  · obtain ⟨x,hx⟩:∃ x,secs[i]? = some x:=⟨secs[i],List.getElem?_eq_getElem hq⟩
    have hx0:=(hN x (List.mem_of_getElem? hx)).nm
    have hat:=fun h=>all_takeS (p:=fun x:dSec.T=>okName yown x.1) hx hall h
    have han:=fun h=>all_noS (p:=fun x:dSec.T=>okName yown x.1) hx h
    obtain ⟨nm,sty,sfl,sad,ssi,sli,ssf,sal,sen,⟨si,so,sz,sown,u⟩,u2⟩:=x
    dsimp only at hx0 hat han
    refine W1 (And.intro @e5 (And.intro @e52 (And.intro @e53 @e54))) @DD trivial ?_
    refine sget_str_spec ⟨hyo⟩ ⟨by omega⟩ (fun ok=>?_) (fun no=>?_)
    · have ha:=hat ok
      refine W1 (And.intro @e5 (And.intro @e52 (And.intro @e53 @e54))) @DD trivial ?_
      exact ⟨q - 1,by omega,_,_,Gh.sel [0,1] (by decide) (hz0 hZ),i+1,by omega,rfl,ha,by exact lk @e5,by exact lk @e52,by exact lk @e53,by exact lk @e54⟩
    · rw [if_neg (han no)] at hk
      refine W1 (And.intro @e5 (And.intro @e52 (And.intro @e53 @e54))) @DD trivial ?_
      exact hk
  · obtain rfl:i=secs.length:=by omega
    rw [List.take_length] at hall
    rw [if_pos hall] at hk
    refine W1 (And.intro @e5 (And.intro @e52 (And.intro @e53 @e54))) @DD trivial ?_
    exact hk
end
end Go.Proofs.YtcffpnlochillaaGreatDoor.PvW
end
