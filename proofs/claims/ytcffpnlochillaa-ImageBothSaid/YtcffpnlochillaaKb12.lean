/- A heap of plain values, walks over it, and functions of the program met by them: no statement of the set is proved in this text. -/
import Derived.Test.YtcffpnlochillaaKb11
set_option linter.unusedVariables false
set_option linter.unusedSimpArgs false
set_option maxRecDepth 100000
set_option maxHeartbeats 4000000
section
namespace Go.Proofs.Ytcffpnlochillaa.PvW
open Go.RowKit Go.Proofs.Ytcffpnlochillaa.Cd Go.Proofs.Ytcffpnlochillaa.AbP Go.Proofs.Ytcffpnlochillaa.Num Go.Proofs.Ytcffpnlochillaa.Pv
def ixB (b:List Int):Int:=Lib.indexByte (Lib.bytesOf b) (0:Int).toNat.toUInt8
theorem index_lt:∀ (l:List UInt8) (c:UInt8),-1≤Lib.indexByte l c∧Lib.indexByte l c < l.length
  | [],c=>by simp [Lib.indexByte]
  | b :: l, c => by
    have ih:=index_lt l c
    unfold Lib.indexByte
    split
    · simp
    · split
      · simp;omega
      · simp only [List.length_cons];omega
theorem bytesOf_len (b:List Int):(Lib.bytesOf b).length=b.length:=by simp [Lib.bytesOf]
theorem ixB_lt (b:List Int) : -1≤ixB b∧ixB b < b.length:=by
  have:=index_lt (Lib.bytesOf b) (0:Int).toNat.toUInt8
  rw [bytesOf_len] at this
  exact this
section
variable {K:PV→List OB→Prop}
theorem bindex_spec {b:List Int} (hb:Om (0 < b.length∧b.length≤1000000)) (hk:K (.int .i64 (ixB b)) []):PCalls Try.prog 60 [.sl (.int .u8) b,.sl (.int .u8) [0]] [] K:=by
  have hb:=hb.o
  refine told_callP bytes_Index.told fun Z hZ=>?_
  unfold bytes_Index.c
  have h1:(([(0:Int)].length:Nat):Int)=1:=rfl
  have hx:[(0:Int)][0]? = some (0:Int):=rfl
  refine W1 trivial (And.intro @DD @h1) @idx_spec ?_
  exact hk
theorem cut_spec {b:List Int} (hb:Om (0 < b.length∧b.length≤1000000)) (hk1:0≤ixB b→K (.tup [.sl (.int .u8) (b.take (ixB b).toNat),.sl (.int .u8) (b.drop (ixB b+1).toNat),.bool true]) []) (hk0:ixB b = -1→K (.tup [.sl (.int .u8) b,.nilS,.bool false]) []) :
    PCalls Try.prog 58 [.sl (.int .u8) b,.sl (.int .u8) [0]] [] K:=by
  have hb:=hb.o
  refine told_callP bytes_Cut.told fun Z hZ=>?_
  unfold bytes_Cut.c
  have h1:(([(0:Int)].length:Nat):Int)=1:=rfl
  have hix:=ixB_lt b
  by_cases h0:0≤ixB b
  · have:=hk1 h0
    refine W1 trivial (And.intro @DD @h1) @bindex_spec ?_
    exact this
  · have:=hk0 (by omega)
    refine W1 trivial (And.intro @DD @h1) @bindex_spec ?_
    exact this

def okName (b:List Int) (off:Int):Bool:=decide (off < b.length) && decide (0≤ixB (b.drop off.toNat))
theorem sget_str_spec {b:List Int} {off:Int} (hb:Om (b.length≤1000000)) (ho:Om (0≤off∧off≤18446744073709551615)) (hk1:okName b off=true→K (.tup [.str (sOf ((b.drop off.toNat).take (ixB (b.drop off.toNat)).toNat)),.bool true]) []) (hk0:okName b off=false→K (.tup [.str ⟨#[]⟩,.bool false]) []) :
    PCalls Try.prog 54 [.sl (.int .u8) b,.int .u64 off] [] K:=by
  have hb:=hb.o
  have ho:=ho.o
  refine told_callP strs_Get.told fun Z hZ=>?_
  unfold strs_Get.c
  by_cases h1:off < b.length
  rotate_left
  · have:=hk0 (by simp [okName,h1])
    refine W1 trivial @DD trivial ?_
    exact this
  have hdl:(b.drop off.toNat).length=b.length - off.toNat:=List.length_drop
  have hix:=ixB_lt (b.drop off.toNat)
  refine W1 trivial @DD trivial ?_
  refine cut_spec ⟨by omega⟩ (fun h=>?_) (fun h=>?_)
  · have:=hk1 (by simp [okName,h1,h])
    refine W1 trivial @DD trivial ?_
    exact this
  · have:=hk0 (by simp [okName,h1,h])
    refine W1 trivial @DD trivial ?_
    exact this
end
end Go.Proofs.Ytcffpnlochillaa.PvW
end
section
namespace Go.Proofs.Ytcffpnlochillaa.PvW
open Go.RowKit Go.Proofs.Ytcffpnlochillaa.Cd Go.Proofs.Ytcffpnlochillaa.AbP Go.Proofs.Ytcffpnlochillaa.Num Go.Proofs.Ytcffpnlochillaa.Pv
def namesC (secs:List dSec.T) (st:Int):Int :=
  if st < 0∨(secs.length:Int) < st then 10
  else if st=0 then (if (secs.all fun s=>decide (@Eq Int s.1 0))=true then 0 else 9)
  else match secs[(st - 1).toNat]? with
    | none=>10
    | some s=>if ¬ @Eq Int s.2.1 3∨¬ @Eq Int s.2.2.2.2.2.2.2.2.2.1.1 (-1) then 9 else if (secs.all fun x=>okName s.2.2.2.2.2.2.2.2.2.1.2.2.2.1 x.1)=true then 0 else 9
abbrev SecsN (secs:List dSec.T):Prop:=∀ s ∈ secs,SecN s.1 s.2.1 s.2.2.1 s.2.2.2.1 s.2.2.2.2.1 s.2.2.2.2.2.1 s.2.2.2.2.2.2.2.1 s.2.2.2.2.2.2.2.2.1 s.2.2.2.2.2.2.2.2.2.1.1 s.2.2.2.2.2.2.2.2.2.1.2.1 s.2.2.2.2.2.2.2.2.2.1.2.2.1 s.2.2.2.2.2.2.2.2.2.1.2.2.2.1
theorem all_takeS {α:Type} {p:α→Bool} {l:List α} {i:Nat} {x:α} (hx:l[i]? = some x) (h:(l.take i).all p=true) (hp:p x=true):(l.take (i+1)).all p=true:=by
  rw [List.take_add_one,hx]
  simp [List.all_append,h,hp]
theorem all_noS {α:Type} {p:α→Bool} {l:List α} {i:Nat} {x:α} (hx:l[i]? = some x) (hp:p x=false):¬ l.all p=true:=fun h=>by
  have:=List.all_eq_true.1 h x (List.mem_of_getElem? hx)
  rw [hp] at this
  cases this
section
variable {K:PV→List OB→Prop} {w big:Bool} {o ab ty ma fl en st:Int} {segs:List dSeg.T} {secs:List dSec.T}
theorem names_spec (hl:Om (secs.length≤1000000)) (hN:Am (SecsN secs)) (hk:K (.int .i64 (namesC secs st)) []) :
    PCalls Try.prog 50 [.agg [.bool w,.bool big,.int .u8 o,.int .u8 ab,.int .u16 ty,.int .u16 ma,.int .u32 fl,.int .u64 en,.sl dSeg segs,.sl dSec secs,.int .i64 st]] [] K:=by
  have hl:=hl.o
  have hN:=hN.o
  refine told_callP model_names.told fun Z hZ=>?_
  unfold model_names.c
  unfold namesC at hk
  by_cases h1:st < 0
  · rw [if_pos (.inl h1)] at hk
    refine W1 trivial @DD trivial ?_
    exact hk
  by_cases h2:(secs.length:Int) < st
  · rw [if_pos (.inr h2)] at hk
    refine W1 trivial @DD trivial ?_
    exact hk
  rw [if_neg (fun h=>h.elim h1 h2)] at hk
  by_cases h3:st=0
  · rw [if_pos h3] at hk
    refine W1 trivial @DD trivial ?_
    refine w_lpG (fun q e s=>∃ i:Nat,q+i=secs.length∧s=[.var [.bool w,.bool big,.int .u8 o,.int .u8 ab,.int .u16 ty,.int .u16 ma,.int .u32 fl,.int .u64 en,.sl dSeg segs,.sl dSec secs,.int .i64 st]]∧((secs.take i).all fun s=>decide (@Eq Int s.1 0))=true∧e 1 = .ptr 0 0∧e 25 = .sl dSec secs∧e 26 = .int .i64 secs.length∧e 27 = .int .i64 i) secs.length ?_ ?_
    · exact ⟨0,rfl,rfl,rfl,by exact lk trivial,by exact lk trivial,by exact lk trivial,by exact lk trivial⟩
    rintro q e s ⟨i,hi,rfl,hall,e1,e25,e26,e27⟩
    by_cases hq:i < secs.length
    · obtain ⟨x,hx⟩:∃ x,secs[i]? = some x:=⟨secs[i],List.getElem?_eq_getElem hq⟩
      by_cases h4:@Eq Int x.1 0
      · have ha:=all_takeS hx hall (decide_eq_true h4)
        obtain ⟨nm,sty,sfl,sad,ssi,sli,ssf,sal,sen,⟨si,so,sz,sown,u⟩,u2⟩:=x
        have h4:@Eq Int nm 0:=h4
        refine W1 (And.intro @e1 (And.intro @e25 (And.intro @e26 @e27))) @DD trivial ?_
        exact ⟨q - 1,by omega,_,_,Gh.sel [0] (by decide) (hz0 hZ),i+1,by omega,rfl,ha,by exact lk @e1,by exact lk @e25,by exact lk @e26,by exact lk @e27⟩
      · rw [if_neg (all_noS hx (decide_eq_false h4))] at hk
        obtain ⟨nm,sty,sfl,sad,ssi,sli,ssf,sal,sen,⟨si,so,sz,sown,u⟩,u2⟩:=x
        have h4:¬ @Eq Int nm 0:=h4
        refine W1 (And.intro @e1 (And.intro @e25 (And.intro @e26 @e27))) @DD trivial ?_
        exact hk
    · obtain rfl:i=secs.length:=by omega
      rw [List.take_length] at hall
      rw [if_pos hall] at hk
      refine W1 (And.intro @e1 (And.intro @e25 (And.intro @e26 @e27))) @DD trivial ?_
      exact hk
  rw [if_neg h3] at hk
  obtain ⟨y,hy⟩:∃ y,secs[(st - 1).toNat]? = some y:=⟨secs[(st - 1).toNat]'(by omega),List.getElem?_eq_getElem (by omega)⟩
  rw [hy] at hk
  have hy0:=hN y (List.mem_of_getElem? hy)
  obtain ⟨ynm,yty,yfl,yad,ysi,yli,ysf,yal,yen,⟨yi,yo,yz,yown,yu⟩,yu2⟩:=y
  dsimp only at hk hy0
  have hyo:=hy0.ow
  by_cases h4:@Eq Int yty 3
  rotate_left
  · rw [if_pos (.inl h4)] at hk
    refine W1 trivial @DD trivial ?_
    exact hk
  by_cases h5:@Eq Int yi (-1)
  rotate_left
  · rw [if_pos (.inr h5)] at hk
    refine W1 trivial @DD trivial ?_
    exact hk
  rw [if_neg (fun h=>h.elim (fun h=>h h4) fun h=>h h5)] at hk
  refine W1 trivial @DD trivial ?_
  refine w_lpG (fun q e s=>∃ i:Nat,q+i=secs.length∧s=[.var [.bool w,.bool big,.int .u8 o,.int .u8 ab,.int .u16 ty,.int .u16 ma,.int .u32 fl,.int .u64 en,.sl dSeg segs,.sl dSec secs,.int .i64 st],.var [.int .u32 ynm,.int .u32 yty,.int .u64 yfl,.int .u64 yad,.int .u64 ysi,.int .u32 yli,.int .u32 ysf,.int .u64 yal,.int .u64 yen,.int .i64 yi,.int .u64 yo,.int .u64 yz,.sl (.int .u8) yown]]∧((secs.take i).all fun x=>okName yown x.1)=true∧e 5 = .ptr 1 0∧e 52 = .sl dSec secs∧e 53 = .int .i64 secs.length∧e 54 = .int .i64 i) secs.length ?_ ?_
  · exact ⟨0,rfl,rfl,rfl,by exact lk trivial,by exact lk trivial,by exact lk trivial,by exact lk trivial⟩
  rintro q e s ⟨i,hi,rfl,hall,e5,e52,e53,e54⟩
  by_cases hq:i < secs.length
  · obtain ⟨x,hx⟩:∃ x,secs[i]? = some x:=⟨secs[i],List.getElem?_eq_getElem hq⟩
    have hx0:=(hN x (List.mem_of_getElem? hx)).nm
    have hat:=fun h=>all_takeS (p:=fun x:dSec.T=>okName yown x.1) hx hall h
    have han:=fun h=>all_noS (p:=fun x:dSec.T=>okName yown x.1) hx h
    obtain ⟨nm,sty,sfl,sad,ssi,sli,ssf,sal,sen,⟨si,so,sz,sown,u⟩,u2⟩:=x
    dsimp only at hx0 hat han
    refine W1 (And.intro @e5 (And.intro @e52 (And.intro @e53 @e54))) @DD trivial ?_
    refine sget_str_spec ⟨hyo⟩ ⟨by omega⟩ (fun ok=>?_) (fun no=>?_)
    · have ha:=hat ok
      refine W1 (And.intro @e5 (And.intro @e52 (And.intro @e53 @e54))) @DD trivial ?_
      exact ⟨q - 1,by omega,_,_,Gh.sel [0,1] (by decide) (hz0 hZ),i+1,by omega,rfl,ha,by exact lk @e5,by exact lk @e52,by exact lk @e53,by exact lk @e54⟩
    · rw [if_neg (han no)] at hk
      refine W1 (And.intro @e5 (And.intro @e52 (And.intro @e53 @e54))) @DD trivial ?_
      exact hk
  · obtain rfl:i=secs.length:=by omega
    rw [List.take_length] at hall
    rw [if_pos hall] at hk
    refine W1 (And.intro @e5 (And.intro @e52 (And.intro @e53 @e54))) @DD trivial ?_
    exact hk
end
end Go.Proofs.Ytcffpnlochillaa.PvW
end
