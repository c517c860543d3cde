/- A heap of plain values, walks over it, and functions of the program met by them: no statement of the set is proved in this text. -/
import Derived.Test.YtcffpnlochillaaGreatDoorKb03
import Derived.Test.YtcffpnlochillaaGreatDoorKb05
import Derived.Test.YtcffpnlochillaaGreatDoorKb06
import Derived.Lib.Strings
import Derived.Lib.Walk
import Derived.WalkKit
import Derived.Lib.BytesEntry
import Derived.Test.YtcffpnlochillaaGreatDoorProg
import Derived.KernelRfl
set_option linter.unusedVariables false
set_option linter.unusedSimpArgs false
set_option maxRecDepth 100000
set_option maxHeartbeats 4000000
section
namespace Go.Proofs.YtcffpnlochillaaGreatDoor.PvW
open Go Go.RowKit Go.Proofs Go.Proofs.YtcffpnlochillaaGreatDoor.Cd Go.Proofs.YtcffpnlochillaaGreatDoor.Ab Go.Proofs.YtcffpnlochillaaGreatDoor.AbP Go.Proofs.YtcffpnlochillaaGreatDoor.Num Go.Proofs.YtcffpnlochillaaGreatDoor.Pv
set_option maxHeartbeats 1000000 in
set_option maxRecDepth 100000 in
theorem idx_calls (b o n c:Nat) (xs:List Int) (cv:Int) (w:World) (hx:xs.length=n)
    (hc:∀ i,i < n→w.cell? ⟨b,o+i,none⟩=some (.int .u8 (xs.getD i 0))) :
    Calls Tryz.prog 173 #[.slice (some ⟨b,o,none⟩) n c,.int .u8 cv] w fun e w'=>e = .returned (.int .i64 (Lib.indexByte (Lib.bytesOf xs) cv.toNat.toUInt8))∧w'=w:=by
  go_enter Tryz.func173,Tryz.ntmps173
  go_wp2
  rw [run_callFunc_extern Tryz.func177 (by kernel_rfl) (by kernel_rfl) (by kernel_rfl) (e:=Extern.BytealgIndexByte.indexByte) (by kernel_rfl),Lib.run_indexByteSlice w b o n c xs hx hc cv]
  simp only [Result.andThen]
  rw [Oper.upon_value]
  go_wp2
  go_ret
  exact ⟨rfl,rfl⟩
theorem rel_spot {R:AR} {h:Hp} {w:World} (hr:Rel R h w) {a a':Addr} {v:Value} (ha:AddrR R a a') (hs:a.spot=none) (hc:h.cell? a=some v):a'.spot=none:=by
  cases ha with
  | old _ hb=>exact hs
  | new b o cb cs cc hb hrho=>rfl
  | dead _ _ hb hd =>
    unfold Hp.cell? at hc
    rw [if_neg (by rw [← hr.base];omega)] at hc
    cases hk:h.blk? a.block with
    | none=>simp [hk] at hc
    | some k =>
      obtain ⟨k2,h2,h3⟩:=(hr.dead _ hd).2
      rw [hk] at h2
      obtain rfl:=Option.some.inj h2
      simp [hk,h3] at hc
  | junk _ _ hb hs2=>rw [hs] at hs2;cases hs2
theorem slR_addr {R:AR} {a a':Addr} {n c c':Nat} (h:SlR R a n c a' c') (hs:a.spot=none):AddrR R a a':=by
  cases h with
  | old _ _ _ hb=>exact .old _ hb
  | new b o n c cb cs cc c' hb hr=>exact .new _ _ _ _ _ hb hr
  | dead _ _ _ _ _ hb hd=>exact .dead _ _ hb hd
  | junk _ _ _ hb hs2=>rw [hs] at hs2;cases hs2
theorem enc_u8 (b:List Int):b.flatMap (D.enc (.int .u8))=byV b:=by
  induction b with
  | nil=>rfl
  | cons x b ih=>rw [List.flatMap_cons,ih];rfl
theorem idx_spec {K:PV→List OB→Prop} {b:List Int} {c:Int} (hb:Om (0 < b.length)) (hk:K (.int .i64 (Lib.indexByte (Lib.bytesOf b) c.toNat.toUInt8)) []) :
    PCalls Tryz.prog 173 [.sl (.int .u8) b,.int .u8 c] [] K:=by
  intro h E i vs S A
  obtain ⟨v1,t1,rfl,P1,A⟩:=A.uncons
  obtain ⟨v2,t2,rfl,P2,A⟩:=A.uncons
  obtain rfl:t2=[]:=List.eq_nil_of_length_eq_zero A.1.symm
  cases P2
  obtain ⟨A1,c1,rw,rfl,hc1,hr,hch⟩:=P1.sl_inv'
  have hbl:=hb.o
  rw [Chunks_flat (d:=.int .u8) rfl b rw hch,enc_u8] at hr
  obtain ⟨a,rfl⟩:=rowV_some hr hbl
  obtain ⟨fn,cc,h1,h2,h3,h4,h5,h6⟩:=bytes_IndexByte.told
  refine ⟨⟨fn,h1,h2,by rw [h3];rfl⟩,fun R w args' hR hV=>?_⟩
  obtain ⟨u1,t1,rfl,V1,hV⟩:=hV.uncons
  obtain ⟨u2,t2,rfl,V2,hV⟩:=hV.uncons
  obtain rfl:t2=[]:=List.eq_nil_of_length_eq_zero hV.1.symm
  have e2:u2 = .int .u8 c:=by cases V2;rfl
  subst e2
  have key:∃ a' c',u1 = .slice (some a') b.length c'∧SlR R a b.length c1 a' c':=by
    cases V1 with
    | sl _ a' _ _ c' hs=>exact ⟨a',c',rfl,hs⟩
  obtain ⟨a',c',rfl,hs⟩:=key
  have hspot:a.spot=none:=rowV_spot hr (by rw [byV_len];exact hbl)
  have hA:=slR_addr hs hspot
  have hcell:∀ j,j < b.length→h.cell? (a.add j)=some (.int .u8 (b.getD j 0)):=fun j hj=>(mask_cell.1 (rowV_cell hr (byV_get hj))).1
  have hw:∀ j,j < b.length→w.cell? (a'.add j)=some (.int .u8 (b.getD j 0)):=fun j hj=>by
    obtain ⟨v',q1,q2,_⟩:=hR.cell (hA.add (fun hh=>by rw [hspot] at hh;cases hh.2) j) (hcell j hj)
    cases q2
    exact q1
  have hc0:=hcell 0 hbl
  have ea:a.add 0=a:=by
    obtain ⟨x,y,z⟩:=a
    obtain rfl:z=none:=hspot
    exact add_b x y 0
  rw [ea] at hc0
  have hsp:=rel_spot hR hA hspot hc0
  obtain ⟨x,y,z⟩:=a'
  obtain rfl:z=none:=hsp
  refine (idx_calls x y b.length c' b c w rfl (fun j hj=>by rw [← add_b];exact hw j hj)).mono fun e w' ⟨he,hw'⟩=>?_
  subst he hw'
  exact ⟨_,_,h,R,⟨_,[],E,i,hk,S,.int _ _⟩,rfl,.int _ _,.refl hR⟩
end Go.Proofs.YtcffpnlochillaaGreatDoor.PvW
end
section
namespace Go.Proofs.YtcffpnlochillaaGreatDoor.PvW
open Go.RowKit Go.Proofs.YtcffpnlochillaaGreatDoor.Cd Go.Proofs.YtcffpnlochillaaGreatDoor.AbP Go.Proofs.YtcffpnlochillaaGreatDoor.Num Go.Proofs.YtcffpnlochillaaGreatDoor.Pv
abbrev dSeg:Ab.D:=(.st (.cons (.int .u32) (.cons (.int .u32) (.cons (.int .u64) (.cons (.int .u64) (.cons (.int .u64) (.cons (.int .u64) (.cons (.st (.cons (.int .i64) (.cons (.int .u64) (.cons (.int .u64) (.cons (.sl (.int .u8)) .nil))))) .nil))))))))
abbrev dSec:Ab.D:=(.st (.cons (.int .u32) (.cons (.int .u32) (.cons (.int .u64) (.cons (.int .u64) (.cons (.int .u64) (.cons (.int .u32) (.cons (.int .u32) (.cons (.int .u64) (.cons (.int .u64) (.cons (.st (.cons (.int .i64) (.cons (.int .u64) (.cons (.int .u64) (.cons (.sl (.int .u8)) .nil))))) .nil)))))))))))

def placeOk (segs:List dSeg.T) (i off sz:Int) (own:List Int):Bool :=
  if i = -1 then decide (off=0) && decide (sz=own.length)
  else if i < 0∨(segs.length:Int)≤i then false
  else match segs[i.toNat]? with
    | none=>false
    | some s=>decide (@Eq Int s.1 1) && decide (own.length=0) && decide (sz≠0) && withinB off sz s.2.2.2.2.2.2.1.2.2.2.1.length
section
variable {K:PV→List OB→Prop} {w big:Bool} {o ab ty ma fl en st:Int} {segs:List dSeg.T} {secs:List dSec.T}
theorem place_spec {i off sz:Int} {own:List Int} (ho:Om (0≤off∧off≤18446744073709551615)) (hl:Om (segs.length≤1000000∧own.length≤1000000)) (hL:∀ s ∈ segs,s.2.2.2.2.2.2.1.2.2.2.1.length≤1000000) (hk:K (.bool (placeOk segs i off sz own)) []) :
    PCalls Tryz.prog 143 [.agg [.bool w,.bool big,.int .u8 o,.int .u8 ab,.int .u16 ty,.int .u16 ma,.int .u32 fl,.int .u64 en,.sl dSeg segs,.sl dSec secs,.int .i64 st],.agg [.int .i64 i,.int .u64 off,.int .u64 sz,.sl (.int .u8) own]] [] K:=by
  have ho:=ho.o
  have hl:=hl.o
  refine told_callP model_place.told fun Z hZ=>?_
  unfold model_place.c
  unfold placeOk at hk
  by_cases h1:i = -1
  · rw [if_pos h1] at hk
    by_cases h2:off=0
    · simp only [decide_eq_true h2,Bool.true_and] at hk
      refine W1 trivial @DD trivial ?_
      exact hk
    · simp only [decide_eq_false h2,Bool.false_and] at hk
      refine W1 trivial @DD trivial ?_
      exact hk
  rw [if_neg h1] at hk
  by_cases h2:i < 0∨(segs.length:Int)≤i
  · rw [if_pos h2] at hk
    by_cases h3:i < 0
    · refine W1 trivial @DD trivial ?_
      exact hk
    · have h2:(segs.length:Int)≤i:=by omega
      refine W1 trivial @DD trivial ?_
      exact hk
  rw [if_neg h2] at hk
  obtain ⟨s,hs⟩:∃ s,segs[i.toNat]? = some s:=⟨segs[i.toNat]'(by omega),List.getElem?_eq_getElem (by omega)⟩
  rw [hs] at hk
  have hsl:=hL s (List.mem_of_getElem? hs)
  obtain ⟨sty,sfl,sva,spa,sme,sal,⟨si,so,sz',sown,u⟩,u2⟩:=s
  dsimp only at hk hsl
  by_cases h3:@Eq Int sty 1
  · rw [decide_eq_true h3] at hk
    by_cases h4:own.length=0
    · rw [decide_eq_true h4] at hk
      by_cases h5:sz=0
      · simp only [h5,ne_eq,not_true_eq_false,decide_false,Bool.false_and,Bool.and_false,Bool.true_and] at hk
        refine W1 trivial @DD trivial ?_
        exact hk
      · simp only [h5,ne_eq,not_false_eq_true,decide_true,Bool.true_and] at hk
        refine W1 trivial @DD @within_spec ?_
        exact hk
    · simp only [decide_eq_false h4,Bool.and_false,Bool.false_and] at hk
      refine W1 trivial @DD trivial ?_
      exact hk
  · simp only [decide_eq_false h3,Bool.false_and] at hk
    refine W1 trivial @DD trivial ?_
    exact hk
end
end Go.Proofs.YtcffpnlochillaaGreatDoor.PvW
end
section
namespace Go.Proofs.YtcffpnlochillaaGreatDoor.PvW
open Go.RowKit Go.Proofs.YtcffpnlochillaaGreatDoor.AbP Go.Proofs.YtcffpnlochillaaGreatDoor.Num Go.Proofs.YtcffpnlochillaaGreatDoor.Pv
def rowB (big:Bool) (p:List (Int×Int)):List Int:=p.flatMap fun q=>putSpec q.1 q.2 big
def rowOk (p:List (Int×Int)):Bool:=p.all fun q=>fitsB q.1 q.2
theorem rowB_le (big:Bool):∀ p:List (Int×Int),(rowB big p).length≤8 * p.length
  | []=>by simp [rowB]
  | q :: p => by
    have:=rowB_le big p
    have h:=putSpec_le q.1 q.2 big
    show (putSpec q.1 q.2 big++rowB big p).length≤_
    rw [List.length_append,List.length_cons]
    omega
theorem rowB_B (big:Bool) (p:List (Int×Int)):B (rowB big p):=by
  intro x hx
  obtain ⟨q,_,hq⟩:=List.mem_flatMap.1 hx
  exact putSpec_B _ _ _ x hq
theorem getD_mem {l:List Int} {i:Nat} (h:i < l.length):l.getD i 0 ∈ l:=by
  rw [List.getD_eq_getElem?_getD,List.getElem?_eq_getElem h]
  exact List.getElem_mem h
def numsAt (b:List Int) (big:Bool):Int→List Int→List Int→List Int×Bool
  | _,acc,[]=>(acc,true)
  | a,acc,n::ns=>if (getSpec b a n big).2=true then numsAt b big (a+n) (acc++[(getSpec b a n big).1]) ns else ([],false)
theorem getSpec_true {b:List Int} {a n:Int} {big:Bool} (h:(getSpec b a n big).2=true):wideB n=true∧a+n≤b.length:=by
  unfold getSpec at h
  by_cases c:wideB n=true∧a+n≤b.length
  · exact c
  · rw [if_neg c] at h
    exact absurd h (by simp)

def gets (b:List Int) (big:Bool):Int→List Int→List Int
  | _,[]=>[]
  | a,n::ns=>(getSpec b a n big).1::gets b big (a+n) ns
def sumL:List Int→Int
  | []=>0
  | n::ns=>n+sumL ns
theorem sumL_ge:∀ {ns:List Int},(∀ n ∈ ns,wideB n=true)→0≤sumL ns
  | [],_=>Int.le_refl _
  | n :: ns, h => by
    have:=sumL_ge (ns:=ns) (fun x hx=>h x (by simp [hx]))
    obtain ⟨m,rfl,h1,_⟩:=wide_nat (h n (by simp))
    show 0≤(m:Int)+sumL ns
    omega
theorem getSpec_ok {b:List Int} {a n:Int} {big:Bool} (hw:wideB n=true):(getSpec b a n big).2=decide (a+n≤b.length):=by
  unfold getSpec
  by_cases c:a+n≤b.length
  · rw [if_pos ⟨hw,c⟩];simp [c]
  · rw [if_neg (fun h=>c h.2)];simp [c]
theorem numsAt_ok {b:List Int} {big:Bool}:∀ {ns:List Int} {a:Int} {acc:List Int},(∀ n ∈ ns,wideB n=true)→a+sumL ns≤b.length→numsAt b big a acc ns=(acc++gets b big a ns,true)
  | [],a,acc,_,_=>by simp [numsAt,gets]
  | n :: ns, a, acc, hw, h => by
    have hge:=sumL_ge (ns:=ns) (fun x hx=>hw x (by simp [hx]))
    have h':a+(n+sumL ns)≤b.length:=h
    unfold numsAt
    rw [getSpec_ok (hw n (by simp)),if_pos (by simp;omega),numsAt_ok (fun x hx=>hw x (by simp [hx])) (by omega)]
    simp [gets]
def wd (w:Bool):Int:=if w=true then 8 else 4
theorem wd_wide (w:Bool):wideB (wd w)=true:=by cases w <;> rfl
theorem wd_le (w:Bool):wd w≤8∧4≤wd w:=by cases w <;> decide
def prs (n:Int) (l:List Int):List (Int×Int):=l.map fun v=>(v,n)
theorem prs_take {n:Int} {l:List Int} {i:Nat} (h:i < l.length):prs n (l.take (i+1))=prs n (l.take i)++[(l.getD i 0,n)]:=by
  rw [take_snoc h]
  simp [prs]
theorem rowB_app (big:Bool) (p q:List (Int×Int)):rowB big (p++q)=rowB big p++rowB big q:=by simp [rowB]
theorem rowOk_app (p q:List (Int×Int)):rowOk (p++q)=(rowOk p && rowOk q):=by simp [rowOk]
end Go.Proofs.YtcffpnlochillaaGreatDoor.PvW
end
section
namespace Go.Proofs.YtcffpnlochillaaGreatDoor.Cd
open Go.Proofs.YtcffpnlochillaaGreatDoor.Ab
def bezantref04_Word.c:AC:=(.seq (.reg [xF 1 (.box (T 0)),xF 2 (.mv (xZ 0))]) (.seq (.seq (.reg [xF 3 (.fad 0 (T 1)),xF 4 (.ld none (T 3))]) (.cond (T 4) (.seq (.reg [xF 2 (.mv (xZ 8))]) .ret) .skip)) (.seq (.reg [xF 2 (.mv (xZ 4))]) .ret)))
theorem bezantref04_Word.told:IsTold Tryz.prog 113 5 bezantref04_Word.c [(.tmp 2)]:=⟨Tryz.f113,_,Tryz.func113,by kernel_rfl,rfl,rfl,by kernel_rfl,by kernel_rfl⟩
def bezantref04_Numbers.c:AC:=(.seq (.reg [xF 8 (.mv (C (.slice none 0 0))),xF 9 (.mv (C (.bool false)))]) (.seq (.reg [xF 10 (.mv (C (.slice none 0 0)))]) (.seq (.seq (.reg [xF 11 (.mv (xZ 0))]) (.block 0 (.loop (.seq (.seq (.reg [xM 14 11,xM 15 2,xF 16 (.len false (T 15)),xF 17 (.bin .lss (T 14) (T 16))]) (.cond (T 17) .skip (.exit 0))) (.seq (.block 1 (.seq (.reg [xM 21 0,xM 22 1,xM 23 2,xM 24 11,xF 25 (.iad 1 (T 23) (T 24)),xF 26 (.ld none (T 25)),xM 27 3,xE 28 (.cal (.func 114) [(T 21),(T 22),(T 26),(T 27)]),xM 20 28,xX 29 20 0,xX 30 20 1,xM 12 29,xM 13 30]) (.seq (.seq (.reg [xM 31 13,xF 32 (.un .not (T 31))]) (.cond (T 32) (.seq (.reg [xF 8 (.mv (C (.slice none 0 0))),xF 9 (.mv (C (.bool false)))]) .ret) .skip)) (.seq (.reg [xM 33 10,xM 34 12,xF 35 (.bsl 1 [(T 34)]),xE 36 (.app 1 8 (T 33) (T 35)),xM 10 36]) (.reg [xM 37 1,xM 38 2,xM 39 11,xF 40 (.iad 1 (T 38) (T 39)),xF 41 (.ld none (T 40)),xF 42 (.cvt .u64 (T 41)),xF 43 (.bin .add (T 37) (T 42)),xM 1 43]))))) (.reg [xM 18 11,xF 19 (.bin .add (T 18) (xZ 1)),xM 11 19])))))) (.seq (.reg [xM 44 10,xM 8 44,xF 9 (.mv (C (.bool true)))]) .ret))))
theorem bezantref04_Numbers.told:IsTold Tryz.prog 59 45 bezantref04_Numbers.c [(.tmp 8),(.tmp 9)]:=⟨Tryz.f59,_,Tryz.func59,by kernel_rfl,rfl,rfl,by kernel_rfl,by kernel_rfl⟩
def bezantref04_Sizes.c:AC:=(.seq (.reg [xF 1 (.box (T 0)),xF 2 (.mv (xZ 0)),xF 3 (.mv (xZ 0)),xF 4 (.mv (xZ 0))]) (.seq (.seq (.reg [xF 5 (.fad 0 (T 1)),xF 6 (.ld none (T 5))]) (.cond (T 6) (.seq (.reg [xF 2 (.mv (xZ 64)),xF 3 (.mv (xZ 56)),xF 4 (.mv (xZ 64))]) .ret) .skip)) (.seq (.reg [xF 2 (.mv (xZ 52)),xF 3 (.mv (xZ 32)),xF 4 (.mv (xZ 40))]) .ret)))
theorem bezantref04_Sizes.told:IsTold Tryz.prog 33 7 bezantref04_Sizes.c [(.tmp 2),(.tmp 3),(.tmp 4)]:=⟨Tryz.f33,_,Tryz.func33,by kernel_rfl,rfl,rfl,by kernel_rfl,by kernel_rfl⟩
def bezantref04_Sum.c:AC:=(.seq (.reg [xF 2 (.mv (xZ 0))]) (.seq (.reg [xF 3 (.mv (xZ 0))]) (.seq (.seq (.reg [xF 4 (.mv (xZ 0))]) (.block 0 (.loop (.seq (.seq (.reg [xM 5 4,xM 6 0,xF 7 (.len false (T 6)),xF 8 (.bin .lss (T 5) (T 7))]) (.cond (T 8) .skip (.exit 0))) (.seq (.block 1 (.reg [xM 11 3,xM 12 0,xM 13 4,xF 14 (.iad 1 (T 12) (T 13)),xF 15 (.ld none (T 14)),xF 16 (.bin .add (T 11) (T 15)),xM 3 16])) (.reg [xM 9 4,xF 10 (.bin .add (T 9) (xZ 1)),xM 4 10])))))) (.seq (.reg [xM 17 3,xM 2 17]) .ret))))
theorem bezantref04_Sum.told:IsTold Tryz.prog 60 18 bezantref04_Sum.c [(.tmp 2)]:=⟨Tryz.f60,_,Tryz.func60,by kernel_rfl,rfl,rfl,by kernel_rfl,by kernel_rfl⟩
def bezantlaw00_Spot.c:AC:=(.seq (.reg [xF 2 (.mv (xZ 0)),xF 3 (.mv (xZ 0))]) (.seq (.seq (.reg [xM 6 0,xF 7 (.eqI false (T 6) (C .nilIface))]) (.cond (T 7) (.seq (.reg [xF 2 (.mv (xZ 0)),xF 3 (.mv (xZ 0))]) .ret) .skip)) (.seq (.reg [xM 9 0,xF 10 (.tas 131 true (.pointer none) (T 9)),xM 8 10,xX 11 8 0,xX 12 8 1,xM 4 11,xM 5 12]) (.seq (.seq (.reg [xM 13 5,xM 14 13,xN 15 14 true 4,xG 16 14 true (.eqN 0 true (T 15) (C (.pointer none))),xF 17 (.pick (T 14) (T 16) (C (.bool false)))]) (.cond (T 17) (.seq (.reg [xM 18 4,xF 19 (.chk (T 18)),xF 20 (.fad 1 (T 19)),xF 21 (.ld none (T 20)),xM 22 4,xF 23 (.chk (T 22)),xF 24 (.fad 0 (T 23)),xF 25 (.ld none (T 24)),xM 2 21,xM 3 25]) .ret) .skip)) (.seq (.reg [xM 26 0,xE 27 (.cal (.func 27) [(T 26)]),xM 2 27,xF 3 (.mv (C (.int .i64 (-1))))]) .ret)))))
theorem bezantlaw00_Spot.told:IsTold Tryz.prog 24 28 bezantlaw00_Spot.c [(.tmp 2),(.tmp 3)]:=⟨Tryz.f24,_,Tryz.func24,by kernel_rfl,rfl,rfl,by kernel_rfl,by kernel_rfl⟩
end Go.Proofs.YtcffpnlochillaaGreatDoor.Cd
end
section
namespace Go.Proofs.YtcffpnlochillaaGreatDoor.PvW
open Go.RowKit Go.Proofs.YtcffpnlochillaaGreatDoor.Cd Go.Proofs.YtcffpnlochillaaGreatDoor.AbP Go.Proofs.YtcffpnlochillaaGreatDoor.Num Go.Proofs.YtcffpnlochillaaGreatDoor.Pv
variable {K:PV→List OB→Prop}
theorem nums_spec {b ns:List Int} {a:Int} {big:Bool} (hB:Am (B b)) (hb:Om (b.length≤1000000000000)) (hm:Om (ns.length≤1000)) (ha:Om (0≤a∧a≤18446744073709551615))
    (hk1:(numsAt b big a [] ns).2=true→K (.tup [.osl 0 (numsAt b big a [] ns).1.length,.bool true]) [.arr (.int .u64) (numsAt b big a [] ns).1]) (hk2:(numsAt b big a [] ns).2=false→K (.tup [.nilS,.bool false]) []) :
    PCalls Tryz.prog 59 [.sl (.int .u8) b,.int .u64 a,.sl (.int .i64) ns,.bool big] [] K:=by
  refine told_callP bezantref04_Numbers.told fun Z hZ=>?_
  unfold bezantref04_Numbers.c
  replace hB:=hB.o
  replace hb:=hb.o
  replace hm:=hm.o
  replace ha:=ha.o
  refine W1 trivial trivial trivial ?_
  apply x_virt 10 (.int .u64);(repeat any_goals first | exact mp_z | apply mp_s | exact rs_z | apply rs_t | apply rs_n | apply rs_c);(repeat any_goals first | (apply Lk.i;(simp only [↓LL,↓reduceIte,Nat.reduceEqDiff];(try rfl);done)) | (apply Rf.i;first | rfl | assumption) | (apply Vl.i;((try simp (disch:=omega) only [VV,↓reduceIte,peqI,encP]);(try rfl);done)) | (apply Am.i;assumption) | (apply Pu.i;((try simp only [↓reduceIte,UU,RR,Nat.reduceAdd,Nat.reduceEqDiff,cellsP,putP,fillQ,flatQ,shP,sh1,encP]);(try rfl);done)) | (apply Om.i;((try simp only [MM]);(try omega);done)) | (apply Vw.i;exact VwA));(all_goals fail_if_success apply Mk.i)
  refine w_lpG (fun q e s=>∃ i:Nat,q+i=ns.length∧∃ a' acc,s=[.arr (.int .u64) acc]∧acc.length=i∧(0≤a'∧a'≤18446744073709551615)∧numsAt b big a' acc (ns.drop i)=numsAt b big a [] ns∧e 0 = .sl (.int .u8) b∧e 1 = .int .u64 a'∧e 2 = .sl (.int .i64) ns∧e 3 = .bool big∧e 10 = .osl 0 i∧e 11 = .int .i64 i) ns.length ?_ ?_
  · exact ⟨0,rfl,a,[],rfl,rfl,ha,rfl,by exact lk trivial,by exact lk trivial,by exact lk trivial,by exact lk trivial,by exact lk trivial,by exact lk trivial⟩
  rintro q e s ⟨i,hi,a',acc,rfl,hacc,ha',hR,e0,e1,e2,e3,e10,e11⟩
  by_cases hq:i < ns.length
  · have hd:ns.drop i=ns.getD i 0::ns.drop (i+1):=by
      rw [List.drop_eq_getElem_cons hq,List.getD_eq_getElem?_getD,List.getElem?_eq_getElem hq]
      rfl
    rw [hd] at hR
    simp only [numsAt] at hR
    cases hg:(getSpec b a' (ns.getD i 0) big).2
    · rw [hg,if_neg (by simp)] at hR
      refine W1 (And.intro @e0 (And.intro @e1 (And.intro @e2 (And.intro @e3 (And.intro @e10 (And.intro @e11 @hg)))))) @DD @rget_spec ?_
      exact hk2 (by rw [← hR])
    · rw [hg,if_pos rfl] at hR
      obtain ⟨hw,hle⟩:=getSpec_true hg
      obtain ⟨m,hm',h1,h2⟩:=wide_nat hw
      refine W1 (And.intro @e0 (And.intro @e1 (And.intro @e2 (And.intro @e3 (And.intro @e10 (And.intro @e11 @hg)))))) (And.intro @DD @hm') @rget_spec ?_
      rw [hm'] at hle
      refine ⟨q - 1,by omega,_,_,Gh.sel [0] (by decide) (hz0 hZ),i+1,by omega,a'+ns.getD i 0,acc++[(getSpec b a' (ns.getD i 0) big).1],by rw [hm'];rfl,by simp [hacc],⟨by omega,by omega⟩,hR,by exact lk @e0,by rw [hm'];exact lk @e1,by exact lk @e2,by exact lk @e3,?_,by exact lk @e11⟩
      simp only [↓LL,↓reduceIte,Nat.reduceEqDiff,hacc,UU]
      rfl
  · obtain rfl:i=ns.length:=by omega
    rw [List.drop_length] at hR
    simp only [numsAt] at hR
    refine W1 (And.intro @e0 (And.intro @e1 (And.intro @e2 (And.intro @e3 (And.intro @e10 @e11))))) @DD trivial ?_
    have:=hk1 (by rw [← hR])
    rw [← hR] at this
    simp only [hacc] at this
    exact this
theorem word4_spec {w b:Bool} (hk:K (.int .i64 (wd w)) []):PCalls Tryz.prog 113 [.agg [.bool w,.bool b]] [] K:=by
  refine told_callP bezantref04_Word.told fun Z hZ=>?_
  unfold bezantref04_Word.c
  cases w
  all_goals
    refine W1 trivial trivial trivial ?_
    exact hk
theorem sizes_spec {w b:Bool} (hk:K (.tup [.int .i64 (if w=true then 64 else 52),.int .i64 (if w=true then 56 else 32),.int .i64 (if w=true then 64 else 40)]) []):PCalls Tryz.prog 33 [.agg [.bool w,.bool b]] [] K:=by
  refine told_callP bezantref04_Sizes.told fun Z hZ=>?_
  unfold bezantref04_Sizes.c
  cases w
  all_goals
    refine W1 trivial trivial trivial ?_
    exact hk
abbrev eCode (c:Int):PV:=.ifc 96 (.int .i64 c)
end Go.Proofs.YtcffpnlochillaaGreatDoor.PvW
end
