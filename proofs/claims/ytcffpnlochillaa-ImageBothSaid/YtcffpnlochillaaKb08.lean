/- A heap of plain values, walks over it, and functions of the program met by them: no statement of the set is proved in this text. -/
import Derived.Test.YtcffpnlochillaaKb03
import Derived.Test.YtcffpnlochillaaKb06
import Derived.Test.YtcffpnlochillaaKb07
import Derived.Lib.Strings
import Derived.Lib.Walk
import Derived.WalkKit
import Derived.Lib.BytesEntry
import Derived.Test.YtcffpnlochillaaProg
import Derived.KernelRfl
set_option linter.unusedVariables false
set_option linter.unusedSimpArgs false
set_option maxRecDepth 100000
set_option maxHeartbeats 4000000
section
namespace Go.Proofs.Ytcffpnlochillaa.PvW
open Go Go.RowKit Go.Proofs Go.Proofs.Ytcffpnlochillaa.Cd Go.Proofs.Ytcffpnlochillaa.Ab Go.Proofs.Ytcffpnlochillaa.AbP Go.Proofs.Ytcffpnlochillaa.Num Go.Proofs.Ytcffpnlochillaa.Pv
set_option maxHeartbeats 1000000 in
set_option maxRecDepth 100000 in
theorem idx_calls (b o n c:Nat) (xs:List Int) (cv:Int) (w:World) (hx:xs.length=n)
    (hc:∀ i,i < n→w.cell? ⟨b,o+i,none⟩=some (.int .u8 (xs.getD i 0))) :
    Calls Try.prog 61 #[.slice (some ⟨b,o,none⟩) n c,.int .u8 cv] w fun e w'=>e = .returned (.int .i64 (Lib.indexByte (Lib.bytesOf xs) cv.toNat.toUInt8))∧w'=w:=by
  go_enter Try.func61,Try.ntmps61
  go_wp2
  rw [run_callFunc_extern Try.func66 (by kernel_rfl) (by kernel_rfl) (by kernel_rfl) (e:=Extern.BytealgIndexByte.indexByte) (by kernel_rfl),Lib.run_indexByteSlice w b o n c xs hx hc cv]
  simp only [Result.andThen]
  rw [Oper.upon_value]
  go_wp2
  go_ret
  exact ⟨rfl,rfl⟩
theorem rel_spot {R:AR} {h:Hp} {w:World} (hr:Rel R h w) {a a':Addr} {v:Value} (ha:AddrR R a a') (hs:a.spot=none) (hc:h.cell? a=some v):a'.spot=none:=by
  cases ha with
  | old _ hb=>exact hs
  | new b o cb cs cc hb hrho=>rfl
  | dead _ _ hb hd =>
    unfold Hp.cell? at hc
    rw [if_neg (by rw [← hr.base];omega)] at hc
    cases hk:h.blk? a.block with
    | none=>simp [hk] at hc
    | some k =>
      obtain ⟨k2,h2,h3⟩:=(hr.dead _ hd).2
      rw [hk] at h2
      obtain rfl:=Option.some.inj h2
      simp [hk,h3] at hc
  | junk _ _ hb hs2=>rw [hs] at hs2;cases hs2
theorem slR_addr {R:AR} {a a':Addr} {n c c':Nat} (h:SlR R a n c a' c') (hs:a.spot=none):AddrR R a a':=by
  cases h with
  | old _ _ _ hb=>exact .old _ hb
  | new b o n c cb cs cc c' hb hr=>exact .new _ _ _ _ _ hb hr
  | dead _ _ _ _ _ hb hd=>exact .dead _ _ hb hd
  | junk _ _ _ hb hs2=>rw [hs] at hs2;cases hs2
theorem enc_u8 (b:List Int):b.flatMap (D.enc (.int .u8))=byV b:=by
  induction b with
  | nil=>rfl
  | cons x b ih=>rw [List.flatMap_cons,ih];rfl
theorem idx_spec {K:PV→List OB→Prop} {b:List Int} {c:Int} (hb:Om (0 < b.length)) (hk:K (.int .i64 (Lib.indexByte (Lib.bytesOf b) c.toNat.toUInt8)) []) :
    PCalls Try.prog 61 [.sl (.int .u8) b,.int .u8 c] [] K:=by
  intro h E i vs S A
  obtain ⟨v1,t1,rfl,P1,A⟩:=A.uncons
  obtain ⟨v2,t2,rfl,P2,A⟩:=A.uncons
  obtain rfl:t2=[]:=List.eq_nil_of_length_eq_zero A.1.symm
  cases P2
  obtain ⟨A1,c1,rw,rfl,hc1,hr,hch⟩:=P1.sl_inv'
  have hbl:=hb.o
  rw [Chunks_flat (d:=.int .u8) rfl b rw hch,enc_u8] at hr
  obtain ⟨a,rfl⟩:=rowV_some hr hbl
  obtain ⟨fn,cc,h1,h2,h3,h4,h5,h6⟩:=bytes_IndexByte.told
  refine ⟨⟨fn,h1,h2,by rw [h3];rfl⟩,fun R w args' hR hV=>?_⟩
  obtain ⟨u1,t1,rfl,V1,hV⟩:=hV.uncons
  obtain ⟨u2,t2,rfl,V2,hV⟩:=hV.uncons
  obtain rfl:t2=[]:=List.eq_nil_of_length_eq_zero hV.1.symm
  have e2:u2 = .int .u8 c:=by cases V2;rfl
  subst e2
  have key:∃ a' c',u1 = .slice (some a') b.length c'∧SlR R a b.length c1 a' c':=by
    cases V1 with
    | sl _ a' _ _ c' hs=>exact ⟨a',c',rfl,hs⟩
  obtain ⟨a',c',rfl,hs⟩:=key
  have hspot:a.spot=none:=rowV_spot hr (by rw [byV_len];exact hbl)
  have hA:=slR_addr hs hspot
  have hcell:∀ j,j < b.length→h.cell? (a.add j)=some (.int .u8 (b.getD j 0)):=fun j hj=>(mask_cell.1 (rowV_cell hr (byV_get hj))).1
  have hw:∀ j,j < b.length→w.cell? (a'.add j)=some (.int .u8 (b.getD j 0)):=fun j hj=>by
    obtain ⟨v',q1,q2,_⟩:=hR.cell (hA.add (fun hh=>by rw [hspot] at hh;cases hh.2) j) (hcell j hj)
    cases q2
    exact q1
  have hc0:=hcell 0 hbl
  have ea:a.add 0=a:=by
    obtain ⟨x,y,z⟩:=a
    obtain rfl:z=none:=hspot
    exact add_b x y 0
  rw [ea] at hc0
  have hsp:=rel_spot hR hA hspot hc0
  obtain ⟨x,y,z⟩:=a'
  obtain rfl:z=none:=hsp
  refine (idx_calls x y b.length c' b c w rfl (fun j hj=>by rw [← add_b];exact hw j hj)).mono fun e w' ⟨he,hw'⟩=>?_
  subst he hw'
  exact ⟨_,_,h,R,⟨_,[],E,i,hk,S,.int _ _⟩,rfl,.int _ _,.refl hR⟩
end Go.Proofs.Ytcffpnlochillaa.PvW
end
section
namespace Go.Proofs.Ytcffpnlochillaa.PvW
open Go.RowKit Go.Proofs.Ytcffpnlochillaa.Cd Go.Proofs.Ytcffpnlochillaa.AbP Go.Proofs.Ytcffpnlochillaa.Num Go.Proofs.Ytcffpnlochillaa.Pv
abbrev dSeg:Ab.D:=(.st (.cons (.int .u32) (.cons (.int .u32) (.cons (.int .u64) (.cons (.int .u64) (.cons (.int .u64) (.cons (.int .u64) (.cons (.st (.cons (.int .i64) (.cons (.int .u64) (.cons (.int .u64) (.cons (.sl (.int .u8)) .nil))))) .nil))))))))
abbrev dSec:Ab.D:=(.st (.cons (.int .u32) (.cons (.int .u32) (.cons (.int .u64) (.cons (.int .u64) (.cons (.int .u64) (.cons (.int .u32) (.cons (.int .u32) (.cons (.int .u64) (.cons (.int .u64) (.cons (.st (.cons (.int .i64) (.cons (.int .u64) (.cons (.int .u64) (.cons (.sl (.int .u8)) .nil))))) .nil)))))))))))

def placeOk (segs:List dSeg.T) (i off sz:Int) (own:List Int):Bool :=
  if i = -1 then decide (off=0) && decide (sz=own.length)
  else if i < 0∨(segs.length:Int)≤i then false
  else match segs[i.toNat]? with
    | none=>false
    | some s=>decide (@Eq Int s.1 1) && decide (own.length=0) && decide (sz≠0) && withinB off sz s.2.2.2.2.2.2.1.2.2.2.1.length
section
variable {K:PV→List OB→Prop} {w big:Bool} {o ab ty ma fl en st:Int} {segs:List dSeg.T} {secs:List dSec.T}
theorem place_spec {i off sz:Int} {own:List Int} (ho:Om (0≤off∧off≤18446744073709551615)) (hl:Om (segs.length≤1000000∧own.length≤1000000)) (hL:∀ s ∈ segs,s.2.2.2.2.2.2.1.2.2.2.1.length≤1000000) (hk:K (.bool (placeOk segs i off sz own)) []) :
    PCalls Try.prog 52 [.agg [.bool w,.bool big,.int .u8 o,.int .u8 ab,.int .u16 ty,.int .u16 ma,.int .u32 fl,.int .u64 en,.sl dSeg segs,.sl dSec secs,.int .i64 st],.agg [.int .i64 i,.int .u64 off,.int .u64 sz,.sl (.int .u8) own]] [] K:=by
  have ho:=ho.o
  have hl:=hl.o
  refine told_callP model_place.told fun Z hZ=>?_
  unfold model_place.c
  unfold placeOk at hk
  by_cases h1:i = -1
  · rw [if_pos h1] at hk
    by_cases h2:off=0
    · simp only [decide_eq_true h2,Bool.true_and] at hk
      refine W1 trivial @DD trivial ?_
      exact hk
    · simp only [decide_eq_false h2,Bool.false_and] at hk
      refine W1 trivial @DD trivial ?_
      exact hk
  rw [if_neg h1] at hk
  by_cases h2:i < 0∨(segs.length:Int)≤i
  · rw [if_pos h2] at hk
    by_cases h3:i < 0
    · refine W1 trivial @DD trivial ?_
      exact hk
    · have h2:(segs.length:Int)≤i:=by omega
      refine W1 trivial @DD trivial ?_
      exact hk
  rw [if_neg h2] at hk
  obtain ⟨s,hs⟩:∃ s,segs[i.toNat]? = some s:=⟨segs[i.toNat]'(by omega),List.getElem?_eq_getElem (by omega)⟩
  rw [hs] at hk
  have hsl:=hL s (List.mem_of_getElem? hs)
  obtain ⟨sty,sfl,sva,spa,sme,sal,⟨si,so,sz',sown,u⟩,u2⟩:=s
  dsimp only at hk hsl
  by_cases h3:@Eq Int sty 1
  · rw [decide_eq_true h3] at hk
    by_cases h4:own.length=0
    · rw [decide_eq_true h4] at hk
      by_cases h5:sz=0
      · simp only [h5,ne_eq,not_true_eq_false,decide_false,Bool.false_and,Bool.and_false,Bool.true_and] at hk
        refine W1 trivial @DD trivial ?_
        exact hk
      · simp only [h5,ne_eq,not_false_eq_true,decide_true,Bool.true_and] at hk
        refine W1 trivial @DD @within_spec ?_
        exact hk
    · simp only [decide_eq_false h4,Bool.and_false,Bool.false_and] at hk
      refine W1 trivial @DD trivial ?_
      exact hk
  · simp only [decide_eq_false h3,Bool.false_and] at hk
    refine W1 trivial @DD trivial ?_
    exact hk
end
end Go.Proofs.Ytcffpnlochillaa.PvW
end
section
namespace Go.Proofs.Ytcffpnlochillaa.PvW
open Go.RowKit Go.Proofs.Ytcffpnlochillaa.AbP Go.Proofs.Ytcffpnlochillaa.Num Go.Proofs.Ytcffpnlochillaa.Pv
def rowB (big:Bool) (p:List (Int×Int)):List Int:=p.flatMap fun q=>putSpec q.1 q.2 big
def rowOk (p:List (Int×Int)):Bool:=p.all fun q=>fitsB q.1 q.2
theorem rowB_le (big:Bool):∀ p:List (Int×Int),(rowB big p).length≤8 * p.length
  | []=>by simp [rowB]
  | q :: p => by
    have:=rowB_le big p
    have h:=putSpec_le q.1 q.2 big
    show (putSpec q.1 q.2 big++rowB big p).length≤_
    rw [List.length_append,List.length_cons]
    omega
theorem rowB_B (big:Bool) (p:List (Int×Int)):B (rowB big p):=by
  intro x hx
  obtain ⟨q,_,hq⟩:=List.mem_flatMap.1 hx
  exact putSpec_B _ _ _ x hq
theorem getD_mem {l:List Int} {i:Nat} (h:i < l.length):l.getD i 0 ∈ l:=by
  rw [List.getD_eq_getElem?_getD,List.getElem?_eq_getElem h]
  exact List.getElem_mem h
def gets (b:List Int) (big:Bool):Int→List Int→List Int
  | _,[]=>[]
  | a,n::ns=>(getSpec b a n big).1::gets b big (a+n) ns
def sumL:List Int→Int
  | []=>0
  | n::ns=>n+sumL ns
def wd (w:Bool):Int:=if w=true then 8 else 4
theorem wd_wide (w:Bool):wideB (wd w)=true:=by cases w <;> rfl
theorem wd_le (w:Bool):wd w≤8∧4≤wd w:=by cases w <;> decide
def prs (n:Int) (l:List Int):List (Int×Int):=l.map fun v=>(v,n)
theorem prs_take {n:Int} {l:List Int} {i:Nat} (h:i < l.length):prs n (l.take (i+1))=prs n (l.take i)++[(l.getD i 0,n)]:=by
  rw [take_snoc h]
  simp [prs]
theorem rowB_app (big:Bool) (p q:List (Int×Int)):rowB big (p++q)=rowB big p++rowB big q:=by simp [rowB]
theorem rowOk_app (p q:List (Int×Int)):rowOk (p++q)=(rowOk p && rowOk q):=by simp [rowOk]
end Go.Proofs.Ytcffpnlochillaa.PvW
end
section
namespace Go.Proofs.Ytcffpnlochillaa.Cd
open Go.Proofs.Ytcffpnlochillaa.Ab
def bezantlaw00_Code.c:AC:=(.seq (.reg [xF 2 (.mv (xZ 0))]) (.seq (.seq (.reg [xM 4 0,xF 5 (.eqI false (T 4) (C .nilIface))]) (.cond (T 5) (.seq (.reg [xF 2 (.mv (xZ 0))]) .ret) .skip)) (.seq (.seq (.reg [xF 3 (.mv (xZ 1))]) (.block 0 (.loop (.seq (.seq (.reg [xM 6 3,xF 7 (.bin .leq (T 6) (xZ 12))]) (.cond (T 7) .skip (.exit 0))) (.seq (.block 1 (.seq (.reg [xM 10 0,xM 11 3,xF 12 (.mkI 70 (T 11)),xF 13 (.eqI false (T 10) (T 12))]) (.cond (T 13) (.seq (.reg [xM 14 3,xM 2 14]) .ret) .skip))) (.reg [xM 8 3,xF 9 (.bin .add (T 8) (xZ 1)),xM 3 9])))))) (.seq (.reg [xF 2 (.mv (C (.int .i64 (-1))))]) .ret))))
theorem bezantlaw00_Code.told:IsTold Try.prog 11 15 bezantlaw00_Code.c [(.tmp 2)]:=⟨Try.f11,_,Try.func11,by kernel_rfl,rfl,rfl,by kernel_rfl,by kernel_rfl⟩
end Go.Proofs.Ytcffpnlochillaa.Cd
end
