/- A heap of plain values, walks over it, and functions of the program met by them: no statement of the set is proved in this text. -/
import Derived.Test.YtcffpnlochillaaKb24
import Derived.Test.YtcffpnlochillaaKb36
import Derived.Test.YtcffpnlochillaaKb45
set_option linter.unusedVariables false
set_option linter.unusedSimpArgs false
set_option maxRecDepth 100000
set_option maxHeartbeats 4000000
section
namespace Go.Proofs.Ytcffpnlochillaa.PvW
open Go.RowKit Go.Proofs.Ytcffpnlochillaa.Cd Go.Proofs.Ytcffpnlochillaa.AbP Go.Proofs.Ytcffpnlochillaa.Num Go.Proofs.Ytcffpnlochillaa.Pv
theorem wU16 (n:Int):IntKind.u16.wrap n=n % 65536:=by simp [IntKind.wrap,IntKind.signed,IntKind.bits]
section
variable {K:PV→List OB→Prop} {w big:Bool} {o ab ty ma fl en st:Int} {segs:List dSeg.T} {secs:List dSec.T}
theorem fheader_spec {ph sh sz:Int} {S T:List Int} (hl:Om (segs.length≤16∧secs.length≤64∧0≤st∧st≤64)) (hk:K (.agg [.bool w,.bool big,.int .u8 o,.int .u8 ab,.int .u16 ty,.int .u16 ma,.int .u64 en,.int .u64 ph,.int .u64 sh,.int .u32 fl,.int .u16 segs.length,.int .u16 (shN secs),.int .u16 st]) []) :
    PCalls Try.prog 14 [.agg [.bool w,.bool big,.int .u8 o,.int .u8 ab,.int .u16 ty,.int .u16 ma,.int .u32 fl,.int .u64 en,.sl dSeg segs,.sl dSec secs,.int .i64 st],.agg [.int .u64 ph,.int .u64 sh,.int .u64 sz,.sl (.int .u64) S,.sl (.int .u64) T]] [] K:=by
  have hl:=hl.o
  refine told_callP file_header.told fun Z hZ=>?_
  unfold file_header.c
  have h1:IntKind.wrap .u16 (segs.length:Int)=segs.length:=by rw [wU16];omega
  have h2:IntKind.wrap .u16 st=st:=by rw [wU16];omega
  have h3:IntKind.wrap .u16 ((secs.length:Int)+1)=(secs.length:Int)+1:=by rw [wU16];omega
  by_cases h0:secs.length=0
  · have e:shN secs=0:=if_pos h0
    rw [e] at hk
    refine W1 trivial (And.intro @DD (And.intro @h1 (And.intro @h2 @h3))) trivial ?_
    exact hk
  · have e:shN secs=secs.length+1:=if_neg h0
    rw [e] at hk
    refine W1 trivial (And.intro @DD (And.intro @h1 (And.intro @h2 @h3))) trivial ?_
    exact hk
theorem ftables_spec (ok:ModelOk w en segs secs st) (hG:SegsN segs) (hN:SecsN secs) (hGF:SegsF segs) (hNF:SecsF secs) (po:PlanOk w segs secs) {ph sh sz:Int} {S T:List Int} (hS:S=(planV w segs secs).S) (hT:T=(planV w segs secs).T)
    (hk:∀ sb,sb=(if secs.length=0 then [] else sectsB w big T secs)→K (.tup [.osl 0 (progsB w big S segs).length,.osl 1 sb.length,.nilI]) [.arr (.int .u8) (progsB w big S segs),.arr (.int .u8) sb]) :
    PCalls Try.prog 15 [.agg [.bool w,.bool big,.int .u8 o,.int .u8 ab,.int .u16 ty,.int .u16 ma,.int .u32 fl,.int .u64 en,.sl dSeg segs,.sl dSec secs,.int .i64 st],.agg [.int .u64 ph,.int .u64 sh,.int .u64 sz,.sl (.int .u64) S,.sl (.int .u64) T]] [] K:=by
  have l16:=ok.l16
  have l64:=ok.l64
  have hSl:S.length=segs.length:=by rw [hS];exact po.lS
  have hTl:T.length=secs.length:=by rw [hT];exact po.lT
  have rows:∀ {i:Nat} {s:dSeg.T},segs[i]? = some s→rowOk (progX w (s,S.getD i 0))=true∧0≤S.getD i 0∧S.getD i 0≤65536∧(0≤sizG s∧sizG s≤65536):=fun {i s} hs=>by
    have h:=segG_place ok hG po hs
    have hz:=po.size
    rw [hS]
    exact ⟨(row_seg ok hG hGF po hs).1,h.1,by omega,h.2.1,by omega⟩
  have rowc:∀ {i:Nat} {s:dSec.T},secs[i]? = some s→rowOk (sectX w (s,T.getD i 0))=true∧0≤T.getD i 0∧T.getD i 0≤65536:=fun {i s} hs=>by
    have h:=secC_place ok hG hN po hs
    have hz:=po.size
    rw [hT]
    exact ⟨(row_sec ok hG hN hNF po hs).1,h.1,by omega⟩
  clear hS hT
  refine told_callP file_tables.told fun Z hZ=>?_
  unfold file_tables.c
  refine W1 trivial @DD trivial ?_
  apply x_virt 8 (.int .u8);(repeat any_goals first | exact mp_z | apply mp_s | exact rs_z | apply rs_t | apply rs_n | apply rs_c);(repeat any_goals first | (apply Lk.i;(simp only [↓LL,↓reduceIte,Nat.reduceEqDiff];(try rfl);done)) | (apply Rf.i;first | rfl | assumption) | (apply Vl.i;((try simp (disch:=omega) only [VV,↓reduceIte,peqI,encP]);(try rfl);done)) | (apply Am.i;assumption) | (apply Pu.i;((try simp only [↓reduceIte,UU,RR,Nat.reduceAdd,Nat.reduceEqDiff,cellsP,putP,fillQ,flatQ,shP,sh1,encP]);(try rfl);done)) | (apply Om.i;((try simp only [MM]);(try omega);done)) | (apply Vw.i;exact VwA));(all_goals fail_if_success apply Mk.i)
  refine w_lpG (fun q e s=>∃ i:Nat,q+i=segs.length∧s=[.var [.bool w,.bool big,.int .u8 o,.int .u8 ab,.int .u16 ty,.int .u16 ma,.int .u32 fl,.int .u64 en,.sl dSeg segs,.sl dSec secs,.int .i64 st],.var [.int .u64 ph,.int .u64 sh,.int .u64 sz,.sl (.int .u64) S,.sl (.int .u64) T],.var [.bool w,.bool big],.arr (.int .u8) (recB big (progX w) ((segs.zip S).take i))]∧e 2 = .ptr 0 0∧e 3 = .ptr 1 0∧e 7 = .ptr 2 0∧e 8 = .osl 3 (recB big (progX w) ((segs.zip S).take i)).length∧e 9 = .nilS∧e 22 = .sl dSeg segs∧e 23 = .int .i64 segs.length∧e 24 = .int .i64 i) segs.length ?_ ?_
  · exact ⟨0,rfl,rfl,by exact lk trivial,by exact lk trivial,by exact lk trivial,by exact lk trivial,by exact lk trivial,by exact lk trivial,by exact lk trivial,by exact lk trivial⟩
  rintro q e s ⟨i,hi,rfl,e2,e3,e7,e8,e9,e22,e23,e24⟩
  by_cases hq:i < segs.length
  · obtain ⟨x,hx⟩:∃ x,segs[i]? = some x:=⟨segs[i],List.getElem?_eq_getElem hq⟩
    obtain ⟨hro,hs0,hs1,-⟩:=rows hx
    have hx0:=hG x (List.mem_of_getElem? hx)
    have hxf:=hGF x (List.mem_of_getElem? hx)
    have htk:=recB_take (big:=big) (P:=progX w) (zip_at hSl hx)
    have hrl:=recB_len (big:=big) (P:=progX w) (progX_len w big) ((segs.zip S).take i)
    have hrm:((segs.zip S).take i).length * (psz w).toNat≤1000:=by
      have h1:((segs.zip S).take i).length≤16:=by rw [List.length_take,List.length_zip];omega
      calc _ ≤ 16 * (psz w).toNat := Nat.mul_le_mul_right _ h1
        _≤1000:=by cases w <;> decide
    rw [← hrl] at hrm
    generalize recB big (progX w) ((segs.zip S).take i)=G at *
    obtain ⟨sty,sfl,sva,spa,sme,sal,⟨si,so,sz',sown,u⟩,u2⟩:=x
    obtain ⟨nty,nva,npa,nme,nal,noff,nsz,now,nbo⟩:=hx0
    have hxf:0≤sfl∧sfl≤(4294967295:Int):=hxf
    have hgx:progX w ((sty,sfl,sva,spa,sme,sal,(si,so,sz',sown,u),u2),S.getD i 0)=progP w sty sfl (S.getD i 0) sva spa sz' sme sal:=rfl
    rw [hgx] at htk hro
    refine W1 (And.intro @e2 (And.intro @e3 (And.intro @e7 (And.intro @e8 (And.intro @e9 (And.intro @e22 (And.intro @e23 @e24))))))) @DD trivial ?_
    refine pput_spec ⟨?_⟩ ⟨nty.2⟩ ⟨hxf.2⟩ (fun _=>?_) (fun h=>absurd h (by rw [hro];simp))
    · simp only [List.forall_mem_cons,U64]
      exact ⟨⟨nty.1,Int.le_trans nty.2 (by decide)⟩,⟨hxf.1,Int.le_trans hxf.2 (by decide)⟩,⟨hs0,by omega⟩,nva,npa,nsz,nme,nal,fun _ h=>by cases h⟩
    have hpl:(rowB big (progP w sty sfl (S.getD i 0) sva spa sz' sme sal)).length≤64:=by
      have:=progX_len w big ((sty,sfl,sva,spa,sme,sal,(si,so,sz',sown,u),u2),S.getD i 0)
      rw [hgx] at this
      rw [this]
      cases w <;> decide
    generalize rowB big (progP w sty sfl (S.getD i 0) sva spa sz' sme sal)=R at *
    refine W1 (And.intro @e2 (And.intro @e3 (And.intro @e7 (And.intro @e8 (And.intro @e9 (And.intro @e22 (And.intro @e23 @e24))))))) @DD trivial ?_
    exact ⟨q - 1,by omega,_,_,Gh.sel [0,1,2,3] (by decide) (hz0 hZ),i+1,by omega,by rw [htk];rfl,by exact lk @e2,by exact lk @e3,by exact lk @e7,by rw [htk,List.length_append];exact lk @e8,by exact lk @e9,by exact lk @e22,by exact lk @e23,by exact lk @e24⟩
  obtain rfl:i=segs.length:=by omega
  have htl:(segs.zip S).take segs.length=segs.zip S:=List.take_of_length_le (by rw [List.length_zip];omega)
  rw [htl] at e8 ⊢
  have hPB:recB big (progX w) (segs.zip S)=progsB w big S segs:=rfl
  rw [hPB] at e8 ⊢
  have hpbl:(progsB w big S segs).length≤1000:=by
    have:=progsB_len (w:=w) (big:=big) hSl
    have h2:psz w * (segs.length:Int)≤1000:=by cases w <;> simp only [psz,Bool.false_eq_true,↓reduceIte] <;> omega
    omega
  generalize progsB w big S segs=PB at *
  clear rows
  have hwz:0≤ssz w∧ssz w≤64:=by cases w <;> decide
  have hzn:(ssz w).toNat=(zrow w).length:=(zrow_len w).symm
  refine W1 (And.intro @e2 (And.intro @e3 (And.intro @e7 (And.intro @e8 (And.intro @e9 (And.intro @e22 (And.intro @e23 @e24))))))) @DD @ssize_spec ?_
  refine ps_cut (fun e s=>(∃ zb k,zb=(if secs.length=0 then [] else zrow w)∧s=[.var [.bool w,.bool big,.int .u8 o,.int .u8 ab,.int .u16 ty,.int .u16 ma,.int .u32 fl,.int .u64 en,.sl dSeg segs,.sl dSec secs,.int .i64 st],.var [.int .u64 ph,.int .u64 sh,.int .u64 sz,.sl (.int .u64) S,.sl (.int .u64) T],.var [.bool w,.bool big],.arr (.int .u8) PB,.arr (.int .u8) zb]∧k=zb.length∧e 9 = .osl 4 k)∧e 2 = .ptr 0 0∧e 3 = .ptr 1 0∧e 7 = .ptr 2 0∧e 8 = .osl 3 PB.length) (fun h=>?_) (fun h=>?_) ?_
  · have h0:¬ secs.length=0:=by have:=of_decide_eq_true h;omega
    refine W1 (And.intro @e2 (And.intro @e3 (And.intro @e7 (And.intro @e8 (And.intro @e9 (And.intro @e22 (And.intro @e23 @e24))))))) (And.intro @DD @hwz) @ssize_spec ?_
    exact ⟨_,_,Gh.sel [0,1,2,3,4] (by decide) (hz0 hZ),⟨zrow w,(ssz w).toNat,(if_neg h0).symm,rfl,hzn,by exact lk trivial⟩,by exact lk @e2,by exact lk @e3,by exact lk @e7,by exact lk @e8⟩
  · have h0:secs.length=0:=by have:=of_decide_eq_false h;omega
    apply x_virt 9 (.int .u8);(repeat any_goals first | exact mp_z | apply mp_s | exact rs_z | apply rs_t | apply rs_n | apply rs_c);(repeat any_goals first | (apply Lk.i;(simp only [↓LL,↓reduceIte,Nat.reduceEqDiff,e9];(try rfl);done)) | (apply Rf.i;first | rfl | assumption) | (apply Vl.i;((try simp (disch:=omega) only [VV,↓reduceIte,peqI,encP,e9]);(try rfl);done)) | (apply Am.i;assumption) | (apply Pu.i;((try simp only [↓reduceIte,UU,RR,Nat.reduceAdd,Nat.reduceEqDiff,cellsP,putP,fillQ,flatQ,shP,sh1,encP]);(try rfl);done)) | (apply Om.i;((try simp only [MM]);(try omega);done)) | (apply Vw.i;exact VwA));(all_goals fail_if_success apply Mk.i)
    refine W1 (And.intro @e2 (And.intro @e3 (And.intro @e7 (And.intro @e8 (And.intro @e9 (And.intro @e22 (And.intro @e23 @e24))))))) @DD trivial ?_
    exact ⟨_,_,Gh.sel [0,1,2,3,4] (by decide) (hz0 hZ),⟨[],0,(if_pos h0).symm,rfl,rfl,by exact lk trivial⟩,by exact lk @e2,by exact lk @e3,by exact lk @e7,by exact lk @e8⟩
  clear e2 e3 e7 e8 e9 e22 e23 e24
  rintro e s ⟨⟨zb,k,hzb,rfl,rfl,e9⟩,e2,e3,e7,e8⟩
  have hzl:zb.length≤64:=by
    rw [hzb]
    split
    · exact Nat.zero_le _
    · rw [zrow_len];cases w <;> decide
  have hk:K (.tup [.osl 0 PB.length,.osl 1 (zb++recB big (sectX w) (secs.zip T)).length,.nilI]) [.arr (.int .u8) PB,.arr (.int .u8) (zb++recB big (sectX w) (secs.zip T))]:=hk _ (by
    rw [hzb]
    by_cases h0:secs.length=0
    · rw [if_pos h0,if_pos h0,List.eq_nil_of_length_eq_zero h0];rfl
    · rw [if_neg h0,if_neg h0];rfl)
  clear hzb
  refine W1 (And.intro @e2 (And.intro @e3 (And.intro @e7 (And.intro @e8 @e9)))) @DD trivial ?_
  refine w_lpG (fun q e s=>∃ i:Nat,q+i=secs.length∧s=[.var [.bool w,.bool big,.int .u8 o,.int .u8 ab,.int .u16 ty,.int .u16 ma,.int .u32 fl,.int .u64 en,.sl dSeg segs,.sl dSec secs,.int .i64 st],.var [.int .u64 ph,.int .u64 sh,.int .u64 sz,.sl (.int .u64) S,.sl (.int .u64) T],.var [.bool w,.bool big],.arr (.int .u8) PB,.arr (.int .u8) (zb++recB big (sectX w) ((secs.zip T).take i))]∧e 2 = .ptr 0 0∧e 3 = .ptr 1 0∧e 7 = .ptr 2 0∧e 8 = .osl 3 PB.length∧e 9 = .osl 4 (zb++recB big (sectX w) ((secs.zip T).take i)).length∧e 70 = .sl dSec secs∧e 71 = .int .i64 secs.length∧e 72 = .int .i64 i) secs.length ?_ ?_
  · exact ⟨0,rfl,by rw [List.take_zero];show _=[_,_,_,_,OB.arr (.int .u8) (zb++[])];rw [List.append_nil],by exact lk @e2,by exact lk @e3,by exact lk @e7,by exact lk @e8,by rw [List.take_zero];show _=PV.osl 4 (zb++[]).length;rw [List.append_nil];exact lk @e9,by exact lk trivial,by exact lk trivial,by exact lk trivial⟩
  clear e2 e3 e7 e8 e9
  rintro q e s ⟨i,hi,rfl,e2,e3,e7,e8,e9,e70,e71,e72⟩
  by_cases hq:i < secs.length
  · obtain ⟨x,hx⟩:∃ x,secs[i]? = some x:=⟨secs[i],List.getElem?_eq_getElem hq⟩
    obtain ⟨hro,hs0,hs1⟩:=rowc hx
    have hx0:=hN x (List.mem_of_getElem? hx)
    have hxf:=hNF x (List.mem_of_getElem? hx)
    have htk:zb++recB big (sectX w) ((secs.zip T).take (i+1))=(zb++recB big (sectX w) ((secs.zip T).take i))++rowB big (sectX w (x,T.getD i 0)):=by rw [recB_take (zip_at hTl hx),List.append_assoc]
    have hrm:(zb++recB big (sectX w) ((secs.zip T).take i)).length≤5000:=by
      rw [List.length_append,recB_len (sectX_len w big)]
      have h1:((secs.zip T).take i).length≤64:=by rw [List.length_take,List.length_zip];omega
      have:((secs.zip T).take i).length * (ssz w).toNat≤64 * 64:=Nat.mul_le_mul h1 (by cases w <;> decide)
      omega
    generalize zb++recB big (sectX w) ((secs.zip T).take i)=G at *
    obtain ⟨nm,sty,sfl,sad,ssi,sli,ssf,sal,sen,⟨si,so,sz',sown,u⟩,u2⟩:=x
    obtain ⟨nnm,nty,nfl,nad,nsi,nli,nal,nen,noff,nsz,now,nbo⟩:=hx0
    have hxf:0≤ssf∧ssf≤(4294967295:Int):=hxf
    have hgx:sectX w ((nm,sty,sfl,sad,ssi,sli,ssf,sal,sen,(si,so,sz',sown,u),u2),T.getD i 0)=secP w nm sty sfl sad (T.getD i 0) ssi sli ssf sal sen:=rfl
    rw [hgx] at htk hro
    refine W1 (And.intro @e2 (And.intro @e3 (And.intro @e7 (And.intro @e8 (And.intro @e9 (And.intro @e70 (And.intro @e71 @e72))))))) @DD trivial ?_
    refine sput_spec ⟨?_⟩ (fun _=>?_) (fun h=>absurd h (by rw [hro];simp))
    · simp only [List.forall_mem_cons,U64]
      exact ⟨⟨nnm.1,Int.le_trans nnm.2 (by decide)⟩,⟨nty.1,Int.le_trans nty.2 (by decide)⟩,nfl,nad,⟨hs0,by omega⟩,nsi,⟨nli.1,Int.le_trans nli.2 (by decide)⟩,⟨hxf.1,Int.le_trans hxf.2 (by decide)⟩,nal,nen,fun _ h=>by cases h⟩
    have hpl:(rowB big (secP w nm sty sfl sad (T.getD i 0) ssi sli ssf sal sen)).length≤64:=by
      have:=sectX_len w big ((nm,sty,sfl,sad,ssi,sli,ssf,sal,sen,(si,so,sz',sown,u),u2),T.getD i 0)
      rw [hgx] at this
      rw [this]
      cases w <;> decide
    generalize rowB big (secP w nm sty sfl sad (T.getD i 0) ssi sli ssf sal sen)=R at *
    refine W1 (And.intro @e2 (And.intro @e3 (And.intro @e7 (And.intro @e8 (And.intro @e9 (And.intro @e70 (And.intro @e71 @e72))))))) @DD trivial ?_
    exact ⟨q - 1,by omega,_,_,Gh.sel [0,1,2,3,4] (by decide) (hz0 hZ),i+1,by omega,by rw [htk];rfl,by exact lk @e2,by exact lk @e3,by exact lk @e7,by exact lk @e8,by rw [htk,List.length_append];exact lk @e9,by exact lk @e70,by exact lk @e71,by exact lk @e72⟩
  obtain rfl:i=secs.length:=by omega
  rw [List.take_of_length_le (show (secs.zip T).length≤secs.length by rw [List.length_zip];omega)] at e9 ⊢
  refine W1 (And.intro @e2 (And.intro @e3 (And.intro @e7 (And.intro @e8 (And.intro @e9 (And.intro @e70 (And.intro @e71 @e72))))))) @DD trivial ?_
  exact hk
end
end Go.Proofs.Ytcffpnlochillaa.PvW
end
