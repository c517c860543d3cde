/- A heap of plain values, walks over it, and functions of the program met by them: no statement of the set is proved in this text. -/
import Derived.Test.YtcffpnlochillaaKb09
import Derived.Test.YtcffpnlochillaaKb17
import Derived.Test.YtcffpnlochillaaKb30
import Derived.Test.YtcffpnlochillaaKb31
import Derived.Test.YtcffpnlochillaaKb32
import Derived.Test.YtcffpnlochillaaKb33
set_option linter.unusedVariables false
set_option linter.unusedSimpArgs false
set_option maxRecDepth 100000
set_option maxHeartbeats 4000000
section
namespace Go.Proofs.Ytcffpnlochillaa.PvW
open Go.RowKit Go.Proofs.Ytcffpnlochillaa.Cd Go.Proofs.Ytcffpnlochillaa.AbP Go.Proofs.Ytcffpnlochillaa.Num Go.Proofs.Ytcffpnlochillaa.Pv
abbrev dRegI:Ab.D:=(.st (.cons (.int .u64) (.cons (.int .u64) (.cons (.int .u32) (.cons (.sl (.int .u8)) .nil)))))

def imF (s:dSeg.T):List dRegI.T:=if @Eq Int s.1 1 then [((s.2.2.1,s.2.2.2.2.1,s.2.1,s.2.2.2.2.2.2.1.2.2.2.1,PUnit.unit):dRegI.T)] else []
def imL (l:List dSeg.T):List dRegI.T:=l.flatMap imF
theorem im_snoc {l:List dSeg.T} {i:Nat} {x:dSeg.T} (hx:l[i]? = some x):imL (l.take (i+1))=imL (l.take i)++imF x:=by
  unfold imL
  rw [List.take_add_one,hx,List.flatMap_append]
  simp
theorem im_len:∀ l:List dSeg.T,(imL l).length≤l.length
  | []=>Nat.le_refl _
  | x :: l => by
    have:=im_len l
    show (imF x++imL l).length≤_
    rw [List.length_append,List.length_cons]
    unfold imF
    split
    · simp only [List.length_cons,List.length_nil];omega
    · simp only [List.length_nil];omega
def atP:List dRegI.T→Int→Int×Int×Bool
  | [],_=>(0,0,false)
  | r :: l, a => if @LT.lt Int _ a r.1 ∨ @LE.le Int _ r.2.1 (a - r.1) then atP l a
    else if a - r.1 < (r.2.2.2.1.length:Int) then (List.getD r.2.2.2.1 (a - r.1).toNat 0,r.2.2.1,true) else (0,r.2.2.1,true)
section
variable {K:PV→List OB→Prop} {w big:Bool} {o ab ty ma en fl st:Int} {segs:List dSeg.T} {secs:List dSec.T}
theorem iat_spec {l:List dRegI.T} {a:Int} (ha:0≤a∧a≤18446744073709551615) (hl:l.length≤1000) (hL:∀ r ∈ l,(0:Int)≤r.1∧r.2.2.2.1.length≤1000000) (hk:K (.tup [.int .u8 (atP l a).1,.int .u32 (atP l a).2.1,.bool (atP l a).2.2]) []) :
    PCalls Try.prog 9 [.agg [.int .u64 en,.sl dRegI l],.int .u64 a] [] K:=by
  refine told_callP image_At.told fun Z hZ=>?_
  unfold image_At.c
  refine W1 trivial @DD trivial ?_
  refine w_lpG (fun q e s=>∃ i:Nat,q+i=l.length∧s=[.var [.int .u64 en,.sl dRegI l]]∧atP (l.drop i) a=atP l a∧e 1 = .int .u64 a∧e 2 = .ptr 0 0∧e 11 = .sl dRegI l∧e 12 = .int .i64 l.length∧e 13 = .int .i64 i) l.length ?_ ?_
  · exact ⟨0,rfl,rfl,rfl,by exact lk trivial,by exact lk trivial,by exact lk trivial,by exact lk trivial,by exact lk trivial⟩
  rintro q e s ⟨i,hi,rfl,hat,e1,e2,e11,e12,e13⟩
  by_cases hq:i < l.length
  · obtain ⟨x,hx⟩:∃ x,l[i]? = some x:=⟨l[i],List.getElem?_eq_getElem hq⟩
    have hx0:=hL x (List.mem_of_getElem? hx)
    have hd:l.drop i=x::l.drop (i+1):=by
      obtain ⟨h1,h2⟩:=List.getElem?_eq_some_iff.1 hx
      rw [← h2]
      exact List.drop_eq_getElem_cons h1
    rw [hd] at hat
    obtain ⟨ra,rs,rf,rb,u⟩:=x
    obtain ⟨ra,rfl⟩:∃ v:Int,v=ra:=⟨ra,rfl⟩
    obtain ⟨rs,rfl⟩:∃ v:Int,v=rs:=⟨rs,rfl⟩
    obtain ⟨rf,rfl⟩:∃ v:Int,v=rf:=⟨rf,rfl⟩
    obtain ⟨hx1,hx2⟩:0≤ra∧rb.length≤1000000:=hx0
    have hat:(if a < ra∨rs≤a - ra then atP (l.drop (i+1)) a else if a - ra < (rb.length:Int) then (List.getD rb (a - ra).toNat 0,rf,true) else (0,rf,true))=atP l a:=hat
    by_cases h1:a < ra
    · rw [if_pos (.inl h1)] at hat
      refine W1 (And.intro @e1 (And.intro @e2 (And.intro @e11 (And.intro @e12 @e13)))) @DD trivial ?_
      exact ⟨q - 1,by omega,_,_,Gh.sel [0] (by decide) (hz0 hZ),i+1,by omega,rfl,hat,by exact lk @e1,by exact lk @e2,by exact lk @e11,by exact lk @e12,by exact lk @e13⟩
    have hw:IntKind.wrap .u64 (a - ra)=a - ra:=by rw [wU64];omega
    by_cases h2:rs≤a - ra
    · rw [if_pos (.inr h2)] at hat
      refine W1 (And.intro @e1 (And.intro @e2 (And.intro @e11 (And.intro @e12 @e13)))) (And.intro @DD @hw) trivial ?_
      exact ⟨q - 1,by omega,_,_,Gh.sel [0] (by decide) (hz0 hZ),i+1,by omega,rfl,hat,by exact lk @e1,by exact lk @e2,by exact lk @e11,by exact lk @e12,by exact lk @e13⟩
    rw [if_neg (by omega)] at hat
    have hwl:IntKind.wrap .u64 (rb.length:Int)=rb.length:=by rw [wU64];omega
    by_cases h3:a - ra < (rb.length:Int)
    · rw [if_pos h3] at hat
      rw [← hat] at hk
      refine W1 (And.intro @e1 (And.intro @e2 (And.intro @e11 (And.intro @e12 @e13)))) (And.intro @DD (And.intro @hw @hwl)) trivial ?_
      exact hk
    · rw [if_neg h3] at hat
      rw [← hat] at hk
      refine W1 (And.intro @e1 (And.intro @e2 (And.intro @e11 (And.intro @e12 @e13)))) (And.intro @DD (And.intro @hw @hwl)) trivial ?_
      exact hk
  · rw [List.drop_eq_nil_of_le (by omega)] at hat
    rw [← hat] at hk
    refine W1 (And.intro @e1 (And.intro @e2 (And.intro @e11 (And.intro @e12 @e13)))) @DD trivial ?_
    exact hk
theorem rimI_spec {l:List dRegI.T} (hl:Om (l.length≤1000000)) (hL:∀ r ∈ l,r.2.2.2.1.length≤1000000) (hk:K (.bool true) []) :
    PCalls Try.prog 10 [.agg [.int .u64 en,.sl dRegI l],.agg [.int .u64 en,.sl dRegI l]] [] K:=by
  have hl:=hl.o
  refine told_callP bezantref14_SameImage.told fun Z hZ=>?_
  unfold bezantref14_SameImage.c
  have hbs:∀ s:List UInt8,(s == s)=true:=fun s=>beq_self_eq_true s
  refine W1 trivial @DD trivial ?_
  refine w_lpG (fun q e s=>∃ i:Nat,q+i=l.length∧s=[.var [.int .u64 en,.sl dRegI l],.var [.int .u64 en,.sl dRegI l]]∧e 2 = .ptr 0 0∧e 3 = .ptr 1 0∧e 5 = .int .i64 i) l.length ?_ ?_
  · exact ⟨0,rfl,rfl,by exact lk trivial,by exact lk trivial,by exact lk trivial⟩
  rintro q e s ⟨i,hi,rfl,e2,e3,e5⟩
  by_cases hq:i < l.length
  · obtain ⟨x,hx⟩:∃ x,l[i]? = some x:=⟨l[i],List.getElem?_eq_getElem hq⟩
    have hx0:=hL x (List.mem_of_getElem? hx)
    obtain ⟨ra,rs,rf,rb,u⟩:=x
    dsimp only at hx0
    refine W1 (And.intro @e2 (And.intro @e3 @e5)) (And.intro @DD @hbs) trivial ?_
    exact ⟨q - 1,by omega,_,_,Gh.sel [0,1] (by decide) (hz0 hZ),i+1,by omega,rfl,by exact lk @e2,by exact lk @e3,by exact lk @e5⟩
  refine W1 (And.intro @e2 (And.intro @e3 @e5)) @DD trivial ?_
  exact hk
theorem imI_spec (hl:Om (segs.length≤1000)) (hL:∀ s ∈ segs,s.2.2.2.2.2.2.1.2.2.2.1.length≤1000000) (hk:K (.agg [.int .u64 en,.sl dRegI (imL segs)]) []) :
    PCalls Try.prog 8 [.agg [.bool w,.bool big,.int .u8 o,.int .u8 ab,.int .u16 ty,.int .u16 ma,.int .u32 fl,.int .u64 en,.sl dSeg segs,.sl dSec secs,.int .i64 st]] [] K:=by
  have hl:=hl.o
  refine told_callP image_Model.told fun Z hZ=>?_
  unfold image_Model.c
  refine W1 trivial @DD trivial ?_
  apply x_virtV 2 1 dRegI;(repeat any_goals first | exact mp_z | apply mp_s | exact rs_z | apply rs_t | apply rs_n | apply rs_c);(repeat any_goals first | (apply Lk.i;(simp only [↓LL,↓reduceIte,Nat.reduceEqDiff];(try rfl);done)) | (apply Rf.i;first | rfl | assumption) | (apply Vl.i;((try simp (disch:=omega) only [VV,↓reduceIte,peqI,encP]);(try rfl);done)) | (apply Am.i;assumption) | (apply Pu.i;((try simp only [↓reduceIte,UU,RR,Nat.reduceAdd,Nat.reduceEqDiff,cellsP,putP,fillQ,flatQ,shP,sh1,encP]);(try rfl);done)) | (apply Om.i;((try simp only [MM]);(try omega);done)) | (apply Vw.i;exact VwA));(all_goals fail_if_success apply Mk.i)
  refine w_lpG (fun q e s=>∃ i:Nat,q+i=segs.length∧s=[.var [.bool w,.bool big,.int .u8 o,.int .u8 ab,.int .u16 ty,.int .u16 ma,.int .u32 fl,.int .u64 en,.sl dSeg segs,.sl dSec secs,.int .i64 st],.var [.int .u64 0,.nilS],.var [.int .u64 en,.osl 3 (imL (segs.take i)).length],.arr dRegI (imL (segs.take i))]∧e 1 = .ptr 0 0∧e 2 = .ptr 1 0∧e 3 = .ptr 2 0∧e 10 = .sl dSeg segs∧e 11 = .int .i64 segs.length∧e 12 = .int .i64 i) segs.length ?_ ?_
  · exact ⟨0,rfl,rfl,by exact lk trivial,by exact lk trivial,by exact lk trivial,by exact lk trivial,by exact lk trivial,by exact lk trivial⟩
  rintro q e s ⟨i,hi,rfl,e1,e2,e3,e10,e11,e12⟩
  by_cases hq:i < segs.length
  · obtain ⟨x,hx⟩:∃ x,segs[i]? = some x:=⟨segs[i],List.getElem?_eq_getElem hq⟩
    have hx0:=hL x (List.mem_of_getElem? hx)
    have hsn:=im_snoc hx
    have hil:=im_len (segs.take i)
    rw [List.length_take] at hil
    generalize imL (segs.take i)=G at *
    obtain ⟨sty,sfl,sva,spa,sme,sal,⟨si,so,sz,sown,u⟩,u2⟩:=x
    dsimp only at hx0
    by_cases h1:@Eq Int sty 1
    · have hsn:imL (segs.take (i+1))=G++[(sva,sme,sfl,sown,PUnit.unit)]:=hsn.trans (congrArg (G++·) (if_pos h1))
      refine W1 (And.intro @e1 (And.intro @e2 (And.intro @e3 (And.intro @e10 (And.intro @e11 @e12))))) @DD @fclone_spec ?_
      refine W1 (And.intro @e1 (And.intro @e2 (And.intro @e3 (And.intro @e10 (And.intro @e11 @e12))))) @DD (@oArr 5 dRegI) ?_
      exact ⟨q - 1,by omega,_,_,Gh.sel [0,1,2,3] (by decide) (hz0 hZ),i+1,by omega,by rw [hsn,List.length_append];rfl,by exact lk @e1,by exact lk @e2,by exact lk @e3,by exact lk @e10,by exact lk @e11,by exact lk @e12⟩
    · have hsn:imL (segs.take (i+1))=G:=hsn.trans ((congrArg (G++·) (if_neg h1)).trans (List.append_nil G))
      refine W1 (And.intro @e1 (And.intro @e2 (And.intro @e3 (And.intro @e10 (And.intro @e11 @e12))))) @DD trivial ?_
      exact ⟨q - 1,by omega,_,_,Gh.sel [0,1,2,3] (by decide) (hz0 hZ),i+1,by omega,by rw [hsn];rfl,by exact lk @e1,by exact lk @e2,by exact lk @e3,by exact lk @e10,by exact lk @e11,by exact lk @e12⟩
  obtain rfl:i=segs.length:=by omega
  rw [List.take_length]
  refine Wn1 (And.intro @e1 (And.intro @e2 (And.intro @e3 (And.intro @e10 (And.intro @e11 @e12))))) @DD trivial ?_
  refine ghW (Gh.frzC (b:=1) (j:=1) (b':=3) (D':=dRegI) (l:=imL segs) rfl rfl rfl rfl) ?_
  refine W1 (And.intro @e1 (And.intro @e2 (And.intro @e3 (And.intro @e10 (And.intro @e11 @e12))))) @DD trivial ?_
  exact hk
end
end Go.Proofs.Ytcffpnlochillaa.PvW
end
section
namespace Go.Proofs.Ytcffpnlochillaa.PvW
open Go.RowKit Go.Proofs.Ytcffpnlochillaa.Cd Go.Proofs.Ytcffpnlochillaa.AbP Go.Proofs.Ytcffpnlochillaa.Num Go.Proofs.Ytcffpnlochillaa.Pv
abbrev powN (n:Nat):Prop:=n &&& (n - 1)=0
theorem powN_half {n:Nat} (h1:1 < n) (h2:n % 2=0):powN n ↔ powN (n / 2):=by
  unfold powN
  have h3:=Nat.and_div_two (a:=n) (b:=n - 1)
  rw [show (n - 1) / 2=n / 2 - 1 by omega] at h3
  have h4:(n &&& (n - 1)) % 2=0:=by
    rw [← Nat.one_and_eq_mod_two,← Nat.and_assoc,Nat.one_and_eq_mod_two,h2,Nat.zero_and]
  omega
theorem powN_odd {n:Nat} (h2:¬ (1 < n∧n % 2=0)):powN n ↔ n≤1:=by
  unfold powN
  have h3:=Nat.and_div_two (a:=n) (b:=n - 1)
  constructor
  · intro h
    rw [h] at h3
    by_cases h1:1 < n
    · rw [show (n - 1) / 2=n / 2 by omega,Nat.and_self] at h3
      omega
    · omega
  · intro h
    have:n=0∨n=1:=by omega
    rcases this with rfl | rfl <;> rfl
theorem andI_pow {al:Int} (h:0≤al∧al≤18446744073709551615):andI al ((al - 1) % 18446744073709551616)=0 ↔ powN al.toNat:=by
  unfold powN
  by_cases h0:al=0
  · subst h0
    rw [show ((0:Int) - 1) % 18446744073709551616=18446744073709551615 by decide,andI_nat ⟨by omega,by omega⟩ ⟨by omega,by omega⟩]
    simp
  · rw [Int.emod_eq_of_lt (by omega) (by omega),andI_nat ⟨h.1,by omega⟩ ⟨by omega,by omega⟩,show (al - 1).toNat=al.toNat - 1 by omega]
    omega
section
variable {K:PV→List OB→Prop} {w big:Bool} {o ab ty ma fl en st:Int} {segs:List dSeg.T} {secs:List dSec.T}
end
end Go.Proofs.Ytcffpnlochillaa.PvW
end
