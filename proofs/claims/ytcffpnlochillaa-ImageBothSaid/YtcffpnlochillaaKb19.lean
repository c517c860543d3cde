/- A heap of plain values, walks over it, and functions of the program met by them: no statement of the set is proved in this text. -/
import Derived.Test.YtcffpnlochillaaKb03
import Derived.Test.YtcffpnlochillaaKb09
import Derived.Test.YtcffpnlochillaaKb18
set_option linter.unusedVariables false
set_option linter.unusedSimpArgs false
set_option maxRecDepth 100000
set_option maxHeartbeats 4000000
section
namespace Go.Proofs.Ytcffpnlochillaa.PvW
open Go.RowKit Go.Proofs.Ytcffpnlochillaa.Cd Go.Proofs.Ytcffpnlochillaa.AbP Go.Proofs.Ytcffpnlochillaa.Num Go.Proofs.Ytcffpnlochillaa.Pv
variable {K:PV→List OB→Prop}
section
variable {p0 p1 p2 p3 p4 p5 p6 p7:Int}
def progP (w:Bool) (p0 p1 p2 p3 p4 p5 p6 p7:Int):List (Int×Int):=if w=true then prs 4 [p0,p1]++prs 8 [p2,p3,p4,p5,p6,p7] else prs 4 [p0,p2,p3,p4,p5,p6,p1,p7]
def progF (big:Bool) (p0 p1:Int) (l:List Int) (i:Nat):List Int:=putSpec p0 4 big++(if i≤5 then rowB big (prs 4 (l.take i)) else rowB big (prs 4 (l.take 5))++(putSpec p1 4 big++putSpec (l.getD 5 0) 4 big))
theorem rowB_prs_take {n:Int} {l:List Int} {i:Nat} (big:Bool) (h:i < l.length):rowB big (prs n (l.take (i+1)))=rowB big (prs n (l.take i))++putSpec (l.getD i 0) n big:=by
  rw [prs_take h,rowB_app]
  simp [rowB]
theorem rowB_prs_le {n:Int} {l:List Int} (big:Bool):(rowB big (prs n l)).length≤8 * l.length:=by
  have:=rowB_le big (prs n l)
  simpa [prs] using this
theorem rowOk_prs_bad {n:Int} {l:List Int} {i:Nat} (h:i < l.length) (hb:fitsB (l.getD i 0) n=false):rowOk (prs n l)=false:=by
  have hm:=getD_mem h
  cases hr:rowOk (prs n l) with
  | false=>rfl
  | true =>
    have:=List.all_eq_true.1 hr (l.getD i 0,n) (List.mem_map.2 ⟨_,hm,rfl⟩)
    rw [show fitsB (l.getD i 0) n=true from this] at hb
    cases hb
theorem progF_len (big:Bool) (p0 p1:Int) (l:List Int) (i:Nat) (hl:l.length=6):(progF big p0 p1 l i).length≤100:=by
  unfold progF
  have h0:=putSpec_le p0 4 big
  have h1:=putSpec_le p1 4 big
  have h2:=putSpec_le (l.getD 5 0) 4 big
  have h3:=rowB_prs_le (n:=4) (l:=l.take i) big
  have h4:=rowB_prs_le (n:=4) (l:=l.take 5) big
  simp only [List.length_take] at h3 h4
  split
  · simp only [List.length_append];omega
  · simp only [List.length_append];omega
theorem progF_lt {big:Bool} {p0 p1:Int} {l:List Int} {i:Nat} (hl:l.length=6) (h:i < 5):progF big p0 p1 l i++putSpec (l.getD i 0) 4 big=progF big p0 p1 l (i+1):=by
  unfold progF
  rw [if_pos (by omega),if_pos (by omega),rowB_prs_take big (by omega),List.append_assoc]
theorem progF_5 {big:Bool} {p0 p1:Int} {l:List Int} {i:Nat} (h:i=5):(progF big p0 p1 l i++putSpec p1 4 big)++putSpec (l.getD i 0) 4 big=progF big p0 p1 l (i+1):=by
  subst h
  unfold progF
  rw [if_pos (by omega),if_neg (by omega)]
  simp only [List.append_assoc]
theorem fits4' {x:Int} (h0:x≤4294967295):fitsB x 4=true:=by
  unfold fitsB
  rw [show wideB 4=true from rfl,Bool.true_and]
  exact decide_eq_true (by have : (256 : Int) ^ (4 : Int).toNat = 4294967296 := by decide
                           omega)
theorem fits8' {x:Int} (h0:U64 x):fitsB x 8=true:=by
  unfold fitsB
  rw [show wideB 8=true from rfl,Bool.true_and]
  exact decide_eq_true (by have : (256 : Int) ^ (8 : Int).toNat = 18446744073709551616 := by decide
                           have:=h0.2
                           omega)
theorem pput_spec {w big:Bool} (hU:Am (∀ x ∈ [p0,p1,p2,p3,p4,p5,p6,p7],U64 x)) (h0:Om (p0≤4294967295)) (h1:Om (p1≤4294967295))
    (hk1:rowOk (progP w p0 p1 p2 p3 p4 p5 p6 p7)=true→K (.tup [.osl 0 (rowB big (progP w p0 p1 p2 p3 p4 p5 p6 p7)).length,.nilI]) [.arr (.int .u8) (rowB big (progP w p0 p1 p2 p3 p4 p5 p6 p7))])
    (hk2:rowOk (progP w p0 p1 p2 p3 p4 p5 p6 p7)=false→K (.tup [.nilS,eCode 1]) []) :
    PCalls Try.prog 32 [.agg [.int .u32 p0,.int .u32 p1,.int .u64 p2,.int .u64 p3,.int .u64 p4,.int .u64 p5,.int .u64 p6,.int .u64 p7],.agg [.bool w,.bool big]] [] K:=by
  have hV:=hU.o
  simp only [List.forall_mem_cons,U64] at hV
  obtain ⟨g0,g1,g2,g3,g4,g5,g6,g7,_⟩:=hV
  replace hU:=hU.o
  replace h0:=h0.o
  replace h1:=h1.o
  refine told_callP prog_Put.told fun Z hZ=>?_
  unfold prog_Put.c
  have l0:=putSpec_le p0 4 big
  have l1:=putSpec_le p1 4 big
  have hz:∀ b,b < Z.s.length→[0,1,2,3,4][b]? = some b:=hz0 hZ
  obtain ⟨l,hl⟩:∃ l:List Int,l=[p2,p3,p4,p5,p6,p7]:=⟨_,rfl⟩
  have hl6:l.length=6:=by rw [hl];rfl
  have hlU:∀ x ∈ l,U64 x:=by intro x hx;rw [hl] at hx;exact hU x (by simp at hx ⊢;omega)
  cases w
  · refine W1 trivial @DD @put_spec ?_
    apply x_arr 2 (.int .u64);(repeat any_goals first | exact mp_z | apply mp_s | exact rs_z | apply rs_t | apply rs_n | apply rs_c);(repeat any_goals first | (apply Lk.i;(simp only [↓LL,↓reduceIte,Nat.reduceEqDiff];(try rfl);done)) | (apply Rf.i;first | rfl | assumption) | (apply Vl.i;((try simp (disch:=omega) only [VV,↓reduceIte,peqI,encP]);(try rfl);done)) | (apply Am.i;assumption) | (apply Pu.i;((try simp only [↓reduceIte,UU,RR,Nat.reduceAdd,Nat.reduceEqDiff,cellsP,putP,fillQ,flatQ,shP,sh1,encP]);(try rfl);done)) | (apply Om.i;((try simp only [MM]);(try omega);done)) | (apply Vw.i;exact VwA));(all_goals fail_if_success apply Mk.i)
    rw [← hl]
    refine W1 trivial trivial trivial ?_
    refine w_lpG (fun q e s=>∃ i:Nat,q+i=6∧rowOk (prs 4 (l.take i))=true∧s=[.var [.int .u32 p0,.int .u32 p1,.int .u64 p2,.int .u64 p3,.int .u64 p4,.int .u64 p5,.int .u64 p6,.int .u64 p7],.var [.bool false,.bool big],.arr (.int .u64) l,.arr (.int .u8) (progF big p0 p1 l i),.arr (.int .u8) (putSpec p1 4 big)]∧e 3 = .ptr 1 0∧e 7 = .osl 3 (progF big p0 p1 l i).length∧e 8 = .osl 4 (putSpec p1 4 big).length∧e 57 = .osl 2 6∧e 58 = .int .i64 6∧e 59 = .int .i64 i) 6 ?_ ?_
    · have e0:progF big p0 p1 l 0=putSpec p0 4 big:=by simp [progF,prs,rowB]
      exact ⟨0,rfl,rfl,by rw [e0],by exact lk trivial,by (rw [e0];exact lk trivial),by exact lk trivial,by exact lk trivial,by exact lk trivial,by exact lk trivial⟩
    rintro q e s ⟨i,hi,hok,rfl,e3,e7,e8,e57,e58,e59⟩
    have hF:=progF_len big p0 p1 l i hl6
    by_cases hq:i < 6
    · have hil:i < l.length:=by omega
      have hu:=hlU _ (getD_mem hil)
      unfold U64 at hu
      have hp:=putSpec_le (l.getD i 0) 4 big
      cases hfit:fitsB (l.getD i 0) 4
      · have hbad:=rowOk_prs_bad hil hfit
        refine W1 (And.intro @e3 (And.intro @e7 (And.intro @e8 (And.intro @e57 (And.intro @e58 (And.intro @e59 @hfit)))))) @DD @fits_spec ?_
        refine hk2 ?_
        rw [hl] at hbad
        simp only [progP,rowOk,prs,List.map_cons,List.map_nil,List.all_cons,List.all_nil,if_neg,Bool.false_eq_true,not_false_eq_true,fits4' h0,fits4' h1,Bool.true_and,Bool.and_true] at hbad ⊢
        exact hbad
      · have hok':rowOk (prs 4 (l.take (i+1)))=true:=by
          rw [prs_take hil,rowOk_app,hok]
          simp only [rowOk,List.all_cons,List.all_nil,hfit,Bool.and_true]
        by_cases h5:i=5
        · refine W1 (And.intro @e3 (And.intro @e7 (And.intro @e8 (And.intro @e57 (And.intro @e58 (And.intro @e59 @hfit)))))) @DD (And.intro @fits_spec @put_spec) ?_
          refine ⟨q - 1,by omega,_,_,Gh.sel [0,1,2,3,4] (by decide) hz,i+1,by omega,hok',?_,by exact lk @e3,(by rw [← progF_5 h5];simp only [List.length_append];exact lk @e7),by exact lk @e8,by exact lk @e57,by exact lk @e58,by exact lk @e59⟩
          rw [← progF_5 h5]
          rfl
        · refine W1 (And.intro @e3 (And.intro @e7 (And.intro @e8 (And.intro @e57 (And.intro @e58 (And.intro @e59 @hfit)))))) @DD (And.intro @fits_spec @put_spec) ?_
          refine ⟨q - 1,by omega,_,_,Gh.sel [0,1,2,3,4] (by decide) hz,i+1,by omega,hok',?_,by exact lk @e3,(by rw [← progF_lt hl6 (by omega)];simp only [List.length_append];exact lk @e7),by exact lk @e8,by exact lk @e57,by exact lk @e58,by exact lk @e59⟩
          rw [← progF_lt hl6 (by omega)]
          rfl
    · obtain rfl:i=6:=by omega
      have hout:progF big p0 p1 l 6=rowB big (progP false p0 p1 p2 p3 p4 p5 p6 p7):=by
        rw [hl]
        simp [progF,progP,prs,rowB]
      have hokk:rowOk (progP false p0 p1 p2 p3 p4 p5 p6 p7)=true:=by
        rw [hl] at hok
        simp only [progP,rowOk,prs,List.take,List.map_cons,List.map_nil,List.all_cons,List.all_nil,if_neg,Bool.false_eq_true,not_false_eq_true,fits4' h0,fits4' h1,Bool.true_and,Bool.and_true] at hok ⊢
        exact hok
      rw [hout] at e7 ⊢
      refine W1 (And.intro @e3 (And.intro @e7 (And.intro @e8 (And.intro @e57 (And.intro @e58 @e59))))) @DD trivial ?_
      exact hk1 hokk
  · refine W1 trivial @DD @put_spec ?_
    apply x_arr 2 (.int .u64);(repeat any_goals first | exact mp_z | apply mp_s | exact rs_z | apply rs_t | apply rs_n | apply rs_c);(repeat any_goals first | (apply Lk.i;(simp only [↓LL,↓reduceIte,Nat.reduceEqDiff];(try rfl);done)) | (apply Rf.i;first | rfl | assumption) | (apply Vl.i;((try simp (disch:=omega) only [VV,↓reduceIte,peqI,encP]);(try rfl);done)) | (apply Am.i;assumption) | (apply Pu.i;((try simp only [↓reduceIte,UU,RR,Nat.reduceAdd,Nat.reduceEqDiff,cellsP,putP,fillQ,flatQ,shP,sh1,encP]);(try rfl);done)) | (apply Om.i;((try simp only [MM]);(try omega);done)) | (apply Vw.i;exact VwA));(all_goals fail_if_success apply Mk.i)
    rw [← hl]
    refine W1 trivial trivial trivial ?_
    have hc:∀ i,(putSpec p0 4 big++putSpec p1 4 big++rowB big (prs 8 (l.take i))).length≤100:=fun i=>by
      have h3:=rowB_prs_le (n:=8) (l:=l.take i) big
      simp only [List.length_take] at h3
      simp only [List.length_append]
      omega
    refine w_lpG (fun q e s=>∃ i:Nat,q+i=6∧s=[.var [.int .u32 p0,.int .u32 p1,.int .u64 p2,.int .u64 p3,.int .u64 p4,.int .u64 p5,.int .u64 p6,.int .u64 p7],.var [.bool true,.bool big],.arr (.int .u64) l,.arr (.int .u8) (putSpec p0 4 big++putSpec p1 4 big++rowB big (prs 8 (l.take i))),.arr (.int .u8) (putSpec p1 4 big)]∧e 3 = .ptr 1 0∧e 7 = .osl 3 (putSpec p0 4 big++putSpec p1 4 big++rowB big (prs 8 (l.take i))).length∧e 43 = .osl 2 6∧e 44 = .int .i64 6∧e 45 = .int .i64 i) 6 ?_ ?_
    · have e0:rowB big (prs 8 (l.take 0))=[]:=rfl
      exact ⟨0,rfl,by rw [e0,List.append_nil],by exact lk trivial,(by rw [e0,List.append_nil,List.length_append];exact lk trivial),by exact lk trivial,by exact lk trivial,by exact lk trivial⟩
    rintro q e s ⟨i,hi,rfl,e3,e7,e43,e44,e45⟩
    have hF:=hc i
    by_cases hq:i < 6
    · have hil:i < l.length:=by omega
      have hu:=hlU _ (getD_mem hil)
      unfold U64 at hu
      have hp:=putSpec_le (l.getD i 0) 8 big
      have ht:=rowB_prs_take (n:=8) big hil
      generalize putSpec p0 4 big++putSpec p1 4 big=base at *
      simp only [List.length_append] at hF
      refine W1 (And.intro @e3 (And.intro @e7 (And.intro @e43 (And.intro @e44 @e45)))) @DD @put_spec ?_
      refine ⟨q - 1,by omega,_,_,Gh.sel [0,1,2,3,4] (by decide) hz,i+1,by omega,?_,by exact lk @e3,(by rw [ht,← List.append_assoc];simp only [List.length_append];exact lk @e7),by exact lk @e43,by exact lk @e44,by exact lk @e45⟩
      rw [ht,← List.append_assoc]
      rfl
    · obtain rfl:i=6:=by omega
      have hout:putSpec p0 4 big++putSpec p1 4 big++rowB big (prs 8 (l.take 6))=rowB big (progP true p0 p1 p2 p3 p4 p5 p6 p7):=by
        rw [hl]
        simp [progP,prs,rowB]
      have hokk:rowOk (progP true p0 p1 p2 p3 p4 p5 p6 p7)=true:=by
        simp only [progP,rowOk,prs,List.cons_append,List.nil_append,List.map_cons,List.map_nil,List.all_cons,List.all_nil,if_pos,fits4' h0,fits4' h1,fits8' g2,fits8' g3,fits8' g4,fits8' g5,fits8' g6,fits8' g7,Bool.and_true]
      rw [hout] at e7 ⊢
      refine W1 (And.intro @e3 (And.intro @e7 (And.intro @e43 (And.intro @e44 @e45)))) @DD trivial ?_
      exact hk1 hokk
end
end Go.Proofs.Ytcffpnlochillaa.PvW
end
