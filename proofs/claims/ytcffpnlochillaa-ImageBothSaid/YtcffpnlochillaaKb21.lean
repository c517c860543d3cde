/- A heap of plain values, walks over it, and functions of the program met by them: no statement of the set is proved in this text. -/
import Derived.Test.YtcffpnlochillaaKb09
import Derived.Test.YtcffpnlochillaaKb18
import Derived.Test.YtcffpnlochillaaKb20
set_option linter.unusedVariables false
set_option linter.unusedSimpArgs false
set_option maxRecDepth 100000
set_option maxHeartbeats 4000000
section
namespace Go.Proofs.Ytcffpnlochillaa.PvW
open Go.RowKit Go.Proofs.Ytcffpnlochillaa.Cd Go.Proofs.Ytcffpnlochillaa.AbP Go.Proofs.Ytcffpnlochillaa.Num Go.Proofs.Ytcffpnlochillaa.Pv
variable {K:PV→List OB→Prop}
theorem sword_spec {w b:Bool} (hk:K (.int .i64 (wd w)) []):PCalls Try.prog 43 [.agg [.bool w,.bool b]] [] K:=by
  refine told_callP sect_word.told fun Z hZ=>?_
  unfold sect_word.c
  cases w
  all_goals
    refine W1 trivial trivial trivial ?_
    exact hk
theorem sput1_spec {n:Int} {l bs:List Int} {w big:Bool} {nb m:Nat} (hU:Am (∀ x ∈ l,U64 x)) (hw:Rf (wideB n=true)) (hl:Om (l.length≤20)) (hb:Om (bs.length≤1000)) (hm:Om (m=l.length)) (hnb:Om (nb=bs.length))
    (hk1:rowOk (prs n l)=true→K (.bool true) [.var [.osl 1 (bs++rowB big (prs n l)).length],.arr (.int .u8) (bs++rowB big (prs n l)),.var [.bool w,.bool big],.arr (.int .u64) l]) (hk2:rowOk (prs n l)=false→∀ l':List Int,K (.bool false) [.var [.osl 1 l'.length],.arr (.int .u8) l',.var [.bool w,.bool big],.arr (.int .u64) l]) :
    PCalls Try.prog 44 [.int .i64 n,.osl 3 m,.ptr 0 0,.ptr 2 0] [.var [.osl 1 nb],.arr (.int .u8) bs,.var [.bool w,.bool big],.arr (.int .u64) l] K:=by
  refine told_callS sect_Put_1.told fun Z hZ=>?_
  unfold sect_Put_1.c
  replace hU:=hU.o
  replace hw:=hw.o
  replace hl:=hl.o
  replace hb:=hb.o
  obtain rfl:=hm.o
  obtain rfl:=hnb.o
  have hzl:∀ b,b < Z.s.length→[0,1,2,3][b]? = some b:=by rw [hZ];intro b hb;simp at hb;rcases b with _ | _ | _ | _ | b <;> first | rfl | omega
  refine W1 trivial trivial trivial ?_
  refine w_lpG (fun q e s=>∃ i:Nat,q+i=l.length∧rowOk (prs n (l.take i))=true∧s=[.var [.osl 1 (bs++rowB big (prs n (l.take i))).length],.arr (.int .u8) (bs++rowB big (prs n (l.take i))),.var [.bool w,.bool big],.arr (.int .u64) l]∧e 0 = .int .i64 n∧e 2 = .ptr 0 0∧e 3 = .ptr 2 0∧e 9 = .osl 3 l.length∧e 10 = .int .i64 l.length∧e 11 = .int .i64 i) l.length ?_ ?_
  · exact ⟨0,rfl,rfl,by simp [prs,rowB],by exact lk trivial,by exact lk trivial,by exact lk trivial,by exact lk trivial,by exact lk trivial,by exact lk trivial⟩
  rintro q e s ⟨i,hi,hok,rfl,e0,e2,e3,e9,e10,e11⟩
  by_cases hq:i < l.length
  · have hu:=hU _ (getD_mem hq)
    unfold U64 at hu
    have hlen:(rowB big (prs n (l.take i))).length≤8 * 20:=by
      refine Nat.le_trans (rowB_le _ _) ?_
      simp [prs]
      omega
    have hpt:=prs_take (n:=n) hq
    have hp:=putSpec_le (l.getD i 0) n big
    cases hfit:fitsB (l.getD i 0) n
    · have hbad:rowOk (prs n l)=false:=by
        have:prs n l=prs n (l.take i)++(l.getD i 0,n)::prs n (l.drop (i+1)):=by
          have hd:l.drop i=l.getD i 0::l.drop (i+1):=by
            rw [List.drop_eq_getElem_cons hq,List.getD_eq_getElem?_getD,List.getElem?_eq_getElem hq]
            rfl
          conv=>lhs;rw [← List.take_append_drop i l,hd]
          simp [prs]
        rw [this,rowOk_app,hok]
        simp only [rowOk,List.all_cons,List.all_nil,hfit,Bool.false_and,Bool.true_and,Bool.and_false,Bool.and_true]
      refine W1 (And.intro @e0 (And.intro @e2 (And.intro @e3 (And.intro @e9 (And.intro @e10 (And.intro @e11 @hfit)))))) @DD @fits_spec ?_
      exact ⟨_,rfl,rfl,hk2 hbad _⟩
    · refine W1 (And.intro @e0 (And.intro @e2 (And.intro @e3 (And.intro @e9 (And.intro @e10 (And.intro @e11 @hfit)))))) @DD (And.intro @fits_spec @put_spec) ?_
      have er:rowB big (prs n (l.take (i+1)))=rowB big (prs n (l.take i))++putSpec (l.getD i 0) n big:=by rw [hpt,rowB_app];simp [rowB]
      refine ⟨q - 1,by omega,_,_,Gh.sel [0,1,2,3] (by decide) hzl,i+1,by omega,?_,?_,by exact lk @e0,by exact lk @e2,by exact lk @e3,by exact lk @e9,by exact lk @e10,by exact lk @e11⟩
      · rw [hpt,rowOk_app,hok]
        simp only [rowOk,List.all_cons,List.all_nil,hfit,Bool.false_and,Bool.true_and,Bool.and_false,Bool.and_true]
      · have ea:((bs++rowB big (prs n (l.take i)))++putSpec (l.getD i 0) n big).length=(bs++rowB big (prs n (l.take i))).length+(putSpec (l.getD i 0) n big).length:=List.length_append
        rw [er,← List.append_assoc,ea]
        rfl
  · obtain rfl:i=l.length:=by omega
    rw [List.take_length] at hok ⊢
    refine W1 (And.intro @e0 (And.intro @e2 (And.intro @e3 (And.intro @e9 (And.intro @e10 @e11))))) @DD trivial ?_
    exact ⟨_,rfl,rfl,hk1 hok⟩
section
variable {n0 n1 n2 n3 n4 n5 n6 n7 n8 n9:Int}
abbrev secP (w:Bool) (n0 n1 n2 n3 n4 n5 n6 n7 n8 n9:Int):List (Int×Int):=prs 4 [n0,n1]++(prs (wd w) [n2,n3,n4,n5]++(prs 4 [n6,n7]++prs (wd w) [n8,n9]))
theorem sput_spec {w big:Bool} (hU:Am (∀ x ∈ [n0,n1,n2,n3,n4,n5,n6,n7,n8,n9],U64 x))
    (hk1:rowOk (secP w n0 n1 n2 n3 n4 n5 n6 n7 n8 n9)=true→K (.tup [.osl 0 (rowB big (secP w n0 n1 n2 n3 n4 n5 n6 n7 n8 n9)).length,.nilI]) [.arr (.int .u8) (rowB big (secP w n0 n1 n2 n3 n4 n5 n6 n7 n8 n9))])
    (hk2:rowOk (secP w n0 n1 n2 n3 n4 n5 n6 n7 n8 n9)=false→K (.tup [.nilS,eCode 1]) []) :
    PCalls Try.prog 33 [.agg [.int .u32 n0,.int .u32 n1,.int .u64 n2,.int .u64 n3,.int .u64 n4,.int .u64 n5,.int .u32 n6,.int .u32 n7,.int .u64 n8,.int .u64 n9],.agg [.bool w,.bool big]] [] K:=by
  have hV:=hU.o
  simp only [List.forall_mem_cons,U64] at hV
  obtain ⟨g0,g1,g2,g3,g4,g5,g6,g7,g8,g9,_⟩:=hV
  replace hU:=hU.o
  refine told_callP sect_Put.told fun Z hZ=>?_
  unfold sect_Put.c
  refine W1 trivial trivial @sword_spec ?_
  apply f_virtV 2 0 (.int .u8);(repeat any_goals first | exact mp_z | apply mp_s | exact rs_z | apply rs_t | apply rs_n | apply rs_c);(repeat any_goals first | (apply Lk.i;(simp only [↓LL,↓reduceIte,Nat.reduceEqDiff];(try rfl);done)) | (apply Rf.i;first | rfl | assumption) | (apply Vl.i;((try simp (disch:=omega) only [VV,↓reduceIte,peqI,encP]);(try rfl);done)) | (apply Am.i;assumption) | (apply Pu.i;((try simp only [↓reduceIte,UU,RR,Nat.reduceAdd,Nat.reduceEqDiff,cellsP,putP,fillQ,flatQ,shP,sh1,encP]);(try rfl);done)) | (apply Om.i;((try simp only [MM]);(try omega);done)) | (apply Vw.i;exact VwA));(all_goals fail_if_success apply Mk.i)
  apply f_arr 3 (.int .u64);(repeat any_goals first | exact mp_z | apply mp_s | exact rs_z | apply rs_t | apply rs_n | apply rs_c);(repeat any_goals first | (apply Lk.i;(simp only [↓LL,↓reduceIte,Nat.reduceEqDiff];(try rfl);done)) | (apply Rf.i;first | rfl | assumption) | (apply Vl.i;((try simp (disch:=omega) only [VV,↓reduceIte,peqI,encP]);(try rfl);done)) | (apply Am.i;assumption) | (apply Pu.i;((try simp only [↓reduceIte,UU,RR,Nat.reduceAdd,Nat.reduceEqDiff,cellsP,putP,fillQ,flatQ,shP,sh1,encP]);(try rfl);done)) | (apply Om.i;((try simp only [MM]);(try omega);done)) | (apply Vw.i;exact VwA));(all_goals fail_if_success apply Mk.i)
  apply cf_S [2,4,1,3];(repeat any_goals first | exact mp_z | apply mp_s | exact rs_z | apply rs_t | apply rs_n | apply rs_c);(repeat any_goals first | (apply Lk.i;(simp only [↓LL,↓reduceIte,Nat.reduceEqDiff];(try rfl);done)) | (apply Rf.i;first | rfl | assumption) | (apply Vl.i;((try simp (disch:=omega) only [VV,↓reduceIte,peqI,encP]);(try rfl);done)) | (apply Am.i;assumption) | (apply Pu.i;((try simp only [↓reduceIte,UU,RR,Nat.reduceAdd,Nat.reduceEqDiff,cellsP,putP,fillQ,flatQ,shP,sh1,encP]);(try rfl);done)) | (apply Om.i;((try simp only [MM]);(try omega);done)) | (apply Vw.i;exact VwA));(all_goals fail_if_success apply Mk.i)
  refine sput1_spec (l:=[n0,n1]) (bs:=[]) ⟨fun x hx=>hU x (by simp at hx ⊢;omega)⟩ ⟨rfl⟩ ⟨by simp⟩ ⟨by simp⟩ ⟨rfl⟩ ⟨rfl⟩ (fun ok1=>?_) (fun no1 l'=>?_)
  rotate_left
  · refine W1 trivial trivial trivial ?_
    exact hk2 (by rw [rowOk_app,no1];rfl)
  refine W1 trivial trivial trivial ?_
  have hle2:=rowB_le big (prs 4 [n0,n1])
  have hpl2:((prs 4 [n0,n1])).length=2:=by simp [prs]
  apply f_arr 5 (.int .u64);(repeat any_goals first | exact mp_z | apply mp_s | exact rs_z | apply rs_t | apply rs_n | apply rs_c);(repeat any_goals first | (apply Lk.i;(simp only [↓LL,↓reduceIte,Nat.reduceEqDiff];(try rfl);done)) | (apply Rf.i;first | rfl | assumption) | (apply Vl.i;((try simp (disch:=omega) only [VV,↓reduceIte,peqI,encP]);(try rfl);done)) | (apply Am.i;assumption) | (apply Pu.i;((try simp only [↓reduceIte,UU,RR,Nat.reduceAdd,Nat.reduceEqDiff,cellsP,putP,fillQ,flatQ,shP,sh1,encP]);(try rfl);done)) | (apply Om.i;((try simp only [MM]);(try omega);done)) | (apply Vw.i;exact VwA));(all_goals fail_if_success apply Mk.i)
  apply cf_S [2,4,1,5];(repeat any_goals first | exact mp_z | apply mp_s | exact rs_z | apply rs_t | apply rs_n | apply rs_c);(repeat any_goals first | (apply Lk.i;(simp only [↓LL,↓reduceIte,Nat.reduceEqDiff];(try rfl);done)) | (apply Rf.i;first | rfl | assumption) | (apply Vl.i;((try simp (disch:=omega) only [VV,↓reduceIte,peqI,encP]);(try rfl);done)) | (apply Am.i;assumption) | (apply Pu.i;((try simp only [↓reduceIte,UU,RR,Nat.reduceAdd,Nat.reduceEqDiff,cellsP,putP,fillQ,flatQ,shP,sh1,encP]);(try rfl);done)) | (apply Om.i;((try simp only [MM]);(try omega);done)) | (apply Vw.i;exact VwA));(all_goals fail_if_success apply Mk.i)
  refine sput1_spec (l:=[n2,n3,n4,n5]) ⟨fun x hx=>hU x (by simp at hx ⊢;omega)⟩ ⟨wd_wide w⟩ ⟨by simp⟩ ⟨by ((try simp only [MM]);(try omega);done)⟩ ⟨rfl⟩ ⟨rfl⟩ (fun ok2=>?_) (fun no l'=>?_)
  rotate_left
  · refine W1 trivial trivial trivial ?_
    exact hk2 (by rw [rowOk_app,rowOk_app,no,Bool.false_and,Bool.and_false])
  refine W1 trivial trivial trivial ?_
  have hle3:=rowB_le big (prs (wd w) [n2,n3,n4,n5])
  have hpl3:((prs (wd w) [n2,n3,n4,n5])).length=4:=by simp [prs]
  apply f_arr 6 (.int .u64);(repeat any_goals first | exact mp_z | apply mp_s | exact rs_z | apply rs_t | apply rs_n | apply rs_c);(repeat any_goals first | (apply Lk.i;(simp only [↓LL,↓reduceIte,Nat.reduceEqDiff];(try rfl);done)) | (apply Rf.i;first | rfl | assumption) | (apply Vl.i;((try simp (disch:=omega) only [VV,↓reduceIte,peqI,encP]);(try rfl);done)) | (apply Am.i;assumption) | (apply Pu.i;((try simp only [↓reduceIte,UU,RR,Nat.reduceAdd,Nat.reduceEqDiff,cellsP,putP,fillQ,flatQ,shP,sh1,encP]);(try rfl);done)) | (apply Om.i;((try simp only [MM]);(try omega);done)) | (apply Vw.i;exact VwA));(all_goals fail_if_success apply Mk.i)
  apply cf_S [2,4,1,6];(repeat any_goals first | exact mp_z | apply mp_s | exact rs_z | apply rs_t | apply rs_n | apply rs_c);(repeat any_goals first | (apply Lk.i;(simp only [↓LL,↓reduceIte,Nat.reduceEqDiff];(try rfl);done)) | (apply Rf.i;first | rfl | assumption) | (apply Vl.i;((try simp (disch:=omega) only [VV,↓reduceIte,peqI,encP]);(try rfl);done)) | (apply Am.i;assumption) | (apply Pu.i;((try simp only [↓reduceIte,UU,RR,Nat.reduceAdd,Nat.reduceEqDiff,cellsP,putP,fillQ,flatQ,shP,sh1,encP]);(try rfl);done)) | (apply Om.i;((try simp only [MM]);(try omega);done)) | (apply Vw.i;exact VwA));(all_goals fail_if_success apply Mk.i)
  refine sput1_spec (l:=[n6,n7]) ⟨fun x hx=>hU x (by simp at hx ⊢;omega)⟩ ⟨rfl⟩ ⟨by simp⟩ ⟨by ((try simp only [MM]);(try omega);done)⟩ ⟨rfl⟩ ⟨rfl⟩ (fun ok3=>?_) (fun no l'=>?_)
  rotate_left
  · refine W1 trivial trivial trivial ?_
    exact hk2 (by rw [rowOk_app,rowOk_app,rowOk_app,no,Bool.false_and,Bool.and_false,Bool.and_false])
  refine W1 trivial trivial trivial ?_
  have hle4:=rowB_le big (prs 4 [n6,n7])
  have hpl4:((prs 4 [n6,n7])).length=2:=by simp [prs]
  apply f_arr 7 (.int .u64);(repeat any_goals first | exact mp_z | apply mp_s | exact rs_z | apply rs_t | apply rs_n | apply rs_c);(repeat any_goals first | (apply Lk.i;(simp only [↓LL,↓reduceIte,Nat.reduceEqDiff];(try rfl);done)) | (apply Rf.i;first | rfl | assumption) | (apply Vl.i;((try simp (disch:=omega) only [VV,↓reduceIte,peqI,encP]);(try rfl);done)) | (apply Am.i;assumption) | (apply Pu.i;((try simp only [↓reduceIte,UU,RR,Nat.reduceAdd,Nat.reduceEqDiff,cellsP,putP,fillQ,flatQ,shP,sh1,encP]);(try rfl);done)) | (apply Om.i;((try simp only [MM]);(try omega);done)) | (apply Vw.i;exact VwA));(all_goals fail_if_success apply Mk.i)
  apply cf_S [2,4,1,7];(repeat any_goals first | exact mp_z | apply mp_s | exact rs_z | apply rs_t | apply rs_n | apply rs_c);(repeat any_goals first | (apply Lk.i;(simp only [↓LL,↓reduceIte,Nat.reduceEqDiff];(try rfl);done)) | (apply Rf.i;first | rfl | assumption) | (apply Vl.i;((try simp (disch:=omega) only [VV,↓reduceIte,peqI,encP]);(try rfl);done)) | (apply Am.i;assumption) | (apply Pu.i;((try simp only [↓reduceIte,UU,RR,Nat.reduceAdd,Nat.reduceEqDiff,cellsP,putP,fillQ,flatQ,shP,sh1,encP]);(try rfl);done)) | (apply Om.i;((try simp only [MM]);(try omega);done)) | (apply Vw.i;exact VwA));(all_goals fail_if_success apply Mk.i)
  refine sput1_spec (l:=[n8,n9]) ⟨fun x hx=>hU x (by simp at hx ⊢;omega)⟩ ⟨wd_wide w⟩ ⟨by simp⟩ ⟨by ((try simp only [MM]);(try omega);done)⟩ ⟨rfl⟩ ⟨rfl⟩ (fun ok4=>?_) (fun no l'=>?_)
  rotate_left
  · refine W1 trivial trivial trivial ?_
    exact hk2 (by rw [rowOk_app,rowOk_app,rowOk_app,no,Bool.and_false,Bool.and_false,Bool.and_false])
  refine W1 trivial trivial trivial ?_
  have e1:rowB big (prs 4 [n0,n1])++rowB big (prs (wd w) [n2,n3,n4,n5])++rowB big (prs 4 [n6,n7])++rowB big (prs (wd w) [n8,n9])=rowB big (secP w n0 n1 n2 n3 n4 n5 n6 n7 n8 n9):=by simp only [rowB_app,List.append_assoc]
  rw [e1]
  exact hk1 (by rw [rowOk_app,rowOk_app,rowOk_app,ok1,ok2,ok3,ok4];rfl)
end
end Go.Proofs.Ytcffpnlochillaa.PvW
end
