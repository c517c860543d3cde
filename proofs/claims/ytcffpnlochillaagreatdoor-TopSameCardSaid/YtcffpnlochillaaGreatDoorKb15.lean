/- A heap of plain values, walks over it, and functions of the program met by them: no statement of the set is proved in this text. -/
import Derived.Test.YtcffpnlochillaaGreatDoorKb07
import Derived.Test.YtcffpnlochillaaGreatDoorKb08
import Derived.Test.YtcffpnlochillaaGreatDoorKb13
import Derived.Test.YtcffpnlochillaaGreatDoorKb14
set_option linter.unusedVariables false
set_option linter.unusedSimpArgs false
set_option maxRecDepth 100000
set_option maxHeartbeats 4000000
section
namespace Go.Proofs.YtcffpnlochillaaGreatDoor.PvW
open Go.RowKit Go.Proofs.YtcffpnlochillaaGreatDoor.Cd Go.Proofs.YtcffpnlochillaaGreatDoor.AbP Go.Proofs.YtcffpnlochillaaGreatDoor.Num Go.Proofs.YtcffpnlochillaaGreatDoor.Pv
variable {K:PV→List OB→Prop}
theorem sword_spec {w b:Bool} (hk:K (.int .i64 (wd w)) []):PCalls Tryz.prog 135 [.agg [.bool w,.bool b]] [] K:=by
  refine told_callP sect_word.told fun Z hZ=>?_
  unfold sect_word.c
  cases w
  all_goals
    refine W1 trivial trivial trivial ?_
    exact hk
theorem sput1_spec {n:Int} {l bs:List Int} {w big:Bool} {nb m:Nat} (hU:Am (∀ x ∈ l,U64 x)) (hw:Rf (wideB n=true)) (hl:Om (l.length≤20)) (hb:Om (bs.length≤1000)) (hm:Om (m=l.length)) (hnb:Om (nb=bs.length))
    (hk1:rowOk (prs n l)=true→K (.bool true) [.var [.osl 1 (bs++rowB big (prs n l)).length],.arr (.int .u8) (bs++rowB big (prs n l)),.var [.bool w,.bool big],.arr (.int .u64) l]) (hk2:rowOk (prs n l)=false→∀ l':List Int,K (.bool false) [.var [.osl 1 l'.length],.arr (.int .u8) l',.var [.bool w,.bool big],.arr (.int .u64) l]) :
    PCalls Tryz.prog 136 [.int .i64 n,.osl 3 m,.ptr 0 0,.ptr 2 0] [.var [.osl 1 nb],.arr (.int .u8) bs,.var [.bool w,.bool big],.arr (.int .u64) l] K:=by
  refine told_callS sect_Put_1.told fun Z hZ=>?_
  unfold sect_Put_1.c
  replace hU:=hU.o
  replace hw:=hw.o
  replace hl:=hl.o
  replace hb:=hb.o
  obtain rfl:=hm.o
  obtain rfl:=hnb.o
  have hzl:∀ b,b < Z.s.length→[0,1,2,3][b]? = some b:=by rw [hZ];intro b hb;simp at hb;rcases b with _ | _ | _ | _ | b <;> first | rfl | omega
  refine W1 trivial trivial trivial ?_
  refine w_lpG (fun q e s=>∃ i:Nat,q+i=l.length∧rowOk (prs n (l.take i))=true∧s=[.var [.osl 1 (bs++rowB big (prs n (l.take i))).length],.arr (.int .u8) (bs++rowB big (prs n (l.take i))),.var [.bool w,.bool big],.arr (.int .u64) l]∧e 0 = .int .i64 n∧e 2 = .ptr 0 0∧e 3 = .ptr 2 0∧e 9 = .osl 3 l.length∧e 10 = .int .i64 l.length∧e 11 = .int .i64 i) l.length ?_ ?_
  · exact ⟨0,rfl,rfl,by simp [prs,rowB],by exact lk trivial,by exact lk trivial,by exact lk trivial,by exact lk trivial,by exact lk trivial,by exact lk trivial⟩
  rintro q e s ⟨i,hi,hok,rfl,e0,e2,e3,e9,e10,e11⟩
  by_cases hq:i < l.length
  · have hu:=hU _ (getD_mem hq)
    unfold U64 at hu
    have hlen:(rowB big (prs n (l.take i))).length≤8 * 20:=by
      refine Nat.le_trans (rowB_le _ _) ?_
      simp [prs]
      omega
    have hpt:=prs_take (n:=n) hq
    have hp:=putSpec_le (l.getD i 0) n big
    cases hfit:fitsB (l.getD i 0) n
    · have hbad:rowOk (prs n l)=false:=by
        have:prs n l=prs n (l.take i)++(l.getD i 0,n)::prs n (l.drop (i+1)):=by
          have hd:l.drop i=l.getD i 0::l.drop (i+1):=by
            rw [List.drop_eq_getElem_cons hq,List.getD_eq_getElem?_getD,List.getElem?_eq_getElem hq]
            rfl
          conv=>lhs;rw [← List.take_append_drop i l,hd]
          simp [prs]
        rw [this,rowOk_app,hok]
        simp only [rowOk,List.all_cons,List.all_nil,hfit,Bool.false_and,Bool.true_and,Bool.and_false,Bool.and_true]
      refine W1 (And.intro @e0 (And.intro @e2 (And.intro @e3 (And.intro @e9 (And.intro @e10 (And.intro @e11 @hfit)))))) @DD @fits_spec ?_
      exact ⟨_,rfl,rfl,hk2 hbad _⟩
    · refine W1 (And.intro @e0 (And.intro @e2 (And.intro @e3 (And.intro @e9 (And.intro @e10 (And.intro @e11 @hfit)))))) @DD (And.intro @fits_spec @put_spec) ?_
      have er:rowB big (prs n (l.take (i+1)))=rowB big (prs n (l.take i))++putSpec (l.getD i 0) n big:=by rw [hpt,rowB_app];simp [rowB]
      refine ⟨q - 1,by omega,_,_,Gh.sel [0,1,2,3] (by decide) hzl,i+1,by omega,?_,?_,by exact lk @e0,by exact lk @e2,by exact lk @e3,by exact lk @e9,by exact lk @e10,by exact lk @e11⟩
      · rw [hpt,rowOk_app,hok]
        simp only [rowOk,List.all_cons,List.all_nil,hfit,Bool.false_and,Bool.true_and,Bool.and_false,Bool.and_true]
      · have ea:((bs++rowB big (prs n (l.take i)))++putSpec (l.getD i 0) n big).length=(bs++rowB big (prs n (l.take i))).length+(putSpec (l.getD i 0) n big).length:=List.length_append
        rw [er,← List.append_assoc,ea]
        rfl
  · obtain rfl:i=l.length:=by omega
    rw [List.take_length] at hok ⊢
    refine W1 (And.intro @e0 (And.intro @e2 (And.intro @e3 (And.intro @e9 (And.intro @e10 @e11))))) @DD trivial ?_
    exact ⟨_,rfl,rfl,hk1 hok⟩
section
variable {n0 n1 n2 n3 n4 n5 n6 n7 n8 n9:Int}
abbrev secP (w:Bool) (n0 n1 n2 n3 n4 n5 n6 n7 n8 n9:Int):List (Int×Int):=prs 4 [n0,n1]++(prs (wd w) [n2,n3,n4,n5]++(prs 4 [n6,n7]++prs (wd w) [n8,n9]))
theorem sput_spec {w big:Bool} (hU:Am (∀ x ∈ [n0,n1,n2,n3,n4,n5,n6,n7,n8,n9],U64 x))
    (hk1:rowOk (secP w n0 n1 n2 n3 n4 n5 n6 n7 n8 n9)=true→K (.tup [.osl 0 (rowB big (secP w n0 n1 n2 n3 n4 n5 n6 n7 n8 n9)).length,.nilI]) [.arr (.int .u8) (rowB big (secP w n0 n1 n2 n3 n4 n5 n6 n7 n8 n9))])
    (hk2:rowOk (secP w n0 n1 n2 n3 n4 n5 n6 n7 n8 n9)=false→K (.tup [.nilS,eCode 1]) []) :
    PCalls Tryz.prog 91 [.agg [.int .u32 n0,.int .u32 n1,.int .u64 n2,.int .u64 n3,.int .u64 n4,.int .u64 n5,.int .u32 n6,.int .u32 n7,.int .u64 n8,.int .u64 n9],.agg [.bool w,.bool big]] [] K:=by
  have hV:=hU.o
  simp only [List.forall_mem_cons,U64] at hV
  obtain ⟨g0,g1,g2,g3,g4,g5,g6,g7,g8,g9,_⟩:=hV
  replace hU:=hU.o
  refine told_callP sect_Put.told fun Z hZ=>?_
  unfold sect_Put.c
  refine W1 trivial trivial @sword_spec ?_
  apply f_virtV 2 0 (.int .u8);(repeat any_goals first | exact mp_z | apply mp_s | exact rs_z | apply rs_t | apply rs_n | apply rs_c);(repeat any_goals first | (apply Lk.i;(simp only [↓LL,↓reduceIte,Nat.reduceEqDiff];(try rfl);done)) | (apply Rf.i;first | rfl | assumption) | (apply Vl.i;((try simp (disch:=omega) only [VV,↓reduceIte,peqI,encP]);(try rfl);done)) | (apply Am.i;assumption) | (apply Pu.i;((try simp only [↓reduceIte,UU,RR,Nat.reduceAdd,Nat.reduceEqDiff,cellsP,putP,fillQ,flatQ,shP,sh1,encP]);(try rfl);done)) | (apply Om.i;((try simp only [MM]);(try omega);done)) | (apply Vw.i;exact VwA));(all_goals fail_if_success apply Mk.i)
  apply f_arr 3 (.int .u64);(repeat any_goals first | exact mp_z | apply mp_s | exact rs_z | apply rs_t | apply rs_n | apply rs_c);(repeat any_goals first | (apply Lk.i;(simp only [↓LL,↓reduceIte,Nat.reduceEqDiff];(try rfl);done)) | (apply Rf.i;first | rfl | assumption) | (apply Vl.i;((try simp (disch:=omega) only [VV,↓reduceIte,peqI,encP]);(try rfl);done)) | (apply Am.i;assumption) | (apply Pu.i;((try simp only [↓reduceIte,UU,RR,Nat.reduceAdd,Nat.reduceEqDiff,cellsP,putP,fillQ,flatQ,shP,sh1,encP]);(try rfl);done)) | (apply Om.i;((try simp only [MM]);(try omega);done)) | (apply Vw.i;exact VwA));(all_goals fail_if_success apply Mk.i)
  apply cf_S [2,4,1,3];(repeat any_goals first | exact mp_z | apply mp_s | exact rs_z | apply rs_t | apply rs_n | apply rs_c);(repeat any_goals first | (apply Lk.i;(simp only [↓LL,↓reduceIte,Nat.reduceEqDiff];(try rfl);done)) | (apply Rf.i;first | rfl | assumption) | (apply Vl.i;((try simp (disch:=omega) only [VV,↓reduceIte,peqI,encP]);(try rfl);done)) | (apply Am.i;assumption) | (apply Pu.i;((try simp only [↓reduceIte,UU,RR,Nat.reduceAdd,Nat.reduceEqDiff,cellsP,putP,fillQ,flatQ,shP,sh1,encP]);(try rfl);done)) | (apply Om.i;((try simp only [MM]);(try omega);done)) | (apply Vw.i;exact VwA));(all_goals fail_if_success apply Mk.i)
  refine sput1_spec (l:=[n0,n1]) (bs:=[]) ⟨fun x hx=>hU x (by simp at hx ⊢;omega)⟩ ⟨rfl⟩ ⟨by simp⟩ ⟨by simp⟩ ⟨rfl⟩ ⟨rfl⟩ (fun ok1=>?_) (fun no1 l'=>?_)
  rotate_left
  · refine W1 trivial trivial trivial ?_
    exact hk2 (by rw [rowOk_app,no1];rfl)
  refine W1 trivial trivial trivial ?_
  have hle2:=rowB_le big (prs 4 [n0,n1])
  have hpl2:((prs 4 [n0,n1])).length=2:=by simp [prs]
  apply f_arr 5 (.int .u64);(repeat any_goals first | exact mp_z | apply mp_s | exact rs_z | apply rs_t | apply rs_n | apply rs_c);(repeat any_goals first | (apply Lk.i;(simp only [↓LL,↓reduceIte,Nat.reduceEqDiff];(try rfl);done)) | (apply Rf.i;first | rfl | assumption) | (apply Vl.i;((try simp (disch:=omega) only [VV,↓reduceIte,peqI,encP]);(try rfl);done)) | (apply Am.i;assumption) | (apply Pu.i;((try simp only [↓reduceIte,UU,RR,Nat.reduceAdd,Nat.reduceEqDiff,cellsP,putP,fillQ,flatQ,shP,sh1,encP]);(try rfl);done)) | (apply Om.i;((try simp only [MM]);(try omega);done)) | (apply Vw.i;exact VwA));(all_goals fail_if_success apply Mk.i)
  apply cf_S [2,4,1,5];(repeat any_goals first | exact mp_z | apply mp_s | exact rs_z | apply rs_t | apply rs_n | apply rs_c);(repeat any_goals first | (apply Lk.i;(simp only [↓LL,↓reduceIte,Nat.reduceEqDiff];(try rfl);done)) | (apply Rf.i;first | rfl | assumption) | (apply Vl.i;((try simp (disch:=omega) only [VV,↓reduceIte,peqI,encP]);(try rfl);done)) | (apply Am.i;assumption) | (apply Pu.i;((try simp only [↓reduceIte,UU,RR,Nat.reduceAdd,Nat.reduceEqDiff,cellsP,putP,fillQ,flatQ,shP,sh1,encP]);(try rfl);done)) | (apply Om.i;((try simp only [MM]);(try omega);done)) | (apply Vw.i;exact VwA));(all_goals fail_if_success apply Mk.i)
  refine sput1_spec (l:=[n2,n3,n4,n5]) ⟨fun x hx=>hU x (by simp at hx ⊢;omega)⟩ ⟨wd_wide w⟩ ⟨by simp⟩ ⟨by ((try simp only [MM]);(try omega);done)⟩ ⟨rfl⟩ ⟨rfl⟩ (fun ok2=>?_) (fun no l'=>?_)
  rotate_left
  · refine W1 trivial trivial trivial ?_
    exact hk2 (by rw [rowOk_app,rowOk_app,no,Bool.false_and,Bool.and_false])
  refine W1 trivial trivial trivial ?_
  have hle3:=rowB_le big (prs (wd w) [n2,n3,n4,n5])
  have hpl3:((prs (wd w) [n2,n3,n4,n5])).length=4:=by simp [prs]
  apply f_arr 6 (.int .u64);(repeat any_goals first | exact mp_z | apply mp_s | exact rs_z | apply rs_t | apply rs_n | apply rs_c);(repeat any_goals first | (apply Lk.i;(simp only [↓LL,↓reduceIte,Nat.reduceEqDiff];(try rfl);done)) | (apply Rf.i;first | rfl | assumption) | (apply Vl.i;((try simp (disch:=omega) only [VV,↓reduceIte,peqI,encP]);(try rfl);done)) | (apply Am.i;assumption) | (apply Pu.i;((try simp only [↓reduceIte,UU,RR,Nat.reduceAdd,Nat.reduceEqDiff,cellsP,putP,fillQ,flatQ,shP,sh1,encP]);(try rfl);done)) | (apply Om.i;((try simp only [MM]);(try omega);done)) | (apply Vw.i;exact VwA));(all_goals fail_if_success apply Mk.i)
  apply cf_S [2,4,1,6];(repeat any_goals first | exact mp_z | apply mp_s | exact rs_z | apply rs_t | apply rs_n | apply rs_c);(repeat any_goals first | (apply Lk.i;(simp only [↓LL,↓reduceIte,Nat.reduceEqDiff];(try rfl);done)) | (apply Rf.i;first | rfl | assumption) | (apply Vl.i;((try simp (disch:=omega) only [VV,↓reduceIte,peqI,encP]);(try rfl);done)) | (apply Am.i;assumption) | (apply Pu.i;((try simp only [↓reduceIte,UU,RR,Nat.reduceAdd,Nat.reduceEqDiff,cellsP,putP,fillQ,flatQ,shP,sh1,encP]);(try rfl);done)) | (apply Om.i;((try simp only [MM]);(try omega);done)) | (apply Vw.i;exact VwA));(all_goals fail_if_success apply Mk.i)
  refine sput1_spec (l:=[n6,n7]) ⟨fun x hx=>hU x (by simp at hx ⊢;omega)⟩ ⟨rfl⟩ ⟨by simp⟩ ⟨by ((try simp only [MM]);(try omega);done)⟩ ⟨rfl⟩ ⟨rfl⟩ (fun ok3=>?_) (fun no l'=>?_)
  rotate_left
  · refine W1 trivial trivial trivial ?_
    exact hk2 (by rw [rowOk_app,rowOk_app,rowOk_app,no,Bool.false_and,Bool.and_false,Bool.and_false])
  refine W1 trivial trivial trivial ?_
  have hle4:=rowB_le big (prs 4 [n6,n7])
  have hpl4:((prs 4 [n6,n7])).length=2:=by simp [prs]
  apply f_arr 7 (.int .u64);(repeat any_goals first | exact mp_z | apply mp_s | exact rs_z | apply rs_t | apply rs_n | apply rs_c);(repeat any_goals first | (apply Lk.i;(simp only [↓LL,↓reduceIte,Nat.reduceEqDiff];(try rfl);done)) | (apply Rf.i;first | rfl | assumption) | (apply Vl.i;((try simp (disch:=omega) only [VV,↓reduceIte,peqI,encP]);(try rfl);done)) | (apply Am.i;assumption) | (apply Pu.i;((try simp only [↓reduceIte,UU,RR,Nat.reduceAdd,Nat.reduceEqDiff,cellsP,putP,fillQ,flatQ,shP,sh1,encP]);(try rfl);done)) | (apply Om.i;((try simp only [MM]);(try omega);done)) | (apply Vw.i;exact VwA));(all_goals fail_if_success apply Mk.i)
  apply cf_S [2,4,1,7];(repeat any_goals first | exact mp_z | apply mp_s | exact rs_z | apply rs_t | apply rs_n | apply rs_c);(repeat any_goals first | (apply Lk.i;(simp only [↓LL,↓reduceIte,Nat.reduceEqDiff];(try rfl);done)) | (apply Rf.i;first | rfl | assumption) | (apply Vl.i;((try simp (disch:=omega) only [VV,↓reduceIte,peqI,encP]);(try rfl);done)) | (apply Am.i;assumption) | (apply Pu.i;((try simp only [↓reduceIte,UU,RR,Nat.reduceAdd,Nat.reduceEqDiff,cellsP,putP,fillQ,flatQ,shP,sh1,encP]);(try rfl);done)) | (apply Om.i;((try simp only [MM]);(try omega);done)) | (apply Vw.i;exact VwA));(all_goals fail_if_success apply Mk.i)
  refine sput1_spec (l:=[n8,n9]) ⟨fun x hx=>hU x (by simp at hx ⊢;omega)⟩ ⟨wd_wide w⟩ ⟨by simp⟩ ⟨by ((try simp only [MM]);(try omega);done)⟩ ⟨rfl⟩ ⟨rfl⟩ (fun ok4=>?_) (fun no l'=>?_)
  rotate_left
  · refine W1 trivial trivial trivial ?_
    exact hk2 (by rw [rowOk_app,rowOk_app,rowOk_app,no,Bool.and_false,Bool.and_false,Bool.and_false])
  refine W1 trivial trivial trivial ?_
  have e1:rowB big (prs 4 [n0,n1])++rowB big (prs (wd w) [n2,n3,n4,n5])++rowB big (prs 4 [n6,n7])++rowB big (prs (wd w) [n8,n9])=rowB big (secP w n0 n1 n2 n3 n4 n5 n6 n7 n8 n9):=by simp only [rowB_app,List.append_assoc]
  rw [e1]
  exact hk1 (by rw [rowOk_app,rowOk_app,rowOk_app,ok1,ok2,ok3,ok4];rfl)
end
end Go.Proofs.YtcffpnlochillaaGreatDoor.PvW
end
section
namespace Go.Proofs.YtcffpnlochillaaGreatDoor.PvW
open Go.RowKit Go.Proofs.YtcffpnlochillaaGreatDoor.Cd Go.Proofs.YtcffpnlochillaaGreatDoor.AbP Go.Proofs.YtcffpnlochillaaGreatDoor.Num Go.Proofs.YtcffpnlochillaaGreatDoor.Pv
variable {K:PV→List OB→Prop}
section
variable {n0 n1 n2 n3 n4 n5 n6 n7 n8 n9:Int}
end
theorem sget1_spec {w big:Bool} {b:List Int} {a n:Int} (hB:Am (B b)) (hm:Om (b.length≤1000000000000)) (hn:Om (0≤n)) (ha:Om (0≤a)) (hU2:Om (a+n≤18446744073709551615))
    (hk:K (.int .u64 (getSpec b a n big).1) [.var [.sl (.int .u8) b],.var [.int .u64 (a+n)],.var [.bool w,.bool big]]) :
    PCalls Tryz.prog 138 [.int .i64 n,.ptr 0 0,.ptr 1 0,.ptr 2 0] [.var [.sl (.int .u8) b],.var [.int .u64 a],.var [.bool w,.bool big]] K:=by
  refine told_callS sect_Get_1.told fun Z hZ=>?_
  unfold sect_Get_1.c
  replace hB:=hB.o
  replace hm:=hm.o
  replace hn:=hn.o
  replace ha:=ha.o
  replace hU2:=hU2.o
  refine W1 trivial trivial @get_spec ?_
  exact ⟨_,rfl,rfl,hk⟩
abbrev secW (w:Bool):List Int:=[4,4,wd w,wd w,wd w,wd w,4,4,wd w,wd w]
theorem secW_wide (w:Bool):∀ n ∈ secW w,wideB n=true:=by cases w <;> decide
theorem secW_sum (w:Bool):sumL (secW w)=if w=true then 64 else 40:=by cases w <;> rfl

def secV (l:List Int):PV:=.agg [.int .u32 (IntKind.u32.wrap (l.getD 0 0)),.int .u32 (IntKind.u32.wrap (l.getD 1 0)),.int .u64 (l.getD 2 0),.int .u64 (l.getD 3 0),.int .u64 (l.getD 4 0),.int .u64 (l.getD 5 0),.int .u32 (IntKind.u32.wrap (l.getD 6 0)),.int .u32 (IntKind.u32.wrap (l.getD 7 0)),.int .u64 (l.getD 8 0),.int .u64 (l.getD 9 0)]
theorem sget_spec {w big:Bool} {b:List Int} {a:Int} (hB:Am (B b)) (hm:Om (b.length≤1000000000000)) (ha:Om (0≤a∧a≤18446744073709551615))
    (hk1:a+(if w=true then 64 else 40)≤(b.length:Int)→K (.tup [secV (gets b big a (secW w)),.nilI]) [])
    (hk2:¬ a+(if w=true then 64 else 40)≤(b.length:Int)→K (.tup [secV [],eCode 2]) []) :
    PCalls Tryz.prog 97 [.sl (.int .u8) b,.int .u64 a,.agg [.bool w,.bool big]] [] K:=by
  refine told_callP sect_Get.told fun Z hZ=>?_
  unfold sect_Get.c
  replace hB:=hB.o
  replace hm:=hm.o
  obtain ⟨a0,a1⟩:=ha.o
  have hwd:=wd_le w
  have hsz:0≤(if w=true then (64:Int) else 40)∧(if w=true then (64:Int) else 40)≤64:=by cases w <;> decide
  have hsum:=secW_sum w
  simp only [sumL] at hsum
  by_cases hc:a+(if w=true then 64 else 40)≤(b.length:Int)
  · have e:withinB a (if w=true then 64 else 40) b.length=true:=by unfold withinB;simp;omega
    have hk:=hk1 hc
    clear hk1 hk2
    refine W1 @e trivial (And.intro @ssize_spec (And.intro @within_spec @sword_spec)) ?_
    iterate 10
      (apply cf_S [0,1,2];(repeat any_goals first | exact mp_z | apply mp_s | exact rs_z | apply rs_t | apply rs_n | apply rs_c);(repeat any_goals first | (apply Lk.i;(simp only [↓LL,↓reduceIte,Nat.reduceEqDiff];(try rfl);done)) | (apply Rf.i;first | rfl | assumption) | (apply Vl.i;((try simp (disch:=omega) only [VV,↓reduceIte,peqI,encP]);(try rfl);done)) | (apply Am.i;assumption) | (apply Pu.i;((try simp only [↓reduceIte,UU,RR,Nat.reduceAdd,Nat.reduceEqDiff,cellsP,putP,fillQ,flatQ,shP,sh1,encP]);(try rfl);done)) | (apply Om.i;((try simp only [MM]);(try omega);done)) | (apply Vw.i;exact VwA));(all_goals fail_if_success apply Mk.i))
      refine sget1_spec ⟨hB⟩ ⟨hm⟩ ⟨by omega⟩ ⟨by omega⟩ ⟨by omega⟩ ?_
      refine W1 trivial trivial trivial ?_
    exact hk
  · have e:withinB a (if w=true then 64 else 40) b.length=false:=by unfold withinB;rw [Bool.and_eq_false_iff];simp;omega
    have hk:=hk2 hc
    clear hk1 hk2
    refine W1 @e trivial (And.intro @ssize_spec (And.intro @within_spec @sword_spec)) ?_
    exact hk
end Go.Proofs.YtcffpnlochillaaGreatDoor.PvW
end
section
namespace Go.Proofs.YtcffpnlochillaaGreatDoor.PvW
open Go.RowKit Go.Proofs.YtcffpnlochillaaGreatDoor.Cd Go.Proofs.YtcffpnlochillaaGreatDoor.AbP Go.Proofs.YtcffpnlochillaaGreatDoor.Num Go.Proofs.YtcffpnlochillaaGreatDoor.Pv
variable {K:PV→List OB→Prop}
abbrev eSpot (at' c:Int):PV:=.ifc 131 (.ref [.int .i64 at',.int .i64 c] 0)
theorem spotS_spec {c a:Int} (hk:K (.tup [.int .i64 c,.int .i64 a]) []):PCalls Tryz.prog 24 [eSpot a c] [] K:=by
  refine told_callP bezantlaw00_Spot.told fun Z hZ=>?_
  unfold bezantlaw00_Spot.c
  refine W1 trivial trivial trivial ?_
  exact hk
theorem sumL_bound:∀ {ns:List Int},(∀ n ∈ ns,0≤n∧n≤100)→0≤sumL ns∧sumL ns≤100 * ns.length
  | [],_=>⟨Int.le_refl _,Int.le_refl _⟩
  | n :: ns, h => by
    have ih:=sumL_bound (ns:=ns) (fun x hx=>h x (by simp [hx]))
    have hn:=h n (by simp)
    show 0≤n+sumL ns∧n+sumL ns≤100 * ((ns.length+1:Nat):Int)
    omega
theorem sumL_snoc:∀ (ns:List Int) (n:Int),sumL (ns++[n])=sumL ns+n
  | [],n=>by simp [sumL]
  | m :: ns, n => by
    have:=sumL_snoc ns n
    show m+sumL (ns++[n])=m+sumL ns+n
    omega
theorem sum_spec {ns:List Int} (h:Am (∀ n ∈ ns,0≤n∧n≤100)) (hl:Om (ns.length≤1000)) (hk:K (.int .i64 (sumL ns)) []):PCalls Tryz.prog 60 [.sl (.int .i64) ns] [] K:=by
  refine told_callP bezantref04_Sum.told fun Z hZ=>?_
  unfold bezantref04_Sum.c
  replace h:=h.o
  replace hl:=hl.o
  refine W1 trivial trivial trivial ?_
  refine w_lp (fun q e s=>s=[]∧∃ i:Nat,q+i=ns.length∧e 0 = .sl (.int .i64) ns∧e 3 = .int .i64 (sumL (ns.take i))∧e 4 = .int .i64 i) ns.length ?_ ?_
  · exact ⟨rfl,0,rfl,by exact lk trivial,by exact lk trivial,by exact lk trivial⟩
  rintro q e s ⟨rfl,i,hi,e0,e3,e4⟩
  have hb:=sumL_bound (ns:=ns.take i) (fun x hx=>h x (List.mem_of_mem_take hx))
  rw [List.length_take] at hb
  by_cases hq:i < ns.length
  · have hn:=h _ (getD_mem hq)
    have ht:sumL (ns.take (i+1))=sumL (ns.take i)+ns.getD i 0:=by rw [take_snoc hq,sumL_snoc]
    refine W1 (And.intro @e0 (And.intro @e3 @e4)) @DD trivial ?_
    exact ⟨q - 1,by omega,rfl,i+1,by omega,by exact lk @e0,by rw [ht];exact lk trivial,by exact lk @e4⟩
  · obtain rfl:i=ns.length:=by omega
    rw [List.take_length] at e3 hb
    refine W1 (And.intro @e0 (And.intro @e3 @e4)) @DD trivial ?_
    exact hk
end Go.Proofs.YtcffpnlochillaaGreatDoor.PvW
end
