/- A heap of plain values, walks over it, and functions of the program met by them: no statement of the set is proved in this text. -/
import Derived.Test.YtcffpnlochillaaKb18
import Derived.Test.YtcffpnlochillaaKb28
set_option linter.unusedVariables false
set_option linter.unusedSimpArgs false
set_option maxRecDepth 100000
set_option maxHeartbeats 4000000
section
namespace Go.Proofs.Ytcffpnlochillaa.PvW
open Go.RowKit Go.Proofs.Ytcffpnlochillaa.Cd Go.Proofs.Ytcffpnlochillaa.AbP Go.Proofs.Ytcffpnlochillaa.Num Go.Proofs.Ytcffpnlochillaa.Pv
variable {K:PV→List OB→Prop}
abbrev hpr (w:Bool):Int:=if w=true then 56 else 32
abbrev hsc (w:Bool):Int:=if w=true then 64 else 40
theorem hword_spec {w b:Bool} (hk:K (.int .i64 (wd w)) []):PCalls Try.prog 25 [.agg [.bool w,.bool b]] [] K:=by
  refine told_callP head_word.told fun Z hZ=>?_
  unfold head_word.c
  cases w
  all_goals
    refine W1 trivial trivial trivial ?_
    exact hk
theorem hparts_spec {w b:Bool} (hk:K (.tup [.int .u64 (hpr w),.int .u64 (hsc w)]) []):PCalls Try.prog 27 [.agg [.bool w,.bool b]] [] K:=by
  refine told_callP head_parts.told fun Z hZ=>?_
  unfold head_parts.c
  cases w
  all_goals
    refine W1 trivial trivial trivial ?_
    exact hk
theorem hof_spec {b:Bool} {a:Int} (hk:K (.int .u64 (if b=true then a else 0)) []):PCalls Try.prog 31 [.bool b,.int .u64 a] [] K:=by
  refine told_callP head_of.told fun Z hZ=>?_
  unfold head_of.c
  cases b
  all_goals
    refine W1 trivial trivial trivial ?_
    exact hk
theorem hput1_spec {n:Int} {l bs:List Int} {w big:Bool} {nb m:Nat} (hU:Am (∀ x ∈ l,U64 x)) (hw:Rf (wideB n=true)) (hl:Om (l.length≤20)) (hb:Om (bs.length≤1000)) (hm:Om (m=l.length)) (hnb:Om (nb=bs.length))
    (hk:K (.tup []) [.var [.osl 1 (bs++rowB big (prs n l)).length],.arr (.int .u8) (bs++rowB big (prs n l)),.var [.bool w,.bool big],.arr (.int .u64) l]) :
    PCalls Try.prog 29 [.int .i64 n,.osl 3 m,.ptr 0 0,.ptr 2 0] [.var [.osl 1 nb],.arr (.int .u8) bs,.var [.bool w,.bool big],.arr (.int .u64) l] K:=by
  refine told_callS head_Put_1.told fun Z hZ=>?_
  unfold head_Put_1.c
  replace hU:=hU.o
  replace hw:=hw.o
  replace hl:=hl.o
  replace hb:=hb.o
  obtain rfl:=hm.o
  obtain rfl:=hnb.o
  have hzl:∀ b,b < Z.s.length→[0,1,2,3][b]? = some b:=by rw [hZ];intro b hb;simp at hb;rcases b with _ | _ | _ | _ | b <;> first | rfl | omega
  refine W1 trivial trivial trivial ?_
  refine w_lpG (fun q e s=>∃ i:Nat,q+i=l.length∧s=[.var [.osl 1 (bs++rowB big (prs n (l.take i))).length],.arr (.int .u8) (bs++rowB big (prs n (l.take i))),.var [.bool w,.bool big],.arr (.int .u64) l]∧e 0 = .int .i64 n∧e 2 = .ptr 0 0∧e 3 = .ptr 2 0∧e 8 = .osl 3 l.length∧e 9 = .int .i64 l.length∧e 10 = .int .i64 i) l.length ?_ ?_
  · exact ⟨0,rfl,by simp [prs,rowB],by exact lk trivial,by exact lk trivial,by exact lk trivial,by exact lk trivial,by exact lk trivial,by exact lk trivial⟩
  rintro q e s ⟨i,hi,rfl,e0,e2,e3,e8,e9,e10⟩
  by_cases hq:i < l.length
  · have hu:=hU _ (getD_mem hq)
    unfold U64 at hu
    have hlen:(rowB big (prs n (l.take i))).length≤8 * 20:=by
      refine Nat.le_trans (rowB_le _ _) ?_
      simp [prs]
      omega
    have hpt:=prs_take (n:=n) hq
    have hp:=putSpec_le (l.getD i 0) n big
    refine W1 (And.intro @e0 (And.intro @e2 (And.intro @e3 (And.intro @e8 (And.intro @e9 @e10))))) @DD @put_spec ?_
    have er:rowB big (prs n (l.take (i+1)))=rowB big (prs n (l.take i))++putSpec (l.getD i 0) n big:=by rw [hpt,rowB_app];simp [rowB]
    refine ⟨q - 1,by omega,_,_,Gh.sel [0,1,2,3] (by decide) hzl,i+1,by omega,?_,by exact lk @e0,by exact lk @e2,by exact lk @e3,by exact lk @e8,by exact lk @e9,by exact lk @e10⟩
    have ea:((bs++rowB big (prs n (l.take i)))++putSpec (l.getD i 0) n big).length=(bs++rowB big (prs n (l.take i))).length+(putSpec (l.getD i 0) n big).length:=List.length_append
    rw [er,← List.append_assoc,ea]
    rfl
  · obtain rfl:i=l.length:=by omega
    rw [List.take_length] at ⊢
    refine W1 (And.intro @e0 (And.intro @e2 (And.intro @e3 (And.intro @e8 (And.intro @e9 @e10))))) @DD trivial ?_
    exact ⟨_,rfl,rfl,hk⟩
section
variable {o a ty ma en po so fl pn sn st:Int}
structure HeadN (o a ty ma en po so fl pn sn st:Int):Prop where
  o:0≤o∧o≤255
  a:0≤a∧a≤255
  ty:0≤ty∧ty≤65535
  ma:0≤ma∧ma≤65535
  en:U64 en
  po:U64 po
  so:U64 so
  fl:0≤fl∧fl≤4294967295
  pn:0≤pn∧pn≤65535
  sn:0≤sn∧sn≤65535
  st:0≤st∧st≤65535
abbrev headP (w:Bool) (ty ma en po so fl pn sn st:Int):List (Int×Int):=prs 2 [ty,ma]++(prs 4 [1]++(prs (wd w) [en,po,so]++(prs 4 [fl]++prs 2 [hsz w,if decide (0 < pn)=true then hpr w else 0,pn,if decide (0 < so)=true then hsc w else 0,sn,st])))
abbrev headB (w big:Bool) (o a ty ma en po so fl pn sn st:Int):List Int:=idB w big o a++rowB big (headP w ty ma en po so fl pn sn st)
abbrev headOk (w:Bool) (en po so:Int):Bool:=fitsB en (wd w) && fitsB po (wd w) && fitsB so (wd w)
theorem hput_spec {w big:Bool} (hG:Am (HeadN o a ty ma en po so fl pn sn st))
    (hk1:headOk w en po so=true→K (.tup [.osl 0 (headB w big o a ty ma en po so fl pn sn st).length,.nilI]) [.arr (.int .u8) (headB w big o a ty ma en po so fl pn sn st)])
    (hk2:headOk w en po so=false→K (.tup [.nilS,eCode 1]) []) :
    PCalls Try.prog 13 [.agg [.bool w,.bool big,.int .u8 o,.int .u8 a,.int .u16 ty,.int .u16 ma,.int .u64 en,.int .u64 po,.int .u64 so,.int .u32 fl,.int .u16 pn,.int .u16 sn,.int .u16 st]] [] K:=by
  obtain ⟨⟨g0,h0⟩,⟨g1,h1⟩,⟨g2,h2⟩,⟨g3,h3⟩,⟨g4,h4⟩,⟨g5,h5⟩,⟨g6,h6⟩,⟨g7,h7⟩,⟨g8,h8⟩,⟨g9,h9⟩,⟨g10,h10⟩⟩:=hG.o
  refine told_callP head_Put.told fun Z hZ=>?_
  unfold head_Put.c
  unfold headOk at hk1 hk2
  cases f1:fitsB en (wd w)
  · rw [f1] at hk2
    refine W1 @f1 @DD (And.intro @hword_spec @fits_spec) ?_
    exact hk2 rfl
  cases f2:fitsB po (wd w)
  · rw [f1,f2] at hk2
    refine W1 (And.intro @f1 @f2) @DD (And.intro @hword_spec @fits_spec) ?_
    exact hk2 rfl
  cases f3:fitsB so (wd w)
  · rw [f1,f2,f3] at hk2
    refine W1 (And.intro @f1 (And.intro @f2 @f3)) @DD (And.intro @hword_spec @fits_spec) ?_
    exact hk2 rfl
  rw [f1,f2,f3] at hk1
  replace hk1:=hk1 rfl
  have hpz:0≤hpr w∧hpr w≤56:=by cases w <;> decide
  have hsz0:0≤hsc w∧hsc w≤64:=by cases w <;> decide
  have hsz1:0≤hsz w∧hsz w≤64:=by cases w <;> decide
  have hc1:0≤(if decide (0 < pn)=true then hpr w else 0)∧(if decide (0 < pn)=true then hpr w else 0)≤56:=by split <;> omega
  have hc2:0≤(if decide (0 < so)=true then hsc w else 0)∧(if decide (0 < so)=true then hsc w else 0)≤64:=by split <;> omega
  have hl0:∀ x ∈ [ty,ma],U64 x:=by simp only [List.forall_mem_cons,U64];exact ⟨⟨by omega,by omega⟩,⟨by omega,by omega⟩,fun _ h=>by cases h⟩
  have hl1:∀ x ∈ [(1:Int)],U64 x:=by simp only [List.forall_mem_cons,U64];exact ⟨⟨by omega,by omega⟩,fun _ h=>by cases h⟩
  have hl2:∀ x ∈ [en,po,so],U64 x:=by simp only [List.forall_mem_cons,U64];exact ⟨⟨by omega,by omega⟩,⟨by omega,by omega⟩,⟨by omega,by omega⟩,fun _ h=>by cases h⟩
  have hl3:∀ x ∈ [fl],U64 x:=by simp only [List.forall_mem_cons,U64];exact ⟨⟨by omega,by omega⟩,fun _ h=>by cases h⟩
  have hl4:∀ x ∈ [hsz w,if decide (0 < pn)=true then hpr w else 0,pn,if decide (0 < so)=true then hsc w else 0,sn,st],U64 x:=by
    simp only [List.forall_mem_cons,U64]
    exact ⟨⟨by omega,by omega⟩,⟨by omega,by omega⟩,⟨by omega,by omega⟩,⟨by omega,by omega⟩,⟨by omega,by omega⟩,⟨by omega,by omega⟩,fun _ h=>by cases h⟩
  have hidl:(idB w big o a).length=16:=rfl
  refine W1 (And.intro @f1 (And.intro @f2 @f3)) @DD (And.intro @hword_spec (And.intro @fits_spec (And.intro @hparts_spec @iput_spec))) ?_
  apply f_arr 4 (.int .u64);(repeat any_goals first | exact mp_z | apply mp_s | exact rs_z | apply rs_t | apply rs_n | apply rs_c);(repeat any_goals first | (apply Lk.i;(simp only [↓LL,↓reduceIte,Nat.reduceEqDiff];(try rfl);done)) | (apply Rf.i;first | rfl | assumption) | (apply Vl.i;((try simp (disch:=omega) only [VV,↓reduceIte,peqI,encP]);(try rfl);done)) | (apply Am.i;assumption) | (apply Pu.i;((try simp only [↓reduceIte,UU,RR,Nat.reduceAdd,Nat.reduceEqDiff,cellsP,putP,fillQ,flatQ,shP,sh1,encP]);(try rfl);done)) | (apply Om.i;((try simp only [MM]);(try omega);done)) | (apply Vw.i;exact VwA));(all_goals fail_if_success apply Mk.i)
  apply cf_S [3,2,1,4];(repeat any_goals first | exact mp_z | apply mp_s | exact rs_z | apply rs_t | apply rs_n | apply rs_c);(repeat any_goals first | (apply Lk.i;(simp only [↓LL,↓reduceIte,Nat.reduceEqDiff];(try rfl);done)) | (apply Rf.i;first | rfl | assumption) | (apply Vl.i;((try simp (disch:=omega) only [VV,↓reduceIte,peqI,encP]);(try rfl);done)) | (apply Am.i;assumption) | (apply Pu.i;((try simp only [↓reduceIte,UU,RR,Nat.reduceAdd,Nat.reduceEqDiff,cellsP,putP,fillQ,flatQ,shP,sh1,encP]);(try rfl);done)) | (apply Om.i;((try simp only [MM]);(try omega);done)) | (apply Vw.i;exact VwA));(all_goals fail_if_success apply Mk.i)
  refine hput1_spec (n:=2) (l:=[ty,ma]) (bs:=idB w big o a) ⟨hl0⟩ ⟨rfl⟩ ⟨by simp⟩ ⟨by ((try simp only [MM]);(try omega);done)⟩ ⟨rfl⟩ ⟨rfl⟩ ?_
  have hle0:=rowB_le big (prs (2) [ty,ma])
  have hpl0:(prs (2) [ty,ma]).length=2:=by simp [prs]
  refine W1 trivial @DD (And.intro @hsize_spec @hof_spec) ?_
  apply f_arr 5 (.int .u64);(repeat any_goals first | exact mp_z | apply mp_s | exact rs_z | apply rs_t | apply rs_n | apply rs_c);(repeat any_goals first | (apply Lk.i;(simp only [↓LL,↓reduceIte,Nat.reduceEqDiff];(try rfl);done)) | (apply Rf.i;first | rfl | assumption) | (apply Vl.i;((try simp (disch:=omega) only [VV,↓reduceIte,peqI,encP]);(try rfl);done)) | (apply Am.i;assumption) | (apply Pu.i;((try simp only [↓reduceIte,UU,RR,Nat.reduceAdd,Nat.reduceEqDiff,cellsP,putP,fillQ,flatQ,shP,sh1,encP]);(try rfl);done)) | (apply Om.i;((try simp only [MM]);(try omega);done)) | (apply Vw.i;exact VwA));(all_goals fail_if_success apply Mk.i)
  apply cf_S [3,2,1,5];(repeat any_goals first | exact mp_z | apply mp_s | exact rs_z | apply rs_t | apply rs_n | apply rs_c);(repeat any_goals first | (apply Lk.i;(simp only [↓LL,↓reduceIte,Nat.reduceEqDiff];(try rfl);done)) | (apply Rf.i;first | rfl | assumption) | (apply Vl.i;((try simp (disch:=omega) only [VV,↓reduceIte,peqI,encP]);(try rfl);done)) | (apply Am.i;assumption) | (apply Pu.i;((try simp only [↓reduceIte,UU,RR,Nat.reduceAdd,Nat.reduceEqDiff,cellsP,putP,fillQ,flatQ,shP,sh1,encP]);(try rfl);done)) | (apply Om.i;((try simp only [MM]);(try omega);done)) | (apply Vw.i;exact VwA));(all_goals fail_if_success apply Mk.i)
  refine hput1_spec (n:=4) (l:=[1]) ⟨hl1⟩ ⟨rfl⟩ ⟨by simp⟩ ⟨by ((try simp only [MM]);(try omega);done)⟩ ⟨rfl⟩ ⟨rfl⟩ ?_
  have hle1:=rowB_le big (prs (4) [1])
  have hpl1:(prs (4) [1]).length=1:=by simp [prs]
  refine W1 trivial @DD (And.intro @hsize_spec @hof_spec) ?_
  apply f_arr 6 (.int .u64);(repeat any_goals first | exact mp_z | apply mp_s | exact rs_z | apply rs_t | apply rs_n | apply rs_c);(repeat any_goals first | (apply Lk.i;(simp only [↓LL,↓reduceIte,Nat.reduceEqDiff];(try rfl);done)) | (apply Rf.i;first | rfl | assumption) | (apply Vl.i;((try simp (disch:=omega) only [VV,↓reduceIte,peqI,encP]);(try rfl);done)) | (apply Am.i;assumption) | (apply Pu.i;((try simp only [↓reduceIte,UU,RR,Nat.reduceAdd,Nat.reduceEqDiff,cellsP,putP,fillQ,flatQ,shP,sh1,encP]);(try rfl);done)) | (apply Om.i;((try simp only [MM]);(try omega);done)) | (apply Vw.i;exact VwA));(all_goals fail_if_success apply Mk.i)
  apply cf_S [3,2,1,6];(repeat any_goals first | exact mp_z | apply mp_s | exact rs_z | apply rs_t | apply rs_n | apply rs_c);(repeat any_goals first | (apply Lk.i;(simp only [↓LL,↓reduceIte,Nat.reduceEqDiff];(try rfl);done)) | (apply Rf.i;first | rfl | assumption) | (apply Vl.i;((try simp (disch:=omega) only [VV,↓reduceIte,peqI,encP]);(try rfl);done)) | (apply Am.i;assumption) | (apply Pu.i;((try simp only [↓reduceIte,UU,RR,Nat.reduceAdd,Nat.reduceEqDiff,cellsP,putP,fillQ,flatQ,shP,sh1,encP]);(try rfl);done)) | (apply Om.i;((try simp only [MM]);(try omega);done)) | (apply Vw.i;exact VwA));(all_goals fail_if_success apply Mk.i)
  refine hput1_spec (n:=wd w) (l:=[en,po,so]) ⟨hl2⟩ ⟨wd_wide w⟩ ⟨by simp⟩ ⟨by ((try simp only [MM]);(try omega);done)⟩ ⟨rfl⟩ ⟨rfl⟩ ?_
  have hle2:=rowB_le big (prs (wd w) [en,po,so])
  have hpl2:(prs (wd w) [en,po,so]).length=3:=by simp [prs]
  refine W1 trivial @DD (And.intro @hsize_spec @hof_spec) ?_
  apply f_arr 7 (.int .u64);(repeat any_goals first | exact mp_z | apply mp_s | exact rs_z | apply rs_t | apply rs_n | apply rs_c);(repeat any_goals first | (apply Lk.i;(simp only [↓LL,↓reduceIte,Nat.reduceEqDiff];(try rfl);done)) | (apply Rf.i;first | rfl | assumption) | (apply Vl.i;((try simp (disch:=omega) only [VV,↓reduceIte,peqI,encP]);(try rfl);done)) | (apply Am.i;assumption) | (apply Pu.i;((try simp only [↓reduceIte,UU,RR,Nat.reduceAdd,Nat.reduceEqDiff,cellsP,putP,fillQ,flatQ,shP,sh1,encP]);(try rfl);done)) | (apply Om.i;((try simp only [MM]);(try omega);done)) | (apply Vw.i;exact VwA));(all_goals fail_if_success apply Mk.i)
  apply cf_S [3,2,1,7];(repeat any_goals first | exact mp_z | apply mp_s | exact rs_z | apply rs_t | apply rs_n | apply rs_c);(repeat any_goals first | (apply Lk.i;(simp only [↓LL,↓reduceIte,Nat.reduceEqDiff];(try rfl);done)) | (apply Rf.i;first | rfl | assumption) | (apply Vl.i;((try simp (disch:=omega) only [VV,↓reduceIte,peqI,encP]);(try rfl);done)) | (apply Am.i;assumption) | (apply Pu.i;((try simp only [↓reduceIte,UU,RR,Nat.reduceAdd,Nat.reduceEqDiff,cellsP,putP,fillQ,flatQ,shP,sh1,encP]);(try rfl);done)) | (apply Om.i;((try simp only [MM]);(try omega);done)) | (apply Vw.i;exact VwA));(all_goals fail_if_success apply Mk.i)
  refine hput1_spec (n:=4) (l:=[fl]) ⟨hl3⟩ ⟨rfl⟩ ⟨by simp⟩ ⟨by ((try simp only [MM]);(try omega);done)⟩ ⟨rfl⟩ ⟨rfl⟩ ?_
  have hle3:=rowB_le big (prs (4) [fl])
  have hpl3:(prs (4) [fl]).length=1:=by simp [prs]
  refine W1 trivial @DD (And.intro @hsize_spec @hof_spec) ?_
  apply f_arr 8 (.int .u64);(repeat any_goals first | exact mp_z | apply mp_s | exact rs_z | apply rs_t | apply rs_n | apply rs_c);(repeat any_goals first | (apply Lk.i;(simp only [↓LL,↓reduceIte,Nat.reduceEqDiff];(try rfl);done)) | (apply Rf.i;first | rfl | assumption) | (apply Vl.i;((try simp (disch:=omega) only [VV,↓reduceIte,peqI,encP]);(try rfl);done)) | (apply Am.i;assumption) | (apply Pu.i;((try simp only [↓reduceIte,UU,RR,Nat.reduceAdd,Nat.reduceEqDiff,cellsP,putP,fillQ,flatQ,shP,sh1,encP]);(try rfl);done)) | (apply Om.i;((try simp only [MM]);(try omega);done)) | (apply Vw.i;exact VwA));(all_goals fail_if_success apply Mk.i)
  apply cf_S [3,2,1,8];(repeat any_goals first | exact mp_z | apply mp_s | exact rs_z | apply rs_t | apply rs_n | apply rs_c);(repeat any_goals first | (apply Lk.i;(simp only [↓LL,↓reduceIte,Nat.reduceEqDiff];(try rfl);done)) | (apply Rf.i;first | rfl | assumption) | (apply Vl.i;((try simp (disch:=omega) only [VV,↓reduceIte,peqI,encP]);(try rfl);done)) | (apply Am.i;assumption) | (apply Pu.i;((try simp only [↓reduceIte,UU,RR,Nat.reduceAdd,Nat.reduceEqDiff,cellsP,putP,fillQ,flatQ,shP,sh1,encP]);(try rfl);done)) | (apply Om.i;((try simp only [MM]);(try omega);done)) | (apply Vw.i;exact VwA));(all_goals fail_if_success apply Mk.i)
  refine hput1_spec (n:=2) (l:=[hsz w,if decide (0 < pn)=true then hpr w else 0,pn,if decide (0 < so)=true then hsc w else 0,sn,st]) ⟨hl4⟩ ⟨rfl⟩ ⟨by simp⟩ ⟨by ((try simp only [MM]);(try omega);done)⟩ ⟨rfl⟩ ⟨rfl⟩ ?_
  have hle4:=rowB_le big (prs (2) [hsz w,if decide (0 < pn)=true then hpr w else 0,pn,if decide (0 < so)=true then hsc w else 0,sn,st])
  have hpl4:(prs (2) [hsz w,if decide (0 < pn)=true then hpr w else 0,pn,if decide (0 < so)=true then hsc w else 0,sn,st]).length=6:=by simp [prs]
  refine W1 trivial @DD (And.intro @hsize_spec @hof_spec) ?_
  have e1:headB w big o a ty ma en po so fl pn sn st=idB w big o a++(rowB big (prs 2 [ty,ma])++rowB big (prs 4 [1])++rowB big (prs (wd w) [en,po,so])++rowB big (prs 4 [fl])++rowB big (prs 2 [hsz w,if decide (0 < pn)=true then hpr w else 0,pn,if decide (0 < so)=true then hsc w else 0,sn,st])):=by
    have e2:rowB big (headP w ty ma en po so fl pn sn st)=(rowB big (prs 2 [ty,ma])++rowB big (prs 4 [1])++rowB big (prs (wd w) [en,po,so])++rowB big (prs 4 [fl])++rowB big (prs 2 [hsz w,if decide (0 < pn)=true then hpr w else 0,pn,if decide (0 < so)=true then hsc w else 0,sn,st])):=by
      rw [rowB_app,rowB_app,rowB_app,rowB_app]
      simp only [List.append_assoc]
    exact congrArg (fun z=>idB w big o a++z) e2
  rw [e1] at hk1
  exact hk1
end
end Go.Proofs.Ytcffpnlochillaa.PvW
end
