/- A heap of plain values, walks over it, and functions of the program met by them: no statement of the set is proved in this text. -/
import Derived.Test.YtcffpnlochillaaKb34
import Derived.Test.YtcffpnlochillaaKb43
set_option linter.unusedVariables false
set_option linter.unusedSimpArgs false
set_option maxRecDepth 100000
set_option maxHeartbeats 4000000
section
namespace Go.Proofs.Ytcffpnlochillaa.PvW
open Go.RowKit Go.Proofs.Ytcffpnlochillaa.Cd Go.Proofs.Ytcffpnlochillaa.AbP Go.Proofs.Ytcffpnlochillaa.Num Go.Proofs.Ytcffpnlochillaa.Pv
theorem ownBytes {b:List Int} {off fs:Int} (ho:0≤off) (hf:0≤fs):List.drop off.toNat (List.take (off+fs).toNat b)=(b.drop off.toNat).take fs.toNat:=by
  rw [List.drop_take]
  congr 1
  omega
theorem im_seg {b:List Int} {L:List dProgM.T} {t fl off va pa fs me al:Int}:imF (segOf b L (t,fl,off,va,pa,fs,me,al,PUnit.unit))=if t=1 then [(va,me,fl,(b.drop off.toNat).take fs.toNat,PUnit.unit)] else []:=by
  unfold imF
  by_cases h:t=1
  · rw [if_pos h]
    refine (if_pos h).trans ?_
    have e:segPl b L (t,fl,off,va,pa,fs,me,al,PUnit.unit)=ownP b off fs:=if_pos h
    show [(va,me,fl,(segPl b L (t,fl,off,va,pa,fs,me,al,PUnit.unit)).2.2.2,PUnit.unit)]=_
    rw [e]
    rfl
  · rw [if_neg h]
    exact if_neg h
section
variable {K:PV→List OB→Prop}
theorem ifile_spec {b:List Int} {n:Nat} (hB:B b) (hb:b.length≤1000000) (h0:headBad b=none) (hn:(hdV b).getD 9 0=n) (hn2:n≤16) (hin:n=0∨(hdV b).getD 4 0+n * psz (hdW b)≤b.length) (hE:∀ i,i < n→loadE b (hdW b) (hdB b) ((hdV b).getD 4 0) i=none)
    (hk:K (.tup [.agg [.int .u64 ((hdV b).getD 3 0),.sl dRegI (imL (segsP b (loadsP b (hdW b) (hdB b) ((hdV b).getD 4 0) n)))],.nilI]) []) :
    PCalls Try.prog 7 [.sl (.int .u8) b] [] K:=by
  refine told_callP image_File.told fun Z hZ=>?_
  unfold image_File.c
  refine W1 trivial @DD trivial ?_
  refine hget_spec ⟨hB⟩ ⟨hb⟩ (fun a c hh=>by rw [h0] at hh;cases hh) (fun hh=>?_)
  obtain ⟨v0,v1,v3,v4,v5,v6,v9,v11,v12⟩:=hdV_N hB
  unfold U64 at v3 v4 v5
  show Aft _ _ _ _ _ _ _ _ (.tup [.agg [.bool (hdW b),.bool (hdB b),.int .u8 (b.getD 7 0),.int .u8 (b.getD 8 0),.int .u16 ((hdV b).getD 0 0),.int .u16 ((hdV b).getD 1 0),.int .u64 ((hdV b).getD 3 0),.int .u64 ((hdV b).getD 4 0),.int .u64 ((hdV b).getD 5 0),.int .u32 ((hdV b).getD 6 0),.int .u16 ((hdV b).getD 9 0),.int .u16 ((hdV b).getD 11 0),.int .u16 ((hdV b).getD 12 0)],.nilI]) _
  rw [hn]
  clear h0 hh hn
  generalize (hdV b).getD 0 0=ty at *
  generalize (hdV b).getD 1 0=ma at *
  generalize (hdV b).getD 3 0=en at *
  generalize (hdV b).getD 4 0=po at *
  generalize (hdV b).getD 5 0=so at *
  generalize (hdV b).getD 6 0=fl at *
  generalize (hdV b).getD 11 0=sn at *
  generalize (hdV b).getD 12 0=sx at *
  generalize hdW b=w at *
  generalize hdB b=big at *
  generalize b.getD 7 0=o at *
  generalize b.getD 8 0=ab at *
  have hpz:32≤psz w∧psz w≤56:=by cases w <;> decide
  have hcz:IntKind.wrap .u64 (if w=true then 56 else 32)=psz w:=by cases w <;> rfl
  have hcn:IntKind.wrap .u64 (n:Int)=n:=by rw [wU64];omega
  have hcb:IntKind.wrap .u64 (b.length:Int)=b.length:=by rw [wU64];omega
  have hnz:0≤(n:Int) * psz w∧(n:Int) * psz w≤5000:=by cases w <;> simp only [psz,Bool.false_eq_true,↓reduceIte] <;> omega
  have hwr:IntKind.wrap .u64 ((n:Int) * psz w)=(n:Int) * psz w:=by rw [wU64];omega
  have hLat:∀ j,j < n→∃ t fl off va pa fs me al:Int,loadAt b w big po j=(t,fl,off,va,pa,fs,me,al,PUnit.unit)∧ProgN t fl off va pa fs me al∧(fs=0∨off+fs≤b.length):=fun j hj=>by
    obtain ⟨t,pf,off,va,pa,fs,me,al,hx,hN⟩:=loadAt_N hB w big po j
    exact ⟨t,pf,off,va,pa,fs,me,al,hx,hN,loadE_none (hE j hj) hx hN.fs.1 hN.off.1⟩
  have hsl:(segsP b (loadsP b w big po n)).length=n:=by unfold segsP;rw [List.length_map,loadsP_len]
  have hsat:∀ j,j < n→(segsP b (loadsP b w big po n))[j]? = some (segOf b (loadsP b w big po n) (loadAt b w big po j)):=fun j hj=>by
    unfold segsP
    rw [List.getElem?_map,loadsP_at hj]
    rfl
  generalize hSG:segsP b (loadsP b w big po n)=SG at *
  generalize loadsP b w big po n=Lo at *
  have hcond:n=0∨withinB po ((n:Int) * psz w) b.length=true:=by
    rcases hin with h | h
    · exact .inl h
    · right
      simp only [withinB,Bool.and_eq_true,decide_eq_true_eq]
      omega
  by_cases hz:n=0
  · refine W1 trivial (And.intro @DD (And.intro @hcz (And.intro @hcn @hcb))) @psize_spec ?_
    apply x_virtV 2 1 dRegI;(repeat any_goals first | exact mp_z | apply mp_s | exact rs_z | apply rs_t | apply rs_n | apply rs_c);(repeat any_goals first | (apply Lk.i;(simp only [↓LL,↓reduceIte,Nat.reduceEqDiff];(try rfl);done)) | (apply Rf.i;first | rfl | assumption) | (apply Vl.i;((try simp (disch:=omega) only [VV,↓reduceIte,peqI,encP]);(try rfl);done)) | (apply Am.i;assumption) | (apply Pu.i;((try simp only [↓reduceIte,UU,RR,Nat.reduceAdd,Nat.reduceEqDiff,cellsP,putP,fillQ,flatQ,shP,sh1,encP]);(try rfl);done)) | (apply Om.i;((try simp only [MM]);(try omega);done)) | (apply Vw.i;exact VwA));(all_goals fail_if_success apply Mk.i)
    refine w_lpG (fun q e s=>∃ i:Nat,q+i=n∧s=[.var [.int .u64 0,.nilS],.var [.bool w,.bool big,.int .u8 o,.int .u8 ab,.int .u16 ty,.int .u16 ma,.int .u64 en,.int .u64 po,.int .u64 so,.int .u32 fl,.int .u16 n,.int .u16 sn,.int .u16 sx],.var [.int .u64 en,.osl 4 (imL (SG.take i)).length],.var [.bool w,.bool big],.arr dRegI (imL (SG.take i))]∧e 0 = .sl (.int .u8) b∧e 2 = .ptr 0 0∧e 3 = .nilI∧e 4 = .ptr 1 0∧e 6 = .ptr 2 0∧e 7 = .ptr 3 0∧e 8 = .int .u64 (psz w)∧e 57 = .int .u64 n∧e 58 = .int .u64 i) n ?_ ?_
    · exact ⟨0,rfl,rfl,by exact lk trivial,by exact lk trivial,by exact lk trivial,by exact lk trivial,by exact lk trivial,by exact lk trivial,by exact lk trivial,by exact lk trivial,by exact lk trivial⟩
    rintro q e s ⟨i,hi,rfl,e0,e2,e3,e4,e6,e7,e8,e57,e58⟩
    obtain rfl:i=n:=by omega
    rw [List.take_of_length_le (by omega)]
    refine ghW (Gh.frzC (b:=2) (j:=1) (b':=4) (D':=dRegI) (l:=imL SG) rfl rfl rfl rfl) ?_
    refine W1 (And.intro @e0 (And.intro @e2 (And.intro @e3 (And.intro @e4 (And.intro @e6 (And.intro @e7 (And.intro @e8 (And.intro @e57 @e58)))))))) @DD trivial ?_
    exact hk
  have hcond:withinB po ((n:Int) * psz w) b.length=true:=by rcases hcond with h | h;omega;exact h
  refine W1 trivial (And.intro @DD (And.intro @hcz (And.intro @hcn (And.intro @hcb @hwr)))) (And.intro @psize_spec @within_ok) ?_
  apply x_virtV 2 1 dRegI;(repeat any_goals first | exact mp_z | apply mp_s | exact rs_z | apply rs_t | apply rs_n | apply rs_c);(repeat any_goals first | (apply Lk.i;(simp only [↓LL,↓reduceIte,Nat.reduceEqDiff];(try rfl);done)) | (apply Rf.i;first | rfl | assumption) | (apply Vl.i;((try simp (disch:=omega) only [VV,↓reduceIte,peqI,encP]);(try rfl);done)) | (apply Am.i;assumption) | (apply Pu.i;((try simp only [↓reduceIte,UU,RR,Nat.reduceAdd,Nat.reduceEqDiff,cellsP,putP,fillQ,flatQ,shP,sh1,encP]);(try rfl);done)) | (apply Om.i;((try simp only [MM]);(try omega);done)) | (apply Vw.i;exact VwA));(all_goals fail_if_success apply Mk.i)
  refine w_lpG (fun q e s=>∃ i:Nat,q+i=n∧s=[.var [.int .u64 0,.nilS],.var [.bool w,.bool big,.int .u8 o,.int .u8 ab,.int .u16 ty,.int .u16 ma,.int .u64 en,.int .u64 po,.int .u64 so,.int .u32 fl,.int .u16 n,.int .u16 sn,.int .u16 sx],.var [.int .u64 en,.osl 4 (imL (SG.take i)).length],.var [.bool w,.bool big],.arr dRegI (imL (SG.take i))]∧e 0 = .sl (.int .u8) b∧e 2 = .ptr 0 0∧e 3 = .nilI∧e 4 = .ptr 1 0∧e 6 = .ptr 2 0∧e 7 = .ptr 3 0∧e 8 = .int .u64 (psz w)∧e 57 = .int .u64 n∧e 58 = .int .u64 i) n ?_ ?_
  · exact ⟨0,rfl,rfl,by exact lk trivial,by exact lk trivial,by exact lk trivial,by exact lk trivial,by exact lk trivial,by exact lk trivial,by exact lk trivial,by exact lk trivial,by exact lk trivial⟩
  rintro q e s ⟨i,hi,rfl,e0,e2,e3,e4,e6,e7,e8,e57,e58⟩
  by_cases hq:i < n
  · obtain ⟨t,pf,off,va,pa,fs,me,al,hx,hN,hof⟩:=hLat i hq
    have hat:=hsat i hq
    rw [hx] at hat
    have hsn:=im_snoc hat
    rw [im_seg] at hsn
    have hil:=im_len (SG.take i)
    rw [List.length_take] at hil
    unfold loadAt at hx
    have hno:=hN.off
    have hnf:=hN.fs
    have hnt:=hN.t
    have hiz:(i:Int) * psz w+psz w≤(n:Int) * psz w:=by
      have:((i+1:Nat):Int) * psz w≤(n:Int) * psz w:=Int.mul_le_mul_of_nonneg_right (by omega) (by omega)
      have e:((i+1:Nat):Int) * psz w=(i:Int) * psz w+psz w:=by push_cast;rw [Int.add_mul,Int.one_mul]
      omega
    have hi0:0≤(i:Int) * psz w:=Int.mul_nonneg (by omega) (by omega)
    have hin':po+n * psz w≤b.length:=by rcases hin with h | h;omega;exact h
    have hw1:IntKind.wrap .u64 ((i:Int) * psz w)=(i:Int) * psz w:=by rw [wU64];omega
    have hw2:IntKind.wrap .u64 (po+(i:Int) * psz w)=po+(i:Int) * psz w:=by rw [wU64];omega
    have hle:po+(i:Int) * psz w+psz w≤(b.length:Int):=by omega
    clear hLat hsat
    generalize imL (SG.take i)=G at *
    by_cases h1:t=1
    rotate_left
    · rw [if_neg h1,List.append_nil] at hsn
      refine W1 (And.intro @e0 (And.intro @e2 (And.intro @e3 (And.intro @e4 (And.intro @e6 (And.intro @e7 (And.intro @e8 (And.intro @e57 @e58)))))))) (And.intro @DD (And.intro @hw1 @hw2)) @pgetT_spec ?_
      exact ⟨q - 1,by omega,_,_,Gh.sel [0,1,2,3,4] (by decide) (hz0 hZ),i+1,by omega,by rw [hsn];rfl,by exact lk @e0,by exact lk @e2,by exact lk @e3,by exact lk @e4,by exact lk @e6,by exact lk @e7,by exact lk @e8,by exact lk @e57,by exact lk @e58⟩
    rw [if_pos h1] at hsn
    by_cases h2:fs=0
    · rw [h2] at hsn
      refine W1 (And.intro @e0 (And.intro @e2 (And.intro @e3 (And.intro @e4 (And.intro @e6 (And.intro @e7 (And.intro @e8 (And.intro @e57 @e58)))))))) (And.intro @DD (And.intro @hw1 @hw2)) @pgetT_spec ?_
      exact ⟨q - 1,by omega,_,_,Gh.sel [0,1,2,3,4] (by decide) (hz0 hZ),i+1,by omega,by rw [hsn,List.length_append];rfl,by exact lk @e0,by exact lk @e2,by exact lk @e3,by exact lk @e4,by exact lk @e6,by exact lk @e7,by exact lk @e8,by exact lk @e57,by exact lk @e58⟩
    have hwi:withinB off fs b.length=true:=by
      simp only [withinB,Bool.and_eq_true,decide_eq_true_eq]
      omega
    have hw3:IntKind.wrap .u64 (off+fs)=off+fs:=by rw [wU64];omega
    have hob:=ownBytes (b:=b) hno.1 hnf.1
    refine W1 (And.intro @e0 (And.intro @e2 (And.intro @e3 (And.intro @e4 (And.intro @e6 (And.intro @e7 (And.intro @e8 (And.intro @e57 @e58)))))))) (And.intro @DD (And.intro @hw1 (And.intro @hw2 (And.intro @hw3 @hcb)))) (And.intro @pgetT_spec @within_ok) ?_
    rw [hob]
    refine fclone_spec ⟨by rw [List.length_take,List.length_drop];omega⟩ ?_
    refine W1 (And.intro @e0 (And.intro @e2 (And.intro @e3 (And.intro @e4 (And.intro @e6 (And.intro @e7 (And.intro @e8 (And.intro @e57 @e58)))))))) @DD (@oArr 7 dRegI) ?_
    exact ⟨q - 1,by omega,_,_,Gh.sel [0,1,2,3,4] (by decide) (hz0 hZ),i+1,by omega,by rw [hsn,List.length_append];rfl,by exact lk @e0,by exact lk @e2,by exact lk @e3,by exact lk @e4,by exact lk @e6,by exact lk @e7,by exact lk @e8,by exact lk @e57,by exact lk @e58⟩
  obtain rfl:i=n:=by omega
  rw [List.take_of_length_le (by omega)]
  refine ghW (Gh.frzC (b:=2) (j:=1) (b':=4) (D':=dRegI) (l:=imL SG) rfl rfl rfl rfl) ?_
  refine W1 (And.intro @e0 (And.intro @e2 (And.intro @e3 (And.intro @e4 (And.intro @e6 (And.intro @e7 (And.intro @e8 (And.intro @e57 @e58)))))))) @DD trivial ?_
  exact hk
end
end Go.Proofs.Ytcffpnlochillaa.PvW
end
