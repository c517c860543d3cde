/- A heap of plain values, walks over it, and functions of the program met by them: no statement of the set is proved in this text. -/
import Derived.Test.YtcffpnlochillaaGreatDoorKb03
import Derived.Test.YtcffpnlochillaaGreatDoorKb41
set_option linter.unusedVariables false
set_option linter.unusedSimpArgs false
set_option maxRecDepth 100000
set_option maxHeartbeats 4000000
section
namespace Go.Proofs.YtcffpnlochillaaGreatDoor.Pv
open Go.RowKit Go.Proofs.YtcffpnlochillaaGreatDoor.Ab Go.Proofs.YtcffpnlochillaaGreatDoor.AbP Go.Proofs.YtcffpnlochillaaGreatDoor.Num
def GCalls (g:World→Prop) (P:Program) (f:FuncId) (args:List PV) (s:List OB) (K:PV→List OB→Prop):Prop :=
  ∀ h E i vs,g h.old→SR ⟨h,E,i,s⟩ h E i s→PRs ⟨Hp.mask h E,i,s⟩ args vs→ACalls P f vs h (CallK K ⟨h,E,i,s⟩)
section
variable {g:World→Prop} {P:Program} {Z:Bs} {K:Env→List OB→Prop} {e:Env} {s s':List OB} {cs:List CO} {pr:List Operand} {d:Option Nat} {kp:Bool}
theorem told_callG0 {f N:Nat} {ac:AC} {rs:List RV} (t:IsTold P f N ac rs) {args:List PV} {s:List OB} {K:PV→List OB→Prop} (hk:∀ Z:Bs,Z.s=s→g Z.h.old→pwp P Z ac (retP rs K) (initE args) s) (ha:args.length≤N:=by first | decide | simp):GCalls g P f args s K:=by
  intro h E i vs hg S A
  refine t.call ?_ (by rw [← A.1];exact ha)
  refine awp_mono ac _ _ (fun x f h' hx=>?_) _ _ (hk ⟨h,E,i,s⟩ rfl hg (initF vs) h ⟨E,i,S,.init A⟩)
  obtain ⟨e,s',h1,E',i',S',R'⟩:=hx
  have fin:∀ l,prvs e s' rs=some l→K (onep l) s'→∃ l,rvs f h' rs=some l∧CallK K ⟨h,E,i,s⟩ (one l) h':=fun l hl hK=>by
    obtain ⟨us,k1,k2⟩:=prvs_rvs S' R' hl
    exact ⟨us,k1,onep l,s',E',i',hK,S',onep_PR k2⟩
  cases x with
  | normal=>obtain ⟨l,hl,hK⟩:=h1;exact fin l hl hK
  | ret=>obtain ⟨l,hl,hK⟩:=h1;exact fin l hl hK
  | _=>exact h1.elim

theorem told_callG {f N:Nat} {ac:AC} {rs:List RV} (t:IsTold P f N ac rs) {args:List PV} {K:PV→List OB→Prop} (hk:∀ Z:Bs,Z.s=[]→g Z.h.old→pwp P Z ac (retP rs (gcK K)) (initE args) []) (ha:args.length≤N:=by first | decide | simp):GCalls g P f args [] K:=by
  intro h E i vs hg S A
  refine (told_callG0 t hk ha h E i vs hg S A).mono fun v h' hc=>?_
  obtain ⟨p,s',E',i',⟨r,hg,hK⟩,S',hp⟩:=hc
  obtain ⟨i2,S2,hp2⟩:=gc_spec S' hg hp
  exact ⟨r.1,r.2,E',i2,hK,S2,hp2⟩
theorem ca_GP {f:FuncId} {ps:List PV} (hg:Am (g Z.h.old)) (hper:Rf (ps.all per3=true)) (hk:GCalls g P f ps [] (Aft P Z pr cs K e s d)):CaG P Z pr cs K e s d kp f ps:=fun xs ha fr h ⟨E,i,S,R⟩=>by
  have A:=perL (X:=⟨Hp.mask h E,i,s⟩) (Y:=⟨Hp.mask h E,i,[]⟩) (fun p v q=>per3_PR q (.refl _)) hper.o (R.map ha)
  have S0:SR ⟨h,E,i,[]⟩ h E i []:=⟨fun id o h=>by simp at h,fun _ _ _ _ _ h=>by simp at h,rfl,Nat.le_refl _,fun b k hb _=>⟨hb,rfl⟩,fun b ⟨id,o,ho,_⟩=>by simp at ho,.refl _⟩
  refine s_call ((hk h E i _ (by rw [S.old];exact hg.o) S0 A).mono fun v h' ⟨p,t,E',i',⟨k1,k2,k3⟩,T,hp⟩=>?_)
  obtain ⟨S',hkp⟩:=S.frame T k2
  exact ⟨fun _=>hkp,k3 _ _ ⟨E',_,S.after S',(R.mono S'.le).put (shP_PR k1 hp)⟩⟩

theorem ca_GF {f:FuncId} {ps:List PV} (hg:Am (g Z.h.old)) (hkp:Rf (kp=false)) (hk:GCalls g P f ps s (fun p s'=>pops P Z pr cs K (putE e d p) s')):CaG P Z pr cs K e s d kp f ps:=fun xs ha fr h ⟨E,i,S,R⟩=>by
  have A:=R.map ha
  exact s_call ((hk h E i _ (by rw [S.old];exact hg.o) S.base A).mono fun v h' ⟨p,s',E',i',k1,T,hp⟩=>⟨fun hh=>(by rw [hkp.o] at hh;cases hh),k1 _ _ ⟨E',i',S.after T,(R.mono T.le).put hp⟩⟩)
theorem law_callG {f:FuncId} {ps:List PV} {us:List Value} {w:World} (hg:g w) (hk:GCalls g P f ps [] fun p _=>p = .bool true) (ha:PRs ⟨⟨w,[]⟩,fun _=>none,[]⟩ ps us):ACalls P f us ⟨w,[]⟩ fun v _=>v = .bool true:=by
  have S0:SR ⟨⟨w,[]⟩,fun _=>false,fun _=>none,[]⟩ ⟨w,[]⟩ (fun _=>false) (fun _=>none) []:=⟨fun id o h=>by simp at h,fun _ _ _ _ _ h=>by simp at h,rfl,Nat.le_refl _,fun b k hb _=>⟨hb,rfl⟩,fun b ⟨id,o,ho,_⟩=>by simp at ho,.refl _⟩
  refine (hk ⟨w,[]⟩ (fun _=>false) (fun _=>none) us hg S0 ha).mono fun v h' ⟨p,t,E',i',h1,_,hp⟩=>?_
  subst h1
  exact hp.bool_inv
end
theorem Rel.allocW {R:AR} {h:Hp} {w:World} (hr:Rel R h w) (c:Array Value) (t:TypeId):Rel R h (w.alloc (.cells c t)):=by
  have hp:∀ j,j < w.heap.size→(w.alloc (.cells c t)).heap[j]? = w.heap[j]?:=fun j hj=>by
    show (w.heap.push _)[j]? = _
    rw [Array.getElem?_push,if_neg (by omega)]
  refine ⟨hr.base,⟨hr.below.os,hr.below.tape,hr.below.output,?_,fun j hj=>?_⟩,hr.dead,fun b cb cs cc hb=>?_,hr.inj⟩
  · have:=hr.below.size
    show _≤(w.heap.push _).size
    rw [Array.size_push]
    have h2:h.old.heap.size≤w.heap.size:=this
    omega
  · have:=hr.below.size
    have h2:h.old.heap.size≤w.heap.size:=this
    have h3:j < h.old.heap.size:=hj
    rw [hp j (by omega)]
    exact hr.below.block j hj
  · obtain ⟨h0,k3,hk3,hb3⟩:=hr.blk _ _ _ _ hb
    refine ⟨h0,k3,hk3,hb3.live,hb3.lo,hb3.room,hb3.len,hb3.one,?_⟩
    obtain ⟨c3,t3,fz3,hm3,r3⟩:=hb3.mem
    exact ⟨c3,t3,fz3,by rw [hp cb (Array.getElem?_eq_some_iff.1 hm3).1];exact hm3,r3⟩
theorem storeOne {P:Program} {w:World} {a:Addr} {v old:Value} (ho:v.oneCell'=true) (hc:w.cell? a=some old) (hf:w.frozen? a=false):(storeCells a [v] 0).run P w = .ok () (w.setCell a v):=by
  have ha:Addr.add a 0=a:=rfl
  simp only [storeCells,Sem.run_bind,ha]
  rw [run_store P w a v _ ho,hc]
  simp [hf,Result.andThen]

def laidG (w:World):Prop:=w.cell? ⟨0,0,none⟩=some (.iface 224 (.agg #[.pointer (some ⟨2,42,none⟩)]))
theorem laid_lt {w:World} (h:laidG w):0 < w.heap.size:=by
  unfold laidG at h
  rcases Nat.eq_zero_or_pos w.heap.size with h0 | h1
  · simp [World.cell?,h0] at h
  · exact h1
theorem as_G {s:List OB} {b:Nat} {x c:Int} {K:PV→List OB→Prop} (hb:s[b]? = some (.var [.int .i64 x])) (hk:K (.bool true) (s.set b (.var [.int .i64 c]))):GCalls laidG Tryz.prog 45 [.ifc 96 (.int .i64 c),.ifc 108 (.ptr b 0)] s K:=by
  intro h E i vs hg S A
  obtain ⟨v1,t1,rfl,P1,A⟩:=A.uncons
  obtain ⟨v2,t2,rfl,P2,A⟩:=A.uncons
  obtain rfl:t2=[]:=List.eq_nil_of_length_eq_zero A.1.symm
  obtain ⟨u1,rfl,Q1⟩:=P1.ifc_inv
  obtain rfl:=Q1.int_inv
  obtain ⟨u2,rfl,Q2⟩:=P2.ifc_inv
  obtain ⟨k,us,q1,q2,q3,q4,q5⟩:=own_cells S hb
  obtain ⟨k',q6,rfl⟩:=Q2.ptr_inv ⟨_,hb,rfl⟩
  have q6:i b=some k':=q6
  rw [q1] at q6
  obtain rfl:=Option.some.inj q6
  obtain ⟨u0,t0,rfl,P0,P00⟩:=q5.uncons
  obtain rfl:t0=[]:=List.eq_nil_of_length_eq_zero P00.1.symm
  obtain rfl:=P0.int_inv
  have hcell:h.cell? ⟨k,0,none⟩=some (.int .i64 x):=blk_cell q3 rfl rfl
  have hlo:=(Hp.blk_lt q3).1
  have hw:=write_at q3 rfl (o:=0) (vs:=[.int .i64 c]) (by simp) (by rfl)
  refine ⟨⟨_,Tryz.func45,by rfl,by rfl⟩,fun R w args' hr hv=>?_⟩
  obtain ⟨a1,t1,rfl,r1,hv⟩:=hv.uncons
  obtain ⟨a2,t2,rfl,r2,hv⟩:=hv.uncons
  obtain rfl:t2=[]:=List.eq_nil_of_length_eq_zero hv.1.symm
  cases r1 with
  | iface _ _ _ r1 =>
  cases r1
  cases r2 with
  | iface _ _ _ r2 =>
  cases r2 with
  | ptr _ a' ha =>
  obtain ⟨old,hold,-,-⟩:=hr.cell ha hcell
  have hfz:w.frozen? a'=false:=by
    cases ha with
    | old _ hb=>rw [hr.base] at hb;have hb:k < h.old.heap.size:=hb;omega
    | new b' o cb cs cc hb hrho =>
      obtain ⟨-,k2,hk2,hbr⟩:=hr.blk _ _ _ _ hrho
      rw [q3] at hk2
      obtain rfl:=Option.some.inj hk2
      obtain ⟨c0,t0,fz,hm,hs,hf,hvr⟩:=hbr.mem
      have hl:=hbr.len
      have hl:1≤cs:=hl
      have:=hf.2 0 (by omega)
      simp only [World.frozen?,hm]
      rw [Bool.eq_false_iff]
      intro hh
      simp only [Bool.and_eq_true,decide_eq_true_eq] at hh
      exact this hh
    | dead _ _ hb hd =>
      obtain ⟨-,k2,h2,h3⟩:=hr.dead _ hd
      rw [q3] at h2
      obtain rfl:=Option.some.inj h2
      cases h3
    | junk _ _ hb hs=>cases hs
  have hgl:w.cell? ⟨0,0,none⟩=some (.iface 224 (.agg #[.pointer (some ⟨2,42,none⟩)])):=(hr.below.cell (laid_lt hg)).trans hg
  refine (PvAs.as_hit c a' old w hgl hold hfz).mono fun ev W he=>?_
  obtain ⟨rfl,rfl⟩:=he
  have hr4:=Rel.allocW (Rel.allocW (Rel.allocW (Rel.allocW hr #[.pointer (some a')] 108) #[.pointer (some ⟨2,108,none⟩),.pointer (some ⟨w.heap.size,0,none⟩),.int .u64 150] 181) #[.pointer (some ⟨2,108,none⟩),.pointer (some ⟨w.heap.size,0,none⟩),.int .u64 150] 181) #[.int .i64 c] 96
  obtain ⟨W',hst,hS⟩:=Rel.write Tryz.prog hr4 ha (VRs.cons (.int .i64 c) (.nil R)) hw
  obtain ⟨old',hold',-,-⟩:=hr4.cell ha hcell
  have htl:a'.block < w.heap.size:=by
    rcases Nat.lt_or_ge a'.block w.heap.size with h | h
    · exact h
    · simp [World.cell?,Array.getElem?_eq_none h] at hold
  have e1:=storeOne (P:=Tryz.prog) (v:=.int .i64 c) (by rfl) hold' (by
    rw [World.frozen?_alloc_old _ _ a' (by simp;omega),World.frozen?_alloc_old _ _ a' (by simp;omega),World.frozen?_alloc_old _ _ a' (by simp;omega),World.frozen?_alloc_old _ _ a' (Nat.ne_of_lt htl)]
    exact hfz)
  rw [e1] at hst
  injection hst with _ hst
  subst hst
  refine ⟨.bool true,.bool true,_,R,?_,rfl,.bool true,hS⟩
  obtain ⟨S',le'⟩:=S.upd b (.var [.int .i64 x]) (.var [.int .i64 c]) (i b) (h.setBlk k ⟨putAt [.int .i64 x] 0 [.int .i64 c],0,true⟩) E hb (by rfl) (by rw [Hp.next_set];exact Nat.le_refl _)
    (fun b' k' hb' hne=>by
      have hne':b'≠k:=fun e=>hne ⟨rfl,by rw [e];exact q1⟩
      exact ⟨by rw [Hp.blk_set_ne _ _ hlo hne'];exact hb',rfl⟩)
    (fun b' _ hb'=>.inl ⟨rfl,hb'⟩) rfl ⟨fun _=>⟨rfl,rfl⟩,fun es n h=>by simp [OB.sig] at h⟩
    (fun le=>⟨k,_,(ups_at _ _ _).trans q1,q2,Hp.blk_set _ _ q3,rfl,.cons (.int .i64 c) (.nil _)⟩)
  exact ⟨.bool true,_,E,_,hk,S',.bool true⟩
end Go.Proofs.YtcffpnlochillaaGreatDoor.Pv
end
