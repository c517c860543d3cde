/- A heap of plain values, walks over it, and functions of the program met by them: no statement of the set is proved in this text. -/
import Derived.Test.YtcffpnlochillaaKb24
import Derived.Test.YtcffpnlochillaaKb26
import Derived.Test.YtcffpnlochillaaKb30
set_option linter.unusedVariables false
set_option linter.unusedSimpArgs false
set_option maxRecDepth 100000
set_option maxHeartbeats 4000000
section
namespace Go.Proofs.Ytcffpnlochillaa.PvW
open Go.RowKit Go.Proofs.Ytcffpnlochillaa.Cd Go.Proofs.Ytcffpnlochillaa.AbP Go.Proofs.Ytcffpnlochillaa.Num Go.Proofs.Ytcffpnlochillaa.Pv
def firstE (f:Nat→Option (Int×Int)):Nat→Option (Int×Int)
  | 0=>none
  | n + 1 => match firstE f n with
    | some x=>some x
    | none=>f n
theorem firstE_none {f:Nat→Option (Int×Int)}:∀ {n:Nat},(∀ i,i < n→f i=none)→firstE f n=none
  | 0,_=>rfl
  | n + 1, h => by
    show (match firstE f n with | some x=>some x | none=>f n)=none
    rw [firstE_none (n:=n) (fun i hi=>h i (by omega))]
    exact h n (by omega)
abbrev dSectM:Ab.D:=(.st (.cons (.int .u32) (.cons (.int .u32) (.cons (.int .u64) (.cons (.int .u64) (.cons (.int .u64) (.cons (.int .u64) (.cons (.int .u32) (.cons (.int .u32) (.cons (.int .u64) (.cons (.int .u64) .nil)))))))))))

def progG (w:Bool) (l:List Int):dProgM.T:=if w=true then (IntKind.u32.wrap (l.getD 0 0),IntKind.u32.wrap (l.getD 1 0),l.getD 2 0,l.getD 3 0,l.getD 4 0,l.getD 5 0,l.getD 6 0,l.getD 7 0,PUnit.unit)
  else (IntKind.u32.wrap (l.getD 0 0),IntKind.u32.wrap (l.getD 6 0),l.getD 1 0,l.getD 2 0,l.getD 3 0,l.getD 4 0,l.getD 5 0,l.getD 7 0,PUnit.unit)
def sectG (l:List Int):dSectM.T:=(IntKind.u32.wrap (l.getD 0 0),IntKind.u32.wrap (l.getD 1 0),l.getD 2 0,l.getD 3 0,l.getD 4 0,l.getD 5 0,IntKind.u32.wrap (l.getD 6 0),IntKind.u32.wrap (l.getD 7 0),l.getD 8 0,l.getD 9 0,PUnit.unit)
def sect0:dSectM.T:=((0:Int),(0:Int),(0:Int),(0:Int),(0:Int),(0:Int),(0:Int),(0:Int),(0:Int),(0:Int),PUnit.unit)
def pl (w:Bool) (x y:Int):Int:=if w=true then y else x

def sectionsP (b:List Int) (w big:Bool) (so sn:Int):Except (Int×Int) (dSectM.T×Int) :=
  if so=0 then (if sn=0 then .ok (sect0,0) else .error (pl w 48 60,4))
  else if so+ssz w≤b.length then
    let x:=sectG (gets b big so (secW w))
    let n:Int:=if sn=0 then x.2.2.2.2.2.1 else sn
    if n=0∨65 < n then .error (pl w 32 40,8) else if withinB so (n * ssz w) b.length=true then .ok (x,n) else .error (pl w 32 40,5)
  else .error (pl w 32 40,5)

def programsP (b:List Int) (w:Bool) (po so pn sx:Int) (x:dSectM.T):Except (Int×Int) (Int×Int) :=
  if pn=65535∧so=0 then .error (pl w 44 56,4) else
  let np:Int:=if pn=65535 then x.2.2.2.2.2.2.2.1 else pn
  if 16 < np then .error (pl w 44 56,8) else if 0 < np∧withinB po (np * psz w) b.length=false then .error (pl w 28 32,5)
  else if sx=65535∧so=0 then .error (pl w 50 62,4) else .ok (np,if sx=65535 then x.2.2.2.2.2.2.1 else sx)
def loadAt (b:List Int) (w big:Bool) (po:Int) (i:Nat):dProgM.T:=progG w (gets b big (po+i * psz w) (progW w))
def loadE (b:List Int) (w big:Bool) (po:Int) (i:Nat):Option (Int×Int) :=
  if @LT.lt Int _ 0 (loadAt b w big po i).2.2.2.2.2.1∧withinB (loadAt b w big po i).2.2.1 (loadAt b w big po i).2.2.2.2.2.1 b.length=false then some (po+i * psz w,5) else none
def loadsP (b:List Int) (w big:Bool) (po:Int) (n:Nat):List dProgM.T:=(List.range n).map (loadAt b w big po)
def plT (p:Place4):Int×Int×Int×List Int×Unit:=(p.1,p.2.1,p.2.2.1,p.2.2.2,())
def segPl (b:List Int) (loads:List dProgM.T) (x:dProgM.T):Place4:=if @Eq Int x.1 1 then ownP b x.2.2.1 x.2.2.2.2.2.1 else findP b x.2.2.1 x.2.2.2.2.2.1 loads 0
def segOf (b:List Int) (loads:List dProgM.T) (x:dProgM.T):dSeg.T:=(x.1,x.2.1,x.2.2.2.1,x.2.2.2.2.1,x.2.2.2.2.2.2.1,x.2.2.2.2.2.2.2.1,plT (segPl b loads x),PUnit.unit)
def secAt (b:List Int) (w big:Bool) (so:Int) (i:Nat):dSectM.T:=sectG (gets b big (so+i * ssz w) (secW w))
def secSz (x:dSectM.T):Int:=if @Eq Int x.2.1 0∨@Eq Int x.2.1 8 then 0 else x.2.2.2.2.2.1
def secE (b:List Int) (w big:Bool) (so:Int) (i:Nat):Option (Int×Int) :=
  if 0 < secSz (secAt b w big so i)∧withinB (secAt b w big so i).2.2.2.2.1 (secSz (secAt b w big so i)) b.length=false then some (so+i * ssz w,5) else none
def secPl (b:List Int) (loads:List dProgM.T) (st:Int) (i:Nat) (x:dSectM.T):Place4 :=
  if @Eq Int x.2.1 0∨@Eq Int x.2.1 8 then (-1,0,0,[]) else if (i:Int)=st then ownP b x.2.2.2.2.1 x.2.2.2.2.2.1 else findP b x.2.2.2.2.1 x.2.2.2.2.2.1 loads 0
def secOf (b:List Int) (loads:List dProgM.T) (st:Int) (i:Nat) (x:dSectM.T):dSec.T:=(x.1,x.2.1,x.2.2.1,x.2.2.2.1,x.2.2.2.2.2.1,x.2.2.2.2.2.2.1,x.2.2.2.2.2.2.2.1,x.2.2.2.2.2.2.2.2.1,x.2.2.2.2.2.2.2.2.2.1,plT (secPl b loads st i x),PUnit.unit)
def segsP (b:List Int) (loads:List dProgM.T):List dSeg.T:=loads.map (segOf b loads)
def secsP (b:List Int) (w big:Bool) (so:Int) (loads:List dProgM.T) (st:Int) (n:Nat):List dSec.T:=(List.range n).map fun k=>secOf b loads st (k+1) (secAt b w big so (k+1))
inductive PRes where
  | bad (a c:Int)
  | ok (segs:List dSeg.T) (secs:List dSec.T) (st:Int)
noncomputable def lastP (w:Bool) (en:Int) (segs:List dSeg.T) (secs:List dSec.T) (st:Int):PRes :=
  if wrongC w en segs secs st=0 then (if (planV w segs secs).ov=true then .bad 0 8 else .ok segs secs st) else .bad 0 (wrongC w en segs secs st)
noncomputable def bodyP (b:List Int) (w big:Bool) (en po so pn sn sx:Int):PRes :=
  match sectionsP b w big so sn with
  | .error e=>.bad e.1 e.2
  | .ok r => match programsP b w po so pn sx r.1 with
    | .error e=>.bad e.1 e.2
    | .ok q => match firstE (loadE b w big po) q.1.toNat with
      | some e=>.bad e.1 e.2
      | none => match firstE (fun k => secE b w big so (k + 1)) (r.2 - 1).toNat with
        | some e=>.bad e.1 e.2
        | none=>lastP w en (segsP b (loadsP b w big po q.1.toNat)) (secsP b w big so (loadsP b w big po q.1.toNat) q.2 (r.2 - 1).toNat) q.2
abbrev hdW (b:List Int):Bool:=decide (b.getD 4 0=2)
abbrev hdB (b:List Int):Bool:=decide (b.getD 5 0=2)
abbrev hdV (b:List Int):List Int:=gets b (hdB b) 16 (headW (hdW b))

noncomputable def parseP (b:List Int):PRes :=
  if 65536 < b.length then .bad 65536 8 else match headBad b with
  | some e=>.bad e.1 e.2
  | none=>bodyP b (hdW b) (hdB b) ((hdV b).getD 3 0) ((hdV b).getD 4 0) ((hdV b).getD 5 0) ((hdV b).getD 9 0) ((hdV b).getD 11 0) ((hdV b).getD 12 0)

structure ProgN (t fl off va pa fs me al:Int):Prop where
  t:0≤t∧t≤4294967295
  fl:0≤fl∧fl≤4294967295
  off:0≤off∧off≤18446744073709551615
  va:0≤va∧va≤18446744073709551615
  pa:0≤pa∧pa≤18446744073709551615
  fs:0≤fs∧fs≤18446744073709551615
  me:0≤me∧me≤18446744073709551615
  al:0≤al∧al≤18446744073709551615
structure SectN (nm ty fl ad off si li sf al en:Int):Prop where
  nm:0≤nm∧nm≤4294967295
  ty:0≤ty∧ty≤4294967295
  fl:0≤fl∧fl≤18446744073709551615
  ad:0≤ad∧ad≤18446744073709551615
  off:0≤off∧off≤18446744073709551615
  si:0≤si∧si≤18446744073709551615
  li:0≤li∧li≤4294967295
  sf:0≤sf∧sf≤4294967295
  al:0≤al∧al≤18446744073709551615
  en:0≤en∧en≤18446744073709551615
theorem get_U64 {b:List Int} (hB:B b) {a n:Int} (big:Bool) (hn:wideB n=true):U64 (getSpec b a n big).1:=by
  have h:=getSpec_range (a:=a) (n:=n) (big:=big) hB _ rfl
  obtain ⟨m,rfl,h1,h2⟩:=wide_nat hn
  have hp:(256:Int) ^ m≤256 ^ 8:=pow_mono h2
  have e8:(256:Int) ^ 8=18446744073709551616:=by decide
  rw [Int.toNat_natCast] at h
  exact ⟨h.1,by omega⟩
theorem gets_U64 {b:List Int} (hB:B b) (big:Bool):∀ (ns:List Int) (a:Int),(∀ n ∈ ns,wideB n=true)→∀ j,U64 ((gets b big a ns).getD j 0)
  | [],a,_,j=>⟨by simp [gets],by simp [gets]⟩
  | n::ns,a,h,0=>get_U64 hB big (h n (by simp))
  | n::ns,a,h,j+1=>gets_U64 hB big ns (a+n) (fun m hm=>h m (by simp [hm])) j
theorem wrap32_N (n:Int):0≤IntKind.u32.wrap n∧IntKind.u32.wrap n≤4294967295:=by rw [wU32];omega
theorem progG_N {b:List Int} (hB:B b) (w big:Bool) (a:Int):∃ t fl off va pa fs me al:Int,progG w (gets b big a (progW w))=(t,fl,off,va,pa,fs,me,al,PUnit.unit)∧ProgN t fl off va pa fs me al:=by
  have h:=gets_U64 hB big (progW w) a (progW_wide w)
  unfold progG
  cases w
  · exact ⟨_,_,_,_,_,_,_,_,rfl,wrap32_N _,wrap32_N _,h 1,h 2,h 3,h 4,h 5,h 7⟩
  · exact ⟨_,_,_,_,_,_,_,_,rfl,wrap32_N _,wrap32_N _,h 2,h 3,h 4,h 5,h 6,h 7⟩
section
variable {K:PV→List OB→Prop}
theorem pgetT_spec {w big:Bool} {b:List Int} {a t fl off va pa fs me al:Int} (hB:Am (B b)) (hm:Om (b.length≤1000000)) (ha:Om (0≤a∧a≤18446744073709551615)) (hx:Am (progG w (gets b big a (progW w))=(t,fl,off,va,pa,fs,me,al,PUnit.unit))) (hle:Am (a+psz w≤(b.length:Int)))
    (hk:K (.tup [.agg [.int .u32 t,.int .u32 fl,.int .u64 off,.int .u64 va,.int .u64 pa,.int .u64 fs,.int .u64 me,.int .u64 al],.nilI]) []) :
    PCalls Try.prog 19 [.sl (.int .u8) b,.int .u64 a,.agg [.bool w,.bool big]] [] K:=by
  have hm:=hm.o
  have hx:=hx.o
  refine pget_spec hB ⟨by omega⟩ ha (fun _=>?_) (fun h=>absurd hle.o h)
  unfold progG at hx
  unfold progV
  cases w
  · simp only [Bool.false_eq_true,↓reduceIte,Prod.mk.injEq] at hx ⊢
    obtain ⟨rfl,rfl,rfl,rfl,rfl,rfl,rfl,rfl,-⟩:=hx
    exact hk
  · simp only [↓reduceIte,Prod.mk.injEq] at hx ⊢
    obtain ⟨rfl,rfl,rfl,rfl,rfl,rfl,rfl,rfl,-⟩:=hx
    exact hk
end
end Go.Proofs.Ytcffpnlochillaa.PvW
end
section
namespace Go.Proofs.Ytcffpnlochillaa.PvW
open Go.RowKit Go.Proofs.Ytcffpnlochillaa.Cd Go.Proofs.Ytcffpnlochillaa.AbP Go.Proofs.Ytcffpnlochillaa.Num Go.Proofs.Ytcffpnlochillaa.Pv
theorem loadsP_len {b:List Int} {w big:Bool} {po:Int} {i:Nat}:(loadsP b w big po i).length=i:=by simp [loadsP]
theorem loadAt_N {b:List Int} (hB:B b) (w big:Bool) (po:Int) (i:Nat):∃ t fl off va pa fs me al:Int,loadAt b w big po i=(t,fl,off,va,pa,fs,me,al,PUnit.unit)∧ProgN t fl off va pa fs me al:=progG_N hB w big _
theorem loadsP_at {b:List Int} {w big:Bool} {po:Int} {n i:Nat} (hi:i < n):(loadsP b w big po n)[i]? = some (loadAt b w big po i):=by
  unfold loadsP
  rw [List.getElem?_map,List.getElem?_range hi]
  rfl
theorem within_le {a n m:Int} (h:withinB a n m=true):a≤m∧n≤m - a:=by
  simpa only [withinB,Bool.and_eq_true,decide_eq_true_eq] using h
theorem loadE_none {b:List Int} {w big:Bool} {po:Int} {i:Nat} {t fl off va pa fs me al:Int} (h:loadE b w big po i=none) (e:loadAt b w big po i=(t,fl,off,va,pa,fs,me,al,PUnit.unit)) (hf:0≤fs) (ho:0≤off):fs=0∨off+fs≤b.length:=by
  unfold loadE at h
  rw [e] at h
  by_cases h0:fs=0
  · exact .inl h0
  right
  cases hw:withinB off fs b.length with
  | true=>have:=within_le hw;omega
  | false =>
    have h:(if 0 < fs∧withinB off fs b.length=false then some (po+(i:Int) * psz w,(5:Int)) else none)=none:=h
    rw [if_pos ⟨by omega,hw⟩] at h
    cases h
section
variable {K:PV→List OB→Prop} {b:List Int} {w big:Bool} {o ab ty ma en po so fl pn sn sx np ns f0 f1 f2 f3 f4 f5 f6 f7 f8 f9 st:Int} {loads:List dProgM.T} {segs:List dSeg.T} {secs:List dSec.T}
end
end Go.Proofs.Ytcffpnlochillaa.PvW
end
