/- A heap of plain values, walks over it, and functions of the program met by them: no statement of the set is proved in this text. -/
import Derived.Test.YtcffpnlochillaaKb22
import Derived.Test.YtcffpnlochillaaKb27
set_option linter.unusedVariables false
set_option linter.unusedSimpArgs false
set_option maxRecDepth 100000
set_option maxHeartbeats 4000000
section
namespace Go.Proofs.Ytcffpnlochillaa.PvW
open Go.RowKit Go.Proofs.Ytcffpnlochillaa.Cd Go.Proofs.Ytcffpnlochillaa.AbP Go.Proofs.Ytcffpnlochillaa.Num Go.Proofs.Ytcffpnlochillaa.Pv
variable {K:PV→List OB→Prop}
abbrev idB (w big:Bool) (o a:Int):List Int:=[127,69,76,70,if w=true then 2 else 1,if big=true then 2 else 1,1,o,a,0,0,0,0,0,0,0]
theorem ione_spec {b:Bool} (hk:K (.int .u8 (if b=true then 2 else 1)) []):PCalls Try.prog 41 [.bool b] [] K:=by
  refine told_callP ident_one.told fun Z hZ=>?_
  unfold ident_one.c
  cases b
  all_goals
    refine W1 trivial trivial trivial ?_
    exact hk
theorem iput_spec {w big:Bool} {o a:Int} (hk:K (.osl 0 16) [.arr (.int .u8) (idB w big o a)]):PCalls Try.prog 28 [.agg [.bool w,.bool big,.int .u8 o,.int .u8 a]] [] K:=by
  refine told_callP ident_Put.told fun Z hZ=>?_
  unfold ident_Put.c
  refine W1 trivial @DD (And.intro @ione_spec (@oArr 1 (.int .u8))) ?_
  exact hk

def idW (i:Nat) (c:Int):Int:=if i=0 then (if c=127 then 0 else 3) else if i=1 then (if c=69 then 0 else 3) else if i=2 then (if c=76 then 0 else 3) else if i=3 then (if c=70 then 0 else 3) else if i=6 then (if c=1 then 0 else 4) else (if c=1∨c=2 then 0 else 4)
theorem iwrong_spec {i c:Int} (hi:Om (0≤i∧i < 7)) (hk:K (.int .i64 (idW i.toNat c)) []):PCalls Try.prog 45 [.int .i64 i,.int .u8 c] [] K:=by
  obtain ⟨h0,h1⟩:=hi.o
  refine told_callP ident_wrong.told fun Z hZ=>?_
  unfold ident_wrong.c
  have hs:bytI ⟨#[127,69,76,70]⟩=[127,69,76,70]:=by decide
  have hsz:(⟨#[127,69,76,70]⟩:ByteArray).size=4:=rfl
  have hc:i=0∨i=1∨i=2∨i=3∨i=6∨i=4∨i=5:=by omega
  rcases hc with rfl | rfl | rfl | rfl | rfl | rfl | rfl
  · by_cases h:c=127
    · rw [show idW (0:Int).toNat c=0 by simp [idW,h]] at hk
      refine W1 trivial (And.intro @DD @hs) trivial ?_
      refine ps_no (fun hh=>hh h) ?_
      refine W1 trivial @DD trivial ?_
      exact hk
    · rw [show idW (0:Int).toNat c=3 by simp [idW,h]] at hk
      refine W1 trivial (And.intro @DD @hs) trivial ?_
      refine ps_yes h ?_
      refine W1 trivial @DD trivial ?_
      exact hk
  · by_cases h:c=69
    · rw [show idW (1:Int).toNat c=0 by simp [idW,h]] at hk
      refine W1 trivial (And.intro @DD @hs) trivial ?_
      refine ps_no (fun hh=>hh h) ?_
      refine W1 trivial @DD trivial ?_
      exact hk
    · rw [show idW (1:Int).toNat c=3 by simp [idW,h]] at hk
      refine W1 trivial (And.intro @DD @hs) trivial ?_
      refine ps_yes h ?_
      refine W1 trivial @DD trivial ?_
      exact hk
  · by_cases h:c=76
    · rw [show idW (2:Int).toNat c=0 by simp [idW,h]] at hk
      refine W1 trivial (And.intro @DD @hs) trivial ?_
      refine ps_no (fun hh=>hh h) ?_
      refine W1 trivial @DD trivial ?_
      exact hk
    · rw [show idW (2:Int).toNat c=3 by simp [idW,h]] at hk
      refine W1 trivial (And.intro @DD @hs) trivial ?_
      refine ps_yes h ?_
      refine W1 trivial @DD trivial ?_
      exact hk
  · by_cases h:c=70
    · rw [show idW (3:Int).toNat c=0 by simp [idW,h]] at hk
      refine W1 trivial (And.intro @DD @hs) trivial ?_
      refine ps_no (fun hh=>hh h) ?_
      refine W1 trivial @DD trivial ?_
      exact hk
    · rw [show idW (3:Int).toNat c=3 by simp [idW,h]] at hk
      refine W1 trivial (And.intro @DD @hs) trivial ?_
      refine ps_yes h ?_
      refine W1 trivial @DD trivial ?_
      exact hk
  · by_cases h:c=1
    · rw [show idW (6:Int).toNat c=0 by simp [idW,h]] at hk
      refine W1 trivial (And.intro @DD @hs) trivial ?_
      exact hk
    · rw [show idW (6:Int).toNat c=4 by simp [idW,h]] at hk
      refine W1 trivial (And.intro @DD @hs) trivial ?_
      exact hk
  · by_cases h:c=1
    · rw [show idW (4:Int).toNat c=0 by simp [idW,h]] at hk
      refine W1 trivial (And.intro @DD @hs) trivial ?_
      exact hk
    · by_cases h2:c=2
      · rw [show idW (4:Int).toNat c=0 by simp [idW,h2]] at hk
        refine W1 trivial (And.intro @DD @hs) trivial ?_
        exact hk
      · rw [show idW (4:Int).toNat c=4 by simp [idW,h,h2]] at hk
        refine W1 trivial (And.intro @DD @hs) trivial ?_
        exact hk
  · by_cases h:c=1
    · rw [show idW (5:Int).toNat c=0 by simp [idW,h]] at hk
      refine W1 trivial (And.intro @DD @hs) trivial ?_
      exact hk
    · by_cases h2:c=2
      · rw [show idW (5:Int).toNat c=0 by simp [idW,h2]] at hk
        refine W1 trivial (And.intro @DD @hs) trivial ?_
        exact hk
      · rw [show idW (5:Int).toNat c=4 by simp [idW,h,h2]] at hk
        refine W1 trivial (And.intro @DD @hs) trivial ?_
        exact hk

def idScan (b:List Int):Nat→Nat→Option (Int×Int)
  | _,0=>none
  | i,n+1=>if b.length≤i then some (i,2) else if idW i (b.getD i 0)≠0 then some (i,idW i (b.getD i 0)) else idScan b (i+1) n
def idBad (b:List Int):Option (Int×Int):=match idScan b 0 7 with
  | some x=>some x
  | none=>if b.length < 16 then some (b.length,2) else none
abbrev idZ:PV:=.agg [.bool false,.bool false,.int .u8 0,.int .u8 0]
abbrev idV (b:List Int):PV:=.agg [.bool (decide (b.getD 4 0=2)),.bool (decide (b.getD 5 0=2)),.int .u8 (b.getD 7 0),.int .u8 (b.getD 8 0)]
theorem iget_spec {b:List Int} (hB:Am (B b)) (hm:Om (b.length≤1000000)) (hk1:∀ a c,idBad b=some (a,c)→K (.tup [idZ,eSpot a c]) []) (hk2:idBad b=none→K (.tup [idV b,.nilI]) []) :
    PCalls Try.prog 34 [.sl (.int .u8) b] [] K:=by
  have hB:=hB.o
  have hm:=hm.o
  refine told_callP ident_Get.told fun Z hZ=>?_
  unfold ident_Get.c
  refine W1 trivial trivial trivial ?_
  have hB7:idBad b=(match idScan b 0 7 with | some x=>some x | none=>if b.length < 16 then some (b.length,2) else none):=rfl
  have h0:idScan b 0 7=idScan b 0 7:=rfl
  generalize hR:idScan b 0 7=R at hB7
  refine w_lp (fun q e s=>s=[.var [.bool false,.bool false,.int .u8 0,.int .u8 0]]∧∃ i:Nat,q+i=7∧idScan b i q=R∧e 0 = .sl (.int .u8) b∧e 2 = .ptr 0 0∧e 6 = .int .i64 i) 7 ?_ ?_
  · exact ⟨rfl,0,rfl,hR,by exact lk trivial,by exact lk trivial,by exact lk trivial⟩
  rintro q e s ⟨rfl,i,hi,hsc,e0,e2,e6⟩
  cases q with
  | zero =>
    obtain rfl:i=7:=by omega
    have hsc:none=R:=hsc
    by_cases h16:b.length < 16
    · have:=hk1 b.length 2 (by rw [hB7,← hsc];simp [h16])
      refine W1 (And.intro @e0 (And.intro @e2 @e6)) @DD trivial ?_
      exact this
    · have:=hk2 (by rw [hB7,← hsc];simp [h16])
      refine W1 (And.intro @e0 (And.intro @e2 @e6)) @DD trivial ?_
      exact this
  | succ q =>
    unfold idScan at hsc
    by_cases hl:b.length≤i
    · rw [if_pos hl] at hsc
      have:=hk1 i 2 (by rw [hB7,← hsc])
      refine W1 (And.intro @e0 (And.intro @e2 @e6)) @DD trivial ?_
      exact this
    · rw [if_neg hl] at hsc
      have hit:((i:Int)).toNat=i:=Int.toNat_natCast i
      by_cases hw:idW i (b.getD i 0)=0
      · rw [if_neg (fun h=>h hw)] at hsc
        refine W1 (And.intro @e0 (And.intro @e2 @e6)) (And.intro @DD (And.intro @hit @hw)) @iwrong_spec ?_
        exact ⟨q,by omega,rfl,i+1,by omega,hsc,by exact lk @e0,by exact lk @e2,by exact lk @e6⟩
      · rw [if_pos hw] at hsc
        have:=hk1 i _ (by rw [hB7,← hsc])
        refine W1 (And.intro @e0 (And.intro @e2 @e6)) (And.intro @DD @hit) @iwrong_spec ?_
        exact this
end Go.Proofs.Ytcffpnlochillaa.PvW
end
