import Derived.Lib.UnsafeStr
import Derived.Tactics2
import Derived.RegionTactic
import Derived.WalkKit
import Derived.Test.YtcjiefknhfhmkaaGreatDoorM08
namespace Go.Proofs.YtcjiefknhfhmkaaGreatDoor
open Go.Abs
set_option maxRecDepth 100000
set_option maxHeartbeats 4000000
set_option linter.unusedVariables false
set_option linter.unusedSimpArgs false
abbrev cG:Ty:=.pair (.list uI) (.int .i64)
abbrev Schema:Type:=(List Col)×Int
@[reducible] instance:Inhabited Schema:=instInhabitedDen cG
abbrev iW:Ty:=.pair (.int .i64) (.list bQ)
abbrev Rec:Type:=Int×List Val
@[reducible] instance:Inhabited Rec:=instInhabitedDen iW
abbrev rN:Ty:=.pair bQ (.int .i64)
abbrev Rank:Type:=Val×Int
@[reducible] instance:Inhabited Rank:=instInhabitedDen rN
abbrev tM:Ty:=.pair (.int .i64) (.pair (.int .i64) (.pair bQ bQ))
abbrev Zone:Type:=Int×Int×Val×Val
@[reducible] instance:Inhabited Zone:=instInhabitedDen tM
abbrev qJB:Ty:=.pair (.int .i64) (.pair (.list tM) (.pair rN rN))
abbrev Info:Type:=Int×(List Zone)×Rank×Rank
@[reducible] instance:Inhabited Info:=instInhabitedDen qJB
abbrev KEY:ByteArray:=⟨#[107,101,121]⟩
def jM (first:Bool) (c:Int):Bool:=(decide (97<=c)&&decide (c<=122))||(!first&&(decide (c=95)||(decide (48<=c)&&decide (c<=57))))
def lQ (s:ByteArray):Bool:=decide (1<=s.size)&&decide (s.size<=16) && !(decide (s=KEY))&&(List.range s.size).all (fun i=>jM (decide (i=0)) (cZ s i))
theorem zL {s:ByteArray} (h1:1<=s.size) (h2:s.size<=16) (h3:¬s=KEY) (h4:∀i,i<s.size->jM (decide (i=0)) (cZ s i)=true):lQ s=true:=by
 simp only[lQ,h3,Bool.and_eq_true,decide_eq_true_eq,List.all_eq_true,List.mem_range,decide_false];exact⟨⟨⟨h1,h2⟩,rfl⟩,h4⟩
theorem vV {s:ByteArray} (i:Nat) (hi:i<s.size) (h:jM (decide (i=0)) (cZ s i)=false):lQ s=false:=by
 have:(List.range s.size).all (fun i=>jM (decide (i=0)) (cZ s i))=false:=by
  rw[List.all_eq_false];exact⟨i,by simpa using hi,by simp [h]⟩
 simp [lQ,this]
theorem ED {s:ByteArray} {k:Int} (h0:0<=k/\k<s.size) (h:jM (decide (k.toNat=0)) (cZ s k.toNat)=false):lQ s=false:=vV k.toNat (by omega) h
def nE (name:ByteArray) (l:List Col) (k:Int):Int:=mI (fun c=>decide (c.1=name)) k l
def gA (c:Col):Bool:=decide (0<=c.2.2.1)&&decide (c.2.2.1<=18)&&(decide (c.2.1=5)||decide (c.2.2.1=0))
def dB (l:List Col) (i:Int) (c:Col):Int:=if lQ c.1=false then 3 else if nE c.1 l 0<i then 5 else if cB c.2.1=false then 11 else if gA c=false then 4 else 0
def aX (s:Schema):Int:=if s.1.length=0 then 1 else if 12<s.1.length then 7 else if bL (dB s.1) 0 s.1≠0 then bL (dB s.1) 0 s.1
 else if s.2<0\/s.1.length<=s.2 then 4 else 0
theorem LU {name:ByteArray} {l:List Col} {k:Int} (j:Nat) (hj:j<k.toNat) (hl:k.toNat<l.length) (h:l[j]!.1=name):nE name l 0<k:=by
 rcases pJ (fun c:Col=>decide (c.1=name)) l 0 with⟨h1,h2⟩|⟨i,h1,h2,h3,h4⟩
 ·have:=h2 j (by omega);rw[decide_eq_true h]at this;cases this
 ·rw[nE,h2]
  by_cases q:j<i
  ·have:=h4 j q;rw[decide_eq_true h]at this;cases this
  ·omega
theorem qP {name:ByteArray} {l:List Col} {k:Int} (hk:0<=k/\k<l.length) (hn:l[k.toNat]!.1=name) (h:∀j:Nat,j<k.toNat->¬l[j]!.1=name):¬nE name l 0<k:=by
 rcases pJ (fun c:Col=>decide (c.1=name)) l 0 with⟨h1,h2⟩|⟨i,h1,h2,h3,h4⟩
 ·have:=h2 k.toNat (by omega);rw[decide_eq_true hn]at this;cases this
 ·rw[nE,h2]
  intro q;exact h i (by omega) (of_decide_eq_true h3)
abbrev HV:Ct:=.fn [.str] (none) (fun(s:ByteArray)=>.d .bool (lQ s))
theorem qLV:aG Tryz.prog 104 HV:=by
 refine aG.fn qA3 mixed [] [] rfl rfl ?_;rintro⟨(s:ByteArray),_⟩ -;refine⟨[(0,8,LA.mk [.sl 28 (.int .i64)] (fun y=>Tag 36/\cu [.int .i64] (fun(k:Int)=>(0<=k/\k<=s.size)/\(∀i:Nat,i<k.toNat->jM (decide (i=0)) (cZ s i)=true)) y) (cu [.int .i64] (fun(k:Int)=>((s.size:Int)-k).toNat)) (cu [.int .i64] (fun(k:Int)=>([]:List (Nat×Nat×LA)))))],?_⟩;repeat' (first
  |(
 with_reducible refine Side.mk ⟨(⟨⟩:Tag 36),?_⟩
 dsimp only[cu,aB,aA,gts,eE,eN]
 refine⟨?_,?_⟩
 ·omega
 ·first
  |intro i hi;simp at hi;done
  |(
  intro i hi
  by_cases q:i<k.toNat
  ·exact hall i q
  ·have e:i=k.toNat:=by omega
   subst e;have:(k=0)=(k.toNat=0):=by apply propext;omega
   grind [jM]))
  |(
 with_reducible apply Side.mk
 (try dsimp only[cu,aB,aA,gts,loK,hiK,eE,eN])
 first
 |omega
 |(have:=wJ (s:=s) (by assumption);omega))
  |(conv=>whnf
    first
     |with_reducible first|done|exact trivial|refine NilBr.mk (fun h=>?_) ?_|apply aJ|apply aI|refine aK (by kernel_rfl) ?_|apply aL|apply bC|apply bB|apply aO
     |((with_reducible first|apply aQ|apply aP|apply bA)<;>intro h<;>(try dsimp only[cu,eE,eN]at h)<;>(try(exfalso;omega)))
     |(
 intro yy (hy:Tag 36/\_)
 obtain⟨(k:Int),_⟩:=yy
 replace hy:=hy.2
 dsimp only[cu,aB,aA,gts,eE,eN]at hy
 obtain⟨hk,hall⟩:=hy)))
 all_goals(
 with_reducible apply Leaf.mk
 (try dsimp only[cu,aB,aA,gts,eE,eN]at *)
 first
 |(subst_vars;rfl)
 |rw[zL]<;>grind [wJ]
 |(
  rw[vV 0 (by have:=wJ (by assumption);omega)];grind [jM])
 |(
  rw[ED (k:=k) (by omega)];grind [jM])
 |(grind [lQ,jM]))
abbrev qSD:Tbl:=(104,HV)::qSC
theorem qA4:aC Tryz.prog qSD:=aC.cons qLV qA3
abbrev CJ:Ct:=.fn [.str] (none) (fun(s:ByteArray)=>.d .bool (lQ s))
theorem qIP:aG Tryz.prog 53 CJ:=by
 refine aG.fn qA4 mixed [] [] rfl rfl ?_;rintro⟨(s:ByteArray),_⟩ -;refine⟨[(0,8,LA.mk [.sl 3 (.int .i64)] (fun y=>Tag 37/\cu [.int .i64] (fun(k:Int)=>(0<=k/\k<=s.size)/\(∀i:Nat,i<k.toNat->jM (decide (i=0)) (cZ s i)=true)) y) (cu [.int .i64] (fun(k:Int)=>((s.size:Int)-k).toNat)) (cu [.int .i64] (fun(k:Int)=>([]:List (Nat×Nat×LA)))))],?_⟩;repeat' (first
  |(
 with_reducible refine Side.mk ⟨(⟨⟩:Tag 37),?_⟩
 dsimp only[cu,aB,aA,gts,eE,eN]
 refine⟨?_,?_⟩
 ·omega
 ·first
  |intro i hi;simp at hi;done
  |(
  intro i hi
  by_cases q:i<k.toNat
  ·exact hall i q
  ·have e:i=k.toNat:=by omega
   subst e;have:(k=0)=(k.toNat=0):=by apply propext;omega
   grind [jM]))
  |(
 with_reducible apply Side.mk
 (try dsimp only[cu,aB,aA,gts,loK,hiK,eE,eN])
 omega)
  |(conv=>whnf
    first
     |with_reducible first|done|exact trivial|refine NilBr.mk (fun h=>?_) ?_|apply aJ|apply aI|refine aK (by kernel_rfl) ?_|apply aL|apply bC|apply bB|apply aO
     |((with_reducible first|apply aQ|apply aP|apply bA)<;>intro h<;>(try dsimp only[cu,eE,eN]at h)<;>(try(exfalso;omega)))
     |(
 intro yy (hy:Tag 37/\_)
 obtain⟨(k:Int),_⟩:=yy
 replace hy:=hy.2
 dsimp only[cu,aB,aA,gts,eE,eN]at hy
 obtain⟨hk,hall⟩:=hy)))
 all_goals(
 with_reducible apply Leaf.mk
 (try dsimp only[cu,aB,aA,gts,eE,eN]at *)
 first
 |(subst_vars;rfl)
 |rw[zL]<;>grind [wJ]
 |(
  rw[ED (k:=k) (by omega)];grind [jM])
 |(grind [lQ,jM]))
abbrev qSE:Tbl:=(53,CJ)::qSD
theorem qA5:aC Tryz.prog qSE:=aC.cons qIP qA4
abbrev HK:Ct:=.fn [cG,.str] (some (fun(s:Schema) (name:ByteArray)=>(s.1.length<=9223372036854775807))) (fun(s:Schema) (name:ByteArray)=>.d (.int .i64) (nE name s.1 0))
theorem qK3:aG Tryz.prog 105 HK:=by
 refine aG.fn qA5 mixed [] [143,144] rfl rfl ?_;rintro⟨(s:Schema),(name:ByteArray),_⟩ hpre;replace hpre:=hpre _ rfl;dsimp only[cu]at hpre;have hl:=hpre;refine⟨[(143,4,LA.mk [.sl 8 (.int .i64)] (fun y=>Tag 38/\cu [.int .i64] (fun(k:Int)=>(0<=k/\k<=s.1.length)/\(nE name s.1 0=nE name (s.1.drop k.toNat) k)) y) (cu [.int .i64] (fun(k:Int)=>((s.1.length:Int)-k).toNat)) (cu [.int .i64] (fun(k:Int)=>([]:List (Nat×Nat×LA)))))],?_⟩;repeat' (first
  |(
 with_reducible refine Side.mk ⟨(⟨⟩:Tag 38),?_⟩
 dsimp only[cu,aB,aA,gts,eE,eN]
 refine⟨?_,?_⟩
 ·omega
 ·first
  |simp;done
  |(
  rw[bJ _ _ (by omega)]at hi
  simp only[nE,mI]at hi ⊢
  rw[hi]
  grind))
  |(
 with_reducible apply Side.mk
 (try dsimp only[cu,aB,aA,gts,loK,hiK,eE,eN])
 omega)
  |(conv=>whnf
    first
     |with_reducible first|done|exact trivial|refine NilBr.mk (fun h=>?_) ?_|apply aJ|apply aI|refine aK (by kernel_rfl) ?_|apply aL|apply bC|apply bB|apply aO
     |((with_reducible first|apply aQ|apply aP|apply bA)<;>intro h<;>(try dsimp only[cu,eE,eN]at h)<;>(try(exfalso;omega)))
     |(
 intro yy (hy:Tag 38/\_)
 obtain⟨(k:Int),_⟩:=yy
 replace hy:=hy.2
 dsimp only[cu,aB,aA,gts,eE,eN]at hy
 obtain⟨hk,hi⟩:=hy)))
 all_goals(
 with_reducible apply Leaf.mk
 (try dsimp only[cu,aB,aA,gts,eE,eN]at *)
 first
 |(
  rw[hi,bJ _ _ (by omega)];simp only[nE,mI];grind)
 |(
  rw[hi,lD _ _ (by omega)];rfl))
abbrev qSF:Tbl:=(105,HK)::qSE
theorem qA6:aC Tryz.prog qSF:=aC.cons qK3 qA5
abbrev yX:Ct:=.fn [cG] (none) (fun(s:Schema)=>.d (.int .i64) (aX s))
theorem qEG:aG Tryz.prog 60 yX:=by
 refine aG.fn qA6 mixed [] [] rfl rfl ?_;rintro⟨(s:Schema),_⟩ -;refine⟨[(0,12,LA.mk [.sl 18 (.int .i64)] (fun y=>Tag 39/\cu [.int .i64] (fun(k:Int)=>(0<=k/\k<=s.1.length)/\(bL (dB s.1) 0 s.1=bL (dB s.1) k (s.1.drop k.toNat))) y) (cu [.int .i64] (fun(k:Int)=>((s.1.length:Int)-k).toNat)) (cu [.int .i64] (fun(k:Int)=>([]:List (Nat×Nat×LA)))))],?_⟩;repeat' (first
  |(
 with_reducible refine Side.mk ⟨(⟨⟩:Tag 39),?_⟩
 dsimp only[cu,aB,aA,gts,eE,eN]
 refine⟨?_,?_⟩
 ·omega
 ·first
  |simp;done
  |(
  rw[bJ _ _ (by omega)]at hi
  rw[hi,bL,if_pos (by grind [dB,gA,cB])]))
  |(
 with_reducible apply Side.mk
 (try dsimp only[cu,aB,aA,gts,loK,hiK,eE,eN])
 omega)
  |(conv=>whnf
    first
     |with_reducible first|done|exact trivial|refine NilBr.mk (fun h=>?_) ?_|apply aJ|apply aI|refine aK (by kernel_rfl) ?_|apply aL|apply bC|apply bB|apply aO
     |((with_reducible first|apply aQ|apply aP|apply bA)<;>intro h<;>(try dsimp only[cu,eE,eN]at h)<;>(try(exfalso;omega)))
     |(
 intro yy (hy:Tag 39/\_)
 obtain⟨(k:Int),_⟩:=yy
 replace hy:=hy.2
 dsimp only[cu,aB,aA,gts,eE,eN]at hy
 obtain⟨hk,hi⟩:=hy)))
 all_goals(
 with_reducible apply Leaf.mk
 (try dsimp only[cu,aB,aA,gts,eE,eN]at *)
 first
 |grind [aX]
 |(
  have e:bL (dB s.1) 0 s.1=dB s.1 k s.1[k.toNat]!:=(by rw[hi,bJ _ _ (by omega),bL];grind [dB,cB,gA])
  grind [aX,dB,cB,gA])
 |(
  rw[lD _ _ (by omega)]at hi;grind [aX,bL]))
abbrev qSG:Tbl:=(60,yX)::qSF
theorem qA7:aC Tryz.prog qSG:=aC.cons qEG qA6
abbrev vC:Ct:=.fn [cG] (none) (fun(s:Schema)=>.d (.int .i64) (aX s))
theorem WB:aG Tryz.prog 20 vC:=by
 refine aG.fn qA7 mixed [] [] rfl rfl ?_;rintro⟨(s:Schema),_⟩ -;refine⟨[(0,12,LA.mk [.sl 18 (.int .i64)] (fun y=>Tag 40/\cu [.int .i64] (fun(k:Int)=>(0<=k/\k<=s.1.length)/\(bL (dB s.1) 0 s.1=bL (dB s.1) k (s.1.drop k.toNat))) y) (cu [.int .i64] (fun(k:Int)=>((s.1.length:Int)-k).toNat)) (cu [.int .i64] (fun(k:Int)=>([(0,22,LA.mk [.sl 32 (.int .i64)] (fun y=>Tag 41/\cu [.int .i64] (fun(j:Int)=>(0<=j/\j<=k)/\(∀i:Nat,i<j.toNat->¬s.1[i]!.1=s.1[k.toNat]!.1)) y) (cu [.int .i64] (fun(j:Int)=>(k-j).toNat)) (cu [.int .i64] (fun(j:Int)=>([]:List (Nat×Nat×LA)))))]:List (Nat×Nat×LA)))))],?_⟩;repeat' (first
  |(
 with_reducible refine Side.mk ⟨(⟨⟩:Tag 40),?_⟩
 dsimp only[cu,aB,aA,gts,eE,eN]
 refine⟨?_,?_⟩
 ·omega
 ·first
  |simp;done
  |(
  have hcol:=qP (l:=s.1) (k:=k) (by omega) rfl (fun i hi=>hd i (by have:=List.length_take (i:=k.toNat) (l:=s.1);omega))
  rw[bJ _ _ (by omega)]at hi
  rw[hi,bL,if_pos (by grind [dB,gA,cB])]))
  |(
 with_reducible refine Side.mk ⟨(⟨⟩:Tag 41),?_⟩
 dsimp only[cu,aB,aA,gts,eE,eN]
 refine⟨?_,?_⟩
 ·first
  |omega
  |have:=List.length_take (i:=k.toNat) (l:=s.1);omega
 ·first
  |intro i hi;simp at hi;done
  |(
  intro i hi
  by_cases q:i<j.toNat
  ·exact hd i q
  ·have e:i=j.toNat:=by omega
   subst e;rw[<-tG s.1 k.toNat j.toNat (by have:=List.length_take (i:=k.toNat) (l:=s.1);omega)];assumption))
  |(
 with_reducible apply Side.mk
 (try dsimp only[cu,aB,aA,gts,loK,hiK,eE,eN])
 first
 |omega
 |(have:=List.length_take (i:=k.toNat) (l:=s.1);omega))
  |(conv=>whnf
    first
     |with_reducible first|done|exact trivial|refine NilBr.mk (fun h=>?_) ?_|apply aJ|apply aI|refine aK (by kernel_rfl) ?_|apply aL|apply bC|apply bB|apply aO
     |((with_reducible first|apply aQ|apply aP|apply bA)<;>intro h<;>(try dsimp only[cu,eE,eN]at h)<;>(try(exfalso;omega)))
     |(
 intro yy (hy:Tag 40/\_)
 obtain⟨(k:Int),_⟩:=yy
 replace hy:=hy.2
 dsimp only[cu,aB,aA,gts,eE,eN]at hy
 obtain⟨hk,hi⟩:=hy)
     |(
 intro yy (hy:Tag 41/\_)
 obtain⟨(j:Int),_⟩:=yy
 replace hy:=hy.2
 dsimp only[cu,aB,aA,gts,eE,eN]at hy
 obtain⟨hj,hd⟩:=hy)))
 all_goals(
 with_reducible apply Leaf.mk
 (try dsimp only[cu,aB,aA,gts,eE,eN]at *)
 first
 |grind [aX]
 |(
  have hjk:j<k:=by have:=List.length_take (i:=k.toNat) (l:=s.1);omega
  have hcol:=LU (name:=s.1[k.toNat]!.1) (l:=s.1) (k:=k) j.toNat (by omega) (by omega) (by rw[<-tG s.1 k.toNat j.toNat (by omega)];assumption);have e:bL (dB s.1) 0 s.1=dB s.1 k s.1[k.toNat]!:=(by rw[hi,bJ _ _ (by omega),bL];grind [dB,cB,gA])
  grind [aX,dB,cB,gA])
 |(
  have hcol:=qP (l:=s.1) (k:=k) (by omega) rfl (fun i hi=>hd i (by have:=List.length_take (i:=k.toNat) (l:=s.1);omega));have e:bL (dB s.1) 0 s.1=dB s.1 k s.1[k.toNat]!:=(by rw[hi,bJ _ _ (by omega),bL];grind [dB,cB,gA])
  grind [aX,dB,cB,gA])
 |(
  have e:bL (dB s.1) 0 s.1=dB s.1 k s.1[k.toNat]!:=(by rw[hi,bJ _ _ (by omega),bL];grind [dB,cB,gA])
  grind [aX,dB,cB,gA])
 |(
  rw[lD _ _ (by omega)]at hi;grind [aX,bL]))
abbrev qSH:Tbl:=(20,vC)::qSG
theorem qA8:aC Tryz.prog qSH:=aC.cons WB qA7
abbrev ABCD:ByteArray:=⟨#[97,98,99,100]⟩
def DW (s:Src) (n:Int):Col×Src:=
 if 1+Src.pick s 5=5 then(⟨ABCD.extract (n-1).toNat n.toNat,1+Src.pick s 5,Src.pick (Src.next (Src.next s)) 4,decide (Src.pick (Src.next s) 2=0)⟩,Src.next (Src.next (Src.next s)))
 else(⟨ABCD.extract (n-1).toNat n.toNat,1+Src.pick s 5,0,decide (Src.pick (Src.next s) 2=0)⟩,Src.next (Src.next s))
def lF:Nat->Src->List Col->List Col×Src
 |0,s,acc=>(acc,s)
 |n+1,s,acc=>lF n (DW s (n+1)).2 (acc++ [(DW s (n+1)).1])
theorem UV {k:Int} (h:k>0) (s:Src) (acc:List Col):lF k.toNat s acc=lF (k-1).toNat (DW s k).2 (acc++ [(DW s k).1]):=by
 obtain⟨n,rfl⟩:∃n:Nat,k=(n:Int)+1:=⟨(k-1).toNat,by omega⟩
 rw[show((n:Int)+1).toNat=n+1 by omega,show((n:Int)+1-1).toNat=n by omega];rfl
def aV (l:List Int):Schema:=⟨(lF (1+Src.pick (l,0) 4).toNat (Src.next (l,0)) []).1,Src.pick (lF (1+Src.pick (l,0) 4).toNat (Src.next (l,0)) []).2 (lF (1+Src.pick (l,0) 4).toNat (Src.next (l,0)) []).1.length⟩
theorem qCN:(ByteArray.mk #[97,98,99,100]).size=4:=rfl
abbrev uX:Ct:=.fn [.list (.int .i64)] (some (fun(l:List Int)=>(l.length<=9223372036854775807))) (fun(l:List Int)=>.d cG (aV l))
theorem UY:aG Tryz.prog 13 uX:=by
 refine aG.fn qA8 mixed [] [] rfl rfl ?_;rintro⟨(l:List Int),_⟩ hpre;replace hpre:=hpre _ rfl;dsimp only[cu]at hpre;have hl:=hpre;have hp0:=Src.pick_lt (s:=(l,0)) (n:=4) (by decide);refine⟨[(0,8,LA.mk [.sl 5 (.int .i64),.row 2 [.own uI 40,.same],.ob 1 nO 124] (fun y=>Tag 42/\cu [.int .i64,.list uI,nO] (fun(k:Int) (C:List Col) (q:Src)=>(0<=k/\k<=4)/\(Src.ok q)/\((C.length:Int)=1+Src.pick (l,0) 4-k)/\(lF (1+Src.pick (l,0) 4).toNat (Src.next (l,0)) []=lF k.toNat q C)) y) (cu [.int .i64,.list uI,nO] (fun(k:Int) (C:List Col) (q:Src)=>k.toNat)) (cu [.int .i64,.list uI,nO] (fun(k:Int) (C:List Col) (q:Src)=>([]:List (Nat×Nat×LA)))))],?_⟩;repeat' (first
  |(
 with_reducible refine Side.mk ⟨(⟨⟩:Tag 42),?_⟩
 dsimp only[cu,aB,aA,gts,eE,eN]
 refine⟨?_,?_,?_,?_⟩
 ·omega
 ·(repeat (first|assumption|exact Src.ok_from (by assumption)|apply Src.ok_next|apply gN|apply kNode_ok))
 ·first
  |simp only[List.length_nil];omega
  |simp only[List.length_append,List.length_cons,List.length_nil];omega
 ·first
  |rfl
  |(
  rw[hg,UV (by assumption)]
  simp [DW, *]))
  |(
 with_reducible apply Side.mk
 (try dsimp only[cu,aB,aA,gts,loK,hiK,eE,eN])
 first
 |done
 |omega
 |exact Eq.refl _
 |simp only[List.length_append,List.length_cons,List.length_nil];omega
 |rw[qCN];omega
 |(
  refine⟨?_,by first|decide|exact FJ (by omega)⟩
  (repeat (first|assumption|exact Src.ok_from (by assumption)|apply Src.ok_next|apply gN|apply kNode_ok));done)
 |(have:=@Src.pick_lt;grind))
  |(conv=>whnf
    first
     |with_reducible first|done|exact trivial|refine NilBr.mk (fun h=>?_) ?_|apply aJ|apply aI|refine aK (by kernel_rfl) ?_|apply aL|apply bC|apply bB|apply aO
     |((with_reducible first|apply aQ|apply aP|apply bA)<;>intro h<;>(try dsimp only[cu,eE,eN]at h)<;>(try(exfalso;omega)))
     |(
 intro yy (hy:Tag 42/\_)
 obtain⟨(k:Int),(C:List Col),(q:Src),_⟩:=yy
 replace hy:=hy.2
 dsimp only[cu,aB,aA,gts,eE,eN]at hy
 obtain⟨hk,hq,hv,hg⟩:=hy)))
 all_goals(
 with_reducible apply Leaf.mk
 (try dsimp only[cu,aB,aA,gts,eE,eN]at *)
 (
  rw[show k.toNat=0 by omega,lF]at hg;simp [aV,hg]))
abbrev qSI:Tbl:=(13,uX)::qSH
theorem qA9:aC Tryz.prog qSI:=aC.cons UY qA8
def eR:List Col->Src->List Val×Src
 | [],q=>([],q)
 |c::cs,q=>((iJ q c).1::(eR cs (iJ q c).2).1,(eR cs (iJ q c).2).2)
theorem oT:∀(cs:List Col) (q:Src),Src.ok q->Src.ok (eR cs q).2
 | [],q,h=>h
 |c::cs,q,h=>oT cs _ (by apply gN;exact h)
theorem QK {l:List Col} {k:Int} {q:Src} (h:0<=k/\k<l.length):eR (l.drop k.toNat) q=((iJ q l[k.toNat]!).1::(eR (l.drop (k+1).toNat) (iJ q l[k.toNat]!).2).1,(eR (l.drop (k+1).toNat) (iJ q l[k.toNat]!).2).2):=by
 rw[bJ l k h];rfl
abbrev HP:Ct:=.meth nO 124 [cG] (some (fun(s:Src) (x:Schema)=>(Src.ok s)/\(x.1.length<=1000))) (fun(s:Src) (x:Schema)=>.d (.list bQ) ((eR x.1 s).1)) (fun(s:Src) (x:Schema)=>(eR x.1 s).2)
theorem qLN:aG Tryz.prog 47 HP:=by
 refine aG.meth qA9 mixed [] [] rfl rfl ?_;rintro(s:Src) ⟨(x:Schema),_⟩ hpre;replace hpre:=hpre _ rfl;dsimp only[cu]at hpre;obtain⟨hs,hx⟩:=hpre;refine⟨[(0,6,LA.mk [.sl 11 (.int .i64),.lst 5 bQ 43,.ob 0 nO 124] (fun y=>Tag 43/\cu [.int .i64,.list bQ,nO] (fun(k:Int) (M:List Val) (q:Src)=>(0<=k/\k<=x.1.length)/\(Src.ok q)/\(eR x.1 s=(M++(eR (x.1.drop k.toNat) q).1,(eR (x.1.drop k.toNat) q).2))/\((M.length:Int)<=k)) y) (cu [.int .i64,.list bQ,nO] (fun(k:Int) (M:List Val) (q:Src)=>((x.1.length:Int)-k).toNat)) (cu [.int .i64,.list bQ,nO] (fun(k:Int) (M:List Val) (q:Src)=>([]:List (Nat×Nat×LA)))))],?_⟩;repeat' (first
  |(
 with_reducible refine Side.mk ⟨(⟨⟩:Tag 43),?_⟩
 dsimp only[cu,aB,aA,gts,eE,eN]
 refine⟨?_,?_,?_,?_⟩
 ·omega
 ·(repeat (first|assumption|exact Src.ok_from (by omega)|apply Src.ok_next|apply gN|apply oT))
 ·first
  |rfl
  |(
  rw[hm,QK (by omega)]
  simp)
 ·first
  |simp;done
  |(simp only[List.length_append,List.length_cons,List.length_nil];omega))
  |(
 with_reducible apply Side.mk
 (try dsimp only[cu,aB,aA,gts,loK,hiK,eE,eN])
 first
 |done
 |omega
 |exact Eq.refl _
 |(simp only[List.length_append,List.length_cons,List.length_nil];omega))
  |(conv=>whnf
    first
     |with_reducible first|done|exact trivial|refine NilBr.mk (fun h=>?_) ?_|apply aJ|apply aI|refine aK (by kernel_rfl) ?_|apply aL|apply bC|apply bB|apply aO
     |((with_reducible first|apply aQ|apply aP|apply bA)<;>intro h<;>(try dsimp only[cu,eE,eN]at h)<;>(try(exfalso;omega)))
     |(
 intro yy (hy:Tag 43/\_)
 obtain⟨(k:Int),(M:List Val),(q:Src),_⟩:=yy
 replace hy:=hy.2
 dsimp only[cu,aB,aA,gts,eE,eN]at hy
 obtain⟨hk,hq,hm,hl⟩:=hy)))
 all_goals(
 with_reducible apply Leaf.mk
 (try dsimp only[cu,aB,aA,gts,eE,eN]at *)
 (
  rw[hm,List.drop_eq_nil_of_le (by omega)];simp [eR]))
abbrev qPR:Tbl:=(47,HP)::qSI
theorem pX:aC Tryz.prog qPR:=aC.cons qLN qA9
theorem qHS (b o n:Nat):NZ.ok ⟨b,o,52,43,.list bQ,bQ,0,fun a=>a,n⟩:=by
 refine⟨fun a=>rfl,?_,?_⟩
 ·intro a j x hj h
  rcases j with _|j
  ·exact(hj rfl).elim
  ·cases h
 ·intro a j x h
  rcases j with _|_|_|j
  ·exact⟨_,(Option.some.inj h).symm⟩
  ·exact⟨_,(Option.some.inj h).symm⟩
  ·exact⟨_,(Option.some.inj h).symm⟩
  ·cases h
def atV (r:Rec) (i:Nat):Val:=if i<r.2.length then r.2[i]! else(true,0,⟨#[]⟩)
def fD (l:List Rec) (i:Nat):List Val:=l.map fun r=>atV r i
def jF (l:List Rec) (n:Int):List (List Val):=if n<1\/n>12 then[]else(List.range n.toNat).map (fD l)
def kZ (l:List Rec) (n i k:Nat):List (List Val):=(List.range n).map fun j=>if j<i then fD l j else if j=i then fD (l.take k) i else[]
theorem iC (l:List Rec) (n i k:Nat):(kZ l n i k).length=n:=by simp [kZ]
theorem kB {l:List Rec} {n i k j:Nat} (h:j<n):(kZ l n i k)[j]? =some (if j<i then fD l j else if j=i then fD (l.take k) i else[]):=by simp [kZ,h]
theorem qKJ (l:List Rec) (n:Nat):kZ l n 0 0=List.replicate n []:=by
 apply List.ext_getElem?;intro j;by_cases h:j<n
 ·rw[kB h];simp [h,fD]
 ·rw[List.getElem?_eq_none (by rw[iC];omega),List.getElem?_eq_none (by simp;omega)]
theorem UC (l:List Rec) (n i:Nat):kZ l n i l.length=kZ l n (i+1) 0:=by
 apply List.ext_getElem?;intro j;by_cases h:j<n
 ·rw[kB h,kB h]
  congr 1
  by_cases h1:j<i
  ·rw[if_pos h1,if_pos (by omega)]
  ·by_cases h2:j=i
   ·subst h2;rw[if_neg h1,if_pos rfl,if_pos (by omega),List.take_length]
   ·rw[if_neg h1,if_neg h2,if_neg (by omega)]
    split
    ·simp [fD]
    ·rfl
 ·rw[List.getElem?_eq_none (by rw[iC];omega),List.getElem?_eq_none (by rw[iC];omega)]
theorem DF {l:List Rec} {n i k:Nat} (hi:i<n) (hk:k<l.length):(kZ l n i k).set i (fD (l.take k) i++ [atV l[k]! i])=kZ l n i (k+1):=by
 apply List.ext_getElem?;intro j;by_cases h:j<n
 ·rw[kB h]
  by_cases h2:i=j
  ·subst h2
   rw[List.getElem?_set_self (by rw[iC];exact hi),if_neg (by omega),if_pos rfl,List.take_add_one,List.getElem?_eq_getElem hk,getElem!_pos l k hk];simp only[fD,List.map_append,Option.toList_some,List.map_cons,List.map_nil]
  ·rw[List.getElem?_set_ne h2,kB h]
   congr 1
   split
   ·rfl
   ·rw[if_neg (fun q=>h2 q.symm),if_neg (fun q=>h2 q.symm)]
 ·rw[List.getElem?_eq_none (by rw[List.length_set,iC];omega),List.getElem?_eq_none (by rw[iC];omega)]
theorem qC5 {l:List Rec} {n:Int} (h:¬(n<1\/n>12)):kZ l n.toNat n.toNat 0=jF l n:=by
 rw[jF,if_neg h];apply List.map_congr_left;intro j hj;rw[if_pos (by simpa using hj)]
theorem qF7 {l:List Rec} {n i k:Nat} {a:List Val} (hi:i<n) (h:(kZ l n i k)[i]? =some a):a=fD (l.take k) i:=by
 rw[kB hi,if_neg (by omega),if_pos rfl]at h;exact(Option.some.inj h).symm
theorem UD {l:List Rec} {n i k:Nat} (hi:i<n):(kZ l n i k).set i (fD (l.take k) i)=kZ l n i k:=by
 apply List.ext_getElem?;intro j;by_cases h2:i=j
 ·subst h2
  rw[List.getElem?_set_self (by rw[iC];exact hi),kB hi,if_neg (by omega),if_pos rfl]
 ·rw[List.getElem?_set_ne h2]
theorem qC6 {l:List Rec} {n i k:Nat} (hi:i<n) (hk:k=l.length):(kZ l n i k).set i (fD (l.take k) i)=kZ l n (i+1) 0:=by
 rw[UD hi,hk,UC]
theorem qQ (l:List Rec) (i:Nat):(fD l i).length=l.length:=by simp [fD]
abbrev HD:Ct:=.nl (.list bQ) 52 [.list iW,.int .i64] (some (fun(l:List Rec) (n:Int)=>(l.length<=1099511627776)/\(1<=n/\n<=12))) (fun(l:List Rec) (n:Int)=>jF l n)
theorem qKK:aG Tryz.prog 99 HD:=by
 refine aG.nlG (T:=qPR) [(0,3,1)] [] rfl rfl ?_;rintro⟨(l:List Rec),(n:Int),_⟩ hpre;replace hpre:=hpre _ rfl;dsimp only[cu]at hpre;obtain⟨hl,hn⟩:=hpre;refine⟨[],?_⟩;repeat' (first
  |(
 with_reducible refine Side.mk ⟨(⟨⟩:Tag 44),?_⟩
 dsimp only[cu,aB,aA,gts,eE,eN]
 refine⟨?_,?_⟩
 ·omega
 ·first
  |exact(qKJ l n.toNat).symm
  |(
  rw[hS2,show(i+1).toNat=i.toNat+1 by omega]
  exact qC6 (by omega) (by omega)))
  |(
 with_reducible refine Side.mk ⟨(⟨⟩:Tag 45),?_⟩
 dsimp only[cu,aB,aA,gts,eE,eN]
 refine⟨?_,?_⟩
 ·omega
 ·first
  |exact hR
  |rw[hS2,show(k+1).toNat=k.toNat+1 by omega,<-DF (by omega) (by omega),atV,if_pos (by omega)]
  |(rw[hS2,show(k+1).toNat=k.toNat+1 by omega,<-DF (by omega) (by omega),atV,if_neg (by omega)]))
  |(
 with_reducible apply Side.mk
 (try dsimp only[cu,aB,aA,gts,loK,hiK,eE,eN])
 first
 |done
 |omega
 |simp only[List.length_append,List.length_cons,List.length_nil];omega
 |(
  dsimp only at hrows;omega)
 |exact⟨rfl,rfl,rfl,rfl⟩
 |exact⟨⟨rfl,rfl,rfl,rfl⟩,rfl,rfl,by simp,by decide,rfl⟩
 |(
  simp only[qQ,List.length_take,List.length_cons,List.length_nil];omega))
  |(conv=>whnf
    first
     |refine GoV.x 5 pX mixed (jK pX mixed [(0,3,1)] [] 4 _ _) (by exact rfl) ?_
     |refine GoV.nestO (tO:=.list bQ) (t:=bQ) 5 5 0 (fun a=>a) 52 43 ([]) qHS rfl rfl (by exact rfl) ?_
     |refine GoV.sq ?_
     |intro(nb:Nat) (no:Nat) (hS:Heap) (ιS:Iota) (wS:World)
     |intro(rows:List (List V)) (hrows:rows.length=_)
     |intro(nv:Value)
     |refine GoN.x 8 pX mixed (jK pX mixed [(0,3,1)] [] 4 _ _) (by exact rfl) (by exact rfl) ?_
     |refine GoN.block ?_
     |refine GoN.sq ?_
     |refine GoN.loop 5 [.sl 20 (.int .i64)] (fun y (R:List (Ty.den (.list bQ)))=>Tag 44/\cu [.int .i64] (fun(i:Int)=>fun(R:List (Ty.den (.list bQ)))=>(0<=i/\i<=n)/\(R=kZ l n.toNat i.toNat 0)) y R) (fun y _=>cu [.int .i64] (fun(i:Int)=>(n-i).toNat) y) (by exact rfl) (by exact rfl) ?_ ?_
     |refine GoN.loopF (qHS _ _ _) pX mixed (jK pX mixed [(0,3,1)] [] 4 _ _) 8 [.sl 25 (.int .i64)] (fun y (R:List (Ty.den (.list bQ)))=>Tag 45/\cu [.int .i64] (fun(k:Int)=>fun(R:List (Ty.den (.list bQ)))=>(0<=k/\k<=l.length)/\(R=kZ l n.toNat i.toNat k.toNat)) y R) (fun y _=>cu [.int .i64] (fun(k:Int)=>(l.length-k).toNat) y) (cu [.int .i64] (fun(k:Int)=>i.toNat)) (by exact rfl) (by exact rfl) ?_ ?_ ?_
     |(
 intro yy (R:List (Ty.den (.list bQ))) (hy:Tag 44/\_)
 obtain⟨(i:Int),_⟩:=yy
 replace hy:=hy.2
 dsimp only[cu,aB,aA,gts,eE,eN]at hy
 obtain⟨hi,hR⟩:=hy)
     |(
 intro yy (R:List (Ty.den (.list bQ))) (ra:Ty.den (.list bQ)) (hy:Tag 45/\_) hra
 obtain⟨(k:Int),_⟩:=yy
 replace hy:=hy.2
 dsimp only[cu,aB,aA,gts,eE,eN]at hy hra
 obtain⟨hk,hS2⟩:=hy
 rw[hS2]at hra
 have hra:=qF7 (by omega) hra
 subst hra)
     |(
 intro yy (R:List (Ty.den (.list bQ))) (hy:Tag 45/\_) hle
 obtain⟨(k:Int),_⟩:=yy
 replace hy:=hy.2
 dsimp only[cu,aB,aA,gts,eE,eN]at hy hle
 obtain⟨hk,hS2⟩:=hy
 exfalso
 rw[hS2,iC]at hle
 omega)
     |with_reducible first|done|exact trivial|refine NilBr.mk (fun h=>?_) ?_|apply aJ|apply aI|refine aK (by kernel_rfl) ?_|apply aL|apply bC|apply bB|apply aO
     |((with_reducible first|apply aQ|apply aP|apply bA)<;>intro h<;>(try dsimp only[cu,eE,eN]at h)<;>(try(exfalso;omega)))))
 all_goals(
 with_reducible apply Leaf.mk
 (try dsimp only[cu,aB,aA,gts,eE,eN]at *)
 first
 |(
  rw[hR,show i.toNat=n.toNat by omega];exact qC5 (by omega))
 |(
  rw[hR,iC];(try omega)))
abbrev qSJ:Tbl:=(99,HD)::qPR
theorem qBA:aC Tryz.prog qSJ:=aC.cons qKK pX
abbrev dM:Val:=(true,0,⟨#[]⟩)
def pV (t g:Int) (a b:Val):Val:=if a.1=true/\b.1=true then dM else if a.1=true then b else if b.1=true then a else if cT t b a=g then b else a
def zY (t:Int) (z:Int×Val×Val) (v:Val):Int×Val×Val:=if v.1=true then(z.1+1,z.2.1,z.2.2)else(z.1,pV t (-1) z.2.1 v,pV t 1 z.2.2 v)
def zGo (t:Int) (l:List Val) (z:Int×Val×Val):Int×Val×Val:=l.foldl (zY t) z
def mF (t:Int) (l:List Val):Zone:=((l.length:Int),zGo t l (0,dM,dM))
theorem wR {t:Int} {l:List Val} {k:Int} {z:Int×Val×Val} (h:0<=k/\k<l.length):zGo t (l.drop k.toNat) z=zGo t (l.drop (k+1).toNat) (zY t z l[k.toNat]!):=by
 rw[bJ l k h];rfl
theorem qCG {t:Int} {z:Int×Val×Val} {v:Val} (h:v.1=false):zY t z v=(z.1,pV t (-1) z.2.1 v,pV t 1 z.2.2 v):=by rw[zY,if_neg (by rw[h];exact Bool.noConfusion)]
theorem AN {t g:Int} {a b:Val} (hb:b.1=true) (ha:a.1=true->a=dM):pV t g a b=a:=by
 unfold pV;by_cases h:a.1=true
 ·rw[if_pos ⟨h,hb⟩,ha h]
 ·rw[if_neg (fun q=>h q.1),if_neg h,if_pos hb]
theorem YL {t g:Int} {a b:Val} (hb:b.1=false):(pV t g a b).1=true->pV t g a b=dM:=by
 unfold pV;intro h;rw[if_neg (fun q=>by rw[hb]at q;exact Bool.noConfusion q.2)]at h ⊢;by_cases ha:a.1=true
 ·rw[if_pos ha,hb]at h;cases h
 ·rw[if_neg ha,if_neg (by rw[hb];exact Bool.noConfusion)]at h
  split at h
  ·rw[hb]at h;cases h
  ·exact absurd h ha
def rG (v:Val):ByteArray:=if v.1=true then⟨#[0]⟩else(⟨#[1]⟩++aN (put (fE v.2.1))++aN (put (v.2.2.size:Int)))++v.2.2
theorem VO {v:Val} (h:v.1=false):rG v=(⟨#[1]⟩++aN (put (fE v.2.1))++aN (put (v.2.2.size:Int)))++v.2.2:=by rw[rG,if_neg (by rw[h];exact Bool.noConfusion)]
theorem mN {v:Val}:(rG v).size<=21+v.2.2.size:=by
 unfold rG;have p1:=aY (fE v.2.1);have p2:=aY ((v.2.2.size:Int));split
 ·show 1<=_;omega
 ·simp only[ByteArray.size_append,aT]
  have s1:(⟨#[1]⟩:ByteArray).size=1:=rfl;omega
def rH (z:Zone):ByteArray:=aN (put (cI 0 z.1))++aN (put (cI 0 z.2.1))++rG z.2.2.1++rG z.2.2.2
def qP0 (c:Col) (z:Zone):Bool:=if cB c.2.1=false\/z.2.1<0\/z.2.1>z.1\/z.1>4096\/(z.2.1>0/\c.2.2.2=false)then false
 else if z.2.1=z.1 then decide (z.2.2.1=dM)&&decide (z.2.2.2=dM)
 else if z.2.2.1.1=true\/z.2.2.2.1=true\/bK c z.2.2.1≠0\/bK c z.2.2.2≠0 then false
 else(decide (cT c.2.1 z.2.2.1 z.2.2.2<0)&&decide (z.1-z.2.1>1))||decide (cT c.2.1 z.2.2.1 z.2.2.2=0)
abbrev BZ:Ct:=.fn [.int .i64,bQ,bQ] (none) (fun(t:Int) (a:Val) (b:Val)=>.d bQ (pV t (-1) a b))
theorem qHK:aG Tryz.prog 138 BZ:=by
 refine aG.fn qBA mixed [] [] rfl rfl ?_;rintro⟨(t:Int),(a:Val),(b:Val),_⟩ -;refine⟨[],?_⟩;repeat' (first
  |(
 with_reducible apply Side.mk
 (try dsimp only[cu,aB,aA,gts,loK,hiK,eE,eN])
 done)
  |(conv=>whnf
    first
     |with_reducible first|done|exact trivial|refine NilBr.mk (fun h=>?_) ?_|apply aJ|apply aI|refine aK (by kernel_rfl) ?_|apply aL|apply bC|apply bB|apply aO
     |((with_reducible first|apply aQ|apply aP|apply bA)<;>intro h<;>(try dsimp only[cu,eE,eN]at h)<;>(try(exfalso;omega)))))
 all_goals(
 with_reducible apply Leaf.mk
 (try dsimp only[cu,aB,aA,gts,eE,eN]at *)
 grind [pV,cT,gT,lW])
abbrev qSK:Tbl:=(138,BZ)::qSJ
theorem qBB:aC Tryz.prog qSK:=aC.cons qHK qBA
abbrev sX:Ct:=.fn [.int .i64,bQ,bQ] (none) (fun(t:Int) (a:Val) (b:Val)=>.d bQ (pV t 1 a b))
theorem QB:aG Tryz.prog 139 sX:=by
 refine aG.fn qBB mixed [] [] rfl rfl ?_;rintro⟨(t:Int),(a:Val),(b:Val),_⟩ -;refine⟨[],?_⟩;repeat' (first
  |(
 with_reducible apply Side.mk
 (try dsimp only[cu,aB,aA,gts,loK,hiK,eE,eN])
 done)
  |(conv=>whnf
    first
     |with_reducible first|done|exact trivial|refine NilBr.mk (fun h=>?_) ?_|apply aJ|apply aI|refine aK (by kernel_rfl) ?_|apply aL|apply bC|apply bB|apply aO
     |((with_reducible first|apply aQ|apply aP|apply bA)<;>intro h<;>(try dsimp only[cu,eE,eN]at h)<;>(try(exfalso;omega)))))
 all_goals(
 with_reducible apply Leaf.mk
 (try dsimp only[cu,aB,aA,gts,eE,eN]at *)
 grind [pV,cT,gT,lW])
abbrev qSL:Tbl:=(139,sX)::qSK
theorem qBC:aC Tryz.prog qSL:=aC.cons QB qBB
abbrev HY:Ct:=.fn [] (none) (.d bQ dM)
theorem qL1:aG Tryz.prog 74 HY:=by
 refine aG.fn qBC mixed [] [] rfl rfl ?_;rintro⟨⟩ -;refine⟨[],?_⟩;repeat' (first
  |(
 with_reducible apply Side.mk
 (try dsimp only[cu,aB,aA,gts,loK,hiK,eE,eN])
 done)
  |(conv=>whnf
    first
     |with_reducible first|done|exact trivial|refine NilBr.mk (fun h=>?_) ?_|apply aJ|apply aI|refine aK (by kernel_rfl) ?_|apply aL|apply bC|apply bB|apply aO
     |((with_reducible first|apply aQ|apply aP|apply bA)<;>intro h<;>(try dsimp only[cu,eE,eN]at h)<;>(try(exfalso;omega)))))
 all_goals(
 with_reducible apply Leaf.mk
 (try dsimp only[cu,aB,aA,gts,eE,eN]at *)
 done)
abbrev qSM:Tbl:=(74,HY)::qSL
theorem qBD:aC Tryz.prog qSM:=aC.cons qL1 qBC
abbrev OQ:Ct:=.fn [.int .i64,.int .i64,bQ,bQ] (none) (fun(t:Int) (g:Int) (a:Val) (b:Val)=>.d bQ (pV t g a b))
theorem qPD:aG Tryz.prog 75 OQ:=by
 refine aG.fn qBD mixed [] [] rfl rfl ?_;rintro⟨(t:Int),(g:Int),(a:Val),(b:Val),_⟩ -;refine⟨[],?_⟩;repeat' (first
  |(
 with_reducible apply Side.mk
 (try dsimp only[cu,aB,aA,gts,loK,hiK,eE,eN])
 done)
  |(conv=>whnf
    first
     |with_reducible first|done|exact trivial|refine NilBr.mk (fun h=>?_) ?_|apply aJ|apply aI|refine aK (by kernel_rfl) ?_|apply aL|apply bC|apply bB|apply aO
     |((with_reducible first|apply aQ|apply aP|apply bA)<;>intro h<;>(try dsimp only[cu,eE,eN]at h)<;>(try(exfalso;omega)))))
 all_goals(
 with_reducible apply Leaf.mk
 (try dsimp only[cu,aB,aA,gts,eE,eN]at *)
 grind [pV])
abbrev qSN:Tbl:=(75,OQ)::qSM
theorem qBE:aC Tryz.prog qSN:=aC.cons qPD qBD
abbrev yZ:Ct:=.fn [.int .i64,.list bQ] (some (fun(t:Int) (l:List Val)=>(l.length<=1073741824))) (fun(t:Int) (l:List Val)=>.d tM (mF t l))
theorem qE1:aG Tryz.prog 100 yZ:=by
 refine aG.fn qBE mixed [] [] rfl rfl ?_;rintro⟨(t:Int),(l:List Val),_⟩ hpre;replace hpre:=hpre _ rfl;dsimp only[cu]at hpre;have hl:=hpre;refine⟨[(0,6,LA.mk [.sl 15 (.int .i64),.row 1 [.same,.val (.int .i64),.val .bool,.val (.int .i64),.val .str,.val .bool,.val (.int .i64),.val .str]] (fun y=>Tag 46/\cu [.int .i64,.int .i64,.bool,.int .i64,.str,.bool,.int .i64,.str] (fun(k:Int) (nl:Int) (b1:Bool) (n1:Int) (s1:ByteArray) (b2:Bool) (n2:Int) (s2:ByteArray)=>(0<=k/\k<=l.length)/\(zGo t l (0,dM,dM)=zGo t (l.drop k.toNat) (nl,((b1,n1,s1):Val),((b2,n2,s2):Val)))/\(0<=nl/\nl<=k)/\(b1=true->((b1,n1,s1):Val)=dM)/\(b2=true->((b2,n2,s2):Val)=dM)) y) (cu [.int .i64,.int .i64,.bool,.int .i64,.str,.bool,.int .i64,.str] (fun(k:Int) (nl:Int) (b1:Bool) (n1:Int) (s1:ByteArray) (b2:Bool) (n2:Int) (s2:ByteArray)=>((l.length:Int)-k).toNat)) (cu [.int .i64,.int .i64,.bool,.int .i64,.str,.bool,.int .i64,.str] (fun(k:Int) (nl:Int) (b1:Bool) (n1:Int) (s1:ByteArray) (b2:Bool) (n2:Int) (s2:ByteArray)=>([]:List (Nat×Nat×LA)))))],?_⟩;repeat' (first
  |(
 with_reducible refine Side.mk ⟨(⟨⟩:Tag 46),?_⟩
 dsimp only[cu,aB,aA,gts,eE,eN]
 refine⟨?_,?_,?_,?_,?_⟩
 ·omega
 ·first
  |rfl
  |(
  rw[hg,wR (by omega),zY,if_pos (by assumption)]
  rw[AN (by assumption) h1,AN (by assumption) h2])
  |rw[hg,wR (by omega),qCG (by assumption)]
 ·omega
 ·first
  |exact fun _=>rfl
  |(
  rw[AN (by assumption) h1]
  exact h1)
  |exact YL (by assumption)
 ·first
  |exact fun _=>rfl
  |(
  rw[AN (by assumption) h2]
  exact h2)
  |(exact YL (by assumption)))
  |(
 with_reducible apply Side.mk
 (try dsimp only[cu,aB,aA,gts,loK,hiK,eE,eN])
 first
 |done
 |(omega))
  |(conv=>whnf
    first
     |with_reducible first|done|exact trivial|refine NilBr.mk (fun h=>?_) ?_|apply aJ|apply aI|refine aK (by kernel_rfl) ?_|apply aL|apply bC|apply bB|apply aO
     |((with_reducible first|apply aQ|apply aP|apply bA)<;>intro h<;>(try dsimp only[cu,eE,eN]at h)<;>(try(exfalso;omega)))
     |(
 intro yy (hy:Tag 46/\_)
 obtain⟨(k:Int),(nl:Int),(b1:Bool),(n1:Int),(s1:ByteArray),(b2:Bool),(n2:Int),(s2:ByteArray),_⟩:=yy
 replace hy:=hy.2
 dsimp only[cu,aB,aA,gts,eE,eN]at hy
 obtain⟨hk,hg,hn,h1,h2⟩:=hy)))
 all_goals(
 with_reducible apply Leaf.mk
 (try dsimp only[cu,aB,aA,gts,eE,eN]at *)
 (
  rw[mF,hg,List.drop_eq_nil_of_le (by omega)];rfl))
abbrev qSO:Tbl:=(100,yZ)::qSN
theorem qBF:aC Tryz.prog qSO:=aC.cons qE1 qBE
abbrev vE:Ct:=.fn [.int .i64,.list bQ] (some (fun(t:Int) (l:List Val)=>(l.length<=1073741824))) (fun(t:Int) (l:List Val)=>.d tM (mF t l))
theorem WE:aG Tryz.prog 28 vE:=by
 refine aG.fn qBF mixed [] [] rfl rfl ?_;rintro⟨(t:Int),(l:List Val),_⟩ hpre;replace hpre:=hpre _ rfl;dsimp only[cu]at hpre;have hl:=hpre;refine⟨[(0,6,LA.mk [.sl 15 (.int .i64),.row 1 [.same,.val (.int .i64),.val .bool,.val (.int .i64),.val .str,.val .bool,.val (.int .i64),.val .str]] (fun y=>Tag 47/\cu [.int .i64,.int .i64,.bool,.int .i64,.str,.bool,.int .i64,.str] (fun(k:Int) (nl:Int) (b1:Bool) (n1:Int) (s1:ByteArray) (b2:Bool) (n2:Int) (s2:ByteArray)=>(0<=k/\k<=l.length)/\(zGo t l (0,dM,dM)=zGo t (l.drop k.toNat) (nl,((b1,n1,s1):Val),((b2,n2,s2):Val)))/\(0<=nl/\nl<=k)/\(b1=true->((b1,n1,s1):Val)=dM)/\(b2=true->((b2,n2,s2):Val)=dM)) y) (cu [.int .i64,.int .i64,.bool,.int .i64,.str,.bool,.int .i64,.str] (fun(k:Int) (nl:Int) (b1:Bool) (n1:Int) (s1:ByteArray) (b2:Bool) (n2:Int) (s2:ByteArray)=>((l.length:Int)-k).toNat)) (cu [.int .i64,.int .i64,.bool,.int .i64,.str,.bool,.int .i64,.str] (fun(k:Int) (nl:Int) (b1:Bool) (n1:Int) (s1:ByteArray) (b2:Bool) (n2:Int) (s2:ByteArray)=>([]:List (Nat×Nat×LA)))))],?_⟩;repeat' (first
  |(
 with_reducible refine Side.mk ⟨(⟨⟩:Tag 47),?_⟩
 dsimp only[cu,aB,aA,gts,eE,eN]
 refine⟨?_,?_,?_,?_,?_⟩
 ·omega
 ·first
  |rfl
  |(
  rw[hg,wR (by omega),zY,if_pos (by assumption)]
  done)
  |rw[hg,wR (by omega),qCG (by assumption)]
 ·omega
 ·first
  |exact fun _=>rfl
  |exact h1
  |exact YL (by assumption)
 ·first
  |exact fun _=>rfl
  |exact h2
  |(exact YL (by assumption)))
  |(
 with_reducible apply Side.mk
 (try dsimp only[cu,aB,aA,gts,loK,hiK,eE,eN])
 first
 |done
 |(omega))
  |(conv=>whnf
    first
     |with_reducible first|done|exact trivial|refine NilBr.mk (fun h=>?_) ?_|apply aJ|apply aI|refine aK (by kernel_rfl) ?_|apply aL|apply bC|apply bB|apply aO
     |((with_reducible first|apply aQ|apply aP|apply bA)<;>intro h<;>(try dsimp only[cu,eE,eN]at h)<;>(try(exfalso;omega)))
     |(
 intro yy (hy:Tag 47/\_)
 obtain⟨(k:Int),(nl:Int),(b1:Bool),(n1:Int),(s1:ByteArray),(b2:Bool),(n2:Int),(s2:ByteArray),_⟩:=yy
 replace hy:=hy.2
 dsimp only[cu,aB,aA,gts,eE,eN]at hy
 obtain⟨hk,hg,hn,h1,h2⟩:=hy)))
 all_goals(
 with_reducible apply Leaf.mk
 (try dsimp only[cu,aB,aA,gts,eE,eN]at *)
 (
  rw[mF,hg,List.drop_eq_nil_of_le (by omega)];rfl))
abbrev qSP:Tbl:=(28,vE)::qSO
theorem qBG:aC Tryz.prog qSP:=aC.cons WE qBF
abbrev CS:Ct:=.fn [bQ] (some (fun(v:Val)=>(inI v.2.1/\v.2.2.size<=1073741824))) (fun(v:Val)=>.d .str (rG v))
theorem qI0:aG Tryz.prog 84 CS:=by
 refine aG.fn qBG mixed [] [] rfl rfl ?_;rintro⟨(v:Val),_⟩ hpre;replace hpre:=hpre _ rfl;dsimp only[cu]at hpre;have hv:=hpre;refine⟨[],?_⟩;repeat' (first
  |(
 with_reducible apply Side.mk
 (try dsimp only[cu,aB,aA,gts,loK,hiK,eE,eN])
 first
 |exact hv.1
 |exact kX hv.1
 |(
  have p1:=aY (fE v.2.1);have p2:=aY ((v.2.2.size:Int));first
  |(
   rw[aS (by omega)];omega)
  |(
   simp only[ByteArray.size_append,aT];(try rw[aS (by omega)]);have s1:(⟨#[1]⟩:ByteArray).size=1:=rfl;omega)))
  |(conv=>whnf
    first
     |with_reducible first|done|exact trivial|refine NilBr.mk (fun h=>?_) ?_|apply aJ|apply aI|refine aK (by kernel_rfl) ?_|apply aL|apply bC|apply bB|apply aO
     |((with_reducible first|apply aQ|apply aP|apply bA)<;>intro h<;>(try dsimp only[cu,eE,eN]at h)<;>(try(exfalso;omega)))))
 all_goals(
 with_reducible apply Leaf.mk
 (try dsimp only[cu,aB,aA,gts,eE,eN]at *)
 first
 |rw[rG,if_pos (by assumption)]
 |(rw[VO (by assumption),aS (n:=((v.2.2.size:Nat):Int)) (by omega)]))
abbrev qSQ:Tbl:=(84,CS)::qSP
theorem qBH:aC Tryz.prog qSQ:=aC.cons qI0 qBG
abbrev CT:Ct:=.fn [tM] (some (fun(z:Zone)=>(z.1<=4096/\z.2.1<=4096)/\(inI z.2.2.1.2.1/\z.2.2.1.2.2.size<=1073741824)/\(inI z.2.2.2.2.1/\z.2.2.2.2.2.size<=1073741824))) (fun(z:Zone)=>.d .str (rH z))
theorem qI1:aG Tryz.prog 41 CT:=by
 refine aG.fn qBH mixed [] [] rfl rfl ?_;rintro⟨(z:Zone),_⟩ hpre;replace hpre:=hpre _ rfl;dsimp only[cu]at hpre;obtain⟨h1,h2,h3⟩:=hpre;refine⟨[],?_⟩;repeat' (first
  |(
 with_reducible apply Side.mk
 (try dsimp only[cu,aB,aA,gts,loK,hiK,eE,eN])
 first
 |omega
 |(
  have m1:0<=cI 0 z.1/\cI 0 z.1<=4096:=by unfold cI;split<;>omega
  have m2:0<=cI 0 z.2.1/\cI 0 z.2.1<=4096:=by unfold cI;split<;>omega
  first
  |(
   rw[aS (by omega)];omega)
  |(
   have p1:=aY (cI 0 z.1);have p2:=aY (cI 0 z.2.1);have p3:=mN (v:=z.2.2.1);have p4:=mN (v:=z.2.2.2);simp only[aS (n:=cI 0 z.1) (by omega),aS (n:=cI 0 z.2.1) (by omega),ByteArray.size_append,aT];omega)))
  |(conv=>whnf
    first
     |with_reducible first|done|exact trivial|refine NilBr.mk (fun h=>?_) ?_|apply aJ|apply aI|refine aK (by kernel_rfl) ?_|apply aL|apply bC|apply bB|apply aO
     |((with_reducible first|apply aQ|apply aP|apply bA)<;>intro h<;>(try dsimp only[cu,eE,eN]at h)<;>(try(exfalso;omega)))))
 all_goals(
 with_reducible apply Leaf.mk
 (try dsimp only[cu,aB,aA,gts,eE,eN]at *)
 (
  have m1:0<=cI 0 z.1/\cI 0 z.1<=4096:=by unfold cI;split<;>omega
  have m2:0<=cI 0 z.2.1/\cI 0 z.2.1<=4096:=by unfold cI;split<;>omega
  rw[rH,aS (n:=cI 0 z.1) (by omega),aS (n:=cI 0 z.2.1) (by omega)]))
abbrev qSR:Tbl:=(41,CT)::qSQ
theorem qBI:aC Tryz.prog qSR:=aC.cons qI1 qBH
def jR (s:Schema) (row:List Val):Int:=if row.length≠s.1.length then 1 else bL (fun i v=>bK s.1[i.toNat]! v) 0 row
abbrev qTP:Rank:=((false,0,⟨#[]⟩),0)
def fR (s:Schema) (r:Rec):Rank:=if s.2<0\/s.2>=r.2.length then qTP else(r.2[s.2.toNat]!,r.1)
def jQ (t:Int) (a b:Rank):Int:=if cT t a.1 b.1≠0 then cT t a.1 b.1 else gT a.2 b.2
def gR (s:Schema) (r:Rec):Bool:=decide (0<=r.1)&&decide (r.1<=1099511627776)&&decide (jR s r.2=0)
def cN (s:Schema) (l:List Rec):Bool:=decide (aX s=0)&&l.all (gR s)
def iK (s:Schema) (a b:Rec):Int:=jQ s.1[s.2.toNat]!.2.1 (fR s a) (fR s b)
def FW (s:Schema) (l:List Rec):Bool:=(List.range (l.length-1)).all fun i=>decide (iK s l[i]! l[i+1]! <0)
def dN (s:Schema) (l:List Rec):Bool:=cN s l&&FW s l
theorem bS {s:Schema} {l:List Rec} (h:cN s l=true):aX s=0/\∀i:Nat,i<l.length->jR s l[i]!.2=0:=by
 simp only[cN,Bool.and_eq_true,decide_eq_true_eq,List.all_eq_true]at h;refine⟨h.1,fun i hi=>?_⟩;have q:=h.2 l[i]! (by rw[getElem!_pos l i hi];exact List.getElem_mem hi);simp only[gR,Bool.and_eq_true,decide_eq_true_eq]at q;exact q.2
theorem jL {b:Bool} (h:(!b)=false):b=true:=by cases b;cases h;rfl
theorem qHR {b:Bool} (h:(!b)=true):b=false:=by cases b;rfl;cases h
def orI:List Int->Int
 | []=>0
 |x::l=>if x≠0 then x else orI l
theorem aU {s:Schema} (h:aX s=0):s.1.length<=12/\0<=s.2/\s.2<s.1.length:=by
 unfold aX at h;split at h
 ·cases h
 split at h
 ·cases h
 split at h
 ·contradiction
 split at h
 ·cases h
 ·omega
theorem qOC {i n:Nat} {k:Int} (h:i<n) (hk:¬k<n):i<k.toNat:=by omega
theorem qND {s:Schema} {l:List Rec} {k:Int} (h:1<=k/\k<l.length) (hn:iK s l[(k-1).toNat]! l[k.toNat]! >=0):FW s l=false:=by
 rw[FW,List.all_eq_false];refine⟨(k-1).toNat,by rw[List.mem_range];omega,?_⟩;rw[show(k-1).toNat+1=k.toNat by omega,decide_eq_true_eq];omega
theorem qFP {s:Schema} {l:List Rec} (h:∀i:Nat,1<=i->i<l.length->iK s l[i-1]! l[i]! <0):FW s l=true:=by
 rw[FW,List.all_eq_true];intro i hi;rw[List.mem_range]at hi;rw[decide_eq_true_eq];exact h (i+1) (by omega) (by omega)
def iL (s:Schema) (r:Rec) (l:List Rec):Nat->Nat
 |0=>0
 |n+1=>if iK s r l[n]! <0 then iL s r l n else n+1
theorem qHB (s:Schema) (r:Rec) (l:List Rec) (n:Nat):iL s r l n<=n:=by
 induction n with
 |zero=>exact Nat.le_refl _
 |succ n ih=>rw[iL];split<;>omega
theorem qHA {s:Schema} {r:Rec} {l:List Rec} {k:Int} (h:k>0) (ho:iK s r l[(k-1).toNat]! <0):iL s r l k.toNat=iL s r l (k-1).toNat:=by
 obtain⟨n,rfl⟩:∃n:Nat,k=(n:Int)+1:=⟨(k-1).toNat,by omega⟩
 rw[show((n:Int)+1).toNat=n+1 by omega,show((n:Int)+1-1).toNat=n by omega]at *;rw[iL,if_pos ho]
theorem UQ {s:Schema} {r:Rec} {l:List Rec} {k:Int} (h:k>0) (ho:¬iK s r l[(k-1).toNat]! <0):iL s r l k.toNat=k.toNat:=by
 obtain⟨n,rfl⟩:∃n:Nat,k=(n:Int)+1:=⟨(k-1).toNat,by omega⟩
 rw[show((n:Int)+1).toNat=n+1 by omega,show((n:Int)+1-1).toNat=n by omega]at *;rw[iL,if_neg ho]
def fW (s:Schema) (o:List Rec) (r:Rec):List Rec:=o.take (iL s r o o.length)++ [r]++o.drop (iL s r o o.length)
theorem qX (s:Schema) (o:List Rec) (r:Rec):(fW s o r).length=o.length+1:=by
 have:=qHB s r o o.length;simp only[fW,List.length_append,List.length_take,List.length_drop,List.length_cons,List.length_nil];omega
theorem qG9 {s:Schema} {r:Rec} {l:List Rec} {j:Int} (h:iL s r l l.length=iL s r l j.toNat) (h0:0<=j) (hs:¬j>0\/¬iK s r l[(j-1).toNat]! <0):iL s r l l.length=j.toNat:=by
 by_cases q:j>0
 ·rcases hs with hs|hs
  ·exact absurd q hs
  ·exact h.trans (UQ q hs)
 ·rw[h,show j.toNat=0 by omega];rfl
theorem wL {α:Type} (l:List α) (a n:Nat):NL l a n=(l.drop a).take n:=by cases a<;>rfl
theorem ZI {α:Type} (l:List α) (a n:Nat):(NL l a n).length=min n (l.length-a):=by rw[wL,List.length_take,List.length_drop]
theorem KU {α:Type} (l:List α) (j:Int) (h:0<=j/\j<=l.length):NL l j.toNat ((l.length:Int)-j).toNat=l.drop j.toNat:=by rw[wL,List.take_of_length_le (by rw[List.length_drop];omega)]
theorem qQJ {O:List Rec} {x:Rec} {j:Int} (h:j=O.length):NL O 0 j.toNat++ [x]++ []=O.take j.toNat++ [x]++O.drop j.toNat:=by rw[wL,List.drop_zero,List.drop_eq_nil_of_le (by omega)]
theorem qQK {O:List Rec} {x:Rec} {j:Int} (h:0<=j/\j<=O.length):NL O 0 j.toNat++ [x]++NL O j.toNat ((O.length:Int)-j).toNat=O.take j.toNat++ [x]++O.drop j.toNat:=by rw[wL,List.drop_zero,KU O j h]
theorem qQL {O:List Rec} {x:Rec} {j:Int} (h:O.length=0) (hj:0<=j/\j<=O.length):[x]++ []=O.take j.toNat++ [x]++O.drop j.toNat:=by rw[List.drop_eq_nil_of_le (by omega),show j.toNat=0 by omega];rfl
theorem qQM {O:List Rec} {x:Rec} {j:Int} (hj:0<=j/\j<=O.length) (h:j<=0):[x]++NL O j.toNat ((O.length:Int)-j).toNat=O.take j.toNat++ [x]++O.drop j.toNat:=by rw[KU O j hj,show j.toNat=0 by omega];rfl
def eD (s:Schema) (l:List Rec):List Rec:=if cN s l=true then l.foldl (fW s) []else[]
abbrev sW:Ct:=.fn [cG,.list bQ] (some (fun(s:Schema) (row:List Val)=>(s.1.length<=12))) (fun(s:Schema) (row:List Val)=>.d (.int .i64) (jR s row))
theorem PA:aG Tryz.prog 118 sW:=by
 refine aG.fn qBI mixed [] [] rfl rfl ?_;rintro⟨(s:Schema),(row:List Val),_⟩ hpre;replace hpre:=hpre _ rfl;dsimp only[cu]at hpre;have hs:=hpre;refine⟨[(0,8,LA.mk [.sl 16 (.int .i64)] (fun y=>Tag 48/\cu [.int .i64] (fun(k:Int)=>(0<=k/\k<=row.length)/\(bL (fun i v=>bK s.1[i.toNat]! v) 0 row=bL (fun i v=>bK s.1[i.toNat]! v) k (row.drop k.toNat))) y) (cu [.int .i64] (fun(k:Int)=>((row.length:Int)-k).toNat)) (cu [.int .i64] (fun(k:Int)=>([]:List (Nat×Nat×LA)))))],?_⟩;repeat' (first
  |(
 with_reducible refine Side.mk ⟨(⟨⟩:Tag 48),?_⟩
 dsimp only[cu,aB,aA,gts,eE,eN]
 refine⟨?_,?_⟩
 ·omega
 ·first
  |simp;done
  |(
  rw[bJ _ _ (by omega)]at hr
  rw[hr,bL,if_pos (by assumption)]))
  |(
 with_reducible apply Side.mk
 (try dsimp only[cu,aB,aA,gts,loK,hiK,eE,eN])
 omega)
  |(conv=>whnf
    first
     |with_reducible first|done|exact trivial|refine NilBr.mk (fun h=>?_) ?_|apply aJ|apply aI|refine aK (by kernel_rfl) ?_|apply aL|apply bC|apply bB|apply aO
     |((with_reducible first|apply aQ|apply aP|apply bA)<;>intro h<;>(try dsimp only[cu,eE,eN]at h)<;>(try(exfalso;omega)))
     |(
 intro yy (hy:Tag 48/\_)
 obtain⟨(k:Int),_⟩:=yy
 replace hy:=hy.2
 dsimp only[cu,aB,aA,gts,eE,eN]at hy
 obtain⟨hk,hr⟩:=hy)))
 all_goals(
 with_reducible apply Leaf.mk
 (try dsimp only[cu,aB,aA,gts,eE,eN]at *)
 first
 |grind [jR]
 |(
  rw[bJ _ _ (by omega),bL]at hr;grind [jR])
 |(
  rw[lD _ _ (by omega)]at hr;grind [jR,bL]))
abbrev qSS:Tbl:=(118,sW)::qSR
theorem qBJ:aC Tryz.prog qSS:=aC.cons PA qBI
abbrev HA:Ct:=.fn [cG,.list bQ] (some (fun(s:Schema) (row:List Val)=>(s.1.length<=12))) (fun(s:Schema) (row:List Val)=>.d (.int .i64) (jR s row))
theorem qKD:aG Tryz.prog 137 HA:=by
 refine aG.fn qBJ mixed [] [] rfl rfl ?_;rintro⟨(s:Schema),(row:List Val),_⟩ hpre;replace hpre:=hpre _ rfl;dsimp only[cu]at hpre;have hs:=hpre;refine⟨[(0,8,LA.mk [.sl 16 (.int .i64)] (fun y=>Tag 49/\cu [.int .i64] (fun(k:Int)=>(0<=k/\k<=row.length)/\(bL (fun i v=>bK s.1[i.toNat]! v) 0 row=bL (fun i v=>bK s.1[i.toNat]! v) k (row.drop k.toNat))) y) (cu [.int .i64] (fun(k:Int)=>((row.length:Int)-k).toNat)) (cu [.int .i64] (fun(k:Int)=>([]:List (Nat×Nat×LA)))))],?_⟩;repeat' (first
  |(
 with_reducible refine Side.mk ⟨(⟨⟩:Tag 49),?_⟩
 dsimp only[cu,aB,aA,gts,eE,eN]
 refine⟨?_,?_⟩
 ·omega
 ·first
  |simp;done
  |(
  rw[bJ _ _ (by omega)]at hr
  rw[hr,bL,if_pos (by assumption)]))
  |(
 with_reducible apply Side.mk
 (try dsimp only[cu,aB,aA,gts,loK,hiK,eE,eN])
 omega)
  |(conv=>whnf
    first
     |with_reducible first|done|exact trivial|refine NilBr.mk (fun h=>?_) ?_|apply aJ|apply aI|refine aK (by kernel_rfl) ?_|apply aL|apply bC|apply bB|apply aO
     |((with_reducible first|apply aQ|apply aP|apply bA)<;>intro h<;>(try dsimp only[cu,eE,eN]at h)<;>(try(exfalso;omega)))
     |(
 intro yy (hy:Tag 49/\_)
 obtain⟨(k:Int),_⟩:=yy
 replace hy:=hy.2
 dsimp only[cu,aB,aA,gts,eE,eN]at hy
 obtain⟨hk,hr⟩:=hy)))
 all_goals(
 with_reducible apply Leaf.mk
 (try dsimp only[cu,aB,aA,gts,eE,eN]at *)
 first
 |grind [jR]
 |(
  rw[bJ _ _ (by omega),bL]at hr;grind [jR])
 |(
  rw[lD _ _ (by omega)]at hr;grind [jR,bL]))
abbrev qST:Tbl:=(137,HA)::qSS
theorem qBK:aC Tryz.prog qST:=aC.cons qKD qBJ
abbrev CO:Ct:=.fn [cG,iW] (none) (fun(s:Schema) (r:Rec)=>.d rN (fR s r))
theorem qIU:aG Tryz.prog 30 CO:=by
 refine aG.fn qBK mixed [] [] rfl rfl ?_;rintro⟨(s:Schema),(r:Rec),_⟩ -;refine⟨[],?_⟩;repeat' (first
  |(
 with_reducible apply Side.mk
 (try dsimp only[cu,aB,aA,gts,loK,hiK,eE,eN])
 omega)
  |(conv=>whnf
    first
     |with_reducible first|done|exact trivial|refine NilBr.mk (fun h=>?_) ?_|apply aJ|apply aI|refine aK (by kernel_rfl) ?_|apply aL|apply bC|apply bB|apply aO
     |((with_reducible first|apply aQ|apply aP|apply bA)<;>intro h<;>(try dsimp only[cu,eE,eN]at h)<;>(try(exfalso;omega)))))
 all_goals(
 with_reducible apply Leaf.mk
 (try dsimp only[cu,aB,aA,gts,eE,eN]at *)
 first
 |rw[fR,if_pos (by omega)]
 |(rw[fR,if_neg (by omega)]))
abbrev qSU:Tbl:=(30,CO)::qST
theorem qBL:aC Tryz.prog qSU:=aC.cons qIU qBK
abbrev BS:Ct:=.fn [cG,iW] (none) (fun(s:Schema) (r:Rec)=>.d rN (fR s r))
theorem qFX:aG Tryz.prog 98 BS:=by
 refine aG.fn qBL mixed [] [] rfl rfl ?_;rintro⟨(s:Schema),(r:Rec),_⟩ -;refine⟨[],?_⟩;repeat' (first
  |(
 with_reducible apply Side.mk
 (try dsimp only[cu,aB,aA,gts,loK,hiK,eE,eN])
 omega)
  |(conv=>whnf
    first
     |with_reducible first|done|exact trivial|refine NilBr.mk (fun h=>?_) ?_|apply aJ|apply aI|refine aK (by kernel_rfl) ?_|apply aL|apply bC|apply bB|apply aO
     |((with_reducible first|apply aQ|apply aP|apply bA)<;>intro h<;>(try dsimp only[cu,eE,eN]at h)<;>(try(exfalso;omega)))))
 all_goals(
 with_reducible apply Leaf.mk
 (try dsimp only[cu,aB,aA,gts,eE,eN]at *)
 first
 |rw[fR,if_pos (by omega)]
 |(rw[fR,if_neg (by omega)]))
abbrev qSV:Tbl:=(98,BS)::qSU
theorem qBM:aC Tryz.prog qSV:=aC.cons qFX qBL
abbrev CP:Ct:=.fn [.int .i64,rN,rN] (none) (fun(t:Int) (a:Rank) (b:Rank)=>.d (.int .i64) (jQ t a b))
theorem qIV:aG Tryz.prog 78 CP:=by
 refine aG.fn qBM mixed [] [] rfl rfl ?_;rintro⟨(t:Int),(a:Rank),(b:Rank),_⟩ -;refine⟨[],?_⟩;repeat' (first
  |(
 with_reducible apply Side.mk
 (try dsimp only[cu,aB,aA,gts,loK,hiK,eE,eN])
 done)
  |(conv=>whnf
    first
     |with_reducible first|done|exact trivial|refine NilBr.mk (fun h=>?_) ?_|apply aJ|apply aI|refine aK (by kernel_rfl) ?_|apply aL|apply bC|apply bB|apply aO
     |((with_reducible first|apply aQ|apply aP|apply bA)<;>intro h<;>(try dsimp only[cu,eE,eN]at h)<;>(try(exfalso;omega)))))
 all_goals(
 with_reducible apply Leaf.mk
 (try dsimp only[cu,aB,aA,gts,eE,eN]at *)
 grind [jQ,gT])
abbrev qSW:Tbl:=(78,CP)::qSV
theorem qBN:aC Tryz.prog qSW:=aC.cons qIV qBM
abbrev OO:Ct:=.fn [.list (.int .i64)] (some (fun(l:List Int)=>(l.length<=9223372036854775807))) (fun(l:List Int)=>.d (.int .i64) (orI l))
theorem qPA:aG Tryz.prog 130 OO:=by
 refine aG.fn qBN mixed [] [] rfl rfl ?_;rintro⟨(l:List Int),_⟩ hpre;replace hpre:=hpre _ rfl;dsimp only[cu]at hpre;have hl:=hpre;refine⟨[(0,6,LA.mk [.sl 8 (.int .i64)] (fun y=>Tag 50/\cu [.int .i64] (fun(k:Int)=>(0<=k/\k<=l.length)/\(orI l=orI (l.drop k.toNat))) y) (cu [.int .i64] (fun(k:Int)=>((l.length:Int)-k).toNat)) (cu [.int .i64] (fun(k:Int)=>([]:List (Nat×Nat×LA)))))],?_⟩;repeat' (first
  |(
 with_reducible refine Side.mk ⟨(⟨⟩:Tag 50),?_⟩
 dsimp only[cu,aB,aA,gts,eE,eN]
 refine⟨?_,?_⟩
 ·omega
 ·first
  |rfl
  |(
  rw[bJ _ _ (by omega),orI,if_neg (fun q=>q (by assumption))]at hz
  exact hz))
  |(
 with_reducible apply Side.mk
 (try dsimp only[cu,aB,aA,gts,loK,hiK,eE,eN])
 omega)
  |(conv=>whnf
    first
     |with_reducible first|done|exact trivial|refine NilBr.mk (fun h=>?_) ?_|apply aJ|apply aI|refine aK (by kernel_rfl) ?_|apply aL|apply bC|apply bB|apply aO
     |((with_reducible first|apply aQ|apply aP|apply bA)<;>intro h<;>(try dsimp only[cu,eE,eN]at h)<;>(try(exfalso;omega)))
     |(
 intro yy (hy:Tag 50/\_)
 obtain⟨(k:Int),_⟩:=yy
 replace hy:=hy.2
 dsimp only[cu,aB,aA,gts,eE,eN]at hy
 obtain⟨hk,hz⟩:=hy)))
 all_goals(
 with_reducible apply Leaf.mk
 (try dsimp only[cu,aB,aA,gts,eE,eN]at *)
 first
 |rw[hz,bJ _ _ (by omega),orI,if_pos (by assumption)]
 |(
  rw[hz,lD _ _ (by omega)];rfl))
abbrev qSX:Tbl:=(130,OO)::qSW
theorem qBO:aC Tryz.prog qSX:=aC.cons qPA qBN
abbrev BT:Ct:=.fn [.int .i64,rN,rN] (none) (fun(t:Int) (a:Rank) (b:Rank)=>.d (.int .i64) (jQ t a b))
theorem qFY:aG Tryz.prog 94 BT:=by
 refine aG.fn qBO mixed [] [] rfl rfl ?_;rintro⟨(t:Int),(a:Rank),(b:Rank),_⟩ -;refine⟨[],?_⟩;repeat' (first
  |(
 with_reducible apply Side.mk
 (try dsimp only[cu,aB,aA,gts,loK,hiK,eE,eN])
 (simp only[List.length_append,List.length_cons,List.length_nil];omega))
  |(conv=>whnf
    first
     |with_reducible first|done|exact trivial|refine NilBr.mk (fun h=>?_) ?_|apply aJ|apply aI|refine aK (by kernel_rfl) ?_|apply aL|apply bC|apply bB|apply aO
     |((with_reducible first|apply aQ|apply aP|apply bA)<;>intro h<;>(try dsimp only[cu,eE,eN]at h)<;>(try(exfalso;omega)))))
 all_goals(
 with_reducible apply Leaf.mk
 (try dsimp only[cu,aB,aA,gts,eE,eN]at *)
 (
  simp only[orI,jQ];grind))
abbrev qSY:Tbl:=(94,BT)::qSX
theorem qBP:aC Tryz.prog qSY:=aC.cons qFY qBO
abbrev yT:Ct:=.fn [cG,iW,iW] (some (fun(s:Schema) (a:Rec) (b:Rec)=>(0<=s.2/\s.2<s.1.length))) (fun(s:Schema) (a:Rec) (b:Rec)=>.d (.int .i64) (iK s a b))
theorem qEA:aG Tryz.prog 97 yT:=by
 refine aG.fn qBP mixed [] [] rfl rfl ?_;rintro⟨(s:Schema),(a:Rec),(b:Rec),_⟩ hpre;replace hpre:=hpre _ rfl;dsimp only[cu]at hpre;have hk:=hpre;refine⟨[],?_⟩;repeat' (first
  |(
 with_reducible apply Side.mk
 (try dsimp only[cu,aB,aA,gts,loK,hiK,eE,eN])
 omega)
  |(conv=>whnf
    first
     |with_reducible first|done|exact trivial|refine NilBr.mk (fun h=>?_) ?_|apply aJ|apply aI|refine aK (by kernel_rfl) ?_|apply aL|apply bC|apply bB|apply aO
     |((with_reducible first|apply aQ|apply aP|apply bA)<;>intro h<;>(try dsimp only[cu,eE,eN]at h)<;>(try(exfalso;omega)))))
 all_goals(
 with_reducible apply Leaf.mk
 (try dsimp only[cu,aB,aA,gts,eE,eN]at *)
 rfl)
abbrev qSZ:Tbl:=(97,yT)::qSY
theorem qBQ:aC Tryz.prog qSZ:=aC.cons qEA qBP
abbrev uW:Ct:=.fn [cG] (some (fun(s:Schema)=>(0<=s.2/\s.2<s.1.length))) (fun(s:Schema)=>.d (.int .i64) (s.1[s.2.toNat]!.2.1))
theorem UX:aG Tryz.prog 79 uW:=by
 refine aG.fn qBQ mixed [] [] rfl rfl ?_;rintro⟨(s:Schema),_⟩ hpre;replace hpre:=hpre _ rfl;dsimp only[cu]at hpre;have hk:=hpre;refine⟨[],?_⟩;repeat' (first
  |(
 with_reducible apply Side.mk
 (try dsimp only[cu,aB,aA,gts,loK,hiK,eE,eN])
 omega)
  |(conv=>whnf
    first
     |with_reducible first|done|exact trivial|refine NilBr.mk (fun h=>?_) ?_|apply aJ|apply aI|refine aK (by kernel_rfl) ?_|apply aL|apply bC|apply bB|apply aO
     |((with_reducible first|apply aQ|apply aP|apply bA)<;>intro h<;>(try dsimp only[cu,eE,eN]at h)<;>(try(exfalso;omega)))))
 all_goals(
 with_reducible apply Leaf.mk
 (try dsimp only[cu,aB,aA,gts,eE,eN]at *)
 done)
abbrev qS0:Tbl:=(79,uW)::qSZ
theorem qBR:aC Tryz.prog qS0:=aC.cons UX qBQ
abbrev yV:Ct:=.fn [cG,.list iW] (some (fun(s:Schema) (l:List Rec)=>(l.length<=9223372036854775807))) (fun(s:Schema) (l:List Rec)=>.d .bool (cN s l))
theorem qEE:aG Tryz.prog 77 yV:=by
 refine aG.fn qBR mixed [] [] rfl rfl ?_;rintro⟨(s:Schema),(l:List Rec),_⟩ hpre;replace hpre:=hpre _ rfl;dsimp only[cu]at hpre;have hl:=hpre;refine⟨[(0,8,LA.mk [.sl 12 (.int .i64)] (fun y=>Tag 51/\cu [.int .i64] (fun(k:Int)=>(0<=k/\k<=l.length)/\(l.all (gR s)=(l.drop k.toNat).all (gR s))) y) (cu [.int .i64] (fun(k:Int)=>((l.length:Int)-k).toNat)) (cu [.int .i64] (fun(k:Int)=>([]:List (Nat×Nat×LA)))))],?_⟩;repeat' (first
  |(
 with_reducible refine Side.mk ⟨(⟨⟩:Tag 51),?_⟩
 dsimp only[cu,aB,aA,gts,eE,eN]
 refine⟨?_,?_⟩
 ·omega
 ·first
  |simp;done
  |(
  rw[bJ _ _ (by omega)]at hv
  rw[hv,List.all_cons,show gR s l[k.toNat]! =true by grind [gR],Bool.true_and]))
  |(
 with_reducible apply Side.mk
 (try dsimp only[cu,aB,aA,gts,loK,hiK,eE,eN])
 first
 |omega
 |(have:=(aU (s:=s) (by assumption)).1;omega))
  |(conv=>whnf
    first
     |with_reducible first|done|exact trivial|refine NilBr.mk (fun h=>?_) ?_|apply aJ|apply aI|refine aK (by kernel_rfl) ?_|apply aL|apply bC|apply bB|apply aO
     |((with_reducible first|apply aQ|apply aP|apply bA)<;>intro h<;>(try dsimp only[cu,eE,eN]at h)<;>(try(exfalso;omega)))
     |(
 intro yy (hy:Tag 51/\_)
 obtain⟨(k:Int),_⟩:=yy
 replace hy:=hy.2
 dsimp only[cu,aB,aA,gts,eE,eN]at hy
 obtain⟨hk,hv⟩:=hy)))
 all_goals(
 with_reducible apply Leaf.mk
 (try dsimp only[cu,aB,aA,gts,eE,eN]at *)
 first
 |(
  rw[cN,decide_eq_false (by assumption)];rfl)
 |(
  rw[bJ _ _ (by omega)]at hv;rw[cN,hv,List.all_cons,show gR s l[k.toNat]! =false by grind [gR]];simp;done)
 |(
  rw[lD _ _ (by omega)]at hv;rw[cN,hv];simp_all))
abbrev qS1:Tbl:=(77,yV)::qS0
theorem qBS:aC Tryz.prog qS1:=aC.cons qEE qBR
abbrev yI:Ct:=.fn [cG,.list iW] (some (fun(s:Schema) (l:List Rec)=>(l.length<=9223372036854775807))) (fun(s:Schema) (l:List Rec)=>.d .bool (cN s l))
theorem qCY:aG Tryz.prog 96 yI:=by
 refine aG.fn qBS mixed [] [135,167,136] rfl rfl ?_;rintro⟨(s:Schema),(l:List Rec),_⟩ hpre;replace hpre:=hpre _ rfl;dsimp only[cu]at hpre;have hl:=hpre;refine⟨[(167,4,LA.mk [.sl 8 (.int .i64)] (fun y=>Tag 52/\cu [.int .i64] (fun(k:Int)=>(0<=k/\k<=l.length)/\(l.all (gR s)=(l.drop k.toNat).all (gR s))) y) (cu [.int .i64] (fun(k:Int)=>((l.length:Int)-k).toNat)) (cu [.int .i64] (fun(k:Int)=>([]:List (Nat×Nat×LA)))))],?_⟩;repeat' (first
  |(
 with_reducible refine Side.mk ⟨(⟨⟩:Tag 52),?_⟩
 dsimp only[cu,aB,aA,gts,eE,eN]
 refine⟨?_,?_⟩
 ·omega
 ·first
  |simp;done
  |(
  rw[bJ _ _ (by omega)]at hv
  rw[hv,List.all_cons,show gR s l[k.toNat]! =true by grind [gR],Bool.true_and]))
  |(
 with_reducible apply Side.mk
 (try dsimp only[cu,aB,aA,gts,loK,hiK,eE,eN])
 first
 |omega
 |(have:=(aU (s:=s) (by assumption)).1;omega))
  |(conv=>whnf
    first
     |with_reducible first|done|exact trivial|refine NilBr.mk (fun h=>?_) ?_|apply aJ|apply aI|refine aK (by kernel_rfl) ?_|apply aL|apply bC|apply bB|apply aO
     |((with_reducible first|apply aQ|apply aP|apply bA)<;>intro h<;>(try dsimp only[cu,eE,eN]at h)<;>(try(exfalso;omega)))
     |(
 intro yy (hy:Tag 52/\_)
 obtain⟨(k:Int),_⟩:=yy
 replace hy:=hy.2
 dsimp only[cu,aB,aA,gts,eE,eN]at hy
 obtain⟨hk,hv⟩:=hy)))
 all_goals(
 with_reducible apply Leaf.mk
 (try dsimp only[cu,aB,aA,gts,eE,eN]at *)
 first
 |(
  rw[cN,decide_eq_false (by assumption)];rfl)
 |(
  rw[bJ _ _ (by omega)]at hv;rw[cN,hv,List.all_cons,show gR s l[k.toNat]! =false by grind [gR]];simp;omega)
 |(
  rw[lD _ _ (by omega)]at hv;rw[cN,hv];simp_all))
abbrev qS2:Tbl:=(96,yI)::qS1
theorem qBT:aC Tryz.prog qS2:=aC.cons qCY qBS
abbrev vD:Ct:=.fn [cG,.list iW] (some (fun(s:Schema) (l:List Rec)=>(l.length<=1099511627776))) (fun(s:Schema) (l:List Rec)=>.d .bool (dN s l))
theorem WC:aG Tryz.prog 38 vD:=by
 refine aG.fn qBT mixed [] [] rfl rfl ?_;rintro⟨(s:Schema),(l:List Rec),_⟩ hpre;replace hpre:=hpre _ rfl;dsimp only[cu]at hpre;have hl:=hpre;refine⟨[(0,8,LA.mk [.sl 5 (.int .i64)] (fun y=>Tag 53/\cu [.int .i64] (fun(k:Int)=>(1<=k/\(k<=l.length\/k=1))/\(∀i:Nat,1<=i->i<k.toNat->iK s l[i-1]! l[i]! <0)) y) (cu [.int .i64] (fun(k:Int)=>((l.length:Int)-k).toNat)) (cu [.int .i64] (fun(k:Int)=>([]:List (Nat×Nat×LA)))))],?_⟩;repeat' (first
  |(
 with_reducible refine Side.mk ⟨(⟨⟩:Tag 53),?_⟩
 dsimp only[cu,aB,aA,gts,eE,eN]
 refine⟨?_,?_⟩
 ·omega
 ·first
  |intro i h1 h2;omega
  |(
  intro i h1 h2
  by_cases q:i<k.toNat
  ·exact ha i h1 q
  ·have e:i=k.toNat:=by omega
   subst e;rw[show k.toNat-1=(k-1).toNat by omega];unfold iK;omega))
  |(
 with_reducible apply Side.mk
 (try dsimp only[cu,aB,aA,gts,loK,hiK,eE,eN])
 first
 |omega
 |(exact(aU (bS (s:=s) (l:=l) (jL (by assumption))).1).2))
  |(conv=>whnf
    first
     |with_reducible first|done|exact trivial|refine NilBr.mk (fun h=>?_) ?_|apply aJ|apply aI|refine aK (by kernel_rfl) ?_|apply aL|apply bC|apply bB|apply aO
     |((with_reducible first|apply aQ|apply aP|apply bA)<;>intro h<;>(try dsimp only[cu,eE,eN]at h)<;>(try(exfalso;omega)))
     |(
 intro yy (hy:Tag 53/\_)
 obtain⟨(k:Int),_⟩:=yy
 replace hy:=hy.2
 dsimp only[cu,aB,aA,gts,eE,eN]at hy
 obtain⟨hk,ha⟩:=hy)))
 all_goals(
 with_reducible apply Leaf.mk
 (try dsimp only[cu,aB,aA,gts,eE,eN]at *)
 first
 |(
  rw[dN,qHR (b:=cN s l) (by assumption)];rfl)
 |(
  have q:=qND (s:=s) (l:=l) (k:=k) (by omega) (by assumption);rw[dN,q,Bool.and_false])
 |(
  have q:=qFP (s:=s) (l:=l) (fun i h1 h2=>ha i h1 (qOC h2 (by omega)));rw[dN,q,jL (b:=cN s l) (by assumption)];rfl))
abbrev qS3:Tbl:=(38,vD)::qS2
theorem qBU:aC Tryz.prog qS3:=aC.cons WC qBT
abbrev uT:Ct:=.fn [cG,.list iW] (some (fun(s:Schema) (l:List Rec)=>(l.length<=1099511627776))) (fun(s:Schema) (l:List Rec)=>.d .bool (dN s l))
theorem TY:aG Tryz.prog 50 uT:=by
 refine aG.fn qBU mixed [] [] rfl rfl ?_;rintro⟨(s:Schema),(l:List Rec),_⟩ hpre;replace hpre:=hpre _ rfl;dsimp only[cu]at hpre;have hl:=hpre;refine⟨[(0,8,LA.mk [.sl 5 (.int .i64)] (fun y=>Tag 54/\cu [.int .i64] (fun(k:Int)=>(1<=k/\(k<=l.length\/k=1))/\(∀i:Nat,1<=i->i<k.toNat->iK s l[i-1]! l[i]! <0)) y) (cu [.int .i64] (fun(k:Int)=>((l.length:Int)-k).toNat)) (cu [.int .i64] (fun(k:Int)=>([]:List (Nat×Nat×LA)))))],?_⟩;repeat' (first
  |(
 with_reducible refine Side.mk ⟨(⟨⟩:Tag 54),?_⟩
 dsimp only[cu,aB,aA,gts,eE,eN]
 refine⟨?_,?_⟩
 ·omega
 ·first
  |intro i h1 h2;omega
  |(
  intro i h1 h2
  by_cases q:i<k.toNat
  ·exact ha i h1 q
  ·have e:i=k.toNat:=by omega
   subst e;rw[show k.toNat-1=(k-1).toNat by omega];omega))
  |(
 with_reducible apply Side.mk
 (try dsimp only[cu,aB,aA,gts,loK,hiK,eE,eN])
 first
 |omega
 |(exact(aU (bS (s:=s) (l:=l) (jL (by assumption))).1).2))
  |(conv=>whnf
    first
     |with_reducible first|done|exact trivial|refine NilBr.mk (fun h=>?_) ?_|apply aJ|apply aI|refine aK (by kernel_rfl) ?_|apply aL|apply bC|apply bB|apply aO
     |((with_reducible first|apply aQ|apply aP|apply bA)<;>intro h<;>(try dsimp only[cu,eE,eN]at h)<;>(try(exfalso;omega)))
     |(
 intro yy (hy:Tag 54/\_)
 obtain⟨(k:Int),_⟩:=yy
 replace hy:=hy.2
 dsimp only[cu,aB,aA,gts,eE,eN]at hy
 obtain⟨hk,ha⟩:=hy)))
 all_goals(
 with_reducible apply Leaf.mk
 (try dsimp only[cu,aB,aA,gts,eE,eN]at *)
 first
 |(
  rw[dN,qHR (b:=cN s l) (by assumption)];rfl)
 |(
  have q:=qND (s:=s) (l:=l) (k:=k) (by omega) (by assumption);rw[dN,q,Bool.and_false])
 |(
  have q:=qFP (s:=s) (l:=l) (fun i h1 h2=>ha i h1 (qOC h2 (by omega)));rw[dN,q,jL (b:=cN s l) (by assumption)];rfl))
abbrev qS4:Tbl:=(50,uT)::qS3
theorem qBV:aC Tryz.prog qS4:=aC.cons TY qBU
instance zoneDec:DecidableEq Zone:=fun a b=>decidable_of_iff (a.1=b.1/\a.2.1=b.2.1/\a.2.2.1=b.2.2.1/\a.2.2.2=b.2.2.2) (by simp only[Prod.ext_iff])
instance zonesDec:DecidableEq (List Zone):=@instDecidableEqList Zone zoneDec
instance infoDec:DecidableEq Info:=fun a b=>@decidable_of_iff _ (a.1=b.1/\a.2.1=b.2.1/\a.2.2.1=b.2.2.1/\a.2.2.2=b.2.2.2) (by simp only[Prod.ext_iff]) (@instDecidableAnd _ _ _ (@instDecidableAnd _ _ (zonesDec _ _) _))
abbrev CR:Ct:=.fn [cG,.list iW] (some (fun(s:Schema) (l:List Rec)=>(l.length<=1099511627776))) (fun(s:Schema) (l:List Rec)=>.d (.list iW) (eD s l))
theorem qIZ:aG Tryz.prog 34 CR:=by
 refine aG.fn qBV mixed [] [] rfl rfl ?_;rintro⟨(s:Schema),(l:List Rec),_⟩ hpre;replace hpre:=hpre _ rfl;dsimp only[cu]at hpre;have hl:=hpre;refine⟨[(0,10,LA.mk [.sl 16 (.int .i64),.lst 5 iW 56] (fun y=>Tag 55/\cu [.int .i64,.list iW] (fun(k:Int) (O:List Rec)=>(0<=k/\k<=l.length)/\(O=(l.take k.toNat).foldl (fW s) [])/\((O.length:Int)=k)) y) (cu [.int .i64,.list iW] (fun(k:Int) (O:List Rec)=>((l.length:Int)-k).toNat)) (cu [.int .i64,.list iW] (fun(k:Int) (O:List Rec)=>([(0,16,LA.mk [.sl 8 (.int .i64)] (fun y=>Tag 56/\cu [.int .i64] (fun(j:Int)=>(0<=j/\j<=O.length)/\(iL s l[k.toNat]! O O.length=iL s l[k.toNat]! O j.toNat)) y) (cu [.int .i64] (fun(j:Int)=>j.toNat)) (cu [.int .i64] (fun(j:Int)=>([]:List (Nat×Nat×LA)))))]:List (Nat×Nat×LA)))))],?_⟩;repeat' (first
  |(
 with_reducible refine Side.mk ⟨(⟨⟩:Tag 55),?_⟩
 dsimp only[cu,aB,aA,gts,eE,eN]
 refine⟨?_,?_,?_⟩
 ·omega
 ·first
  |rfl
  |(
  have e:=qG9 hi (by omega) (by first|exact Or.inl (by omega)|exact Or.inr (by assumption))
  rw[pC l k (by omega),List.foldl_append,<-ho]
  show _=fW s O l[k.toNat]!
  rw[fW,e]
  first|(exact qQJ (by omega))|(exact qQK (by omega))|(exact qQL (by omega) (by omega))|(exact qQM (by omega) (by omega)))
 ·first
  |simp;done
  |(simp only[ZI,List.length_append,List.length_cons,List.length_nil,List.length_take,List.length_drop];omega))
  |(
 with_reducible refine Side.mk ⟨(⟨⟩:Tag 56),?_⟩
 dsimp only[cu,aB,aA,gts,eE,eN]
 refine⟨?_,?_⟩
 ·omega
 ·first
  |rfl
  |(
  rw[hi]
  exact qHA (by omega) (by assumption)))
  |(
 with_reducible apply Side.mk
 (try dsimp only[cu,aB,aA,gts,loK,hiK,eE,eN])
 first
 |done
 |omega
 |exact Eq.refl _
 |simp only[List.length_append,List.length_cons,List.length_nil];omega
 |exact(aU (bS (s:=s) (l:=l) (jL (by assumption))).1).2
 |(simp only[ZI,List.length_append,List.length_cons,List.length_nil,List.length_take,List.length_drop];omega))
  |(conv=>whnf
    first
     |with_reducible first|done|exact trivial|refine NilBr.mk (fun h=>?_) ?_|apply aJ|apply aI|refine aK (by kernel_rfl) ?_|apply aL|apply bC|apply bB|apply aO
     |((with_reducible first|apply aQ|apply aP|apply bA)<;>intro h<;>(try dsimp only[cu,eE,eN]at h)<;>(try(exfalso;omega)))
     |(
 intro yy (hy:Tag 55/\_)
 obtain⟨(k:Int),(O:List Rec),_⟩:=yy
 replace hy:=hy.2
 dsimp only[cu,aB,aA,gts,eE,eN]at hy
 obtain⟨hk,ho,hol⟩:=hy)
     |(
 intro yy (hy:Tag 56/\_)
 obtain⟨(j:Int),_⟩:=yy
 replace hy:=hy.2
 dsimp only[cu,aB,aA,gts,eE,eN]at hy
 obtain⟨hj,hi⟩:=hy)))
 all_goals(
 with_reducible apply Leaf.mk
 (try dsimp only[cu,aB,aA,gts,eE,eN]at *)
 first
 |rw[eD,if_neg (by rw[qHR (b:=cN s l) (by assumption)];exact Bool.noConfusion)]
 |(rw[eD,if_pos (jL (b:=cN s l) (by assumption)),ho,List.take_of_length_le (by omega)]))
abbrev qS5:Tbl:=(34,CR)::qS4
theorem qBW:aC Tryz.prog qS5:=aC.cons qIZ qBV
abbrev tFr:Ty:=.pair .str (.pair (.int .i64) .bool)
abbrev Fr:Type:=ByteArray×Int×Bool
@[reducible] instance:Inhabited Fr:=instInhabitedDen tFr
abbrev uH:Col:=(⟨#[115,101,113]⟩,1,0,false)
def tC (s:Schema) (i:Int):Col:=if i=s.1.length then uH else s.1[i.toNat]!
def iA (s:Schema) (l:List Rec):List Nat->List Zone:=fun r=>r.map fun i=>mF s.1[i]!.2.1 (fD l i)
def gF (s:Schema) (l:List Rec):Info:=((l.length:Int),iA s l (List.range s.1.length),fR s l[0]!,fR s l[l.length-1]!)
abbrev HU:Ct:=.fn [] (none) (.d uI uH)
theorem qLU:aG Tryz.prog 114 HU:=by
 refine aG.fn qBW mixed [] [] rfl rfl ?_;rintro⟨⟩ -;refine⟨[],?_⟩;repeat' (first
  |(
 with_reducible apply Side.mk
 (try dsimp only[cu,aB,aA,gts,loK,hiK,eE,eN])
 done)
  |(conv=>whnf
    first
     |with_reducible first|done|exact trivial|refine NilBr.mk (fun h=>?_) ?_|apply aJ|apply aI|refine aK (by kernel_rfl) ?_|apply aL|apply bC|apply bB|apply aO
     |((with_reducible first|apply aQ|apply aP|apply bA)<;>intro h<;>(try dsimp only[cu,eE,eN]at h)<;>(try(exfalso;omega)))))
 all_goals(
 with_reducible apply Leaf.mk
 (try dsimp only[cu,aB,aA,gts,eE,eN]at *)
 done)
abbrev qS6:Tbl:=(114,HU)::qS5
theorem qBX:aC Tryz.prog qS6:=aC.cons qLU qBW
abbrev CQ:Ct:=.fn [] (none) (.d uI uH)
theorem qIY:aG Tryz.prog 42 CQ:=by
 refine aG.fn qBX mixed [] [] rfl rfl ?_;rintro⟨⟩ -;refine⟨[],?_⟩;repeat' (first
  |(
 with_reducible apply Side.mk
 (try dsimp only[cu,aB,aA,gts,loK,hiK,eE,eN])
 done)
  |(conv=>whnf
    first
     |with_reducible first|done|exact trivial|refine NilBr.mk (fun h=>?_) ?_|apply aJ|apply aI|refine aK (by kernel_rfl) ?_|apply aL|apply bC|apply bB|apply aO
     |((with_reducible first|apply aQ|apply aP|apply bA)<;>intro h<;>(try dsimp only[cu,eE,eN]at h)<;>(try(exfalso;omega)))))
 all_goals(
 with_reducible apply Leaf.mk
 (try dsimp only[cu,aB,aA,gts,eE,eN]at *)
 done)
abbrev qS7:Tbl:=(42,CQ)::qS6
theorem qBY:aC Tryz.prog qS7:=aC.cons qIY qBX
abbrev HQ:Ct:=.fn [cG,.int .i64] (some (fun(s:Schema) (i:Int)=>(0<=i/\i<=s.1.length))) (fun(s:Schema) (i:Int)=>.d uI (tC s i))
theorem qLP:aG Tryz.prog 67 HQ:=by
 refine aG.fn qBY mixed [] [] rfl rfl ?_;rintro⟨(s:Schema),(i:Int),_⟩ hpre;replace hpre:=hpre _ rfl;dsimp only[cu]at hpre;have hi:=hpre;refine⟨[],?_⟩;repeat' (first
  |(
 with_reducible apply Side.mk
 (try dsimp only[cu,aB,aA,gts,loK,hiK,eE,eN])
 omega)
  |(conv=>whnf
    first
     |with_reducible first|done|exact trivial|refine NilBr.mk (fun h=>?_) ?_|apply aJ|apply aI|refine aK (by kernel_rfl) ?_|apply aL|apply bC|apply bB|apply aO
     |((with_reducible first|apply aQ|apply aP|apply bA)<;>intro h<;>(try dsimp only[cu,eE,eN]at h)<;>(try(exfalso;omega)))))
 all_goals(
 with_reducible apply Leaf.mk
 (try dsimp only[cu,aB,aA,gts,eE,eN]at *)
 first
 |rw[tC,if_pos (by assumption)]
 |(rw[tC,if_neg (by assumption)]))
abbrev qS8:Tbl:=(67,HQ)::qS7
theorem qBZ:aC Tryz.prog qS8:=aC.cons qLP qBY
theorem lA {l:List Rec} {n:Int} (h:1<=n/\n<=12):((jF l n).length:Int)=n/\∀k:Nat,(k:Int)<n->(jF l n)[k]! =fD l k:=by
 rw[jF,if_neg (by omega)];refine⟨by rw[List.length_map,List.length_range];omega,fun k hk=>?_⟩;have q:k<((List.range n.toNat).map (fD l)).length:=by rw[List.length_map,List.length_range];omega
 rw[getElem!_pos _ k q,List.getElem_map,List.getElem_range]
theorem rP {s:Schema} {l:List Rec} {k:Int} (h:0<=k):iA s l (List.range (k+1).toNat)=iA s l (List.range k.toNat)++ [mF s.1[k.toNat]!.2.1 (fD l k.toNat)]:=by
 rw[show(k+1).toNat=k.toNat+1 by omega,List.range_succ,iA,List.map_append];rfl
abbrev HF:Ct:=.fn [cG,.list iW] (some (fun(s:Schema) (l:List Rec)=>(1<=l.length/\l.length<=1073741824)/\(1<=s.1.length/\s.1.length<=12))) (fun(s:Schema) (l:List Rec)=>.d qJB (gF s l))
theorem qKQ:aG Tryz.prog 51 HF:=by
 refine aG.fn qBZ mixed [] [] rfl rfl ?_;rintro⟨(s:Schema),(l:List Rec),_⟩ hpre;replace hpre:=hpre _ rfl;dsimp only[cu]at hpre;obtain⟨hl,hs⟩:=hpre;refine⟨[(0,6,LA.mk [.sl 30 (.int .i64),.row 2 [.same,.own tM 67,.same,.same,.same,.same,.same,.same,.same,.same]] (fun y=>Tag 57/\cu [.int .i64,.list tM] (fun(k:Int) (Z:List Zone)=>(0<=k/\k<=(s.1.length:Int))/\(Z=iA s l (List.range k.toNat))/\((Z.length:Int)=k)) y) (cu [.int .i64,.list tM] (fun(k:Int) (Z:List Zone)=>(((s.1.length:Int):Int)-k).toNat)) (cu [.int .i64,.list tM] (fun(k:Int) (Z:List Zone)=>([]:List (Nat×Nat×LA)))))],?_⟩;repeat' (first
  |(
 with_reducible refine Side.mk ⟨(⟨⟩:Tag 57),?_⟩
 dsimp only[cu,aB,aA,gts,eE,eN]
 refine⟨?_,?_,?_⟩
 ·omega
 ·first
  |rfl
  |(
  obtain⟨hcl,hce⟩:=lA (l:=l) (n:=(s.1.length:Int)) (by omega)
  have hck:=hce k.toNat (by omega)
  show Z++ [mF s.1[k.toNat]!.2.1 (jF l (s.1.length:Int))[k.toNat]!]=_
  rw[hz,hck,rP (by omega)])
 ·first
  |(
  simp
  done)
  |(
  simp only[List.length_append,List.length_cons,List.length_nil]
  omega))
  |(
 with_reducible apply Side.mk
 (try dsimp only[cu,aB,aA,gts,loK,hiK,eE,eN])
 first
 |done
 |omega
 |exact Eq.refl _
 |simp only[List.length_append,List.length_cons,List.length_nil];omega
 |(
  obtain⟨hcl,hce⟩:=lA (l:=l) (n:=(s.1.length:Int)) (by omega);have hck:=hce k.toNat (by omega);show(jF l (s.1.length:Int))[k.toNat]!.length<=_;rw[hck,fD,List.length_map];omega))
  |(conv=>whnf
    first
     |with_reducible first|done|exact trivial|refine NilBr.mk (fun h=>?_) ?_|apply aJ|apply aI|refine aK (by kernel_rfl) ?_|apply aL|apply bC|apply bB|apply aO
     |((with_reducible first|apply aQ|apply aP|apply bA)<;>intro h<;>(try dsimp only[cu,eE,eN]at h)<;>(try(exfalso;omega)))
     |(
 intro yy (hy:Tag 57/\_)
 obtain⟨(k:Int),(Z:List Zone),_⟩:=yy
 replace hy:=hy.2
 dsimp only[cu,aB,aA,gts,eE,eN]at hy
 obtain⟨hk,hz,hzl⟩:=hy
 have hcl:=(lA (l:=l) (n:=(s.1.length:Int)) (by omega)).1)))
 all_goals(
 with_reducible apply Leaf.mk
 (try dsimp only[cu,aB,aA,gts,eE,eN]at *)
 (
  have h2:¬k<(jF l (s.1.length:Int)).length:=h;show((l.length:Int),Z,fR s l[0]!,fR s l[((l.length:Int)-1).toNat]!)=_;rw[gF,hz,show k.toNat=s.1.length by omega,show((l.length:Int)-1).toNat=l.length-1 by omega]))
abbrev qS9:Tbl:=(51,HF)::qS8
theorem qB0:aC Tryz.prog qS9:=aC.cons qKQ qBZ
def dS (l:List Rec):List Val:=l.map fun r=>((false,r.1,⟨#[]⟩):Val)
def cS (r:Rank):ByteArray:=rG r.1++aN (put r.2)
theorem EY {l:List Rec} {k:Int} (h:0<=k/\k<l.length):dS (l.take (k+1).toNat)=dS (l.take k.toNat)++ [((false,l[k.toNat]!.1,⟨#[]⟩):Val)]:=by
 rw[pC l k h,dS,List.map_append];rfl
abbrev II:Ct:=.fn [.list iW] (some (fun(l:List Rec)=>(l.length<=1099511627776))) (fun(l:List Rec)=>.d (.list bQ) (dS l))
theorem qMP:aG Tryz.prog 43 II:=by
 refine aG.fn qB0 mixed [] [] rfl rfl ?_;rintro⟨(l:List Rec),_⟩ hpre;replace hpre:=hpre _ rfl;dsimp only[cu]at hpre;have hl:=hpre;refine⟨[(0,6,LA.mk [.sl 8 (.int .i64),.lst 3 bQ 43] (fun y=>Tag 58/\cu [.int .i64,.list bQ] (fun(k:Int) (M:List Val)=>(0<=k/\k<=l.length)/\(M=dS (l.take k.toNat))/\((M.length:Int)=k)) y) (cu [.int .i64,.list bQ] (fun(k:Int) (M:List Val)=>((l.length:Int)-k).toNat)) (cu [.int .i64,.list bQ] (fun(k:Int) (M:List Val)=>([]:List (Nat×Nat×LA)))))],?_⟩;repeat' (first
  |(
 with_reducible refine Side.mk ⟨(⟨⟩:Tag 58),?_⟩
 dsimp only[cu,aB,aA,gts,eE,eN]
 refine⟨?_,?_,?_⟩
 ·omega
 ·first
  |rfl
  |rw[hm,EY (by omega)]
 ·first
  |(
  simp
  done)
  |(
  simp only[List.length_append,List.length_cons,List.length_nil]
  omega))
  |(
 with_reducible apply Side.mk
 (try dsimp only[cu,aB,aA,gts,loK,hiK,eE,eN])
 first
 |done
 |omega
 |exact Eq.refl _
 |(simp only[List.length_append,List.length_cons,List.length_nil];omega))
  |(conv=>whnf
    first
     |with_reducible first|done|exact trivial|refine NilBr.mk (fun h=>?_) ?_|apply aJ|apply aI|refine aK (by kernel_rfl) ?_|apply aL|apply bC|apply bB|apply aO
     |((with_reducible first|apply aQ|apply aP|apply bA)<;>intro h<;>(try dsimp only[cu,eE,eN]at h)<;>(try(exfalso;omega)))
     |(
 intro yy (hy:Tag 58/\_)
 obtain⟨(k:Int),(M:List Val),_⟩:=yy
 replace hy:=hy.2
 dsimp only[cu,aB,aA,gts,eE,eN]at hy
 obtain⟨hk,hm,hml⟩:=hy)))
 all_goals(
 with_reducible apply Leaf.mk
 (try dsimp only[cu,aB,aA,gts,eE,eN]at *)
 rw[hm,List.take_of_length_le (by omega)])
abbrev qTA:Tbl:=(43,II)::qS9
theorem qB1:aC Tryz.prog qTA:=aC.cons qMP qB0
abbrev vA:Ct:=.fn [rN] (some (fun(r:Rank)=>(0<=r.2/\r.2<=1099511627776)/\(inI r.1.2.1/\r.1.2.2.size<=1073741824))) (fun(r:Rank)=>.d .str (cS r))
theorem VM:aG Tryz.prog 45 vA:=by
 refine aG.fn qB1 mixed [] [] rfl rfl ?_;rintro⟨(r:Rank),_⟩ hpre;replace hpre:=hpre _ rfl;dsimp only[cu]at hpre;obtain⟨hr,hs⟩:=hpre;refine⟨[],?_⟩;repeat' (first
  |(
 with_reducible apply Side.mk
 (try dsimp only[cu,aB,aA,gts,loK,hiK,eE,eN])
 first
 |omega
 |(
  rw[aS (by omega)];omega)
 |(
  have h1:=mN (v:=r.1);have h2:=aY (IntKind.u64.wrap r.2);simp only[aT];omega))
  |(conv=>whnf
    first
     |with_reducible first|done|exact trivial|refine NilBr.mk (fun h=>?_) ?_|apply aJ|apply aI|refine aK (by kernel_rfl) ?_|apply aL|apply bC|apply bB|apply aO
     |((with_reducible first|apply aQ|apply aP|apply bA)<;>intro h<;>(try dsimp only[cu,eE,eN]at h)<;>(try(exfalso;omega)))))
 all_goals(
 with_reducible apply Leaf.mk
 (try dsimp only[cu,aB,aA,gts,eE,eN]at *)
 rw[cS,aS (by omega)])
abbrev qTB:Tbl:=(45,vA)::qTA
theorem qB2:aC Tryz.prog qTB:=aC.cons VM qB1
abbrev CE:Ct:=.fn [.list iW,.int .i64] (some (fun(l:List Rec) (n:Int)=>(l.length<=1099511627776))) (fun(l:List Rec) (n:Int)=>.d (.list (.list bQ)) (jF l n))
theorem qH9:aG Tryz.prog 27 CE:=by
 refine aG.fn qB2 mixed [] [] rfl rfl ?_;rintro⟨(l:List Rec),(n:Int),_⟩ hpre;replace hpre:=hpre _ rfl;dsimp only[cu]at hpre;have hl:=hpre;refine⟨[(0,10,LA.mk [.sl 6 (.int .i64),.lst 5 (.list bQ) 52] (fun y=>Tag 59/\cu [.int .i64,.list (.list bQ)] (fun(k:Int) (O:List (List Val))=>(0<=k/\k<=n)/\(O=(List.range k.toNat).map (fD l))/\((O.length:Int)=k)) y) (cu [.int .i64,.list (.list bQ)] (fun(k:Int) (O:List (List Val))=>(n-k).toNat)) (cu [.int .i64,.list (.list bQ)] (fun(k:Int) (O:List (List Val))=>([(0,18,LA.mk [.sl 23 (.int .i64),.lst 7 bQ 43] (fun y=>Tag 60/\cu [.int .i64,.list bQ] (fun(j:Int) (M:List Val)=>(0<=j/\j<=l.length)/\(M=fD (l.take j.toNat) k.toNat)/\((M.length:Int)=j)) y) (cu [.int .i64,.list bQ] (fun(j:Int) (M:List Val)=>((l.length:Int)-j).toNat)) (cu [.int .i64,.list bQ] (fun(j:Int) (M:List Val)=>([]:List (Nat×Nat×LA)))))]:List (Nat×Nat×LA)))))],?_⟩;repeat' (first
  |(
 with_reducible refine Side.mk ⟨(⟨⟩:Tag 59),?_⟩
 dsimp only[cu,aB,aA,gts,eE,eN]
 refine⟨?_,?_,?_⟩
 ·omega
 ·first
  |rfl
  |(
  rw[ho,hm,List.take_of_length_le (by omega),show(k+1).toNat=k.toNat+1 by omega,List.range_succ,List.map_append]
  rfl)
 ·first
  |(
  simp
  done)
  |(
  simp only[List.length_append,List.length_cons,List.length_nil]
  omega))
  |(
 with_reducible refine Side.mk ⟨(⟨⟩:Tag 60),?_⟩
 dsimp only[cu,aB,aA,gts,eE,eN]
 refine⟨?_,?_,?_⟩
 ·omega
 ·first
  |rfl
  |(
  rw[hm,pC l j (by omega)]
  simp only[fD,List.map_append,List.map_cons,List.map_nil,atV]
  first|(rw[if_pos (by omega)]
         done)|(rw[if_neg (by omega)]
                done))
 ·first
  |(
  simp
  done)
  |(
  simp only[List.length_append,List.length_cons,List.length_nil]
  omega))
  |(
 with_reducible apply Side.mk
 (try dsimp only[cu,aB,aA,gts,loK,hiK,eE,eN])
 first
 |done
 |omega
 |exact Eq.refl _
 |(simp only[List.length_append,List.length_cons,List.length_nil];omega))
  |(conv=>whnf
    first
     |with_reducible first|done|exact trivial|refine NilBr.mk (fun h=>?_) ?_|apply aJ|apply aI|refine aK (by kernel_rfl) ?_|apply aL|apply bC|apply bB|apply aO
     |((with_reducible first|apply aQ|apply aP|apply bA)<;>intro h<;>(try dsimp only[cu,eE,eN]at h)<;>(try(exfalso;omega)))
     |(
 intro yy (hy:Tag 59/\_)
 obtain⟨(k:Int),(O:List (List Val)),_⟩:=yy
 replace hy:=hy.2
 dsimp only[cu,aB,aA,gts,eE,eN]at hy
 obtain⟨hk,ho,hol⟩:=hy)
     |(
 intro yy (hy:Tag 60/\_)
 obtain⟨(j:Int),(M:List Val),_⟩:=yy
 replace hy:=hy.2
 dsimp only[cu,aB,aA,gts,eE,eN]at hy
 obtain⟨hj,hm,hml⟩:=hy)))
 all_goals(
 with_reducible apply Leaf.mk
 (try dsimp only[cu,aB,aA,gts,eE,eN]at *)
 first
 |rw[jF,if_pos (by omega)]
 |(rw[jF,if_neg (by omega),ho,show k=n by omega]))
abbrev qTC:Tbl:=(27,CE)::qTB
theorem qB3:aC Tryz.prog qTC:=aC.cons qH9 qB2
end Go.Proofs.YtcjiefknhfhmkaaGreatDoor
namespace Go.Abs
set_option maxRecDepth 100000
set_option maxHeartbeats 4000000
set_option linter.unusedVariables false
set_option linter.unusedSimpArgs false
theorem Rep.ext {w:World} {ι ι2:Iota} {M M2:Nat->Prop} (hi:∀i l,ι i=some l->ι2 i=some l) (hm:∀b,M2 b->M b) {x:V} {y:Value} (r:Rep w ι M x y):Rep w ι2 M2 x y:=by
 induction r with
 |v x=>exact .v x
 |any x=>exact .any x
 |pF row off b o cells hb hn hc _ ih=>exact .pF row off b o cells hb (fun q=>hn (hm _ q)) hc ih
 |pO id row off l hl=>exact .pO id row off l (hi _ _ hl)
 |sF sz rows a cap cells hb hcap hr hc _ ih=>exact .sF sz rows a cap cells (fun hne=>let ⟨h1,h2,h3⟩:=hb hne;⟨h1,h2,fun q=>h3 (hm _ q)⟩) hcap hr hc ih
 |sN sz=>exact .sN sz
 |sO id off len cap l c e fr hl h1 h2 h3=>exact .sO id off len cap l c e fr (hi _ _ hl) h1 h2 h3
 |agg xs vs hl _ ih=>exact .agg xs vs hl ih
 |tup xs vs hl _ ih=>exact .tup xs vs hl ih
 |fn f first caps vs us h1 h2 _ _ ih1 ih2=>exact .fn f first caps vs us h1 h2 ih1 ih2
 |ifc t x y _ ih=>exact .ifc t x y ih
 |sL t l y _ ih=>exact .sL t l y ih
 |oL id n y _ ih=>exact .oL id n y ih
structure Out (σ N:List Nat) (k:Heap) (h':Heap) (k':Heap) (τ:List Nat):Prop where
 len:τ.length=k'.length
 le:k.length<=k'.length
 other:∀i:Nat,i<k.length->¬i∈σ->¬i∈N->τ[i]? =some (List.length h')/\k'[i]? =k[i]?
 old:∀j i:Nat,σ[j]? =some i->τ[i]? =some j
 obj:∀i:Nat,(i∈σ\/(i∈N\/k.length<=i))->i<k'.length->∃m x z,τ[i]? =some m/\h'[m]? =some x/\k'[i]? =some z/\jD τ x z
 inj:∀(i1 i2 m:Nat) (o1 o2:AObj),(i1∈σ\/(i1∈N\/k.length<=i1))->(i2∈σ\/(i2∈N\/k.length<=i2))->k'[i1]? =some (.live o1)->k'[i2]? =some (.live o2)->τ[i1]? =some m->τ[i2]? =some m->i1=i2
theorem PC.liftN {P:Program} {f:FuncId} {args0 args:List V} {h0 k:Heap} {σ N:List Nat} {R:V->Heap->Prop} {y':V} {k':Heap} (hσ:σ.Nodup) (hN:∀i,i∈N->k[i]? =some .free) (hl0:h0.length=σ.length)
  (hobj:∀(j i:Nat),σ[j]? =some i->∃x y,k[i]? =some y/\h0[j]? =some x/\jD σ y x) (harg:Pairs (cA σ) args args0) (hc:PC P f args0 h0 R)
  (hout:∀y h',R y h'->∃τ,Out σ N k h' k' τ/\cA τ y y'):PC P f args k (fun y k2=>y=y'/\k2=k'):=by
 intro ι w vals hp H;let X0:Nat->Prop:=fun b=>Mt k ι b/\¬Ob h0 (ι.ren σ) b
 let ι0:Iota:={at':=(ι.ren σ).at',X:=X0}
 have e0:∀j,ι0 j=(ι.ren σ) j:=fun _=>rfl
 have at0:∀(j i:Nat),σ[j]? =some i->ι0 j=ι i:=by intro j i h;rw[e0];simp [Iota.ren,h]
 have ob0:∀b,Ob h0 ι0 b↔Ob h0 (ι.ren σ) b:=fun b=>Iff.rfl
 have getσ:∀(j:Nat) (o:AObj),h0[j]? =some (.live o)->∃i oc,σ[j]? =some i/\k[i]? =some (.live oc)/\RenL σ oc o:=by
  intro j o h;have hj:j<σ.length:=by rw[<-hl0];exact aF h
  obtain⟨x,y,h1,h2,h3⟩:=hobj j σ[j] (List.getElem?_eq_getElem hj);rw[h]at h2;injection h2 with h2;subst h2;obtain⟨oc,rfl,h4⟩:=h3.2 o rfl;exact⟨σ[j],oc,List.getElem?_eq_getElem hj,h1,h4⟩
 have obk:∀b,Ob h0 ι0 b->Ob k ι b:=by
  rintro b ⟨j,o,l,h1,h2,h3⟩;obtain⟨i,oc,g1,g2,_⟩:=getσ j o h1;rw[at0 j i g1]at h2;exact⟨i,oc,l,g2,h2,h3⟩
 have mt0:∀b,Mt h0 ι0 b->Mt k ι b:=fun b q=>q.elim (fun q=>q.1) (fun q=>.inr (obk b q))
 have mlt:∀b,Mt k ι b->b<w.heap.size:=by
  rintro b (q|q)
  ·exact H.xlt b q
  ·exact H.blk_lt q
 have rep0:∀ {x y:V} {z:Value},cA σ x y->Rep w ι (Mt k ι) x z->Rep w ι0 (Mt h0 ι0) y z:=fun hr r=>
  Rep.ext (ι:=ι.ren σ) (ι2:=ι0) (fun i l q=>q) (fun b q=>q) (hr w ι _ _ mt0 _ r)
 have H0:HRel h0 ι0 w:=by
  refine⟨fun j o ho=>?_,fun j hj=>?_,fun j hj=>?_,fun j1 o1 l1 j2 o2 l2 a1 a2 b1 b2 hb=>?_,fun b q=>mlt b q.1,fun b q r=>q.2 r⟩
  ·obtain⟨i,oc,g1,g2,g3⟩:=getσ j o ho
   obtain⟨l,c,fr,h1,la⟩:=H.live i oc g2;refine⟨l,c,fr,(at0 j i g1).trans h1,⟨by rw[<-g3.elem];exact la.blk,by rw[<-g3.elem,<-g3.sz];exact la.unfrozen,by rw[<-g3.sz];exact la.sz,fun r' hr'=>?_,by rw[<-g3.sz,<-g3.len];exact la.fits,fun a ha b hb=>?_⟩⟩
   ·obtain⟨a,ha,e⟩:=List.getElem_of_mem hr'
    have ha1:a<oc.rows.length:=by rw[g3.len];exact ha
    have u:=g3.rows a _ _ (List.getElem?_eq_getElem ha1) (List.getElem?_eq_getElem ha);rw[<-e,<-u.1,<-g3.sz];exact la.rows _ (List.getElem_mem ha1)
   ·have ha1:a<oc.rows.length:=by rw[g3.len];exact ha
    have u:=g3.rows a _ _ (List.getElem?_eq_getElem ha1) (List.getElem?_eq_getElem ha);have hb1:b<oc.rows[a].length:=by rw[u.1];exact hb
    obtain⟨z,z1,z2⟩:=la.reads a ha1 b hb1;exact⟨z,by rw[<-g3.sz];exact z1,rep0 (u.2 b _ _ (List.getElem?_eq_getElem hb1) (List.getElem?_eq_getElem hb)) z2⟩
  ·exfalso
   have hj':j<σ.length:=by rw[<-hl0];exact aF hj
   obtain⟨x,y,h1,h2,h3⟩:=hobj j σ[j] (List.getElem?_eq_getElem hj');rw[hj]at h2;injection h2 with h2;subst h2;exact h3.1 rfl
  ·have:σ[j]? =none:=List.getElem?_eq_none (by rw[<-hl0];exact hj)
   rw[e0];simp [Iota.ren,this]
  ·obtain⟨i1,p1,g1,g2,_⟩:=getσ j1 o1 a1
   obtain⟨i2,p2,f1,f2,_⟩:=getσ j2 o2 b1;rw[at0 j1 i1 g1]at a2;rw[at0 j2 i2 f1]at b2;have:=H.apart _ _ _ _ _ _ g2 a2 f2 b2 hb;subst this;have h1:=aF g1;have h2:=aF f1;rw[List.getElem?_eq_getElem h1]at g1;injection g1 with g1;rw[List.getElem?_eq_getElem h2]at f1;injection f1 with f1;have hpw:=List.pairwise_iff_getElem.1 hσ;rcases Nat.lt_trichotomy j1 j2 with q|q|q
   ·exact absurd (g1.trans f1.symm) (hpw j1 j2 h1 h2 q)
   ·exact q
   ·exact absurd (f1.trans g1.symm) (hpw j2 j1 h2 h1 q)
 have hp0:PW2 w ι0 (Mt h0 ι0) args0 vals:=by
  refine⟨harg.1.symm.trans hp.1,fun i y hy=>?_⟩;have hi:i<args.length:=by rw[harg.1];exact aF hy
  obtain⟨z,z1,z2⟩:=hp.2 i _ (List.getElem?_eq_getElem hi);exact⟨z,z1,rep0 (harg.2 i _ _ (List.getElem?_eq_getElem hi) hy) z2⟩
 refine(hc ι0 w vals hp0 H0).mono ?_;rintro e w' ⟨z,y,h',ι',rfl,hR,rz,H',ev⟩;obtain⟨τ,O,hy⟩:=hout y h' hR;have hX:ι'.X=X0:=ev.away;have dec:∀i,Decidable (i∈σ\/(i∈N\/k.length<=i)):=fun i=>inferInstance
 let ι2:Iota:={at':=fun i=>(match τ[i]? with
  |some m=>if i∈σ\/(i∈N\/k.length<=i)then ι' m else ι i
  |none=>none),X:=ι.X}
 have at2:∀i m,τ[i]? =some m->(i∈σ\/(i∈N\/k.length<=i))->ι2 i=ι' m:=fun i m h1 h2=>by
  show(match τ[i]? with
   |some m=>if i∈σ\/(i∈N\/k.length<=i)then ι' m else ι i
   |none=>none)=_
  rw[h1];simp only[if_pos h2]
 have at2o:∀i,i<k.length->(¬i∈σ/\¬i∈N)->ι2 i=ι i:=fun i h1 h2=>by
  show(match τ[i]? with
   |some m=>if i∈σ\/(i∈N\/k.length<=i)then ι' m else ι i
   |none=>none)=_
  rw[(O.other i h1 h2.1 h2.2).1];simp only[if_neg (show ¬(i∈σ\/(i∈N\/k.length<=i))by rintro(q|q|q);exact h2.1 q;exact h2.2 q;omega)]
 have side:∀i,i<k'.length->(i<k.length/\(¬i∈σ/\¬i∈N))\/(i∈σ\/(i∈N\/k.length<=i)):=fun i _=>by
  by_cases h1:i∈σ
  ·exact .inr (.inl h1)
  ·by_cases h3:i∈N
   ·exact .inr (.inr (.inl h3))
   ·rcases Nat.lt_or_ge i k.length with h2|h2
    ·exact .inl ⟨h2,h1,h3⟩
    ·exact .inr (.inr (.inr h2))
 have ext2:∀i l,(ι'.ren τ) i=some l->ι2 i=some l:=by
  intro i l h;have hi:i<k'.length:=by
   rcases Nat.lt_or_ge i k'.length with q|q
   ·exact q
   ·rw[<-O.len]at q
    simp [Iota.ren,List.getElem?_eq_none q]at h
  rcases side i hi with⟨h1,h2⟩|h1
  ·rw[show(ι'.ren τ) i=none by simp [Iota.ren,(O.other i h1 h2.1 h2.2).1];exact H'.out _ (Nat.le_refl _)]at h
   cases h
  ·obtain⟨m,x,zz,g1,_⟩:=O.obj i h1 hi
   rw[at2 i m g1 h1,<-h];simp [Iota.ren,g1]
 have obO:∀b,Ob k' ι2 b->(Ob k ι b/\¬Ob h0 ι0 b)\/Ob h' ι' b:=by
  rintro b ⟨i,o,l,g1,g2,g3⟩;rcases side i (aF g1)with⟨h1,h2⟩|h1
  ·rw[(O.other i h1 h2.1 h2.2).2]at g1
   rw[at2o i h1 h2]at g2;refine .inl ⟨⟨i,o,l,g1,g2,g3⟩,?_⟩;rintro⟨j,o2,l2,f1,f2,f3⟩;obtain⟨i2,oc,d1,d2,_⟩:=getσ j o2 f1;rw[at0 j i2 d1]at f2;have:=H.apart _ _ _ _ _ _ g1 g2 d2 f2 (by rw[g3,f3]);subst this;exact h2.1 (bZ d1)
  ·obtain⟨m,x,zz,d1,d2,d3,d4⟩:=O.obj i h1 (aF g1)
   rw[g1]at d3;injection d3 with d3;subst d3;obtain⟨ox,rfl,_⟩:=d4.2 o rfl;rw[at2 i m d1 h1]at g2;exact .inr ⟨m,ox,l,d2,g2,g3⟩
 have x0:∀b,ι.X b->X0 b:=fun b q=>⟨.inl q,fun r=>H.xob b q (obk b r)⟩
 have mt2:∀b,Mt k' ι2 b->Mt h' ι' b:=by
  rintro b (q|q)
  ·exact .inl (by rw[hX];exact x0 b q)
  ·rcases obO b q with⟨q1,q2⟩|q1
   ·exact .inl (by rw[hX];exact⟨.inr q1,q2⟩)
   ·exact .inr q1
 have ev2:Evolve k ι w k' ι2 w':=by
  refine⟨ev.os,ev.tape,ev.output,ev.size,fun i l hl=>?_,rfl,fun b hb hn=>?_,ev.sizes⟩
  ·have hi:i<k.length:=by
     rcases Nat.lt_or_ge i k.length with q|q
     ·exact q
     ·rw[H.out i q]at hl;cases hl
   by_cases h1:i∈σ
   ·obtain⟨j,hj,rfl⟩:=List.getElem_of_mem h1
    have hs:=List.getElem?_eq_getElem hj;rw[at2 _ j (O.old j _ hs) (.inl h1)];exact ev.iota j l ((at0 j _ hs).trans hl)
   ·by_cases h3:i∈N
    ·rw[H.free i (hN i h3)]at hl;cases hl
    ·rw[at2o i hi ⟨h1,h3⟩];exact hl
  ·have hn0:¬Ob h0 ι0 b:=fun q=>hn (obk b q)
   obtain⟨g1,g2⟩:=ev.frame b hb hn0;refine⟨g1,fun q=>?_⟩;rcases obO b q with⟨q1,_⟩|q1
   ·exact hn q1
   ·exact g2 q1
 have rep2:∀ {x y:V} {v:Value},cA τ x y->Rep w' ι' (Mt h' ι') x v->Rep w' ι2 (Mt k' ι2) y v:=fun hr r=>
  Rep.ext ext2 (fun b q=>q) (hr w' ι' _ _ mt2 _ r)
 refine⟨z,y',k',ι2,rfl,⟨rfl,rfl⟩,rep2 hy rz,?_,ev2⟩;refine⟨fun i o ho=>?_,fun i hi=>?_,fun i hi=>?_,fun i1 o1 l1 i2 o2 l2 a1 a2 b1 b2 hb=>?_,fun b hb=>Nat.lt_of_lt_of_le (H.xlt b hb) ev.size,fun b hb q=>?_⟩
 ·rcases side i (aF ho)with⟨h1,h2⟩|h1
  ·have hok:=ho
   rw[(O.other i h1 h2.1 h2.2).2]at hok;obtain⟨l,c,fr,g1,la⟩:=H.live i o hok;have hob:Ob k ι l.blk:=⟨i,o,l,hok,g1,rfl⟩
   have hn0:¬Ob h0 ι0 l.blk:=by
    rintro⟨j,o2,l2,f1,f2,f3⟩;obtain⟨i2,oc,d1,d2,_⟩:=getσ j o2 f1;rw[at0 j i2 d1]at f2;have:=H.apart _ _ _ _ _ _ hok g1 d2 f2 f3.symm;subst this;exact h2.1 (bZ d1)
   refine⟨l,c,fr,(at2o i h1 h2).trans g1,⟨((ev.frame _ (H.blk_lt hob) hn0).1).trans la.blk,la.unfrozen,la.sz,la.rows,la.fits,fun a ha b hb=>?_⟩⟩;obtain⟨v,v1,v2⟩:=la.reads a ha b hb;exact⟨v,v1,v2.mono ev2⟩
  ·obtain⟨m,x,zz,d1,d2,d3,d4⟩:=O.obj i h1 (aF ho)
   rw[ho]at d3;injection d3 with d3;subst d3;obtain⟨ox,rfl,g3⟩:=d4.2 o rfl;obtain⟨l,c,fr,g1,la⟩:=H'.live m ox d2;refine⟨l,c,fr,(at2 i m d1 h1).trans g1,⟨by rw[<-g3.elem];exact la.blk,by rw[<-g3.elem,<-g3.sz];exact la.unfrozen,by rw[<-g3.sz];exact la.sz,fun r' hr'=>?_,by rw[<-g3.sz,<-g3.len];exact la.fits,fun a ha b hb=>?_⟩⟩
   ·obtain⟨a,ha,e⟩:=List.getElem_of_mem hr'
    have ha1:a<ox.rows.length:=by rw[g3.len];exact ha
    have u:=g3.rows a _ _ (List.getElem?_eq_getElem ha1) (List.getElem?_eq_getElem ha);rw[<-e,<-u.1,<-g3.sz];exact la.rows _ (List.getElem_mem ha1)
   ·have ha1:a<ox.rows.length:=by rw[g3.len];exact ha
    have u:=g3.rows a _ _ (List.getElem?_eq_getElem ha1) (List.getElem?_eq_getElem ha);have hb1:b<ox.rows[a].length:=by rw[u.1];exact hb
    obtain⟨v,v1,v2⟩:=la.reads a ha1 b hb1;exact⟨v,by rw[<-g3.sz];exact v1,rep2 (u.2 b _ _ (List.getElem?_eq_getElem hb1) (List.getElem?_eq_getElem hb)) v2⟩
 ·rcases side i (aF hi)with⟨h1,h2⟩|h1
  ·rw[(O.other i h1 h2.1 h2.2).2]at hi
   rw[at2o i h1 h2];exact H.free i hi
  ·exfalso
   obtain⟨m,x,zz,d1,d2,d3,d4⟩:=O.obj i h1 (aF hi);rw[hi]at d3;injection d3 with d3;subst d3;exact d4.1 rfl
 ·show(match τ[i]? with
    |some m=>if i∈σ\/(i∈N\/k.length<=i)then ι' m else ι i
    |none=>none)=_
  rw[List.getElem?_eq_none (by rw[O.len];exact hi)]
 ·rcases side i1 (aF a1)with⟨h1,h2⟩|h1<;>rcases side i2 (aF b1)with⟨f1,f2⟩|f1
  ·rw[(O.other i1 h1 h2.1 h2.2).2]at a1
   rw[(O.other i2 f1 f2.1 f2.2).2]at b1;rw[at2o i1 h1 h2]at a2;rw[at2o i2 f1 f2]at b2;exact H.apart _ _ _ _ _ _ a1 a2 b1 b2 hb
  ·exfalso
   have q:Ob k' ι2 l1.blk:=⟨i1,o1,l1,a1,a2,rfl⟩
   rw[(O.other i1 h1 h2.1 h2.2).2]at a1;rw[at2o i1 h1 h2]at a2;obtain⟨m,x,zz,d1,d2,d3,d4⟩:=O.obj i2 f1 (aF b1);rw[b1]at d3;injection d3 with d3;subst d3;obtain⟨ox,rfl,_⟩:=d4.2 o2 rfl;rw[at2 i2 m d1 f1]at b2;have hx:X0 l1.blk:=by
    refine⟨.inr ⟨i1,o1,l1,a1,a2,rfl⟩,?_⟩;rintro⟨j,o3,l3,g1,g2,g3⟩;obtain⟨i3,oc,e1,e2,_⟩:=getσ j o3 g1;have g2':ι i3=some l3:=(at0 j i3 e1).symm.trans g2;have:=H.apart _ _ _ _ _ _ a1 a2 e2 g2' g3.symm;subst this;exact h2.1 (bZ e1)
   exact H'.xob _ (by rw[hX];exact hx) ⟨m,ox,l2,d2,b2,hb.symm⟩
  ·exfalso
   rw[(O.other i2 f1 f2.1 f2.2).2]at b1;rw[at2o i2 f1 f2]at b2;obtain⟨m,x,zz,d1,d2,d3,d4⟩:=O.obj i1 h1 (aF a1);rw[a1]at d3;injection d3 with d3;subst d3;obtain⟨ox,rfl,_⟩:=d4.2 o1 rfl;rw[at2 i1 m d1 h1]at a2;have hx:X0 l2.blk:=by
    refine⟨.inr ⟨i2,o2,l2,b1,b2,rfl⟩,?_⟩;rintro⟨j,o3,l3,g1,g2,g3⟩;obtain⟨i3,oc,e1,e2,_⟩:=getσ j o3 g1;have g2':ι i3=some l3:=(at0 j i3 e1).symm.trans g2;have:=H.apart _ _ _ _ _ _ b1 b2 e2 g2' g3.symm;subst this;exact f2.1 (bZ e1)
   exact H'.xob _ (by rw[hX];exact hx) ⟨m,ox,l1,d2,a2,hb⟩
  ·obtain⟨m1,x1,z1,d1,d2,d3,d4⟩:=O.obj i1 h1 (aF a1)
   obtain⟨m2,x2,z2,c1,c2,c3,c4⟩:=O.obj i2 f1 (aF b1);rw[a1]at d3;injection d3 with d3;subst d3;rw[b1]at c3;injection c3 with c3;subst c3;obtain⟨ox1,rfl,_⟩:=d4.2 o1 rfl;obtain⟨ox2,rfl,_⟩:=c4.2 o2 rfl;rw[at2 i1 m1 d1 h1]at a2;rw[at2 i2 m2 c1 f1]at b2;have:=H'.apart _ _ _ _ _ _ d2 a2 c2 b2 hb;subst this;exact O.inj i1 i2 _ o1 o2 h1 f1 a1 b1 d1 c1
 ·rcases obO b q with⟨q1,_⟩|q1
  ·exact H.xob b hb q1
  ·exact H'.xob b (by rw[hX];exact x0 b hb) q1
def qDJ (P:Program) (rs:List ResultVar) (n:Nat) (l:List Int) (e eb:TypeId) (z:Nat) (m:Nat) (x:Exit) (s:Y):Prop:=
 match s with
 |⟨sl,h,_,_⟩=>match x with
  | .ret=>(match ares P rs sl (dens h),nU e eb h 0 with
    |some y,some (true,cs,some j,l',el)=>needs cs (Kern (Nat.ble m j&&Nat.ble m h.length)/\(Leaf (y=wrR n)/\(Leaf (l'=l)/\(Leaf (el=⟨e,z⟩)/\True))))
    |_,_=>False)
  |_=>False
theorem XJ {P:Program} {rs:List ResultVar} {n m z:Nat} {l:List Int} {e eb:TypeId} {x:Exit} {s:Y} (h:qDJ P rs n l e eb z m x s):(x = .normal\/x = .ret)/\ares P rs s.sl (dens s.h)=some (wrR n)/\∃cs j,nU e eb s.h 0=some (true,cs,some j,l,⟨e,z⟩)/\cU cs/\m<=j/\m<=s.h.length:=by
 obtain⟨sl,hp,tch,an⟩:=s;simp only[qDJ]at h;split at h
 ·split at h
  ·rename_i y cs j l' el hy hr
   obtain⟨hc,⟨hk⟩,⟨rfl⟩,⟨rfl⟩,⟨rfl⟩,_⟩:=bG h;simp only[Bool.and_eq_true]at hk;exact⟨.inr rfl,hy,cs,j,hr,hc,Nat.le_of_ble_eq_true hk.1,Nat.le_of_ble_eq_true hk.2⟩
  ·exact h.elim
 ·exact h.elim
theorem tS {e eb:TypeId} {h:List XO} {i:Nat} {b:Bool} {cs:List Bool} {j:Option Nat} {l:List Int} {el:El} (hr:nU e eb h i=some (b,cs,j,l,el)) (hc:cU cs) :
  ∃c1,h[i]? =some (.raw (.live ⟨2,[[nM i b,c1]],eb⟩))/\((j=none/\l= []/\c1 = .v (.slice none 0 0)/\el=⟨e,1⟩)\/∃k,j=some k/\c1 = .oL k l.length/\h[k]? =some (.opt (.int .u8) l el)/\el.t=e/\1<=el.fz/\el.fz<=l.length+1):=by
 unfold nU at hr;split at hr
 ·rename_i o ho
  split at hr
  ·rename_i c0 c1 hrow
   split at hr
   ·rename_i b' hb hz
    have ho':∀b2,c0=nM i b2->h[i]? =some (.raw (.live ⟨2,[[nM i b2,c1]],eb⟩)):=by
     intro b2 q;simp only[Bool.and_eq_true]at hz;have z1:=Nat.eq_of_beq_eq_true hz.1;have z2:=El.is_eq hz.2;rw[ho];obtain⟨sz,rows,el⟩:=o;(try simp only at z1 z2 hrow);subst z1 z2 hrow q;rfl
    have hself:c0=nM i b':=by
     unfold ER at hb;split at hb
     ·injection hb with hb;subst hb;rfl
     ·split at hb
      ·rename_i q
       have q:=Nat.eq_of_beq_eq_true q;injection hb with hb;subst hb q;rfl
      ·cases hb
     ·cases hb
    split at hr
    ·rename_i j' n
     split at hr
     ·rename_i t l' e' hj'
      split at hr
      ·rename_i l'' hl he
       injection hr with hr;injection hr with e1 hr;injection hr with e2 hr;injection hr with e3 e4;injection e4 with e4 e5;subst e1 e2 e3 e4 e5;have hn:n=l''.length:=of_decide_eq_true (hc _ (by simp));have hz:=qOX (aD hc).2;obtain⟨et,el⟩:=fG hl;have he:=Nat.eq_of_beq_eq_true he;subst et;subst el;exact⟨_,ho' _ hself,.inr ⟨_,rfl,by rw[hn],hj',he,hz.1,hz.2⟩⟩
      ·cases hr
     ·cases hr
    ·injection hr with hr;injection hr with e1 hr;injection hr with e2 hr;injection hr with e3 e4;injection e4 with e4 e5;subst e1 e2 e3 e4 e5
     exact⟨_,ho' _ hself,.inl ⟨rfl,rfl,rfl,rfl⟩⟩
    ·cases hr
   ·cases hr
  ·cases hr
 ·cases hr
theorem cA.self {σ:List Nat} {i k:Nat} (b:Bool) (h:σ[k]? =some i):cA σ (nM i b) (nM k b):=by
 cases b with
 |true=>exact cA.pO 0 0 h
 |false=>exact cA.tree (LE.refl _) (.v _)
theorem jD.two {σ:List Nat} {a b c d:V} {eb:TypeId} (h1:cA σ a c) (h2:cA σ b d):jD σ (.live ⟨2,[[a,b]],eb⟩) (.live ⟨2,[[c,d]],eb⟩):=
 ⟨by simp,fun o' q=>by
   injection q with q;subst q;refine⟨_,rfl,⟨rfl,rfl,rfl,fun m r r' g1 g2=>?_⟩⟩;match m,g1,g2 with
   |0,g1,g2=>
    simp at g1 g2;subst g1 g2;refine⟨rfl,fun n x y g3 g4=>?_⟩;match n,g3,g4 with
    |0,g3,g4=>simp at g3 g4;subst g3 g4;exact h1
    |1,g3,g4=>simp at g3 g4;subst g3 g4;exact h2
    |n+2,g3,g4=>simp at g3
   |m+1,g1,g2=>simp at g1⟩
theorem qCH.lift {P:Program} {f:FuncId} {e eb:TypeId} {el:El} {h:List XO} {i new:Nat} {s:ByteArray} {b:Bool} {l l2:List Int} {j:Option Nat} {c1:V} (hi:h[i]? =some (.raw (.live ⟨2,[[nM i b,c1]],eb⟩)))
  (hj:∀k,j=some k->k≠i/\h[k]? =some (.opt (.int .u8) l el)) (hnew:h[new]? =some (.raw .free)) (c0:V) (hc0:cA (i::iP j []) c1 c0)
  (hc:PC P f [.pO 0 0 0,.v (.string s)] (.live ⟨2,[[nM 0 b,c0]],eb⟩::(match j with|some _=>[(XO.opt (.int .u8) l el).den]|none=>[]))
    (fun y k=>y=wrR s.size/\∃(hs:List XO) (cs:List Bool) (jj:Nat),k=dens hs/\nU e eb hs 0=some (true,cs,some jj,l2,el)/\cU cs/\(i::iP j []).length<=jj/\(i::iP j []).length<=hs.length)) :
  PC P f [.pO i 0 0,.v (.string s)] (dens h) (fun y k=>y=wrR s.size/\k=dens ((cX (h.set i (BK eb i new l2.length)) j).set new (.opt (.int .u8) l2 el))):=by
 have hni:new≠i:=by intro q;subst q;rw[hi]at hnew;cases hnew
 have hnj:∀k,j=some k->new≠k:=by intro k hk q;subst q;rw[(hj _ hk).2]at hnew;cases hnew
 have hilt:=aF hi;have hnlt:=aF hnew;have hnd:(i::iP j []).Nodup:=by
  cases j with
  |none=>simp [iP]
  |some k=>simp only[iP,List.nodup_cons,List.mem_cons,List.not_mem_nil,or_false,not_false_eq_true,List.nodup_nil,and_true];exact Ne.symm (hj k rfl).1
 have hs0:(i::iP j [])[0]? =some i:=rfl;refine PC.liftN (σ:=i::iP j []) (N:=[new]) hnd (fun x hx=>?_) ?_ (fun a c hac=>?_) ?_ hc ?_
 ·simp only[List.mem_cons,List.not_mem_nil,or_false]at hx
  subst hx;rw[aE,hnew];rfl
 ·cases j<;>rfl
 ·match a,hac with
  |0,hac=>
   have hac:i=c:=by simpa using hac
   subst hac;refine⟨_,_,by rw[aE,hi];rfl,rfl,jD.two (cA.self b hs0) hc0⟩
  |a+1,hac=>
   cases j with
   |none=>simp [iP]at hac
   |some k=>
    match a,hac with
    |0,hac=>
     have hac:k=c:=by simpa [iP]using hac
     subst hac;exact⟨_,_,by rw[aE,(hj k rfl).2];rfl,rfl,jD.opt _ _ _⟩
    |a+1,hac=>simp [iP]at hac
 ·refine⟨rfl,fun m x y h1 h2=>?_⟩
  match m,h1,h2 with
  |0,h1,h2=>simp at h1 h2;subst h1 h2;exact cA.pO 0 0 hs0
  |1,h1,h2=>simp at h1 h2;subst h1 h2;exact cA.tree (LE.refl _) (.v _)
  |m+2,h1,h2=>simp at h1
 rintro y k ⟨rfl,hs,cs,jj,rfl,hr,hcs,hjj,hlen⟩;obtain⟨d1,r1,r2⟩:=tS hr hcs;obtain⟨k2,q,rfl,r3⟩:∃k2,some jj=some k2/\d1 = .oL k2 l2.length/\hs[k2]? =some (.opt (.int .u8) l2 el):=by
  rcases r2 with⟨q,_⟩|r2
  ·cases q
  ·obtain⟨k2,a1,a2,a3,_⟩:=r2;exact⟨k2,a1,a2,a3⟩
 injection q with q;subst q;let g:Nat->Nat:=fun x=>if x=i then 0 else if x=new then jj else if j=some x then 1 else hs.length
 have gi:g i=0:=by simp [g]
 have gn:g new=jj:=by simp [g,hni]
 have gj:∀k,j=some k->g k=1:=fun k hk=>by simp [g,(hj k hk).1,Ne.symm (hnj k hk),hk]
 have go:∀x,x≠i->x≠new->j≠some x->g x=hs.length:=fun x h1 h2 h3=>by simp [g,h1,h2,h3]
 have hL:(dens ((cX (h.set i (BK eb i new l2.length)) j).set new (.opt (.int .u8) l2 el))).length=h.length:=by rw[dC];simp [mJ]
 have hτ:∀x,x<h.length->((List.range h.length).map g)[x]? =some (g x):=fun x hx=>by simp [hx]
 have ki:(dens ((cX (h.set i (BK eb i new l2.length)) j).set new (.opt (.int .u8) l2 el)))[i]? =some (.live ⟨2,[[.pO i 0 0,.oL new l2.length]],eb⟩):=by
  rw[aE,List.getElem?_set_ne hni,sD (fun k hk=>(hj k hk).1),List.getElem?_set_self hilt];rfl
 have kn:(dens ((cX (h.set i (BK eb i new l2.length)) j).set new (.opt (.int .u8) l2 el)))[new]? =some (XO.opt (.int .u8) l2 el).den:=by
  rw[aE,List.getElem?_set_self (by simpa [mJ]using hnlt)];rfl
 have kj:∀k,j=some k->(dens ((cX (h.set i (BK eb i new l2.length)) j).set new (.opt (.int .u8) l2 el)))[k]? =some .dead:=fun k hk=>by
  subst hk;rw[aE,List.getElem?_set_ne (hnj k rfl)];simp only[cX];rw[List.getElem?_set_self (by simpa using aF (hj k rfl).2)];rfl
 have mem:∀x,x∈i::iP j []->x=i\/j=some x:=fun x hx=>by
  rcases List.mem_cons.1 hx with q|q
  ·exact .inl q
  ·cases j with
   |none=>simp [iP]at q
   |some k=>simp [iP]at q;subst q;exact .inr rfl
 have mem2:∀x,j=some x->x∈i::iP j []:=fun x hx=>by subst hx;simp [iP]
 have h2l:∀k,j=some k->2<=jj/\2<=hs.length:=fun k hk=>by subst hk;simp [iP]at hjj hlen;omega
 have h1l:1<=jj/\1<=hs.length:=by simp at hjj hlen;omega
 refine⟨(List.range h.length).map g,⟨by rw[hL];simp,by rw[dC,hL];exact Nat.le_refl _,fun x hx hs1 hs2=>?_,fun a x hx=>?_,fun x hx hlt=>?_,fun x1 x2 m o1 o2 g1 g2 g3 g4 g5 g6=>?_⟩,cA.tree (LE.refl _) (.tup fun z hz=>?_)⟩
 ·rw[dC]at hx
  have n1:x≠i:=fun q=>hs1 (by rw[q];exact List.mem_cons_self ..)
  have n2:x≠new:=fun q=>hs2 (by rw[q];simp)
  have n3:j≠some x:=fun q=>hs1 (mem2 x q)
  refine⟨by rw[hτ x hx,go x n1 n2 n3,dC],?_⟩;rw[aE,aE,List.getElem?_set_ne (Ne.symm n2),sD (fun k hk q=>n3 (by rw[hk,q])),List.getElem?_set_ne (Ne.symm n1)]
 ·match a,hx with
  |0,hx=>have hx:i=x:=by simpa using hx
         subst hx;rw[hτ _ hilt,gi]
  |a+1,hx=>
   cases hj0:j with
   |none=>subst hj0;simp [iP]at hx
   |some k=>
    subst hj0;match a,hx with
    |0,hx=>
     have hx:k=x:=by simpa [iP]using hx
     subst hx;rw[hτ _ (aF (hj k rfl).2),gj k rfl]
    |a+1,hx=>simp [iP]at hx
 ·rw[hL]at hlt
  have cases3:x=i\/j=some x\/x=new:=by
   rcases hx with hx|hx|hx
   ·exact(mem x hx).imp (fun q=>q) .inl
   ·exact .inr (.inr (by simpa using hx))
   ·rw[dC]at hx;omega
  rcases cases3 with rfl|q|rfl
  ·refine⟨0,_,_,by rw[hτ _ hilt,gi],by rw[aE,r1];rfl,ki,jD.two ?_ ?_⟩
   ·exact cA.pO 0 0 (by rw[hτ _ hilt,gi])
   ·exact cA.oL _ (by rw[hτ _ hnlt,gn])
  ·obtain⟨z,hz⟩:∃z,hs[1]? =some z:=⟨_,List.getElem?_eq_getElem (by have:=(h2l x q).2;omega)⟩
   exact⟨1,_,_,by rw[hτ _ hlt,gj x q],by rw[aE,hz];rfl,kj x q,⟨by simp,fun _ q=>by cases q⟩⟩
  ·exact⟨jj,_,_,by rw[hτ _ hnlt,gn],by rw[aE,r3];rfl,kn,jD.opt _ _ _⟩
 ·have live:∀x,(x∈i::iP j []\/(x∈ [new]\/(dens h).length<=x))->∀o,(dens ((cX (h.set i (BK eb i new l2.length)) j).set new (.opt (.int .u8) l2 el)))[x]? =some (.live o)->x=i\/x=new:=by
    intro x hx o ho;rcases hx with hx|hx|hx
    ·rcases mem x hx with q|q
     ·exact .inl q
     ·rw[kj x q]at ho;cases ho
    ·exact .inr (by simpa using hx)
    ·have:=aF ho;rw[hL]at this;rw[dC]at hx;omega
  have t1:∀x,x<h.length->((List.range h.length).map g)[x]? =some m->g x=m:=fun x hx q=>by rw[hτ x hx]at q;injection q
  rcases live x1 g1 o1 g3 with rfl|rfl<;>rcases live x2 g2 o2 g4 with rfl|rfl
  ·rfl
  ·have a1:=t1 _ hilt g5;have a2:=t1 _ hnlt g6;rw[gi]at a1;rw[gn]at a2;omega
  ·have a1:=t1 _ hnlt g5;have a2:=t1 _ hilt g6;rw[gn]at a1;rw[gi]at a2;omega
  ·rfl
 ·simp at hz;rcases hz with rfl|rfl<;>exact .v _
theorem qCH.mk {P:Program} {T:Tbl} {f:FuncId} {fn:Func} {c:Code} {e eb:TypeId} (hT:aC P T) (hM:P.follows .mixedOrders=true) (fl:List (Nat×Nat×Nat)) (I:List Nat)
  (hf:P.funcs[f]? =some fn) (hb:fn.body=some c)
  (h1:∀(b:Bool) (l:List Int) (s:ByteArray),l.length+s.size<=70368744177664->∃an:List (Nat×Nat×LA),fVs (.pO 0 0 0 :: .v (.string s)::List.replicate (fn.ntmps-2) (.v undef)) fun sl=>fH [.raw (.live ⟨2,[[nM 0 b,.oL 1 l.length]],eb⟩),.opt (.int .u8) l ⟨e,1⟩] fun h=>xcode ⟨P,T,2,0,fl,jJ P T fl I 4⟩ c ⟨sl,h,[],an⟩
    (qDJ P fn.results.toList s.size (l++bH s) e eb 1 2))
  (h3:∀(z:Nat) (b:Bool) (l:List Int) (s:ByteArray),l.length+s.size<=70368744177664->z+1<=l.length->∃an:List (Nat×Nat×LA),fVs (.pO 0 0 0 :: .v (.string s)::List.replicate (fn.ntmps-2) (.v undef)) fun sl=>fH [.raw (.live ⟨2,[[nM 0 b,.oL 1 l.length]],eb⟩),.opt (.int .u8) l ⟨e,z+2⟩] fun h=>xcode ⟨P,T,2,0,fl,jJ P T fl I 4⟩ c ⟨sl,h,[],an⟩
    (qDJ P fn.results.toList s.size (l++bH s) e eb (z+2) 2))
  (h2:∀(b:Bool) (s:ByteArray),s.size<=70368744177664->∃an:List (Nat×Nat×LA),fVs (.pO 0 0 0 :: .v (.string s)::List.replicate (fn.ntmps-2) (.v undef)) fun sl=>fH [.raw (.live ⟨2,[[nM 0 b,.v (.slice none 0 0)]],eb⟩)] fun h=>xcode ⟨P,T,1,0,fl,jJ P T fl I 4⟩ c ⟨sl,h,[],an⟩
    (qDJ P fn.results.toList s.size (bH s) e eb 1 1)):aG P f (.bld true e eb):=by
 intro h i new s b cs j l el hr hcs hn hfree;obtain⟨c1,g1,g2⟩:=tS hr hcs;rcases g2 with⟨rfl,rfl,rfl,rfl⟩|⟨k,rfl,rfl,g3,g4,g5,g6⟩
 ·refine qCH.lift (e:=e) (j:=none) (l:=[]) g1 (fun k hk=>by cases hk) hfree (.v (.slice none 0 0)) (cA.tree (LE.refl _) (.v _)) ?_
  obtain⟨an,hw⟩:=h2 b s (by simpa using hn);rw[jG,dD]at hw;refine PC.of_bodyV hf hb _ rfl (fun K hK=>?_);have hw:=hU (E:=⟨P,T,1,0,fl,jJ P T fl I 4⟩) hT hM (jK hT hM fl I 4 _ _) c _ _ hw;refine PV.mono hw ?_;rintro e st ⟨s',rfl,q1,_⟩;obtain⟨he,hy,cs',jj,q2,q3,q4,q5⟩:=XJ q1;exact hK e _ _ he hy ⟨rfl,s'.h,cs',jj,rfl,q2,q3,q4,q5⟩
 ·have hki:k≠i:=by intro q;subst q;rw[g1]at g3;cases g3
  refine qCH.lift (e:=e) (j:=some k) (l:=l) g1 (fun k' hk=>by injection hk with hk;subst hk;exact⟨hki,g3⟩) hfree (.oL 1 l.length) (cA.oL _ rfl) ?_;obtain⟨an,hw⟩:∃an:List (Nat×Nat×LA),fVs (.pO 0 0 0 :: .v (.string s)::List.replicate (fn.ntmps-2) (.v undef)) fun sl=>fH [.raw (.live ⟨2,[[nM 0 b,.oL 1 l.length]],eb⟩),.opt (.int .u8) l el] fun h=>xcode ⟨P,T,2,0,fl,jJ P T fl I 4⟩ c ⟨sl,h,[],an⟩
    (qDJ P fn.results.toList s.size (l++bH s) e eb el.fz 2):=by
   obtain⟨t,z⟩:=el;(try simp only at g4 g5 g6);subst g4;match z,g5,g6 with
   |1,_,_=>exact h1 b l s hn
   |z+2,_,g6=>exact h3 z b l s hn (by omega)
  have hel:(⟨e,el.fz⟩:El)=el:=by rw[<-g4]
  rw[jG,dD]at hw;refine PC.of_bodyV hf hb _ rfl (fun K hK=>?_);have hw:=hU (E:=⟨P,T,2,0,fl,jJ P T fl I 4⟩) hT hM (jK hT hM fl I 4 _ _) c _ _ hw;refine PV.mono hw ?_;rintro e st ⟨s',rfl,q1,_⟩;obtain⟨he,hy,cs',jj,q2,q3,q4,q5⟩:=XJ q1;exact hK e _ _ he hy ⟨rfl,s'.h,cs',jj,rfl,hel ▸ q2,q3,q4,q5⟩
theorem HRel.killed {h h':Heap} {ι:Iota} {w w':World} (H:HRel h ι w) (hk:∀id:Nat,h'[id]? =h[id]? \/h'[id]? =some HS.dead) (hl:h'.length=h.length) (Pb:Nat->Prop) (h1:∀b,Pb b->Ob h ι b/\¬Ob h' ι b)
  (hos:w'.os=w.os) (htp:w'.tape=w.tape) (hou:w'.output=w.output) (hsz:w'.heap.size=w.heap.size) (hsame:∀b,¬Pb b->w'.heap[b]? =w.heap[b]?)
  (hcs:∀(b:Nat) (c:Array Value) (e:TypeId) (fr:Nat×Nat),w.heap[b]? =some (.cells c e fr)->∃(c':Array Value) (fr':Nat×Nat),w'.heap[b]? =some (.cells c' e fr')/\c'.size=c.size):HRel h' ι w'/\Evolve h ι w h' ι w':=by
 have old:∀(id:Nat) (o:AObj),h'[id]? =some (.live o)->h[id]? =some (.live o):=fun id o q=>by
  rcases hk id with r|r
  ·rw[<-r];exact q
  ·rw[r]at q;cases q
 have ob:∀b,Ob h' ι b->Ob h ι b:=fun b ⟨id,o,l,q1,q2,q3⟩=>⟨id,o,l,old id o q1,q2,q3⟩
 have ev:Evolve h ι w h' ι w':=⟨hos,htp,hou,by rw[hsz];exact Nat.le_refl _,fun _ _ q=>q,rfl,fun b hb hn=>⟨hsame b (fun q=>hn (h1 b q).1),fun q=>hn (ob b q)⟩,hcs⟩
 refine⟨⟨fun id o ho=>?_,fun id ho=>?_,fun id ho=>H.out id (by rw[<-hl];exact ho),fun id o l id' o' l' a1 a2 b1 b2 hb=>H.apart id o l id' o' l' (old _ _ a1) a2 (old _ _ b1) b2 hb,fun b hb=>by rw[hsz];exact H.xlt b hb,fun b hb q=>H.xob b hb (ob b q)⟩,ev⟩
 ·obtain⟨l,c,fr,q1,la⟩:=H.live id o (old id o ho)
  have hn:¬Pb l.blk:=fun q=>(h1 _ q).2 ⟨id,o,l,ho,q1,rfl⟩
  exact⟨l,c,fr,q1,⟨(hsame _ hn).trans la.blk,la.unfrozen,la.sz,la.rows,la.fits,fun i hi j hj=>let ⟨y,g1,g2⟩:=la.reads i hi j hj;⟨y,g1,g2.mono ev⟩⟩⟩
 ·refine H.free id ?_
  rcases hk id with r|r
  ·rw[<-r];exact ho
  ·rw[r]at ho;cases ho
theorem qHH (h:List XO) (i:Nat) (j:Option Nat) (id:Nat):(dens (cX (h.set i (.raw .dead)) j))[id]? =(dens h)[id]? \/(dens (cX (h.set i (.raw .dead)) j))[id]? =some HS.dead:=by
 have one:∀(h:List XO) (i id:Nat),(dens (h.set i (.raw .dead)))[id]? =(dens h)[id]? \/(dens (h.set i (.raw .dead)))[id]? =some HS.dead:=by
  intro h i id;rw[aR];by_cases q:i=id
  ·subst q
   rw[List.getElem?_set];simp only[if_pos];split
   ·exact .inr rfl
   ·rename_i hlt;left;rw[List.getElem?_eq_none (by omega)]
  ·left;rw[List.getElem?_set_ne q]
 cases j with
 |none=>exact one h i id
 |some k=>
  rcases one (h.set i (.raw .dead)) k id with r|r
  ·rcases one h i id with r2|r2
   ·exact .inl (r.trans r2)
   ·exact .inr (r.trans r2)
  ·exact .inr r
theorem wE {P:Program} (w:World):∀(l:List Int) (a:Addr) (acc:ByteArray),(∀j x,l[j]? =some x->w.cell? (a.add j)=some (.int .u8 x)) ->
  (loadBytes a acc l.length).run P w = .ok ⟨acc.data++(l.map fun n=>UInt8.ofNat n.toNat).toArray⟩ w
 | [],a,acc,_=>by simp [loadBytes]
 |x::l,a,acc,h=>by
  have h0:w.cell? a=some (.int .u8 x):=by
   have:=h 0 x rfl;simpa [Addr.add]using this
  have ih:=wE (P:=P) w l (a.add 1) (acc.push (UInt8.ofNat x.toNat)) (fun j y hy=>by
   have:=h (j+1) y (by simpa using hy);have e:(a.add 1).add j=a.add (j+1):=by
    unfold Addr.add;by_cases hj:j=0
    ·subst hj;simp
    ·simp [hj];omega
   rw[e];exact this)
  have hx:x.toNat.toUInt8=UInt8.ofNat x.toNat:=rfl;simp only[List.length_cons,loadBytes,Sem.run_bind,run_load,h0,Result.andThen,hx];rw[ih];congr 1
  apply ByteArray.ext;simp [ByteArray.push]
theorem mB {P:Program} (w:World) (pt it ty e:TypeId) (hp:P.underlying pt=some (.pointer e)) (hc:P.cellsOf e=1) (g o cells:Nat) (hsh:w.shape? g=some (e,cells)) (l:List Int) (h0:l≠ []) (hn:o+l.length<=cells) (h63:l.length<=9223372036854775807)
  (hcell:∀j x,l[j]? =some x->w.cell? ((⟨g,o,none⟩:Addr).add j)=some (.int .u8 x)) :
  (Builtin.unsafeString_ #[pt,it] ty #[.pointer (some ⟨g,o,none⟩),.int .i64 l.length]).run P w = .ok (.string (aN l)) (w.freeze ⟨g,o,none⟩ l.length):=by
 have hl:l.length≠0:=by simpa using h0
 have hlb:=wE (P:=P) w l ⟨g,o,none⟩ .empty hcell;have hlies:liesAt P P.depth e (cells/P.cellsOf e) o e l.length=true:=by
  have hd:P.depth=(2*(P.types.size+Made.depth)+1)+1:=rfl;rw[hd];simp only[liesAt,Bool.or_eq_true];left;rw[hd];simp [Go.rowAt,hc,hn,sameLayout,Nat.mod_one]
 have h63':¬(9223372036854775807:Int)<(l.length:Int):=by omega
 have hdef:Builtin.unsafeString_ #[pt,it] ty #[.pointer (some ⟨g,o,none⟩),.int .i64 l.length] =
  (do
    let n <- asInt (.int .i64 l.length)
    if n < 0 then runtimePanic (.error "unsafe.String: len out of range")
    if n > IntKind.i64.max then unsupported (.unsafePointer "String: a length above the largest int")
    if n=0 then pure (.string .empty)
    else if <- variablesAt ⟨g,o,none⟩ (<-elemOf pt) n.toNat then do
     let s <- loadBytes ⟨g,o,none⟩ .empty n.toNat
     freeze ⟨g,o,none⟩ n.toNat
     pure (.string s)
    else unsupported (.unsafePointer "String: not so many bytes at ptr")) := rfl
 rw[hdef];have hmax:IntKind.i64.max=9223372036854775807:=rfl;have hneg:¬(l.length:Int)<0:=by omega
 simp [asInt,asIntOf,hmax,h63',hneg,hl,variablesAt,hsh,elemOf,run_underlying hp,hlies,hlb,aN]
theorem zE (w:World) (a:Addr) (n b:Nat) (hb:b≠a.block):(w.freeze a n).heap[b]? =w.heap[b]?:=by
 unfold World.freeze;split
 ·rfl
 ·simp only[Array.getElem?_modify];rw[if_neg (Ne.symm hb)]
theorem zF (w:World) (a:Addr) (n:Nat):(w.freeze a n).heap.size=w.heap.size:=by
 unfold World.freeze;split
 ·rfl
 ·simp
theorem qOE.mk {P:Program} {f:FuncId} {e eb pt it ty:TypeId} (hp:P.underlying pt=some (.pointer e)) (hcell:P.cellsOf e=1)
  (hnil:∀(b o:Nat) (w:World),w.cell? ⟨b,o+1,none⟩=some (.slice none 0 0)->Calls P f #[.pointer (some ⟨b,o,none⟩)] w fun x w'=>x = .returned (.string ⟨#[]⟩)/\w'=w.drew)
  (hsome:∀(b o:Nat) (a:Addr) (n cap:Nat) (s:ByteArray) (w:World),w.cell? ⟨b,o+1,none⟩=some (.slice (some a) n cap)->cap≠0->(Builtin.unsafeString_ #[pt,it] ty #[.pointer (some a),.int .i64 n]).run P w.drew = .ok (.string s) (w.drew.freeze a n) ->
    Calls P f #[.pointer (some ⟨b,o,none⟩)] w fun x w'=>x = .returned (.string s)/\w'=w.drew.freeze a n):aG P f (.bld false e eb):=by
 intro h i b cs j l el hr hcs hlen ι w vals hpv H;obtain⟨c1,g1,g2⟩:=tS hr hcs;have hden:(dens h)[i]? =some (.live ⟨2,[[nM i b,c1]],eb⟩):=by rw[aE,g1];rfl
 obtain⟨L,c,fr,hL,la⟩:=H.live i _ hden;have hLs:L.sz=2:=la.sz;obtain⟨v0,hv0,rv0⟩:=hpv.2 0 _ rfl;cases rv0 with
 |pO _ _ _ L2 hL2=>
  rw[hL]at hL2;injection hL2 with hL2;subst hL2;have hvals:vals = #[.pointer (some ⟨L.blk,L.base+0*L.sz+0,none⟩)]:=by
   have hs:vals.size=1:=hpv.1.symm;exact Array.ext (by rw[hs];rfl) (fun q q1 q2=>by
    have h0:q=0:=by rw[hs]at q1;omega
    subst h0;rw[Array.getElem?_eq_getElem q1]at hv0;exact Option.some.inj hv0)
  subst hvals;obtain⟨x,x1,x2⟩:=la.reads 0 (by simp) 1 (by simp);have x2:Rep w ι (Mt (dens h) ι) c1 x:=x2;have hcx:w.cell? ⟨L.blk,L.base+0*L.sz+0+1,none⟩=some x:=by
   have:L.base+0*L.sz+0+1=L.base+0*2+1:=by omega
   rw[this];simp only[World.cell?,la.blk];exact x1
  have nilcase:x = .slice none 0 0->l= []->dens (vM h e l j)=dens h->Calls P f #[.pointer (some ⟨L.blk,L.base+0*L.sz+0,none⟩)] w fun e' w'=>∃y x h' ι',e' = .returned y/\(x = .v (.string (aN l))/\h'=dens (vM h e l j))/\Rep w' ι' (Mt h' ι') x y/\HRel h' ι' w'/\Evolve (dens h) ι w h' ι' w':=by
   intro hx hl0 hdn;subst hx hl0;refine(hnil _ _ w hcx).mono ?_;rintro e' w' ⟨rfl,rfl⟩;obtain⟨H2,ev⟩:=H.killed (h':=dens h) (w':=w.drew) (fun id=>.inl rfl) rfl (fun _=>False) (fun _ q=>q.elim) rfl rfl rfl rfl (fun _ _=>rfl) (fun _ c _ fr q=>⟨c,fr,q,rfl⟩);exact⟨_,_,_,ι,rfl,⟨rfl,rfl⟩,.v _,by rw[hdn];exact H2,by rw[hdn];exact ev⟩
  rcases g2 with⟨rfl,rfl,rfl,rfl⟩|⟨k,rfl,rfl,g3,g4,g5,g6⟩
  ·cases x2
   exact nilcase rfl rfl rfl
  ·have hklt:=aF g3
   have hset:dens (vM h e l (some k))=(dens h).set k (XO.opt (.int .u8) l ⟨e,l.length-1+2⟩).den:=by simp only[vM,aR]
   by_cases hl0:l= []
   ·subst hl0
    have hdn:dens (vM h e [] (some k))=dens h:=by
     rw[hset];have hk0:(dens h)[k]? =some HS.dead:=by rw[aE,g3];rfl
     show(dens h).set k .dead=dens h;rw[<-(List.getElem?_eq_some_iff.1 hk0).2,List.set_getElem_self]
    cases x2 with
    |oL _ _ _ q=>simp at q;cases q;exact nilcase rfl rfl hdn
   ·have hlen0:l.length≠0:=fun q=>hl0 (List.length_eq_zero_iff.1 q)
    have hdk:(dens h)[k]? =some (.live ⟨1,l.map (Ty.row (.int .u8)),el⟩):=by rw[aE,g3];simp [XO.den,hl0,Ty.size]
    have hset:dens (vM h e l (some k))=(dens h).set k (.live ⟨1,l.map (Ty.row (.int .u8)),⟨e,l.length-1+2⟩⟩):=by rw[hset];simp [XO.den,hl0,Ty.size]
    cases x2 with
    |oL _ _ _ q=>
     rw[if_neg hlen0]at q;cases q with
     |sO _ _ _ cap Lk ck ek frk hLk hcap hbk hszk=>
      obtain⟨Lk2,ck2,frk2,hLk2,lak⟩:=H.live k _ hdk;rw[hLk]at hLk2;injection hLk2 with hLk2;subst hLk2;have hsk:Lk.sz=1:=lak.sz;have hfit:Lk.base+l.length<=ck2.size:=by have:=lak.fits;simp at this;omega
      have hoff:Lk.base+0*Lk.sz=Lk.base:=by omega
      rw[hoff]at hcx;have hUS:=mB (P:=P) w.drew pt it ty e hp hcell Lk.blk Lk.base ck2.size (by show(match w.heap[Lk.blk]? with|some (.cells c elem _)=>some (elem,c.size)|_=>none)=_;rw[lak.blk,g4]) l hl0 hfit (by omega) (fun q z hz=>by
       have hq:=aF hz;obtain⟨y,y1,y2⟩:=lak.reads q (by simpa using hq) 0 (by simp [Ty.cells]);have e1:(l.map (Ty.row (.int .u8)))[q]'(by simpa using hq)= [.v (.int .u8 z)]:=by
        rw[List.getElem?_eq_getElem hq]at hz;injection hz with hz;simp [hz,Ty.cells]
       have y2:Rep w ι (Mt (dens h) ι) (.v (.int .u8 z)) y:=by
        have:=y2;simp only[e1]at this;exact this
       cases y2;have:(⟨Lk.blk,Lk.base,none⟩:Addr).add q=⟨Lk.blk,Lk.base+q,none⟩:=jW _ _ _;rw[this];show w.cell? ⟨Lk.blk,Lk.base+q,none⟩=_;simp only[World.cell?,lak.blk];rw[<-y1];congr 1
       simp [Ty.size])
      refine(hsome _ _ ⟨Lk.blk,Lk.base,none⟩ l.length cap (aN l) w hcx (by omega) hUS).mono ?_;rintro e' w' ⟨rfl,rfl⟩;have hhp:(w.drew.freeze ⟨Lk.blk,Lk.base,none⟩ l.length).heap[Lk.blk]? =some (.cells ck2 el.t (if frk2.1 == frk2.2 then(Lk.base,Lk.base+l.length)else(min frk2.1 Lk.base,max frk2.2 (Lk.base+l.length)))):=by
       unfold World.freeze;rw[if_neg hlen0];have h0:w.drew.heap[Lk.blk]? =some (.cells ck2 el.t frk2):=lak.blk;simp only[Array.getElem?_modify,if_pos,h0];obtain⟨lo,hi⟩:=frk2;rfl
      have hun:Unfr (l.length-1+2) Lk.base 1 ck2.size (if frk2.1 == frk2.2 then(Lk.base,Lk.base+l.length)else(min frk2.1 Lk.base,max frk2.2 (Lk.base+l.length))):=by
       have u:=lak.unfrozen;obtain⟨hle,hcl⟩:=u.clean g5;have cl:∀fr:Nat×Nat,fr.1<=fr.2->(∀k,fr.1<=k->k<fr.2->Lk.base<=k/\k+1<Lk.base+(l.length-1+2))->Unfr (l.length-1+2) Lk.base 1 ck2.size fr:=fun fr h1 h2=>⟨fun k _=>h2 k,fun z=>(z rfl).elim,fun _=>⟨h1,h2⟩⟩
       split
       ·exact cl _ (Nat.le_add_right _ _) fun k h1 h2=>by simp only at h1 h2;omega
       ·rename_i hne
        have hne:frk2.1≠frk2.2:=by simpa using hne
        have a1:Lk.base<=frk2.1/\frk2.1+1<Lk.base+el.fz:=hcl frk2.1 (Nat.le_refl _) (by omega);have a2:Lk.base<=frk2.2-1/\frk2.2-1+1<Lk.base+el.fz:=hcl (frk2.2-1) (by omega) (by omega);exact cl _ (by simp only;omega) fun k h1 h2=>by simp only at h1 h2;omega
      obtain⟨H2,ev⟩:=H.updG hdk hLk lak (o':=⟨1,l.map (Ty.row (.int .u8)),⟨e,l.length-1+2⟩⟩) (c':=ck2) (w':=w.drew.freeze ⟨Lk.blk,Lk.base,none⟩ l.length)
       ⟨by unfold World.freeze;split<;>rfl,by unfold World.freeze;split<;>rfl,by unfold World.freeze;split<;>rfl,zF _ _ _,fun q hq=>zE w.drew _ _ _ hq⟩ hhp rfl g4.symm rfl hun lak.rows lak.fits lak.reads
      exact⟨_,_,_,ι,rfl,⟨rfl,rfl⟩,.v _,by rw[hset];exact H2,by rw[hset];exact ev⟩
end Go.Abs
