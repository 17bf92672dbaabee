import Derived.Test.YtcjiefknhfhmkaaGreatDoorM09
namespace Go.Proofs.YtcjiefknhfhmkaaGreatDoor
open Go.Abs
set_option maxRecDepth 100000
set_option maxHeartbeats 4000000
set_option linter.unusedVariables false
set_option linter.unusedSimpArgs false
abbrev bW:Ty:=.pair (.list qC) (.int .i64)
abbrev Schema:Type:=(List Col)×Int
@[reducible] instance:Inhabited Schema:=instInhabitedDen bW
abbrev fO:Ty:=.pair (.int .i64) (.list bP)
abbrev Rec:Type:=Int×List Val
@[reducible] instance:Inhabited Rec:=instInhabitedDen fO
abbrev tB:Ty:=.pair bP (.int .i64)
abbrev Rank:Type:=Val×Int
@[reducible] instance:Inhabited Rank:=instInhabitedDen tB
abbrev kK:Ty:=.pair (.int .i64) (.pair (.int .i64) (.pair bP bP))
abbrev Zone:Type:=Int×Int×Val×Val
@[reducible] instance:Inhabited Zone:=instInhabitedDen kK
abbrev UR:Ty:=.pair (.int .i64) (.pair (.list kK) (.pair tB tB))
abbrev Info:Type:=Int×(List Zone)×Rank×Rank
@[reducible] instance:Inhabited Info:=instInhabitedDen UR
abbrev KEY:ByteArray:=⟨#[107,101,121]⟩
def kB (first:Bool) (c:Int):Bool:=(decide (97<=c)&&decide (c<=122))||(!first&&(decide (c=95)||(decide (48<=c)&&decide (c<=57))))
def kX (s:ByteArray):Bool:=decide (1<=s.size)&&decide (s.size<=16) && !(decide (s=KEY))&&(List.range s.size).all (fun i=>kB (decide (i=0)) (aG s i))
theorem BM {s:ByteArray} (h1:1<=s.size) (h2:s.size<=16) (h3:¬s=KEY) (h4:∀i,i<s.size->kB (decide (i=0)) (aG s i)=true):kX s=true:=by
 simp only[kX,h3,Bool.and_eq_true,decide_eq_true_eq,List.all_eq_true,List.mem_range,decide_false];exact⟨⟨⟨h1,h2⟩,rfl⟩,h4⟩
theorem xO {s:ByteArray} (i:Nat) (hi:i<s.size) (h:kB (decide (i=0)) (aG s i)=false):kX s=false:=by
 have:(List.range s.size).all (fun i=>kB (decide (i=0)) (aG s i))=false:=by
  rw[List.all_eq_false];exact⟨i,by simpa using hi,by simp [h]⟩
 simp [kX,this]
theorem GI {s:ByteArray} {k:Int} (h0:0<=k/\k<s.size) (h:kB (decide (k.toNat=0)) (aG s k.toNat)=false):kX s=false:=xO k.toNat (by omega) h
def lX (name:ByteArray) (l:List Col) (k:Int):Int:=mR (fun c=>decide (c.1=name)) k l
def eZ (c:Col):Bool:=decide (0<=c.2.2.1)&&decide (c.2.2.1<=18)&&(decide (c.2.1=5)||decide (c.2.2.1=0))
def cN (l:List Col) (i:Int) (c:Col):Int:=if kX c.1=false then 3 else if lX c.1 l 0<i then 5 else if bS c.2.1=false then 11 else if eZ c=false then 4 else 0
def aT (s:Schema):Int:=if s.1.length=0 then 1 else if 12<s.1.length then 7 else if bM (cN s.1) 0 s.1≠0 then bM (cN s.1) 0 s.1
 else if s.2<0\/s.1.length<=s.2 then 4 else 0
theorem wX {name:ByteArray} {l:List Col} {k:Int} (j:Nat) (hj:j<k.toNat) (hl:k.toNat<l.length) (h:l[j]!.1=name):lX name l 0<k:=by
 rcases qT (fun c:Col=>decide (c.1=name)) l 0 with⟨h1,h2⟩|⟨i,h1,h2,h3,h4⟩
 ·have:=h2 j (by omega);rw[decide_eq_true h]at this;cases this
 ·rw[lX,h2]
  by_cases q:j<i
  ·have:=h4 j q;rw[decide_eq_true h]at this;cases this
  ·omega
theorem oN {name:ByteArray} {l:List Col} {k:Int} (hk:0<=k/\k<l.length) (hn:l[k.toNat]!.1=name) (h:∀j:Nat,j<k.toNat->¬l[j]!.1=name):¬lX name l 0<k:=by
 rcases qT (fun c:Col=>decide (c.1=name)) l 0 with⟨h1,h2⟩|⟨i,h1,h2,h3,h4⟩
 ·have:=h2 k.toNat (by omega);rw[decide_eq_true hn]at this;cases this
 ·rw[lX,h2]
  intro q;exact h i (by omega) (of_decide_eq_true h3)
abbrev JQ:Ct:=.fn [.str] (none) (fun(s:ByteArray)=>.d .bool (kX s))
theorem qP7:aF Tryz.prog 104 JQ:=by
 refine aF.fn qD7 mixed [] [] rfl rfl ?_;rintro⟨(s:ByteArray),_⟩ -;refine⟨[(0,8,LA.mk [.sl 28 (.int .i64)] (fun y=>Tag 49/\cu [.int .i64] (fun(k:Int)=>(0<=k/\k<=s.size)/\(∀i:Nat,i<k.toNat->kB (decide (i=0)) (aG s i)=true)) y) (cu [.int .i64] (fun(k:Int)=>((s.size:Int)-k).toNat)) (cu [.int .i64] (fun(k:Int)=>([]:List (Nat×Nat×LA)))))],?_⟩;repeat' (first
  |(
 with_reducible refine Side.mk ⟨(⟨⟩:Tag 49),?_⟩
 dsimp only[cu,aC,aB,gts,eE,eN]
 refine⟨?_,?_⟩
 ·omega
 ·first
  |intro i hi;simp at hi;done
  |(
  intro i hi
  by_cases q:i<k.toNat
  ·exact hall i q
  ·have e:i=k.toNat:=by omega
   subst e;have:(k=0)=(k.toNat=0):=by apply propext;omega
   grind [kB]))
  |(
 with_reducible apply Side.mk
 (try dsimp only[cu,aC,aB,gts,loK,hiK,eE,eN])
 first
 |omega
 |(have:=yH (s:=s) (by assumption);omega))
  |(conv=>whnf
    first
     |with_reducible first|done|exact trivial|refine NilBr.mk (fun h=>?_) ?_|apply aI|apply aH|refine aJ (by kernel_rfl) ?_|apply aK|apply bB|apply bA|apply aQ
     |((with_reducible first|apply aS|apply aR|apply aZ)<;>intro h<;>(try dsimp only[cu,eE,eN]at h)<;>(try(exfalso;omega)))
     |(
 intro yy (hy:Tag 49/\_)
 obtain⟨(k:Int),_⟩:=yy
 replace hy:=hy.2
 dsimp only[cu,aC,aB,gts,eE,eN]at hy
 obtain⟨hk,hall⟩:=hy)))
 all_goals(
 with_reducible apply Leaf.mk
 (try dsimp only[cu,aC,aB,gts,eE,eN]at *)
 first
 |(subst_vars;rfl)
 |rw[BM]<;>grind [yH]
 |(
  rw[xO 0 (by have:=yH (by assumption);omega)];grind [kB])
 |(
  rw[GI (k:=k) (by omega)];grind [kB])
 |(grind [kX,kB]))
abbrev qX3:Tbl:=(104,JQ)::qX2
theorem qD8:aD Tryz.prog qX3:=aD.cons qP7 qD7
abbrev EN:Ct:=.fn [.str] (none) (fun(s:ByteArray)=>.d .bool (kX s))
theorem qMC:aF Tryz.prog 53 EN:=by
 refine aF.fn qD8 mixed [] [] rfl rfl ?_;rintro⟨(s:ByteArray),_⟩ -;refine⟨[(0,8,LA.mk [.sl 3 (.int .i64)] (fun y=>Tag 50/\cu [.int .i64] (fun(k:Int)=>(0<=k/\k<=s.size)/\(∀i:Nat,i<k.toNat->kB (decide (i=0)) (aG s i)=true)) y) (cu [.int .i64] (fun(k:Int)=>((s.size:Int)-k).toNat)) (cu [.int .i64] (fun(k:Int)=>([]:List (Nat×Nat×LA)))))],?_⟩;repeat' (first
  |(
 with_reducible refine Side.mk ⟨(⟨⟩:Tag 50),?_⟩
 dsimp only[cu,aC,aB,gts,eE,eN]
 refine⟨?_,?_⟩
 ·omega
 ·first
  |intro i hi;simp at hi;done
  |(
  intro i hi
  by_cases q:i<k.toNat
  ·exact hall i q
  ·have e:i=k.toNat:=by omega
   subst e;have:(k=0)=(k.toNat=0):=by apply propext;omega
   grind [kB]))
  |(
 with_reducible apply Side.mk
 (try dsimp only[cu,aC,aB,gts,loK,hiK,eE,eN])
 omega)
  |(conv=>whnf
    first
     |with_reducible first|done|exact trivial|refine NilBr.mk (fun h=>?_) ?_|apply aI|apply aH|refine aJ (by kernel_rfl) ?_|apply aK|apply bB|apply bA|apply aQ
     |((with_reducible first|apply aS|apply aR|apply aZ)<;>intro h<;>(try dsimp only[cu,eE,eN]at h)<;>(try(exfalso;omega)))
     |(
 intro yy (hy:Tag 50/\_)
 obtain⟨(k:Int),_⟩:=yy
 replace hy:=hy.2
 dsimp only[cu,aC,aB,gts,eE,eN]at hy
 obtain⟨hk,hall⟩:=hy)))
 all_goals(
 with_reducible apply Leaf.mk
 (try dsimp only[cu,aC,aB,gts,eE,eN]at *)
 first
 |(subst_vars;rfl)
 |rw[BM]<;>grind [yH]
 |(
  rw[GI (k:=k) (by omega)];grind [kB])
 |(grind [kX,kB]))
abbrev qX4:Tbl:=(53,EN)::qX3
theorem qD9:aD Tryz.prog qX4:=aD.cons qMC qD8
abbrev JC:Ct:=.fn [bW,.str] (some (fun(s:Schema) (name:ByteArray)=>(s.1.length<=9223372036854775807))) (fun(s:Schema) (name:ByteArray)=>.d (.int .i64) (lX name s.1 0))
theorem qO4:aF Tryz.prog 105 JC:=by
 refine aF.fn qD9 mixed [] [143,144] rfl rfl ?_;rintro⟨(s:Schema),(name:ByteArray),_⟩ hpre;replace hpre:=hpre _ rfl;dsimp only[cu]at hpre;have hl:=hpre;refine⟨[(143,4,LA.mk [.sl 8 (.int .i64)] (fun y=>Tag 51/\cu [.int .i64] (fun(k:Int)=>(0<=k/\k<=s.1.length)/\(lX name s.1 0=lX name (s.1.drop k.toNat) k)) y) (cu [.int .i64] (fun(k:Int)=>((s.1.length:Int)-k).toNat)) (cu [.int .i64] (fun(k:Int)=>([]:List (Nat×Nat×LA)))))],?_⟩;repeat' (first
  |(
 with_reducible refine Side.mk ⟨(⟨⟩:Tag 51),?_⟩
 dsimp only[cu,aC,aB,gts,eE,eN]
 refine⟨?_,?_⟩
 ·omega
 ·first
  |simp;done
  |(
  rw[bH _ _ (by omega)]at hi
  simp only[lX,mR]at hi ⊢
  rw[hi]
  grind))
  |(
 with_reducible apply Side.mk
 (try dsimp only[cu,aC,aB,gts,loK,hiK,eE,eN])
 omega)
  |(conv=>whnf
    first
     |with_reducible first|done|exact trivial|refine NilBr.mk (fun h=>?_) ?_|apply aI|apply aH|refine aJ (by kernel_rfl) ?_|apply aK|apply bB|apply bA|apply aQ
     |((with_reducible first|apply aS|apply aR|apply aZ)<;>intro h<;>(try dsimp only[cu,eE,eN]at h)<;>(try(exfalso;omega)))
     |(
 intro yy (hy:Tag 51/\_)
 obtain⟨(k:Int),_⟩:=yy
 replace hy:=hy.2
 dsimp only[cu,aC,aB,gts,eE,eN]at hy
 obtain⟨hk,hi⟩:=hy)))
 all_goals(
 with_reducible apply Leaf.mk
 (try dsimp only[cu,aC,aB,gts,eE,eN]at *)
 first
 |(
  rw[hi,bH _ _ (by omega)];simp only[lX,mR];grind)
 |(
  rw[hi,lN _ _ (by omega)];rfl))
abbrev qX5:Tbl:=(105,JC)::qX4
theorem qEA:aD Tryz.prog qX5:=aD.cons qO4 qD9
abbrev AX:Ct:=.fn [bW] (none) (fun(s:Schema)=>.d (.int .i64) (aT s))
theorem qHF:aF Tryz.prog 60 AX:=by
 refine aF.fn qEA mixed [] [] rfl rfl ?_;rintro⟨(s:Schema),_⟩ -;refine⟨[(0,12,LA.mk [.sl 18 (.int .i64)] (fun y=>Tag 52/\cu [.int .i64] (fun(k:Int)=>(0<=k/\k<=s.1.length)/\(bM (cN s.1) 0 s.1=bM (cN s.1) k (s.1.drop k.toNat))) y) (cu [.int .i64] (fun(k:Int)=>((s.1.length:Int)-k).toNat)) (cu [.int .i64] (fun(k:Int)=>([]:List (Nat×Nat×LA)))))],?_⟩;repeat' (first
  |(
 with_reducible refine Side.mk ⟨(⟨⟩:Tag 52),?_⟩
 dsimp only[cu,aC,aB,gts,eE,eN]
 refine⟨?_,?_⟩
 ·omega
 ·first
  |simp;done
  |(
  rw[bH _ _ (by omega)]at hi
  rw[hi,bM,if_pos (by grind [cN,eZ,bS])]))
  |(
 with_reducible apply Side.mk
 (try dsimp only[cu,aC,aB,gts,loK,hiK,eE,eN])
 omega)
  |(conv=>whnf
    first
     |with_reducible first|done|exact trivial|refine NilBr.mk (fun h=>?_) ?_|apply aI|apply aH|refine aJ (by kernel_rfl) ?_|apply aK|apply bB|apply bA|apply aQ
     |((with_reducible first|apply aS|apply aR|apply aZ)<;>intro h<;>(try dsimp only[cu,eE,eN]at h)<;>(try(exfalso;omega)))
     |(
 intro yy (hy:Tag 52/\_)
 obtain⟨(k:Int),_⟩:=yy
 replace hy:=hy.2
 dsimp only[cu,aC,aB,gts,eE,eN]at hy
 obtain⟨hk,hi⟩:=hy)))
 all_goals(
 with_reducible apply Leaf.mk
 (try dsimp only[cu,aC,aB,gts,eE,eN]at *)
 first
 |grind [aT]
 |(
  have e:bM (cN s.1) 0 s.1=cN s.1 k s.1[k.toNat]!:=(by rw[hi,bH _ _ (by omega),bM];grind [cN,bS,eZ])
  grind [aT,cN,bS,eZ])
 |(
  rw[lN _ _ (by omega)]at hi;grind [aT,bM]))
abbrev qX6:Tbl:=(60,AX)::qX5
theorem qEB:aD Tryz.prog qX6:=aD.cons qHF qEA
abbrev wN:Ct:=.fn [bW] (none) (fun(s:Schema)=>.d (.int .i64) (aT s))
theorem ZL:aF Tryz.prog 20 wN:=by
 refine aF.fn qEB mixed [] [] rfl rfl ?_;rintro⟨(s:Schema),_⟩ -;refine⟨[(0,12,LA.mk [.sl 18 (.int .i64)] (fun y=>Tag 53/\cu [.int .i64] (fun(k:Int)=>(0<=k/\k<=s.1.length)/\(bM (cN s.1) 0 s.1=bM (cN s.1) k (s.1.drop k.toNat))) y) (cu [.int .i64] (fun(k:Int)=>((s.1.length:Int)-k).toNat)) (cu [.int .i64] (fun(k:Int)=>([(0,22,LA.mk [.sl 32 (.int .i64)] (fun y=>Tag 54/\cu [.int .i64] (fun(j:Int)=>(0<=j/\j<=k)/\(∀i:Nat,i<j.toNat->¬s.1[i]!.1=s.1[k.toNat]!.1)) y) (cu [.int .i64] (fun(j:Int)=>(k-j).toNat)) (cu [.int .i64] (fun(j:Int)=>([]:List (Nat×Nat×LA)))))]:List (Nat×Nat×LA)))))],?_⟩;repeat' (first
  |(
 with_reducible refine Side.mk ⟨(⟨⟩:Tag 53),?_⟩
 dsimp only[cu,aC,aB,gts,eE,eN]
 refine⟨?_,?_⟩
 ·omega
 ·first
  |simp;done
  |(
  have hcol:=oN (l:=s.1) (k:=k) (by omega) rfl (fun i hi=>hd i (by have:=List.length_take (i:=k.toNat) (l:=s.1);omega))
  rw[bH _ _ (by omega)]at hi
  rw[hi,bM,if_pos (by grind [cN,eZ,bS])]))
  |(
 with_reducible refine Side.mk ⟨(⟨⟩:Tag 54),?_⟩
 dsimp only[cu,aC,aB,gts,eE,eN]
 refine⟨?_,?_⟩
 ·first
  |omega
  |have:=List.length_take (i:=k.toNat) (l:=s.1);omega
 ·first
  |intro i hi;simp at hi;done
  |(
  intro i hi
  by_cases q:i<j.toNat
  ·exact hd i q
  ·have e:i=j.toNat:=by omega
   subst e;rw[<-lE s.1 k.toNat j.toNat (by have:=List.length_take (i:=k.toNat) (l:=s.1);omega)];assumption))
  |(
 with_reducible apply Side.mk
 (try dsimp only[cu,aC,aB,gts,loK,hiK,eE,eN])
 first
 |omega
 |(have:=List.length_take (i:=k.toNat) (l:=s.1);omega))
  |(conv=>whnf
    first
     |with_reducible first|done|exact trivial|refine NilBr.mk (fun h=>?_) ?_|apply aI|apply aH|refine aJ (by kernel_rfl) ?_|apply aK|apply bB|apply bA|apply aQ
     |((with_reducible first|apply aS|apply aR|apply aZ)<;>intro h<;>(try dsimp only[cu,eE,eN]at h)<;>(try(exfalso;omega)))
     |(
 intro yy (hy:Tag 53/\_)
 obtain⟨(k:Int),_⟩:=yy
 replace hy:=hy.2
 dsimp only[cu,aC,aB,gts,eE,eN]at hy
 obtain⟨hk,hi⟩:=hy)
     |(
 intro yy (hy:Tag 54/\_)
 obtain⟨(j:Int),_⟩:=yy
 replace hy:=hy.2
 dsimp only[cu,aC,aB,gts,eE,eN]at hy
 obtain⟨hj,hd⟩:=hy)))
 all_goals(
 with_reducible apply Leaf.mk
 (try dsimp only[cu,aC,aB,gts,eE,eN]at *)
 first
 |grind [aT]
 |(
  have hjk:j<k:=by have:=List.length_take (i:=k.toNat) (l:=s.1);omega
  have hcol:=wX (name:=s.1[k.toNat]!.1) (l:=s.1) (k:=k) j.toNat (by omega) (by omega) (by rw[<-lE s.1 k.toNat j.toNat (by omega)];assumption);have e:bM (cN s.1) 0 s.1=cN s.1 k s.1[k.toNat]!:=(by rw[hi,bH _ _ (by omega),bM];grind [cN,bS,eZ])
  grind [aT,cN,bS,eZ])
 |(
  have hcol:=oN (l:=s.1) (k:=k) (by omega) rfl (fun i hi=>hd i (by have:=List.length_take (i:=k.toNat) (l:=s.1);omega));have e:bM (cN s.1) 0 s.1=cN s.1 k s.1[k.toNat]!:=(by rw[hi,bH _ _ (by omega),bM];grind [cN,bS,eZ])
  grind [aT,cN,bS,eZ])
 |(
  have e:bM (cN s.1) 0 s.1=cN s.1 k s.1[k.toNat]!:=(by rw[hi,bH _ _ (by omega),bM];grind [cN,bS,eZ])
  grind [aT,cN,bS,eZ])
 |(
  rw[lN _ _ (by omega)]at hi;grind [aT,bM]))
abbrev qX7:Tbl:=(20,wN)::qX6
theorem qEC:aD Tryz.prog qX7:=aD.cons ZL qEB
abbrev ABCD:ByteArray:=⟨#[97,98,99,100]⟩
def FZ (s:Src) (n:Int):Col×Src:=
 if 1+Src.pick s 5=5 then(⟨ABCD.extract (n-1).toNat n.toNat,1+Src.pick s 5,Src.pick (Src.next (Src.next s)) 4,decide (Src.pick (Src.next s) 2=0)⟩,Src.next (Src.next (Src.next s)))
 else(⟨ABCD.extract (n-1).toNat n.toNat,1+Src.pick s 5,0,decide (Src.pick (Src.next s) 2=0)⟩,Src.next (Src.next s))
def oR:Nat->Src->List Col->List Col×Src
 |0,s,acc=>(acc,s)
 |n+1,s,acc=>oR n (FZ s (n+1)).2 (acc++ [(FZ s (n+1)).1])
theorem YN {k:Int} (h:k>0) (s:Src) (acc:List Col):oR k.toNat s acc=oR (k-1).toNat (FZ s k).2 (acc++ [(FZ s k).1]):=by
 obtain⟨n,rfl⟩:∃n:Nat,k=(n:Int)+1:=⟨(k-1).toNat,by omega⟩
 rw[show((n:Int)+1).toNat=n+1 by omega,show((n:Int)+1-1).toNat=n by omega];rfl
def bY (l:List Int):Schema:=⟨(oR (1+Src.pick (l,0) 4).toNat (Src.next (l,0)) []).1,Src.pick (oR (1+Src.pick (l,0) 4).toNat (Src.next (l,0)) []).2 (oR (1+Src.pick (l,0) 4).toNat (Src.next (l,0)) []).1.length⟩
theorem qFI:(ByteArray.mk #[97,98,99,100]).size=4:=rfl
abbrev wH:Ct:=.fn [.list (.int .i64)] (some (fun(l:List Int)=>(l.length<=9223372036854775807))) (fun(l:List Int)=>.d bW (bY l))
theorem YR:aF Tryz.prog 13 wH:=by
 refine aF.fn qEC mixed [] [] rfl rfl ?_;rintro⟨(l:List Int),_⟩ hpre;replace hpre:=hpre _ rfl;dsimp only[cu]at hpre;have hl:=hpre;have hp0:=Src.pick_lt (s:=(l,0)) (n:=4) (by decide);refine⟨[(0,8,LA.mk [.sl 5 (.int .i64),.row 2 [.own qC 40,.same],.ob 1 oE 124] (fun y=>Tag 55/\cu [.int .i64,.list qC,oE] (fun(k:Int) (C:List Col) (q:Src)=>(0<=k/\k<=4)/\(Src.ok q)/\((C.length:Int)=1+Src.pick (l,0) 4-k)/\(oR (1+Src.pick (l,0) 4).toNat (Src.next (l,0)) []=oR k.toNat q C)) y) (cu [.int .i64,.list qC,oE] (fun(k:Int) (C:List Col) (q:Src)=>k.toNat)) (cu [.int .i64,.list qC,oE] (fun(k:Int) (C:List Col) (q:Src)=>([]:List (Nat×Nat×LA)))))],?_⟩;repeat' (first
  |(
 with_reducible refine Side.mk ⟨(⟨⟩:Tag 55),?_⟩
 dsimp only[cu,aC,aB,gts,eE,eN]
 refine⟨?_,?_,?_,?_⟩
 ·omega
 ·(repeat (first|assumption|exact Src.ok_from (by assumption)|apply Src.ok_next|apply gO|apply kNode_ok))
 ·first
  |simp only[List.length_nil];omega
  |simp only[List.length_append,List.length_cons,List.length_nil];omega
 ·first
  |rfl
  |(
  rw[hg,YN (by assumption)]
  simp [FZ, *]))
  |(
 with_reducible apply Side.mk
 (try dsimp only[cu,aC,aB,gts,loK,hiK,eE,eN])
 first
 |done
 |omega
 |exact Eq.refl _
 |simp only[List.length_append,List.length_cons,List.length_nil];omega
 |rw[qFI];omega
 |(
  refine⟨?_,by first|decide|exact ZY (by omega)⟩
  (repeat (first|assumption|exact Src.ok_from (by assumption)|apply Src.ok_next|apply gO|apply kNode_ok));done)
 |(have:=@Src.pick_lt;grind))
  |(conv=>whnf
    first
     |with_reducible first|done|exact trivial|refine NilBr.mk (fun h=>?_) ?_|apply aI|apply aH|refine aJ (by kernel_rfl) ?_|apply aK|apply bB|apply bA|apply aQ
     |((with_reducible first|apply aS|apply aR|apply aZ)<;>intro h<;>(try dsimp only[cu,eE,eN]at h)<;>(try(exfalso;omega)))
     |(
 intro yy (hy:Tag 55/\_)
 obtain⟨(k:Int),(C:List Col),(q:Src),_⟩:=yy
 replace hy:=hy.2
 dsimp only[cu,aC,aB,gts,eE,eN]at hy
 obtain⟨hk,hq,hv,hg⟩:=hy)))
 all_goals(
 with_reducible apply Leaf.mk
 (try dsimp only[cu,aC,aB,gts,eE,eN]at *)
 (
  rw[show k.toNat=0 by omega,oR]at hg;simp [bY,hg]))
abbrev qX8:Tbl:=(13,wH)::qX7
theorem qED:aD Tryz.prog qX8:=aD.cons YR qEC
def eM:List Col->Src->List Val×Src
 | [],q=>([],q)
 |c::cs,q=>((iO q c).1::(eM cs (iO q c).2).1,(eM cs (iO q c).2).2)
theorem pS:∀(cs:List Col) (q:Src),Src.ok q->Src.ok (eM cs q).2
 | [],q,h=>h
 |c::cs,q,h=>pS cs _ (by apply gO;exact h)
theorem TA {l:List Col} {k:Int} {q:Src} (h:0<=k/\k<l.length):eM (l.drop k.toNat) q=((iO q l[k.toNat]!).1::(eM (l.drop (k+1).toNat) (iO q l[k.toNat]!).2).1,(eM (l.drop (k+1).toNat) (iO q l[k.toNat]!).2).2):=by
 rw[bH l k h];rfl
abbrev JK:Ct:=.meth oE 124 [bW] (some (fun(s:Src) (x:Schema)=>(Src.ok s)/\(x.1.length<=1000))) (fun(s:Src) (x:Schema)=>.d (.list bP) ((eM x.1 s).1)) (fun(s:Src) (x:Schema)=>(eM x.1 s).2)
theorem qPR:aF Tryz.prog 47 JK:=by
 refine aF.meth qED mixed [] [] rfl rfl ?_;rintro(s:Src) ⟨(x:Schema),_⟩ hpre;replace hpre:=hpre _ rfl;dsimp only[cu]at hpre;obtain⟨hs,hx⟩:=hpre;refine⟨[(0,6,LA.mk [.sl 11 (.int .i64),.lst 5 bP 43,.ob 0 oE 124] (fun y=>Tag 56/\cu [.int .i64,.list bP,oE] (fun(k:Int) (M:List Val) (q:Src)=>(0<=k/\k<=x.1.length)/\(Src.ok q)/\(eM x.1 s=(M++(eM (x.1.drop k.toNat) q).1,(eM (x.1.drop k.toNat) q).2))/\((M.length:Int)<=k)) y) (cu [.int .i64,.list bP,oE] (fun(k:Int) (M:List Val) (q:Src)=>((x.1.length:Int)-k).toNat)) (cu [.int .i64,.list bP,oE] (fun(k:Int) (M:List Val) (q:Src)=>([]:List (Nat×Nat×LA)))))],?_⟩;repeat' (first
  |(
 with_reducible refine Side.mk ⟨(⟨⟩:Tag 56),?_⟩
 dsimp only[cu,aC,aB,gts,eE,eN]
 refine⟨?_,?_,?_,?_⟩
 ·omega
 ·(repeat (first|assumption|exact Src.ok_from (by omega)|apply Src.ok_next|apply gO|apply pS))
 ·first
  |rfl
  |(
  rw[hm,TA (by omega)]
  simp)
 ·first
  |simp;done
  |(simp only[List.length_append,List.length_cons,List.length_nil];omega))
  |(
 with_reducible apply Side.mk
 (try dsimp only[cu,aC,aB,gts,loK,hiK,eE,eN])
 first
 |done
 |omega
 |exact Eq.refl _
 |(simp only[List.length_append,List.length_cons,List.length_nil];omega))
  |(conv=>whnf
    first
     |with_reducible first|done|exact trivial|refine NilBr.mk (fun h=>?_) ?_|apply aI|apply aH|refine aJ (by kernel_rfl) ?_|apply aK|apply bB|apply bA|apply aQ
     |((with_reducible first|apply aS|apply aR|apply aZ)<;>intro h<;>(try dsimp only[cu,eE,eN]at h)<;>(try(exfalso;omega)))
     |(
 intro yy (hy:Tag 56/\_)
 obtain⟨(k:Int),(M:List Val),(q:Src),_⟩:=yy
 replace hy:=hy.2
 dsimp only[cu,aC,aB,gts,eE,eN]at hy
 obtain⟨hk,hq,hm,hl⟩:=hy)))
 all_goals(
 with_reducible apply Leaf.mk
 (try dsimp only[cu,aC,aB,gts,eE,eN]at *)
 (
  rw[hm,List.drop_eq_nil_of_le (by omega)];simp [eM]))
abbrev qU2:Tbl:=(47,JK)::qX8
theorem rF:aD Tryz.prog qU2:=aD.cons qPR qED
theorem qLF (b o n:Nat):NZ.ok ⟨b,o,52,43,.list bP,bP,0,fun a=>a,n⟩:=by
 refine⟨fun a=>rfl,?_,?_⟩
 ·intro a j x hj h
  rcases j with _|j
  ·exact(hj rfl).elim
  ·cases h
 ·intro a j x h
  rcases j with _|_|_|j
  ·exact⟨_,(Option.some.inj h).symm⟩
  ·exact⟨_,(Option.some.inj h).symm⟩
  ·exact⟨_,(Option.some.inj h).symm⟩
  ·cases h
theorem qLE (b o n:Nat):NZ.ok ⟨b,o,56,43,fO,bP,1,fun a=>a.2,n⟩:=by
 refine⟨fun a=>rfl,?_,?_⟩
 ·intro a j x hj h
  rcases j with _|_|j
  ·exact⟨_,(Option.some.inj h).symm⟩
  ·exact(hj rfl).elim
  ·cases h
 ·intro a j x h
  rcases j with _|_|_|j
  ·exact⟨_,(Option.some.inj h).symm⟩
  ·exact⟨_,(Option.some.inj h).symm⟩
  ·exact⟨_,(Option.some.inj h).symm⟩
  ·cases h
def atV (r:Rec) (i:Nat):Val:=if i<r.2.length then r.2[i]! else(true,0,⟨#[]⟩)
def fM (l:List Rec) (i:Nat):List Val:=l.map fun r=>atV r i
def oO (l:List Rec) (n:Int):List (List Val):=if n<1\/n>12 then[]else(List.range n.toNat).map (fM l)
def lL (l:List Rec) (n i k:Nat):List (List Val):=(List.range n).map fun j=>if j<i then fM l j else if j=i then fM (l.take k) i else[]
theorem jL (l:List Rec) (n i k:Nat):(lL l n i k).length=n:=by simp [lL]
theorem kQ {l:List Rec} {n i k j:Nat} (h:j<n):(lL l n i k)[j]? =some (if j<i then fM l j else if j=i then fM (l.take k) i else[]):=by simp [lL,h]
theorem qOH (l:List Rec) (n:Nat):lL l n 0 0=List.replicate n []:=by
 apply List.ext_getElem?;intro j;by_cases h:j<n
 ·rw[kQ h];simp [h,fM]
 ·rw[List.getElem?_eq_none (by rw[jL];omega),List.getElem?_eq_none (by simp;omega)]
theorem XI (l:List Rec) (n i:Nat):lL l n i l.length=lL l n (i+1) 0:=by
 apply List.ext_getElem?;intro j;by_cases h:j<n
 ·rw[kQ h,kQ h]
  congr 1
  by_cases h1:j<i
  ·rw[if_pos h1,if_pos (by omega)]
  ·by_cases h2:j=i
   ·subst h2;rw[if_neg h1,if_pos rfl,if_pos (by omega),List.take_length]
   ·rw[if_neg h1,if_neg h2,if_neg (by omega)]
    split
    ·simp [fM]
    ·rfl
 ·rw[List.getElem?_eq_none (by rw[jL];omega),List.getElem?_eq_none (by rw[jL];omega)]
theorem FJ {l:List Rec} {n i k:Nat} (hi:i<n) (hk:k<l.length):(lL l n i k).set i (fM (l.take k) i++ [atV l[k]! i])=lL l n i (k+1):=by
 apply List.ext_getElem?;intro j;by_cases h:j<n
 ·rw[kQ h]
  by_cases h2:i=j
  ·subst h2
   rw[List.getElem?_set_self (by rw[jL];exact hi),if_neg (by omega),if_pos rfl,List.take_add_one,List.getElem?_eq_getElem hk,getElem!_pos l k hk];simp only[fM,List.map_append,Option.toList_some,List.map_cons,List.map_nil]
  ·rw[List.getElem?_set_ne h2,kQ h]
   congr 1
   split
   ·rfl
   ·rw[if_neg (fun q=>h2 q.symm),if_neg (fun q=>h2 q.symm)]
 ·rw[List.getElem?_eq_none (by rw[List.length_set,jL];omega),List.getElem?_eq_none (by rw[jL];omega)]
theorem qF2 {l:List Rec} {n:Int} (h:¬(n<1\/n>12)):lL l n.toNat n.toNat 0=oO l n:=by
 rw[oO,if_neg h];apply List.map_congr_left;intro j hj;rw[if_pos (by simpa using hj)]
theorem qJM {l:List Rec} {n i k:Nat} {a:List Val} (hi:i<n) (h:(lL l n i k)[i]? =some a):a=fM (l.take k) i:=by
 rw[kQ hi,if_neg (by omega),if_pos rfl]at h;exact(Option.some.inj h).symm
theorem XJ {l:List Rec} {n i k:Nat} (hi:i<n):(lL l n i k).set i (fM (l.take k) i)=lL l n i k:=by
 apply List.ext_getElem?;intro j;by_cases h2:i=j
 ·subst h2
  rw[List.getElem?_set_self (by rw[jL];exact hi),kQ hi,if_neg (by omega),if_pos rfl]
 ·rw[List.getElem?_set_ne h2]
theorem qF3 {l:List Rec} {n i k:Nat} (hi:i<n) (hk:k=l.length):(lL l n i k).set i (fM (l.take k) i)=lL l n (i+1) 0:=by
 rw[XJ hi,hk,XI]
theorem nJ (l:List Rec) (i:Nat):(fM l i).length=l.length:=by simp [fM]
abbrev IY:Ct:=.fn [.list fO,.int .i64] (some (fun(l:List Rec) (n:Int)=>(l.length<=1099511627776))) (fun(l:List Rec) (n:Int)=>.d (.list (.list bP)) (oO l n))
theorem qOI:aF Tryz.prog 99 IY:=by
 refine aF.fnG (T:=qU2) [(0,3,1)] [] rfl rfl ?_;rintro⟨(l:List Rec),(n:Int),_⟩ hpre;replace hpre:=hpre _ rfl;dsimp only[cu]at hpre;have hl:=hpre;refine⟨[],?_⟩;repeat' (first
  |(
 with_reducible refine Side.mk ⟨(⟨⟩:Tag 57),?_⟩
 dsimp only[cu,aC,aB,gts,eE,eN]
 refine⟨?_,?_⟩
 ·omega
 ·first
  |exact(qOH l n.toNat).symm
  |(
  rw[hS2,show(i+1).toNat=i.toNat+1 by omega]
  exact qF3 (by omega) (by omega)))
  |(
 with_reducible refine Side.mk ⟨(⟨⟩:Tag 58),?_⟩
 dsimp only[cu,aC,aB,gts,eE,eN]
 refine⟨?_,?_⟩
 ·omega
 ·first
  |exact hR
  |rw[hS2,show(k+1).toNat=k.toNat+1 by omega,<-FJ (by omega) (by omega),atV,if_pos (by omega)]
  |(rw[hS2,show(k+1).toNat=k.toNat+1 by omega,<-FJ (by omega) (by omega),atV,if_neg (by omega)]))
  |(
 with_reducible apply Side.mk
 (try dsimp only[cu,aC,aB,gts,loK,hiK,eE,eN])
 first
 |done
 |omega
 |simp only[List.length_append,List.length_cons,List.length_nil];omega
 |(
  dsimp only at hrows;omega)
 |exact⟨rfl,rfl,rfl,rfl⟩
 |exact⟨⟨rfl,rfl,rfl,rfl⟩,rfl,rfl,by simp,by decide,rfl⟩
 |(
  simp only[nJ,List.length_take,List.length_cons,List.length_nil];omega))
  |(conv=>whnf
    first
     |refine GoV.x 5 rF mixed (iF rF mixed [(0,3,1)] [] 4 _ _) (by exact rfl) ?_
     |refine GoV.nest (tO:=.list bP) (t:=bP) 5 5 0 (fun a=>a) 52 43 ([]) qLF rfl rfl (by exact rfl) ?_
     |refine GoV.sq ?_
     |intro(nb:Nat) (no:Nat) (hS:Heap) (ιS:Iota) (wS:World)
     |intro(rows:List (List V)) (hrows:rows.length=_)
     |intro(nv:Value)
     |refine GoN.x 8 rF mixed (iF rF mixed [(0,3,1)] [] 4 _ _) (by exact rfl) (by exact rfl) ?_
     |refine GoN.block ?_
     |refine GoN.sq ?_
     |refine GoN.loop 5 [.sl 20 (.int .i64)] (fun y (R:List (Ty.den (.list bP)))=>Tag 57/\cu [.int .i64] (fun(i:Int)=>fun(R:List (Ty.den (.list bP)))=>(0<=i/\i<=n)/\(R=lL l n.toNat i.toNat 0)) y R) (fun y _=>cu [.int .i64] (fun(i:Int)=>(n-i).toNat) y) (by exact rfl) (by exact rfl) ?_ ?_
     |refine GoN.loopF (qLF _ _ _) rF mixed (iF rF mixed [(0,3,1)] [] 4 _ _) 8 [.sl 25 (.int .i64)] (fun y (R:List (Ty.den (.list bP)))=>Tag 58/\cu [.int .i64] (fun(k:Int)=>fun(R:List (Ty.den (.list bP)))=>(0<=k/\k<=l.length)/\(R=lL l n.toNat i.toNat k.toNat)) y R) (fun y _=>cu [.int .i64] (fun(k:Int)=>(l.length-k).toNat) y) (cu [.int .i64] (fun(k:Int)=>i.toNat)) (by exact rfl) (by exact rfl) ?_ ?_ ?_
     |(
 intro yy (R:List (Ty.den (.list bP))) (hy:Tag 57/\_)
 obtain⟨(i:Int),_⟩:=yy
 replace hy:=hy.2
 dsimp only[cu,aC,aB,gts,eE,eN]at hy
 obtain⟨hi,hR⟩:=hy)
     |(
 intro yy (R:List (Ty.den (.list bP))) (ra:Ty.den (.list bP)) (hy:Tag 58/\_) hra
 obtain⟨(k:Int),_⟩:=yy
 replace hy:=hy.2
 dsimp only[cu,aC,aB,gts,eE,eN]at hy hra
 obtain⟨hk,hS2⟩:=hy
 rw[hS2]at hra
 have hra:=qJM (by omega) hra
 subst hra)
     |(
 intro yy (R:List (Ty.den (.list bP))) (hy:Tag 58/\_) hle
 obtain⟨(k:Int),_⟩:=yy
 replace hy:=hy.2
 dsimp only[cu,aC,aB,gts,eE,eN]at hy hle
 obtain⟨hk,hS2⟩:=hy
 exfalso
 rw[hS2,jL]at hle
 omega)
     |with_reducible first|done|exact trivial|refine NilBr.mk (fun h=>?_) ?_|apply aI|apply aH|refine aJ (by kernel_rfl) ?_|apply aK|apply bB|apply bA|apply aQ
     |((with_reducible first|apply aS|apply aR|apply aZ)<;>intro h<;>(try dsimp only[cu,eE,eN]at h)<;>(try(exfalso;omega)))))
 all_goals(
 with_reducible apply Leaf.mk
 (try dsimp only[cu,aC,aB,gts,eE,eN]at *)
 first
 |rw[oO,if_pos (by omega)]
 |(
  rw[hR,show i.toNat=n.toNat by omega];exact qF2 (by omega)))
abbrev qX9:Tbl:=(99,IY)::qU2
theorem qEE:aD Tryz.prog qX9:=aD.cons qOI rF
abbrev gJ:Val:=(true,0,⟨#[]⟩)
def rD (t g:Int) (a b:Val):Val:=if a.1=true/\b.1=true then gJ else if a.1=true then b else if b.1=true then a else if fC t b a=g then b else a
def CB (t:Int) (z:Int×Val×Val) (v:Val):Int×Val×Val:=if v.1=true then(z.1+1,z.2.1,z.2.2)else(z.1,rD t (-1) z.2.1 v,rD t 1 z.2.2 v)
def zGo (t:Int) (l:List Val) (z:Int×Val×Val):Int×Val×Val:=l.foldl (CB t) z
def qI (t:Int) (l:List Val):Zone:=((l.length:Int),zGo t l (0,gJ,gJ))
theorem yN {t:Int} {l:List Val} {k:Int} {z:Int×Val×Val} (h:0<=k/\k<l.length):zGo t (l.drop k.toNat) z=zGo t (l.drop (k+1).toNat) (CB t z l[k.toNat]!):=by
 rw[bH l k h];rfl
theorem qE8 {t:Int} {z:Int×Val×Val} {v:Val} (h:v.1=false):CB t z v=(z.1,rD t (-1) z.2.1 v,rD t 1 z.2.2 v):=by rw[CB,if_neg (by rw[h];exact Bool.noConfusion)]
theorem CU {t g:Int} {a b:Val} (hb:b.1=true) (ha:a.1=true->a=gJ):rD t g a b=a:=by
 unfold rD;by_cases h:a.1=true
 ·rw[if_pos ⟨h,hb⟩,ha h]
 ·rw[if_neg (fun q=>h q.1),if_neg h,if_pos hb]
theorem qB0 {t g:Int} {a b:Val} (hb:b.1=false):(rD t g a b).1=true->rD t g a b=gJ:=by
 unfold rD;intro h;rw[if_neg (fun q=>by rw[hb]at q;exact Bool.noConfusion q.2)]at h ⊢;by_cases ha:a.1=true
 ·rw[if_pos ha,hb]at h;cases h
 ·rw[if_neg ha,if_neg (by rw[hb];exact Bool.noConfusion)]at h
  split at h
  ·rw[hb]at h;cases h
  ·exact absurd h ha
def xV (v:Val):ByteArray:=if v.1=true then⟨#[0]⟩else(⟨#[1]⟩++aV (put (fY v.2.1))++aV (put (v.2.2.size:Int)))++v.2.2
theorem qLS {v:Val} (h:v.1=false):xV v=(⟨#[1]⟩++aV (put (fY v.2.1))++aV (put (v.2.2.size:Int)))++v.2.2:=by rw[xV,if_neg (by rw[h];exact Bool.noConfusion)]
theorem uB {v:Val}:(xV v).size<=21+v.2.2.size:=by
 unfold xV;have p1:=bL (fY v.2.1);have p2:=bL ((v.2.2.size:Int));split
 ·show 1<=_;omega
 ·simp only[ByteArray.size_append,bJ]
  have s1:(⟨#[1]⟩:ByteArray).size=1:=rfl;omega
abbrev zV:Val:=(false,0,⟨#[]⟩)
def dC (s:ByteArray) (a:Int):Val×Int×Int:=if a<0\/a>s.size then(zV,0,4)else if a=s.size then(zV,0,10)else if aG s a.toNat>1 then(zV,0,2)else if aG s a.toNat=0 then(gJ,a+1,0)
 else if(aA s (a+1)).2.2≠0 then(zV,0,(aA s (a+1)).2.2)else if(aA s (aA s (a+1)).2.1).2.2≠0 then(zV,0,(aA s (aA s (a+1)).2.1).2.2)
 else if(aA s (aA s (a+1)).2.1).1>s.size-(aA s (aA s (a+1)).2.1).2.1 then(zV,0,10)
 else((false,pK (aA s (a+1)).1,s.extract (aA s (aA s (a+1)).2.1).2.1.toNat ((aA s (aA s (a+1)).2.1).2.1+(aA s (aA s (a+1)).2.1).1).toNat),(aA s (aA s (a+1)).2.1).2.1+(aA s (aA s (a+1)).2.1).1,0)
abbrev zZ:Zone:=(0,0,zV,zV)
def fE (s:ByteArray) (a:Int):Zone×Int×Int:=if(aA s a).2.2≠0 then(zZ,0,(aA s a).2.2)else if(aA s a).1>4096 then(zZ,0,2)
 else if(aA s (aA s a).2.1).2.2≠0 then(zZ,0,(aA s (aA s a).2.1).2.2)else if(aA s (aA s a).2.1).1>4096 then(zZ,0,2)
 else if(dC s (aA s (aA s a).2.1).2.1).2.2≠0 then(zZ,0,(dC s (aA s (aA s a).2.1).2.1).2.2)else if(dC s (dC s (aA s (aA s a).2.1).2.1).2.1).2.2≠0 then(zZ,0,(dC s (dC s (aA s (aA s a).2.1).2.1).2.1).2.2)
 else(((aA s a).1,(aA s (aA s a).2.1).1,(dC s (aA s (aA s a).2.1).2.1).1,(dC s (dC s (aA s (aA s a).2.1).2.1).2.1).1),(dC s (dC s (aA s (aA s a).2.1).2.1).2.1).2.1,0)
def uI (z:Zone):ByteArray:=aV (put (dX 0 z.1))++aV (put (dX 0 z.2.1))++xV z.2.2.1++xV z.2.2.2
def mF (c:Col) (z:Zone):Bool:=if bS c.2.1=false\/z.2.1<0\/z.2.1>z.1\/z.1>4096\/(z.2.1>0/\c.2.2.2=false)then false
 else if z.2.1=z.1 then decide (z.2.2.1=gJ)&&decide (z.2.2.2=gJ)
 else if z.2.2.1.1=true\/z.2.2.2.1=true\/bQ c z.2.2.1≠0\/bQ c z.2.2.2≠0 then false
 else(decide (fC c.2.1 z.2.2.1 z.2.2.2<0)&&decide (z.1-z.2.1>1))||decide (fC c.2.1 z.2.2.1 z.2.2.2=0)
abbrev EA:Ct:=.fn [.int .i64,bP,bP] (none) (fun(t:Int) (a:Val) (b:Val)=>.d bP (rD t (-1) a b))
theorem qK3:aF Tryz.prog 138 EA:=by
 refine aF.fn qEE mixed [] [] rfl rfl ?_;rintro⟨(t:Int),(a:Val),(b:Val),_⟩ -;refine⟨[],?_⟩;repeat' (first
  |(
 with_reducible apply Side.mk
 (try dsimp only[cu,aC,aB,gts,loK,hiK,eE,eN])
 done)
  |(conv=>whnf
    first
     |with_reducible first|done|exact trivial|refine NilBr.mk (fun h=>?_) ?_|apply aI|apply aH|refine aJ (by kernel_rfl) ?_|apply aK|apply bB|apply bA|apply aQ
     |((with_reducible first|apply aS|apply aR|apply aZ)<;>intro h<;>(try dsimp only[cu,eE,eN]at h)<;>(try(exfalso;omega)))))
 all_goals(
 with_reducible apply Leaf.mk
 (try dsimp only[cu,aC,aB,gts,eE,eN]at *)
 grind [rD,fC,nM,zS])
abbrev qYA:Tbl:=(138,EA)::qX9
theorem qEF:aD Tryz.prog qYA:=aD.cons qK3 qEE
abbrev uR:Ct:=.fn [.int .i64,bP,bP] (none) (fun(t:Int) (a:Val) (b:Val)=>.d bP (rD t 1 a b))
theorem SV:aF Tryz.prog 139 uR:=by
 refine aF.fn qEF mixed [] [] rfl rfl ?_;rintro⟨(t:Int),(a:Val),(b:Val),_⟩ -;refine⟨[],?_⟩;repeat' (first
  |(
 with_reducible apply Side.mk
 (try dsimp only[cu,aC,aB,gts,loK,hiK,eE,eN])
 done)
  |(conv=>whnf
    first
     |with_reducible first|done|exact trivial|refine NilBr.mk (fun h=>?_) ?_|apply aI|apply aH|refine aJ (by kernel_rfl) ?_|apply aK|apply bB|apply bA|apply aQ
     |((with_reducible first|apply aS|apply aR|apply aZ)<;>intro h<;>(try dsimp only[cu,eE,eN]at h)<;>(try(exfalso;omega)))))
 all_goals(
 with_reducible apply Leaf.mk
 (try dsimp only[cu,aC,aB,gts,eE,eN]at *)
 grind [rD,fC,nM,zS])
abbrev qYB:Tbl:=(139,uR)::qYA
theorem qEG:aD Tryz.prog qYB:=aD.cons SV qEF
abbrev JU:Ct:=.fn [] (none) (.d bP gJ)
theorem qQD:aF Tryz.prog 74 JU:=by
 refine aF.fn qEG mixed [] [] rfl rfl ?_;rintro⟨⟩ -;refine⟨[],?_⟩;repeat' (first
  |(
 with_reducible apply Side.mk
 (try dsimp only[cu,aC,aB,gts,loK,hiK,eE,eN])
 done)
  |(conv=>whnf
    first
     |with_reducible first|done|exact trivial|refine NilBr.mk (fun h=>?_) ?_|apply aI|apply aH|refine aJ (by kernel_rfl) ?_|apply aK|apply bB|apply bA|apply aQ
     |((with_reducible first|apply aS|apply aR|apply aZ)<;>intro h<;>(try dsimp only[cu,eE,eN]at h)<;>(try(exfalso;omega)))))
 all_goals(
 with_reducible apply Leaf.mk
 (try dsimp only[cu,aC,aB,gts,eE,eN]at *)
 done)
abbrev qYC:Tbl:=(74,JU)::qYB
theorem qEH:aD Tryz.prog qYC:=aD.cons qQD qEG
abbrev RM:Ct:=.fn [.int .i64,.int .i64,bP,bP] (none) (fun(t:Int) (g:Int) (a:Val) (b:Val)=>.d bP (rD t g a b))
theorem qUJ:aF Tryz.prog 75 RM:=by
 refine aF.fn qEH mixed [] [] rfl rfl ?_;rintro⟨(t:Int),(g:Int),(a:Val),(b:Val),_⟩ -;refine⟨[],?_⟩;repeat' (first
  |(
 with_reducible apply Side.mk
 (try dsimp only[cu,aC,aB,gts,loK,hiK,eE,eN])
 done)
  |(conv=>whnf
    first
     |with_reducible first|done|exact trivial|refine NilBr.mk (fun h=>?_) ?_|apply aI|apply aH|refine aJ (by kernel_rfl) ?_|apply aK|apply bB|apply bA|apply aQ
     |((with_reducible first|apply aS|apply aR|apply aZ)<;>intro h<;>(try dsimp only[cu,eE,eN]at h)<;>(try(exfalso;omega)))))
 all_goals(
 with_reducible apply Leaf.mk
 (try dsimp only[cu,aC,aB,gts,eE,eN]at *)
 grind [rD])
abbrev qYD:Tbl:=(75,RM)::qYC
theorem qEI:aD Tryz.prog qYD:=aD.cons qUJ qEH
abbrev BB:Ct:=.fn [.int .i64,.list bP] (some (fun(t:Int) (l:List Val)=>(l.length<=1073741824))) (fun(t:Int) (l:List Val)=>.d kK (qI t l))
theorem qH8:aF Tryz.prog 100 BB:=by
 refine aF.fn qEI mixed [] [] rfl rfl ?_;rintro⟨(t:Int),(l:List Val),_⟩ hpre;replace hpre:=hpre _ rfl;dsimp only[cu]at hpre;have hl:=hpre;refine⟨[(0,6,LA.mk [.sl 15 (.int .i64),.row 1 [.same,.val (.int .i64),.val .bool,.val (.int .i64),.val .str,.val .bool,.val (.int .i64),.val .str]] (fun y=>Tag 59/\cu [.int .i64,.int .i64,.bool,.int .i64,.str,.bool,.int .i64,.str] (fun(k:Int) (nl:Int) (b1:Bool) (n1:Int) (s1:ByteArray) (b2:Bool) (n2:Int) (s2:ByteArray)=>(0<=k/\k<=l.length)/\(zGo t l (0,gJ,gJ)=zGo t (l.drop k.toNat) (nl,((b1,n1,s1):Val),((b2,n2,s2):Val)))/\(0<=nl/\nl<=k)/\(b1=true->((b1,n1,s1):Val)=gJ)/\(b2=true->((b2,n2,s2):Val)=gJ)) y) (cu [.int .i64,.int .i64,.bool,.int .i64,.str,.bool,.int .i64,.str] (fun(k:Int) (nl:Int) (b1:Bool) (n1:Int) (s1:ByteArray) (b2:Bool) (n2:Int) (s2:ByteArray)=>((l.length:Int)-k).toNat)) (cu [.int .i64,.int .i64,.bool,.int .i64,.str,.bool,.int .i64,.str] (fun(k:Int) (nl:Int) (b1:Bool) (n1:Int) (s1:ByteArray) (b2:Bool) (n2:Int) (s2:ByteArray)=>([]:List (Nat×Nat×LA)))))],?_⟩;repeat' (first
  |(
 with_reducible refine Side.mk ⟨(⟨⟩:Tag 59),?_⟩
 dsimp only[cu,aC,aB,gts,eE,eN]
 refine⟨?_,?_,?_,?_,?_⟩
 ·omega
 ·first
  |rfl
  |(
  rw[hg,yN (by omega),CB,if_pos (by assumption)]
  rw[CU (by assumption) h1,CU (by assumption) h2])
  |rw[hg,yN (by omega),qE8 (by assumption)]
 ·omega
 ·first
  |exact fun _=>rfl
  |(
  rw[CU (by assumption) h1]
  exact h1)
  |exact qB0 (by assumption)
 ·first
  |exact fun _=>rfl
  |(
  rw[CU (by assumption) h2]
  exact h2)
  |(exact qB0 (by assumption)))
  |(
 with_reducible apply Side.mk
 (try dsimp only[cu,aC,aB,gts,loK,hiK,eE,eN])
 first
 |done
 |(omega))
  |(conv=>whnf
    first
     |with_reducible first|done|exact trivial|refine NilBr.mk (fun h=>?_) ?_|apply aI|apply aH|refine aJ (by kernel_rfl) ?_|apply aK|apply bB|apply bA|apply aQ
     |((with_reducible first|apply aS|apply aR|apply aZ)<;>intro h<;>(try dsimp only[cu,eE,eN]at h)<;>(try(exfalso;omega)))
     |(
 intro yy (hy:Tag 59/\_)
 obtain⟨(k:Int),(nl:Int),(b1:Bool),(n1:Int),(s1:ByteArray),(b2:Bool),(n2:Int),(s2:ByteArray),_⟩:=yy
 replace hy:=hy.2
 dsimp only[cu,aC,aB,gts,eE,eN]at hy
 obtain⟨hk,hg,hn,h1,h2⟩:=hy)))
 all_goals(
 with_reducible apply Leaf.mk
 (try dsimp only[cu,aC,aB,gts,eE,eN]at *)
 (
  rw[qI,hg,List.drop_eq_nil_of_le (by omega)];rfl))
abbrev qYE:Tbl:=(100,BB)::qYD
theorem qEJ:aD Tryz.prog qYE:=aD.cons qH8 qEI
abbrev wP:Ct:=.fn [.int .i64,.list bP] (some (fun(t:Int) (l:List Val)=>(l.length<=1073741824))) (fun(t:Int) (l:List Val)=>.d kK (qI t l))
theorem ZN:aF Tryz.prog 28 wP:=by
 refine aF.fn qEJ mixed [] [] rfl rfl ?_;rintro⟨(t:Int),(l:List Val),_⟩ hpre;replace hpre:=hpre _ rfl;dsimp only[cu]at hpre;have hl:=hpre;refine⟨[(0,6,LA.mk [.sl 15 (.int .i64),.row 1 [.same,.val (.int .i64),.val .bool,.val (.int .i64),.val .str,.val .bool,.val (.int .i64),.val .str]] (fun y=>Tag 60/\cu [.int .i64,.int .i64,.bool,.int .i64,.str,.bool,.int .i64,.str] (fun(k:Int) (nl:Int) (b1:Bool) (n1:Int) (s1:ByteArray) (b2:Bool) (n2:Int) (s2:ByteArray)=>(0<=k/\k<=l.length)/\(zGo t l (0,gJ,gJ)=zGo t (l.drop k.toNat) (nl,((b1,n1,s1):Val),((b2,n2,s2):Val)))/\(0<=nl/\nl<=k)/\(b1=true->((b1,n1,s1):Val)=gJ)/\(b2=true->((b2,n2,s2):Val)=gJ)) y) (cu [.int .i64,.int .i64,.bool,.int .i64,.str,.bool,.int .i64,.str] (fun(k:Int) (nl:Int) (b1:Bool) (n1:Int) (s1:ByteArray) (b2:Bool) (n2:Int) (s2:ByteArray)=>((l.length:Int)-k).toNat)) (cu [.int .i64,.int .i64,.bool,.int .i64,.str,.bool,.int .i64,.str] (fun(k:Int) (nl:Int) (b1:Bool) (n1:Int) (s1:ByteArray) (b2:Bool) (n2:Int) (s2:ByteArray)=>([]:List (Nat×Nat×LA)))))],?_⟩;repeat' (first
  |(
 with_reducible refine Side.mk ⟨(⟨⟩:Tag 60),?_⟩
 dsimp only[cu,aC,aB,gts,eE,eN]
 refine⟨?_,?_,?_,?_,?_⟩
 ·omega
 ·first
  |rfl
  |(
  rw[hg,yN (by omega),CB,if_pos (by assumption)]
  done)
  |rw[hg,yN (by omega),qE8 (by assumption)]
 ·omega
 ·first
  |exact fun _=>rfl
  |exact h1
  |exact qB0 (by assumption)
 ·first
  |exact fun _=>rfl
  |exact h2
  |(exact qB0 (by assumption)))
  |(
 with_reducible apply Side.mk
 (try dsimp only[cu,aC,aB,gts,loK,hiK,eE,eN])
 first
 |done
 |(omega))
  |(conv=>whnf
    first
     |with_reducible first|done|exact trivial|refine NilBr.mk (fun h=>?_) ?_|apply aI|apply aH|refine aJ (by kernel_rfl) ?_|apply aK|apply bB|apply bA|apply aQ
     |((with_reducible first|apply aS|apply aR|apply aZ)<;>intro h<;>(try dsimp only[cu,eE,eN]at h)<;>(try(exfalso;omega)))
     |(
 intro yy (hy:Tag 60/\_)
 obtain⟨(k:Int),(nl:Int),(b1:Bool),(n1:Int),(s1:ByteArray),(b2:Bool),(n2:Int),(s2:ByteArray),_⟩:=yy
 replace hy:=hy.2
 dsimp only[cu,aC,aB,gts,eE,eN]at hy
 obtain⟨hk,hg,hn,h1,h2⟩:=hy)))
 all_goals(
 with_reducible apply Leaf.mk
 (try dsimp only[cu,aC,aB,gts,eE,eN]at *)
 (
  rw[qI,hg,List.drop_eq_nil_of_le (by omega)];rfl))
abbrev qYF:Tbl:=(28,wP)::qYE
theorem qEK:aD Tryz.prog qYF:=aD.cons ZN qEJ
abbrev KI:Ct:=.fn [.str,.int .i64] (some (fun(s:ByteArray) (a:Int)=>(s.size<=4611686018427387904))) (fun(s:ByteArray) (a:Int)=>.tup [bP,.int .i64,.int .i64] ((dC s a).1,(dC s a).2.1,(dC s a).2.2,()))
theorem qRG:aF Tryz.prog 129 KI:=by
 refine aF.fn qEK mixed [] [] rfl rfl ?_;rintro⟨(s:ByteArray),(a:Int),_⟩ hpre;replace hpre:=hpre _ rfl;dsimp only[cu]at hpre;have hs:=hpre;refine⟨[],?_⟩;repeat' (first
  |(
 with_reducible apply Side.mk
 (try dsimp only[cu,aC,aB,gts,loK,hiK,eE,eN])
 first
 |omega
 |exact aX _ _
 |(
  have hg:=aX s (a+1);have hg2:=aX s (aA s (a+1)).2.1;have o1:=bO (s:=s) (a:=a+1) (by with_reducible assumption);first
  |omega
  |(
   have o2:=bO (s:=s) (a:=(aA s (a+1)).2.1) (by with_reducible assumption);first
   |omega
   |(
    rw[aW (by omega)]at *;omega))))
  |(conv=>whnf
    first
     |with_reducible first|done|exact trivial|refine NilBr.mk (fun h=>?_) ?_|apply aI|apply aH|refine aJ (by kernel_rfl) ?_|apply aK|apply bB|apply bA|apply aQ
     |((with_reducible first|apply aS|apply aR|apply aZ)<;>intro h<;>(try dsimp only[cu,eE,eN]at h)<;>(try(exfalso;omega)))))
 all_goals(
 with_reducible apply Leaf.mk
 (try dsimp only[cu,aC,aB,gts,eE,eN]at *)
 first
 |(
  have hb:=cM s a.toNat;unfold dC;rw[if_neg (by omega),if_neg (by omega),if_pos (by omega)])
 |(
  have hg:=aX s (a+1);have hg2:=aX s (aA s (a+1)).2.1;have o1:=bO (s:=s) (a:=a+1) (by with_reducible assumption);have o2:=bO (s:=s) (a:=(aA s (a+1)).2.1) (by with_reducible assumption);have hw:=aW (n:=(s.size:Int)-(aA s (aA s (a+1)).2.1).2.1) (by omega);simp only[hw]at *;unfold dC;first
  |rw[if_neg (by omega),if_neg (by omega),if_neg (by omega),if_neg (by omega),if_neg (by omega),if_neg (by omega),if_pos (by omega)]
  |(rw[if_neg (by omega),if_neg (by omega),if_neg (by omega),if_neg (by omega),if_neg (by omega),if_neg (by omega),if_neg (by omega)]))
 |(
  unfold dC;first
  |rw[if_pos (by omega)]
  |(rw[if_neg (by omega),if_pos (by omega)]))
 |(grind [dC]))
abbrev qYG:Tbl:=(129,KI)::qYF
theorem qEL:aD Tryz.prog qYG:=aD.cons qRG qEK
abbrev EU:Ct:=.fn [bP] (some (fun(v:Val)=>(inI v.2.1/\v.2.2.size<=1073741824))) (fun(v:Val)=>.d .str (xV v))
theorem qMN:aF Tryz.prog 84 EU:=by
 refine aF.fn qEL mixed [] [] rfl rfl ?_;rintro⟨(v:Val),_⟩ hpre;replace hpre:=hpre _ rfl;dsimp only[cu]at hpre;have hv:=hpre;refine⟨[],?_⟩;repeat' (first
  |(
 with_reducible apply Side.mk
 (try dsimp only[cu,aC,aB,gts,loK,hiK,eE,eN])
 first
 |exact hv.1
 |exact mZ hv.1
 |(
  have p1:=bL (fY v.2.1);have p2:=bL ((v.2.2.size:Int));first
  |(
   rw[aW (by omega)];omega)
  |(
   simp only[ByteArray.size_append,bJ];(try rw[aW (by omega)]);have s1:(⟨#[1]⟩:ByteArray).size=1:=rfl;omega)))
  |(conv=>whnf
    first
     |with_reducible first|done|exact trivial|refine NilBr.mk (fun h=>?_) ?_|apply aI|apply aH|refine aJ (by kernel_rfl) ?_|apply aK|apply bB|apply bA|apply aQ
     |((with_reducible first|apply aS|apply aR|apply aZ)<;>intro h<;>(try dsimp only[cu,eE,eN]at h)<;>(try(exfalso;omega)))))
 all_goals(
 with_reducible apply Leaf.mk
 (try dsimp only[cu,aC,aB,gts,eE,eN]at *)
 first
 |rw[xV,if_pos (by assumption)]
 |(rw[qLS (by assumption),aW (n:=((v.2.2.size:Nat):Int)) (by omega)]))
abbrev qYH:Tbl:=(84,EU)::qYG
theorem qEM:aD Tryz.prog qYH:=aD.cons qMN qEL
abbrev RU:Ct:=.fn [qC,kK] (none) (fun(c:Col) (z:Zone)=>.d .bool (mF c z))
theorem qVB:aF Tryz.prog 128 RU:=by
 refine aF.fn qEM mixed [] [] rfl rfl ?_;rintro⟨(c:Col),(z:Zone),_⟩ -;refine⟨[],?_⟩;repeat' (first
  |(
 with_reducible apply Side.mk
 (try dsimp only[cu,aC,aB,gts,loK,hiK,eE,eN])
 first
 |omega
 |(kernel_rfl))
  |(conv=>whnf
    first
     |with_reducible first|done|exact trivial|refine NilBr.mk (fun h=>?_) ?_|apply aI|apply aH|refine aJ (by kernel_rfl) ?_|apply aK|apply bB|apply bA|apply aQ
     |((with_reducible first|apply aS|apply aR|apply aZ)<;>intro h<;>(try dsimp only[cu,eE,eN]at h)<;>(try(exfalso;omega)))))
 all_goals(
 with_reducible apply Leaf.mk
 (try dsimp only[cu,aC,aB,gts,eE,eN]at *)
 grind [mF,bS])
abbrev qYI:Tbl:=(128,RU)::qYH
theorem qEN:aD Tryz.prog qYI:=aD.cons qVB qEM
abbrev KJ:Ct:=.fn [.str,.int .i64] (some (fun(s:ByteArray) (a:Int)=>(s.size<=4611686018427387904))) (fun(s:ByteArray) (a:Int)=>.tup [kK,.int .i64,.int .i64] ((fE s a).1,(fE s a).2.1,(fE s a).2.2,()))
theorem qRN:aF Tryz.prog 127 KJ:=by
 refine aF.fn qEN mixed [(0,3,2000000)] [] rfl rfl ?_;rintro⟨(s:ByteArray),(a:Int),_⟩ hpre;replace hpre:=hpre _ rfl;dsimp only[cu]at hpre;have hs:=hpre;refine⟨[],?_⟩;repeat' (first
  |(
 with_reducible apply Side.mk
 (try dsimp only[cu,aC,aB,gts,loK,hiK,eE,eN])
 first
 |omega
 |(
  have r1:=aX s a;have r2:=aX s (aA s a).2.1;omega))
  |(conv=>whnf
    first
     |with_reducible first|done|exact trivial|refine NilBr.mk (fun h=>?_) ?_|apply aI|apply aH|refine aJ (by kernel_rfl) ?_|apply aK|apply bB|apply bA|apply aQ
     |((with_reducible first|apply aS|apply aR|apply aZ)<;>intro h<;>(try dsimp only[cu,eE,eN]at h)<;>(try(exfalso;omega)))))
 all_goals(
 with_reducible apply Leaf.mk
 (try dsimp only[cu,aC,aB,gts,eE,eN]at *)
 (
  have r1:=aX s a;have r2:=aX s (aA s a).2.1;(try simp only[qNW _ (by omega)]);grind [fE]))
abbrev qYJ:Tbl:=(127,KJ)::qYI
theorem qEO:aD Tryz.prog qYJ:=aD.cons qRN qEN
abbrev EV:Ct:=.fn [kK] (some (fun(z:Zone)=>(z.1<=4096/\z.2.1<=4096)/\(inI z.2.2.1.2.1/\z.2.2.1.2.2.size<=1073741824)/\(inI z.2.2.2.2.1/\z.2.2.2.2.2.size<=1073741824))) (fun(z:Zone)=>.d .str (uI z))
theorem qMO:aF Tryz.prog 41 EV:=by
 refine aF.fn qEO mixed [] [] rfl rfl ?_;rintro⟨(z:Zone),_⟩ hpre;replace hpre:=hpre _ rfl;dsimp only[cu]at hpre;obtain⟨h1,h2,h3⟩:=hpre;refine⟨[],?_⟩;repeat' (first
  |(
 with_reducible apply Side.mk
 (try dsimp only[cu,aC,aB,gts,loK,hiK,eE,eN])
 first
 |omega
 |(
  have m1:0<=dX 0 z.1/\dX 0 z.1<=4096:=by unfold dX;split<;>omega
  have m2:0<=dX 0 z.2.1/\dX 0 z.2.1<=4096:=by unfold dX;split<;>omega
  first
  |(
   rw[aW (by omega)];omega)
  |(
   have p1:=bL (dX 0 z.1);have p2:=bL (dX 0 z.2.1);have p3:=uB (v:=z.2.2.1);have p4:=uB (v:=z.2.2.2);simp only[aW (n:=dX 0 z.1) (by omega),aW (n:=dX 0 z.2.1) (by omega),ByteArray.size_append,bJ];omega)))
  |(conv=>whnf
    first
     |with_reducible first|done|exact trivial|refine NilBr.mk (fun h=>?_) ?_|apply aI|apply aH|refine aJ (by kernel_rfl) ?_|apply aK|apply bB|apply bA|apply aQ
     |((with_reducible first|apply aS|apply aR|apply aZ)<;>intro h<;>(try dsimp only[cu,eE,eN]at h)<;>(try(exfalso;omega)))))
 all_goals(
 with_reducible apply Leaf.mk
 (try dsimp only[cu,aC,aB,gts,eE,eN]at *)
 (
  have m1:0<=dX 0 z.1/\dX 0 z.1<=4096:=by unfold dX;split<;>omega
  have m2:0<=dX 0 z.2.1/\dX 0 z.2.1<=4096:=by unfold dX;split<;>omega
  rw[uI,aW (n:=dX 0 z.1) (by omega),aW (n:=dX 0 z.2.1) (by omega)]))
abbrev qYK:Tbl:=(41,EV)::qYJ
theorem qEP:aD Tryz.prog qYK:=aD.cons qMO qEO
def lZ (s:Schema) (row:List Val):Int:=if row.length≠s.1.length then 1 else bM (fun i v=>bQ s.1[i.toNat]! v) 0 row
abbrev oD:Rank:=((false,0,⟨#[]⟩),0)
def fK (s:Schema) (r:Rec):Rank:=if s.2<0\/s.2>=r.2.length then oD else(r.2[s.2.toNat]!,r.1)
def lH (t:Int) (a b:Rank):Int:=if fC t a.1 b.1≠0 then fC t a.1 b.1 else nM a.2 b.2
def mJ (s:Schema) (r:Rec):Bool:=decide (0<=r.1)&&decide (r.1<=1099511627776)&&decide (lZ s r.2=0)
def cU (s:Schema) (l:List Rec):Bool:=decide (aT s=0)&&l.all (mJ s)
def nP (s:Schema) (a b:Rec):Int:=lH s.1[s.2.toNat]!.2.1 (fK s a) (fK s b)
def qI0 (s:Schema) (l:List Rec):Bool:=(List.range (l.length-1)).all fun i=>decide (nP s l[i]! l[i+1]! <0)
def cX (s:Schema) (l:List Rec):Bool:=cU s l&&qI0 s l
theorem dH {s:Schema} {l:List Rec} (h:cU s l=true):aT s=0/\∀i:Nat,i<l.length->lZ s l[i]!.2=0:=by
 simp only[cU,Bool.and_eq_true,decide_eq_true_eq,List.all_eq_true]at h;refine⟨h.1,fun i hi=>?_⟩;have q:=h.2 l[i]! (by rw[getElem!_pos l i hi];exact List.getElem_mem hi);simp only[mJ,Bool.and_eq_true,decide_eq_true_eq]at q;exact q.2
theorem kH {b:Bool} (h:(!b)=false):b=true:=by cases b;cases h;rfl
theorem YW {b:Bool} (h:(!b)=true):b=false:=by cases b;rfl;cases h
def orI:List Int->Int
 | []=>0
 |x::l=>if x≠0 then x else orI l
theorem aY {s:Schema} (h:aT s=0):s.1.length<=12/\0<=s.2/\s.2<s.1.length:=by
 unfold aT at h;split at h
 ·cases h
 split at h
 ·cases h
 split at h
 ·contradiction
 split at h
 ·cases h
 ·omega
theorem qS4 {i n:Nat} {k:Int} (h:i<n) (hk:¬k<n):i<k.toNat:=by omega
theorem qRQ {s:Schema} {l:List Rec} {k:Int} (h:1<=k/\k<l.length) (hn:nP s l[(k-1).toNat]! l[k.toNat]! >=0):qI0 s l=false:=by
 rw[qI0,List.all_eq_false];refine⟨(k-1).toNat,by rw[List.mem_range];omega,?_⟩;rw[show(k-1).toNat+1=k.toNat by omega,decide_eq_true_eq];omega
theorem qRR {s:Schema} {l:List Rec} (h:∀i:Nat,1<=i->i<l.length->nP s l[i-1]! l[i]! <0):qI0 s l=true:=by
 rw[qI0,List.all_eq_true];intro i hi;rw[List.mem_range]at hi;rw[decide_eq_true_eq];exact h (i+1) (by omega) (by omega)
def nL (s:Schema) (r:Rec) (l:List Rec):Nat->Nat
 |0=>0
 |n+1=>if nP s r l[n]! <0 then nL s r l n else n+1
theorem qKT (s:Schema) (r:Rec) (l:List Rec) (n:Nat):nL s r l n<=n:=by
 induction n with
 |zero=>exact Nat.le_refl _
 |succ n ih=>rw[nL];split<;>omega
theorem qKS {s:Schema} {r:Rec} {l:List Rec} {k:Int} (h:k>0) (ho:nP s r l[(k-1).toNat]! <0):nL s r l k.toNat=nL s r l (k-1).toNat:=by
 obtain⟨n,rfl⟩:∃n:Nat,k=(n:Int)+1:=⟨(k-1).toNat,by omega⟩
 rw[show((n:Int)+1).toNat=n+1 by omega,show((n:Int)+1-1).toNat=n by omega]at *;rw[nL,if_pos ho]
theorem YK {s:Schema} {r:Rec} {l:List Rec} {k:Int} (h:k>0) (ho:¬nP s r l[(k-1).toNat]! <0):nL s r l k.toNat=k.toNat:=by
 obtain⟨n,rfl⟩:∃n:Nat,k=(n:Int)+1:=⟨(k-1).toNat,by omega⟩
 rw[show((n:Int)+1).toNat=n+1 by omega,show((n:Int)+1-1).toNat=n by omega]at *;rw[nL,if_neg ho]
def jP (s:Schema) (o:List Rec) (r:Rec):List Rec:=o.take (nL s r o o.length)++ [r]++o.drop (nL s r o o.length)
theorem FV (s:Schema) (o:List Rec) (r:Rec):(jP s o r).length=o.length+1:=by
 have:=qKT s r o o.length;simp only[jP,List.length_append,List.length_take,List.length_drop,List.length_cons,List.length_nil];omega
theorem qKR {s:Schema} {r:Rec} {l:List Rec} {j:Int} (h:nL s r l l.length=nL s r l j.toNat) (h0:0<=j) (hs:¬j>0\/¬nP s r l[(j-1).toNat]! <0):nL s r l l.length=j.toNat:=by
 by_cases q:j>0
 ·rcases hs with hs|hs
  ·exact absurd q hs
  ·exact h.trans (YK q hs)
 ·rw[h,show j.toNat=0 by omega];rfl
theorem yJ {α:Type} (l:List α) (a n:Nat):QJ l a n=(l.drop a).take n:=by cases a<;>rfl
theorem qCD {α:Type} (l:List α) (a n:Nat):(QJ l a n).length=min n (l.length-a):=by rw[yJ,List.length_take,List.length_drop]
theorem MY {α:Type} (l:List α) (j:Int) (h:0<=j/\j<=l.length):QJ l j.toNat ((l.length:Int)-j).toNat=l.drop j.toNat:=by rw[yJ,List.take_of_length_le (by rw[List.length_drop];omega)]
theorem qVY {O:List Rec} {x:Rec} {j:Int} (h:j=O.length):QJ O 0 j.toNat++ [x]++ []=O.take j.toNat++ [x]++O.drop j.toNat:=by rw[yJ,List.drop_zero,List.drop_eq_nil_of_le (by omega)]
theorem qVZ {O:List Rec} {x:Rec} {j:Int} (h:0<=j/\j<=O.length):QJ O 0 j.toNat++ [x]++QJ O j.toNat ((O.length:Int)-j).toNat=O.take j.toNat++ [x]++O.drop j.toNat:=by rw[yJ,List.drop_zero,MY O j h]
theorem qV0 {O:List Rec} {x:Rec} {j:Int} (h:O.length=0) (hj:0<=j/\j<=O.length):[x]++ []=O.take j.toNat++ [x]++O.drop j.toNat:=by rw[List.drop_eq_nil_of_le (by omega),show j.toNat=0 by omega];rfl
theorem qV1 {O:List Rec} {x:Rec} {j:Int} (hj:0<=j/\j<=O.length) (h:j<=0):[x]++QJ O j.toNat ((O.length:Int)-j).toNat=O.take j.toNat++ [x]++O.drop j.toNat:=by rw[MY O j hj,show j.toNat=0 by omega];rfl
def BW (s:Schema) (l:List Rec):List Rec:=if cU s l=true then l.foldl (jP s) []else[]
abbrev uQ:Ct:=.fn [bW,.list bP] (some (fun(s:Schema) (row:List Val)=>(s.1.length<=12))) (fun(s:Schema) (row:List Val)=>.d (.int .i64) (lZ s row))
theorem SA:aF Tryz.prog 118 uQ:=by
 refine aF.fn qEP mixed [] [] rfl rfl ?_;rintro⟨(s:Schema),(row:List Val),_⟩ hpre;replace hpre:=hpre _ rfl;dsimp only[cu]at hpre;have hs:=hpre;refine⟨[(0,8,LA.mk [.sl 16 (.int .i64)] (fun y=>Tag 61/\cu [.int .i64] (fun(k:Int)=>(0<=k/\k<=row.length)/\(bM (fun i v=>bQ s.1[i.toNat]! v) 0 row=bM (fun i v=>bQ s.1[i.toNat]! v) k (row.drop k.toNat))) y) (cu [.int .i64] (fun(k:Int)=>((row.length:Int)-k).toNat)) (cu [.int .i64] (fun(k:Int)=>([]:List (Nat×Nat×LA)))))],?_⟩;repeat' (first
  |(
 with_reducible refine Side.mk ⟨(⟨⟩:Tag 61),?_⟩
 dsimp only[cu,aC,aB,gts,eE,eN]
 refine⟨?_,?_⟩
 ·omega
 ·first
  |simp;done
  |(
  rw[bH _ _ (by omega)]at hr
  rw[hr,bM,if_pos (by assumption)]))
  |(
 with_reducible apply Side.mk
 (try dsimp only[cu,aC,aB,gts,loK,hiK,eE,eN])
 omega)
  |(conv=>whnf
    first
     |with_reducible first|done|exact trivial|refine NilBr.mk (fun h=>?_) ?_|apply aI|apply aH|refine aJ (by kernel_rfl) ?_|apply aK|apply bB|apply bA|apply aQ
     |((with_reducible first|apply aS|apply aR|apply aZ)<;>intro h<;>(try dsimp only[cu,eE,eN]at h)<;>(try(exfalso;omega)))
     |(
 intro yy (hy:Tag 61/\_)
 obtain⟨(k:Int),_⟩:=yy
 replace hy:=hy.2
 dsimp only[cu,aC,aB,gts,eE,eN]at hy
 obtain⟨hk,hr⟩:=hy)))
 all_goals(
 with_reducible apply Leaf.mk
 (try dsimp only[cu,aC,aB,gts,eE,eN]at *)
 first
 |grind [lZ]
 |(
  rw[bH _ _ (by omega),bM]at hr;grind [lZ])
 |(
  rw[lN _ _ (by omega)]at hr;grind [lZ,bM]))
abbrev qYL:Tbl:=(118,uQ)::qYK
theorem qEQ:aD Tryz.prog qYL:=aD.cons SA qEP
abbrev IU:Ct:=.fn [bW,.list bP] (some (fun(s:Schema) (row:List Val)=>(s.1.length<=12))) (fun(s:Schema) (row:List Val)=>.d (.int .i64) (lZ s row))
theorem qOC:aF Tryz.prog 137 IU:=by
 refine aF.fn qEQ mixed [] [] rfl rfl ?_;rintro⟨(s:Schema),(row:List Val),_⟩ hpre;replace hpre:=hpre _ rfl;dsimp only[cu]at hpre;have hs:=hpre;refine⟨[(0,8,LA.mk [.sl 16 (.int .i64)] (fun y=>Tag 62/\cu [.int .i64] (fun(k:Int)=>(0<=k/\k<=row.length)/\(bM (fun i v=>bQ s.1[i.toNat]! v) 0 row=bM (fun i v=>bQ s.1[i.toNat]! v) k (row.drop k.toNat))) y) (cu [.int .i64] (fun(k:Int)=>((row.length:Int)-k).toNat)) (cu [.int .i64] (fun(k:Int)=>([]:List (Nat×Nat×LA)))))],?_⟩;repeat' (first
  |(
 with_reducible refine Side.mk ⟨(⟨⟩:Tag 62),?_⟩
 dsimp only[cu,aC,aB,gts,eE,eN]
 refine⟨?_,?_⟩
 ·omega
 ·first
  |simp;done
  |(
  rw[bH _ _ (by omega)]at hr
  rw[hr,bM,if_pos (by assumption)]))
  |(
 with_reducible apply Side.mk
 (try dsimp only[cu,aC,aB,gts,loK,hiK,eE,eN])
 omega)
  |(conv=>whnf
    first
     |with_reducible first|done|exact trivial|refine NilBr.mk (fun h=>?_) ?_|apply aI|apply aH|refine aJ (by kernel_rfl) ?_|apply aK|apply bB|apply bA|apply aQ
     |((with_reducible first|apply aS|apply aR|apply aZ)<;>intro h<;>(try dsimp only[cu,eE,eN]at h)<;>(try(exfalso;omega)))
     |(
 intro yy (hy:Tag 62/\_)
 obtain⟨(k:Int),_⟩:=yy
 replace hy:=hy.2
 dsimp only[cu,aC,aB,gts,eE,eN]at hy
 obtain⟨hk,hr⟩:=hy)))
 all_goals(
 with_reducible apply Leaf.mk
 (try dsimp only[cu,aC,aB,gts,eE,eN]at *)
 first
 |grind [lZ]
 |(
  rw[bH _ _ (by omega),bM]at hr;grind [lZ])
 |(
  rw[lN _ _ (by omega)]at hr;grind [lZ,bM]))
abbrev qYM:Tbl:=(137,IU)::qYL
theorem qER:aD Tryz.prog qYM:=aD.cons qOC qEQ
abbrev EQ:Ct:=.fn [bW,fO] (none) (fun(s:Schema) (r:Rec)=>.d tB (fK s r))
theorem qMH:aF Tryz.prog 30 EQ:=by
 refine aF.fn qER mixed [] [] rfl rfl ?_;rintro⟨(s:Schema),(r:Rec),_⟩ -;refine⟨[],?_⟩;repeat' (first
  |(
 with_reducible apply Side.mk
 (try dsimp only[cu,aC,aB,gts,loK,hiK,eE,eN])
 omega)
  |(conv=>whnf
    first
     |with_reducible first|done|exact trivial|refine NilBr.mk (fun h=>?_) ?_|apply aI|apply aH|refine aJ (by kernel_rfl) ?_|apply aK|apply bB|apply bA|apply aQ
     |((with_reducible first|apply aS|apply aR|apply aZ)<;>intro h<;>(try dsimp only[cu,eE,eN]at h)<;>(try(exfalso;omega)))))
 all_goals(
 with_reducible apply Leaf.mk
 (try dsimp only[cu,aC,aB,gts,eE,eN]at *)
 first
 |rw[fK,if_pos (by omega)]
 |(rw[fK,if_neg (by omega)]))
abbrev qYN:Tbl:=(30,EQ)::qYM
theorem qES:aD Tryz.prog qYN:=aD.cons qMH qER
abbrev DS:Ct:=.fn [bW,fO] (none) (fun(s:Schema) (r:Rec)=>.d tB (fK s r))
theorem qI7:aF Tryz.prog 98 DS:=by
 refine aF.fn qES mixed [] [] rfl rfl ?_;rintro⟨(s:Schema),(r:Rec),_⟩ -;refine⟨[],?_⟩;repeat' (first
  |(
 with_reducible apply Side.mk
 (try dsimp only[cu,aC,aB,gts,loK,hiK,eE,eN])
 omega)
  |(conv=>whnf
    first
     |with_reducible first|done|exact trivial|refine NilBr.mk (fun h=>?_) ?_|apply aI|apply aH|refine aJ (by kernel_rfl) ?_|apply aK|apply bB|apply bA|apply aQ
     |((with_reducible first|apply aS|apply aR|apply aZ)<;>intro h<;>(try dsimp only[cu,eE,eN]at h)<;>(try(exfalso;omega)))))
 all_goals(
 with_reducible apply Leaf.mk
 (try dsimp only[cu,aC,aB,gts,eE,eN]at *)
 first
 |rw[fK,if_pos (by omega)]
 |(rw[fK,if_neg (by omega)]))
abbrev qYO:Tbl:=(98,DS)::qYN
theorem qET:aD Tryz.prog qYO:=aD.cons qI7 qES
abbrev ER:Ct:=.fn [.int .i64,tB,tB] (none) (fun(t:Int) (a:Rank) (b:Rank)=>.d (.int .i64) (lH t a b))
theorem qMI:aF Tryz.prog 78 ER:=by
 refine aF.fn qET mixed [] [] rfl rfl ?_;rintro⟨(t:Int),(a:Rank),(b:Rank),_⟩ -;refine⟨[],?_⟩;repeat' (first
  |(
 with_reducible apply Side.mk
 (try dsimp only[cu,aC,aB,gts,loK,hiK,eE,eN])
 done)
  |(conv=>whnf
    first
     |with_reducible first|done|exact trivial|refine NilBr.mk (fun h=>?_) ?_|apply aI|apply aH|refine aJ (by kernel_rfl) ?_|apply aK|apply bB|apply bA|apply aQ
     |((with_reducible first|apply aS|apply aR|apply aZ)<;>intro h<;>(try dsimp only[cu,eE,eN]at h)<;>(try(exfalso;omega)))))
 all_goals(
 with_reducible apply Leaf.mk
 (try dsimp only[cu,aC,aB,gts,eE,eN]at *)
 grind [lH,nM])
abbrev qYP:Tbl:=(78,ER)::qYO
theorem qEU:aD Tryz.prog qYP:=aD.cons qMI qET
abbrev RK:Ct:=.fn [.list (.int .i64)] (some (fun(l:List Int)=>(l.length<=9223372036854775807))) (fun(l:List Int)=>.d (.int .i64) (orI l))
theorem qUG:aF Tryz.prog 130 RK:=by
 refine aF.fn qEU mixed [] [] rfl rfl ?_;rintro⟨(l:List Int),_⟩ hpre;replace hpre:=hpre _ rfl;dsimp only[cu]at hpre;have hl:=hpre;refine⟨[(0,6,LA.mk [.sl 8 (.int .i64)] (fun y=>Tag 63/\cu [.int .i64] (fun(k:Int)=>(0<=k/\k<=l.length)/\(orI l=orI (l.drop k.toNat))) y) (cu [.int .i64] (fun(k:Int)=>((l.length:Int)-k).toNat)) (cu [.int .i64] (fun(k:Int)=>([]:List (Nat×Nat×LA)))))],?_⟩;repeat' (first
  |(
 with_reducible refine Side.mk ⟨(⟨⟩:Tag 63),?_⟩
 dsimp only[cu,aC,aB,gts,eE,eN]
 refine⟨?_,?_⟩
 ·omega
 ·first
  |rfl
  |(
  rw[bH _ _ (by omega),orI,if_neg (fun q=>q (by assumption))]at hz
  exact hz))
  |(
 with_reducible apply Side.mk
 (try dsimp only[cu,aC,aB,gts,loK,hiK,eE,eN])
 omega)
  |(conv=>whnf
    first
     |with_reducible first|done|exact trivial|refine NilBr.mk (fun h=>?_) ?_|apply aI|apply aH|refine aJ (by kernel_rfl) ?_|apply aK|apply bB|apply bA|apply aQ
     |((with_reducible first|apply aS|apply aR|apply aZ)<;>intro h<;>(try dsimp only[cu,eE,eN]at h)<;>(try(exfalso;omega)))
     |(
 intro yy (hy:Tag 63/\_)
 obtain⟨(k:Int),_⟩:=yy
 replace hy:=hy.2
 dsimp only[cu,aC,aB,gts,eE,eN]at hy
 obtain⟨hk,hz⟩:=hy)))
 all_goals(
 with_reducible apply Leaf.mk
 (try dsimp only[cu,aC,aB,gts,eE,eN]at *)
 first
 |rw[hz,bH _ _ (by omega),orI,if_pos (by assumption)]
 |(
  rw[hz,lN _ _ (by omega)];rfl))
abbrev qYQ:Tbl:=(130,RK)::qYP
theorem qEV:aD Tryz.prog qYQ:=aD.cons qUG qEU
abbrev DT:Ct:=.fn [.int .i64,tB,tB] (none) (fun(t:Int) (a:Rank) (b:Rank)=>.d (.int .i64) (lH t a b))
theorem qI8:aF Tryz.prog 94 DT:=by
 refine aF.fn qEV mixed [] [] rfl rfl ?_;rintro⟨(t:Int),(a:Rank),(b:Rank),_⟩ -;refine⟨[],?_⟩;repeat' (first
  |(
 with_reducible apply Side.mk
 (try dsimp only[cu,aC,aB,gts,loK,hiK,eE,eN])
 (simp only[List.length_append,List.length_cons,List.length_nil];omega))
  |(conv=>whnf
    first
     |with_reducible first|done|exact trivial|refine NilBr.mk (fun h=>?_) ?_|apply aI|apply aH|refine aJ (by kernel_rfl) ?_|apply aK|apply bB|apply bA|apply aQ
     |((with_reducible first|apply aS|apply aR|apply aZ)<;>intro h<;>(try dsimp only[cu,eE,eN]at h)<;>(try(exfalso;omega)))))
 all_goals(
 with_reducible apply Leaf.mk
 (try dsimp only[cu,aC,aB,gts,eE,eN]at *)
 (
  simp only[orI,lH];grind))
abbrev qYR:Tbl:=(94,DT)::qYQ
theorem qEW:aD Tryz.prog qYR:=aD.cons qI8 qEV
abbrev AT:Ct:=.fn [bW,fO,fO] (some (fun(s:Schema) (a:Rec) (b:Rec)=>(0<=s.2/\s.2<s.1.length))) (fun(s:Schema) (a:Rec) (b:Rec)=>.d (.int .i64) (nP s a b))
theorem qG9:aF Tryz.prog 97 AT:=by
 refine aF.fn qEW mixed [] [] rfl rfl ?_;rintro⟨(s:Schema),(a:Rec),(b:Rec),_⟩ hpre;replace hpre:=hpre _ rfl;dsimp only[cu]at hpre;have hk:=hpre;refine⟨[],?_⟩;repeat' (first
  |(
 with_reducible apply Side.mk
 (try dsimp only[cu,aC,aB,gts,loK,hiK,eE,eN])
 omega)
  |(conv=>whnf
    first
     |with_reducible first|done|exact trivial|refine NilBr.mk (fun h=>?_) ?_|apply aI|apply aH|refine aJ (by kernel_rfl) ?_|apply aK|apply bB|apply bA|apply aQ
     |((with_reducible first|apply aS|apply aR|apply aZ)<;>intro h<;>(try dsimp only[cu,eE,eN]at h)<;>(try(exfalso;omega)))))
 all_goals(
 with_reducible apply Leaf.mk
 (try dsimp only[cu,aC,aB,gts,eE,eN]at *)
 rfl)
abbrev qYS:Tbl:=(97,AT)::qYR
theorem qEX:aD Tryz.prog qYS:=aD.cons qG9 qEW
abbrev wG:Ct:=.fn [bW] (some (fun(s:Schema)=>(0<=s.2/\s.2<s.1.length))) (fun(s:Schema)=>.d (.int .i64) (s.1[s.2.toNat]!.2.1))
theorem YQ:aF Tryz.prog 79 wG:=by
 refine aF.fn qEX mixed [] [] rfl rfl ?_;rintro⟨(s:Schema),_⟩ hpre;replace hpre:=hpre _ rfl;dsimp only[cu]at hpre;have hk:=hpre;refine⟨[],?_⟩;repeat' (first
  |(
 with_reducible apply Side.mk
 (try dsimp only[cu,aC,aB,gts,loK,hiK,eE,eN])
 omega)
  |(conv=>whnf
    first
     |with_reducible first|done|exact trivial|refine NilBr.mk (fun h=>?_) ?_|apply aI|apply aH|refine aJ (by kernel_rfl) ?_|apply aK|apply bB|apply bA|apply aQ
     |((with_reducible first|apply aS|apply aR|apply aZ)<;>intro h<;>(try dsimp only[cu,eE,eN]at h)<;>(try(exfalso;omega)))))
 all_goals(
 with_reducible apply Leaf.mk
 (try dsimp only[cu,aC,aB,gts,eE,eN]at *)
 done)
abbrev qYT:Tbl:=(79,wG)::qYS
theorem qEY:aD Tryz.prog qYT:=aD.cons YQ qEX
abbrev AV:Ct:=.fn [bW,.list fO] (some (fun(s:Schema) (l:List Rec)=>(l.length<=9223372036854775807))) (fun(s:Schema) (l:List Rec)=>.d .bool (cU s l))
theorem qHD:aF Tryz.prog 77 AV:=by
 refine aF.fn qEY mixed [] [] rfl rfl ?_;rintro⟨(s:Schema),(l:List Rec),_⟩ hpre;replace hpre:=hpre _ rfl;dsimp only[cu]at hpre;have hl:=hpre;refine⟨[(0,8,LA.mk [.sl 12 (.int .i64)] (fun y=>Tag 64/\cu [.int .i64] (fun(k:Int)=>(0<=k/\k<=l.length)/\(l.all (mJ s)=(l.drop k.toNat).all (mJ s))) y) (cu [.int .i64] (fun(k:Int)=>((l.length:Int)-k).toNat)) (cu [.int .i64] (fun(k:Int)=>([]:List (Nat×Nat×LA)))))],?_⟩;repeat' (first
  |(
 with_reducible refine Side.mk ⟨(⟨⟩:Tag 64),?_⟩
 dsimp only[cu,aC,aB,gts,eE,eN]
 refine⟨?_,?_⟩
 ·omega
 ·first
  |simp;done
  |(
  rw[bH _ _ (by omega)]at hv
  rw[hv,List.all_cons,show mJ s l[k.toNat]! =true by grind [mJ],Bool.true_and]))
  |(
 with_reducible apply Side.mk
 (try dsimp only[cu,aC,aB,gts,loK,hiK,eE,eN])
 first
 |omega
 |(have:=(aY (s:=s) (by assumption)).1;omega))
  |(conv=>whnf
    first
     |with_reducible first|done|exact trivial|refine NilBr.mk (fun h=>?_) ?_|apply aI|apply aH|refine aJ (by kernel_rfl) ?_|apply aK|apply bB|apply bA|apply aQ
     |((with_reducible first|apply aS|apply aR|apply aZ)<;>intro h<;>(try dsimp only[cu,eE,eN]at h)<;>(try(exfalso;omega)))
     |(
 intro yy (hy:Tag 64/\_)
 obtain⟨(k:Int),_⟩:=yy
 replace hy:=hy.2
 dsimp only[cu,aC,aB,gts,eE,eN]at hy
 obtain⟨hk,hv⟩:=hy)))
 all_goals(
 with_reducible apply Leaf.mk
 (try dsimp only[cu,aC,aB,gts,eE,eN]at *)
 first
 |(
  rw[cU,decide_eq_false (by assumption)];rfl)
 |(
  rw[bH _ _ (by omega)]at hv;rw[cU,hv,List.all_cons,show mJ s l[k.toNat]! =false by grind [mJ]];simp;done)
 |(
  rw[lN _ _ (by omega)]at hv;rw[cU,hv];simp_all))
abbrev qYU:Tbl:=(77,AV)::qYT
theorem qEZ:aD Tryz.prog qYU:=aD.cons qHD qEY
abbrev AG:Ct:=.fn [bW,.list fO] (some (fun(s:Schema) (l:List Rec)=>(l.length<=9223372036854775807))) (fun(s:Schema) (l:List Rec)=>.d .bool (cU s l))
theorem qFW:aF Tryz.prog 96 AG:=by
 refine aF.fn qEZ mixed [] [135,167,136] rfl rfl ?_;rintro⟨(s:Schema),(l:List Rec),_⟩ hpre;replace hpre:=hpre _ rfl;dsimp only[cu]at hpre;have hl:=hpre;refine⟨[(167,4,LA.mk [.sl 8 (.int .i64)] (fun y=>Tag 65/\cu [.int .i64] (fun(k:Int)=>(0<=k/\k<=l.length)/\(l.all (mJ s)=(l.drop k.toNat).all (mJ s))) y) (cu [.int .i64] (fun(k:Int)=>((l.length:Int)-k).toNat)) (cu [.int .i64] (fun(k:Int)=>([]:List (Nat×Nat×LA)))))],?_⟩;repeat' (first
  |(
 with_reducible refine Side.mk ⟨(⟨⟩:Tag 65),?_⟩
 dsimp only[cu,aC,aB,gts,eE,eN]
 refine⟨?_,?_⟩
 ·omega
 ·first
  |simp;done
  |(
  rw[bH _ _ (by omega)]at hv
  rw[hv,List.all_cons,show mJ s l[k.toNat]! =true by grind [mJ],Bool.true_and]))
  |(
 with_reducible apply Side.mk
 (try dsimp only[cu,aC,aB,gts,loK,hiK,eE,eN])
 first
 |omega
 |(have:=(aY (s:=s) (by assumption)).1;omega))
  |(conv=>whnf
    first
     |with_reducible first|done|exact trivial|refine NilBr.mk (fun h=>?_) ?_|apply aI|apply aH|refine aJ (by kernel_rfl) ?_|apply aK|apply bB|apply bA|apply aQ
     |((with_reducible first|apply aS|apply aR|apply aZ)<;>intro h<;>(try dsimp only[cu,eE,eN]at h)<;>(try(exfalso;omega)))
     |(
 intro yy (hy:Tag 65/\_)
 obtain⟨(k:Int),_⟩:=yy
 replace hy:=hy.2
 dsimp only[cu,aC,aB,gts,eE,eN]at hy
 obtain⟨hk,hv⟩:=hy)))
 all_goals(
 with_reducible apply Leaf.mk
 (try dsimp only[cu,aC,aB,gts,eE,eN]at *)
 first
 |(
  rw[cU,decide_eq_false (by assumption)];rfl)
 |(
  rw[bH _ _ (by omega)]at hv;rw[cU,hv,List.all_cons,show mJ s l[k.toNat]! =false by grind [mJ]];simp;omega)
 |(
  rw[lN _ _ (by omega)]at hv;rw[cU,hv];simp_all))
abbrev qR3:Tbl:=(96,AG)::qYU
theorem UV:aD Tryz.prog qR3:=aD.cons qFW qEZ
abbrev wO:Ct:=.fn [bW,.list fO] (some (fun(s:Schema) (l:List Rec)=>(l.length<=1099511627776))) (fun(s:Schema) (l:List Rec)=>.d .bool (cX s l))
theorem ZM:aF Tryz.prog 38 wO:=by
 refine aF.fn UV mixed [] [] rfl rfl ?_;rintro⟨(s:Schema),(l:List Rec),_⟩ hpre;replace hpre:=hpre _ rfl;dsimp only[cu]at hpre;have hl:=hpre;refine⟨[(0,8,LA.mk [.sl 5 (.int .i64)] (fun y=>Tag 66/\cu [.int .i64] (fun(k:Int)=>(1<=k/\(k<=l.length\/k=1))/\(∀i:Nat,1<=i->i<k.toNat->nP s l[i-1]! l[i]! <0)) y) (cu [.int .i64] (fun(k:Int)=>((l.length:Int)-k).toNat)) (cu [.int .i64] (fun(k:Int)=>([]:List (Nat×Nat×LA)))))],?_⟩;repeat' (first
  |(
 with_reducible refine Side.mk ⟨(⟨⟩:Tag 66),?_⟩
 dsimp only[cu,aC,aB,gts,eE,eN]
 refine⟨?_,?_⟩
 ·omega
 ·first
  |intro i h1 h2;omega
  |(
  intro i h1 h2
  by_cases q:i<k.toNat
  ·exact ha i h1 q
  ·have e:i=k.toNat:=by omega
   subst e;rw[show k.toNat-1=(k-1).toNat by omega];unfold nP;omega))
  |(
 with_reducible apply Side.mk
 (try dsimp only[cu,aC,aB,gts,loK,hiK,eE,eN])
 first
 |omega
 |(exact(aY (dH (s:=s) (l:=l) (kH (by assumption))).1).2))
  |(conv=>whnf
    first
     |with_reducible first|done|exact trivial|refine NilBr.mk (fun h=>?_) ?_|apply aI|apply aH|refine aJ (by kernel_rfl) ?_|apply aK|apply bB|apply bA|apply aQ
     |((with_reducible first|apply aS|apply aR|apply aZ)<;>intro h<;>(try dsimp only[cu,eE,eN]at h)<;>(try(exfalso;omega)))
     |(
 intro yy (hy:Tag 66/\_)
 obtain⟨(k:Int),_⟩:=yy
 replace hy:=hy.2
 dsimp only[cu,aC,aB,gts,eE,eN]at hy
 obtain⟨hk,ha⟩:=hy)))
 all_goals(
 with_reducible apply Leaf.mk
 (try dsimp only[cu,aC,aB,gts,eE,eN]at *)
 first
 |(
  rw[cX,YW (b:=cU s l) (by assumption)];rfl)
 |(
  have q:=qRQ (s:=s) (l:=l) (k:=k) (by omega) (by assumption);rw[cX,q,Bool.and_false])
 |(
  have q:=qRR (s:=s) (l:=l) (fun i h1 h2=>ha i h1 (qS4 h2 (by omega)));rw[cX,q,kH (b:=cU s l) (by assumption)];rfl))
abbrev qR4:Tbl:=(38,wO)::qR3
theorem UW:aD Tryz.prog qR4:=aD.cons ZM UV
abbrev wD:Ct:=.fn [bW,.list fO] (some (fun(s:Schema) (l:List Rec)=>(l.length<=1099511627776))) (fun(s:Schema) (l:List Rec)=>.d .bool (cX s l))
theorem XC:aF Tryz.prog 50 wD:=by
 refine aF.fn UW mixed [] [] rfl rfl ?_;rintro⟨(s:Schema),(l:List Rec),_⟩ hpre;replace hpre:=hpre _ rfl;dsimp only[cu]at hpre;have hl:=hpre;refine⟨[(0,8,LA.mk [.sl 5 (.int .i64)] (fun y=>Tag 67/\cu [.int .i64] (fun(k:Int)=>(1<=k/\(k<=l.length\/k=1))/\(∀i:Nat,1<=i->i<k.toNat->nP s l[i-1]! l[i]! <0)) y) (cu [.int .i64] (fun(k:Int)=>((l.length:Int)-k).toNat)) (cu [.int .i64] (fun(k:Int)=>([]:List (Nat×Nat×LA)))))],?_⟩;repeat' (first
  |(
 with_reducible refine Side.mk ⟨(⟨⟩:Tag 67),?_⟩
 dsimp only[cu,aC,aB,gts,eE,eN]
 refine⟨?_,?_⟩
 ·omega
 ·first
  |intro i h1 h2;omega
  |(
  intro i h1 h2
  by_cases q:i<k.toNat
  ·exact ha i h1 q
  ·have e:i=k.toNat:=by omega
   subst e;rw[show k.toNat-1=(k-1).toNat by omega];omega))
  |(
 with_reducible apply Side.mk
 (try dsimp only[cu,aC,aB,gts,loK,hiK,eE,eN])
 first
 |omega
 |(exact(aY (dH (s:=s) (l:=l) (kH (by assumption))).1).2))
  |(conv=>whnf
    first
     |with_reducible first|done|exact trivial|refine NilBr.mk (fun h=>?_) ?_|apply aI|apply aH|refine aJ (by kernel_rfl) ?_|apply aK|apply bB|apply bA|apply aQ
     |((with_reducible first|apply aS|apply aR|apply aZ)<;>intro h<;>(try dsimp only[cu,eE,eN]at h)<;>(try(exfalso;omega)))
     |(
 intro yy (hy:Tag 67/\_)
 obtain⟨(k:Int),_⟩:=yy
 replace hy:=hy.2
 dsimp only[cu,aC,aB,gts,eE,eN]at hy
 obtain⟨hk,ha⟩:=hy)))
 all_goals(
 with_reducible apply Leaf.mk
 (try dsimp only[cu,aC,aB,gts,eE,eN]at *)
 first
 |(
  rw[cX,YW (b:=cU s l) (by assumption)];rfl)
 |(
  have q:=qRQ (s:=s) (l:=l) (k:=k) (by omega) (by assumption);rw[cX,q,Bool.and_false])
 |(
  have q:=qRR (s:=s) (l:=l) (fun i h1 h2=>ha i h1 (qS4 h2 (by omega)));rw[cX,q,kH (b:=cU s l) (by assumption)];rfl))
abbrev qR5:Tbl:=(50,wD)::qR4
theorem UX:aD Tryz.prog qR5:=aD.cons XC UW
abbrev wQ:Ct:=.fn [fO,fO] (some (fun(a:Rec) (b:Rec)=>(a.2.length<=9223372036854775807))) (fun(a:Rec) (b:Rec)=>.d .bool (decide (a=b)))
theorem ZR:aF Tryz.prog 76 wQ:=by
 refine aF.fn UX mixed [] [] rfl rfl ?_;rintro⟨(a:Rec),(b:Rec),_⟩ hpre;replace hpre:=hpre _ rfl;dsimp only[cu]at hpre;have ha:=hpre;refine⟨[],?_⟩;repeat' (first
  |(
 with_reducible apply Side.mk
 (try dsimp only[cu,aC,aB,gts,loK,hiK,eE,eN])
 omega)
  |(conv=>whnf
    first
     |with_reducible first|done|exact trivial|refine NilBr.mk (fun h=>?_) ?_|apply aI|apply aH|refine aJ (by kernel_rfl) ?_|apply aK|apply bB|apply bA|apply aQ
     |((with_reducible first|apply aS|apply aR|apply aZ)<;>intro h<;>(try dsimp only[cu,eE,eN]at h)<;>(try(exfalso;omega)))))
 all_goals(
 with_reducible apply Leaf.mk
 (try dsimp only[cu,aC,aB,gts,eE,eN]at *)
 (simp_all [Prod.ext_iff];done))
abbrev qR6:Tbl:=(76,wQ)::qR5
theorem UY:aD Tryz.prog qR6:=aD.cons ZR UX
abbrev uT:Ct:=.fn [.list fO,.list fO] (some (fun(a:List Rec) (b:List Rec)=>(a.length<=9223372036854775807)/\(∀i:Nat,a[i]!.2.length<=1099511627776))) (fun(a:List Rec) (b:List Rec)=>.d .bool (decide (a=b)))
theorem UK:aF Tryz.prog 29 uT:=by
 refine aF.fn UY mixed [] [] rfl rfl ?_;rintro⟨(a:List Rec),(b:List Rec),_⟩ hpre;replace hpre:=hpre _ rfl;dsimp only[cu]at hpre;obtain⟨ha,hr⟩:=hpre;refine⟨[(0,8,LA.mk [.sl 13 (.int .i64)] (fun y=>Tag 68/\cu [.int .i64] (fun(k:Int)=>(0<=k/\k<=a.length)/\(a.take k.toNat=b.take k.toNat)) y) (cu [.int .i64] (fun(k:Int)=>((a.length:Int)-k).toNat)) (cu [.int .i64] (fun(k:Int)=>([]:List (Nat×Nat×LA)))))],?_⟩;repeat' (first
  |(
 with_reducible refine Side.mk ⟨(⟨⟩:Tag 68),?_⟩
 dsimp only[cu,aC,aB,gts,eE,eN]
 refine⟨?_,?_⟩
 ·omega
 ·first
  |rfl
  |(
  have e1:k.toNat<a.length:=by omega
  have e2:k.toNat<b.length:=by omega
  have e3:a[k.toNat]! =b[k.toNat]!:=by simp_all
  rw[getElem!_pos a k.toNat e1,getElem!_pos b k.toNat e2]at e3
  rw[show(k+1).toNat=k.toNat+1 by omega,List.take_add_one,List.take_add_one,hs,List.getElem?_eq_getElem e1,List.getElem?_eq_getElem e2,e3]))
  |(
 with_reducible apply Side.mk
 (try dsimp only[cu,aC,aB,gts,loK,hiK,eE,eN])
 first
 |omega
 |(have:=hr k.toNat;omega))
  |(conv=>whnf
    first
     |with_reducible first|done|exact trivial|refine NilBr.mk (fun h=>?_) ?_|apply aI|apply aH|refine aJ (by kernel_rfl) ?_|apply aK|apply bB|apply bA|apply aQ
     |((with_reducible first|apply aS|apply aR|apply aZ)<;>intro h<;>(try dsimp only[cu,eE,eN]at h)<;>(try(exfalso;omega)))
     |(
 intro yy (hy:Tag 68/\_)
 obtain⟨(k:Int),_⟩:=yy
 replace hy:=hy.2
 dsimp only[cu,aC,aB,gts,eE,eN]at hy
 obtain⟨hk,hs⟩:=hy)))
 all_goals(
 with_reducible apply Leaf.mk
 (try dsimp only[cu,aC,aB,gts,eE,eN]at *)
 first
 |(
  have hab:a=b:=by
   have h2:=hs;rw[List.take_of_length_le (by omega),List.take_of_length_le (by omega)]at h2;exact h2
  rw[decide_eq_true hab])
 |(
  have hne:¬a=b:=fun q=>by subst q;omega
  rw[decide_eq_false hne])
 |(
  have hne:¬a=b:=fun q=>by subst q;simp_all
  rw[decide_eq_false hne]))
abbrev qR7:Tbl:=(29,uT)::qR6
theorem UZ:aD Tryz.prog qR7:=aD.cons UK UY
instance zoneDec:DecidableEq Zone:=fun a b=>decidable_of_iff (a.1=b.1/\a.2.1=b.2.1/\a.2.2.1=b.2.2.1/\a.2.2.2=b.2.2.2) (by simp only[Prod.ext_iff])
instance zonesDec:DecidableEq (List Zone):=@instDecidableEqList Zone zoneDec
instance infoDec:DecidableEq Info:=fun a b=>@decidable_of_iff _ (a.1=b.1/\a.2.1=b.2.1/\a.2.2.1=b.2.2.1/\a.2.2.2=b.2.2.2) (by simp only[Prod.ext_iff]) (@instDecidableAnd _ _ _ (@instDecidableAnd _ _ (zonesDec _ _) _))
abbrev RH:Ct:=.fn [.list kK,.list kK] (some (fun(a:List Zone) (b:List Zone)=>(a.length<=9223372036854775807))) (fun(a:List Zone) (b:List Zone)=>.d .bool (decide (a=b)))
theorem qTM:aF Tryz.prog 52 RH:=by
 refine aF.fn UZ mixed [] [] rfl rfl ?_;rintro⟨(a:List Zone),(b:List Zone),_⟩ hpre;replace hpre:=hpre _ rfl;dsimp only[cu]at hpre;have ha:=hpre;refine⟨[(0,8,LA.mk [.sl 13 (.int .i64)] (fun y=>Tag 69/\cu [.int .i64] (fun(k:Int)=>(0<=k/\k<=a.length)/\(a.take k.toNat=b.take k.toNat)) y) (cu [.int .i64] (fun(k:Int)=>((a.length:Int)-k).toNat)) (cu [.int .i64] (fun(k:Int)=>([]:List (Nat×Nat×LA)))))],?_⟩;repeat' (first
  |(
 with_reducible refine Side.mk ⟨(⟨⟩:Tag 69),?_⟩
 dsimp only[cu,aC,aB,gts,eE,eN]
 refine⟨?_,?_⟩
 ·omega
 ·first
  |rfl
  |(
  have e1:k.toNat<a.length:=by omega
  have e2:k.toNat<b.length:=by omega
  have e3:a[k.toNat]! =b[k.toNat]!:=by simp_all [Prod.ext_iff]
  rw[getElem!_pos a k.toNat e1,getElem!_pos b k.toNat e2]at e3
  rw[show(k+1).toNat=k.toNat+1 by omega,List.take_add_one,List.take_add_one,hs,List.getElem?_eq_getElem e1,List.getElem?_eq_getElem e2,e3]))
  |(
 with_reducible apply Side.mk
 (try dsimp only[cu,aC,aB,gts,loK,hiK,eE,eN])
 first
 |omega
 |(kernel_rfl))
  |(conv=>whnf
    first
     |with_reducible first|done|exact trivial|refine NilBr.mk (fun h=>?_) ?_|apply aI|apply aH|refine aJ (by kernel_rfl) ?_|apply aK|apply bB|apply bA|apply aQ
     |((with_reducible first|apply aS|apply aR|apply aZ)<;>intro h<;>(try dsimp only[cu,eE,eN]at h)<;>(try(exfalso;omega)))
     |(
 intro yy (hy:Tag 69/\_)
 obtain⟨(k:Int),_⟩:=yy
 replace hy:=hy.2
 dsimp only[cu,aC,aB,gts,eE,eN]at hy
 obtain⟨hk,hs⟩:=hy)))
 all_goals(
 with_reducible apply Leaf.mk
 (try dsimp only[cu,aC,aB,gts,eE,eN]at *)
 first
 |(
  have hab:a=b:=by
   have h2:=hs;rw[List.take_of_length_le (by omega),List.take_of_length_le (by omega)]at h2;exact h2
  rw[decide_eq_true hab])
 |(
  have hne:¬a=b:=fun q=>by subst q;omega
  rw[decide_eq_false hne])
 |(
  have hne:¬a=b:=fun q=>by subst q;simp_all
  rw[decide_eq_false hne]))
abbrev qR8:Tbl:=(52,RH)::qR7
theorem VA:aD Tryz.prog qR8:=aD.cons qTM UZ
abbrev ET:Ct:=.fn [bW,.list fO] (some (fun(s:Schema) (l:List Rec)=>(l.length<=1099511627776))) (fun(s:Schema) (l:List Rec)=>.d (.list fO) (BW s l))
theorem qMK:aF Tryz.prog 34 ET:=by
 refine aF.fn VA mixed [] [] rfl rfl ?_;rintro⟨(s:Schema),(l:List Rec),_⟩ hpre;replace hpre:=hpre _ rfl;dsimp only[cu]at hpre;have hl:=hpre;refine⟨[(0,10,LA.mk [.sl 16 (.int .i64),.lst 5 fO 56] (fun y=>Tag 70/\cu [.int .i64,.list fO] (fun(k:Int) (O:List Rec)=>(0<=k/\k<=l.length)/\(O=(l.take k.toNat).foldl (jP s) [])/\((O.length:Int)=k)) y) (cu [.int .i64,.list fO] (fun(k:Int) (O:List Rec)=>((l.length:Int)-k).toNat)) (cu [.int .i64,.list fO] (fun(k:Int) (O:List Rec)=>([(0,16,LA.mk [.sl 8 (.int .i64)] (fun y=>Tag 71/\cu [.int .i64] (fun(j:Int)=>(0<=j/\j<=O.length)/\(nL s l[k.toNat]! O O.length=nL s l[k.toNat]! O j.toNat)) y) (cu [.int .i64] (fun(j:Int)=>j.toNat)) (cu [.int .i64] (fun(j:Int)=>([]:List (Nat×Nat×LA)))))]:List (Nat×Nat×LA)))))],?_⟩;repeat' (first
  |(
 with_reducible refine Side.mk ⟨(⟨⟩:Tag 70),?_⟩
 dsimp only[cu,aC,aB,gts,eE,eN]
 refine⟨?_,?_,?_⟩
 ·omega
 ·first
  |rfl
  |(
  have e:=qKR hi (by omega) (by first|exact Or.inl (by omega)|exact Or.inr (by assumption))
  rw[uF l k (by omega),List.foldl_append,<-ho]
  show _=jP s O l[k.toNat]!
  rw[jP,e]
  first|(exact qVY (by omega))|(exact qVZ (by omega))|(exact qV0 (by omega) (by omega))|(exact qV1 (by omega) (by omega)))
 ·first
  |simp;done
  |(simp only[qCD,List.length_append,List.length_cons,List.length_nil,List.length_take,List.length_drop];omega))
  |(
 with_reducible refine Side.mk ⟨(⟨⟩:Tag 71),?_⟩
 dsimp only[cu,aC,aB,gts,eE,eN]
 refine⟨?_,?_⟩
 ·omega
 ·first
  |rfl
  |(
  rw[hi]
  exact qKS (by omega) (by assumption)))
  |(
 with_reducible apply Side.mk
 (try dsimp only[cu,aC,aB,gts,loK,hiK,eE,eN])
 first
 |done
 |omega
 |exact Eq.refl _
 |simp only[List.length_append,List.length_cons,List.length_nil];omega
 |exact(aY (dH (s:=s) (l:=l) (kH (by assumption))).1).2
 |(simp only[qCD,List.length_append,List.length_cons,List.length_nil,List.length_take,List.length_drop];omega))
  |(conv=>whnf
    first
     |with_reducible first|done|exact trivial|refine NilBr.mk (fun h=>?_) ?_|apply aI|apply aH|refine aJ (by kernel_rfl) ?_|apply aK|apply bB|apply bA|apply aQ
     |((with_reducible first|apply aS|apply aR|apply aZ)<;>intro h<;>(try dsimp only[cu,eE,eN]at h)<;>(try(exfalso;omega)))
     |(
 intro yy (hy:Tag 70/\_)
 obtain⟨(k:Int),(O:List Rec),_⟩:=yy
 replace hy:=hy.2
 dsimp only[cu,aC,aB,gts,eE,eN]at hy
 obtain⟨hk,ho,hol⟩:=hy)
     |(
 intro yy (hy:Tag 71/\_)
 obtain⟨(j:Int),_⟩:=yy
 replace hy:=hy.2
 dsimp only[cu,aC,aB,gts,eE,eN]at hy
 obtain⟨hj,hi⟩:=hy)))
 all_goals(
 with_reducible apply Leaf.mk
 (try dsimp only[cu,aC,aB,gts,eE,eN]at *)
 first
 |rw[BW,if_neg (by rw[YW (b:=cU s l) (by assumption)];exact Bool.noConfusion)]
 |(rw[BW,if_pos (kH (b:=cU s l) (by assumption)),ho,List.take_of_length_le (by omega)]))
abbrev qR9:Tbl:=(34,ET)::qR8
theorem VB:aD Tryz.prog qR9:=aD.cons qMK VA
abbrev tFr:Ty:=.pair .str (.pair (.int .i64) .bool)
abbrev Fr:Type:=ByteArray×Int×Bool
@[reducible] instance:Inhabited Fr:=instInhabitedDen tFr
abbrev vR:Col:=(⟨#[115,101,113]⟩,1,0,false)
def oM (s:Schema) (i:Int):Col:=if i=s.1.length then vR else s.1[i.toNat]!
def gU (r:Fr) (m:Int):Int×Fr:=if r.2.2=true\/(aA r.1 r.2.1).2.2≠0\/(aA r.1 r.2.1).1>m then(0,(r.1,r.2.1,true))else((aA r.1 r.2.1).1,(r.1,(aA r.1 r.2.1).2.1,false))
def mI (r:Fr) (c:Col):Rank×Fr:=if r.2.2=true\/(dC r.1 r.2.1).2.2≠0\/bQ c (dC r.1 r.2.1).1≠0 then(oD,(r.1,r.2.1,true))else(((dC r.1 r.2.1).1,(gU (r.1,(dC r.1 r.2.1).2.1,false) 1099511627776).1),(gU (r.1,(dC r.1 r.2.1).2.1,false) 1099511627776).2)
def rN (r:Fr) (c:Col) (rows:Int):Zone×Fr:=((fE r.1 r.2.1).1,(r.1,(fE r.1 r.2.1).2.1,r.2.2||(decide ((fE r.1 r.2.1).2.2≠0)||(!mF c (fE r.1 r.2.1).1||decide ((fE r.1 r.2.1).1.1≠rows)))))
def eO (l:List Int):Int:=l.foldr (fun a b=>a+b) 0
theorem uE {l:List Int} {k:Int} (h:0<=k/\k<l.length):eO (l.take (k+1).toNat)=eO (l.take k.toNat)+l[k.toNat]!:=by
 have e:∀a b:List Int,eO (a++b)=eO a+eO b:=fun a b=>by
  induction a with
  |nil=>simp [eO]
  |cons x a ih=>simp only[eO,List.cons_append,List.foldr_cons]at ih ⊢;omega
 rw[uF l k h,e];simp [eO]
def qBR (n:Nat) (l:List Int):Prop:=∀k:Int,0<=k->k<l.length->0<=l[k.toNat]! /\0<=eO (l.take k.toNat)/\4+eO (l.take k.toNat)+l[k.toNat]! <=n
def BN (file:ByteArray) (l:List Int) (i:Int):ByteArray:=file.extract (4+eO (l.take i.toNat)).toNat (4+eO (l.take i.toNat)+l[i.toNat]!).toNat
def kG (s:Schema) (file:ByteArray) (rows:Int) (l:List Int) (i:Int):List Val×Int:=if(pD (oM s i) (BN file l i)).2≠0 then([],(pD (oM s i) (BN file l i)).2)else if(pD (oM s i) (BN file l i)).1.length≠rows then([],2)else((pD (oM s i) (BN file l i)).1,0)
def eG (s:Schema) (l:List Rec):List Nat->List Zone:=fun r=>r.map fun i=>qI s.1[i]!.2.1 (fM l i)
def BF (s:Schema) (l:List Rec):Info:=((l.length:Int),eG s l (List.range s.1.length),fK s l[0]!,fK s l[l.length-1]!)
def jF (s:Schema) (f:ByteArray) (a:Int):Rank×Int×Bool:=if(dC f a).2.2≠0\/bQ s.1[s.2.toNat]! (dC f a).1≠0 then(oD,0,false)else if(aA f (dC f a).2.1).2.2≠0\/(aA f (dC f a).2.1).1>1099511627776 then(oD,0,false)else(((dC f a).1,(aA f (dC f a).2.1).1),(aA f (dC f a).2.1).2.1,true)
abbrev JN:Ct:=.fn [.str] (some (fun(s:ByteArray)=>(4<=s.size/\s.size<=4611686018427387904))) (fun(s:ByteArray)=>.d (.int .u32) (cQ s 0))
theorem qPY:aF Tryz.prog 88 JN:=by
 refine aF.fn VB mixed [(0,1,2),(0,1,5),(0,1,10),(0,1,15)] [] rfl rfl ?_;rintro⟨(s:ByteArray),_⟩ hpre;replace hpre:=hpre _ rfl;dsimp only[cu]at hpre;have hs:=hpre;refine⟨[],?_⟩;repeat' (first
  |(
 with_reducible apply Side.mk
 (try dsimp only[cu,aC,aB,gts,loK,hiK,eE,eN])
 first
 |omega
 |(
  have h0:=cM s (Int.toNat 0);have h1:=cM s (Int.toNat 1);have h2:=cM s (Int.toNat 2);have h3:=cM s (Int.toNat 3);omega))
  |(conv=>whnf
    first
     |with_reducible first|done|exact trivial|refine NilBr.mk (fun h=>?_) ?_|apply aI|apply aH|refine aJ (by kernel_rfl) ?_|apply aK|apply bB|apply bA|apply aQ
     |((with_reducible first|apply aS|apply aR|apply aZ)<;>intro h<;>(try dsimp only[cu,eE,eN]at h)<;>(try(exfalso;omega)))))
 all_goals(
 with_reducible apply Leaf.mk
 (try dsimp only[cu,aC,aB,gts,eE,eN]at *)
 rfl)
abbrev qSA:Tbl:=(88,JN)::qR9
theorem VC:aD Tryz.prog qSA:=aD.cons qPY VB
abbrev JP:Ct:=.fn [] (none) (.d qC vR)
theorem qP2:aF Tryz.prog 114 JP:=by
 refine aF.fn VC mixed [] [] rfl rfl ?_;rintro⟨⟩ -;refine⟨[],?_⟩;repeat' (first
  |(
 with_reducible apply Side.mk
 (try dsimp only[cu,aC,aB,gts,loK,hiK,eE,eN])
 done)
  |(conv=>whnf
    first
     |with_reducible first|done|exact trivial|refine NilBr.mk (fun h=>?_) ?_|apply aI|apply aH|refine aJ (by kernel_rfl) ?_|apply aK|apply bB|apply bA|apply aQ
     |((with_reducible first|apply aS|apply aR|apply aZ)<;>intro h<;>(try dsimp only[cu,eE,eN]at h)<;>(try(exfalso;omega)))))
 all_goals(
 with_reducible apply Leaf.mk
 (try dsimp only[cu,aC,aB,gts,eE,eN]at *)
 done)
abbrev qSB:Tbl:=(114,JP)::qSA
theorem VD:aD Tryz.prog qSB:=aD.cons qP2 VC
abbrev ES:Ct:=.fn [] (none) (.d qC vR)
theorem qMJ:aF Tryz.prog 42 ES:=by
 refine aF.fn VD mixed [] [] rfl rfl ?_;rintro⟨⟩ -;refine⟨[],?_⟩;repeat' (first
  |(
 with_reducible apply Side.mk
 (try dsimp only[cu,aC,aB,gts,loK,hiK,eE,eN])
 done)
  |(conv=>whnf
    first
     |with_reducible first|done|exact trivial|refine NilBr.mk (fun h=>?_) ?_|apply aI|apply aH|refine aJ (by kernel_rfl) ?_|apply aK|apply bB|apply bA|apply aQ
     |((with_reducible first|apply aS|apply aR|apply aZ)<;>intro h<;>(try dsimp only[cu,eE,eN]at h)<;>(try(exfalso;omega)))))
 all_goals(
 with_reducible apply Leaf.mk
 (try dsimp only[cu,aC,aB,gts,eE,eN]at *)
 done)
abbrev qSC:Tbl:=(42,ES)::qSB
theorem VE:aD Tryz.prog qSC:=aD.cons qMJ VD
abbrev JM:Ct:=.fn [bW,.int .i64] (some (fun(s:Schema) (i:Int)=>(0<=i/\i<=s.1.length))) (fun(s:Schema) (i:Int)=>.d qC (oM s i))
theorem qPX:aF Tryz.prog 67 JM:=by
 refine aF.fn VE mixed [] [] rfl rfl ?_;rintro⟨(s:Schema),(i:Int),_⟩ hpre;replace hpre:=hpre _ rfl;dsimp only[cu]at hpre;have hi:=hpre;refine⟨[],?_⟩;repeat' (first
  |(
 with_reducible apply Side.mk
 (try dsimp only[cu,aC,aB,gts,loK,hiK,eE,eN])
 omega)
  |(conv=>whnf
    first
     |with_reducible first|done|exact trivial|refine NilBr.mk (fun h=>?_) ?_|apply aI|apply aH|refine aJ (by kernel_rfl) ?_|apply aK|apply bB|apply bA|apply aQ
     |((with_reducible first|apply aS|apply aR|apply aZ)<;>intro h<;>(try dsimp only[cu,eE,eN]at h)<;>(try(exfalso;omega)))))
 all_goals(
 with_reducible apply Leaf.mk
 (try dsimp only[cu,aC,aB,gts,eE,eN]at *)
 first
 |rw[oM,if_pos (by assumption)]
 |(rw[oM,if_neg (by assumption)]))
abbrev qSD:Tbl:=(67,JM)::qSC
theorem VF:aD Tryz.prog qSD:=aD.cons qPX VE
abbrev JD:Ct:=.meth tFr 134 [.int .i64] (some (fun(r:Fr) (m:Int)=>(r.1.size<=4611686018427387904)/\(0<=m/\m<=4611686018427387904))) (fun(r:Fr) (m:Int)=>.d (.int .i64) ((gU r m).1)) (fun(r:Fr) (m:Int)=>(gU r m).2)
theorem qO7:aF Tryz.prog 91 JD:=by
 refine aF.meth VF mixed [] [] rfl rfl ?_;rintro(r:Fr) ⟨(m:Int),_⟩ hpre;replace hpre:=hpre _ rfl;dsimp only[cu]at hpre;obtain⟨hs,hm⟩:=hpre;refine⟨[],?_⟩;repeat' (first
  |(
 with_reducible apply Side.mk
 (try dsimp only[cu,aC,aB,gts,loK,hiK,eE,eN])
 first
 |omega
 |(
  have hg:=aX r.1 r.2.1;have hm:=aW (n:=m) (by omega);omega))
  |(conv=>whnf
    first
     |with_reducible first|done|exact trivial|refine NilBr.mk (fun h=>?_) ?_|apply aI|apply aH|refine aJ (by kernel_rfl) ?_|apply aK|apply bB|apply bA|apply aQ
     |((with_reducible first|apply aS|apply aR|apply aZ)<;>intro h<;>(try dsimp only[cu,eE,eN]at h)<;>(try(exfalso;omega)))))
 all_goals(
 with_reducible apply Leaf.mk
 (try dsimp only[cu,aC,aB,gts,eE,eN]at *)
 first
 |(
  have hg:=aX r.1 r.2.1;have hw:=aW (n:=m) (by omega);first
  |(
   simp_all [gU];done)
  |(
   have h2:=h;rw[hw]at h2;first
   |(
    rw[gU,if_neg (by grind)];done)
   |(
    rw[gU,if_neg (by grind),decide_eq_false h];done))))
abbrev qSE:Tbl:=(91,JD)::qSD
theorem VG:aD Tryz.prog qSE:=aD.cons qO7 VF
abbrev DW:Ct:=.meth tFr 134 [qC] (some (fun(r:Fr) (c:Col)=>(r.1.size<=4611686018427387904))) (fun(r:Fr) (c:Col)=>.d tB ((mI r c).1)) (fun(r:Fr) (c:Col)=>(mI r c).2)
theorem qKI:aF Tryz.prog 93 DW:=by
 refine aF.meth VG mixed [] [] rfl rfl ?_;rintro(r:Fr) ⟨(c:Col),_⟩ hpre;replace hpre:=hpre _ rfl;dsimp only[cu]at hpre;have hs:=hpre;refine⟨[],?_⟩;repeat' (first
  |(
 with_reducible apply Side.mk
 (try dsimp only[cu,aC,aB,gts,loK,hiK,eE,eN])
 omega)
  |(conv=>whnf
    first
     |with_reducible first|done|exact trivial|refine NilBr.mk (fun h=>?_) ?_|apply aI|apply aH|refine aJ (by kernel_rfl) ?_|apply aK|apply bB|apply bA|apply aQ
     |((with_reducible first|apply aS|apply aR|apply aZ)<;>intro h<;>(try dsimp only[cu,eE,eN]at h)<;>(try(exfalso;omega)))))
 all_goals(
 with_reducible apply Leaf.mk
 (try dsimp only[cu,aC,aB,gts,eE,eN]at *)
 (
  simp_all [mI];done))
abbrev qSF:Tbl:=(93,DW)::qSE
theorem VH:aD Tryz.prog qSF:=aD.cons qKI VG
abbrev DX:Ct:=.meth tFr 134 [qC,.int .i64] (some (fun(r:Fr) (c:Col) (rows:Int)=>(r.1.size<=4611686018427387904))) (fun(r:Fr) (c:Col) (rows:Int)=>.d kK ((rN r c rows).1)) (fun(r:Fr) (c:Col) (rows:Int)=>(rN r c rows).2)
theorem qKM:aF Tryz.prog 92 DX:=by
 refine aF.meth VH mixed [] [] rfl rfl ?_;rintro(r:Fr) ⟨(c:Col),(rows:Int),_⟩ hpre;replace hpre:=hpre _ rfl;dsimp only[cu]at hpre;have hs:=hpre;refine⟨[],?_⟩;repeat' (first
  |(
 with_reducible apply Side.mk
 (try dsimp only[cu,aC,aB,gts,loK,hiK,eE,eN])
 omega)
  |(conv=>whnf
    first
     |with_reducible first|done|exact trivial|refine NilBr.mk (fun h=>?_) ?_|apply aI|apply aH|refine aJ (by kernel_rfl) ?_|apply aK|apply bB|apply bA|apply aQ
     |((with_reducible first|apply aS|apply aR|apply aZ)<;>intro h<;>(try dsimp only[cu,eE,eN]at h)<;>(try(exfalso;omega)))))
 all_goals(
 with_reducible apply Leaf.mk
 (try dsimp only[cu,aC,aB,gts,eE,eN]at *)
 (
  simp_all [rN];done))
abbrev qSG:Tbl:=(92,DX)::qSF
theorem VI:aD Tryz.prog qSG:=aD.cons qKM VH
abbrev EE:Ct:=.fn [bW,.str,.int .i64,.list (.int .i64),.int .i64] (some (fun(s:Schema) (file:ByteArray) (rows:Int) (sizes:List Int) (i:Int)=>(0<=i/\i<sizes.length/\i<=s.1.length/\sizes.length<=4096)/\(file.size<=288230376151711744/\qBR file.size sizes))) (fun(s:Schema) (file:ByteArray) (rows:Int) (sizes:List Int) (i:Int)=>.tup [.list bP,.int .i64] ((kG s file rows sizes i).1,(kG s file rows sizes i).2,()))
theorem qK9:aF Tryz.prog 49 EE:=by
 refine aF.fn VI mixed [] [] rfl rfl ?_;rintro⟨(s:Schema),(file:ByteArray),(rows:Int),(sizes:List Int),(i:Int),_⟩ hpre;replace hpre:=hpre _ rfl;dsimp only[cu]at hpre;obtain⟨hi,hp⟩:=hpre;refine⟨[(0,6,LA.mk [.sl 21 (.int .i64),.sl 12 (.int .i64)] (fun y=>Tag 72/\cu [.int .i64,.int .i64] (fun(k:Int) (w:Int)=>(0<=k/\k<=i)/\(w=4+eO (sizes.take k.toNat))) y) (cu [.int .i64,.int .i64] (fun(k:Int) (w:Int)=>((i:Int)-k).toNat)) (cu [.int .i64,.int .i64] (fun(k:Int) (w:Int)=>([]:List (Nat×Nat×LA)))))],?_⟩;repeat' (first
  |(
 with_reducible refine Side.mk ⟨(⟨⟩:Tag 72),?_⟩
 dsimp only[cu,aC,aB,gts,eE,eN]
 refine⟨?_,?_⟩
 ·omega
 ·first
  |(
  simp [eO]
  done)
  |(
  have e:(sizes.take i.toNat)[k.toNat]! =sizes[k.toNat]!:=lE sizes i.toNat k.toNat (by omega)
  have ho:=hp.2 k (by omega) (by omega)
  rw[e,hat,uE (by omega)]
  omega))
  |(
 with_reducible apply Side.mk
 (try dsimp only[cu,aC,aB,gts,loK,hiK,eE,eN])
 first
 |omega
 |(
  have e:(sizes.take i.toNat)[k.toNat]! =sizes[k.toNat]!:=lE sizes i.toNat k.toNat (by omega);have ho:=hp.2 k (by omega) (by omega);rw[e];omega)
 |(
  have hki:k=i:=by omega
  subst hki;have ho:=hp.2 k (by omega) (by omega);first
  |omega
  |(
   rw[ByteArray.size_extract];omega)))
  |(conv=>whnf
    first
     |with_reducible first|done|exact trivial|refine NilBr.mk (fun h=>?_) ?_|apply aI|apply aH|refine aJ (by kernel_rfl) ?_|apply aK|apply bB|apply bA|apply aQ
     |((with_reducible first|apply aS|apply aR|apply aZ)<;>intro h<;>(try dsimp only[cu,eE,eN]at h)<;>(try(exfalso;omega)))
     |(
 intro yy (hy:Tag 72/\_)
 obtain⟨(k:Int),(w:Int),_⟩:=yy
 replace hy:=hy.2
 dsimp only[cu,aC,aB,gts,eE,eN]at hy
 obtain⟨hk,hat⟩:=hy
 have hlt:(sizes.take i.toNat).length=i.toNat:=by rw[List.length_take];omega)))
 all_goals(
 with_reducible apply Leaf.mk
 (try dsimp only[cu,aC,aB,gts,eE,eN]at *)
 (
  have hki:k=i:=by omega
  subst hki;subst hat;simp_all [kG,BN];done))
abbrev qSH:Tbl:=(49,EE)::qSG
theorem VJ:aD Tryz.prog qSH:=aD.cons qK9 VI
theorem rW {l:List Rec} {n:Int} (h:1<=n/\n<=12):((oO l n).length:Int)=n/\∀k:Nat,(k:Int)<n->(oO l n)[k]! =fM l k:=by
 rw[oO,if_neg (by omega)];refine⟨by rw[List.length_map,List.length_range];omega,fun k hk=>?_⟩;have q:k<((List.range n.toNat).map (fM l)).length:=by rw[List.length_map,List.length_range];omega
 rw[getElem!_pos _ k q,List.getElem_map,List.getElem_range]
theorem CC {s:Schema} {l:List Rec} {k:Int} (h:0<=k):eG s l (List.range (k+1).toNat)=eG s l (List.range k.toNat)++ [qI s.1[k.toNat]!.2.1 (fM l k.toNat)]:=by
 rw[show(k+1).toNat=k.toNat+1 by omega,List.range_succ,eG,List.map_append];rfl
abbrev JA:Ct:=.fn [bW,.list fO] (some (fun(s:Schema) (l:List Rec)=>(1<=l.length/\l.length<=1073741824)/\(1<=s.1.length/\s.1.length<=12))) (fun(s:Schema) (l:List Rec)=>.d UR (BF s l))
theorem qOR:aF Tryz.prog 51 JA:=by
 refine aF.fn VJ mixed [] [] rfl rfl ?_;rintro⟨(s:Schema),(l:List Rec),_⟩ hpre;replace hpre:=hpre _ rfl;dsimp only[cu]at hpre;obtain⟨hl,hs⟩:=hpre;refine⟨[(0,6,LA.mk [.sl 30 (.int .i64),.row 2 [.same,.own kK 67,.same,.same,.same,.same,.same,.same,.same,.same]] (fun y=>Tag 73/\cu [.int .i64,.list kK] (fun(k:Int) (Z:List Zone)=>(0<=k/\k<=(s.1.length:Int))/\(Z=eG s l (List.range k.toNat))/\((Z.length:Int)=k)) y) (cu [.int .i64,.list kK] (fun(k:Int) (Z:List Zone)=>(((s.1.length:Int):Int)-k).toNat)) (cu [.int .i64,.list kK] (fun(k:Int) (Z:List Zone)=>([]:List (Nat×Nat×LA)))))],?_⟩;repeat' (first
  |(
 with_reducible refine Side.mk ⟨(⟨⟩:Tag 73),?_⟩
 dsimp only[cu,aC,aB,gts,eE,eN]
 refine⟨?_,?_,?_⟩
 ·omega
 ·first
  |rfl
  |(
  obtain⟨hcl,hce⟩:=rW (l:=l) (n:=(s.1.length:Int)) (by omega)
  have hck:=hce k.toNat (by omega)
  show Z++ [qI s.1[k.toNat]!.2.1 (oO l (s.1.length:Int))[k.toNat]!]=_
  rw[hz,hck,CC (by omega)])
 ·first
  |(
  simp
  done)
  |(
  simp only[List.length_append,List.length_cons,List.length_nil]
  omega))
  |(
 with_reducible apply Side.mk
 (try dsimp only[cu,aC,aB,gts,loK,hiK,eE,eN])
 first
 |done
 |omega
 |exact Eq.refl _
 |simp only[List.length_append,List.length_cons,List.length_nil];omega
 |(
  obtain⟨hcl,hce⟩:=rW (l:=l) (n:=(s.1.length:Int)) (by omega);have hck:=hce k.toNat (by omega);show(oO l (s.1.length:Int))[k.toNat]!.length<=_;rw[hck,fM,List.length_map];omega))
  |(conv=>whnf
    first
     |with_reducible first|done|exact trivial|refine NilBr.mk (fun h=>?_) ?_|apply aI|apply aH|refine aJ (by kernel_rfl) ?_|apply aK|apply bB|apply bA|apply aQ
     |((with_reducible first|apply aS|apply aR|apply aZ)<;>intro h<;>(try dsimp only[cu,eE,eN]at h)<;>(try(exfalso;omega)))
     |(
 intro yy (hy:Tag 73/\_)
 obtain⟨(k:Int),(Z:List Zone),_⟩:=yy
 replace hy:=hy.2
 dsimp only[cu,aC,aB,gts,eE,eN]at hy
 obtain⟨hk,hz,hzl⟩:=hy
 have hcl:=(rW (l:=l) (n:=(s.1.length:Int)) (by omega)).1)))
 all_goals(
 with_reducible apply Leaf.mk
 (try dsimp only[cu,aC,aB,gts,eE,eN]at *)
 (
  have h2:¬k<(oO l (s.1.length:Int)).length:=h;show((l.length:Int),Z,fK s l[0]!,fK s l[((l.length:Int)-1).toNat]!)=_;rw[BF,hz,show k.toNat=s.1.length by omega,show((l.length:Int)-1).toNat=l.length-1 by omega]))
abbrev qSI:Tbl:=(51,JA)::qSH
theorem VK:aD Tryz.prog qSI:=aD.cons qOR VJ
def gM (l:List Rec):List Val:=l.map fun r=>((false,r.1,⟨#[]⟩):Val)
def eC (r:Rank):ByteArray:=xV r.1++aV (put r.2)
theorem ZT {l:List Rec} {k:Int} (h:0<=k/\k<l.length):gM (l.take (k+1).toNat)=gM (l.take k.toNat)++ [((false,l[k.toNat]!.1,⟨#[]⟩):Val)]:=by
 rw[uF l k h,gM,List.map_append];rfl
abbrev KF:Ct:=.fn [.list fO] (some (fun(l:List Rec)=>(l.length<=1099511627776))) (fun(l:List Rec)=>.d (.list bP) (gM l))
theorem qQ4:aF Tryz.prog 43 KF:=by
 refine aF.fn VK mixed [] [] rfl rfl ?_;rintro⟨(l:List Rec),_⟩ hpre;replace hpre:=hpre _ rfl;dsimp only[cu]at hpre;have hl:=hpre;refine⟨[(0,6,LA.mk [.sl 8 (.int .i64),.lst 3 bP 43] (fun y=>Tag 74/\cu [.int .i64,.list bP] (fun(k:Int) (M:List Val)=>(0<=k/\k<=l.length)/\(M=gM (l.take k.toNat))/\((M.length:Int)=k)) y) (cu [.int .i64,.list bP] (fun(k:Int) (M:List Val)=>((l.length:Int)-k).toNat)) (cu [.int .i64,.list bP] (fun(k:Int) (M:List Val)=>([]:List (Nat×Nat×LA)))))],?_⟩;repeat' (first
  |(
 with_reducible refine Side.mk ⟨(⟨⟩:Tag 74),?_⟩
 dsimp only[cu,aC,aB,gts,eE,eN]
 refine⟨?_,?_,?_⟩
 ·omega
 ·first
  |rfl
  |rw[hm,ZT (by omega)]
 ·first
  |(
  simp
  done)
  |(
  simp only[List.length_append,List.length_cons,List.length_nil]
  omega))
  |(
 with_reducible apply Side.mk
 (try dsimp only[cu,aC,aB,gts,loK,hiK,eE,eN])
 first
 |done
 |omega
 |exact Eq.refl _
 |(simp only[List.length_append,List.length_cons,List.length_nil];omega))
  |(conv=>whnf
    first
     |with_reducible first|done|exact trivial|refine NilBr.mk (fun h=>?_) ?_|apply aI|apply aH|refine aJ (by kernel_rfl) ?_|apply aK|apply bB|apply bA|apply aQ
     |((with_reducible first|apply aS|apply aR|apply aZ)<;>intro h<;>(try dsimp only[cu,eE,eN]at h)<;>(try(exfalso;omega)))
     |(
 intro yy (hy:Tag 74/\_)
 obtain⟨(k:Int),(M:List Val),_⟩:=yy
 replace hy:=hy.2
 dsimp only[cu,aC,aB,gts,eE,eN]at hy
 obtain⟨hk,hm,hml⟩:=hy)))
 all_goals(
 with_reducible apply Leaf.mk
 (try dsimp only[cu,aC,aB,gts,eE,eN]at *)
 rw[hm,List.take_of_length_le (by omega)])
abbrev qSJ:Tbl:=(43,KF)::qSI
theorem VL:aD Tryz.prog qSJ:=aD.cons qQ4 VK
abbrev wL:Ct:=.fn [tB] (some (fun(r:Rank)=>(0<=r.2/\r.2<=1099511627776)/\(inI r.1.2.1/\r.1.2.2.size<=1073741824))) (fun(r:Rank)=>.d .str (eC r))
theorem ZH:aF Tryz.prog 45 wL:=by
 refine aF.fn VL mixed [] [] rfl rfl ?_;rintro⟨(r:Rank),_⟩ hpre;replace hpre:=hpre _ rfl;dsimp only[cu]at hpre;obtain⟨hr,hs⟩:=hpre;refine⟨[],?_⟩;repeat' (first
  |(
 with_reducible apply Side.mk
 (try dsimp only[cu,aC,aB,gts,loK,hiK,eE,eN])
 first
 |omega
 |(
  rw[aW (by omega)];omega)
 |(
  have h1:=uB (v:=r.1);have h2:=bL (IntKind.u64.wrap r.2);simp only[bJ];omega))
  |(conv=>whnf
    first
     |with_reducible first|done|exact trivial|refine NilBr.mk (fun h=>?_) ?_|apply aI|apply aH|refine aJ (by kernel_rfl) ?_|apply aK|apply bB|apply bA|apply aQ
     |((with_reducible first|apply aS|apply aR|apply aZ)<;>intro h<;>(try dsimp only[cu,eE,eN]at h)<;>(try(exfalso;omega)))))
 all_goals(
 with_reducible apply Leaf.mk
 (try dsimp only[cu,aC,aB,gts,eE,eN]at *)
 rw[eC,aW (by omega)])
abbrev qSK:Tbl:=(45,wL)::qSJ
theorem VM:aD Tryz.prog qSK:=aD.cons ZH VL
abbrev EI:Ct:=.fn [.list fO,.int .i64] (some (fun(l:List Rec) (n:Int)=>(l.length<=1099511627776))) (fun(l:List Rec) (n:Int)=>.d (.list (.list bP)) (oO l n))
theorem qLX:aF Tryz.prog 27 EI:=by
 refine aF.fn VM mixed [] [] rfl rfl ?_;rintro⟨(l:List Rec),(n:Int),_⟩ hpre;replace hpre:=hpre _ rfl;dsimp only[cu]at hpre;have hl:=hpre;refine⟨[(0,10,LA.mk [.sl 6 (.int .i64),.lst 5 (.list bP) 52] (fun y=>Tag 75/\cu [.int .i64,.list (.list bP)] (fun(k:Int) (O:List (List Val))=>(0<=k/\k<=n)/\(O=(List.range k.toNat).map (fM l))/\((O.length:Int)=k)) y) (cu [.int .i64,.list (.list bP)] (fun(k:Int) (O:List (List Val))=>(n-k).toNat)) (cu [.int .i64,.list (.list bP)] (fun(k:Int) (O:List (List Val))=>([(0,18,LA.mk [.sl 23 (.int .i64),.lst 7 bP 43] (fun y=>Tag 76/\cu [.int .i64,.list bP] (fun(j:Int) (M:List Val)=>(0<=j/\j<=l.length)/\(M=fM (l.take j.toNat) k.toNat)/\((M.length:Int)=j)) y) (cu [.int .i64,.list bP] (fun(j:Int) (M:List Val)=>((l.length:Int)-j).toNat)) (cu [.int .i64,.list bP] (fun(j:Int) (M:List Val)=>([]:List (Nat×Nat×LA)))))]:List (Nat×Nat×LA)))))],?_⟩;repeat' (first
  |(
 with_reducible refine Side.mk ⟨(⟨⟩:Tag 75),?_⟩
 dsimp only[cu,aC,aB,gts,eE,eN]
 refine⟨?_,?_,?_⟩
 ·omega
 ·first
  |rfl
  |(
  rw[ho,hm,List.take_of_length_le (by omega),show(k+1).toNat=k.toNat+1 by omega,List.range_succ,List.map_append]
  rfl)
 ·first
  |(
  simp
  done)
  |(
  simp only[List.length_append,List.length_cons,List.length_nil]
  omega))
  |(
 with_reducible refine Side.mk ⟨(⟨⟩:Tag 76),?_⟩
 dsimp only[cu,aC,aB,gts,eE,eN]
 refine⟨?_,?_,?_⟩
 ·omega
 ·first
  |rfl
  |(
  rw[hm,uF l j (by omega)]
  simp only[fM,List.map_append,List.map_cons,List.map_nil,atV]
  first|(rw[if_pos (by omega)]
         done)|(rw[if_neg (by omega)]
                done))
 ·first
  |(
  simp
  done)
  |(
  simp only[List.length_append,List.length_cons,List.length_nil]
  omega))
  |(
 with_reducible apply Side.mk
 (try dsimp only[cu,aC,aB,gts,loK,hiK,eE,eN])
 first
 |done
 |omega
 |exact Eq.refl _
 |(simp only[List.length_append,List.length_cons,List.length_nil];omega))
  |(conv=>whnf
    first
     |with_reducible first|done|exact trivial|refine NilBr.mk (fun h=>?_) ?_|apply aI|apply aH|refine aJ (by kernel_rfl) ?_|apply aK|apply bB|apply bA|apply aQ
     |((with_reducible first|apply aS|apply aR|apply aZ)<;>intro h<;>(try dsimp only[cu,eE,eN]at h)<;>(try(exfalso;omega)))
     |(
 intro yy (hy:Tag 75/\_)
 obtain⟨(k:Int),(O:List (List Val)),_⟩:=yy
 replace hy:=hy.2
 dsimp only[cu,aC,aB,gts,eE,eN]at hy
 obtain⟨hk,ho,hol⟩:=hy)
     |(
 intro yy (hy:Tag 76/\_)
 obtain⟨(j:Int),(M:List Val),_⟩:=yy
 replace hy:=hy.2
 dsimp only[cu,aC,aB,gts,eE,eN]at hy
 obtain⟨hj,hm,hml⟩:=hy)))
 all_goals(
 with_reducible apply Leaf.mk
 (try dsimp only[cu,aC,aB,gts,eE,eN]at *)
 first
 |rw[oO,if_pos (by omega)]
 |(rw[oO,if_neg (by omega),ho,show k=n by omega]))
abbrev qSL:Tbl:=(27,EI)::qSK
theorem VN:aD Tryz.prog qSL:=aD.cons qLX VM
end Go.Proofs.YtcjiefknhfhmkaaGreatDoor
namespace Go.Abs
set_option maxRecDepth 100000
set_option maxHeartbeats 4000000
set_option linter.unusedVariables false
set_option linter.unusedSimpArgs false
theorem Rep.ext {w:World} {ι ι2:Iota} {M M2:Nat->Prop} (hi:∀i l,ι i=some l->ι2 i=some l) (hm:∀b,M2 b->M b) {x:V} {y:Value} (r:Rep w ι M x y):Rep w ι2 M2 x y:=by
 induction r with
 |v x=>exact .v x
 |any x=>exact .any x
 |pF row off b o cells hb hn hc _ ih=>exact .pF row off b o cells hb (fun q=>hn (hm _ q)) hc ih
 |pO id row off l hl=>exact .pO id row off l (hi _ _ hl)
 |sF sz rows a cap cells hb hcap hr hc _ ih=>exact .sF sz rows a cap cells (fun hne=>let ⟨h1,h2,h3⟩:=hb hne;⟨h1,h2,fun q=>h3 (hm _ q)⟩) hcap hr hc ih
 |sN sz=>exact .sN sz
 |sO id off len cap l c e fr hl h1 h2 h3=>exact .sO id off len cap l c e fr (hi _ _ hl) h1 h2 h3
 |agg xs vs hl _ ih=>exact .agg xs vs hl ih
 |tup xs vs hl _ ih=>exact .tup xs vs hl ih
 |fn f first caps vs us h1 h2 _ _ ih1 ih2=>exact .fn f first caps vs us h1 h2 ih1 ih2
 |ifc t x y _ ih=>exact .ifc t x y ih
 |sL t l y _ ih=>exact .sL t l y ih
 |oL id n y _ ih=>exact .oL id n y ih
structure Out (σ N:List Nat) (k:Heap) (h':Heap) (k':Heap) (τ:List Nat):Prop where
 len:τ.length=k'.length
 le:k.length<=k'.length
 other:∀i:Nat,i<k.length->¬i∈σ->¬i∈N->τ[i]? =some (List.length h')/\k'[i]? =k[i]?
 old:∀j i:Nat,σ[j]? =some i->τ[i]? =some j
 obj:∀i:Nat,(i∈σ\/(i∈N\/k.length<=i))->i<k'.length->∃m x z,τ[i]? =some m/\h'[m]? =some x/\k'[i]? =some z/\jS τ x z
 inj:∀(i1 i2 m:Nat) (o1 o2:AObj),(i1∈σ\/(i1∈N\/k.length<=i1))->(i2∈σ\/(i2∈N\/k.length<=i2))->k'[i1]? =some (.live o1)->k'[i2]? =some (.live o2)->τ[i1]? =some m->τ[i2]? =some m->i1=i2
theorem PC.liftN {P:Program} {f:FuncId} {args0 args:List V} {h0 k:Heap} {σ N:List Nat} {R:V->Heap->Prop} {y':V} {k':Heap} (hσ:σ.Nodup) (hN:∀i,i∈N->k[i]? =some .free) (hl0:h0.length=σ.length)
  (hobj:∀(j i:Nat),σ[j]? =some i->∃x y,k[i]? =some y/\h0[j]? =some x/\jS σ y x) (harg:Pairs (bX σ) args args0) (hc:PC P f args0 h0 R)
  (hout:∀y h',R y h'->∃τ,Out σ N k h' k' τ/\bX τ y y'):PC P f args k (fun y k2=>y=y'/\k2=k'):=by
 intro ι w vals hp H;let X0:Nat->Prop:=fun b=>Mt k ι b/\¬Ob h0 (ι.ren σ) b
 let ι0:Iota:={at':=(ι.ren σ).at',X:=X0}
 have e0:∀j,ι0 j=(ι.ren σ) j:=fun _=>rfl
 have at0:∀(j i:Nat),σ[j]? =some i->ι0 j=ι i:=by intro j i h;rw[e0];simp [Iota.ren,h]
 have ob0:∀b,Ob h0 ι0 b↔Ob h0 (ι.ren σ) b:=fun b=>Iff.rfl
 have getσ:∀(j:Nat) (o:AObj),h0[j]? =some (.live o)->∃i oc,σ[j]? =some i/\k[i]? =some (.live oc)/\RenL σ oc o:=by
  intro j o h;have hj:j<σ.length:=by rw[<-hl0];exact aM h
  obtain⟨x,y,h1,h2,h3⟩:=hobj j σ[j] (List.getElem?_eq_getElem hj);rw[h]at h2;injection h2 with h2;subst h2;obtain⟨oc,rfl,h4⟩:=h3.2 o rfl;exact⟨σ[j],oc,List.getElem?_eq_getElem hj,h1,h4⟩
 have obk:∀b,Ob h0 ι0 b->Ob k ι b:=by
  rintro b ⟨j,o,l,h1,h2,h3⟩;obtain⟨i,oc,g1,g2,_⟩:=getσ j o h1;rw[at0 j i g1]at h2;exact⟨i,oc,l,g2,h2,h3⟩
 have mt0:∀b,Mt h0 ι0 b->Mt k ι b:=fun b q=>q.elim (fun q=>q.1) (fun q=>.inr (obk b q))
 have mlt:∀b,Mt k ι b->b<w.heap.size:=by
  rintro b (q|q)
  ·exact H.xlt b q
  ·exact H.blk_lt q
 have rep0:∀ {x y:V} {z:Value},bX σ x y->Rep w ι (Mt k ι) x z->Rep w ι0 (Mt h0 ι0) y z:=fun hr r=>
  Rep.ext (ι:=ι.ren σ) (ι2:=ι0) (fun i l q=>q) (fun b q=>q) (hr w ι _ _ mt0 _ r)
 have H0:HRel h0 ι0 w:=by
  refine⟨fun j o ho=>?_,fun j hj=>?_,fun j hj=>?_,fun j1 o1 l1 j2 o2 l2 a1 a2 b1 b2 hb=>?_,fun b q=>mlt b q.1,fun b q r=>q.2 r⟩
  ·obtain⟨i,oc,g1,g2,g3⟩:=getσ j o ho
   obtain⟨l,c,fr,h1,la⟩:=H.live i oc g2;refine⟨l,c,fr,(at0 j i g1).trans h1,⟨by rw[<-g3.elem];exact la.blk,by rw[<-g3.elem,<-g3.sz];exact la.unfrozen,by rw[<-g3.sz];exact la.sz,fun r' hr'=>?_,by rw[<-g3.sz,<-g3.len];exact la.fits,fun a ha b hb=>?_⟩⟩
   ·obtain⟨a,ha,e⟩:=List.getElem_of_mem hr'
    have ha1:a<oc.rows.length:=by rw[g3.len];exact ha
    have u:=g3.rows a _ _ (List.getElem?_eq_getElem ha1) (List.getElem?_eq_getElem ha);rw[<-e,<-u.1,<-g3.sz];exact la.rows _ (List.getElem_mem ha1)
   ·have ha1:a<oc.rows.length:=by rw[g3.len];exact ha
    have u:=g3.rows a _ _ (List.getElem?_eq_getElem ha1) (List.getElem?_eq_getElem ha);have hb1:b<oc.rows[a].length:=by rw[u.1];exact hb
    obtain⟨z,z1,z2⟩:=la.reads a ha1 b hb1;exact⟨z,by rw[<-g3.sz];exact z1,rep0 (u.2 b _ _ (List.getElem?_eq_getElem hb1) (List.getElem?_eq_getElem hb)) z2⟩
  ·exfalso
   have hj':j<σ.length:=by rw[<-hl0];exact aM hj
   obtain⟨x,y,h1,h2,h3⟩:=hobj j σ[j] (List.getElem?_eq_getElem hj');rw[hj]at h2;injection h2 with h2;subst h2;exact h3.1 rfl
  ·have:σ[j]? =none:=List.getElem?_eq_none (by rw[<-hl0];exact hj)
   rw[e0];simp [Iota.ren,this]
  ·obtain⟨i1,p1,g1,g2,_⟩:=getσ j1 o1 a1
   obtain⟨i2,p2,f1,f2,_⟩:=getσ j2 o2 b1;rw[at0 j1 i1 g1]at a2;rw[at0 j2 i2 f1]at b2;have:=H.apart _ _ _ _ _ _ g2 a2 f2 b2 hb;subst this;have h1:=aM g1;have h2:=aM f1;rw[List.getElem?_eq_getElem h1]at g1;injection g1 with g1;rw[List.getElem?_eq_getElem h2]at f1;injection f1 with f1;have hpw:=List.pairwise_iff_getElem.1 hσ;rcases Nat.lt_trichotomy j1 j2 with q|q|q
   ·exact absurd (g1.trans f1.symm) (hpw j1 j2 h1 h2 q)
   ·exact q
   ·exact absurd (f1.trans g1.symm) (hpw j2 j1 h2 h1 q)
 have hp0:PW2 w ι0 (Mt h0 ι0) args0 vals:=by
  refine⟨harg.1.symm.trans hp.1,fun i y hy=>?_⟩;have hi:i<args.length:=by rw[harg.1];exact aM hy
  obtain⟨z,z1,z2⟩:=hp.2 i _ (List.getElem?_eq_getElem hi);exact⟨z,z1,rep0 (harg.2 i _ _ (List.getElem?_eq_getElem hi) hy) z2⟩
 refine(hc ι0 w vals hp0 H0).mono ?_;rintro e w' ⟨z,y,h',ι',rfl,hR,rz,H',ev⟩;obtain⟨τ,O,hy⟩:=hout y h' hR;have hX:ι'.X=X0:=ev.away;have dec:∀i,Decidable (i∈σ\/(i∈N\/k.length<=i)):=fun i=>inferInstance
 let ι2:Iota:={at':=fun i=>(match τ[i]? with
  |some m=>if i∈σ\/(i∈N\/k.length<=i)then ι' m else ι i
  |none=>none),X:=ι.X}
 have at2:∀i m,τ[i]? =some m->(i∈σ\/(i∈N\/k.length<=i))->ι2 i=ι' m:=fun i m h1 h2=>by
  show(match τ[i]? with
   |some m=>if i∈σ\/(i∈N\/k.length<=i)then ι' m else ι i
   |none=>none)=_
  rw[h1];simp only[if_pos h2]
 have at2o:∀i,i<k.length->(¬i∈σ/\¬i∈N)->ι2 i=ι i:=fun i h1 h2=>by
  show(match τ[i]? with
   |some m=>if i∈σ\/(i∈N\/k.length<=i)then ι' m else ι i
   |none=>none)=_
  rw[(O.other i h1 h2.1 h2.2).1];simp only[if_neg (show ¬(i∈σ\/(i∈N\/k.length<=i))by rintro(q|q|q);exact h2.1 q;exact h2.2 q;omega)]
 have side:∀i,i<k'.length->(i<k.length/\(¬i∈σ/\¬i∈N))\/(i∈σ\/(i∈N\/k.length<=i)):=fun i _=>by
  by_cases h1:i∈σ
  ·exact .inr (.inl h1)
  ·by_cases h3:i∈N
   ·exact .inr (.inr (.inl h3))
   ·rcases Nat.lt_or_ge i k.length with h2|h2
    ·exact .inl ⟨h2,h1,h3⟩
    ·exact .inr (.inr (.inr h2))
 have ext2:∀i l,(ι'.ren τ) i=some l->ι2 i=some l:=by
  intro i l h;have hi:i<k'.length:=by
   rcases Nat.lt_or_ge i k'.length with q|q
   ·exact q
   ·rw[<-O.len]at q
    simp [Iota.ren,List.getElem?_eq_none q]at h
  rcases side i hi with⟨h1,h2⟩|h1
  ·rw[show(ι'.ren τ) i=none by simp [Iota.ren,(O.other i h1 h2.1 h2.2).1];exact H'.out _ (Nat.le_refl _)]at h
   cases h
  ·obtain⟨m,x,zz,g1,_⟩:=O.obj i h1 hi
   rw[at2 i m g1 h1,<-h];simp [Iota.ren,g1]
 have obO:∀b,Ob k' ι2 b->(Ob k ι b/\¬Ob h0 ι0 b)\/Ob h' ι' b:=by
  rintro b ⟨i,o,l,g1,g2,g3⟩;rcases side i (aM g1)with⟨h1,h2⟩|h1
  ·rw[(O.other i h1 h2.1 h2.2).2]at g1
   rw[at2o i h1 h2]at g2;refine .inl ⟨⟨i,o,l,g1,g2,g3⟩,?_⟩;rintro⟨j,o2,l2,f1,f2,f3⟩;obtain⟨i2,oc,d1,d2,_⟩:=getσ j o2 f1;rw[at0 j i2 d1]at f2;have:=H.apart _ _ _ _ _ _ g1 g2 d2 f2 (by rw[g3,f3]);subst this;exact h2.1 (bZ d1)
  ·obtain⟨m,x,zz,d1,d2,d3,d4⟩:=O.obj i h1 (aM g1)
   rw[g1]at d3;injection d3 with d3;subst d3;obtain⟨ox,rfl,_⟩:=d4.2 o rfl;rw[at2 i m d1 h1]at g2;exact .inr ⟨m,ox,l,d2,g2,g3⟩
 have x0:∀b,ι.X b->X0 b:=fun b q=>⟨.inl q,fun r=>H.xob b q (obk b r)⟩
 have mt2:∀b,Mt k' ι2 b->Mt h' ι' b:=by
  rintro b (q|q)
  ·exact .inl (by rw[hX];exact x0 b q)
  ·rcases obO b q with⟨q1,q2⟩|q1
   ·exact .inl (by rw[hX];exact⟨.inr q1,q2⟩)
   ·exact .inr q1
 have ev2:Evolve k ι w k' ι2 w':=by
  refine⟨ev.os,ev.tape,ev.output,ev.size,fun i l hl=>?_,rfl,fun b hb hn=>?_,ev.sizes⟩
  ·have hi:i<k.length:=by
     rcases Nat.lt_or_ge i k.length with q|q
     ·exact q
     ·rw[H.out i q]at hl;cases hl
   by_cases h1:i∈σ
   ·obtain⟨j,hj,rfl⟩:=List.getElem_of_mem h1
    have hs:=List.getElem?_eq_getElem hj;rw[at2 _ j (O.old j _ hs) (.inl h1)];exact ev.iota j l ((at0 j _ hs).trans hl)
   ·by_cases h3:i∈N
    ·rw[H.free i (hN i h3)]at hl;cases hl
    ·rw[at2o i hi ⟨h1,h3⟩];exact hl
  ·have hn0:¬Ob h0 ι0 b:=fun q=>hn (obk b q)
   obtain⟨g1,g2⟩:=ev.frame b hb hn0;refine⟨g1,fun q=>?_⟩;rcases obO b q with⟨q1,_⟩|q1
   ·exact hn q1
   ·exact g2 q1
 have rep2:∀ {x y:V} {v:Value},bX τ x y->Rep w' ι' (Mt h' ι') x v->Rep w' ι2 (Mt k' ι2) y v:=fun hr r=>
  Rep.ext ext2 (fun b q=>q) (hr w' ι' _ _ mt2 _ r)
 refine⟨z,y',k',ι2,rfl,⟨rfl,rfl⟩,rep2 hy rz,?_,ev2⟩;refine⟨fun i o ho=>?_,fun i hi=>?_,fun i hi=>?_,fun i1 o1 l1 i2 o2 l2 a1 a2 b1 b2 hb=>?_,fun b hb=>Nat.lt_of_lt_of_le (H.xlt b hb) ev.size,fun b hb q=>?_⟩
 ·rcases side i (aM ho)with⟨h1,h2⟩|h1
  ·have hok:=ho
   rw[(O.other i h1 h2.1 h2.2).2]at hok;obtain⟨l,c,fr,g1,la⟩:=H.live i o hok;have hob:Ob k ι l.blk:=⟨i,o,l,hok,g1,rfl⟩
   have hn0:¬Ob h0 ι0 l.blk:=by
    rintro⟨j,o2,l2,f1,f2,f3⟩;obtain⟨i2,oc,d1,d2,_⟩:=getσ j o2 f1;rw[at0 j i2 d1]at f2;have:=H.apart _ _ _ _ _ _ hok g1 d2 f2 f3.symm;subst this;exact h2.1 (bZ d1)
   refine⟨l,c,fr,(at2o i h1 h2).trans g1,⟨((ev.frame _ (H.blk_lt hob) hn0).1).trans la.blk,la.unfrozen,la.sz,la.rows,la.fits,fun a ha b hb=>?_⟩⟩;obtain⟨v,v1,v2⟩:=la.reads a ha b hb;exact⟨v,v1,v2.mono ev2⟩
  ·obtain⟨m,x,zz,d1,d2,d3,d4⟩:=O.obj i h1 (aM ho)
   rw[ho]at d3;injection d3 with d3;subst d3;obtain⟨ox,rfl,g3⟩:=d4.2 o rfl;obtain⟨l,c,fr,g1,la⟩:=H'.live m ox d2;refine⟨l,c,fr,(at2 i m d1 h1).trans g1,⟨by rw[<-g3.elem];exact la.blk,by rw[<-g3.elem,<-g3.sz];exact la.unfrozen,by rw[<-g3.sz];exact la.sz,fun r' hr'=>?_,by rw[<-g3.sz,<-g3.len];exact la.fits,fun a ha b hb=>?_⟩⟩
   ·obtain⟨a,ha,e⟩:=List.getElem_of_mem hr'
    have ha1:a<ox.rows.length:=by rw[g3.len];exact ha
    have u:=g3.rows a _ _ (List.getElem?_eq_getElem ha1) (List.getElem?_eq_getElem ha);rw[<-e,<-u.1,<-g3.sz];exact la.rows _ (List.getElem_mem ha1)
   ·have ha1:a<ox.rows.length:=by rw[g3.len];exact ha
    have u:=g3.rows a _ _ (List.getElem?_eq_getElem ha1) (List.getElem?_eq_getElem ha);have hb1:b<ox.rows[a].length:=by rw[u.1];exact hb
    obtain⟨v,v1,v2⟩:=la.reads a ha1 b hb1;exact⟨v,by rw[<-g3.sz];exact v1,rep2 (u.2 b _ _ (List.getElem?_eq_getElem hb1) (List.getElem?_eq_getElem hb)) v2⟩
 ·rcases side i (aM hi)with⟨h1,h2⟩|h1
  ·rw[(O.other i h1 h2.1 h2.2).2]at hi
   rw[at2o i h1 h2];exact H.free i hi
  ·exfalso
   obtain⟨m,x,zz,d1,d2,d3,d4⟩:=O.obj i h1 (aM hi);rw[hi]at d3;injection d3 with d3;subst d3;exact d4.1 rfl
 ·show(match τ[i]? with
    |some m=>if i∈σ\/(i∈N\/k.length<=i)then ι' m else ι i
    |none=>none)=_
  rw[List.getElem?_eq_none (by rw[O.len];exact hi)]
 ·rcases side i1 (aM a1)with⟨h1,h2⟩|h1<;>rcases side i2 (aM b1)with⟨f1,f2⟩|f1
  ·rw[(O.other i1 h1 h2.1 h2.2).2]at a1
   rw[(O.other i2 f1 f2.1 f2.2).2]at b1;rw[at2o i1 h1 h2]at a2;rw[at2o i2 f1 f2]at b2;exact H.apart _ _ _ _ _ _ a1 a2 b1 b2 hb
  ·exfalso
   have q:Ob k' ι2 l1.blk:=⟨i1,o1,l1,a1,a2,rfl⟩
   rw[(O.other i1 h1 h2.1 h2.2).2]at a1;rw[at2o i1 h1 h2]at a2;obtain⟨m,x,zz,d1,d2,d3,d4⟩:=O.obj i2 f1 (aM b1);rw[b1]at d3;injection d3 with d3;subst d3;obtain⟨ox,rfl,_⟩:=d4.2 o2 rfl;rw[at2 i2 m d1 f1]at b2;have hx:X0 l1.blk:=by
    refine⟨.inr ⟨i1,o1,l1,a1,a2,rfl⟩,?_⟩;rintro⟨j,o3,l3,g1,g2,g3⟩;obtain⟨i3,oc,e1,e2,_⟩:=getσ j o3 g1;have g2':ι i3=some l3:=(at0 j i3 e1).symm.trans g2;have:=H.apart _ _ _ _ _ _ a1 a2 e2 g2' g3.symm;subst this;exact h2.1 (bZ e1)
   exact H'.xob _ (by rw[hX];exact hx) ⟨m,ox,l2,d2,b2,hb.symm⟩
  ·exfalso
   rw[(O.other i2 f1 f2.1 f2.2).2]at b1;rw[at2o i2 f1 f2]at b2;obtain⟨m,x,zz,d1,d2,d3,d4⟩:=O.obj i1 h1 (aM a1);rw[a1]at d3;injection d3 with d3;subst d3;obtain⟨ox,rfl,_⟩:=d4.2 o1 rfl;rw[at2 i1 m d1 h1]at a2;have hx:X0 l2.blk:=by
    refine⟨.inr ⟨i2,o2,l2,b1,b2,rfl⟩,?_⟩;rintro⟨j,o3,l3,g1,g2,g3⟩;obtain⟨i3,oc,e1,e2,_⟩:=getσ j o3 g1;have g2':ι i3=some l3:=(at0 j i3 e1).symm.trans g2;have:=H.apart _ _ _ _ _ _ b1 b2 e2 g2' g3.symm;subst this;exact f2.1 (bZ e1)
   exact H'.xob _ (by rw[hX];exact hx) ⟨m,ox,l1,d2,a2,hb⟩
  ·obtain⟨m1,x1,z1,d1,d2,d3,d4⟩:=O.obj i1 h1 (aM a1)
   obtain⟨m2,x2,z2,c1,c2,c3,c4⟩:=O.obj i2 f1 (aM b1);rw[a1]at d3;injection d3 with d3;subst d3;rw[b1]at c3;injection c3 with c3;subst c3;obtain⟨ox1,rfl,_⟩:=d4.2 o1 rfl;obtain⟨ox2,rfl,_⟩:=c4.2 o2 rfl;rw[at2 i1 m1 d1 h1]at a2;rw[at2 i2 m2 c1 f1]at b2;have:=H'.apart _ _ _ _ _ _ d2 a2 c2 b2 hb;subst this;exact O.inj i1 i2 _ o1 o2 h1 f1 a1 b1 d1 c1
 ·rcases obO b q with⟨q1,_⟩|q1
  ·exact H.xob b hb q1
  ·exact H'.xob b (by rw[hX];exact x0 b hb) q1
end Go.Abs
