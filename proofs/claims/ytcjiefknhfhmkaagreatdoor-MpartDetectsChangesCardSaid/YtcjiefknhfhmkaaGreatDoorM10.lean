import Derived.Test.YtcjiefknhfhmkaaGreatDoorM09
namespace Go.Proofs.YtcjiefknhfhmkaaGreatDoor
open Go.Abs
set_option maxRecDepth 100000
set_option maxHeartbeats 4000000
set_option linter.unusedVariables false
set_option linter.unusedSimpArgs false
abbrev cC:Ty:=.pair (.list qK) (.int .i64)
abbrev Schema:Type:=(List Col)×Int
@[reducible] instance:Inhabited Schema:=instInhabitedDen cC
abbrev fP:Ty:=.pair (.int .i64) (.list bQ)
abbrev Rec:Type:=Int×List Val
@[reducible] instance:Inhabited Rec:=instInhabitedDen fP
abbrev tM:Ty:=.pair bQ (.int .i64)
abbrev Rank:Type:=Val×Int
@[reducible] instance:Inhabited Rank:=instInhabitedDen tM
abbrev kN:Ty:=.pair (.int .i64) (.pair (.int .i64) (.pair bQ bQ))
abbrev Zone:Type:=Int×Int×Val×Val
@[reducible] instance:Inhabited Zone:=instInhabitedDen kN
abbrev qCA:Ty:=.pair (.int .i64) (.pair (.list kN) (.pair tM tM))
abbrev Info:Type:=Int×(List Zone)×Rank×Rank
@[reducible] instance:Inhabited Info:=instInhabitedDen qCA
abbrev KEY:ByteArray:=⟨#[107,101,121]⟩
def kD (first:Bool) (c:Int):Bool:=(decide (97<=c)&&decide (c<=122))||(!first&&(decide (c=95)||(decide (48<=c)&&decide (c<=57))))
def nU (s:ByteArray):Bool:=decide (1<=s.size)&&decide (s.size<=16) && !(decide (s=KEY))&&(List.range s.size).all (fun i=>kD (decide (i=0)) (aG s i))
theorem CB {s:ByteArray} (h1:1<=s.size) (h2:s.size<=16) (h3:¬s=KEY) (h4:∀i,i<s.size->kD (decide (i=0)) (aG s i)=true):nU s=true:=by
 simp only[nU,h3,Bool.and_eq_true,decide_eq_true_eq,List.all_eq_true,List.mem_range,decide_false]
 exact⟨⟨⟨h1,h2⟩,rfl⟩,h4⟩
theorem yB {s:ByteArray} (i:Nat) (hi:i<s.size) (h:kD (decide (i=0)) (aG s i)=false):nU s=false:=by
 have:(List.range s.size).all (fun i=>kD (decide (i=0)) (aG s i))=false:=by
  rw[List.all_eq_false]
  exact⟨i,by simpa using hi,by simp [h]⟩
 simp [nU,this]
theorem GU {s:ByteArray} {k:Int} (h0:0<=k/\k<s.size) (h:kD (decide (k.toNat=0)) (aG s k.toNat)=false):nU s=false:=yB k.toNat (by omega) h
def pJ (name:ByteArray) (l:List Col) (k:Int):Int:=mV (fun c=>decide (c.1=name)) k l
def jE (c:Col):Bool:=decide (0<=c.2.2.1)&&decide (c.2.2.1<=18)&&(decide (c.2.1=5)||decide (c.2.2.1=0))
def dK (l:List Col) (i:Int) (c:Col):Int:=if nU c.1=false then 3 else if pJ c.1 l 0<i then 5 else if cA c.2.1=false then 11 else if jE c=false then 4 else 0
def aU (s:Schema):Int:=if s.1.length=0 then 1 else if 12<s.1.length then 7 else if bU (dK s.1) 0 s.1≠0 then bU (dK s.1) 0 s.1
 else if s.2<0\/s.1.length<=s.2 then 4 else 0
theorem OC {name:ByteArray} {l:List Col} {k:Int} (j:Nat) (hj:j<k.toNat) (hl:k.toNat<l.length) (h:l[j]!.1=name):pJ name l 0<k:=by
 rcases rC (fun c:Col=>decide (c.1=name)) l 0 with⟨h1,h2⟩|⟨i,h1,h2,h3,h4⟩
 · have:=h2 j (by omega);rw[decide_eq_true h]at this;cases this
 · rw[pJ,h2]
   by_cases q:j<i
   · have:=h4 j q;rw[decide_eq_true h]at this;cases this
   · omega
theorem BV {name:ByteArray} {l:List Col} {k:Int} (hk:0<=k/\k<l.length) (hn:l[k.toNat]!.1=name) (h:∀j:Nat,j<k.toNat->¬l[j]!.1=name):¬pJ name l 0<k:=by
 rcases rC (fun c:Col=>decide (c.1=name)) l 0 with⟨h1,h2⟩|⟨i,h1,h2,h3,h4⟩
 · have:=h2 k.toNat (by omega);rw[decide_eq_true hn]at this;cases this
 · rw[pJ,h2]
   intro q
   exact h i (by omega) (of_decide_eq_true h3)
abbrev JV:Ct:=.fn [.str] (none) (fun(s:ByteArray)=>.d .bool (nU s))
theorem qP6:aH Tryz.prog 104 JV:=by
 refine aH.fn qD3 mixed [] [] rfl rfl ?_
 rintro⟨(s:ByteArray),_⟩ -
 refine⟨[(0,8,LA.mk [.sl 28 (.int .i64)] (fun y=>Tag 49/\cu [.int .i64] (fun(k:Int)=>(0<=k/\k<=s.size)/\(∀i:Nat,i<k.toNat->kD (decide (i=0)) (aG s i)=true)) y) (cu [.int .i64] (fun(k:Int)=>((s.size:Int)-k).toNat)) (cu [.int .i64] (fun(k:Int)=>([]:List (Nat×Nat×LA)))))],?_⟩
 repeat' (first
  |(
 with_reducible refine Side.mk ⟨(⟨⟩:Tag 49),?_⟩
 dsimp only[cu,aC,aB,gts,Prod.eta,List.nil_append]
 refine⟨?_,?_⟩
 · omega
 · first
   |(intro i hi;simp at hi;done)
   |(
  intro i hi
  by_cases q:i<k.toNat
  · exact hall i q
  · have e:i=k.toNat:=by omega
    subst e
    have:(k=0)=(k.toNat=0):=by apply propext;omega
    grind [kD]))
  |(
 with_reducible refine Side.mk ?_
 (try dsimp only[cu,aC,aB,gts,loK,hiK,Prod.eta,List.nil_append])
 first
 |(omega)
 |(have:=yU (s:=s) (by assumption);omega))
  |(conv=>whnf
    first
     |done
     |exact trivial
     |with_reducible refine NilBr.mk (fun h=>?_) ?_
     |with_reducible first|refine aJ ?_ ?_|refine aI ?_ ?_|refine aK (by kernel_rfl) ?_|refine aL ?_|refine bD ?_ ?_|refine bC ?_ ?_|refine aR ?_ ?_
     |((with_reducible first|refine aT (fun h=>?_) (fun h=>?_)|refine aS (fun h=>?_) (fun h=>?_)|refine bA (fun h=>?_) (fun h=>?_))<;>(try dsimp only[cu,Prod.eta,List.nil_append]at h)<;>(try(exfalso;omega;done)))
     |(
 intro yy (hy:Tag 49/\_)
 obtain⟨(k:Int),_⟩:=yy
 replace hy:=hy.2
 dsimp only[cu,aC,aB,gts,Prod.eta,List.nil_append]at hy
 obtain⟨hk,hall⟩:=hy)))
 all_goals(
 with_reducible refine Leaf.mk ?_
 (try dsimp only[cu,aC,aB,gts,Prod.eta,List.nil_append]at *)
 first
 |(subst_vars;rfl)
 |(rw[CB]<;>grind [yU])
 |(
  rw[yB 0 (by have:=yU (by assumption);omega)]
  grind [kD])
 |(
  rw[GU (k:=k) (by omega)]
  grind [kD])
 |(grind [nU,kD]))
abbrev qXW:Tbl:=(104,JV)::qXV
theorem qD4:aD Tryz.prog qXW:=aD.cons qP6 qD3
abbrev FA:Ct:=.fn [.str] (none) (fun(s:ByteArray)=>.d .bool (nU s))
theorem qMC:aH Tryz.prog 53 FA:=by
 refine aH.fn qD4 mixed [] [] rfl rfl ?_
 rintro⟨(s:ByteArray),_⟩ -
 refine⟨[(0,8,LA.mk [.sl 3 (.int .i64)] (fun y=>Tag 50/\cu [.int .i64] (fun(k:Int)=>(0<=k/\k<=s.size)/\(∀i:Nat,i<k.toNat->kD (decide (i=0)) (aG s i)=true)) y) (cu [.int .i64] (fun(k:Int)=>((s.size:Int)-k).toNat)) (cu [.int .i64] (fun(k:Int)=>([]:List (Nat×Nat×LA)))))],?_⟩
 repeat' (first
  |(
 with_reducible refine Side.mk ⟨(⟨⟩:Tag 50),?_⟩
 dsimp only[cu,aC,aB,gts,Prod.eta,List.nil_append]
 refine⟨?_,?_⟩
 · omega
 · first
   |(intro i hi;simp at hi;done)
   |(
  intro i hi
  by_cases q:i<k.toNat
  · exact hall i q
  · have e:i=k.toNat:=by omega
    subst e
    have:(k=0)=(k.toNat=0):=by apply propext;omega
    grind [kD]))
  |(
 with_reducible refine Side.mk ?_
 (try dsimp only[cu,aC,aB,gts,loK,hiK,Prod.eta,List.nil_append])
 omega)
  |(conv=>whnf
    first
     |done
     |exact trivial
     |with_reducible refine NilBr.mk (fun h=>?_) ?_
     |with_reducible first|refine aJ ?_ ?_|refine aI ?_ ?_|refine aK (by kernel_rfl) ?_|refine aL ?_|refine bD ?_ ?_|refine bC ?_ ?_|refine aR ?_ ?_
     |((with_reducible first|refine aT (fun h=>?_) (fun h=>?_)|refine aS (fun h=>?_) (fun h=>?_)|refine bA (fun h=>?_) (fun h=>?_))<;>(try dsimp only[cu,Prod.eta,List.nil_append]at h)<;>(try(exfalso;omega;done)))
     |(
 intro yy (hy:Tag 50/\_)
 obtain⟨(k:Int),_⟩:=yy
 replace hy:=hy.2
 dsimp only[cu,aC,aB,gts,Prod.eta,List.nil_append]at hy
 obtain⟨hk,hall⟩:=hy)))
 all_goals(
 with_reducible refine Leaf.mk ?_
 (try dsimp only[cu,aC,aB,gts,Prod.eta,List.nil_append]at *)
 first
 |(subst_vars;rfl)
 |(rw[CB]<;>grind [yU])
 |(
  rw[GU (k:=k) (by omega)]
  grind [kD])
 |(grind [nU,kD]))
abbrev qXX:Tbl:=(53,FA)::qXW
theorem qD5:aD Tryz.prog qXX:=aD.cons qMC qD4
abbrev JH:Ct:=.fn [cC,.str] (some (fun(s:Schema) (name:ByteArray)=>(s.1.length<=9223372036854775807))) (fun(s:Schema) (name:ByteArray)=>.d (.int .i64) (pJ name s.1 0))
theorem qO3:aH Tryz.prog 105 JH:=by
 refine aH.fn qD5 mixed [] [143,144] rfl rfl ?_
 rintro⟨(s:Schema),(name:ByteArray),_⟩ hpre
 replace hpre:=hpre _ rfl
 dsimp only[cu]at hpre
 have hl:=hpre
 refine⟨[(143,4,LA.mk [.sl 8 (.int .i64)] (fun y=>Tag 51/\cu [.int .i64] (fun(k:Int)=>(0<=k/\k<=s.1.length)/\(pJ name s.1 0=pJ name (s.1.drop k.toNat) k)) y) (cu [.int .i64] (fun(k:Int)=>((s.1.length:Int)-k).toNat)) (cu [.int .i64] (fun(k:Int)=>([]:List (Nat×Nat×LA)))))],?_⟩
 repeat' (first
  |(
 with_reducible refine Side.mk ⟨(⟨⟩:Tag 51),?_⟩
 dsimp only[cu,aC,aB,gts,Prod.eta,List.nil_append]
 refine⟨?_,?_⟩
 · omega
 · first
   |(simp;done)
   |(
  rw[bI _ _ (by omega)]at hi
  simp only[pJ,mV]at hi ⊢
  rw[hi]
  grind))
  |(
 with_reducible refine Side.mk ?_
 (try dsimp only[cu,aC,aB,gts,loK,hiK,Prod.eta,List.nil_append])
 omega)
  |(conv=>whnf
    first
     |done
     |exact trivial
     |with_reducible refine NilBr.mk (fun h=>?_) ?_
     |with_reducible first|refine aJ ?_ ?_|refine aI ?_ ?_|refine aK (by kernel_rfl) ?_|refine aL ?_|refine bD ?_ ?_|refine bC ?_ ?_|refine aR ?_ ?_
     |((with_reducible first|refine aT (fun h=>?_) (fun h=>?_)|refine aS (fun h=>?_) (fun h=>?_)|refine bA (fun h=>?_) (fun h=>?_))<;>(try dsimp only[cu,Prod.eta,List.nil_append]at h)<;>(try(exfalso;omega;done)))
     |(
 intro yy (hy:Tag 51/\_)
 obtain⟨(k:Int),_⟩:=yy
 replace hy:=hy.2
 dsimp only[cu,aC,aB,gts,Prod.eta,List.nil_append]at hy
 obtain⟨hk,hi⟩:=hy)))
 all_goals(
 with_reducible refine Leaf.mk ?_
 (try dsimp only[cu,aC,aB,gts,Prod.eta,List.nil_append]at *)
 first
 |(
  rw[hi,bI _ _ (by omega)]
  simp only[pJ,mV]
  grind)
 |(
  rw[hi,lQ _ _ (by omega)]
  rfl))
abbrev qXY:Tbl:=(105,JH)::qXX
theorem qD6:aD Tryz.prog qXY:=aD.cons qO3 qD5
abbrev BN:Ct:=.fn [cC] (none) (fun(s:Schema)=>.d (.int .i64) (aU s))
theorem qHE:aH Tryz.prog 60 BN:=by
 refine aH.fn qD6 mixed [] [] rfl rfl ?_
 rintro⟨(s:Schema),_⟩ -
 refine⟨[(0,12,LA.mk [.sl 18 (.int .i64)] (fun y=>Tag 52/\cu [.int .i64] (fun(k:Int)=>(0<=k/\k<=s.1.length)/\(bU (dK s.1) 0 s.1=bU (dK s.1) k (s.1.drop k.toNat))) y) (cu [.int .i64] (fun(k:Int)=>((s.1.length:Int)-k).toNat)) (cu [.int .i64] (fun(k:Int)=>([]:List (Nat×Nat×LA)))))],?_⟩
 repeat' (first
  |(
 with_reducible refine Side.mk ⟨(⟨⟩:Tag 52),?_⟩
 dsimp only[cu,aC,aB,gts,Prod.eta,List.nil_append]
 refine⟨?_,?_⟩
 · omega
 · first
   |(simp;done)
   |(
  rw[bI _ _ (by omega)]at hi
  rw[hi,bU,if_pos (by grind [dK,jE,cA])]))
  |(
 with_reducible refine Side.mk ?_
 (try dsimp only[cu,aC,aB,gts,loK,hiK,Prod.eta,List.nil_append])
 omega)
  |(conv=>whnf
    first
     |done
     |exact trivial
     |with_reducible refine NilBr.mk (fun h=>?_) ?_
     |with_reducible first|refine aJ ?_ ?_|refine aI ?_ ?_|refine aK (by kernel_rfl) ?_|refine aL ?_|refine bD ?_ ?_|refine bC ?_ ?_|refine aR ?_ ?_
     |((with_reducible first|refine aT (fun h=>?_) (fun h=>?_)|refine aS (fun h=>?_) (fun h=>?_)|refine bA (fun h=>?_) (fun h=>?_))<;>(try dsimp only[cu,Prod.eta,List.nil_append]at h)<;>(try(exfalso;omega;done)))
     |(
 intro yy (hy:Tag 52/\_)
 obtain⟨(k:Int),_⟩:=yy
 replace hy:=hy.2
 dsimp only[cu,aC,aB,gts,Prod.eta,List.nil_append]at hy
 obtain⟨hk,hi⟩:=hy)))
 all_goals(
 with_reducible refine Leaf.mk ?_
 (try dsimp only[cu,aC,aB,gts,Prod.eta,List.nil_append]at *)
 first
 |(grind [aU])
 |(
  have e:bU (dK s.1) 0 s.1=dK s.1 k s.1[k.toNat]!:=(by rw[hi,bI _ _ (by omega),bU];grind [dK,cA,jE])
  grind [aU,dK,cA,jE])
 |(
  rw[lQ _ _ (by omega)]at hi
  grind [aU,bU]))
abbrev qXZ:Tbl:=(60,BN)::qXY
theorem qD7:aD Tryz.prog qXZ:=aD.cons qHE qD6
abbrev xB:Ct:=.fn [cC] (none) (fun(s:Schema)=>.d (.int .i64) (aU s))
theorem ZD:aH Tryz.prog 20 xB:=by
 refine aH.fn qD7 mixed [] [] rfl rfl ?_
 rintro⟨(s:Schema),_⟩ -
 refine⟨[(0,12,LA.mk [.sl 18 (.int .i64)] (fun y=>Tag 53/\cu [.int .i64] (fun(k:Int)=>(0<=k/\k<=s.1.length)/\(bU (dK s.1) 0 s.1=bU (dK s.1) k (s.1.drop k.toNat))) y) (cu [.int .i64] (fun(k:Int)=>((s.1.length:Int)-k).toNat)) (cu [.int .i64] (fun(k:Int)=>([(0,22,LA.mk [.sl 32 (.int .i64)] (fun y=>Tag 54/\cu [.int .i64] (fun(j:Int)=>(0<=j/\j<=k)/\(∀i:Nat,i<j.toNat->¬s.1[i]!.1=s.1[k.toNat]!.1)) y) (cu [.int .i64] (fun(j:Int)=>(k-j).toNat)) (cu [.int .i64] (fun(j:Int)=>([]:List (Nat×Nat×LA)))))]:List (Nat×Nat×LA)))))],?_⟩
 repeat' (first
  |(
 with_reducible refine Side.mk ⟨(⟨⟩:Tag 53),?_⟩
 dsimp only[cu,aC,aB,gts,Prod.eta,List.nil_append]
 refine⟨?_,?_⟩
 · omega
 · first
   |(simp;done)
   |(
  have hcol:=BV (l:=s.1) (k:=k) (by omega) rfl (fun i hi=>hd i (by have:=List.length_take (i:=k.toNat) (l:=s.1);omega))
  rw[bI _ _ (by omega)]at hi
  rw[hi,bU,if_pos (by grind [dK,jE,cA])]))
  |(
 with_reducible refine Side.mk ⟨(⟨⟩:Tag 54),?_⟩
 dsimp only[cu,aC,aB,gts,Prod.eta,List.nil_append]
 refine⟨?_,?_⟩
 · first
   |(omega)
   |(have:=List.length_take (i:=k.toNat) (l:=s.1);omega)
 · first
   |(intro i hi;simp at hi;done)
   |(
  intro i hi
  by_cases q:i<j.toNat
  · exact hd i q
  · have e:i=j.toNat:=by omega
    subst e
    rw[<-lH s.1 k.toNat j.toNat (by have:=List.length_take (i:=k.toNat) (l:=s.1);omega)]
    assumption))
  |(
 with_reducible refine Side.mk ?_
 (try dsimp only[cu,aC,aB,gts,loK,hiK,Prod.eta,List.nil_append])
 first
 |(omega)
 |(have:=List.length_take (i:=k.toNat) (l:=s.1);omega))
  |(conv=>whnf
    first
     |done
     |exact trivial
     |with_reducible refine NilBr.mk (fun h=>?_) ?_
     |with_reducible first|refine aJ ?_ ?_|refine aI ?_ ?_|refine aK (by kernel_rfl) ?_|refine aL ?_|refine bD ?_ ?_|refine bC ?_ ?_|refine aR ?_ ?_
     |((with_reducible first|refine aT (fun h=>?_) (fun h=>?_)|refine aS (fun h=>?_) (fun h=>?_)|refine bA (fun h=>?_) (fun h=>?_))<;>(try dsimp only[cu,Prod.eta,List.nil_append]at h)<;>(try(exfalso;omega;done)))
     |(
 intro yy (hy:Tag 53/\_)
 obtain⟨(k:Int),_⟩:=yy
 replace hy:=hy.2
 dsimp only[cu,aC,aB,gts,Prod.eta,List.nil_append]at hy
 obtain⟨hk,hi⟩:=hy)
     |(
 intro yy (hy:Tag 54/\_)
 obtain⟨(j:Int),_⟩:=yy
 replace hy:=hy.2
 dsimp only[cu,aC,aB,gts,Prod.eta,List.nil_append]at hy
 obtain⟨hj,hd⟩:=hy)))
 all_goals(
 with_reducible refine Leaf.mk ?_
 (try dsimp only[cu,aC,aB,gts,Prod.eta,List.nil_append]at *)
 first
 |(grind [aU])
 |(
  have hjk:j<k:=by have:=List.length_take (i:=k.toNat) (l:=s.1);omega
  have hcol:=OC (name:=s.1[k.toNat]!.1) (l:=s.1) (k:=k) j.toNat (by omega) (by omega) (by rw[<-lH s.1 k.toNat j.toNat (by omega)];assumption)
  have e:bU (dK s.1) 0 s.1=dK s.1 k s.1[k.toNat]!:=(by rw[hi,bI _ _ (by omega),bU];grind [dK,cA,jE])
  grind [aU,dK,cA,jE])
 |(
  have hcol:=BV (l:=s.1) (k:=k) (by omega) rfl (fun i hi=>hd i (by have:=List.length_take (i:=k.toNat) (l:=s.1);omega))
  have e:bU (dK s.1) 0 s.1=dK s.1 k s.1[k.toNat]!:=(by rw[hi,bI _ _ (by omega),bU];grind [dK,cA,jE])
  grind [aU,dK,cA,jE])
 |(
  have e:bU (dK s.1) 0 s.1=dK s.1 k s.1[k.toNat]!:=(by rw[hi,bI _ _ (by omega),bU];grind [dK,cA,jE])
  grind [aU,dK,cA,jE])
 |(
  rw[lQ _ _ (by omega)]at hi
  grind [aU,bU]))
abbrev qX0:Tbl:=(20,xB)::qXZ
theorem qD8:aD Tryz.prog qX0:=aD.cons ZD qD7
abbrev ABCD:ByteArray:=⟨#[97,98,99,100]⟩
def qKY (s:Src) (n:Int):Col×Src:=
 if 1+Src.pick s 5=5 then(⟨ABCD.extract (n-1).toNat n.toNat,1+Src.pick s 5,Src.pick (Src.next (Src.next s)) 4,decide (Src.pick (Src.next s) 2=0)⟩,Src.next (Src.next (Src.next s)))
 else(⟨ABCD.extract (n-1).toNat n.toNat,1+Src.pick s 5,0,decide (Src.pick (Src.next s) 2=0)⟩,Src.next (Src.next s))
def sX:Nat->Src->List Col->List Col×Src
 |0,s,acc=>(acc,s)
 |n+1,s,acc=>sX n (qKY s (n+1)).2 (acc++ [(qKY s (n+1)).1])
theorem YF {k:Int} (h:k>0) (s:Src) (acc:List Col):sX k.toNat s acc=sX (k-1).toNat (qKY s k).2 (acc++ [(qKY s k).1]):=by
 obtain⟨n,rfl⟩:∃n:Nat,k=(n:Int)+1:=⟨(k-1).toNat,by omega⟩
 rw[show((n:Int)+1).toNat=n+1 by omega,show((n:Int)+1-1).toNat=n by omega];rfl
def dS (l:List Int):Schema:=⟨(sX (1+Src.pick (l,0) 4).toNat (Src.next (l,0)) []).1,Src.pick (sX (1+Src.pick (l,0) 4).toNat (Src.next (l,0)) []).2 (sX (1+Src.pick (l,0) 4).toNat (Src.next (l,0)) []).1.length⟩
theorem qFF:(ByteArray.mk #[97,98,99,100]).size=4:=rfl
abbrev wV:Ct:=.fn [.list (.int .i64)] (some (fun(l:List Int)=>(l.length<=9223372036854775807))) (fun(l:List Int)=>.d cC (dS l))
theorem YI:aH Tryz.prog 13 wV:=by
 refine aH.fn qD8 mixed [] [] rfl rfl ?_
 rintro⟨(l:List Int),_⟩ hpre
 replace hpre:=hpre _ rfl
 dsimp only[cu]at hpre
 have hl:=hpre
 have hp0:=Src.pick_lt (s:=(l,0)) (n:=4) (by decide)
 refine⟨[(0,8,LA.mk [.sl 5 (.int .i64),.row 2 [.own qK 40,.same],.ob 1 oM 124] (fun y=>Tag 55/\cu [.int .i64,.list qK,oM] (fun(k:Int) (C:List Col) (q:Src)=>(0<=k/\k<=4)/\(Src.ok q)/\((C.length:Int)=1+Src.pick (l,0) 4-k)/\(sX (1+Src.pick (l,0) 4).toNat (Src.next (l,0)) []=sX k.toNat q C)) y) (cu [.int .i64,.list qK,oM] (fun(k:Int) (C:List Col) (q:Src)=>k.toNat)) (cu [.int .i64,.list qK,oM] (fun(k:Int) (C:List Col) (q:Src)=>([]:List (Nat×Nat×LA)))))],?_⟩
 repeat' (first
  |(
 with_reducible refine Side.mk ⟨(⟨⟩:Tag 55),?_⟩
 dsimp only[cu,aC,aB,gts,Prod.eta,List.nil_append]
 refine⟨?_,?_,?_,?_⟩
 · omega
 · (repeat (first|assumption|exact Src.ok_from (by assumption)|apply Src.ok_next|apply gR|apply kNode_ok))
 · first
   |(simp only[List.length_nil];omega)
   |(simp only[List.length_append,List.length_cons,List.length_nil];omega)
 · first
   |(rfl)
   |(
  rw[hg,YF (by assumption)]
  simp [qKY, *]))
  |(
 with_reducible refine Side.mk ?_
 (try dsimp only[cu,aC,aB,gts,loK,hiK,Prod.eta,List.nil_append])
 first
 |(done)
 |(omega)
 |(exact Eq.refl _)
 |(simp only[List.length_append,List.length_cons,List.length_nil];omega)
 |(rw[qFF];omega)
 |(
  refine⟨?_,by first|decide|exact ZQ (by omega)⟩
  (repeat (first|assumption|exact Src.ok_from (by assumption)|apply Src.ok_next|apply gR|apply kNode_ok));done)
 |(have:=@Src.pick_lt;grind))
  |(conv=>whnf
    first
     |done
     |exact trivial
     |with_reducible refine NilBr.mk (fun h=>?_) ?_
     |with_reducible first|refine aJ ?_ ?_|refine aI ?_ ?_|refine aK (by kernel_rfl) ?_|refine aL ?_|refine bD ?_ ?_|refine bC ?_ ?_|refine aR ?_ ?_
     |((with_reducible first|refine aT (fun h=>?_) (fun h=>?_)|refine aS (fun h=>?_) (fun h=>?_)|refine bA (fun h=>?_) (fun h=>?_))<;>(try dsimp only[cu,Prod.eta,List.nil_append]at h)<;>(try(exfalso;omega;done)))
     |(
 intro yy (hy:Tag 55/\_)
 obtain⟨(k:Int),(C:List Col),(q:Src),_⟩:=yy
 replace hy:=hy.2
 dsimp only[cu,aC,aB,gts,Prod.eta,List.nil_append]at hy
 obtain⟨hk,hq,hv,hg⟩:=hy)))
 all_goals(
 with_reducible refine Leaf.mk ?_
 (try dsimp only[cu,aC,aB,gts,Prod.eta,List.nil_append]at *)
 (
  rw[show k.toNat=0 by omega,sX]at hg
  simp [dS,hg]))
abbrev qX1:Tbl:=(13,wV)::qX0
theorem qD9:aD Tryz.prog qX1:=aD.cons YI qD8
def eR:List Col->Src->List Val×Src
 | [],q=>([],q)
 |c::cs,q=>((iS q c).1::(eR cs (iS q c).2).1,(eR cs (iS q c).2).2)
theorem qA:∀(cs:List Col) (q:Src),Src.ok q->Src.ok (eR cs q).2
 | [],q,h=>h
 |c::cs,q,h=>qA cs _ (by apply gR;exact h)
theorem SY {l:List Col} {k:Int} {q:Src} (h:0<=k/\k<l.length):eR (l.drop k.toNat) q=((iS q l[k.toNat]!).1::(eR (l.drop (k+1).toNat) (iS q l[k.toNat]!).2).1,(eR (l.drop (k+1).toNat) (iS q l[k.toNat]!).2).2):=by
 rw[bI l k h];rfl
abbrev JP:Ct:=.meth oM 124 [cC] (some (fun(s:Src) (x:Schema)=>(Src.ok s)/\(x.1.length<=1000))) (fun(s:Src) (x:Schema)=>.d (.list bQ) ((eR x.1 s).1)) (fun(s:Src) (x:Schema)=>(eR x.1 s).2)
theorem qPP:aH Tryz.prog 47 JP:=by
 refine aH.meth qD9 mixed [] [] rfl rfl ?_
 rintro(s:Src) ⟨(x:Schema),_⟩ hpre
 replace hpre:=hpre _ rfl
 dsimp only[cu]at hpre
 obtain⟨hs,hx⟩:=hpre
 refine⟨[(0,6,LA.mk [.sl 11 (.int .i64),.lst 5 bQ 43,.ob 0 oM 124] (fun y=>Tag 56/\cu [.int .i64,.list bQ,oM] (fun(k:Int) (M:List Val) (q:Src)=>(0<=k/\k<=x.1.length)/\(Src.ok q)/\(eR x.1 s=(M++(eR (x.1.drop k.toNat) q).1,(eR (x.1.drop k.toNat) q).2))/\((M.length:Int)<=k)) y) (cu [.int .i64,.list bQ,oM] (fun(k:Int) (M:List Val) (q:Src)=>((x.1.length:Int)-k).toNat)) (cu [.int .i64,.list bQ,oM] (fun(k:Int) (M:List Val) (q:Src)=>([]:List (Nat×Nat×LA)))))],?_⟩
 repeat' (first
  |(
 with_reducible refine Side.mk ⟨(⟨⟩:Tag 56),?_⟩
 dsimp only[cu,aC,aB,gts,Prod.eta,List.nil_append]
 refine⟨?_,?_,?_,?_⟩
 · omega
 · (repeat (first|assumption|exact Src.ok_from (by omega)|apply Src.ok_next|apply gR|apply qA))
 · first
   |(rfl)
   |(
  rw[hm,SY (by omega)]
  simp)
 · first
   |(simp;done)
   |(simp only[List.length_append,List.length_cons,List.length_nil];omega))
  |(
 with_reducible refine Side.mk ?_
 (try dsimp only[cu,aC,aB,gts,loK,hiK,Prod.eta,List.nil_append])
 first
 |(done)
 |(omega)
 |(exact Eq.refl _)
 |(simp only[List.length_append,List.length_cons,List.length_nil];omega))
  |(conv=>whnf
    first
     |done
     |exact trivial
     |with_reducible refine NilBr.mk (fun h=>?_) ?_
     |with_reducible first|refine aJ ?_ ?_|refine aI ?_ ?_|refine aK (by kernel_rfl) ?_|refine aL ?_|refine bD ?_ ?_|refine bC ?_ ?_|refine aR ?_ ?_
     |((with_reducible first|refine aT (fun h=>?_) (fun h=>?_)|refine aS (fun h=>?_) (fun h=>?_)|refine bA (fun h=>?_) (fun h=>?_))<;>(try dsimp only[cu,Prod.eta,List.nil_append]at h)<;>(try(exfalso;omega;done)))
     |(
 intro yy (hy:Tag 56/\_)
 obtain⟨(k:Int),(M:List Val),(q:Src),_⟩:=yy
 replace hy:=hy.2
 dsimp only[cu,aC,aB,gts,Prod.eta,List.nil_append]at hy
 obtain⟨hk,hq,hm,hl⟩:=hy)))
 all_goals(
 with_reducible refine Leaf.mk ?_
 (try dsimp only[cu,aC,aB,gts,Prod.eta,List.nil_append]at *)
 (
  rw[hm,List.drop_eq_nil_of_le (by omega)]
  simp [eR]))
abbrev qUU:Tbl:=(47,JP)::qX1
theorem rO:aD Tryz.prog qUU:=aD.cons qPP qD9
theorem qLD (b o n:Nat):NZ.ok ⟨b,o,52,43,.list bQ,bQ,0,fun a=>a,n⟩:=by
 refine⟨fun a=>rfl,?_,?_⟩
 · intro a j x hj h
   rcases j with _|j
   · exact(hj rfl).elim
   · cases h
 · intro a j x h
   rcases j with _|_|_|j
   · exact⟨_,(Option.some.inj h).symm⟩
   · exact⟨_,(Option.some.inj h).symm⟩
   · exact⟨_,(Option.some.inj h).symm⟩
   · cases h
theorem qLC (b o n:Nat):NZ.ok ⟨b,o,56,43,fP,bQ,1,fun a=>a.2,n⟩:=by
 refine⟨fun a=>rfl,?_,?_⟩
 · intro a j x hj h
   rcases j with _|_|j
   · exact⟨_,(Option.some.inj h).symm⟩
   · exact(hj rfl).elim
   · cases h
 · intro a j x h
   rcases j with _|_|_|j
   · exact⟨_,(Option.some.inj h).symm⟩
   · exact⟨_,(Option.some.inj h).symm⟩
   · exact⟨_,(Option.some.inj h).symm⟩
   · cases h
def atV (r:Rec) (i:Nat):Val:=if i<r.2.length then r.2[i]! else(true,0,⟨#[]⟩)
def fO (l:List Rec) (i:Nat):List Val:=l.map fun r=>atV r i
def oT (l:List Rec) (n:Int):List (List Val):=if n<1\/n>12 then[]else(List.range n.toNat).map (fO l)
def lO (l:List Rec) (n i k:Nat):List (List Val):=(List.range n).map fun j=>if j<i then fO l j else if j=i then fO (l.take k) i else[]
theorem jO (l:List Rec) (n i k:Nat):(lO l n i k).length=n:=by simp [lO]
theorem kT {l:List Rec} {n i k j:Nat} (h:j<n):(lO l n i k)[j]? =some (if j<i then fO l j else if j=i then fO (l.take k) i else[]):=by simp [lO,h]
theorem qOF (l:List Rec) (n:Nat):lO l n 0 0=List.replicate n []:=by
 apply List.ext_getElem?;intro j
 by_cases h:j<n
 · rw[kT h];simp [h,fO]
 · rw[List.getElem?_eq_none (by rw[jO];omega),List.getElem?_eq_none (by simp;omega)]
theorem XA (l:List Rec) (n i:Nat):lO l n i l.length=lO l n (i+1) 0:=by
 apply List.ext_getElem?;intro j
 by_cases h:j<n
 · rw[kT h,kT h]
   congr 1
   by_cases h1:j<i
   · rw[if_pos h1,if_pos (by omega)]
   · by_cases h2:j=i
     · subst h2;rw[if_neg h1,if_pos rfl,if_pos (by omega),List.take_length]
     · rw[if_neg h1,if_neg h2,if_neg (by omega)]
       split
       · simp [fO]
       · rfl
 · rw[List.getElem?_eq_none (by rw[jO];omega),List.getElem?_eq_none (by rw[jO];omega)]
theorem FU {l:List Rec} {n i k:Nat} (hi:i<n) (hk:k<l.length):(lO l n i k).set i (fO (l.take k) i++ [atV l[k]! i])=lO l n i (k+1):=by
 apply List.ext_getElem?;intro j
 by_cases h:j<n
 · rw[kT h]
   by_cases h2:i=j
   · subst h2
     rw[List.getElem?_set_self (by rw[jO];exact hi),if_neg (by omega),if_pos rfl,List.take_add_one,List.getElem?_eq_getElem hk,getElem!_pos l k hk]
     simp only[fO,List.map_append,Option.toList_some,List.map_cons,List.map_nil]
   · rw[List.getElem?_set_ne h2,kT h]
     congr 1
     split
     · rfl
     · rw[if_neg (fun q=>h2 q.symm),if_neg (fun q=>h2 q.symm)]
 · rw[List.getElem?_eq_none (by rw[List.length_set,jO];omega),List.getElem?_eq_none (by rw[jO];omega)]
theorem qF0 {l:List Rec} {n:Int} (h:¬(n<1\/n>12)):lO l n.toNat n.toNat 0=oT l n:=by
 rw[oT,if_neg h]
 apply List.map_congr_left
 intro j hj
 rw[if_pos (by simpa using hj)]
theorem qJJ {l:List Rec} {n i k:Nat} {a:List Val} (hi:i<n) (h:(lO l n i k)[i]? =some a):a=fO (l.take k) i:=by
 rw[kT hi,if_neg (by omega),if_pos rfl]at h;exact(Option.some.inj h).symm
theorem XB {l:List Rec} {n i k:Nat} (hi:i<n):(lO l n i k).set i (fO (l.take k) i)=lO l n i k:=by
 apply List.ext_getElem?;intro j
 by_cases h2:i=j
 · subst h2
   rw[List.getElem?_set_self (by rw[jO];exact hi),kT hi,if_neg (by omega),if_pos rfl]
 · rw[List.getElem?_set_ne h2]
theorem qF1 {l:List Rec} {n i k:Nat} (hi:i<n) (hk:k=l.length):(lO l n i k).set i (fO (l.take k) i)=lO l n (i+1) 0:=by
 rw[XB hi,hk,XA]
theorem lN (l:List Rec) (i:Nat):(fO l i).length=l.length:=by simp [fO]
abbrev JD:Ct:=.fn [.list fP,.int .i64] (some (fun(l:List Rec) (n:Int)=>(l.length<=1099511627776))) (fun(l:List Rec) (n:Int)=>.d (.list (.list bQ)) (oT l n))
theorem qOG:aH Tryz.prog 99 JD:=by
 refine aH.fnG (T:=qUU) [(0,3,1)] [] rfl rfl ?_
 rintro⟨(l:List Rec),(n:Int),_⟩ hpre
 replace hpre:=hpre _ rfl
 dsimp only[cu]at hpre
 have hl:=hpre
 refine⟨[],?_⟩
 repeat' (first
  |(
 with_reducible refine Side.mk ⟨(⟨⟩:Tag 57),?_⟩
 dsimp only[cu,aC,aB,gts,Prod.eta,List.nil_append]
 refine⟨?_,?_⟩
 · omega
 · first
   |(exact(qOF l n.toNat).symm)
   |(
  rw[hS2,show(i+1).toNat=i.toNat+1 by omega]
  exact qF1 (by omega) (by omega)))
  |(
 with_reducible refine Side.mk ⟨(⟨⟩:Tag 58),?_⟩
 dsimp only[cu,aC,aB,gts,Prod.eta,List.nil_append]
 refine⟨?_,?_⟩
 · omega
 · first
   |(exact hR)
   |(rw[hS2,show(k+1).toNat=k.toNat+1 by omega,<-FU (by omega) (by omega),atV,if_pos (by omega)])
   |(rw[hS2,show(k+1).toNat=k.toNat+1 by omega,<-FU (by omega) (by omega),atV,if_neg (by omega)]))
  |(
 with_reducible refine Side.mk ?_
 (try dsimp only[cu,aC,aB,gts,loK,hiK,Prod.eta,List.nil_append])
 first
 |(done)
 |(omega)
 |(simp only[List.length_append,List.length_cons,List.length_nil];omega)
 |(
  dsimp only at hrows
  omega)
 |(exact⟨rfl,rfl,rfl,rfl⟩)
 |(exact⟨⟨rfl,rfl,rfl,rfl⟩,rfl,rfl,by simp,by decide,rfl⟩)
 |(
  simp only[lN,List.length_take,List.length_cons,List.length_nil]
  omega))
  |(conv=>whnf
    first
     |done
     |exact trivial
     |(refine GoV.x 5 rO mixed (iL rO mixed [(0,3,1)] [] 4 _ _) (by exact rfl) ?_)
     |(refine GoV.nest (tO:=.list bQ) (t:=bQ) 5 5 0 (fun a=>a) 52 43 ([]) qLD rfl rfl (by exact rfl) ?_)
     |(refine GoV.sq ?_)
     |(intro(nb:Nat) (no:Nat) (hS:Heap) (ιS:Iota) (wS:World))
     |(intro(rows:List (List V)) (hrows:rows.length=_))
     |(intro(nv:Value))
     |(refine GoN.x 8 rO mixed (iL rO mixed [(0,3,1)] [] 4 _ _) (by exact rfl) (by exact rfl) ?_)
     |(refine GoN.block ?_)
     |(refine GoN.sq ?_)
     |(refine GoN.loop 5 [.sl 20 (.int .i64)] (fun y (R:List (Ty.den (.list bQ)))=>Tag 57/\cu [.int .i64] (fun(i:Int)=>fun(R:List (Ty.den (.list bQ)))=>(0<=i/\i<=n)/\(R=lO l n.toNat i.toNat 0)) y R) (fun y _=>cu [.int .i64] (fun(i:Int)=>(n-i).toNat) y) (by exact rfl) (by exact rfl) ?_ ?_)
     |(refine GoN.loopF (qLD _ _ _) rO mixed (iL rO mixed [(0,3,1)] [] 4 _ _) 8 [.sl 25 (.int .i64)] (fun y (R:List (Ty.den (.list bQ)))=>Tag 58/\cu [.int .i64] (fun(k:Int)=>fun(R:List (Ty.den (.list bQ)))=>(0<=k/\k<=l.length)/\(R=lO l n.toNat i.toNat k.toNat)) y R) (fun y _=>cu [.int .i64] (fun(k:Int)=>(l.length-k).toNat) y) (cu [.int .i64] (fun(k:Int)=>i.toNat)) (by exact rfl) (by exact rfl) ?_ ?_ ?_)
     |(
 intro yy (R:List (Ty.den (.list bQ))) (hy:Tag 57/\_)
 obtain⟨(i:Int),_⟩:=yy
 replace hy:=hy.2
 dsimp only[cu,aC,aB,gts,Prod.eta,List.nil_append]at hy
 obtain⟨hi,hR⟩:=hy)
     |(
 intro yy (R:List (Ty.den (.list bQ))) (ra:Ty.den (.list bQ)) (hy:Tag 58/\_) hra
 obtain⟨(k:Int),_⟩:=yy
 replace hy:=hy.2
 dsimp only[cu,aC,aB,gts,Prod.eta,List.nil_append]at hy hra
 obtain⟨hk,hS2⟩:=hy
 rw[hS2]at hra
 have hra:=qJJ (by omega) hra
 subst hra)
     |(
 intro yy (R:List (Ty.den (.list bQ))) (hy:Tag 58/\_) hle
 obtain⟨(k:Int),_⟩:=yy
 replace hy:=hy.2
 dsimp only[cu,aC,aB,gts,Prod.eta,List.nil_append]at hy hle
 obtain⟨hk,hS2⟩:=hy
 exfalso
 rw[hS2,jO]at hle
 omega)
     |with_reducible refine NilBr.mk (fun h=>?_) ?_
     |with_reducible first|refine aJ ?_ ?_|refine aI ?_ ?_|refine aK (by kernel_rfl) ?_|refine aL ?_|refine bD ?_ ?_|refine bC ?_ ?_|refine aR ?_ ?_
     |((with_reducible first|refine aT (fun h=>?_) (fun h=>?_)|refine aS (fun h=>?_) (fun h=>?_)|refine bA (fun h=>?_) (fun h=>?_))<;>(try dsimp only[cu,Prod.eta,List.nil_append]at h)<;>(try(exfalso;omega;done)))))
 all_goals(
 with_reducible refine Leaf.mk ?_
 (try dsimp only[cu,aC,aB,gts,Prod.eta,List.nil_append]at *)
 first
 |(rw[oT,if_pos (by omega)])
 |(
  rw[hR,show i.toNat=n.toNat by omega]
  exact qF0 (by omega)))
abbrev qX2:Tbl:=(99,JD)::qUU
theorem qEA:aD Tryz.prog qX2:=aD.cons qOG rO
abbrev gP:Val:=(true,0,⟨#[]⟩)
def rM (t g:Int) (a b:Val):Val:=if a.1=true/\b.1=true then gP else if a.1=true then b else if b.1=true then a else if fF t b a=g then b else a
def CS (t:Int) (z:Int×Val×Val) (v:Val):Int×Val×Val:=if v.1=true then(z.1+1,z.2.1,z.2.2)else(z.1,rM t (-1) z.2.1 v,rM t 1 z.2.2 v)
def zGo (t:Int) (l:List Val) (z:Int×Val×Val):Int×Val×Val:=l.foldl (CS t) z
def qQ (t:Int) (l:List Val):Zone:=((l.length:Int),zGo t l (0,gP,gP))
theorem zB {t:Int} {l:List Val} {k:Int} {z:Int×Val×Val} (h:0<=k/\k<l.length):zGo t (l.drop k.toNat) z=zGo t (l.drop (k+1).toNat) (CS t z l[k.toNat]!):=by
 rw[bI l k h];rfl
theorem qE5 {t:Int} {z:Int×Val×Val} {v:Val} (h:v.1=false):CS t z v=(z.1,rM t (-1) z.2.1 v,rM t 1 z.2.2 v):=by rw[CS,if_neg (by rw[h];exact Bool.noConfusion)]
theorem DI {t g:Int} {a b:Val} (hb:b.1=true) (ha:a.1=true->a=gP):rM t g a b=a:=by
 unfold rM
 by_cases h:a.1=true
 · rw[if_pos ⟨h,hb⟩,ha h]
 · rw[if_neg (fun q=>h q.1),if_neg h,if_pos hb]
theorem qBU {t g:Int} {a b:Val} (hb:b.1=false):(rM t g a b).1=true->rM t g a b=gP:=by
 unfold rM
 intro h
 rw[if_neg (fun q=>by rw[hb]at q;exact Bool.noConfusion q.2)]at h ⊢
 by_cases ha:a.1=true
 · rw[if_pos ha,hb]at h;cases h
 · rw[if_neg ha,if_neg (by rw[hb];exact Bool.noConfusion)]at h
   split at h
   · rw[hb]at h;cases h
   · exact absurd h ha
def yJ (v:Val):ByteArray:=if v.1=true then⟨#[0]⟩else(⟨#[1]⟩++aV (put (gB v.2.1))++aV (put (v.2.2.size:Int)))++v.2.2
theorem qLS {v:Val} (h:v.1=false):yJ v=(⟨#[1]⟩++aV (put (gB v.2.1))++aV (put (v.2.2.size:Int)))++v.2.2:=by rw[yJ,if_neg (by rw[h];exact Bool.noConfusion)]
theorem uI {v:Val}:(yJ v).size<=21+v.2.2.size:=by
 unfold yJ
 have p1:=bM (gB v.2.1)
 have p2:=bM ((v.2.2.size:Int))
 split
 · show 1<=_;omega
 · simp only[ByteArray.size_append,bK]
   have s1:(⟨#[1]⟩:ByteArray).size=1:=rfl
   omega
abbrev zV:Val:=(false,0,⟨#[]⟩)
def dD (s:ByteArray) (a:Int):Val×Int×Int:=if a<0\/a>s.size then(zV,0,4)else if a=s.size then(zV,0,10)else if aG s a.toNat>1 then(zV,0,2)else if aG s a.toNat=0 then(gP,a+1,0)
 else if(aA s (a+1)).2.2≠0 then(zV,0,(aA s (a+1)).2.2)else if(aA s (aA s (a+1)).2.1).2.2≠0 then(zV,0,(aA s (aA s (a+1)).2.1).2.2)
 else if(aA s (aA s (a+1)).2.1).1>s.size-(aA s (aA s (a+1)).2.1).2.1 then(zV,0,10)
 else((false,pR (aA s (a+1)).1,s.extract (aA s (aA s (a+1)).2.1).2.1.toNat ((aA s (aA s (a+1)).2.1).2.1+(aA s (aA s (a+1)).2.1).1).toNat),(aA s (aA s (a+1)).2.1).2.1+(aA s (aA s (a+1)).2.1).1,0)
abbrev zZ:Zone:=(0,0,zV,zV)
def fI (s:ByteArray) (a:Int):Zone×Int×Int:=if(aA s a).2.2≠0 then(zZ,0,(aA s a).2.2)else if(aA s a).1>4096 then(zZ,0,2)
 else if(aA s (aA s a).2.1).2.2≠0 then(zZ,0,(aA s (aA s a).2.1).2.2)else if(aA s (aA s a).2.1).1>4096 then(zZ,0,2)
 else if(dD s (aA s (aA s a).2.1).2.1).2.2≠0 then(zZ,0,(dD s (aA s (aA s a).2.1).2.1).2.2)else if(dD s (dD s (aA s (aA s a).2.1).2.1).2.1).2.2≠0 then(zZ,0,(dD s (dD s (aA s (aA s a).2.1).2.1).2.1).2.2)
 else(((aA s a).1,(aA s (aA s a).2.1).1,(dD s (aA s (aA s a).2.1).2.1).1,(dD s (dD s (aA s (aA s a).2.1).2.1).2.1).1),(dD s (dD s (aA s (aA s a).2.1).2.1).2.1).2.1,0)
def tD (z:Zone):ByteArray:=aV (put (eH 0 z.1))++aV (put (eH 0 z.2.1))++yJ z.2.2.1++yJ z.2.2.2
def mI (c:Col) (z:Zone):Bool:=if cA c.2.1=false\/z.2.1<0\/z.2.1>z.1\/z.1>4096\/(z.2.1>0/\c.2.2.2=false)then false
 else if z.2.1=z.1 then decide (z.2.2.1=gP)&&decide (z.2.2.2=gP)
 else if z.2.2.1.1=true\/z.2.2.2.1=true\/bR c z.2.2.1≠0\/bR c z.2.2.2≠0 then false
 else(decide (fF c.2.1 z.2.2.1 z.2.2.2<0)&&decide (z.1-z.2.1>1))||decide (fF c.2.1 z.2.2.1 z.2.2.2=0)
abbrev EO:Ct:=.fn [.int .i64,bQ,bQ] (none) (fun(t:Int) (a:Val) (b:Val)=>.d bQ (rM t (-1) a b))
theorem qK3:aH Tryz.prog 138 EO:=by
 refine aH.fn qEA mixed [] [] rfl rfl ?_
 rintro⟨(t:Int),(a:Val),(b:Val),_⟩ -
 refine⟨[],?_⟩
 repeat' (first
  |(
 with_reducible refine Side.mk ?_
 (try dsimp only[cu,aC,aB,gts,loK,hiK,Prod.eta,List.nil_append])
 done)
  |(conv=>whnf
    first
     |done
     |exact trivial
     |with_reducible refine NilBr.mk (fun h=>?_) ?_
     |with_reducible first|refine aJ ?_ ?_|refine aI ?_ ?_|refine aK (by kernel_rfl) ?_|refine aL ?_|refine bD ?_ ?_|refine bC ?_ ?_|refine aR ?_ ?_
     |((with_reducible first|refine aT (fun h=>?_) (fun h=>?_)|refine aS (fun h=>?_) (fun h=>?_)|refine bA (fun h=>?_) (fun h=>?_))<;>(try dsimp only[cu,Prod.eta,List.nil_append]at h)<;>(try(exfalso;omega;done)))))
 all_goals(
 with_reducible refine Leaf.mk ?_
 (try dsimp only[cu,aC,aB,gts,Prod.eta,List.nil_append]at *)
 grind [rM,fF,nS,AL])
abbrev qX3:Tbl:=(138,EO)::qX2
theorem qEB:aD Tryz.prog qX3:=aD.cons qK3 qEA
abbrev uX:Ct:=.fn [.int .i64,bQ,bQ] (none) (fun(t:Int) (a:Val) (b:Val)=>.d bQ (rM t 1 a b))
theorem ST:aH Tryz.prog 139 uX:=by
 refine aH.fn qEB mixed [] [] rfl rfl ?_
 rintro⟨(t:Int),(a:Val),(b:Val),_⟩ -
 refine⟨[],?_⟩
 repeat' (first
  |(
 with_reducible refine Side.mk ?_
 (try dsimp only[cu,aC,aB,gts,loK,hiK,Prod.eta,List.nil_append])
 done)
  |(conv=>whnf
    first
     |done
     |exact trivial
     |with_reducible refine NilBr.mk (fun h=>?_) ?_
     |with_reducible first|refine aJ ?_ ?_|refine aI ?_ ?_|refine aK (by kernel_rfl) ?_|refine aL ?_|refine bD ?_ ?_|refine bC ?_ ?_|refine aR ?_ ?_
     |((with_reducible first|refine aT (fun h=>?_) (fun h=>?_)|refine aS (fun h=>?_) (fun h=>?_)|refine bA (fun h=>?_) (fun h=>?_))<;>(try dsimp only[cu,Prod.eta,List.nil_append]at h)<;>(try(exfalso;omega;done)))))
 all_goals(
 with_reducible refine Leaf.mk ?_
 (try dsimp only[cu,aC,aB,gts,Prod.eta,List.nil_append]at *)
 grind [rM,fF,nS,AL])
abbrev qX4:Tbl:=(139,uX)::qX3
theorem qEC:aD Tryz.prog qX4:=aD.cons ST qEB
abbrev JZ:Ct:=.fn [] (none) (.d bQ gP)
theorem qQC:aH Tryz.prog 74 JZ:=by
 refine aH.fn qEC mixed [] [] rfl rfl ?_
 rintro⟨⟩ -
 refine⟨[],?_⟩
 repeat' (first
  |(
 with_reducible refine Side.mk ?_
 (try dsimp only[cu,aC,aB,gts,loK,hiK,Prod.eta,List.nil_append])
 done)
  |(conv=>whnf
    first
     |done
     |exact trivial
     |with_reducible refine NilBr.mk (fun h=>?_) ?_
     |with_reducible first|refine aJ ?_ ?_|refine aI ?_ ?_|refine aK (by kernel_rfl) ?_|refine aL ?_|refine bD ?_ ?_|refine bC ?_ ?_|refine aR ?_ ?_
     |((with_reducible first|refine aT (fun h=>?_) (fun h=>?_)|refine aS (fun h=>?_) (fun h=>?_)|refine bA (fun h=>?_) (fun h=>?_))<;>(try dsimp only[cu,Prod.eta,List.nil_append]at h)<;>(try(exfalso;omega;done)))))
 all_goals(
 with_reducible refine Leaf.mk ?_
 (try dsimp only[cu,aC,aB,gts,Prod.eta,List.nil_append]at *)
 done)
abbrev qX5:Tbl:=(74,JZ)::qX4
theorem qED:aD Tryz.prog qX5:=aD.cons qQC qEC
abbrev RF:Ct:=.fn [.int .i64,.int .i64,bQ,bQ] (none) (fun(t:Int) (g:Int) (a:Val) (b:Val)=>.d bQ (rM t g a b))
theorem qUB:aH Tryz.prog 75 RF:=by
 refine aH.fn qED mixed [] [] rfl rfl ?_
 rintro⟨(t:Int),(g:Int),(a:Val),(b:Val),_⟩ -
 refine⟨[],?_⟩
 repeat' (first
  |(
 with_reducible refine Side.mk ?_
 (try dsimp only[cu,aC,aB,gts,loK,hiK,Prod.eta,List.nil_append])
 done)
  |(conv=>whnf
    first
     |done
     |exact trivial
     |with_reducible refine NilBr.mk (fun h=>?_) ?_
     |with_reducible first|refine aJ ?_ ?_|refine aI ?_ ?_|refine aK (by kernel_rfl) ?_|refine aL ?_|refine bD ?_ ?_|refine bC ?_ ?_|refine aR ?_ ?_
     |((with_reducible first|refine aT (fun h=>?_) (fun h=>?_)|refine aS (fun h=>?_) (fun h=>?_)|refine bA (fun h=>?_) (fun h=>?_))<;>(try dsimp only[cu,Prod.eta,List.nil_append]at h)<;>(try(exfalso;omega;done)))))
 all_goals(
 with_reducible refine Leaf.mk ?_
 (try dsimp only[cu,aC,aB,gts,Prod.eta,List.nil_append]at *)
 grind [rM])
abbrev qX6:Tbl:=(75,RF)::qX5
theorem qEE:aD Tryz.prog qX6:=aD.cons qUB qED
abbrev BR:Ct:=.fn [.int .i64,.list bQ] (some (fun(t:Int) (l:List Val)=>(l.length<=1073741824))) (fun(t:Int) (l:List Val)=>.d kN (qQ t l))
theorem qH8:aH Tryz.prog 100 BR:=by
 refine aH.fn qEE mixed [] [] rfl rfl ?_
 rintro⟨(t:Int),(l:List Val),_⟩ hpre
 replace hpre:=hpre _ rfl
 dsimp only[cu]at hpre
 have hl:=hpre
 refine⟨[(0,6,LA.mk [.sl 15 (.int .i64),.row 1 [.same,.val (.int .i64),.val .bool,.val (.int .i64),.val .str,.val .bool,.val (.int .i64),.val .str]] (fun y=>Tag 59/\cu [.int .i64,.int .i64,.bool,.int .i64,.str,.bool,.int .i64,.str] (fun(k:Int) (nl:Int) (b1:Bool) (n1:Int) (s1:ByteArray) (b2:Bool) (n2:Int) (s2:ByteArray)=>(0<=k/\k<=l.length)/\(zGo t l (0,gP,gP)=zGo t (l.drop k.toNat) (nl,((b1,n1,s1):Val),((b2,n2,s2):Val)))/\(0<=nl/\nl<=k)/\(b1=true->((b1,n1,s1):Val)=gP)/\(b2=true->((b2,n2,s2):Val)=gP)) y) (cu [.int .i64,.int .i64,.bool,.int .i64,.str,.bool,.int .i64,.str] (fun(k:Int) (nl:Int) (b1:Bool) (n1:Int) (s1:ByteArray) (b2:Bool) (n2:Int) (s2:ByteArray)=>((l.length:Int)-k).toNat)) (cu [.int .i64,.int .i64,.bool,.int .i64,.str,.bool,.int .i64,.str] (fun(k:Int) (nl:Int) (b1:Bool) (n1:Int) (s1:ByteArray) (b2:Bool) (n2:Int) (s2:ByteArray)=>([]:List (Nat×Nat×LA)))))],?_⟩
 repeat' (first
  |(
 with_reducible refine Side.mk ⟨(⟨⟩:Tag 59),?_⟩
 dsimp only[cu,aC,aB,gts,Prod.eta,List.nil_append]
 refine⟨?_,?_,?_,?_,?_⟩
 · omega
 · first
   |(rfl)
   |(
  rw[hg,zB (by omega),CS,if_pos (by assumption)]
  rw[DI (by assumption) h1,DI (by assumption) h2])
   |(rw[hg,zB (by omega),qE5 (by assumption)])
 · omega
 · first
   |(exact fun _=>rfl)
   |(
  rw[DI (by assumption) h1]
  exact h1)
   |(exact qBU (by assumption))
 · first
   |(exact fun _=>rfl)
   |(
  rw[DI (by assumption) h2]
  exact h2)
   |(exact qBU (by assumption)))
  |(
 with_reducible refine Side.mk ?_
 (try dsimp only[cu,aC,aB,gts,loK,hiK,Prod.eta,List.nil_append])
 first
 |(done)
 |(omega))
  |(conv=>whnf
    first
     |done
     |exact trivial
     |with_reducible refine NilBr.mk (fun h=>?_) ?_
     |with_reducible first|refine aJ ?_ ?_|refine aI ?_ ?_|refine aK (by kernel_rfl) ?_|refine aL ?_|refine bD ?_ ?_|refine bC ?_ ?_|refine aR ?_ ?_
     |((with_reducible first|refine aT (fun h=>?_) (fun h=>?_)|refine aS (fun h=>?_) (fun h=>?_)|refine bA (fun h=>?_) (fun h=>?_))<;>(try dsimp only[cu,Prod.eta,List.nil_append]at h)<;>(try(exfalso;omega;done)))
     |(
 intro yy (hy:Tag 59/\_)
 obtain⟨(k:Int),(nl:Int),(b1:Bool),(n1:Int),(s1:ByteArray),(b2:Bool),(n2:Int),(s2:ByteArray),_⟩:=yy
 replace hy:=hy.2
 dsimp only[cu,aC,aB,gts,Prod.eta,List.nil_append]at hy
 obtain⟨hk,hg,hn,h1,h2⟩:=hy)))
 all_goals(
 with_reducible refine Leaf.mk ?_
 (try dsimp only[cu,aC,aB,gts,Prod.eta,List.nil_append]at *)
 (
  rw[qQ,hg,List.drop_eq_nil_of_le (by omega)]
  rfl))
abbrev qX7:Tbl:=(100,BR)::qX6
theorem qEF:aD Tryz.prog qX7:=aD.cons qH8 qEE
abbrev xD:Ct:=.fn [.int .i64,.list bQ] (some (fun(t:Int) (l:List Val)=>(l.length<=1073741824))) (fun(t:Int) (l:List Val)=>.d kN (qQ t l))
theorem ZF:aH Tryz.prog 28 xD:=by
 refine aH.fn qEF mixed [] [] rfl rfl ?_
 rintro⟨(t:Int),(l:List Val),_⟩ hpre
 replace hpre:=hpre _ rfl
 dsimp only[cu]at hpre
 have hl:=hpre
 refine⟨[(0,6,LA.mk [.sl 15 (.int .i64),.row 1 [.same,.val (.int .i64),.val .bool,.val (.int .i64),.val .str,.val .bool,.val (.int .i64),.val .str]] (fun y=>Tag 60/\cu [.int .i64,.int .i64,.bool,.int .i64,.str,.bool,.int .i64,.str] (fun(k:Int) (nl:Int) (b1:Bool) (n1:Int) (s1:ByteArray) (b2:Bool) (n2:Int) (s2:ByteArray)=>(0<=k/\k<=l.length)/\(zGo t l (0,gP,gP)=zGo t (l.drop k.toNat) (nl,((b1,n1,s1):Val),((b2,n2,s2):Val)))/\(0<=nl/\nl<=k)/\(b1=true->((b1,n1,s1):Val)=gP)/\(b2=true->((b2,n2,s2):Val)=gP)) y) (cu [.int .i64,.int .i64,.bool,.int .i64,.str,.bool,.int .i64,.str] (fun(k:Int) (nl:Int) (b1:Bool) (n1:Int) (s1:ByteArray) (b2:Bool) (n2:Int) (s2:ByteArray)=>((l.length:Int)-k).toNat)) (cu [.int .i64,.int .i64,.bool,.int .i64,.str,.bool,.int .i64,.str] (fun(k:Int) (nl:Int) (b1:Bool) (n1:Int) (s1:ByteArray) (b2:Bool) (n2:Int) (s2:ByteArray)=>([]:List (Nat×Nat×LA)))))],?_⟩
 repeat' (first
  |(
 with_reducible refine Side.mk ⟨(⟨⟩:Tag 60),?_⟩
 dsimp only[cu,aC,aB,gts,Prod.eta,List.nil_append]
 refine⟨?_,?_,?_,?_,?_⟩
 · omega
 · first
   |(rfl)
   |(
  rw[hg,zB (by omega),CS,if_pos (by assumption)]
  done)
   |(rw[hg,zB (by omega),qE5 (by assumption)])
 · omega
 · first
   |(exact fun _=>rfl)
   |(exact h1)
   |(exact qBU (by assumption))
 · first
   |(exact fun _=>rfl)
   |(exact h2)
   |(exact qBU (by assumption)))
  |(
 with_reducible refine Side.mk ?_
 (try dsimp only[cu,aC,aB,gts,loK,hiK,Prod.eta,List.nil_append])
 first
 |(done)
 |(omega))
  |(conv=>whnf
    first
     |done
     |exact trivial
     |with_reducible refine NilBr.mk (fun h=>?_) ?_
     |with_reducible first|refine aJ ?_ ?_|refine aI ?_ ?_|refine aK (by kernel_rfl) ?_|refine aL ?_|refine bD ?_ ?_|refine bC ?_ ?_|refine aR ?_ ?_
     |((with_reducible first|refine aT (fun h=>?_) (fun h=>?_)|refine aS (fun h=>?_) (fun h=>?_)|refine bA (fun h=>?_) (fun h=>?_))<;>(try dsimp only[cu,Prod.eta,List.nil_append]at h)<;>(try(exfalso;omega;done)))
     |(
 intro yy (hy:Tag 60/\_)
 obtain⟨(k:Int),(nl:Int),(b1:Bool),(n1:Int),(s1:ByteArray),(b2:Bool),(n2:Int),(s2:ByteArray),_⟩:=yy
 replace hy:=hy.2
 dsimp only[cu,aC,aB,gts,Prod.eta,List.nil_append]at hy
 obtain⟨hk,hg,hn,h1,h2⟩:=hy)))
 all_goals(
 with_reducible refine Leaf.mk ?_
 (try dsimp only[cu,aC,aB,gts,Prod.eta,List.nil_append]at *)
 (
  rw[qQ,hg,List.drop_eq_nil_of_le (by omega)]
  rfl))
abbrev qX8:Tbl:=(28,xD)::qX7
theorem qEG:aD Tryz.prog qX8:=aD.cons ZF qEF
abbrev KN:Ct:=.fn [.str,.int .i64] (some (fun(s:ByteArray) (a:Int)=>(s.size<=4611686018427387904))) (fun(s:ByteArray) (a:Int)=>.tup [bQ,.int .i64,.int .i64] ((dD s a).1,(dD s a).2.1,(dD s a).2.2,()))
theorem qRE:aH Tryz.prog 129 KN:=by
 refine aH.fn qEG mixed [] [] rfl rfl ?_
 rintro⟨(s:ByteArray),(a:Int),_⟩ hpre
 replace hpre:=hpre _ rfl
 dsimp only[cu]at hpre
 have hs:=hpre
 refine⟨[],?_⟩
 repeat' (first
  |(
 with_reducible refine Side.mk ?_
 (try dsimp only[cu,aC,aB,gts,loK,hiK,Prod.eta,List.nil_append])
 first
 |(omega)
 |(exact aY _ _)
 |(
  have hg:=aY s (a+1)
  have hg2:=aY s (aA s (a+1)).2.1
  have o1:=bP (s:=s) (a:=a+1) (by with_reducible assumption)
  first
  |(omega)
  |(
   have o2:=bP (s:=s) (a:=(aA s (a+1)).2.1) (by with_reducible assumption)
   first
   |(omega)
   |(
    rw[aW (by omega)]at *
    omega))))
  |(conv=>whnf
    first
     |done
     |exact trivial
     |with_reducible refine NilBr.mk (fun h=>?_) ?_
     |with_reducible first|refine aJ ?_ ?_|refine aI ?_ ?_|refine aK (by kernel_rfl) ?_|refine aL ?_|refine bD ?_ ?_|refine bC ?_ ?_|refine aR ?_ ?_
     |((with_reducible first|refine aT (fun h=>?_) (fun h=>?_)|refine aS (fun h=>?_) (fun h=>?_)|refine bA (fun h=>?_) (fun h=>?_))<;>(try dsimp only[cu,Prod.eta,List.nil_append]at h)<;>(try(exfalso;omega;done)))))
 all_goals(
 with_reducible refine Leaf.mk ?_
 (try dsimp only[cu,aC,aB,gts,Prod.eta,List.nil_append]at *)
 first
 |(
  have hb:=bO s a.toNat
  unfold dD
  rw[if_neg (by omega),if_neg (by omega),if_pos (by omega)])
 |(
  have hg:=aY s (a+1)
  have hg2:=aY s (aA s (a+1)).2.1
  have o1:=bP (s:=s) (a:=a+1) (by with_reducible assumption)
  have o2:=bP (s:=s) (a:=(aA s (a+1)).2.1) (by with_reducible assumption)
  have hw:=aW (n:=(s.size:Int)-(aA s (aA s (a+1)).2.1).2.1) (by omega)
  simp only[hw]at *
  unfold dD
  first
  |(rw[if_neg (by omega),if_neg (by omega),if_neg (by omega),if_neg (by omega),if_neg (by omega),if_neg (by omega),if_pos (by omega)])
  |(rw[if_neg (by omega),if_neg (by omega),if_neg (by omega),if_neg (by omega),if_neg (by omega),if_neg (by omega),if_neg (by omega)]))
 |(
  unfold dD
  first
  |(rw[if_pos (by omega)])
  |(rw[if_neg (by omega),if_pos (by omega)]))
 |(grind [dD]))
abbrev qX9:Tbl:=(129,KN)::qX8
theorem qEH:aD Tryz.prog qX9:=aD.cons qRE qEG
abbrev FH:Ct:=.fn [bQ] (some (fun(v:Val)=>(inI v.2.1/\v.2.2.size<=1073741824))) (fun(v:Val)=>.d .str (yJ v))
theorem qMN:aH Tryz.prog 84 FH:=by
 refine aH.fn qEH mixed [] [] rfl rfl ?_
 rintro⟨(v:Val),_⟩ hpre
 replace hpre:=hpre _ rfl
 dsimp only[cu]at hpre
 have hv:=hpre
 refine⟨[],?_⟩
 repeat' (first
  |(
 with_reducible refine Side.mk ?_
 (try dsimp only[cu,aC,aB,gts,loK,hiK,Prod.eta,List.nil_append])
 first
 |(exact hv.1)
 |(exact nE hv.1)
 |(
  have p1:=bM (gB v.2.1)
  have p2:=bM ((v.2.2.size:Int))
  first
  |(
   rw[aW (by omega)]
   omega)
  |(
   simp only[ByteArray.size_append,bK]
   (try rw[aW (by omega)])
   have s1:(⟨#[1]⟩:ByteArray).size=1:=rfl
   omega)))
  |(conv=>whnf
    first
     |done
     |exact trivial
     |with_reducible refine NilBr.mk (fun h=>?_) ?_
     |with_reducible first|refine aJ ?_ ?_|refine aI ?_ ?_|refine aK (by kernel_rfl) ?_|refine aL ?_|refine bD ?_ ?_|refine bC ?_ ?_|refine aR ?_ ?_
     |((with_reducible first|refine aT (fun h=>?_) (fun h=>?_)|refine aS (fun h=>?_) (fun h=>?_)|refine bA (fun h=>?_) (fun h=>?_))<;>(try dsimp only[cu,Prod.eta,List.nil_append]at h)<;>(try(exfalso;omega;done)))))
 all_goals(
 with_reducible refine Leaf.mk ?_
 (try dsimp only[cu,aC,aB,gts,Prod.eta,List.nil_append]at *)
 first
 |(rw[yJ,if_pos (by assumption)])
 |(rw[qLS (by assumption),aW (n:=((v.2.2.size:Nat):Int)) (by omega)]))
abbrev qYA:Tbl:=(84,FH)::qX9
theorem qEI:aD Tryz.prog qYA:=aD.cons qMN qEH
abbrev RN:Ct:=.fn [qK,kN] (none) (fun(c:Col) (z:Zone)=>.d .bool (mI c z))
theorem qU4:aH Tryz.prog 128 RN:=by
 refine aH.fn qEI mixed [] [] rfl rfl ?_
 rintro⟨(c:Col),(z:Zone),_⟩ -
 refine⟨[],?_⟩
 repeat' (first
  |(
 with_reducible refine Side.mk ?_
 (try dsimp only[cu,aC,aB,gts,loK,hiK,Prod.eta,List.nil_append])
 first
 |(omega)
 |(kernel_rfl))
  |(conv=>whnf
    first
     |done
     |exact trivial
     |with_reducible refine NilBr.mk (fun h=>?_) ?_
     |with_reducible first|refine aJ ?_ ?_|refine aI ?_ ?_|refine aK (by kernel_rfl) ?_|refine aL ?_|refine bD ?_ ?_|refine bC ?_ ?_|refine aR ?_ ?_
     |((with_reducible first|refine aT (fun h=>?_) (fun h=>?_)|refine aS (fun h=>?_) (fun h=>?_)|refine bA (fun h=>?_) (fun h=>?_))<;>(try dsimp only[cu,Prod.eta,List.nil_append]at h)<;>(try(exfalso;omega;done)))))
 all_goals(
 with_reducible refine Leaf.mk ?_
 (try dsimp only[cu,aC,aB,gts,Prod.eta,List.nil_append]at *)
 grind [mI,cA])
abbrev qYB:Tbl:=(128,RN)::qYA
theorem qEJ:aD Tryz.prog qYB:=aD.cons qU4 qEI
abbrev KO:Ct:=.fn [.str,.int .i64] (some (fun(s:ByteArray) (a:Int)=>(s.size<=4611686018427387904))) (fun(s:ByteArray) (a:Int)=>.tup [kN,.int .i64,.int .i64] ((fI s a).1,(fI s a).2.1,(fI s a).2.2,()))
theorem qRK:aH Tryz.prog 127 KO:=by
 refine aH.fn qEJ mixed [(0,3,2000000)] [] rfl rfl ?_
 rintro⟨(s:ByteArray),(a:Int),_⟩ hpre
 replace hpre:=hpre _ rfl
 dsimp only[cu]at hpre
 have hs:=hpre
 refine⟨[],?_⟩
 repeat' (first
  |(
 with_reducible refine Side.mk ?_
 (try dsimp only[cu,aC,aB,gts,loK,hiK,Prod.eta,List.nil_append])
 first
 |(omega)
 |(
  have r1:=aY s a
  have r2:=aY s (aA s a).2.1
  omega))
  |(conv=>whnf
    first
     |done
     |exact trivial
     |with_reducible refine NilBr.mk (fun h=>?_) ?_
     |with_reducible first|refine aJ ?_ ?_|refine aI ?_ ?_|refine aK (by kernel_rfl) ?_|refine aL ?_|refine bD ?_ ?_|refine bC ?_ ?_|refine aR ?_ ?_
     |((with_reducible first|refine aT (fun h=>?_) (fun h=>?_)|refine aS (fun h=>?_) (fun h=>?_)|refine bA (fun h=>?_) (fun h=>?_))<;>(try dsimp only[cu,Prod.eta,List.nil_append]at h)<;>(try(exfalso;omega;done)))))
 all_goals(
 with_reducible refine Leaf.mk ?_
 (try dsimp only[cu,aC,aB,gts,Prod.eta,List.nil_append]at *)
 (
  have r1:=aY s a
  have r2:=aY s (aA s a).2.1
  (try simp only[qNV _ (by omega)])
  grind [fI]))
abbrev qYC:Tbl:=(127,KO)::qYB
theorem qEK:aD Tryz.prog qYC:=aD.cons qRK qEJ
abbrev FI:Ct:=.fn [kN] (some (fun(z:Zone)=>(z.1<=4096/\z.2.1<=4096)/\(inI z.2.2.1.2.1/\z.2.2.1.2.2.size<=1073741824)/\(inI z.2.2.2.2.1/\z.2.2.2.2.2.size<=1073741824))) (fun(z:Zone)=>.d .str (tD z))
theorem qMO:aH Tryz.prog 41 FI:=by
 refine aH.fn qEK mixed [] [] rfl rfl ?_
 rintro⟨(z:Zone),_⟩ hpre
 replace hpre:=hpre _ rfl
 dsimp only[cu]at hpre
 obtain⟨h1,h2,h3⟩:=hpre
 refine⟨[],?_⟩
 repeat' (first
  |(
 with_reducible refine Side.mk ?_
 (try dsimp only[cu,aC,aB,gts,loK,hiK,Prod.eta,List.nil_append])
 first
 |(omega)
 |(
  have m1:0<=eH 0 z.1/\eH 0 z.1<=4096:=by unfold eH;split<;>omega
  have m2:0<=eH 0 z.2.1/\eH 0 z.2.1<=4096:=by unfold eH;split<;>omega
  first
  |(
   rw[aW (by omega)]
   omega)
  |(
   have p1:=bM (eH 0 z.1)
   have p2:=bM (eH 0 z.2.1)
   have p3:=uI (v:=z.2.2.1)
   have p4:=uI (v:=z.2.2.2)
   simp only[aW (n:=eH 0 z.1) (by omega),aW (n:=eH 0 z.2.1) (by omega),ByteArray.size_append,bK]
   omega)))
  |(conv=>whnf
    first
     |done
     |exact trivial
     |with_reducible refine NilBr.mk (fun h=>?_) ?_
     |with_reducible first|refine aJ ?_ ?_|refine aI ?_ ?_|refine aK (by kernel_rfl) ?_|refine aL ?_|refine bD ?_ ?_|refine bC ?_ ?_|refine aR ?_ ?_
     |((with_reducible first|refine aT (fun h=>?_) (fun h=>?_)|refine aS (fun h=>?_) (fun h=>?_)|refine bA (fun h=>?_) (fun h=>?_))<;>(try dsimp only[cu,Prod.eta,List.nil_append]at h)<;>(try(exfalso;omega;done)))))
 all_goals(
 with_reducible refine Leaf.mk ?_
 (try dsimp only[cu,aC,aB,gts,Prod.eta,List.nil_append]at *)
 (
  have m1:0<=eH 0 z.1/\eH 0 z.1<=4096:=by unfold eH;split<;>omega
  have m2:0<=eH 0 z.2.1/\eH 0 z.2.1<=4096:=by unfold eH;split<;>omega
  rw[tD,aW (n:=eH 0 z.1) (by omega),aW (n:=eH 0 z.2.1) (by omega)]))
abbrev qYD:Tbl:=(41,FI)::qYC
theorem qEL:aD Tryz.prog qYD:=aD.cons qMO qEK
def mC (s:Schema) (row:List Val):Int:=if row.length≠s.1.length then 1 else bU (fun i v=>bR s.1[i.toNat]! v) 0 row
abbrev oK:Rank:=((false,0,⟨#[]⟩),0)
def eM (s:Schema) (r:Rec):Rank:=if s.2<0\/s.2>=r.2.length then oK else(r.2[s.2.toNat]!,r.1)
def lI (t:Int) (a b:Rank):Int:=if fF t a.1 b.1≠0 then fF t a.1 b.1 else nS a.2 b.2
def mP (s:Schema) (r:Rec):Bool:=decide (0<=r.1)&&decide (r.1<=1099511627776)&&decide (mC s r.2=0)
def cV (s:Schema) (l:List Rec):Bool:=decide (aU s=0)&&l.all (mP s)
def nX (s:Schema) (a b:Rec):Int:=lI s.1[s.2.toNat]!.2.1 (eM s a) (eM s b)
def qIZ (s:Schema) (l:List Rec):Bool:=(List.range (l.length-1)).all fun i=>decide (nX s l[i]! l[i+1]! <0)
def cY (s:Schema) (l:List Rec):Bool:=cV s l&&qIZ s l
theorem dI {s:Schema} {l:List Rec} (h:cV s l=true):aU s=0/\∀i:Nat,i<l.length->mC s l[i]!.2=0:=by
 simp only[cV,Bool.and_eq_true,decide_eq_true_eq,List.all_eq_true]at h
 refine⟨h.1,fun i hi=>?_⟩
 have q:=h.2 l[i]! (by rw[getElem!_pos l i hi];exact List.getElem_mem hi)
 simp only[mP,Bool.and_eq_true,decide_eq_true_eq]at q
 exact q.2
theorem kK {b:Bool} (h:(!b)=false):b=true:=by cases b;cases h;rfl
theorem YN {b:Bool} (h:(!b)=true):b=false:=by cases b;rfl;cases h
def orI:List Int->Int
 | []=>0
 |x::l=>if x≠0 then x else orI l
theorem bB {s:Schema} (h:aU s=0):s.1.length<=12/\0<=s.2/\s.2<s.1.length:=by
 unfold aU at h
 split at h
 · cases h
 split at h
 · cases h
 split at h
 · contradiction
 split at h
 · cases h
 · omega
theorem qSZ {i n:Nat} {k:Int} (h:i<n) (hk:¬k<n):i<k.toNat:=by omega
theorem qRN {s:Schema} {l:List Rec} {k:Int} (h:1<=k/\k<l.length) (hn:nX s l[(k-1).toNat]! l[k.toNat]! >=0):qIZ s l=false:=by
 rw[qIZ,List.all_eq_false]
 refine⟨(k-1).toNat,by rw[List.mem_range];omega,?_⟩
 rw[show(k-1).toNat+1=k.toNat by omega,decide_eq_true_eq]
 omega
theorem qRO {s:Schema} {l:List Rec} (h:∀i:Nat,1<=i->i<l.length->nX s l[i-1]! l[i]! <0):qIZ s l=true:=by
 rw[qIZ,List.all_eq_true]
 intro i hi
 rw[List.mem_range]at hi
 rw[decide_eq_true_eq]
 exact h (i+1) (by omega) (by omega)
def nR (s:Schema) (r:Rec) (l:List Rec):Nat->Nat
 |0=>0
 |n+1=>if nX s r l[n]! <0 then nR s r l n else n+1
theorem qKS (s:Schema) (r:Rec) (l:List Rec) (n:Nat):nR s r l n<=n:=by
 induction n with
 |zero=>exact Nat.le_refl _
 |succ n ih=>rw[nR];split<;>omega
theorem qKR {s:Schema} {r:Rec} {l:List Rec} {k:Int} (h:k>0) (ho:nX s r l[(k-1).toNat]! <0):nR s r l k.toNat=nR s r l (k-1).toNat:=by
 obtain⟨n,rfl⟩:∃n:Nat,k=(n:Int)+1:=⟨(k-1).toNat,by omega⟩
 rw[show((n:Int)+1).toNat=n+1 by omega,show((n:Int)+1-1).toNat=n by omega]at *
 rw[nR,if_pos ho]
theorem YC {s:Schema} {r:Rec} {l:List Rec} {k:Int} (h:k>0) (ho:¬nX s r l[(k-1).toNat]! <0):nR s r l k.toNat=k.toNat:=by
 obtain⟨n,rfl⟩:∃n:Nat,k=(n:Int)+1:=⟨(k-1).toNat,by omega⟩
 rw[show((n:Int)+1).toNat=n+1 by omega,show((n:Int)+1-1).toNat=n by omega]at *
 rw[nR,if_neg ho]
def jR (s:Schema) (o:List Rec) (r:Rec):List Rec:=o.take (nR s r o o.length)++ [r]++o.drop (nR s r o o.length)
theorem GJ (s:Schema) (o:List Rec) (r:Rec):(jR s o r).length=o.length+1:=by
 have:=qKS s r o o.length
 simp only[jR,List.length_append,List.length_take,List.length_drop,List.length_cons,List.length_nil]
 omega
theorem qKQ {s:Schema} {r:Rec} {l:List Rec} {j:Int} (h:nR s r l l.length=nR s r l j.toNat) (h0:0<=j) (hs:¬j>0\/¬nX s r l[(j-1).toNat]! <0):nR s r l l.length=j.toNat:=by
 by_cases q:j>0
 · rcases hs with hs|hs
   · exact absurd q hs
   · exact h.trans (YC q hs)
 · rw[h,show j.toNat=0 by omega];rfl
theorem yW {α:Type} (l:List α) (a n:Nat):QA l a n=(l.drop a).take n:=by cases a<;>rfl
theorem qB9 {α:Type} (l:List α) (a n:Nat):(QA l a n).length=min n (l.length-a):=by rw[yW,List.length_take,List.length_drop]
theorem MV {α:Type} (l:List α) (j:Int) (h:0<=j/\j<=l.length):QA l j.toNat ((l.length:Int)-j).toNat=l.drop j.toNat:=by rw[yW,List.take_of_length_le (by rw[List.length_drop];omega)]
theorem qVR {O:List Rec} {x:Rec} {j:Int} (h:j=O.length):QA O 0 j.toNat++ [x]++ []=O.take j.toNat++ [x]++O.drop j.toNat:=by rw[yW,List.drop_zero,List.drop_eq_nil_of_le (by omega)]
theorem qVS {O:List Rec} {x:Rec} {j:Int} (h:0<=j/\j<=O.length):QA O 0 j.toNat++ [x]++QA O j.toNat ((O.length:Int)-j).toNat=O.take j.toNat++ [x]++O.drop j.toNat:=by rw[yW,List.drop_zero,MV O j h]
theorem qVT {O:List Rec} {x:Rec} {j:Int} (h:O.length=0) (hj:0<=j/\j<=O.length):[x]++ []=O.take j.toNat++ [x]++O.drop j.toNat:=by rw[List.drop_eq_nil_of_le (by omega),show j.toNat=0 by omega];rfl
theorem qVU {O:List Rec} {x:Rec} {j:Int} (hj:0<=j/\j<=O.length) (h:j<=0):[x]++QA O j.toNat ((O.length:Int)-j).toNat=O.take j.toNat++ [x]++O.drop j.toNat:=by rw[MV O j hj,show j.toNat=0 by omega];rfl
def CL (s:Schema) (l:List Rec):List Rec:=if cV s l=true then l.foldl (jR s) []else[]
abbrev uW:Ct:=.fn [cC,.list bQ] (some (fun(s:Schema) (row:List Val)=>(s.1.length<=12))) (fun(s:Schema) (row:List Val)=>.d (.int .i64) (mC s row))
theorem RS:aH Tryz.prog 118 uW:=by
 refine aH.fn qEL mixed [] [] rfl rfl ?_
 rintro⟨(s:Schema),(row:List Val),_⟩ hpre
 replace hpre:=hpre _ rfl
 dsimp only[cu]at hpre
 have hs:=hpre
 refine⟨[(0,8,LA.mk [.sl 16 (.int .i64)] (fun y=>Tag 61/\cu [.int .i64] (fun(k:Int)=>(0<=k/\k<=row.length)/\(bU (fun i v=>bR s.1[i.toNat]! v) 0 row=bU (fun i v=>bR s.1[i.toNat]! v) k (row.drop k.toNat))) y) (cu [.int .i64] (fun(k:Int)=>((row.length:Int)-k).toNat)) (cu [.int .i64] (fun(k:Int)=>([]:List (Nat×Nat×LA)))))],?_⟩
 repeat' (first
  |(
 with_reducible refine Side.mk ⟨(⟨⟩:Tag 61),?_⟩
 dsimp only[cu,aC,aB,gts,Prod.eta,List.nil_append]
 refine⟨?_,?_⟩
 · omega
 · first
   |(simp;done)
   |(
  rw[bI _ _ (by omega)]at hr
  rw[hr,bU,if_pos (by assumption)]))
  |(
 with_reducible refine Side.mk ?_
 (try dsimp only[cu,aC,aB,gts,loK,hiK,Prod.eta,List.nil_append])
 omega)
  |(conv=>whnf
    first
     |done
     |exact trivial
     |with_reducible refine NilBr.mk (fun h=>?_) ?_
     |with_reducible first|refine aJ ?_ ?_|refine aI ?_ ?_|refine aK (by kernel_rfl) ?_|refine aL ?_|refine bD ?_ ?_|refine bC ?_ ?_|refine aR ?_ ?_
     |((with_reducible first|refine aT (fun h=>?_) (fun h=>?_)|refine aS (fun h=>?_) (fun h=>?_)|refine bA (fun h=>?_) (fun h=>?_))<;>(try dsimp only[cu,Prod.eta,List.nil_append]at h)<;>(try(exfalso;omega;done)))
     |(
 intro yy (hy:Tag 61/\_)
 obtain⟨(k:Int),_⟩:=yy
 replace hy:=hy.2
 dsimp only[cu,aC,aB,gts,Prod.eta,List.nil_append]at hy
 obtain⟨hk,hr⟩:=hy)))
 all_goals(
 with_reducible refine Leaf.mk ?_
 (try dsimp only[cu,aC,aB,gts,Prod.eta,List.nil_append]at *)
 first
 |(grind [mC])
 |(
  rw[bI _ _ (by omega),bU]at hr
  grind [mC])
 |(
  rw[lQ _ _ (by omega)]at hr
  grind [mC,bU]))
abbrev qYE:Tbl:=(118,uW)::qYD
theorem qEM:aD Tryz.prog qYE:=aD.cons RS qEL
abbrev IZ:Ct:=.fn [cC,.list bQ] (some (fun(s:Schema) (row:List Val)=>(s.1.length<=12))) (fun(s:Schema) (row:List Val)=>.d (.int .i64) (mC s row))
theorem qOA:aH Tryz.prog 137 IZ:=by
 refine aH.fn qEM mixed [] [] rfl rfl ?_
 rintro⟨(s:Schema),(row:List Val),_⟩ hpre
 replace hpre:=hpre _ rfl
 dsimp only[cu]at hpre
 have hs:=hpre
 refine⟨[(0,8,LA.mk [.sl 16 (.int .i64)] (fun y=>Tag 62/\cu [.int .i64] (fun(k:Int)=>(0<=k/\k<=row.length)/\(bU (fun i v=>bR s.1[i.toNat]! v) 0 row=bU (fun i v=>bR s.1[i.toNat]! v) k (row.drop k.toNat))) y) (cu [.int .i64] (fun(k:Int)=>((row.length:Int)-k).toNat)) (cu [.int .i64] (fun(k:Int)=>([]:List (Nat×Nat×LA)))))],?_⟩
 repeat' (first
  |(
 with_reducible refine Side.mk ⟨(⟨⟩:Tag 62),?_⟩
 dsimp only[cu,aC,aB,gts,Prod.eta,List.nil_append]
 refine⟨?_,?_⟩
 · omega
 · first
   |(simp;done)
   |(
  rw[bI _ _ (by omega)]at hr
  rw[hr,bU,if_pos (by assumption)]))
  |(
 with_reducible refine Side.mk ?_
 (try dsimp only[cu,aC,aB,gts,loK,hiK,Prod.eta,List.nil_append])
 omega)
  |(conv=>whnf
    first
     |done
     |exact trivial
     |with_reducible refine NilBr.mk (fun h=>?_) ?_
     |with_reducible first|refine aJ ?_ ?_|refine aI ?_ ?_|refine aK (by kernel_rfl) ?_|refine aL ?_|refine bD ?_ ?_|refine bC ?_ ?_|refine aR ?_ ?_
     |((with_reducible first|refine aT (fun h=>?_) (fun h=>?_)|refine aS (fun h=>?_) (fun h=>?_)|refine bA (fun h=>?_) (fun h=>?_))<;>(try dsimp only[cu,Prod.eta,List.nil_append]at h)<;>(try(exfalso;omega;done)))
     |(
 intro yy (hy:Tag 62/\_)
 obtain⟨(k:Int),_⟩:=yy
 replace hy:=hy.2
 dsimp only[cu,aC,aB,gts,Prod.eta,List.nil_append]at hy
 obtain⟨hk,hr⟩:=hy)))
 all_goals(
 with_reducible refine Leaf.mk ?_
 (try dsimp only[cu,aC,aB,gts,Prod.eta,List.nil_append]at *)
 first
 |(grind [mC])
 |(
  rw[bI _ _ (by omega),bU]at hr
  grind [mC])
 |(
  rw[lQ _ _ (by omega)]at hr
  grind [mC,bU]))
abbrev qYF:Tbl:=(137,IZ)::qYE
theorem qEN:aD Tryz.prog qYF:=aD.cons qOA qEM
abbrev FD:Ct:=.fn [cC,fP] (none) (fun(s:Schema) (r:Rec)=>.d tM (eM s r))
theorem qMH:aH Tryz.prog 30 FD:=by
 refine aH.fn qEN mixed [] [] rfl rfl ?_
 rintro⟨(s:Schema),(r:Rec),_⟩ -
 refine⟨[],?_⟩
 repeat' (first
  |(
 with_reducible refine Side.mk ?_
 (try dsimp only[cu,aC,aB,gts,loK,hiK,Prod.eta,List.nil_append])
 omega)
  |(conv=>whnf
    first
     |done
     |exact trivial
     |with_reducible refine NilBr.mk (fun h=>?_) ?_
     |with_reducible first|refine aJ ?_ ?_|refine aI ?_ ?_|refine aK (by kernel_rfl) ?_|refine aL ?_|refine bD ?_ ?_|refine bC ?_ ?_|refine aR ?_ ?_
     |((with_reducible first|refine aT (fun h=>?_) (fun h=>?_)|refine aS (fun h=>?_) (fun h=>?_)|refine bA (fun h=>?_) (fun h=>?_))<;>(try dsimp only[cu,Prod.eta,List.nil_append]at h)<;>(try(exfalso;omega;done)))))
 all_goals(
 with_reducible refine Leaf.mk ?_
 (try dsimp only[cu,aC,aB,gts,Prod.eta,List.nil_append]at *)
 first
 |(rw[eM,if_pos (by omega)])
 |(rw[eM,if_neg (by omega)]))
abbrev qYG:Tbl:=(30,FD)::qYF
theorem qEO:aD Tryz.prog qYG:=aD.cons qMH qEN
abbrev EH:Ct:=.fn [cC,fP] (none) (fun(s:Schema) (r:Rec)=>.d tM (eM s r))
theorem qI6:aH Tryz.prog 98 EH:=by
 refine aH.fn qEO mixed [] [] rfl rfl ?_
 rintro⟨(s:Schema),(r:Rec),_⟩ -
 refine⟨[],?_⟩
 repeat' (first
  |(
 with_reducible refine Side.mk ?_
 (try dsimp only[cu,aC,aB,gts,loK,hiK,Prod.eta,List.nil_append])
 omega)
  |(conv=>whnf
    first
     |done
     |exact trivial
     |with_reducible refine NilBr.mk (fun h=>?_) ?_
     |with_reducible first|refine aJ ?_ ?_|refine aI ?_ ?_|refine aK (by kernel_rfl) ?_|refine aL ?_|refine bD ?_ ?_|refine bC ?_ ?_|refine aR ?_ ?_
     |((with_reducible first|refine aT (fun h=>?_) (fun h=>?_)|refine aS (fun h=>?_) (fun h=>?_)|refine bA (fun h=>?_) (fun h=>?_))<;>(try dsimp only[cu,Prod.eta,List.nil_append]at h)<;>(try(exfalso;omega;done)))))
 all_goals(
 with_reducible refine Leaf.mk ?_
 (try dsimp only[cu,aC,aB,gts,Prod.eta,List.nil_append]at *)
 first
 |(rw[eM,if_pos (by omega)])
 |(rw[eM,if_neg (by omega)]))
abbrev qYH:Tbl:=(98,EH)::qYG
theorem qEP:aD Tryz.prog qYH:=aD.cons qI6 qEO
abbrev FE:Ct:=.fn [.int .i64,tM,tM] (none) (fun(t:Int) (a:Rank) (b:Rank)=>.d (.int .i64) (lI t a b))
theorem qMI:aH Tryz.prog 78 FE:=by
 refine aH.fn qEP mixed [] [] rfl rfl ?_
 rintro⟨(t:Int),(a:Rank),(b:Rank),_⟩ -
 refine⟨[],?_⟩
 repeat' (first
  |(
 with_reducible refine Side.mk ?_
 (try dsimp only[cu,aC,aB,gts,loK,hiK,Prod.eta,List.nil_append])
 done)
  |(conv=>whnf
    first
     |done
     |exact trivial
     |with_reducible refine NilBr.mk (fun h=>?_) ?_
     |with_reducible first|refine aJ ?_ ?_|refine aI ?_ ?_|refine aK (by kernel_rfl) ?_|refine aL ?_|refine bD ?_ ?_|refine bC ?_ ?_|refine aR ?_ ?_
     |((with_reducible first|refine aT (fun h=>?_) (fun h=>?_)|refine aS (fun h=>?_) (fun h=>?_)|refine bA (fun h=>?_) (fun h=>?_))<;>(try dsimp only[cu,Prod.eta,List.nil_append]at h)<;>(try(exfalso;omega;done)))))
 all_goals(
 with_reducible refine Leaf.mk ?_
 (try dsimp only[cu,aC,aB,gts,Prod.eta,List.nil_append]at *)
 grind [lI,nS])
abbrev qYI:Tbl:=(78,FE)::qYH
theorem qEQ:aD Tryz.prog qYI:=aD.cons qMI qEP
abbrev RD:Ct:=.fn [.list (.int .i64)] (some (fun(l:List Int)=>(l.length<=9223372036854775807))) (fun(l:List Int)=>.d (.int .i64) (orI l))
theorem qT8:aH Tryz.prog 130 RD:=by
 refine aH.fn qEQ mixed [] [] rfl rfl ?_
 rintro⟨(l:List Int),_⟩ hpre
 replace hpre:=hpre _ rfl
 dsimp only[cu]at hpre
 have hl:=hpre
 refine⟨[(0,6,LA.mk [.sl 8 (.int .i64)] (fun y=>Tag 63/\cu [.int .i64] (fun(k:Int)=>(0<=k/\k<=l.length)/\(orI l=orI (l.drop k.toNat))) y) (cu [.int .i64] (fun(k:Int)=>((l.length:Int)-k).toNat)) (cu [.int .i64] (fun(k:Int)=>([]:List (Nat×Nat×LA)))))],?_⟩
 repeat' (first
  |(
 with_reducible refine Side.mk ⟨(⟨⟩:Tag 63),?_⟩
 dsimp only[cu,aC,aB,gts,Prod.eta,List.nil_append]
 refine⟨?_,?_⟩
 · omega
 · first
   |(rfl)
   |(
  rw[bI _ _ (by omega),orI,if_neg (fun q=>q (by assumption))]at hz
  exact hz))
  |(
 with_reducible refine Side.mk ?_
 (try dsimp only[cu,aC,aB,gts,loK,hiK,Prod.eta,List.nil_append])
 omega)
  |(conv=>whnf
    first
     |done
     |exact trivial
     |with_reducible refine NilBr.mk (fun h=>?_) ?_
     |with_reducible first|refine aJ ?_ ?_|refine aI ?_ ?_|refine aK (by kernel_rfl) ?_|refine aL ?_|refine bD ?_ ?_|refine bC ?_ ?_|refine aR ?_ ?_
     |((with_reducible first|refine aT (fun h=>?_) (fun h=>?_)|refine aS (fun h=>?_) (fun h=>?_)|refine bA (fun h=>?_) (fun h=>?_))<;>(try dsimp only[cu,Prod.eta,List.nil_append]at h)<;>(try(exfalso;omega;done)))
     |(
 intro yy (hy:Tag 63/\_)
 obtain⟨(k:Int),_⟩:=yy
 replace hy:=hy.2
 dsimp only[cu,aC,aB,gts,Prod.eta,List.nil_append]at hy
 obtain⟨hk,hz⟩:=hy)))
 all_goals(
 with_reducible refine Leaf.mk ?_
 (try dsimp only[cu,aC,aB,gts,Prod.eta,List.nil_append]at *)
 first
 |(rw[hz,bI _ _ (by omega),orI,if_pos (by assumption)])
 |(
  rw[hz,lQ _ _ (by omega)]
  rfl))
abbrev qYJ:Tbl:=(130,RD)::qYI
theorem qER:aD Tryz.prog qYJ:=aD.cons qT8 qEQ
abbrev EI:Ct:=.fn [.int .i64,tM,tM] (none) (fun(t:Int) (a:Rank) (b:Rank)=>.d (.int .i64) (lI t a b))
theorem qI7:aH Tryz.prog 94 EI:=by
 refine aH.fn qER mixed [] [] rfl rfl ?_
 rintro⟨(t:Int),(a:Rank),(b:Rank),_⟩ -
 refine⟨[],?_⟩
 repeat' (first
  |(
 with_reducible refine Side.mk ?_
 (try dsimp only[cu,aC,aB,gts,loK,hiK,Prod.eta,List.nil_append])
 (simp only[List.length_append,List.length_cons,List.length_nil];omega))
  |(conv=>whnf
    first
     |done
     |exact trivial
     |with_reducible refine NilBr.mk (fun h=>?_) ?_
     |with_reducible first|refine aJ ?_ ?_|refine aI ?_ ?_|refine aK (by kernel_rfl) ?_|refine aL ?_|refine bD ?_ ?_|refine bC ?_ ?_|refine aR ?_ ?_
     |((with_reducible first|refine aT (fun h=>?_) (fun h=>?_)|refine aS (fun h=>?_) (fun h=>?_)|refine bA (fun h=>?_) (fun h=>?_))<;>(try dsimp only[cu,Prod.eta,List.nil_append]at h)<;>(try(exfalso;omega;done)))))
 all_goals(
 with_reducible refine Leaf.mk ?_
 (try dsimp only[cu,aC,aB,gts,Prod.eta,List.nil_append]at *)
 (
  simp only[orI,lI]
  grind))
abbrev qYK:Tbl:=(94,EI)::qYJ
theorem qES:aD Tryz.prog qYK:=aD.cons qI7 qER
abbrev BJ:Ct:=.fn [cC,fP,fP] (some (fun(s:Schema) (a:Rec) (b:Rec)=>(0<=s.2/\s.2<s.1.length))) (fun(s:Schema) (a:Rec) (b:Rec)=>.d (.int .i64) (nX s a b))
theorem qG8:aH Tryz.prog 97 BJ:=by
 refine aH.fn qES mixed [] [] rfl rfl ?_
 rintro⟨(s:Schema),(a:Rec),(b:Rec),_⟩ hpre
 replace hpre:=hpre _ rfl
 dsimp only[cu]at hpre
 have hk:=hpre
 refine⟨[],?_⟩
 repeat' (first
  |(
 with_reducible refine Side.mk ?_
 (try dsimp only[cu,aC,aB,gts,loK,hiK,Prod.eta,List.nil_append])
 omega)
  |(conv=>whnf
    first
     |done
     |exact trivial
     |with_reducible refine NilBr.mk (fun h=>?_) ?_
     |with_reducible first|refine aJ ?_ ?_|refine aI ?_ ?_|refine aK (by kernel_rfl) ?_|refine aL ?_|refine bD ?_ ?_|refine bC ?_ ?_|refine aR ?_ ?_
     |((with_reducible first|refine aT (fun h=>?_) (fun h=>?_)|refine aS (fun h=>?_) (fun h=>?_)|refine bA (fun h=>?_) (fun h=>?_))<;>(try dsimp only[cu,Prod.eta,List.nil_append]at h)<;>(try(exfalso;omega;done)))))
 all_goals(
 with_reducible refine Leaf.mk ?_
 (try dsimp only[cu,aC,aB,gts,Prod.eta,List.nil_append]at *)
 rfl)
abbrev qYL:Tbl:=(97,BJ)::qYK
theorem qET:aD Tryz.prog qYL:=aD.cons qG8 qES
abbrev wU:Ct:=.fn [cC] (some (fun(s:Schema)=>(0<=s.2/\s.2<s.1.length))) (fun(s:Schema)=>.d (.int .i64) (s.1[s.2.toNat]!.2.1))
theorem YH:aH Tryz.prog 79 wU:=by
 refine aH.fn qET mixed [] [] rfl rfl ?_
 rintro⟨(s:Schema),_⟩ hpre
 replace hpre:=hpre _ rfl
 dsimp only[cu]at hpre
 have hk:=hpre
 refine⟨[],?_⟩
 repeat' (first
  |(
 with_reducible refine Side.mk ?_
 (try dsimp only[cu,aC,aB,gts,loK,hiK,Prod.eta,List.nil_append])
 omega)
  |(conv=>whnf
    first
     |done
     |exact trivial
     |with_reducible refine NilBr.mk (fun h=>?_) ?_
     |with_reducible first|refine aJ ?_ ?_|refine aI ?_ ?_|refine aK (by kernel_rfl) ?_|refine aL ?_|refine bD ?_ ?_|refine bC ?_ ?_|refine aR ?_ ?_
     |((with_reducible first|refine aT (fun h=>?_) (fun h=>?_)|refine aS (fun h=>?_) (fun h=>?_)|refine bA (fun h=>?_) (fun h=>?_))<;>(try dsimp only[cu,Prod.eta,List.nil_append]at h)<;>(try(exfalso;omega;done)))))
 all_goals(
 with_reducible refine Leaf.mk ?_
 (try dsimp only[cu,aC,aB,gts,Prod.eta,List.nil_append]at *)
 done)
abbrev qYM:Tbl:=(79,wU)::qYL
theorem qEU:aD Tryz.prog qYM:=aD.cons YH qET
abbrev BL:Ct:=.fn [cC,.list fP] (some (fun(s:Schema) (l:List Rec)=>(l.length<=9223372036854775807))) (fun(s:Schema) (l:List Rec)=>.d .bool (cV s l))
theorem qHC:aH Tryz.prog 77 BL:=by
 refine aH.fn qEU mixed [] [] rfl rfl ?_
 rintro⟨(s:Schema),(l:List Rec),_⟩ hpre
 replace hpre:=hpre _ rfl
 dsimp only[cu]at hpre
 have hl:=hpre
 refine⟨[(0,8,LA.mk [.sl 12 (.int .i64)] (fun y=>Tag 64/\cu [.int .i64] (fun(k:Int)=>(0<=k/\k<=l.length)/\(l.all (mP s)=(l.drop k.toNat).all (mP s))) y) (cu [.int .i64] (fun(k:Int)=>((l.length:Int)-k).toNat)) (cu [.int .i64] (fun(k:Int)=>([]:List (Nat×Nat×LA)))))],?_⟩
 repeat' (first
  |(
 with_reducible refine Side.mk ⟨(⟨⟩:Tag 64),?_⟩
 dsimp only[cu,aC,aB,gts,Prod.eta,List.nil_append]
 refine⟨?_,?_⟩
 · omega
 · first
   |(simp;done)
   |(
  rw[bI _ _ (by omega)]at hv
  rw[hv,List.all_cons,show mP s l[k.toNat]! =true by grind [mP],Bool.true_and]))
  |(
 with_reducible refine Side.mk ?_
 (try dsimp only[cu,aC,aB,gts,loK,hiK,Prod.eta,List.nil_append])
 first
 |(omega)
 |(have:=(bB (s:=s) (by assumption)).1;omega))
  |(conv=>whnf
    first
     |done
     |exact trivial
     |with_reducible refine NilBr.mk (fun h=>?_) ?_
     |with_reducible first|refine aJ ?_ ?_|refine aI ?_ ?_|refine aK (by kernel_rfl) ?_|refine aL ?_|refine bD ?_ ?_|refine bC ?_ ?_|refine aR ?_ ?_
     |((with_reducible first|refine aT (fun h=>?_) (fun h=>?_)|refine aS (fun h=>?_) (fun h=>?_)|refine bA (fun h=>?_) (fun h=>?_))<;>(try dsimp only[cu,Prod.eta,List.nil_append]at h)<;>(try(exfalso;omega;done)))
     |(
 intro yy (hy:Tag 64/\_)
 obtain⟨(k:Int),_⟩:=yy
 replace hy:=hy.2
 dsimp only[cu,aC,aB,gts,Prod.eta,List.nil_append]at hy
 obtain⟨hk,hv⟩:=hy)))
 all_goals(
 with_reducible refine Leaf.mk ?_
 (try dsimp only[cu,aC,aB,gts,Prod.eta,List.nil_append]at *)
 first
 |(
  rw[cV,decide_eq_false (by assumption)]
  rfl)
 |(
  rw[bI _ _ (by omega)]at hv
  rw[cV,hv,List.all_cons,show mP s l[k.toNat]! =false by grind [mP]]
  simp
  done)
 |(
  rw[lQ _ _ (by omega)]at hv
  rw[cV,hv]
  simp_all))
abbrev qYN:Tbl:=(77,BL)::qYM
theorem qEV:aD Tryz.prog qYN:=aD.cons qHC qEU
abbrev AY:Ct:=.fn [cC,.list fP] (some (fun(s:Schema) (l:List Rec)=>(l.length<=9223372036854775807))) (fun(s:Schema) (l:List Rec)=>.d .bool (cV s l))
theorem qFT:aH Tryz.prog 96 AY:=by
 refine aH.fn qEV mixed [] [135,167,136] rfl rfl ?_
 rintro⟨(s:Schema),(l:List Rec),_⟩ hpre
 replace hpre:=hpre _ rfl
 dsimp only[cu]at hpre
 have hl:=hpre
 refine⟨[(167,4,LA.mk [.sl 8 (.int .i64)] (fun y=>Tag 65/\cu [.int .i64] (fun(k:Int)=>(0<=k/\k<=l.length)/\(l.all (mP s)=(l.drop k.toNat).all (mP s))) y) (cu [.int .i64] (fun(k:Int)=>((l.length:Int)-k).toNat)) (cu [.int .i64] (fun(k:Int)=>([]:List (Nat×Nat×LA)))))],?_⟩
 repeat' (first
  |(
 with_reducible refine Side.mk ⟨(⟨⟩:Tag 65),?_⟩
 dsimp only[cu,aC,aB,gts,Prod.eta,List.nil_append]
 refine⟨?_,?_⟩
 · omega
 · first
   |(simp;done)
   |(
  rw[bI _ _ (by omega)]at hv
  rw[hv,List.all_cons,show mP s l[k.toNat]! =true by grind [mP],Bool.true_and]))
  |(
 with_reducible refine Side.mk ?_
 (try dsimp only[cu,aC,aB,gts,loK,hiK,Prod.eta,List.nil_append])
 first
 |(omega)
 |(have:=(bB (s:=s) (by assumption)).1;omega))
  |(conv=>whnf
    first
     |done
     |exact trivial
     |with_reducible refine NilBr.mk (fun h=>?_) ?_
     |with_reducible first|refine aJ ?_ ?_|refine aI ?_ ?_|refine aK (by kernel_rfl) ?_|refine aL ?_|refine bD ?_ ?_|refine bC ?_ ?_|refine aR ?_ ?_
     |((with_reducible first|refine aT (fun h=>?_) (fun h=>?_)|refine aS (fun h=>?_) (fun h=>?_)|refine bA (fun h=>?_) (fun h=>?_))<;>(try dsimp only[cu,Prod.eta,List.nil_append]at h)<;>(try(exfalso;omega;done)))
     |(
 intro yy (hy:Tag 65/\_)
 obtain⟨(k:Int),_⟩:=yy
 replace hy:=hy.2
 dsimp only[cu,aC,aB,gts,Prod.eta,List.nil_append]at hy
 obtain⟨hk,hv⟩:=hy)))
 all_goals(
 with_reducible refine Leaf.mk ?_
 (try dsimp only[cu,aC,aB,gts,Prod.eta,List.nil_append]at *)
 first
 |(
  rw[cV,decide_eq_false (by assumption)]
  rfl)
 |(
  rw[bI _ _ (by omega)]at hv
  rw[cV,hv,List.all_cons,show mP s l[k.toNat]! =false by grind [mP]]
  simp
  omega)
 |(
  rw[lQ _ _ (by omega)]at hv
  rw[cV,hv]
  simp_all))
abbrev qRZ:Tbl:=(96,AY)::qYN
theorem UR:aD Tryz.prog qRZ:=aD.cons qFT qEV
abbrev xC:Ct:=.fn [cC,.list fP] (some (fun(s:Schema) (l:List Rec)=>(l.length<=1099511627776))) (fun(s:Schema) (l:List Rec)=>.d .bool (cY s l))
theorem ZE:aH Tryz.prog 38 xC:=by
 refine aH.fn UR mixed [] [] rfl rfl ?_
 rintro⟨(s:Schema),(l:List Rec),_⟩ hpre
 replace hpre:=hpre _ rfl
 dsimp only[cu]at hpre
 have hl:=hpre
 refine⟨[(0,8,LA.mk [.sl 5 (.int .i64)] (fun y=>Tag 66/\cu [.int .i64] (fun(k:Int)=>(1<=k/\(k<=l.length\/k=1))/\(∀i:Nat,1<=i->i<k.toNat->nX s l[i-1]! l[i]! <0)) y) (cu [.int .i64] (fun(k:Int)=>((l.length:Int)-k).toNat)) (cu [.int .i64] (fun(k:Int)=>([]:List (Nat×Nat×LA)))))],?_⟩
 repeat' (first
  |(
 with_reducible refine Side.mk ⟨(⟨⟩:Tag 66),?_⟩
 dsimp only[cu,aC,aB,gts,Prod.eta,List.nil_append]
 refine⟨?_,?_⟩
 · omega
 · first
   |(intro i h1 h2;omega)
   |(
  intro i h1 h2
  by_cases q:i<k.toNat
  · exact ha i h1 q
  · have e:i=k.toNat:=by omega
    subst e
    rw[show k.toNat-1=(k-1).toNat by omega]
    unfold nX
    omega))
  |(
 with_reducible refine Side.mk ?_
 (try dsimp only[cu,aC,aB,gts,loK,hiK,Prod.eta,List.nil_append])
 first
 |(omega)
 |(exact(bB (dI (s:=s) (l:=l) (kK (by assumption))).1).2))
  |(conv=>whnf
    first
     |done
     |exact trivial
     |with_reducible refine NilBr.mk (fun h=>?_) ?_
     |with_reducible first|refine aJ ?_ ?_|refine aI ?_ ?_|refine aK (by kernel_rfl) ?_|refine aL ?_|refine bD ?_ ?_|refine bC ?_ ?_|refine aR ?_ ?_
     |((with_reducible first|refine aT (fun h=>?_) (fun h=>?_)|refine aS (fun h=>?_) (fun h=>?_)|refine bA (fun h=>?_) (fun h=>?_))<;>(try dsimp only[cu,Prod.eta,List.nil_append]at h)<;>(try(exfalso;omega;done)))
     |(
 intro yy (hy:Tag 66/\_)
 obtain⟨(k:Int),_⟩:=yy
 replace hy:=hy.2
 dsimp only[cu,aC,aB,gts,Prod.eta,List.nil_append]at hy
 obtain⟨hk,ha⟩:=hy)))
 all_goals(
 with_reducible refine Leaf.mk ?_
 (try dsimp only[cu,aC,aB,gts,Prod.eta,List.nil_append]at *)
 first
 |(
  rw[cY,YN (b:=cV s l) (by assumption)]
  rfl)
 |(
  have q:=qRN (s:=s) (l:=l) (k:=k) (by omega) (by assumption)
  rw[cY,q,Bool.and_false])
 |(
  have q:=qRO (s:=s) (l:=l) (fun i h1 h2=>ha i h1 (qSZ h2 (by omega)))
  rw[cY,q,kK (b:=cV s l) (by assumption)]
  rfl))
abbrev qR0:Tbl:=(38,xC)::qRZ
theorem UT:aD Tryz.prog qR0:=aD.cons ZE UR
abbrev wQ:Ct:=.fn [cC,.list fP] (some (fun(s:Schema) (l:List Rec)=>(l.length<=1099511627776))) (fun(s:Schema) (l:List Rec)=>.d .bool (cY s l))
theorem WW:aH Tryz.prog 50 wQ:=by
 refine aH.fn UT mixed [] [] rfl rfl ?_
 rintro⟨(s:Schema),(l:List Rec),_⟩ hpre
 replace hpre:=hpre _ rfl
 dsimp only[cu]at hpre
 have hl:=hpre
 refine⟨[(0,8,LA.mk [.sl 5 (.int .i64)] (fun y=>Tag 67/\cu [.int .i64] (fun(k:Int)=>(1<=k/\(k<=l.length\/k=1))/\(∀i:Nat,1<=i->i<k.toNat->nX s l[i-1]! l[i]! <0)) y) (cu [.int .i64] (fun(k:Int)=>((l.length:Int)-k).toNat)) (cu [.int .i64] (fun(k:Int)=>([]:List (Nat×Nat×LA)))))],?_⟩
 repeat' (first
  |(
 with_reducible refine Side.mk ⟨(⟨⟩:Tag 67),?_⟩
 dsimp only[cu,aC,aB,gts,Prod.eta,List.nil_append]
 refine⟨?_,?_⟩
 · omega
 · first
   |(intro i h1 h2;omega)
   |(
  intro i h1 h2
  by_cases q:i<k.toNat
  · exact ha i h1 q
  · have e:i=k.toNat:=by omega
    subst e
    rw[show k.toNat-1=(k-1).toNat by omega]
    omega))
  |(
 with_reducible refine Side.mk ?_
 (try dsimp only[cu,aC,aB,gts,loK,hiK,Prod.eta,List.nil_append])
 first
 |(omega)
 |(exact(bB (dI (s:=s) (l:=l) (kK (by assumption))).1).2))
  |(conv=>whnf
    first
     |done
     |exact trivial
     |with_reducible refine NilBr.mk (fun h=>?_) ?_
     |with_reducible first|refine aJ ?_ ?_|refine aI ?_ ?_|refine aK (by kernel_rfl) ?_|refine aL ?_|refine bD ?_ ?_|refine bC ?_ ?_|refine aR ?_ ?_
     |((with_reducible first|refine aT (fun h=>?_) (fun h=>?_)|refine aS (fun h=>?_) (fun h=>?_)|refine bA (fun h=>?_) (fun h=>?_))<;>(try dsimp only[cu,Prod.eta,List.nil_append]at h)<;>(try(exfalso;omega;done)))
     |(
 intro yy (hy:Tag 67/\_)
 obtain⟨(k:Int),_⟩:=yy
 replace hy:=hy.2
 dsimp only[cu,aC,aB,gts,Prod.eta,List.nil_append]at hy
 obtain⟨hk,ha⟩:=hy)))
 all_goals(
 with_reducible refine Leaf.mk ?_
 (try dsimp only[cu,aC,aB,gts,Prod.eta,List.nil_append]at *)
 first
 |(
  rw[cY,YN (b:=cV s l) (by assumption)]
  rfl)
 |(
  have q:=qRN (s:=s) (l:=l) (k:=k) (by omega) (by assumption)
  rw[cY,q,Bool.and_false])
 |(
  have q:=qRO (s:=s) (l:=l) (fun i h1 h2=>ha i h1 (qSZ h2 (by omega)))
  rw[cY,q,kK (b:=cV s l) (by assumption)]
  rfl))
abbrev qR1:Tbl:=(50,wQ)::qR0
theorem UU:aD Tryz.prog qR1:=aD.cons WW UT
abbrev xE:Ct:=.fn [fP,fP] (some (fun(a:Rec) (b:Rec)=>(a.2.length<=9223372036854775807))) (fun(a:Rec) (b:Rec)=>.d .bool (decide (a=b)))
theorem ZJ:aH Tryz.prog 76 xE:=by
 refine aH.fn UU mixed [] [] rfl rfl ?_
 rintro⟨(a:Rec),(b:Rec),_⟩ hpre
 replace hpre:=hpre _ rfl
 dsimp only[cu]at hpre
 have ha:=hpre
 refine⟨[],?_⟩
 repeat' (first
  |(
 with_reducible refine Side.mk ?_
 (try dsimp only[cu,aC,aB,gts,loK,hiK,Prod.eta,List.nil_append])
 omega)
  |(conv=>whnf
    first
     |done
     |exact trivial
     |with_reducible refine NilBr.mk (fun h=>?_) ?_
     |with_reducible first|refine aJ ?_ ?_|refine aI ?_ ?_|refine aK (by kernel_rfl) ?_|refine aL ?_|refine bD ?_ ?_|refine bC ?_ ?_|refine aR ?_ ?_
     |((with_reducible first|refine aT (fun h=>?_) (fun h=>?_)|refine aS (fun h=>?_) (fun h=>?_)|refine bA (fun h=>?_) (fun h=>?_))<;>(try dsimp only[cu,Prod.eta,List.nil_append]at h)<;>(try(exfalso;omega;done)))))
 all_goals(
 with_reducible refine Leaf.mk ?_
 (try dsimp only[cu,aC,aB,gts,Prod.eta,List.nil_append]at *)
 (simp_all [Prod.ext_iff];done))
abbrev qR2:Tbl:=(76,xE)::qR1
theorem UV:aD Tryz.prog qR2:=aD.cons ZJ UU
abbrev uZ:Ct:=.fn [.list fP,.list fP] (some (fun(a:List Rec) (b:List Rec)=>(a.length<=9223372036854775807)/\(∀i:Nat,a[i]!.2.length<=1099511627776))) (fun(a:List Rec) (b:List Rec)=>.d .bool (decide (a=b)))
theorem UH:aH Tryz.prog 29 uZ:=by
 refine aH.fn UV mixed [] [] rfl rfl ?_
 rintro⟨(a:List Rec),(b:List Rec),_⟩ hpre
 replace hpre:=hpre _ rfl
 dsimp only[cu]at hpre
 obtain⟨ha,hr⟩:=hpre
 refine⟨[(0,8,LA.mk [.sl 13 (.int .i64)] (fun y=>Tag 68/\cu [.int .i64] (fun(k:Int)=>(0<=k/\k<=a.length)/\(a.take k.toNat=b.take k.toNat)) y) (cu [.int .i64] (fun(k:Int)=>((a.length:Int)-k).toNat)) (cu [.int .i64] (fun(k:Int)=>([]:List (Nat×Nat×LA)))))],?_⟩
 repeat' (first
  |(
 with_reducible refine Side.mk ⟨(⟨⟩:Tag 68),?_⟩
 dsimp only[cu,aC,aB,gts,Prod.eta,List.nil_append]
 refine⟨?_,?_⟩
 · omega
 · first
   |(rfl)
   |(
  have e1:k.toNat<a.length:=by omega
  have e2:k.toNat<b.length:=by omega
  have e3:a[k.toNat]! =b[k.toNat]!:=by simp_all
  rw[getElem!_pos a k.toNat e1,getElem!_pos b k.toNat e2]at e3
  rw[show(k+1).toNat=k.toNat+1 by omega,List.take_add_one,List.take_add_one,hs,List.getElem?_eq_getElem e1,List.getElem?_eq_getElem e2,e3]))
  |(
 with_reducible refine Side.mk ?_
 (try dsimp only[cu,aC,aB,gts,loK,hiK,Prod.eta,List.nil_append])
 first
 |(omega)
 |(have:=hr k.toNat;omega))
  |(conv=>whnf
    first
     |done
     |exact trivial
     |with_reducible refine NilBr.mk (fun h=>?_) ?_
     |with_reducible first|refine aJ ?_ ?_|refine aI ?_ ?_|refine aK (by kernel_rfl) ?_|refine aL ?_|refine bD ?_ ?_|refine bC ?_ ?_|refine aR ?_ ?_
     |((with_reducible first|refine aT (fun h=>?_) (fun h=>?_)|refine aS (fun h=>?_) (fun h=>?_)|refine bA (fun h=>?_) (fun h=>?_))<;>(try dsimp only[cu,Prod.eta,List.nil_append]at h)<;>(try(exfalso;omega;done)))
     |(
 intro yy (hy:Tag 68/\_)
 obtain⟨(k:Int),_⟩:=yy
 replace hy:=hy.2
 dsimp only[cu,aC,aB,gts,Prod.eta,List.nil_append]at hy
 obtain⟨hk,hs⟩:=hy)))
 all_goals(
 with_reducible refine Leaf.mk ?_
 (try dsimp only[cu,aC,aB,gts,Prod.eta,List.nil_append]at *)
 first
 |(
  have hab:a=b:=by
   have h2:=hs
   rw[List.take_of_length_le (by omega),List.take_of_length_le (by omega)]at h2
   exact h2
  rw[decide_eq_true hab])
 |(
  have hne:¬a=b:=fun q=>by subst q;omega
  rw[decide_eq_false hne])
 |(
  have hne:¬a=b:=fun q=>by subst q;simp_all
  rw[decide_eq_false hne]))
abbrev qR3:Tbl:=(29,uZ)::qR2
theorem UW:aD Tryz.prog qR3:=aD.cons UH UV
instance zoneDec:DecidableEq Zone:=fun a b=>decidable_of_iff (a.1=b.1/\a.2.1=b.2.1/\a.2.2.1=b.2.2.1/\a.2.2.2=b.2.2.2) (by simp only[Prod.ext_iff])
instance zonesDec:DecidableEq (List Zone):=@instDecidableEqList Zone zoneDec
instance infoDec:DecidableEq Info:=fun a b=>@decidable_of_iff _ (a.1=b.1/\a.2.1=b.2.1/\a.2.2.1=b.2.2.1/\a.2.2.2=b.2.2.2) (by simp only[Prod.ext_iff]) (@instDecidableAnd _ _ _ (@instDecidableAnd _ _ (zonesDec _ _) _))
abbrev QZ:Ct:=.fn [.list kN,.list kN] (some (fun(a:List Zone) (b:List Zone)=>(a.length<=9223372036854775807))) (fun(a:List Zone) (b:List Zone)=>.d .bool (decide (a=b)))
theorem qTG:aH Tryz.prog 52 QZ:=by
 refine aH.fn UW mixed [] [] rfl rfl ?_
 rintro⟨(a:List Zone),(b:List Zone),_⟩ hpre
 replace hpre:=hpre _ rfl
 dsimp only[cu]at hpre
 have ha:=hpre
 refine⟨[(0,8,LA.mk [.sl 13 (.int .i64)] (fun y=>Tag 69/\cu [.int .i64] (fun(k:Int)=>(0<=k/\k<=a.length)/\(a.take k.toNat=b.take k.toNat)) y) (cu [.int .i64] (fun(k:Int)=>((a.length:Int)-k).toNat)) (cu [.int .i64] (fun(k:Int)=>([]:List (Nat×Nat×LA)))))],?_⟩
 repeat' (first
  |(
 with_reducible refine Side.mk ⟨(⟨⟩:Tag 69),?_⟩
 dsimp only[cu,aC,aB,gts,Prod.eta,List.nil_append]
 refine⟨?_,?_⟩
 · omega
 · first
   |(rfl)
   |(
  have e1:k.toNat<a.length:=by omega
  have e2:k.toNat<b.length:=by omega
  have e3:a[k.toNat]! =b[k.toNat]!:=by simp_all [Prod.ext_iff]
  rw[getElem!_pos a k.toNat e1,getElem!_pos b k.toNat e2]at e3
  rw[show(k+1).toNat=k.toNat+1 by omega,List.take_add_one,List.take_add_one,hs,List.getElem?_eq_getElem e1,List.getElem?_eq_getElem e2,e3]))
  |(
 with_reducible refine Side.mk ?_
 (try dsimp only[cu,aC,aB,gts,loK,hiK,Prod.eta,List.nil_append])
 first
 |(omega)
 |(kernel_rfl))
  |(conv=>whnf
    first
     |done
     |exact trivial
     |with_reducible refine NilBr.mk (fun h=>?_) ?_
     |with_reducible first|refine aJ ?_ ?_|refine aI ?_ ?_|refine aK (by kernel_rfl) ?_|refine aL ?_|refine bD ?_ ?_|refine bC ?_ ?_|refine aR ?_ ?_
     |((with_reducible first|refine aT (fun h=>?_) (fun h=>?_)|refine aS (fun h=>?_) (fun h=>?_)|refine bA (fun h=>?_) (fun h=>?_))<;>(try dsimp only[cu,Prod.eta,List.nil_append]at h)<;>(try(exfalso;omega;done)))
     |(
 intro yy (hy:Tag 69/\_)
 obtain⟨(k:Int),_⟩:=yy
 replace hy:=hy.2
 dsimp only[cu,aC,aB,gts,Prod.eta,List.nil_append]at hy
 obtain⟨hk,hs⟩:=hy)))
 all_goals(
 with_reducible refine Leaf.mk ?_
 (try dsimp only[cu,aC,aB,gts,Prod.eta,List.nil_append]at *)
 first
 |(
  have hab:a=b:=by
   have h2:=hs
   rw[List.take_of_length_le (by omega),List.take_of_length_le (by omega)]at h2
   exact h2
  rw[decide_eq_true hab])
 |(
  have hne:¬a=b:=fun q=>by subst q;omega
  rw[decide_eq_false hne])
 |(
  have hne:¬a=b:=fun q=>by subst q;simp_all
  rw[decide_eq_false hne]))
abbrev qR4:Tbl:=(52,QZ)::qR3
theorem UX:aD Tryz.prog qR4:=aD.cons qTG UW
abbrev FG:Ct:=.fn [cC,.list fP] (some (fun(s:Schema) (l:List Rec)=>(l.length<=1099511627776))) (fun(s:Schema) (l:List Rec)=>.d (.list fP) (CL s l))
theorem qMK:aH Tryz.prog 34 FG:=by
 refine aH.fn UX mixed [] [] rfl rfl ?_
 rintro⟨(s:Schema),(l:List Rec),_⟩ hpre
 replace hpre:=hpre _ rfl
 dsimp only[cu]at hpre
 have hl:=hpre
 refine⟨[(0,10,LA.mk [.sl 16 (.int .i64),.lst 5 fP 56] (fun y=>Tag 70/\cu [.int .i64,.list fP] (fun(k:Int) (O:List Rec)=>(0<=k/\k<=l.length)/\(O=(l.take k.toNat).foldl (jR s) [])/\((O.length:Int)=k)) y) (cu [.int .i64,.list fP] (fun(k:Int) (O:List Rec)=>((l.length:Int)-k).toNat)) (cu [.int .i64,.list fP] (fun(k:Int) (O:List Rec)=>([(0,16,LA.mk [.sl 8 (.int .i64)] (fun y=>Tag 71/\cu [.int .i64] (fun(j:Int)=>(0<=j/\j<=O.length)/\(nR s l[k.toNat]! O O.length=nR s l[k.toNat]! O j.toNat)) y) (cu [.int .i64] (fun(j:Int)=>j.toNat)) (cu [.int .i64] (fun(j:Int)=>([]:List (Nat×Nat×LA)))))]:List (Nat×Nat×LA)))))],?_⟩
 repeat' (first
  |(
 with_reducible refine Side.mk ⟨(⟨⟩:Tag 70),?_⟩
 dsimp only[cu,aC,aB,gts,Prod.eta,List.nil_append]
 refine⟨?_,?_,?_⟩
 · omega
 · first
   |(rfl)
   |(
  have e:=qKQ hi (by omega) (by first|exact Or.inl (by omega)|exact Or.inr (by assumption))
  rw[uM l k (by omega),List.foldl_append,<-ho]
  show _=jR s O l[k.toNat]!
  rw[jR,e]
  first|(exact qVR (by omega))|(exact qVS (by omega))|(exact qVT (by omega) (by omega))|(exact qVU (by omega) (by omega)))
 · first
   |(simp;done)
   |(simp only[qB9,List.length_append,List.length_cons,List.length_nil,List.length_take,List.length_drop];omega))
  |(
 with_reducible refine Side.mk ⟨(⟨⟩:Tag 71),?_⟩
 dsimp only[cu,aC,aB,gts,Prod.eta,List.nil_append]
 refine⟨?_,?_⟩
 · omega
 · first
   |(rfl)
   |(
  rw[hi]
  exact qKR (by omega) (by assumption)))
  |(
 with_reducible refine Side.mk ?_
 (try dsimp only[cu,aC,aB,gts,loK,hiK,Prod.eta,List.nil_append])
 first
 |(done)
 |(omega)
 |(exact Eq.refl _)
 |(simp only[List.length_append,List.length_cons,List.length_nil];omega)
 |(exact(bB (dI (s:=s) (l:=l) (kK (by assumption))).1).2)
 |(simp only[qB9,List.length_append,List.length_cons,List.length_nil,List.length_take,List.length_drop];omega))
  |(conv=>whnf
    first
     |done
     |exact trivial
     |with_reducible refine NilBr.mk (fun h=>?_) ?_
     |with_reducible first|refine aJ ?_ ?_|refine aI ?_ ?_|refine aK (by kernel_rfl) ?_|refine aL ?_|refine bD ?_ ?_|refine bC ?_ ?_|refine aR ?_ ?_
     |((with_reducible first|refine aT (fun h=>?_) (fun h=>?_)|refine aS (fun h=>?_) (fun h=>?_)|refine bA (fun h=>?_) (fun h=>?_))<;>(try dsimp only[cu,Prod.eta,List.nil_append]at h)<;>(try(exfalso;omega;done)))
     |(
 intro yy (hy:Tag 70/\_)
 obtain⟨(k:Int),(O:List Rec),_⟩:=yy
 replace hy:=hy.2
 dsimp only[cu,aC,aB,gts,Prod.eta,List.nil_append]at hy
 obtain⟨hk,ho,hol⟩:=hy)
     |(
 intro yy (hy:Tag 71/\_)
 obtain⟨(j:Int),_⟩:=yy
 replace hy:=hy.2
 dsimp only[cu,aC,aB,gts,Prod.eta,List.nil_append]at hy
 obtain⟨hj,hi⟩:=hy)))
 all_goals(
 with_reducible refine Leaf.mk ?_
 (try dsimp only[cu,aC,aB,gts,Prod.eta,List.nil_append]at *)
 first
 |(rw[CL,if_neg (by rw[YN (b:=cV s l) (by assumption)];exact Bool.noConfusion)])
 |(rw[CL,if_pos (kK (b:=cV s l) (by assumption)),ho,List.take_of_length_le (by omega)]))
abbrev qR5:Tbl:=(34,FG)::qR4
theorem UY:aD Tryz.prog qR5:=aD.cons qMK UX
abbrev tFr:Ty:=.pair .str (.pair (.int .i64) .bool)
abbrev Fr:Type:=ByteArray×Int×Bool
@[reducible] instance:Inhabited Fr:=instInhabitedDen tFr
abbrev wA:Col:=(⟨#[115,101,113]⟩,1,0,false)
def nP (s:Schema) (i:Int):Col:=if i=s.1.length then wA else s.1[i.toNat]!
def gY (r:Fr) (m:Int):Int×Fr:=if r.2.2=true\/(aA r.1 r.2.1).2.2≠0\/(aA r.1 r.2.1).1>m then(0,(r.1,r.2.1,true))else((aA r.1 r.2.1).1,(r.1,(aA r.1 r.2.1).2.1,false))
def mN (r:Fr) (c:Col):Rank×Fr:=if r.2.2=true\/(dD r.1 r.2.1).2.2≠0\/bR c (dD r.1 r.2.1).1≠0 then(oK,(r.1,r.2.1,true))else(((dD r.1 r.2.1).1,(gY (r.1,(dD r.1 r.2.1).2.1,false) 1099511627776).1),(gY (r.1,(dD r.1 r.2.1).2.1,false) 1099511627776).2)
def rU (r:Fr) (c:Col) (rows:Int):Zone×Fr:=((fI r.1 r.2.1).1,(r.1,(fI r.1 r.2.1).2.1,r.2.2||(decide ((fI r.1 r.2.1).2.2≠0)||(!mI c (fI r.1 r.2.1).1||decide ((fI r.1 r.2.1).1.1≠rows)))))
def dP (l:List Int):Int:=l.foldr (fun a b=>a+b) 0
theorem nK {l:List Int} {k:Int} (h:0<=k/\k<l.length):dP (l.take (k+1).toNat)=dP (l.take k.toNat)+l[k.toNat]!:=by
 have e:∀a b:List Int,dP (a++b)=dP a+dP b:=fun a b=>by
  induction a with
  |nil=>simp [dP]
  |cons x a ih=>simp only[dP,List.cons_append,List.foldr_cons]at ih ⊢;omega
 rw[uM l k h,e];simp [dP]
def qBK (n:Nat) (l:List Int):Prop:=∀k:Int,0<=k->k<l.length->0<=l[k.toNat]! /\0<=dP (l.take k.toNat)/\4+dP (l.take k.toNat)+l[k.toNat]! <=n
def yF (file:ByteArray) (l:List Int) (i:Int):ByteArray:=file.extract (4+dP (l.take i.toNat)).toNat (4+dP (l.take i.toNat)+l[i.toNat]!).toNat
def jC (s:Schema) (file:ByteArray) (rows:Int) (l:List Int) (i:Int):List Val×Int:=if(nQ (nP s i) (yF file l i)).2≠0 then([],(nQ (nP s i) (yF file l i)).2)else if(nQ (nP s i) (yF file l i)).1.length≠rows then([],2)else((nQ (nP s i) (yF file l i)).1,0)
def eD (s:Schema) (l:List Rec):List Nat->List Zone:=fun r=>r.map fun i=>qQ s.1[i]!.2.1 (fO l i)
def BW (s:Schema) (l:List Rec):Info:=((l.length:Int),eD s l (List.range s.1.length),eM s l[0]!,eM s l[l.length-1]!)
def jI (s:Schema) (f:ByteArray) (a:Int):Rank×Int×Bool:=if(dD f a).2.2≠0\/bR s.1[s.2.toNat]! (dD f a).1≠0 then(oK,0,false)else if(aA f (dD f a).2.1).2.2≠0\/(aA f (dD f a).2.1).1>1099511627776 then(oK,0,false)else(((dD f a).1,(aA f (dD f a).2.1).1),(aA f (dD f a).2.1).2.1,true)
abbrev JS:Ct:=.fn [.str] (some (fun(s:ByteArray)=>(4<=s.size/\s.size<=4611686018427387904))) (fun(s:ByteArray)=>.d (.int .u32) (cB s 0))
theorem qPX:aH Tryz.prog 88 JS:=by
 refine aH.fn UY mixed [(0,1,2),(0,1,5),(0,1,10),(0,1,15)] [] rfl rfl ?_
 rintro⟨(s:ByteArray),_⟩ hpre
 replace hpre:=hpre _ rfl
 dsimp only[cu]at hpre
 have hs:=hpre
 refine⟨[],?_⟩
 repeat' (first
  |(
 with_reducible refine Side.mk ?_
 (try dsimp only[cu,aC,aB,gts,loK,hiK,Prod.eta,List.nil_append])
 first
 |(omega)
 |(
  have h0:=bO s (Int.toNat 0)
  have h1:=bO s (Int.toNat 1)
  have h2:=bO s (Int.toNat 2)
  have h3:=bO s (Int.toNat 3)
  omega))
  |(conv=>whnf
    first
     |done
     |exact trivial
     |with_reducible refine NilBr.mk (fun h=>?_) ?_
     |with_reducible first|refine aJ ?_ ?_|refine aI ?_ ?_|refine aK (by kernel_rfl) ?_|refine aL ?_|refine bD ?_ ?_|refine bC ?_ ?_|refine aR ?_ ?_
     |((with_reducible first|refine aT (fun h=>?_) (fun h=>?_)|refine aS (fun h=>?_) (fun h=>?_)|refine bA (fun h=>?_) (fun h=>?_))<;>(try dsimp only[cu,Prod.eta,List.nil_append]at h)<;>(try(exfalso;omega;done)))))
 all_goals(
 with_reducible refine Leaf.mk ?_
 (try dsimp only[cu,aC,aB,gts,Prod.eta,List.nil_append]at *)
 rfl)
abbrev qR6:Tbl:=(88,JS)::qR5
theorem UZ:aD Tryz.prog qR6:=aD.cons qPX UY
abbrev JU:Ct:=.fn [] (none) (.d qK wA)
theorem qP1:aH Tryz.prog 114 JU:=by
 refine aH.fn UZ mixed [] [] rfl rfl ?_
 rintro⟨⟩ -
 refine⟨[],?_⟩
 repeat' (first
  |(
 with_reducible refine Side.mk ?_
 (try dsimp only[cu,aC,aB,gts,loK,hiK,Prod.eta,List.nil_append])
 done)
  |(conv=>whnf
    first
     |done
     |exact trivial
     |with_reducible refine NilBr.mk (fun h=>?_) ?_
     |with_reducible first|refine aJ ?_ ?_|refine aI ?_ ?_|refine aK (by kernel_rfl) ?_|refine aL ?_|refine bD ?_ ?_|refine bC ?_ ?_|refine aR ?_ ?_
     |((with_reducible first|refine aT (fun h=>?_) (fun h=>?_)|refine aS (fun h=>?_) (fun h=>?_)|refine bA (fun h=>?_) (fun h=>?_))<;>(try dsimp only[cu,Prod.eta,List.nil_append]at h)<;>(try(exfalso;omega;done)))))
 all_goals(
 with_reducible refine Leaf.mk ?_
 (try dsimp only[cu,aC,aB,gts,Prod.eta,List.nil_append]at *)
 done)
abbrev qR7:Tbl:=(114,JU)::qR6
theorem VA:aD Tryz.prog qR7:=aD.cons qP1 UZ
abbrev FF:Ct:=.fn [] (none) (.d qK wA)
theorem qMJ:aH Tryz.prog 42 FF:=by
 refine aH.fn VA mixed [] [] rfl rfl ?_
 rintro⟨⟩ -
 refine⟨[],?_⟩
 repeat' (first
  |(
 with_reducible refine Side.mk ?_
 (try dsimp only[cu,aC,aB,gts,loK,hiK,Prod.eta,List.nil_append])
 done)
  |(conv=>whnf
    first
     |done
     |exact trivial
     |with_reducible refine NilBr.mk (fun h=>?_) ?_
     |with_reducible first|refine aJ ?_ ?_|refine aI ?_ ?_|refine aK (by kernel_rfl) ?_|refine aL ?_|refine bD ?_ ?_|refine bC ?_ ?_|refine aR ?_ ?_
     |((with_reducible first|refine aT (fun h=>?_) (fun h=>?_)|refine aS (fun h=>?_) (fun h=>?_)|refine bA (fun h=>?_) (fun h=>?_))<;>(try dsimp only[cu,Prod.eta,List.nil_append]at h)<;>(try(exfalso;omega;done)))))
 all_goals(
 with_reducible refine Leaf.mk ?_
 (try dsimp only[cu,aC,aB,gts,Prod.eta,List.nil_append]at *)
 done)
abbrev qR8:Tbl:=(42,FF)::qR7
theorem VB:aD Tryz.prog qR8:=aD.cons qMJ VA
abbrev JR:Ct:=.fn [cC,.int .i64] (some (fun(s:Schema) (i:Int)=>(0<=i/\i<=s.1.length))) (fun(s:Schema) (i:Int)=>.d qK (nP s i))
theorem qPV:aH Tryz.prog 67 JR:=by
 refine aH.fn VB mixed [] [] rfl rfl ?_
 rintro⟨(s:Schema),(i:Int),_⟩ hpre
 replace hpre:=hpre _ rfl
 dsimp only[cu]at hpre
 have hi:=hpre
 refine⟨[],?_⟩
 repeat' (first
  |(
 with_reducible refine Side.mk ?_
 (try dsimp only[cu,aC,aB,gts,loK,hiK,Prod.eta,List.nil_append])
 omega)
  |(conv=>whnf
    first
     |done
     |exact trivial
     |with_reducible refine NilBr.mk (fun h=>?_) ?_
     |with_reducible first|refine aJ ?_ ?_|refine aI ?_ ?_|refine aK (by kernel_rfl) ?_|refine aL ?_|refine bD ?_ ?_|refine bC ?_ ?_|refine aR ?_ ?_
     |((with_reducible first|refine aT (fun h=>?_) (fun h=>?_)|refine aS (fun h=>?_) (fun h=>?_)|refine bA (fun h=>?_) (fun h=>?_))<;>(try dsimp only[cu,Prod.eta,List.nil_append]at h)<;>(try(exfalso;omega;done)))))
 all_goals(
 with_reducible refine Leaf.mk ?_
 (try dsimp only[cu,aC,aB,gts,Prod.eta,List.nil_append]at *)
 first
 |(rw[nP,if_pos (by assumption)])
 |(rw[nP,if_neg (by assumption)]))
abbrev qR9:Tbl:=(67,JR)::qR8
theorem VC:aD Tryz.prog qR9:=aD.cons qPV VB
abbrev JI:Ct:=.meth tFr 134 [.int .i64] (some (fun(r:Fr) (m:Int)=>(r.1.size<=4611686018427387904)/\(0<=m/\m<=4611686018427387904))) (fun(r:Fr) (m:Int)=>.d (.int .i64) ((gY r m).1)) (fun(r:Fr) (m:Int)=>(gY r m).2)
theorem qO5:aH Tryz.prog 91 JI:=by
 refine aH.meth VC mixed [] [] rfl rfl ?_
 rintro(r:Fr) ⟨(m:Int),_⟩ hpre
 replace hpre:=hpre _ rfl
 dsimp only[cu]at hpre
 obtain⟨hs,hm⟩:=hpre
 refine⟨[],?_⟩
 repeat' (first
  |(
 with_reducible refine Side.mk ?_
 (try dsimp only[cu,aC,aB,gts,loK,hiK,Prod.eta,List.nil_append])
 first
 |(omega)
 |(
  have hg:=aY r.1 r.2.1
  have hm:=aW (n:=m) (by omega)
  omega))
  |(conv=>whnf
    first
     |done
     |exact trivial
     |with_reducible refine NilBr.mk (fun h=>?_) ?_
     |with_reducible first|refine aJ ?_ ?_|refine aI ?_ ?_|refine aK (by kernel_rfl) ?_|refine aL ?_|refine bD ?_ ?_|refine bC ?_ ?_|refine aR ?_ ?_
     |((with_reducible first|refine aT (fun h=>?_) (fun h=>?_)|refine aS (fun h=>?_) (fun h=>?_)|refine bA (fun h=>?_) (fun h=>?_))<;>(try dsimp only[cu,Prod.eta,List.nil_append]at h)<;>(try(exfalso;omega;done)))))
 all_goals(
 with_reducible refine Leaf.mk ?_
 (try dsimp only[cu,aC,aB,gts,Prod.eta,List.nil_append]at *)
 first
 |(
  have hg:=aY r.1 r.2.1
  have hw:=aW (n:=m) (by omega)
  first
  |(
   simp_all [gY]
   done)
  |(
   have h2:=h
   rw[hw]at h2
   first
   |(
    rw[gY,if_neg (by grind)]
    done)
   |(
    rw[gY,if_neg (by grind),decide_eq_false h]
    done))))
abbrev qSA:Tbl:=(91,JI)::qR9
theorem VD:aD Tryz.prog qSA:=aD.cons qO5 VC
abbrev EK:Ct:=.meth tFr 134 [qK] (some (fun(r:Fr) (c:Col)=>(r.1.size<=4611686018427387904))) (fun(r:Fr) (c:Col)=>.d tM ((mN r c).1)) (fun(r:Fr) (c:Col)=>(mN r c).2)
theorem qKH:aH Tryz.prog 93 EK:=by
 refine aH.meth VD mixed [] [] rfl rfl ?_
 rintro(r:Fr) ⟨(c:Col),_⟩ hpre
 replace hpre:=hpre _ rfl
 dsimp only[cu]at hpre
 have hs:=hpre
 refine⟨[],?_⟩
 repeat' (first
  |(
 with_reducible refine Side.mk ?_
 (try dsimp only[cu,aC,aB,gts,loK,hiK,Prod.eta,List.nil_append])
 omega)
  |(conv=>whnf
    first
     |done
     |exact trivial
     |with_reducible refine NilBr.mk (fun h=>?_) ?_
     |with_reducible first|refine aJ ?_ ?_|refine aI ?_ ?_|refine aK (by kernel_rfl) ?_|refine aL ?_|refine bD ?_ ?_|refine bC ?_ ?_|refine aR ?_ ?_
     |((with_reducible first|refine aT (fun h=>?_) (fun h=>?_)|refine aS (fun h=>?_) (fun h=>?_)|refine bA (fun h=>?_) (fun h=>?_))<;>(try dsimp only[cu,Prod.eta,List.nil_append]at h)<;>(try(exfalso;omega;done)))))
 all_goals(
 with_reducible refine Leaf.mk ?_
 (try dsimp only[cu,aC,aB,gts,Prod.eta,List.nil_append]at *)
 (
  simp_all [mN]
  done))
abbrev qSB:Tbl:=(93,EK)::qSA
theorem VE:aD Tryz.prog qSB:=aD.cons qKH VD
abbrev EL:Ct:=.meth tFr 134 [qK,.int .i64] (some (fun(r:Fr) (c:Col) (rows:Int)=>(r.1.size<=4611686018427387904))) (fun(r:Fr) (c:Col) (rows:Int)=>.d kN ((rU r c rows).1)) (fun(r:Fr) (c:Col) (rows:Int)=>(rU r c rows).2)
theorem qKL:aH Tryz.prog 92 EL:=by
 refine aH.meth VE mixed [] [] rfl rfl ?_
 rintro(r:Fr) ⟨(c:Col),(rows:Int),_⟩ hpre
 replace hpre:=hpre _ rfl
 dsimp only[cu]at hpre
 have hs:=hpre
 refine⟨[],?_⟩
 repeat' (first
  |(
 with_reducible refine Side.mk ?_
 (try dsimp only[cu,aC,aB,gts,loK,hiK,Prod.eta,List.nil_append])
 omega)
  |(conv=>whnf
    first
     |done
     |exact trivial
     |with_reducible refine NilBr.mk (fun h=>?_) ?_
     |with_reducible first|refine aJ ?_ ?_|refine aI ?_ ?_|refine aK (by kernel_rfl) ?_|refine aL ?_|refine bD ?_ ?_|refine bC ?_ ?_|refine aR ?_ ?_
     |((with_reducible first|refine aT (fun h=>?_) (fun h=>?_)|refine aS (fun h=>?_) (fun h=>?_)|refine bA (fun h=>?_) (fun h=>?_))<;>(try dsimp only[cu,Prod.eta,List.nil_append]at h)<;>(try(exfalso;omega;done)))))
 all_goals(
 with_reducible refine Leaf.mk ?_
 (try dsimp only[cu,aC,aB,gts,Prod.eta,List.nil_append]at *)
 (
  simp_all [rU]
  done))
abbrev qSC:Tbl:=(92,EL)::qSB
theorem VF:aD Tryz.prog qSC:=aD.cons qKL VE
abbrev ER:Ct:=.fn [cC,.str,.int .i64,.list (.int .i64),.int .i64] (some (fun(s:Schema) (file:ByteArray) (rows:Int) (sizes:List Int) (i:Int)=>(0<=i/\i<sizes.length/\i<=s.1.length/\sizes.length<=4096)/\(file.size<=288230376151711744/\qBK file.size sizes))) (fun(s:Schema) (file:ByteArray) (rows:Int) (sizes:List Int) (i:Int)=>.tup [.list bQ,.int .i64] ((jC s file rows sizes i).1,(jC s file rows sizes i).2,()))
theorem qK7:aH Tryz.prog 49 ER:=by
 refine aH.fn VF mixed [] [] rfl rfl ?_
 rintro⟨(s:Schema),(file:ByteArray),(rows:Int),(sizes:List Int),(i:Int),_⟩ hpre
 replace hpre:=hpre _ rfl
 dsimp only[cu]at hpre
 obtain⟨hi,hp⟩:=hpre
 refine⟨[(0,6,LA.mk [.sl 21 (.int .i64),.sl 12 (.int .i64)] (fun y=>Tag 72/\cu [.int .i64,.int .i64] (fun(k:Int) (w:Int)=>(0<=k/\k<=i)/\(w=4+dP (sizes.take k.toNat))) y) (cu [.int .i64,.int .i64] (fun(k:Int) (w:Int)=>((i:Int)-k).toNat)) (cu [.int .i64,.int .i64] (fun(k:Int) (w:Int)=>([]:List (Nat×Nat×LA)))))],?_⟩
 repeat' (first
  |(
 with_reducible refine Side.mk ⟨(⟨⟩:Tag 72),?_⟩
 dsimp only[cu,aC,aB,gts,Prod.eta,List.nil_append]
 refine⟨?_,?_⟩
 · omega
 · first
   |(
  simp [dP]
  done)
   |(
  have e:(sizes.take i.toNat)[k.toNat]! =sizes[k.toNat]!:=lH sizes i.toNat k.toNat (by omega)
  have ho:=hp.2 k (by omega) (by omega)
  rw[e,hat,nK (by omega)]
  omega))
  |(
 with_reducible refine Side.mk ?_
 (try dsimp only[cu,aC,aB,gts,loK,hiK,Prod.eta,List.nil_append])
 first
 |(omega)
 |(
  have e:(sizes.take i.toNat)[k.toNat]! =sizes[k.toNat]!:=lH sizes i.toNat k.toNat (by omega)
  have ho:=hp.2 k (by omega) (by omega)
  rw[e]
  omega)
 |(
  have hki:k=i:=by omega
  subst hki
  have ho:=hp.2 k (by omega) (by omega)
  first
  |(omega)
  |(
   rw[ByteArray.size_extract]
   omega)))
  |(conv=>whnf
    first
     |done
     |exact trivial
     |with_reducible refine NilBr.mk (fun h=>?_) ?_
     |with_reducible first|refine aJ ?_ ?_|refine aI ?_ ?_|refine aK (by kernel_rfl) ?_|refine aL ?_|refine bD ?_ ?_|refine bC ?_ ?_|refine aR ?_ ?_
     |((with_reducible first|refine aT (fun h=>?_) (fun h=>?_)|refine aS (fun h=>?_) (fun h=>?_)|refine bA (fun h=>?_) (fun h=>?_))<;>(try dsimp only[cu,Prod.eta,List.nil_append]at h)<;>(try(exfalso;omega;done)))
     |(
 intro yy (hy:Tag 72/\_)
 obtain⟨(k:Int),(w:Int),_⟩:=yy
 replace hy:=hy.2
 dsimp only[cu,aC,aB,gts,Prod.eta,List.nil_append]at hy
 obtain⟨hk,hat⟩:=hy
 have hlt:(sizes.take i.toNat).length=i.toNat:=by rw[List.length_take];omega)))
 all_goals(
 with_reducible refine Leaf.mk ?_
 (try dsimp only[cu,aC,aB,gts,Prod.eta,List.nil_append]at *)
 (
  have hki:k=i:=by omega
  subst hki
  subst hat
  simp_all [jC,yF]
  done))
abbrev qSD:Tbl:=(49,ER)::qSC
theorem VG:aD Tryz.prog qSD:=aD.cons qK7 VF
theorem sI {l:List Rec} {n:Int} (h:1<=n/\n<=12):((oT l n).length:Int)=n/\∀k:Nat,(k:Int)<n->(oT l n)[k]! =fO l k:=by
 rw[oT,if_neg (by omega)]
 refine⟨by rw[List.length_map,List.length_range];omega,fun k hk=>?_⟩
 have q:k<((List.range n.toNat).map (fO l)).length:=by rw[List.length_map,List.length_range];omega
 rw[getElem!_pos _ k q,List.getElem_map,List.getElem_range]
theorem CT {s:Schema} {l:List Rec} {k:Int} (h:0<=k):eD s l (List.range (k+1).toNat)=eD s l (List.range k.toNat)++ [qQ s.1[k.toNat]!.2.1 (fO l k.toNat)]:=by
 rw[show(k+1).toNat=k.toNat+1 by omega,List.range_succ,eD,List.map_append];rfl
abbrev JF:Ct:=.fn [cC,.list fP] (some (fun(s:Schema) (l:List Rec)=>(1<=l.length/\l.length<=1073741824)/\(1<=s.1.length/\s.1.length<=12))) (fun(s:Schema) (l:List Rec)=>.d qCA (BW s l))
theorem qOP:aH Tryz.prog 51 JF:=by
 refine aH.fn VG mixed [] [] rfl rfl ?_
 rintro⟨(s:Schema),(l:List Rec),_⟩ hpre
 replace hpre:=hpre _ rfl
 dsimp only[cu]at hpre
 obtain⟨hl,hs⟩:=hpre
 refine⟨[(0,6,LA.mk [.sl 30 (.int .i64),.row 2 [.same,.own kN 67,.same,.same,.same,.same,.same,.same,.same,.same]] (fun y=>Tag 73/\cu [.int .i64,.list kN] (fun(k:Int) (Z:List Zone)=>(0<=k/\k<=(s.1.length:Int))/\(Z=eD s l (List.range k.toNat))/\((Z.length:Int)=k)) y) (cu [.int .i64,.list kN] (fun(k:Int) (Z:List Zone)=>(((s.1.length:Int):Int)-k).toNat)) (cu [.int .i64,.list kN] (fun(k:Int) (Z:List Zone)=>([]:List (Nat×Nat×LA)))))],?_⟩
 repeat' (first
  |(
 with_reducible refine Side.mk ⟨(⟨⟩:Tag 73),?_⟩
 dsimp only[cu,aC,aB,gts,Prod.eta,List.nil_append]
 refine⟨?_,?_,?_⟩
 · omega
 · first
   |(rfl)
   |(
  obtain⟨hcl,hce⟩:=sI (l:=l) (n:=(s.1.length:Int)) (by omega)
  have hck:=hce k.toNat (by omega)
  show Z++ [qQ s.1[k.toNat]!.2.1 (oT l (s.1.length:Int))[k.toNat]!]=_
  rw[hz,hck,CT (by omega)])
 · first
   |(
  simp
  done)
   |(
  simp only[List.length_append,List.length_cons,List.length_nil]
  omega))
  |(
 with_reducible refine Side.mk ?_
 (try dsimp only[cu,aC,aB,gts,loK,hiK,Prod.eta,List.nil_append])
 first
 |(done)
 |(omega)
 |(exact Eq.refl _)
 |(simp only[List.length_append,List.length_cons,List.length_nil];omega)
 |(
  obtain⟨hcl,hce⟩:=sI (l:=l) (n:=(s.1.length:Int)) (by omega)
  have hck:=hce k.toNat (by omega)
  show(oT l (s.1.length:Int))[k.toNat]!.length<=_
  rw[hck,fO,List.length_map]
  omega))
  |(conv=>whnf
    first
     |done
     |exact trivial
     |with_reducible refine NilBr.mk (fun h=>?_) ?_
     |with_reducible first|refine aJ ?_ ?_|refine aI ?_ ?_|refine aK (by kernel_rfl) ?_|refine aL ?_|refine bD ?_ ?_|refine bC ?_ ?_|refine aR ?_ ?_
     |((with_reducible first|refine aT (fun h=>?_) (fun h=>?_)|refine aS (fun h=>?_) (fun h=>?_)|refine bA (fun h=>?_) (fun h=>?_))<;>(try dsimp only[cu,Prod.eta,List.nil_append]at h)<;>(try(exfalso;omega;done)))
     |(
 intro yy (hy:Tag 73/\_)
 obtain⟨(k:Int),(Z:List Zone),_⟩:=yy
 replace hy:=hy.2
 dsimp only[cu,aC,aB,gts,Prod.eta,List.nil_append]at hy
 obtain⟨hk,hz,hzl⟩:=hy
 have hcl:=(sI (l:=l) (n:=(s.1.length:Int)) (by omega)).1)))
 all_goals(
 with_reducible refine Leaf.mk ?_
 (try dsimp only[cu,aC,aB,gts,Prod.eta,List.nil_append]at *)
 (
  have h2:¬k<(oT l (s.1.length:Int)).length:=h
  show((l.length:Int),Z,eM s l[0]!,eM s l[((l.length:Int)-1).toNat]!)=_
  rw[BW,hz,show k.toNat=s.1.length by omega,show((l.length:Int)-1).toNat=l.length-1 by omega]))
abbrev qSE:Tbl:=(51,JF)::qSD
theorem VH:aD Tryz.prog qSE:=aD.cons qOP VG
def gE (l:List Rec):List Val:=l.map fun r=>((false,r.1,⟨#[]⟩):Val)
def dN (r:Rank):ByteArray:=yJ r.1++aV (put r.2)
theorem ZL {l:List Rec} {k:Int} (h:0<=k/\k<l.length):gE (l.take (k+1).toNat)=gE (l.take k.toNat)++ [((false,l[k.toNat]!.1,⟨#[]⟩):Val)]:=by
 rw[uM l k h,gE,List.map_append];rfl
abbrev KK:Ct:=.fn [.list fP] (some (fun(l:List Rec)=>(l.length<=1099511627776))) (fun(l:List Rec)=>.d (.list bQ) (gE l))
theorem qQ2:aH Tryz.prog 43 KK:=by
 refine aH.fn VH mixed [] [] rfl rfl ?_
 rintro⟨(l:List Rec),_⟩ hpre
 replace hpre:=hpre _ rfl
 dsimp only[cu]at hpre
 have hl:=hpre
 refine⟨[(0,6,LA.mk [.sl 8 (.int .i64),.lst 3 bQ 43] (fun y=>Tag 74/\cu [.int .i64,.list bQ] (fun(k:Int) (M:List Val)=>(0<=k/\k<=l.length)/\(M=gE (l.take k.toNat))/\((M.length:Int)=k)) y) (cu [.int .i64,.list bQ] (fun(k:Int) (M:List Val)=>((l.length:Int)-k).toNat)) (cu [.int .i64,.list bQ] (fun(k:Int) (M:List Val)=>([]:List (Nat×Nat×LA)))))],?_⟩
 repeat' (first
  |(
 with_reducible refine Side.mk ⟨(⟨⟩:Tag 74),?_⟩
 dsimp only[cu,aC,aB,gts,Prod.eta,List.nil_append]
 refine⟨?_,?_,?_⟩
 · omega
 · first
   |(rfl)
   |(rw[hm,ZL (by omega)])
 · first
   |(
  simp
  done)
   |(
  simp only[List.length_append,List.length_cons,List.length_nil]
  omega))
  |(
 with_reducible refine Side.mk ?_
 (try dsimp only[cu,aC,aB,gts,loK,hiK,Prod.eta,List.nil_append])
 first
 |(done)
 |(omega)
 |(exact Eq.refl _)
 |(simp only[List.length_append,List.length_cons,List.length_nil];omega))
  |(conv=>whnf
    first
     |done
     |exact trivial
     |with_reducible refine NilBr.mk (fun h=>?_) ?_
     |with_reducible first|refine aJ ?_ ?_|refine aI ?_ ?_|refine aK (by kernel_rfl) ?_|refine aL ?_|refine bD ?_ ?_|refine bC ?_ ?_|refine aR ?_ ?_
     |((with_reducible first|refine aT (fun h=>?_) (fun h=>?_)|refine aS (fun h=>?_) (fun h=>?_)|refine bA (fun h=>?_) (fun h=>?_))<;>(try dsimp only[cu,Prod.eta,List.nil_append]at h)<;>(try(exfalso;omega;done)))
     |(
 intro yy (hy:Tag 74/\_)
 obtain⟨(k:Int),(M:List Val),_⟩:=yy
 replace hy:=hy.2
 dsimp only[cu,aC,aB,gts,Prod.eta,List.nil_append]at hy
 obtain⟨hk,hm,hml⟩:=hy)))
 all_goals(
 with_reducible refine Leaf.mk ?_
 (try dsimp only[cu,aC,aB,gts,Prod.eta,List.nil_append]at *)
 rw[hm,List.take_of_length_le (by omega)])
abbrev qSF:Tbl:=(43,KK)::qSE
theorem VI:aD Tryz.prog qSF:=aD.cons qQ2 VH
abbrev wZ:Ct:=.fn [tM] (some (fun(r:Rank)=>(0<=r.2/\r.2<=1099511627776)/\(inI r.1.2.1/\r.1.2.2.size<=1073741824))) (fun(r:Rank)=>.d .str (dN r))
theorem YY:aH Tryz.prog 45 wZ:=by
 refine aH.fn VI mixed [] [] rfl rfl ?_
 rintro⟨(r:Rank),_⟩ hpre
 replace hpre:=hpre _ rfl
 dsimp only[cu]at hpre
 obtain⟨hr,hs⟩:=hpre
 refine⟨[],?_⟩
 repeat' (first
  |(
 with_reducible refine Side.mk ?_
 (try dsimp only[cu,aC,aB,gts,loK,hiK,Prod.eta,List.nil_append])
 first
 |(omega)
 |(
  rw[aW (by omega)]
  omega)
 |(
  have h1:=uI (v:=r.1)
  have h2:=bM (IntKind.u64.wrap r.2)
  simp only[bK]
  omega))
  |(conv=>whnf
    first
     |done
     |exact trivial
     |with_reducible refine NilBr.mk (fun h=>?_) ?_
     |with_reducible first|refine aJ ?_ ?_|refine aI ?_ ?_|refine aK (by kernel_rfl) ?_|refine aL ?_|refine bD ?_ ?_|refine bC ?_ ?_|refine aR ?_ ?_
     |((with_reducible first|refine aT (fun h=>?_) (fun h=>?_)|refine aS (fun h=>?_) (fun h=>?_)|refine bA (fun h=>?_) (fun h=>?_))<;>(try dsimp only[cu,Prod.eta,List.nil_append]at h)<;>(try(exfalso;omega;done)))))
 all_goals(
 with_reducible refine Leaf.mk ?_
 (try dsimp only[cu,aC,aB,gts,Prod.eta,List.nil_append]at *)
 rw[dN,aW (by omega)])
abbrev qSG:Tbl:=(45,wZ)::qSF
theorem VJ:aD Tryz.prog qSG:=aD.cons YY VI
abbrev EV:Ct:=.fn [.list fP,.int .i64] (some (fun(l:List Rec) (n:Int)=>(l.length<=1099511627776))) (fun(l:List Rec) (n:Int)=>.d (.list (.list bQ)) (oT l n))
theorem qLX:aH Tryz.prog 27 EV:=by
 refine aH.fn VJ mixed [] [] rfl rfl ?_
 rintro⟨(l:List Rec),(n:Int),_⟩ hpre
 replace hpre:=hpre _ rfl
 dsimp only[cu]at hpre
 have hl:=hpre
 refine⟨[(0,10,LA.mk [.sl 6 (.int .i64),.lst 5 (.list bQ) 52] (fun y=>Tag 75/\cu [.int .i64,.list (.list bQ)] (fun(k:Int) (O:List (List Val))=>(0<=k/\k<=n)/\(O=(List.range k.toNat).map (fO l))/\((O.length:Int)=k)) y) (cu [.int .i64,.list (.list bQ)] (fun(k:Int) (O:List (List Val))=>(n-k).toNat)) (cu [.int .i64,.list (.list bQ)] (fun(k:Int) (O:List (List Val))=>([(0,18,LA.mk [.sl 23 (.int .i64),.lst 7 bQ 43] (fun y=>Tag 76/\cu [.int .i64,.list bQ] (fun(j:Int) (M:List Val)=>(0<=j/\j<=l.length)/\(M=fO (l.take j.toNat) k.toNat)/\((M.length:Int)=j)) y) (cu [.int .i64,.list bQ] (fun(j:Int) (M:List Val)=>((l.length:Int)-j).toNat)) (cu [.int .i64,.list bQ] (fun(j:Int) (M:List Val)=>([]:List (Nat×Nat×LA)))))]:List (Nat×Nat×LA)))))],?_⟩
 repeat' (first
  |(
 with_reducible refine Side.mk ⟨(⟨⟩:Tag 75),?_⟩
 dsimp only[cu,aC,aB,gts,Prod.eta,List.nil_append]
 refine⟨?_,?_,?_⟩
 · omega
 · first
   |(rfl)
   |(
  rw[ho,hm,List.take_of_length_le (by omega),show(k+1).toNat=k.toNat+1 by omega,List.range_succ,List.map_append]
  rfl)
 · first
   |(
  simp
  done)
   |(
  simp only[List.length_append,List.length_cons,List.length_nil]
  omega))
  |(
 with_reducible refine Side.mk ⟨(⟨⟩:Tag 76),?_⟩
 dsimp only[cu,aC,aB,gts,Prod.eta,List.nil_append]
 refine⟨?_,?_,?_⟩
 · omega
 · first
   |(rfl)
   |(
  rw[hm,uM l j (by omega)]
  simp only[fO,List.map_append,List.map_cons,List.map_nil,atV]
  first|(rw[if_pos (by omega)]
         done)|(rw[if_neg (by omega)]
                done))
 · first
   |(
  simp
  done)
   |(
  simp only[List.length_append,List.length_cons,List.length_nil]
  omega))
  |(
 with_reducible refine Side.mk ?_
 (try dsimp only[cu,aC,aB,gts,loK,hiK,Prod.eta,List.nil_append])
 first
 |(done)
 |(omega)
 |(exact Eq.refl _)
 |(simp only[List.length_append,List.length_cons,List.length_nil];omega))
  |(conv=>whnf
    first
     |done
     |exact trivial
     |with_reducible refine NilBr.mk (fun h=>?_) ?_
     |with_reducible first|refine aJ ?_ ?_|refine aI ?_ ?_|refine aK (by kernel_rfl) ?_|refine aL ?_|refine bD ?_ ?_|refine bC ?_ ?_|refine aR ?_ ?_
     |((with_reducible first|refine aT (fun h=>?_) (fun h=>?_)|refine aS (fun h=>?_) (fun h=>?_)|refine bA (fun h=>?_) (fun h=>?_))<;>(try dsimp only[cu,Prod.eta,List.nil_append]at h)<;>(try(exfalso;omega;done)))
     |(
 intro yy (hy:Tag 75/\_)
 obtain⟨(k:Int),(O:List (List Val)),_⟩:=yy
 replace hy:=hy.2
 dsimp only[cu,aC,aB,gts,Prod.eta,List.nil_append]at hy
 obtain⟨hk,ho,hol⟩:=hy)
     |(
 intro yy (hy:Tag 76/\_)
 obtain⟨(j:Int),(M:List Val),_⟩:=yy
 replace hy:=hy.2
 dsimp only[cu,aC,aB,gts,Prod.eta,List.nil_append]at hy
 obtain⟨hj,hm,hml⟩:=hy)))
 all_goals(
 with_reducible refine Leaf.mk ?_
 (try dsimp only[cu,aC,aB,gts,Prod.eta,List.nil_append]at *)
 first
 |(rw[oT,if_pos (by omega)])
 |(rw[oT,if_neg (by omega),ho,show k=n by omega]))
abbrev qSH:Tbl:=(27,EV)::qSG
theorem VK:aD Tryz.prog qSH:=aD.cons qLX VJ
end Go.Proofs.YtcjiefknhfhmkaaGreatDoor
namespace Go.Abs
set_option maxRecDepth 100000
set_option maxHeartbeats 4000000
set_option linter.unusedVariables false
theorem Rep.ext {w:World} {ι ι2:Iota} {M M2:Nat->Prop} (hi:∀i l,ι i=some l->ι2 i=some l) (hm:∀b,M2 b->M b) {x:V} {y:Value} (r:Rep w ι M x y):Rep w ι2 M2 x y:=by
 induction r with
 |v x=>exact .v x
 |any x=>exact .any x
 |pF row off b o cells hb hn hc _ ih=>exact .pF row off b o cells hb (fun q=>hn (hm _ q)) hc ih
 |pO id row off l hl=>exact .pO id row off l (hi _ _ hl)
 |sF sz rows a cap cells hb hcap hr hc _ ih=>exact .sF sz rows a cap cells (fun hne=>let ⟨h1,h2,h3⟩:=hb hne;⟨h1,h2,fun q=>h3 (hm _ q)⟩) hcap hr hc ih
 |sN sz=>exact .sN sz
 |sO id off len cap l c e fr hl h1 h2 h3=>exact .sO id off len cap l c e fr (hi _ _ hl) h1 h2 h3
 |agg xs vs hl _ ih=>exact .agg xs vs hl ih
 |tup xs vs hl _ ih=>exact .tup xs vs hl ih
 |fn f first caps vs us h1 h2 _ _ ih1 ih2=>exact .fn f first caps vs us h1 h2 ih1 ih2
 |ifc t x y _ ih=>exact .ifc t x y ih
 |sL t l y _ ih=>exact .sL t l y ih
 |oL id n y _ ih=>exact .oL id n y ih
structure Out (σ N:List Nat) (k:Heap) (h':Heap) (k':Heap) (τ:List Nat):Prop where
 len:τ.length=k'.length
 le:k.length<=k'.length
 other:∀i:Nat,i<k.length->¬i∈σ->¬i∈N->τ[i]? =some (List.length h')/\k'[i]? =k[i]?
 old:∀j i:Nat,σ[j]? =some i->τ[i]? =some j
 obj:∀i:Nat,(i∈σ\/(i∈N\/k.length<=i))->i<k'.length->∃m x z,τ[i]? =some m/\h'[m]? =some x/\k'[i]? =some z/\jU τ x z
 inj:∀(i1 i2 m:Nat) (o1 o2:AObj),(i1∈σ\/(i1∈N\/k.length<=i1))->(i2∈σ\/(i2∈N\/k.length<=i2))->k'[i1]? =some (.live o1)->k'[i2]? =some (.live o2)->τ[i1]? =some m->τ[i2]? =some m->i1=i2
theorem PC.liftN {P:Program} {f:FuncId} {args0 args:List V} {h0 k:Heap} {σ N:List Nat} {R:V->Heap->Prop} {y':V} {k':Heap} (hσ:σ.Nodup) (hN:∀i,i∈N->k[i]? =some .free) (hl0:h0.length=σ.length)
  (hobj:∀(j i:Nat),σ[j]? =some i->∃x y,k[i]? =some y/\h0[j]? =some x/\jU σ y x) (harg:Pairs (bY σ) args args0) (hc:PC P f args0 h0 R)
  (hout:∀y h',R y h'->∃τ,Out σ N k h' k' τ/\bY τ y y'):PC P f args k (fun y k2=>y=y'/\k2=k'):=by
 intro ι w vals hp H
 let X0:Nat->Prop:=fun b=>Mt k ι b/\¬Ob h0 (ι.ren σ) b
 let ι0:Iota:={at':=(ι.ren σ).at',X:=X0}
 have e0:∀j,ι0 j=(ι.ren σ) j:=fun _=>rfl
 have at0:∀(j i:Nat),σ[j]? =some i->ι0 j=ι i:=by intro j i h;rw[e0];simp [Iota.ren,h]
 have ob0:∀b,Ob h0 ι0 b↔Ob h0 (ι.ren σ) b:=fun b=>Iff.rfl
 have getσ:∀(j:Nat) (o:AObj),h0[j]? =some (.live o)->∃i oc,σ[j]? =some i/\k[i]? =some (.live oc)/\RenL σ oc o:=by
  intro j o h
  have hj:j<σ.length:=by rw[<-hl0];exact aN h
  obtain⟨x,y,h1,h2,h3⟩:=hobj j σ[j] (List.getElem?_eq_getElem hj)
  rw[h]at h2;injection h2 with h2;subst h2
  obtain⟨oc,rfl,h4⟩:=h3.2 o rfl
  exact⟨σ[j],oc,List.getElem?_eq_getElem hj,h1,h4⟩
 have obk:∀b,Ob h0 ι0 b->Ob k ι b:=by
  rintro b ⟨j,o,l,h1,h2,h3⟩
  obtain⟨i,oc,g1,g2,_⟩:=getσ j o h1
  rw[at0 j i g1]at h2
  exact⟨i,oc,l,g2,h2,h3⟩
 have mt0:∀b,Mt h0 ι0 b->Mt k ι b:=fun b q=>q.elim (fun q=>q.1) (fun q=>.inr (obk b q))
 have mlt:∀b,Mt k ι b->b<w.heap.size:=by
  rintro b (q|q)
  · exact H.xlt b q
  · exact H.blk_lt q
 have rep0:∀ {x y:V} {z:Value},bY σ x y->Rep w ι (Mt k ι) x z->Rep w ι0 (Mt h0 ι0) y z:=fun hr r=>
  Rep.ext (ι:=ι.ren σ) (ι2:=ι0) (fun i l q=>q) (fun b q=>q) (hr w ι _ _ mt0 _ r)
 have H0:HRel h0 ι0 w:=by
  refine⟨fun j o ho=>?_,fun j hj=>?_,fun j hj=>?_,fun j1 o1 l1 j2 o2 l2 a1 a2 b1 b2 hb=>?_,fun b q=>mlt b q.1,fun b q r=>q.2 r⟩
  · obtain⟨i,oc,g1,g2,g3⟩:=getσ j o ho
    obtain⟨l,c,fr,h1,la⟩:=H.live i oc g2
    refine⟨l,c,fr,(at0 j i g1).trans h1,⟨by rw[<-g3.elem];exact la.blk,by rw[<-g3.sz];exact la.unfrozen,by rw[<-g3.sz];exact la.sz,fun r' hr'=>?_,by rw[<-g3.sz,<-g3.len];exact la.fits,fun a ha b hb=>?_⟩⟩
    · obtain⟨a,ha,e⟩:=List.getElem_of_mem hr'
      have ha1:a<oc.rows.length:=by rw[g3.len];exact ha
      have u:=g3.rows a _ _ (List.getElem?_eq_getElem ha1) (List.getElem?_eq_getElem ha)
      rw[<-e,<-u.1,<-g3.sz]
      exact la.rows _ (List.getElem_mem ha1)
    · have ha1:a<oc.rows.length:=by rw[g3.len];exact ha
      have u:=g3.rows a _ _ (List.getElem?_eq_getElem ha1) (List.getElem?_eq_getElem ha)
      have hb1:b<oc.rows[a].length:=by rw[u.1];exact hb
      obtain⟨z,z1,z2⟩:=la.reads a ha1 b hb1
      exact⟨z,by rw[<-g3.sz];exact z1,rep0 (u.2 b _ _ (List.getElem?_eq_getElem hb1) (List.getElem?_eq_getElem hb)) z2⟩
  · exfalso
    have hj':j<σ.length:=by rw[<-hl0];exact aN hj
    obtain⟨x,y,h1,h2,h3⟩:=hobj j σ[j] (List.getElem?_eq_getElem hj')
    rw[hj]at h2;injection h2 with h2;subst h2
    exact h3.1 rfl
  · have:σ[j]? =none:=List.getElem?_eq_none (by rw[<-hl0];exact hj)
    rw[e0];simp [Iota.ren,this]
  · obtain⟨i1,p1,g1,g2,_⟩:=getσ j1 o1 a1
    obtain⟨i2,p2,f1,f2,_⟩:=getσ j2 o2 b1
    rw[at0 j1 i1 g1]at a2
    rw[at0 j2 i2 f1]at b2
    have:=H.apart _ _ _ _ _ _ g2 a2 f2 b2 hb
    subst this
    have h1:=aN g1
    have h2:=aN f1
    rw[List.getElem?_eq_getElem h1]at g1;injection g1 with g1
    rw[List.getElem?_eq_getElem h2]at f1;injection f1 with f1
    have hpw:=List.pairwise_iff_getElem.1 hσ
    rcases Nat.lt_trichotomy j1 j2 with q|q|q
    · exact absurd (g1.trans f1.symm) (hpw j1 j2 h1 h2 q)
    · exact q
    · exact absurd (f1.trans g1.symm) (hpw j2 j1 h2 h1 q)
 have hp0:PW2 w ι0 (Mt h0 ι0) args0 vals:=by
  refine⟨harg.1.symm.trans hp.1,fun i y hy=>?_⟩
  have hi:i<args.length:=by rw[harg.1];exact aN hy
  obtain⟨z,z1,z2⟩:=hp.2 i _ (List.getElem?_eq_getElem hi)
  exact⟨z,z1,rep0 (harg.2 i _ _ (List.getElem?_eq_getElem hi) hy) z2⟩
 refine(hc ι0 w vals hp0 H0).mono ?_
 rintro e w' ⟨z,y,h',ι',rfl,hR,rz,H',ev⟩
 obtain⟨τ,O,hy⟩:=hout y h' hR
 have hX:ι'.X=X0:=ev.away
 have dec:∀i,Decidable (i∈σ\/(i∈N\/k.length<=i)):=fun i=>inferInstance
 let ι2:Iota:={at':=fun i=>(match τ[i]? with
  |some m=>if i∈σ\/(i∈N\/k.length<=i)then ι' m else ι i
  |none=>none),X:=ι.X}
 have at2:∀i m,τ[i]? =some m->(i∈σ\/(i∈N\/k.length<=i))->ι2 i=ι' m:=fun i m h1 h2=>by
  show(match τ[i]? with
   |some m=>if i∈σ\/(i∈N\/k.length<=i)then ι' m else ι i
   |none=>none)=_
  rw[h1];simp only[if_pos h2]
 have at2o:∀i,i<k.length->(¬i∈σ/\¬i∈N)->ι2 i=ι i:=fun i h1 h2=>by
  show(match τ[i]? with
   |some m=>if i∈σ\/(i∈N\/k.length<=i)then ι' m else ι i
   |none=>none)=_
  rw[(O.other i h1 h2.1 h2.2).1];simp only[if_neg (show ¬(i∈σ\/(i∈N\/k.length<=i))by rintro(q|q|q);exact h2.1 q;exact h2.2 q;omega)]
 have side:∀i,i<k'.length->(i<k.length/\(¬i∈σ/\¬i∈N))\/(i∈σ\/(i∈N\/k.length<=i)):=fun i _=>by
  by_cases h1:i∈σ
  · exact .inr (.inl h1)
  · by_cases h3:i∈N
    · exact .inr (.inr (.inl h3))
    · rcases Nat.lt_or_ge i k.length with h2|h2
      · exact .inl ⟨h2,h1,h3⟩
      · exact .inr (.inr (.inr h2))
 have ext2:∀i l,(ι'.ren τ) i=some l->ι2 i=some l:=by
  intro i l h
  have hi:i<k'.length:=by
   rcases Nat.lt_or_ge i k'.length with q|q
   · exact q
   · rw[<-O.len]at q
     simp [Iota.ren,List.getElem?_eq_none q]at h
  rcases side i hi with⟨h1,h2⟩|h1
  · rw[show(ι'.ren τ) i=none by simp [Iota.ren,(O.other i h1 h2.1 h2.2).1];exact H'.out _ (Nat.le_refl _)]at h
    cases h
  · obtain⟨m,x,zz,g1,_⟩:=O.obj i h1 hi
    rw[at2 i m g1 h1,<-h]
    simp [Iota.ren,g1]
 have obO:∀b,Ob k' ι2 b->(Ob k ι b/\¬Ob h0 ι0 b)\/Ob h' ι' b:=by
  rintro b ⟨i,o,l,g1,g2,g3⟩
  rcases side i (aN g1)with⟨h1,h2⟩|h1
  · rw[(O.other i h1 h2.1 h2.2).2]at g1
    rw[at2o i h1 h2]at g2
    refine .inl ⟨⟨i,o,l,g1,g2,g3⟩,?_⟩
    rintro⟨j,o2,l2,f1,f2,f3⟩
    obtain⟨i2,oc,d1,d2,_⟩:=getσ j o2 f1
    rw[at0 j i2 d1]at f2
    have:=H.apart _ _ _ _ _ _ g1 g2 d2 f2 (by rw[g3,f3])
    subst this
    exact h2.1 (cD d1)
  · obtain⟨m,x,zz,d1,d2,d3,d4⟩:=O.obj i h1 (aN g1)
    rw[g1]at d3;injection d3 with d3;subst d3
    obtain⟨ox,rfl,_⟩:=d4.2 o rfl
    rw[at2 i m d1 h1]at g2
    exact .inr ⟨m,ox,l,d2,g2,g3⟩
 have x0:∀b,ι.X b->X0 b:=fun b q=>⟨.inl q,fun r=>H.xob b q (obk b r)⟩
 have mt2:∀b,Mt k' ι2 b->Mt h' ι' b:=by
  rintro b (q|q)
  · exact .inl (by rw[hX];exact x0 b q)
  · rcases obO b q with⟨q1,q2⟩|q1
    · exact .inl (by rw[hX];exact⟨.inr q1,q2⟩)
    · exact .inr q1
 have ev2:Evolve k ι w k' ι2 w':=by
  refine⟨ev.os,ev.tape,ev.output,ev.size,fun i l hl=>?_,rfl,fun b hb hn=>?_,ev.sizes⟩
  · have hi:i<k.length:=by
      rcases Nat.lt_or_ge i k.length with q|q
      · exact q
      · rw[H.out i q]at hl;cases hl
    by_cases h1:i∈σ
    · obtain⟨j,hj,rfl⟩:=List.getElem_of_mem h1
      have hs:=List.getElem?_eq_getElem hj
      rw[at2 _ j (O.old j _ hs) (.inl h1)]
      exact ev.iota j l ((at0 j _ hs).trans hl)
    · by_cases h3:i∈N
      · rw[H.free i (hN i h3)]at hl;cases hl
      · rw[at2o i hi ⟨h1,h3⟩];exact hl
  · have hn0:¬Ob h0 ι0 b:=fun q=>hn (obk b q)
    obtain⟨g1,g2⟩:=ev.frame b hb hn0
    refine⟨g1,fun q=>?_⟩
    rcases obO b q with⟨q1,_⟩|q1
    · exact hn q1
    · exact g2 q1
 have rep2:∀ {x y:V} {v:Value},bY τ x y->Rep w' ι' (Mt h' ι') x v->Rep w' ι2 (Mt k' ι2) y v:=fun hr r=>
  Rep.ext ext2 (fun b q=>q) (hr w' ι' _ _ mt2 _ r)
 refine⟨z,y',k',ι2,rfl,⟨rfl,rfl⟩,rep2 hy rz,?_,ev2⟩
 refine⟨fun i o ho=>?_,fun i hi=>?_,fun i hi=>?_,fun i1 o1 l1 i2 o2 l2 a1 a2 b1 b2 hb=>?_,fun b hb=>Nat.lt_of_lt_of_le (H.xlt b hb) ev.size,fun b hb q=>?_⟩
 · rcases side i (aN ho)with⟨h1,h2⟩|h1
   · have hok:=ho
     rw[(O.other i h1 h2.1 h2.2).2]at hok
     obtain⟨l,c,fr,g1,la⟩:=H.live i o hok
     have hob:Ob k ι l.blk:=⟨i,o,l,hok,g1,rfl⟩
     have hn0:¬Ob h0 ι0 l.blk:=by
      rintro⟨j,o2,l2,f1,f2,f3⟩
      obtain⟨i2,oc,d1,d2,_⟩:=getσ j o2 f1
      rw[at0 j i2 d1]at f2
      have:=H.apart _ _ _ _ _ _ hok g1 d2 f2 f3.symm
      subst this
      exact h2.1 (cD d1)
     refine⟨l,c,fr,(at2o i h1 h2).trans g1,⟨((ev.frame _ (H.blk_lt hob) hn0).1).trans la.blk,la.unfrozen,la.sz,la.rows,la.fits,fun a ha b hb=>?_⟩⟩
     obtain⟨v,v1,v2⟩:=la.reads a ha b hb
     exact⟨v,v1,v2.mono ev2⟩
   · obtain⟨m,x,zz,d1,d2,d3,d4⟩:=O.obj i h1 (aN ho)
     rw[ho]at d3;injection d3 with d3;subst d3
     obtain⟨ox,rfl,g3⟩:=d4.2 o rfl
     obtain⟨l,c,fr,g1,la⟩:=H'.live m ox d2
     refine⟨l,c,fr,(at2 i m d1 h1).trans g1,⟨by rw[<-g3.elem];exact la.blk,by rw[<-g3.sz];exact la.unfrozen,by rw[<-g3.sz];exact la.sz,fun r' hr'=>?_,by rw[<-g3.sz,<-g3.len];exact la.fits,fun a ha b hb=>?_⟩⟩
     · obtain⟨a,ha,e⟩:=List.getElem_of_mem hr'
       have ha1:a<ox.rows.length:=by rw[g3.len];exact ha
       have u:=g3.rows a _ _ (List.getElem?_eq_getElem ha1) (List.getElem?_eq_getElem ha)
       rw[<-e,<-u.1,<-g3.sz]
       exact la.rows _ (List.getElem_mem ha1)
     · have ha1:a<ox.rows.length:=by rw[g3.len];exact ha
       have u:=g3.rows a _ _ (List.getElem?_eq_getElem ha1) (List.getElem?_eq_getElem ha)
       have hb1:b<ox.rows[a].length:=by rw[u.1];exact hb
       obtain⟨v,v1,v2⟩:=la.reads a ha1 b hb1
       exact⟨v,by rw[<-g3.sz];exact v1,rep2 (u.2 b _ _ (List.getElem?_eq_getElem hb1) (List.getElem?_eq_getElem hb)) v2⟩
 · rcases side i (aN hi)with⟨h1,h2⟩|h1
   · rw[(O.other i h1 h2.1 h2.2).2]at hi
     rw[at2o i h1 h2];exact H.free i hi
   · exfalso
     obtain⟨m,x,zz,d1,d2,d3,d4⟩:=O.obj i h1 (aN hi)
     rw[hi]at d3;injection d3 with d3;subst d3
     exact d4.1 rfl
 · show(match τ[i]? with
     |some m=>if i∈σ\/(i∈N\/k.length<=i)then ι' m else ι i
     |none=>none)=_
   rw[List.getElem?_eq_none (by rw[O.len];exact hi)]
 · rcases side i1 (aN a1)with⟨h1,h2⟩|h1<;>rcases side i2 (aN b1)with⟨f1,f2⟩|f1
   · rw[(O.other i1 h1 h2.1 h2.2).2]at a1
     rw[(O.other i2 f1 f2.1 f2.2).2]at b1
     rw[at2o i1 h1 h2]at a2
     rw[at2o i2 f1 f2]at b2
     exact H.apart _ _ _ _ _ _ a1 a2 b1 b2 hb
   · exfalso
     have q:Ob k' ι2 l1.blk:=⟨i1,o1,l1,a1,a2,rfl⟩
     rw[(O.other i1 h1 h2.1 h2.2).2]at a1
     rw[at2o i1 h1 h2]at a2
     obtain⟨m,x,zz,d1,d2,d3,d4⟩:=O.obj i2 f1 (aN b1)
     rw[b1]at d3;injection d3 with d3;subst d3
     obtain⟨ox,rfl,_⟩:=d4.2 o2 rfl
     rw[at2 i2 m d1 f1]at b2
     have hx:X0 l1.blk:=by
      refine⟨.inr ⟨i1,o1,l1,a1,a2,rfl⟩,?_⟩
      rintro⟨j,o3,l3,g1,g2,g3⟩
      obtain⟨i3,oc,e1,e2,_⟩:=getσ j o3 g1
      have g2':ι i3=some l3:=(at0 j i3 e1).symm.trans g2
      have:=H.apart _ _ _ _ _ _ a1 a2 e2 g2' g3.symm
      subst this
      exact h2.1 (cD e1)
     exact H'.xob _ (by rw[hX];exact hx) ⟨m,ox,l2,d2,b2,hb.symm⟩
   · exfalso
     rw[(O.other i2 f1 f2.1 f2.2).2]at b1
     rw[at2o i2 f1 f2]at b2
     obtain⟨m,x,zz,d1,d2,d3,d4⟩:=O.obj i1 h1 (aN a1)
     rw[a1]at d3;injection d3 with d3;subst d3
     obtain⟨ox,rfl,_⟩:=d4.2 o1 rfl
     rw[at2 i1 m d1 h1]at a2
     have hx:X0 l2.blk:=by
      refine⟨.inr ⟨i2,o2,l2,b1,b2,rfl⟩,?_⟩
      rintro⟨j,o3,l3,g1,g2,g3⟩
      obtain⟨i3,oc,e1,e2,_⟩:=getσ j o3 g1
      have g2':ι i3=some l3:=(at0 j i3 e1).symm.trans g2
      have:=H.apart _ _ _ _ _ _ b1 b2 e2 g2' g3.symm
      subst this
      exact f2.1 (cD e1)
     exact H'.xob _ (by rw[hX];exact hx) ⟨m,ox,l1,d2,a2,hb⟩
   · obtain⟨m1,x1,z1,d1,d2,d3,d4⟩:=O.obj i1 h1 (aN a1)
     obtain⟨m2,x2,z2,c1,c2,c3,c4⟩:=O.obj i2 f1 (aN b1)
     rw[a1]at d3;injection d3 with d3;subst d3
     rw[b1]at c3;injection c3 with c3;subst c3
     obtain⟨ox1,rfl,_⟩:=d4.2 o1 rfl
     obtain⟨ox2,rfl,_⟩:=c4.2 o2 rfl
     rw[at2 i1 m1 d1 h1]at a2
     rw[at2 i2 m2 c1 f1]at b2
     have:=H'.apart _ _ _ _ _ _ d2 a2 c2 b2 hb
     subst this
     exact O.inj i1 i2 _ o1 o2 h1 f1 a1 b1 d1 c1
 · rcases obO b q with⟨q1,_⟩|q1
   · exact H.xob b hb q1
   · exact H'.xob b (by rw[hX];exact x0 b hb) q1
end Go.Abs
