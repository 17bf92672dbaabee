import Derived.Test.YtcjiefknhfhmkaaGreatDoorM07
namespace Go.Proofs.YtcjiefknhfhmkaaGreatDoor
open Go.Abs
set_option maxRecDepth 100000
set_option maxHeartbeats 4000000
set_option linter.unusedVariables false
set_option linter.unusedSimpArgs false
def mnL:List Int->Int
 | []=>0
 |x::l=>l.foldl aZ x
def mxL:List Int->Int
 | []=>0
 |x::l=>l.foldl dF x
theorem qTJ (x:Int):∀l:List Int,l≠ []->mnL (l++ [x])=aZ (mnL l) x
 | [],h=>absurd rfl h
 |y::l,_=>by simp [mnL]
theorem qTO (x:Int):∀l:List Int,l≠ []->mxL (l++ [x])=dF (mxL l) x
 | [],h=>absurd rfl h
 |y::l,_=>by simp [mxL]
theorem qF2 {l:List Int} {k:Int} (h:1<=k/\k<l.length):l.take k.toNat≠ []:=by
 intro q;have:=congrArg List.length q;rw[List.length_take,List.length_nil]at this;omega
theorem jC {l:List Int} {k:Int} (h:0<=k/\k<l.length):l.take (k+1).toNat=l.take k.toNat++ [l[k.toNat]!]:=by
 rw[show(k+1).toNat=k.toNat+1 by omega,List.take_succ_eq_append_getElem (by omega),getElem!_pos l k.toNat (by omega)]
theorem qFA {l:List Int} {k:Int} (h:1<=k/\k<l.length):mnL (l.take (k+1).toNat)=aZ (mnL (l.take k.toNat)) l[k.toNat]!:=by
 rw[jC (by omega),qTJ _ _ (qF2 h)]
theorem qTQ {l:List Int} {k:Int} (h:1<=k/\k<l.length):mxL (l.take (k+1).toNat)=dF (mxL (l.take k.toNat)) l[k.toNat]!:=by
 rw[jC (by omega),qTO _ _ (qF2 h)]
theorem KV {l:List Int} (h:1<=l.length):l.take (1:Int).toNat= [l[0]!]:=by
 cases l with
 |nil=>simp at h
 |cons x l=>rfl
theorem qDZ (s:ByteArray) (n w:Int):∀i:Nat,(aM s n w).1[i]! <18446744073709551616:=by
 intro i;have nil:∀l:List Int,l= []->l[i]! <18446744073709551616:=fun l h=>by subst h;show(0:Int)<_;decide
 unfold aM;split
 ·exact nil _ rfl
 rename_i hp;have hp:=(dN n w).1 (Decidable.not_not.1 hp);split
 ·exact nil _ rfl
 split
 ·exact nil _ rfl
 split
 ·exact nil _ rfl
 ·by_cases h:i<n.toNat
  ·rw[qCN h]
   have h1:=(qEX (sS s) (n*w).toNat w.toNat i w.toNat).2;have h2:(2:Int)^w.toNat<=18446744073709551616:=by
    have:=Nat.pow_le_pow_right (show 0<2 by decide) (show w.toNat<=64 by omega);rw[<-gB];omega
   omega
  ·rw[getElem!_neg _ i (by rw[lB];exact h)];show(0:Int)<_;decide
theorem uV (s:ByteArray) (n w:Int) (i:Nat):0<=(aM s n w).1[i]! /\(aM s n w).1[i]! <18446744073709551616:=⟨kQ s n w i,qDZ s n w i⟩
theorem qOP:∀ {l:List Int} {x:Int},l.foldl dF x=x\/l.foldl dF x∈l
 | [],x=>.inl rfl
 |y::l,x=>by
  rcases qOP (l:=l) (x:=dF x y)with q|q
  ·rw[List.foldl_cons,q];unfold dF;split
   ·right;simp
   ·left;rfl
  ·right;rw[List.foldl_cons];simp [q]
theorem qTP {l:List Int} (h:∀i:Nat,0<=l[i]! /\l[i]! <18446744073709551616):0<=mxL l/\mxL l<18446744073709551616:=by
 have hm:∀x,x∈l->0<=x/\x<18446744073709551616:=fun x hx=>by
  obtain⟨i,hi,rfl⟩:=List.mem_iff_getElem.1 hx;have:=h i;rwa [getElem!_pos l i hi]at this
 cases l with
 |nil=>exact⟨Int.le_refl _,by show(0:Int)<_;decide⟩
 |cons x l=>
  show 0<=List.foldl dF x l/\List.foldl dF x l<18446744073709551616;rcases qOP (l:=l) (x:=x)with q|q
  ·rw[q];exact hm x (by simp)
  ·exact hm _ (by simp [q])
def dW (s:ByteArray) (a:Int):Int:=aE s (aA s a).2.1.toNat
def dE (s:ByteArray) (a k:Int):Int:=(aA s a).2.1+1+bP k (dW s a)
def dU (s:ByteArray) (a k:Int):List Int×Int:=aM (s.extract ((aA s a).2.1+1).toNat (dE s a k).toNat) k (dW s a)
def dL (s:ByteArray) (a:Int):Int:=jP (aA s a).1
def dDs (s:ByteArray) (a k:Int):List Int:=(dU s a k).1.map fun v=>IntKind.i64.wrap (dL s a+v)
def dOk (s:ByteArray) (a k:Int):Bool:=decide ((dU s a k).2=0)&&decide (mnL (dU s a k).1=0)&&decide (fI (mxL (dU s a k).1)=dW s a)&&decide (mnL (dDs s a k)=dL s a)
def fD (s:ByteArray) (a k:Int):List Int×Int×Int:=
 if(aA s a).2.2≠0 then([],0,(aA s a).2.2)else if(aA s a).2.1=s.size then([],0,10)else if dW s a>64 then([],0,2)
 else if dE s a k>s.size then([],0,10)else if dOk s a k=false then([],0,2)else(dDs s a k,dE s a k,0)
theorem qLK (x v:Int):IntKind.i64.wrap (x+IntKind.i64.wrap v)=IntKind.i64.wrap (x+v):=by simp [IntKind.wrap,IntKind.bits,IntKind.signed];omega
theorem rS (s:ByteArray) (a:Int):0<=dW s a/\dW s a<256:=bI _ _
theorem qM1 {s:ByteArray} {a k:Int} (h:(dU s a k).2=0):(dU s a k).1.length=k.toNat:=dG h
theorem FK (s:ByteArray) (a k:Int):dOk s a k=true↔(dU s a k).2=0/\mnL (dU s a k).1=0/\fI (mxL (dU s a k).1)=dW s a/\mnL (dDs s a k)=dL s a:=by simp [dOk,and_assoc]
theorem qB2 {s:ByteArray} {a k:Int} (h:¬((dU s a k).2=0/\mnL (dU s a k).1=0/\fI (mxL (dU s a k).1)=dW s a/\mnL (dDs s a k)=dL s a)):dOk s a k=false:=by
 rw[Bool.eq_false_iff];exact fun q=>h ((FK s a k).1 q)
theorem qE8 {l:List Int} {f:Int->Int} {k:Int} (h:0<=k/\k<l.length):(l.take (k+1).toNat).map f=(l.take k.toNat).map f++ [f l[k.toNat]!]:=by
 rw[jC h];simp
theorem iH (k w:Int):0<=bP k w/\bP k w<=32768:=by
 unfold bP;split
 ·rename_i h
  have h1:=(dN k w).1 h;have h2:=qFD h1;rw[Int.tdiv_eq_ediv_of_nonneg (by omega)];omega
 ·omega
abbrev HB:Ct:=.fn [.list (.int .i64)] (some (fun(l:List Int)=>(1<=l.length/\l.length<=1073741824))) (fun(l:List Int)=>.d (.int .i64) (mnL l))
theorem qOL:aF Tryz.prog 201 HB:=by
 refine aF.fn qHB mixed [] [] rfl rfl ?_;rintro⟨(l:List Int),_⟩ hpre;replace hpre:=hpre _ rfl;dsimp only[cu]at hpre;have hl:=hpre;refine⟨[(0,10,LA.mk [.sl 4 (.int .i64),.sl 3 (.int .i64)] (fun y=>Tag 38/\cu [.int .i64,.int .i64] (fun(i:Int) (m:Int)=>(1<=i/\i<=l.length)/\(m=mnL (l.take i.toNat))) y) (cu [.int .i64,.int .i64] (fun(i:Int) (m:Int)=>((l.length:Int)-i).toNat)) (cu [.int .i64,.int .i64] (fun(i:Int) (m:Int)=>([]:List (Nat×Nat×LA)))))],?_⟩;repeat' (first
  |(
 with_reducible refine Side.mk ⟨(⟨⟩:Tag 38),?_⟩
 dsimp only[cu,aC,aB,gts,eE,eN]
 refine⟨?_,?_⟩
 ·omega
 ·first
  |rw[KV (by omega)];rfl
  |(
  (try simp only[dH])
  rw[hm,qFA (by omega)]))
  |(
 with_reducible apply Side.mk
 (try dsimp only[cu,aC,aB,gts,loK,hiK,eE,eN])
 omega)
  |(conv=>whnf
    first
     |with_reducible first|done|exact trivial|refine NilBr.mk (fun h=>?_) ?_|apply aI|apply aH|refine aJ (by kernel_rfl) ?_|apply aK|apply bE|apply bD|apply aQ
     |((with_reducible first|apply aS|apply aR|apply bB)<;>intro h<;>(try dsimp only[cu,eE,eN]at h)<;>(try(exfalso;omega)))
     |(
 intro yy (hy:Tag 38/\_)
 obtain⟨(i:Int),(m:Int),_⟩:=yy
 replace hy:=hy.2
 dsimp only[cu,aC,aB,gts,eE,eN]at hy
 obtain⟨hi,hm⟩:=hy)))
 all_goals(
 with_reducible apply Leaf.mk
 (try dsimp only[cu,aC,aB,gts,eE,eN]at *)
 rw[hm,List.take_of_length_le (by omega)])
abbrev qb0:Tbl:=(201,HB)::qbZ
theorem qHC:aD Tryz.prog qb0:=aD.cons qOL qHB
abbrev NE:Ct:=.fn [.list (.int .u64)] (some (fun(l:List Int)=>(1<=l.length/\l.length<=1073741824))) (fun(l:List Int)=>.d (.int .u64) (mnL l))
theorem qTI:aF Tryz.prog 227 NE:=by
 refine aF.fn qHC mixed [] [] rfl rfl ?_;rintro⟨(l:List Int),_⟩ hpre;replace hpre:=hpre _ rfl;dsimp only[cu]at hpre;have hl:=hpre;refine⟨[(0,10,LA.mk [.sl 4 (.int .i64),.sl 3 (.int .u64)] (fun y=>Tag 39/\cu [.int .i64,.int .u64] (fun(i:Int) (m:Int)=>(1<=i/\i<=l.length)/\(m=mnL (l.take i.toNat))) y) (cu [.int .i64,.int .u64] (fun(i:Int) (m:Int)=>((l.length:Int)-i).toNat)) (cu [.int .i64,.int .u64] (fun(i:Int) (m:Int)=>([]:List (Nat×Nat×LA)))))],?_⟩;repeat' (first
  |(
 with_reducible refine Side.mk ⟨(⟨⟩:Tag 39),?_⟩
 dsimp only[cu,aC,aB,gts,eE,eN]
 refine⟨?_,?_⟩
 ·omega
 ·first
  |rw[KV (by omega)];rfl
  |(
  (try simp only[dH])
  rw[hm,qFA (by omega)]))
  |(
 with_reducible apply Side.mk
 (try dsimp only[cu,aC,aB,gts,loK,hiK,eE,eN])
 omega)
  |(conv=>whnf
    first
     |with_reducible first|done|exact trivial|refine NilBr.mk (fun h=>?_) ?_|apply aI|apply aH|refine aJ (by kernel_rfl) ?_|apply aK|apply bE|apply bD|apply aQ
     |((with_reducible first|apply aS|apply aR|apply bB)<;>intro h<;>(try dsimp only[cu,eE,eN]at h)<;>(try(exfalso;omega)))
     |(
 intro yy (hy:Tag 39/\_)
 obtain⟨(i:Int),(m:Int),_⟩:=yy
 replace hy:=hy.2
 dsimp only[cu,aC,aB,gts,eE,eN]at hy
 obtain⟨hi,hm⟩:=hy)))
 all_goals(
 with_reducible apply Leaf.mk
 (try dsimp only[cu,aC,aB,gts,eE,eN]at *)
 rw[hm,List.take_of_length_le (by omega)])
abbrev qb1:Tbl:=(227,NE)::qb0
theorem qHD:aD Tryz.prog qb1:=aD.cons qTI qHC
abbrev NB:Ct:=.fn [.list (.int .u64)] (some (fun(l:List Int)=>(1<=l.length/\l.length<=1073741824))) (fun(l:List Int)=>.d (.int .u64) (mxL l))
theorem qTE:aF Tryz.prog 228 NB:=by
 refine aF.fn qHD mixed [] [] rfl rfl ?_;rintro⟨(l:List Int),_⟩ hpre;replace hpre:=hpre _ rfl;dsimp only[cu]at hpre;have hl:=hpre;refine⟨[(0,10,LA.mk [.sl 4 (.int .i64),.sl 3 (.int .u64)] (fun y=>Tag 40/\cu [.int .i64,.int .u64] (fun(i:Int) (m:Int)=>(1<=i/\i<=l.length)/\(m=mxL (l.take i.toNat))) y) (cu [.int .i64,.int .u64] (fun(i:Int) (m:Int)=>((l.length:Int)-i).toNat)) (cu [.int .i64,.int .u64] (fun(i:Int) (m:Int)=>([]:List (Nat×Nat×LA)))))],?_⟩;repeat' (first
  |(
 with_reducible refine Side.mk ⟨(⟨⟩:Tag 40),?_⟩
 dsimp only[cu,aC,aB,gts,eE,eN]
 refine⟨?_,?_⟩
 ·omega
 ·first
  |rw[KV (by omega)];rfl
  |(
  (try simp only[dH])
  rw[hm,qTQ (by omega)]))
  |(
 with_reducible apply Side.mk
 (try dsimp only[cu,aC,aB,gts,loK,hiK,eE,eN])
 omega)
  |(conv=>whnf
    first
     |with_reducible first|done|exact trivial|refine NilBr.mk (fun h=>?_) ?_|apply aI|apply aH|refine aJ (by kernel_rfl) ?_|apply aK|apply bE|apply bD|apply aQ
     |((with_reducible first|apply aS|apply aR|apply bB)<;>intro h<;>(try dsimp only[cu,eE,eN]at h)<;>(try(exfalso;omega)))
     |(
 intro yy (hy:Tag 40/\_)
 obtain⟨(i:Int),(m:Int),_⟩:=yy
 replace hy:=hy.2
 dsimp only[cu,aC,aB,gts,eE,eN]at hy
 obtain⟨hi,hm⟩:=hy)))
 all_goals(
 with_reducible apply Leaf.mk
 (try dsimp only[cu,aC,aB,gts,eE,eN]at *)
 rw[hm,List.take_of_length_le (by omega)])
abbrev qb2:Tbl:=(228,NB)::qb1
theorem qHE:aD Tryz.prog qb2:=aD.cons qTE qHD
abbrev NN:Ct:=.fn [.str,.int .i64,.int .i64] (some (fun(s:ByteArray) (a:Int) (k:Int)=>(s.size<=288230376151711744)/\(1<=k/\k<=32))) (fun(s:ByteArray) (a:Int) (k:Int)=>.tup [.list (.int .i64),.int .i64,.int .i64] ((fD s a k).1,(fD s a k).2.1,(fD s a k).2.2,()))
theorem qTZ:aF Tryz.prog 213 NN:=by
 refine aF.fn qHE mixed [(0,20,3),(0,20,4)] [] rfl rfl ?_;rintro⟨(s:ByteArray),(a:Int),(k:Int),_⟩ hpre;replace hpre:=hpre _ rfl;dsimp only[cu]at hpre;obtain⟨hs,hk⟩:=hpre;refine⟨[(0,36,LA.mk [.sl 77 (.int .i64),.lst 15 (.int .i64) 2] (fun y=>Tag 41/\cu [.int .i64,.list (.int .i64)] (fun(i:Int) (D:List Int)=>(0<=i/\i<=(aM (s.extract ((aA s a).2.1+1).toNat ((aA s a).2.1+1+bP k (aE s (aA s a).2.1.toNat)).toNat) k (aE s (aA s a).2.1.toNat)).1.length)/\(D=((aM (s.extract ((aA s a).2.1+1).toNat ((aA s a).2.1+1+bP k (aE s (aA s a).2.1.toNat)).toNat) k (aE s (aA s a).2.1.toNat)).1.take i.toNat).map (fun v=>IntKind.i64.wrap (jP (aA s a).1+v)))) y) (cu [.int .i64,.list (.int .i64)] (fun(i:Int) (D:List Int)=>((aM (s.extract ((aA s a).2.1+1).toNat ((aA s a).2.1+1+bP k (aE s (aA s a).2.1.toNat)).toNat) k (aE s (aA s a).2.1.toNat)).1.length-i).toNat)) (cu [.int .i64,.list (.int .i64)] (fun(i:Int) (D:List Int)=>([]:List (Nat×Nat×LA)))))],?_⟩;repeat' (first
  |(
 with_reducible refine Side.mk ⟨(⟨⟩:Tag 41),?_⟩
 dsimp only[cu,aC,aB,gts,eE,eN]
 refine⟨?_,?_⟩
 ·omega
 ·first
  |rfl
  |(
  (try simp only[dH])
  rw[hD,qE8 (by omega),qLK]))
  |(
 with_reducible apply Side.mk
 (try dsimp only[cu,aC,aB,gts,loK,hiK,eE,eN])
 first
 |done
 |omega
 |exact Eq.refl _
 |(
  have hg:=aG s a;have hw:=rS s a;have hn:=iH k (aE s (aA s a).2.1.toNat);have hg0:(aA s a).2.2=0:=by assumption
  have hok:=bC hg0;first
  |omega
  |(
   have eW:dW s a=aE s (aA s a).2.1.toNat:=rfl;have eE:dE s a k=(aA s a).2.1+1+bP k (aE s (aA s a).2.1.toNat):=rfl;have eU:dU s a k=aM (s.extract ((aA s a).2.1+1).toNat ((aA s a).2.1+1+bP k (aE s (aA s a).2.1.toNat)).toNat) k (aE s (aA s a).2.1.toNat):=rfl;omega))
 |exact qTP (uV _ _ _)
 |(
  have hu0:(aM (s.extract ((aA s a).2.1+1).toNat ((aA s a).2.1+1+bP k (aE s (aA s a).2.1.toNat)).toNat) k (aE s (aA s a).2.1.toNat)).2=0:=by with_reducible assumption
  have hul:=dG hu0;omega)
 |(
  have hDl:=congrArg List.length hD;rw[List.length_map,List.length_take]at hDl;have hu0:(aM (s.extract ((aA s a).2.1+1).toNat ((aA s a).2.1+1+bP k (aE s (aA s a).2.1.toNat)).toNat) k (aE s (aA s a).2.1.toNat)).2=0:=by with_reducible assumption
  have hul:=dG hu0;(try simp only[List.length_cons,List.length_nil]);omega)
 |(
  have hg:=aG s a;have hw:=rS s a;have hn:=iH k (aE s (aA s a).2.1.toNat);have hg0:(aA s a).2.2=0:=by assumption
  have hok:=bC hg0;have eW:dW s a=aE s (aA s a).2.1.toNat:=rfl;have eE:dE s a k=(aA s a).2.1+1+bP k (aE s (aA s a).2.1.toNat):=rfl;have eU:dU s a k=aM (s.extract ((aA s a).2.1+1).toNat ((aA s a).2.1+1+bP k (aE s (aA s a).2.1.toNat)).toNat) k (aE s (aA s a).2.1.toNat):=rfl;simp only[ByteArray.size_extract];omega))
  |(conv=>whnf
    first
     |with_reducible first|done|exact trivial|refine NilBr.mk (fun h=>?_) ?_|apply aI|apply aH|refine aJ (by kernel_rfl) ?_|apply aK|apply bE|apply bD|apply aQ
     |((with_reducible first|apply aS|apply aR|apply bB)<;>intro h<;>(try dsimp only[cu,eE,eN]at h)<;>(try(exfalso;omega)))
     |(
 intro yy (hy:Tag 41/\_)
 obtain⟨(i:Int),(D:List Int),_⟩:=yy
 replace hy:=hy.2
 dsimp only[cu,aC,aB,gts,eE,eN]at hy
 obtain⟨hi,hD⟩:=hy)))
 all_goals(
 with_reducible apply Leaf.mk
 (try dsimp only[cu,aC,aB,gts,eE,eN]at *)
 first
 |(
  have e1:(aA s a).2.2≠0:=by assumption
  rw[fD,if_pos e1])
 |(
  have hg:=aG s a;have hw:=rS s a;have hn:=iH k (aE s (aA s a).2.1.toNat);have hg0:(aA s a).2.2=0:=by assumption
  have hok:=bC hg0;first
  |(
   have e1:¬(aA s a).2.2≠0:=fun q=>q (by assumption)
   have e2:(aA s a).2.1=s.size:=by omega
   rw[fD,if_neg e1,if_pos e2])
  |(
   have eW:dW s a=aE s (aA s a).2.1.toNat:=rfl;have eE:dE s a k=(aA s a).2.1+1+bP k (aE s (aA s a).2.1.toNat):=rfl;have eU:dU s a k=aM (s.extract ((aA s a).2.1+1).toNat ((aA s a).2.1+1+bP k (aE s (aA s a).2.1.toNat)).toNat) k (aE s (aA s a).2.1.toNat):=rfl;have e1:¬(aA s a).2.2≠0:=fun q=>q (by assumption)
   have e2:¬(aA s a).2.1=s.size:=by omega
   first
   |(
    have e3:dW s a>64:=by omega
    rw[fD,if_neg e1,if_neg e2,if_pos e3])
   |(
    have e3:¬dW s a>64:=by omega
    first
    |(
     have e4:dE s a k>s.size:=by omega
     rw[fD,if_neg e1,if_neg e2,if_neg e3,if_pos e4])
    |(
     have e4:¬dE s a k>s.size:=by omega
     first
     |(
      have e5:dOk s a k=false:=by
       refine qB2 (fun q=>?_);obtain⟨q1,q2,q3,q4⟩:=q;rw[eU]at q1 q2 q3;first|(simp_all;done)|omega
      rw[fD,if_neg e1,if_neg e2,if_neg e3,if_neg e4,if_pos e5])
     |(
      have hDD:D=dDs s a k:=by rw[hD,List.take_of_length_le (by omega)];rfl
      first
      |(
       have e5:dOk s a k=false:=by
        refine qB2 (fun q=>?_);obtain⟨q1,q2,q3,q4⟩:=q;rw[<-hDD]at q4;first|contradiction|(exact absurd q4 (by assumption))
       rw[fD,if_neg e1,if_neg e2,if_neg e3,if_neg e4,if_pos e5])
      |(
       have e5:¬dOk s a k=false:=by
        rw[Bool.eq_false_iff];intro q;apply q;rw[FK,<-hDD,eU,eW];first|(exact⟨by assumption,by assumption,by assumption,by assumption⟩)|(simp_all;done)
       rw[fD,if_neg e1,if_neg e2,if_neg e3,if_neg e4,if_neg e5];(try rw[hDD]);(try rfl))))))))
abbrev qb3:Tbl:=(213,NN)::qb2
theorem qHF:aD Tryz.prog qb3:=aD.cons qTZ qHE
def mX (M:List Int):Int:=M[M.length-1]!
def uS:Int->List Int->List Int
 |_,[]=>[]
 |x,d::r=>IntKind.i64.wrap (x+d)::uS (IntKind.i64.wrap (x+d)) r
theorem jX:∀(ds:List Int) (x:Int),(uS x ds).length=ds.length
 | [],_=>rfl
 |d::r,x=>by simp [uS,jX r]
theorem qJ9 (M:List Int) (w:Int):mX (M++ [w])=w:=by
 unfold mX;rw[getElem!_pos _ _ (by simp)];simp
theorem KT:∀(ds M:List Int) (d:Int),M++uS (mX M) (ds++ [d])=(M++uS (mX M) ds)++ [IntKind.i64.wrap (mX (M++uS (mX M) ds)+d)]
 | [],M,d=>by simp [uS]
 |e::r,M,d=>by
  have h:=KT r (M++ [IntKind.i64.wrap (mX M+e)]) d;rw[qJ9]at h;simp only[List.cons_append,uS];simpa using h
theorem qQN {M B:List Int} {i:Int} (h:0<=i/\i<B.length):M++uS (mX M) (B.take (i+1).toNat)=(M++uS (mX M) (B.take i.toNat))++ [IntKind.i64.wrap (mX (M++uS (mX M) (B.take i.toNat))+B[i.toNat]!)]:=by
 rw[jC h,KT]
theorem oY {n:Int} {M:List Int} (h:(M.length:Int)<n):1<=aZ 32 (n-(M.length:Int))/\aZ 32 (n-(M.length:Int))<=32/\M.length+aZ 32 (n-(M.length:Int))<=n:=by unfold aZ;split<;>omega
theorem vA {s:ByteArray} {a k:Int} (h:(fD s a k).2.2=0):(fD s a k).1.length=k.toNat/\0<=(fD s a k).2.1/\(fD s a k).2.1<=s.size:=by
 unfold fD at h ⊢;split at h
 ·exact absurd h (by assumption)
 ·rename_i h1
  rw[if_neg h1];split at h
  ·exact absurd h (by decide)
  ·rename_i h2
   rw[if_neg h2];split at h
   ·exact absurd h (by decide)
   ·rename_i h3
    rw[if_neg h3];split at h
    ·exact absurd h (by decide)
    ·rename_i h4
     rw[if_neg h4];split at h
     ·exact absurd h (by decide)
     ·rename_i h5
      rw[if_neg h5];have h6:=(FK s a k).1 (by simpa using h5);have h7:=qM1 h6.1;have h8:=bC (Decidable.not_not.1 h1);have h9:=iH k (dW s a);have h10:dE s a k=(aA s a).2.1+1+bP k (dW s a):=rfl;refine⟨by simp [dDs,h7],?_,?_⟩
      ·show 0<=dE s a k;omega
      ·show dE s a k<=s.size;omega
def dd (s:ByteArray) (n a:Int) (M:List Int):List Int×Int:=
 if h:(M.length:Int)<n then
  if h2:(fD s a (aZ 32 (n-(M.length:Int)))).2.2=0 then dd s n (fD s a (aZ 32 (n-(M.length:Int)))).2.1 (M++uS (mX M) (fD s a (aZ 32 (n-(M.length:Int)))).1)
  else([],(fD s a (aZ 32 (n-(M.length:Int)))).2.2)
 else if a<s.size then([],2)else(M,0)
termination_by (n-M.length).toNat
decreasing_by
 have:=oY h;have:=(vA h2).1;simp only[List.length_append,jX];omega
def bA (s:ByteArray) (n:Int):List Int×Int:=
 if n<0\/n>4096 then([],4)else if n=0 then(if s=⟨#[]⟩then([],0)else([],2))
 else if(aA s 0).2.2≠0 then([],(aA s 0).2.2)else dd s n (aA s 0).2.1 [jP (aA s 0).1]
theorem tT {s:ByteArray} {n a:Int} {M:List Int} (h:(M.length:Int)<n) (h2:¬(fD s a (aZ 32 (n-(M.length:Int)))).2.2=0):dd s n a M=([],(fD s a (aZ 32 (n-(M.length:Int)))).2.2):=by rw[dd,dif_pos h,dif_neg h2]
theorem qEL {s:ByteArray} {n a:Int} {M:List Int} (h:(M.length:Int)<n) (h2:(fD s a (aZ 32 (n-(M.length:Int)))).2.2=0):dd s n a M=dd s n (fD s a (aZ 32 (n-(M.length:Int)))).2.1 (M++uS (mX M) (fD s a (aZ 32 (n-(M.length:Int)))).1):=by rw[dd,dif_pos h,dif_pos h2]
theorem SD {s:ByteArray} {n a:Int} {M:List Int} (h:¬(M.length:Int)<n):dd s n a M=if a<s.size then([],2)else(M,0):=by rw[dd,dif_neg h]
theorem qE5 {Q:List Int} (h:0<Q.length):Q[((Q.length:Int)-1).toNat]! =mX Q:=by
 unfold mX;rw[show((Q.length:Int)-1).toNat=Q.length-1 by omega]
abbrev MP:Ct:=.fn [.str,.int .i64] (some (fun(s:ByteArray) (n:Int)=>(s.size<=288230376151711744))) (fun(s:ByteArray) (n:Int)=>.tup [.list (.int .i64),.int .i64] ((bA s n).1,(bA s n).2,()))
theorem qR8:aF Tryz.prog 191 MP:=by
 refine aF.fn qHF mixed [(0,10,3500009),(0,11,3500009),(0,13,3500009),(0,19,8)] [] rfl rfl ?_;rintro⟨(s:ByteArray),(n:Int),_⟩ hpre;replace hpre:=hpre _ rfl;dsimp only[cu]at hpre;have hs:=hpre;refine⟨[(0,22,LA.mk [.sl 7 (.int .i64),.nls 9 (.int .i64) 2] (fun y=>Tag 42/\cu [.int .i64,.list (.int .i64)] (fun(a:Int) (M:List Int)=>(dd s n (aA s 0).2.1 [jP (aA s 0).1]=dd s n a M)/\(1<=M.length/\(M.length:Int)<=n)) y) (cu [.int .i64,.list (.int .i64)] (fun(a:Int) (M:List Int)=>(n-(M.length:Int)).toNat)) (cu [.int .i64,.list (.int .i64)] (fun(a:Int) (M:List Int)=>([(0,34,LA.mk [.sl 63 (.int .i64),.nls 9 (.int .i64) 2] (fun y=>Tag 43/\cu [.int .i64,.list (.int .i64)] (fun(i:Int) (Q:List Int)=>(0<=i/\i<=(fD s a (aZ 32 (n-(M.length:Int)))).1.length)/\(Q=M++uS (mX M) ((fD s a (aZ 32 (n-(M.length:Int)))).1.take i.toNat))) y) (cu [.int .i64,.list (.int .i64)] (fun(i:Int) (Q:List Int)=>(((fD s a (aZ 32 (n-(M.length:Int)))).1.length:Int)-i).toNat)) (cu [.int .i64,.list (.int .i64)] (fun(i:Int) (Q:List Int)=>([]:List (Nat×Nat×LA)))))]:List (Nat×Nat×LA)))))],?_⟩;repeat' (first
  |(
 with_reducible refine Side.mk ⟨(⟨⟩:Tag 42),?_⟩
 dsimp only[cu,aC,aB,gts,eE,eN]
 refine⟨?_,?_⟩
 ·first
  |rfl
  |(
  have hk:=oY (n:=n) (M:=M) (by omega)
  have hb0:(fD s a (aZ 32 (n-(M.length:Int)))).2.2=0:=by assumption
  have hbk:=vA hb0
  have hi2:i.toNat=(fD s a (aZ 32 (n-(M.length:Int)))).1.length:=by omega
  rw[hi2,List.take_length]at hQ
  rw[hM,qEL (by omega) hb0,<-hQ])
 ·first
  |simp;omega
  |(
  have hk:=oY (n:=n) (M:=M) (by omega)
  have hb0:(fD s a (aZ 32 (n-(M.length:Int)))).2.2=0:=by assumption
  have hbk:=vA hb0
  have hQl:=congrArg List.length hQ
  simp only[List.length_append,jX,List.length_take]at hQl
  omega))
  |(
 with_reducible refine Side.mk ⟨(⟨⟩:Tag 43),?_⟩
 dsimp only[cu,aC,aB,gts,eE,eN]
 refine⟨?_,?_⟩
 ·omega
 ·first
  |simp [uS];done
  |(
  have hk:=oY (n:=n) (M:=M) (by omega)
  have hb0:(fD s a (aZ 32 (n-(M.length:Int)))).2.2=0:=by assumption
  have hbk:=vA hb0
  have hQl:=congrArg List.length hQ
  simp only[List.length_append,jX,List.length_take]at hQl
  rw[qQN (by omega),<-hQ,qE5 (by omega)]))
  |(
 with_reducible apply Side.mk
 (try dsimp only[cu,aC,aB,gts,loK,hiK,eE,eN])
 first
 |done
 |omega
 |exact Eq.refl _
 |exact aG _ _
 |(
  have hk:=oY (n:=n) (M:=M) (by omega);first
  |exact⟨hs,by omega⟩
  |(
   have hb0:(fD s a (aZ 32 (n-(M.length:Int)))).2.2=0:=by assumption
   have hbk:=vA hb0;have hQl:=congrArg List.length hQ;simp only[List.length_append,jX,List.length_take]at hQl;first
   |omega
   |(
    (try simp only[List.length_cons,List.length_nil]);omega))))
  |(conv=>whnf
    first
     |with_reducible first|done|exact trivial|refine NilBr.mk (fun h=>?_) ?_|apply aI|apply aH|refine aJ (by kernel_rfl) ?_|apply aK|apply bE|apply bD|apply aQ
     |((with_reducible first|apply aS|apply aR|apply bB)<;>intro h<;>(try dsimp only[cu,eE,eN]at h)<;>(try(exfalso;omega)))
     |(
 intro yy (hy:Tag 42/\_)
 obtain⟨(a:Int),(M:List Int),_⟩:=yy
 replace hy:=hy.2
 dsimp only[cu,aC,aB,gts,eE,eN]at hy
 obtain⟨hM,hl⟩:=hy)
     |(
 intro yy (hy:Tag 43/\_)
 obtain⟨(i:Int),(Q:List Int),_⟩:=yy
 replace hy:=hy.2
 dsimp only[cu,aC,aB,gts,eE,eN]at hy
 obtain⟨hi,hQ⟩:=hy)))
 all_goals(
 with_reducible apply Leaf.mk
 (try dsimp only[cu,aC,aB,gts,eE,eN]at *)
 first
 |(
  have q1:n<0\/n>4096:=by omega
  rw[bA,if_pos q1])
 |(
  have q1:¬(n<0\/n>4096):=by omega
  first
  |(
   have q2:n=0:=by first|assumption|omega
   first
   |(
    have q3:¬s=⟨#[]⟩:=by first|assumption|(simp_all;done)
    rw[bA,if_neg q1,if_pos q2,if_neg q3])
   |(
    have q3:s=⟨#[]⟩:=by first|assumption|(simp_all;done)
    rw[bA,if_neg q1,if_pos q2,if_pos q3]))
  |(
   have q2:¬n=0:=by omega
   first
   |(
    have q3:(aA s 0).2.2≠0:=by assumption
    rw[bA,if_neg q1,if_neg q2,if_pos q3])
   |(
    have q3:¬(aA s 0).2.2≠0:=fun q=>q (by assumption)
    first
    |(
     have hb:¬(fD s a (aZ 32 (n-(M.length:Int)))).2.2=0:=by assumption
     rw[bA,if_neg q1,if_neg q2,if_neg q3,hM,tT (by omega) hb];(try rfl))
    |(
     have ha:a<s.size:=by omega
     rw[bA,if_neg q1,if_neg q2,if_neg q3,hM,SD (by omega),if_pos ha])
    |(
     have ha:¬a<s.size:=by omega
     rw[bA,if_neg q1,if_neg q2,if_neg q3,hM,SD (by omega),if_neg ha])))))
abbrev qb4:Tbl:=(191,MP)::qb3
theorem qHG:aD Tryz.prog qb4:=aD.cons qR8 qHF
theorem fmin:∀(l:List Int) (x:Int),l.foldl aZ x<=x/\(∀y,y∈l->l.foldl aZ x<=y)/\(l.foldl aZ x=x\/l.foldl aZ x∈l)
 | [],x=>⟨Int.le_refl _,by simp,.inl rfl⟩
 |z::l,x=>by
  obtain⟨h1,h2,h3⟩:=fmin l (aZ x z);have h4:aZ x z<=x/\aZ x z<=z/\(aZ x z=x\/aZ x z=z):=by unfold aZ;split<;>omega
  refine⟨by rw[List.foldl_cons];omega,fun y hy=>?_,?_⟩
  ·rw[List.foldl_cons]
   rcases List.mem_cons.1 hy with q|q
   ·subst q;omega
   ·exact h2 y q
  ·rw[List.foldl_cons]
   rcases h3 with q|q
   ·rcases h4.2.2 with p|p
    ·left;rw[q,p]
    ·right;rw[q,p];simp
   ·right;simp [q]
theorem qCY {l:List Int} {y:Int} (h:y∈l):mnL l<=y:=by
 cases l with
 |nil=>simp at h
 |cons x l=>
  obtain⟨h1,h2,h3⟩:=fmin l x;rcases List.mem_cons.1 h with q|q
  ·subst q;exact h1
  ·exact h2 y q
theorem FQ {l:List Int} (h:l≠ []):mnL l∈l:=by
 cases l with
 |nil=>exact absurd rfl h
 |cons x l=>
  obtain⟨h1,h2,h3⟩:=fmin l x;show List.foldl aZ x l∈_;rcases h3 with q|q
  ·rw[q];simp
  ·simp [q]
theorem qTK {U:List Int} (hne:U≠ []) (h:∀v,v∈U->0<=v):mnL U=0↔U.any (fun v=>decide (v=0))=true:=by
 rw[List.any_eq_true];constructor
 ·intro q
  exact⟨_,FQ hne,by simpa using q⟩
 ·rintro⟨v,hv,hq⟩
  have h1:=qCY hv;have h2:=h _ (FQ hne);have h3:v=0:=by simpa using hq
  omega
theorem PM {a b:Int} (h:a<=b) (hb:b<18446744073709551616):fI a<=fI b:=by
 suffices H:∀(n:Nat) (a b:Int),b.toNat<=n->a<=b->b<18446744073709551616->fI a<=fI b from H _ a b (Nat.le_refl _) h hb
 intro n;induction n with
 |zero=>intro a b h1 h2 h3;rw[qZ (by omega),qZ (by omega)];exact Int.le_refl _
 |succ n ih=>
  intro a b h1 h2 h3;by_cases ha:a<=0
  ·rw[qZ ha];exact(zW h3).1
  ·rw[vQ (v:=a) (by omega) (by omega),vQ (v:=b) (by omega) h3]
   have:=ih (a/2) (b/2) (by omega) (by omega) (by omega);omega
def mwL (U:List Int):Int:=U.foldl (fun w v=>dF w (fI v)) 0
theorem fmax:∀(l:List Int) (x:Int),(∀v,v∈x::l->v<18446744073709551616)->l.foldl (fun w v=>dF w (fI v)) (fI x)=fI (l.foldl dF x)
 | [],x,_=>rfl
 |z::l,x,h=>by
  rw[List.foldl_cons,List.foldl_cons,<-fmax l (dF x z) (fun v hv=>by
   rcases List.mem_cons.1 hv with q|q
   ·subst q;unfold dF;split
    ·exact h z (by simp)
    ·exact h x (by simp)
   ·exact h v (by simp [q]))]
  congr 1
  have hx:=h x (by simp);have hz:=h z (by simp);by_cases q:x<=z
  ·have:=PM q hz
   have e:dF x z=z:=by unfold dF;split<;>omega
   rw[e];unfold dF;split<;>omega
  ·have:=PM (a:=z) (b:=x) (by omega) hx
   have e:dF x z=x:=by unfold dF;split<;>omega
   rw[e];unfold dF;split<;>omega
theorem qaG {U:List Int} (hne:U≠ []) (h:∀v,v∈U->0<=v/\v<18446744073709551616):mwL U=fI (mxL U):=by
 cases U with
 |nil=>exact absurd rfl hne
 |cons x l=>
  unfold mwL;rw[List.foldl_cons];have:=(zW (h x (by simp)).2).1;have e:dF 0 (fI x)=fI x:=by unfold dF;split<;>omega
  rw[e,fmax l x (fun v hv=>(h v hv).2)];rfl
theorem qXV {L v:Int} (hL:inI L) (hv:0<=v/\v<18446744073709551616):(v<=9223372036854775807-L->IntKind.i64.wrap (L+v)=L+v)/\(¬v<=9223372036854775807-L->IntKind.i64.wrap (L+v)<L):=by
 unfold inI at hL;constructor<;>intro h<;>simp [IntKind.wrap,IntKind.bits,IntKind.signed]<;>omega
theorem qFU {L:Int} (hL:inI L):IntKind.u64.wrap (9223372036854775807-IntKind.u64.wrap L)=9223372036854775807-L:=by
 unfold inI at hL;simp [IntKind.wrap,IntKind.bits,IntKind.signed];omega
theorem WV {U:List Int} {L:Int} (hL:inI L) (h:∀v,v∈U->0<=v/\v<18446744073709551616) (h0:(0:Int)∈U):mnL (U.map fun v=>IntKind.i64.wrap (L+v))=L↔ ∀v,v∈U->v<=9223372036854775807-L:=by
 have m0:L∈U.map fun v=>IntKind.i64.wrap (L+v):=List.mem_map.2 ⟨0,h0,by rw[Int.add_zero,SV hL]⟩
 constructor
 ·intro q v hv
  rcases Int.lt_or_le (9223372036854775807-L) v with p|p
  ·have h1:=(qXV hL (h v hv)).2 (by omega)
   have h2:=qCY (List.mem_map.2 ⟨v,hv,rfl⟩:IntKind.i64.wrap (L+v)∈U.map fun v=>IntKind.i64.wrap (L+v));omega
  ·exact p
 ·intro q
  have h1:=qCY m0;have h2:=FQ (l:=U.map fun v=>IntKind.i64.wrap (L+v)) (fun e=>by rw[e]at m0;simp at m0);obtain⟨v,hv,e⟩:=List.mem_map.1 h2;have h3:=(qXV hL (h v hv)).1 (q v hv);have h4:=h v hv;omega
theorem qTG (s:ByteArray) (n w:Int):∀v,v∈(aM s n w).1->0<=v/\v<18446744073709551616:=fun v hv=>by
 obtain⟨i,hi,rfl⟩:=List.mem_iff_getElem.1 hv;have:=uV s n w i;rwa [getElem!_pos _ i hi]at this
theorem qEJ (s:ByteArray) (a:Int):inI (dL s a):=qU8 (aG s a)
theorem IZ {s:ByteArray} {a k:Int} (hk:1<=k) (h0:(dU s a k).2=0):dOk s a k=true↔(dU s a k).1.any (fun v=>decide (v=0))=true/\mwL (dU s a k).1=dW s a/\∀v,v∈(dU s a k).1->v<=9223372036854775807-dL s a:=by
 have hne:(dU s a k).1≠ []:=fun e=>by
  have:=qM1 h0;rw[e]at this;simp at this;omega
 have hm:∀v,v∈(dU s a k).1->0<=v/\v<18446744073709551616:=qTG _ _ _;rw[FK,qTK hne (fun v hv=>(hm v hv).1),qaG hne hm];constructor
 ·rintro⟨_,q2,q3,q4⟩
  obtain⟨v,hv,e⟩:=List.any_eq_true.1 q2;have e:v=0:=by simpa using e
  subst e;exact⟨q2,q3,(WV (qEJ s a) hm hv).1 q4⟩
 ·rintro⟨q2,q3,q4⟩
  obtain⟨v,hv,e⟩:=List.any_eq_true.1 q2;have e:v=0:=by simpa using e
  subst e;exact⟨h0,q2,q3,(WV (qEJ s a) hm hv).2 q4⟩
theorem qX3 {s:ByteArray} {a k:Int} (hk:1<=k/\k<=32) (h1:(aA s a).2.2=0) (h3:¬dW s a>64) (h4:¬dE s a k>s.size):(dU s a k).2=0\/(dU s a k).2=2:=by
 have hw:=rS s a;have h8:=bC h1;have h9:=iH k (dW s a);have h10:dE s a k=(aA s a).2.1+1+bP k (dW s a):=rfl;have hp:lP k (dW s a)=true:=(dN _ _).2 ⟨by omega,by omega⟩;have hz:((s.extract ((aA s a).2.1+1).toNat (dE s a k).toNat).size:Int)=bP k (dW s a):=by
  simp only[ByteArray.size_extract];omega
 unfold dU aM;rw[if_neg (fun q=>q hp),if_neg (by omega),if_neg (by omega)];split
 ·right;rfl
 ·left;rfl
theorem qBU {s:ByteArray} {a k:Int} (h1:(aA s a).2.2=0) (h2:¬(aA s a).2.1=s.size) (h3:¬dW s a>64) (h4:¬dE s a k>s.size) (h5:dOk s a k=false):fD s a k=([],0,2):=by
 rw[fD,if_neg (fun q=>q h1),if_neg h2,if_neg h3,if_neg h4,if_pos h5]
theorem qX0 {s:ByteArray} {a k:Int} (h1:(aA s a).2.2=0) (h2:¬(aA s a).2.1=s.size) (h3:¬dW s a>64) (h4:¬dE s a k>s.size) (h5:dOk s a k=true):fD s a k=(dDs s a k,dE s a k,0):=by
 rw[fD,if_neg (fun q=>q h1),if_neg h2,if_neg h3,if_neg h4,if_neg (by rw[h5];decide)]
theorem qMB {U:List Int} {i:Int} (h:0<=i/\i<U.length):(U.take (i+1).toNat).any (fun v=>decide (v=0))=((U.take i.toNat).any (fun v=>decide (v=0))||decide (U[i.toNat]! =0)):=by
 rw[jC h];simp
theorem qTN {U:List Int} {i:Int} (h:0<=i/\i<U.length):mwL (U.take (i+1).toNat)=dF (mwL (U.take i.toNat)) (fI U[i.toNat]!):=by
 rw[jC h];simp [mwL]
theorem kU {b:Bool} (h:(!b)=false):b=true:=by cases b<;>simp_all
theorem qdC (x L v:Int):IntKind.i64.wrap (IntKind.i64.wrap (x+L)+IntKind.i64.wrap v)=IntKind.i64.wrap (x+IntKind.i64.wrap (L+v)):=by simp [IntKind.wrap,IntKind.bits,IntKind.signed];omega
theorem qOJ {U:List Int} {i:Int} {P:Int->Prop} (h:0<=i/\i<U.length) (h1:∀v,v∈U.take i.toNat->P v) (h2:P U[i.toNat]!):∀v,v∈U.take (i+1).toNat->P v:=by
 rw[jC h];intro v hv;rcases List.mem_append.1 hv with q|q
 ·exact h1 v q
 ·rw[List.mem_singleton.1 q];exact h2
def four (v:Int):List Int:=[IntKind.u8.wrap v,IntKind.u8.wrap (jW .u32 v 8),IntKind.u8.wrap (jW .u32 v 16),IntKind.u8.wrap (jW .u32 v 24)]
def cG (s:ByteArray):ByteArray:=s++bH (four (iQ s))
theorem eD (v:Int):(bH (put v)).size<=10/\1<=(bH (put v)).size:=by rw[cY];exact bU v
theorem mC (v:Int):(bH (four v)).size=4:=rfl
def bQ (s:ByteArray) (i:Int):Int:=bOr .u32 (bOr .u32 (bOr .u32 (aE s i.toNat) (nL .u32 (aE s (i+1).toNat) 8)) (nL .u32 (aE s (i+2).toNat) 16)) (nL .u32 (aE s (i+3).toNat) 24)
theorem KB {a b:Int} {n:Nat} (hn:n<=32) (ha:0<=a/\a<2^n) (hb:0<=b) (h:a+b*2^n<4294967296):bOr .u32 a (nL .u32 b n)=a+b*2^n:=by
 have h0:0<=b*2^n:=Int.mul_nonneg hb (Int.le_of_lt (Int.pow_pos (by decide)));rw[qaN hn ⟨h0,by omega⟩,qZU (by omega) (by omega)];have e:(b*2^n).toNat=b.toNat*2^n:=by
  obtain⟨m,rfl⟩:=Int.eq_ofNat_of_zero_le hb;have:((m:Int)*2^n)=((m*2^n:Nat):Int):=by push_cast;rfl
  rw[this];rfl
 have ha':a.toNat<2^n:=by
  have:((2^n:Nat):Int)=2^n:=by push_cast;rfl
  omega
 rw[e,qO0 _ _ _ ha'];have:((b.toNat*2^n:Nat):Int)=b*2^n:=by push_cast;rw[Int.toNat_of_nonneg hb]
 omega
theorem qIR {a b c d:Int} (ha:0<=a/\a<256) (hb:0<=b/\b<256) (hc:0<=c/\c<256) (hd:0<=d/\d<256) :
  bOr .u32 (bOr .u32 (bOr .u32 a (nL .u32 b 8)) (nL .u32 c 16)) (nL .u32 d 24)=a+b*256+c*65536+d*16777216:=by
 have p1:(2:Int)^8=256:=by decide
 have p2:(2:Int)^16=65536:=by decide
 have p3:(2:Int)^24=16777216:=by decide
 have e1:=KB (a:=a) (b:=b) (n:=8) (by omega) (by omega) (by omega) (by omega);rw[p1]at e1;have e2:=KB (a:=a+b*256) (b:=c) (n:=16) (by omega) (by omega) (by omega) (by omega);rw[p2]at e2;have e3:=KB (a:=a+b*256+c*65536) (b:=d) (n:=24) (by omega) (by omega) (by omega) (by omega);rw[p3]at e3;rw[show((8:Int))=((8:Nat):Int)from rfl,e1,show((16:Int))=((16:Nat):Int)from rfl,e2,show((24:Int))=((24:Nat):Int)from rfl,e3]
theorem qVX {v:Int} (h:0<=v):jW .u32 v 8=v/256/\jW .u32 v 16=v/65536/\jW .u32 v 24=v/16777216:=by
 unfold jW;refine⟨?_,?_,?_⟩<;>rw[Int.fdiv_eq_ediv_of_nonneg _ (by decide)]<;>rfl
theorem qM0 (s:ByteArray):0<=iQ s/\iQ s<4294967296:=by
 unfold iQ CN;rw[if_pos IY];exact GL _ _
theorem qSV {v a b c d:Int} (h:0<=v/\v<4294967296) (ha:0<=a/\a<256) (hb:0<=b/\b<256) (hc:0<=c/\c<256) (hd:0<=d/\d<256):four v= [a,b,c,d]↔a+b*256+c*65536+d*16777216=v:=by
 obtain⟨h1,h2,h3⟩:=qVX h.1;unfold four;rw[h1,h2,h3,CO,CO,CO,CO];simp only[List.cons.injEq,and_true];omega
theorem uA (v:Int):∀b,b∈four v->0<=b/\b<256:=by
 intro b hb;unfold four at hb;rcases List.mem_cons.1 hb with h|hb
 ·rw[h];exact qH v
 rcases List.mem_cons.1 hb with h|hb
 ·rw[h];exact qH _
 rcases List.mem_cons.1 hb with h|hb
 ·rw[h];exact qH _
 rcases List.mem_cons.1 hb with h|hb
 ·rw[h];exact qH _
 cases hb
theorem qQE {s:ByteArray} (h8:¬s.size<4):bQ s ((s.size:Int)-4)=iQ (s.extract 0 ((s.size:Int)-4).toNat)↔cG (s.extract 0 ((s.size:Int)-4).toNat)=s:=by
 have e:∀(x:ByteArray) (n:Nat),aU (x.extract 0 n)=(aU x).take n:=fun x n=>by unfold aU;simp [List.map_take]
 obtain⟨m,hm⟩:∃m,s.size=m+4:=⟨s.size-4,by omega⟩
 have hd:(aU s).drop m= [aE s m,aE s (m+1),aE s (m+2),aE s (m+3)]:=by
  rw[oJ (by omega),oJ (by omega),oJ (by omega),oJ (by omega),List.drop_eq_nil_of_le (by rw[bX];omega)]
 have hw:bQ s ((s.size:Int)-4)=aE s m+aE s (m+1)*256+aE s (m+2)*65536+aE s (m+3)*16777216:=by
  unfold bQ;rw[qIR (bI _ _) (bI _ _) (bI _ _) (bI _ _)];rw[show((s.size:Int)-4).toNat=m by omega,show((s.size:Int)-4+1).toNat=m+1 by omega,show((s.size:Int)-4+2).toNat=m+2 by omega,show((s.size:Int)-4+3).toNat=m+3 by omega]
 rw[hw,<-qSV (qM0 _) (bI _ _) (bI _ _) (bI _ _) (bI _ _),<-hd];have hs:aU (cG (s.extract 0 ((s.size:Int)-4).toNat))=(aU s).take m++four (iQ (s.extract 0 ((s.size:Int)-4).toNat)):=by
  unfold cG;rw[cD,e,show((s.size:Int)-4).toNat=m by omega,bW (uA _)]
 constructor
 ·intro h
  apply sY;rw[hs,h,List.take_append_drop]
 ·intro h
  rw[h]at hs;have:=List.take_append_drop m (aU s);rw[hs]at this;have h2:=List.append_cancel_left (hs.symm.trans (List.take_append_drop m (aU s)).symm);exact h2
theorem mI (b:ByteArray):(cG b).size=b.size+4:=by unfold cG;rw[ByteArray.size_append,mC]
theorem qK0 (b:ByteArray):(cG b).extract 0 (((cG b).size:Int)-4).toNat=b:=by
 apply sY;have e:∀(x:ByteArray) (n:Nat),aU (x.extract 0 n)=(aU x).take n:=fun x n=>by unfold aU;simp [List.map_take]
 have hz:(cG b).size=b.size+4:=by unfold cG;rw[ByteArray.size_append,mC]
 rw[e,hz,show(((b.size+4:Nat):Int)-4).toNat=b.size by omega];unfold cG;rw[cD,List.take_append_of_le_length (by rw[bX];omega),List.take_of_length_le (by rw[bX];omega)]
def gG (s:ByteArray):ByteArray:=(s.extract 0 ((s.size:Int)-4).toNat)
def fY (s:ByteArray):Int:=if s.size<=4 then 10 else if cG (gG s)≠s then 9 else 0
theorem vD {s:ByteArray} (h:4<=s.size):((gG s).size:Int)=(s.size:Int)-4:=by
 unfold gG;rw[ByteArray.size_extract];omega
theorem vC (s:ByteArray):(gG s).size<=s.size:=by unfold gG;rw[ByteArray.size_extract];omega
theorem qOV {s:ByteArray} (h:s.size<=4):fY s=10:=by rw[fY,if_pos h]
theorem qOW {s:ByteArray} (h:¬s.size<=4) (h1:¬cG (gG s)=s):fY s=9:=by rw[fY,if_neg h,if_pos h1]
theorem qOX {s:ByteArray} (h:¬s.size<=4) (h1:cG (gG s)=s):fY s=0:=by rw[fY,if_neg h,if_neg (fun q=>q h1)]
theorem FR {s:ByteArray} (h:fY s=0):¬s.size<=4/\cG (gG s)=s:=by
 unfold fY at h;split at h
 ·cases h
 ·rename_i q
  split at h
  ·cases h
  ·rename_i q1;exact⟨q,Decidable.not_not.1 q1⟩
theorem qBE {s:ByteArray} (h:¬s.size<=4):bQ s ((s.size:Int)-4)=iQ (gG s)↔cG (gG s)=s:=qQE (by omega)
abbrev OC:Ct:=.fn [.str] (some (fun(s:ByteArray)=>(s.size<=4611686018427387904))) (fun(s:ByteArray)=>.d .str (cG s))
theorem qUP:aF Tryz.prog 113 OC:=by
 refine aF.fn qHG mixed [] [] rfl rfl ?_;rintro⟨(s:ByteArray),_⟩ hpre;replace hpre:=hpre _ rfl;dsimp only[cu]at hpre;have hs:=hpre;refine⟨[],?_⟩;repeat' (first
  |(
 with_reducible apply Side.mk
 (try dsimp only[cu,aC,aB,gts,loK,hiK,eE,eN])
 first
 |omega
 |exact Eq.refl _
 |(simp only[cY,List.length_cons,List.length_nil];omega))
  |(conv=>whnf
    first
     |with_reducible first|done|exact trivial|refine NilBr.mk (fun h=>?_) ?_|apply aI|apply aH|refine aJ (by kernel_rfl) ?_|apply aK|apply bE|apply bD|apply aQ
     |((with_reducible first|apply aS|apply aR|apply bB)<;>intro h<;>(try dsimp only[cu,eE,eN]at h)<;>(try(exfalso;omega)))))
 all_goals(
 with_reducible apply Leaf.mk
 (try dsimp only[cu,aC,aB,gts,eE,eN]at *)
 rfl)
abbrev qb5:Tbl:=(113,OC)::qb4
theorem qHH:aD Tryz.prog qb5:=aD.cons qUP qHG
abbrev MW:Ct:=.fn [.int .u32] (none) (fun(v:Int)=>.d .str (bH (four v)))
theorem qSW:aF Tryz.prog 44 MW:=by
 refine aF.fn qHH mixed [] [] rfl rfl ?_;rintro⟨(v:Int),_⟩ -;refine⟨[],?_⟩;repeat' (first
  |(
 with_reducible apply Side.mk
 (try dsimp only[cu,aC,aB,gts,loK,hiK,eE,eN])
 first
 |omega
 |(exact Eq.refl _))
  |(conv=>whnf
    first
     |with_reducible first|done|exact trivial|refine NilBr.mk (fun h=>?_) ?_|apply aI|apply aH|refine aJ (by kernel_rfl) ?_|apply aK|apply bE|apply bD|apply aQ
     |((with_reducible first|apply aS|apply aR|apply bB)<;>intro h<;>(try dsimp only[cu,eE,eN]at h)<;>(try(exfalso;omega)))))
 all_goals(
 with_reducible apply Leaf.mk
 (try dsimp only[cu,aC,aB,gts,eE,eN]at *)
 rfl)
abbrev qb6:Tbl:=(44,MW)::qb5
theorem qHI:aD Tryz.prog qb6:=aD.cons qSW qHH
abbrev OH:Ct:=.fn [.str,.int .i64] (some (fun(s:ByteArray) (i:Int)=>(0<=i/\i+4<=s.size/\s.size<=4611686018427387904))) (fun(s:ByteArray) (i:Int)=>.d (.int .u32) (bQ s i))
theorem qU7:aF Tryz.prog 59 OH:=by
 refine aF.fn qHI mixed [(0,1,3),(0,1,8),(0,1,15),(0,1,22)] [] rfl rfl ?_;rintro⟨(s:ByteArray),(i:Int),_⟩ hpre;replace hpre:=hpre _ rfl;dsimp only[cu]at hpre;have hi:=hpre;refine⟨[],?_⟩;repeat' (first
  |(
 with_reducible apply Side.mk
 (try dsimp only[cu,aC,aB,gts,loK,hiK,eE,eN])
 first
 |omega
 |(
  have:=bI s i.toNat;have:=bI s (i+1).toNat;have:=bI s (i+2).toNat;have:=bI s (i+3).toNat;omega))
  |(conv=>whnf
    first
     |with_reducible first|done|exact trivial|refine NilBr.mk (fun h=>?_) ?_|apply aI|apply aH|refine aJ (by kernel_rfl) ?_|apply aK|apply bE|apply bD|apply aQ
     |((with_reducible first|apply aS|apply aR|apply bB)<;>intro h<;>(try dsimp only[cu,eE,eN]at h)<;>(try(exfalso;omega)))))
 all_goals(
 with_reducible apply Leaf.mk
 (try dsimp only[cu,aC,aB,gts,eE,eN]at *)
 rfl)
abbrev qb7:Tbl:=(59,OH)::qb6
theorem qHJ:aD Tryz.prog qb7:=aD.cons qU7 qHI
abbrev HF:Ct:=.fn [.str] (some (fun(s:ByteArray)=>(s.size<=4611686018427387904))) (fun(s:ByteArray)=>.tup [.str,.int .i64] (if fY s=0 then gG s else EMP,fY s,()))
theorem qOZ:aF Tryz.prog 133 HF:=by
 refine aF.fn qHJ mixed [] [] rfl rfl ?_;rintro⟨(s:ByteArray),_⟩ hpre;replace hpre:=hpre _ rfl;dsimp only[cu]at hpre;have hs:=hpre;refine⟨[],?_⟩;repeat' (first
  |(
 with_reducible apply Side.mk
 (try dsimp only[cu,aC,aB,gts,loK,hiK,eE,eN])
 first
 |omega
 |(
  have hbl:=vC s;exact Nat.le_trans hbl hs))
  |(conv=>whnf
    first
     |with_reducible first|done|exact trivial|refine NilBr.mk (fun h=>?_) ?_|apply aI|apply aH|refine aJ (by kernel_rfl) ?_|apply aK|apply bE|apply bD|apply aQ
     |((with_reducible first|apply aS|apply aR|apply bB)<;>intro h<;>(try dsimp only[cu,eE,eN]at h)<;>(try(exfalso;omega)))))
 all_goals(
 with_reducible apply Leaf.mk
 (try dsimp only[cu,aC,aB,gts,eE,eN]at *)
 first
 |(
  have hb:gG s=(s.extract 0 ((s.size:Int)-4).toNat):=rfl;first
  |(
   have h:=qOV (s:=s) (by omega);rw[h];(try rfl))
  |(
   have h:=qOW (s:=s) (by omega) (by rw[hb];with_reducible assumption);rw[h];(try rfl))
  |(
   have h1:cG (s.extract 0 ((s.size:Int)-4).toNat)=s:=by first|with_reducible assumption|(refine Decidable.not_not.1 ?_;with_reducible assumption)
   have h:=qOX (s:=s) (by omega) (by rw[hb];exact h1);rw[h];(try rfl))))
abbrev qb8:Tbl:=(133,HF)::qb7
theorem qHK:aD Tryz.prog qb8:=aD.cons qOZ qHJ
abbrev IL:Ct:=.fn [.str] (some (fun(s:ByteArray)=>(s.size<=4611686018427387904))) (fun(s:ByteArray)=>.d (.int .i64) (fY s))
theorem qQI:aF Tryz.prog 141 IL:=by
 refine aF.fn qHK mixed [] [] rfl rfl ?_;rintro⟨(s:ByteArray),_⟩ hpre;replace hpre:=hpre _ rfl;dsimp only[cu]at hpre;have hs:=hpre;refine⟨[],?_⟩;repeat' (first
  |(
 with_reducible apply Side.mk
 (try dsimp only[cu,aC,aB,gts,loK,hiK,eE,eN])
 first
 |omega
 |(
  have hbl:=vC s;exact Nat.le_trans hbl (by omega)))
  |(conv=>whnf
    first
     |with_reducible first|done|exact trivial|refine NilBr.mk (fun h=>?_) ?_|apply aI|apply aH|refine aJ (by kernel_rfl) ?_|apply aK|apply bE|apply bD|apply aQ
     |((with_reducible first|apply aS|apply aR|apply bB)<;>intro h<;>(try dsimp only[cu,eE,eN]at h)<;>(try(exfalso;omega)))))
 all_goals(
 with_reducible apply Leaf.mk
 (try dsimp only[cu,aC,aB,gts,eE,eN]at *)
 first
 |rw[qOV (s:=s) (by omega)]
 |(
  have hb:gG s=(s.extract 0 ((s.size:Int)-4).toNat):=rfl;have h4:¬s.size<=4:=by omega
  first
  |rw[qOW h4 (fun q=>by have:=(qBE h4).2 q;rw[hb]at this;contradiction)]
  |(
   have h1:bQ s ((s.size:Int)-4)=iQ (gG s):=by rw[hb];first|with_reducible assumption|(refine Decidable.not_not.1 ?_;with_reducible assumption)
   rw[qOX h4 ((qBE h4).1 h1)])))
abbrev qb9:Tbl:=(141,IL)::qb8
theorem qHL:aD Tryz.prog qb9:=aD.cons qQI qHK
def dfs (l:List Int):List Int:=(List.range (l.length-1)).map fun j=>IntKind.i64.wrap (l[j+1]! - l[j]!)
theorem zH (l:List Int):(dfs l).length=l.length-1:=by simp [dfs]
theorem qSC {l:List Int} {j:Nat} (h:j+1<l.length):(dfs l)[j]! =IntKind.i64.wrap (l[j+1]! - l[j]!):=by
 rw[getElem!_pos _ _ (by rw[zH];omega)];simp [dfs]
def usL (m:Int) (D:List Int):List Int:=D.map fun d=>IntKind.u64.wrap (IntKind.i64.wrap (d-m))
def qML (D:List Int):ByteArray:=(bH (put (gP (mnL D)))++bH [IntKind.u8.wrap (mwL (usL (mnL D) D))])++(rD (usL (mnL D) D) (mwL (usL (mnL D) D))).1
def wY (D:List Int):ByteArray:=if h:D.length=0 then ByteArray.empty else qML (D.take 32)++wY (D.drop 32)
termination_by D.length
decreasing_by simp;omega
def kZ (l:List Int):ByteArray:=if l.length=0\/l.length>4096 then⟨#[]⟩else bH (put (gP l[0]!))++wY (dfs l)
def gQ (l:List Int) (i:Int):List Int:=((dfs l).drop (i-1).toNat).take 32
theorem lS {l:List Int} {i:Int} (h:1<=i/\i<l.length):((gQ l i).length:Int)=aZ (i+32) l.length-i:=by
 unfold gQ aZ;rw[List.length_take,List.length_drop,zH];split<;>omega
theorem BR {l:List Int} {i k:Int} (h:1<=i/\i<=k/\k<aZ (i+32) l.length):(gQ l i)[(k-i).toNat]! =IntKind.i64.wrap (l[k.toNat]! - l[(k-1).toNat]!):=by
 have h2:k<l.length/\k<i+32:=by unfold aZ at h;split at h<;>omega
 have e:=qSC (l:=l) (j:=(k-1).toNat) (by omega);rw[show(k-1).toNat+1=k.toNat by omega]at e;rw[<-e];unfold gQ;rw[List.getElem!_eq_getElem?_getD,List.getElem?_take,if_pos (by omega),List.getElem?_drop,show(i-1).toNat+(k-i).toNat=(k-1).toNat by omega,List.getElem!_eq_getElem?_getD]
theorem qB9 {l:List Int} {i:Int} (h:1<=i/\i<l.length):wY ((dfs l).drop (i-1).toNat)=qML (gQ l i)++wY ((dfs l).drop (i+32-1).toNat):=by
 rw[wY,dif_neg (by rw[List.length_drop,zH];omega),List.drop_drop,show(i-1).toNat+32=(i+32-1).toNat by omega];rfl
theorem qJZ {l:List Int} {i:Int} (h:¬i<l.length):wY ((dfs l).drop (i-1).toNat)=ByteArray.empty:=by
 rw[wY,dif_pos (by rw[List.length_drop,zH];omega)]
theorem vL {D:List Int} (h:1<=D.length):D.foldl aZ D[0]! =mnL D:=by
 cases D with
 |nil=>simp at h
 |cons x r=>
  show List.foldl aZ (aZ x x) r=List.foldl aZ x r;have e:aZ x x=x:=by unfold aZ;split<;>rfl
  rw[e]
theorem qCF {D:List Int} {x j:Int} {f:Int->Int->Int} (h:0<=j/\j<D.length):(D.take (j+1).toNat).foldl f x=f ((D.take j.toNat).foldl f x) D[j.toNat]!:=by
 rw[jC h];simp
theorem qQ8 {D:List Int} {m j:Int} (h:0<=j/\j<D.length):usL m (D.take (j+1).toNat)=usL m (D.take j.toNat)++ [IntKind.u64.wrap (IntKind.i64.wrap (D[j.toNat]! - m))]:=by
 unfold usL;rw[jC h];simp
theorem qU1 (m:Int) (D:List Int) (i:Nat):0<=(usL m D)[i]! /\(usL m D)[i]! <18446744073709551616:=by
 by_cases h:i<(usL m D).length
 ·rw[getElem!_pos (usL m D) i h]
  simp only[usL,List.getElem_map];exact pP _
 ·rw[getElem!_neg (usL m D) i h];exact⟨by decide,by decide⟩
theorem qTM (U:List Int) (v:Int):mwL (U++ [v])=dF (mwL U) (fI v):=by simp [mwL]
theorem qJG (D:List Int):(qML D).size<=32779:=by
 unfold qML;have h1:=eD (gP (mnL D));have h2:=pD (usL (mnL D) D) (mwL (usL (mnL D) D));rw[ByteArray.size_append,ByteArray.size_append,cY [_]];simp only[List.length_cons,List.length_nil];omega
theorem JD:∀(n:Nat) (D:List Int),D.length<=n->(wY D).size<=32779*n
 |n,D,h=>by
  rw[wY];split
  ·exact Nat.zero_le _
  ·have:=qJG (D.take 32)
   rw[ByteArray.size_append];obtain⟨m,rfl⟩:∃m,n=m+1:=⟨n-1,by omega⟩
   have:=JD m (D.drop 32) (by simp;omega);omega
theorem LP (l:List Int):(kZ l).size<=134262794:=by
 unfold kZ;split
 ·exact Nat.zero_le _
 ·have h1:=eD (gP l[0]!)
  have h2:=JD 4096 (dfs l) (by rw[zH];omega);rw[ByteArray.size_append];omega
theorem uJ (u:UInt8):(ByteArray.mk #[u]).size=1:=rfl
theorem UF (x:Int):inI (IntKind.i64.wrap x):=by unfold inI;simp [IntKind.wrap,IntKind.bits,IntKind.signed];omega
theorem qVS {l:List Int} {i:Int} (h:1<=i/\i<l.length):inI (mnL (gQ l i)):=by
 have hl:=lS h;have hm:aZ (i+32) l.length-i>=1:=by unfold aZ;split<;>omega
 have:=FQ (l:=gQ l i) (fun e=>by rw[e]at hl;simp at hl;omega);unfold gQ at this;have:=List.mem_of_mem_drop (List.mem_of_mem_take this);unfold dfs at this;obtain⟨j,_,e⟩:=List.mem_map.1 this;show inI (mnL (List.take 32 (List.drop (i-1).toNat (dfs l))));unfold dfs;rw[<-e];exact UF _
abbrev HO:Ct:=.fn [.list (.int .i64)] (some (fun(l:List Int)=>(l.length<=1073741824)/\(∀x,x∈l->inI x))) (fun(l:List Int)=>.d .str (kZ l))
theorem qPQ:aF Tryz.prog 159 HO:=by
 refine aF.fn qHL mixed [(0,8,9),(0,12,10),(0,18,9),(0,18,11)] [] rfl rfl ?_;rintro⟨(l:List Int),_⟩ hpre;replace hpre:=hpre _ rfl;dsimp only[cu]at hpre;obtain⟨hl,hv⟩:=hpre;refine⟨[(0,10,LA.mk [.sl 4 (.int .i64),.sl 3 .str] (fun y=>Tag 44/\cu [.int .i64,.str] (fun(i:Int) (x:ByteArray)=>(1<=i/\i<=l.length+31)/\(kZ l=x++wY ((dfs l).drop (i-1).toNat))/\((x.size:Int)<=10+32779*i)) y) (cu [.int .i64,.str] (fun(i:Int) (x:ByteArray)=>((l.length:Int)+32-i).toNat)) (cu [.int .i64,.str] (fun(i:Int) (x:ByteArray)=>([(0,20,LA.mk [.sl 7 (.int .i64),.sl 6 (.int .i64)] (fun y=>Tag 45/\cu [.int .i64,.int .i64] (fun(k:Int) (m:Int)=>(i<=k/\k<=aZ (i+32) l.length)/\(m=((gQ l i).take (k-i).toNat).foldl aZ (gQ l i)[0]!)) y) (cu [.int .i64,.int .i64] (fun(k:Int) (m:Int)=>(aZ (i+32) l.length-k).toNat)) (cu [.int .i64,.int .i64] (fun(k:Int) (m:Int)=>([]:List (Nat×Nat×LA))))),(0,32,LA.mk [.sl 10 (.int .i64),.lst 8 (.int .u64) 86,.sl 9 (.int .i64)] (fun y=>Tag 46/\cu [.int .i64,.list (.int .u64),.int .i64] (fun(j:Int) (u:List Int) (w:Int)=>(i<=j/\j<=aZ (i+32) l.length)/\(u=usL (mnL (gQ l i)) ((gQ l i).take (j-i).toNat))/\(w=mwL u)) y) (cu [.int .i64,.list (.int .u64),.int .i64] (fun(j:Int) (u:List Int) (w:Int)=>(aZ (i+32) l.length-j).toNat)) (cu [.int .i64,.list (.int .u64),.int .i64] (fun(j:Int) (u:List Int) (w:Int)=>([]:List (Nat×Nat×LA)))))]:List (Nat×Nat×LA)))))],?_⟩;repeat' (first
  |(
 with_reducible refine Side.mk ⟨(⟨⟩:Tag 44),?_⟩
 dsimp only[cu,aC,aB,gts,eE,eN]
 refine⟨?_,?_,?_⟩
 ·first
  |(
  have hmi:i<aZ (i+32) l.length/\aZ (i+32) l.length<=l.length/\aZ (i+32) l.length<=i+32:=by unfold aZ;split<;>omega
  omega)
  |omega
 ·first
  |(
  rw[kZ,if_neg (by omega)]
  rfl)
  |(
  have hmi:i<aZ (i+32) l.length/\aZ (i+32) l.length<=l.length/\aZ (i+32) l.length<=i+32:=by unfold aZ;split<;>omega
  have hbl:=lS (l:=l) (i:=i) (by omega)
  have hmm:m=mnL (gQ l i):=by rw[hm,List.take_of_length_le (by omega),vL (by omega)]
  have huu:u=usL (mnL (gQ l i)) (gQ l i):=by rw[hu,List.take_of_length_le (by omega)]
  rw[hx,qB9 (by omega),<-ByteArray.append_assoc]
  unfold qML
  rw[<-huu,<-hmm,<-hw]
  rfl)
 ·first
  |(
  have h1:=eD (gP l[(0:Int).toNat]!)
  omega)
  |(
  have hmi:i<aZ (i+32) l.length/\aZ (i+32) l.length<=l.length/\aZ (i+32) l.length<=i+32:=by unfold aZ;split<;>omega
  have hbl:=lS (l:=l) (i:=i) (by omega)
  have hmm:m=mnL (gQ l i):=by rw[hm,List.take_of_length_le (by omega),vL (by omega)]
  have huu:u=usL (mnL (gQ l i)) (gQ l i):=by rw[hu,List.take_of_length_le (by omega)]
  have h1:=eD (gP m)
  have h2:=pD u w
  simp only[ByteArray.size_append,uJ,cY [_],List.length_cons,List.length_nil]
  omega))
  |(
 with_reducible refine Side.mk ⟨(⟨⟩:Tag 45),?_⟩
 dsimp only[cu,aC,aB,gts,eE,eN]
 refine⟨?_,?_⟩
 ·(
  have hmi:i<aZ (i+32) l.length/\aZ (i+32) l.length<=l.length/\aZ (i+32) l.length<=i+32:=by unfold aZ;split<;>omega
  omega)
 ·first
  |(
  have hmi:i<aZ (i+32) l.length/\aZ (i+32) l.length<=l.length/\aZ (i+32) l.length<=i+32:=by unfold aZ;split<;>omega
  have hbl:=lS (l:=l) (i:=i) (by omega)
  first
  |(
   have hbg:=BR (l:=l) (i:=i) (k:=i) (by omega);rw[show(i-i).toNat=0 by omega]at hbg ⊢;rw[hbg];(try rfl))
  |(
   have hbg:=BR (l:=l) (i:=i) (k:=k) (by omega);rw[show k+1-i=(k-i)+1 by omega,qCF (by omega),<-hm,hbg])))
  |(
 with_reducible refine Side.mk ⟨(⟨⟩:Tag 46),?_⟩
 dsimp only[cu,aC,aB,gts,eE,eN]
 refine⟨?_,?_,?_⟩
 ·(
  have hmi:i<aZ (i+32) l.length/\aZ (i+32) l.length<=l.length/\aZ (i+32) l.length<=i+32:=by unfold aZ;split<;>omega
  omega)
 ·first
  |rw[show(i-i).toNat=0 by omega];rfl
  |(
  have hmi:i<aZ (i+32) l.length/\aZ (i+32) l.length<=l.length/\aZ (i+32) l.length<=i+32:=by unfold aZ;split<;>omega
  have hbl:=lS (l:=l) (i:=i) (by omega)
  have hmm:m=mnL (gQ l i):=by rw[hm,List.take_of_length_le (by omega),vL (by omega)]
  have hbg:=BR (l:=l) (i:=i) (k:=j) (by omega)
  rw[show j+1-i=(j-i)+1 by omega,qQ8 (by omega),<-hu,hbg,hmm])
 ·first
  |rfl
  |(rw[qTM,hw]))
  |(
 with_reducible apply Side.mk
 (try dsimp only[cu,aC,aB,gts,loK,hiK,eE,eN])
 first
 |done
 |omega
 |exact Eq.refl _
 |(
  have hmi:i<aZ (i+32) l.length/\aZ (i+32) l.length<=l.length/\aZ (i+32) l.length<=i+32:=by unfold aZ;split<;>omega
  omega)
 |exact oI (JO hv _)
 |exact JO hv _
 |exact pP _
 |(
  have hmi:i<aZ (i+32) l.length/\aZ (i+32) l.length<=l.length/\aZ (i+32) l.length<=i+32:=by unfold aZ;split<;>omega
  have hbl:=lS (l:=l) (i:=i) (by omega);first
  |(
   have hul:=congrArg List.length hu;simp only[usL,List.length_map,List.length_take]at hul;(try simp only[List.length_cons,List.length_nil]);omega)
  |(
   have hmm:m=mnL (gQ l i):=by rw[hm,List.take_of_length_le (by omega),vL (by omega)]
   rw[hmm];first
   |exact qVS (by omega)
   |(exact oI (qVS (by omega))))
  |(
   have hul:=congrArg List.length hu;simp only[usL,List.length_map,List.length_take]at hul;have hmi:i<aZ (i+32) l.length/\aZ (i+32) l.length<=l.length/\aZ (i+32) l.length<=i+32:=by unfold aZ;split<;>omega
   have hbl:=lS (l:=l) (i:=i) (by omega);have hmm:m=mnL (gQ l i):=by rw[hm,List.take_of_length_le (by omega),vL (by omega)]
   have huu:u=usL (mnL (gQ l i)) (gQ l i):=by rw[hu,List.take_of_length_le (by omega)]
   refine⟨fun q=>?_,by omega⟩;rw[huu];exact qU1 _ _ q)
  |(
   have hmm:m=mnL (gQ l i):=by rw[hm,List.take_of_length_le (by omega),vL (by omega)]
   have huu:u=usL (mnL (gQ l i)) (gQ l i):=by rw[hu,List.take_of_length_le (by omega)]
   have h1:=eD (gP m);have h2:=pD u w;simp only[ByteArray.size_append,uJ,cY [_],List.length_cons,List.length_nil];omega)))
  |(conv=>whnf
    first
     |with_reducible first|done|exact trivial|refine NilBr.mk (fun h=>?_) ?_|apply aI|apply aH|refine aJ (by kernel_rfl) ?_|apply aK|apply bE|apply bD|apply aQ
     |((with_reducible first|apply aS|apply aR|apply bB)<;>intro h<;>(try dsimp only[cu,eE,eN]at h)<;>(try(exfalso;omega)))
     |(
 intro yy (hy:Tag 44/\_)
 obtain⟨(i:Int),(x:ByteArray),_⟩:=yy
 replace hy:=hy.2
 dsimp only[cu,aC,aB,gts,eE,eN]at hy
 obtain⟨hi,hx,hz⟩:=hy)
     |(
 intro yy (hy:Tag 45/\_)
 obtain⟨(k:Int),(m:Int),_⟩:=yy
 replace hy:=hy.2
 dsimp only[cu,aC,aB,gts,eE,eN]at hy
 obtain⟨hk,hm⟩:=hy)
     |(
 intro yy (hy:Tag 46/\_)
 obtain⟨(j:Int),(u:List Int),(w:Int),_⟩:=yy
 replace hy:=hy.2
 dsimp only[cu,aC,aB,gts,eE,eN]at hy
 obtain⟨hj,hu,hw⟩:=hy)))
 all_goals(
 with_reducible apply Leaf.mk
 (try dsimp only[cu,aC,aB,gts,eE,eN]at *)
 first
 |rw[kZ,if_pos (by omega)]
 |(rw[hx,qJZ (by omega),ByteArray.append_empty]))
abbrev qcA:Tbl:=(159,HO)::qb9
theorem qHM:aD Tryz.prog qcA:=aD.cons qPQ qHL
def rB (l:List Val):List Int:=l.map fun v=>v.2.1
def EQ (l:List Val):List ByteArray:=l.map fun v=>v.2.2
def okV (v:Val):Prop:=v.2.2.size<=1048576/\inI v.2.1
def plV (t:Int) (v:Val):ByteArray:=if t=3 then bH (put v.2.2.size)++v.2.2 else bH (put (gP v.2.1))
def plL (t:Int):List Val->ByteArray
 | []=>ByteArray.empty
 |v::r=>plV t v++plL t r
def sJ (t k:Int) (l:List Val):ByteArray:=if k=2 then zI (rB l)else if k=3 then rW (EQ l)else if k=4 then kZ (rB l)else plL t l
def jA (l:List Val):List Val:=l.filter fun v=>!v.1
def lE (l:List Val):List Bool:=l.map fun v=>v.1
def zP (k:Int) (l:List Val):ByteArray:=(bH [IntKind.u8.wrap k]++bH (put l.length))++bH (put ((l.length:Int)-(jA l).length))
def qK (t k:Int) (l:List Val):ByteArray:=(if(jA l).length<l.length then zP k l++XA (lE l)else zP k l)++sJ t k (jA l)
def fE (t k:Int) (l:List Val):ByteArray:=cG (qK t k l)
theorem XL {t:Int} {l:List Val} {k:Int} (h:0<=k/\k<l.length):plL t (l.drop k.toNat)=plV t l[k.toNat]! ++plL t (l.drop (k+1).toNat):=by
 rw[bO l k h];rfl
theorem qC6 {l:List Val} (h:∀v,v∈l->okV v) (k:Nat):okV l[k]!:=by
 by_cases q:k<l.length
 ·rw[getElem!_pos l k q];exact h _ (List.getElem_mem q)
 ·rw[getElem!_neg l k q];exact⟨by decide,by unfold inI;exact⟨by decide,by decide⟩⟩
theorem qO6 {t:Int} {v:Val} (h:okV v):(plV t v).size<=1048586:=by
 unfold plV;have h1:=eD (v.2.2.size:Int);have h2:=eD (gP v.2.1);have:=h.1;split
 ·rw[ByteArray.size_append];omega
 ·omega
theorem XK (t:Int):∀(l:List Val),(∀v,v∈l->okV v)->(plL t l).size<=1048586*l.length
 | [],_=>Nat.zero_le _
 |v::r,h=>by
  have h1:=qO6 (t:=t) (h v (by simp));have h2:=XK t r (fun x hx=>h x (by simp [hx]));rw[plL,ByteArray.size_append,List.length_cons];omega
theorem qTY {l:List Val} (h:∀v,v∈l->okV v):∀x,x∈rB l->inI x:=fun x hx=>by
 obtain⟨v,hv,rfl⟩:=List.mem_map.1 hx;exact(h v hv).2
theorem qFY {l:List Val} (h:∀v,v∈l->okV v):∀x,x∈EQ l->x.size<=1073741824:=fun x hx=>by
 obtain⟨v,hv,rfl⟩:=List.mem_map.1 hx;have:=(h v hv).1;omega
theorem TX {l:List Val} (h:∀v,v∈l->okV v):∀v,v∈jA l->okV v:=fun v hv=>h v (List.mem_filter.1 hv).1
theorem rK (l:List Val):(jA l).length<=l.length:=List.length_filter_le _ _
theorem SH {l:List ByteArray} (h:∀w,w∈l->w.size<=1073741824):(rW l).size<=4398046584842:=by
 unfold rW;split
 ·exact Nat.zero_le _
 ·rw[ByteArray.size_append]
  have h1:=xP (v:=((cE l).length:Int)) (k:=(cE l).length) h (by omega);rw[List.take_of_length_le (Nat.le_refl _)]at h1;have h2:=pD (fF l) (wdN ((cE l).length:Int));omega
theorem YI:∀(n:Nat) (l:List Int),l.length<=n->(SI (runs l)).length<=20*l.length
 |n,[],_=>by rw[runs];exact Nat.zero_le _
 |n,v::l,h=>by
  obtain⟨m,rfl⟩:∃m,n=m+1:=⟨n-1,by simp at h;omega⟩
  rw[runs,SI];have h1:=bU ((sQ v l:Int)+1);have h2:=bU (gP v);have h3:=YI m (l.drop (sQ v l)) (by simp at h ⊢;omega);simp only[List.length_append,List.length_cons,List.length_drop]at h3 ⊢;omega
theorem SJ (l:List Int):(zI l).size<=20*l.length:=by
 unfold zI;rw[cY];exact YI _ l (Nat.le_refl _)
theorem XI {t k:Int} {l:List Val} (h:∀v,v∈l->okV v) (hl:l.length<=4096):(sJ t k l).size<=4398046584842:=by
 unfold sJ;split
 ·have:=SJ (rB l)
  have e:(rB l).length=l.length:=by simp [rB]
  omega
 ·split
  ·exact SH (qFY h)
  ·split
   ·have:=LP (rB l);omega
   ·have:=XK t l h;omega
theorem KD {l:List Bool} (h:l.length<=4096):(XA l).size<=512:=by
 unfold XA;rw[cY,lB,Int.tdiv_eq_ediv_of_nonneg (by omega)];omega
theorem PH (k:Int) (l:List Val):(zP k l).size<=21/\1<=(zP k l).size:=by
 unfold zP;have h1:=eD (l.length:Int);have h2:=eD ((l.length:Int)-(jA l).length);rw[ByteArray.size_append,ByteArray.size_append,cY [_]];simp only[List.length_cons,List.length_nil];omega
theorem EB {t k:Int} {l:List Val} (h:∀v,v∈l->okV v) (hl:l.length<=4096):(qK t k l).size<=4398046585375/\1<=(qK t k l).size:=by
 unfold qK;have h1:=PH k l;have h2:=XI (t:=t) (k:=k) (TX h) (by have:=rK l;omega);have h3:=KD (l:=lE l) (by simp [lE];omega);split
 ·rw[ByteArray.size_append,ByteArray.size_append];omega
 ·rw[ByteArray.size_append];omega
theorem rL {l:List Val} {k:Int} (h:0<=k/\k<l.length):l.take (k+1).toNat=l.take k.toNat++ [l[k.toNat]!]:=by
 rw[show(k+1).toNat=k.toNat+1 by omega,List.take_succ_eq_append_getElem (by omega),getElem!_pos l k.toNat (by omega)]
def cH (t k:Int):Bool:=if t=3 then decide (k=1)||decide (k=3)else decide (k=1)||decide (k=2)||decide (k=4)
abbrev yP:Ct:=.fn [.list bK] (some (fun(l:List Val)=>(l.length<=1073741824))) (fun(l:List Val)=>.d (.list (.int .i64)) (rB l))
theorem qC4:aF Tryz.prog 156 yP:=by
 refine aF.fn qHM mixed [] [] rfl rfl ?_;rintro⟨(l:List Val),_⟩ hpre;replace hpre:=hpre _ rfl;dsimp only[cu]at hpre;have hl:=hpre;refine⟨[(0,6,LA.mk [.sl 8 (.int .i64),.lst 3 (.int .i64) 2] (fun y=>Tag 47/\cu [.int .i64,.list (.int .i64)] (fun(k:Int) (M:List Int)=>(0<=k/\k<=l.length)/\(M=rB (l.take k.toNat))) y) (cu [.int .i64,.list (.int .i64)] (fun(k:Int) (M:List Int)=>((l.length:Int)-k).toNat)) (cu [.int .i64,.list (.int .i64)] (fun(k:Int) (M:List Int)=>([]:List (Nat×Nat×LA)))))],?_⟩;repeat' (first
  |(
 with_reducible refine Side.mk ⟨(⟨⟩:Tag 47),?_⟩
 dsimp only[cu,aC,aB,gts,eE,eN]
 refine⟨?_,?_⟩
 ·omega
 ·first
  |rfl
  |(
  unfold rB
  rw[rL (by omega),List.map_append]
  show _=rB (l.take k.toNat)++_
  rw[<-hM]
  rfl))
  |(
 with_reducible apply Side.mk
 (try dsimp only[cu,aC,aB,gts,loK,hiK,eE,eN])
 first
 |done
 |omega
 |exact Eq.refl _
 |(
  have hml:=congrArg List.length hM;simp only[rB,List.length_map,List.length_take]at hml;(try simp only[List.length_cons,List.length_nil]);omega))
  |(conv=>whnf
    first
     |with_reducible first|done|exact trivial|refine NilBr.mk (fun h=>?_) ?_|apply aI|apply aH|refine aJ (by kernel_rfl) ?_|apply aK|apply bE|apply bD|apply aQ
     |((with_reducible first|apply aS|apply aR|apply bB)<;>intro h<;>(try dsimp only[cu,eE,eN]at h)<;>(try(exfalso;omega)))
     |(
 intro yy (hy:Tag 47/\_)
 obtain⟨(k:Int),(M:List Int),_⟩:=yy
 replace hy:=hy.2
 dsimp only[cu,aC,aB,gts,eE,eN]at hy
 obtain⟨hk,hM⟩:=hy)))
 all_goals(
 with_reducible apply Leaf.mk
 (try dsimp only[cu,aC,aB,gts,eE,eN]at *)
 rw[hM,List.take_of_length_le (by omega)])
abbrev qcB:Tbl:=(156,yP)::qcA
theorem qHN:aD Tryz.prog qcB:=aD.cons qC4 qHM
abbrev zD:Ct:=.fn [.list bK] (some (fun(l:List Val)=>(l.length<=1073741824))) (fun(l:List Val)=>.d (.list .str) (EQ l))
theorem qDX:aF Tryz.prog 158 zD:=by
 refine aF.fn qHN mixed [] [] rfl rfl ?_;rintro⟨(l:List Val),_⟩ hpre;replace hpre:=hpre _ rfl;dsimp only[cu]at hpre;have hl:=hpre;refine⟨[(0,6,LA.mk [.sl 8 (.int .i64),.lst 3 .str 9] (fun y=>Tag 48/\cu [.int .i64,.list .str] (fun(k:Int) (M:List ByteArray)=>(0<=k/\k<=l.length)/\(M=EQ (l.take k.toNat))) y) (cu [.int .i64,.list .str] (fun(k:Int) (M:List ByteArray)=>((l.length:Int)-k).toNat)) (cu [.int .i64,.list .str] (fun(k:Int) (M:List ByteArray)=>([]:List (Nat×Nat×LA)))))],?_⟩;repeat' (first
  |(
 with_reducible refine Side.mk ⟨(⟨⟩:Tag 48),?_⟩
 dsimp only[cu,aC,aB,gts,eE,eN]
 refine⟨?_,?_⟩
 ·omega
 ·first
  |rfl
  |(
  unfold EQ
  rw[rL (by omega),List.map_append]
  show _=EQ (l.take k.toNat)++_
  rw[<-hM]
  rfl))
  |(
 with_reducible apply Side.mk
 (try dsimp only[cu,aC,aB,gts,loK,hiK,eE,eN])
 first
 |done
 |omega
 |exact Eq.refl _
 |(
  have hml:=congrArg List.length hM;simp only[EQ,List.length_map,List.length_take]at hml;(try simp only[List.length_cons,List.length_nil]);omega))
  |(conv=>whnf
    first
     |with_reducible first|done|exact trivial|refine NilBr.mk (fun h=>?_) ?_|apply aI|apply aH|refine aJ (by kernel_rfl) ?_|apply aK|apply bE|apply bD|apply aQ
     |((with_reducible first|apply aS|apply aR|apply bB)<;>intro h<;>(try dsimp only[cu,eE,eN]at h)<;>(try(exfalso;omega)))
     |(
 intro yy (hy:Tag 48/\_)
 obtain⟨(k:Int),(M:List ByteArray),_⟩:=yy
 replace hy:=hy.2
 dsimp only[cu,aC,aB,gts,eE,eN]at hy
 obtain⟨hk,hM⟩:=hy)))
 all_goals(
 with_reducible apply Leaf.mk
 (try dsimp only[cu,aC,aB,gts,eE,eN]at *)
 rw[hM,List.take_of_length_le (by omega)])
abbrev qcC:Tbl:=(158,zD)::qcB
theorem qHO:aD Tryz.prog qcC:=aD.cons qDX qHN
abbrev VC:Ct:=.fn [.int .i64,.int .i64,.list bK] (some (fun(t:Int) (c:Int) (l:List Val)=>(l.length<=4096)/\(∀v,v∈l->okV v))) (fun(t:Int) (c:Int) (l:List Val)=>.d .str (sJ t c l))
theorem qY0:aF Tryz.prog 121 VC:=by
 refine aF.fn qHO mixed [] [] rfl rfl ?_;rintro⟨(t:Int),(c:Int),(l:List Val),_⟩ hpre;replace hpre:=hpre _ rfl;dsimp only[cu]at hpre;obtain⟨hl,hv⟩:=hpre;refine⟨[(0,20,LA.mk [.sl 28 (.int .i64),.sl 7 .str] (fun y=>Tag 49/\cu [.int .i64,.str] (fun(k:Int) (x:ByteArray)=>(0<=k/\k<=l.length)/\(plL t l=x++plL t (l.drop k.toNat))/\((x.size:Int)<=1048586*k)) y) (cu [.int .i64,.str] (fun(k:Int) (x:ByteArray)=>((l.length:Int)-k).toNat)) (cu [.int .i64,.str] (fun(k:Int) (x:ByteArray)=>([]:List (Nat×Nat×LA)))))],?_⟩;repeat' (first
  |(
 with_reducible refine Side.mk ⟨(⟨⟩:Tag 49),?_⟩
 dsimp only[cu,aC,aB,gts,eE,eN]
 refine⟨?_,?_,?_⟩
 ·omega
 ·first
  |rw[show(⟨#[]⟩:ByteArray)=ByteArray.empty from rfl,ByteArray.empty_append];rfl
  |(
  have hat:=qC6 hv k.toNat
  have hat1:=hat.1
  have h64:=aN (n:=(l[k.toNat]!.2.2.size:Int)) (by omega)
  have p1:=eD (l[k.toNat]!.2.2.size:Int)
  have p2:=eD (gP l[k.toNat]!.2.1)
  first
  |(
   have ht:t=3:=by with_reducible assumption
   rw[hx,XL (by omega),plV,if_pos ht,h64,<-ByteArray.append_assoc])
  |(
   have ht:¬t=3:=by with_reducible assumption
   rw[hx,XL (by omega),plV,if_neg ht,<-ByteArray.append_assoc]))
 ·first
  |exact Int.le_refl _
  |(
  have hat:=qC6 hv k.toNat
  have hat1:=hat.1
  have h64:=aN (n:=(l[k.toNat]!.2.2.size:Int)) (by omega)
  have p1:=eD (l[k.toNat]!.2.2.size:Int)
  have p2:=eD (gP l[k.toNat]!.2.1)
  simp only[ByteArray.size_append,h64]
  omega))
  |(
 with_reducible apply Side.mk
 (try dsimp only[cu,aC,aB,gts,loK,hiK,eE,eN])
 first
 |omega
 |(
  have hat:=qC6 hv k.toNat;have hat1:=hat.1;have h64:=aN (n:=(l[k.toNat]!.2.2.size:Int)) (by omega);have p1:=eD (l[k.toNat]!.2.2.size:Int);have p2:=eD (gP l[k.toNat]!.2.1);first
  |omega
  |exact oI hat.2
  |exact hat.2
  |(
   rw[h64];omega)
  |(
   simp only[ByteArray.size_append,h64];omega))
 |refine⟨by simp [rB];omega,qTY hv⟩
 |(refine⟨qFY hv,by simp [EQ];omega⟩))
  |(conv=>whnf
    first
     |with_reducible first|done|exact trivial|refine NilBr.mk (fun h=>?_) ?_|apply aI|apply aH|refine aJ (by kernel_rfl) ?_|apply aK|apply bE|apply bD|apply aQ
     |((with_reducible first|apply aS|apply aR|apply bB)<;>intro h<;>(try dsimp only[cu,eE,eN]at h)<;>(try(exfalso;omega)))
     |(
 intro yy (hy:Tag 49/\_)
 obtain⟨(k:Int),(x:ByteArray),_⟩:=yy
 replace hy:=hy.2
 dsimp only[cu,aC,aB,gts,eE,eN]at hy
 obtain⟨hk,hx,hz⟩:=hy)))
 all_goals(
 with_reducible apply Leaf.mk
 (try dsimp only[cu,aC,aB,gts,eE,eN]at *)
 first
 |(
  have hc:c=2:=by with_reducible assumption
  rw[sJ,if_pos hc])
 |(
  have hc:¬c=2:=by with_reducible assumption
  first
  |(
   have hc3:c=3:=by with_reducible assumption
   rw[sJ,if_neg hc,if_pos hc3])
  |(
   have hc3:¬c=3:=by with_reducible assumption
   first
   |(
    have hc4:c=4:=by with_reducible assumption
    rw[sJ,if_neg hc,if_neg hc3,if_pos hc4])
   |(
    have hc4:¬c=4:=by with_reducible assumption
    rw[sJ,if_neg hc,if_neg hc3,if_neg hc4,hx,List.drop_eq_nil_of_le (by omega),plL,ByteArray.append_empty]))))
abbrev qcD:Tbl:=(121,VC)::qcC
theorem qHP:aD Tryz.prog qcD:=aD.cons qY0 qHO
abbrev OF:Ct:=.fn [.int .i64,.int .i64] (none) (fun(t:Int) (c:Int)=>.d .bool (cH t c))
theorem qU2:aF Tryz.prog 82 OF:=by
 refine aF.fn qHP mixed [] [] rfl rfl ?_;rintro⟨(t:Int),(c:Int),_⟩ -;refine⟨[],?_⟩;repeat' (first
  |(
 with_reducible apply Side.mk
 (try dsimp only[cu,aC,aB,gts,loK,hiK,eE,eN])
 done)
  |(conv=>whnf
    first
     |with_reducible first|done|exact trivial|refine NilBr.mk (fun h=>?_) ?_|apply aI|apply aH|refine aJ (by kernel_rfl) ?_|apply aK|apply bE|apply bD|apply aQ
     |((with_reducible first|apply aS|apply aR|apply bB)<;>intro h<;>(try dsimp only[cu,eE,eN]at h)<;>(try(exfalso;omega)))))
 all_goals(
 with_reducible apply Leaf.mk
 (try dsimp only[cu,aC,aB,gts,eE,eN]at *)
 grind [cH])
abbrev qcE:Tbl:=(82,OF)::qcD
theorem qHQ:aD Tryz.prog qcE:=aD.cons qU2 qHP
theorem QR {l:List Val} {k:Int} (h:0<=k/\k<l.length):jA (l.take (k+1).toNat)=jA (l.take k.toNat)++(if l[k.toNat]!.1=true then[]else[l[k.toNat]!]):=by
 rw[rL h];unfold jA;rw[List.filter_append];generalize l[k.toNat]! =x;by_cases q:x.1=true
 ·rw[if_pos q];simp [q]
 ·rw[if_neg q];simp [q]
theorem qC2 {l:List Val} {k:Int} (h:0<=k/\k<l.length):lE (l.take (k+1).toNat)=lE (l.take k.toNat)++ [l[k.toNat]!.1]:=by
 rw[rL h];simp [lE]
theorem qMR {t k:Int} {l:List Val} (h:(jA l).length<l.length):qK t k l=(zP k l++XA (lE l))++sJ t k (jA l):=by rw[qK,if_pos h]
theorem IV {t k:Int} {l:List Val} (h:¬(jA l).length<l.length):qK t k l=zP k l++sJ t k (jA l):=by rw[qK,if_neg h]
abbrev CZ:Ct:=.fn [pJ,.int .i64,.list bK] (some (fun(c:Col) (k:Int) (l:List Val)=>(l.length<=4096)/\(∀v,v∈l->okV v))) (fun(c:Col) (k:Int) (l:List Val)=>.d .str (fE c.2.1 k l))
theorem qJH:aF Tryz.prog 83 CZ:=by
 refine aF.fn qHQ mixed [] [] rfl rfl ?_;rintro⟨(c:Col),(k:Int),(l:List Val),_⟩ hpre;replace hpre:=hpre _ rfl;dsimp only[cu]at hpre;obtain⟨hl,hv⟩:=hpre;refine⟨[(0,8,LA.mk [.sl 14 (.int .i64),.lst 7 bK 43,.lst 8 .bool 4] (fun y=>Tag 50/\cu [.int .i64,.list bK,.list .bool] (fun(i:Int) (P:List Val) (N:List Bool)=>(0<=i/\i<=l.length)/\(P=jA (l.take i.toNat))/\(N=lE (l.take i.toNat))) y) (cu [.int .i64,.list bK,.list .bool] (fun(i:Int) (P:List Val) (N:List Bool)=>((l.length:Int)-i).toNat)) (cu [.int .i64,.list bK,.list .bool] (fun(i:Int) (P:List Val) (N:List Bool)=>([]:List (Nat×Nat×LA)))))],?_⟩;repeat' (first
  |(
 with_reducible refine Side.mk ⟨(⟨⟩:Tag 50),?_⟩
 dsimp only[cu,aC,aB,gts,eE,eN]
 refine⟨?_,?_,?_⟩
 ·omega
 ·first
  |rfl
  |(
  have hb:l[i.toNat]!.1=true:=by first|with_reducible assumption|exact kU (by with_reducible assumption)
  rw[QR (by omega),<-hP,if_pos hb,List.append_nil])
  |(
  have hb:¬l[i.toNat]!.1=true:=by first|with_reducible assumption|(simp_all;done)
  rw[QR (by omega),<-hP,if_neg hb])
 ·first
  |rfl
  |(rw[qC2 (by omega),<-hN]))
  |(
 with_reducible apply Side.mk
 (try dsimp only[cu,aC,aB,gts,loK,hiK,eE,eN])
 first
 |done
 |omega
 |exact Eq.refl _
 |(
  have hpl:=rK (l.take i.toNat);rw[<-hP,List.length_take]at hpl;first
  |omega
  |(
   (try simp only[List.length_cons,List.length_nil]);omega))
 |(
  have hnl:=congrArg List.length hN;simp only[lE,List.length_map,List.length_take]at hnl;(try simp only[List.length_cons,List.length_nil]);omega)
 |exact pP _
 |(
  have hpl:=rK (l.take i.toNat);rw[<-hP,List.length_take]at hpl;have w1:=aN (n:=(l.length:Int)) (by omega);have w2:=aN (n:=(l.length:Int)-P.length) (by omega);have hF:P=jA l:=by rw[hP,List.take_of_length_le (by omega)]
  have hG:N=lE l:=by rw[hN,List.take_of_length_le (by omega)]
  have hh:=PH k l;have hp:=XI (t:=c.2.1) (k:=k) (TX hv) (by have:=rK l;omega);have hq:=KD (l:=lE l) (by simp [lE];omega);have p1:=eD (l.length:Int);have p2:=eD ((l.length:Int)-P.length);rw[<-hF]at hp;rw[<-hG]at hq;simp only[ByteArray.size_append,w1,w2,uJ,cY [_],mC,List.length_cons,List.length_nil];omega)
 |(
  have hF:P=jA l:=by rw[hP,List.take_of_length_le (by omega)]
  have hG:N=lE l:=by rw[hN,List.take_of_length_le (by omega)]
  have hpl:=rK (l.take i.toNat);rw[<-hP,List.length_take]at hpl;refine⟨by omega,?_⟩;rw[hF];exact TX hv))
  |(conv=>whnf
    first
     |with_reducible first|done|exact trivial|refine NilBr.mk (fun h=>?_) ?_|apply aI|apply aH|refine aJ (by kernel_rfl) ?_|apply aK|apply bE|apply bD|apply aQ
     |((with_reducible first|apply aS|apply aR|apply bB)<;>intro h<;>(try dsimp only[cu,eE,eN]at h)<;>(try(exfalso;omega)))
     |(
 intro yy (hy:Tag 50/\_)
 obtain⟨(i:Int),(P:List Val),(N:List Bool),_⟩:=yy
 replace hy:=hy.2
 dsimp only[cu,aC,aB,gts,eE,eN]at hy
 obtain⟨hi,hP,hN⟩:=hy)))
 all_goals(
 with_reducible apply Leaf.mk
 (try dsimp only[cu,aC,aB,gts,eE,eN]at *)
 first
 |(
  have hpl:=rK (l.take i.toNat);rw[<-hP,List.length_take]at hpl;have w1:=aN (n:=(l.length:Int)) (by omega);have w2:=aN (n:=(l.length:Int)-P.length) (by omega);have hF:P=jA l:=by rw[hP,List.take_of_length_le (by omega)]
  have hG:N=lE l:=by rw[hN,List.take_of_length_le (by omega)]
  first
  |(
   have hlt:(jA l).length<l.length:=by rw[<-hF];omega
   rw[w1,w2,fE,cG,qMR hlt,hF,hG];(try rfl))
  |(
   have hlt:¬(jA l).length<l.length:=by rw[<-hF];omega
   rw[w1,w2,fE,cG,IV hlt,hF];(try rfl))))
abbrev qcF:Tbl:=(83,CZ)::qcE
theorem qHR:aD Tryz.prog qcF:=aD.cons qJH qHQ
abbrev ZV:Val:=(false,0,⟨#[]⟩)
def nV (n:Int):Val:=(false,n,⟨#[]⟩)
def sV (s:ByteArray):Val:=(false,0,s)
abbrev NV:Val:=(true,0,⟨#[]⟩)
def jU (t:Int) (s:ByteArray):Nat->Int->List Val->List Val×Bool
 |0,a,M=>(M,decide (a=s.size))
 |k+1,a,M=>if(aA s a).2.2≠0 then([],false)
  else if t=3 then(if(aA s a).1>s.size-(aA s a).2.1 then([],false)else jU t s k ((aA s a).2.1+(aA s a).1) (M++ [sV (s.extract (aA s a).2.1.toNat ((aA s a).2.1+(aA s a).1).toNat)]))
  else jU t s k (aA s a).2.1 (M++ [nV (jP (aA s a).1)])
def tI (n:Int) (l:List Val):List Val:=l++List.replicate (n-l.length).toNat ZV
def eP (t k:Int) (s:ByteArray) (n:Int):List Val×Bool:=
 if k=1 then jU t s n.toNat 0 []else if k=3 then((cI s n).1.map sV,decide ((cI s n).2=0))
 else if k=4 then((bA s n).1.map nV,decide ((bA s n).2=0))else((bV s n).1.map nV,decide ((bV s n).2=0))
def wK (t k:Int) (s:ByteArray) (n:Int):List Val×Bool:=if k=1 then jU t s n.toNat 0 []else(tI n (eP t k s n).1,(eP t k s n).2)
theorem qPC {t:Int} {s:ByteArray} {n a:Int} {M:List Val} (h:(M.length:Int)<n) (h1:¬(aA s a).2.2=0):jU t s (n-M.length).toNat a M=([],false):=by
 rw[show(n-M.length).toNat=(n-M.length-1).toNat+1 by omega,jU,if_pos h1]
theorem XR {t:Int} {s:ByteArray} {n a:Int} {M:List Val} (h:(M.length:Int)<n) (h1:(aA s a).2.2=0) (ht:t=3) (h2:(aA s a).1>s.size-(aA s a).2.1):jU t s (n-M.length).toNat a M=([],false):=by
 rw[show(n-M.length).toNat=(n-M.length-1).toNat+1 by omega,jU,if_neg (fun q=>q h1),if_pos ht,if_pos h2]
theorem qPE {t:Int} {s:ByteArray} {n a:Int} {M:List Val} (h:(M.length:Int)<n) (h1:(aA s a).2.2=0) (ht:t=3) (h2:¬(aA s a).1>s.size-(aA s a).2.1) :
  jU t s (n-M.length).toNat a M=jU t s (n-(M++ [sV (s.extract (aA s a).2.1.toNat ((aA s a).2.1+(aA s a).1).toNat)]).length).toNat ((aA s a).2.1+(aA s a).1) (M++ [sV (s.extract (aA s a).2.1.toNat ((aA s a).2.1+(aA s a).1).toNat)]):=by
 rw[show(n-M.length).toNat=(n-M.length-1).toNat+1 by omega,jU,if_neg (fun q=>q h1),if_pos ht,if_neg h2];congr 1
 simp;omega
theorem qPD {t:Int} {s:ByteArray} {n a:Int} {M:List Val} (h:(M.length:Int)<n) (h1:(aA s a).2.2=0) (ht:¬t=3) :
  jU t s (n-M.length).toNat a M=jU t s (n-(M++ [nV (jP (aA s a).1)]).length).toNat (aA s a).2.1 (M++ [nV (jP (aA s a).1)]):=by
 rw[show(n-M.length).toNat=(n-M.length-1).toNat+1 by omega,jU,if_neg (fun q=>q h1),if_neg ht];congr 1
 simp;omega
theorem qPB {t:Int} {s:ByteArray} {n a:Int} {M:List Val} (h:¬(M.length:Int)<n):jU t s (n-M.length).toNat a M=(M,decide (a=s.size)):=by
 rw[show(n-M.length).toNat=0 by omega,jU]
theorem qDD {t:Int} {s:ByteArray}:∀(k:Nat) (a:Int) (M:List Val),(jU t s k a M).2=true->(jU t s k a M).1.length=M.length+k
 |0,a,M,h=>rfl
 |k+1,a,M,h=>by
  rw[jU]at h ⊢;split at h
  ·cases h
  ·rename_i h1
   rw[if_neg h1];split at h
   ·rename_i ht
    rw[if_pos ht];split at h
    ·cases h
    ·rename_i h2
     rw[if_neg h2,qDD k _ _ h];simp;omega
   ·rename_i ht
    rw[if_neg ht,qDD k _ _ h];simp;omega
theorem qEI {s:ByteArray} {n:Int}:∀(m:Nat) (a:Int) (M:List Int),(n-M.length).toNat<=m->(M.length:Int)<=n->((dGo s n a M).2=0->((dGo s n a M).1.length:Int)=n)/\((dGo s n a M).2≠0->(dGo s n a M).1= [])
 |m,a,M,hm,hM=>by
  rw[dGo];split
  ·split
   ·rename_i h1;exact⟨fun q=>absurd q h1,fun _=>rfl⟩
   ·split
    ·exact⟨fun q=>absurd q (by decide),fun _=>rfl⟩
    ·rename_i h2
     split
     ·rename_i h3;exact⟨fun q=>absurd q h3,fun _=>rfl⟩
     ·split
      ·exact⟨fun q=>absurd q (by decide),fun _=>rfl⟩
      ·have hg:=aG s a
       obtain⟨m,rfl⟩:∃m',m=m'+1:=⟨m-1,by omega⟩
       exact qEI m _ _ (by simp only[List.length_append,List.length_replicate];omega) (by simp only[List.length_append,List.length_replicate];omega)
  ·split
   ·exact⟨fun q=>absurd q (by decide),fun _=>rfl⟩
   ·exact⟨fun _=>by show((M.length:Nat):Int)=n;omega,fun q=>absurd rfl q⟩
theorem TV {s:ByteArray} {n:Int}:((bV s n).2=0->((bV s n).1.length:Int)=n)/\((bV s n).2≠0->(bV s n).1= []):=by
 unfold bV;split
 ·exact⟨fun q=>absurd q (by decide),fun _=>rfl⟩
 ·exact qEI _ _ _ (Nat.le_refl _) (by simp;omega)
theorem qM9 {s:ByteArray} {n:Int}:∀(m:Nat) (a:Int) (M:List Int),(n-M.length).toNat<=m->(M.length:Int)<=n->((dd s n a M).2=0->((dd s n a M).1.length:Int)=n)/\((dd s n a M).2≠0->(dd s n a M).1= [])
 |m,a,M,hm,hM=>by
  rw[dd];split
  ·rename_i h
   split
   ·rename_i h2
    have hk:=oY h;have hb:=(vA h2).1;obtain⟨m,rfl⟩:∃m',m=m'+1:=⟨m-1,by omega⟩
    exact qM9 m _ _ (by simp only[List.length_append,jX];omega) (by simp only[List.length_append,jX];omega)
   ·rename_i h2;exact⟨fun q=>absurd q h2,fun _=>rfl⟩
  ·split
   ·exact⟨fun q=>absurd q (by decide),fun _=>rfl⟩
   ·exact⟨fun _=>by show((M.length:Nat):Int)=n;omega,fun q=>absurd rfl q⟩
theorem JA {s:ByteArray} {n:Int}:((bA s n).2=0->((bA s n).1.length:Int)=n)/\((bA s n).2≠0->(bA s n).1= []):=by
 unfold bA;split
 ·exact⟨fun q=>absurd q (by decide),fun _=>rfl⟩
 ·split
  ·rename_i hn
   split
   ·exact⟨fun _=>by subst hn;rfl,fun q=>absurd rfl q⟩
   ·exact⟨fun q=>absurd q (by decide),fun _=>rfl⟩
  ·split
   ·rename_i h1;exact⟨fun q=>absurd q h1,fun _=>rfl⟩
   ·exact qM9 _ _ _ (Nat.le_refl _) (by simp only[List.length_cons,List.length_nil];omega)
theorem xM {s:ByteArray} {n:Int}:((cI s n).2=0->((cI s n).1.length:Int)=n)/\((cI s n).2≠0->(cI s n).1= []):=by
 unfold cI VW qB5 SE;split
 ·exact⟨fun q=>absurd q (by decide),fun _=>rfl⟩
 rename_i q1;split
 ·rename_i h;exact⟨fun q=>absurd q h,fun _=>rfl⟩
 split
 ·exact⟨fun q=>absurd q (by decide),fun _=>rfl⟩
 split
 ·rename_i h;exact⟨fun q=>absurd q h,fun _=>rfl⟩
 split
 ·rename_i h;exact⟨fun q=>absurd q h,fun _=>rfl⟩
 rename_i q5;split
 ·exact⟨fun q=>absurd q (by decide),fun _=>rfl⟩
 split
 ·exact⟨fun q=>absurd q (by decide),fun _=>rfl⟩
 ·have:=dG (Decidable.not_not.1 q5)
  refine⟨fun _=>?_,fun q=>absurd rfl q⟩;simp only[List.length_map];omega
theorem qFV {t k:Int} {s:ByteArray} {n:Int} (h0:0<=n) (h:(eP t k s n).2=true):((eP t k s n).1.length:Int)=n:=by
 unfold eP at h ⊢;split at h
 ·rename_i h1
  rw[if_pos h1,qDD _ _ _ h];simp;omega
 ·rename_i h1
  rw[if_neg h1];split at h
  ·rename_i h2
   rw[if_pos h2];have:=xM.1 (of_decide_eq_true h);simp only[List.length_map];exact this
  ·rename_i h2
   rw[if_neg h2];split at h
   ·rename_i h3
    rw[if_pos h3];have:=JA.1 (of_decide_eq_true h);simp only[List.length_map];exact this
   ·rename_i h3
    rw[if_neg h3];have:=TV.1 (of_decide_eq_true h);simp only[List.length_map];exact this
theorem QY (t k:Int) (s:ByteArray) (n:Int):(wK t k s n).2=(eP t k s n).2:=by
 unfold wK;split
 ·rename_i h;rw[eP,if_pos h]
 ·rfl
theorem qIN {t k:Int} {s:ByteArray} {n:Int} (h0:0<=n) (h:(eP t k s n).2=true):(wK t k s n).1=(eP t k s n).1:=by
 have hl:=qFV h0 h;unfold wK;split
 ·rename_i h1;rw[eP,if_pos h1]
 ·show tI n (eP t k s n).1=_
  unfold tI;rw[show(n-(eP t k s n).1.length).toNat=0 by omega];simp
def pkV (b:Bool) (R:List Val):Val:=if b=true then NV else R[0]!
def rsV (b:Bool) (R:List Val):List Val:=if b=true then R else R.drop 1
def asm (c:Col):List Bool->List Val->List Val->List Val×Bool
 | [],_,M=>(M,true)
 |b::r,R,M=>if bN c (pkV b R)≠0 then([],false)else asm c r (rsV b R) (M++ [pkV b R])
def nG:List Bool->Nat
 | []=>0
 |b::r=>(if b=true then 0 else 1)+nG r
def cU (s:ByteArray) (a n k:Int):List Bool×Bool×Int:=
 if k>0 then(if a+(n+7).tdiv 8>s.size\/(eQ (s.extract a.toNat (a+(n+7).tdiv 8).toNat) n).2≠0\/kS (s.extract a.toNat (a+(n+7).tdiv 8).toNat)≠k then([],false,0)
  else((eQ (s.extract a.toNat (a+(n+7).tdiv 8).toNat) n).1,true,a+(n+7).tdiv 8))
 else(List.replicate n.toNat false,true,a)
def qRV (c:Col) (N:List Bool) (r:List Val×Bool):List Val×Bool:=if r.2=false then([],false)else asm c N r.1 []
def GN (c:Col) (s:ByteArray) (n k:Int) (x:List Bool×Bool×Int):List Val×Bool:=if x.2.1=false then([],false)else qRV c x.1 (eP c.2.1 (aE s (0:Int).toNat) (s.extract x.2.2.toNat s.size) (n-k))
def lL (c:Col) (s:ByteArray):List Val×Bool:=
 if cH c.2.1 (aE s (0:Int).toNat)=false\/(aA s 1).2.2≠0\/(aA s 1).1>4096 then([],false)
 else if(aA s (aA s 1).2.1).2.2≠0\/(aA s (aA s 1).2.1).1>(aA s 1).1 then([],false)
 else GN c s (aA s 1).1 (aA s (aA s 1).2.1).1 (cU s (aA s (aA s 1).2.1).2.1 (aA s 1).1 (aA s (aA s 1).2.1).1)
def nH (c:Col) (s:ByteArray):List Val×Int:=
 if cB c.2.1=false then([],1)else if fY s≠0 then([],fY s)else if(lL c (gG s)).2=false then([],2)else((lL c (gG s)).1,0)
theorem yG {c:Col} {N:List Bool} {R M:List Val} {i:Int} (h:0<=i/\i<N.length):asm c (N.drop i.toNat) R M=if bN c (pkV N[i.toNat]! R)≠0 then([],false)else asm c (N.drop (i+1).toNat) (rsV N[i.toNat]! R) (M++ [pkV N[i.toNat]! R]):=by
 rw[bO N i h];rfl
theorem FE {c:Col} {N:List Bool} {R M:List Val} {i:Int} (h:¬i<N.length) (h0:0<=i):asm c (N.drop i.toNat) R M=(M,true):=by
 rw[List.drop_eq_nil_of_le (by omega)];rfl
theorem OP {N:List Bool} {i:Int} (h:0<=i/\i<N.length):nG (N.drop i.toNat)=(if N[i.toNat]! =true then 0 else 1)+nG (N.drop (i+1).toNat):=by
 rw[bO N i h];rfl
theorem qMT (a b:List Bool):nG (a++b)=nG a+nG b:=by
 induction a with
 |nil=>simp [nG]
 |cons x a ih=>simp only[List.cons_append,nG,ih];omega
theorem qMU (n:Nat):nG (List.replicate n false)=n:=by
 induction n with
 |zero=>rfl
 |succ n ih=>rw[List.replicate_succ,nG,ih];simp;omega
theorem OO (s:ByteArray):∀m:Nat,((nG (tL s m):Nat):Int)+jK s m=m
 |0=>rfl
 |m+1=>by
  have ih:=OO s m;have e:=xJ s (k:=(m:Int)) (by omega);rw[show((m:Int)+1).toNat=m+1 by omega,show((m:Int)).toNat=m by omega]at e;rw[e,qMT,jK];have hb:=sS s m;by_cases q:EY s m=true
  ·have:=qBS q
   simp only[nG,q];simp;omega
  ·have:=qBR (by simpa using q:EY s m=false)
   simp only[nG,q];simp;omega
theorem IW {s:ByteArray} {n:Nat}:∀d:Nat,(∀q:Nat,n<=q->q<n+d->sbit s q≠1)->jK s (n+d)=jK s n
 |0,_=>rfl
 |d+1,h=>by
  have h1:=h (n+d) (by omega) (by omega);have h2:=sS s (n+d);rw[show n+(d+1)=n+d+1 by omega,jK,IW d (fun q g1 g2=>h q g1 (by omega))];omega
theorem qU0 {s:ByteArray} {n:Int} (h:(eQ s n).2=0):0<=n/\n<=4096/\(eQ s n).1=tL s n.toNat/\((nG (eQ s n).1:Nat):Int)+kS s=n:=by
 unfold eQ at h ⊢;split at h
 ·exact absurd h (by decide)
 ·rename_i h1
  rw[if_neg h1];split at h
  ·exact absurd h (by decide)
  ·rename_i h2
   rw[if_neg h2];split at h
   ·exact absurd h (by decide)
   ·rename_i h3
    rw[if_neg h3];split at h
    ·exact absurd h (by decide)
    ·rename_i h4
     rw[if_neg h4];refine⟨by omega,by omega,rfl,?_⟩;have hd:=lQ (n:=n+7) (by omega);have e1:=OO s n.toNat;have e2:=IW (s:=s) (n:=n.toNat) (8*s.size-n.toNat) (fun q g1 g2 g3=>h4 (AY g1 (by omega) g3));rw[show n.toNat+(8*s.size-n.toNat)=8*s.size by omega]at e2;show((nG (tL s n.toNat):Nat):Int)+kS s=n;unfold kS;omega
theorem lO {s:ByteArray} {a n k:Int} (h:¬k>0):cU s a n k=(List.replicate n.toNat false,true,a):=by rw[cU,if_neg h]
theorem JY {s:ByteArray} {a n k:Int} (h:k>0) (h1:a+(n+7).tdiv 8>s.size\/(eQ (s.extract a.toNat (a+(n+7).tdiv 8).toNat) n).2≠0\/kS (s.extract a.toNat (a+(n+7).tdiv 8).toNat)≠k):cU s a n k=([],false,0):=by rw[cU,if_pos h,if_pos h1]
theorem jS {s:ByteArray} {a n k:Int} (h:k>0) (h1:¬a+(n+7).tdiv 8>s.size) (h2:(eQ (s.extract a.toNat (a+(n+7).tdiv 8).toNat) n).2=0) (h3:kS (s.extract a.toNat (a+(n+7).tdiv 8).toNat)=k) :
  cU s a n k=((eQ (s.extract a.toNat (a+(n+7).tdiv 8).toNat) n).1,true,a+(n+7).tdiv 8):=by
 rw[cU,if_pos h,if_neg (fun q=>by rcases q with q|q|q<;>contradiction)]
theorem qYU {s:ByteArray} {a n k:Int} (hn:0<=n/\n<=4096) (ha:0<=a/\a<=s.size) (hk:0<=k/\k<=n) (h:(cU s a n k).2.1=true):((cU s a n k).1.length:Int)=n/\((nG (cU s a n k).1:Nat):Int)=n-k/\0<=(cU s a n k).2.2/\(cU s a n k).2.2<=s.size:=by
 by_cases h0:k>0
 ·by_cases h1:a+(n+7).tdiv 8>s.size\/(eQ (s.extract a.toNat (a+(n+7).tdiv 8).toNat) n).2≠0\/kS (s.extract a.toNat (a+(n+7).tdiv 8).toNat)≠k
  ·rw[JY h0 h1]at h;cases h
  ·have g1:¬a+(n+7).tdiv 8>s.size:=fun q=>h1 (.inl q)
   have g2:(eQ (s.extract a.toNat (a+(n+7).tdiv 8).toNat) n).2=0:=Decidable.not_not.1 fun q=>h1 (.inr (.inl q))
   have g3:kS (s.extract a.toNat (a+(n+7).tdiv 8).toNat)=k:=Decidable.not_not.1 fun q=>h1 (.inr (.inr q))
   rw[jS h0 g1 g2 g3];obtain⟨_,_,e1,e2⟩:=qU0 g2;have hd:=lQ (n:=n+7) (by omega);refine⟨?_,by show((nG (eQ _ n).1:Nat):Int)=n-k;omega,by show 0<=a+(n+7).tdiv 8;omega,by show a+(n+7).tdiv 8<=s.size;omega⟩;show((eQ _ n).1.length:Int)=n;rw[e1,BQ];omega
 ·rw[lO h0]
  refine⟨by show((List.replicate n.toNat false).length:Int)=n;rw[List.length_replicate];omega,by show((nG (List.replicate n.toNat false):Nat):Int)=n-k;rw[qMU];omega,ha.1,ha.2⟩
theorem MH {c:Col} {s:ByteArray} (h:cH c.2.1 (aE s (0:Int).toNat)=false\/(aA s 1).2.2≠0\/(aA s 1).1>4096):lL c s=([],false):=by rw[lL,if_pos h]
theorem qEB {c:Col} {s:ByteArray} (h:¬(cH c.2.1 (aE s (0:Int).toNat)=false\/(aA s 1).2.2≠0\/(aA s 1).1>4096)) (h2:(aA s (aA s 1).2.1).2.2≠0\/(aA s (aA s 1).2.1).1>(aA s 1).1):lL c s=([],false):=by rw[lL,if_neg h,if_pos h2]
theorem qZX {c:Col} {s:ByteArray} (h:¬(cH c.2.1 (aE s (0:Int).toNat)=false\/(aA s 1).2.2≠0\/(aA s 1).1>4096)) (h2:¬((aA s (aA s 1).2.1).2.2≠0\/(aA s (aA s 1).2.1).1>(aA s 1).1)) :
 lL c s=GN c s (aA s 1).1 (aA s (aA s 1).2.1).1 (cU s (aA s (aA s 1).2.1).2.1 (aA s 1).1 (aA s (aA s 1).2.1).1):=by rw[lL,if_neg h,if_neg h2]
theorem qRT {c:Col} {s:ByteArray} {n k:Int} {x:List Bool×Bool×Int} (h:x.2.1=false):GN c s n k x=([],false):=by rw[GN,if_pos h]
theorem qRU {c:Col} {s:ByteArray} {n k A:Int} {N:List Bool} (h1:(eP c.2.1 (aE s (0:Int).toNat) (s.extract A.toNat s.size) (n-k)).2=false):GN c s n k (N,true,A)=([],false):=by
 rw[GN,if_neg (fun q=>Bool.noConfusion q),qRV,if_pos h1]
theorem UU {c:Col} {s:ByteArray} {n k A:Int} {N:List Bool} (h1:(eP c.2.1 (aE s (0:Int).toNat) (s.extract A.toNat s.size) (n-k)).2=true):GN c s n k (N,true,A)=asm c N (eP c.2.1 (aE s (0:Int).toNat) (s.extract A.toNat s.size) (n-k)).1 []:=by
 rw[GN,if_neg (fun q=>Bool.noConfusion q),qRV,if_neg (by rw[h1];decide)]
theorem qNB {c:Col} {s:ByteArray} (h:cB c.2.1=false):nH c s=([],1):=by rw[nH,if_pos h]
theorem qNC {c:Col} {s:ByteArray} (h:cB c.2.1=true) (h1:¬fY s=0):nH c s=([],fY s):=by rw[nH,if_neg (by rw[h];decide),if_pos h1]
theorem qND {c:Col} {s:ByteArray} (h:cB c.2.1=true) (h1:fY s=0) (h2:(lL c (gG s)).2=false):nH c s=([],2):=by rw[nH,if_neg (by rw[h];decide),if_neg (fun q=>q h1),if_pos h2]
theorem qB6 {c:Col} {s:ByteArray} (h:cB c.2.1=true) (h1:fY s=0) (h2:(lL c (gG s)).2=true):nH c s=((lL c (gG s)).1,0):=by rw[nH,if_neg (by rw[h];decide),if_neg (fun q=>q h1),if_neg (by rw[h2];decide)]
theorem KE {n:Int} {l:List Val} (h:(l.length:Int)<=n):((tI n l).length:Int)=n:=by
 unfold tI;rw[List.length_append,List.length_replicate];omega
theorem XD (n:Int):tI n []=List.replicate n.toNat ZV:=by
 unfold tI;simp
theorem XC {n:Int} {l:List Val} {i:Int} (hi:i=(l.length:Int)) (h:i<n):(tI n l)[i.toNat]! =ZV:=by
 unfold tI;rw[List.getElem!_eq_getElem?_getD,List.getElem?_append_right (by omega),List.getElem?_replicate,if_pos (by omega)];rfl
theorem XE {n:Int} {l:List Val} {i:Int} (v:Val) (hi:i=(l.length:Int)) (h:i<n):(tI n l).set i.toNat v=tI n (l++ [v]):=by
 unfold tI;rw[List.set_append_right _ _ (by omega),show i.toNat-l.length=0 by omega];obtain⟨m,hm⟩:∃m,(n-l.length).toNat=m+1:=⟨(n-l.length).toNat-1,by omega⟩
 rw[hm,List.replicate_succ,List.set_cons_zero,List.append_assoc];have:(n-(l++ [v]).length).toNat=m:=by simp;omega
 rw[this];rfl
theorem PS {W:List ByteArray} {i:Int} (h:0<=i/\i<W.length):(W.take (i+1).toNat).map sV=(W.take i.toNat).map sV++ [sV W[i.toNat]!]:=by
 rw[show(i+1).toNat=i.toNat+1 by omega,List.take_succ_eq_append_getElem (by omega),getElem!_pos W i.toNat (by omega),List.map_append];rfl
theorem qKB {W:List Int} {i:Int} (h:0<=i/\i<W.length):(W.take (i+1).toNat).map nV=(W.take i.toNat).map nV++ [nV W[i.toNat]!]:=by
 rw[jC h];simp
theorem pK {α:Type} {W:List α} {i:Int} (h:0<=i/\i<=W.length):((W.take i.toNat).length:Int)=i:=by
 rw[List.length_take];omega
theorem vI {s:ByteArray} {n:Int} (h:0<=n):((cI s n).1.length:Int)<=n:=by
 by_cases q:(cI s n).2=0
 ·have:=xM.1 q;omega
 ·rw[xM.2 q];simpa using h
theorem wB {s:ByteArray} {n:Int} (h:0<=n):((bV s n).1.length:Int)<=n:=by
 by_cases q:(bV s n).2=0
 ·have:=TV.1 q;omega
 ·rw[TV.2 q];simpa using h
theorem qV {s:ByteArray} {n:Int} (h:0<=n):((bA s n).1.length:Int)<=n:=by
 by_cases q:(bA s n).2=0
 ·have:=JA.1 q;omega
 ·rw[JA.2 q];simpa using h
theorem qVU {t k:Int} {s:ByteArray} {n:Int} (h:k=1):eP t k s n=jU t s n.toNat 0 []:=by rw[eP,if_pos h]
theorem qVV {t k:Int} {s:ByteArray} {n:Int} (h:k=3):eP t k s n=((cI s n).1.map sV,decide ((cI s n).2=0)):=by rw[eP,if_neg (by omega),if_pos h]
theorem YH {t k:Int} {s:ByteArray} {n:Int} (h:k=4):eP t k s n=((bA s n).1.map nV,decide ((bA s n).2=0)):=by rw[eP,if_neg (by omega),if_neg (by omega),if_pos h]
theorem YG {t k:Int} {s:ByteArray} {n:Int} (h1:¬k=1) (h3:¬k=3) (h4:¬k=4):eP t k s n=((bV s n).1.map nV,decide ((bV s n).2=0)):=by rw[eP,if_neg h1,if_neg h3,if_neg h4]
theorem qdA {t k:Int} {s:ByteArray} {n:Int} (h:k=1):wK t k s n=jU t s n.toNat 0 []:=by rw[wK,if_pos h]
theorem qBB {t k:Int} {s:ByteArray} {n:Int} (h:¬k=1):wK t k s n=(tI n (eP t k s n).1,(eP t k s n).2):=by rw[wK,if_neg h]
def LN (t:Int):List Int:=if t=3 then[1,3]else[1,2,4]
theorem qMW (t:Int):(LN t).length<=3:=by unfold LN;split<;>simp
theorem kL (t k:Int):(LN t).any (fun x=>decide (x=k))=cH t k:=by
 unfold LN cH;split<;>simp [Bool.or_assoc,eq_comm]
theorem qJA {l:List Int} {i k:Int} (h:0<=i/\i<l.length):(l.take (i+1).toNat).any (fun x=>decide (x=k))=((l.take i.toNat).any (fun x=>decide (x=k))||decide (l[i.toNat]! =k)):=by
 rw[jC h];simp
theorem BC {t k:Int} (h:cH t k=true):1<=k/\k<=4:=by
 unfold cH at h;split at h<;>simp at h<;>omega
theorem oN {L:List Val} {i:Int} {v:Val} (h:0<=i/\i<L.length):(L.set i.toNat v).take (i+1).toNat=L.take i.toNat++ [v]:=by
 rw[show(i+1).toNat=i.toNat+1 by omega,AZ _ _ _ (by omega)]
theorem qE {L:List Val} {i:Int} {v:Val} (h:0<=i/\i<L.length):(L.set i.toNat v)[i.toNat]! =v:=by
 rw[getElem!_pos _ _ (by rw[List.length_set];omega)];simp
theorem qK1 {L:List Val} {i:Int} {v:Val} (h:0<=i) (hz:∀j:Nat,i<=j->L[j]! =ZV):∀j:Nat,i+1<=j->(L.set i.toNat v)[j]! =ZV:=fun j hj=>by
 have:=hz j (by omega);rw[List.getElem!_eq_getElem?_getD]at this ⊢;rw[List.getElem?_set_ne (by omega)];exact this
theorem qUE (n:Nat):∀j:Nat,(0:Int)<=j->(List.replicate n ZV)[j]! =ZV:=fun j _=>by
 rw[List.getElem!_eq_getElem?_getD,List.getElem?_replicate];split<;>rfl
theorem SL (s:ByteArray) (a b:Nat):(s.extract a b).size<=s.size:=by simp;omega
abbrev qQO:Ty:=.pair .str (.int .i64)
abbrev Rdr:Type:=ByteArray×Int
@[reducible] instance:Inhabited Rdr:=instInhabitedDen qQO
end Go.Proofs.YtcjiefknhfhmkaaGreatDoor
