import Derived.Test.YtcjiefknhfhmkaaGreatDoorM07
namespace Go.Proofs.YtcjiefknhfhmkaaGreatDoor
open Go.Abs
set_option maxRecDepth 100000
set_option maxHeartbeats 4000000
set_option linter.unusedVariables false
set_option linter.unusedSimpArgs false
def mnL:List Int->Int
 | []=>0
 |x::l=>l.foldl bR x
def mxL:List Int->Int
 | []=>0
 |x::l=>l.foldl dX x
theorem qP0 (x:Int):∀l:List Int,l≠ []->mnL (l++ [x])=bR (mnL l) x
 | [],h=>absurd rfl h
 |y::l,_=>by simp [mnL]
theorem qP4 (x:Int):∀l:List Int,l≠ []->mxL (l++ [x])=dX (mxL l) x
 | [],h=>absurd rfl h
 |y::l,_=>by simp [mxL]
theorem qCI {l:List Int} {k:Int} (h:1<=k/\k<l.length):l.take k.toNat≠ []:=by
 intro q;have:=congrArg List.length q;rw[List.length_take,List.length_nil]at this;omega
theorem nX {l:List Int} {k:Int} (h:0<=k/\k<l.length):l.take (k+1).toNat=l.take k.toNat++ [l[k.toNat]!]:=by
 rw[show(k+1).toNat=k.toNat+1 by omega,List.take_succ_eq_append_getElem (by omega),getElem!_pos l k.toNat (by omega)]
theorem qBM {l:List Int} {k:Int} (h:1<=k/\k<l.length):mnL (l.take (k+1).toNat)=bR (mnL (l.take k.toNat)) l[k.toNat]!:=by
 rw[nX (by omega),qP0 _ _ (qCI h)]
theorem qP6 {l:List Int} {k:Int} (h:1<=k/\k<l.length):mxL (l.take (k+1).toNat)=dX (mxL (l.take k.toNat)) l[k.toNat]!:=by
 rw[nX (by omega),qP4 _ _ (qCI h)]
theorem HG {l:List Int} (h:1<=l.length):l.take (1:Int).toNat= [l[0]!]:=by
 cases l with
 |nil=>simp at h
 |cons x l=>rfl
theorem qAA (s:ByteArray) (n w:Int):∀i:Nat,(bN s n w).1[i]! <18446744073709551616:=by
 intro i;have nil:∀l:List Int,l= []->l[i]! <18446744073709551616:=fun l h=>by subst h;show(0:Int)<_;decide
 unfold bN;split
 ·exact nil _ rfl
 rename_i hp;have hp:=(eQ n w).1 (Decidable.not_not.1 hp);split
 ·exact nil _ rfl
 split
 ·exact nil _ rfl
 split
 ·exact nil _ rfl
 ·by_cases h:i<n.toNat
  ·rw[YH h]
   have h1:=(qA8 (vQ s) (n*w).toNat w.toNat i w.toNat).2;have h2:(2:Int)^w.toNat<=18446744073709551616:=by
    have:=Nat.pow_le_pow_right (show 0<2 by decide) (show w.toNat<=64 by omega);rw[<-fA];omega
   omega
  ·rw[getElem!_neg _ i (by rw[lY];exact h)];show(0:Int)<_;decide
theorem WL (s:ByteArray) (n w:Int) (i:Nat):0<=(bN s n w).1[i]! /\(bN s n w).1[i]! <18446744073709551616:=⟨oY s n w i,qAA s n w i⟩
theorem qLA:∀ {l:List Int} {x:Int},l.foldl dX x=x\/l.foldl dX x∈l
 | [],x=>.inl rfl
 |y::l,x=>by
  rcases qLA (l:=l) (x:=dX x y)with q|q
  ·rw[List.foldl_cons,q];unfold dX;split
   ·right;simp
   ·left;rfl
  ·right;rw[List.foldl_cons];simp [q]
theorem qP5 {l:List Int} (h:∀i:Nat,0<=l[i]! /\l[i]! <18446744073709551616):0<=mxL l/\mxL l<18446744073709551616:=by
 have hm:∀x,x∈l->0<=x/\x<18446744073709551616:=fun x hx=>by
  obtain⟨i,hi,rfl⟩:=List.mem_iff_getElem.1 hx;have:=h i;rwa [getElem!_pos l i hi]at this
 cases l with
 |nil=>exact⟨Int.le_refl _,by show(0:Int)<_;decide⟩
 |cons x l=>
  show 0<=List.foldl dX x l/\List.foldl dX x l<18446744073709551616;rcases qLA (l:=l) (x:=x)with q|q
  ·rw[q];exact hm x (by simp)
  ·exact hm _ (by simp [q])
def dW (s:ByteArray) (a:Int):Int:=aG s (aA s a).2.1.toNat
def dE (s:ByteArray) (a k:Int):Int:=(aA s a).2.1+1+dK k (dW s a)
def dU (s:ByteArray) (a k:Int):List Int×Int:=bN (s.extract ((aA s a).2.1+1).toNat (dE s a k).toNat) k (dW s a)
def dL (s:ByteArray) (a:Int):Int:=pK (aA s a).1
def dDs (s:ByteArray) (a k:Int):List Int:=(dU s a k).1.map fun v=>IntKind.i64.wrap (dL s a+v)
def dOk (s:ByteArray) (a k:Int):Bool:=decide ((dU s a k).2=0)&&decide (mnL (dU s a k).1=0)&&decide (nN (mxL (dU s a k).1)=dW s a)&&decide (mnL (dDs s a k)=dL s a)
def iL (s:ByteArray) (a k:Int):List Int×Int×Int:=
 if(aA s a).2.2≠0 then([],0,(aA s a).2.2)else if(aA s a).2.1=s.size then([],0,10)else if dW s a>64 then([],0,2)
 else if dE s a k>s.size then([],0,10)else if dOk s a k=false then([],0,2)else(dDs s a k,dE s a k,0)
theorem qH2 (x v:Int):IntKind.i64.wrap (x+IntKind.i64.wrap v)=IntKind.i64.wrap (x+v):=by simp [IntKind.wrap,IntKind.bits,IntKind.signed];omega
theorem XL (s:ByteArray) (a:Int):0<=dW s a/\dW s a<256:=cM _ _
theorem qTD {s:ByteArray} {a k:Int} (h:(dU s a k).2=0):(dU s a k).1.length=k.toNat:=iC h
theorem OI (s:ByteArray) (a k:Int):dOk s a k=true↔(dU s a k).2=0/\mnL (dU s a k).1=0/\nN (mxL (dU s a k).1)=dW s a/\mnL (dDs s a k)=dL s a:=by simp [dOk,and_assoc]
theorem qJO {s:ByteArray} {a k:Int} (h:¬((dU s a k).2=0/\mnL (dU s a k).1=0/\nN (mxL (dU s a k).1)=dW s a/\mnL (dDs s a k)=dL s a)):dOk s a k=false:=by
 rw[Bool.eq_false_iff];exact fun q=>h ((OI s a k).1 q)
theorem qPV {l:List Int} {f:Int->Int} {k:Int} (h:0<=k/\k<l.length):(l.take (k+1).toNat).map f=(l.take k.toNat).map f++ [f l[k.toNat]!]:=by
 rw[nX h];simp
theorem tU (k w:Int):0<=dK k w/\dK k w<=32768:=by
 unfold dK;split
 ·rename_i h
  have h1:=(eQ k w).1 h;have h2:=qBQ h1;rw[Int.tdiv_eq_ediv_of_nonneg (by omega)];omega
 ·omega
abbrev EB:Ct:=.fn [.list (.int .i64)] (some (fun(l:List Int)=>(1<=l.length/\l.length<=1073741824))) (fun(l:List Int)=>.d (.int .i64) (mnL l))
theorem qK5:aF Tryz.prog 201 EB:=by
 refine aF.fn qDI mixed [] [] rfl rfl ?_;rintro⟨(l:List Int),_⟩ hpre;replace hpre:=hpre _ rfl;dsimp only[cu]at hpre;have hl:=hpre;refine⟨[(0,10,LA.mk [.sl 4 (.int .i64),.sl 3 (.int .i64)] (fun y=>Tag 29/\cu [.int .i64,.int .i64] (fun(i:Int) (m:Int)=>(1<=i/\i<=l.length)/\(m=mnL (l.take i.toNat))) y) (cu [.int .i64,.int .i64] (fun(i:Int) (m:Int)=>((l.length:Int)-i).toNat)) (cu [.int .i64,.int .i64] (fun(i:Int) (m:Int)=>([]:List (Nat×Nat×LA)))))],?_⟩;repeat' (first
  |(
 with_reducible refine Side.mk ⟨(⟨⟩:Tag 29),?_⟩
 dsimp only[cu,aC,aB,gts,eE,eN]
 refine⟨?_,?_⟩
 ·omega
 ·first
  |rw[HG (by omega)];rfl
  |(
  (try simp only[lK])
  rw[hm,qBM (by omega)]))
  |(
 with_reducible apply Side.mk
 (try dsimp only[cu,aC,aB,gts,loK,hiK,eE,eN])
 omega)
  |(conv=>whnf
    first
     |with_reducible first|done|exact trivial|refine NilBr.mk (fun h=>?_) ?_|apply aI|apply aH|refine aJ (by kernel_rfl) ?_|apply aK|apply bB|apply bA|apply aQ
     |((with_reducible first|apply aS|apply aR|apply aZ)<;>intro h<;>(try dsimp only[cu,eE,eN]at h)<;>(try(exfalso;omega)))
     |(
 intro yy (hy:Tag 29/\_)
 obtain⟨(i:Int),(m:Int),_⟩:=yy
 replace hy:=hy.2
 dsimp only[cu,aC,aB,gts,eE,eN]at hy
 obtain⟨hi,hm⟩:=hy)))
 all_goals(
 with_reducible apply Leaf.mk
 (try dsimp only[cu,aC,aB,gts,eE,eN]at *)
 rw[hm,List.take_of_length_le (by omega)])
abbrev qXE:Tbl:=(201,EB)::qXD
theorem qDJ:aD Tryz.prog qXE:=aD.cons qK5 qDI
abbrev JO:Ct:=.fn [.list (.int .u64)] (some (fun(l:List Int)=>(1<=l.length/\l.length<=1073741824))) (fun(l:List Int)=>.d (.int .u64) (mnL l))
theorem qPZ:aF Tryz.prog 227 JO:=by
 refine aF.fn qDJ mixed [] [] rfl rfl ?_;rintro⟨(l:List Int),_⟩ hpre;replace hpre:=hpre _ rfl;dsimp only[cu]at hpre;have hl:=hpre;refine⟨[(0,10,LA.mk [.sl 4 (.int .i64),.sl 3 (.int .u64)] (fun y=>Tag 30/\cu [.int .i64,.int .u64] (fun(i:Int) (m:Int)=>(1<=i/\i<=l.length)/\(m=mnL (l.take i.toNat))) y) (cu [.int .i64,.int .u64] (fun(i:Int) (m:Int)=>((l.length:Int)-i).toNat)) (cu [.int .i64,.int .u64] (fun(i:Int) (m:Int)=>([]:List (Nat×Nat×LA)))))],?_⟩;repeat' (first
  |(
 with_reducible refine Side.mk ⟨(⟨⟩:Tag 30),?_⟩
 dsimp only[cu,aC,aB,gts,eE,eN]
 refine⟨?_,?_⟩
 ·omega
 ·first
  |rw[HG (by omega)];rfl
  |(
  (try simp only[lK])
  rw[hm,qBM (by omega)]))
  |(
 with_reducible apply Side.mk
 (try dsimp only[cu,aC,aB,gts,loK,hiK,eE,eN])
 omega)
  |(conv=>whnf
    first
     |with_reducible first|done|exact trivial|refine NilBr.mk (fun h=>?_) ?_|apply aI|apply aH|refine aJ (by kernel_rfl) ?_|apply aK|apply bB|apply bA|apply aQ
     |((with_reducible first|apply aS|apply aR|apply aZ)<;>intro h<;>(try dsimp only[cu,eE,eN]at h)<;>(try(exfalso;omega)))
     |(
 intro yy (hy:Tag 30/\_)
 obtain⟨(i:Int),(m:Int),_⟩:=yy
 replace hy:=hy.2
 dsimp only[cu,aC,aB,gts,eE,eN]at hy
 obtain⟨hi,hm⟩:=hy)))
 all_goals(
 with_reducible apply Leaf.mk
 (try dsimp only[cu,aC,aB,gts,eE,eN]at *)
 rw[hm,List.take_of_length_le (by omega)])
abbrev qXF:Tbl:=(227,JO)::qXE
theorem qDK:aD Tryz.prog qXF:=aD.cons qPZ qDJ
abbrev JL:Ct:=.fn [.list (.int .u64)] (some (fun(l:List Int)=>(1<=l.length/\l.length<=1073741824))) (fun(l:List Int)=>.d (.int .u64) (mxL l))
theorem qPW:aF Tryz.prog 228 JL:=by
 refine aF.fn qDK mixed [] [] rfl rfl ?_;rintro⟨(l:List Int),_⟩ hpre;replace hpre:=hpre _ rfl;dsimp only[cu]at hpre;have hl:=hpre;refine⟨[(0,10,LA.mk [.sl 4 (.int .i64),.sl 3 (.int .u64)] (fun y=>Tag 31/\cu [.int .i64,.int .u64] (fun(i:Int) (m:Int)=>(1<=i/\i<=l.length)/\(m=mxL (l.take i.toNat))) y) (cu [.int .i64,.int .u64] (fun(i:Int) (m:Int)=>((l.length:Int)-i).toNat)) (cu [.int .i64,.int .u64] (fun(i:Int) (m:Int)=>([]:List (Nat×Nat×LA)))))],?_⟩;repeat' (first
  |(
 with_reducible refine Side.mk ⟨(⟨⟩:Tag 31),?_⟩
 dsimp only[cu,aC,aB,gts,eE,eN]
 refine⟨?_,?_⟩
 ·omega
 ·first
  |rw[HG (by omega)];rfl
  |(
  (try simp only[lK])
  rw[hm,qP6 (by omega)]))
  |(
 with_reducible apply Side.mk
 (try dsimp only[cu,aC,aB,gts,loK,hiK,eE,eN])
 omega)
  |(conv=>whnf
    first
     |with_reducible first|done|exact trivial|refine NilBr.mk (fun h=>?_) ?_|apply aI|apply aH|refine aJ (by kernel_rfl) ?_|apply aK|apply bB|apply bA|apply aQ
     |((with_reducible first|apply aS|apply aR|apply aZ)<;>intro h<;>(try dsimp only[cu,eE,eN]at h)<;>(try(exfalso;omega)))
     |(
 intro yy (hy:Tag 31/\_)
 obtain⟨(i:Int),(m:Int),_⟩:=yy
 replace hy:=hy.2
 dsimp only[cu,aC,aB,gts,eE,eN]at hy
 obtain⟨hi,hm⟩:=hy)))
 all_goals(
 with_reducible apply Leaf.mk
 (try dsimp only[cu,aC,aB,gts,eE,eN]at *)
 rw[hm,List.take_of_length_le (by omega)])
abbrev qXG:Tbl:=(228,JL)::qXF
theorem qDL:aD Tryz.prog qXG:=aD.cons qPW qDK
abbrev JV:Ct:=.fn [.str,.int .i64,.int .i64] (some (fun(s:ByteArray) (a:Int) (k:Int)=>(s.size<=288230376151711744)/\(1<=k/\k<=32))) (fun(s:ByteArray) (a:Int) (k:Int)=>.tup [.list (.int .i64),.int .i64,.int .i64] ((iL s a k).1,(iL s a k).2.1,(iL s a k).2.2,()))
theorem qQF:aF Tryz.prog 213 JV:=by
 refine aF.fn qDL mixed [(0,20,3),(0,20,4)] [] rfl rfl ?_;rintro⟨(s:ByteArray),(a:Int),(k:Int),_⟩ hpre;replace hpre:=hpre _ rfl;dsimp only[cu]at hpre;obtain⟨hs,hk⟩:=hpre;refine⟨[(0,36,LA.mk [.sl 77 (.int .i64),.lst 15 (.int .i64) 2] (fun y=>Tag 32/\cu [.int .i64,.list (.int .i64)] (fun(i:Int) (D:List Int)=>(0<=i/\i<=(bN (s.extract ((aA s a).2.1+1).toNat ((aA s a).2.1+1+dK k (aG s (aA s a).2.1.toNat)).toNat) k (aG s (aA s a).2.1.toNat)).1.length)/\(D=((bN (s.extract ((aA s a).2.1+1).toNat ((aA s a).2.1+1+dK k (aG s (aA s a).2.1.toNat)).toNat) k (aG s (aA s a).2.1.toNat)).1.take i.toNat).map (fun v=>IntKind.i64.wrap (pK (aA s a).1+v)))) y) (cu [.int .i64,.list (.int .i64)] (fun(i:Int) (D:List Int)=>((bN (s.extract ((aA s a).2.1+1).toNat ((aA s a).2.1+1+dK k (aG s (aA s a).2.1.toNat)).toNat) k (aG s (aA s a).2.1.toNat)).1.length-i).toNat)) (cu [.int .i64,.list (.int .i64)] (fun(i:Int) (D:List Int)=>([]:List (Nat×Nat×LA)))))],?_⟩;repeat' (first
  |(
 with_reducible refine Side.mk ⟨(⟨⟩:Tag 32),?_⟩
 dsimp only[cu,aC,aB,gts,eE,eN]
 refine⟨?_,?_⟩
 ·omega
 ·first
  |rfl
  |(
  (try simp only[lK])
  rw[hD,qPV (by omega),qH2]))
  |(
 with_reducible apply Side.mk
 (try dsimp only[cu,aC,aB,gts,loK,hiK,eE,eN])
 first
 |done
 |omega
 |exact Eq.refl _
 |(
  have hg:=aX s a;have hw:=XL s a;have hn:=tU k (aG s (aA s a).2.1.toNat);have hg0:(aA s a).2.2=0:=by assumption
  have hok:=bO hg0;first
  |omega
  |(
   have eW:dW s a=aG s (aA s a).2.1.toNat:=rfl;have eE:dE s a k=(aA s a).2.1+1+dK k (aG s (aA s a).2.1.toNat):=rfl;have eU:dU s a k=bN (s.extract ((aA s a).2.1+1).toNat ((aA s a).2.1+1+dK k (aG s (aA s a).2.1.toNat)).toNat) k (aG s (aA s a).2.1.toNat):=rfl;omega))
 |exact qP5 (WL _ _ _)
 |(
  have hu0:(bN (s.extract ((aA s a).2.1+1).toNat ((aA s a).2.1+1+dK k (aG s (aA s a).2.1.toNat)).toNat) k (aG s (aA s a).2.1.toNat)).2=0:=by with_reducible assumption
  have hul:=iC hu0;omega)
 |(
  have hDl:=congrArg List.length hD;rw[List.length_map,List.length_take]at hDl;have hu0:(bN (s.extract ((aA s a).2.1+1).toNat ((aA s a).2.1+1+dK k (aG s (aA s a).2.1.toNat)).toNat) k (aG s (aA s a).2.1.toNat)).2=0:=by with_reducible assumption
  have hul:=iC hu0;(try simp only[List.length_cons,List.length_nil]);omega)
 |(
  have hg:=aX s a;have hw:=XL s a;have hn:=tU k (aG s (aA s a).2.1.toNat);have hg0:(aA s a).2.2=0:=by assumption
  have hok:=bO hg0;have eW:dW s a=aG s (aA s a).2.1.toNat:=rfl;have eE:dE s a k=(aA s a).2.1+1+dK k (aG s (aA s a).2.1.toNat):=rfl;have eU:dU s a k=bN (s.extract ((aA s a).2.1+1).toNat ((aA s a).2.1+1+dK k (aG s (aA s a).2.1.toNat)).toNat) k (aG s (aA s a).2.1.toNat):=rfl;simp only[ByteArray.size_extract];omega))
  |(conv=>whnf
    first
     |with_reducible first|done|exact trivial|refine NilBr.mk (fun h=>?_) ?_|apply aI|apply aH|refine aJ (by kernel_rfl) ?_|apply aK|apply bB|apply bA|apply aQ
     |((with_reducible first|apply aS|apply aR|apply aZ)<;>intro h<;>(try dsimp only[cu,eE,eN]at h)<;>(try(exfalso;omega)))
     |(
 intro yy (hy:Tag 32/\_)
 obtain⟨(i:Int),(D:List Int),_⟩:=yy
 replace hy:=hy.2
 dsimp only[cu,aC,aB,gts,eE,eN]at hy
 obtain⟨hi,hD⟩:=hy)))
 all_goals(
 with_reducible apply Leaf.mk
 (try dsimp only[cu,aC,aB,gts,eE,eN]at *)
 first
 |(
  have e1:(aA s a).2.2≠0:=by assumption
  rw[iL,if_pos e1])
 |(
  have hg:=aX s a;have hw:=XL s a;have hn:=tU k (aG s (aA s a).2.1.toNat);have hg0:(aA s a).2.2=0:=by assumption
  have hok:=bO hg0;first
  |(
   have e1:¬(aA s a).2.2≠0:=fun q=>q (by assumption)
   have e2:(aA s a).2.1=s.size:=by omega
   rw[iL,if_neg e1,if_pos e2])
  |(
   have eW:dW s a=aG s (aA s a).2.1.toNat:=rfl;have eE:dE s a k=(aA s a).2.1+1+dK k (aG s (aA s a).2.1.toNat):=rfl;have eU:dU s a k=bN (s.extract ((aA s a).2.1+1).toNat ((aA s a).2.1+1+dK k (aG s (aA s a).2.1.toNat)).toNat) k (aG s (aA s a).2.1.toNat):=rfl;have e1:¬(aA s a).2.2≠0:=fun q=>q (by assumption)
   have e2:¬(aA s a).2.1=s.size:=by omega
   first
   |(
    have e3:dW s a>64:=by omega
    rw[iL,if_neg e1,if_neg e2,if_pos e3])
   |(
    have e3:¬dW s a>64:=by omega
    first
    |(
     have e4:dE s a k>s.size:=by omega
     rw[iL,if_neg e1,if_neg e2,if_neg e3,if_pos e4])
    |(
     have e4:¬dE s a k>s.size:=by omega
     first
     |(
      have e5:dOk s a k=false:=by
       refine qJO (fun q=>?_);obtain⟨q1,q2,q3,q4⟩:=q;rw[eU]at q1 q2 q3;first|(simp_all;done)|omega
      rw[iL,if_neg e1,if_neg e2,if_neg e3,if_neg e4,if_pos e5])
     |(
      have hDD:D=dDs s a k:=by rw[hD,List.take_of_length_le (by omega)];rfl
      first
      |(
       have e5:dOk s a k=false:=by
        refine qJO (fun q=>?_);obtain⟨q1,q2,q3,q4⟩:=q;rw[<-hDD]at q4;first|contradiction|(exact absurd q4 (by assumption))
       rw[iL,if_neg e1,if_neg e2,if_neg e3,if_neg e4,if_pos e5])
      |(
       have e5:¬dOk s a k=false:=by
        rw[Bool.eq_false_iff];intro q;apply q;rw[OI,<-hDD,eU,eW];first|(exact⟨by assumption,by assumption,by assumption,by assumption⟩)|(simp_all;done)
       rw[iL,if_neg e1,if_neg e2,if_neg e3,if_neg e4,if_neg e5];(try rw[hDD]);(try rfl))))))))
abbrev qXH:Tbl:=(213,JV)::qXG
theorem qDM:aD Tryz.prog qXH:=aD.cons qQF qDL
def mH (M:List Int):Int:=M[M.length-1]!
def vS:Int->List Int->List Int
 |_,[]=>[]
 |x,d::r=>IntKind.i64.wrap (x+d)::vS (IntKind.i64.wrap (x+d)) r
theorem nW:∀(ds:List Int) (x:Int),(vS x ds).length=ds.length
 | [],_=>rfl
 |d::r,x=>by simp [vS,nW r]
theorem qGO (M:List Int) (w:Int):mH (M++ [w])=w:=by
 unfold mH;rw[getElem!_pos _ _ (by simp)];simp
theorem UQ:∀(ds M:List Int) (d:Int),M++vS (mH M) (ds++ [d])=(M++vS (mH M) ds)++ [IntKind.i64.wrap (mH (M++vS (mH M) ds)+d)]
 | [],M,d=>by simp [vS]
 |e::r,M,d=>by
  have h:=UQ r (M++ [IntKind.i64.wrap (mH M+e)]) d;rw[qGO]at h;simp only[List.cons_append,vS];simpa using h
theorem qMY {M B:List Int} {i:Int} (h:0<=i/\i<B.length):M++vS (mH M) (B.take (i+1).toNat)=(M++vS (mH M) (B.take i.toNat))++ [IntKind.i64.wrap (mH (M++vS (mH M) (B.take i.toNat))+B[i.toNat]!)]:=by
 rw[nX h,UQ]
theorem zK {n:Int} {M:List Int} (h:(M.length:Int)<n):1<=bR 32 (n-(M.length:Int))/\bR 32 (n-(M.length:Int))<=32/\M.length+bR 32 (n-(M.length:Int))<=n:=by unfold bR;split<;>omega
theorem tH {s:ByteArray} {a k:Int} (h:(iL s a k).2.2=0):(iL s a k).1.length=k.toNat/\0<=(iL s a k).2.1/\(iL s a k).2.1<=s.size:=by
 unfold iL at h ⊢;split at h
 ·exact absurd h (by assumption)
 ·rename_i h1
  rw[if_neg h1];split at h
  ·exact absurd h (by decide)
  ·rename_i h2
   rw[if_neg h2];split at h
   ·exact absurd h (by decide)
   ·rename_i h3
    rw[if_neg h3];split at h
    ·exact absurd h (by decide)
    ·rename_i h4
     rw[if_neg h4];split at h
     ·exact absurd h (by decide)
     ·rename_i h5
      rw[if_neg h5];have h6:=(OI s a k).1 (by simpa using h5);have h7:=qTD h6.1;have h8:=bO (Decidable.not_not.1 h1);have h9:=tU k (dW s a);have h10:dE s a k=(aA s a).2.1+1+dK k (dW s a):=rfl;refine⟨by simp [dDs,h7],?_,?_⟩
      ·show 0<=dE s a k;omega
      ·show dE s a k<=s.size;omega
def dd (s:ByteArray) (n a:Int) (M:List Int):List Int×Int:=
 if h:(M.length:Int)<n then
  if h2:(iL s a (bR 32 (n-(M.length:Int)))).2.2=0 then dd s n (iL s a (bR 32 (n-(M.length:Int)))).2.1 (M++vS (mH M) (iL s a (bR 32 (n-(M.length:Int)))).1)
  else([],(iL s a (bR 32 (n-(M.length:Int)))).2.2)
 else if a<s.size then([],2)else(M,0)
termination_by (n-M.length).toNat
decreasing_by
 have:=zK h;have:=(tH h2).1;simp only[List.length_append,nW];omega
def cF (s:ByteArray) (n:Int):List Int×Int:=
 if n<0\/n>4096 then([],4)else if n=0 then(if s=⟨#[]⟩then([],0)else([],2))
 else if(aA s 0).2.2≠0 then([],(aA s 0).2.2)else dd s n (aA s 0).2.1 [pK (aA s 0).1]
theorem qTE {s:ByteArray} {n a:Int} {M:List Int} (h:(M.length:Int)<n) (h2:¬(iL s a (bR 32 (n-(M.length:Int)))).2.2=0):dd s n a M=([],(iL s a (bR 32 (n-(M.length:Int)))).2.2):=by rw[dd,dif_pos h,dif_neg h2]
theorem qOM {s:ByteArray} {n a:Int} {M:List Int} (h:(M.length:Int)<n) (h2:(iL s a (bR 32 (n-(M.length:Int)))).2.2=0):dd s n a M=dd s n (iL s a (bR 32 (n-(M.length:Int)))).2.1 (M++vS (mH M) (iL s a (bR 32 (n-(M.length:Int)))).1):=by rw[dd,dif_pos h,dif_pos h2]
theorem qJW {s:ByteArray} {n a:Int} {M:List Int} (h:¬(M.length:Int)<n):dd s n a M=if a<s.size then([],2)else(M,0):=by rw[dd,dif_neg h]
theorem qPS {Q:List Int} (h:0<Q.length):Q[((Q.length:Int)-1).toNat]! =mH Q:=by
 unfold mH;rw[show((Q.length:Int)-1).toNat=Q.length-1 by omega]
abbrev IZ:Ct:=.fn [.str,.int .i64] (some (fun(s:ByteArray) (n:Int)=>(s.size<=288230376151711744))) (fun(s:ByteArray) (n:Int)=>.tup [.list (.int .i64),.int .i64] ((cF s n).1,(cF s n).2,()))
theorem qON:aF Tryz.prog 191 IZ:=by
 refine aF.fn qDM mixed [(0,10,3500009),(0,11,3500009),(0,13,3500009),(0,19,8)] [] rfl rfl ?_;rintro⟨(s:ByteArray),(n:Int),_⟩ hpre;replace hpre:=hpre _ rfl;dsimp only[cu]at hpre;have hs:=hpre;refine⟨[(0,22,LA.mk [.sl 7 (.int .i64),.nls 9 (.int .i64) 2] (fun y=>Tag 33/\cu [.int .i64,.list (.int .i64)] (fun(a:Int) (M:List Int)=>(dd s n (aA s 0).2.1 [pK (aA s 0).1]=dd s n a M)/\(1<=M.length/\(M.length:Int)<=n)) y) (cu [.int .i64,.list (.int .i64)] (fun(a:Int) (M:List Int)=>(n-(M.length:Int)).toNat)) (cu [.int .i64,.list (.int .i64)] (fun(a:Int) (M:List Int)=>([(0,34,LA.mk [.sl 63 (.int .i64),.nls 9 (.int .i64) 2] (fun y=>Tag 34/\cu [.int .i64,.list (.int .i64)] (fun(i:Int) (Q:List Int)=>(0<=i/\i<=(iL s a (bR 32 (n-(M.length:Int)))).1.length)/\(Q=M++vS (mH M) ((iL s a (bR 32 (n-(M.length:Int)))).1.take i.toNat))) y) (cu [.int .i64,.list (.int .i64)] (fun(i:Int) (Q:List Int)=>(((iL s a (bR 32 (n-(M.length:Int)))).1.length:Int)-i).toNat)) (cu [.int .i64,.list (.int .i64)] (fun(i:Int) (Q:List Int)=>([]:List (Nat×Nat×LA)))))]:List (Nat×Nat×LA)))))],?_⟩;repeat' (first
  |(
 with_reducible refine Side.mk ⟨(⟨⟩:Tag 33),?_⟩
 dsimp only[cu,aC,aB,gts,eE,eN]
 refine⟨?_,?_⟩
 ·first
  |rfl
  |(
  have hk:=zK (n:=n) (M:=M) (by omega)
  have hb0:(iL s a (bR 32 (n-(M.length:Int)))).2.2=0:=by assumption
  have hbk:=tH hb0
  have hi2:i.toNat=(iL s a (bR 32 (n-(M.length:Int)))).1.length:=by omega
  rw[hi2,List.take_length]at hQ
  rw[hM,qOM (by omega) hb0,<-hQ])
 ·first
  |simp;omega
  |(
  have hk:=zK (n:=n) (M:=M) (by omega)
  have hb0:(iL s a (bR 32 (n-(M.length:Int)))).2.2=0:=by assumption
  have hbk:=tH hb0
  have hQl:=congrArg List.length hQ
  simp only[List.length_append,nW,List.length_take]at hQl
  omega))
  |(
 with_reducible refine Side.mk ⟨(⟨⟩:Tag 34),?_⟩
 dsimp only[cu,aC,aB,gts,eE,eN]
 refine⟨?_,?_⟩
 ·omega
 ·first
  |simp [vS];done
  |(
  have hk:=zK (n:=n) (M:=M) (by omega)
  have hb0:(iL s a (bR 32 (n-(M.length:Int)))).2.2=0:=by assumption
  have hbk:=tH hb0
  have hQl:=congrArg List.length hQ
  simp only[List.length_append,nW,List.length_take]at hQl
  rw[qMY (by omega),<-hQ,qPS (by omega)]))
  |(
 with_reducible apply Side.mk
 (try dsimp only[cu,aC,aB,gts,loK,hiK,eE,eN])
 first
 |done
 |omega
 |exact Eq.refl _
 |exact aX _ _
 |(
  have hk:=zK (n:=n) (M:=M) (by omega);first
  |exact⟨hs,by omega⟩
  |(
   have hb0:(iL s a (bR 32 (n-(M.length:Int)))).2.2=0:=by assumption
   have hbk:=tH hb0;have hQl:=congrArg List.length hQ;simp only[List.length_append,nW,List.length_take]at hQl;first
   |omega
   |(
    (try simp only[List.length_cons,List.length_nil]);omega))))
  |(conv=>whnf
    first
     |with_reducible first|done|exact trivial|refine NilBr.mk (fun h=>?_) ?_|apply aI|apply aH|refine aJ (by kernel_rfl) ?_|apply aK|apply bB|apply bA|apply aQ
     |((with_reducible first|apply aS|apply aR|apply aZ)<;>intro h<;>(try dsimp only[cu,eE,eN]at h)<;>(try(exfalso;omega)))
     |(
 intro yy (hy:Tag 33/\_)
 obtain⟨(a:Int),(M:List Int),_⟩:=yy
 replace hy:=hy.2
 dsimp only[cu,aC,aB,gts,eE,eN]at hy
 obtain⟨hM,hl⟩:=hy)
     |(
 intro yy (hy:Tag 34/\_)
 obtain⟨(i:Int),(Q:List Int),_⟩:=yy
 replace hy:=hy.2
 dsimp only[cu,aC,aB,gts,eE,eN]at hy
 obtain⟨hi,hQ⟩:=hy)))
 all_goals(
 with_reducible apply Leaf.mk
 (try dsimp only[cu,aC,aB,gts,eE,eN]at *)
 first
 |(
  have q1:n<0\/n>4096:=by omega
  rw[cF,if_pos q1])
 |(
  have q1:¬(n<0\/n>4096):=by omega
  first
  |(
   have q2:n=0:=by first|assumption|omega
   first
   |(
    have q3:¬s=⟨#[]⟩:=by first|assumption|(simp_all;done)
    rw[cF,if_neg q1,if_pos q2,if_neg q3])
   |(
    have q3:s=⟨#[]⟩:=by first|assumption|(simp_all;done)
    rw[cF,if_neg q1,if_pos q2,if_pos q3]))
  |(
   have q2:¬n=0:=by omega
   first
   |(
    have q3:(aA s 0).2.2≠0:=by assumption
    rw[cF,if_neg q1,if_neg q2,if_pos q3])
   |(
    have q3:¬(aA s 0).2.2≠0:=fun q=>q (by assumption)
    first
    |(
     have hb:¬(iL s a (bR 32 (n-(M.length:Int)))).2.2=0:=by assumption
     rw[cF,if_neg q1,if_neg q2,if_neg q3,hM,qTE (by omega) hb];(try rfl))
    |(
     have ha:a<s.size:=by omega
     rw[cF,if_neg q1,if_neg q2,if_neg q3,hM,qJW (by omega),if_pos ha])
    |(
     have ha:¬a<s.size:=by omega
     rw[cF,if_neg q1,if_neg q2,if_neg q3,hM,qJW (by omega),if_neg ha])))))
abbrev qXI:Tbl:=(191,IZ)::qXH
theorem qDN:aD Tryz.prog qXI:=aD.cons qON qDM
theorem fmin:∀(l:List Int) (x:Int),l.foldl bR x<=x/\(∀y,y∈l->l.foldl bR x<=y)/\(l.foldl bR x=x\/l.foldl bR x∈l)
 | [],x=>⟨Int.le_refl _,by simp,.inl rfl⟩
 |z::l,x=>by
  obtain⟨h1,h2,h3⟩:=fmin l (bR x z);have h4:bR x z<=x/\bR x z<=z/\(bR x z=x\/bR x z=z):=by unfold bR;split<;>omega
  refine⟨by rw[List.foldl_cons];omega,fun y hy=>?_,?_⟩
  ·rw[List.foldl_cons]
   rcases List.mem_cons.1 hy with q|q
   ·subst q;omega
   ·exact h2 y q
  ·rw[List.foldl_cons]
   rcases h3 with q|q
   ·rcases h4.2.2 with p|p
    ·left;rw[q,p]
    ·right;rw[q,p];simp
   ·right;simp [q]
theorem qP1 {l:List Int} (h:l≠ []):mnL l∈l:=by
 cases l with
 |nil=>exact absurd rfl h
 |cons x l=>
  obtain⟨h1,h2,h3⟩:=fmin l x;show List.foldl bR x l∈_;rcases h3 with q|q
  ·rw[q];simp
  ·simp [q]
def mwL (U:List Int):Int:=U.foldl (fun w v=>dX w (nN v)) 0
theorem vN {b:Bool} (h:(!b)=false):b=true:=by cases b<;>simp_all
def four (v:Int):List Int:=[IntKind.u8.wrap v,IntKind.u8.wrap (iV .u32 v 8),IntKind.u8.wrap (iV .u32 v 16),IntKind.u8.wrap (iV .u32 v 24)]
def cB (s:ByteArray):ByteArray:=s++aV (four (iM s))
theorem dM (v:Int):(aV (put v)).size<=10/\1<=(aV (put v)).size:=by rw[cO];exact bL v
theorem pR (v:Int):(aV (four v)).size=4:=rfl
def cQ (s:ByteArray) (i:Int):Int:=bOr .u32 (bOr .u32 (bOr .u32 (aG s i.toNat) (mW .u32 (aG s (i+1).toNat) 8)) (mW .u32 (aG s (i+2).toNat) 16)) (mW .u32 (aG s (i+3).toNat) 24)
theorem GL {a b:Int} {n:Nat} (hn:n<=32) (ha:0<=a/\a<2^n) (hb:0<=b) (h:a+b*2^n<4294967296):bOr .u32 a (mW .u32 b n)=a+b*2^n:=by
 have h0:0<=b*2^n:=Int.mul_nonneg hb (Int.le_of_lt (Int.pow_pos (by decide)));rw[qWA hn ⟨h0,by omega⟩,qVD (by omega) (by omega)];have e:(b*2^n).toNat=b.toNat*2^n:=by
  obtain⟨m,rfl⟩:=Int.eq_ofNat_of_zero_le hb;have:((m:Int)*2^n)=((m*2^n:Nat):Int):=by push_cast;rfl
  rw[this];rfl
 have ha':a.toNat<2^n:=by
  have:((2^n:Nat):Int)=2^n:=by push_cast;rfl
  omega
 rw[e,qLJ _ _ _ ha'];have:((b.toNat*2^n:Nat):Int)=b*2^n:=by push_cast;rw[Int.toNat_of_nonneg hb]
 omega
theorem qRL {a b c d:Int} (ha:0<=a/\a<256) (hb:0<=b/\b<256) (hc:0<=c/\c<256) (hd:0<=d/\d<256) :
  bOr .u32 (bOr .u32 (bOr .u32 a (mW .u32 b 8)) (mW .u32 c 16)) (mW .u32 d 24)=a+b*256+c*65536+d*16777216:=by
 have p1:(2:Int)^8=256:=by decide
 have p2:(2:Int)^16=65536:=by decide
 have p3:(2:Int)^24=16777216:=by decide
 have e1:=GL (a:=a) (b:=b) (n:=8) (by omega) (by omega) (by omega) (by omega);rw[p1]at e1;have e2:=GL (a:=a+b*256) (b:=c) (n:=16) (by omega) (by omega) (by omega) (by omega);rw[p2]at e2;have e3:=GL (a:=a+b*256+c*65536) (b:=d) (n:=24) (by omega) (by omega) (by omega) (by omega);rw[p3]at e3;rw[show((8:Int))=((8:Nat):Int)from rfl,e1,show((16:Int))=((16:Nat):Int)from rfl,e2,show((24:Int))=((24:Nat):Int)from rfl,e3]
theorem qR2 {v:Int} (h:0<=v):iV .u32 v 8=v/256/\iV .u32 v 16=v/65536/\iV .u32 v 24=v/16777216:=by
 unfold iV;refine⟨?_,?_,?_⟩<;>rw[Int.fdiv_eq_ediv_of_nonneg _ (by decide)]<;>rfl
theorem sD (v:Int):∀b,b∈four v->0<=b/\b<256:=by
 intro b hb;unfold four at hb;rcases List.mem_cons.1 hb with h|hb
 ·rw[h];exact oX v
 rcases List.mem_cons.1 hb with h|hb
 ·rw[h];exact oX _
 rcases List.mem_cons.1 hb with h|hb
 ·rw[h];exact oX _
 rcases List.mem_cons.1 hb with h|hb
 ·rw[h];exact oX _
 cases hb
theorem lB (b:ByteArray):(cB b).size=b.size+4:=by unfold cB;rw[ByteArray.size_append,pR]
theorem qHG (b:ByteArray):(cB b).extract 0 (((cB b).size:Int)-4).toNat=b:=by
 apply vT;have e:∀(x:ByteArray) (n:Nat),aN (x.extract 0 n)=(aN x).take n:=fun x n=>by unfold aN;simp [List.map_take]
 have hz:(cB b).size=b.size+4:=by unfold cB;rw[ByteArray.size_append,pR]
 rw[e,hz,show(((b.size+4:Nat):Int)-4).toNat=b.size by omega];unfold cB;rw[bE,List.take_append_of_le_length (by rw[bF];omega),List.take_of_length_le (by rw[bF];omega)]
def gX (s:ByteArray):ByteArray:=(s.extract 0 ((s.size:Int)-4).toNat)
def gK (s:ByteArray):Int:=if s.size<=4 then 10 else if cB (gX s)≠s then 9 else 0
theorem IR {s:ByteArray} (h:4<=s.size):((gX s).size:Int)=(s.size:Int)-4:=by
 unfold gX;rw[ByteArray.size_extract];omega
theorem OB (s:ByteArray):(gX s).size<=s.size:=by unfold gX;rw[ByteArray.size_extract];omega
theorem qUD {s:ByteArray} (h:s.size<=4):gK s=10:=by rw[gK,if_pos h]
theorem qUE {s:ByteArray} (h:¬s.size<=4) (h1:¬cB (gX s)=s):gK s=9:=by rw[gK,if_neg h,if_pos h1]
theorem qUF {s:ByteArray} (h:¬s.size<=4) (h1:cB (gX s)=s):gK s=0:=by rw[gK,if_neg h,if_neg (fun q=>q h1)]
theorem qBX {s:ByteArray} (h:gK s=0):¬s.size<=4/\cB (gX s)=s:=by
 unfold gK at h;split at h
 ·cases h
 ·rename_i q
  split at h
  ·cases h
  ·rename_i q1;exact⟨q,Decidable.not_not.1 q1⟩
abbrev KE:Ct:=.fn [.str] (some (fun(s:ByteArray)=>(s.size<=4611686018427387904))) (fun(s:ByteArray)=>.d .str (cB s))
theorem qQ2:aF Tryz.prog 113 KE:=by
 refine aF.fn qDN mixed [] [] rfl rfl ?_;rintro⟨(s:ByteArray),_⟩ hpre;replace hpre:=hpre _ rfl;dsimp only[cu]at hpre;have hs:=hpre;refine⟨[],?_⟩;repeat' (first
  |(
 with_reducible apply Side.mk
 (try dsimp only[cu,aC,aB,gts,loK,hiK,eE,eN])
 first
 |omega
 |exact Eq.refl _
 |(simp only[cO,List.length_cons,List.length_nil];omega))
  |(conv=>whnf
    first
     |with_reducible first|done|exact trivial|refine NilBr.mk (fun h=>?_) ?_|apply aI|apply aH|refine aJ (by kernel_rfl) ?_|apply aK|apply bB|apply bA|apply aQ
     |((with_reducible first|apply aS|apply aR|apply aZ)<;>intro h<;>(try dsimp only[cu,eE,eN]at h)<;>(try(exfalso;omega)))))
 all_goals(
 with_reducible apply Leaf.mk
 (try dsimp only[cu,aC,aB,gts,eE,eN]at *)
 rfl)
abbrev qXJ:Tbl:=(113,KE)::qXI
theorem qDO:aD Tryz.prog qXJ:=aD.cons qQ2 qDN
abbrev JG:Ct:=.fn [.int .u32] (none) (fun(v:Int)=>.d .str (aV (four v)))
theorem qPB:aF Tryz.prog 44 JG:=by
 refine aF.fn qDO mixed [] [] rfl rfl ?_;rintro⟨(v:Int),_⟩ -;refine⟨[],?_⟩;repeat' (first
  |(
 with_reducible apply Side.mk
 (try dsimp only[cu,aC,aB,gts,loK,hiK,eE,eN])
 first
 |omega
 |(exact Eq.refl _))
  |(conv=>whnf
    first
     |with_reducible first|done|exact trivial|refine NilBr.mk (fun h=>?_) ?_|apply aI|apply aH|refine aJ (by kernel_rfl) ?_|apply aK|apply bB|apply bA|apply aQ
     |((with_reducible first|apply aS|apply aR|apply aZ)<;>intro h<;>(try dsimp only[cu,eE,eN]at h)<;>(try(exfalso;omega)))))
 all_goals(
 with_reducible apply Leaf.mk
 (try dsimp only[cu,aC,aB,gts,eE,eN]at *)
 rfl)
abbrev qXK:Tbl:=(44,JG)::qXJ
theorem qDP:aD Tryz.prog qXK:=aD.cons qPB qDO
abbrev EF:Ct:=.fn [.str] (some (fun(s:ByteArray)=>(s.size<=4611686018427387904))) (fun(s:ByteArray)=>.tup [.str,.int .i64] (if gK s=0 then gX s else EMP,gK s,()))
theorem qLI:aF Tryz.prog 133 EF:=by
 refine aF.fn qDP mixed [] [] rfl rfl ?_;rintro⟨(s:ByteArray),_⟩ hpre;replace hpre:=hpre _ rfl;dsimp only[cu]at hpre;have hs:=hpre;refine⟨[],?_⟩;repeat' (first
  |(
 with_reducible apply Side.mk
 (try dsimp only[cu,aC,aB,gts,loK,hiK,eE,eN])
 first
 |omega
 |(
  have hbl:=OB s;exact Nat.le_trans hbl hs))
  |(conv=>whnf
    first
     |with_reducible first|done|exact trivial|refine NilBr.mk (fun h=>?_) ?_|apply aI|apply aH|refine aJ (by kernel_rfl) ?_|apply aK|apply bB|apply bA|apply aQ
     |((with_reducible first|apply aS|apply aR|apply aZ)<;>intro h<;>(try dsimp only[cu,eE,eN]at h)<;>(try(exfalso;omega)))))
 all_goals(
 with_reducible apply Leaf.mk
 (try dsimp only[cu,aC,aB,gts,eE,eN]at *)
 first
 |(
  have hb:gX s=(s.extract 0 ((s.size:Int)-4).toNat):=rfl;first
  |(
   have h:=qUD (s:=s) (by omega);rw[h];(try rfl))
  |(
   have h:=qUE (s:=s) (by omega) (by rw[hb];with_reducible assumption);rw[h];(try rfl))
  |(
   have h1:cB (s.extract 0 ((s.size:Int)-4).toNat)=s:=by first|with_reducible assumption|(refine Decidable.not_not.1 ?_;with_reducible assumption)
   have h:=qUF (s:=s) (by omega) (by rw[hb];exact h1);rw[h];(try rfl))))
abbrev qXL:Tbl:=(133,EF)::qXK
theorem qDQ:aD Tryz.prog qXL:=aD.cons qLI qDP
def dfs (l:List Int):List Int:=(List.range (l.length-1)).map fun j=>IntKind.i64.wrap (l[j+1]! - l[j]!)
theorem wY (l:List Int):(dfs l).length=l.length-1:=by simp [dfs]
theorem qOS {l:List Int} {j:Nat} (h:j+1<l.length):(dfs l)[j]! =IntKind.i64.wrap (l[j+1]! - l[j]!):=by
 rw[getElem!_pos _ _ (by rw[wY];omega)];simp [dfs]
def usL (m:Int) (D:List Int):List Int:=D.map fun d=>IntKind.u64.wrap (IntKind.i64.wrap (d-m))
def qI5 (D:List Int):ByteArray:=(aV (put (fY (mnL D)))++aV [IntKind.u8.wrap (mwL (usL (mnL D) D))])++(pV (usL (mnL D) D) (mwL (usL (mnL D) D))).1
def uV (D:List Int):ByteArray:=if h:D.length=0 then ByteArray.empty else qI5 (D.take 32)++uV (D.drop 32)
termination_by D.length
decreasing_by simp;omega
def jU (l:List Int):ByteArray:=if l.length=0\/l.length>4096 then⟨#[]⟩else aV (put (fY l[0]!))++uV (dfs l)
def fZ (l:List Int) (i:Int):List Int:=((dfs l).drop (i-1).toNat).take 32
theorem kM {l:List Int} {i:Int} (h:1<=i/\i<l.length):((fZ l i).length:Int)=bR (i+32) l.length-i:=by
 unfold fZ bR;rw[List.length_take,List.length_drop,wY];split<;>omega
theorem zC {l:List Int} {i k:Int} (h:1<=i/\i<=k/\k<bR (i+32) l.length):(fZ l i)[(k-i).toNat]! =IntKind.i64.wrap (l[k.toNat]! - l[(k-1).toNat]!):=by
 have h2:k<l.length/\k<i+32:=by unfold bR at h;split at h<;>omega
 have e:=qOS (l:=l) (j:=(k-1).toNat) (by omega);rw[show(k-1).toNat+1=k.toNat by omega]at e;rw[<-e];unfold fZ;rw[List.getElem!_eq_getElem?_getD,List.getElem?_take,if_pos (by omega),List.getElem?_drop,show(i-1).toNat+(k-i).toNat=(k-1).toNat by omega,List.getElem!_eq_getElem?_getD]
theorem XU {l:List Int} {i:Int} (h:1<=i/\i<l.length):uV ((dfs l).drop (i-1).toNat)=qI5 (fZ l i)++uV ((dfs l).drop (i+32-1).toNat):=by
 rw[uV,dif_neg (by rw[List.length_drop,wY];omega),List.drop_drop,show(i-1).toNat+32=(i+32-1).toNat by omega];rfl
theorem qGB {l:List Int} {i:Int} (h:¬i<l.length):uV ((dfs l).drop (i-1).toNat)=ByteArray.empty:=by
 rw[uV,dif_pos (by rw[List.length_drop,wY];omega)]
theorem tQ {D:List Int} (h:1<=D.length):D.foldl bR D[0]! =mnL D:=by
 cases D with
 |nil=>simp at h
 |cons x r=>
  show List.foldl bR (bR x x) r=List.foldl bR x r;have e:bR x x=x:=by unfold bR;split<;>rfl
  rw[e]
theorem XY {D:List Int} {x j:Int} {f:Int->Int->Int} (h:0<=j/\j<D.length):(D.take (j+1).toNat).foldl f x=f ((D.take j.toNat).foldl f x) D[j.toNat]!:=by
 rw[nX h];simp
theorem qNM {D:List Int} {m j:Int} (h:0<=j/\j<D.length):usL m (D.take (j+1).toNat)=usL m (D.take j.toNat)++ [IntKind.u64.wrap (IntKind.i64.wrap (D[j.toNat]! - m))]:=by
 unfold usL;rw[nX h];simp
theorem qRE (m:Int) (D:List Int) (i:Nat):0<=(usL m D)[i]! /\(usL m D)[i]! <18446744073709551616:=by
 by_cases h:i<(usL m D).length
 ·rw[getElem!_pos (usL m D) i h]
  simp only[usL,List.getElem_map];exact qE _
 ·rw[getElem!_neg (usL m D) i h];exact⟨by decide,by decide⟩
theorem qP3 (U:List Int) (v:Int):mwL (U++ [v])=dX (mwL U) (nN v):=by simp [mwL]
theorem qFU (D:List Int):(qI5 D).size<=32779:=by
 unfold qI5;have h1:=dM (fY (mnL D));have h2:=nR (usL (mnL D) D) (mwL (usL (mnL D) D));rw[ByteArray.size_append,ByteArray.size_append,cO [_]];simp only[List.length_cons,List.length_nil];omega
theorem FO:∀(n:Nat) (D:List Int),D.length<=n->(uV D).size<=32779*n
 |n,D,h=>by
  rw[uV];split
  ·exact Nat.zero_le _
  ·have:=qFU (D.take 32)
   rw[ByteArray.size_append];obtain⟨m,rfl⟩:∃m,n=m+1:=⟨n-1,by omega⟩
   have:=FO m (D.drop 32) (by simp;omega);omega
theorem HZ (l:List Int):(jU l).size<=134262794:=by
 unfold jU;split
 ·exact Nat.zero_le _
 ·have h1:=dM (fY l[0]!)
  have h2:=FO 4096 (dfs l) (by rw[wY];omega);rw[ByteArray.size_append];omega
theorem GJ (u:UInt8):(ByteArray.mk #[u]).size=1:=rfl
theorem QN (x:Int):inI (IntKind.i64.wrap x):=by unfold inI;simp [IntKind.wrap,IntKind.bits,IntKind.signed];omega
theorem qRY {l:List Int} {i:Int} (h:1<=i/\i<l.length):inI (mnL (fZ l i)):=by
 have hl:=kM h;have hm:bR (i+32) l.length-i>=1:=by unfold bR;split<;>omega
 have:=qP1 (l:=fZ l i) (fun e=>by rw[e]at hl;simp at hl;omega);unfold fZ at this;have:=List.mem_of_mem_drop (List.mem_of_mem_take this);unfold dfs at this;obtain⟨j,_,e⟩:=List.mem_map.1 this;show inI (mnL (List.take 32 (List.drop (i-1).toNat (dfs l))));unfold dfs;rw[<-e];exact QN _
abbrev EJ:Ct:=.fn [.list (.int .i64)] (some (fun(l:List Int)=>(l.length<=1073741824)/\(∀x,x∈l->inI x))) (fun(l:List Int)=>.d .str (jU l))
theorem qL6:aF Tryz.prog 159 EJ:=by
 refine aF.fn qDQ mixed [(0,8,9),(0,12,10),(0,18,9),(0,18,11)] [] rfl rfl ?_;rintro⟨(l:List Int),_⟩ hpre;replace hpre:=hpre _ rfl;dsimp only[cu]at hpre;obtain⟨hl,hv⟩:=hpre;refine⟨[(0,10,LA.mk [.sl 4 (.int .i64),.sl 3 .str] (fun y=>Tag 35/\cu [.int .i64,.str] (fun(i:Int) (x:ByteArray)=>(1<=i/\i<=l.length+31)/\(jU l=x++uV ((dfs l).drop (i-1).toNat))/\((x.size:Int)<=10+32779*i)) y) (cu [.int .i64,.str] (fun(i:Int) (x:ByteArray)=>((l.length:Int)+32-i).toNat)) (cu [.int .i64,.str] (fun(i:Int) (x:ByteArray)=>([(0,20,LA.mk [.sl 7 (.int .i64),.sl 6 (.int .i64)] (fun y=>Tag 36/\cu [.int .i64,.int .i64] (fun(k:Int) (m:Int)=>(i<=k/\k<=bR (i+32) l.length)/\(m=((fZ l i).take (k-i).toNat).foldl bR (fZ l i)[0]!)) y) (cu [.int .i64,.int .i64] (fun(k:Int) (m:Int)=>(bR (i+32) l.length-k).toNat)) (cu [.int .i64,.int .i64] (fun(k:Int) (m:Int)=>([]:List (Nat×Nat×LA))))),(0,32,LA.mk [.sl 10 (.int .i64),.lst 8 (.int .u64) 86,.sl 9 (.int .i64)] (fun y=>Tag 37/\cu [.int .i64,.list (.int .u64),.int .i64] (fun(j:Int) (u:List Int) (w:Int)=>(i<=j/\j<=bR (i+32) l.length)/\(u=usL (mnL (fZ l i)) ((fZ l i).take (j-i).toNat))/\(w=mwL u)) y) (cu [.int .i64,.list (.int .u64),.int .i64] (fun(j:Int) (u:List Int) (w:Int)=>(bR (i+32) l.length-j).toNat)) (cu [.int .i64,.list (.int .u64),.int .i64] (fun(j:Int) (u:List Int) (w:Int)=>([]:List (Nat×Nat×LA)))))]:List (Nat×Nat×LA)))))],?_⟩;repeat' (first
  |(
 with_reducible refine Side.mk ⟨(⟨⟩:Tag 35),?_⟩
 dsimp only[cu,aC,aB,gts,eE,eN]
 refine⟨?_,?_,?_⟩
 ·first
  |(
  have hmi:i<bR (i+32) l.length/\bR (i+32) l.length<=l.length/\bR (i+32) l.length<=i+32:=by unfold bR;split<;>omega
  omega)
  |omega
 ·first
  |(
  rw[jU,if_neg (by omega)]
  rfl)
  |(
  have hmi:i<bR (i+32) l.length/\bR (i+32) l.length<=l.length/\bR (i+32) l.length<=i+32:=by unfold bR;split<;>omega
  have hbl:=kM (l:=l) (i:=i) (by omega)
  have hmm:m=mnL (fZ l i):=by rw[hm,List.take_of_length_le (by omega),tQ (by omega)]
  have huu:u=usL (mnL (fZ l i)) (fZ l i):=by rw[hu,List.take_of_length_le (by omega)]
  rw[hx,XU (by omega),<-ByteArray.append_assoc]
  unfold qI5
  rw[<-huu,<-hmm,<-hw]
  rfl)
 ·first
  |(
  have h1:=dM (fY l[(0:Int).toNat]!)
  omega)
  |(
  have hmi:i<bR (i+32) l.length/\bR (i+32) l.length<=l.length/\bR (i+32) l.length<=i+32:=by unfold bR;split<;>omega
  have hbl:=kM (l:=l) (i:=i) (by omega)
  have hmm:m=mnL (fZ l i):=by rw[hm,List.take_of_length_le (by omega),tQ (by omega)]
  have huu:u=usL (mnL (fZ l i)) (fZ l i):=by rw[hu,List.take_of_length_le (by omega)]
  have h1:=dM (fY m)
  have h2:=nR u w
  simp only[ByteArray.size_append,GJ,cO [_],List.length_cons,List.length_nil]
  omega))
  |(
 with_reducible refine Side.mk ⟨(⟨⟩:Tag 36),?_⟩
 dsimp only[cu,aC,aB,gts,eE,eN]
 refine⟨?_,?_⟩
 ·(
  have hmi:i<bR (i+32) l.length/\bR (i+32) l.length<=l.length/\bR (i+32) l.length<=i+32:=by unfold bR;split<;>omega
  omega)
 ·first
  |(
  have hmi:i<bR (i+32) l.length/\bR (i+32) l.length<=l.length/\bR (i+32) l.length<=i+32:=by unfold bR;split<;>omega
  have hbl:=kM (l:=l) (i:=i) (by omega)
  first
  |(
   have hbg:=zC (l:=l) (i:=i) (k:=i) (by omega);rw[show(i-i).toNat=0 by omega]at hbg ⊢;rw[hbg];(try rfl))
  |(
   have hbg:=zC (l:=l) (i:=i) (k:=k) (by omega);rw[show k+1-i=(k-i)+1 by omega,XY (by omega),<-hm,hbg])))
  |(
 with_reducible refine Side.mk ⟨(⟨⟩:Tag 37),?_⟩
 dsimp only[cu,aC,aB,gts,eE,eN]
 refine⟨?_,?_,?_⟩
 ·(
  have hmi:i<bR (i+32) l.length/\bR (i+32) l.length<=l.length/\bR (i+32) l.length<=i+32:=by unfold bR;split<;>omega
  omega)
 ·first
  |rw[show(i-i).toNat=0 by omega];rfl
  |(
  have hmi:i<bR (i+32) l.length/\bR (i+32) l.length<=l.length/\bR (i+32) l.length<=i+32:=by unfold bR;split<;>omega
  have hbl:=kM (l:=l) (i:=i) (by omega)
  have hmm:m=mnL (fZ l i):=by rw[hm,List.take_of_length_le (by omega),tQ (by omega)]
  have hbg:=zC (l:=l) (i:=i) (k:=j) (by omega)
  rw[show j+1-i=(j-i)+1 by omega,qNM (by omega),<-hu,hbg,hmm])
 ·first
  |rfl
  |(rw[qP3,hw]))
  |(
 with_reducible apply Side.mk
 (try dsimp only[cu,aC,aB,gts,loK,hiK,eE,eN])
 first
 |done
 |omega
 |exact Eq.refl _
 |(
  have hmi:i<bR (i+32) l.length/\bR (i+32) l.length<=l.length/\bR (i+32) l.length<=i+32:=by unfold bR;split<;>omega
  omega)
 |exact mZ (FU hv _)
 |exact FU hv _
 |exact qE _
 |(
  have hmi:i<bR (i+32) l.length/\bR (i+32) l.length<=l.length/\bR (i+32) l.length<=i+32:=by unfold bR;split<;>omega
  have hbl:=kM (l:=l) (i:=i) (by omega);first
  |(
   have hul:=congrArg List.length hu;simp only[usL,List.length_map,List.length_take]at hul;(try simp only[List.length_cons,List.length_nil]);omega)
  |(
   have hmm:m=mnL (fZ l i):=by rw[hm,List.take_of_length_le (by omega),tQ (by omega)]
   rw[hmm];first
   |exact qRY (by omega)
   |(exact mZ (qRY (by omega))))
  |(
   have hul:=congrArg List.length hu;simp only[usL,List.length_map,List.length_take]at hul;have hmi:i<bR (i+32) l.length/\bR (i+32) l.length<=l.length/\bR (i+32) l.length<=i+32:=by unfold bR;split<;>omega
   have hbl:=kM (l:=l) (i:=i) (by omega);have hmm:m=mnL (fZ l i):=by rw[hm,List.take_of_length_le (by omega),tQ (by omega)]
   have huu:u=usL (mnL (fZ l i)) (fZ l i):=by rw[hu,List.take_of_length_le (by omega)]
   refine⟨fun q=>?_,by omega⟩;rw[huu];exact qRE _ _ q)
  |(
   have hmm:m=mnL (fZ l i):=by rw[hm,List.take_of_length_le (by omega),tQ (by omega)]
   have huu:u=usL (mnL (fZ l i)) (fZ l i):=by rw[hu,List.take_of_length_le (by omega)]
   have h1:=dM (fY m);have h2:=nR u w;simp only[ByteArray.size_append,GJ,cO [_],List.length_cons,List.length_nil];omega)))
  |(conv=>whnf
    first
     |with_reducible first|done|exact trivial|refine NilBr.mk (fun h=>?_) ?_|apply aI|apply aH|refine aJ (by kernel_rfl) ?_|apply aK|apply bB|apply bA|apply aQ
     |((with_reducible first|apply aS|apply aR|apply aZ)<;>intro h<;>(try dsimp only[cu,eE,eN]at h)<;>(try(exfalso;omega)))
     |(
 intro yy (hy:Tag 35/\_)
 obtain⟨(i:Int),(x:ByteArray),_⟩:=yy
 replace hy:=hy.2
 dsimp only[cu,aC,aB,gts,eE,eN]at hy
 obtain⟨hi,hx,hz⟩:=hy)
     |(
 intro yy (hy:Tag 36/\_)
 obtain⟨(k:Int),(m:Int),_⟩:=yy
 replace hy:=hy.2
 dsimp only[cu,aC,aB,gts,eE,eN]at hy
 obtain⟨hk,hm⟩:=hy)
     |(
 intro yy (hy:Tag 37/\_)
 obtain⟨(j:Int),(u:List Int),(w:Int),_⟩:=yy
 replace hy:=hy.2
 dsimp only[cu,aC,aB,gts,eE,eN]at hy
 obtain⟨hj,hu,hw⟩:=hy)))
 all_goals(
 with_reducible apply Leaf.mk
 (try dsimp only[cu,aC,aB,gts,eE,eN]at *)
 first
 |rw[jU,if_pos (by omega)]
 |(rw[hx,qGB (by omega),ByteArray.append_empty]))
abbrev qXM:Tbl:=(159,EJ)::qXL
theorem qDR:aD Tryz.prog qXM:=aD.cons qL6 qDQ
def pT (l:List Val):List Int:=l.map fun v=>v.2.1
def BX (l:List Val):List ByteArray:=l.map fun v=>v.2.2
def okV (v:Val):Prop:=v.2.2.size<=1048576/\inI v.2.1
def plV (t:Int) (v:Val):ByteArray:=if t=3 then aV (put v.2.2.size)++v.2.2 else aV (put (fY v.2.1))
def plL (t:Int):List Val->ByteArray
 | []=>ByteArray.empty
 |v::r=>plV t v++plL t r
def qX (t k:Int) (l:List Val):ByteArray:=if k=2 then xA (pT l)else if k=3 then qQ (BX l)else if k=4 then jU (pT l)else plL t l
def iA (l:List Val):List Val:=l.filter fun v=>!v.1
def kA (l:List Val):List Bool:=l.map fun v=>v.1
def xG (k:Int) (l:List Val):ByteArray:=(aV [IntKind.u8.wrap k]++aV (put l.length))++aV (put ((l.length:Int)-(iA l).length))
def pC (t k:Int) (l:List Val):ByteArray:=(if(iA l).length<l.length then xG k l++TI (kA l)else xG k l)++qX t k (iA l)
def eK (t k:Int) (l:List Val):ByteArray:=cB (pC t k l)
theorem TT {t:Int} {l:List Val} {k:Int} (h:0<=k/\k<l.length):plL t (l.drop k.toNat)=plV t l[k.toNat]! ++plL t (l.drop (k+1).toNat):=by
 rw[bH l k h];rfl
theorem ZB {l:List Val} (h:∀v,v∈l->okV v) (k:Nat):okV l[k]!:=by
 by_cases q:k<l.length
 ·rw[getElem!_pos l k q];exact h _ (List.getElem_mem q)
 ·rw[getElem!_neg l k q];exact⟨by decide,by unfold inI;exact⟨by decide,by decide⟩⟩
theorem qLP {t:Int} {v:Val} (h:okV v):(plV t v).size<=1048586:=by
 unfold plV;have h1:=dM (v.2.2.size:Int);have h2:=dM (fY v.2.1);have:=h.1;split
 ·rw[ByteArray.size_append];omega
 ·omega
theorem TS (t:Int):∀(l:List Val),(∀v,v∈l->okV v)->(plL t l).size<=1048586*l.length
 | [],_=>Nat.zero_le _
 |v::r,h=>by
  have h1:=qLP (t:=t) (h v (by simp));have h2:=TS t r (fun x hx=>h x (by simp [hx]));rw[plL,ByteArray.size_append,List.length_cons];omega
theorem qQE {l:List Val} (h:∀v,v∈l->okV v):∀x,x∈pT l->inI x:=fun x hx=>by
 obtain⟨v,hv,rfl⟩:=List.mem_map.1 hx;exact(h v hv).2
theorem qCC {l:List Val} (h:∀v,v∈l->okV v):∀x,x∈BX l->x.size<=1073741824:=fun x hx=>by
 obtain⟨v,hv,rfl⟩:=List.mem_map.1 hx;have:=(h v hv).1;omega
theorem QI {l:List Val} (h:∀v,v∈l->okV v):∀v,v∈iA l->okV v:=fun v hv=>h v (List.mem_filter.1 hv).1
theorem qB (l:List Val):(iA l).length<=l.length:=List.length_filter_le _ _
theorem OO {l:List ByteArray} (h:∀w,w∈l->w.size<=1073741824):(qQ l).size<=4398046584842:=by
 unfold qQ;split
 ·exact Nat.zero_le _
 ·rw[ByteArray.size_append]
  have h1:=vH (v:=((bU l).length:Int)) (k:=(bU l).length) h (by omega);rw[List.take_of_length_le (Nat.le_refl _)]at h1;have h2:=nR (eL l) (wdN ((bU l).length:Int));omega
theorem UI:∀(n:Nat) (l:List Int),l.length<=n->(OP (runs l)).length<=20*l.length
 |n,[],_=>by rw[runs];exact Nat.zero_le _
 |n,v::l,h=>by
  obtain⟨m,rfl⟩:∃m,n=m+1:=⟨n-1,by simp at h;omega⟩
  rw[runs,OP];have h1:=bL ((rB v l:Int)+1);have h2:=bL (fY v);have h3:=UI m (l.drop (rB v l)) (by simp at h ⊢;omega);simp only[List.length_append,List.length_cons,List.length_drop]at h3 ⊢;omega
theorem OQ (l:List Int):(xA l).size<=20*l.length:=by
 unfold xA;rw[cO];exact UI _ l (Nat.le_refl _)
theorem TQ {t k:Int} {l:List Val} (h:∀v,v∈l->okV v) (hl:l.length<=4096):(qX t k l).size<=4398046584842:=by
 unfold qX;split
 ·have:=OQ (pT l)
  have e:(pT l).length=l.length:=by simp [pT]
  omega
 ·split
  ·exact OO (qCC h)
  ·split
   ·have:=HZ (pT l);omega
   ·have:=TS t l h;omega
theorem GN {l:List Bool} (h:l.length<=4096):(TI l).size<=512:=by
 unfold TI;rw[cO,lY,Int.tdiv_eq_ediv_of_nonneg (by omega)];omega
theorem LN (k:Int) (l:List Val):(xG k l).size<=21/\1<=(xG k l).size:=by
 unfold xG;have h1:=dM (l.length:Int);have h2:=dM ((l.length:Int)-(iA l).length);rw[ByteArray.size_append,ByteArray.size_append,cO [_]];simp only[List.length_cons,List.length_nil];omega
theorem BE {t k:Int} {l:List Val} (h:∀v,v∈l->okV v) (hl:l.length<=4096):(pC t k l).size<=4398046585375/\1<=(pC t k l).size:=by
 unfold pC;have h1:=LN k l;have h2:=TQ (t:=t) (k:=k) (QI h) (by have:=qB l;omega);have h3:=GN (l:=kA l) (by simp [kA];omega);split
 ·rw[ByteArray.size_append,ByteArray.size_append];omega
 ·rw[ByteArray.size_append];omega
theorem qD {l:List Val} {k:Int} (h:0<=k/\k<l.length):l.take (k+1).toNat=l.take k.toNat++ [l[k.toNat]!]:=by
 rw[show(k+1).toNat=k.toNat+1 by omega,List.take_succ_eq_append_getElem (by omega),getElem!_pos l k.toNat (by omega)]
def cT (t k:Int):Bool:=if t=3 then decide (k=1)||decide (k=3)else decide (k=1)||decide (k=2)||decide (k=4)
abbrev wI:Ct:=.fn [.list bP] (some (fun(l:List Val)=>(l.length<=1073741824))) (fun(l:List Val)=>.d (.list (.int .i64)) (pT l))
theorem YZ:aF Tryz.prog 156 wI:=by
 refine aF.fn qDR mixed [] [] rfl rfl ?_;rintro⟨(l:List Val),_⟩ hpre;replace hpre:=hpre _ rfl;dsimp only[cu]at hpre;have hl:=hpre;refine⟨[(0,6,LA.mk [.sl 8 (.int .i64),.lst 3 (.int .i64) 2] (fun y=>Tag 38/\cu [.int .i64,.list (.int .i64)] (fun(k:Int) (M:List Int)=>(0<=k/\k<=l.length)/\(M=pT (l.take k.toNat))) y) (cu [.int .i64,.list (.int .i64)] (fun(k:Int) (M:List Int)=>((l.length:Int)-k).toNat)) (cu [.int .i64,.list (.int .i64)] (fun(k:Int) (M:List Int)=>([]:List (Nat×Nat×LA)))))],?_⟩;repeat' (first
  |(
 with_reducible refine Side.mk ⟨(⟨⟩:Tag 38),?_⟩
 dsimp only[cu,aC,aB,gts,eE,eN]
 refine⟨?_,?_⟩
 ·omega
 ·first
  |rfl
  |(
  unfold pT
  rw[qD (by omega),List.map_append]
  show _=pT (l.take k.toNat)++_
  rw[<-hM]
  rfl))
  |(
 with_reducible apply Side.mk
 (try dsimp only[cu,aC,aB,gts,loK,hiK,eE,eN])
 first
 |done
 |omega
 |exact Eq.refl _
 |(
  have hml:=congrArg List.length hM;simp only[pT,List.length_map,List.length_take]at hml;(try simp only[List.length_cons,List.length_nil]);omega))
  |(conv=>whnf
    first
     |with_reducible first|done|exact trivial|refine NilBr.mk (fun h=>?_) ?_|apply aI|apply aH|refine aJ (by kernel_rfl) ?_|apply aK|apply bB|apply bA|apply aQ
     |((with_reducible first|apply aS|apply aR|apply aZ)<;>intro h<;>(try dsimp only[cu,eE,eN]at h)<;>(try(exfalso;omega)))
     |(
 intro yy (hy:Tag 38/\_)
 obtain⟨(k:Int),(M:List Int),_⟩:=yy
 replace hy:=hy.2
 dsimp only[cu,aC,aB,gts,eE,eN]at hy
 obtain⟨hk,hM⟩:=hy)))
 all_goals(
 with_reducible apply Leaf.mk
 (try dsimp only[cu,aC,aB,gts,eE,eN]at *)
 rw[hM,List.take_of_length_le (by omega)])
abbrev qXN:Tbl:=(156,wI)::qXM
theorem qDS:aD Tryz.prog qXN:=aD.cons YZ qDR
abbrev wR:Ct:=.fn [.list bP] (some (fun(l:List Val)=>(l.length<=1073741824))) (fun(l:List Val)=>.d (.list .str) (BX l))
theorem ZX:aF Tryz.prog 158 wR:=by
 refine aF.fn qDS mixed [] [] rfl rfl ?_;rintro⟨(l:List Val),_⟩ hpre;replace hpre:=hpre _ rfl;dsimp only[cu]at hpre;have hl:=hpre;refine⟨[(0,6,LA.mk [.sl 8 (.int .i64),.lst 3 .str 9] (fun y=>Tag 39/\cu [.int .i64,.list .str] (fun(k:Int) (M:List ByteArray)=>(0<=k/\k<=l.length)/\(M=BX (l.take k.toNat))) y) (cu [.int .i64,.list .str] (fun(k:Int) (M:List ByteArray)=>((l.length:Int)-k).toNat)) (cu [.int .i64,.list .str] (fun(k:Int) (M:List ByteArray)=>([]:List (Nat×Nat×LA)))))],?_⟩;repeat' (first
  |(
 with_reducible refine Side.mk ⟨(⟨⟩:Tag 39),?_⟩
 dsimp only[cu,aC,aB,gts,eE,eN]
 refine⟨?_,?_⟩
 ·omega
 ·first
  |rfl
  |(
  unfold BX
  rw[qD (by omega),List.map_append]
  show _=BX (l.take k.toNat)++_
  rw[<-hM]
  rfl))
  |(
 with_reducible apply Side.mk
 (try dsimp only[cu,aC,aB,gts,loK,hiK,eE,eN])
 first
 |done
 |omega
 |exact Eq.refl _
 |(
  have hml:=congrArg List.length hM;simp only[BX,List.length_map,List.length_take]at hml;(try simp only[List.length_cons,List.length_nil]);omega))
  |(conv=>whnf
    first
     |with_reducible first|done|exact trivial|refine NilBr.mk (fun h=>?_) ?_|apply aI|apply aH|refine aJ (by kernel_rfl) ?_|apply aK|apply bB|apply bA|apply aQ
     |((with_reducible first|apply aS|apply aR|apply aZ)<;>intro h<;>(try dsimp only[cu,eE,eN]at h)<;>(try(exfalso;omega)))
     |(
 intro yy (hy:Tag 39/\_)
 obtain⟨(k:Int),(M:List ByteArray),_⟩:=yy
 replace hy:=hy.2
 dsimp only[cu,aC,aB,gts,eE,eN]at hy
 obtain⟨hk,hM⟩:=hy)))
 all_goals(
 with_reducible apply Leaf.mk
 (try dsimp only[cu,aC,aB,gts,eE,eN]at *)
 rw[hM,List.take_of_length_le (by omega)])
abbrev qXO:Tbl:=(158,wR)::qXN
theorem qDT:aD Tryz.prog qXO:=aD.cons ZX qDS
abbrev RL:Ct:=.fn [.int .i64,.int .i64,.list bP] (some (fun(t:Int) (c:Int) (l:List Val)=>(l.length<=4096)/\(∀v,v∈l->okV v))) (fun(t:Int) (c:Int) (l:List Val)=>.d .str (qX t c l))
theorem qUI:aF Tryz.prog 121 RL:=by
 refine aF.fn qDT mixed [] [] rfl rfl ?_;rintro⟨(t:Int),(c:Int),(l:List Val),_⟩ hpre;replace hpre:=hpre _ rfl;dsimp only[cu]at hpre;obtain⟨hl,hv⟩:=hpre;refine⟨[(0,20,LA.mk [.sl 28 (.int .i64),.sl 7 .str] (fun y=>Tag 40/\cu [.int .i64,.str] (fun(k:Int) (x:ByteArray)=>(0<=k/\k<=l.length)/\(plL t l=x++plL t (l.drop k.toNat))/\((x.size:Int)<=1048586*k)) y) (cu [.int .i64,.str] (fun(k:Int) (x:ByteArray)=>((l.length:Int)-k).toNat)) (cu [.int .i64,.str] (fun(k:Int) (x:ByteArray)=>([]:List (Nat×Nat×LA)))))],?_⟩;repeat' (first
  |(
 with_reducible refine Side.mk ⟨(⟨⟩:Tag 40),?_⟩
 dsimp only[cu,aC,aB,gts,eE,eN]
 refine⟨?_,?_,?_⟩
 ·omega
 ·first
  |rw[show(⟨#[]⟩:ByteArray)=ByteArray.empty from rfl,ByteArray.empty_append];rfl
  |(
  have hat:=ZB hv k.toNat
  have hat1:=hat.1
  have h64:=aW (n:=(l[k.toNat]!.2.2.size:Int)) (by omega)
  have p1:=dM (l[k.toNat]!.2.2.size:Int)
  have p2:=dM (fY l[k.toNat]!.2.1)
  first
  |(
   have ht:t=3:=by with_reducible assumption
   rw[hx,TT (by omega),plV,if_pos ht,h64,<-ByteArray.append_assoc])
  |(
   have ht:¬t=3:=by with_reducible assumption
   rw[hx,TT (by omega),plV,if_neg ht,<-ByteArray.append_assoc]))
 ·first
  |exact Int.le_refl _
  |(
  have hat:=ZB hv k.toNat
  have hat1:=hat.1
  have h64:=aW (n:=(l[k.toNat]!.2.2.size:Int)) (by omega)
  have p1:=dM (l[k.toNat]!.2.2.size:Int)
  have p2:=dM (fY l[k.toNat]!.2.1)
  simp only[ByteArray.size_append,h64]
  omega))
  |(
 with_reducible apply Side.mk
 (try dsimp only[cu,aC,aB,gts,loK,hiK,eE,eN])
 first
 |omega
 |(
  have hat:=ZB hv k.toNat;have hat1:=hat.1;have h64:=aW (n:=(l[k.toNat]!.2.2.size:Int)) (by omega);have p1:=dM (l[k.toNat]!.2.2.size:Int);have p2:=dM (fY l[k.toNat]!.2.1);first
  |omega
  |exact mZ hat.2
  |exact hat.2
  |(
   rw[h64];omega)
  |(
   simp only[ByteArray.size_append,h64];omega))
 |refine⟨by simp [pT];omega,qQE hv⟩
 |(refine⟨qCC hv,by simp [BX];omega⟩))
  |(conv=>whnf
    first
     |with_reducible first|done|exact trivial|refine NilBr.mk (fun h=>?_) ?_|apply aI|apply aH|refine aJ (by kernel_rfl) ?_|apply aK|apply bB|apply bA|apply aQ
     |((with_reducible first|apply aS|apply aR|apply aZ)<;>intro h<;>(try dsimp only[cu,eE,eN]at h)<;>(try(exfalso;omega)))
     |(
 intro yy (hy:Tag 40/\_)
 obtain⟨(k:Int),(x:ByteArray),_⟩:=yy
 replace hy:=hy.2
 dsimp only[cu,aC,aB,gts,eE,eN]at hy
 obtain⟨hk,hx,hz⟩:=hy)))
 all_goals(
 with_reducible apply Leaf.mk
 (try dsimp only[cu,aC,aB,gts,eE,eN]at *)
 first
 |(
  have hc:c=2:=by with_reducible assumption
  rw[qX,if_pos hc])
 |(
  have hc:¬c=2:=by with_reducible assumption
  first
  |(
   have hc3:c=3:=by with_reducible assumption
   rw[qX,if_neg hc,if_pos hc3])
  |(
   have hc3:¬c=3:=by with_reducible assumption
   first
   |(
    have hc4:c=4:=by with_reducible assumption
    rw[qX,if_neg hc,if_neg hc3,if_pos hc4])
   |(
    have hc4:¬c=4:=by with_reducible assumption
    rw[qX,if_neg hc,if_neg hc3,if_neg hc4,hx,List.drop_eq_nil_of_le (by omega),plL,ByteArray.append_empty]))))
abbrev qXP:Tbl:=(121,RL)::qXO
theorem qDU:aD Tryz.prog qXP:=aD.cons qUI qDT
abbrev KH:Ct:=.fn [.int .i64,.int .i64] (none) (fun(t:Int) (c:Int)=>.d .bool (cT t c))
theorem qRF:aF Tryz.prog 82 KH:=by
 refine aF.fn qDU mixed [] [] rfl rfl ?_;rintro⟨(t:Int),(c:Int),_⟩ -;refine⟨[],?_⟩;repeat' (first
  |(
 with_reducible apply Side.mk
 (try dsimp only[cu,aC,aB,gts,loK,hiK,eE,eN])
 done)
  |(conv=>whnf
    first
     |with_reducible first|done|exact trivial|refine NilBr.mk (fun h=>?_) ?_|apply aI|apply aH|refine aJ (by kernel_rfl) ?_|apply aK|apply bB|apply bA|apply aQ
     |((with_reducible first|apply aS|apply aR|apply aZ)<;>intro h<;>(try dsimp only[cu,eE,eN]at h)<;>(try(exfalso;omega)))))
 all_goals(
 with_reducible apply Leaf.mk
 (try dsimp only[cu,aC,aB,gts,eE,eN]at *)
 grind [cT])
abbrev qXQ:Tbl:=(82,KH)::qXP
theorem qDV:aD Tryz.prog qXQ:=aD.cons qRF qDU
theorem MU {l:List Val} {k:Int} (h:0<=k/\k<l.length):iA (l.take (k+1).toNat)=iA (l.take k.toNat)++(if l[k.toNat]!.1=true then[]else[l[k.toNat]!]):=by
 rw[qD h];unfold iA;rw[List.filter_append];generalize l[k.toNat]! =x;by_cases q:x.1=true
 ·rw[if_pos q];simp [q]
 ·rw[if_neg q];simp [q]
theorem YX {l:List Val} {k:Int} (h:0<=k/\k<l.length):kA (l.take (k+1).toNat)=kA (l.take k.toNat)++ [l[k.toNat]!.1]:=by
 rw[qD h];simp [kA]
theorem qJD {t k:Int} {l:List Val} (h:(iA l).length<l.length):pC t k l=(xG k l++TI (kA l))++qX t k (iA l):=by rw[pC,if_pos h]
theorem FH {t k:Int} {l:List Val} (h:¬(iA l).length<l.length):pC t k l=xG k l++qX t k (iA l):=by rw[pC,if_neg h]
abbrev AF:Ct:=.fn [qC,.int .i64,.list bP] (some (fun(c:Col) (k:Int) (l:List Val)=>(l.length<=4096)/\(∀v,v∈l->okV v))) (fun(c:Col) (k:Int) (l:List Val)=>.d .str (eK c.2.1 k l))
theorem qFV:aF Tryz.prog 83 AF:=by
 refine aF.fn qDV mixed [] [] rfl rfl ?_;rintro⟨(c:Col),(k:Int),(l:List Val),_⟩ hpre;replace hpre:=hpre _ rfl;dsimp only[cu]at hpre;obtain⟨hl,hv⟩:=hpre;refine⟨[(0,8,LA.mk [.sl 14 (.int .i64),.lst 7 bP 43,.lst 8 .bool 4] (fun y=>Tag 41/\cu [.int .i64,.list bP,.list .bool] (fun(i:Int) (P:List Val) (N:List Bool)=>(0<=i/\i<=l.length)/\(P=iA (l.take i.toNat))/\(N=kA (l.take i.toNat))) y) (cu [.int .i64,.list bP,.list .bool] (fun(i:Int) (P:List Val) (N:List Bool)=>((l.length:Int)-i).toNat)) (cu [.int .i64,.list bP,.list .bool] (fun(i:Int) (P:List Val) (N:List Bool)=>([]:List (Nat×Nat×LA)))))],?_⟩;repeat' (first
  |(
 with_reducible refine Side.mk ⟨(⟨⟩:Tag 41),?_⟩
 dsimp only[cu,aC,aB,gts,eE,eN]
 refine⟨?_,?_,?_⟩
 ·omega
 ·first
  |rfl
  |(
  have hb:l[i.toNat]!.1=true:=by first|with_reducible assumption|exact vN (by with_reducible assumption)
  rw[MU (by omega),<-hP,if_pos hb,List.append_nil])
  |(
  have hb:¬l[i.toNat]!.1=true:=by first|with_reducible assumption|(simp_all;done)
  rw[MU (by omega),<-hP,if_neg hb])
 ·first
  |rfl
  |(rw[YX (by omega),<-hN]))
  |(
 with_reducible apply Side.mk
 (try dsimp only[cu,aC,aB,gts,loK,hiK,eE,eN])
 first
 |done
 |omega
 |exact Eq.refl _
 |(
  have hpl:=qB (l.take i.toNat);rw[<-hP,List.length_take]at hpl;first
  |omega
  |(
   (try simp only[List.length_cons,List.length_nil]);omega))
 |(
  have hnl:=congrArg List.length hN;simp only[kA,List.length_map,List.length_take]at hnl;(try simp only[List.length_cons,List.length_nil]);omega)
 |exact qE _
 |(
  have hpl:=qB (l.take i.toNat);rw[<-hP,List.length_take]at hpl;have w1:=aW (n:=(l.length:Int)) (by omega);have w2:=aW (n:=(l.length:Int)-P.length) (by omega);have hF:P=iA l:=by rw[hP,List.take_of_length_le (by omega)]
  have hG:N=kA l:=by rw[hN,List.take_of_length_le (by omega)]
  have hh:=LN k l;have hp:=TQ (t:=c.2.1) (k:=k) (QI hv) (by have:=qB l;omega);have hq:=GN (l:=kA l) (by simp [kA];omega);have p1:=dM (l.length:Int);have p2:=dM ((l.length:Int)-P.length);rw[<-hF]at hp;rw[<-hG]at hq;simp only[ByteArray.size_append,w1,w2,GJ,cO [_],pR,List.length_cons,List.length_nil];omega)
 |(
  have hF:P=iA l:=by rw[hP,List.take_of_length_le (by omega)]
  have hG:N=kA l:=by rw[hN,List.take_of_length_le (by omega)]
  have hpl:=qB (l.take i.toNat);rw[<-hP,List.length_take]at hpl;refine⟨by omega,?_⟩;rw[hF];exact QI hv))
  |(conv=>whnf
    first
     |with_reducible first|done|exact trivial|refine NilBr.mk (fun h=>?_) ?_|apply aI|apply aH|refine aJ (by kernel_rfl) ?_|apply aK|apply bB|apply bA|apply aQ
     |((with_reducible first|apply aS|apply aR|apply aZ)<;>intro h<;>(try dsimp only[cu,eE,eN]at h)<;>(try(exfalso;omega)))
     |(
 intro yy (hy:Tag 41/\_)
 obtain⟨(i:Int),(P:List Val),(N:List Bool),_⟩:=yy
 replace hy:=hy.2
 dsimp only[cu,aC,aB,gts,eE,eN]at hy
 obtain⟨hi,hP,hN⟩:=hy)))
 all_goals(
 with_reducible apply Leaf.mk
 (try dsimp only[cu,aC,aB,gts,eE,eN]at *)
 first
 |(
  have hpl:=qB (l.take i.toNat);rw[<-hP,List.length_take]at hpl;have w1:=aW (n:=(l.length:Int)) (by omega);have w2:=aW (n:=(l.length:Int)-P.length) (by omega);have hF:P=iA l:=by rw[hP,List.take_of_length_le (by omega)]
  have hG:N=kA l:=by rw[hN,List.take_of_length_le (by omega)]
  first
  |(
   have hlt:(iA l).length<l.length:=by rw[<-hF];omega
   rw[w1,w2,eK,cB,qJD hlt,hF,hG];(try rfl))
  |(
   have hlt:¬(iA l).length<l.length:=by rw[<-hF];omega
   rw[w1,w2,eK,cB,FH hlt,hF];(try rfl))))
abbrev qXR:Tbl:=(83,AF)::qXQ
theorem qDW:aD Tryz.prog qXR:=aD.cons qFV qDV
abbrev ZV:Val:=(false,0,⟨#[]⟩)
def nV (n:Int):Val:=(false,n,⟨#[]⟩)
def sV (s:ByteArray):Val:=(false,0,s)
abbrev NV:Val:=(true,0,⟨#[]⟩)
def kI (t:Int) (s:ByteArray):Nat->Int->List Val->List Val×Bool
 |0,a,M=>(M,decide (a=s.size))
 |k+1,a,M=>if(aA s a).2.2≠0 then([],false)
  else if t=3 then(if(aA s a).1>s.size-(aA s a).2.1 then([],false)else kI t s k ((aA s a).2.1+(aA s a).1) (M++ [sV (s.extract (aA s a).2.1.toNat ((aA s a).2.1+(aA s a).1).toNat)]))
  else kI t s k (aA s a).2.1 (M++ [nV (pK (aA s a).1)])
def rO (n:Int) (l:List Val):List Val:=l++List.replicate (n-l.length).toNat ZV
def fU (t k:Int) (s:ByteArray) (n:Int):List Val×Bool:=
 if k=1 then kI t s n.toNat 0 []else if k=3 then((cP s n).1.map sV,decide ((cP s n).2=0))
 else if k=4 then((cF s n).1.map nV,decide ((cF s n).2=0))else((eH s n).1.map nV,decide ((eH s n).2=0))
def uL (t k:Int) (s:ByteArray) (n:Int):List Val×Bool:=if k=1 then kI t s n.toNat 0 []else(rO n (fU t k s n).1,(fU t k s n).2)
theorem qUN {t:Int} {s:ByteArray} {n a:Int} {M:List Val} (h:(M.length:Int)<n) (h1:¬(aA s a).2.2=0):kI t s (n-M.length).toNat a M=([],false):=by
 rw[show(n-M.length).toNat=(n-M.length-1).toNat+1 by omega,kI,if_pos h1]
theorem qLU {t:Int} {s:ByteArray} {n a:Int} {M:List Val} (h:(M.length:Int)<n) (h1:(aA s a).2.2=0) (ht:t=3) (h2:(aA s a).1>s.size-(aA s a).2.1):kI t s (n-M.length).toNat a M=([],false):=by
 rw[show(n-M.length).toNat=(n-M.length-1).toNat+1 by omega,kI,if_neg (fun q=>q h1),if_pos ht,if_pos h2]
theorem qUP {t:Int} {s:ByteArray} {n a:Int} {M:List Val} (h:(M.length:Int)<n) (h1:(aA s a).2.2=0) (ht:t=3) (h2:¬(aA s a).1>s.size-(aA s a).2.1) :
  kI t s (n-M.length).toNat a M=kI t s (n-(M++ [sV (s.extract (aA s a).2.1.toNat ((aA s a).2.1+(aA s a).1).toNat)]).length).toNat ((aA s a).2.1+(aA s a).1) (M++ [sV (s.extract (aA s a).2.1.toNat ((aA s a).2.1+(aA s a).1).toNat)]):=by
 rw[show(n-M.length).toNat=(n-M.length-1).toNat+1 by omega,kI,if_neg (fun q=>q h1),if_pos ht,if_neg h2];congr 1
 simp;omega
theorem qUO {t:Int} {s:ByteArray} {n a:Int} {M:List Val} (h:(M.length:Int)<n) (h1:(aA s a).2.2=0) (ht:¬t=3) :
  kI t s (n-M.length).toNat a M=kI t s (n-(M++ [nV (pK (aA s a).1)]).length).toNat (aA s a).2.1 (M++ [nV (pK (aA s a).1)]):=by
 rw[show(n-M.length).toNat=(n-M.length-1).toNat+1 by omega,kI,if_neg (fun q=>q h1),if_neg ht];congr 1
 simp;omega
theorem qUM {t:Int} {s:ByteArray} {n a:Int} {M:List Val} (h:¬(M.length:Int)<n):kI t s (n-M.length).toNat a M=(M,decide (a=s.size)):=by
 rw[show(n-M.length).toNat=0 by omega,kI]
theorem ZI {t:Int} {s:ByteArray}:∀(k:Nat) (a:Int) (M:List Val),(kI t s k a M).2=true->(kI t s k a M).1.length=M.length+k
 |0,a,M,h=>rfl
 |k+1,a,M,h=>by
  rw[kI]at h ⊢;split at h
  ·cases h
  ·rename_i h1
   rw[if_neg h1];split at h
   ·rename_i ht
    rw[if_pos ht];split at h
    ·cases h
    ·rename_i h2
     rw[if_neg h2,ZI k _ _ h];simp;omega
   ·rename_i ht
    rw[if_neg ht,ZI k _ _ h];simp;omega
theorem qAV {s:ByteArray} {n:Int}:∀(m:Nat) (a:Int) (M:List Int),(n-M.length).toNat<=m->(M.length:Int)<=n->((dGo s n a M).2=0->((dGo s n a M).1.length:Int)=n)/\((dGo s n a M).2≠0->(dGo s n a M).1= [])
 |m,a,M,hm,hM=>by
  rw[dGo];split
  ·split
   ·rename_i h1;exact⟨fun q=>absurd q h1,fun _=>rfl⟩
   ·split
    ·exact⟨fun q=>absurd q (by decide),fun _=>rfl⟩
    ·rename_i h2
     split
     ·rename_i h3;exact⟨fun q=>absurd q h3,fun _=>rfl⟩
     ·split
      ·exact⟨fun q=>absurd q (by decide),fun _=>rfl⟩
      ·have hg:=aX s a
       obtain⟨m,rfl⟩:∃m',m=m'+1:=⟨m-1,by omega⟩
       exact qAV m _ _ (by simp only[List.length_append,List.length_replicate];omega) (by simp only[List.length_append,List.length_replicate];omega)
  ·split
   ·exact⟨fun q=>absurd q (by decide),fun _=>rfl⟩
   ·exact⟨fun _=>by show((M.length:Nat):Int)=n;omega,fun q=>absurd rfl q⟩
theorem QG {s:ByteArray} {n:Int}:((eH s n).2=0->((eH s n).1.length:Int)=n)/\((eH s n).2≠0->(eH s n).1= []):=by
 unfold eH;split
 ·exact⟨fun q=>absurd q (by decide),fun _=>rfl⟩
 ·exact qAV _ _ _ (Nat.le_refl _) (by simp;omega)
theorem qJX {s:ByteArray} {n:Int}:∀(m:Nat) (a:Int) (M:List Int),(n-M.length).toNat<=m->(M.length:Int)<=n->((dd s n a M).2=0->((dd s n a M).1.length:Int)=n)/\((dd s n a M).2≠0->(dd s n a M).1= [])
 |m,a,M,hm,hM=>by
  rw[dd];split
  ·rename_i h
   split
   ·rename_i h2
    have hk:=zK h;have hb:=(tH h2).1;obtain⟨m,rfl⟩:∃m',m=m'+1:=⟨m-1,by omega⟩
    exact qJX m _ _ (by simp only[List.length_append,nW];omega) (by simp only[List.length_append,nW];omega)
   ·rename_i h2;exact⟨fun q=>absurd q h2,fun _=>rfl⟩
  ·split
   ·exact⟨fun q=>absurd q (by decide),fun _=>rfl⟩
   ·exact⟨fun _=>by show((M.length:Nat):Int)=n;omega,fun q=>absurd rfl q⟩
theorem FL {s:ByteArray} {n:Int}:((cF s n).2=0->((cF s n).1.length:Int)=n)/\((cF s n).2≠0->(cF s n).1= []):=by
 unfold cF;split
 ·exact⟨fun q=>absurd q (by decide),fun _=>rfl⟩
 ·split
  ·rename_i hn
   split
   ·exact⟨fun _=>by subst hn;rfl,fun q=>absurd rfl q⟩
   ·exact⟨fun q=>absurd q (by decide),fun _=>rfl⟩
  ·split
   ·rename_i h1;exact⟨fun q=>absurd q h1,fun _=>rfl⟩
   ·exact qJX _ _ _ (Nat.le_refl _) (by simp only[List.length_cons,List.length_nil];omega)
theorem vF {s:ByteArray} {n:Int}:((cP s n).2=0->((cP s n).1.length:Int)=n)/\((cP s n).2≠0->(cP s n).1= []):=by
 unfold cP XP XQ OL;split
 ·exact⟨fun q=>absurd q (by decide),fun _=>rfl⟩
 rename_i q1;split
 ·rename_i h;exact⟨fun q=>absurd q h,fun _=>rfl⟩
 split
 ·exact⟨fun q=>absurd q (by decide),fun _=>rfl⟩
 split
 ·rename_i h;exact⟨fun q=>absurd q h,fun _=>rfl⟩
 split
 ·rename_i h;exact⟨fun q=>absurd q h,fun _=>rfl⟩
 rename_i q5;split
 ·exact⟨fun q=>absurd q (by decide),fun _=>rfl⟩
 split
 ·exact⟨fun q=>absurd q (by decide),fun _=>rfl⟩
 ·have:=iC (Decidable.not_not.1 q5)
  refine⟨fun _=>?_,fun q=>absurd rfl q⟩;simp only[List.length_map];omega
theorem qB7 {t k:Int} {s:ByteArray} {n:Int} (h0:0<=n) (h:(fU t k s n).2=true):((fU t k s n).1.length:Int)=n:=by
 unfold fU at h ⊢;split at h
 ·rename_i h1
  rw[if_pos h1,ZI _ _ _ h];simp;omega
 ·rename_i h1
  rw[if_neg h1];split at h
  ·rename_i h2
   rw[if_pos h2];have:=vF.1 (of_decide_eq_true h);simp only[List.length_map];exact this
  ·rename_i h2
   rw[if_neg h2];split at h
   ·rename_i h3
    rw[if_pos h3];have:=FL.1 (of_decide_eq_true h);simp only[List.length_map];exact this
   ·rename_i h3
    rw[if_neg h3];have:=QG.1 (of_decide_eq_true h);simp only[List.length_map];exact this
theorem NC (t k:Int) (s:ByteArray) (n:Int):(uL t k s n).2=(fU t k s n).2:=by
 unfold uL;split
 ·rename_i h;rw[fU,if_pos h]
 ·rfl
theorem qE2 {t k:Int} {s:ByteArray} {n:Int} (h0:0<=n) (h:(fU t k s n).2=true):(uL t k s n).1=(fU t k s n).1:=by
 have hl:=qB7 h0 h;unfold uL;split
 ·rename_i h1;rw[fU,if_pos h1]
 ·show rO n (fU t k s n).1=_
  unfold rO;rw[show(n-(fU t k s n).1.length).toNat=0 by omega];simp
def pkV (b:Bool) (R:List Val):Val:=if b=true then NV else R[0]!
def rsV (b:Bool) (R:List Val):List Val:=if b=true then R else R.drop 1
def asm (c:Col):List Bool->List Val->List Val->List Val×Bool
 | [],_,M=>(M,true)
 |b::r,R,M=>if bQ c (pkV b R)≠0 then([],false)else asm c r (rsV b R) (M++ [pkV b R])
def mO:List Bool->Nat
 | []=>0
 |b::r=>(if b=true then 0 else 1)+mO r
def fR (s:ByteArray) (a n k:Int):List Bool×Bool×Int:=
 if k>0 then(if a+(n+7).tdiv 8>s.size\/(jR (s.extract a.toNat (a+(n+7).tdiv 8).toNat) n).2≠0\/qN (s.extract a.toNat (a+(n+7).tdiv 8).toNat)≠k then([],false,0)
  else((jR (s.extract a.toNat (a+(n+7).tdiv 8).toNat) n).1,true,a+(n+7).tdiv 8))
 else(List.replicate n.toNat false,true,a)
def qTA (c:Col) (N:List Bool) (r:List Val×Bool):List Val×Bool:=if r.2=false then([],false)else asm c N r.1 []
def HV (c:Col) (s:ByteArray) (n k:Int) (x:List Bool×Bool×Int):List Val×Bool:=if x.2.1=false then([],false)else qTA c x.1 (fU c.2.1 (aG s (0:Int).toNat) (s.extract x.2.2.toNat s.size) (n-k))
def pB (c:Col) (s:ByteArray):List Val×Bool:=
 if cT c.2.1 (aG s (0:Int).toNat)=false\/(aA s 1).2.2≠0\/(aA s 1).1>4096 then([],false)
 else if(aA s (aA s 1).2.1).2.2≠0\/(aA s (aA s 1).2.1).1>(aA s 1).1 then([],false)
 else HV c s (aA s 1).1 (aA s (aA s 1).2.1).1 (fR s (aA s (aA s 1).2.1).2.1 (aA s 1).1 (aA s (aA s 1).2.1).1)
def pD (c:Col) (s:ByteArray):List Val×Int:=
 if bS c.2.1=false then([],1)else if gK s≠0 then([],gK s)else if(pB c (gX s)).2=false then([],2)else((pB c (gX s)).1,0)
theorem wA {c:Col} {N:List Bool} {R M:List Val} {i:Int} (h:0<=i/\i<N.length):asm c (N.drop i.toNat) R M=if bQ c (pkV N[i.toNat]! R)≠0 then([],false)else asm c (N.drop (i+1).toNat) (rsV N[i.toNat]! R) (M++ [pkV N[i.toNat]! R]):=by
 rw[bH N i h];rfl
theorem qAN {c:Col} {N:List Bool} {R M:List Val} {i:Int} (h:¬i<N.length) (h0:0<=i):asm c (N.drop i.toNat) R M=(M,true):=by
 rw[List.drop_eq_nil_of_le (by omega)];rfl
theorem KR {N:List Bool} {i:Int} (h:0<=i/\i<N.length):mO (N.drop i.toNat)=(if N[i.toNat]! =true then 0 else 1)+mO (N.drop (i+1).toNat):=by
 rw[bH N i h];rfl
theorem qJF (a b:List Bool):mO (a++b)=mO a+mO b:=by
 induction a with
 |nil=>simp [mO]
 |cons x a ih=>simp only[List.cons_append,mO,ih];omega
theorem qJG (n:Nat):mO (List.replicate n false)=n:=by
 induction n with
 |zero=>rfl
 |succ n ih=>rw[List.replicate_succ,mO,ih];simp;omega
theorem KQ (s:ByteArray):∀m:Nat,((mO (uO s m):Nat):Int)+nI s m=m
 |0=>rfl
 |m+1=>by
  have ih:=KQ s m;have e:=DL s (k:=(m:Int)) (by omega);rw[show((m:Int)+1).toNat=m+1 by omega,show((m:Int)).toNat=m by omega]at e;rw[e,qJF,nI];have hb:=vQ s m;by_cases q:RC s m=true
  ·have:=qS9 q
   simp only[mO,q];simp;omega
  ·have:=qS8 (by simpa using q:RC s m=false)
   simp only[mO,q];simp;omega
theorem FI {s:ByteArray} {n:Nat}:∀d:Nat,(∀q:Nat,n<=q->q<n+d->sbit s q≠1)->nI s (n+d)=nI s n
 |0,_=>rfl
 |d+1,h=>by
  have h1:=h (n+d) (by omega) (by omega);have h2:=vQ s (n+d);rw[show n+(d+1)=n+d+1 by omega,nI,FI d (fun q g1 g2=>h q g1 (by omega))];omega
theorem qRD {s:ByteArray} {n:Int} (h:(jR s n).2=0):0<=n/\n<=4096/\(jR s n).1=uO s n.toNat/\((mO (jR s n).1:Nat):Int)+qN s=n:=by
 unfold jR at h ⊢;split at h
 ·exact absurd h (by decide)
 ·rename_i h1
  rw[if_neg h1];split at h
  ·exact absurd h (by decide)
  ·rename_i h2
   rw[if_neg h2];split at h
   ·exact absurd h (by decide)
   ·rename_i h3
    rw[if_neg h3];split at h
    ·exact absurd h (by decide)
    ·rename_i h4
     rw[if_neg h4];refine⟨by omega,by omega,rfl,?_⟩;have hd:=oA (n:=n+7) (by omega);have e1:=KQ s n.toNat;have e2:=FI (s:=s) (n:=n.toNat) (8*s.size-n.toNat) (fun q g1 g2 g3=>h4 (UU g1 (by omega) g3));rw[show n.toNat+(8*s.size-n.toNat)=8*s.size by omega]at e2;show((mO (uO s n.toNat):Nat):Int)+qN s=n;unfold qN;omega
theorem uY {s:ByteArray} {a n k:Int} (h:¬k>0):fR s a n k=(List.replicate n.toNat false,true,a):=by rw[fR,if_neg h]
theorem qBO {s:ByteArray} {a n k:Int} (h:k>0) (h1:a+(n+7).tdiv 8>s.size\/(jR (s.extract a.toNat (a+(n+7).tdiv 8).toNat) n).2≠0\/qN (s.extract a.toNat (a+(n+7).tdiv 8).toNat)≠k):fR s a n k=([],false,0):=by rw[fR,if_pos h,if_pos h1]
theorem sP {s:ByteArray} {a n k:Int} (h:k>0) (h1:¬a+(n+7).tdiv 8>s.size) (h2:(jR (s.extract a.toNat (a+(n+7).tdiv 8).toNat) n).2=0) (h3:qN (s.extract a.toNat (a+(n+7).tdiv 8).toNat)=k) :
  fR s a n k=((jR (s.extract a.toNat (a+(n+7).tdiv 8).toNat) n).1,true,a+(n+7).tdiv 8):=by
 rw[fR,if_pos h,if_neg (fun q=>by rcases q with q|q|q<;>contradiction)]
theorem qUB {s:ByteArray} {a n k:Int} (hn:0<=n/\n<=4096) (ha:0<=a/\a<=s.size) (hk:0<=k/\k<=n) (h:(fR s a n k).2.1=true):((fR s a n k).1.length:Int)=n/\((mO (fR s a n k).1:Nat):Int)=n-k/\0<=(fR s a n k).2.2/\(fR s a n k).2.2<=s.size:=by
 by_cases h0:k>0
 ·by_cases h1:a+(n+7).tdiv 8>s.size\/(jR (s.extract a.toNat (a+(n+7).tdiv 8).toNat) n).2≠0\/qN (s.extract a.toNat (a+(n+7).tdiv 8).toNat)≠k
  ·rw[qBO h0 h1]at h;cases h
  ·have g1:¬a+(n+7).tdiv 8>s.size:=fun q=>h1 (.inl q)
   have g2:(jR (s.extract a.toNat (a+(n+7).tdiv 8).toNat) n).2=0:=Decidable.not_not.1 fun q=>h1 (.inr (.inl q))
   have g3:qN (s.extract a.toNat (a+(n+7).tdiv 8).toNat)=k:=Decidable.not_not.1 fun q=>h1 (.inr (.inr q))
   rw[sP h0 g1 g2 g3];obtain⟨_,_,e1,e2⟩:=qRD g2;have hd:=oA (n:=n+7) (by omega);refine⟨?_,by show((mO (jR _ n).1:Nat):Int)=n-k;omega,by show 0<=a+(n+7).tdiv 8;omega,by show a+(n+7).tdiv 8<=s.size;omega⟩;show((jR _ n).1.length:Int)=n;rw[e1,qFT];omega
 ·rw[uY h0]
  refine⟨by show((List.replicate n.toNat false).length:Int)=n;rw[List.length_replicate];omega,by show((mO (List.replicate n.toNat false):Nat):Int)=n-k;rw[qJG];omega,ha.1,ha.2⟩
theorem qI6 {c:Col} {s:ByteArray} (h:cT c.2.1 (aG s (0:Int).toNat)=false\/(aA s 1).2.2≠0\/(aA s 1).1>4096):pB c s=([],false):=by rw[pB,if_pos h]
theorem qRS {c:Col} {s:ByteArray} (h:¬(cT c.2.1 (aG s (0:Int).toNat)=false\/(aA s 1).2.2≠0\/(aA s 1).1>4096)) (h2:(aA s (aA s 1).2.1).2.2≠0\/(aA s (aA s 1).2.1).1>(aA s 1).1):pB c s=([],false):=by rw[pB,if_neg h,if_pos h2]
theorem qVG {c:Col} {s:ByteArray} (h:¬(cT c.2.1 (aG s (0:Int).toNat)=false\/(aA s 1).2.2≠0\/(aA s 1).1>4096)) (h2:¬((aA s (aA s 1).2.1).2.2≠0\/(aA s (aA s 1).2.1).1>(aA s 1).1)) :
 pB c s=HV c s (aA s 1).1 (aA s (aA s 1).2.1).1 (fR s (aA s (aA s 1).2.1).2.1 (aA s 1).1 (aA s (aA s 1).2.1).1):=by rw[pB,if_neg h,if_neg h2]
theorem qOA {c:Col} {s:ByteArray} {n k:Int} {x:List Bool×Bool×Int} (h:x.2.1=false):HV c s n k x=([],false):=by rw[HV,if_pos h]
theorem qOB {c:Col} {s:ByteArray} {n k A:Int} {N:List Bool} (h1:(fU c.2.1 (aG s (0:Int).toNat) (s.extract A.toNat s.size) (n-k)).2=false):HV c s n k (N,true,A)=([],false):=by
 rw[HV,if_neg (fun q=>Bool.noConfusion q),qTA,if_pos h1]
theorem RD {c:Col} {s:ByteArray} {n k A:Int} {N:List Bool} (h1:(fU c.2.1 (aG s (0:Int).toNat) (s.extract A.toNat s.size) (n-k)).2=true):HV c s n k (N,true,A)=asm c N (fU c.2.1 (aG s (0:Int).toNat) (s.extract A.toNat s.size) (n-k)).1 []:=by
 rw[HV,if_neg (fun q=>Bool.noConfusion q),qTA,if_neg (by rw[h1];decide)]
theorem qTF {c:Col} {s:ByteArray} (h:bS c.2.1=false):pD c s=([],1):=by rw[pD,if_pos h]
theorem qTG {c:Col} {s:ByteArray} (h:bS c.2.1=true) (h1:¬gK s=0):pD c s=([],gK s):=by rw[pD,if_neg (by rw[h];decide),if_pos h1]
theorem qTH {c:Col} {s:ByteArray} (h:bS c.2.1=true) (h1:gK s=0) (h2:(pB c (gX s)).2=false):pD c s=([],2):=by rw[pD,if_neg (by rw[h];decide),if_neg (fun q=>q h1),if_pos h2]
theorem qJ0 {c:Col} {s:ByteArray} (h:bS c.2.1=true) (h1:gK s=0) (h2:(pB c (gX s)).2=true):pD c s=((pB c (gX s)).1,0):=by rw[pD,if_neg (by rw[h];decide),if_neg (fun q=>q h1),if_neg (by rw[h2];decide)]
theorem GO {n:Int} {l:List Val} (h:(l.length:Int)<=n):((rO n l).length:Int)=n:=by
 unfold rO;rw[List.length_append,List.length_replicate];omega
theorem TL (n:Int):rO n []=List.replicate n.toNat ZV:=by
 unfold rO;simp
theorem TK {n:Int} {l:List Val} {i:Int} (hi:i=(l.length:Int)) (h:i<n):(rO n l)[i.toNat]! =ZV:=by
 unfold rO;rw[List.getElem!_eq_getElem?_getD,List.getElem?_append_right (by omega),List.getElem?_replicate,if_pos (by omega)];rfl
theorem TM {n:Int} {l:List Val} {i:Int} (v:Val) (hi:i=(l.length:Int)) (h:i<n):(rO n l).set i.toNat v=rO n (l++ [v]):=by
 unfold rO;rw[List.set_append_right _ _ (by omega),show i.toNat-l.length=0 by omega];obtain⟨m,hm⟩:∃m,(n-l.length).toNat=m+1:=⟨(n-l.length).toNat-1,by omega⟩
 rw[hm,List.replicate_succ,List.set_cons_zero,List.append_assoc];have:(n-(l++ [v]).length).toNat=m:=by simp;omega
 rw[this];rfl
theorem qGS {W:List ByteArray} {i:Int} (h:0<=i/\i<W.length):(W.take (i+1).toNat).map sV=(W.take i.toNat).map sV++ [sV W[i.toNat]!]:=by
 rw[show(i+1).toNat=i.toNat+1 by omega,List.take_succ_eq_append_getElem (by omega),getElem!_pos W i.toNat (by omega),List.map_append];rfl
theorem nY {α:Type} {W:List α} {i:Int} (h:0<=i/\i<=W.length):((W.take i.toNat).length:Int)=i:=by
 rw[List.length_take];omega
theorem wZ {s:ByteArray} {n:Int} (h:0<=n):((cP s n).1.length:Int)<=n:=by
 by_cases q:(cP s n).2=0
 ·have:=vF.1 q;omega
 ·rw[vF.2 q];simpa using h
theorem yE {s:ByteArray} {n:Int} (h:0<=n):((eH s n).1.length:Int)<=n:=by
 by_cases q:(eH s n).2=0
 ·have:=QG.1 q;omega
 ·rw[QG.2 q];simpa using h
theorem rZ {s:ByteArray} {n:Int} (h:0<=n):((cF s n).1.length:Int)<=n:=by
 by_cases q:(cF s n).2=0
 ·have:=FL.1 q;omega
 ·rw[FL.2 q];simpa using h
theorem qV8 {t k:Int} {s:ByteArray} {n:Int} (h:k=1):fU t k s n=kI t s n.toNat 0 []:=by rw[fU,if_pos h]
theorem qV9 {t k:Int} {s:ByteArray} {n:Int} (h:k=3):fU t k s n=((cP s n).1.map sV,decide ((cP s n).2=0)):=by rw[fU,if_neg (by omega),if_pos h]
theorem qMM {t k:Int} {s:ByteArray} {n:Int} (h:k=4):fU t k s n=((cF s n).1.map nV,decide ((cF s n).2=0)):=by rw[fU,if_neg (by omega),if_neg (by omega),if_pos h]
theorem qML {t k:Int} {s:ByteArray} {n:Int} (h1:¬k=1) (h3:¬k=3) (h4:¬k=4):fU t k s n=((eH s n).1.map nV,decide ((eH s n).2=0)):=by rw[fU,if_neg h1,if_neg h3,if_neg h4]
theorem qYX {t k:Int} {s:ByteArray} {n:Int} (h:k=1):uL t k s n=kI t s n.toNat 0 []:=by rw[uL,if_pos h]
theorem WK {t k:Int} {s:ByteArray} {n:Int} (h:¬k=1):uL t k s n=(rO n (fU t k s n).1,(fU t k s n).2):=by rw[uL,if_neg h]
def HX (t:Int):List Int:=if t=3 then[1,3]else[1,2,4]
theorem qJJ (t:Int):(HX t).length<=3:=by unfold HX;split<;>simp
theorem jK (t k:Int):(HX t).any (fun x=>decide (x=k))=cT t k:=by
 unfold HX cT;split<;>simp [Bool.or_assoc,eq_comm]
theorem qFN {l:List Int} {i k:Int} (h:0<=i/\i<l.length):(l.take (i+1).toNat).any (fun x=>decide (x=k))=((l.take i.toNat).any (fun x=>decide (x=k))||decide (l[i.toNat]! =k)):=by
 rw[nX h];simp
theorem WM {t k:Int} (h:cT t k=true):1<=k/\k<=4:=by
 unfold cT at h;split at h<;>simp at h<;>omega
theorem nD {L:List Val} {i:Int} {v:Val} (h:0<=i/\i<L.length):(L.set i.toNat v).take (i+1).toNat=L.take i.toNat++ [v]:=by
 rw[show(i+1).toNat=i.toNat+1 by omega,yL _ _ _ (by omega)]
theorem oU {L:List Val} {i:Int} {v:Val} (h:0<=i/\i<L.length):(L.set i.toNat v)[i.toNat]! =v:=by
 rw[getElem!_pos _ _ (by rw[List.length_set];omega)];simp
theorem qHH {L:List Val} {i:Int} {v:Val} (h:0<=i) (hz:∀j:Nat,i<=j->L[j]! =ZV):∀j:Nat,i+1<=j->(L.set i.toNat v)[j]! =ZV:=fun j hj=>by
 have:=hz j (by omega);rw[List.getElem!_eq_getElem?_getD]at this ⊢;rw[List.getElem?_set_ne (by omega)];exact this
theorem qQT (n:Nat):∀j:Nat,(0:Int)<=j->(List.replicate n ZV)[j]! =ZV:=fun j _=>by
 rw[List.getElem!_eq_getElem?_getD,List.getElem?_replicate];split<;>rfl
theorem qKA (s:ByteArray) (a b:Nat):(s.extract a b).size<=s.size:=by simp;omega
abbrev qMZ:Ty:=.pair .str (.int .i64)
abbrev Rdr:Type:=ByteArray×Int
@[reducible] instance:Inhabited Rdr:=instInhabitedDen qMZ
end Go.Proofs.YtcjiefknhfhmkaaGreatDoor
