import Derived.Test.YtcjiefknhfhmkaaGreatDoorM08
namespace Go.Proofs.YtcjiefknhfhmkaaGreatDoor
open Go.Abs
set_option maxRecDepth 100000
set_option maxHeartbeats 4000000
set_option linter.unusedVariables false
set_option linter.unusedSimpArgs false
abbrev DN:Ct:=.fn [.int .i64,.str,.int .i64] (some (fun(t:Int) (s:ByteArray) (n:Int)=>(s.size<=288230376151711744)/\(0<=n/\n<=4096))) (fun(t:Int) (s:ByteArray) (n:Int)=>.tup [.list bK,.bool] ((jU t s n.toNat 0 []).1,(jU t s n.toNat 0 []).2,()))
theorem qKS:aF Tryz.prog 195 DN:=by
 refine aF.fn qHR mixed [] [] rfl rfl ?_;rintro⟨(t:Int),(s:ByteArray),(n:Int),_⟩ hpre;replace hpre:=hpre _ rfl;dsimp only[cu]at hpre;obtain⟨hs,hn⟩:=hpre;refine⟨[(0,6,LA.mk [.sl 9 (.int .i64),.lst 8 bK 43] (fun y=>Tag 51/\cu [.int .i64,.list bK] (fun(a:Int) (M:List Val)=>((jU t s n.toNat 0 [])=jU t s (n-M.length).toNat a M)/\(0<=a/\a<=s.size)/\((M.length:Int)<=n)) y) (cu [.int .i64,.list bK] (fun(a:Int) (M:List Val)=>(n-(M.length:Int)).toNat)) (cu [.int .i64,.list bK] (fun(a:Int) (M:List Val)=>([]:List (Nat×Nat×LA)))))],?_⟩;repeat' (first
  |(
 with_reducible refine Side.mk ⟨(⟨⟩:Tag 51),?_⟩
 dsimp only[cu,aC,aB,gts,eE,eN]
 refine⟨?_,?_,?_⟩
 ·first
  |rw[List.length_nil];simp;done
  |(
  have hg:=aG s a
  have h1:(aA s a).2.2=0:=by with_reducible assumption
  have hok:=bC h1
  first
  |(
   have ht:¬t=3:=by with_reducible assumption
   rw[hM,qPD (by omega) h1 ht];rfl)
  |(
   have hu:=aN (n:=(s.size:Int)-(aA s a).2.1) (by omega);have ht:t=3:=by with_reducible assumption
   have h2:¬(aA s a).1>s.size-(aA s a).2.1:=by omega
   rw[hM,qPE (by omega) h1 ht h2];rfl))
 ·first
  |omega
  |(
  have hg:=aG s a
  have h1:(aA s a).2.2=0:=by with_reducible assumption
  have hok:=bC h1
  first
  |omega
  |(
   have hu:=aN (n:=(s.size:Int)-(aA s a).2.1) (by omega);have ht:t=3:=by with_reducible assumption
   have h2:¬(aA s a).1>s.size-(aA s a).2.1:=by omega
   omega))
 ·first
  |simp only[List.length_nil];omega
  |(simp only[List.length_append,List.length_cons,List.length_nil];omega))
  |(
 with_reducible apply Side.mk
 (try dsimp only[cu,aC,aB,gts,loK,hiK,eE,eN])
 first
 |done
 |omega
 |exact Eq.refl _
 |simp only[List.length_append,List.length_cons,List.length_nil];omega
 |(
  have hg:=aG s a;have h1:(aA s a).2.2=0:=by with_reducible assumption
  have hok:=bC h1;first
  |omega
  |(
   have hu:=aN (n:=(s.size:Int)-(aA s a).2.1) (by omega);omega)))
  |(conv=>whnf
    first
     |with_reducible first|done|exact trivial|refine NilBr.mk (fun h=>?_) ?_|apply aI|apply aH|refine aJ (by kernel_rfl) ?_|apply aK|apply bE|apply bD|apply aQ
     |((with_reducible first|apply aS|apply aR|apply bB)<;>intro h<;>(try dsimp only[cu,eE,eN]at h)<;>(try(exfalso;omega)))
     |(
 intro yy (hy:Tag 51/\_)
 obtain⟨(a:Int),(M:List Val),_⟩:=yy
 replace hy:=hy.2
 dsimp only[cu,aC,aB,gts,eE,eN]at hy
 obtain⟨hM,ha,hl⟩:=hy)))
 all_goals(
 with_reducible apply Leaf.mk
 (try dsimp only[cu,aC,aB,gts,eE,eN]at *)
 first
 |(
  have h1:¬(aA s a).2.2=0:=by with_reducible assumption
  rw[hM,qPC (by omega) h1])
 |(
  have hg:=aG s a;have h1:(aA s a).2.2=0:=by with_reducible assumption
  have hok:=bC h1;have hu:=aN (n:=(s.size:Int)-(aA s a).2.1) (by omega);have ht:t=3:=by with_reducible assumption
  have h2:(aA s a).1>s.size-(aA s a).2.1:=by omega
  rw[hM,XR (by omega) h1 ht h2])
 |(rw[hM,qPB (by omega)]))
abbrev qcG:Tbl:=(195,DN)::qcF
theorem qHS:aD Tryz.prog qcG:=aD.cons qKS qHR
abbrev DX:Ct:=.fn [.int .i64,.str,.int .i64] (some (fun(t:Int) (s:ByteArray) (n:Int)=>(s.size<=288230376151711744)/\(0<=n/\n<=4096))) (fun(t:Int) (s:ByteArray) (n:Int)=>.tup [.list bK,.bool] ((jU t s n.toNat 0 []).1,(jU t s n.toNat 0 []).2,()))
theorem qLJ:aF Tryz.prog 188 DX:=by
 refine aF.fn qHS mixed [] [163] rfl rfl ?_;rintro⟨(t:Int),(s:ByteArray),(n:Int),_⟩ hpre;replace hpre:=hpre _ rfl;dsimp only[cu]at hpre;obtain⟨hs,hn⟩:=hpre;refine⟨[(0,8,LA.mk [.sl 23 (.int .i64),.ar 1 bK 43,.ob 0 qQO 194] (fun y=>Tag 52/\cu [.int .i64,.list bK,qQO] (fun(i:Int) (L:List Val) (r:Rdr)=>(0<=i/\i<=n)/\((L.length:Int)=n)/\(s=r.1)/\(0<=r.2/\r.2<=s.size)/\(∀j:Nat,i<=j->L[j]! =ZV)/\((jU t s n.toNat 0 [])=jU t s (n-(L.take i.toNat).length).toNat r.2 (L.take i.toNat))) y) (cu [.int .i64,.list bK,qQO] (fun(i:Int) (L:List Val) (r:Rdr)=>(n-i).toNat)) (cu [.int .i64,.list bK,qQO] (fun(i:Int) (L:List Val) (r:Rdr)=>([]:List (Nat×Nat×LA)))))],?_⟩;repeat' (first
  |(
 with_reducible refine Side.mk ⟨(⟨⟩:Tag 52),?_⟩
 dsimp only[cu,aC,aB,gts,eE,eN]
 refine⟨?_,?_,?_,?_,?_,?_⟩
 ·omega
 ·first
  |rw[List.length_replicate];omega
  |rw[List.length_set];omega
 ·rfl
 ·first
  |omega
  |(
  have hg:=aG s a
  have h1:(aA s a).2.2=0:=by with_reducible assumption
  have hok:=bC h1
  omega)
 ·first
  |exact qUE _
  |exact qK1 (by omega) hz
 ·first
  |simp;done
  |(
  have hg:=aG s a
  have h1:(aA s a).2.2=0:=by with_reducible assumption
  have hok:=bC h1
  first
  |(
   have ht:¬t=3:=by with_reducible assumption
   have hml:((L.take i.toNat).length:Int)=i:=pK (by omega);have hz0:=hz i.toNat (by omega);rw[hM,qPD (by omega) h1 ht];rw[oN (by omega)];rw[hz0];rfl)
  |(
   have hus:=aN (n:=(s.size:Int)) (by omega);have ht:t=3:=by with_reducible assumption
   have hml:((L.take i.toNat).length:Int)=i:=pK (by omega);have hz0:=hz i.toNat (by omega);have h2:¬(aA s a).1>s.size-(aA s a).2.1:=by omega
   rw[hM,qPE (by omega) h1 ht h2];rw[oN (by omega)];rw[hz0];rfl)))
  |(
 with_reducible apply Side.mk
 (try dsimp only[cu,aC,aB,gts,loK,hiK,eE,eN])
 first
 |omega
 |(
  have hg:=aG s a;have h1:(aA s a).2.2=0:=by with_reducible assumption
  have hok:=bC h1;first
  |omega
  |(
   have hus:=aN (n:=(s.size:Int)) (by omega);omega)))
  |(conv=>whnf
    first
     |with_reducible first|done|exact trivial|refine NilBr.mk (fun h=>?_) ?_|apply aI|apply aH|refine aJ (by kernel_rfl) ?_|apply aK|apply bE|apply bD|apply aQ
     |((with_reducible first|apply aS|apply aR|apply bB)<;>intro h<;>(try dsimp only[cu,eE,eN]at h)<;>(try(exfalso;omega)))
     |(
 intro yy (hy:Tag 52/\_)
 obtain⟨(i:Int),(L:List Val),(r:Rdr),_⟩:=yy
 replace hy:=hy.2
 dsimp only[cu,aC,aB,gts,eE,eN]at hy
 obtain⟨hi,hl,hr,ha,hz,hM⟩:=hy
 obtain⟨r1,a⟩:=r
 dsimp only at hr ha hM
 subst hr)))
 all_goals(
 with_reducible apply Leaf.mk
 (try dsimp only[cu,aC,aB,gts,eE,eN]at *)
 first
 |(
  have hml:((L.take i.toNat).length:Int)=i:=pK (by omega);first
  |(
   have h1:¬(aA s a).2.2=0:=by with_reducible assumption
   rw[hM,qPC (by omega) h1])
  |(
   have hg:=aG s a;have h1:(aA s a).2.2=0:=by with_reducible assumption
   have hok:=bC h1;have hus:=aN (n:=(s.size:Int)) (by omega);have ht:t=3:=by with_reducible assumption
   have h2:(aA s a).1>s.size-(aA s a).2.1:=by omega
   rw[hM,XR (by omega) h1 ht h2])
  |(rw[hM,qPB (by omega),List.take_of_length_le (by omega)])))
abbrev qcH:Tbl:=(188,DX)::qcG
theorem qHT:aD Tryz.prog qcH:=aD.cons qLJ qHS
abbrev HM:Ct:=.fn [.str,.int .i64] (some (fun(s:ByteArray) (n:Int)=>(s.size<=288230376151711744))) (fun(s:ByteArray) (n:Int)=>.tup [.list (.int .i64),.int .i64] ((bA s n).1,(bA s n).2,()))
theorem qPM:aF Tryz.prog 198 HM:=by
 refine aF.fn qHT mixed [(0,10,3000009),(0,11,3500009),(0,12,3500009),(0,35,9),(0,35,11),(0,35,12)] [] rfl rfl ?_;rintro⟨(s:ByteArray),(n:Int),_⟩ hpre;replace hpre:=hpre _ rfl;dsimp only[cu]at hpre;have hs:=hpre;refine⟨[(0,22,LA.mk [.sl 7 (.int .i64),.lst 9 (.int .i64) 2] (fun y=>Tag 53/\cu [.int .i64,.list (.int .i64)] (fun(a:Int) (M:List Int)=>(dd s n (aA s 0).2.1 [jP (aA s 0).1]=dd s n a M)/\(1<=M.length/\(M.length:Int)<=n)) y) (cu [.int .i64,.list (.int .i64)] (fun(a:Int) (M:List Int)=>(n-(M.length:Int)).toNat)) (cu [.int .i64,.list (.int .i64)] (fun(a:Int) (M:List Int)=>([(0,58,LA.mk [.sl 100 (.int .i64),.sl 17 .bool,.sl 18 (.int .i64),.lst 9 (.int .i64) 2] (fun y=>Tag 54/\cu [.int .i64,.bool,.int .i64,.list (.int .i64)] (fun(i:Int) (z:Bool) (m:Int) (Q:List Int)=>(0<=i/\i<=(aM (s.extract ((aA s a).2.1+1).toNat ((aA s a).2.1+1+bP (aZ 32 (n-(M.length:Int))) (aE s (aA s a).2.1.toNat)).toNat) (aZ 32 (n-(M.length:Int))) (aE s (aA s a).2.1.toNat)).1.length)/\(z=((aM (s.extract ((aA s a).2.1+1).toNat ((aA s a).2.1+1+bP (aZ 32 (n-(M.length:Int))) (aE s (aA s a).2.1.toNat)).toNat) (aZ 32 (n-(M.length:Int))) (aE s (aA s a).2.1.toNat)).1.take i.toNat).any (fun v=>decide (v=0)))/\(m=mwL ((aM (s.extract ((aA s a).2.1+1).toNat ((aA s a).2.1+1+bP (aZ 32 (n-(M.length:Int))) (aE s (aA s a).2.1.toNat)).toNat) (aZ 32 (n-(M.length:Int))) (aE s (aA s a).2.1.toNat)).1.take i.toNat))/\(∀v,v∈(aM (s.extract ((aA s a).2.1+1).toNat ((aA s a).2.1+1+bP (aZ 32 (n-(M.length:Int))) (aE s (aA s a).2.1.toNat)).toNat) (aZ 32 (n-(M.length:Int))) (aE s (aA s a).2.1.toNat)).1.take i.toNat->v<=9223372036854775807-dL s a)/\(Q=M++uS (mX M) (((aM (s.extract ((aA s a).2.1+1).toNat ((aA s a).2.1+1+bP (aZ 32 (n-(M.length:Int))) (aE s (aA s a).2.1.toNat)).toNat) (aZ 32 (n-(M.length:Int))) (aE s (aA s a).2.1.toNat)).1.take i.toNat).map (fun v=>IntKind.i64.wrap (jP (aA s a).1+v))))) y) (cu [.int .i64,.bool,.int .i64,.list (.int .i64)] (fun(i:Int) (z:Bool) (m:Int) (Q:List Int)=>(((aM (s.extract ((aA s a).2.1+1).toNat ((aA s a).2.1+1+bP (aZ 32 (n-(M.length:Int))) (aE s (aA s a).2.1.toNat)).toNat) (aZ 32 (n-(M.length:Int))) (aE s (aA s a).2.1.toNat)).1.length:Int)-i).toNat)) (cu [.int .i64,.bool,.int .i64,.list (.int .i64)] (fun(i:Int) (z:Bool) (m:Int) (Q:List Int)=>([]:List (Nat×Nat×LA)))))]:List (Nat×Nat×LA)))))],?_⟩;repeat' (first
  |(
 with_reducible refine Side.mk ⟨(⟨⟩:Tag 53),?_⟩
 dsimp only[cu,aC,aB,gts,eE,eN]
 refine⟨?_,?_⟩
 ·first
  |rfl
  |(
  have q0:(!cC n)=false:=by with_reducible assumption
  have q1:=bL q0
  have hk:=oY (n:=n) (M:=M) (by omega)
  have hg:=aG s a
  have hw:=rS s a
  have hn:=iH (aZ 32 (n-(M.length:Int))) (aE s (aA s a).2.1.toNat)
  have eW:dW s a=aE s (aA s a).2.1.toNat:=rfl
  have eE:dE s a (aZ 32 (n-(M.length:Int)))=(aA s a).2.1+1+bP (aZ 32 (n-(M.length:Int))) (aE s (aA s a).2.1.toNat):=rfl
  have eU:dU s a (aZ 32 (n-(M.length:Int)))=(aM (s.extract ((aA s a).2.1+1).toNat ((aA s a).2.1+1+bP (aZ 32 (n-(M.length:Int))) (aE s (aA s a).2.1.toNat)).toNat) (aZ 32 (n-(M.length:Int))) (aE s (aA s a).2.1.toNat)):=rfl
  have hg0:(aA s a).2.2=0:=by with_reducible assumption
  have hok:=bC hg0
  have hu0:(aM (s.extract ((aA s a).2.1+1).toNat ((aA s a).2.1+1+bP (aZ 32 (n-(M.length:Int))) (aE s (aA s a).2.1.toNat)).toNat) (aZ 32 (n-(M.length:Int))) (aE s (aA s a).2.1.toNat)).2=0:=by with_reducible assumption
  have hul:=dG hu0
  have ht:(aM (s.extract ((aA s a).2.1+1).toNat ((aA s a).2.1+1+bP (aZ 32 (n-(M.length:Int))) (aE s (aA s a).2.1.toNat)).toNat) (aZ 32 (n-(M.length:Int))) (aE s (aA s a).2.1.toNat)).1.take i.toNat=(aM (s.extract ((aA s a).2.1+1).toNat ((aA s a).2.1+1+bP (aZ 32 (n-(M.length:Int))) (aE s (aA s a).2.1.toNat)).toNat) (aZ 32 (n-(M.length:Int))) (aE s (aA s a).2.1.toNat)).1:=List.take_of_length_le (by omega)
  rw[ht]at hz hm hr hQ
  have e5:dOk s a (aZ 32 (n-(M.length:Int)))=true:=by
   rw[IZ hk.1 (by rw[eU];exact hu0),eU,eW];exact⟨by rw[<-hz];first|with_reducible assumption|exact kU (by with_reducible assumption),by rw[<-hm];first|with_reducible assumption|omega,hr⟩
  have eb:=qX0 (k:=aZ 32 (n-(M.length:Int))) hg0 (by omega) (by omega) (by omega) e5
  rw[hM,qEL (by omega) (by rw[eb]),eb,hQ]
  rfl)
 ·first
  |(
  have q0:(!cC n)=false:=by with_reducible assumption
  have q1:=bL q0
  first
  |simp;omega
  |(
   have hk:=oY (n:=n) (M:=M) (by omega);have hg:=aG s a;have hw:=rS s a;have hn:=iH (aZ 32 (n-(M.length:Int))) (aE s (aA s a).2.1.toNat);have eW:dW s a=aE s (aA s a).2.1.toNat:=rfl;have eE:dE s a (aZ 32 (n-(M.length:Int)))=(aA s a).2.1+1+bP (aZ 32 (n-(M.length:Int))) (aE s (aA s a).2.1.toNat):=rfl;have eU:dU s a (aZ 32 (n-(M.length:Int)))=(aM (s.extract ((aA s a).2.1+1).toNat ((aA s a).2.1+1+bP (aZ 32 (n-(M.length:Int))) (aE s (aA s a).2.1.toNat)).toNat) (aZ 32 (n-(M.length:Int))) (aE s (aA s a).2.1.toNat)):=rfl;have hg0:(aA s a).2.2=0:=by with_reducible assumption
   have hok:=bC hg0;have hu0:(aM (s.extract ((aA s a).2.1+1).toNat ((aA s a).2.1+1+bP (aZ 32 (n-(M.length:Int))) (aE s (aA s a).2.1.toNat)).toNat) (aZ 32 (n-(M.length:Int))) (aE s (aA s a).2.1.toNat)).2=0:=by with_reducible assumption
   have hul:=dG hu0;have hQl:=congrArg List.length hQ;simp only[List.length_append,jX,List.length_map,List.length_take]at hQl;omega)))
  |(
 with_reducible refine Side.mk ⟨(⟨⟩:Tag 54),?_⟩
 dsimp only[cu,aC,aB,gts,eE,eN]
 refine⟨?_,?_,?_,?_,?_⟩
 ·omega
 ·first
  |rfl
  |(
  (try simp only[dH]at *)
  rw[qMB (by omega),<-hz]
  first|done|rfl|(simp_all;done))
 ·first
  |rfl
  |(
  (try simp only[dH]at *)
  rw[qTN (by omega),<-hm])
 ·first
  |intro v hv;simp at hv;done
  |(
  (try simp only[dH]at *)
  have hro:IntKind.u64.wrap (9223372036854775807-IntKind.u64.wrap (jP (aA s a).1))=9223372036854775807-dL s a:=qFU (qEJ s a)
  refine qOJ (P:=fun v=>v<=9223372036854775807-dL s a) (by omega) hr ?_
  show(_:Int)<=_
  omega)
 ·first
  |simp [uS];done
  |(
  have q0:(!cC n)=false:=by with_reducible assumption
  have q1:=bL q0
  have hk:=oY (n:=n) (M:=M) (by omega)
  have hg:=aG s a
  have hw:=rS s a
  have hn:=iH (aZ 32 (n-(M.length:Int))) (aE s (aA s a).2.1.toNat)
  have eW:dW s a=aE s (aA s a).2.1.toNat:=rfl
  have eE:dE s a (aZ 32 (n-(M.length:Int)))=(aA s a).2.1+1+bP (aZ 32 (n-(M.length:Int))) (aE s (aA s a).2.1.toNat):=rfl
  have eU:dU s a (aZ 32 (n-(M.length:Int)))=(aM (s.extract ((aA s a).2.1+1).toNat ((aA s a).2.1+1+bP (aZ 32 (n-(M.length:Int))) (aE s (aA s a).2.1.toNat)).toNat) (aZ 32 (n-(M.length:Int))) (aE s (aA s a).2.1.toNat)):=rfl
  have hg0:(aA s a).2.2=0:=by with_reducible assumption
  have hok:=bC hg0
  have hu0:(aM (s.extract ((aA s a).2.1+1).toNat ((aA s a).2.1+1+bP (aZ 32 (n-(M.length:Int))) (aE s (aA s a).2.1.toNat)).toNat) (aZ 32 (n-(M.length:Int))) (aE s (aA s a).2.1.toNat)).2=0:=by with_reducible assumption
  have hul:=dG hu0
  have hQl:=congrArg List.length hQ
  simp only[List.length_append,jX,List.length_map,List.length_take]at hQl
  (try simp only[dH]at *)
  rw[qE8 (by omega),KT,<-hQ,qdC,qE5 (by omega)]))
  |(
 with_reducible apply Side.mk
 (try dsimp only[cu,aC,aB,gts,loK,hiK,eE,eN])
 first
 |done
 |omega
 |exact Eq.refl _
 |simp only[List.length_append,List.length_cons,List.length_nil];omega
 |(
  have q0:(!cC n)=false:=by with_reducible assumption
  have q1:=bL q0;omega)
 |exact aG _ _
 |exact uV _ _ _ _
 |(
  have q0:(!cC n)=false:=by with_reducible assumption
  have q1:=bL q0;have hk:=oY (n:=n) (M:=M) (by omega);have hg:=aG s a;have hw:=rS s a;have hn:=iH (aZ 32 (n-(M.length:Int))) (aE s (aA s a).2.1.toNat);have eW:dW s a=aE s (aA s a).2.1.toNat:=rfl;have eE:dE s a (aZ 32 (n-(M.length:Int)))=(aA s a).2.1+1+bP (aZ 32 (n-(M.length:Int))) (aE s (aA s a).2.1.toNat):=rfl;have eU:dU s a (aZ 32 (n-(M.length:Int)))=(aM (s.extract ((aA s a).2.1+1).toNat ((aA s a).2.1+1+bP (aZ 32 (n-(M.length:Int))) (aE s (aA s a).2.1.toNat)).toNat) (aZ 32 (n-(M.length:Int))) (aE s (aA s a).2.1.toNat)):=rfl;have hg0:(aA s a).2.2=0:=by with_reducible assumption
  have hok:=bC hg0;first
  |omega
  |(
   have hu0:(aM (s.extract ((aA s a).2.1+1).toNat ((aA s a).2.1+1+bP (aZ 32 (n-(M.length:Int))) (aE s (aA s a).2.1.toNat)).toNat) (aZ 32 (n-(M.length:Int))) (aE s (aA s a).2.1.toNat)).2=0:=by with_reducible assumption
   have hul:=dG hu0;first
   |omega
   |(
    have hQl:=congrArg List.length hQ;simp only[List.length_append,jX,List.length_map,List.length_take]at hQl;first
    |omega
    |(
     (try simp only[List.length_cons,List.length_nil]);omega)))
  |(
   simp only[ByteArray.size_extract];omega)))
  |(conv=>whnf
    first
     |with_reducible first|done|exact trivial|refine NilBr.mk (fun h=>?_) ?_|apply aI|apply aH|refine aJ (by kernel_rfl) ?_|apply aK|apply bE|apply bD|apply aQ
     |((with_reducible first|apply aS|apply aR|apply bB)<;>intro h<;>(try dsimp only[cu,eE,eN]at h)<;>(try(exfalso;omega)))
     |(
 intro yy (hy:Tag 53/\_)
 obtain⟨(a:Int),(M:List Int),_⟩:=yy
 replace hy:=hy.2
 dsimp only[cu,aC,aB,gts,eE,eN]at hy
 obtain⟨hM,hl⟩:=hy)
     |(
 intro yy (hy:Tag 54/\_)
 obtain⟨(i:Int),(z:Bool),(m:Int),(Q:List Int),_⟩:=yy
 replace hy:=hy.2
 dsimp only[cu,aC,aB,gts,eE,eN]at hy
 obtain⟨hi,hz,hm,hr,hQ⟩:=hy)))
 all_goals(
 with_reducible apply Leaf.mk
 (try dsimp only[cu,aC,aB,gts,eE,eN]at *)
 first
 |(
  have q0:(!cC n)=true:=by with_reducible assumption
  rw[bA,if_pos (wC q0)])
 |(
  have q0:(!cC n)=false:=by with_reducible assumption
  have q1:=bL q0;first
  |(
   have q2:n=0:=by with_reducible assumption
   first
   |(
    have q3:¬s=⟨#[]⟩:=by first|with_reducible assumption|(simp_all;done)
    rw[bA,if_neg q1,if_pos q2,if_neg q3])
   |(
    have q3:s=⟨#[]⟩:=by first|with_reducible assumption|(simp_all;done)
    rw[bA,if_neg q1,if_pos q2,if_pos q3]))
  |(
   have q2:¬n=0:=by omega
   first
   |(
    have q3:(aA s 0).2.2≠0:=by with_reducible assumption
    rw[bA,if_neg q1,if_neg q2,if_pos q3])
   |(
    have q3:¬(aA s 0).2.2≠0:=fun q=>q (by with_reducible assumption)
    first
    |(
     have h1:¬(aA s a).2.2=0:=by with_reducible assumption
     have eb:fD s a (aZ 32 (n-(M.length:Int)))=([],0,(aA s a).2.2):=by rw[fD,if_pos h1]
     rw[bA,if_neg q1,if_neg q2,if_neg q3,hM];rw[tT (by omega) (by rw[eb];exact h1),eb];(try rfl))
    |(
     have q0:(!cC n)=false:=by with_reducible assumption
     have q1:=bL q0;have hk:=oY (n:=n) (M:=M) (by omega);have hg:=aG s a;have hw:=rS s a;have hn:=iH (aZ 32 (n-(M.length:Int))) (aE s (aA s a).2.1.toNat);have eW:dW s a=aE s (aA s a).2.1.toNat:=rfl;have eE:dE s a (aZ 32 (n-(M.length:Int)))=(aA s a).2.1+1+bP (aZ 32 (n-(M.length:Int))) (aE s (aA s a).2.1.toNat):=rfl;have eU:dU s a (aZ 32 (n-(M.length:Int)))=(aM (s.extract ((aA s a).2.1+1).toNat ((aA s a).2.1+1+bP (aZ 32 (n-(M.length:Int))) (aE s (aA s a).2.1.toNat)).toNat) (aZ 32 (n-(M.length:Int))) (aE s (aA s a).2.1.toNat)):=rfl;have hg0:(aA s a).2.2=0:=by with_reducible assumption
     have hok:=bC hg0;first
     |(
      have h2:(aA s a).2.1=s.size:=by omega
      have eb:fD s a (aZ 32 (n-(M.length:Int)))=([],0,10):=by rw[fD,if_neg (fun q=>q hg0),if_pos h2]
      rw[bA,if_neg q1,if_neg q2,if_neg q3,hM];rw[tT (by omega) (by rw[eb];decide),eb];(try rfl))
     |(
      have h2:¬(aA s a).2.1=s.size:=by omega
      first
      |(
       have h3:dW s a>64:=by omega
       have eb:fD s a (aZ 32 (n-(M.length:Int)))=([],0,2):=by rw[fD,if_neg (fun q=>q hg0),if_neg h2,if_pos h3]
       rw[bA,if_neg q1,if_neg q2,if_neg q3,hM];rw[tT (by omega) (by rw[eb];decide),eb];(try rfl))
      |(
       have h3:¬dW s a>64:=by omega
       have h4:dE s a (aZ 32 (n-(M.length:Int)))>s.size:=by omega
       have eb:fD s a (aZ 32 (n-(M.length:Int)))=([],0,10):=by rw[fD,if_neg (fun q=>q hg0),if_neg h2,if_neg h3,if_pos h4]
       rw[bA,if_neg q1,if_neg q2,if_neg q3,hM];rw[tT (by omega) (by rw[eb];decide),eb];(try rfl)))
     |(
      have hu0:¬(aM (s.extract ((aA s a).2.1+1).toNat ((aA s a).2.1+1+bP (aZ 32 (n-(M.length:Int))) (aE s (aA s a).2.1.toNat)).toNat) (aZ 32 (n-(M.length:Int))) (aE s (aA s a).2.1.toNat)).2=0:=by with_reducible assumption
      have hu2:(aM (s.extract ((aA s a).2.1+1).toNat ((aA s a).2.1+1+bP (aZ 32 (n-(M.length:Int))) (aE s (aA s a).2.1.toNat)).toNat) (aZ 32 (n-(M.length:Int))) (aE s (aA s a).2.1.toNat)).2=2:=by
       rcases qX3 (s:=s) (a:=a) (k:=aZ 32 (n-(M.length:Int))) ⟨hk.1,hk.2.1⟩ hg0 (by omega) (by omega)with q|q
       ·exact absurd q hu0
       ·exact q
      have e5:dOk s a (aZ 32 (n-(M.length:Int)))=false:=qB2 (fun q=>hu0 q.1);(try rw[hu2]);rw[bA,if_neg q1,if_neg q2,if_neg q3,hM];have eb:=qBU (k:=aZ 32 (n-(M.length:Int))) hg0 (by omega) (by omega) (by omega) e5;rw[tT (by omega) (by rw[eb];decide),eb];(try rfl))
     |(
      have hu0:(aM (s.extract ((aA s a).2.1+1).toNat ((aA s a).2.1+1+bP (aZ 32 (n-(M.length:Int))) (aE s (aA s a).2.1.toNat)).toNat) (aZ 32 (n-(M.length:Int))) (aE s (aA s a).2.1.toNat)).2=0:=by with_reducible assumption
      have hul:=dG hu0;first
      |(
       (try simp only[dH]at *);have hro:IntKind.u64.wrap (9223372036854775807-IntKind.u64.wrap (jP (aA s a).1))=9223372036854775807-dL s a:=qFU (qEJ s a);have e5:dOk s a (aZ 32 (n-(M.length:Int)))=false:=by
        rw[Bool.eq_false_iff,Ne,IZ hk.1 (by rw[eU];exact hu0),eU];rintro⟨_,_,q⟩;have hi3:i.toNat<(aM (s.extract ((aA s a).2.1+1).toNat ((aA s a).2.1+1+bP (aZ 32 (n-(M.length:Int))) (aE s (aA s a).2.1.toNat)).toNat) (aZ 32 (n-(M.length:Int))) (aE s (aA s a).2.1.toNat)).1.length:=by omega
        have e:=getElem!_pos (aM (s.extract ((aA s a).2.1+1).toNat ((aA s a).2.1+1+bP (aZ 32 (n-(M.length:Int))) (aE s (aA s a).2.1.toNat)).toNat) (aZ 32 (n-(M.length:Int))) (aE s (aA s a).2.1.toNat)).1 i.toNat hi3;have hm2:=q _ (List.getElem_mem hi3);rw[<-e]at hm2;omega
       rw[bA,if_neg q1,if_neg q2,if_neg q3,hM];have eb:=qBU (k:=aZ 32 (n-(M.length:Int))) hg0 (by omega) (by omega) (by omega) e5;rw[tT (by omega) (by rw[eb];decide),eb];(try rfl))
      |(
       have ht:(aM (s.extract ((aA s a).2.1+1).toNat ((aA s a).2.1+1+bP (aZ 32 (n-(M.length:Int))) (aE s (aA s a).2.1.toNat)).toNat) (aZ 32 (n-(M.length:Int))) (aE s (aA s a).2.1.toNat)).1.take i.toNat=(aM (s.extract ((aA s a).2.1+1).toNat ((aA s a).2.1+1+bP (aZ 32 (n-(M.length:Int))) (aE s (aA s a).2.1.toNat)).toNat) (aZ 32 (n-(M.length:Int))) (aE s (aA s a).2.1.toNat)).1:=List.take_of_length_le (by omega);rw[ht]at hz hm hr hQ;have e5:dOk s a (aZ 32 (n-(M.length:Int)))=false:=by
        rw[Bool.eq_false_iff,Ne,IZ hk.1 (by rw[eU];exact hu0),eU,eW];rintro⟨p1,p2,_⟩;rw[<-hz]at p1;rw[<-hm]at p2;first
        |(have h7:(!z)=true:=by with_reducible assumption
          rw[p1]at h7;exact absurd h7 (by decide))
        |exact absurd p2 (by with_reducible assumption)
        |omega
       rw[bA,if_neg q1,if_neg q2,if_neg q3,hM];have eb:=qBU (k:=aZ 32 (n-(M.length:Int))) hg0 (by omega) (by omega) (by omega) e5;rw[tT (by omega) (by rw[eb];decide),eb];(try rfl))))
    |(
     have ha:a<s.size:=by omega
     rw[bA,if_neg q1,if_neg q2,if_neg q3,hM];rw[SD (by omega),if_pos ha])
    |(
     have ha:¬a<s.size:=by omega
     rw[bA,if_neg q1,if_neg q2,if_neg q3,hM];rw[SD (by omega),if_neg ha])))))
abbrev qcI:Tbl:=(198,HM)::qcH
theorem qHU:aD Tryz.prog qcI:=aD.cons qPM qHT
abbrev DP:Ct:=.fn [.int .i64,.int .i64,.str,.int .i64] (some (fun(t:Int) (k:Int) (s:ByteArray) (n:Int)=>(s.size<=288230376151711744)/\(0<=n/\n<=4096)/\(1<=k/\k<=4))) (fun(t:Int) (k:Int) (s:ByteArray) (n:Int)=>.tup [.list bK,.bool] ((eP t k s n).1,(eP t k s n).2,()))
theorem qKV:aF Tryz.prog 174 DP:=by
 refine aF.fn qHU mixed [] [] rfl rfl ?_;rintro⟨(t:Int),(k:Int),(s:ByteArray),(n:Int),_⟩ hpre;replace hpre:=hpre _ rfl;dsimp only[cu]at hpre;obtain⟨hs,hn,hk⟩:=hpre;refine⟨[(0,14,LA.mk [.sl 37 (.int .i64),.lst 10 bK 43] (fun y=>Tag 55/\cu [.int .i64,.list bK] (fun(i:Int) (M:List Val)=>(0<=i/\i<=(cI s n).1.length)/\(M=((cI s n).1.take i.toNat).map sV)) y) (cu [.int .i64,.list bK] (fun(i:Int) (M:List Val)=>(((cI s n).1.length:Int)-i).toNat)) (cu [.int .i64,.list bK] (fun(i:Int) (M:List Val)=>([]:List (Nat×Nat×LA))))),(0,32,LA.mk [.sl 66 (.int .i64),.lst 10 bK 43] (fun y=>Tag 56/\cu [.int .i64,.list bK] (fun(i:Int) (M:List Val)=>(0<=i/\i<=(if k=4 then bA s n else bV s n).1.length)/\(M=((if k=4 then bA s n else bV s n).1.take i.toNat).map nV)) y) (cu [.int .i64,.list bK] (fun(i:Int) (M:List Val)=>(((if k=4 then bA s n else bV s n).1.length:Int)-i).toNat)) (cu [.int .i64,.list bK] (fun(i:Int) (M:List Val)=>([]:List (Nat×Nat×LA)))))],?_⟩;repeat' (first
  |(
 with_reducible refine Side.mk ⟨(⟨⟩:Tag 55),?_⟩
 dsimp only[cu,aC,aB,gts,eE,eN]
 refine⟨?_,?_⟩
 ·omega
 ·first
  |rfl
  |(rw[PS (by omega),<-hM];rfl))
  |(
 with_reducible refine Side.mk ⟨(⟨⟩:Tag 56),?_⟩
 dsimp only[cu,aC,aB,gts,eE,eN]
 refine⟨?_,?_⟩
 ·(
  first
  |have eW:(if k=4 then bA s n else bV s n)=bA s n:=if_pos (by omega)
  |have eW:(if k=4 then bA s n else bV s n)=bV s n:=if_neg (by omega)
  simp only[eW]at *;omega)
 ·first
  |rfl
  |(
  first
  |have eW:(if k=4 then bA s n else bV s n)=bA s n:=if_pos (by omega)
  |have eW:(if k=4 then bA s n else bV s n)=bV s n:=if_neg (by omega)
  simp only[eW]at *
  rw[qKB (by omega),<-hM];rfl))
  |(
 with_reducible apply Side.mk
 (try dsimp only[cu,aC,aB,gts,loK,hiK,eE,eN])
 first
 |done
 |omega
 |exact Eq.refl _
 |(
  have hdl:=vI (s:=s) (n:=n) hn.1;have hrl:=wB (s:=s) (n:=n) hn.1;have hdd:=qV (s:=s) (n:=n) hn.1;first
  |omega
  |(
   have hml:=congrArg List.length hM;simp only[List.length_map,List.length_take]at hml;(try simp only[List.length_cons,List.length_nil]);omega)
  |(
   first
   |have eW:(if k=4 then bA s n else bV s n)=bA s n:=if_pos (by omega)
   |have eW:(if k=4 then bA s n else bV s n)=bV s n:=if_neg (by omega)
   simp only[eW]at *;have hml:=congrArg List.length hM;simp only[List.length_map,List.length_take]at hml;(try simp only[List.length_cons,List.length_nil]);omega)))
  |(conv=>whnf
    first
     |with_reducible first|done|exact trivial|refine NilBr.mk (fun h=>?_) ?_|apply aI|apply aH|refine aJ (by kernel_rfl) ?_|apply aK|apply bE|apply bD|apply aQ
     |((with_reducible first|apply aS|apply aR|apply bB)<;>intro h<;>(try dsimp only[cu,eE,eN]at h)<;>(try(exfalso;omega)))
     |(
 intro yy (hy:Tag 55/\_)
 obtain⟨(i:Int),(M:List Val),_⟩:=yy
 replace hy:=hy.2
 dsimp only[cu,aC,aB,gts,eE,eN]at hy
 obtain⟨hi,hM⟩:=hy)
     |(
 intro yy (hy:Tag 56/\_)
 obtain⟨(i:Int),(M:List Val),_⟩:=yy
 replace hy:=hy.2
 dsimp only[cu,aC,aB,gts,eE,eN]at hy
 obtain⟨hi,hM⟩:=hy)))
 all_goals(
 with_reducible apply Leaf.mk
 (try dsimp only[cu,aC,aB,gts,eE,eN]at *)
 first
 |(
  have j1:k=1:=by omega
  have e:=qVU (t:=t) (s:=s) (n:=n) (k:=k) j1;rw[e])
 |(
  have j3:k=3:=by omega
  have e:=qVV (t:=t) (s:=s) (n:=n) (k:=k) j3;first
  |rw[e,hM,List.take_of_length_le (by omega)]
  |(rw[e]))
 |(
  first
  |have eW:(if k=4 then bA s n else bV s n)=bA s n:=if_pos (by omega)
  |have eW:(if k=4 then bA s n else bV s n)=bV s n:=if_neg (by omega)
  simp only[eW]at *;have j4:k=4:=by omega
  have e:=YH (t:=t) (s:=s) (n:=n) (k:=k) j4;rw[e,hM,List.take_of_length_le (by omega)])
 |(
  have j4:k=4:=by omega
  have e:=YH (t:=t) (s:=s) (n:=n) (k:=k) j4;rw[e])
 |(
  first
  |have eW:(if k=4 then bA s n else bV s n)=bA s n:=if_pos (by omega)
  |have eW:(if k=4 then bA s n else bV s n)=bV s n:=if_neg (by omega)
  simp only[eW]at *;have j4:¬k=4:=by omega
  have j1:¬k=1:=by omega
  have j3:¬k=3:=by omega
  have e:=YG (t:=t) (s:=s) (n:=n) (k:=k) j1 j3 j4;rw[e,hM,List.take_of_length_le (by omega)])
 |(
  have j4:¬k=4:=by omega
  have j1:¬k=1:=by omega
  have j3:¬k=3:=by omega
  have e:=YG (t:=t) (s:=s) (n:=n) (k:=k) j1 j3 j4;rw[e]))
abbrev qcJ:Tbl:=(174,DP)::qcI
theorem qHV:aD Tryz.prog qcJ:=aD.cons qKV qHU
theorem sW {α β:Type} {W:List α} {f:α->β} {i:Int} (h:0<=i/\i<=W.length):i=(((W.take i.toNat).map f).length:Int):=by
 rw[List.length_map,List.length_take];omega
theorem qE7 {W:List Int} {j:Int} (h:0<=j) (h1:j<W.length):(W.map nV)[j.toNat]! =nV W[j.toNat]!:=by
 rw[getElem!_pos _ _ (by rw[List.length_map];omega),getElem!_pos _ _ (by omega),List.getElem_map]
theorem uO {t k:Int} {s:ByteArray} {n:Int} (h:k=4):(eP t k s n).1.length=(bA s n).1.length/\∀j:Int,0<=j->j<(bA s n).1.length->(eP t k s n).1[j.toNat]! =nV (bA s n).1[j.toNat]!:=by
 rw[YH h];exact⟨by simp,fun j h0 h1=>qE7 h0 h1⟩
theorem uN {t k:Int} {s:ByteArray} {n:Int} (h1:¬k=1) (h3:¬k=3) (h4:¬k=4):(eP t k s n).1.length=(bV s n).1.length/\∀j:Int,0<=j->j<(bV s n).1.length->(eP t k s n).1[j.toNat]! =nV (bV s n).1[j.toNat]!:=by
 rw[YG h1 h3 h4];exact⟨by simp,fun j h0 h1=>qE7 h0 h1⟩
theorem qO3 {n i:Int} {R:List Val} (h:0<=i/\i<R.length) (h2:(R.length:Int)<=n):(tI n (R.take i.toNat))[i.toNat]! =ZV:=XC (by rw[pK (by omega)]) (by omega)
theorem XF {n i:Int} {R:List Val} (h:0<=i/\i<R.length) (h2:(R.length:Int)<=n):(tI n (R.take i.toNat)).set i.toNat R[i.toNat]! =tI n (R.take (i+1).toNat):=by
 rw[rL (by omega),XE _ (by rw[pK (by omega)]) (by omega)]
abbrev zE:Ct:=.fn [pJ,.int .i64,.str,.int .i64] (some (fun(c:Col) (k:Int) (s:ByteArray) (n:Int)=>(s.size<=288230376151711744)/\(0<=n/\n<=4096)/\(1<=k/\k<=4))) (fun(c:Col) (k:Int) (s:ByteArray) (n:Int)=>.tup [.list bK,.bool] ((wK c.2.1 k s n).1,(wK c.2.1 k s n).2,()))
theorem qD0:aF Tryz.prog 166 zE:=by
 refine aF.fn qHV mixed [] [] rfl rfl ?_;rintro⟨(c:Col),(k:Int),(s:ByteArray),(n:Int),_⟩ hpre;replace hpre:=hpre _ rfl;dsimp only[cu]at hpre;obtain⟨hs,hn,hk⟩:=hpre;obtain⟨c0,t,c2,c3⟩:=c;show _;refine⟨[(0,20,LA.mk [.sl 41 (.int .i64),.ar 1 bK 43] (fun y=>Tag 57/\cu [.int .i64,.list bK] (fun(i:Int) (L:List Val)=>(0<=i/\i<=(cI s n).1.length)/\(L=tI n (((cI s n).1.take i.toNat).map sV))) y) (cu [.int .i64,.list bK] (fun(i:Int) (L:List Val)=>(((cI s n).1.length:Int)-i).toNat)) (cu [.int .i64,.list bK] (fun(i:Int) (L:List Val)=>([]:List (Nat×Nat×LA))))),(0,40,LA.mk [.sl 73 (.int .i64),.ar 1 bK 43] (fun y=>Tag 58/\cu [.int .i64,.list bK] (fun(i:Int) (L:List Val)=>(0<=i/\i<=(eP t k s n).1.length)/\(L=tI n ((eP t k s n).1.take i.toNat))) y) (cu [.int .i64,.list bK] (fun(i:Int) (L:List Val)=>(((eP t k s n).1.length:Int)-i).toNat)) (cu [.int .i64,.list bK] (fun(i:Int) (L:List Val)=>([]:List (Nat×Nat×LA)))))],?_⟩;repeat' (first
  |(
 with_reducible refine Side.mk ⟨(⟨⟩:Tag 57),?_⟩
 dsimp only[cu,aC,aB,gts,eE,eN]
 refine⟨?_,?_⟩
 ·omega
 ·first
  |exact(XD n).symm
  |(
  have hdl:=vI (s:=s) (n:=n) hn.1
  have hrl:=wB (s:=s) (n:=n) hn.1
  have hdd:=qV (s:=s) (n:=n) hn.1
  rw[PS (by omega),<-XE _ (sW (by omega)) (by omega),<-hL]
  have hz:=XC (n:=n) (l:=((cI s n).1.take i.toNat).map sV) (i:=i) (sW (by omega)) (by omega)
  rw[<-hL]at hz
  rw[hz]
  rfl))
  |(
 with_reducible refine Side.mk ⟨(⟨⟩:Tag 58),?_⟩
 dsimp only[cu,aC,aB,gts,eE,eN]
 refine⟨?_,?_⟩
 ·first
  |(
  have hdl:=vI (s:=s) (n:=n) hn.1
  have hrl:=wB (s:=s) (n:=n) hn.1
  have hdd:=qV (s:=s) (n:=n) hn.1
  first
  |(
   have k4:k=4:=by omega
   obtain⟨el,ev⟩:=uO (t:=t) (s:=s) (n:=n) (k:=k) k4;omega)
  |(
   have k4:¬k=4:=by omega
   have k1:¬k=1:=by omega
   have k3:¬k=3:=by omega
   obtain⟨el,ev⟩:=uN (t:=t) (s:=s) (n:=n) (k:=k) k1 k3 k4;omega))
 ·first
  |exact(XD n).symm
  |(
  have hdl:=vI (s:=s) (n:=n) hn.1
  have hrl:=wB (s:=s) (n:=n) hn.1
  have hdd:=qV (s:=s) (n:=n) hn.1
  first
  |(
   have k4:k=4:=by omega
   obtain⟨el,ev⟩:=uO (t:=t) (s:=s) (n:=n) (k:=k) k4;rw[hL,<-XF (by omega) (by omega),qO3 (by omega) (by omega),ev i (by omega) (by omega)];rfl)
  |(
   have k4:¬k=4:=by omega
   have k1:¬k=1:=by omega
   have k3:¬k=3:=by omega
   obtain⟨el,ev⟩:=uN (t:=t) (s:=s) (n:=n) (k:=k) k1 k3 k4;rw[hL,<-XF (by omega) (by omega),qO3 (by omega) (by omega),ev i (by omega) (by omega)];rfl)))
  |(
 with_reducible apply Side.mk
 (try dsimp only[cu,aC,aB,gts,loK,hiK,eE,eN])
 first
 |omega
 |(
  have hdl:=vI (s:=s) (n:=n) hn.1;have hrl:=wB (s:=s) (n:=n) hn.1;have hdd:=qV (s:=s) (n:=n) hn.1;first
  |omega
  |(
   have hpl:=congrArg List.length hL;have hpv:=KE (n:=n) (l:=((cI s n).1.take i.toNat).map sV) (by rw[<-sW (by omega)];omega);omega)
  |(
   have k4:k=4:=by omega
   obtain⟨el,ev⟩:=uO (t:=t) (s:=s) (n:=n) (k:=k) k4;omega)
  |(
   have k4:¬k=4:=by omega
   have k1:¬k=1:=by omega
   have k3:¬k=3:=by omega
   obtain⟨el,ev⟩:=uN (t:=t) (s:=s) (n:=n) (k:=k) k1 k3 k4;omega)
  |(
   have k4:k=4:=by omega
   obtain⟨el,ev⟩:=uO (t:=t) (s:=s) (n:=n) (k:=k) k4;have hpl:=congrArg List.length hL;have hpv:=KE (n:=n) (l:=(eP t k s n).1.take i.toNat) (by rw[pK (by omega)];omega);omega)
  |(
   have k4:¬k=4:=by omega
   have k1:¬k=1:=by omega
   have k3:¬k=3:=by omega
   obtain⟨el,ev⟩:=uN (t:=t) (s:=s) (n:=n) (k:=k) k1 k3 k4;have hpl:=congrArg List.length hL;have hpv:=KE (n:=n) (l:=(eP t k s n).1.take i.toNat) (by rw[pK (by omega)];omega);omega)))
  |(conv=>whnf
    first
     |with_reducible first|done|exact trivial|refine NilBr.mk (fun h=>?_) ?_|apply aI|apply aH|refine aJ (by kernel_rfl) ?_|apply aK|apply bE|apply bD|apply aQ
     |((with_reducible first|apply aS|apply aR|apply bB)<;>intro h<;>(try dsimp only[cu,eE,eN]at h)<;>(try(exfalso;omega)))
     |(
 intro yy (hy:Tag 57/\_)
 obtain⟨(i:Int),(L:List Val),_⟩:=yy
 replace hy:=hy.2
 dsimp only[cu,aC,aB,gts,eE,eN]at hy
 obtain⟨hi,hL⟩:=hy)
     |(
 intro yy (hy:Tag 58/\_)
 obtain⟨(i:Int),(L:List Val),_⟩:=yy
 replace hy:=hy.2
 dsimp only[cu,aC,aB,gts,eE,eN]at hy
 obtain⟨hi,hL⟩:=hy)))
 all_goals(
 with_reducible apply Leaf.mk
 (try dsimp only[cu,aC,aB,gts,eE,eN]at *)
 first
 |rw[qdA (by omega)]
 |(
  have j3:k=3:=by omega
  have e:=qVV (t:=t) (s:=s) (n:=n) (k:=k) j3;rw[qBB (by omega),e];first
  |done
  |(rw[hL,List.take_of_length_le (by omega)]))
 |(
  have j4:k=4:=by omega
  have e:=YH (t:=t) (s:=s) (n:=n) (k:=k) j4;rw[qBB (by omega),e];done)
 |(
  have j4:¬k=4:=by omega
  have j1:¬k=1:=by omega
  have j3:¬k=3:=by omega
  have e:=YG (t:=t) (s:=s) (n:=n) (k:=k) j1 j3 j4;rw[qBB (by omega),e];done)
 |(
  have hdl:=vI (s:=s) (n:=n) hn.1;have hrl:=wB (s:=s) (n:=n) hn.1;have hdd:=qV (s:=s) (n:=n) hn.1;first
  |(
   have k4:k=4:=by omega
   obtain⟨el,ev⟩:=uO (t:=t) (s:=s) (n:=n) (k:=k) k4;have j4:k=4:=by omega
   have e:=YH (t:=t) (s:=s) (n:=n) (k:=k) j4;rw[qBB (by omega),hL,List.take_of_length_le (by omega)])
  |(
   have k4:¬k=4:=by omega
   have k1:¬k=1:=by omega
   have k3:¬k=3:=by omega
   obtain⟨el,ev⟩:=uN (t:=t) (s:=s) (n:=n) (k:=k) k1 k3 k4;have j4:¬k=4:=by omega
   have j1:¬k=1:=by omega
   have j3:¬k=3:=by omega
   have e:=YG (t:=t) (s:=s) (n:=n) (k:=k) j1 j3 j4;rw[qBB (by omega),hL,List.take_of_length_le (by omega)])))
abbrev qcK:Tbl:=(166,zE)::qcJ
theorem qHW:aD Tryz.prog qcK:=aD.cons qD0 qHV
theorem oo0 (s:ByteArray):(0<=(aA s 1).1/\(aA s 1).1<18446744073709551616)/\IntKind.u64.wrap 4096=4096/\0<=aE s (0:Int).toNat/\aE s (0:Int).toNat<256:=
 ⟨aG s 1,aN (n:=4096) (by decide),bI s _⟩
theorem oo2 (s:ByteArray) (h:0<=(aA s 1).1/\(aA s 1).1<=4096):(0<=(aA s (aA s 1).2.1).1/\(aA s (aA s 1).2.1).1<18446744073709551616)/\IntKind.u64.wrap (aA s 1).1=(aA s 1).1/\((aA s 1).1+7).tdiv 8=((aA s 1).1+7)/8:=
 ⟨aG s _,aN (by omega),lQ (by omega)⟩
theorem TI {b:Bool} (h:(!b)=true):b=false:=by cases b<;>simp_all
theorem yF {c:Col} {N:List Bool} {R M:List Val} {i:Int} (h:0<=i/\i<N.length) (hb:N[i.toNat]! =true) (hv:bN c NV=0):asm c (N.drop i.toNat) R M=asm c (N.drop (i+1).toNat) R (M++ [NV]):=by
 have e1:pkV true R=NV:=rfl;have e2:rsV true R=R:=rfl;rw[yG h,hb,e1,e2,if_neg (fun q=>q hv)]
theorem uZ {c:Col} {N:List Bool} {R M:List Val} {i:Int} (h:0<=i/\i<N.length) (hb:N[i.toNat]! =true) (hv:¬bN c NV=0):asm c (N.drop i.toNat) R M=([],false):=by
 have e1:pkV true R=NV:=rfl;rw[yG h,hb,e1,if_pos hv]
theorem FF {c:Col} {N:List Bool} {R M:List Val} {i:Int} (h:0<=i/\i<N.length) (hb:N[i.toNat]! =false) (hv:bN c R[(0:Int).toNat]! =0):asm c (N.drop i.toNat) R M=asm c (N.drop (i+1).toNat) (R.drop 1) (M++ [R[(0:Int).toNat]!]):=by
 have e1:pkV false R=R[(0:Int).toNat]!:=rfl;have e2:rsV false R=R.drop 1:=rfl;rw[yG h,hb,e1,e2,if_neg (fun q=>q hv)]
theorem yH {c:Col} {N:List Bool} {R M:List Val} {i:Int} (h:0<=i/\i<N.length) (hb:N[i.toNat]! =false) (hv:¬bN c R[(0:Int).toNat]! =0):asm c (N.drop i.toNat) R M=([],false):=by
 have e1:pkV false R=R[(0:Int).toNat]!:=rfl;rw[yG h,hb,e1,if_pos hv]
theorem RY {N:List Bool} {i:Int} (h:0<=i/\i<N.length) (hb:N[i.toNat]! =true):nG (N.drop i.toNat)=nG (N.drop (i+1).toNat):=by rw[OP h,hb];simp
theorem tR {N:List Bool} {i:Int} (h:0<=i/\i<N.length) (hb:N[i.toNat]! =false):nG (N.drop i.toNat)=1+nG (N.drop (i+1).toNat):=by rw[OP h,hb];simp
theorem RR {c:Col} {s:ByteArray} (h:cH c.2.1 (aE s (0:Int).toNat)=true) (h1:(aA s 1).2.2=0) (hn:(aA s 1).1<=4096) (h2:(aA s (aA s 1).2.1).2.2=0) (hk:(aA s (aA s 1).2.1).1<=(aA s 1).1) :
  lL c s=GN c s (aA s 1).1 (aA s (aA s 1).2.1).1 (cU s (aA s (aA s 1).2.1).2.1 (aA s 1).1 (aA s (aA s 1).2.1).1):=
 qZX (fun q=>by rcases q with q|q|q<;>simp_all<;>omega) (fun q=>by rcases q with q|q<;>simp_all<;>omega)
theorem cM {c:Col} {s:ByteArray} {N:List Bool} {A:Int} (h:cH c.2.1 (aE s (0:Int).toNat)=true) (h1:(aA s 1).2.2=0) (hn:(aA s 1).1<=4096) (h2:(aA s (aA s 1).2.1).2.2=0) (hk:(aA s (aA s 1).2.1).1<=(aA s 1).1)
  (eN:cU s (aA s (aA s 1).2.1).2.1 (aA s 1).1 (aA s (aA s 1).2.1).1=(N,true,A)):(N.length:Int)=(aA s 1).1/\0<=A/\A<=s.size /\
  ((eP c.2.1 (aE s (0:Int).toNat) (s.extract A.toNat s.size) ((aA s 1).1-(aA s (aA s 1).2.1).1)).2=true->lL c s=asm c N (eP c.2.1 (aE s (0:Int).toNat) (s.extract A.toNat s.size) ((aA s 1).1-(aA s (aA s 1).2.1).1)).1 [] /\
    (((eP c.2.1 (aE s (0:Int).toNat) (s.extract A.toNat s.size) ((aA s 1).1-(aA s (aA s 1).2.1).1)).1.length:Nat):Int)=((nG N:Nat):Int)) /\
  ((eP c.2.1 (aE s (0:Int).toNat) (s.extract A.toNat s.size) ((aA s 1).1-(aA s (aA s 1).2.1).1)).2=false->lL c s=([],false)):=by
 have g1:=aG s 1;have g2:=aG s (aA s 1).2.1;have o1:=bC h1;have o2:=bC h2;have hno:=qYU (s:=s) (a:=(aA s (aA s 1).2.1).2.1) (n:=(aA s 1).1) (k:=(aA s (aA s 1).2.1).1) (by omega) (by omega) (by omega) (by rw[eN]);rw[eN]at hno;obtain⟨m1,m2,m3,m4⟩:=hno;dsimp only at m1 m2 m3 m4;have hp:=RR h h1 hn h2 hk;rw[eN]at hp;have hn0:0<=(aA s 1).1-(aA s (aA s 1).2.1).1:=by omega
 refine⟨m1,m3,m4,fun hr=>⟨hp.trans (UU hr),?_⟩,fun hr=>hp.trans (qRU hr)⟩;rw[qFV hn0 hr,m2]
theorem vB {c:Col} {s:ByteArray} (h:cH c.2.1 (aE s (0:Int).toNat)=true) (h1:(aA s 1).2.2=0) (hn:(aA s 1).1<=4096) (h2:(aA s (aA s 1).2.1).2.2=0) (hk:(aA s (aA s 1).2.1).1<=(aA s 1).1)
  (eN:cU s (aA s (aA s 1).2.1).2.1 (aA s 1).1 (aA s (aA s 1).2.1).1=([],false,0)):lL c s=([],false):=by
 rw[RR h h1 hn h2 hk,eN,qRT rfl]
abbrev DB:Ct:=.fn [.int .i64] (none) (fun(t:Int)=>.d (.list (.int .i64)) (LN t))
theorem qJM:aF Tryz.prog 110 DB:=by
 refine aF.fn qHW mixed [] [] rfl rfl ?_;rintro⟨(t:Int),_⟩ -;refine⟨[],?_⟩;repeat' (first
  |(
 with_reducible apply Side.mk
 (try dsimp only[cu,aC,aB,gts,loK,hiK,eE,eN])
 exact Eq.refl _)
  |(conv=>whnf
    first
     |with_reducible first|done|exact trivial|refine NilBr.mk (fun h=>?_) ?_|apply aI|apply aH|refine aJ (by kernel_rfl) ?_|apply aK|apply bE|apply bD|apply aQ
     |((with_reducible first|apply aS|apply aR|apply bB)<;>intro h<;>(try dsimp only[cu,eE,eN]at h)<;>(try(exfalso;omega)))))
 all_goals(
 with_reducible apply Leaf.mk
 (try dsimp only[cu,aC,aB,gts,eE,eN]at *)
 first
 |(
  have ht:t=3:=by with_reducible assumption
  rw[LN,if_pos ht])
 |(
  have ht:¬t=3:=by with_reducible assumption
  rw[LN,if_neg ht]))
abbrev qcL:Tbl:=(110,DB)::qcK
theorem qHX:aD Tryz.prog qcL:=aD.cons qJM qHW
abbrev yK:Ct:=.fn [pJ,.str] (some (fun(c:Col) (s:ByteArray)=>(s.size<=288230376151711744)/\(1<=s.size))) (fun(c:Col) (s:ByteArray)=>.tup [.list bK,.bool] ((lL c s).1,(lL c s).2,()))
theorem qB7:aF Tryz.prog 134 yK:=by
 refine aF.fn qHX mixed [] [163] rfl rfl ?_;rintro⟨(c:Col),(s:ByteArray),_⟩ hpre;replace hpre:=hpre _ rfl;dsimp only[cu]at hpre;obtain⟨hs,h1⟩:=hpre;refine⟨[(0,8,LA.mk [.sl 28 (.int .i64),.sl 7 .bool] (fun y=>Tag 59/\cu [.int .i64,.bool] (fun(j:Int) (w:Bool)=>(0<=j/\j<=(LN c.2.1).length)/\(w=((LN c.2.1).take j.toNat).any (fun x=>decide (x=aE s (0:Int).toNat)))) y) (cu [.int .i64,.bool] (fun(j:Int) (w:Bool)=>(((LN c.2.1).length:Int)-j).toNat)) (cu [.int .i64,.bool] (fun(j:Int) (w:Bool)=>([]:List (Nat×Nat×LA))))),(0,60,LA.mk [.sl 128 (.int .i64),.ar 3 bK 43,.sl 17 (.list bK)] (fun y=>Tag 60/\cu [.int .i64,.list bK,.list bK] (fun(i:Int) (L:List Val) (R:List Val)=>(0<=i/\i<=(aA s 1).1)/\((L.length:Int)=(aA s 1).1)/\(lL c s=asm c ((cU s (aA s (aA s 1).2.1).2.1 (aA s 1).1 (aA s (aA s 1).2.1).1).1.drop i.toNat) R (L.take i.toNat))/\(((R.length:Nat):Int)=((nG ((cU s (aA s (aA s 1).2.1).2.1 (aA s 1).1 (aA s (aA s 1).2.1).1).1.drop i.toNat):Nat):Int))) y) (cu [.int .i64,.list bK,.list bK] (fun(i:Int) (L:List Val) (R:List Val)=>((aA s 1).1-i).toNat)) (cu [.int .i64,.list bK,.list bK] (fun(i:Int) (L:List Val) (R:List Val)=>([]:List (Nat×Nat×LA)))))],?_⟩;repeat' (first
  |(
 with_reducible refine Side.mk ⟨(⟨⟩:Tag 59),?_⟩
 dsimp only[cu,aC,aB,gts,eE,eN]
 refine⟨?_,?_⟩
 ·omega
 ·first
  |rfl
  |(
  rw[qJA (by omega),<-hw]
  first|rfl|(simp_all;done)))
  |(
 with_reducible refine Side.mk ⟨(⟨⟩:Tag 60),?_⟩
 dsimp only[cu,aC,aB,gts,eE,eN]
 refine⟨?_,?_,?_,?_⟩
 ·first
  |(
  have o0:=oo0 s
  have e1:(aA s 1).2.2=0:=by with_reducible assumption
  have o1:=bC e1
  have o2:=oo2 s (by omega)
  have e2:(aA s (aA s 1).2.1).2.2=0:=by with_reducible assumption
  have o3:=bC e2
  first
  |omega
  |(
   have hus0:cH c.2.1 (aE s (0:Int).toNat)=w:=by rw[<-kL,hw,List.take_of_length_le (by omega)]
   have hus:cH c.2.1 (aE s (0:Int).toNat)=true:=by rw[hus0];first|with_reducible assumption|exact kU (by with_reducible assumption)
   have kn:(aA s (aA s 1).2.1).1>0:=by omega
   have ke:¬((aA s (aA s 1).2.1).2.1+((aA s 1).1+7).tdiv 8)>s.size:=by omega
   have ku:(eQ (s.extract (aA s (aA s 1).2.1).2.1.toNat ((aA s (aA s 1).2.1).2.1+((aA s 1).1+7).tdiv 8).toNat) (aA s 1).1).2=0:=by with_reducible assumption
   have kc:kS (s.extract (aA s (aA s 1).2.1).2.1.toNat ((aA s (aA s 1).2.1).2.1+((aA s 1).1+7).tdiv 8).toNat)=(aA s (aA s 1).2.1).1:=by first|with_reducible assumption|omega
   have eN:=jS (s:=s) (a:=(aA s (aA s 1).2.1).2.1) (n:=(aA s 1).1) (k:=(aA s (aA s 1).2.1).1) kn ke ku kc;have j4:(aA s 1).1<=4096:=by omega
   have jk:(aA s (aA s 1).2.1).1<=(aA s 1).1:=by omega
   obtain⟨m1,m3,m4,m5,m6⟩:=cM hus e1 j4 e2 jk eN;omega))
 ·first
  |(
  have o0:=oo0 s
  have e1:(aA s 1).2.2=0:=by with_reducible assumption
  have o1:=bC e1
  have o2:=oo2 s (by omega)
  have e2:(aA s (aA s 1).2.1).2.2=0:=by with_reducible assumption
  have o3:=bC e2
  rw[List.length_replicate];omega)
  |rw[List.length_set];omega
 ·first
  |(
  have o0:=oo0 s
  have e1:(aA s 1).2.2=0:=by with_reducible assumption
  have o1:=bC e1
  have o2:=oo2 s (by omega)
  have e2:(aA s (aA s 1).2.1).2.2=0:=by with_reducible assumption
  have o3:=bC e2
  have hus0:cH c.2.1 (aE s (0:Int).toNat)=w:=by rw[<-kL,hw,List.take_of_length_le (by omega)]
  have hus:cH c.2.1 (aE s (0:Int).toNat)=true:=by rw[hus0];first|with_reducible assumption|exact kU (by with_reducible assumption)
  first
  |(
   have kn:¬(aA s (aA s 1).2.1).1>0:=by omega
   have eN:=lO (s:=s) (a:=(aA s (aA s 1).2.1).2.1) (n:=(aA s 1).1) (k:=(aA s (aA s 1).2.1).1) kn;have j4:(aA s 1).1<=4096:=by omega
   have jk:(aA s (aA s 1).2.1).1<=(aA s 1).1:=by omega
   obtain⟨m1,m3,m4,m5,m6⟩:=cM hus e1 j4 e2 jk eN;have hy:(wK c.2.1 (aE s (0:Int).toNat) (s.extract (aA s (aA s 1).2.1).2.1.toNat s.size) ((aA s 1).1-(aA s (aA s 1).2.1).1)).2=true:=by first|with_reducible assumption|exact kU (by with_reducible assumption)
   rw[QY]at hy;have y1:=qIN (by omega) hy;obtain⟨m7,m8⟩:=m5 hy;rw[m7,y1,eN];rfl)
  |(
   have kn:(aA s (aA s 1).2.1).1>0:=by omega
   have ke:¬((aA s (aA s 1).2.1).2.1+((aA s 1).1+7).tdiv 8)>s.size:=by omega
   have ku:(eQ (s.extract (aA s (aA s 1).2.1).2.1.toNat ((aA s (aA s 1).2.1).2.1+((aA s 1).1+7).tdiv 8).toNat) (aA s 1).1).2=0:=by with_reducible assumption
   have kc:kS (s.extract (aA s (aA s 1).2.1).2.1.toNat ((aA s (aA s 1).2.1).2.1+((aA s 1).1+7).tdiv 8).toNat)=(aA s (aA s 1).2.1).1:=by first|with_reducible assumption|omega
   have eN:=jS (s:=s) (a:=(aA s (aA s 1).2.1).2.1) (n:=(aA s 1).1) (k:=(aA s (aA s 1).2.1).1) kn ke ku kc;have j4:(aA s 1).1<=4096:=by omega
   have jk:(aA s (aA s 1).2.1).1<=(aA s 1).1:=by omega
   obtain⟨m1,m3,m4,m5,m6⟩:=cM hus e1 j4 e2 jk eN;have hy:(wK c.2.1 (aE s (0:Int).toNat) (s.extract ((aA s (aA s 1).2.1).2.1+((aA s 1).1+7).tdiv 8).toNat s.size) ((aA s 1).1-(aA s (aA s 1).2.1).1)).2=true:=by first|with_reducible assumption|exact kU (by with_reducible assumption)
   rw[QY]at hy;have y1:=qIN (by omega) hy;obtain⟨m7,m8⟩:=m5 hy;rw[m7,y1,eN];rfl)
  |(
   have kn:¬(aA s (aA s 1).2.1).1>0:=by omega
   have eN:=lO (s:=s) (a:=(aA s (aA s 1).2.1).2.1) (n:=(aA s 1).1) (k:=(aA s (aA s 1).2.1).1) kn;have j4:(aA s 1).1<=4096:=by omega
   have jk:(aA s (aA s 1).2.1).1<=(aA s 1).1:=by omega
   obtain⟨m1,m3,m4,m5,m6⟩:=cM hus e1 j4 e2 jk eN;have hml:((cU s (aA s (aA s 1).2.1).2.1 (aA s 1).1 (aA s (aA s 1).2.1).1).1.length:Int)=(aA s 1).1:=by rw[eN];exact m1
   first
   |(
    have hb:(cU s (aA s (aA s 1).2.1).2.1 (aA s 1).1 (aA s (aA s 1).2.1).1).1[i.toNat]! =true:=by rw[eN];first|with_reducible assumption|(simp_all;done)
    have hll:i<L.length:=by omega
    have hsa:=qE (L:=L) (i:=i) (v:=NV) (by omega);have hv:bN c NV=0:=by rw[<-hsa];with_reducible assumption
    rw[hgo,yF (by omega) hb hv,oN (by omega)])
   |(
    have hb:(cU s (aA s (aA s 1).2.1).2.1 (aA s 1).1 (aA s (aA s 1).2.1).1).1[i.toNat]! =false:=by rw[eN];first|with_reducible assumption|(simp_all;done)
    have hll:i<L.length:=by omega
    have hsa:=qE (L:=L) (i:=i) (v:=R[(0:Int).toNat]!) (by omega);have hv:bN c R[(0:Int).toNat]! =0:=by rw[<-hsa];with_reducible assumption
    rw[hgo,FF (by omega) hb hv,oN (by omega)];rfl))
  |(
   have kn:(aA s (aA s 1).2.1).1>0:=by omega
   have ke:¬((aA s (aA s 1).2.1).2.1+((aA s 1).1+7).tdiv 8)>s.size:=by omega
   have ku:(eQ (s.extract (aA s (aA s 1).2.1).2.1.toNat ((aA s (aA s 1).2.1).2.1+((aA s 1).1+7).tdiv 8).toNat) (aA s 1).1).2=0:=by with_reducible assumption
   have kc:kS (s.extract (aA s (aA s 1).2.1).2.1.toNat ((aA s (aA s 1).2.1).2.1+((aA s 1).1+7).tdiv 8).toNat)=(aA s (aA s 1).2.1).1:=by first|with_reducible assumption|omega
   have eN:=jS (s:=s) (a:=(aA s (aA s 1).2.1).2.1) (n:=(aA s 1).1) (k:=(aA s (aA s 1).2.1).1) kn ke ku kc;have j4:(aA s 1).1<=4096:=by omega
   have jk:(aA s (aA s 1).2.1).1<=(aA s 1).1:=by omega
   obtain⟨m1,m3,m4,m5,m6⟩:=cM hus e1 j4 e2 jk eN;have hml:((cU s (aA s (aA s 1).2.1).2.1 (aA s 1).1 (aA s (aA s 1).2.1).1).1.length:Int)=(aA s 1).1:=by rw[eN];exact m1
   first
   |(
    have hb:(cU s (aA s (aA s 1).2.1).2.1 (aA s 1).1 (aA s (aA s 1).2.1).1).1[i.toNat]! =true:=by rw[eN];first|with_reducible assumption|(simp_all;done)
    have hll:i<L.length:=by omega
    have hsa:=qE (L:=L) (i:=i) (v:=NV) (by omega);have hv:bN c NV=0:=by rw[<-hsa];with_reducible assumption
    rw[hgo,yF (by omega) hb hv,oN (by omega)])
   |(
    have hb:(cU s (aA s (aA s 1).2.1).2.1 (aA s 1).1 (aA s (aA s 1).2.1).1).1[i.toNat]! =false:=by rw[eN];first|with_reducible assumption|(simp_all;done)
    have hll:i<L.length:=by omega
    have hsa:=qE (L:=L) (i:=i) (v:=R[(0:Int).toNat]!) (by omega);have hv:bN c R[(0:Int).toNat]! =0:=by rw[<-hsa];with_reducible assumption
    rw[hgo,FF (by omega) hb hv,oN (by omega)];rfl)))
 ·first
  |(
  have o0:=oo0 s
  have e1:(aA s 1).2.2=0:=by with_reducible assumption
  have o1:=bC e1
  have o2:=oo2 s (by omega)
  have e2:(aA s (aA s 1).2.1).2.2=0:=by with_reducible assumption
  have o3:=bC e2
  have hus0:cH c.2.1 (aE s (0:Int).toNat)=w:=by rw[<-kL,hw,List.take_of_length_le (by omega)]
  have hus:cH c.2.1 (aE s (0:Int).toNat)=true:=by rw[hus0];first|with_reducible assumption|exact kU (by with_reducible assumption)
  first
  |(
   have kn:¬(aA s (aA s 1).2.1).1>0:=by omega
   have eN:=lO (s:=s) (a:=(aA s (aA s 1).2.1).2.1) (n:=(aA s 1).1) (k:=(aA s (aA s 1).2.1).1) kn;have j4:(aA s 1).1<=4096:=by omega
   have jk:(aA s (aA s 1).2.1).1<=(aA s 1).1:=by omega
   obtain⟨m1,m3,m4,m5,m6⟩:=cM hus e1 j4 e2 jk eN;have hy:(wK c.2.1 (aE s (0:Int).toNat) (s.extract (aA s (aA s 1).2.1).2.1.toNat s.size) ((aA s 1).1-(aA s (aA s 1).2.1).1)).2=true:=by first|with_reducible assumption|exact kU (by with_reducible assumption)
   rw[QY]at hy;have y1:=qIN (by omega) hy;obtain⟨m7,m8⟩:=m5 hy;rw[y1,eN];exact m8)
  |(
   have kn:(aA s (aA s 1).2.1).1>0:=by omega
   have ke:¬((aA s (aA s 1).2.1).2.1+((aA s 1).1+7).tdiv 8)>s.size:=by omega
   have ku:(eQ (s.extract (aA s (aA s 1).2.1).2.1.toNat ((aA s (aA s 1).2.1).2.1+((aA s 1).1+7).tdiv 8).toNat) (aA s 1).1).2=0:=by with_reducible assumption
   have kc:kS (s.extract (aA s (aA s 1).2.1).2.1.toNat ((aA s (aA s 1).2.1).2.1+((aA s 1).1+7).tdiv 8).toNat)=(aA s (aA s 1).2.1).1:=by first|with_reducible assumption|omega
   have eN:=jS (s:=s) (a:=(aA s (aA s 1).2.1).2.1) (n:=(aA s 1).1) (k:=(aA s (aA s 1).2.1).1) kn ke ku kc;have j4:(aA s 1).1<=4096:=by omega
   have jk:(aA s (aA s 1).2.1).1<=(aA s 1).1:=by omega
   obtain⟨m1,m3,m4,m5,m6⟩:=cM hus e1 j4 e2 jk eN;have hy:(wK c.2.1 (aE s (0:Int).toNat) (s.extract ((aA s (aA s 1).2.1).2.1+((aA s 1).1+7).tdiv 8).toNat s.size) ((aA s 1).1-(aA s (aA s 1).2.1).1)).2=true:=by first|with_reducible assumption|exact kU (by with_reducible assumption)
   rw[QY]at hy;have y1:=qIN (by omega) hy;obtain⟨m7,m8⟩:=m5 hy;rw[y1,eN];exact m8)
  |(
   have kn:¬(aA s (aA s 1).2.1).1>0:=by omega
   have eN:=lO (s:=s) (a:=(aA s (aA s 1).2.1).2.1) (n:=(aA s 1).1) (k:=(aA s (aA s 1).2.1).1) kn;have j4:(aA s 1).1<=4096:=by omega
   have jk:(aA s (aA s 1).2.1).1<=(aA s 1).1:=by omega
   obtain⟨m1,m3,m4,m5,m6⟩:=cM hus e1 j4 e2 jk eN;have hml:((cU s (aA s (aA s 1).2.1).2.1 (aA s 1).1 (aA s (aA s 1).2.1).1).1.length:Int)=(aA s 1).1:=by rw[eN];exact m1
   first
   |(
    have hb:(cU s (aA s (aA s 1).2.1).2.1 (aA s 1).1 (aA s (aA s 1).2.1).1).1[i.toNat]! =true:=by rw[eN];first|with_reducible assumption|(simp_all;done)
    rw[hR,RY (by omega) hb])
   |(
    have hb:(cU s (aA s (aA s 1).2.1).2.1 (aA s 1).1 (aA s (aA s 1).2.1).1).1[i.toNat]! =false:=by rw[eN];first|with_reducible assumption|(simp_all;done)
    have hcf:=tR (by omega) hb;show(((R.drop 1).length:Nat):Int)=_;rw[List.length_drop];omega))
  |(
   have kn:(aA s (aA s 1).2.1).1>0:=by omega
   have ke:¬((aA s (aA s 1).2.1).2.1+((aA s 1).1+7).tdiv 8)>s.size:=by omega
   have ku:(eQ (s.extract (aA s (aA s 1).2.1).2.1.toNat ((aA s (aA s 1).2.1).2.1+((aA s 1).1+7).tdiv 8).toNat) (aA s 1).1).2=0:=by with_reducible assumption
   have kc:kS (s.extract (aA s (aA s 1).2.1).2.1.toNat ((aA s (aA s 1).2.1).2.1+((aA s 1).1+7).tdiv 8).toNat)=(aA s (aA s 1).2.1).1:=by first|with_reducible assumption|omega
   have eN:=jS (s:=s) (a:=(aA s (aA s 1).2.1).2.1) (n:=(aA s 1).1) (k:=(aA s (aA s 1).2.1).1) kn ke ku kc;have j4:(aA s 1).1<=4096:=by omega
   have jk:(aA s (aA s 1).2.1).1<=(aA s 1).1:=by omega
   obtain⟨m1,m3,m4,m5,m6⟩:=cM hus e1 j4 e2 jk eN;have hml:((cU s (aA s (aA s 1).2.1).2.1 (aA s 1).1 (aA s (aA s 1).2.1).1).1.length:Int)=(aA s 1).1:=by rw[eN];exact m1
   first
   |(
    have hb:(cU s (aA s (aA s 1).2.1).2.1 (aA s 1).1 (aA s (aA s 1).2.1).1).1[i.toNat]! =true:=by rw[eN];first|with_reducible assumption|(simp_all;done)
    rw[hR,RY (by omega) hb])
   |(
    have hb:(cU s (aA s (aA s 1).2.1).2.1 (aA s 1).1 (aA s (aA s 1).2.1).1).1[i.toNat]! =false:=by rw[eN];first|with_reducible assumption|(simp_all;done)
    have hcf:=tR (by omega) hb;show(((R.drop 1).length:Nat):Int)=_;rw[List.length_drop];omega))))
  |(
 with_reducible apply Side.mk
 (try dsimp only[cu,aC,aB,gts,loK,hiK,eE,eN])
 first
 |omega
 |(
  have o0:=oo0 s;omega)
 |rw[List.length_set];omega
 |(
  have o0:=oo0 s;first
  |(
   have hcl:=qMW c.2.1;omega)
  |(
   have e1:(aA s 1).2.2=0:=by with_reducible assumption
   have o1:=bC e1;have o2:=oo2 s (by omega);first
   |omega
   |(
    have e2:(aA s (aA s 1).2.1).2.2=0:=by with_reducible assumption
    have o3:=bC e2;first
    |omega
    |rw[List.length_replicate];omega
    |(
     simp only[ByteArray.size_extract];omega)
    |(
     have hus0:cH c.2.1 (aE s (0:Int).toNat)=w:=by rw[<-kL,hw,List.take_of_length_le (by omega)]
     have hus:cH c.2.1 (aE s (0:Int).toNat)=true:=by rw[hus0];first|with_reducible assumption|exact kU (by with_reducible assumption)
     first
     |(
      have kn:(aA s (aA s 1).2.1).1>0:=by omega
      have ke:¬((aA s (aA s 1).2.1).2.1+((aA s 1).1+7).tdiv 8)>s.size:=by omega
      have ku:(eQ (s.extract (aA s (aA s 1).2.1).2.1.toNat ((aA s (aA s 1).2.1).2.1+((aA s 1).1+7).tdiv 8).toNat) (aA s 1).1).2=0:=by with_reducible assumption
      have kc:kS (s.extract (aA s (aA s 1).2.1).2.1.toNat ((aA s (aA s 1).2.1).2.1+((aA s 1).1+7).tdiv 8).toNat)=(aA s (aA s 1).2.1).1:=by first|with_reducible assumption|omega
      have eN:=jS (s:=s) (a:=(aA s (aA s 1).2.1).2.1) (n:=(aA s 1).1) (k:=(aA s (aA s 1).2.1).1) kn ke ku kc;have j4:(aA s 1).1<=4096:=by omega
      have jk:(aA s (aA s 1).2.1).1<=(aA s 1).1:=by omega
      obtain⟨m1,m3,m4,m5,m6⟩:=cM hus e1 j4 e2 jk eN;first
      |omega
      |(rw[List.length_set];omega))
     |(
      have kn:¬(aA s (aA s 1).2.1).1>0:=by omega
      have eN:=lO (s:=s) (a:=(aA s (aA s 1).2.1).2.1) (n:=(aA s 1).1) (k:=(aA s (aA s 1).2.1).1) kn;have j4:(aA s 1).1<=4096:=by omega
      have jk:(aA s (aA s 1).2.1).1<=(aA s 1).1:=by omega
      obtain⟨m1,m3,m4,m5,m6⟩:=cM hus e1 j4 e2 jk eN;have hml:((cU s (aA s (aA s 1).2.1).2.1 (aA s 1).1 (aA s (aA s 1).2.1).1).1.length:Int)=(aA s 1).1:=by rw[eN];exact m1
      have hb:(cU s (aA s (aA s 1).2.1).2.1 (aA s 1).1 (aA s (aA s 1).2.1).1).1[i.toNat]! =false:=by rw[eN];first|with_reducible assumption|(simp_all;done)
      have hcf:=tR (by omega) hb;omega)
     |(
      have kn:(aA s (aA s 1).2.1).1>0:=by omega
      have ke:¬((aA s (aA s 1).2.1).2.1+((aA s 1).1+7).tdiv 8)>s.size:=by omega
      have ku:(eQ (s.extract (aA s (aA s 1).2.1).2.1.toNat ((aA s (aA s 1).2.1).2.1+((aA s 1).1+7).tdiv 8).toNat) (aA s 1).1).2=0:=by with_reducible assumption
      have kc:kS (s.extract (aA s (aA s 1).2.1).2.1.toNat ((aA s (aA s 1).2.1).2.1+((aA s 1).1+7).tdiv 8).toNat)=(aA s (aA s 1).2.1).1:=by first|with_reducible assumption|omega
      have eN:=jS (s:=s) (a:=(aA s (aA s 1).2.1).2.1) (n:=(aA s 1).1) (k:=(aA s (aA s 1).2.1).1) kn ke ku kc;have j4:(aA s 1).1<=4096:=by omega
      have jk:(aA s (aA s 1).2.1).1<=(aA s 1).1:=by omega
      obtain⟨m1,m3,m4,m5,m6⟩:=cM hus e1 j4 e2 jk eN;have hml:((cU s (aA s (aA s 1).2.1).2.1 (aA s 1).1 (aA s (aA s 1).2.1).1).1.length:Int)=(aA s 1).1:=by rw[eN];exact m1
      have hb:(cU s (aA s (aA s 1).2.1).2.1 (aA s 1).1 (aA s (aA s 1).2.1).1).1[i.toNat]! =false:=by rw[eN];first|with_reducible assumption|(simp_all;done)
      have hcf:=tR (by omega) hb;omega)
     |(
      have kn:¬(aA s (aA s 1).2.1).1>0:=by omega
      have eN:=lO (s:=s) (a:=(aA s (aA s 1).2.1).2.1) (n:=(aA s 1).1) (k:=(aA s (aA s 1).2.1).1) kn;have j4:(aA s 1).1<=4096:=by omega
      have jk:(aA s (aA s 1).2.1).1<=(aA s 1).1:=by omega
      obtain⟨m1,m3,m4,m5,m6⟩:=cM hus e1 j4 e2 jk eN;have huc:=BC hus;refine⟨?_,⟨by omega,by omega⟩,huc⟩;have:=SL s (aA s (aA s 1).2.1).2.1.toNat s.size;omega)
     |(
      have kn:(aA s (aA s 1).2.1).1>0:=by omega
      have ke:¬((aA s (aA s 1).2.1).2.1+((aA s 1).1+7).tdiv 8)>s.size:=by omega
      have ku:(eQ (s.extract (aA s (aA s 1).2.1).2.1.toNat ((aA s (aA s 1).2.1).2.1+((aA s 1).1+7).tdiv 8).toNat) (aA s 1).1).2=0:=by with_reducible assumption
      have kc:kS (s.extract (aA s (aA s 1).2.1).2.1.toNat ((aA s (aA s 1).2.1).2.1+((aA s 1).1+7).tdiv 8).toNat)=(aA s (aA s 1).2.1).1:=by first|with_reducible assumption|omega
      have eN:=jS (s:=s) (a:=(aA s (aA s 1).2.1).2.1) (n:=(aA s 1).1) (k:=(aA s (aA s 1).2.1).1) kn ke ku kc;have j4:(aA s 1).1<=4096:=by omega
      have jk:(aA s (aA s 1).2.1).1<=(aA s 1).1:=by omega
      obtain⟨m1,m3,m4,m5,m6⟩:=cM hus e1 j4 e2 jk eN;have huc:=BC hus;refine⟨?_,⟨by omega,by omega⟩,huc⟩;have:=SL s ((aA s (aA s 1).2.1).2.1+((aA s 1).1+7).tdiv 8).toNat s.size;omega))))))
  |(conv=>whnf
    first
     |with_reducible first|done|exact trivial|refine NilBr.mk (fun h=>?_) ?_|apply aI|apply aH|refine aJ (by kernel_rfl) ?_|apply aK|apply bE|apply bD|apply aQ
     |((with_reducible first|apply aS|apply aR|apply bB)<;>intro h<;>(try dsimp only[cu,eE,eN]at h)<;>(try(exfalso;omega)))
     |(
 intro yy (hy:Tag 59/\_)
 obtain⟨(j:Int),(w:Bool),_⟩:=yy
 replace hy:=hy.2
 dsimp only[cu,aC,aB,gts,eE,eN]at hy
 obtain⟨hj,hw⟩:=hy)
     |(
 intro yy (hy:Tag 60/\_)
 obtain⟨(i:Int),(L:List Val),(R:List Val),_⟩:=yy
 replace hy:=hy.2
 dsimp only[cu,aC,aB,gts,eE,eN]at hy
 obtain⟨hi,hL,hgo,hR⟩:=hy)))
 all_goals(
 with_reducible apply Leaf.mk
 (try dsimp only[cu,aC,aB,gts,eE,eN]at *)
 first
 |(
  have o0:=oo0 s;have hus0:cH c.2.1 (aE s (0:Int).toNat)=w:=by rw[<-kL,hw,List.take_of_length_le (by omega)]
  have hus:cH c.2.1 (aE s (0:Int).toNat)=false:=by rw[hus0];first|with_reducible assumption|(simp_all;done)
  rw[MH (.inl hus)])
 |(
  have e1:¬(aA s 1).2.2=0:=by with_reducible assumption
  rw[MH (.inr (.inl e1))])
 |(
  have o0:=oo0 s;have e1:(aA s 1).2.2=0:=by with_reducible assumption
  have o1:=bC e1;first
  |(
   have h4:(aA s 1).1>4096:=by omega
   rw[MH (.inr (.inr h4))])
  |(
   have hus0:cH c.2.1 (aE s (0:Int).toNat)=w:=by rw[<-kL,hw,List.take_of_length_le (by omega)]
   have hus:cH c.2.1 (aE s (0:Int).toNat)=true:=by rw[hus0];first|with_reducible assumption|exact kU (by with_reducible assumption)
   have c1:¬(cH c.2.1 (aE s (0:Int).toNat)=false\/(aA s 1).2.2≠0\/(aA s 1).1>4096):=fun q=>by
    rcases q with q|q|q
    ·rw[hus]at q;cases q
    ·exact q e1
    ·omega
   have e2:¬(aA s (aA s 1).2.1).2.2=0:=by with_reducible assumption
   rw[qEB c1 (.inl e2)])
  |(
   have o2:=oo2 s (by omega);first
   |(
    have hus0:cH c.2.1 (aE s (0:Int).toNat)=w:=by rw[<-kL,hw,List.take_of_length_le (by omega)]
    have hus:cH c.2.1 (aE s (0:Int).toNat)=true:=by rw[hus0];first|with_reducible assumption|exact kU (by with_reducible assumption)
    have c1:¬(cH c.2.1 (aE s (0:Int).toNat)=false\/(aA s 1).2.2≠0\/(aA s 1).1>4096):=fun q=>by
     rcases q with q|q|q
     ·rw[hus]at q;cases q
     ·exact q e1
     ·omega
    have h5:(aA s (aA s 1).2.1).1>(aA s 1).1:=by omega
    rw[qEB c1 (.inr h5)])
   |(
    have e2:(aA s (aA s 1).2.1).2.2=0:=by with_reducible assumption
    have o3:=bC e2;have hus0:cH c.2.1 (aE s (0:Int).toNat)=w:=by rw[<-kL,hw,List.take_of_length_le (by omega)]
    have hus:cH c.2.1 (aE s (0:Int).toNat)=true:=by rw[hus0];first|with_reducible assumption|exact kU (by with_reducible assumption)
    first
    |(
     have eN:=JY (s:=s) (a:=(aA s (aA s 1).2.1).2.1) (n:=(aA s 1).1) (k:=(aA s (aA s 1).2.1).1) (by omega) (.inl (by omega));rw[vB hus e1 (by omega) e2 (by omega) eN])
    |(
     have eN:=JY (s:=s) (a:=(aA s (aA s 1).2.1).2.1) (n:=(aA s 1).1) (k:=(aA s (aA s 1).2.1).1) (by omega) (.inr (.inr (by with_reducible assumption)));rw[vB hus e1 (by omega) e2 (by omega) eN])
    |(
     have eN:=JY (s:=s) (a:=(aA s (aA s 1).2.1).2.1) (n:=(aA s 1).1) (k:=(aA s (aA s 1).2.1).1) (by omega) (.inr (.inl (by with_reducible assumption)));rw[vB hus e1 (by omega) e2 (by omega) eN])
    |(
     have kn:¬(aA s (aA s 1).2.1).1>0:=by omega
     have eN:=lO (s:=s) (a:=(aA s (aA s 1).2.1).2.1) (n:=(aA s 1).1) (k:=(aA s (aA s 1).2.1).1) kn;have j4:(aA s 1).1<=4096:=by omega
     have jk:(aA s (aA s 1).2.1).1<=(aA s 1).1:=by omega
     obtain⟨m1,m3,m4,m5,m6⟩:=cM hus e1 j4 e2 jk eN;have hy:(wK c.2.1 (aE s (0:Int).toNat) (s.extract (aA s (aA s 1).2.1).2.1.toNat s.size) ((aA s 1).1-(aA s (aA s 1).2.1).1)).2=false:=by first|with_reducible assumption|exact TI (by with_reducible assumption)
     rw[QY]at hy;rw[m6 hy])
    |(
     have kn:(aA s (aA s 1).2.1).1>0:=by omega
     have ke:¬((aA s (aA s 1).2.1).2.1+((aA s 1).1+7).tdiv 8)>s.size:=by omega
     have ku:(eQ (s.extract (aA s (aA s 1).2.1).2.1.toNat ((aA s (aA s 1).2.1).2.1+((aA s 1).1+7).tdiv 8).toNat) (aA s 1).1).2=0:=by with_reducible assumption
     have kc:kS (s.extract (aA s (aA s 1).2.1).2.1.toNat ((aA s (aA s 1).2.1).2.1+((aA s 1).1+7).tdiv 8).toNat)=(aA s (aA s 1).2.1).1:=by first|with_reducible assumption|omega
     have eN:=jS (s:=s) (a:=(aA s (aA s 1).2.1).2.1) (n:=(aA s 1).1) (k:=(aA s (aA s 1).2.1).1) kn ke ku kc;have j4:(aA s 1).1<=4096:=by omega
     have jk:(aA s (aA s 1).2.1).1<=(aA s 1).1:=by omega
     obtain⟨m1,m3,m4,m5,m6⟩:=cM hus e1 j4 e2 jk eN;have hy:(wK c.2.1 (aE s (0:Int).toNat) (s.extract ((aA s (aA s 1).2.1).2.1+((aA s 1).1+7).tdiv 8).toNat s.size) ((aA s 1).1-(aA s (aA s 1).2.1).1)).2=false:=by first|with_reducible assumption|exact TI (by with_reducible assumption)
     rw[QY]at hy;rw[m6 hy])
    |(
     have kn:¬(aA s (aA s 1).2.1).1>0:=by omega
     have eN:=lO (s:=s) (a:=(aA s (aA s 1).2.1).2.1) (n:=(aA s 1).1) (k:=(aA s (aA s 1).2.1).1) kn;have j4:(aA s 1).1<=4096:=by omega
     have jk:(aA s (aA s 1).2.1).1<=(aA s 1).1:=by omega
     obtain⟨m1,m3,m4,m5,m6⟩:=cM hus e1 j4 e2 jk eN;have hml:((cU s (aA s (aA s 1).2.1).2.1 (aA s 1).1 (aA s (aA s 1).2.1).1).1.length:Int)=(aA s 1).1:=by rw[eN];exact m1
     first
     |(
      have hb:(cU s (aA s (aA s 1).2.1).2.1 (aA s 1).1 (aA s (aA s 1).2.1).1).1[i.toNat]! =true:=by rw[eN];first|with_reducible assumption|(simp_all;done)
      have hll:i<L.length:=by omega
      have hsa:=qE (L:=L) (i:=i) (v:=NV) (by omega);have hv:¬bN c NV=0:=by rw[<-hsa];with_reducible assumption
      rw[hgo,uZ (by omega) hb hv])
     |(
      have hb:(cU s (aA s (aA s 1).2.1).2.1 (aA s 1).1 (aA s (aA s 1).2.1).1).1[i.toNat]! =false:=by rw[eN];first|with_reducible assumption|(simp_all;done)
      have hll:i<L.length:=by omega
      have hsa:=qE (L:=L) (i:=i) (v:=R[(0:Int).toNat]!) (by omega);have hv:¬bN c R[(0:Int).toNat]! =0:=by rw[<-hsa];with_reducible assumption
      rw[hgo,yH (by omega) hb hv])
     |(rw[hgo,FE (by omega) (by omega),List.take_of_length_le (by omega)]))
    |(
     have kn:(aA s (aA s 1).2.1).1>0:=by omega
     have ke:¬((aA s (aA s 1).2.1).2.1+((aA s 1).1+7).tdiv 8)>s.size:=by omega
     have ku:(eQ (s.extract (aA s (aA s 1).2.1).2.1.toNat ((aA s (aA s 1).2.1).2.1+((aA s 1).1+7).tdiv 8).toNat) (aA s 1).1).2=0:=by with_reducible assumption
     have kc:kS (s.extract (aA s (aA s 1).2.1).2.1.toNat ((aA s (aA s 1).2.1).2.1+((aA s 1).1+7).tdiv 8).toNat)=(aA s (aA s 1).2.1).1:=by first|with_reducible assumption|omega
     have eN:=jS (s:=s) (a:=(aA s (aA s 1).2.1).2.1) (n:=(aA s 1).1) (k:=(aA s (aA s 1).2.1).1) kn ke ku kc;have j4:(aA s 1).1<=4096:=by omega
     have jk:(aA s (aA s 1).2.1).1<=(aA s 1).1:=by omega
     obtain⟨m1,m3,m4,m5,m6⟩:=cM hus e1 j4 e2 jk eN;have hml:((cU s (aA s (aA s 1).2.1).2.1 (aA s 1).1 (aA s (aA s 1).2.1).1).1.length:Int)=(aA s 1).1:=by rw[eN];exact m1
     first
     |(
      have hb:(cU s (aA s (aA s 1).2.1).2.1 (aA s 1).1 (aA s (aA s 1).2.1).1).1[i.toNat]! =true:=by rw[eN];first|with_reducible assumption|(simp_all;done)
      have hll:i<L.length:=by omega
      have hsa:=qE (L:=L) (i:=i) (v:=NV) (by omega);have hv:¬bN c NV=0:=by rw[<-hsa];with_reducible assumption
      rw[hgo,uZ (by omega) hb hv])
     |(
      have hb:(cU s (aA s (aA s 1).2.1).2.1 (aA s 1).1 (aA s (aA s 1).2.1).1).1[i.toNat]! =false:=by rw[eN];first|with_reducible assumption|(simp_all;done)
      have hll:i<L.length:=by omega
      have hsa:=qE (L:=L) (i:=i) (v:=R[(0:Int).toNat]!) (by omega);have hv:¬bN c R[(0:Int).toNat]! =0:=by rw[<-hsa];with_reducible assumption
      rw[hgo,yH (by omega) hb hv])
     |(rw[hgo,FE (by omega) (by omega),List.take_of_length_le (by omega)]))))))
abbrev qcM:Tbl:=(134,yK)::qcL
theorem qHY:aD Tryz.prog qcM:=aD.cons qB7 qHX
abbrev HJ:Ct:=.fn [pJ,.str] (some (fun(c:Col) (s:ByteArray)=>(s.size<=288230376151711744)/\(1<=s.size))) (fun(c:Col) (s:ByteArray)=>.tup [.list bK,.bool] ((lL c s).1,(lL c s).2,()))
theorem qPF:aF Tryz.prog 142 HJ:=by
 refine aF.fn qHY mixed [] [] rfl rfl ?_;rintro⟨(c:Col),(s:ByteArray),_⟩ hpre;replace hpre:=hpre _ rfl;dsimp only[cu]at hpre;obtain⟨hs,h1⟩:=hpre;refine⟨[(0,46,LA.mk [.sl 111 (.int .i64),.lst 16 bK 43,.sl 14 (.list bK)] (fun y=>Tag 61/\cu [.int .i64,.list bK,.list bK] (fun(i:Int) (M:List Val) (R:List Val)=>(0<=i/\i<=(aA s 1).1)/\((M.length:Int)=i)/\(lL c s=asm c ((cU s (aA s (aA s 1).2.1).2.1 (aA s 1).1 (aA s (aA s 1).2.1).1).1.drop i.toNat) R M)/\(((R.length:Nat):Int)=((nG ((cU s (aA s (aA s 1).2.1).2.1 (aA s 1).1 (aA s (aA s 1).2.1).1).1.drop i.toNat):Nat):Int))) y) (cu [.int .i64,.list bK,.list bK] (fun(i:Int) (M:List Val) (R:List Val)=>((aA s 1).1-i).toNat)) (cu [.int .i64,.list bK,.list bK] (fun(i:Int) (M:List Val) (R:List Val)=>([]:List (Nat×Nat×LA)))))],?_⟩;repeat' (first
  |(
 with_reducible refine Side.mk ⟨(⟨⟩:Tag 61),?_⟩
 dsimp only[cu,aC,aB,gts,eE,eN]
 refine⟨?_,?_,?_,?_⟩
 ·first
  |(
  have o0:=oo0 s
  have e1:(aA s 1).2.2=0:=by with_reducible assumption
  have o1:=bC e1
  have o2:=oo2 s (by omega)
  have e2:(aA s (aA s 1).2.1).2.2=0:=by with_reducible assumption
  have o3:=bC e2
  first
  |omega
  |(
   have hus:cH c.2.1 (aE s (0:Int).toNat)=true:=by first|with_reducible assumption|exact kU (by with_reducible assumption)
   have kn:(aA s (aA s 1).2.1).1>0:=by omega
   have ke:¬((aA s (aA s 1).2.1).2.1+((aA s 1).1+7).tdiv 8)>s.size:=by omega
   have ku:(eQ (s.extract (aA s (aA s 1).2.1).2.1.toNat ((aA s (aA s 1).2.1).2.1+((aA s 1).1+7).tdiv 8).toNat) (aA s 1).1).2=0:=by with_reducible assumption
   have kc:kS (s.extract (aA s (aA s 1).2.1).2.1.toNat ((aA s (aA s 1).2.1).2.1+((aA s 1).1+7).tdiv 8).toNat)=(aA s (aA s 1).2.1).1:=by first|with_reducible assumption|omega
   have eN:=jS (s:=s) (a:=(aA s (aA s 1).2.1).2.1) (n:=(aA s 1).1) (k:=(aA s (aA s 1).2.1).1) kn ke ku kc;have j4:(aA s 1).1<=4096:=by omega
   have jk:(aA s (aA s 1).2.1).1<=(aA s 1).1:=by omega
   obtain⟨m1,m3,m4,m5,m6⟩:=cM hus e1 j4 e2 jk eN;omega))
 ·first
  |rfl
  |simp only[List.length_append,List.length_cons,List.length_nil];omega
 ·first
  |(
  have o0:=oo0 s
  have e1:(aA s 1).2.2=0:=by with_reducible assumption
  have o1:=bC e1
  have o2:=oo2 s (by omega)
  have e2:(aA s (aA s 1).2.1).2.2=0:=by with_reducible assumption
  have o3:=bC e2
  have hus:cH c.2.1 (aE s (0:Int).toNat)=true:=by first|with_reducible assumption|exact kU (by with_reducible assumption)
  first
  |(
   have kn:¬(aA s (aA s 1).2.1).1>0:=by omega
   have eN:=lO (s:=s) (a:=(aA s (aA s 1).2.1).2.1) (n:=(aA s 1).1) (k:=(aA s (aA s 1).2.1).1) kn;have j4:(aA s 1).1<=4096:=by omega
   have jk:(aA s (aA s 1).2.1).1<=(aA s 1).1:=by omega
   obtain⟨m1,m3,m4,m5,m6⟩:=cM hus e1 j4 e2 jk eN;have hu6:=aN (n:=(aA s 1).1-(aA s (aA s 1).2.1).1) (by omega);have hy:(eP c.2.1 (aE s (0:Int).toNat) (s.extract (aA s (aA s 1).2.1).2.1.toNat s.size) (IntKind.u64.wrap ((aA s 1).1-(aA s (aA s 1).2.1).1))).2=true:=by first|with_reducible assumption|exact kU (by with_reducible assumption)
   rw[hu6]at hy;obtain⟨m7,m8⟩:=m5 hy;rw[hu6,m7,eN];rfl)
  |(
   have kn:(aA s (aA s 1).2.1).1>0:=by omega
   have ke:¬((aA s (aA s 1).2.1).2.1+((aA s 1).1+7).tdiv 8)>s.size:=by omega
   have ku:(eQ (s.extract (aA s (aA s 1).2.1).2.1.toNat ((aA s (aA s 1).2.1).2.1+((aA s 1).1+7).tdiv 8).toNat) (aA s 1).1).2=0:=by with_reducible assumption
   have kc:kS (s.extract (aA s (aA s 1).2.1).2.1.toNat ((aA s (aA s 1).2.1).2.1+((aA s 1).1+7).tdiv 8).toNat)=(aA s (aA s 1).2.1).1:=by first|with_reducible assumption|omega
   have eN:=jS (s:=s) (a:=(aA s (aA s 1).2.1).2.1) (n:=(aA s 1).1) (k:=(aA s (aA s 1).2.1).1) kn ke ku kc;have j4:(aA s 1).1<=4096:=by omega
   have jk:(aA s (aA s 1).2.1).1<=(aA s 1).1:=by omega
   obtain⟨m1,m3,m4,m5,m6⟩:=cM hus e1 j4 e2 jk eN;have hu6:=aN (n:=(aA s 1).1-(aA s (aA s 1).2.1).1) (by omega);have hy:(eP c.2.1 (aE s (0:Int).toNat) (s.extract ((aA s (aA s 1).2.1).2.1+((aA s 1).1+7).tdiv 8).toNat s.size) (IntKind.u64.wrap ((aA s 1).1-(aA s (aA s 1).2.1).1))).2=true:=by first|with_reducible assumption|exact kU (by with_reducible assumption)
   rw[hu6]at hy;obtain⟨m7,m8⟩:=m5 hy;rw[hu6,m7,eN];rfl)
  |(
   have kn:¬(aA s (aA s 1).2.1).1>0:=by omega
   have eN:=lO (s:=s) (a:=(aA s (aA s 1).2.1).2.1) (n:=(aA s 1).1) (k:=(aA s (aA s 1).2.1).1) kn;have j4:(aA s 1).1<=4096:=by omega
   have jk:(aA s (aA s 1).2.1).1<=(aA s 1).1:=by omega
   obtain⟨m1,m3,m4,m5,m6⟩:=cM hus e1 j4 e2 jk eN;have hml:((cU s (aA s (aA s 1).2.1).2.1 (aA s 1).1 (aA s (aA s 1).2.1).1).1.length:Int)=(aA s 1).1:=by rw[eN];exact m1
   first
   |(
    have hb:(cU s (aA s (aA s 1).2.1).2.1 (aA s 1).1 (aA s (aA s 1).2.1).1).1[i.toNat]! =true:=by rw[eN];first|with_reducible assumption|(simp_all;done)
    have hv:bN c NV=0:=by with_reducible assumption
    rw[hgo,yF (by omega) hb hv])
   |(
    have hb:(cU s (aA s (aA s 1).2.1).2.1 (aA s 1).1 (aA s (aA s 1).2.1).1).1[i.toNat]! =false:=by rw[eN];first|with_reducible assumption|(simp_all;done)
    have hv:bN c R[(0:Int).toNat]! =0:=by with_reducible assumption
    rw[hgo,FF (by omega) hb hv];rfl))
  |(
   have kn:(aA s (aA s 1).2.1).1>0:=by omega
   have ke:¬((aA s (aA s 1).2.1).2.1+((aA s 1).1+7).tdiv 8)>s.size:=by omega
   have ku:(eQ (s.extract (aA s (aA s 1).2.1).2.1.toNat ((aA s (aA s 1).2.1).2.1+((aA s 1).1+7).tdiv 8).toNat) (aA s 1).1).2=0:=by with_reducible assumption
   have kc:kS (s.extract (aA s (aA s 1).2.1).2.1.toNat ((aA s (aA s 1).2.1).2.1+((aA s 1).1+7).tdiv 8).toNat)=(aA s (aA s 1).2.1).1:=by first|with_reducible assumption|omega
   have eN:=jS (s:=s) (a:=(aA s (aA s 1).2.1).2.1) (n:=(aA s 1).1) (k:=(aA s (aA s 1).2.1).1) kn ke ku kc;have j4:(aA s 1).1<=4096:=by omega
   have jk:(aA s (aA s 1).2.1).1<=(aA s 1).1:=by omega
   obtain⟨m1,m3,m4,m5,m6⟩:=cM hus e1 j4 e2 jk eN;have hml:((cU s (aA s (aA s 1).2.1).2.1 (aA s 1).1 (aA s (aA s 1).2.1).1).1.length:Int)=(aA s 1).1:=by rw[eN];exact m1
   first
   |(
    have hb:(cU s (aA s (aA s 1).2.1).2.1 (aA s 1).1 (aA s (aA s 1).2.1).1).1[i.toNat]! =true:=by rw[eN];first|with_reducible assumption|(simp_all;done)
    have hv:bN c NV=0:=by with_reducible assumption
    rw[hgo,yF (by omega) hb hv])
   |(
    have hb:(cU s (aA s (aA s 1).2.1).2.1 (aA s 1).1 (aA s (aA s 1).2.1).1).1[i.toNat]! =false:=by rw[eN];first|with_reducible assumption|(simp_all;done)
    have hv:bN c R[(0:Int).toNat]! =0:=by with_reducible assumption
    rw[hgo,FF (by omega) hb hv];rfl)))
 ·first
  |(
  have o0:=oo0 s
  have e1:(aA s 1).2.2=0:=by with_reducible assumption
  have o1:=bC e1
  have o2:=oo2 s (by omega)
  have e2:(aA s (aA s 1).2.1).2.2=0:=by with_reducible assumption
  have o3:=bC e2
  have hus:cH c.2.1 (aE s (0:Int).toNat)=true:=by first|with_reducible assumption|exact kU (by with_reducible assumption)
  first
  |(
   have kn:¬(aA s (aA s 1).2.1).1>0:=by omega
   have eN:=lO (s:=s) (a:=(aA s (aA s 1).2.1).2.1) (n:=(aA s 1).1) (k:=(aA s (aA s 1).2.1).1) kn;have j4:(aA s 1).1<=4096:=by omega
   have jk:(aA s (aA s 1).2.1).1<=(aA s 1).1:=by omega
   obtain⟨m1,m3,m4,m5,m6⟩:=cM hus e1 j4 e2 jk eN;have hu6:=aN (n:=(aA s 1).1-(aA s (aA s 1).2.1).1) (by omega);have hy:(eP c.2.1 (aE s (0:Int).toNat) (s.extract (aA s (aA s 1).2.1).2.1.toNat s.size) (IntKind.u64.wrap ((aA s 1).1-(aA s (aA s 1).2.1).1))).2=true:=by first|with_reducible assumption|exact kU (by with_reducible assumption)
   rw[hu6]at hy;obtain⟨m7,m8⟩:=m5 hy;rw[hu6,eN];exact m8)
  |(
   have kn:(aA s (aA s 1).2.1).1>0:=by omega
   have ke:¬((aA s (aA s 1).2.1).2.1+((aA s 1).1+7).tdiv 8)>s.size:=by omega
   have ku:(eQ (s.extract (aA s (aA s 1).2.1).2.1.toNat ((aA s (aA s 1).2.1).2.1+((aA s 1).1+7).tdiv 8).toNat) (aA s 1).1).2=0:=by with_reducible assumption
   have kc:kS (s.extract (aA s (aA s 1).2.1).2.1.toNat ((aA s (aA s 1).2.1).2.1+((aA s 1).1+7).tdiv 8).toNat)=(aA s (aA s 1).2.1).1:=by first|with_reducible assumption|omega
   have eN:=jS (s:=s) (a:=(aA s (aA s 1).2.1).2.1) (n:=(aA s 1).1) (k:=(aA s (aA s 1).2.1).1) kn ke ku kc;have j4:(aA s 1).1<=4096:=by omega
   have jk:(aA s (aA s 1).2.1).1<=(aA s 1).1:=by omega
   obtain⟨m1,m3,m4,m5,m6⟩:=cM hus e1 j4 e2 jk eN;have hu6:=aN (n:=(aA s 1).1-(aA s (aA s 1).2.1).1) (by omega);have hy:(eP c.2.1 (aE s (0:Int).toNat) (s.extract ((aA s (aA s 1).2.1).2.1+((aA s 1).1+7).tdiv 8).toNat s.size) (IntKind.u64.wrap ((aA s 1).1-(aA s (aA s 1).2.1).1))).2=true:=by first|with_reducible assumption|exact kU (by with_reducible assumption)
   rw[hu6]at hy;obtain⟨m7,m8⟩:=m5 hy;rw[hu6,eN];exact m8)
  |(
   have kn:¬(aA s (aA s 1).2.1).1>0:=by omega
   have eN:=lO (s:=s) (a:=(aA s (aA s 1).2.1).2.1) (n:=(aA s 1).1) (k:=(aA s (aA s 1).2.1).1) kn;have j4:(aA s 1).1<=4096:=by omega
   have jk:(aA s (aA s 1).2.1).1<=(aA s 1).1:=by omega
   obtain⟨m1,m3,m4,m5,m6⟩:=cM hus e1 j4 e2 jk eN;have hml:((cU s (aA s (aA s 1).2.1).2.1 (aA s 1).1 (aA s (aA s 1).2.1).1).1.length:Int)=(aA s 1).1:=by rw[eN];exact m1
   first
   |(
    have hb:(cU s (aA s (aA s 1).2.1).2.1 (aA s 1).1 (aA s (aA s 1).2.1).1).1[i.toNat]! =true:=by rw[eN];first|with_reducible assumption|(simp_all;done)
    rw[hR,RY (by omega) hb])
   |(
    have hb:(cU s (aA s (aA s 1).2.1).2.1 (aA s 1).1 (aA s (aA s 1).2.1).1).1[i.toNat]! =false:=by rw[eN];first|with_reducible assumption|(simp_all;done)
    have hcf:=tR (by omega) hb;show(((R.drop 1).length:Nat):Int)=_;rw[List.length_drop];omega))
  |(
   have kn:(aA s (aA s 1).2.1).1>0:=by omega
   have ke:¬((aA s (aA s 1).2.1).2.1+((aA s 1).1+7).tdiv 8)>s.size:=by omega
   have ku:(eQ (s.extract (aA s (aA s 1).2.1).2.1.toNat ((aA s (aA s 1).2.1).2.1+((aA s 1).1+7).tdiv 8).toNat) (aA s 1).1).2=0:=by with_reducible assumption
   have kc:kS (s.extract (aA s (aA s 1).2.1).2.1.toNat ((aA s (aA s 1).2.1).2.1+((aA s 1).1+7).tdiv 8).toNat)=(aA s (aA s 1).2.1).1:=by first|with_reducible assumption|omega
   have eN:=jS (s:=s) (a:=(aA s (aA s 1).2.1).2.1) (n:=(aA s 1).1) (k:=(aA s (aA s 1).2.1).1) kn ke ku kc;have j4:(aA s 1).1<=4096:=by omega
   have jk:(aA s (aA s 1).2.1).1<=(aA s 1).1:=by omega
   obtain⟨m1,m3,m4,m5,m6⟩:=cM hus e1 j4 e2 jk eN;have hml:((cU s (aA s (aA s 1).2.1).2.1 (aA s 1).1 (aA s (aA s 1).2.1).1).1.length:Int)=(aA s 1).1:=by rw[eN];exact m1
   first
   |(
    have hb:(cU s (aA s (aA s 1).2.1).2.1 (aA s 1).1 (aA s (aA s 1).2.1).1).1[i.toNat]! =true:=by rw[eN];first|with_reducible assumption|(simp_all;done)
    rw[hR,RY (by omega) hb])
   |(
    have hb:(cU s (aA s (aA s 1).2.1).2.1 (aA s 1).1 (aA s (aA s 1).2.1).1).1[i.toNat]! =false:=by rw[eN];first|with_reducible assumption|(simp_all;done)
    have hcf:=tR (by omega) hb;show(((R.drop 1).length:Nat):Int)=_;rw[List.length_drop];omega))))
  |(
 with_reducible apply Side.mk
 (try dsimp only[cu,aC,aB,gts,loK,hiK,eE,eN])
 first
 |done
 |omega
 |exact Eq.refl _
 |simp only[List.length_append,List.length_cons,List.length_nil];omega
 |(
  have o0:=oo0 s;first
  |omega
  |(
   have e1:(aA s 1).2.2=0:=by with_reducible assumption
   have o1:=bC e1;have o2:=oo2 s (by omega);first
   |omega
   |(
    have e2:(aA s (aA s 1).2.1).2.2=0:=by with_reducible assumption
    have o3:=bC e2;first
    |omega
    |rw[List.length_replicate];omega
    |(
     simp only[ByteArray.size_extract];omega)
    |(
     have hu6:=aN (n:=(aA s 1).1-(aA s (aA s 1).2.1).1) (by omega);omega)
    |(
     have hus:cH c.2.1 (aE s (0:Int).toNat)=true:=by first|with_reducible assumption|exact kU (by with_reducible assumption)
     first
     |(
      have kn:(aA s (aA s 1).2.1).1>0:=by omega
      have ke:¬((aA s (aA s 1).2.1).2.1+((aA s 1).1+7).tdiv 8)>s.size:=by omega
      have ku:(eQ (s.extract (aA s (aA s 1).2.1).2.1.toNat ((aA s (aA s 1).2.1).2.1+((aA s 1).1+7).tdiv 8).toNat) (aA s 1).1).2=0:=by with_reducible assumption
      have kc:kS (s.extract (aA s (aA s 1).2.1).2.1.toNat ((aA s (aA s 1).2.1).2.1+((aA s 1).1+7).tdiv 8).toNat)=(aA s (aA s 1).2.1).1:=by first|with_reducible assumption|omega
      have eN:=jS (s:=s) (a:=(aA s (aA s 1).2.1).2.1) (n:=(aA s 1).1) (k:=(aA s (aA s 1).2.1).1) kn ke ku kc;have j4:(aA s 1).1<=4096:=by omega
      have jk:(aA s (aA s 1).2.1).1<=(aA s 1).1:=by omega
      obtain⟨m1,m3,m4,m5,m6⟩:=cM hus e1 j4 e2 jk eN;omega)
     |(
      have kn:¬(aA s (aA s 1).2.1).1>0:=by omega
      have eN:=lO (s:=s) (a:=(aA s (aA s 1).2.1).2.1) (n:=(aA s 1).1) (k:=(aA s (aA s 1).2.1).1) kn;have j4:(aA s 1).1<=4096:=by omega
      have jk:(aA s (aA s 1).2.1).1<=(aA s 1).1:=by omega
      obtain⟨m1,m3,m4,m5,m6⟩:=cM hus e1 j4 e2 jk eN;have hml:((cU s (aA s (aA s 1).2.1).2.1 (aA s 1).1 (aA s (aA s 1).2.1).1).1.length:Int)=(aA s 1).1:=by rw[eN];exact m1
      have hb:(cU s (aA s (aA s 1).2.1).2.1 (aA s 1).1 (aA s (aA s 1).2.1).1).1[i.toNat]! =false:=by rw[eN];first|with_reducible assumption|(simp_all;done)
      have hcf:=tR (by omega) hb;omega)
     |(
      have kn:(aA s (aA s 1).2.1).1>0:=by omega
      have ke:¬((aA s (aA s 1).2.1).2.1+((aA s 1).1+7).tdiv 8)>s.size:=by omega
      have ku:(eQ (s.extract (aA s (aA s 1).2.1).2.1.toNat ((aA s (aA s 1).2.1).2.1+((aA s 1).1+7).tdiv 8).toNat) (aA s 1).1).2=0:=by with_reducible assumption
      have kc:kS (s.extract (aA s (aA s 1).2.1).2.1.toNat ((aA s (aA s 1).2.1).2.1+((aA s 1).1+7).tdiv 8).toNat)=(aA s (aA s 1).2.1).1:=by first|with_reducible assumption|omega
      have eN:=jS (s:=s) (a:=(aA s (aA s 1).2.1).2.1) (n:=(aA s 1).1) (k:=(aA s (aA s 1).2.1).1) kn ke ku kc;have j4:(aA s 1).1<=4096:=by omega
      have jk:(aA s (aA s 1).2.1).1<=(aA s 1).1:=by omega
      obtain⟨m1,m3,m4,m5,m6⟩:=cM hus e1 j4 e2 jk eN;have hml:((cU s (aA s (aA s 1).2.1).2.1 (aA s 1).1 (aA s (aA s 1).2.1).1).1.length:Int)=(aA s 1).1:=by rw[eN];exact m1
      have hb:(cU s (aA s (aA s 1).2.1).2.1 (aA s 1).1 (aA s (aA s 1).2.1).1).1[i.toNat]! =false:=by rw[eN];first|with_reducible assumption|(simp_all;done)
      have hcf:=tR (by omega) hb;omega)
     |(
      have kn:¬(aA s (aA s 1).2.1).1>0:=by omega
      have eN:=lO (s:=s) (a:=(aA s (aA s 1).2.1).2.1) (n:=(aA s 1).1) (k:=(aA s (aA s 1).2.1).1) kn;have j4:(aA s 1).1<=4096:=by omega
      have jk:(aA s (aA s 1).2.1).1<=(aA s 1).1:=by omega
      obtain⟨m1,m3,m4,m5,m6⟩:=cM hus e1 j4 e2 jk eN;have hu6:=aN (n:=(aA s 1).1-(aA s (aA s 1).2.1).1) (by omega);rw[hu6];have huc:=BC hus;refine⟨?_,⟨by omega,by omega⟩,huc⟩;have:=SL s (aA s (aA s 1).2.1).2.1.toNat s.size;omega)
     |(
      have kn:(aA s (aA s 1).2.1).1>0:=by omega
      have ke:¬((aA s (aA s 1).2.1).2.1+((aA s 1).1+7).tdiv 8)>s.size:=by omega
      have ku:(eQ (s.extract (aA s (aA s 1).2.1).2.1.toNat ((aA s (aA s 1).2.1).2.1+((aA s 1).1+7).tdiv 8).toNat) (aA s 1).1).2=0:=by with_reducible assumption
      have kc:kS (s.extract (aA s (aA s 1).2.1).2.1.toNat ((aA s (aA s 1).2.1).2.1+((aA s 1).1+7).tdiv 8).toNat)=(aA s (aA s 1).2.1).1:=by first|with_reducible assumption|omega
      have eN:=jS (s:=s) (a:=(aA s (aA s 1).2.1).2.1) (n:=(aA s 1).1) (k:=(aA s (aA s 1).2.1).1) kn ke ku kc;have j4:(aA s 1).1<=4096:=by omega
      have jk:(aA s (aA s 1).2.1).1<=(aA s 1).1:=by omega
      obtain⟨m1,m3,m4,m5,m6⟩:=cM hus e1 j4 e2 jk eN;have hu6:=aN (n:=(aA s 1).1-(aA s (aA s 1).2.1).1) (by omega);rw[hu6];have huc:=BC hus;refine⟨?_,⟨by omega,by omega⟩,huc⟩;have:=SL s ((aA s (aA s 1).2.1).2.1+((aA s 1).1+7).tdiv 8).toNat s.size;omega))))))
  |(conv=>whnf
    first
     |with_reducible first|done|exact trivial|refine NilBr.mk (fun h=>?_) ?_|apply aI|apply aH|refine aJ (by kernel_rfl) ?_|apply aK|apply bE|apply bD|apply aQ
     |((with_reducible first|apply aS|apply aR|apply bB)<;>intro h<;>(try dsimp only[cu,eE,eN]at h)<;>(try(exfalso;omega)))
     |(
 intro yy (hy:Tag 61/\_)
 obtain⟨(i:Int),(M:List Val),(R:List Val),_⟩:=yy
 replace hy:=hy.2
 dsimp only[cu,aC,aB,gts,eE,eN]at hy
 obtain⟨hi,hL,hgo,hR⟩:=hy)))
 all_goals(
 with_reducible apply Leaf.mk
 (try dsimp only[cu,aC,aB,gts,eE,eN]at *)
 first
 |(
  have hus:cH c.2.1 (aE s (0:Int).toNat)=false:=by first|with_reducible assumption|(simp_all;done)
  rw[MH (.inl hus)])
 |(
  have e1:¬(aA s 1).2.2=0:=by with_reducible assumption
  rw[MH (.inr (.inl e1))])
 |(
  have o0:=oo0 s;have e1:(aA s 1).2.2=0:=by with_reducible assumption
  have o1:=bC e1;first
  |(
   have h4:(aA s 1).1>4096:=by omega
   rw[MH (.inr (.inr h4))])
  |(
   have hus:cH c.2.1 (aE s (0:Int).toNat)=true:=by first|with_reducible assumption|exact kU (by with_reducible assumption)
   have c1:¬(cH c.2.1 (aE s (0:Int).toNat)=false\/(aA s 1).2.2≠0\/(aA s 1).1>4096):=fun q=>by
    rcases q with q|q|q
    ·rw[hus]at q;cases q
    ·exact q e1
    ·omega
   have e2:¬(aA s (aA s 1).2.1).2.2=0:=by with_reducible assumption
   rw[qEB c1 (.inl e2)])
  |(
   have o2:=oo2 s (by omega);first
   |(
    have hus:cH c.2.1 (aE s (0:Int).toNat)=true:=by first|with_reducible assumption|exact kU (by with_reducible assumption)
    have c1:¬(cH c.2.1 (aE s (0:Int).toNat)=false\/(aA s 1).2.2≠0\/(aA s 1).1>4096):=fun q=>by
     rcases q with q|q|q
     ·rw[hus]at q;cases q
     ·exact q e1
     ·omega
    have h5:(aA s (aA s 1).2.1).1>(aA s 1).1:=by omega
    rw[qEB c1 (.inr h5)])
   |(
    have e2:(aA s (aA s 1).2.1).2.2=0:=by with_reducible assumption
    have o3:=bC e2;have hus:cH c.2.1 (aE s (0:Int).toNat)=true:=by first|with_reducible assumption|exact kU (by with_reducible assumption)
    first
    |(
     have eN:=JY (s:=s) (a:=(aA s (aA s 1).2.1).2.1) (n:=(aA s 1).1) (k:=(aA s (aA s 1).2.1).1) (by omega) (.inl (by omega));rw[vB hus e1 (by omega) e2 (by omega) eN])
    |(
     have eN:=JY (s:=s) (a:=(aA s (aA s 1).2.1).2.1) (n:=(aA s 1).1) (k:=(aA s (aA s 1).2.1).1) (by omega) (.inr (.inl (by with_reducible assumption)));rw[vB hus e1 (by omega) e2 (by omega) eN])
    |(
     have eN:=JY (s:=s) (a:=(aA s (aA s 1).2.1).2.1) (n:=(aA s 1).1) (k:=(aA s (aA s 1).2.1).1) (by omega) (.inr (.inr (by with_reducible assumption)));rw[vB hus e1 (by omega) e2 (by omega) eN])
    |(
     have kn:¬(aA s (aA s 1).2.1).1>0:=by omega
     have eN:=lO (s:=s) (a:=(aA s (aA s 1).2.1).2.1) (n:=(aA s 1).1) (k:=(aA s (aA s 1).2.1).1) kn;have j4:(aA s 1).1<=4096:=by omega
     have jk:(aA s (aA s 1).2.1).1<=(aA s 1).1:=by omega
     obtain⟨m1,m3,m4,m5,m6⟩:=cM hus e1 j4 e2 jk eN;have hu6:=aN (n:=(aA s 1).1-(aA s (aA s 1).2.1).1) (by omega);have hy:(eP c.2.1 (aE s (0:Int).toNat) (s.extract (aA s (aA s 1).2.1).2.1.toNat s.size) (IntKind.u64.wrap ((aA s 1).1-(aA s (aA s 1).2.1).1))).2=false:=by first|with_reducible assumption|exact TI (by with_reducible assumption)
     rw[hu6]at hy;rw[m6 hy])
    |(
     have kn:(aA s (aA s 1).2.1).1>0:=by omega
     have ke:¬((aA s (aA s 1).2.1).2.1+((aA s 1).1+7).tdiv 8)>s.size:=by omega
     have ku:(eQ (s.extract (aA s (aA s 1).2.1).2.1.toNat ((aA s (aA s 1).2.1).2.1+((aA s 1).1+7).tdiv 8).toNat) (aA s 1).1).2=0:=by with_reducible assumption
     have kc:kS (s.extract (aA s (aA s 1).2.1).2.1.toNat ((aA s (aA s 1).2.1).2.1+((aA s 1).1+7).tdiv 8).toNat)=(aA s (aA s 1).2.1).1:=by first|with_reducible assumption|omega
     have eN:=jS (s:=s) (a:=(aA s (aA s 1).2.1).2.1) (n:=(aA s 1).1) (k:=(aA s (aA s 1).2.1).1) kn ke ku kc;have j4:(aA s 1).1<=4096:=by omega
     have jk:(aA s (aA s 1).2.1).1<=(aA s 1).1:=by omega
     obtain⟨m1,m3,m4,m5,m6⟩:=cM hus e1 j4 e2 jk eN;have hu6:=aN (n:=(aA s 1).1-(aA s (aA s 1).2.1).1) (by omega);have hy:(eP c.2.1 (aE s (0:Int).toNat) (s.extract ((aA s (aA s 1).2.1).2.1+((aA s 1).1+7).tdiv 8).toNat s.size) (IntKind.u64.wrap ((aA s 1).1-(aA s (aA s 1).2.1).1))).2=false:=by first|with_reducible assumption|exact TI (by with_reducible assumption)
     rw[hu6]at hy;rw[m6 hy])
    |(
     have kn:¬(aA s (aA s 1).2.1).1>0:=by omega
     have eN:=lO (s:=s) (a:=(aA s (aA s 1).2.1).2.1) (n:=(aA s 1).1) (k:=(aA s (aA s 1).2.1).1) kn;have j4:(aA s 1).1<=4096:=by omega
     have jk:(aA s (aA s 1).2.1).1<=(aA s 1).1:=by omega
     obtain⟨m1,m3,m4,m5,m6⟩:=cM hus e1 j4 e2 jk eN;have hml:((cU s (aA s (aA s 1).2.1).2.1 (aA s 1).1 (aA s (aA s 1).2.1).1).1.length:Int)=(aA s 1).1:=by rw[eN];exact m1
     first
     |(
      have hb:(cU s (aA s (aA s 1).2.1).2.1 (aA s 1).1 (aA s (aA s 1).2.1).1).1[i.toNat]! =true:=by rw[eN];first|with_reducible assumption|(simp_all;done)
      have hv:¬bN c NV=0:=by with_reducible assumption
      rw[hgo,uZ (by omega) hb hv])
     |(
      have hb:(cU s (aA s (aA s 1).2.1).2.1 (aA s 1).1 (aA s (aA s 1).2.1).1).1[i.toNat]! =false:=by rw[eN];first|with_reducible assumption|(simp_all;done)
      have hv:¬bN c R[(0:Int).toNat]! =0:=by with_reducible assumption
      rw[hgo,yH (by omega) hb hv])
     |(rw[hgo,FE (by omega) (by omega)]))
    |(
     have kn:(aA s (aA s 1).2.1).1>0:=by omega
     have ke:¬((aA s (aA s 1).2.1).2.1+((aA s 1).1+7).tdiv 8)>s.size:=by omega
     have ku:(eQ (s.extract (aA s (aA s 1).2.1).2.1.toNat ((aA s (aA s 1).2.1).2.1+((aA s 1).1+7).tdiv 8).toNat) (aA s 1).1).2=0:=by with_reducible assumption
     have kc:kS (s.extract (aA s (aA s 1).2.1).2.1.toNat ((aA s (aA s 1).2.1).2.1+((aA s 1).1+7).tdiv 8).toNat)=(aA s (aA s 1).2.1).1:=by first|with_reducible assumption|omega
     have eN:=jS (s:=s) (a:=(aA s (aA s 1).2.1).2.1) (n:=(aA s 1).1) (k:=(aA s (aA s 1).2.1).1) kn ke ku kc;have j4:(aA s 1).1<=4096:=by omega
     have jk:(aA s (aA s 1).2.1).1<=(aA s 1).1:=by omega
     obtain⟨m1,m3,m4,m5,m6⟩:=cM hus e1 j4 e2 jk eN;have hml:((cU s (aA s (aA s 1).2.1).2.1 (aA s 1).1 (aA s (aA s 1).2.1).1).1.length:Int)=(aA s 1).1:=by rw[eN];exact m1
     first
     |(
      have hb:(cU s (aA s (aA s 1).2.1).2.1 (aA s 1).1 (aA s (aA s 1).2.1).1).1[i.toNat]! =true:=by rw[eN];first|with_reducible assumption|(simp_all;done)
      have hv:¬bN c NV=0:=by with_reducible assumption
      rw[hgo,uZ (by omega) hb hv])
     |(
      have hb:(cU s (aA s (aA s 1).2.1).2.1 (aA s 1).1 (aA s (aA s 1).2.1).1).1[i.toNat]! =false:=by rw[eN];first|with_reducible assumption|(simp_all;done)
      have hv:¬bN c R[(0:Int).toNat]! =0:=by with_reducible assumption
      rw[hgo,yH (by omega) hb hv])
     |(rw[hgo,FE (by omega) (by omega)]))))))
abbrev qcN:Tbl:=(142,HJ)::qcM
theorem qHZ:aD Tryz.prog qcN:=aD.cons qPF qHY
abbrev MM:Ct:=.fn [pJ,.str] (some (fun(c:Col) (s:ByteArray)=>(s.size<=288230376151711744))) (fun(c:Col) (s:ByteArray)=>.tup [.list bK,.int .i64] ((nH c s).1,(nH c s).2,()))
theorem qRY:aF Tryz.prog 95 MM:=by
 refine aF.fn qHZ mixed [] [] rfl rfl ?_;rintro⟨(c:Col),(s:ByteArray),_⟩ hpre;replace hpre:=hpre _ rfl;dsimp only[cu]at hpre;have hs:=hpre;refine⟨[],?_⟩;repeat' (first
  |(
 with_reducible apply Side.mk
 (try dsimp only[cu,aC,aB,gts,loK,hiK,eE,eN])
 first
 |omega
 |(
  have ho:fY s=0:=by with_reducible assumption
  have hz:=FR ho;have hbz:=vD (s:=s) (by omega);have hbl:=vC s;have ei:(if fY s=0 then gG s else EMP)=gG s:=if_pos ho;rw[ei];exact⟨by omega,by omega⟩))
  |(conv=>whnf
    first
     |with_reducible first|done|exact trivial|refine NilBr.mk (fun h=>?_) ?_|apply aI|apply aH|refine aJ (by kernel_rfl) ?_|apply aK|apply bE|apply bD|apply aQ
     |((with_reducible first|apply aS|apply aR|apply bB)<;>intro h<;>(try dsimp only[cu,eE,eN]at h)<;>(try(exfalso;omega)))))
 all_goals(
 with_reducible apply Leaf.mk
 (try dsimp only[cu,aC,aB,gts,eE,eN]at *)
 first
 |(
  have hk:cB c.2.1=false:=by simp [cB];omega
  rw[qNB hk])
 |(
  have hk:cB c.2.1=true:=by simp [cB];omega
  have ho:¬fY s=0:=by with_reducible assumption
  rw[qNC hk ho])
 |(
  have ho:fY s=0:=by with_reducible assumption
  have hz:=FR ho;have hbz:=vD (s:=s) (by omega);have hbl:=vC s;have ei:(if fY s=0 then gG s else EMP)=gG s:=if_pos ho;have hk:cB c.2.1=true:=by simp [cB];omega
  first
  |(
   have hb:(lL c (if fY s=0 then gG s else EMP)).2=false:=by first|with_reducible assumption|exact TI (by with_reducible assumption)
   rw[ei]at hb;rw[qND hk ho hb])
  |(
   have hb:(lL c (if fY s=0 then gG s else EMP)).2=true:=by first|with_reducible assumption|exact kU (by with_reducible assumption)
   rw[ei]at hb;(try rw[ei]);rw[qB6 hk ho hb])))
abbrev qcO:Tbl:=(95,MM)::qcN
theorem qH0:aD Tryz.prog qcO:=aD.cons qRY qHZ
abbrev HK:Ct:=.fn [pJ,.str] (some (fun(c:Col) (s:ByteArray)=>(s.size<=288230376151711744))) (fun(c:Col) (s:ByteArray)=>.tup [.list bK,.int .i64] ((nH c s).1,(nH c s).2,()))
theorem qPG:aF Tryz.prog 103 HK:=by
 refine aF.fn qH0 mixed [] [] rfl rfl ?_;rintro⟨(c:Col),(s:ByteArray),_⟩ hpre;replace hpre:=hpre _ rfl;dsimp only[cu]at hpre;have hs:=hpre;refine⟨[],?_⟩;repeat' (first
  |(
 with_reducible apply Side.mk
 (try dsimp only[cu,aC,aB,gts,loK,hiK,eE,eN])
 first
 |omega
 |(
  have ho:fY s=0:=by with_reducible assumption
  have hz:=FR ho;have hbz:=vD (s:=s) (by omega);have hbl:=vC s;first
  |omega
  |(
   have eb:(s.extract 0 ((s.size:Int)-4).toNat)=gG s:=rfl;rw[eb];exact⟨by omega,by omega⟩)))
  |(conv=>whnf
    first
     |with_reducible first|done|exact trivial|refine NilBr.mk (fun h=>?_) ?_|apply aI|apply aH|refine aJ (by kernel_rfl) ?_|apply aK|apply bE|apply bD|apply aQ
     |((with_reducible first|apply aS|apply aR|apply bB)<;>intro h<;>(try dsimp only[cu,eE,eN]at h)<;>(try(exfalso;omega)))))
 all_goals(
 with_reducible apply Leaf.mk
 (try dsimp only[cu,aC,aB,gts,eE,eN]at *)
 first
 |(
  have hk:cB c.2.1=false:=by first|with_reducible assumption|exact TI (by with_reducible assumption)
  rw[qNB hk])
 |(
  have hk:cB c.2.1=true:=by first|with_reducible assumption|exact kU (by with_reducible assumption)
  have ho:¬fY s=0:=by with_reducible assumption
  rw[qNC hk ho])
 |(
  have ho:fY s=0:=by with_reducible assumption
  have hz:=FR ho;have hbz:=vD (s:=s) (by omega);have hbl:=vC s;have hk:cB c.2.1=true:=by first|with_reducible assumption|exact kU (by with_reducible assumption)
  first
  |(
   have hb:(lL c (s.extract 0 ((s.size:Int)-4).toNat)).2=false:=by first|with_reducible assumption|exact TI (by with_reducible assumption)
   rw[qND hk ho hb])
  |(
   have hb:(lL c (s.extract 0 ((s.size:Int)-4).toNat)).2=true:=by first|with_reducible assumption|exact kU (by with_reducible assumption)
   rw[qB6 hk ho hb];first|done|rfl)))
abbrev qcP:Tbl:=(103,HK)::qcO
theorem qH1:aD Tryz.prog qcP:=aD.cons qPG qH0
abbrev pS:Ty:=.pair (.list (.int .i64)) (.int .i64)
abbrev Src:Type:=(List Int)×Int
@[reducible] instance:Inhabited Src:=instInhabitedDen pS
def pick (v n:Int):Int:=IntKind.i64.wrap (Int.tmod (IntKind.u64.wrap v) (IntKind.u64.wrap n))
theorem pick_lt {v n:Int} (h:0<n/\n<=9223372036854775807):0<=pick v n/\pick v n<n:=by
 have hn:IntKind.u64.wrap n=n:=IntWalk.u64_in n (by omega);have hv:0<=IntKind.u64.wrap v:=by simp [IntKind.wrap,IntKind.bits,IntKind.signed];omega
 have h1:=Int.tmod_nonneg (IntKind.u64.wrap n) hv;have h2:=Int.tmod_lt_of_pos (IntKind.u64.wrap v) (show 0<IntKind.u64.wrap n by omega);rw[hn]at h1 h2;unfold pick;rw[hn,qD2]<;>omega
theorem UD {n:Int} (h:0<n/\n<=9223372036854775807):¬IntKind.u64.wrap n=0:=by
 rw[IntWalk.u64_in n (by omega)];omega
def Src.ok (s:Src):Prop:=(0:Int)<=s.2/\s.1.length<=9223372036854775807
def Src.next (s:Src):Src:=if s.2>=s.1.length then s else⟨s.1,s.2+1⟩
def Src.val (s:Src):Int:=if s.2>=s.1.length then 0 else s.1[s.2.toNat]!
def Src.pick (s:Src) (n:Int):Int:=if s.2>=s.1.length then 0 else Go.Proofs.YtcjiefknhfhmkaaGreatDoor.pick s.1[s.2.toNat]! n
theorem Src.ok_next {s:Src} (h:Src.ok s):Src.ok (Src.next s):=by
 unfold Src.ok Src.next at *;split
 ·exact h
 ·exact⟨show(0:Int)<=s.2+1 by have:=h.1;omega,h.2⟩
theorem Src.pick_lt {s:Src} {n:Int} (h:0<n/\n<=9223372036854775807):0<=Src.pick s n/\Src.pick s n<n:=by
 unfold Src.pick;split
 ·omega
 ·exact Go.Proofs.YtcjiefknhfhmkaaGreatDoor.pick_lt h
theorem Src.ok_from {l:List Int} (h:l.length<=9223372036854775807):Src.ok (l,0):=⟨by simp,h⟩
abbrev NQ:Ct:=.fn [.int .i64,.int .i64] (some (fun(v:Int) (n:Int)=>(¬IntKind.u64.wrap n=0))) (fun(v:Int) (n:Int)=>.d (.int .i64) (pick v n))
theorem qT6:aF Tryz.prog 17 NQ:=by
 refine aF.fn qH1 mixed [(0,1,5)] [] rfl rfl ?_;rintro⟨(v:Int),(n:Int),_⟩ hpre;replace hpre:=hpre _ rfl;dsimp only[cu]at hpre;have hn:=hpre;refine⟨[],?_⟩;repeat' (first
  |(
 with_reducible apply Side.mk
 (try dsimp only[cu,aC,aB,gts,loK,hiK,eE,eN])
 omega)
  |(conv=>whnf
    first
     |with_reducible first|done|exact trivial|refine NilBr.mk (fun h=>?_) ?_|apply aI|apply aH|refine aJ (by kernel_rfl) ?_|apply aK|apply bE|apply bD|apply aQ
     |((with_reducible first|apply aS|apply aR|apply bB)<;>intro h<;>(try dsimp only[cu,eE,eN]at h)<;>(try(exfalso;omega)))))
 all_goals(
 with_reducible apply Leaf.mk
 (try dsimp only[cu,aC,aB,gts,eE,eN]at *)
 rfl)
abbrev qcQ:Tbl:=(17,NQ)::qcP
theorem qH2:aD Tryz.prog qcQ:=aD.cons qT6 qH1
abbrev NL:Ct:=.meth pS 124 [.int .i64] (some (fun(s:Src) (n:Int)=>(Src.ok s)/\(¬IntKind.u64.wrap n=0))) (fun(s:Src) (n:Int)=>.d (.int .i64) (Src.pick s n)) (fun(s:Src) (n:Int)=>Src.next s)
theorem qTV:aF Tryz.prog 36 NL:=by
 refine aF.meth qH2 mixed [] [] rfl rfl ?_;rintro(s:Src) ⟨(n:Int),_⟩ hpre;replace hpre:=hpre _ rfl;dsimp only[cu]at hpre;obtain⟨hs,hn⟩:=hpre;obtain⟨hs0,hs1⟩:=hs;refine⟨[],?_⟩;repeat' (first
  |(
 with_reducible apply Side.mk
 (try dsimp only[cu,aC,aB,gts,loK,hiK,eE,eN])
 omega)
  |(conv=>whnf
    first
     |with_reducible first|done|exact trivial|refine NilBr.mk (fun h=>?_) ?_|apply aI|apply aH|refine aJ (by kernel_rfl) ?_|apply aK|apply bE|apply bD|apply aQ
     |((with_reducible first|apply aS|apply aR|apply bB)<;>intro h<;>(try dsimp only[cu,eE,eN]at h)<;>(try(exfalso;omega)))))
 all_goals(
 with_reducible apply Leaf.mk
 (try dsimp only[cu,aC,aB,gts,eE,eN]at *)
 first
 |rw[Src.pick,if_pos (by omega)]
 |rw[Src.next,if_pos (by omega)]
 |(
  rw[Src.pick,if_neg (by omega)];rw[show s.2+1-1=s.2 by omega])
 |(rw[Src.next,if_neg (by omega)]))
abbrev qcR:Tbl:=(36,NL)::qcQ
theorem qH3:aD Tryz.prog qcR:=aD.cons qTV qH2
abbrev VF:Ct:=.meth pS 124 [] (some (fun(s:Src)=>(Src.ok s))) (fun(s:Src)=>.d (.int .i64) (Src.val s)) (fun(s:Src)=>Src.next s)
theorem qY4:aF Tryz.prog 123 VF:=by
 refine aF.meth qH3 mixed [] [] rfl rfl ?_;rintro(s:Src) ⟨⟩ hpre;replace hpre:=hpre _ rfl;dsimp only[cu]at hpre;have hs:=hpre;obtain⟨hs0,hs1⟩:=hs;refine⟨[],?_⟩;repeat' (first
  |(
 with_reducible apply Side.mk
 (try dsimp only[cu,aC,aB,gts,loK,hiK,eE,eN])
 omega)
  |(conv=>whnf
    first
     |with_reducible first|done|exact trivial|refine NilBr.mk (fun h=>?_) ?_|apply aI|apply aH|refine aJ (by kernel_rfl) ?_|apply aK|apply bE|apply bD|apply aQ
     |((with_reducible first|apply aS|apply aR|apply bB)<;>intro h<;>(try dsimp only[cu,eE,eN]at h)<;>(try(exfalso;omega)))))
 all_goals(
 with_reducible apply Leaf.mk
 (try dsimp only[cu,aC,aB,gts,eE,eN]at *)
 first
 |rw[Src.val,if_pos (by omega)]
 |rw[Src.next,if_pos (by omega)]
 |(
  rw[Src.val,if_neg (by omega)];rw[show s.2+1-1=s.2 by omega])
 |(rw[Src.next,if_neg (by omega)]))
abbrev qcS:Tbl:=(123,VF)::qcR
theorem qH4:aD Tryz.prog qcS:=aD.cons qY4 qH3
abbrev MX:Ct:=.new pS 124 [.list (.int .i64)] (none) (fun(l:List Int)=>((l,0):Src))
theorem qSY:aF Tryz.prog 35 MX:=by
 refine aF.new qH4 mixed [] [] rfl rfl ?_;rintro⟨(l:List Int),_⟩ -;refine⟨[],?_⟩;repeat' (first
  |(
 with_reducible apply Side.mk
 (try dsimp only[cu,aC,aB,gts,loK,hiK,eE,eN])
 done)
  |(conv=>whnf
    first
     |with_reducible first|done|exact trivial|refine NilBr.mk (fun h=>?_) ?_|apply aI|apply aH|refine aJ (by kernel_rfl) ?_|apply aK|apply bE|apply bD|apply aQ
     |((with_reducible first|apply aS|apply aR|apply bB)<;>intro h<;>(try dsimp only[cu,eE,eN]at h)<;>(try(exfalso;omega)))))
 all_goals(
 with_reducible apply Leaf.mk
 (try dsimp only[cu,aC,aB,gts,eE,eN]at *)
 done)
abbrev qcT:Tbl:=(35,MX)::qcS
theorem qH5:aD Tryz.prog qcT:=aD.cons qSY qH4
theorem bS (l:List Int):(bH l).size=l.length:=by simp [bH,ByteArray.size]
theorem IU (n:Int):(bH [n]).size=1:=rfl
def dR:Nat->Src->ByteArray->ByteArray×Src
 |0,s,x=>(x,s)
 |n+1,s,x=>dR n (Src.next s) (x++bH [IntKind.u8.wrap (97+Src.pick s 3)])
def qMJ (a b:Int):Int:=IntKind.i64.wrap ((BitVec.ofInt IntKind.i64.bits a &&& BitVec.ofInt IntKind.i64.bits b).toNat:Int)
def qOD (s:Src) (c:Col):Bool:=c.2.2.2&&decide (Src.pick s 4=0)
def zU (s:Src) (c:Col):Src:=if c.2.2.2=true then Src.next s else s
def SZ (s:Src):Int×Src:=if Src.pick (Src.next s) 8=0 then(Src.val (Src.next (Src.next s)),Src.next (Src.next (Src.next s)))else if Src.pick (Src.next s) 8=1 then(Int.tmod (Src.val (Src.next (Src.next s))) 1000,Src.next (Src.next (Src.next s)))
 else(IntKind.i64.wrap (Src.pick s 7-2),Src.next (Src.next s))
def qCT (c:Col) (n:Int) (s:Src):Val×Src:=
 if c.2.1=2 then(⟨false,qMJ n 1,EMP⟩,s)
 else if c.2.1=3 then(⟨false,0,(dR (Src.pick s 4).toNat (Src.next s) EMP).1⟩,(dR (Src.pick s 4).toNat (Src.next s) EMP).2)
 else if c.2.1=4 then(⟨false,Int.tmod n 700000,EMP⟩,s)else if c.2.1=5 then(⟨false,Int.tmod n 1000000000000000000,EMP⟩,s)else(⟨false,n,EMP⟩,s)
def jO (s:Src) (c:Col):Val×Src:=if qOD s c=true then(⟨true,0,EMP⟩,Src.next s)else qCT c (SZ (zU s c)).1 (SZ (zU s c)).2
theorem JU {k:Int} (h:k>0) (s:Src) (x:ByteArray):dR k.toNat s x=dR (k-1).toNat (Src.next s) (x++bH [IntKind.u8.wrap (97+Src.pick s 3)]):=by
 rw[show k.toNat=(k-1).toNat+1 by omega];rfl
theorem uI:∀(n:Nat) (s:Src) (x:ByteArray),(dR n s x).1.size=x.size+n
 |0,s,x=>rfl
 |n+1,s,x=>by
  rw[dR,uI n,ByteArray.size_append];rw[IU];omega
theorem zX:∀(n:Nat) (s:Src) (x:ByteArray),Src.ok s->Src.ok (dR n s x).2
 |0,s,x,h=>h
 |n+1,s,x,h=>zX n _ _ (Src.ok_next h)
theorem iG {s:Src} (c:Col) (h:Src.ok s):Src.ok (jO s c).2:=by
 have h1:Src.ok (zU s c):=by unfold zU;split;exact Src.ok_next h;exact h
 have h2:Src.ok (SZ (zU s c)).2:=by
  unfold SZ;split
  ·exact Src.ok_next (Src.ok_next (Src.ok_next h1))
  ·split
   ·exact Src.ok_next (Src.ok_next (Src.ok_next h1))
   ·exact Src.ok_next (Src.ok_next h1)
 unfold jO;split
 ·exact Src.ok_next h
 ·unfold qCT
  split;exact h2;split;exact zX _ _ _ (Src.ok_next h2);split;exact h2;split;exact h2;exact h2
abbrev DF:Ct:=.meth pS 124 [pJ] (some (fun(s:Src) (c:Col)=>(Src.ok s))) (fun(s:Src) (c:Col)=>.d bK ((jO s c).1)) (fun(s:Src) (c:Col)=>(jO s c).2)
theorem qJ8:aF Tryz.prog 87 DF:=by
 refine aF.meth qH5 mixed [(0,3,2)] [] rfl rfl ?_;rintro(s:Src) ⟨(c:Col),_⟩ hpre;replace hpre:=hpre _ rfl;dsimp only[cu]at hpre;have hs:=hpre;refine⟨[(0,30,LA.mk [.sl 7 (.int .i64),.sl 6 .str,.ob 0 pS 124] (fun y=>Tag 62/\cu [.int .i64,.str,pS] (fun(k:Int) (x:ByteArray) (q:Src)=>(0<=k/\k<=3)/\(Src.ok q)/\((x.size:Int)<=3-k)/\(jO s c=(((false,0,(dR k.toNat q x).1):Val),(dR k.toNat q x).2))) y) (cu [.int .i64,.str,pS] (fun(k:Int) (x:ByteArray) (q:Src)=>k.toNat)) (cu [.int .i64,.str,pS] (fun(k:Int) (x:ByteArray) (q:Src)=>([]:List (Nat×Nat×LA)))))],?_⟩;repeat' (first
  |(
 with_reducible refine Side.mk ⟨(⟨⟩:Tag 62),?_⟩
 dsimp only[cu,aC,aB,gts,eE,eN]
 refine⟨?_,?_,?_,?_⟩
 ·first
  |omega
  |have:=@Src.pick_lt;grind
 ·(repeat (first|assumption|exact Src.ok_from (by assumption)|apply Src.ok_next|apply iG|apply kNode_ok))
 ·first
  |(
  have h0:(ByteArray.size ⟨#[]⟩)=0:=rfl
  have:=@Src.pick_lt;grind)
  |(
  rw[ByteArray.size_append,IU]
  omega)
 ·first
  |simp [jO,qOD,zU,SZ,qCT, *];done
  |(rw[hg,JU (by assumption)]))
  |(
 with_reducible apply Side.mk
 (try dsimp only[cu,aC,aB,gts,loK,hiK,eE,eN])
 first
 |omega
 |exact Eq.refl _
 |(
  refine⟨?_,by decide⟩;(repeat (first|assumption|exact Src.ok_from (by assumption)|apply Src.ok_next|apply iG|apply kNode_ok));done)
 |((repeat (first|assumption|exact Src.ok_from (by assumption)|apply Src.ok_next|apply iG|apply kNode_ok));done)
 |have:=@Src.pick_lt;grind
 |(
  rw[IU];omega))
  |(conv=>whnf
    first
     |with_reducible first|done|exact trivial|refine NilBr.mk (fun h=>?_) ?_|apply aI|apply aH|refine aJ (by kernel_rfl) ?_|apply aK|apply bE|apply bD|apply aQ
     |((with_reducible first|apply aS|apply aR|apply bB)<;>intro h<;>(try dsimp only[cu,eE,eN]at h)<;>(try(exfalso;omega)))
     |(
 intro yy (hy:Tag 62/\_)
 obtain⟨(k:Int),(x:ByteArray),(q:Src),_⟩:=yy
 replace hy:=hy.2
 dsimp only[cu,aC,aB,gts,eE,eN]at hy
 obtain⟨hk,hq,hx,hg⟩:=hy)))
 all_goals(
 with_reducible apply Leaf.mk
 (try dsimp only[cu,aC,aB,gts,eE,eN]at *)
 first
 |simp [jO,qOD,zU,SZ,qCT,qMJ,oS, *];done
 |(
  rw[show k.toNat=0 by omega,dR]at hg;simp [hg];done))
abbrev qcU:Tbl:=(87,DF)::qcT
theorem qH6:aD Tryz.prog qcU:=aD.cons qJ8 qH5
def nE (s:Src):Prop:=∀x,x∈s.1->inI x
theorem qC0 (s:Src):(Src.next s).1=s.1:=by unfold Src.next;split<;>rfl
theorem jB {s:Src} (h:nE s):nE (Src.next s):=by unfold nE;rw[qC0];exact h
theorem qQ9 {s:Src} (h:nE s):inI (Src.val s):=by
 unfold Src.val;split
 ·unfold inI;exact⟨by decide,by decide⟩
 ·exact JO h _
theorem UB {a b:Int} (h:inI a):inI (Int.tmod a b):=by
 have h1:=Int.natAbs_tmod a b;have h2:a.natAbs%b.natAbs<=a.natAbs:=Nat.mod_le _ _;unfold inI at h ⊢;by_cases q:0<=a
 ·have:=Int.tmod_nonneg b q;omega
 ·have h3:Int.tmod a b<=0:=by
    have:=Int.tmod_nonneg b (show 0 <= -a by omega);rw[Int.neg_tmod]at this;omega
  omega
theorem PP:∀(n:Nat) (s:Src) (x:ByteArray),(dR n s x).2.1=s.1
 |0,s,x=>rfl
 |n+1,s,x=>by rw[dR,PP n,qC0]
theorem qE4 {s:Src} (h:nE s):inI (SZ s).1/\nE (SZ s).2:=by
 have h1:=jB h;have h2:=jB h1;have h3:=jB h2;unfold SZ;split
 ·exact⟨qQ9 h2,h3⟩
 ·split
  ·exact⟨UB (qQ9 h2),h3⟩
  ·exact⟨UF _,h2⟩
theorem UH:inI 0:=by unfold inI;exact⟨by decide,by decide⟩
theorem qS9 {c:Col} {n:Int} {s:Src} (hn:inI n) (hs:nE s):okV (qCT c n s).1/\nE (qCT c n s).2:=by
 unfold qCT;split
 ·exact⟨⟨Nat.zero_le _,UF _⟩,hs⟩
 ·split
  ·refine⟨⟨?_,UH⟩,?_⟩
   ·show(dR (Src.pick s 4).toNat (Src.next s) EMP).1.size<=1048576
    rw[uI];have:=Src.pick_lt (s:=s) (n:=4) (by decide);have e:EMP.size=0:=rfl;omega
   ·show nE (dR (Src.pick s 4).toNat (Src.next s) EMP).2
    unfold nE;rw[PP,qC0];exact hs
  ·split
   ·exact⟨⟨Nat.zero_le _,UB hn⟩,hs⟩
   ·split
    ·exact⟨⟨Nat.zero_le _,UB hn⟩,hs⟩
    ·exact⟨⟨Nat.zero_le _,hn⟩,hs⟩
theorem qJ7 {s:Src} (c:Col) (h:nE s):okV (jO s c).1/\nE (jO s c).2:=by
 have h1:nE (zU s c):=by unfold zU;split;exact jB h;exact h
 unfold jO;split
 ·exact⟨⟨Nat.zero_le _,UH⟩,jB h⟩
 ·exact qS9 (qE4 h1).1 (qE4 h1).2
abbrev IJ:Ct:=.fn [.list bK,.list bK] (some (fun(a:List Val) (b:List Val)=>(a.length<=9223372036854775807))) (fun(a:List Val) (b:List Val)=>.d .bool (decide (a=b)))
theorem qQC:aF Tryz.prog 22 IJ:=by
 refine aF.fn qH6 mixed [] [] rfl rfl ?_;rintro⟨(a:List Val),(b:List Val),_⟩ hpre;replace hpre:=hpre _ rfl;dsimp only[cu]at hpre;have ha:=hpre;refine⟨[(0,8,LA.mk [.sl 13 (.int .i64)] (fun y=>Tag 63/\cu [.int .i64] (fun(k:Int)=>(0<=k/\k<=a.length)/\(a.take k.toNat=b.take k.toNat)) y) (cu [.int .i64] (fun(k:Int)=>((a.length:Int)-k).toNat)) (cu [.int .i64] (fun(k:Int)=>([]:List (Nat×Nat×LA)))))],?_⟩;repeat' (first
  |(
 with_reducible refine Side.mk ⟨(⟨⟩:Tag 63),?_⟩
 dsimp only[cu,aC,aB,gts,eE,eN]
 refine⟨?_,?_⟩
 ·omega
 ·first
  |rfl
  |(
  have e1:k.toNat<a.length:=by omega
  have e2:k.toNat<b.length:=by omega
  have e3:a[k.toNat]! =b[k.toNat]!:=by simp_all [Prod.ext_iff]
  rw[getElem!_pos a k.toNat e1,getElem!_pos b k.toNat e2]at e3
  rw[show(k+1).toNat=k.toNat+1 by omega,List.take_add_one,List.take_add_one,hs,List.getElem?_eq_getElem e1,List.getElem?_eq_getElem e2,e3]))
  |(
 with_reducible apply Side.mk
 (try dsimp only[cu,aC,aB,gts,loK,hiK,eE,eN])
 first
 |omega
 |(kernel_rfl))
  |(conv=>whnf
    first
     |with_reducible first|done|exact trivial|refine NilBr.mk (fun h=>?_) ?_|apply aI|apply aH|refine aJ (by kernel_rfl) ?_|apply aK|apply bE|apply bD|apply aQ
     |((with_reducible first|apply aS|apply aR|apply bB)<;>intro h<;>(try dsimp only[cu,eE,eN]at h)<;>(try(exfalso;omega)))
     |(
 intro yy (hy:Tag 63/\_)
 obtain⟨(k:Int),_⟩:=yy
 replace hy:=hy.2
 dsimp only[cu,aC,aB,gts,eE,eN]at hy
 obtain⟨hk,hs⟩:=hy)))
 all_goals(
 with_reducible apply Leaf.mk
 (try dsimp only[cu,aC,aB,gts,eE,eN]at *)
 first
 |(
  have hab:a=b:=by
   have h2:=hs;rw[List.take_of_length_le (by omega),List.take_of_length_le (by omega)]at h2;exact h2
  rw[decide_eq_true hab])
 |(
  have hne:¬a=b:=fun q=>by subst q;omega
  rw[decide_eq_false hne])
 |(
  have hne:¬a=b:=fun q=>by subst q;simp_all
  rw[decide_eq_false hne]))
abbrev qcV:Tbl:=(22,IJ)::qcU
theorem qH7:aD Tryz.prog qcV:=aD.cons qQC qH6
end Go.Proofs.YtcjiefknhfhmkaaGreatDoor
