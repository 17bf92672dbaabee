import Derived.Test.YtcjiefknhfhmkaaGreatDoorM06
namespace Go.Proofs.YtcjiefknhfhmkaaGreatDoor
open Go.Abs
set_option maxRecDepth 100000
set_option maxHeartbeats 4000000
set_option linter.unusedVariables false
set_option linter.unusedSimpArgs false
def sLe (a b:ByteArray):Bool:=fA a b||decide (a=b)
def CQ (s:ByteArray) (a:Int):ByteArray:=s.extract (aA s a).2.1.toNat ((aA s a).2.1+(aA s a).1).toNat
def aY (s:ByteArray):Nat->Int->List ByteArray->List ByteArray×Int×Int
 |0,a,M=>(M,a,0)
 |n+1,a,M=>if(aA s a).2.2≠0 then([],0,(aA s a).2.2)else if(aA s a).1>s.size-(aA s a).2.1 then([],0,10)
  else if 0<M.length/\sLe (CQ s a) M[M.length-1]! =true then([],0,2)else aY s n ((aA s a).2.1+(aA s a).1) (M++ [CQ s a])
termination_by n _ _=>n
theorem qBD {s:ByteArray} {n a:Int} {M:List ByteArray} (h:(M.length:Int)<n) (h1:¬(aA s a).2.2=0):aY s (n-M.length).toNat a M=([],0,(aA s a).2.2):=by
 rw[show(n-M.length).toNat=(n-M.length-1).toNat+1 by omega,aY,if_pos h1]
theorem LB {s:ByteArray} {n a:Int} {M:List ByteArray} (h:(M.length:Int)<n) (h1:(aA s a).2.2=0) (h2:(aA s a).1>s.size-(aA s a).2.1):aY s (n-M.length).toNat a M=([],0,10):=by
 rw[show(n-M.length).toNat=(n-M.length-1).toNat+1 by omega,aY,if_neg (fun q=>q h1),if_pos h2]
theorem RB {s:ByteArray} {n a:Int} {M:List ByteArray} (h:(M.length:Int)<n) (h1:(aA s a).2.2=0) (h2:¬(aA s a).1>s.size-(aA s a).2.1) (h3:0<M.length/\sLe (CQ s a) M[M.length-1]! =true):aY s (n-M.length).toNat a M=([],0,2):=by
 rw[show(n-M.length).toNat=(n-M.length-1).toNat+1 by omega,aY,if_neg (fun q=>q h1),if_neg h2,if_pos h3]
theorem RC {s:ByteArray} {n a:Int} {M:List ByteArray} (h:(M.length:Int)<n) (h1:(aA s a).2.2=0) (h2:¬(aA s a).1>s.size-(aA s a).2.1) (h3:¬(0<M.length/\sLe (CQ s a) M[M.length-1]! =true)) :
  aY s (n-M.length).toNat a M=aY s (n-(M++ [CQ s a]).length).toNat ((aA s a).2.1+(aA s a).1) (M++ [CQ s a]):=by
 rw[show(n-M.length).toNat=(n-(M++ [CQ s a]).length).toNat+1 by simp;omega,aY,if_neg (fun q=>q h1),if_neg h2,if_neg h3]
theorem jE {s:ByteArray} {n a:Int} {M:List ByteArray} (h:¬(M.length:Int)<n):aY s (n-M.length).toNat a M=(M,a,0):=by
 rw[show(n-M.length).toNat=0 by omega,aY]
theorem bC {s:ByteArray} {a:Int} (h:(aA s a).2.2=0):0<=a/\a<(aA s a).2.1/\(aA s a).2.1<=s.size:=by
 have e:aA s a=((aA s a).1,(aA s a).2.1,0):=by
  rw[<-h]
 obtain⟨h1,h2,h3,h4,h5,h6,_⟩:=qCO e;have:=bU (aA s a).1;exact⟨h1,by omega,h6⟩
theorem qIQ {s:ByteArray}:∀(n:Nat) (a:Int) (M:List ByteArray),(aY s n a M).2.2=0->(aY s n a M).1.length=M.length+n/\((0<=a/\a<=s.size)->0<=(aY s n a M).2.1/\(aY s n a M).2.1<=s.size)
 |0,a,M,_=>by rw[aY];exact⟨rfl,fun h=>h⟩
 |n+1,a,M,h=>by
  rw[aY]at h ⊢;split at h
  ·rename_i h1;exact absurd h h1
  ·rename_i h1
   rw[if_neg h1];split at h
   ·exact absurd h (by decide)
   ·rename_i h2
    rw[if_neg h2];split at h
    ·exact absurd h (by decide)
    ·rename_i h3
     rw[if_neg h3];have hg:=bC (Decidable.not_not.1 h1);have hr:=aG s a;obtain⟨g1,g2⟩:=qIQ n _ _ h;exact⟨by rw[g1];simp;omega,fun _=>g2 ⟨by omega,by omega⟩⟩
abbrev IQ:Ct:=.fn [.str,.int .i64,.int .i64] (some (fun(s:ByteArray) (a0:Int) (n:Int)=>(s.size<=4611686018427387904)/\(0<=n/\n<=1000000))) (fun(s:ByteArray) (a0:Int) (n:Int)=>.tup [.list .str,.int .i64,.int .i64] ((aY s n.toNat a0 []).1,(aY s n.toNat a0 []).2.1,(aY s n.toNat a0 []).2.2,()))
theorem qRH:aF Tryz.prog 210 IQ:=by
 refine aF.fn qF5 mixed [(0,6,5)] [] rfl rfl ?_;rintro⟨(s:ByteArray),(a0:Int),(n:Int),_⟩ hpre;replace hpre:=hpre _ rfl;dsimp only[cu]at hpre;obtain⟨hs,hn⟩:=hpre;refine⟨[(0,4,LA.mk [.sl 1 (.int .i64),.lst 9 .str 9] (fun y=>Tag 10/\cu [.int .i64,.list .str] (fun(a:Int) (M:List ByteArray)=>(aY s n.toNat a0 []=aY s (n-M.length).toNat a M)/\((M.length:Int)<=n)) y) (cu [.int .i64,.list .str] (fun(a:Int) (M:List ByteArray)=>(n-(M.length:Int)).toNat)) (cu [.int .i64,.list .str] (fun(a:Int) (M:List ByteArray)=>([]:List (Nat×Nat×LA)))))],?_⟩;repeat' (first
  |(
 with_reducible refine Side.mk ⟨(⟨⟩:Tag 10),?_⟩
 dsimp only[cu,aC,aB,gts,eE,eN]
 refine⟨?_,?_⟩
 ·first
  |rw[List.length_nil];simp;done
  |(
  rw[hM]
  exact RC (by omega) (by assumption) (by assumption) (fun q=>by simp_all [sLe,CQ]))
 ·first
  |simp only[List.length_nil];omega
  |(simp only[List.length_append,List.length_cons,List.length_nil];omega))
  |(
 with_reducible apply Side.mk
 (try dsimp only[cu,aC,aB,gts,loK,hiK,eE,eN])
 first
 |done
 |omega
 |exact Eq.refl _
 |simp only[List.length_append,List.length_cons,List.length_nil];omega
 |(
  have hr:=aG s a;have hg:=bC (s:=s) (a:=a) (by assumption);omega))
  |(conv=>whnf
    first
     |with_reducible first|done|exact trivial|refine NilBr.mk (fun h=>?_) ?_|apply aI|apply aH|refine aJ (by kernel_rfl) ?_|apply aK|apply bE|apply bD|apply aQ
     |((with_reducible first|apply aS|apply aR|apply bB)<;>intro h<;>(try dsimp only[cu,eE,eN]at h)<;>(try(exfalso;omega)))
     |(
 intro yy (hy:Tag 10/\_)
 obtain⟨(a:Int),(M:List ByteArray),_⟩:=yy
 replace hy:=hy.2
 dsimp only[cu,aC,aB,gts,eE,eN]at hy
 obtain⟨hM,hl⟩:=hy)))
 all_goals(
 with_reducible apply Leaf.mk
 (try dsimp only[cu,aC,aB,gts,eE,eN]at *)
 first
 |rw[hM,qBD (by omega) (by assumption)]
 |rw[hM,LB (by omega) (by assumption) (by assumption)]
 |rw[hM,RB (by omega) (by assumption) (by assumption) ⟨by omega,by simp_all [sLe,CQ]⟩]
 |(rw[hM,jE (by assumption)]))
abbrev qaT:Tbl:=(210,IQ)::qaS
theorem qF6:aD Tryz.prog qaT:=aD.cons qRH qF5
def wdN (n:Int):Int:=fI (dF (n-1) 0)
def zJ (s:ByteArray) (ws:List ByteArray):ByteArray:=ws.foldl (fun s w=>s++(bH (put (w.size:Int))++w)) s
theorem qCA {s:ByteArray} {W:List ByteArray} {k:Int} (h:0<=k/\k<W.length):zJ s (W.take (k+1).toNat)=zJ s (W.take k.toNat)++(bH (put (W[k.toNat]!.size:Int))++W[k.toNat]!):=by
 rw[show(k+1).toNat=k.toNat+1 by omega,List.take_succ_eq_append_getElem (by omega)];unfold zJ;rw[List.foldl_append,getElem!_pos W k.toNat (by omega)];rfl
theorem JE {B:Nat}:∀(W:List ByteArray) (s:ByteArray),(∀w,w∈W->w.size<=B)->(zJ s W).size<=s.size+W.length*(B+10)
 | [],s,_=>by simp [zJ]
 |w::W,s,h=>by
  have ih:=JE W (s++(bH (put (w.size:Int))++w)) (fun v hv=>h v (by simp [hv]));have h1:=h w (by simp);have h2:=bU (w.size:Int);have e:(s++(bH (put (w.size:Int))++w)).size=s.size+((put (w.size:Int)).length+w.size):=by simp only[ByteArray.size_append,cY]
  rw[e]at ih;show(zJ (s++(bH (put (w.size:Int))++w)) W).size<=_;simp only[List.length_cons,Nat.add_mul];omega
def rW (l:List ByteArray):ByteArray:=if l.length>4096 then⟨#[]⟩else zJ (bH (put ((cE l).length:Int))) (cE l)++(rD (fF l) (wdN (cE l).length)).1
theorem ET {l:List ByteArray} {B:Nat} (h:∀w,w∈l->w.size<=B):∀w,w∈cE l->w.size<=B:=fun w hw=>h w ((LC l w).1 hw)
theorem xP {l:List ByteArray} {v:Int} {k:Nat} (h:∀w,w∈l->w.size<=1073741824) (hl:l.length<=4096):(zJ (bH (put v)) ((cE l).take k)).size<=4398046552074:=by
 have h1:=JE (B:=1073741824) ((cE l).take k) (bH (put v)) (fun w hw=>ET h w (List.mem_of_mem_take hw));have h2:=bU v;have h3:=jF l;rw[cY]at h1;have h4:((cE l).take k).length<=4096:=by simp;omega
 have h5:((cE l).take k).length*(1073741824+10)<=4096*(1073741824+10):=Nat.mul_le_mul_right _ h4;omega
theorem qBY (l:List ByteArray):∀c,c∈fF l->0<=c/\c<=(cE l).length:=by
 intro c hc;obtain⟨s,_,rfl⟩:=List.mem_map.1 hc;have:=KF (cE l) s;omega
theorem OQ (l:List ByteArray) (k:Nat):0<=(fF l)[k]! /\(fF l)[k]! <=l.length:=by
 by_cases h:k<(fF l).length
 ·have:=qBY l (fF l)[k]! (by rw[getElem!_pos _ k h];exact List.getElem_mem h)
  have:=jF l;omega
 ·rw[getElem!_neg _ k h];exact⟨Int.le_refl _,by show(0:Int)<=_;omega⟩
theorem qJN {l:List ByteArray} {k:Int} (h:0<=k/\k<l.length):(fF l)[k.toNat]! =(plS (cE l) l[k.toNat]!:Int):=by
 rw[getElem!_pos (fF l) k.toNat (by rw[lV];omega),getElem!_pos l k.toNat (by omega)];simp [fF]
theorem qBZ {l:List ByteArray} {k:Int} (h:0<=k/\k<l.length):(fF l).take (k+1).toNat=(fF l).take k.toNat++ [(plS (cE l) l[k.toNat]!:Int)]:=by
 rw[show(k+1).toNat=k.toNat+1 by omega,List.take_succ_eq_append_getElem (by rw[lV];omega),<-qJN h,getElem!_pos (fF l) k.toNat (by rw[lV];omega)]
theorem qD1 {l:List ByteArray} {k:Int} (h:0<=k/\k<l.length):(l.take (k+1).toNat).foldl kT []=kT ((l.take k.toNat).foldl kT []) l[k.toNat]!:=by
 rw[show(k+1).toNat=k.toNat+1 by omega,List.take_succ_eq_append_getElem (by omega),List.foldl_append,getElem!_pos l k.toNat (by omega)];rfl
theorem LD (l:List ByteArray) (k:Nat):((l.take k).foldl kT []).length<=l.length:=by
 have:=jF (l.take k);unfold cE at this;simp at this;omega
theorem qS7 {M:List ByteArray} {s:ByteArray} (h:¬((plS M s:Int)=M.length)) (h2:M[(plS M s:Int).toNat]! =s):kT M s=M:=by
 rw[Int.toNat_natCast]at h2;unfold kT;rw[if_neg];rintro(q|q)
 ·exact h (by omega)
 ·exact q h2
theorem qOB {M:List ByteArray} {s:ByteArray} (h:(plS M s:Int)=M.length\/¬M[(plS M s:Int).toNat]! =s):kT M s=M.take (plS M s)++ [s]++M.drop (plS M s):=by
 rw[Int.toNat_natCast]at h;unfold kT;rw[if_pos];rcases h with q|q
 ·exact .inl (by omega)
 ·exact .inr q
theorem qKH (w:Int) (h:0<=w/\w<=64):(rD [] w).1=⟨#[]⟩:=by
 have e:(bP ((([]:List Int).length:Nat):Int) w).toNat=0:=by
  obtain⟨h1,_⟩:=gY (n:=((([]:List Int).length:Nat):Int)) (w:=w) ⟨⟨by simp,by simp⟩,h⟩;rw[h1];simp
 unfold rD;rw[if_neg (by omega),if_neg (by simp),if_neg (by simp [rQ]),e];rfl
theorem qU5 (n:Int) (h:n<=9223372036854775807):0<=wdN n/\wdN n<=64:=by
 unfold wdN;have hm:dF (n-1) 0<18446744073709551616:=by unfold dF;split<;>omega
 exact zW hm
abbrev HI:Ct:=.fn [.list .str,.str] (some (fun(l:List ByteArray) (s:ByteArray)=>(l.length<=4611686018427387904))) (fun(l:List ByteArray) (s:ByteArray)=>.d (.int .i64) (plS l s:Int))
theorem qO7:aF Tryz.prog 208 HI:=by
 refine aF.fn qF6 mixed [] [] rfl rfl ?_;rintro⟨(l:List ByteArray),(s:ByteArray),_⟩ hpre;replace hpre:=hpre _ rfl;dsimp only[cu]at hpre;have hl:=hpre;refine⟨[(0,4,LA.mk [.sl 5 (.int .i64)] (fun y=>Tag 11/\cu [.int .i64] (fun(i:Int)=>(0<=i/\i<=l.length)/\(∀t:Nat,(t:Int)<i->fA l[t]! s=true)) y) (cu [.int .i64] (fun(i:Int)=>((l.length:Int)-i).toNat)) (cu [.int .i64] (fun(i:Int)=>([]:List (Nat×Nat×LA)))))],?_⟩;repeat' (first
  |(
 with_reducible refine Side.mk ⟨(⟨⟩:Tag 11),?_⟩
 dsimp only[cu,aC,aB,gts,eE,eN]
 refine⟨?_,?_⟩
 ·omega
 ·first
  |intro t ht;omega
  |(
  intro t ht
  rcases Int.lt_or_le (t:Int) i with q|q
  ·exact hp t q
  ·rw[show t=i.toNat by omega];assumption))
  |(
 with_reducible apply Side.mk
 (try dsimp only[cu,aC,aB,gts,loK,hiK,eE,eN])
 omega)
  |(conv=>whnf
    first
     |with_reducible first|done|exact trivial|refine NilBr.mk (fun h=>?_) ?_|apply aI|apply aH|refine aJ (by kernel_rfl) ?_|apply aK|apply bE|apply bD|apply aQ
     |((with_reducible first|apply aS|apply aR|apply bB)<;>intro h<;>(try dsimp only[cu,eE,eN]at h)<;>(try(exfalso;omega)))
     |(
 intro yy (hy:Tag 11/\_)
 obtain⟨(i:Int),_⟩:=yy
 replace hy:=hy.2
 dsimp only[cu,aC,aB,gts,eE,eN]at hy
 obtain⟨hi,hp⟩:=hy)))
 all_goals(
 with_reducible apply Leaf.mk
 (try dsimp only[cu,aC,aB,gts,eE,eN]at *)
 first
 |(
  have e:i.toNat=l.length:=by omega
  have e2:=xV (k:=i.toNat) (fun t ht=>hp t (by omega)) (by omega) (.inl e);show(i:Int)=(plS l s:Int)
  omega)
 |(
  have e:¬fA l[i.toNat]! s=true:=by first|assumption|(simp_all;done)
  have e2:=xV (k:=i.toNat) (fun t ht=>hp t (by omega)) (by omega) (.inr e);show(i:Int)=(plS l s:Int)
  omega))
abbrev qaU:Tbl:=(208,HI)::qaT
theorem qF7:aD Tryz.prog qaU:=aD.cons qO7 qF6
abbrev DJ:Ct:=.fn [.list .str] (some (fun(l:List ByteArray)=>(l.length<=1073741824))) (fun(l:List ByteArray)=>.tup [.list .str,.list (.int .i64)] (cE l,fF l,()))
theorem qKL:aF Tryz.prog 182 DJ:=by
 refine aF.fn qF7 mixed [] [] rfl rfl ?_;rintro⟨(l:List ByteArray),_⟩ hpre;replace hpre:=hpre _ rfl;dsimp only[cu]at hpre;have hl:=hpre;refine⟨[(0,6,LA.mk [.sl 14 (.int .i64),.lst 4 .str 9] (fun y=>Tag 12/\cu [.int .i64,.list .str] (fun(k:Int) (M:List ByteArray)=>(0<=k/\k<=l.length)/\(M=(l.take k.toNat).foldl kT [])) y) (cu [.int .i64,.list .str] (fun(k:Int) (M:List ByteArray)=>((l.length:Int)-k).toNat)) (cu [.int .i64,.list .str] (fun(k:Int) (M:List ByteArray)=>([]:List (Nat×Nat×LA))))),(0,26,LA.mk [.sl 49 (.int .i64),.lst 9 (.int .i64) 3] (fun y=>Tag 13/\cu [.int .i64,.list (.int .i64)] (fun(k:Int) (C:List Int)=>(0<=k/\k<=l.length)/\(C=(fF l).take k.toNat)) y) (cu [.int .i64,.list (.int .i64)] (fun(k:Int) (C:List Int)=>((l.length:Int)-k).toNat)) (cu [.int .i64,.list (.int .i64)] (fun(k:Int) (C:List Int)=>([]:List (Nat×Nat×LA)))))],?_⟩;repeat' (first
  |(
 with_reducible refine Side.mk ⟨(⟨⟩:Tag 12),?_⟩
 dsimp only[cu,aC,aB,gts,eE,eN]
 refine⟨?_,?_⟩
 ·omega
 ·first
  |rfl
  |(
  have e:=qD1 (l:=l) (k:=k) (by omega)
  rw[<-hM]at e
  first
  |(
   have e1:¬((plS M l[k.toNat]!:Int)=M.length):=by first|omega|(simp_all;done)
   have e2:M[(plS M l[k.toNat]!:Int).toNat]! =l[k.toNat]!:=by simp_all;done
   rw[e,qS7 e1 e2])
  |(
   have e1:(plS M l[k.toNat]!:Int)=M.length\/¬M[(plS M l[k.toNat]!:Int).toNat]! =l[k.toNat]!:=by first|(left;omega)|(right;assumption)|(right;simp_all;done)
   rw[e,qOB e1];have h0:=KF M l[k.toNat]!;clear hM e e1;simp only[TZ,List.nil_append,Int.toNat_natCast,List.append_nil,List.drop_zero];have e4:((M.length:Int)-(plS M l[k.toNat]!:Int)).toNat=M.length-plS M l[k.toNat]!:=by omega
   (try rw[e4]);first|(have e5:plS M l[k.toNat]! =M.length:=(by omega);rw[e5];simp;done)|(have e5:plS M l[k.toNat]! =0:=(by omega);rw[e5];simp;done)|(have e5:(M.drop (plS M l[k.toNat]!)).take (M.length-plS M l[k.toNat]!)=M.drop (plS M l[k.toNat]!):=List.take_of_length_le (by simp);rw[e5])|grind)))
  |(
 with_reducible refine Side.mk ⟨(⟨⟩:Tag 13),?_⟩
 dsimp only[cu,aC,aB,gts,eE,eN]
 refine⟨?_,?_⟩
 ·omega
 ·first
  |rfl
  |(rw[qBZ (by omega),<-hC,show cE l=M by(unfold cE;rw[hM,List.take_of_length_le (by omega)])]))
  |(
 with_reducible apply Side.mk
 (try dsimp only[cu,aC,aB,gts,loK,hiK,eE,eN])
 first
 |done
 |omega
 |exact Eq.refl _
 |simp only[List.length_append,List.length_cons,List.length_nil];omega
 |(
  have hw:=LD l k.toNat;(try rw[<-hM]at hw);omega)
 |(
  rw[hM,List.take_of_length_le (by omega)];show(cE l).length<=4611686018427387904;have:=jF l;omega)
 |(
  have hw:=LD l k.toNat;(try rw[<-hM]at hw);first
  |(
   have h0:=KF M l[k.toNat]!;(try simp only[List.length_append,List.length_take,List.length_drop,List.length_cons,List.length_nil,TZ]);omega)
  |(
   have hcl:=congrArg List.length hC;simp only[List.length_take,List.length_cons,List.length_nil]at hcl ⊢;omega)))
  |(conv=>whnf
    first
     |with_reducible first|done|exact trivial|refine NilBr.mk (fun h=>?_) ?_|apply aI|apply aH|refine aJ (by kernel_rfl) ?_|apply aK|apply bE|apply bD|apply aQ
     |((with_reducible first|apply aS|apply aR|apply bB)<;>intro h<;>(try dsimp only[cu,eE,eN]at h)<;>(try(exfalso;omega)))
     |(
 intro yy (hy:Tag 12/\_)
 obtain⟨(k:Int),(M:List ByteArray),_⟩:=yy
 replace hy:=hy.2
 dsimp only[cu,aC,aB,gts,eE,eN]at hy
 obtain⟨hk,hM⟩:=hy)
     |(
 intro yy (hy:Tag 13/\_)
 obtain⟨(k:Int),(C:List Int),_⟩:=yy
 replace hy:=hy.2
 dsimp only[cu,aC,aB,gts,eE,eN]at hy
 obtain⟨hk,hC⟩:=hy)))
 all_goals(
 with_reducible apply Leaf.mk
 (try dsimp only[cu,aC,aB,gts,eE,eN]at *)
 first
 |(
  unfold cE;rw[hM,List.take_of_length_le (by omega)])
 |(rw[hC,List.take_of_length_le (by rw[lV];omega)]))
abbrev qaV:Tbl:=(182,DJ)::qaU
theorem qF8:aD Tryz.prog qaV:=aD.cons qKL qF7
theorem qUT {l:List ByteArray} {B:Nat} (h:∀w,w∈l->w.size<=B) (k:Nat):l[k]!.size<=B:=by
 by_cases q:k<l.length
 ·exact h _ (by rw[getElem!_pos l k q];exact List.getElem_mem q)
 ·rw[getElem!_neg l k q];exact Nat.zero_le _
theorem qBF {l:List ByteArray} (h:∀w,w∈l->w.size<=1073741824) (k:Nat):(cE l)[k]!.size<=1073741824:=qUT (ET h) k
theorem qNK {l:List ByteArray} (h:cE l= []):(rD (fF l) (wdN (cE l).length)).1=⟨#[]⟩:=by
 have hl:l= []:=by
  cases l with
  |nil=>rfl
  |cons a l=>
   have:=(LC (a::l) a).2 (by simp);rw[h]at this;simp at this
 subst hl;exact qKH _ (qU5 _ (by simp [cE]))
theorem LM (s:ByteArray):s++⟨#[]⟩=s:=by
 show s++ByteArray.empty=s;simp
theorem iI (s:ByteArray):bH (aU s)=s:=by
 apply sY;exact bW (fun b hb=>qDY hb)
theorem pD (l:List Int) (w:Int):(rD l w).1.size<=32768:=by
 unfold rD;split
 ·exact Nat.zero_le _
 split
 ·exact Nat.zero_le _
 split
 ·exact Nat.zero_le _
 ·rw[cY,lB]
  obtain⟨h1,h2⟩:=gY (n:=(l.length:Int)) (w:=w) ⟨⟨by omega,by omega⟩,by omega⟩;rw[h1];omega
abbrev DD:Ct:=.fn [.int .i64] (some (fun(n:Int)=>(0<=n/\n<=4611686018427387904))) (fun(n:Int)=>.d (.int .i64) (wdN n))
theorem qJY:aF Tryz.prog 181 DD:=by
 refine aF.fn qF8 mixed [] [] rfl rfl ?_;rintro⟨(n:Int),_⟩ hpre;replace hpre:=hpre _ rfl;dsimp only[cu]at hpre;have hn:=hpre;refine⟨[],?_⟩;repeat' (first
  |(
 with_reducible apply Side.mk
 (try dsimp only[cu,aC,aB,gts,loK,hiK,eE,eN])
 first
 |omega
 |(
  have:dF (n-1) 0<=4611686018427387904/\0<=dF (n-1) 0:=by unfold dF;split<;>omega
  rw[aN (by omega)];omega))
  |(conv=>whnf
    first
     |with_reducible first|done|exact trivial|refine NilBr.mk (fun h=>?_) ?_|apply aI|apply aH|refine aJ (by kernel_rfl) ?_|apply aK|apply bE|apply bD|apply aQ
     |((with_reducible first|apply aS|apply aR|apply bB)<;>intro h<;>(try dsimp only[cu,eE,eN]at h)<;>(try(exfalso;omega)))))
 all_goals(
 with_reducible apply Leaf.mk
 (try dsimp only[cu,aC,aB,gts,eE,eN]at *)
 (
  have:dF (n-1) 0<=4611686018427387904/\0<=dF (n-1) 0:=by unfold dF;split<;>omega
  rw[aN (by omega)];rfl))
abbrev qaW:Tbl:=(181,DD)::qaV
theorem qF9:aD Tryz.prog qaW:=aD.cons qJY qF8
abbrev yV:Ct:=.fn [.list .str] (some (fun(l:List ByteArray)=>(∀w,w∈l->w.size<=1073741824)/\(l.length<=1073741824))) (fun(l:List ByteArray)=>.d .str (rW l))
theorem qDH:aF Tryz.prog 157 yV:=by
 refine aF.fn qF9 mixed [] [] rfl rfl ?_;rintro⟨(l:List ByteArray),_⟩ hpre;replace hpre:=hpre _ rfl;dsimp only[cu]at hpre;obtain⟨hb,hl⟩:=hpre;refine⟨[(0,12,LA.mk [.sl 27 (.int .i64),.sl 5 .str] (fun y=>Tag 14/\cu [.int .i64,.str] (fun(k:Int) (x:ByteArray)=>(0<=k/\k<=(cE l).length)/\(x=zJ (bH (put ((cE l).length:Int))) ((cE l).take k.toNat))) y) (cu [.int .i64,.str] (fun(k:Int) (x:ByteArray)=>(((cE l).length:Int)-k).toNat)) (cu [.int .i64,.str] (fun(k:Int) (x:ByteArray)=>([]:List (Nat×Nat×LA))))),(0,28,LA.mk [.sl 46 (.int .i64),.lst 8 (.int .u64) 86] (fun y=>Tag 15/\cu [.int .i64,.list (.int .u64)] (fun(k:Int) (C:List Int)=>(0<=k/\k<=(fF l).length)/\(C=(fF l).take k.toNat)) y) (cu [.int .i64,.list (.int .u64)] (fun(k:Int) (C:List Int)=>(((fF l).length:Int)-k).toNat)) (cu [.int .i64,.list (.int .u64)] (fun(k:Int) (C:List Int)=>([]:List (Nat×Nat×LA)))))],?_⟩;repeat' (first
  |(
 with_reducible refine Side.mk ⟨(⟨⟩:Tag 14),?_⟩
 dsimp only[cu,aC,aB,gts,eE,eN]
 refine⟨?_,?_⟩
 ·omega
 ·first
  |rw[aN (by have:=jF l;omega)];rfl
  |(
  have hw:=jF l
  have hsz:=qBF hb k.toNat
  rw[qCA (by omega),hM,aN (by omega)]))
  |(
 with_reducible refine Side.mk ⟨(⟨⟩:Tag 15),?_⟩
 dsimp only[cu,aC,aB,gts,eE,eN]
 refine⟨?_,?_⟩
 ·omega
 ·first
  |rfl
  |(
  have hc:=OQ l k.toNat
  rw[show(k+1).toNat=k.toNat+1 by omega,hC,aN (by omega),List.take_succ_eq_append_getElem (by omega),getElem!_pos _ k.toNat (by omega)]))
  |(
 with_reducible apply Side.mk
 (try dsimp only[cu,aC,aB,gts,loK,hiK,eE,eN])
 first
 |done
 |omega
 |exact Eq.refl _
 |(
  have:=jF l;omega)
 |exact pP _
 |(
  have hcl:=congrArg List.length hC;simp only[List.length_take,List.length_cons,List.length_nil]at hcl ⊢;have:=lV l;omega)
 |(
  have e:C=fF l:=by rw[hC,List.take_of_length_le (by omega)]
  subst e;refine⟨fun i=>?_,by rw[lV];omega⟩;have:=OQ l i;omega)
 |(
  have hm:=congrArg ByteArray.size hM;first
  |(
   have ht:=xP (v:=((cE l).length:Int)) (k:=k.toNat) hb (by omega);have hp:=bU (IntKind.u64.wrap ((cE l)[k.toNat]!.size:Int));have hsz:=qBF hb k.toNat;simp only[ByteArray.size_append,cY];omega)
  |(
   rw[List.take_of_length_le (by omega)]at hm;have ht:=xP (v:=((cE l).length:Int)) (k:=(cE l).length) hb (by omega);rw[List.take_of_length_le (by omega)]at ht;have hpk:=pD C (fI (IntKind.u64.wrap ((cE l).length-1)));omega)))
  |(conv=>whnf
    first
     |with_reducible first|done|exact trivial|refine NilBr.mk (fun h=>?_) ?_|apply aI|apply aH|refine aJ (by kernel_rfl) ?_|apply aK|apply bE|apply bD|apply aQ
     |((with_reducible first|apply aS|apply aR|apply bB)<;>intro h<;>(try dsimp only[cu,eE,eN]at h)<;>(try(exfalso;omega)))
     |(
 intro yy (hy:Tag 14/\_)
 obtain⟨(k:Int),(x:ByteArray),_⟩:=yy
 replace hy:=hy.2
 dsimp only[cu,aC,aB,gts,eE,eN]at hy
 obtain⟨hk,hM⟩:=hy)
     |(
 intro yy (hy:Tag 15/\_)
 obtain⟨(k:Int),(C:List Int),_⟩:=yy
 replace hy:=hy.2
 dsimp only[cu,aC,aB,gts,eE,eN]at hy
 obtain⟨hk,hC⟩:=hy)))
 all_goals(
 with_reducible apply Leaf.mk
 (try dsimp only[cu,aC,aB,gts,eE,eN]at *)
 first
 |(
  have e0:l.length>4096:=by omega
  rw[rW,if_pos e0])
 |rw[rW,if_neg (by omega),hM,qNK (List.length_eq_zero_iff.1 (by omega)),LM,List.take_of_length_le (by omega)]
 |(
  rw[rW,if_neg (by omega),hM,List.take_of_length_le (by omega),hC,List.take_of_length_le (by omega),aN (by have:=jF l;omega)];rw[wdN,show dF ((cE l).length-1) 0=(cE l).length-1 by(unfold dF;split<;>omega)]))
abbrev qaX:Tbl:=(157,yV)::qaW
theorem qGA:aD Tryz.prog qaX:=aD.cons qDH qF9
theorem dH (l:List Int) (j:Nat):@getElem! (List Int) Nat Int _ _ (instInhabitedDen (.int .u64)) l j=l[j]!:=rfl
def CA:List Bool->Bool->Int->Int
 | [],_,_=>-1
 |b::r,v,k=>if v=b then k else CA r v (k+1)
theorem vO {l:List Bool} {v:Bool} {k:Int} (h:0<=k/\k<l.length):CA (l.drop k.toNat) v k=if v=l[k.toNat]! then k else CA (l.drop (k+1).toNat) v (k+1):=by
 rw[bO l k h,CA]
theorem WR {l:List Bool} {v:Bool} {k:Int} (h:¬k<l.length):CA (l.drop k.toNat) v k = -1:=by
 rw[List.drop_eq_nil_of_le (by omega)];rfl
def LR (l:List Bool) (v:Bool):Bool:=decide (CA l v 0>=0)
def jD (k:Nat) (u:List Int):List Bool:=(List.range k).map fun j:Nat=>u.any fun c=>decide (c=(j:Int))
theorem kR (k:Nat) (u:List Int):(jD k u).length=k:=by simp [jD]
theorem QZ (k:Nat):jD k []=List.replicate k false:=by
 apply List.ext_getElem<;>simp [jD]
theorem KZ {k:Nat} {u:List Int} {i:Int} (h:0<=i/\i<u.length) (hc:0<=u[i.toNat]! /\u[i.toNat]! <k):(jD k (u.take i.toNat)).set u[i.toNat]!.toNat true=jD k (u.take (i+1).toNat):=by
 rw[show(i+1).toNat=i.toNat+1 by omega,List.take_succ_eq_append_getElem (by omega),<-getElem!_pos u i.toNat (by omega)];apply List.ext_getElem
 ·simp [jD]
 ·intro j h1 h2
  rw[List.getElem_set];simp only[jD,List.getElem_map,List.getElem_range,List.any_append];by_cases q:u[i.toNat]!.toNat=j
  ·rw[if_pos q]
   have:u[i.toNat]! =(j:Int):=by omega
   simp only[List.any_cons,List.any_nil,Bool.or_false,decide_eq_true this,Bool.or_true]
  ·rw[if_neg q]
   have:¬u[i.toNat]! =(j:Int):=by omega
   simp only[List.any_cons,List.any_nil,Bool.or_false,decide_eq_false this]
def SE (W:List ByteArray) (u:List Int):List ByteArray×Int:=if(u.any fun c=>decide (c>=(W.length:Int)))=true then([],2)else if LR (jD W.length u) false=true then([],2)else(u.map fun c=>W[c.toNat]!,0)
def qB5 (W:List ByteArray) (p:List Int×Int):List ByteArray×Int:=if ¬p.2=0 then([],p.2)else SE W p.1
def VW (s:ByteArray) (n:Int) (r:List ByteArray×Int×Int):List ByteArray×Int:=if ¬r.2.2=0 then([],r.2.2)else qB5 r.1 (aM (s.extract r.2.1.toNat s.size) n (wdN r.1.length))
def cI (s:ByteArray) (n:Int):List ByteArray×Int:=
 if n<0\/n>4096 then([],4)else if ¬(aA s 0).2.2=0 then([],(aA s 0).2.2)
 else if(aA s 0).1>n\/((aA s 0).1=0/\n>0)then([],2)else VW s n (aY s (aA s 0).1.toNat (aA s 0).2.1 [])
theorem dG {s:ByteArray} {n w:Int} (h:(aM s n w).2=0):(aM s n w).1.length=n.toNat:=by
 unfold aM at h ⊢;split at h
 ·exact absurd h (by decide)
 ·rename_i h1
  rw[if_neg h1];split at h
  ·exact absurd h (by decide)
  ·rename_i h2
   rw[if_neg h2];split at h
   ·exact absurd h (by decide)
   ·rename_i h3
    rw[if_neg h3];split at h
    ·exact absurd h (by decide)
    ·rename_i h4
     rw[if_neg h4,lB]
theorem kQ (s:ByteArray) (n w:Int):∀i:Nat,0<=(aM s n w).1[i]!:=by
 intro i;have nil:∀l:List Int,l= []->0<=l[i]!:=fun l h=>by subst h;exact Int.le_refl _
 unfold aM;split
 ·exact nil _ rfl
 split
 ·exact nil _ rfl
 split
 ·exact nil _ rfl
 split
 ·exact nil _ rfl
 ·by_cases h:i<n.toNat
  ·rw[qCN h];exact(qEX (sS s) _ _ _ _).1
  ·rw[getElem!_neg _ _ (by rw[lB];exact h)];exact Int.le_refl _
theorem UP {u:List Int} {i:Int} {K:Int} (h:0<=i/\i<u.length) (h1:(u.take i.toNat).any (fun c=>decide (c>=K))=false) (h2:¬u[i.toNat]! >=K):(u.take (i+1).toNat).any (fun c=>decide (c>=K))=false:=by
 rw[show(i+1).toNat=i.toNat+1 by omega,List.take_succ_eq_append_getElem (by omega),<-getElem!_pos u i.toNat (by omega),List.any_append,h1];simp only[List.any_cons,List.any_nil,Bool.or_false,Bool.false_or,decide_eq_false_iff_not];exact h2
theorem qRR {u:List Int} {i:Int} {K:Int} (h:0<=i/\i<u.length) (h2:u[i.toNat]! >=K):u.any (fun c=>decide (c>=K))=true:=by
 rw[List.any_eq_true];exact⟨u[i.toNat]!,by rw[getElem!_pos u i.toNat (by omega)];exact List.getElem_mem _,by simpa using h2⟩
theorem map_take {W:List ByteArray} {u:List Int} {i:Int} (h:0<=i/\i<u.length):(u.take (i+1).toNat).map (fun c=>W[c.toNat]!)=(u.take i.toNat).map (fun c=>W[c.toNat]!)++ [W[u[i.toNat]!.toNat]!]:=by
 rw[show(i+1).toNat=i.toNat+1 by omega,List.take_succ_eq_append_getElem (by omega),<-getElem!_pos u i.toNat (by omega),List.map_append];rfl
theorem VX {W:List ByteArray} {u:List Int} {i:Int} (h:0<=i/\i<u.length) (h2:u[i.toNat]! >=(W.length:Int)):SE W u=([],2):=by rw[SE,if_pos (qRR h h2)]
theorem qEN {W:List ByteArray} {u:List Int} {V:List Bool} (hV:V=jD W.length u) (hA:u.any (fun c=>decide (c>=(W.length:Int)))=false) (h:LR V false=true):SE W u=([],2):=by
 rw[SE,if_neg (by rw[hA];decide),if_pos (by rw[<-hV];exact h)]
theorem qEM {W:List ByteArray} {u:List Int} {V:List Bool} (hV:V=jD W.length u) (hA:u.any (fun c=>decide (c>=(W.length:Int)))=false) (h:¬LR V false=true):SE W u=(u.map fun c=>W[c.toNat]!,0):=by
 rw[SE,if_neg (by rw[hA];decide),if_neg (by rw[<-hV];exact h)]
theorem uT {α:Type} {u:List α} {i:Int} (h:¬i<u.length):u.take i.toNat=u:=List.take_of_length_le (by omega)
theorem SF {s:ByteArray} {n:Int} {r:List ByteArray×Int×Int} (h:¬r.2.2=0):VW s n r=([],r.2.2):=by rw[VW,if_pos h]
theorem rT {s:ByteArray} {n:Int} {r:List ByteArray×Int×Int} (h:r.2.2=0):VW s n r=qB5 r.1 (aM (s.extract r.2.1.toNat s.size) n (wdN r.1.length)):=by rw[VW,if_neg (fun q=>q h)]
theorem qNE {W:List ByteArray} {p:List Int×Int} (h:¬p.2=0):qB5 W p=([],p.2):=by rw[qB5,if_pos h]
theorem xN {W:List ByteArray} {p:List Int×Int} (h:p.2=0):qB5 W p=SE W p.1:=by rw[qB5,if_neg (fun q=>q h)]
theorem qVL {s:ByteArray} {n:Int} (h:n<0\/n>4096):cI s n=([],4):=by rw[cI,if_pos h]
theorem qVM {s:ByteArray} {n:Int} (h:¬(n<0\/n>4096)) (h1:¬(aA s 0).2.2=0):cI s n=([],(aA s 0).2.2):=by rw[cI,if_neg h,if_pos h1]
theorem qVN {s:ByteArray} {n:Int} (h:¬(n<0\/n>4096)) (h1:(aA s 0).2.2=0) (h2:(aA s 0).1>n\/((aA s 0).1=0/\n>0)):cI s n=([],2):=by rw[cI,if_neg h,if_neg (fun q=>q h1),if_pos h2]
theorem wX {s:ByteArray} {n:Int} (h:¬(n<0\/n>4096)) (h1:(aA s 0).2.2=0) (h2:¬((aA s 0).1>n\/((aA s 0).1=0/\n>0))):cI s n=VW s n (aY s (aA s 0).1.toNat (aA s 0).2.1 []):=by rw[cI,if_neg h,if_neg (fun q=>q h1),if_neg h2]
theorem rM (s:ByteArray):∀(n:Nat) (a:Int) (M:List ByteArray),(aY s n a M).1.length<=M.length+n
 |0,a,M=>by rw[aY];simp
 |n+1,a,M=>by
  rw[aY];split
  ·simp
  split
  ·simp
  split
  ·simp
  ·have:=rM s n ((aA s a).2.1+(aA s a).1) (M++ [CQ s a])
   simp at this;omega
theorem qNY {s:ByteArray} (h:(aA s 0).2.2=0):0<=(aA s 0).2.1/\(aA s 0).2.1<=s.size:=by have:=bC h;omega
theorem UE {s:ByteArray} {n:Nat} (h0:(aA s 0).2.2=0) (h:(aY s n (aA s 0).2.1 []).2.2=0):0<=(aY s n (aA s 0).2.1 []).2.1/\(aY s n (aA s 0).2.1 []).2.1<=s.size:=(qIQ n _ _ h).2 (qNY h0)
abbrev qEE:Ct:=.fn [.list .bool,.bool] (some (fun(l:List Bool) (v:Bool)=>(l.length<=4611686018427387904))) (fun(l:List Bool) (v:Bool)=>.d (.int .i64) (CA l v 0))
theorem qaE:aF Tryz.prog 226 qEE:=by
 refine aF.fn qGA mixed [] [] rfl rfl ?_;rintro⟨(l:List Bool),(v:Bool),_⟩ hpre;replace hpre:=hpre _ rfl;dsimp only[cu]at hpre;have hl:=hpre;refine⟨[(0,4,LA.mk [.sl 8 (.int .i64)] (fun y=>Tag 16/\cu [.int .i64] (fun(k:Int)=>(0<=k/\k<=l.length)/\(CA l v 0=CA (l.drop k.toNat) v k)) y) (cu [.int .i64] (fun(k:Int)=>((l.length:Int)-k).toNat)) (cu [.int .i64] (fun(k:Int)=>([]:List (Nat×Nat×LA)))))],?_⟩;repeat' (first
  |(
 with_reducible refine Side.mk ⟨(⟨⟩:Tag 16),?_⟩
 dsimp only[cu,aC,aB,gts,eE,eN]
 refine⟨?_,?_⟩
 ·omega
 ·first
  |rfl
  |(rw[hk2,vO (by omega),if_neg (by simp_all;done)]))
  |(
 with_reducible apply Side.mk
 (try dsimp only[cu,aC,aB,gts,loK,hiK,eE,eN])
 omega)
  |(conv=>whnf
    first
     |with_reducible first|done|exact trivial|refine NilBr.mk (fun h=>?_) ?_|apply aI|apply aH|refine aJ (by kernel_rfl) ?_|apply aK|apply bE|apply bD|apply aQ
     |((with_reducible first|apply aS|apply aR|apply bB)<;>intro h<;>(try dsimp only[cu,eE,eN]at h)<;>(try(exfalso;omega)))
     |(
 intro yy (hy:Tag 16/\_)
 obtain⟨(k:Int),_⟩:=yy
 replace hy:=hy.2
 dsimp only[cu,aC,aB,gts,eE,eN]at hy
 obtain⟨hk,hk2⟩:=hy)))
 all_goals(
 with_reducible apply Leaf.mk
 (try dsimp only[cu,aC,aB,gts,eE,eN]at *)
 first
 |rw[hk2,vO (by omega),if_pos (by simp_all;done)]
 |(rw[hk2,WR (by omega)]))
abbrev qaZ:Tbl:=(226,qEE)::qaX
theorem qGB:aD Tryz.prog qaZ:=aD.cons qaE qGA
abbrev MY:Ct:=.fn [.list .bool,.bool] (some (fun(l:List Bool) (v:Bool)=>(l.length<=4611686018427387904))) (fun(l:List Bool) (v:Bool)=>.d .bool (LR l v))
theorem qS5:aF Tryz.prog 212 MY:=by
 refine aF.fn qGB mixed [] [] rfl rfl ?_;rintro⟨(l:List Bool),(v:Bool),_⟩ hpre;replace hpre:=hpre _ rfl;dsimp only[cu]at hpre;have hl:=hpre;refine⟨[],?_⟩;repeat' (first
  |(
 with_reducible apply Side.mk
 (try dsimp only[cu,aC,aB,gts,loK,hiK,eE,eN])
 omega)
  |(conv=>whnf
    first
     |with_reducible first|done|exact trivial|refine NilBr.mk (fun h=>?_) ?_|apply aI|apply aH|refine aJ (by kernel_rfl) ?_|apply aK|apply bE|apply bD|apply aQ
     |((with_reducible first|apply aS|apply aR|apply bB)<;>intro h<;>(try dsimp only[cu,eE,eN]at h)<;>(try(exfalso;omega)))))
 all_goals(
 with_reducible apply Leaf.mk
 (try dsimp only[cu,aC,aB,gts,eE,eN]at *)
 rfl)
abbrev qa0:Tbl:=(212,MY)::qaZ
theorem qGC:aD Tryz.prog qa0:=aD.cons qS5 qGB
abbrev DC:Ct:=.fn [.str,.int .i64] (some (fun(s:ByteArray) (n:Int)=>(s.size<=4611686018427387904))) (fun(s:ByteArray) (n:Int)=>.tup [.list .str,.int .i64] ((cI s n).1,(cI s n).2,()))
theorem qJT:aF Tryz.prog 189 DC:=by
 refine aF.fn qGC mixed [] [] rfl rfl ?_;rintro⟨(s:ByteArray),(n:Int),_⟩ hpre;replace hpre:=hpre _ rfl;dsimp only[cu]at hpre;have hs:=hpre;refine⟨[(0,34,LA.mk [.sl 75 (.int .i64),.ar 0 .bool 4,.ar 1 .str 9] (fun y=>Tag 17/\cu [.int .i64,.list .bool,.list .str] (fun(i:Int) (V:List Bool) (O:List ByteArray)=>(0<=i/\i<=(aM (s.extract (aY s (aA s 0).1.toNat (aA s 0).2.1 []).2.1.toNat s.size) n (wdN (aY s (aA s 0).1.toNat (aA s 0).2.1 []).1.length)).1.length)/\(V=jD (aY s (aA s 0).1.toNat (aA s 0).2.1 []).1.length ((aM (s.extract (aY s (aA s 0).1.toNat (aA s 0).2.1 []).2.1.toNat s.size) n (wdN (aY s (aA s 0).1.toNat (aA s 0).2.1 []).1.length)).1.take i.toNat))/\(O.length=n.toNat)/\(O.take i.toNat=((aM (s.extract (aY s (aA s 0).1.toNat (aA s 0).2.1 []).2.1.toNat s.size) n (wdN (aY s (aA s 0).1.toNat (aA s 0).2.1 []).1.length)).1.take i.toNat).map (fun c=>(aY s (aA s 0).1.toNat (aA s 0).2.1 []).1[c.toNat]!))/\(((aM (s.extract (aY s (aA s 0).1.toNat (aA s 0).2.1 []).2.1.toNat s.size) n (wdN (aY s (aA s 0).1.toNat (aA s 0).2.1 []).1.length)).1.take i.toNat).any (fun c=>decide (c>=((aY s (aA s 0).1.toNat (aA s 0).2.1 []).1.length:Int)))=false)) y) (cu [.int .i64,.list .bool,.list .str] (fun(i:Int) (V:List Bool) (O:List ByteArray)=>(((aM (s.extract (aY s (aA s 0).1.toNat (aA s 0).2.1 []).2.1.toNat s.size) n (wdN (aY s (aA s 0).1.toNat (aA s 0).2.1 []).1.length)).1.length:Int)-i).toNat)) (cu [.int .i64,.list .bool,.list .str] (fun(i:Int) (V:List Bool) (O:List ByteArray)=>([]:List (Nat×Nat×LA)))))],?_⟩;repeat' (first
  |(
 with_reducible refine Side.mk ⟨(⟨⟩:Tag 17),?_⟩
 dsimp only[cu,aC,aB,gts,eE,eN]
 refine⟨?_,?_,?_,?_,?_⟩
 ·omega
 ·first
  |(
  rw[show((0:Int).toNat)=0 from rfl,List.take_zero,QZ]
  simp;done)
  |(
  have hur:=kQ (s.extract (aY s (aA s 0).1.toNat (aA s 0).2.1 []).2.1.toNat s.size) n (wdN (aY s (aA s 0).1.toNat (aA s 0).2.1 []).1.length) i.toNat
  simp only[dH]at *
  have hg:=aG s 0
  have hwn:=aN (n:=n) (by omega)
  have hwl:=rM s (aA s 0).1.toNat (aA s 0).2.1 []
  simp only[List.length_nil,Nat.zero_add]at hwl
  have hww:=aN (n:=((aY s (aA s 0).1.toNat (aA s 0).2.1 []).1.length:Int)) (by omega)
  rw[hV,KZ (by omega) (by omega)])
 ·first
  |simp;done
  |simp;omega
 ·first
  |(
  rw[show((0:Int).toNat)=0 from rfl,List.take_zero]
  rfl)
  |(
  have hu0:(aM (s.extract (aY s (aA s 0).1.toNat (aA s 0).2.1 []).2.1.toNat s.size) n (wdN (aY s (aA s 0).1.toNat (aA s 0).2.1 []).1.length)).2=0:=by assumption
  have hul:=dG hu0
  simp only[dH]at *
  rw[map_take (by omega),show(i+1).toNat=i.toNat+1 by omega,AZ _ _ _ (by omega),hO])
 ·first
  |(
  rw[show((0:Int).toNat)=0 from rfl,List.take_zero]
  rfl)
  |(
  have hg:=aG s 0
  have hwn:=aN (n:=n) (by omega)
  have hwl:=rM s (aA s 0).1.toNat (aA s 0).2.1 []
  simp only[List.length_nil,Nat.zero_add]at hwl
  have hww:=aN (n:=((aY s (aA s 0).1.toNat (aA s 0).2.1 []).1.length:Int)) (by omega)
  simp only[dH]at *
  exact UP (by omega) hA (by omega)))
  |(
 with_reducible apply Side.mk
 (try dsimp only[cu,aC,aB,gts,loK,hiK,eE,eN])
 first
 |omega
 |(
  have hg:=aG s 0;have hwn:=aN (n:=n) (by omega);first
  |omega
  |(
   have hwl:=rM s (aA s 0).1.toNat (aA s 0).2.1 [];simp only[List.length_nil,Nat.zero_add]at hwl;have hww:=aN (n:=((aY s (aA s 0).1.toNat (aA s 0).2.1 []).1.length:Int)) (by omega);omega))
 |(
  have:=UE (s:=s) (by assumption) (by assumption:(aY s (aA s 0).1.toNat (aA s 0).2.1 []).2.2=0);omega)
 |simp only[ByteArray.size_extract];omega
 |(
  have hur:=kQ (s.extract (aY s (aA s 0).1.toNat (aA s 0).2.1 []).2.1.toNat s.size) n (wdN (aY s (aA s 0).1.toNat (aA s 0).2.1 []).1.length) i.toNat;simp only[dH]at *;omega)
 |(
  have hg:=aG s 0;have hwn:=aN (n:=n) (by omega);have hwl:=rM s (aA s 0).1.toNat (aA s 0).2.1 [];simp only[List.length_nil,Nat.zero_add]at hwl;have hww:=aN (n:=((aY s (aA s 0).1.toNat (aA s 0).2.1 []).1.length:Int)) (by omega);first
  |(
   have hu0:(aM (s.extract (aY s (aA s 0).1.toNat (aA s 0).2.1 []).2.1.toNat s.size) n (wdN (aY s (aA s 0).1.toNat (aA s 0).2.1 []).1.length)).2=0:=by assumption
   have hul:=dG hu0;have hur:=kQ (s.extract (aY s (aA s 0).1.toNat (aA s 0).2.1 []).2.1.toNat s.size) n (wdN (aY s (aA s 0).1.toNat (aA s 0).2.1 []).1.length) i.toNat;simp only[dH]at *;first
   |rw[hV,kR];omega
   |(omega))
  |(rw[hV,kR];omega)))
  |(conv=>whnf
    first
     |with_reducible first|done|exact trivial|refine NilBr.mk (fun h=>?_) ?_|apply aI|apply aH|refine aJ (by kernel_rfl) ?_|apply aK|apply bE|apply bD|apply aQ
     |((with_reducible first|apply aS|apply aR|apply bB)<;>intro h<;>(try dsimp only[cu,eE,eN]at h)<;>(try(exfalso;omega)))
     |(
 intro yy (hy:Tag 17/\_)
 obtain⟨(i:Int),(V:List Bool),(O:List ByteArray),_⟩:=yy
 replace hy:=hy.2
 dsimp only[cu,aC,aB,gts,eE,eN]at hy
 obtain⟨hi,hV,hOl,hO,hA⟩:=hy)))
 all_goals(
 with_reducible apply Leaf.mk
 (try dsimp only[cu,aC,aB,gts,eE,eN]at *)
 first
 |(
  have q1:n<0\/n>4096:=by first|omega|(simp_all;done)
  rw[qVL q1])
 |(
  have q1:¬(n<0\/n>4096):=by first|omega|(simp_all;done)
  have q2:¬(aA s 0).2.2=0:=by assumption
  rw[qVM q1 q2])
 |(
  have hg:=aG s 0;have hwn:=aN (n:=n) (by omega);first
  |(
   have q1:¬(n<0\/n>4096):=by first|omega|(simp_all;done)
   have q2:(aA s 0).2.2=0:=by first|assumption|omega|(simp_all;done)
   first
   |(
    have q3:(aA s 0).1>n\/((aA s 0).1=0/\n>0):=by first|omega|(simp_all;done)
    rw[qVN q1 q2 q3])
   |(
    have q3:¬((aA s 0).1>n\/((aA s 0).1=0/\n>0)):=by first|omega|(simp_all;omega)|(simp_all;done)
    rw[wX q1 q2 q3];first
    |(
     have q4:¬(aY s (aA s 0).1.toNat (aA s 0).2.1 []).2.2=0:=by assumption
     rw[SF q4])
    |(
     have q4:(aY s (aA s 0).1.toNat (aA s 0).2.1 []).2.2=0:=by first|assumption|omega
     rw[rT q4];have q5:¬(aM (s.extract (aY s (aA s 0).1.toNat (aA s 0).2.1 []).2.1.toNat s.size) n (wdN (aY s (aA s 0).1.toNat (aA s 0).2.1 []).1.length)).2=0:=by assumption
     rw[qNE q5])))
  |(
   have hwl:=rM s (aA s 0).1.toNat (aA s 0).2.1 [];simp only[List.length_nil,Nat.zero_add]at hwl;have hww:=aN (n:=((aY s (aA s 0).1.toNat (aA s 0).2.1 []).1.length:Int)) (by omega);have q1:¬(n<0\/n>4096):=by first|omega|(simp_all;done)
   have q2:(aA s 0).2.2=0:=by first|assumption|omega|(simp_all;done)
   have q3:¬((aA s 0).1>n\/((aA s 0).1=0/\n>0)):=by first|omega|(simp_all;omega)|(simp_all;done)
   rw[wX q1 q2 q3];have q4:(aY s (aA s 0).1.toNat (aA s 0).2.1 []).2.2=0:=by first|assumption|omega
   rw[rT q4];have q5:(aM (s.extract (aY s (aA s 0).1.toNat (aA s 0).2.1 []).2.1.toNat s.size) n (wdN (aY s (aA s 0).1.toNat (aA s 0).2.1 []).1.length)).2=0:=by first|assumption|omega
   rw[xN q5];have q6:(aM (s.extract (aY s (aA s 0).1.toNat (aA s 0).2.1 []).2.1.toNat s.size) n (wdN (aY s (aA s 0).1.toNat (aA s 0).2.1 []).1.length)).1[i.toNat]! >=((aY s (aA s 0).1.toNat (aA s 0).2.1 []).1.length:Int):=by simp only[dH]at *;omega
   rw[VX (i:=i) (by omega) q6]))
 |(
  have ta0:¬i<((aM (s.extract (aY s (aA s 0).1.toNat (aA s 0).2.1 []).2.1.toNat s.size) n (wdN (aY s (aA s 0).1.toNat (aA s 0).2.1 []).1.length)).1.length:Int):=by assumption
  have ta:=uT ta0;rw[ta]at hV hA hO;first
  |(
   have hg:=aG s 0;have hwn:=aN (n:=n) (by omega);have q1:¬(n<0\/n>4096):=by first|omega|(simp_all;done)
   have q2:(aA s 0).2.2=0:=by first|assumption|omega|(simp_all;done)
   have q3:¬((aA s 0).1>n\/((aA s 0).1=0/\n>0)):=by first|omega|(simp_all;omega)|(simp_all;done)
   rw[wX q1 q2 q3];have q4:(aY s (aA s 0).1.toNat (aA s 0).2.1 []).2.2=0:=by first|assumption|omega
   rw[rT q4];have q5:(aM (s.extract (aY s (aA s 0).1.toNat (aA s 0).2.1 []).2.1.toNat s.size) n (wdN (aY s (aA s 0).1.toNat (aA s 0).2.1 []).1.length)).2=0:=by first|assumption|omega
   rw[xN q5];have q6:LR V false=true:=by assumption
   rw[qEN hV hA q6])
  |(
   have hu0:(aM (s.extract (aY s (aA s 0).1.toNat (aA s 0).2.1 []).2.1.toNat s.size) n (wdN (aY s (aA s 0).1.toNat (aA s 0).2.1 []).1.length)).2=0:=by assumption
   have hul:=dG hu0;have hg:=aG s 0;have hwn:=aN (n:=n) (by omega);have q1:¬(n<0\/n>4096):=by first|omega|(simp_all;done)
   have q2:(aA s 0).2.2=0:=by first|assumption|omega|(simp_all;done)
   have q3:¬((aA s 0).1>n\/((aA s 0).1=0/\n>0)):=by first|omega|(simp_all;omega)|(simp_all;done)
   rw[wX q1 q2 q3];have q4:(aY s (aA s 0).1.toNat (aA s 0).2.1 []).2.2=0:=by first|assumption|omega
   rw[rT q4];have q5:(aM (s.extract (aY s (aA s 0).1.toNat (aA s 0).2.1 []).2.1.toNat s.size) n (wdN (aY s (aA s 0).1.toNat (aA s 0).2.1 []).1.length)).2=0:=by first|assumption|omega
   rw[xN q5];have q6:¬LR V false=true:=by simp_all;done
   rw[qEM hV hA q6];(try rw[List.take_of_length_le (by omega)]at hO);first|done|exact hO|rfl)))
abbrev qa1:Tbl:=(189,DC)::qa0
theorem qGD:aD Tryz.prog qa1:=aD.cons qJT qGC
theorem qCC (s:ByteArray) (a b:Nat):(s.extract a b).size<=s.size:=by simp;omega
theorem qRD:wdN ((([]:List ByteArray).length:Nat):Int)=0:=qZ (by unfold dF;simp)
theorem SN (s:ByteArray) {a:Int} (h:0<=a):(s.extract a.toNat s.size).size=s.size-a.toNat:=by simp
theorem qdN (t:ByteArray):aM t 0 0=if 0<t.size then([],2)else([],0):=by
 have hn:bP 0 0=0:=by decide
 have hp:¬¬lP 0 0=true:=by decide
 rw[aM,if_neg hp,hn,if_neg (by omega)];by_cases h:0<t.size
 ·rw[if_pos (by omega),if_pos h]
 ·rw[if_neg (by omega),if_neg h,if_neg]
  ·rfl
  ·exact UA fun q _ h2=>by omega
theorem qX4 {s:ByteArray} {a:Int} (h:0<=a):VW s 0 ([],a,0)=if a<s.size then([],2)else([],0):=by
 rw[rT (by rfl),qRD,qdN,SN s h];by_cases q:a<s.size
 ·rw[if_pos q,if_pos (show 0<s.size-a.toNat by omega)];rfl
 ·rw[if_neg q,if_neg (show ¬0<s.size-a.toNat by omega),xN (by rfl)];rfl
theorem oG {M:List ByteArray} {k:Int} (h:(M.length:Int)=k) (h1:1<=k/\k<=4096):fI (IntKind.u64.wrap (k-1))=wdN (M.length:Int):=by
 rw[aN (by omega),wdN,h];congr 1
 unfold dF;split<;>omega
def cC (n:Int):Bool:=decide (0<=n)&&decide (n<=4096)
theorem wC {n:Int} (h:(!cC n)=true):n<0\/n>4096:=by
 simp [cC]at h;omega
theorem bL {n:Int} (h:(!cC n)=false):¬(n<0\/n>4096):=by
 simp [cC]at h;omega
theorem qaI {b:Bool} (h:(!b)=true):false=b:=by cases b<;>simp_all
theorem qaH {b:Bool} (h:(!b)=false):¬false=b:=by cases b<;>simp_all
theorem qN2 {l:List Bool} {k:Int} (h:CA l false 0=k) (h0:0<=k):LR l false=true:=by simp [LR,h,h0]
theorem qS4 {l:List Bool} (h:CA l false 0 = -1):¬LR l false=true:=by simp [LR,h]
abbrev ID:Ct:=.fn [.int .i64] (none) (fun(n:Int)=>.d .bool (cC n))
theorem qP6:aF Tryz.prog 193 ID:=by
 refine aF.fn qGD mixed [] [] rfl rfl ?_;rintro⟨(n:Int),_⟩ -;refine⟨[],?_⟩;repeat' (first
  |(
 with_reducible apply Side.mk
 (try dsimp only[cu,aC,aB,gts,loK,hiK,eE,eN])
 done)
  |(conv=>whnf
    first
     |with_reducible first|done|exact trivial|refine NilBr.mk (fun h=>?_) ?_|apply aI|apply aH|refine aJ (by kernel_rfl) ?_|apply aK|apply bE|apply bD|apply aQ
     |((with_reducible first|apply aS|apply aR|apply bB)<;>intro h<;>(try dsimp only[cu,eE,eN]at h)<;>(try(exfalso;omega)))))
 all_goals(
 with_reducible apply Leaf.mk
 (try dsimp only[cu,aC,aB,gts,eE,eN]at *)
 (simp [cC];omega))
abbrev qa2:Tbl:=(193,ID)::qa1
theorem qGE:aD Tryz.prog qa2:=aD.cons qP6 qGD
abbrev yU:Ct:=.fn [.str,.int .i64] (some (fun(s:ByteArray) (n:Int)=>(s.size<=288230376151711744))) (fun(s:ByteArray) (n:Int)=>.tup [.list .str,.int .i64] ((cI s n).1,(cI s n).2,()))
theorem qDG:aF Tryz.prog 196 yU:=by
 refine aF.fn qGE mixed [(0,15,5)] [] rfl rfl ?_;rintro⟨(s:ByteArray),(n:Int),_⟩ hpre;replace hpre:=hpre _ rfl;dsimp only[cu]at hpre;have hs:=hpre;refine⟨[(0,20,LA.mk [.sl 10 (.int .i64),.sl 7 (.int .i64),.lst 9 .str 9] (fun y=>Tag 18/\cu [.int .i64,.int .i64,.list .str] (fun(i:Int) (a:Int) (M:List ByteArray)=>(i=(M.length:Int))/\((aY s (aA s 0).1.toNat (aA s 0).2.1 [])=aY s ((aA s 0).1-M.length).toNat a M)/\((M.length:Int)<=(aA s 0).1)) y) (cu [.int .i64,.int .i64,.list .str] (fun(i:Int) (a:Int) (M:List ByteArray)=>((aA s 0).1-(M.length:Int)).toNat)) (cu [.int .i64,.int .i64,.list .str] (fun(i:Int) (a:Int) (M:List ByteArray)=>([]:List (Nat×Nat×LA))))),(0,64,LA.mk [.sl 120 (.int .i64),.ar 1 .bool 4,.lst 17 .str 9] (fun y=>Tag 19/\cu [.int .i64,.list .bool,.list .str] (fun(j:Int) (V:List Bool) (O:List ByteArray)=>(0<=j/\j<=(aM (s.extract (aY s (aA s 0).1.toNat (aA s 0).2.1 []).2.1.toNat s.size) n (wdN (aY s (aA s 0).1.toNat (aA s 0).2.1 []).1.length)).1.length)/\(V=jD (aY s (aA s 0).1.toNat (aA s 0).2.1 []).1.length ((aM (s.extract (aY s (aA s 0).1.toNat (aA s 0).2.1 []).2.1.toNat s.size) n (wdN (aY s (aA s 0).1.toNat (aA s 0).2.1 []).1.length)).1.take j.toNat))/\(O=((aM (s.extract (aY s (aA s 0).1.toNat (aA s 0).2.1 []).2.1.toNat s.size) n (wdN (aY s (aA s 0).1.toNat (aA s 0).2.1 []).1.length)).1.take j.toNat).map (fun c=>(aY s (aA s 0).1.toNat (aA s 0).2.1 []).1[c.toNat]!))/\(((aM (s.extract (aY s (aA s 0).1.toNat (aA s 0).2.1 []).2.1.toNat s.size) n (wdN (aY s (aA s 0).1.toNat (aA s 0).2.1 []).1.length)).1.take j.toNat).any (fun c=>decide (c>=((aY s (aA s 0).1.toNat (aA s 0).2.1 []).1.length:Int)))=false)) y) (cu [.int .i64,.list .bool,.list .str] (fun(j:Int) (V:List Bool) (O:List ByteArray)=>(((aM (s.extract (aY s (aA s 0).1.toNat (aA s 0).2.1 []).2.1.toNat s.size) n (wdN (aY s (aA s 0).1.toNat (aA s 0).2.1 []).1.length)).1.length:Int)-j).toNat)) (cu [.int .i64,.list .bool,.list .str] (fun(j:Int) (V:List Bool) (O:List ByteArray)=>([]:List (Nat×Nat×LA))))),(0,80,LA.mk [.sl 140 (.int .i64)] (fun y=>Tag 20/\cu [.int .i64] (fun(m:Int)=>(0<=m/\m<=(jD (aY s (aA s 0).1.toNat (aA s 0).2.1 []).1.length (aM (s.extract (aY s (aA s 0).1.toNat (aA s 0).2.1 []).2.1.toNat s.size) n (wdN (aY s (aA s 0).1.toNat (aA s 0).2.1 []).1.length)).1).length)/\(CA (jD (aY s (aA s 0).1.toNat (aA s 0).2.1 []).1.length (aM (s.extract (aY s (aA s 0).1.toNat (aA s 0).2.1 []).2.1.toNat s.size) n (wdN (aY s (aA s 0).1.toNat (aA s 0).2.1 []).1.length)).1) false 0=CA ((jD (aY s (aA s 0).1.toNat (aA s 0).2.1 []).1.length (aM (s.extract (aY s (aA s 0).1.toNat (aA s 0).2.1 []).2.1.toNat s.size) n (wdN (aY s (aA s 0).1.toNat (aA s 0).2.1 []).1.length)).1).drop m.toNat) false m)) y) (cu [.int .i64] (fun(m:Int)=>(((jD (aY s (aA s 0).1.toNat (aA s 0).2.1 []).1.length (aM (s.extract (aY s (aA s 0).1.toNat (aA s 0).2.1 []).2.1.toNat s.size) n (wdN (aY s (aA s 0).1.toNat (aA s 0).2.1 []).1.length)).1).length:Int)-m).toNat)) (cu [.int .i64] (fun(m:Int)=>([]:List (Nat×Nat×LA)))))],?_⟩;repeat' (first
  |(
 with_reducible refine Side.mk ⟨(⟨⟩:Tag 18),?_⟩
 dsimp only[cu,aC,aB,gts,eE,eN]
 refine⟨?_,?_,?_⟩
 ·first
  |rfl
  |simp only[List.length_append,List.length_cons,List.length_nil];omega
 ·first
  |rw[List.length_nil];simp;done
  |(
  have hr:=aG s a
  have hg0:(aA s a).2.2=0:=by assumption
  have hga:=bC hg0
  have q0:(!cC n)=false:=by assumption
  have q1:=bL q0
  have hg:=aG s 0
  have hwn:=aN (n:=n) (by omega)
  rw[hM,RC (by omega) hg0 (by have:=aN (n:=(s.size:Int)-(aA s a).2.1) (by omega);omega) (fun q=>by simp_all [sLe,CQ])]
  rfl)
 ·first
  |(
  have hg:=aG s 0
  simp only[List.length_nil];omega)
  |(simp only[List.length_append,List.length_cons,List.length_nil];omega))
  |(
 with_reducible refine Side.mk ⟨(⟨⟩:Tag 19),?_⟩
 dsimp only[cu,aC,aB,gts,eE,eN]
 refine⟨?_,?_,?_,?_⟩
 ·first
  |omega
  |(
  have q0:(!cC n)=false:=by assumption
  have q1:=bL q0
  have hg:=aG s 0
  have hwn:=aN (n:=n) (by omega)
  have hR:(aY s (aA s 0).1.toNat (aA s 0).2.1 [])=(M,a,0):=by rw[hM,jE (by omega)]
  have hwd:=oG (M:=M) (k:=(aA s 0).1) (by omega) (by omega)
  have hU:(aM (s.extract a.toNat s.size) n (fI (IntKind.u64.wrap ((aA s 0).1-1))))=(aM (s.extract (aY s (aA s 0).1.toNat (aA s 0).2.1 []).2.1.toNat s.size) n (wdN (aY s (aA s 0).1.toNat (aA s 0).2.1 []).1.length)):=by rw[hR,hwd]
  simp only[hU,dH]at *
  omega)
 ·first
  |(
  rw[show((0:Int).toNat)=0 from rfl,List.take_zero,QZ]
  have hR:(aY s (aA s 0).1.toNat (aA s 0).2.1 [])=(M,a,0):=by rw[hM,jE (by omega)]
  rw[hR]
  simp;done)
  |(
  have q0:(!cC n)=false:=by assumption
  have q1:=bL q0
  have hg:=aG s 0
  have hwn:=aN (n:=n) (by omega)
  have hR:(aY s (aA s 0).1.toNat (aA s 0).2.1 [])=(M,a,0):=by rw[hM,jE (by omega)]
  have hwd:=oG (M:=M) (k:=(aA s 0).1) (by omega) (by omega)
  have hU:(aM (s.extract a.toNat s.size) n (fI (IntKind.u64.wrap ((aA s 0).1-1))))=(aM (s.extract (aY s (aA s 0).1.toNat (aA s 0).2.1 []).2.1.toNat s.size) n (wdN (aY s (aA s 0).1.toNat (aA s 0).2.1 []).1.length)):=by rw[hR,hwd]
  simp only[hU,dH]at *
  have hRl:(aY s (aA s 0).1.toNat (aA s 0).2.1 []).1.length=M.length:=by rw[hR]
  have hur:=kQ (s.extract (aY s (aA s 0).1.toNat (aA s 0).2.1 []).2.1.toNat s.size) n (wdN (aY s (aA s 0).1.toNat (aA s 0).2.1 []).1.length) j.toNat
  rw[hV,KZ (by omega) (by omega)])
 ·first
  |(
  rw[show((0:Int).toNat)=0 from rfl,List.take_zero]
  rfl)
  |(
  have q0:(!cC n)=false:=by assumption
  have q1:=bL q0
  have hg:=aG s 0
  have hwn:=aN (n:=n) (by omega)
  have hR:(aY s (aA s 0).1.toNat (aA s 0).2.1 [])=(M,a,0):=by rw[hM,jE (by omega)]
  have hwd:=oG (M:=M) (k:=(aA s 0).1) (by omega) (by omega)
  have hU:(aM (s.extract a.toNat s.size) n (fI (IntKind.u64.wrap ((aA s 0).1-1))))=(aM (s.extract (aY s (aA s 0).1.toNat (aA s 0).2.1 []).2.1.toNat s.size) n (wdN (aY s (aA s 0).1.toNat (aA s 0).2.1 []).1.length)):=by rw[hR,hwd]
  simp only[hU,dH]at *
  rw[map_take (by omega),hO,hR])
 ·first
  |(
  rw[show((0:Int).toNat)=0 from rfl,List.take_zero]
  rfl)
  |(
  have q0:(!cC n)=false:=by assumption
  have q1:=bL q0
  have hg:=aG s 0
  have hwn:=aN (n:=n) (by omega)
  have hR:(aY s (aA s 0).1.toNat (aA s 0).2.1 [])=(M,a,0):=by rw[hM,jE (by omega)]
  have hwd:=oG (M:=M) (k:=(aA s 0).1) (by omega) (by omega)
  have hU:(aM (s.extract a.toNat s.size) n (fI (IntKind.u64.wrap ((aA s 0).1-1))))=(aM (s.extract (aY s (aA s 0).1.toNat (aA s 0).2.1 []).2.1.toNat s.size) n (wdN (aY s (aA s 0).1.toNat (aA s 0).2.1 []).1.length)):=by rw[hR,hwd]
  simp only[hU,dH]at *
  have hRl:(aY s (aA s 0).1.toNat (aA s 0).2.1 []).1.length=M.length:=by rw[hR]
  exact UP (by omega) hA (by omega)))
  |(
 with_reducible refine Side.mk ⟨(⟨⟩:Tag 20),?_⟩
 dsimp only[cu,aC,aB,gts,eE,eN]
 refine⟨?_,?_⟩
 ·first
  |rw[kR];omega
  |(
  have q0:(!cC n)=false:=by assumption
  have q1:=bL q0
  have hg:=aG s 0
  have hwn:=aN (n:=n) (by omega)
  have hR:(aY s (aA s 0).1.toNat (aA s 0).2.1 [])=(M,a,0):=by rw[hM,jE (by omega)]
  have hwd:=oG (M:=M) (k:=(aA s 0).1) (by omega) (by omega)
  have hU:(aM (s.extract a.toNat s.size) n (fI (IntKind.u64.wrap ((aA s 0).1-1))))=(aM (s.extract (aY s (aA s 0).1.toNat (aA s 0).2.1 []).2.1.toNat s.size) n (wdN (aY s (aA s 0).1.toNat (aA s 0).2.1 []).1.length)):=by rw[hR,hwd]
  simp only[hU,dH]at *
  have hRl:(aY s (aA s 0).1.toNat (aA s 0).2.1 []).1.length=M.length:=by rw[hR]
  have hj1:¬j<((aM (s.extract (aY s (aA s 0).1.toNat (aA s 0).2.1 []).2.1.toNat s.size) n (wdN (aY s (aA s 0).1.toNat (aA s 0).2.1 []).1.length)).1.length:Int):=by omega
  have hta:=uT hj1
  rw[hta]at hV hO hA
  subst hV
  have hull:(jD (aY s (aA s 0).1.toNat (aA s 0).2.1 []).1.length (aM (s.extract (aY s (aA s 0).1.toNat (aA s 0).2.1 []).2.1.toNat s.size) n (wdN (aY s (aA s 0).1.toNat (aA s 0).2.1 []).1.length)).1).length=(aY s (aA s 0).1.toNat (aA s 0).2.1 []).1.length:=kR _ _
  omega)
 ·first
  |rw[show((0:Int).toNat)=0 from rfl,List.drop_zero]
  |(
  have q0:(!cC n)=false:=by assumption
  have q1:=bL q0
  have hg:=aG s 0
  have hwn:=aN (n:=n) (by omega)
  have hR:(aY s (aA s 0).1.toNat (aA s 0).2.1 [])=(M,a,0):=by rw[hM,jE (by omega)]
  have hwd:=oG (M:=M) (k:=(aA s 0).1) (by omega) (by omega)
  have hU:(aM (s.extract a.toNat s.size) n (fI (IntKind.u64.wrap ((aA s 0).1-1))))=(aM (s.extract (aY s (aA s 0).1.toNat (aA s 0).2.1 []).2.1.toNat s.size) n (wdN (aY s (aA s 0).1.toNat (aA s 0).2.1 []).1.length)):=by rw[hR,hwd]
  simp only[hU,dH]at *
  have hRl:(aY s (aA s 0).1.toNat (aA s 0).2.1 []).1.length=M.length:=by rw[hR]
  have hj1:¬j<((aM (s.extract (aY s (aA s 0).1.toNat (aA s 0).2.1 []).2.1.toNat s.size) n (wdN (aY s (aA s 0).1.toNat (aA s 0).2.1 []).1.length)).1.length:Int):=by omega
  have hta:=uT hj1
  rw[hta]at hV hO hA
  subst hV
  have hull:(jD (aY s (aA s 0).1.toNat (aA s 0).2.1 []).1.length (aM (s.extract (aY s (aA s 0).1.toNat (aA s 0).2.1 []).2.1.toNat s.size) n (wdN (aY s (aA s 0).1.toNat (aA s 0).2.1 []).1.length)).1).length=(aY s (aA s 0).1.toNat (aA s 0).2.1 []).1.length:=kR _ _
  have hb:¬false=(jD (aY s (aA s 0).1.toNat (aA s 0).2.1 []).1.length (aM (s.extract (aY s (aA s 0).1.toNat (aA s 0).2.1 []).2.1.toNat s.size) n (wdN (aY s (aA s 0).1.toNat (aA s 0).2.1 []).1.length)).1)[m.toNat]!:=qaH (by assumption)
  rw[hX,vO (by omega),if_neg hb]))
  |(
 with_reducible apply Side.mk
 (try dsimp only[cu,aC,aB,gts,loK,hiK,eE,eN])
 first
 |done
 |omega
 |exact Eq.refl _
 |simp only[List.length_append,List.length_cons,List.length_nil];omega
 |(
  have q0:(!cC n)=false:=by assumption
  have q1:=bL q0;have hg:=aG s 0;have hwn:=aN (n:=n) (by omega);omega)
 |exact pP _
 |(
  have hsx:=qCC s a.toNat s.size;omega)
 |(
  have q0:(!cC n)=false:=by assumption
  have q1:=bL q0;have hg:=aG s 0;have hwn:=aN (n:=n) (by omega);have hR:(aY s (aA s 0).1.toNat (aA s 0).2.1 [])=(M,a,0):=by rw[hM,jE (by omega)]
  first
  |(
   have hwd:=oG (M:=M) (k:=(aA s 0).1) (by omega) (by omega);have hU:(aM (s.extract a.toNat s.size) n (fI (IntKind.u64.wrap ((aA s 0).1-1))))=(aM (s.extract (aY s (aA s 0).1.toNat (aA s 0).2.1 []).2.1.toNat s.size) n (wdN (aY s (aA s 0).1.toNat (aA s 0).2.1 []).1.length)):=by rw[hR,hwd]
   simp only[hU,dH]at *;have h5:(aM (s.extract (aY s (aA s 0).1.toNat (aA s 0).2.1 []).2.1.toNat s.size) n (wdN (aY s (aA s 0).1.toNat (aA s 0).2.1 []).1.length)).2=0:=by assumption
   have hul:=dG h5;first
   |omega
   |(
    have hol:=congrArg List.length hO;rw[List.length_map,List.length_take]at hol;simp only[List.length_cons,List.length_nil];omega))
  |(
   have q2:(aA s 0).2.2=0:=by first|assumption|omega
   have hat:=UE (s:=s) (n:=(aA s 0).1.toNat) q2 (by rw[hR]);rw[hR]at hat;dsimp only at hat;omega)
  |(
   have hwd:=oG (M:=M) (k:=(aA s 0).1) (by omega) (by omega);have hU:(aM (s.extract a.toNat s.size) n (fI (IntKind.u64.wrap ((aA s 0).1-1))))=(aM (s.extract (aY s (aA s 0).1.toNat (aA s 0).2.1 []).2.1.toNat s.size) n (wdN (aY s (aA s 0).1.toNat (aA s 0).2.1 []).1.length)):=by rw[hR,hwd]
   simp only[hU,dH]at *;have hRl:(aY s (aA s 0).1.toNat (aA s 0).2.1 []).1.length=M.length:=by rw[hR]
   first
   |(
    have hur:=kQ (s.extract (aY s (aA s 0).1.toNat (aA s 0).2.1 []).2.1.toNat s.size) n (wdN (aY s (aA s 0).1.toNat (aA s 0).2.1 []).1.length) j.toNat;first
    |omega
    |(rw[hV,kR];omega))
   |(
    have hj1:¬j<((aM (s.extract (aY s (aA s 0).1.toNat (aA s 0).2.1 []).2.1.toNat s.size) n (wdN (aY s (aA s 0).1.toNat (aA s 0).2.1 []).1.length)).1.length:Int):=by omega
    have hta:=uT hj1;rw[hta]at hV hO hA;subst hV;have hull:(jD (aY s (aA s 0).1.toNat (aA s 0).2.1 []).1.length (aM (s.extract (aY s (aA s 0).1.toNat (aA s 0).2.1 []).2.1.toNat s.size) n (wdN (aY s (aA s 0).1.toNat (aA s 0).2.1 []).1.length)).1).length=(aY s (aA s 0).1.toNat (aA s 0).2.1 []).1.length:=kR _ _;omega)))
 |(
  simp only[List.length_cons,List.length_nil];have q0:(!cC n)=false:=by assumption
  have q1:=bL q0;have hg:=aG s 0;have hwn:=aN (n:=n) (by omega);omega)
 |(
  have q0:(!cC n)=false:=by assumption
  have q1:=bL q0;have hg:=aG s 0;have hwn:=aN (n:=n) (by omega);have hr:=aG s a;first
  |omega
  |(
   have hg0:(aA s a).2.2=0:=by assumption
   have hga:=bC hg0;omega)))
  |(conv=>whnf
    first
     |with_reducible first|done|exact trivial|refine NilBr.mk (fun h=>?_) ?_|apply aI|apply aH|refine aJ (by kernel_rfl) ?_|apply aK|apply bE|apply bD|apply aQ
     |((with_reducible first|apply aS|apply aR|apply bB)<;>intro h<;>(try dsimp only[cu,eE,eN]at h)<;>(try(exfalso;omega)))
     |(
 intro yy (hy:Tag 18/\_)
 obtain⟨(i:Int),(a:Int),(M:List ByteArray),_⟩:=yy
 replace hy:=hy.2
 dsimp only[cu,aC,aB,gts,eE,eN]at hy
 obtain⟨hi,hM,hl⟩:=hy)
     |(
 intro yy (hy:Tag 19/\_)
 obtain⟨(j:Int),(V:List Bool),(O:List ByteArray),_⟩:=yy
 replace hy:=hy.2
 dsimp only[cu,aC,aB,gts,eE,eN]at hy
 obtain⟨hj,hV,hO,hA⟩:=hy)
     |(
 intro yy (hy:Tag 20/\_)
 obtain⟨(m:Int),_⟩:=yy
 replace hy:=hy.2
 dsimp only[cu,aC,aB,gts,eE,eN]at hy
 obtain⟨hm,hX⟩:=hy)))
 all_goals(
 with_reducible apply Leaf.mk
 (try dsimp only[cu,aC,aB,gts,eE,eN]at *)
 first
 |(
  have q0:(!cC n)=false:=by assumption
  have q1:=bL q0;have hg:=aG s 0;have hwn:=aN (n:=n) (by omega);exfalso;omega)
 |(
  have q0:(!cC n)=true:=by assumption
  rw[qVL (wC q0)])
 |(
  have q0:(!cC n)=false:=by assumption
  have q1:=bL q0;have hg:=aG s 0;have hwn:=aN (n:=n) (by omega);first
  |(
   have q2:¬(aA s 0).2.2=0:=by assumption
   rw[qVM q1 q2])
  |(
   have q2:(aA s 0).2.2=0:=by first|assumption|omega
   have q3:(aA s 0).1>n\/((aA s 0).1=0/\n>0):=by omega
   rw[qVN q1 q2 q3]))
 |(
  have hr:=aG s a;have q0:(!cC n)=false:=by assumption
  have q1:=bL q0;have hg:=aG s 0;have hwn:=aN (n:=n) (by omega);have q2:(aA s 0).2.2=0:=by first|assumption|omega
  have q3:¬((aA s 0).1>n\/((aA s 0).1=0/\n>0)):=by first|omega|(simp_all;omega)
  rw[wX q1 q2 q3];rw[hM];first
  |(
   have h1:¬(aA s a).2.2=0:=by assumption
   rw[qBD (by omega) h1,SF h1])
  |(
   have hg0:(aA s a).2.2=0:=by assumption
   have hga:=bC hg0;have hsz:=aN (n:=(s.size:Int)-(aA s a).2.1) (by omega);first
   |(
    have h2:(aA s a).1>(s.size:Int)-(aA s a).2.1:=by omega
    rw[LB (by omega) hg0 h2,SF (by decide)])
   |(
    have h2:¬(aA s a).1>(s.size:Int)-(aA s a).2.1:=by omega
    have h3:0<M.length/\sLe (CQ s a) M[M.length-1]! =true:=⟨by omega,by simp_all [sLe,CQ]⟩
    rw[RB (by omega) hg0 h2 h3,SF (by decide)])))
 |(
  have hn0:n=0:=by assumption
  have q0:(!cC n)=false:=by assumption
  have q1:=bL q0;have hg:=aG s 0;have hwn:=aN (n:=n) (by omega);have hR:(aY s (aA s 0).1.toNat (aA s 0).2.1 [])=(M,a,0):=by rw[hM,jE (by omega)]
  have q2:(aA s 0).2.2=0:=by first|assumption|omega
  have q3:¬((aA s 0).1>n\/((aA s 0).1=0/\n>0)):=by first|omega|(simp_all;omega)
  have hat:=UE (s:=s) (n:=(aA s 0).1.toNat) q2 (by rw[hR]);rw[hR]at hat;rw[wX q1 q2 q3,hR];have hm0:M= []:=List.length_eq_zero_iff.1 (by omega);subst hm0;rw[hn0,qX4 hat.1]
  first|(have hlt:a<s.size:=by assumption
         rw[if_pos hlt];done)|(have hlt:¬a<s.size:=by assumption
                               rw[if_neg hlt];done))
 |(
  have q0:(!cC n)=false:=by assumption
  have q1:=bL q0;have hg:=aG s 0;have hwn:=aN (n:=n) (by omega);have hR:(aY s (aA s 0).1.toNat (aA s 0).2.1 [])=(M,a,0):=by rw[hM,jE (by omega)]
  have hwd:=oG (M:=M) (k:=(aA s 0).1) (by omega) (by omega);first
  |(
   have h5:¬(aM (s.extract a.toNat s.size) n (fI (IntKind.u64.wrap ((aA s 0).1-1)))).2=0:=by assumption
   have q2:(aA s 0).2.2=0:=by first|assumption|omega
   have q3:¬((aA s 0).1>n\/((aA s 0).1=0/\n>0)):=by first|omega|(simp_all;omega)
   rw[wX q1 q2 q3];rw[hR,rT (by rfl)];dsimp only;rw[<-hwd,qNE h5])
  |(
   have hU:(aM (s.extract a.toNat s.size) n (fI (IntKind.u64.wrap ((aA s 0).1-1))))=(aM (s.extract (aY s (aA s 0).1.toNat (aA s 0).2.1 []).2.1.toNat s.size) n (wdN (aY s (aA s 0).1.toNat (aA s 0).2.1 []).1.length)):=by rw[hR,hwd]
   simp only[hU,dH]at *;have hRl:(aY s (aA s 0).1.toNat (aA s 0).2.1 []).1.length=M.length:=by rw[hR]
   first
   |(
    have h5:(aM (s.extract (aY s (aA s 0).1.toNat (aA s 0).2.1 []).2.1.toNat s.size) n (wdN (aY s (aA s 0).1.toNat (aA s 0).2.1 []).1.length)).2=0:=by assumption
    have q6:(aM (s.extract (aY s (aA s 0).1.toNat (aA s 0).2.1 []).2.1.toNat s.size) n (wdN (aY s (aA s 0).1.toNat (aA s 0).2.1 []).1.length)).1[j.toNat]! >=((aY s (aA s 0).1.toNat (aA s 0).2.1 []).1.length:Int):=by omega
    have q2:(aA s 0).2.2=0:=by first|assumption|omega
    have q3:¬((aA s 0).1>n\/((aA s 0).1=0/\n>0)):=by first|omega|(simp_all;omega)
    rw[wX q1 q2 q3];rw[rT (by rw[hR]),xN h5,VX (i:=j) (by omega) q6])
   |(
    have hj1:¬j<((aM (s.extract (aY s (aA s 0).1.toNat (aA s 0).2.1 []).2.1.toNat s.size) n (wdN (aY s (aA s 0).1.toNat (aA s 0).2.1 []).1.length)).1.length:Int):=by omega
    have hta:=uT hj1;rw[hta]at hV hO hA;subst hV;have hull:(jD (aY s (aA s 0).1.toNat (aA s 0).2.1 []).1.length (aM (s.extract (aY s (aA s 0).1.toNat (aA s 0).2.1 []).2.1.toNat s.size) n (wdN (aY s (aA s 0).1.toNat (aA s 0).2.1 []).1.length)).1).length=(aY s (aA s 0).1.toNat (aA s 0).2.1 []).1.length:=kR _ _;have h5:(aM (s.extract (aY s (aA s 0).1.toNat (aA s 0).2.1 []).2.1.toNat s.size) n (wdN (aY s (aA s 0).1.toNat (aA s 0).2.1 []).1.length)).2=0:=by assumption
    first
    |(
     have hb:false=(jD (aY s (aA s 0).1.toNat (aA s 0).2.1 []).1.length (aM (s.extract (aY s (aA s 0).1.toNat (aA s 0).2.1 []).2.1.toNat s.size) n (wdN (aY s (aA s 0).1.toNat (aA s 0).2.1 []).1.length)).1)[m.toNat]!:=qaI (by assumption);rw[vO (by omega),if_pos hb]at hX;have q2:(aA s 0).2.2=0:=by first|assumption|omega
     have q3:¬((aA s 0).1>n\/((aA s 0).1=0/\n>0)):=by first|omega|(simp_all;omega)
     rw[wX q1 q2 q3];rw[rT (by rw[hR]),xN h5,qEN rfl hA (qN2 hX (by omega))])
    |(
     rw[WR (by omega)]at hX;have q2:(aA s 0).2.2=0:=by first|assumption|omega
     have q3:¬((aA s 0).1>n\/((aA s 0).1=0/\n>0)):=by first|omega|(simp_all;omega)
     rw[wX q1 q2 q3];rw[rT (by rw[hR]),xN h5,qEM rfl hA (qS4 hX)];(try exact hO))))))
abbrev qa3:Tbl:=(196,yU)::qa2
theorem qGF:aD Tryz.prog qa3:=aD.cons qDG qGE
abbrev EMP:ByteArray:=⟨#[]⟩
def cB (t:Int):Bool:=decide (1<=t)&&decide (t<=5)
def iB (t:Int) (v:Val):Bool:=
 if t=2 then decide (v.2.1=0)||decide (v.2.1=1)else if t=4 then decide (-719162<=v.2.1)&&decide (v.2.1<=2932896)
 else if t=5 then decide (-999999999999999999<=v.2.1)&&decide (v.2.1<=999999999999999999)else if t=3 then decide (v.2.2.size<=64)else true
def bN (c:Col) (v:Val):Int:=
 if cB c.2.1=false then 1 else if(v.1=true\/c.2.1≠3)/\v.2.2≠EMP then 11 else if(v.1=true\/c.2.1=3)/\v.2.1≠0 then 11
 else if v.1=true/\c.2.2.2=false then 12 else if v.1=false/\iB c.2.1 v=false then 4 else 0
def oX (a b:Int):Int:=if a<b then -1 else if a>b then 1 else 0
def CL (a b:ByteArray):Int:=if fA a b then -1 else if a=b then 0 else 1
def gC (t:Int) (a b:Val):Int:=
 if a.1=true/\b.1=true then 0 else if a.1=true then -1 else if b.1=true then 1 else if t=3 then CL a.2.2 b.2.2 else oX a.2.1 b.2.1
theorem size_pos {s:ByteArray} (h:¬s=⟨#[]⟩):0<s.size:=by
 rcases Nat.eq_zero_or_pos s.size with q|q
 ·exfalso;apply h
  apply ByteArray.ext;exact Array.eq_empty_of_size_eq_zero q
 ·exact q
abbrev GY:Ct:=.fn [.int .i64] (none) (fun(t:Int)=>.d .bool (cB t))
theorem qOF:aF Tryz.prog 148 GY:=by
 refine aF.fn qGF mixed [] [] rfl rfl ?_;rintro⟨(t:Int),_⟩ -;refine⟨[],?_⟩;repeat' (first
  |(
 with_reducible apply Side.mk
 (try dsimp only[cu,aC,aB,gts,loK,hiK,eE,eN])
 done)
  |(conv=>whnf
    first
     |with_reducible first|done|exact trivial|refine NilBr.mk (fun h=>?_) ?_|apply aI|apply aH|refine aJ (by kernel_rfl) ?_|apply aK|apply bE|apply bD|apply aQ
     |((with_reducible first|apply aS|apply aR|apply bB)<;>intro h<;>(try dsimp only[cu,eE,eN]at h)<;>(try(exfalso;omega)))))
 all_goals(
 with_reducible apply Leaf.mk
 (try dsimp only[cu,aC,aB,gts,eE,eN]at *)
 grind [cB])
abbrev qa4:Tbl:=(148,GY)::qa3
theorem qGG:aD Tryz.prog qa4:=aD.cons qOF qGF
abbrev tN:Ct:=.fn [.int .i64,bK] (none) (fun(t:Int) (v:Val)=>.d .bool (iB t v))
theorem TM:aF Tryz.prog 149 tN:=by
 refine aF.fn qGG mixed [] [] rfl rfl ?_;rintro⟨(t:Int),(v:Val),_⟩ -;refine⟨[],?_⟩;repeat' (first
  |(
 with_reducible apply Side.mk
 (try dsimp only[cu,aC,aB,gts,loK,hiK,eE,eN])
 done)
  |(conv=>whnf
    first
     |with_reducible first|done|exact trivial|refine NilBr.mk (fun h=>?_) ?_|apply aI|apply aH|refine aJ (by kernel_rfl) ?_|apply aK|apply bE|apply bD|apply aQ
     |((with_reducible first|apply aS|apply aR|apply bB)<;>intro h<;>(try dsimp only[cu,eE,eN]at h)<;>(try(exfalso;omega)))))
 all_goals(
 with_reducible apply Leaf.mk
 (try dsimp only[cu,aC,aB,gts,eE,eN]at *)
 grind [iB])
abbrev qa5:Tbl:=(149,tN)::qa4
theorem qGH:aD Tryz.prog qa5:=aD.cons TM qGG
abbrev DW:Ct:=.fn [pJ,bK] (none) (fun(c:Col) (v:Val)=>.d (.int .i64) (bN c v))
theorem qLH:aF Tryz.prog 108 DW:=by
 refine aF.fn qGH mixed [] [] rfl rfl ?_;rintro⟨(c:Col),(v:Val),_⟩ -;refine⟨[],?_⟩;repeat' (first
  |(
 with_reducible apply Side.mk
 (try dsimp only[cu,aC,aB,gts,loK,hiK,eE,eN])
 done)
  |(conv=>whnf
    first
     |with_reducible first|done|exact trivial|refine NilBr.mk (fun h=>?_) ?_|apply aI|apply aH|refine aJ (by kernel_rfl) ?_|apply aK|apply bE|apply bD|apply aQ
     |((with_reducible first|apply aS|apply aR|apply bB)<;>intro h<;>(try dsimp only[cu,eE,eN]at h)<;>(try(exfalso;omega)))))
 all_goals(
 with_reducible apply Leaf.mk
 (try dsimp only[cu,aC,aB,gts,eE,eN]at *)
 grind [bN,cB,iB,gC,oX])
abbrev qa6:Tbl:=(108,DW)::qa5
theorem qGI:aD Tryz.prog qa6:=aD.cons qLH qGH
abbrev DE:Ct:=.fn [.str] (none) (fun(a:ByteArray)=>.d .bool false)
theorem qJ5:aF Tryz.prog 185 DE:=by
 refine aF.fn qGI mixed [] [] rfl rfl ?_;rintro⟨(a:ByteArray),_⟩ -;refine⟨[],?_⟩;repeat' (first
  |(
 with_reducible apply Side.mk
 (try dsimp only[cu,aC,aB,gts,loK,hiK,eE,eN])
 done)
  |(conv=>whnf
    first
     |with_reducible first|done|exact trivial|refine NilBr.mk (fun h=>?_) ?_|apply aI|apply aH|refine aJ (by kernel_rfl) ?_|apply aK|apply bE|apply bD|apply aQ
     |((with_reducible first|apply aS|apply aR|apply bB)<;>intro h<;>(try dsimp only[cu,eE,eN]at h)<;>(try(exfalso;omega)))))
 all_goals(
 with_reducible apply Leaf.mk
 (try dsimp only[cu,aC,aB,gts,eE,eN]at *)
 simp)
abbrev qa7:Tbl:=(185,DE)::qa6
theorem qGJ:aD Tryz.prog qa7:=aD.cons qJ5 qGI
abbrev yL:Ct:=.fn [.int .i64] (none) (fun(a:Int)=>.d .bool false)
theorem qCQ:aF Tryz.prog 162 yL:=by
 refine aF.fn qGJ mixed [] [] rfl rfl ?_;rintro⟨(a:Int),_⟩ -;refine⟨[],?_⟩;repeat' (first
  |(
 with_reducible apply Side.mk
 (try dsimp only[cu,aC,aB,gts,loK,hiK,eE,eN])
 done)
  |(conv=>whnf
    first
     |with_reducible first|done|exact trivial|refine NilBr.mk (fun h=>?_) ?_|apply aI|apply aH|refine aJ (by kernel_rfl) ?_|apply aK|apply bE|apply bD|apply aQ
     |((with_reducible first|apply aS|apply aR|apply bB)<;>intro h<;>(try dsimp only[cu,eE,eN]at h)<;>(try(exfalso;omega)))))
 all_goals(
 with_reducible apply Leaf.mk
 (try dsimp only[cu,aC,aB,gts,eE,eN]at *)
 simp)
abbrev qa8:Tbl:=(162,yL)::qa7
theorem qGK:aD Tryz.prog qa8:=aD.cons qCQ qGJ
abbrev GU:Ct:=.fn [.int .i64,.int .i64] (none) (fun(a:Int) (b:Int)=>.d (.int .i64) (oX a b))
theorem qMS:aF Tryz.prog 132 GU:=by
 refine aF.fn qGK mixed [] [] rfl rfl ?_;rintro⟨(a:Int),(b:Int),_⟩ -;refine⟨[],?_⟩;repeat' (first
  |(
 with_reducible apply Side.mk
 (try dsimp only[cu,aC,aB,gts,loK,hiK,eE,eN])
 done)
  |(conv=>whnf
    first
     |with_reducible first|done|exact trivial|refine NilBr.mk (fun h=>?_) ?_|apply aI|apply aH|refine aJ (by kernel_rfl) ?_|apply aK|apply bE|apply bD|apply aQ
     |((with_reducible first|apply aS|apply aR|apply bB)<;>intro h<;>(try dsimp only[cu,eE,eN]at h)<;>(try(exfalso;omega)))))
 all_goals(
 with_reducible apply Leaf.mk
 (try dsimp only[cu,aC,aB,gts,eE,eN]at *)
 grind [bN,cB,iB,gC,oX])
abbrev qa9:Tbl:=(132,GU)::qa8
theorem qGL:aD Tryz.prog qa9:=aD.cons qMS qGK
abbrev MN:Ct:=.fn [.str,.str] (none) (fun(a:ByteArray) (b:ByteArray)=>.d (.int .i64) (CL a b))
theorem qR0:aF Tryz.prog 161 MN:=by
 refine aF.fn qGL mixed [] [] rfl rfl ?_;rintro⟨(a:ByteArray),(b:ByteArray),_⟩ -;refine⟨[],?_⟩;repeat' (first
  |(
 with_reducible apply Side.mk
 (try dsimp only[cu,aC,aB,gts,loK,hiK,eE,eN])
 done)
  |(conv=>whnf
    first
     |with_reducible first|done|exact trivial|refine NilBr.mk (fun h=>?_) ?_|apply aI|apply aH|refine aJ (by kernel_rfl) ?_|apply aK|apply bE|apply bD|apply aQ
     |((with_reducible first|apply aS|apply aR|apply bB)<;>intro h<;>(try dsimp only[cu,eE,eN]at h)<;>(try(exfalso;omega)))))
 all_goals(
 with_reducible apply Leaf.mk
 (try dsimp only[cu,aC,aB,gts,eE,eN]at *)
 grind [CL])
abbrev qbA:Tbl:=(161,MN)::qa9
theorem qGM:aD Tryz.prog qbA:=aD.cons qR0 qGL
abbrev wW:Ct:=.fn [.int .i64,bK,bK] (none) (fun(t:Int) (a:Val) (b:Val)=>.d (.int .i64) (gC t a b))
theorem qBC:aF Tryz.prog 131 wW:=by
 refine aF.fn qGM mixed [] [] rfl rfl ?_;rintro⟨(t:Int),(a:Val),(b:Val),_⟩ -;refine⟨[],?_⟩;repeat' (first
  |(
 with_reducible apply Side.mk
 (try dsimp only[cu,aC,aB,gts,loK,hiK,eE,eN])
 done)
  |(conv=>whnf
    first
     |with_reducible first|done|exact trivial|refine NilBr.mk (fun h=>?_) ?_|apply aI|apply aH|refine aJ (by kernel_rfl) ?_|apply aK|apply bE|apply bD|apply aQ
     |((with_reducible first|apply aS|apply aR|apply bB)<;>intro h<;>(try dsimp only[cu,eE,eN]at h)<;>(try(exfalso;omega)))))
 all_goals(
 with_reducible apply Leaf.mk
 (try dsimp only[cu,aC,aB,gts,eE,eN]at *)
 grind [bN,cB,iB,gC,oX])
abbrev qbB:Tbl:=(131,wW)::qbA
theorem qGN:aD Tryz.prog qbB:=aD.cons qBC qGM
abbrev IN:Ct:=.fn [.int .i64] (none) (fun(t:Int)=>.d .bool (cB t))
theorem qQ6:aF Tryz.prog 54 IN:=by
 refine aF.fn qGN mixed [] [] rfl rfl ?_;rintro⟨(t:Int),_⟩ -;refine⟨[],?_⟩;repeat' (first
  |(
 with_reducible apply Side.mk
 (try dsimp only[cu,aC,aB,gts,loK,hiK,eE,eN])
 done)
  |(conv=>whnf
    first
     |with_reducible first|done|exact trivial|refine NilBr.mk (fun h=>?_) ?_|apply aI|apply aH|refine aJ (by kernel_rfl) ?_|apply aK|apply bE|apply bD|apply aQ
     |((with_reducible first|apply aS|apply aR|apply bB)<;>intro h<;>(try dsimp only[cu,eE,eN]at h)<;>(try(exfalso;omega)))))
 all_goals(
 with_reducible apply Leaf.mk
 (try dsimp only[cu,aC,aB,gts,eE,eN]at *)
 grind [cB])
abbrev qbC:Tbl:=(54,IN)::qbB
theorem qGO:aD Tryz.prog qbC:=aD.cons qQ6 qGN
abbrev DI:Ct:=.fn [pJ,bK] (none) (fun(c:Col) (v:Val)=>.d (.int .i64) (bN c v))
theorem qKK:aF Tryz.prog 81 DI:=by
 refine aF.fn qGO mixed [] [] rfl rfl ?_;rintro⟨(c:Col),(v:Val),_⟩ -;refine⟨[],?_⟩;repeat' (first
  |(
 with_reducible apply Side.mk
 (try dsimp only[cu,aC,aB,gts,loK,hiK,eE,eN])
 done)
  |(conv=>whnf
    first
     |with_reducible first|done|exact trivial|refine NilBr.mk (fun h=>?_) ?_|apply aI|apply aH|refine aJ (by kernel_rfl) ?_|apply aK|apply bE|apply bD|apply aQ
     |((with_reducible first|apply aS|apply aR|apply bB)<;>intro h<;>(try dsimp only[cu,eE,eN]at h)<;>(try(exfalso;omega)))))
 all_goals(
 with_reducible apply Leaf.mk
 (try dsimp only[cu,aC,aB,gts,eE,eN]at *)
 grind [bN,cB,iB,gC,oX])
abbrev qbD:Tbl:=(81,DI)::qbC
theorem qGP:aD Tryz.prog qbD:=aD.cons qKK qGO
abbrev HG:Ct:=.fn [.bool,.bool] (none) (fun(l:Bool) (e:Bool)=>.d (.int .i64) (if l=true then -1 else if e=true then 0 else 1))
theorem qO2:aF Tryz.prog 154 HG:=by
 refine aF.fn qGP mixed [] [] rfl rfl ?_;rintro⟨(l:Bool),(e:Bool),_⟩ -;refine⟨[],?_⟩;repeat' (first
  |(
 with_reducible apply Side.mk
 (try dsimp only[cu,aC,aB,gts,loK,hiK,eE,eN])
 done)
  |(conv=>whnf
    first
     |with_reducible first|done|exact trivial|refine NilBr.mk (fun h=>?_) ?_|apply aI|apply aH|refine aJ (by kernel_rfl) ?_|apply aK|apply bE|apply bD|apply aQ
     |((with_reducible first|apply aS|apply aR|apply bB)<;>intro h<;>(try dsimp only[cu,eE,eN]at h)<;>(try(exfalso;omega)))))
 all_goals(
 with_reducible apply Leaf.mk
 (try dsimp only[cu,aC,aB,gts,eE,eN]at *)
 simp_all)
abbrev qbE:Tbl:=(154,HG)::qbD
theorem qGQ:aD Tryz.prog qbE:=aD.cons qO2 qGP
abbrev wQ:Ct:=.fn [.int .i64,bK,bK] (none) (fun(t:Int) (a:Val) (b:Val)=>.d (.int .i64) (gC t a b))
theorem XS:aF Tryz.prog 117 wQ:=by
 refine aF.fn qGQ mixed [] [] rfl rfl ?_;rintro⟨(t:Int),(a:Val),(b:Val),_⟩ -;refine⟨[],?_⟩;repeat' (first
  |(
 with_reducible apply Side.mk
 (try dsimp only[cu,aC,aB,gts,loK,hiK,eE,eN])
 done)
  |(conv=>whnf
    first
     |with_reducible first|done|exact trivial|refine NilBr.mk (fun h=>?_) ?_|apply aI|apply aH|refine aJ (by kernel_rfl) ?_|apply aK|apply bE|apply bD|apply aQ
     |((with_reducible first|apply aS|apply aR|apply bB)<;>intro h<;>(try dsimp only[cu,eE,eN]at h)<;>(try(exfalso;omega)))))
 all_goals(
 with_reducible apply Leaf.mk
 (try dsimp only[cu,aC,aB,gts,eE,eN]at *)
 grind [gC,oX,CL])
abbrev qbF:Tbl:=(117,wQ)::qbE
theorem qGR:aD Tryz.prog qbF:=aD.cons XS qGQ
def rnd (v:Int):Int:=tG .u32 (jW .u32 v 1) (IntKind.u32.wrap (2197175160*oS .u32 v 1))
def LX:Nat->Int->Int
 |0,v=>v
 |n+1,v=>LX n (rnd v)
theorem qUG {v:Int} (h:oS .u32 v 1=1):rnd v=tG .u32 (jW .u32 v 1) 2197175160:=by
 unfold rnd;rw[h];rfl
theorem qPY {v:Int} (hv:0<=v/\v<4294967296) (h:¬oS .u32 v 1=1):rnd v=jW .u32 v 1:=by
 have h0:oS .u32 v 1=0:=by rw[qZT hv]at h ⊢;omega
 unfold rnd;rw[h0,show IntKind.u32.wrap (2197175160*0)=0 from rfl,qZW (by simpa using qFX hv 1)]
theorem CJ {k v:Int} (h:0<=k/\k<8):LX (8-k).toNat v=LX (8-(k+1)).toNat (rnd v):=by
 rw[show(8-k).toNat=(8-(k+1)).toNat+1 by omega];rfl
def rR:List Int:=(List.range 256).map fun i:Nat=>LX 8 (i:Int)
theorem IY:rR.length=256:=by simp [rR]
def cstep (t:List Int) (v b:Int):Int:=tG .u32 (jW .u32 v 8) t[(tG .u8 (IntKind.u8.wrap v) b).toNat]!
def bnot (v:Int):Int:=tG .u32 (-1) v
def CN (t:List Int) (s:ByteArray):Int:=if t.length=256 then bnot ((aU s).foldl (cstep t) 4294967295)else 0
def iQ (s:ByteArray):Int:=CN rR s
theorem OY {t:List Int} {s:ByteArray} {k v:Int} (h:0<=k/\k<s.size):((aU s).drop k.toNat).foldl (cstep t) v=((aU s).drop (k+1).toNat).foldl (cstep t) (cstep t v (aE s k.toNat)):=by
 rw[bO (aU s) k (by rw[bX];exact h),List.foldl_cons,pN]
abbrev OE:Ct:=.fn [.list (.int .u32),.int .u32,.int .u8] (some (fun(t:List Int) (v:Int) (b:Int)=>(t.length=256))) (fun(t:List Int) (v:Int) (b:Int)=>.d (.int .u32) (cstep t v b))
theorem qUU:aF Tryz.prog 116 OE:=by
 refine aF.fn qGR mixed [] [] rfl rfl ?_;rintro⟨(t:List Int),(v:Int),(b:Int),_⟩ hpre;replace hpre:=hpre _ rfl;dsimp only[cu]at hpre;have ht:=hpre;refine⟨[],?_⟩;repeat' (first
  |(
 with_reducible apply Side.mk
 (try dsimp only[cu,aC,aB,gts,loK,hiK,eE,eN])
 first
 |omega
 |(have hx:=qEA (IntKind.u8.wrap v) b;omega))
  |(conv=>whnf
    first
     |with_reducible first|done|exact trivial|refine NilBr.mk (fun h=>?_) ?_|apply aI|apply aH|refine aJ (by kernel_rfl) ?_|apply aK|apply bE|apply bD|apply aQ
     |((with_reducible first|apply aS|apply aR|apply bB)<;>intro h<;>(try dsimp only[cu,eE,eN]at h)<;>(try(exfalso;omega)))))
 all_goals(
 with_reducible apply Leaf.mk
 (try dsimp only[cu,aC,aB,gts,eE,eN]at *)
 rfl)
abbrev qbG:Tbl:=(116,OE)::qbF
theorem qGS:aD Tryz.prog qbG:=aD.cons qUU qGR
abbrev VI:Ct:=.fn [.list (.int .u32),.str] (some (fun(t:List Int) (s:ByteArray)=>(s.size<=9223372036854775807))) (fun(t:List Int) (s:ByteArray)=>.d (.int .u32) (CN t s))
theorem qZH:aF Tryz.prog 70 VI:=by
 refine aF.fn qGS mixed [] [] rfl rfl ?_;rintro⟨(t:List Int),(s:ByteArray),_⟩ hpre;replace hpre:=hpre _ rfl;dsimp only[cu]at hpre;have hs:=hpre;refine⟨[(0,10,LA.mk [.sl 12 (.int .i64),.sl 5 (.int .u32)] (fun y=>Tag 21/\cu [.int .i64,.int .u32] (fun(k:Int) (v:Int)=>(0<=k/\k<=s.size)/\(((aU s).drop k.toNat).foldl (cstep t) v=(aU s).foldl (cstep t) 4294967295)) y) (cu [.int .i64,.int .u32] (fun(k:Int) (v:Int)=>((s.size:Int)-k).toNat)) (cu [.int .i64,.int .u32] (fun(k:Int) (v:Int)=>([]:List (Nat×Nat×LA)))))],?_⟩;repeat' (first
  |(
 with_reducible refine Side.mk ⟨(⟨⟩:Tag 21),?_⟩
 dsimp only[cu,aC,aB,gts,eE,eN]
 refine⟨?_,?_⟩
 ·omega
 ·first
  |simp;done
  |(rw[<-hv,OY (k:=k) (v:=v) (by omega)];(try rfl)))
  |(
 with_reducible apply Side.mk
 (try dsimp only[cu,aC,aB,gts,loK,hiK,eE,eN])
 omega)
  |(conv=>whnf
    first
     |with_reducible first|done|exact trivial|refine NilBr.mk (fun h=>?_) ?_|apply aI|apply aH|refine aJ (by kernel_rfl) ?_|apply aK|apply bE|apply bD|apply aQ
     |((with_reducible first|apply aS|apply aR|apply bB)<;>intro h<;>(try dsimp only[cu,eE,eN]at h)<;>(try(exfalso;omega)))
     |(
 intro yy (hy:Tag 21/\_)
 obtain⟨(k:Int),(v:Int),_⟩:=yy
 replace hy:=hy.2
 dsimp only[cu,aC,aB,gts,eE,eN]at hy
 obtain⟨hk,hv⟩:=hy)))
 all_goals(
 with_reducible apply Leaf.mk
 (try dsimp only[cu,aC,aB,gts,eE,eN]at *)
 first
 |(
  have h256:¬t.length=256:=by omega
  rw[CN,if_neg h256])
 |(
  have h256:t.length=256:=by omega
  rw[CN,if_pos h256,<-hv,List.drop_eq_nil_of_le (by rw[bX];omega)];rfl))
abbrev qbH:Tbl:=(70,VI)::qbG
theorem qGT:aD Tryz.prog qbH:=aD.cons qZH qGS
abbrev NX:Ct:=.fn [.list (.int .u32),.str] (some (fun(t:List Int) (s:ByteArray)=>(s.size<=9223372036854775807))) (fun(t:List Int) (s:ByteArray)=>.d (.int .u32) (CN t s))
theorem qUJ:aF Tryz.prog 85 NX:=by
 refine aF.fn qGT mixed [] [] rfl rfl ?_;rintro⟨(t:List Int),(s:ByteArray),_⟩ hpre;replace hpre:=hpre _ rfl;dsimp only[cu]at hpre;have hs:=hpre;refine⟨[(0,10,LA.mk [.sl 6 (.int .i64),.sl 5 (.int .u32)] (fun y=>Tag 22/\cu [.int .i64,.int .u32] (fun(k:Int) (v:Int)=>(0<=k/\k<=s.size)/\(((aU s).drop k.toNat).foldl (cstep t) v=(aU s).foldl (cstep t) 4294967295)) y) (cu [.int .i64,.int .u32] (fun(k:Int) (v:Int)=>((s.size:Int)-k).toNat)) (cu [.int .i64,.int .u32] (fun(k:Int) (v:Int)=>([]:List (Nat×Nat×LA)))))],?_⟩;repeat' (first
  |(
 with_reducible refine Side.mk ⟨(⟨⟩:Tag 22),?_⟩
 dsimp only[cu,aC,aB,gts,eE,eN]
 refine⟨?_,?_⟩
 ·omega
 ·first
  |simp;done
  |(rw[<-hv,OY (k:=k) (v:=v) (by omega)];(try rfl)))
  |(
 with_reducible apply Side.mk
 (try dsimp only[cu,aC,aB,gts,loK,hiK,eE,eN])
 first
 |omega
 |(have hx:=qEA (IntKind.u8.wrap v) (aE s k.toNat);omega))
  |(conv=>whnf
    first
     |with_reducible first|done|exact trivial|refine NilBr.mk (fun h=>?_) ?_|apply aI|apply aH|refine aJ (by kernel_rfl) ?_|apply aK|apply bE|apply bD|apply aQ
     |((with_reducible first|apply aS|apply aR|apply bB)<;>intro h<;>(try dsimp only[cu,eE,eN]at h)<;>(try(exfalso;omega)))
     |(
 intro yy (hy:Tag 22/\_)
 obtain⟨(k:Int),(v:Int),_⟩:=yy
 replace hy:=hy.2
 dsimp only[cu,aC,aB,gts,eE,eN]at hy
 obtain⟨hk,hv⟩:=hy)))
 all_goals(
 with_reducible apply Leaf.mk
 (try dsimp only[cu,aC,aB,gts,eE,eN]at *)
 first
 |(
  have h256:¬t.length=256:=by omega
  rw[CN,if_neg h256])
 |(
  have h256:t.length=256:=by omega
  rw[CN,if_pos h256,<-hv,List.drop_eq_nil_of_le (by rw[bX];omega)];rfl))
abbrev qbI:Tbl:=(85,NX)::qbH
theorem qGU:aD Tryz.prog qbI:=aD.cons qUJ qGT
abbrev IM:Ct:=.fn [] (none) (.d (.list (.int .u32)) rR)
theorem qQP:aF Tryz.prog 71 IM:=by
 refine aF.fn qGU mixed [(0,5,1)] [] rfl rfl ?_;rintro⟨⟩ -;refine⟨[(0,6,LA.mk [.sl 7 (.int .i64),.ar 0 (.int .u32) 80] (fun y=>Tag 23/\cu [.int .i64,.list (.int .u32)] (fun(k:Int) (M:List Int)=>(0<=k/\k<=256)/\(M.length=256)/\(M.take k.toNat=(List.range k.toNat).map (fun i:Nat=>LX 8 (i:Int)))) y) (cu [.int .i64,.list (.int .u32)] (fun(k:Int) (M:List Int)=>((256:Int)-k).toNat)) (cu [.int .i64,.list (.int .u32)] (fun(k:Int) (M:List Int)=>([(0,14,LA.mk [.sl 12 (.int .i64),.sl 3 (.int .u32)] (fun y=>Tag 24/\cu [.int .i64,.int .u32] (fun(j:Int) (v:Int)=>(0<=j/\j<=8)/\(LX (8-j).toNat v=LX 8 k)) y) (cu [.int .i64,.int .u32] (fun(j:Int) (v:Int)=>((8:Int)-j).toNat)) (cu [.int .i64,.int .u32] (fun(j:Int) (v:Int)=>([]:List (Nat×Nat×LA)))))]:List (Nat×Nat×LA)))))],?_⟩;repeat' (first
  |(
 with_reducible refine Side.mk ⟨(⟨⟩:Tag 23),?_⟩
 dsimp only[cu,aC,aB,gts,eE,eN]
 refine⟨?_,?_,?_⟩
 ·omega
 ·first
  |simp;done
  |simp;omega
 ·first
  |simp;done
  |(
  rw[show(k+1).toNat=k.toNat+1 by omega,AZ _ _ _ (by omega),hm,List.range_succ,List.map_append]
  simp only[List.map_cons,List.map_nil]
  rw[show((k.toNat:Nat):Int)=k by omega,<-hj,show(8-j).toNat=0 by omega]
  rfl))
  |(
 with_reducible refine Side.mk ⟨(⟨⟩:Tag 24),?_⟩
 dsimp only[cu,aC,aB,gts,eE,eN]
 refine⟨?_,?_⟩
 ·omega
 ·first
  |rfl
  |(rw[<-hj,CJ (k:=j) (v:=v) (by omega)];(try rfl)))
  |(
 with_reducible apply Side.mk
 (try dsimp only[cu,aC,aB,gts,loK,hiK,eE,eN])
 omega)
  |(conv=>whnf
    first
     |with_reducible first|done|exact trivial|refine NilBr.mk (fun h=>?_) ?_|apply aI|apply aH|refine aJ (by kernel_rfl) ?_|apply aK|apply bE|apply bD|apply aQ
     |((with_reducible first|apply aS|apply aR|apply bB)<;>intro h<;>(try dsimp only[cu,eE,eN]at h)<;>(try(exfalso;omega)))
     |(
 intro yy (hy:Tag 23/\_)
 obtain⟨(k:Int),(M:List Int),_⟩:=yy
 replace hy:=hy.2
 dsimp only[cu,aC,aB,gts,eE,eN]at hy
 obtain⟨hk,hl,hm⟩:=hy)
     |(
 intro yy (hy:Tag 24/\_)
 obtain⟨(j:Int),(v:Int),_⟩:=yy
 replace hy:=hy.2
 dsimp only[cu,aC,aB,gts,eE,eN]at hy
 obtain⟨hj,hj⟩:=hy)))
 all_goals(
 with_reducible apply Leaf.mk
 (try dsimp only[cu,aC,aB,gts,eE,eN]at *)
 (
  rw[show k.toNat=256 by omega,List.take_of_length_le (by omega)]at hm;exact hm))
abbrev qbJ:Tbl:=(71,IM)::qbI
theorem qGV:aD Tryz.prog qbJ:=aD.cons qQP qGU
abbrev DO:Ct:=.fn [] (none) (.d (.list (.int .u32)) rR)
theorem qKT:aF Tryz.prog 86 DO:=by
 refine aF.fn qGV mixed [(0,4,1)] [] rfl rfl ?_;rintro⟨⟩ -;refine⟨[(0,6,LA.mk [.sl 2 (.int .u32),.lst 1 (.int .u32) 80] (fun y=>Tag 25/\cu [.int .u32,.list (.int .u32)] (fun(k:Int) (M:List Int)=>(0<=k/\k<=256)/\(M=(List.range k.toNat).map (fun i:Nat=>LX 8 (i:Int)))) y) (cu [.int .u32,.list (.int .u32)] (fun(k:Int) (M:List Int)=>(256-k).toNat)) (cu [.int .u32,.list (.int .u32)] (fun(k:Int) (M:List Int)=>([(0,14,LA.mk [.sl 4 (.int .i64),.sl 3 (.int .u32)] (fun y=>Tag 26/\cu [.int .i64,.int .u32] (fun(j:Int) (v:Int)=>(0<=j/\j<=8)/\(0<=v/\v<4294967296)/\(LX (8-j).toNat v=LX 8 k)) y) (cu [.int .i64,.int .u32] (fun(j:Int) (v:Int)=>((8:Int)-j).toNat)) (cu [.int .i64,.int .u32] (fun(j:Int) (v:Int)=>([]:List (Nat×Nat×LA)))))]:List (Nat×Nat×LA)))))],?_⟩;repeat' (first
  |(
 with_reducible refine Side.mk ⟨(⟨⟩:Tag 25),?_⟩
 dsimp only[cu,aC,aB,gts,eE,eN]
 refine⟨?_,?_⟩
 ·omega
 ·first
  |simp;done
  |(
  rw[show(k+1).toNat=k.toNat+1 by omega,List.range_succ,List.map_append,hm]
  simp only[List.map_cons,List.map_nil]
  rw[show((k.toNat:Nat):Int)=k by omega,<-hj,show(8-j).toNat=0 by omega]
  rfl))
  |(
 with_reducible refine Side.mk ⟨(⟨⟩:Tag 26),?_⟩
 dsimp only[cu,aC,aB,gts,eE,eN]
 refine⟨?_,?_,?_⟩
 ·omega
 ·first
  |omega
  |exact GL _ _
  |(simpa using qFX (by assumption) 1)
 ·first
  |rfl
  |rw[<-hj,CJ (k:=j) (v:=v) (by omega),qUG (by assumption)]
  |(rw[<-hj,CJ (k:=j) (v:=v) (by omega),qPY (by assumption) (by assumption)]))
  |(
 with_reducible apply Side.mk
 (try dsimp only[cu,aC,aB,gts,loK,hiK,eE,eN])
 first
 |done
 |omega
 |exact Eq.refl _
 |(
  have hml:M.length=k.toNat:=by rw[hm];simp
  simp only[List.length_cons,List.length_nil];omega))
  |(conv=>whnf
    first
     |with_reducible first|done|exact trivial|refine NilBr.mk (fun h=>?_) ?_|apply aI|apply aH|refine aJ (by kernel_rfl) ?_|apply aK|apply bE|apply bD|apply aQ
     |((with_reducible first|apply aS|apply aR|apply bB)<;>intro h<;>(try dsimp only[cu,eE,eN]at h)<;>(try(exfalso;omega)))
     |(
 intro yy (hy:Tag 25/\_)
 obtain⟨(k:Int),(M:List Int),_⟩:=yy
 replace hy:=hy.2
 dsimp only[cu,aC,aB,gts,eE,eN]at hy
 obtain⟨hk,hm⟩:=hy)
     |(
 intro yy (hy:Tag 26/\_)
 obtain⟨(j:Int),(v:Int),_⟩:=yy
 replace hy:=hy.2
 dsimp only[cu,aC,aB,gts,eE,eN]at hy
 obtain⟨hj,hv,hj⟩:=hy)))
 all_goals(
 with_reducible apply Leaf.mk
 (try dsimp only[cu,aC,aB,gts,eE,eN]at *)
 (
  rw[show k.toNat=256 by omega]at hm;exact hm))
abbrev qbK:Tbl:=(86,DO)::qbJ
theorem qGW:aD Tryz.prog qbK:=aD.cons qKT qGV
abbrev NR:Ct:=.fn [.str] (some (fun(s:ByteArray)=>(s.size<=9223372036854775807))) (fun(s:ByteArray)=>.d (.int .u32) (iQ s))
theorem qT9:aF Tryz.prog 46 NR:=by
 refine aF.fn qGW mixed [] [] rfl rfl ?_;rintro⟨(s:ByteArray),_⟩ hpre;replace hpre:=hpre _ rfl;dsimp only[cu]at hpre;have hs:=hpre;refine⟨[],?_⟩;repeat' (first
  |(
 with_reducible apply Side.mk
 (try dsimp only[cu,aC,aB,gts,loK,hiK,eE,eN])
 omega)
  |(conv=>whnf
    first
     |with_reducible first|done|exact trivial|refine NilBr.mk (fun h=>?_) ?_|apply aI|apply aH|refine aJ (by kernel_rfl) ?_|apply aK|apply bE|apply bD|apply aQ
     |((with_reducible first|apply aS|apply aR|apply bB)<;>intro h<;>(try dsimp only[cu,eE,eN]at h)<;>(try(exfalso;omega)))))
 all_goals(
 with_reducible apply Leaf.mk
 (try dsimp only[cu,aC,aB,gts,eE,eN]at *)
 rfl)
abbrev qbL:Tbl:=(46,NR)::qbK
theorem qGX:aD Tryz.prog qbL:=aD.cons qT9 qGW
def fB (l:List Bool) (q:Nat):Int:=if l[q]! =true then 1 else 0
theorem qdF (l:List Bool):CX (fB l):=fun q=>by unfold fB;split<;>simp
def XA (l:List Bool):ByteArray:=bH (gL (fB l) l.length 8 (((l.length:Int)+7).tdiv 8).toNat)
def EY (s:ByteArray) (q:Nat):Bool:=decide (sbit s q=1)
def tL (s:ByteArray) (n:Nat):List Bool:=(List.range n).map (EY s)
def eQ (s:ByteArray) (n:Int):List Bool×Int:=
 if n<0\/n>4096 then([],4)else if(s.size:Int)<(n+7).tdiv 8 then([],10)else if(s.size:Int)>(n+7).tdiv 8 then([],2)
 else if gM s n.toNat=true then([],2)else(tL s n.toNat,0)
def jK (s:ByteArray):Nat->Int
 |0=>0
 |m+1=>jK s m+sbit s m
def PZ (n:Nat):Int:=((n%2+n/2%2+n/4%2+n/8%2+n/16%2+n/32%2+n/64%2+n/128%2:Nat):Int)
def kS (s:ByteArray):Int:=jK s (8*s.size)
theorem qI7 {f g:Nat->Int} (h:(List.range 256).all (fun n=>decide (f n=g n))=true) {n:Int} (hn:0<=n/\n<256):f n.toNat=g n.toNat:=of_decide_eq_true (GI h hn)
theorem qTD {b:ByteArray} {x:Int} (h:b.size=256) (hx:x<256):x<(b.size:Int):=by omega
theorem BW (s:ByteArray):∀m,0<=jK s m/\jK s m<=m
 |0=>by simp [jK]
 |m+1=>by
  have:=BW s m;have:=sS s m;rw[jK];omega
theorem qUO (s:ByteArray) (k u:Nat) (hu:u<8):sbit s (8*k+u)=aE s k/2^u%2:=by
 unfold sbit;rw[show(8*k+u)/8=k by omega,show(8*k+u)%8=u by omega]
theorem qKF (n:Nat):0<=PZ n/\PZ n<=8:=by unfold PZ;omega
theorem qMV (s:ByteArray) (k:Nat):jK s (8*(k+1))=jK s (8*k)+PZ (aE s k).toNat:=by
 have hb:=bI s k;obtain⟨b,hbb⟩:=Int.eq_ofNat_of_zero_le hb.1;have e:∀u,u<8->sbit s (8*k+u)=((b/2^u%2:Nat):Int):=fun u hu=>by
  rw[qUO s k u hu,hbb];simp
 rw[hbb,Int.toNat_natCast,show 8*(k+1)=8*k+7+1 by omega];simp only[jK,e 7 (by decide),e 6 (by decide),e 5 (by decide),e 4 (by decide),e 3 (by decide),e 2 (by decide),e 1 (by decide)];have e0:=e 0 (by decide);rw[Nat.add_zero]at e0;rw[e0];simp only[PZ,Nat.reducePow];omega
theorem lQ {n:Int} (h:0<=n):n.tdiv 8=n/8:=Int.tdiv_eq_ediv_of_nonneg h
theorem BA {n:Int} (h:0<=n):n.tmod 8=n%8:=Int.tmod_eq_emod_of_nonneg h
theorem BQ (s:ByteArray) (n:Nat):(tL s n).length=n:=by simp [tL]
theorem xJ (s:ByteArray) {k:Int} (h:0<=k):tL s (k+1).toNat=tL s k.toNat++ [EY s k.toNat]:=by
 rw[show(k+1).toNat=k.toNat+1 by omega];simp [tL,List.range_succ]
theorem qBS {s:ByteArray} {q:Nat} (h:EY s q=true):sbit s q=1:=of_decide_eq_true h
theorem qBR {s:ByteArray} {q:Nat} (h:EY s q=false):sbit s q≠1:=of_decide_eq_false h
theorem qR2 {s:ByteArray} {k:Int} (h:0<=k) (hb:EY s k.toNat=true):jK s (k+1).toNat=jK s k.toNat+1:=by
 rw[show(k+1).toNat=k.toNat+1 by omega,jK,qBS hb]
theorem qR1 {s:ByteArray} {k:Int} (h:0<=k) (hb:EY s k.toNat=false):jK s (k+1).toNat=jK s k.toNat:=by
 have h1:=qBR hb;have h2:=sS s k.toNat;rw[show(k+1).toNat=k.toNat+1 by omega,jK];omega
abbrev DL:Ct:=.fn [.list .bool] (some (fun(l:List Bool)=>(l.length<=1073741824))) (fun(l:List Bool)=>.d .str (XA l))
theorem qKQ:aF Tryz.prog 120 DL:=by
 refine aF.fn qGX mixed [] [] rfl rfl ?_;rintro⟨(l:List Bool),_⟩ hpre;replace hpre:=hpre _ rfl;dsimp only[cu]at hpre;have hl:=hpre;refine⟨[(0,6,LA.mk [.sl 13 (.int .i64),.ar 0 (.int .u8) 5] (fun y=>Tag 27/\cu [.int .i64,.list (.int .u8)] (fun(k:Int) (O:List Int)=>(0<=k/\k<=l.length)/\(O=gL (fB l) k.toNat 8 (((l.length:Int)+7).tdiv 8).toNat)) y) (cu [.int .i64,.list (.int .u8)] (fun(k:Int) (O:List Int)=>((l.length:Int)-k).toNat)) (cu [.int .i64,.list (.int .u8)] (fun(k:Int) (O:List Int)=>([]:List (Nat×Nat×LA)))))],?_⟩;repeat' (first
  |(
 with_reducible refine Side.mk ⟨(⟨⟩:Tag 27),?_⟩
 dsimp only[cu,aC,aB,gts,eE,eN]
 refine⟨?_,?_⟩
 ·omega
 ·first
  |exact(FM _ _ _).symm
  |(
  rw[hO]
  rw[aN (n:=k.tmod 8) (by rw[BA (by omega)];omega)]
  have hd1:=lQ (n:=k) (by omega)
  have hd2:=lQ (n:=(l.length:Int)+7) (by omega)
  have hk:l[k.toNat]! =true:=by first|assumption|(simp_all;done)
  refine XB (qdF _) (by omega) (by omega) ?_ rfl rfl
  rw[fB,if_pos hk])
  |(
  rw[hO,show(k+1).toNat=k.toNat+1 by omega]
  have hk:¬l[k.toNat]! =true:=by first|assumption|(simp_all;done)
  refine qEU (by decide) ?_
  rw[fB,if_neg hk]))
  |(
 with_reducible apply Side.mk
 (try dsimp only[cu,aC,aB,gts,loK,hiK,eE,eN])
 first
 |omega
 |(
  have hd1:=lQ (n:=k) (by omega);have hd2:=lQ (n:=(l.length:Int)+7) (by omega);omega)
 |rw[lQ (by omega)];omega
 |rw[hO,lB,lQ (by omega),lQ (by omega)];omega
 |(
  rw[aN (n:=k.tmod 8) (by rw[BA (by omega)];omega)];rw[BA (by omega)];omega)
 |(simp only[hO,lB];done))
  |(conv=>whnf
    first
     |with_reducible first|done|exact trivial|refine NilBr.mk (fun h=>?_) ?_|apply aI|apply aH|refine aJ (by kernel_rfl) ?_|apply aK|apply bE|apply bD|apply aQ
     |((with_reducible first|apply aS|apply aR|apply bB)<;>intro h<;>(try dsimp only[cu,eE,eN]at h)<;>(try(exfalso;omega)))
     |(
 intro yy (hy:Tag 27/\_)
 obtain⟨(k:Int),(O:List Int),_⟩:=yy
 replace hy:=hy.2
 dsimp only[cu,aC,aB,gts,eE,eN]at hy
 obtain⟨hk,hO⟩:=hy)))
 all_goals(
 with_reducible apply Leaf.mk
 (try dsimp only[cu,aC,aB,gts,eE,eN]at *)
 (rw[hO,show k.toNat=l.length by omega];rfl))
abbrev qbM:Tbl:=(120,DL)::qbL
theorem qGY:aD Tryz.prog qbM:=aD.cons qKQ qGX
abbrev NJ:Ct:=.fn [.str,.int .i64] (some (fun(s:ByteArray) (i:Int)=>(s.size<=288230376151711744)/\(0<=i/\i<8*s.size))) (fun(s:ByteArray) (i:Int)=>.d .bool (EY s i.toNat))
theorem qTS:aF Tryz.prog 187 NJ:=by
 refine aF.fn qGY mixed [] [] rfl rfl ?_;rintro⟨(s:ByteArray),(i:Int),_⟩ hpre;replace hpre:=hpre _ rfl;dsimp only[cu]at hpre;obtain⟨hs,hi⟩:=hpre;refine⟨[],?_⟩;repeat' (first
  |(
 with_reducible apply Side.mk
 (try dsimp only[cu,aC,aB,gts,loK,hiK,eE,eN])
 first
 |omega
 |rw[lQ (by omega)];omega
 |(rw[BA (by omega)];omega))
  |(conv=>whnf
    first
     |with_reducible first|done|exact trivial|refine NilBr.mk (fun h=>?_) ?_|apply aI|apply aH|refine aJ (by kernel_rfl) ?_|apply aK|apply bE|apply bD|apply aQ
     |((with_reducible first|apply aS|apply aR|apply bB)<;>intro h<;>(try dsimp only[cu,eE,eN]at h)<;>(try(exfalso;omega)))))
 all_goals(
 with_reducible apply Leaf.mk
 (try dsimp only[cu,aC,aB,gts,eE,eN]at *)
 (
  unfold EY;rw[(qBT s (a:=i) (by omega)).1]))
abbrev qbN:Tbl:=(187,NJ)::qbM
theorem qGZ:aD Tryz.prog qbN:=aD.cons qTS qGY
abbrev HV:Ct:=.fn [.str,.int .i64] (some (fun(s:ByteArray) (i:Int)=>(s.size<=288230376151711744)/\(0<=i/\i<8*s.size))) (fun(s:ByteArray) (i:Int)=>.d .bool (EY s i.toNat))
theorem qPX:aF Tryz.prog 194 HV:=by
 refine aF.fn qGZ mixed [] [] rfl rfl ?_;rintro⟨(s:ByteArray),(i:Int),_⟩ hpre;replace hpre:=hpre _ rfl;dsimp only[cu]at hpre;obtain⟨hs,hi⟩:=hpre;refine⟨[],?_⟩;repeat' (first
  |(
 with_reducible apply Side.mk
 (try dsimp only[cu,aC,aB,gts,loK,hiK,eE,eN])
 first
 |omega
 |rw[lQ (by omega)];omega
 |(
  rw[aN (n:=i.tmod 8) (by rw[BA (by omega)];omega)];rw[BA (by omega)];omega))
  |(conv=>whnf
    first
     |with_reducible first|done|exact trivial|refine NilBr.mk (fun h=>?_) ?_|apply aI|apply aH|refine aJ (by kernel_rfl) ?_|apply aK|apply bE|apply bD|apply aQ
     |((with_reducible first|apply aS|apply aR|apply bB)<;>intro h<;>(try dsimp only[cu,eE,eN]at h)<;>(try(exfalso;omega)))))
 all_goals(
 with_reducible apply Leaf.mk
 (try dsimp only[cu,aC,aB,gts,eE,eN]at *)
 (
  unfold EY;rw[aN (n:=i.tmod 8) (by rw[BA (by omega)];omega)];rw[(qBT s (a:=i) (by omega)).1]))
abbrev qbO:Tbl:=(194,HV)::qbN
theorem qG0:aD Tryz.prog qbO:=aD.cons qPX qGZ
abbrev NO:Ct:=.fn [.int .u8] (some (fun(x:Int)=>(0<=x/\x<256))) (fun(x:Int)=>.d (.int .i64) (PZ x.toNat))
theorem qT2:aF Tryz.prog 186 NO:=by
 refine aF.fn qG0 mixed [] [] rfl rfl ?_;rintro⟨(x:Int),_⟩ hpre;replace hpre:=hpre _ rfl;dsimp only[cu]at hpre;have hx:=hpre;refine⟨[],?_⟩;repeat' (first
  |(
 with_reducible apply Side.mk
 (try dsimp only[cu,aC,aB,gts,loK,hiK,eE,eN])
 first
 |omega
 |exact qTD (by kernel_rfl) hx.2
 |(exact⟨Int.le_trans (by decide) (bI _ _).1,Int.le_trans (Int.le_of_lt (bI _ _).2) (by decide)⟩))
  |(conv=>whnf
    first
     |with_reducible first|done|exact trivial|refine NilBr.mk (fun h=>?_) ?_|apply aI|apply aH|refine aJ (by kernel_rfl) ?_|apply aK|apply bE|apply bD|apply aQ
     |((with_reducible first|apply aS|apply aR|apply bB)<;>intro h<;>(try dsimp only[cu,eE,eN]at h)<;>(try(exfalso;omega)))))
 all_goals(
 with_reducible apply Leaf.mk
 (try dsimp only[cu,aC,aB,gts,eE,eN]at *)
 exact qI7 (by kernel_rfl) hx)
abbrev qbP:Tbl:=(186,NO)::qbO
theorem qG1:aD Tryz.prog qbP:=aD.cons qT2 qG0
abbrev DH:Ct:=.fn [.str] (some (fun(s:ByteArray)=>(s.size<=288230376151711744))) (fun(s:ByteArray)=>.d (.int .i64) (kS s))
theorem qKC:aF Tryz.prog 164 DH:=by
 refine aF.fn qG1 mixed [] [] rfl rfl ?_;rintro⟨(s:ByteArray),_⟩ hpre;replace hpre:=hpre _ rfl;dsimp only[cu]at hpre;have hs:=hpre;refine⟨[(0,6,LA.mk [.sl 7 (.int .i64),.sl 3 (.int .i64)] (fun y=>Tag 28/\cu [.int .i64,.int .i64] (fun(k:Int) (c:Int)=>(0<=k/\k<=s.size)/\(c=jK s (8*k.toNat))) y) (cu [.int .i64,.int .i64] (fun(k:Int) (c:Int)=>((s.size:Int)-k).toNat)) (cu [.int .i64,.int .i64] (fun(k:Int) (c:Int)=>([]:List (Nat×Nat×LA)))))],?_⟩;repeat' (first
  |(
 with_reducible refine Side.mk ⟨(⟨⟩:Tag 28),?_⟩
 dsimp only[cu,aC,aB,gts,eE,eN]
 refine⟨?_,?_⟩
 ·omega
 ·first
  |rfl
  |(rw[show(k+1).toNat=k.toNat+1 by omega,qMV,hc]))
  |(
 with_reducible apply Side.mk
 (try dsimp only[cu,aC,aB,gts,loK,hiK,eE,eN])
 first
 |omega
 |exact bI _ _
 |(
  have:=BW s (8*k.toNat);have:=qKF (aE s k.toNat).toNat;omega))
  |(conv=>whnf
    first
     |with_reducible first|done|exact trivial|refine NilBr.mk (fun h=>?_) ?_|apply aI|apply aH|refine aJ (by kernel_rfl) ?_|apply aK|apply bE|apply bD|apply aQ
     |((with_reducible first|apply aS|apply aR|apply bB)<;>intro h<;>(try dsimp only[cu,eE,eN]at h)<;>(try(exfalso;omega)))
     |(
 intro yy (hy:Tag 28/\_)
 obtain⟨(k:Int),(c:Int),_⟩:=yy
 replace hy:=hy.2
 dsimp only[cu,aC,aB,gts,eE,eN]at hy
 obtain⟨hk,hc⟩:=hy)))
 all_goals(
 with_reducible apply Leaf.mk
 (try dsimp only[cu,aC,aB,gts,eE,eN]at *)
 (rw[hc,show k.toNat=s.size by omega];rfl))
abbrev qbQ:Tbl:=(164,DH)::qbP
theorem qG2:aD Tryz.prog qbQ:=aD.cons qKC qG1
abbrev yW:Ct:=.fn [.str] (some (fun(s:ByteArray)=>(s.size<=288230376151711744))) (fun(s:ByteArray)=>.d (.int .i64) (kS s))
theorem qDI:aF Tryz.prog 173 yW:=by
 refine aF.fn qG2 mixed [] [] rfl rfl ?_;rintro⟨(s:ByteArray),_⟩ hpre;replace hpre:=hpre _ rfl;dsimp only[cu]at hpre;have hs:=hpre;refine⟨[(0,6,LA.mk [.sl 4 (.int .i64),.sl 3 (.int .i64)] (fun y=>Tag 29/\cu [.int .i64,.int .i64] (fun(k:Int) (c:Int)=>(0<=k/\k<=8*s.size)/\(c=jK s k.toNat)) y) (cu [.int .i64,.int .i64] (fun(k:Int) (c:Int)=>(8*(s.size:Int)-k).toNat)) (cu [.int .i64,.int .i64] (fun(k:Int) (c:Int)=>([]:List (Nat×Nat×LA)))))],?_⟩;repeat' (first
  |(
 with_reducible refine Side.mk ⟨(⟨⟩:Tag 29),?_⟩
 dsimp only[cu,aC,aB,gts,eE,eN]
 refine⟨?_,?_⟩
 ·omega
 ·first
  |rfl
  |rw[qR2 (by omega) (by assumption),hc]
  |(rw[qR1 (by omega) (by assumption),hc]))
  |(
 with_reducible apply Side.mk
 (try dsimp only[cu,aC,aB,gts,loK,hiK,eE,eN])
 first
 |omega
 |(
  have:=BW s k.toNat;omega))
  |(conv=>whnf
    first
     |with_reducible first|done|exact trivial|refine NilBr.mk (fun h=>?_) ?_|apply aI|apply aH|refine aJ (by kernel_rfl) ?_|apply aK|apply bE|apply bD|apply aQ
     |((with_reducible first|apply aS|apply aR|apply bB)<;>intro h<;>(try dsimp only[cu,eE,eN]at h)<;>(try(exfalso;omega)))
     |(
 intro yy (hy:Tag 29/\_)
 obtain⟨(k:Int),(c:Int),_⟩:=yy
 replace hy:=hy.2
 dsimp only[cu,aC,aB,gts,eE,eN]at hy
 obtain⟨hk,hc⟩:=hy)))
 all_goals(
 with_reducible apply Leaf.mk
 (try dsimp only[cu,aC,aB,gts,eE,eN]at *)
 (rw[hc,show k.toNat=8*s.size by omega];rfl))
abbrev qbR:Tbl:=(173,yW)::qbQ
theorem qG3:aD Tryz.prog qbR:=aD.cons qDI qG2
abbrev yQ:Ct:=.fn [.str,.int .i64] (some (fun(s:ByteArray) (n:Int)=>(s.size<=288230376151711744))) (fun(s:ByteArray) (n:Int)=>.tup [.list .bool,.int .i64] ((eQ s n).1,(eQ s n).2,()))
theorem qC5:aF Tryz.prog 165 yQ:=by
 refine aF.fn qG3 mixed [] [] rfl rfl ?_;rintro⟨(s:ByteArray),(n:Int),_⟩ hpre;replace hpre:=hpre _ rfl;dsimp only[cu]at hpre;have hs:=hpre;refine⟨[(0,18,LA.mk [.sl 48 (.int .i64),.ar 0 .bool 4] (fun y=>Tag 30/\cu [.int .i64,.list .bool] (fun(k:Int) (O:List Bool)=>(0<=k/\k<=n)/\(O.length=n.toNat)/\(O.take k.toNat=tL s k.toNat)) y) (cu [.int .i64,.list .bool] (fun(k:Int) (O:List Bool)=>((n:Int)-k).toNat)) (cu [.int .i64,.list .bool] (fun(k:Int) (O:List Bool)=>([]:List (Nat×Nat×LA)))))],?_⟩;repeat' (first
  |(
 with_reducible refine Side.mk ⟨(⟨⟩:Tag 30),?_⟩
 dsimp only[cu,aC,aB,gts,eE,eN]
 refine⟨?_,?_,?_⟩
 ·omega
 ·first
  |simp;done
  |simp;omega
 ·first
  |rfl
  |(rw[show(k+1).toNat=k.toNat+1 by omega,AZ _ _ _ (by omega),hO,<-show(k+1).toNat=k.toNat+1 by omega,xJ s (by omega)]))
  |(
 with_reducible apply Side.mk
 (try dsimp only[cu,aC,aB,gts,loK,hiK,eE,eN])
 first
 |omega
 |(
  have hd:=lQ (n:=n+7) (by omega);have hd2:=lQ (n:=n) (by omega);have hm2:=BA (n:=n) (by omega);omega))
  |(conv=>whnf
    first
     |with_reducible first|done|exact trivial|refine NilBr.mk (fun h=>?_) ?_|apply aI|apply aH|refine aJ (by kernel_rfl) ?_|apply aK|apply bE|apply bD|apply aQ
     |((with_reducible first|apply aS|apply aR|apply bB)<;>intro h<;>(try dsimp only[cu,eE,eN]at h)<;>(try(exfalso;omega)))
     |(
 intro yy (hy:Tag 30/\_)
 obtain⟨(k:Int),(O:List Bool),_⟩:=yy
 replace hy:=hy.2
 dsimp only[cu,aC,aB,gts,eE,eN]at hy
 obtain⟨hk,hl,hO⟩:=hy)))
 all_goals(
 with_reducible apply Leaf.mk
 (try dsimp only[cu,aC,aB,gts,eE,eN]at *)
 first
 |(
  have q:n<0\/n>4096:=by omega
  rw[eQ,if_pos q])
 |(
  have h1:¬(n<0\/n>4096):=by omega
  first
  |(
   have h2:(s.size:Int)<(n+7).tdiv 8:=by omega
   rw[eQ,if_neg h1,if_pos h2])
  |(
   have h2:¬(s.size:Int)<(n+7).tdiv 8:=by omega
   have h3:(s.size:Int)>(n+7).tdiv 8:=by omega
   rw[eQ,if_neg h1,if_neg h2,if_pos h3]))
 |(
  have hd:=lQ (n:=n+7) (by omega);have hd2:=lQ (n:=n) (by omega);have hm2:=BA (n:=n) (by omega);have h1:¬(n<0\/n>4096):=by omega
  have h2:¬(s.size:Int)<(n+7).tdiv 8:=by omega
  have h3:¬(s.size:Int)>(n+7).tdiv 8:=by omega
  have ht:=YR (s:=s) (m:=n.toNat) (by omega);obtain⟨t1,t2⟩:=QW s (a:=n) (by omega);first
  |(
   have h4:gM s n.toNat=true:=ht.2 ⟨by omega,by rw[<-t1];assumption⟩;rw[eQ,if_neg h1,if_neg h2,if_neg h3,if_pos h4])
  |(
   have h4:¬gM s n.toNat=true:=by
    intro q;obtain⟨g1,g2⟩:=ht.1 q;rw[<-t1]at g2;first|omega|(simp_all;done)
   rw[eQ,if_neg h1,if_neg h2,if_neg h3,if_neg h4];(try rw[List.take_of_length_le (by omega),show k.toNat=n.toNat by omega]at hO);first|done|rfl|exact hO)))
abbrev qbS:Tbl:=(165,yQ)::qbR
theorem qG4:aD Tryz.prog qbS:=aD.cons qC5 qG3
abbrev wT:Ct:=.fn [.str,.int .i64] (some (fun(s:ByteArray) (n:Int)=>(s.size<=288230376151711744))) (fun(s:ByteArray) (n:Int)=>.tup [.list .bool,.int .i64] ((eQ s n).1,(eQ s n).2,()))
theorem YE:aF Tryz.prog 172 wT:=by
 refine aF.fn qG4 mixed [] [] rfl rfl ?_;rintro⟨(s:ByteArray),(n:Int),_⟩ hpre;replace hpre:=hpre _ rfl;dsimp only[cu]at hpre;have hs:=hpre;refine⟨[(0,18,LA.mk [.sl 7 (.int .i64),.lst 6 .bool 4] (fun y=>Tag 31/\cu [.int .i64,.list .bool] (fun(k:Int) (M:List Bool)=>(0<=k/\k<=8*s.size)/\(M=tL s (min k n).toNat)/\(∀q:Nat,n<=q->(q:Int)<k->sbit s q≠1)) y) (cu [.int .i64,.list .bool] (fun(k:Int) (M:List Bool)=>(8*(s.size:Int)-k).toNat)) (cu [.int .i64,.list .bool] (fun(k:Int) (M:List Bool)=>([]:List (Nat×Nat×LA)))))],?_⟩;repeat' (first
  |(
 with_reducible refine Side.mk ⟨(⟨⟩:Tag 31),?_⟩
 dsimp only[cu,aC,aB,gts,eE,eN]
 refine⟨?_,?_,?_⟩
 ·omega
 ·first
  |(
  have q0:(!cC n)=false:=by assumption
  have q1:=bL q0
  rw[show(min 0 n).toNat=0 by omega];rfl)
  |rw[show min (k+1) n=min k n+1 by omega,xJ s (by omega),<-hM,show min k n=k by omega]
  |rw[show min (k+1) n=min k n by omega];exact hM
 ·first
  |intro q g1 g2;omega
  |(
  intro q g1 g2
  rcases Int.lt_or_le (q:Int) k with p|p
  ·exact ht q g1 p
  ·rw[show q=k.toNat by omega]
   exact qBR (by assumption)))
  |(
 with_reducible apply Side.mk
 (try dsimp only[cu,aC,aB,gts,loK,hiK,eE,eN])
 first
 |done
 |omega
 |exact Eq.refl _
 |(
  have q0:(!cC n)=false:=by assumption
  have q1:=bL q0;first
  |omega
  |(
   have hd:=lQ (n:=n+7) (by omega);omega)
  |(
   have hml:=congrArg List.length hM;rw[BQ]at hml;(try simp only[List.length_cons,List.length_nil]);omega)))
  |(conv=>whnf
    first
     |with_reducible first|done|exact trivial|refine NilBr.mk (fun h=>?_) ?_|apply aI|apply aH|refine aJ (by kernel_rfl) ?_|apply aK|apply bE|apply bD|apply aQ
     |((with_reducible first|apply aS|apply aR|apply bB)<;>intro h<;>(try dsimp only[cu,eE,eN]at h)<;>(try(exfalso;omega)))
     |(
 intro yy (hy:Tag 31/\_)
 obtain⟨(k:Int),(M:List Bool),_⟩:=yy
 replace hy:=hy.2
 dsimp only[cu,aC,aB,gts,eE,eN]at hy
 obtain⟨hk,hM,ht⟩:=hy)))
 all_goals(
 with_reducible apply Leaf.mk
 (try dsimp only[cu,aC,aB,gts,eE,eN]at *)
 first
 |(
  have q0:(!cC n)=true:=by assumption
  rw[eQ,if_pos (wC q0)])
 |(
  have q0:(!cC n)=false:=by assumption
  have q1:=bL q0;first
  |(
   have h1:¬(n<0\/n>4096):=by omega
   first
   |(
    have h2:(s.size:Int)<(n+7).tdiv 8:=by omega
    rw[eQ,if_neg h1,if_pos h2])
   |(
    have h2:¬(s.size:Int)<(n+7).tdiv 8:=by omega
    have h3:(s.size:Int)>(n+7).tdiv 8:=by omega
    rw[eQ,if_neg h1,if_neg h2,if_pos h3]))
  |(
   have hd:=lQ (n:=n+7) (by omega);have h1:¬(n<0\/n>4096):=by omega
   have h2:¬(s.size:Int)<(n+7).tdiv 8:=by omega
   have h3:¬(s.size:Int)>(n+7).tdiv 8:=by omega
   first
   |(
    have h4:gM s n.toNat=true:=AY (q:=k.toNat) (by omega) (by omega) (qBS (by assumption));rw[eQ,if_neg h1,if_neg h2,if_neg h3,if_pos h4])
   |(
    have h4:¬gM s n.toNat=true:=UA (fun q g1 g2=>ht q (by omega) (by omega));rw[eQ,if_neg h1,if_neg h2,if_neg h3,if_neg h4];(try rw[hM,show min k n=n by omega])))))
abbrev qbT:Tbl:=(172,wT)::qbS
theorem qG5:aD Tryz.prog qbT:=aD.cons YE qG4
def inI (n:Int):Prop:=-9223372036854775808<=n/\n<=9223372036854775807
def gP (n:Int):Int:=if n<0 then(-(n+1))*2+1 else n*2
def jP (v:Int):Int:=if v%2=1 then -(v/2)-1 else v/2
theorem oI {n:Int} (h:inI n):0<=gP n/\gP n<18446744073709551616:=by unfold inI at h;unfold gP;split<;>omega
theorem qU8 {v:Int} (h:0<=v/\v<18446744073709551616):inI (jP v):=by unfold inI jP;split<;>omega
theorem qIV (n:Int):jP (gP n)=n:=by unfold gP jP;split<;>split<;>omega
theorem SV {a:Int} (h:inI a):IntKind.i64.wrap a=a:=by unfold inI at h;simp [IntKind.wrap,IntKind.bits,IntKind.signed];omega
theorem qdD {a:Int} (h:inI a):tG .i64 a 0=a:=by
 unfold tG;rw[show BitVec.ofInt IntKind.i64.bits 0=0#IntKind.i64.bits from rfl,BitVec.xor_zero,BitVec.toNat_ofInt];unfold inI at h;simp [IntKind.wrap,IntKind.bits,IntKind.signed];omega
theorem qdE {a:Int} (h:0<=a/\a<=9223372036854775807):tG .i64 a (-1) = -a-1:=by
 unfold tG;rw[show BitVec.ofInt IntKind.i64.bits (-1)=BitVec.allOnes IntKind.i64.bits from rfl,BitVec.xor_allOnes,BitVec.toNat_not,BitVec.toNat_ofInt];have e2:(2:Nat)^IntKind.i64.bits=18446744073709551616:=rfl;have e3:((2^IntKind.i64.bits-1-(a%((2^IntKind.i64.bits:Nat):Int)).toNat:Nat):Int)=18446744073709551615-a:=by
  rw[e2];omega
 rw[e3];simp [IntKind.wrap,IntKind.bits,IntKind.signed];omega
theorem qZQ {v:Int} (h:0<=v/\v<18446744073709551616):tG .i64 (jW .u64 v 1) (IntKind.i64.wrap (0-oS .u64 v 1))=jP v:=by
 rw[qQF h.1,FC h];unfold jP;have:inI (v/2):=by unfold inI;omega
 split
 ·rename_i q
  rw[q,show IntKind.i64.wrap (0-1) = -1 from rfl,qdE (by omega)]
 ·rename_i q
  rw[show v%2=0 by omega,show IntKind.i64.wrap (0-0)=0 from rfl,qdD this]
abbrev OA:Ct:=.fn [.int .i64] (some (fun(n:Int)=>(inI n))) (fun(n:Int)=>.d (.int .u64) (gP n))
theorem qUL:aF Tryz.prog 122 OA:=by
 refine aF.fn qG5 mixed [] [] rfl rfl ?_;rintro⟨(n:Int),_⟩ hpre;replace hpre:=hpre _ rfl;dsimp only[cu]at hpre;have hn:=hpre;unfold inI at hn;refine⟨[],?_⟩;repeat' (first
  |(
 with_reducible apply Side.mk
 (try dsimp only[cu,aC,aB,gts,loK,hiK,eE,eN])
 omega)
  |(conv=>whnf
    first
     |with_reducible first|done|exact trivial|refine NilBr.mk (fun h=>?_) ?_|apply aI|apply aH|refine aJ (by kernel_rfl) ?_|apply aK|apply bE|apply bD|apply aQ
     |((with_reducible first|apply aS|apply aR|apply bB)<;>intro h<;>(try dsimp only[cu,eE,eN]at h)<;>(try(exfalso;omega)))))
 all_goals(
 with_reducible apply Leaf.mk
 (try dsimp only[cu,aC,aB,gts,eE,eN]at *)
 first
 |(
  have q:¬n<0:=by assumption
  rw[gP,if_neg q,aN (n:=n) (by omega),aN (by omega)])
 |(
  have q:n<0:=by assumption
  rw[gP,if_pos q,SV (a:=0-(n+1)) (by unfold inI;omega),aN (n:=0-(n+1)) (by omega),aN (n:=(0-(n+1))*2) (by omega),aN (by omega)];show(_:Int)=_;omega))
abbrev qbU:Tbl:=(122,OA)::qbT
theorem qG6:aD Tryz.prog qbU:=aD.cons qUL qG5
abbrev VK:Ct:=.fn [.int .u64] (some (fun(v:Int)=>(0<=v/\v<18446744073709551616))) (fun(v:Int)=>.d (.int .i64) (jP v))
theorem qZR:aF Tryz.prog 160 VK:=by
 refine aF.fn qG6 mixed [] [] rfl rfl ?_;rintro⟨(v:Int),_⟩ hpre;replace hpre:=hpre _ rfl;dsimp only[cu]at hpre;have hv:=hpre;refine⟨[],?_⟩;repeat' (first
  |(
 with_reducible apply Side.mk
 (try dsimp only[cu,aC,aB,gts,loK,hiK,eE,eN])
 first
 |omega
 |(
  have h1:=FC hv;have h2:=qQF hv.1;first
  |(
   rw[h2];omega)
  |(
   rw[h1];omega)))
  |(conv=>whnf
    first
     |with_reducible first|done|exact trivial|refine NilBr.mk (fun h=>?_) ?_|apply aI|apply aH|refine aJ (by kernel_rfl) ?_|apply aK|apply bE|apply bD|apply aQ
     |((with_reducible first|apply aS|apply aR|apply bB)<;>intro h<;>(try dsimp only[cu,eE,eN]at h)<;>(try(exfalso;omega)))))
 all_goals(
 with_reducible apply Leaf.mk
 (try dsimp only[cu,aC,aB,gts,eE,eN]at *)
 rw[qZQ hv])
abbrev qbV:Tbl:=(160,VK)::qbU
theorem qG7:aD Tryz.prog qbV:=aD.cons qZR qG6
abbrev NY:Ct:=.fn [.int .u64] (some (fun(v:Int)=>(0<=v/\v<18446744073709551616))) (fun(v:Int)=>.d (.int .i64) (jP v))
theorem qUK:aF Tryz.prog 214 NY:=by
 refine aF.fn qG7 mixed [] [] rfl rfl ?_;rintro⟨(v:Int),_⟩ hpre;replace hpre:=hpre _ rfl;dsimp only[cu]at hpre;have hv:=hpre;refine⟨[],?_⟩;repeat' (first
  |(
 with_reducible apply Side.mk
 (try dsimp only[cu,aC,aB,gts,loK,hiK,eE,eN])
 first
 |omega
 |(
  have h1:=Int.tmod_eq_emod_of_nonneg (b:=2) hv.1;have h2:=Int.tdiv_eq_ediv_of_nonneg (b:=2) hv.1;have h4:=aN (n:=v/2) (by omega);have h5:=SV (a:=0-v/2) (by unfold inI;omega);rw[h2,h4];omega))
  |(conv=>whnf
    first
     |with_reducible first|done|exact trivial|refine NilBr.mk (fun h=>?_) ?_|apply aI|apply aH|refine aJ (by kernel_rfl) ?_|apply aK|apply bE|apply bD|apply aQ
     |((with_reducible first|apply aS|apply aR|apply bB)<;>intro h<;>(try dsimp only[cu,eE,eN]at h)<;>(try(exfalso;omega)))))
 all_goals(
 with_reducible apply Leaf.mk
 (try dsimp only[cu,aC,aB,gts,eE,eN]at *)
 first
 |(
  have h1:=Int.tmod_eq_emod_of_nonneg (b:=2) hv.1;have h2:=Int.tdiv_eq_ediv_of_nonneg (b:=2) hv.1;have h4:=aN (n:=v/2) (by omega);have h5:=SV (a:=0-v/2) (by unfold inI;omega);first
  |(
   have q:v%2=1:=by omega
   rw[jP,if_pos q,h2,h4,h5];show(_:Int)=_;omega)
  |(
   have q:¬v%2=1:=by omega
   rw[jP,if_neg q,h2,h4])))
abbrev qbW:Tbl:=(214,NY)::qbV
theorem qG8:aD Tryz.prog qbW:=aD.cons qUK qG7
def sQ (v:Int):List Int->Nat
 | []=>0
 |x::l=>if x=v then sQ v l+1 else 0
theorem QN {v:Int}:∀ {l:List Int} {m:Nat},m<=l.length->(∀j,j<m->l[j]! =v)->(m=l.length\/¬l[m]! =v)->sQ v l=m
 | [],m,h,_,_=>by simp at h;subst h;rfl
 |x::l,0,_,_,h=>by
  rcases h with h|h
  ·simp at h
  ·unfold sQ;rw[if_neg (by simpa using h)]
 |x::l,m+1,h,h1,h2=>by
  have h0:x=v:=by simpa using h1 0 (by omega)
  unfold sQ;rw[if_pos h0,QN (m:=m) (by simpa using h) (fun j hj=>by simpa using h1 (j+1) (by omega)) (by simpa using h2)]
def runs:List Int->List (Int×Int)
 | []=>[]
 |v::l=>((sQ v l:Int)+1,v)::runs (l.drop (sQ v l))
termination_by l=>l.length
decreasing_by simp;omega
theorem WB (l:List Int) (a j:Nat):(l.drop a)[j]! =l[a+j]!:=by
 simp [List.getElem!_eq_getElem?_getD,List.getElem?_drop]
theorem qKW {l:List Int} {i k:Int} (h:0<=i/\i<k/\k<=l.length) (he:∀j:Nat,i<=j->(j:Int)<k->l[j]! =l[i.toNat]!) (hn:k=l.length\/¬l[k.toNat]! =l[i.toNat]!) :
  runs (l.drop i.toNat)=(k-i,l[i.toNat]!)::runs (l.drop k.toNat):=by
 have e:sQ l[i.toNat]! (l.drop (i+1).toNat)=(k-i-1).toNat:=by
  refine QN (by simp;omega) (fun j hj=>?_) ?_
  ·rw[WB];exact he _ (by omega) (by omega)
  ·rcases hn with q|q
   ·left;simp;omega
   ·right;rw[WB,show(i+1).toNat+(k-i-1).toNat=k.toNat by omega];exact q
 rw[bO l i (by omega),runs,e,List.drop_drop,show(i+1).toNat+(k-i-1).toNat=k.toNat by omega,show(((k-i-1).toNat:Nat):Int)+1=k-i by omega]
def SI:List (Int×Int)->List Int
 | []=>[]
 |(n,v)::r=>put n++(put (gP v)++SI r)
def zI (l:List Int):ByteArray:=bH (SI (runs l))
theorem JO {l:List Int} (h:∀x,x∈l->inI x) (k:Nat):inI l[k]!:=by
 by_cases q:k<l.length
 ·rw[getElem!_pos l k q];exact h _ (List.getElem_mem q)
 ·rw[getElem!_neg l k q];unfold inI;exact⟨by decide,by decide⟩
def dGo (s:ByteArray) (n a:Int) (M:List Int):List Int×Int:=
 if h0:(M.length:Int)<n then
  if(aA s a).2.2≠0 then([],(aA s a).2.2)
  else if h1:(aA s a).1=0\/(aA s a).1>n-M.length then([],2)
  else if(aA s (aA s a).2.1).2.2≠0 then([],(aA s (aA s a).2.1).2.2)
  else if 0<M.length/\M[M.length-1]! =jP (aA s (aA s a).2.1).1 then([],2)
  else dGo s n (aA s (aA s a).2.1).2.1 (M++List.replicate (aA s a).1.toNat (jP (aA s (aA s a).2.1).1))
 else if a<s.size then([],2)else(M,0)
termination_by (n-M.length).toNat
decreasing_by
 have:=aG s a;simp only[List.length_append,List.length_replicate];omega
def bV (s:ByteArray) (n:Int):List Int×Int:=if n<0\/n>4096 then([],4)else dGo s n 0 []
theorem qVG {s:ByteArray} {n a:Int} {M:List Int} (h:(M.length:Int)<n) (h1:¬(aA s a).2.2=0):dGo s n a M=([],(aA s a).2.2):=by rw[dGo,dif_pos h,if_pos h1]
theorem qVH {s:ByteArray} {n a:Int} {M:List Int} (h:(M.length:Int)<n) (h1:(aA s a).2.2=0) (h2:(aA s a).1=0\/(aA s a).1>n-M.length):dGo s n a M=([],2):=by rw[dGo,dif_pos h,if_neg (fun q=>q h1),dif_pos h2]
theorem qVI {s:ByteArray} {n a:Int} {M:List Int} (h:(M.length:Int)<n) (h1:(aA s a).2.2=0) (h2:¬((aA s a).1=0\/(aA s a).1>n-M.length)) (h3:¬(aA s (aA s a).2.1).2.2=0):dGo s n a M=([],(aA s (aA s a).2.1).2.2):=by
 rw[dGo,dif_pos h,if_neg (fun q=>q h1),dif_neg h2,if_pos h3]
theorem qVJ {s:ByteArray} {n a:Int} {M:List Int} (h:(M.length:Int)<n) (h1:(aA s a).2.2=0) (h2:¬((aA s a).1=0\/(aA s a).1>n-M.length)) (h3:(aA s (aA s a).2.1).2.2=0) (h4:0<M.length/\M[M.length-1]! =jP (aA s (aA s a).2.1).1):dGo s n a M=([],2):=by
 rw[dGo,dif_pos h,if_neg (fun q=>q h1),dif_neg h2,if_neg (fun q=>q h3),if_pos h4]
theorem qVK {s:ByteArray} {n a:Int} {M:List Int} (h:(M.length:Int)<n) (h1:(aA s a).2.2=0) (h2:¬((aA s a).1=0\/(aA s a).1>n-M.length)) (h3:(aA s (aA s a).2.1).2.2=0) (h4:¬(0<M.length/\M[M.length-1]! =jP (aA s (aA s a).2.1).1)) :
  dGo s n a M=dGo s n (aA s (aA s a).2.1).2.1 (M++List.replicate (aA s a).1.toNat (jP (aA s (aA s a).2.1).1)):=by
 rw[dGo,dif_pos h,if_neg (fun q=>q h1),dif_neg h2,if_neg (fun q=>q h3),if_neg h4]
theorem qEH {s:ByteArray} {n a:Int} {M:List Int} (h:¬(M.length:Int)<n):dGo s n a M=if a<s.size then([],2)else(M,0):=by rw[dGo,dif_neg h]
theorem YA {M:List Int} {u v:Int} (h:0<=u):M++List.replicate (u+1).toNat v=M++List.replicate u.toNat v++ [v]:=by
 rw[show(u+1).toNat=u.toNat+1 by omega,List.replicate_succ',List.append_assoc]
abbrev HP:Ct:=.fn [.list (.int .i64)] (some (fun(l:List Int)=>(l.length<=1073741824)/\(∀x,x∈l->inI x))) (fun(l:List Int)=>.d .str (zI l))
theorem qPR:aF Tryz.prog 155 HP:=by
 refine aF.fn qG8 mixed [] [] rfl rfl ?_;rintro⟨(l:List Int),_⟩ hpre;replace hpre:=hpre _ rfl;dsimp only[cu]at hpre;obtain⟨hl,hv⟩:=hpre;refine⟨[(0,6,LA.mk [.sl 4 (.int .i64),.sl 3 .str] (fun y=>Tag 32/\cu [.int .i64,.str] (fun(i:Int) (x:ByteArray)=>(0<=i/\i<=l.length)/\(zI l=x++bH (SI (runs (l.drop i.toNat))))/\((x.size:Int)<=20*i)) y) (cu [.int .i64,.str] (fun(i:Int) (x:ByteArray)=>((l.length:Int)-i).toNat)) (cu [.int .i64,.str] (fun(i:Int) (x:ByteArray)=>([(0,10,LA.mk [.sl 5 (.int .i64)] (fun y=>Tag 33/\cu [.int .i64] (fun(k:Int)=>(i<=k/\k<=l.length)/\(∀j:Nat,i<=j->(j:Int)<k->l[j]! =l[i.toNat]!)) y) (cu [.int .i64] (fun(k:Int)=>((l.length:Int)-k).toNat)) (cu [.int .i64] (fun(k:Int)=>([]:List (Nat×Nat×LA)))))]:List (Nat×Nat×LA)))))],?_⟩;repeat' (first
  |(
 with_reducible refine Side.mk ⟨(⟨⟩:Tag 32),?_⟩
 dsimp only[cu,aC,aB,gts,eE,eN]
 refine⟨?_,?_,?_⟩
 ·omega
 ·first
  |rw[show(⟨#[]⟩:ByteArray)=ByteArray.empty from rfl,ByteArray.empty_append];rfl
  |(
  have hik:i<k:=by
   rcases Int.lt_or_le i k with q|q
   ·exact q
   ·exfalso
    have e:k=i:=by omega
    subst e;first|omega|(simp_all;done)
  have hst:=qKW (l:=l) (i:=i) (k:=k) (by omega) he (by first|(left;omega)|(right;assumption)|(right;simp_all;done))
  have p1:=bU (k-i)
  have p2:=bU (gP l[i.toNat]!)
  have hui:=aN (n:=k-i) (by omega)
  rw[hx,hst,SI,hui]
  simp only[iT,ByteArray.append_assoc])
 ·first
  |exact Int.le_refl _
  |(
  have hik:i<k:=by
   rcases Int.lt_or_le i k with q|q
   ·exact q
   ·exfalso
    have e:k=i:=by omega
    subst e;first|omega|(simp_all;done)
  have p1:=bU (k-i)
  have p2:=bU (gP l[i.toNat]!)
  have hui:=aN (n:=k-i) (by omega)
  simp only[ByteArray.size_append,cY,hui]
  omega))
  |(
 with_reducible refine Side.mk ⟨(⟨⟩:Tag 33),?_⟩
 dsimp only[cu,aC,aB,gts,eE,eN]
 refine⟨?_,?_⟩
 ·omega
 ·first
  |intro j h1 h2;omega
  |(
  intro j h1 h2
  rcases Int.lt_or_le (j:Int) k with q|q
  ·exact he j h1 q
  ·rw[show j=k.toNat by omega];first|assumption|(simp_all;done)))
  |(
 with_reducible apply Side.mk
 (try dsimp only[cu,aC,aB,gts,loK,hiK,eE,eN])
 first
 |omega
 |(
  have hik:i<k:=by
   rcases Int.lt_or_le i k with q|q
   ·exact q
   ·exfalso
    have e:k=i:=by omega
    subst e;first|omega|(simp_all;done)
  omega)
 |exact JO hv _
 |exact oI (JO hv _)
 |(
  have hui:=aN (n:=k-i) (by omega);omega)
 |(
  have hik:i<k:=by
   rcases Int.lt_or_le i k with q|q
   ·exact q
   ·exfalso
    have e:k=i:=by omega
    subst e;first|omega|(simp_all;done)
  have p1:=bU (k-i);have p2:=bU (gP l[i.toNat]!);have hui:=aN (n:=k-i) (by omega);simp only[ByteArray.size_append,cY,hui];omega))
  |(conv=>whnf
    first
     |with_reducible first|done|exact trivial|refine NilBr.mk (fun h=>?_) ?_|apply aI|apply aH|refine aJ (by kernel_rfl) ?_|apply aK|apply bE|apply bD|apply aQ
     |((with_reducible first|apply aS|apply aR|apply bB)<;>intro h<;>(try dsimp only[cu,eE,eN]at h)<;>(try(exfalso;omega)))
     |(
 intro yy (hy:Tag 32/\_)
 obtain⟨(i:Int),(x:ByteArray),_⟩:=yy
 replace hy:=hy.2
 dsimp only[cu,aC,aB,gts,eE,eN]at hy
 obtain⟨hi,hx,hz⟩:=hy)
     |(
 intro yy (hy:Tag 33/\_)
 obtain⟨(k:Int),_⟩:=yy
 replace hy:=hy.2
 dsimp only[cu,aC,aB,gts,eE,eN]at hy
 obtain⟨hk,he⟩:=hy)))
 all_goals(
 with_reducible apply Leaf.mk
 (try dsimp only[cu,aC,aB,gts,eE,eN]at *)
 (
  rw[hx,List.drop_eq_nil_of_le (by omega),runs,SI];show x=x++ByteArray.empty;simp))
abbrev qbX:Tbl:=(155,HP)::qbW
theorem qG9:aD Tryz.prog qbX:=aD.cons qPR qG8
abbrev DK:Ct:=.fn [.str,.int .i64] (some (fun(s:ByteArray) (n:Int)=>(s.size<=288230376151711744))) (fun(s:ByteArray) (n:Int)=>.tup [.list (.int .i64),.int .i64] ((bV s n).1,(bV s n).2,()))
theorem qKP:aF Tryz.prog 190 DK:=by
 refine aF.fn qG9 mixed [(0,3,3500006),(0,5,3500006),(0,9,3500006),(0,15,3500006)] [] rfl rfl ?_;rintro⟨(s:ByteArray),(n:Int),_⟩ hpre;replace hpre:=hpre _ rfl;dsimp only[cu]at hpre;have hs:=hpre;refine⟨[(0,10,LA.mk [.sl 7 (.int .i64),.nls 6 (.int .i64) 2] (fun y=>Tag 34/\cu [.int .i64,.list (.int .i64)] (fun(a:Int) (M:List Int)=>(dGo s n 0 []=dGo s n a M)/\((M.length:Int)<=n)) y) (cu [.int .i64,.list (.int .i64)] (fun(a:Int) (M:List Int)=>(n-(M.length:Int)).toNat)) (cu [.int .i64,.list (.int .i64)] (fun(a:Int) (M:List Int)=>([(0,36,LA.mk [.sl 72 (.int .u64),.nls 6 (.int .i64) 2] (fun y=>Tag 35/\cu [.int .u64,.list (.int .i64)] (fun(u:Int) (Q:List Int)=>(0<=u/\u<=(aA s a).1)/\(Q=M++List.replicate u.toNat (jP (aA s (aA s a).2.1).1))) y) (cu [.int .u64,.list (.int .i64)] (fun(u:Int) (Q:List Int)=>((aA s a).1-u).toNat)) (cu [.int .u64,.list (.int .i64)] (fun(u:Int) (Q:List Int)=>([]:List (Nat×Nat×LA)))))]:List (Nat×Nat×LA)))))],?_⟩;repeat' (first
  |(
 with_reducible refine Side.mk ⟨(⟨⟩:Tag 34),?_⟩
 dsimp only[cu,aC,aB,gts,eE,eN]
 refine⟨?_,?_⟩
 ·first
  |rw[show List.replicate (Int.toNat 0) (0:Int)= []from rfl]
  |(
  have hg:=aG s a
  have hg2:=aG s (aA s a).2.1
  have hwn:=aN (n:=n-(M.length:Int)) (by omega)
  have h2:¬((aA s a).1=0\/(aA s a).1>n-M.length):=by omega
  have h1:(aA s a).2.2=0:=by assumption
  have h3:(aA s (aA s a).2.1).2.2=0:=by assumption
  have h4:¬(0<M.length/\M[M.length-1]! =jP (aA s (aA s a).2.1).1):=by first|(intro q;omega)|(intro q;simp_all;done)
  rw[hM,qVK (by omega) h1 h2 h3 h4,hQ]
  (try rw[show u=(aA s a).1 by omega])
  (try rw[show(aA s a).1-u=(aA s a).1 by omega]))
 ·first
  |simp;omega
  |(
  have hg:=aG s a
  have hg2:=aG s (aA s a).2.1
  have hwn:=aN (n:=n-(M.length:Int)) (by omega)
  rw[hQ]
  simp only[List.length_append,List.length_replicate]
  omega))
  |(
 with_reducible refine Side.mk ⟨(⟨⟩:Tag 35),?_⟩
 dsimp only[cu,aC,aB,gts,eE,eN]
 refine⟨?_,?_⟩
 ·first
  |(
  have hg:=aG s a
  have hg2:=aG s (aA s a).2.1
  first
  |omega
  |(
   have hwu:=aN (n:=u+1) (by omega);omega))
 ·first
  |simp;done
  |(
  have hg:=aG s a
  have hg2:=aG s (aA s a).2.1
  have hwu:=aN (n:=u+1) (by omega)
  rw[hwu,YA (by omega),<-hQ]))
  |(
 with_reducible apply Side.mk
 (try dsimp only[cu,aC,aB,gts,loK,hiK,eE,eN])
 first
 |done
 |omega
 |exact Eq.refl _
 |(
  have hg:=aG s a;have hg2:=aG s (aA s a).2.1;first
  |omega
  |(
   have hwu:=aN (n:=u+1) (by omega);omega)
  |(
   have hwn:=aN (n:=n-(M.length:Int)) (by omega);have hQl:=congrArg List.length hQ;simp only[List.length_append,List.length_replicate,List.length_cons,List.length_nil]at hQl ⊢;omega)))
  |(conv=>whnf
    first
     |with_reducible first|done|exact trivial|refine NilBr.mk (fun h=>?_) ?_|apply aI|apply aH|refine aJ (by kernel_rfl) ?_|apply aK|apply bE|apply bD|apply aQ
     |((with_reducible first|apply aS|apply aR|apply bB)<;>intro h<;>(try dsimp only[cu,eE,eN]at h)<;>(try(exfalso;omega)))
     |(
 intro yy (hy:Tag 34/\_)
 obtain⟨(a:Int),(M:List Int),_⟩:=yy
 replace hy:=hy.2
 dsimp only[cu,aC,aB,gts,eE,eN]at hy
 obtain⟨hM,hl⟩:=hy)
     |(
 intro yy (hy:Tag 35/\_)
 obtain⟨(u:Int),(Q:List Int),_⟩:=yy
 replace hy:=hy.2
 dsimp only[cu,aC,aB,gts,eE,eN]at hy
 obtain⟨hu,hQ⟩:=hy)))
 all_goals(
 with_reducible apply Leaf.mk
 (try dsimp only[cu,aC,aB,gts,eE,eN]at *)
 first
 |(
  have q:n<0\/n>4096:=by omega
  rw[bV,if_pos q])
 |(
  have q:¬(n<0\/n>4096):=by omega
  rw[bV,if_neg q,hM];first
  |(
   have h1:¬(aA s a).2.2=0:=by assumption
   rw[qVG (by omega) h1])
  |(
   have hg:=aG s a;have hg2:=aG s (aA s a).2.1;have hwn:=aN (n:=n-(M.length:Int)) (by omega);first
   |(
    have h1:(aA s a).2.2=0:=by assumption
    have h2:(aA s a).1=0\/(aA s a).1>n-M.length:=by omega
    rw[qVH (by omega) h1 h2])
   |(
    have h2:¬((aA s a).1=0\/(aA s a).1>n-M.length):=by omega
    have h1:(aA s a).2.2=0:=by assumption
    first
    |(
     have h3:¬(aA s (aA s a).2.1).2.2=0:=by assumption
     rw[qVI (by omega) h1 h2 h3])
    |(
     have h3:(aA s (aA s a).2.1).2.2=0:=by assumption
     have h4:0<M.length/\M[M.length-1]! =jP (aA s (aA s a).2.1).1:=⟨by omega,by first|assumption|(simp_all;done)⟩
     rw[qVJ (by omega) h1 h2 h3 h4])))
  |(
   have ha:a<s.size:=by omega
   rw[qEH (by omega),if_pos ha])
  |(
   have ha:¬a<s.size:=by omega
   rw[qEH (by omega),if_neg ha])))
abbrev qbY:Tbl:=(190,DK)::qbX
theorem qHA:aD Tryz.prog qbY:=aD.cons qKP qG9
abbrev yX:Ct:=.fn [.str,.int .i64] (some (fun(s:ByteArray) (n:Int)=>(s.size<=288230376151711744))) (fun(s:ByteArray) (n:Int)=>.tup [.list (.int .i64),.int .i64] ((bV s n).1,(bV s n).2,()))
theorem qDK:aF Tryz.prog 197 yX:=by
 refine aF.fn qHA mixed [(0,5,3500006),(0,9,3500006),(0,15,3500006)] [] rfl rfl ?_;rintro⟨(s:ByteArray),(n:Int),_⟩ hpre;replace hpre:=hpre _ rfl;dsimp only[cu]at hpre;have hs:=hpre;refine⟨[(0,10,LA.mk [.sl 7 (.int .i64),.lst 6 (.int .i64) 2] (fun y=>Tag 36/\cu [.int .i64,.list (.int .i64)] (fun(a:Int) (M:List Int)=>(dGo s n 0 []=dGo s n a M)/\((M.length:Int)<=n)) y) (cu [.int .i64,.list (.int .i64)] (fun(a:Int) (M:List Int)=>(n-(M.length:Int)).toNat)) (cu [.int .i64,.list (.int .i64)] (fun(a:Int) (M:List Int)=>([(0,34,LA.mk [.sl 8 (.int .u64),.lst 6 (.int .i64) 2] (fun y=>Tag 37/\cu [.int .u64,.list (.int .i64)] (fun(u:Int) (Q:List Int)=>(0<=u/\u<=(aA s a).1)/\(Q=M++List.replicate ((aA s a).1-u).toNat (jP (aA s (aA s a).2.1).1))) y) (cu [.int .u64,.list (.int .i64)] (fun(u:Int) (Q:List Int)=>u.toNat)) (cu [.int .u64,.list (.int .i64)] (fun(u:Int) (Q:List Int)=>([]:List (Nat×Nat×LA)))))]:List (Nat×Nat×LA)))))],?_⟩;repeat' (first
  |(
 with_reducible refine Side.mk ⟨(⟨⟩:Tag 36),?_⟩
 dsimp only[cu,aC,aB,gts,eE,eN]
 refine⟨?_,?_⟩
 ·first
  |rfl
  |(
  have q0:(!cC n)=false:=by assumption
  have q1:=bL q0
  have hg:=aG s a
  have hg2:=aG s (aA s a).2.1
  have hwn:=aN (n:=n-(M.length:Int)) (by omega)
  have h2:¬((aA s a).1=0\/(aA s a).1>n-M.length):=by omega
  have h1:(aA s a).2.2=0:=by assumption
  have h3:(aA s (aA s a).2.1).2.2=0:=by assumption
  have h4:¬(0<M.length/\M[M.length-1]! =jP (aA s (aA s a).2.1).1):=by first|(intro q;omega)|(intro q;simp_all;done)
  rw[hM,qVK (by omega) h1 h2 h3 h4,hQ]
  (try rw[show u=(aA s a).1 by omega])
  (try rw[show(aA s a).1-u=(aA s a).1 by omega]))
 ·first
  |(
  have q0:(!cC n)=false:=by assumption
  have q1:=bL q0
  first
  |simp only[List.length_nil];omega
  |(
   have hg:=aG s a;have hg2:=aG s (aA s a).2.1;have hwn:=aN (n:=n-(M.length:Int)) (by omega);rw[hQ];simp only[List.length_append,List.length_replicate];omega)))
  |(
 with_reducible refine Side.mk ⟨(⟨⟩:Tag 37),?_⟩
 dsimp only[cu,aC,aB,gts,eE,eN]
 refine⟨?_,?_⟩
 ·first
  |(
  have hg:=aG s a
  have hg2:=aG s (aA s a).2.1
  first
  |omega
  |(
   have hwu:=aN (n:=u-1) (by omega);omega))
 ·first
  |simp;done
  |(
  have hg:=aG s a
  have hg2:=aG s (aA s a).2.1
  have hwu:=aN (n:=u-1) (by omega)
  rw[hwu,show(aA s a).1-(u-1)=(aA s a).1-u+1 by omega,YA (by omega),<-hQ]))
  |(
 with_reducible apply Side.mk
 (try dsimp only[cu,aC,aB,gts,loK,hiK,eE,eN])
 first
 |done
 |omega
 |exact Eq.refl _
 |(
  have q0:(!cC n)=false:=by assumption
  have q1:=bL q0;omega)
 |(
  have hg:=aG s a;have hg2:=aG s (aA s a).2.1;first
  |omega
  |(
   have hwu:=aN (n:=u-1) (by omega);omega))
 |(
  have q0:(!cC n)=false:=by assumption
  have q1:=bL q0;have hg:=aG s a;have hg2:=aG s (aA s a).2.1;have hwn:=aN (n:=n-(M.length:Int)) (by omega);have hQl:=congrArg List.length hQ;simp only[List.length_append,List.length_replicate,List.length_cons,List.length_nil]at hQl ⊢;omega))
  |(conv=>whnf
    first
     |with_reducible first|done|exact trivial|refine NilBr.mk (fun h=>?_) ?_|apply aI|apply aH|refine aJ (by kernel_rfl) ?_|apply aK|apply bE|apply bD|apply aQ
     |((with_reducible first|apply aS|apply aR|apply bB)<;>intro h<;>(try dsimp only[cu,eE,eN]at h)<;>(try(exfalso;omega)))
     |(
 intro yy (hy:Tag 36/\_)
 obtain⟨(a:Int),(M:List Int),_⟩:=yy
 replace hy:=hy.2
 dsimp only[cu,aC,aB,gts,eE,eN]at hy
 obtain⟨hM,hl⟩:=hy)
     |(
 intro yy (hy:Tag 37/\_)
 obtain⟨(u:Int),(Q:List Int),_⟩:=yy
 replace hy:=hy.2
 dsimp only[cu,aC,aB,gts,eE,eN]at hy
 obtain⟨hu,hQ⟩:=hy)))
 all_goals(
 with_reducible apply Leaf.mk
 (try dsimp only[cu,aC,aB,gts,eE,eN]at *)
 first
 |(
  have q0:(!cC n)=true:=by assumption
  rw[bV,if_pos (wC q0)])
 |(
  have q0:(!cC n)=false:=by assumption
  have q1:=bL q0;have q:¬(n<0\/n>4096):=by omega
  rw[bV,if_neg q,hM];first
  |(
   have h1:¬(aA s a).2.2=0:=by assumption
   rw[qVG (by omega) h1])
  |(
   have hg:=aG s a;have hg2:=aG s (aA s a).2.1;have hwn:=aN (n:=n-(M.length:Int)) (by omega);first
   |(
    have h1:(aA s a).2.2=0:=by assumption
    have h2:(aA s a).1=0\/(aA s a).1>n-M.length:=by omega
    rw[qVH (by omega) h1 h2])
   |(
    have h2:¬((aA s a).1=0\/(aA s a).1>n-M.length):=by omega
    have h1:(aA s a).2.2=0:=by assumption
    first
    |(
     have h3:¬(aA s (aA s a).2.1).2.2=0:=by assumption
     rw[qVI (by omega) h1 h2 h3])
    |(
     have h3:(aA s (aA s a).2.1).2.2=0:=by assumption
     have h4:0<M.length/\M[M.length-1]! =jP (aA s (aA s a).2.1).1:=⟨by omega,by first|assumption|(simp_all;done)⟩
     rw[qVJ (by omega) h1 h2 h3 h4])))
  |(
   have ha:a<s.size:=by omega
   rw[qEH (by omega),if_pos ha])
  |(
   have ha:¬a<s.size:=by omega
   rw[qEH (by omega),if_neg ha])))
abbrev qbZ:Tbl:=(197,yX)::qbY
theorem qHB:aD Tryz.prog qbZ:=aD.cons qDK qHA
end Go.Proofs.YtcjiefknhfhmkaaGreatDoor
