import Derived.Test.YtcjiefknhfhmkaaGreatDoorM06
namespace Go.Proofs.YtcjiefknhfhmkaaGreatDoor
open Go.Abs
set_option maxRecDepth 100000
set_option maxHeartbeats 4000000
set_option linter.unusedVariables false
set_option linter.unusedSimpArgs false
def sLe (a b:ByteArray):Bool:=dY a b||decide (a=b)
def EN (s:ByteArray) (a:Int):ByteArray:=s.extract (aA s a).2.1.toNat ((aA s a).2.1+(aA s a).1).toNat
def bZ (s:ByteArray):Nat->Int->List ByteArray->List ByteArray×Int×Int
 |0,a,M=>(M,a,0)
 |n+1,a,M=>if(aA s a).2.2≠0 then([],0,(aA s a).2.2)else if(aA s a).1>s.size-(aA s a).2.1 then([],0,10)
  else if 0<M.length/\sLe (EN s a) M[M.length-1]! =true then([],0,2)else bZ s n ((aA s a).2.1+(aA s a).1) (M++ [EN s a])
termination_by n _ _=>n
theorem qP5 {s:ByteArray} {n a:Int} {M:List ByteArray} (h:(M.length:Int)<n) (h1:¬(aA s a).2.2=0):bZ s (n-M.length).toNat a M=([],0,(aA s a).2.2):=by
 rw[show(n-M.length).toNat=(n-M.length-1).toNat+1 by omega,bZ,if_pos h1]
theorem qBU {s:ByteArray} {n a:Int} {M:List ByteArray} (h:(M.length:Int)<n) (h1:(aA s a).2.2=0) (h2:(aA s a).1>s.size-(aA s a).2.1):bZ s (n-M.length).toNat a M=([],0,10):=by
 rw[show(n-M.length).toNat=(n-M.length-1).toNat+1 by omega,bZ,if_neg (fun q=>q h1),if_pos h2]
theorem qJ7 {s:ByteArray} {n a:Int} {M:List ByteArray} (h:(M.length:Int)<n) (h1:(aA s a).2.2=0) (h2:¬(aA s a).1>s.size-(aA s a).2.1) (h3:0<M.length/\sLe (EN s a) M[M.length-1]! =true):bZ s (n-M.length).toNat a M=([],0,2):=by
 rw[show(n-M.length).toNat=(n-M.length-1).toNat+1 by omega,bZ,if_neg (fun q=>q h1),if_neg h2,if_pos h3]
theorem qJ8 {s:ByteArray} {n a:Int} {M:List ByteArray} (h:(M.length:Int)<n) (h1:(aA s a).2.2=0) (h2:¬(aA s a).1>s.size-(aA s a).2.1) (h3:¬(0<M.length/\sLe (EN s a) M[M.length-1]! =true)) :
  bZ s (n-M.length).toNat a M=bZ s (n-(M++ [EN s a]).length).toNat ((aA s a).2.1+(aA s a).1) (M++ [EN s a]):=by
 rw[show(n-M.length).toNat=(n-(M++ [EN s a]).length).toNat+1 by simp;omega,bZ,if_neg (fun q=>q h1),if_neg h2,if_neg h3]
theorem qP4 {s:ByteArray} {n a:Int} {M:List ByteArray} (h:¬(M.length:Int)<n):bZ s (n-M.length).toNat a M=(M,a,0):=by
 rw[show(n-M.length).toNat=0 by omega,bZ]
theorem bR {s:ByteArray} {a:Int} (h:(aA s a).2.2=0):0<=a/\a<(aA s a).2.1/\(aA s a).2.1<=s.size:=by
 have e:aA s a=((aA s a).1,(aA s a).2.1,0):=by
  rw[<-h]
 obtain⟨h1,h2,h3,h4,h5,h6,_⟩:=qAF e;have:=bM (aA s a).1;exact⟨h1,by omega,h6⟩
theorem qG4 {s:ByteArray}:∀(n:Nat) (a:Int) (M:List ByteArray),(bZ s n a M).2.2=0->(bZ s n a M).1.length=M.length+n/\((0<=a/\a<=s.size)->0<=(bZ s n a M).2.1/\(bZ s n a M).2.1<=s.size)
 |0,a,M,_=>by rw[bZ];exact⟨rfl,fun h=>h⟩
 |n+1,a,M,h=>by
  rw[bZ]at h ⊢;split at h
  ·rename_i h1;exact absurd h h1
  ·rename_i h1
   rw[if_neg h1];split at h
   ·exact absurd h (by decide)
   ·rename_i h2
    rw[if_neg h2];split at h
    ·exact absurd h (by decide)
    ·rename_i h3
     rw[if_neg h3];have hg:=bR (Decidable.not_not.1 h1);have hr:=bB s a;obtain⟨g1,g2⟩:=qG4 n _ _ h;exact⟨by rw[g1];simp;omega,fun _=>g2 ⟨by omega,by omega⟩⟩
abbrev HE:Ct:=.fn [.str,.int .i64,.int .i64] (some (fun(s:ByteArray) (a0:Int) (n:Int)=>(s.size<=4611686018427387904)/\(0<=n/\n<=1000000))) (fun(s:ByteArray) (a0:Int) (n:Int)=>.tup [.list .str,.int .i64,.int .i64] ((bZ s n.toNat a0 []).1,(bZ s n.toNat a0 []).2.1,(bZ s n.toNat a0 []).2.2,()))
theorem qP9:aH Tryz.prog 210 HE:=by
 refine aH.fn qEH mixed [(0,6,5)] [] rfl rfl ?_;rintro⟨(s:ByteArray),(a0:Int),(n:Int),_⟩ hpre;replace hpre:=hpre _ rfl;dsimp only[cu]at hpre;obtain⟨hs,hn⟩:=hpre;refine⟨[(0,4,LA.mk [.sl 1 (.int .i64),.lst 9 .str 9] (fun y=>Tag 8/\cu [.int .i64,.list .str] (fun(a:Int) (M:List ByteArray)=>(bZ s n.toNat a0 []=bZ s (n-M.length).toNat a M)/\((M.length:Int)<=n)) y) (cu [.int .i64,.list .str] (fun(a:Int) (M:List ByteArray)=>(n-(M.length:Int)).toNat)) (cu [.int .i64,.list .str] (fun(a:Int) (M:List ByteArray)=>([]:List (Nat×Nat×LA)))))],?_⟩;repeat' (first
  |(
 with_reducible refine Side.mk ⟨(⟨⟩:Tag 8),?_⟩
 dsimp only[cu,aC,aB,gts,eE,eN]
 refine⟨?_,?_⟩
 ·first
  |rw[List.length_nil];simp;done
  |(
  rw[hM]
  exact qJ8 (by omega) (by assumption) (by assumption) (fun q=>by simp_all [sLe,EN]))
 ·first
  |simp only[List.length_nil];omega
  |(simp only[List.length_append,List.length_cons,List.length_nil];omega))
  |(
 with_reducible apply Side.mk
 (try dsimp only[cu,aC,aB,gts,loK,hiK,eE,eN])
 first
 |done
 |omega
 |exact Eq.refl _
 |simp only[List.length_append,List.length_cons,List.length_nil];omega
 |(
  have hr:=bB s a;have hg:=bR (s:=s) (a:=a) (by assumption);omega))
  |(conv=>whnf
    first
     |with_reducible first|done|exact trivial|refine NilBr.mk (fun h=>?_) ?_|apply aJ|apply aI|refine aK (by kernel_rfl) ?_|apply aL|apply bG|apply bF|apply aR
     |((with_reducible first|apply aT|apply aS|apply bD)<;>intro h<;>(try dsimp only[cu,eE,eN]at h)<;>(try(exfalso;omega)))
     |(
 intro yy (hy:Tag 8/\_)
 obtain⟨(a:Int),(M:List ByteArray),_⟩:=yy
 replace hy:=hy.2
 dsimp only[cu,aC,aB,gts,eE,eN]at hy
 obtain⟨hM,hl⟩:=hy)))
 all_goals(
 with_reducible apply Leaf.mk
 (try dsimp only[cu,aC,aB,gts,eE,eN]at *)
 first
 |rw[hM,qP5 (by omega) (by assumption)]
 |rw[hM,qBU (by omega) (by assumption) (by assumption)]
 |rw[hM,qJ7 (by omega) (by assumption) (by assumption) ⟨by omega,by simp_all [sLe,EN]⟩]
 |(rw[hM,qP4 (by assumption)]))
abbrev qY7:Tbl:=(210,HE)::qY6
theorem qEI:aD Tryz.prog qY7:=aD.cons qP9 qEH
def wdN (n:Int):Int:=gS (cM (n-1) 0)
def sR (s:ByteArray) (ws:List ByteArray):ByteArray:=ws.foldl (fun s w=>s++(aV (put (w.size:Int))++w)) s
theorem ZT {s:ByteArray} {W:List ByteArray} {k:Int} (h:0<=k/\k<W.length):sR s (W.take (k+1).toNat)=sR s (W.take k.toNat)++(aV (put (W[k.toNat]!.size:Int))++W[k.toNat]!):=by
 rw[show(k+1).toNat=k.toNat+1 by omega,List.take_succ_eq_append_getElem (by omega)];unfold sR;rw[List.foldl_append,getElem!_pos W k.toNat (by omega)];rfl
theorem HV {B:Nat}:∀(W:List ByteArray) (s:ByteArray),(∀w,w∈W->w.size<=B)->(sR s W).size<=s.size+W.length*(B+10)
 | [],s,_=>by simp [sR]
 |w::W,s,h=>by
  have ih:=HV W (s++(aV (put (w.size:Int))++w)) (fun v hv=>h v (by simp [hv]));have h1:=h w (by simp);have h2:=bM (w.size:Int);have e:(s++(aV (put (w.size:Int))++w)).size=s.size+((put (w.size:Int)).length+w.size):=by simp only[ByteArray.size_append,cC]
  rw[e]at ih;show(sR (s++(aV (put (w.size:Int))++w)) W).size<=_;simp only[List.length_cons,Nat.add_mul];omega
def kZ (l:List ByteArray):ByteArray:=if l.length>4096 then⟨#[]⟩else sR (aV (put ((bJ l).length:Int))) (bJ l)++(eQ (dF l) (wdN (bJ l).length)).1
theorem EF {l:List ByteArray} {B:Nat} (h:∀w,w∈l->w.size<=B):∀w,w∈bJ l->w.size<=B:=fun w hw=>h w ((kN l w).1 hw)
theorem xC {l:List ByteArray} {v:Int} {k:Nat} (h:∀w,w∈l->w.size<=1073741824) (hl:l.length<=4096):(sR (aV (put v)) ((bJ l).take k)).size<=4398046552074:=by
 have h1:=HV (B:=1073741824) ((bJ l).take k) (aV (put v)) (fun w hw=>EF h w (List.mem_of_mem_take hw));have h2:=bM v;have h3:=iD l;rw[cC]at h1;have h4:((bJ l).take k).length<=4096:=by simp;omega
 have h5:((bJ l).take k).length*(1073741824+10)<=4096*(1073741824+10):=Nat.mul_le_mul_right _ h4;omega
theorem ZD (l:List ByteArray):∀c,c∈dF l->0<=c/\c<=(bJ l).length:=by
 intro c hc;obtain⟨s,_,rfl⟩:=List.mem_map.1 hc;have:=IT (bJ l) s;omega
theorem MT (l:List ByteArray) (k:Nat):0<=(dF l)[k]! /\(dF l)[k]! <=l.length:=by
 by_cases h:k<(dF l).length
 ·have:=ZD l (dF l)[k]! (by rw[getElem!_pos _ k h];exact List.getElem_mem h)
  have:=iD l;omega
 ·rw[getElem!_neg _ k h];exact⟨Int.le_refl _,by show(0:Int)<=_;omega⟩
theorem qH4 {l:List ByteArray} {k:Int} (h:0<=k/\k<l.length):(dF l)[k.toNat]! =(plS (bJ l) l[k.toNat]!:Int):=by
 rw[getElem!_pos (dF l) k.toNat (by rw[kI];omega),getElem!_pos l k.toNat (by omega)];simp [dF]
theorem ZE {l:List ByteArray} {k:Int} (h:0<=k/\k<l.length):(dF l).take (k+1).toNat=(dF l).take k.toNat++ [(plS (bJ l) l[k.toNat]!:Int)]:=by
 rw[show(k+1).toNat=k.toNat+1 by omega,List.take_succ_eq_append_getElem (by rw[kI];omega),<-qH4 h,getElem!_pos (dF l) k.toNat (by rw[kI];omega)]
theorem qBV {l:List ByteArray} {k:Int} (h:0<=k/\k<l.length):(l.take (k+1).toNat).foldl kU []=kU ((l.take k.toNat).foldl kU []) l[k.toNat]!:=by
 rw[show(k+1).toNat=k.toNat+1 by omega,List.take_succ_eq_append_getElem (by omega),List.foldl_append,getElem!_pos l k.toNat (by omega)];rfl
theorem JO (l:List ByteArray) (k:Nat):((l.take k).foldl kU []).length<=l.length:=by
 have:=iD (l.take k);unfold bJ at this;simp at this;omega
theorem qR2 {M:List ByteArray} {s:ByteArray} (h:¬((plS M s:Int)=M.length)) (h2:M[(plS M s:Int).toNat]! =s):kU M s=M:=by
 rw[Int.toNat_natCast]at h2;unfold kU;rw[if_neg];rintro(q|q)
 ·exact h (by omega)
 ·exact q h2
theorem qM5 {M:List ByteArray} {s:ByteArray} (h:(plS M s:Int)=M.length\/¬M[(plS M s:Int).toNat]! =s):kU M s=M.take (plS M s)++ [s]++M.drop (plS M s):=by
 rw[Int.toNat_natCast]at h;unfold kU;rw[if_pos];rcases h with q|q
 ·exact .inl (by omega)
 ·exact .inr q
theorem qI2 (w:Int) (h:0<=w/\w<=64):(eQ [] w).1=⟨#[]⟩:=by
 have e:(dP ((([]:List Int).length:Nat):Int) w).toNat=0:=by
  obtain⟨h1,_⟩:=kE (n:=((([]:List Int).length:Nat):Int)) (w:=w) ⟨⟨by simp,by simp⟩,h⟩;rw[h1];simp
 unfold eQ;rw[if_neg (by omega),if_neg (by simp),if_neg (by simp [pP]),e];rfl
theorem qG5 (n:Int) (h:n<=9223372036854775807):0<=wdN n/\wdN n<=64:=by
 unfold wdN;have hm:cM (n-1) 0<18446744073709551616:=by unfold cM;split<;>omega
 exact vD hm
abbrev GJ:Ct:=.fn [.list .str,.str] (some (fun(l:List ByteArray) (s:ByteArray)=>(l.length<=4611686018427387904))) (fun(l:List ByteArray) (s:ByteArray)=>.d (.int .i64) (plS l s:Int))
theorem qN3:aH Tryz.prog 208 GJ:=by
 refine aH.fn qEI mixed [] [] rfl rfl ?_;rintro⟨(l:List ByteArray),(s:ByteArray),_⟩ hpre;replace hpre:=hpre _ rfl;dsimp only[cu]at hpre;have hl:=hpre;refine⟨[(0,4,LA.mk [.sl 5 (.int .i64)] (fun y=>Tag 9/\cu [.int .i64] (fun(i:Int)=>(0<=i/\i<=l.length)/\(∀t:Nat,(t:Int)<i->dY l[t]! s=true)) y) (cu [.int .i64] (fun(i:Int)=>((l.length:Int)-i).toNat)) (cu [.int .i64] (fun(i:Int)=>([]:List (Nat×Nat×LA)))))],?_⟩;repeat' (first
  |(
 with_reducible refine Side.mk ⟨(⟨⟩:Tag 9),?_⟩
 dsimp only[cu,aC,aB,gts,eE,eN]
 refine⟨?_,?_⟩
 ·omega
 ·first
  |intro t ht;omega
  |(
  intro t ht
  rcases Int.lt_or_le (t:Int) i with q|q
  ·exact hp t q
  ·rw[show t=i.toNat by omega];assumption))
  |(
 with_reducible apply Side.mk
 (try dsimp only[cu,aC,aB,gts,loK,hiK,eE,eN])
 omega)
  |(conv=>whnf
    first
     |with_reducible first|done|exact trivial|refine NilBr.mk (fun h=>?_) ?_|apply aJ|apply aI|refine aK (by kernel_rfl) ?_|apply aL|apply bG|apply bF|apply aR
     |((with_reducible first|apply aT|apply aS|apply bD)<;>intro h<;>(try dsimp only[cu,eE,eN]at h)<;>(try(exfalso;omega)))
     |(
 intro yy (hy:Tag 9/\_)
 obtain⟨(i:Int),_⟩:=yy
 replace hy:=hy.2
 dsimp only[cu,aC,aB,gts,eE,eN]at hy
 obtain⟨hi,hp⟩:=hy)))
 all_goals(
 with_reducible apply Leaf.mk
 (try dsimp only[cu,aC,aB,gts,eE,eN]at *)
 first
 |(
  have e:i.toNat=l.length:=by omega
  have e2:=xJ (k:=i.toNat) (fun t ht=>hp t (by omega)) (by omega) (.inl e);show(i:Int)=(plS l s:Int)
  omega)
 |(
  have e:¬dY l[i.toNat]! s=true:=by first|assumption|(simp_all;done)
  have e2:=xJ (k:=i.toNat) (fun t ht=>hp t (by omega)) (by omega) (.inr e);show(i:Int)=(plS l s:Int)
  omega))
abbrev qY8:Tbl:=(208,GJ)::qY7
theorem qEJ:aD Tryz.prog qY8:=aD.cons qN3 qEI
abbrev CW:Ct:=.fn [.list .str] (some (fun(l:List ByteArray)=>(l.length<=1073741824))) (fun(l:List ByteArray)=>.tup [.list .str,.list (.int .i64)] (bJ l,dF l,()))
theorem qI5:aH Tryz.prog 182 CW:=by
 refine aH.fn qEJ mixed [] [] rfl rfl ?_;rintro⟨(l:List ByteArray),_⟩ hpre;replace hpre:=hpre _ rfl;dsimp only[cu]at hpre;have hl:=hpre;refine⟨[(0,6,LA.mk [.sl 14 (.int .i64),.lst 4 .str 9] (fun y=>Tag 10/\cu [.int .i64,.list .str] (fun(k:Int) (M:List ByteArray)=>(0<=k/\k<=l.length)/\(M=(l.take k.toNat).foldl kU [])) y) (cu [.int .i64,.list .str] (fun(k:Int) (M:List ByteArray)=>((l.length:Int)-k).toNat)) (cu [.int .i64,.list .str] (fun(k:Int) (M:List ByteArray)=>([]:List (Nat×Nat×LA))))),(0,26,LA.mk [.sl 49 (.int .i64),.lst 9 (.int .i64) 3] (fun y=>Tag 11/\cu [.int .i64,.list (.int .i64)] (fun(k:Int) (C:List Int)=>(0<=k/\k<=l.length)/\(C=(dF l).take k.toNat)) y) (cu [.int .i64,.list (.int .i64)] (fun(k:Int) (C:List Int)=>((l.length:Int)-k).toNat)) (cu [.int .i64,.list (.int .i64)] (fun(k:Int) (C:List Int)=>([]:List (Nat×Nat×LA)))))],?_⟩;repeat' (first
  |(
 with_reducible refine Side.mk ⟨(⟨⟩:Tag 10),?_⟩
 dsimp only[cu,aC,aB,gts,eE,eN]
 refine⟨?_,?_⟩
 ·omega
 ·first
  |rfl
  |(
  have e:=qBV (l:=l) (k:=k) (by omega)
  rw[<-hM]at e
  first
  |(
   have e1:¬((plS M l[k.toNat]!:Int)=M.length):=by first|omega|(simp_all;done)
   have e2:M[(plS M l[k.toNat]!:Int).toNat]! =l[k.toNat]!:=by simp_all;done
   rw[e,qR2 e1 e2])
  |(
   have e1:(plS M l[k.toNat]!:Int)=M.length\/¬M[(plS M l[k.toNat]!:Int).toNat]! =l[k.toNat]!:=by first|(left;omega)|(right;assumption)|(right;simp_all;done)
   rw[e,qM5 e1];have h0:=IT M l[k.toNat]!;clear hM e e1;simp only[RW,List.nil_append,Int.toNat_natCast,List.append_nil,List.drop_zero];have e4:((M.length:Int)-(plS M l[k.toNat]!:Int)).toNat=M.length-plS M l[k.toNat]!:=by omega
   (try rw[e4]);first|(have e5:plS M l[k.toNat]! =M.length:=(by omega);rw[e5];simp;done)|(have e5:plS M l[k.toNat]! =0:=(by omega);rw[e5];simp;done)|(have e5:(M.drop (plS M l[k.toNat]!)).take (M.length-plS M l[k.toNat]!)=M.drop (plS M l[k.toNat]!):=List.take_of_length_le (by simp);rw[e5])|grind)))
  |(
 with_reducible refine Side.mk ⟨(⟨⟩:Tag 11),?_⟩
 dsimp only[cu,aC,aB,gts,eE,eN]
 refine⟨?_,?_⟩
 ·omega
 ·first
  |rfl
  |(rw[ZE (by omega),<-hC,show bJ l=M by(unfold bJ;rw[hM,List.take_of_length_le (by omega)])]))
  |(
 with_reducible apply Side.mk
 (try dsimp only[cu,aC,aB,gts,loK,hiK,eE,eN])
 first
 |done
 |omega
 |exact Eq.refl _
 |simp only[List.length_append,List.length_cons,List.length_nil];omega
 |(
  have hw:=JO l k.toNat;(try rw[<-hM]at hw);omega)
 |(
  rw[hM,List.take_of_length_le (by omega)];show(bJ l).length<=4611686018427387904;have:=iD l;omega)
 |(
  have hw:=JO l k.toNat;(try rw[<-hM]at hw);first
  |(
   have h0:=IT M l[k.toNat]!;(try simp only[List.length_append,List.length_take,List.length_drop,List.length_cons,List.length_nil,RW]);omega)
  |(
   have hcl:=congrArg List.length hC;simp only[List.length_take,List.length_cons,List.length_nil]at hcl ⊢;omega)))
  |(conv=>whnf
    first
     |with_reducible first|done|exact trivial|refine NilBr.mk (fun h=>?_) ?_|apply aJ|apply aI|refine aK (by kernel_rfl) ?_|apply aL|apply bG|apply bF|apply aR
     |((with_reducible first|apply aT|apply aS|apply bD)<;>intro h<;>(try dsimp only[cu,eE,eN]at h)<;>(try(exfalso;omega)))
     |(
 intro yy (hy:Tag 10/\_)
 obtain⟨(k:Int),(M:List ByteArray),_⟩:=yy
 replace hy:=hy.2
 dsimp only[cu,aC,aB,gts,eE,eN]at hy
 obtain⟨hk,hM⟩:=hy)
     |(
 intro yy (hy:Tag 11/\_)
 obtain⟨(k:Int),(C:List Int),_⟩:=yy
 replace hy:=hy.2
 dsimp only[cu,aC,aB,gts,eE,eN]at hy
 obtain⟨hk,hC⟩:=hy)))
 all_goals(
 with_reducible apply Leaf.mk
 (try dsimp only[cu,aC,aB,gts,eE,eN]at *)
 first
 |(
  unfold bJ;rw[hM,List.take_of_length_le (by omega)])
 |(rw[hC,List.take_of_length_le (by rw[kI];omega)]))
abbrev qY9:Tbl:=(182,CW)::qY8
theorem qEK:aD Tryz.prog qY9:=aD.cons qI5 qEJ
theorem qTN {l:List ByteArray} {B:Nat} (h:∀w,w∈l->w.size<=B) (k:Nat):l[k]!.size<=B:=by
 by_cases q:k<l.length
 ·exact h _ (by rw[getElem!_pos l k q];exact List.getElem_mem q)
 ·rw[getElem!_neg l k q];exact Nat.zero_le _
theorem YM {l:List ByteArray} (h:∀w,w∈l->w.size<=1073741824) (k:Nat):(bJ l)[k]!.size<=1073741824:=qTN (EF h) k
theorem qMF {l:List ByteArray} (h:bJ l= []):(eQ (dF l) (wdN (bJ l).length)).1=⟨#[]⟩:=by
 have hl:l= []:=by
  cases l with
  |nil=>rfl
  |cons a l=>
   have:=(kN (a::l) a).2 (by simp);rw[h]at this;simp at this
 subst hl;exact qI2 _ (qG5 _ (by simp [bJ]))
theorem JX (s:ByteArray):s++⟨#[]⟩=s:=by
 show s++ByteArray.empty=s;simp
theorem iI (s:ByteArray):aV (aE s)=s:=by
 apply fG;exact aU (fun b hb=>sJ hb)
theorem oW (l:List Int) (w:Int):(eQ l w).1.size<=32768:=by
 unfold eQ;split
 ·exact Nat.zero_le _
 split
 ·exact Nat.zero_le _
 split
 ·exact Nat.zero_le _
 ·rw[cC,iW]
  obtain⟨h1,h2⟩:=kE (n:=(l.length:Int)) (w:=w) ⟨⟨by omega,by omega⟩,by omega⟩;rw[h1];omega
abbrev CR:Ct:=.fn [.int .i64] (some (fun(n:Int)=>(0<=n/\n<=4611686018427387904))) (fun(n:Int)=>.d (.int .i64) (wdN n))
theorem qIG:aH Tryz.prog 181 CR:=by
 refine aH.fn qEK mixed [] [] rfl rfl ?_;rintro⟨(n:Int),_⟩ hpre;replace hpre:=hpre _ rfl;dsimp only[cu]at hpre;have hn:=hpre;refine⟨[],?_⟩;repeat' (first
  |(
 with_reducible apply Side.mk
 (try dsimp only[cu,aC,aB,gts,loK,hiK,eE,eN])
 first
 |omega
 |(
  have:cM (n-1) 0<=4611686018427387904/\0<=cM (n-1) 0:=by unfold cM;split<;>omega
  rw[aY (by omega)];omega))
  |(conv=>whnf
    first
     |with_reducible first|done|exact trivial|refine NilBr.mk (fun h=>?_) ?_|apply aJ|apply aI|refine aK (by kernel_rfl) ?_|apply aL|apply bG|apply bF|apply aR
     |((with_reducible first|apply aT|apply aS|apply bD)<;>intro h<;>(try dsimp only[cu,eE,eN]at h)<;>(try(exfalso;omega)))))
 all_goals(
 with_reducible apply Leaf.mk
 (try dsimp only[cu,aC,aB,gts,eE,eN]at *)
 (
  have:cM (n-1) 0<=4611686018427387904/\0<=cM (n-1) 0:=by unfold cM;split<;>omega
  rw[aY (by omega)];rfl))
abbrev qZB:Tbl:=(181,CR)::qY9
theorem qEL:aD Tryz.prog qZB:=aD.cons qIG qEK
abbrev yJ:Ct:=.fn [.list .str] (some (fun(l:List ByteArray)=>(∀w,w∈l->w.size<=1073741824)/\(l.length<=1073741824))) (fun(l:List ByteArray)=>.d .str (kZ l))
theorem qBA:aH Tryz.prog 157 yJ:=by
 refine aH.fn qEL mixed [] [] rfl rfl ?_;rintro⟨(l:List ByteArray),_⟩ hpre;replace hpre:=hpre _ rfl;dsimp only[cu]at hpre;obtain⟨hb,hl⟩:=hpre;refine⟨[(0,12,LA.mk [.sl 27 (.int .i64),.sl 5 .str] (fun y=>Tag 12/\cu [.int .i64,.str] (fun(k:Int) (x:ByteArray)=>(0<=k/\k<=(bJ l).length)/\(x=sR (aV (put ((bJ l).length:Int))) ((bJ l).take k.toNat))) y) (cu [.int .i64,.str] (fun(k:Int) (x:ByteArray)=>(((bJ l).length:Int)-k).toNat)) (cu [.int .i64,.str] (fun(k:Int) (x:ByteArray)=>([]:List (Nat×Nat×LA))))),(0,28,LA.mk [.sl 46 (.int .i64),.lst 8 (.int .u64) 86] (fun y=>Tag 13/\cu [.int .i64,.list (.int .u64)] (fun(k:Int) (C:List Int)=>(0<=k/\k<=(dF l).length)/\(C=(dF l).take k.toNat)) y) (cu [.int .i64,.list (.int .u64)] (fun(k:Int) (C:List Int)=>(((dF l).length:Int)-k).toNat)) (cu [.int .i64,.list (.int .u64)] (fun(k:Int) (C:List Int)=>([]:List (Nat×Nat×LA)))))],?_⟩;repeat' (first
  |(
 with_reducible refine Side.mk ⟨(⟨⟩:Tag 12),?_⟩
 dsimp only[cu,aC,aB,gts,eE,eN]
 refine⟨?_,?_⟩
 ·omega
 ·first
  |rw[aY (by have:=iD l;omega)];rfl
  |(
  have hw:=iD l
  have hsz:=YM hb k.toNat
  rw[ZT (by omega),hM,aY (by omega)]))
  |(
 with_reducible refine Side.mk ⟨(⟨⟩:Tag 13),?_⟩
 dsimp only[cu,aC,aB,gts,eE,eN]
 refine⟨?_,?_⟩
 ·omega
 ·first
  |rfl
  |(
  have hc:=MT l k.toNat
  rw[show(k+1).toNat=k.toNat+1 by omega,hC,aY (by omega),List.take_succ_eq_append_getElem (by omega),getElem!_pos _ k.toNat (by omega)]))
  |(
 with_reducible apply Side.mk
 (try dsimp only[cu,aC,aB,gts,loK,hiK,eE,eN])
 first
 |done
 |omega
 |exact Eq.refl _
 |(
  have:=iD l;omega)
 |exact nB _
 |(
  have hcl:=congrArg List.length hC;simp only[List.length_take,List.length_cons,List.length_nil]at hcl ⊢;have:=kI l;omega)
 |(
  have e:C=dF l:=by rw[hC,List.take_of_length_le (by omega)]
  subst e;refine⟨fun i=>?_,by rw[kI];omega⟩;have:=MT l i;omega)
 |(
  have hm:=congrArg ByteArray.size hM;first
  |(
   have ht:=xC (v:=((bJ l).length:Int)) (k:=k.toNat) hb (by omega);have hp:=bM (IntKind.u64.wrap ((bJ l)[k.toNat]!.size:Int));have hsz:=YM hb k.toNat;simp only[ByteArray.size_append,cC];omega)
  |(
   rw[List.take_of_length_le (by omega)]at hm;have ht:=xC (v:=((bJ l).length:Int)) (k:=(bJ l).length) hb (by omega);rw[List.take_of_length_le (by omega)]at ht;have hpk:=oW C (gS (IntKind.u64.wrap ((bJ l).length-1)));omega)))
  |(conv=>whnf
    first
     |with_reducible first|done|exact trivial|refine NilBr.mk (fun h=>?_) ?_|apply aJ|apply aI|refine aK (by kernel_rfl) ?_|apply aL|apply bG|apply bF|apply aR
     |((with_reducible first|apply aT|apply aS|apply bD)<;>intro h<;>(try dsimp only[cu,eE,eN]at h)<;>(try(exfalso;omega)))
     |(
 intro yy (hy:Tag 12/\_)
 obtain⟨(k:Int),(x:ByteArray),_⟩:=yy
 replace hy:=hy.2
 dsimp only[cu,aC,aB,gts,eE,eN]at hy
 obtain⟨hk,hM⟩:=hy)
     |(
 intro yy (hy:Tag 13/\_)
 obtain⟨(k:Int),(C:List Int),_⟩:=yy
 replace hy:=hy.2
 dsimp only[cu,aC,aB,gts,eE,eN]at hy
 obtain⟨hk,hC⟩:=hy)))
 all_goals(
 with_reducible apply Leaf.mk
 (try dsimp only[cu,aC,aB,gts,eE,eN]at *)
 first
 |(
  have e0:l.length>4096:=by omega
  rw[kZ,if_pos e0])
 |rw[kZ,if_neg (by omega),hM,qMF (List.length_eq_zero_iff.1 (by omega)),JX,List.take_of_length_le (by omega)]
 |(
  rw[kZ,if_neg (by omega),hM,List.take_of_length_le (by omega),hC,List.take_of_length_le (by omega),aY (by have:=iD l;omega)];rw[wdN,show cM ((bJ l).length-1) 0=(bJ l).length-1 by(unfold cM;split<;>omega)]))
abbrev qZC:Tbl:=(157,yJ)::qZB
theorem qEM:aD Tryz.prog qZC:=aD.cons qBA qEL
theorem mP (l:List Int) (j:Nat):@getElem! (List Int) Nat Int _ _ (instInhabitedDen (.int .u64)) l j=l[j]!:=rfl
def BO:List Bool->Bool->Int->Int
 | [],_,_=>-1
 |b::r,v,k=>if v=b then k else BO r v (k+1)
theorem NL {l:List Bool} {v:Bool} {k:Int} (h:0<=k/\k<l.length):BO (l.drop k.toNat) v k=if v=l[k.toNat]! then k else BO (l.drop (k+1).toNat) v (k+1):=by
 rw[bN l k h,BO]
theorem qM7 {l:List Bool} {v:Bool} {k:Int} (h:¬k<l.length):BO (l.drop k.toNat) v k = -1:=by
 rw[List.drop_eq_nil_of_le (by omega)];rfl
def UO (l:List Bool) (v:Bool):Bool:=decide (BO l v 0>=0)
def nT (k:Nat) (u:List Int):List Bool:=(List.range k).map fun j:Nat=>u.any fun c=>decide (c=(j:Int))
theorem OZ (k:Nat) (u:List Int):(nT k u).length=k:=by simp [nT]
theorem qJ4 (k:Nat):nT k []=List.replicate k false:=by
 apply List.ext_getElem<;>simp [nT]
theorem qBQ {k:Nat} {u:List Int} {i:Int} (h:0<=i/\i<u.length) (hc:0<=u[i.toNat]! /\u[i.toNat]! <k):(nT k (u.take i.toNat)).set u[i.toNat]!.toNat true=nT k (u.take (i+1).toNat):=by
 rw[show(i+1).toNat=i.toNat+1 by omega,List.take_succ_eq_append_getElem (by omega),<-getElem!_pos u i.toNat (by omega)];apply List.ext_getElem
 ·simp [nT]
 ·intro j h1 h2
  rw[List.getElem_set];simp only[nT,List.getElem_map,List.getElem_range,List.any_append];by_cases q:u[i.toNat]!.toNat=j
  ·rw[if_pos q]
   have:u[i.toNat]! =(j:Int):=by omega
   simp only[List.any_cons,List.any_nil,Bool.or_false,decide_eq_true this,Bool.or_true]
  ·rw[if_neg q]
   have:¬u[i.toNat]! =(j:Int):=by omega
   simp only[List.any_cons,List.any_nil,Bool.or_false,decide_eq_false this]
def QF (W:List ByteArray) (u:List Int):List ByteArray×Int:=if(u.any fun c=>decide (c>=(W.length:Int)))=true then([],2)else if UO (nT W.length u) false=true then([],2)else(u.map fun c=>W[c.toNat]!,0)
def ZN (W:List ByteArray) (p:List Int×Int):List ByteArray×Int:=if ¬p.2=0 then([],p.2)else QF W p.1
def ZM (s:ByteArray) (n:Int) (r:List ByteArray×Int×Int):List ByteArray×Int:=if ¬r.2.2=0 then([],r.2.2)else ZN r.1 (bK (s.extract r.2.1.toNat s.size) n (wdN r.1.length))
def cR (s:ByteArray) (n:Int):List ByteArray×Int:=
 if n<0\/n>4096 then([],4)else if ¬(aA s 0).2.2=0 then([],(aA s 0).2.2)
 else if(aA s 0).1>n\/((aA s 0).1=0/\n>0)then([],2)else ZM s n (bZ s (aA s 0).1.toNat (aA s 0).2.1 [])
theorem jE {s:ByteArray} {n w:Int} (h:(bK s n w).2=0):(bK s n w).1.length=n.toNat:=by
 unfold bK at h ⊢;split at h
 ·exact absurd h (by decide)
 ·rename_i h1
  rw[if_neg h1];split at h
  ·exact absurd h (by decide)
  ·rename_i h2
   rw[if_neg h2];split at h
   ·exact absurd h (by decide)
   ·rename_i h3
    rw[if_neg h3];split at h
    ·exact absurd h (by decide)
    ·rename_i h4
     rw[if_neg h4,iW]
theorem qG (s:ByteArray) (n w:Int):∀i:Nat,0<=(bK s n w).1[i]!:=by
 intro i;have nil:∀l:List Int,l= []->0<=l[i]!:=fun l h=>by subst h;exact Int.le_refl _
 unfold bK;split
 ·exact nil _ rfl
 split
 ·exact nil _ rfl
 split
 ·exact nil _ rfl
 split
 ·exact nil _ rfl
 ·by_cases h:i<n.toNat
  ·rw[QS h];exact(NF (xK s) _ _ _ _).1
  ·rw[getElem!_neg _ _ (by rw[iW];exact h)];exact Int.le_refl _
theorem qK3 {u:List Int} {i:Int} {K:Int} (h:0<=i/\i<u.length) (h1:(u.take i.toNat).any (fun c=>decide (c>=K))=false) (h2:¬u[i.toNat]! >=K):(u.take (i+1).toNat).any (fun c=>decide (c>=K))=false:=by
 rw[show(i+1).toNat=i.toNat+1 by omega,List.take_succ_eq_append_getElem (by omega),<-getElem!_pos u i.toNat (by omega),List.any_append,h1];simp only[List.any_cons,List.any_nil,Bool.or_false,Bool.false_or,decide_eq_false_iff_not];exact h2
theorem qQL {u:List Int} {i:Int} {K:Int} (h:0<=i/\i<u.length) (h2:u[i.toNat]! >=K):u.any (fun c=>decide (c>=K))=true:=by
 rw[List.any_eq_true];exact⟨u[i.toNat]!,by rw[getElem!_pos u i.toNat (by omega)];exact List.getElem_mem _,by simpa using h2⟩
theorem map_take {W:List ByteArray} {u:List Int} {i:Int} (h:0<=i/\i<u.length):(u.take (i+1).toNat).map (fun c=>W[c.toNat]!)=(u.take i.toNat).map (fun c=>W[c.toNat]!)++ [W[u[i.toNat]!.toNat]!]:=by
 rw[show(i+1).toNat=i.toNat+1 by omega,List.take_succ_eq_append_getElem (by omega),<-getElem!_pos u i.toNat (by omega),List.map_append];rfl
theorem qL6 {W:List ByteArray} {u:List Int} {i:Int} (h:0<=i/\i<u.length) (h2:u[i.toNat]! >=(W.length:Int)):QF W u=([],2):=by rw[QF,if_pos (qQL h h2)]
theorem qQ4 {W:List ByteArray} {u:List Int} {V:List Bool} (hV:V=nT W.length u) (hA:u.any (fun c=>decide (c>=(W.length:Int)))=false) (h:UO V false=true):QF W u=([],2):=by
 rw[QF,if_neg (by rw[hA];decide),if_pos (by rw[<-hV];exact h)]
theorem qCG {W:List ByteArray} {u:List Int} {V:List Bool} (hV:V=nT W.length u) (hA:u.any (fun c=>decide (c>=(W.length:Int)))=false) (h:¬UO V false=true):QF W u=(u.map fun c=>W[c.toNat]!,0):=by
 rw[QF,if_neg (by rw[hA];decide),if_neg (by rw[<-hV];exact h)]
theorem qPE {α:Type} {u:List α} {i:Int} (h:¬i<u.length):u.take i.toNat=u:=List.take_of_length_le (by omega)
theorem qV7 {s:ByteArray} {n:Int} {r:List ByteArray×Int×Int} (h:¬r.2.2=0):ZM s n r=([],r.2.2):=by rw[ZM,if_pos h]
theorem HO {s:ByteArray} {n:Int} {r:List ByteArray×Int×Int} (h:r.2.2=0):ZM s n r=ZN r.1 (bK (s.extract r.2.1.toNat s.size) n (wdN r.1.length)):=by rw[ZM,if_neg (fun q=>q h)]
theorem qV8 {W:List ByteArray} {p:List Int×Int} (h:¬p.2=0):ZN W p=([],p.2):=by rw[ZN,if_pos h]
theorem QG {W:List ByteArray} {p:List Int×Int} (h:p.2=0):ZN W p=QF W p.1:=by rw[ZN,if_neg (fun q=>q h)]
theorem qYG {s:ByteArray} {n:Int} (h:n<0\/n>4096):cR s n=([],4):=by rw[cR,if_pos h]
theorem qYH {s:ByteArray} {n:Int} (h:¬(n<0\/n>4096)) (h1:¬(aA s 0).2.2=0):cR s n=([],(aA s 0).2.2):=by rw[cR,if_neg h,if_pos h1]
theorem qYI {s:ByteArray} {n:Int} (h:¬(n<0\/n>4096)) (h1:(aA s 0).2.2=0) (h2:(aA s 0).1>n\/((aA s 0).1=0/\n>0)):cR s n=([],2):=by rw[cR,if_neg h,if_neg (fun q=>q h1),if_pos h2]
theorem TV {s:ByteArray} {n:Int} (h:¬(n<0\/n>4096)) (h1:(aA s 0).2.2=0) (h2:¬((aA s 0).1>n\/((aA s 0).1=0/\n>0))):cR s n=ZM s n (bZ s (aA s 0).1.toNat (aA s 0).2.1 []):=by rw[cR,if_neg h,if_neg (fun q=>q h1),if_neg h2]
theorem rK (s:ByteArray):∀(n:Nat) (a:Int) (M:List ByteArray),(bZ s n a M).1.length<=M.length+n
 |0,a,M=>by rw[bZ];simp
 |n+1,a,M=>by
  rw[bZ];split
  ·simp
  split
  ·simp
  split
  ·simp
  ·have:=rK s n ((aA s a).2.1+(aA s a).1) (M++ [EN s a])
   simp at this;omega
theorem qMV {s:ByteArray} (h:(aA s 0).2.2=0):0<=(aA s 0).2.1/\(aA s 0).2.1<=s.size:=by have:=bR h;omega
theorem qTZ {s:ByteArray} {n:Nat} (h0:(aA s 0).2.2=0) (h:(bZ s n (aA s 0).2.1 []).2.2=0):0<=(bZ s n (aA s 0).2.1 []).2.1/\(bZ s n (aA s 0).2.1 []).2.1<=s.size:=(qG4 n _ _ h).2 (qMV h0)
abbrev qB7:Ct:=.fn [.list .bool,.bool] (some (fun(l:List Bool) (v:Bool)=>(l.length<=4611686018427387904))) (fun(l:List Bool) (v:Bool)=>.d (.int .i64) (BO l v 0))
theorem qYZ:aH Tryz.prog 226 qB7:=by
 refine aH.fn qEM mixed [] [] rfl rfl ?_;rintro⟨(l:List Bool),(v:Bool),_⟩ hpre;replace hpre:=hpre _ rfl;dsimp only[cu]at hpre;have hl:=hpre;refine⟨[(0,4,LA.mk [.sl 8 (.int .i64)] (fun y=>Tag 14/\cu [.int .i64] (fun(k:Int)=>(0<=k/\k<=l.length)/\(BO l v 0=BO (l.drop k.toNat) v k)) y) (cu [.int .i64] (fun(k:Int)=>((l.length:Int)-k).toNat)) (cu [.int .i64] (fun(k:Int)=>([]:List (Nat×Nat×LA)))))],?_⟩;repeat' (first
  |(
 with_reducible refine Side.mk ⟨(⟨⟩:Tag 14),?_⟩
 dsimp only[cu,aC,aB,gts,eE,eN]
 refine⟨?_,?_⟩
 ·omega
 ·first
  |rfl
  |(rw[hk2,NL (by omega),if_neg (by simp_all;done)]))
  |(
 with_reducible apply Side.mk
 (try dsimp only[cu,aC,aB,gts,loK,hiK,eE,eN])
 omega)
  |(conv=>whnf
    first
     |with_reducible first|done|exact trivial|refine NilBr.mk (fun h=>?_) ?_|apply aJ|apply aI|refine aK (by kernel_rfl) ?_|apply aL|apply bG|apply bF|apply aR
     |((with_reducible first|apply aT|apply aS|apply bD)<;>intro h<;>(try dsimp only[cu,eE,eN]at h)<;>(try(exfalso;omega)))
     |(
 intro yy (hy:Tag 14/\_)
 obtain⟨(k:Int),_⟩:=yy
 replace hy:=hy.2
 dsimp only[cu,aC,aB,gts,eE,eN]at hy
 obtain⟨hk,hk2⟩:=hy)))
 all_goals(
 with_reducible apply Leaf.mk
 (try dsimp only[cu,aC,aB,gts,eE,eN]at *)
 first
 |rw[hk2,NL (by omega),if_pos (by simp_all;done)]
 |(rw[hk2,qM7 (by omega)]))
abbrev qZD:Tbl:=(226,qB7)::qZC
theorem qEN:aD Tryz.prog qZD:=aD.cons qYZ qEM
abbrev LH:Ct:=.fn [.list .bool,.bool] (some (fun(l:List Bool) (v:Bool)=>(l.length<=4611686018427387904))) (fun(l:List Bool) (v:Bool)=>.d .bool (UO l v))
theorem qRZ:aH Tryz.prog 212 LH:=by
 refine aH.fn qEN mixed [] [] rfl rfl ?_;rintro⟨(l:List Bool),(v:Bool),_⟩ hpre;replace hpre:=hpre _ rfl;dsimp only[cu]at hpre;have hl:=hpre;refine⟨[],?_⟩;repeat' (first
  |(
 with_reducible apply Side.mk
 (try dsimp only[cu,aC,aB,gts,loK,hiK,eE,eN])
 omega)
  |(conv=>whnf
    first
     |with_reducible first|done|exact trivial|refine NilBr.mk (fun h=>?_) ?_|apply aJ|apply aI|refine aK (by kernel_rfl) ?_|apply aL|apply bG|apply bF|apply aR
     |((with_reducible first|apply aT|apply aS|apply bD)<;>intro h<;>(try dsimp only[cu,eE,eN]at h)<;>(try(exfalso;omega)))))
 all_goals(
 with_reducible apply Leaf.mk
 (try dsimp only[cu,aC,aB,gts,eE,eN]at *)
 rfl)
abbrev qZE:Tbl:=(212,LH)::qZD
theorem qEO:aD Tryz.prog qZE:=aD.cons qRZ qEN
abbrev CQ:Ct:=.fn [.str,.int .i64] (some (fun(s:ByteArray) (n:Int)=>(s.size<=4611686018427387904))) (fun(s:ByteArray) (n:Int)=>.tup [.list .str,.int .i64] ((cR s n).1,(cR s n).2,()))
theorem qIB:aH Tryz.prog 189 CQ:=by
 refine aH.fn qEO mixed [] [] rfl rfl ?_;rintro⟨(s:ByteArray),(n:Int),_⟩ hpre;replace hpre:=hpre _ rfl;dsimp only[cu]at hpre;have hs:=hpre;refine⟨[(0,34,LA.mk [.sl 75 (.int .i64),.ar 0 .bool 4,.ar 1 .str 9] (fun y=>Tag 15/\cu [.int .i64,.list .bool,.list .str] (fun(i:Int) (V:List Bool) (O:List ByteArray)=>(0<=i/\i<=(bK (s.extract (bZ s (aA s 0).1.toNat (aA s 0).2.1 []).2.1.toNat s.size) n (wdN (bZ s (aA s 0).1.toNat (aA s 0).2.1 []).1.length)).1.length)/\(V=nT (bZ s (aA s 0).1.toNat (aA s 0).2.1 []).1.length ((bK (s.extract (bZ s (aA s 0).1.toNat (aA s 0).2.1 []).2.1.toNat s.size) n (wdN (bZ s (aA s 0).1.toNat (aA s 0).2.1 []).1.length)).1.take i.toNat))/\(O.length=n.toNat)/\(O.take i.toNat=((bK (s.extract (bZ s (aA s 0).1.toNat (aA s 0).2.1 []).2.1.toNat s.size) n (wdN (bZ s (aA s 0).1.toNat (aA s 0).2.1 []).1.length)).1.take i.toNat).map (fun c=>(bZ s (aA s 0).1.toNat (aA s 0).2.1 []).1[c.toNat]!))/\(((bK (s.extract (bZ s (aA s 0).1.toNat (aA s 0).2.1 []).2.1.toNat s.size) n (wdN (bZ s (aA s 0).1.toNat (aA s 0).2.1 []).1.length)).1.take i.toNat).any (fun c=>decide (c>=((bZ s (aA s 0).1.toNat (aA s 0).2.1 []).1.length:Int)))=false)) y) (cu [.int .i64,.list .bool,.list .str] (fun(i:Int) (V:List Bool) (O:List ByteArray)=>(((bK (s.extract (bZ s (aA s 0).1.toNat (aA s 0).2.1 []).2.1.toNat s.size) n (wdN (bZ s (aA s 0).1.toNat (aA s 0).2.1 []).1.length)).1.length:Int)-i).toNat)) (cu [.int .i64,.list .bool,.list .str] (fun(i:Int) (V:List Bool) (O:List ByteArray)=>([]:List (Nat×Nat×LA)))))],?_⟩;repeat' (first
  |(
 with_reducible refine Side.mk ⟨(⟨⟩:Tag 15),?_⟩
 dsimp only[cu,aC,aB,gts,eE,eN]
 refine⟨?_,?_,?_,?_,?_⟩
 ·omega
 ·first
  |(
  rw[show((0:Int).toNat)=0 from rfl,List.take_zero,qJ4]
  simp;done)
  |(
  have hur:=qG (s.extract (bZ s (aA s 0).1.toNat (aA s 0).2.1 []).2.1.toNat s.size) n (wdN (bZ s (aA s 0).1.toNat (aA s 0).2.1 []).1.length) i.toNat
  simp only[mP]at *
  have hg:=bB s 0
  have hwn:=aY (n:=n) (by omega)
  have hwl:=rK s (aA s 0).1.toNat (aA s 0).2.1 []
  simp only[List.length_nil,Nat.zero_add]at hwl
  have hww:=aY (n:=((bZ s (aA s 0).1.toNat (aA s 0).2.1 []).1.length:Int)) (by omega)
  rw[hV,qBQ (by omega) (by omega)])
 ·first
  |simp;done
  |simp;omega
 ·first
  |(
  rw[show((0:Int).toNat)=0 from rfl,List.take_zero]
  rfl)
  |(
  have hu0:(bK (s.extract (bZ s (aA s 0).1.toNat (aA s 0).2.1 []).2.1.toNat s.size) n (wdN (bZ s (aA s 0).1.toNat (aA s 0).2.1 []).1.length)).2=0:=by assumption
  have hul:=jE hu0
  simp only[mP]at *
  rw[map_take (by omega),show(i+1).toNat=i.toNat+1 by omega,AH _ _ _ (by omega),hO])
 ·first
  |(
  rw[show((0:Int).toNat)=0 from rfl,List.take_zero]
  rfl)
  |(
  have hg:=bB s 0
  have hwn:=aY (n:=n) (by omega)
  have hwl:=rK s (aA s 0).1.toNat (aA s 0).2.1 []
  simp only[List.length_nil,Nat.zero_add]at hwl
  have hww:=aY (n:=((bZ s (aA s 0).1.toNat (aA s 0).2.1 []).1.length:Int)) (by omega)
  simp only[mP]at *
  exact qK3 (by omega) hA (by omega)))
  |(
 with_reducible apply Side.mk
 (try dsimp only[cu,aC,aB,gts,loK,hiK,eE,eN])
 first
 |omega
 |(
  have hg:=bB s 0;have hwn:=aY (n:=n) (by omega);first
  |omega
  |(
   have hwl:=rK s (aA s 0).1.toNat (aA s 0).2.1 [];simp only[List.length_nil,Nat.zero_add]at hwl;have hww:=aY (n:=((bZ s (aA s 0).1.toNat (aA s 0).2.1 []).1.length:Int)) (by omega);omega))
 |(
  have:=qTZ (s:=s) (by assumption) (by assumption:(bZ s (aA s 0).1.toNat (aA s 0).2.1 []).2.2=0);omega)
 |simp only[ByteArray.size_extract];omega
 |(
  have hur:=qG (s.extract (bZ s (aA s 0).1.toNat (aA s 0).2.1 []).2.1.toNat s.size) n (wdN (bZ s (aA s 0).1.toNat (aA s 0).2.1 []).1.length) i.toNat;simp only[mP]at *;omega)
 |(
  have hg:=bB s 0;have hwn:=aY (n:=n) (by omega);have hwl:=rK s (aA s 0).1.toNat (aA s 0).2.1 [];simp only[List.length_nil,Nat.zero_add]at hwl;have hww:=aY (n:=((bZ s (aA s 0).1.toNat (aA s 0).2.1 []).1.length:Int)) (by omega);first
  |(
   have hu0:(bK (s.extract (bZ s (aA s 0).1.toNat (aA s 0).2.1 []).2.1.toNat s.size) n (wdN (bZ s (aA s 0).1.toNat (aA s 0).2.1 []).1.length)).2=0:=by assumption
   have hul:=jE hu0;have hur:=qG (s.extract (bZ s (aA s 0).1.toNat (aA s 0).2.1 []).2.1.toNat s.size) n (wdN (bZ s (aA s 0).1.toNat (aA s 0).2.1 []).1.length) i.toNat;simp only[mP]at *;first
   |rw[hV,OZ];omega
   |(omega))
  |(rw[hV,OZ];omega)))
  |(conv=>whnf
    first
     |with_reducible first|done|exact trivial|refine NilBr.mk (fun h=>?_) ?_|apply aJ|apply aI|refine aK (by kernel_rfl) ?_|apply aL|apply bG|apply bF|apply aR
     |((with_reducible first|apply aT|apply aS|apply bD)<;>intro h<;>(try dsimp only[cu,eE,eN]at h)<;>(try(exfalso;omega)))
     |(
 intro yy (hy:Tag 15/\_)
 obtain⟨(i:Int),(V:List Bool),(O:List ByteArray),_⟩:=yy
 replace hy:=hy.2
 dsimp only[cu,aC,aB,gts,eE,eN]at hy
 obtain⟨hi,hV,hOl,hO,hA⟩:=hy)))
 all_goals(
 with_reducible apply Leaf.mk
 (try dsimp only[cu,aC,aB,gts,eE,eN]at *)
 first
 |(
  have q1:n<0\/n>4096:=by first|omega|(simp_all;done)
  rw[qYG q1])
 |(
  have q1:¬(n<0\/n>4096):=by first|omega|(simp_all;done)
  have q2:¬(aA s 0).2.2=0:=by assumption
  rw[qYH q1 q2])
 |(
  have hg:=bB s 0;have hwn:=aY (n:=n) (by omega);first
  |(
   have q1:¬(n<0\/n>4096):=by first|omega|(simp_all;done)
   have q2:(aA s 0).2.2=0:=by first|assumption|omega|(simp_all;done)
   first
   |(
    have q3:(aA s 0).1>n\/((aA s 0).1=0/\n>0):=by first|omega|(simp_all;done)
    rw[qYI q1 q2 q3])
   |(
    have q3:¬((aA s 0).1>n\/((aA s 0).1=0/\n>0)):=by first|omega|(simp_all;omega)|(simp_all;done)
    rw[TV q1 q2 q3];first
    |(
     have q4:¬(bZ s (aA s 0).1.toNat (aA s 0).2.1 []).2.2=0:=by assumption
     rw[qV7 q4])
    |(
     have q4:(bZ s (aA s 0).1.toNat (aA s 0).2.1 []).2.2=0:=by first|assumption|omega
     rw[HO q4];have q5:¬(bK (s.extract (bZ s (aA s 0).1.toNat (aA s 0).2.1 []).2.1.toNat s.size) n (wdN (bZ s (aA s 0).1.toNat (aA s 0).2.1 []).1.length)).2=0:=by assumption
     rw[qV8 q5])))
  |(
   have hwl:=rK s (aA s 0).1.toNat (aA s 0).2.1 [];simp only[List.length_nil,Nat.zero_add]at hwl;have hww:=aY (n:=((bZ s (aA s 0).1.toNat (aA s 0).2.1 []).1.length:Int)) (by omega);have q1:¬(n<0\/n>4096):=by first|omega|(simp_all;done)
   have q2:(aA s 0).2.2=0:=by first|assumption|omega|(simp_all;done)
   have q3:¬((aA s 0).1>n\/((aA s 0).1=0/\n>0)):=by first|omega|(simp_all;omega)|(simp_all;done)
   rw[TV q1 q2 q3];have q4:(bZ s (aA s 0).1.toNat (aA s 0).2.1 []).2.2=0:=by first|assumption|omega
   rw[HO q4];have q5:(bK (s.extract (bZ s (aA s 0).1.toNat (aA s 0).2.1 []).2.1.toNat s.size) n (wdN (bZ s (aA s 0).1.toNat (aA s 0).2.1 []).1.length)).2=0:=by first|assumption|omega
   rw[QG q5];have q6:(bK (s.extract (bZ s (aA s 0).1.toNat (aA s 0).2.1 []).2.1.toNat s.size) n (wdN (bZ s (aA s 0).1.toNat (aA s 0).2.1 []).1.length)).1[i.toNat]! >=((bZ s (aA s 0).1.toNat (aA s 0).2.1 []).1.length:Int):=by simp only[mP]at *;omega
   rw[qL6 (i:=i) (by omega) q6]))
 |(
  have ta0:¬i<((bK (s.extract (bZ s (aA s 0).1.toNat (aA s 0).2.1 []).2.1.toNat s.size) n (wdN (bZ s (aA s 0).1.toNat (aA s 0).2.1 []).1.length)).1.length:Int):=by assumption
  have ta:=qPE ta0;rw[ta]at hV hA hO;first
  |(
   have hg:=bB s 0;have hwn:=aY (n:=n) (by omega);have q1:¬(n<0\/n>4096):=by first|omega|(simp_all;done)
   have q2:(aA s 0).2.2=0:=by first|assumption|omega|(simp_all;done)
   have q3:¬((aA s 0).1>n\/((aA s 0).1=0/\n>0)):=by first|omega|(simp_all;omega)|(simp_all;done)
   rw[TV q1 q2 q3];have q4:(bZ s (aA s 0).1.toNat (aA s 0).2.1 []).2.2=0:=by first|assumption|omega
   rw[HO q4];have q5:(bK (s.extract (bZ s (aA s 0).1.toNat (aA s 0).2.1 []).2.1.toNat s.size) n (wdN (bZ s (aA s 0).1.toNat (aA s 0).2.1 []).1.length)).2=0:=by first|assumption|omega
   rw[QG q5];have q6:UO V false=true:=by assumption
   rw[qQ4 hV hA q6])
  |(
   have hu0:(bK (s.extract (bZ s (aA s 0).1.toNat (aA s 0).2.1 []).2.1.toNat s.size) n (wdN (bZ s (aA s 0).1.toNat (aA s 0).2.1 []).1.length)).2=0:=by assumption
   have hul:=jE hu0;have hg:=bB s 0;have hwn:=aY (n:=n) (by omega);have q1:¬(n<0\/n>4096):=by first|omega|(simp_all;done)
   have q2:(aA s 0).2.2=0:=by first|assumption|omega|(simp_all;done)
   have q3:¬((aA s 0).1>n\/((aA s 0).1=0/\n>0)):=by first|omega|(simp_all;omega)|(simp_all;done)
   rw[TV q1 q2 q3];have q4:(bZ s (aA s 0).1.toNat (aA s 0).2.1 []).2.2=0:=by first|assumption|omega
   rw[HO q4];have q5:(bK (s.extract (bZ s (aA s 0).1.toNat (aA s 0).2.1 []).2.1.toNat s.size) n (wdN (bZ s (aA s 0).1.toNat (aA s 0).2.1 []).1.length)).2=0:=by first|assumption|omega
   rw[QG q5];have q6:¬UO V false=true:=by simp_all;done
   rw[qCG hV hA q6];(try rw[List.take_of_length_le (by omega)]at hO);first|done|exact hO|rfl)))
abbrev qZF:Tbl:=(189,CQ)::qZE
theorem qEP:aD Tryz.prog qZF:=aD.cons qIB qEO
abbrev EMP:ByteArray:=⟨#[]⟩
def bV (t:Int):Bool:=decide (1<=t)&&decide (t<=5)
def iC (t:Int) (v:Val):Bool:=
 if t=2 then decide (v.2.1=0)||decide (v.2.1=1)else if t=4 then decide (-719162<=v.2.1)&&decide (v.2.1<=2932896)
 else if t=5 then decide (-999999999999999999<=v.2.1)&&decide (v.2.1<=999999999999999999)else if t=3 then decide (v.2.2.size<=64)else true
def bE (c:Col) (v:Val):Int:=
 if bV c.2.1=false then 1 else if(v.1=true\/c.2.1≠3)/\v.2.2≠EMP then 11 else if(v.1=true\/c.2.1=3)/\v.2.1≠0 then 11
 else if v.1=true/\c.2.2.2=false then 12 else if v.1=false/\iC c.2.1 v=false then 4 else 0
def iM (a b:Int):Int:=if a<b then -1 else if a>b then 1 else 0
def mG (a b:ByteArray):Int:=if dY a b then -1 else if a=b then 0 else 1
def bA (t:Int) (a b:Val):Int:=
 if a.1=true/\b.1=true then 0 else if a.1=true then -1 else if b.1=true then 1 else if t=3 then mG a.2.2 b.2.2 else iM a.2.1 b.2.1
theorem AC {s:ByteArray} (h:¬s=⟨#[]⟩):0<s.size:=by
 rcases Nat.eq_zero_or_pos s.size with q|q
 ·exfalso;apply h
  apply ByteArray.ext;exact Array.eq_empty_of_size_eq_zero q
 ·exact q
abbrev GB:Ct:=.fn [.int .i64] (none) (fun(t:Int)=>.d .bool (bV t))
theorem qNC:aH Tryz.prog 148 GB:=by
 refine aH.fn qEP mixed [] [] rfl rfl ?_;rintro⟨(t:Int),_⟩ -;refine⟨[],?_⟩;repeat' (first
  |(
 with_reducible apply Side.mk
 (try dsimp only[cu,aC,aB,gts,loK,hiK,eE,eN])
 done)
  |(conv=>whnf
    first
     |with_reducible first|done|exact trivial|refine NilBr.mk (fun h=>?_) ?_|apply aJ|apply aI|refine aK (by kernel_rfl) ?_|apply aL|apply bG|apply bF|apply aR
     |((with_reducible first|apply aT|apply aS|apply bD)<;>intro h<;>(try dsimp only[cu,eE,eN]at h)<;>(try(exfalso;omega)))))
 all_goals(
 with_reducible apply Leaf.mk
 (try dsimp only[cu,aC,aB,gts,eE,eN]at *)
 grind [bV])
abbrev qZG:Tbl:=(148,GB)::qZF
theorem qEQ:aD Tryz.prog qZG:=aD.cons qNC qEP
abbrev tH:Ct:=.fn [.int .i64,bS] (none) (fun(t:Int) (v:Val)=>.d .bool (iC t v))
theorem RK:aH Tryz.prog 149 tH:=by
 refine aH.fn qEQ mixed [] [] rfl rfl ?_;rintro⟨(t:Int),(v:Val),_⟩ -;refine⟨[],?_⟩;repeat' (first
  |(
 with_reducible apply Side.mk
 (try dsimp only[cu,aC,aB,gts,loK,hiK,eE,eN])
 done)
  |(conv=>whnf
    first
     |with_reducible first|done|exact trivial|refine NilBr.mk (fun h=>?_) ?_|apply aJ|apply aI|refine aK (by kernel_rfl) ?_|apply aL|apply bG|apply bF|apply aR
     |((with_reducible first|apply aT|apply aS|apply bD)<;>intro h<;>(try dsimp only[cu,eE,eN]at h)<;>(try(exfalso;omega)))))
 all_goals(
 with_reducible apply Leaf.mk
 (try dsimp only[cu,aC,aB,gts,eE,eN]at *)
 grind [iC])
abbrev qZH:Tbl:=(149,tH)::qZG
theorem qER:aD Tryz.prog qZH:=aD.cons RK qEQ
abbrev DF:Ct:=.fn [rI,bS] (none) (fun(c:Col) (v:Val)=>.d (.int .i64) (bE c v))
theorem qJ5:aH Tryz.prog 108 DF:=by
 refine aH.fn qER mixed [] [] rfl rfl ?_;rintro⟨(c:Col),(v:Val),_⟩ -;refine⟨[],?_⟩;repeat' (first
  |(
 with_reducible apply Side.mk
 (try dsimp only[cu,aC,aB,gts,loK,hiK,eE,eN])
 done)
  |(conv=>whnf
    first
     |with_reducible first|done|exact trivial|refine NilBr.mk (fun h=>?_) ?_|apply aJ|apply aI|refine aK (by kernel_rfl) ?_|apply aL|apply bG|apply bF|apply aR
     |((with_reducible first|apply aT|apply aS|apply bD)<;>intro h<;>(try dsimp only[cu,eE,eN]at h)<;>(try(exfalso;omega)))))
 all_goals(
 with_reducible apply Leaf.mk
 (try dsimp only[cu,aC,aB,gts,eE,eN]at *)
 grind [bE,bV,iC,bA,iM])
abbrev qZI:Tbl:=(108,DF)::qZH
theorem qES:aD Tryz.prog qZI:=aD.cons qJ5 qER
abbrev CS:Ct:=.fn [.str] (none) (fun(a:ByteArray)=>.d .bool false)
theorem qIQ:aH Tryz.prog 185 CS:=by
 refine aH.fn qES mixed [] [] rfl rfl ?_;rintro⟨(a:ByteArray),_⟩ -;refine⟨[],?_⟩;repeat' (first
  |(
 with_reducible apply Side.mk
 (try dsimp only[cu,aC,aB,gts,loK,hiK,eE,eN])
 done)
  |(conv=>whnf
    first
     |with_reducible first|done|exact trivial|refine NilBr.mk (fun h=>?_) ?_|apply aJ|apply aI|refine aK (by kernel_rfl) ?_|apply aL|apply bG|apply bF|apply aR
     |((with_reducible first|apply aT|apply aS|apply bD)<;>intro h<;>(try dsimp only[cu,eE,eN]at h)<;>(try(exfalso;omega)))))
 all_goals(
 with_reducible apply Leaf.mk
 (try dsimp only[cu,aC,aB,gts,eE,eN]at *)
 simp)
abbrev qZJ:Tbl:=(185,CS)::qZI
theorem qET:aD Tryz.prog qZJ:=aD.cons qIQ qES
abbrev yB:Ct:=.fn [.int .i64] (none) (fun(a:Int)=>.d .bool false)
theorem qAI:aH Tryz.prog 162 yB:=by
 refine aH.fn qET mixed [] [] rfl rfl ?_;rintro⟨(a:Int),_⟩ -;refine⟨[],?_⟩;repeat' (first
  |(
 with_reducible apply Side.mk
 (try dsimp only[cu,aC,aB,gts,loK,hiK,eE,eN])
 done)
  |(conv=>whnf
    first
     |with_reducible first|done|exact trivial|refine NilBr.mk (fun h=>?_) ?_|apply aJ|apply aI|refine aK (by kernel_rfl) ?_|apply aL|apply bG|apply bF|apply aR
     |((with_reducible first|apply aT|apply aS|apply bD)<;>intro h<;>(try dsimp only[cu,eE,eN]at h)<;>(try(exfalso;omega)))))
 all_goals(
 with_reducible apply Leaf.mk
 (try dsimp only[cu,aC,aB,gts,eE,eN]at *)
 simp)
abbrev qZK:Tbl:=(162,yB)::qZJ
theorem qEU:aD Tryz.prog qZK:=aD.cons qAI qET
abbrev FY:Ct:=.fn [.int .i64,.int .i64] (none) (fun(a:Int) (b:Int)=>.d (.int .i64) (iM a b))
theorem qLL:aH Tryz.prog 132 FY:=by
 refine aH.fn qEU mixed [] [] rfl rfl ?_;rintro⟨(a:Int),(b:Int),_⟩ -;refine⟨[],?_⟩;repeat' (first
  |(
 with_reducible apply Side.mk
 (try dsimp only[cu,aC,aB,gts,loK,hiK,eE,eN])
 done)
  |(conv=>whnf
    first
     |with_reducible first|done|exact trivial|refine NilBr.mk (fun h=>?_) ?_|apply aJ|apply aI|refine aK (by kernel_rfl) ?_|apply aL|apply bG|apply bF|apply aR
     |((with_reducible first|apply aT|apply aS|apply bD)<;>intro h<;>(try dsimp only[cu,eE,eN]at h)<;>(try(exfalso;omega)))))
 all_goals(
 with_reducible apply Leaf.mk
 (try dsimp only[cu,aC,aB,gts,eE,eN]at *)
 grind [bE,bV,iC,bA,iM])
abbrev qZL:Tbl:=(132,FY)::qZK
theorem qEV:aD Tryz.prog qZL:=aD.cons qLL qEU
abbrev KU:Ct:=.fn [.str,.str] (none) (fun(a:ByteArray) (b:ByteArray)=>.d (.int .i64) (mG a b))
theorem qQV:aH Tryz.prog 161 KU:=by
 refine aH.fn qEV mixed [] [] rfl rfl ?_;rintro⟨(a:ByteArray),(b:ByteArray),_⟩ -;refine⟨[],?_⟩;repeat' (first
  |(
 with_reducible apply Side.mk
 (try dsimp only[cu,aC,aB,gts,loK,hiK,eE,eN])
 done)
  |(conv=>whnf
    first
     |with_reducible first|done|exact trivial|refine NilBr.mk (fun h=>?_) ?_|apply aJ|apply aI|refine aK (by kernel_rfl) ?_|apply aL|apply bG|apply bF|apply aR
     |((with_reducible first|apply aT|apply aS|apply bD)<;>intro h<;>(try dsimp only[cu,eE,eN]at h)<;>(try(exfalso;omega)))))
 all_goals(
 with_reducible apply Leaf.mk
 (try dsimp only[cu,aC,aB,gts,eE,eN]at *)
 grind [mG])
abbrev qZM:Tbl:=(161,KU)::qZL
theorem qEW:aD Tryz.prog qZM:=aD.cons qQV qEV
abbrev wN:Ct:=.fn [.int .i64,bS,bS] (none) (fun(t:Int) (a:Val) (b:Val)=>.d (.int .i64) (bA t a b))
theorem YL:aH Tryz.prog 131 wN:=by
 refine aH.fn qEW mixed [] [] rfl rfl ?_;rintro⟨(t:Int),(a:Val),(b:Val),_⟩ -;refine⟨[],?_⟩;repeat' (first
  |(
 with_reducible apply Side.mk
 (try dsimp only[cu,aC,aB,gts,loK,hiK,eE,eN])
 done)
  |(conv=>whnf
    first
     |with_reducible first|done|exact trivial|refine NilBr.mk (fun h=>?_) ?_|apply aJ|apply aI|refine aK (by kernel_rfl) ?_|apply aL|apply bG|apply bF|apply aR
     |((with_reducible first|apply aT|apply aS|apply bD)<;>intro h<;>(try dsimp only[cu,eE,eN]at h)<;>(try(exfalso;omega)))))
 all_goals(
 with_reducible apply Leaf.mk
 (try dsimp only[cu,aC,aB,gts,eE,eN]at *)
 grind [bE,bV,iC,bA,iM])
abbrev qZN:Tbl:=(131,wN)::qZM
theorem qEX:aD Tryz.prog qZN:=aD.cons YL qEW
abbrev HB:Ct:=.fn [.int .i64] (none) (fun(t:Int)=>.d .bool (bV t))
theorem qPV:aH Tryz.prog 54 HB:=by
 refine aH.fn qEX mixed [] [] rfl rfl ?_;rintro⟨(t:Int),_⟩ -;refine⟨[],?_⟩;repeat' (first
  |(
 with_reducible apply Side.mk
 (try dsimp only[cu,aC,aB,gts,loK,hiK,eE,eN])
 done)
  |(conv=>whnf
    first
     |with_reducible first|done|exact trivial|refine NilBr.mk (fun h=>?_) ?_|apply aJ|apply aI|refine aK (by kernel_rfl) ?_|apply aL|apply bG|apply bF|apply aR
     |((with_reducible first|apply aT|apply aS|apply bD)<;>intro h<;>(try dsimp only[cu,eE,eN]at h)<;>(try(exfalso;omega)))))
 all_goals(
 with_reducible apply Leaf.mk
 (try dsimp only[cu,aC,aB,gts,eE,eN]at *)
 grind [bV])
abbrev qZO:Tbl:=(54,HB)::qZN
theorem qEY:aD Tryz.prog qZO:=aD.cons qPV qEX
abbrev CV:Ct:=.fn [rI,bS] (none) (fun(c:Col) (v:Val)=>.d (.int .i64) (bE c v))
theorem qI4:aH Tryz.prog 81 CV:=by
 refine aH.fn qEY mixed [] [] rfl rfl ?_;rintro⟨(c:Col),(v:Val),_⟩ -;refine⟨[],?_⟩;repeat' (first
  |(
 with_reducible apply Side.mk
 (try dsimp only[cu,aC,aB,gts,loK,hiK,eE,eN])
 done)
  |(conv=>whnf
    first
     |with_reducible first|done|exact trivial|refine NilBr.mk (fun h=>?_) ?_|apply aJ|apply aI|refine aK (by kernel_rfl) ?_|apply aL|apply bG|apply bF|apply aR
     |((with_reducible first|apply aT|apply aS|apply bD)<;>intro h<;>(try dsimp only[cu,eE,eN]at h)<;>(try(exfalso;omega)))))
 all_goals(
 with_reducible apply Leaf.mk
 (try dsimp only[cu,aC,aB,gts,eE,eN]at *)
 grind [bE,bV,iC,bA,iM])
abbrev qZP:Tbl:=(81,CV)::qZO
theorem qEZ:aD Tryz.prog qZP:=aD.cons qI4 qEY
abbrev GI:Ct:=.fn [.bool,.bool] (none) (fun(l:Bool) (e:Bool)=>.d (.int .i64) (if l=true then -1 else if e=true then 0 else 1))
theorem qNX:aH Tryz.prog 154 GI:=by
 refine aH.fn qEZ mixed [] [] rfl rfl ?_;rintro⟨(l:Bool),(e:Bool),_⟩ -;refine⟨[],?_⟩;repeat' (first
  |(
 with_reducible apply Side.mk
 (try dsimp only[cu,aC,aB,gts,loK,hiK,eE,eN])
 done)
  |(conv=>whnf
    first
     |with_reducible first|done|exact trivial|refine NilBr.mk (fun h=>?_) ?_|apply aJ|apply aI|refine aK (by kernel_rfl) ?_|apply aL|apply bG|apply bF|apply aR
     |((with_reducible first|apply aT|apply aS|apply bD)<;>intro h<;>(try dsimp only[cu,eE,eN]at h)<;>(try(exfalso;omega)))))
 all_goals(
 with_reducible apply Leaf.mk
 (try dsimp only[cu,aC,aB,gts,eE,eN]at *)
 simp_all)
abbrev qZQ:Tbl:=(154,GI)::qZP
theorem qE0:aD Tryz.prog qZQ:=aD.cons qNX qEZ
abbrev wL:Ct:=.fn [.int .i64,bS,bS] (none) (fun(t:Int) (a:Val) (b:Val)=>.d (.int .i64) (bA t a b))
theorem VU:aH Tryz.prog 117 wL:=by
 refine aH.fn qE0 mixed [] [] rfl rfl ?_;rintro⟨(t:Int),(a:Val),(b:Val),_⟩ -;refine⟨[],?_⟩;repeat' (first
  |(
 with_reducible apply Side.mk
 (try dsimp only[cu,aC,aB,gts,loK,hiK,eE,eN])
 done)
  |(conv=>whnf
    first
     |with_reducible first|done|exact trivial|refine NilBr.mk (fun h=>?_) ?_|apply aJ|apply aI|refine aK (by kernel_rfl) ?_|apply aL|apply bG|apply bF|apply aR
     |((with_reducible first|apply aT|apply aS|apply bD)<;>intro h<;>(try dsimp only[cu,eE,eN]at h)<;>(try(exfalso;omega)))))
 all_goals(
 with_reducible apply Leaf.mk
 (try dsimp only[cu,aC,aB,gts,eE,eN]at *)
 grind [bA,iM,mG])
abbrev qZR:Tbl:=(117,wL)::qZQ
theorem qE1:aD Tryz.prog qZR:=aD.cons VU qE0
def rnd (v:Int):Int:=lK .u32 (jC .u32 v 1) (IntKind.u32.wrap (2197175160*rO .u32 v 1))
def zS:Nat->Int->Int
 |0,v=>v
 |n+1,v=>zS n (rnd v)
theorem qOR (v:Int):0<=rnd v/\rnd v<4294967296:=tD _ _
theorem qS9 {v:Int} (h:rO .u32 v 1=1):rnd v=lK .u32 (jC .u32 v 1) 2197175160:=by
 unfold rnd;rw[h];rfl
theorem qOS {v:Int} (hv:0<=v/\v<4294967296) (h:¬rO .u32 v 1=1):rnd v=jC .u32 v 1:=by
 have h0:rO .u32 v 1=0:=by rw[qX6 hv]at h ⊢;omega
 unfold rnd;rw[h0,show IntKind.u32.wrap (2197175160*0)=0 from rfl,qX9 (by simpa using qD5 hv 1)]
theorem CA {k v:Int} (h:0<=k/\k<8):zS (8-k).toNat v=zS (8-(k+1)).toNat (rnd v):=by
 rw[show(8-k).toNat=(8-(k+1)).toNat+1 by omega];rfl
def cY:List Int:=(List.range 256).map fun i:Nat=>zS 8 (i:Int)
theorem rP:cY.length=256:=by simp [cY]
def cstep (t:List Int) (v b:Int):Int:=lK .u32 (jC .u32 v 8) t[(lK .u8 (IntKind.u8.wrap v) b).toNat]!
def bnot (v:Int):Int:=lK .u32 (-1) v
def AF (t:List Int) (s:ByteArray):Int:=if t.length=256 then bnot ((aE s).foldl (cstep t) 4294967295)else 0
def jS (s:ByteArray):Int:=AF cY s
theorem NA {t:List Int} {s:ByteArray} {k v:Int} (h:0<=k/\k<s.size):((aE s).drop k.toNat).foldl (cstep t) v=((aE s).drop (k+1).toNat).foldl (cstep t) (cstep t v (aG s k.toNat)):=by
 rw[bN (aE s) k (by rw[aQ];exact h),List.foldl_cons,gJ]
abbrev MG:Ct:=.fn [.list (.int .u32),.int .u32,.int .u8] (some (fun(t:List Int) (v:Int) (b:Int)=>(t.length=256))) (fun(t:List Int) (v:Int) (b:Int)=>.d (.int .u32) (cstep t v b))
theorem qTO:aH Tryz.prog 116 MG:=by
 refine aH.fn qE1 mixed [] [] rfl rfl ?_;rintro⟨(t:List Int),(v:Int),(b:Int),_⟩ hpre;replace hpre:=hpre _ rfl;dsimp only[cu]at hpre;have ht:=hpre;refine⟨[],?_⟩;repeat' (first
  |(
 with_reducible apply Side.mk
 (try dsimp only[cu,aC,aB,gts,loK,hiK,eE,eN])
 first
 |omega
 |(have hx:=xV (IntKind.u8.wrap v) b;omega))
  |(conv=>whnf
    first
     |with_reducible first|done|exact trivial|refine NilBr.mk (fun h=>?_) ?_|apply aJ|apply aI|refine aK (by kernel_rfl) ?_|apply aL|apply bG|apply bF|apply aR
     |((with_reducible first|apply aT|apply aS|apply bD)<;>intro h<;>(try dsimp only[cu,eE,eN]at h)<;>(try(exfalso;omega)))))
 all_goals(
 with_reducible apply Leaf.mk
 (try dsimp only[cu,aC,aB,gts,eE,eN]at *)
 rfl)
abbrev qZS:Tbl:=(116,MG)::qZR
theorem qE2:aD Tryz.prog qZS:=aD.cons qTO qE1
abbrev TF:Ct:=.fn [.list (.int .u32),.str] (some (fun(t:List Int) (s:ByteArray)=>(s.size<=9223372036854775807))) (fun(t:List Int) (s:ByteArray)=>.d (.int .u32) (AF t s))
theorem qXT:aH Tryz.prog 70 TF:=by
 refine aH.fn qE2 mixed [] [] rfl rfl ?_;rintro⟨(t:List Int),(s:ByteArray),_⟩ hpre;replace hpre:=hpre _ rfl;dsimp only[cu]at hpre;have hs:=hpre;refine⟨[(0,10,LA.mk [.sl 12 (.int .i64),.sl 5 (.int .u32)] (fun y=>Tag 16/\cu [.int .i64,.int .u32] (fun(k:Int) (v:Int)=>(0<=k/\k<=s.size)/\(((aE s).drop k.toNat).foldl (cstep t) v=(aE s).foldl (cstep t) 4294967295)) y) (cu [.int .i64,.int .u32] (fun(k:Int) (v:Int)=>((s.size:Int)-k).toNat)) (cu [.int .i64,.int .u32] (fun(k:Int) (v:Int)=>([]:List (Nat×Nat×LA)))))],?_⟩;repeat' (first
  |(
 with_reducible refine Side.mk ⟨(⟨⟩:Tag 16),?_⟩
 dsimp only[cu,aC,aB,gts,eE,eN]
 refine⟨?_,?_⟩
 ·omega
 ·first
  |simp;done
  |(rw[<-hv,NA (k:=k) (v:=v) (by omega)];(try rfl)))
  |(
 with_reducible apply Side.mk
 (try dsimp only[cu,aC,aB,gts,loK,hiK,eE,eN])
 omega)
  |(conv=>whnf
    first
     |with_reducible first|done|exact trivial|refine NilBr.mk (fun h=>?_) ?_|apply aJ|apply aI|refine aK (by kernel_rfl) ?_|apply aL|apply bG|apply bF|apply aR
     |((with_reducible first|apply aT|apply aS|apply bD)<;>intro h<;>(try dsimp only[cu,eE,eN]at h)<;>(try(exfalso;omega)))
     |(
 intro yy (hy:Tag 16/\_)
 obtain⟨(k:Int),(v:Int),_⟩:=yy
 replace hy:=hy.2
 dsimp only[cu,aC,aB,gts,eE,eN]at hy
 obtain⟨hk,hv⟩:=hy)))
 all_goals(
 with_reducible apply Leaf.mk
 (try dsimp only[cu,aC,aB,gts,eE,eN]at *)
 first
 |(
  have h256:¬t.length=256:=by omega
  rw[AF,if_neg h256])
 |(
  have h256:t.length=256:=by omega
  rw[AF,if_pos h256,<-hv,List.drop_eq_nil_of_le (by rw[aQ];omega)];rfl))
abbrev qZT:Tbl:=(70,TF)::qZS
theorem qE3:aD Tryz.prog qZT:=aD.cons qXT qE2
abbrev MC:Ct:=.fn [.list (.int .u32),.str] (some (fun(t:List Int) (s:ByteArray)=>(s.size<=9223372036854775807))) (fun(t:List Int) (s:ByteArray)=>.d (.int .u32) (AF t s))
theorem qTC:aH Tryz.prog 85 MC:=by
 refine aH.fn qE3 mixed [] [] rfl rfl ?_;rintro⟨(t:List Int),(s:ByteArray),_⟩ hpre;replace hpre:=hpre _ rfl;dsimp only[cu]at hpre;have hs:=hpre;refine⟨[(0,10,LA.mk [.sl 6 (.int .i64),.sl 5 (.int .u32)] (fun y=>Tag 17/\cu [.int .i64,.int .u32] (fun(k:Int) (v:Int)=>(0<=k/\k<=s.size)/\(((aE s).drop k.toNat).foldl (cstep t) v=(aE s).foldl (cstep t) 4294967295)) y) (cu [.int .i64,.int .u32] (fun(k:Int) (v:Int)=>((s.size:Int)-k).toNat)) (cu [.int .i64,.int .u32] (fun(k:Int) (v:Int)=>([]:List (Nat×Nat×LA)))))],?_⟩;repeat' (first
  |(
 with_reducible refine Side.mk ⟨(⟨⟩:Tag 17),?_⟩
 dsimp only[cu,aC,aB,gts,eE,eN]
 refine⟨?_,?_⟩
 ·omega
 ·first
  |simp;done
  |(rw[<-hv,NA (k:=k) (v:=v) (by omega)];(try rfl)))
  |(
 with_reducible apply Side.mk
 (try dsimp only[cu,aC,aB,gts,loK,hiK,eE,eN])
 first
 |omega
 |(have hx:=xV (IntKind.u8.wrap v) (aG s k.toNat);omega))
  |(conv=>whnf
    first
     |with_reducible first|done|exact trivial|refine NilBr.mk (fun h=>?_) ?_|apply aJ|apply aI|refine aK (by kernel_rfl) ?_|apply aL|apply bG|apply bF|apply aR
     |((with_reducible first|apply aT|apply aS|apply bD)<;>intro h<;>(try dsimp only[cu,eE,eN]at h)<;>(try(exfalso;omega)))
     |(
 intro yy (hy:Tag 17/\_)
 obtain⟨(k:Int),(v:Int),_⟩:=yy
 replace hy:=hy.2
 dsimp only[cu,aC,aB,gts,eE,eN]at hy
 obtain⟨hk,hv⟩:=hy)))
 all_goals(
 with_reducible apply Leaf.mk
 (try dsimp only[cu,aC,aB,gts,eE,eN]at *)
 first
 |(
  have h256:¬t.length=256:=by omega
  rw[AF,if_neg h256])
 |(
  have h256:t.length=256:=by omega
  rw[AF,if_pos h256,<-hv,List.drop_eq_nil_of_le (by rw[aQ];omega)];rfl))
abbrev qZU:Tbl:=(85,MC)::qZT
theorem qE4:aD Tryz.prog qZU:=aD.cons qTC qE3
abbrev HA:Ct:=.fn [] (none) (.d (.list (.int .u32)) cY)
theorem qPD:aH Tryz.prog 71 HA:=by
 refine aH.fn qE4 mixed [(0,5,1)] [] rfl rfl ?_;rintro⟨⟩ -;refine⟨[(0,6,LA.mk [.sl 7 (.int .i64),.ar 0 (.int .u32) 80] (fun y=>Tag 18/\cu [.int .i64,.list (.int .u32)] (fun(k:Int) (M:List Int)=>(0<=k/\k<=256)/\(M.length=256)/\(M.take k.toNat=(List.range k.toNat).map (fun i:Nat=>zS 8 (i:Int)))) y) (cu [.int .i64,.list (.int .u32)] (fun(k:Int) (M:List Int)=>((256:Int)-k).toNat)) (cu [.int .i64,.list (.int .u32)] (fun(k:Int) (M:List Int)=>([(0,14,LA.mk [.sl 12 (.int .i64),.sl 3 (.int .u32)] (fun y=>Tag 19/\cu [.int .i64,.int .u32] (fun(j:Int) (v:Int)=>(0<=j/\j<=8)/\(zS (8-j).toNat v=zS 8 k)) y) (cu [.int .i64,.int .u32] (fun(j:Int) (v:Int)=>((8:Int)-j).toNat)) (cu [.int .i64,.int .u32] (fun(j:Int) (v:Int)=>([]:List (Nat×Nat×LA)))))]:List (Nat×Nat×LA)))))],?_⟩;repeat' (first
  |(
 with_reducible refine Side.mk ⟨(⟨⟩:Tag 18),?_⟩
 dsimp only[cu,aC,aB,gts,eE,eN]
 refine⟨?_,?_,?_⟩
 ·omega
 ·first
  |simp;done
  |simp;omega
 ·first
  |simp;done
  |(
  rw[show(k+1).toNat=k.toNat+1 by omega,AH _ _ _ (by omega),hm,List.range_succ,List.map_append]
  simp only[List.map_cons,List.map_nil]
  rw[show((k.toNat:Nat):Int)=k by omega,<-hj,show(8-j).toNat=0 by omega]
  rfl))
  |(
 with_reducible refine Side.mk ⟨(⟨⟩:Tag 19),?_⟩
 dsimp only[cu,aC,aB,gts,eE,eN]
 refine⟨?_,?_⟩
 ·omega
 ·first
  |rfl
  |(rw[<-hj,CA (k:=j) (v:=v) (by omega)];(try rfl)))
  |(
 with_reducible apply Side.mk
 (try dsimp only[cu,aC,aB,gts,loK,hiK,eE,eN])
 omega)
  |(conv=>whnf
    first
     |with_reducible first|done|exact trivial|refine NilBr.mk (fun h=>?_) ?_|apply aJ|apply aI|refine aK (by kernel_rfl) ?_|apply aL|apply bG|apply bF|apply aR
     |((with_reducible first|apply aT|apply aS|apply bD)<;>intro h<;>(try dsimp only[cu,eE,eN]at h)<;>(try(exfalso;omega)))
     |(
 intro yy (hy:Tag 18/\_)
 obtain⟨(k:Int),(M:List Int),_⟩:=yy
 replace hy:=hy.2
 dsimp only[cu,aC,aB,gts,eE,eN]at hy
 obtain⟨hk,hl,hm⟩:=hy)
     |(
 intro yy (hy:Tag 19/\_)
 obtain⟨(j:Int),(v:Int),_⟩:=yy
 replace hy:=hy.2
 dsimp only[cu,aC,aB,gts,eE,eN]at hy
 obtain⟨hj,hj⟩:=hy)))
 all_goals(
 with_reducible apply Leaf.mk
 (try dsimp only[cu,aC,aB,gts,eE,eN]at *)
 (
  rw[show k.toNat=256 by omega,List.take_of_length_le (by omega)]at hm;exact hm))
abbrev qZV:Tbl:=(71,HA)::qZU
theorem qE5:aD Tryz.prog qZV:=aD.cons qPD qE4
abbrev DA:Ct:=.fn [] (none) (.d (.list (.int .u32)) cY)
theorem qJF:aH Tryz.prog 86 DA:=by
 refine aH.fn qE5 mixed [(0,4,1)] [] rfl rfl ?_;rintro⟨⟩ -;refine⟨[(0,6,LA.mk [.sl 2 (.int .u32),.lst 1 (.int .u32) 80] (fun y=>Tag 20/\cu [.int .u32,.list (.int .u32)] (fun(k:Int) (M:List Int)=>(0<=k/\k<=256)/\(M=(List.range k.toNat).map (fun i:Nat=>zS 8 (i:Int)))) y) (cu [.int .u32,.list (.int .u32)] (fun(k:Int) (M:List Int)=>(256-k).toNat)) (cu [.int .u32,.list (.int .u32)] (fun(k:Int) (M:List Int)=>([(0,14,LA.mk [.sl 4 (.int .i64),.sl 3 (.int .u32)] (fun y=>Tag 21/\cu [.int .i64,.int .u32] (fun(j:Int) (v:Int)=>(0<=j/\j<=8)/\(0<=v/\v<4294967296)/\(zS (8-j).toNat v=zS 8 k)) y) (cu [.int .i64,.int .u32] (fun(j:Int) (v:Int)=>((8:Int)-j).toNat)) (cu [.int .i64,.int .u32] (fun(j:Int) (v:Int)=>([]:List (Nat×Nat×LA)))))]:List (Nat×Nat×LA)))))],?_⟩;repeat' (first
  |(
 with_reducible refine Side.mk ⟨(⟨⟩:Tag 20),?_⟩
 dsimp only[cu,aC,aB,gts,eE,eN]
 refine⟨?_,?_⟩
 ·omega
 ·first
  |simp;done
  |(
  rw[show(k+1).toNat=k.toNat+1 by omega,List.range_succ,List.map_append,hm]
  simp only[List.map_cons,List.map_nil]
  rw[show((k.toNat:Nat):Int)=k by omega,<-hj,show(8-j).toNat=0 by omega]
  rfl))
  |(
 with_reducible refine Side.mk ⟨(⟨⟩:Tag 21),?_⟩
 dsimp only[cu,aC,aB,gts,eE,eN]
 refine⟨?_,?_,?_⟩
 ·omega
 ·first
  |omega
  |exact tD _ _
  |(simpa using qD5 (by assumption) 1)
 ·first
  |rfl
  |rw[<-hj,CA (k:=j) (v:=v) (by omega),qS9 (by assumption)]
  |(rw[<-hj,CA (k:=j) (v:=v) (by omega),qOS (by assumption) (by assumption)]))
  |(
 with_reducible apply Side.mk
 (try dsimp only[cu,aC,aB,gts,loK,hiK,eE,eN])
 first
 |done
 |omega
 |exact Eq.refl _
 |(
  have hml:M.length=k.toNat:=by rw[hm];simp
  simp only[List.length_cons,List.length_nil];omega))
  |(conv=>whnf
    first
     |with_reducible first|done|exact trivial|refine NilBr.mk (fun h=>?_) ?_|apply aJ|apply aI|refine aK (by kernel_rfl) ?_|apply aL|apply bG|apply bF|apply aR
     |((with_reducible first|apply aT|apply aS|apply bD)<;>intro h<;>(try dsimp only[cu,eE,eN]at h)<;>(try(exfalso;omega)))
     |(
 intro yy (hy:Tag 20/\_)
 obtain⟨(k:Int),(M:List Int),_⟩:=yy
 replace hy:=hy.2
 dsimp only[cu,aC,aB,gts,eE,eN]at hy
 obtain⟨hk,hm⟩:=hy)
     |(
 intro yy (hy:Tag 21/\_)
 obtain⟨(j:Int),(v:Int),_⟩:=yy
 replace hy:=hy.2
 dsimp only[cu,aC,aB,gts,eE,eN]at hy
 obtain⟨hj,hv,hj⟩:=hy)))
 all_goals(
 with_reducible apply Leaf.mk
 (try dsimp only[cu,aC,aB,gts,eE,eN]at *)
 (
  rw[show k.toNat=256 by omega]at hm;exact hm))
abbrev qZW:Tbl:=(86,DA)::qZV
theorem qE6:aD Tryz.prog qZW:=aD.cons qJF qE5
abbrev LZ:Ct:=.fn [.str] (some (fun(s:ByteArray)=>(s.size<=9223372036854775807))) (fun(s:ByteArray)=>.d (.int .u32) (jS s))
theorem qS4:aH Tryz.prog 46 LZ:=by
 refine aH.fn qE6 mixed [] [] rfl rfl ?_;rintro⟨(s:ByteArray),_⟩ hpre;replace hpre:=hpre _ rfl;dsimp only[cu]at hpre;have hs:=hpre;refine⟨[],?_⟩;repeat' (first
  |(
 with_reducible apply Side.mk
 (try dsimp only[cu,aC,aB,gts,loK,hiK,eE,eN])
 omega)
  |(conv=>whnf
    first
     |with_reducible first|done|exact trivial|refine NilBr.mk (fun h=>?_) ?_|apply aJ|apply aI|refine aK (by kernel_rfl) ?_|apply aL|apply bG|apply bF|apply aR
     |((with_reducible first|apply aT|apply aS|apply bD)<;>intro h<;>(try dsimp only[cu,eE,eN]at h)<;>(try(exfalso;omega)))))
 all_goals(
 with_reducible apply Leaf.mk
 (try dsimp only[cu,aC,aB,gts,eE,eN]at *)
 rfl)
abbrev qZX:Tbl:=(46,LZ)::qZW
theorem qE7:aD Tryz.prog qZX:=aD.cons qS4 qE6
def fB (l:List Bool) (q:Nat):Int:=if l[q]! =true then 1 else 0
theorem qYL (l:List Bool):tF (fB l):=fun q=>by unfold fB;split<;>simp
def jP (l:List Bool):ByteArray:=aV (gL (fB l) l.length 8 (((l.length:Int)+7).tdiv 8).toNat)
def PQ (s:ByteArray) (q:Nat):Bool:=decide (sbit s q=1)
def sQ (s:ByteArray) (n:Nat):List Bool:=(List.range n).map (PQ s)
def jL (s:ByteArray) (n:Int):List Bool×Int:=
 if n<0\/n>4096 then([],4)else if(s.size:Int)<(n+7).tdiv 8 then([],10)else if(s.size:Int)>(n+7).tdiv 8 then([],2)
 else if iQ s n.toNat=true then([],2)else(sQ s n.toNat,0)
def oQ (s:ByteArray):Nat->Int
 |0=>0
 |m+1=>oQ s m+sbit s m
def NW (n:Nat):Int:=((n%2+n/2%2+n/4%2+n/8%2+n/16%2+n/32%2+n/64%2+n/128%2:Nat):Int)
def qJ (s:ByteArray):Int:=oQ s (8*s.size)
theorem qHK {f g:Nat->Int} (h:(List.range 256).all (fun n=>decide (f n=g n))=true) {n:Int} (hn:0<=n/\n<256):f n.toNat=g n.toNat:=of_decide_eq_true (PM h hn)
theorem qSA {b:ByteArray} {x:Int} (h:b.size=256) (hx:x<256):x<(b.size:Int):=by omega
theorem MS (s:ByteArray):∀m,0<=oQ s m/\oQ s m<=m
 |0=>by simp [oQ]
 |m+1=>by
  have:=MS s m;have:=xK s m;rw[oQ];omega
theorem qTG (s:ByteArray) (k u:Nat) (hu:u<8):sbit s (8*k+u)=aG s k/2^u%2:=by
 unfold sbit;rw[show(8*k+u)/8=k by omega,show(8*k+u)%8=u by omega]
theorem qI1 (n:Nat):0<=NW n/\NW n<=8:=by unfold NW;omega
theorem qLP (s:ByteArray) (k:Nat):oQ s (8*(k+1))=oQ s (8*k)+NW (aG s k).toNat:=by
 have hb:=cI s k;obtain⟨b,hbb⟩:=Int.eq_ofNat_of_zero_le hb.1;have e:∀u,u<8->sbit s (8*k+u)=((b/2^u%2:Nat):Int):=fun u hu=>by
  rw[qTG s k u hu,hbb];simp
 rw[hbb,Int.toNat_natCast,show 8*(k+1)=8*k+7+1 by omega];simp only[oQ,e 7 (by decide),e 6 (by decide),e 5 (by decide),e 4 (by decide),e 3 (by decide),e 2 (by decide),e 1 (by decide)];have e0:=e 0 (by decide);rw[Nat.add_zero]at e0;rw[e0];simp only[NW,Nat.reducePow];omega
theorem lP {n:Int} (h:0<=n):n.tdiv 8=n/8:=Int.tdiv_eq_ediv_of_nonneg h
theorem OW {n:Int} (h:0<=n):n.tmod 8=n%8:=Int.tmod_eq_emod_of_nonneg h
theorem BA (s:ByteArray) (n:Nat):(sQ s n).length=n:=by simp [sQ]
theorem FQ (s:ByteArray) {k:Int} (h:0<=k):sQ s (k+1).toNat=sQ s k.toNat++ [PQ s k.toNat]:=by
 rw[show(k+1).toNat=k.toNat+1 by omega];simp [sQ,List.range_succ]
theorem qVY {s:ByteArray} {q:Nat} (h:PQ s q=true):sbit s q=1:=of_decide_eq_true h
theorem qVX {s:ByteArray} {q:Nat} (h:PQ s q=false):sbit s q≠1:=of_decide_eq_false h
abbrev CY:Ct:=.fn [.list .bool] (some (fun(l:List Bool)=>(l.length<=1073741824))) (fun(l:List Bool)=>.d .str (jP l))
theorem qJC:aH Tryz.prog 120 CY:=by
 refine aH.fn qE7 mixed [] [] rfl rfl ?_;rintro⟨(l:List Bool),_⟩ hpre;replace hpre:=hpre _ rfl;dsimp only[cu]at hpre;have hl:=hpre;refine⟨[(0,6,LA.mk [.sl 13 (.int .i64),.ar 0 (.int .u8) 5] (fun y=>Tag 22/\cu [.int .i64,.list (.int .u8)] (fun(k:Int) (O:List Int)=>(0<=k/\k<=l.length)/\(O=gL (fB l) k.toNat 8 (((l.length:Int)+7).tdiv 8).toNat)) y) (cu [.int .i64,.list (.int .u8)] (fun(k:Int) (O:List Int)=>((l.length:Int)-k).toNat)) (cu [.int .i64,.list (.int .u8)] (fun(k:Int) (O:List Int)=>([]:List (Nat×Nat×LA)))))],?_⟩;repeat' (first
  |(
 with_reducible refine Side.mk ⟨(⟨⟩:Tag 22),?_⟩
 dsimp only[cu,aC,aB,gts,eE,eN]
 refine⟨?_,?_⟩
 ·omega
 ·first
  |exact(QT _ _ _).symm
  |(
  rw[hO]
  rw[aY (n:=k.tmod 8) (by rw[OW (by omega)];omega)]
  have hd1:=lP (n:=k) (by omega)
  have hd2:=lP (n:=(l.length:Int)+7) (by omega)
  have hk:l[k.toNat]! =true:=by first|assumption|(simp_all;done)
  refine VE (qYL _) (by omega) (by omega) ?_ rfl rfl
  rw[fB,if_pos hk])
  |(
  rw[hO,show(k+1).toNat=k.toNat+1 by omega]
  have hk:¬l[k.toNat]! =true:=by first|assumption|(simp_all;done)
  refine qCO (by decide) ?_
  rw[fB,if_neg hk]))
  |(
 with_reducible apply Side.mk
 (try dsimp only[cu,aC,aB,gts,loK,hiK,eE,eN])
 first
 |omega
 |(
  have hd1:=lP (n:=k) (by omega);have hd2:=lP (n:=(l.length:Int)+7) (by omega);omega)
 |rw[lP (by omega)];omega
 |rw[hO,iW,lP (by omega),lP (by omega)];omega
 |(
  rw[aY (n:=k.tmod 8) (by rw[OW (by omega)];omega)];rw[OW (by omega)];omega)
 |(simp only[hO,iW];done))
  |(conv=>whnf
    first
     |with_reducible first|done|exact trivial|refine NilBr.mk (fun h=>?_) ?_|apply aJ|apply aI|refine aK (by kernel_rfl) ?_|apply aL|apply bG|apply bF|apply aR
     |((with_reducible first|apply aT|apply aS|apply bD)<;>intro h<;>(try dsimp only[cu,eE,eN]at h)<;>(try(exfalso;omega)))
     |(
 intro yy (hy:Tag 22/\_)
 obtain⟨(k:Int),(O:List Int),_⟩:=yy
 replace hy:=hy.2
 dsimp only[cu,aC,aB,gts,eE,eN]at hy
 obtain⟨hk,hO⟩:=hy)))
 all_goals(
 with_reducible apply Leaf.mk
 (try dsimp only[cu,aC,aB,gts,eE,eN]at *)
 (rw[hO,show k.toNat=l.length by omega];rfl))
abbrev qZY:Tbl:=(120,CY)::qZX
theorem qE8:aD Tryz.prog qZY:=aD.cons qJC qE7
abbrev LQ:Ct:=.fn [.str,.int .i64] (some (fun(s:ByteArray) (i:Int)=>(s.size<=288230376151711744)/\(0<=i/\i<8*s.size))) (fun(s:ByteArray) (i:Int)=>.d .bool (PQ s i.toNat))
theorem qSP:aH Tryz.prog 187 LQ:=by
 refine aH.fn qE8 mixed [] [] rfl rfl ?_;rintro⟨(s:ByteArray),(i:Int),_⟩ hpre;replace hpre:=hpre _ rfl;dsimp only[cu]at hpre;obtain⟨hs,hi⟩:=hpre;refine⟨[],?_⟩;repeat' (first
  |(
 with_reducible apply Side.mk
 (try dsimp only[cu,aC,aB,gts,loK,hiK,eE,eN])
 first
 |omega
 |rw[lP (by omega)];omega
 |(rw[OW (by omega)];omega))
  |(conv=>whnf
    first
     |with_reducible first|done|exact trivial|refine NilBr.mk (fun h=>?_) ?_|apply aJ|apply aI|refine aK (by kernel_rfl) ?_|apply aL|apply bG|apply bF|apply aR
     |((with_reducible first|apply aT|apply aS|apply bD)<;>intro h<;>(try dsimp only[cu,eE,eN]at h)<;>(try(exfalso;omega)))))
 all_goals(
 with_reducible apply Leaf.mk
 (try dsimp only[cu,aC,aB,gts,eE,eN]at *)
 (
  unfold PQ;rw[(qLC s (a:=i) (by omega)).1]))
abbrev qZZ:Tbl:=(187,LQ)::qZY
theorem qE9:aD Tryz.prog qZZ:=aD.cons qSP qE8
abbrev LW:Ct:=.fn [.int .u8] (some (fun(x:Int)=>(0<=x/\x<256))) (fun(x:Int)=>.d (.int .i64) (NW x.toNat))
theorem qSY:aH Tryz.prog 186 LW:=by
 refine aH.fn qE9 mixed [] [] rfl rfl ?_;rintro⟨(x:Int),_⟩ hpre;replace hpre:=hpre _ rfl;dsimp only[cu]at hpre;have hx:=hpre;refine⟨[],?_⟩;repeat' (first
  |(
 with_reducible apply Side.mk
 (try dsimp only[cu,aC,aB,gts,loK,hiK,eE,eN])
 first
 |omega
 |exact qSA (by kernel_rfl) hx.2
 |(exact⟨Int.le_trans (by decide) (cI _ _).1,Int.le_trans (Int.le_of_lt (cI _ _).2) (by decide)⟩))
  |(conv=>whnf
    first
     |with_reducible first|done|exact trivial|refine NilBr.mk (fun h=>?_) ?_|apply aJ|apply aI|refine aK (by kernel_rfl) ?_|apply aL|apply bG|apply bF|apply aR
     |((with_reducible first|apply aT|apply aS|apply bD)<;>intro h<;>(try dsimp only[cu,eE,eN]at h)<;>(try(exfalso;omega)))))
 all_goals(
 with_reducible apply Leaf.mk
 (try dsimp only[cu,aC,aB,gts,eE,eN]at *)
 exact qHK (by kernel_rfl) hx)
abbrev qZ0:Tbl:=(186,LW)::qZZ
theorem qFA:aD Tryz.prog qZ0:=aD.cons qSY qE9
abbrev CU:Ct:=.fn [.str] (some (fun(s:ByteArray)=>(s.size<=288230376151711744))) (fun(s:ByteArray)=>.d (.int .i64) (qJ s))
theorem qIX:aH Tryz.prog 164 CU:=by
 refine aH.fn qFA mixed [] [] rfl rfl ?_;rintro⟨(s:ByteArray),_⟩ hpre;replace hpre:=hpre _ rfl;dsimp only[cu]at hpre;have hs:=hpre;refine⟨[(0,6,LA.mk [.sl 7 (.int .i64),.sl 3 (.int .i64)] (fun y=>Tag 23/\cu [.int .i64,.int .i64] (fun(k:Int) (c:Int)=>(0<=k/\k<=s.size)/\(c=oQ s (8*k.toNat))) y) (cu [.int .i64,.int .i64] (fun(k:Int) (c:Int)=>((s.size:Int)-k).toNat)) (cu [.int .i64,.int .i64] (fun(k:Int) (c:Int)=>([]:List (Nat×Nat×LA)))))],?_⟩;repeat' (first
  |(
 with_reducible refine Side.mk ⟨(⟨⟩:Tag 23),?_⟩
 dsimp only[cu,aC,aB,gts,eE,eN]
 refine⟨?_,?_⟩
 ·omega
 ·first
  |rfl
  |(rw[show(k+1).toNat=k.toNat+1 by omega,qLP,hc]))
  |(
 with_reducible apply Side.mk
 (try dsimp only[cu,aC,aB,gts,loK,hiK,eE,eN])
 first
 |omega
 |exact cI _ _
 |(
  have:=MS s (8*k.toNat);have:=qI1 (aG s k.toNat).toNat;omega))
  |(conv=>whnf
    first
     |with_reducible first|done|exact trivial|refine NilBr.mk (fun h=>?_) ?_|apply aJ|apply aI|refine aK (by kernel_rfl) ?_|apply aL|apply bG|apply bF|apply aR
     |((with_reducible first|apply aT|apply aS|apply bD)<;>intro h<;>(try dsimp only[cu,eE,eN]at h)<;>(try(exfalso;omega)))
     |(
 intro yy (hy:Tag 23/\_)
 obtain⟨(k:Int),(c:Int),_⟩:=yy
 replace hy:=hy.2
 dsimp only[cu,aC,aB,gts,eE,eN]at hy
 obtain⟨hk,hc⟩:=hy)))
 all_goals(
 with_reducible apply Leaf.mk
 (try dsimp only[cu,aC,aB,gts,eE,eN]at *)
 (rw[hc,show k.toNat=s.size by omega];rfl))
abbrev qZ1:Tbl:=(164,CU)::qZ0
theorem qFB:aD Tryz.prog qZ1:=aD.cons qIX qFA
abbrev yG:Ct:=.fn [.str,.int .i64] (some (fun(s:ByteArray) (n:Int)=>(s.size<=288230376151711744))) (fun(s:ByteArray) (n:Int)=>.tup [.list .bool,.int .i64] ((jL s n).1,(jL s n).2,()))
theorem qAZ:aH Tryz.prog 165 yG:=by
 refine aH.fn qFB mixed [] [] rfl rfl ?_;rintro⟨(s:ByteArray),(n:Int),_⟩ hpre;replace hpre:=hpre _ rfl;dsimp only[cu]at hpre;have hs:=hpre;refine⟨[(0,18,LA.mk [.sl 48 (.int .i64),.ar 0 .bool 4] (fun y=>Tag 24/\cu [.int .i64,.list .bool] (fun(k:Int) (O:List Bool)=>(0<=k/\k<=n)/\(O.length=n.toNat)/\(O.take k.toNat=sQ s k.toNat)) y) (cu [.int .i64,.list .bool] (fun(k:Int) (O:List Bool)=>((n:Int)-k).toNat)) (cu [.int .i64,.list .bool] (fun(k:Int) (O:List Bool)=>([]:List (Nat×Nat×LA)))))],?_⟩;repeat' (first
  |(
 with_reducible refine Side.mk ⟨(⟨⟩:Tag 24),?_⟩
 dsimp only[cu,aC,aB,gts,eE,eN]
 refine⟨?_,?_,?_⟩
 ·omega
 ·first
  |simp;done
  |simp;omega
 ·first
  |rfl
  |(rw[show(k+1).toNat=k.toNat+1 by omega,AH _ _ _ (by omega),hO,<-show(k+1).toNat=k.toNat+1 by omega,FQ s (by omega)]))
  |(
 with_reducible apply Side.mk
 (try dsimp only[cu,aC,aB,gts,loK,hiK,eE,eN])
 first
 |omega
 |(
  have hd:=lP (n:=n+7) (by omega);have hd2:=lP (n:=n) (by omega);have hm2:=OW (n:=n) (by omega);omega))
  |(conv=>whnf
    first
     |with_reducible first|done|exact trivial|refine NilBr.mk (fun h=>?_) ?_|apply aJ|apply aI|refine aK (by kernel_rfl) ?_|apply aL|apply bG|apply bF|apply aR
     |((with_reducible first|apply aT|apply aS|apply bD)<;>intro h<;>(try dsimp only[cu,eE,eN]at h)<;>(try(exfalso;omega)))
     |(
 intro yy (hy:Tag 24/\_)
 obtain⟨(k:Int),(O:List Bool),_⟩:=yy
 replace hy:=hy.2
 dsimp only[cu,aC,aB,gts,eE,eN]at hy
 obtain⟨hk,hl,hO⟩:=hy)))
 all_goals(
 with_reducible apply Leaf.mk
 (try dsimp only[cu,aC,aB,gts,eE,eN]at *)
 first
 |(
  have q:n<0\/n>4096:=by omega
  rw[jL,if_pos q])
 |(
  have h1:¬(n<0\/n>4096):=by omega
  first
  |(
   have h2:(s.size:Int)<(n+7).tdiv 8:=by omega
   rw[jL,if_neg h1,if_pos h2])
  |(
   have h2:¬(s.size:Int)<(n+7).tdiv 8:=by omega
   have h3:(s.size:Int)>(n+7).tdiv 8:=by omega
   rw[jL,if_neg h1,if_neg h2,if_pos h3]))
 |(
  have hd:=lP (n:=n+7) (by omega);have hd2:=lP (n:=n) (by omega);have hm2:=OW (n:=n) (by omega);have h1:¬(n<0\/n>4096):=by omega
  have h2:¬(s.size:Int)<(n+7).tdiv 8:=by omega
  have h3:¬(s.size:Int)>(n+7).tdiv 8:=by omega
  have ht:=WT (s:=s) (m:=n.toNat) (by omega);obtain⟨t1,t2⟩:=OV s (a:=n) (by omega);first
  |(
   have h4:iQ s n.toNat=true:=ht.2 ⟨by omega,by rw[<-t1];assumption⟩;rw[jL,if_neg h1,if_neg h2,if_neg h3,if_pos h4])
  |(
   have h4:¬iQ s n.toNat=true:=by
    intro q;obtain⟨g1,g2⟩:=ht.1 q;rw[<-t1]at g2;first|omega|(simp_all;done)
   rw[jL,if_neg h1,if_neg h2,if_neg h3,if_neg h4];(try rw[List.take_of_length_le (by omega),show k.toNat=n.toNat by omega]at hO);first|done|rfl|exact hO)))
abbrev qZ2:Tbl:=(165,yG)::qZ1
theorem qFC:aD Tryz.prog qZ2:=aD.cons qAZ qFB
def inI (n:Int):Prop:=-9223372036854775808<=n/\n<=9223372036854775807
def dG (n:Int):Int:=if n<0 then(-(n+1))*2+1 else n*2
def mJ (v:Int):Int:=if v%2=1 then -(v/2)-1 else v/2
theorem gE {n:Int} (h:inI n):0<=dG n/\dG n<18446744073709551616:=by unfold inI at h;unfold dG;split<;>omega
theorem vX (n:Int):mJ (dG n)=n:=by unfold dG mJ;split<;>split<;>omega
theorem qWR {a:Int} (h:inI a):IntKind.i64.wrap a=a:=by unfold inI at h;simp [IntKind.wrap,IntKind.bits,IntKind.signed];omega
theorem qbY {a:Int} (h:inI a):lK .i64 a 0=a:=by
 unfold lK;rw[show BitVec.ofInt IntKind.i64.bits 0=0#IntKind.i64.bits from rfl,BitVec.xor_zero,BitVec.toNat_ofInt];unfold inI at h;simp [IntKind.wrap,IntKind.bits,IntKind.signed];omega
theorem qbZ {a:Int} (h:0<=a/\a<=9223372036854775807):lK .i64 a (-1) = -a-1:=by
 unfold lK;rw[show BitVec.ofInt IntKind.i64.bits (-1)=BitVec.allOnes IntKind.i64.bits from rfl,BitVec.xor_allOnes,BitVec.toNat_not,BitVec.toNat_ofInt];have e2:(2:Nat)^IntKind.i64.bits=18446744073709551616:=rfl;have e3:((2^IntKind.i64.bits-1-(a%((2^IntKind.i64.bits:Nat):Int)).toNat:Nat):Int)=18446744073709551615-a:=by
  rw[e2];omega
 rw[e3];simp [IntKind.wrap,IntKind.bits,IntKind.signed];omega
theorem qX3 {v:Int} (h:0<=v/\v<18446744073709551616):lK .i64 (jC .u64 v 1) (IntKind.i64.wrap (0-rO .u64 v 1))=mJ v:=by
 rw[qO4 h.1,PN h];unfold mJ;have:inI (v/2):=by unfold inI;omega
 split
 ·rename_i q
  rw[q,show IntKind.i64.wrap (0-1) = -1 from rfl,qbZ (by omega)]
 ·rename_i q
  rw[show v%2=0 by omega,show IntKind.i64.wrap (0-0)=0 from rfl,qbY this]
abbrev MD:Ct:=.fn [.int .i64] (some (fun(n:Int)=>(inI n))) (fun(n:Int)=>.d (.int .u64) (dG n))
theorem qTE:aH Tryz.prog 122 MD:=by
 refine aH.fn qFC mixed [] [] rfl rfl ?_;rintro⟨(n:Int),_⟩ hpre;replace hpre:=hpre _ rfl;dsimp only[cu]at hpre;have hn:=hpre;unfold inI at hn;refine⟨[],?_⟩;repeat' (first
  |(
 with_reducible apply Side.mk
 (try dsimp only[cu,aC,aB,gts,loK,hiK,eE,eN])
 omega)
  |(conv=>whnf
    first
     |with_reducible first|done|exact trivial|refine NilBr.mk (fun h=>?_) ?_|apply aJ|apply aI|refine aK (by kernel_rfl) ?_|apply aL|apply bG|apply bF|apply aR
     |((with_reducible first|apply aT|apply aS|apply bD)<;>intro h<;>(try dsimp only[cu,eE,eN]at h)<;>(try(exfalso;omega)))))
 all_goals(
 with_reducible apply Leaf.mk
 (try dsimp only[cu,aC,aB,gts,eE,eN]at *)
 first
 |(
  have q:¬n<0:=by assumption
  rw[dG,if_neg q,aY (n:=n) (by omega),aY (by omega)])
 |(
  have q:n<0:=by assumption
  rw[dG,if_pos q,qWR (a:=0-(n+1)) (by unfold inI;omega),aY (n:=0-(n+1)) (by omega),aY (n:=(0-(n+1))*2) (by omega),aY (by omega)];show(_:Int)=_;omega))
abbrev qZ3:Tbl:=(122,MD)::qZ2
theorem qFD:aD Tryz.prog qZ3:=aD.cons qTE qFC
abbrev TH:Ct:=.fn [.int .u64] (some (fun(v:Int)=>(0<=v/\v<18446744073709551616))) (fun(v:Int)=>.d (.int .i64) (mJ v))
theorem qX4:aH Tryz.prog 160 TH:=by
 refine aH.fn qFD mixed [] [] rfl rfl ?_;rintro⟨(v:Int),_⟩ hpre;replace hpre:=hpre _ rfl;dsimp only[cu]at hpre;have hv:=hpre;refine⟨[],?_⟩;repeat' (first
  |(
 with_reducible apply Side.mk
 (try dsimp only[cu,aC,aB,gts,loK,hiK,eE,eN])
 first
 |omega
 |(
  have h1:=PN hv;have h2:=qO4 hv.1;first
  |(
   rw[h2];omega)
  |(
   rw[h1];omega)))
  |(conv=>whnf
    first
     |with_reducible first|done|exact trivial|refine NilBr.mk (fun h=>?_) ?_|apply aJ|apply aI|refine aK (by kernel_rfl) ?_|apply aL|apply bG|apply bF|apply aR
     |((with_reducible first|apply aT|apply aS|apply bD)<;>intro h<;>(try dsimp only[cu,eE,eN]at h)<;>(try(exfalso;omega)))))
 all_goals(
 with_reducible apply Leaf.mk
 (try dsimp only[cu,aC,aB,gts,eE,eN]at *)
 rw[qX3 hv])
abbrev qZ4:Tbl:=(160,TH)::qZ3
theorem qFE:aD Tryz.prog qZ4:=aD.cons qX4 qFD
def dX (v:Int):List Int->Nat
 | []=>0
 |x::l=>if x=v then dX v l+1 else 0
theorem CB (v:Int):∀l:List Int,dX v l<=l.length
 | []=>Nat.le_refl _
 |x::l=>by
  have:=CB v l;unfold dX;split<;>simp<;>omega
theorem OL {v:Int}:∀ {l:List Int} {m:Nat},m<=l.length->(∀j,j<m->l[j]! =v)->(m=l.length\/¬l[m]! =v)->dX v l=m
 | [],m,h,_,_=>by simp at h;subst h;rfl
 |x::l,0,_,_,h=>by
  rcases h with h|h
  ·simp at h
  ·unfold dX;rw[if_neg (by simpa using h)]
 |x::l,m+1,h,h1,h2=>by
  have h0:x=v:=by simpa using h1 0 (by omega)
  unfold dX;rw[if_pos h0,OL (m:=m) (by simpa using h) (fun j hj=>by simpa using h1 (j+1) (by omega)) (by simpa using h2)]
def runs:List Int->List (Int×Int)
 | []=>[]
 |v::l=>((dX v l:Int)+1,v)::runs (l.drop (dX v l))
termination_by l=>l.length
decreasing_by simp;omega
theorem UA (l:List Int) (a j:Nat):(l.drop a)[j]! =l[a+j]!:=by
 simp [List.getElem!_eq_getElem?_getD,List.getElem?_drop]
theorem qJH {l:List Int} {i k:Int} (h:0<=i/\i<k/\k<=l.length) (he:∀j:Nat,i<=j->(j:Int)<k->l[j]! =l[i.toNat]!) (hn:k=l.length\/¬l[k.toNat]! =l[i.toNat]!) :
  runs (l.drop i.toNat)=(k-i,l[i.toNat]!)::runs (l.drop k.toNat):=by
 have e:dX l[i.toNat]! (l.drop (i+1).toNat)=(k-i-1).toNat:=by
  refine OL (by simp;omega) (fun j hj=>?_) ?_
  ·rw[UA];exact he _ (by omega) (by omega)
  ·rcases hn with q|q
   ·left;simp;omega
   ·right;rw[UA,show(i+1).toNat+(k-i-1).toNat=k.toNat by omega];exact q
 rw[bN l i (by omega),runs,e,List.drop_drop,show(i+1).toNat+(k-i-1).toNat=k.toNat by omega,show(((k-i-1).toNat:Nat):Int)+1=k-i by omega]
def xB:List (Int×Int)->List Int
 | []=>[]
 |(n,v)::r=>put n++(put (dG v)++xB r)
def rS (l:List Int):ByteArray:=aV (xB (runs l))
theorem IC {l:List Int} (h:∀x,x∈l->inI x) (k:Nat):inI l[k]!:=by
 by_cases q:k<l.length
 ·rw[getElem!_pos l k q];exact h _ (List.getElem_mem q)
 ·rw[getElem!_neg l k q];unfold inI;exact⟨by decide,by decide⟩
def dGo (s:ByteArray) (n a:Int) (M:List Int):List Int×Int:=
 if h0:(M.length:Int)<n then
  if(aA s a).2.2≠0 then([],(aA s a).2.2)
  else if h1:(aA s a).1=0\/(aA s a).1>n-M.length then([],2)
  else if(aA s (aA s a).2.1).2.2≠0 then([],(aA s (aA s a).2.1).2.2)
  else if 0<M.length/\M[M.length-1]! =mJ (aA s (aA s a).2.1).1 then([],2)
  else dGo s n (aA s (aA s a).2.1).2.1 (M++List.replicate (aA s a).1.toNat (mJ (aA s (aA s a).2.1).1))
 else if a<s.size then([],2)else(M,0)
termination_by (n-M.length).toNat
decreasing_by
 have:=bB s a;simp only[List.length_append,List.length_replicate];omega
def eH (s:ByteArray) (n:Int):List Int×Int:=if n<0\/n>4096 then([],4)else dGo s n 0 []
theorem qYC {s:ByteArray} {n a:Int} {M:List Int} (h:(M.length:Int)<n) (h1:¬(aA s a).2.2=0):dGo s n a M=([],(aA s a).2.2):=by rw[dGo,dif_pos h,if_pos h1]
theorem qYD {s:ByteArray} {n a:Int} {M:List Int} (h:(M.length:Int)<n) (h1:(aA s a).2.2=0) (h2:(aA s a).1=0\/(aA s a).1>n-M.length):dGo s n a M=([],2):=by rw[dGo,dif_pos h,if_neg (fun q=>q h1),dif_pos h2]
theorem qYE {s:ByteArray} {n a:Int} {M:List Int} (h:(M.length:Int)<n) (h1:(aA s a).2.2=0) (h2:¬((aA s a).1=0\/(aA s a).1>n-M.length)) (h3:¬(aA s (aA s a).2.1).2.2=0):dGo s n a M=([],(aA s (aA s a).2.1).2.2):=by
 rw[dGo,dif_pos h,if_neg (fun q=>q h1),dif_neg h2,if_pos h3]
theorem qYF {s:ByteArray} {n a:Int} {M:List Int} (h:(M.length:Int)<n) (h1:(aA s a).2.2=0) (h2:¬((aA s a).1=0\/(aA s a).1>n-M.length)) (h3:(aA s (aA s a).2.1).2.2=0) (h4:0<M.length/\M[M.length-1]! =mJ (aA s (aA s a).2.1).1):dGo s n a M=([],2):=by
 rw[dGo,dif_pos h,if_neg (fun q=>q h1),dif_neg h2,if_neg (fun q=>q h3),if_pos h4]
theorem qUE {s:ByteArray} {n a:Int} {M:List Int} (h:(M.length:Int)<n) (h1:(aA s a).2.2=0) (h2:¬((aA s a).1=0\/(aA s a).1>n-M.length)) (h3:(aA s (aA s a).2.1).2.2=0) (h4:¬(0<M.length/\M[M.length-1]! =mJ (aA s (aA s a).2.1).1)) :
  dGo s n a M=dGo s n (aA s (aA s a).2.1).2.1 (M++List.replicate (aA s a).1.toNat (mJ (aA s (aA s a).2.1).1)):=by
 rw[dGo,dif_pos h,if_neg (fun q=>q h1),dif_neg h2,if_neg (fun q=>q h3),if_neg h4]
theorem qLV {s:ByteArray} {n a:Int} {M:List Int} (h:¬(M.length:Int)<n):dGo s n a M=if a<s.size then([],2)else(M,0):=by rw[dGo,dif_neg h]
theorem qOL {M:List Int} {u v:Int} (h:0<=u):M++List.replicate (u+1).toNat v=M++List.replicate u.toNat v++ [v]:=by
 rw[show(u+1).toNat=u.toNat+1 by omega,List.replicate_succ',List.append_assoc]
abbrev GN:Ct:=.fn [.list (.int .i64)] (some (fun(l:List Int)=>(l.length<=1073741824)/\(∀x,x∈l->inI x))) (fun(l:List Int)=>.d .str (rS l))
theorem qOK:aH Tryz.prog 155 GN:=by
 refine aH.fn qFE mixed [] [] rfl rfl ?_;rintro⟨(l:List Int),_⟩ hpre;replace hpre:=hpre _ rfl;dsimp only[cu]at hpre;obtain⟨hl,hv⟩:=hpre;refine⟨[(0,6,LA.mk [.sl 4 (.int .i64),.sl 3 .str] (fun y=>Tag 25/\cu [.int .i64,.str] (fun(i:Int) (x:ByteArray)=>(0<=i/\i<=l.length)/\(rS l=x++aV (xB (runs (l.drop i.toNat))))/\((x.size:Int)<=20*i)) y) (cu [.int .i64,.str] (fun(i:Int) (x:ByteArray)=>((l.length:Int)-i).toNat)) (cu [.int .i64,.str] (fun(i:Int) (x:ByteArray)=>([(0,10,LA.mk [.sl 5 (.int .i64)] (fun y=>Tag 26/\cu [.int .i64] (fun(k:Int)=>(i<=k/\k<=l.length)/\(∀j:Nat,i<=j->(j:Int)<k->l[j]! =l[i.toNat]!)) y) (cu [.int .i64] (fun(k:Int)=>((l.length:Int)-k).toNat)) (cu [.int .i64] (fun(k:Int)=>([]:List (Nat×Nat×LA)))))]:List (Nat×Nat×LA)))))],?_⟩;repeat' (first
  |(
 with_reducible refine Side.mk ⟨(⟨⟩:Tag 25),?_⟩
 dsimp only[cu,aC,aB,gts,eE,eN]
 refine⟨?_,?_,?_⟩
 ·omega
 ·first
  |rw[show(⟨#[]⟩:ByteArray)=ByteArray.empty from rfl,ByteArray.empty_append];rfl
  |(
  have hik:i<k:=by
   rcases Int.lt_or_le i k with q|q
   ·exact q
   ·exfalso
    have e:k=i:=by omega
    subst e;first|omega|(simp_all;done)
  have hst:=qJH (l:=l) (i:=i) (k:=k) (by omega) he (by first|(left;omega)|(right;assumption)|(right;simp_all;done))
  have p1:=bM (k-i)
  have p2:=bM (dG l[i.toNat]!)
  have hui:=aY (n:=k-i) (by omega)
  rw[hx,hst,xB,hui]
  simp only[iZ,ByteArray.append_assoc])
 ·first
  |exact Int.le_refl _
  |(
  have hik:i<k:=by
   rcases Int.lt_or_le i k with q|q
   ·exact q
   ·exfalso
    have e:k=i:=by omega
    subst e;first|omega|(simp_all;done)
  have p1:=bM (k-i)
  have p2:=bM (dG l[i.toNat]!)
  have hui:=aY (n:=k-i) (by omega)
  simp only[ByteArray.size_append,cC,hui]
  omega))
  |(
 with_reducible refine Side.mk ⟨(⟨⟩:Tag 26),?_⟩
 dsimp only[cu,aC,aB,gts,eE,eN]
 refine⟨?_,?_⟩
 ·omega
 ·first
  |intro j h1 h2;omega
  |(
  intro j h1 h2
  rcases Int.lt_or_le (j:Int) k with q|q
  ·exact he j h1 q
  ·rw[show j=k.toNat by omega];first|assumption|(simp_all;done)))
  |(
 with_reducible apply Side.mk
 (try dsimp only[cu,aC,aB,gts,loK,hiK,eE,eN])
 first
 |omega
 |(
  have hik:i<k:=by
   rcases Int.lt_or_le i k with q|q
   ·exact q
   ·exfalso
    have e:k=i:=by omega
    subst e;first|omega|(simp_all;done)
  omega)
 |exact IC hv _
 |exact gE (IC hv _)
 |(
  have hui:=aY (n:=k-i) (by omega);omega)
 |(
  have hik:i<k:=by
   rcases Int.lt_or_le i k with q|q
   ·exact q
   ·exfalso
    have e:k=i:=by omega
    subst e;first|omega|(simp_all;done)
  have p1:=bM (k-i);have p2:=bM (dG l[i.toNat]!);have hui:=aY (n:=k-i) (by omega);simp only[ByteArray.size_append,cC,hui];omega))
  |(conv=>whnf
    first
     |with_reducible first|done|exact trivial|refine NilBr.mk (fun h=>?_) ?_|apply aJ|apply aI|refine aK (by kernel_rfl) ?_|apply aL|apply bG|apply bF|apply aR
     |((with_reducible first|apply aT|apply aS|apply bD)<;>intro h<;>(try dsimp only[cu,eE,eN]at h)<;>(try(exfalso;omega)))
     |(
 intro yy (hy:Tag 25/\_)
 obtain⟨(i:Int),(x:ByteArray),_⟩:=yy
 replace hy:=hy.2
 dsimp only[cu,aC,aB,gts,eE,eN]at hy
 obtain⟨hi,hx,hz⟩:=hy)
     |(
 intro yy (hy:Tag 26/\_)
 obtain⟨(k:Int),_⟩:=yy
 replace hy:=hy.2
 dsimp only[cu,aC,aB,gts,eE,eN]at hy
 obtain⟨hk,he⟩:=hy)))
 all_goals(
 with_reducible apply Leaf.mk
 (try dsimp only[cu,aC,aB,gts,eE,eN]at *)
 (
  rw[hx,List.drop_eq_nil_of_le (by omega),runs,xB];show x=x++ByteArray.empty;simp))
abbrev qZ5:Tbl:=(155,GN)::qZ4
theorem qFF:aD Tryz.prog qZ5:=aD.cons qOK qFE
abbrev CX:Ct:=.fn [.str,.int .i64] (some (fun(s:ByteArray) (n:Int)=>(s.size<=288230376151711744))) (fun(s:ByteArray) (n:Int)=>.tup [.list (.int .i64),.int .i64] ((eH s n).1,(eH s n).2,()))
theorem qJB:aH Tryz.prog 190 CX:=by
 refine aH.fn qFF mixed [(0,3,3500006),(0,5,3500006),(0,9,3500006),(0,15,3500006)] [] rfl rfl ?_;rintro⟨(s:ByteArray),(n:Int),_⟩ hpre;replace hpre:=hpre _ rfl;dsimp only[cu]at hpre;have hs:=hpre;refine⟨[(0,10,LA.mk [.sl 7 (.int .i64),.nls 6 (.int .i64) 2] (fun y=>Tag 27/\cu [.int .i64,.list (.int .i64)] (fun(a:Int) (M:List Int)=>(dGo s n 0 []=dGo s n a M)/\((M.length:Int)<=n)) y) (cu [.int .i64,.list (.int .i64)] (fun(a:Int) (M:List Int)=>(n-(M.length:Int)).toNat)) (cu [.int .i64,.list (.int .i64)] (fun(a:Int) (M:List Int)=>([(0,36,LA.mk [.sl 72 (.int .u64),.nls 6 (.int .i64) 2] (fun y=>Tag 28/\cu [.int .u64,.list (.int .i64)] (fun(u:Int) (Q:List Int)=>(0<=u/\u<=(aA s a).1)/\(Q=M++List.replicate u.toNat (mJ (aA s (aA s a).2.1).1))) y) (cu [.int .u64,.list (.int .i64)] (fun(u:Int) (Q:List Int)=>((aA s a).1-u).toNat)) (cu [.int .u64,.list (.int .i64)] (fun(u:Int) (Q:List Int)=>([]:List (Nat×Nat×LA)))))]:List (Nat×Nat×LA)))))],?_⟩;repeat' (first
  |(
 with_reducible refine Side.mk ⟨(⟨⟩:Tag 27),?_⟩
 dsimp only[cu,aC,aB,gts,eE,eN]
 refine⟨?_,?_⟩
 ·first
  |rw[show List.replicate (Int.toNat 0) (0:Int)= []from rfl]
  |(
  have hg:=bB s a
  have hg2:=bB s (aA s a).2.1
  have hwn:=aY (n:=n-(M.length:Int)) (by omega)
  have h2:¬((aA s a).1=0\/(aA s a).1>n-M.length):=by omega
  have h1:(aA s a).2.2=0:=by assumption
  have h3:(aA s (aA s a).2.1).2.2=0:=by assumption
  have h4:¬(0<M.length/\M[M.length-1]! =mJ (aA s (aA s a).2.1).1):=by first|(intro q;omega)|(intro q;simp_all;done)
  rw[hM,qUE (by omega) h1 h2 h3 h4,hQ]
  (try rw[show u=(aA s a).1 by omega])
  (try rw[show(aA s a).1-u=(aA s a).1 by omega]))
 ·first
  |simp;omega
  |(
  have hg:=bB s a
  have hg2:=bB s (aA s a).2.1
  have hwn:=aY (n:=n-(M.length:Int)) (by omega)
  rw[hQ]
  simp only[List.length_append,List.length_replicate]
  omega))
  |(
 with_reducible refine Side.mk ⟨(⟨⟩:Tag 28),?_⟩
 dsimp only[cu,aC,aB,gts,eE,eN]
 refine⟨?_,?_⟩
 ·first
  |(
  have hg:=bB s a
  have hg2:=bB s (aA s a).2.1
  first
  |omega
  |(
   have hwu:=aY (n:=u+1) (by omega);omega))
 ·first
  |simp;done
  |(
  have hg:=bB s a
  have hg2:=bB s (aA s a).2.1
  have hwu:=aY (n:=u+1) (by omega)
  rw[hwu,qOL (by omega),<-hQ]))
  |(
 with_reducible apply Side.mk
 (try dsimp only[cu,aC,aB,gts,loK,hiK,eE,eN])
 first
 |done
 |omega
 |exact Eq.refl _
 |(
  have hg:=bB s a;have hg2:=bB s (aA s a).2.1;first
  |omega
  |(
   have hwu:=aY (n:=u+1) (by omega);omega)
  |(
   have hwn:=aY (n:=n-(M.length:Int)) (by omega);have hQl:=congrArg List.length hQ;simp only[List.length_append,List.length_replicate,List.length_cons,List.length_nil]at hQl ⊢;omega)))
  |(conv=>whnf
    first
     |with_reducible first|done|exact trivial|refine NilBr.mk (fun h=>?_) ?_|apply aJ|apply aI|refine aK (by kernel_rfl) ?_|apply aL|apply bG|apply bF|apply aR
     |((with_reducible first|apply aT|apply aS|apply bD)<;>intro h<;>(try dsimp only[cu,eE,eN]at h)<;>(try(exfalso;omega)))
     |(
 intro yy (hy:Tag 27/\_)
 obtain⟨(a:Int),(M:List Int),_⟩:=yy
 replace hy:=hy.2
 dsimp only[cu,aC,aB,gts,eE,eN]at hy
 obtain⟨hM,hl⟩:=hy)
     |(
 intro yy (hy:Tag 28/\_)
 obtain⟨(u:Int),(Q:List Int),_⟩:=yy
 replace hy:=hy.2
 dsimp only[cu,aC,aB,gts,eE,eN]at hy
 obtain⟨hu,hQ⟩:=hy)))
 all_goals(
 with_reducible apply Leaf.mk
 (try dsimp only[cu,aC,aB,gts,eE,eN]at *)
 first
 |(
  have q:n<0\/n>4096:=by omega
  rw[eH,if_pos q])
 |(
  have q:¬(n<0\/n>4096):=by omega
  rw[eH,if_neg q,hM];first
  |(
   have h1:¬(aA s a).2.2=0:=by assumption
   rw[qYC (by omega) h1])
  |(
   have hg:=bB s a;have hg2:=bB s (aA s a).2.1;have hwn:=aY (n:=n-(M.length:Int)) (by omega);first
   |(
    have h1:(aA s a).2.2=0:=by assumption
    have h2:(aA s a).1=0\/(aA s a).1>n-M.length:=by omega
    rw[qYD (by omega) h1 h2])
   |(
    have h2:¬((aA s a).1=0\/(aA s a).1>n-M.length):=by omega
    have h1:(aA s a).2.2=0:=by assumption
    first
    |(
     have h3:¬(aA s (aA s a).2.1).2.2=0:=by assumption
     rw[qYE (by omega) h1 h2 h3])
    |(
     have h3:(aA s (aA s a).2.1).2.2=0:=by assumption
     have h4:0<M.length/\M[M.length-1]! =mJ (aA s (aA s a).2.1).1:=⟨by omega,by first|assumption|(simp_all;done)⟩
     rw[qYF (by omega) h1 h2 h3 h4])))
  |(
   have ha:a<s.size:=by omega
   rw[qLV (by omega),if_pos ha])
  |(
   have ha:¬a<s.size:=by omega
   rw[qLV (by omega),if_neg ha])))
abbrev qZ6:Tbl:=(190,CX)::qZ5
theorem qFG:aD Tryz.prog qZ6:=aD.cons qJB qFF
def mnL:List Int->Int
 | []=>0
 |x::l=>l.foldl bT x
def mxL:List Int->Int
 | []=>0
 |x::l=>l.foldl cM x
theorem qSG (x:Int):∀l:List Int,l≠ []->mnL (l++ [x])=bT (mnL l) x
 | [],h=>absurd rfl h
 |y::l,_=>by simp [mnL]
theorem qSL (x:Int):∀l:List Int,l≠ []->mxL (l++ [x])=cM (mxL l) x
 | [],h=>absurd rfl h
 |y::l,_=>by simp [mxL]
theorem qEG {l:List Int} {k:Int} (h:1<=k/\k<l.length):l.take k.toNat≠ []:=by
 intro q;have:=congrArg List.length q;rw[List.length_take,List.length_nil]at this;omega
theorem pC {l:List Int} {k:Int} (h:0<=k/\k<l.length):l.take (k+1).toNat=l.take k.toNat++ [l[k.toNat]!]:=by
 rw[show(k+1).toNat=k.toNat+1 by omega,List.take_succ_eq_append_getElem (by omega),getElem!_pos l k.toNat (by omega)]
theorem qC9 {l:List Int} {k:Int} (h:1<=k/\k<l.length):mnL (l.take (k+1).toNat)=bT (mnL (l.take k.toNat)) l[k.toNat]!:=by
 rw[pC (by omega),qSG _ _ (qEG h)]
theorem qSN {l:List Int} {k:Int} (h:1<=k/\k<l.length):mxL (l.take (k+1).toNat)=cM (mxL (l.take k.toNat)) l[k.toNat]!:=by
 rw[pC (by omega),qSL _ _ (qEG h)]
theorem JL {l:List Int} (h:1<=l.length):l.take (1:Int).toNat= [l[0]!]:=by
 cases l with
 |nil=>simp at h
 |cons x l=>rfl
theorem qBN (s:ByteArray) (n w:Int):∀i:Nat,(bK s n w).1[i]! <18446744073709551616:=by
 intro i;have nil:∀l:List Int,l= []->l[i]! <18446744073709551616:=fun l h=>by subst h;show(0:Int)<_;decide
 unfold bK;split
 ·exact nil _ rfl
 rename_i hp;have hp:=(fA n w).1 (Decidable.not_not.1 hp);split
 ·exact nil _ rfl
 split
 ·exact nil _ rfl
 split
 ·exact nil _ rfl
 ·by_cases h:i<n.toNat
  ·rw[QS h]
   have h1:=(NF (xK s) (n*w).toNat w.toNat i w.toNat).2;have h2:(2:Int)^w.toNat<=18446744073709551616:=by
    have:=Nat.pow_le_pow_right (show 0<2 by decide) (show w.toNat<=64 by omega);rw[<-dC];omega
   omega
  ·rw[getElem!_neg _ i (by rw[iW];exact h)];show(0:Int)<_;decide
theorem YK (s:ByteArray) (n w:Int) (i:Nat):0<=(bK s n w).1[i]! /\(bK s n w).1[i]! <18446744073709551616:=⟨qG s n w i,qBN s n w i⟩
theorem qAR:∀ {l:List Int} {x:Int},l.foldl cM x=x\/l.foldl cM x∈l
 | [],x=>.inl rfl
 |y::l,x=>by
  rcases qAR (l:=l) (x:=cM x y)with q|q
  ·rw[List.foldl_cons,q];unfold cM;split
   ·right;simp
   ·left;rfl
  ·right;rw[List.foldl_cons];simp [q]
theorem qSM {l:List Int} (h:∀i:Nat,0<=l[i]! /\l[i]! <18446744073709551616):0<=mxL l/\mxL l<18446744073709551616:=by
 have hm:∀x,x∈l->0<=x/\x<18446744073709551616:=fun x hx=>by
  obtain⟨i,hi,rfl⟩:=List.mem_iff_getElem.1 hx;have:=h i;rwa [getElem!_pos l i hi]at this
 cases l with
 |nil=>exact⟨Int.le_refl _,by show(0:Int)<_;decide⟩
 |cons x l=>
  show 0<=List.foldl cM x l/\List.foldl cM x l<18446744073709551616;rcases qAR (l:=l) (x:=x)with q|q
  ·rw[q];exact hm x (by simp)
  ·exact hm _ (by simp [q])
def dW (s:ByteArray) (a:Int):Int:=aG s (aA s a).2.1.toNat
def dE (s:ByteArray) (a k:Int):Int:=(aA s a).2.1+1+dP k (dW s a)
def dU (s:ByteArray) (a k:Int):List Int×Int:=bK (s.extract ((aA s a).2.1+1).toNat (dE s a k).toNat) k (dW s a)
def dL (s:ByteArray) (a:Int):Int:=mJ (aA s a).1
def dDs (s:ByteArray) (a k:Int):List Int:=(dU s a k).1.map fun v=>IntKind.i64.wrap (dL s a+v)
def dOk (s:ByteArray) (a k:Int):Bool:=decide ((dU s a k).2=0)&&decide (mnL (dU s a k).1=0)&&decide (gS (mxL (dU s a k).1)=dW s a)&&decide (mnL (dDs s a k)=dL s a)
def iS (s:ByteArray) (a k:Int):List Int×Int×Int:=
 if(aA s a).2.2≠0 then([],0,(aA s a).2.2)else if(aA s a).2.1=s.size then([],0,10)else if dW s a>64 then([],0,2)
 else if dE s a k>s.size then([],0,10)else if dOk s a k=false then([],0,2)else(dDs s a k,dE s a k,0)
theorem qJ9 (x v:Int):IntKind.i64.wrap (x+IntKind.i64.wrap v)=IntKind.i64.wrap (x+v):=by simp [IntKind.wrap,IntKind.bits,IntKind.signed];omega
theorem ZI (s:ByteArray) (a:Int):0<=dW s a/\dW s a<256:=cI _ _
theorem qV2 {s:ByteArray} {a k:Int} (h:(dU s a k).2=0):(dU s a k).1.length=k.toNat:=jE h
theorem ES (s:ByteArray) (a k:Int):dOk s a k=true↔(dU s a k).2=0/\mnL (dU s a k).1=0/\gS (mxL (dU s a k).1)=dW s a/\mnL (dDs s a k)=dL s a:=by simp [dOk,and_assoc]
theorem qLW {s:ByteArray} {a k:Int} (h:¬((dU s a k).2=0/\mnL (dU s a k).1=0/\gS (mxL (dU s a k).1)=dW s a/\mnL (dDs s a k)=dL s a)):dOk s a k=false:=by
 rw[Bool.eq_false_iff];exact fun q=>h ((ES s a k).1 q)
theorem qSB {l:List Int} {f:Int->Int} {k:Int} (h:0<=k/\k<l.length):(l.take (k+1).toNat).map f=(l.take k.toNat).map f++ [f l[k.toNat]!]:=by
 rw[pC h];simp
theorem vH (k w:Int):0<=dP k w/\dP k w<=32768:=by
 unfold dP;split
 ·rename_i h
  have h1:=(fA k w).1 h;have h2:=qDD h1;rw[Int.tdiv_eq_ediv_of_nonneg (by omega)];omega
 ·omega
abbrev GE:Ct:=.fn [.list (.int .i64)] (some (fun(l:List Int)=>(1<=l.length/\l.length<=1073741824))) (fun(l:List Int)=>.d (.int .i64) (mnL l))
theorem qNI:aH Tryz.prog 201 GE:=by
 refine aH.fn qFG mixed [] [] rfl rfl ?_;rintro⟨(l:List Int),_⟩ hpre;replace hpre:=hpre _ rfl;dsimp only[cu]at hpre;have hl:=hpre;refine⟨[(0,10,LA.mk [.sl 4 (.int .i64),.sl 3 (.int .i64)] (fun y=>Tag 29/\cu [.int .i64,.int .i64] (fun(i:Int) (m:Int)=>(1<=i/\i<=l.length)/\(m=mnL (l.take i.toNat))) y) (cu [.int .i64,.int .i64] (fun(i:Int) (m:Int)=>((l.length:Int)-i).toNat)) (cu [.int .i64,.int .i64] (fun(i:Int) (m:Int)=>([]:List (Nat×Nat×LA)))))],?_⟩;repeat' (first
  |(
 with_reducible refine Side.mk ⟨(⟨⟩:Tag 29),?_⟩
 dsimp only[cu,aC,aB,gts,eE,eN]
 refine⟨?_,?_⟩
 ·omega
 ·first
  |rw[JL (by omega)];rfl
  |(
  (try simp only[mP])
  rw[hm,qC9 (by omega)]))
  |(
 with_reducible apply Side.mk
 (try dsimp only[cu,aC,aB,gts,loK,hiK,eE,eN])
 omega)
  |(conv=>whnf
    first
     |with_reducible first|done|exact trivial|refine NilBr.mk (fun h=>?_) ?_|apply aJ|apply aI|refine aK (by kernel_rfl) ?_|apply aL|apply bG|apply bF|apply aR
     |((with_reducible first|apply aT|apply aS|apply bD)<;>intro h<;>(try dsimp only[cu,eE,eN]at h)<;>(try(exfalso;omega)))
     |(
 intro yy (hy:Tag 29/\_)
 obtain⟨(i:Int),(m:Int),_⟩:=yy
 replace hy:=hy.2
 dsimp only[cu,aC,aB,gts,eE,eN]at hy
 obtain⟨hi,hm⟩:=hy)))
 all_goals(
 with_reducible apply Leaf.mk
 (try dsimp only[cu,aC,aB,gts,eE,eN]at *)
 rw[hm,List.take_of_length_le (by omega)])
abbrev qZ7:Tbl:=(201,GE)::qZ6
theorem qFH:aD Tryz.prog qZ7:=aD.cons qNI qFG
abbrev LN:Ct:=.fn [.list (.int .u64)] (some (fun(l:List Int)=>(1<=l.length/\l.length<=1073741824))) (fun(l:List Int)=>.d (.int .u64) (mnL l))
theorem qSF:aH Tryz.prog 227 LN:=by
 refine aH.fn qFH mixed [] [] rfl rfl ?_;rintro⟨(l:List Int),_⟩ hpre;replace hpre:=hpre _ rfl;dsimp only[cu]at hpre;have hl:=hpre;refine⟨[(0,10,LA.mk [.sl 4 (.int .i64),.sl 3 (.int .u64)] (fun y=>Tag 30/\cu [.int .i64,.int .u64] (fun(i:Int) (m:Int)=>(1<=i/\i<=l.length)/\(m=mnL (l.take i.toNat))) y) (cu [.int .i64,.int .u64] (fun(i:Int) (m:Int)=>((l.length:Int)-i).toNat)) (cu [.int .i64,.int .u64] (fun(i:Int) (m:Int)=>([]:List (Nat×Nat×LA)))))],?_⟩;repeat' (first
  |(
 with_reducible refine Side.mk ⟨(⟨⟩:Tag 30),?_⟩
 dsimp only[cu,aC,aB,gts,eE,eN]
 refine⟨?_,?_⟩
 ·omega
 ·first
  |rw[JL (by omega)];rfl
  |(
  (try simp only[mP])
  rw[hm,qC9 (by omega)]))
  |(
 with_reducible apply Side.mk
 (try dsimp only[cu,aC,aB,gts,loK,hiK,eE,eN])
 omega)
  |(conv=>whnf
    first
     |with_reducible first|done|exact trivial|refine NilBr.mk (fun h=>?_) ?_|apply aJ|apply aI|refine aK (by kernel_rfl) ?_|apply aL|apply bG|apply bF|apply aR
     |((with_reducible first|apply aT|apply aS|apply bD)<;>intro h<;>(try dsimp only[cu,eE,eN]at h)<;>(try(exfalso;omega)))
     |(
 intro yy (hy:Tag 30/\_)
 obtain⟨(i:Int),(m:Int),_⟩:=yy
 replace hy:=hy.2
 dsimp only[cu,aC,aB,gts,eE,eN]at hy
 obtain⟨hi,hm⟩:=hy)))
 all_goals(
 with_reducible apply Leaf.mk
 (try dsimp only[cu,aC,aB,gts,eE,eN]at *)
 rw[hm,List.take_of_length_le (by omega)])
abbrev qZ8:Tbl:=(227,LN)::qZ7
theorem qFI:aD Tryz.prog qZ8:=aD.cons qSF qFH
abbrev LK:Ct:=.fn [.list (.int .u64)] (some (fun(l:List Int)=>(1<=l.length/\l.length<=1073741824))) (fun(l:List Int)=>.d (.int .u64) (mxL l))
theorem qSC:aH Tryz.prog 228 LK:=by
 refine aH.fn qFI mixed [] [] rfl rfl ?_;rintro⟨(l:List Int),_⟩ hpre;replace hpre:=hpre _ rfl;dsimp only[cu]at hpre;have hl:=hpre;refine⟨[(0,10,LA.mk [.sl 4 (.int .i64),.sl 3 (.int .u64)] (fun y=>Tag 31/\cu [.int .i64,.int .u64] (fun(i:Int) (m:Int)=>(1<=i/\i<=l.length)/\(m=mxL (l.take i.toNat))) y) (cu [.int .i64,.int .u64] (fun(i:Int) (m:Int)=>((l.length:Int)-i).toNat)) (cu [.int .i64,.int .u64] (fun(i:Int) (m:Int)=>([]:List (Nat×Nat×LA)))))],?_⟩;repeat' (first
  |(
 with_reducible refine Side.mk ⟨(⟨⟩:Tag 31),?_⟩
 dsimp only[cu,aC,aB,gts,eE,eN]
 refine⟨?_,?_⟩
 ·omega
 ·first
  |rw[JL (by omega)];rfl
  |(
  (try simp only[mP])
  rw[hm,qSN (by omega)]))
  |(
 with_reducible apply Side.mk
 (try dsimp only[cu,aC,aB,gts,loK,hiK,eE,eN])
 omega)
  |(conv=>whnf
    first
     |with_reducible first|done|exact trivial|refine NilBr.mk (fun h=>?_) ?_|apply aJ|apply aI|refine aK (by kernel_rfl) ?_|apply aL|apply bG|apply bF|apply aR
     |((with_reducible first|apply aT|apply aS|apply bD)<;>intro h<;>(try dsimp only[cu,eE,eN]at h)<;>(try(exfalso;omega)))
     |(
 intro yy (hy:Tag 31/\_)
 obtain⟨(i:Int),(m:Int),_⟩:=yy
 replace hy:=hy.2
 dsimp only[cu,aC,aB,gts,eE,eN]at hy
 obtain⟨hi,hm⟩:=hy)))
 all_goals(
 with_reducible apply Leaf.mk
 (try dsimp only[cu,aC,aB,gts,eE,eN]at *)
 rw[hm,List.take_of_length_le (by omega)])
abbrev qZ9:Tbl:=(228,LK)::qZ8
theorem qFJ:aD Tryz.prog qZ9:=aD.cons qSC qFI
abbrev LV:Ct:=.fn [.str,.int .i64,.int .i64] (some (fun(s:ByteArray) (a:Int) (k:Int)=>(s.size<=288230376151711744)/\(1<=k/\k<=32))) (fun(s:ByteArray) (a:Int) (k:Int)=>.tup [.list (.int .i64),.int .i64,.int .i64] ((iS s a k).1,(iS s a k).2.1,(iS s a k).2.2,()))
theorem qSW:aH Tryz.prog 213 LV:=by
 refine aH.fn qFJ mixed [(0,20,3),(0,20,4)] [] rfl rfl ?_;rintro⟨(s:ByteArray),(a:Int),(k:Int),_⟩ hpre;replace hpre:=hpre _ rfl;dsimp only[cu]at hpre;obtain⟨hs,hk⟩:=hpre;refine⟨[(0,36,LA.mk [.sl 77 (.int .i64),.lst 15 (.int .i64) 2] (fun y=>Tag 32/\cu [.int .i64,.list (.int .i64)] (fun(i:Int) (D:List Int)=>(0<=i/\i<=(bK (s.extract ((aA s a).2.1+1).toNat ((aA s a).2.1+1+dP k (aG s (aA s a).2.1.toNat)).toNat) k (aG s (aA s a).2.1.toNat)).1.length)/\(D=((bK (s.extract ((aA s a).2.1+1).toNat ((aA s a).2.1+1+dP k (aG s (aA s a).2.1.toNat)).toNat) k (aG s (aA s a).2.1.toNat)).1.take i.toNat).map (fun v=>IntKind.i64.wrap (mJ (aA s a).1+v)))) y) (cu [.int .i64,.list (.int .i64)] (fun(i:Int) (D:List Int)=>((bK (s.extract ((aA s a).2.1+1).toNat ((aA s a).2.1+1+dP k (aG s (aA s a).2.1.toNat)).toNat) k (aG s (aA s a).2.1.toNat)).1.length-i).toNat)) (cu [.int .i64,.list (.int .i64)] (fun(i:Int) (D:List Int)=>([]:List (Nat×Nat×LA)))))],?_⟩;repeat' (first
  |(
 with_reducible refine Side.mk ⟨(⟨⟩:Tag 32),?_⟩
 dsimp only[cu,aC,aB,gts,eE,eN]
 refine⟨?_,?_⟩
 ·omega
 ·first
  |rfl
  |(
  (try simp only[mP])
  rw[hD,qSB (by omega),qJ9]))
  |(
 with_reducible apply Side.mk
 (try dsimp only[cu,aC,aB,gts,loK,hiK,eE,eN])
 first
 |done
 |omega
 |exact Eq.refl _
 |(
  have hg:=bB s a;have hw:=ZI s a;have hn:=vH k (aG s (aA s a).2.1.toNat);have hg0:(aA s a).2.2=0:=by assumption
  have hok:=bR hg0;first
  |omega
  |(
   have eW:dW s a=aG s (aA s a).2.1.toNat:=rfl;have eE:dE s a k=(aA s a).2.1+1+dP k (aG s (aA s a).2.1.toNat):=rfl;have eU:dU s a k=bK (s.extract ((aA s a).2.1+1).toNat ((aA s a).2.1+1+dP k (aG s (aA s a).2.1.toNat)).toNat) k (aG s (aA s a).2.1.toNat):=rfl;omega))
 |exact qSM (YK _ _ _)
 |(
  have hu0:(bK (s.extract ((aA s a).2.1+1).toNat ((aA s a).2.1+1+dP k (aG s (aA s a).2.1.toNat)).toNat) k (aG s (aA s a).2.1.toNat)).2=0:=by with_reducible assumption
  have hul:=jE hu0;omega)
 |(
  have hDl:=congrArg List.length hD;rw[List.length_map,List.length_take]at hDl;have hu0:(bK (s.extract ((aA s a).2.1+1).toNat ((aA s a).2.1+1+dP k (aG s (aA s a).2.1.toNat)).toNat) k (aG s (aA s a).2.1.toNat)).2=0:=by with_reducible assumption
  have hul:=jE hu0;(try simp only[List.length_cons,List.length_nil]);omega)
 |(
  have hg:=bB s a;have hw:=ZI s a;have hn:=vH k (aG s (aA s a).2.1.toNat);have hg0:(aA s a).2.2=0:=by assumption
  have hok:=bR hg0;have eW:dW s a=aG s (aA s a).2.1.toNat:=rfl;have eE:dE s a k=(aA s a).2.1+1+dP k (aG s (aA s a).2.1.toNat):=rfl;have eU:dU s a k=bK (s.extract ((aA s a).2.1+1).toNat ((aA s a).2.1+1+dP k (aG s (aA s a).2.1.toNat)).toNat) k (aG s (aA s a).2.1.toNat):=rfl;simp only[ByteArray.size_extract];omega))
  |(conv=>whnf
    first
     |with_reducible first|done|exact trivial|refine NilBr.mk (fun h=>?_) ?_|apply aJ|apply aI|refine aK (by kernel_rfl) ?_|apply aL|apply bG|apply bF|apply aR
     |((with_reducible first|apply aT|apply aS|apply bD)<;>intro h<;>(try dsimp only[cu,eE,eN]at h)<;>(try(exfalso;omega)))
     |(
 intro yy (hy:Tag 32/\_)
 obtain⟨(i:Int),(D:List Int),_⟩:=yy
 replace hy:=hy.2
 dsimp only[cu,aC,aB,gts,eE,eN]at hy
 obtain⟨hi,hD⟩:=hy)))
 all_goals(
 with_reducible apply Leaf.mk
 (try dsimp only[cu,aC,aB,gts,eE,eN]at *)
 first
 |(
  have e1:(aA s a).2.2≠0:=by assumption
  rw[iS,if_pos e1])
 |(
  have hg:=bB s a;have hw:=ZI s a;have hn:=vH k (aG s (aA s a).2.1.toNat);have hg0:(aA s a).2.2=0:=by assumption
  have hok:=bR hg0;first
  |(
   have e1:¬(aA s a).2.2≠0:=fun q=>q (by assumption)
   have e2:(aA s a).2.1=s.size:=by omega
   rw[iS,if_neg e1,if_pos e2])
  |(
   have eW:dW s a=aG s (aA s a).2.1.toNat:=rfl;have eE:dE s a k=(aA s a).2.1+1+dP k (aG s (aA s a).2.1.toNat):=rfl;have eU:dU s a k=bK (s.extract ((aA s a).2.1+1).toNat ((aA s a).2.1+1+dP k (aG s (aA s a).2.1.toNat)).toNat) k (aG s (aA s a).2.1.toNat):=rfl;have e1:¬(aA s a).2.2≠0:=fun q=>q (by assumption)
   have e2:¬(aA s a).2.1=s.size:=by omega
   first
   |(
    have e3:dW s a>64:=by omega
    rw[iS,if_neg e1,if_neg e2,if_pos e3])
   |(
    have e3:¬dW s a>64:=by omega
    first
    |(
     have e4:dE s a k>s.size:=by omega
     rw[iS,if_neg e1,if_neg e2,if_neg e3,if_pos e4])
    |(
     have e4:¬dE s a k>s.size:=by omega
     first
     |(
      have e5:dOk s a k=false:=by
       refine qLW (fun q=>?_);obtain⟨q1,q2,q3,q4⟩:=q;rw[eU]at q1 q2 q3;first|(simp_all;done)|omega
      rw[iS,if_neg e1,if_neg e2,if_neg e3,if_neg e4,if_pos e5])
     |(
      have hDD:D=dDs s a k:=by rw[hD,List.take_of_length_le (by omega)];rfl
      first
      |(
       have e5:dOk s a k=false:=by
        refine qLW (fun q=>?_);obtain⟨q1,q2,q3,q4⟩:=q;rw[<-hDD]at q4;first|contradiction|(exact absurd q4 (by assumption))
       rw[iS,if_neg e1,if_neg e2,if_neg e3,if_neg e4,if_pos e5])
      |(
       have e5:¬dOk s a k=false:=by
        rw[Bool.eq_false_iff];intro q;apply q;rw[ES,<-hDD,eU,eW];first|(exact⟨by assumption,by assumption,by assumption,by assumption⟩)|(simp_all;done)
       rw[iS,if_neg e1,if_neg e2,if_neg e3,if_neg e4,if_neg e5];(try rw[hDD]);(try rfl))))))))
abbrev qaA:Tbl:=(213,LV)::qZ9
theorem qFK:aD Tryz.prog qaA:=aD.cons qSW qFJ
def iE (M:List Int):Int:=M[M.length-1]!
def mH:Int->List Int->List Int
 |_,[]=>[]
 |x,d::r=>IntKind.i64.wrap (x+d)::mH (IntKind.i64.wrap (x+d)) r
theorem nA:∀(ds:List Int) (x:Int),(mH x ds).length=ds.length
 | [],_=>rfl
 |d::r,x=>by simp [mH,nA r]
theorem BS (M:List Int) (w:Int):iE (M++ [w])=w:=by
 unfold iE;rw[getElem!_pos _ _ (by simp)];simp
theorem WS:∀(ds M:List Int) (d:Int),M++mH (iE M) (ds++ [d])=(M++mH (iE M) ds)++ [IntKind.i64.wrap (iE (M++mH (iE M) ds)+d)]
 | [],M,d=>by simp [mH]
 |e::r,M,d=>by
  have h:=WS r (M++ [IntKind.i64.wrap (iE M+e)]) d;rw[BS]at h;simp only[List.cons_append,mH];simpa using h
theorem qPB {M B:List Int} {i:Int} (h:0<=i/\i<B.length):M++mH (iE M) (B.take (i+1).toNat)=(M++mH (iE M) (B.take i.toNat))++ [IntKind.i64.wrap (iE (M++mH (iE M) (B.take i.toNat))+B[i.toNat]!)]:=by
 rw[pC h,WS]
theorem BP {n:Int} {M:List Int} (h:(M.length:Int)<n):1<=bT 32 (n-(M.length:Int))/\bT 32 (n-(M.length:Int))<=32/\M.length+bT 32 (n-(M.length:Int))<=n:=by unfold bT;split<;>omega
theorem uS {s:ByteArray} {a k:Int} (h:(iS s a k).2.2=0):(iS s a k).1.length=k.toNat/\0<=(iS s a k).2.1/\(iS s a k).2.1<=s.size:=by
 unfold iS at h ⊢;split at h
 ·exact absurd h (by assumption)
 ·rename_i h1
  rw[if_neg h1];split at h
  ·exact absurd h (by decide)
  ·rename_i h2
   rw[if_neg h2];split at h
   ·exact absurd h (by decide)
   ·rename_i h3
    rw[if_neg h3];split at h
    ·exact absurd h (by decide)
    ·rename_i h4
     rw[if_neg h4];split at h
     ·exact absurd h (by decide)
     ·rename_i h5
      rw[if_neg h5];have h6:=(ES s a k).1 (by simpa using h5);have h7:=qV2 h6.1;have h8:=bR (Decidable.not_not.1 h1);have h9:=vH k (dW s a);have h10:dE s a k=(aA s a).2.1+1+dP k (dW s a):=rfl;refine⟨by simp [dDs,h7],?_,?_⟩
      ·show 0<=dE s a k;omega
      ·show dE s a k<=s.size;omega
def dd (s:ByteArray) (n a:Int) (M:List Int):List Int×Int:=
 if h:(M.length:Int)<n then
  if h2:(iS s a (bT 32 (n-(M.length:Int)))).2.2=0 then dd s n (iS s a (bT 32 (n-(M.length:Int)))).2.1 (M++mH (iE M) (iS s a (bT 32 (n-(M.length:Int)))).1)
  else([],(iS s a (bT 32 (n-(M.length:Int)))).2.2)
 else if a<s.size then([],2)else(M,0)
termination_by (n-M.length).toNat
decreasing_by
 have:=BP h;have:=(uS h2).1;simp only[List.length_append,nA];omega
def cA (s:ByteArray) (n:Int):List Int×Int:=
 if n<0\/n>4096 then([],4)else if n=0 then(if s=⟨#[]⟩then([],0)else([],2))
 else if(aA s 0).2.2≠0 then([],(aA s 0).2.2)else dd s n (aA s 0).2.1 [mJ (aA s 0).1]
theorem qV3 {s:ByteArray} {n a:Int} {M:List Int} (h:(M.length:Int)<n) (h2:¬(iS s a (bT 32 (n-(M.length:Int)))).2.2=0):dd s n a M=([],(iS s a (bT 32 (n-(M.length:Int)))).2.2):=by rw[dd,dif_pos h,dif_neg h2]
theorem qCF {s:ByteArray} {n a:Int} {M:List Int} (h:(M.length:Int)<n) (h2:(iS s a (bT 32 (n-(M.length:Int)))).2.2=0):dd s n a M=dd s n (iS s a (bT 32 (n-(M.length:Int)))).2.1 (M++mH (iE M) (iS s a (bT 32 (n-(M.length:Int)))).1):=by rw[dd,dif_pos h,dif_pos h2]
theorem ZL {s:ByteArray} {n a:Int} {M:List Int} (h:¬(M.length:Int)<n):dd s n a M=if a<s.size then([],2)else(M,0):=by rw[dd,dif_neg h]
theorem qR8 {Q:List Int} (h:0<Q.length):Q[((Q.length:Int)-1).toNat]! =iE Q:=by
 unfold iE;rw[show((Q.length:Int)-1).toNat=Q.length-1 by omega]
abbrev KW:Ct:=.fn [.str,.int .i64] (some (fun(s:ByteArray) (n:Int)=>(s.size<=288230376151711744))) (fun(s:ByteArray) (n:Int)=>.tup [.list (.int .i64),.int .i64] ((cA s n).1,(cA s n).2,()))
theorem qQ3:aH Tryz.prog 191 KW:=by
 refine aH.fn qFK mixed [(0,10,3500009),(0,11,3500009),(0,13,3500009),(0,19,8)] [] rfl rfl ?_;rintro⟨(s:ByteArray),(n:Int),_⟩ hpre;replace hpre:=hpre _ rfl;dsimp only[cu]at hpre;have hs:=hpre;refine⟨[(0,22,LA.mk [.sl 7 (.int .i64),.nls 9 (.int .i64) 2] (fun y=>Tag 33/\cu [.int .i64,.list (.int .i64)] (fun(a:Int) (M:List Int)=>(dd s n (aA s 0).2.1 [mJ (aA s 0).1]=dd s n a M)/\(1<=M.length/\(M.length:Int)<=n)) y) (cu [.int .i64,.list (.int .i64)] (fun(a:Int) (M:List Int)=>(n-(M.length:Int)).toNat)) (cu [.int .i64,.list (.int .i64)] (fun(a:Int) (M:List Int)=>([(0,34,LA.mk [.sl 63 (.int .i64),.nls 9 (.int .i64) 2] (fun y=>Tag 34/\cu [.int .i64,.list (.int .i64)] (fun(i:Int) (Q:List Int)=>(0<=i/\i<=(iS s a (bT 32 (n-(M.length:Int)))).1.length)/\(Q=M++mH (iE M) ((iS s a (bT 32 (n-(M.length:Int)))).1.take i.toNat))) y) (cu [.int .i64,.list (.int .i64)] (fun(i:Int) (Q:List Int)=>(((iS s a (bT 32 (n-(M.length:Int)))).1.length:Int)-i).toNat)) (cu [.int .i64,.list (.int .i64)] (fun(i:Int) (Q:List Int)=>([]:List (Nat×Nat×LA)))))]:List (Nat×Nat×LA)))))],?_⟩;repeat' (first
  |(
 with_reducible refine Side.mk ⟨(⟨⟩:Tag 33),?_⟩
 dsimp only[cu,aC,aB,gts,eE,eN]
 refine⟨?_,?_⟩
 ·first
  |rfl
  |(
  have hk:=BP (n:=n) (M:=M) (by omega)
  have hb0:(iS s a (bT 32 (n-(M.length:Int)))).2.2=0:=by assumption
  have hbk:=uS hb0
  have hi2:i.toNat=(iS s a (bT 32 (n-(M.length:Int)))).1.length:=by omega
  rw[hi2,List.take_length]at hQ
  rw[hM,qCF (by omega) hb0,<-hQ])
 ·first
  |simp;omega
  |(
  have hk:=BP (n:=n) (M:=M) (by omega)
  have hb0:(iS s a (bT 32 (n-(M.length:Int)))).2.2=0:=by assumption
  have hbk:=uS hb0
  have hQl:=congrArg List.length hQ
  simp only[List.length_append,nA,List.length_take]at hQl
  omega))
  |(
 with_reducible refine Side.mk ⟨(⟨⟩:Tag 34),?_⟩
 dsimp only[cu,aC,aB,gts,eE,eN]
 refine⟨?_,?_⟩
 ·omega
 ·first
  |simp [mH];done
  |(
  have hk:=BP (n:=n) (M:=M) (by omega)
  have hb0:(iS s a (bT 32 (n-(M.length:Int)))).2.2=0:=by assumption
  have hbk:=uS hb0
  have hQl:=congrArg List.length hQ
  simp only[List.length_append,nA,List.length_take]at hQl
  rw[qPB (by omega),<-hQ,qR8 (by omega)]))
  |(
 with_reducible apply Side.mk
 (try dsimp only[cu,aC,aB,gts,loK,hiK,eE,eN])
 first
 |done
 |omega
 |exact Eq.refl _
 |exact bB _ _
 |(
  have hk:=BP (n:=n) (M:=M) (by omega);first
  |exact⟨hs,by omega⟩
  |(
   have hb0:(iS s a (bT 32 (n-(M.length:Int)))).2.2=0:=by assumption
   have hbk:=uS hb0;have hQl:=congrArg List.length hQ;simp only[List.length_append,nA,List.length_take]at hQl;first
   |omega
   |(
    (try simp only[List.length_cons,List.length_nil]);omega))))
  |(conv=>whnf
    first
     |with_reducible first|done|exact trivial|refine NilBr.mk (fun h=>?_) ?_|apply aJ|apply aI|refine aK (by kernel_rfl) ?_|apply aL|apply bG|apply bF|apply aR
     |((with_reducible first|apply aT|apply aS|apply bD)<;>intro h<;>(try dsimp only[cu,eE,eN]at h)<;>(try(exfalso;omega)))
     |(
 intro yy (hy:Tag 33/\_)
 obtain⟨(a:Int),(M:List Int),_⟩:=yy
 replace hy:=hy.2
 dsimp only[cu,aC,aB,gts,eE,eN]at hy
 obtain⟨hM,hl⟩:=hy)
     |(
 intro yy (hy:Tag 34/\_)
 obtain⟨(i:Int),(Q:List Int),_⟩:=yy
 replace hy:=hy.2
 dsimp only[cu,aC,aB,gts,eE,eN]at hy
 obtain⟨hi,hQ⟩:=hy)))
 all_goals(
 with_reducible apply Leaf.mk
 (try dsimp only[cu,aC,aB,gts,eE,eN]at *)
 first
 |(
  have q1:n<0\/n>4096:=by omega
  rw[cA,if_pos q1])
 |(
  have q1:¬(n<0\/n>4096):=by omega
  first
  |(
   have q2:n=0:=by first|assumption|omega
   first
   |(
    have q3:¬s=⟨#[]⟩:=by first|assumption|(simp_all;done)
    rw[cA,if_neg q1,if_pos q2,if_neg q3])
   |(
    have q3:s=⟨#[]⟩:=by first|assumption|(simp_all;done)
    rw[cA,if_neg q1,if_pos q2,if_pos q3]))
  |(
   have q2:¬n=0:=by omega
   first
   |(
    have q3:(aA s 0).2.2≠0:=by assumption
    rw[cA,if_neg q1,if_neg q2,if_pos q3])
   |(
    have q3:¬(aA s 0).2.2≠0:=fun q=>q (by assumption)
    first
    |(
     have hb:¬(iS s a (bT 32 (n-(M.length:Int)))).2.2=0:=by assumption
     rw[cA,if_neg q1,if_neg q2,if_neg q3,hM,qV3 (by omega) hb];(try rfl))
    |(
     have ha:a<s.size:=by omega
     rw[cA,if_neg q1,if_neg q2,if_neg q3,hM,ZL (by omega),if_pos ha])
    |(
     have ha:¬a<s.size:=by omega
     rw[cA,if_neg q1,if_neg q2,if_neg q3,hM,ZL (by omega),if_neg ha])))))
abbrev qaB:Tbl:=(191,KW)::qaA
theorem qFL:aD Tryz.prog qaB:=aD.cons qQ3 qFK
theorem fmin:∀(l:List Int) (x:Int),l.foldl bT x<=x/\(∀y,y∈l->l.foldl bT x<=y)/\(l.foldl bT x=x\/l.foldl bT x∈l)
 | [],x=>⟨Int.le_refl _,by simp,.inl rfl⟩
 |z::l,x=>by
  obtain⟨h1,h2,h3⟩:=fmin l (bT x z);have h4:bT x z<=x/\bT x z<=z/\(bT x z=x\/bT x z=z):=by unfold bT;split<;>omega
  refine⟨by rw[List.foldl_cons];omega,fun y hy=>?_,?_⟩
  ·rw[List.foldl_cons]
   rcases List.mem_cons.1 hy with q|q
   ·subst q;omega
   ·exact h2 y q
  ·rw[List.foldl_cons]
   rcases h3 with q|q
   ·rcases h4.2.2 with p|p
    ·left;rw[q,p]
    ·right;rw[q,p];simp
   ·right;simp [q]
theorem qWV {l:List Int} {y:Int} (h:y∈l):mnL l<=y:=by
 cases l with
 |nil=>simp at h
 |cons x l=>
  obtain⟨h1,h2,h3⟩:=fmin l x;rcases List.mem_cons.1 h with q|q
  ·subst q;exact h1
  ·exact h2 y q
theorem zE {l:List Int} (h:l≠ []):mnL l∈l:=by
 cases l with
 |nil=>exact absurd rfl h
 |cons x l=>
  obtain⟨h1,h2,h3⟩:=fmin l x;show List.foldl bT x l∈_;rcases h3 with q|q
  ·rw[q];simp
  ·simp [q]
theorem qSH {U:List Int} (hne:U≠ []) (h:∀v,v∈U->0<=v):mnL U=0↔U.any (fun v=>decide (v=0))=true:=by
 rw[List.any_eq_true];constructor
 ·intro q
  exact⟨_,zE hne,by simpa using q⟩
 ·rintro⟨v,hv,hq⟩
  have h1:=qWV hv;have h2:=h _ (zE hne);have h3:v=0:=by simpa using hq
  omega
theorem BT {a b:Int} (h:a<=b) (hb:b<18446744073709551616):gS a<=gS b:=by
 suffices H:∀(n:Nat) (a b:Int),b.toNat<=n->a<=b->b<18446744073709551616->gS a<=gS b from H _ a b (Nat.le_refl _) h hb
 intro n;induction n with
 |zero=>intro a b h1 h2 h3;rw[vF (by omega),vF (by omega)];exact Int.le_refl _
 |succ n ih=>
  intro a b h1 h2 h3;by_cases ha:a<=0
  ·rw[vF ha];exact(vD h3).1
  ·rw[vE (v:=a) (by omega) (by omega),vE (v:=b) (by omega) h3]
   have:=ih (a/2) (b/2) (by omega) (by omega) (by omega);omega
def mwL (U:List Int):Int:=U.foldl (fun w v=>cM w (gS v)) 0
theorem fmax:∀(l:List Int) (x:Int),(∀v,v∈x::l->v<18446744073709551616)->l.foldl (fun w v=>cM w (gS v)) (gS x)=gS (l.foldl cM x)
 | [],x,_=>rfl
 |z::l,x,h=>by
  rw[List.foldl_cons,List.foldl_cons,<-fmax l (cM x z) (fun v hv=>by
   rcases List.mem_cons.1 hv with q|q
   ·subst q;unfold cM;split
    ·exact h z (by simp)
    ·exact h x (by simp)
   ·exact h v (by simp [q]))]
  congr 1
  have hx:=h x (by simp);have hz:=h z (by simp);by_cases q:x<=z
  ·have:=BT q hz
   have e:cM x z=z:=by unfold cM;split<;>omega
   rw[e];unfold cM;split<;>omega
  ·have:=BT (a:=z) (b:=x) (by omega) hx
   have e:cM x z=x:=by unfold cM;split<;>omega
   rw[e];unfold cM;split<;>omega
theorem qY1 {U:List Int} (hne:U≠ []) (h:∀v,v∈U->0<=v/\v<18446744073709551616):mwL U=gS (mxL U):=by
 cases U with
 |nil=>exact absurd rfl hne
 |cons x l=>
  unfold mwL;rw[List.foldl_cons];have:=(vD (h x (by simp)).2).1;have e:cM 0 (gS x)=gS x:=by unfold cM;split<;>omega
  rw[e,fmax l x (fun v hv=>(h v hv).2)];rfl
theorem qVZ {s:ByteArray} {a k:Int} (h1:(aA s a).2.2=0) (h2:¬(aA s a).2.1=s.size) (h3:¬dW s a>64) (h4:¬dE s a k>s.size) (h5:dOk s a k=true):iS s a k=(dDs s a k,dE s a k,0):=by
 rw[iS,if_neg (fun q=>q h1),if_neg h2,if_neg h3,if_neg h4,if_neg (by rw[h5];decide)]
theorem xH {b:Bool} (h:(!b)=false):b=true:=by cases b<;>simp_all
end Go.Proofs.YtcjiefknhfhmkaaGreatDoor
