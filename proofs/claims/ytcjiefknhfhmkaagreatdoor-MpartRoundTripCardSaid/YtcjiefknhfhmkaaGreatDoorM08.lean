import Derived.Test.YtcjiefknhfhmkaaGreatDoorM07
open List renaming take_of_length_le -> ga, length_append -> gc, length_replicate -> ge, replicate -> gf, length_cons -> gg, foldl_cons -> gh, getElem!_eq_getElem?_getD -> gi, length_nil -> gj, length_take -> gk, length_map -> gl, take_succ_eq_append_getElem -> gm, mem_cons -> gp, length_set -> gq, getElem?_eq_getElem -> gw, length_drop -> gx, getElem?_replicate -> gy, replicate_succ -> hh, append_assoc -> ka, mem_map -> kf, take_add_one -> kg, foldl -> ko
open ByteArray renaming size_append -> gb, size_extract -> go
open Nat renaming zero_le -> gn, le_refl -> gr
open Int renaming fdiv_eq_ediv_of_nonneg -> gt, tdiv_eq_ediv_of_nonneg -> gu, tmod_nonneg -> gz, tmod -> hf, le_refl -> kl
open Eq renaming refl -> kb
open Bool renaming eq_false_iff -> kd
namespace Go.Proofs.YtcjiefknhfhmkaaGreatDoor
open Go.Abs
set_option maxRecDepth 100000
set_option maxHeartbeats 4000000
set_option linter.unusedVariables false
set_option linter.unusedSimpArgs false
def inI (n:Int):Prop:=-9223372036854775808<=n/\n<=9223372036854775807
def eK (n:Int):Int:=if n<0 then(-(n+1))*2+1 else n*2
def nE (v:Int):Int:=if v%2=1 then -(v/2)-1 else v/2
theorem iC {n:Int} (h:inI n):0<=eK n/\eK n<18446744073709551616:=by unfold inI at h;unfold eK;split<;>omega
theorem AQ (n:Int):nE (eK n)=n:=by unfold eK nE;split<;>split<;>omega
theorem qeC {a:Int} (h:0<=a/\a<18446744073709551616):pT .u64 a 0=a:=by
 unfold pT;rw[show BitVec.ofInt IntKind.u64.bits 0=0#IntKind.u64.bits from rfl,BitVec.xor_zero,BitVec.toNat_ofInt];have:((a%((2^IntKind.u64.bits:Nat):Int)).toNat:Int)=a:=by
  simp [IntKind.bits];omega
 rw[this,bF h]
theorem qeD {a:Int} (h:0<=a/\a<18446744073709551616):pT .u64 a 18446744073709551615=18446744073709551615-a:=by
 unfold pT;rw[show BitVec.ofInt IntKind.u64.bits 18446744073709551615=BitVec.allOnes IntKind.u64.bits from rfl,BitVec.xor_allOnes,BitVec.toNat_not,BitVec.toNat_ofInt];have e:((a%((2^IntKind.u64.bits:Nat):Int)).toNat:Int)=a:=by
  simp [IntKind.bits];omega
 have e2:(2:Nat)^IntKind.u64.bits=18446744073709551616:=rfl;have e3:((2^IntKind.u64.bits-1-(a%((2^IntKind.u64.bits:Nat):Int)).toNat:Nat):Int)=18446744073709551615-a:=by
  rw[e2]at e ⊢;omega
 rw[e3,bF om]
theorem qeA {a:Int} (h:inI a):pT .i64 a 0=a:=by
 unfold pT;rw[show BitVec.ofInt IntKind.i64.bits 0=0#IntKind.i64.bits from rfl,BitVec.xor_zero,BitVec.toNat_ofInt];unfold inI at h;simp [IntKind.wrap,IntKind.bits,IntKind.signed];omega
theorem qeB {a:Int} (h:0<=a/\a<=9223372036854775807):pT .i64 a (-1) = -a-1:=by
 unfold pT;rw[show BitVec.ofInt IntKind.i64.bits (-1)=BitVec.allOnes IntKind.i64.bits from rfl,BitVec.xor_allOnes,BitVec.toNat_not,BitVec.toNat_ofInt];have e2:(2:Nat)^IntKind.i64.bits=18446744073709551616:=rfl;have e3:((2^IntKind.i64.bits-1-(a%((2^IntKind.i64.bits:Nat):Int)).toNat:Nat):Int)=18446744073709551615-a:=by
  rw[e2];omega
 rw[e3];simp [IntKind.wrap,IntKind.bits,IntKind.signed];omega
theorem qaA {n:Int} (h:inI n):pT .u64 (IntKind.u64.wrap (mZ .i64 n 1)) (IntKind.u64.wrap (jQ .i64 n 63))=eK n:=by
 have h1:jQ .i64 n 63=n/9223372036854775808:=by
  unfold jQ;rw[show min ((63:Int).toNat) IntKind.i64.bits=63 from rfl,show((2:Int)^63)=9223372036854775808 from rfl,gt _ dc]
 have h2:IntKind.u64.wrap (mZ .i64 n 1)=IntKind.u64.wrap (2*n):=by
  unfold mZ;rw[show min ((1:Int).toNat) IntKind.i64.bits=1 from rfl,show((2:Int)^1)=2 from rfl];simp [IntKind.wrap,IntKind.bits,IntKind.signed];omega
 unfold inI at h;rw[h1,h2];unfold eK;split
 ·rw[show n/9223372036854775808 = -1 by omega,show IntKind.u64.wrap (-1)=18446744073709551615 from rfl,qeD (iI _)]
  simp [IntKind.wrap,IntKind.bits,IntKind.signed];omega
 ·rw[show n/9223372036854775808=0 by omega,show IntKind.u64.wrap 0=0 from rfl,qeC (iI _),bF om];omega
theorem qZ8 {v:Int} (h:0<=v/\v<18446744073709551616):pT .i64 (jQ .u64 v 1) (IntKind.i64.wrap (0-sQ .u64 v 1))=nE v:=by
 rw[qbH h.1,RJ h];unfold nE;have:inI (v/2):=by unfold inI;omega
 split
 ·rename_i q
  rw[q,show IntKind.i64.wrap (0-1) = -1 from rfl,qeB om]
 ·rename_i q
  rw[show v%2=0 by omega,show IntKind.i64.wrap (0-0)=0 from rfl,qeA this]
abbrev VO:Ct:=.fn [.int .i64] (some (fun(n:Int)=>(inI n))) (fun(n:Int)=>.d (.int .u64) (eK n))
theorem qaB:aH Tryz.prog 150 VO:=by
 refine aH.fn qG6 mixed [] [] rfl rfl ?_;rintro⟨(n:Int),_⟩ hpre;replace hpre:=hpre _ rfl;dsimp only[cu]at hpre;have hn:=hpre;refine⟨[],?_⟩;repeat' (first
  |(
 with_reducible apply Side.mk
 (try dsimp only[cu,aC,aB,gts,loK,hiK,eE,eN])
 omega)
  |(conv=>whnf
    first
     |with_reducible first|done|exact trivial|refine NilBr.mk (fun h=>?_) ?_|apply aL|apply aK|refine aM kr ?_|apply aN|apply bL|apply bK|apply aU
     |((with_reducible first|apply aW|apply aV|apply bH)<;>intro h<;>(try dsimp only[cu,eE,eN]at h)<;>(try(exfalso;omega)))))
 all_goals(
 with_reducible apply Leaf.mk
 (try dsimp only[cu,aC,aB,gts,eE,eN]at *)
 exact qaA hn)
abbrev qcF:Tbl:=(150,VO)::qcE
theorem qG7:aD Tryz.prog qcF:=aD.cons qaB qG6
abbrev VN:Ct:=.fn [.int .u64] (some (fun(v:Int)=>(0<=v/\v<18446744073709551616))) (fun(v:Int)=>.d (.int .i64) (nE v))
theorem qZ9:aH Tryz.prog 160 VN:=by
 refine aH.fn qG7 mixed [] [] rfl rfl ?_;rintro⟨(v:Int),_⟩ hpre;replace hpre:=hpre _ rfl;dsimp only[cu]at hpre;have hv:=hpre;refine⟨[],?_⟩;repeat' (first
  |(
 with_reducible apply Side.mk
 (try dsimp only[cu,aC,aB,gts,loK,hiK,eE,eN])
 first
 |omega
 |(
  have h1:=RJ hv;have h2:=qbH hv.1;first
  |(
   rw[h2];omega)
  |(
   rw[h1];omega)))
  |(conv=>whnf
    first
     |with_reducible first|done|exact trivial|refine NilBr.mk (fun h=>?_) ?_|apply aL|apply aK|refine aM kr ?_|apply aN|apply bL|apply bK|apply aU
     |((with_reducible first|apply aW|apply aV|apply bH)<;>intro h<;>(try dsimp only[cu,eE,eN]at h)<;>(try(exfalso;omega)))))
 all_goals(
 with_reducible apply Leaf.mk
 (try dsimp only[cu,aC,aB,gts,eE,eN]at *)
 rw[qZ8 hv])
abbrev qcG:Tbl:=(160,VN)::qcF
theorem qG8:aD Tryz.prog qcG:=aD.cons qZ9 qG7
def cS (v:Int):List Int->Nat
 | []=>0
 |x::l=>if x=v then cS v l+1 else 0
theorem lA (v:Int):∀l:List Int,cS v l<=l.length
 | []=>gr _
 |x::l=>by
  have:=lA v l;unfold cS;split<;>simp<;>omega
theorem QE {v:Int}:∀ {l:List Int} {m:Nat},m<=l.length->(∀j,j<m->l[j]! =v)->(m=l.length\/¬l[m]! =v)->cS v l=m
 | [],m,h,_,_=>by simp at h;subst h;rfl
 |x::l,0,_,_,h=>by
  rcases h with h|h
  ·simp at h
  ·unfold cS;rw[if_neg (by simpa using h)]
 |x::l,m+1,h,h1,h2=>by
  have h0:x=v:=by simpa using h1 0 om
  unfold cS;rw[if_pos h0,QE (m:=m) (by simpa using h) (fun j hj=>by simpa using h1 (j+1) om) (by simpa using h2)]
def runs:List Int->List (Int×Int)
 | []=>[]
 |v::l=>((cS v l:Int)+1,v)::runs (l.drop (cS v l))
termination_by l=>l.length
decreasing_by simp;omega
theorem IN (l:List Int) (a j:Nat):(l.drop a)[j]! =l[a+j]!:=by
 simp [gi,List.getElem?_drop]
def BK:List (Int×Int)->List Int
 | []=>[]
 |(n,v)::r=>put n++(put (eK v)++BK r)
def oU (l:List Int):ByteArray:=aT (BK (runs l))
theorem IY {l:List Int} (h:∀x,x∈l->inI x) (k:Nat):inI l[k]!:=by
 by_cases q:k<l.length
 ·rw[getElem!_pos l k q];exact h _ (List.getElem_mem q)
 ·rw[getElem!_neg l k q];unfold inI;exact⟨dc,dc⟩
def dGo (s:ByteArray) (n a:Int) (M:List Int):List Int×Int:=
 if h0:(M.length:Int)<n then
  if(aA s a).2.2≠0 then([],(aA s a).2.2)
  else if h1:(aA s a).1=0\/(aA s a).1>n-M.length then([],2)
  else if(aA s (aA s a).2.1).2.2≠0 then([],(aA s (aA s a).2.1).2.2)
  else if 0<M.length/\M[M.length-1]! =nE (aA s (aA s a).2.1).1 then([],2)
  else dGo s n (aA s (aA s a).2.1).2.1 (M++gf (aA s a).1.toNat (nE (aA s (aA s a).2.1).1))
 else if a<s.size then([],2)else(M,0)
termination_by (n-M.length).toNat
decreasing_by
 have:=bA s a;simp only[gc,ge];omega
def eP (s:ByteArray) (n:Int):List Int×Int:=if n<0\/n>4096 then([],4)else dGo s n 0 []
theorem qaN {s:ByteArray} {n a:Int} {M:List Int} (h:(M.length:Int)<n) (h1:¬(aA s a).2.2=0):dGo s n a M=([],(aA s a).2.2):=by rw[dGo,dif_pos h,if_pos h1]
theorem qaO {s:ByteArray} {n a:Int} {M:List Int} (h:(M.length:Int)<n) (h1:(aA s a).2.2=0) (h2:(aA s a).1=0\/(aA s a).1>n-M.length):dGo s n a M=([],2):=by rw[dGo,dif_pos h,if_neg (fun q=>q h1),dif_pos h2]
theorem qaP {s:ByteArray} {n a:Int} {M:List Int} (h:(M.length:Int)<n) (h1:(aA s a).2.2=0) (h2:¬((aA s a).1=0\/(aA s a).1>n-M.length)) (h3:¬(aA s (aA s a).2.1).2.2=0):dGo s n a M=([],(aA s (aA s a).2.1).2.2):=by
 rw[dGo,dif_pos h,if_neg (fun q=>q h1),dif_neg h2,if_pos h3]
theorem qaQ {s:ByteArray} {n a:Int} {M:List Int} (h:(M.length:Int)<n) (h1:(aA s a).2.2=0) (h2:¬((aA s a).1=0\/(aA s a).1>n-M.length)) (h3:(aA s (aA s a).2.1).2.2=0) (h4:0<M.length/\M[M.length-1]! =nE (aA s (aA s a).2.1).1):dGo s n a M=([],2):=by
 rw[dGo,dif_pos h,if_neg (fun q=>q h1),dif_neg h2,if_neg (fun q=>q h3),if_pos h4]
theorem qWN {s:ByteArray} {n a:Int} {M:List Int} (h:(M.length:Int)<n) (h1:(aA s a).2.2=0) (h2:¬((aA s a).1=0\/(aA s a).1>n-M.length)) (h3:(aA s (aA s a).2.1).2.2=0) (h4:¬(0<M.length/\M[M.length-1]! =nE (aA s (aA s a).2.1).1)) :
  dGo s n a M=dGo s n (aA s (aA s a).2.1).2.1 (M++gf (aA s a).1.toNat (nE (aA s (aA s a).2.1).1)):=by
 rw[dGo,dif_pos h,if_neg (fun q=>q h1),dif_neg h2,if_neg (fun q=>q h3),if_neg h4]
theorem qN0 {s:ByteArray} {n a:Int} {M:List Int} (h:¬(M.length:Int)<n):dGo s n a M=if a<s.size then([],2)else(M,0):=by rw[dGo,dif_neg h]
theorem qQQ {M:List Int} {u v:Int} (h:0<=u):M++gf (u+1).toNat v=M++gf u.toNat v++ [v]:=by
 rw[show(u+1).toNat=u.toNat+1 by omega,List.replicate_succ',ka]
abbrev VJ:Ct:=.fn [.list (.int .i64)] (some (fun(l:List Int)=>(1<=l.length/\l.length<=1073741824))) (fun(l:List Int)=>.d (.int .i64) ((cS l[0]! (l.drop 1):Int)+1))
theorem qZR:aH Tryz.prog 176 VJ:=by
 refine aH.fn qG8 mixed [] [] rfl rfl ?_;rintro⟨(l:List Int),_⟩ hpre;replace hpre:=hpre _ rfl;dsimp only[cu]at hpre;have hl:=hpre;refine⟨[(0,4,LA.mk [.sl 3 (.int .i64)] (fun y=>Tag 21/\cu [.int .i64] (fun(n:Int)=>(1<=n/\n<=l.length)/\(∀j:Nat,(j:Int)<n->l[j]! =l[0]!)) y) (cu [.int .i64] (fun(n:Int)=>((l.length:Int)-n).toNat)) (cu [.int .i64] (fun(n:Int)=>([]:List (Nat×Nat×LA)))))],?_⟩;repeat' (first
  |(
 with_reducible refine Side.mk ⟨(⟨⟩:Tag 21),?_⟩
 dsimp only[cu,aC,aB,gts,eE,eN]
 refine⟨?_,?_⟩
 ·omega
 ·first
  |(
  intro j hj
  first
  |rw[show j=0 by omega]
  |(
   rcases Int.lt_or_le (j:Int) n with q|q
   ·exact he j q
   ·rw[show j=n.toNat by omega];first|assumption|(simp_all;done))))
  |(
 with_reducible apply Side.mk
 (try dsimp only[cu,aC,aB,gts,loK,hiK,eE,eN])
 omega)
  |(conv=>whnf
    first
     |with_reducible first|done|exact trivial|refine NilBr.mk (fun h=>?_) ?_|apply aL|apply aK|refine aM kr ?_|apply aN|apply bL|apply bK|apply aU
     |((with_reducible first|apply aW|apply aV|apply bH)<;>intro h<;>(try dsimp only[cu,eE,eN]at h)<;>(try(exfalso;omega)))
     |(
 intro yy (hy:Tag 21/\_)
 obtain⟨(n:Int),_⟩:=yy
 replace hy:=hy.2
 dsimp only[cu,aC,aB,gts,eE,eN]at hy
 obtain⟨hn,he⟩:=hy)))
 all_goals(
 with_reducible apply Leaf.mk
 (try dsimp only[cu,aC,aB,gts,eE,eN]at *)
 (
  have e:cS l[0]! (l.drop 1)=(n-1).toNat:=by
   refine QE (by simp;omega) (fun j hj=>by rw[IN];exact he _ om) ?_;first
   |(left;simp;omega)
   |(right;rw[IN,show 1+(n-1).toNat=n.toNat by omega];first|assumption|(simp_all;done))
  rw[e];show(_:Int)=_;omega))
abbrev qcH:Tbl:=(176,VJ)::qcG
theorem qG9:aD Tryz.prog qcH:=aD.cons qZR qG8
abbrev DD:Ct:=.fn [.str,.int .i64] (some (fun(s:ByteArray) (n:Int)=>(s.size<=288230376151711744))) (fun(s:ByteArray) (n:Int)=>.tup [.list (.int .i64),.int .i64] ((eP s n).1,(eP s n).2,()))
theorem qLE:aH Tryz.prog 190 DD:=by
 refine aH.fn qG9 mixed [(0,3,3500006),(0,5,3500006),(0,9,3500006),(0,15,3500006)] [] rfl rfl ?_;rintro⟨(s:ByteArray),(n:Int),_⟩ hpre;replace hpre:=hpre _ rfl;dsimp only[cu]at hpre;have hs:=hpre;refine⟨[(0,10,LA.mk [.sl 7 (.int .i64),.nls 6 (.int .i64) 2] (fun y=>Tag 22/\cu [.int .i64,.list (.int .i64)] (fun(a:Int) (M:List Int)=>(dGo s n 0 []=dGo s n a M)/\((M.length:Int)<=n)) y) (cu [.int .i64,.list (.int .i64)] (fun(a:Int) (M:List Int)=>(n-(M.length:Int)).toNat)) (cu [.int .i64,.list (.int .i64)] (fun(a:Int) (M:List Int)=>([(0,36,LA.mk [.sl 72 (.int .u64),.nls 6 (.int .i64) 2] (fun y=>Tag 23/\cu [.int .u64,.list (.int .i64)] (fun(u:Int) (Q:List Int)=>(0<=u/\u<=(aA s a).1)/\(Q=M++gf u.toNat (nE (aA s (aA s a).2.1).1))) y) (cu [.int .u64,.list (.int .i64)] (fun(u:Int) (Q:List Int)=>((aA s a).1-u).toNat)) (cu [.int .u64,.list (.int .i64)] (fun(u:Int) (Q:List Int)=>([]:List (Nat×Nat×LA)))))]:List (Nat×Nat×LA)))))],?_⟩;repeat' (first
  |(
 with_reducible refine Side.mk ⟨(⟨⟩:Tag 22),?_⟩
 dsimp only[cu,aC,aB,gts,eE,eN]
 refine⟨?_,?_⟩
 ·first
  |rw[show gf (Int.toNat 0) (0:Int)= []from rfl]
  |(
  have hg:=bA s a
  have hg2:=bA s (aA s a).2.1
  have hwn:=bF (n:=n-(M.length:Int)) om
  have h2:¬((aA s a).1=0\/(aA s a).1>n-M.length):=om
  have h1:(aA s a).2.2=0:=av
  have h3:(aA s (aA s a).2.1).2.2=0:=av
  have h4:¬(0<M.length/\M[M.length-1]! =nE (aA s (aA s a).2.1).1):=by first|(intro q;omega)|(intro q;simp_all;done)
  rw[hM,qWN om h1 h2 h3 h4,hQ]
  (try rw[show u=(aA s a).1 by omega])
  (try rw[show(aA s a).1-u=(aA s a).1 by omega]))
 ·first
  |simp;omega
  |(
  have hg:=bA s a
  have hg2:=bA s (aA s a).2.1
  have hwn:=bF (n:=n-(M.length:Int)) om
  rw[hQ]
  simp only[gc,ge]
  omega))
  |(
 with_reducible refine Side.mk ⟨(⟨⟩:Tag 23),?_⟩
 dsimp only[cu,aC,aB,gts,eE,eN]
 refine⟨?_,?_⟩
 ·first
  |(
  have hg:=bA s a
  have hg2:=bA s (aA s a).2.1
  first
  |omega
  |(
   have hwu:=bF (n:=u+1) om;omega))
 ·first
  |simp;done
  |(
  have hg:=bA s a
  have hg2:=bA s (aA s a).2.1
  have hwu:=bF (n:=u+1) om
  rw[hwu,qQQ om,<-hQ]))
  |(
 with_reducible apply Side.mk
 (try dsimp only[cu,aC,aB,gts,loK,hiK,eE,eN])
 first
 |done
 |omega
 |exact kb _
 |(
  have hg:=bA s a;have hg2:=bA s (aA s a).2.1;first
  |omega
  |(
   have hwu:=bF (n:=u+1) om;omega)
  |(
   have hwn:=bF (n:=n-(M.length:Int)) om;have hQl:=congrArg List.length hQ;simp only[gc,ge,gg,gj]at hQl ⊢;omega)))
  |(conv=>whnf
    first
     |with_reducible first|done|exact trivial|refine NilBr.mk (fun h=>?_) ?_|apply aL|apply aK|refine aM kr ?_|apply aN|apply bL|apply bK|apply aU
     |((with_reducible first|apply aW|apply aV|apply bH)<;>intro h<;>(try dsimp only[cu,eE,eN]at h)<;>(try(exfalso;omega)))
     |(
 intro yy (hy:Tag 22/\_)
 obtain⟨(a:Int),(M:List Int),_⟩:=yy
 replace hy:=hy.2
 dsimp only[cu,aC,aB,gts,eE,eN]at hy
 obtain⟨hM,hl⟩:=hy)
     |(
 intro yy (hy:Tag 23/\_)
 obtain⟨(u:Int),(Q:List Int),_⟩:=yy
 replace hy:=hy.2
 dsimp only[cu,aC,aB,gts,eE,eN]at hy
 obtain⟨hu,hQ⟩:=hy)))
 all_goals(
 with_reducible apply Leaf.mk
 (try dsimp only[cu,aC,aB,gts,eE,eN]at *)
 first
 |(
  have q:n<0\/n>4096:=om
  rw[eP,if_pos q])
 |(
  have q:¬(n<0\/n>4096):=om
  rw[eP,if_neg q,hM];first
  |(
   have h1:¬(aA s a).2.2=0:=av
   rw[qaN om h1])
  |(
   have hg:=bA s a;have hg2:=bA s (aA s a).2.1;have hwn:=bF (n:=n-(M.length:Int)) om;first
   |(
    have h1:(aA s a).2.2=0:=av
    have h2:(aA s a).1=0\/(aA s a).1>n-M.length:=om
    rw[qaO om h1 h2])
   |(
    have h2:¬((aA s a).1=0\/(aA s a).1>n-M.length):=om
    have h1:(aA s a).2.2=0:=av
    first
    |(
     have h3:¬(aA s (aA s a).2.1).2.2=0:=av
     rw[qaP om h1 h2 h3])
    |(
     have h3:(aA s (aA s a).2.1).2.2=0:=av
     have h4:0<M.length/\M[M.length-1]! =nE (aA s (aA s a).2.1).1:=⟨om,by first|assumption|(simp_all;done)⟩
     rw[qaQ om h1 h2 h3 h4])))
  |(
   have ha:a<s.size:=om
   rw[qN0 om,if_pos ha])
  |(
   have ha:¬a<s.size:=om
   rw[qN0 om,if_neg ha])))
abbrev qcI:Tbl:=(190,DD)::qcH
theorem qHA:aD Tryz.prog qcI:=aD.cons qLE qG9
def mnL:List Int->Int
 | []=>0
 |x::l=>l.foldl gP x
def mxL:List Int->Int
 | []=>0
 |x::l=>l.foldl cH x
theorem qUJ (x:Int):∀l:List Int,l≠ []->mnL (l++ [x])=gP (mnL l) x
 | [],h=>absurd rfl h
 |y::l,_=>by simp [mnL]
theorem qUP (x:Int):∀l:List Int,l≠ []->mxL (l++ [x])=cH (mxL l) x
 | [],h=>absurd rfl h
 |y::l,_=>by simp [mxL]
theorem qGE {l:List Int} {k:Int} (h:1<=k/\k<l.length):l.take k.toNat≠ []:=by
 intro q;have:=congrArg List.length q;rw[gk,gj]at this;omega
theorem qI {l:List Int} {k:Int} (h:0<=k/\k<l.length):l.take (k+1).toNat=l.take k.toNat++ [l[k.toNat]!]:=by
 rw[show(k+1).toNat=k.toNat+1 by omega,gm om,getElem!_pos l k.toNat om]
theorem qE9 {l:List Int} {k:Int} (h:1<=k/\k<l.length):mnL (l.take (k+1).toNat)=gP (mnL (l.take k.toNat)) l[k.toNat]!:=by
 rw[qI om,qUJ _ _ (qGE h)]
theorem qUR {l:List Int} {k:Int} (h:1<=k/\k<l.length):mxL (l.take (k+1).toNat)=cH (mxL (l.take k.toNat)) l[k.toNat]!:=by
 rw[qI om,qUP _ _ (qGE h)]
theorem KS {l:List Int} (h:1<=l.length):l.take (1:Int).toNat= [l[0]!]:=by
 cases l with
 |nil=>simp at h
 |cons x l=>rfl
theorem qDM (s:ByteArray) (n w:Int):∀i:Nat,(bM s n w).1[i]! <18446744073709551616:=by
 intro i;have nil:∀l:List Int,l= []->l[i]! <18446744073709551616:=fun l h=>by subst h;show(0:Int)<_;decide
 unfold bM;split
 ·exact nil _ rfl
 rename_i hp;have hp:=(gO n w).1 (Decidable.not_not.1 hp);split
 ·exact nil _ rfl
 split
 ·exact nil _ rfl
 split
 ·exact nil _ rfl
 ·by_cases h:i<n.toNat
  ·rw[SQ h]
   have h1:=(OT (yA s) (n*w).toNat w.toNat i w.toNat).2;have h2:(2:Int)^w.toNat<=18446744073709551616:=by
    have:=Nat.pow_le_pow_right (show 0<2 by decide) (show w.toNat<=64 by omega);rw[<-dI];omega
   omega
  ·rw[getElem!_neg _ i (by rw[jB];exact h)];show(0:Int)<_;decide
theorem qAW (s:ByteArray) (n w:Int) (i:Nat):0<=(bM s n w).1[i]! /\(bM s n w).1[i]! <18446744073709551616:=⟨rE s n w i,qDM s n w i⟩
theorem qCN:∀ {l:List Int} {x:Int},l.foldl cH x=x\/l.foldl cH x∈l
 | [],x=>.inl rfl
 |y::l,x=>by
  rcases qCN (l:=l) (x:=cH x y)with q|q
  ·rw[gh,q];unfold cH;split
   ·right;simp
   ·left;rfl
  ·right;rw[gh];simp [q]
theorem qUQ {l:List Int} (h:∀i:Nat,0<=l[i]! /\l[i]! <18446744073709551616):0<=mxL l/\mxL l<18446744073709551616:=by
 have hm:∀x,x∈l->0<=x/\x<18446744073709551616:=fun x hx=>by
  obtain⟨i,hi,rfl⟩:=List.mem_iff_getElem.1 hx;have:=h i;rwa [getElem!_pos l i hi]at this
 cases l with
 |nil=>exact⟨kl _,by show(0:Int)<_;decide⟩
 |cons x l=>
  show 0<=ko cH x l/\ko cH x l<18446744073709551616;rcases qCN (l:=l) (x:=x)with q|q
  ·rw[q];exact hm x sm
  ·exact hm _ (by simp [q])
def dW (s:ByteArray) (a:Int):Int:=aG s (aA s a).2.1.toNat
def dE (s:ByteArray) (a k:Int):Int:=(aA s a).2.1+1+eR k (dW s a)
def dU (s:ByteArray) (a k:Int):List Int×Int:=bM (s.extract ((aA s a).2.1+1).toNat (dE s a k).toNat) k (dW s a)
def dL (s:ByteArray) (a:Int):Int:=nE (aA s a).1
def dDs (s:ByteArray) (a k:Int):List Int:=(dU s a k).1.map fun v=>IntKind.i64.wrap (dL s a+v)
def dOk (s:ByteArray) (a k:Int):Bool:=decide ((dU s a k).2=0)&&decide (mnL (dU s a k).1=0)&&decide (iP (mxL (dU s a k).1)=dW s a)&&decide (mnL (dDs s a k)=dL s a)
def iY (s:ByteArray) (a k:Int):List Int×Int×Int:=
 if(aA s a).2.2≠0 then([],0,(aA s a).2.2)else if(aA s a).2.1=s.size then([],0,10)else if dW s a>64 then([],0,2)
 else if dE s a k>s.size then([],0,10)else if dOk s a k=false then([],0,2)else(dDs s a k,dE s a k,0)
theorem qMB (x v:Int):IntKind.i64.wrap (x+IntKind.i64.wrap v)=IntKind.i64.wrap (x+v):=by simp [IntKind.wrap,IntKind.bits,IntKind.signed];omega
theorem qBQ (s:ByteArray) (a:Int):0<=dW s a/\dW s a<256:=cZ _ _
theorem qX1 {s:ByteArray} {a k:Int} (h:(dU s a k).2=0):(dU s a k).1.length=k.toNat:=jH h
theorem FC (s:ByteArray) (a k:Int):dOk s a k=true↔(dU s a k).2=0/\mnL (dU s a k).1=0/\iP (mxL (dU s a k).1)=dW s a/\mnL (dDs s a k)=dL s a:=by simp [dOk,and_assoc]
theorem qN1 {s:ByteArray} {a k:Int} (h:¬((dU s a k).2=0/\mnL (dU s a k).1=0/\iP (mxL (dU s a k).1)=dW s a/\mnL (dDs s a k)=dL s a)):dOk s a k=false:=by
 rw[kd];exact fun q=>h ((FC s a k).1 q)
theorem qUD {l:List Int} {f:Int->Int} {k:Int} (h:0<=k/\k<l.length):(l.take (k+1).toNat).map f=(l.take k.toNat).map f++ [f l[k.toNat]!]:=by
 rw[qI h];simp
theorem vS (k w:Int):0<=eR k w/\eR k w<=32768:=by
 unfold eR;split
 ·rename_i h
  have h1:=(gO k w).1 h;have h2:=qPR h1;rw[gu om];omega
 ·omega
abbrev HB:Ct:=.fn [.list (.int .i64)] (some (fun(l:List Int)=>(1<=l.length/\l.length<=1073741824))) (fun(l:List Int)=>.d (.int .i64) (mnL l))
theorem qPG:aH Tryz.prog 201 HB:=by
 refine aH.fn qHA mixed [] [] rfl rfl ?_;rintro⟨(l:List Int),_⟩ hpre;replace hpre:=hpre _ rfl;dsimp only[cu]at hpre;have hl:=hpre;refine⟨[(0,10,LA.mk [.sl 4 (.int .i64),.sl 3 (.int .i64)] (fun y=>Tag 24/\cu [.int .i64,.int .i64] (fun(i:Int) (m:Int)=>(1<=i/\i<=l.length)/\(m=mnL (l.take i.toNat))) y) (cu [.int .i64,.int .i64] (fun(i:Int) (m:Int)=>((l.length:Int)-i).toNat)) (cu [.int .i64,.int .i64] (fun(i:Int) (m:Int)=>([]:List (Nat×Nat×LA)))))],?_⟩;repeat' (first
  |(
 with_reducible refine Side.mk ⟨(⟨⟩:Tag 24),?_⟩
 dsimp only[cu,aC,aB,gts,eE,eN]
 refine⟨?_,?_⟩
 ·omega
 ·first
  |rw[KS om];rfl
  |(
  (try simp only[kJ])
  rw[hm,qE9 om]))
  |(
 with_reducible apply Side.mk
 (try dsimp only[cu,aC,aB,gts,loK,hiK,eE,eN])
 omega)
  |(conv=>whnf
    first
     |with_reducible first|done|exact trivial|refine NilBr.mk (fun h=>?_) ?_|apply aL|apply aK|refine aM kr ?_|apply aN|apply bL|apply bK|apply aU
     |((with_reducible first|apply aW|apply aV|apply bH)<;>intro h<;>(try dsimp only[cu,eE,eN]at h)<;>(try(exfalso;omega)))
     |(
 intro yy (hy:Tag 24/\_)
 obtain⟨(i:Int),(m:Int),_⟩:=yy
 replace hy:=hy.2
 dsimp only[cu,aC,aB,gts,eE,eN]at hy
 obtain⟨hi,hm⟩:=hy)))
 all_goals(
 with_reducible apply Leaf.mk
 (try dsimp only[cu,aC,aB,gts,eE,eN]at *)
 rw[hm,ga om])
abbrev qcJ:Tbl:=(201,HB)::qcI
theorem qHB:aD Tryz.prog qcJ:=aD.cons qPG qHA
abbrev ND:Ct:=.fn [.list (.int .u64)] (some (fun(l:List Int)=>(1<=l.length/\l.length<=1073741824))) (fun(l:List Int)=>.d (.int .u64) (mnL l))
theorem qUI:aH Tryz.prog 227 ND:=by
 refine aH.fn qHB mixed [] [] rfl rfl ?_;rintro⟨(l:List Int),_⟩ hpre;replace hpre:=hpre _ rfl;dsimp only[cu]at hpre;have hl:=hpre;refine⟨[(0,10,LA.mk [.sl 4 (.int .i64),.sl 3 (.int .u64)] (fun y=>Tag 25/\cu [.int .i64,.int .u64] (fun(i:Int) (m:Int)=>(1<=i/\i<=l.length)/\(m=mnL (l.take i.toNat))) y) (cu [.int .i64,.int .u64] (fun(i:Int) (m:Int)=>((l.length:Int)-i).toNat)) (cu [.int .i64,.int .u64] (fun(i:Int) (m:Int)=>([]:List (Nat×Nat×LA)))))],?_⟩;repeat' (first
  |(
 with_reducible refine Side.mk ⟨(⟨⟩:Tag 25),?_⟩
 dsimp only[cu,aC,aB,gts,eE,eN]
 refine⟨?_,?_⟩
 ·omega
 ·first
  |rw[KS om];rfl
  |(
  (try simp only[kJ])
  rw[hm,qE9 om]))
  |(
 with_reducible apply Side.mk
 (try dsimp only[cu,aC,aB,gts,loK,hiK,eE,eN])
 omega)
  |(conv=>whnf
    first
     |with_reducible first|done|exact trivial|refine NilBr.mk (fun h=>?_) ?_|apply aL|apply aK|refine aM kr ?_|apply aN|apply bL|apply bK|apply aU
     |((with_reducible first|apply aW|apply aV|apply bH)<;>intro h<;>(try dsimp only[cu,eE,eN]at h)<;>(try(exfalso;omega)))
     |(
 intro yy (hy:Tag 25/\_)
 obtain⟨(i:Int),(m:Int),_⟩:=yy
 replace hy:=hy.2
 dsimp only[cu,aC,aB,gts,eE,eN]at hy
 obtain⟨hi,hm⟩:=hy)))
 all_goals(
 with_reducible apply Leaf.mk
 (try dsimp only[cu,aC,aB,gts,eE,eN]at *)
 rw[hm,ga om])
abbrev qcK:Tbl:=(227,ND)::qcJ
theorem qHC:aD Tryz.prog qcK:=aD.cons qUI qHB
abbrev NA:Ct:=.fn [.list (.int .u64)] (some (fun(l:List Int)=>(1<=l.length/\l.length<=1073741824))) (fun(l:List Int)=>.d (.int .u64) (mxL l))
theorem qUE:aH Tryz.prog 228 NA:=by
 refine aH.fn qHC mixed [] [] rfl rfl ?_;rintro⟨(l:List Int),_⟩ hpre;replace hpre:=hpre _ rfl;dsimp only[cu]at hpre;have hl:=hpre;refine⟨[(0,10,LA.mk [.sl 4 (.int .i64),.sl 3 (.int .u64)] (fun y=>Tag 26/\cu [.int .i64,.int .u64] (fun(i:Int) (m:Int)=>(1<=i/\i<=l.length)/\(m=mxL (l.take i.toNat))) y) (cu [.int .i64,.int .u64] (fun(i:Int) (m:Int)=>((l.length:Int)-i).toNat)) (cu [.int .i64,.int .u64] (fun(i:Int) (m:Int)=>([]:List (Nat×Nat×LA)))))],?_⟩;repeat' (first
  |(
 with_reducible refine Side.mk ⟨(⟨⟩:Tag 26),?_⟩
 dsimp only[cu,aC,aB,gts,eE,eN]
 refine⟨?_,?_⟩
 ·omega
 ·first
  |rw[KS om];rfl
  |(
  (try simp only[kJ])
  rw[hm,qUR om]))
  |(
 with_reducible apply Side.mk
 (try dsimp only[cu,aC,aB,gts,loK,hiK,eE,eN])
 omega)
  |(conv=>whnf
    first
     |with_reducible first|done|exact trivial|refine NilBr.mk (fun h=>?_) ?_|apply aL|apply aK|refine aM kr ?_|apply aN|apply bL|apply bK|apply aU
     |((with_reducible first|apply aW|apply aV|apply bH)<;>intro h<;>(try dsimp only[cu,eE,eN]at h)<;>(try(exfalso;omega)))
     |(
 intro yy (hy:Tag 26/\_)
 obtain⟨(i:Int),(m:Int),_⟩:=yy
 replace hy:=hy.2
 dsimp only[cu,aC,aB,gts,eE,eN]at hy
 obtain⟨hi,hm⟩:=hy)))
 all_goals(
 with_reducible apply Leaf.mk
 (try dsimp only[cu,aC,aB,gts,eE,eN]at *)
 rw[hm,ga om])
abbrev qcL:Tbl:=(228,NA)::qcK
theorem qHD:aD Tryz.prog qcL:=aD.cons qUE qHC
abbrev NM:Ct:=.fn [.str,.int .i64,.int .i64] (some (fun(s:ByteArray) (a:Int) (k:Int)=>(s.size<=288230376151711744)/\(1<=k/\k<=32))) (fun(s:ByteArray) (a:Int) (k:Int)=>.tup [.list (.int .i64),.int .i64,.int .i64] ((iY s a k).1,(iY s a k).2.1,(iY s a k).2.2,()))
theorem qU1:aH Tryz.prog 213 NM:=by
 refine aH.fn qHD mixed [(0,20,3),(0,20,4)] [] rfl rfl ?_;rintro⟨(s:ByteArray),(a:Int),(k:Int),_⟩ hpre;replace hpre:=hpre _ rfl;dsimp only[cu]at hpre;obtain⟨hs,hk⟩:=hpre;refine⟨[(0,36,LA.mk [.sl 77 (.int .i64),.lst 15 (.int .i64) 2] (fun y=>Tag 27/\cu [.int .i64,.list (.int .i64)] (fun(i:Int) (D:List Int)=>(0<=i/\i<=(bM (s.extract ((aA s a).2.1+1).toNat ((aA s a).2.1+1+eR k (aG s (aA s a).2.1.toNat)).toNat) k (aG s (aA s a).2.1.toNat)).1.length)/\(D=((bM (s.extract ((aA s a).2.1+1).toNat ((aA s a).2.1+1+eR k (aG s (aA s a).2.1.toNat)).toNat) k (aG s (aA s a).2.1.toNat)).1.take i.toNat).map (fun v=>IntKind.i64.wrap (nE (aA s a).1+v)))) y) (cu [.int .i64,.list (.int .i64)] (fun(i:Int) (D:List Int)=>((bM (s.extract ((aA s a).2.1+1).toNat ((aA s a).2.1+1+eR k (aG s (aA s a).2.1.toNat)).toNat) k (aG s (aA s a).2.1.toNat)).1.length-i).toNat)) (cu [.int .i64,.list (.int .i64)] (fun(i:Int) (D:List Int)=>([]:List (Nat×Nat×LA)))))],?_⟩;repeat' (first
  |(
 with_reducible refine Side.mk ⟨(⟨⟩:Tag 27),?_⟩
 dsimp only[cu,aC,aB,gts,eE,eN]
 refine⟨?_,?_⟩
 ·omega
 ·first
  |rfl
  |(
  (try simp only[kJ])
  rw[hD,qUD om,qMB]))
  |(
 with_reducible apply Side.mk
 (try dsimp only[cu,aC,aB,gts,loK,hiK,eE,eN])
 first
 |done
 |omega
 |exact kb _
 |(
  have hg:=bA s a;have hw:=qBQ s a;have hn:=vS k (aG s (aA s a).2.1.toNat);have hg0:(aA s a).2.2=0:=av
  have hok:=bT hg0;first
  |omega
  |(
   have eW:dW s a=aG s (aA s a).2.1.toNat:=rfl;have eE:dE s a k=(aA s a).2.1+1+eR k (aG s (aA s a).2.1.toNat):=rfl;have eU:dU s a k=bM (s.extract ((aA s a).2.1+1).toNat ((aA s a).2.1+1+eR k (aG s (aA s a).2.1.toNat)).toNat) k (aG s (aA s a).2.1.toNat):=rfl;omega))
 |exact qUQ (qAW _ _ _)
 |(
  have hu0:(bM (s.extract ((aA s a).2.1+1).toNat ((aA s a).2.1+1+eR k (aG s (aA s a).2.1.toNat)).toNat) k (aG s (aA s a).2.1.toNat)).2=0:=wa
  have hul:=jH hu0;omega)
 |(
  have hDl:=congrArg List.length hD;rw[gl,gk]at hDl;have hu0:(bM (s.extract ((aA s a).2.1+1).toNat ((aA s a).2.1+1+eR k (aG s (aA s a).2.1.toNat)).toNat) k (aG s (aA s a).2.1.toNat)).2=0:=wa
  have hul:=jH hu0;(try simp only[gg,gj]);omega)
 |(
  have hg:=bA s a;have hw:=qBQ s a;have hn:=vS k (aG s (aA s a).2.1.toNat);have hg0:(aA s a).2.2=0:=av
  have hok:=bT hg0;have eW:dW s a=aG s (aA s a).2.1.toNat:=rfl;have eE:dE s a k=(aA s a).2.1+1+eR k (aG s (aA s a).2.1.toNat):=rfl;have eU:dU s a k=bM (s.extract ((aA s a).2.1+1).toNat ((aA s a).2.1+1+eR k (aG s (aA s a).2.1.toNat)).toNat) k (aG s (aA s a).2.1.toNat):=rfl;simp only[go];omega))
  |(conv=>whnf
    first
     |with_reducible first|done|exact trivial|refine NilBr.mk (fun h=>?_) ?_|apply aL|apply aK|refine aM kr ?_|apply aN|apply bL|apply bK|apply aU
     |((with_reducible first|apply aW|apply aV|apply bH)<;>intro h<;>(try dsimp only[cu,eE,eN]at h)<;>(try(exfalso;omega)))
     |(
 intro yy (hy:Tag 27/\_)
 obtain⟨(i:Int),(D:List Int),_⟩:=yy
 replace hy:=hy.2
 dsimp only[cu,aC,aB,gts,eE,eN]at hy
 obtain⟨hi,hD⟩:=hy)))
 all_goals(
 with_reducible apply Leaf.mk
 (try dsimp only[cu,aC,aB,gts,eE,eN]at *)
 first
 |(
  have e1:(aA s a).2.2≠0:=av
  rw[iY,if_pos e1])
 |(
  have hg:=bA s a;have hw:=qBQ s a;have hn:=vS k (aG s (aA s a).2.1.toNat);have hg0:(aA s a).2.2=0:=av
  have hok:=bT hg0;first
  |(
   have e1:¬(aA s a).2.2≠0:=fun q=>q av
   have e2:(aA s a).2.1=s.size:=om
   rw[iY,if_neg e1,if_pos e2])
  |(
   have eW:dW s a=aG s (aA s a).2.1.toNat:=rfl;have eE:dE s a k=(aA s a).2.1+1+eR k (aG s (aA s a).2.1.toNat):=rfl;have eU:dU s a k=bM (s.extract ((aA s a).2.1+1).toNat ((aA s a).2.1+1+eR k (aG s (aA s a).2.1.toNat)).toNat) k (aG s (aA s a).2.1.toNat):=rfl;have e1:¬(aA s a).2.2≠0:=fun q=>q av
   have e2:¬(aA s a).2.1=s.size:=om
   first
   |(
    have e3:dW s a>64:=om
    rw[iY,if_neg e1,if_neg e2,if_pos e3])
   |(
    have e3:¬dW s a>64:=om
    first
    |(
     have e4:dE s a k>s.size:=om
     rw[iY,if_neg e1,if_neg e2,if_neg e3,if_pos e4])
    |(
     have e4:¬dE s a k>s.size:=om
     first
     |(
      have e5:dOk s a k=false:=by
       refine qN1 (fun q=>?_);obtain⟨q1,q2,q3,q4⟩:=q;rw[eU]at q1 q2 q3;first|(simp_all;done)|omega
      rw[iY,if_neg e1,if_neg e2,if_neg e3,if_neg e4,if_pos e5])
     |(
      have hDD:D=dDs s a k:=by rw[hD,ga om];rfl
      first
      |(
       have e5:dOk s a k=false:=by
        refine qN1 (fun q=>?_);obtain⟨q1,q2,q3,q4⟩:=q;rw[<-hDD]at q4;first|contradiction|(exact absurd q4 av)
       rw[iY,if_neg e1,if_neg e2,if_neg e3,if_neg e4,if_pos e5])
      |(
       have e5:¬dOk s a k=false:=by
        rw[kd];intro q;apply q;rw[FC,<-hDD,eU,eW];first|(exact⟨av,av,av,av⟩)|(simp_all;done)
       rw[iY,if_neg e1,if_neg e2,if_neg e3,if_neg e4,if_neg e5];(try rw[hDD]);(try rfl))))))))
abbrev qcM:Tbl:=(213,NM)::qcL
theorem qHE:aD Tryz.prog qcM:=aD.cons qU1 qHD
def iE (M:List Int):Int:=M[M.length-1]!
def nC:Int->List Int->List Int
 |_,[]=>[]
 |x,d::r=>IntKind.i64.wrap (x+d)::nC (IntKind.i64.wrap (x+d)) r
theorem nY:∀(ds:List Int) (x:Int),(nC x ds).length=ds.length
 | [],_=>rfl
 |d::r,x=>by simp [nC,nY r]
theorem BT (M:List Int) (w:Int):iE (M++ [w])=w:=by
 unfold iE;rw[getElem!_pos _ _ sm];simp
theorem ZL:∀(ds M:List Int) (d:Int),M++nC (iE M) (ds++ [d])=(M++nC (iE M) ds)++ [IntKind.i64.wrap (iE (M++nC (iE M) ds)+d)]
 | [],M,d=>by simp [nC]
 |e::r,M,d=>by
  have h:=ZL r (M++ [IntKind.i64.wrap (iE M+e)]) d;rw[BT]at h;simp only[List.cons_append,nC];simpa using h
theorem qRG {M B:List Int} {i:Int} (h:0<=i/\i<B.length):M++nC (iE M) (B.take (i+1).toNat)=(M++nC (iE M) (B.take i.toNat))++ [IntKind.i64.wrap (iE (M++nC (iE M) (B.take i.toNat))+B[i.toNat]!)]:=by
 rw[qI h,ZL]
theorem BR {n:Int} {M:List Int} (h:(M.length:Int)<n):1<=gP 32 (n-(M.length:Int))/\gP 32 (n-(M.length:Int))<=32/\M.length+gP 32 (n-(M.length:Int))<=n:=by unfold gP;split<;>omega
theorem vI {s:ByteArray} {a k:Int} (h:(iY s a k).2.2=0):(iY s a k).1.length=k.toNat/\0<=(iY s a k).2.1/\(iY s a k).2.1<=s.size:=by
 unfold iY at h ⊢;split at h
 ·exact absurd h av
 ·rename_i h1
  rw[if_neg h1];split at h
  ·exact absurd h dc
  ·rename_i h2
   rw[if_neg h2];split at h
   ·exact absurd h dc
   ·rename_i h3
    rw[if_neg h3];split at h
    ·exact absurd h dc
    ·rename_i h4
     rw[if_neg h4];split at h
     ·exact absurd h dc
     ·rename_i h5
      rw[if_neg h5];have h6:=(FC s a k).1 (by simpa using h5);have h7:=qX1 h6.1;have h8:=bT (Decidable.not_not.1 h1);have h9:=vS k (dW s a);have h10:dE s a k=(aA s a).2.1+1+eR k (dW s a):=rfl;refine⟨by simp [dDs,h7],?_,?_⟩
      ·show 0<=dE s a k;omega
      ·show dE s a k<=s.size;omega
def dd (s:ByteArray) (n a:Int) (M:List Int):List Int×Int:=
 if h:(M.length:Int)<n then
  if h2:(iY s a (gP 32 (n-(M.length:Int)))).2.2=0 then dd s n (iY s a (gP 32 (n-(M.length:Int)))).2.1 (M++nC (iE M) (iY s a (gP 32 (n-(M.length:Int)))).1)
  else([],(iY s a (gP 32 (n-(M.length:Int)))).2.2)
 else if a<s.size then([],2)else(M,0)
termination_by (n-M.length).toNat
decreasing_by
 have:=BR h;have:=(vI h2).1;simp only[gc,nY];omega
def cB (s:ByteArray) (n:Int):List Int×Int:=
 if n<0\/n>4096 then([],4)else if n=0 then(if s=⟨#[]⟩then([],0)else([],2))
 else if(aA s 0).2.2≠0 then([],(aA s 0).2.2)else dd s n (aA s 0).2.1 [nE (aA s 0).1]
theorem qX2 {s:ByteArray} {n a:Int} {M:List Int} (h:(M.length:Int)<n) (h2:¬(iY s a (gP 32 (n-(M.length:Int)))).2.2=0):dd s n a M=([],(iY s a (gP 32 (n-(M.length:Int)))).2.2):=by rw[dd,dif_pos h,dif_neg h2]
theorem qEH {s:ByteArray} {n a:Int} {M:List Int} (h:(M.length:Int)<n) (h2:(iY s a (gP 32 (n-(M.length:Int)))).2.2=0):dd s n a M=dd s n (iY s a (gP 32 (n-(M.length:Int)))).2.1 (M++nC (iE M) (iY s a (gP 32 (n-(M.length:Int)))).1):=by rw[dd,dif_pos h,dif_pos h2]
theorem qBT {s:ByteArray} {n a:Int} {M:List Int} (h:¬(M.length:Int)<n):dd s n a M=if a<s.size then([],2)else(M,0):=by rw[dd,dif_neg h]
theorem qUA {Q:List Int} (h:0<Q.length):Q[((Q.length:Int)-1).toNat]! =iE Q:=by
 unfold iE;rw[show((Q.length:Int)-1).toNat=Q.length-1 by omega]
abbrev MO:Ct:=.fn [.str,.int .i64] (some (fun(s:ByteArray) (n:Int)=>(s.size<=288230376151711744))) (fun(s:ByteArray) (n:Int)=>.tup [.list (.int .i64),.int .i64] ((cB s n).1,(cB s n).2,()))
theorem qS4:aH Tryz.prog 191 MO:=by
 refine aH.fn qHE mixed [(0,10,3500009),(0,11,3500009),(0,13,3500009),(0,19,8)] [] rfl rfl ?_;rintro⟨(s:ByteArray),(n:Int),_⟩ hpre;replace hpre:=hpre _ rfl;dsimp only[cu]at hpre;have hs:=hpre;refine⟨[(0,22,LA.mk [.sl 7 (.int .i64),.nls 9 (.int .i64) 2] (fun y=>Tag 28/\cu [.int .i64,.list (.int .i64)] (fun(a:Int) (M:List Int)=>(dd s n (aA s 0).2.1 [nE (aA s 0).1]=dd s n a M)/\(1<=M.length/\(M.length:Int)<=n)) y) (cu [.int .i64,.list (.int .i64)] (fun(a:Int) (M:List Int)=>(n-(M.length:Int)).toNat)) (cu [.int .i64,.list (.int .i64)] (fun(a:Int) (M:List Int)=>([(0,34,LA.mk [.sl 63 (.int .i64),.nls 9 (.int .i64) 2] (fun y=>Tag 29/\cu [.int .i64,.list (.int .i64)] (fun(i:Int) (Q:List Int)=>(0<=i/\i<=(iY s a (gP 32 (n-(M.length:Int)))).1.length)/\(Q=M++nC (iE M) ((iY s a (gP 32 (n-(M.length:Int)))).1.take i.toNat))) y) (cu [.int .i64,.list (.int .i64)] (fun(i:Int) (Q:List Int)=>(((iY s a (gP 32 (n-(M.length:Int)))).1.length:Int)-i).toNat)) (cu [.int .i64,.list (.int .i64)] (fun(i:Int) (Q:List Int)=>([]:List (Nat×Nat×LA)))))]:List (Nat×Nat×LA)))))],?_⟩;repeat' (first
  |(
 with_reducible refine Side.mk ⟨(⟨⟩:Tag 28),?_⟩
 dsimp only[cu,aC,aB,gts,eE,eN]
 refine⟨?_,?_⟩
 ·first
  |rfl
  |(
  have hk:=BR (n:=n) (M:=M) om
  have hb0:(iY s a (gP 32 (n-(M.length:Int)))).2.2=0:=av
  have hbk:=vI hb0
  have hi2:i.toNat=(iY s a (gP 32 (n-(M.length:Int)))).1.length:=om
  rw[hi2,List.take_length]at hQ
  rw[hM,qEH om hb0,<-hQ])
 ·first
  |simp;omega
  |(
  have hk:=BR (n:=n) (M:=M) om
  have hb0:(iY s a (gP 32 (n-(M.length:Int)))).2.2=0:=av
  have hbk:=vI hb0
  have hQl:=congrArg List.length hQ
  simp only[gc,nY,gk]at hQl
  omega))
  |(
 with_reducible refine Side.mk ⟨(⟨⟩:Tag 29),?_⟩
 dsimp only[cu,aC,aB,gts,eE,eN]
 refine⟨?_,?_⟩
 ·omega
 ·first
  |simp [nC];done
  |(
  have hk:=BR (n:=n) (M:=M) om
  have hb0:(iY s a (gP 32 (n-(M.length:Int)))).2.2=0:=av
  have hbk:=vI hb0
  have hQl:=congrArg List.length hQ
  simp only[gc,nY,gk]at hQl
  rw[qRG om,<-hQ,qUA om]))
  |(
 with_reducible apply Side.mk
 (try dsimp only[cu,aC,aB,gts,loK,hiK,eE,eN])
 first
 |done
 |omega
 |exact kb _
 |exact bA _ _
 |(
  have hk:=BR (n:=n) (M:=M) om;first
  |exact⟨hs,om⟩
  |(
   have hb0:(iY s a (gP 32 (n-(M.length:Int)))).2.2=0:=av
   have hbk:=vI hb0;have hQl:=congrArg List.length hQ;simp only[gc,nY,gk]at hQl;first
   |omega
   |(
    (try simp only[gg,gj]);omega))))
  |(conv=>whnf
    first
     |with_reducible first|done|exact trivial|refine NilBr.mk (fun h=>?_) ?_|apply aL|apply aK|refine aM kr ?_|apply aN|apply bL|apply bK|apply aU
     |((with_reducible first|apply aW|apply aV|apply bH)<;>intro h<;>(try dsimp only[cu,eE,eN]at h)<;>(try(exfalso;omega)))
     |(
 intro yy (hy:Tag 28/\_)
 obtain⟨(a:Int),(M:List Int),_⟩:=yy
 replace hy:=hy.2
 dsimp only[cu,aC,aB,gts,eE,eN]at hy
 obtain⟨hM,hl⟩:=hy)
     |(
 intro yy (hy:Tag 29/\_)
 obtain⟨(i:Int),(Q:List Int),_⟩:=yy
 replace hy:=hy.2
 dsimp only[cu,aC,aB,gts,eE,eN]at hy
 obtain⟨hi,hQ⟩:=hy)))
 all_goals(
 with_reducible apply Leaf.mk
 (try dsimp only[cu,aC,aB,gts,eE,eN]at *)
 first
 |(
  have q1:n<0\/n>4096:=om
  rw[cB,if_pos q1])
 |(
  have q1:¬(n<0\/n>4096):=om
  first
  |(
   have q2:n=0:=by first|assumption|omega
   first
   |(
    have q3:¬s=⟨#[]⟩:=by first|assumption|(simp_all;done)
    rw[cB,if_neg q1,if_pos q2,if_neg q3])
   |(
    have q3:s=⟨#[]⟩:=by first|assumption|(simp_all;done)
    rw[cB,if_neg q1,if_pos q2,if_pos q3]))
  |(
   have q2:¬n=0:=om
   first
   |(
    have q3:(aA s 0).2.2≠0:=av
    rw[cB,if_neg q1,if_neg q2,if_pos q3])
   |(
    have q3:¬(aA s 0).2.2≠0:=fun q=>q av
    first
    |(
     have hb:¬(iY s a (gP 32 (n-(M.length:Int)))).2.2=0:=av
     rw[cB,if_neg q1,if_neg q2,if_neg q3,hM,qX2 om hb];(try rfl))
    |(
     have ha:a<s.size:=om
     rw[cB,if_neg q1,if_neg q2,if_neg q3,hM,qBT om,if_pos ha])
    |(
     have ha:¬a<s.size:=om
     rw[cB,if_neg q1,if_neg q2,if_neg q3,hM,qBT om,if_neg ha])))))
abbrev qcN:Tbl:=(191,MO)::qcM
theorem qHF:aD Tryz.prog qcN:=aD.cons qS4 qHE
theorem fmin:∀(l:List Int) (x:Int),l.foldl gP x<=x/\(∀y,y∈l->l.foldl gP x<=y)/\(l.foldl gP x=x\/l.foldl gP x∈l)
 | [],x=>⟨kl _,sm,.inl rfl⟩
 |z::l,x=>by
  obtain⟨h1,h2,h3⟩:=fmin l (gP x z);have h4:gP x z<=x/\gP x z<=z/\(gP x z=x\/gP x z=z):=by unfold gP;split<;>omega
  refine⟨by rw[gh];omega,fun y hy=>?_,?_⟩
  ·rw[gh]
   rcases gp.1 hy with q|q
   ·subst q;omega
   ·exact h2 y q
  ·rw[gh]
   rcases h3 with q|q
   ·rcases h4.2.2 with p|p
    ·left;rw[q,p]
    ·right;rw[q,p];simp
   ·right;simp [q]
theorem qY2 {l:List Int} {y:Int} (h:y∈l):mnL l<=y:=by
 cases l with
 |nil=>simp at h
 |cons x l=>
  obtain⟨h1,h2,h3⟩:=fmin l x;rcases gp.1 h with q|q
  ·subst q;exact h1
  ·exact h2 y q
theorem zL {l:List Int} (h:l≠ []):mnL l∈l:=by
 cases l with
 |nil=>exact absurd rfl h
 |cons x l=>
  obtain⟨h1,h2,h3⟩:=fmin l x;show ko gP x l∈_;rcases h3 with q|q
  ·rw[q];simp
  ·simp [q]
theorem qUK {U:List Int} (hne:U≠ []) (h:∀v,v∈U->0<=v):mnL U=0↔U.any (fun v=>decide (v=0))=true:=by
 rw[List.any_eq_true];constructor
 ·intro q
  exact⟨_,zL hne,by simpa using q⟩
 ·rintro⟨v,hv,hq⟩
  have h1:=qY2 hv;have h2:=h _ (zL hne);have h3:v=0:=by simpa using hq
  omega
theorem BU {a b:Int} (h:a<=b) (hb:b<18446744073709551616):iP a<=iP b:=by
 suffices H:∀(n:Nat) (a b:Int),b.toNat<=n->a<=b->b<18446744073709551616->iP a<=iP b from H _ a b (gr _) h hb
 intro n;induction n with
 |zero=>intro a b h1 h2 h3;rw[BV om,BV om];exact kl _
 |succ n ih=>
  intro a b h1 h2 h3;by_cases ha:a<=0
  ·rw[BV ha];exact(FI h3).1
  ·rw[OZ (v:=a) om om,OZ (v:=b) om h3]
   have:=ih (a/2) (b/2) om om om;omega
def mwL (U:List Int):Int:=U.foldl (fun w v=>cH w (iP v)) 0
theorem fmax:∀(l:List Int) (x:Int),(∀v,v∈x::l->v<18446744073709551616)->l.foldl (fun w v=>cH w (iP v)) (iP x)=iP (l.foldl cH x)
 | [],x,_=>rfl
 |z::l,x,h=>by
  rw[gh,gh,<-fmax l (cH x z) (fun v hv=>by
   rcases gp.1 hv with q|q
   ·subst q;unfold cH;split
    ·exact h z sm
    ·exact h x sm
   ·exact h v (by simp [q]))]
  congr 1
  have hx:=h x sm;have hz:=h z sm;by_cases q:x<=z
  ·have:=BU q hz
   have e:cH x z=z:=by unfold cH;split<;>omega
   rw[e];unfold cH;split<;>omega
  ·have:=BU (a:=z) (b:=x) om hx
   have e:cH x z=x:=by unfold cH;split<;>omega
   rw[e];unfold cH;split<;>omega
theorem qbA {U:List Int} (hne:U≠ []) (h:∀v,v∈U->0<=v/\v<18446744073709551616):mwL U=iP (mxL U):=by
 cases U with
 |nil=>exact absurd rfl hne
 |cons x l=>
  unfold mwL;rw[gh];have:=(FI (h x sm).2).1;have e:cH 0 (iP x)=iP x:=by unfold cH;split<;>omega
  rw[e,fmax l x (fun v hv=>(h v hv).2)];rfl
theorem qXX {s:ByteArray} {a k:Int} (h1:(aA s a).2.2=0) (h2:¬(aA s a).2.1=s.size) (h3:¬dW s a>64) (h4:¬dE s a k>s.size) (h5:dOk s a k=true):iY s a k=(dDs s a k,dE s a k,0):=by
 rw[iY,if_neg (fun q=>q h1),if_neg h2,if_neg h3,if_neg h4,if_neg (by rw[h5];decide)]
theorem BZ {b:Bool} (h:(!b)=false):b=true:=by cases b<;>simp_all
def four (v:Int):List Int:=[IntKind.u8.wrap v,IntKind.u8.wrap (jQ .u32 v 8),IntKind.u8.wrap (jQ .u32 v 16),IntKind.u8.wrap (jQ .u32 v 24)]
def dH (s:ByteArray):ByteArray:=s++aT (four (pX s))
theorem dM (v:Int):(aT (put v)).size<=10/\1<=(aT (put v)).size:=by rw[cI];exact bW v
theorem rU (v:Int):(aT (four v)).size=4:=rfl
def dS (s:ByteArray) (i:Int):Int:=bOr .u32 (bOr .u32 (bOr .u32 (aG s i.toNat) (mZ .u32 (aG s (i+1).toNat) 8)) (mZ .u32 (aG s (i+2).toNat) 16)) (mZ .u32 (aG s (i+3).toNat) 24)
theorem JM {a b:Int} {n:Nat} (hn:n<=32) (ha:0<=a/\a<2^n) (hb:0<=b) (h:a+b*2^n<4294967296):bOr .u32 a (mZ .u32 b n)=a+b*2^n:=by
 have h0:0<=b*2^n:=Int.mul_nonneg hb (Int.le_of_lt (Int.pow_pos dc));rw[qbF hn ⟨h0,om⟩,qaF om om];have e:(b*2^n).toNat=b.toNat*2^n:=by
  obtain⟨m,rfl⟩:=Int.eq_ofNat_of_zero_le hb;have:((m:Int)*2^n)=((m*2^n:Nat):Int):=by push_cast;rfl
  rw[this];rfl
 have ha':a.toNat<2^n:=by
  have:((2^n:Nat):Int)=2^n:=by push_cast;rfl
  omega
 rw[e,qPW _ _ _ ha'];have:((b.toNat*2^n:Nat):Int)=b*2^n:=by push_cast;rw[Int.toNat_of_nonneg hb]
 omega
theorem qV8 {a b c d:Int} (ha:0<=a/\a<256) (hb:0<=b/\b<256) (hc:0<=c/\c<256) (hd:0<=d/\d<256) :
  bOr .u32 (bOr .u32 (bOr .u32 a (mZ .u32 b 8)) (mZ .u32 c 16)) (mZ .u32 d 24)=a+b*256+c*65536+d*16777216:=by
 have p1:(2:Int)^8=256:=dc
 have p2:(2:Int)^16=65536:=dc
 have p3:(2:Int)^24=16777216:=dc
 have e1:=JM (a:=a) (b:=b) (n:=8) om om om om;rw[p1]at e1;have e2:=JM (a:=a+b*256) (b:=c) (n:=16) om om om om;rw[p2]at e2;have e3:=JM (a:=a+b*256+c*65536) (b:=d) (n:=24) om om om om;rw[p3]at e3;rw[show((8:Int))=((8:Nat):Int)from rfl,e1,show((16:Int))=((16:Nat):Int)from rfl,e2,show((24:Int))=((24:Nat):Int)from rfl,e3]
theorem qbI {v:Int} (h:0<=v):jQ .u32 v 8=v/256/\jQ .u32 v 16=v/65536/\jQ .u32 v 24=v/16777216:=by
 unfold jQ;refine⟨?_,?_,?_⟩<;>rw[gt _ dc]<;>rfl
theorem zC (v:Int):∀b,b∈four v->0<=b/\b<256:=by
 intro b hb;unfold four at hb;rcases gp.1 hb with h|hb
 ·rw[h];exact nJ v
 rcases gp.1 hb with h|hb
 ·rw[h];exact nJ _
 rcases gp.1 hb with h|hb
 ·rw[h];exact nJ _
 rcases gp.1 hb with h|hb
 ·rw[h];exact nJ _
 cases hb
theorem mX (b:ByteArray):(dH b).size=b.size+4:=by unfold dH;rw[gb,rU]
theorem qLM (b:ByteArray):(dH b).extract 0 (((dH b).size:Int)-4).toNat=b:=by
 apply hU;have e:∀(x:ByteArray) (n:Nat),aE (x.extract 0 n)=(aE x).take n:=fun x n=>by unfold aE;simp [List.map_take]
 have hz:(dH b).size=b.size+4:=by unfold dH;rw[gb,rU]
 rw[e,hz,show(((b.size+4:Nat):Int)-4).toNat=b.size by omega];unfold dH;rw[bG,List.take_append_of_le_length (by rw[aR];omega),ga (by rw[aR];omega)]
def iZ (s:ByteArray):ByteArray:=(s.extract 0 ((s.size:Int)-4).toNat)
def iF (s:ByteArray):Int:=if s.size<=4 then 10 else if dH (iZ s)≠s then 9 else 0
theorem MF {s:ByteArray} (h:4<=s.size):((iZ s).size:Int)=(s.size:Int)-4:=by
 unfold iZ;rw[go];omega
theorem RN (s:ByteArray):(iZ s).size<=s.size:=by unfold iZ;rw[go];omega
theorem qZB {s:ByteArray} (h:s.size<=4):iF s=10:=by rw[iF,if_pos h]
theorem qZC {s:ByteArray} (h:¬s.size<=4) (h1:¬dH (iZ s)=s):iF s=9:=by rw[iF,if_neg h,if_pos h1]
theorem qZD {s:ByteArray} (h:¬s.size<=4) (h1:dH (iZ s)=s):iF s=0:=by rw[iF,if_neg h,if_neg (fun q=>q h1)]
theorem qFG {s:ByteArray} (h:iF s=0):¬s.size<=4/\dH (iZ s)=s:=by
 unfold iF at h;split at h
 ·cases h
 ·rename_i q
  split at h
  ·cases h
  ·rename_i q1;exact⟨q,Decidable.not_not.1 q1⟩
abbrev NR:Ct:=.fn [.str] (some (fun(s:ByteArray)=>(s.size<=4611686018427387904))) (fun(s:ByteArray)=>.d .str (dH s))
theorem qVN:aH Tryz.prog 113 NR:=by
 refine aH.fn qHF mixed [] [] rfl rfl ?_;rintro⟨(s:ByteArray),_⟩ hpre;replace hpre:=hpre _ rfl;dsimp only[cu]at hpre;have hs:=hpre;refine⟨[],?_⟩;repeat' (first
  |(
 with_reducible apply Side.mk
 (try dsimp only[cu,aC,aB,gts,loK,hiK,eE,eN])
 first
 |omega
 |exact kb _
 |(simp only[cI,gg,gj];omega))
  |(conv=>whnf
    first
     |with_reducible first|done|exact trivial|refine NilBr.mk (fun h=>?_) ?_|apply aL|apply aK|refine aM kr ?_|apply aN|apply bL|apply bK|apply aU
     |((with_reducible first|apply aW|apply aV|apply bH)<;>intro h<;>(try dsimp only[cu,eE,eN]at h)<;>(try(exfalso;omega)))))
 all_goals(
 with_reducible apply Leaf.mk
 (try dsimp only[cu,aC,aB,gts,eE,eN]at *)
 rfl)
abbrev qcO:Tbl:=(113,NR)::qcN
theorem qHG:aD Tryz.prog qcO:=aD.cons qVN qHF
abbrev HG:Ct:=.fn [.str] (some (fun(s:ByteArray)=>(s.size<=4611686018427387904))) (fun(s:ByteArray)=>.tup [.str,.int .i64] (if iF s=0 then iZ s else EMP,iF s,()))
theorem qPV:aH Tryz.prog 133 HG:=by
 refine aH.fn qHG mixed [] [] rfl rfl ?_;rintro⟨(s:ByteArray),_⟩ hpre;replace hpre:=hpre _ rfl;dsimp only[cu]at hpre;have hs:=hpre;refine⟨[],?_⟩;repeat' (first
  |(
 with_reducible apply Side.mk
 (try dsimp only[cu,aC,aB,gts,loK,hiK,eE,eN])
 first
 |omega
 |(
  have hbl:=RN s;exact Nat.le_trans hbl hs))
  |(conv=>whnf
    first
     |with_reducible first|done|exact trivial|refine NilBr.mk (fun h=>?_) ?_|apply aL|apply aK|refine aM kr ?_|apply aN|apply bL|apply bK|apply aU
     |((with_reducible first|apply aW|apply aV|apply bH)<;>intro h<;>(try dsimp only[cu,eE,eN]at h)<;>(try(exfalso;omega)))))
 all_goals(
 with_reducible apply Leaf.mk
 (try dsimp only[cu,aC,aB,gts,eE,eN]at *)
 first
 |(
  have hb:iZ s=(s.extract 0 ((s.size:Int)-4).toNat):=rfl;first
  |(
   have h:=qZB (s:=s) om;rw[h];(try rfl))
  |(
   have h:=qZC (s:=s) om (by rw[hb];with_reducible assumption);rw[h];(try rfl))
  |(
   have h1:dH (s.extract 0 ((s.size:Int)-4).toNat)=s:=by first|exact wa|(refine Decidable.not_not.1 ?_;with_reducible assumption)
   have h:=qZD (s:=s) om (by rw[hb];exact h1);rw[h];(try rfl))))
abbrev qcP:Tbl:=(133,HG)::qcO
theorem qHH:aD Tryz.prog qcP:=aD.cons qPV qHG
def dfs (l:List Int):List Int:=(List.range (l.length-1)).map fun j=>IntKind.i64.wrap (l[j+1]! - l[j]!)
theorem qV (l:List Int):(dfs l).length=l.length-1:=by simp [dfs]
theorem qS8 {l:List Int} {j:Nat} (h:j+1<l.length):(dfs l)[j]! =IntKind.i64.wrap (l[j+1]! - l[j]!):=by
 rw[getElem!_pos _ _ (by rw[qV];omega)];simp [dfs]
def usL (m:Int) (D:List Int):List Int:=D.map fun d=>IntKind.u64.wrap (IntKind.i64.wrap (d-m))
def GJ (D:List Int):ByteArray:=(aT (put (eK (mnL D)))++aT [IntKind.u8.wrap (mwL (usL (mnL D) D))])++(fT (usL (mnL D) D) (mwL (usL (mnL D) D))).1
def wX (D:List Int):ByteArray:=if h:D.length=0 then ByteArray.empty else GJ (D.take 32)++wX (D.drop 32)
termination_by D.length
decreasing_by simp;omega
def fK (l:List Int):ByteArray:=if l.length=0\/l.length>4096 then⟨#[]⟩else aT (put (eK l[0]!))++wX (dfs l)
theorem qAY {D:List Int} {m j:Int} (h:0<=j/\j<D.length):usL m (D.take (j+1).toNat)=usL m (D.take j.toNat)++ [IntKind.u64.wrap (IntKind.i64.wrap (D[j.toNat]! - m))]:=by
 unfold usL;rw[qI h];simp
theorem qV1 (m:Int) (D:List Int) (i:Nat):0<=(usL m D)[i]! /\(usL m D)[i]! <18446744073709551616:=by
 by_cases h:i<(usL m D).length
 ·rw[getElem!_pos (usL m D) i h]
  simp only[usL,List.getElem_map];exact iI _
 ·rw[getElem!_neg (usL m D) i h];exact⟨dc,dc⟩
theorem qUN (U:List Int) (v:Int):mwL (U++ [v])=cH (mwL U) (iP v):=by simp [mwL]
theorem qUO:∀(U:List Int),(∀v,v∈U->v<18446744073709551616)->0<=mwL U/\mwL U<=64:=by
 have H:∀(U:List Int) (w:Int),0<=w/\w<=64->(∀v,v∈U->v<18446744073709551616)->0<=U.foldl (fun w v=>cH w (iP v)) w/\U.foldl (fun w v=>cH w (iP v)) w<=64:=by
  intro U;induction U with
  |nil=>intro w hw _;exact hw
  |cons v U ih=>
   intro w hw h;rw[gh];have:=FI (h v sm);refine ih _ ?_ (fun x hx=>h x (by simp [hx]));unfold cH;split<;>omega
 exact fun U h=>H U 0 dc h
theorem qY4 (m:Int) (D:List Int):0<=mwL (usL m D)/\mwL (usL m D)<=64:=qUO _ fun v hv=>by
 unfold usL at hv;obtain⟨d,_,rfl⟩:=kf.1 hv;exact(iI _).2
theorem BF (D:List Int):(GJ D).size<=32779:=by
 unfold GJ;have h1:=dM (eK (mnL D));have h2:=tC (usL (mnL D) D) (mwL (usL (mnL D) D));rw[gb,gb,cI [_]];simp only[gg,gj];omega
theorem IO:∀(n:Nat) (D:List Int),D.length<=n->(wX D).size<=32779*n
 |n,D,h=>by
  rw[wX];split
  ·exact gn _
  ·have:=BF (D.take 32)
   rw[gb];obtain⟨m,rfl⟩:∃m,n=m+1:=⟨n-1,om⟩
   have:=IO m (D.drop 32) (by simp;omega);omega
theorem LI (l:List Int):(fK l).size<=134262794:=by
 unfold fK;split
 ·exact gn _
 ·have h1:=dM (eK l[0]!)
  have h2:=IO 4096 (dfs l) (by rw[qV];omega);rw[gb];omega
theorem XM (u:UInt8):(ByteArray.mk #[u]).size=1:=rfl
theorem FQ (x:Int):inI (IntKind.i64.wrap x):=by unfold inI;simp [IntKind.wrap,IntKind.bits,IntKind.signed];omega
def lY (l:List Val):List Int:=l.map fun v=>v.2.1
def xE (l:List Val):List ByteArray:=l.map fun v=>v.2.2
def okV (v:Val):Prop:=v.2.2.size<=1048576/\inI v.2.1
def plV (t:Int) (v:Val):ByteArray:=if t=3 then aT (put v.2.2.size)++v.2.2 else aT (put (eK v.2.1))
def plL (t:Int):List Val->ByteArray
 | []=>ByteArray.empty
 |v::r=>plV t v++plL t r
def gQ (t k:Int) (l:List Val):ByteArray:=if k=2 then oU (lY l)else if k=3 then nG (xE l)else if k=4 then fK (lY l)else plL t l
def bC (l:List Val):List Val:=l.filter fun v=>!v.1
def cL (l:List Val):List Bool:=l.map fun v=>v.1
def oM (k:Int) (l:List Val):ByteArray:=(aT [IntKind.u8.wrap k]++aT (put l.length))++aT (put ((l.length:Int)-(bC l).length))
def bZ (t k:Int) (l:List Val):ByteArray:=(if(bC l).length<l.length then oM k l++jS (cL l)else oM k l)++gQ t k (bC l)
def dX (t k:Int) (l:List Val):ByteArray:=dH (bZ t k l)
theorem YA {t:Int} {l:List Val} {k:Int} (h:0<=k/\k<l.length):plL t (l.drop k.toNat)=plV t l[k.toNat]! ++plL t (l.drop (k+1).toNat):=by
 rw[bQ l k h];rfl
theorem qCT {l:List Val} (h:∀v,v∈l->okV v) (k:Nat):okV l[k]!:=by
 by_cases q:k<l.length
 ·rw[getElem!_pos l k q];exact h _ (List.getElem_mem q)
 ·rw[getElem!_neg l k q];exact⟨dc,by unfold inI;exact⟨dc,dc⟩⟩
theorem qP5 {t:Int} {v:Val} (h:okV v):(plV t v).size<=1048586:=by
 unfold plV;have h1:=dM (v.2.2.size:Int);have h2:=dM (eK v.2.1);have:=h.1;split
 ·rw[gb];omega
 ·omega
theorem XZ (t:Int):∀(l:List Val),(∀v,v∈l->okV v)->(plL t l).size<=1048586*l.length
 | [],_=>gn _
 |v::r,h=>by
  have h1:=qP5 (t:=t) (h v sm);have h2:=XZ t r (fun x hx=>h x (by simp [hx]));rw[plL,gb,gg];omega
theorem qU0 {l:List Val} (h:∀v,v∈l->okV v):∀x,x∈lY l->inI x:=fun x hx=>by
 obtain⟨v,hv,rfl⟩:=kf.1 hx;exact(h v hv).2
theorem qF7 {l:List Val} (h:∀v,v∈l->okV v):∀x,x∈xE l->x.size<=1073741824:=fun x hx=>by
 obtain⟨v,hv,rfl⟩:=kf.1 hx;have:=(h v hv).1;omega
theorem rC {l:List Val} (h:∀v,v∈l->okV v):∀v,v∈bC l->okV v:=fun v hv=>h v (List.mem_filter.1 hv).1
theorem kD (l:List Val):(bC l).length<=l.length:=List.length_filter_le _ _
theorem SJ {l:List ByteArray} (h:∀w,w∈l->w.size<=1073741824):(nG l).size<=4398046584842:=by
 unfold nG;split
 ·exact gn _
 ·rw[gb]
  have h1:=xQ (v:=((bN l).length:Int)) (k:=(bN l).length) h om;rw[ga (gr _)]at h1;have h2:=tC (cQ l) (wdN ((bN l).length:Int));omega
theorem ZC:∀(n:Nat) (l:List Int),l.length<=n->(BK (runs l)).length<=20*l.length
 |n,[],_=>by rw[runs];exact gn _
 |n,v::l,h=>by
  obtain⟨m,rfl⟩:∃m,n=m+1:=⟨n-1,by simp at h;omega⟩
  rw[runs,BK];have h1:=bW ((cS v l:Int)+1);have h2:=bW (eK v);have h3:=ZC m (l.drop (cS v l)) (by simp at h ⊢;omega);simp only[gc,gg,gx]at h3 ⊢;omega
theorem SK (l:List Int):(oU l).size<=20*l.length:=by
 unfold oU;rw[cI];exact ZC _ l (gr _)
theorem XX {t k:Int} {l:List Val} (h:∀v,v∈l->okV v) (hl:l.length<=4096):(gQ t k l).size<=4398046584842:=by
 unfold gQ;split
 ·have:=SK (lY l)
  have e:(lY l).length=l.length:=by simp [lY]
  omega
 ·split
  ·exact SJ (qF7 h)
  ·split
   ·have:=LI (lY l);omega
   ·have:=XZ t l h;omega
theorem JP {l:List Bool} (h:l.length<=4096):(jS l).size<=512:=by
 unfold jS;rw[cI,jB,gu om];omega
theorem BN (k:Int) (l:List Val):(oM k l).size<=21/\1<=(oM k l).size:=by
 unfold oM;have h1:=dM (l.length:Int);have h2:=dM ((l.length:Int)-(bC l).length);rw[gb,gb,cI [_]];simp only[gg,gj];omega
theorem DO {t k:Int} {l:List Val} (h:∀v,v∈l->okV v) (hl:l.length<=4096):(bZ t k l).size<=4398046585375/\1<=(bZ t k l).size:=by
 unfold bZ;have h1:=BN k l;have h2:=XX (t:=t) (k:=k) (rC h) (by have:=kD l;omega);have h3:=JP (l:=cL l) (by simp [cL];omega);split
 ·rw[gb,gb];omega
 ·rw[gb];omega
theorem CH {l:List Val} {k:Int} (h:0<=k/\k<l.length):l.take (k+1).toNat=l.take k.toNat++ [l[k.toNat]!]:=by
 rw[show(k+1).toNat=k.toNat+1 by omega,gm om,getElem!_pos l k.toNat om]
def bY (t k:Int):Bool:=if t=3 then decide (k=1)||decide (k=3)else decide (k=1)||decide (k=2)||decide (k=4)
theorem QG {l:List Val} {k:Int} (h:0<=k/\k<l.length):bC (l.take (k+1).toNat)=bC (l.take k.toNat)++(if l[k.toNat]!.1=true then[]else[l[k.toNat]!]):=by
 rw[CH h];unfold bC;rw[List.filter_append];generalize l[k.toNat]! =x;by_cases q:x.1=true
 ·rw[if_pos q];simp [q]
 ·rw[if_neg q];simp [q]
theorem IE {t k:Int} {l:List Val} (h:(bC l).length<l.length):bZ t k l=(oM k l++jS (cL l))++gQ t k (bC l):=by rw[bZ,if_pos h]
theorem ID {t k:Int} {l:List Val} (h:¬(bC l).length<l.length):bZ t k l=oM k l++gQ t k (bC l):=by rw[bZ,if_neg h]
abbrev ZV:Val:=(false,0,⟨#[]⟩)
def nV (n:Int):Val:=(false,n,⟨#[]⟩)
def sV (s:ByteArray):Val:=(false,0,s)
abbrev NV:Val:=(true,0,⟨#[]⟩)
def lQ (t:Int) (s:ByteArray):Nat->Int->List Val->List Val×Bool
 |0,a,M=>(M,decide (a=s.size))
 |k+1,a,M=>if(aA s a).2.2≠0 then([],false)
  else if t=3 then(if(aA s a).1>s.size-(aA s a).2.1 then([],false)else lQ t s k ((aA s a).2.1+(aA s a).1) (M++ [sV (s.extract (aA s a).2.1.toNat ((aA s a).2.1+(aA s a).1).toNat)]))
  else lQ t s k (aA s a).2.1 (M++ [nV (nE (aA s a).1)])
def tW (n:Int) (l:List Val):List Val:=l++gf (n-l.length).toNat ZV
def gJ (t k:Int) (s:ByteArray) (n:Int):List Val×Bool:=
 if k=1 then lQ t s n.toNat 0 []else if k=3 then((cT s n).1.map sV,decide ((cT s n).2=0))
 else if k=4 then((cB s n).1.map nV,decide ((cB s n).2=0))else((eP s n).1.map nV,decide ((eP s n).2=0))
def wL (t k:Int) (s:ByteArray) (n:Int):List Val×Bool:=if k=1 then lQ t s n.toNat 0 []else(tW n (gJ t k s n).1,(gJ t k s n).2)
theorem qZK {t:Int} {s:ByteArray} {n a:Int} {M:List Val} (h:(M.length:Int)<n) (h1:¬(aA s a).2.2=0):lQ t s (n-M.length).toNat a M=([],false):=by
 rw[show(n-M.length).toNat=(n-M.length-1).toNat+1 by omega,lQ,if_pos h1]
theorem qP9 {t:Int} {s:ByteArray} {n a:Int} {M:List Val} (h:(M.length:Int)<n) (h1:(aA s a).2.2=0) (ht:t=3) (h2:(aA s a).1>s.size-(aA s a).2.1):lQ t s (n-M.length).toNat a M=([],false):=by
 rw[show(n-M.length).toNat=(n-M.length-1).toNat+1 by omega,lQ,if_neg (fun q=>q h1),if_pos ht,if_pos h2]
theorem qZM {t:Int} {s:ByteArray} {n a:Int} {M:List Val} (h:(M.length:Int)<n) (h1:(aA s a).2.2=0) (ht:t=3) (h2:¬(aA s a).1>s.size-(aA s a).2.1) :
  lQ t s (n-M.length).toNat a M=lQ t s (n-(M++ [sV (s.extract (aA s a).2.1.toNat ((aA s a).2.1+(aA s a).1).toNat)]).length).toNat ((aA s a).2.1+(aA s a).1) (M++ [sV (s.extract (aA s a).2.1.toNat ((aA s a).2.1+(aA s a).1).toNat)]):=by
 rw[show(n-M.length).toNat=(n-M.length-1).toNat+1 by omega,lQ,if_neg (fun q=>q h1),if_pos ht,if_neg h2];congr 1
 simp;omega
theorem qZL {t:Int} {s:ByteArray} {n a:Int} {M:List Val} (h:(M.length:Int)<n) (h1:(aA s a).2.2=0) (ht:¬t=3) :
  lQ t s (n-M.length).toNat a M=lQ t s (n-(M++ [nV (nE (aA s a).1)]).length).toNat (aA s a).2.1 (M++ [nV (nE (aA s a).1)]):=by
 rw[show(n-M.length).toNat=(n-M.length-1).toNat+1 by omega,lQ,if_neg (fun q=>q h1),if_neg ht];congr 1
 simp;omega
theorem qZJ {t:Int} {s:ByteArray} {n a:Int} {M:List Val} (h:¬(M.length:Int)<n):lQ t s (n-M.length).toNat a M=(M,decide (a=s.size)):=by
 rw[show(n-M.length).toNat=0 by omega,lQ]
theorem qC0 {t:Int} {s:ByteArray}:∀(k:Nat) (a:Int) (M:List Val),(lQ t s k a M).2=true->(lQ t s k a M).1.length=M.length+k
 |0,a,M,h=>rfl
 |k+1,a,M,h=>by
  rw[lQ]at h ⊢;split at h
  ·cases h
  ·rename_i h1
   rw[if_neg h1];split at h
   ·rename_i ht
    rw[if_pos ht];split at h
    ·cases h
    ·rename_i h2
     rw[if_neg h2,qC0 k _ _ h];simp;omega
   ·rename_i ht
    rw[if_neg ht,qC0 k _ _ h];simp;omega
theorem qEF {s:ByteArray} {n:Int}:∀(m:Nat) (a:Int) (M:List Int),(n-M.length).toNat<=m->(M.length:Int)<=n->((dGo s n a M).2=0->((dGo s n a M).1.length:Int)=n)/\((dGo s n a M).2≠0->(dGo s n a M).1= [])
 |m,a,M,hm,hM=>by
  rw[dGo];split
  ·split
   ·rename_i h1;exact⟨fun q=>absurd q h1,fun _=>rfl⟩
   ·split
    ·exact⟨fun q=>absurd q dc,fun _=>rfl⟩
    ·rename_i h2
     split
     ·rename_i h3;exact⟨fun q=>absurd q h3,fun _=>rfl⟩
     ·split
      ·exact⟨fun q=>absurd q dc,fun _=>rfl⟩
      ·have hg:=bA s a
       obtain⟨m,rfl⟩:∃m',m=m'+1:=⟨m-1,om⟩
       exact qEF m _ _ (by simp only[gc,ge];omega) (by simp only[gc,ge];omega)
  ·split
   ·exact⟨fun q=>absurd q dc,fun _=>rfl⟩
   ·exact⟨fun _=>by show((M.length:Nat):Int)=n;omega,fun q=>absurd rfl q⟩
theorem TX {s:ByteArray} {n:Int}:((eP s n).2=0->((eP s n).1.length:Int)=n)/\((eP s n).2≠0->(eP s n).1= []):=by
 unfold eP;split
 ·exact⟨fun q=>absurd q dc,fun _=>rfl⟩
 ·exact qEF _ _ _ (gr _) (by simp;omega)
theorem qN4 {s:ByteArray} {n:Int}:∀(m:Nat) (a:Int) (M:List Int),(n-M.length).toNat<=m->(M.length:Int)<=n->((dd s n a M).2=0->((dd s n a M).1.length:Int)=n)/\((dd s n a M).2≠0->(dd s n a M).1= [])
 |m,a,M,hm,hM=>by
  rw[dd];split
  ·rename_i h
   split
   ·rename_i h2
    have hk:=BR h;have hb:=(vI h2).1;obtain⟨m,rfl⟩:∃m',m=m'+1:=⟨m-1,om⟩
    exact qN4 m _ _ (by simp only[gc,nY];omega) (by simp only[gc,nY];omega)
   ·rename_i h2;exact⟨fun q=>absurd q h2,fun _=>rfl⟩
  ·split
   ·exact⟨fun q=>absurd q dc,fun _=>rfl⟩
   ·exact⟨fun _=>by show((M.length:Nat):Int)=n;omega,fun q=>absurd rfl q⟩
theorem IK {s:ByteArray} {n:Int}:((cB s n).2=0->((cB s n).1.length:Int)=n)/\((cB s n).2≠0->(cB s n).1= []):=by
 unfold cB;split
 ·exact⟨fun q=>absurd q dc,fun _=>rfl⟩
 ·split
  ·rename_i hn
   split
   ·exact⟨fun _=>by subst hn;rfl,fun q=>absurd rfl q⟩
   ·exact⟨fun q=>absurd q dc,fun _=>rfl⟩
  ·split
   ·rename_i h1;exact⟨fun q=>absurd q h1,fun _=>rfl⟩
   ·exact qN4 _ _ _ (gr _) (by simp only[gg,gj];omega)
theorem xN {s:ByteArray} {n:Int}:((cT s n).2=0->((cT s n).1.length:Int)=n)/\((cT s n).2≠0->(cT s n).1= []):=by
 unfold cT qBU qBV SE;split
 ·exact⟨fun q=>absurd q dc,fun _=>rfl⟩
 rename_i q1;split
 ·rename_i h;exact⟨fun q=>absurd q h,fun _=>rfl⟩
 split
 ·exact⟨fun q=>absurd q dc,fun _=>rfl⟩
 split
 ·rename_i h;exact⟨fun q=>absurd q h,fun _=>rfl⟩
 split
 ·rename_i h;exact⟨fun q=>absurd q h,fun _=>rfl⟩
 rename_i q5;split
 ·exact⟨fun q=>absurd q dc,fun _=>rfl⟩
 split
 ·exact⟨fun q=>absurd q dc,fun _=>rfl⟩
 ·have:=jH (Decidable.not_not.1 q5)
  refine⟨fun _=>?_,fun q=>absurd rfl q⟩;simp only[gl];omega
theorem qF2 {t k:Int} {s:ByteArray} {n:Int} (h0:0<=n) (h:(gJ t k s n).2=true):((gJ t k s n).1.length:Int)=n:=by
 unfold gJ at h ⊢;split at h
 ·rename_i h1
  rw[if_pos h1,qC0 _ _ _ h];simp;omega
 ·rename_i h1
  rw[if_neg h1];split at h
  ·rename_i h2
   rw[if_pos h2];have:=xN.1 (of_decide_eq_true h);simp only[gl];exact this
  ·rename_i h2
   rw[if_neg h2];split at h
   ·rename_i h3
    rw[if_pos h3];have:=IK.1 (of_decide_eq_true h);simp only[gl];exact this
   ·rename_i h3
    rw[if_neg h3];have:=TX.1 (of_decide_eq_true h);simp only[gl];exact this
theorem QO (t k:Int) (s:ByteArray) (n:Int):(wL t k s n).2=(gJ t k s n).2:=by
 unfold wL;split
 ·rename_i h;rw[gJ,if_pos h]
 ·rfl
theorem qIX {t k:Int} {s:ByteArray} {n:Int} (h0:0<=n) (h:(gJ t k s n).2=true):(wL t k s n).1=(gJ t k s n).1:=by
 have hl:=qF2 h0 h;unfold wL;split
 ·rename_i h1;rw[gJ,if_pos h1]
 ·show tW n (gJ t k s n).1=_
  unfold tW;rw[show(n-(gJ t k s n).1.length).toNat=0 by omega];simp
def pkV (b:Bool) (R:List Val):Val:=if b=true then NV else R[0]!
def rsV (b:Bool) (R:List Val):List Val:=if b=true then R else R.drop 1
def asm (c:Col):List Bool->List Val->List Val->List Val×Bool
 | [],_,M=>(M,true)
 |b::r,R,M=>if aZ c (pkV b R)≠0 then([],false)else asm c r (rsV b R) (M++ [pkV b R])
def mF:List Bool->Nat
 | []=>0
 |b::r=>(if b=true then 0 else 1)+mF r
def gC (s:ByteArray) (a n k:Int):List Bool×Bool×Int:=
 if k>0 then(if a+(n+7).tdiv 8>s.size\/(kG (s.extract a.toNat (a+(n+7).tdiv 8).toNat) n).2≠0\/rK (s.extract a.toNat (a+(n+7).tdiv 8).toNat)≠k then([],false,0)
  else((kG (s.extract a.toNat (a+(n+7).tdiv 8).toNat) n).1,true,a+(n+7).tdiv 8))
 else(gf n.toNat false,true,a)
def qXY (c:Col) (N:List Bool) (r:List Val×Bool):List Val×Bool:=if r.2=false then([],false)else asm c N r.1 []
def GL (c:Col) (s:ByteArray) (n k:Int) (x:List Bool×Bool×Int):List Val×Bool:=if x.2.1=false then([],false)else qXY c x.1 (gJ c.2.1 (aG s (0:Int).toNat) (s.extract x.2.2.toNat s.size) (n-k))
def rH (c:Col) (s:ByteArray):List Val×Bool:=
 if bY c.2.1 (aG s (0:Int).toNat)=false\/(aA s 1).2.2≠0\/(aA s 1).1>4096 then([],false)
 else if(aA s (aA s 1).2.1).2.2≠0\/(aA s (aA s 1).2.1).1>(aA s 1).1 then([],false)
 else GL c s (aA s 1).1 (aA s (aA s 1).2.1).1 (gC s (aA s (aA s 1).2.1).2.1 (aA s 1).1 (aA s (aA s 1).2.1).1)
def rL (c:Col) (s:ByteArray):List Val×Int:=
 if bJ c.2.1=false then([],1)else if iF s≠0 then([],iF s)else if(rH c (iZ s)).2=false then([],2)else((rH c (iZ s)).1,0)
theorem yF {c:Col} {N:List Bool} {R M:List Val} {i:Int} (h:0<=i/\i<N.length):asm c (N.drop i.toNat) R M=if aZ c (pkV N[i.toNat]! R)≠0 then([],false)else asm c (N.drop (i+1).toNat) (rsV N[i.toNat]! R) (M++ [pkV N[i.toNat]! R]):=by
 rw[bQ N i h];rfl
theorem qD5 {c:Col} {N:List Bool} {R M:List Val} {i:Int} (h:¬i<N.length) (h0:0<=i):asm c (N.drop i.toNat) R M=(M,true):=by
 rw[List.drop_eq_nil_of_le om];rfl
theorem OF {N:List Bool} {i:Int} (h:0<=i/\i<N.length):mF (N.drop i.toNat)=(if N[i.toNat]! =true then 0 else 1)+mF (N.drop (i+1).toNat):=by
 rw[bQ N i h];rfl
theorem qNN (a b:List Bool):mF (a++b)=mF a+mF b:=by
 induction a with
 |nil=>simp [mF]
 |cons x a ih=>simp only[List.cons_append,mF,ih];omega
theorem qNO (n:Nat):mF (gf n false)=n:=by
 induction n with
 |zero=>rfl
 |succ n ih=>rw[hh,mF,ih];simp;omega
theorem OE (s:ByteArray):∀m:Nat,((mF (tL s m):Nat):Int)+pV s m=m
 |0=>rfl
 |m+1=>by
  have ih:=OE s m;have e:=GH s (k:=(m:Int)) om;rw[show((m:Int)+1).toNat=m+1 by omega,show((m:Int)).toNat=m by omega]at e;rw[e,qNN,pV];have hb:=yA s m;by_cases q:RL s m=true
  ·have:=qXV q
   simp only[mF,q];simp;omega
  ·have:=qXU (by simpa using q:RL s m=false)
   simp only[mF,q];simp;omega
theorem IG {s:ByteArray} {n:Nat}:∀d:Nat,(∀q:Nat,n<=q->q<n+d->sbit s q≠1)->pV s (n+d)=pV s n
 |0,_=>rfl
 |d+1,h=>by
  have h1:=h (n+d) om om;have h2:=yA s (n+d);rw[show n+(d+1)=n+d+1 by omega,pV,IG d (fun q g1 g2=>h q g1 om)];omega
theorem qIW {s:ByteArray} {n:Int} (h:(kG s n).2=0):0<=n/\n<=4096/\(kG s n).1=tL s n.toNat/\((mF (kG s n).1:Nat):Int)+rK s=n:=by
 unfold kG at h ⊢;split at h
 ·exact absurd h dc
 ·rename_i h1
  rw[if_neg h1];split at h
  ·exact absurd h dc
  ·rename_i h2
   rw[if_neg h2];split at h
   ·exact absurd h dc
   ·rename_i h3
    rw[if_neg h3];split at h
    ·exact absurd h dc
    ·rename_i h4
     rw[if_neg h4];refine⟨om,om,rfl,?_⟩;have hd:=mA (n:=n+7) om;have e1:=OE s n.toNat;have e2:=IG (s:=s) (n:=n.toNat) (8*s.size-n.toNat) (fun q g1 g2 g3=>h4 (ZP g1 om g3));rw[show n.toNat+(8*s.size-n.toNat)=8*s.size by omega]at e2;show((mF (tL s n.toNat):Nat):Int)+rK s=n;unfold rK;omega
theorem xA {s:ByteArray} {a n k:Int} (h:¬k>0):gC s a n k=(gf n.toNat false,true,a):=by rw[gC,if_neg h]
theorem qFC {s:ByteArray} {a n k:Int} (h:k>0) (h1:a+(n+7).tdiv 8>s.size\/(kG (s.extract a.toNat (a+(n+7).tdiv 8).toNat) n).2≠0\/rK (s.extract a.toNat (a+(n+7).tdiv 8).toNat)≠k):gC s a n k=([],false,0):=by rw[gC,if_pos h,if_pos h1]
theorem tQ {s:ByteArray} {a n k:Int} (h:k>0) (h1:¬a+(n+7).tdiv 8>s.size) (h2:(kG (s.extract a.toNat (a+(n+7).tdiv 8).toNat) n).2=0) (h3:rK (s.extract a.toNat (a+(n+7).tdiv 8).toNat)=k) :
  gC s a n k=((kG (s.extract a.toNat (a+(n+7).tdiv 8).toNat) n).1,true,a+(n+7).tdiv 8):=by
 rw[gC,if_pos h,if_neg (fun q=>by rcases q with q|q|q<;>contradiction)]
theorem qY9 {s:ByteArray} {a n k:Int} (hn:0<=n/\n<=4096) (ha:0<=a/\a<=s.size) (hk:0<=k/\k<=n) (h:(gC s a n k).2.1=true):((gC s a n k).1.length:Int)=n/\((mF (gC s a n k).1:Nat):Int)=n-k/\0<=(gC s a n k).2.2/\(gC s a n k).2.2<=s.size:=by
 by_cases h0:k>0
 ·by_cases h1:a+(n+7).tdiv 8>s.size\/(kG (s.extract a.toNat (a+(n+7).tdiv 8).toNat) n).2≠0\/rK (s.extract a.toNat (a+(n+7).tdiv 8).toNat)≠k
  ·rw[qFC h0 h1]at h;cases h
  ·have g1:¬a+(n+7).tdiv 8>s.size:=fun q=>h1 (.inl q)
   have g2:(kG (s.extract a.toNat (a+(n+7).tdiv 8).toNat) n).2=0:=Decidable.not_not.1 fun q=>h1 (.inr (.inl q))
   have g3:rK (s.extract a.toNat (a+(n+7).tdiv 8).toNat)=k:=Decidable.not_not.1 fun q=>h1 (.inr (.inr q))
   rw[tQ h0 g1 g2 g3];obtain⟨_,_,e1,e2⟩:=qIW g2;have hd:=mA (n:=n+7) om;refine⟨?_,by show((mF (kG _ n).1:Nat):Int)=n-k;omega,by show 0<=a+(n+7).tdiv 8;omega,by show a+(n+7).tdiv 8<=s.size;omega⟩;show((kG _ n).1.length:Int)=n;rw[e1,ME];omega
 ·rw[xA h0]
  refine⟨by show((gf n.toNat false).length:Int)=n;rw[ge];omega,by show((mF (gf n.toNat false):Nat):Int)=n-k;rw[qNO];omega,ha.1,ha.2⟩
theorem qNA {c:Col} {s:ByteArray} (h:bY c.2.1 (aG s (0:Int).toNat)=false\/(aA s 1).2.2≠0\/(aA s 1).1>4096):rH c s=([],false):=by rw[rH,if_pos h]
theorem qWL {c:Col} {s:ByteArray} (h:¬(bY c.2.1 (aG s (0:Int).toNat)=false\/(aA s 1).2.2≠0\/(aA s 1).1>4096)) (h2:(aA s (aA s 1).2.1).2.2≠0\/(aA s (aA s 1).2.1).1>(aA s 1).1):rH c s=([],false):=by rw[rH,if_neg h,if_pos h2]
theorem qaI {c:Col} {s:ByteArray} (h:¬(bY c.2.1 (aG s (0:Int).toNat)=false\/(aA s 1).2.2≠0\/(aA s 1).1>4096)) (h2:¬((aA s (aA s 1).2.1).2.2≠0\/(aA s (aA s 1).2.1).1>(aA s 1).1)) :
 rH c s=GL c s (aA s 1).1 (aA s (aA s 1).2.1).1 (gC s (aA s (aA s 1).2.1).2.1 (aA s 1).1 (aA s (aA s 1).2.1).1):=by rw[rH,if_neg h,if_neg h2]
theorem qSQ {c:Col} {s:ByteArray} {n k:Int} {x:List Bool×Bool×Int} (h:x.2.1=false):GL c s n k x=([],false):=by rw[GL,if_pos h]
theorem qSR {c:Col} {s:ByteArray} {n k A:Int} {N:List Bool} (h1:(gJ c.2.1 (aG s (0:Int).toNat) (s.extract A.toNat s.size) (n-k)).2=false):GL c s n k (N,true,A)=([],false):=by
 rw[GL,if_neg (fun q=>Bool.noConfusion q),qXY,if_pos h1]
theorem GM {c:Col} {s:ByteArray} {n k A:Int} {N:List Bool} (h1:(gJ c.2.1 (aG s (0:Int).toNat) (s.extract A.toNat s.size) (n-k)).2=true):GL c s n k (N,true,A)=asm c N (gJ c.2.1 (aG s (0:Int).toNat) (s.extract A.toNat s.size) (n-k)).1 []:=by
 rw[GL,if_neg (fun q=>Bool.noConfusion q),qXY,if_neg (by rw[h1];decide)]
theorem qX3 {c:Col} {s:ByteArray} (h:bJ c.2.1=false):rL c s=([],1):=by rw[rL,if_pos h]
theorem qX4 {c:Col} {s:ByteArray} (h:bJ c.2.1=true) (h1:¬iF s=0):rL c s=([],iF s):=by rw[rL,if_neg (by rw[h];decide),if_pos h1]
theorem qX5 {c:Col} {s:ByteArray} (h:bJ c.2.1=true) (h1:iF s=0) (h2:(rH c (iZ s)).2=false):rL c s=([],2):=by rw[rL,if_neg (by rw[h];decide),if_neg (fun q=>q h1),if_pos h2]
theorem qN7 {c:Col} {s:ByteArray} (h:bJ c.2.1=true) (h1:iF s=0) (h2:(rH c (iZ s)).2=true):rL c s=((rH c (iZ s)).1,0):=by rw[rL,if_neg (by rw[h];decide),if_neg (fun q=>q h1),if_neg (by rw[h2];decide)]
theorem JR {n:Int} {l:List Val} (h:(l.length:Int)<=n):((tW n l).length:Int)=n:=by
 unfold tW;rw[gc,ge];omega
theorem XS (n:Int):tW n []=gf n.toNat ZV:=by
 unfold tW;simp
theorem XR {n:Int} {l:List Val} {i:Int} (hi:i=(l.length:Int)) (h:i<n):(tW n l)[i.toNat]! =ZV:=by
 unfold tW;rw[gi,List.getElem?_append_right om,gy,if_pos om];rfl
theorem XT {n:Int} {l:List Val} {i:Int} (v:Val) (hi:i=(l.length:Int)) (h:i<n):(tW n l).set i.toNat v=tW n (l++ [v]):=by
 unfold tW;rw[List.set_append_right _ _ om,show i.toNat-l.length=0 by omega];obtain⟨m,hm⟩:∃m,(n-l.length).toNat=m+1:=⟨(n-l.length).toNat-1,om⟩
 rw[hm,hh,List.set_cons_zero,ka];have:(n-(l++ [v]).length).toNat=m:=by simp;omega
 rw[this];rfl
theorem qKU {W:List ByteArray} {i:Int} (h:0<=i/\i<W.length):(W.take (i+1).toNat).map sV=(W.take i.toNat).map sV++ [sV W[i.toNat]!]:=by
 rw[show(i+1).toNat=i.toNat+1 by omega,gm om,getElem!_pos W i.toNat om,List.map_append];rfl
theorem qJ {α:Type} {W:List α} {i:Int} (h:0<=i/\i<=W.length):((W.take i.toNat).length:Int)=i:=by
 rw[gk];omega
theorem yY {s:ByteArray} {n:Int} (h:0<=n):((cT s n).1.length:Int)<=n:=by
 by_cases q:(cT s n).2=0
 ·have:=xN.1 q;omega
 ·rw[xN.2 q];simpa using h
theorem AE {s:ByteArray} {n:Int} (h:0<=n):((eP s n).1.length:Int)<=n:=by
 by_cases q:(eP s n).2=0
 ·have:=TX.1 q;omega
 ·rw[TX.2 q];simpa using h
theorem uG {s:ByteArray} {n:Int} (h:0<=n):((cB s n).1.length:Int)<=n:=by
 by_cases q:(cB s n).2=0
 ·have:=IK.1 q;omega
 ·rw[IK.2 q];simpa using h
theorem qbE {t k:Int} {s:ByteArray} {n:Int} (h:k=1):gJ t k s n=lQ t s n.toNat 0 []:=by rw[gJ,if_pos h]
theorem qWT {t k:Int} {s:ByteArray} {n:Int} (h:k=3):gJ t k s n=((cT s n).1.map sV,decide ((cT s n).2=0)):=by rw[gJ,if_neg om,if_pos h]
theorem qF1 {t k:Int} {s:ByteArray} {n:Int} (h:k=4):gJ t k s n=((cB s n).1.map nV,decide ((cB s n).2=0)):=by rw[gJ,if_neg om,if_neg om,if_pos h]
theorem qF0 {t k:Int} {s:ByteArray} {n:Int} (h1:¬k=1) (h3:¬k=3) (h4:¬k=4):gJ t k s n=((eP s n).1.map nV,decide ((eP s n).2=0)):=by rw[gJ,if_neg h1,if_neg h3,if_neg h4]
theorem qd5 {t k:Int} {s:ByteArray} {n:Int} (h:k=1):wL t k s n=lQ t s n.toNat 0 []:=by rw[wL,if_pos h]
theorem qAV {t k:Int} {s:ByteArray} {n:Int} (h:¬k=1):wL t k s n=(tW n (gJ t k s n).1,(gJ t k s n).2):=by rw[wL,if_neg h]
def kK (t:Int):List Int:=if t=3 then[1,3]else[1,2,4]
theorem qNR (t:Int):(kK t).length<=3:=by unfold kK;split<;>simp
theorem kW (t k:Int):(kK t).any (fun x=>decide (x=k))=bY t k:=by
 unfold kK bY;split<;>simp [Bool.or_assoc,eq_comm]
theorem qJG {l:List Int} {i k:Int} (h:0<=i/\i<l.length):(l.take (i+1).toNat).any (fun x=>decide (x=k))=((l.take i.toNat).any (fun x=>decide (x=k))||decide (l[i.toNat]! =k)):=by
 rw[qI h];simp
theorem KX {t k:Int} (h:bY t k=true):1<=k/\k<=4:=by
 unfold bY at h;split at h<;>simp at h<;>omega
theorem pL {L:List Val} {i:Int} {v:Val} (h:0<=i/\i<L.length):(L.set i.toNat v).take (i+1).toNat=L.take i.toNat++ [v]:=by
 rw[show(i+1).toNat=i.toNat+1 by omega,sG _ _ _ om]
theorem rA {L:List Val} {i:Int} {v:Val} (h:0<=i/\i<L.length):(L.set i.toNat v)[i.toNat]! =v:=by
 rw[getElem!_pos _ _ (by rw[gq];omega)];simp
theorem qLO {L:List Val} {i:Int} {v:Val} (h:0<=i) (hz:∀j:Nat,i<=j->L[j]! =ZV):∀j:Nat,i+1<=j->(L.set i.toNat v)[j]! =ZV:=fun j hj=>by
 have:=hz j om;rw[gi]at this ⊢;rw[List.getElem?_set_ne om];exact this
theorem qVG (n:Nat):∀j:Nat,(0:Int)<=j->(gf n ZV)[j]! =ZV:=fun j _=>by
 rw[gi,gy];split<;>rfl
theorem qOK (s:ByteArray) (a b:Nat):(s.extract a b).size<=s.size:=by simp;omega
abbrev qRH:Ty:=.pair .str (.int .i64)
abbrev Rdr:Type:=ByteArray×Int
@[reducible] instance:Inhabited Rdr:=instInhabitedDen qRH
abbrev DK:Ct:=.fn [.int .i64,.str,.int .i64] (some (fun(t:Int) (s:ByteArray) (n:Int)=>(s.size<=288230376151711744)/\(0<=n/\n<=4096))) (fun(t:Int) (s:ByteArray) (n:Int)=>.tup [.list bU,.bool] ((lQ t s n.toNat 0 []).1,(lQ t s n.toNat 0 []).2,()))
theorem qL8:aH Tryz.prog 188 DK:=by
 refine aH.fn qHH mixed [] [163] rfl rfl ?_;rintro⟨(t:Int),(s:ByteArray),(n:Int),_⟩ hpre;replace hpre:=hpre _ rfl;dsimp only[cu]at hpre;obtain⟨hs,hn⟩:=hpre;refine⟨[(0,8,LA.mk [.sl 23 (.int .i64),.ar 1 bU 43,.ob 0 qRH 194] (fun y=>Tag 30/\cu [.int .i64,.list bU,qRH] (fun(i:Int) (L:List Val) (r:Rdr)=>(0<=i/\i<=n)/\((L.length:Int)=n)/\(s=r.1)/\(0<=r.2/\r.2<=s.size)/\(∀j:Nat,i<=j->L[j]! =ZV)/\((lQ t s n.toNat 0 [])=lQ t s (n-(L.take i.toNat).length).toNat r.2 (L.take i.toNat))) y) (cu [.int .i64,.list bU,qRH] (fun(i:Int) (L:List Val) (r:Rdr)=>(n-i).toNat)) (cu [.int .i64,.list bU,qRH] (fun(i:Int) (L:List Val) (r:Rdr)=>([]:List (Nat×Nat×LA)))))],?_⟩;repeat' (first
  |(
 with_reducible refine Side.mk ⟨(⟨⟩:Tag 30),?_⟩
 dsimp only[cu,aC,aB,gts,eE,eN]
 refine⟨?_,?_,?_,?_,?_,?_⟩
 ·omega
 ·first
  |rw[ge];omega
  |rw[gq];omega
 ·rfl
 ·first
  |omega
  |(
  have hg:=bA s a
  have h1:(aA s a).2.2=0:=wa
  have hok:=bT h1
  omega)
 ·first
  |exact qVG _
  |exact qLO om hz
 ·first
  |simp;done
  |(
  have hg:=bA s a
  have h1:(aA s a).2.2=0:=wa
  have hok:=bT h1
  first
  |(
   have ht:¬t=3:=wa
   have hml:((L.take i.toNat).length:Int)=i:=qJ om;have hz0:=hz i.toNat om;rw[hM,qZL om h1 ht];rw[pL om];rw[hz0];rfl)
  |(
   have hus:=bF (n:=(s.size:Int)) om;have ht:t=3:=wa
   have hml:((L.take i.toNat).length:Int)=i:=qJ om;have hz0:=hz i.toNat om;have h2:¬(aA s a).1>s.size-(aA s a).2.1:=om
   rw[hM,qZM om h1 ht h2];rw[pL om];rw[hz0];rfl)))
  |(
 with_reducible apply Side.mk
 (try dsimp only[cu,aC,aB,gts,loK,hiK,eE,eN])
 first
 |omega
 |(
  have hg:=bA s a;have h1:(aA s a).2.2=0:=wa
  have hok:=bT h1;first
  |omega
  |(
   have hus:=bF (n:=(s.size:Int)) om;omega)))
  |(conv=>whnf
    first
     |with_reducible first|done|exact trivial|refine NilBr.mk (fun h=>?_) ?_|apply aL|apply aK|refine aM kr ?_|apply aN|apply bL|apply bK|apply aU
     |((with_reducible first|apply aW|apply aV|apply bH)<;>intro h<;>(try dsimp only[cu,eE,eN]at h)<;>(try(exfalso;omega)))
     |(
 intro yy (hy:Tag 30/\_)
 obtain⟨(i:Int),(L:List Val),(r:Rdr),_⟩:=yy
 replace hy:=hy.2
 dsimp only[cu,aC,aB,gts,eE,eN]at hy
 obtain⟨hi,hl,hr,ha,hz,hM⟩:=hy
 obtain⟨r1,a⟩:=r
 dsimp only at hr ha hM
 subst hr)))
 all_goals(
 with_reducible apply Leaf.mk
 (try dsimp only[cu,aC,aB,gts,eE,eN]at *)
 first
 |(
  have hml:((L.take i.toNat).length:Int)=i:=qJ om;first
  |(
   have h1:¬(aA s a).2.2=0:=wa
   rw[hM,qZK om h1])
  |(
   have hg:=bA s a;have h1:(aA s a).2.2=0:=wa
   have hok:=bT h1;have hus:=bF (n:=(s.size:Int)) om;have ht:t=3:=wa
   have h2:(aA s a).1>s.size-(aA s a).2.1:=om
   rw[hM,qP9 om h1 ht h2])
  |(rw[hM,qZJ om,ga om])))
abbrev qcQ:Tbl:=(188,DK)::qcP
theorem qHI:aD Tryz.prog qcQ:=aD.cons qL8 qHH
theorem tH {α β:Type} {W:List α} {f:α->β} {i:Int} (h:0<=i/\i<=W.length):i=(((W.take i.toNat).map f).length:Int):=by
 rw[gl,gk];omega
theorem qE8 {W:List Int} {j:Int} (h:0<=j) (h1:j<W.length):(W.map nV)[j.toNat]! =nV W[j.toNat]!:=by
 rw[getElem!_pos _ _ (by rw[gl];omega),getElem!_pos _ _ om,List.getElem_map]
theorem uX {t k:Int} {s:ByteArray} {n:Int} (h:k=4):(gJ t k s n).1.length=(cB s n).1.length/\∀j:Int,0<=j->j<(cB s n).1.length->(gJ t k s n).1[j.toNat]! =nV (cB s n).1[j.toNat]!:=by
 rw[qF1 h];exact⟨sm,fun j h0 h1=>qE8 h0 h1⟩
theorem uW {t k:Int} {s:ByteArray} {n:Int} (h1:¬k=1) (h3:¬k=3) (h4:¬k=4):(gJ t k s n).1.length=(eP s n).1.length/\∀j:Int,0<=j->j<(eP s n).1.length->(gJ t k s n).1[j.toNat]! =nV (eP s n).1[j.toNat]!:=by
 rw[qF0 h1 h3 h4];exact⟨sm,fun j h0 h1=>qE8 h0 h1⟩
theorem qP0 {n i:Int} {R:List Val} (h:0<=i/\i<R.length) (h2:(R.length:Int)<=n):(tW n (R.take i.toNat))[i.toNat]! =ZV:=XR (by rw[qJ om]) om
theorem XU {n i:Int} {R:List Val} (h:0<=i/\i<R.length) (h2:(R.length:Int)<=n):(tW n (R.take i.toNat)).set i.toNat R[i.toNat]! =tW n (R.take (i+1).toNat):=by
 rw[CH om,XT _ (by rw[qJ om]) om]
abbrev yT:Ct:=.fn [tY,.int .i64,.str,.int .i64] (some (fun(c:Col) (k:Int) (s:ByteArray) (n:Int)=>(s.size<=288230376151711744)/\(0<=n/\n<=4096)/\(1<=k/\k<=4))) (fun(c:Col) (k:Int) (s:ByteArray) (n:Int)=>.tup [.list bU,.bool] ((wL c.2.1 k s n).1,(wL c.2.1 k s n).2,()))
theorem qDN:aH Tryz.prog 166 yT:=by
 refine aH.fn qHI mixed [] [] rfl rfl ?_;rintro⟨(c:Col),(k:Int),(s:ByteArray),(n:Int),_⟩ hpre;replace hpre:=hpre _ rfl;dsimp only[cu]at hpre;obtain⟨hs,hn,hk⟩:=hpre;obtain⟨c0,t,c2,c3⟩:=c;show _;refine⟨[(0,20,LA.mk [.sl 41 (.int .i64),.ar 1 bU 43] (fun y=>Tag 31/\cu [.int .i64,.list bU] (fun(i:Int) (L:List Val)=>(0<=i/\i<=(cT s n).1.length)/\(L=tW n (((cT s n).1.take i.toNat).map sV))) y) (cu [.int .i64,.list bU] (fun(i:Int) (L:List Val)=>(((cT s n).1.length:Int)-i).toNat)) (cu [.int .i64,.list bU] (fun(i:Int) (L:List Val)=>([]:List (Nat×Nat×LA))))),(0,40,LA.mk [.sl 73 (.int .i64),.ar 1 bU 43] (fun y=>Tag 32/\cu [.int .i64,.list bU] (fun(i:Int) (L:List Val)=>(0<=i/\i<=(gJ t k s n).1.length)/\(L=tW n ((gJ t k s n).1.take i.toNat))) y) (cu [.int .i64,.list bU] (fun(i:Int) (L:List Val)=>(((gJ t k s n).1.length:Int)-i).toNat)) (cu [.int .i64,.list bU] (fun(i:Int) (L:List Val)=>([]:List (Nat×Nat×LA)))))],?_⟩;repeat' (first
  |(
 with_reducible refine Side.mk ⟨(⟨⟩:Tag 31),?_⟩
 dsimp only[cu,aC,aB,gts,eE,eN]
 refine⟨?_,?_⟩
 ·omega
 ·first
  |exact(XS n).symm
  |(
  have hdl:=yY (s:=s) (n:=n) hn.1
  have hrl:=AE (s:=s) (n:=n) hn.1
  have hdd:=uG (s:=s) (n:=n) hn.1
  rw[qKU om,<-XT _ (tH om) om,<-hL]
  have hz:=XR (n:=n) (l:=((cT s n).1.take i.toNat).map sV) (i:=i) (tH om) om
  rw[<-hL]at hz
  rw[hz]
  rfl))
  |(
 with_reducible refine Side.mk ⟨(⟨⟩:Tag 32),?_⟩
 dsimp only[cu,aC,aB,gts,eE,eN]
 refine⟨?_,?_⟩
 ·first
  |(
  have hdl:=yY (s:=s) (n:=n) hn.1
  have hrl:=AE (s:=s) (n:=n) hn.1
  have hdd:=uG (s:=s) (n:=n) hn.1
  first
  |(
   have k4:k=4:=om
   obtain⟨el,ev⟩:=uX (t:=t) (s:=s) (n:=n) (k:=k) k4;omega)
  |(
   have k4:¬k=4:=om
   have k1:¬k=1:=om
   have k3:¬k=3:=om
   obtain⟨el,ev⟩:=uW (t:=t) (s:=s) (n:=n) (k:=k) k1 k3 k4;omega))
 ·first
  |exact(XS n).symm
  |(
  have hdl:=yY (s:=s) (n:=n) hn.1
  have hrl:=AE (s:=s) (n:=n) hn.1
  have hdd:=uG (s:=s) (n:=n) hn.1
  first
  |(
   have k4:k=4:=om
   obtain⟨el,ev⟩:=uX (t:=t) (s:=s) (n:=n) (k:=k) k4;rw[hL,<-XU om om,qP0 om om,ev i om om];rfl)
  |(
   have k4:¬k=4:=om
   have k1:¬k=1:=om
   have k3:¬k=3:=om
   obtain⟨el,ev⟩:=uW (t:=t) (s:=s) (n:=n) (k:=k) k1 k3 k4;rw[hL,<-XU om om,qP0 om om,ev i om om];rfl)))
  |(
 with_reducible apply Side.mk
 (try dsimp only[cu,aC,aB,gts,loK,hiK,eE,eN])
 first
 |omega
 |(
  have hdl:=yY (s:=s) (n:=n) hn.1;have hrl:=AE (s:=s) (n:=n) hn.1;have hdd:=uG (s:=s) (n:=n) hn.1;first
  |omega
  |(
   have hpl:=congrArg List.length hL;have hpv:=JR (n:=n) (l:=((cT s n).1.take i.toNat).map sV) (by rw[<-tH om];omega);omega)
  |(
   have k4:k=4:=om
   obtain⟨el,ev⟩:=uX (t:=t) (s:=s) (n:=n) (k:=k) k4;omega)
  |(
   have k4:¬k=4:=om
   have k1:¬k=1:=om
   have k3:¬k=3:=om
   obtain⟨el,ev⟩:=uW (t:=t) (s:=s) (n:=n) (k:=k) k1 k3 k4;omega)
  |(
   have k4:k=4:=om
   obtain⟨el,ev⟩:=uX (t:=t) (s:=s) (n:=n) (k:=k) k4;have hpl:=congrArg List.length hL;have hpv:=JR (n:=n) (l:=(gJ t k s n).1.take i.toNat) (by rw[qJ om];omega);omega)
  |(
   have k4:¬k=4:=om
   have k1:¬k=1:=om
   have k3:¬k=3:=om
   obtain⟨el,ev⟩:=uW (t:=t) (s:=s) (n:=n) (k:=k) k1 k3 k4;have hpl:=congrArg List.length hL;have hpv:=JR (n:=n) (l:=(gJ t k s n).1.take i.toNat) (by rw[qJ om];omega);omega)))
  |(conv=>whnf
    first
     |with_reducible first|done|exact trivial|refine NilBr.mk (fun h=>?_) ?_|apply aL|apply aK|refine aM kr ?_|apply aN|apply bL|apply bK|apply aU
     |((with_reducible first|apply aW|apply aV|apply bH)<;>intro h<;>(try dsimp only[cu,eE,eN]at h)<;>(try(exfalso;omega)))
     |(
 intro yy (hy:Tag 31/\_)
 obtain⟨(i:Int),(L:List Val),_⟩:=yy
 replace hy:=hy.2
 dsimp only[cu,aC,aB,gts,eE,eN]at hy
 obtain⟨hi,hL⟩:=hy)
     |(
 intro yy (hy:Tag 32/\_)
 obtain⟨(i:Int),(L:List Val),_⟩:=yy
 replace hy:=hy.2
 dsimp only[cu,aC,aB,gts,eE,eN]at hy
 obtain⟨hi,hL⟩:=hy)))
 all_goals(
 with_reducible apply Leaf.mk
 (try dsimp only[cu,aC,aB,gts,eE,eN]at *)
 first
 |rw[qd5 om]
 |(
  have j3:k=3:=om
  have e:=qWT (t:=t) (s:=s) (n:=n) (k:=k) j3;rw[qAV om,e];first
  |done
  |(rw[hL,ga om]))
 |(
  have j4:k=4:=om
  have e:=qF1 (t:=t) (s:=s) (n:=n) (k:=k) j4;rw[qAV om,e];done)
 |(
  have j4:¬k=4:=om
  have j1:¬k=1:=om
  have j3:¬k=3:=om
  have e:=qF0 (t:=t) (s:=s) (n:=n) (k:=k) j1 j3 j4;rw[qAV om,e];done)
 |(
  have hdl:=yY (s:=s) (n:=n) hn.1;have hrl:=AE (s:=s) (n:=n) hn.1;have hdd:=uG (s:=s) (n:=n) hn.1;first
  |(
   have k4:k=4:=om
   obtain⟨el,ev⟩:=uX (t:=t) (s:=s) (n:=n) (k:=k) k4;have j4:k=4:=om
   have e:=qF1 (t:=t) (s:=s) (n:=n) (k:=k) j4;rw[qAV om,hL,ga om])
  |(
   have k4:¬k=4:=om
   have k1:¬k=1:=om
   have k3:¬k=3:=om
   obtain⟨el,ev⟩:=uW (t:=t) (s:=s) (n:=n) (k:=k) k1 k3 k4;have j4:¬k=4:=om
   have j1:¬k=1:=om
   have j3:¬k=3:=om
   have e:=qF0 (t:=t) (s:=s) (n:=n) (k:=k) j1 j3 j4;rw[qAV om,hL,ga om])))
abbrev qcR:Tbl:=(166,yT)::qcQ
theorem qHJ:aD Tryz.prog qcR:=aD.cons qDN qHI
theorem oo0 (s:ByteArray):(0<=(aA s 1).1/\(aA s 1).1<18446744073709551616)/\IntKind.u64.wrap 4096=4096/\0<=aG s (0:Int).toNat/\aG s (0:Int).toNat<256:=
 ⟨bA s 1,bF (n:=4096) dc,cZ s _⟩
theorem oo2 (s:ByteArray) (h:0<=(aA s 1).1/\(aA s 1).1<=4096):(0<=(aA s (aA s 1).2.1).1/\(aA s (aA s 1).2.1).1<18446744073709551616)/\IntKind.u64.wrap (aA s 1).1=(aA s 1).1/\((aA s 1).1+7).tdiv 8=((aA s 1).1+7)/8:=
 ⟨bA s _,bF om,mA om⟩
theorem qZA {b:Bool} (h:(!b)=true):b=false:=by cases b<;>simp_all
theorem UR {c:Col} {N:List Bool} {R M:List Val} {i:Int} (h:0<=i/\i<N.length) (hb:N[i.toNat]! =true) (hv:aZ c NV=0):asm c (N.drop i.toNat) R M=asm c (N.drop (i+1).toNat) R (M++ [NV]):=by
 have e1:pkV true R=NV:=rfl;have e2:rsV true R=R:=rfl;rw[yF h,hb,e1,e2,if_neg (fun q=>q hv)]
theorem MB {c:Col} {N:List Bool} {R M:List Val} {i:Int} (h:0<=i/\i<N.length) (hb:N[i.toNat]! =true) (hv:¬aZ c NV=0):asm c (N.drop i.toNat) R M=([],false):=by
 have e1:pkV true R=NV:=rfl;rw[yF h,hb,e1,if_pos hv]
theorem qD6 {c:Col} {N:List Bool} {R M:List Val} {i:Int} (h:0<=i/\i<N.length) (hb:N[i.toNat]! =false) (hv:aZ c R[(0:Int).toNat]! =0):asm c (N.drop i.toNat) R M=asm c (N.drop (i+1).toNat) (R.drop 1) (M++ [R[(0:Int).toNat]!]):=by
 have e1:pkV false R=R[(0:Int).toNat]!:=rfl;have e2:rsV false R=R.drop 1:=rfl;rw[yF h,hb,e1,e2,if_neg (fun q=>q hv)]
theorem UT {c:Col} {N:List Bool} {R M:List Val} {i:Int} (h:0<=i/\i<N.length) (hb:N[i.toNat]! =false) (hv:¬aZ c R[(0:Int).toNat]! =0):asm c (N.drop i.toNat) R M=([],false):=by
 have e1:pkV false R=R[(0:Int).toNat]!:=rfl;rw[yF h,hb,e1,if_pos hv]
theorem qNP {N:List Bool} {i:Int} (h:0<=i/\i<N.length) (hb:N[i.toNat]! =true):mF (N.drop i.toNat)=mF (N.drop (i+1).toNat):=by rw[OF h,hb];simp
theorem RZ {N:List Bool} {i:Int} (h:0<=i/\i<N.length) (hb:N[i.toNat]! =false):mF (N.drop i.toNat)=1+mF (N.drop (i+1).toNat):=by rw[OF h,hb];simp
theorem EX {c:Col} {s:ByteArray} (h:bY c.2.1 (aG s (0:Int).toNat)=true) (h1:(aA s 1).2.2=0) (hn:(aA s 1).1<=4096) (h2:(aA s (aA s 1).2.1).2.2=0) (hk:(aA s (aA s 1).2.1).1<=(aA s 1).1) :
  rH c s=GL c s (aA s 1).1 (aA s (aA s 1).2.1).1 (gC s (aA s (aA s 1).2.1).2.1 (aA s 1).1 (aA s (aA s 1).2.1).1):=
 qaI (fun q=>by rcases q with q|q|q<;>simp_all<;>omega) (fun q=>by rcases q with q|q<;>simp_all<;>omega)
theorem iN {c:Col} {s:ByteArray} {N:List Bool} {A:Int} (h:bY c.2.1 (aG s (0:Int).toNat)=true) (h1:(aA s 1).2.2=0) (hn:(aA s 1).1<=4096) (h2:(aA s (aA s 1).2.1).2.2=0) (hk:(aA s (aA s 1).2.1).1<=(aA s 1).1)
  (eN:gC s (aA s (aA s 1).2.1).2.1 (aA s 1).1 (aA s (aA s 1).2.1).1=(N,true,A)):(N.length:Int)=(aA s 1).1/\0<=A/\A<=s.size /\
  ((gJ c.2.1 (aG s (0:Int).toNat) (s.extract A.toNat s.size) ((aA s 1).1-(aA s (aA s 1).2.1).1)).2=true->rH c s=asm c N (gJ c.2.1 (aG s (0:Int).toNat) (s.extract A.toNat s.size) ((aA s 1).1-(aA s (aA s 1).2.1).1)).1 [] /\
    (((gJ c.2.1 (aG s (0:Int).toNat) (s.extract A.toNat s.size) ((aA s 1).1-(aA s (aA s 1).2.1).1)).1.length:Nat):Int)=((mF N:Nat):Int)) /\
  ((gJ c.2.1 (aG s (0:Int).toNat) (s.extract A.toNat s.size) ((aA s 1).1-(aA s (aA s 1).2.1).1)).2=false->rH c s=([],false)):=by
 have g1:=bA s 1;have g2:=bA s (aA s 1).2.1;have o1:=bT h1;have o2:=bT h2;have hno:=qY9 (s:=s) (a:=(aA s (aA s 1).2.1).2.1) (n:=(aA s 1).1) (k:=(aA s (aA s 1).2.1).1) om om om (by rw[eN]);rw[eN]at hno;obtain⟨m1,m2,m3,m4⟩:=hno;dsimp only at m1 m2 m3 m4;have hp:=EX h h1 hn h2 hk;rw[eN]at hp;have hn0:0<=(aA s 1).1-(aA s (aA s 1).2.1).1:=om
 refine⟨m1,m3,m4,fun hr=>⟨hp.trans (GM hr),?_⟩,fun hr=>hp.trans (qSR hr)⟩;rw[qF2 hn0 hr,m2]
theorem RM {c:Col} {s:ByteArray} (h:bY c.2.1 (aG s (0:Int).toNat)=true) (h1:(aA s 1).2.2=0) (hn:(aA s 1).1<=4096) (h2:(aA s (aA s 1).2.1).2.2=0) (hk:(aA s (aA s 1).2.1).1<=(aA s 1).1)
  (eN:gC s (aA s (aA s 1).2.1).2.1 (aA s 1).1 (aA s (aA s 1).2.1).1=([],false,0)):rH c s=([],false):=by
 rw[EX h h1 hn h2 hk,eN,qSQ rfl]
abbrev CU:Ct:=.fn [.int .i64] (none) (fun(t:Int)=>.d (.list (.int .i64)) (kK t))
theorem qJX:aH Tryz.prog 110 CU:=by
 refine aH.fn qHJ mixed [] [] rfl rfl ?_;rintro⟨(t:Int),_⟩ -;refine⟨[],?_⟩;repeat' (first
  |(
 with_reducible apply Side.mk
 (try dsimp only[cu,aC,aB,gts,loK,hiK,eE,eN])
 exact kb _)
  |(conv=>whnf
    first
     |with_reducible first|done|exact trivial|refine NilBr.mk (fun h=>?_) ?_|apply aL|apply aK|refine aM kr ?_|apply aN|apply bL|apply bK|apply aU
     |((with_reducible first|apply aW|apply aV|apply bH)<;>intro h<;>(try dsimp only[cu,eE,eN]at h)<;>(try(exfalso;omega)))))
 all_goals(
 with_reducible apply Leaf.mk
 (try dsimp only[cu,aC,aB,gts,eE,eN]at *)
 first
 |(
  have ht:t=3:=wa
  rw[kK,if_pos ht])
 |(
  have ht:¬t=3:=wa
  rw[kK,if_neg ht]))
abbrev qcS:Tbl:=(110,CU)::qcR
theorem qHK:aD Tryz.prog qcS:=aD.cons qJX qHJ
abbrev yK:Ct:=.fn [tY,.str] (some (fun(c:Col) (s:ByteArray)=>(s.size<=288230376151711744)/\(1<=s.size))) (fun(c:Col) (s:ByteArray)=>.tup [.list bU,.bool] ((rH c s).1,(rH c s).2,()))
theorem qBW:aH Tryz.prog 134 yK:=by
 refine aH.fn qHK mixed [] [163] rfl rfl ?_;rintro⟨(c:Col),(s:ByteArray),_⟩ hpre;replace hpre:=hpre _ rfl;dsimp only[cu]at hpre;obtain⟨hs,h1⟩:=hpre;refine⟨[(0,8,LA.mk [.sl 28 (.int .i64),.sl 7 .bool] (fun y=>Tag 33/\cu [.int .i64,.bool] (fun(j:Int) (w:Bool)=>(0<=j/\j<=(kK c.2.1).length)/\(w=((kK c.2.1).take j.toNat).any (fun x=>decide (x=aG s (0:Int).toNat)))) y) (cu [.int .i64,.bool] (fun(j:Int) (w:Bool)=>(((kK c.2.1).length:Int)-j).toNat)) (cu [.int .i64,.bool] (fun(j:Int) (w:Bool)=>([]:List (Nat×Nat×LA))))),(0,60,LA.mk [.sl 128 (.int .i64),.ar 3 bU 43,.sl 17 (.list bU)] (fun y=>Tag 34/\cu [.int .i64,.list bU,.list bU] (fun(i:Int) (L:List Val) (R:List Val)=>(0<=i/\i<=(aA s 1).1)/\((L.length:Int)=(aA s 1).1)/\(rH c s=asm c ((gC s (aA s (aA s 1).2.1).2.1 (aA s 1).1 (aA s (aA s 1).2.1).1).1.drop i.toNat) R (L.take i.toNat))/\(((R.length:Nat):Int)=((mF ((gC s (aA s (aA s 1).2.1).2.1 (aA s 1).1 (aA s (aA s 1).2.1).1).1.drop i.toNat):Nat):Int))) y) (cu [.int .i64,.list bU,.list bU] (fun(i:Int) (L:List Val) (R:List Val)=>((aA s 1).1-i).toNat)) (cu [.int .i64,.list bU,.list bU] (fun(i:Int) (L:List Val) (R:List Val)=>([]:List (Nat×Nat×LA)))))],?_⟩;repeat' (first
  |(
 with_reducible refine Side.mk ⟨(⟨⟩:Tag 33),?_⟩
 dsimp only[cu,aC,aB,gts,eE,eN]
 refine⟨?_,?_⟩
 ·omega
 ·first
  |rfl
  |(
  rw[qJG om,<-hw]
  first|rfl|(simp_all;done)))
  |(
 with_reducible refine Side.mk ⟨(⟨⟩:Tag 34),?_⟩
 dsimp only[cu,aC,aB,gts,eE,eN]
 refine⟨?_,?_,?_,?_⟩
 ·first
  |(
  have o0:=oo0 s
  have e1:(aA s 1).2.2=0:=wa
  have o1:=bT e1
  have o2:=oo2 s om
  have e2:(aA s (aA s 1).2.1).2.2=0:=wa
  have o3:=bT e2
  first
  |omega
  |(
   have hus0:bY c.2.1 (aG s (0:Int).toNat)=w:=by rw[<-kW,hw,ga om]
   have hus:bY c.2.1 (aG s (0:Int).toNat)=true:=by rw[hus0];first|exact wa|exact BZ wa
   have kn:(aA s (aA s 1).2.1).1>0:=om
   have ke:¬((aA s (aA s 1).2.1).2.1+((aA s 1).1+7).tdiv 8)>s.size:=om
   have ku:(kG (s.extract (aA s (aA s 1).2.1).2.1.toNat ((aA s (aA s 1).2.1).2.1+((aA s 1).1+7).tdiv 8).toNat) (aA s 1).1).2=0:=wa
   have kc:rK (s.extract (aA s (aA s 1).2.1).2.1.toNat ((aA s (aA s 1).2.1).2.1+((aA s 1).1+7).tdiv 8).toNat)=(aA s (aA s 1).2.1).1:=by first|exact wa|omega
   have eN:=tQ (s:=s) (a:=(aA s (aA s 1).2.1).2.1) (n:=(aA s 1).1) (k:=(aA s (aA s 1).2.1).1) kn ke ku kc;have j4:(aA s 1).1<=4096:=om
   have jk:(aA s (aA s 1).2.1).1<=(aA s 1).1:=om
   obtain⟨m1,m3,m4,m5,m6⟩:=iN hus e1 j4 e2 jk eN;omega))
 ·first
  |(
  have o0:=oo0 s
  have e1:(aA s 1).2.2=0:=wa
  have o1:=bT e1
  have o2:=oo2 s om
  have e2:(aA s (aA s 1).2.1).2.2=0:=wa
  have o3:=bT e2
  rw[ge];omega)
  |rw[gq];omega
 ·first
  |(
  have o0:=oo0 s
  have e1:(aA s 1).2.2=0:=wa
  have o1:=bT e1
  have o2:=oo2 s om
  have e2:(aA s (aA s 1).2.1).2.2=0:=wa
  have o3:=bT e2
  have hus0:bY c.2.1 (aG s (0:Int).toNat)=w:=by rw[<-kW,hw,ga om]
  have hus:bY c.2.1 (aG s (0:Int).toNat)=true:=by rw[hus0];first|exact wa|exact BZ wa
  first
  |(
   have kn:¬(aA s (aA s 1).2.1).1>0:=om
   have eN:=xA (s:=s) (a:=(aA s (aA s 1).2.1).2.1) (n:=(aA s 1).1) (k:=(aA s (aA s 1).2.1).1) kn;have j4:(aA s 1).1<=4096:=om
   have jk:(aA s (aA s 1).2.1).1<=(aA s 1).1:=om
   obtain⟨m1,m3,m4,m5,m6⟩:=iN hus e1 j4 e2 jk eN;have hy:(wL c.2.1 (aG s (0:Int).toNat) (s.extract (aA s (aA s 1).2.1).2.1.toNat s.size) ((aA s 1).1-(aA s (aA s 1).2.1).1)).2=true:=by first|exact wa|exact BZ wa
   rw[QO]at hy;have y1:=qIX om hy;obtain⟨m7,m8⟩:=m5 hy;rw[m7,y1,eN];rfl)
  |(
   have kn:(aA s (aA s 1).2.1).1>0:=om
   have ke:¬((aA s (aA s 1).2.1).2.1+((aA s 1).1+7).tdiv 8)>s.size:=om
   have ku:(kG (s.extract (aA s (aA s 1).2.1).2.1.toNat ((aA s (aA s 1).2.1).2.1+((aA s 1).1+7).tdiv 8).toNat) (aA s 1).1).2=0:=wa
   have kc:rK (s.extract (aA s (aA s 1).2.1).2.1.toNat ((aA s (aA s 1).2.1).2.1+((aA s 1).1+7).tdiv 8).toNat)=(aA s (aA s 1).2.1).1:=by first|exact wa|omega
   have eN:=tQ (s:=s) (a:=(aA s (aA s 1).2.1).2.1) (n:=(aA s 1).1) (k:=(aA s (aA s 1).2.1).1) kn ke ku kc;have j4:(aA s 1).1<=4096:=om
   have jk:(aA s (aA s 1).2.1).1<=(aA s 1).1:=om
   obtain⟨m1,m3,m4,m5,m6⟩:=iN hus e1 j4 e2 jk eN;have hy:(wL c.2.1 (aG s (0:Int).toNat) (s.extract ((aA s (aA s 1).2.1).2.1+((aA s 1).1+7).tdiv 8).toNat s.size) ((aA s 1).1-(aA s (aA s 1).2.1).1)).2=true:=by first|exact wa|exact BZ wa
   rw[QO]at hy;have y1:=qIX om hy;obtain⟨m7,m8⟩:=m5 hy;rw[m7,y1,eN];rfl)
  |(
   have kn:¬(aA s (aA s 1).2.1).1>0:=om
   have eN:=xA (s:=s) (a:=(aA s (aA s 1).2.1).2.1) (n:=(aA s 1).1) (k:=(aA s (aA s 1).2.1).1) kn;have j4:(aA s 1).1<=4096:=om
   have jk:(aA s (aA s 1).2.1).1<=(aA s 1).1:=om
   obtain⟨m1,m3,m4,m5,m6⟩:=iN hus e1 j4 e2 jk eN;have hml:((gC s (aA s (aA s 1).2.1).2.1 (aA s 1).1 (aA s (aA s 1).2.1).1).1.length:Int)=(aA s 1).1:=by rw[eN];exact m1
   first
   |(
    have hb:(gC s (aA s (aA s 1).2.1).2.1 (aA s 1).1 (aA s (aA s 1).2.1).1).1[i.toNat]! =true:=by rw[eN];first|exact wa|(simp_all;done)
    have hll:i<L.length:=om
    have hsa:=rA (L:=L) (i:=i) (v:=NV) om;have hv:aZ c NV=0:=by rw[<-hsa];with_reducible assumption
    rw[hgo,UR om hb hv,pL om])
   |(
    have hb:(gC s (aA s (aA s 1).2.1).2.1 (aA s 1).1 (aA s (aA s 1).2.1).1).1[i.toNat]! =false:=by rw[eN];first|exact wa|(simp_all;done)
    have hll:i<L.length:=om
    have hsa:=rA (L:=L) (i:=i) (v:=R[(0:Int).toNat]!) om;have hv:aZ c R[(0:Int).toNat]! =0:=by rw[<-hsa];with_reducible assumption
    rw[hgo,qD6 om hb hv,pL om];rfl))
  |(
   have kn:(aA s (aA s 1).2.1).1>0:=om
   have ke:¬((aA s (aA s 1).2.1).2.1+((aA s 1).1+7).tdiv 8)>s.size:=om
   have ku:(kG (s.extract (aA s (aA s 1).2.1).2.1.toNat ((aA s (aA s 1).2.1).2.1+((aA s 1).1+7).tdiv 8).toNat) (aA s 1).1).2=0:=wa
   have kc:rK (s.extract (aA s (aA s 1).2.1).2.1.toNat ((aA s (aA s 1).2.1).2.1+((aA s 1).1+7).tdiv 8).toNat)=(aA s (aA s 1).2.1).1:=by first|exact wa|omega
   have eN:=tQ (s:=s) (a:=(aA s (aA s 1).2.1).2.1) (n:=(aA s 1).1) (k:=(aA s (aA s 1).2.1).1) kn ke ku kc;have j4:(aA s 1).1<=4096:=om
   have jk:(aA s (aA s 1).2.1).1<=(aA s 1).1:=om
   obtain⟨m1,m3,m4,m5,m6⟩:=iN hus e1 j4 e2 jk eN;have hml:((gC s (aA s (aA s 1).2.1).2.1 (aA s 1).1 (aA s (aA s 1).2.1).1).1.length:Int)=(aA s 1).1:=by rw[eN];exact m1
   first
   |(
    have hb:(gC s (aA s (aA s 1).2.1).2.1 (aA s 1).1 (aA s (aA s 1).2.1).1).1[i.toNat]! =true:=by rw[eN];first|exact wa|(simp_all;done)
    have hll:i<L.length:=om
    have hsa:=rA (L:=L) (i:=i) (v:=NV) om;have hv:aZ c NV=0:=by rw[<-hsa];with_reducible assumption
    rw[hgo,UR om hb hv,pL om])
   |(
    have hb:(gC s (aA s (aA s 1).2.1).2.1 (aA s 1).1 (aA s (aA s 1).2.1).1).1[i.toNat]! =false:=by rw[eN];first|exact wa|(simp_all;done)
    have hll:i<L.length:=om
    have hsa:=rA (L:=L) (i:=i) (v:=R[(0:Int).toNat]!) om;have hv:aZ c R[(0:Int).toNat]! =0:=by rw[<-hsa];with_reducible assumption
    rw[hgo,qD6 om hb hv,pL om];rfl)))
 ·first
  |(
  have o0:=oo0 s
  have e1:(aA s 1).2.2=0:=wa
  have o1:=bT e1
  have o2:=oo2 s om
  have e2:(aA s (aA s 1).2.1).2.2=0:=wa
  have o3:=bT e2
  have hus0:bY c.2.1 (aG s (0:Int).toNat)=w:=by rw[<-kW,hw,ga om]
  have hus:bY c.2.1 (aG s (0:Int).toNat)=true:=by rw[hus0];first|exact wa|exact BZ wa
  first
  |(
   have kn:¬(aA s (aA s 1).2.1).1>0:=om
   have eN:=xA (s:=s) (a:=(aA s (aA s 1).2.1).2.1) (n:=(aA s 1).1) (k:=(aA s (aA s 1).2.1).1) kn;have j4:(aA s 1).1<=4096:=om
   have jk:(aA s (aA s 1).2.1).1<=(aA s 1).1:=om
   obtain⟨m1,m3,m4,m5,m6⟩:=iN hus e1 j4 e2 jk eN;have hy:(wL c.2.1 (aG s (0:Int).toNat) (s.extract (aA s (aA s 1).2.1).2.1.toNat s.size) ((aA s 1).1-(aA s (aA s 1).2.1).1)).2=true:=by first|exact wa|exact BZ wa
   rw[QO]at hy;have y1:=qIX om hy;obtain⟨m7,m8⟩:=m5 hy;rw[y1,eN];exact m8)
  |(
   have kn:(aA s (aA s 1).2.1).1>0:=om
   have ke:¬((aA s (aA s 1).2.1).2.1+((aA s 1).1+7).tdiv 8)>s.size:=om
   have ku:(kG (s.extract (aA s (aA s 1).2.1).2.1.toNat ((aA s (aA s 1).2.1).2.1+((aA s 1).1+7).tdiv 8).toNat) (aA s 1).1).2=0:=wa
   have kc:rK (s.extract (aA s (aA s 1).2.1).2.1.toNat ((aA s (aA s 1).2.1).2.1+((aA s 1).1+7).tdiv 8).toNat)=(aA s (aA s 1).2.1).1:=by first|exact wa|omega
   have eN:=tQ (s:=s) (a:=(aA s (aA s 1).2.1).2.1) (n:=(aA s 1).1) (k:=(aA s (aA s 1).2.1).1) kn ke ku kc;have j4:(aA s 1).1<=4096:=om
   have jk:(aA s (aA s 1).2.1).1<=(aA s 1).1:=om
   obtain⟨m1,m3,m4,m5,m6⟩:=iN hus e1 j4 e2 jk eN;have hy:(wL c.2.1 (aG s (0:Int).toNat) (s.extract ((aA s (aA s 1).2.1).2.1+((aA s 1).1+7).tdiv 8).toNat s.size) ((aA s 1).1-(aA s (aA s 1).2.1).1)).2=true:=by first|exact wa|exact BZ wa
   rw[QO]at hy;have y1:=qIX om hy;obtain⟨m7,m8⟩:=m5 hy;rw[y1,eN];exact m8)
  |(
   have kn:¬(aA s (aA s 1).2.1).1>0:=om
   have eN:=xA (s:=s) (a:=(aA s (aA s 1).2.1).2.1) (n:=(aA s 1).1) (k:=(aA s (aA s 1).2.1).1) kn;have j4:(aA s 1).1<=4096:=om
   have jk:(aA s (aA s 1).2.1).1<=(aA s 1).1:=om
   obtain⟨m1,m3,m4,m5,m6⟩:=iN hus e1 j4 e2 jk eN;have hml:((gC s (aA s (aA s 1).2.1).2.1 (aA s 1).1 (aA s (aA s 1).2.1).1).1.length:Int)=(aA s 1).1:=by rw[eN];exact m1
   first
   |(
    have hb:(gC s (aA s (aA s 1).2.1).2.1 (aA s 1).1 (aA s (aA s 1).2.1).1).1[i.toNat]! =true:=by rw[eN];first|exact wa|(simp_all;done)
    rw[hR,qNP om hb])
   |(
    have hb:(gC s (aA s (aA s 1).2.1).2.1 (aA s 1).1 (aA s (aA s 1).2.1).1).1[i.toNat]! =false:=by rw[eN];first|exact wa|(simp_all;done)
    have hcf:=RZ om hb;show(((R.drop 1).length:Nat):Int)=_;rw[gx];omega))
  |(
   have kn:(aA s (aA s 1).2.1).1>0:=om
   have ke:¬((aA s (aA s 1).2.1).2.1+((aA s 1).1+7).tdiv 8)>s.size:=om
   have ku:(kG (s.extract (aA s (aA s 1).2.1).2.1.toNat ((aA s (aA s 1).2.1).2.1+((aA s 1).1+7).tdiv 8).toNat) (aA s 1).1).2=0:=wa
   have kc:rK (s.extract (aA s (aA s 1).2.1).2.1.toNat ((aA s (aA s 1).2.1).2.1+((aA s 1).1+7).tdiv 8).toNat)=(aA s (aA s 1).2.1).1:=by first|exact wa|omega
   have eN:=tQ (s:=s) (a:=(aA s (aA s 1).2.1).2.1) (n:=(aA s 1).1) (k:=(aA s (aA s 1).2.1).1) kn ke ku kc;have j4:(aA s 1).1<=4096:=om
   have jk:(aA s (aA s 1).2.1).1<=(aA s 1).1:=om
   obtain⟨m1,m3,m4,m5,m6⟩:=iN hus e1 j4 e2 jk eN;have hml:((gC s (aA s (aA s 1).2.1).2.1 (aA s 1).1 (aA s (aA s 1).2.1).1).1.length:Int)=(aA s 1).1:=by rw[eN];exact m1
   first
   |(
    have hb:(gC s (aA s (aA s 1).2.1).2.1 (aA s 1).1 (aA s (aA s 1).2.1).1).1[i.toNat]! =true:=by rw[eN];first|exact wa|(simp_all;done)
    rw[hR,qNP om hb])
   |(
    have hb:(gC s (aA s (aA s 1).2.1).2.1 (aA s 1).1 (aA s (aA s 1).2.1).1).1[i.toNat]! =false:=by rw[eN];first|exact wa|(simp_all;done)
    have hcf:=RZ om hb;show(((R.drop 1).length:Nat):Int)=_;rw[gx];omega))))
  |(
 with_reducible apply Side.mk
 (try dsimp only[cu,aC,aB,gts,loK,hiK,eE,eN])
 first
 |omega
 |(
  have o0:=oo0 s;omega)
 |rw[gq];omega
 |(
  have o0:=oo0 s;first
  |(
   have hcl:=qNR c.2.1;omega)
  |(
   have e1:(aA s 1).2.2=0:=wa
   have o1:=bT e1;have o2:=oo2 s om;first
   |omega
   |(
    have e2:(aA s (aA s 1).2.1).2.2=0:=wa
    have o3:=bT e2;first
    |omega
    |rw[ge];omega
    |(
     simp only[go];omega)
    |(
     have hus0:bY c.2.1 (aG s (0:Int).toNat)=w:=by rw[<-kW,hw,ga om]
     have hus:bY c.2.1 (aG s (0:Int).toNat)=true:=by rw[hus0];first|exact wa|exact BZ wa
     first
     |(
      have kn:(aA s (aA s 1).2.1).1>0:=om
      have ke:¬((aA s (aA s 1).2.1).2.1+((aA s 1).1+7).tdiv 8)>s.size:=om
      have ku:(kG (s.extract (aA s (aA s 1).2.1).2.1.toNat ((aA s (aA s 1).2.1).2.1+((aA s 1).1+7).tdiv 8).toNat) (aA s 1).1).2=0:=wa
      have kc:rK (s.extract (aA s (aA s 1).2.1).2.1.toNat ((aA s (aA s 1).2.1).2.1+((aA s 1).1+7).tdiv 8).toNat)=(aA s (aA s 1).2.1).1:=by first|exact wa|omega
      have eN:=tQ (s:=s) (a:=(aA s (aA s 1).2.1).2.1) (n:=(aA s 1).1) (k:=(aA s (aA s 1).2.1).1) kn ke ku kc;have j4:(aA s 1).1<=4096:=om
      have jk:(aA s (aA s 1).2.1).1<=(aA s 1).1:=om
      obtain⟨m1,m3,m4,m5,m6⟩:=iN hus e1 j4 e2 jk eN;first
      |omega
      |(rw[gq];omega))
     |(
      have kn:¬(aA s (aA s 1).2.1).1>0:=om
      have eN:=xA (s:=s) (a:=(aA s (aA s 1).2.1).2.1) (n:=(aA s 1).1) (k:=(aA s (aA s 1).2.1).1) kn;have j4:(aA s 1).1<=4096:=om
      have jk:(aA s (aA s 1).2.1).1<=(aA s 1).1:=om
      obtain⟨m1,m3,m4,m5,m6⟩:=iN hus e1 j4 e2 jk eN;have hml:((gC s (aA s (aA s 1).2.1).2.1 (aA s 1).1 (aA s (aA s 1).2.1).1).1.length:Int)=(aA s 1).1:=by rw[eN];exact m1
      have hb:(gC s (aA s (aA s 1).2.1).2.1 (aA s 1).1 (aA s (aA s 1).2.1).1).1[i.toNat]! =false:=by rw[eN];first|exact wa|(simp_all;done)
      have hcf:=RZ om hb;omega)
     |(
      have kn:(aA s (aA s 1).2.1).1>0:=om
      have ke:¬((aA s (aA s 1).2.1).2.1+((aA s 1).1+7).tdiv 8)>s.size:=om
      have ku:(kG (s.extract (aA s (aA s 1).2.1).2.1.toNat ((aA s (aA s 1).2.1).2.1+((aA s 1).1+7).tdiv 8).toNat) (aA s 1).1).2=0:=wa
      have kc:rK (s.extract (aA s (aA s 1).2.1).2.1.toNat ((aA s (aA s 1).2.1).2.1+((aA s 1).1+7).tdiv 8).toNat)=(aA s (aA s 1).2.1).1:=by first|exact wa|omega
      have eN:=tQ (s:=s) (a:=(aA s (aA s 1).2.1).2.1) (n:=(aA s 1).1) (k:=(aA s (aA s 1).2.1).1) kn ke ku kc;have j4:(aA s 1).1<=4096:=om
      have jk:(aA s (aA s 1).2.1).1<=(aA s 1).1:=om
      obtain⟨m1,m3,m4,m5,m6⟩:=iN hus e1 j4 e2 jk eN;have hml:((gC s (aA s (aA s 1).2.1).2.1 (aA s 1).1 (aA s (aA s 1).2.1).1).1.length:Int)=(aA s 1).1:=by rw[eN];exact m1
      have hb:(gC s (aA s (aA s 1).2.1).2.1 (aA s 1).1 (aA s (aA s 1).2.1).1).1[i.toNat]! =false:=by rw[eN];first|exact wa|(simp_all;done)
      have hcf:=RZ om hb;omega)
     |(
      have kn:¬(aA s (aA s 1).2.1).1>0:=om
      have eN:=xA (s:=s) (a:=(aA s (aA s 1).2.1).2.1) (n:=(aA s 1).1) (k:=(aA s (aA s 1).2.1).1) kn;have j4:(aA s 1).1<=4096:=om
      have jk:(aA s (aA s 1).2.1).1<=(aA s 1).1:=om
      obtain⟨m1,m3,m4,m5,m6⟩:=iN hus e1 j4 e2 jk eN;have huc:=KX hus;refine⟨?_,⟨om,om⟩,huc⟩;have:=qOK s (aA s (aA s 1).2.1).2.1.toNat s.size;omega)
     |(
      have kn:(aA s (aA s 1).2.1).1>0:=om
      have ke:¬((aA s (aA s 1).2.1).2.1+((aA s 1).1+7).tdiv 8)>s.size:=om
      have ku:(kG (s.extract (aA s (aA s 1).2.1).2.1.toNat ((aA s (aA s 1).2.1).2.1+((aA s 1).1+7).tdiv 8).toNat) (aA s 1).1).2=0:=wa
      have kc:rK (s.extract (aA s (aA s 1).2.1).2.1.toNat ((aA s (aA s 1).2.1).2.1+((aA s 1).1+7).tdiv 8).toNat)=(aA s (aA s 1).2.1).1:=by first|exact wa|omega
      have eN:=tQ (s:=s) (a:=(aA s (aA s 1).2.1).2.1) (n:=(aA s 1).1) (k:=(aA s (aA s 1).2.1).1) kn ke ku kc;have j4:(aA s 1).1<=4096:=om
      have jk:(aA s (aA s 1).2.1).1<=(aA s 1).1:=om
      obtain⟨m1,m3,m4,m5,m6⟩:=iN hus e1 j4 e2 jk eN;have huc:=KX hus;refine⟨?_,⟨om,om⟩,huc⟩;have:=qOK s ((aA s (aA s 1).2.1).2.1+((aA s 1).1+7).tdiv 8).toNat s.size;omega))))))
  |(conv=>whnf
    first
     |with_reducible first|done|exact trivial|refine NilBr.mk (fun h=>?_) ?_|apply aL|apply aK|refine aM kr ?_|apply aN|apply bL|apply bK|apply aU
     |((with_reducible first|apply aW|apply aV|apply bH)<;>intro h<;>(try dsimp only[cu,eE,eN]at h)<;>(try(exfalso;omega)))
     |(
 intro yy (hy:Tag 33/\_)
 obtain⟨(j:Int),(w:Bool),_⟩:=yy
 replace hy:=hy.2
 dsimp only[cu,aC,aB,gts,eE,eN]at hy
 obtain⟨hj,hw⟩:=hy)
     |(
 intro yy (hy:Tag 34/\_)
 obtain⟨(i:Int),(L:List Val),(R:List Val),_⟩:=yy
 replace hy:=hy.2
 dsimp only[cu,aC,aB,gts,eE,eN]at hy
 obtain⟨hi,hL,hgo,hR⟩:=hy)))
 all_goals(
 with_reducible apply Leaf.mk
 (try dsimp only[cu,aC,aB,gts,eE,eN]at *)
 first
 |(
  have o0:=oo0 s;have hus0:bY c.2.1 (aG s (0:Int).toNat)=w:=by rw[<-kW,hw,ga om]
  have hus:bY c.2.1 (aG s (0:Int).toNat)=false:=by rw[hus0];first|exact wa|(simp_all;done)
  rw[qNA (.inl hus)])
 |(
  have e1:¬(aA s 1).2.2=0:=wa
  rw[qNA (.inr (.inl e1))])
 |(
  have o0:=oo0 s;have e1:(aA s 1).2.2=0:=wa
  have o1:=bT e1;first
  |(
   have h4:(aA s 1).1>4096:=om
   rw[qNA (.inr (.inr h4))])
  |(
   have hus0:bY c.2.1 (aG s (0:Int).toNat)=w:=by rw[<-kW,hw,ga om]
   have hus:bY c.2.1 (aG s (0:Int).toNat)=true:=by rw[hus0];first|exact wa|exact BZ wa
   have c1:¬(bY c.2.1 (aG s (0:Int).toNat)=false\/(aA s 1).2.2≠0\/(aA s 1).1>4096):=fun q=>by
    rcases q with q|q|q
    ·rw[hus]at q;cases q
    ·exact q e1
    ·omega
   have e2:¬(aA s (aA s 1).2.1).2.2=0:=wa
   rw[qWL c1 (.inl e2)])
  |(
   have o2:=oo2 s om;first
   |(
    have hus0:bY c.2.1 (aG s (0:Int).toNat)=w:=by rw[<-kW,hw,ga om]
    have hus:bY c.2.1 (aG s (0:Int).toNat)=true:=by rw[hus0];first|exact wa|exact BZ wa
    have c1:¬(bY c.2.1 (aG s (0:Int).toNat)=false\/(aA s 1).2.2≠0\/(aA s 1).1>4096):=fun q=>by
     rcases q with q|q|q
     ·rw[hus]at q;cases q
     ·exact q e1
     ·omega
    have h5:(aA s (aA s 1).2.1).1>(aA s 1).1:=om
    rw[qWL c1 (.inr h5)])
   |(
    have e2:(aA s (aA s 1).2.1).2.2=0:=wa
    have o3:=bT e2;have hus0:bY c.2.1 (aG s (0:Int).toNat)=w:=by rw[<-kW,hw,ga om]
    have hus:bY c.2.1 (aG s (0:Int).toNat)=true:=by rw[hus0];first|exact wa|exact BZ wa
    first
    |(
     have eN:=qFC (s:=s) (a:=(aA s (aA s 1).2.1).2.1) (n:=(aA s 1).1) (k:=(aA s (aA s 1).2.1).1) om (.inl om);rw[RM hus e1 om e2 om eN])
    |(
     have eN:=qFC (s:=s) (a:=(aA s (aA s 1).2.1).2.1) (n:=(aA s 1).1) (k:=(aA s (aA s 1).2.1).1) om (.inr (.inr wa));rw[RM hus e1 om e2 om eN])
    |(
     have eN:=qFC (s:=s) (a:=(aA s (aA s 1).2.1).2.1) (n:=(aA s 1).1) (k:=(aA s (aA s 1).2.1).1) om (.inr (.inl wa));rw[RM hus e1 om e2 om eN])
    |(
     have kn:¬(aA s (aA s 1).2.1).1>0:=om
     have eN:=xA (s:=s) (a:=(aA s (aA s 1).2.1).2.1) (n:=(aA s 1).1) (k:=(aA s (aA s 1).2.1).1) kn;have j4:(aA s 1).1<=4096:=om
     have jk:(aA s (aA s 1).2.1).1<=(aA s 1).1:=om
     obtain⟨m1,m3,m4,m5,m6⟩:=iN hus e1 j4 e2 jk eN;have hy:(wL c.2.1 (aG s (0:Int).toNat) (s.extract (aA s (aA s 1).2.1).2.1.toNat s.size) ((aA s 1).1-(aA s (aA s 1).2.1).1)).2=false:=by first|exact wa|exact qZA wa
     rw[QO]at hy;rw[m6 hy])
    |(
     have kn:(aA s (aA s 1).2.1).1>0:=om
     have ke:¬((aA s (aA s 1).2.1).2.1+((aA s 1).1+7).tdiv 8)>s.size:=om
     have ku:(kG (s.extract (aA s (aA s 1).2.1).2.1.toNat ((aA s (aA s 1).2.1).2.1+((aA s 1).1+7).tdiv 8).toNat) (aA s 1).1).2=0:=wa
     have kc:rK (s.extract (aA s (aA s 1).2.1).2.1.toNat ((aA s (aA s 1).2.1).2.1+((aA s 1).1+7).tdiv 8).toNat)=(aA s (aA s 1).2.1).1:=by first|exact wa|omega
     have eN:=tQ (s:=s) (a:=(aA s (aA s 1).2.1).2.1) (n:=(aA s 1).1) (k:=(aA s (aA s 1).2.1).1) kn ke ku kc;have j4:(aA s 1).1<=4096:=om
     have jk:(aA s (aA s 1).2.1).1<=(aA s 1).1:=om
     obtain⟨m1,m3,m4,m5,m6⟩:=iN hus e1 j4 e2 jk eN;have hy:(wL c.2.1 (aG s (0:Int).toNat) (s.extract ((aA s (aA s 1).2.1).2.1+((aA s 1).1+7).tdiv 8).toNat s.size) ((aA s 1).1-(aA s (aA s 1).2.1).1)).2=false:=by first|exact wa|exact qZA wa
     rw[QO]at hy;rw[m6 hy])
    |(
     have kn:¬(aA s (aA s 1).2.1).1>0:=om
     have eN:=xA (s:=s) (a:=(aA s (aA s 1).2.1).2.1) (n:=(aA s 1).1) (k:=(aA s (aA s 1).2.1).1) kn;have j4:(aA s 1).1<=4096:=om
     have jk:(aA s (aA s 1).2.1).1<=(aA s 1).1:=om
     obtain⟨m1,m3,m4,m5,m6⟩:=iN hus e1 j4 e2 jk eN;have hml:((gC s (aA s (aA s 1).2.1).2.1 (aA s 1).1 (aA s (aA s 1).2.1).1).1.length:Int)=(aA s 1).1:=by rw[eN];exact m1
     first
     |(
      have hb:(gC s (aA s (aA s 1).2.1).2.1 (aA s 1).1 (aA s (aA s 1).2.1).1).1[i.toNat]! =true:=by rw[eN];first|exact wa|(simp_all;done)
      have hll:i<L.length:=om
      have hsa:=rA (L:=L) (i:=i) (v:=NV) om;have hv:¬aZ c NV=0:=by rw[<-hsa];with_reducible assumption
      rw[hgo,MB om hb hv])
     |(
      have hb:(gC s (aA s (aA s 1).2.1).2.1 (aA s 1).1 (aA s (aA s 1).2.1).1).1[i.toNat]! =false:=by rw[eN];first|exact wa|(simp_all;done)
      have hll:i<L.length:=om
      have hsa:=rA (L:=L) (i:=i) (v:=R[(0:Int).toNat]!) om;have hv:¬aZ c R[(0:Int).toNat]! =0:=by rw[<-hsa];with_reducible assumption
      rw[hgo,UT om hb hv])
     |(rw[hgo,qD5 om om,ga om]))
    |(
     have kn:(aA s (aA s 1).2.1).1>0:=om
     have ke:¬((aA s (aA s 1).2.1).2.1+((aA s 1).1+7).tdiv 8)>s.size:=om
     have ku:(kG (s.extract (aA s (aA s 1).2.1).2.1.toNat ((aA s (aA s 1).2.1).2.1+((aA s 1).1+7).tdiv 8).toNat) (aA s 1).1).2=0:=wa
     have kc:rK (s.extract (aA s (aA s 1).2.1).2.1.toNat ((aA s (aA s 1).2.1).2.1+((aA s 1).1+7).tdiv 8).toNat)=(aA s (aA s 1).2.1).1:=by first|exact wa|omega
     have eN:=tQ (s:=s) (a:=(aA s (aA s 1).2.1).2.1) (n:=(aA s 1).1) (k:=(aA s (aA s 1).2.1).1) kn ke ku kc;have j4:(aA s 1).1<=4096:=om
     have jk:(aA s (aA s 1).2.1).1<=(aA s 1).1:=om
     obtain⟨m1,m3,m4,m5,m6⟩:=iN hus e1 j4 e2 jk eN;have hml:((gC s (aA s (aA s 1).2.1).2.1 (aA s 1).1 (aA s (aA s 1).2.1).1).1.length:Int)=(aA s 1).1:=by rw[eN];exact m1
     first
     |(
      have hb:(gC s (aA s (aA s 1).2.1).2.1 (aA s 1).1 (aA s (aA s 1).2.1).1).1[i.toNat]! =true:=by rw[eN];first|exact wa|(simp_all;done)
      have hll:i<L.length:=om
      have hsa:=rA (L:=L) (i:=i) (v:=NV) om;have hv:¬aZ c NV=0:=by rw[<-hsa];with_reducible assumption
      rw[hgo,MB om hb hv])
     |(
      have hb:(gC s (aA s (aA s 1).2.1).2.1 (aA s 1).1 (aA s (aA s 1).2.1).1).1[i.toNat]! =false:=by rw[eN];first|exact wa|(simp_all;done)
      have hll:i<L.length:=om
      have hsa:=rA (L:=L) (i:=i) (v:=R[(0:Int).toNat]!) om;have hv:¬aZ c R[(0:Int).toNat]! =0:=by rw[<-hsa];with_reducible assumption
      rw[hgo,UT om hb hv])
     |(rw[hgo,qD5 om om,ga om]))))))
abbrev qcT:Tbl:=(134,yK)::qcS
theorem qHL:aD Tryz.prog qcT:=aD.cons qBW qHK
abbrev MK:Ct:=.fn [tY,.str] (some (fun(c:Col) (s:ByteArray)=>(s.size<=288230376151711744))) (fun(c:Col) (s:ByteArray)=>.tup [.list bU,.int .i64] ((rL c s).1,(rL c s).2,()))
theorem qSV:aH Tryz.prog 95 MK:=by
 refine aH.fn qHL mixed [] [] rfl rfl ?_;rintro⟨(c:Col),(s:ByteArray),_⟩ hpre;replace hpre:=hpre _ rfl;dsimp only[cu]at hpre;have hs:=hpre;refine⟨[],?_⟩;repeat' (first
  |(
 with_reducible apply Side.mk
 (try dsimp only[cu,aC,aB,gts,loK,hiK,eE,eN])
 first
 |omega
 |(
  have ho:iF s=0:=wa
  have hz:=qFG ho;have hbz:=MF (s:=s) om;have hbl:=RN s;have ei:(if iF s=0 then iZ s else EMP)=iZ s:=if_pos ho;rw[ei];exact⟨om,om⟩))
  |(conv=>whnf
    first
     |with_reducible first|done|exact trivial|refine NilBr.mk (fun h=>?_) ?_|apply aL|apply aK|refine aM kr ?_|apply aN|apply bL|apply bK|apply aU
     |((with_reducible first|apply aW|apply aV|apply bH)<;>intro h<;>(try dsimp only[cu,eE,eN]at h)<;>(try(exfalso;omega)))))
 all_goals(
 with_reducible apply Leaf.mk
 (try dsimp only[cu,aC,aB,gts,eE,eN]at *)
 first
 |(
  have hk:bJ c.2.1=false:=by simp [bJ];omega
  rw[qX3 hk])
 |(
  have hk:bJ c.2.1=true:=by simp [bJ];omega
  have ho:¬iF s=0:=wa
  rw[qX4 hk ho])
 |(
  have ho:iF s=0:=wa
  have hz:=qFG ho;have hbz:=MF (s:=s) om;have hbl:=RN s;have ei:(if iF s=0 then iZ s else EMP)=iZ s:=if_pos ho;have hk:bJ c.2.1=true:=by simp [bJ];omega
  first
  |(
   have hb:(rH c (if iF s=0 then iZ s else EMP)).2=false:=by first|exact wa|exact qZA wa
   rw[ei]at hb;rw[qX5 hk ho hb])
  |(
   have hb:(rH c (if iF s=0 then iZ s else EMP)).2=true:=by first|exact wa|exact BZ wa
   rw[ei]at hb;(try rw[ei]);rw[qN7 hk ho hb])))
abbrev qcU:Tbl:=(95,MK)::qcT
theorem qHM:aD Tryz.prog qcU:=aD.cons qSV qHL
abbrev qP:Ty:=.pair (.list (.int .i64)) (.int .i64)
abbrev Src:Type:=(List Int)×Int
@[reducible] instance:Inhabited Src:=instInhabitedDen qP
def pick (v n:Int):Int:=IntKind.i64.wrap (hf (IntKind.u64.wrap v) (IntKind.u64.wrap n))
theorem pick_lt {v n:Int} (h:0<n/\n<=9223372036854775807):0<=pick v n/\pick v n<n:=by
 have hn:IntKind.u64.wrap n=n:=IntWalk.u64_in n om;have hv:0<=IntKind.u64.wrap v:=by simp [IntKind.wrap,IntKind.bits,IntKind.signed];omega
 have h1:=gz (IntKind.u64.wrap n) hv;have h2:=Int.tmod_lt_of_pos (IntKind.u64.wrap v) (show 0<IntKind.u64.wrap n by omega);rw[hn]at h1 h2;unfold pick;rw[hn,qDU]<;>omega
theorem qR0 {n:Int} (h:0<n/\n<=9223372036854775807):¬IntKind.u64.wrap n=0:=by
 rw[IntWalk.u64_in n om];omega
def Src.ok (s:Src):Prop:=(0:Int)<=s.2/\s.1.length<=9223372036854775807
def Src.next (s:Src):Src:=if s.2>=s.1.length then s else⟨s.1,s.2+1⟩
def Src.val (s:Src):Int:=if s.2>=s.1.length then 0 else s.1[s.2.toNat]!
def Src.pick (s:Src) (n:Int):Int:=if s.2>=s.1.length then 0 else Go.Proofs.YtcjiefknhfhmkaaGreatDoor.pick s.1[s.2.toNat]! n
theorem Src.ok_next {s:Src} (h:Src.ok s):Src.ok (Src.next s):=by
 unfold Src.ok Src.next at *;split
 ·exact h
 ·exact⟨show(0:Int)<=s.2+1 by have:=h.1;omega,h.2⟩
theorem Src.pick_lt {s:Src} {n:Int} (h:0<n/\n<=9223372036854775807):0<=Src.pick s n/\Src.pick s n<n:=by
 unfold Src.pick;split
 ·omega
 ·exact Go.Proofs.YtcjiefknhfhmkaaGreatDoor.pick_lt h
theorem Src.ok_from {l:List Int} (h:l.length<=9223372036854775807):Src.ok (l,0):=⟨sm,h⟩
abbrev NQ:Ct:=.fn [.int .i64,.int .i64] (some (fun(v:Int) (n:Int)=>(¬IntKind.u64.wrap n=0))) (fun(v:Int) (n:Int)=>.d (.int .i64) (pick v n))
theorem qU8:aH Tryz.prog 17 NQ:=by
 refine aH.fn qHM mixed [(0,1,5)] [] rfl rfl ?_;rintro⟨(v:Int),(n:Int),_⟩ hpre;replace hpre:=hpre _ rfl;dsimp only[cu]at hpre;have hn:=hpre;refine⟨[],?_⟩;repeat' (first
  |(
 with_reducible apply Side.mk
 (try dsimp only[cu,aC,aB,gts,loK,hiK,eE,eN])
 omega)
  |(conv=>whnf
    first
     |with_reducible first|done|exact trivial|refine NilBr.mk (fun h=>?_) ?_|apply aL|apply aK|refine aM kr ?_|apply aN|apply bL|apply bK|apply aU
     |((with_reducible first|apply aW|apply aV|apply bH)<;>intro h<;>(try dsimp only[cu,eE,eN]at h)<;>(try(exfalso;omega)))))
 all_goals(
 with_reducible apply Leaf.mk
 (try dsimp only[cu,aC,aB,gts,eE,eN]at *)
 rfl)
abbrev qcV:Tbl:=(17,NQ)::qcU
theorem qHN:aD Tryz.prog qcV:=aD.cons qU8 qHM
abbrev NK:Ct:=.meth qP 124 [.int .i64] (some (fun(s:Src) (n:Int)=>(Src.ok s)/\(¬IntKind.u64.wrap n=0))) (fun(s:Src) (n:Int)=>.d (.int .i64) (Src.pick s n)) (fun(s:Src) (n:Int)=>Src.next s)
theorem qUW:aH Tryz.prog 36 NK:=by
 refine aH.meth qHN mixed [] [] rfl rfl ?_;rintro(s:Src) ⟨(n:Int),_⟩ hpre;replace hpre:=hpre _ rfl;dsimp only[cu]at hpre;obtain⟨hs,hn⟩:=hpre;obtain⟨hs0,hs1⟩:=hs;refine⟨[],?_⟩;repeat' (first
  |(
 with_reducible apply Side.mk
 (try dsimp only[cu,aC,aB,gts,loK,hiK,eE,eN])
 omega)
  |(conv=>whnf
    first
     |with_reducible first|done|exact trivial|refine NilBr.mk (fun h=>?_) ?_|apply aL|apply aK|refine aM kr ?_|apply aN|apply bL|apply bK|apply aU
     |((with_reducible first|apply aW|apply aV|apply bH)<;>intro h<;>(try dsimp only[cu,eE,eN]at h)<;>(try(exfalso;omega)))))
 all_goals(
 with_reducible apply Leaf.mk
 (try dsimp only[cu,aC,aB,gts,eE,eN]at *)
 first
 |rw[Src.pick,if_pos om]
 |rw[Src.next,if_pos om]
 |(
  rw[Src.pick,if_neg om];rw[show s.2+1-1=s.2 by omega])
 |(rw[Src.next,if_neg om]))
abbrev qcW:Tbl:=(36,NK)::qcV
theorem qHO:aD Tryz.prog qcW:=aD.cons qUW qHN
abbrev VI:Ct:=.meth qP 124 [] (some (fun(s:Src)=>(Src.ok s))) (fun(s:Src)=>.d (.int .i64) (Src.val s)) (fun(s:Src)=>Src.next s)
theorem qZN:aH Tryz.prog 123 VI:=by
 refine aH.meth qHO mixed [] [] rfl rfl ?_;rintro(s:Src) ⟨⟩ hpre;replace hpre:=hpre _ rfl;dsimp only[cu]at hpre;have hs:=hpre;obtain⟨hs0,hs1⟩:=hs;refine⟨[],?_⟩;repeat' (first
  |(
 with_reducible apply Side.mk
 (try dsimp only[cu,aC,aB,gts,loK,hiK,eE,eN])
 omega)
  |(conv=>whnf
    first
     |with_reducible first|done|exact trivial|refine NilBr.mk (fun h=>?_) ?_|apply aL|apply aK|refine aM kr ?_|apply aN|apply bL|apply bK|apply aU
     |((with_reducible first|apply aW|apply aV|apply bH)<;>intro h<;>(try dsimp only[cu,eE,eN]at h)<;>(try(exfalso;omega)))))
 all_goals(
 with_reducible apply Leaf.mk
 (try dsimp only[cu,aC,aB,gts,eE,eN]at *)
 first
 |rw[Src.val,if_pos om]
 |rw[Src.next,if_pos om]
 |(
  rw[Src.val,if_neg om];rw[show s.2+1-1=s.2 by omega])
 |(rw[Src.next,if_neg om]))
abbrev qcX:Tbl:=(123,VI)::qcW
theorem qHP:aD Tryz.prog qcX:=aD.cons qZN qHO
abbrev MW:Ct:=.new qP 124 [.list (.int .i64)] (none) (fun(l:List Int)=>((l,0):Src))
theorem qTU:aH Tryz.prog 35 MW:=by
 refine aH.new qHP mixed [] [] rfl rfl ?_;rintro⟨(l:List Int),_⟩ -;refine⟨[],?_⟩;repeat' (first
  |(
 with_reducible apply Side.mk
 (try dsimp only[cu,aC,aB,gts,loK,hiK,eE,eN])
 done)
  |(conv=>whnf
    first
     |with_reducible first|done|exact trivial|refine NilBr.mk (fun h=>?_) ?_|apply aL|apply aK|refine aM kr ?_|apply aN|apply bL|apply bK|apply aU
     |((with_reducible first|apply aW|apply aV|apply bH)<;>intro h<;>(try dsimp only[cu,eE,eN]at h)<;>(try(exfalso;omega)))))
 all_goals(
 with_reducible apply Leaf.mk
 (try dsimp only[cu,aC,aB,gts,eE,eN]at *)
 done)
abbrev qcY:Tbl:=(35,MW)::qcX
theorem qHQ:aD Tryz.prog qcY:=aD.cons qTU qHP
theorem bO (l:List Int):(aT l).size=l.length:=by simp [aT,ByteArray.size]
theorem IC (n:Int):(aT [n]).size=1:=rfl
def eF:Nat->Src->ByteArray->ByteArray×Src
 |0,s,x=>(x,s)
 |n+1,s,x=>eF n (Src.next s) (x++aT [IntKind.u8.wrap (97+Src.pick s 3)])
def GG (a b:Int):Int:=IntKind.i64.wrap ((BitVec.ofInt IntKind.i64.bits a &&& BitVec.ofInt IntKind.i64.bits b).toNat:Int)
def XE (s:Src) (c:Col):Bool:=c.2.2.2&&decide (Src.pick s 4=0)
def uO (s:Src) (c:Col):Src:=if c.2.2.2=true then Src.next s else s
def JG (s:Src):Int×Src:=if Src.pick (Src.next s) 8=0 then(Src.val (Src.next (Src.next s)),Src.next (Src.next (Src.next s)))else if Src.pick (Src.next s) 8=1 then(hf (Src.val (Src.next (Src.next s))) 1000,Src.next (Src.next (Src.next s)))
 else(IntKind.i64.wrap (Src.pick s 7-2),Src.next (Src.next s))
def XD (c:Col) (n:Int) (s:Src):Val×Src:=
 if c.2.1=2 then(⟨false,GG n 1,EMP⟩,s)
 else if c.2.1=3 then(⟨false,0,(eF (Src.pick s 4).toNat (Src.next s) EMP).1⟩,(eF (Src.pick s 4).toNat (Src.next s) EMP).2)
 else if c.2.1=4 then(⟨false,hf n 700000,EMP⟩,s)else if c.2.1=5 then(⟨false,hf n 1000000000000000000,EMP⟩,s)else(⟨false,n,EMP⟩,s)
def gV (s:Src) (c:Col):Val×Src:=if XE s c=true then(⟨true,0,EMP⟩,Src.next s)else XD c (JG (uO s c)).1 (JG (uO s c)).2
theorem JH {k:Int} (h:k>0) (s:Src) (x:ByteArray):eF k.toNat s x=eF (k-1).toNat (Src.next s) (x++aT [IntKind.u8.wrap (97+Src.pick s 3)]):=by
 rw[show k.toNat=(k-1).toNat+1 by omega];rfl
theorem qA:∀(n:Nat) (s:Src) (x:ByteArray),(eF n s x).1.size=x.size+n
 |0,s,x=>rfl
 |n+1,s,x=>by
  rw[eF,qA n,gb];rw[IC];omega
theorem zK:∀(n:Nat) (s:Src) (x:ByteArray),Src.ok s->Src.ok (eF n s x).2
 |0,s,x,h=>h
 |n+1,s,x,h=>zK n _ _ (Src.ok_next h)
theorem iK {s:Src} (c:Col) (h:Src.ok s):Src.ok (gV s c).2:=by
 have h1:Src.ok (uO s c):=by unfold uO;split;exact Src.ok_next h;exact h
 have h2:Src.ok (JG (uO s c)).2:=by
  unfold JG;split
  ·exact Src.ok_next (Src.ok_next (Src.ok_next h1))
  ·split
   ·exact Src.ok_next (Src.ok_next (Src.ok_next h1))
   ·exact Src.ok_next (Src.ok_next h1)
 unfold gV;split
 ·exact Src.ok_next h
 ·unfold XD
  split;exact h2;split;exact zK _ _ _ (Src.ok_next h2);split;exact h2;split;exact h2;exact h2
abbrev DA:Ct:=.meth qP 124 [tY] (some (fun(s:Src) (c:Col)=>(Src.ok s))) (fun(s:Src) (c:Col)=>.d bU ((gV s c).1)) (fun(s:Src) (c:Col)=>(gV s c).2)
theorem qKR:aH Tryz.prog 87 DA:=by
 refine aH.meth qHQ mixed [(0,3,2)] [] rfl rfl ?_;rintro(s:Src) ⟨(c:Col),_⟩ hpre;replace hpre:=hpre _ rfl;dsimp only[cu]at hpre;have hs:=hpre;refine⟨[(0,30,LA.mk [.sl 7 (.int .i64),.sl 6 .str,.ob 0 qP 124] (fun y=>Tag 35/\cu [.int .i64,.str,qP] (fun(k:Int) (x:ByteArray) (q:Src)=>(0<=k/\k<=3)/\(Src.ok q)/\((x.size:Int)<=3-k)/\(gV s c=(((false,0,(eF k.toNat q x).1):Val),(eF k.toNat q x).2))) y) (cu [.int .i64,.str,qP] (fun(k:Int) (x:ByteArray) (q:Src)=>k.toNat)) (cu [.int .i64,.str,qP] (fun(k:Int) (x:ByteArray) (q:Src)=>([]:List (Nat×Nat×LA)))))],?_⟩;repeat' (first
  |(
 with_reducible refine Side.mk ⟨(⟨⟩:Tag 35),?_⟩
 dsimp only[cu,aC,aB,gts,eE,eN]
 refine⟨?_,?_,?_,?_⟩
 ·first
  |omega
  |have:=@Src.pick_lt;grind
 ·(repeat (first|assumption|exact Src.ok_from av|apply Src.ok_next|apply iK|apply kNode_ok))
 ·first
  |(
  have h0:(ByteArray.size ⟨#[]⟩)=0:=rfl
  have:=@Src.pick_lt;grind)
  |(
  rw[gb,IC]
  omega)
 ·first
  |simp [gV,XE,uO,JG,XD, *];done
  |(rw[hg,JH av]))
  |(
 with_reducible apply Side.mk
 (try dsimp only[cu,aC,aB,gts,loK,hiK,eE,eN])
 first
 |omega
 |exact kb _
 |(
  refine⟨?_,dc⟩;(repeat (first|assumption|exact Src.ok_from av|apply Src.ok_next|apply iK|apply kNode_ok));done)
 |((repeat (first|assumption|exact Src.ok_from av|apply Src.ok_next|apply iK|apply kNode_ok));done)
 |have:=@Src.pick_lt;grind
 |(
  rw[IC];omega))
  |(conv=>whnf
    first
     |with_reducible first|done|exact trivial|refine NilBr.mk (fun h=>?_) ?_|apply aL|apply aK|refine aM kr ?_|apply aN|apply bL|apply bK|apply aU
     |((with_reducible first|apply aW|apply aV|apply bH)<;>intro h<;>(try dsimp only[cu,eE,eN]at h)<;>(try(exfalso;omega)))
     |(
 intro yy (hy:Tag 35/\_)
 obtain⟨(k:Int),(x:ByteArray),(q:Src),_⟩:=yy
 replace hy:=hy.2
 dsimp only[cu,aC,aB,gts,eE,eN]at hy
 obtain⟨hk,hq,hx,hg⟩:=hy)))
 all_goals(
 with_reducible apply Leaf.mk
 (try dsimp only[cu,aC,aB,gts,eE,eN]at *)
 first
 |simp [gV,XE,uO,JG,XD,GG,sQ, *];done
 |(
  rw[show k.toNat=0 by omega,eF]at hg;simp [hg];done))
abbrev qcZ:Tbl:=(87,DA)::qcY
theorem qHR:aD Tryz.prog qcZ:=aD.cons qKR qHQ
def nX (s:Src):Prop:=∀x,x∈s.1->inI x
theorem qCP (s:Src):(Src.next s).1=s.1:=by unfold Src.next;split<;>rfl
theorem jG {s:Src} (h:nX s):nX (Src.next s):=by unfold nX;rw[qCP];exact h
theorem qR3 {s:Src} (h:nX s):inI (Src.val s):=by
 unfold Src.val;split
 ·unfold inI;exact⟨dc,dc⟩
 ·exact IY h _
theorem TZ {a b:Int} (h:inI a):inI (hf a b):=by
 have h1:=Int.natAbs_tmod a b;have h2:a.natAbs%b.natAbs<=a.natAbs:=Nat.mod_le _ _;unfold inI at h ⊢;by_cases q:0<=a
 ·have:=gz b q;omega
 ·have h3:hf a b<=0:=by
    have:=gz b (show 0 <= -a by omega);rw[Int.neg_tmod]at this;omega
  omega
theorem PB:∀(n:Nat) (s:Src) (x:ByteArray),(eF n s x).2.1=s.1
 |0,s,x=>rfl
 |n+1,s,x=>by rw[eF,PB n,qCP]
theorem qEZ {s:Src} (h:nX s):inI (JG s).1/\nX (JG s).2:=by
 have h1:=jG h;have h2:=jG h1;have h3:=jG h2;unfold JG;split
 ·exact⟨qR3 h2,h3⟩
 ·split
  ·exact⟨TZ (qR3 h2),h3⟩
  ·exact⟨FQ _,h2⟩
theorem UG:inI 0:=by unfold inI;exact⟨dc,dc⟩
theorem qT8 {c:Col} {n:Int} {s:Src} (hn:inI n) (hs:nX s):okV (XD c n s).1/\nX (XD c n s).2:=by
 unfold XD;split
 ·exact⟨⟨gn _,FQ _⟩,hs⟩
 ·split
  ·refine⟨⟨?_,UG⟩,?_⟩
   ·show(eF (Src.pick s 4).toNat (Src.next s) EMP).1.size<=1048576
    rw[qA];have:=Src.pick_lt (s:=s) (n:=4) dc;have e:EMP.size=0:=rfl;omega
   ·show nX (eF (Src.pick s 4).toNat (Src.next s) EMP).2
    unfold nX;rw[PB,qCP];exact hs
  ·split
   ·exact⟨⟨gn _,TZ hn⟩,hs⟩
   ·split
    ·exact⟨⟨gn _,TZ hn⟩,hs⟩
    ·exact⟨⟨gn _,hn⟩,hs⟩
theorem qKQ {s:Src} (c:Col) (h:nX s):okV (gV s c).1/\nX (gV s c).2:=by
 have h1:nX (uO s c):=by unfold uO;split;exact jG h;exact h
 unfold gV;split
 ·exact⟨⟨gn _,UG⟩,jG h⟩
 ·exact qT8 (qEZ h1).1 (qEZ h1).2
abbrev HO:Ct:=.fn [.list bU,.list bU] (some (fun(a:List Val) (b:List Val)=>(a.length<=9223372036854775807))) (fun(a:List Val) (b:List Val)=>.d .bool (decide (a=b)))
theorem qQ6:aH Tryz.prog 22 HO:=by
 refine aH.fn qHR mixed [] [] rfl rfl ?_;rintro⟨(a:List Val),(b:List Val),_⟩ hpre;replace hpre:=hpre _ rfl;dsimp only[cu]at hpre;have ha:=hpre;refine⟨[(0,8,LA.mk [.sl 13 (.int .i64)] (fun y=>Tag 36/\cu [.int .i64] (fun(k:Int)=>(0<=k/\k<=a.length)/\(a.take k.toNat=b.take k.toNat)) y) (cu [.int .i64] (fun(k:Int)=>((a.length:Int)-k).toNat)) (cu [.int .i64] (fun(k:Int)=>([]:List (Nat×Nat×LA)))))],?_⟩;repeat' (first
  |(
 with_reducible refine Side.mk ⟨(⟨⟩:Tag 36),?_⟩
 dsimp only[cu,aC,aB,gts,eE,eN]
 refine⟨?_,?_⟩
 ·omega
 ·first
  |rfl
  |(
  have e1:k.toNat<a.length:=om
  have e2:k.toNat<b.length:=om
  have e3:a[k.toNat]! =b[k.toNat]!:=by simp_all [Prod.ext_iff]
  rw[getElem!_pos a k.toNat e1,getElem!_pos b k.toNat e2]at e3
  rw[show(k+1).toNat=k.toNat+1 by omega,kg,kg,hs,gw e1,gw e2,e3]))
  |(
 with_reducible apply Side.mk
 (try dsimp only[cu,aC,aB,gts,loK,hiK,eE,eN])
 first
 |omega
 |(kernel_rfl))
  |(conv=>whnf
    first
     |with_reducible first|done|exact trivial|refine NilBr.mk (fun h=>?_) ?_|apply aL|apply aK|refine aM kr ?_|apply aN|apply bL|apply bK|apply aU
     |((with_reducible first|apply aW|apply aV|apply bH)<;>intro h<;>(try dsimp only[cu,eE,eN]at h)<;>(try(exfalso;omega)))
     |(
 intro yy (hy:Tag 36/\_)
 obtain⟨(k:Int),_⟩:=yy
 replace hy:=hy.2
 dsimp only[cu,aC,aB,gts,eE,eN]at hy
 obtain⟨hk,hs⟩:=hy)))
 all_goals(
 with_reducible apply Leaf.mk
 (try dsimp only[cu,aC,aB,gts,eE,eN]at *)
 first
 |(
  have hab:a=b:=by
   have h2:=hs;rw[ga om,ga om]at h2;exact h2
  rw[decide_eq_true hab])
 |(
  have hne:¬a=b:=fun q=>by subst q;omega
  rw[decide_eq_false hne])
 |(
  have hne:¬a=b:=fun q=>by subst q;simp_all
  rw[decide_eq_false hne]))
abbrev qc0:Tbl:=(22,HO)::qcZ
theorem qHS:aD Tryz.prog qc0:=aD.cons qQ6 qHR
end Go.Proofs.YtcjiefknhfhmkaaGreatDoor
