import Derived.Test.YtcjiefknhfhmkaaGreatDoorM07
namespace Go.Proofs.YtcjiefknhfhmkaaGreatDoor
open Go.Abs
set_option maxRecDepth 100000
set_option maxHeartbeats 4000000
set_option linter.unusedVariables false
set_option linter.unusedSimpArgs false
def inI (n:Int):Prop:=-9223372036854775808<=n/\n<=9223372036854775807
def gB (n:Int):Int:=if n<0 then(-(n+1))*2+1 else n*2
def pR (v:Int):Int:=if v%2=1 then -(v/2)-1 else v/2
theorem nE {n:Int} (h:inI n):0<=gB n/\gB n<18446744073709551616:=by unfold inI at h;unfold gB;split<;>omega
theorem qE6 (n:Int):pR (gB n)=n:=by unfold gB pR;split<;>split<;>omega
theorem qTW {a:Int} (h:inI a):IntKind.i64.wrap a=a:=by unfold inI at h;simp [IntKind.wrap,IntKind.bits,IntKind.signed];omega
theorem qYU {a:Int} (h:inI a):lM .i64 a 0=a:=by
 unfold lM
 rw[show BitVec.ofInt IntKind.i64.bits 0=0#IntKind.i64.bits from rfl,BitVec.xor_zero,BitVec.toNat_ofInt]
 unfold inI at h
 simp [IntKind.wrap,IntKind.bits,IntKind.signed];omega
theorem qYV {a:Int} (h:0<=a/\a<=9223372036854775807):lM .i64 a (-1) = -a-1:=by
 unfold lM
 rw[show BitVec.ofInt IntKind.i64.bits (-1)=BitVec.allOnes IntKind.i64.bits from rfl,BitVec.xor_allOnes,BitVec.toNat_not,BitVec.toNat_ofInt]
 have e2:(2:Nat)^IntKind.i64.bits=18446744073709551616:=rfl
 have e3:((2^IntKind.i64.bits-1-(a%((2^IntKind.i64.bits:Nat):Int)).toNat:Nat):Int)=18446744073709551615-a:=by
  rw[e2];omega
 rw[e3]
 simp [IntKind.wrap,IntKind.bits,IntKind.signed];omega
theorem qU2 {v:Int} (h:0<=v/\v<18446744073709551616):lM .i64 (iF .u64 v 1) (IntKind.i64.wrap (0-qU .u64 v 1))=pR v:=by
 rw[qMR h.1,NP h]
 unfold pR
 have:inI (v/2):=by unfold inI;omega
 split
 · rename_i q
   rw[q,show IntKind.i64.wrap (0-1) = -1 from rfl,qYV (by omega)]
 · rename_i q
   rw[show v%2=0 by omega,show IntKind.i64.wrap (0-0)=0 from rfl,qYU this]
abbrev KI:Ct:=.fn [.int .i64] (some (fun(n:Int)=>(inI n))) (fun(n:Int)=>.d (.int .u64) (gB n))
theorem qQX:aH Tryz.prog 122 KI:=by
 refine aH.fn qDA mixed [] [] rfl rfl ?_
 rintro⟨(n:Int),_⟩ hpre
 replace hpre:=hpre _ rfl
 dsimp only[cu]at hpre
 have hn:=hpre
 unfold inI at hn
 refine⟨[],?_⟩
 repeat' (first
  |(
 with_reducible refine Side.mk ?_
 (try dsimp only[cu,aC,aB,gts,loK,hiK,Prod.eta,List.nil_append])
 omega)
  |(conv=>whnf
    first
     |done
     |exact trivial
     |with_reducible refine NilBr.mk (fun h=>?_) ?_
     |with_reducible first|refine aJ ?_ ?_|refine aI ?_ ?_|refine aK (by kernel_rfl) ?_|refine aL ?_|refine bD ?_ ?_|refine bC ?_ ?_|refine aR ?_ ?_
     |((with_reducible first|refine aT (fun h=>?_) (fun h=>?_)|refine aS (fun h=>?_) (fun h=>?_)|refine bA (fun h=>?_) (fun h=>?_))<;>(try dsimp only[cu,Prod.eta,List.nil_append]at h)<;>(try(exfalso;omega;done)))))
 all_goals(
 with_reducible refine Leaf.mk ?_
 (try dsimp only[cu,aC,aB,gts,Prod.eta,List.nil_append]at *)
 first
 |(
  have q:¬n<0:=by assumption
  rw[gB,if_neg q,aW (n:=n) (by omega),aW (by omega)])
 |(
  have q:n<0:=by assumption
  rw[gB,if_pos q,qTW (a:=0-(n+1)) (by unfold inI;omega),aW (n:=0-(n+1)) (by omega),aW (n:=(0-(n+1))*2) (by omega),aW (by omega)]
  show(_:Int)=_
  omega))
abbrev qW3:Tbl:=(122,KI)::qW2
theorem qDB:aD Tryz.prog qW3:=aD.cons qQX qDA
abbrev RM:Ct:=.fn [.int .u64] (some (fun(v:Int)=>(0<=v/\v<18446744073709551616))) (fun(v:Int)=>.d (.int .i64) (pR v))
theorem qU3:aH Tryz.prog 160 RM:=by
 refine aH.fn qDB mixed [] [] rfl rfl ?_
 rintro⟨(v:Int),_⟩ hpre
 replace hpre:=hpre _ rfl
 dsimp only[cu]at hpre
 have hv:=hpre
 refine⟨[],?_⟩
 repeat' (first
  |(
 with_reducible refine Side.mk ?_
 (try dsimp only[cu,aC,aB,gts,loK,hiK,Prod.eta,List.nil_append])
 first
 |(omega)
 |(
  have h1:=NP hv
  have h2:=qMR hv.1
  first
  |(
   rw[h2]
   omega)
  |(
   rw[h1]
   omega)))
  |(conv=>whnf
    first
     |done
     |exact trivial
     |with_reducible refine NilBr.mk (fun h=>?_) ?_
     |with_reducible first|refine aJ ?_ ?_|refine aI ?_ ?_|refine aK (by kernel_rfl) ?_|refine aL ?_|refine bD ?_ ?_|refine bC ?_ ?_|refine aR ?_ ?_
     |((with_reducible first|refine aT (fun h=>?_) (fun h=>?_)|refine aS (fun h=>?_) (fun h=>?_)|refine bA (fun h=>?_) (fun h=>?_))<;>(try dsimp only[cu,Prod.eta,List.nil_append]at h)<;>(try(exfalso;omega;done)))))
 all_goals(
 with_reducible refine Leaf.mk ?_
 (try dsimp only[cu,aC,aB,gts,Prod.eta,List.nil_append]at *)
 rw[qU2 hv])
abbrev qW4:Tbl:=(160,RM)::qW3
theorem qDC:aD Tryz.prog qW4:=aD.cons qU3 qDB
def rK (v:Int):List Int->Nat
 | []=>0
 |x::l=>if x=v then rK v l+1 else 0
theorem MN {v:Int}:∀ {l:List Int} {m:Nat},m<=l.length->(∀j,j<m->l[j]! =v)->(m=l.length\/¬l[m]! =v)->rK v l=m
 | [],m,h,_,_=>by simp at h;subst h;rfl
 |x::l,0,_,_,h=>by
  rcases h with h|h
  · simp at h
  · unfold rK;rw[if_neg (by simpa using h)]
 |x::l,m+1,h,h1,h2=>by
  have h0:x=v:=by simpa using h1 0 (by omega)
  unfold rK
  rw[if_pos h0,MN (m:=m) (by simpa using h) (fun j hj=>by simpa using h1 (j+1) (by omega)) (by simpa using h2)]
def runs:List Int->List (Int×Int)
 | []=>[]
 |v::l=>((rK v l:Int)+1,v)::runs (l.drop (rK v l))
termination_by l=>l.length
decreasing_by simp;omega
theorem SF (l:List Int) (a j:Nat):(l.drop a)[j]! =l[a+j]!:=by
 simp [List.getElem!_eq_getElem?_getD,List.getElem?_drop]
theorem qHB {l:List Int} {i k:Int} (h:0<=i/\i<k/\k<=l.length) (he:∀j:Nat,i<=j->(j:Int)<k->l[j]! =l[i.toNat]!) (hn:k=l.length\/¬l[k.toNat]! =l[i.toNat]!) :
  runs (l.drop i.toNat)=(k-i,l[i.toNat]!)::runs (l.drop k.toNat):=by
 have e:rK l[i.toNat]! (l.drop (i+1).toNat)=(k-i-1).toNat:=by
  refine MN (by simp;omega) (fun j hj=>?_) ?_
  · rw[SF];exact he _ (by omega) (by omega)
  · rcases hn with q|q
    · left;simp;omega
    · right;rw[SF,show(i+1).toNat+(k-i-1).toNat=k.toNat by omega];exact q
 rw[bI l i (by omega),runs,e,List.drop_drop,show(i+1).toNat+(k-i-1).toNat=k.toNat by omega,show(((k-i-1).toNat:Nat):Int)+1=k-i by omega]
def OL:List (Int×Int)->List Int
 | []=>[]
 |(n,v)::r=>put n++(put (gB v)++OL r)
def xM (l:List Int):ByteArray:=aV (OL (runs l))
theorem GI {l:List Int} (h:∀x,x∈l->inI x) (k:Nat):inI l[k]!:=by
 by_cases q:k<l.length
 · rw[getElem!_pos l k q];exact h _ (List.getElem_mem q)
 · rw[getElem!_neg l k q];unfold inI;exact⟨by decide,by decide⟩
def dGo (s:ByteArray) (n a:Int) (M:List Int):List Int×Int:=
 if h0:(M.length:Int)<n then
  if(aA s a).2.2≠0 then([],(aA s a).2.2)
  else if h1:(aA s a).1=0\/(aA s a).1>n-M.length then([],2)
  else if(aA s (aA s a).2.1).2.2≠0 then([],(aA s (aA s a).2.1).2.2)
  else if 0<M.length/\M[M.length-1]! =pR (aA s (aA s a).2.1).1 then([],2)
  else dGo s n (aA s (aA s a).2.1).2.1 (M++List.replicate (aA s a).1.toNat (pR (aA s (aA s a).2.1).1))
 else if a<s.size then([],2)else(M,0)
termination_by (n-M.length).toNat
decreasing_by
 have:=aY s a
 simp only[List.length_append,List.length_replicate]
 omega
def eK (s:ByteArray) (n:Int):List Int×Int:=if n<0\/n>4096 then([],4)else dGo s n 0 []
theorem qVB {s:ByteArray} {n a:Int} {M:List Int} (h:(M.length:Int)<n) (h1:¬(aA s a).2.2=0):dGo s n a M=([],(aA s a).2.2):=by rw[dGo,dif_pos h,if_pos h1]
theorem qVC {s:ByteArray} {n a:Int} {M:List Int} (h:(M.length:Int)<n) (h1:(aA s a).2.2=0) (h2:(aA s a).1=0\/(aA s a).1>n-M.length):dGo s n a M=([],2):=by rw[dGo,dif_pos h,if_neg (fun q=>q h1),dif_pos h2]
theorem qVD {s:ByteArray} {n a:Int} {M:List Int} (h:(M.length:Int)<n) (h1:(aA s a).2.2=0) (h2:¬((aA s a).1=0\/(aA s a).1>n-M.length)) (h3:¬(aA s (aA s a).2.1).2.2=0):dGo s n a M=([],(aA s (aA s a).2.1).2.2):=by
 rw[dGo,dif_pos h,if_neg (fun q=>q h1),dif_neg h2,if_pos h3]
theorem qVE {s:ByteArray} {n a:Int} {M:List Int} (h:(M.length:Int)<n) (h1:(aA s a).2.2=0) (h2:¬((aA s a).1=0\/(aA s a).1>n-M.length)) (h3:(aA s (aA s a).2.1).2.2=0) (h4:0<M.length/\M[M.length-1]! =pR (aA s (aA s a).2.1).1):dGo s n a M=([],2):=by
 rw[dGo,dif_pos h,if_neg (fun q=>q h1),dif_neg h2,if_neg (fun q=>q h3),if_pos h4]
theorem qVF {s:ByteArray} {n a:Int} {M:List Int} (h:(M.length:Int)<n) (h1:(aA s a).2.2=0) (h2:¬((aA s a).1=0\/(aA s a).1>n-M.length)) (h3:(aA s (aA s a).2.1).2.2=0) (h4:¬(0<M.length/\M[M.length-1]! =pR (aA s (aA s a).2.1).1)) :
  dGo s n a M=dGo s n (aA s (aA s a).2.1).2.1 (M++List.replicate (aA s a).1.toNat (pR (aA s (aA s a).2.1).1)):=by
 rw[dGo,dif_pos h,if_neg (fun q=>q h1),dif_neg h2,if_neg (fun q=>q h3),if_neg h4]
theorem qRQ {s:ByteArray} {n a:Int} {M:List Int} (h:¬(M.length:Int)<n):dGo s n a M=if a<s.size then([],2)else(M,0):=by rw[dGo,dif_neg h]
theorem qL8 {M:List Int} {u v:Int} (h:0<=u):M++List.replicate (u+1).toNat v=M++List.replicate u.toNat v++ [v]:=by
 rw[show(u+1).toNat=u.toNat+1 by omega,List.replicate_succ',List.append_assoc]
abbrev EX:Ct:=.fn [.list (.int .i64)] (some (fun(l:List Int)=>(l.length<=1073741824)/\(∀x,x∈l->inI x))) (fun(l:List Int)=>.d .str (xM l))
theorem qL7:aH Tryz.prog 155 EX:=by
 refine aH.fn qDC mixed [] [] rfl rfl ?_
 rintro⟨(l:List Int),_⟩ hpre
 replace hpre:=hpre _ rfl
 dsimp only[cu]at hpre
 obtain⟨hl,hv⟩:=hpre
 refine⟨[(0,6,LA.mk [.sl 4 (.int .i64),.sl 3 .str] (fun y=>Tag 25/\cu [.int .i64,.str] (fun(i:Int) (x:ByteArray)=>(0<=i/\i<=l.length)/\(xM l=x++aV (OL (runs (l.drop i.toNat))))/\((x.size:Int)<=20*i)) y) (cu [.int .i64,.str] (fun(i:Int) (x:ByteArray)=>((l.length:Int)-i).toNat)) (cu [.int .i64,.str] (fun(i:Int) (x:ByteArray)=>([(0,10,LA.mk [.sl 5 (.int .i64)] (fun y=>Tag 26/\cu [.int .i64] (fun(k:Int)=>(i<=k/\k<=l.length)/\(∀j:Nat,i<=j->(j:Int)<k->l[j]! =l[i.toNat]!)) y) (cu [.int .i64] (fun(k:Int)=>((l.length:Int)-k).toNat)) (cu [.int .i64] (fun(k:Int)=>([]:List (Nat×Nat×LA)))))]:List (Nat×Nat×LA)))))],?_⟩
 repeat' (first
  |(
 with_reducible refine Side.mk ⟨(⟨⟩:Tag 25),?_⟩
 dsimp only[cu,aC,aB,gts,Prod.eta,List.nil_append]
 refine⟨?_,?_,?_⟩
 · omega
 · first
   |(rw[show(⟨#[]⟩:ByteArray)=ByteArray.empty from rfl,ByteArray.empty_append];rfl)
   |(
  have hik:i<k:=by
   rcases Int.lt_or_le i k with q|q
   · exact q
   · exfalso
     have e:k=i:=by omega
     subst e
     first|omega|(simp_all;done)
  have hst:=qHB (l:=l) (i:=i) (k:=k) (by omega) he (by first|(left;omega)|(right;assumption)|(right;simp_all;done))
  have p1:=bM (k-i)
  have p2:=bM (gB l[i.toNat]!)
  have hui:=aW (n:=k-i) (by omega)
  rw[hx,hst,OL,hui]
  simp only[iC,ByteArray.append_assoc])
 · first
   |(exact Int.le_refl _)
   |(
  have hik:i<k:=by
   rcases Int.lt_or_le i k with q|q
   · exact q
   · exfalso
     have e:k=i:=by omega
     subst e
     first|omega|(simp_all;done)
  have p1:=bM (k-i)
  have p2:=bM (gB l[i.toNat]!)
  have hui:=aW (n:=k-i) (by omega)
  simp only[ByteArray.size_append,cP,hui]
  omega))
  |(
 with_reducible refine Side.mk ⟨(⟨⟩:Tag 26),?_⟩
 dsimp only[cu,aC,aB,gts,Prod.eta,List.nil_append]
 refine⟨?_,?_⟩
 · omega
 · first
   |(intro j h1 h2;omega)
   |(
  intro j h1 h2
  rcases Int.lt_or_le (j:Int) k with q|q
  · exact he j h1 q
  · rw[show j=k.toNat by omega];first|assumption|(simp_all;done)))
  |(
 with_reducible refine Side.mk ?_
 (try dsimp only[cu,aC,aB,gts,loK,hiK,Prod.eta,List.nil_append])
 first
 |(omega)
 |(
  have hik:i<k:=by
   rcases Int.lt_or_le i k with q|q
   · exact q
   · exfalso
     have e:k=i:=by omega
     subst e
     first|omega|(simp_all;done)
  omega)
 |(exact GI hv _)
 |(exact nE (GI hv _))
 |(
  have hui:=aW (n:=k-i) (by omega)
  omega)
 |(
  have hik:i<k:=by
   rcases Int.lt_or_le i k with q|q
   · exact q
   · exfalso
     have e:k=i:=by omega
     subst e
     first|omega|(simp_all;done)
  have p1:=bM (k-i)
  have p2:=bM (gB l[i.toNat]!)
  have hui:=aW (n:=k-i) (by omega)
  simp only[ByteArray.size_append,cP,hui]
  omega))
  |(conv=>whnf
    first
     |done
     |exact trivial
     |with_reducible refine NilBr.mk (fun h=>?_) ?_
     |with_reducible first|refine aJ ?_ ?_|refine aI ?_ ?_|refine aK (by kernel_rfl) ?_|refine aL ?_|refine bD ?_ ?_|refine bC ?_ ?_|refine aR ?_ ?_
     |((with_reducible first|refine aT (fun h=>?_) (fun h=>?_)|refine aS (fun h=>?_) (fun h=>?_)|refine bA (fun h=>?_) (fun h=>?_))<;>(try dsimp only[cu,Prod.eta,List.nil_append]at h)<;>(try(exfalso;omega;done)))
     |(
 intro yy (hy:Tag 25/\_)
 obtain⟨(i:Int),(x:ByteArray),_⟩:=yy
 replace hy:=hy.2
 dsimp only[cu,aC,aB,gts,Prod.eta,List.nil_append]at hy
 obtain⟨hi,hx,hz⟩:=hy)
     |(
 intro yy (hy:Tag 26/\_)
 obtain⟨(k:Int),_⟩:=yy
 replace hy:=hy.2
 dsimp only[cu,aC,aB,gts,Prod.eta,List.nil_append]at hy
 obtain⟨hk,he⟩:=hy)))
 all_goals(
 with_reducible refine Leaf.mk ?_
 (try dsimp only[cu,aC,aB,gts,Prod.eta,List.nil_append]at *)
 (
  rw[hx,List.drop_eq_nil_of_le (by omega),runs,OL]
  show x=x++ByteArray.empty
  simp))
abbrev qW5:Tbl:=(155,EX)::qW4
theorem qDD:aD Tryz.prog qW5:=aD.cons qL7 qDC
abbrev BH:Ct:=.fn [.str,.int .i64] (some (fun(s:ByteArray) (n:Int)=>(s.size<=288230376151711744))) (fun(s:ByteArray) (n:Int)=>.tup [.list (.int .i64),.int .i64] ((eK s n).1,(eK s n).2,()))
theorem qG6:aH Tryz.prog 190 BH:=by
 refine aH.fn qDD mixed [(0,3,3500006),(0,5,3500006),(0,9,3500006),(0,15,3500006)] [] rfl rfl ?_
 rintro⟨(s:ByteArray),(n:Int),_⟩ hpre
 replace hpre:=hpre _ rfl
 dsimp only[cu]at hpre
 have hs:=hpre
 refine⟨[(0,10,LA.mk [.sl 7 (.int .i64),.nls 6 (.int .i64) 2] (fun y=>Tag 27/\cu [.int .i64,.list (.int .i64)] (fun(a:Int) (M:List Int)=>(dGo s n 0 []=dGo s n a M)/\((M.length:Int)<=n)) y) (cu [.int .i64,.list (.int .i64)] (fun(a:Int) (M:List Int)=>(n-(M.length:Int)).toNat)) (cu [.int .i64,.list (.int .i64)] (fun(a:Int) (M:List Int)=>([(0,36,LA.mk [.sl 72 (.int .u64),.nls 6 (.int .i64) 2] (fun y=>Tag 28/\cu [.int .u64,.list (.int .i64)] (fun(u:Int) (Q:List Int)=>(0<=u/\u<=(aA s a).1)/\(Q=M++List.replicate u.toNat (pR (aA s (aA s a).2.1).1))) y) (cu [.int .u64,.list (.int .i64)] (fun(u:Int) (Q:List Int)=>((aA s a).1-u).toNat)) (cu [.int .u64,.list (.int .i64)] (fun(u:Int) (Q:List Int)=>([]:List (Nat×Nat×LA)))))]:List (Nat×Nat×LA)))))],?_⟩
 repeat' (first
  |(
 with_reducible refine Side.mk ⟨(⟨⟩:Tag 27),?_⟩
 dsimp only[cu,aC,aB,gts,Prod.eta,List.nil_append]
 refine⟨?_,?_⟩
 · first
   |(rw[show List.replicate (Int.toNat 0) (0:Int)= []from rfl])
   |(
  have hg:=aY s a
  have hg2:=aY s (aA s a).2.1
  have hwn:=aW (n:=n-(M.length:Int)) (by omega)
  have h2:¬((aA s a).1=0\/(aA s a).1>n-M.length):=by omega
  have h1:(aA s a).2.2=0:=by assumption
  have h3:(aA s (aA s a).2.1).2.2=0:=by assumption
  have h4:¬(0<M.length/\M[M.length-1]! =pR (aA s (aA s a).2.1).1):=by first|(intro q;omega)|(intro q;simp_all;done)
  rw[hM,qVF (by omega) h1 h2 h3 h4,hQ]
  (try rw[show u=(aA s a).1 by omega])
  (try rw[show(aA s a).1-u=(aA s a).1 by omega]))
 · first
   |(simp;omega)
   |(
  have hg:=aY s a
  have hg2:=aY s (aA s a).2.1
  have hwn:=aW (n:=n-(M.length:Int)) (by omega)
  rw[hQ]
  simp only[List.length_append,List.length_replicate]
  omega))
  |(
 with_reducible refine Side.mk ⟨(⟨⟩:Tag 28),?_⟩
 dsimp only[cu,aC,aB,gts,Prod.eta,List.nil_append]
 refine⟨?_,?_⟩
 · first
   |(
  have hg:=aY s a
  have hg2:=aY s (aA s a).2.1
  first
  |(omega)
  |(
   have hwu:=aW (n:=u+1) (by omega)
   omega))
 · first
   |(simp;done)
   |(
  have hg:=aY s a
  have hg2:=aY s (aA s a).2.1
  have hwu:=aW (n:=u+1) (by omega)
  rw[hwu,qL8 (by omega),<-hQ]))
  |(
 with_reducible refine Side.mk ?_
 (try dsimp only[cu,aC,aB,gts,loK,hiK,Prod.eta,List.nil_append])
 first
 |(done)
 |(omega)
 |(exact Eq.refl _)
 |(
  have hg:=aY s a
  have hg2:=aY s (aA s a).2.1
  first
  |(omega)
  |(
   have hwu:=aW (n:=u+1) (by omega)
   omega)
  |(
   have hwn:=aW (n:=n-(M.length:Int)) (by omega)
   have hQl:=congrArg List.length hQ
   simp only[List.length_append,List.length_replicate,List.length_cons,List.length_nil]at hQl ⊢
   omega)))
  |(conv=>whnf
    first
     |done
     |exact trivial
     |with_reducible refine NilBr.mk (fun h=>?_) ?_
     |with_reducible first|refine aJ ?_ ?_|refine aI ?_ ?_|refine aK (by kernel_rfl) ?_|refine aL ?_|refine bD ?_ ?_|refine bC ?_ ?_|refine aR ?_ ?_
     |((with_reducible first|refine aT (fun h=>?_) (fun h=>?_)|refine aS (fun h=>?_) (fun h=>?_)|refine bA (fun h=>?_) (fun h=>?_))<;>(try dsimp only[cu,Prod.eta,List.nil_append]at h)<;>(try(exfalso;omega;done)))
     |(
 intro yy (hy:Tag 27/\_)
 obtain⟨(a:Int),(M:List Int),_⟩:=yy
 replace hy:=hy.2
 dsimp only[cu,aC,aB,gts,Prod.eta,List.nil_append]at hy
 obtain⟨hM,hl⟩:=hy)
     |(
 intro yy (hy:Tag 28/\_)
 obtain⟨(u:Int),(Q:List Int),_⟩:=yy
 replace hy:=hy.2
 dsimp only[cu,aC,aB,gts,Prod.eta,List.nil_append]at hy
 obtain⟨hu,hQ⟩:=hy)))
 all_goals(
 with_reducible refine Leaf.mk ?_
 (try dsimp only[cu,aC,aB,gts,Prod.eta,List.nil_append]at *)
 first
 |(
  have q:n<0\/n>4096:=by omega
  rw[eK,if_pos q])
 |(
  have q:¬(n<0\/n>4096):=by omega
  rw[eK,if_neg q,hM]
  first
  |(
   have h1:¬(aA s a).2.2=0:=by assumption
   rw[qVB (by omega) h1])
  |(
   have hg:=aY s a
   have hg2:=aY s (aA s a).2.1
   have hwn:=aW (n:=n-(M.length:Int)) (by omega)
   first
   |(
    have h1:(aA s a).2.2=0:=by assumption
    have h2:(aA s a).1=0\/(aA s a).1>n-M.length:=by omega
    rw[qVC (by omega) h1 h2])
   |(
    have h2:¬((aA s a).1=0\/(aA s a).1>n-M.length):=by omega
    have h1:(aA s a).2.2=0:=by assumption
    first
    |(
     have h3:¬(aA s (aA s a).2.1).2.2=0:=by assumption
     rw[qVD (by omega) h1 h2 h3])
    |(
     have h3:(aA s (aA s a).2.1).2.2=0:=by assumption
     have h4:0<M.length/\M[M.length-1]! =pR (aA s (aA s a).2.1).1:=⟨by omega,by first|assumption|(simp_all;done)⟩
     rw[qVE (by omega) h1 h2 h3 h4])))
  |(
   have ha:a<s.size:=by omega
   rw[qRQ (by omega),if_pos ha])
  |(
   have ha:¬a<s.size:=by omega
   rw[qRQ (by omega),if_neg ha])))
abbrev qW6:Tbl:=(190,BH)::qW5
theorem qDE:aD Tryz.prog qW6:=aD.cons qG6 qDD
def mnL:List Int->Int
 | []=>0
 |x::l=>l.foldl bS x
def mxL:List Int->Int
 | []=>0
 |x::l=>l.foldl eH x
theorem qPZ (x:Int):∀l:List Int,l≠ []->mnL (l++ [x])=bS (mnL l) x
 | [],h=>absurd rfl h
 |y::l,_=>by simp [mnL]
theorem qP3 (x:Int):∀l:List Int,l≠ []->mxL (l++ [x])=eH (mxL l) x
 | [],h=>absurd rfl h
 |y::l,_=>by simp [mxL]
theorem qCE {l:List Int} {k:Int} (h:1<=k/\k<l.length):l.take k.toNat≠ []:=by
 intro q
 have:=congrArg List.length q
 rw[List.length_take,List.length_nil]at this
 omega
theorem oE {l:List Int} {k:Int} (h:0<=k/\k<l.length):l.take (k+1).toNat=l.take k.toNat++ [l[k.toNat]!]:=by
 rw[show(k+1).toNat=k.toNat+1 by omega,List.take_succ_eq_append_getElem (by omega),getElem!_pos l k.toNat (by omega)]
theorem qBF {l:List Int} {k:Int} (h:1<=k/\k<l.length):mnL (l.take (k+1).toNat)=bS (mnL (l.take k.toNat)) l[k.toNat]!:=by
 rw[oE (by omega),qPZ _ _ (qCE h)]
theorem qP5 {l:List Int} {k:Int} (h:1<=k/\k<l.length):mxL (l.take (k+1).toNat)=eH (mxL (l.take k.toNat)) l[k.toNat]!:=by
 rw[oE (by omega),qP3 _ _ (qCE h)]
theorem HR {l:List Int} (h:1<=l.length):l.take (1:Int).toNat= [l[0]!]:=by
 cases l with
 |nil=>simp at h
 |cons x l=>rfl
theorem ZR (s:ByteArray) (n w:Int):∀i:Nat,(bN s n w).1[i]! <18446744073709551616:=by
 intro i
 have nil:∀l:List Int,l= []->l[i]! <18446744073709551616:=fun l h=>by subst h;show(0:Int)<_;decide
 unfold bN
 split
 · exact nil _ rfl
 rename_i hp
 have hp:=(eS n w).1 (Decidable.not_not.1 hp)
 split
 · exact nil _ rfl
 split
 · exact nil _ rfl
 split
 · exact nil _ rfl
 · by_cases h:i<n.toNat
   · rw[XZ h]
     have h1:=(qA1 (vZ s) (n*w).toNat w.toNat i w.toNat).2
     have h2:(2:Int)^w.toNat<=18446744073709551616:=by
      have:=Nat.pow_le_pow_right (show 0<2 by decide) (show w.toNat<=64 by omega)
      rw[<-fE];omega
     omega
   · rw[getElem!_neg _ i (by rw[mB];exact h)];show(0:Int)<_;decide
theorem WG (s:ByteArray) (n w:Int) (i:Nat):0<=(bN s n w).1[i]! /\(bN s n w).1[i]! <18446744073709551616:=⟨pD s n w i,ZR s n w i⟩
theorem qK8:∀ {l:List Int} {x:Int},l.foldl eH x=x\/l.foldl eH x∈l
 | [],x=>.inl rfl
 |y::l,x=>by
  rcases qK8 (l:=l) (x:=eH x y)with q|q
  · rw[List.foldl_cons,q];unfold eH;split
    · right;simp
    · left;rfl
  · right;rw[List.foldl_cons];simp [q]
theorem qP4 {l:List Int} (h:∀i:Nat,0<=l[i]! /\l[i]! <18446744073709551616):0<=mxL l/\mxL l<18446744073709551616:=by
 have hm:∀x,x∈l->0<=x/\x<18446744073709551616:=fun x hx=>by
  obtain⟨i,hi,rfl⟩:=List.mem_iff_getElem.1 hx
  have:=h i
  rwa [getElem!_pos l i hi]at this
 cases l with
 |nil=>exact⟨Int.le_refl _,by show(0:Int)<_;decide⟩
 |cons x l=>
  show 0<=List.foldl eH x l/\List.foldl eH x l<18446744073709551616
  rcases qK8 (l:=l) (x:=x)with q|q
  · rw[q];exact hm x (by simp)
  · exact hm _ (by simp [q])
def dW (s:ByteArray) (a:Int):Int:=aG s (aA s a).2.1.toNat
def dE (s:ByteArray) (a k:Int):Int:=(aA s a).2.1+1+dM k (dW s a)
def dU (s:ByteArray) (a k:Int):List Int×Int:=bN (s.extract ((aA s a).2.1+1).toNat (dE s a k).toNat) k (dW s a)
def dL (s:ByteArray) (a:Int):Int:=pR (aA s a).1
def dDs (s:ByteArray) (a k:Int):List Int:=(dU s a k).1.map fun v=>IntKind.i64.wrap (dL s a+v)
def dOk (s:ByteArray) (a k:Int):Bool:=decide ((dU s a k).2=0)&&decide (mnL (dU s a k).1=0)&&decide (nT (mxL (dU s a k).1)=dW s a)&&decide (mnL (dDs s a k)=dL s a)
def iR (s:ByteArray) (a k:Int):List Int×Int×Int:=
 if(aA s a).2.2≠0 then([],0,(aA s a).2.2)else if(aA s a).2.1=s.size then([],0,10)else if dW s a>64 then([],0,2)
 else if dE s a k>s.size then([],0,10)else if dOk s a k=false then([],0,2)else(dDs s a k,dE s a k,0)
theorem qH1 (x v:Int):IntKind.i64.wrap (x+IntKind.i64.wrap v)=IntKind.i64.wrap (x+v):=by simp [IntKind.wrap,IntKind.bits,IntKind.signed];omega
theorem XD (s:ByteArray) (a:Int):0<=dW s a/\dW s a<256:=bO _ _
theorem qS7 {s:ByteArray} {a k:Int} (h:(dU s a k).2=0):(dU s a k).1.length=k.toNat:=iI h
theorem OE (s:ByteArray) (a k:Int):dOk s a k=true↔(dU s a k).2=0/\mnL (dU s a k).1=0/\nT (mxL (dU s a k).1)=dW s a/\mnL (dDs s a k)=dL s a:=by simp [dOk,and_assoc]
theorem qJL {s:ByteArray} {a k:Int} (h:¬((dU s a k).2=0/\mnL (dU s a k).1=0/\nT (mxL (dU s a k).1)=dW s a/\mnL (dDs s a k)=dL s a)):dOk s a k=false:=by
 rw[Bool.eq_false_iff];exact fun q=>h ((OE s a k).1 q)
theorem qPT {l:List Int} {f:Int->Int} {k:Int} (h:0<=k/\k<l.length):(l.take (k+1).toNat).map f=(l.take k.toNat).map f++ [f l[k.toNat]!]:=by
 rw[oE h];simp
theorem uB (k w:Int):0<=dM k w/\dM k w<=32768:=by
 unfold dM
 split
 · rename_i h
   have h1:=(eS k w).1 h
   have h2:=qBJ h1
   rw[Int.tdiv_eq_ediv_of_nonneg (by omega)];omega
 · omega
abbrev EP:Ct:=.fn [.list (.int .i64)] (some (fun(l:List Int)=>(1<=l.length/\l.length<=1073741824))) (fun(l:List Int)=>.d (.int .i64) (mnL l))
theorem qK5:aH Tryz.prog 201 EP:=by
 refine aH.fn qDE mixed [] [] rfl rfl ?_
 rintro⟨(l:List Int),_⟩ hpre
 replace hpre:=hpre _ rfl
 dsimp only[cu]at hpre
 have hl:=hpre
 refine⟨[(0,10,LA.mk [.sl 4 (.int .i64),.sl 3 (.int .i64)] (fun y=>Tag 29/\cu [.int .i64,.int .i64] (fun(i:Int) (m:Int)=>(1<=i/\i<=l.length)/\(m=mnL (l.take i.toNat))) y) (cu [.int .i64,.int .i64] (fun(i:Int) (m:Int)=>((l.length:Int)-i).toNat)) (cu [.int .i64,.int .i64] (fun(i:Int) (m:Int)=>([]:List (Nat×Nat×LA)))))],?_⟩
 repeat' (first
  |(
 with_reducible refine Side.mk ⟨(⟨⟩:Tag 29),?_⟩
 dsimp only[cu,aC,aB,gts,Prod.eta,List.nil_append]
 refine⟨?_,?_⟩
 · omega
 · first
   |(rw[HR (by omega)];rfl)
   |(
  (try simp only[lL])
  rw[hm,qBF (by omega)]))
  |(
 with_reducible refine Side.mk ?_
 (try dsimp only[cu,aC,aB,gts,loK,hiK,Prod.eta,List.nil_append])
 omega)
  |(conv=>whnf
    first
     |done
     |exact trivial
     |with_reducible refine NilBr.mk (fun h=>?_) ?_
     |with_reducible first|refine aJ ?_ ?_|refine aI ?_ ?_|refine aK (by kernel_rfl) ?_|refine aL ?_|refine bD ?_ ?_|refine bC ?_ ?_|refine aR ?_ ?_
     |((with_reducible first|refine aT (fun h=>?_) (fun h=>?_)|refine aS (fun h=>?_) (fun h=>?_)|refine bA (fun h=>?_) (fun h=>?_))<;>(try dsimp only[cu,Prod.eta,List.nil_append]at h)<;>(try(exfalso;omega;done)))
     |(
 intro yy (hy:Tag 29/\_)
 obtain⟨(i:Int),(m:Int),_⟩:=yy
 replace hy:=hy.2
 dsimp only[cu,aC,aB,gts,Prod.eta,List.nil_append]at hy
 obtain⟨hi,hm⟩:=hy)))
 all_goals(
 with_reducible refine Leaf.mk ?_
 (try dsimp only[cu,aC,aB,gts,Prod.eta,List.nil_append]at *)
 rw[hm,List.take_of_length_le (by omega)])
abbrev qW7:Tbl:=(201,EP)::qW6
theorem qDF:aD Tryz.prog qW7:=aD.cons qK5 qDE
abbrev JT:Ct:=.fn [.list (.int .u64)] (some (fun(l:List Int)=>(1<=l.length/\l.length<=1073741824))) (fun(l:List Int)=>.d (.int .u64) (mnL l))
theorem qPY:aH Tryz.prog 227 JT:=by
 refine aH.fn qDF mixed [] [] rfl rfl ?_
 rintro⟨(l:List Int),_⟩ hpre
 replace hpre:=hpre _ rfl
 dsimp only[cu]at hpre
 have hl:=hpre
 refine⟨[(0,10,LA.mk [.sl 4 (.int .i64),.sl 3 (.int .u64)] (fun y=>Tag 30/\cu [.int .i64,.int .u64] (fun(i:Int) (m:Int)=>(1<=i/\i<=l.length)/\(m=mnL (l.take i.toNat))) y) (cu [.int .i64,.int .u64] (fun(i:Int) (m:Int)=>((l.length:Int)-i).toNat)) (cu [.int .i64,.int .u64] (fun(i:Int) (m:Int)=>([]:List (Nat×Nat×LA)))))],?_⟩
 repeat' (first
  |(
 with_reducible refine Side.mk ⟨(⟨⟩:Tag 30),?_⟩
 dsimp only[cu,aC,aB,gts,Prod.eta,List.nil_append]
 refine⟨?_,?_⟩
 · omega
 · first
   |(rw[HR (by omega)];rfl)
   |(
  (try simp only[lL])
  rw[hm,qBF (by omega)]))
  |(
 with_reducible refine Side.mk ?_
 (try dsimp only[cu,aC,aB,gts,loK,hiK,Prod.eta,List.nil_append])
 omega)
  |(conv=>whnf
    first
     |done
     |exact trivial
     |with_reducible refine NilBr.mk (fun h=>?_) ?_
     |with_reducible first|refine aJ ?_ ?_|refine aI ?_ ?_|refine aK (by kernel_rfl) ?_|refine aL ?_|refine bD ?_ ?_|refine bC ?_ ?_|refine aR ?_ ?_
     |((with_reducible first|refine aT (fun h=>?_) (fun h=>?_)|refine aS (fun h=>?_) (fun h=>?_)|refine bA (fun h=>?_) (fun h=>?_))<;>(try dsimp only[cu,Prod.eta,List.nil_append]at h)<;>(try(exfalso;omega;done)))
     |(
 intro yy (hy:Tag 30/\_)
 obtain⟨(i:Int),(m:Int),_⟩:=yy
 replace hy:=hy.2
 dsimp only[cu,aC,aB,gts,Prod.eta,List.nil_append]at hy
 obtain⟨hi,hm⟩:=hy)))
 all_goals(
 with_reducible refine Leaf.mk ?_
 (try dsimp only[cu,aC,aB,gts,Prod.eta,List.nil_append]at *)
 rw[hm,List.take_of_length_le (by omega)])
abbrev qW8:Tbl:=(227,JT)::qW7
theorem qDG:aD Tryz.prog qW8:=aD.cons qPY qDF
abbrev JQ:Ct:=.fn [.list (.int .u64)] (some (fun(l:List Int)=>(1<=l.length/\l.length<=1073741824))) (fun(l:List Int)=>.d (.int .u64) (mxL l))
theorem qPU:aH Tryz.prog 228 JQ:=by
 refine aH.fn qDG mixed [] [] rfl rfl ?_
 rintro⟨(l:List Int),_⟩ hpre
 replace hpre:=hpre _ rfl
 dsimp only[cu]at hpre
 have hl:=hpre
 refine⟨[(0,10,LA.mk [.sl 4 (.int .i64),.sl 3 (.int .u64)] (fun y=>Tag 31/\cu [.int .i64,.int .u64] (fun(i:Int) (m:Int)=>(1<=i/\i<=l.length)/\(m=mxL (l.take i.toNat))) y) (cu [.int .i64,.int .u64] (fun(i:Int) (m:Int)=>((l.length:Int)-i).toNat)) (cu [.int .i64,.int .u64] (fun(i:Int) (m:Int)=>([]:List (Nat×Nat×LA)))))],?_⟩
 repeat' (first
  |(
 with_reducible refine Side.mk ⟨(⟨⟩:Tag 31),?_⟩
 dsimp only[cu,aC,aB,gts,Prod.eta,List.nil_append]
 refine⟨?_,?_⟩
 · omega
 · first
   |(rw[HR (by omega)];rfl)
   |(
  (try simp only[lL])
  rw[hm,qP5 (by omega)]))
  |(
 with_reducible refine Side.mk ?_
 (try dsimp only[cu,aC,aB,gts,loK,hiK,Prod.eta,List.nil_append])
 omega)
  |(conv=>whnf
    first
     |done
     |exact trivial
     |with_reducible refine NilBr.mk (fun h=>?_) ?_
     |with_reducible first|refine aJ ?_ ?_|refine aI ?_ ?_|refine aK (by kernel_rfl) ?_|refine aL ?_|refine bD ?_ ?_|refine bC ?_ ?_|refine aR ?_ ?_
     |((with_reducible first|refine aT (fun h=>?_) (fun h=>?_)|refine aS (fun h=>?_) (fun h=>?_)|refine bA (fun h=>?_) (fun h=>?_))<;>(try dsimp only[cu,Prod.eta,List.nil_append]at h)<;>(try(exfalso;omega;done)))
     |(
 intro yy (hy:Tag 31/\_)
 obtain⟨(i:Int),(m:Int),_⟩:=yy
 replace hy:=hy.2
 dsimp only[cu,aC,aB,gts,Prod.eta,List.nil_append]at hy
 obtain⟨hi,hm⟩:=hy)))
 all_goals(
 with_reducible refine Leaf.mk ?_
 (try dsimp only[cu,aC,aB,gts,Prod.eta,List.nil_append]at *)
 rw[hm,List.take_of_length_le (by omega)])
abbrev qW9:Tbl:=(228,JQ)::qW8
theorem qDH:aD Tryz.prog qW9:=aD.cons qPU qDG
abbrev KA:Ct:=.fn [.str,.int .i64,.int .i64] (some (fun(s:ByteArray) (a:Int) (k:Int)=>(s.size<=288230376151711744)/\(1<=k/\k<=32))) (fun(s:ByteArray) (a:Int) (k:Int)=>.tup [.list (.int .i64),.int .i64,.int .i64] ((iR s a k).1,(iR s a k).2.1,(iR s a k).2.2,()))
theorem qQF:aH Tryz.prog 213 KA:=by
 refine aH.fn qDH mixed [(0,20,3),(0,20,4)] [] rfl rfl ?_
 rintro⟨(s:ByteArray),(a:Int),(k:Int),_⟩ hpre
 replace hpre:=hpre _ rfl
 dsimp only[cu]at hpre
 obtain⟨hs,hk⟩:=hpre
 refine⟨[(0,36,LA.mk [.sl 77 (.int .i64),.lst 15 (.int .i64) 2] (fun y=>Tag 32/\cu [.int .i64,.list (.int .i64)] (fun(i:Int) (D:List Int)=>(0<=i/\i<=(bN (s.extract ((aA s a).2.1+1).toNat ((aA s a).2.1+1+dM k (aG s (aA s a).2.1.toNat)).toNat) k (aG s (aA s a).2.1.toNat)).1.length)/\(D=((bN (s.extract ((aA s a).2.1+1).toNat ((aA s a).2.1+1+dM k (aG s (aA s a).2.1.toNat)).toNat) k (aG s (aA s a).2.1.toNat)).1.take i.toNat).map (fun v=>IntKind.i64.wrap (pR (aA s a).1+v)))) y) (cu [.int .i64,.list (.int .i64)] (fun(i:Int) (D:List Int)=>((bN (s.extract ((aA s a).2.1+1).toNat ((aA s a).2.1+1+dM k (aG s (aA s a).2.1.toNat)).toNat) k (aG s (aA s a).2.1.toNat)).1.length-i).toNat)) (cu [.int .i64,.list (.int .i64)] (fun(i:Int) (D:List Int)=>([]:List (Nat×Nat×LA)))))],?_⟩
 repeat' (first
  |(
 with_reducible refine Side.mk ⟨(⟨⟩:Tag 32),?_⟩
 dsimp only[cu,aC,aB,gts,Prod.eta,List.nil_append]
 refine⟨?_,?_⟩
 · omega
 · first
   |(rfl)
   |(
  (try simp only[lL])
  rw[hD,qPT (by omega),qH1]))
  |(
 with_reducible refine Side.mk ?_
 (try dsimp only[cu,aC,aB,gts,loK,hiK,Prod.eta,List.nil_append])
 first
 |(done)
 |(omega)
 |(exact Eq.refl _)
 |(
  have hg:=aY s a
  have hw:=XD s a
  have hn:=uB k (aG s (aA s a).2.1.toNat)
  have hg0:(aA s a).2.2=0:=by assumption
  have hok:=bP hg0
  first
  |(omega)
  |(
   have eW:dW s a=aG s (aA s a).2.1.toNat:=rfl
   have eE:dE s a k=(aA s a).2.1+1+dM k (aG s (aA s a).2.1.toNat):=rfl
   have eU:dU s a k=bN (s.extract ((aA s a).2.1+1).toNat ((aA s a).2.1+1+dM k (aG s (aA s a).2.1.toNat)).toNat) k (aG s (aA s a).2.1.toNat):=rfl
   omega))
 |(exact qP4 (WG _ _ _))
 |(
  have hu0:(bN (s.extract ((aA s a).2.1+1).toNat ((aA s a).2.1+1+dM k (aG s (aA s a).2.1.toNat)).toNat) k (aG s (aA s a).2.1.toNat)).2=0:=by with_reducible assumption
  have hul:=iI hu0
  omega)
 |(
  have hDl:=congrArg List.length hD
  rw[List.length_map,List.length_take]at hDl
  have hu0:(bN (s.extract ((aA s a).2.1+1).toNat ((aA s a).2.1+1+dM k (aG s (aA s a).2.1.toNat)).toNat) k (aG s (aA s a).2.1.toNat)).2=0:=by with_reducible assumption
  have hul:=iI hu0
  (try simp only[List.length_cons,List.length_nil])
  omega)
 |(
  have hg:=aY s a
  have hw:=XD s a
  have hn:=uB k (aG s (aA s a).2.1.toNat)
  have hg0:(aA s a).2.2=0:=by assumption
  have hok:=bP hg0
  have eW:dW s a=aG s (aA s a).2.1.toNat:=rfl
  have eE:dE s a k=(aA s a).2.1+1+dM k (aG s (aA s a).2.1.toNat):=rfl
  have eU:dU s a k=bN (s.extract ((aA s a).2.1+1).toNat ((aA s a).2.1+1+dM k (aG s (aA s a).2.1.toNat)).toNat) k (aG s (aA s a).2.1.toNat):=rfl
  simp only[ByteArray.size_extract]
  omega))
  |(conv=>whnf
    first
     |done
     |exact trivial
     |with_reducible refine NilBr.mk (fun h=>?_) ?_
     |with_reducible first|refine aJ ?_ ?_|refine aI ?_ ?_|refine aK (by kernel_rfl) ?_|refine aL ?_|refine bD ?_ ?_|refine bC ?_ ?_|refine aR ?_ ?_
     |((with_reducible first|refine aT (fun h=>?_) (fun h=>?_)|refine aS (fun h=>?_) (fun h=>?_)|refine bA (fun h=>?_) (fun h=>?_))<;>(try dsimp only[cu,Prod.eta,List.nil_append]at h)<;>(try(exfalso;omega;done)))
     |(
 intro yy (hy:Tag 32/\_)
 obtain⟨(i:Int),(D:List Int),_⟩:=yy
 replace hy:=hy.2
 dsimp only[cu,aC,aB,gts,Prod.eta,List.nil_append]at hy
 obtain⟨hi,hD⟩:=hy)))
 all_goals(
 with_reducible refine Leaf.mk ?_
 (try dsimp only[cu,aC,aB,gts,Prod.eta,List.nil_append]at *)
 first
 |(
  have e1:(aA s a).2.2≠0:=by assumption
  rw[iR,if_pos e1])
 |(
  have hg:=aY s a
  have hw:=XD s a
  have hn:=uB k (aG s (aA s a).2.1.toNat)
  have hg0:(aA s a).2.2=0:=by assumption
  have hok:=bP hg0
  first
  |(
   have e1:¬(aA s a).2.2≠0:=fun q=>q (by assumption)
   have e2:(aA s a).2.1=s.size:=by omega
   rw[iR,if_neg e1,if_pos e2])
  |(
   have eW:dW s a=aG s (aA s a).2.1.toNat:=rfl
   have eE:dE s a k=(aA s a).2.1+1+dM k (aG s (aA s a).2.1.toNat):=rfl
   have eU:dU s a k=bN (s.extract ((aA s a).2.1+1).toNat ((aA s a).2.1+1+dM k (aG s (aA s a).2.1.toNat)).toNat) k (aG s (aA s a).2.1.toNat):=rfl
   have e1:¬(aA s a).2.2≠0:=fun q=>q (by assumption)
   have e2:¬(aA s a).2.1=s.size:=by omega
   first
   |(
    have e3:dW s a>64:=by omega
    rw[iR,if_neg e1,if_neg e2,if_pos e3])
   |(
    have e3:¬dW s a>64:=by omega
    first
    |(
     have e4:dE s a k>s.size:=by omega
     rw[iR,if_neg e1,if_neg e2,if_neg e3,if_pos e4])
    |(
     have e4:¬dE s a k>s.size:=by omega
     first
     |(
      have e5:dOk s a k=false:=by
       refine qJL (fun q=>?_)
       obtain⟨q1,q2,q3,q4⟩:=q
       rw[eU]at q1 q2 q3
       first|(simp_all;done)|omega
      rw[iR,if_neg e1,if_neg e2,if_neg e3,if_neg e4,if_pos e5])
     |(
      have hDD:D=dDs s a k:=by rw[hD,List.take_of_length_le (by omega)];rfl
      first
      |(
       have e5:dOk s a k=false:=by
        refine qJL (fun q=>?_)
        obtain⟨q1,q2,q3,q4⟩:=q
        rw[<-hDD]at q4
        first|contradiction|(exact absurd q4 (by assumption))
       rw[iR,if_neg e1,if_neg e2,if_neg e3,if_neg e4,if_pos e5])
      |(
       have e5:¬dOk s a k=false:=by
        rw[Bool.eq_false_iff]
        intro q
        apply q
        rw[OE,<-hDD,eU,eW]
        first|(exact⟨by assumption,by assumption,by assumption,by assumption⟩)|(simp_all;done)
       rw[iR,if_neg e1,if_neg e2,if_neg e3,if_neg e4,if_neg e5]
       (try rw[hDD])
       (try rfl))))))))
abbrev qXA:Tbl:=(213,KA)::qW9
theorem qDI:aD Tryz.prog qXA:=aD.cons qQF qDH
def mM (M:List Int):Int:=M[M.length-1]!
def wD:Int->List Int->List Int
 |_,[]=>[]
 |x,d::r=>IntKind.i64.wrap (x+d)::wD (IntKind.i64.wrap (x+d)) r
theorem oD:∀(ds:List Int) (x:Int),(wD x ds).length=ds.length
 | [],_=>rfl
 |d::r,x=>by simp [wD,oD r]
theorem qGN (M:List Int) (w:Int):mM (M++ [w])=w:=by
 unfold mM
 rw[getElem!_pos _ _ (by simp)]
 simp
theorem UO:∀(ds M:List Int) (d:Int),M++wD (mM M) (ds++ [d])=(M++wD (mM M) ds)++ [IntKind.i64.wrap (mM (M++wD (mM M) ds)+d)]
 | [],M,d=>by simp [wD]
 |e::r,M,d=>by
  have h:=UO r (M++ [IntKind.i64.wrap (mM M+e)]) d
  rw[qGN]at h
  simp only[List.cons_append,wD]
  simpa using h
theorem qMY {M B:List Int} {i:Int} (h:0<=i/\i<B.length):M++wD (mM M) (B.take (i+1).toNat)=(M++wD (mM M) (B.take i.toNat))++ [IntKind.i64.wrap (mM (M++wD (mM M) (B.take i.toNat))+B[i.toNat]!)]:=by
 rw[oE h,UO]
theorem AA {n:Int} {M:List Int} (h:(M.length:Int)<n):1<=bS 32 (n-(M.length:Int))/\bS 32 (n-(M.length:Int))<=32/\M.length+bS 32 (n-(M.length:Int))<=n:=by unfold bS;split<;>omega
theorem tS {s:ByteArray} {a k:Int} (h:(iR s a k).2.2=0):(iR s a k).1.length=k.toNat/\0<=(iR s a k).2.1/\(iR s a k).2.1<=s.size:=by
 unfold iR at h ⊢
 split at h
 · exact absurd h (by assumption)
 · rename_i h1
   rw[if_neg h1]
   split at h
   · exact absurd h (by decide)
   · rename_i h2
     rw[if_neg h2]
     split at h
     · exact absurd h (by decide)
     · rename_i h3
       rw[if_neg h3]
       split at h
       · exact absurd h (by decide)
       · rename_i h4
         rw[if_neg h4]
         split at h
         · exact absurd h (by decide)
         · rename_i h5
           rw[if_neg h5]
           have h6:=(OE s a k).1 (by simpa using h5)
           have h7:=qS7 h6.1
           have h8:=bP (Decidable.not_not.1 h1)
           have h9:=uB k (dW s a)
           have h10:dE s a k=(aA s a).2.1+1+dM k (dW s a):=rfl
           refine⟨by simp [dDs,h7],?_,?_⟩
           · show 0<=dE s a k;omega
           · show dE s a k<=s.size;omega
def dd (s:ByteArray) (n a:Int) (M:List Int):List Int×Int:=
 if h:(M.length:Int)<n then
  if h2:(iR s a (bS 32 (n-(M.length:Int)))).2.2=0 then dd s n (iR s a (bS 32 (n-(M.length:Int)))).2.1 (M++wD (mM M) (iR s a (bS 32 (n-(M.length:Int)))).1)
  else([],(iR s a (bS 32 (n-(M.length:Int)))).2.2)
 else if a<s.size then([],2)else(M,0)
termination_by (n-M.length).toNat
decreasing_by
 have:=AA h
 have:=(tS h2).1
 simp only[List.length_append,oD]
 omega
def cI (s:ByteArray) (n:Int):List Int×Int:=
 if n<0\/n>4096 then([],4)else if n=0 then(if s=⟨#[]⟩then([],0)else([],2))
 else if(aA s 0).2.2≠0 then([],(aA s 0).2.2)else dd s n (aA s 0).2.1 [pR (aA s 0).1]
theorem qS8 {s:ByteArray} {n a:Int} {M:List Int} (h:(M.length:Int)<n) (h2:¬(iR s a (bS 32 (n-(M.length:Int)))).2.2=0):dd s n a M=([],(iR s a (bS 32 (n-(M.length:Int)))).2.2):=by rw[dd,dif_pos h,dif_neg h2]
theorem qOK {s:ByteArray} {n a:Int} {M:List Int} (h:(M.length:Int)<n) (h2:(iR s a (bS 32 (n-(M.length:Int)))).2.2=0):dd s n a M=dd s n (iR s a (bS 32 (n-(M.length:Int)))).2.1 (M++wD (mM M) (iR s a (bS 32 (n-(M.length:Int)))).1):=by rw[dd,dif_pos h,dif_pos h2]
theorem qJT {s:ByteArray} {n a:Int} {M:List Int} (h:¬(M.length:Int)<n):dd s n a M=if a<s.size then([],2)else(M,0):=by rw[dd,dif_neg h]
theorem qPQ {Q:List Int} (h:0<Q.length):Q[((Q.length:Int)-1).toNat]! =mM Q:=by
 unfold mM;rw[show((Q.length:Int)-1).toNat=Q.length-1 by omega]
abbrev JE:Ct:=.fn [.str,.int .i64] (some (fun(s:ByteArray) (n:Int)=>(s.size<=288230376151711744))) (fun(s:ByteArray) (n:Int)=>.tup [.list (.int .i64),.int .i64] ((cI s n).1,(cI s n).2,()))
theorem qOL:aH Tryz.prog 191 JE:=by
 refine aH.fn qDI mixed [(0,10,3500009),(0,11,3500009),(0,13,3500009),(0,19,8)] [] rfl rfl ?_
 rintro⟨(s:ByteArray),(n:Int),_⟩ hpre
 replace hpre:=hpre _ rfl
 dsimp only[cu]at hpre
 have hs:=hpre
 refine⟨[(0,22,LA.mk [.sl 7 (.int .i64),.nls 9 (.int .i64) 2] (fun y=>Tag 33/\cu [.int .i64,.list (.int .i64)] (fun(a:Int) (M:List Int)=>(dd s n (aA s 0).2.1 [pR (aA s 0).1]=dd s n a M)/\(1<=M.length/\(M.length:Int)<=n)) y) (cu [.int .i64,.list (.int .i64)] (fun(a:Int) (M:List Int)=>(n-(M.length:Int)).toNat)) (cu [.int .i64,.list (.int .i64)] (fun(a:Int) (M:List Int)=>([(0,34,LA.mk [.sl 63 (.int .i64),.nls 9 (.int .i64) 2] (fun y=>Tag 34/\cu [.int .i64,.list (.int .i64)] (fun(i:Int) (Q:List Int)=>(0<=i/\i<=(iR s a (bS 32 (n-(M.length:Int)))).1.length)/\(Q=M++wD (mM M) ((iR s a (bS 32 (n-(M.length:Int)))).1.take i.toNat))) y) (cu [.int .i64,.list (.int .i64)] (fun(i:Int) (Q:List Int)=>(((iR s a (bS 32 (n-(M.length:Int)))).1.length:Int)-i).toNat)) (cu [.int .i64,.list (.int .i64)] (fun(i:Int) (Q:List Int)=>([]:List (Nat×Nat×LA)))))]:List (Nat×Nat×LA)))))],?_⟩
 repeat' (first
  |(
 with_reducible refine Side.mk ⟨(⟨⟩:Tag 33),?_⟩
 dsimp only[cu,aC,aB,gts,Prod.eta,List.nil_append]
 refine⟨?_,?_⟩
 · first
   |(rfl)
   |(
  have hk:=AA (n:=n) (M:=M) (by omega)
  have hb0:(iR s a (bS 32 (n-(M.length:Int)))).2.2=0:=by assumption
  have hbk:=tS hb0
  have hi2:i.toNat=(iR s a (bS 32 (n-(M.length:Int)))).1.length:=by omega
  rw[hi2,List.take_length]at hQ
  rw[hM,qOK (by omega) hb0,<-hQ])
 · first
   |(simp;omega)
   |(
  have hk:=AA (n:=n) (M:=M) (by omega)
  have hb0:(iR s a (bS 32 (n-(M.length:Int)))).2.2=0:=by assumption
  have hbk:=tS hb0
  have hQl:=congrArg List.length hQ
  simp only[List.length_append,oD,List.length_take]at hQl
  omega))
  |(
 with_reducible refine Side.mk ⟨(⟨⟩:Tag 34),?_⟩
 dsimp only[cu,aC,aB,gts,Prod.eta,List.nil_append]
 refine⟨?_,?_⟩
 · omega
 · first
   |(simp [wD];done)
   |(
  have hk:=AA (n:=n) (M:=M) (by omega)
  have hb0:(iR s a (bS 32 (n-(M.length:Int)))).2.2=0:=by assumption
  have hbk:=tS hb0
  have hQl:=congrArg List.length hQ
  simp only[List.length_append,oD,List.length_take]at hQl
  rw[qMY (by omega),<-hQ,qPQ (by omega)]))
  |(
 with_reducible refine Side.mk ?_
 (try dsimp only[cu,aC,aB,gts,loK,hiK,Prod.eta,List.nil_append])
 first
 |(done)
 |(omega)
 |(exact Eq.refl _)
 |(exact aY _ _)
 |(
  have hk:=AA (n:=n) (M:=M) (by omega)
  first
  |(exact⟨hs,by omega⟩)
  |(
   have hb0:(iR s a (bS 32 (n-(M.length:Int)))).2.2=0:=by assumption
   have hbk:=tS hb0
   have hQl:=congrArg List.length hQ
   simp only[List.length_append,oD,List.length_take]at hQl
   first
   |(omega)
   |(
    (try simp only[List.length_cons,List.length_nil])
    omega))))
  |(conv=>whnf
    first
     |done
     |exact trivial
     |with_reducible refine NilBr.mk (fun h=>?_) ?_
     |with_reducible first|refine aJ ?_ ?_|refine aI ?_ ?_|refine aK (by kernel_rfl) ?_|refine aL ?_|refine bD ?_ ?_|refine bC ?_ ?_|refine aR ?_ ?_
     |((with_reducible first|refine aT (fun h=>?_) (fun h=>?_)|refine aS (fun h=>?_) (fun h=>?_)|refine bA (fun h=>?_) (fun h=>?_))<;>(try dsimp only[cu,Prod.eta,List.nil_append]at h)<;>(try(exfalso;omega;done)))
     |(
 intro yy (hy:Tag 33/\_)
 obtain⟨(a:Int),(M:List Int),_⟩:=yy
 replace hy:=hy.2
 dsimp only[cu,aC,aB,gts,Prod.eta,List.nil_append]at hy
 obtain⟨hM,hl⟩:=hy)
     |(
 intro yy (hy:Tag 34/\_)
 obtain⟨(i:Int),(Q:List Int),_⟩:=yy
 replace hy:=hy.2
 dsimp only[cu,aC,aB,gts,Prod.eta,List.nil_append]at hy
 obtain⟨hi,hQ⟩:=hy)))
 all_goals(
 with_reducible refine Leaf.mk ?_
 (try dsimp only[cu,aC,aB,gts,Prod.eta,List.nil_append]at *)
 first
 |(
  have q1:n<0\/n>4096:=by omega
  rw[cI,if_pos q1])
 |(
  have q1:¬(n<0\/n>4096):=by omega
  first
  |(
   have q2:n=0:=by first|assumption|omega
   first
   |(
    have q3:¬s=⟨#[]⟩:=by first|assumption|(simp_all;done)
    rw[cI,if_neg q1,if_pos q2,if_neg q3])
   |(
    have q3:s=⟨#[]⟩:=by first|assumption|(simp_all;done)
    rw[cI,if_neg q1,if_pos q2,if_pos q3]))
  |(
   have q2:¬n=0:=by omega
   first
   |(
    have q3:(aA s 0).2.2≠0:=by assumption
    rw[cI,if_neg q1,if_neg q2,if_pos q3])
   |(
    have q3:¬(aA s 0).2.2≠0:=fun q=>q (by assumption)
    first
    |(
     have hb:¬(iR s a (bS 32 (n-(M.length:Int)))).2.2=0:=by assumption
     rw[cI,if_neg q1,if_neg q2,if_neg q3,hM,qS8 (by omega) hb]
     (try rfl))
    |(
     have ha:a<s.size:=by omega
     rw[cI,if_neg q1,if_neg q2,if_neg q3,hM,qJT (by omega),if_pos ha])
    |(
     have ha:¬a<s.size:=by omega
     rw[cI,if_neg q1,if_neg q2,if_neg q3,hM,qJT (by omega),if_neg ha])))))
abbrev qXB:Tbl:=(191,JE)::qXA
theorem qDJ:aD Tryz.prog qXB:=aD.cons qOL qDI
theorem fmin:∀(l:List Int) (x:Int),l.foldl bS x<=x/\(∀y,y∈l->l.foldl bS x<=y)/\(l.foldl bS x=x\/l.foldl bS x∈l)
 | [],x=>⟨Int.le_refl _,by simp,.inl rfl⟩
 |z::l,x=>by
  obtain⟨h1,h2,h3⟩:=fmin l (bS x z)
  have h4:bS x z<=x/\bS x z<=z/\(bS x z=x\/bS x z=z):=by unfold bS;split<;>omega
  refine⟨by rw[List.foldl_cons];omega,fun y hy=>?_,?_⟩
  · rw[List.foldl_cons]
    rcases List.mem_cons.1 hy with q|q
    · subst q;omega
    · exact h2 y q
  · rw[List.foldl_cons]
    rcases h3 with q|q
    · rcases h4.2.2 with p|p
      · left;rw[q,p]
      · right;rw[q,p];simp
    · right;simp [q]
theorem qP0 {l:List Int} (h:l≠ []):mnL l∈l:=by
 cases l with
 |nil=>exact absurd rfl h
 |cons x l=>
  obtain⟨h1,h2,h3⟩:=fmin l x
  show List.foldl bS x l∈_
  rcases h3 with q|q
  · rw[q];simp
  · simp [q]
def mwL (U:List Int):Int:=U.foldl (fun w v=>eH w (nT v)) 0
theorem vV {b:Bool} (h:(!b)=false):b=true:=by cases b<;>simp_all
def four (v:Int):List Int:=[IntKind.u8.wrap v,IntKind.u8.wrap (iF .u32 v 8),IntKind.u8.wrap (iF .u32 v 16),IntKind.u8.wrap (iF .u32 v 24)]
def bH (s:ByteArray):ByteArray:=s++aV (four (gO s))
theorem dO (v:Int):(aV (put v)).size<=10/\1<=(aV (put v)).size:=by rw[cP];exact bM v
theorem pY (v:Int):(aV (four v)).size=4:=rfl
def cB (s:ByteArray) (i:Int):Int:=bOr .u32 (bOr .u32 (bOr .u32 (aG s i.toNat) (nB .u32 (aG s (i+1).toNat) 8)) (nB .u32 (aG s (i+2).toNat) 16)) (nB .u32 (aG s (i+3).toNat) 24)
theorem GV {a b:Int} {n:Nat} (hn:n<=32) (ha:0<=a/\a<2^n) (hb:0<=b) (h:a+b*2^n<4294967296):bOr .u32 a (nB .u32 b n)=a+b*2^n:=by
 have h0:0<=b*2^n:=Int.mul_nonneg hb (Int.le_of_lt (Int.pow_pos (by decide)))
 rw[qV3 hn ⟨h0,by omega⟩,qU6 (by omega) (by omega)]
 have e:(b*2^n).toNat=b.toNat*2^n:=by
  obtain⟨m,rfl⟩:=Int.eq_ofNat_of_zero_le hb
  have:((m:Int)*2^n)=((m*2^n:Nat):Int):=by push_cast;rfl
  rw[this];rfl
 have ha':a.toNat<2^n:=by
  have:((2^n:Nat):Int)=2^n:=by push_cast;rfl
  omega
 rw[e,qLJ _ _ _ ha']
 have:((b.toNat*2^n:Nat):Int)=b*2^n:=by push_cast;rw[Int.toNat_of_nonneg hb]
 omega
theorem qE2 {a b c d:Int} (ha:0<=a/\a<256) (hb:0<=b/\b<256) (hc:0<=c/\c<256) (hd:0<=d/\d<256) :
  bOr .u32 (bOr .u32 (bOr .u32 a (nB .u32 b 8)) (nB .u32 c 16)) (nB .u32 d 24)=a+b*256+c*65536+d*16777216:=by
 have p1:(2:Int)^8=256:=by decide
 have p2:(2:Int)^16=65536:=by decide
 have p3:(2:Int)^24=16777216:=by decide
 have e1:=GV (a:=a) (b:=b) (n:=8) (by omega) (by omega) (by omega) (by omega)
 rw[p1]at e1
 have e2:=GV (a:=a+b*256) (b:=c) (n:=16) (by omega) (by omega) (by omega) (by omega)
 rw[p2]at e2
 have e3:=GV (a:=a+b*256+c*65536) (b:=d) (n:=24) (by omega) (by omega) (by omega) (by omega)
 rw[p3]at e3
 rw[show((8:Int))=((8:Nat):Int)from rfl,e1,show((16:Int))=((16:Nat):Int)from rfl,e2,show((24:Int))=((24:Nat):Int)from rfl,e3]
theorem qB5 {v:Int} (h:0<=v):iF .u32 v 8=v/256/\iF .u32 v 16=v/65536/\iF .u32 v 24=v/16777216:=by
 unfold iF
 refine⟨?_,?_,?_⟩<;>rw[Int.fdiv_eq_ediv_of_nonneg _ (by decide)]<;>rfl
theorem FV (s:ByteArray):0<=gO s/\gO s<4294967296:=by
 unfold gO yX
 rw[if_pos qW]
 exact sB _ _
theorem qAW {v a b c d:Int} (h:0<=v/\v<4294967296) (ha:0<=a/\a<256) (hb:0<=b/\b<256) (hc:0<=c/\c<256) (hd:0<=d/\d<256):four v= [a,b,c,d]↔a+b*256+c*65536+d*16777216=v:=by
 obtain⟨h1,h2,h3⟩:=qB5 h.1
 unfold four
 rw[h1,h2,h3,oI,oI,oI,oI]
 simp only[List.cons.injEq,and_true]
 omega
theorem lS (v:Int):∀b,b∈four v->0<=b/\b<256:=by
 intro b hb
 unfold four at hb
 rcases List.mem_cons.1 hb with h|hb
 · rw[h];exact pC v
 rcases List.mem_cons.1 hb with h|hb
 · rw[h];exact pC _
 rcases List.mem_cons.1 hb with h|hb
 · rw[h];exact pC _
 rcases List.mem_cons.1 hb with h|hb
 · rw[h];exact pC _
 cases hb
theorem qMQ {s:ByteArray} (h8:¬s.size<4):cB s ((s.size:Int)-4)=gO (s.extract 0 ((s.size:Int)-4).toNat)↔bH (s.extract 0 ((s.size:Int)-4).toNat)=s:=by
 have e:∀(x:ByteArray) (n:Nat),aF (x.extract 0 n)=(aF x).take n:=fun x n=>by unfold aF;simp [List.map_take]
 obtain⟨m,hm⟩:∃m,s.size=m+4:=⟨s.size-4,by omega⟩
 have hd:(aF s).drop m= [aG s m,aG s (m+1),aG s (m+2),aG s (m+3)]:=by
  rw[nF (by omega),nF (by omega),nF (by omega),nF (by omega),List.drop_eq_nil_of_le (by rw[aP];omega)]
 have hw:cB s ((s.size:Int)-4)=aG s m+aG s (m+1)*256+aG s (m+2)*65536+aG s (m+3)*16777216:=by
  unfold cB
  rw[qE2 (bO _ _) (bO _ _) (bO _ _) (bO _ _)]
  rw[show((s.size:Int)-4).toNat=m by omega,show((s.size:Int)-4+1).toNat=m+1 by omega,show((s.size:Int)-4+2).toNat=m+2 by omega,show((s.size:Int)-4+3).toNat=m+3 by omega]
 rw[hw,<-qAW (FV _) (bO _ _) (bO _ _) (bO _ _) (bO _ _),<-hd]
 have hs:aF (bH (s.extract 0 ((s.size:Int)-4).toNat))=(aF s).take m++four (gO (s.extract 0 ((s.size:Int)-4).toNat)):=by
  unfold bH
  rw[bG,e,show((s.size:Int)-4).toNat=m by omega,bF (lS _)]
 constructor
 · intro h
   apply jK
   rw[hs,h,List.take_append_drop]
 · intro h
   rw[h]at hs
   have:=List.take_append_drop m (aF s)
   rw[hs]at this
   have h2:=List.append_cancel_left (hs.symm.trans (List.take_append_drop m (aF s)).symm)
   exact h2
theorem gV (b:ByteArray):(bH b).size=b.size+4:=by unfold bH;rw[ByteArray.size_append,pY]
theorem qHF (b:ByteArray):(bH b).extract 0 (((bH b).size:Int)-4).toNat=b:=by
 apply jK
 have e:∀(x:ByteArray) (n:Nat),aF (x.extract 0 n)=(aF x).take n:=fun x n=>by unfold aF;simp [List.map_take]
 have hz:(bH b).size=b.size+4:=by unfold bH;rw[ByteArray.size_append,pY]
 rw[e,hz,show(((b.size+4:Nat):Int)-4).toNat=b.size by omega]
 unfold bH
 rw[bG,List.take_append_of_le_length (by rw[aP];omega),List.take_of_length_le (by rw[aP];omega)]
def eL (s:ByteArray):ByteArray:=(s.extract 0 ((s.size:Int)-4).toNat)
def fD (s:ByteArray):Int:=if s.size<=4 then 10 else if bH (eL s)≠s then 9 else 0
theorem zQ {s:ByteArray} (h:4<=s.size):((eL s).size:Int)=(s.size:Int)-4:=by
 unfold eL;rw[ByteArray.size_extract];omega
theorem NU (s:ByteArray):(eL s).size<=s.size:=by unfold eL;rw[ByteArray.size_extract];omega
theorem qT5 {s:ByteArray} (h:s.size<=4):fD s=10:=by rw[fD,if_pos h]
theorem qT6 {s:ByteArray} (h:¬s.size<=4) (h1:¬bH (eL s)=s):fD s=9:=by rw[fD,if_neg h,if_pos h1]
theorem qT7 {s:ByteArray} (h:¬s.size<=4) (h1:bH (eL s)=s):fD s=0:=by rw[fD,if_neg h,if_neg (fun q=>q h1)]
theorem qBQ {s:ByteArray} (h:fD s=0):¬s.size<=4/\bH (eL s)=s:=by
 unfold fD at h
 split at h
 · cases h
 · rename_i q
   split at h
   · cases h
   · rename_i q1;exact⟨q,Decidable.not_not.1 q1⟩
theorem qNT {s:ByteArray} (h:¬s.size<=4):cB s ((s.size:Int)-4)=gO (eL s)↔bH (eL s)=s:=qMQ (by omega)
abbrev KJ:Ct:=.fn [.str] (some (fun(s:ByteArray)=>(s.size<=4611686018427387904))) (fun(s:ByteArray)=>.d .str (bH s))
theorem qQ0:aH Tryz.prog 113 KJ:=by
 refine aH.fn qDJ mixed [] [] rfl rfl ?_
 rintro⟨(s:ByteArray),_⟩ hpre
 replace hpre:=hpre _ rfl
 dsimp only[cu]at hpre
 have hs:=hpre
 refine⟨[],?_⟩
 repeat' (first
  |(
 with_reducible refine Side.mk ?_
 (try dsimp only[cu,aC,aB,gts,loK,hiK,Prod.eta,List.nil_append])
 first
 |(omega)
 |(exact Eq.refl _)
 |(simp only[cP,List.length_cons,List.length_nil];omega))
  |(conv=>whnf
    first
     |done
     |exact trivial
     |with_reducible refine NilBr.mk (fun h=>?_) ?_
     |with_reducible first|refine aJ ?_ ?_|refine aI ?_ ?_|refine aK (by kernel_rfl) ?_|refine aL ?_|refine bD ?_ ?_|refine bC ?_ ?_|refine aR ?_ ?_
     |((with_reducible first|refine aT (fun h=>?_) (fun h=>?_)|refine aS (fun h=>?_) (fun h=>?_)|refine bA (fun h=>?_) (fun h=>?_))<;>(try dsimp only[cu,Prod.eta,List.nil_append]at h)<;>(try(exfalso;omega;done)))))
 all_goals(
 with_reducible refine Leaf.mk ?_
 (try dsimp only[cu,aC,aB,gts,Prod.eta,List.nil_append]at *)
 rfl)
abbrev qXC:Tbl:=(113,KJ)::qXB
theorem qDK:aD Tryz.prog qXC:=aD.cons qQ0 qDJ
abbrev JL:Ct:=.fn [.int .u32] (none) (fun(v:Int)=>.d .str (aV (four v)))
theorem qO9:aH Tryz.prog 44 JL:=by
 refine aH.fn qDK mixed [] [] rfl rfl ?_
 rintro⟨(v:Int),_⟩ -
 refine⟨[],?_⟩
 repeat' (first
  |(
 with_reducible refine Side.mk ?_
 (try dsimp only[cu,aC,aB,gts,loK,hiK,Prod.eta,List.nil_append])
 first
 |(omega)
 |(exact Eq.refl _))
  |(conv=>whnf
    first
     |done
     |exact trivial
     |with_reducible refine NilBr.mk (fun h=>?_) ?_
     |with_reducible first|refine aJ ?_ ?_|refine aI ?_ ?_|refine aK (by kernel_rfl) ?_|refine aL ?_|refine bD ?_ ?_|refine bC ?_ ?_|refine aR ?_ ?_
     |((with_reducible first|refine aT (fun h=>?_) (fun h=>?_)|refine aS (fun h=>?_) (fun h=>?_)|refine bA (fun h=>?_) (fun h=>?_))<;>(try dsimp only[cu,Prod.eta,List.nil_append]at h)<;>(try(exfalso;omega;done)))))
 all_goals(
 with_reducible refine Leaf.mk ?_
 (try dsimp only[cu,aC,aB,gts,Prod.eta,List.nil_append]at *)
 rfl)
abbrev qXD:Tbl:=(44,JL)::qXC
theorem qDL:aD Tryz.prog qXD:=aD.cons qO9 qDK
abbrev ES:Ct:=.fn [.str] (some (fun(s:ByteArray)=>(s.size<=4611686018427387904))) (fun(s:ByteArray)=>.tup [.str,.int .i64] (if fD s=0 then eL s else EMP,fD s,()))
theorem qLH:aH Tryz.prog 133 ES:=by
 refine aH.fn qDL mixed [] [] rfl rfl ?_
 rintro⟨(s:ByteArray),_⟩ hpre
 replace hpre:=hpre _ rfl
 dsimp only[cu]at hpre
 have hs:=hpre
 refine⟨[],?_⟩
 repeat' (first
  |(
 with_reducible refine Side.mk ?_
 (try dsimp only[cu,aC,aB,gts,loK,hiK,Prod.eta,List.nil_append])
 first
 |(omega)
 |(
  have hbl:=NU s
  exact Nat.le_trans hbl hs))
  |(conv=>whnf
    first
     |done
     |exact trivial
     |with_reducible refine NilBr.mk (fun h=>?_) ?_
     |with_reducible first|refine aJ ?_ ?_|refine aI ?_ ?_|refine aK (by kernel_rfl) ?_|refine aL ?_|refine bD ?_ ?_|refine bC ?_ ?_|refine aR ?_ ?_
     |((with_reducible first|refine aT (fun h=>?_) (fun h=>?_)|refine aS (fun h=>?_) (fun h=>?_)|refine bA (fun h=>?_) (fun h=>?_))<;>(try dsimp only[cu,Prod.eta,List.nil_append]at h)<;>(try(exfalso;omega;done)))))
 all_goals(
 with_reducible refine Leaf.mk ?_
 (try dsimp only[cu,aC,aB,gts,Prod.eta,List.nil_append]at *)
 first
 |(
  have hb:eL s=(s.extract 0 ((s.size:Int)-4).toNat):=rfl
  first
  |(
   have h:=qT5 (s:=s) (by omega)
   rw[h]
   (try rfl))
  |(
   have h:=qT6 (s:=s) (by omega) (by rw[hb];with_reducible assumption)
   rw[h]
   (try rfl))
  |(
   have h1:bH (s.extract 0 ((s.size:Int)-4).toNat)=s:=by first|with_reducible assumption|(refine Decidable.not_not.1 ?_;with_reducible assumption)
   have h:=qT7 (s:=s) (by omega) (by rw[hb];exact h1)
   rw[h]
   (try rfl))))
abbrev qXE:Tbl:=(133,ES)::qXD
theorem qDM:aD Tryz.prog qXE:=aD.cons qLH qDL
def dfs (l:List Int):List Int:=(List.range (l.length-1)).map fun j=>IntKind.i64.wrap (l[j+1]! - l[j]!)
theorem xK (l:List Int):(dfs l).length=l.length-1:=by simp [dfs]
theorem qOR {l:List Int} {j:Nat} (h:j+1<l.length):(dfs l)[j]! =IntKind.i64.wrap (l[j+1]! - l[j]!):=by
 rw[getElem!_pos _ _ (by rw[xK];omega)];simp [dfs]
def usL (m:Int) (D:List Int):List Int:=D.map fun d=>IntKind.u64.wrap (IntKind.i64.wrap (d-m))
def qI4 (D:List Int):ByteArray:=(aV (put (gB (mnL D)))++aV [IntKind.u8.wrap (mwL (usL (mnL D) D))])++(qD (usL (mnL D) D) (mwL (usL (mnL D) D))).1
def vB (D:List Int):ByteArray:=if h:D.length=0 then ByteArray.empty else qI4 (D.take 32)++vB (D.drop 32)
termination_by D.length
decreasing_by simp;omega
def jW (l:List Int):ByteArray:=if l.length=0\/l.length>4096 then⟨#[]⟩else aV (put (gB l[0]!))++vB (dfs l)
def gC (l:List Int) (i:Int):List Int:=((dfs l).drop (i-1).toNat).take 32
theorem kP {l:List Int} {i:Int} (h:1<=i/\i<l.length):((gC l i).length:Int)=bS (i+32) l.length-i:=by
 unfold gC bS
 rw[List.length_take,List.length_drop,xK]
 split<;>omega
theorem zP {l:List Int} {i k:Int} (h:1<=i/\i<=k/\k<bS (i+32) l.length):(gC l i)[(k-i).toNat]! =IntKind.i64.wrap (l[k.toNat]! - l[(k-1).toNat]!):=by
 have h2:k<l.length/\k<i+32:=by unfold bS at h;split at h<;>omega
 have e:=qOR (l:=l) (j:=(k-1).toNat) (by omega)
 rw[show(k-1).toNat+1=k.toNat by omega]at e
 rw[<-e]
 unfold gC
 rw[List.getElem!_eq_getElem?_getD,List.getElem?_take,if_pos (by omega),List.getElem?_drop,show(i-1).toNat+(k-i).toNat=(k-1).toNat by omega,List.getElem!_eq_getElem?_getD]
theorem XL {l:List Int} {i:Int} (h:1<=i/\i<l.length):vB ((dfs l).drop (i-1).toNat)=qI4 (gC l i)++vB ((dfs l).drop (i+32-1).toNat):=by
 rw[vB,dif_neg (by rw[List.length_drop,xK];omega),List.drop_drop,show(i-1).toNat+32=(i+32-1).toNat by omega]
 rfl
theorem qGA {l:List Int} {i:Int} (h:¬i<l.length):vB ((dfs l).drop (i-1).toNat)=ByteArray.empty:=by
 rw[vB,dif_pos (by rw[List.length_drop,xK];omega)]
theorem tX {D:List Int} (h:1<=D.length):D.foldl bS D[0]! =mnL D:=by
 cases D with
 |nil=>simp at h
 |cons x r=>
  show List.foldl bS (bS x x) r=List.foldl bS x r
  have e:bS x x=x:=by unfold bS;split<;>rfl
  rw[e]
theorem XQ {D:List Int} {x j:Int} {f:Int->Int->Int} (h:0<=j/\j<D.length):(D.take (j+1).toNat).foldl f x=f ((D.take j.toNat).foldl f x) D[j.toNat]!:=by
 rw[oE h];simp
theorem qNK {D:List Int} {m j:Int} (h:0<=j/\j<D.length):usL m (D.take (j+1).toNat)=usL m (D.take j.toNat)++ [IntKind.u64.wrap (IntKind.i64.wrap (D[j.toNat]! - m))]:=by
 unfold usL;rw[oE h];simp
theorem qRC (m:Int) (D:List Int) (i:Nat):0<=(usL m D)[i]! /\(usL m D)[i]! <18446744073709551616:=by
 by_cases h:i<(usL m D).length
 · rw[getElem!_pos (usL m D) i h]
   simp only[usL,List.getElem_map]
   exact qM _
 · rw[getElem!_neg (usL m D) i h];exact⟨by decide,by decide⟩
theorem qP2 (U:List Int) (v:Int):mwL (U++ [v])=eH (mwL U) (nT v):=by simp [mwL]
theorem qFR (D:List Int):(qI4 D).size<=32779:=by
 unfold qI4
 have h1:=dO (gB (mnL D))
 have h2:=nZ (usL (mnL D) D) (mwL (usL (mnL D) D))
 rw[ByteArray.size_append,ByteArray.size_append,cP [_]]
 simp only[List.length_cons,List.length_nil]
 omega
theorem GA:∀(n:Nat) (D:List Int),D.length<=n->(vB D).size<=32779*n
 |n,D,h=>by
  rw[vB]
  split
  · exact Nat.zero_le _
  · have:=qFR (D.take 32)
    rw[ByteArray.size_append]
    obtain⟨m,rfl⟩:∃m,n=m+1:=⟨n-1,by omega⟩
    have:=GA m (D.drop 32) (by simp;omega)
    omega
theorem IG (l:List Int):(jW l).size<=134262794:=by
 unfold jW
 split
 · exact Nat.zero_le _
 · have h1:=dO (gB l[0]!)
   have h2:=GA 4096 (dfs l) (by rw[xK];omega)
   rw[ByteArray.size_append];omega
theorem yD (u:UInt8):(ByteArray.mk #[u]).size=1:=rfl
theorem QF (x:Int):inI (IntKind.i64.wrap x):=by unfold inI;simp [IntKind.wrap,IntKind.bits,IntKind.signed];omega
theorem qRV {l:List Int} {i:Int} (h:1<=i/\i<l.length):inI (mnL (gC l i)):=by
 have hl:=kP h
 have hm:bS (i+32) l.length-i>=1:=by unfold bS;split<;>omega
 have:=qP0 (l:=gC l i) (fun e=>by rw[e]at hl;simp at hl;omega)
 unfold gC at this
 have:=List.mem_of_mem_drop (List.mem_of_mem_take this)
 unfold dfs at this
 obtain⟨j,_,e⟩:=List.mem_map.1 this
 show inI (mnL (List.take 32 (List.drop (i-1).toNat (dfs l))))
 unfold dfs
 rw[<-e];exact QF _
abbrev EW:Ct:=.fn [.list (.int .i64)] (some (fun(l:List Int)=>(l.length<=1073741824)/\(∀x,x∈l->inI x))) (fun(l:List Int)=>.d .str (jW l))
theorem qL6:aH Tryz.prog 159 EW:=by
 refine aH.fn qDM mixed [(0,8,9),(0,12,10),(0,18,9),(0,18,11)] [] rfl rfl ?_
 rintro⟨(l:List Int),_⟩ hpre
 replace hpre:=hpre _ rfl
 dsimp only[cu]at hpre
 obtain⟨hl,hv⟩:=hpre
 refine⟨[(0,10,LA.mk [.sl 4 (.int .i64),.sl 3 .str] (fun y=>Tag 35/\cu [.int .i64,.str] (fun(i:Int) (x:ByteArray)=>(1<=i/\i<=l.length+31)/\(jW l=x++vB ((dfs l).drop (i-1).toNat))/\((x.size:Int)<=10+32779*i)) y) (cu [.int .i64,.str] (fun(i:Int) (x:ByteArray)=>((l.length:Int)+32-i).toNat)) (cu [.int .i64,.str] (fun(i:Int) (x:ByteArray)=>([(0,20,LA.mk [.sl 7 (.int .i64),.sl 6 (.int .i64)] (fun y=>Tag 36/\cu [.int .i64,.int .i64] (fun(k:Int) (m:Int)=>(i<=k/\k<=bS (i+32) l.length)/\(m=((gC l i).take (k-i).toNat).foldl bS (gC l i)[0]!)) y) (cu [.int .i64,.int .i64] (fun(k:Int) (m:Int)=>(bS (i+32) l.length-k).toNat)) (cu [.int .i64,.int .i64] (fun(k:Int) (m:Int)=>([]:List (Nat×Nat×LA))))),(0,32,LA.mk [.sl 10 (.int .i64),.lst 8 (.int .u64) 86,.sl 9 (.int .i64)] (fun y=>Tag 37/\cu [.int .i64,.list (.int .u64),.int .i64] (fun(j:Int) (u:List Int) (w:Int)=>(i<=j/\j<=bS (i+32) l.length)/\(u=usL (mnL (gC l i)) ((gC l i).take (j-i).toNat))/\(w=mwL u)) y) (cu [.int .i64,.list (.int .u64),.int .i64] (fun(j:Int) (u:List Int) (w:Int)=>(bS (i+32) l.length-j).toNat)) (cu [.int .i64,.list (.int .u64),.int .i64] (fun(j:Int) (u:List Int) (w:Int)=>([]:List (Nat×Nat×LA)))))]:List (Nat×Nat×LA)))))],?_⟩
 repeat' (first
  |(
 with_reducible refine Side.mk ⟨(⟨⟩:Tag 35),?_⟩
 dsimp only[cu,aC,aB,gts,Prod.eta,List.nil_append]
 refine⟨?_,?_,?_⟩
 · first
   |(
  have hmi:i<bS (i+32) l.length/\bS (i+32) l.length<=l.length/\bS (i+32) l.length<=i+32:=by unfold bS;split<;>omega
  omega)
   |(omega)
 · first
   |(
  rw[jW,if_neg (by omega)]
  rfl)
   |(
  have hmi:i<bS (i+32) l.length/\bS (i+32) l.length<=l.length/\bS (i+32) l.length<=i+32:=by unfold bS;split<;>omega
  have hbl:=kP (l:=l) (i:=i) (by omega)
  have hmm:m=mnL (gC l i):=by rw[hm,List.take_of_length_le (by omega),tX (by omega)]
  have huu:u=usL (mnL (gC l i)) (gC l i):=by rw[hu,List.take_of_length_le (by omega)]
  rw[hx,XL (by omega),<-ByteArray.append_assoc]
  unfold qI4
  rw[<-huu,<-hmm,<-hw]
  rfl)
 · first
   |(
  have h1:=dO (gB l[(0:Int).toNat]!)
  omega)
   |(
  have hmi:i<bS (i+32) l.length/\bS (i+32) l.length<=l.length/\bS (i+32) l.length<=i+32:=by unfold bS;split<;>omega
  have hbl:=kP (l:=l) (i:=i) (by omega)
  have hmm:m=mnL (gC l i):=by rw[hm,List.take_of_length_le (by omega),tX (by omega)]
  have huu:u=usL (mnL (gC l i)) (gC l i):=by rw[hu,List.take_of_length_le (by omega)]
  have h1:=dO (gB m)
  have h2:=nZ u w
  simp only[ByteArray.size_append,yD,cP [_],List.length_cons,List.length_nil]
  omega))
  |(
 with_reducible refine Side.mk ⟨(⟨⟩:Tag 36),?_⟩
 dsimp only[cu,aC,aB,gts,Prod.eta,List.nil_append]
 refine⟨?_,?_⟩
 · (
  have hmi:i<bS (i+32) l.length/\bS (i+32) l.length<=l.length/\bS (i+32) l.length<=i+32:=by unfold bS;split<;>omega
  omega)
 · first
   |(
  have hmi:i<bS (i+32) l.length/\bS (i+32) l.length<=l.length/\bS (i+32) l.length<=i+32:=by unfold bS;split<;>omega
  have hbl:=kP (l:=l) (i:=i) (by omega)
  first
  |(
   have hbg:=zP (l:=l) (i:=i) (k:=i) (by omega)
   rw[show(i-i).toNat=0 by omega]at hbg ⊢
   rw[hbg]
   (try rfl))
  |(
   have hbg:=zP (l:=l) (i:=i) (k:=k) (by omega)
   rw[show k+1-i=(k-i)+1 by omega,XQ (by omega),<-hm,hbg])))
  |(
 with_reducible refine Side.mk ⟨(⟨⟩:Tag 37),?_⟩
 dsimp only[cu,aC,aB,gts,Prod.eta,List.nil_append]
 refine⟨?_,?_,?_⟩
 · (
  have hmi:i<bS (i+32) l.length/\bS (i+32) l.length<=l.length/\bS (i+32) l.length<=i+32:=by unfold bS;split<;>omega
  omega)
 · first
   |(rw[show(i-i).toNat=0 by omega];rfl)
   |(
  have hmi:i<bS (i+32) l.length/\bS (i+32) l.length<=l.length/\bS (i+32) l.length<=i+32:=by unfold bS;split<;>omega
  have hbl:=kP (l:=l) (i:=i) (by omega)
  have hmm:m=mnL (gC l i):=by rw[hm,List.take_of_length_le (by omega),tX (by omega)]
  have hbg:=zP (l:=l) (i:=i) (k:=j) (by omega)
  rw[show j+1-i=(j-i)+1 by omega,qNK (by omega),<-hu,hbg,hmm])
 · first
   |(rfl)
   |(rw[qP2,hw]))
  |(
 with_reducible refine Side.mk ?_
 (try dsimp only[cu,aC,aB,gts,loK,hiK,Prod.eta,List.nil_append])
 first
 |(done)
 |(omega)
 |(exact Eq.refl _)
 |(
  have hmi:i<bS (i+32) l.length/\bS (i+32) l.length<=l.length/\bS (i+32) l.length<=i+32:=by unfold bS;split<;>omega
  omega)
 |(exact nE (GI hv _))
 |(exact GI hv _)
 |(exact qM _)
 |(
  have hmi:i<bS (i+32) l.length/\bS (i+32) l.length<=l.length/\bS (i+32) l.length<=i+32:=by unfold bS;split<;>omega
  have hbl:=kP (l:=l) (i:=i) (by omega)
  first
  |(
   have hul:=congrArg List.length hu
   simp only[usL,List.length_map,List.length_take]at hul
   (try simp only[List.length_cons,List.length_nil])
   omega)
  |(
   have hmm:m=mnL (gC l i):=by rw[hm,List.take_of_length_le (by omega),tX (by omega)]
   rw[hmm]
   first
   |(exact qRV (by omega))
   |(exact nE (qRV (by omega))))
  |(
   have hul:=congrArg List.length hu
   simp only[usL,List.length_map,List.length_take]at hul
   have hmi:i<bS (i+32) l.length/\bS (i+32) l.length<=l.length/\bS (i+32) l.length<=i+32:=by unfold bS;split<;>omega
   have hbl:=kP (l:=l) (i:=i) (by omega)
   have hmm:m=mnL (gC l i):=by rw[hm,List.take_of_length_le (by omega),tX (by omega)]
   have huu:u=usL (mnL (gC l i)) (gC l i):=by rw[hu,List.take_of_length_le (by omega)]
   refine⟨fun q=>?_,by omega⟩
   rw[huu]
   exact qRC _ _ q)
  |(
   have hmm:m=mnL (gC l i):=by rw[hm,List.take_of_length_le (by omega),tX (by omega)]
   have huu:u=usL (mnL (gC l i)) (gC l i):=by rw[hu,List.take_of_length_le (by omega)]
   have h1:=dO (gB m)
   have h2:=nZ u w
   simp only[ByteArray.size_append,yD,cP [_],List.length_cons,List.length_nil]
   omega)))
  |(conv=>whnf
    first
     |done
     |exact trivial
     |with_reducible refine NilBr.mk (fun h=>?_) ?_
     |with_reducible first|refine aJ ?_ ?_|refine aI ?_ ?_|refine aK (by kernel_rfl) ?_|refine aL ?_|refine bD ?_ ?_|refine bC ?_ ?_|refine aR ?_ ?_
     |((with_reducible first|refine aT (fun h=>?_) (fun h=>?_)|refine aS (fun h=>?_) (fun h=>?_)|refine bA (fun h=>?_) (fun h=>?_))<;>(try dsimp only[cu,Prod.eta,List.nil_append]at h)<;>(try(exfalso;omega;done)))
     |(
 intro yy (hy:Tag 35/\_)
 obtain⟨(i:Int),(x:ByteArray),_⟩:=yy
 replace hy:=hy.2
 dsimp only[cu,aC,aB,gts,Prod.eta,List.nil_append]at hy
 obtain⟨hi,hx,hz⟩:=hy)
     |(
 intro yy (hy:Tag 36/\_)
 obtain⟨(k:Int),(m:Int),_⟩:=yy
 replace hy:=hy.2
 dsimp only[cu,aC,aB,gts,Prod.eta,List.nil_append]at hy
 obtain⟨hk,hm⟩:=hy)
     |(
 intro yy (hy:Tag 37/\_)
 obtain⟨(j:Int),(u:List Int),(w:Int),_⟩:=yy
 replace hy:=hy.2
 dsimp only[cu,aC,aB,gts,Prod.eta,List.nil_append]at hy
 obtain⟨hj,hu,hw⟩:=hy)))
 all_goals(
 with_reducible refine Leaf.mk ?_
 (try dsimp only[cu,aC,aB,gts,Prod.eta,List.nil_append]at *)
 first
 |(rw[jW,if_pos (by omega)])
 |(rw[hx,qGA (by omega),ByteArray.append_empty]))
abbrev qXF:Tbl:=(159,EW)::qXE
theorem qDN:aD Tryz.prog qXF:=aD.cons qL6 qDM
def qB (l:List Val):List Int:=l.map fun v=>v.2.1
def CN (l:List Val):List ByteArray:=l.map fun v=>v.2.2
def okV (v:Val):Prop:=v.2.2.size<=1048576/\inI v.2.1
def plV (t:Int) (v:Val):ByteArray:=if t=3 then aV (put v.2.2.size)++v.2.2 else aV (put (gB v.2.1))
def plL (t:Int):List Val->ByteArray
 | []=>ByteArray.empty
 |v::r=>plV t v++plL t r
def rG (t k:Int) (l:List Val):ByteArray:=if k=2 then xM (qB l)else if k=3 then qZ (CN l)else if k=4 then jW (qB l)else plL t l
def iG (l:List Val):List Val:=l.filter fun v=>!v.1
def kB (l:List Val):List Bool:=l.map fun v=>v.1
def xR (k:Int) (l:List Val):ByteArray:=(aV [IntKind.u8.wrap k]++aV (put l.length))++aV (put ((l.length:Int)-(iG l).length))
def pI (t k:Int) (l:List Val):ByteArray:=(if(iG l).length<l.length then xR k l++TG (kB l)else xR k l)++rG t k (iG l)
def eP (t k:Int) (l:List Val):ByteArray:=bH (pI t k l)
theorem TR {t:Int} {l:List Val} {k:Int} (h:0<=k/\k<l.length):plL t (l.drop k.toNat)=plV t l[k.toNat]! ++plL t (l.drop (k+1).toNat):=by
 rw[bI l k h];rfl
theorem YS {l:List Val} (h:∀v,v∈l->okV v) (k:Nat):okV l[k]!:=by
 by_cases q:k<l.length
 · rw[getElem!_pos l k q];exact h _ (List.getElem_mem q)
 · rw[getElem!_neg l k q];exact⟨by decide,by unfold inI;exact⟨by decide,by decide⟩⟩
theorem qLP {t:Int} {v:Val} (h:okV v):(plV t v).size<=1048586:=by
 unfold plV
 have h1:=dO (v.2.2.size:Int)
 have h2:=dO (gB v.2.1)
 have:=h.1
 split
 · rw[ByteArray.size_append];omega
 · omega
theorem TQ (t:Int):∀(l:List Val),(∀v,v∈l->okV v)->(plL t l).size<=1048586*l.length
 | [],_=>Nat.zero_le _
 |v::r,h=>by
  have h1:=qLP (t:=t) (h v (by simp))
  have h2:=TQ t r (fun x hx=>h x (by simp [hx]))
  rw[plL,ByteArray.size_append,List.length_cons];omega
theorem qQD {l:List Val} (h:∀v,v∈l->okV v):∀x,x∈qB l->inI x:=fun x hx=>by
 obtain⟨v,hv,rfl⟩:=List.mem_map.1 hx
 exact(h v hv).2
theorem qB8 {l:List Val} (h:∀v,v∈l->okV v):∀x,x∈CN l->x.size<=1073741824:=fun x hx=>by
 obtain⟨v,hv,rfl⟩:=List.mem_map.1 hx
 have:=(h v hv).1
 omega
theorem PZ {l:List Val} (h:∀v,v∈l->okV v):∀v,v∈iG l->okV v:=fun v hv=>h v (List.mem_filter.1 hv).1
theorem qJ (l:List Val):(iG l).length<=l.length:=List.length_filter_le _ _
theorem OK {l:List ByteArray} (h:∀w,w∈l->w.size<=1073741824):(qZ l).size<=4398046584842:=by
 unfold qZ
 split
 · exact Nat.zero_le _
 · rw[ByteArray.size_append]
   have h1:=vO (v:=((bV l).length:Int)) (k:=(bV l).length) h (by omega)
   rw[List.take_of_length_le (Nat.le_refl _)]at h1
   have h2:=nZ (eQ l) (wdN ((bV l).length:Int))
   omega
theorem UF:∀(n:Nat) (l:List Int),l.length<=n->(OL (runs l)).length<=20*l.length
 |n,[],_=>by rw[runs];exact Nat.zero_le _
 |n,v::l,h=>by
  obtain⟨m,rfl⟩:∃m,n=m+1:=⟨n-1,by simp at h;omega⟩
  rw[runs,OL]
  have h1:=bM ((rK v l:Int)+1)
  have h2:=bM (gB v)
  have h3:=UF m (l.drop (rK v l)) (by simp at h ⊢;omega)
  simp only[List.length_append,List.length_cons,List.length_drop]at h3 ⊢
  omega
theorem OM (l:List Int):(xM l).size<=20*l.length:=by
 unfold xM;rw[cP];exact UF _ l (Nat.le_refl _)
theorem TO {t k:Int} {l:List Val} (h:∀v,v∈l->okV v) (hl:l.length<=4096):(rG t k l).size<=4398046584842:=by
 unfold rG
 split
 · have:=OM (qB l)
   have e:(qB l).length=l.length:=by simp [qB]
   omega
 · split
   · exact OK (qB8 h)
   · split
     · have:=IG (qB l);omega
     · have:=TQ t l h;omega
theorem GX {l:List Bool} (h:l.length<=4096):(TG l).size<=512:=by
 unfold TG
 rw[cP,mB,Int.tdiv_eq_ediv_of_nonneg (by omega)];omega
theorem LM (k:Int) (l:List Val):(xR k l).size<=21/\1<=(xR k l).size:=by
 unfold xR
 have h1:=dO (l.length:Int)
 have h2:=dO ((l.length:Int)-(iG l).length)
 rw[ByteArray.size_append,ByteArray.size_append,cP [_]]
 simp only[List.length_cons,List.length_nil]
 omega
theorem BU {t k:Int} {l:List Val} (h:∀v,v∈l->okV v) (hl:l.length<=4096):(pI t k l).size<=4398046585375/\1<=(pI t k l).size:=by
 unfold pI
 have h1:=LM k l
 have h2:=TO (t:=t) (k:=k) (PZ h) (by have:=qJ l;omega)
 have h3:=GX (l:=kB l) (by simp [kB];omega)
 split
 · rw[ByteArray.size_append,ByteArray.size_append];omega
 · rw[ByteArray.size_append];omega
theorem qL {l:List Val} {k:Int} (h:0<=k/\k<l.length):l.take (k+1).toNat=l.take k.toNat++ [l[k.toNat]!]:=by
 rw[show(k+1).toNat=k.toNat+1 by omega,List.take_succ_eq_append_getElem (by omega),getElem!_pos l k.toNat (by omega)]
def cU (t k:Int):Bool:=if t=3 then decide (k=1)||decide (k=3)else decide (k=1)||decide (k=2)||decide (k=4)
abbrev wW:Ct:=.fn [.list bQ] (some (fun(l:List Val)=>(l.length<=1073741824))) (fun(l:List Val)=>.d (.list (.int .i64)) (qB l))
theorem YQ:aH Tryz.prog 156 wW:=by
 refine aH.fn qDN mixed [] [] rfl rfl ?_
 rintro⟨(l:List Val),_⟩ hpre
 replace hpre:=hpre _ rfl
 dsimp only[cu]at hpre
 have hl:=hpre
 refine⟨[(0,6,LA.mk [.sl 8 (.int .i64),.lst 3 (.int .i64) 2] (fun y=>Tag 38/\cu [.int .i64,.list (.int .i64)] (fun(k:Int) (M:List Int)=>(0<=k/\k<=l.length)/\(M=qB (l.take k.toNat))) y) (cu [.int .i64,.list (.int .i64)] (fun(k:Int) (M:List Int)=>((l.length:Int)-k).toNat)) (cu [.int .i64,.list (.int .i64)] (fun(k:Int) (M:List Int)=>([]:List (Nat×Nat×LA)))))],?_⟩
 repeat' (first
  |(
 with_reducible refine Side.mk ⟨(⟨⟩:Tag 38),?_⟩
 dsimp only[cu,aC,aB,gts,Prod.eta,List.nil_append]
 refine⟨?_,?_⟩
 · omega
 · first
   |(rfl)
   |(
  unfold qB
  rw[qL (by omega),List.map_append]
  show _=qB (l.take k.toNat)++_
  rw[<-hM]
  rfl))
  |(
 with_reducible refine Side.mk ?_
 (try dsimp only[cu,aC,aB,gts,loK,hiK,Prod.eta,List.nil_append])
 first
 |(done)
 |(omega)
 |(exact Eq.refl _)
 |(
  have hml:=congrArg List.length hM
  simp only[qB,List.length_map,List.length_take]at hml
  (try simp only[List.length_cons,List.length_nil])
  omega))
  |(conv=>whnf
    first
     |done
     |exact trivial
     |with_reducible refine NilBr.mk (fun h=>?_) ?_
     |with_reducible first|refine aJ ?_ ?_|refine aI ?_ ?_|refine aK (by kernel_rfl) ?_|refine aL ?_|refine bD ?_ ?_|refine bC ?_ ?_|refine aR ?_ ?_
     |((with_reducible first|refine aT (fun h=>?_) (fun h=>?_)|refine aS (fun h=>?_) (fun h=>?_)|refine bA (fun h=>?_) (fun h=>?_))<;>(try dsimp only[cu,Prod.eta,List.nil_append]at h)<;>(try(exfalso;omega;done)))
     |(
 intro yy (hy:Tag 38/\_)
 obtain⟨(k:Int),(M:List Int),_⟩:=yy
 replace hy:=hy.2
 dsimp only[cu,aC,aB,gts,Prod.eta,List.nil_append]at hy
 obtain⟨hk,hM⟩:=hy)))
 all_goals(
 with_reducible refine Leaf.mk ?_
 (try dsimp only[cu,aC,aB,gts,Prod.eta,List.nil_append]at *)
 rw[hM,List.take_of_length_le (by omega)])
abbrev qXG:Tbl:=(156,wW)::qXF
theorem qDO:aD Tryz.prog qXG:=aD.cons YQ qDN
abbrev xF:Ct:=.fn [.list bQ] (some (fun(l:List Val)=>(l.length<=1073741824))) (fun(l:List Val)=>.d (.list .str) (CN l))
theorem ZP:aH Tryz.prog 158 xF:=by
 refine aH.fn qDO mixed [] [] rfl rfl ?_
 rintro⟨(l:List Val),_⟩ hpre
 replace hpre:=hpre _ rfl
 dsimp only[cu]at hpre
 have hl:=hpre
 refine⟨[(0,6,LA.mk [.sl 8 (.int .i64),.lst 3 .str 9] (fun y=>Tag 39/\cu [.int .i64,.list .str] (fun(k:Int) (M:List ByteArray)=>(0<=k/\k<=l.length)/\(M=CN (l.take k.toNat))) y) (cu [.int .i64,.list .str] (fun(k:Int) (M:List ByteArray)=>((l.length:Int)-k).toNat)) (cu [.int .i64,.list .str] (fun(k:Int) (M:List ByteArray)=>([]:List (Nat×Nat×LA)))))],?_⟩
 repeat' (first
  |(
 with_reducible refine Side.mk ⟨(⟨⟩:Tag 39),?_⟩
 dsimp only[cu,aC,aB,gts,Prod.eta,List.nil_append]
 refine⟨?_,?_⟩
 · omega
 · first
   |(rfl)
   |(
  unfold CN
  rw[qL (by omega),List.map_append]
  show _=CN (l.take k.toNat)++_
  rw[<-hM]
  rfl))
  |(
 with_reducible refine Side.mk ?_
 (try dsimp only[cu,aC,aB,gts,loK,hiK,Prod.eta,List.nil_append])
 first
 |(done)
 |(omega)
 |(exact Eq.refl _)
 |(
  have hml:=congrArg List.length hM
  simp only[CN,List.length_map,List.length_take]at hml
  (try simp only[List.length_cons,List.length_nil])
  omega))
  |(conv=>whnf
    first
     |done
     |exact trivial
     |with_reducible refine NilBr.mk (fun h=>?_) ?_
     |with_reducible first|refine aJ ?_ ?_|refine aI ?_ ?_|refine aK (by kernel_rfl) ?_|refine aL ?_|refine bD ?_ ?_|refine bC ?_ ?_|refine aR ?_ ?_
     |((with_reducible first|refine aT (fun h=>?_) (fun h=>?_)|refine aS (fun h=>?_) (fun h=>?_)|refine bA (fun h=>?_) (fun h=>?_))<;>(try dsimp only[cu,Prod.eta,List.nil_append]at h)<;>(try(exfalso;omega;done)))
     |(
 intro yy (hy:Tag 39/\_)
 obtain⟨(k:Int),(M:List ByteArray),_⟩:=yy
 replace hy:=hy.2
 dsimp only[cu,aC,aB,gts,Prod.eta,List.nil_append]at hy
 obtain⟨hk,hM⟩:=hy)))
 all_goals(
 with_reducible refine Leaf.mk ?_
 (try dsimp only[cu,aC,aB,gts,Prod.eta,List.nil_append]at *)
 rw[hM,List.take_of_length_le (by omega)])
abbrev qXH:Tbl:=(158,xF)::qXG
theorem qDP:aD Tryz.prog qXH:=aD.cons ZP qDO
abbrev RE:Ct:=.fn [.int .i64,.int .i64,.list bQ] (some (fun(t:Int) (c:Int) (l:List Val)=>(l.length<=4096)/\(∀v,v∈l->okV v))) (fun(t:Int) (c:Int) (l:List Val)=>.d .str (rG t c l))
theorem qUA:aH Tryz.prog 121 RE:=by
 refine aH.fn qDP mixed [] [] rfl rfl ?_
 rintro⟨(t:Int),(c:Int),(l:List Val),_⟩ hpre
 replace hpre:=hpre _ rfl
 dsimp only[cu]at hpre
 obtain⟨hl,hv⟩:=hpre
 refine⟨[(0,20,LA.mk [.sl 28 (.int .i64),.sl 7 .str] (fun y=>Tag 40/\cu [.int .i64,.str] (fun(k:Int) (x:ByteArray)=>(0<=k/\k<=l.length)/\(plL t l=x++plL t (l.drop k.toNat))/\((x.size:Int)<=1048586*k)) y) (cu [.int .i64,.str] (fun(k:Int) (x:ByteArray)=>((l.length:Int)-k).toNat)) (cu [.int .i64,.str] (fun(k:Int) (x:ByteArray)=>([]:List (Nat×Nat×LA)))))],?_⟩
 repeat' (first
  |(
 with_reducible refine Side.mk ⟨(⟨⟩:Tag 40),?_⟩
 dsimp only[cu,aC,aB,gts,Prod.eta,List.nil_append]
 refine⟨?_,?_,?_⟩
 · omega
 · first
   |(rw[show(⟨#[]⟩:ByteArray)=ByteArray.empty from rfl,ByteArray.empty_append];rfl)
   |(
  have hat:=YS hv k.toNat
  have hat1:=hat.1
  have h64:=aW (n:=(l[k.toNat]!.2.2.size:Int)) (by omega)
  have p1:=dO (l[k.toNat]!.2.2.size:Int)
  have p2:=dO (gB l[k.toNat]!.2.1)
  first
  |(
   have ht:t=3:=by with_reducible assumption
   rw[hx,TR (by omega),plV,if_pos ht,h64,<-ByteArray.append_assoc])
  |(
   have ht:¬t=3:=by with_reducible assumption
   rw[hx,TR (by omega),plV,if_neg ht,<-ByteArray.append_assoc]))
 · first
   |(exact Int.le_refl _)
   |(
  have hat:=YS hv k.toNat
  have hat1:=hat.1
  have h64:=aW (n:=(l[k.toNat]!.2.2.size:Int)) (by omega)
  have p1:=dO (l[k.toNat]!.2.2.size:Int)
  have p2:=dO (gB l[k.toNat]!.2.1)
  simp only[ByteArray.size_append,h64]
  omega))
  |(
 with_reducible refine Side.mk ?_
 (try dsimp only[cu,aC,aB,gts,loK,hiK,Prod.eta,List.nil_append])
 first
 |(omega)
 |(
  have hat:=YS hv k.toNat
  have hat1:=hat.1
  have h64:=aW (n:=(l[k.toNat]!.2.2.size:Int)) (by omega)
  have p1:=dO (l[k.toNat]!.2.2.size:Int)
  have p2:=dO (gB l[k.toNat]!.2.1)
  first
  |(omega)
  |(exact nE hat.2)
  |(exact hat.2)
  |(
   rw[h64]
   omega)
  |(
   simp only[ByteArray.size_append,h64]
   omega))
 |(refine⟨by simp [qB];omega,qQD hv⟩)
 |(refine⟨qB8 hv,by simp [CN];omega⟩))
  |(conv=>whnf
    first
     |done
     |exact trivial
     |with_reducible refine NilBr.mk (fun h=>?_) ?_
     |with_reducible first|refine aJ ?_ ?_|refine aI ?_ ?_|refine aK (by kernel_rfl) ?_|refine aL ?_|refine bD ?_ ?_|refine bC ?_ ?_|refine aR ?_ ?_
     |((with_reducible first|refine aT (fun h=>?_) (fun h=>?_)|refine aS (fun h=>?_) (fun h=>?_)|refine bA (fun h=>?_) (fun h=>?_))<;>(try dsimp only[cu,Prod.eta,List.nil_append]at h)<;>(try(exfalso;omega;done)))
     |(
 intro yy (hy:Tag 40/\_)
 obtain⟨(k:Int),(x:ByteArray),_⟩:=yy
 replace hy:=hy.2
 dsimp only[cu,aC,aB,gts,Prod.eta,List.nil_append]at hy
 obtain⟨hk,hx,hz⟩:=hy)))
 all_goals(
 with_reducible refine Leaf.mk ?_
 (try dsimp only[cu,aC,aB,gts,Prod.eta,List.nil_append]at *)
 first
 |(
  have hc:c=2:=by with_reducible assumption
  rw[rG,if_pos hc])
 |(
  have hc:¬c=2:=by with_reducible assumption
  first
  |(
   have hc3:c=3:=by with_reducible assumption
   rw[rG,if_neg hc,if_pos hc3])
  |(
   have hc3:¬c=3:=by with_reducible assumption
   first
   |(
    have hc4:c=4:=by with_reducible assumption
    rw[rG,if_neg hc,if_neg hc3,if_pos hc4])
   |(
    have hc4:¬c=4:=by with_reducible assumption
    rw[rG,if_neg hc,if_neg hc3,if_neg hc4,hx,List.drop_eq_nil_of_le (by omega),plL,ByteArray.append_empty]))))
abbrev qXI:Tbl:=(121,RE)::qXH
theorem qDQ:aD Tryz.prog qXI:=aD.cons qUA qDP
abbrev KM:Ct:=.fn [.int .i64,.int .i64] (none) (fun(t:Int) (c:Int)=>.d .bool (cU t c))
theorem qRD:aH Tryz.prog 82 KM:=by
 refine aH.fn qDQ mixed [] [] rfl rfl ?_
 rintro⟨(t:Int),(c:Int),_⟩ -
 refine⟨[],?_⟩
 repeat' (first
  |(
 with_reducible refine Side.mk ?_
 (try dsimp only[cu,aC,aB,gts,loK,hiK,Prod.eta,List.nil_append])
 done)
  |(conv=>whnf
    first
     |done
     |exact trivial
     |with_reducible refine NilBr.mk (fun h=>?_) ?_
     |with_reducible first|refine aJ ?_ ?_|refine aI ?_ ?_|refine aK (by kernel_rfl) ?_|refine aL ?_|refine bD ?_ ?_|refine bC ?_ ?_|refine aR ?_ ?_
     |((with_reducible first|refine aT (fun h=>?_) (fun h=>?_)|refine aS (fun h=>?_) (fun h=>?_)|refine bA (fun h=>?_) (fun h=>?_))<;>(try dsimp only[cu,Prod.eta,List.nil_append]at h)<;>(try(exfalso;omega;done)))))
 all_goals(
 with_reducible refine Leaf.mk ?_
 (try dsimp only[cu,aC,aB,gts,Prod.eta,List.nil_append]at *)
 grind [cU])
abbrev qXJ:Tbl:=(82,KM)::qXI
theorem qDR:aD Tryz.prog qXJ:=aD.cons qRD qDQ
theorem MR {l:List Val} {k:Int} (h:0<=k/\k<l.length):iG (l.take (k+1).toNat)=iG (l.take k.toNat)++(if l[k.toNat]!.1=true then[]else[l[k.toNat]!]):=by
 rw[qL h]
 unfold iG
 rw[List.filter_append]
 generalize l[k.toNat]! =x
 by_cases q:x.1=true
 · rw[if_pos q];simp [q]
 · rw[if_neg q];simp [q]
theorem YO {l:List Val} {k:Int} (h:0<=k/\k<l.length):kB (l.take (k+1).toNat)=kB (l.take k.toNat)++ [l[k.toNat]!.1]:=by
 rw[qL h];simp [kB]
theorem qJB {t k:Int} {l:List Val} (h:(iG l).length<l.length):pI t k l=(xR k l++TG (kB l))++rG t k (iG l):=by rw[pI,if_pos h]
theorem FS {t k:Int} {l:List Val} (h:¬(iG l).length<l.length):pI t k l=xR k l++rG t k (iG l):=by rw[pI,if_neg h]
abbrev AX:Ct:=.fn [qK,.int .i64,.list bQ] (some (fun(c:Col) (k:Int) (l:List Val)=>(l.length<=4096)/\(∀v,v∈l->okV v))) (fun(c:Col) (k:Int) (l:List Val)=>.d .str (eP c.2.1 k l))
theorem qFS:aH Tryz.prog 83 AX:=by
 refine aH.fn qDR mixed [] [] rfl rfl ?_
 rintro⟨(c:Col),(k:Int),(l:List Val),_⟩ hpre
 replace hpre:=hpre _ rfl
 dsimp only[cu]at hpre
 obtain⟨hl,hv⟩:=hpre
 refine⟨[(0,8,LA.mk [.sl 14 (.int .i64),.lst 7 bQ 43,.lst 8 .bool 4] (fun y=>Tag 41/\cu [.int .i64,.list bQ,.list .bool] (fun(i:Int) (P:List Val) (N:List Bool)=>(0<=i/\i<=l.length)/\(P=iG (l.take i.toNat))/\(N=kB (l.take i.toNat))) y) (cu [.int .i64,.list bQ,.list .bool] (fun(i:Int) (P:List Val) (N:List Bool)=>((l.length:Int)-i).toNat)) (cu [.int .i64,.list bQ,.list .bool] (fun(i:Int) (P:List Val) (N:List Bool)=>([]:List (Nat×Nat×LA)))))],?_⟩
 repeat' (first
  |(
 with_reducible refine Side.mk ⟨(⟨⟩:Tag 41),?_⟩
 dsimp only[cu,aC,aB,gts,Prod.eta,List.nil_append]
 refine⟨?_,?_,?_⟩
 · omega
 · first
   |(rfl)
   |(
  have hb:l[i.toNat]!.1=true:=by first|with_reducible assumption|exact vV (by with_reducible assumption)
  rw[MR (by omega),<-hP,if_pos hb,List.append_nil])
   |(
  have hb:¬l[i.toNat]!.1=true:=by first|with_reducible assumption|(simp_all;done)
  rw[MR (by omega),<-hP,if_neg hb])
 · first
   |(rfl)
   |(rw[YO (by omega),<-hN]))
  |(
 with_reducible refine Side.mk ?_
 (try dsimp only[cu,aC,aB,gts,loK,hiK,Prod.eta,List.nil_append])
 first
 |(done)
 |(omega)
 |(exact Eq.refl _)
 |(
  have hpl:=qJ (l.take i.toNat)
  rw[<-hP,List.length_take]at hpl
  first
  |(omega)
  |(
   (try simp only[List.length_cons,List.length_nil])
   omega))
 |(
  have hnl:=congrArg List.length hN
  simp only[kB,List.length_map,List.length_take]at hnl
  (try simp only[List.length_cons,List.length_nil])
  omega)
 |(exact qM _)
 |(
  have hpl:=qJ (l.take i.toNat)
  rw[<-hP,List.length_take]at hpl
  have w1:=aW (n:=(l.length:Int)) (by omega)
  have w2:=aW (n:=(l.length:Int)-P.length) (by omega)
  have hF:P=iG l:=by rw[hP,List.take_of_length_le (by omega)]
  have hG:N=kB l:=by rw[hN,List.take_of_length_le (by omega)]
  have hh:=LM k l
  have hp:=TO (t:=c.2.1) (k:=k) (PZ hv) (by have:=qJ l;omega)
  have hq:=GX (l:=kB l) (by simp [kB];omega)
  have p1:=dO (l.length:Int)
  have p2:=dO ((l.length:Int)-P.length)
  rw[<-hF]at hp
  rw[<-hG]at hq
  simp only[ByteArray.size_append,w1,w2,yD,cP [_],pY,List.length_cons,List.length_nil]
  omega)
 |(
  have hF:P=iG l:=by rw[hP,List.take_of_length_le (by omega)]
  have hG:N=kB l:=by rw[hN,List.take_of_length_le (by omega)]
  have hpl:=qJ (l.take i.toNat)
  rw[<-hP,List.length_take]at hpl
  refine⟨by omega,?_⟩
  rw[hF]
  exact PZ hv))
  |(conv=>whnf
    first
     |done
     |exact trivial
     |with_reducible refine NilBr.mk (fun h=>?_) ?_
     |with_reducible first|refine aJ ?_ ?_|refine aI ?_ ?_|refine aK (by kernel_rfl) ?_|refine aL ?_|refine bD ?_ ?_|refine bC ?_ ?_|refine aR ?_ ?_
     |((with_reducible first|refine aT (fun h=>?_) (fun h=>?_)|refine aS (fun h=>?_) (fun h=>?_)|refine bA (fun h=>?_) (fun h=>?_))<;>(try dsimp only[cu,Prod.eta,List.nil_append]at h)<;>(try(exfalso;omega;done)))
     |(
 intro yy (hy:Tag 41/\_)
 obtain⟨(i:Int),(P:List Val),(N:List Bool),_⟩:=yy
 replace hy:=hy.2
 dsimp only[cu,aC,aB,gts,Prod.eta,List.nil_append]at hy
 obtain⟨hi,hP,hN⟩:=hy)))
 all_goals(
 with_reducible refine Leaf.mk ?_
 (try dsimp only[cu,aC,aB,gts,Prod.eta,List.nil_append]at *)
 first
 |(
  have hpl:=qJ (l.take i.toNat)
  rw[<-hP,List.length_take]at hpl
  have w1:=aW (n:=(l.length:Int)) (by omega)
  have w2:=aW (n:=(l.length:Int)-P.length) (by omega)
  have hF:P=iG l:=by rw[hP,List.take_of_length_le (by omega)]
  have hG:N=kB l:=by rw[hN,List.take_of_length_le (by omega)]
  first
  |(
   have hlt:(iG l).length<l.length:=by rw[<-hF];omega
   rw[w1,w2,eP,bH,qJB hlt,hF,hG]
   (try rfl))
  |(
   have hlt:¬(iG l).length<l.length:=by rw[<-hF];omega
   rw[w1,w2,eP,bH,FS hlt,hF]
   (try rfl))))
abbrev qXK:Tbl:=(83,AX)::qXJ
theorem qDS:aD Tryz.prog qXK:=aD.cons qFS qDR
abbrev ZV:Val:=(false,0,⟨#[]⟩)
def nV (n:Int):Val:=(false,n,⟨#[]⟩)
def sV (s:ByteArray):Val:=(false,0,s)
abbrev NV:Val:=(true,0,⟨#[]⟩)
def kL (t:Int) (s:ByteArray):Nat->Int->List Val->List Val×Bool
 |0,a,M=>(M,decide (a=s.size))
 |k+1,a,M=>if(aA s a).2.2≠0 then([],false)
  else if t=3 then(if(aA s a).1>s.size-(aA s a).2.1 then([],false)else kL t s k ((aA s a).2.1+(aA s a).1) (M++ [sV (s.extract (aA s a).2.1.toNat ((aA s a).2.1+(aA s a).1).toNat)]))
  else kL t s k (aA s a).2.1 (M++ [nV (pR (aA s a).1)])
def rZ (n:Int) (l:List Val):List Val:=l++List.replicate (n-l.length).toNat ZV
def fZ (t k:Int) (s:ByteArray) (n:Int):List Val×Bool:=
 if k=1 then kL t s n.toNat 0 []else if k=3 then((cQ s n).1.map sV,decide ((cQ s n).2=0))
 else if k=4 then((cI s n).1.map nV,decide ((cI s n).2=0))else((eK s n).1.map nV,decide ((eK s n).2=0))
def uR (t k:Int) (s:ByteArray) (n:Int):List Val×Bool:=if k=1 then kL t s n.toNat 0 []else(rZ n (fZ t k s n).1,(fZ t k s n).2)
theorem qUF {t:Int} {s:ByteArray} {n a:Int} {M:List Val} (h:(M.length:Int)<n) (h1:¬(aA s a).2.2=0):kL t s (n-M.length).toNat a M=([],false):=by
 rw[show(n-M.length).toNat=(n-M.length-1).toNat+1 by omega,kL,if_pos h1]
theorem qLU {t:Int} {s:ByteArray} {n a:Int} {M:List Val} (h:(M.length:Int)<n) (h1:(aA s a).2.2=0) (ht:t=3) (h2:(aA s a).1>s.size-(aA s a).2.1):kL t s (n-M.length).toNat a M=([],false):=by
 rw[show(n-M.length).toNat=(n-M.length-1).toNat+1 by omega,kL,if_neg (fun q=>q h1),if_pos ht,if_pos h2]
theorem qUH {t:Int} {s:ByteArray} {n a:Int} {M:List Val} (h:(M.length:Int)<n) (h1:(aA s a).2.2=0) (ht:t=3) (h2:¬(aA s a).1>s.size-(aA s a).2.1) :
  kL t s (n-M.length).toNat a M=kL t s (n-(M++ [sV (s.extract (aA s a).2.1.toNat ((aA s a).2.1+(aA s a).1).toNat)]).length).toNat ((aA s a).2.1+(aA s a).1) (M++ [sV (s.extract (aA s a).2.1.toNat ((aA s a).2.1+(aA s a).1).toNat)]):=by
 rw[show(n-M.length).toNat=(n-M.length-1).toNat+1 by omega,kL,if_neg (fun q=>q h1),if_pos ht,if_neg h2]
 congr 1
 simp;omega
theorem qUG {t:Int} {s:ByteArray} {n a:Int} {M:List Val} (h:(M.length:Int)<n) (h1:(aA s a).2.2=0) (ht:¬t=3) :
  kL t s (n-M.length).toNat a M=kL t s (n-(M++ [nV (pR (aA s a).1)]).length).toNat (aA s a).2.1 (M++ [nV (pR (aA s a).1)]):=by
 rw[show(n-M.length).toNat=(n-M.length-1).toNat+1 by omega,kL,if_neg (fun q=>q h1),if_neg ht]
 congr 1
 simp;omega
theorem qUE {t:Int} {s:ByteArray} {n a:Int} {M:List Val} (h:¬(M.length:Int)<n):kL t s (n-M.length).toNat a M=(M,decide (a=s.size)):=by
 rw[show(n-M.length).toNat=0 by omega,kL]
theorem YZ {t:Int} {s:ByteArray}:∀(k:Nat) (a:Int) (M:List Val),(kL t s k a M).2=true->(kL t s k a M).1.length=M.length+k
 |0,a,M,h=>rfl
 |k+1,a,M,h=>by
  rw[kL]at h ⊢
  split at h
  · cases h
  · rename_i h1
    rw[if_neg h1]
    split at h
    · rename_i ht
      rw[if_pos ht]
      split at h
      · cases h
      · rename_i h2
        rw[if_neg h2,YZ k _ _ h];simp;omega
    · rename_i ht
      rw[if_neg ht,YZ k _ _ h];simp;omega
theorem qAO {s:ByteArray} {n:Int}:∀(m:Nat) (a:Int) (M:List Int),(n-M.length).toNat<=m->(M.length:Int)<=n->((dGo s n a M).2=0->((dGo s n a M).1.length:Int)=n)/\((dGo s n a M).2≠0->(dGo s n a M).1= [])
 |m,a,M,hm,hM=>by
  rw[dGo]
  split
  · split
    · rename_i h1;exact⟨fun q=>absurd q h1,fun _=>rfl⟩
    · split
      · exact⟨fun q=>absurd q (by decide),fun _=>rfl⟩
      · rename_i h2
        split
        · rename_i h3;exact⟨fun q=>absurd q h3,fun _=>rfl⟩
        · split
          · exact⟨fun q=>absurd q (by decide),fun _=>rfl⟩
          · have hg:=aY s a
            obtain⟨m,rfl⟩:∃m',m=m'+1:=⟨m-1,by omega⟩
            exact qAO m _ _ (by simp only[List.length_append,List.length_replicate];omega) (by simp only[List.length_append,List.length_replicate];omega)
  · split
    · exact⟨fun q=>absurd q (by decide),fun _=>rfl⟩
    · exact⟨fun _=>by show((M.length:Nat):Int)=n;omega,fun q=>absurd rfl q⟩
theorem PY {s:ByteArray} {n:Int}:((eK s n).2=0->((eK s n).1.length:Int)=n)/\((eK s n).2≠0->(eK s n).1= []):=by
 unfold eK
 split
 · exact⟨fun q=>absurd q (by decide),fun _=>rfl⟩
 · exact qAO _ _ _ (Nat.le_refl _) (by simp;omega)
theorem qJU {s:ByteArray} {n:Int}:∀(m:Nat) (a:Int) (M:List Int),(n-M.length).toNat<=m->(M.length:Int)<=n->((dd s n a M).2=0->((dd s n a M).1.length:Int)=n)/\((dd s n a M).2≠0->(dd s n a M).1= [])
 |m,a,M,hm,hM=>by
  rw[dd]
  split
  · rename_i h
    split
    · rename_i h2
      have hk:=AA h
      have hb:=(tS h2).1
      obtain⟨m,rfl⟩:∃m',m=m'+1:=⟨m-1,by omega⟩
      exact qJU m _ _ (by simp only[List.length_append,oD];omega) (by simp only[List.length_append,oD];omega)
    · rename_i h2;exact⟨fun q=>absurd q h2,fun _=>rfl⟩
  · split
    · exact⟨fun q=>absurd q (by decide),fun _=>rfl⟩
    · exact⟨fun _=>by show((M.length:Nat):Int)=n;omega,fun q=>absurd rfl q⟩
theorem FX {s:ByteArray} {n:Int}:((cI s n).2=0->((cI s n).1.length:Int)=n)/\((cI s n).2≠0->(cI s n).1= []):=by
 unfold cI
 split
 · exact⟨fun q=>absurd q (by decide),fun _=>rfl⟩
 · split
   · rename_i hn
     split
     · exact⟨fun _=>by subst hn;rfl,fun q=>absurd rfl q⟩
     · exact⟨fun q=>absurd q (by decide),fun _=>rfl⟩
   · split
     · rename_i h1;exact⟨fun q=>absurd q h1,fun _=>rfl⟩
     · exact qJU _ _ _ (Nat.le_refl _) (by simp only[List.length_cons,List.length_nil];omega)
theorem vM {s:ByteArray} {n:Int}:((cQ s n).2=0->((cQ s n).1.length:Int)=n)/\((cQ s n).2≠0->(cQ s n).1= []):=by
 unfold cQ XG XH OH
 split
 · exact⟨fun q=>absurd q (by decide),fun _=>rfl⟩
 rename_i q1
 split
 · rename_i h;exact⟨fun q=>absurd q h,fun _=>rfl⟩
 split
 · exact⟨fun q=>absurd q (by decide),fun _=>rfl⟩
 split
 · rename_i h;exact⟨fun q=>absurd q h,fun _=>rfl⟩
 split
 · rename_i h;exact⟨fun q=>absurd q h,fun _=>rfl⟩
 rename_i q5
 split
 · exact⟨fun q=>absurd q (by decide),fun _=>rfl⟩
 split
 · exact⟨fun q=>absurd q (by decide),fun _=>rfl⟩
 · have:=iI (Decidable.not_not.1 q5)
   refine⟨fun _=>?_,fun q=>absurd rfl q⟩
   simp only[List.length_map];omega
theorem qB2 {t k:Int} {s:ByteArray} {n:Int} (h0:0<=n) (h:(fZ t k s n).2=true):((fZ t k s n).1.length:Int)=n:=by
 unfold fZ at h ⊢
 split at h
 · rename_i h1
   rw[if_pos h1,YZ _ _ _ h];simp;omega
 · rename_i h1
   rw[if_neg h1]
   split at h
   · rename_i h2
     rw[if_pos h2]
     have:=vM.1 (of_decide_eq_true h)
     simp only[List.length_map];exact this
   · rename_i h2
     rw[if_neg h2]
     split at h
     · rename_i h3
       rw[if_pos h3]
       have:=FX.1 (of_decide_eq_true h)
       simp only[List.length_map];exact this
     · rename_i h3
       rw[if_neg h3]
       have:=PY.1 (of_decide_eq_true h)
       simp only[List.length_map];exact this
theorem NA (t k:Int) (s:ByteArray) (n:Int):(uR t k s n).2=(fZ t k s n).2:=by
 unfold uR
 split
 · rename_i h;rw[fZ,if_pos h]
 · rfl
theorem qEY {t k:Int} {s:ByteArray} {n:Int} (h0:0<=n) (h:(fZ t k s n).2=true):(uR t k s n).1=(fZ t k s n).1:=by
 have hl:=qB2 h0 h
 unfold uR
 split
 · rename_i h1;rw[fZ,if_pos h1]
 · show rZ n (fZ t k s n).1=_
   unfold rZ
   rw[show(n-(fZ t k s n).1.length).toNat=0 by omega];simp
def pkV (b:Bool) (R:List Val):Val:=if b=true then NV else R[0]!
def rsV (b:Bool) (R:List Val):List Val:=if b=true then R else R.drop 1
def asm (c:Col):List Bool->List Val->List Val->List Val×Bool
 | [],_,M=>(M,true)
 |b::r,R,M=>if bR c (pkV b R)≠0 then([],false)else asm c r (rsV b R) (M++ [pkV b R])
def mT:List Bool->Nat
 | []=>0
 |b::r=>(if b=true then 0 else 1)+mT r
def fU (s:ByteArray) (a n k:Int):List Bool×Bool×Int:=
 if k>0 then(if a+(n+7).tdiv 8>s.size\/(jT (s.extract a.toNat (a+(n+7).tdiv 8).toNat) n).2≠0\/qV (s.extract a.toNat (a+(n+7).tdiv 8).toNat)≠k then([],false,0)
  else((jT (s.extract a.toNat (a+(n+7).tdiv 8).toNat) n).1,true,a+(n+7).tdiv 8))
 else(List.replicate n.toNat false,true,a)
def qS5 (c:Col) (N:List Bool) (r:List Val×Bool):List Val×Bool:=if r.2=false then([],false)else asm c N r.1 []
def IC (c:Col) (s:ByteArray) (n k:Int) (x:List Bool×Bool×Int):List Val×Bool:=if x.2.1=false then([],false)else qS5 c x.1 (fZ c.2.1 (aG s (0:Int).toNat) (s.extract x.2.2.toNat s.size) (n-k))
def pH (c:Col) (s:ByteArray):List Val×Bool:=
 if cU c.2.1 (aG s (0:Int).toNat)=false\/(aA s 1).2.2≠0\/(aA s 1).1>4096 then([],false)
 else if(aA s (aA s 1).2.1).2.2≠0\/(aA s (aA s 1).2.1).1>(aA s 1).1 then([],false)
 else IC c s (aA s 1).1 (aA s (aA s 1).2.1).1 (fU s (aA s (aA s 1).2.1).2.1 (aA s 1).1 (aA s (aA s 1).2.1).1)
def nQ (c:Col) (s:ByteArray):List Val×Int:=
 if cA c.2.1=false then([],1)else if fD s≠0 then([],fD s)else if(pH c (eL s)).2=false then([],2)else((pH c (eL s)).1,0)
theorem wO {c:Col} {N:List Bool} {R M:List Val} {i:Int} (h:0<=i/\i<N.length):asm c (N.drop i.toNat) R M=if bR c (pkV N[i.toNat]! R)≠0 then([],false)else asm c (N.drop (i+1).toNat) (rsV N[i.toNat]! R) (M++ [pkV N[i.toNat]! R]):=by
 rw[bI N i h];rfl
theorem qAG {c:Col} {N:List Bool} {R M:List Val} {i:Int} (h:¬i<N.length) (h0:0<=i):asm c (N.drop i.toNat) R M=(M,true):=by
 rw[List.drop_eq_nil_of_le (by omega)];rfl
theorem KW {N:List Bool} {i:Int} (h:0<=i/\i<N.length):mT (N.drop i.toNat)=(if N[i.toNat]! =true then 0 else 1)+mT (N.drop (i+1).toNat):=by
 rw[bI N i h];rfl
theorem qJD (a b:List Bool):mT (a++b)=mT a+mT b:=by
 induction a with
 |nil=>simp [mT]
 |cons x a ih=>simp only[List.cons_append,mT,ih];omega
theorem qJE (n:Nat):mT (List.replicate n false)=n:=by
 induction n with
 |zero=>rfl
 |succ n ih=>rw[List.replicate_succ,mT,ih];simp;omega
theorem KV (s:ByteArray):∀m:Nat,((mT (uU s m):Nat):Int)+nO s m=m
 |0=>rfl
 |m+1=>by
  have ih:=KV s m
  have e:=EB s (k:=(m:Int)) (by omega)
  rw[show((m:Int)+1).toNat=m+1 by omega,show((m:Int)).toNat=m by omega]at e
  rw[e,qJD,nO]
  have hb:=vZ s m
  by_cases q:QT s m=true
  · have:=qS4 q
    simp only[mT,q];simp;omega
  · have:=qS3 (by simpa using q:QT s m=false)
    simp only[mT,q];simp;omega
theorem FT {s:ByteArray} {n:Nat}:∀d:Nat,(∀q:Nat,n<=q->q<n+d->sbit s q≠1)->nO s (n+d)=nO s n
 |0,_=>rfl
 |d+1,h=>by
  have h1:=h (n+d) (by omega) (by omega)
  have h2:=vZ s (n+d)
  rw[show n+(d+1)=n+d+1 by omega,nO,FT d (fun q g1 g2=>h q g1 (by omega))];omega
theorem qRB {s:ByteArray} {n:Int} (h:(jT s n).2=0):0<=n/\n<=4096/\(jT s n).1=uU s n.toNat/\((mT (jT s n).1:Nat):Int)+qV s=n:=by
 unfold jT at h ⊢
 split at h
 · exact absurd h (by decide)
 · rename_i h1
   rw[if_neg h1]
   split at h
   · exact absurd h (by decide)
   · rename_i h2
     rw[if_neg h2]
     split at h
     · exact absurd h (by decide)
     · rename_i h3
       rw[if_neg h3]
       split at h
       · exact absurd h (by decide)
       · rename_i h4
         rw[if_neg h4]
         refine⟨by omega,by omega,rfl,?_⟩
         have hd:=oH (n:=n+7) (by omega)
         have e1:=KV s n.toNat
         have e2:=FT (s:=s) (n:=n.toNat) (8*s.size-n.toNat) (fun q g1 g2 g3=>h4 (UQ g1 (by omega) g3))
         rw[show n.toNat+(8*s.size-n.toNat)=8*s.size by omega]at e2
         show((mT (uU s n.toNat):Nat):Int)+qV s=n
         unfold qV
         omega
theorem vF {s:ByteArray} {a n k:Int} (h:¬k>0):fU s a n k=(List.replicate n.toNat false,true,a):=by rw[fU,if_neg h]
theorem qBH {s:ByteArray} {a n k:Int} (h:k>0) (h1:a+(n+7).tdiv 8>s.size\/(jT (s.extract a.toNat (a+(n+7).tdiv 8).toNat) n).2≠0\/qV (s.extract a.toNat (a+(n+7).tdiv 8).toNat)≠k):fU s a n k=([],false,0):=by rw[fU,if_pos h,if_pos h1]
theorem tA {s:ByteArray} {a n k:Int} (h:k>0) (h1:¬a+(n+7).tdiv 8>s.size) (h2:(jT (s.extract a.toNat (a+(n+7).tdiv 8).toNat) n).2=0) (h3:qV (s.extract a.toNat (a+(n+7).tdiv 8).toNat)=k) :
  fU s a n k=((jT (s.extract a.toNat (a+(n+7).tdiv 8).toNat) n).1,true,a+(n+7).tdiv 8):=by
 rw[fU,if_pos h,if_neg (fun q=>by rcases q with q|q|q<;>contradiction)]
theorem qT3 {s:ByteArray} {a n k:Int} (hn:0<=n/\n<=4096) (ha:0<=a/\a<=s.size) (hk:0<=k/\k<=n) (h:(fU s a n k).2.1=true):((fU s a n k).1.length:Int)=n/\((mT (fU s a n k).1:Nat):Int)=n-k/\0<=(fU s a n k).2.2/\(fU s a n k).2.2<=s.size:=by
 by_cases h0:k>0
 · by_cases h1:a+(n+7).tdiv 8>s.size\/(jT (s.extract a.toNat (a+(n+7).tdiv 8).toNat) n).2≠0\/qV (s.extract a.toNat (a+(n+7).tdiv 8).toNat)≠k
   · rw[qBH h0 h1]at h;cases h
   · have g1:¬a+(n+7).tdiv 8>s.size:=fun q=>h1 (.inl q)
     have g2:(jT (s.extract a.toNat (a+(n+7).tdiv 8).toNat) n).2=0:=Decidable.not_not.1 fun q=>h1 (.inr (.inl q))
     have g3:qV (s.extract a.toNat (a+(n+7).tdiv 8).toNat)=k:=Decidable.not_not.1 fun q=>h1 (.inr (.inr q))
     rw[tA h0 g1 g2 g3]
     obtain⟨_,_,e1,e2⟩:=qRB g2
     have hd:=oH (n:=n+7) (by omega)
     refine⟨?_,by show((mT (jT _ n).1:Nat):Int)=n-k;omega,by show 0<=a+(n+7).tdiv 8;omega,by show a+(n+7).tdiv 8<=s.size;omega⟩
     show((jT _ n).1.length:Int)=n
     rw[e1,qFQ];omega
 · rw[vF h0]
   refine⟨by show((List.replicate n.toNat false).length:Int)=n;rw[List.length_replicate];omega,by show((mT (List.replicate n.toNat false):Nat):Int)=n-k;rw[qJE];omega,ha.1,ha.2⟩
theorem qI5 {c:Col} {s:ByteArray} (h:cU c.2.1 (aG s (0:Int).toNat)=false\/(aA s 1).2.2≠0\/(aA s 1).1>4096):pH c s=([],false):=by rw[pH,if_pos h]
theorem qRP {c:Col} {s:ByteArray} (h:¬(cU c.2.1 (aG s (0:Int).toNat)=false\/(aA s 1).2.2≠0\/(aA s 1).1>4096)) (h2:(aA s (aA s 1).2.1).2.2≠0\/(aA s (aA s 1).2.1).1>(aA s 1).1):pH c s=([],false):=by rw[pH,if_neg h,if_pos h2]
theorem qU9 {c:Col} {s:ByteArray} (h:¬(cU c.2.1 (aG s (0:Int).toNat)=false\/(aA s 1).2.2≠0\/(aA s 1).1>4096)) (h2:¬((aA s (aA s 1).2.1).2.2≠0\/(aA s (aA s 1).2.1).1>(aA s 1).1)) :
 pH c s=IC c s (aA s 1).1 (aA s (aA s 1).2.1).1 (fU s (aA s (aA s 1).2.1).2.1 (aA s 1).1 (aA s (aA s 1).2.1).1):=by rw[pH,if_neg h,if_neg h2]
theorem qN8 {c:Col} {s:ByteArray} {n k:Int} {x:List Bool×Bool×Int} (h:x.2.1=false):IC c s n k x=([],false):=by rw[IC,if_pos h]
theorem qN9 {c:Col} {s:ByteArray} {n k A:Int} {N:List Bool} (h1:(fZ c.2.1 (aG s (0:Int).toNat) (s.extract A.toNat s.size) (n-k)).2=false):IC c s n k (N,true,A)=([],false):=by
 rw[IC,if_neg (fun q=>Bool.noConfusion q),qS5,if_pos h1]
theorem QU {c:Col} {s:ByteArray} {n k A:Int} {N:List Bool} (h1:(fZ c.2.1 (aG s (0:Int).toNat) (s.extract A.toNat s.size) (n-k)).2=true):IC c s n k (N,true,A)=asm c N (fZ c.2.1 (aG s (0:Int).toNat) (s.extract A.toNat s.size) (n-k)).1 []:=by
 rw[IC,if_neg (fun q=>Bool.noConfusion q),qS5,if_neg (by rw[h1];decide)]
theorem qS9 {c:Col} {s:ByteArray} (h:cA c.2.1=false):nQ c s=([],1):=by rw[nQ,if_pos h]
theorem qTA {c:Col} {s:ByteArray} (h:cA c.2.1=true) (h1:¬fD s=0):nQ c s=([],fD s):=by rw[nQ,if_neg (by rw[h];decide),if_pos h1]
theorem qTB {c:Col} {s:ByteArray} (h:cA c.2.1=true) (h1:fD s=0) (h2:(pH c (eL s)).2=false):nQ c s=([],2):=by rw[nQ,if_neg (by rw[h];decide),if_neg (fun q=>q h1),if_pos h2]
theorem qJX {c:Col} {s:ByteArray} (h:cA c.2.1=true) (h1:fD s=0) (h2:(pH c (eL s)).2=true):nQ c s=((pH c (eL s)).1,0):=by rw[nQ,if_neg (by rw[h];decide),if_neg (fun q=>q h1),if_neg (by rw[h2];decide)]
theorem GY {n:Int} {l:List Val} (h:(l.length:Int)<=n):((rZ n l).length:Int)=n:=by
 unfold rZ;rw[List.length_append,List.length_replicate];omega
theorem TJ (n:Int):rZ n []=List.replicate n.toNat ZV:=by
 unfold rZ;simp
theorem TI {n:Int} {l:List Val} {i:Int} (hi:i=(l.length:Int)) (h:i<n):(rZ n l)[i.toNat]! =ZV:=by
 unfold rZ
 rw[List.getElem!_eq_getElem?_getD,List.getElem?_append_right (by omega),List.getElem?_replicate,if_pos (by omega)]
 rfl
theorem TK {n:Int} {l:List Val} {i:Int} (v:Val) (hi:i=(l.length:Int)) (h:i<n):(rZ n l).set i.toNat v=rZ n (l++ [v]):=by
 unfold rZ
 rw[List.set_append_right _ _ (by omega),show i.toNat-l.length=0 by omega]
 obtain⟨m,hm⟩:∃m,(n-l.length).toNat=m+1:=⟨(n-l.length).toNat-1,by omega⟩
 rw[hm,List.replicate_succ,List.set_cons_zero,List.append_assoc]
 have:(n-(l++ [v]).length).toNat=m:=by simp;omega
 rw[this];rfl
theorem qGQ {W:List ByteArray} {i:Int} (h:0<=i/\i<W.length):(W.take (i+1).toNat).map sV=(W.take i.toNat).map sV++ [sV W[i.toNat]!]:=by
 rw[show(i+1).toNat=i.toNat+1 by omega,List.take_succ_eq_append_getElem (by omega),getElem!_pos W i.toNat (by omega),List.map_append];rfl
theorem oF {α:Type} {W:List α} {i:Int} (h:0<=i/\i<=W.length):((W.take i.toNat).length:Int)=i:=by
 rw[List.length_take];omega
theorem xL {s:ByteArray} {n:Int} (h:0<=n):((cQ s n).1.length:Int)<=n:=by
 by_cases q:(cQ s n).2=0
 · have:=vM.1 q;omega
 · rw[vM.2 q];simpa using h
theorem yR {s:ByteArray} {n:Int} (h:0<=n):((eK s n).1.length:Int)<=n:=by
 by_cases q:(eK s n).2=0
 · have:=PY.1 q;omega
 · rw[PY.2 q];simpa using h
theorem sJ {s:ByteArray} {n:Int} (h:0<=n):((cI s n).1.length:Int)<=n:=by
 by_cases q:(cI s n).2=0
 · have:=FX.1 q;omega
 · rw[FX.2 q];simpa using h
theorem qV1 {t k:Int} {s:ByteArray} {n:Int} (h:k=1):fZ t k s n=kL t s n.toNat 0 []:=by rw[fZ,if_pos h]
theorem qV2 {t k:Int} {s:ByteArray} {n:Int} (h:k=3):fZ t k s n=((cQ s n).1.map sV,decide ((cQ s n).2=0)):=by rw[fZ,if_neg (by omega),if_pos h]
theorem qMM {t k:Int} {s:ByteArray} {n:Int} (h:k=4):fZ t k s n=((cI s n).1.map nV,decide ((cI s n).2=0)):=by rw[fZ,if_neg (by omega),if_neg (by omega),if_pos h]
theorem qML {t k:Int} {s:ByteArray} {n:Int} (h1:¬k=1) (h3:¬k=3) (h4:¬k=4):fZ t k s n=((eK s n).1.map nV,decide ((eK s n).2=0)):=by rw[fZ,if_neg h1,if_neg h3,if_neg h4]
theorem qYQ {t k:Int} {s:ByteArray} {n:Int} (h:k=1):uR t k s n=kL t s n.toNat 0 []:=by rw[uR,if_pos h]
theorem WF {t k:Int} {s:ByteArray} {n:Int} (h:¬k=1):uR t k s n=(rZ n (fZ t k s n).1,(fZ t k s n).2):=by rw[uR,if_neg h]
def IE (t:Int):List Int:=if t=3 then[1,3]else[1,2,4]
theorem qJH (t:Int):(IE t).length<=3:=by unfold IE;split<;>simp
theorem jN (t k:Int):(IE t).any (fun x=>decide (x=k))=cU t k:=by
 unfold IE cU
 split<;>simp [Bool.or_assoc,eq_comm]
theorem qFK {l:List Int} {i k:Int} (h:0<=i/\i<l.length):(l.take (i+1).toNat).any (fun x=>decide (x=k))=((l.take i.toNat).any (fun x=>decide (x=k))||decide (l[i.toNat]! =k)):=by
 rw[oE h];simp
theorem WH {t k:Int} (h:cU t k=true):1<=k/\k<=4:=by
 unfold cU at h
 split at h<;>simp at h<;>omega
theorem nJ {L:List Val} {i:Int} {v:Val} (h:0<=i/\i<L.length):(L.set i.toNat v).take (i+1).toNat=L.take i.toNat++ [v]:=by
 rw[show(i+1).toNat=i.toNat+1 by omega,yZ _ _ _ (by omega)]
theorem oZ {L:List Val} {i:Int} {v:Val} (h:0<=i/\i<L.length):(L.set i.toNat v)[i.toNat]! =v:=by
 rw[getElem!_pos _ _ (by rw[List.length_set];omega)];simp
theorem qHG {L:List Val} {i:Int} {v:Val} (h:0<=i) (hz:∀j:Nat,i<=j->L[j]! =ZV):∀j:Nat,i+1<=j->(L.set i.toNat v)[j]! =ZV:=fun j hj=>by
 have:=hz j (by omega)
 rw[List.getElem!_eq_getElem?_getD]at this ⊢
 rw[List.getElem?_set_ne (by omega)];exact this
theorem qQR (n:Nat):∀j:Nat,(0:Int)<=j->(List.replicate n ZV)[j]! =ZV:=fun j _=>by
 rw[List.getElem!_eq_getElem?_getD,List.getElem?_replicate];split<;>rfl
theorem qJ8 (s:ByteArray) (a b:Nat):(s.extract a b).size<=s.size:=by simp;omega
abbrev qMZ:Ty:=.pair .str (.int .i64)
abbrev Rdr:Type:=ByteArray×Int
@[reducible] instance:Inhabited Rdr:=instInhabitedDen qMZ
end Go.Proofs.YtcjiefknhfhmkaaGreatDoor
