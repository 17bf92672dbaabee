import Derived.Test.YtcjiefknhfhmkaaGreatDoorM07
namespace Go.Proofs.YtcjiefknhfhmkaaGreatDoor
open Go.Abs
set_option maxRecDepth 100000
set_option maxHeartbeats 4000000
set_option linter.unusedVariables false
set_option linter.unusedSimpArgs false
def four (v:Int):List Int:=[IntKind.u8.wrap v,IntKind.u8.wrap (lK .u32 v 8),IntKind.u8.wrap (lK .u32 v 16),IntKind.u8.wrap (lK .u32 v 24)]
def oY (s:ByteArray):ByteArray:=s++aN (four (qGD s))
theorem bM (v:Int):(aN (put v)).size<=10/\1<=(aN (put v)).size:=by rw[bO];exact aY v
theorem sB (v:Int):(aN (four v)).size=4:=rfl
def qTM (s:ByteArray) (i:Int):Int:=bOr .u32 (bOr .u32 (bOr .u32 (cZ s i.toNat) (rL .u32 (cZ s (i+1).toNat) 8)) (rL .u32 (cZ s (i+2).toNat) 16)) (rL .u32 (cZ s (i+3).toNat) 24)
theorem kP (b:ByteArray):(oY b).size=b.size+4:=by unfold oY;rw[ByteArray.size_append,sB]
abbrev IH:Ct:=.fn [.str] (some (fun(s:ByteArray)=>(s.size<=4611686018427387904))) (fun(s:ByteArray)=>.d .str (oY s))
theorem qMN:aG Tryz.prog 113 IH:=by
 refine aG.fn qAP mixed [] [] rfl rfl ?_;rintro⟨(s:ByteArray),_⟩ hpre;replace hpre:=hpre _ rfl;dsimp only[cu]at hpre;have hs:=hpre;refine⟨[],?_⟩;repeat' (first
  |(
 with_reducible apply Side.mk
 (try dsimp only[cu,aB,aA,gts,loK,hiK,eE,eN])
 first
 |omega
 |exact Eq.refl _
 |(simp only[bO,List.length_cons,List.length_nil];omega))
  |(conv=>whnf
    first
     |with_reducible first|done|exact trivial|refine NilBr.mk (fun h=>?_) ?_|apply aJ|apply aI|refine aK (by kernel_rfl) ?_|apply aL|apply bC|apply bB|apply aO
     |((with_reducible first|apply aQ|apply aP|apply bA)<;>intro h<;>(try dsimp only[cu,eE,eN]at h)<;>(try(exfalso;omega)))))
 all_goals(
 with_reducible apply Leaf.mk
 (try dsimp only[cu,aB,aA,gts,eE,eN]at *)
 rfl)
abbrev qRZ:Tbl:=(113,IH)::qRY
theorem qAQ:aC Tryz.prog qRZ:=aC.cons qMN qAP
abbrev HM:Ct:=.fn [.int .u32] (none) (fun(v:Int)=>.d .str (aN (four v)))
theorem qK6:aG Tryz.prog 44 HM:=by
 refine aG.fn qAQ mixed [] [] rfl rfl ?_;rintro⟨(v:Int),_⟩ -;refine⟨[],?_⟩;repeat' (first
  |(
 with_reducible apply Side.mk
 (try dsimp only[cu,aB,aA,gts,loK,hiK,eE,eN])
 first
 |omega
 |(exact Eq.refl _))
  |(conv=>whnf
    first
     |with_reducible first|done|exact trivial|refine NilBr.mk (fun h=>?_) ?_|apply aJ|apply aI|refine aK (by kernel_rfl) ?_|apply aL|apply bC|apply bB|apply aO
     |((with_reducible first|apply aQ|apply aP|apply bA)<;>intro h<;>(try dsimp only[cu,eE,eN]at h)<;>(try(exfalso;omega)))))
 all_goals(
 with_reducible apply Leaf.mk
 (try dsimp only[cu,aB,aA,gts,eE,eN]at *)
 rfl)
abbrev qR0:Tbl:=(44,HM)::qRZ
theorem qAR:aC Tryz.prog qR0:=aC.cons qK6 qAQ
def dfs (l:List Int):List Int:=(List.range (l.length-1)).map fun j=>IntKind.i64.wrap (l[j+1]! - l[j]!)
theorem kS (l:List Int):(dfs l).length=l.length-1:=by simp [dfs]
theorem XH {l:List Int} {j:Nat} (h:j+1<l.length):(dfs l)[j]! =IntKind.i64.wrap (l[j+1]! - l[j]!):=by
 rw[getElem!_pos _ _ (by rw[kS];omega)];simp [dfs]
def usL (m:Int) (D:List Int):List Int:=D.map fun d=>IntKind.u64.wrap (IntKind.i64.wrap (d-m))
def BL (D:List Int):ByteArray:=(aN (put (fE (mnL D)))++aN [IntKind.u8.wrap (mwL (usL (mnL D) D))])++(jN (usL (mnL D) D) (mwL (usL (mnL D) D))).1
def qD (D:List Int):ByteArray:=if h:D.length=0 then ByteArray.empty else BL (D.take 32)++qD (D.drop 32)
termination_by D.length
decreasing_by simp;omega
def gG (l:List Int):ByteArray:=if l.length=0\/l.length>4096 then⟨#[]⟩else aN (put (fE l[0]!))++qD (dfs l)
def fQ (l:List Int) (i:Int):List Int:=((dfs l).drop (i-1).toNat).take 32
theorem jZ {l:List Int} {i:Int} (h:1<=i/\i<l.length):((fQ l i).length:Int)=bX (i+32) l.length-i:=by
 unfold fQ bX;rw[List.length_take,List.length_drop,kS];split<;>omega
theorem xG {l:List Int} {i k:Int} (h:1<=i/\i<=k/\k<bX (i+32) l.length):(fQ l i)[(k-i).toNat]! =IntKind.i64.wrap (l[k.toNat]! - l[(k-1).toNat]!):=by
 have h2:k<l.length/\k<i+32:=by unfold bX at h;split at h<;>omega
 have e:=XH (l:=l) (j:=(k-1).toNat) (by omega);rw[show(k-1).toNat+1=k.toNat by omega]at e;rw[<-e];unfold fQ;rw[List.getElem!_eq_getElem?_getD,List.getElem?_take,if_pos (by omega),List.getElem?_drop,show(i-1).toNat+(k-i).toNat=(k-1).toNat by omega,List.getElem!_eq_getElem?_getD]
theorem UJ {l:List Int} {i:Int} (h:1<=i/\i<l.length):qD ((dfs l).drop (i-1).toNat)=BL (fQ l i)++qD ((dfs l).drop (i+32-1).toNat):=by
 rw[qD,dif_neg (by rw[List.length_drop,kS];omega),List.drop_drop,show(i-1).toNat+32=(i+32-1).toNat by omega];rfl
theorem qDF {l:List Int} {i:Int} (h:¬i<l.length):qD ((dfs l).drop (i-1).toNat)=ByteArray.empty:=by
 rw[qD,dif_pos (by rw[List.length_drop,kS];omega)]
theorem sA {D:List Int} (h:1<=D.length):D.foldl bX D[0]! =mnL D:=by
 cases D with
 |nil=>simp at h
 |cons x r=>
  show List.foldl bX (bX x x) r=List.foldl bX x r;have e:bX x x=x:=by unfold bX;split<;>rfl
  rw[e]
theorem UM {D:List Int} {x j:Int} {f:Int->Int->Int} (h:0<=j/\j<D.length):(D.take (j+1).toNat).foldl f x=f ((D.take j.toNat).foldl f x) D[j.toNat]!:=by
 rw[wN h];simp
theorem FK {D:List Int} {m j:Int} (h:0<=j/\j<D.length):usL m (D.take (j+1).toNat)=usL m (D.take j.toNat)++ [IntKind.u64.wrap (IntKind.i64.wrap (D[j.toNat]! - m))]:=by
 unfold usL;rw[wN h];simp
theorem qCC (m:Int) (D:List Int) (i:Nat):0<=(usL m D)[i]! /\(usL m D)[i]! <18446744073709551616:=by
 by_cases h:i<(usL m D).length
 ·rw[getElem!_pos (usL m D) i h]
  simp only[usL,List.getElem_map];exact hE _
 ·rw[getElem!_neg (usL m D) i h];exact⟨by decide,by decide⟩
theorem YE (U:List Int) (v:Int):mwL (U++ [v])=cI (mwL U) (mK v):=by simp [mwL]
theorem xF (D:List Int):(BL D).size<=32779:=by
 unfold BL;have h1:=bM (fE (mnL D));have h2:=iU (usL (mnL D) D) (mwL (usL (mnL D) D));rw[ByteArray.size_append,ByteArray.size_append,bO [_]];simp only[List.length_cons,List.length_nil];omega
theorem DK:∀(n:Nat) (D:List Int),D.length<=n->(qD D).size<=32779*n
 |n,D,h=>by
  rw[qD];split
  ·exact Nat.zero_le _
  ·have:=xF (D.take 32)
   rw[ByteArray.size_append];obtain⟨m,rfl⟩:∃m,n=m+1:=⟨n-1,by omega⟩
   have:=DK m (D.drop 32) (by simp;omega);omega
theorem FZ (l:List Int):(gG l).size<=134262794:=by
 unfold gG;split
 ·exact Nat.zero_le _
 ·have h1:=bM (fE l[0]!)
  have h2:=DK 4096 (dfs l) (by rw[kS];omega);rw[ByteArray.size_append];omega
theorem rC (u:UInt8):(ByteArray.mk #[u]).size=1:=rfl
theorem AV (x:Int):inI (IntKind.i64.wrap x):=by unfold inI;simp [IntKind.wrap,IntKind.bits,IntKind.signed];omega
theorem qNN {l:List Int} {i:Int} (h:1<=i/\i<l.length):inI (mnL (fQ l i)):=by
 have hl:=jZ h;have hm:bX (i+32) l.length-i>=1:=by unfold bX;split<;>omega
 have:=YD (l:=fQ l i) (fun e=>by rw[e]at hl;simp at hl;omega);unfold fQ at this;have:=List.mem_of_mem_drop (List.mem_of_mem_take this);unfold dfs at this;obtain⟨j,_,e⟩:=List.mem_map.1 this;show inI (mnL (List.take 32 (List.drop (i-1).toNat (dfs l))));unfold dfs;rw[<-e];exact AV _
abbrev CF:Ct:=.fn [.list (.int .i64)] (some (fun(l:List Int)=>(l.length<=1073741824)/\(∀x,x∈l->inI x))) (fun(l:List Int)=>.d .str (gG l))
theorem qIF:aG Tryz.prog 159 CF:=by
 refine aG.fn qAR mixed [(0,8,9),(0,12,10),(0,18,9),(0,18,11)] [] rfl rfl ?_;rintro⟨(l:List Int),_⟩ hpre;replace hpre:=hpre _ rfl;dsimp only[cu]at hpre;obtain⟨hl,hv⟩:=hpre;refine⟨[(0,10,LA.mk [.sl 4 (.int .i64),.sl 3 .str] (fun y=>Tag 28/\cu [.int .i64,.str] (fun(i:Int) (x:ByteArray)=>(1<=i/\i<=l.length+31)/\(gG l=x++qD ((dfs l).drop (i-1).toNat))/\((x.size:Int)<=10+32779*i)) y) (cu [.int .i64,.str] (fun(i:Int) (x:ByteArray)=>((l.length:Int)+32-i).toNat)) (cu [.int .i64,.str] (fun(i:Int) (x:ByteArray)=>([(0,20,LA.mk [.sl 7 (.int .i64),.sl 6 (.int .i64)] (fun y=>Tag 29/\cu [.int .i64,.int .i64] (fun(k:Int) (m:Int)=>(i<=k/\k<=bX (i+32) l.length)/\(m=((fQ l i).take (k-i).toNat).foldl bX (fQ l i)[0]!)) y) (cu [.int .i64,.int .i64] (fun(k:Int) (m:Int)=>(bX (i+32) l.length-k).toNat)) (cu [.int .i64,.int .i64] (fun(k:Int) (m:Int)=>([]:List (Nat×Nat×LA))))),(0,32,LA.mk [.sl 10 (.int .i64),.lst 8 (.int .u64) 86,.sl 9 (.int .i64)] (fun y=>Tag 30/\cu [.int .i64,.list (.int .u64),.int .i64] (fun(j:Int) (u:List Int) (w:Int)=>(i<=j/\j<=bX (i+32) l.length)/\(u=usL (mnL (fQ l i)) ((fQ l i).take (j-i).toNat))/\(w=mwL u)) y) (cu [.int .i64,.list (.int .u64),.int .i64] (fun(j:Int) (u:List Int) (w:Int)=>(bX (i+32) l.length-j).toNat)) (cu [.int .i64,.list (.int .u64),.int .i64] (fun(j:Int) (u:List Int) (w:Int)=>([]:List (Nat×Nat×LA)))))]:List (Nat×Nat×LA)))))],?_⟩;repeat' (first
  |(
 with_reducible refine Side.mk ⟨(⟨⟩:Tag 28),?_⟩
 dsimp only[cu,aB,aA,gts,eE,eN]
 refine⟨?_,?_,?_⟩
 ·first
  |(
  have hmi:i<bX (i+32) l.length/\bX (i+32) l.length<=l.length/\bX (i+32) l.length<=i+32:=by unfold bX;split<;>omega
  omega)
  |omega
 ·first
  |(
  rw[gG,if_neg (by omega)]
  rfl)
  |(
  have hmi:i<bX (i+32) l.length/\bX (i+32) l.length<=l.length/\bX (i+32) l.length<=i+32:=by unfold bX;split<;>omega
  have hbl:=jZ (l:=l) (i:=i) (by omega)
  have hmm:m=mnL (fQ l i):=by rw[hm,List.take_of_length_le (by omega),sA (by omega)]
  have huu:u=usL (mnL (fQ l i)) (fQ l i):=by rw[hu,List.take_of_length_le (by omega)]
  rw[hx,UJ (by omega),<-ByteArray.append_assoc]
  unfold BL
  rw[<-huu,<-hmm,<-hw]
  rfl)
 ·first
  |(
  have h1:=bM (fE l[(0:Int).toNat]!)
  omega)
  |(
  have hmi:i<bX (i+32) l.length/\bX (i+32) l.length<=l.length/\bX (i+32) l.length<=i+32:=by unfold bX;split<;>omega
  have hbl:=jZ (l:=l) (i:=i) (by omega)
  have hmm:m=mnL (fQ l i):=by rw[hm,List.take_of_length_le (by omega),sA (by omega)]
  have huu:u=usL (mnL (fQ l i)) (fQ l i):=by rw[hu,List.take_of_length_le (by omega)]
  have h1:=bM (fE m)
  have h2:=iU u w
  simp only[ByteArray.size_append,rC,bO [_],List.length_cons,List.length_nil]
  omega))
  |(
 with_reducible refine Side.mk ⟨(⟨⟩:Tag 29),?_⟩
 dsimp only[cu,aB,aA,gts,eE,eN]
 refine⟨?_,?_⟩
 ·(
  have hmi:i<bX (i+32) l.length/\bX (i+32) l.length<=l.length/\bX (i+32) l.length<=i+32:=by unfold bX;split<;>omega
  omega)
 ·first
  |(
  have hmi:i<bX (i+32) l.length/\bX (i+32) l.length<=l.length/\bX (i+32) l.length<=i+32:=by unfold bX;split<;>omega
  have hbl:=jZ (l:=l) (i:=i) (by omega)
  first
  |(
   have hbg:=xG (l:=l) (i:=i) (k:=i) (by omega);rw[show(i-i).toNat=0 by omega]at hbg ⊢;rw[hbg];(try rfl))
  |(
   have hbg:=xG (l:=l) (i:=i) (k:=k) (by omega);rw[show k+1-i=(k-i)+1 by omega,UM (by omega),<-hm,hbg])))
  |(
 with_reducible refine Side.mk ⟨(⟨⟩:Tag 30),?_⟩
 dsimp only[cu,aB,aA,gts,eE,eN]
 refine⟨?_,?_,?_⟩
 ·(
  have hmi:i<bX (i+32) l.length/\bX (i+32) l.length<=l.length/\bX (i+32) l.length<=i+32:=by unfold bX;split<;>omega
  omega)
 ·first
  |rw[show(i-i).toNat=0 by omega];rfl
  |(
  have hmi:i<bX (i+32) l.length/\bX (i+32) l.length<=l.length/\bX (i+32) l.length<=i+32:=by unfold bX;split<;>omega
  have hbl:=jZ (l:=l) (i:=i) (by omega)
  have hmm:m=mnL (fQ l i):=by rw[hm,List.take_of_length_le (by omega),sA (by omega)]
  have hbg:=xG (l:=l) (i:=i) (k:=j) (by omega)
  rw[show j+1-i=(j-i)+1 by omega,FK (by omega),<-hu,hbg,hmm])
 ·first
  |rfl
  |(rw[YE,hw]))
  |(
 with_reducible apply Side.mk
 (try dsimp only[cu,aB,aA,gts,loK,hiK,eE,eN])
 first
 |done
 |omega
 |exact Eq.refl _
 |(
  have hmi:i<bX (i+32) l.length/\bX (i+32) l.length<=l.length/\bX (i+32) l.length<=i+32:=by unfold bX;split<;>omega
  omega)
 |exact kX (pK hv _)
 |exact pK hv _
 |exact hE _
 |(
  have hmi:i<bX (i+32) l.length/\bX (i+32) l.length<=l.length/\bX (i+32) l.length<=i+32:=by unfold bX;split<;>omega
  have hbl:=jZ (l:=l) (i:=i) (by omega);first
  |(
   have hul:=congrArg List.length hu;simp only[usL,List.length_map,List.length_take]at hul;(try simp only[List.length_cons,List.length_nil]);omega)
  |(
   have hmm:m=mnL (fQ l i):=by rw[hm,List.take_of_length_le (by omega),sA (by omega)]
   rw[hmm];first
   |exact qNN (by omega)
   |(exact kX (qNN (by omega))))
  |(
   have hul:=congrArg List.length hu;simp only[usL,List.length_map,List.length_take]at hul;have hmi:i<bX (i+32) l.length/\bX (i+32) l.length<=l.length/\bX (i+32) l.length<=i+32:=by unfold bX;split<;>omega
   have hbl:=jZ (l:=l) (i:=i) (by omega);have hmm:m=mnL (fQ l i):=by rw[hm,List.take_of_length_le (by omega),sA (by omega)]
   have huu:u=usL (mnL (fQ l i)) (fQ l i):=by rw[hu,List.take_of_length_le (by omega)]
   refine⟨fun q=>?_,by omega⟩;rw[huu];exact qCC _ _ q)
  |(
   have hmm:m=mnL (fQ l i):=by rw[hm,List.take_of_length_le (by omega),sA (by omega)]
   have huu:u=usL (mnL (fQ l i)) (fQ l i):=by rw[hu,List.take_of_length_le (by omega)]
   have h1:=bM (fE m);have h2:=iU u w;simp only[ByteArray.size_append,rC,bO [_],List.length_cons,List.length_nil];omega)))
  |(conv=>whnf
    first
     |with_reducible first|done|exact trivial|refine NilBr.mk (fun h=>?_) ?_|apply aJ|apply aI|refine aK (by kernel_rfl) ?_|apply aL|apply bC|apply bB|apply aO
     |((with_reducible first|apply aQ|apply aP|apply bA)<;>intro h<;>(try dsimp only[cu,eE,eN]at h)<;>(try(exfalso;omega)))
     |(
 intro yy (hy:Tag 28/\_)
 obtain⟨(i:Int),(x:ByteArray),_⟩:=yy
 replace hy:=hy.2
 dsimp only[cu,aB,aA,gts,eE,eN]at hy
 obtain⟨hi,hx,hz⟩:=hy)
     |(
 intro yy (hy:Tag 29/\_)
 obtain⟨(k:Int),(m:Int),_⟩:=yy
 replace hy:=hy.2
 dsimp only[cu,aB,aA,gts,eE,eN]at hy
 obtain⟨hk,hm⟩:=hy)
     |(
 intro yy (hy:Tag 30/\_)
 obtain⟨(j:Int),(u:List Int),(w:Int),_⟩:=yy
 replace hy:=hy.2
 dsimp only[cu,aB,aA,gts,eE,eN]at hy
 obtain⟨hj,hu,hw⟩:=hy)))
 all_goals(
 with_reducible apply Leaf.mk
 (try dsimp only[cu,aB,aA,gts,eE,eN]at *)
 first
 |rw[gG,if_pos (by omega)]
 |(rw[hx,qDF (by omega),ByteArray.append_empty]))
abbrev qR1:Tbl:=(159,CF)::qR0
theorem qAS:aC Tryz.prog qR1:=aC.cons qIF qAR
def nH (l:List Val):List Int:=l.map fun v=>v.2.1
def tL (l:List Val):List ByteArray:=l.map fun v=>v.2.2
def okV (v:Val):Prop:=v.2.2.size<=1048576/\inI v.2.1
def plV (t:Int) (v:Val):ByteArray:=if t=3 then aN (put v.2.2.size)++v.2.2 else aN (put (fE v.2.1))
def plL (t:Int):List Val->ByteArray
 | []=>ByteArray.empty
 |v::r=>plV t v++plL t r
def gB (t k:Int) (l:List Val):ByteArray:=if k=2 then mG (nH l)else if k=3 then kT (tL l)else if k=4 then gG (nH l)else plL t l
def bT (l:List Val):List Val:=l.filter fun v=>!v.1
def dR (l:List Val):List Bool:=l.map fun v=>v.1
def oA (k:Int) (l:List Val):ByteArray:=(aN [IntKind.u8.wrap k]++aN (put l.length))++aN (put ((l.length:Int)-(bT l).length))
def nD (t k:Int) (l:List Val):ByteArray:=(if(bT l).length<l.length then oA k l++zM (dR l)else oA k l)++gB t k (bT l)
def cV (t k:Int) (l:List Val):ByteArray:=oY (nD t k l)
theorem vX {t:Int} {l:List Val} {k:Int} (h:0<=k/\k<l.length):plL t (l.drop k.toNat)=plV t l[k.toNat]! ++plL t (l.drop (k+1).toNat):=by
 rw[bJ l k h];rfl
theorem xP {l:List Val} (h:∀v,v∈l->okV v) (k:Nat):okV l[k]!:=by
 by_cases q:k<l.length
 ·rw[getElem!_pos l k q];exact h _ (List.getElem_mem q)
 ·rw[getElem!_neg l k q];exact⟨by decide,by unfold inI;exact⟨by decide,by decide⟩⟩
theorem qH1 {t:Int} {v:Val} (h:okV v):(plV t v).size<=1048586:=by
 unfold plV;have h1:=bM (v.2.2.size:Int);have h2:=bM (fE v.2.1);have:=h.1;split
 ·rw[ByteArray.size_append];omega
 ·omega
theorem QS (t:Int):∀(l:List Val),(∀v,v∈l->okV v)->(plL t l).size<=1048586*l.length
 | [],_=>Nat.zero_le _
 |v::r,h=>by
  have h1:=qH1 (t:=t) (h v (by simp));have h2:=QS t r (fun x hx=>h x (by simp [hx]));rw[plL,ByteArray.size_append,List.length_cons];omega
theorem YH {l:List Val} (h:∀v,v∈l->okV v):∀x,x∈nH l->inI x:=fun x hx=>by
 obtain⟨v,hv,rfl⟩:=List.mem_map.1 hx;exact(h v hv).2
theorem NK {l:List Val} (h:∀v,v∈l->okV v):∀x,x∈tL l->x.size<=1073741824:=fun x hx=>by
 obtain⟨v,hv,rfl⟩:=List.mem_map.1 hx;have:=(h v hv).1;omega
theorem kV {l:List Val} (h:∀v,v∈l->okV v):∀v,v∈bT l->okV v:=fun v hv=>h v (List.mem_filter.1 hv).1
theorem eM (l:List Val):(bT l).length<=l.length:=List.length_filter_le _ _
theorem LZ {l:List ByteArray} (h:∀w,w∈l->w.size<=1073741824):(kT l).size<=4398046584842:=by
 unfold kT;split
 ·exact Nat.zero_le _
 ·rw[ByteArray.size_append]
  have h1:=nF (v:=((bD l).length:Int)) (k:=(bD l).length) h (by omega);rw[List.take_of_length_le (Nat.le_refl _)]at h1;have h2:=iU (cP l) (wdN ((bD l).length:Int));omega
theorem SD:∀(n:Nat) (l:List Int),l.length<=n->(GA (runs l)).length<=20*l.length
 |n,[],_=>by rw[runs];exact Nat.zero_le _
 |n,v::l,h=>by
  obtain⟨m,rfl⟩:∃m,n=m+1:=⟨n-1,by simp at h;omega⟩
  rw[runs,GA];have h1:=aY ((fO v l:Int)+1);have h2:=aY (fE v);have h3:=SD m (l.drop (fO v l)) (by simp at h ⊢;omega);simp only[List.length_append,List.length_cons,List.length_drop]at h3 ⊢;omega
theorem MA (l:List Int):(mG l).size<=20*l.length:=by
 unfold mG;rw[bO];exact SD _ l (Nat.le_refl _)
theorem EF {t k:Int} {l:List Val} (h:∀v,v∈l->okV v) (hl:l.length<=4096):(gB t k l).size<=4398046584842:=by
 unfold gB;split
 ·have:=MA (nH l)
  have e:(nH l).length=l.length:=by simp [nH]
  omega
 ·split
  ·exact LZ (NK h)
  ·split
   ·have:=FZ (nH l);omega
   ·have:=QS t l h;omega
theorem uD {l:List Bool} (h:l.length<=4096):(zM l).size<=512:=by
 unfold zM;rw[bO,kF,Int.tdiv_eq_ediv_of_nonneg (by omega)];omega
theorem xK (k:Int) (l:List Val):(oA k l).size<=21/\1<=(oA k l).size:=by
 unfold oA;have h1:=bM (l.length:Int);have h2:=bM ((l.length:Int)-(bT l).length);rw[ByteArray.size_append,ByteArray.size_append,bO [_]];simp only[List.length_cons,List.length_nil];omega
theorem PD {t k:Int} {l:List Val} (h:∀v,v∈l->okV v) (hl:l.length<=4096):(nD t k l).size<=4398046585375/\1<=(nD t k l).size:=by
 unfold nD;have h1:=xK k l;have h2:=EF (t:=t) (k:=k) (kV h) (by have:=eM l;omega);have h3:=uD (l:=dR l) (by simp [dR];omega);split
 ·rw[ByteArray.size_append,ByteArray.size_append];omega
 ·rw[ByteArray.size_append];omega
theorem pB {l:List Val} {k:Int} (h:0<=k/\k<l.length):l.take (k+1).toNat=l.take k.toNat++ [l[k.toNat]!]:=by
 rw[show(k+1).toNat=k.toNat+1 by omega,List.take_succ_eq_append_getElem (by omega),getElem!_pos l k.toNat (by omega)]
def gI (t k:Int):Bool:=if t=3 then decide (k=1)||decide (k=3)else decide (k=1)||decide (k=2)||decide (k=4)
abbrev uZ:Ct:=.fn [.list bQ] (some (fun(l:List Val)=>(l.length<=1073741824))) (fun(l:List Val)=>.d (.list (.int .i64)) (nH l))
theorem VI:aG Tryz.prog 156 uZ:=by
 refine aG.fn qAS mixed [] [] rfl rfl ?_;rintro⟨(l:List Val),_⟩ hpre;replace hpre:=hpre _ rfl;dsimp only[cu]at hpre;have hl:=hpre;refine⟨[(0,6,LA.mk [.sl 8 (.int .i64),.lst 3 (.int .i64) 2] (fun y=>Tag 31/\cu [.int .i64,.list (.int .i64)] (fun(k:Int) (M:List Int)=>(0<=k/\k<=l.length)/\(M=nH (l.take k.toNat))) y) (cu [.int .i64,.list (.int .i64)] (fun(k:Int) (M:List Int)=>((l.length:Int)-k).toNat)) (cu [.int .i64,.list (.int .i64)] (fun(k:Int) (M:List Int)=>([]:List (Nat×Nat×LA)))))],?_⟩;repeat' (first
  |(
 with_reducible refine Side.mk ⟨(⟨⟩:Tag 31),?_⟩
 dsimp only[cu,aB,aA,gts,eE,eN]
 refine⟨?_,?_⟩
 ·omega
 ·first
  |rfl
  |(
  unfold nH
  rw[pB (by omega),List.map_append]
  show _=nH (l.take k.toNat)++_
  rw[<-hM]
  rfl))
  |(
 with_reducible apply Side.mk
 (try dsimp only[cu,aB,aA,gts,loK,hiK,eE,eN])
 first
 |done
 |omega
 |exact Eq.refl _
 |(
  have hml:=congrArg List.length hM;simp only[nH,List.length_map,List.length_take]at hml;(try simp only[List.length_cons,List.length_nil]);omega))
  |(conv=>whnf
    first
     |with_reducible first|done|exact trivial|refine NilBr.mk (fun h=>?_) ?_|apply aJ|apply aI|refine aK (by kernel_rfl) ?_|apply aL|apply bC|apply bB|apply aO
     |((with_reducible first|apply aQ|apply aP|apply bA)<;>intro h<;>(try dsimp only[cu,eE,eN]at h)<;>(try(exfalso;omega)))
     |(
 intro yy (hy:Tag 31/\_)
 obtain⟨(k:Int),(M:List Int),_⟩:=yy
 replace hy:=hy.2
 dsimp only[cu,aB,aA,gts,eE,eN]at hy
 obtain⟨hk,hM⟩:=hy)))
 all_goals(
 with_reducible apply Leaf.mk
 (try dsimp only[cu,aB,aA,gts,eE,eN]at *)
 rw[hM,List.take_of_length_le (by omega)])
abbrev qR2:Tbl:=(156,uZ)::qR1
theorem qAT:aC Tryz.prog qR2:=aC.cons VI qAS
abbrev vF:Ct:=.fn [.list bQ] (some (fun(l:List Val)=>(l.length<=1073741824))) (fun(l:List Val)=>.d (.list .str) (tL l))
theorem WK:aG Tryz.prog 158 vF:=by
 refine aG.fn qAT mixed [] [] rfl rfl ?_;rintro⟨(l:List Val),_⟩ hpre;replace hpre:=hpre _ rfl;dsimp only[cu]at hpre;have hl:=hpre;refine⟨[(0,6,LA.mk [.sl 8 (.int .i64),.lst 3 .str 9] (fun y=>Tag 32/\cu [.int .i64,.list .str] (fun(k:Int) (M:List ByteArray)=>(0<=k/\k<=l.length)/\(M=tL (l.take k.toNat))) y) (cu [.int .i64,.list .str] (fun(k:Int) (M:List ByteArray)=>((l.length:Int)-k).toNat)) (cu [.int .i64,.list .str] (fun(k:Int) (M:List ByteArray)=>([]:List (Nat×Nat×LA)))))],?_⟩;repeat' (first
  |(
 with_reducible refine Side.mk ⟨(⟨⟩:Tag 32),?_⟩
 dsimp only[cu,aB,aA,gts,eE,eN]
 refine⟨?_,?_⟩
 ·omega
 ·first
  |rfl
  |(
  unfold tL
  rw[pB (by omega),List.map_append]
  show _=tL (l.take k.toNat)++_
  rw[<-hM]
  rfl))
  |(
 with_reducible apply Side.mk
 (try dsimp only[cu,aB,aA,gts,loK,hiK,eE,eN])
 first
 |done
 |omega
 |exact Eq.refl _
 |(
  have hml:=congrArg List.length hM;simp only[tL,List.length_map,List.length_take]at hml;(try simp only[List.length_cons,List.length_nil]);omega))
  |(conv=>whnf
    first
     |with_reducible first|done|exact trivial|refine NilBr.mk (fun h=>?_) ?_|apply aJ|apply aI|refine aK (by kernel_rfl) ?_|apply aL|apply bC|apply bB|apply aO
     |((with_reducible first|apply aQ|apply aP|apply bA)<;>intro h<;>(try dsimp only[cu,eE,eN]at h)<;>(try(exfalso;omega)))
     |(
 intro yy (hy:Tag 32/\_)
 obtain⟨(k:Int),(M:List ByteArray),_⟩:=yy
 replace hy:=hy.2
 dsimp only[cu,aB,aA,gts,eE,eN]at hy
 obtain⟨hk,hM⟩:=hy)))
 all_goals(
 with_reducible apply Leaf.mk
 (try dsimp only[cu,aB,aA,gts,eE,eN]at *)
 rw[hM,List.take_of_length_le (by omega)])
abbrev qR3:Tbl:=(158,vF)::qR2
theorem qAU:aC Tryz.prog qR3:=aC.cons WK qAT
abbrev OP:Ct:=.fn [.int .i64,.int .i64,.list bQ] (some (fun(t:Int) (c:Int) (l:List Val)=>(l.length<=4096)/\(∀v,v∈l->okV v))) (fun(t:Int) (c:Int) (l:List Val)=>.d .str (gB t c l))
theorem qPC:aG Tryz.prog 121 OP:=by
 refine aG.fn qAU mixed [] [] rfl rfl ?_;rintro⟨(t:Int),(c:Int),(l:List Val),_⟩ hpre;replace hpre:=hpre _ rfl;dsimp only[cu]at hpre;obtain⟨hl,hv⟩:=hpre;refine⟨[(0,20,LA.mk [.sl 28 (.int .i64),.sl 7 .str] (fun y=>Tag 33/\cu [.int .i64,.str] (fun(k:Int) (x:ByteArray)=>(0<=k/\k<=l.length)/\(plL t l=x++plL t (l.drop k.toNat))/\((x.size:Int)<=1048586*k)) y) (cu [.int .i64,.str] (fun(k:Int) (x:ByteArray)=>((l.length:Int)-k).toNat)) (cu [.int .i64,.str] (fun(k:Int) (x:ByteArray)=>([]:List (Nat×Nat×LA)))))],?_⟩;repeat' (first
  |(
 with_reducible refine Side.mk ⟨(⟨⟩:Tag 33),?_⟩
 dsimp only[cu,aB,aA,gts,eE,eN]
 refine⟨?_,?_,?_⟩
 ·omega
 ·first
  |rw[show(⟨#[]⟩:ByteArray)=ByteArray.empty from rfl,ByteArray.empty_append];rfl
  |(
  have hat:=xP hv k.toNat
  have hat1:=hat.1
  have h64:=aS (n:=(l[k.toNat]!.2.2.size:Int)) (by omega)
  have p1:=bM (l[k.toNat]!.2.2.size:Int)
  have p2:=bM (fE l[k.toNat]!.2.1)
  first
  |(
   have ht:t=3:=by with_reducible assumption
   rw[hx,vX (by omega),plV,if_pos ht,h64,<-ByteArray.append_assoc])
  |(
   have ht:¬t=3:=by with_reducible assumption
   rw[hx,vX (by omega),plV,if_neg ht,<-ByteArray.append_assoc]))
 ·first
  |exact Int.le_refl _
  |(
  have hat:=xP hv k.toNat
  have hat1:=hat.1
  have h64:=aS (n:=(l[k.toNat]!.2.2.size:Int)) (by omega)
  have p1:=bM (l[k.toNat]!.2.2.size:Int)
  have p2:=bM (fE l[k.toNat]!.2.1)
  simp only[ByteArray.size_append,h64]
  omega))
  |(
 with_reducible apply Side.mk
 (try dsimp only[cu,aB,aA,gts,loK,hiK,eE,eN])
 first
 |omega
 |(
  have hat:=xP hv k.toNat;have hat1:=hat.1;have h64:=aS (n:=(l[k.toNat]!.2.2.size:Int)) (by omega);have p1:=bM (l[k.toNat]!.2.2.size:Int);have p2:=bM (fE l[k.toNat]!.2.1);first
  |omega
  |exact kX hat.2
  |exact hat.2
  |(
   rw[h64];omega)
  |(
   simp only[ByteArray.size_append,h64];omega))
 |refine⟨by simp [nH];omega,YH hv⟩
 |(refine⟨NK hv,by simp [tL];omega⟩))
  |(conv=>whnf
    first
     |with_reducible first|done|exact trivial|refine NilBr.mk (fun h=>?_) ?_|apply aJ|apply aI|refine aK (by kernel_rfl) ?_|apply aL|apply bC|apply bB|apply aO
     |((with_reducible first|apply aQ|apply aP|apply bA)<;>intro h<;>(try dsimp only[cu,eE,eN]at h)<;>(try(exfalso;omega)))
     |(
 intro yy (hy:Tag 33/\_)
 obtain⟨(k:Int),(x:ByteArray),_⟩:=yy
 replace hy:=hy.2
 dsimp only[cu,aB,aA,gts,eE,eN]at hy
 obtain⟨hk,hx,hz⟩:=hy)))
 all_goals(
 with_reducible apply Leaf.mk
 (try dsimp only[cu,aB,aA,gts,eE,eN]at *)
 first
 |(
  have hc:c=2:=by with_reducible assumption
  rw[gB,if_pos hc])
 |(
  have hc:¬c=2:=by with_reducible assumption
  first
  |(
   have hc3:c=3:=by with_reducible assumption
   rw[gB,if_neg hc,if_pos hc3])
  |(
   have hc3:¬c=3:=by with_reducible assumption
   first
   |(
    have hc4:c=4:=by with_reducible assumption
    rw[gB,if_neg hc,if_neg hc3,if_pos hc4])
   |(
    have hc4:¬c=4:=by with_reducible assumption
    rw[gB,if_neg hc,if_neg hc3,if_neg hc4,hx,List.drop_eq_nil_of_le (by omega),plL,ByteArray.append_empty]))))
abbrev qR4:Tbl:=(121,OP)::qR3
theorem qAV:aC Tryz.prog qR4:=aC.cons qPC qAU
abbrev IK:Ct:=.fn [.int .i64,.int .i64] (none) (fun(t:Int) (c:Int)=>.d .bool (gI t c))
theorem qM5:aG Tryz.prog 82 IK:=by
 refine aG.fn qAV mixed [] [] rfl rfl ?_;rintro⟨(t:Int),(c:Int),_⟩ -;refine⟨[],?_⟩;repeat' (first
  |(
 with_reducible apply Side.mk
 (try dsimp only[cu,aB,aA,gts,loK,hiK,eE,eN])
 done)
  |(conv=>whnf
    first
     |with_reducible first|done|exact trivial|refine NilBr.mk (fun h=>?_) ?_|apply aJ|apply aI|refine aK (by kernel_rfl) ?_|apply aL|apply bC|apply bB|apply aO
     |((with_reducible first|apply aQ|apply aP|apply bA)<;>intro h<;>(try dsimp only[cu,eE,eN]at h)<;>(try(exfalso;omega)))))
 all_goals(
 with_reducible apply Leaf.mk
 (try dsimp only[cu,aB,aA,gts,eE,eN]at *)
 grind [gI])
abbrev qR5:Tbl:=(82,IK)::qR4
theorem qAW:aC Tryz.prog qR5:=aC.cons qM5 qAV
theorem sQ {l:List Val} {k:Int} (h:0<=k/\k<l.length):bT (l.take (k+1).toNat)=bT (l.take k.toNat)++(if l[k.toNat]!.1=true then[]else[l[k.toNat]!]):=by
 rw[pB h];unfold bT;rw[List.filter_append];generalize l[k.toNat]! =x;by_cases q:x.1=true
 ·rw[if_pos q];simp [q]
 ·rw[if_neg q];simp [q]
theorem VH {l:List Val} {k:Int} (h:0<=k/\k<l.length):dR (l.take (k+1).toNat)=dR (l.take k.toNat)++ [l[k.toNat]!.1]:=by
 rw[pB h];simp [dR]
theorem DD {t k:Int} {l:List Val} (h:(bT l).length<l.length):nD t k l=(oA k l++zM (dR l))++gB t k (bT l):=by rw[nD,if_pos h]
theorem DC {t k:Int} {l:List Val} (h:¬(bT l).length<l.length):nD t k l=oA k l++gB t k (bT l):=by rw[nD,if_neg h]
abbrev yH:Ct:=.fn [uI,.int .i64,.list bQ] (some (fun(c:Col) (k:Int) (l:List Val)=>(l.length<=4096)/\(∀v,v∈l->okV v))) (fun(c:Col) (k:Int) (l:List Val)=>.d .str (cV c.2.1 k l))
theorem qCX:aG Tryz.prog 83 yH:=by
 refine aG.fn qAW mixed [] [] rfl rfl ?_;rintro⟨(c:Col),(k:Int),(l:List Val),_⟩ hpre;replace hpre:=hpre _ rfl;dsimp only[cu]at hpre;obtain⟨hl,hv⟩:=hpre;refine⟨[(0,8,LA.mk [.sl 14 (.int .i64),.lst 7 bQ 43,.lst 8 .bool 4] (fun y=>Tag 34/\cu [.int .i64,.list bQ,.list .bool] (fun(i:Int) (P:List Val) (N:List Bool)=>(0<=i/\i<=l.length)/\(P=bT (l.take i.toNat))/\(N=dR (l.take i.toNat))) y) (cu [.int .i64,.list bQ,.list .bool] (fun(i:Int) (P:List Val) (N:List Bool)=>((l.length:Int)-i).toNat)) (cu [.int .i64,.list bQ,.list .bool] (fun(i:Int) (P:List Val) (N:List Bool)=>([]:List (Nat×Nat×LA)))))],?_⟩;repeat' (first
  |(
 with_reducible refine Side.mk ⟨(⟨⟩:Tag 34),?_⟩
 dsimp only[cu,aB,aA,gts,eE,eN]
 refine⟨?_,?_,?_⟩
 ·omega
 ·first
  |rfl
  |(
  have hb:l[i.toNat]!.1=true:=by first|with_reducible assumption|exact qL2 (by with_reducible assumption)
  rw[sQ (by omega),<-hP,if_pos hb,List.append_nil])
  |(
  have hb:¬l[i.toNat]!.1=true:=by first|with_reducible assumption|(simp_all;done)
  rw[sQ (by omega),<-hP,if_neg hb])
 ·first
  |rfl
  |(rw[VH (by omega),<-hN]))
  |(
 with_reducible apply Side.mk
 (try dsimp only[cu,aB,aA,gts,loK,hiK,eE,eN])
 first
 |done
 |omega
 |exact Eq.refl _
 |(
  have hpl:=eM (l.take i.toNat);rw[<-hP,List.length_take]at hpl;first
  |omega
  |(
   (try simp only[List.length_cons,List.length_nil]);omega))
 |(
  have hnl:=congrArg List.length hN;simp only[dR,List.length_map,List.length_take]at hnl;(try simp only[List.length_cons,List.length_nil]);omega)
 |exact hE _
 |(
  have hpl:=eM (l.take i.toNat);rw[<-hP,List.length_take]at hpl;have w1:=aS (n:=(l.length:Int)) (by omega);have w2:=aS (n:=(l.length:Int)-P.length) (by omega);have hF:P=bT l:=by rw[hP,List.take_of_length_le (by omega)]
  have hG:N=dR l:=by rw[hN,List.take_of_length_le (by omega)]
  have hh:=xK k l;have hp:=EF (t:=c.2.1) (k:=k) (kV hv) (by have:=eM l;omega);have hq:=uD (l:=dR l) (by simp [dR];omega);have p1:=bM (l.length:Int);have p2:=bM ((l.length:Int)-P.length);rw[<-hF]at hp;rw[<-hG]at hq;simp only[ByteArray.size_append,w1,w2,rC,bO [_],sB,List.length_cons,List.length_nil];omega)
 |(
  have hF:P=bT l:=by rw[hP,List.take_of_length_le (by omega)]
  have hG:N=dR l:=by rw[hN,List.take_of_length_le (by omega)]
  have hpl:=eM (l.take i.toNat);rw[<-hP,List.length_take]at hpl;refine⟨by omega,?_⟩;rw[hF];exact kV hv))
  |(conv=>whnf
    first
     |with_reducible first|done|exact trivial|refine NilBr.mk (fun h=>?_) ?_|apply aJ|apply aI|refine aK (by kernel_rfl) ?_|apply aL|apply bC|apply bB|apply aO
     |((with_reducible first|apply aQ|apply aP|apply bA)<;>intro h<;>(try dsimp only[cu,eE,eN]at h)<;>(try(exfalso;omega)))
     |(
 intro yy (hy:Tag 34/\_)
 obtain⟨(i:Int),(P:List Val),(N:List Bool),_⟩:=yy
 replace hy:=hy.2
 dsimp only[cu,aB,aA,gts,eE,eN]at hy
 obtain⟨hi,hP,hN⟩:=hy)))
 all_goals(
 with_reducible apply Leaf.mk
 (try dsimp only[cu,aB,aA,gts,eE,eN]at *)
 first
 |(
  have hpl:=eM (l.take i.toNat);rw[<-hP,List.length_take]at hpl;have w1:=aS (n:=(l.length:Int)) (by omega);have w2:=aS (n:=(l.length:Int)-P.length) (by omega);have hF:P=bT l:=by rw[hP,List.take_of_length_le (by omega)]
  have hG:N=dR l:=by rw[hN,List.take_of_length_le (by omega)]
  first
  |(
   have hlt:(bT l).length<l.length:=by rw[<-hF];omega
   rw[w1,w2,cV,oY,DD hlt,hF,hG];(try rfl))
  |(
   have hlt:¬(bT l).length<l.length:=by rw[<-hF];omega
   rw[w1,w2,cV,oY,DC hlt,hF];(try rfl))))
abbrev qR6:Tbl:=(83,yH)::qR5
theorem qAX:aC Tryz.prog qR6:=aC.cons qCX qAW
abbrev NV:Val:=(true,0,⟨#[]⟩)
def kA (t:Int):List Int:=if t=3 then[1,3]else[1,2,4]
abbrev qTV:Ty:=.pair .str (.int .i64)
abbrev Rdr:Type:=ByteArray×Int
@[reducible] instance:Inhabited Rdr:=instInhabitedDen qTV
theorem qQT {b:Bool} (h:(!b)=true):b=false:=by cases b<;>simp_all
abbrev yJ:Ct:=.fn [.int .i64] (none) (fun(t:Int)=>.d (.list (.int .i64)) (kA t))
theorem qC3:aG Tryz.prog 110 yJ:=by
 refine aG.fn qAX mixed [] [] rfl rfl ?_;rintro⟨(t:Int),_⟩ -;refine⟨[],?_⟩;repeat' (first
  |(
 with_reducible apply Side.mk
 (try dsimp only[cu,aB,aA,gts,loK,hiK,eE,eN])
 exact Eq.refl _)
  |(conv=>whnf
    first
     |with_reducible first|done|exact trivial|refine NilBr.mk (fun h=>?_) ?_|apply aJ|apply aI|refine aK (by kernel_rfl) ?_|apply aL|apply bC|apply bB|apply aO
     |((with_reducible first|apply aQ|apply aP|apply bA)<;>intro h<;>(try dsimp only[cu,eE,eN]at h)<;>(try(exfalso;omega)))))
 all_goals(
 with_reducible apply Leaf.mk
 (try dsimp only[cu,aB,aA,gts,eE,eN]at *)
 first
 |(
  have ht:t=3:=by with_reducible assumption
  rw[kA,if_pos ht])
 |(
  have ht:¬t=3:=by with_reducible assumption
  rw[kA,if_neg ht]))
abbrev qR7:Tbl:=(110,yJ)::qR6
theorem qAY:aC Tryz.prog qR7:=aC.cons qC3 qAX
abbrev nO:Ty:=.pair (.list (.int .i64)) (.int .i64)
abbrev Src:Type:=(List Int)×Int
@[reducible] instance:Inhabited Src:=instInhabitedDen nO
def pick (v n:Int):Int:=IntKind.i64.wrap (Int.tmod (IntKind.u64.wrap v) (IntKind.u64.wrap n))
theorem pick_lt {v n:Int} (h:0<n/\n<=9223372036854775807):0<=pick v n/\pick v n<n:=by
 have hn:IntKind.u64.wrap n=n:=IntWalk.u64_in n (by omega);have hv:0<=IntKind.u64.wrap v:=by simp [IntKind.wrap,IntKind.bits,IntKind.signed];omega
 have h1:=Int.tmod_nonneg (IntKind.u64.wrap n) hv;have h2:=Int.tmod_lt_of_pos (IntKind.u64.wrap v) (show 0<IntKind.u64.wrap n by omega);rw[hn]at h1 h2;unfold pick;rw[hn,qPW]<;>omega
theorem FJ {n:Int} (h:0<n/\n<=9223372036854775807):¬IntKind.u64.wrap n=0:=by
 rw[IntWalk.u64_in n (by omega)];omega
def Src.ok (s:Src):Prop:=(0:Int)<=s.2/\s.1.length<=9223372036854775807
def Src.next (s:Src):Src:=if s.2>=s.1.length then s else⟨s.1,s.2+1⟩
def Src.val (s:Src):Int:=if s.2>=s.1.length then 0 else s.1[s.2.toNat]!
def Src.pick (s:Src) (n:Int):Int:=if s.2>=s.1.length then 0 else Go.Proofs.YtcjiefknhfhmkaaGreatDoor.pick s.1[s.2.toNat]! n
theorem Src.ok_next {s:Src} (h:Src.ok s):Src.ok (Src.next s):=by
 unfold Src.ok Src.next at *;split
 ·exact h
 ·exact⟨show(0:Int)<=s.2+1 by have:=h.1;omega,h.2⟩
theorem Src.pick_lt {s:Src} {n:Int} (h:0<n/\n<=9223372036854775807):0<=Src.pick s n/\Src.pick s n<n:=by
 unfold Src.pick;split
 ·omega
 ·exact Go.Proofs.YtcjiefknhfhmkaaGreatDoor.pick_lt h
theorem Src.ok_from {l:List Int} (h:l.length<=9223372036854775807):Src.ok (l,0):=⟨by simp,h⟩
abbrev IB:Ct:=.fn [.int .i64,.int .i64] (some (fun(v:Int) (n:Int)=>(¬IntKind.u64.wrap n=0))) (fun(v:Int) (n:Int)=>.d (.int .i64) (pick v n))
theorem qL7:aG Tryz.prog 17 IB:=by
 refine aG.fn qAY mixed [(0,1,5)] [] rfl rfl ?_;rintro⟨(v:Int),(n:Int),_⟩ hpre;replace hpre:=hpre _ rfl;dsimp only[cu]at hpre;have hn:=hpre;refine⟨[],?_⟩;repeat' (first
  |(
 with_reducible apply Side.mk
 (try dsimp only[cu,aB,aA,gts,loK,hiK,eE,eN])
 omega)
  |(conv=>whnf
    first
     |with_reducible first|done|exact trivial|refine NilBr.mk (fun h=>?_) ?_|apply aJ|apply aI|refine aK (by kernel_rfl) ?_|apply aL|apply bC|apply bB|apply aO
     |((with_reducible first|apply aQ|apply aP|apply bA)<;>intro h<;>(try dsimp only[cu,eE,eN]at h)<;>(try(exfalso;omega)))))
 all_goals(
 with_reducible apply Leaf.mk
 (try dsimp only[cu,aB,aA,gts,eE,eN]at *)
 rfl)
abbrev qR8:Tbl:=(17,IB)::qR7
theorem qAZ:aC Tryz.prog qR8:=aC.cons qL7 qAY
abbrev HX:Ct:=.meth nO 124 [.int .i64] (some (fun(s:Src) (n:Int)=>(Src.ok s)/\(¬IntKind.u64.wrap n=0))) (fun(s:Src) (n:Int)=>.d (.int .i64) (Src.pick s n)) (fun(s:Src) (n:Int)=>Src.next s)
theorem qLY:aG Tryz.prog 36 HX:=by
 refine aG.meth qAZ mixed [] [] rfl rfl ?_;rintro(s:Src) ⟨(n:Int),_⟩ hpre;replace hpre:=hpre _ rfl;dsimp only[cu]at hpre;obtain⟨hs,hn⟩:=hpre;obtain⟨hs0,hs1⟩:=hs;refine⟨[],?_⟩;repeat' (first
  |(
 with_reducible apply Side.mk
 (try dsimp only[cu,aB,aA,gts,loK,hiK,eE,eN])
 omega)
  |(conv=>whnf
    first
     |with_reducible first|done|exact trivial|refine NilBr.mk (fun h=>?_) ?_|apply aJ|apply aI|refine aK (by kernel_rfl) ?_|apply aL|apply bC|apply bB|apply aO
     |((with_reducible first|apply aQ|apply aP|apply bA)<;>intro h<;>(try dsimp only[cu,eE,eN]at h)<;>(try(exfalso;omega)))))
 all_goals(
 with_reducible apply Leaf.mk
 (try dsimp only[cu,aB,aA,gts,eE,eN]at *)
 first
 |rw[Src.pick,if_pos (by omega)]
 |rw[Src.next,if_pos (by omega)]
 |(
  rw[Src.pick,if_neg (by omega)];rw[show s.2+1-1=s.2 by omega])
 |(rw[Src.next,if_neg (by omega)]))
abbrev qR9:Tbl:=(36,HX)::qR8
theorem qA0:aC Tryz.prog qR9:=aC.cons qLY qAZ
abbrev OT:Ct:=.meth nO 124 [] (some (fun(s:Src)=>(Src.ok s))) (fun(s:Src)=>.d (.int .i64) (Src.val s)) (fun(s:Src)=>Src.next s)
theorem qPG:aG Tryz.prog 123 OT:=by
 refine aG.meth qA0 mixed [] [] rfl rfl ?_;rintro(s:Src) ⟨⟩ hpre;replace hpre:=hpre _ rfl;dsimp only[cu]at hpre;have hs:=hpre;obtain⟨hs0,hs1⟩:=hs;refine⟨[],?_⟩;repeat' (first
  |(
 with_reducible apply Side.mk
 (try dsimp only[cu,aB,aA,gts,loK,hiK,eE,eN])
 omega)
  |(conv=>whnf
    first
     |with_reducible first|done|exact trivial|refine NilBr.mk (fun h=>?_) ?_|apply aJ|apply aI|refine aK (by kernel_rfl) ?_|apply aL|apply bC|apply bB|apply aO
     |((with_reducible first|apply aQ|apply aP|apply bA)<;>intro h<;>(try dsimp only[cu,eE,eN]at h)<;>(try(exfalso;omega)))))
 all_goals(
 with_reducible apply Leaf.mk
 (try dsimp only[cu,aB,aA,gts,eE,eN]at *)
 first
 |rw[Src.val,if_pos (by omega)]
 |rw[Src.next,if_pos (by omega)]
 |(
  rw[Src.val,if_neg (by omega)];rw[show s.2+1-1=s.2 by omega])
 |(rw[Src.next,if_neg (by omega)]))
abbrev qSA:Tbl:=(123,OT)::qR9
theorem qA1:aC Tryz.prog qSA:=aC.cons qPG qA0
abbrev HN:Ct:=.new nO 124 [.list (.int .i64)] (none) (fun(l:List Int)=>((l,0):Src))
theorem qK9:aG Tryz.prog 35 HN:=by
 refine aG.new qA1 mixed [] [] rfl rfl ?_;rintro⟨(l:List Int),_⟩ -;refine⟨[],?_⟩;repeat' (first
  |(
 with_reducible apply Side.mk
 (try dsimp only[cu,aB,aA,gts,loK,hiK,eE,eN])
 done)
  |(conv=>whnf
    first
     |with_reducible first|done|exact trivial|refine NilBr.mk (fun h=>?_) ?_|apply aJ|apply aI|refine aK (by kernel_rfl) ?_|apply aL|apply bC|apply bB|apply aO
     |((with_reducible first|apply aQ|apply aP|apply bA)<;>intro h<;>(try dsimp only[cu,eE,eN]at h)<;>(try(exfalso;omega)))))
 all_goals(
 with_reducible apply Leaf.mk
 (try dsimp only[cu,aB,aA,gts,eE,eN]at *)
 done)
abbrev qSB:Tbl:=(35,HN)::qSA
theorem qA2:aC Tryz.prog qSB:=aC.cons qK9 qA1
theorem aT (l:List Int):(aN l).size=l.length:=by simp [aN,ByteArray.size]
theorem DB (n:Int):(aN [n]).size=1:=rfl
def dF:Nat->Src->ByteArray->ByteArray×Src
 |0,s,x=>(x,s)
 |n+1,s,x=>dF n (Src.next s) (x++aN [IntKind.u8.wrap (97+Src.pick s 3)])
def qFT (a b:Int):Int:=IntKind.i64.wrap ((BitVec.ofInt IntKind.i64.bits a &&& BitVec.ofInt IntKind.i64.bits b).toNat:Int)
def qHF (s:Src) (c:Col):Bool:=c.2.2.2&&decide (Src.pick s 4=0)
def vS (s:Src) (c:Col):Src:=if c.2.2.2=true then Src.next s else s
def MN (s:Src):Int×Src:=if Src.pick (Src.next s) 8=0 then(Src.val (Src.next (Src.next s)),Src.next (Src.next (Src.next s)))else if Src.pick (Src.next s) 8=1 then(Int.tmod (Src.val (Src.next (Src.next s))) 1000,Src.next (Src.next (Src.next s)))
 else(IntKind.i64.wrap (Src.pick s 7-2),Src.next (Src.next s))
def UW (c:Col) (n:Int) (s:Src):Val×Src:=
 if c.2.1=2 then(⟨false,qFT n 1,EMP⟩,s)
 else if c.2.1=3 then(⟨false,0,(dF (Src.pick s 4).toNat (Src.next s) EMP).1⟩,(dF (Src.pick s 4).toNat (Src.next s) EMP).2)
 else if c.2.1=4 then(⟨false,Int.tmod n 700000,EMP⟩,s)else if c.2.1=5 then(⟨false,Int.tmod n 1000000000000000000,EMP⟩,s)else(⟨false,n,EMP⟩,s)
def iJ (s:Src) (c:Col):Val×Src:=if qHF s c=true then(⟨true,0,EMP⟩,Src.next s)else UW c (MN (vS s c)).1 (MN (vS s c)).2
theorem DY {k:Int} (h:k>0) (s:Src) (x:ByteArray):dF k.toNat s x=dF (k-1).toNat (Src.next s) (x++aN [IntKind.u8.wrap (97+Src.pick s 3)]):=by
 rw[show k.toNat=(k-1).toNat+1 by omega];rfl
theorem rB:∀(n:Nat) (s:Src) (x:ByteArray),(dF n s x).1.size=x.size+n
 |0,s,x=>rfl
 |n+1,s,x=>by
  rw[dF,rB n,ByteArray.size_append];rw[DB];omega
theorem vT:∀(n:Nat) (s:Src) (x:ByteArray),Src.ok s->Src.ok (dF n s x).2
 |0,s,x,h=>h
 |n+1,s,x,h=>vT n _ _ (Src.ok_next h)
theorem gN {s:Src} (c:Col) (h:Src.ok s):Src.ok (iJ s c).2:=by
 have h1:Src.ok (vS s c):=by unfold vS;split;exact Src.ok_next h;exact h
 have h2:Src.ok (MN (vS s c)).2:=by
  unfold MN;split
  ·exact Src.ok_next (Src.ok_next (Src.ok_next h1))
  ·split
   ·exact Src.ok_next (Src.ok_next (Src.ok_next h1))
   ·exact Src.ok_next (Src.ok_next h1)
 unfold iJ;split
 ·exact Src.ok_next h
 ·unfold UW
  split;exact h2;split;exact vT _ _ _ (Src.ok_next h2);split;exact h2;split;exact h2;exact h2
abbrev yO:Ct:=.meth nO 124 [uI] (some (fun(s:Src) (c:Col)=>(Src.ok s))) (fun(s:Src) (c:Col)=>.d bQ ((iJ s c).1)) (fun(s:Src) (c:Col)=>(iJ s c).2)
theorem qDR:aG Tryz.prog 87 yO:=by
 refine aG.meth qA2 mixed [(0,3,2)] [] rfl rfl ?_;rintro(s:Src) ⟨(c:Col),_⟩ hpre;replace hpre:=hpre _ rfl;dsimp only[cu]at hpre;have hs:=hpre;refine⟨[(0,30,LA.mk [.sl 7 (.int .i64),.sl 6 .str,.ob 0 nO 124] (fun y=>Tag 35/\cu [.int .i64,.str,nO] (fun(k:Int) (x:ByteArray) (q:Src)=>(0<=k/\k<=3)/\(Src.ok q)/\((x.size:Int)<=3-k)/\(iJ s c=(((false,0,(dF k.toNat q x).1):Val),(dF k.toNat q x).2))) y) (cu [.int .i64,.str,nO] (fun(k:Int) (x:ByteArray) (q:Src)=>k.toNat)) (cu [.int .i64,.str,nO] (fun(k:Int) (x:ByteArray) (q:Src)=>([]:List (Nat×Nat×LA)))))],?_⟩;repeat' (first
  |(
 with_reducible refine Side.mk ⟨(⟨⟩:Tag 35),?_⟩
 dsimp only[cu,aB,aA,gts,eE,eN]
 refine⟨?_,?_,?_,?_⟩
 ·first
  |omega
  |have:=@Src.pick_lt;grind
 ·(repeat (first|assumption|exact Src.ok_from (by assumption)|apply Src.ok_next|apply gN|apply kNode_ok))
 ·first
  |(
  have h0:(ByteArray.size ⟨#[]⟩)=0:=rfl
  have:=@Src.pick_lt;grind)
  |(
  rw[ByteArray.size_append,DB]
  omega)
 ·first
  |simp [iJ,qHF,vS,MN,UW, *];done
  |(rw[hg,DY (by assumption)]))
  |(
 with_reducible apply Side.mk
 (try dsimp only[cu,aB,aA,gts,loK,hiK,eE,eN])
 first
 |omega
 |exact Eq.refl _
 |(
  refine⟨?_,by decide⟩;(repeat (first|assumption|exact Src.ok_from (by assumption)|apply Src.ok_next|apply gN|apply kNode_ok));done)
 |((repeat (first|assumption|exact Src.ok_from (by assumption)|apply Src.ok_next|apply gN|apply kNode_ok));done)
 |have:=@Src.pick_lt;grind
 |(
  rw[DB];omega))
  |(conv=>whnf
    first
     |with_reducible first|done|exact trivial|refine NilBr.mk (fun h=>?_) ?_|apply aJ|apply aI|refine aK (by kernel_rfl) ?_|apply aL|apply bC|apply bB|apply aO
     |((with_reducible first|apply aQ|apply aP|apply bA)<;>intro h<;>(try dsimp only[cu,eE,eN]at h)<;>(try(exfalso;omega)))
     |(
 intro yy (hy:Tag 35/\_)
 obtain⟨(k:Int),(x:ByteArray),(q:Src),_⟩:=yy
 replace hy:=hy.2
 dsimp only[cu,aB,aA,gts,eE,eN]at hy
 obtain⟨hk,hq,hx,hg⟩:=hy)))
 all_goals(
 with_reducible apply Leaf.mk
 (try dsimp only[cu,aB,aA,gts,eE,eN]at *)
 first
 |simp [iJ,qHF,vS,MN,UW,qFT,uP, *];done
 |(
  rw[show k.toNat=0 by omega,dF]at hg;simp [hg];done))
abbrev qSC:Tbl:=(87,yO)::qSB
theorem qA3:aC Tryz.prog qSC:=aC.cons qDR qA2
def lM (s:Src):Prop:=∀x,x∈s.1->inI x
theorem VF (s:Src):(Src.next s).1=s.1:=by unfold Src.next;split<;>rfl
theorem gZ {s:Src} (h:lM s):lM (Src.next s):=by unfold lM;rw[VF];exact h
theorem qJX {s:Src} (h:lM s):inI (Src.val s):=by
 unfold Src.val;split
 ·unfold inI;exact⟨by decide,by decide⟩
 ·exact pK h _
theorem NO {a b:Int} (h:inI a):inI (Int.tmod a b):=by
 have h1:=Int.natAbs_tmod a b;have h2:a.natAbs%b.natAbs<=a.natAbs:=Nat.mod_le _ _;unfold inI at h ⊢;by_cases q:0<=a
 ·have:=Int.tmod_nonneg b q;omega
 ·have h3:Int.tmod a b<=0:=by
    have:=Int.tmod_nonneg b (show 0 <= -a by omega);rw[Int.neg_tmod]at this;omega
  omega
theorem JQ:∀(n:Nat) (s:Src) (x:ByteArray),(dF n s x).2.1=s.1
 |0,s,x=>rfl
 |n+1,s,x=>by rw[dF,JQ n,VF]
theorem XW {s:Src} (h:lM s):inI (MN s).1/\lM (MN s).2:=by
 have h1:=gZ h;have h2:=gZ h1;have h3:=gZ h2;unfold MN;split
 ·exact⟨qJX h2,h3⟩
 ·split
  ·exact⟨NO (qJX h2),h3⟩
  ·exact⟨AV _,h2⟩
theorem NX:inI 0:=by unfold inI;exact⟨by decide,by decide⟩
theorem qLK {c:Col} {n:Int} {s:Src} (hn:inI n) (hs:lM s):okV (UW c n s).1/\lM (UW c n s).2:=by
 unfold UW;split
 ·exact⟨⟨Nat.zero_le _,AV _⟩,hs⟩
 ·split
  ·refine⟨⟨?_,NX⟩,?_⟩
   ·show(dF (Src.pick s 4).toNat (Src.next s) EMP).1.size<=1048576
    rw[rB];have:=Src.pick_lt (s:=s) (n:=4) (by decide);have e:EMP.size=0:=rfl;omega
   ·show lM (dF (Src.pick s 4).toNat (Src.next s) EMP).2
    unfold lM;rw[JQ,VF];exact hs
  ·split
   ·exact⟨⟨Nat.zero_le _,NO hn⟩,hs⟩
   ·split
    ·exact⟨⟨Nat.zero_le _,NO hn⟩,hs⟩
    ·exact⟨⟨Nat.zero_le _,hn⟩,hs⟩
theorem qDQ {s:Src} (c:Col) (h:lM s):okV (iJ s c).1/\lM (iJ s c).2:=by
 have h1:lM (vS s c):=by unfold vS;split;exact gZ h;exact h
 unfold iJ;split
 ·exact⟨⟨Nat.zero_le _,NX⟩,gZ h⟩
 ·exact qLK (XW h1).1 (XW h1).2
end Go.Proofs.YtcjiefknhfhmkaaGreatDoor
namespace Go.Abs
set_option maxRecDepth 100000
set_option maxHeartbeats 4000000
set_option linter.unusedVariables false
set_option linter.unusedSimpArgs false
theorem Rep.view {w w':World} {ι ι':Iota} {M M':Nat->Prop} (hi:∀id l,ι id=some l->ι' id=some l) (hs:w.heap.size<=w'.heap.size)
  (hm:∀b,b<w.heap.size->¬M b->w'.heap[b]? =w.heap[b]? /\¬M' b)
  (hz:∀(b:Nat) (c:Array Value) (e:TypeId) (fr:Nat×Nat),w.heap[b]? =some (.cells c e fr)->∃(c':Array Value) (fr':Nat×Nat),w'.heap[b]? =some (.cells c' e fr')/\c'.size=c.size)
  {x:V} {y:Value} (r:Rep w ι M x y):Rep w' ι' M' x y:=by
 induction r with
 |v x=>exact .v x
 |any x=>exact .any x
 |pF row off b o cells hb hmb hc _ ih=>
  obtain⟨e,m⟩:=hm b hb hmb;exact .pF row off b o cells (Nat.lt_of_lt_of_le hb hs) m (fun j hj=>(nV e).trans (hc j hj)) ih
 |pO id row off l hl=>exact .pO id row off l (hi _ _ hl)
 |sF sz rows a cap cells hb hcap hr hc _ ih=>
  refine .sF sz rows a cap cells (fun hne=>?_) hcap hr (fun i hii j hj=>?_) ih
  ·obtain⟨hs1,hb,hmb⟩:=hb hne
   exact⟨hs1,Nat.lt_of_lt_of_le hb hs,(hm _ hb hmb).2⟩
  ·have hne:rows≠ []:=by intro e;subst e;simp at hii
   obtain⟨hs1,hb,hmb⟩:=hb hne;exact(nV (hm _ hb hmb).1).trans (hc i hii j hj)
 |sN sz=>exact .sN sz
 |sO id off len cap l c e fr hl hcap hb hs1=>
  obtain⟨c',fr',h1,h2⟩:=hz _ _ _ _ hb;exact .sO id off len cap l c' e fr' (hi _ _ hl) hcap h1 (by omega)
 |agg xs vs hl _ ih=>exact .agg xs vs hl ih
 |tup xs vs hl _ ih=>exact .tup xs vs hl ih
 |fn f a b vs us h1 h2 _ _ ih1 ih2=>exact .fn f a b vs us h1 h2 ih1 ih2
 |ifc t x y _ ih=>exact .ifc t x y ih
 |sL t l y _ ih=>exact .sL t l y ih
 |oL id n y _ ih=>exact .oL id n y ih
theorem Rep.same {w:World} {ι ι':Iota} {M M':Nat->Prop} (hi:∀id l,ι id=some l->ι' id=some l) (hm:∀b,M' b->M b) {x:V} {y:Value} (r:Rep w ι M x y):Rep w ι' M' x y:=
 r.view hi (Nat.le_refl _) (fun b _ q=>⟨rfl,fun p=>q (hm b p)⟩) (fun b c e fr h=>⟨c,fr,h,rfl⟩)
structure NZ where
 b:Nat
 o:Nat
 e1:TypeId
 e2:TypeId
 tO:Ty
 t:Ty
 p:Nat
 get:tO.den->List t.den
 n:Nat
structure NZ.ok (Z:NZ):Prop where
 at_p:∀a,(Z.tO.row a)[Z.p]? =some (.sL Z.t (Z.get a))
 flatO:∀(a:Z.tO.den) (j:Nat) (x:V),j≠Z.p->(Z.tO.row a)[j]? =some x->∃z,x = .v z
 flat:∀(a:Z.t.den) (j:Nat) (x:V),(Z.t.row a)[j]? =some x->∃z,x = .v z
def NIn (Z:NZ) (w:World) (l:List Z.t.den) (g:Nat×Nat) (y:Value):Prop:=
 ∃cap c fr,y = .slice (some ⟨g.1,g.2,none⟩) l.length cap/\w.heap[g.1]? =some (.cells c Z.e2 fr)/\Unfr 0 g.2 Z.t.size c.size fr/\g.2%Z.t.size=0/\l.length<=cap/\g.2+cap*Z.t.size<=c.size /\
  ∀(i:Nat) (a:Z.t.den) (j:Nat) (x:V),l[i]? =some a->(Z.t.row a)[j]? =some x->∃z,x = .v z/\c[g.2+i*Z.t.size+j]? =some z
structure Nst (Z:NZ) (F0:Nat->Prop) (X0:Nat->Prop) (y:Value) (R:List Z.tO.den) (ι:Iota) (w:World) (c:Array Value) (fr:Nat×Nat) (g:Nat->Nat×Nat):Prop where
 blk:w.heap[Z.b]? =some (.cells c Z.e1 fr)
 unf:Unfr 0 Z.o Z.tO.size c.size fr
 al:Z.o%Z.tO.size=0
 len:R.length=Z.n
 val:∃cap,y = .slice (some ⟨Z.b,Z.o,none⟩) Z.n cap/\Z.n<=cap/\Z.o+cap*Z.tO.size<=c.size
 X:∀q,ι.X q↔X0 q\/q=Z.b\/∃k a,R[k]? =some a/\Z.get a≠ []/\q=(g k).1
 x0b:¬X0 Z.b
 cells:∀(k:Nat) (a:Z.tO.den) (j:Nat) (x:V),R[k]? =some a->j≠Z.p->(Z.tO.row a)[j]? =some x->∃z,x = .v z/\c[Z.o+k*Z.tO.size+j]? =some z
 nil:∀k a,R[k]? =some a->Z.get a= []->c[Z.o+k*Z.tO.size+Z.p]? =some (.slice none 0 0)
 own:∀k a,R[k]? =some a->Z.get a≠ []->¬X0 (g k).1/\(g k).1≠Z.b/\F0 (g k).1/\∃y,c[Z.o+k*Z.tO.size+Z.p]? =some y/\NIn Z w (Z.get a) (g k) y
 apart:∀k a k' a',R[k]? =some a->Z.get a≠ []->R[k']? =some a'->Z.get a'≠ []->(g k).1=(g k').1->k=k'
structure EvS (hS:Heap) (ιS:Iota) (wS:World) (h:Heap) (ι:Iota) (w:World):Prop where
 os:w.os=wS.os
 tape:w.tape=wS.tape
 output:w.output=wS.output
 size:wS.heap.size<=w.heap.size
 frame:∀b,b<wS.heap.size->¬Ob hS ιS b->w.heap[b]? =wS.heap[b]? /\¬Ob h ι b
 sizes:∀(b:Nat) (c:Array Value) (e:TypeId) (fr:Nat×Nat),wS.heap[b]? =some (.cells c e fr)->∃(c':Array Value) (fr':Nat×Nat),w.heap[b]? =some (.cells c' e fr')/\c'.size=c.size
theorem EvS.step {n:Nat} {hS ιS wS h ι w h' ι' w'} (a:EvS hS ιS wS h ι w) (b:EvN n h ι w h' ι' w'):EvS hS ιS wS h' ι' w' where
 os:=b.os.trans a.os
 tape:=b.tape.trans a.tape
 output:=b.output.trans a.output
 size:=Nat.le_trans a.size b.size
 frame:=fun k hk hm=>by
  obtain⟨e1,m1⟩:=a.frame k hk hm;obtain⟨e2,m2⟩:=b.frame k (Nat.lt_of_lt_of_le hk a.size) m1;exact⟨e2.trans e1,m2⟩
 sizes:=fun k c e fr hc=>by
  obtain⟨c1,fr1,h1,s1⟩:=a.sizes k c e fr hc;obtain⟨c2,fr2,h2,s2⟩:=b.sizes k c1 e fr1 h1;exact⟨c2,fr2,h2,s2.trans s1⟩
theorem Nst.keep {Z:NZ} {F0:Nat->Prop} {X0:Nat->Prop} {y:Value} {R:List Z.tO.den} {ι ι':Iota} {w w':World} {c:Array Value} {fr:Nat×Nat} {g:Nat->Nat×Nat} {h h':Heap} {n:Nat} (N:Nst Z F0 X0 y R ι w c fr g) (H:HRel h ι w) (e:EvN n h ι w h' ι' w'):Nst Z F0 X0 y R ι' w' c fr g:=by
 have same:∀b,ι.X b->w'.heap[b]? =w.heap[b]?:=fun b hb=>(e.frame b (H.xlt b hb) (H.xob b hb)).1
 refine⟨(same _ ((N.X _).2 (.inr (.inl rfl)))).trans N.blk,N.unf,N.al,N.len,N.val,fun q=>by rw[e.away];exact N.X q,N.x0b,N.cells,N.nil,fun k a hk ha=>?_,N.apart⟩;obtain⟨h1,h2,h3,y,hy,cap,c2,fr2,q1,q2,q3⟩:=N.own k a hk ha;exact⟨h1,h2,h3,y,hy,cap,c2,fr2,q1,(same _ ((N.X _).2 (.inr (.inr ⟨k,a,hk,ha,rfl⟩)))).trans q2,q3⟩
theorem XQ {c:Array Value} {i:Nat} {x:Value} (h:c[i]? =some x):c.getD i undef=x:=by
 rw[Array.getD_eq_getD_getElem?,h];rfl
theorem tX {n m sz i j:Nat} (h:i<n) (h2:j<sz) (h3:n<=m):i*sz+j<m*sz:=by
 have h4:(i+1)*sz<=m*sz:=Nat.mul_le_mul_right _ (by omega);rw[Nat.add_mul,Nat.one_mul]at h4;omega
theorem Ty.row_size (t:Ty) (a:t.den):(t.row a).length=t.size:=by have:=t.cells_len a [];simpa using this
theorem NZ.ok.plt {Z:NZ} (hZ:Z.ok) (a:Z.tO.den):Z.p<Z.tO.size:=by
 have:=aF (hZ.at_p a);rw[Ty.row_size]at this;exact this
def eX (Z:NZ) (c:Array Value):List (List V):=(List.range Z.n).map fun i=>(List.range Z.tO.size).map fun j=>.v (c.getD (Z.o+i*Z.tO.size+j) undef)
theorem iE (Z:NZ) (c:Array Value):(eX Z c).length=Z.n:=by simp [eX]
theorem JT {Z:NZ} {c:Array Value} {i:Nat} (h:i<Z.n):(eX Z c)[i]? =some ((List.range Z.tO.size).map fun j=>.v (c.getD (Z.o+i*Z.tO.size+j) undef)):=by
 simp [eX,h]
def fZ (Z:NZ) (a:Z.tO.den) (j n:Nat):List V:=(Z.tO.row a).set Z.p (.oL j n)
structure NFoc (Z:NZ) (k:Nat) (a:Z.tO.den) (h:List XO) (ι:Iota) (c:Array Value) (g:Nat->Nat×Nat) (ι1:Iota):Prop where
 X:∀q,ι1.X q↔ι.X q/\q≠Z.b/\(Z.get a≠ []->q≠(g k).1)
 at0:∃l,ι1 h.length=some l/\l.blk=Z.b/\l.base=Z.o/\l.sz=Z.tO.size
 ob:∀q,Ob (dens (h++ [.row1 Z.tO.size (eX Z c) k (fZ Z a (h.length+1) (Z.get a).length) Z.e1,.opt Z.t (Z.get a) Z.e2])) ι1 q->Ob (dens h) ι q\/q=Z.b\/(Z.get a≠ []/\q=(g k).1)
theorem VE {Z:NZ} (hZ:Z.ok) {F0:Nat->Prop} {X0:Nat->Prop} {y0:Value} {R:List Z.tO.den} {sl:List V} {h:List XO} {ι:Iota} {A:Act} {w:World} {c:Array Value} {fr:Nat×Nat} {g:Nat->Nat×Nat} {L:Nat}
  (r:SR ⟨sl.set L (.v y0),dens h⟩ ι A w) (hL:L<sl.length) (N:Nst Z F0 X0 y0 R ι w c fr g) {k:Nat} {a:Z.tO.den} (hk:R[k]? =some a) :
  ∃ι1,SR ⟨sl.set L (.sO h.length 0 Z.n),dens (h++ [.row1 Z.tO.size (eX Z c) k (fZ Z a (h.length+1) (Z.get a).length) Z.e1,.opt Z.t (Z.get a) Z.e2])⟩ ι1 A w/\NFoc Z k a h ι c g ι1:=by
 have H:=r.heap;have hkn:k<Z.n:=by have:=aF hk;rw[N.len]at this;exact this
 have hp:=hZ.plt a;obtain⟨cap,hy0,hcap,hroom⟩:=N.val;have inr:∀i j,i<Z.n->j<Z.tO.size->Z.o+i*Z.tO.size+j<c.size:=fun i j hi hj=>by have:=tX hi hj hcap;omega
 have hin:∃l1:Option Loc,(Z.get a= []->l1=none)/\(Z.get a≠ []->∃l,l1=some l/\l.blk=(g k).1/\l.base=(g k).2/\l.sz=Z.t.size):=by
  by_cases ha:Z.get a= []
  ·exact⟨none,fun _=>rfl,fun q=>(q ha).elim⟩
  ·obtain⟨h1,h2,h3,y,hy,cap,c2,fr2,q1,q2,q3,q4,q5⟩:=N.own k a hk ha
   exact⟨some ⟨(g k).1,(g k).2,Z.t.size,q4⟩,fun q=>(ha q).elim,fun _=>⟨_,rfl,rfl,rfl,rfl⟩⟩
 obtain⟨l1,hl0,hl1⟩:=hin;obtain⟨ι1,i0,i1,i2,iX⟩:∃ι1:Iota,ι1 h.length=some ⟨Z.b,Z.o,Z.tO.size,N.al⟩/\ι1 (h.length+1)=l1/\(∀id,id≠h.length->id≠h.length+1->ι1 id=ι id)/\(∀q,ι1.X q↔ι.X q/\q≠Z.b/\(Z.get a≠ []->q≠(g k).1)):=
  ⟨{at':=fun i=>if i=h.length then some ⟨Z.b,Z.o,Z.tO.size,N.al⟩else if i=h.length+1 then l1 else ι i,X:=fun q=>ι.X q/\q≠Z.b/\(Z.get a≠ []->q≠(g k).1)},
    by show(if _=_ then _ else _)=_;rw[if_pos rfl],by show(if _=_ then _ else if _=_ then _ else _)=_;rw[if_neg (by omega),if_pos rfl],
    fun id h1 h2=>by show(if _=_ then _ else if _=_ then _ else _)=_;rw[if_neg h1,if_neg h2],fun q=>Iff.rfl⟩
 have hdl:(dens h).length=h.length:=dC h;have io:∀id l,ι id=some l->ι1 id=some l:=fun id l hl=>by
  have:id<h.length:=by
   rcases Nat.lt_or_ge id h.length with q|q
   ·exact q
   ·rw[H.out id (by rw[hdl];exact q)]at hl;cases hl
  rw[i2 id (by omega) (by omega)];exact hl
 generalize hX0:(XO.row1 Z.tO.size (eX Z c) k (fZ Z a (h.length+1) (Z.get a).length) Z.e1)=x0;have hd0:x0.den = .live ⟨Z.tO.size,(eX Z c).set k (fZ Z a (h.length+1) (Z.get a).length),Z.e1⟩:=by rw[<-hX0];rfl
 have gold:∀id,id<h.length->(dens (h++ [x0,.opt Z.t (Z.get a) Z.e2]))[id]? =(dens h)[id]?:=fun id hid=>by
  rw[lC,List.getElem?_append_left (by rw[hdl];exact hid)]
 have g0:(dens (h++ [x0,.opt Z.t (Z.get a) Z.e2]))[h.length]? =some x0.den:=by
  rw[lC,List.getElem?_append_right (by rw[hdl];exact Nat.le_refl _),hdl,Nat.sub_self];rfl
 have g1:(dens (h++ [x0,.opt Z.t (Z.get a) Z.e2]))[h.length+1]? =some (XO.opt Z.t (Z.get a) Z.e2).den:=by
  rw[lC,List.getElem?_append_right (by rw[hdl];omega),hdl,show h.length+1-h.length=1 by omega];rfl
 have g2:∀id,h.length+2<=id->(dens (h++ [x0,.opt Z.t (Z.get a) Z.e2]))[id]? =none:=fun id hid=>by
  rw[List.getElem?_eq_none];rw[dC];simp;omega
 have gopt:(XO.opt Z.t (Z.get a) Z.e2).den=(if Z.get a= []then .dead else .live ⟨Z.t.size,(Z.get a).map Z.t.row,Z.e2⟩):=by
  simp only[XO.den];by_cases ha:Z.get a= []
  ·simp [ha]
  ·simp [ha]
 have obs:∀q,Ob (dens (h++ [x0,.opt Z.t (Z.get a) Z.e2])) ι1 q->Ob (dens h) ι q\/q=Z.b\/(Z.get a≠ []/\q=(g k).1):=by
  rintro q ⟨id,o,l,q1,q2,q3⟩;rcases Nat.lt_trichotomy id h.length with hid|hid|hid
  ·rw[gold id hid]at q1
   rw[i2 id (by omega) (by omega)]at q2;exact .inl ⟨id,o,l,q1,q2,q3⟩
  ·subst hid
   rw[i0]at q2;injection q2 with q2;subst q2;exact .inr (.inl q3.symm)
  ·by_cases hid2:id=h.length+1
   ·subst hid2
    rw[i1]at q2;by_cases ha:Z.get a= []
    ·rw[hl0 ha]at q2;cases q2
    ·obtain⟨l',e1,e2,_⟩:=hl1 ha
     rw[e1]at q2;injection q2 with q2;subst q2;exact .inr (.inr ⟨ha,q3.symm.trans e2⟩)
   ·rw[g2 id (by omega)]at q1;cases q1
 have mle:∀q,Mt (dens (h++ [x0,.opt Z.t (Z.get a) Z.e2])) ι1 q->Mt (dens h) ι q:=by
  rintro q (q1|q1)
  ·exact .inl ((iX q).1 q1).1
  ·rcases obs q q1 with q1|q1|⟨q1,q2⟩
   ·exact .inr q1
   ·exact .inl ((N.X q).2 (.inr (.inl q1)))
   ·exact .inl ((N.X q).2 (.inr (.inr ⟨k,a,hk,q1,q2⟩)))
 have old:∀ {x:V} {y:Value},Rep w ι (Mt (dens h) ι) x y->Rep w ι1 (Mt (dens (h++ [x0,.opt Z.t (Z.get a) Z.e2])) ι1) x y:=fun q=>q.same io mle
 refine⟨ι1,⟨r.defers,⟨?_,?_⟩,?_⟩,iX,⟨_,i0,rfl,rfl,rfl⟩,by rw[hX0];exact obs⟩
 ·have:=r.slots.1;simpa using this
 ·intro i x hx
  by_cases hi:i=L
  ·subst hi
   obtain⟨y,y1,y2⟩:=r.slots.2 i _ (List.getElem?_set_self hL);rw[List.getElem?_set_self hL]at hx;injection hx with hx;subst hx;cases y2;refine⟨_,y1,?_⟩;have:=Rep.sO (w:=w) (ι:=ι1) (M:=Mt (dens (h++ [x0,.opt Z.t (Z.get a) Z.e2])) ι1) h.length 0 Z.n cap ⟨Z.b,Z.o,Z.tO.size,N.al⟩ c Z.e1 fr i0 hcap N.blk (by simpa using hroom);rw[hy0];simpa using this
  ·rw[List.getElem?_set_ne (Ne.symm hi)]at hx
   obtain⟨y,y1,y2⟩:=r.slots.2 i x (by simp only;rw[List.getElem?_set_ne (Ne.symm hi)];exact hx);exact⟨y,y1,old y2⟩
 ·refine⟨?_,?_,?_,?_,?_,?_⟩
  ·intro id o ho
   rcases Nat.lt_trichotomy id h.length with hid|hid|hid
   ·rw[gold id hid]at ho
    obtain⟨l,c1,fr1,e1,la⟩:=H.live id o ho;exact⟨l,c1,fr1,io _ _ e1,la.blk,la.unfrozen,la.sz,la.rows,la.fits,fun i hi j hj=>let ⟨z,z1,z2⟩:=la.reads i hi j hj;⟨z,z1,old z2⟩⟩
   ·subst hid
    rw[g0,hd0]at ho;injection ho with ho;injection ho with ho;subst ho;refine⟨⟨Z.b,Z.o,Z.tO.size,N.al⟩,c,fr,i0,⟨N.blk,N.unf,rfl,?_,?_,?_⟩⟩
    ·intro q hq
     rcases List.mem_or_eq_of_mem_set hq with hq|hq
     ·obtain⟨i,hi,rfl⟩:=List.mem_map.1 hq;simp
     ·subst hq;simp only[fZ,List.length_set];exact Ty.row_size _ _
    ·show Z.o+((eX Z c).set k _).length*Z.tO.size<=c.size
     rw[List.length_set,iE];have:=Nat.mul_le_mul_right Z.tO.size hcap;omega
    ·intro i hi j hj
     have hiZ:i<Z.n:=by have:i<((eX Z c).set k (fZ Z a (h.length+1) (Z.get a).length)).length:=hi;rw[List.length_set,iE]at this;exact this
     show ∃x,c[Z.o+i*Z.tO.size+j]? =some x/\Rep w ι1 _ (((eX Z c).set k (fZ Z a (h.length+1) (Z.get a).length))[i][j]) x;have hj':j<(((eX Z c).set k (fZ Z a (h.length+1) (Z.get a).length))[i]).length:=hj;by_cases hik:i=k
     ·subst hik
      have e2:((eX Z c).set i (fZ Z a (h.length+1) (Z.get a).length))[i]'(by rw[List.length_set,iE];exact hiZ)=fZ Z a (h.length+1) (Z.get a).length:=by simp
      simp only[e2]at hj' ⊢;have hjs:j<Z.tO.size:=by simp only[fZ,List.length_set,Ty.row_size]at hj';exact hj'
      by_cases hjp:j=Z.p
      ·subst hjp
       have e3:(fZ Z a (h.length+1) (Z.get a).length)[Z.p] = .oL (h.length+1) (Z.get a).length:=by simp [fZ]
       rw[e3];by_cases ha:Z.get a= []
       ·refine⟨_,N.nil i a hk ha,.oL _ _ _ ?_⟩
        rw[ha];exact .v _
       ·obtain⟨h1,h2,h3,y,hy,cap,c2,fr2,q1,q2,q3,q4,q5,q6,q7⟩:=N.own i a hk ha
        obtain⟨l,u1,u2,u3,u4⟩:=hl1 ha;refine⟨y,hy,.oL _ _ _ ?_⟩;rw[if_neg (fun q=>ha (List.length_eq_zero_iff.1 q)),q1];have:=Rep.sO (w:=w) (ι:=ι1) (M:=Mt (dens (h++ [x0,.opt Z.t (Z.get a) Z.e2])) ι1) (h.length+1) 0 (Z.get a).length cap l c2 Z.e2 fr2 (i1.trans u1) q5 (by rw[u2];exact q2) (by rw[u3,u4];simpa using q6);rw[u2,u3]at this;simpa using this
      ·have e3:(fZ Z a (h.length+1) (Z.get a).length)[j]=(Z.tO.row a)[j]'(by rw[Ty.row_size];exact hjs):=by simp only[fZ];rw[List.getElem_set_ne (Ne.symm hjp)]
       rw[e3];obtain⟨z,z1,z2⟩:=N.cells i a j _ hk hjp (List.getElem?_eq_getElem (by rw[Ty.row_size];exact hjs));exact⟨z,z2,by rw[z1];exact .v z⟩
     ·have e1:=JT (Z:=Z) (c:=c) hiZ
      have e2:((eX Z c).set k (fZ Z a (h.length+1) (Z.get a).length))[i]'(by rw[List.length_set,iE];exact hiZ)=(List.range Z.tO.size).map fun j=>.v (c.getD (Z.o+i*Z.tO.size+j) undef):=by
       rw[List.getElem_set_ne (Ne.symm hik)];rw[List.getElem?_eq_getElem (by rw[iE];exact hiZ)]at e1;injection e1
      simp only[e2]at hj' ⊢;have hjs:j<Z.tO.size:=by simpa using hj'
      have hlt:=inr i j hiZ hjs;refine⟨_,Array.getElem?_eq_getElem hlt,?_⟩;simp only[List.getElem_map,List.getElem_range];rw[XQ (Array.getElem?_eq_getElem hlt)];exact .v _
   ·by_cases hid2:id=h.length+1
    ·subst hid2
     rw[g1,gopt]at ho;by_cases ha:Z.get a= []
     ·rw[if_pos ha]at ho;cases ho
     ·rw[if_neg ha]at ho
      injection ho with ho;injection ho with ho;subst ho;obtain⟨h1,h2,h3,y,hy,cap,c2,fr2,q1,q2,q3,q4,q5,q6,q7⟩:=N.own k a hk ha;obtain⟨l,u1,u2,u3,u4⟩:=hl1 ha;refine⟨l,c2,fr2,i1.trans u1,⟨by rw[u2];exact q2,q3.move (Nat.zero_le _),u4,?_,?_,?_⟩⟩
      ·intro q hq
       obtain⟨v,_,rfl⟩:=List.mem_map.1 hq;exact Ty.row_size _ _
      ·show l.base+((Z.get a).map Z.t.row).length*Z.t.size<=c2.size
       rw[u3,List.length_map];have:=Nat.mul_le_mul_right Z.t.size q5;omega
      ·intro i hi j hj
       have hi':i<(Z.get a).length:=by simpa using hi
       have e1:((Z.get a).map Z.t.row)[i]=Z.t.row (Z.get a)[i]:=by simp
       have hj':j<(Z.t.row (Z.get a)[i]).length:=by
        have:j<(((Z.get a).map Z.t.row)[i]).length:=hj;rw[e1]at this;exact this
       obtain⟨z,z1,z2⟩:=q7 i (Z.get a)[i] j _ (List.getElem?_eq_getElem hi') (List.getElem?_eq_getElem hj');refine⟨z,by rw[u3];exact z2,?_⟩;have:((Z.get a).map Z.t.row)[i][j] = .v z:=by
        rw[<-z1];congr 1
       show Rep w _ _ (((Z.get a).map Z.t.row)[i][j]) z;rw[this];exact .v z
    ·rw[g2 id (by omega)]at ho;cases ho
  ·intro id hid
   rcases Nat.lt_trichotomy id h.length with q|q|q
   ·rw[gold id q]at hid
    rw[i2 id (by omega) (by omega)];exact H.free id hid
   ·subst q;rw[g0,hd0]at hid;cases hid
   ·by_cases hid2:id=h.length+1
    ·subst hid2;rw[g1,gopt]at hid;split at hid<;>cases hid
    ·rw[g2 id (by omega)]at hid;cases hid
  ·intro id hid
   have hid:h.length+2<=id:=by rw[dC]at hid;simpa using hid
   rw[i2 id (by omega) (by omega)];exact H.out id (by rw[hdl];omega)
  ·intro ia oa la ib ob lb ha1 ha2 hb1 hb2 hbk
   have cls:∀id o l,(dens (h++ [x0,.opt Z.t (Z.get a) Z.e2]))[id]? =some (.live o)->ι1 id=some l->(id<h.length/\(dens h)[id]? =some (.live o)/\ι id=some l)\/(id=h.length/\l.blk=Z.b)\/(id=h.length+1/\Z.get a≠ []/\l.blk=(g k).1):=by
    intro id o l u1 u2;rcases Nat.lt_trichotomy id h.length with q|q|q
    ·rw[gold id q]at u1;rw[i2 id (by omega) (by omega)]at u2;exact .inl ⟨q,u1,u2⟩
    ·subst q;rw[i0]at u2;injection u2 with u2;subst u2;exact .inr (.inl ⟨rfl,rfl⟩)
    ·by_cases hid2:id=h.length+1
     ·subst hid2;rw[i1]at u2
      by_cases hq:Z.get a= []
      ·rw[hl0 hq]at u2;cases u2
      ·obtain⟨l',e1,e2,_⟩:=hl1 hq
       rw[e1]at u2;injection u2 with u2;subst u2;exact .inr (.inr ⟨rfl,hq,e2⟩)
     ·rw[g2 id (by omega)]at u1;cases u1
   have xb:ι.X Z.b:=(N.X _).2 (.inr (.inl rfl));have xg:Z.get a≠ []->ι.X (g k).1:=fun q=>(N.X _).2 (.inr (.inr ⟨k,a,hk,q,rfl⟩))
   rcases cls ia oa la ha1 ha2 with⟨p1,p2,p3⟩|⟨p1,p2⟩|⟨p1,p2,p3⟩<;>rcases cls ib ob lb hb1 hb2 with⟨r1,r2,r3⟩|⟨r1,r2⟩|⟨r1,r2,r3⟩
   ·exact H.apart ia oa la ib ob lb p2 p3 r2 r3 hbk
   ·exact(H.xob _ xb ⟨ia,oa,la,p2,p3,hbk.trans r2⟩).elim
   ·exact(H.xob _ (xg r2) ⟨ia,oa,la,p2,p3,hbk.trans r3⟩).elim
   ·exact(H.xob _ xb ⟨ib,ob,lb,r2,r3,hbk.symm.trans p2⟩).elim
   ·rw[p1,r1]
   ·exact((N.own k a hk r2).2.1 (r3.symm.trans (hbk.symm.trans p2))).elim
   ·exact(H.xob _ (xg p2) ⟨ib,ob,lb,r2,r3,hbk.symm.trans p3⟩).elim
   ·exact((N.own k a hk p2).2.1 (p3.symm.trans (hbk.trans r2))).elim
   ·rw[p1,r1]
  ·intro b hb
   exact H.xlt b ((iX b).1 hb).1
  ·intro b hb q
   obtain⟨q0,q1,q2⟩:=(iX b).1 hb;rcases obs b q with e|e|⟨e1,e2⟩
   ·exact H.xob b q0 e
   ·exact q1 e
   ·exact q2 e1 e2
theorem qGK {h:List XO} {i j id:Nat} {o:AObj} (e:(dens ((h.set i (.raw .dead)).set j (.raw .dead)))[id]? =some (.live o)):id≠i/\id≠j/\(dens h)[id]? =some (.live o):=by
 have h1:∀(h:List XO) (i id:Nat),(dens (h.set i (.raw .dead)))[id]? =some (.live o)->id≠i/\(dens h)[id]? =some (.live o):=by
  intro h i id e;rw[aR]at e;by_cases q:i=id
  ·subst q
   rw[List.getElem?_set_self (by have:=aF e;simpa using this)]at e;cases e
  ·rw[List.getElem?_set_ne q]at e;exact⟨fun p=>q p.symm,e⟩
 obtain⟨a1,a2⟩:=h1 _ _ _ e;obtain⟨b1,b2⟩:=h1 _ _ _ a2;exact⟨b1,a1,b2⟩
theorem MS {Z:NZ} (hZ:Z.ok) {F0:Nat->Prop} {X0:Nat->Prop} {y0:Value} {R:List Z.tO.den} {h:List XO} {ι:Iota} {w:World} {c:Array Value} {fr:Nat×Nat} {g:Nat->Nat×Nat} {L:Nat} {k:Nat} {a:Z.tO.den} {ι1:Iota}
  (N:Nst Z F0 X0 y0 R ι w c fr g) (hk:R[k]? =some a) (F:NFoc Z k a h ι c g ι1)
  (H1:HRel (dens (h++ [.row1 Z.tO.size (eX Z c) k (fZ Z a (h.length+1) (Z.get a).length) Z.e1,.opt Z.t (Z.get a) Z.e2])) ι1 w)
  (hF1:∀q,Ob (dens h) ι q->F0 q) (hF2:∀q,w.heap.size<=q->F0 q) (hF3:F0 Z.b) {n:Nat} (hn:h.length<n) {h':List XO} {ι':Iota} {w':World} {A':Act} {sl':List V}
  (ev:EvN n (dens (h++ [.row1 Z.tO.size (eX Z c) k (fZ Z a (h.length+1) (Z.get a).length) Z.e1,.opt Z.t (Z.get a) Z.e2])) ι1 w (dens h') ι' w') (r':SR ⟨sl',dens h'⟩ ι' A' w') (hL:sl'[L]? =some (.sO h.length 0 Z.n))
  {a2:Z.tO.den} {j:Nat} (e0:h'[h.length]? =some (.row1 Z.tO.size (eX Z c) k (fZ Z a2 j (Z.get a2).length) Z.e1)) (ej:h'[j]? =some (.opt Z.t (Z.get a2) Z.e2)) (hj:j≠h.length) :
  ∃ι2 y2 c2 fr2 g2,SR ⟨sl'.set L (.v y2),dens ((h'.set h.length (.raw .dead)).set j (.raw .dead))⟩ ι2 A' w'/\Nst Z F0 X0 y2 (R.set k a2) ι2 w' c2 fr2 g2 /\
   ∀q,q<w.heap.size->¬Ob (dens h) ι q->q≠Z.b->(Z.get a≠ []->q≠(g k).1)->w'.heap[q]? =w.heap[q]? /\¬Ob (dens ((h'.set h.length (.raw .dead)).set j (.raw .dead))) ι2 q:=by
 have H':=r'.heap;have hkR:k<R.length:=aF hk;have hkn:k<Z.n:=by rw[<-N.len];exact hkR
 have hp:=hZ.plt a2;have d0:(dens h')[h.length]? =some (.live ⟨Z.tO.size,(eX Z c).set k (fZ Z a2 j (Z.get a2).length),Z.e1⟩):=by rw[aE,e0];rfl
 obtain⟨l0,i1,b1,o1,s1⟩:=F.at0;have i':ι' h.length=some l0:=ev.iota _ _ hn i1;obtain⟨l0',c',fr',q1,la0⟩:=H'.live _ _ d0;rw[i']at q1;injection q1 with q1;subst q1;have hb0:w'.heap[Z.b]? =some (.cells c' Z.e1 fr'):=by rw[<-b1];exact la0.blk
 have hcs:c'.size=c.size:=by
  obtain⟨c3,fr3,u1,u2⟩:=ev.sizes _ _ _ _ N.blk;rw[hb0]at u1;injection u1 with u1;injection u1 with u1 _ _;rw[u1];exact u2
 have hob0:Ob (dens h') ι' Z.b:=⟨_,_,_,d0,i',b1⟩
 obtain⟨gj,hgj⟩:∃gj:Nat×Nat,Z.get a2≠ []->∃lj cj frj,ι' j=some lj/\LiveAt w' ι' (Mt (dens h') ι') ⟨Z.t.size,(Z.get a2).map Z.t.row,Z.e2⟩ lj cj frj/\gj=(lj.blk,lj.base)/\(dens h')[j]? =some (.live ⟨Z.t.size,(Z.get a2).map Z.t.row,Z.e2⟩):=by
  by_cases ha:Z.get a2= []
  ·exact⟨(0,0),fun q=>(q ha).elim⟩
  ·have dj:(dens h')[j]? =some (.live ⟨Z.t.size,(Z.get a2).map Z.t.row,Z.e2⟩):=by rw[aE,ej];simp [XO.den,ha]
   obtain⟨lj,cj,frj,u1,u2⟩:=H'.live _ _ dj;exact⟨(lj.blk,lj.base),fun _=>⟨lj,cj,frj,u1,u2,rfl,dj⟩⟩
 have hobj:Z.get a2≠ []->Ob (dens h') ι' gj.1:=fun q=>by
  obtain⟨lj,cj,frj,u1,u2,u3,u4⟩:=hgj q;exact⟨j,_,lj,u4,u1,by rw[u3]⟩
 have same1:∀q,ι1.X q->w'.heap[q]? =w.heap[q]? /\¬Ob (dens h') ι' q:=fun q hq=>ev.frame q (H1.xlt q hq) (H1.xob q hq)
 have inner:∀k' a',k'≠k->R[k']? =some a'->Z.get a'≠ []->ι1.X (g k').1:=fun k' a' hne h1 h2=>
  (F.X _).2 ⟨(N.X _).2 (.inr (.inr ⟨k',a',h1,h2,rfl⟩)),(N.own k' a' h1 h2).2.1,fun ha e=>hne (N.apart k' a' k a h1 h2 hk ha e)⟩
 have gjb:Z.get a2≠ []->gj.1≠Z.b:=fun q e=>by
  obtain⟨lj,cj,frj,u1,u2,u3,u4⟩:=hgj q;exact hj (H'.apart j _ lj h.length _ l0 u4 u1 d0 i' (by rw[u3]at e;exact e.trans b1.symm))
 have gjF:Z.get a2≠ []->F0 gj.1:=fun q=>by
  rcases Nat.lt_or_ge gj.1 w.heap.size with hlt|hge
  ·by_cases ho:Ob (dens (h++ [.row1 Z.tO.size (eX Z c) k (fZ Z a (h.length+1) (Z.get a).length) Z.e1,.opt Z.t (Z.get a) Z.e2])) ι1 gj.1
   ·rcases F.ob _ ho with e|e|⟨e1,e2⟩
    ·exact hF1 _ e
    ·rw[e];exact hF3
    ·rw[e2];exact(N.own k a hk e1).2.2.1
   ·exact absurd (hobj q) (ev.frame _ hlt ho).2
  ·exact hF2 _ hge
 have gjX:Z.get a2≠ []->¬X0 gj.1:=fun q hx=>by
  have:ι1.X gj.1:=(F.X _).2 ⟨(N.X _).2 (.inl hx),gjb q,fun ha e=>(N.own k a hk ha).1 (by rw[<-e];exact hx)⟩;exact(same1 _ this).2 (hobj q)
 have setk:∀k' a',(R.set k a2)[k']? =some a'->(k'=k/\a'=a2)\/(k'≠k/\R[k']? =some a'):=fun k' a' q=>by
  by_cases e:k=k'
  ·subst e;rw[List.getElem?_set_self hkR]at q;injection q with q;exact .inl ⟨rfl,q.symm⟩
  ·rw[List.getElem?_set_ne e]at q;exact .inr ⟨fun p=>e p.symm,q⟩
 have inr:∀i jj,i<Z.n->jj<Z.tO.size->Z.o+i*Z.tO.size+jj<c.size:=fun i jj hi hjj=>by
  obtain⟨cap,_,hcap,hroom⟩:=N.val;have:=tX hi hjj hcap;omega
 have rdk:∀jj (x:V),(fZ Z a2 j (Z.get a2).length)[jj]? =some x->∃z,c'[Z.o+k*Z.tO.size+jj]? =some z/\Rep w' ι' (Mt (dens h') ι') x z:=fun jj x hx=>by
  have hlt:k<((eX Z c).set k (fZ Z a2 j (Z.get a2).length)).length:=by rw[List.length_set,iE];exact hkn
  have e2:((eX Z c).set k (fZ Z a2 j (Z.get a2).length))[k]=fZ Z a2 j (Z.get a2).length:=by simp
  have hjl:jj<(((eX Z c).set k (fZ Z a2 j (Z.get a2).length))[k]).length:=by rw[e2];exact aF hx
  obtain⟨z,z1,z2⟩:=la0.reads k hlt jj hjl;rw[o1]at z1;refine⟨z,z1,?_⟩;have:((eX Z c).set k (fZ Z a2 j (Z.get a2).length))[k][jj]=x:=by
   have h3:(fZ Z a2 j (Z.get a2).length)[jj]'(aF hx)=x:=by rw[List.getElem?_eq_getElem (aF hx)]at hx;injection hx
   simp only[e2];exact h3
  rw[<-this];exact z2
 have rdo:∀i jj,i<Z.n->i≠k->jj<Z.tO.size->c'[Z.o+i*Z.tO.size+jj]? =c[Z.o+i*Z.tO.size+jj]?:=fun i jj hi hik hjj=>by
  have hlt:i<((eX Z c).set k (fZ Z a2 j (Z.get a2).length)).length:=by rw[List.length_set,iE];exact hi
  have e1:=JT (Z:=Z) (c:=c) hi;have e2:((eX Z c).set k (fZ Z a2 j (Z.get a2).length))[i]=(List.range Z.tO.size).map fun j=>.v (c.getD (Z.o+i*Z.tO.size+j) undef):=by
   rw[List.getElem_set_ne (Ne.symm hik)];rw[List.getElem?_eq_getElem (by rw[iE];exact hi)]at e1;injection e1
  have hjl:jj<(((eX Z c).set k (fZ Z a2 j (Z.get a2).length))[i]).length:=by rw[e2];simpa using hjj
  obtain⟨z,z1,z2⟩:=la0.reads i hlt jj hjl;rw[o1]at z1;have:((eX Z c).set k (fZ Z a2 j (Z.get a2).length))[i][jj] = .v (c.getD (Z.o+i*Z.tO.size+jj) undef):=by simp only[e2];simp
  rw[this]at z2;cases z2;have hc:=Array.getElem?_eq_getElem (inr i jj hi hjj);rw[XQ hc]at z1;rw[z1,hc]
 have hlen:∀k' a',R[k']? =some a'->k'<Z.n:=fun k' a' q=>by rw[<-N.len];exact aF q
 obtain⟨ι2,at2,X2⟩:∃ι2:Iota,(∀id,ι2 id=ι' id)/\∀q,ι2.X q↔ι'.X q\/q=Z.b\/(Z.get a2≠ []/\q=gj.1):=⟨{at':=ι'.at',X:=fun q=>ι'.X q\/q=Z.b\/(Z.get a2≠ []/\q=gj.1)},fun _=>rfl,fun _=>Iff.rfl⟩
 generalize hh2:(h'.set h.length (.raw .dead)).set j (.raw .dead)=h2;have get2:∀id o,(dens h2)[id]? =some (.live o)->id≠h.length/\id≠j/\(dens h')[id]? =some (.live o):=fun id o q=>by rw[<-hh2]at q;exact qGK q
 have ob2:∀q,Ob (dens h2) ι2 q->Ob (dens h') ι' q:=by
  rintro q ⟨id,o,l,u1,u2,u3⟩;exact⟨id,o,l,(get2 id o u1).2.2,by rw[<-at2];exact u2,u3⟩
 have m2:∀q,Mt (dens h2) ι2 q->Mt (dens h') ι' q:=by
  rintro q (u|u)
  ·rcases(X2 q).1 u with u|u|⟨u1,u2⟩
   ·exact .inl u
   ·rw[u];exact .inr hob0
   ·rw[u2];exact .inr (hobj u1)
  ·exact .inr (ob2 q u)
 have old:∀ {x:V} {y:Value},Rep w' ι' (Mt (dens h') ι') x y->Rep w' ι2 (Mt (dens h2) ι2) x y:=fun q=>q.same (fun id l e=>by rw[at2];exact e) m2
 obtain⟨y2,t2,rep2⟩:=r'.slots.2 L _ hL;have val2:∃cap,y2 = .slice (some ⟨Z.b,Z.o,none⟩) Z.n cap/\Z.n<=cap/\Z.o+cap*Z.tO.size<=c'.size:=by
  cases rep2 with
  |sO _ _ _ cap l c3 e fr3 hl hcap hb hs=>
   rw[i']at hl;injection hl with hl;subst hl;rw[b1]at hb;rw[hb0]at hb;injection hb with hb;injection hb with hb _ _;subst hb;refine⟨cap,by rw[b1,o1];simp,hcap,?_⟩;rw[o1,s1]at hs;simpa using hs
 refine⟨ι2,y2,c',fr',fun q=>if q=k then gj else g q,⟨r'.defers,⟨by have:=r'.slots.1;simpa using this,fun i x hx=>?_⟩,?_⟩,?_,?_⟩
 ·by_cases hi:i=L
  ·subst hi
   rw[List.getElem?_set_self (aF hL)]at hx;injection hx with hx;subst hx;exact⟨y2,t2,.v _⟩
  ·rw[List.getElem?_set_ne (Ne.symm hi)]at hx
   obtain⟨z,z1,z2⟩:=r'.slots.2 i x hx;exact⟨z,z1,old z2⟩
 ·refine⟨fun id o ho=>?_,fun id hid=>?_,fun id hid=>?_,fun ia oa la ib ob lb p1 p2 p3 p4=>?_,fun q hq=>?_,fun q hq ho=>?_⟩
  ·obtain⟨u1,u2,u3⟩:=get2 id o ho
   obtain⟨l,c3,fr3,v1,la⟩:=H'.live id o u3;exact⟨l,c3,fr3,by rw[at2];exact v1,la.blk,la.unfrozen,la.sz,la.rows,la.fits,fun i hi jj hjj=>let ⟨z,z1,z2⟩:=la.reads i hi jj hjj;⟨z,z1,old z2⟩⟩
  ·rw[at2]
   refine H'.free id ?_;rw[<-hh2,aR,aR]at hid;by_cases q1:j=id
   ·subst q1
    rw[List.getElem?_set_self (by have:=aF hid;simpa using this)]at hid;cases hid
   ·rw[List.getElem?_set_ne q1]at hid
    by_cases q2:h.length=id
    ·subst q2
     rw[List.getElem?_set_self (by have:=aF hid;simpa using this)]at hid;cases hid
    ·rw[List.getElem?_set_ne q2]at hid;exact hid
  ·rw[at2]
   refine H'.out id ?_;rw[<-hh2,aR,aR]at hid;simpa using hid
  ·rw[at2]at p2 p4
   exact H'.apart ia oa la ib ob lb (get2 _ _ p1).2.2 p2 (get2 _ _ p3).2.2 p4
  ·rcases(X2 q).1 hq with u|u|⟨u1,u2⟩
   ·exact H'.xlt q u
   ·rw[u];exact H'.blk_lt hob0
   ·rw[u2];exact H'.blk_lt (hobj u1)
  ·rcases(X2 q).1 hq with u|u|⟨u1,u2⟩
   ·exact H'.xob q u (ob2 q ho)
   ·obtain⟨id,o,l,v1,v2,v3⟩:=ho
    obtain⟨w1,w2,w3⟩:=get2 id o v1;rw[at2]at v2;exact w1 (H'.apart id o l h.length _ l0 w3 v2 d0 i' (v3.trans (u.trans b1.symm)))
   ·obtain⟨id,o,l,v1,v2,v3⟩:=ho
    obtain⟨w1,w2,w3⟩:=get2 id o v1;rw[at2]at v2;obtain⟨lj,cj,frj,t1,t2,t3,t4⟩:=hgj u1;exact w2 (H'.apart id o l j _ lj w3 v2 t4 t1 (v3.trans (u2.trans (by rw[t3]))))
 ·refine⟨hb0,Unfr.move la0.unfrozen (Nat.zero_le _),N.al,by rw[List.length_set];exact N.len,val2,fun q=>?_,N.x0b,?_,?_,?_,?_⟩
  ·rw[X2 q,ev.away,F.X q,N.X q]
   constructor
   ·rintro(⟨u|u|⟨k',a',v1,v2,v3⟩,u2,u3⟩|u|⟨u1,u2⟩)
    ·exact .inl u
    ·exact(u2 u).elim
    ·have hne:k'≠k:=fun e=>by
       subst e;rw[hk]at v1;injection v1 with v1;subst v1;exact u3 v2 v3
     exact .inr (.inr ⟨k',a',by rw[List.getElem?_set_ne (Ne.symm hne)];exact v1,v2,by rw[if_neg hne];exact v3⟩)
    ·exact .inr (.inl u)
    ·exact .inr (.inr ⟨k,a2,List.getElem?_set_self hkR,u1,by rw[if_pos rfl];exact u2⟩)
   ·rintro(u|u|⟨k',a',v1,v2,v3⟩)
    ·exact .inl ⟨.inl u,fun e=>N.x0b (by rw[<-e];exact u),fun ha e=>(N.own k a hk ha).1 (by rw[<-e];exact u)⟩
    ·exact .inr (.inl u)
    ·rcases setk k' a' v1 with⟨rfl,rfl⟩|⟨hne,hr⟩
     ·rw[if_pos rfl]at v3;exact .inr (.inr ⟨v2,v3⟩)
     ·rw[if_neg hne]at v3
      have:=(F.X _).1 (inner k' a' hne hr v2);rw[v3];exact .inl ⟨.inr (.inr ⟨k',a',hr,v2,rfl⟩),this.2.1,this.2.2⟩
  ·intro k' a' jj x hr hjp hx
   have hjs:jj<Z.tO.size:=by have:=aF hx;rw[Ty.row_size]at this;exact this
   rcases setk k' a' hr with⟨rfl,rfl⟩|⟨hne,hr⟩
   ·obtain⟨z,rfl⟩:=hZ.flatO _ _ _ hjp hx
    obtain⟨z2,z3,z4⟩:=rdk jj (.v z) (by simp only[fZ];rw[List.getElem?_set_ne (Ne.symm hjp)];exact hx);cases z4;exact⟨z,rfl,z3⟩
   ·rw[rdo k' jj (hlen _ _ hr) hne hjs]
    exact N.cells k' a' jj x hr hjp hx
  ·intro k' a' hr ha
   rcases setk k' a' hr with⟨rfl,rfl⟩|⟨hne,hr⟩
   ·obtain⟨z2,z3,z4⟩:=rdk Z.p (.oL j (Z.get a').length) (by simp only[fZ];rw[List.getElem?_set_self (by rw[Ty.row_size];exact hp)])
    rw[ha]at z4;cases z4 with|oL _ _ _ z4=>cases z4;exact z3
   ·rw[rdo k' Z.p (hlen _ _ hr) hne hp]
    exact N.nil k' a' hr ha
  ·intro k' a' hr ha
   rcases setk k' a' hr with⟨rfl,rfl⟩|⟨hne,hr⟩
   ·rw[if_pos rfl]
    refine⟨gjX ha,gjb ha,gjF ha,?_⟩;obtain⟨z2,z3,z4⟩:=rdk Z.p (.oL j (Z.get a').length) (by simp only[fZ];rw[List.getElem?_set_self (by rw[Ty.row_size];exact hp)]);refine⟨z2,z3,?_⟩;obtain⟨lj,cj,frj,t1,t2,t3,t4⟩:=hgj ha;cases z4 with
    |oL _ _ _ z4=>
     rw[if_neg (fun q=>ha (List.length_eq_zero_iff.1 q))]at z4;cases z4 with
     |sO _ _ _ cap l c3 e fr3 hl hcap hb hs=>
      rw[t1]at hl;injection hl with hl;subst hl;have hlb:=t2.blk;rw[hb]at hlb;injection hlb with hlb;injection hlb with u1 u2 u3;subst u1 u2 u3;have hsz:lj.sz=Z.t.size:=t2.sz;rw[t3];refine⟨cap,c3,fr3,by simp,hb,Unfr.move t2.unfrozen (Nat.zero_le _),by have:=lj.al;rw[hsz]at this;exact this,hcap,by rw[hsz]at hs;simpa using hs,fun i a jj x hi hx=>?_⟩;obtain⟨z,rfl⟩:=hZ.flat _ _ _ hx;have hi':i<((Z.get a').map Z.t.row).length:=by simpa using aF hi
      have ei:((Z.get a').map Z.t.row)[i]=Z.t.row a:=by
       rw[List.getElem?_eq_getElem (aF hi)]at hi;injection hi with hi;simp [hi]
      have hjl:jj<(((Z.get a').map Z.t.row)[i]).length:=by rw[ei];exact aF hx
      obtain⟨z5,z6,z7⟩:=t2.reads i hi' jj hjl;have:((Z.get a').map Z.t.row)[i][jj] = .v z:=by
       have h3:(Z.t.row a)[jj]'(aF hx) = .v z:=by rw[List.getElem?_eq_getElem (aF hx)]at hx;injection hx
       simp only[ei];exact h3
      have z7:Rep w' ι' _ (((Z.get a').map Z.t.row)[i][jj]) z5:=z7;rw[this]at z7;cases z7;exact⟨z,rfl,z6⟩
   ·rw[if_neg hne]
    obtain⟨v1,v2,v3,y,v4,cap,c3,fr3,v5,v6,v7⟩:=N.own k' a' hr ha;exact⟨v1,v2,v3,y,by rw[rdo k' Z.p (hlen _ _ hr) hne hp];exact v4,cap,c3,fr3,v5,(same1 _ (inner k' a' hne hr ha)).1.trans v6,v7⟩
  ·intro k1 a1 k2 b2 hr1 hn1 hr2 hn2 he
   rcases setk k1 a1 hr1 with⟨rfl,rfl⟩|⟨hne1,hs1⟩<;>rcases setk k2 b2 hr2 with⟨rfl,rfl⟩|⟨hne2,hs2⟩
   ·rfl
   ·rw[if_pos rfl,if_neg hne2]at he
    exact((same1 _ (inner k2 b2 hne2 hs2 hn2)).2 (by rw[<-he];exact hobj hn1)).elim
   ·rw[if_neg hne1,if_pos rfl]at he
    exact((same1 _ (inner k1 a1 hne1 hs1 hn1)).2 (by rw[he];exact hobj hn2)).elim
   ·rw[if_neg hne1,if_neg hne2]at he
    exact N.apart k1 a1 k2 b2 hs1 hn1 hs2 hn2 he
 ·intro q hq h1 h2 h3
  have hno:¬Ob (dens (h++ [.row1 Z.tO.size (eX Z c) k (fZ Z a (h.length+1) (Z.get a).length) Z.e1,.opt Z.t (Z.get a) Z.e2])) ι1 q:=fun p=>by
   rcases F.ob q p with e|e|⟨e1,e2⟩
   ·exact h1 e
   ·exact h2 e
   ·exact h3 e1 e2
  obtain⟨f1,f2⟩:=ev.frame q hq hno;exact⟨f1,fun p=>f2 (ob2 q p)⟩
structure SRN (Z:NZ) (hS:Heap) (ιS:Iota) (wS:World) (L:Nat) (s:Y) (R:List Z.tO.den) (ι:Iota) (A:Act) (w:World):Prop where
 any:s.sl[L]? =some .any
 ex:∃y c fr g,SR ⟨s.sl.set L (.v y),dens s.h⟩ ι A w/\Nst Z (fun q=>wS.heap.size<=q\/Ob hS ιS q) ιS.X y R ι w c fr g
 ev:EvS hS ιS wS (dens s.h) ι w
 ob:Ob hS ιS Z.b
def PNy (E:Env) (Z:NZ) (hS:Heap) (ιS:Iota) (wS:World) (L:Nat) (c:Code) (s:Y) (R:List Z.tO.den) (Q:Exit->Y->List Z.tO.den->Prop):Prop:=
 ∀ι A w,SRN Z hS ιS wS L s R ι A w->c.wp E.P (fun e A' w'=>∃s' R' ι',Q e s' R'/\FrW (wr c) s s'/\SRN Z hS ιS wS L s' R' ι' A' w') A w
section
variable {E:Env} {Z:NZ} {hS:Heap} {ιS:Iota} {wS:World} {L:Nat}
theorem PNy.mono {c:Code} {s:Y} {R:List Z.tO.den} {Q Q':Exit->Y->List Z.tO.den->Prop} (h:PNy E Z hS ιS wS L c s R Q) (hq:∀e s R,Q e s R->Q' e s R):PNy E Z hS ιS wS L c s R Q':=
 fun ι A w r=>wp_mono (h ι A w r) fun e A' w' ⟨s',R',ι',q,rest⟩=>⟨s',R',ι',hq _ _ _ q,rest⟩
theorem KP {sl:List V} {L:Nat} {x y:V} (h:sl[L]? =some x):(sl.set L y).set L x=sl:=by
 rw[List.set_set];exact EZ h
theorem PNy.x (hT:aC E.P E.T) (hM:E.P.follows .mixedOrders=true) (hI:qB E) {c:Code} {s:Y} {R:List Z.tO.den} {Q:Exit->Y->List Z.tO.den->Prop} (hL:¬L∈wr c)
  (hx:∀y,iG s.sl L (.v y) fun sl=>xcode E c ⟨sl,s.h,s.tch,s.an⟩ fun e s'=>match s' with|⟨sl',h',tch',an'⟩=>iG sl' L .any fun sl'=>Q e ⟨sl',h',tch',an'⟩ R):PNy E Z hS ιS wS L c s R Q:=by
 intro ι A w r;obtain⟨hany,⟨y,c0,fr,g,sr,N⟩,ev,hob⟩:=r;have hx:=hx y;rw[cL]at hx;refine wp_mono (hU hT hM hI c _ _ hx ι A w sr) ?_;rintro e A' w' ⟨st,ι',⟨⟨sl',h',tch',an'⟩,rfl,hq,fw⟩,r',ev'⟩;(try simp only at hq);rw[cL]at hq;have hl:sl'[L]? =some (.v y):=by rw[fw.sl L hL];exact List.getElem?_set_self (aF hany)
 refine⟨⟨sl'.set L .any,h',tch',an'⟩,R,ι',hq,⟨⟨fw.fr.len,fw.fr.tch,fw.fr.h⟩,by have:=fw.len;simpa using this,fun i hi=>?_⟩,⟨List.getElem?_set_self (aF hl),⟨y,c0,fr,g,?_,N.keep sr.heap ev'⟩,ev.step ev',hob⟩⟩
 ·by_cases q:i=L
  ·subst q;rw[hany];exact List.getElem?_set_self (aF hl)
  ·have:=fw.sl i hi
   (try simp only at this ⊢);rw[List.getElem?_set_ne (Ne.symm q),this,List.getElem?_set_ne (Ne.symm q)]
 ·simp only[KP hl];exact r'
theorem PNy.seq {x y:Code} {s:Y} {R:List Z.tO.den} {Q:Exit->Y->List Z.tO.den->Prop} (h:PNy E Z hS ιS wS L x s R (fun e s' R'=>match e with
  | .normal=>PNy E Z hS ιS wS L y s' R' Q
  |e=>Q e s' R')):PNy E Z hS ιS wS L (.seq x y) s R Q:=by
 intro ι A w r;refine wp_seq (wp_mono (h ι A w r) ?_);rintro e A' w' ⟨s',R',ι',q,fw,r'⟩;have f1:FrW (wr (.seq x y)) s s':=fw.mono fun i hi=>List.mem_append.2 (.inl hi)
 cases e with
 |normal=>exact wp_mono (q ι' A' w' r') fun e2 A2 w2 ⟨s2,R2,ι2,q2,f2,r2⟩=>⟨s2,R2,ι2,q2,f1.trans (f2.mono fun i hi=>List.mem_append.2 (.inr hi)),r2⟩
 |_=>exact⟨s',R',ι',q,f1,r'⟩
theorem PNy.block {id:Nat} {c:Code} {s:Y} {R:List Z.tO.den} {Q:Exit->Y->List Z.tO.den->Prop} (h:PNy E Z hS ιS wS L c s R (fun e s' R'=>match e with
  | .exit i=>(match Nat.beq i id with
    |true=>Q .normal s' R'
    |false=>Q (.exit i) s' R')
  |e=>Q e s' R')):PNy E Z hS ιS wS L (.block id c) s R Q:=by
 intro ι A w r;refine wp_block (wp_mono (h ι A w r) ?_);rintro e A' w' ⟨s',R',ι',q,fw,r'⟩;cases e with
 |exit i=>
  simp only[Exit.inBlock];cases hq:Nat.beq i id with
  |true=>
   simp only[hq]at q;rw[if_pos (Nat.eq_of_beq_eq_true hq)];exact⟨s',R',ι',q,fw,r'⟩
  |false=>
   simp only[hq]at q;rw[if_neg (fun q=>by subst q;simp at hq)];exact⟨s',R',ι',q,fw,r'⟩
 |_=>exact⟨s',R',ι',q,fw,r'⟩
def MR (Z:NZ) (i0:Nat) (rows:List (List V)) (k:Nat) (s':Y) (K:Y->Z.tO.den->Prop):Prop:=match s' with
 |⟨sl,h,tch,an⟩=>match h[i0]? with
  |some (.row1 sz R1 k1 row e)=>(match row[Z.p]? with
   |some (.oL j m)=>(match h[j]? with
    |some (.opt t l e')=>(match eQ (t':=Z.t) l with
     |some l'=>(match un (cE 8) Z.tO (row.set Z.p (.sL Z.t l'))with
      |some (a2,[])=>Side ((sz=Z.tO.size/\R1=rows/\k1=k/\e=Z.e1)/\e'=Z.e2/\Z.get a2=l'/\m=l'.length/\i0<j/\row=fZ Z a2 j m) /\
         jT h i0 (.raw .dead) fun h=>jT h j (.raw .dead) fun h=>K ⟨sl,h,tch,an⟩ a2
      |_=>False)
     |none=>False)
    |_=>False)
   |_=>False)
  |_=>False
theorem PNy.focus (hZ:Z.ok) (hT:aC E.P E.T) (hM:E.P.follows .mixedOrders=true) (hI:qB E) {c:Code} {s:Y} {R:List Z.tO.den} {Q:Exit->Y->List Z.tO.den->Prop} (hL:¬L∈wr c) {k:Nat} {a:Z.tO.den} (hk:R[k]? =some a)
  (hx:∀rows:List (List V),rows.length=Z.n->fN s.h.length fun i0=>iG s.sl L (.sO i0 0 Z.n) fun sl=>fH (s.h++ [.row1 Z.tO.size rows k (fZ Z a (i0+1) (Z.get a).length) Z.e1,.opt Z.t (Z.get a) Z.e2]) fun h=>
    xcode ⟨E.P,E.T,i0+2,E.fid,E.flip,E.inl⟩ c ⟨sl,h,s.tch,s.an⟩ fun e s'=>MR Z i0 rows k s' fun s2 a2=>match s2 with
     |⟨sl',h',tch',an'⟩=>iG sl' L .any fun sl'=>Q e ⟨sl',h',tch',an'⟩ (R.set k a2)):PNy E Z hS ιS wS L c s R Q:=by
 intro ι A w r;obtain⟨hany,⟨y,c0,fr,g,sr,N⟩,ev,hob⟩:=r;obtain⟨ι1,sr1,F⟩:=VE hZ sr (aF hany) N hk;have hx:=hx (eX Z c0) (iE Z c0);rw[gH,cL,dD]at hx;refine wp_mono (hU (E:=⟨E.P,E.T,s.h.length+2,E.fid,E.flip,E.inl⟩) hT hM hI c _ _ hx ι1 A w sr1) ?_;rintro e A' w' ⟨st,ι',⟨⟨sl',h',tch',an'⟩,rfl,hq,fw⟩,r',ev'⟩;unfold MR at hq;(try simp only at hq);split at hq;case h_2=>exact hq.elim
 rename_i sz R1 k1 row e1 he0;split at hq;case h_2=>exact hq.elim
 rename_i j m hrow;split at hq;case h_2=>exact hq.elim
 rename_i t l e2 hej;split at hq;case h_2=>exact hq.elim
 rename_i l' hcl;split at hq;case h_2=>exact hq.elim
 rename_i a2 hun;obtain⟨⟨⟨⟨q1,q2,q3,q4⟩,q5,q6,q7,q8,q9⟩⟩,hq⟩:=hq;obtain⟨et,el⟩:=fG hcl;subst et;subst el;subst q1 q2 q3 q4 q5 q7;rw[cM,cM,cL]at hq;rw[<-q6]at hej q9;have hl:sl'[L]? =some (.sO s.h.length 0 Z.n):=by rw[fw.sl L hL];exact List.getElem?_set_self (aF hany)
 have hF1:∀q,Ob (dens s.h) ι q->wS.heap.size<=q\/Ob hS ιS q:=fun q hq=>by
  rcases Nat.lt_or_ge q wS.heap.size with h1|h1
  ·by_cases h2:Ob hS ιS q
   ·exact .inr h2
   ·exact absurd hq (ev.frame q h1 h2).2
  ·exact .inl h1
 obtain⟨ι2,y2,c2,fr2,g2,sr2,N2,fin⟩:=MS hZ N hk F sr1.heap hF1 (fun q h1=>.inl (Nat.le_trans ev.size h1)) (.inr hob) (n:=s.h.length+2) (by omega) ev' r' hl (by rw[he0,q9]) hej (by omega);refine⟨⟨sl'.set L .any,(h'.set s.h.length (.raw .dead)).set j (.raw .dead),tch',an'⟩,_,ι2,hq,⟨⟨?_,fw.fr.tch,fun i hi hn=>?_⟩,by have:=fw.len;simpa using this,fun i hi=>?_⟩,⟨List.getElem?_set_self (aF hl),⟨y2,c2,fr2,g2,?_,N2⟩,?_,hob⟩⟩
 ·have:=fw.fr.len;simp at this ⊢;omega
 ·have h1:=fw.fr.h i (by simp;omega) hn
  (try simp only at h1 ⊢);rw[List.getElem?_set_ne (by omega),List.getElem?_set_ne (by omega),h1,List.getElem?_append_left hi]
 ·by_cases q:i=L
  ·subst q;rw[hany];exact List.getElem?_set_self (aF hl)
  ·have:=fw.sl i hi
   (try simp only at this ⊢);rw[List.getElem?_set_ne (Ne.symm q),this,List.getElem?_set_ne (Ne.symm q)]
 ·simp only[List.set_set];exact sr2
 ·refine⟨ev'.os.trans ev.os,ev'.tape.trans ev.tape,ev'.output.trans ev.output,Nat.le_trans ev.size ev'.size,fun q hq1 hq2=>?_,fun b cc e fr hb=>?_⟩
  ·obtain⟨u1,u2⟩:=ev.frame q hq1 hq2
   obtain⟨v1,v2⟩:=fin q (Nat.lt_of_lt_of_le hq1 ev.size) u2 (fun e=>hq2 (by rw[e];exact hob)) (fun ha e=>by
    rcases(N.own _ a hk ha).2.2.1 with h1|h1
    ·omega
    ·exact hq2 (by rw[e];exact h1))
   exact⟨v1.trans u1,v2⟩
  ·obtain⟨c1,f1,h1,s1⟩:=ev.sizes b cc e fr hb
   obtain⟨c3,f3,h3,s3⟩:=ev'.sizes b c1 e f1 h1;exact⟨c3,f3,h3,s3.trans s1⟩
theorem CutR.setL {n0:Nat} {σ:List Nat} {sl sl':List V} {h h':Heap} {y:Value} (c:CutR n0 σ ⟨sl,h⟩ ⟨sl',h'⟩) (L:Nat):CutR n0 σ ⟨sl.set L (.v y),h⟩ ⟨sl'.set L (.v y),h'⟩:=
 ⟨c.len,c.ident,c.inj,⟨by have:=c.sl.1;simpa using this,fun i x z hx hz=>by
   by_cases q:i=L
   ·subst q
    rw[List.getElem?_set_self (by have:=aF hx;simpa using this)]at hx;rw[List.getElem?_set_self (by have:=aF hz;simpa using this)]at hz;injection hx with hx;injection hz with hz;subst hx hz;exact cA.tree (LE.refl _) (.v _)
   ·(try simp only at hx hz)
    rw[List.getElem?_set_ne (Ne.symm q)]at hx hz;exact c.sl.2 i x z hx hz⟩,c.h⟩
theorem SRN.cut {n0:Nat} {σ:List Nat} {s s':Y} {R:List Z.tO.den} {ι:Iota} {A:Act} {w:World} (r:SRN Z hS ιS wS L s R ι A w) (c:CutR n0 σ s.den s'.den) (h:s'.sl[L]? =some .any):SRN Z hS ιS wS L s' R (ι.ren σ) A w:=by
 obtain⟨hany,⟨y,c0,fr,g,sr,N⟩,ev,hob⟩:=r;obtain⟨r1,e1⟩:=(CutR.setL (y:=y) c L).apply sr;exact⟨h,⟨y,c0,fr,g,r1,N.keep sr.heap e1⟩,ev.step e1,hob⟩
theorem PNy.prep {c:Code} {s:Y} {R:List Z.tO.den} {Q:Exit->Y->List Z.tO.den->Prop} (g:List GK) (hL:¬L∈gslots g) (hW:∀d,d∈gslots g->d∈wr c) (K:Value->List V->List XO->Prop)
  (hx:∀y,zN g (s.sl.set L (.v y)) s.h (K y)) (hK:∀y sl h,K y sl h->PNy E Z hS ιS wS L c ⟨sl.set L .any,h,s.tch,s.an⟩ R Q):PNy E Z hS ιS wS L c s R Q:=by
 intro ι A w r;obtain⟨hany,⟨y,c0,fr,g1,sr,N⟩,ev,hob⟩:=r;obtain⟨sl',h',k1,k2,k3,k4,k5,k6⟩:=iN g _ _ _ (hx y);obtain⟨sr',ev0⟩:=k6 sr;have ev':=EvN.of (n:=0) ev0;have hl:sl'[L]? =some (.v y):=by rw[k3 L hL];exact List.getElem?_set_self (aF hany)
 have fw:FrW (wr c) s ⟨sl'.set L .any,h',s.tch,s.an⟩:=.mk' k4 (fun j hj=>hj) (fun j hj _=>k5 j hj) (by have:=k2;simpa using this) (fun i hi=>by
  by_cases q:i=L
  ·subst q;exact(List.getElem?_set_self (aF hl)).trans hany.symm
  ·exact(List.getElem?_set_ne (Ne.symm q)).trans ((k3 i (fun p=>hi (hW i p))).trans (List.getElem?_set_ne (Ne.symm q))))
 refine wp_mono (hK y sl' h' k1 ι A w ⟨List.getElem?_set_self (aF hl),⟨y,c0,fr,g1,?_,N.keep sr.heap ev'⟩,ev.step ev',hob⟩) ?_
 ·simp only[KP hl];exact sr'
 ·rintro e A' w' ⟨s',R',ι',q,f2,r'⟩
  exact⟨s',R',ι',q,fw.trans f2,r'⟩
theorem PNy.loopA {c:Code} {g:List GK} {s:Y} {R:List Z.tO.den} {Q:Exit->Y->List Z.tO.den->Prop} (hL:¬L∈wr c) (inv:Tup (gts g)->List Z.tO.den->Prop) (mu:Tup (gts g)->List Z.tO.den->Nat) (nxt:List (Nat×Nat×LA))
  (h0:match s with|⟨sl,h,tch,an⟩=>arrive E.n0 (wr c) g ⟨sl,h,tch,an⟩ ⟨sl,h,[],an⟩ fun y=>Side (inv y R))
  (hr:match s with|⟨sl,h,tch,an⟩=>∀y R,inv y R->fS (wr c) g y ⟨sl,h⟩ fun sl' h'=>PNy E Z hS ιS wS L c ⟨sl',h',[],nxt⟩ R fun e s' R'=>match e with
    | .normal=>(match s' with|⟨sl',h',tch',an'⟩=>arrive E.n0 (wr c) g ⟨sl,h,tch,an⟩ ⟨sl',h',tch',an'⟩ fun y'=>Side (inv y' R')/\Side (mu y' R'<mu y R))
    |e=>Q e ⟨s'.sl,s'.h,s'.tch++(gids ⟨sl,h⟩ g++tch),an⟩ R'):PNy E Z hS ιS wS L (.loop c) s R Q:=by
 obtain⟨sl,h,tch,an⟩:=s;(try simp only at h0 hr);obtain⟨σ0,y0,cut0,⟨hi0⟩,hW⟩:=jY (s1:=⟨sl,h,tch,an⟩) (s':=⟨sl,h,[],an⟩) ⟨fun _ _=>rfl,rfl,fun _ _ _ _=>rfl⟩ h0;intro ι A w r;let S:Tup (gts g)->Y:=fun y=>⟨eP g y ⟨sl,h⟩ (iZ (wr c) sl),eZ g y ⟨sl,h⟩ h,[],nxt⟩
 have hSL:∀y,(S y).sl[L]? =some .any:=fun y=>by
  show(eP g y ⟨sl,h⟩ (iZ (wr c) sl))[L]? =_;rw[fA g _ _ _ L (fun q=>hL (hW L q)),qL _ _ _ hL];exact r.any
 have J0:SRN Z hS ιS wS L (S y0) R (ι.ren σ0) A w:=SRN.cut (s':=S y0) (s:=⟨sl,h,[],an⟩) ⟨r.any,r.ex,r.ev,r.ob⟩ cut0 (hSL y0);let J:Nat->Act->World->Prop:=fun n A' w'=>∃y R' ι',mu y R'=n/\inv y R'/\SRN Z hS ιS wS L (S y) R' ι' A' w'
 have dec:∀A' w',∃m,((∃n,J n A' w')->J m A' w'/\∀n,J n A' w'->m<=n):=by
  intro A' w';by_cases hx:∃n,J n A' w'
  ·obtain⟨n,hn⟩:=hx
   induction n using Nat.strongRecOn with
   |_ n ih=>
    by_cases hlt:∃k,k<n/\J k A' w'
    ·obtain⟨k,hk,hj⟩:=hlt
     exact ih k hk hj
    ·refine⟨n,fun _=>⟨hn,fun k hk=>?_⟩⟩
     rcases Nat.lt_or_ge k n with q|q
     ·exact absurd ⟨k,q,hk⟩ hlt
     ·exact q
  ·exact⟨0,fun q=>absurd q hx⟩
 obtain⟨f,hf⟩:∃f:Act->World->Nat,∀A' w',(∃n,J n A' w')->J (f A' w') A' w'/\∀n,J n A' w'->f A' w'<=n:=
  ⟨fun A' w'=>Classical.choose (dec A' w'),fun A' w'=>Classical.choose_spec (dec A' w')⟩
 refine wp_loop (fun A' w'=>∃n,J n A' w') f ⟨_,y0,R,_,rfl,hi0,J0⟩ ?_;intro A' w' hI;obtain⟨⟨y,R',ι',hm,hi,r'⟩,_⟩:=hf A' w' hI;have hr1:=hr y R' hi;rw[zC]at hr1;refine wp_mono (hr1 ι' A' w' r') ?_;rintro e A2 w2 ⟨s2,R2,ι2,q,fw,r2⟩;cases e with
 |normal=>
  obtain⟨sl2,h2,tch2,an2⟩:=s2;(try simp only at q);obtain⟨σ,y2,cut,⟨⟨hi2⟩,⟨hmu⟩⟩,_⟩:=jY (s1:=⟨sl,h,tch,an⟩) (s':=⟨sl2,h2,tch2,an2⟩) (sG (tch:=tch) (t0:=[]) (an:=an) hW fw).1 q;have hj:J (mu y2 R2) A2 w2:=⟨y2,R2,_,rfl,hi2,SRN.cut (s':=S y2) r2 cut (hSL y2)⟩
  refine⟨⟨_,hj⟩,?_⟩;have:=(hf A2 w2 ⟨_,hj⟩).2 _ hj;omega
 |_=>exact⟨⟨s2.sl,s2.h,s2.tch++(gids ⟨sl,h⟩ g++tch),an⟩,R2,ι2,q,tF hW fw,⟨r2.any,r2.ex,r2.ev,r2.ob⟩⟩
end
section
variable {Z:NZ} {hS:Heap} {ιS:Iota} {wS:World} {L:Nat}
theorem SRN.closeO (hZ:Z.ok) {s:Y} {R:List Z.tO.den} {ι:Iota} {A:Act} {w:World} (r:SRN Z hS ιS wS L s R ι A w):∃ι2,SR ⟨s.sl.set L (.sO s.h.length 0 Z.n),dens (s.h++ [.tl Z.tO R Z.e1])⟩ ι2 A w/\EvN 0 hS ιS wS (dens (s.h++ [.tl Z.tO R Z.e1])) ι2 w:=by
 obtain⟨hany,⟨y,c,fr,g,sr,N⟩,ev,hob⟩:=r;have H:=sr.heap;obtain⟨k,hk⟩:∃k,k=s.h.length:=⟨_,rfl⟩
 obtain⟨O,hO⟩:∃O:AObj,O=⟨Z.tO.size,R.map Z.tO.row,Z.e1⟩:=⟨_,rfl⟩
 have hd:dens (s.h++ [.tl Z.tO R Z.e1])=dens s.h++ [.live O]:=by rw[lC,hO];rfl
 rw[hd,<-hk];have hkl:(dens s.h).length=k:=by rw[dC,hk]
 have ik:ι k=none:=H.out k (by show(dens s.h).length<=k;omega);obtain⟨ι2,at2,atk,X2⟩:∃ι2:Iota,(∀id,id≠k->ι2 id=ι id)/\ι2 k=some ⟨Z.b,Z.o,Z.tO.size,N.al⟩/\∀q,ι2.X q↔ιS.X q:=
  ⟨{at':=(ι.put k ⟨Z.b,Z.o,Z.tO.size,N.al⟩).at',X:=ιS.X},fun id q=>by simp [Iota.put,q],by simp [Iota.put],fun _=>Iff.rfl⟩
 have cls:∀(i:Nat) (o:AObj),(dens s.h++ [HS.live O])[i]? =some (.live o)->(i≠k/\(dens s.h)[i]? =some (.live o))\/(i=k/\o=O):=by
  intro i o e;rcases Nat.lt_or_ge i k with q|q
  ·exact .inl ⟨by omega,by rw[<-e,List.getElem?_append_left (by omega)]⟩
  ·have hi:=aF e
   simp only[List.length_append,List.length_cons,List.length_nil,hkl]at hi;have:i=k:=by omega
   subst this;rw[List.getElem?_append_right (by omega),hkl,Nat.sub_self]at e;injection e with e;injection e with e;exact .inr ⟨rfl,e.symm⟩
 have ob2:∀q,Ob (dens s.h++ [.live O]) ι2 q->Ob (dens s.h) ι q\/q=Z.b:=by
  rintro q ⟨id,o,l,u1,u2,u3⟩;rcases cls id o u1 with⟨v1,v2⟩|⟨rfl,rfl⟩
  ·exact .inl ⟨id,o,l,v2,by rw[<-at2 id v1];exact u2,u3⟩
  ·rw[atk]at u2;injection u2 with u2;subst u2;exact .inr u3.symm
 have xx:∀q,ιS.X q->ι.X q:=fun q h=>(N.X q).2 (.inl h)
 have xb:ι.X Z.b:=(N.X _).2 (.inr (.inl rfl));have m2:∀q,Mt (dens s.h++ [.live O]) ι2 q->Mt (dens s.h) ι q:=by
  rintro q (u|u)
  ·exact .inl (xx q ((X2 q).1 u))
  ·rcases ob2 q u with u|u
   ·exact .inr u
   ·rw[u];exact .inl xb
 have old:∀ {x:V} {y:Value},Rep w ι (Mt (dens s.h) ι) x y->Rep w ι2 (Mt (dens s.h++ [.live O]) ι2) x y:=fun q=>q.same (fun id l e=>by
  have:id≠k:=by intro p;subst p;rw[ik]at e;cases e
  rw[at2 id this];exact e) m2
 have notM:∀q,ι.X q->¬ιS.X q->q≠Z.b->¬Mt (dens s.h++ [.live O]) ι2 q:=by
  rintro q h1 h2 h3 (u|u)
  ·exact h2 ((X2 q).1 u)
  ·rcases ob2 q u with u|u
   ·exact H.xob q h1 u
   ·exact h3 u
 obtain⟨cap,hy,hcap,hroom⟩:=N.val;have rd:∀(i:Nat) (a:Z.tO.den) (j:Nat) (x:V),R[i]? =some a->(Z.tO.row a)[j]? =some x->∃z,c[Z.o+i*Z.tO.size+j]? =some z/\Rep w ι2 (Mt (dens s.h++ [.live O]) ι2) x z:=by
  intro i a j x ha hj;by_cases hjp:j=Z.p
  ·subst hjp
   rw[hZ.at_p]at hj;injection hj with hj;subst hj;by_cases hg:Z.get a= []
   ·refine⟨_,N.nil i a ha hg,.sL _ _ _ ?_⟩
    rw[hg];exact .sN _
   ·obtain⟨h1,h2,h3,y1,q1,cap1,c1,fr1,q2,q3,q4,q5,q6,q7,q8⟩:=N.own i a ha hg
    have xg:ι.X (g i).1:=(N.X _).2 (.inr (.inr ⟨i,a,ha,hg,rfl⟩));refine⟨y1,q1,.sL _ _ _ ?_⟩;have:=Rep.sF_mk (w:=w) (ι:=ι2) (M:=Mt (dens s.h++ [.live O]) ι2) (sz:=Z.t.size) (rows:=(Z.get a).map Z.t.row) ⟨(g i).1,(g i).2,none⟩ cap1 (fun _=>⟨rfl,H.xlt _ xg,notM _ xg h1 h2⟩) (by rw[List.length_map];exact q6)
     (fun r hr=>by obtain⟨v,_,rfl⟩:=List.mem_map.1 hr;exact Ty.row_size _ _)
     (fun i2 j2 r x hi2 hj2=>by
       rw[List.getElem?_map]at hi2;cases hv:(Z.get a)[i2]? with
       |none=>rw[hv]at hi2;cases hi2
       |some v=>
        rw[hv]at hi2;injection hi2 with hi2;subst hi2;obtain⟨z,rfl,z2⟩:=q8 i2 v j2 x hv hj2;exact⟨z,by simp only[World.cell?,q3];exact z2,.v z⟩)
    rw[List.length_map]at this;rw[q2];exact this
  ·obtain⟨z,rfl,z2⟩:=N.cells i a j x ha hjp hj
   exact⟨z,z2,.v z⟩
 have hlen:=N.len;have hfit:Z.o+(R.map Z.tO.row).length*Z.tO.size<=c.size:=by
  rw[List.length_map,hlen];have:=Nat.mul_le_mul_right Z.tO.size hcap;omega
 refine⟨ι2,⟨sr.defers,⟨by have:=sr.slots.1;simpa using this,fun i x hx=>?_⟩,?_⟩,?_⟩
 ·by_cases q:i=L
  ·subst q
   rw[List.getElem?_set_self (aF hany)]at hx;injection hx with hx;subst hx;obtain⟨y2,t1,t2⟩:=sr.slots.2 i _ (List.getElem?_set_self (aF hany));cases t2;refine⟨y,t1,?_⟩;have:=Rep.sO (w:=w) (ι:=ι2) (M:=Mt (dens s.h++ [.live O]) ι2) k 0 Z.n cap ⟨Z.b,Z.o,Z.tO.size,N.al⟩ c Z.e1 fr atk hcap N.blk (by simpa using hroom);rw[hy];simpa using this
  ·(try simp only at hx)
   rw[List.getElem?_set_ne (Ne.symm q)]at hx;obtain⟨z,z1,z2⟩:=sr.slots.2 i x (by simp only;rw[List.getElem?_set_ne (Ne.symm q)];exact hx);exact⟨z,z1,old z2⟩
 ·refine⟨fun id o ho=>?_,fun id h=>?_,fun id h=>?_,fun ia oa la ib ob lb p1 p2 p3 p4 p5=>?_,fun q hq=>H.xlt q (xx q ((X2 q).1 hq)),fun q hq ho=>?_⟩
  ·rcases cls id o ho with⟨v1,v2⟩|⟨rfl,rfl⟩
   ·obtain⟨l,c1,f1,e1,la⟩:=H.live id o v2
    exact⟨l,c1,f1,by rw[at2 id v1];exact e1,la.blk,la.unfrozen,la.sz,la.rows,la.fits,fun i hi j hj=>let ⟨z,z1,z2⟩:=la.reads i hi j hj;⟨z,z1,old z2⟩⟩
   ·subst hO
    refine⟨_,c,fr,atk,N.blk,N.unf,rfl,fun r hr=>by obtain⟨a,_,rfl⟩:=List.mem_map.1 hr;exact Ty.row_size _ _,hfit,?_⟩;refine eI (rows:=R.map Z.tO.row) (p:=fun i j x=>∃y,c[Z.o+i*Z.tO.size+j]? =some y/\Rep w ι2 (Mt (dens s.h++ [.live ⟨Z.tO.size,R.map Z.tO.row,Z.e1⟩]) ι2) x y) (fun i j r x hi hj=>?_);rw[List.getElem?_map]at hi;cases ha:R[i]? with
    |none=>rw[ha]at hi;cases hi
    |some a=>
     rw[ha]at hi;injection hi with hi;subst hi;exact rd i a j x ha hj
  ·have hlt:=aF h
   simp only[List.length_append,List.length_cons,List.length_nil,hkl]at hlt;rcases Nat.lt_or_ge id k with q|q
   ·rw[at2 id (by omega)]
    exact H.free id (by rw[<-h,List.getElem?_append_left (by omega)])
   ·have:id=k:=by omega
    subst this;rw[List.getElem?_append_right (by omega),hkl,Nat.sub_self]at h;cases h
  ·simp only[List.length_append,List.length_cons,List.length_nil,hkl]at h
   rw[at2 id (by omega)];exact H.out id (by show(dens s.h).length<=id;omega)
  ·rcases cls ia oa p1 with⟨v1,v2⟩|⟨rfl,rfl⟩
   ·rw[at2 ia v1]at p2
    rcases cls ib ob p3 with⟨u1,u2⟩|⟨rfl,rfl⟩
    ·rw[at2 ib u1]at p4;exact H.apart ia oa la ib ob lb v2 p2 u2 p4 p5
    ·rw[atk]at p4;injection p4 with p4;subst p4
     exact(H.xob Z.b xb ⟨ia,oa,la,v2,p2,p5⟩).elim
   ·rw[atk]at p2;injection p2 with p2;subst p2
    rcases cls ib ob p3 with⟨u1,u2⟩|⟨rfl,rfl⟩
    ·rw[at2 ib u1]at p4
     exact(H.xob Z.b xb ⟨ib,ob,lb,u2,p4,p5.symm⟩).elim
    ·rfl
  ·rcases ob2 q ho with u|u
   ·exact H.xob q (xx q ((X2 q).1 hq)) u
   ·rw[u]at hq;exact N.x0b ((X2 _).1 hq)
 ·exact⟨ev.os,ev.tape,ev.output,ev.size,fun id l h=>(Nat.not_lt_zero _ h).elim,funext fun q=>propext (X2 q),fun q h1 h2=>⟨(ev.frame q h1 h2).1,fun p=>(ob2 q p).elim (ev.frame q h1 h2).2 (fun e=>h2 (by rw[e];exact hob))⟩,ev.sizes⟩
end
theorem SRN.start {tO t:Ty} {p:Nat} {get:tO.den->List t.den} {e1 e2:TypeId} {n:Nat} {sl:List V} {h:List XO} {tch:List Nat} {an:List (Nat×Nat×LA)} {ι:Iota} {A:Act} {w:World} {L id n':Nat} {a0:tO.den} {zs:List V}
  (hok:∀b o,NZ.ok ⟨b,o,e1,e2,tO,t,p,get,n⟩) (r:SR ⟨sl,dens h⟩ ι A w) (hL:sl[L]? =some (.sO id 0 n)) (hh:h[id]? =some (.row1 tO.size (List.replicate n zs) n' zs e1)) (hz:zs=(tO.row a0).set p (.v (.slice none 0 0))) (ha0:get a0= []) :
  ∃b o ι2,SRN ⟨b,o,e1,e2,tO,t,p,get,n⟩ (dens h) ι w L ⟨sl.set L .any,h.set id (.raw .dead),tch,an⟩ (List.replicate n a0) ι2 A w:=by
 have H:=r.heap;have hset:(List.replicate n zs).set n' zs=List.replicate n zs:=by
  apply List.ext_getElem?;intro i;by_cases q:n'=i
  ·subst q
   by_cases q2:n'<n
   ·rw[List.getElem?_set_self (by simpa using q2)];simp [q2]
   ·rw[List.getElem?_eq_none (by simpa using q2),List.getElem?_eq_none (by simpa using q2)]
  ·rw[List.getElem?_set_ne q]
 have d0:(dens h)[id]? =some (.live ⟨tO.size,List.replicate n zs,e1⟩):=by rw[aE,hh];simp only[Option.map_some,XO.den,hset]
 obtain⟨l,c,fr,i0,la⟩:=H.live _ _ d0;have hsz:l.sz=tO.size:=la.sz;have hO:=hok l.blk l.base;have hp:p<tO.size:=hO.plt a0;have hob:Ob (dens h) ι l.blk:=⟨id,_,l,d0,i0,rfl⟩
 obtain⟨ι2,at2,X2⟩:∃ι2:Iota,(∀id,ι2 id=ι id)/\∀q,ι2.X q↔ι.X q\/q=l.blk:=⟨{at':=ι.at',X:=fun q=>ι.X q\/q=l.blk},fun _=>rfl,fun _=>Iff.rfl⟩
 have get2:∀i o,(dens (h.set id (.raw .dead)))[i]? =some (.live o)->i≠id/\(dens h)[i]? =some (.live o):=by
  intro i o e;rw[aR]at e;by_cases q:id=i
  ·subst q
   rw[List.getElem?_set_self (by have:=aF e;simpa using this)]at e;cases e
  ·rw[List.getElem?_set_ne q]at e;exact⟨fun p=>q p.symm,e⟩
 have ob2:∀q,Ob (dens (h.set id (.raw .dead))) ι2 q->Ob (dens h) ι q/\q≠l.blk:=by
  rintro q ⟨i,o,l2,u1,u2,u3⟩;obtain⟨v1,v2⟩:=get2 i o u1;rw[at2]at u2;exact⟨⟨i,o,l2,v2,u2,u3⟩,fun e=>v1 (H.apart i o l2 id _ l v2 u2 d0 i0 (u3.trans e))⟩
 have m2:∀q,Mt (dens (h.set id (.raw .dead))) ι2 q->Mt (dens h) ι q:=by
  rintro q (u|u)
  ·rcases(X2 q).1 u with u|u
   ·exact .inl u
   ·rw[u];exact .inr hob
  ·exact .inr (ob2 q u).1
 have old:∀ {x:V} {y:Value},Rep w ι (Mt (dens h) ι) x y->Rep w ι2 (Mt (dens (h.set id (.raw .dead))) ι2) x y:=fun q=>q.same (fun i l e=>by rw[at2];exact e) m2
 obtain⟨y,t1,t2⟩:=r.slots.2 L _ hL;have val:∃cap,y = .slice (some ⟨l.blk,l.base,none⟩) n cap/\n<=cap/\l.base+cap*tO.size<=c.size:=by
  cases t2 with
  |sO _ _ _ cap l2 c3 e fr3 hl hcap hb hs=>
   rw[i0]at hl;injection hl with hl;subst hl;rw[la.blk]at hb;injection hb with hb;injection hb with hb _ _;subst hb;refine⟨cap,by simp,hcap,?_⟩;rw[hsz]at hs;simpa using hs
 have rd:∀k j,k<n->(hj:j<zs.length)->∃x,c[l.base+k*tO.size+j]? =some x/\Rep w ι (Mt (dens h) ι) zs[j] x:=fun k j hk hj=>by
  have hk':k<(List.replicate n zs).length:=by simpa using hk
  have e2:(List.replicate n zs)[k]=zs:=by simp
  obtain⟨x,x1,x2⟩:=la.reads k hk' j (by simp only[e2];exact hj);refine⟨x,x1,?_⟩;have:(List.replicate n zs)[k][j]'(by rw[e2];exact hj)=zs[j]:=by simp only[e2]
  rw[<-this];exact x2
 have zl:zs.length=tO.size:=by rw[hz,List.length_set,Ty.row_size]
 have rep0:∀k a,(List.replicate n a0)[k]? =some a->k<n/\a=a0:=fun k a q=>by
  rw[List.getElem?_replicate]at q;split at q
  ·injection q with q;exact⟨by assumption,q.symm⟩
  ·cases q
 refine⟨l.blk,l.base,ι2,List.getElem?_set_self (aF hL),⟨y,c,fr,fun _=>(0,0),⟨r.defers,⟨by have:=r.slots.1;simpa using this,fun i x hx=>?_⟩,?_⟩,?_⟩,?_,hob⟩
 ·by_cases q:i=L
  ·subst q
   simp only[List.set_set]at hx;rw[List.getElem?_set_self (aF hL)]at hx;injection hx with hx;subst hx;exact⟨y,t1,.v _⟩
  ·simp only[List.set_set]at hx
   rw[List.getElem?_set_ne (Ne.symm q)]at hx;obtain⟨z,z1,z2⟩:=r.slots.2 i x hx;exact⟨z,z1,old z2⟩
 ·refine⟨fun i o ho=>?_,fun i hi=>?_,fun i hi=>?_,fun ia oa lx ib ob lb p1 p2 p3 p4=>?_,fun q hq=>?_,fun q hq ho=>?_⟩
  ·obtain⟨u1,u2⟩:=get2 i o ho
   obtain⟨l2,c1,f1,v1,la2⟩:=H.live i o u2;exact⟨l2,c1,f1,by rw[at2];exact v1,la2.blk,la2.unfrozen,la2.sz,la2.rows,la2.fits,fun i hi j hj=>let ⟨z,z1,z2⟩:=la2.reads i hi j hj;⟨z,z1,old z2⟩⟩
  ·rw[at2]
   refine H.free i ?_;rw[aR]at hi;by_cases q1:id=i
   ·subst q1
    rw[List.getElem?_set_self (by have:=aF hi;simpa using this)]at hi;cases hi
   ·rw[List.getElem?_set_ne q1]at hi;exact hi
  ·rw[at2];refine H.out i ?_;rw[aR]at hi;simpa using hi
  ·rw[at2]at p2 p4
   exact H.apart ia oa lx ib ob lb (get2 _ _ p1).2 p2 (get2 _ _ p3).2 p4
  ·rcases(X2 q).1 hq with u|u
   ·exact H.xlt q u
   ·rw[u];exact H.blk_lt hob
  ·rcases(X2 q).1 hq with u|u
   ·exact H.xob q u (ob2 q ho).1
   ·exact(ob2 q ho).2 u
 ·refine⟨la.blk,Unfr.move la.unfrozen (Nat.zero_le _),by have:=l.al;rw[hsz]at this;exact this,by simp,val,fun q=>?_,fun q=>H.xob _ q hob,?_,?_,?_,?_⟩
  ·rw[X2 q]
   constructor
   ·rintro(u|u)
    ·exact .inl u
    ·exact .inr (.inl u)
   ·rintro(u|u|⟨k,a,v1,v2,v3⟩)
    ·exact .inl u
    ·exact .inr u
    ·obtain⟨_,rfl⟩:=rep0 k a v1
     exact(v2 ha0).elim
  ·intro k a j x hk hj hx
   obtain⟨hkn,rfl⟩:=rep0 k a hk;have hjs:j<zs.length:=by rw[zl,<-Ty.row_size tO a];exact aF hx
   obtain⟨z,z1,z2⟩:=rd k j hkn hjs;obtain⟨z0,rfl⟩:=hO.flatO a j x hj hx;have:zs[j] = .v z0:=by
    have h1:zs[j]? =some (.v z0):=by rw[hz,List.getElem?_set_ne (Ne.symm hj)];exact hx
    rw[List.getElem?_eq_getElem hjs]at h1;injection h1
   rw[this]at z2;cases z2;exact⟨_,rfl,z1⟩
  ·intro k a hk _
   obtain⟨hkn,rfl⟩:=rep0 k a hk;have hjs:p<zs.length:=by rw[zl];exact hp
   obtain⟨z,z1,z2⟩:=rd k p hkn hjs;have:zs[p] = .v (.slice none 0 0):=by
    have h1:zs[p]? =some (.v (.slice none 0 0)):=by rw[hz,List.getElem?_set_self (by rw[Ty.row_size];exact hp)]
    rw[List.getElem?_eq_getElem hjs]at h1;injection h1
   rw[this]at z2;cases z2;exact z1
  ·intro k a hk ha
   obtain⟨_,rfl⟩:=rep0 k a hk;exact(ha ha0).elim
  ·intro k a k' a' hk ha
   obtain⟨_,rfl⟩:=rep0 k a hk;exact(ha ha0).elim
 ·exact⟨rfl,rfl,rfl,Nat.le_refl _,fun q _ h2=>⟨rfl,fun p=>h2 (ob2 q p).1⟩,fun b cc e f hb=>⟨cc,f,hb,rfl⟩⟩
def PVy (E:Env) (c:Code) (s:Y) (Q:Exit->Y->Prop):Prop:=PV E.n0 E.P c s.den fun e st=>∃s':Y,st=s'.den/\Q e s'
theorem PVy.x {E:Env} (hT:aC E.P E.T) (hM:E.P.follows .mixedOrders=true) (hI:qB E) {c:Code} {s:Y} {Q:Exit->Y->Prop} (h:xcode E c s Q):PVy E c s Q:=
 PV.mono (hU hT hM hI c s Q h) fun e st ⟨s',q1,q2,_⟩=>⟨s',q1,q2⟩
theorem PVy.seq {E:Env} {x y:Code} {s:Y} {Q:Exit->Y->Prop} (h:PVy E x s (fun e s'=>match e with
  | .normal=>PVy E y s' Q
  |e=>Q e s')):PVy E (.seq x y) s Q:=by
 refine PV.seq (PV.mono h ?_);rintro e st ⟨s',rfl,q⟩;cases e with
 |normal=>exact q
 |_=>exact⟨s',rfl,q⟩
theorem PVy.nestO {E:Env} (h0:E.n0=0) {c:Code} {s:Y} {Q:Exit->Y->Prop} {tO t:Ty} {p:Nat} {get:tO.den->List t.den} {e1 e2:TypeId} {L:Nat} (a0:tO.den) (hok:∀b o n,NZ.ok ⟨b,o,e1,e2,tO,t,p,get,n⟩) (ha0:get a0= [])
  (h:match s with|⟨sl,h,tch,an⟩=>match sl[L]? with
    |some (.sO id 0 n)=>(match h[id]? with
     |some (.row1 sz R0 _ zs e)=>Side (sz=tO.size/\R0=List.replicate n zs/\e=e1/\zs=(tO.row a0).set p (.v (.slice none 0 0)))/\iG sl L .any fun sl=>jT h id (.raw .dead) fun h=>
      ∀b o hS ιS wS,PNy E ⟨b,o,e1,e2,tO,t,p,get,n⟩ hS ιS wS L c ⟨sl,h,tch,an⟩ (List.replicate n a0) fun e s' R=>match s' with|⟨sl',h',tch',an'⟩=>fN h'.length fun m=>iG sl' L (.sO m 0 n) fun sl'=>fH (h'++ [.tl tO R e1]) fun h'=>Q e ⟨sl',h',tch',an'⟩
     |_=>False)
    |_=>False):PVy E c s Q:=by
 obtain⟨sl,hp,tch,an⟩:=s;(try simp only at h);split at h;case h_2=>exact h.elim
 rename_i id n hL;split at h;case h_2=>exact h.elim
 rename_i sz R0 n' zs e hid;obtain⟨⟨⟨q1,q2,q3,q4⟩⟩,h⟩:=h;rw[cL,cM]at h;intro ι A w r;obtain⟨b,o,ι2,r2⟩:=SRN.start (e1:=e1) (e2:=e2) (t:=t) (get:=get) (a0:=a0) (n':=n') (zs:=zs) (tch:=tch) (an:=an) (fun b o=>hok b o n) r hL (by rw[hid,q1,q2,q3]) q4 ha0;refine wp_mono (h b o _ _ _ ι2 A w r2) ?_;rintro e A' w' ⟨s',R',ι',q,_,r'⟩;obtain⟨ι3,r3,ev3⟩:=r'.closeO (hok b o n);obtain⟨sl',h',tch',an'⟩:=s';(try simp only at q);rw[gH,cL,dD]at q;exact⟨_,ι3,⟨_,rfl,q⟩,r3,by rw[h0];exact ev3⟩
structure GoV (E:Env) (c:Code) (s:Y) (Q:Exit->Y->Prop):Prop where
 out:PVy E c s Q
structure GoN (E:Env) (Z:NZ) (hS:Heap) (ιS:Iota) (wS:World) (L:Nat) (c:Code) (s:Y) (R:List Z.tO.den) (Q:Exit->Y->List Z.tO.den->Prop):Prop where
 out:PNy E Z hS ιS wS L c s R Q
structure GoAnd (A B:Prop):Prop where
 a:A
 b:B
def QC (r0:Nat):Code->Bool
 | .region id _ _=>Nat.beq id r0
 | .seq a b=>QC r0 a||QC r0 b
 | .cond _ a b=>QC r0 a||QC r0 b
 | .block _ a=>QC r0 a
 | .loop a=>QC r0 a
 |_=>false
theorem GoV.x (r0:Nat) {E:Env} (hT:aC E.P E.T) (hM:E.P.follows .mixedOrders=true) (hI:qB E) {c:Code} {s:Y} {Q:Exit->Y->Prop} (hr:QC r0 c=false) (h:xcode E c s Q):GoV E c s Q:=⟨PVy.x hT hM hI h⟩
theorem GoV.sq {E:Env} {x y:Code} {s:Y} {Q:Exit->Y->Prop} (h:GoV E x s (fun e s'=>match e with
  | .normal=>GoV E y s' Q
  |e=>Q e s')):GoV E (.seq x y) s Q:=by
 refine⟨PVy.seq (PV.mono h.out ?_)⟩;rintro e st ⟨s',rfl,q⟩;refine⟨s',rfl,?_⟩;cases e with
 |normal=>exact q.out
 |_=>exact q
theorem GoV.nestO {E:Env} (r0 L p:Nat) {tO t:Ty} (get:tO.den->List t.den) (e1 e2:TypeId) (a0:tO.den) (hok:∀b o n,NZ.ok ⟨b,o,e1,e2,tO,t,p,get,n⟩) (ha0:get a0= []) (h0:E.n0=0) {id:Nat} {x:Code} {s:Y} {Q:Exit->Y->Prop} (hr:Nat.beq (first x) r0=true)
  (h:match s with|⟨sl,h,tch,an⟩=>match sl[L]? with
    |some (.sO id0 0 n)=>(match h[id0]? with
     |some (.row1 sz R0 _ zs e)=>Side (sz=tO.size/\R0=List.replicate n zs/\e=e1/\zs=(tO.row a0).set p (.v (.slice none 0 0)))/\iG sl L .any fun sl=>jT h id0 (.raw .dead) fun h=>
      ∀b o hS ιS wS,GoN E ⟨b,o,e1,e2,tO,t,p,get,n⟩ hS ιS wS L (.block id x) ⟨sl,h,tch,an⟩ (List.replicate n a0) fun e s' R=>match s' with|⟨sl',h',tch',an'⟩=>fN h'.length fun m=>iG sl' L (.sO m 0 n) fun sl'=>fH (h'++ [.tl tO R e1]) fun h'=>Q e ⟨sl',h',tch',an'⟩
     |_=>False)
    |_=>False):GoV E (.block id x) s Q:=by
 refine⟨PVy.nestO (e1:=e1) (e2:=e2) (L:=L) (p:=p) (get:=get) h0 a0 hok ha0 ?_⟩;obtain⟨sl,hp,tch,an⟩:=s;(try simp only at h ⊢);split at h;case h_2=>exact h.elim
 rename_i id0 n hL;split at h;case h_2=>exact h.elim
 rename_i sz R0 n' zs e hid;(try simp only[hL,hid]);refine⟨h.1,?_⟩;have h2:=h.2;rw[cL,cM]at h2 ⊢;intro b o hS ιS wS;exact(h2 b o hS ιS wS).out
section
variable {E:Env} {Z:NZ} {hS:Heap} {ιS:Iota} {wS:World} {L:Nat}
theorem GoN.x (r0:Nat) (hT:aC E.P E.T) (hM:E.P.follows .mixedOrders=true) (hI:qB E) {c:Code} {s:Y} {R:List Z.tO.den} {Q:Exit->Y->List Z.tO.den->Prop} (hr:QC r0 c=false) (hL:(wr c).contains L=false)
  (hx:match s with|⟨sl,h,tch,an⟩=>∀y,iG sl L (.v y) fun sl=>xcode E c ⟨sl,h,tch,an⟩ fun e s'=>match s' with|⟨sl',h',tch',an'⟩=>iG sl' L .any fun sl'=>Q e ⟨sl',h',tch',an'⟩ R):GoN E Z hS ιS wS L c s R Q:=
 ⟨PNy.x hT hM hI (fun q=>by simp at hL;exact hL q) (by obtain⟨sl,h,tch,an⟩:=s;exact hx)⟩
theorem GoN.sq {x y:Code} {s:Y} {R:List Z.tO.den} {Q:Exit->Y->List Z.tO.den->Prop} (h:GoN E Z hS ιS wS L x s R (fun e s' R'=>match e with
  | .normal=>GoN E Z hS ιS wS L y s' R' Q
  |e=>Q e s' R')):GoN E Z hS ιS wS L (.seq x y) s R Q:=by
 refine⟨PNy.seq (PNy.mono h.out ?_)⟩;intro e s' R' q;cases e with
 |normal=>exact q.out
 |_=>exact q
theorem GoN.block {id:Nat} {c:Code} {s:Y} {R:List Z.tO.den} {Q:Exit->Y->List Z.tO.den->Prop} (h:GoN E Z hS ιS wS L c s R (fun e s' R'=>match e with
 | .exit i=>(match Nat.beq i id with
   |true=>Q .normal s' R'
   |false=>Q (.exit i) s' R')
 |e=>Q e s' R')):GoN E Z hS ιS wS L (.block id c) s R Q:=⟨PNy.block h.out⟩
theorem GoN.loop {c:Code} {s:Y} {R:List Z.tO.den} {Q:Exit->Y->List Z.tO.den->Prop} (r0:Nat) (g:List GK) (inv:Tup (gts g)->List Z.tO.den->Prop) (mu:Tup (gts g)->List Z.tO.den->Nat) (hr0:Nat.beq (first c) r0=true) (hL:(wr c).contains L=false)
  (h0:match s with|⟨sl,h,tch,an⟩=>arrive E.n0 (wr c) g ⟨sl,h,tch,an⟩ ⟨sl,h,[],an⟩ fun y=>Side (inv y R))
  (hr:match s with|⟨sl,h,tch,an⟩=>∀y R,inv y R->fS (wr c) g y ⟨sl,h⟩ fun sl' h'=>GoN E Z hS ιS wS L c ⟨sl',h',[],[]⟩ R fun e s' R'=>match e with
    | .normal=>(match s' with|⟨sl',h',tch',an'⟩=>arrive E.n0 (wr c) g ⟨sl,h,tch,an⟩ ⟨sl',h',tch',an'⟩ fun y'=>Side (inv y' R')/\Side (mu y' R'<mu y R))
    |e=>Q e ⟨s'.sl,s'.h,s'.tch++(gids ⟨sl,h⟩ g++tch),an⟩ R'):GoN E Z hS ιS wS L (.loop c) s R Q:=by
 obtain⟨sl,h,tch,an⟩:=s;refine⟨PNy.loopA (fun q=>by simp at hL;exact hL q) (g:=g) inv mu [] h0 ?_⟩;intro y R hi;have:=hr y R hi;rw[zC]at this ⊢;exact this.out
theorem GoN.loopF (hZ:Z.ok) (hT:aC E.P E.T) (hM:E.P.follows .mixedOrders=true) (hI:qB E) {c:Code} {s:Y} {R:List Z.tO.den} {Q:Exit->Y->List Z.tO.den->Prop} (r0:Nat) (g:List GK) (inv:Tup (gts g)->List Z.tO.den->Prop) (mu:Tup (gts g)->List Z.tO.den->Nat) (kf:Tup (gts g)->Nat)
  (hr0:Nat.beq (first c) r0=true) (hL:(wr c).contains L=false)
  (h0:match s with|⟨sl,h,tch,an⟩=>arrive E.n0 (wr c) g ⟨sl,h,tch,an⟩ ⟨sl,h,[],an⟩ fun y=>Side (inv y R))
  (h1:match s with|⟨sl,h,tch,an⟩=>∀y R a,inv y R->R[kf y]? =some a->fS (wr c) g y ⟨sl,h⟩ fun sl1 hp1=>∀rows:List (List V),rows.length=Z.n->fN hp1.length fun i0=>iG sl1 L (.sO i0 0 Z.n) fun sl1=>fH (hp1++ [.row1 Z.tO.size rows (kf y) (fZ Z a (i0+1) (Z.get a).length) Z.e1,.opt Z.t (Z.get a) Z.e2]) fun hp1=>xcode ⟨E.P,E.T,i0+2,E.fid,E.flip,E.inl⟩ c ⟨sl1,hp1,[],[]⟩ fun e s'=>MR Z i0 rows (kf y) s' fun s2 a2=>match s2 with
     |⟨sl',h',tch',an'⟩=>iG sl' L .any fun sl'=>match e with
      | .normal=>arrive E.n0 (wr c) g ⟨sl,h,tch,an⟩ ⟨sl',h',tch',an'⟩ fun y'=>Side (inv y' (R.set (kf y) a2))/\Side (mu y' (R.set (kf y) a2)<mu y R)
      |e=>Q e ⟨sl',h',tch'++(gids ⟨sl,h⟩ g++tch),an⟩ (R.set (kf y) a2))
  (h2:match s with|⟨sl,h,tch,an⟩=>∀y R,inv y R->R.length<=kf y->fS (wr c) g y ⟨sl,h⟩ fun sl1 hp1=>∀v,iG sl1 L (.v v) fun sl1=>xcode E c ⟨sl1,hp1,[],[]⟩ fun e s'=>match s' with
    |⟨sl',h',tch',an'⟩=>iG sl' L .any fun sl'=>match e with
     | .normal=>arrive E.n0 (wr c) g ⟨sl,h,tch,an⟩ ⟨sl',h',tch',an'⟩ fun y'=>Side (inv y' R)/\Side (mu y' R<mu y R)
     |e=>Q e ⟨sl',h',tch'++(gids ⟨sl,h⟩ g++tch),an⟩ R):GoN E Z hS ιS wS L (.loop c) s R Q:=by
 obtain⟨sl,h,tch,an⟩:=s;have hL':¬L∈wr c:=fun q=>by simp at hL;exact hL q
 refine⟨PNy.loopA hL' (g:=g) inv mu [] h0 ?_⟩;intro y R hi;by_cases hk:kf y<R.length
 ·have:=h1 y R _ hi (List.getElem?_eq_getElem hk)
  rw[zC]at this ⊢;refine PNy.focus hZ hT hM hI hL' (List.getElem?_eq_getElem hk) (fun rows hr=>?_);have:=this rows hr;rw[gH,cL,dD]at this ⊢;exact this
 ·have:=h2 y R hi (by omega)
  rw[zC]at this ⊢;refine PNy.x hT hM hI hL' (fun v=>?_);have:=this v;rw[cL]at this ⊢;exact this
end
def qON (P:Program) (rs:List ResultVar) (t:Ty) (el:TypeId) (b:List t.den) (e:Exit) (s:Y):Prop:=
 match s with
 |⟨sl,h,_,_⟩=>match e with
  | .normal=>False
  | .ret=>(match ares P rs sl (dens h)with
    |some y=>(match y with
     | .sO i 0 n=>match h[i]? with
       |some (.tl t' l e')=>(match eQ (t':=t) l,Nat.beq e' el with
        |some l,true=>Leaf (l=b)/\(Leaf (n=l.length)/\True)
        |_,_=>False)
       |_=>False
     |_=>False)
    |none=>False)
  |_=>False
theorem qK0 {P:Program} {rs:List ResultVar} {t:Ty} {el:TypeId} {b:List t.den} {e:Exit} {s:Y} (h:qON P rs t el b e s):(e = .normal\/e = .ret)/\∃i,ares P rs s.sl (dens s.h)=some (.sO i 0 b.length)/\s.h[i]? =some (.tl t b el):=by
 obtain⟨sl,hp,tch,an⟩:=s;simp only[qON]at h;split at h
 ·exact h.elim
 ·split at h
  ·rename_i y hy
   split at h
   ·rename_i i n
    split at h
    ·rename_i t' l e' ho
     split at h
     ·rename_i l' hl he
      obtain⟨⟨rfl⟩,⟨rfl⟩,_⟩:=h;obtain⟨et,el'⟩:=fG hl;have he:=Nat.eq_of_beq_eq_true he;subst et;subst el' he;exact⟨.inr rfl,i,hy,ho⟩
     ·exact h.elim
    ·exact h.elim
   ·exact h.elim
  ·exact h.elim
 ·exact h.elim
theorem aG.nlG {P:Program} {T:Tbl} {f:FuncId} {fn:Func} {c:Code} {t:Ty} {el:TypeId} {ps:List Ty} {pre:Option (Cu ps Prop)} {post:Cu ps (List t.den)} (fl:List (Nat×Nat×Nat)) (I:List Nat) (hf:P.funcs[f]? =some fn) (hb:fn.body=some c)
  (h:∀x:Tup ps,(∀p,pre=some p->cu ps p x)->∃an:List (Nat×Nat×LA),fVs (vals ps x++List.replicate (fn.ntmps-ps.length) (.v undef)) fun sl=>GoV ⟨P,T,0,0,fl,jJ P T fl I 4⟩ c ⟨sl,[],[],an⟩ (qON P fn.results.toList t el (cu ps post x))):aG P f (.nl t el ps pre post):=by
 intro x hx k new k' hh;have hlen:=Tup.len ps x;refine PC.newObjF (fun i=>.sO i 0 (cu ps post x).length) (fun h1 h2 r=>?_) (Tup.ni 0 ps x) (o:=⟨t.size,(cu ps post x).map t.row,el⟩) (t.nir 0 (cu ps post x)) ?_ hh
 ·cases r with
  |sO _ _ _ cap l2 c e fr hl hcap hb hs=>
   rw[h1]at hl;injection hl with hl;subst hl;exact Rep.sO _ _ _ cap _ c e fr h2 hcap hb hs
 obtain⟨an,hw⟩:=h x hx;rw[jG]at hw;refine PC.of_bodyV hf hb _ rfl (fun K hK=>?_);rw[hlen];refine PV.mono hw.out ?_;rintro e st ⟨s',rfl,h1⟩;obtain⟨he,i,hy,ho⟩:=qK0 h1;exact hK e _ _ he hy ⟨i,_,rfl,by rw[Y.den,aE,ho];rfl,rfl,rfl,rfl,fun j r r' h1 h2=>by rw[h1]at h2;injection h2 with h2;rw[h2];exact⟨rfl,fun _ _ _ h1 h2=>by rw[h1]at h2;injection h2 with h2;rw[h2];exact LE.refl _⟩⟩
end Go.Abs
