import Derived.Test.YtcjiefknhfhmkaaGreatDoorM07
namespace Go.Proofs.YtcjiefknhfhmkaaGreatDoor
open Go.Abs
set_option maxRecDepth 100000
set_option maxHeartbeats 4000000
set_option linter.unusedVariables false
set_option linter.unusedSimpArgs false
def four (v:Int):List Int:=[IntKind.u8.wrap v,IntKind.u8.wrap (jC .u32 v 8),IntKind.u8.wrap (jC .u32 v 16),IntKind.u8.wrap (jC .u32 v 24)]
def bU (s:ByteArray):ByteArray:=s++aV (four (jS s))
theorem eF (v:Int):(aV (put v)).size<=10/\1<=(aV (put v)).size:=by rw[cC];exact bM v
theorem qZ (v:Int):(aV (four v)).size=4:=rfl
def dA (s:ByteArray) (i:Int):Int:=bOr .u32 (bOr .u32 (bOr .u32 (aG s i.toNat) (oE .u32 (aG s (i+1).toNat) 8)) (oE .u32 (aG s (i+2).toNat) 16)) (oE .u32 (aG s (i+3).toNat) 24)
theorem IO {a b:Int} {n:Nat} (hn:n<=32) (ha:0<=a/\a<2^n) (hb:0<=b) (h:a+b*2^n<4294967296):bOr .u32 a (oE .u32 b n)=a+b*2^n:=by
 have h0:0<=b*2^n:=Int.mul_nonneg hb (Int.le_of_lt (Int.pow_pos (by decide)));rw[qY3 hn ⟨h0,by omega⟩,qX7 (by omega) (by omega)];have e:(b*2^n).toNat=b.toNat*2^n:=by
  obtain⟨m,rfl⟩:=Int.eq_ofNat_of_zero_le hb;have:((m:Int)*2^n)=((m*2^n:Nat):Int):=by push_cast;rfl
  rw[this];rfl
 have ha':a.toNat<2^n:=by
  have:((2^n:Nat):Int)=2^n:=by push_cast;rfl
  omega
 rw[e,qNV _ _ _ ha'];have:((b.toNat*2^n:Nat):Int)=b*2^n:=by push_cast;rw[Int.toNat_of_nonneg hb]
 omega
theorem qT1 {a b c d:Int} (ha:0<=a/\a<256) (hb:0<=b/\b<256) (hc:0<=c/\c<256) (hd:0<=d/\d<256) :
  bOr .u32 (bOr .u32 (bOr .u32 a (oE .u32 b 8)) (oE .u32 c 16)) (oE .u32 d 24)=a+b*256+c*65536+d*16777216:=by
 have p1:(2:Int)^8=256:=by decide
 have p2:(2:Int)^16=65536:=by decide
 have p3:(2:Int)^24=16777216:=by decide
 have e1:=IO (a:=a) (b:=b) (n:=8) (by omega) (by omega) (by omega) (by omega);rw[p1]at e1;have e2:=IO (a:=a+b*256) (b:=c) (n:=16) (by omega) (by omega) (by omega) (by omega);rw[p2]at e2;have e3:=IO (a:=a+b*256+c*65536) (b:=d) (n:=24) (by omega) (by omega) (by omega) (by omega);rw[p3]at e3;rw[show((8:Int))=((8:Nat):Int)from rfl,e1,show((16:Int))=((16:Nat):Int)from rfl,e2,show((24:Int))=((24:Nat):Int)from rfl,e3]
theorem qD3 {v:Int} (h:0<=v):jC .u32 v 8=v/256/\jC .u32 v 16=v/65536/\jC .u32 v 24=v/16777216:=by
 unfold jC;refine⟨?_,?_,?_⟩<;>rw[Int.fdiv_eq_ediv_of_nonneg _ (by decide)]<;>rfl
theorem TQ (s:ByteArray):0<=jS s/\jS s<4294967296:=by
 unfold jS AF;rw[if_pos rP];exact tD _ _
theorem qRP {v a b c d:Int} (h:0<=v/\v<4294967296) (ha:0<=a/\a<256) (hb:0<=b/\b<256) (hc:0<=c/\c<256) (hd:0<=d/\d<256):four v= [a,b,c,d]↔a+b*256+c*65536+d*16777216=v:=by
 obtain⟨h1,h2,h3⟩:=qD3 h.1;unfold four;rw[h1,h2,h3,pG,pG,pG,pG];simp only[List.cons.injEq,and_true];omega
theorem qY (v:Int):∀b,b∈four v->0<=b/\b<256:=by
 intro b hb;unfold four at hb;rcases List.mem_cons.1 hb with h|hb
 ·rw[h];exact lI v
 rcases List.mem_cons.1 hb with h|hb
 ·rw[h];exact lI _
 rcases List.mem_cons.1 hb with h|hb
 ·rw[h];exact lI _
 rcases List.mem_cons.1 hb with h|hb
 ·rw[h];exact lI _
 cases hb
theorem jJ (b:ByteArray):(bU b).size=b.size+4:=by unfold bU;rw[ByteArray.size_append,qZ]
theorem qJL (b:ByteArray):(bU b).extract 0 (((bU b).size:Int)-4).toNat=b:=by
 apply fG;have e:∀(x:ByteArray) (n:Nat),aE (x.extract 0 n)=(aE x).take n:=fun x n=>by unfold aE;simp [List.map_take]
 have hz:(bU b).size=b.size+4:=by unfold bU;rw[ByteArray.size_append,qZ]
 rw[e,hz,show(((b.size+4:Nat):Int)-4).toNat=b.size by omega];unfold bU;rw[aX,List.take_append_of_le_length (by rw[aQ];omega),List.take_of_length_le (by rw[aQ];omega)]
def gV (s:ByteArray):ByteArray:=(s.extract 0 ((s.size:Int)-4).toNat)
def gQ (s:ByteArray):Int:=if s.size<=4 then 10 else if bU (gV s)≠s then 9 else 0
theorem BD {s:ByteArray} (h:4<=s.size):((gV s).size:Int)=(s.size:Int)-4:=by
 unfold gV;rw[ByteArray.size_extract];omega
theorem PS (s:ByteArray):(gV s).size<=s.size:=by unfold gV;rw[ByteArray.size_extract];omega
theorem qW4 {s:ByteArray} (h:s.size<=4):gQ s=10:=by rw[gQ,if_pos h]
theorem qW5 {s:ByteArray} (h:¬s.size<=4) (h1:¬bU (gV s)=s):gQ s=9:=by rw[gQ,if_neg h,if_pos h1]
theorem qW6 {s:ByteArray} (h:¬s.size<=4) (h1:bU (gV s)=s):gQ s=0:=by rw[gQ,if_neg h,if_neg (fun q=>q h1)]
theorem qDK {s:ByteArray} (h:gQ s=0):¬s.size<=4/\bU (gV s)=s:=by
 unfold gQ at h;split at h
 ·cases h
 ·rename_i q
  split at h
  ·cases h
  ·rename_i q1;exact⟨q,Decidable.not_not.1 q1⟩
abbrev ME:Ct:=.fn [.str] (some (fun(s:ByteArray)=>(s.size<=4611686018427387904))) (fun(s:ByteArray)=>.d .str (bU s))
theorem qTH:aH Tryz.prog 113 ME:=by
 refine aH.fn qFL mixed [] [] rfl rfl ?_;rintro⟨(s:ByteArray),_⟩ hpre;replace hpre:=hpre _ rfl;dsimp only[cu]at hpre;have hs:=hpre;refine⟨[],?_⟩;repeat' (first
  |(
 with_reducible apply Side.mk
 (try dsimp only[cu,aC,aB,gts,loK,hiK,eE,eN])
 first
 |omega
 |exact Eq.refl _
 |(simp only[cC,List.length_cons,List.length_nil];omega))
  |(conv=>whnf
    first
     |with_reducible first|done|exact trivial|refine NilBr.mk (fun h=>?_) ?_|apply aJ|apply aI|refine aK (by kernel_rfl) ?_|apply aL|apply bG|apply bF|apply aR
     |((with_reducible first|apply aT|apply aS|apply bD)<;>intro h<;>(try dsimp only[cu,eE,eN]at h)<;>(try(exfalso;omega)))))
 all_goals(
 with_reducible apply Leaf.mk
 (try dsimp only[cu,aC,aB,gts,eE,eN]at *)
 rfl)
abbrev qaC:Tbl:=(113,ME)::qaB
theorem qFM:aD Tryz.prog qaC:=aD.cons qTH qFL
abbrev LF:Ct:=.fn [.int .u32] (none) (fun(v:Int)=>.d .str (aV (four v)))
theorem qRQ:aH Tryz.prog 44 LF:=by
 refine aH.fn qFM mixed [] [] rfl rfl ?_;rintro⟨(v:Int),_⟩ -;refine⟨[],?_⟩;repeat' (first
  |(
 with_reducible apply Side.mk
 (try dsimp only[cu,aC,aB,gts,loK,hiK,eE,eN])
 first
 |omega
 |(exact Eq.refl _))
  |(conv=>whnf
    first
     |with_reducible first|done|exact trivial|refine NilBr.mk (fun h=>?_) ?_|apply aJ|apply aI|refine aK (by kernel_rfl) ?_|apply aL|apply bG|apply bF|apply aR
     |((with_reducible first|apply aT|apply aS|apply bD)<;>intro h<;>(try dsimp only[cu,eE,eN]at h)<;>(try(exfalso;omega)))))
 all_goals(
 with_reducible apply Leaf.mk
 (try dsimp only[cu,aC,aB,gts,eE,eN]at *)
 rfl)
abbrev qaD:Tbl:=(44,LF)::qaC
theorem qFN:aD Tryz.prog qaD:=aD.cons qRQ qFM
abbrev GH:Ct:=.fn [.str] (some (fun(s:ByteArray)=>(s.size<=4611686018427387904))) (fun(s:ByteArray)=>.tup [.str,.int .i64] (if gQ s=0 then gV s else EMP,gQ s,()))
theorem qNU:aH Tryz.prog 133 GH:=by
 refine aH.fn qFN mixed [] [] rfl rfl ?_;rintro⟨(s:ByteArray),_⟩ hpre;replace hpre:=hpre _ rfl;dsimp only[cu]at hpre;have hs:=hpre;refine⟨[],?_⟩;repeat' (first
  |(
 with_reducible apply Side.mk
 (try dsimp only[cu,aC,aB,gts,loK,hiK,eE,eN])
 first
 |omega
 |(
  have hbl:=PS s;exact Nat.le_trans hbl hs))
  |(conv=>whnf
    first
     |with_reducible first|done|exact trivial|refine NilBr.mk (fun h=>?_) ?_|apply aJ|apply aI|refine aK (by kernel_rfl) ?_|apply aL|apply bG|apply bF|apply aR
     |((with_reducible first|apply aT|apply aS|apply bD)<;>intro h<;>(try dsimp only[cu,eE,eN]at h)<;>(try(exfalso;omega)))))
 all_goals(
 with_reducible apply Leaf.mk
 (try dsimp only[cu,aC,aB,gts,eE,eN]at *)
 first
 |(
  have hb:gV s=(s.extract 0 ((s.size:Int)-4).toNat):=rfl;first
  |(
   have h:=qW4 (s:=s) (by omega);rw[h];(try rfl))
  |(
   have h:=qW5 (s:=s) (by omega) (by rw[hb];with_reducible assumption);rw[h];(try rfl))
  |(
   have h1:bU (s.extract 0 ((s.size:Int)-4).toNat)=s:=by first|with_reducible assumption|(refine Decidable.not_not.1 ?_;with_reducible assumption)
   have h:=qW6 (s:=s) (by omega) (by rw[hb];exact h1);rw[h];(try rfl))))
abbrev qaE:Tbl:=(133,GH)::qaD
theorem qFO:aD Tryz.prog qaE:=aD.cons qNU qFN
def dfs (l:List Int):List Int:=(List.range (l.length-1)).map fun j=>IntKind.i64.wrap (l[j+1]! - l[j]!)
theorem uX (l:List Int):(dfs l).length=l.length-1:=by simp [dfs]
theorem qQ8 {l:List Int} {j:Nat} (h:j+1<l.length):(dfs l)[j]! =IntKind.i64.wrap (l[j+1]! - l[j]!):=by
 rw[getElem!_pos _ _ (by rw[uX];omega)];simp [dfs]
def usL (m:Int) (D:List Int):List Int:=D.map fun d=>IntKind.u64.wrap (IntKind.i64.wrap (d-m))
def YZ (D:List Int):ByteArray:=(aV (put (dG (mnL D)))++aV [IntKind.u8.wrap (mwL (usL (mnL D) D))])++(eQ (usL (mnL D) D) (mwL (usL (mnL D) D))).1
def pV (D:List Int):ByteArray:=if h:D.length=0 then ByteArray.empty else YZ (D.take 32)++pV (D.drop 32)
termination_by D.length
decreasing_by simp;omega
def eO (l:List Int):ByteArray:=if l.length=0\/l.length>4096 then⟨#[]⟩else aV (put (dG l[0]!))++pV (dfs l)
def gU (l:List Int) (i:Int):List Int:=((dfs l).drop (i-1).toNat).take 32
theorem lR {l:List Int} {i:Int} (h:1<=i/\i<l.length):((gU l i).length:Int)=bT (i+32) l.length-i:=by
 unfold gU bT;rw[List.length_take,List.length_drop,uX];split<;>omega
theorem BB {l:List Int} {i k:Int} (h:1<=i/\i<=k/\k<bT (i+32) l.length):(gU l i)[(k-i).toNat]! =IntKind.i64.wrap (l[k.toNat]! - l[(k-1).toNat]!):=by
 have h2:k<l.length/\k<i+32:=by unfold bT at h;split at h<;>omega
 have e:=qQ8 (l:=l) (j:=(k-1).toNat) (by omega);rw[show(k-1).toNat+1=k.toNat by omega]at e;rw[<-e];unfold gU;rw[List.getElem!_eq_getElem?_getD,List.getElem?_take,if_pos (by omega),List.getElem?_drop,show(i-1).toNat+(k-i).toNat=(k-1).toNat by omega,List.getElem!_eq_getElem?_getD]
theorem ZS {l:List Int} {i:Int} (h:1<=i/\i<l.length):pV ((dfs l).drop (i-1).toNat)=YZ (gU l i)++pV ((dfs l).drop (i+32-1).toNat):=by
 rw[pV,dif_neg (by rw[List.length_drop,uX];omega),List.drop_drop,show(i-1).toNat+32=(i+32-1).toNat by omega];rfl
theorem qIH {l:List Int} {i:Int} (h:¬i<l.length):pV ((dfs l).drop (i-1).toNat)=ByteArray.empty:=by
 rw[pV,dif_pos (by rw[List.length_drop,uX];omega)]
theorem vA {D:List Int} (h:1<=D.length):D.foldl bT D[0]! =mnL D:=by
 cases D with
 |nil=>simp at h
 |cons x r=>
  show List.foldl bT (bT x x) r=List.foldl bT x r;have e:bT x x=x:=by unfold bT;split<;>rfl
  rw[e]
theorem ZX {D:List Int} {x j:Int} {f:Int->Int->Int} (h:0<=j/\j<D.length):(D.take (j+1).toNat).foldl f x=f ((D.take j.toNat).foldl f x) D[j.toNat]!:=by
 rw[pC h];simp
theorem qPY {D:List Int} {m j:Int} (h:0<=j/\j<D.length):usL m (D.take (j+1).toNat)=usL m (D.take j.toNat)++ [IntKind.u64.wrap (IntKind.i64.wrap (D[j.toNat]! - m))]:=by
 unfold usL;rw[pC h];simp
theorem qTV (m:Int) (D:List Int) (i:Nat):0<=(usL m D)[i]! /\(usL m D)[i]! <18446744073709551616:=by
 by_cases h:i<(usL m D).length
 ·rw[getElem!_pos (usL m D) i h]
  simp only[usL,List.getElem_map];exact nB _
 ·rw[getElem!_neg (usL m D) i h];exact⟨by decide,by decide⟩
theorem qSJ (U:List Int) (v:Int):mwL (U++ [v])=cM (mwL U) (gS v):=by simp [mwL]
theorem qSK:∀(U:List Int),(∀v,v∈U->v<18446744073709551616)->0<=mwL U/\mwL U<=64:=by
 have H:∀(U:List Int) (w:Int),0<=w/\w<=64->(∀v,v∈U->v<18446744073709551616)->0<=U.foldl (fun w v=>cM w (gS v)) w/\U.foldl (fun w v=>cM w (gS v)) w<=64:=by
  intro U;induction U with
  |nil=>intro w hw _;exact hw
  |cons v U ih=>
   intro w hw h;rw[List.foldl_cons];have:=vD (h v (by simp));refine ih _ ?_ (fun x hx=>h x (by simp [hx]));unfold cM;split<;>omega
 exact fun U h=>H U 0 (by decide) h
theorem qWW (m:Int) (D:List Int):0<=mwL (usL m D)/\mwL (usL m D)<=64:=qSK _ fun v hv=>by
 unfold usL at hv;obtain⟨d,_,rfl⟩:=List.mem_map.1 hv;exact(nB _).2
theorem qHT (D:List Int):(YZ D).size<=32779:=by
 unfold YZ;have h1:=eF (dG (mnL D));have h2:=oW (usL (mnL D) D) (mwL (usL (mnL D) D));rw[ByteArray.size_append,ByteArray.size_append,cC [_]];simp only[List.length_cons,List.length_nil];omega
theorem HT:∀(n:Nat) (D:List Int),D.length<=n->(pV D).size<=32779*n
 |n,D,h=>by
  rw[pV];split
  ·exact Nat.zero_le _
  ·have:=qHT (D.take 32)
   rw[ByteArray.size_append];obtain⟨m,rfl⟩:∃m,n=m+1:=⟨n-1,by omega⟩
   have:=HT m (D.drop 32) (by simp;omega);omega
theorem KA (l:List Int):(eO l).size<=134262794:=by
 unfold eO;split
 ·exact Nat.zero_le _
 ·have h1:=eF (dG l[0]!)
  have h2:=HT 4096 (dfs l) (by rw[uX];omega);rw[ByteArray.size_append];omega
theorem zI (u:UInt8):(ByteArray.mk #[u]).size=1:=rfl
theorem FC (x:Int):inI (IntKind.i64.wrap x):=by unfold inI;simp [IntKind.wrap,IntKind.bits,IntKind.signed];omega
theorem qUK {l:List Int} {i:Int} (h:1<=i/\i<l.length):inI (mnL (gU l i)):=by
 have hl:=lR h;have hm:bT (i+32) l.length-i>=1:=by unfold bT;split<;>omega
 have:=zE (l:=gU l i) (fun e=>by rw[e]at hl;simp at hl;omega);unfold gU at this;have:=List.mem_of_mem_drop (List.mem_of_mem_take this);unfold dfs at this;obtain⟨j,_,e⟩:=List.mem_map.1 this;show inI (mnL (List.take 32 (List.drop (i-1).toNat (dfs l))));unfold dfs;rw[<-e];exact FC _
abbrev GM:Ct:=.fn [.list (.int .i64)] (some (fun(l:List Int)=>(l.length<=1073741824)/\(∀x,x∈l->inI x))) (fun(l:List Int)=>.d .str (eO l))
theorem qOJ:aH Tryz.prog 159 GM:=by
 refine aH.fn qFO mixed [(0,8,9),(0,12,10),(0,18,9),(0,18,11)] [] rfl rfl ?_;rintro⟨(l:List Int),_⟩ hpre;replace hpre:=hpre _ rfl;dsimp only[cu]at hpre;obtain⟨hl,hv⟩:=hpre;refine⟨[(0,10,LA.mk [.sl 4 (.int .i64),.sl 3 .str] (fun y=>Tag 35/\cu [.int .i64,.str] (fun(i:Int) (x:ByteArray)=>(1<=i/\i<=l.length+31)/\(eO l=x++pV ((dfs l).drop (i-1).toNat))/\((x.size:Int)<=10+32779*i)) y) (cu [.int .i64,.str] (fun(i:Int) (x:ByteArray)=>((l.length:Int)+32-i).toNat)) (cu [.int .i64,.str] (fun(i:Int) (x:ByteArray)=>([(0,20,LA.mk [.sl 7 (.int .i64),.sl 6 (.int .i64)] (fun y=>Tag 36/\cu [.int .i64,.int .i64] (fun(k:Int) (m:Int)=>(i<=k/\k<=bT (i+32) l.length)/\(m=((gU l i).take (k-i).toNat).foldl bT (gU l i)[0]!)) y) (cu [.int .i64,.int .i64] (fun(k:Int) (m:Int)=>(bT (i+32) l.length-k).toNat)) (cu [.int .i64,.int .i64] (fun(k:Int) (m:Int)=>([]:List (Nat×Nat×LA))))),(0,32,LA.mk [.sl 10 (.int .i64),.lst 8 (.int .u64) 86,.sl 9 (.int .i64)] (fun y=>Tag 37/\cu [.int .i64,.list (.int .u64),.int .i64] (fun(j:Int) (u:List Int) (w:Int)=>(i<=j/\j<=bT (i+32) l.length)/\(u=usL (mnL (gU l i)) ((gU l i).take (j-i).toNat))/\(w=mwL u)) y) (cu [.int .i64,.list (.int .u64),.int .i64] (fun(j:Int) (u:List Int) (w:Int)=>(bT (i+32) l.length-j).toNat)) (cu [.int .i64,.list (.int .u64),.int .i64] (fun(j:Int) (u:List Int) (w:Int)=>([]:List (Nat×Nat×LA)))))]:List (Nat×Nat×LA)))))],?_⟩;repeat' (first
  |(
 with_reducible refine Side.mk ⟨(⟨⟩:Tag 35),?_⟩
 dsimp only[cu,aC,aB,gts,eE,eN]
 refine⟨?_,?_,?_⟩
 ·first
  |(
  have hmi:i<bT (i+32) l.length/\bT (i+32) l.length<=l.length/\bT (i+32) l.length<=i+32:=by unfold bT;split<;>omega
  omega)
  |omega
 ·first
  |(
  rw[eO,if_neg (by omega)]
  rfl)
  |(
  have hmi:i<bT (i+32) l.length/\bT (i+32) l.length<=l.length/\bT (i+32) l.length<=i+32:=by unfold bT;split<;>omega
  have hbl:=lR (l:=l) (i:=i) (by omega)
  have hmm:m=mnL (gU l i):=by rw[hm,List.take_of_length_le (by omega),vA (by omega)]
  have huu:u=usL (mnL (gU l i)) (gU l i):=by rw[hu,List.take_of_length_le (by omega)]
  rw[hx,ZS (by omega),<-ByteArray.append_assoc]
  unfold YZ
  rw[<-huu,<-hmm,<-hw]
  rfl)
 ·first
  |(
  have h1:=eF (dG l[(0:Int).toNat]!)
  omega)
  |(
  have hmi:i<bT (i+32) l.length/\bT (i+32) l.length<=l.length/\bT (i+32) l.length<=i+32:=by unfold bT;split<;>omega
  have hbl:=lR (l:=l) (i:=i) (by omega)
  have hmm:m=mnL (gU l i):=by rw[hm,List.take_of_length_le (by omega),vA (by omega)]
  have huu:u=usL (mnL (gU l i)) (gU l i):=by rw[hu,List.take_of_length_le (by omega)]
  have h1:=eF (dG m)
  have h2:=oW u w
  simp only[ByteArray.size_append,zI,cC [_],List.length_cons,List.length_nil]
  omega))
  |(
 with_reducible refine Side.mk ⟨(⟨⟩:Tag 36),?_⟩
 dsimp only[cu,aC,aB,gts,eE,eN]
 refine⟨?_,?_⟩
 ·(
  have hmi:i<bT (i+32) l.length/\bT (i+32) l.length<=l.length/\bT (i+32) l.length<=i+32:=by unfold bT;split<;>omega
  omega)
 ·first
  |(
  have hmi:i<bT (i+32) l.length/\bT (i+32) l.length<=l.length/\bT (i+32) l.length<=i+32:=by unfold bT;split<;>omega
  have hbl:=lR (l:=l) (i:=i) (by omega)
  first
  |(
   have hbg:=BB (l:=l) (i:=i) (k:=i) (by omega);rw[show(i-i).toNat=0 by omega]at hbg ⊢;rw[hbg];(try rfl))
  |(
   have hbg:=BB (l:=l) (i:=i) (k:=k) (by omega);rw[show k+1-i=(k-i)+1 by omega,ZX (by omega),<-hm,hbg])))
  |(
 with_reducible refine Side.mk ⟨(⟨⟩:Tag 37),?_⟩
 dsimp only[cu,aC,aB,gts,eE,eN]
 refine⟨?_,?_,?_⟩
 ·(
  have hmi:i<bT (i+32) l.length/\bT (i+32) l.length<=l.length/\bT (i+32) l.length<=i+32:=by unfold bT;split<;>omega
  omega)
 ·first
  |rw[show(i-i).toNat=0 by omega];rfl
  |(
  have hmi:i<bT (i+32) l.length/\bT (i+32) l.length<=l.length/\bT (i+32) l.length<=i+32:=by unfold bT;split<;>omega
  have hbl:=lR (l:=l) (i:=i) (by omega)
  have hmm:m=mnL (gU l i):=by rw[hm,List.take_of_length_le (by omega),vA (by omega)]
  have hbg:=BB (l:=l) (i:=i) (k:=j) (by omega)
  rw[show j+1-i=(j-i)+1 by omega,qPY (by omega),<-hu,hbg,hmm])
 ·first
  |rfl
  |(rw[qSJ,hw]))
  |(
 with_reducible apply Side.mk
 (try dsimp only[cu,aC,aB,gts,loK,hiK,eE,eN])
 first
 |done
 |omega
 |exact Eq.refl _
 |(
  have hmi:i<bT (i+32) l.length/\bT (i+32) l.length<=l.length/\bT (i+32) l.length<=i+32:=by unfold bT;split<;>omega
  omega)
 |exact gE (IC hv _)
 |exact IC hv _
 |exact nB _
 |(
  have hmi:i<bT (i+32) l.length/\bT (i+32) l.length<=l.length/\bT (i+32) l.length<=i+32:=by unfold bT;split<;>omega
  have hbl:=lR (l:=l) (i:=i) (by omega);first
  |(
   have hul:=congrArg List.length hu;simp only[usL,List.length_map,List.length_take]at hul;(try simp only[List.length_cons,List.length_nil]);omega)
  |(
   have hmm:m=mnL (gU l i):=by rw[hm,List.take_of_length_le (by omega),vA (by omega)]
   rw[hmm];first
   |exact qUK (by omega)
   |(exact gE (qUK (by omega))))
  |(
   have hul:=congrArg List.length hu;simp only[usL,List.length_map,List.length_take]at hul;have hmi:i<bT (i+32) l.length/\bT (i+32) l.length<=l.length/\bT (i+32) l.length<=i+32:=by unfold bT;split<;>omega
   have hbl:=lR (l:=l) (i:=i) (by omega);have hmm:m=mnL (gU l i):=by rw[hm,List.take_of_length_le (by omega),vA (by omega)]
   have huu:u=usL (mnL (gU l i)) (gU l i):=by rw[hu,List.take_of_length_le (by omega)]
   refine⟨fun q=>?_,by omega⟩;rw[huu];exact qTV _ _ q)
  |(
   have hmm:m=mnL (gU l i):=by rw[hm,List.take_of_length_le (by omega),vA (by omega)]
   have huu:u=usL (mnL (gU l i)) (gU l i):=by rw[hu,List.take_of_length_le (by omega)]
   have h1:=eF (dG m);have h2:=oW u w;simp only[ByteArray.size_append,zI,cC [_],List.length_cons,List.length_nil];omega)))
  |(conv=>whnf
    first
     |with_reducible first|done|exact trivial|refine NilBr.mk (fun h=>?_) ?_|apply aJ|apply aI|refine aK (by kernel_rfl) ?_|apply aL|apply bG|apply bF|apply aR
     |((with_reducible first|apply aT|apply aS|apply bD)<;>intro h<;>(try dsimp only[cu,eE,eN]at h)<;>(try(exfalso;omega)))
     |(
 intro yy (hy:Tag 35/\_)
 obtain⟨(i:Int),(x:ByteArray),_⟩:=yy
 replace hy:=hy.2
 dsimp only[cu,aC,aB,gts,eE,eN]at hy
 obtain⟨hi,hx,hz⟩:=hy)
     |(
 intro yy (hy:Tag 36/\_)
 obtain⟨(k:Int),(m:Int),_⟩:=yy
 replace hy:=hy.2
 dsimp only[cu,aC,aB,gts,eE,eN]at hy
 obtain⟨hk,hm⟩:=hy)
     |(
 intro yy (hy:Tag 37/\_)
 obtain⟨(j:Int),(u:List Int),(w:Int),_⟩:=yy
 replace hy:=hy.2
 dsimp only[cu,aC,aB,gts,eE,eN]at hy
 obtain⟨hj,hu,hw⟩:=hy)))
 all_goals(
 with_reducible apply Leaf.mk
 (try dsimp only[cu,aC,aB,gts,eE,eN]at *)
 first
 |rw[eO,if_pos (by omega)]
 |(rw[hx,qIH (by omega),ByteArray.append_empty]))
abbrev qaF:Tbl:=(159,GM)::qaE
theorem qFP:aD Tryz.prog qaF:=aD.cons qOJ qFO
def jO (l:List Val):List Int:=l.map fun v=>v.2.1
def qE (l:List Val):List ByteArray:=l.map fun v=>v.2.2
def okV (v:Val):Prop:=v.2.2.size<=1048576/\inI v.2.1
def plV (t:Int) (v:Val):ByteArray:=if t=3 then aV (put v.2.2.size)++v.2.2 else aV (put (dG v.2.1))
def plL (t:Int):List Val->ByteArray
 | []=>ByteArray.empty
 |v::r=>plV t v++plL t r
def kV (t k:Int) (l:List Val):ByteArray:=if k=2 then rS (jO l)else if k=3 then kZ (qE l)else if k=4 then eO (jO l)else plL t l
def bL (l:List Val):List Val:=l.filter fun v=>!v.1
def cG (l:List Val):List Bool:=l.map fun v=>v.1
def rA (k:Int) (l:List Val):ByteArray:=(aV [IntKind.u8.wrap k]++aV (put l.length))++aV (put ((l.length:Int)-(bL l).length))
def bW (t k:Int) (l:List Val):ByteArray:=(if(bL l).length<l.length then rA k l++jP (cG l)else rA k l)++kV t k (bL l)
def dR (t k:Int) (l:List Val):ByteArray:=bU (bW t k l)
theorem VO {t:Int} {l:List Val} {k:Int} (h:0<=k/\k<l.length):plL t (l.drop k.toNat)=plV t l[k.toNat]! ++plL t (l.drop (k+1).toNat):=by
 rw[bN l k h];rfl
theorem qA0 {l:List Val} (h:∀v,v∈l->okV v) (k:Nat):okV l[k]!:=by
 by_cases q:k<l.length
 ·rw[getElem!_pos l k q];exact h _ (List.getElem_mem q)
 ·rw[getElem!_neg l k q];exact⟨by decide,by unfold inI;exact⟨by decide,by decide⟩⟩
theorem qN2 {t:Int} {v:Val} (h:okV v):(plV t v).size<=1048586:=by
 unfold plV;have h1:=eF (v.2.2.size:Int);have h2:=eF (dG v.2.1);have:=h.1;split
 ·rw[ByteArray.size_append];omega
 ·omega
theorem VN (t:Int):∀(l:List Val),(∀v,v∈l->okV v)->(plL t l).size<=1048586*l.length
 | [],_=>Nat.zero_le _
 |v::r,h=>by
  have h1:=qN2 (t:=t) (h v (by simp));have h2:=VN t r (fun x hx=>h x (by simp [hx]));rw[plL,ByteArray.size_append,List.length_cons];omega
theorem qSV {l:List Val} (h:∀v,v∈l->okV v):∀x,x∈jO l->inI x:=fun x hx=>by
 obtain⟨v,hv,rfl⟩:=List.mem_map.1 hx;exact(h v hv).2
theorem qD6 {l:List Val} (h:∀v,v∈l->okV v):∀x,x∈qE l->x.size<=1073741824:=fun x hx=>by
 obtain⟨v,hv,rfl⟩:=List.mem_map.1 hx;have:=(h v hv).1;omega
theorem RT {l:List Val} (h:∀v,v∈l->okV v):∀v,v∈bL l->okV v:=fun v hv=>h v (List.mem_filter.1 hv).1
theorem pB (l:List Val):(bL l).length<=l.length:=List.length_filter_le _ _
theorem QI {l:List ByteArray} (h:∀w,w∈l->w.size<=1073741824):(kZ l).size<=4398046584842:=by
 unfold kZ;split
 ·exact Nat.zero_le _
 ·rw[ByteArray.size_append]
  have h1:=xC (v:=((bJ l).length:Int)) (k:=(bJ l).length) h (by omega);rw[List.take_of_length_le (Nat.le_refl _)]at h1;have h2:=oW (dF l) (wdN ((bJ l).length:Int));omega
theorem WG:∀(n:Nat) (l:List Int),l.length<=n->(xB (runs l)).length<=20*l.length
 |n,[],_=>by rw[runs];exact Nat.zero_le _
 |n,v::l,h=>by
  obtain⟨m,rfl⟩:∃m,n=m+1:=⟨n-1,by simp at h;omega⟩
  rw[runs,xB];have h1:=bM ((dX v l:Int)+1);have h2:=bM (dG v);have h3:=WG m (l.drop (dX v l)) (by simp at h ⊢;omega);simp only[List.length_append,List.length_cons,List.length_drop]at h3 ⊢;omega
theorem QJ (l:List Int):(rS l).size<=20*l.length:=by
 unfold rS;rw[cC];exact WG _ l (Nat.le_refl _)
theorem VL {t k:Int} {l:List Val} (h:∀v,v∈l->okV v) (hl:l.length<=4096):(kV t k l).size<=4398046584842:=by
 unfold kV;split
 ·have:=QJ (jO l)
  have e:(jO l).length=l.length:=by simp [jO]
  omega
 ·split
  ·exact QI (qD6 h)
  ·split
   ·have:=KA (jO l);omega
   ·have:=VN t l h;omega
theorem IR {l:List Bool} (h:l.length<=4096):(jP l).size<=512:=by
 unfold jP;rw[cC,iW,Int.tdiv_eq_ediv_of_nonneg (by omega)];omega
theorem BM (k:Int) (l:List Val):(rA k l).size<=21/\1<=(rA k l).size:=by
 unfold rA;have h1:=eF (l.length:Int);have h2:=eF ((l.length:Int)-(bL l).length);rw[ByteArray.size_append,ByteArray.size_append,cC [_]];simp only[List.length_cons,List.length_nil];omega
theorem pT {t k:Int} {l:List Val} (h:∀v,v∈l->okV v) (hl:l.length<=4096):(bW t k l).size<=4398046585375/\1<=(bW t k l).size:=by
 unfold bW;have h1:=BM k l;have h2:=VL (t:=t) (k:=k) (RT h) (by have:=pB l;omega);have h3:=IR (l:=cG l) (by simp [cG];omega);split
 ·rw[ByteArray.size_append,ByteArray.size_append];omega
 ·rw[ByteArray.size_append];omega
theorem rJ {l:List Val} {k:Int} (h:0<=k/\k<l.length):l.take (k+1).toNat=l.take k.toNat++ [l[k.toNat]!]:=by
 rw[show(k+1).toNat=k.toNat+1 by omega,List.take_succ_eq_append_getElem (by omega),getElem!_pos l k.toNat (by omega)]
def cB (t k:Int):Bool:=if t=3 then decide (k=1)||decide (k=3)else decide (k=1)||decide (k=2)||decide (k=4)
abbrev yF:Ct:=.fn [.list bS] (some (fun(l:List Val)=>(l.length<=1073741824))) (fun(l:List Val)=>.d (.list (.int .i64)) (jO l))
theorem qAY:aH Tryz.prog 156 yF:=by
 refine aH.fn qFP mixed [] [] rfl rfl ?_;rintro⟨(l:List Val),_⟩ hpre;replace hpre:=hpre _ rfl;dsimp only[cu]at hpre;have hl:=hpre;refine⟨[(0,6,LA.mk [.sl 8 (.int .i64),.lst 3 (.int .i64) 2] (fun y=>Tag 38/\cu [.int .i64,.list (.int .i64)] (fun(k:Int) (M:List Int)=>(0<=k/\k<=l.length)/\(M=jO (l.take k.toNat))) y) (cu [.int .i64,.list (.int .i64)] (fun(k:Int) (M:List Int)=>((l.length:Int)-k).toNat)) (cu [.int .i64,.list (.int .i64)] (fun(k:Int) (M:List Int)=>([]:List (Nat×Nat×LA)))))],?_⟩;repeat' (first
  |(
 with_reducible refine Side.mk ⟨(⟨⟩:Tag 38),?_⟩
 dsimp only[cu,aC,aB,gts,eE,eN]
 refine⟨?_,?_⟩
 ·omega
 ·first
  |rfl
  |(
  unfold jO
  rw[rJ (by omega),List.map_append]
  show _=jO (l.take k.toNat)++_
  rw[<-hM]
  rfl))
  |(
 with_reducible apply Side.mk
 (try dsimp only[cu,aC,aB,gts,loK,hiK,eE,eN])
 first
 |done
 |omega
 |exact Eq.refl _
 |(
  have hml:=congrArg List.length hM;simp only[jO,List.length_map,List.length_take]at hml;(try simp only[List.length_cons,List.length_nil]);omega))
  |(conv=>whnf
    first
     |with_reducible first|done|exact trivial|refine NilBr.mk (fun h=>?_) ?_|apply aJ|apply aI|refine aK (by kernel_rfl) ?_|apply aL|apply bG|apply bF|apply aR
     |((with_reducible first|apply aT|apply aS|apply bD)<;>intro h<;>(try dsimp only[cu,eE,eN]at h)<;>(try(exfalso;omega)))
     |(
 intro yy (hy:Tag 38/\_)
 obtain⟨(k:Int),(M:List Int),_⟩:=yy
 replace hy:=hy.2
 dsimp only[cu,aC,aB,gts,eE,eN]at hy
 obtain⟨hk,hM⟩:=hy)))
 all_goals(
 with_reducible apply Leaf.mk
 (try dsimp only[cu,aC,aB,gts,eE,eN]at *)
 rw[hM,List.take_of_length_le (by omega)])
abbrev qaG:Tbl:=(156,yF)::qaF
theorem qFQ:aD Tryz.prog qaG:=aD.cons qAY qFP
abbrev yO:Ct:=.fn [.list bS] (some (fun(l:List Val)=>(l.length<=1073741824))) (fun(l:List Val)=>.d (.list .str) (qE l))
theorem qBM:aH Tryz.prog 158 yO:=by
 refine aH.fn qFQ mixed [] [] rfl rfl ?_;rintro⟨(l:List Val),_⟩ hpre;replace hpre:=hpre _ rfl;dsimp only[cu]at hpre;have hl:=hpre;refine⟨[(0,6,LA.mk [.sl 8 (.int .i64),.lst 3 .str 9] (fun y=>Tag 39/\cu [.int .i64,.list .str] (fun(k:Int) (M:List ByteArray)=>(0<=k/\k<=l.length)/\(M=qE (l.take k.toNat))) y) (cu [.int .i64,.list .str] (fun(k:Int) (M:List ByteArray)=>((l.length:Int)-k).toNat)) (cu [.int .i64,.list .str] (fun(k:Int) (M:List ByteArray)=>([]:List (Nat×Nat×LA)))))],?_⟩;repeat' (first
  |(
 with_reducible refine Side.mk ⟨(⟨⟩:Tag 39),?_⟩
 dsimp only[cu,aC,aB,gts,eE,eN]
 refine⟨?_,?_⟩
 ·omega
 ·first
  |rfl
  |(
  unfold qE
  rw[rJ (by omega),List.map_append]
  show _=qE (l.take k.toNat)++_
  rw[<-hM]
  rfl))
  |(
 with_reducible apply Side.mk
 (try dsimp only[cu,aC,aB,gts,loK,hiK,eE,eN])
 first
 |done
 |omega
 |exact Eq.refl _
 |(
  have hml:=congrArg List.length hM;simp only[qE,List.length_map,List.length_take]at hml;(try simp only[List.length_cons,List.length_nil]);omega))
  |(conv=>whnf
    first
     |with_reducible first|done|exact trivial|refine NilBr.mk (fun h=>?_) ?_|apply aJ|apply aI|refine aK (by kernel_rfl) ?_|apply aL|apply bG|apply bF|apply aR
     |((with_reducible first|apply aT|apply aS|apply bD)<;>intro h<;>(try dsimp only[cu,eE,eN]at h)<;>(try(exfalso;omega)))
     |(
 intro yy (hy:Tag 39/\_)
 obtain⟨(k:Int),(M:List ByteArray),_⟩:=yy
 replace hy:=hy.2
 dsimp only[cu,aC,aB,gts,eE,eN]at hy
 obtain⟨hk,hM⟩:=hy)))
 all_goals(
 with_reducible apply Leaf.mk
 (try dsimp only[cu,aC,aB,gts,eE,eN]at *)
 rw[hM,List.take_of_length_le (by omega)])
abbrev qaH:Tbl:=(158,yO)::qaG
theorem qFR:aD Tryz.prog qaH:=aD.cons qBM qFQ
abbrev SZ:Ct:=.fn [.int .i64,.int .i64,.list bS] (some (fun(t:Int) (c:Int) (l:List Val)=>(l.length<=4096)/\(∀v,v∈l->okV v))) (fun(t:Int) (c:Int) (l:List Val)=>.d .str (kV t c l))
theorem qW9:aH Tryz.prog 121 SZ:=by
 refine aH.fn qFR mixed [] [] rfl rfl ?_;rintro⟨(t:Int),(c:Int),(l:List Val),_⟩ hpre;replace hpre:=hpre _ rfl;dsimp only[cu]at hpre;obtain⟨hl,hv⟩:=hpre;refine⟨[(0,20,LA.mk [.sl 28 (.int .i64),.sl 7 .str] (fun y=>Tag 40/\cu [.int .i64,.str] (fun(k:Int) (x:ByteArray)=>(0<=k/\k<=l.length)/\(plL t l=x++plL t (l.drop k.toNat))/\((x.size:Int)<=1048586*k)) y) (cu [.int .i64,.str] (fun(k:Int) (x:ByteArray)=>((l.length:Int)-k).toNat)) (cu [.int .i64,.str] (fun(k:Int) (x:ByteArray)=>([]:List (Nat×Nat×LA)))))],?_⟩;repeat' (first
  |(
 with_reducible refine Side.mk ⟨(⟨⟩:Tag 40),?_⟩
 dsimp only[cu,aC,aB,gts,eE,eN]
 refine⟨?_,?_,?_⟩
 ·omega
 ·first
  |rw[show(⟨#[]⟩:ByteArray)=ByteArray.empty from rfl,ByteArray.empty_append];rfl
  |(
  have hat:=qA0 hv k.toNat
  have hat1:=hat.1
  have h64:=aY (n:=(l[k.toNat]!.2.2.size:Int)) (by omega)
  have p1:=eF (l[k.toNat]!.2.2.size:Int)
  have p2:=eF (dG l[k.toNat]!.2.1)
  first
  |(
   have ht:t=3:=by with_reducible assumption
   rw[hx,VO (by omega),plV,if_pos ht,h64,<-ByteArray.append_assoc])
  |(
   have ht:¬t=3:=by with_reducible assumption
   rw[hx,VO (by omega),plV,if_neg ht,<-ByteArray.append_assoc]))
 ·first
  |exact Int.le_refl _
  |(
  have hat:=qA0 hv k.toNat
  have hat1:=hat.1
  have h64:=aY (n:=(l[k.toNat]!.2.2.size:Int)) (by omega)
  have p1:=eF (l[k.toNat]!.2.2.size:Int)
  have p2:=eF (dG l[k.toNat]!.2.1)
  simp only[ByteArray.size_append,h64]
  omega))
  |(
 with_reducible apply Side.mk
 (try dsimp only[cu,aC,aB,gts,loK,hiK,eE,eN])
 first
 |omega
 |(
  have hat:=qA0 hv k.toNat;have hat1:=hat.1;have h64:=aY (n:=(l[k.toNat]!.2.2.size:Int)) (by omega);have p1:=eF (l[k.toNat]!.2.2.size:Int);have p2:=eF (dG l[k.toNat]!.2.1);first
  |omega
  |exact gE hat.2
  |exact hat.2
  |(
   rw[h64];omega)
  |(
   simp only[ByteArray.size_append,h64];omega))
 |refine⟨by simp [jO];omega,qSV hv⟩
 |(refine⟨qD6 hv,by simp [qE];omega⟩))
  |(conv=>whnf
    first
     |with_reducible first|done|exact trivial|refine NilBr.mk (fun h=>?_) ?_|apply aJ|apply aI|refine aK (by kernel_rfl) ?_|apply aL|apply bG|apply bF|apply aR
     |((with_reducible first|apply aT|apply aS|apply bD)<;>intro h<;>(try dsimp only[cu,eE,eN]at h)<;>(try(exfalso;omega)))
     |(
 intro yy (hy:Tag 40/\_)
 obtain⟨(k:Int),(x:ByteArray),_⟩:=yy
 replace hy:=hy.2
 dsimp only[cu,aC,aB,gts,eE,eN]at hy
 obtain⟨hk,hx,hz⟩:=hy)))
 all_goals(
 with_reducible apply Leaf.mk
 (try dsimp only[cu,aC,aB,gts,eE,eN]at *)
 first
 |(
  have hc:c=2:=by with_reducible assumption
  rw[kV,if_pos hc])
 |(
  have hc:¬c=2:=by with_reducible assumption
  first
  |(
   have hc3:c=3:=by with_reducible assumption
   rw[kV,if_neg hc,if_pos hc3])
  |(
   have hc3:¬c=3:=by with_reducible assumption
   first
   |(
    have hc4:c=4:=by with_reducible assumption
    rw[kV,if_neg hc,if_neg hc3,if_pos hc4])
   |(
    have hc4:¬c=4:=by with_reducible assumption
    rw[kV,if_neg hc,if_neg hc3,if_neg hc4,hx,List.drop_eq_nil_of_le (by omega),plL,ByteArray.append_empty]))))
abbrev qaI:Tbl:=(121,SZ)::qaH
theorem qFS:aD Tryz.prog qaI:=aD.cons qW9 qFR
abbrev MH:Ct:=.fn [.int .i64,.int .i64] (none) (fun(t:Int) (c:Int)=>.d .bool (cB t c))
theorem qTW:aH Tryz.prog 82 MH:=by
 refine aH.fn qFS mixed [] [] rfl rfl ?_;rintro⟨(t:Int),(c:Int),_⟩ -;refine⟨[],?_⟩;repeat' (first
  |(
 with_reducible apply Side.mk
 (try dsimp only[cu,aC,aB,gts,loK,hiK,eE,eN])
 done)
  |(conv=>whnf
    first
     |with_reducible first|done|exact trivial|refine NilBr.mk (fun h=>?_) ?_|apply aJ|apply aI|refine aK (by kernel_rfl) ?_|apply aL|apply bG|apply bF|apply aR
     |((with_reducible first|apply aT|apply aS|apply bD)<;>intro h<;>(try dsimp only[cu,eE,eN]at h)<;>(try(exfalso;omega)))))
 all_goals(
 with_reducible apply Leaf.mk
 (try dsimp only[cu,aC,aB,gts,eE,eN]at *)
 grind [cB])
abbrev qaJ:Tbl:=(82,MH)::qaI
theorem qFT:aD Tryz.prog qaJ:=aD.cons qTW qFS
theorem OP {l:List Val} {k:Int} (h:0<=k/\k<l.length):bL (l.take (k+1).toNat)=bL (l.take k.toNat)++(if l[k.toNat]!.1=true then[]else[l[k.toNat]!]):=by
 rw[rJ h];unfold bL;rw[List.filter_append];generalize l[k.toNat]! =x;by_cases q:x.1=true
 ·rw[if_pos q];simp [q]
 ·rw[if_neg q];simp [q]
theorem qAW {l:List Val} {k:Int} (h:0<=k/\k<l.length):cG (l.take (k+1).toNat)=cG (l.take k.toNat)++ [l[k.toNat]!.1]:=by
 rw[rJ h];simp [cG]
theorem HJ {t k:Int} {l:List Val} (h:(bL l).length<l.length):bW t k l=(rA k l++jP (cG l))++kV t k (bL l):=by rw[bW,if_pos h]
theorem tL {t k:Int} {l:List Val} (h:¬(bL l).length<l.length):bW t k l=rA k l++kV t k (bL l):=by rw[bW,if_neg h]
abbrev CN:Ct:=.fn [rI,.int .i64,.list bS] (some (fun(c:Col) (k:Int) (l:List Val)=>(l.length<=4096)/\(∀v,v∈l->okV v))) (fun(c:Col) (k:Int) (l:List Val)=>.d .str (dR c.2.1 k l))
theorem qHW:aH Tryz.prog 83 CN:=by
 refine aH.fn qFT mixed [] [] rfl rfl ?_;rintro⟨(c:Col),(k:Int),(l:List Val),_⟩ hpre;replace hpre:=hpre _ rfl;dsimp only[cu]at hpre;obtain⟨hl,hv⟩:=hpre;refine⟨[(0,8,LA.mk [.sl 14 (.int .i64),.lst 7 bS 43,.lst 8 .bool 4] (fun y=>Tag 41/\cu [.int .i64,.list bS,.list .bool] (fun(i:Int) (P:List Val) (N:List Bool)=>(0<=i/\i<=l.length)/\(P=bL (l.take i.toNat))/\(N=cG (l.take i.toNat))) y) (cu [.int .i64,.list bS,.list .bool] (fun(i:Int) (P:List Val) (N:List Bool)=>((l.length:Int)-i).toNat)) (cu [.int .i64,.list bS,.list .bool] (fun(i:Int) (P:List Val) (N:List Bool)=>([]:List (Nat×Nat×LA)))))],?_⟩;repeat' (first
  |(
 with_reducible refine Side.mk ⟨(⟨⟩:Tag 41),?_⟩
 dsimp only[cu,aC,aB,gts,eE,eN]
 refine⟨?_,?_,?_⟩
 ·omega
 ·first
  |rfl
  |(
  have hb:l[i.toNat]!.1=true:=by first|with_reducible assumption|exact xH (by with_reducible assumption)
  rw[OP (by omega),<-hP,if_pos hb,List.append_nil])
  |(
  have hb:¬l[i.toNat]!.1=true:=by first|with_reducible assumption|(simp_all;done)
  rw[OP (by omega),<-hP,if_neg hb])
 ·first
  |rfl
  |(rw[qAW (by omega),<-hN]))
  |(
 with_reducible apply Side.mk
 (try dsimp only[cu,aC,aB,gts,loK,hiK,eE,eN])
 first
 |done
 |omega
 |exact Eq.refl _
 |(
  have hpl:=pB (l.take i.toNat);rw[<-hP,List.length_take]at hpl;first
  |omega
  |(
   (try simp only[List.length_cons,List.length_nil]);omega))
 |(
  have hnl:=congrArg List.length hN;simp only[cG,List.length_map,List.length_take]at hnl;(try simp only[List.length_cons,List.length_nil]);omega)
 |exact nB _
 |(
  have hpl:=pB (l.take i.toNat);rw[<-hP,List.length_take]at hpl;have w1:=aY (n:=(l.length:Int)) (by omega);have w2:=aY (n:=(l.length:Int)-P.length) (by omega);have hF:P=bL l:=by rw[hP,List.take_of_length_le (by omega)]
  have hG:N=cG l:=by rw[hN,List.take_of_length_le (by omega)]
  have hh:=BM k l;have hp:=VL (t:=c.2.1) (k:=k) (RT hv) (by have:=pB l;omega);have hq:=IR (l:=cG l) (by simp [cG];omega);have p1:=eF (l.length:Int);have p2:=eF ((l.length:Int)-P.length);rw[<-hF]at hp;rw[<-hG]at hq;simp only[ByteArray.size_append,w1,w2,zI,cC [_],qZ,List.length_cons,List.length_nil];omega)
 |(
  have hF:P=bL l:=by rw[hP,List.take_of_length_le (by omega)]
  have hG:N=cG l:=by rw[hN,List.take_of_length_le (by omega)]
  have hpl:=pB (l.take i.toNat);rw[<-hP,List.length_take]at hpl;refine⟨by omega,?_⟩;rw[hF];exact RT hv))
  |(conv=>whnf
    first
     |with_reducible first|done|exact trivial|refine NilBr.mk (fun h=>?_) ?_|apply aJ|apply aI|refine aK (by kernel_rfl) ?_|apply aL|apply bG|apply bF|apply aR
     |((with_reducible first|apply aT|apply aS|apply bD)<;>intro h<;>(try dsimp only[cu,eE,eN]at h)<;>(try(exfalso;omega)))
     |(
 intro yy (hy:Tag 41/\_)
 obtain⟨(i:Int),(P:List Val),(N:List Bool),_⟩:=yy
 replace hy:=hy.2
 dsimp only[cu,aC,aB,gts,eE,eN]at hy
 obtain⟨hi,hP,hN⟩:=hy)))
 all_goals(
 with_reducible apply Leaf.mk
 (try dsimp only[cu,aC,aB,gts,eE,eN]at *)
 first
 |(
  have hpl:=pB (l.take i.toNat);rw[<-hP,List.length_take]at hpl;have w1:=aY (n:=(l.length:Int)) (by omega);have w2:=aY (n:=(l.length:Int)-P.length) (by omega);have hF:P=bL l:=by rw[hP,List.take_of_length_le (by omega)]
  have hG:N=cG l:=by rw[hN,List.take_of_length_le (by omega)]
  first
  |(
   have hlt:(bL l).length<l.length:=by rw[<-hF];omega
   rw[w1,w2,dR,bU,HJ hlt,hF,hG];(try rfl))
  |(
   have hlt:¬(bL l).length<l.length:=by rw[<-hF];omega
   rw[w1,w2,dR,bU,tL hlt,hF];(try rfl))))
abbrev qaK:Tbl:=(83,CN)::qaJ
theorem qFU:aD Tryz.prog qaK:=aD.cons qHW qFT
abbrev ZV:Val:=(false,0,⟨#[]⟩)
def nV (n:Int):Val:=(false,n,⟨#[]⟩)
def sV (s:ByteArray):Val:=(false,0,s)
abbrev NV:Val:=(true,0,⟨#[]⟩)
def jX (t:Int) (s:ByteArray):Nat->Int->List Val->List Val×Bool
 |0,a,M=>(M,decide (a=s.size))
 |k+1,a,M=>if(aA s a).2.2≠0 then([],false)
  else if t=3 then(if(aA s a).1>s.size-(aA s a).2.1 then([],false)else jX t s k ((aA s a).2.1+(aA s a).1) (M++ [sV (s.extract (aA s a).2.1.toNat ((aA s a).2.1+(aA s a).1).toNat)]))
  else jX t s k (aA s a).2.1 (M++ [nV (mJ (aA s a).1)])
def tB (n:Int) (l:List Val):List Val:=l++List.replicate (n-l.length).toNat ZV
def gD (t k:Int) (s:ByteArray) (n:Int):List Val×Bool:=
 if k=1 then jX t s n.toNat 0 []else if k=3 then((cR s n).1.map sV,decide ((cR s n).2=0))
 else if k=4 then((cA s n).1.map nV,decide ((cA s n).2=0))else((eH s n).1.map nV,decide ((eH s n).2=0))
def wF (t k:Int) (s:ByteArray) (n:Int):List Val×Bool:=if k=1 then jX t s n.toNat 0 []else(tB n (gD t k s n).1,(gD t k s n).2)
theorem qXE {t:Int} {s:ByteArray} {n a:Int} {M:List Val} (h:(M.length:Int)<n) (h1:¬(aA s a).2.2=0):jX t s (n-M.length).toNat a M=([],false):=by
 rw[show(n-M.length).toNat=(n-M.length-1).toNat+1 by omega,jX,if_pos h1]
theorem qN7 {t:Int} {s:ByteArray} {n a:Int} {M:List Val} (h:(M.length:Int)<n) (h1:(aA s a).2.2=0) (ht:t=3) (h2:(aA s a).1>s.size-(aA s a).2.1):jX t s (n-M.length).toNat a M=([],false):=by
 rw[show(n-M.length).toNat=(n-M.length-1).toNat+1 by omega,jX,if_neg (fun q=>q h1),if_pos ht,if_pos h2]
theorem qXG {t:Int} {s:ByteArray} {n a:Int} {M:List Val} (h:(M.length:Int)<n) (h1:(aA s a).2.2=0) (ht:t=3) (h2:¬(aA s a).1>s.size-(aA s a).2.1) :
  jX t s (n-M.length).toNat a M=jX t s (n-(M++ [sV (s.extract (aA s a).2.1.toNat ((aA s a).2.1+(aA s a).1).toNat)]).length).toNat ((aA s a).2.1+(aA s a).1) (M++ [sV (s.extract (aA s a).2.1.toNat ((aA s a).2.1+(aA s a).1).toNat)]):=by
 rw[show(n-M.length).toNat=(n-M.length-1).toNat+1 by omega,jX,if_neg (fun q=>q h1),if_pos ht,if_neg h2];congr 1
 simp;omega
theorem qXF {t:Int} {s:ByteArray} {n a:Int} {M:List Val} (h:(M.length:Int)<n) (h1:(aA s a).2.2=0) (ht:¬t=3) :
  jX t s (n-M.length).toNat a M=jX t s (n-(M++ [nV (mJ (aA s a).1)]).length).toNat (aA s a).2.1 (M++ [nV (mJ (aA s a).1)]):=by
 rw[show(n-M.length).toNat=(n-M.length-1).toNat+1 by omega,jX,if_neg (fun q=>q h1),if_neg ht];congr 1
 simp;omega
theorem qXD {t:Int} {s:ByteArray} {n a:Int} {M:List Val} (h:¬(M.length:Int)<n):jX t s (n-M.length).toNat a M=(M,decide (a=s.size)):=by
 rw[show(n-M.length).toNat=0 by omega,jX]
theorem qA8 {t:Int} {s:ByteArray}:∀(k:Nat) (a:Int) (M:List Val),(jX t s k a M).2=true->(jX t s k a M).1.length=M.length+k
 |0,a,M,h=>rfl
 |k+1,a,M,h=>by
  rw[jX]at h ⊢;split at h
  ·cases h
  ·rename_i h1
   rw[if_neg h1];split at h
   ·rename_i ht
    rw[if_pos ht];split at h
    ·cases h
    ·rename_i h2
     rw[if_neg h2,qA8 k _ _ h];simp;omega
   ·rename_i ht
    rw[if_neg ht,qA8 k _ _ h];simp;omega
theorem qCD {s:ByteArray} {n:Int}:∀(m:Nat) (a:Int) (M:List Int),(n-M.length).toNat<=m->(M.length:Int)<=n->((dGo s n a M).2=0->((dGo s n a M).1.length:Int)=n)/\((dGo s n a M).2≠0->(dGo s n a M).1= [])
 |m,a,M,hm,hM=>by
  rw[dGo];split
  ·split
   ·rename_i h1;exact⟨fun q=>absurd q h1,fun _=>rfl⟩
   ·split
    ·exact⟨fun q=>absurd q (by decide),fun _=>rfl⟩
    ·rename_i h2
     split
     ·rename_i h3;exact⟨fun q=>absurd q h3,fun _=>rfl⟩
     ·split
      ·exact⟨fun q=>absurd q (by decide),fun _=>rfl⟩
      ·have hg:=bB s a
       obtain⟨m,rfl⟩:∃m',m=m'+1:=⟨m-1,by omega⟩
       exact qCD m _ _ (by simp only[List.length_append,List.length_replicate];omega) (by simp only[List.length_append,List.length_replicate];omega)
  ·split
   ·exact⟨fun q=>absurd q (by decide),fun _=>rfl⟩
   ·exact⟨fun _=>by show((M.length:Nat):Int)=n;omega,fun q=>absurd rfl q⟩
theorem RS {s:ByteArray} {n:Int}:((eH s n).2=0->((eH s n).1.length:Int)=n)/\((eH s n).2≠0->(eH s n).1= []):=by
 unfold eH;split
 ·exact⟨fun q=>absurd q (by decide),fun _=>rfl⟩
 ·exact qCD _ _ _ (Nat.le_refl _) (by simp;omega)
theorem qL4 {s:ByteArray} {n:Int}:∀(m:Nat) (a:Int) (M:List Int),(n-M.length).toNat<=m->(M.length:Int)<=n->((dd s n a M).2=0->((dd s n a M).1.length:Int)=n)/\((dd s n a M).2≠0->(dd s n a M).1= [])
 |m,a,M,hm,hM=>by
  rw[dd];split
  ·rename_i h
   split
   ·rename_i h2
    have hk:=BP h;have hb:=(uS h2).1;obtain⟨m,rfl⟩:∃m',m=m'+1:=⟨m-1,by omega⟩
    exact qL4 m _ _ (by simp only[List.length_append,nA];omega) (by simp only[List.length_append,nA];omega)
   ·rename_i h2;exact⟨fun q=>absurd q h2,fun _=>rfl⟩
  ·split
   ·exact⟨fun q=>absurd q (by decide),fun _=>rfl⟩
   ·exact⟨fun _=>by show((M.length:Nat):Int)=n;omega,fun q=>absurd rfl q⟩
theorem HP {s:ByteArray} {n:Int}:((cA s n).2=0->((cA s n).1.length:Int)=n)/\((cA s n).2≠0->(cA s n).1= []):=by
 unfold cA;split
 ·exact⟨fun q=>absurd q (by decide),fun _=>rfl⟩
 ·split
  ·rename_i hn
   split
   ·exact⟨fun _=>by subst hn;rfl,fun q=>absurd rfl q⟩
   ·exact⟨fun q=>absurd q (by decide),fun _=>rfl⟩
  ·split
   ·rename_i h1;exact⟨fun q=>absurd q h1,fun _=>rfl⟩
   ·exact qL4 _ _ _ (Nat.le_refl _) (by simp only[List.length_cons,List.length_nil];omega)
theorem wY {s:ByteArray} {n:Int}:((cR s n).2=0->((cR s n).1.length:Int)=n)/\((cR s n).2≠0->(cR s n).1= []):=by
 unfold cR ZM ZN QF;split
 ·exact⟨fun q=>absurd q (by decide),fun _=>rfl⟩
 rename_i q1;split
 ·rename_i h;exact⟨fun q=>absurd q h,fun _=>rfl⟩
 split
 ·exact⟨fun q=>absurd q (by decide),fun _=>rfl⟩
 split
 ·rename_i h;exact⟨fun q=>absurd q h,fun _=>rfl⟩
 split
 ·rename_i h;exact⟨fun q=>absurd q h,fun _=>rfl⟩
 rename_i q5;split
 ·exact⟨fun q=>absurd q (by decide),fun _=>rfl⟩
 split
 ·exact⟨fun q=>absurd q (by decide),fun _=>rfl⟩
 ·have:=jE (Decidable.not_not.1 q5)
  refine⟨fun _=>?_,fun q=>absurd rfl q⟩;simp only[List.length_map];omega
theorem qDZ {t k:Int} {s:ByteArray} {n:Int} (h0:0<=n) (h:(gD t k s n).2=true):((gD t k s n).1.length:Int)=n:=by
 unfold gD at h ⊢;split at h
 ·rename_i h1
  rw[if_pos h1,qA8 _ _ _ h];simp;omega
 ·rename_i h1
  rw[if_neg h1];split at h
  ·rename_i h2
   rw[if_pos h2];have:=wY.1 (of_decide_eq_true h);simp only[List.length_map];exact this
  ·rename_i h2
   rw[if_neg h2];split at h
   ·rename_i h3
    rw[if_pos h3];have:=HP.1 (of_decide_eq_true h);simp only[List.length_map];exact this
   ·rename_i h3
    rw[if_neg h3];have:=RS.1 (of_decide_eq_true h);simp only[List.length_map];exact this
theorem OY (t k:Int) (s:ByteArray) (n:Int):(wF t k s n).2=(gD t k s n).2:=by
 unfold wF;split
 ·rename_i h;rw[gD,if_pos h]
 ·rfl
theorem qG1 {t k:Int} {s:ByteArray} {n:Int} (h0:0<=n) (h:(gD t k s n).2=true):(wF t k s n).1=(gD t k s n).1:=by
 have hl:=qDZ h0 h;unfold wF;split
 ·rename_i h1;rw[gD,if_pos h1]
 ·show tB n (gD t k s n).1=_
  unfold tB;rw[show(n-(gD t k s n).1.length).toNat=0 by omega];simp
def pkV (b:Bool) (R:List Val):Val:=if b=true then NV else R[0]!
def rsV (b:Bool) (R:List Val):List Val:=if b=true then R else R.drop 1
def asm (c:Col):List Bool->List Val->List Val->List Val×Bool
 | [],_,M=>(M,true)
 |b::r,R,M=>if bE c (pkV b R)≠0 then([],false)else asm c r (rsV b R) (M++ [pkV b R])
def lU:List Bool->Nat
 | []=>0
 |b::r=>(if b=true then 0 else 1)+lU r
def eS (s:ByteArray) (a n k:Int):List Bool×Bool×Int:=
 if k>0 then(if a+(n+7).tdiv 8>s.size\/(jL (s.extract a.toNat (a+(n+7).tdiv 8).toNat) n).2≠0\/qJ (s.extract a.toNat (a+(n+7).tdiv 8).toNat)≠k then([],false,0)
  else((jL (s.extract a.toNat (a+(n+7).tdiv 8).toNat) n).1,true,a+(n+7).tdiv 8))
 else(List.replicate n.toNat false,true,a)
def qQR (c:Col) (N:List Bool) (r:List Val×Bool):List Val×Bool:=if r.2=false then([],false)else asm c N r.1 []
def BC (c:Col) (s:ByteArray) (n k:Int) (x:List Bool×Bool×Int):List Val×Bool:=if x.2.1=false then([],false)else qQR c x.1 (gD c.2.1 (aG s (0:Int).toNat) (s.extract x.2.2.toNat s.size) (n-k))
def nU (c:Col) (s:ByteArray):List Val×Bool:=
 if cB c.2.1 (aG s (0:Int).toNat)=false\/(aA s 1).2.2≠0\/(aA s 1).1>4096 then([],false)
 else if(aA s (aA s 1).2.1).2.2≠0\/(aA s (aA s 1).2.1).1>(aA s 1).1 then([],false)
 else BC c s (aA s 1).1 (aA s (aA s 1).2.1).1 (eS s (aA s (aA s 1).2.1).2.1 (aA s 1).1 (aA s (aA s 1).2.1).1)
def jV (c:Col) (s:ByteArray):List Val×Int:=
 if bV c.2.1=false then([],1)else if gQ s≠0 then([],gQ s)else if(nU c (gV s)).2=false then([],2)else((nU c (gV s)).1,0)
theorem xU {c:Col} {N:List Bool} {R M:List Val} {i:Int} (h:0<=i/\i<N.length):asm c (N.drop i.toNat) R M=if bE c (pkV N[i.toNat]! R)≠0 then([],false)else asm c (N.drop (i+1).toNat) (rsV N[i.toNat]! R) (M++ [pkV N[i.toNat]! R]):=by
 rw[bN N i h];rfl
theorem qB3 {c:Col} {N:List Bool} {R M:List Val} {i:Int} (h:¬i<N.length) (h0:0<=i):asm c (N.drop i.toNat) R M=(M,true):=by
 rw[List.drop_eq_nil_of_le (by omega)];rfl
theorem MR {N:List Bool} {i:Int} (h:0<=i/\i<N.length):lU (N.drop i.toNat)=(if N[i.toNat]! =true then 0 else 1)+lU (N.drop (i+1).toNat):=by
 rw[bN N i h];rfl
theorem qLM (a b:List Bool):lU (a++b)=lU a+lU b:=by
 induction a with
 |nil=>simp [lU]
 |cons x a ih=>simp only[List.cons_append,lU,ih];omega
theorem qLN (n:Nat):lU (List.replicate n false)=n:=by
 induction n with
 |zero=>rfl
 |succ n ih=>rw[List.replicate_succ,lU,ih];simp;omega
theorem MQ (s:ByteArray):∀m:Nat,((lU (sQ s m):Nat):Int)+oQ s m=m
 |0=>rfl
 |m+1=>by
  have ih:=MQ s m;have e:=FQ s (k:=(m:Int)) (by omega);rw[show((m:Int)+1).toNat=m+1 by omega,show((m:Int)).toNat=m by omega]at e;rw[e,qLM,oQ];have hb:=xK s m;by_cases q:PQ s m=true
  ·have:=qVY q
   simp only[lU,q];simp;omega
  ·have:=qVX (by simpa using q:PQ s m=false)
   simp only[lU,q];simp;omega
theorem HL {s:ByteArray} {n:Nat}:∀d:Nat,(∀q:Nat,n<=q->q<n+d->sbit s q≠1)->oQ s (n+d)=oQ s n
 |0,_=>rfl
 |d+1,h=>by
  have h1:=h (n+d) (by omega) (by omega);have h2:=xK s (n+d);rw[show n+(d+1)=n+d+1 by omega,oQ,HL d (fun q g1 g2=>h q g1 (by omega))];omega
theorem qG0 {s:ByteArray} {n:Int} (h:(jL s n).2=0):0<=n/\n<=4096/\(jL s n).1=sQ s n.toNat/\((lU (jL s n).1:Nat):Int)+qJ s=n:=by
 unfold jL at h ⊢;split at h
 ·exact absurd h (by decide)
 ·rename_i h1
  rw[if_neg h1];split at h
  ·exact absurd h (by decide)
  ·rename_i h2
   rw[if_neg h2];split at h
   ·exact absurd h (by decide)
   ·rename_i h3
    rw[if_neg h3];split at h
    ·exact absurd h (by decide)
    ·rename_i h4
     rw[if_neg h4];refine⟨by omega,by omega,rfl,?_⟩;have hd:=lP (n:=n+7) (by omega);have e1:=MQ s n.toNat;have e2:=HL (s:=s) (n:=n.toNat) (8*s.size-n.toNat) (fun q g1 g2 g3=>h4 (WU g1 (by omega) g3));rw[show n.toNat+(8*s.size-n.toNat)=8*s.size by omega]at e2;show((lU (sQ s n.toNat):Nat):Int)+qJ s=n;unfold qJ;omega
theorem uC {s:ByteArray} {a n k:Int} (h:¬k>0):eS s a n k=(List.replicate n.toNat false,true,a):=by rw[eS,if_neg h]
theorem qDB {s:ByteArray} {a n k:Int} (h:k>0) (h1:a+(n+7).tdiv 8>s.size\/(jL (s.extract a.toNat (a+(n+7).tdiv 8).toNat) n).2≠0\/qJ (s.extract a.toNat (a+(n+7).tdiv 8).toNat)≠k):eS s a n k=([],false,0):=by rw[eS,if_pos h,if_pos h1]
theorem sU {s:ByteArray} {a n k:Int} (h:k>0) (h1:¬a+(n+7).tdiv 8>s.size) (h2:(jL (s.extract a.toNat (a+(n+7).tdiv 8).toNat) n).2=0) (h3:qJ (s.extract a.toNat (a+(n+7).tdiv 8).toNat)=k) :
  eS s a n k=((jL (s.extract a.toNat (a+(n+7).tdiv 8).toNat) n).1,true,a+(n+7).tdiv 8):=by
 rw[eS,if_pos h,if_neg (fun q=>by rcases q with q|q|q<;>contradiction)]
theorem qW2 {s:ByteArray} {a n k:Int} (hn:0<=n/\n<=4096) (ha:0<=a/\a<=s.size) (hk:0<=k/\k<=n) (h:(eS s a n k).2.1=true):((eS s a n k).1.length:Int)=n/\((lU (eS s a n k).1:Nat):Int)=n-k/\0<=(eS s a n k).2.2/\(eS s a n k).2.2<=s.size:=by
 by_cases h0:k>0
 ·by_cases h1:a+(n+7).tdiv 8>s.size\/(jL (s.extract a.toNat (a+(n+7).tdiv 8).toNat) n).2≠0\/qJ (s.extract a.toNat (a+(n+7).tdiv 8).toNat)≠k
  ·rw[qDB h0 h1]at h;cases h
  ·have g1:¬a+(n+7).tdiv 8>s.size:=fun q=>h1 (.inl q)
   have g2:(jL (s.extract a.toNat (a+(n+7).tdiv 8).toNat) n).2=0:=Decidable.not_not.1 fun q=>h1 (.inr (.inl q))
   have g3:qJ (s.extract a.toNat (a+(n+7).tdiv 8).toNat)=k:=Decidable.not_not.1 fun q=>h1 (.inr (.inr q))
   rw[sU h0 g1 g2 g3];obtain⟨_,_,e1,e2⟩:=qG0 g2;have hd:=lP (n:=n+7) (by omega);refine⟨?_,by show((lU (jL _ n).1:Nat):Int)=n-k;omega,by show 0<=a+(n+7).tdiv 8;omega,by show a+(n+7).tdiv 8<=s.size;omega⟩;show((jL _ n).1.length:Int)=n;rw[e1,BA];omega
 ·rw[uC h0]
  refine⟨by show((List.replicate n.toNat false).length:Int)=n;rw[List.length_replicate];omega,by show((lU (List.replicate n.toNat false):Nat):Int)=n-k;rw[qLN];omega,ha.1,ha.2⟩
theorem qLE {c:Col} {s:ByteArray} (h:cB c.2.1 (aG s (0:Int).toNat)=false\/(aA s 1).2.2≠0\/(aA s 1).1>4096):nU c s=([],false):=by rw[nU,if_pos h]
theorem qUD {c:Col} {s:ByteArray} (h:¬(cB c.2.1 (aG s (0:Int).toNat)=false\/(aA s 1).2.2≠0\/(aA s 1).1>4096)) (h2:(aA s (aA s 1).2.1).2.2≠0\/(aA s (aA s 1).2.1).1>(aA s 1).1):nU c s=([],false):=by rw[nU,if_neg h,if_pos h2]
theorem qYA {c:Col} {s:ByteArray} (h:¬(cB c.2.1 (aG s (0:Int).toNat)=false\/(aA s 1).2.2≠0\/(aA s 1).1>4096)) (h2:¬((aA s (aA s 1).2.1).2.2≠0\/(aA s (aA s 1).2.1).1>(aA s 1).1)) :
 nU c s=BC c s (aA s 1).1 (aA s (aA s 1).2.1).1 (eS s (aA s (aA s 1).2.1).2.1 (aA s 1).1 (aA s (aA s 1).2.1).1):=by rw[nU,if_neg h,if_neg h2]
theorem qQP {c:Col} {s:ByteArray} {n k:Int} {x:List Bool×Bool×Int} (h:x.2.1=false):BC c s n k x=([],false):=by rw[BC,if_pos h]
theorem qQQ {c:Col} {s:ByteArray} {n k A:Int} {N:List Bool} (h1:(gD c.2.1 (aG s (0:Int).toNat) (s.extract A.toNat s.size) (n-k)).2=false):BC c s n k (N,true,A)=([],false):=by
 rw[BC,if_neg (fun q=>Bool.noConfusion q),qQR,if_pos h1]
theorem xW {c:Col} {s:ByteArray} {n k A:Int} {N:List Bool} (h1:(gD c.2.1 (aG s (0:Int).toNat) (s.extract A.toNat s.size) (n-k)).2=true):BC c s n k (N,true,A)=asm c N (gD c.2.1 (aG s (0:Int).toNat) (s.extract A.toNat s.size) (n-k)).1 []:=by
 rw[BC,if_neg (fun q=>Bool.noConfusion q),qQR,if_neg (by rw[h1];decide)]
theorem qV4 {c:Col} {s:ByteArray} (h:bV c.2.1=false):jV c s=([],1):=by rw[jV,if_pos h]
theorem qV5 {c:Col} {s:ByteArray} (h:bV c.2.1=true) (h1:¬gQ s=0):jV c s=([],gQ s):=by rw[jV,if_neg (by rw[h];decide),if_pos h1]
theorem qV6 {c:Col} {s:ByteArray} (h:bV c.2.1=true) (h1:gQ s=0) (h2:(nU c (gV s)).2=false):jV c s=([],2):=by rw[jV,if_neg (by rw[h];decide),if_neg (fun q=>q h1),if_pos h2]
theorem ZO {c:Col} {s:ByteArray} (h:bV c.2.1=true) (h1:gQ s=0) (h2:(nU c (gV s)).2=true):jV c s=((nU c (gV s)).1,0):=by rw[jV,if_neg (by rw[h];decide),if_neg (fun q=>q h1),if_neg (by rw[h2];decide)]
theorem IS {n:Int} {l:List Val} (h:(l.length:Int)<=n):((tB n l).length:Int)=n:=by
 unfold tB;rw[List.length_append,List.length_replicate];omega
theorem VG (n:Int):tB n []=List.replicate n.toNat ZV:=by
 unfold tB;simp
theorem VF {n:Int} {l:List Val} {i:Int} (hi:i=(l.length:Int)) (h:i<n):(tB n l)[i.toNat]! =ZV:=by
 unfold tB;rw[List.getElem!_eq_getElem?_getD,List.getElem?_append_right (by omega),List.getElem?_replicate,if_pos (by omega)];rfl
theorem VH {n:Int} {l:List Val} {i:Int} (v:Val) (hi:i=(l.length:Int)) (h:i<n):(tB n l).set i.toNat v=tB n (l++ [v]):=by
 unfold tB;rw[List.set_append_right _ _ (by omega),show i.toNat-l.length=0 by omega];obtain⟨m,hm⟩:∃m,(n-l.length).toNat=m+1:=⟨(n-l.length).toNat-1,by omega⟩
 rw[hm,List.replicate_succ,List.set_cons_zero,List.append_assoc];have:(n-(l++ [v]).length).toNat=m:=by simp;omega
 rw[this];rfl
theorem qIW {W:List ByteArray} {i:Int} (h:0<=i/\i<W.length):(W.take (i+1).toNat).map sV=(W.take i.toNat).map sV++ [sV W[i.toNat]!]:=by
 rw[show(i+1).toNat=i.toNat+1 by omega,List.take_succ_eq_append_getElem (by omega),getElem!_pos W i.toNat (by omega),List.map_append];rfl
theorem pD {α:Type} {W:List α} {i:Int} (h:0<=i/\i<=W.length):((W.take i.toNat).length:Int)=i:=by
 rw[List.length_take];omega
theorem yU {s:ByteArray} {n:Int} (h:0<=n):((cR s n).1.length:Int)<=n:=by
 by_cases q:(cR s n).2=0
 ·have:=wY.1 q;omega
 ·rw[wY.2 q];simpa using h
theorem zY {s:ByteArray} {n:Int} (h:0<=n):((eH s n).1.length:Int)<=n:=by
 by_cases q:(eH s n).2=0
 ·have:=RS.1 q;omega
 ·rw[RS.2 q];simpa using h
theorem tN {s:ByteArray} {n:Int} (h:0<=n):((cA s n).1.length:Int)<=n:=by
 by_cases q:(cA s n).2=0
 ·have:=HP.1 q;omega
 ·rw[HP.2 q];simpa using h
theorem qUN {t k:Int} {s:ByteArray} {n:Int} (h:k=1):gD t k s n=jX t s n.toNat 0 []:=by rw[gD,if_pos h]
theorem qUO {t k:Int} {s:ByteArray} {n:Int} (h:k=3):gD t k s n=((cR s n).1.map sV,decide ((cR s n).2=0)):=by rw[gD,if_neg (by omega),if_pos h]
theorem qDY {t k:Int} {s:ByteArray} {n:Int} (h:k=4):gD t k s n=((cA s n).1.map nV,decide ((cA s n).2=0)):=by rw[gD,if_neg (by omega),if_neg (by omega),if_pos h]
theorem qDX {t k:Int} {s:ByteArray} {n:Int} (h1:¬k=1) (h3:¬k=3) (h4:¬k=4):gD t k s n=((eH s n).1.map nV,decide ((eH s n).2=0)):=by rw[gD,if_neg h1,if_neg h3,if_neg h4]
theorem qbQ {t k:Int} {s:ByteArray} {n:Int} (h:k=1):wF t k s n=jX t s n.toNat 0 []:=by rw[wF,if_pos h]
theorem YJ {t k:Int} {s:ByteArray} {n:Int} (h:¬k=1):wF t k s n=(tB n (gD t k s n).1,(gD t k s n).2):=by rw[wF,if_neg h]
def JY (t:Int):List Int:=if t=3 then[1,3]else[1,2,4]
theorem qLQ (t:Int):(JY t).length<=3:=by unfold JY;split<;>simp
theorem kQ (t k:Int):(JY t).any (fun x=>decide (x=k))=cB t k:=by
 unfold JY cB;split<;>simp [Bool.or_assoc,eq_comm]
theorem qHN {l:List Int} {i k:Int} (h:0<=i/\i<l.length):(l.take (i+1).toNat).any (fun x=>decide (x=k))=((l.take i.toNat).any (fun x=>decide (x=k))||decide (l[i.toNat]! =k)):=by
 rw[pC h];simp
theorem JN {t k:Int} (h:cB t k=true):1<=k/\k<=4:=by
 unfold cB at h;split at h<;>simp at h<;>omega
theorem oK {L:List Val} {i:Int} {v:Val} (h:0<=i/\i<L.length):(L.set i.toNat v).take (i+1).toNat=L.take i.toNat++ [v]:=by
 rw[show(i+1).toNat=i.toNat+1 by omega,AH _ _ _ (by omega)]
theorem qC {L:List Val} {i:Int} {v:Val} (h:0<=i/\i<L.length):(L.set i.toNat v)[i.toNat]! =v:=by
 rw[getElem!_pos _ _ (by rw[List.length_set];omega)];simp
theorem qJM {L:List Val} {i:Int} {v:Val} (h:0<=i) (hz:∀j:Nat,i<=j->L[j]! =ZV):∀j:Nat,i+1<=j->(L.set i.toNat v)[j]! =ZV:=fun j hj=>by
 have:=hz j (by omega);rw[List.getElem!_eq_getElem?_getD]at this ⊢;rw[List.getElem?_set_ne (by omega)];exact this
theorem qS7 (n:Nat):∀j:Nat,(0:Int)<=j->(List.replicate n ZV)[j]! =ZV:=fun j _=>by
 rw[List.getElem!_eq_getElem?_getD,List.getElem?_replicate];split<;>rfl
theorem qMH (s:ByteArray) (a b:Nat):(s.extract a b).size<=s.size:=by simp;omega
abbrev qPC:Ty:=.pair .str (.int .i64)
abbrev Rdr:Type:=ByteArray×Int
@[reducible] instance:Inhabited Rdr:=instInhabitedDen qPC
abbrev DG:Ct:=.fn [.int .i64,.str,.int .i64] (some (fun(t:Int) (s:ByteArray) (n:Int)=>(s.size<=288230376151711744)/\(0<=n/\n<=4096))) (fun(t:Int) (s:ByteArray) (n:Int)=>.tup [.list bS,.bool] ((jX t s n.toNat 0 []).1,(jX t s n.toNat 0 []).2,()))
theorem qJ6:aH Tryz.prog 188 DG:=by
 refine aH.fn qFU mixed [] [163] rfl rfl ?_;rintro⟨(t:Int),(s:ByteArray),(n:Int),_⟩ hpre;replace hpre:=hpre _ rfl;dsimp only[cu]at hpre;obtain⟨hs,hn⟩:=hpre;refine⟨[(0,8,LA.mk [.sl 23 (.int .i64),.ar 1 bS 43,.ob 0 qPC 194] (fun y=>Tag 42/\cu [.int .i64,.list bS,qPC] (fun(i:Int) (L:List Val) (r:Rdr)=>(0<=i/\i<=n)/\((L.length:Int)=n)/\(s=r.1)/\(0<=r.2/\r.2<=s.size)/\(∀j:Nat,i<=j->L[j]! =ZV)/\((jX t s n.toNat 0 [])=jX t s (n-(L.take i.toNat).length).toNat r.2 (L.take i.toNat))) y) (cu [.int .i64,.list bS,qPC] (fun(i:Int) (L:List Val) (r:Rdr)=>(n-i).toNat)) (cu [.int .i64,.list bS,qPC] (fun(i:Int) (L:List Val) (r:Rdr)=>([]:List (Nat×Nat×LA)))))],?_⟩;repeat' (first
  |(
 with_reducible refine Side.mk ⟨(⟨⟩:Tag 42),?_⟩
 dsimp only[cu,aC,aB,gts,eE,eN]
 refine⟨?_,?_,?_,?_,?_,?_⟩
 ·omega
 ·first
  |rw[List.length_replicate];omega
  |rw[List.length_set];omega
 ·rfl
 ·first
  |omega
  |(
  have hg:=bB s a
  have h1:(aA s a).2.2=0:=by with_reducible assumption
  have hok:=bR h1
  omega)
 ·first
  |exact qS7 _
  |exact qJM (by omega) hz
 ·first
  |simp;done
  |(
  have hg:=bB s a
  have h1:(aA s a).2.2=0:=by with_reducible assumption
  have hok:=bR h1
  first
  |(
   have ht:¬t=3:=by with_reducible assumption
   have hml:((L.take i.toNat).length:Int)=i:=pD (by omega);have hz0:=hz i.toNat (by omega);rw[hM,qXF (by omega) h1 ht];rw[oK (by omega)];rw[hz0];rfl)
  |(
   have hus:=aY (n:=(s.size:Int)) (by omega);have ht:t=3:=by with_reducible assumption
   have hml:((L.take i.toNat).length:Int)=i:=pD (by omega);have hz0:=hz i.toNat (by omega);have h2:¬(aA s a).1>s.size-(aA s a).2.1:=by omega
   rw[hM,qXG (by omega) h1 ht h2];rw[oK (by omega)];rw[hz0];rfl)))
  |(
 with_reducible apply Side.mk
 (try dsimp only[cu,aC,aB,gts,loK,hiK,eE,eN])
 first
 |omega
 |(
  have hg:=bB s a;have h1:(aA s a).2.2=0:=by with_reducible assumption
  have hok:=bR h1;first
  |omega
  |(
   have hus:=aY (n:=(s.size:Int)) (by omega);omega)))
  |(conv=>whnf
    first
     |with_reducible first|done|exact trivial|refine NilBr.mk (fun h=>?_) ?_|apply aJ|apply aI|refine aK (by kernel_rfl) ?_|apply aL|apply bG|apply bF|apply aR
     |((with_reducible first|apply aT|apply aS|apply bD)<;>intro h<;>(try dsimp only[cu,eE,eN]at h)<;>(try(exfalso;omega)))
     |(
 intro yy (hy:Tag 42/\_)
 obtain⟨(i:Int),(L:List Val),(r:Rdr),_⟩:=yy
 replace hy:=hy.2
 dsimp only[cu,aC,aB,gts,eE,eN]at hy
 obtain⟨hi,hl,hr,ha,hz,hM⟩:=hy
 obtain⟨r1,a⟩:=r
 dsimp only at hr ha hM
 subst hr)))
 all_goals(
 with_reducible apply Leaf.mk
 (try dsimp only[cu,aC,aB,gts,eE,eN]at *)
 first
 |(
  have hml:((L.take i.toNat).length:Int)=i:=pD (by omega);first
  |(
   have h1:¬(aA s a).2.2=0:=by with_reducible assumption
   rw[hM,qXE (by omega) h1])
  |(
   have hg:=bB s a;have h1:(aA s a).2.2=0:=by with_reducible assumption
   have hok:=bR h1;have hus:=aY (n:=(s.size:Int)) (by omega);have ht:t=3:=by with_reducible assumption
   have h2:(aA s a).1>s.size-(aA s a).2.1:=by omega
   rw[hM,qN7 (by omega) h1 ht h2])
  |(rw[hM,qXD (by omega),List.take_of_length_le (by omega)])))
abbrev qaL:Tbl:=(188,DG)::qaK
theorem qFV:aD Tryz.prog qaL:=aD.cons qJ6 qFU
theorem sH {α β:Type} {W:List α} {f:α->β} {i:Int} (h:0<=i/\i<=W.length):i=(((W.take i.toNat).map f).length:Int):=by
 rw[List.length_map,List.length_take];omega
theorem qC8 {W:List Int} {j:Int} (h:0<=j) (h1:j<W.length):(W.map nV)[j.toNat]! =nV W[j.toNat]!:=by
 rw[getElem!_pos _ _ (by rw[List.length_map];omega),getElem!_pos _ _ (by omega),List.getElem_map]
theorem uI {t k:Int} {s:ByteArray} {n:Int} (h:k=4):(gD t k s n).1.length=(cA s n).1.length/\∀j:Int,0<=j->j<(cA s n).1.length->(gD t k s n).1[j.toNat]! =nV (cA s n).1[j.toNat]!:=by
 rw[qDY h];exact⟨by simp,fun j h0 h1=>qC8 h0 h1⟩
theorem uH {t k:Int} {s:ByteArray} {n:Int} (h1:¬k=1) (h3:¬k=3) (h4:¬k=4):(gD t k s n).1.length=(eH s n).1.length/\∀j:Int,0<=j->j<(eH s n).1.length->(gD t k s n).1[j.toNat]! =nV (eH s n).1[j.toNat]!:=by
 rw[qDX h1 h3 h4];exact⟨by simp,fun j h0 h1=>qC8 h0 h1⟩
theorem qNZ {n i:Int} {R:List Val} (h:0<=i/\i<R.length) (h2:(R.length:Int)<=n):(tB n (R.take i.toNat))[i.toNat]! =ZV:=VF (by rw[pD (by omega)]) (by omega)
theorem VI {n i:Int} {R:List Val} (h:0<=i/\i<R.length) (h2:(R.length:Int)<=n):(tB n (R.take i.toNat)).set i.toNat R[i.toNat]! =tB n (R.take (i+1).toNat):=by
 rw[rJ (by omega),VH _ (by rw[pD (by omega)]) (by omega)]
abbrev yP:Ct:=.fn [rI,.int .i64,.str,.int .i64] (some (fun(c:Col) (k:Int) (s:ByteArray) (n:Int)=>(s.size<=288230376151711744)/\(0<=n/\n<=4096)/\(1<=k/\k<=4))) (fun(c:Col) (k:Int) (s:ByteArray) (n:Int)=>.tup [.list bS,.bool] ((wF c.2.1 k s n).1,(wF c.2.1 k s n).2,()))
theorem qBO:aH Tryz.prog 166 yP:=by
 refine aH.fn qFV mixed [] [] rfl rfl ?_;rintro⟨(c:Col),(k:Int),(s:ByteArray),(n:Int),_⟩ hpre;replace hpre:=hpre _ rfl;dsimp only[cu]at hpre;obtain⟨hs,hn,hk⟩:=hpre;obtain⟨c0,t,c2,c3⟩:=c;show _;refine⟨[(0,20,LA.mk [.sl 41 (.int .i64),.ar 1 bS 43] (fun y=>Tag 43/\cu [.int .i64,.list bS] (fun(i:Int) (L:List Val)=>(0<=i/\i<=(cR s n).1.length)/\(L=tB n (((cR s n).1.take i.toNat).map sV))) y) (cu [.int .i64,.list bS] (fun(i:Int) (L:List Val)=>(((cR s n).1.length:Int)-i).toNat)) (cu [.int .i64,.list bS] (fun(i:Int) (L:List Val)=>([]:List (Nat×Nat×LA))))),(0,40,LA.mk [.sl 73 (.int .i64),.ar 1 bS 43] (fun y=>Tag 44/\cu [.int .i64,.list bS] (fun(i:Int) (L:List Val)=>(0<=i/\i<=(gD t k s n).1.length)/\(L=tB n ((gD t k s n).1.take i.toNat))) y) (cu [.int .i64,.list bS] (fun(i:Int) (L:List Val)=>(((gD t k s n).1.length:Int)-i).toNat)) (cu [.int .i64,.list bS] (fun(i:Int) (L:List Val)=>([]:List (Nat×Nat×LA)))))],?_⟩;repeat' (first
  |(
 with_reducible refine Side.mk ⟨(⟨⟩:Tag 43),?_⟩
 dsimp only[cu,aC,aB,gts,eE,eN]
 refine⟨?_,?_⟩
 ·omega
 ·first
  |exact(VG n).symm
  |(
  have hdl:=yU (s:=s) (n:=n) hn.1
  have hrl:=zY (s:=s) (n:=n) hn.1
  have hdd:=tN (s:=s) (n:=n) hn.1
  rw[qIW (by omega),<-VH _ (sH (by omega)) (by omega),<-hL]
  have hz:=VF (n:=n) (l:=((cR s n).1.take i.toNat).map sV) (i:=i) (sH (by omega)) (by omega)
  rw[<-hL]at hz
  rw[hz]
  rfl))
  |(
 with_reducible refine Side.mk ⟨(⟨⟩:Tag 44),?_⟩
 dsimp only[cu,aC,aB,gts,eE,eN]
 refine⟨?_,?_⟩
 ·first
  |(
  have hdl:=yU (s:=s) (n:=n) hn.1
  have hrl:=zY (s:=s) (n:=n) hn.1
  have hdd:=tN (s:=s) (n:=n) hn.1
  first
  |(
   have k4:k=4:=by omega
   obtain⟨el,ev⟩:=uI (t:=t) (s:=s) (n:=n) (k:=k) k4;omega)
  |(
   have k4:¬k=4:=by omega
   have k1:¬k=1:=by omega
   have k3:¬k=3:=by omega
   obtain⟨el,ev⟩:=uH (t:=t) (s:=s) (n:=n) (k:=k) k1 k3 k4;omega))
 ·first
  |exact(VG n).symm
  |(
  have hdl:=yU (s:=s) (n:=n) hn.1
  have hrl:=zY (s:=s) (n:=n) hn.1
  have hdd:=tN (s:=s) (n:=n) hn.1
  first
  |(
   have k4:k=4:=by omega
   obtain⟨el,ev⟩:=uI (t:=t) (s:=s) (n:=n) (k:=k) k4;rw[hL,<-VI (by omega) (by omega),qNZ (by omega) (by omega),ev i (by omega) (by omega)];rfl)
  |(
   have k4:¬k=4:=by omega
   have k1:¬k=1:=by omega
   have k3:¬k=3:=by omega
   obtain⟨el,ev⟩:=uH (t:=t) (s:=s) (n:=n) (k:=k) k1 k3 k4;rw[hL,<-VI (by omega) (by omega),qNZ (by omega) (by omega),ev i (by omega) (by omega)];rfl)))
  |(
 with_reducible apply Side.mk
 (try dsimp only[cu,aC,aB,gts,loK,hiK,eE,eN])
 first
 |omega
 |(
  have hdl:=yU (s:=s) (n:=n) hn.1;have hrl:=zY (s:=s) (n:=n) hn.1;have hdd:=tN (s:=s) (n:=n) hn.1;first
  |omega
  |(
   have hpl:=congrArg List.length hL;have hpv:=IS (n:=n) (l:=((cR s n).1.take i.toNat).map sV) (by rw[<-sH (by omega)];omega);omega)
  |(
   have k4:k=4:=by omega
   obtain⟨el,ev⟩:=uI (t:=t) (s:=s) (n:=n) (k:=k) k4;omega)
  |(
   have k4:¬k=4:=by omega
   have k1:¬k=1:=by omega
   have k3:¬k=3:=by omega
   obtain⟨el,ev⟩:=uH (t:=t) (s:=s) (n:=n) (k:=k) k1 k3 k4;omega)
  |(
   have k4:k=4:=by omega
   obtain⟨el,ev⟩:=uI (t:=t) (s:=s) (n:=n) (k:=k) k4;have hpl:=congrArg List.length hL;have hpv:=IS (n:=n) (l:=(gD t k s n).1.take i.toNat) (by rw[pD (by omega)];omega);omega)
  |(
   have k4:¬k=4:=by omega
   have k1:¬k=1:=by omega
   have k3:¬k=3:=by omega
   obtain⟨el,ev⟩:=uH (t:=t) (s:=s) (n:=n) (k:=k) k1 k3 k4;have hpl:=congrArg List.length hL;have hpv:=IS (n:=n) (l:=(gD t k s n).1.take i.toNat) (by rw[pD (by omega)];omega);omega)))
  |(conv=>whnf
    first
     |with_reducible first|done|exact trivial|refine NilBr.mk (fun h=>?_) ?_|apply aJ|apply aI|refine aK (by kernel_rfl) ?_|apply aL|apply bG|apply bF|apply aR
     |((with_reducible first|apply aT|apply aS|apply bD)<;>intro h<;>(try dsimp only[cu,eE,eN]at h)<;>(try(exfalso;omega)))
     |(
 intro yy (hy:Tag 43/\_)
 obtain⟨(i:Int),(L:List Val),_⟩:=yy
 replace hy:=hy.2
 dsimp only[cu,aC,aB,gts,eE,eN]at hy
 obtain⟨hi,hL⟩:=hy)
     |(
 intro yy (hy:Tag 44/\_)
 obtain⟨(i:Int),(L:List Val),_⟩:=yy
 replace hy:=hy.2
 dsimp only[cu,aC,aB,gts,eE,eN]at hy
 obtain⟨hi,hL⟩:=hy)))
 all_goals(
 with_reducible apply Leaf.mk
 (try dsimp only[cu,aC,aB,gts,eE,eN]at *)
 first
 |rw[qbQ (by omega)]
 |(
  have j3:k=3:=by omega
  have e:=qUO (t:=t) (s:=s) (n:=n) (k:=k) j3;rw[YJ (by omega),e];first
  |done
  |(rw[hL,List.take_of_length_le (by omega)]))
 |(
  have j4:k=4:=by omega
  have e:=qDY (t:=t) (s:=s) (n:=n) (k:=k) j4;rw[YJ (by omega),e];done)
 |(
  have j4:¬k=4:=by omega
  have j1:¬k=1:=by omega
  have j3:¬k=3:=by omega
  have e:=qDX (t:=t) (s:=s) (n:=n) (k:=k) j1 j3 j4;rw[YJ (by omega),e];done)
 |(
  have hdl:=yU (s:=s) (n:=n) hn.1;have hrl:=zY (s:=s) (n:=n) hn.1;have hdd:=tN (s:=s) (n:=n) hn.1;first
  |(
   have k4:k=4:=by omega
   obtain⟨el,ev⟩:=uI (t:=t) (s:=s) (n:=n) (k:=k) k4;have j4:k=4:=by omega
   have e:=qDY (t:=t) (s:=s) (n:=n) (k:=k) j4;rw[YJ (by omega),hL,List.take_of_length_le (by omega)])
  |(
   have k4:¬k=4:=by omega
   have k1:¬k=1:=by omega
   have k3:¬k=3:=by omega
   obtain⟨el,ev⟩:=uH (t:=t) (s:=s) (n:=n) (k:=k) k1 k3 k4;have j4:¬k=4:=by omega
   have j1:¬k=1:=by omega
   have j3:¬k=3:=by omega
   have e:=qDX (t:=t) (s:=s) (n:=n) (k:=k) j1 j3 j4;rw[YJ (by omega),hL,List.take_of_length_le (by omega)])))
abbrev qaM:Tbl:=(166,yP)::qaL
theorem qFW:aD Tryz.prog qaM:=aD.cons qBO qFV
theorem oo0 (s:ByteArray):(0<=(aA s 1).1/\(aA s 1).1<18446744073709551616)/\IntKind.u64.wrap 4096=4096/\0<=aG s (0:Int).toNat/\aG s (0:Int).toNat<256:=
 ⟨bB s 1,aY (n:=4096) (by decide),cI s _⟩
theorem oo2 (s:ByteArray) (h:0<=(aA s 1).1/\(aA s 1).1<=4096):(0<=(aA s (aA s 1).2.1).1/\(aA s (aA s 1).2.1).1<18446744073709551616)/\IntKind.u64.wrap (aA s 1).1=(aA s 1).1/\((aA s 1).1+7).tdiv 8=((aA s 1).1+7)/8:=
 ⟨bB s _,aY (by omega),lP (by omega)⟩
theorem qNR {b:Bool} (h:(!b)=true):b=false:=by cases b<;>simp_all
theorem SN {c:Col} {N:List Bool} {R M:List Val} {i:Int} (h:0<=i/\i<N.length) (hb:N[i.toNat]! =true) (hv:bE c NV=0):asm c (N.drop i.toNat) R M=asm c (N.drop (i+1).toNat) R (M++ [NV]):=by
 have e1:pkV true R=NV:=rfl;have e2:rsV true R=R:=rfl;rw[xU h,hb,e1,e2,if_neg (fun q=>q hv)]
theorem KM {c:Col} {N:List Bool} {R M:List Val} {i:Int} (h:0<=i/\i<N.length) (hb:N[i.toNat]! =true) (hv:¬bE c NV=0):asm c (N.drop i.toNat) R M=([],false):=by
 have e1:pkV true R=NV:=rfl;rw[xU h,hb,e1,if_pos hv]
theorem qB4 {c:Col} {N:List Bool} {R M:List Val} {i:Int} (h:0<=i/\i<N.length) (hb:N[i.toNat]! =false) (hv:bE c R[(0:Int).toNat]! =0):asm c (N.drop i.toNat) R M=asm c (N.drop (i+1).toNat) (R.drop 1) (M++ [R[(0:Int).toNat]!]):=by
 have e1:pkV false R=R[(0:Int).toNat]!:=rfl;have e2:rsV false R=R.drop 1:=rfl;rw[xU h,hb,e1,e2,if_neg (fun q=>q hv)]
theorem SO {c:Col} {N:List Bool} {R M:List Val} {i:Int} (h:0<=i/\i<N.length) (hb:N[i.toNat]! =false) (hv:¬bE c R[(0:Int).toNat]! =0):asm c (N.drop i.toNat) R M=([],false):=by
 have e1:pkV false R=R[(0:Int).toNat]!:=rfl;rw[xU h,hb,e1,if_pos hv]
theorem qLO {N:List Bool} {i:Int} (h:0<=i/\i<N.length) (hb:N[i.toNat]! =true):lU (N.drop i.toNat)=lU (N.drop (i+1).toNat):=by rw[MR h,hb];simp
theorem PZ {N:List Bool} {i:Int} (h:0<=i/\i<N.length) (hb:N[i.toNat]! =false):lU (N.drop i.toNat)=1+lU (N.drop (i+1).toNat):=by rw[MR h,hb];simp
theorem xX {c:Col} {s:ByteArray} (h:cB c.2.1 (aG s (0:Int).toNat)=true) (h1:(aA s 1).2.2=0) (hn:(aA s 1).1<=4096) (h2:(aA s (aA s 1).2.1).2.2=0) (hk:(aA s (aA s 1).2.1).1<=(aA s 1).1) :
  nU c s=BC c s (aA s 1).1 (aA s (aA s 1).2.1).1 (eS s (aA s (aA s 1).2.1).2.1 (aA s 1).1 (aA s (aA s 1).2.1).1):=
 qYA (fun q=>by rcases q with q|q|q<;>simp_all<;>omega) (fun q=>by rcases q with q|q<;>simp_all<;>omega)
theorem iK {c:Col} {s:ByteArray} {N:List Bool} {A:Int} (h:cB c.2.1 (aG s (0:Int).toNat)=true) (h1:(aA s 1).2.2=0) (hn:(aA s 1).1<=4096) (h2:(aA s (aA s 1).2.1).2.2=0) (hk:(aA s (aA s 1).2.1).1<=(aA s 1).1)
  (eN:eS s (aA s (aA s 1).2.1).2.1 (aA s 1).1 (aA s (aA s 1).2.1).1=(N,true,A)):(N.length:Int)=(aA s 1).1/\0<=A/\A<=s.size /\
  ((gD c.2.1 (aG s (0:Int).toNat) (s.extract A.toNat s.size) ((aA s 1).1-(aA s (aA s 1).2.1).1)).2=true->nU c s=asm c N (gD c.2.1 (aG s (0:Int).toNat) (s.extract A.toNat s.size) ((aA s 1).1-(aA s (aA s 1).2.1).1)).1 [] /\
    (((gD c.2.1 (aG s (0:Int).toNat) (s.extract A.toNat s.size) ((aA s 1).1-(aA s (aA s 1).2.1).1)).1.length:Nat):Int)=((lU N:Nat):Int)) /\
  ((gD c.2.1 (aG s (0:Int).toNat) (s.extract A.toNat s.size) ((aA s 1).1-(aA s (aA s 1).2.1).1)).2=false->nU c s=([],false)):=by
 have g1:=bB s 1;have g2:=bB s (aA s 1).2.1;have o1:=bR h1;have o2:=bR h2;have hno:=qW2 (s:=s) (a:=(aA s (aA s 1).2.1).2.1) (n:=(aA s 1).1) (k:=(aA s (aA s 1).2.1).1) (by omega) (by omega) (by omega) (by rw[eN]);rw[eN]at hno;obtain⟨m1,m2,m3,m4⟩:=hno;dsimp only at m1 m2 m3 m4;have hp:=xX h h1 hn h2 hk;rw[eN]at hp;have hn0:0<=(aA s 1).1-(aA s (aA s 1).2.1).1:=by omega
 refine⟨m1,m3,m4,fun hr=>⟨hp.trans (xW hr),?_⟩,fun hr=>hp.trans (qQQ hr)⟩;rw[qDZ hn0 hr,m2]
theorem PR {c:Col} {s:ByteArray} (h:cB c.2.1 (aG s (0:Int).toNat)=true) (h1:(aA s 1).2.2=0) (hn:(aA s 1).1<=4096) (h2:(aA s (aA s 1).2.1).2.2=0) (hk:(aA s (aA s 1).2.1).1<=(aA s 1).1)
  (eN:eS s (aA s (aA s 1).2.1).2.1 (aA s 1).1 (aA s (aA s 1).2.1).1=([],false,0)):nU c s=([],false):=by
 rw[xX h h1 hn h2 hk,eN,qQP rfl]
abbrev CP:Ct:=.fn [.int .i64] (none) (fun(t:Int)=>.d (.list (.int .i64)) (JY t))
theorem qH3:aH Tryz.prog 110 CP:=by
 refine aH.fn qFW mixed [] [] rfl rfl ?_;rintro⟨(t:Int),_⟩ -;refine⟨[],?_⟩;repeat' (first
  |(
 with_reducible apply Side.mk
 (try dsimp only[cu,aC,aB,gts,loK,hiK,eE,eN])
 exact Eq.refl _)
  |(conv=>whnf
    first
     |with_reducible first|done|exact trivial|refine NilBr.mk (fun h=>?_) ?_|apply aJ|apply aI|refine aK (by kernel_rfl) ?_|apply aL|apply bG|apply bF|apply aR
     |((with_reducible first|apply aT|apply aS|apply bD)<;>intro h<;>(try dsimp only[cu,eE,eN]at h)<;>(try(exfalso;omega)))))
 all_goals(
 with_reducible apply Leaf.mk
 (try dsimp only[cu,aC,aB,gts,eE,eN]at *)
 first
 |(
  have ht:t=3:=by with_reducible assumption
  rw[JY,if_pos ht])
 |(
  have ht:¬t=3:=by with_reducible assumption
  rw[JY,if_neg ht]))
abbrev qaN:Tbl:=(110,CP)::qaM
theorem qFX:aD Tryz.prog qaN:=aD.cons qH3 qFW
abbrev yA:Ct:=.fn [rI,.str] (some (fun(c:Col) (s:ByteArray)=>(s.size<=288230376151711744)/\(1<=s.size))) (fun(c:Col) (s:ByteArray)=>.tup [.list bS,.bool] ((nU c s).1,(nU c s).2,()))
theorem ZP:aH Tryz.prog 134 yA:=by
 refine aH.fn qFX mixed [] [163] rfl rfl ?_;rintro⟨(c:Col),(s:ByteArray),_⟩ hpre;replace hpre:=hpre _ rfl;dsimp only[cu]at hpre;obtain⟨hs,h1⟩:=hpre;refine⟨[(0,8,LA.mk [.sl 28 (.int .i64),.sl 7 .bool] (fun y=>Tag 45/\cu [.int .i64,.bool] (fun(j:Int) (w:Bool)=>(0<=j/\j<=(JY c.2.1).length)/\(w=((JY c.2.1).take j.toNat).any (fun x=>decide (x=aG s (0:Int).toNat)))) y) (cu [.int .i64,.bool] (fun(j:Int) (w:Bool)=>(((JY c.2.1).length:Int)-j).toNat)) (cu [.int .i64,.bool] (fun(j:Int) (w:Bool)=>([]:List (Nat×Nat×LA))))),(0,60,LA.mk [.sl 128 (.int .i64),.ar 3 bS 43,.sl 17 (.list bS)] (fun y=>Tag 46/\cu [.int .i64,.list bS,.list bS] (fun(i:Int) (L:List Val) (R:List Val)=>(0<=i/\i<=(aA s 1).1)/\((L.length:Int)=(aA s 1).1)/\(nU c s=asm c ((eS s (aA s (aA s 1).2.1).2.1 (aA s 1).1 (aA s (aA s 1).2.1).1).1.drop i.toNat) R (L.take i.toNat))/\(((R.length:Nat):Int)=((lU ((eS s (aA s (aA s 1).2.1).2.1 (aA s 1).1 (aA s (aA s 1).2.1).1).1.drop i.toNat):Nat):Int))) y) (cu [.int .i64,.list bS,.list bS] (fun(i:Int) (L:List Val) (R:List Val)=>((aA s 1).1-i).toNat)) (cu [.int .i64,.list bS,.list bS] (fun(i:Int) (L:List Val) (R:List Val)=>([]:List (Nat×Nat×LA)))))],?_⟩;repeat' (first
  |(
 with_reducible refine Side.mk ⟨(⟨⟩:Tag 45),?_⟩
 dsimp only[cu,aC,aB,gts,eE,eN]
 refine⟨?_,?_⟩
 ·omega
 ·first
  |rfl
  |(
  rw[qHN (by omega),<-hw]
  first|rfl|(simp_all;done)))
  |(
 with_reducible refine Side.mk ⟨(⟨⟩:Tag 46),?_⟩
 dsimp only[cu,aC,aB,gts,eE,eN]
 refine⟨?_,?_,?_,?_⟩
 ·first
  |(
  have o0:=oo0 s
  have e1:(aA s 1).2.2=0:=by with_reducible assumption
  have o1:=bR e1
  have o2:=oo2 s (by omega)
  have e2:(aA s (aA s 1).2.1).2.2=0:=by with_reducible assumption
  have o3:=bR e2
  first
  |omega
  |(
   have hus0:cB c.2.1 (aG s (0:Int).toNat)=w:=by rw[<-kQ,hw,List.take_of_length_le (by omega)]
   have hus:cB c.2.1 (aG s (0:Int).toNat)=true:=by rw[hus0];first|with_reducible assumption|exact xH (by with_reducible assumption)
   have kn:(aA s (aA s 1).2.1).1>0:=by omega
   have ke:¬((aA s (aA s 1).2.1).2.1+((aA s 1).1+7).tdiv 8)>s.size:=by omega
   have ku:(jL (s.extract (aA s (aA s 1).2.1).2.1.toNat ((aA s (aA s 1).2.1).2.1+((aA s 1).1+7).tdiv 8).toNat) (aA s 1).1).2=0:=by with_reducible assumption
   have kc:qJ (s.extract (aA s (aA s 1).2.1).2.1.toNat ((aA s (aA s 1).2.1).2.1+((aA s 1).1+7).tdiv 8).toNat)=(aA s (aA s 1).2.1).1:=by first|with_reducible assumption|omega
   have eN:=sU (s:=s) (a:=(aA s (aA s 1).2.1).2.1) (n:=(aA s 1).1) (k:=(aA s (aA s 1).2.1).1) kn ke ku kc;have j4:(aA s 1).1<=4096:=by omega
   have jk:(aA s (aA s 1).2.1).1<=(aA s 1).1:=by omega
   obtain⟨m1,m3,m4,m5,m6⟩:=iK hus e1 j4 e2 jk eN;omega))
 ·first
  |(
  have o0:=oo0 s
  have e1:(aA s 1).2.2=0:=by with_reducible assumption
  have o1:=bR e1
  have o2:=oo2 s (by omega)
  have e2:(aA s (aA s 1).2.1).2.2=0:=by with_reducible assumption
  have o3:=bR e2
  rw[List.length_replicate];omega)
  |rw[List.length_set];omega
 ·first
  |(
  have o0:=oo0 s
  have e1:(aA s 1).2.2=0:=by with_reducible assumption
  have o1:=bR e1
  have o2:=oo2 s (by omega)
  have e2:(aA s (aA s 1).2.1).2.2=0:=by with_reducible assumption
  have o3:=bR e2
  have hus0:cB c.2.1 (aG s (0:Int).toNat)=w:=by rw[<-kQ,hw,List.take_of_length_le (by omega)]
  have hus:cB c.2.1 (aG s (0:Int).toNat)=true:=by rw[hus0];first|with_reducible assumption|exact xH (by with_reducible assumption)
  first
  |(
   have kn:¬(aA s (aA s 1).2.1).1>0:=by omega
   have eN:=uC (s:=s) (a:=(aA s (aA s 1).2.1).2.1) (n:=(aA s 1).1) (k:=(aA s (aA s 1).2.1).1) kn;have j4:(aA s 1).1<=4096:=by omega
   have jk:(aA s (aA s 1).2.1).1<=(aA s 1).1:=by omega
   obtain⟨m1,m3,m4,m5,m6⟩:=iK hus e1 j4 e2 jk eN;have hy:(wF c.2.1 (aG s (0:Int).toNat) (s.extract (aA s (aA s 1).2.1).2.1.toNat s.size) ((aA s 1).1-(aA s (aA s 1).2.1).1)).2=true:=by first|with_reducible assumption|exact xH (by with_reducible assumption)
   rw[OY]at hy;have y1:=qG1 (by omega) hy;obtain⟨m7,m8⟩:=m5 hy;rw[m7,y1,eN];rfl)
  |(
   have kn:(aA s (aA s 1).2.1).1>0:=by omega
   have ke:¬((aA s (aA s 1).2.1).2.1+((aA s 1).1+7).tdiv 8)>s.size:=by omega
   have ku:(jL (s.extract (aA s (aA s 1).2.1).2.1.toNat ((aA s (aA s 1).2.1).2.1+((aA s 1).1+7).tdiv 8).toNat) (aA s 1).1).2=0:=by with_reducible assumption
   have kc:qJ (s.extract (aA s (aA s 1).2.1).2.1.toNat ((aA s (aA s 1).2.1).2.1+((aA s 1).1+7).tdiv 8).toNat)=(aA s (aA s 1).2.1).1:=by first|with_reducible assumption|omega
   have eN:=sU (s:=s) (a:=(aA s (aA s 1).2.1).2.1) (n:=(aA s 1).1) (k:=(aA s (aA s 1).2.1).1) kn ke ku kc;have j4:(aA s 1).1<=4096:=by omega
   have jk:(aA s (aA s 1).2.1).1<=(aA s 1).1:=by omega
   obtain⟨m1,m3,m4,m5,m6⟩:=iK hus e1 j4 e2 jk eN;have hy:(wF c.2.1 (aG s (0:Int).toNat) (s.extract ((aA s (aA s 1).2.1).2.1+((aA s 1).1+7).tdiv 8).toNat s.size) ((aA s 1).1-(aA s (aA s 1).2.1).1)).2=true:=by first|with_reducible assumption|exact xH (by with_reducible assumption)
   rw[OY]at hy;have y1:=qG1 (by omega) hy;obtain⟨m7,m8⟩:=m5 hy;rw[m7,y1,eN];rfl)
  |(
   have kn:¬(aA s (aA s 1).2.1).1>0:=by omega
   have eN:=uC (s:=s) (a:=(aA s (aA s 1).2.1).2.1) (n:=(aA s 1).1) (k:=(aA s (aA s 1).2.1).1) kn;have j4:(aA s 1).1<=4096:=by omega
   have jk:(aA s (aA s 1).2.1).1<=(aA s 1).1:=by omega
   obtain⟨m1,m3,m4,m5,m6⟩:=iK hus e1 j4 e2 jk eN;have hml:((eS s (aA s (aA s 1).2.1).2.1 (aA s 1).1 (aA s (aA s 1).2.1).1).1.length:Int)=(aA s 1).1:=by rw[eN];exact m1
   first
   |(
    have hb:(eS s (aA s (aA s 1).2.1).2.1 (aA s 1).1 (aA s (aA s 1).2.1).1).1[i.toNat]! =true:=by rw[eN];first|with_reducible assumption|(simp_all;done)
    have hll:i<L.length:=by omega
    have hsa:=qC (L:=L) (i:=i) (v:=NV) (by omega);have hv:bE c NV=0:=by rw[<-hsa];with_reducible assumption
    rw[hgo,SN (by omega) hb hv,oK (by omega)])
   |(
    have hb:(eS s (aA s (aA s 1).2.1).2.1 (aA s 1).1 (aA s (aA s 1).2.1).1).1[i.toNat]! =false:=by rw[eN];first|with_reducible assumption|(simp_all;done)
    have hll:i<L.length:=by omega
    have hsa:=qC (L:=L) (i:=i) (v:=R[(0:Int).toNat]!) (by omega);have hv:bE c R[(0:Int).toNat]! =0:=by rw[<-hsa];with_reducible assumption
    rw[hgo,qB4 (by omega) hb hv,oK (by omega)];rfl))
  |(
   have kn:(aA s (aA s 1).2.1).1>0:=by omega
   have ke:¬((aA s (aA s 1).2.1).2.1+((aA s 1).1+7).tdiv 8)>s.size:=by omega
   have ku:(jL (s.extract (aA s (aA s 1).2.1).2.1.toNat ((aA s (aA s 1).2.1).2.1+((aA s 1).1+7).tdiv 8).toNat) (aA s 1).1).2=0:=by with_reducible assumption
   have kc:qJ (s.extract (aA s (aA s 1).2.1).2.1.toNat ((aA s (aA s 1).2.1).2.1+((aA s 1).1+7).tdiv 8).toNat)=(aA s (aA s 1).2.1).1:=by first|with_reducible assumption|omega
   have eN:=sU (s:=s) (a:=(aA s (aA s 1).2.1).2.1) (n:=(aA s 1).1) (k:=(aA s (aA s 1).2.1).1) kn ke ku kc;have j4:(aA s 1).1<=4096:=by omega
   have jk:(aA s (aA s 1).2.1).1<=(aA s 1).1:=by omega
   obtain⟨m1,m3,m4,m5,m6⟩:=iK hus e1 j4 e2 jk eN;have hml:((eS s (aA s (aA s 1).2.1).2.1 (aA s 1).1 (aA s (aA s 1).2.1).1).1.length:Int)=(aA s 1).1:=by rw[eN];exact m1
   first
   |(
    have hb:(eS s (aA s (aA s 1).2.1).2.1 (aA s 1).1 (aA s (aA s 1).2.1).1).1[i.toNat]! =true:=by rw[eN];first|with_reducible assumption|(simp_all;done)
    have hll:i<L.length:=by omega
    have hsa:=qC (L:=L) (i:=i) (v:=NV) (by omega);have hv:bE c NV=0:=by rw[<-hsa];with_reducible assumption
    rw[hgo,SN (by omega) hb hv,oK (by omega)])
   |(
    have hb:(eS s (aA s (aA s 1).2.1).2.1 (aA s 1).1 (aA s (aA s 1).2.1).1).1[i.toNat]! =false:=by rw[eN];first|with_reducible assumption|(simp_all;done)
    have hll:i<L.length:=by omega
    have hsa:=qC (L:=L) (i:=i) (v:=R[(0:Int).toNat]!) (by omega);have hv:bE c R[(0:Int).toNat]! =0:=by rw[<-hsa];with_reducible assumption
    rw[hgo,qB4 (by omega) hb hv,oK (by omega)];rfl)))
 ·first
  |(
  have o0:=oo0 s
  have e1:(aA s 1).2.2=0:=by with_reducible assumption
  have o1:=bR e1
  have o2:=oo2 s (by omega)
  have e2:(aA s (aA s 1).2.1).2.2=0:=by with_reducible assumption
  have o3:=bR e2
  have hus0:cB c.2.1 (aG s (0:Int).toNat)=w:=by rw[<-kQ,hw,List.take_of_length_le (by omega)]
  have hus:cB c.2.1 (aG s (0:Int).toNat)=true:=by rw[hus0];first|with_reducible assumption|exact xH (by with_reducible assumption)
  first
  |(
   have kn:¬(aA s (aA s 1).2.1).1>0:=by omega
   have eN:=uC (s:=s) (a:=(aA s (aA s 1).2.1).2.1) (n:=(aA s 1).1) (k:=(aA s (aA s 1).2.1).1) kn;have j4:(aA s 1).1<=4096:=by omega
   have jk:(aA s (aA s 1).2.1).1<=(aA s 1).1:=by omega
   obtain⟨m1,m3,m4,m5,m6⟩:=iK hus e1 j4 e2 jk eN;have hy:(wF c.2.1 (aG s (0:Int).toNat) (s.extract (aA s (aA s 1).2.1).2.1.toNat s.size) ((aA s 1).1-(aA s (aA s 1).2.1).1)).2=true:=by first|with_reducible assumption|exact xH (by with_reducible assumption)
   rw[OY]at hy;have y1:=qG1 (by omega) hy;obtain⟨m7,m8⟩:=m5 hy;rw[y1,eN];exact m8)
  |(
   have kn:(aA s (aA s 1).2.1).1>0:=by omega
   have ke:¬((aA s (aA s 1).2.1).2.1+((aA s 1).1+7).tdiv 8)>s.size:=by omega
   have ku:(jL (s.extract (aA s (aA s 1).2.1).2.1.toNat ((aA s (aA s 1).2.1).2.1+((aA s 1).1+7).tdiv 8).toNat) (aA s 1).1).2=0:=by with_reducible assumption
   have kc:qJ (s.extract (aA s (aA s 1).2.1).2.1.toNat ((aA s (aA s 1).2.1).2.1+((aA s 1).1+7).tdiv 8).toNat)=(aA s (aA s 1).2.1).1:=by first|with_reducible assumption|omega
   have eN:=sU (s:=s) (a:=(aA s (aA s 1).2.1).2.1) (n:=(aA s 1).1) (k:=(aA s (aA s 1).2.1).1) kn ke ku kc;have j4:(aA s 1).1<=4096:=by omega
   have jk:(aA s (aA s 1).2.1).1<=(aA s 1).1:=by omega
   obtain⟨m1,m3,m4,m5,m6⟩:=iK hus e1 j4 e2 jk eN;have hy:(wF c.2.1 (aG s (0:Int).toNat) (s.extract ((aA s (aA s 1).2.1).2.1+((aA s 1).1+7).tdiv 8).toNat s.size) ((aA s 1).1-(aA s (aA s 1).2.1).1)).2=true:=by first|with_reducible assumption|exact xH (by with_reducible assumption)
   rw[OY]at hy;have y1:=qG1 (by omega) hy;obtain⟨m7,m8⟩:=m5 hy;rw[y1,eN];exact m8)
  |(
   have kn:¬(aA s (aA s 1).2.1).1>0:=by omega
   have eN:=uC (s:=s) (a:=(aA s (aA s 1).2.1).2.1) (n:=(aA s 1).1) (k:=(aA s (aA s 1).2.1).1) kn;have j4:(aA s 1).1<=4096:=by omega
   have jk:(aA s (aA s 1).2.1).1<=(aA s 1).1:=by omega
   obtain⟨m1,m3,m4,m5,m6⟩:=iK hus e1 j4 e2 jk eN;have hml:((eS s (aA s (aA s 1).2.1).2.1 (aA s 1).1 (aA s (aA s 1).2.1).1).1.length:Int)=(aA s 1).1:=by rw[eN];exact m1
   first
   |(
    have hb:(eS s (aA s (aA s 1).2.1).2.1 (aA s 1).1 (aA s (aA s 1).2.1).1).1[i.toNat]! =true:=by rw[eN];first|with_reducible assumption|(simp_all;done)
    rw[hR,qLO (by omega) hb])
   |(
    have hb:(eS s (aA s (aA s 1).2.1).2.1 (aA s 1).1 (aA s (aA s 1).2.1).1).1[i.toNat]! =false:=by rw[eN];first|with_reducible assumption|(simp_all;done)
    have hcf:=PZ (by omega) hb;show(((R.drop 1).length:Nat):Int)=_;rw[List.length_drop];omega))
  |(
   have kn:(aA s (aA s 1).2.1).1>0:=by omega
   have ke:¬((aA s (aA s 1).2.1).2.1+((aA s 1).1+7).tdiv 8)>s.size:=by omega
   have ku:(jL (s.extract (aA s (aA s 1).2.1).2.1.toNat ((aA s (aA s 1).2.1).2.1+((aA s 1).1+7).tdiv 8).toNat) (aA s 1).1).2=0:=by with_reducible assumption
   have kc:qJ (s.extract (aA s (aA s 1).2.1).2.1.toNat ((aA s (aA s 1).2.1).2.1+((aA s 1).1+7).tdiv 8).toNat)=(aA s (aA s 1).2.1).1:=by first|with_reducible assumption|omega
   have eN:=sU (s:=s) (a:=(aA s (aA s 1).2.1).2.1) (n:=(aA s 1).1) (k:=(aA s (aA s 1).2.1).1) kn ke ku kc;have j4:(aA s 1).1<=4096:=by omega
   have jk:(aA s (aA s 1).2.1).1<=(aA s 1).1:=by omega
   obtain⟨m1,m3,m4,m5,m6⟩:=iK hus e1 j4 e2 jk eN;have hml:((eS s (aA s (aA s 1).2.1).2.1 (aA s 1).1 (aA s (aA s 1).2.1).1).1.length:Int)=(aA s 1).1:=by rw[eN];exact m1
   first
   |(
    have hb:(eS s (aA s (aA s 1).2.1).2.1 (aA s 1).1 (aA s (aA s 1).2.1).1).1[i.toNat]! =true:=by rw[eN];first|with_reducible assumption|(simp_all;done)
    rw[hR,qLO (by omega) hb])
   |(
    have hb:(eS s (aA s (aA s 1).2.1).2.1 (aA s 1).1 (aA s (aA s 1).2.1).1).1[i.toNat]! =false:=by rw[eN];first|with_reducible assumption|(simp_all;done)
    have hcf:=PZ (by omega) hb;show(((R.drop 1).length:Nat):Int)=_;rw[List.length_drop];omega))))
  |(
 with_reducible apply Side.mk
 (try dsimp only[cu,aC,aB,gts,loK,hiK,eE,eN])
 first
 |omega
 |(
  have o0:=oo0 s;omega)
 |rw[List.length_set];omega
 |(
  have o0:=oo0 s;first
  |(
   have hcl:=qLQ c.2.1;omega)
  |(
   have e1:(aA s 1).2.2=0:=by with_reducible assumption
   have o1:=bR e1;have o2:=oo2 s (by omega);first
   |omega
   |(
    have e2:(aA s (aA s 1).2.1).2.2=0:=by with_reducible assumption
    have o3:=bR e2;first
    |omega
    |rw[List.length_replicate];omega
    |(
     simp only[ByteArray.size_extract];omega)
    |(
     have hus0:cB c.2.1 (aG s (0:Int).toNat)=w:=by rw[<-kQ,hw,List.take_of_length_le (by omega)]
     have hus:cB c.2.1 (aG s (0:Int).toNat)=true:=by rw[hus0];first|with_reducible assumption|exact xH (by with_reducible assumption)
     first
     |(
      have kn:(aA s (aA s 1).2.1).1>0:=by omega
      have ke:¬((aA s (aA s 1).2.1).2.1+((aA s 1).1+7).tdiv 8)>s.size:=by omega
      have ku:(jL (s.extract (aA s (aA s 1).2.1).2.1.toNat ((aA s (aA s 1).2.1).2.1+((aA s 1).1+7).tdiv 8).toNat) (aA s 1).1).2=0:=by with_reducible assumption
      have kc:qJ (s.extract (aA s (aA s 1).2.1).2.1.toNat ((aA s (aA s 1).2.1).2.1+((aA s 1).1+7).tdiv 8).toNat)=(aA s (aA s 1).2.1).1:=by first|with_reducible assumption|omega
      have eN:=sU (s:=s) (a:=(aA s (aA s 1).2.1).2.1) (n:=(aA s 1).1) (k:=(aA s (aA s 1).2.1).1) kn ke ku kc;have j4:(aA s 1).1<=4096:=by omega
      have jk:(aA s (aA s 1).2.1).1<=(aA s 1).1:=by omega
      obtain⟨m1,m3,m4,m5,m6⟩:=iK hus e1 j4 e2 jk eN;first
      |omega
      |(rw[List.length_set];omega))
     |(
      have kn:¬(aA s (aA s 1).2.1).1>0:=by omega
      have eN:=uC (s:=s) (a:=(aA s (aA s 1).2.1).2.1) (n:=(aA s 1).1) (k:=(aA s (aA s 1).2.1).1) kn;have j4:(aA s 1).1<=4096:=by omega
      have jk:(aA s (aA s 1).2.1).1<=(aA s 1).1:=by omega
      obtain⟨m1,m3,m4,m5,m6⟩:=iK hus e1 j4 e2 jk eN;have hml:((eS s (aA s (aA s 1).2.1).2.1 (aA s 1).1 (aA s (aA s 1).2.1).1).1.length:Int)=(aA s 1).1:=by rw[eN];exact m1
      have hb:(eS s (aA s (aA s 1).2.1).2.1 (aA s 1).1 (aA s (aA s 1).2.1).1).1[i.toNat]! =false:=by rw[eN];first|with_reducible assumption|(simp_all;done)
      have hcf:=PZ (by omega) hb;omega)
     |(
      have kn:(aA s (aA s 1).2.1).1>0:=by omega
      have ke:¬((aA s (aA s 1).2.1).2.1+((aA s 1).1+7).tdiv 8)>s.size:=by omega
      have ku:(jL (s.extract (aA s (aA s 1).2.1).2.1.toNat ((aA s (aA s 1).2.1).2.1+((aA s 1).1+7).tdiv 8).toNat) (aA s 1).1).2=0:=by with_reducible assumption
      have kc:qJ (s.extract (aA s (aA s 1).2.1).2.1.toNat ((aA s (aA s 1).2.1).2.1+((aA s 1).1+7).tdiv 8).toNat)=(aA s (aA s 1).2.1).1:=by first|with_reducible assumption|omega
      have eN:=sU (s:=s) (a:=(aA s (aA s 1).2.1).2.1) (n:=(aA s 1).1) (k:=(aA s (aA s 1).2.1).1) kn ke ku kc;have j4:(aA s 1).1<=4096:=by omega
      have jk:(aA s (aA s 1).2.1).1<=(aA s 1).1:=by omega
      obtain⟨m1,m3,m4,m5,m6⟩:=iK hus e1 j4 e2 jk eN;have hml:((eS s (aA s (aA s 1).2.1).2.1 (aA s 1).1 (aA s (aA s 1).2.1).1).1.length:Int)=(aA s 1).1:=by rw[eN];exact m1
      have hb:(eS s (aA s (aA s 1).2.1).2.1 (aA s 1).1 (aA s (aA s 1).2.1).1).1[i.toNat]! =false:=by rw[eN];first|with_reducible assumption|(simp_all;done)
      have hcf:=PZ (by omega) hb;omega)
     |(
      have kn:¬(aA s (aA s 1).2.1).1>0:=by omega
      have eN:=uC (s:=s) (a:=(aA s (aA s 1).2.1).2.1) (n:=(aA s 1).1) (k:=(aA s (aA s 1).2.1).1) kn;have j4:(aA s 1).1<=4096:=by omega
      have jk:(aA s (aA s 1).2.1).1<=(aA s 1).1:=by omega
      obtain⟨m1,m3,m4,m5,m6⟩:=iK hus e1 j4 e2 jk eN;have huc:=JN hus;refine⟨?_,⟨by omega,by omega⟩,huc⟩;have:=qMH s (aA s (aA s 1).2.1).2.1.toNat s.size;omega)
     |(
      have kn:(aA s (aA s 1).2.1).1>0:=by omega
      have ke:¬((aA s (aA s 1).2.1).2.1+((aA s 1).1+7).tdiv 8)>s.size:=by omega
      have ku:(jL (s.extract (aA s (aA s 1).2.1).2.1.toNat ((aA s (aA s 1).2.1).2.1+((aA s 1).1+7).tdiv 8).toNat) (aA s 1).1).2=0:=by with_reducible assumption
      have kc:qJ (s.extract (aA s (aA s 1).2.1).2.1.toNat ((aA s (aA s 1).2.1).2.1+((aA s 1).1+7).tdiv 8).toNat)=(aA s (aA s 1).2.1).1:=by first|with_reducible assumption|omega
      have eN:=sU (s:=s) (a:=(aA s (aA s 1).2.1).2.1) (n:=(aA s 1).1) (k:=(aA s (aA s 1).2.1).1) kn ke ku kc;have j4:(aA s 1).1<=4096:=by omega
      have jk:(aA s (aA s 1).2.1).1<=(aA s 1).1:=by omega
      obtain⟨m1,m3,m4,m5,m6⟩:=iK hus e1 j4 e2 jk eN;have huc:=JN hus;refine⟨?_,⟨by omega,by omega⟩,huc⟩;have:=qMH s ((aA s (aA s 1).2.1).2.1+((aA s 1).1+7).tdiv 8).toNat s.size;omega))))))
  |(conv=>whnf
    first
     |with_reducible first|done|exact trivial|refine NilBr.mk (fun h=>?_) ?_|apply aJ|apply aI|refine aK (by kernel_rfl) ?_|apply aL|apply bG|apply bF|apply aR
     |((with_reducible first|apply aT|apply aS|apply bD)<;>intro h<;>(try dsimp only[cu,eE,eN]at h)<;>(try(exfalso;omega)))
     |(
 intro yy (hy:Tag 45/\_)
 obtain⟨(j:Int),(w:Bool),_⟩:=yy
 replace hy:=hy.2
 dsimp only[cu,aC,aB,gts,eE,eN]at hy
 obtain⟨hj,hw⟩:=hy)
     |(
 intro yy (hy:Tag 46/\_)
 obtain⟨(i:Int),(L:List Val),(R:List Val),_⟩:=yy
 replace hy:=hy.2
 dsimp only[cu,aC,aB,gts,eE,eN]at hy
 obtain⟨hi,hL,hgo,hR⟩:=hy)))
 all_goals(
 with_reducible apply Leaf.mk
 (try dsimp only[cu,aC,aB,gts,eE,eN]at *)
 first
 |(
  have o0:=oo0 s;have hus0:cB c.2.1 (aG s (0:Int).toNat)=w:=by rw[<-kQ,hw,List.take_of_length_le (by omega)]
  have hus:cB c.2.1 (aG s (0:Int).toNat)=false:=by rw[hus0];first|with_reducible assumption|(simp_all;done)
  rw[qLE (.inl hus)])
 |(
  have e1:¬(aA s 1).2.2=0:=by with_reducible assumption
  rw[qLE (.inr (.inl e1))])
 |(
  have o0:=oo0 s;have e1:(aA s 1).2.2=0:=by with_reducible assumption
  have o1:=bR e1;first
  |(
   have h4:(aA s 1).1>4096:=by omega
   rw[qLE (.inr (.inr h4))])
  |(
   have hus0:cB c.2.1 (aG s (0:Int).toNat)=w:=by rw[<-kQ,hw,List.take_of_length_le (by omega)]
   have hus:cB c.2.1 (aG s (0:Int).toNat)=true:=by rw[hus0];first|with_reducible assumption|exact xH (by with_reducible assumption)
   have c1:¬(cB c.2.1 (aG s (0:Int).toNat)=false\/(aA s 1).2.2≠0\/(aA s 1).1>4096):=fun q=>by
    rcases q with q|q|q
    ·rw[hus]at q;cases q
    ·exact q e1
    ·omega
   have e2:¬(aA s (aA s 1).2.1).2.2=0:=by with_reducible assumption
   rw[qUD c1 (.inl e2)])
  |(
   have o2:=oo2 s (by omega);first
   |(
    have hus0:cB c.2.1 (aG s (0:Int).toNat)=w:=by rw[<-kQ,hw,List.take_of_length_le (by omega)]
    have hus:cB c.2.1 (aG s (0:Int).toNat)=true:=by rw[hus0];first|with_reducible assumption|exact xH (by with_reducible assumption)
    have c1:¬(cB c.2.1 (aG s (0:Int).toNat)=false\/(aA s 1).2.2≠0\/(aA s 1).1>4096):=fun q=>by
     rcases q with q|q|q
     ·rw[hus]at q;cases q
     ·exact q e1
     ·omega
    have h5:(aA s (aA s 1).2.1).1>(aA s 1).1:=by omega
    rw[qUD c1 (.inr h5)])
   |(
    have e2:(aA s (aA s 1).2.1).2.2=0:=by with_reducible assumption
    have o3:=bR e2;have hus0:cB c.2.1 (aG s (0:Int).toNat)=w:=by rw[<-kQ,hw,List.take_of_length_le (by omega)]
    have hus:cB c.2.1 (aG s (0:Int).toNat)=true:=by rw[hus0];first|with_reducible assumption|exact xH (by with_reducible assumption)
    first
    |(
     have eN:=qDB (s:=s) (a:=(aA s (aA s 1).2.1).2.1) (n:=(aA s 1).1) (k:=(aA s (aA s 1).2.1).1) (by omega) (.inl (by omega));rw[PR hus e1 (by omega) e2 (by omega) eN])
    |(
     have eN:=qDB (s:=s) (a:=(aA s (aA s 1).2.1).2.1) (n:=(aA s 1).1) (k:=(aA s (aA s 1).2.1).1) (by omega) (.inr (.inr (by with_reducible assumption)));rw[PR hus e1 (by omega) e2 (by omega) eN])
    |(
     have eN:=qDB (s:=s) (a:=(aA s (aA s 1).2.1).2.1) (n:=(aA s 1).1) (k:=(aA s (aA s 1).2.1).1) (by omega) (.inr (.inl (by with_reducible assumption)));rw[PR hus e1 (by omega) e2 (by omega) eN])
    |(
     have kn:¬(aA s (aA s 1).2.1).1>0:=by omega
     have eN:=uC (s:=s) (a:=(aA s (aA s 1).2.1).2.1) (n:=(aA s 1).1) (k:=(aA s (aA s 1).2.1).1) kn;have j4:(aA s 1).1<=4096:=by omega
     have jk:(aA s (aA s 1).2.1).1<=(aA s 1).1:=by omega
     obtain⟨m1,m3,m4,m5,m6⟩:=iK hus e1 j4 e2 jk eN;have hy:(wF c.2.1 (aG s (0:Int).toNat) (s.extract (aA s (aA s 1).2.1).2.1.toNat s.size) ((aA s 1).1-(aA s (aA s 1).2.1).1)).2=false:=by first|with_reducible assumption|exact qNR (by with_reducible assumption)
     rw[OY]at hy;rw[m6 hy])
    |(
     have kn:(aA s (aA s 1).2.1).1>0:=by omega
     have ke:¬((aA s (aA s 1).2.1).2.1+((aA s 1).1+7).tdiv 8)>s.size:=by omega
     have ku:(jL (s.extract (aA s (aA s 1).2.1).2.1.toNat ((aA s (aA s 1).2.1).2.1+((aA s 1).1+7).tdiv 8).toNat) (aA s 1).1).2=0:=by with_reducible assumption
     have kc:qJ (s.extract (aA s (aA s 1).2.1).2.1.toNat ((aA s (aA s 1).2.1).2.1+((aA s 1).1+7).tdiv 8).toNat)=(aA s (aA s 1).2.1).1:=by first|with_reducible assumption|omega
     have eN:=sU (s:=s) (a:=(aA s (aA s 1).2.1).2.1) (n:=(aA s 1).1) (k:=(aA s (aA s 1).2.1).1) kn ke ku kc;have j4:(aA s 1).1<=4096:=by omega
     have jk:(aA s (aA s 1).2.1).1<=(aA s 1).1:=by omega
     obtain⟨m1,m3,m4,m5,m6⟩:=iK hus e1 j4 e2 jk eN;have hy:(wF c.2.1 (aG s (0:Int).toNat) (s.extract ((aA s (aA s 1).2.1).2.1+((aA s 1).1+7).tdiv 8).toNat s.size) ((aA s 1).1-(aA s (aA s 1).2.1).1)).2=false:=by first|with_reducible assumption|exact qNR (by with_reducible assumption)
     rw[OY]at hy;rw[m6 hy])
    |(
     have kn:¬(aA s (aA s 1).2.1).1>0:=by omega
     have eN:=uC (s:=s) (a:=(aA s (aA s 1).2.1).2.1) (n:=(aA s 1).1) (k:=(aA s (aA s 1).2.1).1) kn;have j4:(aA s 1).1<=4096:=by omega
     have jk:(aA s (aA s 1).2.1).1<=(aA s 1).1:=by omega
     obtain⟨m1,m3,m4,m5,m6⟩:=iK hus e1 j4 e2 jk eN;have hml:((eS s (aA s (aA s 1).2.1).2.1 (aA s 1).1 (aA s (aA s 1).2.1).1).1.length:Int)=(aA s 1).1:=by rw[eN];exact m1
     first
     |(
      have hb:(eS s (aA s (aA s 1).2.1).2.1 (aA s 1).1 (aA s (aA s 1).2.1).1).1[i.toNat]! =true:=by rw[eN];first|with_reducible assumption|(simp_all;done)
      have hll:i<L.length:=by omega
      have hsa:=qC (L:=L) (i:=i) (v:=NV) (by omega);have hv:¬bE c NV=0:=by rw[<-hsa];with_reducible assumption
      rw[hgo,KM (by omega) hb hv])
     |(
      have hb:(eS s (aA s (aA s 1).2.1).2.1 (aA s 1).1 (aA s (aA s 1).2.1).1).1[i.toNat]! =false:=by rw[eN];first|with_reducible assumption|(simp_all;done)
      have hll:i<L.length:=by omega
      have hsa:=qC (L:=L) (i:=i) (v:=R[(0:Int).toNat]!) (by omega);have hv:¬bE c R[(0:Int).toNat]! =0:=by rw[<-hsa];with_reducible assumption
      rw[hgo,SO (by omega) hb hv])
     |(rw[hgo,qB3 (by omega) (by omega),List.take_of_length_le (by omega)]))
    |(
     have kn:(aA s (aA s 1).2.1).1>0:=by omega
     have ke:¬((aA s (aA s 1).2.1).2.1+((aA s 1).1+7).tdiv 8)>s.size:=by omega
     have ku:(jL (s.extract (aA s (aA s 1).2.1).2.1.toNat ((aA s (aA s 1).2.1).2.1+((aA s 1).1+7).tdiv 8).toNat) (aA s 1).1).2=0:=by with_reducible assumption
     have kc:qJ (s.extract (aA s (aA s 1).2.1).2.1.toNat ((aA s (aA s 1).2.1).2.1+((aA s 1).1+7).tdiv 8).toNat)=(aA s (aA s 1).2.1).1:=by first|with_reducible assumption|omega
     have eN:=sU (s:=s) (a:=(aA s (aA s 1).2.1).2.1) (n:=(aA s 1).1) (k:=(aA s (aA s 1).2.1).1) kn ke ku kc;have j4:(aA s 1).1<=4096:=by omega
     have jk:(aA s (aA s 1).2.1).1<=(aA s 1).1:=by omega
     obtain⟨m1,m3,m4,m5,m6⟩:=iK hus e1 j4 e2 jk eN;have hml:((eS s (aA s (aA s 1).2.1).2.1 (aA s 1).1 (aA s (aA s 1).2.1).1).1.length:Int)=(aA s 1).1:=by rw[eN];exact m1
     first
     |(
      have hb:(eS s (aA s (aA s 1).2.1).2.1 (aA s 1).1 (aA s (aA s 1).2.1).1).1[i.toNat]! =true:=by rw[eN];first|with_reducible assumption|(simp_all;done)
      have hll:i<L.length:=by omega
      have hsa:=qC (L:=L) (i:=i) (v:=NV) (by omega);have hv:¬bE c NV=0:=by rw[<-hsa];with_reducible assumption
      rw[hgo,KM (by omega) hb hv])
     |(
      have hb:(eS s (aA s (aA s 1).2.1).2.1 (aA s 1).1 (aA s (aA s 1).2.1).1).1[i.toNat]! =false:=by rw[eN];first|with_reducible assumption|(simp_all;done)
      have hll:i<L.length:=by omega
      have hsa:=qC (L:=L) (i:=i) (v:=R[(0:Int).toNat]!) (by omega);have hv:¬bE c R[(0:Int).toNat]! =0:=by rw[<-hsa];with_reducible assumption
      rw[hgo,SO (by omega) hb hv])
     |(rw[hgo,qB3 (by omega) (by omega),List.take_of_length_le (by omega)]))))))
abbrev qaO:Tbl:=(134,yA)::qaN
theorem qFY:aD Tryz.prog qaO:=aD.cons ZP qFX
abbrev KT:Ct:=.fn [rI,.str] (some (fun(c:Col) (s:ByteArray)=>(s.size<=288230376151711744))) (fun(c:Col) (s:ByteArray)=>.tup [.list bS,.int .i64] ((jV c s).1,(jV c s).2,()))
theorem qQU:aH Tryz.prog 95 KT:=by
 refine aH.fn qFY mixed [] [] rfl rfl ?_;rintro⟨(c:Col),(s:ByteArray),_⟩ hpre;replace hpre:=hpre _ rfl;dsimp only[cu]at hpre;have hs:=hpre;refine⟨[],?_⟩;repeat' (first
  |(
 with_reducible apply Side.mk
 (try dsimp only[cu,aC,aB,gts,loK,hiK,eE,eN])
 first
 |omega
 |(
  have ho:gQ s=0:=by with_reducible assumption
  have hz:=qDK ho;have hbz:=BD (s:=s) (by omega);have hbl:=PS s;have ei:(if gQ s=0 then gV s else EMP)=gV s:=if_pos ho;rw[ei];exact⟨by omega,by omega⟩))
  |(conv=>whnf
    first
     |with_reducible first|done|exact trivial|refine NilBr.mk (fun h=>?_) ?_|apply aJ|apply aI|refine aK (by kernel_rfl) ?_|apply aL|apply bG|apply bF|apply aR
     |((with_reducible first|apply aT|apply aS|apply bD)<;>intro h<;>(try dsimp only[cu,eE,eN]at h)<;>(try(exfalso;omega)))))
 all_goals(
 with_reducible apply Leaf.mk
 (try dsimp only[cu,aC,aB,gts,eE,eN]at *)
 first
 |(
  have hk:bV c.2.1=false:=by simp [bV];omega
  rw[qV4 hk])
 |(
  have hk:bV c.2.1=true:=by simp [bV];omega
  have ho:¬gQ s=0:=by with_reducible assumption
  rw[qV5 hk ho])
 |(
  have ho:gQ s=0:=by with_reducible assumption
  have hz:=qDK ho;have hbz:=BD (s:=s) (by omega);have hbl:=PS s;have ei:(if gQ s=0 then gV s else EMP)=gV s:=if_pos ho;have hk:bV c.2.1=true:=by simp [bV];omega
  first
  |(
   have hb:(nU c (if gQ s=0 then gV s else EMP)).2=false:=by first|with_reducible assumption|exact qNR (by with_reducible assumption)
   rw[ei]at hb;rw[qV6 hk ho hb])
  |(
   have hb:(nU c (if gQ s=0 then gV s else EMP)).2=true:=by first|with_reducible assumption|exact xH (by with_reducible assumption)
   rw[ei]at hb;(try rw[ei]);rw[ZO hk ho hb])))
abbrev qaP:Tbl:=(95,KT)::qaO
theorem qFZ:aD Tryz.prog qaP:=aD.cons qQU qFY
abbrev pK:Ty:=.pair (.list (.int .i64)) (.int .i64)
abbrev Src:Type:=(List Int)×Int
@[reducible] instance:Inhabited Src:=instInhabitedDen pK
def pick (v n:Int):Int:=IntKind.i64.wrap (Int.tmod (IntKind.u64.wrap v) (IntKind.u64.wrap n))
theorem pick_lt {v n:Int} (h:0<n/\n<=9223372036854775807):0<=pick v n/\pick v n<n:=by
 have hn:IntKind.u64.wrap n=n:=IntWalk.u64_in n (by omega);have hv:0<=IntKind.u64.wrap v:=by simp [IntKind.wrap,IntKind.bits,IntKind.signed];omega
 have h1:=Int.tmod_nonneg (IntKind.u64.wrap n) hv;have h2:=Int.tmod_lt_of_pos (IntKind.u64.wrap v) (show 0<IntKind.u64.wrap n by omega);rw[hn]at h1 h2;unfold pick;rw[hn,qQA]<;>omega
theorem qPX {n:Int} (h:0<n/\n<=9223372036854775807):¬IntKind.u64.wrap n=0:=by
 rw[IntWalk.u64_in n (by omega)];omega
def Src.ok (s:Src):Prop:=(0:Int)<=s.2/\s.1.length<=9223372036854775807
def Src.next (s:Src):Src:=if s.2>=s.1.length then s else⟨s.1,s.2+1⟩
def Src.val (s:Src):Int:=if s.2>=s.1.length then 0 else s.1[s.2.toNat]!
def Src.pick (s:Src) (n:Int):Int:=if s.2>=s.1.length then 0 else Go.Proofs.YtcjiefknhfhmkaaGreatDoor.pick s.1[s.2.toNat]! n
theorem Src.ok_next {s:Src} (h:Src.ok s):Src.ok (Src.next s):=by
 unfold Src.ok Src.next at *;split
 ·exact h
 ·exact⟨show(0:Int)<=s.2+1 by have:=h.1;omega,h.2⟩
theorem Src.pick_lt {s:Src} {n:Int} (h:0<n/\n<=9223372036854775807):0<=Src.pick s n/\Src.pick s n<n:=by
 unfold Src.pick;split
 ·omega
 ·exact Go.Proofs.YtcjiefknhfhmkaaGreatDoor.pick_lt h
theorem Src.ok_from {l:List Int} (h:l.length<=9223372036854775807):Src.ok (l,0):=⟨by simp,h⟩
abbrev LY:Ct:=.fn [.int .i64,.int .i64] (some (fun(v:Int) (n:Int)=>(¬IntKind.u64.wrap n=0))) (fun(v:Int) (n:Int)=>.d (.int .i64) (pick v n))
theorem qS1:aH Tryz.prog 17 LY:=by
 refine aH.fn qFZ mixed [(0,1,5)] [] rfl rfl ?_;rintro⟨(v:Int),(n:Int),_⟩ hpre;replace hpre:=hpre _ rfl;dsimp only[cu]at hpre;have hn:=hpre;refine⟨[],?_⟩;repeat' (first
  |(
 with_reducible apply Side.mk
 (try dsimp only[cu,aC,aB,gts,loK,hiK,eE,eN])
 omega)
  |(conv=>whnf
    first
     |with_reducible first|done|exact trivial|refine NilBr.mk (fun h=>?_) ?_|apply aJ|apply aI|refine aK (by kernel_rfl) ?_|apply aL|apply bG|apply bF|apply aR
     |((with_reducible first|apply aT|apply aS|apply bD)<;>intro h<;>(try dsimp only[cu,eE,eN]at h)<;>(try(exfalso;omega)))))
 all_goals(
 with_reducible apply Leaf.mk
 (try dsimp only[cu,aC,aB,gts,eE,eN]at *)
 rfl)
abbrev qaQ:Tbl:=(17,LY)::qaP
theorem qF0:aD Tryz.prog qaQ:=aD.cons qS1 qFZ
abbrev LT:Ct:=.meth pK 124 [.int .i64] (some (fun(s:Src) (n:Int)=>(Src.ok s)/\(¬IntKind.u64.wrap n=0))) (fun(s:Src) (n:Int)=>.d (.int .i64) (Src.pick s n)) (fun(s:Src) (n:Int)=>Src.next s)
theorem qSS:aH Tryz.prog 36 LT:=by
 refine aH.meth qF0 mixed [] [] rfl rfl ?_;rintro(s:Src) ⟨(n:Int),_⟩ hpre;replace hpre:=hpre _ rfl;dsimp only[cu]at hpre;obtain⟨hs,hn⟩:=hpre;obtain⟨hs0,hs1⟩:=hs;refine⟨[],?_⟩;repeat' (first
  |(
 with_reducible apply Side.mk
 (try dsimp only[cu,aC,aB,gts,loK,hiK,eE,eN])
 omega)
  |(conv=>whnf
    first
     |with_reducible first|done|exact trivial|refine NilBr.mk (fun h=>?_) ?_|apply aJ|apply aI|refine aK (by kernel_rfl) ?_|apply aL|apply bG|apply bF|apply aR
     |((with_reducible first|apply aT|apply aS|apply bD)<;>intro h<;>(try dsimp only[cu,eE,eN]at h)<;>(try(exfalso;omega)))))
 all_goals(
 with_reducible apply Leaf.mk
 (try dsimp only[cu,aC,aB,gts,eE,eN]at *)
 first
 |rw[Src.pick,if_pos (by omega)]
 |rw[Src.next,if_pos (by omega)]
 |(
  rw[Src.pick,if_neg (by omega)];rw[show s.2+1-1=s.2 by omega])
 |(rw[Src.next,if_neg (by omega)]))
abbrev qaR:Tbl:=(36,LT)::qaQ
theorem qF1:aD Tryz.prog qaR:=aD.cons qSS qF0
abbrev TC:Ct:=.meth pK 124 [] (some (fun(s:Src)=>(Src.ok s))) (fun(s:Src)=>.d (.int .i64) (Src.val s)) (fun(s:Src)=>Src.next s)
theorem qXH:aH Tryz.prog 123 TC:=by
 refine aH.meth qF1 mixed [] [] rfl rfl ?_;rintro(s:Src) ⟨⟩ hpre;replace hpre:=hpre _ rfl;dsimp only[cu]at hpre;have hs:=hpre;obtain⟨hs0,hs1⟩:=hs;refine⟨[],?_⟩;repeat' (first
  |(
 with_reducible apply Side.mk
 (try dsimp only[cu,aC,aB,gts,loK,hiK,eE,eN])
 omega)
  |(conv=>whnf
    first
     |with_reducible first|done|exact trivial|refine NilBr.mk (fun h=>?_) ?_|apply aJ|apply aI|refine aK (by kernel_rfl) ?_|apply aL|apply bG|apply bF|apply aR
     |((with_reducible first|apply aT|apply aS|apply bD)<;>intro h<;>(try dsimp only[cu,eE,eN]at h)<;>(try(exfalso;omega)))))
 all_goals(
 with_reducible apply Leaf.mk
 (try dsimp only[cu,aC,aB,gts,eE,eN]at *)
 first
 |rw[Src.val,if_pos (by omega)]
 |rw[Src.next,if_pos (by omega)]
 |(
  rw[Src.val,if_neg (by omega)];rw[show s.2+1-1=s.2 by omega])
 |(rw[Src.next,if_neg (by omega)]))
abbrev qaS:Tbl:=(123,TC)::qaR
theorem qF2:aD Tryz.prog qaS:=aD.cons qXH qF1
abbrev LG:Ct:=.new pK 124 [.list (.int .i64)] (none) (fun(l:List Int)=>((l,0):Src))
theorem qRS:aH Tryz.prog 35 LG:=by
 refine aH.new qF2 mixed [] [] rfl rfl ?_;rintro⟨(l:List Int),_⟩ -;refine⟨[],?_⟩;repeat' (first
  |(
 with_reducible apply Side.mk
 (try dsimp only[cu,aC,aB,gts,loK,hiK,eE,eN])
 done)
  |(conv=>whnf
    first
     |with_reducible first|done|exact trivial|refine NilBr.mk (fun h=>?_) ?_|apply aJ|apply aI|refine aK (by kernel_rfl) ?_|apply aL|apply bG|apply bF|apply aR
     |((with_reducible first|apply aT|apply aS|apply bD)<;>intro h<;>(try dsimp only[cu,eE,eN]at h)<;>(try(exfalso;omega)))))
 all_goals(
 with_reducible apply Leaf.mk
 (try dsimp only[cu,aC,aB,gts,eE,eN]at *)
 done)
abbrev qaT:Tbl:=(35,LG)::qaS
theorem qF3:aD Tryz.prog qaT:=aD.cons qRS qF2
theorem bP (l:List Int):(aV l).size=l.length:=by simp [aV,ByteArray.size]
theorem HI (n:Int):(aV [n]).size=1:=rfl
def dT:Nat->Src->ByteArray->ByteArray×Src
 |0,s,x=>(x,s)
 |n+1,s,x=>dT n (Src.next s) (x++aV [IntKind.u8.wrap (97+Src.pick s 3)])
def qLB (a b:Int):Int:=IntKind.i64.wrap ((BitVec.ofInt IntKind.i64.bits a &&& BitVec.ofInt IntKind.i64.bits b).toNat:Int)
def qNA (s:Src) (c:Col):Bool:=c.2.2.2&&decide (Src.pick s 4=0)
def zC (s:Src) (c:Col):Src:=if c.2.2.2=true then Src.next s else s
def QY (s:Src):Int×Src:=if Src.pick (Src.next s) 8=0 then(Src.val (Src.next (Src.next s)),Src.next (Src.next (Src.next s)))else if Src.pick (Src.next s) 8=1 then(Int.tmod (Src.val (Src.next (Src.next s))) 1000,Src.next (Src.next (Src.next s)))
 else(IntKind.i64.wrap (Src.pick s 7-2),Src.next (Src.next s))
def qAL (c:Col) (n:Int) (s:Src):Val×Src:=
 if c.2.1=2 then(⟨false,qLB n 1,EMP⟩,s)
 else if c.2.1=3 then(⟨false,0,(dT (Src.pick s 4).toNat (Src.next s) EMP).1⟩,(dT (Src.pick s 4).toNat (Src.next s) EMP).2)
 else if c.2.1=4 then(⟨false,Int.tmod n 700000,EMP⟩,s)else if c.2.1=5 then(⟨false,Int.tmod n 1000000000000000000,EMP⟩,s)else(⟨false,n,EMP⟩,s)
def jT (s:Src) (c:Col):Val×Src:=if qNA s c=true then(⟨true,0,EMP⟩,Src.next s)else qAL c (QY (zC s c)).1 (QY (zC s c)).2
theorem IJ {k:Int} (h:k>0) (s:Src) (x:ByteArray):dT k.toNat s x=dT (k-1).toNat (Src.next s) (x++aV [IntKind.u8.wrap (97+Src.pick s 3)]):=by
 rw[show k.toNat=(k-1).toNat+1 by omega];rfl
theorem uB:∀(n:Nat) (s:Src) (x:ByteArray),(dT n s x).1.size=x.size+n
 |0,s,x=>rfl
 |n+1,s,x=>by
  rw[dT,uB n,ByteArray.size_append];rw[HI];omega
theorem zD:∀(n:Nat) (s:Src) (x:ByteArray),Src.ok s->Src.ok (dT n s x).2
 |0,s,x,h=>h
 |n+1,s,x,h=>zD n _ _ (Src.ok_next h)
theorem iH {s:Src} (c:Col) (h:Src.ok s):Src.ok (jT s c).2:=by
 have h1:Src.ok (zC s c):=by unfold zC;split;exact Src.ok_next h;exact h
 have h2:Src.ok (QY (zC s c)).2:=by
  unfold QY;split
  ·exact Src.ok_next (Src.ok_next (Src.ok_next h1))
  ·split
   ·exact Src.ok_next (Src.ok_next (Src.ok_next h1))
   ·exact Src.ok_next (Src.ok_next h1)
 unfold jT;split
 ·exact Src.ok_next h
 ·unfold qAL
  split;exact h2;split;exact zD _ _ _ (Src.ok_next h2);split;exact h2;split;exact h2;exact h2
abbrev CT:Ct:=.meth pK 124 [rI] (some (fun(s:Src) (c:Col)=>(Src.ok s))) (fun(s:Src) (c:Col)=>.d bS ((jT s c).1)) (fun(s:Src) (c:Col)=>(jT s c).2)
theorem qIT:aH Tryz.prog 87 CT:=by
 refine aH.meth qF3 mixed [(0,3,2)] [] rfl rfl ?_;rintro(s:Src) ⟨(c:Col),_⟩ hpre;replace hpre:=hpre _ rfl;dsimp only[cu]at hpre;have hs:=hpre;refine⟨[(0,30,LA.mk [.sl 7 (.int .i64),.sl 6 .str,.ob 0 pK 124] (fun y=>Tag 47/\cu [.int .i64,.str,pK] (fun(k:Int) (x:ByteArray) (q:Src)=>(0<=k/\k<=3)/\(Src.ok q)/\((x.size:Int)<=3-k)/\(jT s c=(((false,0,(dT k.toNat q x).1):Val),(dT k.toNat q x).2))) y) (cu [.int .i64,.str,pK] (fun(k:Int) (x:ByteArray) (q:Src)=>k.toNat)) (cu [.int .i64,.str,pK] (fun(k:Int) (x:ByteArray) (q:Src)=>([]:List (Nat×Nat×LA)))))],?_⟩;repeat' (first
  |(
 with_reducible refine Side.mk ⟨(⟨⟩:Tag 47),?_⟩
 dsimp only[cu,aC,aB,gts,eE,eN]
 refine⟨?_,?_,?_,?_⟩
 ·first
  |omega
  |have:=@Src.pick_lt;grind
 ·(repeat (first|assumption|exact Src.ok_from (by assumption)|apply Src.ok_next|apply iH|apply kNode_ok))
 ·first
  |(
  have h0:(ByteArray.size ⟨#[]⟩)=0:=rfl
  have:=@Src.pick_lt;grind)
  |(
  rw[ByteArray.size_append,HI]
  omega)
 ·first
  |simp [jT,qNA,zC,QY,qAL, *];done
  |(rw[hg,IJ (by assumption)]))
  |(
 with_reducible apply Side.mk
 (try dsimp only[cu,aC,aB,gts,loK,hiK,eE,eN])
 first
 |omega
 |exact Eq.refl _
 |(
  refine⟨?_,by decide⟩;(repeat (first|assumption|exact Src.ok_from (by assumption)|apply Src.ok_next|apply iH|apply kNode_ok));done)
 |((repeat (first|assumption|exact Src.ok_from (by assumption)|apply Src.ok_next|apply iH|apply kNode_ok));done)
 |have:=@Src.pick_lt;grind
 |(
  rw[HI];omega))
  |(conv=>whnf
    first
     |with_reducible first|done|exact trivial|refine NilBr.mk (fun h=>?_) ?_|apply aJ|apply aI|refine aK (by kernel_rfl) ?_|apply aL|apply bG|apply bF|apply aR
     |((with_reducible first|apply aT|apply aS|apply bD)<;>intro h<;>(try dsimp only[cu,eE,eN]at h)<;>(try(exfalso;omega)))
     |(
 intro yy (hy:Tag 47/\_)
 obtain⟨(k:Int),(x:ByteArray),(q:Src),_⟩:=yy
 replace hy:=hy.2
 dsimp only[cu,aC,aB,gts,eE,eN]at hy
 obtain⟨hk,hq,hx,hg⟩:=hy)))
 all_goals(
 with_reducible apply Leaf.mk
 (try dsimp only[cu,aC,aB,gts,eE,eN]at *)
 first
 |simp [jT,qNA,zC,QY,qAL,qLB,rO, *];done
 |(
  rw[show k.toNat=0 by omega,dT]at hg;simp [hg];done))
abbrev qaU:Tbl:=(87,CT)::qaT
theorem qF4:aD Tryz.prog qaU:=aD.cons qIT qF3
def mZ (s:Src):Prop:=∀x,x∈s.1->inI x
theorem qAT (s:Src):(Src.next s).1=s.1:=by unfold Src.next;split<;>rfl
theorem jD {s:Src} (h:mZ s):mZ (Src.next s):=by unfold mZ;rw[qAT];exact h
theorem qPZ {s:Src} (h:mZ s):inI (Src.val s):=by
 unfold Src.val;split
 ·unfold inI;exact⟨by decide,by decide⟩
 ·exact IC h _
theorem RY {a b:Int} (h:inI a):inI (Int.tmod a b):=by
 have h1:=Int.natAbs_tmod a b;have h2:a.natAbs%b.natAbs<=a.natAbs:=Nat.mod_le _ _;unfold inI at h ⊢;by_cases q:0<=a
 ·have:=Int.tmod_nonneg b q;omega
 ·have h3:Int.tmod a b<=0:=by
    have:=Int.tmod_nonneg b (show 0 <= -a by omega);rw[Int.neg_tmod]at this;omega
  omega
theorem NP:∀(n:Nat) (s:Src) (x:ByteArray),(dT n s x).2.1=s.1
 |0,s,x=>rfl
 |n+1,s,x=>by rw[dT,NP n,qAT]
theorem qC2 {s:Src} (h:mZ s):inI (QY s).1/\mZ (QY s).2:=by
 have h1:=jD h;have h2:=jD h1;have h3:=jD h2;unfold QY;split
 ·exact⟨qPZ h2,h3⟩
 ·split
  ·exact⟨RY (qPZ h2),h3⟩
  ·exact⟨FC _,h2⟩
theorem SD:inI 0:=by unfold inI;exact⟨by decide,by decide⟩
theorem qR5 {c:Col} {n:Int} {s:Src} (hn:inI n) (hs:mZ s):okV (qAL c n s).1/\mZ (qAL c n s).2:=by
 unfold qAL;split
 ·exact⟨⟨Nat.zero_le _,FC _⟩,hs⟩
 ·split
  ·refine⟨⟨?_,SD⟩,?_⟩
   ·show(dT (Src.pick s 4).toNat (Src.next s) EMP).1.size<=1048576
    rw[uB];have:=Src.pick_lt (s:=s) (n:=4) (by decide);have e:EMP.size=0:=rfl;omega
   ·show mZ (dT (Src.pick s 4).toNat (Src.next s) EMP).2
    unfold mZ;rw[NP,qAT];exact hs
  ·split
   ·exact⟨⟨Nat.zero_le _,RY hn⟩,hs⟩
   ·split
    ·exact⟨⟨Nat.zero_le _,RY hn⟩,hs⟩
    ·exact⟨⟨Nat.zero_le _,hn⟩,hs⟩
theorem qIS {s:Src} (c:Col) (h:mZ s):okV (jT s c).1/\mZ (jT s c).2:=by
 have h1:mZ (zC s c):=by unfold zC;split;exact jD h;exact h
 unfold jT;split
 ·exact⟨⟨Nat.zero_le _,SD⟩,jD h⟩
 ·exact qR5 (qC2 h1).1 (qC2 h1).2
abbrev GZ:Ct:=.fn [.list bS,.list bS] (some (fun(a:List Val) (b:List Val)=>(a.length<=9223372036854775807))) (fun(a:List Val) (b:List Val)=>.d .bool (decide (a=b)))
theorem qO1:aH Tryz.prog 22 GZ:=by
 refine aH.fn qF4 mixed [] [] rfl rfl ?_;rintro⟨(a:List Val),(b:List Val),_⟩ hpre;replace hpre:=hpre _ rfl;dsimp only[cu]at hpre;have ha:=hpre;refine⟨[(0,8,LA.mk [.sl 13 (.int .i64)] (fun y=>Tag 48/\cu [.int .i64] (fun(k:Int)=>(0<=k/\k<=a.length)/\(a.take k.toNat=b.take k.toNat)) y) (cu [.int .i64] (fun(k:Int)=>((a.length:Int)-k).toNat)) (cu [.int .i64] (fun(k:Int)=>([]:List (Nat×Nat×LA)))))],?_⟩;repeat' (first
  |(
 with_reducible refine Side.mk ⟨(⟨⟩:Tag 48),?_⟩
 dsimp only[cu,aC,aB,gts,eE,eN]
 refine⟨?_,?_⟩
 ·omega
 ·first
  |rfl
  |(
  have e1:k.toNat<a.length:=by omega
  have e2:k.toNat<b.length:=by omega
  have e3:a[k.toNat]! =b[k.toNat]!:=by simp_all [Prod.ext_iff]
  rw[getElem!_pos a k.toNat e1,getElem!_pos b k.toNat e2]at e3
  rw[show(k+1).toNat=k.toNat+1 by omega,List.take_add_one,List.take_add_one,hs,List.getElem?_eq_getElem e1,List.getElem?_eq_getElem e2,e3]))
  |(
 with_reducible apply Side.mk
 (try dsimp only[cu,aC,aB,gts,loK,hiK,eE,eN])
 first
 |omega
 |(kernel_rfl))
  |(conv=>whnf
    first
     |with_reducible first|done|exact trivial|refine NilBr.mk (fun h=>?_) ?_|apply aJ|apply aI|refine aK (by kernel_rfl) ?_|apply aL|apply bG|apply bF|apply aR
     |((with_reducible first|apply aT|apply aS|apply bD)<;>intro h<;>(try dsimp only[cu,eE,eN]at h)<;>(try(exfalso;omega)))
     |(
 intro yy (hy:Tag 48/\_)
 obtain⟨(k:Int),_⟩:=yy
 replace hy:=hy.2
 dsimp only[cu,aC,aB,gts,eE,eN]at hy
 obtain⟨hk,hs⟩:=hy)))
 all_goals(
 with_reducible apply Leaf.mk
 (try dsimp only[cu,aC,aB,gts,eE,eN]at *)
 first
 |(
  have hab:a=b:=by
   have h2:=hs;rw[List.take_of_length_le (by omega),List.take_of_length_le (by omega)]at h2;exact h2
  rw[decide_eq_true hab])
 |(
  have hne:¬a=b:=fun q=>by subst q;omega
  rw[decide_eq_false hne])
 |(
  have hne:¬a=b:=fun q=>by subst q;simp_all
  rw[decide_eq_false hne]))
abbrev qaV:Tbl:=(22,GZ)::qaU
theorem qF5:aD Tryz.prog qaV:=aD.cons qO1 qF4
end Go.Proofs.YtcjiefknhfhmkaaGreatDoor
