import Derived.Test.YtcjiefknhfhmkaaGreatDoorM06
namespace Go.Proofs.YtcjiefknhfhmkaaGreatDoor
open Go.Abs
set_option maxRecDepth 100000
set_option maxHeartbeats 4000000
set_option linter.unusedVariables false
set_option linter.unusedSimpArgs false
def lJ (s:ByteArray) (m:Nat):Bool:=(List.range (8*s.size)).any fun q=>decide (m<=q)&&decide (sbit s q=1)
def bN (s:ByteArray) (n w:Int):List Int×Int:=
 if ¬pW n w=true then([],4)else if(s.size:Int)<dK n w then([],10)else if(s.size:Int)>dK n w then([],2)
 else if lJ s (n*w).toNat=true then([],2)else(gL (sbit s) (n*w).toNat w.toNat n.toNat,0)
theorem qFX {B:Int} (hB:0<=B/\B<256) {t:Nat} (ht:t<8) (h:B/2^t≠0):∃u,t<=u/\u<8/\B/2^u%2=1:=by
 have h1:=NS (p:=fun n=>(List.range 8).all fun t=>decide ((n:Int)/2^t=0)||(List.range 8).any fun u=>decide (t<=u)&&decide ((n:Int)/2^u%2=1)) (by kernel_rfl) hB;have h2:=List.all_eq_true.1 h1 t (by simp;omega);rw[Int.toNat_of_nonneg hB.1]at h2;rw[Bool.or_eq_true]at h2;rcases h2 with q|q
 ·exact absurd (of_decide_eq_true q) h
 ·obtain⟨u,hu,hq⟩:=List.any_eq_true.1 q
  simp only[Bool.and_eq_true,decide_eq_true_eq]at hq;exact⟨u,hq.1,by simpa using hu,hq.2⟩
theorem UU {s:ByteArray} {m q:Nat} (h1:m<=q) (h2:q<8*s.size) (h3:sbit s q=1):lJ s m=true:=by
 unfold lJ;rw[List.any_eq_true];exact⟨q,by simpa using h2,by simp [h1,h3]⟩
theorem UT {s:ByteArray} {m:Nat} (h:s.size=(m+7)/8):lJ s m=true↔m%8≠0/\aG s (m/8)/2^(m%8)≠0:=by
 have hb:=cM s (m/8);constructor
 ·intro hq
  unfold lJ at hq;obtain⟨q,h1,h2⟩:=List.any_eq_true.1 hq;simp only[Bool.and_eq_true,decide_eq_true_eq]at h2;have h1:q<8*s.size:=by simpa using h1
  have hm:m%8≠0:=by omega
  refine⟨hm,fun h0=>?_⟩;have e1:q/8=m/8:=by omega
  have h3:=h2.2;unfold sbit at h3;rw[e1]at h3;have hlt:aG s (m/8)<2^(m%8):=by
   have hp:=iQ (m%8);have:=Int.emod_add_mul_ediv (aG s (m/8)) (2^(m%8));rw[h0,Int.mul_zero]at this;have:=Int.emod_lt_of_pos (aG s (m/8)) hp;omega
  have hle:(2:Int)^(m%8)<=2^(q%8):=by
   have:=Nat.pow_le_pow_right (show 0<2 by decide) (show m%8<=q%8 by omega);rw[<-fA,<-fA];omega
  rw[Int.ediv_eq_zero_of_lt hb.1 (by omega)]at h3;omega
 ·rintro⟨h1,h2⟩
  obtain⟨u,u1,u2,u3⟩:=qFX hb (by omega) h2;refine UU (q:=8*(m/8)+u) (by omega) (by omega) ?_;unfold sbit;rw[show(8*(m/8)+u)/8=m/8 by omega,show(8*(m/8)+u)%8=u by omega];exact u3
theorem MZ (s:ByteArray) {a:Int} (ha:0<=a):iV .u8 (aG s (a.tdiv 8).toNat) (a.tmod 8)=aG s (a.toNat/8)/2^(a.toNat%8)/\(a.tmod 8=0↔a.toNat%8=0):=by
 have e1:(a.tdiv 8).toNat=a.toNat/8:=by rw[Int.tdiv_eq_ediv_of_nonneg ha];omega
 have e2:(a.tmod 8).toNat=a.toNat%8:=by rw[Int.tmod_eq_emod_of_nonneg ha];omega
 have e3:0<=a.tmod 8/\a.tmod 8<8:=by rw[Int.tmod_eq_emod_of_nonneg ha];omega
 rw[UM e3,e1,e2];exact⟨rfl,by omega⟩
abbrev AY:Ct:=.fn [.str,.int .i64,.int .i64] (some (fun(s:ByteArray) (n:Int) (w:Int)=>(s.size<=4611686018427387904))) (fun(s:ByteArray) (n:Int) (w:Int)=>.tup [.list (.int .u64),.int .i64] ((bN s n w).1,(bN s n w).2,()))
theorem qHV:aF Tryz.prog 211 AY:=by
 refine aF.fn qNC mixed [] [] rfl rfl ?_;rintro⟨(s:ByteArray),(n:Int),(w:Int),_⟩ hpre;replace hpre:=hpre _ rfl;dsimp only[cu]at hpre;have hs:=hpre;refine⟨[(0,20,LA.mk [.sl 35 (.int .i64),.sl 9 (.int .i64),.ar 0 (.int .u64) 86] (fun y=>Tag 4/\cu [.int .i64,.int .i64,.list (.int .u64)] (fun(i:Int) (a:Int) (M:List Int)=>(0<=i/\i<=n)/\(a=i*w)/\(M=gL (sbit s) a.toNat w.toNat n.toNat)) y) (cu [.int .i64,.int .i64,.list (.int .u64)] (fun(i:Int) (a:Int) (M:List Int)=>((n:Int)-i).toNat)) (cu [.int .i64,.int .i64,.list (.int .u64)] (fun(i:Int) (a:Int) (M:List Int)=>([(0,26,LA.mk [.sl 39 (.int .i64),.sl 9 (.int .i64),.ar 0 (.int .u64) 86] (fun y=>Tag 5/\cu [.int .i64,.int .i64,.list (.int .u64)] (fun(k:Int) (b:Int) (O:List Int)=>(0<=k/\k<=w)/\(b=i*w+k)/\(O=gL (sbit s) b.toNat w.toNat n.toNat)) y) (cu [.int .i64,.int .i64,.list (.int .u64)] (fun(k:Int) (b:Int) (O:List Int)=>((w:Int)-k).toNat)) (cu [.int .i64,.int .i64,.list (.int .u64)] (fun(k:Int) (b:Int) (O:List Int)=>([]:List (Nat×Nat×LA)))))]:List (Nat×Nat×LA)))))],?_⟩;repeat' (first
  |(
 with_reducible refine Side.mk ⟨(⟨⟩:Tag 4),?_⟩
 dsimp only[cu,aC,aB,gts,eE,eN]
 refine⟨?_,?_,?_⟩
 ·first
  |omega
  |(
  have hpb:=(eQ n w).1 (by first|assumption|simp_all)
  have hne:=jZ hpb
  omega)
 ·first
  |omega
  |rw[UN];omega
 ·first
  |exact(PD _ _ _).symm
  |(rw[hO]))
  |(
 with_reducible refine Side.mk ⟨(⟨⟩:Tag 5),?_⟩
 dsimp only[cu,aC,aB,gts,eE,eN]
 refine⟨?_,?_,?_⟩
 ·first
  |omega
  |(
  have hpb:=(eQ n w).1 (by first|assumption|simp_all)
  have hne:=jZ hpb
  omega)
 ·first
  |rw[ha];omega
  |omega
 ·first
  |exact hM
  |(
  have hpb:=(eQ n w).1 (by first|assumption|simp_all)
  have hne:=jZ hpb
  have hix:=vK (i:=i) (n:=n) (k:=k) (w:=w) (by omega) (by omega) (by omega)
  have hi0:0<=i*w:=Int.mul_nonneg (by omega) (by omega)
  rw[hO]
  obtain⟨q1,q2⟩:=qI3 s (a:=b) (by omega)
  obtain⟨p1,p2⟩:=TU (i:=i) (k:=k) (w:=w) (by omega)
  rw[<-hb]at p1 p2
  refine qAC (vQ _) (by omega) (by omega) (by omega) (by omega) p1 p2 ?_
  rw[q1]
  exact aW (by omega)))
  |(
 with_reducible apply Side.mk
 (try dsimp only[cu,aC,aB,gts,loK,hiK,eE,eN])
 first
 |omega
 |(
  have hpb:=(eQ n w).1 (by first|assumption|simp_all)
  have hne:=jZ hpb;omega)
 |simp only[hM,lY];done
 |(
  have hpb:=(eQ n w).1 (by first|assumption|simp_all)
  have hne:=jZ hpb;first
  |(
   have hix:=vK (i:=i) (n:=n) (k:=k) (w:=w) (by omega) (by omega) (by omega);have hi0:0<=i*w:=Int.mul_nonneg (by omega) (by omega);(try rw[Int.tdiv_eq_ediv_of_nonneg (by omega)]);(try rw[Int.tmod_eq_emod_of_nonneg (by omega)]);(try simp only[hO,lY]);omega)
  |(
   have hin:i=n:=by omega
   rw[hin]at ha;rw[Int.tdiv_eq_ediv_of_nonneg (by omega)];rw[Int.tmod_eq_emod_of_nonneg (by omega)]at *;omega)
  |(
   have hi0:0<=i*w:=Int.mul_nonneg (by omega) (by omega);rw[Int.tmod_eq_emod_of_nonneg (by omega)];omega)))
  |(conv=>whnf
    first
     |with_reducible first|done|exact trivial|refine NilBr.mk (fun h=>?_) ?_|apply aI|apply aH|refine aJ (by kernel_rfl) ?_|apply aK|apply bB|apply bA|apply aQ
     |((with_reducible first|apply aS|apply aR|apply aZ)<;>intro h<;>(try dsimp only[cu,eE,eN]at h)<;>(try(exfalso;omega)))
     |(
 intro yy (hy:Tag 4/\_)
 obtain⟨(i:Int),(a:Int),(M:List Int),_⟩:=yy
 replace hy:=hy.2
 dsimp only[cu,aC,aB,gts,eE,eN]at hy
 obtain⟨hi,ha,hM⟩:=hy)
     |(
 intro yy (hy:Tag 5/\_)
 obtain⟨(k:Int),(b:Int),(O:List Int),_⟩:=yy
 replace hy:=hy.2
 dsimp only[cu,aC,aB,gts,eE,eN]at hy
 obtain⟨hk,hb,hO⟩:=hy)))
 all_goals(
 with_reducible apply Leaf.mk
 (try dsimp only[cu,aC,aB,gts,eE,eN]at *)
 first
 |(
  have q:¬pW n w=true:=by simp_all;done
  rw[bN,if_pos q])
 |(
  have h1:¬¬pW n w=true:=by simp_all;done
  first
  |(
   have h2:(s.size:Int)<dK n w:=by omega
   rw[bN,if_neg h1,if_pos h2])
  |(
   have h2:¬(s.size:Int)<dK n w:=by omega
   have h3:(s.size:Int)>dK n w:=by omega
   rw[bN,if_neg h1,if_neg h2,if_pos h3]))
 |(
  have hpb:=(eQ n w).1 (by first|assumption|simp_all)
  have hne:=jZ hpb;have hin:i=n:=by omega
  rw[hin]at ha;obtain⟨t1,t2⟩:=MZ s (a:=a) (by omega);have hsz:s.size=((n*w).toNat+7)/8:=by omega
  have ht:=UT hsz;rw[<-ha]at ht;have h1:¬¬pW n w=true:=by simp_all;done
  have h2:¬(s.size:Int)<dK n w:=by omega
  have h3:¬(s.size:Int)>dK n w:=by omega
  first
  |(
   have h4:lJ s (n*w).toNat=true:=by
    rw[<-ha];refine ht.2 ⟨fun q=>?_,fun q=>?_⟩
    ·exact absurd (t2.2 q) (by assumption)
    ·rw[<-t1]at q;exact absurd q (by assumption)
   rw[bN,if_neg h1,if_neg h2,if_neg h3,if_pos h4])
  |(
   have h4:¬lJ s (n*w).toNat=true:=by
    rw[<-ha];intro q;obtain⟨g1,g2⟩:=ht.1 q;rw[<-t1]at g2;simp_all
   rw[bN,if_neg h1,if_neg h2,if_neg h3,if_neg h4];(try rw[hM,ha]))))
abbrev tb8:Tbl:=(211,AY)::tb7
theorem qND:aD Tryz.prog tb8:=aD.cons qHV qNC
def uH:Nat->Int->List Int
 |0,v=>[v]
 |n+1,v=>if v<128 then[v]else(v%128+128)::uH n (v/128)
def put (v:Int):List Int:=uH 9 v
theorem TW:∀(n:Nat) (v:Int),(uH n v).length<=n+1/\1<=(uH n v).length
 |0,v=>by simp [uH]
 |n+1,v=>by
  unfold uH;split
  ·simp
  ·have:=TW n (v/128);simp;omega
theorem bL (v:Int):(put v).length<=10/\1<=(put v).length:=TW 9 v
theorem MH:∀(n:Nat) (v:Int),0<=v->v<128^(n+1)->∀m,n<=m->uH m v=uH n v
 |0,v,h0,h,m,_=>by
  have:v<128:=by simpa using h
  cases m with
  |zero=>rfl
  |succ m=>simp [uH,this]
 |n+1,v,h0,h,0,hm=>by omega
 |n+1,v,h0,h,m+1,hm=>by
  unfold uH;split
  ·rfl
  ·rw[MH n (v/128) (Int.ediv_nonneg h0 (by decide)) (by
     rw[Int.pow_succ]at h;exact Int.ediv_lt_of_lt_mul (by decide) h) m (by omega)]
theorem GQ {v:Int} (h:0<=v/\v<18446744073709551616) (h1:¬v<128):put v=(v%128+128)::put (v/128):=by
 have e:put v=(v%128+128)::uH 8 (v/128):=by unfold put;rw[uH,if_neg h1]
 rw[e,put,MH 8 (v/128) (Int.ediv_nonneg h.1 (by decide)) (by
  have:(128:Int)^(8+1)=9223372036854775808:=by decide
  rw[this];omega) 9 (by omega)]
theorem xW {v:Int} (h1:v<128):put v= [v]:=by unfold put;rw[uH,if_pos h1]
theorem qLT {v:Int} (h:0<=v/\v<18446744073709551616) (h1:¬v<128):put v=bOr .u8 (IntKind.u8.wrap v) 128::put (iV .u64 v 7):=by
 rw[GQ h h1,qUX,ZZ,qV7 (by omega)];rw[show v%256%128=v%128 by omega]
theorem qGZ {v:Int} (h:0<=v) (h1:v<128):put v= [IntKind.u8.wrap v]:=by rw[xW h1,WI (by omega)]
abbrev KB:Ct:=.fn [.int .u64] (some (fun(v0:Int)=>(0<=v0/\v0<18446744073709551616))) (fun(v0:Int)=>.d .str (aV (put v0)))
theorem qQW:aF Tryz.prog 40 KB:=by
 refine aF.fn qND mixed [] [] rfl rfl ?_;rintro⟨(v0:Int),_⟩ hpre;replace hpre:=hpre _ rfl;dsimp only[cu]at hpre;have hv0:=hpre;refine⟨[(0,4,LA.mk [.sl 0 (.int .u64),.sl 3 .str] (fun y=>Tag 6/\cu [.int .u64,.str] (fun(v:Int) (x:ByteArray)=>(0<=v/\v<18446744073709551616)/\(aV (put v0)=x++aV (put v))) y) (cu [.int .u64,.str] (fun(v:Int) (x:ByteArray)=>v.toNat)) (cu [.int .u64,.str] (fun(v:Int) (x:ByteArray)=>([]:List (Nat×Nat×LA)))))],?_⟩;repeat' (first
  |(
 with_reducible refine Side.mk ⟨(⟨⟩:Tag 6),?_⟩
 dsimp only[cu,aC,aB,gts,eE,eN]
 refine⟨?_,?_⟩
 ·first
  |omega
  |(
  have h7:=qUX v
  omega)
 ·first
  |rw[show(⟨#[]⟩:ByteArray)=ByteArray.empty from rfl,ByteArray.empty_append]
  |(rw[hb,qLT hv (by omega),ByteArray.append_assoc,<-hE];rfl))
  |(
 with_reducible apply Side.mk
 (try dsimp only[cu,aC,aB,gts,loK,hiK,eE,eN])
 first
 |omega
 |exact Eq.refl _
 |(
  have h7:=qUX v;omega)
 |(
  have hb2:=congrArg ByteArray.size hb;have:=bL v0;have:=bL v;simp only[ByteArray.size_append,cO,List.length_cons,List.length_nil]at hb2 ⊢;omega))
  |(conv=>whnf
    first
     |with_reducible first|done|exact trivial|refine NilBr.mk (fun h=>?_) ?_|apply aI|apply aH|refine aJ (by kernel_rfl) ?_|apply aK|apply bB|apply bA|apply aQ
     |((with_reducible first|apply aS|apply aR|apply aZ)<;>intro h<;>(try dsimp only[cu,eE,eN]at h)<;>(try(exfalso;omega)))
     |(
 intro yy (hy:Tag 6/\_)
 obtain⟨(v:Int),(x:ByteArray),_⟩:=yy
 replace hy:=hy.2
 dsimp only[cu,aC,aB,gts,eE,eN]at hy
 obtain⟨hv,hb⟩:=hy)))
 all_goals(
 with_reducible apply Leaf.mk
 (try dsimp only[cu,aC,aB,gts,eE,eN]at *)
 rw[hb,qGZ hv.1 (by omega)])
abbrev tb9:Tbl:=(40,KB)::tb8
theorem qNE:aD Tryz.prog tb9:=aD.cons qQW qND
def gv (v b k:Int):Int:=bOr .u64 v (mW .u64 (b%128) (7*k))
def iJ (s:ByteArray) (at':Int):Nat->Int->Int->Int×Int×Int
 |0,_,_=>(0,0,8)
 |n+1,k,v=>if k>=s.size-at' then(0,0,10)else if k=9/\aG s (at'+k).toNat>1 then(0,0,8)
  else if aG s (at'+k).toNat>=128 then iJ s at' n (k+1) (gv v (aG s (at'+k).toNat) k)
  else if aG s (at'+k).toNat=0/\k>0 then(0,0,2)else(gv v (aG s (at'+k).toNat) k,at'+k+1,0)
termination_by n _ _=>n
def aA (s:ByteArray) (at':Int):Int×Int×Int:=if at'<0\/at'>s.size then(0,0,4)else iJ s at' 10 0 0
theorem vJ {s:ByteArray} {a k v:Int} (h:0<=k/\k<10):iJ s a (10-k).toNat k v=if k>=s.size-a then(0,0,10)else if k=9/\aG s (a+k).toNat>1 then(0,0,8)
  else if aG s (a+k).toNat>=128 then iJ s a (10-(k+1)).toNat (k+1) (gv v (aG s (a+k).toNat) k)
  else if aG s (a+k).toNat=0/\k>0 then(0,0,2)else(gv v (aG s (a+k).toNat) k,a+k+1,0):=by
 rw[show(10-k).toNat=(10-(k+1)).toNat+1 by omega,iJ]
theorem qBB (s:ByteArray) (v k:Int) (i:Nat):bOr .u64 v (mW .u64 (DK .u8 (aG s i) 128) (7*k))=gv v (aG s i) k:=by rw[qN5 (cM s i)];rfl
theorem qN4 (s:ByteArray) (i:Nat):0<=qM .u8 (aG s i) 127/\qM .u8 (aG s i) 127<256:=oX _
theorem qIT (s:ByteArray) (i:Nat):0<=DK .u8 (aG s i) 128/\DK .u8 (aG s i) 128<256:=oX _
abbrev RI:Ct:=.fn [.str,.int .i64] (some (fun(s:ByteArray) (a:Int)=>(s.size<=4611686018427387904))) (fun(s:ByteArray) (a:Int)=>.tup [.int .u64,.int .i64,.int .i64] ((aA s a).1,(aA s a).2.1,(aA s a).2.2,()))
theorem qT2:aF Tryz.prog 126 RI:=by
 refine aF.fn qNE mixed [(0,11,3)] [] rfl rfl ?_;rintro⟨(s:ByteArray),(a:Int),_⟩ hpre;replace hpre:=hpre _ rfl;dsimp only[cu]at hpre;have hs:=hpre;refine⟨[(0,10,LA.mk [.sl 18 (.int .i64),.sl 7 (.int .u64)] (fun y=>Tag 7/\cu [.int .i64,.int .u64] (fun(k:Int) (v:Int)=>(0<=k/\k<=10)/\(aA s a=iJ s a (10-k).toNat k v)) y) (cu [.int .i64,.int .u64] (fun(k:Int) (v:Int)=>(10-k).toNat)) (cu [.int .i64,.int .u64] (fun(k:Int) (v:Int)=>([]:List (Nat×Nat×LA)))))],?_⟩;repeat' (first
  |(
 with_reducible refine Side.mk ⟨(⟨⟩:Tag 7),?_⟩
 dsimp only[cu,aC,aB,gts,eE,eN]
 refine⟨?_,?_⟩
 ·omega
 ·first
  |(
  rw[aA,if_neg (by omega)]
  rfl)
  |(
  rw[hg,vJ (k:=k) (v:=v) (by omega),qBB]
  rw[if_neg (by omega),if_neg (by omega),if_pos (by omega)]))
  |(
 with_reducible apply Side.mk
 (try dsimp only[cu,aC,aB,gts,loK,hiK,eE,eN])
 first
 |omega
 |(
  have:=qIT s (a+k).toNat;have:=qN4 s (a+k).toNat;omega))
  |(conv=>whnf
    first
     |with_reducible first|done|exact trivial|refine NilBr.mk (fun h=>?_) ?_|apply aI|apply aH|refine aJ (by kernel_rfl) ?_|apply aK|apply bB|apply bA|apply aQ
     |((with_reducible first|apply aS|apply aR|apply aZ)<;>intro h<;>(try dsimp only[cu,eE,eN]at h)<;>(try(exfalso;omega)))
     |(
 intro yy (hy:Tag 7/\_)
 obtain⟨(k:Int),(v:Int),_⟩:=yy
 replace hy:=hy.2
 dsimp only[cu,aC,aB,gts,eE,eN]at hy
 obtain⟨hk,hg⟩:=hy)))
 all_goals(
 with_reducible apply Leaf.mk
 (try dsimp only[cu,aC,aB,gts,eE,eN]at *)
 first
 |rw[aA,if_pos (by omega)]
 |(
  simp only[hg,vJ (k:=k) (v:=v) (show 0<=k/\k<10 by omega)];simp [*];done)
 |(
  simp only[hg,vJ (k:=k) (v:=v) (show 0<=k/\k<10 by omega),qBB];grind)
 |(rw[hg,show(10-k).toNat=0 by omega,iJ]))
abbrev qWD:Tbl:=(126,RI)::tb9
theorem qCJ:aD Tryz.prog qWD:=aD.cons qT2 qNE
theorem bF (s:ByteArray):(aN s).length=s.size:=by simp [aN]
theorem oB (s:ByteArray) (k:Nat):(aN s)[k]! =aG s k:=by
 obtain⟨d⟩:=s;show(d.toList.map fun u=>(u.toNat:Int))[k]! =((d[k]!).toNat:Int)
 by_cases h:k<d.size
 ·rw[getElem!_pos _ k (by simpa using h),getElem!_pos d k h]
  simp
 ·rw[getElem!_neg _ k (by simpa using h),getElem!_neg d k h]
  rfl
theorem qVE {a c:Int} (ha:0<=a/\a<18446744073709551616) (hc:0<=c/\c<18446744073709551616):bOr .u64 a c=((a.toNat ||| c.toNat:Nat):Int):=by
 have q:∀x:Int,0<=x/\x<18446744073709551616->(BitVec.ofInt IntKind.u64.bits x).toNat=x.toNat:=by
  intro x hx;rw[BitVec.toNat_ofInt];simp [IntKind.bits];omega
 unfold bOr;rw[BitVec.toNat_or,q a ha,q c hc];have:a.toNat ||| c.toNat<2^64:=Nat.or_lt_two_pow (by omega) (by omega);exact aW (by omega)
theorem qVD {a c:Int} (ha:0<=a/\a<4294967296) (hc:0<=c/\c<4294967296):bOr .u32 a c=((a.toNat ||| c.toNat:Nat):Int):=by
 have q:∀x:Int,0<=x/\x<4294967296->(BitVec.ofInt IntKind.u32.bits x).toNat=x.toNat:=by
  intro x hx;rw[BitVec.toNat_ofInt];simp [IntKind.bits];omega
 unfold bOr;rw[BitVec.toNat_or,q a ha,q c hc];have:a.toNat ||| c.toNat<2^32:=Nat.or_lt_two_pow (by omega) (by omega);exact vV (by omega)
theorem qLJ (a b n:Nat) (h:a<2^n):a ||| (b*2^n)=a+b*2^n:=by
 have:=Nat.shiftLeft_add_eq_or_of_lt h b;rw[Nat.shiftLeft_eq]at this;rw[Nat.or_comm,<-this];omega
theorem qWB {b:Int} {n:Nat} (hn:n<=64) (h:0<=b*2^n/\b*2^n<18446744073709551616):mW .u64 b n=b*2^n:=by
 unfold mW;rw[show min ((n:Int)).toNat IntKind.u64.bits=n by simp [IntKind.bits];omega];exact aW h
theorem qWA {b:Int} {n:Nat} (hn:n<=32) (h:0<=b*2^n/\b*2^n<4294967296):mW .u32 b n=b*2^n:=by
 unfold mW;rw[show min ((n:Int)).toNat IntKind.u32.bits=n by simp [IntKind.bits];omega];exact vV h
theorem qLK {a b:Int} {n:Nat} (hn:n<=64) (ha:0<=a/\a<2^n) (hb:0<=b) (h:a+b*2^n<18446744073709551616):bOr .u64 a (mW .u64 b n)=a+b*2^n:=by
 have h0:0<=b*2^n:=Int.mul_nonneg hb (Int.le_of_lt (Int.pow_pos (by decide)));rw[qWB hn ⟨h0,by omega⟩,qVE (by omega) (by omega)];have e:(b*2^n).toNat=b.toNat*2^n:=by
  obtain⟨m,rfl⟩:=Int.eq_ofNat_of_zero_le hb;have:((m:Int)*2^n)=((m*2^n:Nat):Int):=by push_cast;rfl
  rw[this];rfl
 have ha':a.toNat<2^n:=by
  have:((2^n:Nat):Int)=2^n:=by push_cast;rfl
  omega
 rw[e,qLJ _ _ _ ha'];have:((b.toNat*2^n:Nat):Int)=b*2^n:=by push_cast;rw[Int.toNat_of_nonneg hb]
 omega
theorem ZF (k:Nat):(2:Int)^(7*k)=128^k:=by
 rw[Int.pow_mul];rfl
theorem qBC {v b:Int} {k:Nat} (hk:k<=9) (hv:0<=v/\v<128^k) (h:v+b%128*128^k<18446744073709551616):gv v b k=v+b%128*128^k:=by
 have:=qLK (a:=v) (b:=b%128) (n:=7*k) (by omega) (by rw[ZF];exact hv) (by omega) (by rw[ZF];exact h);rw[ZF]at this;unfold gv;rw[show(7*(k:Int))=((7*k:Nat):Int)by push_cast;rfl];exact this
theorem HI {s:ByteArray} {b:Int} (h:b∈aN s):0<=b/\b<256:=by
 unfold aN at h;obtain⟨u,_,rfl⟩:=List.mem_map.1 h;have:=u.toNat_lt;omega
theorem KY {s:ByteArray} {i:Nat} (h:i<s.size):(aN s).drop i=aG s i::(aN s).drop (i+1):=by
 have:=bH (aN s) (i:Int) (by rw[bF];omega);rw[oB]at this;simpa using this
theorem GM (k:Nat):(0:Int)<128^k:=Int.pow_pos (by decide)
theorem tZ (k:Nat):(128:Int)^(k+1)=128^k*128:=Int.pow_succ _ _
theorem ME {k:Nat} (h:k<=8):(128:Int)^k<=72057594037927936:=by
 have h1:k=0\/k=1\/k=2\/k=3\/k=4\/k=5\/k=6\/k=7\/k=8:=by omega
 rcases h1 with rfl|rfl|rfl|rfl|rfl|rfl|rfl|rfl|rfl<;>decide
theorem BL (s:ByteArray) (a:Nat):∀(n k:Nat) (v x e:Int),n+k=10->0<=v->v<128^k->iJ s a n k v=(x,e,0) ->
  ∃u,0<=u/\x=v+u*128^k/\x<18446744073709551616/\e=a+k+(put u).length/\e<=s.size/\(aN s).drop (a+k)=put u++(aN s).drop e.toNat/\(0<k->0<u)
 |0,k,v,x,e,_,_,_,h=>by simp [iJ]at h
 |n+1,k,v,x,e,hk,h0,h1,h=>by
  rw[iJ]at h;have hp:=GM k;split at h
  ·simp at h
  ·rename_i h2
   have hi:a+k<s.size:=by omega
   rw[show((a:Int)+(k:Int)).toNat=a+k by omega]at h;have hb:=cM s (a+k);have hd:=KY hi;generalize hbb:aG s (a+k)=b at h hb hd;split at h
   ·simp at h
   ·rename_i h3
    split at h
    ·rename_i h4
     have hk8:k<=8:=by omega
     have hm:b%128*128^k<=127*128^k:=Int.mul_le_mul_of_nonneg_right (by omega) (Int.le_of_lt hp);have hpm:=ME hk8;have hg:=qBC (v:=v) (b:=b) (k:=k) (by omega) ⟨h0,h1⟩ (by omega);have hg0:0<=b%128*128^k:=Int.mul_nonneg (by omega) (Int.le_of_lt hp);rw[hg,show((k:Int)+1)=((k+1:Nat):Int)by push_cast;rfl]at h;obtain⟨u,u0,u1,u2,u3,u4,u5,u6⟩:=BL s a n (k+1) _ x e (by omega) (by omega) (by rw[tZ];omega) h;have up:=u6 (by omega);have e1:(b%128+128*u)*128^k=b%128*128^k+u*128^(k+1):=by rw[tZ,Int.add_mul,Int.mul_comm 128 u,Int.mul_assoc,Int.mul_comm 128]
     have hle:b%128+128*u<=(b%128+128*u)*128^k:=by
      have:=Int.mul_le_mul_of_nonneg_left (show(1:Int)<=128^k by omega) (show 0<=b%128+128*u by omega);omega
     have hput:put (b%128+128*u)=b::put u:=by
      rw[GQ (by omega) (by omega),show(b%128+128*u)/128=u by omega,show(b%128+128*u)%128+128=b by omega]
     refine⟨b%128+128*u,by omega,by omega,u2,?_,u4,?_,fun _=>by omega⟩
     ·rw[hput];simp;omega
     ·rw[hput,hd,show a+k+1=a+(k+1)by omega,u5];rfl
    ·rename_i h4
     split at h
     ·simp at h
     ·rename_i h5
      have hm:b%128=b:=by omega
      have hbp:v+b%128*128^k<18446744073709551616:=by
       rcases Nat.lt_or_ge k 9 with hk9|hk9
       ·have hpm:=ME (show k<=8 by omega)
        have:b%128*128^k<=127*128^k:=Int.mul_le_mul_of_nonneg_right (by omega) (Int.le_of_lt hp);omega
       ·have h9:k=9:=by omega
        subst h9;have:(128:Int)^9=9223372036854775808:=by decide
        rw[this]at h1 ⊢;omega
      have hg:=qBC (v:=v) (b:=b) (k:=k) (by omega) ⟨h0,h1⟩ hbp;injection h with q1 q2;injection q2 with q2 q3;refine⟨b,hb.1,by rw[<-q1,hg,hm],by rw[<-q1,hg];exact hbp,by rw[xW (by omega),<-q2];simp,by omega,?_,fun hk0=>by omega⟩;rw[xW (by omega),hd,<-q2,show((a:Int)+(k:Int)+1).toNat=a+k+1 by omega];rfl
theorem sE (s:ByteArray) (a:Nat):∀(n k:Nat) (v u:Int) (r:List Int),n+k=10->0<=v->v<128^k->0<=u->v+u*128^k<18446744073709551616->(0<k->0<u)->(aN s).drop (a+k)=put u++r ->
  iJ s a n k v=(v+u*128^k,(a:Int)+k+(put u).length,0)
 |0,k,v,u,r,hk,h0,h1,u0,u1,u2,hd=>by
  exfalso;have h9:k=10:=by omega
  subst h9;have:(128:Int)^10=1180591620717411303424:=by decide
  rw[this]at u1;omega
 |n+1,k,v,u,r,hk,h0,h1,u0,u1,u2,hd=>by
  have hp:=GM k;have hl:a+k<s.size:=by
   rcases Nat.lt_or_ge (a+k) s.size with q|q
   ·exact q
   ·rw[List.drop_eq_nil_of_le (by rw[bF];exact q)]at hd
    have:=congrArg List.length hd;have:=bL u;simp at *;omega
  have hdb:=KY hl;have hb:=cM s (a+k);have hu9:k=9->u<=1:=by
   rintro rfl;have:(128:Int)^9=9223372036854775808:=by decide
   rw[this]at u1;omega
  rw[iJ,if_neg (by omega),show((a:Int)+(k:Int)).toNat=a+k by omega];by_cases hu:u<128
  ·rw[xW hu]at hd ⊢
   have hbu:aG s (a+k)=u:=by
    rw[hdb]at hd;injection hd
   rw[hbu,if_neg (by omega),if_neg (by omega),if_neg (by omega)];have hg:=qBC (v:=v) (b:=u) (k:=k) (by omega) ⟨h0,h1⟩ (by rw[show u%128=u by omega];exact u1);rw[hg,show u%128=u by omega];simp
  ·have hle:u<=u*128^k:=by
     have:=Int.mul_le_mul_of_nonneg_left (show(1:Int)<=128^k by omega) u0;omega
   rw[GQ (by omega) hu]at hd ⊢;have hbu:aG s (a+k)=u%128+128/\(aN s).drop (a+k+1)=put (u/128)++r:=by
    rw[hdb]at hd;injection hd with q1 q2;exact⟨q1,q2⟩
   have e1:u*128^k=u%128*128^k+(u/128)*128^(k+1):=by
    rw[tZ,Int.mul_comm (128^k) 128,<-Int.mul_assoc,<-Int.add_mul];congr 1;omega
   have hm0:0<=(u/128)*128^(k+1):=Int.mul_nonneg (by omega) (Int.le_of_lt (GM _));have hm1:u%128*128^k<=127*128^k:=Int.mul_le_mul_of_nonneg_right (by omega) (Int.le_of_lt hp);have hm2:0<=u%128*128^k:=Int.mul_nonneg (by omega) (Int.le_of_lt hp);have hg:=qBC (v:=v) (b:=u%128+128) (k:=k) (by omega) ⟨h0,h1⟩ (by rw[show(u%128+128)%128=u%128 by omega];omega);rw[hbu.1,if_neg (by omega),if_pos (by omega),hg,show(u%128+128)%128=u%128 by omega,show((k:Int)+1)=((k+1:Nat):Int)by push_cast;rfl];rw[sE s a n (k+1) _ (u/128) r (by omega) (by omega) (by rw[tZ];omega) (by omega) (by omega) (fun _=>by omega) (by rw[<-Nat.add_assoc];exact hbu.2)];simp only[Prod.mk.injEq,List.length_cons];refine⟨by omega,by push_cast;omega,trivial⟩
theorem YI {s:ByteArray} {a v e:Int} (h:aA s a=(v,e,0)):0<=a/\a<=s.size/\0<=v/\v<18446744073709551616/\e=a+(put v).length/\e<=s.size/\(aN s).drop a.toNat=put v++(aN s).drop e.toNat:=by
 unfold aA at h;split at h
 ·simp at h
 ·rename_i hr
  obtain⟨m,rfl⟩:=Int.eq_ofNat_of_zero_le (show 0<=a by omega);obtain⟨u,u0,u1,u2,u3,u4,u5,_⟩:=BL s m 10 0 0 v e rfl (by decide) (by decide) h;have hu:v=u:=by rw[u1];simp
  subst hu;refine⟨by omega,by omega,u0,u2,?_,u4,?_⟩
  ·simpa using u3
  ·simpa using u5
theorem IA {s:ByteArray} {a:Nat} {u:Int} {r:List Int} (h:0<=u/\u<18446744073709551616) (hd:(aN s).drop a=put u++r):aA s a=(u,(a:Int)+(put u).length,0):=by
 have hl:a<=s.size:=by
  rcases Nat.lt_or_ge s.size a with q|q
  ·rw[List.drop_eq_nil_of_le (by rw[bF];omega)]at hd
   have:=congrArg List.length hd;have:=bL u;simp at *;omega
  ·exact q
 unfold aA;rw[if_neg (by omega)];have:=sE s a 10 0 0 u r rfl (by decide) (by decide) h.1 (by simpa using h.2) (by omega) (by simpa using hd);simpa using this
theorem bE (a b:ByteArray):aN (a++b)=aN a++aN b:=by
 unfold aN;simp
theorem bG {l:List Int} (h:∀b,b∈l->0<=b/\b<256):aN (aV l)=l:=by
 unfold aN aV;simp only[List.map_map];conv=>rhs;rw[<-List.map_id l]
 refine List.map_congr_left fun b hb=>?_
 have:=h b hb;show((UInt8.ofNat b.toNat).toNat:Int)=b;have hb':b.toNat<256:=by omega
 rw[UInt8.toNat_ofNat_of_lt' hb'];omega
theorem vT {a b:ByteArray} (h:aN a=aN b):a=b:=by
 apply ByteArray.ext;apply Array.ext';unfold aN at h;refine List.map_inj_right (f:=fun u:UInt8=>(u.toNat:Int)) (fun x y hxy=>?_) |>.1 h;exact UInt8.toNat_inj.1 (Int.ofNat.inj hxy)
theorem TX:∀(n:Nat) (v:Int),0<=v->v<128^(n+1)->∀b,b∈uH n v->0<=b/\b<256
 |0,v,h0,h,b,hb=>by
  simp [uH]at hb;have:v<128:=by simpa using h
  rw[hb];omega
 |n+1,v,h0,h,b,hb=>by
  unfold uH at hb;split at hb
  ·simp at hb;omega
  ·rcases List.mem_cons.1 hb with q|q
   ·omega
   ·exact TX n (v/128) (Int.ediv_nonneg h0 (by decide)) (by
      rw[Int.pow_succ]at h;exact Int.ediv_lt_of_lt_mul (by decide) h) b q
theorem lG {v:Int} (h:0<=v/\v<18446744073709551616):∀b,b∈put v->0<=b/\b<256:=
 TX 9 v h.1 (by have:(128:Int)^(9+1)=1180591620717411303424:=by decide
                rw[this];omega)
theorem aX (s:ByteArray) (a:Int):0<=(aA s a).1/\(aA s a).1<18446744073709551616:=by
 have go:∀(n:Nat) (k v:Int),0<=v/\v<18446744073709551616->0<=(iJ s a n k v).1/\(iJ s a n k v).1<18446744073709551616:=by
  intro n;induction n with
  |zero=>intro k v h;simp [iJ]
  |succ n ih=>
   intro k v h;rw[iJ];repeat' split
   ·simp
   ·simp
   ·exact ih _ _ (qE _)
   ·simp
   ·exact qE _
 unfold aA;split
 ·simp
 ·exact go _ _ _ (by decide)
end Go.Proofs.YtcjiefknhfhmkaaGreatDoor
namespace Go.Abs
set_option maxRecDepth 100000
set_option maxHeartbeats 4000000
set_option linter.unusedVariables false
set_option linter.unusedSimpArgs false
theorem CY (a b:ByteArray):eJ a b=true↔a.data.toList<b.data.toList:=by
 unfold eJ;rw[Proofs.bytesLess_eq,Lib.toList_data,Lib.toList_data];simp
theorem ZO (a:ByteArray):¬eJ a a=true:=by rw[CY];exact List.lt_irrefl _
theorem MS {a b c:ByteArray} (h1:eJ a b=true) (h2:eJ b c=true):eJ a c=true:=by
 rw[CY]at *;exact List.lt_trans h1 h2
theorem qJU {a b:ByteArray} (h:a.data.toList=b.data.toList):a=b:=by
 cases a;cases b;simp at h;rw[h]
theorem qPT (a b:List UInt8):a<b\/a=b\/b<a:=by
 rcases List.le_total a b with h|h
 ·by_cases q:a<b
  ·exact .inl q
  ·exact .inr (.inl (List.le_antisymm h (List.not_lt.1 q)))
 ·by_cases q:b<a
  ·exact .inr (.inr q)
  ·exact .inr (.inl (List.le_antisymm (List.not_lt.1 q) h))
theorem qQ0 (a b:ByteArray):eJ a b=true\/a=b\/eJ b a=true:=by
 rw[CY,CY];rcases qPT a.data.toList b.data.toList with h|h|h
 ·exact .inl h
 ·exact .inr (.inl (qJU h))
 ·exact .inr (.inr h)
def NW (l:List ByteArray):Prop:=l.Pairwise fun a b=>eJ a b=true
def plS (l:List ByteArray) (s:ByteArray):Nat:=(l.takeWhile fun w=>eJ w s).length
theorem GP (l:List ByteArray) (s:ByteArray):plS l s<=l.length:=by
 unfold plS;induction l with
 |nil=>simp
 |cons x l ih=>rw[List.takeWhile_cons];split<;>simp;omega
theorem ZD:∀ {l:List ByteArray} {s:ByteArray} {t:Nat},t<plS l s->eJ l[t]! s=true
 | [],s,t,h=>by simp [plS]at h
 |x::l,s,t,h=>by
  unfold plS at h;rw[List.takeWhile_cons]at h;split at h
  ·rename_i q
   cases t with
   |zero=>exact q
   |succ t=>exact ZD (l:=l) (t:=t) (by unfold plS;simpa using h)
  ·simp at h
theorem QA:∀ {l:List ByteArray} {s:ByteArray},plS l s<l.length->¬eJ l[plS l s]! s=true
 | [],s,h=>by simp at h
 |x::l,s,h=>by
  unfold plS at h ⊢;rw[List.takeWhile_cons]at h ⊢;split
  ·rename_i q
   rw[if_pos q]at h;exact QA (l:=l) (by unfold plS;simpa using h)
  ·rename_i q
   exact q
theorem vP {l:List ByteArray} {s:ByteArray} {k:Nat} (h1:∀t,t<k->eJ l[t]! s=true) (h0:k<=l.length) (h2:k=l.length\/¬eJ l[k]! s=true):plS l s=k:=by
 rcases Nat.lt_trichotomy (plS l s) k with q|q|q
 ·exact absurd (h1 _ q) (QA (by omega))
 ·exact q
 ·rcases h2 with p|p
  ·have:=GP l s;omega
  ·exact absurd (ZD q) p
theorem QX {l:List ByteArray} (h:NW l) {i j:Nat} (hij:i<j) (hj:j<l.length):eJ l[i]! l[j]! =true:=by
 rw[getElem!_pos l i (by omega),getElem!_pos l j hj];exact(List.pairwise_iff_getElem.1 h) i j (by omega) hj hij
theorem qUK {l:List ByteArray} (h:NW l) {s:ByteArray} {t:Nat} (h1:plS l s<=t) (h2:t<l.length):¬eJ l[t]! s=true:=by
 intro q;rcases Nat.eq_or_lt_of_le h1 with p|p
 ·subst p;exact QA h2 q
 ·exact QA (by omega) (MS (QX h p h2) q)
theorem qQN {l:List ByteArray} (h:NW l) {i:Nat} (hi:i<l.length):plS l l[i]! =i:=
 vP (fun t ht=>QX h ht hi) (by omega) (.inr (ZO _))
def jP (l:List ByteArray) (s:ByteArray):List ByteArray:=if plS l s=l.length\/l[plS l s]! ≠s then l.take (plS l s)++ [s]++l.drop (plS l s)else l
theorem qKV {l:List ByteArray} (h:NW l) (s v:ByteArray):v∈jP l s↔v=s\/v∈l:=by
 unfold jP;split
 ·have e:v∈l↔v∈l.take (plS l s)\/v∈l.drop (plS l s):=by
    conv=>lhs;rw[<-List.take_append_drop (plS l s) l]
    exact List.mem_append
  rw[List.mem_append,List.mem_append,List.mem_singleton,e];grind
 ·rename_i q
  have hlt:plS l s<l.length:=by have:=GP l s;omega
  have hs:s∈l:=by
   have p:l[plS l s]! =s:=Decidable.not_not.1 fun p=>q (.inr p)
   rw[<-p,getElem!_pos l _ hlt];exact List.getElem_mem hlt
  constructor
  ·exact fun h=>.inr h
  ·rintro(rfl|h)
   ·exact hs
   ·exact h
theorem qKU {l:List ByteArray} (h:NW l) (s:ByteArray):NW (jP l s):=by
 unfold jP;split
 ·rename_i q
  unfold NW;rw[List.append_assoc,List.pairwise_append];have ht:∀a,a∈l.take (plS l s)->eJ a s=true:=fun a ha=>by
   obtain⟨i,hi,rfl⟩:=List.mem_iff_getElem.1 ha;have hi2:i<plS l s/\i<l.length:=by simp at hi;omega
   have:=ZD (l:=l) (s:=s) (t:=i) hi2.1;rw[getElem!_pos l i hi2.2]at this;rw[List.getElem_take];exact this
  have hd:∀b,b∈l.drop (plS l s)->eJ s b=true:=fun b hb=>by
   obtain⟨i,hi,rfl⟩:=List.mem_iff_getElem.1 hb;have hi2:plS l s+i<l.length:=by simp at hi;omega
   have h1:=qUK h (s:=s) (t:=plS l s+i) (by omega) hi2;rw[List.getElem_drop,<-getElem!_pos l _ hi2];rcases qQ0 l[plS l s+i]! s with p|p|p
   ·exact absurd p h1
   ·exfalso
    have e:=qQN h hi2;rw[p]at e;have hi0:i=0:=by omega
    subst hi0;rcases q with q|q
    ·omega
    ·exact q p
   ·exact p
  refine⟨List.Pairwise.sublist (List.take_sublist _ _) h,?_,?_⟩
  ·rw[List.singleton_append,List.pairwise_cons]
   exact⟨hd,List.Pairwise.sublist (List.drop_sublist _ _) h⟩
  ·intro a ha b hb
   rw[List.singleton_append,List.mem_cons]at hb;rcases hb with rfl|hb
   ·exact ht a ha
   ·exact MS (ht a ha) (hd b hb)
 ·exact h
theorem FV (l:List ByteArray) (s:ByteArray):(jP l s).length<=l.length+1:=by
 unfold jP;split
 ·simp only[List.length_append,List.length_take,List.length_drop,List.length_singleton];omega
 ·omega
def bU (l:List ByteArray):List ByteArray:=l.foldl jP []
theorem OX:∀(l a:List ByteArray),NW a->NW (l.foldl jP a)/\(∀v,v∈l.foldl jP a↔v∈a\/v∈l)/\(l.foldl jP a).length<=a.length+l.length
 | [],a,h=>⟨h,fun v=>by simp,by simp⟩
 |x::l,a,h=>by
  obtain⟨h1,h2,h3⟩:=OX l (jP a x) (qKU h x);have:=FV a x;refine⟨h1,fun v=>?_,by rw[List.foldl_cons,List.length_cons];omega⟩;rw[List.foldl_cons,h2 v,qKV h,List.mem_cons];grind
theorem HK (l:List ByteArray) (v:ByteArray):v∈bU l↔v∈l:=by
 have:=(OX l [] List.Pairwise.nil).2.1 v;unfold bU;simpa using this
theorem iD (l:List ByteArray):(bU l).length<=l.length:=by
 have:=(OX l [] List.Pairwise.nil).2.2;unfold bU;simpa using this
def eL (l:List ByteArray):List Int:=l.map fun s=>(plS (bU l) s:Int)
theorem kP (l:List ByteArray):(eL l).length=l.length:=by simp [eL]
end Go.Abs
namespace Go.Proofs.YtcjiefknhfhmkaaGreatDoor
open Go.Abs
set_option maxRecDepth 100000
set_option maxHeartbeats 4000000
set_option linter.unusedVariables false
set_option linter.unusedSimpArgs false
def sLe (a b:ByteArray):Bool:=eJ a b||decide (a=b)
def II (s:ByteArray) (a:Int):ByteArray:=s.extract (aA s a).2.1.toNat ((aA s a).2.1+(aA s a).1).toNat
def bV (s:ByteArray):Nat->Int->List ByteArray->List ByteArray×Int×Int
 |0,a,M=>(M,a,0)
 |n+1,a,M=>if(aA s a).2.2≠0 then([],0,(aA s a).2.2)else if(aA s a).1>s.size-(aA s a).2.1 then([],0,10)
  else if 0<M.length/\sLe (II s a) M[M.length-1]! =true then([],0,2)else bV s n ((aA s a).2.1+(aA s a).1) (M++ [II s a])
termination_by n _ _=>n
theorem qNR {s:ByteArray} {n a:Int} {M:List ByteArray} (h:(M.length:Int)<n) (h1:¬(aA s a).2.2=0):bV s (n-M.length).toNat a M=([],0,(aA s a).2.2):=by
 rw[show(n-M.length).toNat=(n-M.length-1).toNat+1 by omega,bV,if_pos h1]
theorem qAF {s:ByteArray} {n a:Int} {M:List ByteArray} (h:(M.length:Int)<n) (h1:(aA s a).2.2=0) (h2:(aA s a).1>s.size-(aA s a).2.1):bV s (n-M.length).toNat a M=([],0,10):=by
 rw[show(n-M.length).toNat=(n-M.length-1).toNat+1 by omega,bV,if_neg (fun q=>q h1),if_pos h2]
theorem qH0 {s:ByteArray} {n a:Int} {M:List ByteArray} (h:(M.length:Int)<n) (h1:(aA s a).2.2=0) (h2:¬(aA s a).1>s.size-(aA s a).2.1) (h3:0<M.length/\sLe (II s a) M[M.length-1]! =true):bV s (n-M.length).toNat a M=([],0,2):=by
 rw[show(n-M.length).toNat=(n-M.length-1).toNat+1 by omega,bV,if_neg (fun q=>q h1),if_neg h2,if_pos h3]
theorem qH1 {s:ByteArray} {n a:Int} {M:List ByteArray} (h:(M.length:Int)<n) (h1:(aA s a).2.2=0) (h2:¬(aA s a).1>s.size-(aA s a).2.1) (h3:¬(0<M.length/\sLe (II s a) M[M.length-1]! =true)) :
  bV s (n-M.length).toNat a M=bV s (n-(M++ [II s a]).length).toNat ((aA s a).2.1+(aA s a).1) (M++ [II s a]):=by
 rw[show(n-M.length).toNat=(n-(M++ [II s a]).length).toNat+1 by simp;omega,bV,if_neg (fun q=>q h1),if_neg h2,if_neg h3]
theorem qNQ {s:ByteArray} {n a:Int} {M:List ByteArray} (h:¬(M.length:Int)<n):bV s (n-M.length).toNat a M=(M,a,0):=by
 rw[show(n-M.length).toNat=0 by omega,bV]
theorem bO {s:ByteArray} {a:Int} (h:(aA s a).2.2=0):0<=a/\a<(aA s a).2.1/\(aA s a).2.1<=s.size:=by
 have e:aA s a=((aA s a).1,(aA s a).2.1,0):=by
  rw[<-h]
 obtain⟨h1,h2,h3,h4,h5,h6,_⟩:=YI e;have:=bL (aA s a).1;exact⟨h1,by omega,h6⟩
theorem qE5 {s:ByteArray}:∀(n:Nat) (a:Int) (M:List ByteArray),(bV s n a M).2.2=0->(bV s n a M).1.length=M.length+n/\((0<=a/\a<=s.size)->0<=(bV s n a M).2.1/\(bV s n a M).2.1<=s.size)
 |0,a,M,_=>by rw[bV];exact⟨rfl,fun h=>h⟩
 |n+1,a,M,h=>by
  rw[bV]at h ⊢;split at h
  ·rename_i h1;exact absurd h h1
  ·rename_i h1
   rw[if_neg h1];split at h
   ·exact absurd h (by decide)
   ·rename_i h2
    rw[if_neg h2];split at h
    ·exact absurd h (by decide)
    ·rename_i h3
     rw[if_neg h3];have hg:=bO (Decidable.not_not.1 h1);have hr:=aX s a;obtain⟨g1,g2⟩:=qE5 n _ _ h;exact⟨by rw[g1];simp;omega,fun _=>g2 ⟨by omega,by omega⟩⟩
abbrev FB:Ct:=.fn [.str,.int .i64,.int .i64] (some (fun(s:ByteArray) (a0:Int) (n:Int)=>(s.size<=4611686018427387904)/\(0<=n/\n<=1000000))) (fun(s:ByteArray) (a0:Int) (n:Int)=>.tup [.list .str,.int .i64,.int .i64] ((bV s n.toNat a0 []).1,(bV s n.toNat a0 []).2.1,(bV s n.toNat a0 []).2.2,()))
theorem qNV:aF Tryz.prog 210 FB:=by
 refine aF.fn qCJ mixed [(0,6,5)] [] rfl rfl ?_;rintro⟨(s:ByteArray),(a0:Int),(n:Int),_⟩ hpre;replace hpre:=hpre _ rfl;dsimp only[cu]at hpre;obtain⟨hs,hn⟩:=hpre;refine⟨[(0,4,LA.mk [.sl 1 (.int .i64),.lst 9 .str 9] (fun y=>Tag 8/\cu [.int .i64,.list .str] (fun(a:Int) (M:List ByteArray)=>(bV s n.toNat a0 []=bV s (n-M.length).toNat a M)/\((M.length:Int)<=n)) y) (cu [.int .i64,.list .str] (fun(a:Int) (M:List ByteArray)=>(n-(M.length:Int)).toNat)) (cu [.int .i64,.list .str] (fun(a:Int) (M:List ByteArray)=>([]:List (Nat×Nat×LA)))))],?_⟩;repeat' (first
  |(
 with_reducible refine Side.mk ⟨(⟨⟩:Tag 8),?_⟩
 dsimp only[cu,aC,aB,gts,eE,eN]
 refine⟨?_,?_⟩
 ·first
  |rw[List.length_nil];simp;done
  |(
  rw[hM]
  exact qH1 (by omega) (by assumption) (by assumption) (fun q=>by simp_all [sLe,II]))
 ·first
  |simp only[List.length_nil];omega
  |(simp only[List.length_append,List.length_cons,List.length_nil];omega))
  |(
 with_reducible apply Side.mk
 (try dsimp only[cu,aC,aB,gts,loK,hiK,eE,eN])
 first
 |done
 |omega
 |exact Eq.refl _
 |simp only[List.length_append,List.length_cons,List.length_nil];omega
 |(
  have hr:=aX s a;have hg:=bO (s:=s) (a:=a) (by assumption);omega))
  |(conv=>whnf
    first
     |with_reducible first|done|exact trivial|refine NilBr.mk (fun h=>?_) ?_|apply aI|apply aH|refine aJ (by kernel_rfl) ?_|apply aK|apply bB|apply bA|apply aQ
     |((with_reducible first|apply aS|apply aR|apply aZ)<;>intro h<;>(try dsimp only[cu,eE,eN]at h)<;>(try(exfalso;omega)))
     |(
 intro yy (hy:Tag 8/\_)
 obtain⟨(a:Int),(M:List ByteArray),_⟩:=yy
 replace hy:=hy.2
 dsimp only[cu,aC,aB,gts,eE,eN]at hy
 obtain⟨hM,hl⟩:=hy)))
 all_goals(
 with_reducible apply Leaf.mk
 (try dsimp only[cu,aC,aB,gts,eE,eN]at *)
 first
 |rw[hM,qNR (by omega) (by assumption)]
 |rw[hM,qAF (by omega) (by assumption) (by assumption)]
 |rw[hM,qH0 (by omega) (by assumption) (by assumption) ⟨by omega,by simp_all [sLe,II]⟩]
 |(rw[hM,qNQ (by assumption)]))
abbrev qWE:Tbl:=(210,FB)::qWD
theorem qCK:aD Tryz.prog qWE:=aD.cons qNV qCJ
def wdN (n:Int):Int:=nN (dX (n-1) 0)
def xB (s:ByteArray) (ws:List ByteArray):ByteArray:=ws.foldl (fun s w=>s++(aV (put (w.size:Int))++w)) s
theorem XV {s:ByteArray} {W:List ByteArray} {k:Int} (h:0<=k/\k<W.length):xB s (W.take (k+1).toNat)=xB s (W.take k.toNat)++(aV (put (W[k.toNat]!.size:Int))++W[k.toNat]!):=by
 rw[show(k+1).toNat=k.toNat+1 by omega,List.take_succ_eq_append_getElem (by omega)];unfold xB;rw[List.foldl_append,getElem!_pos W k.toNat (by omega)];rfl
theorem FP {B:Nat}:∀(W:List ByteArray) (s:ByteArray),(∀w,w∈W->w.size<=B)->(xB s W).size<=s.size+W.length*(B+10)
 | [],s,_=>by simp [xB]
 |w::W,s,h=>by
  have ih:=FP W (s++(aV (put (w.size:Int))++w)) (fun v hv=>h v (by simp [hv]));have h1:=h w (by simp);have h2:=bL (w.size:Int);have e:(s++(aV (put (w.size:Int))++w)).size=s.size+((put (w.size:Int)).length+w.size):=by simp only[ByteArray.size_append,cO]
  rw[e]at ih;show(xB (s++(aV (put (w.size:Int))++w)) W).size<=_;simp only[List.length_cons,Nat.add_mul];omega
def qQ (l:List ByteArray):ByteArray:=if l.length>4096 then⟨#[]⟩else xB (aV (put ((bU l).length:Int))) (bU l)++(pV (eL l) (wdN (bU l).length)).1
theorem BZ {l:List ByteArray} {B:Nat} (h:∀w,w∈l->w.size<=B):∀w,w∈bU l->w.size<=B:=fun w hw=>h w ((HK l w).1 hw)
theorem vH {l:List ByteArray} {v:Int} {k:Nat} (h:∀w,w∈l->w.size<=1073741824) (hl:l.length<=4096):(xB (aV (put v)) ((bU l).take k)).size<=4398046552074:=by
 have h1:=FP (B:=1073741824) ((bU l).take k) (aV (put v)) (fun w hw=>BZ h w (List.mem_of_mem_take hw));have h2:=bL v;have h3:=iD l;rw[cO]at h1;have h4:((bU l).take k).length<=4096:=by simp;omega
 have h5:((bU l).take k).length*(1073741824+10)<=4096*(1073741824+10):=Nat.mul_le_mul_right _ h4;omega
theorem XG (l:List ByteArray):∀c,c∈eL l->0<=c/\c<=(bU l).length:=by
 intro c hc;obtain⟨s,_,rfl⟩:=List.mem_map.1 hc;have:=GP (bU l) s;omega
theorem KT (l:List ByteArray) (k:Nat):0<=(eL l)[k]! /\(eL l)[k]! <=l.length:=by
 by_cases h:k<(eL l).length
 ·have:=XG l (eL l)[k]! (by rw[getElem!_pos _ k h];exact List.getElem_mem h)
  have:=iD l;omega
 ·rw[getElem!_neg _ k h];exact⟨Int.le_refl _,by show(0:Int)<=_;omega⟩
theorem qF1 {l:List ByteArray} {k:Int} (h:0<=k/\k<l.length):(eL l)[k.toNat]! =(plS (bU l) l[k.toNat]!:Int):=by
 rw[getElem!_pos (eL l) k.toNat (by rw[kP];omega),getElem!_pos l k.toNat (by omega)];simp [eL]
theorem XH {l:List ByteArray} {k:Int} (h:0<=k/\k<l.length):(eL l).take (k+1).toNat=(eL l).take k.toNat++ [(plS (bU l) l[k.toNat]!:Int)]:=by
 rw[show(k+1).toNat=k.toNat+1 by omega,List.take_succ_eq_append_getElem (by rw[kP];omega),<-qF1 h,getElem!_pos (eL l) k.toNat (by rw[kP];omega)]
theorem qAG {l:List ByteArray} {k:Int} (h:0<=k/\k<l.length):(l.take (k+1).toNat).foldl jP []=jP ((l.take k.toNat).foldl jP []) l[k.toNat]!:=by
 rw[show(k+1).toNat=k.toNat+1 by omega,List.take_succ_eq_append_getElem (by omega),List.foldl_append,getElem!_pos l k.toNat (by omega)];rfl
theorem HL (l:List ByteArray) (k:Nat):((l.take k).foldl jP []).length<=l.length:=by
 have:=iD (l.take k);unfold bU at this;simp at this;omega
theorem qPN {M:List ByteArray} {s:ByteArray} (h:¬((plS M s:Int)=M.length)) (h2:M[(plS M s:Int).toNat]! =s):jP M s=M:=by
 rw[Int.toNat_natCast]at h2;unfold jP;rw[if_neg];rintro(q|q)
 ·exact h (by omega)
 ·exact q h2
theorem qKW {M:List ByteArray} {s:ByteArray} (h:(plS M s:Int)=M.length\/¬M[(plS M s:Int).toNat]! =s):jP M s=M.take (plS M s)++ [s]++M.drop (plS M s):=by
 rw[Int.toNat_natCast]at h;unfold jP;rw[if_pos];rcases h with q|q
 ·exact .inl (by omega)
 ·exact .inr q
theorem qGY (w:Int) (h:0<=w/\w<=64):(pV [] w).1=⟨#[]⟩:=by
 have e:(dK ((([]:List Int).length:Nat):Int) w).toNat=0:=by
  obtain⟨h1,_⟩:=jZ (n:=((([]:List Int).length:Nat):Int)) (w:=w) ⟨⟨by simp,by simp⟩,h⟩;rw[h1];simp
 unfold pV;rw[if_neg (by omega),if_neg (by simp),if_neg (by simp [qL]),e];rfl
theorem qRJ (n:Int) (h:n<=9223372036854775807):0<=wdN n/\wdN n<=64:=by
 unfold wdN;have hm:dX (n-1) 0<18446744073709551616:=by unfold dX;split<;>omega
 exact PL hm
abbrev EH:Ct:=.fn [.list .str,.str] (some (fun(l:List ByteArray) (s:ByteArray)=>(l.length<=4611686018427387904))) (fun(l:List ByteArray) (s:ByteArray)=>.d (.int .i64) (plS l s:Int))
theorem qLQ:aF Tryz.prog 208 EH:=by
 refine aF.fn qCK mixed [] [] rfl rfl ?_;rintro⟨(l:List ByteArray),(s:ByteArray),_⟩ hpre;replace hpre:=hpre _ rfl;dsimp only[cu]at hpre;have hl:=hpre;refine⟨[(0,4,LA.mk [.sl 5 (.int .i64)] (fun y=>Tag 9/\cu [.int .i64] (fun(i:Int)=>(0<=i/\i<=l.length)/\(∀t:Nat,(t:Int)<i->eJ l[t]! s=true)) y) (cu [.int .i64] (fun(i:Int)=>((l.length:Int)-i).toNat)) (cu [.int .i64] (fun(i:Int)=>([]:List (Nat×Nat×LA)))))],?_⟩;repeat' (first
  |(
 with_reducible refine Side.mk ⟨(⟨⟩:Tag 9),?_⟩
 dsimp only[cu,aC,aB,gts,eE,eN]
 refine⟨?_,?_⟩
 ·omega
 ·first
  |intro t ht;omega
  |(
  intro t ht
  rcases Int.lt_or_le (t:Int) i with q|q
  ·exact hp t q
  ·rw[show t=i.toNat by omega];assumption))
  |(
 with_reducible apply Side.mk
 (try dsimp only[cu,aC,aB,gts,loK,hiK,eE,eN])
 omega)
  |(conv=>whnf
    first
     |with_reducible first|done|exact trivial|refine NilBr.mk (fun h=>?_) ?_|apply aI|apply aH|refine aJ (by kernel_rfl) ?_|apply aK|apply bB|apply bA|apply aQ
     |((with_reducible first|apply aS|apply aR|apply aZ)<;>intro h<;>(try dsimp only[cu,eE,eN]at h)<;>(try(exfalso;omega)))
     |(
 intro yy (hy:Tag 9/\_)
 obtain⟨(i:Int),_⟩:=yy
 replace hy:=hy.2
 dsimp only[cu,aC,aB,gts,eE,eN]at hy
 obtain⟨hi,hp⟩:=hy)))
 all_goals(
 with_reducible apply Leaf.mk
 (try dsimp only[cu,aC,aB,gts,eE,eN]at *)
 first
 |(
  have e:i.toNat=l.length:=by omega
  have e2:=vP (k:=i.toNat) (fun t ht=>hp t (by omega)) (by omega) (.inl e);show(i:Int)=(plS l s:Int)
  omega)
 |(
  have e:¬eJ l[i.toNat]! s=true:=by first|assumption|(simp_all;done)
  have e2:=vP (k:=i.toNat) (fun t ht=>hp t (by omega)) (by omega) (.inr e);show(i:Int)=(plS l s:Int)
  omega))
abbrev qWF:Tbl:=(208,EH)::qWE
theorem qCL:aD Tryz.prog qWF:=aD.cons qLQ qCK
abbrev AP:Ct:=.fn [.list .str] (some (fun(l:List ByteArray)=>(l.length<=1073741824))) (fun(l:List ByteArray)=>.tup [.list .str,.list (.int .i64)] (bU l,eL l,()))
theorem qG1:aF Tryz.prog 182 AP:=by
 refine aF.fn qCL mixed [] [] rfl rfl ?_;rintro⟨(l:List ByteArray),_⟩ hpre;replace hpre:=hpre _ rfl;dsimp only[cu]at hpre;have hl:=hpre;refine⟨[(0,6,LA.mk [.sl 14 (.int .i64),.lst 4 .str 9] (fun y=>Tag 10/\cu [.int .i64,.list .str] (fun(k:Int) (M:List ByteArray)=>(0<=k/\k<=l.length)/\(M=(l.take k.toNat).foldl jP [])) y) (cu [.int .i64,.list .str] (fun(k:Int) (M:List ByteArray)=>((l.length:Int)-k).toNat)) (cu [.int .i64,.list .str] (fun(k:Int) (M:List ByteArray)=>([]:List (Nat×Nat×LA))))),(0,26,LA.mk [.sl 49 (.int .i64),.lst 9 (.int .i64) 3] (fun y=>Tag 11/\cu [.int .i64,.list (.int .i64)] (fun(k:Int) (C:List Int)=>(0<=k/\k<=l.length)/\(C=(eL l).take k.toNat)) y) (cu [.int .i64,.list (.int .i64)] (fun(k:Int) (C:List Int)=>((l.length:Int)-k).toNat)) (cu [.int .i64,.list (.int .i64)] (fun(k:Int) (C:List Int)=>([]:List (Nat×Nat×LA)))))],?_⟩;repeat' (first
  |(
 with_reducible refine Side.mk ⟨(⟨⟩:Tag 10),?_⟩
 dsimp only[cu,aC,aB,gts,eE,eN]
 refine⟨?_,?_⟩
 ·omega
 ·first
  |rfl
  |(
  have e:=qAG (l:=l) (k:=k) (by omega)
  rw[<-hM]at e
  first
  |(
   have e1:¬((plS M l[k.toNat]!:Int)=M.length):=by first|omega|(simp_all;done)
   have e2:M[(plS M l[k.toNat]!:Int).toNat]! =l[k.toNat]!:=by simp_all;done
   rw[e,qPN e1 e2])
  |(
   have e1:(plS M l[k.toNat]!:Int)=M.length\/¬M[(plS M l[k.toNat]!:Int).toNat]! =l[k.toNat]!:=by first|(left;omega)|(right;assumption)|(right;simp_all;done)
   rw[e,qKW e1];have h0:=GP M l[k.toNat]!;clear hM e e1;simp only[QK,List.nil_append,Int.toNat_natCast,List.append_nil,List.drop_zero];have e4:((M.length:Int)-(plS M l[k.toNat]!:Int)).toNat=M.length-plS M l[k.toNat]!:=by omega
   (try rw[e4]);first|(have e5:plS M l[k.toNat]! =M.length:=(by omega);rw[e5];simp;done)|(have e5:plS M l[k.toNat]! =0:=(by omega);rw[e5];simp;done)|(have e5:(M.drop (plS M l[k.toNat]!)).take (M.length-plS M l[k.toNat]!)=M.drop (plS M l[k.toNat]!):=List.take_of_length_le (by simp);rw[e5])|grind)))
  |(
 with_reducible refine Side.mk ⟨(⟨⟩:Tag 11),?_⟩
 dsimp only[cu,aC,aB,gts,eE,eN]
 refine⟨?_,?_⟩
 ·omega
 ·first
  |rfl
  |(rw[XH (by omega),<-hC,show bU l=M by(unfold bU;rw[hM,List.take_of_length_le (by omega)])]))
  |(
 with_reducible apply Side.mk
 (try dsimp only[cu,aC,aB,gts,loK,hiK,eE,eN])
 first
 |done
 |omega
 |exact Eq.refl _
 |simp only[List.length_append,List.length_cons,List.length_nil];omega
 |(
  have hw:=HL l k.toNat;(try rw[<-hM]at hw);omega)
 |(
  rw[hM,List.take_of_length_le (by omega)];show(bU l).length<=4611686018427387904;have:=iD l;omega)
 |(
  have hw:=HL l k.toNat;(try rw[<-hM]at hw);first
  |(
   have h0:=GP M l[k.toNat]!;(try simp only[List.length_append,List.length_take,List.length_drop,List.length_cons,List.length_nil,QK]);omega)
  |(
   have hcl:=congrArg List.length hC;simp only[List.length_take,List.length_cons,List.length_nil]at hcl ⊢;omega)))
  |(conv=>whnf
    first
     |with_reducible first|done|exact trivial|refine NilBr.mk (fun h=>?_) ?_|apply aI|apply aH|refine aJ (by kernel_rfl) ?_|apply aK|apply bB|apply bA|apply aQ
     |((with_reducible first|apply aS|apply aR|apply aZ)<;>intro h<;>(try dsimp only[cu,eE,eN]at h)<;>(try(exfalso;omega)))
     |(
 intro yy (hy:Tag 10/\_)
 obtain⟨(k:Int),(M:List ByteArray),_⟩:=yy
 replace hy:=hy.2
 dsimp only[cu,aC,aB,gts,eE,eN]at hy
 obtain⟨hk,hM⟩:=hy)
     |(
 intro yy (hy:Tag 11/\_)
 obtain⟨(k:Int),(C:List Int),_⟩:=yy
 replace hy:=hy.2
 dsimp only[cu,aC,aB,gts,eE,eN]at hy
 obtain⟨hk,hC⟩:=hy)))
 all_goals(
 with_reducible apply Leaf.mk
 (try dsimp only[cu,aC,aB,gts,eE,eN]at *)
 first
 |(
  unfold bU;rw[hM,List.take_of_length_le (by omega)])
 |(rw[hC,List.take_of_length_le (by rw[kP];omega)]))
abbrev qWG:Tbl:=(182,AP)::qWF
theorem qCM:aD Tryz.prog qWG:=aD.cons qG1 qCL
theorem qQ6 {l:List ByteArray} {B:Nat} (h:∀w,w∈l->w.size<=B) (k:Nat):l[k]!.size<=B:=by
 by_cases q:k<l.length
 ·exact h _ (by rw[getElem!_pos l k q];exact List.getElem_mem q)
 ·rw[getElem!_neg l k q];exact Nat.zero_le _
theorem WP {l:List ByteArray} (h:∀w,w∈l->w.size<=1073741824) (k:Nat):(bU l)[k]!.size<=1073741824:=qQ6 (BZ h) k
theorem qJ8 {l:List ByteArray} (h:bU l= []):(pV (eL l) (wdN (bU l).length)).1=⟨#[]⟩:=by
 have hl:l= []:=by
  cases l with
  |nil=>rfl
  |cons a l=>
   have:=(HK (a::l) a).2 (by simp);rw[h]at this;simp at this
 subst hl;exact qGY _ (qRJ _ (by simp [bU]))
theorem HW (s:ByteArray):s++⟨#[]⟩=s:=by
 show s++ByteArray.empty=s;simp
theorem gP (s:ByteArray):aV (aN s)=s:=by
 apply vT;exact bG (fun b hb=>HI hb)
theorem nR (l:List Int) (w:Int):(pV l w).1.size<=32768:=by
 unfold pV;split
 ·exact Nat.zero_le _
 split
 ·exact Nat.zero_le _
 split
 ·exact Nat.zero_le _
 ·rw[cO,lY]
  obtain⟨h1,h2⟩:=jZ (n:=(l.length:Int)) (w:=w) ⟨⟨by omega,by omega⟩,by omega⟩;rw[h1];omega
abbrev AJ:Ct:=.fn [.int .i64] (some (fun(n:Int)=>(0<=n/\n<=4611686018427387904))) (fun(n:Int)=>.d (.int .i64) (wdN n))
theorem qGA:aF Tryz.prog 181 AJ:=by
 refine aF.fn qCM mixed [] [] rfl rfl ?_;rintro⟨(n:Int),_⟩ hpre;replace hpre:=hpre _ rfl;dsimp only[cu]at hpre;have hn:=hpre;refine⟨[],?_⟩;repeat' (first
  |(
 with_reducible apply Side.mk
 (try dsimp only[cu,aC,aB,gts,loK,hiK,eE,eN])
 first
 |omega
 |(
  have:dX (n-1) 0<=4611686018427387904/\0<=dX (n-1) 0:=by unfold dX;split<;>omega
  rw[aW (by omega)];omega))
  |(conv=>whnf
    first
     |with_reducible first|done|exact trivial|refine NilBr.mk (fun h=>?_) ?_|apply aI|apply aH|refine aJ (by kernel_rfl) ?_|apply aK|apply bB|apply bA|apply aQ
     |((with_reducible first|apply aS|apply aR|apply aZ)<;>intro h<;>(try dsimp only[cu,eE,eN]at h)<;>(try(exfalso;omega)))))
 all_goals(
 with_reducible apply Leaf.mk
 (try dsimp only[cu,aC,aB,gts,eE,eN]at *)
 (
  have:dX (n-1) 0<=4611686018427387904/\0<=dX (n-1) 0:=by unfold dX;split<;>omega
  rw[aW (by omega)];rfl))
abbrev qWI:Tbl:=(181,AJ)::qWG
theorem qCN:aD Tryz.prog qWI:=aD.cons qGA qCM
abbrev wM:Ct:=.fn [.list .str] (some (fun(l:List ByteArray)=>(∀w,w∈l->w.size<=1073741824)/\(l.length<=1073741824))) (fun(l:List ByteArray)=>.d .str (qQ l))
theorem ZK:aF Tryz.prog 157 wM:=by
 refine aF.fn qCN mixed [] [] rfl rfl ?_;rintro⟨(l:List ByteArray),_⟩ hpre;replace hpre:=hpre _ rfl;dsimp only[cu]at hpre;obtain⟨hb,hl⟩:=hpre;refine⟨[(0,12,LA.mk [.sl 27 (.int .i64),.sl 5 .str] (fun y=>Tag 12/\cu [.int .i64,.str] (fun(k:Int) (x:ByteArray)=>(0<=k/\k<=(bU l).length)/\(x=xB (aV (put ((bU l).length:Int))) ((bU l).take k.toNat))) y) (cu [.int .i64,.str] (fun(k:Int) (x:ByteArray)=>(((bU l).length:Int)-k).toNat)) (cu [.int .i64,.str] (fun(k:Int) (x:ByteArray)=>([]:List (Nat×Nat×LA))))),(0,28,LA.mk [.sl 46 (.int .i64),.lst 8 (.int .u64) 86] (fun y=>Tag 13/\cu [.int .i64,.list (.int .u64)] (fun(k:Int) (C:List Int)=>(0<=k/\k<=(eL l).length)/\(C=(eL l).take k.toNat)) y) (cu [.int .i64,.list (.int .u64)] (fun(k:Int) (C:List Int)=>(((eL l).length:Int)-k).toNat)) (cu [.int .i64,.list (.int .u64)] (fun(k:Int) (C:List Int)=>([]:List (Nat×Nat×LA)))))],?_⟩;repeat' (first
  |(
 with_reducible refine Side.mk ⟨(⟨⟩:Tag 12),?_⟩
 dsimp only[cu,aC,aB,gts,eE,eN]
 refine⟨?_,?_⟩
 ·omega
 ·first
  |rw[aW (by have:=iD l;omega)];rfl
  |(
  have hw:=iD l
  have hsz:=WP hb k.toNat
  rw[XV (by omega),hM,aW (by omega)]))
  |(
 with_reducible refine Side.mk ⟨(⟨⟩:Tag 13),?_⟩
 dsimp only[cu,aC,aB,gts,eE,eN]
 refine⟨?_,?_⟩
 ·omega
 ·first
  |rfl
  |(
  have hc:=KT l k.toNat
  rw[show(k+1).toNat=k.toNat+1 by omega,hC,aW (by omega),List.take_succ_eq_append_getElem (by omega),getElem!_pos _ k.toNat (by omega)]))
  |(
 with_reducible apply Side.mk
 (try dsimp only[cu,aC,aB,gts,loK,hiK,eE,eN])
 first
 |done
 |omega
 |exact Eq.refl _
 |(
  have:=iD l;omega)
 |exact qE _
 |(
  have hcl:=congrArg List.length hC;simp only[List.length_take,List.length_cons,List.length_nil]at hcl ⊢;have:=kP l;omega)
 |(
  have e:C=eL l:=by rw[hC,List.take_of_length_le (by omega)]
  subst e;refine⟨fun i=>?_,by rw[kP];omega⟩;have:=KT l i;omega)
 |(
  have hm:=congrArg ByteArray.size hM;first
  |(
   have ht:=vH (v:=((bU l).length:Int)) (k:=k.toNat) hb (by omega);have hp:=bL (IntKind.u64.wrap ((bU l)[k.toNat]!.size:Int));have hsz:=WP hb k.toNat;simp only[ByteArray.size_append,cO];omega)
  |(
   rw[List.take_of_length_le (by omega)]at hm;have ht:=vH (v:=((bU l).length:Int)) (k:=(bU l).length) hb (by omega);rw[List.take_of_length_le (by omega)]at ht;have hpk:=nR C (nN (IntKind.u64.wrap ((bU l).length-1)));omega)))
  |(conv=>whnf
    first
     |with_reducible first|done|exact trivial|refine NilBr.mk (fun h=>?_) ?_|apply aI|apply aH|refine aJ (by kernel_rfl) ?_|apply aK|apply bB|apply bA|apply aQ
     |((with_reducible first|apply aS|apply aR|apply aZ)<;>intro h<;>(try dsimp only[cu,eE,eN]at h)<;>(try(exfalso;omega)))
     |(
 intro yy (hy:Tag 12/\_)
 obtain⟨(k:Int),(x:ByteArray),_⟩:=yy
 replace hy:=hy.2
 dsimp only[cu,aC,aB,gts,eE,eN]at hy
 obtain⟨hk,hM⟩:=hy)
     |(
 intro yy (hy:Tag 13/\_)
 obtain⟨(k:Int),(C:List Int),_⟩:=yy
 replace hy:=hy.2
 dsimp only[cu,aC,aB,gts,eE,eN]at hy
 obtain⟨hk,hC⟩:=hy)))
 all_goals(
 with_reducible apply Leaf.mk
 (try dsimp only[cu,aC,aB,gts,eE,eN]at *)
 first
 |(
  have e0:l.length>4096:=by omega
  rw[qQ,if_pos e0])
 |rw[qQ,if_neg (by omega),hM,qJ8 (List.length_eq_zero_iff.1 (by omega)),HW,List.take_of_length_le (by omega)]
 |(
  rw[qQ,if_neg (by omega),hM,List.take_of_length_le (by omega),hC,List.take_of_length_le (by omega),aW (by have:=iD l;omega)];rw[wdN,show dX ((bU l).length-1) 0=(bU l).length-1 by(unfold dX;split<;>omega)]))
abbrev qWJ:Tbl:=(157,wM)::qWI
theorem qCO:aD Tryz.prog qWJ:=aD.cons ZK qCN
theorem lK (l:List Int) (j:Nat):@getElem! (List Int) Nat Int _ _ (instInhabitedDen (.int .u64)) l j=l[j]!:=rfl
def PJ:List Bool->Bool->Int->Int
 | [],_,_=>-1
 |b::r,v,k=>if v=b then k else PJ r v (k+1)
theorem LQ {l:List Bool} {v:Bool} {k:Int} (h:0<=k/\k<l.length):PJ (l.drop k.toNat) v k=if v=l[k.toNat]! then k else PJ (l.drop (k+1).toNat) v (k+1):=by
 rw[bH l k h,PJ]
theorem qKX {l:List Bool} {v:Bool} {k:Int} (h:¬k<l.length):PJ (l.drop k.toNat) v k = -1:=by
 rw[List.drop_eq_nil_of_le (by omega)];rfl
def qGG (l:List Bool) (v:Bool):Bool:=decide (PJ l v 0>=0)
def rM (k:Nat) (u:List Int):List Bool:=(List.range k).map fun j:Nat=>u.any fun c=>decide (c=(j:Int))
theorem ND (k:Nat) (u:List Int):(rM k u).length=k:=by simp [rM]
theorem qHX (k:Nat):rM k []=List.replicate k false:=by
 apply List.ext_getElem<;>simp [rM]
theorem qAD {k:Nat} {u:List Int} {i:Int} (h:0<=i/\i<u.length) (hc:0<=u[i.toNat]! /\u[i.toNat]! <k):(rM k (u.take i.toNat)).set u[i.toNat]!.toNat true=rM k (u.take (i+1).toNat):=by
 rw[show(i+1).toNat=i.toNat+1 by omega,List.take_succ_eq_append_getElem (by omega),<-getElem!_pos u i.toNat (by omega)];apply List.ext_getElem
 ·simp [rM]
 ·intro j h1 h2
  rw[List.getElem_set];simp only[rM,List.getElem_map,List.getElem_range,List.any_append];by_cases q:u[i.toNat]!.toNat=j
  ·rw[if_pos q]
   have:u[i.toNat]! =(j:Int):=by omega
   simp only[List.any_cons,List.any_nil,Bool.or_false,decide_eq_true this,Bool.or_true]
  ·rw[if_neg q]
   have:¬u[i.toNat]! =(j:Int):=by omega
   simp only[List.any_cons,List.any_nil,Bool.or_false,decide_eq_false this]
def OL (W:List ByteArray) (u:List Int):List ByteArray×Int:=if(u.any fun c=>decide (c>=(W.length:Int)))=true then([],2)else if qGG (rM W.length u) false=true then([],2)else(u.map fun c=>W[c.toNat]!,0)
def XQ (W:List ByteArray) (p:List Int×Int):List ByteArray×Int:=if ¬p.2=0 then([],p.2)else OL W p.1
def XP (s:ByteArray) (n:Int) (r:List ByteArray×Int×Int):List ByteArray×Int:=if ¬r.2.2=0 then([],r.2.2)else XQ r.1 (bN (s.extract r.2.1.toNat s.size) n (wdN r.1.length))
def cP (s:ByteArray) (n:Int):List ByteArray×Int:=
 if n<0\/n>4096 then([],4)else if ¬(aA s 0).2.2=0 then([],(aA s 0).2.2)
 else if(aA s 0).1>n\/((aA s 0).1=0/\n>0)then([],2)else XP s n (bV s (aA s 0).1.toNat (aA s 0).2.1 [])
theorem iC {s:ByteArray} {n w:Int} (h:(bN s n w).2=0):(bN s n w).1.length=n.toNat:=by
 unfold bN at h ⊢;split at h
 ·exact absurd h (by decide)
 ·rename_i h1
  rw[if_neg h1];split at h
  ·exact absurd h (by decide)
  ·rename_i h2
   rw[if_neg h2];split at h
   ·exact absurd h (by decide)
   ·rename_i h3
    rw[if_neg h3];split at h
    ·exact absurd h (by decide)
    ·rename_i h4
     rw[if_neg h4,lY]
theorem oY (s:ByteArray) (n w:Int):∀i:Nat,0<=(bN s n w).1[i]!:=by
 intro i;have nil:∀l:List Int,l= []->0<=l[i]!:=fun l h=>by subst h;exact Int.le_refl _
 unfold bN;split
 ·exact nil _ rfl
 split
 ·exact nil _ rfl
 split
 ·exact nil _ rfl
 split
 ·exact nil _ rfl
 ·by_cases h:i<n.toNat
  ·rw[YH h];exact(qA8 (vQ s) _ _ _ _).1
  ·rw[getElem!_neg _ _ (by rw[lY];exact h)];exact Int.le_refl _
theorem qIU {u:List Int} {i:Int} {K:Int} (h:0<=i/\i<u.length) (h1:(u.take i.toNat).any (fun c=>decide (c>=K))=false) (h2:¬u[i.toNat]! >=K):(u.take (i+1).toNat).any (fun c=>decide (c>=K))=false:=by
 rw[show(i+1).toNat=i.toNat+1 by omega,List.take_succ_eq_append_getElem (by omega),<-getElem!_pos u i.toNat (by omega),List.any_append,h1];simp only[List.any_cons,List.any_nil,Bool.or_false,Bool.false_or,decide_eq_false_iff_not];exact h2
theorem qN6 {u:List Int} {i:Int} {K:Int} (h:0<=i/\i<u.length) (h2:u[i.toNat]! >=K):u.any (fun c=>decide (c>=K))=true:=by
 rw[List.any_eq_true];exact⟨u[i.toNat]!,by rw[getElem!_pos u i.toNat (by omega)];exact List.getElem_mem _,by simpa using h2⟩
theorem map_take {W:List ByteArray} {u:List Int} {i:Int} (h:0<=i/\i<u.length):(u.take (i+1).toNat).map (fun c=>W[c.toNat]!)=(u.take i.toNat).map (fun c=>W[c.toNat]!)++ [W[u[i.toNat]!.toNat]!]:=by
 rw[show(i+1).toNat=i.toNat+1 by omega,List.take_succ_eq_append_getElem (by omega),<-getElem!_pos u i.toNat (by omega),List.map_append];rfl
theorem qJZ {W:List ByteArray} {u:List Int} {i:Int} (h:0<=i/\i<u.length) (h2:u[i.toNat]! >=(W.length:Int)):OL W u=([],2):=by rw[OL,if_pos (qN6 h h2)]
theorem qOP {W:List ByteArray} {u:List Int} {V:List Bool} (hV:V=rM W.length u) (hA:u.any (fun c=>decide (c>=(W.length:Int)))=false) (h:qGG V false=true):OL W u=([],2):=by
 rw[OL,if_neg (by rw[hA];decide),if_pos (by rw[<-hV];exact h)]
theorem qOO {W:List ByteArray} {u:List Int} {V:List Bool} (hV:V=rM W.length u) (hA:u.any (fun c=>decide (c>=(W.length:Int)))=false) (h:¬qGG V false=true):OL W u=(u.map fun c=>W[c.toNat]!,0):=by
 rw[OL,if_neg (by rw[hA];decide),if_neg (by rw[<-hV];exact h)]
theorem qM1 {α:Type} {u:List α} {i:Int} (h:¬i<u.length):u.take i.toNat=u:=List.take_of_length_le (by omega)
theorem qTI {s:ByteArray} {n:Int} {r:List ByteArray×Int×Int} (h:¬r.2.2=0):XP s n r=([],r.2.2):=by rw[XP,if_pos h]
theorem OM {s:ByteArray} {n:Int} {r:List ByteArray×Int×Int} (h:r.2.2=0):XP s n r=XQ r.1 (bN (s.extract r.2.1.toNat s.size) n (wdN r.1.length)):=by rw[XP,if_neg (fun q=>q h)]
theorem qTJ {W:List ByteArray} {p:List Int×Int} (h:¬p.2=0):XQ W p=([],p.2):=by rw[XQ,if_pos h]
theorem XR {W:List ByteArray} {p:List Int×Int} (h:p.2=0):XQ W p=OL W p.1:=by rw[XQ,if_neg (fun q=>q h)]
theorem qVN {s:ByteArray} {n:Int} (h:n<0\/n>4096):cP s n=([],4):=by rw[cP,if_pos h]
theorem qVO {s:ByteArray} {n:Int} (h:¬(n<0\/n>4096)) (h1:¬(aA s 0).2.2=0):cP s n=([],(aA s 0).2.2):=by rw[cP,if_neg h,if_pos h1]
theorem qVP {s:ByteArray} {n:Int} (h:¬(n<0\/n>4096)) (h1:(aA s 0).2.2=0) (h2:(aA s 0).1>n\/((aA s 0).1=0/\n>0)):cP s n=([],2):=by rw[cP,if_neg h,if_neg (fun q=>q h1),if_pos h2]
theorem qAX {s:ByteArray} {n:Int} (h:¬(n<0\/n>4096)) (h1:(aA s 0).2.2=0) (h2:¬((aA s 0).1>n\/((aA s 0).1=0/\n>0))):cP s n=XP s n (bV s (aA s 0).1.toNat (aA s 0).2.1 []):=by rw[cP,if_neg h,if_neg (fun q=>q h1),if_neg h2]
theorem qF (s:ByteArray):∀(n:Nat) (a:Int) (M:List ByteArray),(bV s n a M).1.length<=M.length+n
 |0,a,M=>by rw[bV];simp
 |n+1,a,M=>by
  rw[bV];split
  ·simp
  split
  ·simp
  split
  ·simp
  ·have:=qF s n ((aA s a).2.1+(aA s a).1) (M++ [II s a])
   simp at this;omega
theorem qKN {s:ByteArray} (h:(aA s 0).2.2=0):0<=(aA s 0).2.1/\(aA s 0).2.1<=s.size:=by have:=bO h;omega
theorem qRI {s:ByteArray} {n:Nat} (h0:(aA s 0).2.2=0) (h:(bV s n (aA s 0).2.1 []).2.2=0):0<=(bV s n (aA s 0).2.1 []).2.1/\(bV s n (aA s 0).2.1 []).2.1<=s.size:=(qE5 n _ _ h).2 (qKN h0)
abbrev qAR:Ct:=.fn [.list .bool,.bool] (some (fun(l:List Bool) (v:Bool)=>(l.length<=4611686018427387904))) (fun(l:List Bool) (v:Bool)=>.d (.int .i64) (PJ l v 0))
theorem qV5:aF Tryz.prog 226 qAR:=by
 refine aF.fn qCO mixed [] [] rfl rfl ?_;rintro⟨(l:List Bool),(v:Bool),_⟩ hpre;replace hpre:=hpre _ rfl;dsimp only[cu]at hpre;have hl:=hpre;refine⟨[(0,4,LA.mk [.sl 8 (.int .i64)] (fun y=>Tag 14/\cu [.int .i64] (fun(k:Int)=>(0<=k/\k<=l.length)/\(PJ l v 0=PJ (l.drop k.toNat) v k)) y) (cu [.int .i64] (fun(k:Int)=>((l.length:Int)-k).toNat)) (cu [.int .i64] (fun(k:Int)=>([]:List (Nat×Nat×LA)))))],?_⟩;repeat' (first
  |(
 with_reducible refine Side.mk ⟨(⟨⟩:Tag 14),?_⟩
 dsimp only[cu,aC,aB,gts,eE,eN]
 refine⟨?_,?_⟩
 ·omega
 ·first
  |rfl
  |(rw[hk2,LQ (by omega),if_neg (by simp_all;done)]))
  |(
 with_reducible apply Side.mk
 (try dsimp only[cu,aC,aB,gts,loK,hiK,eE,eN])
 omega)
  |(conv=>whnf
    first
     |with_reducible first|done|exact trivial|refine NilBr.mk (fun h=>?_) ?_|apply aI|apply aH|refine aJ (by kernel_rfl) ?_|apply aK|apply bB|apply bA|apply aQ
     |((with_reducible first|apply aS|apply aR|apply aZ)<;>intro h<;>(try dsimp only[cu,eE,eN]at h)<;>(try(exfalso;omega)))
     |(
 intro yy (hy:Tag 14/\_)
 obtain⟨(k:Int),_⟩:=yy
 replace hy:=hy.2
 dsimp only[cu,aC,aB,gts,eE,eN]at hy
 obtain⟨hk,hk2⟩:=hy)))
 all_goals(
 with_reducible apply Leaf.mk
 (try dsimp only[cu,aC,aB,gts,eE,eN]at *)
 first
 |rw[hk2,LQ (by omega),if_pos (by simp_all;done)]
 |(rw[hk2,qKX (by omega)]))
abbrev qWK:Tbl:=(226,qAR)::qWJ
theorem qCP:aD Tryz.prog qWK:=aD.cons qV5 qCO
abbrev JI:Ct:=.fn [.list .bool,.bool] (some (fun(l:List Bool) (v:Bool)=>(l.length<=4611686018427387904))) (fun(l:List Bool) (v:Bool)=>.d .bool (qGG l v))
theorem qPK:aF Tryz.prog 212 JI:=by
 refine aF.fn qCP mixed [] [] rfl rfl ?_;rintro⟨(l:List Bool),(v:Bool),_⟩ hpre;replace hpre:=hpre _ rfl;dsimp only[cu]at hpre;have hl:=hpre;refine⟨[],?_⟩;repeat' (first
  |(
 with_reducible apply Side.mk
 (try dsimp only[cu,aC,aB,gts,loK,hiK,eE,eN])
 omega)
  |(conv=>whnf
    first
     |with_reducible first|done|exact trivial|refine NilBr.mk (fun h=>?_) ?_|apply aI|apply aH|refine aJ (by kernel_rfl) ?_|apply aK|apply bB|apply bA|apply aQ
     |((with_reducible first|apply aS|apply aR|apply aZ)<;>intro h<;>(try dsimp only[cu,eE,eN]at h)<;>(try(exfalso;omega)))))
 all_goals(
 with_reducible apply Leaf.mk
 (try dsimp only[cu,aC,aB,gts,eE,eN]at *)
 rfl)
abbrev qWL:Tbl:=(212,JI)::qWK
theorem qCQ:aD Tryz.prog qWL:=aD.cons qPK qCP
abbrev AI:Ct:=.fn [.str,.int .i64] (some (fun(s:ByteArray) (n:Int)=>(s.size<=4611686018427387904))) (fun(s:ByteArray) (n:Int)=>.tup [.list .str,.int .i64] ((cP s n).1,(cP s n).2,()))
theorem qF5:aF Tryz.prog 189 AI:=by
 refine aF.fn qCQ mixed [] [] rfl rfl ?_;rintro⟨(s:ByteArray),(n:Int),_⟩ hpre;replace hpre:=hpre _ rfl;dsimp only[cu]at hpre;have hs:=hpre;refine⟨[(0,34,LA.mk [.sl 75 (.int .i64),.ar 0 .bool 4,.ar 1 .str 9] (fun y=>Tag 15/\cu [.int .i64,.list .bool,.list .str] (fun(i:Int) (V:List Bool) (O:List ByteArray)=>(0<=i/\i<=(bN (s.extract (bV s (aA s 0).1.toNat (aA s 0).2.1 []).2.1.toNat s.size) n (wdN (bV s (aA s 0).1.toNat (aA s 0).2.1 []).1.length)).1.length)/\(V=rM (bV s (aA s 0).1.toNat (aA s 0).2.1 []).1.length ((bN (s.extract (bV s (aA s 0).1.toNat (aA s 0).2.1 []).2.1.toNat s.size) n (wdN (bV s (aA s 0).1.toNat (aA s 0).2.1 []).1.length)).1.take i.toNat))/\(O.length=n.toNat)/\(O.take i.toNat=((bN (s.extract (bV s (aA s 0).1.toNat (aA s 0).2.1 []).2.1.toNat s.size) n (wdN (bV s (aA s 0).1.toNat (aA s 0).2.1 []).1.length)).1.take i.toNat).map (fun c=>(bV s (aA s 0).1.toNat (aA s 0).2.1 []).1[c.toNat]!))/\(((bN (s.extract (bV s (aA s 0).1.toNat (aA s 0).2.1 []).2.1.toNat s.size) n (wdN (bV s (aA s 0).1.toNat (aA s 0).2.1 []).1.length)).1.take i.toNat).any (fun c=>decide (c>=((bV s (aA s 0).1.toNat (aA s 0).2.1 []).1.length:Int)))=false)) y) (cu [.int .i64,.list .bool,.list .str] (fun(i:Int) (V:List Bool) (O:List ByteArray)=>(((bN (s.extract (bV s (aA s 0).1.toNat (aA s 0).2.1 []).2.1.toNat s.size) n (wdN (bV s (aA s 0).1.toNat (aA s 0).2.1 []).1.length)).1.length:Int)-i).toNat)) (cu [.int .i64,.list .bool,.list .str] (fun(i:Int) (V:List Bool) (O:List ByteArray)=>([]:List (Nat×Nat×LA)))))],?_⟩;repeat' (first
  |(
 with_reducible refine Side.mk ⟨(⟨⟩:Tag 15),?_⟩
 dsimp only[cu,aC,aB,gts,eE,eN]
 refine⟨?_,?_,?_,?_,?_⟩
 ·omega
 ·first
  |(
  rw[show((0:Int).toNat)=0 from rfl,List.take_zero,qHX]
  simp;done)
  |(
  have hur:=oY (s.extract (bV s (aA s 0).1.toNat (aA s 0).2.1 []).2.1.toNat s.size) n (wdN (bV s (aA s 0).1.toNat (aA s 0).2.1 []).1.length) i.toNat
  simp only[lK]at *
  have hg:=aX s 0
  have hwn:=aW (n:=n) (by omega)
  have hwl:=qF s (aA s 0).1.toNat (aA s 0).2.1 []
  simp only[List.length_nil,Nat.zero_add]at hwl
  have hww:=aW (n:=((bV s (aA s 0).1.toNat (aA s 0).2.1 []).1.length:Int)) (by omega)
  rw[hV,qAD (by omega) (by omega)])
 ·first
  |simp;done
  |simp;omega
 ·first
  |(
  rw[show((0:Int).toNat)=0 from rfl,List.take_zero]
  rfl)
  |(
  have hu0:(bN (s.extract (bV s (aA s 0).1.toNat (aA s 0).2.1 []).2.1.toNat s.size) n (wdN (bV s (aA s 0).1.toNat (aA s 0).2.1 []).1.length)).2=0:=by assumption
  have hul:=iC hu0
  simp only[lK]at *
  rw[map_take (by omega),show(i+1).toNat=i.toNat+1 by omega,yL _ _ _ (by omega),hO])
 ·first
  |(
  rw[show((0:Int).toNat)=0 from rfl,List.take_zero]
  rfl)
  |(
  have hg:=aX s 0
  have hwn:=aW (n:=n) (by omega)
  have hwl:=qF s (aA s 0).1.toNat (aA s 0).2.1 []
  simp only[List.length_nil,Nat.zero_add]at hwl
  have hww:=aW (n:=((bV s (aA s 0).1.toNat (aA s 0).2.1 []).1.length:Int)) (by omega)
  simp only[lK]at *
  exact qIU (by omega) hA (by omega)))
  |(
 with_reducible apply Side.mk
 (try dsimp only[cu,aC,aB,gts,loK,hiK,eE,eN])
 first
 |omega
 |(
  have hg:=aX s 0;have hwn:=aW (n:=n) (by omega);first
  |omega
  |(
   have hwl:=qF s (aA s 0).1.toNat (aA s 0).2.1 [];simp only[List.length_nil,Nat.zero_add]at hwl;have hww:=aW (n:=((bV s (aA s 0).1.toNat (aA s 0).2.1 []).1.length:Int)) (by omega);omega))
 |(
  have:=qRI (s:=s) (by assumption) (by assumption:(bV s (aA s 0).1.toNat (aA s 0).2.1 []).2.2=0);omega)
 |simp only[ByteArray.size_extract];omega
 |(
  have hur:=oY (s.extract (bV s (aA s 0).1.toNat (aA s 0).2.1 []).2.1.toNat s.size) n (wdN (bV s (aA s 0).1.toNat (aA s 0).2.1 []).1.length) i.toNat;simp only[lK]at *;omega)
 |(
  have hg:=aX s 0;have hwn:=aW (n:=n) (by omega);have hwl:=qF s (aA s 0).1.toNat (aA s 0).2.1 [];simp only[List.length_nil,Nat.zero_add]at hwl;have hww:=aW (n:=((bV s (aA s 0).1.toNat (aA s 0).2.1 []).1.length:Int)) (by omega);first
  |(
   have hu0:(bN (s.extract (bV s (aA s 0).1.toNat (aA s 0).2.1 []).2.1.toNat s.size) n (wdN (bV s (aA s 0).1.toNat (aA s 0).2.1 []).1.length)).2=0:=by assumption
   have hul:=iC hu0;have hur:=oY (s.extract (bV s (aA s 0).1.toNat (aA s 0).2.1 []).2.1.toNat s.size) n (wdN (bV s (aA s 0).1.toNat (aA s 0).2.1 []).1.length) i.toNat;simp only[lK]at *;first
   |rw[hV,ND];omega
   |(omega))
  |(rw[hV,ND];omega)))
  |(conv=>whnf
    first
     |with_reducible first|done|exact trivial|refine NilBr.mk (fun h=>?_) ?_|apply aI|apply aH|refine aJ (by kernel_rfl) ?_|apply aK|apply bB|apply bA|apply aQ
     |((with_reducible first|apply aS|apply aR|apply aZ)<;>intro h<;>(try dsimp only[cu,eE,eN]at h)<;>(try(exfalso;omega)))
     |(
 intro yy (hy:Tag 15/\_)
 obtain⟨(i:Int),(V:List Bool),(O:List ByteArray),_⟩:=yy
 replace hy:=hy.2
 dsimp only[cu,aC,aB,gts,eE,eN]at hy
 obtain⟨hi,hV,hOl,hO,hA⟩:=hy)))
 all_goals(
 with_reducible apply Leaf.mk
 (try dsimp only[cu,aC,aB,gts,eE,eN]at *)
 first
 |(
  have q1:n<0\/n>4096:=by first|omega|(simp_all;done)
  rw[qVN q1])
 |(
  have q1:¬(n<0\/n>4096):=by first|omega|(simp_all;done)
  have q2:¬(aA s 0).2.2=0:=by assumption
  rw[qVO q1 q2])
 |(
  have hg:=aX s 0;have hwn:=aW (n:=n) (by omega);first
  |(
   have q1:¬(n<0\/n>4096):=by first|omega|(simp_all;done)
   have q2:(aA s 0).2.2=0:=by first|assumption|omega|(simp_all;done)
   first
   |(
    have q3:(aA s 0).1>n\/((aA s 0).1=0/\n>0):=by first|omega|(simp_all;done)
    rw[qVP q1 q2 q3])
   |(
    have q3:¬((aA s 0).1>n\/((aA s 0).1=0/\n>0)):=by first|omega|(simp_all;omega)|(simp_all;done)
    rw[qAX q1 q2 q3];first
    |(
     have q4:¬(bV s (aA s 0).1.toNat (aA s 0).2.1 []).2.2=0:=by assumption
     rw[qTI q4])
    |(
     have q4:(bV s (aA s 0).1.toNat (aA s 0).2.1 []).2.2=0:=by first|assumption|omega
     rw[OM q4];have q5:¬(bN (s.extract (bV s (aA s 0).1.toNat (aA s 0).2.1 []).2.1.toNat s.size) n (wdN (bV s (aA s 0).1.toNat (aA s 0).2.1 []).1.length)).2=0:=by assumption
     rw[qTJ q5])))
  |(
   have hwl:=qF s (aA s 0).1.toNat (aA s 0).2.1 [];simp only[List.length_nil,Nat.zero_add]at hwl;have hww:=aW (n:=((bV s (aA s 0).1.toNat (aA s 0).2.1 []).1.length:Int)) (by omega);have q1:¬(n<0\/n>4096):=by first|omega|(simp_all;done)
   have q2:(aA s 0).2.2=0:=by first|assumption|omega|(simp_all;done)
   have q3:¬((aA s 0).1>n\/((aA s 0).1=0/\n>0)):=by first|omega|(simp_all;omega)|(simp_all;done)
   rw[qAX q1 q2 q3];have q4:(bV s (aA s 0).1.toNat (aA s 0).2.1 []).2.2=0:=by first|assumption|omega
   rw[OM q4];have q5:(bN (s.extract (bV s (aA s 0).1.toNat (aA s 0).2.1 []).2.1.toNat s.size) n (wdN (bV s (aA s 0).1.toNat (aA s 0).2.1 []).1.length)).2=0:=by first|assumption|omega
   rw[XR q5];have q6:(bN (s.extract (bV s (aA s 0).1.toNat (aA s 0).2.1 []).2.1.toNat s.size) n (wdN (bV s (aA s 0).1.toNat (aA s 0).2.1 []).1.length)).1[i.toNat]! >=((bV s (aA s 0).1.toNat (aA s 0).2.1 []).1.length:Int):=by simp only[lK]at *;omega
   rw[qJZ (i:=i) (by omega) q6]))
 |(
  have ta0:¬i<((bN (s.extract (bV s (aA s 0).1.toNat (aA s 0).2.1 []).2.1.toNat s.size) n (wdN (bV s (aA s 0).1.toNat (aA s 0).2.1 []).1.length)).1.length:Int):=by assumption
  have ta:=qM1 ta0;rw[ta]at hV hA hO;first
  |(
   have hg:=aX s 0;have hwn:=aW (n:=n) (by omega);have q1:¬(n<0\/n>4096):=by first|omega|(simp_all;done)
   have q2:(aA s 0).2.2=0:=by first|assumption|omega|(simp_all;done)
   have q3:¬((aA s 0).1>n\/((aA s 0).1=0/\n>0)):=by first|omega|(simp_all;omega)|(simp_all;done)
   rw[qAX q1 q2 q3];have q4:(bV s (aA s 0).1.toNat (aA s 0).2.1 []).2.2=0:=by first|assumption|omega
   rw[OM q4];have q5:(bN (s.extract (bV s (aA s 0).1.toNat (aA s 0).2.1 []).2.1.toNat s.size) n (wdN (bV s (aA s 0).1.toNat (aA s 0).2.1 []).1.length)).2=0:=by first|assumption|omega
   rw[XR q5];have q6:qGG V false=true:=by assumption
   rw[qOP hV hA q6])
  |(
   have hu0:(bN (s.extract (bV s (aA s 0).1.toNat (aA s 0).2.1 []).2.1.toNat s.size) n (wdN (bV s (aA s 0).1.toNat (aA s 0).2.1 []).1.length)).2=0:=by assumption
   have hul:=iC hu0;have hg:=aX s 0;have hwn:=aW (n:=n) (by omega);have q1:¬(n<0\/n>4096):=by first|omega|(simp_all;done)
   have q2:(aA s 0).2.2=0:=by first|assumption|omega|(simp_all;done)
   have q3:¬((aA s 0).1>n\/((aA s 0).1=0/\n>0)):=by first|omega|(simp_all;omega)|(simp_all;done)
   rw[qAX q1 q2 q3];have q4:(bV s (aA s 0).1.toNat (aA s 0).2.1 []).2.2=0:=by first|assumption|omega
   rw[OM q4];have q5:(bN (s.extract (bV s (aA s 0).1.toNat (aA s 0).2.1 []).2.1.toNat s.size) n (wdN (bV s (aA s 0).1.toNat (aA s 0).2.1 []).1.length)).2=0:=by first|assumption|omega
   rw[XR q5];have q6:¬qGG V false=true:=by simp_all;done
   rw[qOO hV hA q6];(try rw[List.take_of_length_le (by omega)]at hO);first|done|exact hO|rfl)))
abbrev qWM:Tbl:=(189,AI)::qWL
theorem qCR:aD Tryz.prog qWM:=aD.cons qF5 qCQ
abbrev EMP:ByteArray:=⟨#[]⟩
def bS (t:Int):Bool:=decide (1<=t)&&decide (t<=5)
def gI (t:Int) (v:Val):Bool:=
 if t=2 then decide (v.2.1=0)||decide (v.2.1=1)else if t=4 then decide (-719162<=v.2.1)&&decide (v.2.1<=2932896)
 else if t=5 then decide (-999999999999999999<=v.2.1)&&decide (v.2.1<=999999999999999999)else if t=3 then decide (v.2.2.size<=64)else true
def bQ (c:Col) (v:Val):Int:=
 if bS c.2.1=false then 1 else if(v.1=true\/c.2.1≠3)/\v.2.2≠EMP then 11 else if(v.1=true\/c.2.1=3)/\v.2.1≠0 then 11
 else if v.1=true/\c.2.2.2=false then 12 else if v.1=false/\gI c.2.1 v=false then 4 else 0
def nM (a b:Int):Int:=if a<b then -1 else if a>b then 1 else 0
def zS (a b:ByteArray):Int:=if eJ a b then -1 else if a=b then 0 else 1
def fC (t:Int) (a b:Val):Int:=
 if a.1=true/\b.1=true then 0 else if a.1=true then -1 else if b.1=true then 1 else if t=3 then zS a.2.2 b.2.2 else nM a.2.1 b.2.1
theorem yH {s:ByteArray} (h:¬s=⟨#[]⟩):0<s.size:=by
 rcases Nat.eq_zero_or_pos s.size with q|q
 ·exfalso;apply h
  apply ByteArray.ext;exact Array.eq_empty_of_size_eq_zero q
 ·exact q
abbrev DY:Ct:=.fn [.int .i64] (none) (fun(t:Int)=>.d .bool (bS t))
theorem qK1:aF Tryz.prog 148 DY:=by
 refine aF.fn qCR mixed [] [] rfl rfl ?_;rintro⟨(t:Int),_⟩ -;refine⟨[],?_⟩;repeat' (first
  |(
 with_reducible apply Side.mk
 (try dsimp only[cu,aC,aB,gts,loK,hiK,eE,eN])
 done)
  |(conv=>whnf
    first
     |with_reducible first|done|exact trivial|refine NilBr.mk (fun h=>?_) ?_|apply aI|apply aH|refine aJ (by kernel_rfl) ?_|apply aK|apply bB|apply bA|apply aQ
     |((with_reducible first|apply aS|apply aR|apply aZ)<;>intro h<;>(try dsimp only[cu,eE,eN]at h)<;>(try(exfalso;omega)))))
 all_goals(
 with_reducible apply Leaf.mk
 (try dsimp only[cu,aC,aB,gts,eE,eN]at *)
 grind [bS])
abbrev qWN:Tbl:=(148,DY)::qWM
theorem qCS:aD Tryz.prog qWN:=aD.cons qK1 qCR
abbrev rS:Ct:=.fn [.int .i64,bP] (none) (fun(t:Int) (v:Val)=>.d .bool (gI t v))
theorem PZ:aF Tryz.prog 149 rS:=by
 refine aF.fn qCS mixed [] [] rfl rfl ?_;rintro⟨(t:Int),(v:Val),_⟩ -;refine⟨[],?_⟩;repeat' (first
  |(
 with_reducible apply Side.mk
 (try dsimp only[cu,aC,aB,gts,loK,hiK,eE,eN])
 done)
  |(conv=>whnf
    first
     |with_reducible first|done|exact trivial|refine NilBr.mk (fun h=>?_) ?_|apply aI|apply aH|refine aJ (by kernel_rfl) ?_|apply aK|apply bB|apply bA|apply aQ
     |((with_reducible first|apply aS|apply aR|apply aZ)<;>intro h<;>(try dsimp only[cu,eE,eN]at h)<;>(try(exfalso;omega)))))
 all_goals(
 with_reducible apply Leaf.mk
 (try dsimp only[cu,aC,aB,gts,eE,eN]at *)
 grind [gI])
abbrev qWO:Tbl:=(149,rS)::qWN
theorem qCT:aD Tryz.prog qWO:=aD.cons PZ qCS
abbrev AZ:Ct:=.fn [qC,bP] (none) (fun(c:Col) (v:Val)=>.d (.int .i64) (bQ c v))
theorem qHY:aF Tryz.prog 108 AZ:=by
 refine aF.fn qCT mixed [] [] rfl rfl ?_;rintro⟨(c:Col),(v:Val),_⟩ -;refine⟨[],?_⟩;repeat' (first
  |(
 with_reducible apply Side.mk
 (try dsimp only[cu,aC,aB,gts,loK,hiK,eE,eN])
 done)
  |(conv=>whnf
    first
     |with_reducible first|done|exact trivial|refine NilBr.mk (fun h=>?_) ?_|apply aI|apply aH|refine aJ (by kernel_rfl) ?_|apply aK|apply bB|apply bA|apply aQ
     |((with_reducible first|apply aS|apply aR|apply aZ)<;>intro h<;>(try dsimp only[cu,eE,eN]at h)<;>(try(exfalso;omega)))))
 all_goals(
 with_reducible apply Leaf.mk
 (try dsimp only[cu,aC,aB,gts,eE,eN]at *)
 grind [bQ,bS,gI,fC,nM])
abbrev qWP:Tbl:=(108,AZ)::qWO
theorem qCU:aD Tryz.prog qWP:=aD.cons qHY qCT
abbrev AK:Ct:=.fn [.str] (none) (fun(a:ByteArray)=>.d .bool false)
theorem qGJ:aF Tryz.prog 185 AK:=by
 refine aF.fn qCU mixed [] [] rfl rfl ?_;rintro⟨(a:ByteArray),_⟩ -;refine⟨[],?_⟩;repeat' (first
  |(
 with_reducible apply Side.mk
 (try dsimp only[cu,aC,aB,gts,loK,hiK,eE,eN])
 done)
  |(conv=>whnf
    first
     |with_reducible first|done|exact trivial|refine NilBr.mk (fun h=>?_) ?_|apply aI|apply aH|refine aJ (by kernel_rfl) ?_|apply aK|apply bB|apply bA|apply aQ
     |((with_reducible first|apply aS|apply aR|apply aZ)<;>intro h<;>(try dsimp only[cu,eE,eN]at h)<;>(try(exfalso;omega)))))
 all_goals(
 with_reducible apply Leaf.mk
 (try dsimp only[cu,aC,aB,gts,eE,eN]at *)
 simp)
abbrev qWQ:Tbl:=(185,AK)::qWP
theorem qCV:aD Tryz.prog qWQ:=aD.cons qGJ qCU
abbrev wF:Ct:=.fn [.int .i64] (none) (fun(a:Int)=>.d .bool false)
theorem YL:aF Tryz.prog 162 wF:=by
 refine aF.fn qCV mixed [] [] rfl rfl ?_;rintro⟨(a:Int),_⟩ -;refine⟨[],?_⟩;repeat' (first
  |(
 with_reducible apply Side.mk
 (try dsimp only[cu,aC,aB,gts,loK,hiK,eE,eN])
 done)
  |(conv=>whnf
    first
     |with_reducible first|done|exact trivial|refine NilBr.mk (fun h=>?_) ?_|apply aI|apply aH|refine aJ (by kernel_rfl) ?_|apply aK|apply bB|apply bA|apply aQ
     |((with_reducible first|apply aS|apply aR|apply aZ)<;>intro h<;>(try dsimp only[cu,eE,eN]at h)<;>(try(exfalso;omega)))))
 all_goals(
 with_reducible apply Leaf.mk
 (try dsimp only[cu,aC,aB,gts,eE,eN]at *)
 simp)
abbrev qWR:Tbl:=(162,wF)::qWQ
theorem qCW:aD Tryz.prog qWR:=aD.cons YL qCV
abbrev DU:Ct:=.fn [.int .i64,.int .i64] (none) (fun(a:Int) (b:Int)=>.d (.int .i64) (nM a b))
theorem qJE:aF Tryz.prog 132 DU:=by
 refine aF.fn qCW mixed [] [] rfl rfl ?_;rintro⟨(a:Int),(b:Int),_⟩ -;refine⟨[],?_⟩;repeat' (first
  |(
 with_reducible apply Side.mk
 (try dsimp only[cu,aC,aB,gts,loK,hiK,eE,eN])
 done)
  |(conv=>whnf
    first
     |with_reducible first|done|exact trivial|refine NilBr.mk (fun h=>?_) ?_|apply aI|apply aH|refine aJ (by kernel_rfl) ?_|apply aK|apply bB|apply bA|apply aQ
     |((with_reducible first|apply aS|apply aR|apply aZ)<;>intro h<;>(try dsimp only[cu,eE,eN]at h)<;>(try(exfalso;omega)))))
 all_goals(
 with_reducible apply Leaf.mk
 (try dsimp only[cu,aC,aB,gts,eE,eN]at *)
 grind [bQ,bS,gI,fC,nM])
abbrev qWS:Tbl:=(132,DU)::qWR
theorem qCX:aD Tryz.prog qWS:=aD.cons qJE qCW
abbrev IX:Ct:=.fn [.str,.str] (none) (fun(a:ByteArray) (b:ByteArray)=>.d (.int .i64) (zS a b))
theorem qOF:aF Tryz.prog 161 IX:=by
 refine aF.fn qCX mixed [] [] rfl rfl ?_;rintro⟨(a:ByteArray),(b:ByteArray),_⟩ -;refine⟨[],?_⟩;repeat' (first
  |(
 with_reducible apply Side.mk
 (try dsimp only[cu,aC,aB,gts,loK,hiK,eE,eN])
 done)
  |(conv=>whnf
    first
     |with_reducible first|done|exact trivial|refine NilBr.mk (fun h=>?_) ?_|apply aI|apply aH|refine aJ (by kernel_rfl) ?_|apply aK|apply bB|apply bA|apply aQ
     |((with_reducible first|apply aS|apply aR|apply aZ)<;>intro h<;>(try dsimp only[cu,eE,eN]at h)<;>(try(exfalso;omega)))))
 all_goals(
 with_reducible apply Leaf.mk
 (try dsimp only[cu,aC,aB,gts,eE,eN]at *)
 grind [zS])
abbrev qWT:Tbl:=(161,IX)::qWS
theorem qCY:aD Tryz.prog qWT:=aD.cons qOF qCX
abbrev uU:Ct:=.fn [.int .i64,bP,bP] (none) (fun(t:Int) (a:Val) (b:Val)=>.d (.int .i64) (fC t a b))
theorem WN:aF Tryz.prog 131 uU:=by
 refine aF.fn qCY mixed [] [] rfl rfl ?_;rintro⟨(t:Int),(a:Val),(b:Val),_⟩ -;refine⟨[],?_⟩;repeat' (first
  |(
 with_reducible apply Side.mk
 (try dsimp only[cu,aC,aB,gts,loK,hiK,eE,eN])
 done)
  |(conv=>whnf
    first
     |with_reducible first|done|exact trivial|refine NilBr.mk (fun h=>?_) ?_|apply aI|apply aH|refine aJ (by kernel_rfl) ?_|apply aK|apply bB|apply bA|apply aQ
     |((with_reducible first|apply aS|apply aR|apply aZ)<;>intro h<;>(try dsimp only[cu,eE,eN]at h)<;>(try(exfalso;omega)))))
 all_goals(
 with_reducible apply Leaf.mk
 (try dsimp only[cu,aC,aB,gts,eE,eN]at *)
 grind [bQ,bS,gI,fC,nM])
abbrev qWU:Tbl:=(131,uU)::qWT
theorem qCZ:aD Tryz.prog qWU:=aD.cons WN qCY
abbrev EY:Ct:=.fn [.int .i64] (none) (fun(t:Int)=>.d .bool (bS t))
theorem qNJ:aF Tryz.prog 54 EY:=by
 refine aF.fn qCZ mixed [] [] rfl rfl ?_;rintro⟨(t:Int),_⟩ -;refine⟨[],?_⟩;repeat' (first
  |(
 with_reducible apply Side.mk
 (try dsimp only[cu,aC,aB,gts,loK,hiK,eE,eN])
 done)
  |(conv=>whnf
    first
     |with_reducible first|done|exact trivial|refine NilBr.mk (fun h=>?_) ?_|apply aI|apply aH|refine aJ (by kernel_rfl) ?_|apply aK|apply bB|apply bA|apply aQ
     |((with_reducible first|apply aS|apply aR|apply aZ)<;>intro h<;>(try dsimp only[cu,eE,eN]at h)<;>(try(exfalso;omega)))))
 all_goals(
 with_reducible apply Leaf.mk
 (try dsimp only[cu,aC,aB,gts,eE,eN]at *)
 grind [bS])
abbrev qWV:Tbl:=(54,EY)::qWU
theorem qC0:aD Tryz.prog qWV:=aD.cons qNJ qCZ
abbrev AN:Ct:=.fn [qC,bP] (none) (fun(c:Col) (v:Val)=>.d (.int .i64) (bQ c v))
theorem qG0:aF Tryz.prog 81 AN:=by
 refine aF.fn qC0 mixed [] [] rfl rfl ?_;rintro⟨(c:Col),(v:Val),_⟩ -;refine⟨[],?_⟩;repeat' (first
  |(
 with_reducible apply Side.mk
 (try dsimp only[cu,aC,aB,gts,loK,hiK,eE,eN])
 done)
  |(conv=>whnf
    first
     |with_reducible first|done|exact trivial|refine NilBr.mk (fun h=>?_) ?_|apply aI|apply aH|refine aJ (by kernel_rfl) ?_|apply aK|apply bB|apply bA|apply aQ
     |((with_reducible first|apply aS|apply aR|apply aZ)<;>intro h<;>(try dsimp only[cu,eE,eN]at h)<;>(try(exfalso;omega)))))
 all_goals(
 with_reducible apply Leaf.mk
 (try dsimp only[cu,aC,aB,gts,eE,eN]at *)
 grind [bQ,bS,gI,fC,nM])
abbrev qWW:Tbl:=(81,AN)::qWV
theorem qC1:aD Tryz.prog qWW:=aD.cons qG0 qC0
abbrev EG:Ct:=.fn [.bool,.bool] (none) (fun(l:Bool) (e:Bool)=>.d (.int .i64) (if l=true then -1 else if e=true then 0 else 1))
theorem qLL:aF Tryz.prog 154 EG:=by
 refine aF.fn qC1 mixed [] [] rfl rfl ?_;rintro⟨(l:Bool),(e:Bool),_⟩ -;refine⟨[],?_⟩;repeat' (first
  |(
 with_reducible apply Side.mk
 (try dsimp only[cu,aC,aB,gts,loK,hiK,eE,eN])
 done)
  |(conv=>whnf
    first
     |with_reducible first|done|exact trivial|refine NilBr.mk (fun h=>?_) ?_|apply aI|apply aH|refine aJ (by kernel_rfl) ?_|apply aK|apply bB|apply bA|apply aQ
     |((with_reducible first|apply aS|apply aR|apply aZ)<;>intro h<;>(try dsimp only[cu,eE,eN]at h)<;>(try(exfalso;omega)))))
 all_goals(
 with_reducible apply Leaf.mk
 (try dsimp only[cu,aC,aB,gts,eE,eN]at *)
 simp_all)
abbrev qWX:Tbl:=(154,EG)::qWW
theorem qC2:aD Tryz.prog qWX:=aD.cons qLL qC1
abbrev uS:Ct:=.fn [.int .i64,bP,bP] (none) (fun(t:Int) (a:Val) (b:Val)=>.d (.int .i64) (fC t a b))
theorem TY:aF Tryz.prog 117 uS:=by
 refine aF.fn qC2 mixed [] [] rfl rfl ?_;rintro⟨(t:Int),(a:Val),(b:Val),_⟩ -;refine⟨[],?_⟩;repeat' (first
  |(
 with_reducible apply Side.mk
 (try dsimp only[cu,aC,aB,gts,loK,hiK,eE,eN])
 done)
  |(conv=>whnf
    first
     |with_reducible first|done|exact trivial|refine NilBr.mk (fun h=>?_) ?_|apply aI|apply aH|refine aJ (by kernel_rfl) ?_|apply aK|apply bB|apply bA|apply aQ
     |((with_reducible first|apply aS|apply aR|apply aZ)<;>intro h<;>(try dsimp only[cu,eE,eN]at h)<;>(try(exfalso;omega)))))
 all_goals(
 with_reducible apply Leaf.mk
 (try dsimp only[cu,aC,aB,gts,eE,eN]at *)
 grind [fC,nM,zS])
abbrev qWY:Tbl:=(117,uS)::qWX
theorem qC3:aD Tryz.prog qWY:=aD.cons TY qC2
def rnd (v:Int):Int:=mN .u32 (iV .u32 v 1) (IntKind.u32.wrap (2197175160*qM .u32 v 1))
def xZ:Nat->Int->Int
 |0,v=>v
 |n+1,v=>xZ n (rnd v)
theorem qMD (v:Int):0<=rnd v/\rnd v<4294967296:=wB _ _
theorem qQU {v:Int} (h:qM .u32 v 1=1):rnd v=mN .u32 (iV .u32 v 1) 2197175160:=by
 unfold rnd;rw[h];rfl
theorem qME {v:Int} (hv:0<=v/\v<4294967296) (h:¬qM .u32 v 1=1):rnd v=iV .u32 v 1:=by
 have h0:qM .u32 v 1=0:=by rw[qVC hv]at h ⊢;omega
 unfold rnd;rw[h0,show IntKind.u32.wrap (2197175160*0)=0 from rfl,qVF (by simpa using qCB hv 1)]
theorem zR {k v:Int} (h:0<=k/\k<8):xZ (8-k).toNat v=xZ (8-(k+1)).toNat (rnd v):=by
 rw[show(8-k).toNat=(8-(k+1)).toNat+1 by omega];rfl
def cR:List Int:=(List.range 256).map fun i:Nat=>xZ 8 (i:Int)
theorem vE:cR.length=256:=by simp [cR]
def cstep (t:List Int) (v b:Int):Int:=mN .u32 (iV .u32 v 8) t[(mN .u8 (IntKind.u8.wrap v) b).toNat]!
def bnot (v:Int):Int:=mN .u32 (-1) v
def zT (t:List Int) (s:ByteArray):Int:=if t.length=256 then bnot ((aN s).foldl (cstep t) 4294967295)else 0
def iM (s:ByteArray):Int:=zT cR s
theorem LF {t:List Int} {s:ByteArray} {k v:Int} (h:0<=k/\k<s.size):((aN s).drop k.toNat).foldl (cstep t) v=((aN s).drop (k+1).toNat).foldl (cstep t) (cstep t v (aG s k.toNat)):=by
 rw[bH (aN s) k (by rw[bF];exact h),List.foldl_cons,oB]
abbrev KG:Ct:=.fn [.list (.int .u32),.int .u32,.int .u8] (some (fun(t:List Int) (v:Int) (b:Int)=>(t.length=256))) (fun(t:List Int) (v:Int) (b:Int)=>.d (.int .u32) (cstep t v b))
theorem qQ7:aF Tryz.prog 116 KG:=by
 refine aF.fn qC3 mixed [] [] rfl rfl ?_;rintro⟨(t:List Int),(v:Int),(b:Int),_⟩ hpre;replace hpre:=hpre _ rfl;dsimp only[cu]at hpre;have ht:=hpre;refine⟨[],?_⟩;repeat' (first
  |(
 with_reducible apply Side.mk
 (try dsimp only[cu,aC,aB,gts,loK,hiK,eE,eN])
 first
 |omega
 |(have hx:=NX (IntKind.u8.wrap v) b;omega))
  |(conv=>whnf
    first
     |with_reducible first|done|exact trivial|refine NilBr.mk (fun h=>?_) ?_|apply aI|apply aH|refine aJ (by kernel_rfl) ?_|apply aK|apply bB|apply bA|apply aQ
     |((with_reducible first|apply aS|apply aR|apply aZ)<;>intro h<;>(try dsimp only[cu,eE,eN]at h)<;>(try(exfalso;omega)))))
 all_goals(
 with_reducible apply Leaf.mk
 (try dsimp only[cu,aC,aB,gts,eE,eN]at *)
 rfl)
abbrev qWZ:Tbl:=(116,KG)::qWY
theorem qC4:aD Tryz.prog qWZ:=aD.cons qQ7 qC3
abbrev RR:Ct:=.fn [.list (.int .u32),.str] (some (fun(t:List Int) (s:ByteArray)=>(s.size<=9223372036854775807))) (fun(t:List Int) (s:ByteArray)=>.d (.int .u32) (zT t s))
theorem qU1:aF Tryz.prog 70 RR:=by
 refine aF.fn qC4 mixed [] [] rfl rfl ?_;rintro⟨(t:List Int),(s:ByteArray),_⟩ hpre;replace hpre:=hpre _ rfl;dsimp only[cu]at hpre;have hs:=hpre;refine⟨[(0,10,LA.mk [.sl 12 (.int .i64),.sl 5 (.int .u32)] (fun y=>Tag 16/\cu [.int .i64,.int .u32] (fun(k:Int) (v:Int)=>(0<=k/\k<=s.size)/\(((aN s).drop k.toNat).foldl (cstep t) v=(aN s).foldl (cstep t) 4294967295)) y) (cu [.int .i64,.int .u32] (fun(k:Int) (v:Int)=>((s.size:Int)-k).toNat)) (cu [.int .i64,.int .u32] (fun(k:Int) (v:Int)=>([]:List (Nat×Nat×LA)))))],?_⟩;repeat' (first
  |(
 with_reducible refine Side.mk ⟨(⟨⟩:Tag 16),?_⟩
 dsimp only[cu,aC,aB,gts,eE,eN]
 refine⟨?_,?_⟩
 ·omega
 ·first
  |simp;done
  |(rw[<-hv,LF (k:=k) (v:=v) (by omega)];(try rfl)))
  |(
 with_reducible apply Side.mk
 (try dsimp only[cu,aC,aB,gts,loK,hiK,eE,eN])
 omega)
  |(conv=>whnf
    first
     |with_reducible first|done|exact trivial|refine NilBr.mk (fun h=>?_) ?_|apply aI|apply aH|refine aJ (by kernel_rfl) ?_|apply aK|apply bB|apply bA|apply aQ
     |((with_reducible first|apply aS|apply aR|apply aZ)<;>intro h<;>(try dsimp only[cu,eE,eN]at h)<;>(try(exfalso;omega)))
     |(
 intro yy (hy:Tag 16/\_)
 obtain⟨(k:Int),(v:Int),_⟩:=yy
 replace hy:=hy.2
 dsimp only[cu,aC,aB,gts,eE,eN]at hy
 obtain⟨hk,hv⟩:=hy)))
 all_goals(
 with_reducible apply Leaf.mk
 (try dsimp only[cu,aC,aB,gts,eE,eN]at *)
 first
 |(
  have h256:¬t.length=256:=by omega
  rw[zT,if_neg h256])
 |(
  have h256:t.length=256:=by omega
  rw[zT,if_pos h256,<-hv,List.drop_eq_nil_of_le (by rw[bF];omega)];rfl))
abbrev qW0:Tbl:=(70,RR)::qWZ
theorem qC5:aD Tryz.prog qW0:=aD.cons qU1 qC4
abbrev KC:Ct:=.fn [.list (.int .u32),.str] (some (fun(t:List Int) (s:ByteArray)=>(s.size<=9223372036854775807))) (fun(t:List Int) (s:ByteArray)=>.d (.int .u32) (zT t s))
theorem qQX:aF Tryz.prog 85 KC:=by
 refine aF.fn qC5 mixed [] [] rfl rfl ?_;rintro⟨(t:List Int),(s:ByteArray),_⟩ hpre;replace hpre:=hpre _ rfl;dsimp only[cu]at hpre;have hs:=hpre;refine⟨[(0,10,LA.mk [.sl 6 (.int .i64),.sl 5 (.int .u32)] (fun y=>Tag 17/\cu [.int .i64,.int .u32] (fun(k:Int) (v:Int)=>(0<=k/\k<=s.size)/\(((aN s).drop k.toNat).foldl (cstep t) v=(aN s).foldl (cstep t) 4294967295)) y) (cu [.int .i64,.int .u32] (fun(k:Int) (v:Int)=>((s.size:Int)-k).toNat)) (cu [.int .i64,.int .u32] (fun(k:Int) (v:Int)=>([]:List (Nat×Nat×LA)))))],?_⟩;repeat' (first
  |(
 with_reducible refine Side.mk ⟨(⟨⟩:Tag 17),?_⟩
 dsimp only[cu,aC,aB,gts,eE,eN]
 refine⟨?_,?_⟩
 ·omega
 ·first
  |simp;done
  |(rw[<-hv,LF (k:=k) (v:=v) (by omega)];(try rfl)))
  |(
 with_reducible apply Side.mk
 (try dsimp only[cu,aC,aB,gts,loK,hiK,eE,eN])
 first
 |omega
 |(have hx:=NX (IntKind.u8.wrap v) (aG s k.toNat);omega))
  |(conv=>whnf
    first
     |with_reducible first|done|exact trivial|refine NilBr.mk (fun h=>?_) ?_|apply aI|apply aH|refine aJ (by kernel_rfl) ?_|apply aK|apply bB|apply bA|apply aQ
     |((with_reducible first|apply aS|apply aR|apply aZ)<;>intro h<;>(try dsimp only[cu,eE,eN]at h)<;>(try(exfalso;omega)))
     |(
 intro yy (hy:Tag 17/\_)
 obtain⟨(k:Int),(v:Int),_⟩:=yy
 replace hy:=hy.2
 dsimp only[cu,aC,aB,gts,eE,eN]at hy
 obtain⟨hk,hv⟩:=hy)))
 all_goals(
 with_reducible apply Leaf.mk
 (try dsimp only[cu,aC,aB,gts,eE,eN]at *)
 first
 |(
  have h256:¬t.length=256:=by omega
  rw[zT,if_neg h256])
 |(
  have h256:t.length=256:=by omega
  rw[zT,if_pos h256,<-hv,List.drop_eq_nil_of_le (by rw[bF];omega)];rfl))
abbrev qW1:Tbl:=(85,KC)::qW0
theorem qC6:aD Tryz.prog qW1:=aD.cons qQX qC5
abbrev EX:Ct:=.fn [] (none) (.d (.list (.int .u32)) cR)
theorem qM0:aF Tryz.prog 71 EX:=by
 refine aF.fn qC6 mixed [(0,5,1)] [] rfl rfl ?_;rintro⟨⟩ -;refine⟨[(0,6,LA.mk [.sl 7 (.int .i64),.ar 0 (.int .u32) 80] (fun y=>Tag 18/\cu [.int .i64,.list (.int .u32)] (fun(k:Int) (M:List Int)=>(0<=k/\k<=256)/\(M.length=256)/\(M.take k.toNat=(List.range k.toNat).map (fun i:Nat=>xZ 8 (i:Int)))) y) (cu [.int .i64,.list (.int .u32)] (fun(k:Int) (M:List Int)=>((256:Int)-k).toNat)) (cu [.int .i64,.list (.int .u32)] (fun(k:Int) (M:List Int)=>([(0,14,LA.mk [.sl 12 (.int .i64),.sl 3 (.int .u32)] (fun y=>Tag 19/\cu [.int .i64,.int .u32] (fun(j:Int) (v:Int)=>(0<=j/\j<=8)/\(xZ (8-j).toNat v=xZ 8 k)) y) (cu [.int .i64,.int .u32] (fun(j:Int) (v:Int)=>((8:Int)-j).toNat)) (cu [.int .i64,.int .u32] (fun(j:Int) (v:Int)=>([]:List (Nat×Nat×LA)))))]:List (Nat×Nat×LA)))))],?_⟩;repeat' (first
  |(
 with_reducible refine Side.mk ⟨(⟨⟩:Tag 18),?_⟩
 dsimp only[cu,aC,aB,gts,eE,eN]
 refine⟨?_,?_,?_⟩
 ·omega
 ·first
  |simp;done
  |simp;omega
 ·first
  |simp;done
  |(
  rw[show(k+1).toNat=k.toNat+1 by omega,yL _ _ _ (by omega),hm,List.range_succ,List.map_append]
  simp only[List.map_cons,List.map_nil]
  rw[show((k.toNat:Nat):Int)=k by omega,<-hj,show(8-j).toNat=0 by omega]
  rfl))
  |(
 with_reducible refine Side.mk ⟨(⟨⟩:Tag 19),?_⟩
 dsimp only[cu,aC,aB,gts,eE,eN]
 refine⟨?_,?_⟩
 ·omega
 ·first
  |rfl
  |(rw[<-hj,zR (k:=j) (v:=v) (by omega)];(try rfl)))
  |(
 with_reducible apply Side.mk
 (try dsimp only[cu,aC,aB,gts,loK,hiK,eE,eN])
 omega)
  |(conv=>whnf
    first
     |with_reducible first|done|exact trivial|refine NilBr.mk (fun h=>?_) ?_|apply aI|apply aH|refine aJ (by kernel_rfl) ?_|apply aK|apply bB|apply bA|apply aQ
     |((with_reducible first|apply aS|apply aR|apply aZ)<;>intro h<;>(try dsimp only[cu,eE,eN]at h)<;>(try(exfalso;omega)))
     |(
 intro yy (hy:Tag 18/\_)
 obtain⟨(k:Int),(M:List Int),_⟩:=yy
 replace hy:=hy.2
 dsimp only[cu,aC,aB,gts,eE,eN]at hy
 obtain⟨hk,hl,hm⟩:=hy)
     |(
 intro yy (hy:Tag 19/\_)
 obtain⟨(j:Int),(v:Int),_⟩:=yy
 replace hy:=hy.2
 dsimp only[cu,aC,aB,gts,eE,eN]at hy
 obtain⟨hj,hj⟩:=hy)))
 all_goals(
 with_reducible apply Leaf.mk
 (try dsimp only[cu,aC,aB,gts,eE,eN]at *)
 (
  rw[show k.toNat=256 by omega,List.take_of_length_le (by omega)]at hm;exact hm))
abbrev qW2:Tbl:=(71,EX)::qW1
theorem qC7:aD Tryz.prog qW2:=aD.cons qM0 qC6
abbrev AU:Ct:=.fn [] (none) (.d (.list (.int .u32)) cR)
theorem qHA:aF Tryz.prog 86 AU:=by
 refine aF.fn qC7 mixed [(0,4,1)] [] rfl rfl ?_;rintro⟨⟩ -;refine⟨[(0,6,LA.mk [.sl 2 (.int .u32),.lst 1 (.int .u32) 80] (fun y=>Tag 20/\cu [.int .u32,.list (.int .u32)] (fun(k:Int) (M:List Int)=>(0<=k/\k<=256)/\(M=(List.range k.toNat).map (fun i:Nat=>xZ 8 (i:Int)))) y) (cu [.int .u32,.list (.int .u32)] (fun(k:Int) (M:List Int)=>(256-k).toNat)) (cu [.int .u32,.list (.int .u32)] (fun(k:Int) (M:List Int)=>([(0,14,LA.mk [.sl 4 (.int .i64),.sl 3 (.int .u32)] (fun y=>Tag 21/\cu [.int .i64,.int .u32] (fun(j:Int) (v:Int)=>(0<=j/\j<=8)/\(0<=v/\v<4294967296)/\(xZ (8-j).toNat v=xZ 8 k)) y) (cu [.int .i64,.int .u32] (fun(j:Int) (v:Int)=>((8:Int)-j).toNat)) (cu [.int .i64,.int .u32] (fun(j:Int) (v:Int)=>([]:List (Nat×Nat×LA)))))]:List (Nat×Nat×LA)))))],?_⟩;repeat' (first
  |(
 with_reducible refine Side.mk ⟨(⟨⟩:Tag 20),?_⟩
 dsimp only[cu,aC,aB,gts,eE,eN]
 refine⟨?_,?_⟩
 ·omega
 ·first
  |simp;done
  |(
  rw[show(k+1).toNat=k.toNat+1 by omega,List.range_succ,List.map_append,hm]
  simp only[List.map_cons,List.map_nil]
  rw[show((k.toNat:Nat):Int)=k by omega,<-hj,show(8-j).toNat=0 by omega]
  rfl))
  |(
 with_reducible refine Side.mk ⟨(⟨⟩:Tag 21),?_⟩
 dsimp only[cu,aC,aB,gts,eE,eN]
 refine⟨?_,?_,?_⟩
 ·omega
 ·first
  |omega
  |exact wB _ _
  |(simpa using qCB (by assumption) 1)
 ·first
  |rfl
  |rw[<-hj,zR (k:=j) (v:=v) (by omega),qQU (by assumption)]
  |(rw[<-hj,zR (k:=j) (v:=v) (by omega),qME (by assumption) (by assumption)]))
  |(
 with_reducible apply Side.mk
 (try dsimp only[cu,aC,aB,gts,loK,hiK,eE,eN])
 first
 |done
 |omega
 |exact Eq.refl _
 |(
  have hml:M.length=k.toNat:=by rw[hm];simp
  simp only[List.length_cons,List.length_nil];omega))
  |(conv=>whnf
    first
     |with_reducible first|done|exact trivial|refine NilBr.mk (fun h=>?_) ?_|apply aI|apply aH|refine aJ (by kernel_rfl) ?_|apply aK|apply bB|apply bA|apply aQ
     |((with_reducible first|apply aS|apply aR|apply aZ)<;>intro h<;>(try dsimp only[cu,eE,eN]at h)<;>(try(exfalso;omega)))
     |(
 intro yy (hy:Tag 20/\_)
 obtain⟨(k:Int),(M:List Int),_⟩:=yy
 replace hy:=hy.2
 dsimp only[cu,aC,aB,gts,eE,eN]at hy
 obtain⟨hk,hm⟩:=hy)
     |(
 intro yy (hy:Tag 21/\_)
 obtain⟨(j:Int),(v:Int),_⟩:=yy
 replace hy:=hy.2
 dsimp only[cu,aC,aB,gts,eE,eN]at hy
 obtain⟨hj,hv,hj⟩:=hy)))
 all_goals(
 with_reducible apply Leaf.mk
 (try dsimp only[cu,aC,aB,gts,eE,eN]at *)
 (
  rw[show k.toNat=256 by omega]at hm;exact hm))
abbrev qW3:Tbl:=(86,AU)::qW2
theorem qC8:aD Tryz.prog qW3:=aD.cons qHA qC7
abbrev JZ:Ct:=.fn [.str] (some (fun(s:ByteArray)=>(s.size<=9223372036854775807))) (fun(s:ByteArray)=>.d (.int .u32) (iM s))
theorem qQP:aF Tryz.prog 46 JZ:=by
 refine aF.fn qC8 mixed [] [] rfl rfl ?_;rintro⟨(s:ByteArray),_⟩ hpre;replace hpre:=hpre _ rfl;dsimp only[cu]at hpre;have hs:=hpre;refine⟨[],?_⟩;repeat' (first
  |(
 with_reducible apply Side.mk
 (try dsimp only[cu,aC,aB,gts,loK,hiK,eE,eN])
 omega)
  |(conv=>whnf
    first
     |with_reducible first|done|exact trivial|refine NilBr.mk (fun h=>?_) ?_|apply aI|apply aH|refine aJ (by kernel_rfl) ?_|apply aK|apply bB|apply bA|apply aQ
     |((with_reducible first|apply aS|apply aR|apply aZ)<;>intro h<;>(try dsimp only[cu,eE,eN]at h)<;>(try(exfalso;omega)))))
 all_goals(
 with_reducible apply Leaf.mk
 (try dsimp only[cu,aC,aB,gts,eE,eN]at *)
 rfl)
abbrev qW4:Tbl:=(46,JZ)::qW3
theorem qC9:aD Tryz.prog qW4:=aD.cons qQP qC8
def fB (l:List Bool) (q:Nat):Int:=if l[q]! =true then 1 else 0
theorem qY3 (l:List Bool):AD (fB l):=fun q=>by unfold fB;split<;>simp
def TI (l:List Bool):ByteArray:=aV (gL (fB l) l.length 8 (((l.length:Int)+7).tdiv 8).toNat)
def RC (s:ByteArray) (q:Nat):Bool:=decide (sbit s q=1)
def uO (s:ByteArray) (n:Nat):List Bool:=(List.range n).map (RC s)
def jR (s:ByteArray) (n:Int):List Bool×Int:=
 if n<0\/n>4096 then([],4)else if(s.size:Int)<(n+7).tdiv 8 then([],10)else if(s.size:Int)>(n+7).tdiv 8 then([],2)
 else if lJ s n.toNat=true then([],2)else(uO s n.toNat,0)
def nI (s:ByteArray):Nat->Int
 |0=>0
 |m+1=>nI s m+sbit s m
def MD (n:Nat):Int:=((n%2+n/2%2+n/4%2+n/8%2+n/16%2+n/32%2+n/64%2+n/128%2:Nat):Int)
def qN (s:ByteArray):Int:=nI s (8*s.size)
theorem qFK {f g:Nat->Int} (h:(List.range 256).all (fun n=>decide (f n=g n))=true) {n:Int} (hn:0<=n/\n<256):f n.toNat=g n.toNat:=of_decide_eq_true (NS h hn)
theorem qPU {b:ByteArray} {x:Int} (h:b.size=256) (hx:x<256):x<(b.size:Int):=by omega
theorem KS (s:ByteArray):∀m,0<=nI s m/\nI s m<=m
 |0=>by simp [nI]
 |m+1=>by
  have:=KS s m;have:=vQ s m;rw[nI];omega
theorem qQ1 (s:ByteArray) (k u:Nat) (hu:u<8):sbit s (8*k+u)=aG s k/2^u%2:=by
 unfold sbit;rw[show(8*k+u)/8=k by omega,show(8*k+u)%8=u by omega]
theorem qGW (n:Nat):0<=MD n/\MD n<=8:=by unfold MD;omega
theorem qJI (s:ByteArray) (k:Nat):nI s (8*(k+1))=nI s (8*k)+MD (aG s k).toNat:=by
 have hb:=cM s k;obtain⟨b,hbb⟩:=Int.eq_ofNat_of_zero_le hb.1;have e:∀u,u<8->sbit s (8*k+u)=((b/2^u%2:Nat):Int):=fun u hu=>by
  rw[qQ1 s k u hu,hbb];simp
 rw[hbb,Int.toNat_natCast,show 8*(k+1)=8*k+7+1 by omega];simp only[nI,e 7 (by decide),e 6 (by decide),e 5 (by decide),e 4 (by decide),e 3 (by decide),e 2 (by decide),e 1 (by decide)];have e0:=e 0 (by decide);rw[Nat.add_zero]at e0;rw[e0];simp only[MD,Nat.reducePow];omega
theorem oA {n:Int} (h:0<=n):n.tdiv 8=n/8:=Int.tdiv_eq_ediv_of_nonneg h
theorem NA {n:Int} (h:0<=n):n.tmod 8=n%8:=Int.tmod_eq_emod_of_nonneg h
theorem qFT (s:ByteArray) (n:Nat):(uO s n).length=n:=by simp [uO]
theorem DL (s:ByteArray) {k:Int} (h:0<=k):uO s (k+1).toNat=uO s k.toNat++ [RC s k.toNat]:=by
 rw[show(k+1).toNat=k.toNat+1 by omega];simp [uO,List.range_succ]
theorem qS9 {s:ByteArray} {q:Nat} (h:RC s q=true):sbit s q=1:=of_decide_eq_true h
theorem qS8 {s:ByteArray} {q:Nat} (h:RC s q=false):sbit s q≠1:=of_decide_eq_false h
abbrev AR:Ct:=.fn [.list .bool] (some (fun(l:List Bool)=>(l.length<=1073741824))) (fun(l:List Bool)=>.d .str (TI l))
theorem qG8:aF Tryz.prog 120 AR:=by
 refine aF.fn qC9 mixed [] [] rfl rfl ?_;rintro⟨(l:List Bool),_⟩ hpre;replace hpre:=hpre _ rfl;dsimp only[cu]at hpre;have hl:=hpre;refine⟨[(0,6,LA.mk [.sl 13 (.int .i64),.ar 0 (.int .u8) 5] (fun y=>Tag 22/\cu [.int .i64,.list (.int .u8)] (fun(k:Int) (O:List Int)=>(0<=k/\k<=l.length)/\(O=gL (fB l) k.toNat 8 (((l.length:Int)+7).tdiv 8).toNat)) y) (cu [.int .i64,.list (.int .u8)] (fun(k:Int) (O:List Int)=>((l.length:Int)-k).toNat)) (cu [.int .i64,.list (.int .u8)] (fun(k:Int) (O:List Int)=>([]:List (Nat×Nat×LA)))))],?_⟩;repeat' (first
  |(
 with_reducible refine Side.mk ⟨(⟨⟩:Tag 22),?_⟩
 dsimp only[cu,aC,aB,gts,eE,eN]
 refine⟨?_,?_⟩
 ·omega
 ·first
  |exact(PD _ _ _).symm
  |(
  rw[hO]
  rw[aW (n:=k.tmod 8) (by rw[NA (by omega)];omega)]
  have hd1:=oA (n:=k) (by omega)
  have hd2:=oA (n:=(l.length:Int)+7) (by omega)
  have hk:l[k.toNat]! =true:=by first|assumption|(simp_all;done)
  refine TJ (qY3 _) (by omega) (by omega) ?_ rfl rfl
  rw[fB,if_pos hk])
  |(
  rw[hO,show(k+1).toNat=k.toNat+1 by omega]
  have hk:¬l[k.toNat]! =true:=by first|assumption|(simp_all;done)
  refine qA5 (by decide) ?_
  rw[fB,if_neg hk]))
  |(
 with_reducible apply Side.mk
 (try dsimp only[cu,aC,aB,gts,loK,hiK,eE,eN])
 first
 |omega
 |(
  have hd1:=oA (n:=k) (by omega);have hd2:=oA (n:=(l.length:Int)+7) (by omega);omega)
 |rw[oA (by omega)];omega
 |rw[hO,lY,oA (by omega),oA (by omega)];omega
 |(
  rw[aW (n:=k.tmod 8) (by rw[NA (by omega)];omega)];rw[NA (by omega)];omega)
 |(simp only[hO,lY];done))
  |(conv=>whnf
    first
     |with_reducible first|done|exact trivial|refine NilBr.mk (fun h=>?_) ?_|apply aI|apply aH|refine aJ (by kernel_rfl) ?_|apply aK|apply bB|apply bA|apply aQ
     |((with_reducible first|apply aS|apply aR|apply aZ)<;>intro h<;>(try dsimp only[cu,eE,eN]at h)<;>(try(exfalso;omega)))
     |(
 intro yy (hy:Tag 22/\_)
 obtain⟨(k:Int),(O:List Int),_⟩:=yy
 replace hy:=hy.2
 dsimp only[cu,aC,aB,gts,eE,eN]at hy
 obtain⟨hk,hO⟩:=hy)))
 all_goals(
 with_reducible apply Leaf.mk
 (try dsimp only[cu,aC,aB,gts,eE,eN]at *)
 (rw[hO,show k.toNat=l.length by omega];rfl))
abbrev qW5:Tbl:=(120,AR)::qW4
theorem qDA:aD Tryz.prog qW5:=aD.cons qG8 qC9
abbrev JR:Ct:=.fn [.str,.int .i64] (some (fun(s:ByteArray) (i:Int)=>(s.size<=288230376151711744)/\(0<=i/\i<8*s.size))) (fun(s:ByteArray) (i:Int)=>.d .bool (RC s i.toNat))
theorem qP8:aF Tryz.prog 187 JR:=by
 refine aF.fn qDA mixed [] [] rfl rfl ?_;rintro⟨(s:ByteArray),(i:Int),_⟩ hpre;replace hpre:=hpre _ rfl;dsimp only[cu]at hpre;obtain⟨hs,hi⟩:=hpre;refine⟨[],?_⟩;repeat' (first
  |(
 with_reducible apply Side.mk
 (try dsimp only[cu,aC,aB,gts,loK,hiK,eE,eN])
 first
 |omega
 |rw[oA (by omega)];omega
 |(rw[NA (by omega)];omega))
  |(conv=>whnf
    first
     |with_reducible first|done|exact trivial|refine NilBr.mk (fun h=>?_) ?_|apply aI|apply aH|refine aJ (by kernel_rfl) ?_|apply aK|apply bB|apply bA|apply aQ
     |((with_reducible first|apply aS|apply aR|apply aZ)<;>intro h<;>(try dsimp only[cu,eE,eN]at h)<;>(try(exfalso;omega)))))
 all_goals(
 with_reducible apply Leaf.mk
 (try dsimp only[cu,aC,aB,gts,eE,eN]at *)
 (
  unfold RC;rw[(qI3 s (a:=i) (by omega)).1]))
abbrev qW6:Tbl:=(187,JR)::qW5
theorem qDB:aD Tryz.prog qW6:=aD.cons qP8 qDA
abbrev JW:Ct:=.fn [.int .u8] (some (fun(x:Int)=>(0<=x/\x<256))) (fun(x:Int)=>.d (.int .i64) (MD x.toNat))
theorem qQI:aF Tryz.prog 186 JW:=by
 refine aF.fn qDB mixed [] [] rfl rfl ?_;rintro⟨(x:Int),_⟩ hpre;replace hpre:=hpre _ rfl;dsimp only[cu]at hpre;have hx:=hpre;refine⟨[],?_⟩;repeat' (first
  |(
 with_reducible apply Side.mk
 (try dsimp only[cu,aC,aB,gts,loK,hiK,eE,eN])
 first
 |omega
 |exact qPU (by kernel_rfl) hx.2
 |(exact⟨Int.le_trans (by decide) (cM _ _).1,Int.le_trans (Int.le_of_lt (cM _ _).2) (by decide)⟩))
  |(conv=>whnf
    first
     |with_reducible first|done|exact trivial|refine NilBr.mk (fun h=>?_) ?_|apply aI|apply aH|refine aJ (by kernel_rfl) ?_|apply aK|apply bB|apply bA|apply aQ
     |((with_reducible first|apply aS|apply aR|apply aZ)<;>intro h<;>(try dsimp only[cu,eE,eN]at h)<;>(try(exfalso;omega)))))
 all_goals(
 with_reducible apply Leaf.mk
 (try dsimp only[cu,aC,aB,gts,eE,eN]at *)
 exact qFK (by kernel_rfl) hx)
abbrev qW7:Tbl:=(186,JW)::qW6
theorem qDC:aD Tryz.prog qW7:=aD.cons qQI qDB
abbrev AM:Ct:=.fn [.str] (some (fun(s:ByteArray)=>(s.size<=288230376151711744))) (fun(s:ByteArray)=>.d (.int .i64) (qN s))
theorem qGT:aF Tryz.prog 164 AM:=by
 refine aF.fn qDC mixed [] [] rfl rfl ?_;rintro⟨(s:ByteArray),_⟩ hpre;replace hpre:=hpre _ rfl;dsimp only[cu]at hpre;have hs:=hpre;refine⟨[(0,6,LA.mk [.sl 7 (.int .i64),.sl 3 (.int .i64)] (fun y=>Tag 23/\cu [.int .i64,.int .i64] (fun(k:Int) (c:Int)=>(0<=k/\k<=s.size)/\(c=nI s (8*k.toNat))) y) (cu [.int .i64,.int .i64] (fun(k:Int) (c:Int)=>((s.size:Int)-k).toNat)) (cu [.int .i64,.int .i64] (fun(k:Int) (c:Int)=>([]:List (Nat×Nat×LA)))))],?_⟩;repeat' (first
  |(
 with_reducible refine Side.mk ⟨(⟨⟩:Tag 23),?_⟩
 dsimp only[cu,aC,aB,gts,eE,eN]
 refine⟨?_,?_⟩
 ·omega
 ·first
  |rfl
  |(rw[show(k+1).toNat=k.toNat+1 by omega,qJI,hc]))
  |(
 with_reducible apply Side.mk
 (try dsimp only[cu,aC,aB,gts,loK,hiK,eE,eN])
 first
 |omega
 |exact cM _ _
 |(
  have:=KS s (8*k.toNat);have:=qGW (aG s k.toNat).toNat;omega))
  |(conv=>whnf
    first
     |with_reducible first|done|exact trivial|refine NilBr.mk (fun h=>?_) ?_|apply aI|apply aH|refine aJ (by kernel_rfl) ?_|apply aK|apply bB|apply bA|apply aQ
     |((with_reducible first|apply aS|apply aR|apply aZ)<;>intro h<;>(try dsimp only[cu,eE,eN]at h)<;>(try(exfalso;omega)))
     |(
 intro yy (hy:Tag 23/\_)
 obtain⟨(k:Int),(c:Int),_⟩:=yy
 replace hy:=hy.2
 dsimp only[cu,aC,aB,gts,eE,eN]at hy
 obtain⟨hk,hc⟩:=hy)))
 all_goals(
 with_reducible apply Leaf.mk
 (try dsimp only[cu,aC,aB,gts,eE,eN]at *)
 (rw[hc,show k.toNat=s.size by omega];rfl))
abbrev qW8:Tbl:=(164,AM)::qW7
theorem qDD:aD Tryz.prog qW8:=aD.cons qGT qDC
abbrev wJ:Ct:=.fn [.str,.int .i64] (some (fun(s:ByteArray) (n:Int)=>(s.size<=288230376151711744))) (fun(s:ByteArray) (n:Int)=>.tup [.list .bool,.int .i64] ((jR s n).1,(jR s n).2,()))
theorem ZA:aF Tryz.prog 165 wJ:=by
 refine aF.fn qDD mixed [] [] rfl rfl ?_;rintro⟨(s:ByteArray),(n:Int),_⟩ hpre;replace hpre:=hpre _ rfl;dsimp only[cu]at hpre;have hs:=hpre;refine⟨[(0,18,LA.mk [.sl 48 (.int .i64),.ar 0 .bool 4] (fun y=>Tag 24/\cu [.int .i64,.list .bool] (fun(k:Int) (O:List Bool)=>(0<=k/\k<=n)/\(O.length=n.toNat)/\(O.take k.toNat=uO s k.toNat)) y) (cu [.int .i64,.list .bool] (fun(k:Int) (O:List Bool)=>((n:Int)-k).toNat)) (cu [.int .i64,.list .bool] (fun(k:Int) (O:List Bool)=>([]:List (Nat×Nat×LA)))))],?_⟩;repeat' (first
  |(
 with_reducible refine Side.mk ⟨(⟨⟩:Tag 24),?_⟩
 dsimp only[cu,aC,aB,gts,eE,eN]
 refine⟨?_,?_,?_⟩
 ·omega
 ·first
  |simp;done
  |simp;omega
 ·first
  |rfl
  |(rw[show(k+1).toNat=k.toNat+1 by omega,yL _ _ _ (by omega),hO,<-show(k+1).toNat=k.toNat+1 by omega,DL s (by omega)]))
  |(
 with_reducible apply Side.mk
 (try dsimp only[cu,aC,aB,gts,loK,hiK,eE,eN])
 first
 |omega
 |(
  have hd:=oA (n:=n+7) (by omega);have hd2:=oA (n:=n) (by omega);have hm2:=NA (n:=n) (by omega);omega))
  |(conv=>whnf
    first
     |with_reducible first|done|exact trivial|refine NilBr.mk (fun h=>?_) ?_|apply aI|apply aH|refine aJ (by kernel_rfl) ?_|apply aK|apply bB|apply bA|apply aQ
     |((with_reducible first|apply aS|apply aR|apply aZ)<;>intro h<;>(try dsimp only[cu,eE,eN]at h)<;>(try(exfalso;omega)))
     |(
 intro yy (hy:Tag 24/\_)
 obtain⟨(k:Int),(O:List Bool),_⟩:=yy
 replace hy:=hy.2
 dsimp only[cu,aC,aB,gts,eE,eN]at hy
 obtain⟨hk,hl,hO⟩:=hy)))
 all_goals(
 with_reducible apply Leaf.mk
 (try dsimp only[cu,aC,aB,gts,eE,eN]at *)
 first
 |(
  have q:n<0\/n>4096:=by omega
  rw[jR,if_pos q])
 |(
  have h1:¬(n<0\/n>4096):=by omega
  first
  |(
   have h2:(s.size:Int)<(n+7).tdiv 8:=by omega
   rw[jR,if_neg h1,if_pos h2])
  |(
   have h2:¬(s.size:Int)<(n+7).tdiv 8:=by omega
   have h3:(s.size:Int)>(n+7).tdiv 8:=by omega
   rw[jR,if_neg h1,if_neg h2,if_pos h3]))
 |(
  have hd:=oA (n:=n+7) (by omega);have hd2:=oA (n:=n) (by omega);have hm2:=NA (n:=n) (by omega);have h1:¬(n<0\/n>4096):=by omega
  have h2:¬(s.size:Int)<(n+7).tdiv 8:=by omega
  have h3:¬(s.size:Int)>(n+7).tdiv 8:=by omega
  have ht:=UT (s:=s) (m:=n.toNat) (by omega);obtain⟨t1,t2⟩:=MZ s (a:=n) (by omega);first
  |(
   have h4:lJ s n.toNat=true:=ht.2 ⟨by omega,by rw[<-t1];assumption⟩;rw[jR,if_neg h1,if_neg h2,if_neg h3,if_pos h4])
  |(
   have h4:¬lJ s n.toNat=true:=by
    intro q;obtain⟨g1,g2⟩:=ht.1 q;rw[<-t1]at g2;first|omega|(simp_all;done)
   rw[jR,if_neg h1,if_neg h2,if_neg h3,if_neg h4];(try rw[List.take_of_length_le (by omega),show k.toNat=n.toNat by omega]at hO);first|done|rfl|exact hO)))
abbrev qW9:Tbl:=(165,wJ)::qW8
theorem qDE:aD Tryz.prog qW9:=aD.cons ZA qDD
def inI (n:Int):Prop:=-9223372036854775808<=n/\n<=9223372036854775807
def fY (n:Int):Int:=if n<0 then(-(n+1))*2+1 else n*2
def pK (v:Int):Int:=if v%2=1 then -(v/2)-1 else v/2
theorem mZ {n:Int} (h:inI n):0<=fY n/\fY n<18446744073709551616:=by unfold inI at h;unfold fY;split<;>omega
theorem qE9 (n:Int):pK (fY n)=n:=by unfold fY pK;split<;>split<;>omega
theorem qT3 {a:Int} (h:inI a):IntKind.i64.wrap a=a:=by unfold inI at h;simp [IntKind.wrap,IntKind.bits,IntKind.signed];omega
theorem qY0 {a:Int} (h:inI a):mN .i64 a 0=a:=by
 unfold mN;rw[show BitVec.ofInt IntKind.i64.bits 0=0#IntKind.i64.bits from rfl,BitVec.xor_zero,BitVec.toNat_ofInt];unfold inI at h;simp [IntKind.wrap,IntKind.bits,IntKind.signed];omega
theorem qY1 {a:Int} (h:0<=a/\a<=9223372036854775807):mN .i64 a (-1) = -a-1:=by
 unfold mN;rw[show BitVec.ofInt IntKind.i64.bits (-1)=BitVec.allOnes IntKind.i64.bits from rfl,BitVec.xor_allOnes,BitVec.toNat_not,BitVec.toNat_ofInt];have e2:(2:Nat)^IntKind.i64.bits=18446744073709551616:=rfl;have e3:((2^IntKind.i64.bits-1-(a%((2^IntKind.i64.bits:Nat):Int)).toNat:Nat):Int)=18446744073709551615-a:=by
  rw[e2];omega
 rw[e3];simp [IntKind.wrap,IntKind.bits,IntKind.signed];omega
theorem qU9 {v:Int} (h:0<=v/\v<18446744073709551616):mN .i64 (iV .u64 v 1) (IntKind.i64.wrap (0-qM .u64 v 1))=pK v:=by
 rw[qMR h.1,NT h];unfold pK;have:inI (v/2):=by unfold inI;omega
 split
 ·rename_i q
  rw[q,show IntKind.i64.wrap (0-1) = -1 from rfl,qY1 (by omega)]
 ·rename_i q
  rw[show v%2=0 by omega,show IntKind.i64.wrap (0-0)=0 from rfl,qY0 this]
abbrev KD:Ct:=.fn [.int .i64] (some (fun(n:Int)=>(inI n))) (fun(n:Int)=>.d (.int .u64) (fY n))
theorem qQZ:aF Tryz.prog 122 KD:=by
 refine aF.fn qDE mixed [] [] rfl rfl ?_;rintro⟨(n:Int),_⟩ hpre;replace hpre:=hpre _ rfl;dsimp only[cu]at hpre;have hn:=hpre;unfold inI at hn;refine⟨[],?_⟩;repeat' (first
  |(
 with_reducible apply Side.mk
 (try dsimp only[cu,aC,aB,gts,loK,hiK,eE,eN])
 omega)
  |(conv=>whnf
    first
     |with_reducible first|done|exact trivial|refine NilBr.mk (fun h=>?_) ?_|apply aI|apply aH|refine aJ (by kernel_rfl) ?_|apply aK|apply bB|apply bA|apply aQ
     |((with_reducible first|apply aS|apply aR|apply aZ)<;>intro h<;>(try dsimp only[cu,eE,eN]at h)<;>(try(exfalso;omega)))))
 all_goals(
 with_reducible apply Leaf.mk
 (try dsimp only[cu,aC,aB,gts,eE,eN]at *)
 first
 |(
  have q:¬n<0:=by assumption
  rw[fY,if_neg q,aW (n:=n) (by omega),aW (by omega)])
 |(
  have q:n<0:=by assumption
  rw[fY,if_pos q,qT3 (a:=0-(n+1)) (by unfold inI;omega),aW (n:=0-(n+1)) (by omega),aW (n:=(0-(n+1))*2) (by omega),aW (by omega)];show(_:Int)=_;omega))
abbrev qXA:Tbl:=(122,KD)::qW9
theorem qDF:aD Tryz.prog qXA:=aD.cons qQZ qDE
abbrev RT:Ct:=.fn [.int .u64] (some (fun(v:Int)=>(0<=v/\v<18446744073709551616))) (fun(v:Int)=>.d (.int .i64) (pK v))
theorem qVA:aF Tryz.prog 160 RT:=by
 refine aF.fn qDF mixed [] [] rfl rfl ?_;rintro⟨(v:Int),_⟩ hpre;replace hpre:=hpre _ rfl;dsimp only[cu]at hpre;have hv:=hpre;refine⟨[],?_⟩;repeat' (first
  |(
 with_reducible apply Side.mk
 (try dsimp only[cu,aC,aB,gts,loK,hiK,eE,eN])
 first
 |omega
 |(
  have h1:=NT hv;have h2:=qMR hv.1;first
  |(
   rw[h2];omega)
  |(
   rw[h1];omega)))
  |(conv=>whnf
    first
     |with_reducible first|done|exact trivial|refine NilBr.mk (fun h=>?_) ?_|apply aI|apply aH|refine aJ (by kernel_rfl) ?_|apply aK|apply bB|apply bA|apply aQ
     |((with_reducible first|apply aS|apply aR|apply aZ)<;>intro h<;>(try dsimp only[cu,eE,eN]at h)<;>(try(exfalso;omega)))))
 all_goals(
 with_reducible apply Leaf.mk
 (try dsimp only[cu,aC,aB,gts,eE,eN]at *)
 rw[qU9 hv])
abbrev qXB:Tbl:=(160,RT)::qXA
theorem qDG:aD Tryz.prog qXB:=aD.cons qVA qDF
def rB (v:Int):List Int->Nat
 | []=>0
 |x::l=>if x=v then rB v l+1 else 0
theorem MQ {v:Int}:∀ {l:List Int} {m:Nat},m<=l.length->(∀j,j<m->l[j]! =v)->(m=l.length\/¬l[m]! =v)->rB v l=m
 | [],m,h,_,_=>by simp at h;subst h;rfl
 |x::l,0,_,_,h=>by
  rcases h with h|h
  ·simp at h
  ·unfold rB;rw[if_neg (by simpa using h)]
 |x::l,m+1,h,h1,h2=>by
  have h0:x=v:=by simpa using h1 0 (by omega)
  unfold rB;rw[if_pos h0,MQ (m:=m) (by simpa using h) (fun j hj=>by simpa using h1 (j+1) (by omega)) (by simpa using h2)]
def runs:List Int->List (Int×Int)
 | []=>[]
 |v::l=>((rB v l:Int)+1,v)::runs (l.drop (rB v l))
termination_by l=>l.length
decreasing_by simp;omega
theorem SK (l:List Int) (a j:Nat):(l.drop a)[j]! =l[a+j]!:=by
 simp [List.getElem!_eq_getElem?_getD,List.getElem?_drop]
theorem qHC {l:List Int} {i k:Int} (h:0<=i/\i<k/\k<=l.length) (he:∀j:Nat,i<=j->(j:Int)<k->l[j]! =l[i.toNat]!) (hn:k=l.length\/¬l[k.toNat]! =l[i.toNat]!) :
  runs (l.drop i.toNat)=(k-i,l[i.toNat]!)::runs (l.drop k.toNat):=by
 have e:rB l[i.toNat]! (l.drop (i+1).toNat)=(k-i-1).toNat:=by
  refine MQ (by simp;omega) (fun j hj=>?_) ?_
  ·rw[SK];exact he _ (by omega) (by omega)
  ·rcases hn with q|q
   ·left;simp;omega
   ·right;rw[SK,show(i+1).toNat+(k-i-1).toNat=k.toNat by omega];exact q
 rw[bH l i (by omega),runs,e,List.drop_drop,show(i+1).toNat+(k-i-1).toNat=k.toNat by omega,show(((k-i-1).toNat:Nat):Int)+1=k-i by omega]
def OP:List (Int×Int)->List Int
 | []=>[]
 |(n,v)::r=>put n++(put (fY v)++OP r)
def xA (l:List Int):ByteArray:=aV (OP (runs l))
theorem FU {l:List Int} (h:∀x,x∈l->inI x) (k:Nat):inI l[k]!:=by
 by_cases q:k<l.length
 ·rw[getElem!_pos l k q];exact h _ (List.getElem_mem q)
 ·rw[getElem!_neg l k q];unfold inI;exact⟨by decide,by decide⟩
def dGo (s:ByteArray) (n a:Int) (M:List Int):List Int×Int:=
 if h0:(M.length:Int)<n then
  if(aA s a).2.2≠0 then([],(aA s a).2.2)
  else if h1:(aA s a).1=0\/(aA s a).1>n-M.length then([],2)
  else if(aA s (aA s a).2.1).2.2≠0 then([],(aA s (aA s a).2.1).2.2)
  else if 0<M.length/\M[M.length-1]! =pK (aA s (aA s a).2.1).1 then([],2)
  else dGo s n (aA s (aA s a).2.1).2.1 (M++List.replicate (aA s a).1.toNat (pK (aA s (aA s a).2.1).1))
 else if a<s.size then([],2)else(M,0)
termination_by (n-M.length).toNat
decreasing_by
 have:=aX s a;simp only[List.length_append,List.length_replicate];omega
def eH (s:ByteArray) (n:Int):List Int×Int:=if n<0\/n>4096 then([],4)else dGo s n 0 []
theorem qVI {s:ByteArray} {n a:Int} {M:List Int} (h:(M.length:Int)<n) (h1:¬(aA s a).2.2=0):dGo s n a M=([],(aA s a).2.2):=by rw[dGo,dif_pos h,if_pos h1]
theorem qVJ {s:ByteArray} {n a:Int} {M:List Int} (h:(M.length:Int)<n) (h1:(aA s a).2.2=0) (h2:(aA s a).1=0\/(aA s a).1>n-M.length):dGo s n a M=([],2):=by rw[dGo,dif_pos h,if_neg (fun q=>q h1),dif_pos h2]
theorem qVK {s:ByteArray} {n a:Int} {M:List Int} (h:(M.length:Int)<n) (h1:(aA s a).2.2=0) (h2:¬((aA s a).1=0\/(aA s a).1>n-M.length)) (h3:¬(aA s (aA s a).2.1).2.2=0):dGo s n a M=([],(aA s (aA s a).2.1).2.2):=by
 rw[dGo,dif_pos h,if_neg (fun q=>q h1),dif_neg h2,if_pos h3]
theorem qVL {s:ByteArray} {n a:Int} {M:List Int} (h:(M.length:Int)<n) (h1:(aA s a).2.2=0) (h2:¬((aA s a).1=0\/(aA s a).1>n-M.length)) (h3:(aA s (aA s a).2.1).2.2=0) (h4:0<M.length/\M[M.length-1]! =pK (aA s (aA s a).2.1).1):dGo s n a M=([],2):=by
 rw[dGo,dif_pos h,if_neg (fun q=>q h1),dif_neg h2,if_neg (fun q=>q h3),if_pos h4]
theorem qVM {s:ByteArray} {n a:Int} {M:List Int} (h:(M.length:Int)<n) (h1:(aA s a).2.2=0) (h2:¬((aA s a).1=0\/(aA s a).1>n-M.length)) (h3:(aA s (aA s a).2.1).2.2=0) (h4:¬(0<M.length/\M[M.length-1]! =pK (aA s (aA s a).2.1).1)) :
  dGo s n a M=dGo s n (aA s (aA s a).2.1).2.1 (M++List.replicate (aA s a).1.toNat (pK (aA s (aA s a).2.1).1)):=by
 rw[dGo,dif_pos h,if_neg (fun q=>q h1),dif_neg h2,if_neg (fun q=>q h3),if_neg h4]
theorem qRT {s:ByteArray} {n a:Int} {M:List Int} (h:¬(M.length:Int)<n):dGo s n a M=if a<s.size then([],2)else(M,0):=by rw[dGo,dif_neg h]
theorem qL8 {M:List Int} {u v:Int} (h:0<=u):M++List.replicate (u+1).toNat v=M++List.replicate u.toNat v++ [v]:=by
 rw[show(u+1).toNat=u.toNat+1 by omega,List.replicate_succ',List.append_assoc]
abbrev EK:Ct:=.fn [.list (.int .i64)] (some (fun(l:List Int)=>(l.length<=1073741824)/\(∀x,x∈l->inI x))) (fun(l:List Int)=>.d .str (xA l))
theorem qL7:aF Tryz.prog 155 EK:=by
 refine aF.fn qDG mixed [] [] rfl rfl ?_;rintro⟨(l:List Int),_⟩ hpre;replace hpre:=hpre _ rfl;dsimp only[cu]at hpre;obtain⟨hl,hv⟩:=hpre;refine⟨[(0,6,LA.mk [.sl 4 (.int .i64),.sl 3 .str] (fun y=>Tag 25/\cu [.int .i64,.str] (fun(i:Int) (x:ByteArray)=>(0<=i/\i<=l.length)/\(xA l=x++aV (OP (runs (l.drop i.toNat))))/\((x.size:Int)<=20*i)) y) (cu [.int .i64,.str] (fun(i:Int) (x:ByteArray)=>((l.length:Int)-i).toNat)) (cu [.int .i64,.str] (fun(i:Int) (x:ByteArray)=>([(0,10,LA.mk [.sl 5 (.int .i64)] (fun y=>Tag 26/\cu [.int .i64] (fun(k:Int)=>(i<=k/\k<=l.length)/\(∀j:Nat,i<=j->(j:Int)<k->l[j]! =l[i.toNat]!)) y) (cu [.int .i64] (fun(k:Int)=>((l.length:Int)-k).toNat)) (cu [.int .i64] (fun(k:Int)=>([]:List (Nat×Nat×LA)))))]:List (Nat×Nat×LA)))))],?_⟩;repeat' (first
  |(
 with_reducible refine Side.mk ⟨(⟨⟩:Tag 25),?_⟩
 dsimp only[cu,aC,aB,gts,eE,eN]
 refine⟨?_,?_,?_⟩
 ·omega
 ·first
  |rw[show(⟨#[]⟩:ByteArray)=ByteArray.empty from rfl,ByteArray.empty_append];rfl
  |(
  have hik:i<k:=by
   rcases Int.lt_or_le i k with q|q
   ·exact q
   ·exfalso
    have e:k=i:=by omega
    subst e;first|omega|(simp_all;done)
  have hst:=qHC (l:=l) (i:=i) (k:=k) (by omega) he (by first|(left;omega)|(right;assumption)|(right;simp_all;done))
  have p1:=bL (k-i)
  have p2:=bL (fY l[i.toNat]!)
  have hui:=aW (n:=k-i) (by omega)
  rw[hx,hst,OP,hui]
  simp only[hE,ByteArray.append_assoc])
 ·first
  |exact Int.le_refl _
  |(
  have hik:i<k:=by
   rcases Int.lt_or_le i k with q|q
   ·exact q
   ·exfalso
    have e:k=i:=by omega
    subst e;first|omega|(simp_all;done)
  have p1:=bL (k-i)
  have p2:=bL (fY l[i.toNat]!)
  have hui:=aW (n:=k-i) (by omega)
  simp only[ByteArray.size_append,cO,hui]
  omega))
  |(
 with_reducible refine Side.mk ⟨(⟨⟩:Tag 26),?_⟩
 dsimp only[cu,aC,aB,gts,eE,eN]
 refine⟨?_,?_⟩
 ·omega
 ·first
  |intro j h1 h2;omega
  |(
  intro j h1 h2
  rcases Int.lt_or_le (j:Int) k with q|q
  ·exact he j h1 q
  ·rw[show j=k.toNat by omega];first|assumption|(simp_all;done)))
  |(
 with_reducible apply Side.mk
 (try dsimp only[cu,aC,aB,gts,loK,hiK,eE,eN])
 first
 |omega
 |(
  have hik:i<k:=by
   rcases Int.lt_or_le i k with q|q
   ·exact q
   ·exfalso
    have e:k=i:=by omega
    subst e;first|omega|(simp_all;done)
  omega)
 |exact FU hv _
 |exact mZ (FU hv _)
 |(
  have hui:=aW (n:=k-i) (by omega);omega)
 |(
  have hik:i<k:=by
   rcases Int.lt_or_le i k with q|q
   ·exact q
   ·exfalso
    have e:k=i:=by omega
    subst e;first|omega|(simp_all;done)
  have p1:=bL (k-i);have p2:=bL (fY l[i.toNat]!);have hui:=aW (n:=k-i) (by omega);simp only[ByteArray.size_append,cO,hui];omega))
  |(conv=>whnf
    first
     |with_reducible first|done|exact trivial|refine NilBr.mk (fun h=>?_) ?_|apply aI|apply aH|refine aJ (by kernel_rfl) ?_|apply aK|apply bB|apply bA|apply aQ
     |((with_reducible first|apply aS|apply aR|apply aZ)<;>intro h<;>(try dsimp only[cu,eE,eN]at h)<;>(try(exfalso;omega)))
     |(
 intro yy (hy:Tag 25/\_)
 obtain⟨(i:Int),(x:ByteArray),_⟩:=yy
 replace hy:=hy.2
 dsimp only[cu,aC,aB,gts,eE,eN]at hy
 obtain⟨hi,hx,hz⟩:=hy)
     |(
 intro yy (hy:Tag 26/\_)
 obtain⟨(k:Int),_⟩:=yy
 replace hy:=hy.2
 dsimp only[cu,aC,aB,gts,eE,eN]at hy
 obtain⟨hk,he⟩:=hy)))
 all_goals(
 with_reducible apply Leaf.mk
 (try dsimp only[cu,aC,aB,gts,eE,eN]at *)
 (
  rw[hx,List.drop_eq_nil_of_le (by omega),runs,OP];show x=x++ByteArray.empty;simp))
abbrev qXC:Tbl:=(155,EK)::qXB
theorem qDH:aD Tryz.prog qXC:=aD.cons qL7 qDG
abbrev AQ:Ct:=.fn [.str,.int .i64] (some (fun(s:ByteArray) (n:Int)=>(s.size<=288230376151711744))) (fun(s:ByteArray) (n:Int)=>.tup [.list (.int .i64),.int .i64] ((eH s n).1,(eH s n).2,()))
theorem qG7:aF Tryz.prog 190 AQ:=by
 refine aF.fn qDH mixed [(0,3,3500006),(0,5,3500006),(0,9,3500006),(0,15,3500006)] [] rfl rfl ?_;rintro⟨(s:ByteArray),(n:Int),_⟩ hpre;replace hpre:=hpre _ rfl;dsimp only[cu]at hpre;have hs:=hpre;refine⟨[(0,10,LA.mk [.sl 7 (.int .i64),.nls 6 (.int .i64) 2] (fun y=>Tag 27/\cu [.int .i64,.list (.int .i64)] (fun(a:Int) (M:List Int)=>(dGo s n 0 []=dGo s n a M)/\((M.length:Int)<=n)) y) (cu [.int .i64,.list (.int .i64)] (fun(a:Int) (M:List Int)=>(n-(M.length:Int)).toNat)) (cu [.int .i64,.list (.int .i64)] (fun(a:Int) (M:List Int)=>([(0,36,LA.mk [.sl 72 (.int .u64),.nls 6 (.int .i64) 2] (fun y=>Tag 28/\cu [.int .u64,.list (.int .i64)] (fun(u:Int) (Q:List Int)=>(0<=u/\u<=(aA s a).1)/\(Q=M++List.replicate u.toNat (pK (aA s (aA s a).2.1).1))) y) (cu [.int .u64,.list (.int .i64)] (fun(u:Int) (Q:List Int)=>((aA s a).1-u).toNat)) (cu [.int .u64,.list (.int .i64)] (fun(u:Int) (Q:List Int)=>([]:List (Nat×Nat×LA)))))]:List (Nat×Nat×LA)))))],?_⟩;repeat' (first
  |(
 with_reducible refine Side.mk ⟨(⟨⟩:Tag 27),?_⟩
 dsimp only[cu,aC,aB,gts,eE,eN]
 refine⟨?_,?_⟩
 ·first
  |rw[show List.replicate (Int.toNat 0) (0:Int)= []from rfl]
  |(
  have hg:=aX s a
  have hg2:=aX s (aA s a).2.1
  have hwn:=aW (n:=n-(M.length:Int)) (by omega)
  have h2:¬((aA s a).1=0\/(aA s a).1>n-M.length):=by omega
  have h1:(aA s a).2.2=0:=by assumption
  have h3:(aA s (aA s a).2.1).2.2=0:=by assumption
  have h4:¬(0<M.length/\M[M.length-1]! =pK (aA s (aA s a).2.1).1):=by first|(intro q;omega)|(intro q;simp_all;done)
  rw[hM,qVM (by omega) h1 h2 h3 h4,hQ]
  (try rw[show u=(aA s a).1 by omega])
  (try rw[show(aA s a).1-u=(aA s a).1 by omega]))
 ·first
  |simp;omega
  |(
  have hg:=aX s a
  have hg2:=aX s (aA s a).2.1
  have hwn:=aW (n:=n-(M.length:Int)) (by omega)
  rw[hQ]
  simp only[List.length_append,List.length_replicate]
  omega))
  |(
 with_reducible refine Side.mk ⟨(⟨⟩:Tag 28),?_⟩
 dsimp only[cu,aC,aB,gts,eE,eN]
 refine⟨?_,?_⟩
 ·first
  |(
  have hg:=aX s a
  have hg2:=aX s (aA s a).2.1
  first
  |omega
  |(
   have hwu:=aW (n:=u+1) (by omega);omega))
 ·first
  |simp;done
  |(
  have hg:=aX s a
  have hg2:=aX s (aA s a).2.1
  have hwu:=aW (n:=u+1) (by omega)
  rw[hwu,qL8 (by omega),<-hQ]))
  |(
 with_reducible apply Side.mk
 (try dsimp only[cu,aC,aB,gts,loK,hiK,eE,eN])
 first
 |done
 |omega
 |exact Eq.refl _
 |(
  have hg:=aX s a;have hg2:=aX s (aA s a).2.1;first
  |omega
  |(
   have hwu:=aW (n:=u+1) (by omega);omega)
  |(
   have hwn:=aW (n:=n-(M.length:Int)) (by omega);have hQl:=congrArg List.length hQ;simp only[List.length_append,List.length_replicate,List.length_cons,List.length_nil]at hQl ⊢;omega)))
  |(conv=>whnf
    first
     |with_reducible first|done|exact trivial|refine NilBr.mk (fun h=>?_) ?_|apply aI|apply aH|refine aJ (by kernel_rfl) ?_|apply aK|apply bB|apply bA|apply aQ
     |((with_reducible first|apply aS|apply aR|apply aZ)<;>intro h<;>(try dsimp only[cu,eE,eN]at h)<;>(try(exfalso;omega)))
     |(
 intro yy (hy:Tag 27/\_)
 obtain⟨(a:Int),(M:List Int),_⟩:=yy
 replace hy:=hy.2
 dsimp only[cu,aC,aB,gts,eE,eN]at hy
 obtain⟨hM,hl⟩:=hy)
     |(
 intro yy (hy:Tag 28/\_)
 obtain⟨(u:Int),(Q:List Int),_⟩:=yy
 replace hy:=hy.2
 dsimp only[cu,aC,aB,gts,eE,eN]at hy
 obtain⟨hu,hQ⟩:=hy)))
 all_goals(
 with_reducible apply Leaf.mk
 (try dsimp only[cu,aC,aB,gts,eE,eN]at *)
 first
 |(
  have q:n<0\/n>4096:=by omega
  rw[eH,if_pos q])
 |(
  have q:¬(n<0\/n>4096):=by omega
  rw[eH,if_neg q,hM];first
  |(
   have h1:¬(aA s a).2.2=0:=by assumption
   rw[qVI (by omega) h1])
  |(
   have hg:=aX s a;have hg2:=aX s (aA s a).2.1;have hwn:=aW (n:=n-(M.length:Int)) (by omega);first
   |(
    have h1:(aA s a).2.2=0:=by assumption
    have h2:(aA s a).1=0\/(aA s a).1>n-M.length:=by omega
    rw[qVJ (by omega) h1 h2])
   |(
    have h2:¬((aA s a).1=0\/(aA s a).1>n-M.length):=by omega
    have h1:(aA s a).2.2=0:=by assumption
    first
    |(
     have h3:¬(aA s (aA s a).2.1).2.2=0:=by assumption
     rw[qVK (by omega) h1 h2 h3])
    |(
     have h3:(aA s (aA s a).2.1).2.2=0:=by assumption
     have h4:0<M.length/\M[M.length-1]! =pK (aA s (aA s a).2.1).1:=⟨by omega,by first|assumption|(simp_all;done)⟩
     rw[qVL (by omega) h1 h2 h3 h4])))
  |(
   have ha:a<s.size:=by omega
   rw[qRT (by omega),if_pos ha])
  |(
   have ha:¬a<s.size:=by omega
   rw[qRT (by omega),if_neg ha])))
abbrev qXD:Tbl:=(190,AQ)::qXC
theorem qDI:aD Tryz.prog qXD:=aD.cons qG7 qDH
end Go.Proofs.YtcjiefknhfhmkaaGreatDoor
