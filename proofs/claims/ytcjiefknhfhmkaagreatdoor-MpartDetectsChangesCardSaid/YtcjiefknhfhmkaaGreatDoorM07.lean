import Derived.Test.YtcjiefknhfhmkaaGreatDoorM06
namespace Go.Proofs.YtcjiefknhfhmkaaGreatDoor
open Go.Abs
set_option maxRecDepth 100000
set_option maxHeartbeats 4000000
set_option linter.unusedVariables false
set_option linter.unusedSimpArgs false
def lK (s:ByteArray) (m:Nat):Bool:=(List.range (8*s.size)).any fun q=>decide (m<=q)&&decide (sbit s q=1)
def bN (s:ByteArray) (n w:Int):List Int×Int:=
 if ¬qE n w=true then([],4)else if(s.size:Int)<dM n w then([],10)else if(s.size:Int)>dM n w then([],2)
 else if lK s (n*w).toNat=true then([],2)else(gL (sbit s) (n*w).toNat w.toNat n.toNat,0)
theorem qFU {B:Int} (hB:0<=B/\B<256) {t:Nat} (ht:t<8) (h:B/2^t≠0):∃u,t<=u/\u<8/\B/2^u%2=1:=by
 have h1:=NO (p:=fun n=>(List.range 8).all fun t=>decide ((n:Int)/2^t=0)||(List.range 8).any fun u=>decide (t<=u)&&decide ((n:Int)/2^u%2=1)) (by kernel_rfl) hB
 have h2:=List.all_eq_true.1 h1 t (by simp;omega)
 rw[Int.toNat_of_nonneg hB.1]at h2
 rw[Bool.or_eq_true]at h2
 rcases h2 with q|q
 · exact absurd (of_decide_eq_true q) h
 · obtain⟨u,hu,hq⟩:=List.any_eq_true.1 q
   simp only[Bool.and_eq_true,decide_eq_true_eq]at hq
   exact⟨u,hq.1,by simpa using hu,hq.2⟩
theorem UQ {s:ByteArray} {m q:Nat} (h1:m<=q) (h2:q<8*s.size) (h3:sbit s q=1):lK s m=true:=by
 unfold lK
 rw[List.any_eq_true]
 exact⟨q,by simpa using h2,by simp [h1,h3]⟩
theorem UP {s:ByteArray} {m:Nat} (h:s.size=(m+7)/8):lK s m=true↔m%8≠0/\aG s (m/8)/2^(m%8)≠0:=by
 have hb:=bO s (m/8)
 constructor
 · intro hq
   unfold lK at hq
   obtain⟨q,h1,h2⟩:=List.any_eq_true.1 hq
   simp only[Bool.and_eq_true,decide_eq_true_eq]at h2
   have h1:q<8*s.size:=by simpa using h1
   have hm:m%8≠0:=by omega
   refine⟨hm,fun h0=>?_⟩
   have e1:q/8=m/8:=by omega
   have h3:=h2.2
   unfold sbit at h3
   rw[e1]at h3
   have hlt:aG s (m/8)<2^(m%8):=by
    have hp:=iU (m%8)
    have:=Int.emod_add_mul_ediv (aG s (m/8)) (2^(m%8))
    rw[h0,Int.mul_zero]at this
    have:=Int.emod_lt_of_pos (aG s (m/8)) hp
    omega
   have hle:(2:Int)^(m%8)<=2^(q%8):=by
    have:=Nat.pow_le_pow_right (show 0<2 by decide) (show m%8<=q%8 by omega)
    rw[<-fE,<-fE];omega
   rw[Int.ediv_eq_zero_of_lt hb.1 (by omega)]at h3
   omega
 · rintro⟨h1,h2⟩
   obtain⟨u,u1,u2,u3⟩:=qFU hb (by omega) h2
   refine UQ (q:=8*(m/8)+u) (by omega) (by omega) ?_
   unfold sbit
   rw[show(8*(m/8)+u)/8=m/8 by omega,show(8*(m/8)+u)%8=u by omega]
   exact u3
theorem MW (s:ByteArray) {a:Int} (ha:0<=a):iF .u8 (aG s (a.tdiv 8).toNat) (a.tmod 8)=aG s (a.toNat/8)/2^(a.toNat%8)/\(a.tmod 8=0↔a.toNat%8=0):=by
 have e1:(a.tdiv 8).toNat=a.toNat/8:=by rw[Int.tdiv_eq_ediv_of_nonneg ha];omega
 have e2:(a.tmod 8).toNat=a.toNat%8:=by rw[Int.tmod_eq_emod_of_nonneg ha];omega
 have e3:0<=a.tmod 8/\a.tmod 8<8:=by rw[Int.tmod_eq_emod_of_nonneg ha];omega
 rw[UK e3,e1,e2]
 exact⟨rfl,by omega⟩
abbrev BO:Ct:=.fn [.str,.int .i64,.int .i64] (some (fun(s:ByteArray) (n:Int) (w:Int)=>(s.size<=4611686018427387904))) (fun(s:ByteArray) (n:Int) (w:Int)=>.tup [.list (.int .u64),.int .i64] ((bN s n w).1,(bN s n w).2,()))
theorem qHU:aH Tryz.prog 211 BO:=by
 refine aH.fn qNC mixed [] [] rfl rfl ?_
 rintro⟨(s:ByteArray),(n:Int),(w:Int),_⟩ hpre
 replace hpre:=hpre _ rfl
 dsimp only[cu]at hpre
 have hs:=hpre
 refine⟨[(0,20,LA.mk [.sl 35 (.int .i64),.sl 9 (.int .i64),.ar 0 (.int .u64) 86] (fun y=>Tag 4/\cu [.int .i64,.int .i64,.list (.int .u64)] (fun(i:Int) (a:Int) (M:List Int)=>(0<=i/\i<=n)/\(a=i*w)/\(M=gL (sbit s) a.toNat w.toNat n.toNat)) y) (cu [.int .i64,.int .i64,.list (.int .u64)] (fun(i:Int) (a:Int) (M:List Int)=>((n:Int)-i).toNat)) (cu [.int .i64,.int .i64,.list (.int .u64)] (fun(i:Int) (a:Int) (M:List Int)=>([(0,26,LA.mk [.sl 39 (.int .i64),.sl 9 (.int .i64),.ar 0 (.int .u64) 86] (fun y=>Tag 5/\cu [.int .i64,.int .i64,.list (.int .u64)] (fun(k:Int) (b:Int) (O:List Int)=>(0<=k/\k<=w)/\(b=i*w+k)/\(O=gL (sbit s) b.toNat w.toNat n.toNat)) y) (cu [.int .i64,.int .i64,.list (.int .u64)] (fun(k:Int) (b:Int) (O:List Int)=>((w:Int)-k).toNat)) (cu [.int .i64,.int .i64,.list (.int .u64)] (fun(k:Int) (b:Int) (O:List Int)=>([]:List (Nat×Nat×LA)))))]:List (Nat×Nat×LA)))))],?_⟩
 repeat' (first
  |(
 with_reducible refine Side.mk ⟨(⟨⟩:Tag 4),?_⟩
 dsimp only[cu,aC,aB,gts,Prod.eta,List.nil_append]
 refine⟨?_,?_,?_⟩
 · first
   |(omega)
   |(
  have hpb:=(eS n w).1 (by first|assumption|simp_all)
  have hne:=kA hpb
  omega)
 · first
   |(omega)
   |(rw[UL];omega)
 · first
   |(exact(OW _ _ _).symm)
   |(rw[hO]))
  |(
 with_reducible refine Side.mk ⟨(⟨⟩:Tag 5),?_⟩
 dsimp only[cu,aC,aB,gts,Prod.eta,List.nil_append]
 refine⟨?_,?_,?_⟩
 · first
   |(omega)
   |(
  have hpb:=(eS n w).1 (by first|assumption|simp_all)
  have hne:=kA hpb
  omega)
 · first
   |(rw[ha];omega)
   |(omega)
 · first
   |(exact hM)
   |(
  have hpb:=(eS n w).1 (by first|assumption|simp_all)
  have hne:=kA hpb
  have hix:=vS (i:=i) (n:=n) (k:=k) (w:=w) (by omega) (by omega) (by omega)
  have hi0:0<=i*w:=Int.mul_nonneg (by omega) (by omega)
  rw[hO]
  obtain⟨q1,q2⟩:=qI2 s (a:=b) (by omega)
  obtain⟨p1,p2⟩:=TS (i:=i) (k:=k) (w:=w) (by omega)
  rw[<-hb]at p1 p2
  refine ZT (vZ _) (by omega) (by omega) (by omega) (by omega) p1 p2 ?_
  rw[q1]
  exact aW (by omega)))
  |(
 with_reducible refine Side.mk ?_
 (try dsimp only[cu,aC,aB,gts,loK,hiK,Prod.eta,List.nil_append])
 first
 |(omega)
 |(
  have hpb:=(eS n w).1 (by first|assumption|simp_all)
  have hne:=kA hpb
  omega)
 |(simp only[hM,mB];done)
 |(
  have hpb:=(eS n w).1 (by first|assumption|simp_all)
  have hne:=kA hpb
  first
  |(
   have hix:=vS (i:=i) (n:=n) (k:=k) (w:=w) (by omega) (by omega) (by omega)
   have hi0:0<=i*w:=Int.mul_nonneg (by omega) (by omega)
   (try rw[Int.tdiv_eq_ediv_of_nonneg (by omega)])
   (try rw[Int.tmod_eq_emod_of_nonneg (by omega)])
   (try simp only[hO,mB])
   omega)
  |(
   have hin:i=n:=by omega
   rw[hin]at ha
   rw[Int.tdiv_eq_ediv_of_nonneg (by omega)]
   rw[Int.tmod_eq_emod_of_nonneg (by omega)]at *
   omega)
  |(
   have hi0:0<=i*w:=Int.mul_nonneg (by omega) (by omega)
   rw[Int.tmod_eq_emod_of_nonneg (by omega)];omega)))
  |(conv=>whnf
    first
     |done
     |exact trivial
     |with_reducible refine NilBr.mk (fun h=>?_) ?_
     |with_reducible first|refine aJ ?_ ?_|refine aI ?_ ?_|refine aK (by kernel_rfl) ?_|refine aL ?_|refine bD ?_ ?_|refine bC ?_ ?_|refine aR ?_ ?_
     |((with_reducible first|refine aT (fun h=>?_) (fun h=>?_)|refine aS (fun h=>?_) (fun h=>?_)|refine bA (fun h=>?_) (fun h=>?_))<;>(try dsimp only[cu,Prod.eta,List.nil_append]at h)<;>(try(exfalso;omega;done)))
     |(
 intro yy (hy:Tag 4/\_)
 obtain⟨(i:Int),(a:Int),(M:List Int),_⟩:=yy
 replace hy:=hy.2
 dsimp only[cu,aC,aB,gts,Prod.eta,List.nil_append]at hy
 obtain⟨hi,ha,hM⟩:=hy)
     |(
 intro yy (hy:Tag 5/\_)
 obtain⟨(k:Int),(b:Int),(O:List Int),_⟩:=yy
 replace hy:=hy.2
 dsimp only[cu,aC,aB,gts,Prod.eta,List.nil_append]at hy
 obtain⟨hk,hb,hO⟩:=hy)))
 all_goals(
 with_reducible refine Leaf.mk ?_
 (try dsimp only[cu,aC,aB,gts,Prod.eta,List.nil_append]at *)
 first
 |(
  have q:¬qE n w=true:=by simp_all;done
  rw[bN,if_pos q])
 |(
  have h1:¬¬qE n w=true:=by simp_all;done
  first
  |(
   have h2:(s.size:Int)<dM n w:=by omega
   rw[bN,if_neg h1,if_pos h2])
  |(
   have h2:¬(s.size:Int)<dM n w:=by omega
   have h3:(s.size:Int)>dM n w:=by omega
   rw[bN,if_neg h1,if_neg h2,if_pos h3]))
 |(
  have hpb:=(eS n w).1 (by first|assumption|simp_all)
  have hne:=kA hpb
  have hin:i=n:=by omega
  rw[hin]at ha
  obtain⟨t1,t2⟩:=MW s (a:=a) (by omega)
  have hsz:s.size=((n*w).toNat+7)/8:=by omega
  have ht:=UP hsz
  rw[<-ha]at ht
  have h1:¬¬qE n w=true:=by simp_all;done
  have h2:¬(s.size:Int)<dM n w:=by omega
  have h3:¬(s.size:Int)>dM n w:=by omega
  first
  |(
   have h4:lK s (n*w).toNat=true:=by
    rw[<-ha]
    refine ht.2 ⟨fun q=>?_,fun q=>?_⟩
    · exact absurd (t2.2 q) (by assumption)
    · rw[<-t1]at q;exact absurd q (by assumption)
   rw[bN,if_neg h1,if_neg h2,if_neg h3,if_pos h4])
  |(
   have h4:¬lK s (n*w).toNat=true:=by
    rw[<-ha]
    intro q
    obtain⟨g1,g2⟩:=ht.1 q
    rw[<-t1]at g2
    simp_all
   rw[bN,if_neg h1,if_neg h2,if_neg h3,if_neg h4]
   (try rw[hM,ha]))))
abbrev tb8:Tbl:=(211,BO)::tb7
theorem qND:aD Tryz.prog tb8:=aD.cons qHU qNC
def uO:Nat->Int->List Int
 |0,v=>[v]
 |n+1,v=>if v<128 then[v]else(v%128+128)::uO n (v/128)
def put (v:Int):List Int:=uO 9 v
theorem TU:∀(n:Nat) (v:Int),(uO n v).length<=n+1/\1<=(uO n v).length
 |0,v=>by simp [uO]
 |n+1,v=>by
  unfold uO
  split
  · simp
  · have:=TU n (v/128);simp;omega
theorem bM (v:Int):(put v).length<=10/\1<=(put v).length:=TU 9 v
theorem ME:∀(n:Nat) (v:Int),0<=v->v<128^(n+1)->∀m,n<=m->uO m v=uO n v
 |0,v,h0,h,m,_=>by
  have:v<128:=by simpa using h
  cases m with
  |zero=>rfl
  |succ m=>simp [uO,this]
 |n+1,v,h0,h,0,hm=>by omega
 |n+1,v,h0,h,m+1,hm=>by
  unfold uO
  split
  · rfl
  · rw[ME n (v/128) (Int.ediv_nonneg h0 (by decide)) (by
      rw[Int.pow_succ]at h
      exact Int.ediv_lt_of_lt_mul (by decide) h) m (by omega)]
theorem HA {v:Int} (h:0<=v/\v<18446744073709551616) (h1:¬v<128):put v=(v%128+128)::put (v/128):=by
 have e:put v=(v%128+128)::uO 8 (v/128):=by unfold put;rw[uO,if_neg h1]
 rw[e,put,ME 8 (v/128) (Int.ediv_nonneg h.1 (by decide)) (by
  have:(128:Int)^(8+1)=9223372036854775808:=by decide
  rw[this];omega) 9 (by omega)]
theorem yK {v:Int} (h1:v<128):put v= [v]:=by unfold put;rw[uO,if_pos h1]
theorem qLT {v:Int} (h:0<=v/\v<18446744073709551616) (h1:¬v<128):put v=bOr .u8 (IntKind.u8.wrap v) 128::put (iF .u64 v 7):=by
 rw[HA h h1,qUP,oI,qV0 (by omega)]
 rw[show v%256%128=v%128 by omega]
theorem qGX {v:Int} (h:0<=v) (h1:v<128):put v= [IntKind.u8.wrap v]:=by rw[yK h1,MZ (by omega)]
abbrev KG:Ct:=.fn [.int .u64] (some (fun(v0:Int)=>(0<=v0/\v0<18446744073709551616))) (fun(v0:Int)=>.d .str (aV (put v0)))
theorem qQU:aH Tryz.prog 40 KG:=by
 refine aH.fn qND mixed [] [] rfl rfl ?_
 rintro⟨(v0:Int),_⟩ hpre
 replace hpre:=hpre _ rfl
 dsimp only[cu]at hpre
 have hv0:=hpre
 refine⟨[(0,4,LA.mk [.sl 0 (.int .u64),.sl 3 .str] (fun y=>Tag 6/\cu [.int .u64,.str] (fun(v:Int) (x:ByteArray)=>(0<=v/\v<18446744073709551616)/\(aV (put v0)=x++aV (put v))) y) (cu [.int .u64,.str] (fun(v:Int) (x:ByteArray)=>v.toNat)) (cu [.int .u64,.str] (fun(v:Int) (x:ByteArray)=>([]:List (Nat×Nat×LA)))))],?_⟩
 repeat' (first
  |(
 with_reducible refine Side.mk ⟨(⟨⟩:Tag 6),?_⟩
 dsimp only[cu,aC,aB,gts,Prod.eta,List.nil_append]
 refine⟨?_,?_⟩
 · first
   |(omega)
   |(
  have h7:=qUP v
  omega)
 · first
   |(rw[show(⟨#[]⟩:ByteArray)=ByteArray.empty from rfl,ByteArray.empty_append])
   |(rw[hb,qLT hv (by omega),ByteArray.append_assoc,<-iC];rfl))
  |(
 with_reducible refine Side.mk ?_
 (try dsimp only[cu,aC,aB,gts,loK,hiK,Prod.eta,List.nil_append])
 first
 |(omega)
 |(exact Eq.refl _)
 |(
  have h7:=qUP v
  omega)
 |(
  have hb2:=congrArg ByteArray.size hb
  have:=bM v0
  have:=bM v
  simp only[ByteArray.size_append,cP,List.length_cons,List.length_nil]at hb2 ⊢
  omega))
  |(conv=>whnf
    first
     |done
     |exact trivial
     |with_reducible refine NilBr.mk (fun h=>?_) ?_
     |with_reducible first|refine aJ ?_ ?_|refine aI ?_ ?_|refine aK (by kernel_rfl) ?_|refine aL ?_|refine bD ?_ ?_|refine bC ?_ ?_|refine aR ?_ ?_
     |((with_reducible first|refine aT (fun h=>?_) (fun h=>?_)|refine aS (fun h=>?_) (fun h=>?_)|refine bA (fun h=>?_) (fun h=>?_))<;>(try dsimp only[cu,Prod.eta,List.nil_append]at h)<;>(try(exfalso;omega;done)))
     |(
 intro yy (hy:Tag 6/\_)
 obtain⟨(v:Int),(x:ByteArray),_⟩:=yy
 replace hy:=hy.2
 dsimp only[cu,aC,aB,gts,Prod.eta,List.nil_append]at hy
 obtain⟨hv,hb⟩:=hy)))
 all_goals(
 with_reducible refine Leaf.mk ?_
 (try dsimp only[cu,aC,aB,gts,Prod.eta,List.nil_append]at *)
 rw[hb,qGX hv.1 (by omega)])
abbrev tb9:Tbl:=(40,KG)::tb8
theorem qNE:aD Tryz.prog tb9:=aD.cons qQU qND
def gv (v b k:Int):Int:=bOr .u64 v (nB .u64 (b%128) (7*k))
def iP (s:ByteArray) (at':Int):Nat->Int->Int->Int×Int×Int
 |0,_,_=>(0,0,8)
 |n+1,k,v=>if k>=s.size-at' then(0,0,10)else if k=9/\aG s (at'+k).toNat>1 then(0,0,8)
  else if aG s (at'+k).toNat>=128 then iP s at' n (k+1) (gv v (aG s (at'+k).toNat) k)
  else if aG s (at'+k).toNat=0/\k>0 then(0,0,2)else(gv v (aG s (at'+k).toNat) k,at'+k+1,0)
termination_by n _ _=>n
def aA (s:ByteArray) (at':Int):Int×Int×Int:=if at'<0\/at'>s.size then(0,0,4)else iP s at' 10 0 0
theorem vR {s:ByteArray} {a k v:Int} (h:0<=k/\k<10):iP s a (10-k).toNat k v=if k>=s.size-a then(0,0,10)else if k=9/\aG s (a+k).toNat>1 then(0,0,8)
  else if aG s (a+k).toNat>=128 then iP s a (10-(k+1)).toNat (k+1) (gv v (aG s (a+k).toNat) k)
  else if aG s (a+k).toNat=0/\k>0 then(0,0,2)else(gv v (aG s (a+k).toNat) k,a+k+1,0):=by
 rw[show(10-k).toNat=(10-(k+1)).toNat+1 by omega,iP]
theorem qA4 (s:ByteArray) (v k:Int) (i:Nat):bOr .u64 v (nB .u64 (EA .u8 (aG s i) 128) (7*k))=gv v (aG s i) k:=by rw[qN4 (bO s i)];rfl
theorem qN3 (s:ByteArray) (i:Nat):0<=qU .u8 (aG s i) 127/\qU .u8 (aG s i) 127<256:=pC _
theorem qIT (s:ByteArray) (i:Nat):0<=EA .u8 (aG s i) 128/\EA .u8 (aG s i) 128<256:=pC _
abbrev RB:Ct:=.fn [.str,.int .i64] (some (fun(s:ByteArray) (a:Int)=>(s.size<=4611686018427387904))) (fun(s:ByteArray) (a:Int)=>.tup [.int .u64,.int .i64,.int .i64] ((aA s a).1,(aA s a).2.1,(aA s a).2.2,()))
theorem qTV:aH Tryz.prog 126 RB:=by
 refine aH.fn qNE mixed [(0,11,3)] [] rfl rfl ?_
 rintro⟨(s:ByteArray),(a:Int),_⟩ hpre
 replace hpre:=hpre _ rfl
 dsimp only[cu]at hpre
 have hs:=hpre
 refine⟨[(0,10,LA.mk [.sl 18 (.int .i64),.sl 7 (.int .u64)] (fun y=>Tag 7/\cu [.int .i64,.int .u64] (fun(k:Int) (v:Int)=>(0<=k/\k<=10)/\(aA s a=iP s a (10-k).toNat k v)) y) (cu [.int .i64,.int .u64] (fun(k:Int) (v:Int)=>(10-k).toNat)) (cu [.int .i64,.int .u64] (fun(k:Int) (v:Int)=>([]:List (Nat×Nat×LA)))))],?_⟩
 repeat' (first
  |(
 with_reducible refine Side.mk ⟨(⟨⟩:Tag 7),?_⟩
 dsimp only[cu,aC,aB,gts,Prod.eta,List.nil_append]
 refine⟨?_,?_⟩
 · omega
 · first
   |(
  rw[aA,if_neg (by omega)]
  rfl)
   |(
  rw[hg,vR (k:=k) (v:=v) (by omega),qA4]
  rw[if_neg (by omega),if_neg (by omega),if_pos (by omega)]))
  |(
 with_reducible refine Side.mk ?_
 (try dsimp only[cu,aC,aB,gts,loK,hiK,Prod.eta,List.nil_append])
 first
 |(omega)
 |(
  have:=qIT s (a+k).toNat
  have:=qN3 s (a+k).toNat
  omega))
  |(conv=>whnf
    first
     |done
     |exact trivial
     |with_reducible refine NilBr.mk (fun h=>?_) ?_
     |with_reducible first|refine aJ ?_ ?_|refine aI ?_ ?_|refine aK (by kernel_rfl) ?_|refine aL ?_|refine bD ?_ ?_|refine bC ?_ ?_|refine aR ?_ ?_
     |((with_reducible first|refine aT (fun h=>?_) (fun h=>?_)|refine aS (fun h=>?_) (fun h=>?_)|refine bA (fun h=>?_) (fun h=>?_))<;>(try dsimp only[cu,Prod.eta,List.nil_append]at h)<;>(try(exfalso;omega;done)))
     |(
 intro yy (hy:Tag 7/\_)
 obtain⟨(k:Int),(v:Int),_⟩:=yy
 replace hy:=hy.2
 dsimp only[cu,aC,aB,gts,Prod.eta,List.nil_append]at hy
 obtain⟨hk,hg⟩:=hy)))
 all_goals(
 with_reducible refine Leaf.mk ?_
 (try dsimp only[cu,aC,aB,gts,Prod.eta,List.nil_append]at *)
 first
 |(rw[aA,if_pos (by omega)])
 |(
  simp only[hg,vR (k:=k) (v:=v) (show 0<=k/\k<10 by omega)]
  simp [*];done)
 |(
  simp only[hg,vR (k:=k) (v:=v) (show 0<=k/\k<10 by omega),qA4]
  grind)
 |(rw[hg,show(10-k).toNat=0 by omega,iP]))
abbrev qV6:Tbl:=(126,RB)::tb9
theorem qCF:aD Tryz.prog qV6:=aD.cons qTV qNE
theorem aP (s:ByteArray):(aF s).length=s.size:=by simp [aF]
theorem lD (s:ByteArray) (k:Nat):(aF s)[k]! =aG s k:=by
 obtain⟨d⟩:=s
 show(d.toList.map fun u=>(u.toNat:Int))[k]! =((d[k]!).toNat:Int)
 by_cases h:k<d.size
 · rw[getElem!_pos _ k (by simpa using h),getElem!_pos d k h]
   simp
 · rw[getElem!_neg _ k (by simpa using h),getElem!_neg d k h]
   rfl
theorem qU7 {a c:Int} (ha:0<=a/\a<18446744073709551616) (hc:0<=c/\c<18446744073709551616):bOr .u64 a c=((a.toNat ||| c.toNat:Nat):Int):=by
 have q:∀x:Int,0<=x/\x<18446744073709551616->(BitVec.ofInt IntKind.u64.bits x).toNat=x.toNat:=by
  intro x hx
  rw[BitVec.toNat_ofInt]
  simp [IntKind.bits];omega
 unfold bOr
 rw[BitVec.toNat_or,q a ha,q c hc]
 have:a.toNat ||| c.toNat<2^64:=Nat.or_lt_two_pow (by omega) (by omega)
 exact aW (by omega)
theorem qU6 {a c:Int} (ha:0<=a/\a<4294967296) (hc:0<=c/\c<4294967296):bOr .u32 a c=((a.toNat ||| c.toNat:Nat):Int):=by
 have q:∀x:Int,0<=x/\x<4294967296->(BitVec.ofInt IntKind.u32.bits x).toNat=x.toNat:=by
  intro x hx
  rw[BitVec.toNat_ofInt]
  simp [IntKind.bits];omega
 unfold bOr
 rw[BitVec.toNat_or,q a ha,q c hc]
 have:a.toNat ||| c.toNat<2^32:=Nat.or_lt_two_pow (by omega) (by omega)
 exact wG (by omega)
theorem qLJ (a b n:Nat) (h:a<2^n):a ||| (b*2^n)=a+b*2^n:=by
 have:=Nat.shiftLeft_add_eq_or_of_lt h b
 rw[Nat.shiftLeft_eq]at this
 rw[Nat.or_comm,<-this];omega
theorem qV4 {b:Int} {n:Nat} (hn:n<=64) (h:0<=b*2^n/\b*2^n<18446744073709551616):nB .u64 b n=b*2^n:=by
 unfold nB
 rw[show min ((n:Int)).toNat IntKind.u64.bits=n by simp [IntKind.bits];omega]
 exact aW h
theorem qV3 {b:Int} {n:Nat} (hn:n<=32) (h:0<=b*2^n/\b*2^n<4294967296):nB .u32 b n=b*2^n:=by
 unfold nB
 rw[show min ((n:Int)).toNat IntKind.u32.bits=n by simp [IntKind.bits];omega]
 exact wG h
theorem qLK {a b:Int} {n:Nat} (hn:n<=64) (ha:0<=a/\a<2^n) (hb:0<=b) (h:a+b*2^n<18446744073709551616):bOr .u64 a (nB .u64 b n)=a+b*2^n:=by
 have h0:0<=b*2^n:=Int.mul_nonneg hb (Int.le_of_lt (Int.pow_pos (by decide)))
 rw[qV4 hn ⟨h0,by omega⟩,qU7 (by omega) (by omega)]
 have e:(b*2^n).toNat=b.toNat*2^n:=by
  obtain⟨m,rfl⟩:=Int.eq_ofNat_of_zero_le hb
  have:((m:Int)*2^n)=((m*2^n:Nat):Int):=by push_cast;rfl
  rw[this];rfl
 have ha':a.toNat<2^n:=by
  have:((2^n:Nat):Int)=2^n:=by push_cast;rfl
  omega
 rw[e,qLJ _ _ _ ha']
 have:((b.toNat*2^n:Nat):Int)=b*2^n:=by push_cast;rw[Int.toNat_of_nonneg hb]
 omega
theorem YW (k:Nat):(2:Int)^(7*k)=128^k:=by
 rw[Int.pow_mul];rfl
theorem qA5 {v b:Int} {k:Nat} (hk:k<=9) (hv:0<=v/\v<128^k) (h:v+b%128*128^k<18446744073709551616):gv v b k=v+b%128*128^k:=by
 have:=qLK (a:=v) (b:=b%128) (n:=7*k) (by omega) (by rw[YW];exact hv) (by omega) (by rw[YW];exact h)
 rw[YW]at this
 unfold gv
 rw[show(7*(k:Int))=((7*k:Nat):Int)by push_cast;rfl]
 exact this
theorem wE {s:ByteArray} {b:Int} (h:b∈aF s):0<=b/\b<256:=by
 unfold aF at h
 obtain⟨u,_,rfl⟩:=List.mem_map.1 h
 have:=u.toNat_lt
 omega
theorem nF {s:ByteArray} {i:Nat} (h:i<s.size):(aF s).drop i=aG s i::(aF s).drop (i+1):=by
 have:=bI (aF s) (i:Int) (by rw[aP];omega)
 rw[lD]at this
 simpa using this
theorem GW (k:Nat):(0:Int)<128^k:=Int.pow_pos (by decide)
theorem uG (k:Nat):(128:Int)^(k+1)=128^k*128:=Int.pow_succ _ _
theorem MC {k:Nat} (h:k<=8):(128:Int)^k<=72057594037927936:=by
 have h1:k=0\/k=1\/k=2\/k=3\/k=4\/k=5\/k=6\/k=7\/k=8:=by omega
 rcases h1 with rfl|rfl|rfl|rfl|rfl|rfl|rfl|rfl|rfl<;>decide
theorem CA (s:ByteArray) (a:Nat):∀(n k:Nat) (v x e:Int),n+k=10->0<=v->v<128^k->iP s a n k v=(x,e,0) ->
  ∃u,0<=u/\x=v+u*128^k/\x<18446744073709551616/\e=a+k+(put u).length/\e<=s.size/\(aF s).drop (a+k)=put u++(aF s).drop e.toNat/\(0<k->0<u)
 |0,k,v,x,e,_,_,_,h=>by simp [iP]at h
 |n+1,k,v,x,e,hk,h0,h1,h=>by
  rw[iP]at h
  have hp:=GW k
  split at h
  · simp at h
  · rename_i h2
    have hi:a+k<s.size:=by omega
    rw[show((a:Int)+(k:Int)).toNat=a+k by omega]at h
    have hb:=bO s (a+k)
    have hd:=nF hi
    generalize hbb:aG s (a+k)=b at h hb hd
    split at h
    · simp at h
    · rename_i h3
      split at h
      · rename_i h4
        have hk8:k<=8:=by omega
        have hm:b%128*128^k<=127*128^k:=Int.mul_le_mul_of_nonneg_right (by omega) (Int.le_of_lt hp)
        have hpm:=MC hk8
        have hg:=qA5 (v:=v) (b:=b) (k:=k) (by omega) ⟨h0,h1⟩ (by omega)
        have hg0:0<=b%128*128^k:=Int.mul_nonneg (by omega) (Int.le_of_lt hp)
        rw[hg,show((k:Int)+1)=((k+1:Nat):Int)by push_cast;rfl]at h
        obtain⟨u,u0,u1,u2,u3,u4,u5,u6⟩:=CA s a n (k+1) _ x e (by omega) (by omega) (by rw[uG];omega) h
        have up:=u6 (by omega)
        have e1:(b%128+128*u)*128^k=b%128*128^k+u*128^(k+1):=by rw[uG,Int.add_mul,Int.mul_comm 128 u,Int.mul_assoc,Int.mul_comm 128]
        have hle:b%128+128*u<=(b%128+128*u)*128^k:=by
         have:=Int.mul_le_mul_of_nonneg_left (show(1:Int)<=128^k by omega) (show 0<=b%128+128*u by omega)
         omega
        have hput:put (b%128+128*u)=b::put u:=by
         rw[HA (by omega) (by omega),show(b%128+128*u)/128=u by omega,show(b%128+128*u)%128+128=b by omega]
        refine⟨b%128+128*u,by omega,by omega,u2,?_,u4,?_,fun _=>by omega⟩
        · rw[hput];simp;omega
        · rw[hput,hd,show a+k+1=a+(k+1)by omega,u5];rfl
      · rename_i h4
        split at h
        · simp at h
        · rename_i h5
          have hm:b%128=b:=by omega
          have hbp:v+b%128*128^k<18446744073709551616:=by
           rcases Nat.lt_or_ge k 9 with hk9|hk9
           · have hpm:=MC (show k<=8 by omega)
             have:b%128*128^k<=127*128^k:=Int.mul_le_mul_of_nonneg_right (by omega) (Int.le_of_lt hp)
             omega
           · have h9:k=9:=by omega
             subst h9
             have:(128:Int)^9=9223372036854775808:=by decide
             rw[this]at h1 ⊢
             omega
          have hg:=qA5 (v:=v) (b:=b) (k:=k) (by omega) ⟨h0,h1⟩ hbp
          injection h with q1 q2;injection q2 with q2 q3
          refine⟨b,hb.1,by rw[<-q1,hg,hm],by rw[<-q1,hg];exact hbp,by rw[yK (by omega),<-q2];simp,by omega,?_,fun hk0=>by omega⟩
          rw[yK (by omega),hd,<-q2,show((a:Int)+(k:Int)+1).toNat=a+k+1 by omega]
          rfl
theorem sQ (s:ByteArray) (a:Nat):∀(n k:Nat) (v u:Int) (r:List Int),n+k=10->0<=v->v<128^k->0<=u->v+u*128^k<18446744073709551616->(0<k->0<u)->(aF s).drop (a+k)=put u++r ->
  iP s a n k v=(v+u*128^k,(a:Int)+k+(put u).length,0)
 |0,k,v,u,r,hk,h0,h1,u0,u1,u2,hd=>by
  exfalso
  have h9:k=10:=by omega
  subst h9
  have:(128:Int)^10=1180591620717411303424:=by decide
  rw[this]at u1
  omega
 |n+1,k,v,u,r,hk,h0,h1,u0,u1,u2,hd=>by
  have hp:=GW k
  have hl:a+k<s.size:=by
   rcases Nat.lt_or_ge (a+k) s.size with q|q
   · exact q
   · rw[List.drop_eq_nil_of_le (by rw[aP];exact q)]at hd
     have:=congrArg List.length hd
     have:=bM u
     simp at *;omega
  have hdb:=nF hl
  have hb:=bO s (a+k)
  have hu9:k=9->u<=1:=by
   rintro rfl
   have:(128:Int)^9=9223372036854775808:=by decide
   rw[this]at u1;omega
  rw[iP,if_neg (by omega),show((a:Int)+(k:Int)).toNat=a+k by omega]
  by_cases hu:u<128
  · rw[yK hu]at hd ⊢
    have hbu:aG s (a+k)=u:=by
     rw[hdb]at hd;injection hd
    rw[hbu,if_neg (by omega),if_neg (by omega),if_neg (by omega)]
    have hg:=qA5 (v:=v) (b:=u) (k:=k) (by omega) ⟨h0,h1⟩ (by rw[show u%128=u by omega];exact u1)
    rw[hg,show u%128=u by omega]
    simp
  · have hle:u<=u*128^k:=by
      have:=Int.mul_le_mul_of_nonneg_left (show(1:Int)<=128^k by omega) u0
      omega
    rw[HA (by omega) hu]at hd ⊢
    have hbu:aG s (a+k)=u%128+128/\(aF s).drop (a+k+1)=put (u/128)++r:=by
     rw[hdb]at hd;injection hd with q1 q2;exact⟨q1,q2⟩
    have e1:u*128^k=u%128*128^k+(u/128)*128^(k+1):=by
     rw[uG,Int.mul_comm (128^k) 128,<-Int.mul_assoc,<-Int.add_mul]
     congr 1;omega
    have hm0:0<=(u/128)*128^(k+1):=Int.mul_nonneg (by omega) (Int.le_of_lt (GW _))
    have hm1:u%128*128^k<=127*128^k:=Int.mul_le_mul_of_nonneg_right (by omega) (Int.le_of_lt hp)
    have hm2:0<=u%128*128^k:=Int.mul_nonneg (by omega) (Int.le_of_lt hp)
    have hg:=qA5 (v:=v) (b:=u%128+128) (k:=k) (by omega) ⟨h0,h1⟩ (by rw[show(u%128+128)%128=u%128 by omega];omega)
    rw[hbu.1,if_neg (by omega),if_pos (by omega),hg,show(u%128+128)%128=u%128 by omega,show((k:Int)+1)=((k+1:Nat):Int)by push_cast;rfl]
    rw[sQ s a n (k+1) _ (u/128) r (by omega) (by omega) (by rw[uG];omega) (by omega) (by omega) (fun _=>by omega) (by rw[<-Nat.add_assoc];exact hbu.2)]
    simp only[Prod.mk.injEq,List.length_cons]
    refine⟨by omega,by push_cast;omega,trivial⟩
theorem YA {s:ByteArray} {a v e:Int} (h:aA s a=(v,e,0)):0<=a/\a<=s.size/\0<=v/\v<18446744073709551616/\e=a+(put v).length/\e<=s.size/\(aF s).drop a.toNat=put v++(aF s).drop e.toNat:=by
 unfold aA at h
 split at h
 · simp at h
 · rename_i hr
   obtain⟨m,rfl⟩:=Int.eq_ofNat_of_zero_le (show 0<=a by omega)
   obtain⟨u,u0,u1,u2,u3,u4,u5,_⟩:=CA s m 10 0 0 v e rfl (by decide) (by decide) h
   have hu:v=u:=by rw[u1];simp
   subst hu
   refine⟨by omega,by omega,u0,u2,?_,u4,?_⟩
   · simpa using u3
   · simpa using u5
theorem IH {s:ByteArray} {a:Nat} {u:Int} {r:List Int} (h:0<=u/\u<18446744073709551616) (hd:(aF s).drop a=put u++r):aA s a=(u,(a:Int)+(put u).length,0):=by
 have hl:a<=s.size:=by
  rcases Nat.lt_or_ge s.size a with q|q
  · rw[List.drop_eq_nil_of_le (by rw[aP];omega)]at hd
    have:=congrArg List.length hd
    have:=bM u
    simp at *;omega
  · exact q
 unfold aA
 rw[if_neg (by omega)]
 have:=sQ s a 10 0 0 u r rfl (by decide) (by decide) h.1 (by simpa using h.2) (by omega) (by simpa using hd)
 simpa using this
theorem bG (a b:ByteArray):aF (a++b)=aF a++aF b:=by
 unfold aF;simp
theorem bF {l:List Int} (h:∀b,b∈l->0<=b/\b<256):aF (aV l)=l:=by
 unfold aF aV
 simp only[List.map_map]
 conv=>rhs;rw[<-List.map_id l]
 refine List.map_congr_left fun b hb=>?_
 have:=h b hb
 show((UInt8.ofNat b.toNat).toNat:Int)=b
 have hb':b.toNat<256:=by omega
 rw[UInt8.toNat_ofNat_of_lt' hb']
 omega
theorem jK {a b:ByteArray} (h:aF a=aF b):a=b:=by
 apply ByteArray.ext
 apply Array.ext'
 unfold aF at h
 refine List.map_inj_right (f:=fun u:UInt8=>(u.toNat:Int)) (fun x y hxy=>?_) |>.1 h
 exact UInt8.toNat_inj.1 (Int.ofNat.inj hxy)
theorem TV:∀(n:Nat) (v:Int),0<=v->v<128^(n+1)->∀b,b∈uO n v->0<=b/\b<256
 |0,v,h0,h,b,hb=>by
  simp [uO]at hb
  have:v<128:=by simpa using h
  rw[hb];omega
 |n+1,v,h0,h,b,hb=>by
  unfold uO at hb
  split at hb
  · simp at hb;omega
  · rcases List.mem_cons.1 hb with q|q
    · omega
    · exact TV n (v/128) (Int.ediv_nonneg h0 (by decide)) (by
        rw[Int.pow_succ]at h
        exact Int.ediv_lt_of_lt_mul (by decide) h) b q
theorem kG {v:Int} (h:0<=v/\v<18446744073709551616):∀b,b∈put v->0<=b/\b<256:=
 TV 9 v h.1 (by have:(128:Int)^(9+1)=1180591620717411303424:=by decide
                rw[this];omega)
theorem aY (s:ByteArray) (a:Int):0<=(aA s a).1/\(aA s a).1<18446744073709551616:=by
 have go:∀(n:Nat) (k v:Int),0<=v/\v<18446744073709551616->0<=(iP s a n k v).1/\(iP s a n k v).1<18446744073709551616:=by
  intro n
  induction n with
  |zero=>intro k v h;simp [iP]
  |succ n ih=>
   intro k v h
   rw[iP]
   repeat' split
   · simp
   · simp
   · exact ih _ _ (qM _)
   · simp
   · exact qM _
 unfold aA
 split
 · simp
 · exact go _ _ _ (by decide)
end Go.Proofs.YtcjiefknhfhmkaaGreatDoor
namespace Go.Abs
set_option maxRecDepth 100000
set_option maxHeartbeats 4000000
set_option linter.unusedVariables false
theorem DM (a b:ByteArray):eO a b=true↔a.data.toList<b.data.toList:=by
 unfold eO;rw[Proofs.bytesLess_eq,Lib.toList_data,Lib.toList_data];simp
theorem ZG (a:ByteArray):¬eO a a=true:=by rw[DM];exact List.lt_irrefl _
theorem MP {a b c:ByteArray} (h1:eO a b=true) (h2:eO b c=true):eO a c=true:=by
 rw[DM]at *;exact List.lt_trans h1 h2
theorem qJR {a b:ByteArray} (h:a.data.toList=b.data.toList):a=b:=by
 cases a;cases b;simp at h;rw[h]
theorem qPR (a b:List UInt8):a<b\/a=b\/b<a:=by
 rcases List.le_total a b with h|h
 · by_cases q:a<b
   · exact .inl q
   · exact .inr (.inl (List.le_antisymm h (List.not_lt.1 q)))
 · by_cases q:b<a
   · exact .inr (.inr q)
   · exact .inr (.inl (List.le_antisymm (List.not_lt.1 q) h))
theorem qQY (a b:ByteArray):eO a b=true\/a=b\/eO b a=true:=by
 rw[DM,DM]
 rcases qPR a.data.toList b.data.toList with h|h|h
 · exact .inl h
 · exact .inr (.inl (qJR h))
 · exact .inr (.inr h)
def NR (l:List ByteArray):Prop:=l.Pairwise fun a b=>eO a b=true
def plS (l:List ByteArray) (s:ByteArray):Nat:=(l.takeWhile fun w=>eO w s).length
theorem GZ (l:List ByteArray) (s:ByteArray):plS l s<=l.length:=by
 unfold plS
 induction l with
 |nil=>simp
 |cons x l ih=>rw[List.takeWhile_cons];split<;>simp;omega
theorem YU:∀ {l:List ByteArray} {s:ByteArray} {t:Nat},t<plS l s->eO l[t]! s=true
 | [],s,t,h=>by simp [plS]at h
 |x::l,s,t,h=>by
  unfold plS at h
  rw[List.takeWhile_cons]at h
  split at h
  · rename_i q
    cases t with
    |zero=>exact q
    |succ t=>exact YU (l:=l) (t:=t) (by unfold plS;simpa using h)
  · simp at h
theorem PQ:∀ {l:List ByteArray} {s:ByteArray},plS l s<l.length->¬eO l[plS l s]! s=true
 | [],s,h=>by simp at h
 |x::l,s,h=>by
  unfold plS at h ⊢
  rw[List.takeWhile_cons]at h ⊢
  split
  · rename_i q
    rw[if_pos q]at h
    exact PQ (l:=l) (by unfold plS;simpa using h)
  · rename_i q
    exact q
theorem vX {l:List ByteArray} {s:ByteArray} {k:Nat} (h1:∀t,t<k->eO l[t]! s=true) (h0:k<=l.length) (h2:k=l.length\/¬eO l[k]! s=true):plS l s=k:=by
 rcases Nat.lt_trichotomy (plS l s) k with q|q|q
 · exact absurd (h1 _ q) (PQ (by omega))
 · exact q
 · rcases h2 with p|p
   · have:=GZ l s;omega
   · exact absurd (YU q) p
theorem QP {l:List ByteArray} (h:NR l) {i j:Nat} (hij:i<j) (hj:j<l.length):eO l[i]! l[j]! =true:=by
 rw[getElem!_pos l i (by omega),getElem!_pos l j hj]
 exact(List.pairwise_iff_getElem.1 h) i j (by omega) hj hij
theorem qUC {l:List ByteArray} (h:NR l) {s:ByteArray} {t:Nat} (h1:plS l s<=t) (h2:t<l.length):¬eO l[t]! s=true:=by
 intro q
 rcases Nat.eq_or_lt_of_le h1 with p|p
 · subst p;exact PQ h2 q
 · exact PQ (by omega) (MP (QP h p h2) q)
theorem qQM {l:List ByteArray} (h:NR l) {i:Nat} (hi:i<l.length):plS l l[i]! =i:=
 vX (fun t ht=>QP h ht hi) (by omega) (.inr (ZG _))
def jR (l:List ByteArray) (s:ByteArray):List ByteArray:=if plS l s=l.length\/l[plS l s]! ≠s then l.take (plS l s)++ [s]++l.drop (plS l s)else l
theorem qKU {l:List ByteArray} (h:NR l) (s v:ByteArray):v∈jR l s↔v=s\/v∈l:=by
 unfold jR
 split
 · have e:v∈l↔v∈l.take (plS l s)\/v∈l.drop (plS l s):=by
     conv=>lhs;rw[<-List.take_append_drop (plS l s) l]
     exact List.mem_append
   rw[List.mem_append,List.mem_append,List.mem_singleton,e];grind
 · rename_i q
   have hlt:plS l s<l.length:=by have:=GZ l s;omega
   have hs:s∈l:=by
    have p:l[plS l s]! =s:=Decidable.not_not.1 fun p=>q (.inr p)
    rw[<-p,getElem!_pos l _ hlt];exact List.getElem_mem hlt
   constructor
   · exact fun h=>.inr h
   · rintro(rfl|h)
     · exact hs
     · exact h
theorem qKT {l:List ByteArray} (h:NR l) (s:ByteArray):NR (jR l s):=by
 unfold jR
 split
 · rename_i q
   unfold NR
   rw[List.append_assoc,List.pairwise_append]
   have ht:∀a,a∈l.take (plS l s)->eO a s=true:=fun a ha=>by
    obtain⟨i,hi,rfl⟩:=List.mem_iff_getElem.1 ha
    have hi2:i<plS l s/\i<l.length:=by simp at hi;omega
    have:=YU (l:=l) (s:=s) (t:=i) hi2.1
    rw[getElem!_pos l i hi2.2]at this
    rw[List.getElem_take];exact this
   have hd:∀b,b∈l.drop (plS l s)->eO s b=true:=fun b hb=>by
    obtain⟨i,hi,rfl⟩:=List.mem_iff_getElem.1 hb
    have hi2:plS l s+i<l.length:=by simp at hi;omega
    have h1:=qUC h (s:=s) (t:=plS l s+i) (by omega) hi2
    rw[List.getElem_drop,<-getElem!_pos l _ hi2]
    rcases qQY l[plS l s+i]! s with p|p|p
    · exact absurd p h1
    · exfalso
      have e:=qQM h hi2
      rw[p]at e
      have hi0:i=0:=by omega
      subst hi0
      rcases q with q|q
      · omega
      · exact q p
    · exact p
   refine⟨List.Pairwise.sublist (List.take_sublist _ _) h,?_,?_⟩
   · rw[List.singleton_append,List.pairwise_cons]
     exact⟨hd,List.Pairwise.sublist (List.drop_sublist _ _) h⟩
   · intro a ha b hb
     rw[List.singleton_append,List.mem_cons]at hb
     rcases hb with rfl|hb
     · exact ht a ha
     · exact MP (ht a ha) (hd b hb)
 · exact h
theorem GJ (l:List ByteArray) (s:ByteArray):(jR l s).length<=l.length+1:=by
 unfold jR
 split
 · simp only[List.length_append,List.length_take,List.length_drop,List.length_singleton];omega
 · omega
def bV (l:List ByteArray):List ByteArray:=l.foldl jR []
theorem OQ:∀(l a:List ByteArray),NR a->NR (l.foldl jR a)/\(∀v,v∈l.foldl jR a↔v∈a\/v∈l)/\(l.foldl jR a).length<=a.length+l.length
 | [],a,h=>⟨h,fun v=>by simp,by simp⟩
 |x::l,a,h=>by
  obtain⟨h1,h2,h3⟩:=OQ l (jR a x) (qKT h x)
  have:=GJ a x
  refine⟨h1,fun v=>?_,by rw[List.foldl_cons,List.length_cons];omega⟩
  rw[List.foldl_cons,h2 v,qKU h,List.mem_cons];grind
theorem HU (l:List ByteArray) (v:ByteArray):v∈bV l↔v∈l:=by
 have:=(OQ l [] List.Pairwise.nil).2.1 v
 unfold bV;simpa using this
theorem iJ (l:List ByteArray):(bV l).length<=l.length:=by
 have:=(OQ l [] List.Pairwise.nil).2.2
 unfold bV;simpa using this
def eQ (l:List ByteArray):List Int:=l.map fun s=>(plS (bV l) s:Int)
theorem kS (l:List ByteArray):(eQ l).length=l.length:=by simp [eQ]
end Go.Abs
namespace Go.Proofs.YtcjiefknhfhmkaaGreatDoor
open Go.Abs
set_option maxRecDepth 100000
set_option maxHeartbeats 4000000
set_option linter.unusedVariables false
set_option linter.unusedSimpArgs false
def sLe (a b:ByteArray):Bool:=eO a b||decide (a=b)
def IO (s:ByteArray) (a:Int):ByteArray:=s.extract (aA s a).2.1.toNat ((aA s a).2.1+(aA s a).1).toNat
def bX (s:ByteArray):Nat->Int->List ByteArray->List ByteArray×Int×Int
 |0,a,M=>(M,a,0)
 |n+1,a,M=>if(aA s a).2.2≠0 then([],0,(aA s a).2.2)else if(aA s a).1>s.size-(aA s a).2.1 then([],0,10)
  else if 0<M.length/\sLe (IO s a) M[M.length-1]! =true then([],0,2)else bX s n ((aA s a).2.1+(aA s a).1) (M++ [IO s a])
termination_by n _ _=>n
theorem qNP {s:ByteArray} {n a:Int} {M:List ByteArray} (h:(M.length:Int)<n) (h1:¬(aA s a).2.2=0):bX s (n-M.length).toNat a M=([],0,(aA s a).2.2):=by
 rw[show(n-M.length).toNat=(n-M.length-1).toNat+1 by omega,bX,if_pos h1]
theorem ZX {s:ByteArray} {n a:Int} {M:List ByteArray} (h:(M.length:Int)<n) (h1:(aA s a).2.2=0) (h2:(aA s a).1>s.size-(aA s a).2.1):bX s (n-M.length).toNat a M=([],0,10):=by
 rw[show(n-M.length).toNat=(n-M.length-1).toNat+1 by omega,bX,if_neg (fun q=>q h1),if_pos h2]
theorem qHZ {s:ByteArray} {n a:Int} {M:List ByteArray} (h:(M.length:Int)<n) (h1:(aA s a).2.2=0) (h2:¬(aA s a).1>s.size-(aA s a).2.1) (h3:0<M.length/\sLe (IO s a) M[M.length-1]! =true):bX s (n-M.length).toNat a M=([],0,2):=by
 rw[show(n-M.length).toNat=(n-M.length-1).toNat+1 by omega,bX,if_neg (fun q=>q h1),if_neg h2,if_pos h3]
theorem qH0 {s:ByteArray} {n a:Int} {M:List ByteArray} (h:(M.length:Int)<n) (h1:(aA s a).2.2=0) (h2:¬(aA s a).1>s.size-(aA s a).2.1) (h3:¬(0<M.length/\sLe (IO s a) M[M.length-1]! =true)) :
  bX s (n-M.length).toNat a M=bX s (n-(M++ [IO s a]).length).toNat ((aA s a).2.1+(aA s a).1) (M++ [IO s a]):=by
 rw[show(n-M.length).toNat=(n-(M++ [IO s a]).length).toNat+1 by simp;omega,bX,if_neg (fun q=>q h1),if_neg h2,if_neg h3]
theorem qNO {s:ByteArray} {n a:Int} {M:List ByteArray} (h:¬(M.length:Int)<n):bX s (n-M.length).toNat a M=(M,a,0):=by
 rw[show(n-M.length).toNat=0 by omega,bX]
theorem bP {s:ByteArray} {a:Int} (h:(aA s a).2.2=0):0<=a/\a<(aA s a).2.1/\(aA s a).2.1<=s.size:=by
 have e:aA s a=((aA s a).1,(aA s a).2.1,0):=by
  rw[<-h]
 obtain⟨h1,h2,h3,h4,h5,h6,_⟩:=YA e
 have:=bM (aA s a).1
 exact⟨h1,by omega,h6⟩
theorem qE1 {s:ByteArray}:∀(n:Nat) (a:Int) (M:List ByteArray),(bX s n a M).2.2=0->(bX s n a M).1.length=M.length+n/\((0<=a/\a<=s.size)->0<=(bX s n a M).2.1/\(bX s n a M).2.1<=s.size)
 |0,a,M,_=>by rw[bX];exact⟨rfl,fun h=>h⟩
 |n+1,a,M,h=>by
  rw[bX]at h ⊢
  split at h
  · rename_i h1;exact absurd h h1
  · rename_i h1
    rw[if_neg h1]
    split at h
    · exact absurd h (by decide)
    · rename_i h2
      rw[if_neg h2]
      split at h
      · exact absurd h (by decide)
      · rename_i h3
        rw[if_neg h3]
        have hg:=bP (Decidable.not_not.1 h1)
        have hr:=aY s a
        obtain⟨g1,g2⟩:=qE1 n _ _ h
        exact⟨by rw[g1];simp;omega,fun _=>g2 ⟨by omega,by omega⟩⟩
abbrev FO:Ct:=.fn [.str,.int .i64,.int .i64] (some (fun(s:ByteArray) (a0:Int) (n:Int)=>(s.size<=4611686018427387904)/\(0<=n/\n<=1000000))) (fun(s:ByteArray) (a0:Int) (n:Int)=>.tup [.list .str,.int .i64,.int .i64] ((bX s n.toNat a0 []).1,(bX s n.toNat a0 []).2.1,(bX s n.toNat a0 []).2.2,()))
theorem qNU:aH Tryz.prog 210 FO:=by
 refine aH.fn qCF mixed [(0,6,5)] [] rfl rfl ?_
 rintro⟨(s:ByteArray),(a0:Int),(n:Int),_⟩ hpre
 replace hpre:=hpre _ rfl
 dsimp only[cu]at hpre
 obtain⟨hs,hn⟩:=hpre
 refine⟨[(0,4,LA.mk [.sl 1 (.int .i64),.lst 9 .str 9] (fun y=>Tag 8/\cu [.int .i64,.list .str] (fun(a:Int) (M:List ByteArray)=>(bX s n.toNat a0 []=bX s (n-M.length).toNat a M)/\((M.length:Int)<=n)) y) (cu [.int .i64,.list .str] (fun(a:Int) (M:List ByteArray)=>(n-(M.length:Int)).toNat)) (cu [.int .i64,.list .str] (fun(a:Int) (M:List ByteArray)=>([]:List (Nat×Nat×LA)))))],?_⟩
 repeat' (first
  |(
 with_reducible refine Side.mk ⟨(⟨⟩:Tag 8),?_⟩
 dsimp only[cu,aC,aB,gts,Prod.eta,List.nil_append]
 refine⟨?_,?_⟩
 · first
   |(rw[List.length_nil];simp;done)
   |(
  rw[hM]
  exact qH0 (by omega) (by assumption) (by assumption) (fun q=>by simp_all [sLe,IO]))
 · first
   |(simp only[List.length_nil];omega)
   |(simp only[List.length_append,List.length_cons,List.length_nil];omega))
  |(
 with_reducible refine Side.mk ?_
 (try dsimp only[cu,aC,aB,gts,loK,hiK,Prod.eta,List.nil_append])
 first
 |(done)
 |(omega)
 |(exact Eq.refl _)
 |(simp only[List.length_append,List.length_cons,List.length_nil];omega)
 |(
  have hr:=aY s a
  have hg:=bP (s:=s) (a:=a) (by assumption)
  omega))
  |(conv=>whnf
    first
     |done
     |exact trivial
     |with_reducible refine NilBr.mk (fun h=>?_) ?_
     |with_reducible first|refine aJ ?_ ?_|refine aI ?_ ?_|refine aK (by kernel_rfl) ?_|refine aL ?_|refine bD ?_ ?_|refine bC ?_ ?_|refine aR ?_ ?_
     |((with_reducible first|refine aT (fun h=>?_) (fun h=>?_)|refine aS (fun h=>?_) (fun h=>?_)|refine bA (fun h=>?_) (fun h=>?_))<;>(try dsimp only[cu,Prod.eta,List.nil_append]at h)<;>(try(exfalso;omega;done)))
     |(
 intro yy (hy:Tag 8/\_)
 obtain⟨(a:Int),(M:List ByteArray),_⟩:=yy
 replace hy:=hy.2
 dsimp only[cu,aC,aB,gts,Prod.eta,List.nil_append]at hy
 obtain⟨hM,hl⟩:=hy)))
 all_goals(
 with_reducible refine Leaf.mk ?_
 (try dsimp only[cu,aC,aB,gts,Prod.eta,List.nil_append]at *)
 first
 |(rw[hM,qNP (by omega) (by assumption)])
 |(rw[hM,ZX (by omega) (by assumption) (by assumption)])
 |(rw[hM,qHZ (by omega) (by assumption) (by assumption) ⟨by omega,by simp_all [sLe,IO]⟩])
 |(rw[hM,qNO (by assumption)]))
abbrev qV7:Tbl:=(210,FO)::qV6
theorem qCG:aD Tryz.prog qV7:=aD.cons qNU qCF
def wdN (n:Int):Int:=nT (eH (n-1) 0)
def xN (s:ByteArray) (ws:List ByteArray):ByteArray:=ws.foldl (fun s w=>s++(aV (put (w.size:Int))++w)) s
theorem XM {s:ByteArray} {W:List ByteArray} {k:Int} (h:0<=k/\k<W.length):xN s (W.take (k+1).toNat)=xN s (W.take k.toNat)++(aV (put (W[k.toNat]!.size:Int))++W[k.toNat]!):=by
 rw[show(k+1).toNat=k.toNat+1 by omega,List.take_succ_eq_append_getElem (by omega)]
 unfold xN
 rw[List.foldl_append,getElem!_pos W k.toNat (by omega)]
 rfl
theorem GB {B:Nat}:∀(W:List ByteArray) (s:ByteArray),(∀w,w∈W->w.size<=B)->(xN s W).size<=s.size+W.length*(B+10)
 | [],s,_=>by simp [xN]
 |w::W,s,h=>by
  have ih:=GB W (s++(aV (put (w.size:Int))++w)) (fun v hv=>h v (by simp [hv]))
  have h1:=h w (by simp)
  have h2:=bM (w.size:Int)
  have e:(s++(aV (put (w.size:Int))++w)).size=s.size+((put (w.size:Int)).length+w.size):=by simp only[ByteArray.size_append,cP]
  rw[e]at ih
  show(xN (s++(aV (put (w.size:Int))++w)) W).size<=_
  simp only[List.length_cons,Nat.add_mul]
  omega
def qZ (l:List ByteArray):ByteArray:=if l.length>4096 then⟨#[]⟩else xN (aV (put ((bV l).length:Int))) (bV l)++(qD (eQ l) (wdN (bV l).length)).1
theorem CP {l:List ByteArray} {B:Nat} (h:∀w,w∈l->w.size<=B):∀w,w∈bV l->w.size<=B:=fun w hw=>h w ((HU l w).1 hw)
theorem vO {l:List ByteArray} {v:Int} {k:Nat} (h:∀w,w∈l->w.size<=1073741824) (hl:l.length<=4096):(xN (aV (put v)) ((bV l).take k)).size<=4398046552074:=by
 have h1:=GB (B:=1073741824) ((bV l).take k) (aV (put v)) (fun w hw=>CP h w (List.mem_of_mem_take hw))
 have h2:=bM v
 have h3:=iJ l
 rw[cP]at h1
 have h4:((bV l).take k).length<=4096:=by simp;omega
 have h5:((bV l).take k).length*(1073741824+10)<=4096*(1073741824+10):=Nat.mul_le_mul_right _ h4
 omega
theorem WY (l:List ByteArray):∀c,c∈eQ l->0<=c/\c<=(bV l).length:=by
 intro c hc
 obtain⟨s,_,rfl⟩:=List.mem_map.1 hc
 have:=GZ (bV l) s
 omega
theorem KY (l:List ByteArray) (k:Nat):0<=(eQ l)[k]! /\(eQ l)[k]! <=l.length:=by
 by_cases h:k<(eQ l).length
 · have:=WY l (eQ l)[k]! (by rw[getElem!_pos _ k h];exact List.getElem_mem h)
   have:=iJ l
   omega
 · rw[getElem!_neg _ k h];exact⟨Int.le_refl _,by show(0:Int)<=_;omega⟩
theorem qFZ {l:List ByteArray} {k:Int} (h:0<=k/\k<l.length):(eQ l)[k.toNat]! =(plS (bV l) l[k.toNat]!:Int):=by
 rw[getElem!_pos (eQ l) k.toNat (by rw[kS];omega),getElem!_pos l k.toNat (by omega)]
 simp [eQ]
theorem WZ {l:List ByteArray} {k:Int} (h:0<=k/\k<l.length):(eQ l).take (k+1).toNat=(eQ l).take k.toNat++ [(plS (bV l) l[k.toNat]!:Int)]:=by
 rw[show(k+1).toNat=k.toNat+1 by omega,List.take_succ_eq_append_getElem (by rw[kS];omega),<-qFZ h,getElem!_pos (eQ l) k.toNat (by rw[kS];omega)]
theorem ZY {l:List ByteArray} {k:Int} (h:0<=k/\k<l.length):(l.take (k+1).toNat).foldl jR []=jR ((l.take k.toNat).foldl jR []) l[k.toNat]!:=by
 rw[show(k+1).toNat=k.toNat+1 by omega,List.take_succ_eq_append_getElem (by omega),List.foldl_append,getElem!_pos l k.toNat (by omega)]
 rfl
theorem HV (l:List ByteArray) (k:Nat):((l.take k).foldl jR []).length<=l.length:=by
 have:=iJ (l.take k)
 unfold bV at this
 simp at this;omega
theorem qPK {M:List ByteArray} {s:ByteArray} (h:¬((plS M s:Int)=M.length)) (h2:M[(plS M s:Int).toNat]! =s):jR M s=M:=by
 rw[Int.toNat_natCast]at h2
 unfold jR
 rw[if_neg]
 rintro(q|q)
 · exact h (by omega)
 · exact q h2
theorem qKV {M:List ByteArray} {s:ByteArray} (h:(plS M s:Int)=M.length\/¬M[(plS M s:Int).toNat]! =s):jR M s=M.take (plS M s)++ [s]++M.drop (plS M s):=by
 rw[Int.toNat_natCast]at h
 unfold jR
 rw[if_pos]
 rcases h with q|q
 · exact .inl (by omega)
 · exact .inr q
theorem qGW (w:Int) (h:0<=w/\w<=64):(qD [] w).1=⟨#[]⟩:=by
 have e:(dM ((([]:List Int).length:Nat):Int) w).toNat=0:=by
  obtain⟨h1,_⟩:=kA (n:=((([]:List Int).length:Nat):Int)) (w:=w) ⟨⟨by simp,by simp⟩,h⟩
  rw[h1];simp
 unfold qD
 rw[if_neg (by omega),if_neg (by simp),if_neg (by simp [qT]),e]
 rfl
theorem qRH (n:Int) (h:n<=9223372036854775807):0<=wdN n/\wdN n<=64:=by
 unfold wdN
 have hm:eH (n-1) 0<18446744073709551616:=by unfold eH;split<;>omega
 exact PE hm
abbrev EU:Ct:=.fn [.list .str,.str] (some (fun(l:List ByteArray) (s:ByteArray)=>(l.length<=4611686018427387904))) (fun(l:List ByteArray) (s:ByteArray)=>.d (.int .i64) (plS l s:Int))
theorem qLQ:aH Tryz.prog 208 EU:=by
 refine aH.fn qCG mixed [] [] rfl rfl ?_
 rintro⟨(l:List ByteArray),(s:ByteArray),_⟩ hpre
 replace hpre:=hpre _ rfl
 dsimp only[cu]at hpre
 have hl:=hpre
 refine⟨[(0,4,LA.mk [.sl 5 (.int .i64)] (fun y=>Tag 9/\cu [.int .i64] (fun(i:Int)=>(0<=i/\i<=l.length)/\(∀t:Nat,(t:Int)<i->eO l[t]! s=true)) y) (cu [.int .i64] (fun(i:Int)=>((l.length:Int)-i).toNat)) (cu [.int .i64] (fun(i:Int)=>([]:List (Nat×Nat×LA)))))],?_⟩
 repeat' (first
  |(
 with_reducible refine Side.mk ⟨(⟨⟩:Tag 9),?_⟩
 dsimp only[cu,aC,aB,gts,Prod.eta,List.nil_append]
 refine⟨?_,?_⟩
 · omega
 · first
   |(intro t ht;omega)
   |(
  intro t ht
  rcases Int.lt_or_le (t:Int) i with q|q
  · exact hp t q
  · rw[show t=i.toNat by omega];assumption))
  |(
 with_reducible refine Side.mk ?_
 (try dsimp only[cu,aC,aB,gts,loK,hiK,Prod.eta,List.nil_append])
 omega)
  |(conv=>whnf
    first
     |done
     |exact trivial
     |with_reducible refine NilBr.mk (fun h=>?_) ?_
     |with_reducible first|refine aJ ?_ ?_|refine aI ?_ ?_|refine aK (by kernel_rfl) ?_|refine aL ?_|refine bD ?_ ?_|refine bC ?_ ?_|refine aR ?_ ?_
     |((with_reducible first|refine aT (fun h=>?_) (fun h=>?_)|refine aS (fun h=>?_) (fun h=>?_)|refine bA (fun h=>?_) (fun h=>?_))<;>(try dsimp only[cu,Prod.eta,List.nil_append]at h)<;>(try(exfalso;omega;done)))
     |(
 intro yy (hy:Tag 9/\_)
 obtain⟨(i:Int),_⟩:=yy
 replace hy:=hy.2
 dsimp only[cu,aC,aB,gts,Prod.eta,List.nil_append]at hy
 obtain⟨hi,hp⟩:=hy)))
 all_goals(
 with_reducible refine Leaf.mk ?_
 (try dsimp only[cu,aC,aB,gts,Prod.eta,List.nil_append]at *)
 first
 |(
  have e:i.toNat=l.length:=by omega
  have e2:=vX (k:=i.toNat) (fun t ht=>hp t (by omega)) (by omega) (.inl e)
  show(i:Int)=(plS l s:Int)
  omega)
 |(
  have e:¬eO l[i.toNat]! s=true:=by first|assumption|(simp_all;done)
  have e2:=vX (k:=i.toNat) (fun t ht=>hp t (by omega)) (by omega) (.inr e)
  show(i:Int)=(plS l s:Int)
  omega))
abbrev qV8:Tbl:=(208,EU)::qV7
theorem qCH:aD Tryz.prog qV8:=aD.cons qLQ qCG
abbrev BG:Ct:=.fn [.list .str] (some (fun(l:List ByteArray)=>(l.length<=1073741824))) (fun(l:List ByteArray)=>.tup [.list .str,.list (.int .i64)] (bV l,eQ l,()))
theorem qGZ:aH Tryz.prog 182 BG:=by
 refine aH.fn qCH mixed [] [] rfl rfl ?_
 rintro⟨(l:List ByteArray),_⟩ hpre
 replace hpre:=hpre _ rfl
 dsimp only[cu]at hpre
 have hl:=hpre
 refine⟨[(0,6,LA.mk [.sl 14 (.int .i64),.lst 4 .str 9] (fun y=>Tag 10/\cu [.int .i64,.list .str] (fun(k:Int) (M:List ByteArray)=>(0<=k/\k<=l.length)/\(M=(l.take k.toNat).foldl jR [])) y) (cu [.int .i64,.list .str] (fun(k:Int) (M:List ByteArray)=>((l.length:Int)-k).toNat)) (cu [.int .i64,.list .str] (fun(k:Int) (M:List ByteArray)=>([]:List (Nat×Nat×LA))))),(0,26,LA.mk [.sl 49 (.int .i64),.lst 9 (.int .i64) 3] (fun y=>Tag 11/\cu [.int .i64,.list (.int .i64)] (fun(k:Int) (C:List Int)=>(0<=k/\k<=l.length)/\(C=(eQ l).take k.toNat)) y) (cu [.int .i64,.list (.int .i64)] (fun(k:Int) (C:List Int)=>((l.length:Int)-k).toNat)) (cu [.int .i64,.list (.int .i64)] (fun(k:Int) (C:List Int)=>([]:List (Nat×Nat×LA)))))],?_⟩
 repeat' (first
  |(
 with_reducible refine Side.mk ⟨(⟨⟩:Tag 10),?_⟩
 dsimp only[cu,aC,aB,gts,Prod.eta,List.nil_append]
 refine⟨?_,?_⟩
 · omega
 · first
   |(rfl)
   |(
  have e:=ZY (l:=l) (k:=k) (by omega)
  rw[<-hM]at e
  first
  |(
   have e1:¬((plS M l[k.toNat]!:Int)=M.length):=by first|omega|(simp_all;done)
   have e2:M[(plS M l[k.toNat]!:Int).toNat]! =l[k.toNat]!:=by simp_all;done
   rw[e,qPK e1 e2])
  |(
   have e1:(plS M l[k.toNat]!:Int)=M.length\/¬M[(plS M l[k.toNat]!:Int).toNat]! =l[k.toNat]!:=by first|(left;omega)|(right;assumption)|(right;simp_all;done)
   rw[e,qKV e1]
   have h0:=GZ M l[k.toNat]!
   clear hM e e1
   simp only[QB,List.nil_append,Int.toNat_natCast,List.append_nil,List.drop_zero]
   have e4:((M.length:Int)-(plS M l[k.toNat]!:Int)).toNat=M.length-plS M l[k.toNat]!:=by omega
   (try rw[e4])
   first|(have e5:plS M l[k.toNat]! =M.length:=(by omega);rw[e5];simp;done)|(have e5:plS M l[k.toNat]! =0:=(by omega);rw[e5];simp;done)|(have e5:(M.drop (plS M l[k.toNat]!)).take (M.length-plS M l[k.toNat]!)=M.drop (plS M l[k.toNat]!):=List.take_of_length_le (by simp);rw[e5])|grind)))
  |(
 with_reducible refine Side.mk ⟨(⟨⟩:Tag 11),?_⟩
 dsimp only[cu,aC,aB,gts,Prod.eta,List.nil_append]
 refine⟨?_,?_⟩
 · omega
 · first
   |(rfl)
   |(rw[WZ (by omega),<-hC,show bV l=M by(unfold bV;rw[hM,List.take_of_length_le (by omega)])]))
  |(
 with_reducible refine Side.mk ?_
 (try dsimp only[cu,aC,aB,gts,loK,hiK,Prod.eta,List.nil_append])
 first
 |(done)
 |(omega)
 |(exact Eq.refl _)
 |(simp only[List.length_append,List.length_cons,List.length_nil];omega)
 |(
  have hw:=HV l k.toNat
  (try rw[<-hM]at hw)
  omega)
 |(
  rw[hM,List.take_of_length_le (by omega)]
  show(bV l).length<=4611686018427387904
  have:=iJ l
  omega)
 |(
  have hw:=HV l k.toNat
  (try rw[<-hM]at hw)
  first
  |(
   have h0:=GZ M l[k.toNat]!
   (try simp only[List.length_append,List.length_take,List.length_drop,List.length_cons,List.length_nil,QB])
   omega)
  |(
   have hcl:=congrArg List.length hC
   simp only[List.length_take,List.length_cons,List.length_nil]at hcl ⊢
   omega)))
  |(conv=>whnf
    first
     |done
     |exact trivial
     |with_reducible refine NilBr.mk (fun h=>?_) ?_
     |with_reducible first|refine aJ ?_ ?_|refine aI ?_ ?_|refine aK (by kernel_rfl) ?_|refine aL ?_|refine bD ?_ ?_|refine bC ?_ ?_|refine aR ?_ ?_
     |((with_reducible first|refine aT (fun h=>?_) (fun h=>?_)|refine aS (fun h=>?_) (fun h=>?_)|refine bA (fun h=>?_) (fun h=>?_))<;>(try dsimp only[cu,Prod.eta,List.nil_append]at h)<;>(try(exfalso;omega;done)))
     |(
 intro yy (hy:Tag 10/\_)
 obtain⟨(k:Int),(M:List ByteArray),_⟩:=yy
 replace hy:=hy.2
 dsimp only[cu,aC,aB,gts,Prod.eta,List.nil_append]at hy
 obtain⟨hk,hM⟩:=hy)
     |(
 intro yy (hy:Tag 11/\_)
 obtain⟨(k:Int),(C:List Int),_⟩:=yy
 replace hy:=hy.2
 dsimp only[cu,aC,aB,gts,Prod.eta,List.nil_append]at hy
 obtain⟨hk,hC⟩:=hy)))
 all_goals(
 with_reducible refine Leaf.mk ?_
 (try dsimp only[cu,aC,aB,gts,Prod.eta,List.nil_append]at *)
 first
 |(
  unfold bV
  rw[hM,List.take_of_length_le (by omega)])
 |(rw[hC,List.take_of_length_le (by rw[kS];omega)]))
abbrev qV9:Tbl:=(182,BG)::qV8
theorem qCI:aD Tryz.prog qV9:=aD.cons qGZ qCH
theorem qQ4 {l:List ByteArray} {B:Nat} (h:∀w,w∈l->w.size<=B) (k:Nat):l[k]!.size<=B:=by
 by_cases q:k<l.length
 · exact h _ (by rw[getElem!_pos l k q];exact List.getElem_mem q)
 · rw[getElem!_neg l k q];exact Nat.zero_le _
theorem WJ {l:List ByteArray} (h:∀w,w∈l->w.size<=1073741824) (k:Nat):(bV l)[k]!.size<=1073741824:=qQ4 (CP h) k
theorem qJ5 {l:List ByteArray} (h:bV l= []):(qD (eQ l) (wdN (bV l).length)).1=⟨#[]⟩:=by
 have hl:l= []:=by
  cases l with
  |nil=>rfl
  |cons a l=>
   have:=(HU (a::l) a).2 (by simp)
   rw[h]at this;simp at this
 subst hl
 exact qGW _ (qRH _ (by simp [bV]))
theorem ID (s:ByteArray):s++⟨#[]⟩=s:=by
 show s++ByteArray.empty=s
 simp
theorem gS (s:ByteArray):aV (aF s)=s:=by
 apply jK
 exact bF (fun b hb=>wE hb)
theorem nZ (l:List Int) (w:Int):(qD l w).1.size<=32768:=by
 unfold qD
 split
 · exact Nat.zero_le _
 split
 · exact Nat.zero_le _
 split
 · exact Nat.zero_le _
 · rw[cP,mB]
   obtain⟨h1,h2⟩:=kA (n:=(l.length:Int)) (w:=w) ⟨⟨by omega,by omega⟩,by omega⟩
   rw[h1];omega
abbrev BB:Ct:=.fn [.int .i64] (some (fun(n:Int)=>(0<=n/\n<=4611686018427387904))) (fun(n:Int)=>.d (.int .i64) (wdN n))
theorem qF9:aH Tryz.prog 181 BB:=by
 refine aH.fn qCI mixed [] [] rfl rfl ?_
 rintro⟨(n:Int),_⟩ hpre
 replace hpre:=hpre _ rfl
 dsimp only[cu]at hpre
 have hn:=hpre
 refine⟨[],?_⟩
 repeat' (first
  |(
 with_reducible refine Side.mk ?_
 (try dsimp only[cu,aC,aB,gts,loK,hiK,Prod.eta,List.nil_append])
 first
 |(omega)
 |(
  have:eH (n-1) 0<=4611686018427387904/\0<=eH (n-1) 0:=by unfold eH;split<;>omega
  rw[aW (by omega)];omega))
  |(conv=>whnf
    first
     |done
     |exact trivial
     |with_reducible refine NilBr.mk (fun h=>?_) ?_
     |with_reducible first|refine aJ ?_ ?_|refine aI ?_ ?_|refine aK (by kernel_rfl) ?_|refine aL ?_|refine bD ?_ ?_|refine bC ?_ ?_|refine aR ?_ ?_
     |((with_reducible first|refine aT (fun h=>?_) (fun h=>?_)|refine aS (fun h=>?_) (fun h=>?_)|refine bA (fun h=>?_) (fun h=>?_))<;>(try dsimp only[cu,Prod.eta,List.nil_append]at h)<;>(try(exfalso;omega;done)))))
 all_goals(
 with_reducible refine Leaf.mk ?_
 (try dsimp only[cu,aC,aB,gts,Prod.eta,List.nil_append]at *)
 (
  have:eH (n-1) 0<=4611686018427387904/\0<=eH (n-1) 0:=by unfold eH;split<;>omega
  rw[aW (by omega)];rfl))
abbrev qWB:Tbl:=(181,BB)::qV9
theorem qCJ:aD Tryz.prog qWB:=aD.cons qF9 qCI
abbrev xA:Ct:=.fn [.list .str] (some (fun(l:List ByteArray)=>(∀w,w∈l->w.size<=1073741824)/\(l.length<=1073741824))) (fun(l:List ByteArray)=>.d .str (qZ l))
theorem ZC:aH Tryz.prog 157 xA:=by
 refine aH.fn qCJ mixed [] [] rfl rfl ?_
 rintro⟨(l:List ByteArray),_⟩ hpre
 replace hpre:=hpre _ rfl
 dsimp only[cu]at hpre
 obtain⟨hb,hl⟩:=hpre
 refine⟨[(0,12,LA.mk [.sl 27 (.int .i64),.sl 5 .str] (fun y=>Tag 12/\cu [.int .i64,.str] (fun(k:Int) (x:ByteArray)=>(0<=k/\k<=(bV l).length)/\(x=xN (aV (put ((bV l).length:Int))) ((bV l).take k.toNat))) y) (cu [.int .i64,.str] (fun(k:Int) (x:ByteArray)=>(((bV l).length:Int)-k).toNat)) (cu [.int .i64,.str] (fun(k:Int) (x:ByteArray)=>([]:List (Nat×Nat×LA))))),(0,28,LA.mk [.sl 46 (.int .i64),.lst 8 (.int .u64) 86] (fun y=>Tag 13/\cu [.int .i64,.list (.int .u64)] (fun(k:Int) (C:List Int)=>(0<=k/\k<=(eQ l).length)/\(C=(eQ l).take k.toNat)) y) (cu [.int .i64,.list (.int .u64)] (fun(k:Int) (C:List Int)=>(((eQ l).length:Int)-k).toNat)) (cu [.int .i64,.list (.int .u64)] (fun(k:Int) (C:List Int)=>([]:List (Nat×Nat×LA)))))],?_⟩
 repeat' (first
  |(
 with_reducible refine Side.mk ⟨(⟨⟩:Tag 12),?_⟩
 dsimp only[cu,aC,aB,gts,Prod.eta,List.nil_append]
 refine⟨?_,?_⟩
 · omega
 · first
   |(rw[aW (by have:=iJ l;omega)];rfl)
   |(
  have hw:=iJ l
  have hsz:=WJ hb k.toNat
  rw[XM (by omega),hM,aW (by omega)]))
  |(
 with_reducible refine Side.mk ⟨(⟨⟩:Tag 13),?_⟩
 dsimp only[cu,aC,aB,gts,Prod.eta,List.nil_append]
 refine⟨?_,?_⟩
 · omega
 · first
   |(rfl)
   |(
  have hc:=KY l k.toNat
  rw[show(k+1).toNat=k.toNat+1 by omega,hC,aW (by omega),List.take_succ_eq_append_getElem (by omega),getElem!_pos _ k.toNat (by omega)]))
  |(
 with_reducible refine Side.mk ?_
 (try dsimp only[cu,aC,aB,gts,loK,hiK,Prod.eta,List.nil_append])
 first
 |(done)
 |(omega)
 |(exact Eq.refl _)
 |(
  have:=iJ l
  omega)
 |(exact qM _)
 |(
  have hcl:=congrArg List.length hC
  simp only[List.length_take,List.length_cons,List.length_nil]at hcl ⊢
  have:=kS l
  omega)
 |(
  have e:C=eQ l:=by rw[hC,List.take_of_length_le (by omega)]
  subst e
  refine⟨fun i=>?_,by rw[kS];omega⟩
  have:=KY l i
  omega)
 |(
  have hm:=congrArg ByteArray.size hM
  first
  |(
   have ht:=vO (v:=((bV l).length:Int)) (k:=k.toNat) hb (by omega)
   have hp:=bM (IntKind.u64.wrap ((bV l)[k.toNat]!.size:Int))
   have hsz:=WJ hb k.toNat
   simp only[ByteArray.size_append,cP]
   omega)
  |(
   rw[List.take_of_length_le (by omega)]at hm
   have ht:=vO (v:=((bV l).length:Int)) (k:=(bV l).length) hb (by omega)
   rw[List.take_of_length_le (by omega)]at ht
   have hpk:=nZ C (nT (IntKind.u64.wrap ((bV l).length-1)))
   omega)))
  |(conv=>whnf
    first
     |done
     |exact trivial
     |with_reducible refine NilBr.mk (fun h=>?_) ?_
     |with_reducible first|refine aJ ?_ ?_|refine aI ?_ ?_|refine aK (by kernel_rfl) ?_|refine aL ?_|refine bD ?_ ?_|refine bC ?_ ?_|refine aR ?_ ?_
     |((with_reducible first|refine aT (fun h=>?_) (fun h=>?_)|refine aS (fun h=>?_) (fun h=>?_)|refine bA (fun h=>?_) (fun h=>?_))<;>(try dsimp only[cu,Prod.eta,List.nil_append]at h)<;>(try(exfalso;omega;done)))
     |(
 intro yy (hy:Tag 12/\_)
 obtain⟨(k:Int),(x:ByteArray),_⟩:=yy
 replace hy:=hy.2
 dsimp only[cu,aC,aB,gts,Prod.eta,List.nil_append]at hy
 obtain⟨hk,hM⟩:=hy)
     |(
 intro yy (hy:Tag 13/\_)
 obtain⟨(k:Int),(C:List Int),_⟩:=yy
 replace hy:=hy.2
 dsimp only[cu,aC,aB,gts,Prod.eta,List.nil_append]at hy
 obtain⟨hk,hC⟩:=hy)))
 all_goals(
 with_reducible refine Leaf.mk ?_
 (try dsimp only[cu,aC,aB,gts,Prod.eta,List.nil_append]at *)
 first
 |(
  have e0:l.length>4096:=by omega
  rw[qZ,if_pos e0])
 |(rw[qZ,if_neg (by omega),hM,qJ5 (List.length_eq_zero_iff.1 (by omega)),ID,List.take_of_length_le (by omega)])
 |(
  rw[qZ,if_neg (by omega),hM,List.take_of_length_le (by omega),hC,List.take_of_length_le (by omega),aW (by have:=iJ l;omega)]
  rw[wdN,show eH ((bV l).length-1) 0=(bV l).length-1 by(unfold eH;split<;>omega)]))
abbrev qWC:Tbl:=(157,xA)::qWB
theorem qCK:aD Tryz.prog qWC:=aD.cons ZC qCJ
theorem lL (l:List Int) (j:Nat):@getElem! (List Int) Nat Int _ _ (instInhabitedDen (.int .u64)) l j=l[j]!:=rfl
def PB:List Bool->Bool->Int->Int
 | [],_,_=>-1
 |b::r,v,k=>if v=b then k else PB r v (k+1)
theorem LP {l:List Bool} {v:Bool} {k:Int} (h:0<=k/\k<l.length):PB (l.drop k.toNat) v k=if v=l[k.toNat]! then k else PB (l.drop (k+1).toNat) v (k+1):=by
 rw[bI l k h,PB]
theorem qKW {l:List Bool} {v:Bool} {k:Int} (h:¬k<l.length):PB (l.drop k.toNat) v k = -1:=by
 rw[List.drop_eq_nil_of_le (by omega)];rfl
def qGG (l:List Bool) (v:Bool):Bool:=decide (PB l v 0>=0)
def rT (k:Nat) (u:List Int):List Bool:=(List.range k).map fun j:Nat=>u.any fun c=>decide (c=(j:Int))
theorem NB (k:Nat) (u:List Int):(rT k u).length=k:=by simp [rT]
theorem qHW (k:Nat):rT k []=List.replicate k false:=by
 apply List.ext_getElem<;>simp [rT]
theorem ZU {k:Nat} {u:List Int} {i:Int} (h:0<=i/\i<u.length) (hc:0<=u[i.toNat]! /\u[i.toNat]! <k):(rT k (u.take i.toNat)).set u[i.toNat]!.toNat true=rT k (u.take (i+1).toNat):=by
 rw[show(i+1).toNat=i.toNat+1 by omega,List.take_succ_eq_append_getElem (by omega),<-getElem!_pos u i.toNat (by omega)]
 apply List.ext_getElem
 · simp [rT]
 · intro j h1 h2
   rw[List.getElem_set]
   simp only[rT,List.getElem_map,List.getElem_range,List.any_append]
   by_cases q:u[i.toNat]!.toNat=j
   · rw[if_pos q]
     have:u[i.toNat]! =(j:Int):=by omega
     simp only[List.any_cons,List.any_nil,Bool.or_false,decide_eq_true this,Bool.or_true]
   · rw[if_neg q]
     have:¬u[i.toNat]! =(j:Int):=by omega
     simp only[List.any_cons,List.any_nil,Bool.or_false,decide_eq_false this]
def OH (W:List ByteArray) (u:List Int):List ByteArray×Int:=if(u.any fun c=>decide (c>=(W.length:Int)))=true then([],2)else if qGG (rT W.length u) false=true then([],2)else(u.map fun c=>W[c.toNat]!,0)
def XH (W:List ByteArray) (p:List Int×Int):List ByteArray×Int:=if ¬p.2=0 then([],p.2)else OH W p.1
def XG (s:ByteArray) (n:Int) (r:List ByteArray×Int×Int):List ByteArray×Int:=if ¬r.2.2=0 then([],r.2.2)else XH r.1 (bN (s.extract r.2.1.toNat s.size) n (wdN r.1.length))
def cQ (s:ByteArray) (n:Int):List ByteArray×Int:=
 if n<0\/n>4096 then([],4)else if ¬(aA s 0).2.2=0 then([],(aA s 0).2.2)
 else if(aA s 0).1>n\/((aA s 0).1=0/\n>0)then([],2)else XG s n (bX s (aA s 0).1.toNat (aA s 0).2.1 [])
theorem iI {s:ByteArray} {n w:Int} (h:(bN s n w).2=0):(bN s n w).1.length=n.toNat:=by
 unfold bN at h ⊢
 split at h
 · exact absurd h (by decide)
 · rename_i h1
   rw[if_neg h1]
   split at h
   · exact absurd h (by decide)
   · rename_i h2
     rw[if_neg h2]
     split at h
     · exact absurd h (by decide)
     · rename_i h3
       rw[if_neg h3]
       split at h
       · exact absurd h (by decide)
       · rename_i h4
         rw[if_neg h4,mB]
theorem pD (s:ByteArray) (n w:Int):∀i:Nat,0<=(bN s n w).1[i]!:=by
 intro i
 have nil:∀l:List Int,l= []->0<=l[i]!:=fun l h=>by subst h;exact Int.le_refl _
 unfold bN
 split
 · exact nil _ rfl
 split
 · exact nil _ rfl
 split
 · exact nil _ rfl
 split
 · exact nil _ rfl
 · by_cases h:i<n.toNat
   · rw[XZ h];exact(qA1 (vZ s) _ _ _ _).1
   · rw[getElem!_neg _ _ (by rw[mB];exact h)];exact Int.le_refl _
theorem qIU {u:List Int} {i:Int} {K:Int} (h:0<=i/\i<u.length) (h1:(u.take i.toNat).any (fun c=>decide (c>=K))=false) (h2:¬u[i.toNat]! >=K):(u.take (i+1).toNat).any (fun c=>decide (c>=K))=false:=by
 rw[show(i+1).toNat=i.toNat+1 by omega,List.take_succ_eq_append_getElem (by omega),<-getElem!_pos u i.toNat (by omega),List.any_append,h1]
 simp only[List.any_cons,List.any_nil,Bool.or_false,Bool.false_or,decide_eq_false_iff_not]
 exact h2
theorem qN5 {u:List Int} {i:Int} {K:Int} (h:0<=i/\i<u.length) (h2:u[i.toNat]! >=K):u.any (fun c=>decide (c>=K))=true:=by
 rw[List.any_eq_true]
 exact⟨u[i.toNat]!,by rw[getElem!_pos u i.toNat (by omega)];exact List.getElem_mem _,by simpa using h2⟩
theorem map_take {W:List ByteArray} {u:List Int} {i:Int} (h:0<=i/\i<u.length):(u.take (i+1).toNat).map (fun c=>W[c.toNat]!)=(u.take i.toNat).map (fun c=>W[c.toNat]!)++ [W[u[i.toNat]!.toNat]!]:=by
 rw[show(i+1).toNat=i.toNat+1 by omega,List.take_succ_eq_append_getElem (by omega),<-getElem!_pos u i.toNat (by omega),List.map_append]
 rfl
theorem qJW {W:List ByteArray} {u:List Int} {i:Int} (h:0<=i/\i<u.length) (h2:u[i.toNat]! >=(W.length:Int)):OH W u=([],2):=by rw[OH,if_pos (qN5 h h2)]
theorem qON {W:List ByteArray} {u:List Int} {V:List Bool} (hV:V=rT W.length u) (hA:u.any (fun c=>decide (c>=(W.length:Int)))=false) (h:qGG V false=true):OH W u=([],2):=by
 rw[OH,if_neg (by rw[hA];decide),if_pos (by rw[<-hV];exact h)]
theorem qOM {W:List ByteArray} {u:List Int} {V:List Bool} (hV:V=rT W.length u) (hA:u.any (fun c=>decide (c>=(W.length:Int)))=false) (h:¬qGG V false=true):OH W u=(u.map fun c=>W[c.toNat]!,0):=by
 rw[OH,if_neg (by rw[hA];decide),if_neg (by rw[<-hV];exact h)]
theorem qM1 {α:Type} {u:List α} {i:Int} (h:¬i<u.length):u.take i.toNat=u:=List.take_of_length_le (by omega)
theorem qTC {s:ByteArray} {n:Int} {r:List ByteArray×Int×Int} (h:¬r.2.2=0):XG s n r=([],r.2.2):=by rw[XG,if_pos h]
theorem OI {s:ByteArray} {n:Int} {r:List ByteArray×Int×Int} (h:r.2.2=0):XG s n r=XH r.1 (bN (s.extract r.2.1.toNat s.size) n (wdN r.1.length)):=by rw[XG,if_neg (fun q=>q h)]
theorem qTD {W:List ByteArray} {p:List Int×Int} (h:¬p.2=0):XH W p=([],p.2):=by rw[XH,if_pos h]
theorem XI {W:List ByteArray} {p:List Int×Int} (h:p.2=0):XH W p=OH W p.1:=by rw[XH,if_neg (fun q=>q h)]
theorem qVG {s:ByteArray} {n:Int} (h:n<0\/n>4096):cQ s n=([],4):=by rw[cQ,if_pos h]
theorem qVH {s:ByteArray} {n:Int} (h:¬(n<0\/n>4096)) (h1:¬(aA s 0).2.2=0):cQ s n=([],(aA s 0).2.2):=by rw[cQ,if_neg h,if_pos h1]
theorem qVI {s:ByteArray} {n:Int} (h:¬(n<0\/n>4096)) (h1:(aA s 0).2.2=0) (h2:(aA s 0).1>n\/((aA s 0).1=0/\n>0)):cQ s n=([],2):=by rw[cQ,if_neg h,if_neg (fun q=>q h1),if_pos h2]
theorem qAQ {s:ByteArray} {n:Int} (h:¬(n<0\/n>4096)) (h1:(aA s 0).2.2=0) (h2:¬((aA s 0).1>n\/((aA s 0).1=0/\n>0))):cQ s n=XG s n (bX s (aA s 0).1.toNat (aA s 0).2.1 []):=by rw[cQ,if_neg h,if_neg (fun q=>q h1),if_neg h2]
theorem qN (s:ByteArray):∀(n:Nat) (a:Int) (M:List ByteArray),(bX s n a M).1.length<=M.length+n
 |0,a,M=>by rw[bX];simp
 |n+1,a,M=>by
  rw[bX]
  split
  · simp
  split
  · simp
  split
  · simp
  · have:=qN s n ((aA s a).2.1+(aA s a).1) (M++ [IO s a])
    simp at this;omega
theorem qKM {s:ByteArray} (h:(aA s 0).2.2=0):0<=(aA s 0).2.1/\(aA s 0).2.1<=s.size:=by have:=bP h;omega
theorem qRG {s:ByteArray} {n:Nat} (h0:(aA s 0).2.2=0) (h:(bX s n (aA s 0).2.1 []).2.2=0):0<=(bX s n (aA s 0).2.1 []).2.1/\(bX s n (aA s 0).2.1 []).2.1<=s.size:=(qE1 n _ _ h).2 (qKM h0)
abbrev qAK:Ct:=.fn [.list .bool,.bool] (some (fun(l:List Bool) (v:Bool)=>(l.length<=4611686018427387904))) (fun(l:List Bool) (v:Bool)=>.d (.int .i64) (PB l v 0))
theorem qVY:aH Tryz.prog 226 qAK:=by
 refine aH.fn qCK mixed [] [] rfl rfl ?_
 rintro⟨(l:List Bool),(v:Bool),_⟩ hpre
 replace hpre:=hpre _ rfl
 dsimp only[cu]at hpre
 have hl:=hpre
 refine⟨[(0,4,LA.mk [.sl 8 (.int .i64)] (fun y=>Tag 14/\cu [.int .i64] (fun(k:Int)=>(0<=k/\k<=l.length)/\(PB l v 0=PB (l.drop k.toNat) v k)) y) (cu [.int .i64] (fun(k:Int)=>((l.length:Int)-k).toNat)) (cu [.int .i64] (fun(k:Int)=>([]:List (Nat×Nat×LA)))))],?_⟩
 repeat' (first
  |(
 with_reducible refine Side.mk ⟨(⟨⟩:Tag 14),?_⟩
 dsimp only[cu,aC,aB,gts,Prod.eta,List.nil_append]
 refine⟨?_,?_⟩
 · omega
 · first
   |(rfl)
   |(rw[hk2,LP (by omega),if_neg (by simp_all;done)]))
  |(
 with_reducible refine Side.mk ?_
 (try dsimp only[cu,aC,aB,gts,loK,hiK,Prod.eta,List.nil_append])
 omega)
  |(conv=>whnf
    first
     |done
     |exact trivial
     |with_reducible refine NilBr.mk (fun h=>?_) ?_
     |with_reducible first|refine aJ ?_ ?_|refine aI ?_ ?_|refine aK (by kernel_rfl) ?_|refine aL ?_|refine bD ?_ ?_|refine bC ?_ ?_|refine aR ?_ ?_
     |((with_reducible first|refine aT (fun h=>?_) (fun h=>?_)|refine aS (fun h=>?_) (fun h=>?_)|refine bA (fun h=>?_) (fun h=>?_))<;>(try dsimp only[cu,Prod.eta,List.nil_append]at h)<;>(try(exfalso;omega;done)))
     |(
 intro yy (hy:Tag 14/\_)
 obtain⟨(k:Int),_⟩:=yy
 replace hy:=hy.2
 dsimp only[cu,aC,aB,gts,Prod.eta,List.nil_append]at hy
 obtain⟨hk,hk2⟩:=hy)))
 all_goals(
 with_reducible refine Leaf.mk ?_
 (try dsimp only[cu,aC,aB,gts,Prod.eta,List.nil_append]at *)
 first
 |(rw[hk2,LP (by omega),if_pos (by simp_all;done)])
 |(rw[hk2,qKW (by omega)]))
abbrev qWD:Tbl:=(226,qAK)::qWC
theorem qCL:aD Tryz.prog qWD:=aD.cons qVY qCK
abbrev JN:Ct:=.fn [.list .bool,.bool] (some (fun(l:List Bool) (v:Bool)=>(l.length<=4611686018427387904))) (fun(l:List Bool) (v:Bool)=>.d .bool (qGG l v))
theorem qPH:aH Tryz.prog 212 JN:=by
 refine aH.fn qCL mixed [] [] rfl rfl ?_
 rintro⟨(l:List Bool),(v:Bool),_⟩ hpre
 replace hpre:=hpre _ rfl
 dsimp only[cu]at hpre
 have hl:=hpre
 refine⟨[],?_⟩
 repeat' (first
  |(
 with_reducible refine Side.mk ?_
 (try dsimp only[cu,aC,aB,gts,loK,hiK,Prod.eta,List.nil_append])
 omega)
  |(conv=>whnf
    first
     |done
     |exact trivial
     |with_reducible refine NilBr.mk (fun h=>?_) ?_
     |with_reducible first|refine aJ ?_ ?_|refine aI ?_ ?_|refine aK (by kernel_rfl) ?_|refine aL ?_|refine bD ?_ ?_|refine bC ?_ ?_|refine aR ?_ ?_
     |((with_reducible first|refine aT (fun h=>?_) (fun h=>?_)|refine aS (fun h=>?_) (fun h=>?_)|refine bA (fun h=>?_) (fun h=>?_))<;>(try dsimp only[cu,Prod.eta,List.nil_append]at h)<;>(try(exfalso;omega;done)))))
 all_goals(
 with_reducible refine Leaf.mk ?_
 (try dsimp only[cu,aC,aB,gts,Prod.eta,List.nil_append]at *)
 rfl)
abbrev qWE:Tbl:=(212,JN)::qWD
theorem qCM:aD Tryz.prog qWE:=aD.cons qPH qCL
abbrev BA:Ct:=.fn [.str,.int .i64] (some (fun(s:ByteArray) (n:Int)=>(s.size<=4611686018427387904))) (fun(s:ByteArray) (n:Int)=>.tup [.list .str,.int .i64] ((cQ s n).1,(cQ s n).2,()))
theorem qF3:aH Tryz.prog 189 BA:=by
 refine aH.fn qCM mixed [] [] rfl rfl ?_
 rintro⟨(s:ByteArray),(n:Int),_⟩ hpre
 replace hpre:=hpre _ rfl
 dsimp only[cu]at hpre
 have hs:=hpre
 refine⟨[(0,34,LA.mk [.sl 75 (.int .i64),.ar 0 .bool 4,.ar 1 .str 9] (fun y=>Tag 15/\cu [.int .i64,.list .bool,.list .str] (fun(i:Int) (V:List Bool) (O:List ByteArray)=>(0<=i/\i<=(bN (s.extract (bX s (aA s 0).1.toNat (aA s 0).2.1 []).2.1.toNat s.size) n (wdN (bX s (aA s 0).1.toNat (aA s 0).2.1 []).1.length)).1.length)/\(V=rT (bX s (aA s 0).1.toNat (aA s 0).2.1 []).1.length ((bN (s.extract (bX s (aA s 0).1.toNat (aA s 0).2.1 []).2.1.toNat s.size) n (wdN (bX s (aA s 0).1.toNat (aA s 0).2.1 []).1.length)).1.take i.toNat))/\(O.length=n.toNat)/\(O.take i.toNat=((bN (s.extract (bX s (aA s 0).1.toNat (aA s 0).2.1 []).2.1.toNat s.size) n (wdN (bX s (aA s 0).1.toNat (aA s 0).2.1 []).1.length)).1.take i.toNat).map (fun c=>(bX s (aA s 0).1.toNat (aA s 0).2.1 []).1[c.toNat]!))/\(((bN (s.extract (bX s (aA s 0).1.toNat (aA s 0).2.1 []).2.1.toNat s.size) n (wdN (bX s (aA s 0).1.toNat (aA s 0).2.1 []).1.length)).1.take i.toNat).any (fun c=>decide (c>=((bX s (aA s 0).1.toNat (aA s 0).2.1 []).1.length:Int)))=false)) y) (cu [.int .i64,.list .bool,.list .str] (fun(i:Int) (V:List Bool) (O:List ByteArray)=>(((bN (s.extract (bX s (aA s 0).1.toNat (aA s 0).2.1 []).2.1.toNat s.size) n (wdN (bX s (aA s 0).1.toNat (aA s 0).2.1 []).1.length)).1.length:Int)-i).toNat)) (cu [.int .i64,.list .bool,.list .str] (fun(i:Int) (V:List Bool) (O:List ByteArray)=>([]:List (Nat×Nat×LA)))))],?_⟩
 repeat' (first
  |(
 with_reducible refine Side.mk ⟨(⟨⟩:Tag 15),?_⟩
 dsimp only[cu,aC,aB,gts,Prod.eta,List.nil_append]
 refine⟨?_,?_,?_,?_,?_⟩
 · omega
 · first
   |(
  rw[show((0:Int).toNat)=0 from rfl,List.take_zero,qHW]
  simp;done)
   |(
  have hur:=pD (s.extract (bX s (aA s 0).1.toNat (aA s 0).2.1 []).2.1.toNat s.size) n (wdN (bX s (aA s 0).1.toNat (aA s 0).2.1 []).1.length) i.toNat
  simp only[lL]at *
  have hg:=aY s 0
  have hwn:=aW (n:=n) (by omega)
  have hwl:=qN s (aA s 0).1.toNat (aA s 0).2.1 []
  simp only[List.length_nil,Nat.zero_add]at hwl
  have hww:=aW (n:=((bX s (aA s 0).1.toNat (aA s 0).2.1 []).1.length:Int)) (by omega)
  rw[hV,ZU (by omega) (by omega)])
 · first
   |(simp;done)
   |(simp;omega)
 · first
   |(
  rw[show((0:Int).toNat)=0 from rfl,List.take_zero]
  rfl)
   |(
  have hu0:(bN (s.extract (bX s (aA s 0).1.toNat (aA s 0).2.1 []).2.1.toNat s.size) n (wdN (bX s (aA s 0).1.toNat (aA s 0).2.1 []).1.length)).2=0:=by assumption
  have hul:=iI hu0
  simp only[lL]at *
  rw[map_take (by omega),show(i+1).toNat=i.toNat+1 by omega,yZ _ _ _ (by omega),hO])
 · first
   |(
  rw[show((0:Int).toNat)=0 from rfl,List.take_zero]
  rfl)
   |(
  have hg:=aY s 0
  have hwn:=aW (n:=n) (by omega)
  have hwl:=qN s (aA s 0).1.toNat (aA s 0).2.1 []
  simp only[List.length_nil,Nat.zero_add]at hwl
  have hww:=aW (n:=((bX s (aA s 0).1.toNat (aA s 0).2.1 []).1.length:Int)) (by omega)
  simp only[lL]at *
  exact qIU (by omega) hA (by omega)))
  |(
 with_reducible refine Side.mk ?_
 (try dsimp only[cu,aC,aB,gts,loK,hiK,Prod.eta,List.nil_append])
 first
 |(omega)
 |(
  have hg:=aY s 0
  have hwn:=aW (n:=n) (by omega)
  first
  |(omega)
  |(
   have hwl:=qN s (aA s 0).1.toNat (aA s 0).2.1 []
   simp only[List.length_nil,Nat.zero_add]at hwl
   have hww:=aW (n:=((bX s (aA s 0).1.toNat (aA s 0).2.1 []).1.length:Int)) (by omega)
   omega))
 |(
  have:=qRG (s:=s) (by assumption) (by assumption:(bX s (aA s 0).1.toNat (aA s 0).2.1 []).2.2=0)
  omega)
 |(simp only[ByteArray.size_extract];omega)
 |(
  have hur:=pD (s.extract (bX s (aA s 0).1.toNat (aA s 0).2.1 []).2.1.toNat s.size) n (wdN (bX s (aA s 0).1.toNat (aA s 0).2.1 []).1.length) i.toNat
  simp only[lL]at *
  omega)
 |(
  have hg:=aY s 0
  have hwn:=aW (n:=n) (by omega)
  have hwl:=qN s (aA s 0).1.toNat (aA s 0).2.1 []
  simp only[List.length_nil,Nat.zero_add]at hwl
  have hww:=aW (n:=((bX s (aA s 0).1.toNat (aA s 0).2.1 []).1.length:Int)) (by omega)
  first
  |(
   have hu0:(bN (s.extract (bX s (aA s 0).1.toNat (aA s 0).2.1 []).2.1.toNat s.size) n (wdN (bX s (aA s 0).1.toNat (aA s 0).2.1 []).1.length)).2=0:=by assumption
   have hul:=iI hu0
   have hur:=pD (s.extract (bX s (aA s 0).1.toNat (aA s 0).2.1 []).2.1.toNat s.size) n (wdN (bX s (aA s 0).1.toNat (aA s 0).2.1 []).1.length) i.toNat
   simp only[lL]at *
   first
   |(rw[hV,NB];omega)
   |(omega))
  |(rw[hV,NB];omega)))
  |(conv=>whnf
    first
     |done
     |exact trivial
     |with_reducible refine NilBr.mk (fun h=>?_) ?_
     |with_reducible first|refine aJ ?_ ?_|refine aI ?_ ?_|refine aK (by kernel_rfl) ?_|refine aL ?_|refine bD ?_ ?_|refine bC ?_ ?_|refine aR ?_ ?_
     |((with_reducible first|refine aT (fun h=>?_) (fun h=>?_)|refine aS (fun h=>?_) (fun h=>?_)|refine bA (fun h=>?_) (fun h=>?_))<;>(try dsimp only[cu,Prod.eta,List.nil_append]at h)<;>(try(exfalso;omega;done)))
     |(
 intro yy (hy:Tag 15/\_)
 obtain⟨(i:Int),(V:List Bool),(O:List ByteArray),_⟩:=yy
 replace hy:=hy.2
 dsimp only[cu,aC,aB,gts,Prod.eta,List.nil_append]at hy
 obtain⟨hi,hV,hOl,hO,hA⟩:=hy)))
 all_goals(
 with_reducible refine Leaf.mk ?_
 (try dsimp only[cu,aC,aB,gts,Prod.eta,List.nil_append]at *)
 first
 |(
  have q1:n<0\/n>4096:=by first|omega|(simp_all;done)
  rw[qVG q1])
 |(
  have q1:¬(n<0\/n>4096):=by first|omega|(simp_all;done)
  have q2:¬(aA s 0).2.2=0:=by assumption
  rw[qVH q1 q2])
 |(
  have hg:=aY s 0
  have hwn:=aW (n:=n) (by omega)
  first
  |(
   have q1:¬(n<0\/n>4096):=by first|omega|(simp_all;done)
   have q2:(aA s 0).2.2=0:=by first|assumption|omega|(simp_all;done)
   first
   |(
    have q3:(aA s 0).1>n\/((aA s 0).1=0/\n>0):=by first|omega|(simp_all;done)
    rw[qVI q1 q2 q3])
   |(
    have q3:¬((aA s 0).1>n\/((aA s 0).1=0/\n>0)):=by first|omega|(simp_all;omega)|(simp_all;done)
    rw[qAQ q1 q2 q3]
    first
    |(
     have q4:¬(bX s (aA s 0).1.toNat (aA s 0).2.1 []).2.2=0:=by assumption
     rw[qTC q4])
    |(
     have q4:(bX s (aA s 0).1.toNat (aA s 0).2.1 []).2.2=0:=by first|assumption|omega
     rw[OI q4]
     have q5:¬(bN (s.extract (bX s (aA s 0).1.toNat (aA s 0).2.1 []).2.1.toNat s.size) n (wdN (bX s (aA s 0).1.toNat (aA s 0).2.1 []).1.length)).2=0:=by assumption
     rw[qTD q5])))
  |(
   have hwl:=qN s (aA s 0).1.toNat (aA s 0).2.1 []
   simp only[List.length_nil,Nat.zero_add]at hwl
   have hww:=aW (n:=((bX s (aA s 0).1.toNat (aA s 0).2.1 []).1.length:Int)) (by omega)
   have q1:¬(n<0\/n>4096):=by first|omega|(simp_all;done)
   have q2:(aA s 0).2.2=0:=by first|assumption|omega|(simp_all;done)
   have q3:¬((aA s 0).1>n\/((aA s 0).1=0/\n>0)):=by first|omega|(simp_all;omega)|(simp_all;done)
   rw[qAQ q1 q2 q3]
   have q4:(bX s (aA s 0).1.toNat (aA s 0).2.1 []).2.2=0:=by first|assumption|omega
   rw[OI q4]
   have q5:(bN (s.extract (bX s (aA s 0).1.toNat (aA s 0).2.1 []).2.1.toNat s.size) n (wdN (bX s (aA s 0).1.toNat (aA s 0).2.1 []).1.length)).2=0:=by first|assumption|omega
   rw[XI q5]
   have q6:(bN (s.extract (bX s (aA s 0).1.toNat (aA s 0).2.1 []).2.1.toNat s.size) n (wdN (bX s (aA s 0).1.toNat (aA s 0).2.1 []).1.length)).1[i.toNat]! >=((bX s (aA s 0).1.toNat (aA s 0).2.1 []).1.length:Int):=by simp only[lL]at *;omega
   rw[qJW (i:=i) (by omega) q6]))
 |(
  have ta0:¬i<((bN (s.extract (bX s (aA s 0).1.toNat (aA s 0).2.1 []).2.1.toNat s.size) n (wdN (bX s (aA s 0).1.toNat (aA s 0).2.1 []).1.length)).1.length:Int):=by assumption
  have ta:=qM1 ta0
  rw[ta]at hV hA hO
  first
  |(
   have hg:=aY s 0
   have hwn:=aW (n:=n) (by omega)
   have q1:¬(n<0\/n>4096):=by first|omega|(simp_all;done)
   have q2:(aA s 0).2.2=0:=by first|assumption|omega|(simp_all;done)
   have q3:¬((aA s 0).1>n\/((aA s 0).1=0/\n>0)):=by first|omega|(simp_all;omega)|(simp_all;done)
   rw[qAQ q1 q2 q3]
   have q4:(bX s (aA s 0).1.toNat (aA s 0).2.1 []).2.2=0:=by first|assumption|omega
   rw[OI q4]
   have q5:(bN (s.extract (bX s (aA s 0).1.toNat (aA s 0).2.1 []).2.1.toNat s.size) n (wdN (bX s (aA s 0).1.toNat (aA s 0).2.1 []).1.length)).2=0:=by first|assumption|omega
   rw[XI q5]
   have q6:qGG V false=true:=by assumption
   rw[qON hV hA q6])
  |(
   have hu0:(bN (s.extract (bX s (aA s 0).1.toNat (aA s 0).2.1 []).2.1.toNat s.size) n (wdN (bX s (aA s 0).1.toNat (aA s 0).2.1 []).1.length)).2=0:=by assumption
   have hul:=iI hu0
   have hg:=aY s 0
   have hwn:=aW (n:=n) (by omega)
   have q1:¬(n<0\/n>4096):=by first|omega|(simp_all;done)
   have q2:(aA s 0).2.2=0:=by first|assumption|omega|(simp_all;done)
   have q3:¬((aA s 0).1>n\/((aA s 0).1=0/\n>0)):=by first|omega|(simp_all;omega)|(simp_all;done)
   rw[qAQ q1 q2 q3]
   have q4:(bX s (aA s 0).1.toNat (aA s 0).2.1 []).2.2=0:=by first|assumption|omega
   rw[OI q4]
   have q5:(bN (s.extract (bX s (aA s 0).1.toNat (aA s 0).2.1 []).2.1.toNat s.size) n (wdN (bX s (aA s 0).1.toNat (aA s 0).2.1 []).1.length)).2=0:=by first|assumption|omega
   rw[XI q5]
   have q6:¬qGG V false=true:=by simp_all;done
   rw[qOM hV hA q6]
   (try rw[List.take_of_length_le (by omega)]at hO)
   first|done|exact hO|rfl)))
abbrev qWF:Tbl:=(189,BA)::qWE
theorem qCN:aD Tryz.prog qWF:=aD.cons qF3 qCM
abbrev EMP:ByteArray:=⟨#[]⟩
def cA (t:Int):Bool:=decide (1<=t)&&decide (t<=5)
def gN (t:Int) (v:Val):Bool:=
 if t=2 then decide (v.2.1=0)||decide (v.2.1=1)else if t=4 then decide (-719162<=v.2.1)&&decide (v.2.1<=2932896)
 else if t=5 then decide (-999999999999999999<=v.2.1)&&decide (v.2.1<=999999999999999999)else if t=3 then decide (v.2.2.size<=64)else true
def bR (c:Col) (v:Val):Int:=
 if cA c.2.1=false then 1 else if(v.1=true\/c.2.1≠3)/\v.2.2≠EMP then 11 else if(v.1=true\/c.2.1=3)/\v.2.1≠0 then 11
 else if v.1=true/\c.2.2.2=false then 12 else if v.1=false/\gN c.2.1 v=false then 4 else 0
def nS (a b:Int):Int:=if a<b then -1 else if a>b then 1 else 0
def AL (a b:ByteArray):Int:=if eO a b then -1 else if a=b then 0 else 1
def fF (t:Int) (a b:Val):Int:=
 if a.1=true/\b.1=true then 0 else if a.1=true then -1 else if b.1=true then 1 else if t=3 then AL a.2.2 b.2.2 else nS a.2.1 b.2.1
theorem yU {s:ByteArray} (h:¬s=⟨#[]⟩):0<s.size:=by
 rcases Nat.eq_zero_or_pos s.size with q|q
 · exfalso;apply h
   apply ByteArray.ext
   exact Array.eq_empty_of_size_eq_zero q
 · exact q
abbrev EM:Ct:=.fn [.int .i64] (none) (fun(t:Int)=>.d .bool (cA t))
theorem qK1:aH Tryz.prog 148 EM:=by
 refine aH.fn qCN mixed [] [] rfl rfl ?_
 rintro⟨(t:Int),_⟩ -
 refine⟨[],?_⟩
 repeat' (first
  |(
 with_reducible refine Side.mk ?_
 (try dsimp only[cu,aC,aB,gts,loK,hiK,Prod.eta,List.nil_append])
 done)
  |(conv=>whnf
    first
     |done
     |exact trivial
     |with_reducible refine NilBr.mk (fun h=>?_) ?_
     |with_reducible first|refine aJ ?_ ?_|refine aI ?_ ?_|refine aK (by kernel_rfl) ?_|refine aL ?_|refine bD ?_ ?_|refine bC ?_ ?_|refine aR ?_ ?_
     |((with_reducible first|refine aT (fun h=>?_) (fun h=>?_)|refine aS (fun h=>?_) (fun h=>?_)|refine bA (fun h=>?_) (fun h=>?_))<;>(try dsimp only[cu,Prod.eta,List.nil_append]at h)<;>(try(exfalso;omega;done)))))
 all_goals(
 with_reducible refine Leaf.mk ?_
 (try dsimp only[cu,aC,aB,gts,Prod.eta,List.nil_append]at *)
 grind [cA])
abbrev qWG:Tbl:=(148,EM)::qWF
theorem qCO:aD Tryz.prog qWG:=aD.cons qK1 qCN
abbrev sE:Ct:=.fn [.int .i64,bQ] (none) (fun(t:Int) (v:Val)=>.d .bool (gN t v))
theorem PP:aH Tryz.prog 149 sE:=by
 refine aH.fn qCO mixed [] [] rfl rfl ?_
 rintro⟨(t:Int),(v:Val),_⟩ -
 refine⟨[],?_⟩
 repeat' (first
  |(
 with_reducible refine Side.mk ?_
 (try dsimp only[cu,aC,aB,gts,loK,hiK,Prod.eta,List.nil_append])
 done)
  |(conv=>whnf
    first
     |done
     |exact trivial
     |with_reducible refine NilBr.mk (fun h=>?_) ?_
     |with_reducible first|refine aJ ?_ ?_|refine aI ?_ ?_|refine aK (by kernel_rfl) ?_|refine aL ?_|refine bD ?_ ?_|refine bC ?_ ?_|refine aR ?_ ?_
     |((with_reducible first|refine aT (fun h=>?_) (fun h=>?_)|refine aS (fun h=>?_) (fun h=>?_)|refine bA (fun h=>?_) (fun h=>?_))<;>(try dsimp only[cu,Prod.eta,List.nil_append]at h)<;>(try(exfalso;omega;done)))))
 all_goals(
 with_reducible refine Leaf.mk ?_
 (try dsimp only[cu,aC,aB,gts,Prod.eta,List.nil_append]at *)
 grind [gN])
abbrev qWH:Tbl:=(149,sE)::qWG
theorem qCP:aD Tryz.prog qWH:=aD.cons PP qCO
abbrev BP:Ct:=.fn [qK,bQ] (none) (fun(c:Col) (v:Val)=>.d (.int .i64) (bR c v))
theorem qHX:aH Tryz.prog 108 BP:=by
 refine aH.fn qCP mixed [] [] rfl rfl ?_
 rintro⟨(c:Col),(v:Val),_⟩ -
 refine⟨[],?_⟩
 repeat' (first
  |(
 with_reducible refine Side.mk ?_
 (try dsimp only[cu,aC,aB,gts,loK,hiK,Prod.eta,List.nil_append])
 done)
  |(conv=>whnf
    first
     |done
     |exact trivial
     |with_reducible refine NilBr.mk (fun h=>?_) ?_
     |with_reducible first|refine aJ ?_ ?_|refine aI ?_ ?_|refine aK (by kernel_rfl) ?_|refine aL ?_|refine bD ?_ ?_|refine bC ?_ ?_|refine aR ?_ ?_
     |((with_reducible first|refine aT (fun h=>?_) (fun h=>?_)|refine aS (fun h=>?_) (fun h=>?_)|refine bA (fun h=>?_) (fun h=>?_))<;>(try dsimp only[cu,Prod.eta,List.nil_append]at h)<;>(try(exfalso;omega;done)))))
 all_goals(
 with_reducible refine Leaf.mk ?_
 (try dsimp only[cu,aC,aB,gts,Prod.eta,List.nil_append]at *)
 grind [bR,cA,gN,fF,nS])
abbrev qWI:Tbl:=(108,BP)::qWH
theorem qCQ:aD Tryz.prog qWI:=aD.cons qHX qCP
abbrev BC:Ct:=.fn [.str] (none) (fun(a:ByteArray)=>.d .bool false)
theorem qGJ:aH Tryz.prog 185 BC:=by
 refine aH.fn qCQ mixed [] [] rfl rfl ?_
 rintro⟨(a:ByteArray),_⟩ -
 refine⟨[],?_⟩
 repeat' (first
  |(
 with_reducible refine Side.mk ?_
 (try dsimp only[cu,aC,aB,gts,loK,hiK,Prod.eta,List.nil_append])
 done)
  |(conv=>whnf
    first
     |done
     |exact trivial
     |with_reducible refine NilBr.mk (fun h=>?_) ?_
     |with_reducible first|refine aJ ?_ ?_|refine aI ?_ ?_|refine aK (by kernel_rfl) ?_|refine aL ?_|refine bD ?_ ?_|refine bC ?_ ?_|refine aR ?_ ?_
     |((with_reducible first|refine aT (fun h=>?_) (fun h=>?_)|refine aS (fun h=>?_) (fun h=>?_)|refine bA (fun h=>?_) (fun h=>?_))<;>(try dsimp only[cu,Prod.eta,List.nil_append]at h)<;>(try(exfalso;omega;done)))))
 all_goals(
 with_reducible refine Leaf.mk ?_
 (try dsimp only[cu,aC,aB,gts,Prod.eta,List.nil_append]at *)
 simp)
abbrev qWJ:Tbl:=(185,BC)::qWI
theorem qCR:aD Tryz.prog qWJ:=aD.cons qGJ qCQ
abbrev wT:Ct:=.fn [.int .i64] (none) (fun(a:Int)=>.d .bool false)
theorem YD:aH Tryz.prog 162 wT:=by
 refine aH.fn qCR mixed [] [] rfl rfl ?_
 rintro⟨(a:Int),_⟩ -
 refine⟨[],?_⟩
 repeat' (first
  |(
 with_reducible refine Side.mk ?_
 (try dsimp only[cu,aC,aB,gts,loK,hiK,Prod.eta,List.nil_append])
 done)
  |(conv=>whnf
    first
     |done
     |exact trivial
     |with_reducible refine NilBr.mk (fun h=>?_) ?_
     |with_reducible first|refine aJ ?_ ?_|refine aI ?_ ?_|refine aK (by kernel_rfl) ?_|refine aL ?_|refine bD ?_ ?_|refine bC ?_ ?_|refine aR ?_ ?_
     |((with_reducible first|refine aT (fun h=>?_) (fun h=>?_)|refine aS (fun h=>?_) (fun h=>?_)|refine bA (fun h=>?_) (fun h=>?_))<;>(try dsimp only[cu,Prod.eta,List.nil_append]at h)<;>(try(exfalso;omega;done)))))
 all_goals(
 with_reducible refine Leaf.mk ?_
 (try dsimp only[cu,aC,aB,gts,Prod.eta,List.nil_append]at *)
 simp)
abbrev qWK:Tbl:=(162,wT)::qWJ
theorem qCS:aD Tryz.prog qWK:=aD.cons YD qCR
abbrev EJ:Ct:=.fn [.int .i64,.int .i64] (none) (fun(a:Int) (b:Int)=>.d (.int .i64) (nS a b))
theorem qJC:aH Tryz.prog 132 EJ:=by
 refine aH.fn qCS mixed [] [] rfl rfl ?_
 rintro⟨(a:Int),(b:Int),_⟩ -
 refine⟨[],?_⟩
 repeat' (first
  |(
 with_reducible refine Side.mk ?_
 (try dsimp only[cu,aC,aB,gts,loK,hiK,Prod.eta,List.nil_append])
 done)
  |(conv=>whnf
    first
     |done
     |exact trivial
     |with_reducible refine NilBr.mk (fun h=>?_) ?_
     |with_reducible first|refine aJ ?_ ?_|refine aI ?_ ?_|refine aK (by kernel_rfl) ?_|refine aL ?_|refine bD ?_ ?_|refine bC ?_ ?_|refine aR ?_ ?_
     |((with_reducible first|refine aT (fun h=>?_) (fun h=>?_)|refine aS (fun h=>?_) (fun h=>?_)|refine bA (fun h=>?_) (fun h=>?_))<;>(try dsimp only[cu,Prod.eta,List.nil_append]at h)<;>(try(exfalso;omega;done)))))
 all_goals(
 with_reducible refine Leaf.mk ?_
 (try dsimp only[cu,aC,aB,gts,Prod.eta,List.nil_append]at *)
 grind [bR,cA,gN,fF,nS])
abbrev qWL:Tbl:=(132,EJ)::qWK
theorem qCT:aD Tryz.prog qWL:=aD.cons qJC qCS
abbrev JC:Ct:=.fn [.str,.str] (none) (fun(a:ByteArray) (b:ByteArray)=>.d (.int .i64) (AL a b))
theorem qOD:aH Tryz.prog 161 JC:=by
 refine aH.fn qCT mixed [] [] rfl rfl ?_
 rintro⟨(a:ByteArray),(b:ByteArray),_⟩ -
 refine⟨[],?_⟩
 repeat' (first
  |(
 with_reducible refine Side.mk ?_
 (try dsimp only[cu,aC,aB,gts,loK,hiK,Prod.eta,List.nil_append])
 done)
  |(conv=>whnf
    first
     |done
     |exact trivial
     |with_reducible refine NilBr.mk (fun h=>?_) ?_
     |with_reducible first|refine aJ ?_ ?_|refine aI ?_ ?_|refine aK (by kernel_rfl) ?_|refine aL ?_|refine bD ?_ ?_|refine bC ?_ ?_|refine aR ?_ ?_
     |((with_reducible first|refine aT (fun h=>?_) (fun h=>?_)|refine aS (fun h=>?_) (fun h=>?_)|refine bA (fun h=>?_) (fun h=>?_))<;>(try dsimp only[cu,Prod.eta,List.nil_append]at h)<;>(try(exfalso;omega;done)))))
 all_goals(
 with_reducible refine Leaf.mk ?_
 (try dsimp only[cu,aC,aB,gts,Prod.eta,List.nil_append]at *)
 grind [AL])
abbrev qWM:Tbl:=(161,JC)::qWL
theorem qCU:aD Tryz.prog qWM:=aD.cons qOD qCT
abbrev vA:Ct:=.fn [.int .i64,bQ,bQ] (none) (fun(t:Int) (a:Val) (b:Val)=>.d (.int .i64) (fF t a b))
theorem WI:aH Tryz.prog 131 vA:=by
 refine aH.fn qCU mixed [] [] rfl rfl ?_
 rintro⟨(t:Int),(a:Val),(b:Val),_⟩ -
 refine⟨[],?_⟩
 repeat' (first
  |(
 with_reducible refine Side.mk ?_
 (try dsimp only[cu,aC,aB,gts,loK,hiK,Prod.eta,List.nil_append])
 done)
  |(conv=>whnf
    first
     |done
     |exact trivial
     |with_reducible refine NilBr.mk (fun h=>?_) ?_
     |with_reducible first|refine aJ ?_ ?_|refine aI ?_ ?_|refine aK (by kernel_rfl) ?_|refine aL ?_|refine bD ?_ ?_|refine bC ?_ ?_|refine aR ?_ ?_
     |((with_reducible first|refine aT (fun h=>?_) (fun h=>?_)|refine aS (fun h=>?_) (fun h=>?_)|refine bA (fun h=>?_) (fun h=>?_))<;>(try dsimp only[cu,Prod.eta,List.nil_append]at h)<;>(try(exfalso;omega;done)))))
 all_goals(
 with_reducible refine Leaf.mk ?_
 (try dsimp only[cu,aC,aB,gts,Prod.eta,List.nil_append]at *)
 grind [bR,cA,gN,fF,nS])
abbrev qWN:Tbl:=(131,vA)::qWM
theorem qCV:aD Tryz.prog qWN:=aD.cons WI qCU
abbrev FL:Ct:=.fn [.int .i64] (none) (fun(t:Int)=>.d .bool (cA t))
theorem qNI:aH Tryz.prog 54 FL:=by
 refine aH.fn qCV mixed [] [] rfl rfl ?_
 rintro⟨(t:Int),_⟩ -
 refine⟨[],?_⟩
 repeat' (first
  |(
 with_reducible refine Side.mk ?_
 (try dsimp only[cu,aC,aB,gts,loK,hiK,Prod.eta,List.nil_append])
 done)
  |(conv=>whnf
    first
     |done
     |exact trivial
     |with_reducible refine NilBr.mk (fun h=>?_) ?_
     |with_reducible first|refine aJ ?_ ?_|refine aI ?_ ?_|refine aK (by kernel_rfl) ?_|refine aL ?_|refine bD ?_ ?_|refine bC ?_ ?_|refine aR ?_ ?_
     |((with_reducible first|refine aT (fun h=>?_) (fun h=>?_)|refine aS (fun h=>?_) (fun h=>?_)|refine bA (fun h=>?_) (fun h=>?_))<;>(try dsimp only[cu,Prod.eta,List.nil_append]at h)<;>(try(exfalso;omega;done)))))
 all_goals(
 with_reducible refine Leaf.mk ?_
 (try dsimp only[cu,aC,aB,gts,Prod.eta,List.nil_append]at *)
 grind [cA])
abbrev qWO:Tbl:=(54,FL)::qWN
theorem qCW:aD Tryz.prog qWO:=aD.cons qNI qCV
abbrev BF:Ct:=.fn [qK,bQ] (none) (fun(c:Col) (v:Val)=>.d (.int .i64) (bR c v))
theorem qGY:aH Tryz.prog 81 BF:=by
 refine aH.fn qCW mixed [] [] rfl rfl ?_
 rintro⟨(c:Col),(v:Val),_⟩ -
 refine⟨[],?_⟩
 repeat' (first
  |(
 with_reducible refine Side.mk ?_
 (try dsimp only[cu,aC,aB,gts,loK,hiK,Prod.eta,List.nil_append])
 done)
  |(conv=>whnf
    first
     |done
     |exact trivial
     |with_reducible refine NilBr.mk (fun h=>?_) ?_
     |with_reducible first|refine aJ ?_ ?_|refine aI ?_ ?_|refine aK (by kernel_rfl) ?_|refine aL ?_|refine bD ?_ ?_|refine bC ?_ ?_|refine aR ?_ ?_
     |((with_reducible first|refine aT (fun h=>?_) (fun h=>?_)|refine aS (fun h=>?_) (fun h=>?_)|refine bA (fun h=>?_) (fun h=>?_))<;>(try dsimp only[cu,Prod.eta,List.nil_append]at h)<;>(try(exfalso;omega;done)))))
 all_goals(
 with_reducible refine Leaf.mk ?_
 (try dsimp only[cu,aC,aB,gts,Prod.eta,List.nil_append]at *)
 grind [bR,cA,gN,fF,nS])
abbrev qWP:Tbl:=(81,BF)::qWO
theorem qCX:aD Tryz.prog qWP:=aD.cons qGY qCW
abbrev ET:Ct:=.fn [.bool,.bool] (none) (fun(l:Bool) (e:Bool)=>.d (.int .i64) (if l=true then -1 else if e=true then 0 else 1))
theorem qLL:aH Tryz.prog 154 ET:=by
 refine aH.fn qCX mixed [] [] rfl rfl ?_
 rintro⟨(l:Bool),(e:Bool),_⟩ -
 refine⟨[],?_⟩
 repeat' (first
  |(
 with_reducible refine Side.mk ?_
 (try dsimp only[cu,aC,aB,gts,loK,hiK,Prod.eta,List.nil_append])
 done)
  |(conv=>whnf
    first
     |done
     |exact trivial
     |with_reducible refine NilBr.mk (fun h=>?_) ?_
     |with_reducible first|refine aJ ?_ ?_|refine aI ?_ ?_|refine aK (by kernel_rfl) ?_|refine aL ?_|refine bD ?_ ?_|refine bC ?_ ?_|refine aR ?_ ?_
     |((with_reducible first|refine aT (fun h=>?_) (fun h=>?_)|refine aS (fun h=>?_) (fun h=>?_)|refine bA (fun h=>?_) (fun h=>?_))<;>(try dsimp only[cu,Prod.eta,List.nil_append]at h)<;>(try(exfalso;omega;done)))))
 all_goals(
 with_reducible refine Leaf.mk ?_
 (try dsimp only[cu,aC,aB,gts,Prod.eta,List.nil_append]at *)
 simp_all)
abbrev qWQ:Tbl:=(154,ET)::qWP
theorem qCY:aD Tryz.prog qWQ:=aD.cons qLL qCX
abbrev uY:Ct:=.fn [.int .i64,bQ,bQ] (none) (fun(t:Int) (a:Val) (b:Val)=>.d (.int .i64) (fF t a b))
theorem TW:aH Tryz.prog 117 uY:=by
 refine aH.fn qCY mixed [] [] rfl rfl ?_
 rintro⟨(t:Int),(a:Val),(b:Val),_⟩ -
 refine⟨[],?_⟩
 repeat' (first
  |(
 with_reducible refine Side.mk ?_
 (try dsimp only[cu,aC,aB,gts,loK,hiK,Prod.eta,List.nil_append])
 done)
  |(conv=>whnf
    first
     |done
     |exact trivial
     |with_reducible refine NilBr.mk (fun h=>?_) ?_
     |with_reducible first|refine aJ ?_ ?_|refine aI ?_ ?_|refine aK (by kernel_rfl) ?_|refine aL ?_|refine bD ?_ ?_|refine bC ?_ ?_|refine aR ?_ ?_
     |((with_reducible first|refine aT (fun h=>?_) (fun h=>?_)|refine aS (fun h=>?_) (fun h=>?_)|refine bA (fun h=>?_) (fun h=>?_))<;>(try dsimp only[cu,Prod.eta,List.nil_append]at h)<;>(try(exfalso;omega;done)))))
 all_goals(
 with_reducible refine Leaf.mk ?_
 (try dsimp only[cu,aC,aB,gts,Prod.eta,List.nil_append]at *)
 grind [fF,nS,AL])
abbrev qWR:Tbl:=(117,uY)::qWQ
theorem qCZ:aD Tryz.prog qWR:=aD.cons TW qCY
def rnd (v:Int):Int:=lM .u32 (iF .u32 v 1) (IntKind.u32.wrap (2197175160*qU .u32 v 1))
def yM:Nat->Int->Int
 |0,v=>v
 |n+1,v=>yM n (rnd v)
theorem qMD (v:Int):0<=rnd v/\rnd v<4294967296:=sB _ _
theorem qQS {v:Int} (h:qU .u32 v 1=1):rnd v=lM .u32 (iF .u32 v 1) 2197175160:=by
 unfold rnd;rw[h];rfl
theorem qME {v:Int} (hv:0<=v/\v<4294967296) (h:¬qU .u32 v 1=1):rnd v=iF .u32 v 1:=by
 have h0:qU .u32 v 1=0:=by rw[qU5 hv]at h ⊢;omega
 unfold rnd
 rw[h0,show IntKind.u32.wrap (2197175160*0)=0 from rfl,qU8 (by simpa using qB7 hv 1)]
theorem AJ {k v:Int} (h:0<=k/\k<8):yM (8-k).toNat v=yM (8-(k+1)).toNat (rnd v):=by
 rw[show(8-k).toNat=(8-(k+1)).toNat+1 by omega];rfl
def cR:List Int:=(List.range 256).map fun i:Nat=>yM 8 (i:Int)
theorem qW:cR.length=256:=by simp [cR]
def cstep (t:List Int) (v b:Int):Int:=lM .u32 (iF .u32 v 8) t[(lM .u8 (IntKind.u8.wrap v) b).toNat]!
def bnot (v:Int):Int:=lM .u32 (-1) v
def yX (t:List Int) (s:ByteArray):Int:=if t.length=256 then bnot ((aF s).foldl (cstep t) 4294967295)else 0
def gO (s:ByteArray):Int:=yX cR s
theorem LG {t:List Int} {s:ByteArray} {k v:Int} (h:0<=k/\k<s.size):((aF s).drop k.toNat).foldl (cstep t) v=((aF s).drop (k+1).toNat).foldl (cstep t) (cstep t v (aG s k.toNat)):=by
 rw[bI (aF s) k (by rw[aP];exact h),List.foldl_cons,lD]
abbrev KL:Ct:=.fn [.list (.int .u32),.int .u32,.int .u8] (some (fun(t:List Int) (v:Int) (b:Int)=>(t.length=256))) (fun(t:List Int) (v:Int) (b:Int)=>.d (.int .u32) (cstep t v b))
theorem qQ5:aH Tryz.prog 116 KL:=by
 refine aH.fn qCZ mixed [] [] rfl rfl ?_
 rintro⟨(t:List Int),(v:Int),(b:Int),_⟩ hpre
 replace hpre:=hpre _ rfl
 dsimp only[cu]at hpre
 have ht:=hpre
 refine⟨[],?_⟩
 repeat' (first
  |(
 with_reducible refine Side.mk ?_
 (try dsimp only[cu,aC,aB,gts,loK,hiK,Prod.eta,List.nil_append])
 first
 |(omega)
 |(have hx:=CY (IntKind.u8.wrap v) b;omega))
  |(conv=>whnf
    first
     |done
     |exact trivial
     |with_reducible refine NilBr.mk (fun h=>?_) ?_
     |with_reducible first|refine aJ ?_ ?_|refine aI ?_ ?_|refine aK (by kernel_rfl) ?_|refine aL ?_|refine bD ?_ ?_|refine bC ?_ ?_|refine aR ?_ ?_
     |((with_reducible first|refine aT (fun h=>?_) (fun h=>?_)|refine aS (fun h=>?_) (fun h=>?_)|refine bA (fun h=>?_) (fun h=>?_))<;>(try dsimp only[cu,Prod.eta,List.nil_append]at h)<;>(try(exfalso;omega;done)))))
 all_goals(
 with_reducible refine Leaf.mk ?_
 (try dsimp only[cu,aC,aB,gts,Prod.eta,List.nil_append]at *)
 rfl)
abbrev qWS:Tbl:=(116,KL)::qWR
theorem qC0:aD Tryz.prog qWS:=aD.cons qQ5 qCZ
abbrev RK:Ct:=.fn [.list (.int .u32),.str] (some (fun(t:List Int) (s:ByteArray)=>(s.size<=9223372036854775807))) (fun(t:List Int) (s:ByteArray)=>.d (.int .u32) (yX t s))
theorem qUT:aH Tryz.prog 70 RK:=by
 refine aH.fn qC0 mixed [] [] rfl rfl ?_
 rintro⟨(t:List Int),(s:ByteArray),_⟩ hpre
 replace hpre:=hpre _ rfl
 dsimp only[cu]at hpre
 have hs:=hpre
 refine⟨[(0,10,LA.mk [.sl 12 (.int .i64),.sl 5 (.int .u32)] (fun y=>Tag 16/\cu [.int .i64,.int .u32] (fun(k:Int) (v:Int)=>(0<=k/\k<=s.size)/\(((aF s).drop k.toNat).foldl (cstep t) v=(aF s).foldl (cstep t) 4294967295)) y) (cu [.int .i64,.int .u32] (fun(k:Int) (v:Int)=>((s.size:Int)-k).toNat)) (cu [.int .i64,.int .u32] (fun(k:Int) (v:Int)=>([]:List (Nat×Nat×LA)))))],?_⟩
 repeat' (first
  |(
 with_reducible refine Side.mk ⟨(⟨⟩:Tag 16),?_⟩
 dsimp only[cu,aC,aB,gts,Prod.eta,List.nil_append]
 refine⟨?_,?_⟩
 · omega
 · first
   |(simp;done)
   |(rw[<-hv,LG (k:=k) (v:=v) (by omega)];(try rfl)))
  |(
 with_reducible refine Side.mk ?_
 (try dsimp only[cu,aC,aB,gts,loK,hiK,Prod.eta,List.nil_append])
 omega)
  |(conv=>whnf
    first
     |done
     |exact trivial
     |with_reducible refine NilBr.mk (fun h=>?_) ?_
     |with_reducible first|refine aJ ?_ ?_|refine aI ?_ ?_|refine aK (by kernel_rfl) ?_|refine aL ?_|refine bD ?_ ?_|refine bC ?_ ?_|refine aR ?_ ?_
     |((with_reducible first|refine aT (fun h=>?_) (fun h=>?_)|refine aS (fun h=>?_) (fun h=>?_)|refine bA (fun h=>?_) (fun h=>?_))<;>(try dsimp only[cu,Prod.eta,List.nil_append]at h)<;>(try(exfalso;omega;done)))
     |(
 intro yy (hy:Tag 16/\_)
 obtain⟨(k:Int),(v:Int),_⟩:=yy
 replace hy:=hy.2
 dsimp only[cu,aC,aB,gts,Prod.eta,List.nil_append]at hy
 obtain⟨hk,hv⟩:=hy)))
 all_goals(
 with_reducible refine Leaf.mk ?_
 (try dsimp only[cu,aC,aB,gts,Prod.eta,List.nil_append]at *)
 first
 |(
  have h256:¬t.length=256:=by omega
  rw[yX,if_neg h256])
 |(
  have h256:t.length=256:=by omega
  rw[yX,if_pos h256,<-hv,List.drop_eq_nil_of_le (by rw[aP];omega)]
  rfl))
abbrev qWT:Tbl:=(70,RK)::qWS
theorem qC1:aD Tryz.prog qWT:=aD.cons qUT qC0
abbrev KH:Ct:=.fn [.list (.int .u32),.str] (some (fun(t:List Int) (s:ByteArray)=>(s.size<=9223372036854775807))) (fun(t:List Int) (s:ByteArray)=>.d (.int .u32) (yX t s))
theorem qQV:aH Tryz.prog 85 KH:=by
 refine aH.fn qC1 mixed [] [] rfl rfl ?_
 rintro⟨(t:List Int),(s:ByteArray),_⟩ hpre
 replace hpre:=hpre _ rfl
 dsimp only[cu]at hpre
 have hs:=hpre
 refine⟨[(0,10,LA.mk [.sl 6 (.int .i64),.sl 5 (.int .u32)] (fun y=>Tag 17/\cu [.int .i64,.int .u32] (fun(k:Int) (v:Int)=>(0<=k/\k<=s.size)/\(((aF s).drop k.toNat).foldl (cstep t) v=(aF s).foldl (cstep t) 4294967295)) y) (cu [.int .i64,.int .u32] (fun(k:Int) (v:Int)=>((s.size:Int)-k).toNat)) (cu [.int .i64,.int .u32] (fun(k:Int) (v:Int)=>([]:List (Nat×Nat×LA)))))],?_⟩
 repeat' (first
  |(
 with_reducible refine Side.mk ⟨(⟨⟩:Tag 17),?_⟩
 dsimp only[cu,aC,aB,gts,Prod.eta,List.nil_append]
 refine⟨?_,?_⟩
 · omega
 · first
   |(simp;done)
   |(rw[<-hv,LG (k:=k) (v:=v) (by omega)];(try rfl)))
  |(
 with_reducible refine Side.mk ?_
 (try dsimp only[cu,aC,aB,gts,loK,hiK,Prod.eta,List.nil_append])
 first
 |(omega)
 |(have hx:=CY (IntKind.u8.wrap v) (aG s k.toNat);omega))
  |(conv=>whnf
    first
     |done
     |exact trivial
     |with_reducible refine NilBr.mk (fun h=>?_) ?_
     |with_reducible first|refine aJ ?_ ?_|refine aI ?_ ?_|refine aK (by kernel_rfl) ?_|refine aL ?_|refine bD ?_ ?_|refine bC ?_ ?_|refine aR ?_ ?_
     |((with_reducible first|refine aT (fun h=>?_) (fun h=>?_)|refine aS (fun h=>?_) (fun h=>?_)|refine bA (fun h=>?_) (fun h=>?_))<;>(try dsimp only[cu,Prod.eta,List.nil_append]at h)<;>(try(exfalso;omega;done)))
     |(
 intro yy (hy:Tag 17/\_)
 obtain⟨(k:Int),(v:Int),_⟩:=yy
 replace hy:=hy.2
 dsimp only[cu,aC,aB,gts,Prod.eta,List.nil_append]at hy
 obtain⟨hk,hv⟩:=hy)))
 all_goals(
 with_reducible refine Leaf.mk ?_
 (try dsimp only[cu,aC,aB,gts,Prod.eta,List.nil_append]at *)
 first
 |(
  have h256:¬t.length=256:=by omega
  rw[yX,if_neg h256])
 |(
  have h256:t.length=256:=by omega
  rw[yX,if_pos h256,<-hv,List.drop_eq_nil_of_le (by rw[aP];omega)]
  rfl))
abbrev qWU:Tbl:=(85,KH)::qWT
theorem qC2:aD Tryz.prog qWU:=aD.cons qQV qC1
abbrev FK:Ct:=.fn [] (none) (.d (.list (.int .u32)) cR)
theorem qM0:aH Tryz.prog 71 FK:=by
 refine aH.fn qC2 mixed [(0,5,1)] [] rfl rfl ?_
 rintro⟨⟩ -
 refine⟨[(0,6,LA.mk [.sl 7 (.int .i64),.ar 0 (.int .u32) 80] (fun y=>Tag 18/\cu [.int .i64,.list (.int .u32)] (fun(k:Int) (M:List Int)=>(0<=k/\k<=256)/\(M.length=256)/\(M.take k.toNat=(List.range k.toNat).map (fun i:Nat=>yM 8 (i:Int)))) y) (cu [.int .i64,.list (.int .u32)] (fun(k:Int) (M:List Int)=>((256:Int)-k).toNat)) (cu [.int .i64,.list (.int .u32)] (fun(k:Int) (M:List Int)=>([(0,14,LA.mk [.sl 12 (.int .i64),.sl 3 (.int .u32)] (fun y=>Tag 19/\cu [.int .i64,.int .u32] (fun(j:Int) (v:Int)=>(0<=j/\j<=8)/\(yM (8-j).toNat v=yM 8 k)) y) (cu [.int .i64,.int .u32] (fun(j:Int) (v:Int)=>((8:Int)-j).toNat)) (cu [.int .i64,.int .u32] (fun(j:Int) (v:Int)=>([]:List (Nat×Nat×LA)))))]:List (Nat×Nat×LA)))))],?_⟩
 repeat' (first
  |(
 with_reducible refine Side.mk ⟨(⟨⟩:Tag 18),?_⟩
 dsimp only[cu,aC,aB,gts,Prod.eta,List.nil_append]
 refine⟨?_,?_,?_⟩
 · omega
 · first
   |(simp;done)
   |(simp;omega)
 · first
   |(simp;done)
   |(
  rw[show(k+1).toNat=k.toNat+1 by omega,yZ _ _ _ (by omega),hm,List.range_succ,List.map_append]
  simp only[List.map_cons,List.map_nil]
  rw[show((k.toNat:Nat):Int)=k by omega,<-hj,show(8-j).toNat=0 by omega]
  rfl))
  |(
 with_reducible refine Side.mk ⟨(⟨⟩:Tag 19),?_⟩
 dsimp only[cu,aC,aB,gts,Prod.eta,List.nil_append]
 refine⟨?_,?_⟩
 · omega
 · first
   |(rfl)
   |(rw[<-hj,AJ (k:=j) (v:=v) (by omega)];(try rfl)))
  |(
 with_reducible refine Side.mk ?_
 (try dsimp only[cu,aC,aB,gts,loK,hiK,Prod.eta,List.nil_append])
 omega)
  |(conv=>whnf
    first
     |done
     |exact trivial
     |with_reducible refine NilBr.mk (fun h=>?_) ?_
     |with_reducible first|refine aJ ?_ ?_|refine aI ?_ ?_|refine aK (by kernel_rfl) ?_|refine aL ?_|refine bD ?_ ?_|refine bC ?_ ?_|refine aR ?_ ?_
     |((with_reducible first|refine aT (fun h=>?_) (fun h=>?_)|refine aS (fun h=>?_) (fun h=>?_)|refine bA (fun h=>?_) (fun h=>?_))<;>(try dsimp only[cu,Prod.eta,List.nil_append]at h)<;>(try(exfalso;omega;done)))
     |(
 intro yy (hy:Tag 18/\_)
 obtain⟨(k:Int),(M:List Int),_⟩:=yy
 replace hy:=hy.2
 dsimp only[cu,aC,aB,gts,Prod.eta,List.nil_append]at hy
 obtain⟨hk,hl,hm⟩:=hy)
     |(
 intro yy (hy:Tag 19/\_)
 obtain⟨(j:Int),(v:Int),_⟩:=yy
 replace hy:=hy.2
 dsimp only[cu,aC,aB,gts,Prod.eta,List.nil_append]at hy
 obtain⟨hj,hj⟩:=hy)))
 all_goals(
 with_reducible refine Leaf.mk ?_
 (try dsimp only[cu,aC,aB,gts,Prod.eta,List.nil_append]at *)
 (
  rw[show k.toNat=256 by omega,List.take_of_length_le (by omega)]at hm
  exact hm))
abbrev qWV:Tbl:=(71,FK)::qWU
theorem qC3:aD Tryz.prog qWV:=aD.cons qM0 qC2
abbrev BK:Ct:=.fn [] (none) (.d (.list (.int .u32)) cR)
theorem qG9:aH Tryz.prog 86 BK:=by
 refine aH.fn qC3 mixed [(0,4,1)] [] rfl rfl ?_
 rintro⟨⟩ -
 refine⟨[(0,6,LA.mk [.sl 2 (.int .u32),.lst 1 (.int .u32) 80] (fun y=>Tag 20/\cu [.int .u32,.list (.int .u32)] (fun(k:Int) (M:List Int)=>(0<=k/\k<=256)/\(M=(List.range k.toNat).map (fun i:Nat=>yM 8 (i:Int)))) y) (cu [.int .u32,.list (.int .u32)] (fun(k:Int) (M:List Int)=>(256-k).toNat)) (cu [.int .u32,.list (.int .u32)] (fun(k:Int) (M:List Int)=>([(0,14,LA.mk [.sl 4 (.int .i64),.sl 3 (.int .u32)] (fun y=>Tag 21/\cu [.int .i64,.int .u32] (fun(j:Int) (v:Int)=>(0<=j/\j<=8)/\(0<=v/\v<4294967296)/\(yM (8-j).toNat v=yM 8 k)) y) (cu [.int .i64,.int .u32] (fun(j:Int) (v:Int)=>((8:Int)-j).toNat)) (cu [.int .i64,.int .u32] (fun(j:Int) (v:Int)=>([]:List (Nat×Nat×LA)))))]:List (Nat×Nat×LA)))))],?_⟩
 repeat' (first
  |(
 with_reducible refine Side.mk ⟨(⟨⟩:Tag 20),?_⟩
 dsimp only[cu,aC,aB,gts,Prod.eta,List.nil_append]
 refine⟨?_,?_⟩
 · omega
 · first
   |(simp;done)
   |(
  rw[show(k+1).toNat=k.toNat+1 by omega,List.range_succ,List.map_append,hm]
  simp only[List.map_cons,List.map_nil]
  rw[show((k.toNat:Nat):Int)=k by omega,<-hj,show(8-j).toNat=0 by omega]
  rfl))
  |(
 with_reducible refine Side.mk ⟨(⟨⟩:Tag 21),?_⟩
 dsimp only[cu,aC,aB,gts,Prod.eta,List.nil_append]
 refine⟨?_,?_,?_⟩
 · omega
 · first
   |(omega)
   |(exact sB _ _)
   |(simpa using qB7 (by assumption) 1)
 · first
   |(rfl)
   |(rw[<-hj,AJ (k:=j) (v:=v) (by omega),qQS (by assumption)])
   |(rw[<-hj,AJ (k:=j) (v:=v) (by omega),qME (by assumption) (by assumption)]))
  |(
 with_reducible refine Side.mk ?_
 (try dsimp only[cu,aC,aB,gts,loK,hiK,Prod.eta,List.nil_append])
 first
 |(done)
 |(omega)
 |(exact Eq.refl _)
 |(
  have hml:M.length=k.toNat:=by rw[hm];simp
  simp only[List.length_cons,List.length_nil]
  omega))
  |(conv=>whnf
    first
     |done
     |exact trivial
     |with_reducible refine NilBr.mk (fun h=>?_) ?_
     |with_reducible first|refine aJ ?_ ?_|refine aI ?_ ?_|refine aK (by kernel_rfl) ?_|refine aL ?_|refine bD ?_ ?_|refine bC ?_ ?_|refine aR ?_ ?_
     |((with_reducible first|refine aT (fun h=>?_) (fun h=>?_)|refine aS (fun h=>?_) (fun h=>?_)|refine bA (fun h=>?_) (fun h=>?_))<;>(try dsimp only[cu,Prod.eta,List.nil_append]at h)<;>(try(exfalso;omega;done)))
     |(
 intro yy (hy:Tag 20/\_)
 obtain⟨(k:Int),(M:List Int),_⟩:=yy
 replace hy:=hy.2
 dsimp only[cu,aC,aB,gts,Prod.eta,List.nil_append]at hy
 obtain⟨hk,hm⟩:=hy)
     |(
 intro yy (hy:Tag 21/\_)
 obtain⟨(j:Int),(v:Int),_⟩:=yy
 replace hy:=hy.2
 dsimp only[cu,aC,aB,gts,Prod.eta,List.nil_append]at hy
 obtain⟨hj,hv,hj⟩:=hy)))
 all_goals(
 with_reducible refine Leaf.mk ?_
 (try dsimp only[cu,aC,aB,gts,Prod.eta,List.nil_append]at *)
 (
  rw[show k.toNat=256 by omega]at hm
  exact hm))
abbrev qWW:Tbl:=(86,BK)::qWV
theorem qC4:aD Tryz.prog qWW:=aD.cons qG9 qC3
abbrev KE:Ct:=.fn [.str] (some (fun(s:ByteArray)=>(s.size<=9223372036854775807))) (fun(s:ByteArray)=>.d (.int .u32) (gO s))
theorem qQO:aH Tryz.prog 46 KE:=by
 refine aH.fn qC4 mixed [] [] rfl rfl ?_
 rintro⟨(s:ByteArray),_⟩ hpre
 replace hpre:=hpre _ rfl
 dsimp only[cu]at hpre
 have hs:=hpre
 refine⟨[],?_⟩
 repeat' (first
  |(
 with_reducible refine Side.mk ?_
 (try dsimp only[cu,aC,aB,gts,loK,hiK,Prod.eta,List.nil_append])
 omega)
  |(conv=>whnf
    first
     |done
     |exact trivial
     |with_reducible refine NilBr.mk (fun h=>?_) ?_
     |with_reducible first|refine aJ ?_ ?_|refine aI ?_ ?_|refine aK (by kernel_rfl) ?_|refine aL ?_|refine bD ?_ ?_|refine bC ?_ ?_|refine aR ?_ ?_
     |((with_reducible first|refine aT (fun h=>?_) (fun h=>?_)|refine aS (fun h=>?_) (fun h=>?_)|refine bA (fun h=>?_) (fun h=>?_))<;>(try dsimp only[cu,Prod.eta,List.nil_append]at h)<;>(try(exfalso;omega;done)))))
 all_goals(
 with_reducible refine Leaf.mk ?_
 (try dsimp only[cu,aC,aB,gts,Prod.eta,List.nil_append]at *)
 rfl)
abbrev qWX:Tbl:=(46,KE)::qWW
theorem qC5:aD Tryz.prog qWX:=aD.cons qQO qC4
def fB (l:List Bool) (q:Nat):Int:=if l[q]! =true then 1 else 0
theorem qYW (l:List Bool):AV (fB l):=fun q=>by unfold fB;split<;>simp
def TG (l:List Bool):ByteArray:=aV (gL (fB l) l.length 8 (((l.length:Int)+7).tdiv 8).toNat)
def QT (s:ByteArray) (q:Nat):Bool:=decide (sbit s q=1)
def uU (s:ByteArray) (n:Nat):List Bool:=(List.range n).map (QT s)
def jT (s:ByteArray) (n:Int):List Bool×Int:=
 if n<0\/n>4096 then([],4)else if(s.size:Int)<(n+7).tdiv 8 then([],10)else if(s.size:Int)>(n+7).tdiv 8 then([],2)
 else if lK s n.toNat=true then([],2)else(uU s n.toNat,0)
def nO (s:ByteArray):Nat->Int
 |0=>0
 |m+1=>nO s m+sbit s m
def MB (n:Nat):Int:=((n%2+n/2%2+n/4%2+n/8%2+n/16%2+n/32%2+n/64%2+n/128%2:Nat):Int)
def qV (s:ByteArray):Int:=nO s (8*s.size)
theorem qFH {f g:Nat->Int} (h:(List.range 256).all (fun n=>decide (f n=g n))=true) {n:Int} (hn:0<=n/\n<256):f n.toNat=g n.toNat:=of_decide_eq_true (NO h hn)
theorem qPS {b:ByteArray} {x:Int} (h:b.size=256) (hx:x<256):x<(b.size:Int):=by omega
theorem KX (s:ByteArray):∀m,0<=nO s m/\nO s m<=m
 |0=>by simp [nO]
 |m+1=>by
  have:=KX s m
  have:=vZ s m
  rw[nO];omega
theorem qQZ (s:ByteArray) (k u:Nat) (hu:u<8):sbit s (8*k+u)=aG s k/2^u%2:=by
 unfold sbit
 rw[show(8*k+u)/8=k by omega,show(8*k+u)%8=u by omega]
theorem qGU (n:Nat):0<=MB n/\MB n<=8:=by unfold MB;omega
theorem qJG (s:ByteArray) (k:Nat):nO s (8*(k+1))=nO s (8*k)+MB (aG s k).toNat:=by
 have hb:=bO s k
 obtain⟨b,hbb⟩:=Int.eq_ofNat_of_zero_le hb.1
 have e:∀u,u<8->sbit s (8*k+u)=((b/2^u%2:Nat):Int):=fun u hu=>by
  rw[qQZ s k u hu,hbb];simp
 rw[hbb,Int.toNat_natCast,show 8*(k+1)=8*k+7+1 by omega]
 simp only[nO,e 7 (by decide),e 6 (by decide),e 5 (by decide),e 4 (by decide),e 3 (by decide),e 2 (by decide),e 1 (by decide)]
 have e0:=e 0 (by decide)
 rw[Nat.add_zero]at e0
 rw[e0]
 simp only[MB,Nat.reducePow]
 omega
theorem oH {n:Int} (h:0<=n):n.tdiv 8=n/8:=Int.tdiv_eq_ediv_of_nonneg h
theorem MX {n:Int} (h:0<=n):n.tmod 8=n%8:=Int.tmod_eq_emod_of_nonneg h
theorem qFQ (s:ByteArray) (n:Nat):(uU s n).length=n:=by simp [uU]
theorem EB (s:ByteArray) {k:Int} (h:0<=k):uU s (k+1).toNat=uU s k.toNat++ [QT s k.toNat]:=by
 rw[show(k+1).toNat=k.toNat+1 by omega]
 simp [uU,List.range_succ]
theorem qS4 {s:ByteArray} {q:Nat} (h:QT s q=true):sbit s q=1:=of_decide_eq_true h
theorem qS3 {s:ByteArray} {q:Nat} (h:QT s q=false):sbit s q≠1:=of_decide_eq_false h
abbrev BI:Ct:=.fn [.list .bool] (some (fun(l:List Bool)=>(l.length<=1073741824))) (fun(l:List Bool)=>.d .str (TG l))
theorem qG7:aH Tryz.prog 120 BI:=by
 refine aH.fn qC5 mixed [] [] rfl rfl ?_
 rintro⟨(l:List Bool),_⟩ hpre
 replace hpre:=hpre _ rfl
 dsimp only[cu]at hpre
 have hl:=hpre
 refine⟨[(0,6,LA.mk [.sl 13 (.int .i64),.ar 0 (.int .u8) 5] (fun y=>Tag 22/\cu [.int .i64,.list (.int .u8)] (fun(k:Int) (O:List Int)=>(0<=k/\k<=l.length)/\(O=gL (fB l) k.toNat 8 (((l.length:Int)+7).tdiv 8).toNat)) y) (cu [.int .i64,.list (.int .u8)] (fun(k:Int) (O:List Int)=>((l.length:Int)-k).toNat)) (cu [.int .i64,.list (.int .u8)] (fun(k:Int) (O:List Int)=>([]:List (Nat×Nat×LA)))))],?_⟩
 repeat' (first
  |(
 with_reducible refine Side.mk ⟨(⟨⟩:Tag 22),?_⟩
 dsimp only[cu,aC,aB,gts,Prod.eta,List.nil_append]
 refine⟨?_,?_⟩
 · omega
 · first
   |(exact(OW _ _ _).symm)
   |(
  rw[hO]
  rw[aW (n:=k.tmod 8) (by rw[MX (by omega)];omega)]
  have hd1:=oH (n:=k) (by omega)
  have hd2:=oH (n:=(l.length:Int)+7) (by omega)
  have hk:l[k.toNat]! =true:=by first|assumption|(simp_all;done)
  refine TH (qYW _) (by omega) (by omega) ?_ rfl rfl
  rw[fB,if_pos hk])
   |(
  rw[hO,show(k+1).toNat=k.toNat+1 by omega]
  have hk:¬l[k.toNat]! =true:=by first|assumption|(simp_all;done)
  refine qAY (by decide) ?_
  rw[fB,if_neg hk]))
  |(
 with_reducible refine Side.mk ?_
 (try dsimp only[cu,aC,aB,gts,loK,hiK,Prod.eta,List.nil_append])
 first
 |(omega)
 |(
  have hd1:=oH (n:=k) (by omega)
  have hd2:=oH (n:=(l.length:Int)+7) (by omega)
  omega)
 |(rw[oH (by omega)];omega)
 |(rw[hO,mB,oH (by omega),oH (by omega)];omega)
 |(
  rw[aW (n:=k.tmod 8) (by rw[MX (by omega)];omega)]
  rw[MX (by omega)];omega)
 |(simp only[hO,mB];done))
  |(conv=>whnf
    first
     |done
     |exact trivial
     |with_reducible refine NilBr.mk (fun h=>?_) ?_
     |with_reducible first|refine aJ ?_ ?_|refine aI ?_ ?_|refine aK (by kernel_rfl) ?_|refine aL ?_|refine bD ?_ ?_|refine bC ?_ ?_|refine aR ?_ ?_
     |((with_reducible first|refine aT (fun h=>?_) (fun h=>?_)|refine aS (fun h=>?_) (fun h=>?_)|refine bA (fun h=>?_) (fun h=>?_))<;>(try dsimp only[cu,Prod.eta,List.nil_append]at h)<;>(try(exfalso;omega;done)))
     |(
 intro yy (hy:Tag 22/\_)
 obtain⟨(k:Int),(O:List Int),_⟩:=yy
 replace hy:=hy.2
 dsimp only[cu,aC,aB,gts,Prod.eta,List.nil_append]at hy
 obtain⟨hk,hO⟩:=hy)))
 all_goals(
 with_reducible refine Leaf.mk ?_
 (try dsimp only[cu,aC,aB,gts,Prod.eta,List.nil_append]at *)
 (rw[hO,show k.toNat=l.length by omega];rfl))
abbrev qWY:Tbl:=(120,BI)::qWX
theorem qC6:aD Tryz.prog qWY:=aD.cons qG7 qC5
abbrev JW:Ct:=.fn [.str,.int .i64] (some (fun(s:ByteArray) (i:Int)=>(s.size<=288230376151711744)/\(0<=i/\i<8*s.size))) (fun(s:ByteArray) (i:Int)=>.d .bool (QT s i.toNat))
theorem qP7:aH Tryz.prog 187 JW:=by
 refine aH.fn qC6 mixed [] [] rfl rfl ?_
 rintro⟨(s:ByteArray),(i:Int),_⟩ hpre
 replace hpre:=hpre _ rfl
 dsimp only[cu]at hpre
 obtain⟨hs,hi⟩:=hpre
 refine⟨[],?_⟩
 repeat' (first
  |(
 with_reducible refine Side.mk ?_
 (try dsimp only[cu,aC,aB,gts,loK,hiK,Prod.eta,List.nil_append])
 first
 |(omega)
 |(rw[oH (by omega)];omega)
 |(rw[MX (by omega)];omega))
  |(conv=>whnf
    first
     |done
     |exact trivial
     |with_reducible refine NilBr.mk (fun h=>?_) ?_
     |with_reducible first|refine aJ ?_ ?_|refine aI ?_ ?_|refine aK (by kernel_rfl) ?_|refine aL ?_|refine bD ?_ ?_|refine bC ?_ ?_|refine aR ?_ ?_
     |((with_reducible first|refine aT (fun h=>?_) (fun h=>?_)|refine aS (fun h=>?_) (fun h=>?_)|refine bA (fun h=>?_) (fun h=>?_))<;>(try dsimp only[cu,Prod.eta,List.nil_append]at h)<;>(try(exfalso;omega;done)))))
 all_goals(
 with_reducible refine Leaf.mk ?_
 (try dsimp only[cu,aC,aB,gts,Prod.eta,List.nil_append]at *)
 (
  unfold QT
  rw[(qI2 s (a:=i) (by omega)).1]))
abbrev qWZ:Tbl:=(187,JW)::qWY
theorem qC7:aD Tryz.prog qWZ:=aD.cons qP7 qC6
abbrev KB:Ct:=.fn [.int .u8] (some (fun(x:Int)=>(0<=x/\x<256))) (fun(x:Int)=>.d (.int .i64) (MB x.toNat))
theorem qQI:aH Tryz.prog 186 KB:=by
 refine aH.fn qC7 mixed [] [] rfl rfl ?_
 rintro⟨(x:Int),_⟩ hpre
 replace hpre:=hpre _ rfl
 dsimp only[cu]at hpre
 have hx:=hpre
 refine⟨[],?_⟩
 repeat' (first
  |(
 with_reducible refine Side.mk ?_
 (try dsimp only[cu,aC,aB,gts,loK,hiK,Prod.eta,List.nil_append])
 first
 |(omega)
 |(exact qPS (by kernel_rfl) hx.2)
 |(exact⟨Int.le_trans (by decide) (bO _ _).1,Int.le_trans (Int.le_of_lt (bO _ _).2) (by decide)⟩))
  |(conv=>whnf
    first
     |done
     |exact trivial
     |with_reducible refine NilBr.mk (fun h=>?_) ?_
     |with_reducible first|refine aJ ?_ ?_|refine aI ?_ ?_|refine aK (by kernel_rfl) ?_|refine aL ?_|refine bD ?_ ?_|refine bC ?_ ?_|refine aR ?_ ?_
     |((with_reducible first|refine aT (fun h=>?_) (fun h=>?_)|refine aS (fun h=>?_) (fun h=>?_)|refine bA (fun h=>?_) (fun h=>?_))<;>(try dsimp only[cu,Prod.eta,List.nil_append]at h)<;>(try(exfalso;omega;done)))))
 all_goals(
 with_reducible refine Leaf.mk ?_
 (try dsimp only[cu,aC,aB,gts,Prod.eta,List.nil_append]at *)
 exact qFH (by kernel_rfl) hx)
abbrev qW0:Tbl:=(186,KB)::qWZ
theorem qC8:aD Tryz.prog qW0:=aD.cons qQI qC7
abbrev BE:Ct:=.fn [.str] (some (fun(s:ByteArray)=>(s.size<=288230376151711744))) (fun(s:ByteArray)=>.d (.int .i64) (qV s))
theorem qGR:aH Tryz.prog 164 BE:=by
 refine aH.fn qC8 mixed [] [] rfl rfl ?_
 rintro⟨(s:ByteArray),_⟩ hpre
 replace hpre:=hpre _ rfl
 dsimp only[cu]at hpre
 have hs:=hpre
 refine⟨[(0,6,LA.mk [.sl 7 (.int .i64),.sl 3 (.int .i64)] (fun y=>Tag 23/\cu [.int .i64,.int .i64] (fun(k:Int) (c:Int)=>(0<=k/\k<=s.size)/\(c=nO s (8*k.toNat))) y) (cu [.int .i64,.int .i64] (fun(k:Int) (c:Int)=>((s.size:Int)-k).toNat)) (cu [.int .i64,.int .i64] (fun(k:Int) (c:Int)=>([]:List (Nat×Nat×LA)))))],?_⟩
 repeat' (first
  |(
 with_reducible refine Side.mk ⟨(⟨⟩:Tag 23),?_⟩
 dsimp only[cu,aC,aB,gts,Prod.eta,List.nil_append]
 refine⟨?_,?_⟩
 · omega
 · first
   |(rfl)
   |(rw[show(k+1).toNat=k.toNat+1 by omega,qJG,hc]))
  |(
 with_reducible refine Side.mk ?_
 (try dsimp only[cu,aC,aB,gts,loK,hiK,Prod.eta,List.nil_append])
 first
 |(omega)
 |(exact bO _ _)
 |(
  have:=KX s (8*k.toNat)
  have:=qGU (aG s k.toNat).toNat
  omega))
  |(conv=>whnf
    first
     |done
     |exact trivial
     |with_reducible refine NilBr.mk (fun h=>?_) ?_
     |with_reducible first|refine aJ ?_ ?_|refine aI ?_ ?_|refine aK (by kernel_rfl) ?_|refine aL ?_|refine bD ?_ ?_|refine bC ?_ ?_|refine aR ?_ ?_
     |((with_reducible first|refine aT (fun h=>?_) (fun h=>?_)|refine aS (fun h=>?_) (fun h=>?_)|refine bA (fun h=>?_) (fun h=>?_))<;>(try dsimp only[cu,Prod.eta,List.nil_append]at h)<;>(try(exfalso;omega;done)))
     |(
 intro yy (hy:Tag 23/\_)
 obtain⟨(k:Int),(c:Int),_⟩:=yy
 replace hy:=hy.2
 dsimp only[cu,aC,aB,gts,Prod.eta,List.nil_append]at hy
 obtain⟨hk,hc⟩:=hy)))
 all_goals(
 with_reducible refine Leaf.mk ?_
 (try dsimp only[cu,aC,aB,gts,Prod.eta,List.nil_append]at *)
 (rw[hc,show k.toNat=s.size by omega];rfl))
abbrev qW1:Tbl:=(164,BE)::qW0
theorem qC9:aD Tryz.prog qW1:=aD.cons qGR qC8
abbrev wX:Ct:=.fn [.str,.int .i64] (some (fun(s:ByteArray) (n:Int)=>(s.size<=288230376151711744))) (fun(s:ByteArray) (n:Int)=>.tup [.list .bool,.int .i64] ((jT s n).1,(jT s n).2,()))
theorem YR:aH Tryz.prog 165 wX:=by
 refine aH.fn qC9 mixed [] [] rfl rfl ?_
 rintro⟨(s:ByteArray),(n:Int),_⟩ hpre
 replace hpre:=hpre _ rfl
 dsimp only[cu]at hpre
 have hs:=hpre
 refine⟨[(0,18,LA.mk [.sl 48 (.int .i64),.ar 0 .bool 4] (fun y=>Tag 24/\cu [.int .i64,.list .bool] (fun(k:Int) (O:List Bool)=>(0<=k/\k<=n)/\(O.length=n.toNat)/\(O.take k.toNat=uU s k.toNat)) y) (cu [.int .i64,.list .bool] (fun(k:Int) (O:List Bool)=>((n:Int)-k).toNat)) (cu [.int .i64,.list .bool] (fun(k:Int) (O:List Bool)=>([]:List (Nat×Nat×LA)))))],?_⟩
 repeat' (first
  |(
 with_reducible refine Side.mk ⟨(⟨⟩:Tag 24),?_⟩
 dsimp only[cu,aC,aB,gts,Prod.eta,List.nil_append]
 refine⟨?_,?_,?_⟩
 · omega
 · first
   |(simp;done)
   |(simp;omega)
 · first
   |(rfl)
   |(rw[show(k+1).toNat=k.toNat+1 by omega,yZ _ _ _ (by omega),hO,<-show(k+1).toNat=k.toNat+1 by omega,EB s (by omega)]))
  |(
 with_reducible refine Side.mk ?_
 (try dsimp only[cu,aC,aB,gts,loK,hiK,Prod.eta,List.nil_append])
 first
 |(omega)
 |(
  have hd:=oH (n:=n+7) (by omega)
  have hd2:=oH (n:=n) (by omega)
  have hm2:=MX (n:=n) (by omega)
  omega))
  |(conv=>whnf
    first
     |done
     |exact trivial
     |with_reducible refine NilBr.mk (fun h=>?_) ?_
     |with_reducible first|refine aJ ?_ ?_|refine aI ?_ ?_|refine aK (by kernel_rfl) ?_|refine aL ?_|refine bD ?_ ?_|refine bC ?_ ?_|refine aR ?_ ?_
     |((with_reducible first|refine aT (fun h=>?_) (fun h=>?_)|refine aS (fun h=>?_) (fun h=>?_)|refine bA (fun h=>?_) (fun h=>?_))<;>(try dsimp only[cu,Prod.eta,List.nil_append]at h)<;>(try(exfalso;omega;done)))
     |(
 intro yy (hy:Tag 24/\_)
 obtain⟨(k:Int),(O:List Bool),_⟩:=yy
 replace hy:=hy.2
 dsimp only[cu,aC,aB,gts,Prod.eta,List.nil_append]at hy
 obtain⟨hk,hl,hO⟩:=hy)))
 all_goals(
 with_reducible refine Leaf.mk ?_
 (try dsimp only[cu,aC,aB,gts,Prod.eta,List.nil_append]at *)
 first
 |(
  have q:n<0\/n>4096:=by omega
  rw[jT,if_pos q])
 |(
  have h1:¬(n<0\/n>4096):=by omega
  first
  |(
   have h2:(s.size:Int)<(n+7).tdiv 8:=by omega
   rw[jT,if_neg h1,if_pos h2])
  |(
   have h2:¬(s.size:Int)<(n+7).tdiv 8:=by omega
   have h3:(s.size:Int)>(n+7).tdiv 8:=by omega
   rw[jT,if_neg h1,if_neg h2,if_pos h3]))
 |(
  have hd:=oH (n:=n+7) (by omega)
  have hd2:=oH (n:=n) (by omega)
  have hm2:=MX (n:=n) (by omega)
  have h1:¬(n<0\/n>4096):=by omega
  have h2:¬(s.size:Int)<(n+7).tdiv 8:=by omega
  have h3:¬(s.size:Int)>(n+7).tdiv 8:=by omega
  have ht:=UP (s:=s) (m:=n.toNat) (by omega)
  obtain⟨t1,t2⟩:=MW s (a:=n) (by omega)
  first
  |(
   have h4:lK s n.toNat=true:=ht.2 ⟨by omega,by rw[<-t1];assumption⟩
   rw[jT,if_neg h1,if_neg h2,if_neg h3,if_pos h4])
  |(
   have h4:¬lK s n.toNat=true:=by
    intro q
    obtain⟨g1,g2⟩:=ht.1 q
    rw[<-t1]at g2
    first|omega|(simp_all;done)
   rw[jT,if_neg h1,if_neg h2,if_neg h3,if_neg h4]
   (try rw[List.take_of_length_le (by omega),show k.toNat=n.toNat by omega]at hO)
   first|done|rfl|exact hO)))
abbrev qW2:Tbl:=(165,wX)::qW1
theorem qDA:aD Tryz.prog qW2:=aD.cons YR qC9
end Go.Proofs.YtcjiefknhfhmkaaGreatDoor
