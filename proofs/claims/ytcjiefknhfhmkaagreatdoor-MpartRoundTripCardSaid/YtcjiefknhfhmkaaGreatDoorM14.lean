import Derived.Below
import Derived.Test.YtcjiefknhfhmkaaGreatDoorM13
open List renaming length_cons -> ge, append_assoc -> gf, mem_cons_of_mem -> gg, length_append -> gh, mem_map -> gi, getElem!_eq_getElem?_getD -> gj, length_drop -> gk, length_nil -> gl, mem_of_mem_drop -> gn, mem_cons_self -> gp, mem_cons -> gq, drop_left -> gr, getElem_mem -> gt, map_congr_left -> gw, append_nil -> gx, mem_singleton -> gy, drop_drop -> he, mem_of_mem_take -> ka, mem_append -> kd, drop_succ_cons -> ke, map_map -> kf, mem_range -> kg, getElem?_append_right -> kh, getElem?_eq_getElem -> kk, any_eq_true -> km, cons_append -> kn, filter_cons_of_neg -> ko, filter_cons_of_pos -> kp, length_map -> kq, foldl_cons -> ks, take_left -> kt, map_id -> ku, replicate -> kv, replicate_succ -> kw, getElem?_take -> ky, getElem_range -> ua
open Int renaming toNat_natCast -> gm, le_refl -> kj, tmod_lt_of_pos -> kx, lt_or_eq_of_le -> ub
open Bool renaming noConfusion -> gu, and_eq_true -> hh
open Nat renaming add_sub_cancel -> gz, le_refl -> kb, zero_le -> ki, sub_add_cancel -> kz, lt_or_ge -> uc
namespace Go.Proofs.YtcjiefknhfhmkaaGreatDoor
open Go.Abs
set_option maxRecDepth 100000
set_option maxHeartbeats 4000000
set_option linter.unusedVariables false
set_option linter.unusedSimpArgs false
theorem qB1 {s:Schema} {l:List Rec} (hs:dN s l=true) (hi:AZ l) (hl:l.length<=1024) (hl0:l.length≠0):(dY (chnks s l)).size<=57174605609927/\8<=(jY s l).size/\(jY s l).size<=40000000:=by
 have hv:=cW hs;have hsc:=bI (dR hv).1;have hm:∀c,c∈chnks s l->c.size<=4398046585379:=fun c hc=>by
  obtain⟨i,hr,rfl⟩:=gi.1 hc;rw[kg]at hr;rcases uc i s.1.length with q|q
  ·rw[RW q];exact yZ (by rw[gN];omega) fun v h=>eO (qM hv hi q v h).1 (qM hv hi q v h).2
  ·have:i=s.1.length:=om
   subst this;rw[IB];exact yZ (by simp [kB];omega) fun v h=>eO (uZ hv v h).1 (uZ hv v h).2
 have h4:=vK hm;rw[kV]at h4;have hz:∀b,b∈(dC s l (List.range s.1.length)).map sA->b.size<=2200000:=fun b hb=>by
  obtain⟨z,hz,rfl⟩:=gi.1 hb;obtain⟨i,hr,rfl⟩:=gi.1 hz;rw[kg]at hr;exact AR (CL (by rw[gN];omega) fun v h=>FH (qM hv hi hr v h))
 have h5:=vK hz;rw[kq,dC,kq,List.length_range]at h5;have h6:(dY ((chnks s l).map szB)).size<=10*((chnks s l).map szB).length:=vK fun b hb=>by
  obtain⟨c,_,rfl⟩:=gi.1 hb;rw[szB,bO];exact(bW _).1
 rw[kq,kV]at h6;have r1:=qY (kZ hv hi (j:=0) om);have r2:=qY (kZ hv hi (j:=l.length-1) om);have p1:=bW (l.length:Int);have f4:(four (pX (wI s))).length=4:=rfl;unfold jY;simp only[ByteArray.size_append,bO,dC]at h5 ⊢;omega
theorem qKA (s:Schema) (l:List Rec):(lV s l).1=⟨#[]⟩/\(lV s l).2≠0\/lV s l=(eT s l,0)/\dN s l=true/\l.length<=1024/\l.length≠0:=by
 unfold lV;split
 ·rename_i h;exact .inl ⟨rfl,h⟩
 split
 ·exact .inl ⟨rfl,dc⟩
 split
 ·exact .inl ⟨rfl,dc⟩
 rename_i h1 h2 h3;refine .inr ⟨rfl,?_,om,fun q=>h3 (.inl q)⟩;cases q:dN s l with
 |true=>rfl
 |false=>exact absurd (.inr q) h3
theorem qTI {s:Schema} {l:List Rec} (hi:AZ l):(lV s l).1.size<=288230376151711000:=by
 rcases qKA s l with⟨h,_⟩|⟨h,h1,h2,h3⟩
 ·rw[h];exact ki _
 ·have p:=qB1 h1 hi h2 h3
  rw[h];show(eT s l).size<=_;rw[eT,wH,mX];omega
def mR:Nat->Int->Src->Schema->List Rec
 |0,_,_,_=>[]
 |n+1,m,q,x=>((m,(dA x.1 q).1):Rec)::mR n (m+(1+Src.pick (dA x.1 q).2 3)) (Src.next (dA x.1 q).2) x
theorem YR {k m:Int} {q:Src} {x:Schema} (h:0<k):mR k.toNat m q x=((m,(dA x.1 q).1):Rec)::mR (k-1).toNat (m+(1+Src.pick (dA x.1 q).2 3)) (Src.next (dA x.1 q).2) x:=by
 rw[show k.toNat=(k-1).toNat+1 by omega];rfl
def JF (x:Schema) (l:List Int) (n:Int):List Rec:=mR (Src.pick (Src.next (l,0)) (n+1)).toNat (Src.pick (l,0) 5) (Src.next (Src.next (l,0))) x
def eI (x:Schema) (l:List Int) (n:Int):List Rec:=jU x (JF x l n)
theorem OY:∀(cs:List Col) (q:Src),nX q->(∀v,v∈(dA cs q).1->inI v.2.1)/\nX (dA cs q).2
 | [],q,h=>⟨(fun v hv=>by cases hv),h⟩
 |c::cs,q,h=>by
  have h1:=qKQ c h;have h2:=OY cs _ h1.2;refine⟨fun v hv=>?_,h2.2⟩;rcases gq.1 hv with e|e
  ·rw[e];exact h1.1.2
  ·exact h2.1 v e
theorem PZ:∀(n:Nat) (m:Int) (q:Src) (x:Schema),nX q->AZ (mR n m q x)
 |0,_,_,_,_,r,hr=>by cases hr
 |n+1,m,q,x,h,r,hr=>by
  have h1:=OY x.1 q h;rcases gq.1 hr with e|e
  ·rw[e];exact h1.1
  ·exact PZ n _ _ x (jG h1.2) r e
theorem qRB {s:Schema} {l:List Rec}:∀r,r∈jU s l->r∈l:=by
 unfold jU;split;case isFalse=>intro r hr;cases hr
 have go:∀(l o:List Rec) (r:Rec),r∈l.foldl (lJ s) o->r∈o\/r∈l:=by
  intro l;induction l with
  |nil=>intro o r h;exact .inl h
  |cons x l ih=>
   intro o r h;rcases ih _ r h with q|q
   ·unfold lJ at q
    simp only[kd,gy]at q;rcases q with(q|q)|q
    ·exact .inl (ka q)
    ·exact .inr (by rw[q];exact gp ..)
    ·exact .inl (gn q)
   ·exact .inr (gg _ q)
 intro r hr;rcases go l [] r hr with q|q
 ·cases q
 ·exact q
theorem qRA {s:Schema} {l:List Rec}:(jU s l).length<=l.length:=by
 unfold jU;split
 ·have go:∀(l o:List Rec),(l.foldl (lJ s) o).length=o.length+l.length:=by
    intro l;induction l with
    |nil=>intro o;rfl
    |cons x l ih=>intro o;rw[ks,ih,zG,ge];omega
  rw[go];simp
 ·exact ki _
theorem KF:∀(n:Nat) (m:Int) (q:Src) (x:Schema),(mR n m q x).length=n
 |0,_,_,_=>rfl
 |n+1,m,q,x=>by rw[mR,ge,KF n]
theorem qO8 {x:Schema} {l:List Int} {n:Int} (h:∀v,v∈l->inI v):AZ (eI x l n):=fun r hr=>PZ _ _ _ _ (jG (jG (show nX (l,0)from h))) r (qRB r hr)
theorem qKP {x:Schema} {l:List Int} {n:Int} (h:0<=n/\n<=1000):((eI x l n).length:Int)<=n:=by
 have h1:=qRA (s:=x) (l:=JF x l n);have h2:(JF x l n).length=_:=KF _ _ _ _;have h3:=Src.pick_lt (s:=Src.next (l,0)) (n:=n+1) om;have h4:(eI x l n).length<=(JF x l n).length:=h1;omega
abbrev GZ:Ct:=.fn [cX,.list (.int .i64),.int .i64] (some (fun(x:Schema) (l:List Int) (n:Int)=>(x.1.length<=1000)/\(l.length<=4611686018427387904)/\(0<=n/\n<=1000))) (fun(x:Schema) (l:List Int) (n:Int)=>.d (.list gZ) (eI x l n))
theorem qPC:aH Tryz.prog 15 GZ:=by
 refine aH.fn qAP mixed [] [] rfl rfl ?_;rintro⟨(x:Schema),(l:List Int),(n:Int),_⟩ hpre;replace hpre:=hpre _ rfl;dsimp only[cu]at hpre;obtain⟨hx,hl0,hn⟩:=hpre;have hp0:=Src.pick_lt (s:=(l,0)) (n:=5) om;have hp1:=Src.pick_lt (s:=Src.next (l,0)) (n:=n+1) om;refine⟨[(0,10,LA.mk [.sl 10 (.int .i64),.sl 9 (.int .i64),.lst 8 gZ 56,.ob 1 qP 124] (fun y=>Tag 78/\cu [.int .i64,.int .i64,.list gZ,qP] (fun(k:Int) (m:Int) (M:List Rec) (q:Src)=>(0<=k/\k<=1001)/\(Src.ok q)/\(JF x l n=M++mR k.toNat m q x)/\((M.length:Int)<=1001-k)/\(0<=m/\m<=5+4*(1001-k))) y) (cu [.int .i64,.int .i64,.list gZ,qP] (fun(k:Int) (m:Int) (M:List Rec) (q:Src)=>k.toNat)) (cu [.int .i64,.int .i64,.list gZ,qP] (fun(k:Int) (m:Int) (M:List Rec) (q:Src)=>([]:List (Nat×Nat×LA)))))],?_⟩;repeat' (first
  |(
 with_reducible refine Side.mk ⟨(⟨⟩:Tag 78),?_⟩
 dsimp only[cu,aC,aB,gts,eE,eN]
 refine⟨?_,?_,?_,?_,?_⟩
 ·omega
 ·(repeat (first|assumption|exact Src.ok_from om|apply Src.ok_next|apply iK|apply rZ))
 ·first
  |rfl
  |(
  rw[hm,YR om,gf]
  rfl)
 ·first
  |simp only[gl];omega
  |simp only[gh,ge,gl];omega
 ·first
  |omega
  |(
  have:=Src.pick_lt (s:=(dA x.1 q).2) (n:=3) dc
  omega))
  |(
 with_reducible apply Side.mk
 (try dsimp only[cu,aC,aB,gts,loK,hiK,eE,eN])
 first
 |done
 |omega
 |exact Eq.refl _
 |simp only[gh,ge,gl];omega
 |(
  refine⟨?_,by first|decide|exact qR0 om⟩
  (repeat (first|assumption|exact Src.ok_from om|apply Src.ok_next|apply iK|apply rZ));done)
 |exact⟨by(repeat (first|assumption|exact Src.ok_from om|apply Src.ok_next|apply iK|apply rZ)),av⟩
 |(have:=Src.pick_lt (s:=(dA x.1 q).2) (n:=3) dc;omega))
  |(conv=>whnf
    first
     |with_reducible first|done|exact trivial|refine NilBr.mk (fun h=>?_) ?_|apply aL|apply aK|refine aM kr ?_|apply aN|apply bL|apply bK|apply aU
     |((with_reducible first|apply aW|apply aV|apply bH)<;>intro h<;>(try dsimp only[cu,eE,eN]at h)<;>(try(exfalso;omega)))
     |(
 intro yy (hy:Tag 78/\_)
 obtain⟨(k:Int),(m:Int),(M:List Rec),(q:Src),_⟩:=yy
 replace hy:=hy.2
 dsimp only[cu,aC,aB,gts,eE,eN]at hy
 obtain⟨hk,hq,hm,hml,hmb⟩:=hy)))
 all_goals(
 with_reducible apply Leaf.mk
 (try dsimp only[cu,aC,aB,gts,eE,eN]at *)
 rw[eI,hm,show k.toNat=0 by omega,mR,gx])
abbrev qbN:Tbl:=(15,GZ)::qXN
theorem qRM:aD Tryz.prog qbN:=aD.cons qPC qAP
theorem qSP (n:Int):GG n 1=0\/GG n 1=1:=by
 have h:(BitVec.ofInt IntKind.i64.bits n &&& BitVec.ofInt IntKind.i64.bits 1).toNat<=1:=by
  rw[BitVec.toNat_and];exact Nat.and_le_right
 unfold GG;generalize (BitVec.ofInt IntKind.i64.bits n &&& BitVec.ofInt IntKind.i64.bits 1).toNat=k at h;rw[qDU]<;>omega
theorem qAR (n d:Int) (h:0<d):-d<Int.tmod n d/\Int.tmod n d<d:=by
 refine⟨?_,kx n h⟩;rcases Int.le_total 0 n with q|q
 ·have:=Int.tmod_nonneg d q;omega
 ·have h1:=kx (-n) h
  rw[Int.neg_tmod]at h1;omega
theorem SY (s:Src) (c:Col) (h:bJ c.2.1=true):aZ c (gV s c).1=0:=by
 have hk:1<=c.2.1/\c.2.1<=5:=by simpa [bJ]using h
 unfold gV;by_cases hn:XE s c=true
 ·have hnull:c.2.2.2=true:=by simp [XE]at hn;exact hn.1
  rw[if_pos hn];simp [aZ,h,hnull]
 ·rw[if_neg hn]
  unfold XD;generalize (JG (uO s c)).1=n;generalize (JG (uO s c)).2=t;by_cases h2:c.2.1=2
  ·rw[if_pos h2]
   have:=qSP n;simp [aZ,h2,bJ,dQ];grind
  ·rw[if_neg h2]
   by_cases h3:c.2.1=3
   ·rw[if_pos h3]
    have h1:=qA (Src.pick t 4).toNat (Src.next t) EMP;have h4:=Src.pick_lt (s:=t) (n:=4) dc;have h5:(EMP:ByteArray).size=0:=rfl;simp [aZ,h3,bJ,dQ];omega
   ·rw[if_neg h3]
    by_cases h4:c.2.1=4
    ·rw[if_pos h4]
     have:=qAR n 700000 dc;simp [aZ,h4,bJ,dQ];omega
    ·rw[if_neg h4]
     by_cases h5:c.2.1=5
     ·rw[if_pos h5]
      have:=qAR n 1000000000000000000 dc;simp [aZ,h5,bJ,dQ];omega
     ·rw[if_neg h5]
      have h1:c.2.1=1:=om
      simp [aZ,h1,bJ,dQ]
def SU (c:Col):Prop:=bJ c.2.1=true/\gX c=true
theorem qKO (s:Src) (n:Int):SU (JD s n).1/\(JD s n).1.1=ABCD.extract (n-1).toNat n.toNat:=by
 have h:=Src.pick_lt (s:=s) (n:=5) dc;have h4:=Src.pick_lt (s:=Src.next (Src.next s)) (n:=4) dc;unfold JD SU;split
 ·refine⟨⟨?_,?_⟩,rfl⟩
  ·simp [bJ];omega
  ·simp [gX];omega
 ·refine⟨⟨?_,?_⟩,rfl⟩
  ·simp [bJ];omega
  ·simp [gX]
theorem JE:∀(n:Nat) (s:Src) (acc:List Col),∃r,(nQ n s acc).1=acc++r/\r.length=n/\∀i,i<n->SU r[i]! /\r[i]!.1=ABCD.extract (n-i-1) (n-i)
 |0,s,acc=>⟨[],by simp [nQ],rfl,fun i h=>by omega⟩
 |n+1,s,acc=>by
  obtain⟨r,h1,h2,h3⟩:=JE n (JD s (n+1)).2 (acc++ [(JD s (n+1)).1]);refine⟨(JD s (n+1)).1::r,by rw[nQ,h1];simp,by simp [h2],fun i hi=>?_⟩;obtain⟨g1,g2⟩:=qKO s (n+1);cases i with
  |zero=>
   refine⟨g1,?_⟩;have e1:((n:Int)+1-1).toNat=n+1-0-1:=om
   have e2:((n:Int)+1).toNat=n+1-0:=om
   rw[<-e1,<-e2];exact g2
  |succ i=>
   have:=h3 i om;rw[show n+1-(i+1)-1=n-i-1 by omega,show n+1-(i+1)=n-i by omega];exact this
theorem qCL:∀a:Nat,a<4->oD (ABCD.extract a (a+1))=true:=by
 intro a h;obtain rfl|rfl|rfl|rfl:a=0\/a=1\/a=2\/a=3:=om
 all_goals rfl
theorem qCK:∀a b:Nat,a<4->b<4->a≠b->¬ABCD.extract a (a+1)=ABCD.extract b (b+1):=by
 intro a b h1 h2 h3;obtain rfl|rfl|rfl|rfl:a=0\/a=1\/a=2\/a=3:=om
 all_goals(obtain rfl|rfl|rfl|rfl:b=0\/b=1\/b=2\/b=3:=by omega)
 all_goals first|(exfalso;exact h3 rfl)|decide
theorem uI {α:Type} [Inhabited α] (f:Int->α->Int):∀(l:List α) (k:Int),(∀i:Nat,i<l.length->f (k+i) l[i]! =0)->bV f k l=0
 | [],k,_=>rfl
 |x::l,k,h=>by
  have h0:=h 0 sm;have e:f k x=0:=by simpa using h0
  rw[bV,if_pos e];refine uI f l (k+1) (fun i hi=>?_);have:=h (i+1) (by simp;omega);rw[show k+1+(i:Int)=k+((i+1:Nat):Int)by omega];simpa using this
theorem LK (l:List Int):aS (aQ l)=0/\1<=(aQ l).1.length/\(aQ l).1.length<=4/\∀i,i<(aQ l).1.length->bJ (aQ l).1[i]!.2.1=true:=by
 have hp:=Src.pick_lt (s:=(l,0)) (n:=4) dc;obtain⟨r,h1,h2,h3⟩:=JE (1+Src.pick (l,0) 4).toNat (Src.next (l,0)) [];have hc:(aQ l).1=r:=by simpa [aQ]using h1
 have hk:(aQ l).2=Src.pick (nQ (1+Src.pick (l,0) 4).toNat (Src.next (l,0)) []).2 r.length:=by
  have e:(nQ (1+Src.pick (l,0) 4).toNat (Src.next (l,0)) []).1=r:=by simpa using h1
  rw[<-e];rfl
 have hlen:r.length=(1+Src.pick (l,0) 4).toNat:=h2;have hkey:=Src.pick_lt (s:=(nQ (1+Src.pick (l,0) 4).toNat (Src.next (l,0)) []).2) (n:=(r.length:Int)) om;have herr:bV (dZ r) 0 r=0:=by
  refine uI _ _ _ (fun i hi=>?_);obtain⟨⟨g1,g2⟩,g3⟩:=h3 i om;have hnm:=qCL ((1+Src.pick (l,0) 4).toNat-i-1) om;rw[show(1+Src.pick (l,0) 4).toNat-i-1+1=(1+Src.pick (l,0) 4).toNat-i by omega]at hnm;have hidx:¬pW r[i]!.1 r 0<0+(i:Int):=by
   rw[Int.zero_add];have:=uE (name:=r[i]!.1) (l:=r) (k:=(i:Int)) om sm (fun j hj=>by
    obtain⟨_,q⟩:=h3 j om;rw[q,g3];have:=qCK ((1+Src.pick (l,0) 4).toNat-j-1) ((1+Src.pick (l,0) 4).toNat-i-1) om om om;rw[show(1+Src.pick (l,0) 4).toNat-j-1+1=(1+Src.pick (l,0) 4).toNat-j by omega,show(1+Src.pick (l,0) 4).toNat-i-1+1=(1+Src.pick (l,0) 4).toNat-i by omega]at this;exact this)
   exact this
  unfold dZ;rw[g3,hnm,<-g3];simp only[if_neg hidx,g1,g2];simp
 refine⟨?_,by rw[hc];omega,by rw[hc];omega,fun i hi=>?_⟩
 ·unfold aS
  rw[hc,hk,herr];rw[if_neg om,if_neg om,if_neg sm,if_neg om]
 ·rw[hc]at hi ⊢
  exact(h3 i om).1.1
theorem KR {a b:ByteArray}:nB a b=0↔a=b:=by
 unfold nB;split
 ·rename_i h
  exact⟨fun q=>absurd q dc,fun q=>absurd h (by rw[q];exact kP b)⟩
 ·split
  ·rename_i h;exact⟨fun _=>h,fun _=>rfl⟩
  ·rename_i h;exact⟨fun q=>absurd q dc,fun q=>absurd q h⟩
theorem wE {a b:ByteArray}:nB a b<0↔eJ a b=true:=by
 unfold nB;split
 ·rename_i h;exact⟨fun _=>h,fun _=>by decide⟩
 ·rename_i h
  split
  ·exact⟨fun q=>absurd q dc,fun q=>absurd q h⟩
  ·exact⟨fun q=>absurd q dc,fun q=>absurd q h⟩
theorem qLW {a b:ByteArray}:nB a b>0↔eJ b a=true:=by
 constructor
 ·intro h
  rcases qF3 a b with q|q|q
  ·have:=wE.2 q;omega
  ·have:=KR.2 q;omega
  ·exact q
 ·intro h
  rcases Int.lt_trichotomy (nB a b) 0 with q|q|q
  ·exact absurd (wE.1 q) (KI h)
  ·rw[KR.1 q]at h;exact absurd h (kP b)
  ·exact q
theorem IZ {a b:Int}:iO a b=0↔a=b:=by unfold iO;split;omega;split<;>omega
theorem rV {a b:Int}:iO a b<0↔a<b:=by unfold iO;split;omega;split<;>omega
theorem BP {a b:Int}:iO a b>0↔a>b:=by unfold iO;split;omega;split<;>omega
theorem qR4 {t:Int} {a b:Val}:aY t a b=0↔a.1=b.1/\(a.1=false->if t=3 then a.2.2=b.2.2 else a.2.1=b.2.1):=by
 unfold aY;obtain⟨x,y,z⟩:=a;obtain⟨u,v,w⟩:=b;by_cases h:t=3<;>cases x<;>cases u<;>simp [h,KR,IZ]
theorem qd8 {t:Int} {a b:Val}:aY t a b<0↔(a.1=true/\b.1=false)\/(a.1=false/\b.1=false/\if t=3 then eJ a.2.2 b.2.2=true else a.2.1<b.2.1):=by
 unfold aY;obtain⟨x,y,z⟩:=a;obtain⟨u,v,w⟩:=b;by_cases h:t=3<;>cases x<;>cases u<;>simp [h,wE,rV]
theorem qXP {t:Int} {a b:Val}:aY t a b>0↔aY t b a<0:=by
 unfold aY;obtain⟨x,y,z⟩:=a;obtain⟨u,v,w⟩:=b;by_cases h:t=3<;>cases x<;>cases u<;>simp [h,wE,rV]
 ·exact qLW
 ·exact BP
theorem qDR (t:Int) (a b:Val):aY t a b = -1\/aY t a b=0\/aY t a b=1:=by
 unfold aY nB iO;repeat' split
 all_goals simp
theorem UC (t:Int) (a:Val):aY t a a=0:=qR4.2 ⟨rfl,fun _=>by split<;>rfl⟩
theorem qR5 {t:Int} {a b c:Val} (h1:aY t a b<0) (h2:aY t b c<0):aY t a c<0:=by
 rw[qd8]at *;rcases h1 with⟨p,q⟩|⟨p,q,r⟩
 ·rcases h2 with⟨u,v⟩|⟨u,v,w⟩
  ·rw[q]at u;cases u
  ·exact .inl ⟨p,v⟩
 ·rcases h2 with⟨u,v⟩|⟨u,v,w⟩
  ·rw[q]at u;cases u
  ·refine .inr ⟨p,v,?_⟩
   by_cases e:t=3
   ·rw[if_pos e]at *;exact wD r w
   ·rw[if_neg e]at *;omega
theorem qd6 {t:Int} {a b c:Val} (h1:aY t a b=0):aY t a c=aY t b c:=by
 obtain⟨x,y,z⟩:=a;obtain⟨u,v,w⟩:=b;obtain⟨p,q⟩:=qR4.1 h1;(try simp only at p q);subst p;unfold aY;cases x
 ·have q:=q rfl
  by_cases e:t=3
  ·rw[if_pos e]at q;simp [e,q]
  ·rw[if_neg e]at q;simp [e,q]
 ·rfl
theorem qd7 {t:Int} {a b c:Val} (h1:aY t a b=0):aY t c a=aY t c b:=by
 obtain⟨x,y,z⟩:=a;obtain⟨u,v,w⟩:=b;obtain⟨p,q⟩:=qR4.1 h1;(try simp only at p q);subst p;unfold aY;cases x
 ·have q:=q rfl
  by_cases e:t=3
  ·rw[if_pos e]at q;simp [e,q]
  ·rw[if_neg e]at q;simp [e,q]
 ·rfl
theorem qQW {t:Int} {a b c:Rank} (h1:eC t a b<=0) (h2:eC t b c<0):eC t a c<0:=by
 unfold eC at *;by_cases p:aY t a.1 b.1=0
 ·rw[if_neg (fun q=>q p)]at h1
  rw[qd6 p];split at h2
  ·rename_i q;rw[if_pos q];exact h2
  ·rename_i q
   rw[if_neg q];have:=rV.1 h2;have:¬a.2>b.2:=fun q=>by have:=BP.2 q;omega
   exact rV.2 om
 ·rw[if_pos p]at h1
  have h1:aY t a.1 b.1<0:=om
  by_cases q:aY t b.1 c.1=0
  ·rw[<-qd7 q,if_pos p];exact h1
  ·rw[if_pos q]at h2
   have:=qR5 h1 h2;rw[if_pos om];exact this
theorem qVH (t:Int) (a:Rank):eC t a a=0:=by
 unfold eC;rw[if_neg (fun q=>q (UC _ _)),IZ]
theorem qBD {s:Schema} {l:List Rec} (h:ER s l=true) {i:Nat} (hi:i+1<l.length):lM s l[i]! l[i+1]! <0:=
 of_decide_eq_true (List.all_eq_true.1 h i (kg.2 om))
theorem YL {s:Schema} {l:List Rec} (h:ER s l=true):∀i:Nat,i<l.length->eC (BS s).2.1 (fD s l[0]!) (fD s l[i]!)<=0
 |0,_=>by rw[qVH];exact kj _
 |i+1,hi=>Int.le_of_lt (qQW (YL h i om) (qBD h hi))
theorem qbC {t:Int} {a b:Rank} (h:eC t a b>0):eC t b a<0:=by
 unfold eC at *;by_cases p:aY t a.1 b.1=0
 ·have p2:aY t b.1 a.1=0:=by
    obtain⟨q1,q2⟩:=qR4.1 p;refine qR4.2 ⟨q1.symm,fun q=>?_⟩;have:=q2 (q1.trans q);split at this
    ·rename_i e;rw[if_pos e];exact this.symm
    ·rename_i e;rw[if_neg e];exact this.symm
  rw[if_neg (fun q=>q p)]at h;rw[if_neg (fun q=>q p2)];have:=BP.1 h;exact rV.2 this
 ·rw[if_pos p]at h
  have:=qXP.1 h;rw[if_pos om];exact this
theorem qbD {t:Int} {a b:Rank} (h:a.2≠b.2):eC t a b≠0:=by
 unfold eC;split
 ·assumption
 ·exact fun q=>h (IZ.1 q)
theorem DZ {s:Schema} {r:Rec} {l:List Rec}:∀n:Nat,jZ s r l n<=n/\(jZ s r l n=0\/¬lM s r l[jZ s r l n-1]! <0)/\∀i:Nat,jZ s r l n<=i->i<n->lM s r l[i]! <0
 |0=>⟨kb _,.inl rfl,fun i _ h=>absurd h (Nat.not_lt_zero _)⟩
 |n+1=>by
  obtain⟨h1,h2,h3⟩:=DZ (s:=s) (r:=r) (l:=l) n;rw[jZ];split
  ·rename_i q
   refine⟨om,h2,fun i hi hn=>?_⟩;rcases Nat.lt_or_eq_of_le (Nat.le_of_lt_succ hn)with e|e
   ·exact h3 i hi e
   ·rw[e];exact q
  ·rename_i q
   exact⟨kb _,.inr (by rw[gz];exact q),fun i hi hn=>by omega⟩
theorem qT4 {s:Schema} {o:List Rec} {r:Rec} (ho:ER s o=true) (hr:∀i:Nat,i<o.length->lM s r o[i]! ≠0):ER s (lJ s o r)=true:=by
 obtain⟨h1,h2,h3⟩:=DZ (s:=s) (r:=r) (l:=o) o.length;have hlen:=zG s o r;unfold lJ at hlen ⊢;generalize jZ s r o o.length=j at h1 h2 h3 hlen;have lt:(o.take j).length=j:=by rw[List.length_take];omega
 have ga:∀k:Nat,k<j->(o.take j++ [r]++o.drop j)[k]! =o[k]!:=fun k hk=>by
  rw[gj,gj,gf,List.getElem?_append_left om,ky,if_pos hk]
 have gb:(o.take j++ [r]++o.drop j)[j]! =r:=by
  rw[gj,gf,kh om,lt,Nat.sub_self];rfl
 have gc:∀k:Nat,j<k->k<=o.length->(o.take j++ [r]++o.drop j)[k]! =o[k-1]!:=fun k hk hl=>by
  have hl2:(o.take j++ [r]).length=j+1:=by rw[gh,lt];rfl
  rw[gj,gj,kh om,hl2,List.getElem?_drop,show j+(k-(j+1))=k-1 by omega]
 refine qWJ fun i hi hn=>?_
 rw[hlen]at hn;rcases Nat.lt_trichotomy i j with q|q|q
 ·rw[ga _ om,ga _ q]
  have:=qBD ho (i:=i-1) om;rwa [kz hi]at this
 ·subst q
  rw[ga _ om,gb];rcases h2 with e|e
  ·omega
  ·exact qbC (by have:=hr (i-1) om;show lM s r o[i-1]! >0;omega)
 ·by_cases e:i=j+1
  ·subst e
   rw[gz,gb,gc _ om om,gz];exact h3 j (kb _) om
  ·rw[gc _ om om,gc _ q om]
   have:=qBD ho (i:=i-1-1) om;rwa [kz om]at this
theorem YM {s:Schema} {r:Rec} (hs:aS s=0) (h:iU s r=true):(fD s r).2=r.1:=by
 have hk:=bI hs;simp only[iU,hh,decide_eq_true_eq]at h;have hl:r.2.length=s.1.length:=by
  have:=h.2;unfold kO at this;split at this
  ·cases this
  ·rename_i q;omega
 unfold fD;rw[if_neg om]
theorem qT5 {s:Schema} {o:List Rec} {r x:Rec} (h:x∈lJ s o r):x=r\/x∈o:=by
 unfold lJ at h;simp only[kd,gy]at h;rcases h with(q|q)|q
 ·exact .inr (ka q)
 ·exact .inl q
 ·exact .inr (gn q)
theorem qE0:∀(cs:List Col) (q:Src),(∀c,c∈cs->bJ c.2.1=true)->(dA cs q).1.length=cs.length/\∀i:Nat,i<cs.length->aZ cs[i]! (dA cs q).1[i]! =0
 | [],q,_=>⟨rfl,fun i h=>absurd h (Nat.not_lt_zero _)⟩
 |c::cs,q,h=>by
  obtain⟨h1,h2⟩:=qE0 cs (gV q c).2 fun x hx=>h x (gg _ hx)
  refine⟨by rw[dA,ge,ge,h1],fun i hi=>?_⟩;cases i with
  |zero=>exact SY q c (h c (gp ..))
  |succ i=>rw[dA];exact h2 i (by rw[ge]at hi;omega)
theorem qQ0 {s:Schema} {q:Src} (hk:∀i,i<s.1.length->bJ s.1[i]!.2.1=true):kO s (dA s.1 q).1=0:=by
 obtain⟨h1,h2⟩:=qE0 s.1 q fun c hc=>by
  obtain⟨i,hi,rfl⟩:=List.mem_iff_getElem.1 hc;rw[<-getElem!_pos s.1 i hi];exact hk i hi
 unfold kO;rw[if_neg (fun e=>e h1)];refine uI _ _ _ fun i hi=>?_
 have:=h2 i om;rw[show((0:Int)+(i:Int)).toNat=i by omega];exact this
theorem qFX {s:Schema} (hs:aS s=0) (hk:∀i,i<s.1.length->bJ s.1[i]!.2.1=true):∀(n:Nat) (m:Int) (q:Src) (o:List Rec),(∀x,x∈o->iU s x=true/\x.1<m)->0<=m->m+3*n<=1099511627776->ER s o=true ->
  (∀r,r∈mR n m q s->iU s r=true)/\ER s ((mR n m q s).foldl (lJ s) o)=true/\∀x,x∈(mR n m q s).foldl (lJ s) o->iU s x=true
 |0,m,q,o,h1,h2,h3,h4=>⟨fun r hr=>(by cases hr),h4,fun x hx=>(h1 x hx).1⟩
 |n+1,m,q,o,h1,h2,h3,h4=>by
  have hp:=Src.pick_lt (s:=(dA s.1 q).2) (n:=3) dc;have hr:iU s ((m,(dA s.1 q).1):Rec)=true:=by
   simp only[iU,hh,decide_eq_true_eq];exact⟨⟨h2,om⟩,qQ0 hk⟩
  have hi:=qT4 (s:=s) (o:=o) (r:=((m,(dA s.1 q).1):Rec)) h4 fun i hi=>by
   have hm:o[i]! ∈o:=by rw[getElem!_pos o i hi];exact gt hi
   have hx:=h1 _ hm;refine qbD ?_;rw[YM hs hr,YM hs hx.1];show m≠(o[i]!).1;omega
  obtain⟨g1,g2,g3⟩:=qFX hs hk n (m+(1+Src.pick (dA s.1 q).2 3)) (Src.next (dA s.1 q).2) (lJ s o (m,(dA s.1 q).1)) (fun x hx=>by
   rcases qT5 hx with e|e
   ·rw[e];exact⟨hr,show m<_ by omega⟩
   ·have:=h1 x e;exact⟨this.1,om⟩) om om hi
  rw[mR];refine⟨fun r h=>?_,g2,g3⟩;rcases gq.1 h with e|e
  ·rw[e];exact hr
  ·exact g1 r e
theorem XH (x l:List Int) (n:Int) (h:0<=n/\n<=1000):dN (aQ x) (eI (aQ x) l n)=true:=by
 obtain⟨hs,_,_,hk⟩:=LK x;have hp0:=Src.pick_lt (s:=(l,0)) (n:=5) dc;have hp1:=Src.pick_lt (s:=Src.next (l,0)) (n:=n+1) om;obtain⟨g1,g2,g3⟩:=qFX hs hk (Src.pick (Src.next (l,0)) (n+1)).toNat (Src.pick (l,0) 5) (Src.next (Src.next (l,0))) [] (fun x hx=>by cases hx) hp0.1 om rfl;have va:∀L:List Rec,(∀r,r∈L->iU (aQ x) r=true)->cO (aQ x) L=true:=fun L hL=>by
  simp only[cO,hh,decide_eq_true_eq,List.all_eq_true];exact⟨hs,hL⟩
 have e:eI (aQ x) l n=(JF (aQ x) l n).foldl (lJ (aQ x)) []:=by
  have hva:cO (aQ x) (JF (aQ x) l n)=true:=va _ g1;unfold eI jU;rw[if_pos hva]
 rw[e];unfold dN;rw[hh];exact⟨va _ g3,g2⟩
theorem qWK:∀(f x:Nat),x<2^f->x<2^Lib.bitLenAux f x
 |0,x,h=>by simpa [Lib.bitLenAux]using h
 |f+1,x,h=>by
  rw[Lib.bitLenAux];split
  ·rename_i q;subst q;simp
  ·have:=qWK f (x/2) (by rw[Nat.pow_succ]at h;omega)
   rw[Nat.add_comm,Nat.pow_succ];omega
theorem qE5 {v:Int} (h:0<=v/\v<18446744073709551616):v<2^(iP v).toNat:=by
 have h1:=qWK 64 v.toNat (by have:(2:Nat)^64=18446744073709551616:=dc
                             omega)
 unfold iP Lib.bitLen;rw[gm,<-dI];omega
theorem qCI {v:Int} {w:Nat} (hw:w<=64) (h:0<=v/\v<2^w):iP v<=w:=by
 have:=dI w;have:=Lib.bitLen_le v.toNat w hw om;unfold iP;omega
theorem LG {l:List Int} (h:∀b,b∈l->0<=b/\b<256) (k:Nat):aG (aT l) k=l[k]!:=by
 rw[<-hE,bD h]
theorem qTX {f:Nat->Int} (hf:uB f) (m n:Nat):∀b,b∈gL f m 8 n->0<=b/\b<256:=by
 intro b hb;obtain⟨i,_,rfl⟩:=gi.1 hb;have:=OT hf m 8 i 8;simpa using this
theorem CF {f:Nat->Int} (hf:uB f) {m n q:Nat} (h:q<8*n):sbit (aT (gL f m 8 n)) q=if q<m then f q else 0:=by
 unfold sbit;rw[LG (qTX hf m n),SQ om,qOY hf (Nat.mod_lt _ dc)];rw[show q/8*8+q%8=q by omega]
theorem qKW {n w:Nat} (hn:n<=4096) (hw:w<=64):eR (n:Int) (w:Int)=(((n*w+7)/8:Nat):Int):=by
 obtain⟨h1,h2⟩:=lK (n:=(n:Int)) (w:=(w:Int)) ⟨⟨om,om⟩,om,om⟩;rw[h1];push_cast;rfl
theorem EM {u:List Int} {w:Nat} (hn:u.length<=4096) (hw:w<=64) (h:∀v,v∈u->0<=v/\v<2^w):bM (fT u w).1 u.length w=(u,0):=by
 have hnd:=qKW hn hw;have hwide:¬sM u w=true:=by
  rw[qI1]
  ·decide
  ·intro j hj
   exact qCI hw (h _ (by rw[getElem!_pos u j hj];exact gt hj))
 have hp:(fT u w).1=aT (gL (vbit u w) (u.length*w) 8 ((u.length*w+7)/8)):=by
  unfold fT;rw[if_neg om,if_neg om,if_neg hwide,hnd];simp only[gm];rw[show((u.length:Int)*(w:Int)).toNat=u.length*w by rw[<-Int.natCast_mul,gm]]
 have hsz:(fT u w).1.size=(u.length*w+7)/8:=by rw[hp,cI,jB]
 have hperm:¬¬tR (u.length:Int) (w:Int)=true:=fun q=>q ((gO _ _).2 om)
 have hm:((u.length:Int)*(w:Int)).toNat=u.length*w:=by rw[<-Int.natCast_mul,gm]
 have htail:¬iV (fT u w).1 ((u.length:Int)*(w:Int)).toNat=true:=by
  rw[hm];refine qGC fun q h1 h2=>?_
  rw[hsz]at h2;rw[hp,CF (qDQ u w) h2,if_neg om];decide
 rw[bM,if_neg hperm,if_neg (by rw[hsz,hnd];omega),if_neg (by rw[hsz,hnd];omega),if_neg htail,hm];congr 1
 apply List.ext_getElem
 ·rw[jB];simp
 ·intro i h1 h2
  have hi:i<u.length:=by rw[jB]at h1;simpa using h1
  have e1:(gL (sbit (fT u w).1) (u.length*w) (w:Int).toNat (u.length:Int).toNat)[i]=gs (sbit (fT u w).1) (u.length*w) w i w:=by
   simp [gL]
  rw[e1];have hu:=h u[i] (gt hi);have hle:i*w+w<=u.length*w:=by
   have:=Nat.mul_le_mul_right w (show i+1<=u.length by omega);rw[Nat.add_mul,Nat.one_mul]at this;exact this
  rw[qEQ hu.1 w (fun t ht=>⟨om,?_⟩),Int.emod_eq_of_lt hu.1 hu.2];rw[hp,CF (qDQ u w) om,if_pos om];obtain⟨q1,q2⟩:=xP (i:=i) (w:=w) (t:=t) (m:=i*w+t) ht rfl;unfold vbit;rw[<-q1,<-q2,getElem!_pos u i hi]
def lX (t:List ByteArray):List Int:=t.flatMap fun w=>put (w.size:Int)++aE w
theorem IP:∀(W:List ByteArray) (s:ByteArray),(∀w,w∈W->w.size<18446744073709551616)->aE (tM s W)=aE s++lX W
 | [],s,_=>by simp [tM,lX]
 |w::W,s,h=>by
  have hw:=h w sm;show aE (tM (s++(aT (put (w.size:Int))++w)) W)=_;rw[IP W _ (fun v hv=>h v (by simp [hv])),bG,bG,bD (gE ⟨om,om⟩)];simp [lX]
theorem oX (s:ByteArray) (a b:Nat):aE (s.extract a b)=((aE s).drop a).take (b-a):=by
 unfold aE;simp [List.map_take,List.map_drop,List.take_drop]
theorem qVL {a b:ByteArray} (h:eJ b a=true):¬sLe a b=true:=by
 unfold sLe;have h1:=KI h;have h2:¬a=b:=fun q=>kP b (by rw[q]at h;exact h)
 simp [h1,h2]
theorem qM6 {M:List ByteArray} {w:ByteArray} {t:List ByteArray} (h:sP (M++w::t)):¬(0<M.length/\sLe w M[M.length-1]! =true):=by
 rintro⟨h0,h1⟩;refine qVL ?_ h1;unfold sP at h;rw[List.pairwise_append]at h;refine h.2.2 _ ?_ w sm;rw[getElem!_pos M (M.length-1) om];exact gt _
theorem qI2 {s:ByteArray} {a:Nat} {w:ByteArray} {r:List Int} (hw:w.size<18446744073709551616) (h:(aE s).drop a=put (w.size:Int)++(aE w++r)) :
  aA s a=((w.size:Int),(a:Int)+(put (w.size:Int)).length,0)/\¬(w.size:Int)>s.size-((a:Int)+(put (w.size:Int)).length)/\EV s a=w/\(aE s).drop (a+(put (w.size:Int)).length+w.size)=r:=by
 have hg:=nI (s:=s) (a:=a) (u:=(w.size:Int)) ⟨om,om⟩ h;have hl:=congrArg List.length h;simp only[gk,gh,aR]at hl;have hp:=bW (w.size:Int);have d1:(aE s).drop (a+(put (w.size:Int)).length)=aE w++r:=by
  rw[<-he,h,gr]
 refine⟨hg,om,?_,?_⟩
 ·unfold EV
  rw[hg];simp only;apply hU;rw[oX,show((a:Int)+((put (w.size:Int)).length:Int)).toNat=a+(put (w.size:Int)).length by omega,show((a:Int)+((put (w.size:Int)).length:Int)+(w.size:Int)).toNat-(a+(put (w.size:Int)).length)=(aE w).length by rw[aR];omega,d1,kt]
 ·rw[<-he,d1,<-aR w,gr]
theorem xF {s:ByteArray}:∀(t:List ByteArray) (a:Nat) (M:List ByteArray) (r:List Int),(aE s).drop a=lX t++r->sP (M++t)->(∀w,w∈t->w.size<18446744073709551616) ->
  cA s t.length a M=(M++t,((a+(lX t).length:Nat):Int),0)/\(aE s).drop (a+(lX t).length)=r
 | [],a,M,r,h,_,_=>by
   rw[gl,cA];simpa [lX]using h
 |w::t,a,M,r,h,hM,hsz=>by
  have e:lX (w::t)=put (w.size:Int)++aE w++lX t:=by simp [lX]
  obtain⟨g1,g2,g3,g4⟩:=qI2 (s:=s) (a:=a) (w:=w) (r:=lX t++r) (hsz w sm) (by rw[h,e];simp);obtain⟨i1,i2⟩:=xF t (a+(put (w.size:Int)).length+w.size) (M++ [w]) r g4 (by simpa using hM) (fun v hv=>hsz v (by simp [hv]));have el:(lX (w::t)).length=(put (w.size:Int)).length+w.size+(lX t).length:=by rw[e];simp only[gh,aR]
  rw[ge,cA,g1];simp only;rw[if_neg dc,if_neg g2,g3,if_neg (qM6 hM)];rw[show(a:Int)+((put (w.size:Int)).length:Int)+(w.size:Int)=((a+(put (w.size:Int)).length+w.size:Nat):Int)by push_cast;rfl,i1,el];have e5:a+((put (w.size:Int)).length+w.size+(lX t).length)=a+(put (w.size:Int)).length+w.size+(lX t).length:=om
  refine⟨?_,by rw[e5];exact i2⟩;rw[e5,gf];rfl
theorem IM (s:ByteArray) (e:Nat):aE (s.extract e s.size)=(aE s).drop e:=by
 rw[oX,List.take_of_length_le (by simp [aR])]
theorem qEY:∀(l:List Bool) (k:Int),(∀b,b∈l->b=true)->BQ l false k = -1
 | [],_,_=>rfl
 |b::l,k,h=>by
  rw[BQ,if_neg (by rw[h b sm];decide),qEY l _ (fun c hc=>h c (by simp [hc]))]
theorem XC:∀(l:List Bool) (k:Int),0<=k->¬BQ l false k>=0->∀b,b∈l->b=true
 | [],_,_,_,b,hb=>by simp at hb
 |c::l,k,hk,h,b,hb=>by
  rw[BQ]at h;split at h
  ·exact absurd hk om
  ·rename_i q
   rcases gq.1 hb with r|r
   ·subst r;cases b
    ·exact absurd rfl q
    ·rfl
   ·exact XC l (k+1) om h b r
theorem qL5 {k:Nat} {u:List Int}:(¬WW (oT k u) false=true)↔ ∀j:Nat,j<k->(j:Int)∈u:=by
 unfold WW;rw[decide_eq_true_iff];constructor
 ·intro h j hj
  have:=XC _ 0 om h (u.any fun c=>decide (c=(j:Int))) (by
   unfold oT;rw[gi];exact⟨j,by simpa using hj,rfl⟩)
  rw[km]at this;obtain⟨c,hc,hq⟩:=this;rw[decide_eq_true_iff]at hq;subst hq;exact hc
 ·intro h
  rw[qEY]
  ·decide
  ·intro b hb
   unfold oT at hb;obtain⟨j,hj,rfl⟩:=gi.1 hb;rw[km];exact⟨(j:Int),h j (by simpa using hj),sm⟩
theorem qV6 (k:Nat):∃w:Nat,(k<=9223372036854775807->w<=64)/\wdN (k:Int)=w/\(k<=9223372036854775807->∀c:Int,0<=c->c<k->c<2^w):=by
 have h0:0<=wdN (k:Int):=by unfold wdN iP;omega
 refine⟨(wdN (k:Int)).toNat,fun h=>?_,om,fun h c h1 h2=>?_⟩
 ·have:=qV7 (k:Int) om;omega
 ·have hm:cH ((k:Int)-1) 0=(k:Int)-1:=by unfold cH;split<;>omega
  have:=qE5 (v:=(k:Int)-1) om;unfold wdN;rw[hm];omega
theorem yX {l:List ByteArray}:∀c,c∈cQ l->0<=c/\c<(bN l).length:=by
 intro c hc;obtain⟨s,hs,rfl⟩:=gi.1 hc;have:=(qFK (nD l) ((kS l s).2 hs)).1;omega
theorem qBX {x:List ByteArray} (hl:x.length<=4096) (hs:∀w,w∈x->w.size<18446744073709551616):cT (nG x) x.length=(x,0):=by
 have hwl:=jI x;have hcl:=kL x;obtain⟨w,w1,w2,w3⟩:=qV6 (bN x).length;have hws:∀v,v∈bN x->v.size<18446744073709551616:=fun v hv=>hs v ((kS x v).1 hv)
 have hup:=EM (u:=cQ x) (w:=w) om (w1 om) (fun v hv=>⟨(yX v hv).1,w3 om v (yX v hv).1 (yX v hv).2⟩);have hi:aE (nG x)=put ((bN x).length:Int)++(lX (bN x)++aE (fT (cQ x) w).1):=by
  rw[nG,if_neg om,bG,IP _ _ hws,bD (gE ⟨om,om⟩),w2,gf]
 generalize nG x=s at hi;have hg:=nI (s:=s) (a:=0) (u:=((bN x).length:Int)) ⟨om,om⟩ (by simpa using hi);have hd:(aE s).drop (put ((bN x).length:Int)).length=lX (bN x)++aE (fT (cQ x) w).1:=by rw[hi,gr]
 obtain⟨g1,g2⟩:=xF (s:=s) (bN x) _ [] _ hd (by simpa using nD x) hws;have hg':aA s 0=(((bN x).length:Int),((put ((bN x).length:Int)).length:Int),0):=by simpa using hg
 have hne:¬(((bN x).length:Int)>(x.length:Int)\/(((bN x).length:Int)=0/\(x.length:Int)>0)):=by
  rintro(q|⟨q1,q2⟩)
  ·omega
  ·cases x with
   |nil=>simp at q2
   |cons a x=>
    have:=(kS (a::x) a).2 sm;rw[List.length_eq_zero_iff.1 (show(bN (a::x)).length=0 by omega)]at this;simp at this
 rw[WD om (by rw[hg']) (by rw[hg'];exact hne),hg'];simp only[gm];rw[g1];have hex:s.extract ((((put ((bN x).length:Int)).length+(lX (bN x)).length:Nat):Int)).toNat s.size=(fT (cQ x) w).1:=by
  apply hU;rw[gm,IM,g2]
 rw[IJ (by rfl)];simp only[List.nil_append];rw[hex,w2,<-hcl,hup,SF (by rfl)];simp only;have hmap:∀v,v∈x->(bN x)[plS (bN x) v]! =v:=fun v hv=>(qFK (nD x) ((kS x v).2 hv)).2
 have hall:∀j:Nat,j<(bN x).length->(j:Int)∈cQ x:=fun j hj=>by
  unfold cQ;rw[gi];refine⟨(bN x)[j]!,(kS x _).1 (by rw[getElem!_pos _ j hj];exact gt hj),?_⟩;exact congrArg (fun n:Nat=>(n:Int)) (TK (nD x) hj)
 rw[qEI (V:=oT (bN x).length (cQ x)) rfl (by
  rw[List.any_eq_false];intro c hc;have:=yX c hc;simp;omega) (qL5.2 hall)]
 rw[Prod.mk.injEq];refine⟨?_,rfl⟩;unfold cQ;rw[kf];conv=>rhs;rw[<-ku x]
 exact gw fun v hv=>by simpa using hmap v hv
theorem qWP:∀(l:List Int) (x:Int),x<=l.foldl cH x/\∀y,y∈l->y<=l.foldl cH x
 | [],x=>⟨kj _,sm⟩
 |z::l,x=>by
  obtain⟨h1,h2⟩:=qWP l (cH x z);have h4:x<=cH x z/\z<=cH x z:=by unfold cH;split<;>omega
  refine⟨by rw[ks];omega,fun y hy=>?_⟩;rw[ks];rcases gq.1 hy with q|q
  ·subst q;omega
  ·exact h2 y q
theorem qY5 {l:List Int} {y:Int} (h:y∈l):y<=mxL l:=by
 cases l with
 |nil=>simp at h
 |cons x l=>
  obtain⟨h1,h2⟩:=qWP l x;rcases gq.1 h with q|q
  ·subst q;exact h1
  ·exact h2 y q
theorem qPM {l:List Int} (h:∀v,v∈l->0<=v/\v<18446744073709551616) (hne:l≠ []):0<=mxL l/\mxL l<18446744073709551616:=by
 cases l with
 |nil=>exact absurd rfl hne
 |cons x l=>
  show 0<=List.foldl cH x l/\List.foldl cH x l<18446744073709551616;rcases qCN (l:=l) (x:=x)with q|q
  ·rw[q];exact h x sm
  ·exact h _ (by simp [q])
theorem qU9 {a b:Nat} (h:a<=b):(2:Int)^a<=2^b:=by
 have:=Nat.pow_le_pow_right (show 0<2 by decide) h;rw[<-dI,<-dI];omega
def qKE (t:Int) (v:Val):Prop:=v.1=false/\inI v.2.1/\(t=3->v.2.1=0/\v.2.2.size<=1048576)/\(¬t=3->v.2.2=⟨#[]⟩)
theorem qBE {s:ByteArray} {a:Nat} (h:(aE s).drop a= []) (h1:a<=s.size):a=s.size:=by
 have:=congrArg List.length h;simp only[gk,gl,aR]at this;omega
theorem sZ {s:ByteArray} {a:Nat} {u:Int} {r:List Int} (hu:0<=u/\u<18446744073709551616) (h:(aE s).drop a=put u++r) :
  aA s a=(u,((a+(put u).length:Nat):Int),0)/\(aE s).drop (a+(put u).length)=r/\a+(put u).length<=s.size:=by
 have hg:=nI hu h;have hl:=congrArg List.length h;simp only[gk,gh,aR]at hl;have hp:=bW u;exact⟨by rw[hg,Int.natCast_add],by rw[<-he,h,gr],om⟩
theorem JA:aE ByteArray.empty= []:=rfl
theorem JV {t:Int} {s:ByteArray}:∀(l:List Val) (a:Nat) (M:List Val),(∀v,v∈l->qKE t v)->a<=s.size->(aE s).drop a=aE (plL t l)->lQ t s l.length (a:Int) M=(M++l,true)
 | [],a,M,_,ha,h=>by
   have h0:=qBE (h.trans JA) ha;rw[gl,lQ,gx,h0,decide_eq_true rfl]
 |v::l,a,M,hv,ha,h=>by
  obtain⟨f1,f2,f3,f4⟩:=hv v sm;have hl:∀x,x∈l->qKE t x:=fun x hx=>hv x (gg _ hx)
  rw[plL,bG]at h;by_cases ht:t=3
  ·obtain⟨f5,f6⟩:=f3 ht
   rw[plV,if_pos ht,bG,bD (gE ⟨om,om⟩),gf]at h;obtain⟨g1,g2,g3,g4⟩:=qI2 (s:=s) (a:=a) (w:=v.2.2) (r:=aE (plL t l)) om h;have e:s.extract (aA s a).2.1.toNat ((aA s a).2.1+(aA s a).1).toNat=v.2.2:=g3;have q1:¬(aA s a).2.2≠0:=mN (by rw[g1]);have q2:¬(aA s a).1>s.size-(aA s a).2.1:=by rw[g1];exact g2
   have q3:(aA s a).2.1+(aA s a).1=((a+(put (v.2.2.size:Int)).length+v.2.2.size:Nat):Int):=by rw[g1];show(a:Int)+_+_=_;omega
   have hvv:sV v.2.2=v:=by
    obtain⟨x,y,z⟩:=v;have e1:x=false:=f1;have e2:y=0:=f5;subst e1 e2;rfl
   rw[ge,lQ,if_neg q1,if_pos ht,if_neg q2,e,hvv,q3,JV l _ _ hl om g4,gf];rfl
  ·rw[plV,if_neg ht,bD (gE (iC f2))]at h
   obtain⟨g1,g2,g3⟩:=sZ (iC f2) h;have q1:¬(aA s a).2.2≠0:=mN (by rw[g1]);have q3:(aA s a).2.1=((a+(put (eK v.2.1)).length:Nat):Int):=by rw[g1]
   have hvv:nV (nE (aA s a).1)=v:=by
    rw[g1];show nV (nE (eK v.2.1))=v;rw[AQ];have e3:=f4 ht;obtain⟨x,y,z⟩:=v;have e1:x=false:=f1;have e2:z=⟨#[]⟩:=e3;subst e1 e2;rfl
   rw[ge,lQ,if_neg q1,if_neg ht,hvv,q3,JV l _ _ hl g3 g2,gf];rfl
theorem QF:∀(v:Int) (l:List Int),kv (cS v l) v++l.drop (cS v l)=l
 |v,[]=>rfl
 |v,x::l=>by
  unfold cS;split
  ·rename_i q
   rw[kw,kn,ke,QF v l,q]
  ·rfl
theorem ZB:∀(v:Int) (l:List Int),l.drop (cS v l)≠ []->(l.drop (cS v l))[0]! ≠v
 |v,[],h=>absurd rfl h
 |v,x::l,h=>by
  unfold cS at h ⊢;split at h
  ·rename_i q
   rw[if_pos q,ke];rw[ke]at h;exact ZB v l h
  ·rename_i q
   rw[if_neg q];exact q
theorem qKS (M:List Int) (c:Nat) (v:Int):iE (M++kv (c+1) v)=v:=by
 rw[List.replicate_succ',<-gf,BT]
theorem OJ {s:ByteArray} {n:Int}:∀(m:Nat) (l:List Int) (a:Nat) (M:List Int),l.length<=m->(∀x,x∈l->inI x)->a<=s.size->(aE s).drop a=BK (runs l)->(M.length:Int)+l.length=n->n<=4096 ->
  (M≠ []->l≠ []->iE M≠l[0]!)->dGo s n a M=(M++l,0)
 |m,[],a,M,_,_,ha,h,hn,_,_=>by
  rw[runs,BK]at h;have h0:=qBE h ha;rw[qN0 (by simp at hn;omega),if_neg om,gx]
 |0,v::r,a,M,hm,_,_,_,_,_,_=>by simp at hm
 |m+1,v::r,a,M,hm,hi,ha,h,hn,h4,hl=>by
  have hc:=lA v r;rw[ge]at hm hn;rw[runs,BK]at h;obtain⟨g1,g2,g3⟩:=sZ (u:=(cS v r:Int)+1) ⟨om,om⟩ h;have hv:=hi v sm;obtain⟨k1,k2,k3⟩:=sZ (iC hv) g2;have e1:(aA s a).2.1=((a+(put ((cS v r:Int)+1)).length:Nat):Int):=by rw[g1]
  have e2:(aA s (aA s a).2.1)=(eK v,((a+(put ((cS v r:Int)+1)).length+(put (eK v)).length:Nat):Int),0):=by rw[e1,k1]
  have e3:nE (aA s (aA s a).2.1).1=v:=by rw[e2];exact AQ v
  have e4:(aA s a).1=(cS v r:Int)+1:=by rw[g1]
  have e5:(aA s a).1.toNat=cS v r+1:=by rw[e4];omega
  have e6:(aA s (aA s a).2.1).2.1=((a+(put ((cS v r:Int)+1)).length+(put (eK v)).length:Nat):Int):=by rw[e2]
  have q4:¬(0<M.length/\M[M.length-1]! =nE (aA s (aA s a).2.1).1):=by
   rw[e3];rintro⟨p1,p2⟩;exact hl (fun p=>by rw[p]at p1;simp at p1) sm p2
  rw[qWN om (by rw[g1]) (by rw[e4];omega) (by rw[e2]) q4,e3,e5,e6];rw[OJ m (r.drop (cS v r)) _ _ (by rw[gk];omega) (fun x hx=>hi x (gg _ (gn hx))) k3 k2 (by simp only[gh,List.length_replicate,gk];omega) h4 (fun _ p=>by rw[qKS];exact fun q=>ZB v r p q.symm)];rw[gf,kw,kn,QF]
theorem WL:∀(l:List (Int×Int)),(∀p,p∈l->(0<=p.1/\p.1<18446744073709551616)/\inI p.2)->∀b,b∈BK l->0<=b/\b<256
 | [],_,b,hb=>by cases hb
 |(n,v)::l,h,b,hb=>by
  have h1:=h (n,v) sm;rw[BK]at hb;rcases kd.1 hb with q|q
  ·exact gE h1.1 b q
  ·rcases kd.1 q with q|q
   ·exact gE (iC h1.2) b q
   ·exact WL l (fun p hp=>h p (gg _ hp)) b q
theorem ZD:∀(m:Nat) (l:List Int),l.length<=m->m<=4096->(∀x,x∈l->inI x)->∀p,p∈runs l->(0<=p.1/\p.1<18446744073709551616)/\inI p.2
 |m,[],_,_,_,p,hp=>by rw[runs]at hp;cases hp
 |0,v::r,hm,_,_,_,_=>by simp at hm
 |m+1,v::r,hm,h4,hi,p,hp=>by
  have hc:=lA v r;rw[ge]at hm;rw[runs]at hp;rcases gq.1 hp with q|q
  ·rw[q];exact⟨by show 0<=(cS v r:Int)+1/\(cS v r:Int)+1<18446744073709551616;omega,hi v sm⟩
  ·exact ZD m (r.drop (cS v r)) (by rw[gk];omega) om (fun x hx=>hi x (gg _ (gn hx))) p q
theorem qDC {l:List Int} (hl:l.length<=4096) (hi:∀x,x∈l->inI x):eP (oU l) l.length=(l,0):=by
 have e:aE (oU l)=BK (runs l):=bD (WL _ (ZD _ l (kb _) hl hi));rw[eP,if_neg om];exact OJ l.length l 0 [] (kb _) hi (ki _) e sm om (fun p=>absurd rfl p)
theorem qV9 {m d:Int} (h:inI d):IntKind.i64.wrap (m+IntKind.u64.wrap (IntKind.i64.wrap (d-m)))=d:=by
 unfold inI at h;simp [IntKind.wrap,IntKind.bits,IntKind.signed];omega
theorem qZ4 {m d:Int} (hd:inI d) (hm:inI m) (h:m<=d):IntKind.u64.wrap (IntKind.i64.wrap (d-m))=d-m:=by
 unfold inI at hd hm;simp [IntKind.wrap,IntKind.bits,IntKind.signed];omega
theorem qZ3 {D:List Int} (hi:∀d,d∈D->inI d) (hne:D≠ []):(∀v,v∈usL (mnL D) D->0<=v/\v<18446744073709551616)/\(0:Int)∈usL (mnL D) D/\(usL (mnL D) D).map (fun v=>IntKind.i64.wrap (mnL D+v))=D:=by
 have hm:=zL hne;refine⟨fun v hv=>?_,?_,?_⟩
 ·obtain⟨d,_,rfl⟩:=gi.1 hv
  exact iI _
 ·refine gi.2 ⟨mnL D,hm,?_⟩
  rw[qZ4 (hi _ hm) (hi _ hm) (kj _)];omega
 ·unfold usL
  rw[kf];conv=>rhs;rw[<-ku D]
  exact gw fun d hd=>qV9 (hi d hd)
theorem qCU {u:List Int} {w:Int} (hn:u.length<=4096) (hw:0<=w/\w<=64) (h:bM (fT u w).1 u.length w=(u,0)):(((fT u w).1.size:Nat):Int)=eR u.length w:=by
 unfold bM at h;split at h
 ·have:=congrArg Prod.snd h;simp at this
 ·split at h
  ·have:=congrArg Prod.snd h;simp at this
  ·split at h
   ·have:=congrArg Prod.snd h;simp at this
   ·omega
theorem qJM {s:ByteArray} {a:Nat} {D r:List Int} (h:(aE s).drop a=aE (GJ D)++r) (hD:1<=D.length/\D.length<=32) (hi:∀d,d∈D->inI d) :
  ∃b:Nat,iY s a D.length=(D,(b:Int),0)/\(aE s).drop b=r/\b<=s.size:=by
 have hne:D≠ []:=fun e=>by rw[e]at hD;simp at hD
 obtain⟨u1,u2,u3⟩:=qZ3 hi hne;have hw:=qY4 (mnL D) D;have hmi:=hi _ (zL hne);have hul:(usL (mnL D) D).length=D.length:=by simp [usL]
 have hune:usL (mnL D) D≠ []:=fun e=>by rw[e]at hul;simp at hul;omega
 obtain⟨w,hww⟩:∃w:Nat,mwL (usL (mnL D) D)=(w:Int):=⟨(mwL (usL (mnL D) D)).toNat,om⟩
 have hmx:=qbA hune u1;have hup:bM (fT (usL (mnL D) D) w).1 (usL (mnL D) D).length w=(usL (mnL D) D,0):=by
  refine EM om om (fun v hv=>⟨(u1 v hv).1,?_⟩);have h1:=qE5 (u1 v hv);have hle:v<=mxL (usL (mnL D) D):=qY5 hv;have h2:=BU hle (qPM u1 hune).2;rw[<-hmx,hww]at h2;exact Int.lt_of_lt_of_le h1 (qU9 om)
 have hsz:=qCU om om hup;rw[GJ,hww,bG,bG,bD (gE (iC hmi)),bD (fun b hb=>by rw[gy.1 hb];exact nJ _),KW om,gf,gf]at h;obtain⟨g1,g2,g3⟩:=sZ (iC hmi) h;have hb:=congrArg List.length g2;simp only[gk,gh,ge,gl,aR]at hb;have d1:=BJ (s:=s) (i:=a+(put (eK (mnL D))).length) om;rw[g2]at d1;have c1:aG s (a+(put (eK (mnL D))).length)=(w:Int):=((List.cons.inj d1).1).symm;have c2:(aE s).drop (a+(put (eK (mnL D))).length+1)=aE (fT (usL (mnL D) D) w).1++r:=((List.cons.inj d1).2).symm;have eW:dW s a=w:=by
  show aG s (aA s a).2.1.toNat=w;rw[g1];exact c1
 rw[hul]at hup hsz;have eE:dE s a D.length=((a+(put (eK (mnL D))).length+1+(fT (usL (mnL D) D) w).1.size:Nat):Int):=by
  show(aA s a).2.1+1+eR (D.length:Int) (dW s a)=_;rw[g1,eW,<-hsz];show((_:Nat):Int)+1+_=_;omega
 have eX:s.extract ((aA s a).2.1+1).toNat (dE s a D.length).toNat=(fT (usL (mnL D) D) w).1:=by
  apply hU;rw[oX,eE,g1];show((aE s).drop (((a+(put (eK (mnL D))).length:Nat):Int)+1).toNat).take _=_;rw[show(((a+(put (eK (mnL D))).length:Nat):Int)+1).toNat=a+(put (eK (mnL D))).length+1 by omega,c2,show(((a+(put (eK (mnL D))).length+1+(fT (usL (mnL D) D) w).1.size:Nat):Int)).toNat-(a+(put (eK (mnL D))).length+1)=(aE (fT (usL (mnL D) D) w).1).length by rw[aR];omega,kt]
 have eU:dU s a D.length=(usL (mnL D) D,0):=by
  show bM (s.extract ((aA s a).2.1+1).toNat (dE s a D.length).toNat) (D.length:Int) (dW s a)=_;rw[eX,eW,hup]
 have eL:dL s a=mnL D:=by
  show nE (aA s a).1=_;rw[g1];exact AQ _
 have eDs:dDs s a D.length=D:=by
  show(dU s a D.length).1.map (fun v=>IntKind.i64.wrap (dL s a+v))=D;rw[eU,eL];exact u3
 have hok:dOk s a D.length=true:=by
  rw[FC,eDs,eU,eL,eW];refine⟨rfl,(qUK hune (fun v hv=>(u1 v hv).1)).2 ?_,?_,rfl⟩
  ·rw[km];exact⟨0,u2,dc⟩
  ·rw[<-hmx,hww]
 refine⟨a+(put (eK (mnL D))).length+1+(fT (usL (mnL D) D) w).1.size,?_,?_,om⟩
 ·rw[qXX (by rw[g1]) (by rw[g1];show ¬((_:Nat):Int)=_;omega) (by rw[eW];omega) (by rw[eE];omega) hok,eDs,eE]
 ·rw[<-he,c2,<-aR (fT (usL (mnL D) D) w).1,gr]
theorem qF9:∀(A B M:List Int),M++nC (iE M) (A++B)=(M++nC (iE M) A)++nC (iE (M++nC (iE M) A)) B
 | [],B,M=>by simp [nC]
 |d::A,B,M=>by
  have h:=qF9 A B (M++ [IntKind.i64.wrap (iE M+d)]);rw[BT]at h;simp only[kn,nC];simpa using h
theorem WC {s:ByteArray} {n:Int}:∀(m:Nat) (D:List Int) (a:Nat) (M:List Int),D.length<=m->(∀d,d∈D->inI d)->a<=s.size->(aE s).drop a=aE (wX D)->(M.length:Int)+D.length=n->dd s n a M=(M++nC (iE M) D,0)
 |m,[],a,M,_,_,ha,h,hn=>by
  rw[wX,dif_pos (by rfl)]at h;have h0:=qBE (h.trans JA) ha;rw[qBT (by simp at hn;omega),if_neg om,nC,gx]
 |0,d::D,_,_,hm,_,_,_,_=>by simp at hm
 |m+1,d::D,a,M,hm,hi,ha,h,hn=>by
  have hlen:((d::D).take 32).length=min 32 (d::D).length:=List.length_take ..;have hl1:1<=(d::D).length:=sm
  rw[wX,dif_neg sm,bG]at h;obtain⟨b,g1,g2,g3⟩:=qJM h ⟨om,om⟩ (fun x hx=>hi x (ka hx));have ek:gP 32 (n-(M.length:Int))=(((d::D).take 32).length:Int):=by unfold gP;split<;>omega
  rw[qEH om (by rw[ek,g1]),ek,g1];show dd s n (b:Int) (M++nC (iE M) ((d::D).take 32))=_;rw[WC m ((d::D).drop 32) b _ (by rw[gk];omega) (fun x hx=>hi x (gn hx)) g3 g2 (by simp only[gh,nY,gk];omega),<-qF9,List.take_append_drop]
theorem qN8 (x y:Int) (r:List Int):dfs (x::y::r)=IntKind.i64.wrap (y-x)::dfs (y::r):=by
 unfold dfs;simp only[ge,gz];rw[List.range_succ_eq_map,List.map_cons,kf];rfl
theorem qWA {x y:Int} (h:inI y):IntKind.i64.wrap (x+IntKind.i64.wrap (y-x))=y:=by
 unfold inI at h;simp [IntKind.wrap,IntKind.bits,IntKind.signed];omega
theorem qGA:∀(r:List Int) (x:Int),(∀y,y∈r->inI y)->nC x (dfs (x::r))=r
 | [],x,_=>rfl
 |y::r,x,h=>by
  rw[qN8,nC,qWA (h y sm),qGA r y (fun z hz=>h z (gg _ hz))]
theorem WF {l:List Int} (hl:l.length<=4096) (hi:∀x,x∈l->inI x):cB (fK l) l.length=(l,0):=by
 cases l with
 |nil=>
  have e0:fK []=⟨#[]⟩:=by rw[fK,if_pos (.inl rfl)]
  rw[cB,if_neg dc,if_pos (show((([]:List Int).length:Nat):Int)=0 from rfl),e0,if_pos rfl]
 |cons x r=>
  have hlen:1<=(x::r).length:=sm
  have hx:=hi x sm;have e0:aE (fK (x::r))=put (eK x)++aE (wX (dfs (x::r))):=by
   rw[fK,if_neg (by simp;simpa using hl),bG,bD (gE (iC (show inI (x::r)[0]! from hx)))];rfl
  obtain⟨g1,g2,g3⟩:=sZ (a:=0) (iC hx) e0;have g0:aA (fK (x::r)) 0=(eK x,((0+(put (eK x)).length:Nat):Int),0):=g1;rw[cB,if_neg om,if_neg om,if_neg (mN (by rw[g0])),g0];show dd (fK (x::r)) ((x::r).length:Int) ((0+(put (eK x)).length:Nat):Int) [nE (eK x)]=_;rw[AQ,WC (dfs (x::r)).length (dfs (x::r)) _ _ (kb _) (fun d hd=>by
   unfold dfs at hd;obtain⟨j,_,rfl⟩:=gi.1 hd;exact FQ _) g3 g2 (by rw[qV];simp only[ge,gl];omega)]
  show([x]++nC x (dfs (x::r)),(0:Int))=_;rw[qGA r x (fun y hy=>hi y (gg _ hy))];rfl
theorem PK {N:List Bool} (h:N.length<=4096):((jS N).size:Int)=((N.length:Int)+7)/8:=by
 unfold jS;rw[cI,jB,mA om];omega
theorem JO {N:List Bool} {q:Nat} (hl:N.length<=4096) (h:q<8*(jS N).size):sbit (jS N) q=if q<N.length then fB N q else 0:=by
 have hs:(jS N).size=(((N.length:Int)+7).tdiv 8).toNat:=by unfold jS;rw[cI,jB]
 rw[hs]at h;exact CF (qaU N) h
theorem qPZ {N:List Bool} (h:N.length<=4096):kG (jS N) N.length=(N,0):=by
 have hz:=PK h;have ht:=mA (n:=(N.length:Int)+7) om;have h4:¬iV (jS N) ((N.length:Int)).toNat=true:=qGC (fun q g1 g2=>by
  rw[JO h g2,if_neg om];decide)
 rw[kG,if_neg om,if_neg om,if_neg om,if_neg h4];have e:tL (jS N) ((N.length:Int)).toNat=N:=by
  refine List.ext_getElem (by rw[ME];omega) fun i h1 h2=>?_
  simp only[tL,List.getElem_map,ua];unfold RL;rw[JO h om,if_pos h2];unfold fB;rw[getElem!_pos N i h2];cases N[i]<;>simp
 rw[e]
theorem qJR {c:Col} {v:Val} (h:aZ c v=0) (hn:v.1=false) (ho:okV v):qKE c.2.1 v:=by
 refine⟨hn,ho.2,fun ht=>⟨?_,ho.1⟩,fun ht=>?_⟩
 ·unfold aZ at h
  split at h
  ·cases h
  ·split at h
   ·cases h
   ·split at h
    ·cases h
    ·rename_i h3
     exact Decidable.not_not.1 fun q=>h3 ⟨.inr ht,q⟩
 ·unfold aZ at h
  split at h
  ·cases h
  ·split at h
   ·cases h
   ·rename_i h2
    exact Decidable.not_not.1 fun q=>h2 ⟨.inr ht,q⟩
theorem BC {c:Col}:∀(l M:List Val),(∀v,v∈l->aZ c v=0)->asm c (cL l) (bC l) M=(M++l,true)
 | [],M,_=>by
   show(M,true)=_;rw[gx]
 |v::l,M,h=>by
  have hv:=h v sm;have hl:∀x,x∈l->aZ c x=0:=fun x hx=>h x (gg _ hx)
  have e0:cL (v::l)=v.1::cL l:=rfl;by_cases hn:v.1=true
  ·have e1:bC (v::l)=bC l:=ko (by simp [hn])
   have e2:=xL hv hn;have e3:pkV v.1 (bC l)=v:=by rw[hn,e2];rfl
   have e4:rsV v.1 (bC l)=bC l:=by rw[hn];rfl
   rw[e0,e1,asm,e3,e4,if_neg (mN hv),BC l _ hl,gf];rfl
  ·have hn:v.1=false:=by simpa using hn
   have e1:bC (v::l)=v::bC l:=kp (by simp [hn]);have e3:pkV v.1 (v::bC l)=v:=by rw[hn];rfl
   have e4:rsV v.1 (v::bC l)=bC l:=by rw[hn];rfl
   rw[e0,e1,asm,e3,e4,if_neg (mN hv),BC l _ hl,gf];rfl
theorem qPF {S:List Val} {t:Int} (h:∀v,v∈S->qKE t v):(t=3->(xE S).map sV=S)/\(¬t=3->(lY S).map nV=S):=by
 refine⟨fun ht=>?_,fun ht=>?_⟩
 ·unfold xE
  rw[kf];conv=>rhs;rw[<-ku S]
  refine gw fun v hv=>?_
  obtain⟨f1,f2,f3,f4⟩:=h v hv;have f5:=(f3 ht).1;obtain⟨x,y,z⟩:=v;have e1:x=false:=f1;have e2:y=0:=f5;subst e1 e2;rfl
 ·unfold lY
  rw[kf];conv=>rhs;rw[<-ku S]
  refine gw fun v hv=>?_
  obtain⟨f1,f2,f3,f4⟩:=h v hv;have f5:=f4 ht;obtain⟨x,y,z⟩:=v;have e1:x=false:=f1;have e2:z=⟨#[]⟩:=f5;subst e1 e2;rfl
theorem qLG {t k:Int} {S:List Val} (hk:bY t k=true) (hl:S.length<=4096) (h:∀v,v∈S->qKE t v):gJ t k (gQ t k S) S.length=(S,true):=by
 have hb:=qPF h;have hnl:(lY S).length=S.length:=by simp [lY]
 have hsl:(xE S).length=S.length:=by simp [xE]
 have hni:∀x,x∈lY S->inI x:=fun x hx=>by
  obtain⟨v,hv,rfl⟩:=gi.1 hx;exact(h v hv).2.1
 unfold bY at hk;by_cases k1:k=1
 ·rw[qbE k1,gQ,if_neg om,if_neg om,if_neg om]
  have:=JV (s:=plL t S) S 0 [] h (ki _) rfl;simpa using this
 ·by_cases k3:k=3
  ·have ht:t=3:=by
     refine Decidable.not_not.1 fun q=>?_
     rw[if_neg q]at hk;simp [k3]at hk
   have hd:=qBX (x:=xE S) om (fun w hw=>by
    obtain⟨v,hv,rfl⟩:=gi.1 hw;have:=((h v hv).2.2.1 ht).2;omega)
   rw[hsl]at hd;rw[qWT k3,gQ,if_neg om,if_pos k3,hd];show((xE S).map sV,decide ((0:Int)=0))=_;rw[hb.1 ht];rfl
  ·have ht:¬t=3:=fun q=>by
     rw[if_pos q]at hk;simp [k1,k3]at hk
   by_cases k4:k=4
   ·have hd:=WF (l:=lY S) om hni
    rw[hnl]at hd;rw[qF1 k4,gQ,if_neg om,if_neg om,if_pos k4,hd];show((lY S).map nV,decide ((0:Int)=0))=_;rw[hb.2 ht];rfl
   ·have k2:k=2:=by
      rw[if_neg ht]at hk;simpa [k1,k4]using hk
    have hd:=qDC (l:=lY S) om hni;rw[hnl]at hd;rw[qF0 k1 k3 k4,gQ,if_pos k2,hd];show((lY S).map nV,decide ((0:Int)=0))=_;rw[hb.2 ht];rfl
theorem IF:∀l:List Val,mF (cL l)=(bC l).length
 | []=>rfl
 |v::l=>by
  show(if v.1=true then 0 else 1)+mF (cL l)=_;rw[IF l];unfold bC;by_cases hn:v.1=true
  ·rw[if_pos hn,ko (by simp [hn])];omega
  ·rw[if_neg hn,kp (by simp [hn]),ge];omega
theorem qJN {c:Col} {k:Int} {l:List Val} (hk:bY c.2.1 k=true) (hl:l.length<=4096) (hv:∀v,v∈l->aZ c v=0/\okV v):rH c (bZ c.2.1 k l)=(l,true):=by
 have hkr:=KX hk;have hat:=qJT (t:=c.2.1) (k:=k) om l;have hat:aG (bZ c.2.1 k l) (0:Int).toNat=k:=hat;have hsl:=kD l;have hfit:∀v,v∈bC l->qKE c.2.1 v:=fun v hv2=>by
  have h1:=List.mem_filter.1 hv2;exact qJR (hv v h1.1).1 (by simpa using h1.2) (hv v h1.1).2
 have hhead:aE (oM k l)= [k]++(put l.length++put ((l.length:Int)-(bC l).length)):=by
  unfold oM;rw[bG,bG,bD (fun b hb=>by rw[gy.1 hb];exact nJ k),bD (gE ⟨om,om⟩),bD (gE ⟨om,om⟩),KW om,gf]
 have hus:bY c.2.1 (aG (bZ c.2.1 k l) (0:Int).toNat)=true:=by rw[hat];exact hk
 have hrr:=qLG hk (Nat.le_trans hsl hl) hfit;have hasm:=BC (c:=c) l [] (fun v hx=>(hv v hx).1);by_cases hm:(bC l).length<l.length
 ·have hB:aE (bZ c.2.1 k l)=k::(put l.length++(put ((l.length:Int)-(bC l).length)++(aE (jS (cL l))++aE (gQ c.2.1 k (bC l))))):=by
    rw[IE hm,bG,bG,hhead];simp
  have d1:(aE (bZ c.2.1 k l)).drop 1=put l.length++(put ((l.length:Int)-(bC l).length)++(aE (jS (cL l))++aE (gQ c.2.1 k (bC l)))):=by rw[hB];rfl
  obtain⟨g1,g2,g3⟩:=sZ (u:=(l.length:Int)) ⟨om,om⟩ d1;obtain⟨k1,k2,k3⟩:=sZ (u:=(l.length:Int)-(bC l).length) ⟨om,om⟩ g2;have g1:aA (bZ c.2.1 k l) 1=((l.length:Int),((1+(put (l.length:Int)).length:Nat):Int),0):=g1;have e1:(aA (bZ c.2.1 k l) 1).2.1=((1+(put (l.length:Int)).length:Nat):Int):=by rw[g1]
  have e2:aA (bZ c.2.1 k l) (aA (bZ c.2.1 k l) 1).2.1=((l.length:Int)-(bC l).length,((1+(put (l.length:Int)).length+(put ((l.length:Int)-(bC l).length)).length:Nat):Int),0):=by rw[e1,k1]
  generalize hA:1+(put (l.length:Int)).length+(put ((l.length:Int)-(bC l).length)).length=A at e2 k2 k3;have hnl:(cL l).length=l.length:=by simp [cL]
  have hz:=PK (N:=cL l) om;have hun:=qPZ (N:=cL l) om;have hkl:=congrArg List.length k2;simp only[gk,gh,aR]at hkl;have ht:=mA (n:=(l.length:Int)+7) om;have hx:(bZ c.2.1 k l).extract ((A:Int)).toNat ((A:Int)+((l.length:Int)+7).tdiv 8).toNat=jS (cL l):=by
   apply hU;rw[oX,show((A:Int)).toNat=A by omega,k2,show((A:Int)+((l.length:Int)+7).tdiv 8).toNat-A=(aE (jS (cL l))).length by rw[aR];omega,kt]
  have hcn:rK (jS (cL l))=(l.length:Int)-(bC l).length:=by
   have h1:=(qIW (s:=jS (cL l)) (n:=((cL l).length:Int)) (by rw[hun])).2.2.2;rw[hun]at h1;have h2:=IF l;have h1:((mF (cL l):Nat):Int)+rK (jS (cL l))=((cL l).length:Int):=h1;omega
  rw[hnl]at hun;have eN:gC (bZ c.2.1 k l) (A:Int) (l.length:Int) ((l.length:Int)-(bC l).length)=(cL l,true,(A:Int)+((l.length:Int)+7).tdiv 8):=by
   rw[tQ om om (by rw[hx,hun]) (by rw[hx,hcn]),hx,hun]
  have hp:=EX (c:=c) hus (by rw[g1]) (by rw[g1];show(l.length:Int)<=4096;omega) (by rw[e2]) (by rw[e2,g1];show(l.length:Int)-(bC l).length<=(l.length:Int);omega);rw[hp,e2,g1];show GL c _ (l.length:Int) ((l.length:Int)-(bC l).length) (gC (bZ c.2.1 k l) (A:Int) (l.length:Int) ((l.length:Int)-(bC l).length))=_;have hpay:(bZ c.2.1 k l).extract ((A:Int)+((l.length:Int)+7).tdiv 8).toNat (bZ c.2.1 k l).size=gQ c.2.1 k (bC l):=by
   apply hU;rw[IM,show((A:Int)+((l.length:Int)+7).tdiv 8).toNat=A+(aE (jS (cL l))).length by rw[aR];omega,<-he,k2,gr]
  have hr:gJ c.2.1 (aG (bZ c.2.1 k l) (0:Int).toNat) ((bZ c.2.1 k l).extract ((A:Int)+((l.length:Int)+7).tdiv 8).toNat (bZ c.2.1 k l).size) ((l.length:Int)-((l.length:Int)-(bC l).length))=(bC l,true):=by
   rw[hat,hpay,show(l.length:Int)-((l.length:Int)-(bC l).length)=((bC l).length:Int)by omega,hrr]
  rw[eN,GM (by rw[hr]),hr,hasm];rfl
 ·have hB:aE (bZ c.2.1 k l)=k::(put l.length++(put ((l.length:Int)-(bC l).length)++aE (gQ c.2.1 k (bC l)))):=by
    rw[ID hm,bG,hhead];simp
  have d1:(aE (bZ c.2.1 k l)).drop 1=put l.length++(put ((l.length:Int)-(bC l).length)++aE (gQ c.2.1 k (bC l))):=by rw[hB];rfl
  obtain⟨g1,g2,g3⟩:=sZ (u:=(l.length:Int)) ⟨om,om⟩ d1;obtain⟨k1,k2,k3⟩:=sZ (u:=(l.length:Int)-(bC l).length) ⟨om,om⟩ g2;have g1:aA (bZ c.2.1 k l) 1=((l.length:Int),((1+(put (l.length:Int)).length:Nat):Int),0):=g1;have e1:(aA (bZ c.2.1 k l) 1).2.1=((1+(put (l.length:Int)).length:Nat):Int):=by rw[g1]
  have e2:aA (bZ c.2.1 k l) (aA (bZ c.2.1 k l) 1).2.1=((l.length:Int)-(bC l).length,((1+(put (l.length:Int)).length+(put ((l.length:Int)-(bC l).length)).length:Nat):Int),0):=by rw[e1,k1]
  generalize hA:1+(put (l.length:Int)).length+(put ((l.length:Int)-(bC l).length)).length=A at e2 k2 k3;have hnf:cL l=kv l.length false:=by
   refine List.eq_replicate_iff.2 ⟨by simp [cL],fun b hb=>?_⟩;obtain⟨v,hvm,rfl⟩:=gi.1 hb;have hlen0:(bC l).length=l.length:=om
   have hlen:(l.filter fun v=>!v.1).length=l.length:=hlen0;have h1:bC l=l:=List.filter_eq_self.2 (List.length_filter_eq_length_iff.1 hlen);have h2:=(List.mem_filter.1 (show v∈bC l by rw[h1];exact hvm)).2;simpa using h2
  have eN:gC (bZ c.2.1 k l) (A:Int) (l.length:Int) ((l.length:Int)-(bC l).length)=(cL l,true,(A:Int)):=by
   rw[xA om,hnf,show((l.length:Int)).toNat=l.length by omega]
  have hp:=EX (c:=c) hus (by rw[g1]) (by rw[g1];show(l.length:Int)<=4096;omega) (by rw[e2]) (by rw[e2,g1];show(l.length:Int)-(bC l).length<=(l.length:Int);omega);rw[hp,e2,g1];show GL c _ (l.length:Int) ((l.length:Int)-(bC l).length) (gC (bZ c.2.1 k l) (A:Int) (l.length:Int) ((l.length:Int)-(bC l).length))=_;have hpay:(bZ c.2.1 k l).extract ((A:Int)).toNat (bZ c.2.1 k l).size=gQ c.2.1 k (bC l):=by
   apply hU;rw[IM,show((A:Int)).toNat=A by omega,k2]
  have hr:gJ c.2.1 (aG (bZ c.2.1 k l) (0:Int).toNat) ((bZ c.2.1 k l).extract ((A:Int)).toNat (bZ c.2.1 k l).size) ((l.length:Int)-((l.length:Int)-(bC l).length))=(bC l,true):=by
   rw[hat,hpay,show(l.length:Int)-((l.length:Int)-(bC l).length)=((bC l).length:Int)by omega,hrr]
  rw[eN,GM (by rw[hr]),hr,hasm];rfl
theorem qJ3 {c:Col} {k:Int} {l:List Val} (hc:bJ c.2.1=true) (hk:bY c.2.1 k=true) (hl:l.length<=4096) (hv:∀v,v∈l->aZ c v=0/\okV v):rL c (dX c.2.1 k l)=(l,0):=by
 have hs:=(DO (t:=c.2.1) (k:=k) (fun v hx=>(hv v hx).2) hl).2;obtain⟨h1,h2⟩:=qKZ hs;have hb:=qJN hk hl hv;rw[dX,qN7 hc h1 (by rw[h2,hb]),h2,hb]
def qWB (c:Col) (k:Int) (z:Int×Val×Val):Prop:=(0<=z.1/\z.1<=k)/\(z.1>0->c.2.2.2=true)/\(z.1=k->z.2.1=fC/\z.2.2=fC) /\
 (z.1<k->z.2.1.1=false/\z.2.2.1=false/\aZ c z.2.1=0/\aZ c z.2.2=0/\(aY c.2.1 z.2.1 z.2.2<0/\k-z.1>1\/aY c.2.1 z.2.1 z.2.2=0))
theorem IA {c:Col} {v:Val} (h:aZ c v=0) (hn:v.1=true):c.2.2.2=true:=by
 cases q:c.2.2.2 with
 |true=>rfl
 |false=>
  unfold aZ at h;rw[hn,q]at h;repeat' split at h
  all_goals first|(cases h;done)|(simp_all;done)
theorem DM {c:Col} {v:Val} (h:aZ c v=0):bJ c.2.1=true:=by
 cases q:bJ c.2.1 with
 |true=>rfl
 |false=>unfold aZ at h;rw[if_pos q]at h;cases h
theorem qMF {c:Col} {k:Int} {z:Int×Val×Val} {v:Val} (h:qWB c k z) (hv:aZ c v=0):qWB c (k+1) (vE c.2.1 z v):=by
 obtain⟨h1,h2,h3,h4⟩:=h;obtain⟨n,a,b⟩:=z;(try simp only at h1 h2 h3 h4);by_cases q:v.1=true
 ·rw[vE,if_pos q]
  refine⟨⟨by simp only;omega,by simp only;omega⟩,fun _=>IA hv q,fun e=>h3 (by simp only at e;omega),fun e=>?_⟩;(try simp only at e);obtain⟨p1,p2,p3,p4,p5⟩:=h4 om;refine⟨p1,p2,p3,p4,?_⟩;rcases p5 with⟨e1,e2⟩|e1
  ·exact .inl ⟨e1,by simp only;omega⟩
  ·exact .inr e1
 ·have q:v.1=false:=by simpa using q
  rw[UF q];refine⟨⟨h1.1,by simp only;omega⟩,h2,fun e=>absurd e (by simp only;omega),fun _=>?_⟩;simp only;rcases ub h1.2 with g|g
  ·obtain⟨p1,p2,p3,p4,p5⟩:=h4 g
   have hab:aY c.2.1 a b<=0:=by rcases p5 with⟨e,_⟩|e<;>omega
   have ea:oF c.2.1 (-1) a v=if aY c.2.1 v a = -1 then v else a:=by
    rw[oF,if_neg (fun e=>by rw[p1]at e;cases e.1),if_neg (by rw[p1];exact gu),if_neg (by rw[q];exact gu)]
   have eb:oF c.2.1 1 b v=if aY c.2.1 v b=1 then v else b:=by
    rw[oF,if_neg (fun e=>by rw[p2]at e;cases e.1),if_neg (by rw[p2];exact gu),if_neg (by rw[q];exact gu)]
   rw[ea,eb];have key:∀x y:Val,aY c.2.1 x y<=0->(aY c.2.1 x y<0/\k+1-n>1\/aY c.2.1 x y=0):=fun x y e=>by
    rcases ub e with e|e
    ·exact .inl ⟨e,om⟩
    ·exact .inr e
   by_cases u:aY c.2.1 v a = -1
   ·rw[if_pos u]
    by_cases w:aY c.2.1 v b=1
    ·rw[if_pos w];exact⟨q,q,hv,hv,.inr (UC _ _)⟩
    ·rw[if_neg w]
     refine⟨q,p2,hv,p4,key _ _ ?_⟩;have:=qDR c.2.1 v b;omega
   ·rw[if_neg u]
    by_cases w:aY c.2.1 v b=1
    ·rw[if_pos w]
     refine⟨p1,q,p3,hv,key _ _ ?_⟩;have:=qDR c.2.1 a v;have h5:¬aY c.2.1 a v>0:=fun e=>by
      have:=qXP.1 e;have:=qDR c.2.1 v a;omega
     omega
    ·rw[if_neg w];exact⟨p1,p2,p3,p4,key _ _ hab⟩
  ·obtain⟨p1,p2⟩:=h3 g
   subst p1 p2;have ea:∀t,oF c.2.1 t fC v=v:=fun t=>by
    rw[oF,if_neg (fun e=>by rw[q]at e;cases e.2),if_pos rfl]
   rw[ea,ea];exact⟨q,q,hv,hv,.inr (UC _ _)⟩
theorem qA2 {c:Col}:∀(l:List Val) (k:Int) (z:Int×Val×Val),qWB c k z->(∀v,v∈l->aZ c v=0)->qWB c (k+l.length) (zGo c.2.1 l z)
 | [],k,z,h,_=>by rw[gl,Int.natCast_zero,Int.add_zero];exact h
 |v::l,k,z,h,hv=>by
  have:=qA2 l (k+1) (vE c.2.1 z v) (qMF h (hv v (gp ..))) fun x hx=>hv x (gg _ hx)
  rw[ge,show k+((l.length+1:Nat):Int)=k+1+l.length by omega];exact this
theorem qWG {c:Col} {l:List Val} (h0:l≠ []) (hl:l.length<=4096) (hv:∀v,v∈l->aZ c v=0):lU c (qO c.2.1 l)=true:=by
 have hk:bJ c.2.1=true:=by
  cases l with
  |nil=>exact absurd rfl h0
  |cons v l=>exact DM (hv v (gp ..))
 have h:=qA2 (c:=c) l 0 (0,fC,fC) ⟨⟨kj _,kj _⟩,fun e=>absurd e dc,fun _=>⟨rfl,rfl⟩,fun e=>absurd e dc⟩ hv;rw[Int.zero_add]at h;obtain⟨h1,h2,h3,h4⟩:=h;unfold lU qO;simp only;rw[if_neg]
 ·by_cases q:(zGo c.2.1 l (0,fC,fC)).1=l.length
  ·rw[if_pos q,(h3 q).1,(h3 q).2];rfl
  ·obtain⟨p1,p2,p3,p4,p5⟩:=h4 om
   rw[if_neg q,if_neg]
   ·rcases p5 with⟨e1,e2⟩|e1
    ·rw[decide_eq_true e1,decide_eq_true e2];rfl
    ·rw[decide_eq_true e1,Bool.or_true]
   ·rw[p1,p2]
    rintro(e|e|e|e)
    ·cases e
    ·cases e
    ·exact e p3
    ·exact e p4
 ·rw[hk]
  rintro(e|e|e|e|⟨e,e2⟩)
  ·cases e
  ·omega
  ·omega
  ·omega
  ·rw[h2 e]at e2;cases e2
theorem qUC {s:Schema} {l:List Rec} (hs:dN s l=true) (hi:AZ l) (hl:l.length<=1024) (h0:l.length≠0):Made s l:=by
 have hv:=cW hs;refine⟨(dR hv).1,om,?_,?_,kZ hv hi om,kZ hv hi om,?_⟩
 ·intro c hc
  obtain⟨i,hr,rfl⟩:=gi.1 hc;rw[kg]at hr;rcases uc i s.1.length with q|q
  ·rw[RW q];exact yZ (by rw[gN];omega) fun v h=>eO (qM hv hi q v h).1 (qM hv hi q v h).2
  ·have:i=s.1.length:=om
   subst this;rw[IB];exact yZ (by simp [kB];omega) fun v h=>eO (uZ hv v h).1 (uZ hv v h).2
 ·intro i q
  refine⟨CL (by rw[gN];omega) fun v h=>FH (qM hv hi q v h),qWG (fun e=>h0 ?_) (by rw[gN];omega) fun v h=>(qM hv hi q v h).1⟩;have:=gN l i;rw[e]at this;exact this.symm
 ·have ha:ER s l=true:=by
    unfold dN at hs;exact(Bool.and_eq_true_iff.1 hs).2
  have:=YL ha (l.length-1) om;omega
theorem UW {t:Int} {l:List Val}:∀(n:Nat) (k:Int) (b:ByteArray),(∃j,bY t j=true/\b=dX t j l)->∃j,bY t j=true/\bst t l n k b=dX t j l
 |0,k,b,h=>h
 |n+1,k,b,h=>by
  refine UW n (k+1) _ ?_;split
  ·rename_i hu
   split
   ·exact⟨k,hu,rfl⟩
   ·exact h
  ·exact h
theorem qOH {c:Col} {l:List Val} (hc:bJ c.2.1=true) (hl:l.length<=4096) (hv:∀v,v∈l->aZ c v=0):∃j,bY c.2.1 j=true/\rQ c l=(dX c.2.1 j l,0):=by
 have ha:gF c l=0:=by
  induction l with
  |nil=>rfl
  |cons v l ih=>rw[gF,if_neg (fun q=>q (hv v (gp ..)))];exact ih (by rw[ge]at hl;omega) fun x hx=>hv x (gg _ hx)
 have hu:bY c.2.1 1=true:=by unfold bY;split<;>rfl
 obtain⟨j,h1,h2⟩:=UW (t:=c.2.1) (l:=l) 3 (1+1) (dX c.2.1 1 l) ⟨1,hu,rfl⟩;refine⟨j,h1,?_⟩;rw[rQ,if_neg (by rw[hc];exact gu),if_neg om,if_neg (fun q=>q ha),<-h2];refine Prod.ext ?_ rfl;show bst c.2.1 l 4 1 ⟨#[]⟩=_;rw[bst,if_pos hu,if_pos (.inl rfl)]
theorem WE {c:Col} {l:List Val} (hc:bJ c.2.1=true) (hl:l.length<=4096) (hv:∀v,v∈l->aZ c v=0/\okV v):rL c (rQ c l).1=(l,0):=by
 obtain⟨j,h1,h2⟩:=qOH hc hl fun v h=>(hv v h).1
 rw[h2];exact qJ3 hc h1 hl hv
theorem qVO {s:Schema} {l:List Rec} (hv:cO s l=true) (hl:l.length<=1024):rL CG (rQ CG (kB l)).1=(kB l,0):=
 WE rfl (by simp [kB];omega) fun v h=>⟨(uZ hv v h).1,eO (uZ hv v h).1 (uZ hv v h).2⟩
theorem qNJ {s:Schema} {l:List Rec} (hv:cO s l=true) (hi:AZ l) (h0:1<=l.length) (hl:l.length<=1024):∀i:Nat,i<s.1.length+1->rL (kX s i) (chnk s l i)=(mG s l i,0):=by
 intro i h;by_cases q:i=s.1.length
 ·subst q
  rw[IB,kX,if_pos rfl,mG,if_pos rfl];exact qVO hv hl
 ·have hi2:i<s.1.length:=om
  have ho:=qM hv hi hi2;have hL:=gN l i;rw[RW hi2,kX,if_neg om,mG,if_neg q,gm];refine WE ?_ om fun v hv2=>⟨(ho v hv2).1,eO (ho v hv2).1 (ho v hv2).2⟩
  have hne:jW l i≠ []:=fun e=>by rw[e]at hL;simp at hL;omega
  obtain⟨v,hv2⟩:=List.exists_mem_of_ne_nil _ hne;exact DM (ho v hv2).1
theorem qQ5 {s:Schema} {l:List Rec} (hs:dN s l=true) (hi:AZ l) (h0:¬l.length=0) (hl:l.length<=1024):lV s l=(eT s l,0)/\oO s (eT s l)=(l,0)/\(bE s (eT s l)).1=dV s l/\(bE s (eT s l)).2.2=0:=by
 have hv:=cW hs;have m:=qUC hs hi hl h0;refine⟨qY1 (dR hv).1 om h0 hs,qLC m hs (qNJ hv hi om hl),?_,?_⟩
 ·rw[pH m];rfl
 ·rw[pH m]
theorem OX:∀(n:Nat) (s:Src) (acc:List Col),(nQ n s acc).1.length=acc.length+n
 |0,s,acc=>rfl
 |n+1,s,acc=>by rw[nQ,OX n];simp;omega
theorem SX (l:List Int):1<=(aQ l).1.length/\(aQ l).1.length<=4:=by
 have h:=Src.pick_lt (s:=(l,0)) (n:=4) dc;have e:(aQ l).1.length=0+(1+Src.pick (l,0) 4).toNat:=OX _ _ [];omega
theorem qZ7 {s:Schema} {l:List Rec} (hv:cO s l=true):∀i:Nat,(l[i]!).2.length<=1099511627776:=by
 intro i;have hs:=bI (dR hv).1;by_cases h:i<l.length
 ·have:=FO hv h;omega
 ·rw[gj,List.getElem?_eq_none om];exact ki _
theorem qWF {s:Schema} {l:List Rec} (hs:1<=s.1.length/\s.1.length<=12) {k:Int} (h:0<=k/\k<s.1.length) :
  (dV s l).2.1[k.toNat]! =qO s.1[k.toNat]!.2.1 (@getElem! (List (List Val)) Nat (List Val) (fun xs i=>i<xs.length) _ (instInhabitedDen (.list bU)) (jX l (s.1.length:Int)) k.toNat):=by
 have hc:=lG (l:=l) (n:=(s.1.length:Int)) ⟨om,om⟩;have e:@getElem! (List (List Val)) Nat (List Val) (fun xs i=>i<xs.length) _ (instInhabitedDen (.list bU)) (jX l (s.1.length:Int)) k.toNat=jW l k.toNat:=hc.2 _ om;rw[e];show(dC s l (List.range s.1.length))[k.toNat]! =_;have hl:(dC s l (List.range s.1.length)).length=s.1.length:=vF;rw[getElem!_pos _ _ om];unfold dC;rw[List.getElem_map,ua]
abbrev qNI:Ct:=.fn [.list (.int .i64),.list (.int .i64)] (some (fun(x:List Int) (l:List Int)=>(x.length<=4611686018427387904)/\(l.length<=4611686018427387904)/\(∀v,v∈l->inI v))) (fun(x:List Int) (l:List Int)=>.d .bool true)
theorem qY3:aH Tryz.prog 10 qNI:=by
 refine aH.fn qRM mixed [] [] rfl rfl ?_;rintro⟨(x:List Int),(l:List Int),_⟩ hpre;replace hpre:=hpre _ rfl;dsimp only[cu]at hpre;obtain⟨hx,hl,hi⟩:=hpre;have hs:=XH x l 14 dc;have ei:AZ (eI (aQ x) l 14):=qO8 hi;have kl:=qKP (x:=aQ x) (l:=l) (n:=14) dc;have kc:=SX x;have fz:=qTI (s:=aQ x) ei;have hv:=cW hs;refine⟨[(0,24,LA.mk [.sl 73 (.int .i64)] (fun y=>Tag 79/\cu [.int .i64] (fun(k:Int)=>(0<=k/\k<=(aQ x).1.length)) y) (cu [.int .i64] (fun(k:Int)=>(((aQ x).1.length:Int)-k).toNat)) (cu [.int .i64] (fun(k:Int)=>([]:List (Nat×Nat×LA)))))],?_⟩;repeat' (first
  |(
 with_reducible refine Side.mk ⟨(⟨⟩:Tag 79),?_⟩
 dsimp only[cu,aC,aB,gts,eE,eN]
 omega)
  |(
 with_reducible apply Side.mk
 (try dsimp only[cu,aC,aB,gts,loK,hiK,eE,eN])
 first
 |done
 |with_reducible rfl
 |omega
 |exact Eq.refl _
 |simp only[gh,ge,gl];omega
 |exact⟨om,om,dc⟩
 |exact⟨om,ei⟩
 |(
  obtain⟨q1,q2,q3,q4⟩:=qQ5 hs ei om om;have e1:(lV (aQ x) (eI (aQ x) l 14)).1=eT (aQ x) (eI (aQ x) l 14):=by rw[q1]
  have E3:oO (aQ x) (lV (aQ x) (eI (aQ x) l 14)).1=((eI (aQ x) l 14),0):=by rw[e1];exact q2
  have E4:(bE (aQ x) (lV (aQ x) (eI (aQ x) l 14)).1).1=dV (aQ x) (eI (aQ x) l 14):=by rw[e1];exact q3
  first
  |(
   have zl:(dV (aQ x) (eI (aQ x) l 14)).2.1.length=(aQ x).1.length:=vF;have cl:=(lG (l:=(eI (aQ x) l 14)) (n:=((aQ x).1.length:Int)) ⟨om,om⟩).1;(try rw[E4]);omega)
  |(
   simp only[E3];exact⟨om,qZ7 hv⟩))
 |(
  have cl:=(lG (l:=(eI (aQ x) l 14)) (n:=((aQ x).1.length:Int)) ⟨om,om⟩).2 k.toNat om;show(jX (eI (aQ x) l 14) ((aQ x).1.length:Int))[k.toNat]!.length<=_;rw[cl,gN];omega)
 |(kernel_rfl))
  |(conv=>whnf
    first
     |with_reducible first|done|exact trivial|refine NilBr.mk (fun h=>?_) ?_|apply aL|apply aK|refine aM kr ?_|apply aN|apply bL|apply bK|apply aU
     |((with_reducible first|apply aW|apply aV|apply bH)<;>intro h<;>(try dsimp only[cu,eE,eN]at h)<;>(try(exfalso;omega)))
     |(
 intro yy (hy:Tag 79/\_)
 obtain⟨(k:Int),_⟩:=yy
 replace hy:=hy.2
 dsimp only[cu,aC,aB,gts,eE,eN]at hy
 have hk:=hy)))
 all_goals(
 with_reducible apply Leaf.mk
 (try dsimp only[cu,aC,aB,gts,eE,eN]at *)
 first
 |done
 |rfl
 |(
  rw[qY0 (dR hv).1 om (.inl om)];rfl)
 |(
  obtain⟨q1,q2,q3,q4⟩:=qQ5 hs ei om om;have e1:(lV (aQ x) (eI (aQ x) l 14)).1=eT (aQ x) (eI (aQ x) l 14):=by rw[q1]
  have E3:oO (aQ x) (lV (aQ x) (eI (aQ x) l 14)).1=((eI (aQ x) l 14),0):=by rw[e1];exact q2
  have E4:(bE (aQ x) (lV (aQ x) (eI (aQ x) l 14)).1).1=dV (aQ x) (eI (aQ x) l 14):=by rw[e1];exact q3
  first
  |exact absurd (show(lV (aQ x) (eI (aQ x) l 14)).2=0 from by rw[q1]) wa
  |exact absurd (show(oO (aQ x) (lV (aQ x) (eI (aQ x) l 14)).1).2=0 from by rw[E3]) wa
  |exact absurd (show(oO (aQ x) (lV (aQ x) (eI (aQ x) l 14)).1).1=(eI (aQ x) l 14)from by rw[E3]) wa
  |exact absurd (show(bE (aQ x) (lV (aQ x) (eI (aQ x) l 14)).1).2.2=0 from by rw[e1];exact q4) wa
  |exact absurd (show(bE (aQ x) (lV (aQ x) (eI (aQ x) l 14)).1).1.1=((eI (aQ x) l 14).length:Int)from by rw[E4];rfl) wa
  |exact absurd (show((bE (aQ x) (lV (aQ x) (eI (aQ x) l 14)).1).1.2.1.length:Int)=(aQ x).1.length from by rw[E4];exact congrArg Int.ofNat vF) wa
  |(
   have tn:(((eI (aQ x) l 14).length:Int)-1).toNat=(eI (aQ x) l 14).length-1:=om
   rw[E4,tn];simp [dV];done)
  |(
   rw[E4]at h;simp [dV]at h;done)
  |(
   rw[E4,qWF ⟨om,om⟩ ⟨om,om⟩]at h;simp at h;done)))
end Go.Proofs.YtcjiefknhfhmkaaGreatDoor
namespace Go.Abs
set_option maxRecDepth 100000
set_option maxHeartbeats 4000000
set_option linter.unusedVariables false
set_option linter.unusedSimpArgs false
open Go.RowKit
def ι0:Iota:={at':=fun _=>none,X:=fun _=>False}
theorem qaX (w:World):HRel [] ι0 w:=
 ⟨fun id o h=>by simp at h,fun id h=>by simp at h,fun id _=>rfl,fun id o l id' o' l' h=>by simp at h,fun b h=>h.elim,fun b h=>h.elim⟩
theorem mt0 (b:Nat):¬Mt [] ι0 b:=by
 rintro(h|⟨id,o,l,h,_⟩)
 ·exact h
 ·simp at h
def yC (w:World) (x:V) (y:Value):Prop:=Rep w ι0 (Mt [] ι0) x y
def FR (w:World):List V->List Value->Prop
 | [],[]=>True
 |x::xs,y::ys=>yC w x y/\FR w xs ys
 |_,_=>False
theorem EF:∀ {w:World} {xs:List V} {ys:List Value},FR w xs ys->PW2 w ι0 (Mt [] ι0) xs ys.toArray
 |w,[],[],_=>⟨rfl,fun k x h=>by simp at h⟩
 |w,x::xs,y::ys,h=>by
  have ih:=EF h.2;refine⟨by simpa using ih.1,fun k z hz=>?_⟩;cases k with
  |zero=>simp at hz;subst hz;exact⟨y,sm,h.1⟩
  |succ k=>
   obtain⟨u,u1,u2⟩:=ih.2 k z (by simpa using hz);exact⟨u,by simpa using u1,u2⟩
 |w,[],_::_,h=>h.elim
 |w,_::_,[],h=>h.elim
theorem qDS {P:Program} {f:FuncId} {args:List V} {vals:List Value} {w:World} (hr:FR w args vals) (hc:PC P f args [] (fun y _=>y = .v (.bool true))) :
  Calls P f vals.toArray w fun e w'=>e = .returned (.bool true)/\Below w.heap.size w w':=by
 refine(hc ι0 w _ (EF hr) (qaX w)).mono ?_;rintro e w' ⟨y,x,h',ι',rfl,rfl,ry,_,ev⟩;cases ry;refine⟨rfl,ev.os,ev.tape,ev.output,ev.size,fun k hk=>(ev.frame k hk ?_).1⟩;rintro⟨id,o,l,h,_⟩;simp at h
theorem OA {w:World} {a:Addr} {v:Value} (h:w.cell? a=some v):a.spot=none/\a.block<w.heap.size:=by
 unfold World.cell? at h;split at h
 ·rename_i c el fr hb
  refine⟨?_,?_⟩
  ·by_cases q:a.spot.isSome=true
   ·rw[if_pos q]at h;cases h
   ·simpa using q
  ·rcases uc a.block w.heap.size with q|q
   ·exact q
   ·rw[Array.getElem?_eq_none q]at hb;cases hb
 ·cases h
def ints (k:IntKind) (l:List Int):V:=.sF 1 (l.map fun n=>[.v (.int k n)])
theorem PY (w:World) (k:IntKind):yC w (ints k []) (.slice none 0 0):=Rep.sN 1
theorem KD {w:World} {k:IntKind} {x:Addr} {len cap:Nat} {zs:List Int} (hl:len<=cap) (hz:zs.length=cap) (hc:∀i,i<zs.length->w.cell? (x.add i)=some (.int k (zs.getD i 0))) :
  yC w (ints k (zs.take len)) (.slice (some x) len cap):=by
 have hlen:((zs.take len).map fun n=>[V.v (.int k n)]).length=len:=by simp;omega
 have:=Rep.sF_mk (w:=w) (ι:=ι0) (M:=Mt [] ι0) (sz:=1) (rows:=(zs.take len).map fun n=>[V.v (.int k n)]) x cap ?_ om (fun r hr=>by obtain⟨n,_,rfl⟩:=gi.1 hr;rfl) ?_
 ·rw[hlen]at this;exact this
 ·intro hne
  have h0:0<zs.length:=by
   rcases Nat.eq_zero_or_pos zs.length with q|q
   ·exfalso;apply hne;rw[List.eq_nil_of_length_eq_zero q];simp
   ·exact q
  have:=OA (hc 0 h0);unfold Addr.add at this;simp at this;exact⟨this.1,this.2,mt0 _⟩
 ·intro i j r y hi hj
  rw[List.getElem?_map]at hi;cases hq:(zs.take len)[i]? with
  |none=>rw[hq]at hi;simp at hi
  |some n=>
   rw[hq]at hi;simp at hi;subst hi;have hj0:j=0:=by have:=aI hj;simp at this;exact this
   subst hj0;simp at hj;subst hj;rw[ky]at hq;split at hq
   ·have hlt:=aI hq
    refine⟨.int k n,?_,.v _⟩;have hcell:=hc i hlt;have hsp:=(OA (hc 0 om)).1;have hsp0:x.spot=none:=by unfold Addr.add at hsp;simpa using hsp
    have e:x.add i=⟨x.block,x.off+i*1+0,none⟩:=by
     obtain⟨b,o,sp⟩:=x;simp only at hsp0;subst hsp0;rw[oA];simp
    rw[<-e,hcell];rw[kk hlt]at hq;injection hq with hq;simp [List.getD,kk hlt,hq]
   ·cases hq
end Go.Abs
