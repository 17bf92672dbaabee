import Derived.Below
import Derived.Test.YtcjiefknhfhmkaaGreatDoorM11
namespace Go.Proofs.YtcjiefknhfhmkaaGreatDoor
open Go.Abs
set_option maxRecDepth 100000
set_option maxHeartbeats 4000000
set_option linter.unusedVariables false
set_option linter.unusedSimpArgs false
theorem qUC:∀(f x:Nat),x<2^f->x<2^Lib.bitLenAux f x
 |0,x,h=>by simpa [Lib.bitLenAux]using h
 |f+1,x,h=>by
  rw[Lib.bitLenAux];split
  ·rename_i q;subst q;simp
  ·have:=qUC f (x/2) (by rw[Nat.pow_succ]at h;omega)
   rw[Nat.add_comm,Nat.pow_succ];omega
theorem qC5 {v:Int} (h:0<=v/\v<18446744073709551616):v<2^(gS v).toNat:=by
 have h1:=qUC 64 v.toNat (by have:(2:Nat)^64=18446744073709551616:=by decide
                             omega)
 unfold gS Lib.bitLen;rw[Int.toNat_natCast,<-dC];omega
theorem qAO {v:Int} {w:Nat} (hw:w<=64) (h:0<=v/\v<2^w):gS v<=w:=by
 have:=dC w;have:=Lib.bitLen_le v.toNat w hw (by omega);unfold gS;omega
theorem JW {l:List Int} (h:∀b,b∈l->0<=b/\b<256) (k:Nat):aG (aV l) k=l[k]!:=by
 rw[<-gJ,aU h]
theorem qRV {f:Nat->Int} (hf:tF f) (m n:Nat):∀b,b∈gL f m 8 n->0<=b/\b<256:=by
 intro b hb;obtain⟨i,_,rfl⟩:=List.mem_map.1 hb;have:=NF hf m 8 i 8;simpa using this
theorem CC {f:Nat->Int} (hf:tF f) {m n q:Nat} (h:q<8*n):sbit (aV (gL f m 8 n)) q=if q<m then f q else 0:=by
 unfold sbit;rw[JW (qRV hf m n),QS (by omega),qMW hf (Nat.mod_lt _ (by decide))];rw[show q/8*8+q%8=q by omega]
theorem qIY {n w:Nat} (hn:n<=4096) (hw:w<=64):dP (n:Int) (w:Int)=(((n*w+7)/8:Nat):Int):=by
 obtain⟨h1,h2⟩:=kE (n:=(n:Int)) (w:=(w:Int)) ⟨⟨by omega,by omega⟩,by omega,by omega⟩;rw[h1];push_cast;rfl
theorem EE {u:List Int} {w:Nat} (hn:u.length<=4096) (hw:w<=64) (h:∀v,v∈u->0<=v/\v<2^w):bK (eQ u w).1 u.length w=(u,0):=by
 have hnd:=qIY hn hw;have hwide:¬pP u w=true:=by
  rw[qG6]
  ·decide
  ·intro j hj
   exact qAO hw (h _ (by rw[getElem!_pos u j hj];exact List.getElem_mem hj))
 have hp:(eQ u w).1=aV (gL (vbit u w) (u.length*w) 8 ((u.length*w+7)/8)):=by
  unfold eQ;rw[if_neg (by omega),if_neg (by omega),if_neg hwide,hnd];simp only[Int.toNat_natCast];rw[show((u.length:Int)*(w:Int)).toNat=u.length*w by rw[<-Int.natCast_mul,Int.toNat_natCast]]
 have hsz:(eQ u w).1.size=(u.length*w+7)/8:=by rw[hp,cC,iW]
 have hperm:¬¬qA (u.length:Int) (w:Int)=true:=fun q=>q ((fA _ _).2 (by omega))
 have hm:((u.length:Int)*(w:Int)).toNat=u.length*w:=by rw[<-Int.natCast_mul,Int.toNat_natCast]
 have htail:¬iQ (eQ u w).1 ((u.length:Int)*(w:Int)).toNat=true:=by
  rw[hm];refine qEE fun q h1 h2=>?_
  rw[hsz]at h2;rw[hp,CC (qBR u w) h2,if_neg (by omega)];decide
 rw[bK,if_neg hperm,if_neg (by rw[hsz,hnd];omega),if_neg (by rw[hsz,hnd];omega),if_neg htail,hm];congr 1
 apply List.ext_getElem
 ·rw[iW];simp
 ·intro i h1 h2
  have hi:i<u.length:=by rw[iW]at h1;simpa using h1
  have e1:(gL (sbit (eQ u w).1) (u.length*w) (w:Int).toNat (u.length:Int).toNat)[i]=gs (sbit (eQ u w).1) (u.length*w) w i w:=by
   simp [gL]
  rw[e1];have hu:=h u[i] (List.getElem_mem hi);have hle:i*w+w<=u.length*w:=by
   have:=Nat.mul_le_mul_right w (show i+1<=u.length by omega);rw[Nat.add_mul,Nat.one_mul]at this;exact this
  rw[qCR hu.1 w (fun t ht=>⟨by omega,?_⟩),Int.emod_eq_of_lt hu.1 hu.2];rw[hp,CC (qBR u w) (by omega),if_pos (by omega)];obtain⟨q1,q2⟩:=xA (i:=i) (w:=w) (t:=t) (m:=i*w+t) ht rfl;unfold vbit;rw[<-q1,<-q2,getElem!_pos u i hi]
def lM (t:List ByteArray):List Int:=t.flatMap fun w=>put (w.size:Int)++aE w
theorem HU:∀(W:List ByteArray) (s:ByteArray),(∀w,w∈W->w.size<18446744073709551616)->aE (sR s W)=aE s++lM W
 | [],s,_=>by simp [sR,lM]
 |w::W,s,h=>by
  have hw:=h w (by simp);show aE (sR (s++(aV (put (w.size:Int))++w)) W)=_;rw[HU W _ (fun v hv=>h v (by simp [hv])),aX,aX,aU (eI ⟨by omega,by omega⟩)];simp [lM]
theorem nY (s:ByteArray) (a b:Nat):aE (s.extract a b)=((aE s).drop a).take (b-a):=by
 unfold aE;simp [List.map_take,List.map_drop,List.take_drop]
theorem qTF {a b:ByteArray} (h:dY b a=true):¬sLe a b=true:=by
 unfold sLe;have h1:=WJ h;have h2:¬a=b:=fun q=>pA b (by rw[q]at h;exact h)
 simp [h1,h2]
theorem qK8 {M:List ByteArray} {w:ByteArray} {t:List ByteArray} (h:xS (M++w::t)):¬(0<M.length/\sLe w M[M.length-1]! =true):=by
 rintro⟨h0,h1⟩;refine qTF ?_ h1;unfold xS at h;rw[List.pairwise_append]at h;refine h.2.2 _ ?_ w (by simp);rw[getElem!_pos M (M.length-1) (by omega)];exact List.getElem_mem _
theorem qG7 {s:ByteArray} {a:Nat} {w:ByteArray} {r:List Int} (hw:w.size<18446744073709551616) (h:(aE s).drop a=put (w.size:Int)++(aE w++r)) :
  aA s a=((w.size:Int),(a:Int)+(put (w.size:Int)).length,0)/\¬(w.size:Int)>s.size-((a:Int)+(put (w.size:Int)).length)/\EN s a=w/\(aE s).drop (a+(put (w.size:Int)).length+w.size)=r:=by
 have hg:=mM (s:=s) (a:=a) (u:=(w.size:Int)) ⟨by omega,by omega⟩ h;have hl:=congrArg List.length h;simp only[List.length_drop,List.length_append,aQ]at hl;have hp:=bM (w.size:Int);have d1:(aE s).drop (a+(put (w.size:Int)).length)=aE w++r:=by
  rw[<-List.drop_drop,h,List.drop_left]
 refine⟨hg,by omega,?_,?_⟩
 ·unfold EN
  rw[hg];simp only;apply fG;rw[nY,show((a:Int)+((put (w.size:Int)).length:Int)).toNat=a+(put (w.size:Int)).length by omega,show((a:Int)+((put (w.size:Int)).length:Int)+(w.size:Int)).toNat-(a+(put (w.size:Int)).length)=(aE w).length by rw[aQ];omega,d1,List.take_left]
 ·rw[<-List.drop_drop,d1,<-aQ w,List.drop_left]
theorem wT {s:ByteArray}:∀(t:List ByteArray) (a:Nat) (M:List ByteArray) (r:List Int),(aE s).drop a=lM t++r->xS (M++t)->(∀w,w∈t->w.size<18446744073709551616) ->
  bZ s t.length a M=(M++t,((a+(lM t).length:Nat):Int),0)/\(aE s).drop (a+(lM t).length)=r
 | [],a,M,r,h,_,_=>by
   rw[List.length_nil,bZ];simpa [lM]using h
 |w::t,a,M,r,h,hM,hsz=>by
  have e:lM (w::t)=put (w.size:Int)++aE w++lM t:=by simp [lM]
  obtain⟨g1,g2,g3,g4⟩:=qG7 (s:=s) (a:=a) (w:=w) (r:=lM t++r) (hsz w (by simp)) (by rw[h,e];simp);obtain⟨i1,i2⟩:=wT t (a+(put (w.size:Int)).length+w.size) (M++ [w]) r g4 (by simpa using hM) (fun v hv=>hsz v (by simp [hv]));have el:(lM (w::t)).length=(put (w.size:Int)).length+w.size+(lM t).length:=by rw[e];simp only[List.length_append,aQ]
  rw[List.length_cons,bZ,g1];simp only;rw[if_neg (by decide),if_neg g2,g3,if_neg (qK8 hM)];rw[show(a:Int)+((put (w.size:Int)).length:Int)+(w.size:Int)=((a+(put (w.size:Int)).length+w.size:Nat):Int)by push_cast;rfl,i1,el];have e5:a+((put (w.size:Int)).length+w.size+(lM t).length)=a+(put (w.size:Int)).length+w.size+(lM t).length:=by omega
  refine⟨?_,by rw[e5];exact i2⟩;rw[e5,List.append_assoc];rfl
theorem HR (s:ByteArray) (e:Nat):aE (s.extract e s.size)=(aE s).drop e:=by
 rw[nY,List.take_of_length_le (by simp [aQ])]
theorem qCZ:∀(l:List Bool) (k:Int),(∀b,b∈l->b=true)->BO l false k = -1
 | [],_,_=>rfl
 |b::l,k,h=>by
  rw[BO,if_neg (by rw[h b (by simp)];decide),qCZ l _ (fun c hc=>h c (by simp [hc]))]
theorem UU:∀(l:List Bool) (k:Int),0<=k->¬BO l false k>=0->∀b,b∈l->b=true
 | [],_,_,_,b,hb=>by simp at hb
 |c::l,k,hk,h,b,hb=>by
  rw[BO]at h;split at h
  ·exact absurd hk (by omega)
  ·rename_i q
   rcases List.mem_cons.1 hb with r|r
   ·subst r;cases b
    ·exact absurd rfl q
    ·rfl
   ·exact UU l (k+1) (by omega) h b r
theorem qJ3 {k:Nat} {u:List Int}:(¬UO (nT k u) false=true)↔ ∀j:Nat,j<k->(j:Int)∈u:=by
 unfold UO;rw[decide_eq_true_iff];constructor
 ·intro h j hj
  have:=UU _ 0 (by omega) h (u.any fun c=>decide (c=(j:Int))) (by
   unfold nT;rw[List.mem_map];exact⟨j,by simpa using hj,rfl⟩)
  rw[List.any_eq_true]at this;obtain⟨c,hc,hq⟩:=this;rw[decide_eq_true_iff]at hq;subst hq;exact hc
 ·intro h
  rw[qCZ]
  ·decide
  ·intro b hb
   unfold nT at hb;obtain⟨j,hj,rfl⟩:=List.mem_map.1 hb;rw[List.any_eq_true];exact⟨(j:Int),h j (by simpa using hj),by simp⟩
theorem qT0 (k:Nat):∃w:Nat,(k<=9223372036854775807->w<=64)/\wdN (k:Int)=w/\(k<=9223372036854775807->∀c:Int,0<=c->c<k->c<2^w):=by
 have h0:0<=wdN (k:Int):=by unfold wdN gS;omega
 refine⟨(wdN (k:Int)).toNat,fun h=>?_,by omega,fun h c h1 h2=>?_⟩
 ·have:=qG5 (k:Int) (by omega);omega
 ·have hm:cM ((k:Int)-1) 0=(k:Int)-1:=by unfold cM;split<;>omega
  have:=qC5 (v:=(k:Int)-1) (by omega);unfold wdN;rw[hm];omega
theorem yS {l:List ByteArray}:∀c,c∈dF l->0<=c/\c<(bJ l).length:=by
 intro c hc;obtain⟨s,hs,rfl⟩:=List.mem_map.1 hc;have:=(qDP (sM l) ((kN l s).2 hs)).1;omega
theorem ZQ {x:List ByteArray} (hl:x.length<=4096) (hs:∀w,w∈x->w.size<18446744073709551616):cR (kZ x) x.length=(x,0):=by
 have hwl:=iD x;have hcl:=kI x;obtain⟨w,w1,w2,w3⟩:=qT0 (bJ x).length;have hws:∀v,v∈bJ x->v.size<18446744073709551616:=fun v hv=>hs v ((kN x v).1 hv)
 have hup:=EE (u:=dF x) (w:=w) (by omega) (w1 (by omega)) (fun v hv=>⟨(yS v hv).1,w3 (by omega) v (yS v hv).1 (yS v hv).2⟩);have hi:aE (kZ x)=put ((bJ x).length:Int)++(lM (bJ x)++aE (eQ (dF x) w).1):=by
  rw[kZ,if_neg (by omega),aX,HU _ _ hws,aU (eI ⟨by omega,by omega⟩),w2,List.append_assoc]
 generalize kZ x=s at hi;have hg:=mM (s:=s) (a:=0) (u:=((bJ x).length:Int)) ⟨by omega,by omega⟩ (by simpa using hi);have hd:(aE s).drop (put ((bJ x).length:Int)).length=lM (bJ x)++aE (eQ (dF x) w).1:=by rw[hi,List.drop_left]
 obtain⟨g1,g2⟩:=wT (s:=s) (bJ x) _ [] _ hd (by simpa using sM x) hws;have hg':aA s 0=(((bJ x).length:Int),((put ((bJ x).length:Int)).length:Int),0):=by simpa using hg
 have hne:¬(((bJ x).length:Int)>(x.length:Int)\/(((bJ x).length:Int)=0/\(x.length:Int)>0)):=by
  rintro(q|⟨q1,q2⟩)
  ·omega
  ·cases x with
   |nil=>simp at q2
   |cons a x=>
    have:=(kN (a::x) a).2 (by simp);rw[List.length_eq_zero_iff.1 (show(bJ (a::x)).length=0 by omega)]at this;simp at this
 rw[TV (by omega) (by rw[hg']) (by rw[hg'];exact hne),hg'];simp only[Int.toNat_natCast];rw[g1];have hex:s.extract ((((put ((bJ x).length:Int)).length+(lM (bJ x)).length:Nat):Int)).toNat s.size=(eQ (dF x) w).1:=by
  apply fG;rw[Int.toNat_natCast,HR,g2]
 rw[HO (by rfl)];simp only[List.nil_append];rw[hex,w2,<-hcl,hup,QG (by rfl)];simp only;have hmap:∀v,v∈x->(bJ x)[plS (bJ x) v]! =v:=fun v hv=>(qDP (sM x) ((kN x v).2 hv)).2
 have hall:∀j:Nat,j<(bJ x).length->(j:Int)∈dF x:=fun j hj=>by
  unfold dF;rw[List.mem_map];refine⟨(bJ x)[j]!,(kN x _).1 (by rw[getElem!_pos _ j hj];exact List.getElem_mem hj),?_⟩;exact congrArg (fun n:Nat=>(n:Int)) (RM (sM x) hj)
 rw[qCG (V:=nT (bJ x).length (dF x)) rfl (by
  rw[List.any_eq_false];intro c hc;have:=yS c hc;simp;omega) (qJ3.2 hall)]
 rw[Prod.mk.injEq];refine⟨?_,rfl⟩;unfold dF;rw[List.map_map];conv=>rhs;rw[<-List.map_id x]
 exact List.map_congr_left fun v hv=>by simpa using hmap v hv
theorem qUI:∀(l:List Int) (x:Int),x<=l.foldl cM x/\∀y,y∈l->y<=l.foldl cM x
 | [],x=>⟨Int.le_refl _,by simp⟩
 |z::l,x=>by
  obtain⟨h1,h2⟩:=qUI l (cM x z);have h4:x<=cM x z/\z<=cM x z:=by unfold cM;split<;>omega
  refine⟨by rw[List.foldl_cons];omega,fun y hy=>?_⟩;rw[List.foldl_cons];rcases List.mem_cons.1 hy with q|q
  ·subst q;omega
  ·exact h2 y q
theorem qWX {l:List Int} {y:Int} (h:y∈l):y<=mxL l:=by
 cases l with
 |nil=>simp at h
 |cons x l=>
  obtain⟨h1,h2⟩:=qUI l x;rcases List.mem_cons.1 h with q|q
  ·subst q;exact h1
  ·exact h2 y q
theorem qNL {l:List Int} (h:∀v,v∈l->0<=v/\v<18446744073709551616) (hne:l≠ []):0<=mxL l/\mxL l<18446744073709551616:=by
 cases l with
 |nil=>exact absurd rfl hne
 |cons x l=>
  show 0<=List.foldl cM x l/\List.foldl cM x l<18446744073709551616;rcases qAR (l:=l) (x:=x)with q|q
  ·rw[q];exact h x (by simp)
  ·exact h _ (by simp [q])
theorem qS2 {a b:Nat} (h:a<=b):(2:Int)^a<=2^b:=by
 have:=Nat.pow_le_pow_right (show 0<2 by decide) h;rw[<-dC,<-dC];omega
def qIJ (t:Int) (v:Val):Prop:=v.1=false/\inI v.2.1/\(t=3->v.2.1=0/\v.2.2.size<=1048576)/\(¬t=3->v.2.2=⟨#[]⟩)
theorem YY {s:ByteArray} {a:Nat} (h:(aE s).drop a= []) (h1:a<=s.size):a=s.size:=by
 have:=congrArg List.length h;simp only[List.length_drop,List.length_nil,aQ]at this;omega
theorem rZ {s:ByteArray} {a:Nat} {u:Int} {r:List Int} (hu:0<=u/\u<18446744073709551616) (h:(aE s).drop a=put u++r) :
  aA s a=(u,((a+(put u).length:Nat):Int),0)/\(aE s).drop (a+(put u).length)=r/\a+(put u).length<=s.size:=by
 have hg:=mM hu h;have hl:=congrArg List.length h;simp only[List.length_drop,List.length_append,aQ]at hl;have hp:=bM u;exact⟨by rw[hg,Int.natCast_add],by rw[<-List.drop_drop,h,List.drop_left],by omega⟩
theorem IE:aE ByteArray.empty= []:=rfl
theorem IV {t:Int} {s:ByteArray}:∀(l:List Val) (a:Nat) (M:List Val),(∀v,v∈l->qIJ t v)->a<=s.size->(aE s).drop a=aE (plL t l)->jX t s l.length (a:Int) M=(M++l,true)
 | [],a,M,_,ha,h=>by
   have h0:=YY (h.trans IE) ha;rw[List.length_nil,jX,List.append_nil,h0,decide_eq_true rfl]
 |v::l,a,M,hv,ha,h=>by
  obtain⟨f1,f2,f3,f4⟩:=hv v (by simp);have hl:∀x,x∈l->qIJ t x:=fun x hx=>hv x (List.mem_cons_of_mem _ hx)
  rw[plL,aX]at h;by_cases ht:t=3
  ·obtain⟨f5,f6⟩:=f3 ht
   rw[plV,if_pos ht,aX,aU (eI ⟨by omega,by omega⟩),List.append_assoc]at h;obtain⟨g1,g2,g3,g4⟩:=qG7 (s:=s) (a:=a) (w:=v.2.2) (r:=aE (plL t l)) (by omega) h;have e:s.extract (aA s a).2.1.toNat ((aA s a).2.1+(aA s a).1).toNat=v.2.2:=g3;have q1:¬(aA s a).2.2≠0:=kK (by rw[g1]);have q2:¬(aA s a).1>s.size-(aA s a).2.1:=by rw[g1];exact g2
   have q3:(aA s a).2.1+(aA s a).1=((a+(put (v.2.2.size:Int)).length+v.2.2.size:Nat):Int):=by rw[g1];show(a:Int)+_+_=_;omega
   have hvv:sV v.2.2=v:=by
    obtain⟨x,y,z⟩:=v;have e1:x=false:=f1;have e2:y=0:=f5;subst e1 e2;rfl
   rw[List.length_cons,jX,if_neg q1,if_pos ht,if_neg q2,e,hvv,q3,IV l _ _ hl (by omega) g4,List.append_assoc];rfl
  ·rw[plV,if_neg ht,aU (eI (gE f2))]at h
   obtain⟨g1,g2,g3⟩:=rZ (gE f2) h;have q1:¬(aA s a).2.2≠0:=kK (by rw[g1]);have q3:(aA s a).2.1=((a+(put (dG v.2.1)).length:Nat):Int):=by rw[g1]
   have hvv:nV (mJ (aA s a).1)=v:=by
    rw[g1];show nV (mJ (dG v.2.1))=v;rw[vX];have e3:=f4 ht;obtain⟨x,y,z⟩:=v;have e1:x=false:=f1;have e2:z=⟨#[]⟩:=e3;subst e1 e2;rfl
   rw[List.length_cons,jX,if_neg q1,if_neg ht,hvv,q3,IV l _ _ hl g3 g2,List.append_assoc];rfl
theorem OM:∀(v:Int) (l:List Int),List.replicate (dX v l) v++l.drop (dX v l)=l
 |v,[]=>rfl
 |v,x::l=>by
  unfold dX;split
  ·rename_i q
   rw[List.replicate_succ,List.cons_append,List.drop_succ_cons,OM v l,q]
  ·rfl
theorem WF:∀(v:Int) (l:List Int),l.drop (dX v l)≠ []->(l.drop (dX v l))[0]! ≠v
 |v,[],h=>absurd rfl h
 |v,x::l,h=>by
  unfold dX at h ⊢;split at h
  ·rename_i q
   rw[if_pos q,List.drop_succ_cons];rw[List.drop_succ_cons]at h;exact WF v l h
  ·rename_i q
   rw[if_neg q];exact q
theorem qIU (M:List Int) (c:Nat) (v:Int):iE (M++List.replicate (c+1) v)=v:=by
 rw[List.replicate_succ',<-List.append_assoc,BS]
theorem MU {s:ByteArray} {n:Int}:∀(m:Nat) (l:List Int) (a:Nat) (M:List Int),l.length<=m->(∀x,x∈l->inI x)->a<=s.size->(aE s).drop a=xB (runs l)->(M.length:Int)+l.length=n->n<=4096 ->
  (M≠ []->l≠ []->iE M≠l[0]!)->dGo s n a M=(M++l,0)
 |m,[],a,M,_,_,ha,h,hn,_,_=>by
  rw[runs,xB]at h;have h0:=YY h ha;rw[qLV (by simp at hn;omega),if_neg (by omega),List.append_nil]
 |0,v::r,a,M,hm,_,_,_,_,_,_=>by simp at hm
 |m+1,v::r,a,M,hm,hi,ha,h,hn,h4,hl=>by
  have hc:=CB v r;rw[List.length_cons]at hm hn;rw[runs,xB]at h;obtain⟨g1,g2,g3⟩:=rZ (u:=(dX v r:Int)+1) ⟨by omega,by omega⟩ h;have hv:=hi v (by simp);obtain⟨k1,k2,k3⟩:=rZ (gE hv) g2;have e1:(aA s a).2.1=((a+(put ((dX v r:Int)+1)).length:Nat):Int):=by rw[g1]
  have e2:(aA s (aA s a).2.1)=(dG v,((a+(put ((dX v r:Int)+1)).length+(put (dG v)).length:Nat):Int),0):=by rw[e1,k1]
  have e3:mJ (aA s (aA s a).2.1).1=v:=by rw[e2];exact vX v
  have e4:(aA s a).1=(dX v r:Int)+1:=by rw[g1]
  have e5:(aA s a).1.toNat=dX v r+1:=by rw[e4];omega
  have e6:(aA s (aA s a).2.1).2.1=((a+(put ((dX v r:Int)+1)).length+(put (dG v)).length:Nat):Int):=by rw[e2]
  have q4:¬(0<M.length/\M[M.length-1]! =mJ (aA s (aA s a).2.1).1):=by
   rw[e3];rintro⟨p1,p2⟩;exact hl (fun p=>by rw[p]at p1;simp at p1) (by simp) p2
  rw[qUE (by omega) (by rw[g1]) (by rw[e4];omega) (by rw[e2]) q4,e3,e5,e6];rw[MU m (r.drop (dX v r)) _ _ (by rw[List.length_drop];omega) (fun x hx=>hi x (List.mem_cons_of_mem _ (List.mem_of_mem_drop hx))) k3 k2 (by simp only[List.length_append,List.length_replicate,List.length_drop];omega) h4 (fun _ p=>by rw[qIU];exact fun q=>WF v r p q.symm)];rw[List.append_assoc,List.replicate_succ,List.cons_append,OM]
theorem UD:∀(l:List (Int×Int)),(∀p,p∈l->(0<=p.1/\p.1<18446744073709551616)/\inI p.2)->∀b,b∈xB l->0<=b/\b<256
 | [],_,b,hb=>by cases hb
 |(n,v)::l,h,b,hb=>by
  have h1:=h (n,v) (by simp);rw[xB]at hb;rcases List.mem_append.1 hb with q|q
  ·exact eI h1.1 b q
  ·rcases List.mem_append.1 q with q|q
   ·exact eI (gE h1.2) b q
   ·exact UD l (fun p hp=>h p (List.mem_cons_of_mem _ hp)) b q
theorem WH:∀(m:Nat) (l:List Int),l.length<=m->m<=4096->(∀x,x∈l->inI x)->∀p,p∈runs l->(0<=p.1/\p.1<18446744073709551616)/\inI p.2
 |m,[],_,_,_,p,hp=>by rw[runs]at hp;cases hp
 |0,v::r,hm,_,_,_,_=>by simp at hm
 |m+1,v::r,hm,h4,hi,p,hp=>by
  have hc:=CB v r;rw[List.length_cons]at hm;rw[runs]at hp;rcases List.mem_cons.1 hp with q|q
  ·rw[q];exact⟨by show 0<=(dX v r:Int)+1/\(dX v r:Int)+1<18446744073709551616;omega,hi v (by simp)⟩
  ·exact WH m (r.drop (dX v r)) (by rw[List.length_drop];omega) (by omega) (fun x hx=>hi x (List.mem_cons_of_mem _ (List.mem_of_mem_drop hx))) p q
theorem qBD {l:List Int} (hl:l.length<=4096) (hi:∀x,x∈l->inI x):eH (rS l) l.length=(l,0):=by
 have e:aE (rS l)=xB (runs l):=aU (UD _ (WH _ l (Nat.le_refl _) hl hi));rw[eH,if_neg (by omega)];exact MU l.length l 0 [] (Nat.le_refl _) hi (Nat.zero_le _) e (by simp) (by omega) (fun p=>absurd rfl p)
theorem qT2 {m d:Int} (h:inI d):IntKind.i64.wrap (m+IntKind.u64.wrap (IntKind.i64.wrap (d-m)))=d:=by
 unfold inI at h;simp [IntKind.wrap,IntKind.bits,IntKind.signed];omega
theorem qXZ {m d:Int} (hd:inI d) (hm:inI m) (h:m<=d):IntKind.u64.wrap (IntKind.i64.wrap (d-m))=d-m:=by
 unfold inI at hd hm;simp [IntKind.wrap,IntKind.bits,IntKind.signed];omega
theorem qXY {D:List Int} (hi:∀d,d∈D->inI d) (hne:D≠ []):(∀v,v∈usL (mnL D) D->0<=v/\v<18446744073709551616)/\(0:Int)∈usL (mnL D) D/\(usL (mnL D) D).map (fun v=>IntKind.i64.wrap (mnL D+v))=D:=by
 have hm:=zE hne;refine⟨fun v hv=>?_,?_,?_⟩
 ·obtain⟨d,_,rfl⟩:=List.mem_map.1 hv
  exact nB _
 ·refine List.mem_map.2 ⟨mnL D,hm,?_⟩
  rw[qXZ (hi _ hm) (hi _ hm) (Int.le_refl _)];omega
 ·unfold usL
  rw[List.map_map];conv=>rhs;rw[<-List.map_id D]
  exact List.map_congr_left fun d hd=>qT2 (hi d hd)
theorem qA2 {u:List Int} {w:Int} (hn:u.length<=4096) (hw:0<=w/\w<=64) (h:bK (eQ u w).1 u.length w=(u,0)):(((eQ u w).1.size:Nat):Int)=dP u.length w:=by
 unfold bK at h;split at h
 ·have:=congrArg Prod.snd h;simp at this
 ·split at h
  ·have:=congrArg Prod.snd h;simp at this
  ·split at h
   ·have:=congrArg Prod.snd h;simp at this
   ·omega
theorem qHU {s:ByteArray} {a:Nat} {D r:List Int} (h:(aE s).drop a=aE (YZ D)++r) (hD:1<=D.length/\D.length<=32) (hi:∀d,d∈D->inI d) :
  ∃b:Nat,iS s a D.length=(D,(b:Int),0)/\(aE s).drop b=r/\b<=s.size:=by
 have hne:D≠ []:=fun e=>by rw[e]at hD;simp at hD
 obtain⟨u1,u2,u3⟩:=qXY hi hne;have hw:=qWW (mnL D) D;have hmi:=hi _ (zE hne);have hul:(usL (mnL D) D).length=D.length:=by simp [usL]
 have hune:usL (mnL D) D≠ []:=fun e=>by rw[e]at hul;simp at hul;omega
 obtain⟨w,hww⟩:∃w:Nat,mwL (usL (mnL D) D)=(w:Int):=⟨(mwL (usL (mnL D) D)).toNat,by omega⟩
 have hmx:=qY1 hune u1;have hup:bK (eQ (usL (mnL D) D) w).1 (usL (mnL D) D).length w=(usL (mnL D) D,0):=by
  refine EE (by omega) (by omega) (fun v hv=>⟨(u1 v hv).1,?_⟩);have h1:=qC5 (u1 v hv);have hle:v<=mxL (usL (mnL D) D):=qWX hv;have h2:=BT hle (qNL u1 hune).2;rw[<-hmx,hww]at h2;exact Int.lt_of_lt_of_le h1 (qS2 (by omega))
 have hsz:=qA2 (by omega) (by omega) hup;rw[YZ,hww,aX,aX,aU (eI (gE hmi)),aU (fun b hb=>by rw[List.mem_singleton.1 hb];exact lI _),AJ (by omega),List.append_assoc,List.append_assoc]at h;obtain⟨g1,g2,g3⟩:=rZ (gE hmi) h;have hb:=congrArg List.length g2;simp only[List.length_drop,List.length_append,List.length_cons,List.length_nil,aQ]at hb;have d1:=BI (s:=s) (i:=a+(put (dG (mnL D))).length) (by omega);rw[g2]at d1;have c1:aG s (a+(put (dG (mnL D))).length)=(w:Int):=((List.cons.inj d1).1).symm;have c2:(aE s).drop (a+(put (dG (mnL D))).length+1)=aE (eQ (usL (mnL D) D) w).1++r:=((List.cons.inj d1).2).symm;have eW:dW s a=w:=by
  show aG s (aA s a).2.1.toNat=w;rw[g1];exact c1
 rw[hul]at hup hsz;have eE:dE s a D.length=((a+(put (dG (mnL D))).length+1+(eQ (usL (mnL D) D) w).1.size:Nat):Int):=by
  show(aA s a).2.1+1+dP (D.length:Int) (dW s a)=_;rw[g1,eW,<-hsz];show((_:Nat):Int)+1+_=_;omega
 have eX:s.extract ((aA s a).2.1+1).toNat (dE s a D.length).toNat=(eQ (usL (mnL D) D) w).1:=by
  apply fG;rw[nY,eE,g1];show((aE s).drop (((a+(put (dG (mnL D))).length:Nat):Int)+1).toNat).take _=_;rw[show(((a+(put (dG (mnL D))).length:Nat):Int)+1).toNat=a+(put (dG (mnL D))).length+1 by omega,c2,show(((a+(put (dG (mnL D))).length+1+(eQ (usL (mnL D) D) w).1.size:Nat):Int)).toNat-(a+(put (dG (mnL D))).length+1)=(aE (eQ (usL (mnL D) D) w).1).length by rw[aQ];omega,List.take_left]
 have eU:dU s a D.length=(usL (mnL D) D,0):=by
  show bK (s.extract ((aA s a).2.1+1).toNat (dE s a D.length).toNat) (D.length:Int) (dW s a)=_;rw[eX,eW,hup]
 have eL:dL s a=mnL D:=by
  show mJ (aA s a).1=_;rw[g1];exact vX _
 have eDs:dDs s a D.length=D:=by
  show(dU s a D.length).1.map (fun v=>IntKind.i64.wrap (dL s a+v))=D;rw[eU,eL];exact u3
 have hok:dOk s a D.length=true:=by
  rw[ES,eDs,eU,eL,eW];refine⟨rfl,(qSH hune (fun v hv=>(u1 v hv).1)).2 ?_,?_,rfl⟩
  ·rw[List.any_eq_true];exact⟨0,u2,by decide⟩
  ·rw[<-hmx,hww]
 refine⟨a+(put (dG (mnL D))).length+1+(eQ (usL (mnL D) D) w).1.size,?_,?_,by omega⟩
 ·rw[qVZ (by rw[g1]) (by rw[g1];show ¬((_:Nat):Int)=_;omega) (by rw[eW];omega) (by rw[eE];omega) hok,eDs,eE]
 ·rw[<-List.drop_drop,c2,<-aQ (eQ (usL (mnL D) D) w).1,List.drop_left]
theorem qD8:∀(A B M:List Int),M++mH (iE M) (A++B)=(M++mH (iE M) A)++mH (iE (M++mH (iE M) A)) B
 | [],B,M=>by simp [mH]
 |d::A,B,M=>by
  have h:=qD8 A B (M++ [IntKind.i64.wrap (iE M+d)]);rw[BS]at h;simp only[List.cons_append,mH];simpa using h
theorem TU {s:ByteArray} {n:Int}:∀(m:Nat) (D:List Int) (a:Nat) (M:List Int),D.length<=m->(∀d,d∈D->inI d)->a<=s.size->(aE s).drop a=aE (pV D)->(M.length:Int)+D.length=n->dd s n a M=(M++mH (iE M) D,0)
 |m,[],a,M,_,_,ha,h,hn=>by
  rw[pV,dif_pos (by rfl)]at h;have h0:=YY (h.trans IE) ha;rw[ZL (by simp at hn;omega),if_neg (by omega),mH,List.append_nil]
 |0,d::D,_,_,hm,_,_,_,_=>by simp at hm
 |m+1,d::D,a,M,hm,hi,ha,h,hn=>by
  have hlen:((d::D).take 32).length=min 32 (d::D).length:=List.length_take ..;have hl1:1<=(d::D).length:=by simp
  rw[pV,dif_neg (by simp),aX]at h;obtain⟨b,g1,g2,g3⟩:=qHU h ⟨by omega,by omega⟩ (fun x hx=>hi x (List.mem_of_mem_take hx));have ek:bT 32 (n-(M.length:Int))=(((d::D).take 32).length:Int):=by unfold bT;split<;>omega
  rw[qCF (by omega) (by rw[ek,g1]),ek,g1];show dd s n (b:Int) (M++mH (iE M) ((d::D).take 32))=_;rw[TU m ((d::D).drop 32) b _ (by rw[List.length_drop];omega) (fun x hx=>hi x (List.mem_of_mem_drop hx)) g3 g2 (by simp only[List.length_append,nA,List.length_drop];omega),<-qD8,List.take_append_drop]
theorem qL8 (x y:Int) (r:List Int):dfs (x::y::r)=IntKind.i64.wrap (y-x)::dfs (y::r):=by
 unfold dfs;simp only[List.length_cons,Nat.add_sub_cancel];rw[List.range_succ_eq_map,List.map_cons,List.map_map];rfl
theorem qT3 {x y:Int} (h:inI y):IntKind.i64.wrap (x+IntKind.i64.wrap (y-x))=y:=by
 unfold inI at h;simp [IntKind.wrap,IntKind.bits,IntKind.signed];omega
theorem qD9:∀(r:List Int) (x:Int),(∀y,y∈r->inI y)->mH x (dfs (x::r))=r
 | [],x,_=>rfl
 |y::r,x,h=>by
  rw[qL8,mH,qT3 (h y (by simp)),qD9 r y (fun z hz=>h z (List.mem_cons_of_mem _ hz))]
theorem TW {l:List Int} (hl:l.length<=4096) (hi:∀x,x∈l->inI x):cA (eO l) l.length=(l,0):=by
 cases l with
 |nil=>
  have e0:eO []=⟨#[]⟩:=by rw[eO,if_pos (.inl rfl)]
  rw[cA,if_neg (by decide),if_pos (show((([]:List Int).length:Nat):Int)=0 from rfl),e0,if_pos rfl]
 |cons x r=>
  have hlen:1<=(x::r).length:=by simp
  have hx:=hi x (by simp);have e0:aE (eO (x::r))=put (dG x)++aE (pV (dfs (x::r))):=by
   rw[eO,if_neg (by simp;simpa using hl),aX,aU (eI (gE (show inI (x::r)[0]! from hx)))];rfl
  obtain⟨g1,g2,g3⟩:=rZ (a:=0) (gE hx) e0;have g0:aA (eO (x::r)) 0=(dG x,((0+(put (dG x)).length:Nat):Int),0):=g1;rw[cA,if_neg (by omega),if_neg (by omega),if_neg (kK (by rw[g0])),g0];show dd (eO (x::r)) ((x::r).length:Int) ((0+(put (dG x)).length:Nat):Int) [mJ (dG x)]=_;rw[vX,TU (dfs (x::r)).length (dfs (x::r)) _ _ (Nat.le_refl _) (fun d hd=>by
   unfold dfs at hd;obtain⟨j,_,rfl⟩:=List.mem_map.1 hd;exact FC _) g3 g2 (by rw[uX];simp only[List.length_cons,List.length_nil];omega)]
  show([x]++mH x (dfs (x::r)),(0:Int))=_;rw[qD9 r x (fun y hy=>hi y (List.mem_cons_of_mem _ hy))];rfl
theorem OA {N:List Bool} (h:N.length<=4096):((jP N).size:Int)=((N.length:Int)+7)/8:=by
 unfold jP;rw[cC,iW,lP (by omega)];omega
theorem IQ {N:List Bool} {q:Nat} (hl:N.length<=4096) (h:q<8*(jP N).size):sbit (jP N) q=if q<N.length then fB N q else 0:=by
 have hs:(jP N).size=(((N.length:Int)+7).tdiv 8).toNat:=by unfold jP;rw[cC,iW]
 rw[hs]at h;exact CC (qYL N) h
theorem qNY {N:List Bool} (h:N.length<=4096):jL (jP N) N.length=(N,0):=by
 have hz:=OA h;have ht:=lP (n:=(N.length:Int)+7) (by omega);have h4:¬iQ (jP N) ((N.length:Int)).toNat=true:=qEE (fun q g1 g2=>by
  rw[IQ h g2,if_neg (by omega)];decide)
 rw[jL,if_neg (by omega),if_neg (by omega),if_neg (by omega),if_neg h4];have e:sQ (jP N) ((N.length:Int)).toNat=N:=by
  refine List.ext_getElem (by rw[BA];omega) fun i h1 h2=>?_
  simp only[sQ,List.getElem_map,List.getElem_range];unfold PQ;rw[IQ h (by omega),if_pos h2];unfold fB;rw[getElem!_pos N i h2];cases N[i]<;>simp
 rw[e]
theorem qHZ {c:Col} {v:Val} (h:bE c v=0) (hn:v.1=false) (ho:okV v):qIJ c.2.1 v:=by
 refine⟨hn,ho.2,fun ht=>⟨?_,ho.1⟩,fun ht=>?_⟩
 ·unfold bE at h
  split at h
  ·cases h
  ·split at h
   ·cases h
   ·split at h
    ·cases h
    ·rename_i h3
     exact Decidable.not_not.1 fun q=>h3 ⟨.inr ht,q⟩
 ·unfold bE at h
  split at h
  ·cases h
  ·split at h
   ·cases h
   ·rename_i h2
    exact Decidable.not_not.1 fun q=>h2 ⟨.inr ht,q⟩
theorem AX {c:Col}:∀(l M:List Val),(∀v,v∈l->bE c v=0)->asm c (cG l) (bL l) M=(M++l,true)
 | [],M,_=>by
   show(M,true)=_;rw[List.append_nil]
 |v::l,M,h=>by
  have hv:=h v (by simp);have hl:∀x,x∈l->bE c x=0:=fun x hx=>h x (List.mem_cons_of_mem _ hx)
  have e0:cG (v::l)=v.1::cG l:=rfl;by_cases hn:v.1=true
  ·have e1:bL (v::l)=bL l:=List.filter_cons_of_neg (by simp [hn])
   have e2:=wX hv hn;have e3:pkV v.1 (bL l)=v:=by rw[hn,e2];rfl
   have e4:rsV v.1 (bL l)=bL l:=by rw[hn];rfl
   rw[e0,e1,asm,e3,e4,if_neg (kK hv),AX l _ hl,List.append_assoc];rfl
  ·have hn:v.1=false:=by simpa using hn
   have e1:bL (v::l)=v::bL l:=List.filter_cons_of_pos (by simp [hn]);have e3:pkV v.1 (v::bL l)=v:=by rw[hn];rfl
   have e4:rsV v.1 (v::bL l)=bL l:=by rw[hn];rfl
   rw[e0,e1,asm,e3,e4,if_neg (kK hv),AX l _ hl,List.append_assoc];rfl
theorem qNG {S:List Val} {t:Int} (h:∀v,v∈S->qIJ t v):(t=3->(qE S).map sV=S)/\(¬t=3->(jO S).map nV=S):=by
 refine⟨fun ht=>?_,fun ht=>?_⟩
 ·unfold qE
  rw[List.map_map];conv=>rhs;rw[<-List.map_id S]
  refine List.map_congr_left fun v hv=>?_
  obtain⟨f1,f2,f3,f4⟩:=h v hv;have f5:=(f3 ht).1;obtain⟨x,y,z⟩:=v;have e1:x=false:=f1;have e2:y=0:=f5;subst e1 e2;rfl
 ·unfold jO
  rw[List.map_map];conv=>rhs;rw[<-List.map_id S]
  refine List.map_congr_left fun v hv=>?_
  obtain⟨f1,f2,f3,f4⟩:=h v hv;have f5:=f4 ht;obtain⟨x,y,z⟩:=v;have e1:x=false:=f1;have e2:z=⟨#[]⟩:=f5;subst e1 e2;rfl
theorem qJE {t k:Int} {S:List Val} (hk:cB t k=true) (hl:S.length<=4096) (h:∀v,v∈S->qIJ t v):gD t k (kV t k S) S.length=(S,true):=by
 have hb:=qNG h;have hnl:(jO S).length=S.length:=by simp [jO]
 have hsl:(qE S).length=S.length:=by simp [qE]
 have hni:∀x,x∈jO S->inI x:=fun x hx=>by
  obtain⟨v,hv,rfl⟩:=List.mem_map.1 hx;exact(h v hv).2.1
 unfold cB at hk;by_cases k1:k=1
 ·rw[qUN k1,kV,if_neg (by omega),if_neg (by omega),if_neg (by omega)]
  have:=IV (s:=plL t S) S 0 [] h (Nat.zero_le _) rfl;simpa using this
 ·by_cases k3:k=3
  ·have ht:t=3:=by
     refine Decidable.not_not.1 fun q=>?_
     rw[if_neg q]at hk;simp [k3]at hk
   have hd:=ZQ (x:=qE S) (by omega) (fun w hw=>by
    obtain⟨v,hv,rfl⟩:=List.mem_map.1 hw;have:=((h v hv).2.2.1 ht).2;omega)
   rw[hsl]at hd;rw[qUO k3,kV,if_neg (by omega),if_pos k3,hd];show((qE S).map sV,decide ((0:Int)=0))=_;rw[hb.1 ht];rfl
  ·have ht:¬t=3:=fun q=>by
     rw[if_pos q]at hk;simp [k1,k3]at hk
   by_cases k4:k=4
   ·have hd:=TW (l:=jO S) (by omega) hni
    rw[hnl]at hd;rw[qDY k4,kV,if_neg (by omega),if_neg (by omega),if_pos k4,hd];show((jO S).map nV,decide ((0:Int)=0))=_;rw[hb.2 ht];rfl
   ·have k2:k=2:=by
      rw[if_neg ht]at hk;simpa [k1,k4]using hk
    have hd:=qBD (l:=jO S) (by omega) hni;rw[hnl]at hd;rw[qDX k1 k3 k4,kV,if_pos k2,hd];show((jO S).map nV,decide ((0:Int)=0))=_;rw[hb.2 ht];rfl
theorem HK:∀l:List Val,lU (cG l)=(bL l).length
 | []=>rfl
 |v::l=>by
  show(if v.1=true then 0 else 1)+lU (cG l)=_;rw[HK l];unfold bL;by_cases hn:v.1=true
  ·rw[if_pos hn,List.filter_cons_of_neg (by simp [hn])];omega
  ·rw[if_neg hn,List.filter_cons_of_pos (by simp [hn]),List.length_cons];omega
theorem qHV {c:Col} {k:Int} {l:List Val} (hk:cB c.2.1 k=true) (hl:l.length<=4096) (hv:∀v,v∈l->bE c v=0/\okV v):nU c (bW c.2.1 k l)=(l,true):=by
 have hkr:=JN hk;have hat:=qH0 (t:=c.2.1) (k:=k) (by omega) l;have hat:aG (bW c.2.1 k l) (0:Int).toNat=k:=hat;have hsl:=pB l;have hfit:∀v,v∈bL l->qIJ c.2.1 v:=fun v hv2=>by
  have h1:=List.mem_filter.1 hv2;exact qHZ (hv v h1.1).1 (by simpa using h1.2) (hv v h1.1).2
 have hhead:aE (rA k l)= [k]++(put l.length++put ((l.length:Int)-(bL l).length)):=by
  unfold rA;rw[aX,aX,aU (fun b hb=>by rw[List.mem_singleton.1 hb];exact lI k),aU (eI ⟨by omega,by omega⟩),aU (eI ⟨by omega,by omega⟩),AJ (by omega),List.append_assoc]
 have hus:cB c.2.1 (aG (bW c.2.1 k l) (0:Int).toNat)=true:=by rw[hat];exact hk
 have hrr:=qJE hk (Nat.le_trans hsl hl) hfit;have hasm:=AX (c:=c) l [] (fun v hx=>(hv v hx).1);by_cases hm:(bL l).length<l.length
 ·have hB:aE (bW c.2.1 k l)=k::(put l.length++(put ((l.length:Int)-(bL l).length)++(aE (jP (cG l))++aE (kV c.2.1 k (bL l))))):=by
    rw[HJ hm,aX,aX,hhead];simp
  have d1:(aE (bW c.2.1 k l)).drop 1=put l.length++(put ((l.length:Int)-(bL l).length)++(aE (jP (cG l))++aE (kV c.2.1 k (bL l)))):=by rw[hB];rfl
  obtain⟨g1,g2,g3⟩:=rZ (u:=(l.length:Int)) ⟨by omega,by omega⟩ d1;obtain⟨k1,k2,k3⟩:=rZ (u:=(l.length:Int)-(bL l).length) ⟨by omega,by omega⟩ g2;have g1:aA (bW c.2.1 k l) 1=((l.length:Int),((1+(put (l.length:Int)).length:Nat):Int),0):=g1;have e1:(aA (bW c.2.1 k l) 1).2.1=((1+(put (l.length:Int)).length:Nat):Int):=by rw[g1]
  have e2:aA (bW c.2.1 k l) (aA (bW c.2.1 k l) 1).2.1=((l.length:Int)-(bL l).length,((1+(put (l.length:Int)).length+(put ((l.length:Int)-(bL l).length)).length:Nat):Int),0):=by rw[e1,k1]
  generalize hA:1+(put (l.length:Int)).length+(put ((l.length:Int)-(bL l).length)).length=A at e2 k2 k3;have hnl:(cG l).length=l.length:=by simp [cG]
  have hz:=OA (N:=cG l) (by omega);have hun:=qNY (N:=cG l) (by omega);have hkl:=congrArg List.length k2;simp only[List.length_drop,List.length_append,aQ]at hkl;have ht:=lP (n:=(l.length:Int)+7) (by omega);have hx:(bW c.2.1 k l).extract ((A:Int)).toNat ((A:Int)+((l.length:Int)+7).tdiv 8).toNat=jP (cG l):=by
   apply fG;rw[nY,show((A:Int)).toNat=A by omega,k2,show((A:Int)+((l.length:Int)+7).tdiv 8).toNat-A=(aE (jP (cG l))).length by rw[aQ];omega,List.take_left]
  have hcn:qJ (jP (cG l))=(l.length:Int)-(bL l).length:=by
   have h1:=(qG0 (s:=jP (cG l)) (n:=((cG l).length:Int)) (by rw[hun])).2.2.2;rw[hun]at h1;have h2:=HK l;have h1:((lU (cG l):Nat):Int)+qJ (jP (cG l))=((cG l).length:Int):=h1;omega
  rw[hnl]at hun;have eN:eS (bW c.2.1 k l) (A:Int) (l.length:Int) ((l.length:Int)-(bL l).length)=(cG l,true,(A:Int)+((l.length:Int)+7).tdiv 8):=by
   rw[sU (by omega) (by omega) (by rw[hx,hun]) (by rw[hx,hcn]),hx,hun]
  have hp:=xX (c:=c) hus (by rw[g1]) (by rw[g1];show(l.length:Int)<=4096;omega) (by rw[e2]) (by rw[e2,g1];show(l.length:Int)-(bL l).length<=(l.length:Int);omega);rw[hp,e2,g1];show BC c _ (l.length:Int) ((l.length:Int)-(bL l).length) (eS (bW c.2.1 k l) (A:Int) (l.length:Int) ((l.length:Int)-(bL l).length))=_;have hpay:(bW c.2.1 k l).extract ((A:Int)+((l.length:Int)+7).tdiv 8).toNat (bW c.2.1 k l).size=kV c.2.1 k (bL l):=by
   apply fG;rw[HR,show((A:Int)+((l.length:Int)+7).tdiv 8).toNat=A+(aE (jP (cG l))).length by rw[aQ];omega,<-List.drop_drop,k2,List.drop_left]
  have hr:gD c.2.1 (aG (bW c.2.1 k l) (0:Int).toNat) ((bW c.2.1 k l).extract ((A:Int)+((l.length:Int)+7).tdiv 8).toNat (bW c.2.1 k l).size) ((l.length:Int)-((l.length:Int)-(bL l).length))=(bL l,true):=by
   rw[hat,hpay,show(l.length:Int)-((l.length:Int)-(bL l).length)=((bL l).length:Int)by omega,hrr]
  rw[eN,xW (by rw[hr]),hr,hasm];rfl
 ·have hB:aE (bW c.2.1 k l)=k::(put l.length++(put ((l.length:Int)-(bL l).length)++aE (kV c.2.1 k (bL l)))):=by
    rw[tL hm,aX,hhead];simp
  have d1:(aE (bW c.2.1 k l)).drop 1=put l.length++(put ((l.length:Int)-(bL l).length)++aE (kV c.2.1 k (bL l))):=by rw[hB];rfl
  obtain⟨g1,g2,g3⟩:=rZ (u:=(l.length:Int)) ⟨by omega,by omega⟩ d1;obtain⟨k1,k2,k3⟩:=rZ (u:=(l.length:Int)-(bL l).length) ⟨by omega,by omega⟩ g2;have g1:aA (bW c.2.1 k l) 1=((l.length:Int),((1+(put (l.length:Int)).length:Nat):Int),0):=g1;have e1:(aA (bW c.2.1 k l) 1).2.1=((1+(put (l.length:Int)).length:Nat):Int):=by rw[g1]
  have e2:aA (bW c.2.1 k l) (aA (bW c.2.1 k l) 1).2.1=((l.length:Int)-(bL l).length,((1+(put (l.length:Int)).length+(put ((l.length:Int)-(bL l).length)).length:Nat):Int),0):=by rw[e1,k1]
  generalize hA:1+(put (l.length:Int)).length+(put ((l.length:Int)-(bL l).length)).length=A at e2 k2 k3;have hnf:cG l=List.replicate l.length false:=by
   refine List.eq_replicate_iff.2 ⟨by simp [cG],fun b hb=>?_⟩;obtain⟨v,hvm,rfl⟩:=List.mem_map.1 hb;have hlen0:(bL l).length=l.length:=by omega
   have hlen:(l.filter fun v=>!v.1).length=l.length:=hlen0;have h1:bL l=l:=List.filter_eq_self.2 (List.length_filter_eq_length_iff.1 hlen);have h2:=(List.mem_filter.1 (show v∈bL l by rw[h1];exact hvm)).2;simpa using h2
  have eN:eS (bW c.2.1 k l) (A:Int) (l.length:Int) ((l.length:Int)-(bL l).length)=(cG l,true,(A:Int)):=by
   rw[uC (by omega),hnf,show((l.length:Int)).toNat=l.length by omega]
  have hp:=xX (c:=c) hus (by rw[g1]) (by rw[g1];show(l.length:Int)<=4096;omega) (by rw[e2]) (by rw[e2,g1];show(l.length:Int)-(bL l).length<=(l.length:Int);omega);rw[hp,e2,g1];show BC c _ (l.length:Int) ((l.length:Int)-(bL l).length) (eS (bW c.2.1 k l) (A:Int) (l.length:Int) ((l.length:Int)-(bL l).length))=_;have hpay:(bW c.2.1 k l).extract ((A:Int)).toNat (bW c.2.1 k l).size=kV c.2.1 k (bL l):=by
   apply fG;rw[HR,show((A:Int)).toNat=A by omega,k2]
  have hr:gD c.2.1 (aG (bW c.2.1 k l) (0:Int).toNat) ((bW c.2.1 k l).extract ((A:Int)).toNat (bW c.2.1 k l).size) ((l.length:Int)-((l.length:Int)-(bL l).length))=(bL l,true):=by
   rw[hat,hpay,show(l.length:Int)-((l.length:Int)-(bL l).length)=((bL l).length:Int)by omega,hrr]
  rw[eN,xW (by rw[hr]),hr,hasm];rfl
theorem qIA {c:Col} {k:Int} {l:List Val} (hc:bV c.2.1=true) (hk:cB c.2.1 k=true) (hl:l.length<=4096) (hv:∀v,v∈l->bE c v=0/\okV v):jV c (dR c.2.1 k l)=(l,0):=by
 have hs:=(pT (t:=c.2.1) (k:=k) (fun v hx=>(hv v hx).2) hl).2;obtain⟨h1,h2⟩:=NX hs;have hb:=qHV hk hl hv;rw[dR,ZO hc h1 (by rw[h2,hb]),h2,hb]
theorem JK {a b:ByteArray}:mG a b=0↔a=b:=by
 unfold mG;split
 ·rename_i h
  exact⟨fun q=>absurd q (by decide),fun q=>absurd h (by rw[q];exact pA b)⟩
 ·split
  ·rename_i h;exact⟨fun _=>h,fun _=>rfl⟩
  ·rename_i h;exact⟨fun q=>absurd q (by decide),fun q=>absurd q h⟩
theorem vT {a b:ByteArray}:mG a b<0↔dY a b=true:=by
 unfold mG;split
 ·rename_i h;exact⟨fun _=>h,fun _=>by decide⟩
 ·rename_i h
  split
  ·exact⟨fun q=>absurd q (by decide),fun q=>absurd q h⟩
  ·exact⟨fun q=>absurd q (by decide),fun q=>absurd q h⟩
theorem qJU {a b:ByteArray}:mG a b>0↔dY b a=true:=by
 constructor
 ·intro h
  rcases qD1 a b with q|q|q
  ·have:=vT.2 q;omega
  ·have:=JK.2 q;omega
  ·exact q
 ·intro h
  rcases Int.lt_trichotomy (mG a b) 0 with q|q|q
  ·exact absurd (vT.1 q) (WJ h)
  ·rw[JK.1 q]at h;exact absurd h (pA b)
  ·exact q
theorem UT {a b:Int}:iM a b=0↔a=b:=by unfold iM;split;omega;split<;>omega
theorem vB {a b:Int}:iM a b<0↔a<b:=by unfold iM;split;omega;split<;>omega
theorem NH {a b:Int}:iM a b>0↔a>b:=by unfold iM;split;omega;split<;>omega
theorem qX0 {t:Int} {a b:Val}:bA t a b=0↔a.1=b.1/\(a.1=false->if t=3 then a.2.2=b.2.2 else a.2.1=b.2.1):=by
 unfold bA;obtain⟨x,y,z⟩:=a;obtain⟨u,v,w⟩:=b;by_cases h:t=3<;>cases x<;>cases u<;>simp [h,JK,UT]
theorem qbU {t:Int} {a b:Val}:bA t a b<0↔(a.1=true/\b.1=false)\/(a.1=false/\b.1=false/\if t=3 then dY a.2.2 b.2.2=true else a.2.1<b.2.1):=by
 unfold bA;obtain⟨x,y,z⟩:=a;obtain⟨u,v,w⟩:=b;by_cases h:t=3<;>cases x<;>cases u<;>simp [h,vT,vB]
theorem qbT {t:Int} {a b:Val}:bA t a b>0↔bA t b a<0:=by
 unfold bA;obtain⟨x,y,z⟩:=a;obtain⟨u,v,w⟩:=b;by_cases h:t=3<;>cases x<;>cases u<;>simp [h,vT,vB]
 ·exact qJU
 ·exact NH
theorem qBS (t:Int) (a b:Val):bA t a b = -1\/bA t a b=0\/bA t a b=1:=by
 unfold bA mG iM;repeat' split
 all_goals simp
theorem SA (t:Int) (a:Val):bA t a a=0:=qX0.2 ⟨rfl,fun _=>by split<;>rfl⟩
theorem qP1 {t:Int} {a b c:Val} (h1:bA t a b<0) (h2:bA t b c<0):bA t a c<0:=by
 rw[qbU]at *;rcases h1 with⟨p,q⟩|⟨p,q,r⟩
 ·rcases h2 with⟨u,v⟩|⟨u,v,w⟩
  ·rw[q]at u;cases u
  ·exact .inl ⟨p,v⟩
 ·rcases h2 with⟨u,v⟩|⟨u,v,w⟩
  ·rw[q]at u;cases u
  ·refine .inr ⟨p,v,?_⟩
   by_cases e:t=3
   ·rw[if_pos e]at *;exact vS r w
   ·rw[if_neg e]at *;omega
theorem qbR {t:Int} {a b c:Val} (h1:bA t a b=0):bA t a c=bA t b c:=by
 obtain⟨x,y,z⟩:=a;obtain⟨u,v,w⟩:=b;obtain⟨p,q⟩:=qX0.1 h1;(try simp only at p q);subst p;unfold bA;cases x
 ·have q:=q rfl
  by_cases e:t=3
  ·rw[if_pos e]at q;simp [e,q]
  ·rw[if_neg e]at q;simp [e,q]
 ·rfl
theorem qbS {t:Int} {a b c:Val} (h1:bA t a b=0):bA t c a=bA t c b:=by
 obtain⟨x,y,z⟩:=a;obtain⟨u,v,w⟩:=b;obtain⟨p,q⟩:=qX0.1 h1;(try simp only at p q);subst p;unfold bA;cases x
 ·have q:=q rfl
  by_cases e:t=3
  ·rw[if_pos e]at q;simp [e,q]
  ·rw[if_neg e]at q;simp [e,q]
 ·rfl
theorem qOP {t:Int} {a b c:Rank} (h1:gC t a b<=0) (h2:gC t b c<0):gC t a c<0:=by
 unfold gC at *;by_cases p:bA t a.1 b.1=0
 ·rw[if_neg (fun q=>q p)]at h1
  rw[qbR p];split at h2
  ·rename_i q;rw[if_pos q];exact h2
  ·rename_i q
   rw[if_neg q];have:=vB.1 h2;have:¬a.2>b.2:=fun q=>by have:=NH.2 q;omega
   exact vB.2 (by omega)
 ·rw[if_pos p]at h1
  have h1:bA t a.1 b.1<0:=by omega
  by_cases q:bA t b.1 c.1=0
  ·rw[<-qbS q,if_pos p];exact h1
  ·rw[if_pos q]at h2
   have:=qP1 h1 h2;rw[if_pos (by omega)];exact this
theorem qS8 (t:Int) (a:Rank):gC t a a=0:=by
 unfold gC;rw[if_neg (fun q=>q (SA _ _)),UT]
theorem qVW {s:Schema} {l:List Rec} (h:SL s l=true) {i:Nat} (hi:i+1<l.length):nE s l[i]! l[i+1]! <0:=
 of_decide_eq_true (List.all_eq_true.1 h i (List.mem_range.2 (by omega)))
theorem VV {s:Schema} {l:List Rec} (h:SL s l=true):∀i:Nat,i<l.length->gC (BR s).2.1 (fK s l[0]!) (fK s l[i]!)<=0
 |0,_=>by rw[qS8];exact Int.le_refl _
 |i+1,hi=>Int.le_of_lt (qOP (VV h i (by omega)) (qVW h hi))
theorem qbW {a c:Int} (ha:0<=a/\a<4294967296) (hc:0<=c/\c<4294967296):lK .u32 a c=((a.toNat ^^^ c.toNat:Nat):Int):=by
 have q:∀x:Int,0<=x/\x<4294967296->(BitVec.ofInt IntKind.u32.bits x).toNat=x.toNat:=by
  intro x hx;rw[BitVec.toNat_ofInt];simp [IntKind.bits];omega
 unfold lK;rw[BitVec.toNat_xor,q a ha,q c hc];have:a.toNat ^^^ c.toNat<2^32:=Nat.xor_lt_two_pow (by omega) (by omega);exact xM (by omega)
theorem qbX {a c:Int} (ha:0<=a/\a<256) (hc:0<=c/\c<256):lK .u8 a c=((a.toNat ^^^ c.toNat:Nat):Int):=by
 have q:∀x:Int,0<=x/\x<256->(BitVec.ofInt IntKind.u8.bits x).toNat=x.toNat:=by
  intro x hx;rw[BitVec.toNat_ofInt];simp [IntKind.bits];omega
 unfold lK;rw[BitVec.toNat_xor,q a ha,q c hc];have:a.toNat ^^^ c.toNat<2^8:=Nat.xor_lt_two_pow (by omega) (by omega);exact AJ (by omega)
theorem xN {a b c:Nat} (h:a ^^^ b=a ^^^ c):b=c:=by
 have:a ^^^ (a ^^^ b)=a ^^^ (a ^^^ c):=by rw[h]
 rwa [<-Nat.xor_assoc,<-Nat.xor_assoc,Nat.xor_self,Nat.zero_xor,Nat.zero_xor]at this
theorem EH {a b c:Nat} (h:b ^^^ a=c ^^^ a):b=c:=by
 rw[Nat.xor_comm b a,Nat.xor_comm c a]at h;exact xN h
def tops:List Nat:=[0,242,225,19,199,53,38,212,138,120,107,153,77,191,172,94,16,226,241,3,215,37,54,196,154,104,123,137,93,175,188,78,32,210,193,51,231,21,6,244,170,88,75,185,109,159,140,126,48,194,209,35,247,5,22,228,186,72,91,169,125,143,156,110,65,179,160,82,134,116,103,149,203,57,42,216,12,254,237,31,81,163,176,66,150,100,119,133,219,41,58,200,28,238,253,15,97,147,128,114,166,84,71,181,235,25,10,248,44,222,205,63,113,131,144,98,182,68,87,165,251,9,26,232,60,206,221,47,130,112,99,145,69,183,164,86,8,250,233,27,207,61,46,220,146,96,115,129,85,167,180,70,24,234,249,11,223,45,62,204,162,80,67,177,101,151,132,118,40,218,201,59,239,29,14,252,178,64,83,161,117,135,148,102,56,202,217,43,255,13,30,236,195,49,34,208,4,246,229,23,73,187,168,90,142,124,111,157,211,33,50,192,20,230,245,7,89,171,184,74,158,108,127,141,227,17,2,240,36,214,197,55,105,155,136,122,174,92,79,189,243,1,18,224,52,198,213,39,121,139,152,106,190,76,95,173]
theorem qTS:cY.map (fun v=>(v/16777216).toNat)=tops:=by kernel_rfl
theorem qPS:(List.range 256).all (fun x=>decide (tops.idxOf tops[x]! =x))=true:=by kernel_rfl
theorem qEC (x:Nat):0<=cY[x]! /\cY[x]! <4294967296:=by
 by_cases h:x<cY.length
 ·rw[getElem!_pos cY x h]
  simp only[cY,List.getElem_map,List.getElem_range];show 0<=zS 7 (rnd (x:Int))/\zS 7 (rnd (x:Int))<4294967296;have H:∀(n:Nat) (v:Int),0<=v/\v<4294967296->0<=zS n v/\zS n v<4294967296:=by
   intro n;induction n with
   |zero=>intro v h;exact h
   |succ n ih=>intro v _;exact ih _ (qOR v)
  exact H 7 _ (qOR _)
 ·rw[getElem!_neg cY x h];exact⟨by decide,by decide⟩
theorem qED {x y:Nat} (hx:x<256) (hy:y<256) (h:cY[x]! /16777216=cY[y]! /16777216):x=y:=by
 have e:∀z,z<256->tops[z]! =(cY[z]! /16777216).toNat:=fun z hz=>by
  have hl:z<cY.length:=by rw[rP];exact hz
  rw[<-qTS,getElem!_pos _ z (by rw[List.length_map];exact hl),List.getElem_map,getElem!_pos cY z hl]
 have i:∀z,z<256->tops.idxOf tops[z]! =z:=fun z hz=>of_decide_eq_true (List.all_eq_true.1 qPS z (by simpa using hz))
 rw[<-i x hx,<-i y hy,e x hx,e y hy,h]
def ix (v b:Int):Nat:=(lK .u8 (IntKind.u8.wrap v) b).toNat
theorem qC1 (v b:Int):ix v b<256:=by have:=xV (IntKind.u8.wrap v) b;unfold ix;omega
theorem qb1 {v:Int} (h:0<=v):jC .u32 v 8=v/256:=(qD3 h).1
theorem ZH {v b:Int} (hv:0<=v/\v<4294967296):cstep cY v b=(((v/256).toNat ^^^ (cY[ix v b]!).toNat:Nat):Int):=by
 unfold cstep;rw[qb1 hv.1,qbW (by omega) (qEC _)];rfl
theorem HN (v b:Int):0<=cstep cY v b/\cstep cY v b<4294967296:=tD _ _
theorem QC {v b:Int} (hv:0<=v/\v<4294967296):cstep cY v b/16777216=cY[ix v b]! /16777216:=by
 have ht:=qEC (ix v b);obtain⟨T,hT⟩:=Int.eq_ofNat_of_zero_le ht.1;obtain⟨A,hA⟩:=Int.eq_ofNat_of_zero_le (show 0<=v/256 by omega);rw[ZH hv,hT,hA,Int.toNat_natCast,Int.toNat_natCast];have hA2:A<16777216:=by omega
 have e:(A ^^^ T)/16777216=T/16777216:=by
  rw[show 16777216=2^24 from rfl,<-Nat.shiftRight_eq_div_pow,<-Nat.shiftRight_eq_div_pow,Nat.shiftRight_xor_distrib,show A >>> 24=0 by rw[Nat.shiftRight_eq_div_pow];omega,Nat.zero_xor]
 omega
theorem qV1 {v b v' b':Int} (hv:0<=v/\v<4294967296) (hv':0<=v'/\v'<4294967296) (h:cstep cY v b=cstep cY v' b'):ix v b=ix v' b'/\v/256=v'/256:=by
 have h1:=QC (b:=b) hv;have h2:=QC (b:=b') hv';have e:ix v b=ix v' b':=qED (qC1 _ _) (qC1 _ _) (by rw[<-h1,<-h2,h]);refine⟨e,?_⟩;rw[ZH hv,ZH hv',e]at h;have:=EH (Int.ofNat.inj h);omega
theorem qC0 {v b:Int} (hb:0<=b/\b<256):ix v b=(v%256).toNat ^^^ b.toNat:=by
 unfold ix;rw[pG,qbX (by omega) hb];rfl
theorem qR4 {v b b':Int} (hb:0<=b/\b<256) (hb':0<=b'/\b'<256) (h:ix v b=ix v b'):b=b':=by
 rw[qC0 hb,qC0 hb']at h;have:=xN h;omega
theorem qM8 {v v' b:Int} (hv:0<=v) (hv':0<=v') (hb:0<=b/\b<256) (h:ix v b=ix v' b):v%256=v'%256:=by
 rw[qC0 hb,qC0 hb]at h;have:=EH h;omega
def JA (L:List Int) (v:Int):Int:=L.foldl (cstep cY) v
theorem JB:∀(L:List Int) (v:Int),0<=v/\v<4294967296->0<=JA L v/\JA L v<4294967296
 | [],v,h=>h
 |b::L,v,_=>JB L _ (HN v b)
theorem WE (A B:List Int) (v:Int):JA (A++B) v=JA B (JA A v):=by unfold JA;rw[List.foldl_append]
theorem qD0:∀(L:List Int) (v v':Int),(∀b,b∈L->0<=b/\b<256)->0<=v/\v<4294967296->0<=v'/\v'<4294967296->v≠v'->JA L v≠JA L v'
 | [],v,v',_,_,_,h=>h
 |b::L,v,v',hL,hv,hv',h=>by
  have hb:=hL b (by simp);refine qD0 L _ _ (fun x hx=>hL x (List.mem_cons_of_mem _ hx)) (HN v b) (HN v' b) (fun q=>h ?_);obtain⟨h1,h2⟩:=qV1 hv hv' q;have h3:=qM8 hv.1 hv'.1 hb h1;omega
theorem qLJ {v b b':Int} (hv:0<=v/\v<4294967296) (hb:0<=b/\b<256) (hb':0<=b'/\b'<256) (h:b≠b'):cstep cY v b/16777216≠cstep cY v b'/16777216:=fun q=>by
 rw[QC hv,QC hv]at q;exact h (qR4 hb hb' (qED (qC1 _ _) (qC1 _ _) q))
theorem qQO {v:Int} (h:0<=v/\v<4294967296):bnot v=4294967295-v:=by
 unfold bnot lK;rw[show BitVec.ofInt IntKind.u32.bits (-1)=BitVec.allOnes IntKind.u32.bits from rfl,BitVec.allOnes_xor,BitVec.toNat_not,BitVec.toNat_ofInt];have e2:(2:Nat)^IntKind.u32.bits=4294967296:=rfl;have e3:((2^IntKind.u32.bits-1-(v%((2^IntKind.u32.bits:Nat):Int)).toNat:Nat):Int)=4294967295-v:=by
  rw[e2];omega
 rw[e3,xM (by omega)]
theorem qCB (s:ByteArray):jS s=4294967295-JA (aE s) 4294967295:=by
 have h:=JB (aE s) 4294967295 (by decide);unfold jS AF;rw[if_pos rP];exact qQO h
theorem qMP {v w:Int} (hv:0<=v/\v<4294967296) (hw:0<=w/\w<4294967296) (h:four v=four w):v=w:=by
 have r:=qY w;obtain⟨h1,h2,h3⟩:=qD3 hw.1;have e:=(qRP (v:=v) hv (r (IntKind.u8.wrap w) (by simp [four])) (r (IntKind.u8.wrap (jC .u32 w 8)) (by simp [four])) (r (IntKind.u8.wrap (jC .u32 w 16)) (by simp [four])) (r (IntKind.u8.wrap (jC .u32 w 24)) (by simp [four]))).1 h;rw[h1,h2,h3,pG,pG,pG,pG]at e;omega
theorem qKE {x a:Int} (hx:0<=x/\x<256) (ha:0<=a/\a<256):lK .u8 x a=x↔a=0:=by
 rw[qbX hx ha];constructor
 ·intro h
  have h2:x.toNat ^^^ a.toNat=x.toNat ^^^ 0:=by rw[Nat.xor_zero];omega
  have:=xN h2;omega
 ·intro h
  subst h;rw[show(0:Int).toNat=0 from rfl,Nat.xor_zero];omega
theorem qXN {L:List Int} {j:Nat} {x:Int} (h:j<L.length) (hx:x≠L[j]!):L.set j x≠L:=fun q=>by
 have:(L.set j x)[j]! =L[j]!:=congrArg (fun l:List Int=>l[j]!) q;rw[getElem!_pos (L.set j x) j (by rw[List.length_set];exact h),List.getElem_set_self]at this;exact hx this
theorem qM6 (b:ByteArray) (j:Nat) {x:Int} (hx:0<=x/\x<256):aE (aV ((aE b).set j x))=(aE b).set j x:=aU fun y hy=>by
 rcases List.mem_or_eq_of_mem_set hy with q|q
 ·exact sJ q
 ·rw[q];exact hx
theorem qVV {A B:List Int} {j:Nat}:(A++B)[j]! =if j<A.length then A[j]! else B[j-A.length]!:=by
 rw[List.getElem!_eq_getElem?_getD,List.getElem?_append];split
 ·rw[List.getElem!_eq_getElem?_getD]
 ·rw[List.getElem!_eq_getElem?_getD]
theorem qTD {L:List Int} {j:Nat} {x v:Int} (hL:∀b,b∈L->0<=b/\b<256) (hv:0<=v/\v<4294967296) (h:j<L.length) (hr:0<=x/\x<256) (hx:x≠L[j]!):JA (L.set j x) v≠JA L v:=by
 have e1:L=L.take j++L[j]! ::L.drop (j+1):=by
  rw[getElem!_pos L j h,<-List.drop_eq_getElem_cons h,List.take_append_drop]
 have e2:L.set j x=L.take j++x::L.drop (j+1):=List.set_eq_take_append_cons_drop.trans (if_pos h);have hb:=hL L[j]! (by rw[getElem!_pos L j h];exact List.getElem_mem h);intro q;rw[e2]at q;conv at q=>rhs;rw[e1]
 rw[WE,WE]at q;have hw:=JB (L.take j) v hv;refine qD0 (L.drop (j+1)) _ _ (fun b hb=>hL b (List.mem_of_mem_drop hb)) (HN _ _) (HN _ _) (fun e=>?_) q;exact qLJ hw hr hb hx (congrArg (· /16777216) e)
theorem qQ0 {B u:ByteArray} {j:Nat} {x:Int} (h:j<B.size) (hr:0<=x/\x<256) (hx:x≠(aE B)[j]!) (hu:aE u=(aE B).set j x):jS u≠jS B:=fun q=>by
 rw[qCB,qCB,hu]at q;exact qTD (v:=4294967295) (fun b=>sJ) ⟨by decide,by decide⟩ (by rw[aQ];exact h) hr hx (by omega)
theorem CD (B:ByteArray):aE (bU B)=aE B++four (jS B):=by unfold bU;rw[aX,aU (qY _)]
theorem qO2 {B u:ByteArray} {j:Nat} {x:Int} (hj:j<B.size+4) (hr:0<=x/\x<256) (hx:x≠(aE (bU B))[j]!) (hu:aE u=(aE (bU B)).set j x):¬bU (gV u)=u:=fun q=>by
 have hz:u.size=B.size+4:=by
  have:=congrArg List.length hu;rw[List.length_set,aQ,aQ,jJ]at this;exact this
 have hb:=BD (s:=u) (by omega);have q1:aE (gV u)++four (jS (gV u))=aE u:=by rw[<-CD,q]
 rw[hu]at q1;rw[CD,qVV,aQ]at hx;rw[CD]at q1;rcases Nat.lt_or_ge j B.size with g|g
 ·rw[if_pos g]at hx
  rw[List.set_append_left _ _ (by rw[aQ];exact g)]at q1;obtain⟨q2,q3⟩:=List.append_inj q1 (by rw[List.length_set,aQ,aQ];omega);exact qQ0 g hr hx q2 (qMP (TQ _) (TQ _) q3)
 ·rw[if_neg (by omega)]at hx
  rw[List.set_append_right _ _ (by rw[aQ];exact g),aQ]at q1;obtain⟨q2,q3⟩:=List.append_inj q1 (by rw[aQ,aQ];omega);rw[fG q2]at q3;exact qXN (by show _<4;omega) hx q3.symm
theorem qQD {b c:Int} (hb:0<=b/\b<256) (hc:0<=c/\c<256):lK .u8 b (IntKind.u8.wrap (1+c.tmod 255))≠b:=fun q=>by
 rw[Int.tmod_eq_emod_of_nonneg hc.1,AJ (by omega)]at q;have:=(qKE hb (by omega)).1 q;omega
def qT4 (c:Col) (k:Int) (z:Int×Val×Val):Prop:=(0<=z.1/\z.1<=k)/\(z.1>0->c.2.2.2=true)/\(z.1=k->z.2.1=eT/\z.2.2=eT) /\
 (z.1<k->z.2.1.1=false/\z.2.2.1=false/\bE c z.2.1=0/\bE c z.2.2=0/\(bA c.2.1 z.2.1 z.2.2<0/\k-z.1>1\/bA c.2.1 z.2.1 z.2.2=0))
theorem HG {c:Col} {v:Val} (h:bE c v=0) (hn:v.1=true):c.2.2.2=true:=by
 cases q:c.2.2.2 with
 |true=>rfl
 |false=>
  unfold bE at h;rw[hn,q]at h;repeat' split at h
  all_goals first|(cases h;done)|(simp_all;done)
theorem DJ {c:Col} {v:Val} (h:bE c v=0):bV c.2.1=true:=by
 cases q:bV c.2.1 with
 |true=>rfl
 |false=>unfold bE at h;rw[if_pos q]at h;cases h
theorem qKF {c:Col} {k:Int} {z:Int×Val×Val} {v:Val} (h:qT4 c k z) (hv:bE c v=0):qT4 c (k+1) (uO c.2.1 z v):=by
 obtain⟨h1,h2,h3,h4⟩:=h;obtain⟨n,a,b⟩:=z;(try simp only at h1 h2 h3 h4);by_cases q:v.1=true
 ·rw[uO,if_pos q]
  refine⟨⟨by simp only;omega,by simp only;omega⟩,fun _=>HG hv q,fun e=>h3 (by simp only at e;omega),fun e=>?_⟩;(try simp only at e);obtain⟨p1,p2,p3,p4,p5⟩:=h4 (by omega);refine⟨p1,p2,p3,p4,?_⟩;rcases p5 with⟨e1,e2⟩|e1
  ·exact .inl ⟨e1,by simp only;omega⟩
  ·exact .inr e1
 ·have q:v.1=false:=by simpa using q
  rw[SC q];refine⟨⟨h1.1,by simp only;omega⟩,h2,fun e=>absurd e (by simp only;omega),fun _=>?_⟩;simp only;rcases Int.lt_or_eq_of_le h1.2 with g|g
  ·obtain⟨p1,p2,p3,p4,p5⟩:=h4 g
   have hab:bA c.2.1 a b<=0:=by rcases p5 with⟨e,_⟩|e<;>omega
   have ea:nH c.2.1 (-1) a v=if bA c.2.1 v a = -1 then v else a:=by
    rw[nH,if_neg (fun e=>by rw[p1]at e;cases e.1),if_neg (by rw[p1];exact Bool.noConfusion),if_neg (by rw[q];exact Bool.noConfusion)]
   have eb:nH c.2.1 1 b v=if bA c.2.1 v b=1 then v else b:=by
    rw[nH,if_neg (fun e=>by rw[p2]at e;cases e.1),if_neg (by rw[p2];exact Bool.noConfusion),if_neg (by rw[q];exact Bool.noConfusion)]
   rw[ea,eb];have key:∀x y:Val,bA c.2.1 x y<=0->(bA c.2.1 x y<0/\k+1-n>1\/bA c.2.1 x y=0):=fun x y e=>by
    rcases Int.lt_or_eq_of_le e with e|e
    ·exact .inl ⟨e,by omega⟩
    ·exact .inr e
   by_cases u:bA c.2.1 v a = -1
   ·rw[if_pos u]
    by_cases w:bA c.2.1 v b=1
    ·rw[if_pos w];exact⟨q,q,hv,hv,.inr (SA _ _)⟩
    ·rw[if_neg w]
     refine⟨q,p2,hv,p4,key _ _ ?_⟩;have:=qBS c.2.1 v b;omega
   ·rw[if_neg u]
    by_cases w:bA c.2.1 v b=1
    ·rw[if_pos w]
     refine⟨p1,q,p3,hv,key _ _ ?_⟩;have:=qBS c.2.1 a v;have h5:¬bA c.2.1 a v>0:=fun e=>by
      have:=qbT.1 e;have:=qBS c.2.1 v a;omega
     omega
    ·rw[if_neg w];exact⟨p1,p2,p3,p4,key _ _ hab⟩
  ·obtain⟨p1,p2⟩:=h3 g
   subst p1 p2;have ea:∀t,nH c.2.1 t eT v=v:=fun t=>by
    rw[nH,if_neg (fun e=>by rw[q]at e;cases e.2),if_pos rfl]
   rw[ea,ea];exact⟨q,q,hv,hv,.inr (SA _ _)⟩
theorem YN {c:Col}:∀(l:List Val) (k:Int) (z:Int×Val×Val),qT4 c k z->(∀v,v∈l->bE c v=0)->qT4 c (k+l.length) (zGo c.2.1 l z)
 | [],k,z,h,_=>by rw[List.length_nil,Int.natCast_zero,Int.add_zero];exact h
 |v::l,k,z,h,hv=>by
  have:=YN l (k+1) (uO c.2.1 z v) (qKF h (hv v (List.mem_cons_self ..))) fun x hx=>hv x (List.mem_cons_of_mem _ hx)
  rw[List.length_cons,show k+((l.length+1:Nat):Int)=k+1+l.length by omega];exact this
theorem qT8 {c:Col} {l:List Val} (h0:l≠ []) (hl:l.length<=4096) (hv:∀v,v∈l->bE c v=0):lJ c (pJ c.2.1 l)=true:=by
 have hk:bV c.2.1=true:=by
  cases l with
  |nil=>exact absurd rfl h0
  |cons v l=>exact DJ (hv v (List.mem_cons_self ..))
 have h:=YN (c:=c) l 0 (0,eT,eT) ⟨⟨Int.le_refl _,Int.le_refl _⟩,fun e=>absurd e (by decide),fun _=>⟨rfl,rfl⟩,fun e=>absurd e (by decide)⟩ hv;rw[Int.zero_add]at h;obtain⟨h1,h2,h3,h4⟩:=h;unfold lJ pJ;simp only;rw[if_neg]
 ·by_cases q:(zGo c.2.1 l (0,eT,eT)).1=l.length
  ·rw[if_pos q,(h3 q).1,(h3 q).2];rfl
  ·obtain⟨p1,p2,p3,p4,p5⟩:=h4 (by omega)
   rw[if_neg q,if_neg]
   ·rcases p5 with⟨e1,e2⟩|e1
    ·rw[decide_eq_true e1,decide_eq_true e2];rfl
    ·rw[decide_eq_true e1,Bool.or_true]
   ·rw[p1,p2]
    rintro(e|e|e|e)
    ·cases e
    ·cases e
    ·exact e p3
    ·exact e p4
 ·rw[hk]
  rintro(e|e|e|e|⟨e,e2⟩)
  ·cases e
  ·omega
  ·omega
  ·omega
  ·rw[h2 e]at e2;cases e2
theorem qC7 {s:Schema} {l:List Rec} (hs:cW s l=true) (hi:wA l) (hl:l.length<=1024) (h0:l.length≠0):Made s l:=by
 have hv:=cD hs;refine⟨(dZ hv).1,by omega,?_,?_,fQ hv hi (by omega),fQ hv hi (by omega),?_⟩
 ·intro c hc
  obtain⟨i,hr,rfl⟩:=List.mem_map.1 hc;rw[List.mem_range]at hr;rcases Nat.lt_or_ge i s.1.length with q|q
  ·rw[uW q];exact pW (by rw[fU];omega) fun v h=>dM (kM hv hi q v h).1 (kM hv hi q v h).2
  ·have:i=s.1.length:=by omega
   subst this;rw[tK];exact pW (by simp [dQ];omega) fun v h=>dM (qP hv v h).1 (qP hv v h).2
 ·intro i q
  refine⟨vY (by rw[fU];omega) fun v h=>yY (kM hv hi q v h),qT8 (fun e=>h0 ?_) (by rw[fU];omega) fun v h=>(kM hv hi q v h).1⟩;have:=fU l i;rw[e]at this;exact this.symm
 ·have ha:SL s l=true:=by
    unfold cW at hs;exact(Bool.and_eq_true_iff.1 hs).2
  have:=VV ha (l.length-1) (by omega);omega
theorem SQ {t:Int} {l:List Val}:∀(n:Nat) (k:Int) (b:ByteArray),(∃j,cB t j=true/\b=dR t j l)->∃j,cB t j=true/\bst t l n k b=dR t j l
 |0,k,b,h=>h
 |n+1,k,b,h=>by
  refine SQ n (k+1) _ ?_;split
  ·rename_i hu
   split
   ·exact⟨k,hu,rfl⟩
   ·exact h
  ·exact h
theorem UF {c:Col} {l:List Val} (hc:bV c.2.1=true) (hl:l.length<=4096) (hv:∀v,v∈l->bE c v=0):∃j,cB c.2.1 j=true/\iL c l=(dR c.2.1 j l,0):=by
 have ha:iU c l=0:=by
  induction l with
  |nil=>rfl
  |cons v l ih=>rw[iU,if_neg (fun q=>q (hv v (List.mem_cons_self ..)))];exact ih (by rw[List.length_cons]at hl;omega) fun x hx=>hv x (List.mem_cons_of_mem _ hx)
 have hu:cB c.2.1 1=true:=by unfold cB;split<;>rfl
 obtain⟨j,h1,h2⟩:=SQ (t:=c.2.1) (l:=l) 3 (1+1) (dR c.2.1 1 l) ⟨1,hu,rfl⟩;refine⟨j,h1,?_⟩;rw[iL,if_neg (by rw[hc];exact Bool.noConfusion),if_neg (by omega),if_neg (fun q=>q ha),<-h2];refine Prod.ext ?_ rfl;show bst c.2.1 l 4 1 ⟨#[]⟩=_;rw[bst,if_pos hu,if_pos (.inl rfl)]
theorem qL7 {c:Col} {l:List Val} (hc:bV c.2.1=true) (hl:l.length<=4096) (hv:∀v,v∈l->bE c v=0/\okV v):jV c (iL c l).1=(l,0):=by
 obtain⟨j,h1,h2⟩:=UF hc hl fun v h=>(hv v h).1
 rw[h2];exact qIA hc h1 hl hv
theorem qTI {s:Schema} {l:List Rec} (hv:cV s l=true) (hl:l.length<=1024):jV qO (iL qO (dQ l)).1=(dQ l,0):=
 qL7 rfl (by simp [dQ];omega) fun v h=>⟨(qP hv v h).1,dM (qP hv v h).1 (qP hv v h).2⟩
theorem qIK {s:Schema} {l:List Rec} {C:ByteArray} (m:Made s l) (hC:C.size=(cH (chnks s l)).size):bI s (cX C (bU (fD s l)))=bI s (dO s l):=by
 have hsz:=qCL m;rw[dO,BJ m.sch (by omega) hsz.2,BJ m.sch (by omega) hsz.2,mI,mI,hC]
theorem TN {s:Schema} {l:List Rec} {cs:List ByteArray} (m:Made s l) (hz:cs.map gM=(chnks s l).map gM) {i:Nat} (hi:i<s.1.length+1) :
  gZ s (cX (cH cs) (bU (fD s l))) i=if(jV (iV s i) cs[i]!).2≠0 then([],(jV (iV s i) cs[i]!).2)else if((jV (iV s i) cs[i]!).1.length:Int)≠(l.length:Int)then([],2)else((jV (iV s i) cs[i]!).1,0):=by
 have hlen:cs.length=s.1.length+1:=by
  have:=congrArg List.length hz;rw[List.length_map,List.length_map,fP]at this;exact this
 have hC:(cH cs).size=(cH (chnks s l)).size:=by
  have h1:=oH cs;have h2:=oH (chnks s l);rw[hz]at h1;omega
 obtain⟨r,hr⟩:=EG (C:=cH cs) (F:=bU (fD s l));have hp:zK (cX (cH cs) (bU (fD s l))) ((chnks s l).map gM) (i:Int)=cs[i]!:=by rw[<-hz];exact qDM (by omega) hr
 unfold gZ qH5;rw[qIK m hC,qX m];simp only;rw[if_neg (fun q=>q rfl),if_neg (by rw[List.length_map,fP];omega)];unfold chV jR;simp only;rw[hp]
theorem qB9 {s:Schema} {l:List Rec} {cs:List ByteArray} (m:Made s l) (hv:cV s l=true) (hz:cs.map gM=(chnks s l).map gM) (he:cs[s.1.length]! =chnk s l s.1.length):gZ s (cX (cH cs) (bU (fD s l))) (s.1.length:Int)=(dQ l,0):=by
 have hd:=qTI hv m.len.2;have hc:iV s (s.1.length:Int)=qO:=by rw[iV,if_pos rfl]
 rw[TN m hz (Nat.lt_succ_self _),he,tK,hc,hd];simp only;rw[if_neg (fun q=>q rfl),if_neg (fun q=>q (by simp [dQ]))]
theorem qLK {c F:ByteArray} {cs:List ByteArray} {z:Int} (hz:0<=z/\z<256) (hc:0<c.size) :
  ((cX (cH (c::cs)) F).extract 0 4++⟨#[UInt8.ofNat z.toNat]⟩)++(cX (cH (c::cs)) F).extract 5 (cX (cH (c::cs)) F).size=cX (cH (aV ((aE c).set 0 z)::cs)) F/\aG (cX (cH (c::cs)) F) 4=(aE c)[0]!:=by
 have e:(⟨#[UInt8.ofNat z.toNat]⟩:ByteArray)=aV [z]:=rfl;have hm:(aE jF).length=4:=rfl;have hcl:0<(aE c).length:=by rw[aQ];exact hc
 obtain⟨b,r,hb⟩:∃b r,aE c=b::r:=by
  cases h:aE c with
  |nil=>rw[h]at hcl;cases hcl
  |cons b r=>exact⟨b,r,rfl⟩
 have hw:=rL (C:=cH (c::cs)) (F:=F);rw[cH,aX,hb]at hw;have hr:∀y,y∈(aE c).set 0 z->0<=y/\y<256:=fun y hy=>by
  rcases List.mem_or_eq_of_mem_set hy with q|q
  ·exact sJ q
  ·rw[q];exact hz
 refine⟨fG ?_,?_⟩
 ·have hn:(aE (cX (cH (c::cs)) F)).length=(cX (cH (c::cs)) F).size:=aQ _
  rw[e,aX,aX,aU (fun y hy=>by rw[List.mem_singleton.1 hy];exact hz),tW,tW,List.drop_zero,Nat.sub_zero,List.take_of_length_le (l:=(aE (cX (cH (c::cs)) F)).drop 5) (by rw[List.length_drop,hn];exact Nat.le_refl _),rL (C:=cH (aV ((aE c).set 0 z)::cs)),cH,cH,aX,aU hr,hw,hb,List.set_cons_zero];simp only[List.cons_append,List.append_assoc];rw[List.take_left' hm,show(5:Nat)=4+1 from rfl,<-List.drop_drop,List.drop_left' hm];rfl
 ·have hw2:aE (cX (cH (c::cs)) F)=aE jF++(b::r++aE (cH cs)++(aE F++(four (F.size:Int)++aE jF))):=by rw[rL,cH,aX,hb]
  rw[<-gJ,hw2,hb];simp only[List.cons_append];rw[List.getElem!_eq_getElem?_getD,List.getElem?_append_right (by rw[hm];exact Nat.le_refl _),hm];rfl
theorem qDH {c:Col} {v:Val} (hc:c.2.1=1) (hn:v.1=false) (hv:bE c v=0) (hi:inI v.2.1) (hz:v.2.2=⟨#[]⟩):jV c (dR 1 1 [v])=([v],0):=by
 have hsome:bL [v]= [v]:=by simp [bL,hn]
 have hB:(aE (bW 1 1 [v])).drop 0=1::(put 1++(put 0++(put (dG v.2.1)++ []))):=by
  rw[List.drop_zero,tL (by rw[hsome];exact Nat.lt_irrefl _),hsome,rA,hsome];show aE (((aV [IntKind.u8.wrap 1]++aV (put 1))++aV (put 0))++(plV 1 v++ByteArray.empty))=_;rw[ByteArray.append_empty,plV,if_neg (by decide),aX,aX,aX,aU (fun b hb=>by rw[List.mem_singleton.1 hb];exact lI 1),aU (eI ⟨by decide,by decide⟩),aU (eI ⟨by decide,by decide⟩),aU (eI (gE hi)),List.append_nil,AJ ⟨by decide,by decide⟩];simp only[List.append_assoc,List.singleton_append,List.cons_append,List.nil_append]
 have hsz:=(pT (t:=1) (k:=1) (l:=[v]) (fun x hx=>by rw[List.mem_singleton.1 hx];exact dM hv hi) (by simp)).2;obtain⟨o1,o2⟩:=NX hsz;generalize hBB:bW 1 1 [v]=B at *;obtain⟨b1,d1,_⟩:=rR hB;obtain⟨g1,g2,_⟩:=mN (u:=1) ⟨by decide,by decide⟩ d1;obtain⟨k1,k2,k3⟩:=mN (u:=0) ⟨by decide,by decide⟩ g2;rw[show((0+1:Nat):Int)=1 from rfl]at g1;generalize hA:0+1+(put 1).length+(put 0).length=A at k1 k2 k3;have hP:aE (B.extract A B.size)=put (dG v.2.1):=by
  rw[tW,k2,List.append_nil];have:=congrArg List.length k2;simp only[List.length_drop,aQ,List.append_nil]at this;rw[List.take_of_length_le (by omega)]
 generalize hPP:B.extract A B.size=P at hP;obtain⟨p1,p2,p3⟩:=mN (s:=P) (a:=0) (r:=[]) (gE hi) (by rw[List.drop_zero,hP,List.append_nil]);have pl:=congrArg List.length p2;simp only[List.length_drop,aQ,List.length_nil]at pl;have hus:cB c.2.1 (aG B (0:Int).toNat)=true:=by
  rw[show aG B (0:Int).toNat=1 from b1,show c.2.1=1 from hc];rfl
 have e1:(aA B 1).2.1=((0+1+(put 1).length:Nat):Int):=by rw[g1]
 have e2:aA B (aA B 1).2.1=(0,(A:Int),0):=by rw[e1,k1]
 have hp:=xX (c:=c) hus (by rw[g1]) (by rw[g1];decide) (by rw[e2]) (by rw[e2,g1];show(0:Int)<=1;decide);have hr:gD c.2.1 (aG B (0:Int).toNat) (B.extract ((A:Int)).toNat B.size) (1-0)=([v],true):=by
  rw[show aG B (0:Int).toNat=1 from b1,qUN rfl,Int.toNat_natCast,hPP];show jX c.2.1 P 1 0 []=_;rw[jX,show(0:Int)=((0:Nat):Int)from rfl,p1,if_neg (fun q=>q rfl),if_neg (by rw[show c.2.1=1 from hc];decide),jX];refine Prod.ext ?_ (decide_eq_true (by simp only;omega));simp only[vX,List.nil_append];obtain⟨x,y,z⟩:=v;(try simp only at hn hz);subst hn hz;rfl
 have hb:nU c B=([v],true):=by
  rw[hp,e2,g1];show BC c B 1 0 (eS B (A:Int) 1 0)=_;rw[uC (by decide),xW (by rw[hr]),hr];show asm c [false] [v] []=_;have q1:pkV false [v]=v:=rfl;rw[asm,q1,if_neg (fun q=>q hv)];rfl
 rw[dR,hBB,ZO (by rw[show c.2.1=1 from hc];rfl) o1 (by rw[o2,hb]),o2,hb]
theorem qCH {c:Col} {v:Val} (hc:c.2.1=1) (hn:v.1=false) (hv:bE c v=0) (hi:inI v.2.1):iL c [v]=(dR 1 1 [v],0):=by
 have hsome:bL [v]= [v]:=by simp [bL,hn]
 have hok:∀x,x∈ [v]->okV x:=fun x hx=>by rw[List.mem_singleton.1 hx];exact dM hv hi
 have hz:∀k,(dR 1 k [v]).size=1+(put 1).length+(put 0).length+(kV 1 k [v]).size+4:=fun k=>by
  rw[dR,jJ,tL (by rw[hsome];exact Nat.lt_irrefl _),hsome,rA,hsome];show((aV [IntKind.u8.wrap k]++aV (put 1))++aV (put 0)++kV 1 k [v]).size+4=_;simp only[ByteArray.size_append,bP,List.length_cons,List.length_nil]
 have s1:(kV 1 1 [v]).size=(put (dG v.2.1)).length:=by
  show(plV 1 v++ByteArray.empty).size=_;rw[ByteArray.append_empty,plV,if_neg (by decide),bP]
 have s2:(put (dG v.2.1)).length<=(kV 1 2 [v]).size:=by
  show _<=(aV (xB (runs [v.2.1]))).size;rw[bP,runs,xB];simp only[List.length_append];omega
 have s4:(put (dG v.2.1)).length<=(kV 1 4 [v]).size:=by
  show _<=(eO [v.2.1]).size;rw[eO,if_neg (by simp),ByteArray.size_append,bP];show(put (dG v.2.1)).length<=(put (dG v.2.1)).length+_;omega
 have hne:∀k,¬(dR 1 1 [v]=⟨#[]⟩\/(dR 1 k [v]).size<(dR 1 1 [v]).size)\/(kV 1 k [v]).size<(kV 1 1 [v]).size:=fun k=>by
  rw[hz k,hz 1];by_cases q:(kV 1 k [v]).size<(kV 1 1 [v]).size
  ·exact .inr q
  ·refine .inl ?_
   rintro(p|p)
   ·have:=hz 1
    rw[p]at this;have e:(⟨#[]⟩:ByteArray).size=0:=rfl;omega
   ·omega
 have n2:=(hne 2).resolve_right (by omega);have n4:=(hne 4).resolve_right (by omega);have hch:iU c [v]=0:=by rw[iU,if_neg (fun q=>q hv)];rfl
 rw[iL,show c.2.1=1 from hc,if_neg (by decide),if_neg (show ¬ [v].length>4096 by simp),if_neg (fun q=>q hch)];refine Prod.ext ?_ rfl;show bst 1 [v] 4 1 ⟨#[]⟩=_;rw[bst,if_pos (show cB 1 1=true from rfl),if_pos (.inl rfl),bst,if_pos (show cB 1 (1+1)=true from rfl),show(1:Int)+1=2 from rfl,if_neg n2,bst,if_neg (show ¬cB 1 (2+1)=true by decide),show(2:Int)+1=3 from rfl,bst,if_pos (show cB 1 (3+1)=true from rfl),show(3:Int)+1=4 from rfl,if_neg n4,bst]
def oU:Schema:=([(⟨#[97]⟩,1,0,false)],0)
def rD:List Rec:=[(4,[(false,7,⟨#[]⟩)])]
theorem RJ:∃p:Schema×List Rec,p=(oU,rD):=⟨_,rfl⟩
noncomputable def qI0:Schema:=(Classical.choose RJ).1
noncomputable def qIZ:List Rec:=(Classical.choose RJ).2
theorem qDG:qI0=oU:=by rw[qI0,Classical.choose_spec RJ]
theorem zH:qIZ=rD:=by rw[qIZ,Classical.choose_spec RJ]
theorem qXL {l:List Rec} {m:Nat} (h:∀r,r∈l->r.2.length<=m) (i:Nat):(l[i]!).2.length<=m:=by
 by_cases q:i<l.length
 ·rw[getElem!_pos l i q];exact h _ (List.getElem_mem q)
 ·rw[getElem!_neg l i q];exact Nat.zero_le _
theorem qSX (i:Nat):(rD[i]!).2.length<=1099511627776:=qXL (fun r hr=>by
 rw[rD,List.mem_singleton]at hr;subst hr;show 1<=1099511627776;decide) i
theorem sA:wA rD:=by
 intro r hr v hv;rw[rD,List.mem_singleton]at hr;subst hr;rw[List.mem_singleton]at hv;subst hv;unfold inI;decide
theorem xI:cW oU rD=true:=by kernel_rfl
theorem VB:Made oU rD:=by
 have hv:=cD xI;refine⟨(dZ hv).1,by decide,?_,?_,fQ hv sA (by decide),fQ hv sA (by decide),by decide⟩
 ·intro c hc
  obtain⟨i,hi,rfl⟩:=List.mem_map.1 hc;rw[List.mem_range]at hi;rcases Nat.lt_or_ge i oU.1.length with q|q
  ·rw[uW q];exact pW (by rw[fU];decide) fun v h=>dM (kM hv sA q v h).1 (kM hv sA q v h).2
  ·have:i=oU.1.length:=by omega
   subst this;rw[tK];exact pW (by decide) fun v h=>dM (qP hv v h).1 (qP hv v h).2
 ·intro i hi
  have:i=0:=by have:oU.1.length=1:=rfl;omega
  subst this;refine⟨vY (by decide) fun v h=>yY (kM hv sA (by decide) v h),by kernel_rfl⟩
theorem qA1:∀i:Nat,i<oU.1.length+1->jV (iV oU i) (chnk oU rD i)=(yT oU rD i,0):=by
 intro i hi;have hl:oU.1.length=1:=rfl;rcases(show i=0\/i=1 by omega)with rfl|rfl
 ·show jV (⟨#[97]⟩,1,0,false) (iL (⟨#[97]⟩,1,0,false) [(false,7,⟨#[]⟩)]).1=([(false,7,⟨#[]⟩)],0)
  rw[qCH rfl rfl rfl (by unfold inI;decide)];exact qDH rfl rfl rfl (by unfold inI;decide) rfl
 ·show jV qO (iL qO [(false,4,⟨#[]⟩)]).1=([(false,4,⟨#[]⟩)],0)
  rw[qCH rfl rfl rfl (by unfold inI;decide)];exact qDH rfl rfl rfl (by unfold inI;decide) rfl
theorem qDI:(fJ qI0 qIZ).2=0/\sX qI0 (fJ qI0 qIZ).1=(qIZ,0):=by
 rw[qDG,zH];have he:fJ oU rD=(dO oU rD,0):=by
  rw[fJ,if_neg (fun q=>q VB.sch),if_neg (by decide),if_neg];rintro(q|q)
  ·cases q
  ·rw[xI]at q;cases q
 rw[he];exact⟨rfl,qJA VB xI qA1⟩
theorem HX {s:Schema} {l:List Rec} (hs:cW s l=true) (hi:wA l) (hl:l.length<=1024) (hl0:l.length≠0):(cH (chnks s l)).size<=57174605609927/\8<=(fD s l).size/\(fD s l).size<=40000000:=by
 have hv:=cD hs;have hsc:=bC (dZ hv).1;have hm:∀c,c∈chnks s l->c.size<=4398046585379:=fun c hc=>by
  obtain⟨i,hr,rfl⟩:=List.mem_map.1 hc;rw[List.mem_range]at hr;rcases Nat.lt_or_ge i s.1.length with q|q
  ·rw[uW q];exact pW (by rw[fU];omega) fun v h=>dM (kM hv hi q v h).1 (kM hv hi q v h).2
  ·have:i=s.1.length:=by omega
   subst this;rw[tK];exact pW (by simp [dQ];omega) fun v h=>dM (qP hv v h).1 (qP hv v h).2
 have h4:=uU hm;rw[fP]at h4;have hz:∀b,b∈(fI s l (List.range s.1.length)).map wC->b.size<=2200000:=fun b hb=>by
  obtain⟨z,hz,rfl⟩:=List.mem_map.1 hb;obtain⟨i,hr,rfl⟩:=List.mem_map.1 hz;rw[List.mem_range]at hr;exact vZ (vY (by rw[fU];omega) fun v h=>yY (kM hv hi hr v h))
 have h5:=uU hz;rw[List.length_map,fI,List.length_map,List.length_range]at h5;have h6:(cH ((chnks s l).map szB)).size<=10*((chnks s l).map szB).length:=uU fun b hb=>by
  obtain⟨c,_,rfl⟩:=List.mem_map.1 hb;rw[szB,bP];exact(bM _).1
 rw[List.length_map,fP]at h6;have r1:=mO (fQ hv hi (j:=0) (by omega));have r2:=mO (fQ hv hi (j:=l.length-1) (by omega));have p1:=bM (l.length:Int);have f4:(four (jS (tS s))).length=4:=rfl;unfold fD;simp only[ByteArray.size_append,bP,fI]at h5 ⊢;omega
theorem uZ (s:Schema) (l:List Rec):(fJ s l).1=⟨#[]⟩/\(fJ s l).2≠0\/fJ s l=(dO s l,0)/\cW s l=true/\l.length<=1024/\l.length≠0:=by
 unfold fJ;split
 ·rename_i h;exact .inl ⟨rfl,h⟩
 split
 ·exact .inl ⟨rfl,by decide⟩
 split
 ·exact .inl ⟨rfl,by decide⟩
 rename_i h1 h2 h3;refine .inr ⟨rfl,?_,by omega,fun q=>h3 (.inl q)⟩;cases q:cW s l with
 |true=>rfl
 |false=>exact absurd (.inr q) h3
theorem QM {s:Schema} {l:List Rec} (hi:wA l):(fJ s l).1.size<=288230376151711000:=by
 rcases uZ s l with⟨h,_⟩|⟨h,h1,h2,h3⟩
 ·rw[h];exact Nat.zero_le _
 ·have p:=HX h1 hi h2 h3
  rw[h];show(dO s l).size<=_;rw[dO,mI,jJ];omega
theorem UE {s:Schema} {l:List Rec} (hi:wA l) (h:(fJ s l).2=0):12<=(fJ s l).1.size/\12<=dA (fJ s l).1 ((fJ s l).1.size-8)/\dA (fJ s l).1 ((fJ s l).1.size-8)<=(fJ s l).1.size-12:=by
 rcases uZ s l with⟨_,h0⟩|⟨h0,h1,h2,h3⟩
 ·exact absurd h h0
 ·have p:=HX h1 hi h2 h3
  have hz:=jJ (fD s l);obtain⟨_,_,f3,_⟩:=JQ (C:=cH (chnks s l)) (F:=bU (fD s l)) (by omega);have hw:=mI (cH (chnks s l)) (bU (fD s l));rw[h0];show 12<=(dO s l).size/\12<=dA (dO s l) ((dO s l).size-8)/\dA (dO s l) ((dO s l).size-8)<=(dO s l).size-12;rw[dO,f3];omega
def sD:Nat->Int->Src->Schema->List Rec
 |0,_,_,_=>[]
 |n+1,m,q,x=>((m,(fM x.1 q).1):Rec)::sD n (m+(1+Src.pick (fM x.1 q).2 3)) (Src.next (fM x.1 q).2) x
theorem VZ {k m:Int} {q:Src} {x:Schema} (h:0<k):sD k.toNat m q x=((m,(fM x.1 q).1):Rec)::sD (k-1).toNat (m+(1+Src.pick (fM x.1 q).2 3)) (Src.next (fM x.1 q).2) x:=by
 rw[show k.toNat=(k-1).toNat+1 by omega];rfl
def UV (x:Schema) (l:List Int) (n:Int):List Rec:=sD (Src.pick (Src.next (l,0)) (n+1)).toNat (Src.pick (l,0) 5) (Src.next (Src.next (l,0))) x
def rB (x:Schema) (l:List Int) (n:Int):List Rec:=EC x (UV x l n)
theorem NN:∀(cs:List Col) (q:Src),mZ q->(∀v,v∈(fM cs q).1->inI v.2.1)/\mZ (fM cs q).2
 | [],q,h=>⟨(fun v hv=>by cases hv),h⟩
 |c::cs,q,h=>by
  have h1:=qIS c h;have h2:=NN cs _ h1.2;refine⟨fun v hv=>?_,h2.2⟩;rcases List.mem_cons.1 hv with e|e
  ·rw[e];exact h1.1.2
  ·exact h2.1 v e
theorem OI:∀(n:Nat) (m:Int) (q:Src) (x:Schema),mZ q->wA (sD n m q x)
 |0,_,_,_,_,r,hr=>by cases hr
 |n+1,m,q,x,h,r,hr=>by
  have h1:=NN x.1 q h;rcases List.mem_cons.1 hr with e|e
  ·rw[e];exact h1.1
  ·exact OI n _ _ x (jD h1.2) r e
theorem qO6 {s:Schema} {l:List Rec}:∀r,r∈EC s l->r∈l:=by
 unfold EC;split;case isFalse=>intro r hr;cases hr
 have go:∀(l o:List Rec) (r:Rec),r∈l.foldl (kU s) o->r∈o\/r∈l:=by
  intro l;induction l with
  |nil=>intro o r h;exact .inl h
  |cons x l ih=>
   intro o r h;rcases ih _ r h with q|q
   ·unfold kU at q
    simp only[List.mem_append,List.mem_singleton]at q;rcases q with(q|q)|q
    ·exact .inl (List.mem_of_mem_take q)
    ·exact .inr (by rw[q];exact List.mem_cons_self ..)
    ·exact .inl (List.mem_of_mem_drop q)
   ·exact .inr (List.mem_cons_of_mem _ q)
 intro r hr;rcases go l [] r hr with q|q
 ·cases q
 ·exact q
theorem qO5 {s:Schema} {l:List Rec}:(EC s l).length<=l.length:=by
 unfold EC;split
 ·have go:∀(l o:List Rec),(l.foldl (kU s) o).length=o.length+l.length:=by
    intro l;induction l with
    |nil=>intro o;rfl
    |cons x l ih=>intro o;rw[List.foldl_cons,ih,ID,List.length_cons];omega
  rw[go];simp
 ·exact Nat.zero_le _
theorem IZ:∀(n:Nat) (m:Int) (q:Src) (x:Schema),(sD n m q x).length=n
 |0,_,_,_=>rfl
 |n+1,m,q,x=>by rw[sD,List.length_cons,IZ n]
theorem IH {x:Schema} {l:List Int} {n:Int} (h:∀v,v∈l->inI v):wA (rB x l n):=fun r hr=>OI _ _ _ _ (jD (jD (show mZ (l,0)from h))) r (qO6 r hr)
theorem BQ {x:Schema} {l:List Int} {n:Int} (h:0<=n/\n<=1000):((rB x l n).length:Int)<=n:=by
 have h1:=qO5 (s:=x) (l:=UV x l n);have h2:(UV x l n).length=_:=IZ _ _ _ _;have h3:=Src.pick_lt (s:=Src.next (l,0)) (n:=n+1) (by omega);have h4:(rB x l n).length<=(UV x l n).length:=h1;omega
abbrev GC:Ct:=.fn [cE,.list (.int .i64),.int .i64] (some (fun(x:Schema) (l:List Int) (n:Int)=>(x.1.length<=1000)/\(l.length<=4611686018427387904)/\(0<=n/\n<=1000))) (fun(x:Schema) (l:List Int) (n:Int)=>.d (.list gN) (rB x l n))
theorem qND:aH Tryz.prog 15 GC:=by
 refine aH.fn YC mixed [] [] rfl rfl ?_;rintro⟨(x:Schema),(l:List Int),(n:Int),_⟩ hpre;replace hpre:=hpre _ rfl;dsimp only[cu]at hpre;obtain⟨hx,hl0,hn⟩:=hpre;have hp0:=Src.pick_lt (s:=(l,0)) (n:=5) (by omega);have hp1:=Src.pick_lt (s:=Src.next (l,0)) (n:=n+1) (by omega);refine⟨[(0,10,LA.mk [.sl 10 (.int .i64),.sl 9 (.int .i64),.lst 8 gN 56,.ob 1 pK 124] (fun y=>Tag 87/\cu [.int .i64,.int .i64,.list gN,pK] (fun(k:Int) (m:Int) (M:List Rec) (q:Src)=>(0<=k/\k<=1001)/\(Src.ok q)/\(UV x l n=M++sD k.toNat m q x)/\((M.length:Int)<=1001-k)/\(0<=m/\m<=5+4*(1001-k))) y) (cu [.int .i64,.int .i64,.list gN,pK] (fun(k:Int) (m:Int) (M:List Rec) (q:Src)=>k.toNat)) (cu [.int .i64,.int .i64,.list gN,pK] (fun(k:Int) (m:Int) (M:List Rec) (q:Src)=>([]:List (Nat×Nat×LA)))))],?_⟩;repeat' (first
  |(
 with_reducible refine Side.mk ⟨(⟨⟩:Tag 87),?_⟩
 dsimp only[cu,aC,aB,gts,eE,eN]
 refine⟨?_,?_,?_,?_,?_⟩
 ·omega
 ·(repeat (first|assumption|exact Src.ok_from (by omega)|apply Src.ok_next|apply iH|apply rC))
 ·first
  |rfl
  |(
  rw[hm,VZ (by omega),List.append_assoc]
  rfl)
 ·first
  |simp only[List.length_nil];omega
  |simp only[List.length_append,List.length_cons,List.length_nil];omega
 ·first
  |omega
  |(
  have:=Src.pick_lt (s:=(fM x.1 q).2) (n:=3) (by decide)
  omega))
  |(
 with_reducible apply Side.mk
 (try dsimp only[cu,aC,aB,gts,loK,hiK,eE,eN])
 first
 |done
 |omega
 |exact Eq.refl _
 |simp only[List.length_append,List.length_cons,List.length_nil];omega
 |(
  refine⟨?_,by first|decide|exact qPX (by omega)⟩
  (repeat (first|assumption|exact Src.ok_from (by omega)|apply Src.ok_next|apply iH|apply rC));done)
 |exact⟨by(repeat (first|assumption|exact Src.ok_from (by omega)|apply Src.ok_next|apply iH|apply rC)),by assumption⟩
 |(have:=Src.pick_lt (s:=(fM x.1 q).2) (n:=3) (by decide);omega))
  |(conv=>whnf
    first
     |with_reducible first|done|exact trivial|refine NilBr.mk (fun h=>?_) ?_|apply aJ|apply aI|refine aK (by kernel_rfl) ?_|apply aL|apply bG|apply bF|apply aR
     |((with_reducible first|apply aT|apply aS|apply bD)<;>intro h<;>(try dsimp only[cu,eE,eN]at h)<;>(try(exfalso;omega)))
     |(
 intro yy (hy:Tag 87/\_)
 obtain⟨(k:Int),(m:Int),(M:List Rec),(q:Src),_⟩:=yy
 replace hy:=hy.2
 dsimp only[cu,aC,aB,gts,eE,eN]at hy
 obtain⟨hk,hq,hm,hml,hmb⟩:=hy)))
 all_goals(
 with_reducible apply Leaf.mk
 (try dsimp only[cu,aC,aB,gts,eE,eN]at *)
 rw[rB,hm,show k.toNat=0 by omega,sD,List.append_nil])
abbrev qVO:Tbl:=(15,GC)::qVN
theorem YD:aD Tryz.prog qVO:=aD.cons qND YC
abbrev BF:Ct:=.fn [] (none) (.tup [cE,.list gN] (oU,rD,()))
theorem qDF:aH Tryz.prog 25 BF:=by
 refine aH.fn YD mixed [] [] rfl rfl ?_;rintro⟨⟩ -;refine⟨[],?_⟩;repeat' (first
  |(
 with_reducible apply Side.mk
 (try dsimp only[cu,aC,aB,gts,loK,hiK,eE,eN])
 exact Eq.refl _)
  |(conv=>whnf
    first
     |with_reducible first|done|exact trivial|refine NilBr.mk (fun h=>?_) ?_|apply aJ|apply aI|refine aK (by kernel_rfl) ?_|apply aL|apply bG|apply bF|apply aR
     |((with_reducible first|apply aT|apply aS|apply bD)<;>intro h<;>(try dsimp only[cu,eE,eN]at h)<;>(try(exfalso;omega)))))
 all_goals(
 with_reducible apply Leaf.mk
 (try dsimp only[cu,aC,aB,gts,eE,eN]at *)
 rfl)
abbrev qVP:Tbl:=(25,BF)::qVO
theorem qPH:aD Tryz.prog qVP:=aD.cons qDF YD
noncomputable section
abbrev yH:Ct:=.fn [] (none) (.tup [cE,.list gN] (qI0,qIZ,()))
theorem qW3:aH Tryz.prog 25 yH:=by
 have e:yH=BF:=by rw[yH,qDG,zH]
 rw[e];exact qDF
abbrev qVQ:Tbl:=(25,yH)::qVP
theorem YE:aD Tryz.prog qVQ:=aD.cons qW3 qPH
abbrev FV:Ct:=.fn [] (none) (.d .bool true)
theorem qLA:aH Tryz.prog 16 FV:=by
 refine aH.fn YE mixed [] [] rfl rfl ?_;rintro⟨⟩ -;refine⟨[],?_⟩;repeat' (first
  |(
 with_reducible apply Side.mk
 (try dsimp only[cu,aC,aB,gts,loK,hiK,eE,eN])
 first
 |(
  rw[zH];exact⟨by decide,sA⟩)
 |exact Nat.le_trans (QM (by rw[zH];exact sA)) (by decide)
 |(
  obtain⟨w1,w2⟩:=qDI;have w3:=congrArg Prod.fst w2;have w4:=congrArg Prod.snd w2;dsimp only at w3 w4;rw[w3,zH];exact⟨by decide,fun i=>qSX i⟩))
  |(conv=>whnf
    first
     |with_reducible first|done|exact trivial|refine NilBr.mk (fun h=>?_) ?_|apply aJ|apply aI|refine aK (by kernel_rfl) ?_|apply aL|apply bG|apply bF|apply aR
     |((with_reducible first|apply aT|apply aS|apply bD)<;>intro h<;>(try dsimp only[cu,eE,eN]at h)<;>(try(exfalso;omega)))))
 all_goals(
 with_reducible apply Leaf.mk
 (try dsimp only[cu,aC,aB,gts,eE,eN]at *)
 first
 |(
  obtain⟨w1,w2⟩:=qDI;have w3:=congrArg Prod.fst w2;have w4:=congrArg Prod.snd w2;dsimp only at w3 w4;first
  |(
   rw[w3];exact decide_eq_true rfl)
  |(exact absurd w4 (by with_reducible assumption))))
abbrev qZA:Tbl:=(16,FV)::qVQ
theorem qPI:aD Tryz.prog qZA:=aD.cons qLA YE
theorem NM:∀(n:Nat) (s:Src) (acc:List Col),(tZ n s acc).1.length=acc.length+n
 |0,s,acc=>rfl
 |n+1,s,acc=>by rw[tZ,NM n];simp;omega
theorem nZ (l:List Int):1<=(dS l).1.length/\(dS l).1.length<=4:=by
 have h:=Src.pick_lt (s:=(l,0)) (n:=4) (by decide);have e:(dS l).1.length=0+(1+Src.pick (l,0) 4).toNat:=NM _ _ [];omega
theorem qP0 (s:Schema) (f:ByteArray) (n i:Int) (l:List Int):(jR s f n l i).1.length<=4096:=by
 unfold jR;split
 ·exact Nat.zero_le _
 split
 ·exact Nat.zero_le _
 ·exact qQ5 _ _
theorem qH8 (s:Schema) (f:ByteArray) (i:Int):(gZ s f i).1.length<=4096:=by
 unfold gZ qH5;split
 ·exact Nat.zero_le _
 split
 ·exact Nat.zero_le _
 ·exact qP0 _ _ _ _ _
end
noncomputable section
theorem qQX {s:Schema} {l:List Rec} (ei:wA l) (h:(fJ s l).2=0):gZ s (fJ s l).1 (s.1.length:Int)=(dQ l,0):=by
 rcases uZ s l with⟨_,h0⟩|⟨h0,h1,h2,h3⟩
 ·exact absurd h h0
 rw[h0];exact qB9 (qC7 h1 ei h2 h3) (cD h1) rfl (yQ (Nat.lt_succ_self _))
theorem qLS {s:Schema} {l:List Rec} {z:Int} (ei:wA l) (h:(fJ s l).2=0) (hc:0<s.1.length) (hz:0<=z/\z<256) (hne:z≠aG (fJ s l).1 4) :
  gZ s (((fJ s l).1.extract 0 4++⟨#[UInt8.ofNat z.toNat]⟩)++(fJ s l).1.extract 5 (fJ s l).1.size) 0=([],9)/\gZ s (((fJ s l).1.extract 0 4++⟨#[UInt8.ofNat z.toNat]⟩)++(fJ s l).1.extract 5 (fJ s l).1.size) (s.1.length:Int)=(dQ l,0):=by
 rcases uZ s l with⟨_,h0⟩|⟨h0,h1,h2,h3⟩
 ·exact absurd h h0
 rw[h0]at hne ⊢;(try simp only at hne ⊢);have hv:=cD h1;have m:=qC7 h1 ei h2 h3;obtain⟨c,cs,hcs⟩:∃c cs,chnks s l=c::cs:=by
  cases e:chnks s l with
  |nil=>have:=fP s l;rw[e]at this;cases this
  |cons c cs=>exact⟨c,cs,rfl⟩
 have hlen:=fP s l;have h00:c=chnk s l 0:=by rw[<-yQ (by omega),hcs];rfl
 have hval:∀v,v∈eZ l 0->bE s.1[0]! v=0/\okV v:=fun v q=>⟨(kM hv ei hc v q).1,dM (kM hv ei hc v q).1 (kM hv ei hc v q).2⟩
 have hkn:bV s.1[0]!.2.1=true:=by
  have hl:=fU l 0;cases e:eZ l 0 with
  |nil=>rw[e]at hl;exact absurd hl.symm h3
  |cons v r=>exact DJ (hval v (by rw[e];exact List.mem_cons_self ..)).1
 obtain⟨j,hj1,hj2⟩:=UF hkn (by rw[fU];omega) fun v q=>(hval v q).1
 have hcB:c=bU (bW s.1[0]!.2.1 j (eZ l 0)):=by
  rw[h00,uW hc,hj2];rfl
 have hB0:=(pT (t:=s.1[0]!.2.1) (k:=j) (l:=eZ l 0) (fun v q=>(hval v q).2) (by rw[fU];omega))
 have hBp:0<(bW s.1[0]!.2.1 j (eZ l 0)).size:=hB0.2;generalize bW s.1[0]!.2.1 j (eZ l 0)=B at hcB hBp;have hcp:c.size=B.size+4:=by rw[hcB,jJ]
 rw[dO,hcs]at hne ⊢;obtain⟨f1,f2⟩:=qLK (F:=bU (fD s l)) (cs:=cs) hz (show 0<c.size by omega);rw[f2]at hne;rw[f1];have hu:=qM6 c 0 hz;generalize aV ((aE c).set 0 z)=u at hu;have huz:u.size=c.size:=by
  have:=congrArg List.length hu;rw[List.length_set,aQ,aQ]at this;exact this
 have hmap:(u::cs).map gM=(chnks s l).map gM:=by
  rw[hcs,List.map_cons,List.map_cons,gM,huz];rfl
 have ho:gQ u=9:=by
  rw[hcB]at hu hne;rw[gQ,if_neg (by omega),if_pos (qO2 (by omega) hz hne hu)]
 constructor
 ·have hd:jV (iV s ((0:Nat):Int)) u=([],9):=by
    have e:iV s ((0:Nat):Int)=s.1[0]!:=by rw[iV,if_neg (by omega)];rfl
    rw[e,jV,if_neg (by rw[hkn];exact Bool.noConfusion),if_pos (by rw[ho];decide),ho]
  have:=TN m hmap (i:=0) (by omega);rw[show(u::cs)[0]! =u from rfl,hd]at this;exact this
 ·refine qB9 m hv hmap ?_
  rw[<-yQ (Nat.lt_succ_self _),hcs];obtain⟨n,hn⟩:∃n,s.1.length=n+1:=⟨s.1.length-1,by omega⟩
  rw[hn];rfl
theorem qCA {s:Schema} {l:List Rec} {z:Int} (ei:wA l) (h:(fJ s l).2=0) (hc:0<s.1.length) (hz:0<=z/\z<256) (hne:z≠aG (fJ s l).1 (4:Int).toNat) :
  (gZ s (((fJ s l).1.extract 0 (4:Int).toNat++⟨#[UInt8.ofNat z.toNat]⟩)++(fJ s l).1.extract (5:Int).toNat (fJ s l).1.size) 0).2=9/\gZ s (((fJ s l).1.extract 0 (4:Int).toNat++⟨#[UInt8.ofNat z.toNat]⟩)++(fJ s l).1.extract (5:Int).toNat (fJ s l).1.size) (s.1.length:Int)=(dQ l,0):=by
 have e4:(4:Int).toNat=4:=rfl;have e5:(5:Int).toNat=5:=rfl;rw[e4]at hne ⊢;rw[e5];obtain⟨h1,h2⟩:=qLS ei h hc hz hne;exact⟨by rw[h1],h2⟩
theorem qTK {l:List Rec} {i:Nat} (h:i<l.length):(dQ l)[i]! =(false,(l[i]!).1,⟨#[]⟩):=by
 rw[dQ,getElem!_pos _ i (by rw[List.length_map];exact h),List.getElem_map,getElem!_pos l i h]
theorem qO3 (l:List Rec):(dQ l).length=l.length:=by simp [dQ]
abbrev ZC:Ct:=.fn [.list (.int .i64),.list (.int .i64),.int .i64,.int .u8] (some (fun(x:List Int) (l:List Int) (a:Int) (c:Int)=>(x.length<=4611686018427387904)/\(l.length<=4611686018427387904)/\(∀v,v∈l->inI v)/\(0<=c/\c<256))) (fun(x:List Int) (l:List Int) (a:Int) (c:Int)=>.d .bool true)
theorem qNH:aH Tryz.prog 5 ZC:=by
 refine aH.fn qPI mixed [] [] rfl rfl ?_;rintro⟨(x:List Int),(l:List Int),(a:Int),(c:Int),_⟩ hpre;replace hpre:=hpre _ rfl;dsimp only[cu]at hpre;obtain⟨hx,hl,hi,hc⟩:=hpre;refine⟨[(0,20,LA.mk [.sl 51 (.int .i64)] (fun y=>Tag 88/\cu [.int .i64] (fun(k:Int)=>(0<=k/\k<=(rB (dS x) l 6).length)) y) (cu [.int .i64] (fun(k:Int)=>(((rB (dS x) l 6).length:Int)-k).toNat)) (cu [.int .i64] (fun(k:Int)=>([]:List (Nat×Nat×LA)))))],?_⟩;repeat' (first
  |(
 with_reducible refine Side.mk ⟨(⟨⟩:Tag 88),?_⟩
 dsimp only[cu,aC,aB,gts,eE,eN]
 omega)
  |(
 with_reducible apply Side.mk
 (try dsimp only[cu,aC,aB,gts,loK,hiK,eE,eN])
 first
 |(
  (with_reducible show qNT _ _ _=true)
  kernel_rfl)
 |done
 |with_reducible rfl
 |omega
 |exact Eq.refl _
 |simp only[List.length_append,List.length_cons,List.length_nil];omega
 |(
  have ei:wA (rB (dS x) l 6):=IH hi;have es:=QM (s:=dS x) ei;have kl:=BQ (x:=dS x) (l:=l) (n:=6) (by decide);have ef:=UE (s:=dS x) ei (by with_reducible assumption);have k0:=nZ x;first
  |omega
  |(
   simp only[ByteArray.size_append,ByteArray.size_extract,zI];omega))
 |(
  (with_reducible refine Nat.le_trans (qH8 _ _ _) ?_)
  decide)
 |(
  (with_reducible refine And.intro ?_ (And.intro ?_ ?_))
  have k0:=nZ x;omega;with_reducible assumption
  decide)
 |(
  (with_reducible refine And.intro ?_ (IH hi))
  have kl:=BQ (x:=dS x) (l:=l) (n:=6) (by decide);omega))
  |(conv=>whnf
    first
     |with_reducible first|done|exact trivial|refine NilBr.mk (fun h=>?_) ?_|apply aJ|apply aI|refine aK (by kernel_rfl) ?_|apply aL|apply bG|apply bF|apply aR
     |((with_reducible first|apply aT|apply aS|apply bD)<;>intro h<;>(try dsimp only[cu,eE,eN]at h)<;>(try(exfalso;omega)))
     |(
 intro yy (hy:Tag 88/\_)
 obtain⟨(k:Int),_⟩:=yy
 replace hy:=hy.2
 dsimp only[cu,aC,aB,gts,eE,eN]at hy
 have hk:=hy)))
 all_goals(
 with_reducible apply Leaf.mk
 (try dsimp only[cu,aC,aB,gts,eE,eN]at *)
 first
 |done
 |with_reducible rfl
 |(
  have ei:wA (rB (dS x) l 6):=IH hi;have es:=QM (s:=dS x) ei;have kl:=BQ (x:=dS x) (l:=l) (n:=6) (by decide);have ef:=UE (s:=dS x) ei (by with_reducible assumption);have cl:=qQX ei (by with_reducible assumption);have sl:=qO3 (rB (dS x) l 6);have c1:=congrArg Prod.fst cl;have c2:=congrArg Prod.snd cl;dsimp only at c1 c2;first
  |exact absurd (by rw[c1,sl]) h
  |(
   have k0:=nZ x;have cs:=qCA (z:=lK .u8 (aG (fJ (dS x) (rB (dS x) l 6)).1 (4:Int).toNat) (IntKind.u8.wrap (1+c.tmod 255))) ei (by with_reducible assumption) (by omega) (xV _ _) (qQD (cI _ _) hc);obtain⟨s2,csn⟩:=cs;have s3:=congrArg Prod.fst csn;have s4:=congrArg Prod.snd csn;dsimp only at s3 s4;first
   |exact absurd s2 (by with_reducible assumption)
   |(exact absurd s4 (by with_reducible assumption)))
  |(
   have sa:=qTK (l:=rB (dS x) l 6) (i:=k.toNat) (by omega);rw[c1,sa]at h;simp at h;done)
  |(
   have k0:=nZ x;have cs:=qCA (z:=lK .u8 (aG (fJ (dS x) (rB (dS x) l 6)).1 (4:Int).toNat) (IntKind.u8.wrap (1+c.tmod 255))) ei (by with_reducible assumption) (by omega) (xV _ _) (qQD (cI _ _) hc);obtain⟨s2,csn⟩:=cs;have s3:=congrArg Prod.fst csn;have s4:=congrArg Prod.snd csn;dsimp only at s3 s4;exact decide_eq_true (s3.trans c1.symm))))
end
end Go.Proofs.YtcjiefknhfhmkaaGreatDoor
namespace Go.Abs
set_option maxRecDepth 100000
set_option maxHeartbeats 4000000
set_option linter.unusedVariables false
set_option linter.unusedSimpArgs false
open Go.RowKit
def ι0:Iota:={at':=fun _=>none,X:=fun _=>False}
theorem qYO (w:World):HRel [] ι0 w:=
 ⟨fun id o h=>by simp at h,fun id h=>by simp at h,fun id _=>rfl,fun id o l id' o' l' h=>by simp at h,fun b h=>h.elim,fun b h=>h.elim⟩
theorem mt0 (b:Nat):¬Mt [] ι0 b:=by
 rintro(h|⟨id,o,l,h,_⟩)
 ·exact h
 ·simp at h
def uP (w:World) (x:V) (y:Value):Prop:=Rep w ι0 (Mt [] ι0) x y
def FD (w:World):List V->List Value->Prop
 | [],[]=>True
 |x::xs,y::ys=>uP w x y/\FD w xs ys
 |_,_=>False
theorem DX:∀ {w:World} {xs:List V} {ys:List Value},FD w xs ys->PW2 w ι0 (Mt [] ι0) xs ys.toArray
 |w,[],[],_=>⟨rfl,fun k x h=>by simp at h⟩
 |w,x::xs,y::ys,h=>by
  have ih:=DX h.2;refine⟨by simpa using ih.1,fun k z hz=>?_⟩;cases k with
  |zero=>simp at hz;subst hz;exact⟨y,by simp,h.1⟩
  |succ k=>
   obtain⟨u,u1,u2⟩:=ih.2 k z (by simpa using hz);exact⟨u,by simpa using u1,u2⟩
 |w,[],_::_,h=>h.elim
 |w,_::_,[],h=>h.elim
theorem qBT {P:Program} {f:FuncId} {args:List V} {vals:List Value} {w:World} (hr:FD w args vals) (hc:PC P f args [] (fun y _=>y = .v (.bool true))) :
  Calls P f vals.toArray w fun e w'=>e = .returned (.bool true)/\Below w.heap.size w w':=by
 refine(hc ι0 w _ (DX hr) (qYO w)).mono ?_;rintro e w' ⟨y,x,h',ι',rfl,rfl,ry,_,ev⟩;cases ry;refine⟨rfl,ev.os,ev.tape,ev.output,ev.size,fun k hk=>(ev.frame k hk ?_).1⟩;rintro⟨id,o,l,h,_⟩;simp at h
theorem qDW (w:World) (x:Value):uP w (.v x) x:=.v x
theorem ML {w:World} {a:Addr} {v:Value} (h:w.cell? a=some v):a.spot=none/\a.block<w.heap.size:=by
 unfold World.cell? at h;split at h
 ·rename_i c el fr hb
  refine⟨?_,?_⟩
  ·by_cases q:a.spot.isSome=true
   ·rw[if_pos q]at h;cases h
   ·simpa using q
  ·rcases Nat.lt_or_ge a.block w.heap.size with q|q
   ·exact q
   ·rw[Array.getElem?_eq_none q]at hb;cases hb
 ·cases h
def ints (k:IntKind) (l:List Int):V:=.sF 1 (l.map fun n=>[.v (.int k n)])
theorem OH (w:World) (k:IntKind):uP w (ints k []) (.slice none 0 0):=Rep.sN 1
theorem IX {w:World} {k:IntKind} {x:Addr} {len cap:Nat} {zs:List Int} (hl:len<=cap) (hz:zs.length=cap) (hc:∀i,i<zs.length->w.cell? (x.add i)=some (.int k (zs.getD i 0))) :
  uP w (ints k (zs.take len)) (.slice (some x) len cap):=by
 have hlen:((zs.take len).map fun n=>[V.v (.int k n)]).length=len:=by simp;omega
 have:=Rep.sF_mk (w:=w) (ι:=ι0) (M:=Mt [] ι0) (sz:=1) (rows:=(zs.take len).map fun n=>[V.v (.int k n)]) x cap ?_ (by omega) (fun r hr=>by obtain⟨n,_,rfl⟩:=List.mem_map.1 hr;rfl) ?_
 ·rw[hlen]at this;exact this
 ·intro hne
  have h0:0<zs.length:=by
   rcases Nat.eq_zero_or_pos zs.length with q|q
   ·exfalso;apply hne;rw[List.eq_nil_of_length_eq_zero q];simp
   ·exact q
  have:=ML (hc 0 h0);unfold Addr.add at this;simp at this;exact⟨this.1,this.2,mt0 _⟩
 ·intro i j r y hi hj
  rw[List.getElem?_map]at hi;cases hq:(zs.take len)[i]? with
  |none=>rw[hq]at hi;simp at hi
  |some n=>
   rw[hq]at hi;simp at hi;subst hi;have hj0:j=0:=by have:=aN hj;simp at this;exact this
   subst hj0;simp at hj;subst hj;rw[List.getElem?_take]at hq;split at hq
   ·have hlt:=aN hq
    refine⟨.int k n,?_,.v _⟩;have hcell:=hc i hlt;have hsp:=(ML (hc 0 (by omega))).1;have hsp0:x.spot=none:=by unfold Addr.add at hsp;simpa using hsp
    have e:x.add i=⟨x.block,x.off+i*1+0,none⟩:=by
     obtain⟨b,o,sp⟩:=x;simp only at hsp0;subst hsp0;rw[nD];simp
    rw[<-e,hcell];rw[List.getElem?_eq_getElem hlt]at hq;injection hq with hq;simp [List.getD,List.getElem?_eq_getElem hlt,hq]
   ·cases hq
end Go.Abs
