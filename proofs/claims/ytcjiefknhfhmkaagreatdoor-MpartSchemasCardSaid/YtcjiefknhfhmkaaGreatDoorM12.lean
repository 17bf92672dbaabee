import Derived.Below
import Derived.Test.YtcjiefknhfhmkaaGreatDoorM11
namespace Go.Proofs.YtcjiefknhfhmkaaGreatDoor
open Go.Abs
set_option maxRecDepth 100000
set_option maxHeartbeats 4000000
set_option linter.unusedVariables false
set_option linter.unusedSimpArgs false
def dJ:List ByteArray->ByteArray
 | []=>⟨#[]⟩
 |b::l=>b++dJ l
def wW (s:Schema) (l:List Rec) (i:Nat):List Val:=if i=s.1.length then gM l else fM l i
def chnk (s:Schema) (l:List Rec) (i:Nat):ByteArray:=(iN (oM s i) (wW s l i)).1
def chnks (s:Schema) (l:List Rec):List ByteArray:=(List.range (s.1.length+1)).map (chnk s l)
def szB (b:ByteArray):ByteArray:=aV (put (b.size:Int))
def fJ (s:Schema) (l:List Rec):ByteArray:=aV (four (iM (kV s)))++aV (put (l.length:Int))++dJ ((chnks s l).map szB)++dJ ((eG s l (List.range s.1.length)).map uI)++eC (fK s l[0]!)++eC (fK s l[l.length-1]!)
def eF (C F:ByteArray):ByteArray:=jC++C++F++aV (four (F.size:Int))++jC
def dD (s:Schema) (l:List Rec):ByteArray:=eF (dJ (chnks s l)) (cB (fJ s l))
def jE (s:Schema) (l:List Rec):ByteArray×Int:=if aT s≠0 then(⟨#[]⟩,aT s)else if l.length>1024 then(⟨#[]⟩,7)else if l.length=0\/cX s l=false then(⟨#[]⟩,1)else(dD s l,0)
theorem rT (a b:List ByteArray):dJ (a++b)=dJ a++dJ b:=by
 induction a with
 |nil=>exact ByteArray.empty_append.symm
 |cons x a ih=>rw[List.cons_append,dJ,dJ,ih,ByteArray.append_assoc]
def jO (b:ByteArray):Int:=(b.size:Int)
theorem tK (l:List ByteArray):((dJ l).size:Int)=eO (l.map jO):=by
 induction l with
 |nil=>rfl
 |cons b l ih=>rw[dJ,ByteArray.size_append];simp only[List.map_cons,eO,List.foldr_cons]at ih ⊢;rw[Int.natCast_add,ih];rfl
theorem qP {s:ByteArray} {a:Nat} {x:Int} {r:List Int} (h:(aN s).drop a=x::r):aG s a=x/\(aN s).drop (a+1)=r/\a+1<=s.size:=by
 have hl:=congrArg List.length h;simp only[List.length_drop,List.length_cons,bF]at hl;refine⟨?_,by rw[<-List.drop_drop,h];rfl,by omega⟩;rw[<-oB,List.getElem!_eq_getElem?_getD,show a=a+0 from rfl,<-List.getElem?_drop,h];rfl
theorem lF {s:ByteArray} {a:Nat} {u:Int} {r:List Int} (hu:0<=u/\u<18446744073709551616) (h:(aN s).drop a=put u++r) :
  aA s a=(u,((a+(put u).length:Nat):Int),0)/\(aN s).drop (a+(put u).length)=r/\a+(put u).length<=s.size:=by
 have hg:=IA hu h;have hl:=congrArg List.length h;simp only[List.length_drop,List.length_append,bF]at hl;have hp:=bL u;exact⟨by rw[hg,Int.natCast_add],by rw[<-List.drop_drop,h,List.drop_left],by omega⟩
theorem gV {s w:ByteArray} {a:Nat} {r:List Int} (h:(aN s).drop a=aN w++r):s.extract a (a+w.size)=w/\(aN s).drop (a+w.size)=r/\w.size<=s.size-a:=by
 have hl:=congrArg List.length h;simp only[List.length_drop,List.length_append,bF]at hl;refine⟨vT ?_,by rw[<-List.drop_drop,h,<-bF w,List.drop_left],by omega⟩;rw[FW,h,show a+w.size-a=(aN w).length by rw[bF];omega,List.take_left]
def FS (v:Val):Prop:=(v.1=true->v=gJ)/\inI v.2.1/\v.2.2.size<=1048576
theorem zI {s:ByteArray} {a:Nat} {v:Val} {r:List Int} (hv:FS v) (h:(aN s).drop a=aN (xV v)++r) :
  dC s a=(v,((a+(xV v).size:Nat):Int),0)/\(aN s).drop (a+(xV v).size)=r:=by
 obtain⟨hn,hi,hz⟩:=hv;refine⟨?_,(gV h).2.1⟩;by_cases q:v.1=true
 ·have e:=hn q
  subst e;obtain⟨d1,d2,d3⟩:=qP (x:=0) h;rw[dC,if_neg (by omega),if_neg (by omega),show((a:Int)).toNat=a from rfl,d1,if_neg (by decide),if_pos rfl];rfl
 ·have q:v.1=false:=by simpa using q
  rw[qLS q]at h ⊢;rw[bE,bE,bE,bG (lG (mZ hi)),bG (lG ⟨by omega,by omega⟩),List.append_assoc,List.append_assoc,List.append_assoc]at h;obtain⟨d1,d2,d3⟩:=qP (x:=1) h;obtain⟨n1,n2,n3⟩:=lF (mZ hi) d2;obtain⟨m1,m2,m3⟩:=lF (u:=(v.2.2.size:Int)) ⟨by omega,by omega⟩ n2;obtain⟨w1,w2,w3⟩:=gV m2;rw[show(((a+1:Nat)):Int)=(a:Int)+1 from rfl]at n1;rw[dC,if_neg (by omega),if_neg (by omega),show((a:Int)).toNat=a from rfl,d1,if_neg (by decide),if_neg (by decide),n1];simp only;rw[m1];simp only[ne_eq,not_true_eq_false,if_false];rw[if_neg (by omega)];refine Prod.ext ?_ (Prod.ext ?_ rfl)
  ·obtain⟨x,y,z⟩:=v
   (try simp only at q w1 ⊢);subst q;refine Prod.ext rfl (Prod.ext (qE9 y) ?_);rw[show((a+1+(put (fY y)).length+(put (z.size:Int)).length:Nat):Int).toNat=a+1+(put (fY y)).length+(put (z.size:Int)).length from rfl,show(((a+1+(put (fY y)).length+(put (z.size:Int)).length:Nat):Int)+(z.size:Int)).toNat=a+1+(put (fY y)).length+(put (z.size:Int)).length+z.size by omega];exact w1
  ·simp only[ByteArray.size_append,bJ]
   have:(⟨#[1]⟩:ByteArray).size=1:=rfl;omega
def FT (z:Zone):Prop:=(0<=z.1/\z.1<=4096)/\(0<=z.2.1/\z.2.1<=4096)/\FS z.2.2.1/\FS z.2.2.2
theorem qV6 {n:Int} (h:0<=n):dX 0 n=n:=by unfold dX;split<;>omega
theorem qGF {s:ByteArray} {a:Nat} {z:Zone} {r:List Int} (hz:FT z) (h:(aN s).drop a=aN (uI z)++r) :
  fE s a=(z,((a+(uI z).size:Nat):Int),0)/\(aN s).drop (a+(uI z).size)=r:=by
 obtain⟨h1,h2,h3,h4⟩:=hz;refine⟨?_,(gV h).2.1⟩;rw[uI,qV6 h1.1,qV6 h2.1]at h ⊢;rw[bE,bE,bE,bG (lG ⟨h1.1,by omega⟩),bG (lG ⟨h2.1,by omega⟩),List.append_assoc,List.append_assoc,List.append_assoc]at h;obtain⟨n1,n2,n3⟩:=lF (u:=z.1) ⟨h1.1,by omega⟩ h;obtain⟨m1,m2,m3⟩:=lF (u:=z.2.1) ⟨h2.1,by omega⟩ n2;obtain⟨v1,v2⟩:=zI h3 m2;obtain⟨w1,w2⟩:=zI h4 v2;rw[fE,n1];simp only[ne_eq,not_true_eq_false,if_false];rw[if_neg (by omega),m1];simp only[ne_eq,not_true_eq_false,if_false];rw[if_neg (by omega),v1];simp only[ne_eq,not_true_eq_false,if_false];rw[w1];simp only[ne_eq,not_true_eq_false,if_false];refine Prod.ext rfl (Prod.ext ?_ rfl);simp only[ByteArray.size_append,bJ];omega
def SU (s:Schema) (r:Rank):Prop:=FS r.1/\bQ (CF s) r.1=0/\0<=r.2/\r.2<=1099511627776
theorem MI {s:Schema} {f:ByteArray} {a:Nat} {k:Rank} {r:List Int} (hk:SU s k) (h:(aN f).drop a=aN (eC k)++r) :
  jF s f a=(k,((a+(eC k).size:Nat):Int),true)/\(aN f).drop (a+(eC k).size)=r:=by
 obtain⟨h1,h2,h3⟩:=hk;refine⟨?_,(gV h).2.1⟩;unfold eC at h ⊢;rw[bE,bG (lG ⟨h3.1,by omega⟩),List.append_assoc]at h;obtain⟨v1,v2⟩:=zI h1 h;obtain⟨n1,n2,n3⟩:=lF (u:=k.2) ⟨h3.1,by omega⟩ v2;rw[jF,v1];simp only;rw[if_neg (by rintro(q|q);exact q rfl;exact q h2),n1];simp only;rw[if_neg (by rintro(q|q);exact q rfl;omega)];refine Prod.ext rfl (Prod.ext ?_ rfl);simp only[ByteArray.size_append,bJ];omega
theorem UF {f:ByteArray} {b:Int}:∀(cs:List ByteArray) (l:List Int) (a:Nat) (r:List Int),(∀c,c∈cs->(c.size:Int)<=b/\c.size<=4398046585379)->(aN f).drop a=aN (dJ (cs.map szB))++r ->
  rfN f b cs.length (offs l) a=(offs (l++cs.map jO),((a+(dJ (cs.map szB)).size:Nat):Int),true)
 | [],l,a,r,_,h=>by rw[List.length_nil,rfN];simp [dJ];rfl
 |c::cs,l,a,r,hc,h=>by
  have h0:=hc c (List.mem_cons_self ..);rw[List.map_cons,dJ,bE,List.append_assoc,szB,bG (lG ⟨by omega,by omega⟩)]at h;obtain⟨n1,n2,n3⟩:=lF (u:=(c.size:Int)) ⟨by omega,by omega⟩ h;rw[List.length_cons,rfN,n1];simp only;rw[if_neg (by rintro(q|q);exact q rfl;omega),<-TD,UF cs _ _ r (fun x hx=>hc x (List.mem_cons_of_mem _ hx)) n2];refine Prod.ext ?_ (Prod.ext ?_ rfl)
  ·simp only[List.append_assoc,List.map_cons,List.singleton_append];rfl
  ·simp only[List.map_cons,dJ,ByteArray.size_append,szB,bJ];omega
theorem UJ {f:ByteArray} {rows:Int}:∀(cs:List Col) (zs z:List Zone) (a:Nat) (r:List Int),cs.length=zs.length->(∀i:Nat,i<cs.length->FT zs[i]! /\mF cs[i]! zs[i]! =true/\zs[i]!.1=rows)->(aN f).drop a=aN (dJ (zs.map uI))++r ->
  rzN f rows cs z a=(z++zs,((a+(dJ (zs.map uI)).size:Nat):Int),true)
 | [],[],z,a,r,_,_,h=>by rw[rzN];simp [dJ];rfl
 | [],_::_,_,_,_,hl,_,_=>by cases hl
 |_::_,[],_,_,_,hl,_,_=>by cases hl
 |c::cs,y::zs,z,a,r,hl,hz,h=>by
  obtain⟨g1,g2,g3⟩:=hz 0 (Nat.zero_lt_succ _);have g1:FT y:=g1;have g2:mF c y=true:=g2;have g3:y.1=rows:=g3;rw[List.map_cons,dJ,bE,List.append_assoc]at h;obtain⟨n1,n2⟩:=qGF g1 h;rw[rzN,n1];simp only;rw[if_neg (by rintro(q|q|q);exact q rfl;rw[g2]at q;cases q;exact q g3),UJ cs zs _ _ r (by simpa using hl) (fun i hi=>hz (i+1) (by simpa using hi)) n2];refine Prod.ext (by simp) (Prod.ext ?_ rfl);simp only[List.map_cons,dJ,ByteArray.size_append];omega
theorem CP (s:ByteArray):0<=iM s/\iM s<4294967296:=by
 unfold iM zT;rw[if_pos vE];exact wB _ _
theorem YD {v:Int} (h:0<=v/\v<4294967296):four v= [v%256,v/256%256,v/65536%256,v/16777216]:=by
 obtain⟨e1,e2,e3⟩:=qR2 h.1;simp only[four,e1,e2,e3,ZZ];rw[show v/16777216%256=v/16777216 by omega]
theorem qG {s:ByteArray} {a:Nat} {v:Int} {r:List Int} (hv:0<=v/\v<4294967296) (h:(aN s).drop a=four v++r):cQ s a=v/\(aN s).drop (a+4)=r:=by
 rw[YD hv]at h;obtain⟨a1,a2,_⟩:=qP h;obtain⟨b1,b2,_⟩:=qP a2;obtain⟨c1,c2,_⟩:=qP b2;obtain⟨d1,d2,_⟩:=qP c2;refine⟨?_,d2⟩;unfold cQ;rw[show((a:Int)).toNat=a from rfl,show((a:Int)+1).toNat=a+1 from rfl,show((a:Int)+2).toNat=a+1+1 from rfl,show((a:Int)+3).toNat=a+1+1+1 from rfl,a1,b1,c1,d1,qRL (by omega) (by omega) (by omega) (by omega)];omega
structure Made (s:Schema) (l:List Rec):Prop where
 sch:aT s=0
 len:1<=l.length/\l.length<=1024
 chunk:∀c,c∈chnks s l->c.size<=4398046585379
 zone:∀i:Nat,i<s.1.length->FT (qI s.1[i]!.2.1 (fM l i))/\mF s.1[i]! (qI s.1[i]!.2.1 (fM l i))=true
 lo:SU s (fK s l[0]!)
 hi:SU s (fK s l[l.length-1]!)
 le:¬lH (CF s).2.1 (fK s l[0]!) (fK s l[l.length-1]!)>0
theorem jJ (s:Schema) (l:List Rec):(chnks s l).length=s.1.length+1:=by simp [chnks]
theorem qCE:∀(cs:List ByteArray) (c:ByteArray),c∈cs->(c.size:Int)<=eO (cs.map jO)
 | [],_,h=>by cases h
 |x::cs,c,h=>by
  have nn:∀l:List ByteArray,0<=eO (l.map jO):=fun l=>by rw[<-tK];omega
  have h1:=nn cs;have e:eO ((x::cs).map jO)=(x.size:Int)+eO (cs.map jO):=rfl;rw[e];rcases List.mem_cons.1 h with q|q
  ·subst q;omega
  ·have:=qCE cs c q;omega
theorem qG2 {s:Schema} {l:List Rec} (m:Made s l):rJ s (fJ s l) (4+eO ((chnks s l).map jO))=((((l.length:Int),eG s l (List.range s.1.length),fK s l[0]!,fK s l[l.length-1]!),offs ((chnks s l).map jO),4+eO ((chnks s l).map jO)),true):=by
 have h:(aN (fJ s l)).drop 0=four (iM (kV s))++(put (l.length:Int)++(aN (dJ ((chnks s l).map szB))++(aN (dJ ((eG s l (List.range s.1.length)).map uI))++(aN (eC (fK s l[0]!))++(aN (eC (fK s l[l.length-1]!))++ []))))):=by
  rw[List.drop_zero,fJ];simp only[bE,bG (sD _),bG (lG ⟨show(0:Int)<=(l.length:Int)by omega,by have:=m.len;omega⟩),List.append_assoc,List.append_nil]
 obtain⟨_,w2⟩:=qG (CP _) h;rw[show 0+4=4 from rfl]at w2;have hl:=m.len;obtain⟨n1,n2,n3⟩:=lF (u:=(l.length:Int)) ⟨by omega,by omega⟩ w2;have c1:=UF (b:=4+eO ((chnks s l).map jO)) (chnks s l) [] _ _ (fun c hc=>⟨by have:=qCE _ c hc;omega,m.chunk c hc⟩) n2;have c2:=(gV n2).2.1;have zl:(eG s l (List.range s.1.length)).length=s.1.length:=by simp [eG]
 have z1:=UJ (rows:=(l.length:Int)) s.1 (eG s l (List.range s.1.length)) [] _ _ zl.symm (fun i hi=>by
  have e:(eG s l (List.range s.1.length))[i]! =qI s.1[i]!.2.1 (fM l i):=by
   rw[getElem!_pos _ i (by rw[zl];exact hi)];simp [eG]
  rw[e];obtain⟨q1,q2⟩:=m.zone i hi;exact⟨q1,q2,by rw[qI,nJ]⟩) c2
 have z2:=(gV c2).2.1;obtain⟨r1,r2⟩:=MI m.lo z2;obtain⟨s1,s2⟩:=MI m.hi r2;have e0:=congrArg List.length s2;simp only[List.length_drop,bF,List.length_nil]at e0;have e1:=(gV r2).2.2;rw[rJ,show(4:Int)=((4:Nat):Int)from rfl,n1];simp only;rw[if_neg (by rintro(q|q|q);exact q rfl;omega;omega)];rw[show[((4:Nat):Int)]=offs []from rfl,<-jJ s l,show(((4:Nat):Int))=4 from rfl,c1,rP1];simp only[List.nil_append];rw[if_neg (by rintro(q|q);cases q;exact q (tV _)),z1,rP2];simp only[List.nil_append];rw[if_neg (by intro q;cases q),r1,rP3];simp only;rw[if_neg (by intro q;cases q),s1,rP4,if_neg];rintro(q|q|q)
 ·cases q
 ·have u1:=(gV n2).2.2
  have u2:=(gV c2).2.2;have u3:=(gV z2).2.2;simp only at q;omega
 ·exact m.le q
theorem NF {C F:ByteArray}:aN (eF C F)=aN jC++(aN C++(aN F++(four (F.size:Int)++aN jC))):=by
 unfold eF;simp only[bE,bG (sD _),List.append_assoc]
theorem qH (C F:ByteArray):(eF C F).size=12+C.size+F.size:=by
 unfold eF;simp only[ByteArray.size_append,pR];have:jC.size=4:=rfl;omega
theorem HN {C F:ByteArray} (hF:F.size<4294967296):CG (eF C F) jC=true/\CH (eF C F) jC=true/\cQ (eF C F) ((eF C F).size-8)=F.size/\(eF C F).extract (4+C.size) (4+C.size+F.size)=F:=by
 have h0:(aN (eF C F)).drop 0=aN jC++(aN C++(aN F++(four (F.size:Int)++aN jC))):=NF;obtain⟨a1,a2,_⟩:=gV h0;obtain⟨b1,b2,_⟩:=gV a2;obtain⟨c1,c2,_⟩:=gV b2;obtain⟨d1,d2⟩:=qG ⟨by omega,by omega⟩ c2;obtain⟨e1,_,_⟩:=gV (s:=eF C F) (w:=jC) (r:=[]) (by rw[List.append_nil];exact d2);have hz:=qH C F;have h4:jC.size=4:=rfl;rw[h4]at a1 a2 b1 b2 c1 c2 d1 d2 e1;simp only[Nat.zero_add]at a1 a2 b1 b2 c1 c2 d1 d2 e1;refine⟨?_,?_,?_,c1⟩
 ·unfold CG;rw[h4,a1,decide_eq_true (by omega),decide_eq_true rfl];rfl
 ·unfold CH
  rw[h4,show(eF C F).size-4=4+C.size+F.size+4 by omega,decide_eq_true (show 4<=(eF C F).size by omega)];have:(eF C F).size=4+C.size+F.size+4+4:=by omega
  rw[this,e1,decide_eq_true rfl];rfl
 ·rw[show(((eF C F).size:Nat):Int)-8=((4+C.size+F.size:Nat):Int)by omega];exact d1
theorem ZS {B:ByteArray}:(cB B).extract 0 B.size=B/\(aN (cB B)).drop B.size=four (iM B)++ []:=by
 have h:(aN (cB B)).drop 0=aN B++(four (iM B)++ []):=by
  rw[List.drop_zero,cB,bE,bG (sD _),List.append_nil]
 obtain⟨a1,a2,_⟩:=gV h;simp only[Nat.zero_add]at a1 a2;exact⟨a1,a2⟩
theorem LH {s:Schema} {C B:ByteArray} (h0:aT s=0) (h4:4<=B.size) (hB:B.size<4294967290) :
  bD s (eF C (cB B))=if cQ B 0≠iM (kV s)then(gW,[],1)else xQ s (B.extract 4 B.size) (eF C (cB B)).size C.size:=by
 generalize hR:(if cQ B 0≠iM (kV s)then(gW,[],1)else xQ s (B.extract 4 B.size) (eF C (cB B)).size C.size)=R;have hs:=lB B;obtain⟨f1,f2,f3,f4⟩:=HN (C:=C) (F:=cB B) (by omega);have hz:=qH C (cB B);obtain⟨p1,p2⟩:=ZS (B:=B);have e:(eF C (cB B)).extract (4+C.size) (4+C.size+B.size)=B:=by
  have h1:((eF C (cB B)).extract (4+C.size) (4+C.size+(cB B).size)).extract 0 B.size=B:=by rw[f4];exact p1
  rw[ByteArray.extract_extract,show 4+C.size+0=4+C.size from rfl,show min (4+C.size+B.size) (4+C.size+(cB B).size)=4+C.size+B.size by omega]at h1;exact h1
 have w:cQ (eF C (cB B)) ((eF C (cB B)).size-12)=iM B:=by
  have h1:cQ ((eF C (cB B)).extract (4+C.size) (4+C.size+(cB B).size)) (B.size:Int)=iM B:=by rw[f4];exact(qG (CP B) p2).1
  rw[nE (by omega) (by omega)]at h1;rw[show((eF C (cB B)).size:Int)-12=((4+C.size:Nat):Int)+(B.size:Int)by omega];exact h1
 generalize eF C (cB B)=W at *;rw[bD,if_neg (fun q=>q h0),if_neg (by omega),f3,LG,if_neg (by omega),if_neg (by rw[f1,f2];rintro(q|q|q);cases q;cases q;omega),show(W.size:Int)-8-((cB B).size:Int)=((4+C.size:Nat):Int)by omega,show W.size-12=4+C.size+B.size by omega,Int.toNat_natCast,e,nK,w,if_neg (fun q=>q rfl),show(W.size:Int)-12-((cB B).size:Int)=(C.size:Int)by omega];exact hR
theorem tJ {m:Nat}:∀ {l:List ByteArray},(∀b,b∈l->b.size<=m)->(dJ l).size<=m*l.length
 | [],_=>Nat.zero_le _
 |b::l,h=>by
  have h1:=h b (List.mem_cons_self ..);have h2:=tJ fun x hx=>h x (List.mem_cons_of_mem _ hx)
  rw[dJ,ByteArray.size_append,List.length_cons,Nat.mul_succ];omega
theorem qQO (v:Val):1<=(xV v).size:=by
 unfold xV;split
 ·exact Nat.le_refl 1
 ·simp only[ByteArray.size_append]
  have s1:(⟨#[1]⟩:ByteArray).size=1:=rfl;omega
theorem lI {s:Schema} {r:Rank} (h:SU s r):2<=(eC r).size/\(eC r).size<=1048700:=by
 have h1:=uB (v:=r.1);have h2:=qQO r.1;have h3:=bL r.2;have h4:=h.1.2.2;unfold eC;rw[ByteArray.size_append,bJ];omega
theorem uG {z:Zone} (h:FT z):(uI z).size<=2200000:=by
 obtain⟨_,_,h3,h4⟩:=h;have a1:=uB (v:=z.2.2.1);have a2:=uB (v:=z.2.2.2);have a3:=bL (dX 0 z.1);have a4:=bL (dX 0 z.2.1);have a5:=h3.2.2;have a6:=h4.2.2;unfold uI;simp only[ByteArray.size_append,bJ];omega
theorem qO9 {s:Schema} {l:List Rec} (m:Made s l):8<=(fJ s l).size/\(fJ s l).size<4294967290:=by
 have hs:=aY m.sch;have p1:=bL (l.length:Int);have b1:(dJ ((chnks s l).map szB)).size<=10*((chnks s l).map szB).length:=tJ fun b hb=>by
  obtain⟨c,_,rfl⟩:=List.mem_map.1 hb;rw[szB,bJ];exact(bL _).1
 have b2:(dJ ((eG s l (List.range s.1.length)).map uI)).size<=2200000*((eG s l (List.range s.1.length)).map uI).length:=tJ fun b hb=>by
  obtain⟨z,hz,rfl⟩:=List.mem_map.1 hb;obtain⟨i,hi,rfl⟩:=List.mem_map.1 hz;rw[List.mem_range]at hi;exact uG (m.zone i hi).1
 rw[List.length_map,jJ]at b1;rw[List.length_map,eG,List.length_map,List.length_range]at b2;have r1:=lI m.lo;have r2:=lI m.hi;have f4:(four (iM (kV s))).length=4:=rfl;unfold fJ;simp only[ByteArray.size_append,bJ,pR,eG]at b2 ⊢;omega
theorem tR {s:Schema} {l:List Rec} (m:Made s l):bD s (dD s l)=(((l.length:Int),eG s l (List.range s.1.length),fK s l[0]!,fK s l[l.length-1]!),(chnks s l).map jO,0):=by
 have hsz:=qO9 m;have hw:cQ (fJ s l) 0=iM (kV s):=(qG (s:=fJ s l) (a:=0) (CP _) (by
  rw[List.drop_zero,fJ];simp only[bE,bG (sD _),List.append_assoc];rfl)).1
 rw[dD,LH m.sch (by omega) hsz.2,if_neg (fun q=>q hw)];have hr:=qG2 m;obtain⟨_,p2⟩:=MF (s:=s) (f:=fJ s l) (st:=4+eO ((chnks s l).map jO)) (m:=(eF (dJ (chnks s l)) (cB (fJ s l))).size) (by omega) (by rw[qH,<-tK];omega);obtain⟨k,e1,e2,e3,e4,e5,_⟩:=p2 (by rw[hr]);rw[show 4+eO ((chnks s l).map jO)-4=((dJ (chnks s l)).size:Int)by rw[tK];omega]at e1;rw[e1,hr];rw[hr]at e2;(try simp only at e2);(try simp only);have hk:k=(chnks s l).map jO:=by
  apply List.ext_getElem
  ·rw[e3,List.length_map,jJ]
  ·intro i h1 h2
   have len:((chnks s l).map jO).length=k.length:=by rw[e3,List.length_map,jJ]
   have a0:=congrArg (fun x:List Int=>x[i]!) e2;have a1:=congrArg (fun x:List Int=>x[i+1]!) e2;rw[PX (by omega),PX (by omega)]at a0 a1;have b0:=uE (l:=k) (k:=(i:Int)) ⟨by omega,by omega⟩;have b1:=uE (l:=(chnks s l).map jO) (k:=(i:Int)) ⟨by omega,by omega⟩;rw[show((i:Int)+1).toNat=i+1 by omega,show((i:Int)).toNat=i from rfl]at b0 b1;rw[getElem!_pos k i h1]at b0;rw[getElem!_pos _ i h2]at b1;omega
 rw[hk]
theorem KK:∀(cs:List ByteArray) (i:Nat) {f:ByteArray} {a:Nat} {r:List Int},i<cs.length->(aN f).drop a=aN (dJ cs)++r ->
  f.extract (a+(dJ (cs.take i)).size) (a+(dJ (cs.take i)).size+(cs[i]!).size)=cs[i]!
 | [],_,_,_,_,h,_=>by cases h
 |c::cs,0,f,a,r,_,h=>by
  rw[dJ,bE,List.append_assoc]at h;exact(gV h).1
 |c::cs,i+1,f,a,r,hi,h=>by
  rw[dJ,bE,List.append_assoc]at h;have:=KK cs i (by simpa using hi) (gV h).2.1;rw[List.take_succ_cons,dJ,ByteArray.size_append];show f.extract (a+(c.size+(dJ (cs.take i)).size)) (a+(c.size+(dJ (cs.take i)).size)+(cs[i]!).size)=cs[i]!;rw[<-Nat.add_assoc];exact this
theorem qJC {s:Schema} {l:List Rec} {i:Nat} (hi:i<s.1.length+1):(chnks s l)[i]! =chnk s l i:=by
 rw[getElem!_pos _ i (by rw[jJ];exact hi)];simp [chnks]
theorem qQK {cs:List ByteArray} {f:ByteArray} {r:List Int} {i:Nat} (hi:i<cs.length) (h:(aN f).drop 4=aN (dJ cs)++r):BN f (cs.map jO) i=cs[i]!:=by
 have e:=KK cs i hi h;have h1:eO ((cs.map jO).take i)=((dJ (cs.take i)).size:Int):=by rw[<-List.map_take,tK]
 have h2:(cs.map jO)[i]! =(cs[i]!.size:Int):=by
  rw[getElem!_pos _ i (by rw[List.length_map];exact hi),getElem!_pos cs i hi,List.getElem_map];rfl
 unfold BN;rw[Int.toNat_natCast,h1,h2,show(4+((dJ (cs.take i)).size:Int)).toNat=4+(dJ (cs.take i)).size by omega,show(4+((dJ (cs.take i)).size:Int)+(cs[i]!.size:Int)).toNat=4+(dJ (cs.take i)).size+cs[i]!.size by omega];exact e
theorem WR {C F:ByteArray}:∃r,(aN (eF C F)).drop 4=aN C++r:=by
 have h0:(aN (eF C F)).drop 0=aN jC++(aN C++(aN F++(four (F.size:Int)++aN jC))):=NF;have h:=(gV h0).2.1;exact⟨_,h⟩
theorem qJL (s:Schema) (l:List Rec) (i:Nat):(wW s l i).length=l.length:=by
 unfold wW;split
 ·simp [gM]
 ·exact nJ l i
theorem RZ {s:Schema} {l:List Rec} (m:Made s l) {i:Nat} (hi:i<s.1.length+1) (hd:pD (oM s i) (chnk s l i)=(wW s l i,0)):chV s (dD s l) (bD s (dD s l)) i=(wW s l i,0):=by
 obtain⟨r,hr⟩:=WR (C:=dJ (chnks s l)) (F:=cB (fJ s l));have hp:BN (dD s l) ((chnks s l).map jO) i=chnk s l i:=by
  rw[dD,qQK (by rw[jJ];exact hi) hr,qJC hi]
 unfold chV;rw[tR m];simp only;unfold kG;rw[hp,hd];simp only[qJL];rw[if_neg (fun q=>q rfl),if_neg (fun q=>q rfl)]
theorem QF {s:Schema} {l:List Rec} (hv:cU s l=true) {j:Nat} (hj:j<l.length):(l[j]!).2.length=s.1.length:=by
 have h:=(dH hv).2 j hj;unfold lZ at h;split at h
 ·cases h
 ·rename_i q;exact Decidable.not_not.1 q
theorem qG4 {s:Schema} {l:List Rec} (m:Made s l) (hv:cU s l=true) (hd:∀i:Nat,i<s.1.length+1->pD (oM s i) (chnk s l i)=(wW s l i,0)):qL3 s (dD s l) (bD s (dD s l))=l:=by
 have hc:∀i:Nat,i<s.1.length+1->chL s (dD s l) (bD s (dD s l)) i=wW s l i:=fun i hi=>by
  show(chV s (dD s l) (bD s (dD s l)) i).1=_;rw[RZ m hi (hd i hi)]
 have hn:(bD s (dD s l)).1.1.toNat=l.length:=by rw[tR m];rfl
 unfold qL3;rw[hn];apply List.ext_getElem?;intro j;by_cases h:j<l.length
 ·rw[nT h,List.getElem?_eq_getElem h,<-getElem!_pos l j h]
  congr 1
  have hr:=QF hv h;unfold oT;rw[if_pos (.inl (Nat.lt_succ_self _)),if_neg (Nat.not_lt_zero _),Nat.min_eq_left (by omega),hc _ (by omega)];refine Prod.ext ?_ ?_
  ·show(wW s l s.1.length)[j]!.2.1=_
   rw[wW,if_pos rfl,gM,getElem!_pos _ j (by simpa using h),List.getElem_map,getElem!_pos l j h]
  ·show(List.range s.1.length).map _=l[j]!.2
   apply List.ext_getElem
   ·rw[List.length_map,List.length_range,hr]
   ·intro c h1 h2
    rw[List.length_map,List.length_range]at h1;rw[List.getElem_map,List.getElem_range,hc c (by omega),wW,if_neg (by omega),fM,getElem!_pos _ j (by simpa using h),List.getElem_map];unfold atV;rw[<-getElem!_pos l j h,if_pos h2,getElem!_pos _ c h2]
 ·rw[List.getElem?_eq_none (by rw[iS];omega),List.getElem?_eq_none (by omega)]
theorem qG6 {s:Schema} {l:List Rec} (m:Made s l) (hs:cX s l=true) (hd:∀i:Nat,i<s.1.length+1->pD (oM s i) (chnk s l i)=(wW s l i,0)):rK s (dD s l)=(l,0):=by
 have hv:cU s l=true:=by
  unfold cX at hs;cases h:cU s l with
  |true=>rfl
  |false=>rw[h]at hs;cases hs
 have he:∀(k i:Nat),i+k=s.1.length+1->zH (chE s (dD s l) (bD s (dD s l))) k i=0:=by
  intro k;induction k with
  |zero=>intro i _;rfl
  |succ k ih=>
   intro i hi;have h0:chE s (dD s l) (bD s (dD s l)) i=0:=by
    show(chV s (dD s l) (bD s (dD s l)) i).2=0;rw[RZ m (by omega) (hd i (by omega))]
   rw[zH,if_neg (fun q=>q h0)];exact ih (i+1) (by omega)
 have hf:(bD s (dD s l)).2.2=0:=by rw[tR m]
 have hi:(bD s (dD s l)).1=BF s l:=by rw[tR m];rfl
 unfold rK xY;rw[if_neg (fun q=>q hf),if_neg (fun q=>q (he _ 0 (by omega))),qG4 m hv hd,hi,GT,if_neg (by rw[hs];intro q;cases q),if_neg (by rintro(q|q|q)<;>exact q rfl)]
def yV (l:List Rec):Prop:=∀r,r∈l->∀v,v∈r.2->inI v.2.1
theorem tN {c:Col} {l:List Val} (hl:l.length<=4096) (hv:∀v,v∈l->okV v):(iN c l).1.size<=4398046585379:=by
 unfold iN;split
 ·exact Nat.zero_le _
 split
 ·exact Nat.zero_le _
 split
 ·exact Nat.zero_le _
 rcases qJA (t:=c.2.1) (l:=l) 4 1 ⟨#[]⟩ (.inl rfl)with q|⟨j,hj,q⟩
 ·rw[q];exact Nat.zero_le _
 ·rw[q];exact(DP hv hl).1
theorem tD {s:Schema} {l:List Rec} (hv:cU s l=true) (hi:yV l) {i:Nat} (h:i<s.1.length):∀v,v∈fM l i->bQ s.1[i]! v=0/\inI v.2.1:=by
 intro v hm;obtain⟨r,hr,rfl⟩:=List.mem_map.1 hm;obtain⟨j,hj,rfl⟩:=List.mem_iff_getElem.1 hr;have h0:=(dH hv).2 j hj;have hn:=QF hv hj;rw[getElem!_pos l j hj]at h0 hn;unfold atV;rw[if_pos (by omega)];refine⟨?_,?_⟩
 ·unfold lZ at h0
  rw[if_neg (fun q=>q hn)]at h0;have:=pQ h0 (i:Int) ⟨by omega,by omega⟩;exact this
 ·rw[getElem!_pos _ i (by omega)]
  exact hi _ (List.getElem_mem hj) _ (List.getElem_mem _)
theorem GZ {s:Schema} {l:List Rec} (hv:cU s l=true):∀v,v∈gM l->bQ vR v=0/\inI v.2.1:=by
 intro v hm;obtain⟨r,hr,rfl⟩:=List.mem_map.1 hm;simp only[cU,Bool.and_eq_true,decide_eq_true_eq,List.all_eq_true]at hv;have q:=hv.2 r hr;simp only[mJ,Bool.and_eq_true,decide_eq_true_eq]at q;refine⟨rfl,?_⟩;show inI r.1;unfold inI;omega
theorem qQ3 {s:Schema} {l:List Rec} (hv:cU s l=true) {j:Nat} (hj:j<l.length):0<=(l[j]!).1/\(l[j]!).1<=1099511627776:=by
 simp only[cU,Bool.and_eq_true,decide_eq_true_eq,List.all_eq_true]at hv;have q:=hv.2 l[j]! (by rw[getElem!_pos l j hj];exact List.getElem_mem hj);simp only[mJ,Bool.and_eq_true,decide_eq_true_eq]at q;omega
theorem CS {c:Col} {v:Val} (h:bQ c v=0/\inI v.2.1):FS v:=by
 have ho:=eP h.1 h.2;exact⟨fun q=>FD h.1 q,h.2,ho.1⟩
theorem qR1 {P:Val->Prop} (h0:P gJ) {t g:Int} {a b:Val} (ha:P a) (hb:P b):P (rD t g a b):=by
 unfold rD;split
 ·exact h0
 split
 ·exact hb
 split
 ·exact ha
 split
 ·exact hb
 ·exact ha
theorem qNZ {P:Val->Prop} (h0:P gJ) {t:Int}:∀(l:List Val) (z:Int×Val×Val),P z.2.1->P z.2.2->(∀v,v∈l->P v)->P (zGo t l z).2.1/\P (zGo t l z).2.2/\z.1<=(zGo t l z).1/\(zGo t l z).1<=z.1+l.length
 | [],z,h1,h2,_=>⟨h1,h2,Int.le_refl _,by simp [zGo]⟩
 |v::l,z,h1,h2,h=>by
  have hv:=h v (List.mem_cons_self ..);have hl:∀x,x∈l->P x:=fun x hx=>h x (List.mem_cons_of_mem _ hx)
  have e:zGo t (v::l) z=zGo t l (CB t z v):=rfl;rw[e,List.length_cons];unfold CB;split
  ·obtain⟨q1,q2,q3,q4⟩:=qNZ h0 (t:=t) l (z.1+1,z.2.1,z.2.2) h1 h2 hl
   exact⟨q1,q2,by simp only at q3;omega,by simp only at q4;omega⟩
  ·obtain⟨q1,q2,q3,q4⟩:=qNZ h0 (t:=t) l (z.1,rD t (-1) z.2.1 v,rD t 1 z.2.2 v) (qR1 h0 h1 hv) (qR1 h0 h2 hv) hl
   exact⟨q1,q2,by simp only at q3;omega,by simp only at q4;omega⟩
theorem zO:FS gJ:=⟨fun _=>rfl,QP,Nat.zero_le _⟩
theorem zX {t:Int} {l:List Val} (hl:l.length<=4096) (h:∀v,v∈l->FS v):FT (qI t l):=by
 obtain⟨q1,q2,q3,q4⟩:=qNZ zO (t:=t) l (0,gJ,gJ) zO zO h;refine⟨⟨?_,?_⟩,⟨q3,?_⟩,q1,q2⟩
 ·show(0:Int)<=(l.length:Int);omega
 ·show(l.length:Int)<=4096;omega
 ·show(zGo t l (0,gJ,gJ)).1<=4096
  simp only at q4;omega
theorem CL {s:Schema} {l:List Rec} {i:Nat} (h:i<s.1.length):chnk s l i=(iN s.1[i]! (fM l i)).1:=by
 unfold chnk oM wW;rw[if_neg (by omega),if_neg (by omega),Int.toNat_natCast]
theorem FF {s:Schema} {l:List Rec}:chnk s l s.1.length=(iN vR (gM l)).1:=by
 unfold chnk oM wW;rw[if_pos rfl,if_pos rfl]
theorem oP {s:Schema} {l:List Rec} (hv:cU s l=true) (hi:yV l) (hl:l.length<=1024) {k:Int} (h:0<=k/\k<s.1.length) :
  @getElem! (List (List Val)) Nat (List Val) (fun xs i=>i<xs.length) _ (instInhabitedDen (.list bP)) (oO l s.1.length) k.toNat=fM l k.toNat/\(fM l k.toNat).length<=1024/\(∀v,v∈fM l k.toNat->inI v.2.1)/\(iN s.1[k.toNat]! (fM l k.toNat)).1.size<=4398046585379/\FT (qI s.1[k.toNat]!.2.1 (fM l k.toNat)):=by
 have hk:k.toNat<s.1.length:=by omega
 have hs:=aY (dH hv).1;have ho:=tD hv hi hk;have hlen:=nJ l k.toNat;refine⟨(rW (l:=l) (n:=(s.1.length:Int)) ⟨by omega,by omega⟩).2 _ (by omega),by omega,fun v q=>(ho v q).2,tN (by omega) fun v q=>eP (ho v q).1 (ho v q).2,zX (by omega) fun v q=>CS (ho v q)⟩
theorem OT {s:Schema} {l:List Rec} (hv:cU s l=true) (hl:l.length<=1024):(gM l).length<=1024/\(∀v,v∈gM l->inI v.2.1)/\(iN ((⟨#[115,101,113]⟩,1,0,false):Col) (gM l)).1.size<=4398046585379:=by
 have ho:=GZ hv;have hlen:(gM l).length=l.length:=by simp [gM]
 exact⟨by omega,fun v q=>(ho v q).2,tN (by omega) fun v q=>eP (ho v q).1 (ho v q).2⟩
theorem gQ {s:Schema} {l:List Rec} (hv:cU s l=true) (hi:yV l) {j:Nat} (hj:j<l.length):SU s (fK s l[j]!):=by
 have hs:=aY (dH hv).1;have hn:=QF hv hj;have hq:=qQ3 hv hj;have ho:=tD hv hi (i:=s.2.toNat) (by omega);have hm:(l[j]!).2[s.2.toNat]! ∈fM l s.2.toNat:=List.mem_map.2 ⟨l[j]!,by rw[getElem!_pos l j hj];exact List.getElem_mem hj,by unfold atV;rw[if_pos (by omega)]⟩;unfold fK;rw[if_neg (by omega)];have h1:=ho _ hm;exact⟨CS h1,h1.1,hq⟩
theorem cL {s:Schema} {l:List Rec} (h:cX s l=true):cU s l=true:=by
 unfold cX at h;cases q:cU s l with
 |true=>rfl
 |false=>rw[q]at h;cases h
theorem qVQ {s:Schema} {l:List Rec} (h:¬(idS s).2=0):jE s l=(⟨#[]⟩,(idS s).2):=by rw[qPL]at h ⊢;rw[jE,if_pos h]
theorem qVR {s:Schema} {l:List Rec} (h:(idS s).2=0) (h1:l.length>1024):jE s l=(⟨#[]⟩,7):=by rw[qPL]at h;rw[jE,if_neg (fun q=>q h),if_pos h1]
theorem qRU {s:Schema} {l:List Rec} (h:(idS s).2=0) (h1:¬l.length>1024) (h2:l.length=0\/cX s l=false):jE s l=(⟨#[]⟩,1):=by rw[qPL]at h;rw[jE,if_neg (fun q=>q h),if_neg h1,if_pos h2]
theorem qRV {s:Schema} {l:List Rec} (h:(idS s).2=0) (h1:¬l.length>1024) (h2:¬l.length=0) (h3:cX s l=true):jE s l=(dD s l,0):=by
 rw[qPL]at h;rw[jE,if_neg (fun q=>q h),if_neg h1,if_neg (by rintro(q|q);exact h2 q;rw[h3]at q;cases q)]
abbrev chP (s:Schema) (l:List Rec) (k:Nat):List ByteArray:=(List.range k).map (chnk s l)
theorem RY {s:Schema} {l:List Rec} {k:Int} (h:0<=k):chP s l (k+1).toNat=chP s l k.toNat++ [chnk s l k.toNat]:=by
 rw[show(k+1).toNat=k.toNat+1 by omega,chP,List.range_succ,List.map_append];rfl
theorem KM {s:Schema} {l:List Rec}:chnks s l=chP s l s.1.length++ [(iN ((⟨#[115,101,113]⟩,1,0,false):Col) (gM l)).1]:=by
 rw[chnks,List.range_succ,List.map_append,List.map_cons,List.map_nil,FF]
theorem rU (b:ByteArray):dJ [b]=b:=CI b
abbrev EL:Ct:=.fn [bW,.list fO] (some (fun(s:Schema) (l:List Rec)=>(l.length<=1099511627776)/\(yV l))) (fun(s:Schema) (l:List Rec)=>.tup [.str,.int .i64] ((jE s l).1,(jE s l).2,()))
theorem qMA:aF Tryz.prog 14 EL:=by
 refine aF.fn WB mixed [] [] rfl rfl ?_;rintro⟨(s:Schema),(l:List Rec),_⟩ hpre;replace hpre:=hpre _ rfl;dsimp only[cu]at hpre;obtain⟨hl,hin⟩:=hpre;refine⟨[(0,22,LA.mk [.sl 47 (.int .i64),.sl 9 .str,.sl 10 .str,.sl 11 .str] (fun y=>Tag 86/\cu [.int .i64,.str,.str,.str] (fun(k:Int) (o:ByteArray) (q:ByteArray) (z:ByteArray)=>(0<=k/\k<=s.1.length)/\(o=jC++dJ (chP s l k.toNat))/\(q=dJ ((chP s l k.toNat).map szB))/\(z=dJ ((eG s l (List.range k.toNat)).map uI))/\((o.size:Int)<=4+4398046585379*k)/\((q.size:Int)<=10*k)/\((z.size:Int)<=2200000*k)) y) (cu [.int .i64,.str,.str,.str] (fun(k:Int) (o:ByteArray) (q:ByteArray) (z:ByteArray)=>((s.1.length:Int)-k).toNat)) (cu [.int .i64,.str,.str,.str] (fun(k:Int) (o:ByteArray) (q:ByteArray) (z:ByteArray)=>([]:List (Nat×Nat×LA)))))],?_⟩;repeat' (first
  |(
 with_reducible refine Side.mk ⟨(⟨⟩:Tag 86),?_⟩
 dsimp only[cu,aC,aB,gts,eE,eN]
 refine⟨?_,?_,?_,?_,?_,?_,?_⟩
 ·omega
 ·first
  |exact(CI _).symm
  |(
  have hv:=cL (s:=s) (l:=l) (kH (by with_reducible assumption))
  have hs:=aY (dH hv).1
  have ec:=oP hv hin (by omega) (k:=k) (by omega)
  obtain⟨c1,c2,c3,c4,c5⟩:=ec
  rw[ho,c1,RY (by omega),rT,rU,CL (by omega),ByteArray.append_assoc])
 ·first
  |rfl
  |(
  have hv:=cL (s:=s) (l:=l) (kH (by with_reducible assumption))
  have hs:=aY (dH hv).1
  have ec:=oP hv hin (by omega) (k:=k) (by omega)
  obtain⟨c1,c2,c3,c4,c5⟩:=ec
  have hu:=aW (n:=(((iN s.1[k.toNat]! (fM l k.toNat)).1.size:Nat):Int)) (by omega)
  rw[hq,c1,hu,RY (by omega),List.map_append,rT,List.map_cons,List.map_nil,rU,CL (by omega)]
  rfl)
 ·first
  |rfl
  |(
  have hv:=cL (s:=s) (l:=l) (kH (by with_reducible assumption))
  have hs:=aY (dH hv).1
  have ec:=oP hv hin (by omega) (k:=k) (by omega)
  obtain⟨c1,c2,c3,c4,c5⟩:=ec
  rw[hz,c1,CC (by omega),List.map_append,rT,List.map_cons,List.map_nil,rU])
 ·first
  |exact Int.le_refl _
  |(
  have hv:=cL (s:=s) (l:=l) (kH (by with_reducible assumption))
  have hs:=aY (dH hv).1
  have ec:=oP hv hin (by omega) (k:=k) (by omega)
  obtain⟨c1,c2,c3,c4,c5⟩:=ec
  rw[c1,ByteArray.size_append]
  omega)
 ·first
  |exact Int.le_refl _
  |(
  have hv:=cL (s:=s) (l:=l) (kH (by with_reducible assumption))
  have hs:=aY (dH hv).1
  have ec:=oP hv hin (by omega) (k:=k) (by omega)
  obtain⟨c1,c2,c3,c4,c5⟩:=ec
  have hu:=aW (n:=(((iN s.1[k.toNat]! (fM l k.toNat)).1.size:Nat):Int)) (by omega)
  have p1:=bL (((iN s.1[k.toNat]! (fM l k.toNat)).1.size:Nat):Int)
  have p2:=uG c5
  rw[c1,hu,ByteArray.size_append,bJ]
  omega)
 ·first
  |exact Int.le_refl _
  |(
  have hv:=cL (s:=s) (l:=l) (kH (by with_reducible assumption))
  have hs:=aY (dH hv).1
  have ec:=oP hv hin (by omega) (k:=k) (by omega)
  obtain⟨c1,c2,c3,c4,c5⟩:=ec
  have p1:=bL (((iN s.1[k.toNat]! (fM l k.toNat)).1.size:Nat):Int)
  have p2:=uG c5
  rw[c1,ByteArray.size_append]
  omega))
  |(
 with_reducible apply Side.mk
 (try dsimp only[cu,aC,aB,gts,loK,hiK,eE,eN])
 first
 |omega
 |(
  have hv:=cL (s:=s) (l:=l) (kH (by with_reducible assumption));have hs:=aY (dH hv).1;first
  |omega
  |(
   have ec:=oP hv hin (by omega) (k:=k) (by omega);obtain⟨c1,c2,c3,c4,c5⟩:=ec;first
   |(
    rw[c1];first
    |omega
    |(exact⟨by omega,c3⟩))
   |(
    have p1:=bL (((iN s.1[k.toNat]! (fM l k.toNat)).1.size:Nat):Int);have p2:=uG c5;rw[c1];omega)
   |(
    have hu:=aW (n:=(((iN s.1[k.toNat]! (fM l k.toNat)).1.size:Nat):Int)) (by omega);have p1:=bL (((iN s.1[k.toNat]! (fM l k.toNat)).1.size:Nat):Int);have p2:=uG c5;first
    |(
     rw[c1,hu];omega)
    |(
     rw[c1,hu,bJ];omega))
   |(
    rw[c1];exact⟨⟨c5.1.2,c5.2.1.2⟩,⟨c5.2.2.1.2.1,by have:=c5.2.2.1.2.2;omega⟩,⟨c5.2.2.2.2.1,by have:=c5.2.2.2.2.2;omega⟩⟩))
  |(
   have es:=OT hv (by omega);obtain⟨d1,d2,d3⟩:=es;first
   |exact⟨by omega,d2⟩
   |omega
   |(
    have hu:=aW (n:=(((iN ((⟨#[115,101,113]⟩,1,0,false):Col) (gM l)).1.size:Nat):Int)) (by omega);have p1:=bL (((iN ((⟨#[115,101,113]⟩,1,0,false):Col) (gM l)).1.size:Nat):Int);first
    |(
     rw[hu];omega)
    |(
     rw[hu,bJ];omega)))
  |(
   have hul:=aW (n:=(l.length:Int)) (by omega);have p3:=bL (l.length:Int);rw[hul];omega)
  |(
   have r1:=gQ hv hin (j:=(0:Int).toNat) (by omega);have r2:=gQ hv hin (j:=((l.length:Int)-1).toNat) (by omega);have z1:=lI r1;have z2:=lI r2;first
   |exact⟨⟨r1.2.2.1,r1.2.2.2⟩,r1.1.2.1,by have:=r1.1.2.2;omega⟩
   |(exact⟨⟨r2.2.2.1,r2.2.2.2⟩,r2.1.2.1,by have:=r2.1.2.2;omega⟩))
  |(
   have hul:=aW (n:=(l.length:Int)) (by omega);have p3:=bL (l.length:Int);have hv:=cL (s:=s) (l:=l) (kH (by with_reducible assumption));have hs:=aY (dH hv).1;have es:=OT hv (by omega);obtain⟨d1,d2,d3⟩:=es;have hu:=aW (n:=(((iN ((⟨#[115,101,113]⟩,1,0,false):Col) (gM l)).1.size:Nat):Int)) (by omega);have p1:=bL (((iN ((⟨#[115,101,113]⟩,1,0,false):Col) (gM l)).1.size:Nat):Int);have r1:=gQ hv hin (j:=(0:Int).toNat) (by omega);have r2:=gQ hv hin (j:=((l.length:Int)-1).toNat) (by omega);have z1:=lI r1;have z2:=lI r2;have f4:∀v,(four v).length=4:=fun _=>rfl
   have u9:(⟨#[77,80,84,49]⟩:ByteArray).size=4:=rfl;simp only[ByteArray.size_append,bJ,hu,hul,f4];omega)
  |(
   have ec:=oP hv hin (by omega) (k:=k) (by omega);obtain⟨c1,c2,c3,c4,c5⟩:=ec;have:=(rW (l:=l) (n:=(s.1.length:Int)) ⟨by omega,by omega⟩).1;omega)))
  |(conv=>whnf
    first
     |with_reducible first|done|exact trivial|refine NilBr.mk (fun h=>?_) ?_|apply aI|apply aH|refine aJ (by kernel_rfl) ?_|apply aK|apply bB|apply bA|apply aQ
     |((with_reducible first|apply aS|apply aR|apply aZ)<;>intro h<;>(try dsimp only[cu,eE,eN]at h)<;>(try(exfalso;omega)))
     |(
 intro yy (hy:Tag 86/\_)
 obtain⟨(k:Int),(o:ByteArray),(q:ByteArray),(z:ByteArray),_⟩:=yy
 replace hy:=hy.2
 dsimp only[cu,aC,aB,gts,eE,eN]at hy
 obtain⟨hk,ho,hq,hz,hzo,hzq,hzz⟩:=hy)))
 all_goals(
 with_reducible apply Leaf.mk
 (try dsimp only[cu,aC,aB,gts,eE,eN]at *)
 first
 |rw[qVQ (by with_reducible assumption)]
 |rw[qVR (by with_reducible assumption) (by omega)]
 |rw[qRU (by with_reducible assumption) (by omega) (.inl (by omega))]
 |rw[qRU (by with_reducible assumption) (by omega) (.inr (YW (by with_reducible assumption)))]
 |(
  have hv:=cL (s:=s) (l:=l) (kH (by with_reducible assumption));have hs:=aY (dH hv).1;have hul:=aW (n:=(l.length:Int)) (by omega);have p3:=bL (l.length:Int);have hv:=cL (s:=s) (l:=l) (kH (by with_reducible assumption));have hs:=aY (dH hv).1;have es:=OT hv (by omega);obtain⟨d1,d2,d3⟩:=es;have hu:=aW (n:=(((iN ((⟨#[115,101,113]⟩,1,0,false):Col) (gM l)).1.size:Nat):Int)) (by omega);have p1:=bL (((iN ((⟨#[115,101,113]⟩,1,0,false):Col) (gM l)).1.size:Nat):Int);have r1:=gQ hv hin (j:=(0:Int).toNat) (by omega);have r2:=gQ hv hin (j:=((l.length:Int)-1).toNat) (by omega);have z1:=lI r1;have z2:=lI r2;have f4:∀v,(four v).length=4:=fun _=>rfl
  have u9:(⟨#[77,80,84,49]⟩:ByteArray).size=4:=rfl;have hk2:k.toNat=s.1.length:=by omega
  rw[hk2]at ho hq hz;have hf:fJ s l=aV (four (idS s).1)++aV (put (l.length:Int))++(q++aV (put (((iN ((⟨#[115,101,113]⟩,1,0,false):Col) (gM l)).1.size:Nat):Int)))++z++eC (fK s l[(0:Int).toNat]!)++eC (fK s l[((l.length:Int)-1).toNat]!):=by
   rw[fJ,KM,List.map_append,rT,List.map_cons,List.map_nil,rU,<-hq,<-hz,YJ (dH hv).1,show((l.length:Int)-1).toNat=l.length-1 by omega];rfl
  have hfs:((cB (fJ s l)).size:Int)<4294967296:=by
   rw[lB,hf];simp only[ByteArray.size_append,bJ,f4];omega
  rw[qRV (by with_reducible assumption) (by omega) (by omega) (kH (by with_reducible assumption))];rw[hu,hul,<-hf];show o++(iN ((⟨#[115,101,113]⟩,1,0,false):Col) (gM l)).1++cB (fJ s l)++aV (four (IntKind.u32.wrap ((cB (fJ s l)).size:Int)))++jC=eF (dJ (chnks s l)) (cB (fJ s l));rw[vV ⟨by omega,hfs⟩,ho,KM,rT,rU,eF];simp only[ByteArray.append_assoc])
 |(rw[qRV (by with_reducible assumption) (by omega) (by omega) (kH (by with_reducible assumption))]))
abbrev qS0:Tbl:=(14,EL)::qSZ
theorem WC:aD Tryz.prog qS0:=aD.cons qMA WB
theorem qBU {c:Col} {v:Val} (hc:c.2.1=1) (hn:v.1=false) (hv:bQ c v=0) (hi:inI v.2.1) (hz:v.2.2=⟨#[]⟩):pD c (eK 1 1 [v])=([v],0):=by
 have hsome:iA [v]= [v]:=by simp [iA,hn]
 have hB:(aN (pC 1 1 [v])).drop 0=1::(put 1++(put 0++(put (fY v.2.1)++ []))):=by
  rw[List.drop_zero,FH (by rw[hsome];exact Nat.lt_irrefl _),hsome,xG,hsome];show aN (((aV [IntKind.u8.wrap 1]++aV (put 1))++aV (put 0))++(plV 1 v++ByteArray.empty))=_;rw[ByteArray.append_empty,plV,if_neg (by decide),bE,bE,bE,bG (fun b hb=>by rw[List.mem_singleton.1 hb];exact oX 1),bG (lG ⟨by decide,by decide⟩),bG (lG ⟨by decide,by decide⟩),bG (lG (mZ hi)),List.append_nil,WI ⟨by decide,by decide⟩];simp only[List.append_assoc,List.singleton_append,List.cons_append,List.nil_append]
 have hsz:=(BE (t:=1) (k:=1) (l:=[v]) (fun x hx=>by rw[List.mem_singleton.1 hx];exact eP hv hi) (by simp)).2;obtain⟨o1,o2⟩:=qGX hsz;generalize hBB:pC 1 1 [v]=B at *;obtain⟨b1,d1,_⟩:=qP hB;obtain⟨g1,g2,_⟩:=lF (u:=1) ⟨by decide,by decide⟩ d1;obtain⟨k1,k2,k3⟩:=lF (u:=0) ⟨by decide,by decide⟩ g2;rw[show((0+1:Nat):Int)=1 from rfl]at g1;generalize hA:0+1+(put 1).length+(put 0).length=A at k1 k2 k3;have hP:aN (B.extract A B.size)=put (fY v.2.1):=by
  rw[FW,k2,List.append_nil];have:=congrArg List.length k2;simp only[List.length_drop,bF,List.append_nil]at this;rw[List.take_of_length_le (by omega)]
 generalize hPP:B.extract A B.size=P at hP;obtain⟨p1,p2,p3⟩:=lF (s:=P) (a:=0) (r:=[]) (mZ hi) (by rw[List.drop_zero,hP,List.append_nil]);have pl:=congrArg List.length p2;simp only[List.length_drop,bF,List.length_nil]at pl;have hus:cT c.2.1 (aG B (0:Int).toNat)=true:=by
  rw[show aG B (0:Int).toNat=1 from b1,show c.2.1=1 from hc];rfl
 have e1:(aA B 1).2.1=((0+1+(put 1).length:Nat):Int):=by rw[g1]
 have e2:aA B (aA B 1).2.1=(0,(A:Int),0):=by rw[e1,k1]
 have hp:=OA (c:=c) hus (by rw[g1]) (by rw[g1];decide) (by rw[e2]) (by rw[e2,g1];show(0:Int)<=1;decide);have hr:fU c.2.1 (aG B (0:Int).toNat) (B.extract ((A:Int)).toNat B.size) (1-0)=([v],true):=by
  rw[show aG B (0:Int).toNat=1 from b1,qV8 rfl,Int.toNat_natCast,hPP];show kI c.2.1 P 1 0 []=_;rw[kI,show(0:Int)=((0:Nat):Int)from rfl,p1,if_neg (fun q=>q rfl),if_neg (by rw[show c.2.1=1 from hc];decide),kI];refine Prod.ext ?_ (decide_eq_true (by simp only;omega));simp only[qE9,List.nil_append];obtain⟨x,y,z⟩:=v;(try simp only at hn hz);subst hn hz;rfl
 have hb:pB c B=([v],true):=by
  rw[hp,e2,g1];show HV c B 1 0 (fR B (A:Int) 1 0)=_;rw[uY (by decide),RD (by rw[hr]),hr];show asm c [false] [v] []=_;have q1:pkV false [v]=v:=rfl;rw[asm,q1,if_neg (fun q=>q hv)];rfl
 rw[eK,hBB,qJ0 (by rw[show c.2.1=1 from hc];rfl) o1 (by rw[o2,hb]),o2,hb]
theorem qAY {c:Col} {v:Val} (hc:c.2.1=1) (hn:v.1=false) (hv:bQ c v=0) (hi:inI v.2.1):iN c [v]=(eK 1 1 [v],0):=by
 have hsome:iA [v]= [v]:=by simp [iA,hn]
 have hok:∀x,x∈ [v]->okV x:=fun x hx=>by rw[List.mem_singleton.1 hx];exact eP hv hi
 have hz:∀k,(eK 1 k [v]).size=1+(put 1).length+(put 0).length+(qX 1 k [v]).size+4:=fun k=>by
  rw[eK,lB,FH (by rw[hsome];exact Nat.lt_irrefl _),hsome,xG,hsome];show((aV [IntKind.u8.wrap k]++aV (put 1))++aV (put 0)++qX 1 k [v]).size+4=_;simp only[ByteArray.size_append,bJ,List.length_cons,List.length_nil]
 have s1:(qX 1 1 [v]).size=(put (fY v.2.1)).length:=by
  show(plV 1 v++ByteArray.empty).size=_;rw[ByteArray.append_empty,plV,if_neg (by decide),bJ]
 have s2:(put (fY v.2.1)).length<=(qX 1 2 [v]).size:=by
  show _<=(aV (OP (runs [v.2.1]))).size;rw[bJ,runs,OP];simp only[List.length_append];omega
 have s4:(put (fY v.2.1)).length<=(qX 1 4 [v]).size:=by
  show _<=(jU [v.2.1]).size;rw[jU,if_neg (by simp),ByteArray.size_append,bJ];show(put (fY v.2.1)).length<=(put (fY v.2.1)).length+_;omega
 have hne:∀k,¬(eK 1 1 [v]=⟨#[]⟩\/(eK 1 k [v]).size<(eK 1 1 [v]).size)\/(qX 1 k [v]).size<(qX 1 1 [v]).size:=fun k=>by
  rw[hz k,hz 1];by_cases q:(qX 1 k [v]).size<(qX 1 1 [v]).size
  ·exact .inr q
  ·refine .inl ?_
   rintro(p|p)
   ·have:=hz 1
    rw[p]at this;have e:(⟨#[]⟩:ByteArray).size=0:=rfl;omega
   ·omega
 have n2:=(hne 2).resolve_right (by omega);have n4:=(hne 4).resolve_right (by omega);have hch:jD c [v]=0:=by rw[jD,if_neg (fun q=>q hv)];rfl
 rw[iN,show c.2.1=1 from hc,if_neg (by decide),if_neg (show ¬ [v].length>4096 by simp),if_neg (fun q=>q hch)];refine Prod.ext ?_ rfl;show bst 1 [v] 4 1 ⟨#[]⟩=_;rw[bst,if_pos (show cT 1 1=true from rfl),if_pos (.inl rfl),bst,if_pos (show cT 1 (1+1)=true from rfl),show(1:Int)+1=2 from rfl,if_neg n2,bst,if_neg (show ¬cT 1 (2+1)=true by decide),show(2:Int)+1=3 from rfl,bst,if_pos (show cT 1 (3+1)=true from rfl),show(3:Int)+1=4 from rfl,if_neg n4,bst]
def nO:Schema:=([(⟨#[97]⟩,1,0,false)],0)
def pU:List Rec:=[(4,[(false,7,⟨#[]⟩)])]
theorem PY:∃p:Schema×List Rec,p=(nO,pU):=⟨_,rfl⟩
noncomputable def qGV:Schema:=(Classical.choose PY).1
noncomputable def qGU:List Rec:=(Classical.choose PY).2
theorem qBT:qGV=nO:=by rw[qGV,Classical.choose_spec PY]
theorem xP:qGU=pU:=by rw[qGU,Classical.choose_spec PY]
theorem qUU {l:List Rec} {m:Nat} (h:∀r,r∈l->r.2.length<=m) (i:Nat):(l[i]!).2.length<=m:=by
 by_cases q:i<l.length
 ·rw[getElem!_pos l i q];exact h _ (List.getElem_mem q)
 ·rw[getElem!_neg l i q];exact Nat.zero_le _
theorem qQH (i:Nat):(pU[i]!).2.length<=1099511627776:=qUU (fun r hr=>by
 rw[pU,List.mem_singleton]at hr;subst hr;show 1<=1099511627776;decide) i
theorem qV:yV pU:=by
 intro r hr v hv;rw[pU,List.mem_singleton]at hr;subst hr;rw[List.mem_singleton]at hv;subst hv;unfold inI;decide
theorem vO:cX nO pU=true:=by kernel_rfl
theorem TF:Made nO pU:=by
 have hv:=cL vO;refine⟨(dH hv).1,by decide,?_,?_,gQ hv qV (by decide),gQ hv qV (by decide),by decide⟩
 ·intro c hc
  obtain⟨i,hi,rfl⟩:=List.mem_map.1 hc;rw[List.mem_range]at hi;rcases Nat.lt_or_ge i nO.1.length with q|q
  ·rw[CL q];exact tN (by rw[nJ];decide) fun v h=>eP (tD hv qV q v h).1 (tD hv qV q v h).2
  ·have:i=nO.1.length:=by omega
   subst this;rw[FF];exact tN (by decide) fun v h=>eP (GZ hv v h).1 (GZ hv v h).2
 ·intro i hi
  have:i=0:=by have:nO.1.length=1:=rfl;omega
  subst this;refine⟨zX (by decide) fun v h=>CS (tD hv qV (by decide) v h),by kernel_rfl⟩
theorem ZC:∀i:Nat,i<nO.1.length+1->pD (oM nO i) (chnk nO pU i)=(wW nO pU i,0):=by
 intro i hi;have hl:nO.1.length=1:=rfl;rcases(show i=0\/i=1 by omega)with rfl|rfl
 ·show pD (⟨#[97]⟩,1,0,false) (iN (⟨#[97]⟩,1,0,false) [(false,7,⟨#[]⟩)]).1=([(false,7,⟨#[]⟩)],0)
  rw[qAY rfl rfl rfl (by unfold inI;decide)];exact qBU rfl rfl rfl (by unfold inI;decide) rfl
 ·show pD vR (iN vR [(false,4,⟨#[]⟩)]).1=([(false,4,⟨#[]⟩)],0)
  rw[qAY rfl rfl rfl (by unfold inI;decide)];exact qBU rfl rfl rfl (by unfold inI;decide) rfl
theorem qBV:(jE qGV qGU).2=0/\rK qGV (jE qGV qGU).1=(qGU,0):=by
 rw[qBT,xP];have he:jE nO pU=(dD nO pU,0):=by
  rw[jE,if_neg (fun q=>q TF.sch),if_neg (by decide),if_neg];rintro(q|q)
  ·cases q
  ·rw[vO]at q;cases q
 rw[he];exact⟨rfl,qG6 TF vO ZC⟩
theorem vI {s:Schema} {l:List Rec} (hs:cX s l=true) (hi:yV l) (hl:l.length<=1024) (hl0:l.length≠0):(dJ (chnks s l)).size<=57174605609927/\8<=(fJ s l).size/\(fJ s l).size<=40000000:=by
 have hv:=cL hs;have hsc:=aY (dH hv).1;have hm:∀c,c∈chnks s l->c.size<=4398046585379:=fun c hc=>by
  obtain⟨i,hr,rfl⟩:=List.mem_map.1 hc;rw[List.mem_range]at hr;rcases Nat.lt_or_ge i s.1.length with q|q
  ·rw[CL q];exact tN (by rw[nJ];omega) fun v h=>eP (tD hv hi q v h).1 (tD hv hi q v h).2
  ·have:i=s.1.length:=by omega
   subst this;rw[FF];exact tN (by simp [gM];omega) fun v h=>eP (GZ hv v h).1 (GZ hv v h).2
 have h4:=tJ hm;rw[jJ]at h4;have hz:∀b,b∈(eG s l (List.range s.1.length)).map uI->b.size<=2200000:=fun b hb=>by
  obtain⟨z,hz,rfl⟩:=List.mem_map.1 hb;obtain⟨i,hr,rfl⟩:=List.mem_map.1 hz;rw[List.mem_range]at hr;exact uG (zX (by rw[nJ];omega) fun v h=>CS (tD hv hi hr v h))
 have h5:=tJ hz;rw[List.length_map,eG,List.length_map,List.length_range]at h5;have h6:(dJ ((chnks s l).map szB)).size<=10*((chnks s l).map szB).length:=tJ fun b hb=>by
  obtain⟨c,_,rfl⟩:=List.mem_map.1 hb;rw[szB,bJ];exact(bL _).1
 rw[List.length_map,jJ]at h6;have r1:=lI (gQ hv hi (j:=0) (by omega));have r2:=lI (gQ hv hi (j:=l.length-1) (by omega));have p1:=bL (l.length:Int);have f4:(four (iM (kV s))).length=4:=rfl;unfold fJ;simp only[ByteArray.size_append,bJ,eG]at h5 ⊢;omega
theorem tP (s:Schema) (l:List Rec):(jE s l).1=⟨#[]⟩/\(jE s l).2≠0\/jE s l=(dD s l,0)/\cX s l=true/\l.length<=1024/\l.length≠0:=by
 unfold jE;split
 ·rename_i h;exact .inl ⟨rfl,h⟩
 split
 ·exact .inl ⟨rfl,by decide⟩
 split
 ·exact .inl ⟨rfl,by decide⟩
 rename_i h1 h2 h3;refine .inr ⟨rfl,?_,by omega,fun q=>h3 (.inl q)⟩;cases q:cX s l with
 |true=>rfl
 |false=>exact absurd (.inr q) h3
theorem qA0 {s:Schema} {l:List Rec} (hi:yV l):(jE s l).1.size<=288230376151711000:=by
 rcases tP s l with⟨h,_⟩|⟨h,h1,h2,h3⟩
 ·rw[h];exact Nat.zero_le _
 ·have p:=vI h1 hi h2 h3
  rw[h];show(dD s l).size<=_;rw[dD,qH,lB];omega
theorem qJ7 {s:Schema} {l:List Rec} (hi:yV l) (h:(jE s l).2=0):12<=(jE s l).1.size/\12<=cQ (jE s l).1 ((jE s l).1.size-8)/\cQ (jE s l).1 ((jE s l).1.size-8)<=(jE s l).1.size-12:=by
 rcases tP s l with⟨_,h0⟩|⟨h0,h1,h2,h3⟩
 ·exact absurd h h0
 ·have p:=vI h1 hi h2 h3
  have hz:=lB (fJ s l);obtain⟨_,_,f3,_⟩:=HN (C:=dJ (chnks s l)) (F:=cB (fJ s l)) (by omega);have hw:=qH (dJ (chnks s l)) (cB (fJ s l));rw[h0];show 12<=(dD s l).size/\12<=cQ (dD s l) ((dD s l).size-8)/\cQ (dD s l) ((dD s l).size-8)<=(dD s l).size-12;rw[dD,f3];omega
def qZ:Nat->Int->Src->Schema->List Rec
 |0,_,_,_=>[]
 |n+1,m,q,x=>((m,(eM x.1 q).1):Rec)::qZ n (m+(1+Src.pick (eM x.1 q).2 3)) (Src.next (eM x.1 q).2) x
theorem UC {k m:Int} {q:Src} {x:Schema} (h:0<k):qZ k.toNat m q x=((m,(eM x.1 q).1):Rec)::qZ (k-1).toNat (m+(1+Src.pick (eM x.1 q).2 3)) (Src.next (eM x.1 q).2) x:=by
 rw[show k.toNat=(k-1).toNat+1 by omega];rfl
def SZ (x:Schema) (l:List Int) (n:Int):List Rec:=qZ (Src.pick (Src.next (l,0)) (n+1)).toNat (Src.pick (l,0) 5) (Src.next (Src.next (l,0))) x
def xK (x:Schema) (l:List Int) (n:Int):List Rec:=BW x (SZ x l n)
theorem LU:∀(cs:List Col) (q:Src),lU q->(∀v,v∈(eM cs q).1->inI v.2.1)/\lU (eM cs q).2
 | [],q,h=>⟨(fun v hv=>by cases hv),h⟩
 |c::cs,q,h=>by
  have h1:=qGM c h;have h2:=LU cs _ h1.2;refine⟨fun v hv=>?_,h2.2⟩;rcases List.mem_cons.1 hv with e|e
  ·rw[e];exact h1.1.2
  ·exact h2.1 v e
theorem MN:∀(n:Nat) (m:Int) (q:Src) (x:Schema),lU q->yV (qZ n m q x)
 |0,_,_,_,_,r,hr=>by cases hr
 |n+1,m,q,x,h,r,hr=>by
  have h1:=LU x.1 q h;rcases List.mem_cons.1 hr with e|e
  ·rw[e];exact h1.1
  ·exact MN n _ _ x (iB h1.2) r e
theorem qMT {s:Schema} {l:List Rec}:∀r,r∈BW s l->r∈l:=by
 unfold BW;split;case isFalse=>intro r hr;cases hr
 have go:∀(l o:List Rec) (r:Rec),r∈l.foldl (jP s) o->r∈o\/r∈l:=by
  intro l;induction l with
  |nil=>intro o r h;exact .inl h
  |cons x l ih=>
   intro o r h;rcases ih _ r h with q|q
   ·unfold jP at q
    simp only[List.mem_append,List.mem_singleton]at q;rcases q with(q|q)|q
    ·exact .inl (List.mem_of_mem_take q)
    ·exact .inr (by rw[q];exact List.mem_cons_self ..)
    ·exact .inl (List.mem_of_mem_drop q)
   ·exact .inr (List.mem_cons_of_mem _ q)
 intro r hr;rcases go l [] r hr with q|q
 ·cases q
 ·exact q
theorem qMS {s:Schema} {l:List Rec}:(BW s l).length<=l.length:=by
 unfold BW;split
 ·have go:∀(l o:List Rec),(l.foldl (jP s) o).length=o.length+l.length:=by
    intro l;induction l with
    |nil=>intro o;rfl
    |cons x l ih=>intro o;rw[List.foldl_cons,ih,FV,List.length_cons];omega
  rw[go];simp
 ·exact Nat.zero_le _
theorem GU:∀(n:Nat) (m:Int) (q:Src) (x:Schema),(qZ n m q x).length=n
 |0,_,_,_=>rfl
 |n+1,m,q,x=>by rw[qZ,List.length_cons,GU n]
theorem GB {x:Schema} {l:List Int} {n:Int} (h:∀v,v∈l->inI v):yV (xK x l n):=fun r hr=>MN _ _ _ _ (iB (iB (show lU (l,0)from h))) r (qMT r hr)
theorem LT {x:Schema} {l:List Int} {n:Int} (h:0<=n/\n<=1000):((xK x l n).length:Int)<=n:=by
 have h1:=qMS (s:=x) (l:=SZ x l n);have h2:(SZ x l n).length=_:=GU _ _ _ _;have h3:=Src.pick_lt (s:=Src.next (l,0)) (n:=n+1) (by omega);have h4:(xK x l n).length<=(SZ x l n).length:=h1;omega
abbrev DZ:Ct:=.fn [bW,.list (.int .i64),.int .i64] (some (fun(x:Schema) (l:List Int) (n:Int)=>(x.1.length<=1000)/\(l.length<=4611686018427387904)/\(0<=n/\n<=1000))) (fun(x:Schema) (l:List Int) (n:Int)=>.d (.list fO) (xK x l n))
theorem qK2:aF Tryz.prog 15 DZ:=by
 refine aF.fn WC mixed [] [] rfl rfl ?_;rintro⟨(x:Schema),(l:List Int),(n:Int),_⟩ hpre;replace hpre:=hpre _ rfl;dsimp only[cu]at hpre;obtain⟨hx,hl0,hn⟩:=hpre;have hp0:=Src.pick_lt (s:=(l,0)) (n:=5) (by omega);have hp1:=Src.pick_lt (s:=Src.next (l,0)) (n:=n+1) (by omega);refine⟨[(0,10,LA.mk [.sl 10 (.int .i64),.sl 9 (.int .i64),.lst 8 fO 56,.ob 1 oE 124] (fun y=>Tag 87/\cu [.int .i64,.int .i64,.list fO,oE] (fun(k:Int) (m:Int) (M:List Rec) (q:Src)=>(0<=k/\k<=1001)/\(Src.ok q)/\(SZ x l n=M++qZ k.toNat m q x)/\((M.length:Int)<=1001-k)/\(0<=m/\m<=5+4*(1001-k))) y) (cu [.int .i64,.int .i64,.list fO,oE] (fun(k:Int) (m:Int) (M:List Rec) (q:Src)=>k.toNat)) (cu [.int .i64,.int .i64,.list fO,oE] (fun(k:Int) (m:Int) (M:List Rec) (q:Src)=>([]:List (Nat×Nat×LA)))))],?_⟩;repeat' (first
  |(
 with_reducible refine Side.mk ⟨(⟨⟩:Tag 87),?_⟩
 dsimp only[cu,aC,aB,gts,eE,eN]
 refine⟨?_,?_,?_,?_,?_⟩
 ·omega
 ·(repeat (first|assumption|exact Src.ok_from (by omega)|apply Src.ok_next|apply gO|apply pS))
 ·first
  |rfl
  |(
  rw[hm,UC (by omega),List.append_assoc]
  rfl)
 ·first
  |simp only[List.length_nil];omega
  |simp only[List.length_append,List.length_cons,List.length_nil];omega
 ·first
  |omega
  |(
  have:=Src.pick_lt (s:=(eM x.1 q).2) (n:=3) (by decide)
  omega))
  |(
 with_reducible apply Side.mk
 (try dsimp only[cu,aC,aB,gts,loK,hiK,eE,eN])
 first
 |done
 |omega
 |exact Eq.refl _
 |simp only[List.length_append,List.length_cons,List.length_nil];omega
 |(
  refine⟨?_,by first|decide|exact ZY (by omega)⟩
  (repeat (first|assumption|exact Src.ok_from (by omega)|apply Src.ok_next|apply gO|apply pS));done)
 |exact⟨by(repeat (first|assumption|exact Src.ok_from (by omega)|apply Src.ok_next|apply gO|apply pS)),by assumption⟩
 |(have:=Src.pick_lt (s:=(eM x.1 q).2) (n:=3) (by decide);omega))
  |(conv=>whnf
    first
     |with_reducible first|done|exact trivial|refine NilBr.mk (fun h=>?_) ?_|apply aI|apply aH|refine aJ (by kernel_rfl) ?_|apply aK|apply bB|apply bA|apply aQ
     |((with_reducible first|apply aS|apply aR|apply aZ)<;>intro h<;>(try dsimp only[cu,eE,eN]at h)<;>(try(exfalso;omega)))
     |(
 intro yy (hy:Tag 87/\_)
 obtain⟨(k:Int),(m:Int),(M:List Rec),(q:Src),_⟩:=yy
 replace hy:=hy.2
 dsimp only[cu,aC,aB,gts,eE,eN]at hy
 obtain⟨hk,hq,hm,hml,hmb⟩:=hy)))
 all_goals(
 with_reducible apply Leaf.mk
 (try dsimp only[cu,aC,aB,gts,eE,eN]at *)
 rw[xK,hm,show k.toNat=0 by omega,qZ,List.append_nil])
abbrev qS1:Tbl:=(15,DZ)::qS0
theorem WD:aD Tryz.prog qS1:=aD.cons qK2 WC
abbrev zE:Ct:=.fn [] (none) (.tup [bW,.list fO] (nO,pU,()))
theorem qBS:aF Tryz.prog 25 zE:=by
 refine aF.fn WD mixed [] [] rfl rfl ?_;rintro⟨⟩ -;refine⟨[],?_⟩;repeat' (first
  |(
 with_reducible apply Side.mk
 (try dsimp only[cu,aC,aB,gts,loK,hiK,eE,eN])
 exact Eq.refl _)
  |(conv=>whnf
    first
     |with_reducible first|done|exact trivial|refine NilBr.mk (fun h=>?_) ?_|apply aI|apply aH|refine aJ (by kernel_rfl) ?_|apply aK|apply bB|apply bA|apply aQ
     |((with_reducible first|apply aS|apply aR|apply aZ)<;>intro h<;>(try dsimp only[cu,eE,eN]at h)<;>(try(exfalso;omega)))))
 all_goals(
 with_reducible apply Leaf.mk
 (try dsimp only[cu,aC,aB,gts,eE,eN]at *)
 rfl)
abbrev qS2:Tbl:=(25,zE)::qS1
theorem qM4:aD Tryz.prog qS2:=aD.cons qBS WD
noncomputable section
abbrev wK:Ct:=.fn [] (none) (.tup [bW,.list fO] (qGV,qGU,()))
theorem qUC:aF Tryz.prog 25 wK:=by
 have e:wK=zE:=by rw[wK,qBT,xP]
 rw[e];exact qBS
abbrev qS3:Tbl:=(25,wK)::qS2
theorem WE:aD Tryz.prog qS3:=aD.cons qUC qM4
abbrev DQ:Ct:=.fn [] (none) (.d .bool true)
theorem qI1:aF Tryz.prog 16 DQ:=by
 refine aF.fn WE mixed [] [] rfl rfl ?_;rintro⟨⟩ -;refine⟨[],?_⟩;repeat' (first
  |(
 with_reducible apply Side.mk
 (try dsimp only[cu,aC,aB,gts,loK,hiK,eE,eN])
 first
 |(
  rw[xP];exact⟨by decide,qV⟩)
 |exact Nat.le_trans (qA0 (by rw[xP];exact qV)) (by decide)
 |(
  obtain⟨w1,w2⟩:=qBV;have w3:=congrArg Prod.fst w2;have w4:=congrArg Prod.snd w2;dsimp only at w3 w4;rw[w3,xP];exact⟨by decide,fun i=>qQH i⟩))
  |(conv=>whnf
    first
     |with_reducible first|done|exact trivial|refine NilBr.mk (fun h=>?_) ?_|apply aI|apply aH|refine aJ (by kernel_rfl) ?_|apply aK|apply bB|apply bA|apply aQ
     |((with_reducible first|apply aS|apply aR|apply aZ)<;>intro h<;>(try dsimp only[cu,eE,eN]at h)<;>(try(exfalso;omega)))))
 all_goals(
 with_reducible apply Leaf.mk
 (try dsimp only[cu,aC,aB,gts,eE,eN]at *)
 first
 |(
  obtain⟨w1,w2⟩:=qBV;have w3:=congrArg Prod.fst w2;have w4:=congrArg Prod.snd w2;dsimp only at w3 w4;first
  |(
   rw[w3];exact decide_eq_true rfl)
  |(exact absurd w4 (by with_reducible assumption))))
abbrev qWH:Tbl:=(16,DQ)::qS3
theorem qM5:aD Tryz.prog qWH:=aD.cons qI1 WE
theorem LR:∀(n:Nat) (s:Src) (acc:List Col),(oR n s acc).1.length=acc.length+n
 |0,s,acc=>rfl
 |n+1,s,acc=>by rw[oR,LR n];simp;omega
theorem jY (l:List Int):1<=(bY l).1.length/\(bY l).1.length<=4:=by
 have h:=Src.pick_lt (s:=(l,0)) (n:=4) (by decide);have e:(bY l).1.length=0+(1+Src.pick (l,0) 4).toNat:=LR _ _ [];omega
end
noncomputable section
def PF (c:Col):Prop:=bS c.2.1=true/\eZ c=true
theorem qGL (s:Src) (n:Int):PF (FZ s n).1/\(FZ s n).1.1=ABCD.extract (n-1).toNat n.toNat:=by
 have h:=Src.pick_lt (s:=s) (n:=5) (by decide);have h4:=Src.pick_lt (s:=Src.next (Src.next s)) (n:=4) (by decide);unfold FZ PF;split
 ·refine⟨⟨?_,?_⟩,rfl⟩
  ·simp [bS];omega
  ·simp [eZ];omega
 ·refine⟨⟨?_,?_⟩,rfl⟩
  ·simp [bS];omega
  ·simp [eZ]
theorem GA:∀(n:Nat) (s:Src) (acc:List Col),∃r,(oR n s acc).1=acc++r/\r.length=n/\∀i,i<n->PF r[i]! /\r[i]!.1=ABCD.extract (n-i-1) (n-i)
 |0,s,acc=>⟨[],by simp [oR],rfl,fun i h=>by omega⟩
 |n+1,s,acc=>by
  obtain⟨r,h1,h2,h3⟩:=GA n (FZ s (n+1)).2 (acc++ [(FZ s (n+1)).1]);refine⟨(FZ s (n+1)).1::r,by rw[oR,h1];simp,by simp [h2],fun i hi=>?_⟩;obtain⟨g1,g2⟩:=qGL s (n+1);cases i with
  |zero=>
   refine⟨g1,?_⟩;have e1:((n:Int)+1-1).toNat=n+1-0-1:=by omega
   have e2:((n:Int)+1).toNat=n+1-0:=by omega
   rw[<-e1,<-e2];exact g2
  |succ i=>
   have:=h3 i (by omega);rw[show n+1-(i+1)-1=n-i-1 by omega,show n+1-(i+1)=n-i by omega];exact this
theorem BH {α:Type} [Inhabited α] (f:Int->α->Int):∀(l:List α) (k:Int),(∀i:Nat,i<l.length->f (k+i) l[i]! =0)->bM f k l=0
 | [],k,_=>rfl
 |x::l,k,h=>by
  have h0:=h 0 (by simp);have e:f k x=0:=by simpa using h0
  rw[bM,if_pos e];refine BH f l (k+1) (fun i hi=>?_);have:=h (i+1) (by simp;omega);rw[show k+1+(i:Int)=k+((i+1:Nat):Int)by omega];simpa using this
theorem BI {α:Type} [Inhabited α] (f:Int->α->Int):∀(l:List α) (k:Int),bM f k l=0->∀i:Nat,i<l.length->f (k+i) l[i]! =0
 | [],k,_,i,hi=>by simp at hi
 |x::l,k,h,i,hi=>by
  unfold bM at h;split at h
  ·rename_i h0
   cases i with
   |zero=>simpa using h0
   |succ i=>
    have:=BI f l (k+1) h i (by simpa using hi);rw[show k+((i+1:Nat):Int)=k+1+(i:Int)by omega];simpa using this
  ·rename_i h0;exact absurd h h0
theorem qYZ {a c:Int} (ha:0<=a/\a<4294967296) (hc:0<=c/\c<4294967296):mN .u32 a c=((a.toNat ^^^ c.toNat:Nat):Int):=by
 have q:∀x:Int,0<=x/\x<4294967296->(BitVec.ofInt IntKind.u32.bits x).toNat=x.toNat:=by
  intro x hx;rw[BitVec.toNat_ofInt];simp [IntKind.bits];omega
 unfold mN;rw[BitVec.toNat_xor,q a ha,q c hc];have:a.toNat ^^^ c.toNat<2^32:=Nat.xor_lt_two_pow (by omega) (by omega);exact vV (by omega)
theorem qY8 {a c:Int} (ha:0<=a/\a<256) (hc:0<=c/\c<256):mN .u8 a c=((a.toNat ^^^ c.toNat:Nat):Int):=by
 have q:∀x:Int,0<=x/\x<256->(BitVec.ofInt IntKind.u8.bits x).toNat=x.toNat:=by
  intro x hx;rw[BitVec.toNat_ofInt];simp [IntKind.bits];omega
 unfold mN;rw[BitVec.toNat_xor,q a ha,q c hc];have:a.toNat ^^^ c.toNat<2^8:=Nat.xor_lt_two_pow (by omega) (by omega);exact WI (by omega)
theorem HQ {a b c:Nat} (h:a ^^^ b=a ^^^ c):b=c:=by
 have:a ^^^ (a ^^^ b)=a ^^^ (a ^^^ c):=by rw[h]
 rwa [<-Nat.xor_assoc,<-Nat.xor_assoc,Nat.xor_self,Nat.zero_xor,Nat.zero_xor]at this
theorem CA {a b c:Nat} (h:b ^^^ a=c ^^^ a):b=c:=by
 rw[Nat.xor_comm b a,Nat.xor_comm c a]at h;exact HQ h
def tops:List Nat:=[0,242,225,19,199,53,38,212,138,120,107,153,77,191,172,94,16,226,241,3,215,37,54,196,154,104,123,137,93,175,188,78,32,210,193,51,231,21,6,244,170,88,75,185,109,159,140,126,48,194,209,35,247,5,22,228,186,72,91,169,125,143,156,110,65,179,160,82,134,116,103,149,203,57,42,216,12,254,237,31,81,163,176,66,150,100,119,133,219,41,58,200,28,238,253,15,97,147,128,114,166,84,71,181,235,25,10,248,44,222,205,63,113,131,144,98,182,68,87,165,251,9,26,232,60,206,221,47,130,112,99,145,69,183,164,86,8,250,233,27,207,61,46,220,146,96,115,129,85,167,180,70,24,234,249,11,223,45,62,204,162,80,67,177,101,151,132,118,40,218,201,59,239,29,14,252,178,64,83,161,117,135,148,102,56,202,217,43,255,13,30,236,195,49,34,208,4,246,229,23,73,187,168,90,142,124,111,157,211,33,50,192,20,230,245,7,89,171,184,74,158,108,127,141,227,17,2,240,36,214,197,55,105,155,136,122,174,92,79,189,243,1,18,224,52,198,213,39,121,139,152,106,190,76,95,173]
theorem qRB:cR.map (fun v=>(v/16777216).toNat)=tops:=by kernel_rfl
theorem qNG:(List.range 256).all (fun x=>decide (tops.idxOf tops[x]! =x))=true:=by kernel_rfl
theorem qCF (x:Nat):0<=cR[x]! /\cR[x]! <4294967296:=by
 by_cases h:x<cR.length
 ·rw[getElem!_pos cR x h]
  simp only[cR,List.getElem_map,List.getElem_range];show 0<=xZ 7 (rnd (x:Int))/\xZ 7 (rnd (x:Int))<4294967296;have H:∀(n:Nat) (v:Int),0<=v/\v<4294967296->0<=xZ n v/\xZ n v<4294967296:=by
   intro n;induction n with
   |zero=>intro v h;exact h
   |succ n ih=>intro v _;exact ih _ (qMD v)
  exact H 7 _ (qMD _)
 ·rw[getElem!_neg cR x h];exact⟨by decide,by decide⟩
theorem qCG {x y:Nat} (hx:x<256) (hy:y<256) (h:cR[x]! /16777216=cR[y]! /16777216):x=y:=by
 have e:∀z,z<256->tops[z]! =(cR[z]! /16777216).toNat:=fun z hz=>by
  have hl:z<cR.length:=by rw[vE];exact hz
  rw[<-qRB,getElem!_pos _ z (by rw[List.length_map];exact hl),List.getElem_map,getElem!_pos cR z hl]
 have i:∀z,z<256->tops.idxOf tops[z]! =z:=fun z hz=>of_decide_eq_true (List.all_eq_true.1 qNG z (by simpa using hz))
 rw[<-i x hx,<-i y hy,e x hx,e y hy,h]
def ix (v b:Int):Nat:=(mN .u8 (IntKind.u8.wrap v) b).toNat
theorem qBG (v b:Int):ix v b<256:=by have:=NX (IntKind.u8.wrap v) b;unfold ix;omega
theorem qY5 {v:Int} (h:0<=v):iV .u32 v 8=v/256:=(qR2 h).1
theorem XK {v b:Int} (hv:0<=v/\v<4294967296):cstep cR v b=(((v/256).toNat ^^^ (cR[ix v b]!).toNat:Nat):Int):=by
 unfold cstep;rw[qY5 hv.1,qYZ (by omega) (qCF _)];rfl
theorem FK (v b:Int):0<=cstep cR v b/\cstep cR v b<4294967296:=wB _ _
theorem OH {v b:Int} (hv:0<=v/\v<4294967296):cstep cR v b/16777216=cR[ix v b]! /16777216:=by
 have ht:=qCF (ix v b);obtain⟨T,hT⟩:=Int.eq_ofNat_of_zero_le ht.1;obtain⟨A,hA⟩:=Int.eq_ofNat_of_zero_le (show 0<=v/256 by omega);rw[XK hv,hT,hA,Int.toNat_natCast,Int.toNat_natCast];have hA2:A<16777216:=by omega
 have e:(A ^^^ T)/16777216=T/16777216:=by
  rw[show 16777216=2^24 from rfl,<-Nat.shiftRight_eq_div_pow,<-Nat.shiftRight_eq_div_pow,Nat.shiftRight_xor_distrib,show A >>> 24=0 by rw[Nat.shiftRight_eq_div_pow];omega,Nat.zero_xor]
 omega
theorem qTC {v b v' b':Int} (hv:0<=v/\v<4294967296) (hv':0<=v'/\v'<4294967296) (h:cstep cR v b=cstep cR v' b'):ix v b=ix v' b'/\v/256=v'/256:=by
 have h1:=OH (b:=b) hv;have h2:=OH (b:=b') hv';have e:ix v b=ix v' b':=qCG (qBG _ _) (qBG _ _) (by rw[<-h1,<-h2,h]);refine⟨e,?_⟩;rw[XK hv,XK hv',e]at h;have:=CA (Int.ofNat.inj h);omega
theorem qBF {v b:Int} (hb:0<=b/\b<256):ix v b=(v%256).toNat ^^^ b.toNat:=by
 unfold ix;rw[ZZ,qY8 (by omega) hb];rfl
theorem qPP {v b b':Int} (hb:0<=b/\b<256) (hb':0<=b'/\b'<256) (h:ix v b=ix v b'):b=b':=by
 rw[qBF hb,qBF hb']at h;have:=HQ h;omega
theorem qKY {v v' b:Int} (hv:0<=v) (hv':0<=v') (hb:0<=b/\b<256) (h:ix v b=ix v' b):v%256=v'%256:=by
 rw[qBF hb,qBF hb]at h;have:=CA h;omega
def GV (L:List Int) (v:Int):Int:=L.foldl (cstep cR) v
theorem GW:∀(L:List Int) (v:Int),0<=v/\v<4294967296->0<=GV L v/\GV L v<4294967296
 | [],v,h=>h
 |b::L,v,_=>GW L _ (FK v b)
theorem UH (A B:List Int) (v:Int):GV (A++B) v=GV B (GV A v):=by unfold GV;rw[List.foldl_append]
theorem qB8:∀(L:List Int) (v v':Int),(∀b,b∈L->0<=b/\b<256)->0<=v/\v<4294967296->0<=v'/\v'<4294967296->v≠v'->GV L v≠GV L v'
 | [],v,v',_,_,_,h=>h
 |b::L,v,v',hL,hv,hv',h=>by
  have hb:=hL b (by simp);refine qB8 L _ _ (fun x hx=>hL x (List.mem_cons_of_mem _ hx)) (FK v b) (FK v' b) (fun q=>h ?_);obtain⟨h1,h2⟩:=qTC hv hv' q;have h3:=qKY hv.1 hv'.1 hb h1;omega
theorem qJB {v b b':Int} (hv:0<=v/\v<4294967296) (hb:0<=b/\b<256) (hb':0<=b'/\b'<256) (h:b≠b'):cstep cR v b/16777216≠cstep cR v b'/16777216:=fun q=>by
 rw[OH hv,OH hv]at q;exact h (qPP hb hb' (qCG (qBG _ _) (qBG _ _) q))
theorem qN9 {v:Int} (h:0<=v/\v<4294967296):bnot v=4294967295-v:=by
 unfold bnot mN;rw[show BitVec.ofInt IntKind.u32.bits (-1)=BitVec.allOnes IntKind.u32.bits from rfl,BitVec.allOnes_xor,BitVec.toNat_not,BitVec.toNat_ofInt];have e2:(2:Nat)^IntKind.u32.bits=4294967296:=rfl;have e3:((2^IntKind.u32.bits-1-(v%((2^IntKind.u32.bits:Nat):Int)).toNat:Nat):Int)=4294967295-v:=by
  rw[e2];omega
 rw[e3,vV (by omega)]
theorem qAT (s:ByteArray):iM s=4294967295-GV (aN s) 4294967295:=by
 have h:=GW (aN s) 4294967295 (by decide);unfold iM zT;rw[if_pos vE];exact qN9 h
theorem qIW {A B:List Int} {j:Nat}:(A++B)[j]! =if j<A.length then A[j]! else B[j-A.length]!:=by
 rw[List.getElem!_eq_getElem?_getD,List.getElem?_append];split
 ·rw[List.getElem!_eq_getElem?_getD]
 ·rw[List.getElem!_eq_getElem?_getD]
theorem qQY {L:List Int} {j:Nat} {x v:Int} (hL:∀b,b∈L->0<=b/\b<256) (hv:0<=v/\v<4294967296) (h:j<L.length) (hr:0<=x/\x<256) (hx:x≠L[j]!):GV (L.set j x) v≠GV L v:=by
 have e1:L=L.take j++L[j]! ::L.drop (j+1):=by
  rw[getElem!_pos L j h,<-List.drop_eq_getElem_cons h,List.take_append_drop]
 have e2:L.set j x=L.take j++x::L.drop (j+1):=List.set_eq_take_append_cons_drop.trans (if_pos h);have hb:=hL L[j]! (by rw[getElem!_pos L j h];exact List.getElem_mem h);intro q;rw[e2]at q;conv at q=>rhs;rw[e1]
 rw[UH,UH]at q;have hw:=GW (L.take j) v hv;refine qB8 (L.drop (j+1)) _ _ (fun b hb=>hL b (List.mem_of_mem_drop hb)) (FK _ _) (FK _ _) (fun e=>?_) q;exact qJB hw hr hb hx (congrArg (· /16777216) e)
theorem qOJ {B u:ByteArray} {j:Nat} {x:Int} (h:j<B.size) (hr:0<=x/\x<256) (hx:x≠(aN B)[j]!) (hu:aN u=(aN B).set j x):iM u≠iM B:=fun q=>by
 rw[qAT,qAT,hu]at q;exact qQY (v:=4294967295) (fun b=>HI) ⟨by decide,by decide⟩ (by rw[bF];exact h) hr hx (by omega)
abbrev zB:ByteArray:=⟨#[122]⟩
def rV (l:List Col) (i:Nat):List Col:=l.set i (zB,(l[i]!).2)
theorem qGQ:∀a:Nat,a<4->∃x:Int,(97<=x/\x<=100)/\ABCD.extract a (a+1)=aV [x]:=by
 intro a h;obtain rfl|rfl|rfl|rfl:a=0\/a=1\/a=2\/a=3:=by omega
 ·exact⟨97,by decide,rfl⟩
 ·exact⟨98,by decide,rfl⟩
 ·exact⟨99,by decide,rfl⟩
 ·exact⟨100,by decide,rfl⟩
def named (l:List Col):Prop:=∀i:Nat,i<l.length->∃x:Int,(97<=x/\x<=100)/\(l[i]!).1=aV [x]
theorem IC (l:List Int):named (bY l).1:=by
 have hp:=Src.pick_lt (s:=(l,0)) (n:=4) (by decide);obtain⟨r,h1,h2,h3⟩:=GA (1+Src.pick (l,0) 4).toNat (Src.next (l,0)) [];have hc:(bY l).1=r:=by simpa [bY]using h1
 rw[hc];intro i hi;obtain⟨_,g⟩:=h3 i (by omega);obtain⟨x,x1,x2⟩:=qGQ ((1+Src.pick (l,0) 4).toNat-i-1) (by omega);exact⟨x,x1,by rw[g,<-x2,show(1+Src.pick (l,0) 4).toNat-i-1+1=(1+Src.pick (l,0) 4).toNat-i by omega]⟩
theorem wU (l:List Col) (i:Nat):(rV l i).length=l.length:=by simp [rV]
theorem XF {l:List Col} {i:Nat} (h:i<l.length):(rV l i)[i]! =(zB,(l[i]!).2):=by
 rw[getElem!_pos _ i (by rw[wU];exact h)];simp [rV]
theorem FE {l:List Col} {i j:Nat} (h:j≠i):(rV l i)[j]! =l[j]!:=by
 rw[List.getElem!_eq_getElem?_getD,List.getElem!_eq_getElem?_getD,rV,List.getElem?_set_ne (Ne.symm h)]
theorem qY2 {x:Int} (h:97<=x/\x<=100):¬aV [x]=zB:=fun q=>by
 have:=congrArg aN q;rw[bG (fun b hb=>by rw[List.mem_singleton.1 hb];omega)]at this;have e:aN zB= [122]:=rfl;rw[e]at this;injection this with this;omega
theorem qJK {l:List Col} {i:Int} {c:Col} (h:cN l i c=0):kX c.1=true/\¬lX c.1 l 0<i/\bS c.2.1=true/\eZ c=true:=by
 unfold cN at h;repeat' split at h
 all_goals first|(cases h;done)|skip
 rename_i h1 h2 h3 h4;exact⟨by simpa using h1,h2,by simpa using h3,by simpa using h4⟩
theorem SB {l:List Col} {i:Int} {c:Col} (h1:kX c.1=true) (h2:¬lX c.1 l 0<i) (h3:bS c.2.1=true) (h4:eZ c=true):cN l i c=0:=by
 unfold cN;rw[if_neg (by rw[h1];exact Bool.noConfusion),if_neg h2,if_neg (by rw[h3];exact Bool.noConfusion),if_neg (by rw[h4];exact Bool.noConfusion)]
theorem QH {s:Schema} (h:aT s=0):bM (cN s.1) 0 s.1=0:=by
 unfold aT at h;split at h
 ·cases h
 split at h
 ·cases h
 split at h
 ·exact absurd h (by assumption)
 ·rename_i q;exact Decidable.not_not.1 q
theorem qTB {s:Schema} (h:aT s=0) (hn:named s.1) {i:Nat} (hi:i<s.1.length):aT ((rV s.1 i,s.2):Schema)=0:=by
 have he:=QH h;have hr:=aY h;have hg:=fun j hj=>BI (cN s.1) s.1 0 he j hj
 have hx:bM (cN (rV s.1 i)) 0 (rV s.1 i)=0:=by
  refine BH _ _ _ fun j hj=>?_
  rw[wU]at hj;have g:=hg j hj;rw[Int.zero_add]at g ⊢;obtain⟨g1,g2,g3,g4⟩:=qJK g;by_cases q:j=i
  ·subst q
   rw[XF hj];refine SB rfl (oN (k:=(j:Int)) ⟨by omega,by rw[wU];omega⟩ (by rw[Int.toNat_natCast,XF hj]) fun k hk=>?_) g3 g4;obtain⟨x,x1,x2⟩:=hn k (by omega);rw[FE (by omega),x2];exact qY2 x1
  ·rw[FE q]
   refine SB g1 (oN (k:=(j:Int)) ⟨by omega,by rw[wU];omega⟩ (by rw[Int.toNat_natCast,FE q]) fun k hk e=>?_) g3 g4;by_cases u:k=i
   ·subst u
    rw[XF (by omega)]at e;obtain⟨x,x1,x2⟩:=hn j hj;rw[x2]at e;exact qY2 x1 e.symm
   ·rw[FE u]at e
    exact g2 (wX k (by omega) (by omega) e)
 unfold aT;simp only[wU];rw[if_neg (by omega),if_neg (by omega),if_neg (fun q=>q hx),if_neg (by omega)]
theorem KU {c:Col}:aN (mP c)=aN c.1++aN (tw c.2.1++scT c++nuT c++nlB):=by
 rw[<-bE];unfold mP;simp only[ByteArray.append_assoc]
theorem KV:∀(l:List Col) (i:Nat),i<l.length->named l->∃(j:Nat),j<(eI l).size/\aN (eI (rV l i))=(aN (eI l)).set j 122/\(aN (eI l))[j]! <=100
 | [],i,h,_=>by cases h
 |c::l,0,h,hn=>by
  obtain⟨x,x1,x2⟩:=hn 0 (Nat.zero_lt_succ _);have x2:c.1=aV [x]:=x2;have hc:aN (mP c)=x::aN (tw c.2.1++scT c++nuT c++nlB):=by
   rw[KU,x2,bG (fun b hb=>by rw[List.mem_singleton.1 hb];omega)];rfl
  have hc2:aN (mP (zB,c.2))=122::aN (tw c.2.1++scT c++nuT c++nlB):=by rw[KU];rfl
  have hl:0<(mP c).size:=by rw[<-bF,hc];exact Nat.zero_lt_succ _
  refine⟨0,by rw[eI,ByteArray.size_append];omega,?_,?_⟩
  ·show aN (eI ((zB,c.2)::l))=_
   rw[eI,eI,bE,bE,hc,hc2];rfl
  ·rw[eI,bE,hc];exact x1.2
 |c::l,i+1,h,hn=>by
  obtain⟨j,j1,j2,j3⟩:=KV l i (by simpa using h) fun k hk=>hn (k+1) (by simpa using hk)
  refine⟨(mP c).size+j,by rw[eI,ByteArray.size_append];omega,?_,?_⟩
  ·show aN (eI (c::rV l i))=_
   rw[eI,eI,bE,bE,j2,List.set_append_right _ _ (by rw[bF];omega),bF,Nat.add_sub_cancel_left]
  ·rw[eI,bE,qIW,bF,if_neg (by omega),Nat.add_sub_cancel_left];exact j3
theorem qO6 {s:Schema} (h:aT s=0) (hn:named s.1) {i:Nat} (hi:i<s.1.length) (hk:i≠s.2.toNat):iM (kV s)≠iM (kV ((rV s.1 i,s.2):Schema)):=by
 obtain⟨j,j1,j2,j3⟩:=KV s.1 i hi hn;have e:YP ((rV s.1 i,s.2):Schema)=YP s:=by
  unfold YP;show⟨#[107,101,121,32]⟩++((rV s.1 i)[s.2.toNat]!).1++nlB=_;rw[FE (Ne.symm hk)]
 refine(qOJ (B:=kV s) (j:=j) (x:=122) (by rw[kV,ByteArray.size_append];omega) (by decide) ?_ ?_).symm
 ·rw[kV,bE,qIW,bF,if_pos j1];omega
 ·rw[kV,kV,e,bE,bE,List.set_append_left _ _ (by rw[bF];exact j1),<-j2]
theorem YC {s T:Schema} {l:List Rec} (ei:yV l) (h:(jE s l).2=0) (hT:aT T=0) (hc:iM (kV s)≠iM (kV T)):(bD T (jE s l).1).2.2=1:=by
 rcases tP s l with⟨_,h0⟩|⟨h0,h1,h2,h3⟩
 ·exact absurd h h0
 rw[h0];have p:=vI h1 ei h2 h3;have hw:cQ (fJ s l) 0=iM (kV s):=(qG (s:=fJ s l) (a:=0) (CP _) (by
  rw[List.drop_zero,fJ];simp only[bE,bG (sD _),List.append_assoc];rfl)).1
 show(bD T (dD s l)).2.2=1;rw[dD,LH hT (by omega) (by omega),if_pos (by rw[hw];exact hc)]
theorem qT4 {l:List Col} {i:Nat} {k:Int} (h:¬(l[i]!).1=(l[k.toNat]!).1):i≠k.toNat:=fun q=>h (by rw[q])
theorem OR {s:Schema} {l:List Rec} (h:(jE s l).2=0):aT s=0:=by
 rcases tP s l with⟨_,h0⟩|⟨_,h1,_,_⟩
 ·exact absurd h h0
 ·exact(dH (cL h1)).1
theorem qNF {a n:Int} (h0:0<=a) (hn:0<n):0<=a.tmod n/\a.tmod n<n:=by
 rw[Int.tmod_eq_emod_of_nonneg h0];exact⟨Int.emod_nonneg _ (by omega),Int.emod_lt_of_pos _ hn⟩
theorem qMQ {s:Schema} {l:List Rec} (hn:named s.1) (ei:yV l) (h:(jE s l).2=0) {i:Nat} (hi:i<s.1.length) (hk:¬(s.1[i]!).1=(s.1[s.2.toNat]!).1) :
  aT ((rV s.1 i,s.2):Schema)=0/\(bD ((rV s.1 i,s.2):Schema) (jE s l).1).2.2=1:=by
 have h0:=OR h;have hT:=qTB h0 hn hi;exact⟨hT,YC ei h hT (qO6 h0 hn hi (qT4 hk))⟩
abbrev XE:Ct:=.fn [.list (.int .i64),.list (.int .i64),.int .i64] (some (fun(x:List Int) (l:List Int) (a:Int)=>(x.length<=4611686018427387904)/\(l.length<=4611686018427387904)/\(∀v,v∈l->inI v))) (fun(x:List Int) (l:List Int) (a:Int)=>.d .bool true)
theorem qK8:aF Tryz.prog 4 XE:=by
 refine aF.fn qM5 mixed [] [] rfl rfl ?_;rintro⟨(x:List Int),(l:List Int),(a:Int),_⟩ hpre;replace hpre:=hpre _ rfl;dsimp only[cu]at hpre;obtain⟨hx,hl,hi⟩:=hpre;refine⟨[],?_⟩;repeat' (first
  |(
 with_reducible apply Side.mk
 (try dsimp only[cu,aC,aB,gts,loK,hiK,eE,eN])
 first
 |done
 |with_reducible rfl
 |omega
 |exact Eq.refl _
 |simp only[List.length_append,List.length_cons,List.length_nil];omega
 |(
  have k0:=jY x;exact ZY (by omega))
 |rw[List.length_set]
 |(
  have k0:=jY x;have e0:=OR (s:=bY x) (l:=xK (bY x) l 6) (by with_reducible assumption);have er:=aY e0;have pk:=pick_lt (v:=a) (n:=((List.length (bY x).1:Nat):Int)) (by omega);have tm:=qNF (a:=(bY x).2+1+pick a ((List.length (bY x).1:Nat):Int)) (n:=((List.length (bY x).1:Nat):Int)) (by omega) (by omega);first
  |omega
  |(
   (try simp only[List.nil_append,List.length_nil,List.length_append,List.length_set,Nat.zero_add]);omega))
 |(
  have ei:yV (xK (bY x) l 6):=GB hi;have es:=qA0 (s:=bY x) ei;have kl:=LT (x:=bY x) (l:=l) (n:=6) (by decide);have ef:=qJ7 (s:=bY x) ei (by with_reducible assumption);have k0:=jY x;omega)
 |(
  (with_reducible refine And.intro ?_ (And.intro ?_ ?_))
  have k0:=jY x;omega;with_reducible assumption
  decide)
 |(
  (with_reducible refine And.intro ?_ (GB hi))
  have kl:=LT (x:=bY x) (l:=l) (n:=6) (by decide);omega))
  |(conv=>whnf
    first
     |with_reducible first|done|exact trivial|refine NilBr.mk (fun h=>?_) ?_|apply aI|apply aH|refine aJ (by kernel_rfl) ?_|apply aK|apply bB|apply bA|apply aQ
     |((with_reducible first|apply aS|apply aR|apply aZ)<;>intro h<;>(try dsimp only[cu,eE,eN]at h)<;>(try(exfalso;omega)))))
 all_goals(
 with_reducible apply Leaf.mk
 (try dsimp only[cu,aC,aB,gts,eE,eN]at *)
 first
 |done
 |with_reducible rfl
 |(
  have k0:=jY x;have e0:=OR (s:=bY x) (l:=xK (bY x) l 6) (by with_reducible assumption);have er:=aY e0;have pk:=pick_lt (v:=a) (n:=((List.length (bY x).1:Nat):Int)) (by omega);have tm:=qNF (a:=(bY x).2+1+pick a ((List.length (bY x).1:Nat):Int)) (n:=((List.length (bY x).1:Nat):Int)) (by omega) (by omega);have sl:=qMQ (s:=bY x) (l:=xK (bY x) l 6) (IC x) (GB hi) (by with_reducible assumption) (i:=(((bY x).2+1+pick a ((List.length (bY x).1:Nat):Int)).tmod ((List.length (bY x).1:Nat):Int)).toNat) (by omega) (by with_reducible assumption);obtain⟨s1,s2⟩:=sl;unfold rV at s1 s2;first
  |exact absurd s1 h
  |(exact decide_eq_true s2)))
end
end Go.Proofs.YtcjiefknhfhmkaaGreatDoor
namespace Go.Abs
set_option maxRecDepth 100000
set_option maxHeartbeats 4000000
set_option linter.unusedVariables false
set_option linter.unusedSimpArgs false
open Go.RowKit
def ι0:Iota:={at':=fun _=>none,X:=fun _=>False}
theorem qVU (w:World):HRel [] ι0 w:=
 ⟨fun id o h=>by simp at h,fun id h=>by simp at h,fun id _=>rfl,fun id o l id' o' l' h=>by simp at h,fun b h=>h.elim,fun b h=>h.elim⟩
theorem mt0 (b:Nat):¬Mt [] ι0 b:=by
 rintro(h|⟨id,o,l,h,_⟩)
 ·exact h
 ·simp at h
def tE (w:World) (x:V) (y:Value):Prop:=Rep w ι0 (Mt [] ι0) x y
def CZ (w:World):List V->List Value->Prop
 | [],[]=>True
 |x::xs,y::ys=>tE w x y/\CZ w xs ys
 |_,_=>False
theorem BR:∀ {w:World} {xs:List V} {ys:List Value},CZ w xs ys->PW2 w ι0 (Mt [] ι0) xs ys.toArray
 |w,[],[],_=>⟨rfl,fun k x h=>by simp at h⟩
 |w,x::xs,y::ys,h=>by
  have ih:=BR h.2;refine⟨by simpa using ih.1,fun k z hz=>?_⟩;cases k with
  |zero=>simp at hz;subst hz;exact⟨y,by simp,h.1⟩
  |succ k=>
   obtain⟨u,u1,u2⟩:=ih.2 k z (by simpa using hz);exact⟨u,by simpa using u1,u2⟩
 |w,[],_::_,h=>h.elim
 |w,_::_,[],h=>h.elim
theorem qAE {P:Program} {f:FuncId} {args:List V} {vals:List Value} {w:World} (hr:CZ w args vals) (hc:PC P f args [] (fun y _=>y = .v (.bool true))) :
  Calls P f vals.toArray w fun e w'=>e = .returned (.bool true)/\Below w.heap.size w w':=by
 refine(hc ι0 w _ (BR hr) (qVU w)).mono ?_;rintro e w' ⟨y,x,h',ι',rfl,rfl,ry,_,ev⟩;cases ry;refine⟨rfl,ev.os,ev.tape,ev.output,ev.size,fun k hk=>(ev.frame k hk ?_).1⟩;rintro⟨id,o,l,h,_⟩;simp at h
theorem qQQ (w:World) (x:Value):tE w (.v x) x:=.v x
theorem KL {w:World} {a:Addr} {v:Value} (h:w.cell? a=some v):a.spot=none/\a.block<w.heap.size:=by
 unfold World.cell? at h;split at h
 ·rename_i c el fr hb
  refine⟨?_,?_⟩
  ·by_cases q:a.spot.isSome=true
   ·rw[if_pos q]at h;cases h
   ·simpa using q
  ·rcases Nat.lt_or_ge a.block w.heap.size with q|q
   ·exact q
   ·rw[Array.getElem?_eq_none q]at hb;cases hb
 ·cases h
def ints (k:IntKind) (l:List Int):V:=.sF 1 (l.map fun n=>[.v (.int k n)])
theorem MM (w:World) (k:IntKind):tE w (ints k []) (.slice none 0 0):=Rep.sN 1
theorem GS {w:World} {k:IntKind} {x:Addr} {len cap:Nat} {zs:List Int} (hl:len<=cap) (hz:zs.length=cap) (hc:∀i,i<zs.length->w.cell? (x.add i)=some (.int k (zs.getD i 0))) :
  tE w (ints k (zs.take len)) (.slice (some x) len cap):=by
 have hlen:((zs.take len).map fun n=>[V.v (.int k n)]).length=len:=by simp;omega
 have:=Rep.sF_mk (w:=w) (ι:=ι0) (M:=Mt [] ι0) (sz:=1) (rows:=(zs.take len).map fun n=>[V.v (.int k n)]) x cap ?_ (by omega) (fun r hr=>by obtain⟨n,_,rfl⟩:=List.mem_map.1 hr;rfl) ?_
 ·rw[hlen]at this;exact this
 ·intro hne
  have h0:0<zs.length:=by
   rcases Nat.eq_zero_or_pos zs.length with q|q
   ·exfalso;apply hne;rw[List.eq_nil_of_length_eq_zero q];simp
   ·exact q
  have:=KL (hc 0 h0);unfold Addr.add at this;simp at this;exact⟨this.1,this.2,mt0 _⟩
 ·intro i j r y hi hj
  rw[List.getElem?_map]at hi;cases hq:(zs.take len)[i]? with
  |none=>rw[hq]at hi;simp at hi
  |some n=>
   rw[hq]at hi;simp at hi;subst hi;have hj0:j=0:=by have:=aM hj;simp at this;exact this
   subst hj0;simp at hj;subst hj;rw[List.getElem?_take]at hq;split at hq
   ·have hlt:=aM hq
    refine⟨.int k n,?_,.v _⟩;have hcell:=hc i hlt;have hsp:=(KL (hc 0 (by omega))).1;have hsp0:x.spot=none:=by unfold Addr.add at hsp;simpa using hsp
    have e:x.add i=⟨x.block,x.off+i*1+0,none⟩:=by
     obtain⟨b,o,sp⟩:=x;simp only at hsp0;subst hsp0;rw[lW];simp
    rw[<-e,hcell];rw[List.getElem?_eq_getElem hlt]at hq;injection hq with hq;simp [List.getD,List.getElem?_eq_getElem hlt,hq]
   ·cases hq
end Go.Abs
