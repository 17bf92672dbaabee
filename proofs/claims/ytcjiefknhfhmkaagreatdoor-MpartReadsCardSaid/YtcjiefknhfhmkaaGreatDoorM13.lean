import Derived.Below
import Derived.ChangeArms
import Derived.DataElems
import Derived.Test.YtcjiefknhfhmkaaGreatDoorM12
namespace Go.Proofs.YtcjiefknhfhmkaaGreatDoor
open Go.Abs
set_option maxRecDepth 100000
set_option maxHeartbeats 4000000
set_option linter.unusedVariables false
set_option linter.unusedSimpArgs false
def dX:List ByteArray->ByteArray
 | []=>⟨#[]⟩
 |b::l=>b++dX l
def zG (s:Schema) (l:List Rec) (i:Nat):List Val:=if i=s.1.length then iE l else fP l i
def chnk (s:Schema) (l:List Rec) (i:Nat):ByteArray:=(jN (lM s i) (zG s l i)).1
def chnks (s:Schema) (l:List Rec):List ByteArray:=(List.range (s.1.length+1)).map (chnk s l)
def szB (b:ByteArray):ByteArray:=bH (put (b.size:Int))
def iC (s:Schema) (l:List Rec):ByteArray:=bH (four (iQ (tZ s)))++bH (put (l.length:Int))++dX ((chnks s l).map szB)++dX ((eL s l (List.range s.1.length)).map wH)++eV (eX s l[0]!)++eV (eX s l[l.length-1]!)
def eZ (C F:ByteArray):ByteArray:=fC++C++F++bH (four (F.size:Int))++fC
def dZ (s:Schema) (l:List Rec):ByteArray:=eZ (dX (chnks s l)) (cG (iC s l))
def lX (s:Schema) (l:List Rec):ByteArray×Int:=if bF s≠0 then(⟨#[]⟩,bF s)else if l.length>1024 then(⟨#[]⟩,7)else if l.length=0\/cQ s l=false then(⟨#[]⟩,1)else(dZ s l,0)
theorem tP (a b:List ByteArray):dX (a++b)=dX a++dX b:=by
 induction a with
 |nil=>exact ByteArray.empty_append.symm
 |cons x a ih=>rw[List.cons_append,dX,dX,ih,ByteArray.append_assoc]
def kP (b:ByteArray):Int:=(b.size:Int)
theorem vG (l:List ByteArray):((dX l).size:Int)=fJ (l.map kP):=by
 induction l with
 |nil=>rfl
 |cons b l ih=>rw[dX,ByteArray.size_append];simp only[List.map_cons,fJ,List.foldr_cons]at ih ⊢;rw[Int.natCast_add,ih];rfl
theorem rV {s:ByteArray} {a:Nat} {x:Int} {r:List Int} (h:(aU s).drop a=x::r):aE s a=x/\(aU s).drop (a+1)=r/\a+1<=s.size:=by
 have hl:=congrArg List.length h;simp only[List.length_drop,List.length_cons,bX]at hl;refine⟨?_,by rw[<-List.drop_drop,h];rfl,by omega⟩;rw[<-pN,List.getElem!_eq_getElem?_getD,show a=a+0 from rfl,<-List.getElem?_drop,h];rfl
theorem mO {s:ByteArray} {a:Nat} {u:Int} {r:List Int} (hu:0<=u/\u<18446744073709551616) (h:(aU s).drop a=put u++r) :
  aA s a=(u,((a+(put u).length:Nat):Int),0)/\(aU s).drop (a+(put u).length)=r/\a+(put u).length<=s.size:=by
 have hg:=LQ hu h;have hl:=congrArg List.length h;simp only[List.length_drop,List.length_append,bX]at hl;have hp:=bU u;exact⟨by rw[hg,Int.natCast_add],by rw[<-List.drop_drop,h,List.drop_left],by omega⟩
theorem iN {s w:ByteArray} {a:Nat} {r:List Int} (h:(aU s).drop a=aU w++r):s.extract a (a+w.size)=w/\(aU s).drop (a+w.size)=r/\w.size<=s.size-a:=by
 have hl:=congrArg List.length h;simp only[List.length_drop,List.length_append,bX]at hl;refine⟨sY ?_,by rw[<-List.drop_drop,h,<-bX w,List.drop_left],by omega⟩;rw[JQ,h,show a+w.size-a=(aU w).length by rw[bX];omega,List.take_left]
def JL (v:Val):Prop:=(v.1=true->v=iD)/\inI v.2.1/\v.2.2.size<=1048576
theorem BY {s:ByteArray} {a:Nat} {v:Val} {r:List Int} (hv:JL v) (h:(aU s).drop a=aU (AI v)++r) :
  cZ s a=(v,((a+(AI v).size:Nat):Int),0)/\(aU s).drop (a+(AI v).size)=r:=by
 obtain⟨hn,hi,hz⟩:=hv;refine⟨?_,(iN h).2.1⟩;by_cases q:v.1=true
 ·have e:=hn q
  subst e;obtain⟨d1,d2,d3⟩:=rV (x:=0) h;rw[cZ,if_neg (by omega),if_neg (by omega),show((a:Int)).toNat=a from rfl,d1,if_neg (by decide),if_pos rfl];rfl
 ·have q:v.1=false:=by simpa using q
  rw[qO9 q]at h ⊢;rw[cD,cD,cD,bW (mP (oI hi)),bW (mP ⟨by omega,by omega⟩),List.append_assoc,List.append_assoc,List.append_assoc]at h;obtain⟨d1,d2,d3⟩:=rV (x:=1) h;obtain⟨n1,n2,n3⟩:=mO (oI hi) d2;obtain⟨m1,m2,m3⟩:=mO (u:=(v.2.2.size:Int)) ⟨by omega,by omega⟩ n2;obtain⟨w1,w2,w3⟩:=iN m2;rw[show(((a+1:Nat)):Int)=(a:Int)+1 from rfl]at n1;rw[cZ,if_neg (by omega),if_neg (by omega),show((a:Int)).toNat=a from rfl,d1,if_neg (by decide),if_neg (by decide),n1];simp only;rw[m1];simp only[ne_eq,not_true_eq_false,if_false];rw[if_neg (by omega)];refine Prod.ext ?_ (Prod.ext ?_ rfl)
  ·obtain⟨x,y,z⟩:=v
   (try simp only at q w1 ⊢);subst q;refine Prod.ext rfl (Prod.ext (qIV y) ?_);rw[show((a+1+(put (gP y)).length+(put (z.size:Int)).length:Nat):Int).toNat=a+1+(put (gP y)).length+(put (z.size:Int)).length from rfl,show(((a+1+(put (gP y)).length+(put (z.size:Int)).length:Nat):Int)+(z.size:Int)).toNat=a+1+(put (gP y)).length+(put (z.size:Int)).length+z.size by omega];exact w1
  ·simp only[ByteArray.size_append,bS]
   have:(⟨#[1]⟩:ByteArray).size=1:=rfl;omega
def JM (z:Zone):Prop:=(0<=z.1/\z.1<=4096)/\(0<=z.2.1/\z.2.1<=4096)/\JL z.2.2.1/\JL z.2.2.2
theorem qaF {n:Int} (h:0<=n):dF 0 n=n:=by unfold dF;split<;>omega
theorem qJ2 {s:ByteArray} {a:Nat} {z:Zone} {r:List Int} (hz:JM z) (h:(aU s).drop a=aU (wH z)++r) :
  dQ s a=(z,((a+(wH z).size:Nat):Int),0)/\(aU s).drop (a+(wH z).size)=r:=by
 obtain⟨h1,h2,h3,h4⟩:=hz;refine⟨?_,(iN h).2.1⟩;rw[wH,qaF h1.1,qaF h2.1]at h ⊢;rw[cD,cD,cD,bW (mP ⟨h1.1,by omega⟩),bW (mP ⟨h2.1,by omega⟩),List.append_assoc,List.append_assoc,List.append_assoc]at h;obtain⟨n1,n2,n3⟩:=mO (u:=z.1) ⟨h1.1,by omega⟩ h;obtain⟨m1,m2,m3⟩:=mO (u:=z.2.1) ⟨h2.1,by omega⟩ n2;obtain⟨v1,v2⟩:=BY h3 m2;obtain⟨w1,w2⟩:=BY h4 v2;rw[dQ,n1];simp only[ne_eq,not_true_eq_false,if_false];rw[if_neg (by omega),m1];simp only[ne_eq,not_true_eq_false,if_false];rw[if_neg (by omega),v1];simp only[ne_eq,not_true_eq_false,if_false];rw[w1];simp only[ne_eq,not_true_eq_false,if_false];refine Prod.ext rfl (Prod.ext ?_ rfl);simp only[ByteArray.size_append,bS];omega
def WK (s:Schema) (r:Rank):Prop:=JL r.1/\bN (FA s) r.1=0/\0<=r.2/\r.2<=1099511627776
theorem QF {s:Schema} {f:ByteArray} {a:Nat} {k:Rank} {r:List Int} (hk:WK s k) (h:(aU f).drop a=aU (eV k)++r) :
  eC s f a=(k,((a+(eV k).size:Nat):Int),true)/\(aU f).drop (a+(eV k).size)=r:=by
 obtain⟨h1,h2,h3⟩:=hk;refine⟨?_,(iN h).2.1⟩;unfold eV at h ⊢;rw[cD,bW (mP ⟨h3.1,by omega⟩),List.append_assoc]at h;obtain⟨v1,v2⟩:=BY h1 h;obtain⟨n1,n2,n3⟩:=mO (u:=k.2) ⟨h3.1,by omega⟩ v2;rw[eC,v1];simp only;rw[if_neg (by rintro(q|q);exact q rfl;exact q h2),n1];simp only;rw[if_neg (by rintro(q|q);exact q rfl;omega)];refine Prod.ext rfl (Prod.ext ?_ rfl);simp only[ByteArray.size_append,bS];omega
theorem YD {f:ByteArray} {b:Int}:∀(cs:List ByteArray) (l:List Int) (a:Nat) (r:List Int),(∀c,c∈cs->(c.size:Int)<=b/\c.size<=4398046585379)->(aU f).drop a=aU (dX (cs.map szB))++r ->
  rfN f b cs.length (offs l) a=(offs (l++cs.map kP),((a+(dX (cs.map szB)).size:Nat):Int),true)
 | [],l,a,r,_,h=>by rw[List.length_nil,rfN];simp [dX];rfl
 |c::cs,l,a,r,hc,h=>by
  have h0:=hc c (List.mem_cons_self ..);rw[List.map_cons,dX,cD,List.append_assoc,szB,bW (mP ⟨by omega,by omega⟩)]at h;obtain⟨n1,n2,n3⟩:=mO (u:=(c.size:Int)) ⟨by omega,by omega⟩ h;rw[List.length_cons,rfN,n1];simp only;rw[if_neg (by rintro(q|q);exact q rfl;omega),<-WX,YD cs _ _ r (fun x hx=>hc x (List.mem_cons_of_mem _ hx)) n2];refine Prod.ext ?_ (Prod.ext ?_ rfl)
  ·simp only[List.append_assoc,List.map_cons,List.singleton_append];rfl
  ·simp only[List.map_cons,dX,ByteArray.size_append,szB,bS];omega
theorem YJ {f:ByteArray} {rows:Int}:∀(cs:List Col) (zs z:List Zone) (a:Nat) (r:List Int),cs.length=zs.length->(∀i:Nat,i<cs.length->JM zs[i]! /\jQ cs[i]! zs[i]! =true/\zs[i]!.1=rows)->(aU f).drop a=aU (dX (zs.map wH))++r ->
  rzN f rows cs z a=(z++zs,((a+(dX (zs.map wH)).size:Nat):Int),true)
 | [],[],z,a,r,_,_,h=>by rw[rzN];simp [dX];rfl
 | [],_::_,_,_,_,hl,_,_=>by cases hl
 |_::_,[],_,_,_,hl,_,_=>by cases hl
 |c::cs,y::zs,z,a,r,hl,hz,h=>by
  obtain⟨g1,g2,g3⟩:=hz 0 (Nat.zero_lt_succ _);have g1:JM y:=g1;have g2:jQ c y=true:=g2;have g3:y.1=rows:=g3;rw[List.map_cons,dX,cD,List.append_assoc]at h;obtain⟨n1,n2⟩:=qJ2 g1 h;rw[rzN,n1];simp only;rw[if_neg (by rintro(q|q|q);exact q rfl;rw[g2]at q;cases q;exact q g3),YJ cs zs _ _ r (by simpa using hl) (fun i hi=>hz (i+1) (by simpa using hi)) n2];refine Prod.ext (by simp) (Prod.ext ?_ rfl);simp only[List.map_cons,dX,ByteArray.size_append];omega
theorem SA (s:ByteArray):0<=iQ s/\iQ s<4294967296:=by
 unfold iQ CN;rw[if_pos IY];exact GL _ _
theorem qCJ {v:Int} (h:0<=v/\v<4294967296):four v= [v%256,v/256%256,v/65536%256,v/16777216]:=by
 obtain⟨e1,e2,e3⟩:=qVX h.1;simp only[four,e1,e2,e3,CO];rw[show v/16777216%256=v/16777216 by omega]
theorem wE {s:ByteArray} {a:Nat} {v:Int} {r:List Int} (hv:0<=v/\v<4294967296) (h:(aU s).drop a=four v++r):bQ s a=v/\(aU s).drop (a+4)=r:=by
 rw[qCJ hv]at h;obtain⟨a1,a2,_⟩:=rV h;obtain⟨b1,b2,_⟩:=rV a2;obtain⟨c1,c2,_⟩:=rV b2;obtain⟨d1,d2,_⟩:=rV c2;refine⟨?_,d2⟩;unfold bQ;rw[show((a:Int)).toNat=a from rfl,show((a:Int)+1).toNat=a+1 from rfl,show((a:Int)+2).toNat=a+1+1 from rfl,show((a:Int)+3).toNat=a+1+1+1 from rfl,a1,b1,c1,d1,qIR (by omega) (by omega) (by omega) (by omega)];omega
structure Made (s:Schema) (l:List Rec):Prop where
 sch:bF s=0
 len:1<=l.length/\l.length<=1024
 chunk:∀c,c∈chnks s l->c.size<=4398046585379
 zone:∀i:Nat,i<s.1.length->JM (pR s.1[i]!.2.1 (fP l i))/\jQ s.1[i]! (pR s.1[i]!.2.1 (fP l i))=true
 lo:WK s (eX s l[0]!)
 hi:WK s (eX s l[l.length-1]!)
 le:¬mQ (FA s).2.1 (eX s l[0]!) (eX s l[l.length-1]!)>0
theorem kK (s:Schema) (l:List Rec):(chnks s l).length=s.1.length+1:=by simp [chnks]
theorem qF0:∀(cs:List ByteArray) (c:ByteArray),c∈cs->(c.size:Int)<=fJ (cs.map kP)
 | [],_,h=>by cases h
 |x::cs,c,h=>by
  have nn:∀l:List ByteArray,0<=fJ (l.map kP):=fun l=>by rw[<-vG];omega
  have h1:=nn cs;have e:fJ ((x::cs).map kP)=(x.size:Int)+fJ (cs.map kP):=rfl;rw[e];rcases List.mem_cons.1 h with q|q
  ·subst q;omega
  ·have:=qF0 cs c q;omega
theorem qKM {s:Schema} {l:List Rec} (m:Made s l):iW s (iC s l) (4+fJ ((chnks s l).map kP))=((((l.length:Int),eL s l (List.range s.1.length),eX s l[0]!,eX s l[l.length-1]!),offs ((chnks s l).map kP),4+fJ ((chnks s l).map kP)),true):=by
 have h:(aU (iC s l)).drop 0=four (iQ (tZ s))++(put (l.length:Int)++(aU (dX ((chnks s l).map szB))++(aU (dX ((eL s l (List.range s.1.length)).map wH))++(aU (eV (eX s l[0]!))++(aU (eV (eX s l[l.length-1]!))++ []))))):=by
  rw[List.drop_zero,iC];simp only[cD,bW (uA _),bW (mP ⟨show(0:Int)<=(l.length:Int)by omega,by have:=m.len;omega⟩),List.append_assoc,List.append_nil]
 obtain⟨_,w2⟩:=wE (SA _) h;rw[show 0+4=4 from rfl]at w2;have hl:=m.len;obtain⟨n1,n2,n3⟩:=mO (u:=(l.length:Int)) ⟨by omega,by omega⟩ w2;have c1:=YD (b:=4+fJ ((chnks s l).map kP)) (chnks s l) [] _ _ (fun c hc=>⟨by have:=qF0 _ c hc;omega,m.chunk c hc⟩) n2;have c2:=(iN n2).2.1;have zl:(eL s l (List.range s.1.length)).length=s.1.length:=by simp [eL]
 have z1:=YJ (rows:=(l.length:Int)) s.1 (eL s l (List.range s.1.length)) [] _ _ zl.symm (fun i hi=>by
  have e:(eL s l (List.range s.1.length))[i]! =pR s.1[i]!.2.1 (fP l i):=by
   rw[getElem!_pos _ i (by rw[zl];exact hi)];simp [eL]
  rw[e];obtain⟨q1,q2⟩:=m.zone i hi;exact⟨q1,q2,by rw[pR,oU]⟩) c2
 have z2:=(iN c2).2.1;obtain⟨r1,r2⟩:=QF m.lo z2;obtain⟨s1,s2⟩:=QF m.hi r2;have e0:=congrArg List.length s2;simp only[List.length_drop,bX,List.length_nil]at e0;have e1:=(iN r2).2.2;rw[iW,show(4:Int)=((4:Nat):Int)from rfl,n1];simp only;rw[if_neg (by rintro(q|q|q);exact q rfl;omega;omega)];rw[show[((4:Nat):Int)]=offs []from rfl,<-kK s l,show(((4:Nat):Int))=4 from rfl,c1,rP1];simp only[List.nil_append];rw[if_neg (by rintro(q|q);cases q;exact q (vS _)),z1,rP2];simp only[List.nil_append];rw[if_neg (by intro q;cases q),r1,rP3];simp only;rw[if_neg (by intro q;cases q),s1,rP4,if_neg];rintro(q|q|q)
 ·cases q
 ·have u1:=(iN n2).2.2
  have u2:=(iN c2).2.2;have u3:=(iN z2).2.2;(try simp only at q);omega
 ·exact m.le q
theorem RD {C F:ByteArray}:aU (eZ C F)=aU fC++(aU C++(aU F++(four (F.size:Int)++aU fC))):=by
 unfold eZ;simp only[cD,bW (uA _),List.append_assoc]
theorem rN (C F:ByteArray):(eZ C F).size=12+C.size+F.size:=by
 unfold eZ;simp only[ByteArray.size_append,mC];have:fC.size=4:=rfl;omega
theorem LG {C F:ByteArray} (hF:F.size<4294967296):AE (eZ C F) fC=true/\AW (eZ C F) fC=true/\bQ (eZ C F) ((eZ C F).size-8)=F.size/\(eZ C F).extract (4+C.size) (4+C.size+F.size)=F:=by
 have h0:(aU (eZ C F)).drop 0=aU fC++(aU C++(aU F++(four (F.size:Int)++aU fC))):=RD;obtain⟨a1,a2,_⟩:=iN h0;obtain⟨b1,b2,_⟩:=iN a2;obtain⟨c1,c2,_⟩:=iN b2;obtain⟨d1,d2⟩:=wE ⟨by omega,by omega⟩ c2;obtain⟨e1,_,_⟩:=iN (s:=eZ C F) (w:=fC) (r:=[]) (by rw[List.append_nil];exact d2);have hz:=rN C F;have h4:fC.size=4:=rfl;rw[h4]at a1 a2 b1 b2 c1 c2 d1 d2 e1;simp only[Nat.zero_add]at a1 a2 b1 b2 c1 c2 d1 d2 e1;refine⟨?_,?_,?_,c1⟩
 ·unfold AE;rw[h4,a1,decide_eq_true (by omega),decide_eq_true rfl];rfl
 ·unfold AW
  rw[h4,show(eZ C F).size-4=4+C.size+F.size+4 by omega,decide_eq_true (show 4<=(eZ C F).size by omega)];have:(eZ C F).size=4+C.size+F.size+4+4:=by omega
  rw[this,e1,decide_eq_true rfl];rfl
 ·rw[show(((eZ C F).size:Nat):Int)-8=((4+C.size+F.size:Nat):Int)by omega];exact d1
theorem qDT {B:ByteArray}:(cG B).extract 0 B.size=B/\(aU (cG B)).drop B.size=four (iQ B)++ []:=by
 have h:(aU (cG B)).drop 0=aU B++(four (iQ B)++ []):=by
  rw[List.drop_zero,cG,cD,bW (uA _),List.append_nil]
 obtain⟨a1,a2,_⟩:=iN h;simp only[Nat.zero_add]at a1 a2;exact⟨a1,a2⟩
theorem qJ1 {s:Schema} {C B:ByteArray} (h0:bF s=0) (h4:4<=B.size) (hB:B.size<4294967290) :
  aV s (eZ C (cG B))=if bQ B 0≠iQ (tZ s)then(gS,[],1)else xD s (B.extract 4 B.size) (eZ C (cG B)).size C.size:=by
 generalize hR:(if bQ B 0≠iQ (tZ s)then(gS,[],1)else xD s (B.extract 4 B.size) (eZ C (cG B)).size C.size)=R;have hs:=mI B;obtain⟨f1,f2,f3,f4⟩:=LG (C:=C) (F:=cG B) (by omega);have hz:=rN C (cG B);obtain⟨p1,p2⟩:=qDT (B:=B);have e:(eZ C (cG B)).extract (4+C.size) (4+C.size+B.size)=B:=by
  have h1:((eZ C (cG B)).extract (4+C.size) (4+C.size+(cG B).size)).extract 0 B.size=B:=by rw[f4];exact p1
  rw[ByteArray.extract_extract,show 4+C.size+0=4+C.size from rfl,show min (4+C.size+B.size) (4+C.size+(cG B).size)=4+C.size+B.size by omega]at h1;exact h1
 have w:bQ (eZ C (cG B)) ((eZ C (cG B)).size-12)=iQ B:=by
  have h1:bQ ((eZ C (cG B)).extract (4+C.size) (4+C.size+(cG B).size)) (B.size:Int)=iQ B:=by rw[f4];exact(wE (SA B) p2).1
  rw[oP (by omega) (by omega)]at h1;rw[show((eZ C (cG B)).size:Int)-12=((4+C.size:Nat):Int)+(B.size:Int)by omega];exact h1
 generalize eZ C (cG B)=W at *;rw[aV,if_neg (fun q=>q h0),if_neg (by omega),f3,JI,if_neg (by omega),if_neg (by rw[f1,f2];rintro(q|q|q);cases q;cases q;omega),show(W.size:Int)-8-((cG B).size:Int)=((4+C.size:Nat):Int)by omega,show W.size-12=4+C.size+B.size by omega,Int.toNat_natCast,e,nR,w,if_neg (fun q=>q rfl),show(W.size:Int)-12-((cG B).size:Int)=(C.size:Int)by omega];exact hR
theorem vF {m:Nat}:∀ {l:List ByteArray},(∀b,b∈l->b.size<=m)->(dX l).size<=m*l.length
 | [],_=>Nat.zero_le _
 |b::l,h=>by
  have h1:=h b (List.mem_cons_self ..);have h2:=vF fun x hx=>h x (List.mem_cons_of_mem _ hx)
  rw[dX,ByteArray.size_append,List.length_cons,Nat.mul_succ];omega
theorem qT8 (v:Val):1<=(AI v).size:=by
 unfold AI;split
 ·exact Nat.le_refl 1
 ·simp only[ByteArray.size_append]
  have s1:(⟨#[1]⟩:ByteArray).size=1:=rfl;omega
theorem mR {s:Schema} {r:Rank} (h:WK s r):2<=(eV r).size/\(eV r).size<=1048700:=by
 have h1:=vY (v:=r.1);have h2:=qT8 r.1;have h3:=bU r.2;have h4:=h.1.2.2;unfold eV;rw[ByteArray.size_append,bS];omega
theorem wF {z:Zone} (h:JM z):(wH z).size<=2200000:=by
 obtain⟨_,_,h3,h4⟩:=h;have a1:=vY (v:=z.2.2.1);have a2:=vY (v:=z.2.2.2);have a3:=bU (dF 0 z.1);have a4:=bU (dF 0 z.2.1);have a5:=h3.2.2;have a6:=h4.2.2;unfold wH;simp only[ByteArray.size_append,bS];omega
theorem qSS {s:Schema} {l:List Rec} (m:Made s l):8<=(iC s l).size/\(iC s l).size<4294967290:=by
 have hs:=aX m.sch;have p1:=bU (l.length:Int);have b1:(dX ((chnks s l).map szB)).size<=10*((chnks s l).map szB).length:=vF fun b hb=>by
  obtain⟨c,_,rfl⟩:=List.mem_map.1 hb;rw[szB,bS];exact(bU _).1
 have b2:(dX ((eL s l (List.range s.1.length)).map wH)).size<=2200000*((eL s l (List.range s.1.length)).map wH).length:=vF fun b hb=>by
  obtain⟨z,hz,rfl⟩:=List.mem_map.1 hb;obtain⟨i,hi,rfl⟩:=List.mem_map.1 hz;rw[List.mem_range]at hi;exact wF (m.zone i hi).1
 rw[List.length_map,kK]at b1;rw[List.length_map,eL,List.length_map,List.length_range]at b2;have r1:=mR m.lo;have r2:=mR m.hi;have f4:(four (iQ (tZ s))).length=4:=rfl;unfold iC;simp only[ByteArray.size_append,bS,mC,eL]at b2 ⊢;omega
theorem vM {s:Schema} {l:List Rec} (m:Made s l):aV s (dZ s l)=(((l.length:Int),eL s l (List.range s.1.length),eX s l[0]!,eX s l[l.length-1]!),(chnks s l).map kP,0):=by
 have hsz:=qSS m;have hw:bQ (iC s l) 0=iQ (tZ s):=(wE (s:=iC s l) (a:=0) (SA _) (by
  rw[List.drop_zero,iC];simp only[cD,bW (uA _),List.append_assoc];rfl)).1
 rw[dZ,qJ1 m.sch (by omega) hsz.2,if_neg (fun q=>q hw)];have hr:=qKM m;obtain⟨_,p2⟩:=QC (s:=s) (f:=iC s l) (st:=4+fJ ((chnks s l).map kP)) (m:=(eZ (dX (chnks s l)) (cG (iC s l))).size) (by omega) (by rw[rN,<-vG];omega);obtain⟨k,e1,e2,e3,e4,e5,_⟩:=p2 (by rw[hr]);rw[show 4+fJ ((chnks s l).map kP)-4=((dX (chnks s l)).size:Int)by rw[vG];omega]at e1;rw[e1,hr];rw[hr]at e2;(try simp only at e2);(try simp only);have hk:k=(chnks s l).map kP:=by
  apply List.ext_getElem
  ·rw[e3,List.length_map,kK]
  ·intro i h1 h2
   have len:((chnks s l).map kP).length=k.length:=by rw[e3,List.length_map,kK]
   have a0:=congrArg (fun x:List Int=>x[i]!) e2;have a1:=congrArg (fun x:List Int=>x[i+1]!) e2;rw[sG (by omega),sG (by omega)]at a0 a1;have b0:=oO (l:=k) (k:=(i:Int)) ⟨by omega,by omega⟩;have b1:=oO (l:=(chnks s l).map kP) (k:=(i:Int)) ⟨by omega,by omega⟩;rw[show((i:Int)+1).toNat=i+1 by omega,show((i:Int)).toNat=i from rfl]at b0 b1;rw[getElem!_pos k i h1]at b0;rw[getElem!_pos _ i h2]at b1;omega
 rw[hk]
theorem OJ:∀(cs:List ByteArray) (i:Nat) {f:ByteArray} {a:Nat} {r:List Int},i<cs.length->(aU f).drop a=aU (dX cs)++r ->
  f.extract (a+(dX (cs.take i)).size) (a+(dX (cs.take i)).size+(cs[i]!).size)=cs[i]!
 | [],_,_,_,_,h,_=>by cases h
 |c::cs,0,f,a,r,_,h=>by
  rw[dX,cD,List.append_assoc]at h;exact(iN h).1
 |c::cs,i+1,f,a,r,hi,h=>by
  rw[dX,cD,List.append_assoc]at h;have:=OJ cs i (by simpa using hi) (iN h).2.1;rw[List.take_succ_cons,dX,ByteArray.size_append];show f.extract (a+(c.size+(dX (cs.take i)).size)) (a+(c.size+(dX (cs.take i)).size)+(cs[i]!).size)=cs[i]!;rw[<-Nat.add_assoc];exact this
theorem qMQ {s:Schema} {l:List Rec} {i:Nat} (hi:i<s.1.length+1):(chnks s l)[i]! =chnk s l i:=by
 rw[getElem!_pos _ i (by rw[kK];exact hi)];simp [chnks]
theorem qT4 {cs:List ByteArray} {f:ByteArray} {r:List Int} {i:Nat} (hi:i<cs.length) (h:(aU f).drop 4=aU (dX cs)++r):xE f (cs.map kP) i=cs[i]!:=by
 have e:=OJ cs i hi h;have h1:fJ ((cs.map kP).take i)=((dX (cs.take i)).size:Int):=by rw[<-List.map_take,vG]
 have h2:(cs.map kP)[i]! =(cs[i]!.size:Int):=by
  rw[getElem!_pos _ i (by rw[List.length_map];exact hi),getElem!_pos cs i hi,List.getElem_map];rfl
 unfold xE;rw[Int.toNat_natCast,h1,h2,show(4+((dX (cs.take i)).size:Int)).toNat=4+(dX (cs.take i)).size by omega,show(4+((dX (cs.take i)).size:Int)+(cs[i]!.size:Int)).toNat=4+(dX (cs.take i)).size+cs[i]!.size by omega];exact e
theorem qBG {C F:ByteArray}:∃r,(aU (eZ C F)).drop 4=aU C++r:=by
 have h0:(aU (eZ C F)).drop 0=aU fC++(aU C++(aU F++(four (F.size:Int)++aU fC))):=RD;have h:=(iN h0).2.1;exact⟨_,h⟩
theorem qMX (s:Schema) (l:List Rec) (i:Nat):(zG s l i).length=l.length:=by
 unfold zG;split
 ·simp [iE]
 ·exact oU l i
theorem VO {s:Schema} {l:List Rec} (m:Made s l) {i:Nat} (hi:i<s.1.length+1) (hd:nH (lM s i) (chnk s l i)=(zG s l i,0)):chV s (dZ s l) (aV s (dZ s l)) i=(zG s l i,0):=by
 obtain⟨r,hr⟩:=qBG (C:=dX (chnks s l)) (F:=cG (iC s l));have hp:xE (dZ s l) ((chnks s l).map kP) i=chnk s l i:=by
  rw[dZ,qT4 (by rw[kK];exact hi) hr,qMQ hi]
 unfold chV;rw[vM m];simp only;unfold dP;rw[hp,hd];simp only[qMX];rw[if_neg (fun q=>q rfl),if_neg (fun q=>q rfl)]
theorem TU {s:Schema} {l:List Rec} (hv:dB s l=true) {j:Nat} (hj:j<l.length):(l[j]!).2.length=s.1.length:=by
 have h:=(eH hv).2 j hj;unfold nI at h;split at h
 ·cases h
 ·rename_i q;exact Decidable.not_not.1 q
theorem qKN {s:Schema} {l:List Rec} (m:Made s l) (hv:dB s l=true) (hd:∀i:Nat,i<s.1.length+1->nH (lM s i) (chnk s l i)=(zG s l i,0)):CI s (dZ s l) (aV s (dZ s l))=l:=by
 have hc:∀i:Nat,i<s.1.length+1->chL s (dZ s l) (aV s (dZ s l)) i=zG s l i:=fun i hi=>by
  show(chV s (dZ s l) (aV s (dZ s l)) i).1=_;rw[VO m hi (hd i hi)]
 have hn:(aV s (dZ s l)).1.1.toNat=l.length:=by rw[vM m];rfl
 unfold CI;rw[hn];apply List.ext_getElem?;intro j;by_cases h:j<l.length
 ·rw[pH h,List.getElem?_eq_getElem h,<-getElem!_pos l j h]
  congr 1
  have hr:=TU hv h;unfold pG;rw[if_pos (.inl (Nat.lt_succ_self _)),if_neg (Nat.not_lt_zero _),Nat.min_eq_left (by omega),hc _ (by omega)];refine Prod.ext ?_ ?_
  ·show(zG s l s.1.length)[j]!.2.1=_
   rw[zG,if_pos rfl,iE,getElem!_pos _ j (by simpa using h),List.getElem_map,getElem!_pos l j h]
  ·show(List.range s.1.length).map _=l[j]!.2
   apply List.ext_getElem
   ·rw[List.length_map,List.length_range,hr]
   ·intro c h1 h2
    rw[List.length_map,List.length_range]at h1;rw[List.getElem_map,List.getElem_range,hc c (by omega),zG,if_neg (by omega),fP,getElem!_pos _ j (by simpa using h),List.getElem_map];unfold atV;rw[<-getElem!_pos l j h,if_pos h2,getElem!_pos _ c h2]
 ·rw[List.getElem?_eq_none (by rw[fZ];omega),List.getElem?_eq_none (by omega)]
theorem qKO {s:Schema} {l:List Rec} (m:Made s l) (hs:cQ s l=true) (hd:∀i:Nat,i<s.1.length+1->nH (lM s i) (chnk s l i)=(zG s l i,0)):iP s (dZ s l)=(l,0):=by
 have hv:dB s l=true:=by
  unfold cQ at hs;cases h:dB s l with
  |true=>rfl
  |false=>rw[h]at hs;cases hs
 have he:∀(k i:Nat),i+k=s.1.length+1->sB (chE s (dZ s l) (aV s (dZ s l))) k i=0:=by
  intro k;induction k with
  |zero=>intro i _;rfl
  |succ k ih=>
   intro i hi;have h0:chE s (dZ s l) (aV s (dZ s l)) i=0:=by
    show(chV s (dZ s l) (aV s (dZ s l)) i).2=0;rw[VO m (by omega) (hd i (by omega))]
   rw[sB,if_neg (fun q=>q h0)];exact ih (i+1) (by omega)
 have hf:(aV s (dZ s l)).2.2=0:=by rw[vM m]
 have hi:(aV s (dZ s l)).1=tB s l:=by rw[vM m];rfl
 unfold iP nA;rw[if_neg (fun q=>q hf),if_neg (fun q=>q (he _ 0 (by omega))),qKN m hv hd,hi,rF,if_neg (by rw[hs];intro q;cases q),if_neg (by rintro(q|q|q)<;>exact q rfl)]
def yE (l:List Rec):Prop:=∀r,r∈l->∀v,v∈r.2->inI v.2.1
theorem vK {c:Col} {l:List Val} (hl:l.length<=4096) (hv:∀v,v∈l->okV v):(jN c l).1.size<=4398046585379:=by
 unfold jN;split
 ·exact Nat.zero_le _
 split
 ·exact Nat.zero_le _
 split
 ·exact Nat.zero_le _
 rcases qMP (t:=c.2.1) (l:=l) 4 1 ⟨#[]⟩ (.inl rfl)with q|⟨j,hj,q⟩
 ·rw[q];exact Nat.zero_le _
 ·rw[q];exact(GQ hv hl).1
theorem uW {s:Schema} {l:List Rec} (hv:dB s l=true) (hi:yE l) {i:Nat} (h:i<s.1.length):∀v,v∈fP l i->bN s.1[i]! v=0/\inI v.2.1:=by
 intro v hm;obtain⟨r,hr,rfl⟩:=List.mem_map.1 hm;obtain⟨j,hj,rfl⟩:=List.mem_iff_getElem.1 hr;have h0:=(eH hv).2 j hj;have hn:=TU hv hj;rw[getElem!_pos l j hj]at h0 hn;unfold atV;rw[if_pos (by omega)];refine⟨?_,?_⟩
 ·unfold nI at h0
  rw[if_neg (fun q=>q hn)]at h0;have:=qX h0 (i:Int) ⟨by omega,by omega⟩;exact this
 ·rw[getElem!_pos _ i (by omega)]
  exact hi _ (List.getElem_mem hj) _ (List.getElem_mem _)
theorem KM {s:Schema} {l:List Rec} (hv:dB s l=true):∀v,v∈iE l->bN xW v=0/\inI v.2.1:=by
 intro v hm;obtain⟨r,hr,rfl⟩:=List.mem_map.1 hm;simp only[dB,Bool.and_eq_true,decide_eq_true_eq,List.all_eq_true]at hv;have q:=hv.2 r hr;simp only[nT,Bool.and_eq_true,decide_eq_true_eq]at q;refine⟨rfl,?_⟩;show inI r.1;unfold inI;omega
theorem qUQ {s:Schema} {l:List Rec} (hv:dB s l=true) {j:Nat} (hj:j<l.length):0<=(l[j]!).1/\(l[j]!).1<=1099511627776:=by
 simp only[dB,Bool.and_eq_true,decide_eq_true_eq,List.all_eq_true]at hv;have q:=hv.2 l[j]! (by rw[getElem!_pos l j hj];exact List.getElem_mem hj);simp only[nT,Bool.and_eq_true,decide_eq_true_eq]at q;omega
theorem FO {c:Col} {v:Val} (h:bN c v=0/\inI v.2.1):JL v:=by
 have ho:=fK h.1 h.2;exact⟨fun q=>IS h.1 q,h.2,ho.1⟩
theorem qVW {P:Val->Prop} (h0:P iD) {t g:Int} {a b:Val} (ha:P a) (hb:P b):P (sU t g a b):=by
 unfold sU;split
 ·exact h0
 split
 ·exact hb
 split
 ·exact ha
 split
 ·exact hb
 ·exact ha
theorem qRK {P:Val->Prop} (h0:P iD) {t:Int}:∀(l:List Val) (z:Int×Val×Val),P z.2.1->P z.2.2->(∀v,v∈l->P v)->P (zGo t l z).2.1/\P (zGo t l z).2.2/\z.1<=(zGo t l z).1/\(zGo t l z).1<=z.1+l.length
 | [],z,h1,h2,_=>⟨h1,h2,Int.le_refl _,by simp [zGo]⟩
 |v::l,z,h1,h2,h=>by
  have hv:=h v (List.mem_cons_self ..);have hl:∀x,x∈l->P x:=fun x hx=>h x (List.mem_cons_of_mem _ hx)
  have e:zGo t (v::l) z=zGo t l (EU t z v):=rfl;rw[e,List.length_cons];unfold EU;split
  ·obtain⟨q1,q2,q3,q4⟩:=qRK h0 (t:=t) l (z.1+1,z.2.1,z.2.2) h1 h2 hl
   exact⟨q1,q2,by simp only at q3;omega,by simp only at q4;omega⟩
  ·obtain⟨q1,q2,q3,q4⟩:=qRK h0 (t:=t) l (z.1,sU t (-1) z.2.1 v,sU t 1 z.2.2 v) (qVW h0 h1 hv) (qVW h0 h2 hv) hl
   exact⟨q1,q2,by simp only at q3;omega,by simp only at q4;omega⟩
theorem CE:JL iD:=⟨fun _=>rfl,UH,Nat.zero_le _⟩
theorem CS {t:Int} {l:List Val} (hl:l.length<=4096) (h:∀v,v∈l->JL v):JM (pR t l):=by
 obtain⟨q1,q2,q3,q4⟩:=qRK CE (t:=t) l (0,iD,iD) CE CE h;refine⟨⟨?_,?_⟩,⟨q3,?_⟩,q1,q2⟩
 ·show(0:Int)<=(l.length:Int);omega
 ·show(l.length:Int)<=4096;omega
 ·show(zGo t l (0,iD,iD)).1<=4096
  (try simp only at q4);omega
theorem FH {s:Schema} {l:List Rec} {i:Nat} (h:i<s.1.length):chnk s l i=(jN s.1[i]! (fP l i)).1:=by
 unfold chnk lM zG;rw[if_neg (by omega),if_neg (by omega),Int.toNat_natCast]
theorem IT {s:Schema} {l:List Rec}:chnk s l s.1.length=(jN xW (iE l)).1:=by
 unfold chnk lM zG;rw[if_pos rfl,if_pos rfl]
theorem qA {s:Schema} {l:List Rec} (hv:dB s l=true) (hi:yE l) (hl:l.length<=1024) {k:Int} (h:0<=k/\k<s.1.length) :
  @getElem! (List (List Val)) Nat (List Val) (fun xs i=>i<xs.length) _ (instInhabitedDen (.list bK)) (pZ l s.1.length) k.toNat=fP l k.toNat/\(fP l k.toNat).length<=1024/\(∀v,v∈fP l k.toNat->inI v.2.1)/\(jN s.1[k.toNat]! (fP l k.toNat)).1.size<=4398046585379/\JM (pR s.1[k.toNat]!.2.1 (fP l k.toNat)):=by
 have hk:k.toNat<s.1.length:=by omega
 have hs:=aX (eH hv).1;have ho:=uW hv hi hk;have hlen:=oU l k.toNat;refine⟨(tS (l:=l) (n:=(s.1.length:Int)) ⟨by omega,by omega⟩).2 _ (by omega),by omega,fun v q=>(ho v q).2,vK (by omega) fun v q=>fK (ho v q).1 (ho v q).2,CS (by omega) fun v q=>FO (ho v q)⟩
theorem SK {s:Schema} {l:List Rec} (hv:dB s l=true) (hl:l.length<=1024):(iE l).length<=1024/\(∀v,v∈iE l->inI v.2.1)/\(jN ((⟨#[115,101,113]⟩,1,0,false):Col) (iE l)).1.size<=4398046585379:=by
 have ho:=KM hv;have hlen:(iE l).length=l.length:=by simp [iE]
 exact⟨by omega,fun v q=>(ho v q).2,vK (by omega) fun v q=>fK (ho v q).1 (ho v q).2⟩
theorem iJ {s:Schema} {l:List Rec} (hv:dB s l=true) (hi:yE l) {j:Nat} (hj:j<l.length):WK s (eX s l[j]!):=by
 have hs:=aX (eH hv).1;have hn:=TU hv hj;have hq:=qUQ hv hj;have ho:=uW hv hi (i:=s.2.toNat) (by omega);have hm:(l[j]!).2[s.2.toNat]! ∈fP l s.2.toNat:=List.mem_map.2 ⟨l[j]!,by rw[getElem!_pos l j hj];exact List.getElem_mem hj,by unfold atV;rw[if_pos (by omega)]⟩;unfold eX;rw[if_neg (by omega)];have h1:=ho _ hm;exact⟨FO h1,h1.1,hq⟩
theorem dC {s:Schema} {l:List Rec} (h:cQ s l=true):dB s l=true:=by
 unfold cQ at h;cases q:dB s l with
 |true=>rfl
 |false=>rw[q]at h;cases h
theorem qZZ {s:Schema} {l:List Rec} (h:¬(idS s).2=0):lX s l=(⟨#[]⟩,(idS s).2):=by rw[EZ]at h ⊢;rw[lX,if_pos h]
theorem qZ0 {s:Schema} {l:List Rec} (h:(idS s).2=0) (h1:l.length>1024):lX s l=(⟨#[]⟩,7):=by rw[EZ]at h;rw[lX,if_neg (fun q=>q h),if_pos h1]
theorem qVO {s:Schema} {l:List Rec} (h:(idS s).2=0) (h1:¬l.length>1024) (h2:l.length=0\/cQ s l=false):lX s l=(⟨#[]⟩,1):=by rw[EZ]at h;rw[lX,if_neg (fun q=>q h),if_neg h1,if_pos h2]
theorem qVP {s:Schema} {l:List Rec} (h:(idS s).2=0) (h1:¬l.length>1024) (h2:¬l.length=0) (h3:cQ s l=true):lX s l=(dZ s l,0):=by
 rw[EZ]at h;rw[lX,if_neg (fun q=>q h),if_neg h1,if_neg (by rintro(q|q);exact h2 q;rw[h3]at q;cases q)]
abbrev chP (s:Schema) (l:List Rec) (k:Nat):List ByteArray:=(List.range k).map (chnk s l)
theorem VN {s:Schema} {l:List Rec} {k:Int} (h:0<=k):chP s l (k+1).toNat=chP s l k.toNat++ [chnk s l k.toNat]:=by
 rw[show(k+1).toNat=k.toNat+1 by omega,chP,List.range_succ,List.map_append];rfl
theorem OK {s:Schema} {l:List Rec}:chnks s l=chP s l s.1.length++ [(jN ((⟨#[115,101,113]⟩,1,0,false):Col) (iE l)).1]:=by
 rw[chnks,List.range_succ,List.map_append,List.map_cons,List.map_nil,IT]
theorem tQ (b:ByteArray):dX [b]=b:=FD b
abbrev HQ:Ct:=.fn [bM,.list eF] (some (fun(s:Schema) (l:List Rec)=>(l.length<=1099511627776)/\(yE l))) (fun(s:Schema) (l:List Rec)=>.tup [.str,.int .i64] ((lX s l).1,(lX s l).2,()))
theorem qPT:aF Tryz.prog 14 HQ:=by
 refine aF.fn qAZ mixed [] [] rfl rfl ?_;rintro⟨(s:Schema),(l:List Rec),_⟩ hpre;replace hpre:=hpre _ rfl;dsimp only[cu]at hpre;obtain⟨hl,hin⟩:=hpre;refine⟨[(0,22,LA.mk [.sl 47 (.int .i64),.sl 9 .str,.sl 10 .str,.sl 11 .str] (fun y=>Tag 106/\cu [.int .i64,.str,.str,.str] (fun(k:Int) (o:ByteArray) (q:ByteArray) (z:ByteArray)=>(0<=k/\k<=s.1.length)/\(o=fC++dX (chP s l k.toNat))/\(q=dX ((chP s l k.toNat).map szB))/\(z=dX ((eL s l (List.range k.toNat)).map wH))/\((o.size:Int)<=4+4398046585379*k)/\((q.size:Int)<=10*k)/\((z.size:Int)<=2200000*k)) y) (cu [.int .i64,.str,.str,.str] (fun(k:Int) (o:ByteArray) (q:ByteArray) (z:ByteArray)=>((s.1.length:Int)-k).toNat)) (cu [.int .i64,.str,.str,.str] (fun(k:Int) (o:ByteArray) (q:ByteArray) (z:ByteArray)=>([]:List (Nat×Nat×LA)))))],?_⟩;repeat' (first
  |(
 with_reducible refine Side.mk ⟨(⟨⟩:Tag 106),?_⟩
 dsimp only[cu,aC,aB,gts,eE,eN]
 refine⟨?_,?_,?_,?_,?_,?_,?_⟩
 ·omega
 ·first
  |exact(FD _).symm
  |(
  have hv:=dC (s:=s) (l:=l) (gZ (by with_reducible assumption))
  have hs:=aX (eH hv).1
  have ec:=qA hv hin (by omega) (k:=k) (by omega)
  obtain⟨c1,c2,c3,c4,c5⟩:=ec
  rw[ho,c1,VN (by omega),tP,tQ,FH (by omega),ByteArray.append_assoc])
 ·first
  |rfl
  |(
  have hv:=dC (s:=s) (l:=l) (gZ (by with_reducible assumption))
  have hs:=aX (eH hv).1
  have ec:=qA hv hin (by omega) (k:=k) (by omega)
  obtain⟨c1,c2,c3,c4,c5⟩:=ec
  have hu:=aN (n:=(((jN s.1[k.toNat]! (fP l k.toNat)).1.size:Nat):Int)) (by omega)
  rw[hq,c1,hu,VN (by omega),List.map_append,tP,List.map_cons,List.map_nil,tQ,FH (by omega)]
  rfl)
 ·first
  |rfl
  |(
  have hv:=dC (s:=s) (l:=l) (gZ (by with_reducible assumption))
  have hs:=aX (eH hv).1
  have ec:=qA hv hin (by omega) (k:=k) (by omega)
  obtain⟨c1,c2,c3,c4,c5⟩:=ec
  rw[hz,c1,EV (by omega),List.map_append,tP,List.map_cons,List.map_nil,tQ])
 ·first
  |exact Int.le_refl _
  |(
  have hv:=dC (s:=s) (l:=l) (gZ (by with_reducible assumption))
  have hs:=aX (eH hv).1
  have ec:=qA hv hin (by omega) (k:=k) (by omega)
  obtain⟨c1,c2,c3,c4,c5⟩:=ec
  rw[c1,ByteArray.size_append]
  omega)
 ·first
  |exact Int.le_refl _
  |(
  have hv:=dC (s:=s) (l:=l) (gZ (by with_reducible assumption))
  have hs:=aX (eH hv).1
  have ec:=qA hv hin (by omega) (k:=k) (by omega)
  obtain⟨c1,c2,c3,c4,c5⟩:=ec
  have hu:=aN (n:=(((jN s.1[k.toNat]! (fP l k.toNat)).1.size:Nat):Int)) (by omega)
  have p1:=bU (((jN s.1[k.toNat]! (fP l k.toNat)).1.size:Nat):Int)
  have p2:=wF c5
  rw[c1,hu,ByteArray.size_append,bS]
  omega)
 ·first
  |exact Int.le_refl _
  |(
  have hv:=dC (s:=s) (l:=l) (gZ (by with_reducible assumption))
  have hs:=aX (eH hv).1
  have ec:=qA hv hin (by omega) (k:=k) (by omega)
  obtain⟨c1,c2,c3,c4,c5⟩:=ec
  have p1:=bU (((jN s.1[k.toNat]! (fP l k.toNat)).1.size:Nat):Int)
  have p2:=wF c5
  rw[c1,ByteArray.size_append]
  omega))
  |(
 with_reducible apply Side.mk
 (try dsimp only[cu,aC,aB,gts,loK,hiK,eE,eN])
 first
 |omega
 |(
  have hv:=dC (s:=s) (l:=l) (gZ (by with_reducible assumption));have hs:=aX (eH hv).1;first
  |omega
  |(
   have ec:=qA hv hin (by omega) (k:=k) (by omega);obtain⟨c1,c2,c3,c4,c5⟩:=ec;first
   |(
    rw[c1];first
    |omega
    |(exact⟨by omega,c3⟩))
   |(
    have p1:=bU (((jN s.1[k.toNat]! (fP l k.toNat)).1.size:Nat):Int);have p2:=wF c5;rw[c1];omega)
   |(
    have hu:=aN (n:=(((jN s.1[k.toNat]! (fP l k.toNat)).1.size:Nat):Int)) (by omega);have p1:=bU (((jN s.1[k.toNat]! (fP l k.toNat)).1.size:Nat):Int);have p2:=wF c5;first
    |(
     rw[c1,hu];omega)
    |(
     rw[c1,hu,bS];omega))
   |(
    rw[c1];exact⟨⟨c5.1.2,c5.2.1.2⟩,⟨c5.2.2.1.2.1,by have:=c5.2.2.1.2.2;omega⟩,⟨c5.2.2.2.2.1,by have:=c5.2.2.2.2.2;omega⟩⟩))
  |(
   have es:=SK hv (by omega);obtain⟨d1,d2,d3⟩:=es;first
   |exact⟨by omega,d2⟩
   |omega
   |(
    have hu:=aN (n:=(((jN ((⟨#[115,101,113]⟩,1,0,false):Col) (iE l)).1.size:Nat):Int)) (by omega);have p1:=bU (((jN ((⟨#[115,101,113]⟩,1,0,false):Col) (iE l)).1.size:Nat):Int);first
    |(
     rw[hu];omega)
    |(
     rw[hu,bS];omega)))
  |(
   have hul:=aN (n:=(l.length:Int)) (by omega);have p3:=bU (l.length:Int);rw[hul];omega)
  |(
   have r1:=iJ hv hin (j:=(0:Int).toNat) (by omega);have r2:=iJ hv hin (j:=((l.length:Int)-1).toNat) (by omega);have z1:=mR r1;have z2:=mR r2;first
   |exact⟨⟨r1.2.2.1,r1.2.2.2⟩,r1.1.2.1,by have:=r1.1.2.2;omega⟩
   |(exact⟨⟨r2.2.2.1,r2.2.2.2⟩,r2.1.2.1,by have:=r2.1.2.2;omega⟩))
  |(
   have hul:=aN (n:=(l.length:Int)) (by omega);have p3:=bU (l.length:Int);have hv:=dC (s:=s) (l:=l) (gZ (by with_reducible assumption));have hs:=aX (eH hv).1;have es:=SK hv (by omega);obtain⟨d1,d2,d3⟩:=es;have hu:=aN (n:=(((jN ((⟨#[115,101,113]⟩,1,0,false):Col) (iE l)).1.size:Nat):Int)) (by omega);have p1:=bU (((jN ((⟨#[115,101,113]⟩,1,0,false):Col) (iE l)).1.size:Nat):Int);have r1:=iJ hv hin (j:=(0:Int).toNat) (by omega);have r2:=iJ hv hin (j:=((l.length:Int)-1).toNat) (by omega);have z1:=mR r1;have z2:=mR r2;have f4:∀v,(four v).length=4:=fun _=>rfl
   have u9:(⟨#[77,80,84,49]⟩:ByteArray).size=4:=rfl;simp only[ByteArray.size_append,bS,hu,hul,f4];omega)
  |(
   have ec:=qA hv hin (by omega) (k:=k) (by omega);obtain⟨c1,c2,c3,c4,c5⟩:=ec;have:=(tS (l:=l) (n:=(s.1.length:Int)) ⟨by omega,by omega⟩).1;omega)))
  |(conv=>whnf
    first
     |with_reducible first|done|exact trivial|refine NilBr.mk (fun h=>?_) ?_|apply aI|apply aH|refine aJ (by kernel_rfl) ?_|apply aK|apply bE|apply bD|apply aQ
     |((with_reducible first|apply aS|apply aR|apply bB)<;>intro h<;>(try dsimp only[cu,eE,eN]at h)<;>(try(exfalso;omega)))
     |(
 intro yy (hy:Tag 106/\_)
 obtain⟨(k:Int),(o:ByteArray),(q:ByteArray),(z:ByteArray),_⟩:=yy
 replace hy:=hy.2
 dsimp only[cu,aC,aB,gts,eE,eN]at hy
 obtain⟨hk,ho,hq,hz,hzo,hzq,hzz⟩:=hy)))
 all_goals(
 with_reducible apply Leaf.mk
 (try dsimp only[cu,aC,aB,gts,eE,eN]at *)
 first
 |rw[qZZ (by with_reducible assumption)]
 |rw[qZ0 (by with_reducible assumption) (by omega)]
 |rw[qVO (by with_reducible assumption) (by omega) (.inl (by omega))]
 |rw[qVO (by with_reducible assumption) (by omega) (.inr (FB (by with_reducible assumption)))]
 |(
  have hv:=dC (s:=s) (l:=l) (gZ (by with_reducible assumption));have hs:=aX (eH hv).1;have hul:=aN (n:=(l.length:Int)) (by omega);have p3:=bU (l.length:Int);have hv:=dC (s:=s) (l:=l) (gZ (by with_reducible assumption));have hs:=aX (eH hv).1;have es:=SK hv (by omega);obtain⟨d1,d2,d3⟩:=es;have hu:=aN (n:=(((jN ((⟨#[115,101,113]⟩,1,0,false):Col) (iE l)).1.size:Nat):Int)) (by omega);have p1:=bU (((jN ((⟨#[115,101,113]⟩,1,0,false):Col) (iE l)).1.size:Nat):Int);have r1:=iJ hv hin (j:=(0:Int).toNat) (by omega);have r2:=iJ hv hin (j:=((l.length:Int)-1).toNat) (by omega);have z1:=mR r1;have z2:=mR r2;have f4:∀v,(four v).length=4:=fun _=>rfl
  have u9:(⟨#[77,80,84,49]⟩:ByteArray).size=4:=rfl;have hk2:k.toNat=s.1.length:=by omega
  rw[hk2]at ho hq hz;have hf:iC s l=bH (four (idS s).1)++bH (put (l.length:Int))++(q++bH (put (((jN ((⟨#[115,101,113]⟩,1,0,false):Col) (iE l)).1.size:Nat):Int)))++z++eV (eX s l[(0:Int).toNat]!)++eV (eX s l[((l.length:Int)-1).toNat]!):=by
   rw[iC,OK,List.map_append,tP,List.map_cons,List.map_nil,tQ,<-hq,<-hz,JN (eH hv).1,show((l.length:Int)-1).toNat=l.length-1 by omega];rfl
  have hfs:((cG (iC s l)).size:Int)<4294967296:=by
   rw[mI,hf];simp only[ByteArray.size_append,bS,f4];omega
  rw[qVP (by with_reducible assumption) (by omega) (by omega) (gZ (by with_reducible assumption))];rw[hu,hul,<-hf];show o++(jN ((⟨#[115,101,113]⟩,1,0,false):Col) (iE l)).1++cG (iC s l)++bH (four (IntKind.u32.wrap ((cG (iC s l)).size:Int)))++fC=eZ (dX (chnks s l)) (cG (iC s l));rw[KX ⟨by omega,hfs⟩,ho,OK,tP,tQ,eZ];simp only[ByteArray.append_assoc])
 |(rw[qVP (by with_reducible assumption) (by omega) (by omega) (gZ (by with_reducible assumption))]))
abbrev qXM:Tbl:=(14,HQ)::qXL
theorem qA0:aD Tryz.prog qXM:=aD.cons qPT qAZ
theorem qFH {c:Col} {v:Val} (hc:c.2.1=1) (hn:v.1=false) (hv:bN c v=0) (hi:inI v.2.1) (hz:v.2.2=⟨#[]⟩):nH c (fE 1 1 [v])=([v],0):=by
 have hsome:jA [v]= [v]:=by simp [jA,hn]
 have hB:(aU (qK 1 1 [v])).drop 0=1::(put 1++(put 0++(put (gP v.2.1)++ []))):=by
  rw[List.drop_zero,IV (by rw[hsome];exact Nat.lt_irrefl _),hsome,zP,hsome];show aU (((bH [IntKind.u8.wrap 1]++bH (put 1))++bH (put 0))++(plV 1 v++ByteArray.empty))=_;rw[ByteArray.append_empty,plV,if_neg (by decide),cD,cD,cD,bW (fun b hb=>by rw[List.mem_singleton.1 hb];exact qH 1),bW (mP ⟨by decide,by decide⟩),bW (mP ⟨by decide,by decide⟩),bW (mP (oI hi)),List.append_nil,qIM ⟨by decide,by decide⟩];simp only[List.append_assoc,List.singleton_append,List.cons_append,List.nil_append]
 have hsz:=(EB (t:=1) (k:=1) (l:=[v]) (fun x hx=>by rw[List.mem_singleton.1 hx];exact fK hv hi) (by simp)).2;obtain⟨o1,o2⟩:=qKG hsz;generalize hBB:qK 1 1 [v]=B at *;obtain⟨b1,d1,_⟩:=rV hB;obtain⟨g1,g2,_⟩:=mO (u:=1) ⟨by decide,by decide⟩ d1;obtain⟨k1,k2,k3⟩:=mO (u:=0) ⟨by decide,by decide⟩ g2;rw[show((0+1:Nat):Int)=1 from rfl]at g1;generalize hA:0+1+(put 1).length+(put 0).length=A at k1 k2 k3;have hP:aU (B.extract A B.size)=put (gP v.2.1):=by
  rw[JQ,k2,List.append_nil];have:=congrArg List.length k2;simp only[List.length_drop,bX,List.append_nil]at this;rw[List.take_of_length_le (by omega)]
 generalize hPP:B.extract A B.size=P at hP;obtain⟨p1,p2,p3⟩:=mO (s:=P) (a:=0) (r:=[]) (oI hi) (by rw[List.drop_zero,hP,List.append_nil]);have pl:=congrArg List.length p2;simp only[List.length_drop,bX,List.length_nil]at pl;have hus:cH c.2.1 (aE B (0:Int).toNat)=true:=by
  rw[show aE B (0:Int).toNat=1 from b1,show c.2.1=1 from hc];rfl
 have e1:(aA B 1).2.1=((0+1+(put 1).length:Nat):Int):=by rw[g1]
 have e2:aA B (aA B 1).2.1=(0,(A:Int),0):=by rw[e1,k1]
 have hp:=RR (c:=c) hus (by rw[g1]) (by rw[g1];decide) (by rw[e2]) (by rw[e2,g1];show(0:Int)<=1;decide);have hr:eP c.2.1 (aE B (0:Int).toNat) (B.extract ((A:Int)).toNat B.size) (1-0)=([v],true):=by
  rw[show aE B (0:Int).toNat=1 from b1,qVU rfl,Int.toNat_natCast,hPP];show jU c.2.1 P 1 0 []=_;rw[jU,show(0:Int)=((0:Nat):Int)from rfl,p1,if_neg (fun q=>q rfl),if_neg (by rw[show c.2.1=1 from hc];decide),jU];refine Prod.ext ?_ (decide_eq_true (by simp only;omega));simp only[qIV,List.nil_append];obtain⟨x,y,z⟩:=v;(try simp only at hn hz);subst hn hz;rfl
 have hb:lL c B=([v],true):=by
  rw[hp,e2,g1];show GN c B 1 0 (cU B (A:Int) 1 0)=_;rw[lO (by decide),UU (by rw[hr]),hr];show asm c [false] [v] []=_;have q1:pkV false [v]=v:=rfl;rw[asm,q1,if_neg (fun q=>q hv)];rfl
 rw[fE,hBB,qB6 (by rw[show c.2.1=1 from hc];rfl) o1 (by rw[o2,hb]),o2,hb]
theorem qEO {c:Col} {v:Val} (hc:c.2.1=1) (hn:v.1=false) (hv:bN c v=0) (hi:inI v.2.1):jN c [v]=(fE 1 1 [v],0):=by
 have hsome:jA [v]= [v]:=by simp [jA,hn]
 have hok:∀x,x∈ [v]->okV x:=fun x hx=>by rw[List.mem_singleton.1 hx];exact fK hv hi
 have hz:∀k,(fE 1 k [v]).size=1+(put 1).length+(put 0).length+(sJ 1 k [v]).size+4:=fun k=>by
  rw[fE,mI,IV (by rw[hsome];exact Nat.lt_irrefl _),hsome,zP,hsome];show((bH [IntKind.u8.wrap k]++bH (put 1))++bH (put 0)++sJ 1 k [v]).size+4=_;simp only[ByteArray.size_append,bS,List.length_cons,List.length_nil]
 have s1:(sJ 1 1 [v]).size=(put (gP v.2.1)).length:=by
  show(plV 1 v++ByteArray.empty).size=_;rw[ByteArray.append_empty,plV,if_neg (by decide),bS]
 have s2:(put (gP v.2.1)).length<=(sJ 1 2 [v]).size:=by
  show _<=(bH (SI (runs [v.2.1]))).size;rw[bS,runs,SI];simp only[List.length_append];omega
 have s4:(put (gP v.2.1)).length<=(sJ 1 4 [v]).size:=by
  show _<=(kZ [v.2.1]).size;rw[kZ,if_neg (by simp),ByteArray.size_append,bS];show(put (gP v.2.1)).length<=(put (gP v.2.1)).length+_;omega
 have hne:∀k,¬(fE 1 1 [v]=⟨#[]⟩\/(fE 1 k [v]).size<(fE 1 1 [v]).size)\/(sJ 1 k [v]).size<(sJ 1 1 [v]).size:=fun k=>by
  rw[hz k,hz 1];by_cases q:(sJ 1 k [v]).size<(sJ 1 1 [v]).size
  ·exact .inr q
  ·refine .inl ?_
   rintro(p|p)
   ·have:=hz 1
    rw[p]at this;have e:(⟨#[]⟩:ByteArray).size=0:=rfl;omega
   ·omega
 have n2:=(hne 2).resolve_right (by omega);have n4:=(hne 4).resolve_right (by omega);have hch:kE c [v]=0:=by rw[kE,if_neg (fun q=>q hv)];rfl
 rw[jN,show c.2.1=1 from hc,if_neg (by decide),if_neg (show ¬ [v].length>4096 by simp),if_neg (fun q=>q hch)];refine Prod.ext ?_ rfl;show bst 1 [v] 4 1 ⟨#[]⟩=_;rw[bst,if_pos (show cH 1 1=true from rfl),if_pos (.inl rfl),bst,if_pos (show cH 1 (1+1)=true from rfl),show(1:Int)+1=2 from rfl,if_neg n2,bst,if_neg (show ¬cH 1 (2+1)=true by decide),show(2:Int)+1=3 from rfl,bst,if_pos (show cH 1 (3+1)=true from rfl),show(3:Int)+1=4 from rfl,if_neg n4,bst]
def pA:Schema:=([(⟨#[97]⟩,1,0,false)],0)
def rC:List Rec:=[(4,[(false,7,⟨#[]⟩)])]
theorem TL:∃p:Schema×List Rec,p=(pA,rC):=⟨_,rfl⟩
noncomputable def qKE:Schema:=(Classical.choose TL).1
noncomputable def qKD:List Rec:=(Classical.choose TL).2
theorem qFG:qKE=pA:=by rw[qKE,Classical.choose_spec TL]
theorem AC:qKD=rC:=by rw[qKD,Classical.choose_spec TL]
theorem qDJ {l:List Rec} {m:Nat} (h:∀r,r∈l->r.2.length<=m) (i:Nat):(l[i]!).2.length<=m:=by
 by_cases q:i<l.length
 ·rw[getElem!_pos l i q];exact h _ (List.getElem_mem q)
 ·rw[getElem!_neg l i q];exact Nat.zero_le _
theorem qT1 (i:Nat):(rC[i]!).2.length<=1099511627776:=qDJ (fun r hr=>by
 rw[rC,List.mem_singleton]at hr;subst hr;show 1<=1099511627776;decide) i
theorem sH:yE rC:=by
 intro r hr v hv;rw[rC,List.mem_singleton]at hr;subst hr;rw[List.mem_singleton]at hv;subst hv;unfold inI;decide
theorem xU:cQ pA rC=true:=by kernel_rfl
theorem WY:Made pA rC:=by
 have hv:=dC xU;refine⟨(eH hv).1,by decide,?_,?_,iJ hv sH (by decide),iJ hv sH (by decide),by decide⟩
 ·intro c hc
  obtain⟨i,hi,rfl⟩:=List.mem_map.1 hc;rw[List.mem_range]at hi;rcases Nat.lt_or_ge i pA.1.length with q|q
  ·rw[FH q];exact vK (by rw[oU];decide) fun v h=>fK (uW hv sH q v h).1 (uW hv sH q v h).2
  ·have:i=pA.1.length:=by omega
   subst this;rw[IT];exact vK (by decide) fun v h=>fK (KM hv v h).1 (KM hv v h).2
 ·intro i hi
  have:i=0:=by have:pA.1.length=1:=rfl;omega
  subst this;refine⟨CS (by decide) fun v h=>FO (uW hv sH (by decide) v h),by kernel_rfl⟩
theorem qC7:∀i:Nat,i<pA.1.length+1->nH (lM pA i) (chnk pA rC i)=(zG pA rC i,0):=by
 intro i hi;have hl:pA.1.length=1:=rfl;rcases(show i=0\/i=1 by omega)with rfl|rfl
 ·show nH (⟨#[97]⟩,1,0,false) (jN (⟨#[97]⟩,1,0,false) [(false,7,⟨#[]⟩)]).1=([(false,7,⟨#[]⟩)],0)
  rw[qEO rfl rfl rfl (by unfold inI;decide)];exact qFH rfl rfl rfl (by unfold inI;decide) rfl
 ·show nH xW (jN xW [(false,4,⟨#[]⟩)]).1=([(false,4,⟨#[]⟩)],0)
  rw[qEO rfl rfl rfl (by unfold inI;decide)];exact qFH rfl rfl rfl (by unfold inI;decide) rfl
theorem qFI:(lX qKE qKD).2=0/\iP qKE (lX qKE qKD).1=(qKD,0):=by
 rw[qFG,AC];have he:lX pA rC=(dZ pA rC,0):=by
  rw[lX,if_neg (fun q=>q WY.sch),if_neg (by decide),if_neg];rintro(q|q)
  ·cases q
  ·rw[xU]at q;cases q
 rw[he];exact⟨rfl,qKO WY xU qC7⟩
theorem JG {s:Schema} {l:List Rec} (hs:cQ s l=true) (hi:yE l) (hl:l.length<=1024) (hl0:l.length≠0):(dX (chnks s l)).size<=57174605609927/\8<=(iC s l).size/\(iC s l).size<=40000000:=by
 have hv:=dC hs;have hsc:=aX (eH hv).1;have hm:∀c,c∈chnks s l->c.size<=4398046585379:=fun c hc=>by
  obtain⟨i,hr,rfl⟩:=List.mem_map.1 hc;rw[List.mem_range]at hr;rcases Nat.lt_or_ge i s.1.length with q|q
  ·rw[FH q];exact vK (by rw[oU];omega) fun v h=>fK (uW hv hi q v h).1 (uW hv hi q v h).2
  ·have:i=s.1.length:=by omega
   subst this;rw[IT];exact vK (by simp [iE];omega) fun v h=>fK (KM hv v h).1 (KM hv v h).2
 have h4:=vF hm;rw[kK]at h4;have hz:∀b,b∈(eL s l (List.range s.1.length)).map wH->b.size<=2200000:=fun b hb=>by
  obtain⟨z,hz,rfl⟩:=List.mem_map.1 hb;obtain⟨i,hr,rfl⟩:=List.mem_map.1 hz;rw[List.mem_range]at hr;exact wF (CS (by rw[oU];omega) fun v h=>FO (uW hv hi hr v h))
 have h5:=vF hz;rw[List.length_map,eL,List.length_map,List.length_range]at h5;have h6:(dX ((chnks s l).map szB)).size<=10*((chnks s l).map szB).length:=vF fun b hb=>by
  obtain⟨c,_,rfl⟩:=List.mem_map.1 hb;rw[szB,bS];exact(bU _).1
 rw[List.length_map,kK]at h6;have r1:=mR (iJ hv hi (j:=0) (by omega));have r2:=mR (iJ hv hi (j:=l.length-1) (by omega));have p1:=bU (l.length:Int);have f4:(four (iQ (tZ s))).length=4:=rfl;unfold iC;simp only[ByteArray.size_append,bS,eL]at h5 ⊢;omega
theorem OV (s:Schema) (l:List Rec):(lX s l).1=⟨#[]⟩/\(lX s l).2≠0\/lX s l=(dZ s l,0)/\cQ s l=true/\l.length<=1024/\l.length≠0:=by
 unfold lX;split
 ·rename_i h;exact .inl ⟨rfl,h⟩
 split
 ·exact .inl ⟨rfl,by decide⟩
 split
 ·exact .inl ⟨rfl,by decide⟩
 rename_i h1 h2 h3;refine .inr ⟨rfl,?_,by omega,fun q=>h3 (.inl q)⟩;cases q:cQ s l with
 |true=>rfl
 |false=>exact absurd (.inr q) h3
theorem zL {s:Schema} {l:List Rec} (hi:yE l):(lX s l).1.size<=288230376151711000:=by
 rcases OV s l with⟨h,_⟩|⟨h,h1,h2,h3⟩
 ·rw[h];exact Nat.zero_le _
 ·have p:=JG h1 hi h2 h3
  rw[h];show(dZ s l).size<=_;rw[dZ,rN,mI];omega
theorem WE {s:Schema} {l:List Rec} (hi:yE l) (h:(lX s l).2=0):12<=(lX s l).1.size/\12<=bQ (lX s l).1 ((lX s l).1.size-8)/\bQ (lX s l).1 ((lX s l).1.size-8)<=(lX s l).1.size-12:=by
 rcases OV s l with⟨_,h0⟩|⟨h0,h1,h2,h3⟩
 ·exact absurd h h0
 ·have p:=JG h1 hi h2 h3
  have hz:=mI (iC s l);obtain⟨_,_,f3,_⟩:=LG (C:=dX (chnks s l)) (F:=cG (iC s l)) (by omega);have hw:=rN (dX (chnks s l)) (cG (iC s l));rw[h0];show 12<=(dZ s l).size/\12<=bQ (dZ s l) ((dZ s l).size-8)/\bQ (dZ s l) ((dZ s l).size-8)<=(dZ s l).size-12;rw[dZ,f3];omega
def sM:Nat->Int->Src->Schema->List Rec
 |0,_,_,_=>[]
 |n+1,m,q,x=>((m,(fG x.1 q).1):Rec)::sM n (m+(1+Src.pick (fG x.1 q).2 3)) (Src.next (fG x.1 q).2) x
theorem XY {k m:Int} {q:Src} {x:Schema} (h:0<k):sM k.toNat m q x=((m,(fG x.1 q).1):Rec)::sM (k-1).toNat (m+(1+Src.pick (fG x.1 q).2 3)) (Src.next (fG x.1 q).2) x:=by
 rw[show k.toNat=(k-1).toNat+1 by omega];rfl
def WS (x:Schema) (l:List Int) (n:Int):List Rec:=sM (Src.pick (Src.next (l,0)) (n+1)).toNat (Src.pick (l,0) 5) (Src.next (Src.next (l,0))) x
def xB (x:Schema) (l:List Int) (n:Int):List Rec:=EP x (WS x l n)
theorem PL:∀(cs:List Col) (q:Src),nE q->(∀v,v∈(fG cs q).1->inI v.2.1)/\nE (fG cs q).2
 | [],q,h=>⟨(fun v hv=>by cases hv),h⟩
 |c::cs,q,h=>by
  have h1:=qJ7 c h;have h2:=PL cs _ h1.2;refine⟨fun v hv=>?_,h2.2⟩;rcases List.mem_cons.1 hv with e|e
  ·rw[e];exact h1.1.2
  ·exact h2.1 v e
theorem QK:∀(n:Nat) (m:Int) (q:Src) (x:Schema),nE q->yE (sM n m q x)
 |0,_,_,_,_,r,hr=>by cases hr
 |n+1,m,q,x,h,r,hr=>by
  have h1:=PL x.1 q h;rcases List.mem_cons.1 hr with e|e
  ·rw[e];exact h1.1
  ·exact QK n _ _ x (jB h1.2) r e
theorem qQH {s:Schema} {l:List Rec}:∀r,r∈EP s l->r∈l:=by
 unfold EP;split;case isFalse=>intro r hr;cases hr
 have go:∀(l o:List Rec) (r:Rec),r∈l.foldl (kT s) o->r∈o\/r∈l:=by
  intro l;induction l with
  |nil=>intro o r h;exact .inl h
  |cons x l ih=>
   intro o r h;rcases ih _ r h with q|q
   ·unfold kT at q
    simp only[List.mem_append,List.mem_singleton]at q;rcases q with(q|q)|q
    ·exact .inl (List.mem_of_mem_take q)
    ·exact .inr (by rw[q];exact List.mem_cons_self ..)
    ·exact .inl (List.mem_of_mem_drop q)
   ·exact .inr (List.mem_cons_of_mem _ q)
 intro r hr;rcases go l [] r hr with q|q
 ·cases q
 ·exact q
theorem qQG {s:Schema} {l:List Rec}:(EP s l).length<=l.length:=by
 unfold EP;split
 ·have go:∀(l o:List Rec),(l.foldl (kT s) o).length=o.length+l.length:=by
    intro l;induction l with
    |nil=>intro o;rfl
    |cons x l ih=>intro o;rw[List.foldl_cons,ih,JP,List.length_cons];omega
  rw[go];simp
 ·exact Nat.zero_le _
theorem KI:∀(n:Nat) (m:Int) (q:Src) (x:Schema),(sM n m q x).length=n
 |0,_,_,_=>rfl
 |n+1,m,q,x=>by rw[sM,List.length_cons,KI n]
theorem zT {x:Schema} {l:List Int} {n:Int} (h:∀v,v∈l->inI v):yE (xB x l n):=fun r hr=>QK _ _ _ _ (jB (jB (show nE (l,0)from h))) r (qQH r hr)
theorem vP {x:Schema} {l:List Int} {n:Int} (h:0<=n/\n<=1000):((xB x l n).length:Int)<=n:=by
 have h1:=qQG (s:=x) (l:=WS x l n);have h2:(WS x l n).length=_:=KI _ _ _ _;have h3:=Src.pick_lt (s:=Src.next (l,0)) (n:=n+1) (by omega);have h4:(xB x l n).length<=(WS x l n).length:=h1;omega
abbrev GZ:Ct:=.fn [bM,.list (.int .i64),.int .i64] (some (fun(x:Schema) (l:List Int) (n:Int)=>(x.1.length<=1000)/\(l.length<=4611686018427387904)/\(0<=n/\n<=1000))) (fun(x:Schema) (l:List Int) (n:Int)=>.d (.list eF) (xB x l n))
theorem qOG:aF Tryz.prog 15 GZ:=by
 refine aF.fn qA0 mixed [] [] rfl rfl ?_;rintro⟨(x:Schema),(l:List Int),(n:Int),_⟩ hpre;replace hpre:=hpre _ rfl;dsimp only[cu]at hpre;obtain⟨hx,hl0,hn⟩:=hpre;have hp0:=Src.pick_lt (s:=(l,0)) (n:=5) (by omega);have hp1:=Src.pick_lt (s:=Src.next (l,0)) (n:=n+1) (by omega);refine⟨[(0,10,LA.mk [.sl 10 (.int .i64),.sl 9 (.int .i64),.lst 8 eF 56,.ob 1 pS 124] (fun y=>Tag 107/\cu [.int .i64,.int .i64,.list eF,pS] (fun(k:Int) (m:Int) (M:List Rec) (q:Src)=>(0<=k/\k<=1001)/\(Src.ok q)/\(WS x l n=M++sM k.toNat m q x)/\((M.length:Int)<=1001-k)/\(0<=m/\m<=5+4*(1001-k))) y) (cu [.int .i64,.int .i64,.list eF,pS] (fun(k:Int) (m:Int) (M:List Rec) (q:Src)=>k.toNat)) (cu [.int .i64,.int .i64,.list eF,pS] (fun(k:Int) (m:Int) (M:List Rec) (q:Src)=>([]:List (Nat×Nat×LA)))))],?_⟩;repeat' (first
  |(
 with_reducible refine Side.mk ⟨(⟨⟩:Tag 107),?_⟩
 dsimp only[cu,aC,aB,gts,eE,eN]
 refine⟨?_,?_,?_,?_,?_⟩
 ·omega
 ·(repeat (first|assumption|exact Src.ok_from (by omega)|apply Src.ok_next|apply iG|apply qY))
 ·first
  |rfl
  |(
  rw[hm,XY (by omega),List.append_assoc]
  rfl)
 ·first
  |simp only[List.length_nil];omega
  |simp only[List.length_append,List.length_cons,List.length_nil];omega
 ·first
  |omega
  |(
  have:=Src.pick_lt (s:=(fG x.1 q).2) (n:=3) (by decide)
  omega))
  |(
 with_reducible apply Side.mk
 (try dsimp only[cu,aC,aB,gts,loK,hiK,eE,eN])
 first
 |done
 |omega
 |exact Eq.refl _
 |simp only[List.length_append,List.length_cons,List.length_nil];omega
 |(
  refine⟨?_,by first|decide|exact UD (by omega)⟩
  (repeat (first|assumption|exact Src.ok_from (by omega)|apply Src.ok_next|apply iG|apply qY));done)
 |exact⟨by(repeat (first|assumption|exact Src.ok_from (by omega)|apply Src.ok_next|apply iG|apply qY)),by assumption⟩
 |(have:=Src.pick_lt (s:=(fG x.1 q).2) (n:=3) (by decide);omega))
  |(conv=>whnf
    first
     |with_reducible first|done|exact trivial|refine NilBr.mk (fun h=>?_) ?_|apply aI|apply aH|refine aJ (by kernel_rfl) ?_|apply aK|apply bE|apply bD|apply aQ
     |((with_reducible first|apply aS|apply aR|apply bB)<;>intro h<;>(try dsimp only[cu,eE,eN]at h)<;>(try(exfalso;omega)))
     |(
 intro yy (hy:Tag 107/\_)
 obtain⟨(k:Int),(m:Int),(M:List Rec),(q:Src),_⟩:=yy
 replace hy:=hy.2
 dsimp only[cu,aC,aB,gts,eE,eN]at hy
 obtain⟨hk,hq,hm,hml,hmb⟩:=hy)))
 all_goals(
 with_reducible apply Leaf.mk
 (try dsimp only[cu,aC,aB,gts,eE,eN]at *)
 rw[xB,hm,show k.toNat=0 by omega,sM,List.append_nil])
abbrev qXN:Tbl:=(15,GZ)::qXM
theorem qA1:aD Tryz.prog qXN:=aD.cons qOG qA0
abbrev BT:Ct:=.fn [] (none) (.tup [bM,.list eF] (pA,rC,()))
theorem qFF:aF Tryz.prog 25 BT:=by
 refine aF.fn qA1 mixed [] [] rfl rfl ?_;rintro⟨⟩ -;refine⟨[],?_⟩;repeat' (first
  |(
 with_reducible apply Side.mk
 (try dsimp only[cu,aC,aB,gts,loK,hiK,eE,eN])
 exact Eq.refl _)
  |(conv=>whnf
    first
     |with_reducible first|done|exact trivial|refine NilBr.mk (fun h=>?_) ?_|apply aI|apply aH|refine aJ (by kernel_rfl) ?_|apply aK|apply bE|apply bD|apply aQ
     |((with_reducible first|apply aS|apply aR|apply bB)<;>intro h<;>(try dsimp only[cu,eE,eN]at h)<;>(try(exfalso;omega)))))
 all_goals(
 with_reducible apply Leaf.mk
 (try dsimp only[cu,aC,aB,gts,eE,eN]at *)
 rfl)
abbrev qXO:Tbl:=(25,BT)::qXN
theorem qQT:aD Tryz.prog qXO:=aD.cons qFF qA1
noncomputable section
abbrev yR:Ct:=.fn [] (none) (.tup [bM,.list eF] (qKE,qKD,()))
theorem qYV:aF Tryz.prog 25 yR:=by
 have e:yR=BT:=by rw[yR,qFG,AC]
 rw[e];exact qFF
abbrev qXP:Tbl:=(25,yR)::qXO
theorem qA2:aD Tryz.prog qXP:=aD.cons qYV qQT
abbrev GR:Ct:=.fn [] (none) (.d .bool true)
theorem qMI:aF Tryz.prog 16 GR:=by
 refine aF.fn qA2 mixed [] [] rfl rfl ?_;rintro⟨⟩ -;refine⟨[],?_⟩;repeat' (first
  |(
 with_reducible apply Side.mk
 (try dsimp only[cu,aC,aB,gts,loK,hiK,eE,eN])
 first
 |(
  rw[AC];exact⟨by decide,sH⟩)
 |exact Nat.le_trans (zL (by rw[AC];exact sH)) (by decide)
 |(
  obtain⟨w1,w2⟩:=qFI;have w3:=congrArg Prod.fst w2;have w4:=congrArg Prod.snd w2;dsimp only at w3 w4;rw[w3,AC];exact⟨by decide,fun i=>qT1 i⟩))
  |(conv=>whnf
    first
     |with_reducible first|done|exact trivial|refine NilBr.mk (fun h=>?_) ?_|apply aI|apply aH|refine aJ (by kernel_rfl) ?_|apply aK|apply bE|apply bD|apply aQ
     |((with_reducible first|apply aS|apply aR|apply bB)<;>intro h<;>(try dsimp only[cu,eE,eN]at h)<;>(try(exfalso;omega)))))
 all_goals(
 with_reducible apply Leaf.mk
 (try dsimp only[cu,aC,aB,gts,eE,eN]at *)
 first
 |(
  obtain⟨w1,w2⟩:=qFI;have w3:=congrArg Prod.fst w2;have w4:=congrArg Prod.snd w2;dsimp only at w3 w4;first
  |(
   rw[w3];exact decide_eq_true rfl)
  |(exact absurd w4 (by with_reducible assumption))))
abbrev qXQ:Tbl:=(16,GR)::qXP
theorem qA3:aD Tryz.prog qXQ:=aD.cons qMI qA2
theorem PK:∀(n:Nat) (s:Src) (acc:List Col),(uG n s acc).1.length=acc.length+n
 |0,s,acc=>rfl
 |n+1,s,acc=>by rw[uG,PK n];simp;omega
theorem dT (l:List Int):1<=(dO l).1.length/\(dO l).1.length<=4:=by
 have h:=Src.pick_lt (s:=(l,0)) (n:=4) (by decide);have e:(dO l).1.length=0+(1+Src.pick (l,0) 4).toNat:=PK _ _ [];omega
theorem qRA (s:Schema) (f:ByteArray) (n i:Int) (l:List Int):(dP s f n l i).1.length<=4096:=by
 unfold dP;split
 ·exact Nat.zero_le _
 split
 ·exact Nat.zero_le _
 ·exact qR9 _ _
theorem qJR (s:Schema) (f:ByteArray) (i:Int):(bZ s f i).1.length<=4096:=by
 unfold bZ xL;split
 ·exact Nat.zero_le _
 split
 ·exact Nat.zero_le _
 ·exact qRA _ _ _ _ _
theorem qIX {rows:Int}:∀(cs:List Col) (z:List Zone) (r:Fr),(znF rows cs z r).1.length=z.length+cs.length
 | [],z,r=>rfl
 |c::cs,z,r=>by rw[znF,qIX cs];simp;omega
theorem qST (s:Schema) (f:ByteArray):(aV s f).1.2.1.length<=12:=by
 unfold aV;split
 ·exact Nat.zero_le _
 rename_i h;split
 ·exact Nat.zero_le _
 unfold JI;split
 ·exact Nat.zero_le _
 split
 ·exact Nat.zero_le _
 unfold nR;split
 ·exact Nat.zero_le _
 split
 ·exact Nat.zero_le _
 unfold xD pP0 pP1 pP2 pP3;split
 ·exact Nat.zero_le _
 ·show(znF _ s.1 [] _).1.length<=12
  rw[qIX];have:=(aX (Decidable.not_not.1 h)).1;simp only[List.length_nil];omega
theorem qUC (s:Schema) (f:ByteArray):(iP s f).1.length<=1024/\∀i:Nat,((iP s f).1[i]!).2.length<=1099511627776:=by
 have emp:([]:List Rec).length<=1024/\∀i:Nat,(([]:List Rec)[i]!).2.length<=1099511627776:=⟨Nat.zero_le _,qDJ (fun r h=>by cases h)⟩
 unfold iP nA;split
 ·exact emp
 split
 ·exact emp
 rename_i h1 h2;have hfo:=(cA s f).2.2 (Decidable.not_not.1 h1);have hsc:=aX hfo.2.2.2.2.2;unfold rF;split
 ·exact emp
 split
 ·exact emp
 refine⟨?_,qDJ fun r hr=>?_⟩
 ·show(CI s f (aV s f)).length<=1024
  rw[CI,fZ];omega
 ·obtain⟨j,_,rfl⟩:=List.mem_map.1 hr
  have:=CH (chL s f (aV s f)) s.1.length (s.1.length+1) 0 j;omega
def qRZ (t:ByteArray) (i b:Int):ByteArray:=t.extract 0 i.toNat++bH [b]++t.extract (i+1).toNat t.size
def qaM (f:ByteArray) (a b:Int) (t:ByteArray):ByteArray:=qRZ t (pick a t.size) b
def qaL (f:ByteArray) (k:Int) (t:ByteArray):ByteArray:=f.extract 0 k.toNat++t++bH (four (iQ t))++f.extract ((f.size:Int)-8).toNat f.size
def qY8 (f:ByteArray) (a b:Int):ByteArray:=qaL f ((f.size:Int)-8-bQ f ((f.size:Int)-8)) (qaM f a b (f.extract ((f.size:Int)-8-bQ f ((f.size:Int)-8)).toNat ((f.size:Int)-12).toNat))
theorem TJ (b:Int):(bH [b]).size=1:=rfl
theorem qX2 {t:ByteArray} {i b:Int} (h:0<=i/\i<t.size):(qRZ t i b).size=t.size:=by
 unfold qRZ;simp only[ByteArray.size_append,ByteArray.size_extract,TJ];omega
theorem qY9 {f:ByteArray} {a b:Int} (h:12<=f.size) (h1:12<=bQ f ((f.size:Int)-8)) (h2:bQ f ((f.size:Int)-8)<=f.size-12) (hm:f.size<=288230376151711000):(qY8 f a b).size<=288230376151711744:=by
 unfold qY8 qaL qaM;have ht:((f.extract ((f.size:Int)-8-bQ f ((f.size:Int)-8)).toNat ((f.size:Int)-12).toNat).size:Int)=bQ f ((f.size:Int)-8)-4:=by rw[ByteArray.size_extract];omega
 have hp:=pick_lt (v:=a) (n:=((f.extract ((f.size:Int)-8-bQ f ((f.size:Int)-8)).toNat ((f.size:Int)-12).toNat).size:Int)) (by omega);have hc:=qX2 (b:=b) hp;have f4:=mC (iQ (qRZ (f.extract ((f.size:Int)-8-bQ f ((f.size:Int)-8)).toNat ((f.size:Int)-12).toNat) (pick a (f.extract ((f.size:Int)-8-bQ f ((f.size:Int)-8)).toNat ((f.size:Int)-12).toNat).size) b));simp only[ByteArray.size_append,hc,f4];simp only[ByteArray.size_extract];omega
abbrev HN:Ct:=.fn [bM,.str] (some (fun(s:Schema) (f:ByteArray)=>(f.size<=288230376151711744)/\(s.1.length<=4611686018427387904))) (fun(s:Schema) (f:ByteArray)=>.d .bool true)
theorem qPO:aF Tryz.prog 23 HN:=by
 refine aF.fn qA3 mixed [] [] rfl rfl ?_;rintro⟨(s:Schema),(f:ByteArray),_⟩ hpre;replace hpre:=hpre _ rfl;dsimp only[cu]at hpre;obtain⟨hs,hcl⟩:=hpre;refine⟨[(0,12,LA.mk [.sl 9 (.int .i64)] (fun y=>Tag 108/\cu [.int .i64] (fun(i:Int)=>(-1<=i/\i<=6)) y) (cu [.int .i64] (fun(i:Int)=>(6-i).toNat)) (cu [.int .i64] (fun(i:Int)=>([]:List (Nat×Nat×LA)))))],?_⟩;repeat' (first
  |(
 with_reducible refine Side.mk ⟨(⟨⟩:Tag 108),?_⟩
 dsimp only[cu,aC,aB,gts,eE,eN]
 omega)
  |(
 with_reducible apply Side.mk
 (try dsimp only[cu,aC,aB,gts,loK,hiK,eE,eN])
 first
 |omega
 |(
  have:=qST s f;omega)
 |(
  have:=qJR s f i;omega)
 |(
  have hr:=qUC s f;exact⟨by omega,hr.2⟩))
  |(conv=>whnf
    first
     |with_reducible first|done|exact trivial|refine NilBr.mk (fun h=>?_) ?_|apply aI|apply aH|refine aJ (by kernel_rfl) ?_|apply aK|apply bE|apply bD|apply aQ
     |((with_reducible first|apply aS|apply aR|apply bB)<;>intro h<;>(try dsimp only[cu,eE,eN]at h)<;>(try(exfalso;omega)))
     |(
 intro yy (hy:Tag 108/\_)
 obtain⟨(i:Int),_⟩:=yy
 replace hy:=hy.2
 dsimp only[cu,aC,aB,gts,eE,eN]at hy
 have hi:=hy)))
 all_goals(
 with_reducible apply Leaf.mk
 (try dsimp only[cu,aC,aB,gts,eE,eN]at *)
 first
 |exact decide_eq_true rfl
 |(exact absurd rfl (by with_reducible assumption)))
abbrev qXR:Tbl:=(23,HN)::qXQ
theorem qA4:aD Tryz.prog qXR:=aD.cons qPO qA3
abbrev wR:Ct:=.fn [.str,.int .i64,.int .u8] (some (fun(f:ByteArray) (a:Int) (b:Int)=>(f.size<=288230376151711000)/\(12<=f.size/\12<=bQ f ((f.size:Int)-8)/\bQ f ((f.size:Int)-8)<=f.size-12))) (fun(f:ByteArray) (a:Int) (b:Int)=>.d .str (qY8 f a b))
theorem XZ:aF Tryz.prog 24 wR:=by
 refine aF.fn qA4 mixed [] [] rfl rfl ?_;rintro⟨(f:ByteArray),(a:Int),(b:Int),_⟩ hpre;replace hpre:=hpre _ rfl;dsimp only[cu]at hpre;obtain⟨hs,hf1⟩:=hpre;refine⟨[],?_⟩;repeat' (first
  |(
 with_reducible apply Side.mk
 (try dsimp only[cu,aC,aB,gts,loK,hiK,eE,eN])
 first
 |omega
 |(
  have ht:(((f.extract ((f.size:Int)-8-bQ f ((f.size:Int)-8)).toNat ((f.size:Int)-12).toNat).size:Nat):Int)=bQ f ((f.size:Int)-8)-4:=by rw[ByteArray.size_extract];omega
  have hp:=pick_lt (v:=a) (n:=(((f.extract ((f.size:Int)-8-bQ f ((f.size:Int)-8)).toNat ((f.size:Int)-12).toNat).size:Nat):Int)) (by omega);first
  |exact UD (by omega)
  |omega
  |(
   simp only[ByteArray.size_append,ByteArray.size_extract,uJ,TJ,mC];omega)))
  |(conv=>whnf
    first
     |with_reducible first|done|exact trivial|refine NilBr.mk (fun h=>?_) ?_|apply aI|apply aH|refine aJ (by kernel_rfl) ?_|apply aK|apply bE|apply bD|apply aQ
     |((with_reducible first|apply aS|apply aR|apply bB)<;>intro h<;>(try dsimp only[cu,eE,eN]at h)<;>(try(exfalso;omega)))))
 all_goals(
 with_reducible apply Leaf.mk
 (try dsimp only[cu,aC,aB,gts,eE,eN]at *)
 rfl)
abbrev qXS:Tbl:=(24,wR)::qXR
theorem qA5:aD Tryz.prog qXS:=aD.cons XZ qA4
abbrev DG:Ct:=.fn [bM,.str,.list (.int .i64),.list (.int .i64),.list (.int .i64)] (some (fun(s:Schema) (raw:ByteArray) (x:List Int) (y:List Int) (l:List Int)=>(raw.size<=288230376151711744)/\(s.1.length<=4611686018427387904)/\(y.length<=4611686018427387904)/\(x.length<=4611686018427387904)/\(l.length<=4611686018427387904)/\(∀v,v∈l->inI v))) (fun(s:Schema) (raw:ByteArray) (x:List Int) (y:List Int) (l:List Int)=>.d .bool true)
theorem PT:aF Tryz.prog 6 DG:=by
 refine aF.fn qA5 mixed [] [] rfl rfl ?_;rintro⟨(s:Schema),(raw:ByteArray),(x:List Int),(y:List Int),(l:List Int),_⟩ hpre;replace hpre:=hpre _ rfl;dsimp only[cu]at hpre;obtain⟨hr,hcs,hy,hx,hl,hi⟩:=hpre;refine⟨[],?_⟩;repeat' (first
  |(
 with_reducible apply Side.mk
 (try dsimp only[cu,aC,aB,gts,loK,hiK,eE,eN])
 first
 |omega
 |(
  have k0:=dT x;have k1:=dT y;omega)
 |(
  have ei:yE (xB (dO x) l 8):=zT hi;have es:=zL (s:=dO x) ei;have kl:=vP (x:=dO x) (l:=l) (n:=8) (by decide);have k0:=dT x;have k1:=dT y;exact⟨by omega,by omega⟩))
  |(conv=>whnf
    first
     |with_reducible first|done|exact trivial|refine NilBr.mk (fun h=>?_) ?_|apply aI|apply aH|refine aJ (by kernel_rfl) ?_|apply aK|apply bE|apply bD|apply aQ
     |((with_reducible first|apply aS|apply aR|apply bB)<;>intro h<;>(try dsimp only[cu,eE,eN]at h)<;>(try(exfalso;omega)))))
 all_goals(
 with_reducible apply Leaf.mk
 (try dsimp only[cu,aC,aB,gts,eE,eN]at *)
 done)
abbrev qXT:Tbl:=(6,DG)::qXS
theorem qA6:aD Tryz.prog qXT:=aD.cons PT qA5
abbrev NF:Ct:=.fn [.list (.int .i64),.list (.int .i64),.int .i64,.int .u8,.bool] (some (fun(x:List Int) (l:List Int) (a:Int) (b:Int) (cut:Bool)=>(x.length<=4611686018427387904)/\(l.length<=4611686018427387904)/\(∀v,v∈l->inI v))) (fun(x:List Int) (l:List Int) (a:Int) (b:Int) (cut:Bool)=>.d .bool true)
theorem qE9:aF Tryz.prog 7 NF:=by
 refine aF.fn qA6 mixed [] [] rfl rfl ?_;rintro⟨(x:List Int),(l:List Int),(a:Int),(b:Int),(cut:Bool),_⟩ hpre;replace hpre:=hpre _ rfl;dsimp only[cu]at hpre;obtain⟨hx,hl,hi⟩:=hpre;refine⟨[],?_⟩;repeat' (first
  |(
 with_reducible apply Side.mk
 (try dsimp only[cu,aC,aB,gts,loK,hiK,eE,eN])
 first
 |omega
 |(
  have k0:=dT x;omega)
 |(
  have ei:yE (xB (dO x) l 6):=zT hi;have es:=zL (s:=dO x) ei;have kl:=vP (x:=dO x) (l:=l) (n:=6) (by decide);first
  |(
   have k0:=dT x;exact⟨by omega,by omega⟩)
  |(
   have ef:=WE (s:=dO x) ei (by with_reducible assumption);first
   |exact UD (by omega)
   |(
    have pk:=pick_lt (v:=a) (n:=(((lX (dO x) (xB (dO x) l 6)).1.size:Nat):Int)) (by omega);first
    |omega
    |(
     have k0:=dT x;first
     |(
      rw[ByteArray.size_extract];omega)
     |(
      (try simp only[ByteArray.size_append,ByteArray.size_extract,uJ,TJ]);omega))))))
  |(conv=>whnf
    first
     |with_reducible first|done|exact trivial|refine NilBr.mk (fun h=>?_) ?_|apply aI|apply aH|refine aJ (by kernel_rfl) ?_|apply aK|apply bE|apply bD|apply aQ
     |((with_reducible first|apply aS|apply aR|apply bB)<;>intro h<;>(try dsimp only[cu,eE,eN]at h)<;>(try(exfalso;omega)))))
 all_goals(
 with_reducible apply Leaf.mk
 (try dsimp only[cu,aC,aB,gts,eE,eN]at *)
 done)
abbrev qaY:Tbl:=(7,NF)::qXT
theorem qQU:aD Tryz.prog qaY:=aD.cons qE9 qA6
abbrev qBX:Ct:=.fn [.list (.int .i64),.list (.int .i64),.int .i64,.int .u8] (some (fun(x:List Int) (l:List Int) (a:Int) (b:Int)=>(x.length<=4611686018427387904)/\(l.length<=4611686018427387904)/\(∀v,v∈l->inI v))) (fun(x:List Int) (l:List Int) (a:Int) (b:Int)=>.d .bool true)
theorem qOK:aF Tryz.prog 8 qBX:=by
 refine aF.fn qQU mixed [] [] rfl rfl ?_;rintro⟨(x:List Int),(l:List Int),(a:Int),(b:Int),_⟩ hpre;replace hpre:=hpre _ rfl;dsimp only[cu]at hpre;obtain⟨hx,hl,hi⟩:=hpre;refine⟨[],?_⟩;repeat' (first
  |(
 with_reducible apply Side.mk
 (try dsimp only[cu,aC,aB,gts,loK,hiK,eE,eN])
 first
 |omega
 |(
  have ei:yE (xB (dO x) l 4):=zT hi;have es:=zL (s:=dO x) ei;have kl:=vP (x:=dO x) (l:=l) (n:=4) (by decide);have ef:=WE (s:=dO x) ei (by with_reducible assumption);first
  |with_reducible exact⟨es,ef⟩
  |(
   have k0:=dT x;have rz:=qY9 (a:=a) (b:=b) ef.1 ef.2.1 ef.2.2 es;have k2:(dO x).1.length<=4611686018427387904:=by omega
   with_reducible exact⟨rz,k2⟩))
 |(
  have k0:=dT x;omega)
 |(
  have ei:yE (xB (dO x) l 4):=zT hi;have es:=zL (s:=dO x) ei;have kl:=vP (x:=dO x) (l:=l) (n:=4) (by decide);have k0:=dT x;exact⟨by omega,by omega⟩))
  |(conv=>whnf
    first
     |with_reducible first|done|exact trivial|refine NilBr.mk (fun h=>?_) ?_|apply aI|apply aH|refine aJ (by kernel_rfl) ?_|apply aK|apply bE|apply bD|apply aQ
     |((with_reducible first|apply aS|apply aR|apply bB)<;>intro h<;>(try dsimp only[cu,eE,eN]at h)<;>(try(exfalso;omega)))))
 all_goals(
 with_reducible apply Leaf.mk
 (try dsimp only[cu,aC,aB,gts,eE,eN]at *)
 done)
end
end Go.Proofs.YtcjiefknhfhmkaaGreatDoor
namespace Go.Abs
set_option maxRecDepth 100000
set_option maxHeartbeats 4000000
set_option linter.unusedVariables false
set_option linter.unusedSimpArgs false
open Go.RowKit
def ι0:Iota:={at':=fun _=>none,X:=fun _=>False}
theorem qZ3 (w:World):HRel [] ι0 w:=
 ⟨fun id o h=>by simp at h,fun id h=>by simp at h,fun id _=>rfl,fun id o l id' o' l' h=>by simp at h,fun b h=>h.elim,fun b h=>h.elim⟩
theorem mt0 (b:Nat):¬Mt [] ι0 b:=by
 rintro(h|⟨id,o,l,h,_⟩)
 ·exact h
 ·simp at h
def gT (w:World) (x:V) (y:Value):Prop:=Rep w ι0 (Mt [] ι0) x y
def FX (w:World):List V->List Value->Prop
 | [],[]=>True
 |x::xs,y::ys=>gT w x y/\FX w xs ys
 |_,_=>False
theorem EK:∀ {w:World} {xs:List V} {ys:List Value},FX w xs ys->PW2 w ι0 (Mt [] ι0) xs ys.toArray
 |w,[],[],_=>⟨rfl,fun k x h=>by simp at h⟩
 |w,x::xs,y::ys,h=>by
  have ih:=EK h.2;refine⟨by simpa using ih.1,fun k z hz=>?_⟩;cases k with
  |zero=>simp at hz;subst hz;exact⟨y,by simp,h.1⟩
  |succ k=>
   obtain⟨u,u1,u2⟩:=ih.2 k z (by simpa using hz);exact⟨u,by simpa using u1,u2⟩
 |w,[],_::_,h=>h.elim
 |w,_::_,[],h=>h.elim
theorem xY {P:Program} {f:FuncId} {args:List V} {vals:List Value} {w:World} (hr:FX w args vals) (hc:PC P f args [] (fun y _=>y = .v (.bool true))) :
  Calls P f vals.toArray w fun e w'=>e = .returned (.bool true)/\Below w.heap.size w w':=by
 refine(hc ι0 w _ (EK hr) (qZ3 w)).mono ?_;rintro e w' ⟨y,x,h',ι',rfl,rfl,ry,_,ev⟩;cases ry;refine⟨rfl,ev.os,ev.tape,ev.output,ev.size,fun k hk=>(ev.frame k hk ?_).1⟩;rintro⟨id,o,l,h,_⟩;simp at h
theorem oC (w:World) (x:Value):gT w (.v x) x:=.v x
theorem BU {w:World} {a:Addr} {v:Value} (h:w.cell? a=some v):a.spot=none/\a.block<w.heap.size:=by
 unfold World.cell? at h;split at h
 ·rename_i c el fr hb
  refine⟨?_,?_⟩
  ·by_cases q:a.spot.isSome=true
   ·rw[if_pos q]at h;cases h
   ·simpa using q
  ·rcases Nat.lt_or_ge a.block w.heap.size with q|q
   ·exact q
   ·rw[Array.getElem?_eq_none q]at hb;cases hb
 ·cases h
def ints (k:IntKind) (l:List Int):V:=.sF 1 (l.map fun n=>[.v (.int k n)])
theorem mF (w:World) (k:IntKind):gT w (ints k []) (.slice none 0 0):=Rep.sN 1
theorem kG {w:World} {k:IntKind} {x:Addr} {len cap:Nat} {zs:List Int} (hl:len<=cap) (hz:zs.length=cap) (hc:∀i,i<zs.length->w.cell? (x.add i)=some (.int k (zs.getD i 0))) :
  gT w (ints k (zs.take len)) (.slice (some x) len cap):=by
 have hlen:((zs.take len).map fun n=>[V.v (.int k n)]).length=len:=by simp;omega
 have:=Rep.sF_mk (w:=w) (ι:=ι0) (M:=Mt [] ι0) (sz:=1) (rows:=(zs.take len).map fun n=>[V.v (.int k n)]) x cap ?_ (by omega) (fun r hr=>by obtain⟨n,_,rfl⟩:=List.mem_map.1 hr;rfl) ?_
 ·rw[hlen]at this;exact this
 ·intro hne
  have h0:0<zs.length:=by
   rcases Nat.eq_zero_or_pos zs.length with q|q
   ·exfalso;apply hne;rw[List.eq_nil_of_length_eq_zero q];simp
   ·exact q
  have:=BU (hc 0 h0);unfold Addr.add at this;simp at this;exact⟨this.1,this.2,mt0 _⟩
 ·intro i j r y hi hj
  rw[List.getElem?_map]at hi;cases hq:(zs.take len)[i]? with
  |none=>rw[hq]at hi;simp at hi
  |some n=>
   rw[hq]at hi;simp at hi;subst hi;have hj0:j=0:=by have:=aP hj;simp at this;exact this
   subst hj0;simp at hj;subst hj;rw[List.getElem?_take]at hq;split at hq
   ·have hlt:=aP hq
    refine⟨.int k n,?_,.v _⟩;have hcell:=hc i hlt;have hsp:=(BU (hc 0 (by omega))).1;have hsp0:x.spot=none:=by unfold Addr.add at hsp;simpa using hsp
    have e:x.add i=⟨x.block,x.off+i*1+0,none⟩:=by
     obtain⟨b,o,sp⟩:=x;(try simp only at hsp0);subst hsp0;rw[kY];simp
    rw[<-e,hcell];rw[List.getElem?_eq_getElem hlt]at hq;injection hq with hq;simp [List.getD,List.getElem?_eq_getElem hlt,hq]
   ·cases hq
open Go.RowKit
def Ty.ok:(t:Ty)->t.den->Prop
 | .int k,n=>(Lit.int k n).wf=true
 | .bool,_=>True
 | .str,s=>s.size<=maxLen
 | .list t,l=>l.length<=maxLen/\∀x,x∈l->t.ok x
 | .pair a b,x=>a.ok x.1/\b.ok x.2
def Ty.vol:(t:Ty)->t.den->Nat
 | .int _,_=>1
 | .bool,_=>1
 | .str,s=>s.size+1
 | .list t,l=>(l.map t.vol).sum+1
 | .pair a b,x=>a.vol x.1+b.vol x.2
structure BkOk {H:Type} (blk:DataW H->Nat):Prop where
 lit:∀x,1<=blk (.lit x)
 str:∀s,s.length+1<=blk (.lit (.string s))
 nil:1<=blk .nil
 slice:∀a b,(a.map blk).sum+1<=blk (.slice a b)
 agg:∀a,(a.map blk).sum<=blk (.agg a)
def qM (P:Program) (f:TypeId->Ty->Bool):List Field->Nat->Ty->Bool
 | [],_,_=>false
 | [x],off,y=>decide (x.offset=off)&&f x.type y&&decide (P.cellsOf x.type=y.size)
 |x::xs,off,.pair a b=>decide (x.offset=off)&&f x.type a&&decide (P.cellsOf x.type=a.size)&&qM P f xs (off+a.size) b
 |_,_,_=>false
def fits (P:Program):Nat->TypeId->Ty->Bool
 |0,_,_=>false
 |n+1,t,y=>match P.underlying t,y with
  |some (.int k),.int k'=>decide (k=k')
  |some .bool,.bool=>true
  |some .string,.str=>true
  |some (.slice e),.list y=>fits P n e y&&decide (P.cellsOf e=y.size)
  |some (.struct fs),y=>qM P (fits P n) fs.toList 0 y&&decide (P.cellsOf t=y.size)
  |_,_=>false
theorem Ty.size_pos:∀(t:Ty),0<t.size
 | .int _=>Nat.one_pos
 | .bool=>Nat.one_pos
 | .str=>Nat.one_pos
 | .list _=>Nat.one_pos
 | .pair a b=>by have:=a.size_pos;simp only[Ty.size];omega
def mS (w:World) (r:List V) (cs:List Value):Prop:=r.length=cs.length/\∀(i:Nat) (u:V) (z:Value),r[i]? =some u->cs[i]? =some z->gT w u z
theorem mS.one {w:World} {u:V} {z:Value} (h:gT w u z):mS w [u] [z]:=by
 refine⟨rfl,fun i a b ha hb=>?_⟩;cases i with
 |zero=>simp at ha hb;subst ha hb;exact h
 |succ i=>simp at ha
theorem mS.app {w:World} {r r':List V} {cs cs':List Value} (h:mS w r cs) (h':mS w r' cs'):mS w (r++r') (cs++cs'):=by
 refine⟨by simp [h.1,h'.1],fun i a b ha hb=>?_⟩;by_cases hi:i<r.length
 ·rw[List.getElem?_append_left hi]at ha
  rw[List.getElem?_append_left (by rw[<-h.1];exact hi)]at hb;exact h.2 i a b ha hb
 ·rw[List.getElem?_append_right (by omega)]at ha
  rw[List.getElem?_append_right (by rw[<-h.1];omega),<-h.1]at hb;exact h'.2 _ a b ha hb
variable {H:Type} {enc:TypeId×Value->H} {P:Program} {w:World} {base:Nat} {spare:Nat->Bool} {held:Bool}
theorem zN {f:TypeId->Ty->Bool} {n:Nat} {cs:List Value} (ih:∀(t:TypeId) (y:Ty) (cs:List Value) (x:DataW H×List MemPlace),f t y=true->DataW.trod enc P w base spare held n t cs=some x->∃a:y.den,y.ok a/\mS w (y.row a) cs/\∀blk:DataW H->Nat,BkOk blk->y.vol a<=blk x.1) :
  ∀(l:List Field) (xs:List (DataW H×List MemPlace)) (off:Nat) (y:Ty),qM P f l off y=true->l.length=xs.length->(∀(i:Nat) (g:Field),l[i]? =some g->DataW.trod enc P w base spare held n g.type ((cs.drop g.offset).take (P.cellsOf g.type))=xs[i]?)->cs.length=off+y.size ->
   ∃a:y.den,y.ok a/\mS w (y.row a) (cs.drop off)/\∀blk:DataW H->Nat,BkOk blk->y.vol a<=(xs.map fun x=>blk x.1).sum
 | [],_,_,_,h,_,_,_=>by simp [qM]at h
 | [g],xs,off,y,h,hxl,hx,hl=>by
   simp only[qM,Bool.and_eq_true,decide_eq_true_eq]at h;obtain⟨⟨h1,h2⟩,h3⟩:=h;have hx:=hx 0 g rfl;cases xs with
   |nil=>simp at hxl
   |cons x xs=>
    rw[h1,h3,List.take_of_length_le (by simp;omega)]at hx;obtain⟨a,a1,a2,a3⟩:=ih _ _ _ _ h2 hx;exact⟨a,a1,a2,fun blk hb=>by have:=a3 blk hb;simp;omega⟩
 |g::g2::l,xs,off,.pair a b,h,hxl,hx,hl=>by
  simp only[qM,Bool.and_eq_true,decide_eq_true_eq]at h;obtain⟨⟨⟨h1,h2⟩,h3⟩,h4⟩:=h;cases xs with
  |nil=>simp at hxl
  |cons x xs=>
   have hx1:=hx 0 g rfl;rw[h1,h3]at hx1;obtain⟨p,p1,p2,p3⟩:=ih _ _ _ _ h2 hx1;obtain⟨q,q1,q2,q3⟩:=zN ih (g2::l) xs (off+a.size) b h4 (by simpa using hxl) (fun i k hk=>hx (i+1) k (by simpa using hk)) (by simp only[Ty.size]at hl;omega);refine⟨(p,q),⟨p1,q1⟩,?_,fun blk hb=>by have:=p3 blk hb;have:=q3 blk hb;simp only[Ty.vol,List.map_cons,List.sum_cons];omega⟩;have e:Ty.row (.pair a b) (p,q)=a.row p++b.row q:=by
    simp only[Ty.row,Ty.cells];rw[a.cells_row]
   rw[e,show cs.drop off=(cs.drop off).take a.size++cs.drop (off+a.size)by rw[<-List.drop_drop,List.take_append_drop]];exact p2.app q2
 |_::_::_,_,_,.int _,h,_,_,_=>by simp [qM]at h
 |_::_::_,_,_,.bool,h,_,_,_=>by simp [qM]at h
 |_::_::_,_,_,.str,h,_,_,_=>by simp [qM]at h
 |_::_::_,_,_,.list _,h,_,_,_=>by simp [qM]at h
theorem KU {α β:Type} (f:α->Nat) (g:β->Nat):∀(a:List α) (b:List β),a.length=b.length->(∀(i:Nat) (x:α) (y:β),a[i]? =some x->b[i]? =some y->f x<=g y)->(a.map f).sum<=(b.map g).sum
 | [],[],_,_=>Nat.le_refl _
 | [],_::_,h,_=>by simp at h
 |_::_,[],h,_=>by simp at h
 |x::a,y::b,h,hx=>by
  have h1:=hx 0 x y rfl rfl;have h2:=KU f g a b (by simpa using h) (fun i u v hu hv=>hx (i+1) u v (by simpa using hu) (by simpa using hv));simp only[List.map_cons,List.sum_cons];omega
theorem tX:∀(n:Nat) (t:TypeId) (y:Ty) (fuel:Nat) (cs:List Value) (x:DataW H×List MemPlace),fits P n t y=true->DataW.trod enc P w base spare held fuel t cs=some x->∃a:y.den,y.ok a/\mS w (y.row a) cs/\∀blk:DataW H->Nat,BkOk blk->y.vol a<=blk x.1
 |0,_,_,_,_,_,h,_=>by simp [fits]at h
 |n+1,t,y,fuel,cs,x,h,hx=>by
  unfold fits at h;split at h
  ·rename_i k k' hu
   obtain rfl:k=k':=by simpa using h
   obtain⟨m,rfl,rfl,hw⟩:=DataW.trod_int hu hx;exact⟨m,hw,mS.one (oC _ _),fun blk hb=>hb.lit _⟩
  ·rename_i hu
   obtain⟨b,rfl,rfl⟩:=DataW.trod_bool hu hx;exact⟨b,trivial,mS.one (oC _ _),fun blk hb=>hb.lit _⟩
  ·rename_i hu
   obtain⟨s,rfl,rfl,hs⟩:=DataW.trod_string hu hx;refine⟨s,hs,mS.one (oC _ _),fun blk hb=>?_⟩;have:=hb.str s.data.toList;rw[Array.length_toList]at this;exact this
  ·rename_i e y hu
   simp only[Bool.and_eq_true,decide_eq_true_eq]at h;rcases DataW.trod_slice hu hx with⟨rfl,rfl⟩|⟨a,len,cap,elems,rest,m,rfl,rfl,rfl,hb,hlc,hm,hel,hget,_,_⟩
   ·exact⟨([]:List y.den),⟨by simp,fun x hx=>by cases hx⟩,mS.one (Rep.sL _ _ _ (Rep.sN _)),fun blk hb=>hb.nil⟩
   ·have each:∀i,∃d:y.den,i<len->y.ok d/\(∃c,(∀j,j<y.size->w.cell? ((a.add (i*y.size)).add j)=c[j]?)/\mS w (y.row d) c)/\∀e,elems[i]? =some e->∀blk:DataW H->Nat,BkOk blk->y.vol d<=blk e.1:=by
      intro i;by_cases hi:i<len
      ·have h1:=hget i hi
       rw[List.getElem?_eq_getElem (by omega),Option.bind_eq_some_iff,h.2]at h1;obtain⟨c,hc,hr⟩:=h1;obtain⟨_,_,hcell⟩:=World.cells?_some hc;obtain⟨d,d1,d2,d3⟩:=tX n e y m c _ h.1 hr;refine⟨d,fun _=>⟨d1,⟨c,hcell,d2⟩,fun e2 he2=>?_⟩⟩;rw[List.getElem?_eq_getElem (by omega)]at he2;injection he2 with he2;rw[<-he2];exact d3
      ·exact⟨default,fun q=>absurd q hi⟩
    obtain⟨g,hg⟩:=Classical.axiomOfChoice each;have hln:((List.range len).map g).length=len:=by simp
    have top:0<len->a.spot=none/\a.block<w.heap.size:=by
     intro h0;obtain⟨_,⟨c,c1,c2⟩,_⟩:=hg 0 h0;have hcl:0<c.length:=by rw[<-c2.1,show(y.row (g 0)).length=y.size by simpa using y.cells_len (g 0) []];exact y.size_pos
     have:=BU ((c1 0 y.size_pos).trans (List.getElem?_eq_getElem hcl));unfold Addr.add at this;simpa using this
    refine⟨((List.range len).map g:List y.den),⟨by rw[hln];omega,fun x hx=>?_⟩,mS.one (Rep.sL _ _ _ ?_),fun blk hbk=>?_⟩
    ·obtain⟨i,hi,rfl⟩:=List.mem_map.1 hx
     exact(hg i (List.mem_range.1 hi)).1
    ·have hrl:(((List.range len).map g).map y.row).length=len:=by simp
     have:=Rep.sF_mk (w:=w) (ι:=ι0) (M:=Mt [] ι0) (sz:=y.size) (rows:=((List.range len).map g).map y.row) a cap ?_ (by omega) (fun r hr=>by obtain⟨d,_,rfl⟩:=List.mem_map.1 hr;simpa using y.cells_len d []) ?_
     ·rw[hrl]at this;exact this
     ·intro hne
      have h0:0<len:=by
       rcases Nat.eq_zero_or_pos len with q|q
       ·exfalso;apply hne;subst q;rfl
       ·exact q
      have this:=top h0;exact⟨this.1,this.2,mt0 _⟩
     ·intro i j r u hi hj
      rw[List.getElem?_map,List.getElem?_map]at hi;by_cases hil:i<len
      ·rw[List.getElem?_range hil]at hi
       simp at hi;subst hi;obtain⟨_,⟨c,c1,c2⟩,_⟩:=hg i hil;have hjl:j<y.size:=by have:=aP hj;rwa [show(y.row (g i)).length=y.size by simpa using y.cells_len (g i) []]at this
       have hjc:j<c.length:=by rw[<-c2.1,show(y.row (g i)).length=y.size by simpa using y.cells_len (g i) []];exact hjl
       have hcell:=c1 j hjl;have hc0:=hcell.trans (List.getElem?_eq_getElem hjc);refine⟨c[j],?_,c2.2 j _ _ hj (List.getElem?_eq_getElem hjc)⟩;have hsp0:a.spot=none:=(top (by omega)).1;obtain⟨b,o,sp⟩:=a;(try simp only at hsp0);subst hsp0;rw[kY,kY]at hc0;exact hc0
      ·rw[List.getElem?_eq_none (by simpa using hil)]at hi
       simp at hi
    ·have h1:=hbk.slice (elems.map (·.1)) (rest.map (·.1))
     have h2:=KU (fun d=>y.vol d) (fun e:DataW H×List MemPlace=>blk e.1) ((List.range len).map g) elems (by rw[hln,hel]) (fun i u v hu hv=>by
      by_cases hil:i<len
      ·rw[List.getElem?_map,List.getElem?_range hil]at hu
       simp at hu;subst hu;exact(hg i hil).2.2 v hv blk hbk
      ·rw[List.getElem?_eq_none (by rw[hln];omega)]at hu
       cases hu)
     rw[List.map_map]at h1;simp only[Ty.vol];have h3:(List.map (blk∘fun x=>x.1) elems).sum=(elems.map fun e=>blk e.1).sum:=rfl;show((List.range len).map g |>.map fun d=>y.vol d).sum+1<=_;omega
  ·rename_i _ fs hu
   simp only[Bool.and_eq_true,decide_eq_true_eq]at h;obtain⟨xs,m,rfl,rfl,hl,hxl,hf⟩:=DataW.trod_struct hu hx;obtain⟨a,a1,a2,a3⟩:=zN (cs:=cs) (n:=m) (fun t y cs x h1 h2=>tX n t y m cs x h1 h2) fs.toList xs 0 _ h.1 (by simp [hxl]) (fun i g hg=>hf i g (by simpa using hg)) (by omega);refine⟨a,a1,by simpa using a2,fun blk hb=>?_⟩;have h1:=a3 blk hb;have h2:=hb.agg (xs.map (·.1));rw[List.map_map]at h2;exact Nat.le_trans h1 h2
  ·cases h
theorem qCD (n:Nat) (t:TypeId) (y:Ty) (fuel:Nat) (cs:List Value) (x:DataW H×List MemPlace) (h:fits P n t y=true) (hx:DataW.trod enc P w base spare held fuel t cs=some x):∃a:y.den,y.ok a/\mS w (y.row a) cs:=
 let ⟨a,a1,a2,_⟩:=tX n t y fuel cs x h hx
 ⟨a,a1,a2⟩
theorem qLI {y:Ty} {a:y.den} {v:Value} (h:mS w (y.row a) v.cells.toList) (hv:∀p q,y = .pair p q->∃vs,v = .agg vs) (hs:(∀p q,y ≠ .pair p q)->v.cells.toList= [v]):gT w (y.val a) v:=by
 cases y with
 |pair p q=>
  obtain⟨vs,rfl⟩:=hv p q rfl;simp [Value.cells]at h;exact Rep.agg _ _ (by simpa using h.1) (fun i h1 h2=>h.2 i _ _ (List.getElem?_eq_getElem h1) (by simp [h2]))
 |int k=>have e:=hs (fun _ _=>by simp);rw[e]at h;exact h.2 0 _ _ rfl rfl
 |bool=>have e:=hs (fun _ _=>by simp);rw[e]at h;exact h.2 0 _ _ rfl rfl
 |str=>have e:=hs (fun _ _=>by simp);rw[e]at h;exact h.2 0 _ _ rfl rfl
 |list t=>have e:=hs (fun _ _=>by simp);rw[e]at h;exact h.2 0 _ _ rfl rfl
end Go.Abs
