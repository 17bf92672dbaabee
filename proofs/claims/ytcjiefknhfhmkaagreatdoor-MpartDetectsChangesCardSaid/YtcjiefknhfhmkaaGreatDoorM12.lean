import Derived.Below
import Derived.Test.YtcjiefknhfhmkaaGreatDoorM11
namespace Go.Proofs.YtcjiefknhfhmkaaGreatDoor
open Go.Abs
set_option maxRecDepth 100000
set_option maxHeartbeats 4000000
set_option linter.unusedVariables false
set_option linter.unusedSimpArgs false
def bT:List ByteArray->ByteArray
 | []=>⟨#[]⟩
 |b::l=>b++bT l
def vL (s:Schema) (l:List Rec) (i:Nat):List Val:=if i=s.1.length then gE l else fO l i
def chnk (s:Schema) (l:List Rec) (i:Nat):ByteArray:=(hU (nP s i) (vL s l i)).1
def chnks (s:Schema) (l:List Rec):List ByteArray:=(List.range (s.1.length+1)).map (chnk s l)
def szB (b:ByteArray):ByteArray:=aV (put (b.size:Int))
def bZ (s:Schema) (l:List Rec):ByteArray:=aV (four (gO (rW s)))++aV (put (l.length:Int))++bT ((chnks s l).map szB)++bT ((eD s l (List.range s.1.length)).map tD)++dN (eM s l[0]!)++dN (eM s l[l.length-1]!)
def dH (C F:ByteArray):ByteArray:=fY++C++F++aV (four (F.size:Int))++fY
def cS (s:Schema) (l:List Rec):ByteArray:=dH (bT (chnks s l)) (bH (bZ s l))
def hJ (s:Schema) (l:List Rec):ByteArray×Int:=if aU s≠0 then(⟨#[]⟩,aU s)else if l.length>1024 then(⟨#[]⟩,7)else if l.length=0\/cY s l=false then(⟨#[]⟩,1)else(cS s l,0)
theorem sG (a b:List ByteArray):bT (a++b)=bT a++bT b:=by
 induction a with
 |nil=>exact ByteArray.empty_append.symm
 |cons x a ih=>rw[List.cons_append,bT,bT,ih,ByteArray.append_assoc]
def dT (b:ByteArray):Int:=(b.size:Int)
theorem pV (l:List ByteArray):((bT l).size:Int)=dP (l.map dT):=by
 induction l with
 |nil=>rfl
 |cons b l ih=>rw[bT,ByteArray.size_append];simp only[List.map_cons,dP,List.foldr_cons]at ih ⊢;rw[Int.natCast_add,ih];rfl
theorem qY {s:ByteArray} {a:Nat} {x:Int} {r:List Int} (h:(aF s).drop a=x::r):aG s a=x/\(aF s).drop (a+1)=r/\a+1<=s.size:=by
 have hl:=congrArg List.length h
 simp only[List.length_drop,List.length_cons,aP]at hl
 refine⟨?_,by rw[<-List.drop_drop,h];rfl,by omega⟩
 rw[<-lD,List.getElem!_eq_getElem?_getD,show a=a+0 from rfl,<-List.getElem?_drop,h];rfl
theorem kC {s:ByteArray} {a:Nat} {u:Int} {r:List Int} (hu:0<=u/\u<18446744073709551616) (h:(aF s).drop a=put u++r) :
  aA s a=(u,((a+(put u).length:Nat):Int),0)/\(aF s).drop (a+(put u).length)=r/\a+(put u).length<=s.size:=by
 have hg:=IH hu h
 have hl:=congrArg List.length h
 simp only[List.length_drop,List.length_append,aP]at hl
 have hp:=bM u
 exact⟨by rw[hg,Int.natCast_add],by rw[<-List.drop_drop,h,List.drop_left],by omega⟩
theorem gZ {s w:ByteArray} {a:Nat} {r:List Int} (h:(aF s).drop a=aF w++r):s.extract a (a+w.size)=w/\(aF s).drop (a+w.size)=r/\w.size<=s.size-a:=by
 have hl:=congrArg List.length h
 simp only[List.length_drop,List.length_append,aP]at hl
 refine⟨jK ?_,by rw[<-List.drop_drop,h,<-aP w,List.drop_left],by omega⟩
 rw[pZ,h,show a+w.size-a=(aF w).length by rw[aP];omega,List.take_left]
def GG (v:Val):Prop:=(v.1=true->v=gP)/\inI v.2.1/\v.2.2.size<=1048576
theorem zX {s:ByteArray} {a:Nat} {v:Val} {r:List Int} (hv:GG v) (h:(aF s).drop a=aF (yJ v)++r) :
  dD s a=(v,((a+(yJ v).size:Nat):Int),0)/\(aF s).drop (a+(yJ v).size)=r:=by
 obtain⟨hn,hi,hz⟩:=hv
 refine⟨?_,(gZ h).2.1⟩
 by_cases q:v.1=true
 · have e:=hn q
   subst e
   obtain⟨d1,d2,d3⟩:=qY (x:=0) h
   rw[dD,if_neg (by omega),if_neg (by omega),show((a:Int)).toNat=a from rfl,d1,if_neg (by decide),if_pos rfl]
   rfl
 · have q:v.1=false:=by simpa using q
   rw[qLS q]at h ⊢
   rw[bG,bG,bG,bF (kG (nE hi)),bF (kG ⟨by omega,by omega⟩),List.append_assoc,List.append_assoc,List.append_assoc]at h
   obtain⟨d1,d2,d3⟩:=qY (x:=1) h
   obtain⟨n1,n2,n3⟩:=kC (nE hi) d2
   obtain⟨m1,m2,m3⟩:=kC (u:=(v.2.2.size:Int)) ⟨by omega,by omega⟩ n2
   obtain⟨w1,w2,w3⟩:=gZ m2
   rw[show(((a+1:Nat)):Int)=(a:Int)+1 from rfl]at n1
   rw[dD,if_neg (by omega),if_neg (by omega),show((a:Int)).toNat=a from rfl,d1,if_neg (by decide),if_neg (by decide),n1]
   simp only
   rw[m1]
   simp only[ne_eq,not_true_eq_false,if_false]
   rw[if_neg (by omega)]
   refine Prod.ext ?_ (Prod.ext ?_ rfl)
   · obtain⟨x,y,z⟩:=v
     (try simp only at q w1 ⊢)
     subst q
     refine Prod.ext rfl (Prod.ext (qE6 y) ?_)
     rw[show((a+1+(put (gB y)).length+(put (z.size:Int)).length:Nat):Int).toNat=a+1+(put (gB y)).length+(put (z.size:Int)).length from rfl,show(((a+1+(put (gB y)).length+(put (z.size:Int)).length:Nat):Int)+(z.size:Int)).toNat=a+1+(put (gB y)).length+(put (z.size:Int)).length+z.size by omega]
     exact w1
   · simp only[ByteArray.size_append,bK]
     have:(⟨#[1]⟩:ByteArray).size=1:=rfl
     omega
def GH (z:Zone):Prop:=(0<=z.1/\z.1<=4096)/\(0<=z.2.1/\z.2.1<=4096)/\GG z.2.2.1/\GG z.2.2.2
theorem qVZ {n:Int} (h:0<=n):eH 0 n=n:=by unfold eH;split<;>omega
theorem qGF {s:ByteArray} {a:Nat} {z:Zone} {r:List Int} (hz:GH z) (h:(aF s).drop a=aF (tD z)++r) :
  fI s a=(z,((a+(tD z).size:Nat):Int),0)/\(aF s).drop (a+(tD z).size)=r:=by
 obtain⟨h1,h2,h3,h4⟩:=hz
 refine⟨?_,(gZ h).2.1⟩
 rw[tD,qVZ h1.1,qVZ h2.1]at h ⊢
 rw[bG,bG,bG,bF (kG ⟨h1.1,by omega⟩),bF (kG ⟨h2.1,by omega⟩),List.append_assoc,List.append_assoc,List.append_assoc]at h
 obtain⟨n1,n2,n3⟩:=kC (u:=z.1) ⟨h1.1,by omega⟩ h
 obtain⟨m1,m2,m3⟩:=kC (u:=z.2.1) ⟨h2.1,by omega⟩ n2
 obtain⟨v1,v2⟩:=zX h3 m2
 obtain⟨w1,w2⟩:=zX h4 v2
 rw[fI,n1]
 simp only[ne_eq,not_true_eq_false,if_false]
 rw[if_neg (by omega),m1]
 simp only[ne_eq,not_true_eq_false,if_false]
 rw[if_neg (by omega),v1]
 simp only[ne_eq,not_true_eq_false,if_false]
 rw[w1]
 simp only[ne_eq,not_true_eq_false,if_false]
 refine Prod.ext rfl (Prod.ext ?_ rfl)
 simp only[ByteArray.size_append,bK]
 omega
def SS (s:Schema) (r:Rank):Prop:=GG r.1/\bR (CW s) r.1=0/\0<=r.2/\r.2<=1099511627776
theorem MF {s:Schema} {f:ByteArray} {a:Nat} {k:Rank} {r:List Int} (hk:SS s k) (h:(aF f).drop a=aF (dN k)++r) :
  jI s f a=(k,((a+(dN k).size:Nat):Int),true)/\(aF f).drop (a+(dN k).size)=r:=by
 obtain⟨h1,h2,h3⟩:=hk
 refine⟨?_,(gZ h).2.1⟩
 unfold dN at h ⊢
 rw[bG,bF (kG ⟨h3.1,by omega⟩),List.append_assoc]at h
 obtain⟨v1,v2⟩:=zX h1 h
 obtain⟨n1,n2,n3⟩:=kC (u:=k.2) ⟨h3.1,by omega⟩ v2
 rw[jI,v1]
 simp only
 rw[if_neg (by rintro(q|q);exact q rfl;exact q h2),n1]
 simp only
 rw[if_neg (by rintro(q|q);exact q rfl;omega)]
 refine Prod.ext rfl (Prod.ext ?_ rfl)
 simp only[ByteArray.size_append,bK]
 omega
theorem HF {f:ByteArray} {b:Int}:∀(cs:List ByteArray) (l:List Int) (a:Nat) (r:List Int),(∀c,c∈cs->(c.size:Int)<=b/\c.size<=4398046585379)->(aF f).drop a=aF (bT (cs.map szB))++r ->
  rfN f b cs.length (offs l) a=(offs (l++cs.map dT),((a+(bT (cs.map szB)).size:Nat):Int),true)
 | [],l,a,r,_,h=>by rw[List.length_nil,rfN];simp [bT];rfl
 |c::cs,l,a,r,hc,h=>by
  have h0:=hc c (List.mem_cons_self ..)
  rw[List.map_cons,bT,bG,List.append_assoc,szB,bF (kG ⟨by omega,by omega⟩)]at h
  obtain⟨n1,n2,n3⟩:=kC (u:=(c.size:Int)) ⟨by omega,by omega⟩ h
  rw[List.length_cons,rfN,n1]
  simp only
  rw[if_neg (by rintro(q|q);exact q rfl;omega),<-TB,HF cs _ _ r (fun x hx=>hc x (List.mem_cons_of_mem _ hx)) n2]
  refine Prod.ext ?_ (Prod.ext ?_ rfl)
  · simp only[List.append_assoc,List.map_cons,List.singleton_append];rfl
  · simp only[List.map_cons,bT,ByteArray.size_append,szB,bK];omega
theorem UG {f:ByteArray} {rows:Int}:∀(cs:List Col) (zs z:List Zone) (a:Nat) (r:List Int),cs.length=zs.length->(∀i:Nat,i<cs.length->GH zs[i]! /\mI cs[i]! zs[i]! =true/\zs[i]!.1=rows)->(aF f).drop a=aF (bT (zs.map tD))++r ->
  rzN f rows cs z a=(z++zs,((a+(bT (zs.map tD)).size:Nat):Int),true)
 | [],[],z,a,r,_,_,h=>by rw[rzN];simp [bT];rfl
 | [],_::_,_,_,_,hl,_,_=>by cases hl
 |_::_,[],_,_,_,hl,_,_=>by cases hl
 |c::cs,y::zs,z,a,r,hl,hz,h=>by
  obtain⟨g1,g2,g3⟩:=hz 0 (Nat.zero_lt_succ _)
  have g1:GH y:=g1
  have g2:mI c y=true:=g2
  have g3:y.1=rows:=g3
  rw[List.map_cons,bT,bG,List.append_assoc]at h
  obtain⟨n1,n2⟩:=qGF g1 h
  rw[rzN,n1]
  simp only
  rw[if_neg (by rintro(q|q|q);exact q rfl;rw[g2]at q;cases q;exact q g3),UG cs zs _ _ r (by simpa using hl) (fun i hi=>hz (i+1) (by simpa using hi)) n2]
  refine Prod.ext (by simp) (Prod.ext ?_ rfl)
  simp only[List.map_cons,bT,ByteArray.size_append];omega
theorem DC (s:ByteArray):0<=gO s/\gO s<4294967296:=by
 unfold gO yX
 rw[if_pos qW]
 exact sB _ _
theorem XU {v:Int} (h:0<=v/\v<4294967296):four v= [v%256,v/256%256,v/65536%256,v/16777216]:=by
 obtain⟨e1,e2,e3⟩:=qB5 h.1
 simp only[four,e1,e2,e3,oI]
 rw[show v/16777216%256=v/16777216 by omega]
theorem qO {s:ByteArray} {a:Nat} {v:Int} {r:List Int} (hv:0<=v/\v<4294967296) (h:(aF s).drop a=four v++r):cB s a=v/\(aF s).drop (a+4)=r:=by
 rw[XU hv]at h
 obtain⟨a1,a2,_⟩:=qY h
 obtain⟨b1,b2,_⟩:=qY a2
 obtain⟨c1,c2,_⟩:=qY b2
 obtain⟨d1,d2,_⟩:=qY c2
 refine⟨?_,d2⟩
 unfold cB
 rw[show((a:Int)).toNat=a from rfl,show((a:Int)+1).toNat=a+1 from rfl,show((a:Int)+2).toNat=a+1+1 from rfl,show((a:Int)+3).toNat=a+1+1+1 from rfl,a1,b1,c1,d1,qE2 (by omega) (by omega) (by omega) (by omega)]
 omega
structure Made (s:Schema) (l:List Rec):Prop where
 sch:aU s=0
 len:1<=l.length/\l.length<=1024
 chunk:∀c,c∈chnks s l->c.size<=4398046585379
 zone:∀i:Nat,i<s.1.length->GH (qQ s.1[i]!.2.1 (fO l i))/\mI s.1[i]! (qQ s.1[i]!.2.1 (fO l i))=true
 lo:SS s (eM s l[0]!)
 hi:SS s (eM s l[l.length-1]!)
 le:¬lI (CW s).2.1 (eM s l[0]!) (eM s l[l.length-1]!)>0
theorem fT (s:Schema) (l:List Rec):(chnks s l).length=s.1.length+1:=by simp [chnks]
theorem QC:∀(cs:List ByteArray) (c:ByteArray),c∈cs->(c.size:Int)<=dP (cs.map dT)
 | [],_,h=>by cases h
 |x::cs,c,h=>by
  have nn:∀l:List ByteArray,0<=dP (l.map dT):=fun l=>by rw[<-pV];omega
  have h1:=nn cs
  have e:dP ((x::cs).map dT)=(x.size:Int)+dP (cs.map dT):=rfl
  rw[e]
  rcases List.mem_cons.1 h with q|q
  · subst q;omega
  · have:=QC cs c q;omega
theorem qG1 {s:Schema} {l:List Rec} (m:Made s l):mO s (bZ s l) (4+dP ((chnks s l).map dT))=((((l.length:Int),eD s l (List.range s.1.length),eM s l[0]!,eM s l[l.length-1]!),offs ((chnks s l).map dT),4+dP ((chnks s l).map dT)),true):=by
 have h:(aF (bZ s l)).drop 0=four (gO (rW s))++(put (l.length:Int)++(aF (bT ((chnks s l).map szB))++(aF (bT ((eD s l (List.range s.1.length)).map tD))++(aF (dN (eM s l[0]!))++(aF (dN (eM s l[l.length-1]!))++ []))))):=by
  rw[List.drop_zero,bZ]
  simp only[bG,bF (lS _),bF (kG ⟨show(0:Int)<=(l.length:Int)by omega,by have:=m.len;omega⟩),List.append_assoc,List.append_nil]
 obtain⟨_,w2⟩:=qO (DC _) h
 rw[show 0+4=4 from rfl]at w2
 have hl:=m.len
 obtain⟨n1,n2,n3⟩:=kC (u:=(l.length:Int)) ⟨by omega,by omega⟩ w2
 have c1:=HF (b:=4+dP ((chnks s l).map dT)) (chnks s l) [] _ _ (fun c hc=>⟨by have:=QC _ c hc;omega,m.chunk c hc⟩) n2
 have c2:=(gZ n2).2.1
 have zl:(eD s l (List.range s.1.length)).length=s.1.length:=by simp [eD]
 have z1:=UG (rows:=(l.length:Int)) s.1 (eD s l (List.range s.1.length)) [] _ _ zl.symm (fun i hi=>by
  have e:(eD s l (List.range s.1.length))[i]! =qQ s.1[i]!.2.1 (fO l i):=by
   rw[getElem!_pos _ i (by rw[zl];exact hi)];simp [eD]
  rw[e]
  obtain⟨q1,q2⟩:=m.zone i hi
  exact⟨q1,q2,by rw[qQ,lN]⟩) c2
 have z2:=(gZ c2).2.1
 obtain⟨r1,r2⟩:=MF m.lo z2
 obtain⟨s1,s2⟩:=MF m.hi r2
 have e0:=congrArg List.length s2
 simp only[List.length_drop,aP,List.length_nil]at e0
 have e1:=(gZ r2).2.2
 rw[mO,show(4:Int)=((4:Nat):Int)from rfl,n1]
 simp only
 rw[if_neg (by rintro(q|q|q);exact q rfl;omega;omega)]
 rw[show[((4:Nat):Int)]=offs []from rfl,<-fT s l,show(((4:Nat):Int))=4 from rfl,c1,rP1]
 simp only[List.nil_append]
 rw[if_neg (by rintro(q|q);cases q;exact q (uC _)),z1,rP2]
 simp only[List.nil_append]
 rw[if_neg (by intro q;cases q),r1,rP3]
 simp only
 rw[if_neg (by intro q;cases q),s1,rP4,if_neg]
 rintro(q|q|q)
 · cases q
 · have u1:=(gZ n2).2.2
   have u2:=(gZ c2).2.2
   have u3:=(gZ z2).2.2
   simp only at q;omega
 · exact m.le q
theorem qP {C F:ByteArray}:aF (dH C F)=aF fY++(aF C++(aF F++(four (F.size:Int)++aF fY))):=by
 unfold dH
 simp only[bG,bF (lS _),List.append_assoc]
theorem lF (C F:ByteArray):(dH C F).size=12+C.size+F.size:=by
 unfold dH
 simp only[ByteArray.size_append,pY]
 have:fY.size=4:=rfl
 omega
theorem wH {C F:ByteArray} (hF:F.size<4294967296):vY (dH C F) fY=true/\wC (dH C F) fY=true/\cB (dH C F) ((dH C F).size-8)=F.size/\(dH C F).extract (4+C.size) (4+C.size+F.size)=F:=by
 have h0:(aF (dH C F)).drop 0=aF fY++(aF C++(aF F++(four (F.size:Int)++aF fY))):=qP
 obtain⟨a1,a2,_⟩:=gZ h0
 obtain⟨b1,b2,_⟩:=gZ a2
 obtain⟨c1,c2,_⟩:=gZ b2
 obtain⟨d1,d2⟩:=qO ⟨by omega,by omega⟩ c2
 obtain⟨e1,_,_⟩:=gZ (s:=dH C F) (w:=fY) (r:=[]) (by rw[List.append_nil];exact d2)
 have hz:=lF C F
 have h4:fY.size=4:=rfl
 rw[h4]at a1 a2 b1 b2 c1 c2 d1 d2 e1
 simp only[Nat.zero_add]at a1 a2 b1 b2 c1 c2 d1 d2 e1
 refine⟨?_,?_,?_,c1⟩
 · unfold vY;rw[h4,a1,decide_eq_true (by omega),decide_eq_true rfl];rfl
 · unfold wC
   rw[h4,show(dH C F).size-4=4+C.size+F.size+4 by omega,decide_eq_true (show 4<=(dH C F).size by omega)]
   have:(dH C F).size=4+C.size+F.size+4+4:=by omega
   rw[this,e1,decide_eq_true rfl];rfl
 · rw[show(((dH C F).size:Nat):Int)-8=((4+C.size+F.size:Nat):Int)by omega];exact d1
theorem ZK {B:ByteArray}:(bH B).extract 0 B.size=B/\(aF (bH B)).drop B.size=four (gO B)++ []:=by
 have h:(aF (bH B)).drop 0=aF B++(four (gO B)++ []):=by
  rw[List.drop_zero,bH,bG,bF (lS _),List.append_nil]
 obtain⟨a1,a2,_⟩:=gZ h
 simp only[Nat.zero_add]at a1 a2
 exact⟨a1,a2⟩
theorem LH {s:Schema} {C B:ByteArray} (h0:aU s=0) (h4:4<=B.size) (hB:B.size<4294967290) :
  aZ s (dH C (bH B))=if cB B 0≠gO (rW s)then(hE,[],1)else yE s (B.extract 4 B.size) (dH C (bH B)).size C.size:=by
 generalize hR:(if cB B 0≠gO (rW s)then(hE,[],1)else yE s (B.extract 4 B.size) (dH C (bH B)).size C.size)=R
 have hs:=gV B
 obtain⟨f1,f2,f3,f4⟩:=wH (C:=C) (F:=bH B) (by omega)
 have hz:=lF C (bH B)
 obtain⟨p1,p2⟩:=ZK (B:=B)
 have e:(dH C (bH B)).extract (4+C.size) (4+C.size+B.size)=B:=by
  have h1:((dH C (bH B)).extract (4+C.size) (4+C.size+(bH B).size)).extract 0 B.size=B:=by rw[f4];exact p1
  rw[ByteArray.extract_extract,show 4+C.size+0=4+C.size from rfl,show min (4+C.size+B.size) (4+C.size+(bH B).size)=4+C.size+B.size by omega]at h1
  exact h1
 have w:cB (dH C (bH B)) ((dH C (bH B)).size-12)=gO B:=by
  have h1:cB ((dH C (bH B)).extract (4+C.size) (4+C.size+(bH B).size)) (B.size:Int)=gO B:=by rw[f4];exact(qO (DC B) p2).1
  rw[lE (by omega) (by omega)]at h1
  rw[show((dH C (bH B)).size:Int)-12=((4+C.size:Nat):Int)+(B.size:Int)by omega]
  exact h1
 generalize dH C (bH B)=W at *
 rw[aZ,if_neg (fun q=>q h0),if_neg (by omega),f3,GE,if_neg (by omega),if_neg (by rw[f1,f2];rintro(q|q|q);cases q;cases q;omega),show(W.size:Int)-8-((bH B).size:Int)=((4+C.size:Nat):Int)by omega,show W.size-12=4+C.size+B.size by omega,Int.toNat_natCast,e,mL,w,if_neg (fun q=>q rfl),show(W.size:Int)-12-((bH B).size:Int)=(C.size:Int)by omega]
 exact hR
theorem tU {m:Nat}:∀ {l:List ByteArray},(∀b,b∈l->b.size<=m)->(bT l).size<=m*l.length
 | [],_=>Nat.zero_le _
 |b::l,h=>by
  have h1:=h b (List.mem_cons_self ..)
  have h2:=tU fun x hx=>h x (List.mem_cons_of_mem _ hx)
  rw[bT,ByteArray.size_append,List.length_cons,Nat.mul_succ];omega
theorem qQN (v:Val):1<=(yJ v).size:=by
 unfold yJ
 split
 · exact Nat.le_refl 1
 · simp only[ByteArray.size_append]
   have s1:(⟨#[1]⟩:ByteArray).size=1:=rfl
   omega
theorem lJ {s:Schema} {r:Rank} (h:SS s r):2<=(dN r).size/\(dN r).size<=1048700:=by
 have h1:=uI (v:=r.1)
 have h2:=qQN r.1
 have h3:=bM r.2
 have h4:=h.1.2.2
 unfold dN
 rw[ByteArray.size_append,bK];omega
theorem uN {z:Zone} (h:GH z):(tD z).size<=2200000:=by
 obtain⟨_,_,h3,h4⟩:=h
 have a1:=uI (v:=z.2.2.1)
 have a2:=uI (v:=z.2.2.2)
 have a3:=bM (eH 0 z.1)
 have a4:=bM (eH 0 z.2.1)
 have a5:=h3.2.2
 have a6:=h4.2.2
 unfold tD
 simp only[ByteArray.size_append,bK];omega
theorem qO7 {s:Schema} {l:List Rec} (m:Made s l):8<=(bZ s l).size/\(bZ s l).size<4294967290:=by
 have hs:=bB m.sch
 have p1:=bM (l.length:Int)
 have b1:(bT ((chnks s l).map szB)).size<=10*((chnks s l).map szB).length:=tU fun b hb=>by
  obtain⟨c,_,rfl⟩:=List.mem_map.1 hb
  rw[szB,bK];exact(bM _).1
 have b2:(bT ((eD s l (List.range s.1.length)).map tD)).size<=2200000*((eD s l (List.range s.1.length)).map tD).length:=tU fun b hb=>by
  obtain⟨z,hz,rfl⟩:=List.mem_map.1 hb
  obtain⟨i,hi,rfl⟩:=List.mem_map.1 hz
  rw[List.mem_range]at hi
  exact uN (m.zone i hi).1
 rw[List.length_map,fT]at b1
 rw[List.length_map,eD,List.length_map,List.length_range]at b2
 have r1:=lJ m.lo
 have r2:=lJ m.hi
 have f4:(four (gO (rW s))).length=4:=rfl
 unfold bZ
 simp only[ByteArray.size_append,bK,pY,eD]at b2 ⊢
 omega
theorem tY {s:Schema} {l:List Rec} (m:Made s l):aZ s (cS s l)=(((l.length:Int),eD s l (List.range s.1.length),eM s l[0]!,eM s l[l.length-1]!),(chnks s l).map dT,0):=by
 have hsz:=qO7 m
 have hw:cB (bZ s l) 0=gO (rW s):=(qO (s:=bZ s l) (a:=0) (DC _) (by
  rw[List.drop_zero,bZ]
  simp only[bG,bF (lS _),List.append_assoc]
  rfl)).1
 rw[cS,LH m.sch (by omega) hsz.2,if_neg (fun q=>q hw)]
 have hr:=qG1 m
 obtain⟨_,p2⟩:=AG (s:=s) (f:=bZ s l) (st:=4+dP ((chnks s l).map dT)) (m:=(dH (bT (chnks s l)) (bH (bZ s l))).size) (by omega) (by rw[lF,<-pV];omega)
 obtain⟨k,e1,e2,e3,e4,e5,_⟩:=p2 (by rw[hr])
 rw[show 4+dP ((chnks s l).map dT)-4=((bT (chnks s l)).size:Int)by rw[pV];omega]at e1
 rw[e1,hr]
 rw[hr]at e2
 (try simp only at e2)
 (try simp only)
 have hk:k=(chnks s l).map dT:=by
  apply List.ext_getElem
  · rw[e3,List.length_map,fT]
  · intro i h1 h2
    have len:((chnks s l).map dT).length=k.length:=by rw[e3,List.length_map,fT]
    have a0:=congrArg (fun x:List Int=>x[i]!) e2
    have a1:=congrArg (fun x:List Int=>x[i+1]!) e2
    rw[yA (by omega),yA (by omega)]at a0 a1
    have b0:=nK (l:=k) (k:=(i:Int)) ⟨by omega,by omega⟩
    have b1:=nK (l:=(chnks s l).map dT) (k:=(i:Int)) ⟨by omega,by omega⟩
    rw[show((i:Int)+1).toNat=i+1 by omega,show((i:Int)).toNat=i from rfl]at b0 b1
    rw[getElem!_pos k i h1]at b0
    rw[getElem!_pos _ i h2]at b1
    omega
 rw[hk]
theorem KP:∀(cs:List ByteArray) (i:Nat) {f:ByteArray} {a:Nat} {r:List Int},i<cs.length->(aF f).drop a=aF (bT cs)++r ->
  f.extract (a+(bT (cs.take i)).size) (a+(bT (cs.take i)).size+(cs[i]!).size)=cs[i]!
 | [],_,_,_,_,h,_=>by cases h
 |c::cs,0,f,a,r,_,h=>by
  rw[bT,bG,List.append_assoc]at h
  exact(gZ h).1
 |c::cs,i+1,f,a,r,hi,h=>by
  rw[bT,bG,List.append_assoc]at h
  have:=KP cs i (by simpa using hi) (gZ h).2.1
  rw[List.take_succ_cons,bT,ByteArray.size_append]
  show f.extract (a+(c.size+(bT (cs.take i)).size)) (a+(c.size+(bT (cs.take i)).size)+(cs[i]!).size)=cs[i]!
  rw[<-Nat.add_assoc];exact this
theorem RT {s:Schema} {l:List Rec} {i:Nat} (hi:i<s.1.length+1):(chnks s l)[i]! =chnk s l i:=by
 rw[getElem!_pos _ i (by rw[fT];exact hi)];simp [chnks]
theorem qBS {cs:List ByteArray} {f:ByteArray} {r:List Int} {i:Nat} (hi:i<cs.length) (h:(aF f).drop 4=aF (bT cs)++r):yF f (cs.map dT) i=cs[i]!:=by
 have e:=KP cs i hi h
 have h1:dP ((cs.map dT).take i)=((bT (cs.take i)).size:Int):=by rw[<-List.map_take,pV]
 have h2:(cs.map dT)[i]! =(cs[i]!.size:Int):=by
  rw[getElem!_pos _ i (by rw[List.length_map];exact hi),getElem!_pos cs i hi,List.getElem_map];rfl
 unfold yF
 rw[Int.toNat_natCast,h1,h2,show(4+((bT (cs.take i)).size:Int)).toNat=4+(bT (cs.take i)).size by omega,show(4+((bT (cs.take i)).size:Int)+(cs[i]!.size:Int)).toNat=4+(bT (cs.take i)).size+cs[i]!.size by omega]
 exact e
theorem CQ {C F:ByteArray}:∃r,(aF (dH C F)).drop 4=aF C++r:=by
 have h0:(aF (dH C F)).drop 0=aF fY++(aF C++(aF F++(four (F.size:Int)++aF fY))):=qP
 have h:=(gZ h0).2.1
 exact⟨_,h⟩
theorem qJI (s:Schema) (l:List Rec) (i:Nat):(vL s l i).length=l.length:=by
 unfold vL
 split
 · simp [gE]
 · exact lN l i
theorem RR {s:Schema} {l:List Rec} (m:Made s l) {i:Nat} (hi:i<s.1.length+1) (hd:nQ (nP s i) (chnk s l i)=(vL s l i,0)):chV s (cS s l) (aZ s (cS s l)) i=(vL s l i,0):=by
 obtain⟨r,hr⟩:=CQ (C:=bT (chnks s l)) (F:=bH (bZ s l))
 have hp:yF (cS s l) ((chnks s l).map dT) i=chnk s l i:=by
  rw[cS,qBS (by rw[fT];exact hi) hr,RT hi]
 unfold chV
 rw[tY m]
 simp only
 unfold jC
 rw[hp,hd]
 simp only[qJI]
 rw[if_neg (fun q=>q rfl),if_neg (fun q=>q rfl)]
theorem PX {s:Schema} {l:List Rec} (hv:cV s l=true) {j:Nat} (hj:j<l.length):(l[j]!).2.length=s.1.length:=by
 have h:=(dI hv).2 j hj
 unfold mC at h
 split at h
 · cases h
 · rename_i q;exact Decidable.not_not.1 q
theorem qG3 {s:Schema} {l:List Rec} (m:Made s l) (hv:cV s l=true) (hd:∀i:Nat,i<s.1.length+1->nQ (nP s i) (chnk s l i)=(vL s l i,0)):qL3 s (cS s l) (aZ s (cS s l))=l:=by
 have hc:∀i:Nat,i<s.1.length+1->chL s (cS s l) (aZ s (cS s l)) i=vL s l i:=fun i hi=>by
  show(chV s (cS s l) (aZ s (cS s l)) i).1=_
  rw[RR m hi (hd i hi)]
 have hn:(aZ s (cS s l)).1.1.toNat=l.length:=by rw[tY m];rfl
 unfold qL3
 rw[hn]
 apply List.ext_getElem?;intro j
 by_cases h:j<l.length
 · rw[oB h,List.getElem?_eq_getElem h,<-getElem!_pos l j h]
   congr 1
   have hr:=PX hv h
   unfold oY
   rw[if_pos (.inl (Nat.lt_succ_self _)),if_neg (Nat.not_lt_zero _),Nat.min_eq_left (by omega),hc _ (by omega)]
   refine Prod.ext ?_ ?_
   · show(vL s l s.1.length)[j]!.2.1=_
     rw[vL,if_pos rfl,gE,getElem!_pos _ j (by simpa using h),List.getElem_map,getElem!_pos l j h]
   · show(List.range s.1.length).map _=l[j]!.2
     apply List.ext_getElem
     · rw[List.length_map,List.length_range,hr]
     · intro c h1 h2
       rw[List.length_map,List.length_range]at h1
       rw[List.getElem_map,List.getElem_range,hc c (by omega),vL,if_neg (by omega),fO,getElem!_pos _ j (by simpa using h),List.getElem_map]
       unfold atV
       rw[<-getElem!_pos l j h,if_pos h2,getElem!_pos _ c h2]
 · rw[List.getElem?_eq_none (by rw[iW];omega),List.getElem?_eq_none (by omega)]
theorem qG5 {s:Schema} {l:List Rec} (m:Made s l) (hs:cY s l=true) (hd:∀i:Nat,i<s.1.length+1->nQ (nP s i) (chnk s l i)=(vL s l i,0)):kH s (cS s l)=(l,0):=by
 have hv:cV s l=true:=by
  unfold cY at hs
  cases h:cV s l with
  |true=>rfl
  |false=>rw[h]at hs;cases hs
 have he:∀(k i:Nat),i+k=s.1.length+1->vQ (chE s (cS s l) (aZ s (cS s l))) k i=0:=by
  intro k
  induction k with
  |zero=>intro i _;rfl
  |succ k ih=>
   intro i hi
   have h0:chE s (cS s l) (aZ s (cS s l)) i=0:=by
    show(chV s (cS s l) (aZ s (cS s l)) i).2=0
    rw[RR m (by omega) (hd i (by omega))]
   rw[vQ,if_neg (fun q=>q h0)]
   exact ih (i+1) (by omega)
 have hf:(aZ s (cS s l)).2.2=0:=by rw[tY m]
 have hi:(aZ s (cS s l)).1=BW s l:=by rw[tY m];rfl
 unfold kH tF
 rw[if_neg (fun q=>q hf),if_neg (fun q=>q (he _ 0 (by omega))),qG3 m hv hd,hi,HD,if_neg (by rw[hs];intro q;cases q),if_neg (by rintro(q|q|q)<;>exact q rfl)]
def wN (l:List Rec):Prop:=∀r,r∈l->∀v,v∈r.2->inI v.2.1
theorem oU {c:Col} {l:List Val} (hl:l.length<=4096) (hv:∀v,v∈l->okV v):(hU c l).1.size<=4398046585379:=by
 unfold hU
 split
 · exact Nat.zero_le _
 split
 · exact Nat.zero_le _
 split
 · exact Nat.zero_le _
 rcases qI9 (t:=c.2.1) (l:=l) 4 1 ⟨#[]⟩ (.inl rfl)with q|⟨j,hj,q⟩
 · rw[q];exact Nat.zero_le _
 · rw[q];exact(EF hv hl).1
theorem pQ {s:Schema} {l:List Rec} (hv:cV s l=true) (hi:wN l) {i:Nat} (h:i<s.1.length):∀v,v∈fO l i->bR s.1[i]! v=0/\inI v.2.1:=by
 intro v hm
 obtain⟨r,hr,rfl⟩:=List.mem_map.1 hm
 obtain⟨j,hj,rfl⟩:=List.mem_iff_getElem.1 hr
 have h0:=(dI hv).2 j hj
 have hn:=PX hv hj
 rw[getElem!_pos l j hj]at h0 hn
 unfold atV
 rw[if_pos (by omega)]
 refine⟨?_,?_⟩
 · unfold mC at h0
   rw[if_neg (fun q=>q hn)]at h0
   have:=pX h0 (i:Int) ⟨by omega,by omega⟩
   exact this
 · rw[getElem!_pos _ i (by omega)]
   exact hi _ (List.getElem_mem hj) _ (List.getElem_mem _)
theorem wB {s:Schema} {l:List Rec} (hv:cV s l=true):∀v,v∈gE l->bR wA v=0/\inI v.2.1:=by
 intro v hm
 obtain⟨r,hr,rfl⟩:=List.mem_map.1 hm
 simp only[cV,Bool.and_eq_true,decide_eq_true_eq,List.all_eq_true]at hv
 have q:=hv.2 r hr
 simp only[mP,Bool.and_eq_true,decide_eq_true_eq]at q
 refine⟨rfl,?_⟩
 show inI r.1
 unfold inI;omega
theorem qQ1 {s:Schema} {l:List Rec} (hv:cV s l=true) {j:Nat} (hj:j<l.length):0<=(l[j]!).1/\(l[j]!).1<=1099511627776:=by
 simp only[cV,Bool.and_eq_true,decide_eq_true_eq,List.all_eq_true]at hv
 have q:=hv.2 l[j]! (by rw[getElem!_pos l j hj];exact List.getElem_mem hj)
 simp only[mP,Bool.and_eq_true,decide_eq_true_eq]at q
 omega
theorem DG {c:Col} {v:Val} (h:bR c v=0/\inI v.2.1):GG v:=by
 have ho:=dR h.1 h.2
 exact⟨fun q=>FQ h.1 q,h.2,ho.1⟩
theorem qRY {P:Val->Prop} (h0:P gP) {t g:Int} {a b:Val} (ha:P a) (hb:P b):P (rM t g a b):=by
 unfold rM
 split
 · exact h0
 split
 · exact hb
 split
 · exact ha
 split
 · exact hb
 · exact ha
theorem qNY {P:Val->Prop} (h0:P gP) {t:Int}:∀(l:List Val) (z:Int×Val×Val),P z.2.1->P z.2.2->(∀v,v∈l->P v)->P (zGo t l z).2.1/\P (zGo t l z).2.2/\z.1<=(zGo t l z).1/\(zGo t l z).1<=z.1+l.length
 | [],z,h1,h2,_=>⟨h1,h2,Int.le_refl _,by simp [zGo]⟩
 |v::l,z,h1,h2,h=>by
  have hv:=h v (List.mem_cons_self ..)
  have hl:∀x,x∈l->P x:=fun x hx=>h x (List.mem_cons_of_mem _ hx)
  have e:zGo t (v::l) z=zGo t l (CS t z v):=rfl
  rw[e,List.length_cons]
  unfold CS
  split
  · obtain⟨q1,q2,q3,q4⟩:=qNY h0 (t:=t) l (z.1+1,z.2.1,z.2.2) h1 h2 hl
    exact⟨q1,q2,by simp only at q3;omega,by simp only at q4;omega⟩
  · obtain⟨q1,q2,q3,q4⟩:=qNY h0 (t:=t) l (z.1,rM t (-1) z.2.1 v,rM t 1 z.2.2 v) (qRY h0 h1 hv) (qRY h0 h2 hv) hl
    exact⟨q1,q2,by simp only at q3;omega,by simp only at q4;omega⟩
theorem AF:GG gP:=⟨fun _=>rfl,QH,Nat.zero_le _⟩
theorem AP {t:Int} {l:List Val} (hl:l.length<=4096) (h:∀v,v∈l->GG v):GH (qQ t l):=by
 obtain⟨q1,q2,q3,q4⟩:=qNY AF (t:=t) l (0,gP,gP) AF AF h
 refine⟨⟨?_,?_⟩,⟨q3,?_⟩,q1,q2⟩
 · show(0:Int)<=(l.length:Int);omega
 · show(l.length:Int)<=4096;omega
 · show(zGo t l (0,gP,gP)).1<=4096
   simp only at q4;omega
theorem xH {s:Schema} {l:List Rec} {i:Nat} (h:i<s.1.length):chnk s l i=(hU s.1[i]! (fO l i)).1:=by
 unfold chnk nP vL
 rw[if_neg (by omega),if_neg (by omega),Int.toNat_natCast]
theorem xI {s:Schema} {l:List Rec}:chnk s l s.1.length=(hU wA (gE l)).1:=by
 unfold chnk nP vL
 rw[if_pos rfl,if_pos rfl]
theorem oV {s:Schema} {l:List Rec} (hv:cV s l=true) (hi:wN l) (hl:l.length<=1024) {k:Int} (h:0<=k/\k<s.1.length) :
  @getElem! (List (List Val)) Nat (List Val) (fun xs i=>i<xs.length) _ (instInhabitedDen (.list bQ)) (oT l s.1.length) k.toNat=fO l k.toNat/\(fO l k.toNat).length<=1024/\(∀v,v∈fO l k.toNat->inI v.2.1)/\(hU s.1[k.toNat]! (fO l k.toNat)).1.size<=4398046585379/\GH (qQ s.1[k.toNat]!.2.1 (fO l k.toNat)):=by
 have hk:k.toNat<s.1.length:=by omega
 have hs:=bB (dI hv).1
 have ho:=pQ hv hi hk
 have hlen:=lN l k.toNat
 refine⟨(sI (l:=l) (n:=(s.1.length:Int)) ⟨by omega,by omega⟩).2 _ (by omega),by omega,fun v q=>(ho v q).2,oU (by omega) fun v q=>dR (ho v q).1 (ho v q).2,AP (by omega) fun v q=>DG (ho v q)⟩
theorem ON {s:Schema} {l:List Rec} (hv:cV s l=true) (hl:l.length<=1024):(gE l).length<=1024/\(∀v,v∈gE l->inI v.2.1)/\(hU ((⟨#[115,101,113]⟩,1,0,false):Col) (gE l)).1.size<=4398046585379:=by
 have ho:=wB hv
 have hlen:(gE l).length=l.length:=by simp [gE]
 exact⟨by omega,fun v q=>(ho v q).2,oU (by omega) fun v q=>dR (ho v q).1 (ho v q).2⟩
theorem gT {s:Schema} {l:List Rec} (hv:cV s l=true) (hi:wN l) {j:Nat} (hj:j<l.length):SS s (eM s l[j]!):=by
 have hs:=bB (dI hv).1
 have hn:=PX hv hj
 have hq:=qQ1 hv hj
 have ho:=pQ hv hi (i:=s.2.toNat) (by omega)
 have hm:(l[j]!).2[s.2.toNat]! ∈fO l s.2.toNat:=List.mem_map.2 ⟨l[j]!,by rw[getElem!_pos l j hj];exact List.getElem_mem hj,by unfold atV;rw[if_pos (by omega)]⟩
 unfold eM
 rw[if_neg (by omega)]
 have h1:=ho _ hm
 exact⟨DG h1,h1.1,hq⟩
theorem cO {s:Schema} {l:List Rec} (h:cY s l=true):cV s l=true:=by
 unfold cY at h
 cases q:cV s l with
 |true=>rfl
 |false=>rw[q]at h;cases h
theorem qVJ {s:Schema} {l:List Rec} (h:¬(idS s).2=0):hJ s l=(⟨#[]⟩,(idS s).2):=by rw[qPI]at h ⊢;rw[hJ,if_pos h]
theorem qVK {s:Schema} {l:List Rec} (h:(idS s).2=0) (h1:l.length>1024):hJ s l=(⟨#[]⟩,7):=by rw[qPI]at h;rw[hJ,if_neg (fun q=>q h),if_pos h1]
theorem qRR {s:Schema} {l:List Rec} (h:(idS s).2=0) (h1:¬l.length>1024) (h2:l.length=0\/cY s l=false):hJ s l=(⟨#[]⟩,1):=by rw[qPI]at h;rw[hJ,if_neg (fun q=>q h),if_neg h1,if_pos h2]
theorem qRS {s:Schema} {l:List Rec} (h:(idS s).2=0) (h1:¬l.length>1024) (h2:¬l.length=0) (h3:cY s l=true):hJ s l=(cS s l,0):=by
 rw[qPI]at h
 rw[hJ,if_neg (fun q=>q h),if_neg h1,if_neg (by rintro(q|q);exact h2 q;rw[h3]at q;cases q)]
abbrev chP (s:Schema) (l:List Rec) (k:Nat):List ByteArray:=(List.range k).map (chnk s l)
theorem RQ {s:Schema} {l:List Rec} {k:Int} (h:0<=k):chP s l (k+1).toNat=chP s l k.toNat++ [chnk s l k.toNat]:=by
 rw[show(k+1).toNat=k.toNat+1 by omega,chP,List.range_succ,List.map_append];rfl
theorem KR {s:Schema} {l:List Rec}:chnks s l=chP s l s.1.length++ [(hU ((⟨#[115,101,113]⟩,1,0,false):Col) (gE l)).1]:=by
 rw[chnks,List.range_succ,List.map_append,List.map_cons,List.map_nil,xI]
theorem sH (b:ByteArray):bT [b]=b:=CX b
abbrev EY:Ct:=.fn [cC,.list fP] (some (fun(s:Schema) (l:List Rec)=>(l.length<=1099511627776)/\(wN l))) (fun(s:Schema) (l:List Rec)=>.tup [.str,.int .i64] ((hJ s l).1,(hJ s l).2,()))
theorem qMA:aH Tryz.prog 14 EY:=by
 refine aH.fn VX mixed [] [] rfl rfl ?_
 rintro⟨(s:Schema),(l:List Rec),_⟩ hpre
 replace hpre:=hpre _ rfl
 dsimp only[cu]at hpre
 obtain⟨hl,hin⟩:=hpre
 refine⟨[(0,22,LA.mk [.sl 47 (.int .i64),.sl 9 .str,.sl 10 .str,.sl 11 .str] (fun y=>Tag 86/\cu [.int .i64,.str,.str,.str] (fun(k:Int) (o:ByteArray) (q:ByteArray) (z:ByteArray)=>(0<=k/\k<=s.1.length)/\(o=fY++bT (chP s l k.toNat))/\(q=bT ((chP s l k.toNat).map szB))/\(z=bT ((eD s l (List.range k.toNat)).map tD))/\((o.size:Int)<=4+4398046585379*k)/\((q.size:Int)<=10*k)/\((z.size:Int)<=2200000*k)) y) (cu [.int .i64,.str,.str,.str] (fun(k:Int) (o:ByteArray) (q:ByteArray) (z:ByteArray)=>((s.1.length:Int)-k).toNat)) (cu [.int .i64,.str,.str,.str] (fun(k:Int) (o:ByteArray) (q:ByteArray) (z:ByteArray)=>([]:List (Nat×Nat×LA)))))],?_⟩
 repeat' (first
  |(
 with_reducible refine Side.mk ⟨(⟨⟩:Tag 86),?_⟩
 dsimp only[cu,aC,aB,gts,Prod.eta,List.nil_append]
 refine⟨?_,?_,?_,?_,?_,?_,?_⟩
 · omega
 · first
   |(exact(CX _).symm)
   |(
  have hv:=cO (s:=s) (l:=l) (kK (by with_reducible assumption))
  have hs:=bB (dI hv).1
  have ec:=oV hv hin (by omega) (k:=k) (by omega)
  obtain⟨c1,c2,c3,c4,c5⟩:=ec
  rw[ho,c1,RQ (by omega),sG,sH,xH (by omega),ByteArray.append_assoc])
 · first
   |(rfl)
   |(
  have hv:=cO (s:=s) (l:=l) (kK (by with_reducible assumption))
  have hs:=bB (dI hv).1
  have ec:=oV hv hin (by omega) (k:=k) (by omega)
  obtain⟨c1,c2,c3,c4,c5⟩:=ec
  have hu:=aW (n:=(((hU s.1[k.toNat]! (fO l k.toNat)).1.size:Nat):Int)) (by omega)
  rw[hq,c1,hu,RQ (by omega),List.map_append,sG,List.map_cons,List.map_nil,sH,xH (by omega)]
  rfl)
 · first
   |(rfl)
   |(
  have hv:=cO (s:=s) (l:=l) (kK (by with_reducible assumption))
  have hs:=bB (dI hv).1
  have ec:=oV hv hin (by omega) (k:=k) (by omega)
  obtain⟨c1,c2,c3,c4,c5⟩:=ec
  rw[hz,c1,CT (by omega),List.map_append,sG,List.map_cons,List.map_nil,sH])
 · first
   |(exact Int.le_refl _)
   |(
  have hv:=cO (s:=s) (l:=l) (kK (by with_reducible assumption))
  have hs:=bB (dI hv).1
  have ec:=oV hv hin (by omega) (k:=k) (by omega)
  obtain⟨c1,c2,c3,c4,c5⟩:=ec
  rw[c1,ByteArray.size_append]
  omega)
 · first
   |(exact Int.le_refl _)
   |(
  have hv:=cO (s:=s) (l:=l) (kK (by with_reducible assumption))
  have hs:=bB (dI hv).1
  have ec:=oV hv hin (by omega) (k:=k) (by omega)
  obtain⟨c1,c2,c3,c4,c5⟩:=ec
  have hu:=aW (n:=(((hU s.1[k.toNat]! (fO l k.toNat)).1.size:Nat):Int)) (by omega)
  have p1:=bM (((hU s.1[k.toNat]! (fO l k.toNat)).1.size:Nat):Int)
  have p2:=uN c5
  rw[c1,hu,ByteArray.size_append,bK]
  omega)
 · first
   |(exact Int.le_refl _)
   |(
  have hv:=cO (s:=s) (l:=l) (kK (by with_reducible assumption))
  have hs:=bB (dI hv).1
  have ec:=oV hv hin (by omega) (k:=k) (by omega)
  obtain⟨c1,c2,c3,c4,c5⟩:=ec
  have p1:=bM (((hU s.1[k.toNat]! (fO l k.toNat)).1.size:Nat):Int)
  have p2:=uN c5
  rw[c1,ByteArray.size_append]
  omega))
  |(
 with_reducible refine Side.mk ?_
 (try dsimp only[cu,aC,aB,gts,loK,hiK,Prod.eta,List.nil_append])
 first
 |(omega)
 |(
  have hv:=cO (s:=s) (l:=l) (kK (by with_reducible assumption))
  have hs:=bB (dI hv).1
  first
  |(omega)
  |(
   have ec:=oV hv hin (by omega) (k:=k) (by omega)
   obtain⟨c1,c2,c3,c4,c5⟩:=ec
   first
   |(
    rw[c1]
    first
    |(omega)
    |(exact⟨by omega,c3⟩))
   |(
    have p1:=bM (((hU s.1[k.toNat]! (fO l k.toNat)).1.size:Nat):Int)
    have p2:=uN c5
    rw[c1]
    omega)
   |(
    have hu:=aW (n:=(((hU s.1[k.toNat]! (fO l k.toNat)).1.size:Nat):Int)) (by omega)
    have p1:=bM (((hU s.1[k.toNat]! (fO l k.toNat)).1.size:Nat):Int)
    have p2:=uN c5
    first
    |(
     rw[c1,hu]
     omega)
    |(
     rw[c1,hu,bK]
     omega))
   |(
    rw[c1]
    exact⟨⟨c5.1.2,c5.2.1.2⟩,⟨c5.2.2.1.2.1,by have:=c5.2.2.1.2.2;omega⟩,⟨c5.2.2.2.2.1,by have:=c5.2.2.2.2.2;omega⟩⟩))
  |(
   have es:=ON hv (by omega)
   obtain⟨d1,d2,d3⟩:=es
   first
   |(exact⟨by omega,d2⟩)
   |(omega)
   |(
    have hu:=aW (n:=(((hU ((⟨#[115,101,113]⟩,1,0,false):Col) (gE l)).1.size:Nat):Int)) (by omega)
    have p1:=bM (((hU ((⟨#[115,101,113]⟩,1,0,false):Col) (gE l)).1.size:Nat):Int)
    first
    |(
     rw[hu]
     omega)
    |(
     rw[hu,bK]
     omega)))
  |(
   have hul:=aW (n:=(l.length:Int)) (by omega)
   have p3:=bM (l.length:Int)
   rw[hul]
   omega)
  |(
   have r1:=gT hv hin (j:=(0:Int).toNat) (by omega)
   have r2:=gT hv hin (j:=((l.length:Int)-1).toNat) (by omega)
   have z1:=lJ r1
   have z2:=lJ r2
   first
   |(exact⟨⟨r1.2.2.1,r1.2.2.2⟩,r1.1.2.1,by have:=r1.1.2.2;omega⟩)
   |(exact⟨⟨r2.2.2.1,r2.2.2.2⟩,r2.1.2.1,by have:=r2.1.2.2;omega⟩))
  |(
   have hul:=aW (n:=(l.length:Int)) (by omega)
   have p3:=bM (l.length:Int)
   have hv:=cO (s:=s) (l:=l) (kK (by with_reducible assumption))
   have hs:=bB (dI hv).1
   have es:=ON hv (by omega)
   obtain⟨d1,d2,d3⟩:=es
   have hu:=aW (n:=(((hU ((⟨#[115,101,113]⟩,1,0,false):Col) (gE l)).1.size:Nat):Int)) (by omega)
   have p1:=bM (((hU ((⟨#[115,101,113]⟩,1,0,false):Col) (gE l)).1.size:Nat):Int)
   have r1:=gT hv hin (j:=(0:Int).toNat) (by omega)
   have r2:=gT hv hin (j:=((l.length:Int)-1).toNat) (by omega)
   have z1:=lJ r1
   have z2:=lJ r2
   have f4:∀v,(four v).length=4:=fun _=>rfl
   have u9:(⟨#[77,80,84,49]⟩:ByteArray).size=4:=rfl
   simp only[ByteArray.size_append,bK,hu,hul,f4]
   omega)
  |(
   have ec:=oV hv hin (by omega) (k:=k) (by omega)
   obtain⟨c1,c2,c3,c4,c5⟩:=ec
   have:=(sI (l:=l) (n:=(s.1.length:Int)) ⟨by omega,by omega⟩).1
   omega)))
  |(conv=>whnf
    first
     |done
     |exact trivial
     |with_reducible refine NilBr.mk (fun h=>?_) ?_
     |with_reducible first|refine aJ ?_ ?_|refine aI ?_ ?_|refine aK (by kernel_rfl) ?_|refine aL ?_|refine bD ?_ ?_|refine bC ?_ ?_|refine aR ?_ ?_
     |((with_reducible first|refine aT (fun h=>?_) (fun h=>?_)|refine aS (fun h=>?_) (fun h=>?_)|refine bA (fun h=>?_) (fun h=>?_))<;>(try dsimp only[cu,Prod.eta,List.nil_append]at h)<;>(try(exfalso;omega;done)))
     |(
 intro yy (hy:Tag 86/\_)
 obtain⟨(k:Int),(o:ByteArray),(q:ByteArray),(z:ByteArray),_⟩:=yy
 replace hy:=hy.2
 dsimp only[cu,aC,aB,gts,Prod.eta,List.nil_append]at hy
 obtain⟨hk,ho,hq,hz,hzo,hzq,hzz⟩:=hy)))
 all_goals(
 with_reducible refine Leaf.mk ?_
 (try dsimp only[cu,aC,aB,gts,Prod.eta,List.nil_append]at *)
 first
 |(rw[qVJ (by with_reducible assumption)])
 |(rw[qVK (by with_reducible assumption) (by omega)])
 |(rw[qRR (by with_reducible assumption) (by omega) (.inl (by omega))])
 |(rw[qRR (by with_reducible assumption) (by omega) (.inr (YN (by with_reducible assumption)))])
 |(
  have hv:=cO (s:=s) (l:=l) (kK (by with_reducible assumption))
  have hs:=bB (dI hv).1
  have hul:=aW (n:=(l.length:Int)) (by omega)
  have p3:=bM (l.length:Int)
  have hv:=cO (s:=s) (l:=l) (kK (by with_reducible assumption))
  have hs:=bB (dI hv).1
  have es:=ON hv (by omega)
  obtain⟨d1,d2,d3⟩:=es
  have hu:=aW (n:=(((hU ((⟨#[115,101,113]⟩,1,0,false):Col) (gE l)).1.size:Nat):Int)) (by omega)
  have p1:=bM (((hU ((⟨#[115,101,113]⟩,1,0,false):Col) (gE l)).1.size:Nat):Int)
  have r1:=gT hv hin (j:=(0:Int).toNat) (by omega)
  have r2:=gT hv hin (j:=((l.length:Int)-1).toNat) (by omega)
  have z1:=lJ r1
  have z2:=lJ r2
  have f4:∀v,(four v).length=4:=fun _=>rfl
  have u9:(⟨#[77,80,84,49]⟩:ByteArray).size=4:=rfl
  have hk2:k.toNat=s.1.length:=by omega
  rw[hk2]at ho hq hz
  have hf:bZ s l=aV (four (idS s).1)++aV (put (l.length:Int))++(q++aV (put (((hU ((⟨#[115,101,113]⟩,1,0,false):Col) (gE l)).1.size:Nat):Int)))++z++dN (eM s l[(0:Int).toNat]!)++dN (eM s l[((l.length:Int)-1).toNat]!):=by
   rw[bZ,KR,List.map_append,sG,List.map_cons,List.map_nil,sH,<-hq,<-hz,YB (dI hv).1,show((l.length:Int)-1).toNat=l.length-1 by omega]
   rfl
  have hfs:((bH (bZ s l)).size:Int)<4294967296:=by
   rw[gV,hf]
   simp only[ByteArray.size_append,bK,f4]
   omega
  rw[qRS (by with_reducible assumption) (by omega) (by omega) (kK (by with_reducible assumption))]
  rw[hu,hul,<-hf]
  show o++(hU ((⟨#[115,101,113]⟩,1,0,false):Col) (gE l)).1++bH (bZ s l)++aV (four (IntKind.u32.wrap ((bH (bZ s l)).size:Int)))++fY=dH (bT (chnks s l)) (bH (bZ s l))
  rw[wG ⟨by omega,hfs⟩,ho,KR,sG,sH,dH]
  simp only[ByteArray.append_assoc])
 |(rw[qRS (by with_reducible assumption) (by omega) (by omega) (kK (by with_reducible assumption))]))
abbrev qSV:Tbl:=(14,EY)::qSU
theorem VY:aD Tryz.prog qSV:=aD.cons qMA VX
theorem qYS {a c:Int} (ha:0<=a/\a<4294967296) (hc:0<=c/\c<4294967296):lM .u32 a c=((a.toNat ^^^ c.toNat:Nat):Int):=by
 have q:∀x:Int,0<=x/\x<4294967296->(BitVec.ofInt IntKind.u32.bits x).toNat=x.toNat:=by
  intro x hx
  rw[BitVec.toNat_ofInt]
  simp [IntKind.bits];omega
 unfold lM
 rw[BitVec.toNat_xor,q a ha,q c hc]
 have:a.toNat ^^^ c.toNat<2^32:=Nat.xor_lt_two_pow (by omega) (by omega)
 exact wG (by omega)
theorem qYT {a c:Int} (ha:0<=a/\a<256) (hc:0<=c/\c<256):lM .u8 a c=((a.toNat ^^^ c.toNat:Nat):Int):=by
 have q:∀x:Int,0<=x/\x<256->(BitVec.ofInt IntKind.u8.bits x).toNat=x.toNat:=by
  intro x hx
  rw[BitVec.toNat_ofInt]
  simp [IntKind.bits];omega
 unfold lM
 rw[BitVec.toNat_xor,q a ha,q c hc]
 have:a.toNat ^^^ c.toNat<2^8:=Nat.xor_lt_two_pow (by omega) (by omega)
 exact MZ (by omega)
theorem wI {a b c:Nat} (h:a ^^^ b=a ^^^ c):b=c:=by
 have:a ^^^ (a ^^^ b)=a ^^^ (a ^^^ c):=by rw[h]
 rwa [<-Nat.xor_assoc,<-Nat.xor_assoc,Nat.xor_self,Nat.zero_xor,Nat.zero_xor]at this
theorem CR {a b c:Nat} (h:b ^^^ a=c ^^^ a):b=c:=by
 rw[Nat.xor_comm b a,Nat.xor_comm c a]at h;exact wI h
def tops:List Nat:=[0,242,225,19,199,53,38,212,138,120,107,153,77,191,172,94,16,226,241,3,215,37,54,196,154,104,123,137,93,175,188,78,32,210,193,51,231,21,6,244,170,88,75,185,109,159,140,126,48,194,209,35,247,5,22,228,186,72,91,169,125,143,156,110,65,179,160,82,134,116,103,149,203,57,42,216,12,254,237,31,81,163,176,66,150,100,119,133,219,41,58,200,28,238,253,15,97,147,128,114,166,84,71,181,235,25,10,248,44,222,205,63,113,131,144,98,182,68,87,165,251,9,26,232,60,206,221,47,130,112,99,145,69,183,164,86,8,250,233,27,207,61,46,220,146,96,115,129,85,167,180,70,24,234,249,11,223,45,62,204,162,80,67,177,101,151,132,118,40,218,201,59,239,29,14,252,178,64,83,161,117,135,148,102,56,202,217,43,255,13,30,236,195,49,34,208,4,246,229,23,73,187,168,90,142,124,111,157,211,33,50,192,20,230,245,7,89,171,184,74,158,108,127,141,227,17,2,240,36,214,197,55,105,155,136,122,174,92,79,189,243,1,18,224,52,198,213,39,121,139,152,106,190,76,95,173]
theorem qQ9:cR.map (fun v=>(v/16777216).toNat)=tops:=by kernel_rfl
theorem qNF:(List.range 256).all (fun x=>decide (tops.idxOf tops[x]! =x))=true:=by kernel_rfl
theorem qCB (x:Nat):0<=cR[x]! /\cR[x]! <4294967296:=by
 by_cases h:x<cR.length
 · rw[getElem!_pos cR x h]
   simp only[cR,List.getElem_map,List.getElem_range]
   show 0<=yM 7 (rnd (x:Int))/\yM 7 (rnd (x:Int))<4294967296
   have H:∀(n:Nat) (v:Int),0<=v/\v<4294967296->0<=yM n v/\yM n v<4294967296:=by
    intro n
    induction n with
    |zero=>intro v h;exact h
    |succ n ih=>intro v _;exact ih _ (qMD v)
   exact H 7 _ (qMD _)
 · rw[getElem!_neg cR x h];exact⟨by decide,by decide⟩
theorem qCC {x y:Nat} (hx:x<256) (hy:y<256) (h:cR[x]! /16777216=cR[y]! /16777216):x=y:=by
 have e:∀z,z<256->tops[z]! =(cR[z]! /16777216).toNat:=fun z hz=>by
  have hl:z<cR.length:=by rw[qW];exact hz
  rw[<-qQ9,getElem!_pos _ z (by rw[List.length_map];exact hl),List.getElem_map,getElem!_pos cR z hl]
 have i:∀z,z<256->tops.idxOf tops[z]! =z:=fun z hz=>of_decide_eq_true (List.all_eq_true.1 qNF z (by simpa using hz))
 rw[<-i x hx,<-i y hy,e x hx,e y hy,h]
def ix (v b:Int):Nat:=(lM .u8 (IntKind.u8.wrap v) b).toNat
theorem qA9 (v b:Int):ix v b<256:=by have:=CY (IntKind.u8.wrap v) b;unfold ix;omega
theorem qYY {v:Int} (h:0<=v):iF .u32 v 8=v/256:=(qB5 h).1
theorem XC {v b:Int} (hv:0<=v/\v<4294967296):cstep cR v b=(((v/256).toNat ^^^ (cR[ix v b]!).toNat:Nat):Int):=by
 unfold cstep
 rw[qYY hv.1,qYS (by omega) (qCB _)]
 rfl
theorem FW (v b:Int):0<=cstep cR v b/\cstep cR v b<4294967296:=sB _ _
theorem OD {v b:Int} (hv:0<=v/\v<4294967296):cstep cR v b/16777216=cR[ix v b]! /16777216:=by
 have ht:=qCB (ix v b)
 obtain⟨T,hT⟩:=Int.eq_ofNat_of_zero_le ht.1
 obtain⟨A,hA⟩:=Int.eq_ofNat_of_zero_le (show 0<=v/256 by omega)
 rw[XC hv,hT,hA,Int.toNat_natCast,Int.toNat_natCast]
 have hA2:A<16777216:=by omega
 have e:(A ^^^ T)/16777216=T/16777216:=by
  rw[show 16777216=2^24 from rfl,<-Nat.shiftRight_eq_div_pow,<-Nat.shiftRight_eq_div_pow,Nat.shiftRight_xor_distrib,show A >>> 24=0 by rw[Nat.shiftRight_eq_div_pow];omega,Nat.zero_xor]
 omega
theorem qS6 {v b v' b':Int} (hv:0<=v/\v<4294967296) (hv':0<=v'/\v'<4294967296) (h:cstep cR v b=cstep cR v' b'):ix v b=ix v' b'/\v/256=v'/256:=by
 have h1:=OD (b:=b) hv
 have h2:=OD (b:=b') hv'
 have e:ix v b=ix v' b':=qCC (qA9 _ _) (qA9 _ _) (by rw[<-h1,<-h2,h])
 refine⟨e,?_⟩
 rw[XC hv,XC hv',e]at h
 have:=CR (Int.ofNat.inj h)
 omega
theorem qA8 {v b:Int} (hb:0<=b/\b<256):ix v b=(v%256).toNat ^^^ b.toNat:=by
 unfold ix
 rw[oI,qYT (by omega) hb];rfl
theorem qPM {v b b':Int} (hb:0<=b/\b<256) (hb':0<=b'/\b'<256) (h:ix v b=ix v b'):b=b':=by
 rw[qA8 hb,qA8 hb']at h
 have:=wI h
 omega
theorem qKX {v v' b:Int} (hv:0<=v) (hv':0<=v') (hb:0<=b/\b<256) (h:ix v b=ix v' b):v%256=v'%256:=by
 rw[qA8 hb,qA8 hb]at h
 have:=CR h
 omega
def HG (L:List Int) (v:Int):Int:=L.foldl (cstep cR) v
theorem HI:∀(L:List Int) (v:Int),0<=v/\v<4294967296->0<=HG L v/\HG L v<4294967296
 | [],v,h=>h
 |b::L,v,_=>HI L _ (FW v b)
theorem UE (A B:List Int) (v:Int):HG (A++B) v=HG B (HG A v):=by unfold HG;rw[List.foldl_append]
theorem qB3:∀(L:List Int) (v v':Int),(∀b,b∈L->0<=b/\b<256)->0<=v/\v<4294967296->0<=v'/\v'<4294967296->v≠v'->HG L v≠HG L v'
 | [],v,v',_,_,_,h=>h
 |b::L,v,v',hL,hv,hv',h=>by
  have hb:=hL b (by simp)
  refine qB3 L _ _ (fun x hx=>hL x (List.mem_cons_of_mem _ hx)) (FW v b) (FW v' b) (fun q=>h ?_)
  obtain⟨h1,h2⟩:=qS6 hv hv' q
  have h3:=qKX hv.1 hv'.1 hb h1
  omega
theorem qJA {v b b':Int} (hv:0<=v/\v<4294967296) (hb:0<=b/\b<256) (hb':0<=b'/\b'<256) (h:b≠b'):cstep cR v b/16777216≠cstep cR v b'/16777216:=fun q=>by
 rw[OD hv,OD hv]at q
 exact h (qPM hb hb' (qCC (qA9 _ _) (qA9 _ _) q))
theorem qN7 {v:Int} (h:0<=v/\v<4294967296):bnot v=4294967295-v:=by
 unfold bnot lM
 rw[show BitVec.ofInt IntKind.u32.bits (-1)=BitVec.allOnes IntKind.u32.bits from rfl,BitVec.allOnes_xor,BitVec.toNat_not,BitVec.toNat_ofInt]
 have e2:(2:Nat)^IntKind.u32.bits=4294967296:=rfl
 have e3:((2^IntKind.u32.bits-1-(v%((2^IntKind.u32.bits:Nat):Int)).toNat:Nat):Int)=4294967295-v:=by
  rw[e2];omega
 rw[e3,wG (by omega)]
theorem qAM (s:ByteArray):gO s=4294967295-HG (aF s) 4294967295:=by
 have h:=HI (aF s) 4294967295 (by decide)
 unfold gO yX
 rw[if_pos qW]
 exact qN7 h
theorem qKG {v w:Int} (hv:0<=v/\v<4294967296) (hw:0<=w/\w<4294967296) (h:four v=four w):v=w:=by
 have r:=lS w
 obtain⟨h1,h2,h3⟩:=qB5 hw.1
 have e:=(qAW (v:=v) hv (r (IntKind.u8.wrap w) (by simp [four])) (r (IntKind.u8.wrap (iF .u32 w 8)) (by simp [four])) (r (IntKind.u8.wrap (iF .u32 w 16)) (by simp [four])) (r (IntKind.u8.wrap (iF .u32 w 24)) (by simp [four]))).1 h
 rw[h1,h2,h3,oI,oI,oI,oI]at e
 omega
theorem qH6 {x a:Int} (hx:0<=x/\x<256) (ha:0<=a/\a<256):lM .u8 x a=x↔a=0:=by
 rw[qYT hx ha]
 constructor
 · intro h
   have h2:x.toNat ^^^ a.toNat=x.toNat ^^^ 0:=by rw[Nat.xor_zero];omega
   have:=wI h2
   omega
 · intro h
   subst h
   rw[show(0:Int).toNat=0 from rfl,Nat.xor_zero];omega
theorem ZM {L:List Int} {j:Nat} {x:Int} (h:j<L.length) (hx:x≠L[j]!):L.set j x≠L:=fun q=>by
 have:(L.set j x)[j]! =L[j]!:=congrArg (fun l:List Int=>l[j]!) q
 rw[getElem!_pos (L.set j x) j (by rw[List.length_set];exact h),List.getElem_set_self]at this
 exact hx this
theorem xS (b:ByteArray) (j:Nat) {x:Int} (hx:0<=x/\x<256):aF (aV ((aF b).set j x))=(aF b).set j x:=bF fun y hy=>by
 rcases List.mem_or_eq_of_mem_set hy with q|q
 · exact wE q
 · rw[q];exact hx
theorem zJ {A B:List Int} {j:Nat}:(A++B)[j]! =if j<A.length then A[j]! else B[j-A.length]!:=by
 rw[List.getElem!_eq_getElem?_getD,List.getElem?_append]
 split
 · rw[List.getElem!_eq_getElem?_getD]
 · rw[List.getElem!_eq_getElem?_getD]
theorem qQW {L:List Int} {j:Nat} {x v:Int} (hL:∀b,b∈L->0<=b/\b<256) (hv:0<=v/\v<4294967296) (h:j<L.length) (hr:0<=x/\x<256) (hx:x≠L[j]!):HG (L.set j x) v≠HG L v:=by
 have e1:L=L.take j++L[j]! ::L.drop (j+1):=by
  rw[getElem!_pos L j h,<-List.drop_eq_getElem_cons h,List.take_append_drop]
 have e2:L.set j x=L.take j++x::L.drop (j+1):=List.set_eq_take_append_cons_drop.trans (if_pos h)
 have hb:=hL L[j]! (by rw[getElem!_pos L j h];exact List.getElem_mem h)
 intro q
 rw[e2]at q
 conv at q=>rhs;rw[e1]
 rw[UE,UE]at q
 have hw:=HI (L.take j) v hv
 refine qB3 (L.drop (j+1)) _ _ (fun b hb=>hL b (List.mem_of_mem_drop hb)) (FW _ _) (FW _ _) (fun e=>?_) q
 exact qJA hw hr hb hx (congrArg (· /16777216) e)
theorem qOH {B u:ByteArray} {j:Nat} {x:Int} (h:j<B.size) (hr:0<=x/\x<256) (hx:x≠(aF B)[j]!) (hu:aF u=(aF B).set j x):gO u≠gO B:=fun q=>by
 rw[qAM,qAM,hu]at q
 exact qQW (v:=4294967295) (fun b=>wE) ⟨by decide,by decide⟩ (by rw[aP];exact h) hr hx (by omega)
theorem AK (B:ByteArray):aF (bH B)=aF B++four (gO B):=by unfold bH;rw[bG,bF (lS _)]
theorem UI {B u:ByteArray} {j:Nat} {x:Int} (hj:j<B.size+4) (hr:0<=x/\x<256) (hx:x≠(aF (bH B))[j]!) (hu:aF u=(aF (bH B)).set j x):¬bH (eL u)=u:=fun q=>by
 have hz:u.size=B.size+4:=by
  have:=congrArg List.length hu
  rw[List.length_set,aP,aP,gV]at this;exact this
 have hb:=zQ (s:=u) (by omega)
 have q1:aF (eL u)++four (gO (eL u))=aF u:=by rw[<-AK,q]
 rw[hu]at q1
 rw[AK,zJ,aP]at hx
 rw[AK]at q1
 rcases Nat.lt_or_ge j B.size with g|g
 · rw[if_pos g]at hx
   rw[List.set_append_left _ _ (by rw[aP];exact g)]at q1
   obtain⟨q2,q3⟩:=List.append_inj q1 (by rw[List.length_set,aP,aP];omega)
   exact qOH g hr hx q2 (qKG (FV _) (FV _) q3)
 · rw[if_neg (by omega)]at hx
   rw[List.set_append_right _ _ (by rw[aP];exact g),aP]at q1
   obtain⟨q2,q3⟩:=List.append_inj q1 (by rw[aP,aP];omega)
   rw[jK q2]at q3
   exact ZM (by show _<4;omega) hx q3.symm
theorem qLI {B u:ByteArray} {j:Nat} {x:Int} (hj:j<B.size+4) (hr:0<=x/\x<256) (hx:x≠(aF (bH B))[j]!) (hu:aF u=(aF (bH B)).set j x):fD u≠0:=by
 unfold fD
 split
 · decide
 · rw[if_pos (UI hj hr hx hu)];decide
theorem SB {c:Col} {u:ByteArray} (h:fD u≠0):(nQ c u).2≠0:=by
 unfold nQ
 split
 · decide
 · exact h
theorem QV {t:Int} {l:List Val}:∀(n:Nat) (k:Int) (b:ByteArray),(b=⟨#[]⟩\/∃B,b=bH B)->bst t l n k b=⟨#[]⟩\/∃B,bst t l n k b=bH B
 |0,k,b,h=>h
 |n+1,k,b,h=>by
  refine QV n (k+1) _ ?_
  split
  · split
    · exact .inr ⟨_,rfl⟩
    · exact h
  · exact h
theorem qJ6 (c:Col) (l:List Val):(hU c l).1=⟨#[]⟩\/∃B,(hU c l).1=bH B:=by
 unfold hU
 split
 · exact .inl rfl
 split
 · exact .inl rfl
 split
 · exact .inl rfl
 exact QV 4 1 _ (.inl rfl)
theorem RP {x:Int} (hr:0<=x/\x<256):∀(cs:List ByteArray) (k:Nat),k<(bT cs).size->x≠(aF (bT cs))[k]! ->∃(i:Nat) (u:ByteArray) (j:Nat),i<cs.length/\j<cs[i]!.size/\aF u=(aF cs[i]!).set j x/\x≠(aF cs[i]!)[j]! /\(aF (bT cs)).set k x=aF (bT (cs.set i u))
 | [],k,h,_=>absurd h (Nat.not_lt_zero _)
 |c::cs,k,h,hx=>by
  rw[bT,bG,zJ,aP]at hx
  rw[bT,ByteArray.size_append]at h
  rcases Nat.lt_or_ge k c.size with g|g
  · rw[if_pos g]at hx
    refine⟨0,aV ((aF c).set k x),k,Nat.zero_lt_succ _,g,xS c k hr,hx,?_⟩
    rw[bT,bG,List.set_append_left _ _ (by rw[aP];exact g),List.set_cons_zero,bT,bG,xS c k hr]
  · rw[if_neg (by omega)]at hx
    obtain⟨i,u,j,h1,h2,h3,h4,h5⟩:=RP hr cs (k-c.size) (by omega) hx
    refine⟨i+1,u,j,by rw[List.length_cons];omega,h2,h3,h4,?_⟩
    rw[bT,bG,List.set_append_right _ _ (by rw[aP];exact g),aP,h5,List.set_cons_succ,bT,bG]
theorem XX {f:Nat->Int}:∀(m k i:Nat),k<=i->i<k+m->f i≠0->vQ f m k≠0
 |0,k,i,h1,h2,_=>by omega
 |m+1,k,i,h1,h2,h=>by
  rw[vQ]
  split
  · assumption
  · rename_i q
    exact XX m (k+1) i (by rcases Nat.eq_or_lt_of_le h1 with e|e;exact absurd (e ▸ h) q;exact e) (by omega) h
theorem SM {s:Schema} {f:ByteArray} (h:(aZ s f).2.2=0):vY f fY=true/\wC f fY=true/\gO (f.extract ((f.size:Int)-8-cB f ((f.size:Int)-8)).toNat (f.size-12))=cB f ((f.size:Int)-12):=by
 unfold aZ at h
 split at h
 · exact absurd h (by assumption)
 split at h
 · cases h
 unfold GE at h
 split at h
 · cases h
 split at h
 · cases h
 rename_i q
 unfold mL at h
 split at h
 · cases h
 rename_i q1
 refine⟨?_,?_,Decidable.not_not.1 q1⟩
 · cases e:vY f fY with
   |true=>rfl
   |false=>exact absurd (.inl e) q
 · cases e:wC f fY with
   |true=>rfl
   |false=>exact absurd (.inr (.inl e)) q
theorem uJ {s:Schema} {f:ByteArray} (h:(aZ s f).2.2≠0):(kH s f).2≠0:=by unfold kH tF;rw[if_pos h];exact h
theorem ZB {s:Schema} {f:ByteArray} {i:Nat} (hi:i<s.1.length+1) (h:chE s f (aZ s f) i≠0):(kH s f).2≠0:=by
 by_cases q:(aZ s f).2.2≠0
 · exact uJ q
 unfold kH tF
 rw[if_neg q,if_pos (XX _ 0 i (Nat.zero_le _) (by omega) h)]
 exact XX _ 0 i (Nat.zero_le _) (by omega) h
theorem qG0 {s:Schema} {l:List Rec} (hl:1<=l.length/\l.length<=1024) (hc:∀c,c∈chnks s l->c.size<=4398046585379) (h:(mO s (bZ s l) (4+dP ((chnks s l).map dT))).2=true):(mO s (bZ s l) (4+dP ((chnks s l).map dT))).1.2.1=offs ((chnks s l).map dT):=by
 have h0:(aF (bZ s l)).drop 0=four (gO (rW s))++(put (l.length:Int)++(aF (bT ((chnks s l).map szB))++(aF (bT ((eD s l (List.range s.1.length)).map tD)++dN (eM s l[0]!)++dN (eM s l[l.length-1]!))))):=by
  rw[List.drop_zero,bZ]
  simp only[bG,bF (lS _),bF (kG ⟨show(0:Int)<=(l.length:Int)by omega,by omega⟩),List.append_assoc]
 obtain⟨_,w2⟩:=qO (DC _) h0
 rw[show 0+4=4 from rfl]at w2
 obtain⟨n1,n2,_⟩:=kC (u:=(l.length:Int)) ⟨by omega,by omega⟩ w2
 have c1:=HF (b:=4+dP ((chnks s l).map dT)) (chnks s l) [] _ _ (fun c hm=>⟨by have:=QC _ c hm;omega,hc c hm⟩) n2
 rw[List.nil_append]at c1
 rw[mO,show(4:Int)=((4:Nat):Int)from rfl,n1]at h ⊢
 (try simp only at h ⊢)
 rw[if_neg (by rintro(q|q|q);exact q rfl;omega;omega)]at h ⊢
 rw[show[((4:Nat):Int)]=offs []from rfl,<-fT s l,show(((4:Nat):Int))=4 from rfl,c1]at h ⊢
 generalize 4+dP ((chnks s l).map dT)=S at *
 generalize offs ((chnks s l).map dT)=O at *
 unfold rP1 at h ⊢
 split
 · rfl
 rename_i q
 rw[if_neg q]at h
 unfold rP2 at h ⊢
 split
 · rfl
 unfold rP3
 split
 · rfl
 unfold rP4
 split<;>rfl
theorem qLG {k l:List Int} (h:offs k=offs l) (e:k.length=l.length):k=l:=by
 apply List.ext_getElem e
 intro i h1 h2
 have a0:=congrArg (fun x:List Int=>x[i]!) h
 have a1:=congrArg (fun x:List Int=>x[i+1]!) h
 (try simp only at a0 a1)
 rw[yA (by omega),yA (by omega)]at a0 a1
 have b0:=nK (l:=k) (k:=(i:Int)) ⟨by omega,by omega⟩
 have b1:=nK (l:=l) (k:=(i:Int)) ⟨by omega,by omega⟩
 rw[show((i:Int)+1).toNat=i+1 by omega,show((i:Int)).toNat=i from rfl]at b0 b1
 rw[getElem!_pos k i h1]at b0
 rw[getElem!_pos _ i h2]at b1
 omega
theorem qGC {s:Schema} {l:List Rec} {C:ByteArray} (h0:aU s=0) (hl:1<=l.length/\l.length<=1024) (hc:∀c,c∈chnks s l->c.size<=4398046585379) (hs:8<=(bZ s l).size/\(bZ s l).size<=40000000) (hC:C.size=(bT (chnks s l)).size) (h:(aZ s (dH C (bH (bZ s l)))).2.2=0):(aZ s (dH C (bH (bZ s l)))).2.1=(chnks s l).map dT:=by
 have hz:=pV (chnks s l)
 rw[LH h0 (by omega) (by omega)]at h ⊢
 split at h
 · cases h
 rename_i q
 rw[if_neg q]
 have p:=AG (s:=s) (f:=bZ s l) (st:=4+dP ((chnks s l).map dT)) (m:=(dH C (bH (bZ s l))).size) (by omega) (by rw[lF,<-hz];omega)
 rw[show 4+dP ((chnks s l).map dT)-4=(C.size:Int)by rw[<-hz];omega]at p
 cases hr:(mO s (bZ s l) (4+dP ((chnks s l).map dT))).2 with
 |false=>rw[p.1 hr]at h;cases h
 |true=>
  obtain⟨k,e1,e2,e3,_⟩:=p.2 hr
  rw[e1]
  exact qLG (e2.symm.trans (qG0 hl hc hr)) (by rw[e3,List.length_map,fT])
theorem SJ {s p:ByteArray} {a b:Nat} (h:s.extract a b=p):((aF s).drop a).take (b-a)=aF p:=by rw[<-pZ,h]
theorem qF4 {s:Schema} {l:List Rec} {k:Nat} {x:Int} {f:ByteArray} (h0:aU s=0) (hl:1<=l.length/\l.length<=1024) (hc:∀c,c∈chnks s l->c.size<=4398046585379) (hs:8<=(bZ s l).size/\(bZ s l).size<=40000000) (hr:0<=x/\x<256) (hk:k<(bT (chnks s l)).size) (hx:x≠(aF (bT (chnks s l)))[k]!)
  (hf:aF f=aF fY++((aF (bT (chnks s l))).set k x++(aF (bH (bZ s l))++(four ((bH (bZ s l)).size:Int)++aF fY)))):(kH s f).2≠0:=by
 obtain⟨i,u,j,hi,hj,hu,hxj,he⟩:=RP hr _ k hk hx
 have hsz:(bT ((chnks s l).set i u)).size=(bT (chnks s l)).size:=by
  have:=congrArg List.length he
  rw[List.length_set,aP,aP]at this;exact this.symm
 have e:f=dH (bT ((chnks s l).set i u)) (bH (bZ s l)):=jK (by rw[qP,<-he];exact hf)
 by_cases q:(aZ s f).2.2≠0
 · exact uJ q
 have q:=Decidable.not_not.1 q
 have hlen:(aZ s f).2.1=(chnks s l).map dT:=by
  rw[e]at q ⊢
  exact qGC h0 hl hc hs hsz q
 have hi2:=hi
 rw[fT]at hi2
 refine ZB hi2 ?_
 obtain⟨r,hr2⟩:=CQ (C:=bT ((chnks s l).set i u)) (F:=bH (bZ s l))
 have hus:u.size=((chnks s l)[i]!).size:=by
  have:=congrArg List.length hu
  rw[List.length_set,aP,aP]at this;exact this
 have hmap:((chnks s l).set i u).map dT=(chnks s l).map dT:=by
  apply List.ext_getElem
  · simp
  · intro a h1 h2
    rw[List.getElem_map,List.getElem_map,List.getElem_set]
    split
    · rename_i g
      subst g
      rw[dT,hus,getElem!_pos (chnks s l) i hi];rfl
    · rfl
 have hp:yF f (aZ s f).2.1 i=u:=by
  rw[hlen,<-hmap,e,qBS (by rw[List.length_set];exact hi) hr2,getElem!_pos _ i (by rw[List.length_set];exact hi),List.getElem_set_self]
 have ho:fD u≠0:=by
  rw[RT hi2]at hj hu hxj
  rcases qJ6 (nP s i) (vL s l i)with g|⟨B,g⟩
  · have g:chnk s l i=⟨#[]⟩:=g
    rw[g]at hj;cases hj
  · have g:chnk s l i=bH B:=g
    rw[g]at hj hu hxj
    rw[gV]at hj
    exact qLI hj hr hxj hu
 show(jC s f (aZ s f).1.1 (aZ s f).2.1 i).2≠0
 unfold jC
 rw[hp,if_pos (SB ho)]
 exact SB ho
theorem qJY {s:Schema} {l:List Rec} {k:Nat} {x:Int} {f:ByteArray} (h0:aU s=0) (hl:1<=l.length/\l.length<=1024) (hc:∀c,c∈chnks s l->c.size<=4398046585379) (hs:8<=(bZ s l).size/\(bZ s l).size<=40000000) (hr:0<=x/\x<256) (hk:k<(cS s l).size) (hx:x≠(aF (cS s l))[k]!) (hn:¬(k+8>=(cS s l).size/\k+4<(cS s l).size))
  (hf:aF f=(aF (cS s l)).set k x):(kH s f).2≠0:=by
 have hz:=lF (bT (chnks s l)) (bH (bZ s l))
 have hss:=gV (bZ s l)
 have hfz:f.size=(cS s l).size:=by
  have:=congrArg List.length hf
  rw[List.length_set,aP,aP]at this;exact this
 have h4:(aF fY).length=4:=rfl
 have h44:(four ((bH (bZ s l)).size:Int)).length=4:=rfl
 rw[cS]at hf hx hk hn hfz
 rw[qP]at hf hx
 rw[hz]at hk hn hfz
 rw[zJ,h4]at hx
 rcases Nat.lt_or_ge k 4 with g|g
 · rw[if_pos g]at hx
   rw[List.set_append_left _ _ (by rw[h4];exact g)]at hf
   refine uJ fun q=>?_
   have p:=(SM q).1
   unfold vY at p
   have p:=SJ (of_decide_eq_true (Bool.and_eq_true_iff.1 p).2)
   rw[hf,List.drop_zero,List.take_left' (by rw[List.length_set];rfl)]at p
   exact ZM (by rw[h4];exact g) hx p
 rw[if_neg (by omega),zJ,aP]at hx
 rw[List.set_append_right _ _ (by rw[h4];exact g),h4]at hf
 rcases Nat.lt_or_ge (k-4) (bT (chnks s l)).size with g1|g1
 · rw[if_pos g1]at hx
   rw[List.set_append_left _ _ (by rw[aP];exact g1)]at hf
   exact qF4 h0 hl hc hs hr g1 hx hf
 rw[if_neg (by omega),zJ,aP]at hx
 rw[List.set_append_right _ _ (by rw[aP];exact g1),aP]at hf
 refine uJ fun q=>?_
 obtain⟨_,q2,q3⟩:=SM q
 rcases Nat.lt_or_ge (k-4-(bT (chnks s l)).size) (bH (bZ s l)).size with g2|g2
 · rw[if_pos g2]at hx
   rw[List.set_append_left _ _ (by rw[aP];exact g2),<-xS _ _ hr]at hf
   have hu:=xS (bH (bZ s l)) (k-4-(bT (chnks s l)).size) hr
   generalize aV ((aF (bH (bZ s l))).set (k-4-(bT (chnks s l)).size) x)=u at hf hu
   have huz:u.size=(bH (bZ s l)).size:=by
    have:=congrArg List.length hu
    rw[List.length_set,aP,aP]at this;exact this
   have e:f=dH (bT (chnks s l)) u:=jK (by rw[qP,huz];exact hf)
   obtain⟨_,_,w3,w4⟩:=wH (C:=bT (chnks s l)) (F:=u) (by omega)
   rw[<-e]at w3 w4
   refine UI (by omega) hr hx hu ((qNT (s:=u) (by omega)).1 ?_)
   rw[w3,show((f.size:Int)-8-(u.size:Int)).toNat=4+(bT (chnks s l)).size by omega,show f.size-12=4+(bT (chnks s l)).size+u.size-4 by omega]at q3
   have e1:eL u=f.extract (4+(bT (chnks s l)).size) (4+(bT (chnks s l)).size+u.size-4):=by
    have h1:(f.extract (4+(bT (chnks s l)).size) (4+(bT (chnks s l)).size+u.size)).extract 0 (u.size-4)=f.extract (4+(bT (chnks s l)).size) (4+(bT (chnks s l)).size+u.size-4):=by
     rw[ByteArray.extract_extract,Nat.add_zero,Nat.min_eq_left (by omega),show 4+(bT (chnks s l)).size+(u.size-4)=4+(bT (chnks s l)).size+u.size-4 by omega]
    rw[w4]at h1
    rw[<-h1,eL,show((u.size:Int)-4).toNat=u.size-4 by omega]
   have e2:cB u ((u.size:Int)-4)=cB f ((f.size:Int)-12):=by
    have h1:=lE (f:=f) (a:=4+(bT (chnks s l)).size) (e:=4+(bT (chnks s l)).size+u.size) (i:=(u.size:Int)-4) (by omega) (by omega)
    rw[w4]at h1
    rw[h1,show((4+(bT (chnks s l)).size:Nat):Int)+((u.size:Int)-4)=(f.size:Int)-12 by omega]
   rw[e1,e2,q3]
 · rw[if_neg (by omega),zJ,h44,if_neg (by omega)]at hx
   rw[List.set_append_right _ _ (by rw[aP];exact g2),aP,List.set_append_right _ _ (by rw[h44];omega),h44]at hf
   unfold wC at q2
   have p:=SJ (of_decide_eq_true (Bool.and_eq_true_iff.1 q2).2)
   rw[hf,<-List.append_assoc,<-List.append_assoc,<-List.append_assoc,List.drop_left' (by simp only[List.length_append,aP,h44];have:fY.size=4:=rfl;omega),List.take_of_length_le (by rw[List.length_set,h4];have:fY.size=4:=rfl;omega)]at p
   exact ZM (by rw[h4];omega) hx p
theorem qBN {c:Col} {v:Val} (hc:c.2.1=1) (hn:v.1=false) (hv:bR c v=0) (hi:inI v.2.1) (hz:v.2.2=⟨#[]⟩):nQ c (eP 1 1 [v])=([v],0):=by
 have hsome:iG [v]= [v]:=by simp [iG,hn]
 have hB:(aF (pI 1 1 [v])).drop 0=1::(put 1++(put 0++(put (gB v.2.1)++ []))):=by
  rw[List.drop_zero,FS (by rw[hsome];exact Nat.lt_irrefl _),hsome,xR,hsome]
  show aF (((aV [IntKind.u8.wrap 1]++aV (put 1))++aV (put 0))++(plV 1 v++ByteArray.empty))=_
  rw[ByteArray.append_empty,plV,if_neg (by decide),bG,bG,bG,bF (fun b hb=>by rw[List.mem_singleton.1 hb];exact pC 1),bF (kG ⟨by decide,by decide⟩),bF (kG ⟨by decide,by decide⟩),bF (kG (nE hi)),List.append_nil,MZ ⟨by decide,by decide⟩]
  simp only[List.append_assoc,List.singleton_append,List.cons_append,List.nil_append]
 have hsz:=(BU (t:=1) (k:=1) (l:=[v]) (fun x hx=>by rw[List.mem_singleton.1 hx];exact dR hv hi) (by simp)).2
 obtain⟨o1,o2⟩:=qGV hsz
 generalize hBB:pI 1 1 [v]=B at *
 obtain⟨b1,d1,_⟩:=qY hB
 obtain⟨g1,g2,_⟩:=kC (u:=1) ⟨by decide,by decide⟩ d1
 obtain⟨k1,k2,k3⟩:=kC (u:=0) ⟨by decide,by decide⟩ g2
 rw[show((0+1:Nat):Int)=1 from rfl]at g1
 generalize hA:0+1+(put 1).length+(put 0).length=A at k1 k2 k3
 have hP:aF (B.extract A B.size)=put (gB v.2.1):=by
  rw[pZ,k2,List.append_nil]
  have:=congrArg List.length k2
  simp only[List.length_drop,aP,List.append_nil]at this
  rw[List.take_of_length_le (by omega)]
 generalize hPP:B.extract A B.size=P at hP
 obtain⟨p1,p2,p3⟩:=kC (s:=P) (a:=0) (r:=[]) (nE hi) (by rw[List.drop_zero,hP,List.append_nil])
 have pl:=congrArg List.length p2
 simp only[List.length_drop,aP,List.length_nil]at pl
 have hus:cU c.2.1 (aG B (0:Int).toNat)=true:=by
  rw[show aG B (0:Int).toNat=1 from b1,show c.2.1=1 from hc];rfl
 have e1:(aA B 1).2.1=((0+1+(put 1).length:Nat):Int):=by rw[g1]
 have e2:aA B (aA B 1).2.1=(0,(A:Int),0):=by rw[e1,k1]
 have hp:=NT (c:=c) hus (by rw[g1]) (by rw[g1];decide) (by rw[e2]) (by rw[e2,g1];show(0:Int)<=1;decide)
 have hr:fZ c.2.1 (aG B (0:Int).toNat) (B.extract ((A:Int)).toNat B.size) (1-0)=([v],true):=by
  rw[show aG B (0:Int).toNat=1 from b1,qV1 rfl,Int.toNat_natCast,hPP]
  show kL c.2.1 P 1 0 []=_
  rw[kL,show(0:Int)=((0:Nat):Int)from rfl,p1,if_neg (fun q=>q rfl),if_neg (by rw[show c.2.1=1 from hc];decide),kL]
  refine Prod.ext ?_ (decide_eq_true (by simp only;omega))
  simp only[qE6,List.nil_append]
  obtain⟨x,y,z⟩:=v
  (try simp only at hn hz)
  subst hn hz
  rfl
 have hb:pH c B=([v],true):=by
  rw[hp,e2,g1]
  show IC c B 1 0 (fU B (A:Int) 1 0)=_
  rw[vF (by decide),QU (by rw[hr]),hr]
  show asm c [false] [v] []=_
  have q1:pkV false [v]=v:=rfl
  rw[asm,q1,if_neg (fun q=>q hv)]
  rfl
 rw[eP,hBB,qJX (by rw[show c.2.1=1 from hc];rfl) o1 (by rw[o2,hb]),o2,hb]
theorem qAR {c:Col} {v:Val} (hc:c.2.1=1) (hn:v.1=false) (hv:bR c v=0) (hi:inI v.2.1):hU c [v]=(eP 1 1 [v],0):=by
 have hsome:iG [v]= [v]:=by simp [iG,hn]
 have hok:∀x,x∈ [v]->okV x:=fun x hx=>by rw[List.mem_singleton.1 hx];exact dR hv hi
 have hz:∀k,(eP 1 k [v]).size=1+(put 1).length+(put 0).length+(rG 1 k [v]).size+4:=fun k=>by
  rw[eP,gV,FS (by rw[hsome];exact Nat.lt_irrefl _),hsome,xR,hsome]
  show((aV [IntKind.u8.wrap k]++aV (put 1))++aV (put 0)++rG 1 k [v]).size+4=_
  simp only[ByteArray.size_append,bK,List.length_cons,List.length_nil]
 have s1:(rG 1 1 [v]).size=(put (gB v.2.1)).length:=by
  show(plV 1 v++ByteArray.empty).size=_
  rw[ByteArray.append_empty,plV,if_neg (by decide),bK]
 have s2:(put (gB v.2.1)).length<=(rG 1 2 [v]).size:=by
  show _<=(aV (OL (runs [v.2.1]))).size
  rw[bK,runs,OL]
  simp only[List.length_append];omega
 have s4:(put (gB v.2.1)).length<=(rG 1 4 [v]).size:=by
  show _<=(jW [v.2.1]).size
  rw[jW,if_neg (by simp),ByteArray.size_append,bK]
  show(put (gB v.2.1)).length<=(put (gB v.2.1)).length+_;omega
 have hne:∀k,¬(eP 1 1 [v]=⟨#[]⟩\/(eP 1 k [v]).size<(eP 1 1 [v]).size)\/(rG 1 k [v]).size<(rG 1 1 [v]).size:=fun k=>by
  rw[hz k,hz 1]
  by_cases q:(rG 1 k [v]).size<(rG 1 1 [v]).size
  · exact .inr q
  · refine .inl ?_
    rintro(p|p)
    · have:=hz 1
      rw[p]at this
      have e:(⟨#[]⟩:ByteArray).size=0:=rfl
      omega
    · omega
 have n2:=(hne 2).resolve_right (by omega)
 have n4:=(hne 4).resolve_right (by omega)
 have hch:jH c [v]=0:=by rw[jH,if_neg (fun q=>q hv)];rfl
 rw[hU,show c.2.1=1 from hc,if_neg (by decide),if_neg (show ¬ [v].length>4096 by simp),if_neg (fun q=>q hch)]
 refine Prod.ext ?_ rfl
 show bst 1 [v] 4 1 ⟨#[]⟩=_
 rw[bst,if_pos (show cU 1 1=true from rfl),if_pos (.inl rfl),bst,if_pos (show cU 1 (1+1)=true from rfl),show(1:Int)+1=2 from rfl,if_neg n2,bst,if_neg (show ¬cU 1 (2+1)=true by decide),show(2:Int)+1=3 from rfl,bst,if_pos (show cU 1 (3+1)=true from rfl),show(3:Int)+1=4 from rfl,if_neg n4,bst]
def nW:Schema:=([(⟨#[97]⟩,1,0,false)],0)
def qC:List Rec:=[(4,[(false,7,⟨#[]⟩)])]
theorem PN:∃p:Schema×List Rec,p=(nW,qC):=⟨_,rfl⟩
noncomputable def qGT:Schema:=(Classical.choose PN).1
noncomputable def qGS:List Rec:=(Classical.choose PN).2
theorem qBM:qGT=nW:=by rw[qGT,Classical.choose_spec PN]
theorem yC:qGS=qC:=by rw[qGS,Classical.choose_spec PN]
theorem qUM {l:List Rec} {m:Nat} (h:∀r,r∈l->r.2.length<=m) (i:Nat):(l[i]!).2.length<=m:=by
 by_cases q:i<l.length
 · rw[getElem!_pos l i q];exact h _ (List.getElem_mem q)
 · rw[getElem!_neg l i q];exact Nat.zero_le _
theorem qQH (i:Nat):(qC[i]!).2.length<=1099511627776:=qUM (fun r hr=>by
 rw[qC,List.mem_singleton]at hr
 subst hr
 show 1<=1099511627776
 decide) i
theorem rE:wN qC:=by
 intro r hr v hv
 rw[qC,List.mem_singleton]at hr
 subst hr
 rw[List.mem_singleton]at hv
 subst hv
 unfold inI;decide
theorem vW:cY nW qC=true:=by kernel_rfl
theorem TD:Made nW qC:=by
 have hv:=cO vW
 refine⟨(dI hv).1,by decide,?_,?_,gT hv rE (by decide),gT hv rE (by decide),by decide⟩
 · intro c hc
   obtain⟨i,hi,rfl⟩:=List.mem_map.1 hc
   rw[List.mem_range]at hi
   rcases Nat.lt_or_ge i nW.1.length with q|q
   · rw[xH q];exact oU (by rw[lN];decide) fun v h=>dR (pQ hv rE q v h).1 (pQ hv rE q v h).2
   · have:i=nW.1.length:=by omega
     subst this
     rw[xI];exact oU (by decide) fun v h=>dR (wB hv v h).1 (wB hv v h).2
 · intro i hi
   have:i=0:=by have:nW.1.length=1:=rfl;omega
   subst this
   refine⟨AP (by decide) fun v h=>DG (pQ hv rE (by decide) v h),by kernel_rfl⟩
theorem YT:∀i:Nat,i<nW.1.length+1->nQ (nP nW i) (chnk nW qC i)=(vL nW qC i,0):=by
 intro i hi
 have hl:nW.1.length=1:=rfl
 rcases(show i=0\/i=1 by omega)with rfl|rfl
 · show nQ (⟨#[97]⟩,1,0,false) (hU (⟨#[97]⟩,1,0,false) [(false,7,⟨#[]⟩)]).1=([(false,7,⟨#[]⟩)],0)
   rw[qAR rfl rfl rfl (by unfold inI;decide)]
   exact qBN rfl rfl rfl (by unfold inI;decide) rfl
 · show nQ wA (hU wA [(false,4,⟨#[]⟩)]).1=([(false,4,⟨#[]⟩)],0)
   rw[qAR rfl rfl rfl (by unfold inI;decide)]
   exact qBN rfl rfl rfl (by unfold inI;decide) rfl
theorem qBO:(hJ qGT qGS).2=0/\kH qGT (hJ qGT qGS).1=(qGS,0):=by
 rw[qBM,yC]
 have he:hJ nW qC=(cS nW qC,0):=by
  rw[hJ,if_neg (fun q=>q TD.sch),if_neg (by decide),if_neg]
  rintro(q|q)
  · cases q
  · rw[vW]at q;cases q
 rw[he]
 exact⟨rfl,qG5 TD vW YT⟩
theorem vP {s:Schema} {l:List Rec} (hs:cY s l=true) (hi:wN l) (hl:l.length<=1024) (hl0:l.length≠0):(bT (chnks s l)).size<=57174605609927/\8<=(bZ s l).size/\(bZ s l).size<=40000000:=by
 have hv:=cO hs
 have hsc:=bB (dI hv).1
 have hm:∀c,c∈chnks s l->c.size<=4398046585379:=fun c hc=>by
  obtain⟨i,hr,rfl⟩:=List.mem_map.1 hc
  rw[List.mem_range]at hr
  rcases Nat.lt_or_ge i s.1.length with q|q
  · rw[xH q];exact oU (by rw[lN];omega) fun v h=>dR (pQ hv hi q v h).1 (pQ hv hi q v h).2
  · have:i=s.1.length:=by omega
    subst this
    rw[xI];exact oU (by simp [gE];omega) fun v h=>dR (wB hv v h).1 (wB hv v h).2
 have h4:=tU hm
 rw[fT]at h4
 have hz:∀b,b∈(eD s l (List.range s.1.length)).map tD->b.size<=2200000:=fun b hb=>by
  obtain⟨z,hz,rfl⟩:=List.mem_map.1 hb
  obtain⟨i,hr,rfl⟩:=List.mem_map.1 hz
  rw[List.mem_range]at hr
  exact uN (AP (by rw[lN];omega) fun v h=>DG (pQ hv hi hr v h))
 have h5:=tU hz
 rw[List.length_map,eD,List.length_map,List.length_range]at h5
 have h6:(bT ((chnks s l).map szB)).size<=10*((chnks s l).map szB).length:=tU fun b hb=>by
  obtain⟨c,_,rfl⟩:=List.mem_map.1 hb
  rw[szB,bK];exact(bM _).1
 rw[List.length_map,fT]at h6
 have r1:=lJ (gT hv hi (j:=0) (by omega))
 have r2:=lJ (gT hv hi (j:=l.length-1) (by omega))
 have p1:=bM (l.length:Int)
 have f4:(four (gO (rW s))).length=4:=rfl
 unfold bZ
 simp only[ByteArray.size_append,bK,eD]at h5 ⊢
 omega
theorem zW (s:Schema) (l:List Rec):(hJ s l).1=⟨#[]⟩/\(hJ s l).2≠0\/hJ s l=(cS s l,0)/\cY s l=true/\l.length<=1024/\l.length≠0:=by
 unfold hJ
 split
 · rename_i h;exact .inl ⟨rfl,h⟩
 split
 · exact .inl ⟨rfl,by decide⟩
 split
 · exact .inl ⟨rfl,by decide⟩
 rename_i h1 h2 h3
 refine .inr ⟨rfl,?_,by omega,fun q=>h3 (.inl q)⟩
 cases q:cY s l with
 |true=>rfl
 |false=>exact absurd (.inr q) h3
theorem DE {s:Schema} {l:List Rec} (hi:wN l):(hJ s l).1.size<=288230376151711000:=by
 rcases zW s l with⟨h,_⟩|⟨h,h1,h2,h3⟩
 · rw[h];exact Nat.zero_le _
 · have p:=vP h1 hi h2 h3
   rw[h]
   show(cS s l).size<=_
   rw[cS,lF,gV];omega
theorem SI {s:Schema} {l:List Rec} (hi:wN l) (h:(hJ s l).2=0):12<=(hJ s l).1.size/\12<=cB (hJ s l).1 ((hJ s l).1.size-8)/\cB (hJ s l).1 ((hJ s l).1.size-8)<=(hJ s l).1.size-12:=by
 rcases zW s l with⟨_,h0⟩|⟨h0,h1,h2,h3⟩
 · exact absurd h h0
 · have p:=vP h1 hi h2 h3
   have hz:=gV (bZ s l)
   obtain⟨_,_,f3,_⟩:=wH (C:=bT (chnks s l)) (F:=bH (bZ s l)) (by omega)
   have hw:=lF (bT (chnks s l)) (bH (bZ s l))
   rw[h0]
   show 12<=(cS s l).size/\12<=cB (cS s l) ((cS s l).size-8)/\cB (cS s l) ((cS s l).size-8)<=(cS s l).size-12
   rw[cS,f3];omega
def rI:Nat->Int->Src->Schema->List Rec
 |0,_,_,_=>[]
 |n+1,m,q,x=>((m,(eR x.1 q).1):Rec)::rI n (m+(1+Src.pick (eR x.1 q).2 3)) (Src.next (eR x.1 q).2) x
theorem UA {k m:Int} {q:Src} {x:Schema} (h:0<k):rI k.toNat m q x=((m,(eR x.1 q).1):Rec)::rI (k-1).toNat (m+(1+Src.pick (eR x.1 q).2 3)) (Src.next (eR x.1 q).2) x:=by
 rw[show k.toNat=(k-1).toNat+1 by omega];rfl
def SX (x:Schema) (l:List Int) (n:Int):List Rec:=rI (Src.pick (Src.next (l,0)) (n+1)).toNat (Src.pick (l,0) 5) (Src.next (Src.next (l,0))) x
def vE (x:Schema) (l:List Int) (n:Int):List Rec:=CL x (SX x l n)
theorem LR:∀(cs:List Col) (q:Src),lY q->(∀v,v∈(eR cs q).1->inI v.2.1)/\lY (eR cs q).2
 | [],q,h=>⟨(fun v hv=>by cases hv),h⟩
 |c::cs,q,h=>by
  have h1:=qGL c h
  have h2:=LR cs _ h1.2
  refine⟨fun v hv=>?_,h2.2⟩
  rcases List.mem_cons.1 hv with e|e
  · rw[e];exact h1.1.2
  · exact h2.1 v e
theorem MK:∀(n:Nat) (m:Int) (q:Src) (x:Schema),lY q->wN (rI n m q x)
 |0,_,_,_,_,r,hr=>by cases hr
 |n+1,m,q,x,h,r,hr=>by
  have h1:=LR x.1 q h
  rcases List.mem_cons.1 hr with e|e
  · rw[e];exact h1.1
  · exact MK n _ _ x (iH h1.2) r e
theorem qMT {s:Schema} {l:List Rec}:∀r,r∈CL s l->r∈l:=by
 unfold CL
 split
 case isFalse=>intro r hr;cases hr
 have go:∀(l o:List Rec) (r:Rec),r∈l.foldl (jR s) o->r∈o\/r∈l:=by
  intro l
  induction l with
  |nil=>intro o r h;exact .inl h
  |cons x l ih=>
   intro o r h
   rcases ih _ r h with q|q
   · unfold jR at q
     simp only[List.mem_append,List.mem_singleton]at q
     rcases q with(q|q)|q
     · exact .inl (List.mem_of_mem_take q)
     · exact .inr (by rw[q];exact List.mem_cons_self ..)
     · exact .inl (List.mem_of_mem_drop q)
   · exact .inr (List.mem_cons_of_mem _ q)
 intro r hr
 rcases go l [] r hr with q|q
 · cases q
 · exact q
theorem qMS {s:Schema} {l:List Rec}:(CL s l).length<=l.length:=by
 unfold CL
 split
 · have go:∀(l o:List Rec),(l.foldl (jR s) o).length=o.length+l.length:=by
     intro l
     induction l with
     |nil=>intro o;rfl
     |cons x l ih=>intro o;rw[List.foldl_cons,ih,GJ,List.length_cons];omega
   rw[go];simp
 · exact Nat.zero_le _
theorem HE:∀(n:Nat) (m:Int) (q:Src) (x:Schema),(rI n m q x).length=n
 |0,_,_,_=>rfl
 |n+1,m,q,x=>by rw[rI,List.length_cons,HE n]
theorem GN {x:Schema} {l:List Int} {n:Int} (h:∀v,v∈l->inI v):wN (vE x l n):=fun r hr=>MK _ _ _ _ (iH (iH (show lY (l,0)from h))) r (qMT r hr)
theorem AB {x:Schema} {l:List Int} {n:Int} (h:0<=n/\n<=1000):((vE x l n).length:Int)<=n:=by
 have h1:=qMS (s:=x) (l:=SX x l n)
 have h2:(SX x l n).length=_:=HE _ _ _ _
 have h3:=Src.pick_lt (s:=Src.next (l,0)) (n:=n+1) (by omega)
 have h4:(vE x l n).length<=(SX x l n).length:=h1
 omega
abbrev EN:Ct:=.fn [cC,.list (.int .i64),.int .i64] (some (fun(x:Schema) (l:List Int) (n:Int)=>(x.1.length<=1000)/\(l.length<=4611686018427387904)/\(0<=n/\n<=1000))) (fun(x:Schema) (l:List Int) (n:Int)=>.d (.list fP) (vE x l n))
theorem qK2:aH Tryz.prog 15 EN:=by
 refine aH.fn VY mixed [] [] rfl rfl ?_
 rintro⟨(x:Schema),(l:List Int),(n:Int),_⟩ hpre
 replace hpre:=hpre _ rfl
 dsimp only[cu]at hpre
 obtain⟨hx,hl0,hn⟩:=hpre
 have hp0:=Src.pick_lt (s:=(l,0)) (n:=5) (by omega)
 have hp1:=Src.pick_lt (s:=Src.next (l,0)) (n:=n+1) (by omega)
 refine⟨[(0,10,LA.mk [.sl 10 (.int .i64),.sl 9 (.int .i64),.lst 8 fP 56,.ob 1 oM 124] (fun y=>Tag 87/\cu [.int .i64,.int .i64,.list fP,oM] (fun(k:Int) (m:Int) (M:List Rec) (q:Src)=>(0<=k/\k<=1001)/\(Src.ok q)/\(SX x l n=M++rI k.toNat m q x)/\((M.length:Int)<=1001-k)/\(0<=m/\m<=5+4*(1001-k))) y) (cu [.int .i64,.int .i64,.list fP,oM] (fun(k:Int) (m:Int) (M:List Rec) (q:Src)=>k.toNat)) (cu [.int .i64,.int .i64,.list fP,oM] (fun(k:Int) (m:Int) (M:List Rec) (q:Src)=>([]:List (Nat×Nat×LA)))))],?_⟩
 repeat' (first
  |(
 with_reducible refine Side.mk ⟨(⟨⟩:Tag 87),?_⟩
 dsimp only[cu,aC,aB,gts,Prod.eta,List.nil_append]
 refine⟨?_,?_,?_,?_,?_⟩
 · omega
 · (repeat (first|assumption|exact Src.ok_from (by omega)|apply Src.ok_next|apply gR|apply qA))
 · first
   |(rfl)
   |(
  rw[hm,UA (by omega),List.append_assoc]
  rfl)
 · first
   |(simp only[List.length_nil];omega)
   |(simp only[List.length_append,List.length_cons,List.length_nil];omega)
 · first
   |(omega)
   |(
  have:=Src.pick_lt (s:=(eR x.1 q).2) (n:=3) (by decide)
  omega))
  |(
 with_reducible refine Side.mk ?_
 (try dsimp only[cu,aC,aB,gts,loK,hiK,Prod.eta,List.nil_append])
 first
 |(done)
 |(omega)
 |(exact Eq.refl _)
 |(simp only[List.length_append,List.length_cons,List.length_nil];omega)
 |(
  refine⟨?_,by first|decide|exact ZQ (by omega)⟩
  (repeat (first|assumption|exact Src.ok_from (by omega)|apply Src.ok_next|apply gR|apply qA));done)
 |(exact⟨by(repeat (first|assumption|exact Src.ok_from (by omega)|apply Src.ok_next|apply gR|apply qA)),by assumption⟩)
 |(have:=Src.pick_lt (s:=(eR x.1 q).2) (n:=3) (by decide);omega))
  |(conv=>whnf
    first
     |done
     |exact trivial
     |with_reducible refine NilBr.mk (fun h=>?_) ?_
     |with_reducible first|refine aJ ?_ ?_|refine aI ?_ ?_|refine aK (by kernel_rfl) ?_|refine aL ?_|refine bD ?_ ?_|refine bC ?_ ?_|refine aR ?_ ?_
     |((with_reducible first|refine aT (fun h=>?_) (fun h=>?_)|refine aS (fun h=>?_) (fun h=>?_)|refine bA (fun h=>?_) (fun h=>?_))<;>(try dsimp only[cu,Prod.eta,List.nil_append]at h)<;>(try(exfalso;omega;done)))
     |(
 intro yy (hy:Tag 87/\_)
 obtain⟨(k:Int),(m:Int),(M:List Rec),(q:Src),_⟩:=yy
 replace hy:=hy.2
 dsimp only[cu,aC,aB,gts,Prod.eta,List.nil_append]at hy
 obtain⟨hk,hq,hm,hml,hmb⟩:=hy)))
 all_goals(
 with_reducible refine Leaf.mk ?_
 (try dsimp only[cu,aC,aB,gts,Prod.eta,List.nil_append]at *)
 rw[vE,hm,show k.toNat=0 by omega,rI,List.append_nil])
abbrev qSW:Tbl:=(15,EN)::qSV
theorem VZ:aD Tryz.prog qSW:=aD.cons qK2 VY
abbrev zS:Ct:=.fn [] (none) (.tup [cC,.list fP] (nW,qC,()))
theorem qBL:aH Tryz.prog 25 zS:=by
 refine aH.fn VZ mixed [] [] rfl rfl ?_
 rintro⟨⟩ -
 refine⟨[],?_⟩
 repeat' (first
  |(
 with_reducible refine Side.mk ?_
 (try dsimp only[cu,aC,aB,gts,loK,hiK,Prod.eta,List.nil_append])
 exact Eq.refl _)
  |(conv=>whnf
    first
     |done
     |exact trivial
     |with_reducible refine NilBr.mk (fun h=>?_) ?_
     |with_reducible first|refine aJ ?_ ?_|refine aI ?_ ?_|refine aK (by kernel_rfl) ?_|refine aL ?_|refine bD ?_ ?_|refine bC ?_ ?_|refine aR ?_ ?_
     |((with_reducible first|refine aT (fun h=>?_) (fun h=>?_)|refine aS (fun h=>?_) (fun h=>?_)|refine bA (fun h=>?_) (fun h=>?_))<;>(try dsimp only[cu,Prod.eta,List.nil_append]at h)<;>(try(exfalso;omega;done)))))
 all_goals(
 with_reducible refine Leaf.mk ?_
 (try dsimp only[cu,aC,aB,gts,Prod.eta,List.nil_append]at *)
 rfl)
abbrev qSX:Tbl:=(25,zS)::qSW
theorem qM4:aD Tryz.prog qSX:=aD.cons qBL VZ
noncomputable section
abbrev wY:Ct:=.fn [] (none) (.tup [cC,.list fP] (qGT,qGS,()))
theorem qT4:aH Tryz.prog 25 wY:=by
 have e:wY=zS:=by rw[wY,qBM,yC]
 rw[e];exact qBL
abbrev qSY:Tbl:=(25,wY)::qSX
theorem WA:aD Tryz.prog qSY:=aD.cons qT4 qM4
abbrev EG:Ct:=.fn [] (none) (.d .bool true)
theorem qI0:aH Tryz.prog 16 EG:=by
 refine aH.fn WA mixed [] [] rfl rfl ?_
 rintro⟨⟩ -
 refine⟨[],?_⟩
 repeat' (first
  |(
 with_reducible refine Side.mk ?_
 (try dsimp only[cu,aC,aB,gts,loK,hiK,Prod.eta,List.nil_append])
 first
 |(
  rw[yC]
  exact⟨by decide,rE⟩)
 |(exact Nat.le_trans (DE (by rw[yC];exact rE)) (by decide))
 |(
  obtain⟨w1,w2⟩:=qBO
  have w3:=congrArg Prod.fst w2
  have w4:=congrArg Prod.snd w2
  dsimp only at w3 w4
  rw[w3,yC]
  exact⟨by decide,fun i=>qQH i⟩))
  |(conv=>whnf
    first
     |done
     |exact trivial
     |with_reducible refine NilBr.mk (fun h=>?_) ?_
     |with_reducible first|refine aJ ?_ ?_|refine aI ?_ ?_|refine aK (by kernel_rfl) ?_|refine aL ?_|refine bD ?_ ?_|refine bC ?_ ?_|refine aR ?_ ?_
     |((with_reducible first|refine aT (fun h=>?_) (fun h=>?_)|refine aS (fun h=>?_) (fun h=>?_)|refine bA (fun h=>?_) (fun h=>?_))<;>(try dsimp only[cu,Prod.eta,List.nil_append]at h)<;>(try(exfalso;omega;done)))))
 all_goals(
 with_reducible refine Leaf.mk ?_
 (try dsimp only[cu,aC,aB,gts,Prod.eta,List.nil_append]at *)
 first
 |(
  obtain⟨w1,w2⟩:=qBO
  have w3:=congrArg Prod.fst w2
  have w4:=congrArg Prod.snd w2
  dsimp only at w3 w4
  first
  |(
   rw[w3]
   exact decide_eq_true rfl)
  |(exact absurd w4 (by with_reducible assumption))))
abbrev qWA:Tbl:=(16,EG)::qSY
theorem qM5:aD Tryz.prog qWA:=aD.cons qI0 WA
theorem LQ:∀(n:Nat) (s:Src) (acc:List Col),(sX n s acc).1.length=acc.length+n
 |0,s,acc=>rfl
 |n+1,s,acc=>by rw[sX,LQ n];simp;omega
theorem mW (l:List Int):1<=(dS l).1.length/\(dS l).1.length<=4:=by
 have h:=Src.pick_lt (s:=(l,0)) (n:=4) (by decide)
 have e:(dS l).1.length=0+(1+Src.pick (l,0) 4).toNat:=LQ _ _ []
 omega
theorem qQE (b:Int):(aV [b]).size=1:=rfl
theorem qOQ {s:Schema} {l:List Rec} {k z:Int} (ei:wN l) (h:(hJ s l).2=0) (hk:0<=k/\k<(hJ s l).1.size) (hn:¬(k>=(hJ s l).1.size-8/\k<(hJ s l).1.size-4)) (hz:0<=z/\z<256) (hne:z≠aG (hJ s l).1 k.toNat):(kH s (((hJ s l).1.extract 0 k.toNat++⟨#[UInt8.ofNat z.toNat]⟩)++(hJ s l).1.extract (k+1).toNat (hJ s l).1.size)).2≠0:=by
 rcases zW s l with⟨_,h0⟩|⟨h0,h1,h2,h3⟩
 · exact absurd h h0
 rw[h0]at hk hn hne ⊢
 (try simp only at hk hn hne ⊢)
 have p:=vP h1 ei h2 h3
 have hv:=cO h1
 refine qJY (k:=k.toNat) (x:=z) (dI hv).1 (by omega) ?_ p.2 hz (by omega) (by rw[lD];exact hne) (by omega) ?_
 · intro c hc
   obtain⟨i,hr,rfl⟩:=List.mem_map.1 hc
   rw[List.mem_range]at hr
   rcases Nat.lt_or_ge i s.1.length with q|q
   · rw[xH q];exact oU (by rw[lN];omega) fun v h=>dR (pQ hv ei q v h).1 (pQ hv ei q v h).2
   · have:i=s.1.length:=by omega
     subst this
     rw[xI];exact oU (by simp [gE];omega) fun v h=>dR (wB hv v h).1 (wB hv v h).2
 · have e:(⟨#[UInt8.ofNat z.toNat]⟩:ByteArray)=aV [z]:=rfl
   rw[e,bG,bG,bF (fun y hy=>by rw[List.mem_singleton.1 hy];exact hz),pZ,pZ,List.drop_zero,Nat.sub_zero,List.take_of_length_le (l:=(aF (cS s l)).drop (k+1).toNat) (by rw[List.length_drop,aP];omega),show(k+1).toNat=k.toNat+1 by omega,List.append_assoc,List.singleton_append]
   exact(List.set_eq_take_append_cons_drop.trans (if_pos (by rw[aP];omega))).symm
theorem qU1 {b c:Int} (hb:0<=b/\b<256) (hc:0<=c/\c<256):lM .u8 b (IntKind.u8.wrap (1+c.tmod 255))≠b:=fun q=>by
 rw[Int.tmod_eq_emod_of_nonneg hc.1,MZ (by omega)]at q
 have:=(qH6 hb (by omega)).1 q
 omega
abbrev qFV:Ct:=.fn [.list (.int .i64),.list (.int .i64),.int .i64,.int .u8] (some (fun(x:List Int) (l:List Int) (a:Int) (c:Int)=>(x.length<=4611686018427387904)/\(l.length<=4611686018427387904)/\(∀v,v∈l->inI v)/\(0<=c/\c<256))) (fun(x:List Int) (l:List Int) (a:Int) (c:Int)=>.d .bool true)
theorem qPW:aH Tryz.prog 3 qFV:=by
 refine aH.fn qM5 mixed [] [] rfl rfl ?_
 rintro⟨(x:List Int),(l:List Int),(a:Int),(c:Int),_⟩ hpre
 replace hpre:=hpre _ rfl
 dsimp only[cu]at hpre
 obtain⟨hx,hl,hi,hc⟩:=hpre
 refine⟨[],?_⟩
 repeat' (first
  |(
 with_reducible refine Side.mk ?_
 (try dsimp only[cu,aC,aB,gts,loK,hiK,Prod.eta,List.nil_append])
 first
 |(done)
 |(with_reducible rfl)
 |(omega)
 |(exact Eq.refl _)
 |(simp only[List.length_append,List.length_cons,List.length_nil];omega)
 |(with_reducible assumption)
 |(
  have k0:=mW x
  first
  |(omega)
  |(constructor<;>first|with_reducible assumption|omega))
 |(
  have ei:wN (vE (dS x) l 6):=GN hi
  have es:=DE (s:=dS x) ei
  have kl:=AB (x:=dS x) (l:=l) (n:=6) (by decide)
  have k0:=mW x
  exact⟨by omega,by omega⟩)
 |(
  have k0:=mW x
  exact⟨by omega,by omega,by decide⟩)
 |(
  have ei:wN (vE (dS x) l 6):=GN hi
  have es:=DE (s:=dS x) ei
  have kl:=AB (x:=dS x) (l:=l) (n:=6) (by decide)
  first
  |(exact⟨by omega,ei⟩)
  |(omega)
  |(
   have ef:=SI (s:=dS x) ei (by with_reducible assumption)
   first
   |(exact ZQ (by omega))
   |(
    have pk:=pick_lt (v:=a) (n:=(((hJ (dS x) (vE (dS x) l 6)).1.size:Nat):Int)) (by omega)
    first
    |(omega)
    |(
     have k0:=mW x
     (try simp only[ByteArray.size_append,ByteArray.size_extract,yD,qQE])
     omega)))))
  |(conv=>whnf
    first
     |done
     |exact trivial
     |with_reducible refine NilBr.mk (fun h=>?_) ?_
     |with_reducible first|refine aJ ?_ ?_|refine aI ?_ ?_|refine aK (by kernel_rfl) ?_|refine aL ?_|refine bD ?_ ?_|refine bC ?_ ?_|refine aR ?_ ?_
     |((with_reducible first|refine aT (fun h=>?_) (fun h=>?_)|refine aS (fun h=>?_) (fun h=>?_)|refine bA (fun h=>?_) (fun h=>?_))<;>(try dsimp only[cu,Prod.eta,List.nil_append]at h)<;>(try(exfalso;omega;done)))))
 all_goals(
 with_reducible refine Leaf.mk ?_
 (try dsimp only[cu,aC,aB,gts,Prod.eta,List.nil_append]at *)
 first
 |(done)
 |(with_reducible rfl)
 |(simp_all;done)
 |(
  have ei:wN (vE (dS x) l 6):=GN hi
  have es:=DE (s:=dS x) ei
  have kl:=AB (x:=dS x) (l:=l) (n:=6) (by decide)
  have ef:=SI (s:=dS x) ei (by with_reducible assumption)
  have pk:=pick_lt (v:=a) (n:=(((hJ (dS x) (vE (dS x) l 6)).1.size:Nat):Int)) (by omega)
  exact congrArg not (decide_eq_false (qOQ ei (by with_reducible assumption) pk (by omega) (CY _ _) (qU1 (bO _ _) hc)))))
end
end Go.Proofs.YtcjiefknhfhmkaaGreatDoor
namespace Go.Abs
set_option maxRecDepth 100000
set_option maxHeartbeats 4000000
set_option linter.unusedVariables false
open Go.RowKit
def ι0:Iota:={at':=fun _=>none,X:=fun _=>False}
theorem qVN (w:World):HRel [] ι0 w:=
 ⟨fun id o h=>by simp at h,fun id h=>by simp at h,fun id _=>rfl,fun id o l id' o' l' h=>by simp at h,fun b h=>h.elim,fun b h=>h.elim⟩
theorem mt0 (b:Nat):¬Mt [] ι0 b:=by
 rintro(h|⟨id,o,l,h,_⟩)
 · exact h
 · simp at h
def tP (w:World) (x:V) (y:Value):Prop:=Rep w ι0 (Mt [] ι0) x y
def DN (w:World):List V->List Value->Prop
 | [],[]=>True
 |x::xs,y::ys=>tP w x y/\DN w xs ys
 |_,_=>False
theorem CF:∀ {w:World} {xs:List V} {ys:List Value},DN w xs ys->PW2 w ι0 (Mt [] ι0) xs ys.toArray
 |w,[],[],_=>⟨rfl,fun k x h=>by simp at h⟩
 |w,x::xs,y::ys,h=>by
  have ih:=CF h.2
  refine⟨by simpa using ih.1,fun k z hz=>?_⟩
  cases k with
  |zero=>simp at hz;subst hz;exact⟨y,by simp,h.1⟩
  |succ k=>
   obtain⟨u,u1,u2⟩:=ih.2 k z (by simpa using hz)
   exact⟨u,by simpa using u1,u2⟩
 |w,[],_::_,h=>h.elim
 |w,_::_,[],h=>h.elim
theorem ZW {P:Program} {f:FuncId} {args:List V} {vals:List Value} {w:World} (hr:DN w args vals) (hc:PC P f args [] (fun y _=>y = .v (.bool true))) :
  Calls P f vals.toArray w fun e w'=>e = .returned (.bool true)/\Below w.heap.size w w':=by
 refine(hc ι0 w _ (CF hr) (qVN w)).mono ?_
 rintro e w' ⟨y,x,h',ι',rfl,rfl,ry,_,ev⟩
 cases ry
 refine⟨rfl,ev.os,ev.tape,ev.output,ev.size,fun k hk=>(ev.frame k hk ?_).1⟩
 rintro⟨id,o,l,h,_⟩
 simp at h
theorem qB1 (w:World) (x:Value):tP w (.v x) x:=.v x
theorem KQ {w:World} {a:Addr} {v:Value} (h:w.cell? a=some v):a.spot=none/\a.block<w.heap.size:=by
 unfold World.cell? at h
 split at h
 · rename_i c el fr hb
   refine⟨?_,?_⟩
   · by_cases q:a.spot.isSome=true
     · rw[if_pos q]at h;cases h
     · simpa using q
   · rcases Nat.lt_or_ge a.block w.heap.size with q|q
     · exact q
     · rw[Array.getElem?_eq_none q]at hb;cases hb
 · cases h
def ints (k:IntKind) (l:List Int):V:=.sF 1 (l.map fun n=>[.v (.int k n)])
theorem MJ (w:World) (k:IntKind):tP w (ints k []) (.slice none 0 0):=Rep.sN 1
theorem HC {w:World} {k:IntKind} {x:Addr} {len cap:Nat} {zs:List Int} (hl:len<=cap) (hz:zs.length=cap) (hc:∀i,i<zs.length->w.cell? (x.add i)=some (.int k (zs.getD i 0))) :
  tP w (ints k (zs.take len)) (.slice (some x) len cap):=by
 have hlen:((zs.take len).map fun n=>[V.v (.int k n)]).length=len:=by simp;omega
 have:=Rep.sF_mk (w:=w) (ι:=ι0) (M:=Mt [] ι0) (sz:=1) (rows:=(zs.take len).map fun n=>[V.v (.int k n)]) x cap ?_ (by omega) (fun r hr=>by obtain⟨n,_,rfl⟩:=List.mem_map.1 hr;rfl) ?_
 · rw[hlen]at this;exact this
 · intro hne
   have h0:0<zs.length:=by
    rcases Nat.eq_zero_or_pos zs.length with q|q
    · exfalso;apply hne;rw[List.eq_nil_of_length_eq_zero q];simp
    · exact q
   have:=KQ (hc 0 h0)
   unfold Addr.add at this
   simp at this
   exact⟨this.1,this.2,mt0 _⟩
 · intro i j r y hi hj
   rw[List.getElem?_map]at hi
   cases hq:(zs.take len)[i]? with
   |none=>rw[hq]at hi;simp at hi
   |some n=>
    rw[hq]at hi
    simp at hi
    subst hi
    have hj0:j=0:=by have:=aN hj;simp at this;exact this
    subst hj0
    simp at hj
    subst hj
    rw[List.getElem?_take]at hq
    split at hq
    · have hlt:=aN hq
      refine⟨.int k n,?_,.v _⟩
      have hcell:=hc i hlt
      have hsp:=(KQ (hc 0 (by omega))).1
      have hsp0:x.spot=none:=by unfold Addr.add at hsp;simpa using hsp
      have e:x.add i=⟨x.block,x.off+i*1+0,none⟩:=by
       obtain⟨b,o,sp⟩:=x
       simp only at hsp0;subst hsp0
       rw[mA];simp
      rw[<-e,hcell]
      rw[List.getElem?_eq_getElem hlt]at hq
      injection hq with hq
      simp [List.getD,List.getElem?_eq_getElem hlt,hq]
    · cases hq
end Go.Abs
