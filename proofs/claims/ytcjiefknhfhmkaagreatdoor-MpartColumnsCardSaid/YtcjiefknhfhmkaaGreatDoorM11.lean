import Derived.Test.YtcjiefknhfhmkaaGreatDoorM10
namespace Go.Proofs.YtcjiefknhfhmkaaGreatDoor
open Go.Abs
set_option maxRecDepth 100000
set_option maxHeartbeats 4000000
set_option linter.unusedVariables false
set_option linter.unusedSimpArgs false
abbrev qb2:Ty:=.pair qEB (.pair (.list (.int .i64)) (.int .i64))
abbrev Ftr:Type:=Info×(List Int)×Int
@[reducible] instance:Inhabited Ftr:=instInhabitedDen qb2
abbrev jF:ByteArray:=⟨#[77,80,84,49]⟩
abbrev iR:Info:=(0,[],pI,pI)
abbrev BR (s:Schema):Col:=s.1[s.2.toNat]!
def nmF (m:Int):Nat->List Int->Int->Fr->List Int×Int×Fr
 |0,l,d,r=>(l,d,r)
 |n+1,l,d,r=>nmF m n (l++ [(iO r m).1]) (d-(iO r m).1) (iO r m).2
def znF (rows:Int):List Col->List Zone->Fr->List Zone×Fr
 | [],z,r=>(z,r)
 |c::l,z,r=>znF rows l (z++ [(sZ r c rows).1]) (sZ r c rows).2
def pP3 (s:Schema) (n:Int) (rows:Int) (B:List Int×Int×Fr) (Z:List Zone) (lo hi:Rank×Fr):Info×List Int×Int:=
 if hi.2.2.2=true\/hi.2.2.1<n\/rows<1\/B.2.1≠0\/gC (BR s).2.1 lo.1 hi.1>0 then(iR,[],2)else((rows,Z,lo.1,hi.1),B.1,0)
def pP2 (s:Schema) (n:Int) (rows:Int) (B:List Int×Int×Fr) (Z:List Zone×Fr):Info×List Int×Int:=pP3 s n rows B Z.1 (nO Z.2 (BR s)) (nO (nO Z.2 (BR s)).2 (BR s))
def pP1 (s:Schema) (n:Int) (rows:Int) (B:List Int×Int×Fr):Info×List Int×Int:=pP2 s n rows B (znF rows s.1 [] B.2.2)
def pP0 (s:Schema) (n m d:Int) (A:Int×Fr):Info×List Int×Int:=pP1 s n A.1 (nmF m (s.1.length+1) [] d A.2)
def zJ (s:Schema) (t:ByteArray) (m d:Int):Info×List Int×Int:=pP0 s t.size m d (iO (t,0,false) 1024)
def oR (s:Schema) (file f:ByteArray) (k:Int):Info×List Int×Int:=
 if jS f≠dA file (file.size-12)then(iR,[],9)else if dA f 0≠jS (tS s)then(iR,[],1)else zJ s (f.extract 4 f.size) file.size (file.size-12-k)
def NB (s:Schema) (file:ByteArray) (k:Int):Info×List Int×Int:=
 if k>file.size-12 then(iR,[],10)else if EL file jF=false\/EM file jF=false\/k<8 then(iR,[],2)else oR s file (file.extract (file.size-8-k).toNat (file.size-12)) k
def bI (s:Schema) (file:ByteArray):Info×List Int×Int:=
 if aW s≠0 then(iR,[],aW s)else if file.size<12 then(iR,[],10)else NB s file (dA file (file.size-8))
def offs (l:List Int):List Int:=(List.range (l.length+1)).map fun i=>4+fO (l.take i)
def rfN (f:ByteArray) (b:Int):Nat->List Int->Int->List Int×Int×Bool
 |0,F,a=>(F,a,true)
 |n+1,F,a=>if(aA f a).2.2≠0\/(aA f a).1>b then(F,a,false)else rfN f b n (F++ [F[F.length-1]! +(aA f a).1]) (aA f a).2.1
def rzN (f:ByteArray) (rows:Int):List Col->List Zone->Int->List Zone×Int×Bool
 | [],z,a=>(z,a,true)
 |c::l,z,a=>if(gG f a).2.2≠0\/lJ c (gG f a).1=false\/(gG f a).1.1≠rows then(z,a,false)else rzN f rows l (z++ [(gG f a).1]) (gG f a).2.1
def rP4 (s:Schema) (f:ByteArray) (st rows:Int) (F:List Int) (Z:List Zone) (lo hi:Rank×Int×Bool):Ftr×Bool:=
 if hi.2.2=false\/hi.2.1≠f.size\/gC (BR s).2.1 lo.1 hi.1>0 then(((rows,Z,pI,pI),F,st),false)else(((rows,Z,lo.1,hi.1),F,st),true)
def rP3 (s:Schema) (f:ByteArray) (st rows:Int) (F:List Int) (Z:List Zone) (lo:Rank×Int×Bool):Ftr×Bool:=
 if lo.2.2=false then(((rows,Z,pI,pI),F,st),false)else rP4 s f st rows F Z lo (kJ s f lo.2.1)
def rP2 (s:Schema) (f:ByteArray) (st rows:Int) (F:List Int) (Z:List Zone×Int×Bool):Ftr×Bool:=
 if Z.2.2=false then(((rows,Z.1,pI,pI),F,st),false)else rP3 s f st rows F Z.1 (kJ s f Z.2.1)
def rP1 (s:Schema) (f:ByteArray) (st rows:Int) (B:List Int×Int×Bool):Ftr×Bool:=
 if B.2.2=false\/B.1[B.1.length-1]! ≠st then(((rows,[],pI,pI),B.1,st),false)else rP2 s f st rows B.1 (rzN f rows s.1 [] B.2.1)
def sW (s:Schema) (f:ByteArray) (st:Int):Ftr×Bool:=
 if(aA f 4).2.2≠0\/(aA f 4).1<1\/(aA f 4).1>1024 then((iR,[4],st),false)else rP1 s f st (aA f 4).1 (rfN f st (s.1.length+1) [4] (aA f 4).2.1)
abbrev qBZ:Ftr:=(iR,[],0)
def VC (s:Schema) (file f:ByteArray) (k:Int):Ftr×Int:=
 if jS f≠dA file (file.size-12)then(qBZ,9)else if dA f 0≠jS (tS s)then(qBZ,1)else if(sW s f (file.size-8-k)).2=false then(qBZ,2)else((sW s f (file.size-8-k)).1,0)
def qUM (s:Schema) (file:ByteArray) (k:Int):Ftr×Int:=
 if k>file.size-12 then(qBZ,10)else if EL file jF=false\/EM file jF=false\/k<8 then(qBZ,2)else VC s file (file.extract (file.size-8-k).toNat (file.size-12)) k
def qDJ (s:Schema) (file:ByteArray):Ftr×Int:=
 if aW s≠0 then(qBZ,aW s)else if file.size<12 then(qBZ,10)else qUM s file (dA file (file.size-8))
def shK {α:Type} (k:Int) (x:α×Int×Int):α×Int×Int:=(x.1,if x.2.2=0 then x.2.1-k else 0,x.2.2)
theorem tW (s:ByteArray) (a b:Nat):aE (s.extract a b)=((aE s).drop a).take (b-a):=by
 unfold aE;simp [List.map_take,List.map_drop,List.take_drop]
theorem lS {f:ByteArray} {k e i:Nat} (h:k+i<e) (he:e<=f.size):aG (f.extract k e) i=aG f (k+i):=by
 rw[<-gJ,<-gJ,tW,List.getElem!_eq_getElem?_getD,List.getElem!_eq_getElem?_getD,List.getElem?_take,if_pos (by omega),List.getElem?_drop]
theorem QL {f:ByteArray} {k:Nat} (h:k<=f.size):(f.extract k f.size).size=f.size-k:=by rw[ByteArray.size_extract];omega
theorem UL {f:ByteArray} {k:Nat} (hk:k<=f.size) {a:Int} (ha:0<=a):∀(n:Nat) (j v:Int),0<=j->jN (f.extract k f.size) a n j v=shK k (jN f (a+k) n j v)
 |0,j,v,_=>by rw[jN,jN];rfl
 |n+1,j,v,hj=>by
  rw[jN,jN,QL hk];by_cases h1:j>=(f.size:Int)-(a+k)
  ·rw[if_pos (show j>=((f.size-k:Nat):Int)-a by omega),if_pos h1];rfl
  ·rw[if_neg (show ¬j>=((f.size-k:Nat):Int)-a by omega),if_neg h1]
   have hb:aG (f.extract k f.size) (a+j).toNat=aG f (a+k+j).toNat:=by
    rw[lS (by omega) (Nat.le_refl _)];congr 1;omega
   rw[hb,UL hk ha n (j+1) _ (by omega)];split
   ·rfl
   ·split
    ·rfl
    ·split
     ·rfl
     ·simp only[shK,if_true,Prod.mk.injEq,true_and,and_true];omega
theorem yX {f:ByteArray} {k:Nat} (hk:k<=f.size) {a:Int} (ha:0<=a):aA (f.extract k f.size) a=shK k (aA f (a+k)):=by
 unfold aA;rw[QL hk];by_cases h:a+k>f.size
 ·rw[if_pos (.inr (by omega)),if_pos (.inr h)];rfl
 ·rw[if_neg (by omega),if_neg (by omega),UL hk ha 10 0 0 (by omega)]
theorem qRG {f:ByteArray} {k a b:Nat} (hk:k<=f.size) (hb:k+b<=f.size):(f.extract k f.size).extract a b=f.extract (k+a) (k+b):=by
 rw[ByteArray.extract_extract];congr 1;omega
theorem uK {α:Type} {k:Int} {x:α×Int×Int} (h:x.2.2=0):shK k x=(x.1,x.2.1-k,0):=by
 rw[shK,if_pos h,h]
theorem sY {α:Type} {k:Int} {x:α×Int×Int} (h:x.2.2≠0):shK k x=(x.1,0,x.2.2):=by
 rw[shK,if_neg h]
theorem QU {f:ByteArray} {k:Nat} (hk:k<=f.size) {a:Int} (ha:0<=a):dN (f.extract k f.size) a=shK k (dN f (a+k)):=by
 unfold dN;rw[QL hk];by_cases h1:a+k>f.size
 ·rw[if_pos (.inr (by omega)),if_pos (.inr h1)];rfl
 rw[if_neg (show ¬(a<0\/a>((f.size-k:Nat):Int))by omega),if_neg (show ¬(a+k<0\/a+k>(f.size:Int))by omega)];by_cases h2:a+k=f.size
 ·rw[if_pos (by omega),if_pos h2];rfl
 rw[if_neg (show ¬a=((f.size-k:Nat):Int)by omega),if_neg h2];have hb:aG (f.extract k f.size) a.toNat=aG f (a+k).toNat:=by
  rw[lS (by omega) (Nat.le_refl _)];congr 1;omega
 rw[hb,yX hk (a:=a+1) (by omega),show a+1+(k:Int)=a+k+1 by omega];by_cases h3:aG f (a+k).toNat>1
 ·rw[if_pos h3,if_pos h3];rfl
 rw[if_neg h3,if_neg h3];by_cases h4:aG f (a+k).toNat=0
 ·rw[if_pos h4,if_pos h4];simp only[shK,if_true,Prod.mk.injEq,true_and,and_true];omega
 rw[if_neg h4,if_neg h4];by_cases h5:(aA f (a+k+1)).2.2≠0
 ·rw[sY h5,if_pos h5,if_pos h5,sY (by exact h5)]
 have h5:=Decidable.not_not.1 h5;have o1:=bR h5;rw[uK h5];simp only[h5,ne_eq,not_true_eq_false,if_false];rw[yX hk (a:=(aA f (a+k+1)).2.1-k) (by omega),show(aA f (a+k+1)).2.1-(k:Int)+k=(aA f (a+k+1)).2.1 by omega];by_cases h6:(aA f (aA f (a+k+1)).2.1).2.2≠0
 ·rw[sY h6,if_pos h6,if_pos h6,sY (by exact h6)]
 have h6:=Decidable.not_not.1 h6;have o2:=bR h6;have g2:=bB f (aA f (a+k+1)).2.1;rw[uK h6];simp only[h6,ne_eq,not_true_eq_false,if_false];by_cases h7:(aA f (aA f (a+k+1)).2.1).1>f.size-(aA f (aA f (a+k+1)).2.1).2.1
 ·rw[if_pos (by omega),if_pos h7];rfl
 rw[if_neg (by omega),if_neg h7,qRG hk (by omega),uK rfl];refine Prod.ext (Prod.ext rfl (Prod.ext rfl ?_)) (Prod.ext ?_ rfl)
 ·show f.extract _ _=f.extract _ _
  congr 1<;>omega
 ·dsimp only;omega
theorem EV {s:ByteArray} {a:Int} (h:(dN s a).2.2=0):0<=a/\a<(dN s a).2.1/\(dN s a).2.1<=s.size:=by
 unfold dN at h ⊢;split at h
 ·cases h
 rename_i h1;split at h
 ·cases h
 rename_i h2;split at h
 ·cases h
 rename_i h3;rw[if_neg h1,if_neg h2,if_neg h3];split at h
 ·rename_i h4
  rw[if_pos h4];show 0<=a/\a<a+1/\a+1<=s.size;omega
 rename_i h4;split at h
 ·rename_i h5;exact absurd h h5
 rename_i h5;split at h
 ·rename_i h6;exact absurd h h6
 rename_i h6;split at h
 ·cases h
 rename_i h7;rw[if_neg h4,if_neg h5,if_neg h6,if_neg h7];have o1:=bR (Decidable.not_not.1 h5);have o2:=bR (Decidable.not_not.1 h6);have g2:=bB s (aA s (a+1)).2.1;show 0<=a/\a<_+_/\_+_<=(s.size:Int);omega
theorem qRY {f:ByteArray} {k:Nat} (hk:k<=f.size) {a:Int} (ha:0<=a):gG (f.extract k f.size) a=shK k (gG f (a+k)):=by
 unfold gG;rw[yX hk ha];by_cases h1:(aA f (a+k)).2.2≠0
 ·rw[sY h1,if_pos h1,if_pos h1,sY (by exact h1)]
 have h1:=Decidable.not_not.1 h1;have o1:=bR h1;rw[uK h1];simp only[h1,ne_eq,not_true_eq_false,if_false];by_cases h2:(aA f (a+k)).1>4096
 ·rw[if_pos h2,if_pos h2];rfl
 rw[if_neg h2,if_neg h2,yX hk (a:=(aA f (a+k)).2.1-k) (by omega),show(aA f (a+k)).2.1-(k:Int)+k=(aA f (a+k)).2.1 by omega];by_cases h3:(aA f (aA f (a+k)).2.1).2.2≠0
 ·rw[sY h3,if_pos h3,if_pos h3,sY (by exact h3)]
 have h3:=Decidable.not_not.1 h3;have o3:=bR h3;rw[uK h3];simp only[h3,ne_eq,not_true_eq_false,if_false];by_cases h4:(aA f (aA f (a+k)).2.1).1>4096
 ·rw[if_pos h4,if_pos h4];rfl
 rw[if_neg h4,if_neg h4];generalize hp:(aA f (aA f (a+k)).2.1).2.1=p at *;rw[QU hk (a:=p-k) (by omega),show p-(k:Int)+k=p by omega];by_cases h5:(dN f p).2.2≠0
 ·rw[sY h5,if_pos h5,if_pos h5,sY (by exact h5)]
 have h5:=Decidable.not_not.1 h5;have o5:=EV h5;rw[uK h5];simp only[h5,ne_eq,not_true_eq_false,if_false];rw[QU hk (a:=(dN f p).2.1-k) (by omega),show(dN f p).2.1-(k:Int)+k=(dN f p).2.1 by omega];by_cases h6:(dN f (dN f p).2.1).2.2≠0
 ·rw[sY h6,if_pos h6,if_pos h6,sY (by exact h6)]
 have h6:=Decidable.not_not.1 h6;rw[uK h6];simp only[h6,ne_eq,not_true_eq_false,if_false];rw[uK rfl]
theorem qRX {s:ByteArray} {a:Int} (h:(gG s a).2.2=0):0<=a/\a<(gG s a).2.1/\(gG s a).2.1<=s.size:=by
 unfold gG at h ⊢;split at h
 ·rename_i q;exact absurd h q
 rename_i h1;split at h
 ·cases h
 rename_i h2;split at h
 ·rename_i q;exact absurd h q
 rename_i h3;split at h
 ·cases h
 rename_i h4;split at h
 ·rename_i q;exact absurd h q
 rename_i h5;split at h
 ·rename_i q;exact absurd h q
 rename_i h6;rw[if_neg h1,if_neg h2,if_neg h3,if_neg h4,if_neg h5,if_neg h6];have o1:=bR (Decidable.not_not.1 h1);have o3:=bR (Decidable.not_not.1 h3);have o5:=EV (Decidable.not_not.1 h5);have o6:=EV (Decidable.not_not.1 h6);show 0<=a/\a<(dN s _).2.1/\(dN s _).2.1<=(s.size:Int);omega
theorem qNO {r:Fr} {m:Int} (h:r.2.2=true):iO r m=(0,r):=by
 obtain⟨t,a,b⟩:=r;simp only at h;subst h;rw[iO,if_pos (.inl rfl)]
theorem BZ {r:Fr} {c:Col} (h:r.2.2=true):nO r c=(pI,r):=by
 obtain⟨t,a,b⟩:=r;simp only at h;subst h;rw[nO,if_pos (.inl rfl)]
theorem qKG {r:Fr} {c:Col} {rows:Int} (h:r.2.2=true):(sZ r c rows).2.2.2=true:=by
 show(r.2.2||_)=true;rw[h,Bool.true_or]
theorem RD {m:Int}:∀(n:Nat) (l:List Int) (d:Int) (r:Fr),r.2.2=true->(nmF m n l d r).2.2.2.2=true
 |0,_,_,_,h=>h
 |n+1,l,d,r,h=>by rw[nmF,qNO h];exact RD n _ _ _ h
theorem SE {rows:Int}:∀(cs:List Col) (z:List Zone) (r:Fr),r.2.2=true->(znF rows cs z r).2.2.2=true
 | [],_,_,h=>h
 |c::cs,z,r,h=>by rw[znF];exact SE cs _ _ (qKG h)
theorem RG (r:Fr) (m:Int):0<=(iO r m).1:=by
 unfold iO;split
 ·exact Int.le_refl _
 ·exact(bB _ _).1
theorem qNM {m:Int}:∀(n:Nat) (l:List Int) (d:Int) (r:Fr),(nmF m n l d r).2.1<=d
 |0,_,_,_=>Int.le_refl _
 |n+1,l,d,r=>by
  rw[nmF];have h1:=qNM (m:=m) n (l++ [(iO r m).1]) (d-(iO r m).1) (iO r m).2;have h2:=RG r m;omega
theorem RF {f:ByteArray} (hk:4<=f.size) {a m:Int} (ha:0<=a):iO (f.extract 4 f.size,a,false) m=if(aA f (a+4)).2.2≠0\/(aA f (a+4)).1>m then(0,(f.extract 4 f.size,a,true))else((aA f (a+4)).1,(f.extract 4 f.size,(aA f (a+4)).2.1-4,false)):=by
 unfold iO;simp only;rw[yX hk ha];show(if(false=true\/(shK 4 (aA f (a+4))).2.2≠0\/(shK 4 (aA f (a+4))).1>m)then _ else _)=_;by_cases h:(aA f (a+4)).2.2≠0\/(aA f (a+4)).1>m
 ·rw[if_pos h,if_pos (.inr h)]
 ·rw[if_neg h,if_neg (by rintro(q|q);cases q;exact h q)]
  show((aA f (a+4)).1,_,(shK 4 (aA f (a+4))).2.1,false)=_;rw[uK (Decidable.not_not.1 fun q=>h (.inl q))]
theorem WR (l:List Int) (v:Int):fO (l++ [v])=fO l+v:=by
 induction l with
 |nil=>simp [fO]
 |cons x l ih=>simp only[fO,List.cons_append,List.foldr_cons]at ih ⊢;omega
theorem VA (l:List Int):(offs l).length=l.length+1:=by simp [offs]
theorem RI {l:List Int} {i:Nat} (h:i<=l.length):(offs l)[i]! =4+fO (l.take i):=by
 rw[getElem!_pos _ i (by rw[VA];omega)];simp [offs]
theorem vI (l:List Int):(offs l)[(offs l).length-1]! =4+fO l:=by
 rw[VA,show l.length+1-1=l.length by omega,RI (Nat.le_refl _),List.take_length]
theorem UZ (l:List Int) (v:Int):offs (l++ [v])=offs l++ [(offs l)[(offs l).length-1]! +v]:=by
 rw[vI];unfold offs;rw[List.length_append,List.length_singleton,List.range_succ,List.map_append];congr 1
 ·apply List.map_congr_left
  intro i hi;rw[List.mem_range]at hi;rw[List.take_append_of_le_length (by omega)]
 ·simp only[List.map_cons,List.map_nil]
  rw[List.take_of_length_le (by simp),WR];congr 1;omega
theorem qUL {f:ByteArray} (hk:4<=f.size) {b m:Int} (hb:b<=m):∀(n:Nat) (l:List Int) (d a:Int),0<=a ->
  ((rfN f b n (offs l) (a+4)).2.2=true->∃l' a',nmF m n l d (f.extract 4 f.size,a,false)=(l',d+fO l-fO l',(f.extract 4 f.size,a'-4,false))/\rfN f b n (offs l) (a+4)=(offs l',a',true)/\4<=a'/\l'.length=l.length+n/\(∀i,l.length<=i->i<l'.length->0<=l'[i]!)/\l'=l++l'.drop l.length) /\
  ((rfN f b n (offs l) (a+4)).2.2=false->(nmF m n l d (f.extract 4 f.size,a,false)).2.2.2.2=true\/(nmF m n l d (f.extract 4 f.size,a,false)).2.1<d-b)
 |0,l,d,a,ha=>⟨fun _=>⟨l,a+4,by rw[nmF];refine Prod.ext rfl (Prod.ext ?_ (Prod.ext rfl (Prod.ext ?_ rfl)))<;>(simp only;omega),rfl,by omega,by omega,fun i h1 h2=>by omega,by simp⟩,fun h=>by cases h⟩
 |n+1,l,d,a,ha=>by
  rw[rfN,nmF,RF hk ha];by_cases h1:(aA f (a+4)).2.2≠0\/(aA f (a+4)).1>b
  ·rw[if_pos h1]
   refine⟨(fun h=>by cases h),fun _=>?_⟩;by_cases h2:(aA f (a+4)).2.2≠0\/(aA f (a+4)).1>m
   ·rw[if_pos h2];exact .inl (RD n _ _ _ rfl)
   ·rw[if_neg h2]
    refine .inr ?_;have:=qNM (m:=m) n (l++ [(aA f (a+4)).1]) (d-(aA f (a+4)).1) (f.extract 4 f.size,(aA f (a+4)).2.1-4,false);simp only;omega
  ·have h0:(aA f (a+4)).2.2=0:=Decidable.not_not.1 fun q=>h1 (.inl q)
   have o:=bR h0;have g:=bB f (a+4);rw[if_neg h1,if_neg (by omega)];simp only;rw[<-UZ];have ih:=qUL hk hb n (l++ [(aA f (a+4)).1]) (d-(aA f (a+4)).1) ((aA f (a+4)).2.1-4) (by omega);rw[show(aA f (a+4)).2.1-4+4=(aA f (a+4)).2.1 by omega]at ih;refine⟨fun h=>?_,fun h=>?_⟩
   ·obtain⟨l',a',e1,e2,e3,e4,e5,e6⟩:=ih.1 h
    rw[List.length_append,List.length_singleton]at e4 e5 e6;have hd:l'[l.length]? =some (aA f (a+4)).1:=by
     rw[e6,List.getElem?_append_left (by simp)];simp
    have hlt:l.length<l'.length:=by omega
    refine⟨l',a',by rw[e1,WR];refine Prod.ext rfl (Prod.ext ?_ rfl);simp only;omega,e2,e3,by omega,fun i h1 h2=>?_,?_⟩
    ·by_cases q:i=l.length
     ·subst q;rw[getElem!_pos l' _ h2,<-Option.some.inj (hd.symm.trans (List.getElem?_eq_getElem h2))];exact g.1
     ·exact e5 i (by omega) h2
    ·have h3:l'.drop l.length=(aA f (a+4)).1::l'.drop (l.length+1):=by
       rw[List.drop_eq_getElem_cons hlt];congr 1
       exact Option.some.inj ((List.getElem?_eq_getElem hlt).symm.trans hd)
     rw[h3];rw[List.append_assoc]at e6;exact e6
   ·rcases ih.2 h with q|q
    ·exact .inl q
    ·exact .inr (by omega)
theorem qQG {f:ByteArray} (hk:4<=f.size) {a rows:Int} {c:Col} (ha:0<=a) :
  ((gG f (a+4)).2.2=0/\lJ c (gG f (a+4)).1=true/\(gG f (a+4)).1.1=rows->sZ (f.extract 4 f.size,a,false) c rows=((gG f (a+4)).1,(f.extract 4 f.size,(gG f (a+4)).2.1-4,false))) /\
  (((gG f (a+4)).2.2≠0\/lJ c (gG f (a+4)).1=false\/(gG f (a+4)).1.1≠rows)->(sZ (f.extract 4 f.size,a,false) c rows).2.2.2=true):=by
 unfold sZ;simp only;rw[qRY hk ha];refine⟨fun⟨h1,h2,h3⟩=>?_,fun h=>?_⟩
 ·rw[show((4:Nat):Int)=4 from rfl,uK h1]
  simp only[h2,h3,Bool.false_or,Bool.not_true,ne_eq,not_true_eq_false,decide_false,Bool.or_self]
 ·show(false||(decide ((gG f (a+4)).2.2≠0)||(!lJ c (gG f (a+4)).1||decide ((gG f (a+4)).1.1≠rows))))=true
  rcases h with h|h|h
  ·rw[decide_eq_true h];rfl
  ·rw[h];simp
  ·rw[decide_eq_true h];simp
theorem qVS {f:ByteArray} (hk:4<=f.size) {rows:Int}:∀(cs:List Col) (z:List Zone) (a:Int),0<=a ->
  ((rzN f rows cs z (a+4)).2.2=true->znF rows cs z (f.extract 4 f.size,a,false)=((rzN f rows cs z (a+4)).1,(f.extract 4 f.size,(rzN f rows cs z (a+4)).2.1-4,false))/\4<=(rzN f rows cs z (a+4)).2.1) /\
  ((rzN f rows cs z (a+4)).2.2=false->(znF rows cs z (f.extract 4 f.size,a,false)).2.2.2=true)
 | [],z,a,ha=>⟨fun _=>⟨by rw[znF,rzN];refine Prod.ext rfl (Prod.ext rfl (Prod.ext ?_ rfl));simp only;omega,by rw[rzN];simp only;omega⟩,fun h=>by cases h⟩
 |c::cs,z,a,ha=>by
  rw[rzN,znF];obtain⟨z1,z2⟩:=qQG hk (rows:=rows) (c:=c) ha;by_cases h1:(gG f (a+4)).2.2≠0\/lJ c (gG f (a+4)).1=false\/(gG f (a+4)).1.1≠rows
  ·rw[if_pos h1]
   exact⟨(fun h=>by cases h),fun _=>SE cs _ _ (z2 h1)⟩
  ·have h0:(gG f (a+4)).2.2=0:=Decidable.not_not.1 fun q=>h1 (.inl q)
   have o:=qRX h0;rw[if_neg h1,z1 ⟨h0,by cases q:lJ c (gG f (a+4)).1;exact absurd (.inr (.inl q)) h1;rfl,Decidable.not_not.1 fun q=>h1 (.inr (.inr q))⟩];simp only;have ih:=qVS hk (rows:=rows) cs (z++ [(gG f (a+4)).1]) ((gG f (a+4)).2.1-4) (by omega);rw[show(gG f (a+4)).2.1-4+4=(gG f (a+4)).2.1 by omega]at ih;exact ih
theorem qDQ {f:ByteArray} (hk:4<=f.size) {s:Schema} {a:Int} (ha:0<=a) :
  ((kJ s f (a+4)).2.2=true->nO (f.extract 4 f.size,a,false) (BR s)=((kJ s f (a+4)).1,(f.extract 4 f.size,(kJ s f (a+4)).2.1-4,false))/\4<=(kJ s f (a+4)).2.1/\(kJ s f (a+4)).2.1<=f.size) /\
  ((kJ s f (a+4)).2.2=false->(nO (f.extract 4 f.size,a,false) (BR s)).2.2.2=true):=by
 unfold nO kJ;simp only;rw[QU hk ha];by_cases h1:(dN f (a+4)).2.2≠0\/bE (BR s) (dN f (a+4)).1≠0
 ·rw[if_pos h1]
  refine⟨(fun h=>by cases h),fun _=>?_⟩;rw[if_pos (.inr h1)]
 ·have h0:(dN f (a+4)).2.2=0:=Decidable.not_not.1 fun q=>h1 (.inl q)
  have o:=EV h0;rw[if_neg h1,show((4:Nat):Int)=4 from rfl,uK h0];simp only;rw[if_neg (show ¬(false=true\/(0:Int)≠0\/bE (BR s) (dN f (a+4)).1≠0)from fun q=>by
   rcases q with q|q|q
   ·cases q
   ·exact q rfl
   ·exact h1 (.inr q)),RF hk (show 0<=(dN f (a+4)).2.1-4 by omega),show(dN f (a+4)).2.1-4+4=(dN f (a+4)).2.1 by omega]
  by_cases h2:(aA f (dN f (a+4)).2.1).2.2≠0\/(aA f (dN f (a+4)).2.1).1>1099511627776
  ·rw[if_pos h2,if_pos h2]
   exact⟨(fun h=>by cases h),fun _=>rfl⟩
  ·have h3:(aA f (dN f (a+4)).2.1).2.2=0:=Decidable.not_not.1 fun q=>h2 (.inl q)
   have o3:=bR h3;rw[if_neg h2,if_neg h2];refine⟨fun _=>?_,fun h=>by cases h⟩;refine⟨rfl,?_,?_⟩<;>(simp only;omega)
theorem OB {s:Schema} {f:ByteArray} {st m:Int} (hk:4<=f.size) (hm:st<=m) :
  ((sW s f st).2=false->zJ s (f.extract 4 f.size) m (st-4)=(iR,[],2)) /\
  ((sW s f st).2=true->∃l,zJ s (f.extract 4 f.size) m (st-4)=((sW s f st).1.1,l,0)/\(sW s f st).1.2.1=offs l/\l.length=s.1.length+1/\(∀i,i<l.length->0<=l[i]!)/\4+fO l=st/\1<=(sW s f st).1.1.1/\(sW s f st).1.1.1<=1024):=by
 have bad3:∀ {n rows:Int} {B:List Int×Int×Fr} {Z:List Zone} {lo hi:Rank×Fr},hi.2.2.2=true->pP3 s n rows B Z lo hi=(iR,[],2):=fun h=>by rw[pP3,if_pos (.inl h)]
 have bad2:∀ {n rows:Int} {B:List Int×Int×Fr} {Z:List Zone×Fr},Z.2.2.2=true->pP2 s n rows B Z=(iR,[],2):=fun h=>by
  rw[pP2,BZ h];exact bad3 (by rw[BZ h];exact h)
 have bad1:∀ {n rows:Int} {B:List Int×Int×Fr},B.2.2.2.2=true->pP1 s n rows B=(iR,[],2):=fun h=>by rw[pP1];exact bad2 (SE _ _ _ h)
 have neg2:∀ {n rows:Int} {B:List Int×Int×Fr} {Z:List Zone×Fr},B.2.1≠0->pP2 s n rows B Z=(iR,[],2):=fun h=>by rw[pP2,pP3,if_pos (.inr (.inr (.inr (.inl h))))]
 have row2:∀ {n rows:Int} {B:List Int×Int×Fr} {Z:List Zone×Fr},rows<1->pP2 s n rows B Z=(iR,[],2):=fun h=>by rw[pP2,pP3,if_pos (.inr (.inr (.inl h)))]
 unfold zJ sW;rw[RF hk (Int.le_refl 0),show(0:Int)+4=4 by omega,QL hk];by_cases h1:(aA f 4).2.2≠0\/(aA f 4).1>1024
 ·rw[if_pos h1,if_pos (by omega),pP0]
  exact⟨fun _=>bad1 (RD _ _ _ _ rfl),fun h=>by cases h⟩
 rw[if_neg h1,pP0];by_cases h2:(aA f 4).1<1
 ·rw[if_pos (.inr (.inl h2)),pP1]
  exact⟨fun _=>row2 h2,fun h=>by cases h⟩
 have h0:(aA f 4).2.2=0:=Decidable.not_not.1 fun q=>h1 (.inl q)
 have o:=bR h0;rw[if_neg (by omega),rP1];simp only;obtain⟨n1,n2⟩:=qUL hk hm (s.1.length+1) [] (st-4) ((aA f 4).2.1-4) (by omega);rw[show offs []= [4]from rfl,show(aA f 4).2.1-4+4=(aA f 4).2.1 by omega]at n1 n2;cases hB:(rfN f st (s.1.length+1) [4] (aA f 4).2.1).2.2 with
 |false=>
  rw[if_pos (.inl rfl)];refine⟨fun _=>?_,fun h=>by cases h⟩;rcases n2 hB with q|q
  ·exact bad1 q
  ·rw[pP1];exact neg2 (by omega)
 |true=>
  obtain⟨l,a,e1,e2,e3,e4,e5,_⟩:=n1 hB;rw[e1,e2];simp only[List.length_nil,Nat.zero_add]at e4 e5;have hs0:fO ([]:List Int)=0:=rfl;rw[hs0];simp only;by_cases h3:(offs l)[(offs l).length-1]! ≠st
  ·rw[if_pos (.inr h3),pP1]
   rw[vI]at h3;exact⟨fun _=>neg2 (by simp only;omega),fun h=>by cases h⟩
  rw[if_neg (by rintro(q|q);cases q;exact h3 q),pP1,rP2];rw[vI]at h3;simp only;obtain⟨z1,z2⟩:=qVS hk (rows:=(aA f 4).1) s.1 [] (a-4) (by omega);rw[show a-4+4=a by omega]at z1 z2;cases hZ:(rzN f (aA f 4).1 s.1 [] a).2.2 with
  |false=>
   rw[if_pos rfl];exact⟨fun _=>bad2 (z2 hZ),fun h=>by cases h⟩
  |true=>
   obtain⟨w1,w2⟩:=z1 hZ;rw[if_neg (by intro q;cases q),w1,rP3,pP2];generalize rzN f (aA f 4).1 s.1 [] a=Z at *;simp only;obtain⟨k1,k2⟩:=qDQ hk (s:=s) (a:=Z.2.1-4) (by omega);rw[show Z.2.1-4+4=Z.2.1 by omega]at k1 k2;cases hL:(kJ s f Z.2.1).2.2 with
   |false=>
    rw[if_pos rfl];exact⟨fun _=>bad3 (by rw[BZ (k2 hL)];exact k2 hL),fun h=>by cases h⟩
   |true=>
    obtain⟨v1,v2,v3⟩:=k1 hL;rw[if_neg (by intro q;cases q),v1,rP4];generalize kJ s f Z.2.1=lo at *;simp only;obtain⟨m1,m2⟩:=qDQ hk (s:=s) (a:=lo.2.1-4) (by omega);rw[show lo.2.1-4+4=lo.2.1 by omega]at m1 m2;cases hH:(kJ s f lo.2.1).2.2 with
    |false=>
     rw[if_pos (.inl rfl)];exact⟨fun _=>bad3 (m2 hH),fun h=>by cases h⟩
    |true=>
     obtain⟨x1,x2,x3⟩:=m1 hH;rw[x1,pP3];generalize kJ s f lo.2.1=hi at *;simp only;by_cases h9:hi.2.1≠f.size\/gC (BR s).2.1 lo.1 hi.1>0
     ·rw[if_pos (.inr h9)]
      refine⟨fun _=>?_,fun h=>by cases h⟩;rw[if_pos];rcases h9 with q|q
      ·exact .inr (.inl (by omega))
      ·exact .inr (.inr (.inr (.inr q)))
     ·rw[if_neg (by rintro(q|q);cases q;exact h9 q)]
      refine⟨(fun h=>by cases h),fun _=>⟨l,?_,rfl,by omega,fun i hi=>e5 i (Nat.zero_le _) hi,by omega,by simp only;omega,by simp only;omega⟩⟩;rw[if_neg];rintro(q|q|q|q|q)
      ·cases q
      ·omega
      ·exact h2 q
      ·exact q (by omega)
      ·exact h9 (.inr q)
theorem qNS {l:List Int} {n:Nat} (h0:∀i,i<l.length->0<=l[i]!) (hs:4+fO l<=n):qDE n l:=by
 have nn:∀(a:List Int),(∀x,x∈a->0<=x)->0<=fO a:=fun a ha=>by
  induction a with
  |nil=>exact Int.le_refl _
  |cons x a ih=>
   have h1:=ha x (List.mem_cons_self ..);have h2:=ih fun y hy=>ha y (List.mem_cons_of_mem _ hy)
   simp only[fO,List.foldr_cons]at h2 ⊢;omega
 have app:∀a b:List Int,fO (a++b)=fO a+fO b:=fun a b=>by
  induction a with
  |nil=>simp [fO]
  |cons x a ih=>simp only[fO,List.cons_append,List.foldr_cons]at ih ⊢;omega
 have mem:∀x,x∈l->0<=x:=fun x hx=>by
  obtain⟨i,hi,rfl⟩:=List.mem_iff_getElem.1 hx;have:=h0 i hi;rwa [getElem!_pos l i hi]at this
 intro k hk hl;have h1:=vU (l:=l) (k:=k) ⟨hk,hl⟩;have h2:=app (l.take (k+1).toNat) (l.drop (k+1).toNat);rw[List.take_append_drop]at h2;have h3:=nn (l.drop (k+1).toNat) fun x hx=>mem x (List.mem_of_mem_drop hx)
 have h4:=nn (l.take k.toNat) fun x hx=>mem x (List.mem_of_mem_take hx)
 have h5:=h0 k.toNat (by omega);omega
theorem qAA {s:Schema} {file f:ByteArray} {k:Int} (h0:aW s=0) (hf:4<=f.size) (hk:8<=k) (hk2:k<=file.size-12):(VC s file f k).2=(oR s file f k).2.2/\(VC s file f k).1.1=(oR s file f k).1 /\
  ((oR s file f k).2.2=0->(VC s file f k).1.2.1=offs (oR s file f k).2.1/\(oR s file f k).2.1.length=s.1.length+1/\qDE file.size (oR s file f k).2.1/\1<=(oR s file f k).1.1/\(oR s file f k).1.1<=1024/\aW s=0):=by
 unfold VC oR;by_cases h1:jS f≠dA file (file.size-12)
 ·rw[if_pos h1,if_pos h1];exact⟨rfl,rfl,fun q=>by cases q⟩
 by_cases h2:dA f 0≠jS (tS s)
 ·rw[if_neg h1,if_neg h1,if_pos h2,if_pos h2];exact⟨rfl,rfl,fun q=>by cases q⟩
 rw[if_neg h1,if_neg h1,if_neg h2,if_neg h2];obtain⟨p1,p2⟩:=OB (s:=s) (f:=f) (st:=file.size-8-k) (m:=file.size) hf (by omega);rw[show(file.size:Int)-8-k-4=file.size-12-k by omega]at p1 p2;cases hr:(sW s f (file.size-8-k)).2 with
 |false=>rw[if_pos rfl,p1 hr];exact⟨rfl,rfl,fun q=>by cases q⟩
 |true=>
  rw[if_neg (by intro q;cases q)];obtain⟨l,e1,e2,e3,e4,e5,e6,e7⟩:=p2 hr;rw[e1];exact⟨rfl,rfl,fun _=>⟨e2,e3,qNS (l:=l) e4 (by omega),e6,e7,h0⟩⟩
theorem mA (s:Schema) (file:ByteArray):(qDJ s file).2=(bI s file).2.2/\(qDJ s file).1.1=(bI s file).1 /\
  ((bI s file).2.2=0->(qDJ s file).1.2.1=offs (bI s file).2.1/\(bI s file).2.1.length=s.1.length+1/\qDE file.size (bI s file).2.1/\1<=(bI s file).1.1/\(bI s file).1.1<=1024/\aW s=0):=by
 unfold qDJ bI;by_cases h0:aW s≠0
 ·rw[if_pos h0,if_pos h0];exact⟨rfl,rfl,fun q=>absurd q h0⟩
 rw[if_neg h0,if_neg h0];by_cases h1:file.size<12
 ·rw[if_pos h1,if_pos h1];exact⟨rfl,rfl,fun q=>by cases q⟩
 rw[if_neg h1,if_neg h1];generalize hk:dA file ((file.size:Int)-8)=k;unfold qUM NB;by_cases h2:k>file.size-12
 ·rw[if_pos h2,if_pos h2];exact⟨rfl,rfl,fun q=>by cases q⟩
 rw[if_neg h2,if_neg h2];by_cases h3:EL file jF=false\/EM file jF=false\/k<8
 ·rw[if_pos h3,if_pos h3];exact⟨rfl,rfl,fun q=>by cases q⟩
 rw[if_neg h3,if_neg h3];have h8:¬k<8:=fun q=>h3 (.inr (.inr q))
 exact qAA (Decidable.not_not.1 h0) (by rw[ByteArray.size_extract];omega) (by omega) (by omega)
theorem qAX (r:Fr) (m:Int):(iO r m).2.1=r.1:=by unfold iO;split<;>rfl
theorem qT7 (r:Fr) (c:Col) (n:Int):(sZ r c n).2.1=r.1:=rfl
theorem RO (r:Fr) (c:Col):(nO r c).2.1=r.1:=by
 unfold nO;split
 ·rfl
 ·simp only[qAX]
theorem qDC (r:Fr) {m:Int} (h:0<=m):(iO r m).1<=m:=by
 unfold iO;split
 ·exact h
 ·rename_i q;simp only;omega
theorem qNN {m k n d:Int} {l:List Int} {r:Fr} (h:0<=k/\k<n):nmF m (n-k).toNat l d r=nmF m (n-(k+1)).toNat (l++ [(iO r m).1]) (d-(iO r m).1) (iO r m).2:=by
 rw[show(n-k).toNat=(n-(k+1)).toNat+1 by omega];rfl
theorem qQF {rows k:Int} {l:List Col} {z:List Zone} {r:Fr} (h:0<=k/\k<l.length):znF rows (l.drop k.toNat) z r=znF rows (l.drop (k+1).toNat) (z++ [(sZ r l[k.toNat]! rows).1]) (sZ r l[k.toNat]! rows).2:=by
 rw[bN l k h];rfl
theorem PA (s:ByteArray) (i:Int):0<=dA s i/\dA s i<4294967296:=YH _
theorem oM {f:ByteArray} {a e:Nat} {i:Int} (hi:0<=i/\a+i+4<=e) (he:e<=f.size):dA (f.extract a e) i=dA f (a+i):=by
 unfold dA;rw[lS (by omega) he,lS (by omega) he,lS (by omega) he,lS (by omega) he];rw[show a+i.toNat=((a:Int)+i).toNat by omega,show a+(i+1).toNat=((a:Int)+i+1).toNat by omega,show a+(i+2).toNat=((a:Int)+i+2).toNat by omega,show a+(i+3).toNat=((a:Int)+i+3).toNat by omega]
abbrev fzK (file:ByteArray):Int:=dA (file.extract ((file.size:Int)-8).toNat file.size) 0
abbrev fzF (file:ByteArray):ByteArray:=file.extract ((file.size:Int)-8-fzK file).toNat ((file.size:Int)-8).toNat
abbrev fzT (file:ByteArray):ByteArray:=(fzF file).extract (4:Int).toNat (fzK file-4).toNat
abbrev fzG (file:ByteArray):ByteArray:=file.extract ((file.size:Int)-8-fzK file).toNat (file.size-12)
theorem qRU {file:ByteArray} (h:12<=file.size):fzK file=dA file (file.size-8):=by
 unfold fzK;rw[oM (by omega) (Nat.le_refl _)];congr 1;omega
theorem qAE {file:ByteArray} (h:12<=file.size) (h2:¬fzK file>file.size-12) (h8:¬fzK file<8) :
  ((fzF file).size:Int)=fzK file/\((fzG file).size:Int)=fzK file-4/\(fzF file).extract 0 (fzK file-4).toNat=fzG file/\dA ((fzF file).extract (fzK file-4).toNat (fzF file).size) 0=dA file (file.size-12)/\dA (fzF file) 0=dA (fzG file) 0/\fzT file=(fzG file).extract 4 (fzG file).size:=by
 have s1:((fzF file).size:Int)=fzK file:=by unfold fzF;rw[ByteArray.size_extract];omega
 have s2:((fzG file).size:Int)=fzK file-4:=by unfold fzG;rw[ByteArray.size_extract];omega
 refine⟨s1,s2,?_,?_,?_,?_⟩
 ·unfold fzF fzG;rw[ByteArray.extract_extract];congr 1<;>omega
 ·rw[oM (by omega) (Nat.le_refl _)]
  unfold fzF;rw[oM (by omega) (by omega)];congr 1;omega
 ·unfold fzF fzG
  rw[oM (by omega) (by omega),oM (by omega) (by omega)]
 ·unfold fzT fzG fzF
  rw[ByteArray.extract_extract,ByteArray.extract_extract];have:(file.extract ((file.size:Int)-8-fzK file).toNat (file.size-12)).size=(fzK file-4).toNat:=by rw[ByteArray.size_extract];omega
  rw[this];congr 1<;>omega
theorem qAG {s:Schema} (h:aW s=0):(idS s).1=jS (tS s):=by rw[idS,if_neg (fun q=>q h)]
theorem qWG {s:Schema} {file:ByteArray} (h:aW s≠0):bI s file=(iR,[],aW s):=by rw[bI,if_pos h]
theorem qWH {s:Schema} {file:ByteArray} (h:aW s=0) (h1:file.size<12):bI s file=(iR,[],10):=by rw[bI,if_neg (fun q=>q h),if_pos h1]
theorem qWI {s:Schema} {file:ByteArray} (h:aW s=0) (h1:¬file.size<12) (h2:fzK file>file.size-12):bI s file=(iR,[],10):=by
 rw[bI,if_neg (fun q=>q h),if_neg h1,NB,if_pos (by rw[<-qRU (by omega)];exact h2)]
theorem ZY {s:Schema} {file:ByteArray} (h:aW s=0) (h1:¬file.size<12) (h2:¬fzK file>file.size-12) (h3:EL file jF=false\/EM file jF=false\/fzK file<8):bI s file=(iR,[],2):=by
 rw[bI,if_neg (fun q=>q h),if_neg h1,NB,if_neg (by rw[<-qRU (by omega)];exact h2),if_pos (by rw[<-qRU (by omega)];exact h3)]
theorem ZZ {s:Schema} {file:ByteArray} (h:aW s=0) (h1:¬file.size<12) (h2:¬fzK file>file.size-12) (h3:¬(EL file jF=false\/EM file jF=false\/fzK file<8)):bI s file=oR s file (fzG file) (fzK file):=by
 rw[bI,if_neg (fun q=>q h),if_neg h1,<-qRU (by omega),NB,if_neg h2,if_neg h3]
theorem qWJ {s:Schema} {file:ByteArray} (h:aW s=0) (h1:¬file.size<12) (h2:¬fzK file>file.size-12) (h3:EL file jF=true) (h4:EM file jF=true) (h5:¬fzK file<8)
  (h6:AF cY ((fzF file).extract 0 (fzK file-4).toNat)≠dA ((fzF file).extract (fzK file-4).toNat (fzF file).size) 0):bI s file=(iR,[],9):=by
 obtain⟨_,_,a3,a4,a5,a6⟩:=qAE (by omega) h2 h5;rw[ZZ h h1 h2 (by rw[h3,h4];rintro(q|q|q);cases q;cases q;exact h5 q),oR,if_pos];rw[a3,a4]at h6;exact h6
theorem qWK {s:Schema} {file:ByteArray} (h:aW s=0) (h1:¬file.size<12) (h2:¬fzK file>file.size-12) (h3:EL file jF=true) (h4:EM file jF=true) (h5:¬fzK file<8)
  (h6:AF cY ((fzF file).extract 0 (fzK file-4).toNat)=dA ((fzF file).extract (fzK file-4).toNat (fzF file).size) 0) (h7:dA (fzF file) 0≠(idS s).1):bI s file=(iR,[],1):=by
 obtain⟨_,_,a3,a4,a5,a6⟩:=qAE (by omega) h2 h5;rw[a3,a4]at h6;rw[ZZ h h1 h2 (by rw[h3,h4];rintro(q|q|q);cases q;cases q;exact h5 q),oR,if_neg (fun q=>q h6),if_pos];rw[a5,qAG h]at h7;exact h7
theorem qWL {s:Schema} {file:ByteArray} (h:aW s=0) (h1:¬file.size<12) (h2:¬fzK file>file.size-12) (h3:EL file jF=true) (h4:EM file jF=true) (h5:¬fzK file<8)
  (h6:AF cY ((fzF file).extract 0 (fzK file-4).toNat)=dA ((fzF file).extract (fzK file-4).toNat (fzF file).size) 0) (h7:dA (fzF file) 0=(idS s).1):bI s file=zJ s (fzT file) file.size (file.size-12-fzK file):=by
 obtain⟨_,_,a3,a4,a5,a6⟩:=qAE (by omega) h2 h5;rw[a3,a4]at h6;rw[a5,qAG h]at h7;rw[ZZ h h1 h2 (by rw[h3,h4];rintro(q|q|q);cases q;cases q;exact h5 q),oR,if_neg (fun q=>q h6),if_neg (fun q=>q h7),a6]
theorem qWP (file:ByteArray):(fzT file).size<=file.size:=by
 unfold fzT fzF;simp only[ByteArray.size_extract];omega
abbrev fzL (s:Schema) (q:Fr):Rank×Fr:=nO q s.1[s.2.toNat]!
abbrev fzH (s:Schema) (q:Fr):Rank×Fr:=nO (nO q s.1[s.2.toNat]!).2 s.1[s.2.toNat]!
theorem qMO {s:Schema} {file:ByteArray} {P:List Int} {d D:Int} {r q:Fr} {Z:List Zone} (hf:bI s file=zJ s (fzT file) file.size D) (e1:nmF file.size (s.1.length+1) [] D (iO (fzT file,0,false) 1024).2=(P,d,r))
  (e2:znF (iO (fzT file,0,false) 1024).1 s.1 [] r=(Z,q)) (hq:q.1=fzT file) :
  bI s file=if(fzH s q).2.2.2=true\/(fzH s q).2.2.1<((fzH s q).2.1.size:Int)\/(iO (fzT file,0,false) 1024).1<1\/d≠0\/gC s.1[s.2.toNat]!.2.1 (fzL s q).1 (fzH s q).1>0 then(iR,[],2)else(((iO (fzT file,0,false) 1024).1,Z,(fzL s q).1,(fzH s q).1),P,0):=by
 have hz:((fzH s q).2.1.size:Int)=(fzT file).size:=by rw[fzH,RO,RO,hq]
 rw[hz,hf,zJ,pP0,pP1,e1];simp only;rw[e2,pP2,pP3]
theorem qYN {b:Bool} (h:b=false):¬b=true:=by rw[h];exact Bool.noConfusion
theorem UI {s:Schema} (h:aW s=0):s.1.length<=12/\0<=s.2/\s.2<s.1.length:=bC h
abbrev LC:Ct:=.fn [cE,.str] (some (fun(s:Schema) (file:ByteArray)=>(file.size<=288230376151711744))) (fun(s:Schema) (file:ByteArray)=>.tup [qEB,.list (.int .i64),.int .i64] ((bI s file).1,(bI s file).2.1,(bI s file).2.2,()))
theorem qRN:aH Tryz.prog 48 LC:=by
 refine aH.fn XY mixed [] [] rfl rfl ?_;rintro⟨(s:Schema),(file:ByteArray),_⟩ hpre;replace hpre:=hpre _ rfl;dsimp only[cu]at hpre;have hs:=hpre;refine⟨[(0,46,LA.mk [.sl 107 (.int .i64),.sl 16 (.int .i64),.lst 15 (.int .i64) 3,.ob 2 tFr 134] (fun y=>Tag 80/\cu [.int .i64,.int .i64,.list (.int .i64),tFr] (fun(k:Int) (d:Int) (P:List Int) (r:Fr)=>(0<=k/\k<=((s.1.length:Int)+1))/\((nmF file.size (s.1.length+1) [] ((file.size:Int)-12-(dA (file.extract ((file.size:Int)-8).toNat file.size) 0)) (iO (fzT file,0,false) 1024).2)=nmF file.size (((s.1.length:Int)+1)-k).toNat P d r)/\(r.1=fzT file)/\(((file.size:Int)-12-(dA (file.extract ((file.size:Int)-8).toNat file.size) 0))-288230376151711744*k<=d/\d<=((file.size:Int)-12-(dA (file.extract ((file.size:Int)-8).toNat file.size) 0)))/\((P.length:Int)=k)) y) (cu [.int .i64,.int .i64,.list (.int .i64),tFr] (fun(k:Int) (d:Int) (P:List Int) (r:Fr)=>((((s.1.length:Int)+1):Int)-k).toNat)) (cu [.int .i64,.int .i64,.list (.int .i64),tFr] (fun(k:Int) (d:Int) (P:List Int) (r:Fr)=>([]:List (Nat×Nat×LA))))),(0,58,LA.mk [.sl 124 (.int .i64),.row 3 [.same,.own lO 67,.same,.same,.same,.same,.same,.same,.same,.same],.ob 2 tFr 134] (fun y=>Tag 81/\cu [.int .i64,.list lO,tFr] (fun(j:Int) (Z:List Zone) (q:Fr)=>(0<=j/\j<=s.1.length)/\(znF (iO (fzT file,0,false) 1024).1 s.1 [] (nmF file.size (s.1.length+1) [] ((file.size:Int)-12-(dA (file.extract ((file.size:Int)-8).toNat file.size) 0)) (iO (fzT file,0,false) 1024).2).2.2=znF (iO (fzT file,0,false) 1024).1 (s.1.drop j.toNat) Z q)/\(q.1=fzT file)/\((Z.length:Int)=j)) y) (cu [.int .i64,.list lO,tFr] (fun(j:Int) (Z:List Zone) (q:Fr)=>((s.1.length:Int)-j).toNat)) (cu [.int .i64,.list lO,tFr] (fun(j:Int) (Z:List Zone) (q:Fr)=>([]:List (Nat×Nat×LA)))))],?_⟩;repeat' (first
  |(
 with_reducible refine Side.mk ⟨(⟨⟩:Tag 80),?_⟩
 dsimp only[cu,aC,aB,gts,eE,eN]
 refine⟨?_,?_,?_,?_,?_⟩
 ·omega
 ·first
  |rfl
  |rw[hn,qNN (by omega)]
 ·first
  |exact qAX _ _
  |((rw[qAX];exact hr))
 ·first
  |omega
  |(
  have g1:=RG r file.size
  have g2:=qDC r (m:=file.size) (by omega)
  omega)
 ·first
  |rfl
  |(
  simp only[List.length_append,List.length_cons,List.length_nil]
  omega))
  |(
 with_reducible refine Side.mk ⟨(⟨⟩:Tag 81),?_⟩
 dsimp only[cu,aC,aB,gts,eE,eN]
 refine⟨?_,?_,?_,?_⟩
 ·omega
 ·first
  |(
  rw[hn,show(((s.1.length:Int)+1)-k).toNat=0 by omega]
  rfl)
  |rw[hz,qQF (by omega)]
 ·first
  |exact hr
  |((rw[qT7];exact hq))
 ·first
  |rfl
  |(
  simp only[List.length_append,List.length_cons,List.length_nil]
  omega))
  |(
 with_reducible apply Side.mk
 (try dsimp only[cu,aC,aB,gts,loK,hiK,eE,eN])
 first
 |done
 |omega
 |exact Eq.refl _
 |simp only[List.length_append,List.length_cons,List.length_nil];omega
 |(
  have hkey:=UI (s:=s) (by with_reducible assumption);first
  |omega
  |(
   have hK:=PA (file.extract ((file.size:Int)-8).toNat file.size) 0;have u4:(⟨#[77,80,84,49]⟩:ByteArray).size=4:=rfl;have g1:=RG r file.size;have g2:=qDC r (m:=file.size) (by omega);omega))
 |(
  have hK:=PA (file.extract ((file.size:Int)-8).toNat file.size) 0;have u4:(⟨#[77,80,84,49]⟩:ByteArray).size=4:=rfl;first
  |omega
  |(
   simp only[ByteArray.size_extract];omega))
 |(
  have hkey:=UI (s:=s) (by with_reducible assumption);simp only[List.length_append,List.length_cons,List.length_nil];omega)
 |(
  have hT:=qWP file;first
  |(
   rw[hr];omega)
  |(
   rw[hq];omega)
  |(
   rw[RO,hq];omega)))
  |(conv=>whnf
    first
     |with_reducible first|done|exact trivial|refine NilBr.mk (fun h=>?_) ?_|apply aJ|apply aI|refine aK (by kernel_rfl) ?_|apply aL|apply bG|apply bF|apply aR
     |((with_reducible first|apply aT|apply aS|apply bD)<;>intro h<;>(try dsimp only[cu,eE,eN]at h)<;>(try(exfalso;omega)))
     |(
 intro yy (hy:Tag 80/\_)
 obtain⟨(k:Int),(d:Int),(P:List Int),(r:Fr),_⟩:=yy
 replace hy:=hy.2
 dsimp only[cu,aC,aB,gts,eE,eN]at hy
 obtain⟨hk,hn,hr,hd,hp⟩:=hy)
     |(
 intro yy (hy:Tag 81/\_)
 obtain⟨(j:Int),(Z:List Zone),(q:Fr),_⟩:=yy
 replace hy:=hy.2
 dsimp only[cu,aC,aB,gts,eE,eN]at hy
 obtain⟨hj,hz,hq,hzl⟩:=hy)))
 all_goals(
 with_reducible apply Leaf.mk
 (try dsimp only[cu,aC,aB,gts,eE,eN]at *)
 first
 |rw[qWG (by with_reducible assumption)]
 |rw[qWH (by with_reducible assumption) (by omega)]
 |rw[qWI (by with_reducible assumption) (by omega) (by with_reducible assumption)]
 |rw[ZY (by with_reducible assumption) (by omega) (by with_reducible assumption) (.inl (qAV (by with_reducible assumption)))]
 |rw[ZY (by with_reducible assumption) (by omega) (by with_reducible assumption) (.inr (.inl (qAV (by with_reducible assumption))))]
 |rw[ZY (by with_reducible assumption) (by omega) (by with_reducible assumption) (.inr (.inr (by with_reducible assumption)))]
 |rw[qWJ (by with_reducible assumption) (by omega) (by with_reducible assumption) (lL (by with_reducible assumption)) (lL (by with_reducible assumption)) (by with_reducible assumption) (by with_reducible assumption)]
 |rw[qWK (by with_reducible assumption) (by omega) (by with_reducible assumption) (lL (by with_reducible assumption)) (lL (by with_reducible assumption)) (by with_reducible assumption) (by with_reducible assumption) (by with_reducible assumption)]
 |(
  have e1:(nmF file.size (s.1.length+1) [] ((file.size:Int)-12-(dA (file.extract ((file.size:Int)-8).toNat file.size) 0)) (iO (fzT file,0,false) 1024).2)=(P,d,r):=by
   rw[hn,show(((s.1.length:Int)+1)-k).toNat=0 by omega];rfl
  have e2:znF (iO (fzT file,0,false) 1024).1 s.1 [] r=(Z,q):=by
   have h2:=hz;rw[e1,List.drop_eq_nil_of_le (by omega)]at h2;exact h2
  have ff:=qMO (qWL (by with_reducible assumption) (by omega) (by with_reducible assumption) (lL (by with_reducible assumption)) (lL (by with_reducible assumption)) (by with_reducible assumption) (by with_reducible assumption) (by with_reducible assumption)) e1 e2 hq;first
  |rw[ff,if_pos (.inl (by with_reducible assumption))]
  |rw[ff,if_pos (.inr (.inl (by with_reducible assumption)))]
  |rw[ff,if_pos (.inr (.inr (.inl (by with_reducible assumption))))]
  |rw[ff,if_pos (.inr (.inr (.inr (.inl (by with_reducible assumption)))))]
  |rw[ff,if_pos (.inr (.inr (.inr (.inr (by with_reducible assumption)))))]
  |(
   rw[ff,if_neg (fun x=>by
    rcases x with x|x|x|x|x
    ·exact absurd x (qYN (by with_reducible assumption))
    ·exact absurd x (by with_reducible assumption)
    ·exact absurd x (by with_reducible assumption)
    ·exact x (by with_reducible assumption)
    ·exact absurd x (by with_reducible assumption))])))
abbrev qVK:Tbl:=(48,LC)::qVJ
theorem XZ:aD Tryz.prog qVK:=aD.cons qRN XY
def BK (f:Nat->Int):Nat->Nat->Int
 |0,_=>0
 |m+1,k=>if f k≠0 then f k else BK f m (k+1)
theorem qIL {f:Nat->Int} {m i:Int} (h:0<=i/\i<m) (h0:f i.toNat=0):BK f (m-i).toNat i.toNat=BK f (m-(i+1)).toNat (i+1).toNat:=by
 rw[show(m-i).toNat=(m-(i+1)).toNat+1 by omega,BK,if_neg (fun q=>q h0),show(i+1).toNat=i.toNat+1 by omega]
theorem qIM {f:Nat->Int} {m i:Int} (h:0<=i/\i<m) (h0:f i.toNat≠0):BK f (m-i).toNat i.toNat=f i.toNat:=by
 rw[show(m-i).toNat=(m-(i+1)).toNat+1 by omega,BK,if_pos h0]
def qB (V:Nat->List Val) (nc i k j:Nat):Rec:=(if nc<i\/(i=nc/\j<k)then(V nc)[j]!.2.1 else 0,(List.range (min nc (if j<k then i+1 else i))).map fun c=>(V c)[j]!)
theorem qI7 (V:Nat->List Val) (nc i k j:Nat):(qB V nc i k j).2.length<=nc:=by
 simp only[qB,List.length_map,List.length_range];omega
def uF (V:Nat->List Val) (nc n i k:Nat):List Rec:=(List.range n).map (qB V nc i k)
theorem jY (V:Nat->List Val) (nc n i k:Nat):(uF V nc n i k).length=n:=by simp [uF]
theorem oY {V:Nat->List Val} {nc n i k j:Nat} (h:j<n):(uF V nc n i k)[j]? =some (qB V nc i k j):=by simp [uF,h]
theorem qXJ (V:Nat->List Val) (nc n:Nat):uF V nc n 0 0=List.replicate n ((0,[]):Rec):=by
 apply List.ext_getElem?;intro j;by_cases h:j<n
 ·rw[oY h]
  simp [h,qB]
 ·rw[List.getElem?_eq_none (by rw[jY];omega),List.getElem?_eq_none (by simp;omega)]
theorem qS5 {V:Nat->List Val} {nc n i k:Nat} {a:Rec} (hk:k<n) (h:(uF V nc n i k)[k]? =some a):a=qB V nc i k k:=by
 rw[oY hk]at h;exact(Option.some.inj h).symm
theorem VY {V:Nat->List Val} {nc n i k:Nat} {a:Rec} (hk:k<n) (ha:a=qB V nc i (k+1) k):(uF V nc n i k).set k a=uF V nc n i (k+1):=by
 apply List.ext_getElem?;intro j;by_cases h:j<n
 ·rw[oY h]
  by_cases h2:k=j
  ·subst h2;rw[List.getElem?_set_self (by rw[jY];exact h),ha]
  ·rw[List.getElem?_set_ne h2,oY h]
   have e:(j<k)=(j<k+1):=by apply propext;omega
   simp only[qB,e]
 ·rw[List.getElem?_eq_none (by rw[List.length_set,jY];omega),List.getElem?_eq_none (by rw[jY];omega)]
theorem qOH {V:Nat->List Val} {nc n i k:Nat} (hk:k<n) (hi:i<nc):(uF V nc n i k).set k ((qB V nc i k k).1,(qB V nc i k k).2++ [(V i)[k]!])=uF V nc n i (k+1):=by
 refine VY hk ?_;simp only[qB,Nat.lt_irrefl,if_false,Nat.lt_succ_self,if_true];rw[if_neg (by omega),if_neg (by omega),Nat.min_eq_right (by omega),Nat.min_eq_right (by omega),List.range_succ,List.map_append];rfl
theorem qOI {V:Nat->List Val} {nc n i k:Nat} (hk:k<n) (hi:i=nc):(uF V nc n i k).set k ((V i)[k]!.2.1,(qB V nc i k k).2)=uF V nc n i (k+1):=by
 subst hi;refine VY hk (Prod.ext ?_ ?_)
 ·show _=if i<i\/(i=i/\k<k+1)then _ else _
  rw[if_pos (.inr ⟨rfl,Nat.lt_succ_self k⟩)]
 ·show List.map _ (List.range (min i (if k<k then i+1 else i)))=List.map _ (List.range (min i (if k<k+1 then i+1 else i)))
  rw[if_neg (Nat.lt_irrefl k),if_pos (Nat.lt_succ_self k),Nat.min_eq_right (by omega),Nat.min_eq_left (by omega)]
theorem qI9 (V:Nat->List Val) (nc n i:Nat):uF V nc n i n=uF V nc n (i+1) 0:=by
 apply List.ext_getElem?;intro j;by_cases h:j<n
 ·rw[oY h,oY h]
  simp only[qB,if_pos h,Nat.not_lt_zero,if_false,h,and_true,and_false,or_false];simp only[show(nc<i\/i=nc)↔nc<i+1 by omega];rfl
 ·rw[List.getElem?_eq_none (by rw[jY];omega),List.getElem?_eq_none (by rw[jY];omega)]
abbrev chV (s:Schema) (file:ByteArray) (F:Info×List Int×Int) (i:Int):List Val×Int:=jR s file F.1.1 F.2.1 i
abbrev chL (s:Schema) (file:ByteArray) (F:Info×List Int×Int) (i:Nat):List Val:=(chV s file F i).1
abbrev chE (s:Schema) (file:ByteArray) (F:Info×List Int×Int) (i:Nat):Int:=(chV s file F i).2
def qH5 (s:Schema) (file:ByteArray) (F:Info×List Int×Int) (i:Int):List Val×Int:=if F.2.2≠0 then([],F.2.2)else if i<0\/i>=F.2.1.length then([],4)else chV s file F i
def gZ (s:Schema) (file:ByteArray) (i:Int):List Val×Int:=qH5 s file (bI s file) i
def qOG (s:Schema) (file:ByteArray) (F:Info×List Int×Int):List Rec:=uF (chL s file F) s.1.length F.1.1.toNat (s.1.length+1) 0
def IY (s:Schema) (I:Info) (l:List Rec):List Rec×Int:=if cW s l=false then([],2)else if(DM s l).2.2.1≠I.2.2.1\/(DM s l).2.2.2≠I.2.2.2\/(DM s l).2.1≠I.2.1 then([],2)else(l,0)
def zR (s:Schema) (file:ByteArray) (F:Info×List Int×Int):List Rec×Int:=
 if F.2.2≠0 then([],F.2.2)else if BK (chE s file F) (s.1.length+1) 0≠0 then([],BK (chE s file F) (s.1.length+1) 0)else IY s F.1 (qOG s file F)
def sX (s:Schema) (file:ByteArray):List Rec×Int:=zR s file (bI s file)
theorem qN9 {a b:Rank} (h:(!(decide (a.1.1=b.1.1)&&(decide (a.1.2.1=b.1.2.1)&&(decide (a.1.2.2=b.1.2.2)&&decide (a.2=b.2)))))=false):a=b:=by
 simp only[Bool.not_eq_eq_eq_not,Bool.not_false,Bool.and_eq_true,decide_eq_true_eq]at h;exact Prod.ext (Prod.ext h.1 (Prod.ext h.2.1 h.2.2.1)) h.2.2.2
theorem qN8 {a b:Rank} (h:(!(decide (a.1.1=b.1.1)&&(decide (a.1.2.1=b.1.2.1)&&(decide (a.1.2.2=b.1.2.2)&&decide (a.2=b.2)))))=true):a≠b:=by
 rintro rfl;simp at h
theorem QQ {b:Bool} (h:b=true):¬b=false:=by rw[h];exact Bool.noConfusion
theorem qKI (s:Schema) (l:List Rec):(DM s l).2.1.length=s.1.length:=by simp [DM,fI]
theorem CF {s:Schema} {file:ByteArray} {n i:Int} {l:List Int} (h:(jR s file n l i).2=0):((jR s file n l i).1.length:Int)=n:=by
 unfold jR at h ⊢;split at h
 ·rename_i q;exact absurd h q
 ·split at h
  ·cases h
  ·rename_i h1 h2
   rw[if_neg h1,if_neg h2];exact Decidable.not_not.1 h2
abbrev yE:Ct:=.fn [cE,.str,.int .i64] (some (fun(s:Schema) (file:ByteArray) (i:Int)=>(file.size<=288230376151711744))) (fun(s:Schema) (file:ByteArray) (i:Int)=>.tup [.list bS,.int .i64] ((gZ s file i).1,(gZ s file i).2,()))
theorem qAQ:aH Tryz.prog 21 yE:=by
 refine aH.fn XZ mixed [] [] rfl rfl ?_;rintro⟨(s:Schema),(file:ByteArray),(i:Int),_⟩ hpre;replace hpre:=hpre _ rfl;dsimp only[cu]at hpre;have hs:=hpre;refine⟨[],?_⟩;repeat' (first
  |(
 with_reducible apply Side.mk
 (try dsimp only[cu,aC,aB,gts,loK,hiK,eE,eN])
 first
 |omega
 |(
  have hfo:=(mA s file).2.2 (by with_reducible assumption);have:=bC hfo.2.2.2.2.2;refine⟨by omega,hs,hfo.2.2.1⟩))
  |(conv=>whnf
    first
     |with_reducible first|done|exact trivial|refine NilBr.mk (fun h=>?_) ?_|apply aJ|apply aI|refine aK (by kernel_rfl) ?_|apply aL|apply bG|apply bF|apply aR
     |((with_reducible first|apply aT|apply aS|apply bD)<;>intro h<;>(try dsimp only[cu,eE,eN]at h)<;>(try(exfalso;omega)))))
 all_goals(
 with_reducible apply Leaf.mk
 (try dsimp only[cu,aC,aB,gts,eE,eN]at *)
 first
 |rw[gZ,qH5,if_pos (by with_reducible assumption)]
 |rw[gZ,qH5,if_neg (fun q=>q (by with_reducible assumption)),if_pos (by omega)]
 |(rw[gZ,qH5,if_neg (fun q=>q (by with_reducible assumption)),if_neg (by omega)]))
abbrev qPG:Tbl:=(21,yE)::qVK
theorem pE:aD Tryz.prog qPG:=aD.cons qAQ XZ
abbrev GF:Ct:=.fn [cE,.str] (some (fun(s:Schema) (file:ByteArray)=>(file.size<=288230376151711744))) (fun(s:Schema) (file:ByteArray)=>.tup [.list gN,.int .i64] ((sX s file).1,(sX s file).2,()))
theorem qNJ:aH Tryz.prog 18 GF:=by
 refine aH.fnG (T:=qPG) [(0,4,2)] [] rfl rfl ?_;rintro⟨(s:Schema),(file:ByteArray),_⟩ hpre;replace hpre:=hpre _ rfl;dsimp only[cu]at hpre;have hs:=hpre;refine⟨[],?_⟩;repeat' (first
  |(
 with_reducible refine Side.mk ⟨(⟨⟩:Tag 82),?_⟩
 dsimp only[cu,aC,aB,gts,eE,eN]
 refine⟨?_,?_,?_⟩
 ·omega
 ·first
  |exact(qXJ _ _ _).symm
  |(
  have hil:(((jR s file (bI s file).1.1 (bI s file).2.1 i).1.length:Nat):Int)=(bI s file).1.1:=CF (by with_reducible assumption)
  rw[hS2,show k.toNat=(bI s file).1.1.toNat by omega,qI9,show(i+1).toNat=i.toNat+1 by omega])
 ·first
  |rfl
  |(
  have hfo:=(mA s file).2.2 (by with_reducible assumption)
  obtain⟨_,fo1,fo2,fo3,fo4,fo5⟩:=hfo
  have fo6:=bC fo5
  rw[he]
  exact qIL (m:=((s.1.length:Int)+1)) ⟨by omega,by omega⟩ (by
   show(jR s file (bI s file).1.1 (bI s file).2.1 ((i.toNat:Nat):Int)).2=0;rw[hic];with_reducible assumption)))
  |(
 with_reducible refine Side.mk ⟨(⟨⟩:Tag 83),?_⟩
 dsimp only[cu,aC,aB,gts,eE,eN]
 refine⟨?_,?_⟩
 ·omega
 ·first
  |exact hR
  |(
  have hfo:=(mA s file).2.2 (by with_reducible assumption)
  obtain⟨_,fo1,fo2,fo3,fo4,fo5⟩:=hfo
  have fo6:=bC fo5
  first
  |(
   have hi2:i.toNat<s.1.length:=by omega
   rw[hS2,show(k+1).toNat=k.toNat+1 by omega,hra,<-hvi];exact qOH hkr hi2)
  |(
   have hi2:i.toNat=s.1.length:=by omega
   rw[hS2,show(k+1).toNat=k.toNat+1 by omega,hra,<-hvi];exact qOI hkr hi2)))
  |(
 with_reducible apply Side.mk
 (try dsimp only[cu,aC,aB,gts,loK,hiK,eE,eN])
 first
 |done
 |omega
 |simp only[List.length_append,List.length_cons,List.length_nil];omega
 |(
  have hfo:=(mA s file).2.2 (by with_reducible assumption);obtain⟨_,fo1,fo2,fo3,fo4,fo5⟩:=hfo;have fo6:=bC fo5;first
  |omega
  |(exact⟨by omega,hs,fo2⟩))
 |exact⟨rfl,rfl,rfl,rfl⟩
 |exact⟨⟨rfl,rfl,rfl,rfl⟩,rfl,rfl,by simp,by decide,rfl⟩
 |(
  have hfo:=(mA s file).2.2 (by with_reducible assumption);obtain⟨_,fo1,fo2,fo3,fo4,fo5⟩:=hfo;have fo6:=bC fo5;have hrl:R.length=(bI s file).1.1.toNat:=by rw[hR,jY]
  first
  |omega
  |(
   rw[qKI];omega))
 |(
  have hil:(((jR s file (bI s file).1.1 (bI s file).2.1 i).1.length:Nat):Int)=(bI s file).1.1:=CF (by with_reducible assumption);omega)
 |(
  have hr2:rows.length=(bI s file).1.1.toNat:=hrows;omega)
 |(
  have hfo:=(mA s file).2.2 (by with_reducible assumption);obtain⟨_,fo1,fo2,fo3,fo4,fo5⟩:=hfo;have fo6:=bC fo5;have hr2:=qI7 (chL s file (bI s file)) s.1.length i.toNat k.toNat k.toNat;rw[<-hra]at hr2;simp only[List.length_cons,List.length_nil];omega)
 |(kernel_rfl))
  |(conv=>whnf
    first
     |refine GoV.x 6 pE mixed (jH pE mixed [(0,4,2)] [] 4 _ _) (by exact rfl) ?_
     |refine GoV.nest (tO:=gN) (t:=bS) 6 9 1 (fun a=>a.2) 56 43 (((0,[]):Rec)) qNP rfl rfl (by exact rfl) ?_
     |refine GoV.sq ?_
     |intro(nb:Nat) (no:Nat) (hS:Heap) (ιS:Iota) (wS:World)
     |intro(rows:List (List V)) (hrows:rows.length=_)
     |intro(nv:Value)
     |refine GoN.x 12 pE mixed (jH pE mixed [(0,4,2)] [] 4 _ _) (by exact rfl) (by exact rfl) ?_
     |refine GoN.block ?_
     |refine GoN.sq ?_
     |refine GoN.loop 6 [.sl 31 (.int .i64)] (fun y (R:List (Ty.den gN))=>Tag 82/\cu [.int .i64] (fun(i:Int)=>fun(R:List (Ty.den gN))=>(0<=i/\i<=(bI s file).2.1.length)/\(R=uF (chL s file (bI s file)) s.1.length (bI s file).1.1.toNat i.toNat 0)/\(BK (chE s file (bI s file)) (s.1.length+1) 0=BK (chE s file (bI s file)) (((s.1.length:Int)+1)-i).toNat i.toNat)) y R) (fun y _=>cu [.int .i64] (fun(i:Int)=>((bI s file).2.1.length-i).toNat) y) (by exact rfl) (by exact rfl) ?_ ?_
     |refine GoN.loopF (qNP _ _ _) pE mixed (jH pE mixed [(0,4,2)] [] 4 _ _) 12 [.sl 49 (.int .i64)] (fun y (R:List (Ty.den gN))=>Tag 83/\cu [.int .i64] (fun(k:Int)=>fun(R:List (Ty.den gN))=>(0<=k/\k<=(jR s file (bI s file).1.1 (bI s file).2.1 i).1.length)/\(R=uF (chL s file (bI s file)) s.1.length (bI s file).1.1.toNat i.toNat k.toNat)) y R) (fun y _=>cu [.int .i64] (fun(k:Int)=>((jR s file (bI s file).1.1 (bI s file).2.1 i).1.length-k).toNat) y) (cu [.int .i64] (fun(k:Int)=>k.toNat)) (by exact rfl) (by exact rfl) ?_ ?_ ?_
     |(
 intro yy (R:List (Ty.den gN)) (hy:Tag 82/\_)
 obtain⟨(i:Int),_⟩:=yy
 replace hy:=hy.2
 dsimp only[cu,aC,aB,gts,eE,eN]at hy
 obtain⟨hi,hR,he⟩:=hy
 have hic:((i.toNat:Nat):Int)=i:=by omega
 have hvi:chL s file (bI s file) i.toNat=(jR s file (bI s file).1.1 (bI s file).2.1 i).1:=by
  show(jR s file (bI s file).1.1 (bI s file).2.1 ((i.toNat:Nat):Int)).1=_;rw[hic])
     |(
 intro yy (R:List (Ty.den gN)) (ra:Ty.den gN) (hy:Tag 83/\_) hra
 obtain⟨(k:Int),_⟩:=yy
 replace hy:=hy.2
 dsimp only[cu,aC,aB,gts,eE,eN]at hy hra
 obtain⟨hk,hS2⟩:=hy
 have hkr:=aN hra
 rw[hS2]at hra hkr
 rw[jY]at hkr
 replace hra:=qS5 hkr hra)
     |(
 intro yy (R:List (Ty.den gN)) (hy:Tag 83/\_) hle
 obtain⟨(k:Int),_⟩:=yy
 replace hy:=hy.2
 dsimp only[cu,aC,aB,gts,eE,eN]at hy hle
 obtain⟨hk,hS2⟩:=hy
 rw[hS2,jY]at hle
 have hil:(((jR s file (bI s file).1.1 (bI s file).2.1 i).1.length:Nat):Int)=(bI s file).1.1:=CF (by with_reducible assumption))
     |with_reducible first|done|exact trivial|refine NilBr.mk (fun h=>?_) ?_|apply aJ|apply aI|refine aK (by kernel_rfl) ?_|apply aL|apply bG|apply bF|apply aR
     |((with_reducible first|apply aT|apply aS|apply bD)<;>intro h<;>(try dsimp only[cu,eE,eN]at h)<;>(try(exfalso;omega)))))
 all_goals(
 with_reducible apply Leaf.mk
 (try dsimp only[cu,aC,aB,gts,eE,eN]at *)
 first
 |rw[sX,zR,if_pos (by with_reducible assumption)]
 |(
  have hfo:=(mA s file).2.2 (by with_reducible assumption);obtain⟨_,fo1,fo2,fo3,fo4,fo5⟩:=hfo;have fo6:=bC fo5;first
  |(
   have hfe:=qIM (f:=chE s file (bI s file)) (m:=((s.1.length:Int)+1)) (i:=i) ⟨by omega,by omega⟩ (by
    show(jR s file (bI s file).1.1 (bI s file).2.1 ((i.toNat:Nat):Int)).2≠0;rw[hic];with_reducible assumption)
   have hfe2:chE s file (bI s file) i.toNat=(jR s file (bI s file).1.1 (bI s file).2.1 i).2:=by
    show(jR s file (bI s file).1.1 (bI s file).2.1 ((i.toNat:Nat):Int)).2=_;rw[hic]
   rw[hfe2,<-he]at hfe;rw[sX,zR,if_neg (fun q=>q (by with_reducible assumption)),if_pos (by rw[hfe];with_reducible assumption),hfe])
  |(
   have hie:i=((s.1.length:Int)+1):=by omega
   have hz:BK (chE s file (bI s file)) (s.1.length+1) 0=0:=by
    rw[he,show(((s.1.length:Int)+1)-i).toNat=0 by omega];rfl
   have hRL:qOG s file (bI s file)=R:=by rw[hR,qOG,show i.toNat=s.1.length+1 by omega]
   first
   |rw[sX,zR,if_neg (fun q=>q (by with_reducible assumption)),if_neg (fun q=>q hz),hRL,IY,if_pos (qAV (by with_reducible assumption))]
   |rw[sX,zR,if_neg (fun q=>q (by with_reducible assumption)),if_neg (fun q=>q hz),hRL,IY,if_neg (QQ (lL (b:=cW s R) (by with_reducible assumption))),if_pos (.inl (qN8 (by with_reducible assumption)))]
   |rw[sX,zR,if_neg (fun q=>q (by with_reducible assumption)),if_neg (fun q=>q hz),hRL,IY,if_neg (QQ (lL (b:=cW s R) (by with_reducible assumption))),if_pos (.inr (.inl (qN8 (by with_reducible assumption))))]
   |rw[sX,zR,if_neg (fun q=>q (by with_reducible assumption)),if_neg (fun q=>q hz),hRL,IY,if_neg (QQ (lL (b:=cW s R) (by with_reducible assumption))),if_pos (.inr (.inr (by with_reducible assumption)))]
   |(
    rw[sX,zR,if_neg (fun q=>q (by with_reducible assumption)),if_neg (fun q=>q hz),hRL,IY,if_neg (QQ (lL (b:=cW s R) (by with_reducible assumption))),if_neg (fun x=>by
     rcases x with x|x|x
     ·exact x (qN9 (by with_reducible assumption))
     ·exact x (qN9 (by with_reducible assumption))
     ·exact x (by with_reducible assumption))]))))
abbrev qVL:Tbl:=(18,GF)::qPG
theorem YA:aD Tryz.prog qVL:=aD.cons qNJ pE
theorem qR0 (s:Schema):(idS s).2=aW s:=by
 unfold idS;split
 ·rfl
 ·rename_i h;exact(Decidable.not_not.1 h).symm
theorem qK9 (c:Col):∀(N:List Bool) (R M:List Val),(asm c N R M).1.length<=M.length+N.length
 | [],R,M=>by simp [asm]
 |b::N,R,M=>by
  rw[asm];split
  ·exact Nat.zero_le _
  ·have:=qK9 c N (rsV b R) (M++ [pkV b R])
   simp at this ⊢;omega
theorem qTU (s:ByteArray) (n:Int):(jL s n).1.length<=4096:=by
 unfold jL;split
 ·exact Nat.zero_le _
 split
 ·exact Nat.zero_le _
 split
 ·exact Nat.zero_le _
 split
 ·exact Nat.zero_le _
 ·rw[BA];omega
theorem qW1 {s:ByteArray} {a n k:Int} (h:n<=4096):(eS s a n k).1.length<=4096:=by
 unfold eS;split
 ·split
  ·exact Nat.zero_le _
  ·exact qTU _ _
 ·rw[List.length_replicate];omega
theorem qV0 (c:Col) (s:ByteArray):(nU c s).1.length<=4096:=by
 unfold nU;split
 ·exact Nat.zero_le _
 ·rename_i h
  split
  ·exact Nat.zero_le _
  ·unfold BC
   split
   ·exact Nat.zero_le _
   ·unfold qQR
    split
    ·exact Nat.zero_le _
    ·have h1:=qK9 c (eS s (aA s (aA s 1).2.1).2.1 (aA s 1).1 (aA s (aA s 1).2.1).1).1 (gD c.2.1 (aG s (0:Int).toNat) (s.extract (eS s (aA s (aA s 1).2.1).2.1 (aA s 1).1 (aA s (aA s 1).2.1).1).2.2.toNat s.size) ((aA s 1).1-(aA s (aA s 1).2.1).1)).1 []
     have h2:=qW1 (s:=s) (a:=(aA s (aA s 1).2.1).2.1) (n:=(aA s 1).1) (k:=(aA s (aA s 1).2.1).1) (by
      rcases Int.lt_or_le 4096 (aA s 1).1 with q|q
      ·exact absurd (.inr (.inr q)) h
      ·exact q)
     simp only[List.length_nil]at h1;omega
theorem qQ5 (c:Col) (s:ByteArray):(jV c s).1.length<=4096:=by
 unfold jV;split
 ·exact Nat.zero_le _
 split
 ·exact Nat.zero_le _
 split
 ·exact Nat.zero_le _
 ·exact qV0 _ _
theorem NX {b:ByteArray} (h:1<=b.size):gQ (bU b)=0/\gV (bU b)=b:=by
 have hb:gV (bU b)=b:=qJL b;refine⟨?_,hb⟩;rw[gQ,if_neg (by rw[jJ];omega),hb,if_neg (fun q=>q rfl)]
theorem FO {a b:ByteArray} {k:Nat} (h:k<a.size):aG (a++b) k=aG a k:=by
 rw[<-gJ,<-gJ,aX,List.getElem!_eq_getElem?_getD,List.getElem?_append_left (by rw[aQ];exact h),<-List.getElem!_eq_getElem?_getD]
theorem qCW {k:Int} (h:0<=k/\k<256) (l:List Val):aG (rA k l) 0=k:=by
 unfold rA;have h1:(aV [IntKind.u8.wrap k]).size=1:=rfl;rw[FO (by rw[ByteArray.size_append];omega),FO (by omega),<-gJ,aU (fun b hb=>by rw[List.mem_singleton.1 hb];exact lI k)];show IntKind.u8.wrap k=k;exact AJ h
theorem qH0 {t k:Int} (h:0<=k/\k<256) (l:List Val):aG (bW t k l) 0=k:=by
 have h1:=BM k l;by_cases q:(bL l).length<l.length
 ·rw[HJ q,FO (by rw[ByteArray.size_append];omega),FO (by omega),qCW h]
 ·rw[tL q,FO (by omega),qCW h]
theorem FU {t k:Int} {l:List Val} (hv:∀v,v∈l->okV v) (hl:l.length<=4096):(dR t k l).size<=4398046585379/\5<=(dR t k l).size:=by
 have:=pT (t:=t) (k:=k) hv hl;rw[dR,jJ];omega
theorem kK {x:Int} (h:x=0):¬x≠0:=fun q=>q h
theorem wX {c:Col} {v:Val} (h:bE c v=0) (hn:v.1=true):v=NV:=by
 obtain⟨x,y,z⟩:=v;have e1:x=true:=hn;subst e1;unfold bE at h;split at h
 ·cases h
 ·split at h
  ·cases h
  ·rename_i h2
   split at h
   ·cases h
   ·rename_i h3
    have e2:z=EMP:=Decidable.not_not.1 fun q=>h2 ⟨.inl rfl,q⟩
    have e3:y=0:=Decidable.not_not.1 fun q=>h3 ⟨.inl rfl,q⟩
    subst e2 e3;rfl
def iU (c:Col):List Val->Int
 | []=>0
 |v::r=>if bE c v≠0 then bE c v else iU c r
def bst (t:Int) (l:List Val):Nat->Int->ByteArray->ByteArray
 |0,_,b=>b
 |n+1,k,b=>bst t l n (k+1) (if cB t k=true then(if b=⟨#[]⟩\/(dR t k l).size<b.size then dR t k l else b)else b)
def iL (c:Col) (l:List Val):ByteArray×Int:=
 if bV c.2.1=false then(⟨#[]⟩,1)else if l.length>4096 then(⟨#[]⟩,7)else if iU c l≠0 then(⟨#[]⟩,iU c l)else(bst c.2.1 l 4 1 ⟨#[]⟩,0)
theorem DK {c:Col} {l:List Val} {k:Int} (h:0<=k/\k<l.length):iU c (l.drop k.toNat)=if bE c l[k.toNat]! ≠0 then bE c l[k.toNat]! else iU c (l.drop (k+1).toNat):=by
 rw[bN l k h];rfl
theorem uV {c:Col}:∀ {l:List Val},iU c l=0->∀v,v∈l->bE c v=0
 | [],_,v,hv=>by cases hv
 |x::r,h,v,hv=>by
  rw[iU]at h;split at h
  ·rename_i q;exact absurd h q
  ·rename_i q
   rcases List.mem_cons.1 hv with p|p
   ·rw[p];exact Decidable.not_not.1 q
   ·exact uV h v p
theorem dM {c:Col} {v:Val} (h:bE c v=0) (hi:inI v.2.1):okV v:=by
 refine⟨?_,hi⟩;by_cases hn:v.1=true
 ·rw[wX h hn];exact Nat.zero_le _
 ·have hn:v.1=false:=by simpa using hn
  unfold bE at h;split at h
  ·cases h
  ·split at h
   ·cases h
   ·rename_i h2
    split at h
    ·cases h
    ·split at h
     ·cases h
     ·split at h
      ·cases h
      ·rename_i h5
       by_cases ht:c.2.1=3
       ·have hp:iC c.2.1 v=true:=by
          refine Decidable.not_not.1 fun q=>h5 ⟨hn,by simpa using q⟩
        unfold iC at hp;rw[if_neg (by omega),if_neg (by omega),if_neg (by omega),if_pos ht]at hp;have:=of_decide_eq_true hp;omega
       ·have e:v.2.2=EMP:=Decidable.not_not.1 fun q=>h2 ⟨.inr ht,q⟩
        rw[e];exact Nat.zero_le _
theorem xY {t:Int} {l:List Val} {k:Int} {b:ByteArray} (h:1<=k/\k<5):bst t l (5-k).toNat k b=bst t l (5-(k+1)).toNat (k+1) (if cB t k=true then(if b=⟨#[]⟩\/(dR t k l).size<b.size then dR t k l else b)else b):=by
 rw[show(5-k).toNat=(5-(k+1)).toNat+1 by omega];rfl
theorem qLI {t:Int} {l:List Val}:∀(n:Nat) (k:Int) (b:ByteArray),(b=⟨#[]⟩\/∃j,cB t j=true/\b=dR t j l)->(bst t l n k b=⟨#[]⟩\/∃j,cB t j=true/\bst t l n k b=dR t j l)
 |0,k,b,h=>h
 |n+1,k,b,h=>by
  refine qLI n (k+1) _ ?_;split
  ·rename_i hu
   split
   ·exact .inr ⟨k,hu,rfl⟩
   ·exact h
  ·exact h
abbrev KY:Ct:=.fn [rI,.list bS] (some (fun(c:Col) (l:List Val)=>(l.length<=9223372036854775807)/\(∀v,v∈l->inI v.2.1))) (fun(c:Col) (l:List Val)=>.tup [.str,.int .i64] ((iL c l).1,(iL c l).2,()))
theorem qRF:aH Tryz.prog 39 KY:=by
 refine aH.fn YA mixed [] [] rfl rfl ?_;rintro⟨(c:Col),(l:List Val),_⟩ hpre;replace hpre:=hpre _ rfl;dsimp only[cu]at hpre;obtain⟨hl,hin⟩:=hpre;refine⟨[(0,12,LA.mk [.sl 21 (.int .i64)] (fun y=>Tag 84/\cu [.int .i64] (fun(i:Int)=>(0<=i/\i<=l.length)/\(iU c l=iU c (l.drop i.toNat))) y) (cu [.int .i64] (fun(i:Int)=>((l.length:Int)-i).toNat)) (cu [.int .i64] (fun(i:Int)=>([]:List (Nat×Nat×LA))))),(0,28,LA.mk [.sl 10 (.int .i64),.sl 9 .str] (fun y=>Tag 85/\cu [.int .i64,.str] (fun(k:Int) (b:ByteArray)=>(1<=k/\k<=5)/\(bst c.2.1 l 4 1 ⟨#[]⟩=bst c.2.1 l (5-k).toNat k b)/\(b.size<=4398046585379)) y) (cu [.int .i64,.str] (fun(k:Int) (b:ByteArray)=>(5-k).toNat)) (cu [.int .i64,.str] (fun(k:Int) (b:ByteArray)=>([]:List (Nat×Nat×LA)))))],?_⟩;repeat' (first
  |(
 with_reducible refine Side.mk ⟨(⟨⟩:Tag 84),?_⟩
 dsimp only[cu,aC,aB,gts,eE,eN]
 refine⟨?_,?_⟩
 ·omega
 ·first
  |rfl
  |(
  have hv:¬bE c l[i.toNat]! ≠0:=kK (by with_reducible assumption)
  rw[hc,DK (by omega),if_neg hv]))
  |(
 with_reducible refine Side.mk ⟨(⟨⟩:Tag 85),?_⟩
 dsimp only[cu,aC,aB,gts,eE,eN]
 refine⟨?_,?_,?_⟩
 ·omega
 ·first
  |rfl
  |(
  have hu:¬cB c.2.1 k=true:=by rw[show cB c.2.1 k=false by first|with_reducible assumption|exact qNR (by with_reducible assumption)];exact Bool.noConfusion
  rw[hb,xY (by omega),if_neg hu])
  |(
  have hu:cB c.2.1 k=true:=by first|with_reducible assumption|exact xH (by with_reducible assumption)
  first
  |(
   have he:b=⟨#[]⟩:=by with_reducible assumption
   rw[hb,xY (by omega),if_pos hu,if_pos (.inl he)])
  |(
   have he:(dR c.2.1 k l).size<b.size:=by omega
   rw[hb,xY (by omega),if_pos hu,if_pos (.inr he)])
  |(
   have he:¬(b=⟨#[]⟩\/(dR c.2.1 k l).size<b.size):=fun q=>by
    rcases q with q|q
    ·contradiction
    ·omega
   rw[hb,xY (by omega),if_pos hu,if_neg he]))
 ·first
  |exact Nat.zero_le _
  |(
  have hch:iU c l=0:=by rw[hc,List.drop_eq_nil_of_le (by omega)];rfl
  have hok:∀v,v∈l->okV v:=fun v hv=>dM (uV hch v hv) (hin v hv)
  have hbs:=FU (t:=c.2.1) (k:=k) hok (by omega)
  omega))
  |(
 with_reducible apply Side.mk
 (try dsimp only[cu,aC,aB,gts,loK,hiK,eE,eN])
 first
 |omega
 |(
  have hch:iU c l=0:=by rw[hc,List.drop_eq_nil_of_le (by omega)];rfl
  have hok:∀v,v∈l->okV v:=fun v hv=>dM (uV hch v hv) (hin v hv)
  exact⟨by omega,hok⟩))
  |(conv=>whnf
    first
     |with_reducible first|done|exact trivial|refine NilBr.mk (fun h=>?_) ?_|apply aJ|apply aI|refine aK (by kernel_rfl) ?_|apply aL|apply bG|apply bF|apply aR
     |((with_reducible first|apply aT|apply aS|apply bD)<;>intro h<;>(try dsimp only[cu,eE,eN]at h)<;>(try(exfalso;omega)))
     |(
 intro yy (hy:Tag 84/\_)
 obtain⟨(i:Int),_⟩:=yy
 replace hy:=hy.2
 dsimp only[cu,aC,aB,gts,eE,eN]at hy
 obtain⟨hi,hc⟩:=hy)
     |(
 intro yy (hy:Tag 85/\_)
 obtain⟨(k:Int),(b:ByteArray),_⟩:=yy
 replace hy:=hy.2
 dsimp only[cu,aC,aB,gts,eE,eN]at hy
 obtain⟨hk,hb,hz⟩:=hy)))
 all_goals(
 with_reducible apply Leaf.mk
 (try dsimp only[cu,aC,aB,gts,eE,eN]at *)
 first
 |(
  have hkn:bV c.2.1=false:=by first|with_reducible assumption|exact qNR (by with_reducible assumption)
  rw[iL,if_pos hkn])
 |(
  have hkn:¬bV c.2.1=false:=by rw[show bV c.2.1=true by first|with_reducible assumption|exact xH (by with_reducible assumption)];exact Bool.noConfusion
  first
  |(
   have h4:l.length>4096:=by omega
   rw[iL,if_neg hkn,if_pos h4])
  |(
   have h4:¬l.length>4096:=by omega
   have hv:bE c l[i.toNat]! ≠0:=by with_reducible assumption
   have hce:iU c l=bE c l[i.toNat]!:=by rw[hc,DK (by omega),if_pos hv]
   rw[iL,if_neg hkn,if_neg h4,hce,if_pos hv])
  |(
   have hch:iU c l=0:=by rw[hc,List.drop_eq_nil_of_le (by omega)];rfl
   have hok:∀v,v∈l->okV v:=fun v hv=>dM (uV hch v hv) (hin v hv)
   have h4:¬l.length>4096:=by omega
   rw[iL,if_neg hkn,if_neg h4,if_neg (kK hch),hb,show(5-k).toNat=0 by omega];first|done|rfl)))
abbrev qVM:Tbl:=(39,KY)::qVL
theorem YB:aD Tryz.prog qVM:=aD.cons qRF YA
def cH:List ByteArray->ByteArray
 | []=>⟨#[]⟩
 |b::l=>b++cH l
def yT (s:Schema) (l:List Rec) (i:Nat):List Val:=if i=s.1.length then dQ l else eZ l i
def chnk (s:Schema) (l:List Rec) (i:Nat):ByteArray:=(iL (iV s i) (yT s l i)).1
def chnks (s:Schema) (l:List Rec):List ByteArray:=(List.range (s.1.length+1)).map (chnk s l)
def szB (b:ByteArray):ByteArray:=aV (put (b.size:Int))
def fD (s:Schema) (l:List Rec):ByteArray:=aV (four (jS (tS s)))++aV (put (l.length:Int))++cH ((chnks s l).map szB)++cH ((fI s l (List.range s.1.length)).map wC)++fE (fK s l[0]!)++fE (fK s l[l.length-1]!)
def cX (C F:ByteArray):ByteArray:=jF++C++F++aV (four (F.size:Int))++jF
def dO (s:Schema) (l:List Rec):ByteArray:=cX (cH (chnks s l)) (bU (fD s l))
def fJ (s:Schema) (l:List Rec):ByteArray×Int:=if aW s≠0 then(⟨#[]⟩,aW s)else if l.length>1024 then(⟨#[]⟩,7)else if l.length=0\/cW s l=false then(⟨#[]⟩,1)else(dO s l,0)
theorem tI (a b:List ByteArray):cH (a++b)=cH a++cH b:=by
 induction a with
 |nil=>exact ByteArray.empty_append.symm
 |cons x a ih=>rw[List.cons_append,cH,cH,ih,ByteArray.append_assoc]
def gM (b:ByteArray):Int:=(b.size:Int)
theorem oH (l:List ByteArray):((cH l).size:Int)=fO (l.map gM):=by
 induction l with
 |nil=>rfl
 |cons b l ih=>rw[cH,ByteArray.size_append];simp only[List.map_cons,fO,List.foldr_cons]at ih ⊢;rw[Int.natCast_add,ih];rfl
theorem rR {s:ByteArray} {a:Nat} {x:Int} {r:List Int} (h:(aE s).drop a=x::r):aG s a=x/\(aE s).drop (a+1)=r/\a+1<=s.size:=by
 have hl:=congrArg List.length h;simp only[List.length_drop,List.length_cons,aQ]at hl;refine⟨?_,by rw[<-List.drop_drop,h];rfl,by omega⟩;rw[<-gJ,List.getElem!_eq_getElem?_getD,show a=a+0 from rfl,<-List.getElem?_drop,h];rfl
theorem mN {s:ByteArray} {a:Nat} {u:Int} {r:List Int} (hu:0<=u/\u<18446744073709551616) (h:(aE s).drop a=put u++r) :
  aA s a=(u,((a+(put u).length:Nat):Int),0)/\(aE s).drop (a+(put u).length)=r/\a+(put u).length<=s.size:=by
 have hg:=mM hu h;have hl:=congrArg List.length h;simp only[List.length_drop,List.length_append,aQ]at hl;have hp:=bM u;exact⟨by rw[hg,Int.natCast_add],by rw[<-List.drop_drop,h,List.drop_left],by omega⟩
theorem iP {s w:ByteArray} {a:Nat} {r:List Int} (h:(aE s).drop a=aE w++r):s.extract a (a+w.size)=w/\(aE s).drop (a+w.size)=r/\w.size<=s.size-a:=by
 have hl:=congrArg List.length h;simp only[List.length_drop,List.length_append,aQ]at hl;refine⟨fG ?_,by rw[<-List.drop_drop,h,<-aQ w,List.drop_left],by omega⟩;rw[tW,h,show a+w.size-a=(aE w).length by rw[aQ];omega,List.take_left]
def IA (v:Val):Prop:=(v.1=true->v=eT)/\inI v.2.1/\v.2.2.size<=1048576
theorem BL {s:ByteArray} {a:Nat} {v:Val} {r:List Int} (hv:IA v) (h:(aE s).drop a=aE (zO v)++r) :
  dN s a=(v,((a+(zO v).size:Nat):Int),0)/\(aE s).drop (a+(zO v).size)=r:=by
 obtain⟨hn,hi,hz⟩:=hv;refine⟨?_,(iP h).2.1⟩;by_cases q:v.1=true
 ·have e:=hn q
  subst e;obtain⟨d1,d2,d3⟩:=rR (x:=0) h;rw[dN,if_neg (by omega),if_neg (by omega),show((a:Int)).toNat=a from rfl,d1,if_neg (by decide),if_pos rfl];rfl
 ·have q:v.1=false:=by simpa using q
  rw[qN5 q]at h ⊢;rw[aX,aX,aX,aU (eI (gE hi)),aU (eI ⟨by omega,by omega⟩),List.append_assoc,List.append_assoc,List.append_assoc]at h;obtain⟨d1,d2,d3⟩:=rR (x:=1) h;obtain⟨n1,n2,n3⟩:=mN (gE hi) d2;obtain⟨m1,m2,m3⟩:=mN (u:=(v.2.2.size:Int)) ⟨by omega,by omega⟩ n2;obtain⟨w1,w2,w3⟩:=iP m2;rw[show(((a+1:Nat)):Int)=(a:Int)+1 from rfl]at n1;rw[dN,if_neg (by omega),if_neg (by omega),show((a:Int)).toNat=a from rfl,d1,if_neg (by decide),if_neg (by decide),n1];simp only;rw[m1];simp only[ne_eq,not_true_eq_false,if_false];rw[if_neg (by omega)];refine Prod.ext ?_ (Prod.ext ?_ rfl)
  ·obtain⟨x,y,z⟩:=v
   (try simp only at q w1 ⊢);subst q;refine Prod.ext rfl (Prod.ext (vX y) ?_);rw[show((a+1+(put (dG y)).length+(put (z.size:Int)).length:Nat):Int).toNat=a+1+(put (dG y)).length+(put (z.size:Int)).length from rfl,show(((a+1+(put (dG y)).length+(put (z.size:Int)).length:Nat):Int)+(z.size:Int)).toNat=a+1+(put (dG y)).length+(put (z.size:Int)).length+z.size by omega];exact w1
  ·simp only[ByteArray.size_append,bP]
   have:(⟨#[1]⟩:ByteArray).size=1:=rfl;omega
def IB (z:Zone):Prop:=(0<=z.1/\z.1<=4096)/\(0<=z.2.1/\z.2.1<=4096)/\IA z.2.2.1/\IA z.2.2.2
theorem qY0 {n:Int} (h:0<=n):cM 0 n=n:=by unfold cM;split<;>omega
theorem qIN {s:ByteArray} {a:Nat} {z:Zone} {r:List Int} (hz:IB z) (h:(aE s).drop a=aE (wC z)++r) :
  gG s a=(z,((a+(wC z).size:Nat):Int),0)/\(aE s).drop (a+(wC z).size)=r:=by
 obtain⟨h1,h2,h3,h4⟩:=hz;refine⟨?_,(iP h).2.1⟩;rw[wC,qY0 h1.1,qY0 h2.1]at h ⊢;rw[aX,aX,aX,aU (eI ⟨h1.1,by omega⟩),aU (eI ⟨h2.1,by omega⟩),List.append_assoc,List.append_assoc,List.append_assoc]at h;obtain⟨n1,n2,n3⟩:=mN (u:=z.1) ⟨h1.1,by omega⟩ h;obtain⟨m1,m2,m3⟩:=mN (u:=z.2.1) ⟨h2.1,by omega⟩ n2;obtain⟨v1,v2⟩:=BL h3 m2;obtain⟨w1,w2⟩:=BL h4 v2;rw[gG,n1];simp only[ne_eq,not_true_eq_false,if_false];rw[if_neg (by omega),m1];simp only[ne_eq,not_true_eq_false,if_false];rw[if_neg (by omega),v1];simp only[ne_eq,not_true_eq_false,if_false];rw[w1];simp only[ne_eq,not_true_eq_false,if_false];refine Prod.ext rfl (Prod.ext ?_ rfl);simp only[ByteArray.size_append,bP];omega
def UM (s:Schema) (r:Rank):Prop:=IA r.1/\bE (BR s) r.1=0/\0<=r.2/\r.2<=1099511627776
theorem OD {s:Schema} {f:ByteArray} {a:Nat} {k:Rank} {r:List Int} (hk:UM s k) (h:(aE f).drop a=aE (fE k)++r) :
  kJ s f a=(k,((a+(fE k).size:Nat):Int),true)/\(aE f).drop (a+(fE k).size)=r:=by
 obtain⟨h1,h2,h3⟩:=hk;refine⟨?_,(iP h).2.1⟩;unfold fE at h ⊢;rw[aX,aU (eI ⟨h3.1,by omega⟩),List.append_assoc]at h;obtain⟨v1,v2⟩:=BL h1 h;obtain⟨n1,n2,n3⟩:=mN (u:=k.2) ⟨h3.1,by omega⟩ v2;rw[kJ,v1];simp only;rw[if_neg (by rintro(q|q);exact q rfl;exact q h2),n1];simp only;rw[if_neg (by rintro(q|q);exact q rfl;omega)];refine Prod.ext rfl (Prod.ext ?_ rfl);simp only[ByteArray.size_append,bP];omega
theorem WC {f:ByteArray} {b:Int}:∀(cs:List ByteArray) (l:List Int) (a:Nat) (r:List Int),(∀c,c∈cs->(c.size:Int)<=b/\c.size<=4398046585379)->(aE f).drop a=aE (cH (cs.map szB))++r ->
  rfN f b cs.length (offs l) a=(offs (l++cs.map gM),((a+(cH (cs.map szB)).size:Nat):Int),true)
 | [],l,a,r,_,h=>by rw[List.length_nil,rfN];simp [cH];rfl
 |c::cs,l,a,r,hc,h=>by
  have h0:=hc c (List.mem_cons_self ..);rw[List.map_cons,cH,aX,List.append_assoc,szB,aU (eI ⟨by omega,by omega⟩)]at h;obtain⟨n1,n2,n3⟩:=mN (u:=(c.size:Int)) ⟨by omega,by omega⟩ h;rw[List.length_cons,rfN,n1];simp only;rw[if_neg (by rintro(q|q);exact q rfl;omega),<-UZ,WC cs _ _ r (fun x hx=>hc x (List.mem_cons_of_mem _ hx)) n2];refine Prod.ext ?_ (Prod.ext ?_ rfl)
  ·simp only[List.append_assoc,List.map_cons,List.singleton_append];rfl
  ·simp only[List.map_cons,cH,ByteArray.size_append,szB,bP];omega
theorem WI {f:ByteArray} {rows:Int}:∀(cs:List Col) (zs z:List Zone) (a:Nat) (r:List Int),cs.length=zs.length->(∀i:Nat,i<cs.length->IB zs[i]! /\lJ cs[i]! zs[i]! =true/\zs[i]!.1=rows)->(aE f).drop a=aE (cH (zs.map wC))++r ->
  rzN f rows cs z a=(z++zs,((a+(cH (zs.map wC)).size:Nat):Int),true)
 | [],[],z,a,r,_,_,h=>by rw[rzN];simp [cH];rfl
 | [],_::_,_,_,_,hl,_,_=>by cases hl
 |_::_,[],_,_,_,hl,_,_=>by cases hl
 |c::cs,y::zs,z,a,r,hl,hz,h=>by
  obtain⟨g1,g2,g3⟩:=hz 0 (Nat.zero_lt_succ _);have g1:IB y:=g1;have g2:lJ c y=true:=g2;have g3:y.1=rows:=g3;rw[List.map_cons,cH,aX,List.append_assoc]at h;obtain⟨n1,n2⟩:=qIN g1 h;rw[rzN,n1];simp only;rw[if_neg (by rintro(q|q|q);exact q rfl;rw[g2]at q;cases q;exact q g3),WI cs zs _ _ r (by simpa using hl) (fun i hi=>hz (i+1) (by simpa using hi)) n2];refine Prod.ext (by simp) (Prod.ext ?_ rfl);simp only[List.map_cons,cH,ByteArray.size_append];omega
theorem QB (s:ByteArray):0<=jS s/\jS s<4294967296:=by
 unfold jS AF;rw[if_pos rP];exact tD _ _
theorem qAB {v:Int} (h:0<=v/\v<4294967296):four v= [v%256,v/256%256,v/65536%256,v/16777216]:=by
 obtain⟨e1,e2,e3⟩:=qD3 h.1;simp only[four,e1,e2,e3,pG];rw[show v/16777216%256=v/16777216 by omega]
theorem vW {s:ByteArray} {a:Nat} {v:Int} {r:List Int} (hv:0<=v/\v<4294967296) (h:(aE s).drop a=four v++r):dA s a=v/\(aE s).drop (a+4)=r:=by
 rw[qAB hv]at h;obtain⟨a1,a2,_⟩:=rR h;obtain⟨b1,b2,_⟩:=rR a2;obtain⟨c1,c2,_⟩:=rR b2;obtain⟨d1,d2,_⟩:=rR c2;refine⟨?_,d2⟩;unfold dA;rw[show((a:Int)).toNat=a from rfl,show((a:Int)+1).toNat=a+1 from rfl,show((a:Int)+2).toNat=a+1+1 from rfl,show((a:Int)+3).toNat=a+1+1+1 from rfl,a1,b1,c1,d1,qT1 (by omega) (by omega) (by omega) (by omega)];omega
structure Made (s:Schema) (l:List Rec):Prop where
 sch:aW s=0
 len:1<=l.length/\l.length<=1024
 chunk:∀c,c∈chnks s l->c.size<=4398046585379
 zone:∀i:Nat,i<s.1.length->IB (pJ s.1[i]!.2.1 (eZ l i))/\lJ s.1[i]! (pJ s.1[i]!.2.1 (eZ l i))=true
 lo:UM s (fK s l[0]!)
 hi:UM s (fK s l[l.length-1]!)
 le:¬gC (BR s).2.1 (fK s l[0]!) (fK s l[l.length-1]!)>0
theorem fP (s:Schema) (l:List Rec):(chnks s l).length=s.1.length+1:=by simp [chnks]
theorem qEA:∀(cs:List ByteArray) (c:ByteArray),c∈cs->(c.size:Int)<=fO (cs.map gM)
 | [],_,h=>by cases h
 |x::cs,c,h=>by
  have nn:∀l:List ByteArray,0<=fO (l.map gM):=fun l=>by rw[<-oH];omega
  have h1:=nn cs;have e:fO ((x::cs).map gM)=(x.size:Int)+fO (cs.map gM):=rfl;rw[e];rcases List.mem_cons.1 h with q|q
  ·subst q;omega
  ·have:=qEA cs c q;omega
theorem qI6 {s:Schema} {l:List Rec} (m:Made s l):sW s (fD s l) (4+fO ((chnks s l).map gM))=((((l.length:Int),fI s l (List.range s.1.length),fK s l[0]!,fK s l[l.length-1]!),offs ((chnks s l).map gM),4+fO ((chnks s l).map gM)),true):=by
 have h:(aE (fD s l)).drop 0=four (jS (tS s))++(put (l.length:Int)++(aE (cH ((chnks s l).map szB))++(aE (cH ((fI s l (List.range s.1.length)).map wC))++(aE (fE (fK s l[0]!))++(aE (fE (fK s l[l.length-1]!))++ []))))):=by
  rw[List.drop_zero,fD];simp only[aX,aU (qY _),aU (eI ⟨show(0:Int)<=(l.length:Int)by omega,by have:=m.len;omega⟩),List.append_assoc,List.append_nil]
 obtain⟨_,w2⟩:=vW (QB _) h;rw[show 0+4=4 from rfl]at w2;have hl:=m.len;obtain⟨n1,n2,n3⟩:=mN (u:=(l.length:Int)) ⟨by omega,by omega⟩ w2;have c1:=WC (b:=4+fO ((chnks s l).map gM)) (chnks s l) [] _ _ (fun c hc=>⟨by have:=qEA _ c hc;omega,m.chunk c hc⟩) n2;have c2:=(iP n2).2.1;have zl:(fI s l (List.range s.1.length)).length=s.1.length:=by simp [fI]
 have z1:=WI (rows:=(l.length:Int)) s.1 (fI s l (List.range s.1.length)) [] _ _ zl.symm (fun i hi=>by
  have e:(fI s l (List.range s.1.length))[i]! =pJ s.1[i]!.2.1 (eZ l i):=by
   rw[getElem!_pos _ i (by rw[zl];exact hi)];simp [fI]
  rw[e];obtain⟨q1,q2⟩:=m.zone i hi;exact⟨q1,q2,by rw[pJ,fU]⟩) c2
 have z2:=(iP c2).2.1;obtain⟨r1,r2⟩:=OD m.lo z2;obtain⟨s1,s2⟩:=OD m.hi r2;have e0:=congrArg List.length s2;simp only[List.length_drop,aQ,List.length_nil]at e0;have e1:=(iP r2).2.2;rw[sW,show(4:Int)=((4:Nat):Int)from rfl,n1];simp only;rw[if_neg (by rintro(q|q|q);exact q rfl;omega;omega)];rw[show[((4:Nat):Int)]=offs []from rfl,<-fP s l,show(((4:Nat):Int))=4 from rfl,c1,rP1];simp only[List.nil_append];rw[if_neg (by rintro(q|q);cases q;exact q (vI _)),z1,rP2];simp only[List.nil_append];rw[if_neg (by intro q;cases q),r1,rP3];simp only;rw[if_neg (by intro q;cases q),s1,rP4,if_neg];rintro(q|q|q)
 ·cases q
 ·have u1:=(iP n2).2.2
  have u2:=(iP c2).2.2;have u3:=(iP z2).2.2;simp only at q;omega
 ·exact m.le q
theorem rL {C F:ByteArray}:aE (cX C F)=aE jF++(aE C++(aE F++(four (F.size:Int)++aE jF))):=by
 unfold cX;simp only[aX,aU (qY _),List.append_assoc]
theorem mI (C F:ByteArray):(cX C F).size=12+C.size+F.size:=by
 unfold cX;simp only[ByteArray.size_append,qZ];have:jF.size=4:=rfl;omega
theorem JQ {C F:ByteArray} (hF:F.size<4294967296):EL (cX C F) jF=true/\EM (cX C F) jF=true/\dA (cX C F) ((cX C F).size-8)=F.size/\(cX C F).extract (4+C.size) (4+C.size+F.size)=F:=by
 have h0:(aE (cX C F)).drop 0=aE jF++(aE C++(aE F++(four (F.size:Int)++aE jF))):=rL;obtain⟨a1,a2,_⟩:=iP h0;obtain⟨b1,b2,_⟩:=iP a2;obtain⟨c1,c2,_⟩:=iP b2;obtain⟨d1,d2⟩:=vW ⟨by omega,by omega⟩ c2;obtain⟨e1,_,_⟩:=iP (s:=cX C F) (w:=jF) (r:=[]) (by rw[List.append_nil];exact d2);have hz:=mI C F;have h4:jF.size=4:=rfl;rw[h4]at a1 a2 b1 b2 c1 c2 d1 d2 e1;simp only[Nat.zero_add]at a1 a2 b1 b2 c1 c2 d1 d2 e1;refine⟨?_,?_,?_,c1⟩
 ·unfold EL;rw[h4,a1,decide_eq_true (by omega),decide_eq_true rfl];rfl
 ·unfold EM
  rw[h4,show(cX C F).size-4=4+C.size+F.size+4 by omega,decide_eq_true (show 4<=(cX C F).size by omega)];have:(cX C F).size=4+C.size+F.size+4+4:=by omega
  rw[this,e1,decide_eq_true rfl];rfl
 ·rw[show(((cX C F).size:Nat):Int)-8=((4+C.size+F.size:Nat):Int)by omega];exact d1
theorem qBI {B:ByteArray}:(bU B).extract 0 B.size=B/\(aE (bU B)).drop B.size=four (jS B)++ []:=by
 have h:(aE (bU B)).drop 0=aE B++(four (jS B)++ []):=by
  rw[List.drop_zero,bU,aX,aU (qY _),List.append_nil]
 obtain⟨a1,a2,_⟩:=iP h;simp only[Nat.zero_add]at a1 a2;exact⟨a1,a2⟩
theorem BJ {s:Schema} {C B:ByteArray} (h0:aW s=0) (h4:4<=B.size) (hB:B.size<4294967290) :
  bI s (cX C (bU B))=if dA B 0≠jS (tS s)then(iR,[],1)else zJ s (B.extract 4 B.size) (cX C (bU B)).size C.size:=by
 generalize hR:(if dA B 0≠jS (tS s)then(iR,[],1)else zJ s (B.extract 4 B.size) (cX C (bU B)).size C.size)=R;have hs:=jJ B;obtain⟨f1,f2,f3,f4⟩:=JQ (C:=C) (F:=bU B) (by omega);have hz:=mI C (bU B);obtain⟨p1,p2⟩:=qBI (B:=B);have e:(cX C (bU B)).extract (4+C.size) (4+C.size+B.size)=B:=by
  have h1:((cX C (bU B)).extract (4+C.size) (4+C.size+(bU B).size)).extract 0 B.size=B:=by rw[f4];exact p1
  rw[ByteArray.extract_extract,show 4+C.size+0=4+C.size from rfl,show min (4+C.size+B.size) (4+C.size+(bU B).size)=4+C.size+B.size by omega]at h1;exact h1
 have w:dA (cX C (bU B)) ((cX C (bU B)).size-12)=jS B:=by
  have h1:dA ((cX C (bU B)).extract (4+C.size) (4+C.size+(bU B).size)) (B.size:Int)=jS B:=by rw[f4];exact(vW (QB B) p2).1
  rw[oM (by omega) (by omega)]at h1;rw[show((cX C (bU B)).size:Int)-12=((4+C.size:Nat):Int)+(B.size:Int)by omega];exact h1
 generalize cX C (bU B)=W at *;rw[bI,if_neg (fun q=>q h0),if_neg (by omega),f3,NB,if_neg (by omega),if_neg (by rw[f1,f2];rintro(q|q|q);cases q;cases q;omega),show(W.size:Int)-8-((bU B).size:Int)=((4+C.size:Nat):Int)by omega,show W.size-12=4+C.size+B.size by omega,Int.toNat_natCast,e,oR,w,if_neg (fun q=>q rfl),show(W.size:Int)-12-((bU B).size:Int)=(C.size:Int)by omega];exact hR
theorem uU {m:Nat}:∀ {l:List ByteArray},(∀b,b∈l->b.size<=m)->(cH l).size<=m*l.length
 | [],_=>Nat.zero_le _
 |b::l,h=>by
  have h1:=h b (List.mem_cons_self ..);have h2:=uU fun x hx=>h x (List.mem_cons_of_mem _ hx)
  rw[cH,ByteArray.size_append,List.length_cons,Nat.mul_succ];omega
theorem qS3 (v:Val):1<=(zO v).size:=by
 unfold zO;split
 ·exact Nat.le_refl 1
 ·simp only[ByteArray.size_append]
  have s1:(⟨#[1]⟩:ByteArray).size=1:=rfl;omega
theorem mO {s:Schema} {r:Rank} (h:UM s r):2<=(fE r).size/\(fE r).size<=1048700:=by
 have h1:=vP (v:=r.1);have h2:=qS3 r.1;have h3:=bM r.2;have h4:=h.1.2.2;unfold fE;rw[ByteArray.size_append,bP];omega
theorem vZ {z:Zone} (h:IB z):(wC z).size<=2200000:=by
 obtain⟨_,_,h3,h4⟩:=h;have a1:=vP (v:=z.2.2.1);have a2:=vP (v:=z.2.2.2);have a3:=bM (cM 0 z.1);have a4:=bM (cM 0 z.2.1);have a5:=h3.2.2;have a6:=h4.2.2;unfold wC;simp only[ByteArray.size_append,bP];omega
theorem qCL {s:Schema} {l:List Rec} (m:Made s l):8<=(fD s l).size/\(fD s l).size<4294967290:=by
 have hs:=bC m.sch;have p1:=bM (l.length:Int);have b1:(cH ((chnks s l).map szB)).size<=10*((chnks s l).map szB).length:=uU fun b hb=>by
  obtain⟨c,_,rfl⟩:=List.mem_map.1 hb;rw[szB,bP];exact(bM _).1
 have b2:(cH ((fI s l (List.range s.1.length)).map wC)).size<=2200000*((fI s l (List.range s.1.length)).map wC).length:=uU fun b hb=>by
  obtain⟨z,hz,rfl⟩:=List.mem_map.1 hb;obtain⟨i,hi,rfl⟩:=List.mem_map.1 hz;rw[List.mem_range]at hi;exact vZ (m.zone i hi).1
 rw[List.length_map,fP]at b1;rw[List.length_map,fI,List.length_map,List.length_range]at b2;have r1:=mO m.lo;have r2:=mO m.hi;have f4:(four (jS (tS s))).length=4:=rfl;unfold fD;simp only[ByteArray.size_append,bP,qZ,fI]at b2 ⊢;omega
theorem qX {s:Schema} {l:List Rec} (m:Made s l):bI s (dO s l)=(((l.length:Int),fI s l (List.range s.1.length),fK s l[0]!,fK s l[l.length-1]!),(chnks s l).map gM,0):=by
 have hsz:=qCL m;have hw:dA (fD s l) 0=jS (tS s):=(vW (s:=fD s l) (a:=0) (QB _) (by
  rw[List.drop_zero,fD];simp only[aX,aU (qY _),List.append_assoc];rfl)).1
 rw[dO,BJ m.sch (by omega) hsz.2,if_neg (fun q=>q hw)];have hr:=qI6 m;obtain⟨_,p2⟩:=OB (s:=s) (f:=fD s l) (st:=4+fO ((chnks s l).map gM)) (m:=(cX (cH (chnks s l)) (bU (fD s l))).size) (by omega) (by rw[mI,<-oH];omega);obtain⟨k,e1,e2,e3,e4,e5,_⟩:=p2 (by rw[hr]);rw[show 4+fO ((chnks s l).map gM)-4=((cH (chnks s l)).size:Int)by rw[oH];omega]at e1;rw[e1,hr];rw[hr]at e2;(try simp only at e2);(try simp only);have hk:k=(chnks s l).map gM:=by
  apply List.ext_getElem
  ·rw[e3,List.length_map,fP]
  ·intro i h1 h2
   have len:((chnks s l).map gM).length=k.length:=by rw[e3,List.length_map,fP]
   have a0:=congrArg (fun x:List Int=>x[i]!) e2;have a1:=congrArg (fun x:List Int=>x[i+1]!) e2;rw[RI (by omega),RI (by omega)]at a0 a1;have b0:=vU (l:=k) (k:=(i:Int)) ⟨by omega,by omega⟩;have b1:=vU (l:=(chnks s l).map gM) (k:=(i:Int)) ⟨by omega,by omega⟩;rw[show((i:Int)+1).toNat=i+1 by omega,show((i:Int)).toNat=i from rfl]at b0 b1;rw[getElem!_pos k i h1]at b0;rw[getElem!_pos _ i h2]at b1;omega
 rw[hk]
theorem MK:∀(cs:List ByteArray) (i:Nat) {f:ByteArray} {a:Nat} {r:List Int},i<cs.length->(aE f).drop a=aE (cH cs)++r ->
  f.extract (a+(cH (cs.take i)).size) (a+(cH (cs.take i)).size+(cs[i]!).size)=cs[i]!
 | [],_,_,_,_,h,_=>by cases h
 |c::cs,0,f,a,r,_,h=>by
  rw[cH,aX,List.append_assoc]at h;exact(iP h).1
 |c::cs,i+1,f,a,r,hi,h=>by
  rw[cH,aX,List.append_assoc]at h;have:=MK cs i (by simpa using hi) (iP h).2.1;rw[List.take_succ_cons,cH,ByteArray.size_append];show f.extract (a+(c.size+(cH (cs.take i)).size)) (a+(c.size+(cH (cs.take i)).size)+(cs[i]!).size)=cs[i]!;rw[<-Nat.add_assoc];exact this
theorem yQ {s:Schema} {l:List Rec} {i:Nat} (hi:i<s.1.length+1):(chnks s l)[i]! =chnk s l i:=by
 rw[getElem!_pos _ i (by rw[fP];exact hi)];simp [chnks]
theorem qDM {cs:List ByteArray} {f:ByteArray} {r:List Int} {i:Nat} (hi:i<cs.length) (h:(aE f).drop 4=aE (cH cs)++r):zK f (cs.map gM) i=cs[i]!:=by
 have e:=MK cs i hi h;have h1:fO ((cs.map gM).take i)=((cH (cs.take i)).size:Int):=by rw[<-List.map_take,oH]
 have h2:(cs.map gM)[i]! =(cs[i]!.size:Int):=by
  rw[getElem!_pos _ i (by rw[List.length_map];exact hi),getElem!_pos cs i hi,List.getElem_map];rfl
 unfold zK;rw[Int.toNat_natCast,h1,h2,show(4+((cH (cs.take i)).size:Int)).toNat=4+(cH (cs.take i)).size by omega,show(4+((cH (cs.take i)).size:Int)+(cs[i]!.size:Int)).toNat=4+(cH (cs.take i)).size+cs[i]!.size by omega];exact e
theorem EG {C F:ByteArray}:∃r,(aE (cX C F)).drop 4=aE C++r:=by
 have h0:(aE (cX C F)).drop 0=aE jF++(aE C++(aE F++(four (F.size:Int)++aE jF))):=rL;have h:=(iP h0).2.1;exact⟨_,h⟩
theorem qLR (s:Schema) (l:List Rec) (i:Nat):(yT s l i).length=l.length:=by
 unfold yT;split
 ·simp [dQ]
 ·exact fU l i
theorem TL {s:Schema} {l:List Rec} (m:Made s l) {i:Nat} (hi:i<s.1.length+1) (hd:jV (iV s i) (chnk s l i)=(yT s l i,0)):chV s (dO s l) (bI s (dO s l)) i=(yT s l i,0):=by
 obtain⟨r,hr⟩:=EG (C:=cH (chnks s l)) (F:=bU (fD s l));have hp:zK (dO s l) ((chnks s l).map gM) i=chnk s l i:=by
  rw[dO,qDM (by rw[fP];exact hi) hr,yQ hi]
 unfold chV;rw[qX m];simp only;unfold jR;rw[hp,hd];simp only[qLR];rw[if_neg (fun q=>q rfl),if_neg (fun q=>q rfl)]
theorem RR {s:Schema} {l:List Rec} (hv:cV s l=true) {j:Nat} (hj:j<l.length):(l[j]!).2.length=s.1.length:=by
 have h:=(dZ hv).2 j hj;unfold nF at h;split at h
 ·cases h
 ·rename_i q;exact Decidable.not_not.1 q
theorem qI8 {s:Schema} {l:List Rec} (m:Made s l) (hv:cV s l=true) (hd:∀i:Nat,i<s.1.length+1->jV (iV s i) (chnk s l i)=(yT s l i,0)):qOG s (dO s l) (bI s (dO s l))=l:=by
 have hc:∀i:Nat,i<s.1.length+1->chL s (dO s l) (bI s (dO s l)) i=yT s l i:=fun i hi=>by
  show(chV s (dO s l) (bI s (dO s l)) i).1=_;rw[TL m hi (hd i hi)]
 have hn:(bI s (dO s l)).1.1.toNat=l.length:=by rw[qX m];rfl
 unfold qOG;rw[hn];apply List.ext_getElem?;intro j;by_cases h:j<l.length
 ·rw[oY h,List.getElem?_eq_getElem h,<-getElem!_pos l j h]
  congr 1
  have hr:=RR hv h;unfold qB;rw[if_pos (.inl (Nat.lt_succ_self _)),if_neg (Nat.not_lt_zero _),Nat.min_eq_left (by omega),hc _ (by omega)];refine Prod.ext ?_ ?_
  ·show(yT s l s.1.length)[j]!.2.1=_
   rw[yT,if_pos rfl,dQ,getElem!_pos _ j (by simpa using h),List.getElem_map,getElem!_pos l j h]
  ·show(List.range s.1.length).map _=l[j]!.2
   apply List.ext_getElem
   ·rw[List.length_map,List.length_range,hr]
   ·intro c h1 h2
    rw[List.length_map,List.length_range]at h1;rw[List.getElem_map,List.getElem_range,hc c (by omega),yT,if_neg (by omega),eZ,getElem!_pos _ j (by simpa using h),List.getElem_map];unfold atV;rw[<-getElem!_pos l j h,if_pos h2,getElem!_pos _ c h2]
 ·rw[List.getElem?_eq_none (by rw[jY];omega),List.getElem?_eq_none (by omega)]
theorem qJA {s:Schema} {l:List Rec} (m:Made s l) (hs:cW s l=true) (hd:∀i:Nat,i<s.1.length+1->jV (iV s i) (chnk s l i)=(yT s l i,0)):sX s (dO s l)=(l,0):=by
 have hv:cV s l=true:=by
  unfold cW at hs;cases h:cV s l with
  |true=>rfl
  |false=>rw[h]at hs;cases hs
 have he:∀(k i:Nat),i+k=s.1.length+1->BK (chE s (dO s l) (bI s (dO s l))) k i=0:=by
  intro k;induction k with
  |zero=>intro i _;rfl
  |succ k ih=>
   intro i hi;have h0:chE s (dO s l) (bI s (dO s l)) i=0:=by
    show(chV s (dO s l) (bI s (dO s l)) i).2=0;rw[TL m (by omega) (hd i (by omega))]
   rw[BK,if_neg (fun q=>q h0)];exact ih (i+1) (by omega)
 have hf:(bI s (dO s l)).2.2=0:=by rw[qX m]
 have hi:(bI s (dO s l)).1=DM s l:=by rw[qX m];rfl
 unfold sX zR;rw[if_neg (fun q=>q hf),if_neg (fun q=>q (he _ 0 (by omega))),qI8 m hv hd,hi,IY,if_neg (by rw[hs];intro q;cases q),if_neg (by rintro(q|q|q)<;>exact q rfl)]
def wA (l:List Rec):Prop:=∀r,r∈l->∀v,v∈r.2->inI v.2.1
theorem pW {c:Col} {l:List Val} (hl:l.length<=4096) (hv:∀v,v∈l->okV v):(iL c l).1.size<=4398046585379:=by
 unfold iL;split
 ·exact Nat.zero_le _
 split
 ·exact Nat.zero_le _
 split
 ·exact Nat.zero_le _
 rcases qLI (t:=c.2.1) (l:=l) 4 1 ⟨#[]⟩ (.inl rfl)with q|⟨j,hj,q⟩
 ·rw[q];exact Nat.zero_le _
 ·rw[q];exact(FU hv hl).1
theorem kM {s:Schema} {l:List Rec} (hv:cV s l=true) (hi:wA l) {i:Nat} (h:i<s.1.length):∀v,v∈eZ l i->bE s.1[i]! v=0/\inI v.2.1:=by
 intro v hm;obtain⟨r,hr,rfl⟩:=List.mem_map.1 hm;obtain⟨j,hj,rfl⟩:=List.mem_iff_getElem.1 hr;have h0:=(dZ hv).2 j hj;have hn:=RR hv hj;rw[getElem!_pos l j hj]at h0 hn;unfold atV;rw[if_pos (by omega)];refine⟨?_,?_⟩
 ·unfold nF at h0
  rw[if_neg (fun q=>q hn)]at h0;have:=qW h0 (i:Int) ⟨by omega,by omega⟩;exact this
 ·rw[getElem!_pos _ i (by omega)]
  exact hi _ (List.getElem_mem hj) _ (List.getElem_mem _)
theorem qP {s:Schema} {l:List Rec} (hv:cV s l=true):∀v,v∈dQ l->bE qO v=0/\inI v.2.1:=by
 intro v hm;obtain⟨r,hr,rfl⟩:=List.mem_map.1 hm;simp only[cV,Bool.and_eq_true,decide_eq_true_eq,List.all_eq_true]at hv;have q:=hv.2 r hr;simp only[nP,Bool.and_eq_true,decide_eq_true_eq]at q;refine⟨rfl,?_⟩;show inI r.1;unfold inI;omega
theorem qTJ {s:Schema} {l:List Rec} (hv:cV s l=true) {j:Nat} (hj:j<l.length):0<=(l[j]!).1/\(l[j]!).1<=1099511627776:=by
 simp only[cV,Bool.and_eq_true,decide_eq_true_eq,List.all_eq_true]at hv;have q:=hv.2 l[j]! (by rw[getElem!_pos l j hj];exact List.getElem_mem hj);simp only[nP,Bool.and_eq_true,decide_eq_true_eq]at q;omega
theorem yY {c:Col} {v:Val} (h:bE c v=0/\inI v.2.1):IA v:=by
 have ho:=dM h.1 h.2;exact⟨fun q=>wX h.1 q,h.2,ho.1⟩
theorem qUP {P:Val->Prop} (h0:P eT) {t g:Int} {a b:Val} (ha:P a) (hb:P b):P (nH t g a b):=by
 unfold nH;split
 ·exact h0
 split
 ·exact hb
 split
 ·exact ha
 split
 ·exact hb
 ·exact ha
theorem qQE {P:Val->Prop} (h0:P eT) {t:Int}:∀(l:List Val) (z:Int×Val×Val),P z.2.1->P z.2.2->(∀v,v∈l->P v)->P (zGo t l z).2.1/\P (zGo t l z).2.2/\z.1<=(zGo t l z).1/\(zGo t l z).1<=z.1+l.length
 | [],z,h1,h2,_=>⟨h1,h2,Int.le_refl _,by simp [zGo]⟩
 |v::l,z,h1,h2,h=>by
  have hv:=h v (List.mem_cons_self ..);have hl:∀x,x∈l->P x:=fun x hx=>h x (List.mem_cons_of_mem _ hx)
  have e:zGo t (v::l) z=zGo t l (uO t z v):=rfl;rw[e,List.length_cons];unfold uO;split
  ·obtain⟨q1,q2,q3,q4⟩:=qQE h0 (t:=t) l (z.1+1,z.2.1,z.2.2) h1 h2 hl
   exact⟨q1,q2,by simp only at q3;omega,by simp only at q4;omega⟩
  ·obtain⟨q1,q2,q3,q4⟩:=qQE h0 (t:=t) l (z.1,nH t (-1) z.2.1 v,nH t 1 z.2.2 v) (qUP h0 h1 hv) (qUP h0 h2 hv) hl
   exact⟨q1,q2,by simp only at q3;omega,by simp only at q4;omega⟩
theorem BX:IA eT:=⟨fun _=>rfl,SD,Nat.zero_le _⟩
theorem vY {t:Int} {l:List Val} (hl:l.length<=4096) (h:∀v,v∈l->IA v):IB (pJ t l):=by
 obtain⟨q1,q2,q3,q4⟩:=qQE BX (t:=t) l (0,eT,eT) BX BX h;refine⟨⟨?_,?_⟩,⟨q3,?_⟩,q1,q2⟩
 ·show(0:Int)<=(l.length:Int);omega
 ·show(l.length:Int)<=4096;omega
 ·show(zGo t l (0,eT,eT)).1<=4096
  simp only at q4;omega
theorem uW {s:Schema} {l:List Rec} {i:Nat} (h:i<s.1.length):chnk s l i=(iL s.1[i]! (eZ l i)).1:=by
 unfold chnk iV yT;rw[if_neg (by omega),if_neg (by omega),Int.toNat_natCast]
theorem tK {s:Schema} {l:List Rec}:chnk s l s.1.length=(iL qO (dQ l)).1:=by
 unfold chnk iV yT;rw[if_pos rfl,if_pos rfl]
theorem pX {s:Schema} {l:List Rec} (hv:cV s l=true) (hi:wA l) (hl:l.length<=1024) {k:Int} (h:0<=k/\k<s.1.length) :
  @getElem! (List (List Val)) Nat (List Val) (fun xs i=>i<xs.length) _ (instInhabitedDen (.list bS)) (pU l s.1.length) k.toNat=eZ l k.toNat/\(eZ l k.toNat).length<=1024/\(∀v,v∈eZ l k.toNat->inI v.2.1)/\(iL s.1[k.toNat]! (eZ l k.toNat)).1.size<=4398046585379/\IB (pJ s.1[k.toNat]!.2.1 (eZ l k.toNat)):=by
 have hk:k.toNat<s.1.length:=by omega
 have hs:=bC (dZ hv).1;have ho:=kM hv hi hk;have hlen:=fU l k.toNat;refine⟨(tM (l:=l) (n:=(s.1.length:Int)) ⟨by omega,by omega⟩).2 _ (by omega),by omega,fun v q=>(ho v q).2,pW (by omega) fun v q=>dM (ho v q).1 (ho v q).2,vY (by omega) fun v q=>yY (ho v q)⟩
theorem QK {s:Schema} {l:List Rec} (hv:cV s l=true) (hl:l.length<=1024):(dQ l).length<=1024/\(∀v,v∈dQ l->inI v.2.1)/\(iL ((⟨#[115,101,113]⟩,1,0,false):Col) (dQ l)).1.size<=4398046585379:=by
 have ho:=qP hv;have hlen:(dQ l).length=l.length:=by simp [dQ]
 exact⟨by omega,fun v q=>(ho v q).2,pW (by omega) fun v q=>dM (ho v q).1 (ho v q).2⟩
theorem fQ {s:Schema} {l:List Rec} (hv:cV s l=true) (hi:wA l) {j:Nat} (hj:j<l.length):UM s (fK s l[j]!):=by
 have hs:=bC (dZ hv).1;have hn:=RR hv hj;have hq:=qTJ hv hj;have ho:=kM hv hi (i:=s.2.toNat) (by omega);have hm:(l[j]!).2[s.2.toNat]! ∈eZ l s.2.toNat:=List.mem_map.2 ⟨l[j]!,by rw[getElem!_pos l j hj];exact List.getElem_mem hj,by unfold atV;rw[if_pos (by omega)]⟩;unfold fK;rw[if_neg (by omega)];have h1:=ho _ hm;exact⟨yY h1,h1.1,hq⟩
theorem cD {s:Schema} {l:List Rec} (h:cW s l=true):cV s l=true:=by
 unfold cW at h;cases q:cV s l with
 |true=>rfl
 |false=>rw[q]at h;cases h
theorem qYJ {s:Schema} {l:List Rec} (h:¬(idS s).2=0):fJ s l=(⟨#[]⟩,(idS s).2):=by rw[qR0]at h ⊢;rw[fJ,if_pos h]
theorem qYK {s:Schema} {l:List Rec} (h:(idS s).2=0) (h1:l.length>1024):fJ s l=(⟨#[]⟩,7):=by rw[qR0]at h;rw[fJ,if_neg (fun q=>q h),if_pos h1]
theorem qUF {s:Schema} {l:List Rec} (h:(idS s).2=0) (h1:¬l.length>1024) (h2:l.length=0\/cW s l=false):fJ s l=(⟨#[]⟩,1):=by rw[qR0]at h;rw[fJ,if_neg (fun q=>q h),if_neg h1,if_pos h2]
theorem qUG {s:Schema} {l:List Rec} (h:(idS s).2=0) (h1:¬l.length>1024) (h2:¬l.length=0) (h3:cW s l=true):fJ s l=(dO s l,0):=by
 rw[qR0]at h;rw[fJ,if_neg (fun q=>q h),if_neg h1,if_neg (by rintro(q|q);exact h2 q;rw[h3]at q;cases q)]
abbrev chP (s:Schema) (l:List Rec) (k:Nat):List ByteArray:=(List.range k).map (chnk s l)
theorem TK {s:Schema} {l:List Rec} {k:Int} (h:0<=k):chP s l (k+1).toNat=chP s l k.toNat++ [chnk s l k.toNat]:=by
 rw[show(k+1).toNat=k.toNat+1 by omega,chP,List.range_succ,List.map_append];rfl
theorem MM {s:Schema} {l:List Rec}:chnks s l=chP s l s.1.length++ [(iL ((⟨#[115,101,113]⟩,1,0,false):Col) (dQ l)).1]:=by
 rw[chnks,List.range_succ,List.map_append,List.map_cons,List.map_nil,tK]
theorem tJ (b:ByteArray):cH [b]=b:=EO b
abbrev GO:Ct:=.fn [cE,.list gN] (some (fun(s:Schema) (l:List Rec)=>(l.length<=1099511627776)/\(wA l))) (fun(s:Schema) (l:List Rec)=>.tup [.str,.int .i64] ((fJ s l).1,(fJ s l).2,()))
theorem qON:aH Tryz.prog 14 GO:=by
 refine aH.fn YB mixed [] [] rfl rfl ?_;rintro⟨(s:Schema),(l:List Rec),_⟩ hpre;replace hpre:=hpre _ rfl;dsimp only[cu]at hpre;obtain⟨hl,hin⟩:=hpre;refine⟨[(0,22,LA.mk [.sl 47 (.int .i64),.sl 9 .str,.sl 10 .str,.sl 11 .str] (fun y=>Tag 86/\cu [.int .i64,.str,.str,.str] (fun(k:Int) (o:ByteArray) (q:ByteArray) (z:ByteArray)=>(0<=k/\k<=s.1.length)/\(o=jF++cH (chP s l k.toNat))/\(q=cH ((chP s l k.toNat).map szB))/\(z=cH ((fI s l (List.range k.toNat)).map wC))/\((o.size:Int)<=4+4398046585379*k)/\((q.size:Int)<=10*k)/\((z.size:Int)<=2200000*k)) y) (cu [.int .i64,.str,.str,.str] (fun(k:Int) (o:ByteArray) (q:ByteArray) (z:ByteArray)=>((s.1.length:Int)-k).toNat)) (cu [.int .i64,.str,.str,.str] (fun(k:Int) (o:ByteArray) (q:ByteArray) (z:ByteArray)=>([]:List (Nat×Nat×LA)))))],?_⟩;repeat' (first
  |(
 with_reducible refine Side.mk ⟨(⟨⟩:Tag 86),?_⟩
 dsimp only[cu,aC,aB,gts,eE,eN]
 refine⟨?_,?_,?_,?_,?_,?_,?_⟩
 ·omega
 ·first
  |exact(EO _).symm
  |(
  have hv:=cD (s:=s) (l:=l) (lL (by with_reducible assumption))
  have hs:=bC (dZ hv).1
  have ec:=pX hv hin (by omega) (k:=k) (by omega)
  obtain⟨c1,c2,c3,c4,c5⟩:=ec
  rw[ho,c1,TK (by omega),tI,tJ,uW (by omega),ByteArray.append_assoc])
 ·first
  |rfl
  |(
  have hv:=cD (s:=s) (l:=l) (lL (by with_reducible assumption))
  have hs:=bC (dZ hv).1
  have ec:=pX hv hin (by omega) (k:=k) (by omega)
  obtain⟨c1,c2,c3,c4,c5⟩:=ec
  have hu:=aY (n:=(((iL s.1[k.toNat]! (eZ l k.toNat)).1.size:Nat):Int)) (by omega)
  rw[hq,c1,hu,TK (by omega),List.map_append,tI,List.map_cons,List.map_nil,tJ,uW (by omega)]
  rfl)
 ·first
  |rfl
  |(
  have hv:=cD (s:=s) (l:=l) (lL (by with_reducible assumption))
  have hs:=bC (dZ hv).1
  have ec:=pX hv hin (by omega) (k:=k) (by omega)
  obtain⟨c1,c2,c3,c4,c5⟩:=ec
  rw[hz,c1,EI (by omega),List.map_append,tI,List.map_cons,List.map_nil,tJ])
 ·first
  |exact Int.le_refl _
  |(
  have hv:=cD (s:=s) (l:=l) (lL (by with_reducible assumption))
  have hs:=bC (dZ hv).1
  have ec:=pX hv hin (by omega) (k:=k) (by omega)
  obtain⟨c1,c2,c3,c4,c5⟩:=ec
  rw[c1,ByteArray.size_append]
  omega)
 ·first
  |exact Int.le_refl _
  |(
  have hv:=cD (s:=s) (l:=l) (lL (by with_reducible assumption))
  have hs:=bC (dZ hv).1
  have ec:=pX hv hin (by omega) (k:=k) (by omega)
  obtain⟨c1,c2,c3,c4,c5⟩:=ec
  have hu:=aY (n:=(((iL s.1[k.toNat]! (eZ l k.toNat)).1.size:Nat):Int)) (by omega)
  have p1:=bM (((iL s.1[k.toNat]! (eZ l k.toNat)).1.size:Nat):Int)
  have p2:=vZ c5
  rw[c1,hu,ByteArray.size_append,bP]
  omega)
 ·first
  |exact Int.le_refl _
  |(
  have hv:=cD (s:=s) (l:=l) (lL (by with_reducible assumption))
  have hs:=bC (dZ hv).1
  have ec:=pX hv hin (by omega) (k:=k) (by omega)
  obtain⟨c1,c2,c3,c4,c5⟩:=ec
  have p1:=bM (((iL s.1[k.toNat]! (eZ l k.toNat)).1.size:Nat):Int)
  have p2:=vZ c5
  rw[c1,ByteArray.size_append]
  omega))
  |(
 with_reducible apply Side.mk
 (try dsimp only[cu,aC,aB,gts,loK,hiK,eE,eN])
 first
 |omega
 |(
  have hv:=cD (s:=s) (l:=l) (lL (by with_reducible assumption));have hs:=bC (dZ hv).1;first
  |omega
  |(
   have ec:=pX hv hin (by omega) (k:=k) (by omega);obtain⟨c1,c2,c3,c4,c5⟩:=ec;first
   |(
    rw[c1];first
    |omega
    |(exact⟨by omega,c3⟩))
   |(
    have p1:=bM (((iL s.1[k.toNat]! (eZ l k.toNat)).1.size:Nat):Int);have p2:=vZ c5;rw[c1];omega)
   |(
    have hu:=aY (n:=(((iL s.1[k.toNat]! (eZ l k.toNat)).1.size:Nat):Int)) (by omega);have p1:=bM (((iL s.1[k.toNat]! (eZ l k.toNat)).1.size:Nat):Int);have p2:=vZ c5;first
    |(
     rw[c1,hu];omega)
    |(
     rw[c1,hu,bP];omega))
   |(
    rw[c1];exact⟨⟨c5.1.2,c5.2.1.2⟩,⟨c5.2.2.1.2.1,by have:=c5.2.2.1.2.2;omega⟩,⟨c5.2.2.2.2.1,by have:=c5.2.2.2.2.2;omega⟩⟩))
  |(
   have es:=QK hv (by omega);obtain⟨d1,d2,d3⟩:=es;first
   |exact⟨by omega,d2⟩
   |omega
   |(
    have hu:=aY (n:=(((iL ((⟨#[115,101,113]⟩,1,0,false):Col) (dQ l)).1.size:Nat):Int)) (by omega);have p1:=bM (((iL ((⟨#[115,101,113]⟩,1,0,false):Col) (dQ l)).1.size:Nat):Int);first
    |(
     rw[hu];omega)
    |(
     rw[hu,bP];omega)))
  |(
   have hul:=aY (n:=(l.length:Int)) (by omega);have p3:=bM (l.length:Int);rw[hul];omega)
  |(
   have r1:=fQ hv hin (j:=(0:Int).toNat) (by omega);have r2:=fQ hv hin (j:=((l.length:Int)-1).toNat) (by omega);have z1:=mO r1;have z2:=mO r2;first
   |exact⟨⟨r1.2.2.1,r1.2.2.2⟩,r1.1.2.1,by have:=r1.1.2.2;omega⟩
   |(exact⟨⟨r2.2.2.1,r2.2.2.2⟩,r2.1.2.1,by have:=r2.1.2.2;omega⟩))
  |(
   have hul:=aY (n:=(l.length:Int)) (by omega);have p3:=bM (l.length:Int);have hv:=cD (s:=s) (l:=l) (lL (by with_reducible assumption));have hs:=bC (dZ hv).1;have es:=QK hv (by omega);obtain⟨d1,d2,d3⟩:=es;have hu:=aY (n:=(((iL ((⟨#[115,101,113]⟩,1,0,false):Col) (dQ l)).1.size:Nat):Int)) (by omega);have p1:=bM (((iL ((⟨#[115,101,113]⟩,1,0,false):Col) (dQ l)).1.size:Nat):Int);have r1:=fQ hv hin (j:=(0:Int).toNat) (by omega);have r2:=fQ hv hin (j:=((l.length:Int)-1).toNat) (by omega);have z1:=mO r1;have z2:=mO r2;have f4:∀v,(four v).length=4:=fun _=>rfl
   have u9:(⟨#[77,80,84,49]⟩:ByteArray).size=4:=rfl;simp only[ByteArray.size_append,bP,hu,hul,f4];omega)
  |(
   have ec:=pX hv hin (by omega) (k:=k) (by omega);obtain⟨c1,c2,c3,c4,c5⟩:=ec;have:=(tM (l:=l) (n:=(s.1.length:Int)) ⟨by omega,by omega⟩).1;omega)))
  |(conv=>whnf
    first
     |with_reducible first|done|exact trivial|refine NilBr.mk (fun h=>?_) ?_|apply aJ|apply aI|refine aK (by kernel_rfl) ?_|apply aL|apply bG|apply bF|apply aR
     |((with_reducible first|apply aT|apply aS|apply bD)<;>intro h<;>(try dsimp only[cu,eE,eN]at h)<;>(try(exfalso;omega)))
     |(
 intro yy (hy:Tag 86/\_)
 obtain⟨(k:Int),(o:ByteArray),(q:ByteArray),(z:ByteArray),_⟩:=yy
 replace hy:=hy.2
 dsimp only[cu,aC,aB,gts,eE,eN]at hy
 obtain⟨hk,ho,hq,hz,hzo,hzq,hzz⟩:=hy)))
 all_goals(
 with_reducible apply Leaf.mk
 (try dsimp only[cu,aC,aB,gts,eE,eN]at *)
 first
 |rw[qYJ (by with_reducible assumption)]
 |rw[qYK (by with_reducible assumption) (by omega)]
 |rw[qUF (by with_reducible assumption) (by omega) (.inl (by omega))]
 |rw[qUF (by with_reducible assumption) (by omega) (.inr (qAV (by with_reducible assumption)))]
 |(
  have hv:=cD (s:=s) (l:=l) (lL (by with_reducible assumption));have hs:=bC (dZ hv).1;have hul:=aY (n:=(l.length:Int)) (by omega);have p3:=bM (l.length:Int);have hv:=cD (s:=s) (l:=l) (lL (by with_reducible assumption));have hs:=bC (dZ hv).1;have es:=QK hv (by omega);obtain⟨d1,d2,d3⟩:=es;have hu:=aY (n:=(((iL ((⟨#[115,101,113]⟩,1,0,false):Col) (dQ l)).1.size:Nat):Int)) (by omega);have p1:=bM (((iL ((⟨#[115,101,113]⟩,1,0,false):Col) (dQ l)).1.size:Nat):Int);have r1:=fQ hv hin (j:=(0:Int).toNat) (by omega);have r2:=fQ hv hin (j:=((l.length:Int)-1).toNat) (by omega);have z1:=mO r1;have z2:=mO r2;have f4:∀v,(four v).length=4:=fun _=>rfl
  have u9:(⟨#[77,80,84,49]⟩:ByteArray).size=4:=rfl;have hk2:k.toNat=s.1.length:=by omega
  rw[hk2]at ho hq hz;have hf:fD s l=aV (four (idS s).1)++aV (put (l.length:Int))++(q++aV (put (((iL ((⟨#[115,101,113]⟩,1,0,false):Col) (dQ l)).1.size:Nat):Int)))++z++fE (fK s l[(0:Int).toNat]!)++fE (fK s l[((l.length:Int)-1).toNat]!):=by
   rw[fD,MM,List.map_append,tI,List.map_cons,List.map_nil,tJ,<-hq,<-hz,qAG (dZ hv).1,show((l.length:Int)-1).toNat=l.length-1 by omega];rfl
  have hfs:((bU (fD s l)).size:Int)<4294967296:=by
   rw[jJ,hf];simp only[ByteArray.size_append,bP,f4];omega
  rw[qUG (by with_reducible assumption) (by omega) (by omega) (lL (by with_reducible assumption))];rw[hu,hul,<-hf];show o++(iL ((⟨#[115,101,113]⟩,1,0,false):Col) (dQ l)).1++bU (fD s l)++aV (four (IntKind.u32.wrap ((bU (fD s l)).size:Int)))++jF=cX (cH (chnks s l)) (bU (fD s l));rw[xM ⟨by omega,hfs⟩,ho,MM,tI,tJ,cX];simp only[ByteArray.append_assoc])
 |(rw[qUG (by with_reducible assumption) (by omega) (by omega) (lL (by with_reducible assumption))]))
abbrev qVN:Tbl:=(14,GO)::qVM
theorem YC:aD Tryz.prog qVN:=aD.cons qON YB
end Go.Proofs.YtcjiefknhfhmkaaGreatDoor
