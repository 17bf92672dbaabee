import Derived.Test.YtcjiefknhfhmkaaGreatDoorM11
namespace Go.Proofs.YtcjiefknhfhmkaaGreatDoor
open Go.Abs
set_option maxRecDepth 100000
set_option maxHeartbeats 4000000
set_option linter.unusedVariables false
set_option linter.unusedSimpArgs false
abbrev qZI:Ty:=.pair ER (.pair (.list (.int .i64)) (.int .i64))
abbrev Ftr:Type:=Info×(List Int)×Int
@[reducible] instance:Inhabited Ftr:=instInhabitedDen qZI
abbrev fC:ByteArray:=⟨#[77,80,84,49]⟩
abbrev gS:Info:=(0,[],lK,lK)
abbrev FA (s:Schema):Col:=s.1[s.2.toNat]!
def nmF (m:Int):Nat->List Int->Int->Fr->List Int×Int×Fr
 |0,l,d,r=>(l,d,r)
 |n+1,l,d,r=>nmF m n (l++ [(iM r m).1]) (d-(iM r m).1) (iM r m).2
def znF (rows:Int):List Col->List Zone->Fr->List Zone×Fr
 | [],z,r=>(z,r)
 |c::l,z,r=>znF rows l (z++ [(tF r c rows).1]) (tF r c rows).2
def pP3 (s:Schema) (n:Int) (rows:Int) (B:List Int×Int×Fr) (Z:List Zone) (lo hi:Rank×Fr):Info×List Int×Int:=
 if hi.2.2.2=true\/hi.2.2.1<n\/rows<1\/B.2.1≠0\/mQ (FA s).2.1 lo.1 hi.1>0 then(gS,[],2)else((rows,Z,lo.1,hi.1),B.1,0)
def pP2 (s:Schema) (n:Int) (rows:Int) (B:List Int×Int×Fr) (Z:List Zone×Fr):Info×List Int×Int:=pP3 s n rows B Z.1 (nS Z.2 (FA s)) (nS (nS Z.2 (FA s)).2 (FA s))
def pP1 (s:Schema) (n:Int) (rows:Int) (B:List Int×Int×Fr):Info×List Int×Int:=pP2 s n rows B (znF rows s.1 [] B.2.2)
def pP0 (s:Schema) (n m d:Int) (A:Int×Fr):Info×List Int×Int:=pP1 s n A.1 (nmF m (s.1.length+1) [] d A.2)
def xD (s:Schema) (t:ByteArray) (m d:Int):Info×List Int×Int:=pP0 s t.size m d (iM (t,0,false) 1024)
def nR (s:Schema) (file f:ByteArray) (k:Int):Info×List Int×Int:=
 if iQ f≠bQ file (file.size-12)then(gS,[],9)else if bQ f 0≠iQ (tZ s)then(gS,[],1)else xD s (f.extract 4 f.size) file.size (file.size-12-k)
def JI (s:Schema) (file:ByteArray) (k:Int):Info×List Int×Int:=
 if k>file.size-12 then(gS,[],10)else if AE file fC=false\/AW file fC=false\/k<8 then(gS,[],2)else nR s file (file.extract (file.size-8-k).toNat (file.size-12)) k
def aV (s:Schema) (file:ByteArray):Info×List Int×Int:=
 if bF s≠0 then(gS,[],bF s)else if file.size<12 then(gS,[],10)else JI s file (bQ file (file.size-8))
def offs (l:List Int):List Int:=(List.range (l.length+1)).map fun i=>4+fJ (l.take i)
def rfN (f:ByteArray) (b:Int):Nat->List Int->Int->List Int×Int×Bool
 |0,F,a=>(F,a,true)
 |n+1,F,a=>if(aA f a).2.2≠0\/(aA f a).1>b then(F,a,false)else rfN f b n (F++ [F[F.length-1]! +(aA f a).1]) (aA f a).2.1
def rzN (f:ByteArray) (rows:Int):List Col->List Zone->Int->List Zone×Int×Bool
 | [],z,a=>(z,a,true)
 |c::l,z,a=>if(dQ f a).2.2≠0\/jQ c (dQ f a).1=false\/(dQ f a).1.1≠rows then(z,a,false)else rzN f rows l (z++ [(dQ f a).1]) (dQ f a).2.1
def rP4 (s:Schema) (f:ByteArray) (st rows:Int) (F:List Int) (Z:List Zone) (lo hi:Rank×Int×Bool):Ftr×Bool:=
 if hi.2.2=false\/hi.2.1≠f.size\/mQ (FA s).2.1 lo.1 hi.1>0 then(((rows,Z,lK,lK),F,st),false)else(((rows,Z,lo.1,hi.1),F,st),true)
def rP3 (s:Schema) (f:ByteArray) (st rows:Int) (F:List Int) (Z:List Zone) (lo:Rank×Int×Bool):Ftr×Bool:=
 if lo.2.2=false then(((rows,Z,lK,lK),F,st),false)else rP4 s f st rows F Z lo (eC s f lo.2.1)
def rP2 (s:Schema) (f:ByteArray) (st rows:Int) (F:List Int) (Z:List Zone×Int×Bool):Ftr×Bool:=
 if Z.2.2=false then(((rows,Z.1,lK,lK),F,st),false)else rP3 s f st rows F Z.1 (eC s f Z.2.1)
def rP1 (s:Schema) (f:ByteArray) (st rows:Int) (B:List Int×Int×Bool):Ftr×Bool:=
 if B.2.2=false\/B.1[B.1.length-1]! ≠st then(((rows,[],lK,lK),B.1,st),false)else rP2 s f st rows B.1 (rzN f rows s.1 [] B.2.1)
def iW (s:Schema) (f:ByteArray) (st:Int):Ftr×Bool:=
 if(aA f 4).2.2≠0\/(aA f 4).1<1\/(aA f 4).1>1024 then((gS,[4],st),false)else rP1 s f st (aA f 4).1 (rfN f st (s.1.length+1) [4] (aA f 4).2.1)
abbrev xZ:Ftr:=(gS,[],0)
def xC (s:Schema) (file f:ByteArray) (k:Int):Ftr×Int:=
 if iQ f≠bQ file (file.size-12)then(xZ,9)else if bQ f 0≠iQ (tZ s)then(xZ,1)else if(iW s f (file.size-8-k)).2=false then(xZ,2)else((iW s f (file.size-8-k)).1,0)
def QA (s:Schema) (file:ByteArray) (k:Int):Ftr×Int:=
 if k>file.size-12 then(xZ,10)else if AE file fC=false\/AW file fC=false\/k<8 then(xZ,2)else xC s file (file.extract (file.size-8-k).toNat (file.size-12)) k
def iU (s:Schema) (file:ByteArray):Ftr×Int:=
 if bF s≠0 then(xZ,bF s)else if file.size<12 then(xZ,10)else QA s file (bQ file (file.size-8))
def shK {α:Type} (k:Int) (x:α×Int×Int):α×Int×Int:=(x.1,if x.2.2=0 then x.2.1-k else 0,x.2.2)
theorem JQ (s:ByteArray) (a b:Nat):aU (s.extract a b)=((aU s).drop a).take (b-a):=by
 unfold aU;simp [List.map_take,List.map_drop,List.take_drop]
theorem lT {f:ByteArray} {k e i:Nat} (h:k+i<e) (he:e<=f.size):aE (f.extract k e) i=aE f (k+i):=by
 rw[<-pN,<-pN,JQ,List.getElem!_eq_getElem?_getD,List.getElem!_eq_getElem?_getD,List.getElem?_take,if_pos (by omega),List.getElem?_drop]
theorem SM {f:ByteArray} {k:Nat} (h:k<=f.size):(f.extract k f.size).size=f.size-k:=by rw[ByteArray.size_extract];omega
theorem WJ {f:ByteArray} {k:Nat} (hk:k<=f.size) {a:Int} (ha:0<=a):∀(n:Nat) (j v:Int),0<=j->iO (f.extract k f.size) a n j v=shK k (iO f (a+k) n j v)
 |0,j,v,_=>by rw[iO,iO];rfl
 |n+1,j,v,hj=>by
  rw[iO,iO,SM hk];by_cases h1:j>=(f.size:Int)-(a+k)
  ·rw[if_pos (show j>=((f.size-k:Nat):Int)-a by omega),if_pos h1];rfl
  ·rw[if_neg (show ¬j>=((f.size-k:Nat):Int)-a by omega),if_neg h1]
   have hb:aE (f.extract k f.size) (a+j).toNat=aE f (a+k+j).toNat:=by
    rw[lT (by omega) (Nat.le_refl _)];congr 1;omega
   rw[hb,WJ hk ha n (j+1) _ (by omega)];split
   ·rfl
   ·split
    ·rfl
    ·split
     ·rfl
     ·simp only[shK,if_true,Prod.mk.injEq,true_and,and_true];omega
theorem zO {f:ByteArray} {k:Nat} (hk:k<=f.size) {a:Int} (ha:0<=a):aA (f.extract k f.size) a=shK k (aA f (a+k)):=by
 unfold aA;rw[SM hk];by_cases h:a+k>f.size
 ·rw[if_pos (.inr (by omega)),if_pos (.inr h)];rfl
 ·rw[if_neg (by omega),if_neg (by omega),WJ hk ha 10 0 0 (by omega)]
theorem qSK {f:ByteArray} {k a b:Nat} (hk:k<=f.size) (hb:k+b<=f.size):(f.extract k f.size).extract a b=f.extract (k+a) (k+b):=by
 rw[ByteArray.extract_extract];congr 1;omega
theorem uQ {α:Type} {k:Int} {x:α×Int×Int} (h:x.2.2=0):shK k x=(x.1,x.2.1-k,0):=by
 rw[shK,if_pos h,h]
theorem tD {α:Type} {k:Int} {x:α×Int×Int} (h:x.2.2≠0):shK k x=(x.1,0,x.2.2):=by
 rw[shK,if_neg h]
theorem SU {f:ByteArray} {k:Nat} (hk:k<=f.size) {a:Int} (ha:0<=a):cZ (f.extract k f.size) a=shK k (cZ f (a+k)):=by
 unfold cZ;rw[SM hk];by_cases h1:a+k>f.size
 ·rw[if_pos (.inr (by omega)),if_pos (.inr h1)];rfl
 rw[if_neg (show ¬(a<0\/a>((f.size-k:Nat):Int))by omega),if_neg (show ¬(a+k<0\/a+k>(f.size:Int))by omega)];by_cases h2:a+k=f.size
 ·rw[if_pos (by omega),if_pos h2];rfl
 rw[if_neg (show ¬a=((f.size-k:Nat):Int)by omega),if_neg h2];have hb:aE (f.extract k f.size) a.toNat=aE f (a+k).toNat:=by
  rw[lT (by omega) (Nat.le_refl _)];congr 1;omega
 rw[hb,zO hk (a:=a+1) (by omega),show a+1+(k:Int)=a+k+1 by omega];by_cases h3:aE f (a+k).toNat>1
 ·rw[if_pos h3,if_pos h3];rfl
 rw[if_neg h3,if_neg h3];by_cases h4:aE f (a+k).toNat=0
 ·rw[if_pos h4,if_pos h4];simp only[shK,if_true,Prod.mk.injEq,true_and,and_true];omega
 rw[if_neg h4,if_neg h4];by_cases h5:(aA f (a+k+1)).2.2≠0
 ·rw[tD h5,if_pos h5,if_pos h5,tD (by exact h5)]
 have h5:=Decidable.not_not.1 h5;have o1:=bC h5;rw[uQ h5];simp only[h5,ne_eq,not_true_eq_false,if_false];rw[zO hk (a:=(aA f (a+k+1)).2.1-k) (by omega),show(aA f (a+k+1)).2.1-(k:Int)+k=(aA f (a+k+1)).2.1 by omega];by_cases h6:(aA f (aA f (a+k+1)).2.1).2.2≠0
 ·rw[tD h6,if_pos h6,if_pos h6,tD (by exact h6)]
 have h6:=Decidable.not_not.1 h6;have o2:=bC h6;have g2:=aG f (aA f (a+k+1)).2.1;rw[uQ h6];simp only[h6,ne_eq,not_true_eq_false,if_false];by_cases h7:(aA f (aA f (a+k+1)).2.1).1>f.size-(aA f (aA f (a+k+1)).2.1).2.1
 ·rw[if_pos (by omega),if_pos h7];rfl
 rw[if_neg (by omega),if_neg h7,qSK hk (by omega),uQ rfl];refine Prod.ext (Prod.ext rfl (Prod.ext rfl ?_)) (Prod.ext ?_ rfl)
 ·show f.extract _ _=f.extract _ _
  congr 1<;>omega
 ·dsimp only;omega
theorem FN {s:ByteArray} {a:Int} (h:(cZ s a).2.2=0):0<=a/\a<(cZ s a).2.1/\(cZ s a).2.1<=s.size:=by
 unfold cZ at h ⊢;split at h
 ·cases h
 rename_i h1;split at h
 ·cases h
 rename_i h2;split at h
 ·cases h
 rename_i h3;rw[if_neg h1,if_neg h2,if_neg h3];split at h
 ·rename_i h4
  rw[if_pos h4];show 0<=a/\a<a+1/\a+1<=s.size;omega
 rename_i h4;split at h
 ·rename_i h5;exact absurd h h5
 rename_i h5;split at h
 ·rename_i h6;exact absurd h h6
 rename_i h6;split at h
 ·cases h
 rename_i h7;rw[if_neg h4,if_neg h5,if_neg h6,if_neg h7];have o1:=bC (Decidable.not_not.1 h5);have o2:=bC (Decidable.not_not.1 h6);have g2:=aG s (aA s (a+1)).2.1;show 0<=a/\a<_+_/\_+_<=(s.size:Int);omega
theorem qS3 {f:ByteArray} {k:Nat} (hk:k<=f.size) {a:Int} (ha:0<=a):dQ (f.extract k f.size) a=shK k (dQ f (a+k)):=by
 unfold dQ;rw[zO hk ha];by_cases h1:(aA f (a+k)).2.2≠0
 ·rw[tD h1,if_pos h1,if_pos h1,tD (by exact h1)]
 have h1:=Decidable.not_not.1 h1;have o1:=bC h1;rw[uQ h1];simp only[h1,ne_eq,not_true_eq_false,if_false];by_cases h2:(aA f (a+k)).1>4096
 ·rw[if_pos h2,if_pos h2];rfl
 rw[if_neg h2,if_neg h2,zO hk (a:=(aA f (a+k)).2.1-k) (by omega),show(aA f (a+k)).2.1-(k:Int)+k=(aA f (a+k)).2.1 by omega];by_cases h3:(aA f (aA f (a+k)).2.1).2.2≠0
 ·rw[tD h3,if_pos h3,if_pos h3,tD (by exact h3)]
 have h3:=Decidable.not_not.1 h3;have o3:=bC h3;rw[uQ h3];simp only[h3,ne_eq,not_true_eq_false,if_false];by_cases h4:(aA f (aA f (a+k)).2.1).1>4096
 ·rw[if_pos h4,if_pos h4];rfl
 rw[if_neg h4,if_neg h4];generalize hp:(aA f (aA f (a+k)).2.1).2.1=p at *;rw[SU hk (a:=p-k) (by omega),show p-(k:Int)+k=p by omega];by_cases h5:(cZ f p).2.2≠0
 ·rw[tD h5,if_pos h5,if_pos h5,tD (by exact h5)]
 have h5:=Decidable.not_not.1 h5;have o5:=FN h5;rw[uQ h5];simp only[h5,ne_eq,not_true_eq_false,if_false];rw[SU hk (a:=(cZ f p).2.1-k) (by omega),show(cZ f p).2.1-(k:Int)+k=(cZ f p).2.1 by omega];by_cases h6:(cZ f (cZ f p).2.1).2.2≠0
 ·rw[tD h6,if_pos h6,if_pos h6,tD (by exact h6)]
 have h6:=Decidable.not_not.1 h6;rw[uQ h6];simp only[h6,ne_eq,not_true_eq_false,if_false];rw[uQ rfl]
theorem qS2 {s:ByteArray} {a:Int} (h:(dQ s a).2.2=0):0<=a/\a<(dQ s a).2.1/\(dQ s a).2.1<=s.size:=by
 unfold dQ at h ⊢;split at h
 ·rename_i q;exact absurd h q
 rename_i h1;split at h
 ·cases h
 rename_i h2;split at h
 ·rename_i q;exact absurd h q
 rename_i h3;split at h
 ·cases h
 rename_i h4;split at h
 ·rename_i q;exact absurd h q
 rename_i h5;split at h
 ·rename_i q;exact absurd h q
 rename_i h6;rw[if_neg h1,if_neg h2,if_neg h3,if_neg h4,if_neg h5,if_neg h6];have o1:=bC (Decidable.not_not.1 h1);have o3:=bC (Decidable.not_not.1 h3);have o5:=FN (Decidable.not_not.1 h5);have o6:=FN (Decidable.not_not.1 h6);show 0<=a/\a<(cZ s _).2.1/\(cZ s _).2.1<=(s.size:Int);omega
theorem qOS {r:Fr} {m:Int} (h:r.2.2=true):iM r m=(0,r):=by
 obtain⟨t,a,b⟩:=r;(try simp only at h);subst h;rw[iM,if_pos (.inl rfl)]
theorem CG {r:Fr} {c:Col} (h:r.2.2=true):nS r c=(lK,r):=by
 obtain⟨t,a,b⟩:=r;(try simp only at h);subst h;rw[nS,if_pos (.inl rfl)]
theorem qLP {r:Fr} {c:Col} {rows:Int} (h:r.2.2=true):(tF r c rows).2.2.2=true:=by
 show(r.2.2||_)=true;rw[h,Bool.true_or]
theorem TD {m:Int}:∀(n:Nat) (l:List Int) (d:Int) (r:Fr),r.2.2=true->(nmF m n l d r).2.2.2.2=true
 |0,_,_,_,h=>h
 |n+1,l,d,r,h=>by rw[nmF,qOS h];exact TD n _ _ _ h
theorem UI {rows:Int}:∀(cs:List Col) (z:List Zone) (r:Fr),r.2.2=true->(znF rows cs z r).2.2.2=true
 | [],_,_,h=>h
 |c::cs,z,r,h=>by rw[znF];exact UI cs _ _ (qLP h)
theorem TG (r:Fr) (m:Int):0<=(iM r m).1:=by
 unfold iM;split
 ·exact Int.le_refl _
 ·exact(aG _ _).1
theorem qOQ {m:Int}:∀(n:Nat) (l:List Int) (d:Int) (r:Fr),(nmF m n l d r).2.1<=d
 |0,_,_,_=>Int.le_refl _
 |n+1,l,d,r=>by
  rw[nmF];have h1:=qOQ (m:=m) n (l++ [(iM r m).1]) (d-(iM r m).1) (iM r m).2;have h2:=TG r m;omega
theorem TF {f:ByteArray} (hk:4<=f.size) {a m:Int} (ha:0<=a):iM (f.extract 4 f.size,a,false) m=if(aA f (a+4)).2.2≠0\/(aA f (a+4)).1>m then(0,(f.extract 4 f.size,a,true))else((aA f (a+4)).1,(f.extract 4 f.size,(aA f (a+4)).2.1-4,false)):=by
 unfold iM;simp only;rw[zO hk ha];show(if(false=true\/(shK 4 (aA f (a+4))).2.2≠0\/(shK 4 (aA f (a+4))).1>m)then _ else _)=_;by_cases h:(aA f (a+4)).2.2≠0\/(aA f (a+4)).1>m
 ·rw[if_pos h,if_pos (.inr h)]
 ·rw[if_neg h,if_neg (by rintro(q|q);cases q;exact h q)]
  show((aA f (a+4)).1,_,(shK 4 (aA f (a+4))).2.1,false)=_;rw[uQ (Decidable.not_not.1 fun q=>h (.inl q))]
theorem YQ (l:List Int) (v:Int):fJ (l++ [v])=fJ l+v:=by
 induction l with
 |nil=>simp [fJ]
 |cons x l ih=>simp only[fJ,List.cons_append,List.foldr_cons]at ih ⊢;omega
theorem AA (l:List Int):(offs l).length=l.length+1:=by simp [offs]
theorem sG {l:List Int} {i:Nat} (h:i<=l.length):(offs l)[i]! =4+fJ (l.take i):=by
 rw[getElem!_pos _ i (by rw[AA];omega)];simp [offs]
theorem vS (l:List Int):(offs l)[(offs l).length-1]! =4+fJ l:=by
 rw[AA,show l.length+1-1=l.length by omega,sG (Nat.le_refl _),List.take_length]
theorem WX (l:List Int) (v:Int):offs (l++ [v])=offs l++ [(offs l)[(offs l).length-1]! +v]:=by
 rw[vS];unfold offs;rw[List.length_append,List.length_singleton,List.range_succ,List.map_append];congr 1
 ·apply List.map_congr_left
  intro i hi;rw[List.mem_range]at hi;rw[List.take_append_of_le_length (by omega)]
 ·simp only[List.map_cons,List.map_nil]
  rw[List.take_of_length_le (by simp),YQ];congr 1;omega
theorem qVT {f:ByteArray} (hk:4<=f.size) {b m:Int} (hb:b<=m):∀(n:Nat) (l:List Int) (d a:Int),0<=a ->
  ((rfN f b n (offs l) (a+4)).2.2=true->∃l' a',nmF m n l d (f.extract 4 f.size,a,false)=(l',d+fJ l-fJ l',(f.extract 4 f.size,a'-4,false))/\rfN f b n (offs l) (a+4)=(offs l',a',true)/\4<=a'/\l'.length=l.length+n/\(∀i,l.length<=i->i<l'.length->0<=l'[i]!)/\l'=l++l'.drop l.length) /\
  ((rfN f b n (offs l) (a+4)).2.2=false->(nmF m n l d (f.extract 4 f.size,a,false)).2.2.2.2=true\/(nmF m n l d (f.extract 4 f.size,a,false)).2.1<d-b)
 |0,l,d,a,ha=>⟨fun _=>⟨l,a+4,by rw[nmF];refine Prod.ext rfl (Prod.ext ?_ (Prod.ext rfl (Prod.ext ?_ rfl)))<;>(simp only;omega),rfl,by omega,by omega,fun i h1 h2=>by omega,by simp⟩,fun h=>by cases h⟩
 |n+1,l,d,a,ha=>by
  rw[rfN,nmF,TF hk ha];by_cases h1:(aA f (a+4)).2.2≠0\/(aA f (a+4)).1>b
  ·rw[if_pos h1]
   refine⟨(fun h=>by cases h),fun _=>?_⟩;by_cases h2:(aA f (a+4)).2.2≠0\/(aA f (a+4)).1>m
   ·rw[if_pos h2];exact .inl (TD n _ _ _ rfl)
   ·rw[if_neg h2]
    refine .inr ?_;have:=qOQ (m:=m) n (l++ [(aA f (a+4)).1]) (d-(aA f (a+4)).1) (f.extract 4 f.size,(aA f (a+4)).2.1-4,false);simp only;omega
  ·have h0:(aA f (a+4)).2.2=0:=Decidable.not_not.1 fun q=>h1 (.inl q)
   have o:=bC h0;have g:=aG f (a+4);rw[if_neg h1,if_neg (by omega)];simp only;rw[<-WX];have ih:=qVT hk hb n (l++ [(aA f (a+4)).1]) (d-(aA f (a+4)).1) ((aA f (a+4)).2.1-4) (by omega);rw[show(aA f (a+4)).2.1-4+4=(aA f (a+4)).2.1 by omega]at ih;refine⟨fun h=>?_,fun h=>?_⟩
   ·obtain⟨l',a',e1,e2,e3,e4,e5,e6⟩:=ih.1 h
    rw[List.length_append,List.length_singleton]at e4 e5 e6;have hd:l'[l.length]? =some (aA f (a+4)).1:=by
     rw[e6,List.getElem?_append_left (by simp)];simp
    have hlt:l.length<l'.length:=by omega
    refine⟨l',a',by rw[e1,YQ];refine Prod.ext rfl (Prod.ext ?_ rfl);simp only;omega,e2,e3,by omega,fun i h1 h2=>?_,?_⟩
    ·by_cases q:i=l.length
     ·subst q;rw[getElem!_pos l' _ h2,<-Option.some.inj (hd.symm.trans (List.getElem?_eq_getElem h2))];exact g.1
     ·exact e5 i (by omega) h2
    ·have h3:l'.drop l.length=(aA f (a+4)).1::l'.drop (l.length+1):=by
       rw[List.drop_eq_getElem_cons hlt];congr 1
       exact Option.some.inj ((List.getElem?_eq_getElem hlt).symm.trans hd)
     rw[h3];rw[List.append_assoc]at e6;exact e6
   ·rcases ih.2 h with q|q
    ·exact .inl q
    ·exact .inr (by omega)
theorem qRN {f:ByteArray} (hk:4<=f.size) {a rows:Int} {c:Col} (ha:0<=a) :
  ((dQ f (a+4)).2.2=0/\jQ c (dQ f (a+4)).1=true/\(dQ f (a+4)).1.1=rows->tF (f.extract 4 f.size,a,false) c rows=((dQ f (a+4)).1,(f.extract 4 f.size,(dQ f (a+4)).2.1-4,false))) /\
  (((dQ f (a+4)).2.2≠0\/jQ c (dQ f (a+4)).1=false\/(dQ f (a+4)).1.1≠rows)->(tF (f.extract 4 f.size,a,false) c rows).2.2.2=true):=by
 unfold tF;simp only;rw[qS3 hk ha];refine⟨fun⟨h1,h2,h3⟩=>?_,fun h=>?_⟩
 ·rw[show((4:Nat):Int)=4 from rfl,uQ h1]
  simp only[h2,h3,Bool.false_or,Bool.not_true,ne_eq,not_true_eq_false,decide_false,Bool.or_self]
 ·show(false||(decide ((dQ f (a+4)).2.2≠0)||(!jQ c (dQ f (a+4)).1||decide ((dQ f (a+4)).1.1≠rows))))=true
  rcases h with h|h|h
  ·rw[decide_eq_true h];rfl
  ·rw[h];simp
  ·rw[decide_eq_true h];simp
theorem qXW {f:ByteArray} (hk:4<=f.size) {rows:Int}:∀(cs:List Col) (z:List Zone) (a:Int),0<=a ->
  ((rzN f rows cs z (a+4)).2.2=true->znF rows cs z (f.extract 4 f.size,a,false)=((rzN f rows cs z (a+4)).1,(f.extract 4 f.size,(rzN f rows cs z (a+4)).2.1-4,false))/\4<=(rzN f rows cs z (a+4)).2.1) /\
  ((rzN f rows cs z (a+4)).2.2=false->(znF rows cs z (f.extract 4 f.size,a,false)).2.2.2=true)
 | [],z,a,ha=>⟨fun _=>⟨by rw[znF,rzN];refine Prod.ext rfl (Prod.ext rfl (Prod.ext ?_ rfl));simp only;omega,by rw[rzN];simp only;omega⟩,fun h=>by cases h⟩
 |c::cs,z,a,ha=>by
  rw[rzN,znF];obtain⟨z1,z2⟩:=qRN hk (rows:=rows) (c:=c) ha;by_cases h1:(dQ f (a+4)).2.2≠0\/jQ c (dQ f (a+4)).1=false\/(dQ f (a+4)).1.1≠rows
  ·rw[if_pos h1]
   exact⟨(fun h=>by cases h),fun _=>UI cs _ _ (z2 h1)⟩
  ·have h0:(dQ f (a+4)).2.2=0:=Decidable.not_not.1 fun q=>h1 (.inl q)
   have o:=qS2 h0;rw[if_neg h1,z1 ⟨h0,by cases q:jQ c (dQ f (a+4)).1;exact absurd (.inr (.inl q)) h1;rfl,Decidable.not_not.1 fun q=>h1 (.inr (.inr q))⟩];simp only;have ih:=qXW hk (rows:=rows) cs (z++ [(dQ f (a+4)).1]) ((dQ f (a+4)).2.1-4) (by omega);rw[show(dQ f (a+4)).2.1-4+4=(dQ f (a+4)).2.1 by omega]at ih;exact ih
theorem qFN {f:ByteArray} (hk:4<=f.size) {s:Schema} {a:Int} (ha:0<=a) :
  ((eC s f (a+4)).2.2=true->nS (f.extract 4 f.size,a,false) (FA s)=((eC s f (a+4)).1,(f.extract 4 f.size,(eC s f (a+4)).2.1-4,false))/\4<=(eC s f (a+4)).2.1/\(eC s f (a+4)).2.1<=f.size) /\
  ((eC s f (a+4)).2.2=false->(nS (f.extract 4 f.size,a,false) (FA s)).2.2.2=true):=by
 unfold nS eC;simp only;rw[SU hk ha];by_cases h1:(cZ f (a+4)).2.2≠0\/bN (FA s) (cZ f (a+4)).1≠0
 ·rw[if_pos h1]
  refine⟨(fun h=>by cases h),fun _=>?_⟩;rw[if_pos (.inr h1)]
 ·have h0:(cZ f (a+4)).2.2=0:=Decidable.not_not.1 fun q=>h1 (.inl q)
  have o:=FN h0;rw[if_neg h1,show((4:Nat):Int)=4 from rfl,uQ h0];simp only;rw[if_neg (show ¬(false=true\/(0:Int)≠0\/bN (FA s) (cZ f (a+4)).1≠0)from fun q=>by
   rcases q with q|q|q
   ·cases q
   ·exact q rfl
   ·exact h1 (.inr q)),TF hk (show 0<=(cZ f (a+4)).2.1-4 by omega),show(cZ f (a+4)).2.1-4+4=(cZ f (a+4)).2.1 by omega]
  by_cases h2:(aA f (cZ f (a+4)).2.1).2.2≠0\/(aA f (cZ f (a+4)).2.1).1>1099511627776
  ·rw[if_pos h2,if_pos h2]
   exact⟨(fun h=>by cases h),fun _=>rfl⟩
  ·have h3:(aA f (cZ f (a+4)).2.1).2.2=0:=Decidable.not_not.1 fun q=>h2 (.inl q)
   have o3:=bC h3;rw[if_neg h2,if_neg h2];refine⟨fun _=>?_,fun h=>by cases h⟩;refine⟨rfl,?_,?_⟩<;>(simp only;omega)
theorem QC {s:Schema} {f:ByteArray} {st m:Int} (hk:4<=f.size) (hm:st<=m) :
  ((iW s f st).2=false->xD s (f.extract 4 f.size) m (st-4)=(gS,[],2)) /\
  ((iW s f st).2=true->∃l,xD s (f.extract 4 f.size) m (st-4)=((iW s f st).1.1,l,0)/\(iW s f st).1.2.1=offs l/\l.length=s.1.length+1/\(∀i,i<l.length->0<=l[i]!)/\4+fJ l=st/\1<=(iW s f st).1.1.1/\(iW s f st).1.1.1<=1024):=by
 have bad3:∀ {n rows:Int} {B:List Int×Int×Fr} {Z:List Zone} {lo hi:Rank×Fr},hi.2.2.2=true->pP3 s n rows B Z lo hi=(gS,[],2):=fun h=>by rw[pP3,if_pos (.inl h)]
 have bad2:∀ {n rows:Int} {B:List Int×Int×Fr} {Z:List Zone×Fr},Z.2.2.2=true->pP2 s n rows B Z=(gS,[],2):=fun h=>by
  rw[pP2,CG h];exact bad3 (by rw[CG h];exact h)
 have bad1:∀ {n rows:Int} {B:List Int×Int×Fr},B.2.2.2.2=true->pP1 s n rows B=(gS,[],2):=fun h=>by rw[pP1];exact bad2 (UI _ _ _ h)
 have neg2:∀ {n rows:Int} {B:List Int×Int×Fr} {Z:List Zone×Fr},B.2.1≠0->pP2 s n rows B Z=(gS,[],2):=fun h=>by rw[pP2,pP3,if_pos (.inr (.inr (.inr (.inl h))))]
 have row2:∀ {n rows:Int} {B:List Int×Int×Fr} {Z:List Zone×Fr},rows<1->pP2 s n rows B Z=(gS,[],2):=fun h=>by rw[pP2,pP3,if_pos (.inr (.inr (.inl h)))]
 unfold xD iW;rw[TF hk (Int.le_refl 0),show(0:Int)+4=4 by omega,SM hk];by_cases h1:(aA f 4).2.2≠0\/(aA f 4).1>1024
 ·rw[if_pos h1,if_pos (by omega),pP0]
  exact⟨fun _=>bad1 (TD _ _ _ _ rfl),fun h=>by cases h⟩
 rw[if_neg h1,pP0];by_cases h2:(aA f 4).1<1
 ·rw[if_pos (.inr (.inl h2)),pP1]
  exact⟨fun _=>row2 h2,fun h=>by cases h⟩
 have h0:(aA f 4).2.2=0:=Decidable.not_not.1 fun q=>h1 (.inl q)
 have o:=bC h0;rw[if_neg (by omega),rP1];simp only;obtain⟨n1,n2⟩:=qVT hk hm (s.1.length+1) [] (st-4) ((aA f 4).2.1-4) (by omega);rw[show offs []= [4]from rfl,show(aA f 4).2.1-4+4=(aA f 4).2.1 by omega]at n1 n2;cases hB:(rfN f st (s.1.length+1) [4] (aA f 4).2.1).2.2 with
 |false=>
  rw[if_pos (.inl rfl)];refine⟨fun _=>?_,fun h=>by cases h⟩;rcases n2 hB with q|q
  ·exact bad1 q
  ·rw[pP1];exact neg2 (by omega)
 |true=>
  obtain⟨l,a,e1,e2,e3,e4,e5,_⟩:=n1 hB;rw[e1,e2];simp only[List.length_nil,Nat.zero_add]at e4 e5;have hs0:fJ ([]:List Int)=0:=rfl;rw[hs0];simp only;by_cases h3:(offs l)[(offs l).length-1]! ≠st
  ·rw[if_pos (.inr h3),pP1]
   rw[vS]at h3;exact⟨fun _=>neg2 (by simp only;omega),fun h=>by cases h⟩
  rw[if_neg (by rintro(q|q);cases q;exact h3 q),pP1,rP2];rw[vS]at h3;simp only;obtain⟨z1,z2⟩:=qXW hk (rows:=(aA f 4).1) s.1 [] (a-4) (by omega);rw[show a-4+4=a by omega]at z1 z2;cases hZ:(rzN f (aA f 4).1 s.1 [] a).2.2 with
  |false=>
   rw[if_pos rfl];exact⟨fun _=>bad2 (z2 hZ),fun h=>by cases h⟩
  |true=>
   obtain⟨w1,w2⟩:=z1 hZ;rw[if_neg (by intro q;cases q),w1,rP3,pP2];generalize rzN f (aA f 4).1 s.1 [] a=Z at *;simp only;obtain⟨k1,k2⟩:=qFN hk (s:=s) (a:=Z.2.1-4) (by omega);rw[show Z.2.1-4+4=Z.2.1 by omega]at k1 k2;cases hL:(eC s f Z.2.1).2.2 with
   |false=>
    rw[if_pos rfl];exact⟨fun _=>bad3 (by rw[CG (k2 hL)];exact k2 hL),fun h=>by cases h⟩
   |true=>
    obtain⟨v1,v2,v3⟩:=k1 hL;rw[if_neg (by intro q;cases q),v1,rP4];generalize eC s f Z.2.1=lo at *;simp only;obtain⟨m1,m2⟩:=qFN hk (s:=s) (a:=lo.2.1-4) (by omega);rw[show lo.2.1-4+4=lo.2.1 by omega]at m1 m2;cases hH:(eC s f lo.2.1).2.2 with
    |false=>
     rw[if_pos (.inl rfl)];exact⟨fun _=>bad3 (m2 hH),fun h=>by cases h⟩
    |true=>
     obtain⟨x1,x2,x3⟩:=m1 hH;rw[x1,pP3];generalize eC s f lo.2.1=hi at *;simp only;by_cases h9:hi.2.1≠f.size\/mQ (FA s).2.1 lo.1 hi.1>0
     ·rw[if_pos (.inr h9)]
      refine⟨fun _=>?_,fun h=>by cases h⟩;rw[if_pos];rcases h9 with q|q
      ·exact .inr (.inl (by omega))
      ·exact .inr (.inr (.inr (.inr q)))
     ·rw[if_neg (by rintro(q|q);cases q;exact h9 q)]
      refine⟨(fun h=>by cases h),fun _=>⟨l,?_,rfl,by omega,fun i hi=>e5 i (Nat.zero_le _) hi,by omega,by simp only;omega,by simp only;omega⟩⟩;rw[if_neg];rintro(q|q|q|q|q)
      ·cases q
      ·omega
      ·exact h2 q
      ·exact q (by omega)
      ·exact h9 (.inr q)
theorem qOU {l:List Int} {n:Nat} (h0:∀i,i<l.length->0<=l[i]!) (hs:4+fJ l<=n):qFE n l:=by
 have nn:∀(a:List Int),(∀x,x∈a->0<=x)->0<=fJ a:=fun a ha=>by
  induction a with
  |nil=>exact Int.le_refl _
  |cons x a ih=>
   have h1:=ha x (List.mem_cons_self ..);have h2:=ih fun y hy=>ha y (List.mem_cons_of_mem _ hy)
   simp only[fJ,List.foldr_cons]at h2 ⊢;omega
 have app:∀a b:List Int,fJ (a++b)=fJ a+fJ b:=fun a b=>by
  induction a with
  |nil=>simp [fJ]
  |cons x a ih=>simp only[fJ,List.cons_append,List.foldr_cons]at ih ⊢;omega
 have mem:∀x,x∈l->0<=x:=fun x hx=>by
  obtain⟨i,hi,rfl⟩:=List.mem_iff_getElem.1 hx;have:=h0 i hi;rwa [getElem!_pos l i hi]at this
 intro k hk hl;have h1:=oO (l:=l) (k:=k) ⟨hk,hl⟩;have h2:=app (l.take (k+1).toNat) (l.drop (k+1).toNat);rw[List.take_append_drop]at h2;have h3:=nn (l.drop (k+1).toNat) fun x hx=>mem x (List.mem_of_mem_drop hx)
 have h4:=nn (l.take k.toNat) fun x hx=>mem x (List.mem_of_mem_take hx)
 have h5:=h0 k.toNat (by omega);omega
theorem qCI {s:Schema} {file f:ByteArray} {k:Int} (h0:bF s=0) (hf:4<=f.size) (hk:8<=k) (hk2:k<=file.size-12):(xC s file f k).2=(nR s file f k).2.2/\(xC s file f k).1.1=(nR s file f k).1 /\
  ((nR s file f k).2.2=0->(xC s file f k).1.2.1=offs (nR s file f k).2.1/\(nR s file f k).2.1.length=s.1.length+1/\qFE file.size (nR s file f k).2.1/\1<=(nR s file f k).1.1/\(nR s file f k).1.1<=1024/\bF s=0):=by
 unfold xC nR;by_cases h1:iQ f≠bQ file (file.size-12)
 ·rw[if_pos h1,if_pos h1];exact⟨rfl,rfl,fun q=>by cases q⟩
 by_cases h2:bQ f 0≠iQ (tZ s)
 ·rw[if_neg h1,if_neg h1,if_pos h2,if_pos h2];exact⟨rfl,rfl,fun q=>by cases q⟩
 rw[if_neg h1,if_neg h1,if_neg h2,if_neg h2];obtain⟨p1,p2⟩:=QC (s:=s) (f:=f) (st:=file.size-8-k) (m:=file.size) hf (by omega);rw[show(file.size:Int)-8-k-4=file.size-12-k by omega]at p1 p2;cases hr:(iW s f (file.size-8-k)).2 with
 |false=>rw[if_pos rfl,p1 hr];exact⟨rfl,rfl,fun q=>by cases q⟩
 |true=>
  rw[if_neg (by intro q;cases q)];obtain⟨l,e1,e2,e3,e4,e5,e6,e7⟩:=p2 hr;rw[e1];exact⟨rfl,rfl,fun _=>⟨e2,e3,qOU (l:=l) e4 (by omega),e6,e7,h0⟩⟩
theorem cA (s:Schema) (file:ByteArray):(iU s file).2=(aV s file).2.2/\(iU s file).1.1=(aV s file).1 /\
  ((aV s file).2.2=0->(iU s file).1.2.1=offs (aV s file).2.1/\(aV s file).2.1.length=s.1.length+1/\qFE file.size (aV s file).2.1/\1<=(aV s file).1.1/\(aV s file).1.1<=1024/\bF s=0):=by
 unfold iU aV;by_cases h0:bF s≠0
 ·rw[if_pos h0,if_pos h0];exact⟨rfl,rfl,fun q=>absurd q h0⟩
 rw[if_neg h0,if_neg h0];by_cases h1:file.size<12
 ·rw[if_pos h1,if_pos h1];exact⟨rfl,rfl,fun q=>by cases q⟩
 rw[if_neg h1,if_neg h1];generalize hk:bQ file ((file.size:Int)-8)=k;unfold QA JI;by_cases h2:k>file.size-12
 ·rw[if_pos h2,if_pos h2];exact⟨rfl,rfl,fun q=>by cases q⟩
 rw[if_neg h2,if_neg h2];by_cases h3:AE file fC=false\/AW file fC=false\/k<8
 ·rw[if_pos h3,if_pos h3];exact⟨rfl,rfl,fun q=>by cases q⟩
 rw[if_neg h3,if_neg h3];have h8:¬k<8:=fun q=>h3 (.inr (.inr q))
 exact qCI (Decidable.not_not.1 h0) (by rw[ByteArray.size_extract];omega) (by omega) (by omega)
theorem qC3 (r:Fr) (m:Int):(iM r m).2.1=r.1:=by unfold iM;split<;>rfl
theorem qVC (r:Fr) (c:Col) (n:Int):(tF r c n).2.1=r.1:=rfl
theorem TP (r:Fr) (c:Col):(nS r c).2.1=r.1:=by
 unfold nS;split
 ·rfl
 ·simp only[qC3]
theorem qFC (r:Fr) {m:Int} (h:0<=m):(iM r m).1<=m:=by
 unfold iM;split
 ·exact h
 ·rename_i q;simp only;omega
theorem qOR {m k n d:Int} {l:List Int} {r:Fr} (h:0<=k/\k<n):nmF m (n-k).toNat l d r=nmF m (n-(k+1)).toNat (l++ [(iM r m).1]) (d-(iM r m).1) (iM r m).2:=by
 rw[show(n-k).toNat=(n-(k+1)).toNat+1 by omega];rfl
theorem qRL {rows k:Int} {l:List Col} {z:List Zone} {r:Fr} (h:0<=k/\k<l.length):znF rows (l.drop k.toNat) z r=znF rows (l.drop (k+1).toNat) (z++ [(tF r l[k.toNat]! rows).1]) (tF r l[k.toNat]! rows).2:=by
 rw[bO l k h];rfl
theorem CR (s:ByteArray) (i:Int):0<=bQ s i/\bQ s i<4294967296:=qA9 _
theorem oP {f:ByteArray} {a e:Nat} {i:Int} (hi:0<=i/\a+i+4<=e) (he:e<=f.size):bQ (f.extract a e) i=bQ f (a+i):=by
 unfold bQ;rw[lT (by omega) he,lT (by omega) he,lT (by omega) he,lT (by omega) he];rw[show a+i.toNat=((a:Int)+i).toNat by omega,show a+(i+1).toNat=((a:Int)+i+1).toNat by omega,show a+(i+2).toNat=((a:Int)+i+2).toNat by omega,show a+(i+3).toNat=((a:Int)+i+3).toNat by omega]
abbrev fzK (file:ByteArray):Int:=bQ (file.extract ((file.size:Int)-8).toNat file.size) 0
abbrev fzF (file:ByteArray):ByteArray:=file.extract ((file.size:Int)-8-fzK file).toNat ((file.size:Int)-8).toNat
abbrev fzT (file:ByteArray):ByteArray:=(fzF file).extract (4:Int).toNat (fzK file-4).toNat
abbrev fzG (file:ByteArray):ByteArray:=file.extract ((file.size:Int)-8-fzK file).toNat (file.size-12)
theorem qS0 {file:ByteArray} (h:12<=file.size):fzK file=bQ file (file.size-8):=by
 unfold fzK;rw[oP (by omega) (Nat.le_refl _)];congr 1;omega
theorem qCM {file:ByteArray} (h:12<=file.size) (h2:¬fzK file>file.size-12) (h8:¬fzK file<8) :
  ((fzF file).size:Int)=fzK file/\((fzG file).size:Int)=fzK file-4/\(fzF file).extract 0 (fzK file-4).toNat=fzG file/\bQ ((fzF file).extract (fzK file-4).toNat (fzF file).size) 0=bQ file (file.size-12)/\bQ (fzF file) 0=bQ (fzG file) 0/\fzT file=(fzG file).extract 4 (fzG file).size:=by
 have s1:((fzF file).size:Int)=fzK file:=by unfold fzF;rw[ByteArray.size_extract];omega
 have s2:((fzG file).size:Int)=fzK file-4:=by unfold fzG;rw[ByteArray.size_extract];omega
 refine⟨s1,s2,?_,?_,?_,?_⟩
 ·unfold fzF fzG;rw[ByteArray.extract_extract];congr 1<;>omega
 ·rw[oP (by omega) (Nat.le_refl _)]
  unfold fzF;rw[oP (by omega) (by omega)];congr 1;omega
 ·unfold fzF fzG
  rw[oP (by omega) (by omega),oP (by omega) (by omega)]
 ·unfold fzT fzG fzF
  rw[ByteArray.extract_extract,ByteArray.extract_extract];have:(file.extract ((file.size:Int)-8-fzK file).toNat (file.size-12)).size=(fzK file-4).toNat:=by rw[ByteArray.size_extract];omega
  rw[this];congr 1<;>omega
theorem JN {s:Schema} (h:bF s=0):(idS s).1=iQ (tZ s):=by rw[idS,if_neg (fun q=>q h)]
theorem qYC {s:Schema} {file:ByteArray} (h:bF s≠0):aV s file=(gS,[],bF s):=by rw[aV,if_pos h]
theorem qYD {s:Schema} {file:ByteArray} (h:bF s=0) (h1:file.size<12):aV s file=(gS,[],10):=by rw[aV,if_neg (fun q=>q h),if_pos h1]
theorem qYE {s:Schema} {file:ByteArray} (h:bF s=0) (h1:¬file.size<12) (h2:fzK file>file.size-12):aV s file=(gS,[],10):=by
 rw[aV,if_neg (fun q=>q h),if_neg h1,JI,if_pos (by rw[<-qS0 (by omega)];exact h2)]
theorem qCG {s:Schema} {file:ByteArray} (h:bF s=0) (h1:¬file.size<12) (h2:¬fzK file>file.size-12) (h3:AE file fC=false\/AW file fC=false\/fzK file<8):aV s file=(gS,[],2):=by
 rw[aV,if_neg (fun q=>q h),if_neg h1,JI,if_neg (by rw[<-qS0 (by omega)];exact h2),if_pos (by rw[<-qS0 (by omega)];exact h3)]
theorem qCH {s:Schema} {file:ByteArray} (h:bF s=0) (h1:¬file.size<12) (h2:¬fzK file>file.size-12) (h3:¬(AE file fC=false\/AW file fC=false\/fzK file<8)):aV s file=nR s file (fzG file) (fzK file):=by
 rw[aV,if_neg (fun q=>q h),if_neg h1,<-qS0 (by omega),JI,if_neg h2,if_neg h3]
theorem qYF {s:Schema} {file:ByteArray} (h:bF s=0) (h1:¬file.size<12) (h2:¬fzK file>file.size-12) (h3:AE file fC=true) (h4:AW file fC=true) (h5:¬fzK file<8)
  (h6:CN rR ((fzF file).extract 0 (fzK file-4).toNat)≠bQ ((fzF file).extract (fzK file-4).toNat (fzF file).size) 0):aV s file=(gS,[],9):=by
 obtain⟨_,_,a3,a4,a5,a6⟩:=qCM (by omega) h2 h5;rw[qCH h h1 h2 (by rw[h3,h4];rintro(q|q|q);cases q;cases q;exact h5 q),nR,if_pos];rw[a3,a4]at h6;exact h6
theorem qYG {s:Schema} {file:ByteArray} (h:bF s=0) (h1:¬file.size<12) (h2:¬fzK file>file.size-12) (h3:AE file fC=true) (h4:AW file fC=true) (h5:¬fzK file<8)
  (h6:CN rR ((fzF file).extract 0 (fzK file-4).toNat)=bQ ((fzF file).extract (fzK file-4).toNat (fzF file).size) 0) (h7:bQ (fzF file) 0≠(idS s).1):aV s file=(gS,[],1):=by
 obtain⟨_,_,a3,a4,a5,a6⟩:=qCM (by omega) h2 h5;rw[a3,a4]at h6;rw[qCH h h1 h2 (by rw[h3,h4];rintro(q|q|q);cases q;cases q;exact h5 q),nR,if_neg (fun q=>q h6),if_pos];rw[a5,JN h]at h7;exact h7
theorem qYH {s:Schema} {file:ByteArray} (h:bF s=0) (h1:¬file.size<12) (h2:¬fzK file>file.size-12) (h3:AE file fC=true) (h4:AW file fC=true) (h5:¬fzK file<8)
  (h6:CN rR ((fzF file).extract 0 (fzK file-4).toNat)=bQ ((fzF file).extract (fzK file-4).toNat (fzF file).size) 0) (h7:bQ (fzF file) 0=(idS s).1):aV s file=xD s (fzT file) file.size (file.size-12-fzK file):=by
 obtain⟨_,_,a3,a4,a5,a6⟩:=qCM (by omega) h2 h5;rw[a3,a4]at h6;rw[a5,JN h]at h7;rw[qCH h h1 h2 (by rw[h3,h4];rintro(q|q|q);cases q;cases q;exact h5 q),nR,if_neg (fun q=>q h6),if_neg (fun q=>q h7),a6]
theorem qYL (file:ByteArray):(fzT file).size<=file.size:=by
 unfold fzT fzF;simp only[ByteArray.size_extract];omega
abbrev fzL (s:Schema) (q:Fr):Rank×Fr:=nS q s.1[s.2.toNat]!
abbrev fzH (s:Schema) (q:Fr):Rank×Fr:=nS (nS q s.1[s.2.toNat]!).2 s.1[s.2.toNat]!
theorem qNS {s:Schema} {file:ByteArray} {P:List Int} {d D:Int} {r q:Fr} {Z:List Zone} (hf:aV s file=xD s (fzT file) file.size D) (e1:nmF file.size (s.1.length+1) [] D (iM (fzT file,0,false) 1024).2=(P,d,r))
  (e2:znF (iM (fzT file,0,false) 1024).1 s.1 [] r=(Z,q)) (hq:q.1=fzT file) :
  aV s file=if(fzH s q).2.2.2=true\/(fzH s q).2.2.1<((fzH s q).2.1.size:Int)\/(iM (fzT file,0,false) 1024).1<1\/d≠0\/mQ s.1[s.2.toNat]!.2.1 (fzL s q).1 (fzH s q).1>0 then(gS,[],2)else(((iM (fzT file,0,false) 1024).1,Z,(fzL s q).1,(fzH s q).1),P,0):=by
 have hz:((fzH s q).2.1.size:Int)=(fzT file).size:=by rw[fzH,TP,TP,hq]
 rw[hz,hf,xD,pP0,pP1,e1];simp only;rw[e2,pP2,pP3]
theorem qZ2 {b:Bool} (h:b=false):¬b=true:=by rw[h];exact Bool.noConfusion
theorem JJ {s:Schema} (h:bF s=0):s.1.length<=12/\0<=s.2/\s.2<s.1.length:=aX h
abbrev MU:Ct:=.fn [bM,.str] (some (fun(s:Schema) (file:ByteArray)=>(file.size<=288230376151711744))) (fun(s:Schema) (file:ByteArray)=>.tup [ER,.list (.int .i64),.int .i64] ((aV s file).1,(aV s file).2.1,(aV s file).2.2,()))
theorem qSR:aF Tryz.prog 48 MU:=by
 refine aF.fn qAR mixed [] [] rfl rfl ?_;rintro⟨(s:Schema),(file:ByteArray),_⟩ hpre;replace hpre:=hpre _ rfl;dsimp only[cu]at hpre;have hs:=hpre;refine⟨[(0,46,LA.mk [.sl 107 (.int .i64),.sl 16 (.int .i64),.lst 15 (.int .i64) 3,.ob 2 tFr 134] (fun y=>Tag 96/\cu [.int .i64,.int .i64,.list (.int .i64),tFr] (fun(k:Int) (d:Int) (P:List Int) (r:Fr)=>(0<=k/\k<=((s.1.length:Int)+1))/\((nmF file.size (s.1.length+1) [] ((file.size:Int)-12-(bQ (file.extract ((file.size:Int)-8).toNat file.size) 0)) (iM (fzT file,0,false) 1024).2)=nmF file.size (((s.1.length:Int)+1)-k).toNat P d r)/\(r.1=fzT file)/\(((file.size:Int)-12-(bQ (file.extract ((file.size:Int)-8).toNat file.size) 0))-288230376151711744*k<=d/\d<=((file.size:Int)-12-(bQ (file.extract ((file.size:Int)-8).toNat file.size) 0)))/\((P.length:Int)=k)) y) (cu [.int .i64,.int .i64,.list (.int .i64),tFr] (fun(k:Int) (d:Int) (P:List Int) (r:Fr)=>((((s.1.length:Int)+1):Int)-k).toNat)) (cu [.int .i64,.int .i64,.list (.int .i64),tFr] (fun(k:Int) (d:Int) (P:List Int) (r:Fr)=>([]:List (Nat×Nat×LA))))),(0,58,LA.mk [.sl 124 (.int .i64),.row 3 [.same,.own gA 67,.same,.same,.same,.same,.same,.same,.same,.same],.ob 2 tFr 134] (fun y=>Tag 97/\cu [.int .i64,.list gA,tFr] (fun(j:Int) (Z:List Zone) (q:Fr)=>(0<=j/\j<=s.1.length)/\(znF (iM (fzT file,0,false) 1024).1 s.1 [] (nmF file.size (s.1.length+1) [] ((file.size:Int)-12-(bQ (file.extract ((file.size:Int)-8).toNat file.size) 0)) (iM (fzT file,0,false) 1024).2).2.2=znF (iM (fzT file,0,false) 1024).1 (s.1.drop j.toNat) Z q)/\(q.1=fzT file)/\((Z.length:Int)=j)) y) (cu [.int .i64,.list gA,tFr] (fun(j:Int) (Z:List Zone) (q:Fr)=>((s.1.length:Int)-j).toNat)) (cu [.int .i64,.list gA,tFr] (fun(j:Int) (Z:List Zone) (q:Fr)=>([]:List (Nat×Nat×LA)))))],?_⟩;repeat' (first
  |(
 with_reducible refine Side.mk ⟨(⟨⟩:Tag 96),?_⟩
 dsimp only[cu,aC,aB,gts,eE,eN]
 refine⟨?_,?_,?_,?_,?_⟩
 ·omega
 ·first
  |rfl
  |rw[hn,qOR (by omega)]
 ·first
  |exact qC3 _ _
  |((rw[qC3];exact hr))
 ·first
  |omega
  |(
  have g1:=TG r file.size
  have g2:=qFC r (m:=file.size) (by omega)
  omega)
 ·first
  |rfl
  |(
  simp only[List.length_append,List.length_cons,List.length_nil]
  omega))
  |(
 with_reducible refine Side.mk ⟨(⟨⟩:Tag 97),?_⟩
 dsimp only[cu,aC,aB,gts,eE,eN]
 refine⟨?_,?_,?_,?_⟩
 ·omega
 ·first
  |(
  rw[hn,show(((s.1.length:Int)+1)-k).toNat=0 by omega]
  rfl)
  |rw[hz,qRL (by omega)]
 ·first
  |exact hr
  |((rw[qVC];exact hq))
 ·first
  |rfl
  |(
  simp only[List.length_append,List.length_cons,List.length_nil]
  omega))
  |(
 with_reducible apply Side.mk
 (try dsimp only[cu,aC,aB,gts,loK,hiK,eE,eN])
 first
 |done
 |omega
 |exact Eq.refl _
 |simp only[List.length_append,List.length_cons,List.length_nil];omega
 |(
  have hkey:=JJ (s:=s) (by with_reducible assumption);first
  |omega
  |(
   have hK:=CR (file.extract ((file.size:Int)-8).toNat file.size) 0;have u4:(⟨#[77,80,84,49]⟩:ByteArray).size=4:=rfl;have g1:=TG r file.size;have g2:=qFC r (m:=file.size) (by omega);omega))
 |(
  have hK:=CR (file.extract ((file.size:Int)-8).toNat file.size) 0;have u4:(⟨#[77,80,84,49]⟩:ByteArray).size=4:=rfl;first
  |omega
  |(
   simp only[ByteArray.size_extract];omega))
 |(
  have hkey:=JJ (s:=s) (by with_reducible assumption);simp only[List.length_append,List.length_cons,List.length_nil];omega)
 |(
  have hT:=qYL file;first
  |(
   rw[hr];omega)
  |(
   rw[hq];omega)
  |(
   rw[TP,hq];omega)))
  |(conv=>whnf
    first
     |with_reducible first|done|exact trivial|refine NilBr.mk (fun h=>?_) ?_|apply aI|apply aH|refine aJ (by kernel_rfl) ?_|apply aK|apply bE|apply bD|apply aQ
     |((with_reducible first|apply aS|apply aR|apply bB)<;>intro h<;>(try dsimp only[cu,eE,eN]at h)<;>(try(exfalso;omega)))
     |(
 intro yy (hy:Tag 96/\_)
 obtain⟨(k:Int),(d:Int),(P:List Int),(r:Fr),_⟩:=yy
 replace hy:=hy.2
 dsimp only[cu,aC,aB,gts,eE,eN]at hy
 obtain⟨hk,hn,hr,hd,hp⟩:=hy)
     |(
 intro yy (hy:Tag 97/\_)
 obtain⟨(j:Int),(Z:List Zone),(q:Fr),_⟩:=yy
 replace hy:=hy.2
 dsimp only[cu,aC,aB,gts,eE,eN]at hy
 obtain⟨hj,hz,hq,hzl⟩:=hy)))
 all_goals(
 with_reducible apply Leaf.mk
 (try dsimp only[cu,aC,aB,gts,eE,eN]at *)
 first
 |rw[qYC (by with_reducible assumption)]
 |rw[qYD (by with_reducible assumption) (by omega)]
 |rw[qYE (by with_reducible assumption) (by omega) (by with_reducible assumption)]
 |rw[qCG (by with_reducible assumption) (by omega) (by with_reducible assumption) (.inl (FB (by with_reducible assumption)))]
 |rw[qCG (by with_reducible assumption) (by omega) (by with_reducible assumption) (.inr (.inl (FB (by with_reducible assumption))))]
 |rw[qCG (by with_reducible assumption) (by omega) (by with_reducible assumption) (.inr (.inr (by with_reducible assumption)))]
 |rw[qYF (by with_reducible assumption) (by omega) (by with_reducible assumption) (gZ (by with_reducible assumption)) (gZ (by with_reducible assumption)) (by with_reducible assumption) (by with_reducible assumption)]
 |rw[qYG (by with_reducible assumption) (by omega) (by with_reducible assumption) (gZ (by with_reducible assumption)) (gZ (by with_reducible assumption)) (by with_reducible assumption) (by with_reducible assumption) (by with_reducible assumption)]
 |(
  have e1:(nmF file.size (s.1.length+1) [] ((file.size:Int)-12-(bQ (file.extract ((file.size:Int)-8).toNat file.size) 0)) (iM (fzT file,0,false) 1024).2)=(P,d,r):=by
   rw[hn,show(((s.1.length:Int)+1)-k).toNat=0 by omega];rfl
  have e2:znF (iM (fzT file,0,false) 1024).1 s.1 [] r=(Z,q):=by
   have h2:=hz;rw[e1,List.drop_eq_nil_of_le (by omega)]at h2;exact h2
  have ff:=qNS (qYH (by with_reducible assumption) (by omega) (by with_reducible assumption) (gZ (by with_reducible assumption)) (gZ (by with_reducible assumption)) (by with_reducible assumption) (by with_reducible assumption) (by with_reducible assumption)) e1 e2 hq;first
  |rw[ff,if_pos (.inl (by with_reducible assumption))]
  |rw[ff,if_pos (.inr (.inl (by with_reducible assumption)))]
  |rw[ff,if_pos (.inr (.inr (.inl (by with_reducible assumption))))]
  |rw[ff,if_pos (.inr (.inr (.inr (.inl (by with_reducible assumption)))))]
  |rw[ff,if_pos (.inr (.inr (.inr (.inr (by with_reducible assumption)))))]
  |(
   rw[ff,if_neg (fun x=>by
    rcases x with x|x|x|x|x
    ·exact absurd x (qZ2 (by with_reducible assumption))
    ·exact absurd x (by with_reducible assumption)
    ·exact absurd x (by with_reducible assumption)
    ·exact x (by with_reducible assumption)
    ·exact absurd x (by with_reducible assumption))])))
abbrev qXE:Tbl:=(48,MU)::qXD
theorem qAS:aD Tryz.prog qXE:=aD.cons qSR qAR
def sB (f:Nat->Int):Nat->Nat->Int
 |0,_=>0
 |m+1,k=>if f k≠0 then f k else sB f m (k+1)
theorem PA {f:Nat->Int} {m i:Int} (h:0<=i/\i<m) (h0:f i.toNat=0):sB f (m-i).toNat i.toNat=sB f (m-(i+1)).toNat (i+1).toNat:=by
 rw[show(m-i).toNat=(m-(i+1)).toNat+1 by omega,sB,if_neg (fun q=>q h0),show(i+1).toNat=i.toNat+1 by omega]
theorem PB {f:Nat->Int} {m i:Int} (h:0<=i/\i<m) (h0:f i.toNat≠0):sB f (m-i).toNat i.toNat=f i.toNat:=by
 rw[show(m-i).toNat=(m-(i+1)).toNat+1 by omega,sB,if_pos h0]
def pG (V:Nat->List Val) (nc i k j:Nat):Rec:=(if nc<i\/(i=nc/\j<k)then(V nc)[j]!.2.1 else 0,(List.range (min nc (if j<k then i+1 else i))).map fun c=>(V c)[j]!)
theorem CH (V:Nat->List Val) (nc i k j:Nat):(pG V nc i k j).2.length<=nc:=by
 simp only[pG,List.length_map,List.length_range];omega
def rE (V:Nat->List Val) (nc n i k:Nat):List Rec:=(List.range n).map (pG V nc i k)
theorem fZ (V:Nat->List Val) (nc n i k:Nat):(rE V nc n i k).length=n:=by simp [rE]
theorem pH {V:Nat->List Val} {nc n i k j:Nat} (h:j<n):(rE V nc n i k)[j]? =some (pG V nc i k j):=by simp [rE,h]
theorem qPP (V:Nat->List Val) (nc n:Nat):rE V nc n 0 0=List.replicate n ((0,[]):Rec):=by
 apply List.ext_getElem?;intro j;by_cases h:j<n
 ·rw[pH h]
  simp [h,pG]
 ·rw[List.getElem?_eq_none (by rw[fZ];omega),List.getElem?_eq_none (by simp;omega)]
theorem qFT {V:Nat->List Val} {nc n i k:Nat} {a:Rec} (hk:k<n) (h:(rE V nc n i k)[k]? =some a):a=pG V nc i k k:=by
 rw[pH hk]at h;exact(Option.some.inj h).symm
theorem XX {V:Nat->List Val} {nc n i k:Nat} {a:Rec} (hk:k<n) (ha:a=pG V nc i (k+1) k):(rE V nc n i k).set k a=rE V nc n i (k+1):=by
 apply List.ext_getElem?;intro j;by_cases h:j<n
 ·rw[pH h]
  by_cases h2:k=j
  ·subst h2;rw[List.getElem?_set_self (by rw[fZ];exact h),ha]
  ·rw[List.getElem?_set_ne h2,pH h]
   have e:(j<k)=(j<k+1):=by apply propext;omega
   simp only[pG,e]
 ·rw[List.getElem?_eq_none (by rw[List.length_set,fZ];omega),List.getElem?_eq_none (by rw[fZ];omega)]
theorem XV {V:Nat->List Val} {nc n i k:Nat} (hk:k<n) (hi:i<nc):(rE V nc n i k).set k ((pG V nc i k k).1,(pG V nc i k k).2++ [(V i)[k]!])=rE V nc n i (k+1):=by
 refine XX hk ?_;simp only[pG,Nat.lt_irrefl,if_false,Nat.lt_succ_self,if_true];rw[if_neg (by omega),if_neg (by omega),Nat.min_eq_right (by omega),Nat.min_eq_right (by omega),List.range_succ,List.map_append];rfl
theorem XW {V:Nat->List Val} {nc n i k:Nat} (hk:k<n) (hi:i=nc):(rE V nc n i k).set k ((V i)[k]!.2.1,(pG V nc i k k).2)=rE V nc n i (k+1):=by
 subst hi;refine XX hk (Prod.ext ?_ ?_)
 ·show _=if i<i\/(i=i/\k<k+1)then _ else _
  rw[if_pos (.inr ⟨rfl,Nat.lt_succ_self k⟩)]
 ·show List.map _ (List.range (min i (if k<k then i+1 else i)))=List.map _ (List.range (min i (if k<k+1 then i+1 else i)))
  rw[if_neg (Nat.lt_irrefl k),if_pos (Nat.lt_succ_self k),Nat.min_eq_right (by omega),Nat.min_eq_left (by omega)]
theorem QJ (V:Nat->List Val) (nc n i:Nat):rE V nc n i n=rE V nc n (i+1) 0:=by
 apply List.ext_getElem?;intro j;by_cases h:j<n
 ·rw[pH h,pH h]
  simp only[pG,if_pos h,Nat.not_lt_zero,if_false,h,and_true,and_false,or_false];simp only[show(nc<i\/i=nc)↔nc<i+1 by omega];rfl
 ·rw[List.getElem?_eq_none (by rw[fZ];omega),List.getElem?_eq_none (by rw[fZ];omega)]
abbrev chV (s:Schema) (file:ByteArray) (F:Info×List Int×Int) (i:Int):List Val×Int:=dP s file F.1.1 F.2.1 i
abbrev chL (s:Schema) (file:ByteArray) (F:Info×List Int×Int) (i:Nat):List Val:=(chV s file F i).1
abbrev chE (s:Schema) (file:ByteArray) (F:Info×List Int×Int) (i:Nat):Int:=(chV s file F i).2
def xL (s:Schema) (file:ByteArray) (F:Info×List Int×Int) (i:Int):List Val×Int:=if F.2.2≠0 then([],F.2.2)else if i<0\/i>=F.2.1.length then([],4)else chV s file F i
def bZ (s:Schema) (file:ByteArray) (i:Int):List Val×Int:=xL s file (aV s file) i
def CI (s:Schema) (file:ByteArray) (F:Info×List Int×Int):List Rec:=rE (chL s file F) s.1.length F.1.1.toNat (s.1.length+1) 0
def rF (s:Schema) (I:Info) (l:List Rec):List Rec×Int:=if cQ s l=false then([],2)else if(tB s l).2.2.1≠I.2.2.1\/(tB s l).2.2.2≠I.2.2.2\/(tB s l).2.1≠I.2.1 then([],2)else(l,0)
def nA (s:Schema) (file:ByteArray) (F:Info×List Int×Int):List Rec×Int:=
 if F.2.2≠0 then([],F.2.2)else if sB (chE s file F) (s.1.length+1) 0≠0 then([],sB (chE s file F) (s.1.length+1) 0)else rF s F.1 (CI s file F)
def iP (s:Schema) (file:ByteArray):List Rec×Int:=nA s file (aV s file)
theorem TR {a b:Rank} (h:(!(decide (a.1.1=b.1.1)&&(decide (a.1.2.1=b.1.2.1)&&(decide (a.1.2.2=b.1.2.2)&&decide (a.2=b.2)))))=false):a=b:=by
 simp only[Bool.not_eq_eq_eq_not,Bool.not_false,Bool.and_eq_true,decide_eq_true_eq]at h;exact Prod.ext (Prod.ext h.1 (Prod.ext h.2.1 h.2.2.1)) h.2.2.2
theorem TQ {a b:Rank} (h:(!(decide (a.1.1=b.1.1)&&(decide (a.1.2.1=b.1.2.1)&&(decide (a.1.2.2=b.1.2.2)&&decide (a.2=b.2)))))=true):a≠b:=by
 rintro rfl;simp at h
theorem kF {b:Bool} (h:b=true):¬b=false:=by rw[h];exact Bool.noConfusion
theorem qLR (s:Schema) (l:List Rec):(tB s l).2.1.length=s.1.length:=by simp [tB,eL]
theorem mK {s:Schema} {file:ByteArray} {n i:Int} {l:List Int} (h:(dP s file n l i).2=0):((dP s file n l i).1.length:Int)=n:=by
 unfold dP at h ⊢;split at h
 ·rename_i q;exact absurd h q
 ·split at h
  ·cases h
  ·rename_i h1 h2
   rw[if_neg h1,if_neg h2];exact Decidable.not_not.1 h2
theorem qJO {s:Schema} {file:ByteArray} {F:Info×List Int×Int} {i:Nat} (hi:i<s.1.length) (hl:((chL s file F i).length:Int)=F.1.1):fP (CI s file F) i=chL s file F i:=by
 unfold fP CI rE;rw[List.map_map];apply List.ext_getElem?;intro j;by_cases h:j<F.1.1.toNat
 ·simp only[List.getElem?_map,List.getElem?_range h,Option.map_some,Function.comp]
  have hm:min s.1.length (if j<0 then s.1.length+1+1 else s.1.length+1)=s.1.length:=by rw[if_neg (by omega)];omega
  rw[List.getElem?_eq_getElem (show j<(chL s file F i).length by omega)];congr 1
  unfold atV pG;simp only[hm];rw[List.length_map,List.length_range,if_pos hi,getElem!_pos _ i (by simp;exact hi),List.getElem_map,List.getElem_range,getElem!_pos _ j (by omega)]
 ·rw[List.getElem?_eq_none (by simp;omega),List.getElem?_eq_none (by omega)]
abbrev HC:Ct:=.fn [bM,.str] (some (fun(s:Schema) (file:ByteArray)=>(file.size<=288230376151711744))) (fun(s:Schema) (file:ByteArray)=>.tup [ER,.int .i64] ((aV s file).1,(aV s file).2.2,()))
theorem qOM:aF Tryz.prog 19 HC:=by
 refine aF.fn qAS mixed [] [] rfl rfl ?_;rintro⟨(s:Schema),(file:ByteArray),_⟩ hpre;replace hpre:=hpre _ rfl;dsimp only[cu]at hpre;have hs:=hpre;refine⟨[],?_⟩;repeat' (first
  |(
 with_reducible apply Side.mk
 (try dsimp only[cu,aC,aB,gts,loK,hiK,eE,eN])
 omega)
  |(conv=>whnf
    first
     |with_reducible first|done|exact trivial|refine NilBr.mk (fun h=>?_) ?_|apply aI|apply aH|refine aJ (by kernel_rfl) ?_|apply aK|apply bE|apply bD|apply aQ
     |((with_reducible first|apply aS|apply aR|apply bB)<;>intro h<;>(try dsimp only[cu,eE,eN]at h)<;>(try(exfalso;omega)))))
 all_goals(
 with_reducible apply Leaf.mk
 (try dsimp only[cu,aC,aB,gts,eE,eN]at *)
 done)
abbrev qXF:Tbl:=(19,HC)::qXE
theorem qAT:aD Tryz.prog qXF:=aD.cons qOM qAS
abbrev yO:Ct:=.fn [bM,.str,.int .i64] (some (fun(s:Schema) (file:ByteArray) (i:Int)=>(file.size<=288230376151711744))) (fun(s:Schema) (file:ByteArray) (i:Int)=>.tup [.list bK,.int .i64] ((bZ s file i).1,(bZ s file i).2,()))
theorem qCX:aF Tryz.prog 21 yO:=by
 refine aF.fn qAT mixed [] [] rfl rfl ?_;rintro⟨(s:Schema),(file:ByteArray),(i:Int),_⟩ hpre;replace hpre:=hpre _ rfl;dsimp only[cu]at hpre;have hs:=hpre;refine⟨[],?_⟩;repeat' (first
  |(
 with_reducible apply Side.mk
 (try dsimp only[cu,aC,aB,gts,loK,hiK,eE,eN])
 first
 |omega
 |(
  have hfo:=(cA s file).2.2 (by with_reducible assumption);have:=aX hfo.2.2.2.2.2;refine⟨by omega,hs,hfo.2.2.1⟩))
  |(conv=>whnf
    first
     |with_reducible first|done|exact trivial|refine NilBr.mk (fun h=>?_) ?_|apply aI|apply aH|refine aJ (by kernel_rfl) ?_|apply aK|apply bE|apply bD|apply aQ
     |((with_reducible first|apply aS|apply aR|apply bB)<;>intro h<;>(try dsimp only[cu,eE,eN]at h)<;>(try(exfalso;omega)))))
 all_goals(
 with_reducible apply Leaf.mk
 (try dsimp only[cu,aC,aB,gts,eE,eN]at *)
 first
 |rw[bZ,xL,if_pos (by with_reducible assumption)]
 |rw[bZ,xL,if_neg (fun q=>q (by with_reducible assumption)),if_pos (by omega)]
 |(rw[bZ,xL,if_neg (fun q=>q (by with_reducible assumption)),if_neg (by omega)]))
abbrev qQR:Tbl:=(21,yO)::qXF
theorem pL:aD Tryz.prog qQR:=aD.cons qCX qAT
abbrev HD:Ct:=.fn [bM,.str] (some (fun(s:Schema) (file:ByteArray)=>(file.size<=288230376151711744))) (fun(s:Schema) (file:ByteArray)=>.tup [.list eF,.int .i64] ((iP s file).1,(iP s file).2,()))
theorem qON:aF Tryz.prog 18 HD:=by
 refine aF.fnG (T:=qQR) [(0,4,2)] [] rfl rfl ?_;rintro⟨(s:Schema),(file:ByteArray),_⟩ hpre;replace hpre:=hpre _ rfl;dsimp only[cu]at hpre;have hs:=hpre;refine⟨[],?_⟩;repeat' (first
  |(
 with_reducible refine Side.mk ⟨(⟨⟩:Tag 98),?_⟩
 dsimp only[cu,aC,aB,gts,eE,eN]
 refine⟨?_,?_,?_⟩
 ·omega
 ·first
  |exact(qPP _ _ _).symm
  |(
  have hil:(((dP s file (aV s file).1.1 (aV s file).2.1 i).1.length:Nat):Int)=(aV s file).1.1:=mK (by with_reducible assumption)
  rw[hS2,show k.toNat=(aV s file).1.1.toNat by omega,QJ,show(i+1).toNat=i.toNat+1 by omega])
 ·first
  |rfl
  |(
  have hfo:=(cA s file).2.2 (by with_reducible assumption)
  obtain⟨_,fo1,fo2,fo3,fo4,fo5⟩:=hfo
  have fo6:=aX fo5
  rw[he]
  exact PA (m:=((s.1.length:Int)+1)) ⟨by omega,by omega⟩ (by
   show(dP s file (aV s file).1.1 (aV s file).2.1 ((i.toNat:Nat):Int)).2=0;rw[hic];with_reducible assumption)))
  |(
 with_reducible refine Side.mk ⟨(⟨⟩:Tag 99),?_⟩
 dsimp only[cu,aC,aB,gts,eE,eN]
 refine⟨?_,?_⟩
 ·omega
 ·first
  |exact hR
  |(
  have hfo:=(cA s file).2.2 (by with_reducible assumption)
  obtain⟨_,fo1,fo2,fo3,fo4,fo5⟩:=hfo
  have fo6:=aX fo5
  first
  |(
   have hi2:i.toNat<s.1.length:=by omega
   rw[hS2,show(k+1).toNat=k.toNat+1 by omega,hra,<-hvi];exact XV hkr hi2)
  |(
   have hi2:i.toNat=s.1.length:=by omega
   rw[hS2,show(k+1).toNat=k.toNat+1 by omega,hra,<-hvi];exact XW hkr hi2)))
  |(
 with_reducible apply Side.mk
 (try dsimp only[cu,aC,aB,gts,loK,hiK,eE,eN])
 first
 |done
 |omega
 |simp only[List.length_append,List.length_cons,List.length_nil];omega
 |(
  have hfo:=(cA s file).2.2 (by with_reducible assumption);obtain⟨_,fo1,fo2,fo3,fo4,fo5⟩:=hfo;have fo6:=aX fo5;first
  |omega
  |(exact⟨by omega,hs,fo2⟩))
 |exact⟨rfl,rfl,rfl,rfl⟩
 |exact⟨⟨rfl,rfl,rfl,rfl⟩,rfl,rfl,by simp,by decide,rfl⟩
 |(
  have hfo:=(cA s file).2.2 (by with_reducible assumption);obtain⟨_,fo1,fo2,fo3,fo4,fo5⟩:=hfo;have fo6:=aX fo5;have hrl:R.length=(aV s file).1.1.toNat:=by rw[hR,fZ]
  first
  |omega
  |(
   rw[qLR];omega))
 |(
  have hil:(((dP s file (aV s file).1.1 (aV s file).2.1 i).1.length:Nat):Int)=(aV s file).1.1:=mK (by with_reducible assumption);omega)
 |(
  have hr2:rows.length=(aV s file).1.1.toNat:=hrows;omega)
 |(
  have hfo:=(cA s file).2.2 (by with_reducible assumption);obtain⟨_,fo1,fo2,fo3,fo4,fo5⟩:=hfo;have fo6:=aX fo5;have hr2:=CH (chL s file (aV s file)) s.1.length i.toNat k.toNat k.toNat;rw[<-hra]at hr2;simp only[List.length_cons,List.length_nil];omega)
 |(kernel_rfl))
  |(conv=>whnf
    first
     |refine GoV.x 6 pL mixed (gJ pL mixed [(0,4,2)] [] 4 _ _) (by exact rfl) ?_
     |refine GoV.nest (tO:=eF) (t:=bK) 6 9 1 (fun a=>a.2) 56 43 (((0,[]):Rec)) TH rfl rfl (by exact rfl) ?_
     |refine GoV.sq ?_
     |intro(nb:Nat) (no:Nat) (hS:Heap) (ιS:Iota) (wS:World)
     |intro(rows:List (List V)) (hrows:rows.length=_)
     |intro(nv:Value)
     |refine GoN.x 12 pL mixed (gJ pL mixed [(0,4,2)] [] 4 _ _) (by exact rfl) (by exact rfl) ?_
     |refine GoN.block ?_
     |refine GoN.sq ?_
     |refine GoN.loop 6 [.sl 31 (.int .i64)] (fun y (R:List (Ty.den eF))=>Tag 98/\cu [.int .i64] (fun(i:Int)=>fun(R:List (Ty.den eF))=>(0<=i/\i<=(aV s file).2.1.length)/\(R=rE (chL s file (aV s file)) s.1.length (aV s file).1.1.toNat i.toNat 0)/\(sB (chE s file (aV s file)) (s.1.length+1) 0=sB (chE s file (aV s file)) (((s.1.length:Int)+1)-i).toNat i.toNat)) y R) (fun y _=>cu [.int .i64] (fun(i:Int)=>((aV s file).2.1.length-i).toNat) y) (by exact rfl) (by exact rfl) ?_ ?_
     |refine GoN.loopF (TH _ _ _) pL mixed (gJ pL mixed [(0,4,2)] [] 4 _ _) 12 [.sl 49 (.int .i64)] (fun y (R:List (Ty.den eF))=>Tag 99/\cu [.int .i64] (fun(k:Int)=>fun(R:List (Ty.den eF))=>(0<=k/\k<=(dP s file (aV s file).1.1 (aV s file).2.1 i).1.length)/\(R=rE (chL s file (aV s file)) s.1.length (aV s file).1.1.toNat i.toNat k.toNat)) y R) (fun y _=>cu [.int .i64] (fun(k:Int)=>((dP s file (aV s file).1.1 (aV s file).2.1 i).1.length-k).toNat) y) (cu [.int .i64] (fun(k:Int)=>k.toNat)) (by exact rfl) (by exact rfl) ?_ ?_ ?_
     |(
 intro yy (R:List (Ty.den eF)) (hy:Tag 98/\_)
 obtain⟨(i:Int),_⟩:=yy
 replace hy:=hy.2
 dsimp only[cu,aC,aB,gts,eE,eN]at hy
 obtain⟨hi,hR,he⟩:=hy
 have hic:((i.toNat:Nat):Int)=i:=by omega
 have hvi:chL s file (aV s file) i.toNat=(dP s file (aV s file).1.1 (aV s file).2.1 i).1:=by
  show(dP s file (aV s file).1.1 (aV s file).2.1 ((i.toNat:Nat):Int)).1=_;rw[hic])
     |(
 intro yy (R:List (Ty.den eF)) (ra:Ty.den eF) (hy:Tag 99/\_) hra
 obtain⟨(k:Int),_⟩:=yy
 replace hy:=hy.2
 dsimp only[cu,aC,aB,gts,eE,eN]at hy hra
 obtain⟨hk,hS2⟩:=hy
 have hkr:=aP hra
 rw[hS2]at hra hkr
 rw[fZ]at hkr
 replace hra:=qFT hkr hra)
     |(
 intro yy (R:List (Ty.den eF)) (hy:Tag 99/\_) hle
 obtain⟨(k:Int),_⟩:=yy
 replace hy:=hy.2
 dsimp only[cu,aC,aB,gts,eE,eN]at hy hle
 obtain⟨hk,hS2⟩:=hy
 rw[hS2,fZ]at hle
 have hil:(((dP s file (aV s file).1.1 (aV s file).2.1 i).1.length:Nat):Int)=(aV s file).1.1:=mK (by with_reducible assumption))
     |with_reducible first|done|exact trivial|refine NilBr.mk (fun h=>?_) ?_|apply aI|apply aH|refine aJ (by kernel_rfl) ?_|apply aK|apply bE|apply bD|apply aQ
     |((with_reducible first|apply aS|apply aR|apply bB)<;>intro h<;>(try dsimp only[cu,eE,eN]at h)<;>(try(exfalso;omega)))))
 all_goals(
 with_reducible apply Leaf.mk
 (try dsimp only[cu,aC,aB,gts,eE,eN]at *)
 first
 |rw[iP,nA,if_pos (by with_reducible assumption)]
 |(
  have hfo:=(cA s file).2.2 (by with_reducible assumption);obtain⟨_,fo1,fo2,fo3,fo4,fo5⟩:=hfo;have fo6:=aX fo5;first
  |(
   have hfe:=PB (f:=chE s file (aV s file)) (m:=((s.1.length:Int)+1)) (i:=i) ⟨by omega,by omega⟩ (by
    show(dP s file (aV s file).1.1 (aV s file).2.1 ((i.toNat:Nat):Int)).2≠0;rw[hic];with_reducible assumption)
   have hfe2:chE s file (aV s file) i.toNat=(dP s file (aV s file).1.1 (aV s file).2.1 i).2:=by
    show(dP s file (aV s file).1.1 (aV s file).2.1 ((i.toNat:Nat):Int)).2=_;rw[hic]
   rw[hfe2,<-he]at hfe;rw[iP,nA,if_neg (fun q=>q (by with_reducible assumption)),if_pos (by rw[hfe];with_reducible assumption),hfe])
  |(
   have hie:i=((s.1.length:Int)+1):=by omega
   have hz:sB (chE s file (aV s file)) (s.1.length+1) 0=0:=by
    rw[he,show(((s.1.length:Int)+1)-i).toNat=0 by omega];rfl
   have hRL:CI s file (aV s file)=R:=by rw[hR,CI,show i.toNat=s.1.length+1 by omega]
   first
   |rw[iP,nA,if_neg (fun q=>q (by with_reducible assumption)),if_neg (fun q=>q hz),hRL,rF,if_pos (FB (by with_reducible assumption))]
   |rw[iP,nA,if_neg (fun q=>q (by with_reducible assumption)),if_neg (fun q=>q hz),hRL,rF,if_neg (kF (gZ (b:=cQ s R) (by with_reducible assumption))),if_pos (.inl (TQ (by with_reducible assumption)))]
   |rw[iP,nA,if_neg (fun q=>q (by with_reducible assumption)),if_neg (fun q=>q hz),hRL,rF,if_neg (kF (gZ (b:=cQ s R) (by with_reducible assumption))),if_pos (.inr (.inl (TQ (by with_reducible assumption))))]
   |rw[iP,nA,if_neg (fun q=>q (by with_reducible assumption)),if_neg (fun q=>q hz),hRL,rF,if_neg (kF (gZ (b:=cQ s R) (by with_reducible assumption))),if_pos (.inr (.inr (by with_reducible assumption)))]
   |(
    rw[iP,nA,if_neg (fun q=>q (by with_reducible assumption)),if_neg (fun q=>q hz),hRL,rF,if_neg (kF (gZ (b:=cQ s R) (by with_reducible assumption))),if_neg (fun x=>by
     rcases x with x|x|x
     ·exact x (TR (by with_reducible assumption))
     ·exact x (TR (by with_reducible assumption))
     ·exact x (by with_reducible assumption))]))))
abbrev qXG:Tbl:=(18,HD)::qQR
theorem qAU:aD Tryz.prog qXG:=aD.cons qON pL
theorem KJ {f:ByteArray} {b n k a:Int} {F:List Int} (h:0<=k/\k<n):rfN f b (n-k).toNat F a=if(aA f a).2.2≠0\/(aA f a).1>b then(F,a,false)else rfN f b (n-(k+1)).toNat (F++ [F[F.length-1]! +(aA f a).1]) (aA f a).2.1:=by
 rw[show(n-k).toNat=(n-(k+1)).toNat+1 by omega];rfl
theorem AQ {f:ByteArray} {rows k a:Int} {l:List Col} {z:List Zone} (h:0<=k/\k<l.length):rzN f rows (l.drop k.toNat) z a=if(dQ f a).2.2≠0\/jQ l[k.toNat]! (dQ f a).1=false\/(dQ f a).1.1≠rows then(z,a,false)else rzN f rows (l.drop (k+1).toNat) (z++ [(dQ f a).1]) (dQ f a).2.1:=by
 rw[bO l k h];rfl
abbrev rA (s:Schema) (f:ByteArray) (st:Int):List Int×Int×Bool:=rfN f st (s.1.length+1) [4] (aA f 4).2.1
abbrev rZ (s:Schema) (f:ByteArray) (st:Int):List Zone×Int×Bool:=rzN f (aA f 4).1 s.1 [] (rA s f st).2.1
theorem qY6 {s:Schema} {f:ByteArray} {st:Int} (h:(aA f 4).2.2≠0\/(aA f 4).1<1\/(aA f 4).1>1024):iW s f st=((gS,[4],st),false):=by rw[iW,if_pos h]
theorem qY7 {s:Schema} {f:ByteArray} {st a:Int} {F:List Int} {b:Bool} (h:¬((aA f 4).2.2≠0\/(aA f 4).1<1\/(aA f 4).1>1024)) (hA:rA s f st=(F,a,b)) (h2:b=false\/F[F.length-1]! ≠st) :
  iW s f st=((((aA f 4).1,[],lK,lK),F,st),false):=by
 have hA':rfN f st (s.1.length+1) [4] (aA f 4).2.1=(F,a,b):=hA;rw[iW,if_neg h,hA',rP1,if_pos h2]
theorem qUA {s:Schema} {f:ByteArray} {st a c:Int} {F:List Int} {Z:List Zone} {b:Bool} (h:¬((aA f 4).2.2≠0\/(aA f 4).1<1\/(aA f 4).1>1024)) (hA:rA s f st=(F,a,true)) (h2:¬F[F.length-1]! ≠st) (hZ:rZ s f st=(Z,c,b)) :
  iW s f st=if b=false then((((aA f 4).1,Z,lK,lK),F,st),false)else rP3 s f st (aA f 4).1 F Z (eC s f c):=by
 have hA':rfN f st (s.1.length+1) [4] (aA f 4).2.1=(F,a,true):=hA;rw[iW,if_neg h,hA',rP1,if_neg (by rintro(q|q);cases q;exact h2 q)];unfold rZ rA at hZ;rw[hA']at hZ;(try simp only at hZ ⊢);rw[hZ,rP2]
abbrev NS:Ct:=.fn [bM,.str,.int .i64] (some (fun(s:Schema) (f:ByteArray) (st:Int)=>(f.size<=288230376151711744/\4<=f.size/\0<=st/\st<=288230376151711744)/\(s.1.length<=12/\0<=s.2/\s.2<s.1.length))) (fun(s:Schema) (f:ByteArray) (st:Int)=>.tup [qZI,.bool] ((iW s f st).1,(iW s f st).2,()))
theorem qUB:aF Tryz.prog 140 NS:=by
 refine aF.fn qAU mixed [(0,1,3250025),(0,1,3250026)] [] rfl rfl ?_;rintro⟨(s:Schema),(f:ByteArray),(st:Int),_⟩ hpre;replace hpre:=hpre _ rfl;dsimp only[cu]at hpre;obtain⟨hs,hk0⟩:=hpre;refine⟨[(0,14,LA.mk [.sl 12 (.int .i64),.sl 10 (.int .i64),.row 3 [.same,.same,.same,.same,.same,.same,.same,.same,.same,.same,.ows (.int .i64) 3,.same]] (fun y=>Tag 100/\cu [.int .i64,.int .i64,.list (.int .i64)] (fun(k:Int) (a:Int) (W:List Int)=>(0<=k/\k<=((s.1.length:Int)+1))/\(rA s f st=rfN f st (((s.1.length:Int)+1)-k).toNat W a)/\((W.length:Int)=k+1)/\(0<=W[k.toNat]! /\W[k.toNat]! <=4+288230376151711744*k)) y) (cu [.int .i64,.int .i64,.list (.int .i64)] (fun(k:Int) (a:Int) (W:List Int)=>((((s.1.length:Int)+1):Int)-k).toNat)) (cu [.int .i64,.int .i64,.list (.int .i64)] (fun(k:Int) (a:Int) (W:List Int)=>([]:List (Nat×Nat×LA))))),(0,34,LA.mk [.sl 99 (.int .i64),.sl 10 (.int .i64),.row 3 [.same,.own gA 67,.same,.same,.same,.same,.same,.same,.same,.same,.same,.same]] (fun y=>Tag 101/\cu [.int .i64,.int .i64,.list gA] (fun(j:Int) (c:Int) (Z:List Zone)=>(0<=j/\j<=s.1.length)/\(rZ s f st=rzN f (aA f 4).1 (s.1.drop j.toNat) Z c)/\((Z.length:Int)=j)) y) (cu [.int .i64,.int .i64,.list gA] (fun(j:Int) (c:Int) (Z:List Zone)=>((s.1.length:Int)-j).toNat)) (cu [.int .i64,.int .i64,.list gA] (fun(j:Int) (c:Int) (Z:List Zone)=>([]:List (Nat×Nat×LA)))))],?_⟩;repeat' (first
  |(
 with_reducible refine Side.mk ⟨(⟨⟩:Tag 100),?_⟩
 dsimp only[cu,aC,aB,gts,eE,eN]
 refine⟨?_,?_,?_,?_⟩
 ·omega
 ·first
  |rfl
  |(
  have g0:=aG f 4
  have g1:=aG f a
  have hst:IntKind.u64.wrap st=st:=aN (by omega)
  have hno:¬((aA f a).2.2≠0\/(aA f a).1>st):=by
   rintro(x|x)
   ·exact x (by with_reducible assumption)
   ·omega
  rw[hw,KJ (by omega),if_neg hno,show W.length-1=k.toNat by omega])
 ·first
  |rfl
  |(
  simp only[List.length_append,List.length_cons,List.length_nil]
  omega)
 ·first
  |exact⟨by decide,by decide⟩
  |(
  have g0:=aG f 4
  have g1:=aG f a
  have hst:IntKind.u64.wrap st=st:=aN (by omega)
  have hno:¬((aA f a).2.2≠0\/(aA f a).1>st):=by
   rintro(x|x)
   ·exact x (by with_reducible assumption)
   ·omega
  rw[show(k+1).toNat=W.length by omega,getElem!_pos _ W.length (by simp),List.getElem_append_right (Nat.le_refl _)]
  simp only[Nat.sub_self,List.getElem_cons_zero]
  omega))
  |(
 with_reducible refine Side.mk ⟨(⟨⟩:Tag 101),?_⟩
 dsimp only[cu,aC,aB,gts,eE,eN]
 refine⟨?_,?_,?_⟩
 ·omega
 ·first
  |(
  have hA:rA s f st=(W,a,true):=by
   rw[hw,show(((s.1.length:Int)+1)-k).toNat=0 by omega];rfl
  show rzN f (aA f 4).1 s.1 [] (rA s f st).2.1=_
  rw[hA]
  rfl)
  |(
  have hno:¬((dQ f c).2.2≠0\/jQ s.1[j.toNat]! (dQ f c).1=false\/(dQ f c).1.1≠(aA f 4).1):=by
   rintro(x|x|x)
   ·exact x (by with_reducible assumption)
   ·exact kF (gZ (by with_reducible assumption)) x
   ·exact x (by with_reducible assumption)
  rw[hz,AQ (by omega),if_neg hno])
 ·first
  |rfl
  |(
  simp only[List.length_append,List.length_cons,List.length_nil]
  omega))
  |(
 with_reducible apply Side.mk
 (try dsimp only[cu,aC,aB,gts,loK,hiK,eE,eN])
 first
 |done
 |omega
 |exact Eq.refl _
 |simp only[List.length_append,List.length_cons,List.length_nil];omega
 |(
  have g0:=aG f 4;have g1:=aG f a;have hst:IntKind.u64.wrap st=st:=aN (by omega);omega))
  |(conv=>whnf
    first
     |with_reducible first|done|exact trivial|refine NilBr.mk (fun h=>?_) ?_|apply aI|apply aH|refine aJ (by kernel_rfl) ?_|apply aK|apply bE|apply bD|apply aQ
     |((with_reducible first|apply aS|apply aR|apply bB)<;>intro h<;>(try dsimp only[cu,eE,eN]at h)<;>(try(exfalso;omega)))
     |(
 intro yy (hy:Tag 100/\_)
 obtain⟨(k:Int),(a:Int),(W:List Int),_⟩:=yy
 replace hy:=hy.2
 dsimp only[cu,aC,aB,gts,eE,eN]at hy
 obtain⟨hk,hw,hwl,hwb⟩:=hy)
     |(
 intro yy (hy:Tag 101/\_)
 obtain⟨(j:Int),(c:Int),(Z:List Zone),_⟩:=yy
 replace hy:=hy.2
 dsimp only[cu,aC,aB,gts,eE,eN]at hy
 obtain⟨hj,hz,hzl⟩:=hy)))
 all_goals(
 with_reducible apply Leaf.mk
 (try dsimp only[cu,aC,aB,gts,eE,eN]at *)
 first
 |rw[qY6 (.inl (by with_reducible assumption))]
 |rw[qY6 (.inr (.inl (by with_reducible assumption)))]
 |rw[qY6 (.inr (.inr (by with_reducible assumption)))]
 |(
  have g0:=aG f 4;have g1:=aG f a;have hst:IntKind.u64.wrap st=st:=aN (by omega);have hn0:¬((aA f 4).2.2≠0\/(aA f 4).1<1\/(aA f 4).1>1024):=by
   rintro(x|x|x)
   ·exact x (by with_reducible assumption)
   ·exact absurd x (by with_reducible assumption)
   ·exact absurd x (by with_reducible assumption)
  first
  |(
   have hA:rA s f st=(W,a,false):=by
    rw[hw,KJ (by omega),if_pos (.inl (by with_reducible assumption))]
   rw[qY7 hn0 hA (.inl rfl)])
  |(
   have hA:rA s f st=(W,a,false):=by
    rw[hw,KJ (by omega),if_pos (.inr (by omega))]
   rw[qY7 hn0 hA (.inl rfl)]))
 |(
  have hn0:¬((aA f 4).2.2≠0\/(aA f 4).1<1\/(aA f 4).1>1024):=by
   rintro(x|x|x)
   ·exact x (by with_reducible assumption)
   ·exact absurd x (by with_reducible assumption)
   ·exact absurd x (by with_reducible assumption)
  have hA:rA s f st=(W,a,true):=by
   rw[hw,show(((s.1.length:Int)+1)-k).toNat=0 by omega];rfl
  first
  |(
   have hne:W[W.length-1]! ≠st:=by
    rw[show W.length-1=((W.length:Int)-1).toNat by omega];with_reducible assumption
   rw[qY7 hn0 hA (.inr hne)])
  |(
   have hW:W[W.length-1]! =st:=by
    rw[show W.length-1=((W.length:Int)-1).toNat by omega];with_reducible assumption
   first
   |(
    have hZ:rZ s f st=(Z,c,false):=by
     rw[hz,AQ (by omega),if_pos (.inl (by with_reducible assumption))]
    rw[qUA hn0 hA (fun x=>x hW) hZ,if_pos rfl])
   |(
    have hZ:rZ s f st=(Z,c,false):=by
     rw[hz,AQ (by omega),if_pos (.inr (.inl (FB (by with_reducible assumption))))]
    rw[qUA hn0 hA (fun x=>x hW) hZ,if_pos rfl])
   |(
    have hZ:rZ s f st=(Z,c,false):=by
     rw[hz,AQ (by omega),if_pos (.inr (.inr (by with_reducible assumption)))]
    rw[qUA hn0 hA (fun x=>x hW) hZ,if_pos rfl])
   |(
    have hZ:rZ s f st=(Z,c,true):=by
     rw[hz,List.drop_eq_nil_of_le (by omega)];rfl
    have h3:=qUA hn0 hA (fun x=>x hW) hZ;rw[if_neg (show ¬true=false from Bool.noConfusion),rP3]at h3;first
    |rw[h3,if_pos (FB (by with_reducible assumption))]
    |rw[h3,if_neg (kF (gZ (b:=(eC s f c).2.2) (by with_reducible assumption))),rP4,if_pos (.inl (FB (by with_reducible assumption)))]
    |rw[h3,if_neg (kF (gZ (b:=(eC s f c).2.2) (by with_reducible assumption))),rP4,if_pos (.inr (.inl (by with_reducible assumption)))]
    |rw[h3,if_neg (kF (gZ (b:=(eC s f c).2.2) (by with_reducible assumption))),rP4,if_pos (.inr (.inr (by with_reducible assumption)))]
    |(
     rw[h3,if_neg (kF (gZ (b:=(eC s f c).2.2) (by with_reducible assumption))),rP4,if_neg (fun x=>by
      rcases x with x|x|x
      ·exact kF (gZ (by with_reducible assumption)) x
      ·exact x (by with_reducible assumption)
      ·exact absurd x (by with_reducible assumption))])))))
abbrev qXH:Tbl:=(140,NS)::qXG
theorem qAV:aD Tryz.prog qXH:=aD.cons qUB qAU
abbrev opK (file:ByteArray):Int:=bQ file ((file.size:Int)-8)
abbrev opG (file:ByteArray):ByteArray:=file.extract ((file.size:Int)-8-opK file).toNat ((file.size:Int)-8-opK file+opK file-4).toNat
theorem EZ (s:Schema):(idS s).2=bF s:=by
 unfold idS;split
 ·rfl
 ·rename_i h;exact(Decidable.not_not.1 h).symm
theorem qdH {s:Schema} {file:ByteArray} (h:¬(idS s).2=0):iU s file=(xZ,(idS s).2):=by rw[EZ]at h ⊢;rw[iU,if_pos h]
theorem qdI {s:Schema} {file:ByteArray} (h:(idS s).2=0) (h1:file.size<12):iU s file=(xZ,10):=by rw[EZ]at h;rw[iU,if_neg (fun q=>q h),if_pos h1]
theorem qdJ {s:Schema} {file:ByteArray} (h:(idS s).2=0) (h1:¬file.size<12) (h2:(file.size:Int)<opK file+12):iU s file=(xZ,10):=by rw[EZ]at h;rw[iU,if_neg (fun q=>q h),if_neg h1,show bQ file ((file.size:Int)-8)=opK file from rfl,QA,if_pos (by omega)]
theorem qYW {s:Schema} {file:ByteArray} (h:(idS s).2=0) (h1:¬file.size<12) (h2:¬(file.size:Int)<opK file+12) (h3:¬file.extract 0 (4:Int).toNat=fC\/¬file.extract ((file.size:Int)-4).toNat file.size=fC\/opK file<8):iU s file=(xZ,2):=by
 rw[EZ]at h;rw[iU,if_neg (fun q=>q h),if_neg h1,show bQ file ((file.size:Int)-8)=opK file from rfl,QA,if_neg (by omega),if_pos];rcases h3 with q|q|q
 ·refine .inl ?_
  unfold AE;rw[show fC.size=(4:Int).toNat from rfl,decide_eq_false q,Bool.and_false]
 ·refine .inr (.inl ?_)
  unfold AW;rw[show fC.size=4 from rfl,show file.size-4=((file.size:Int)-4).toNat by omega,decide_eq_false q,Bool.and_false]
 ·exact .inr (.inr q)
theorem qYX {s:Schema} {file:ByteArray} (h:(idS s).2=0) (h1:¬file.size<12) (h2:¬(file.size:Int)<opK file+12) (h3:file.extract 0 (4:Int).toNat=fC) (h4:file.extract ((file.size:Int)-4).toNat file.size=fC) (h5:¬opK file<8):iU s file=xC s file (opG file) (opK file):=by
 rw[EZ]at h;rw[iU,if_neg (fun q=>q h),if_neg h1,show bQ file ((file.size:Int)-8)=opK file from rfl,QA,if_neg (by omega),if_neg]
 ·unfold opG
  rw[show((file.size:Int)-8-opK file+opK file-4).toNat=file.size-12 by omega]
 ·rintro(q|q|q)
  ·unfold AE at q
   rw[show fC.size=(4:Int).toNat from rfl,decide_eq_true h3,decide_eq_true (show(4:Int).toNat<=file.size by omega)]at q;cases q
  ·unfold AW at q
   rw[show fC.size=4 from rfl,show file.size-4=((file.size:Int)-4).toNat by omega,decide_eq_true h4,decide_eq_true (show 4<=file.size by omega)]at q;cases q
  ·exact h5 q
theorem qdK {s:Schema} {file:ByteArray} (h:(idS s).2=0) (h1:¬file.size<12) (h2:¬(file.size:Int)<opK file+12) (h3:file.extract 0 (4:Int).toNat=fC) (h4:file.extract ((file.size:Int)-4).toNat file.size=fC) (h5:¬opK file<8)
  (h6:¬bQ file ((file.size:Int)-8-opK file+opK file-4)=iQ (opG file)):iU s file=(xZ,9):=by
 rw[qYX h h1 h2 h3 h4 h5,xC,if_pos];rw[show(file.size:Int)-8-opK file+opK file-4=file.size-12 by omega]at h6;exact fun q=>h6 q.symm
theorem qdL {s:Schema} {file:ByteArray} (h:(idS s).2=0) (h1:¬file.size<12) (h2:¬(file.size:Int)<opK file+12) (h3:file.extract 0 (4:Int).toNat=fC) (h4:file.extract ((file.size:Int)-4).toNat file.size=fC) (h5:¬opK file<8)
  (h6:bQ file ((file.size:Int)-8-opK file+opK file-4)=iQ (opG file)) (h7:¬bQ (opG file) 0=(idS s).1):iU s file=(xZ,1):=by
 rw[show(file.size:Int)-8-opK file+opK file-4=file.size-12 by omega]at h6;have hs:=EZ s;rw[h]at hs;rw[qYX h h1 h2 h3 h4 h5,xC,if_neg (fun q=>q h6.symm),if_pos];rw[JN hs.symm]at h7;exact h7
theorem qaJ {s:Schema} {file:ByteArray} (h:(idS s).2=0) (h1:¬file.size<12) (h2:¬(file.size:Int)<opK file+12) (h3:file.extract 0 (4:Int).toNat=fC) (h4:file.extract ((file.size:Int)-4).toNat file.size=fC) (h5:¬opK file<8)
  (h6:bQ file ((file.size:Int)-8-opK file+opK file-4)=iQ (opG file)) (h7:bQ (opG file) 0=(idS s).1):iU s file=if(iW s (opG file) ((file.size:Int)-8-opK file)).2=false then(xZ,2)else((iW s (opG file) ((file.size:Int)-8-opK file)).1,0):=by
 rw[show(file.size:Int)-8-opK file+opK file-4=file.size-12 by omega]at h6;have hs:=EZ s;rw[h]at hs;rw[JN hs.symm]at h7;rw[qYX h h1 h2 h3 h4 h5,xC,if_neg (fun q=>q h6.symm),if_neg (fun q=>q h7)]
theorem qOY {s:Schema} {file:ByteArray} (h:¬(iU s file).2=0):(iU s file).1=xZ:=by
 unfold iU QA xC at *;(repeat' split)<;>simp_all
theorem qN5 {s:Schema} {file:ByteArray} (h:¬(iU s file).2=0):gS=(aV s file).1:=by
 rw[<-(cA s file).2.1,qOY h]
theorem qKI {file:ByteArray} {l:List Int} {i:Int} (h:0<=i/\i<l.length):file.extract ((offs l)[i.toNat]!).toNat ((offs l)[(i+1).toNat]!).toNat=xE file l i:=by
 unfold xE;rw[sG (by omega),sG (by omega),oO h];congr 2;omega
abbrev HX:Ct:=.fn [bM,.str] (some (fun(s:Schema) (file:ByteArray)=>(file.size<=288230376151711744))) (fun(s:Schema) (file:ByteArray)=>.tup [qZI,.int .i64] ((iU s file).1,(iU s file).2,()))
theorem qP0:aF Tryz.prog 101 HX:=by
 refine aF.fn qAV mixed [] [] rfl rfl ?_;rintro⟨(s:Schema),(file:ByteArray),_⟩ hpre;replace hpre:=hpre _ rfl;dsimp only[cu]at hpre;have hs:=hpre;refine⟨[],?_⟩;repeat' (first
  |(
 with_reducible apply Side.mk
 (try dsimp only[cu,aC,aB,gts,loK,hiK,eE,eN])
 first
 |omega
 |(
  have hK:=CR file ((file.size:Int)-8);have u4:(⟨#[77,80,84,49]⟩:ByteArray).size=4:=rfl;first
  |omega
  |(
   simp only[ByteArray.size_extract];omega)
  |(
   have hsc:=EZ s;rw[show(idS s).2=0 by with_reducible assumption]at hsc;have hkey:=JJ (s:=s) hsc.symm;simp only[ByteArray.size_extract];omega)))
  |(conv=>whnf
    first
     |with_reducible first|done|exact trivial|refine NilBr.mk (fun h=>?_) ?_|apply aI|apply aH|refine aJ (by kernel_rfl) ?_|apply aK|apply bE|apply bD|apply aQ
     |((with_reducible first|apply aS|apply aR|apply bB)<;>intro h<;>(try dsimp only[cu,eE,eN]at h)<;>(try(exfalso;omega)))))
 all_goals(
 with_reducible apply Leaf.mk
 (try dsimp only[cu,aC,aB,gts,eE,eN]at *)
 first
 |rw[qdH (by with_reducible assumption)]
 |rw[qdI (by with_reducible assumption) (by omega)]
 |rw[qdJ (by with_reducible assumption) (by omega) (by with_reducible assumption)]
 |rw[qYW (by with_reducible assumption) (by omega) (by with_reducible assumption) (.inl (by with_reducible assumption))]
 |rw[qYW (by with_reducible assumption) (by omega) (by with_reducible assumption) (.inr (.inl (by with_reducible assumption)))]
 |rw[qYW (by with_reducible assumption) (by omega) (by with_reducible assumption) (.inr (.inr (by with_reducible assumption)))]
 |rw[qdK (by with_reducible assumption) (by omega) (by with_reducible assumption) (by with_reducible assumption) (by with_reducible assumption) (by with_reducible assumption) (by with_reducible assumption)]
 |rw[qdL (by with_reducible assumption) (by omega) (by with_reducible assumption) (by with_reducible assumption) (by with_reducible assumption) (by with_reducible assumption) (by with_reducible assumption) (by with_reducible assumption)]
 |rw[qaJ (by with_reducible assumption) (by omega) (by with_reducible assumption) (by with_reducible assumption) (by with_reducible assumption) (by with_reducible assumption) (by with_reducible assumption) (by with_reducible assumption),if_pos (FB (by with_reducible assumption))]
 |(rw[qaJ (by with_reducible assumption) (by omega) (by with_reducible assumption) (by with_reducible assumption) (by with_reducible assumption) (by with_reducible assumption) (by with_reducible assumption) (by with_reducible assumption),if_neg (kF (gZ (b:=(iW s (opG file) ((file.size:Int)-8-opK file)).2) (by with_reducible assumption)))]))
abbrev qXI:Tbl:=(101,HX)::qXH
theorem qAW:aD Tryz.prog qXI:=aD.cons qP0 qAV
abbrev HT:Ct:=.fn [bM,.str] (some (fun(s:Schema) (file:ByteArray)=>(file.size<=288230376151711744))) (fun(s:Schema) (file:ByteArray)=>.tup [ER,.int .i64] ((aV s file).1,(aV s file).2.2,()))
theorem qPV:aF Tryz.prog 55 HT:=by
 refine aF.fn qAW mixed [] [] rfl rfl ?_;rintro⟨(s:Schema),(file:ByteArray),_⟩ hpre;replace hpre:=hpre _ rfl;dsimp only[cu]at hpre;have hs:=hpre;refine⟨[],?_⟩;repeat' (first
  |(
 with_reducible apply Side.mk
 (try dsimp only[cu,aC,aB,gts,loK,hiK,eE,eN])
 omega)
  |(conv=>whnf
    first
     |with_reducible first|done|exact trivial|refine NilBr.mk (fun h=>?_) ?_|apply aI|apply aH|refine aJ (by kernel_rfl) ?_|apply aK|apply bE|apply bD|apply aQ
     |((with_reducible first|apply aS|apply aR|apply bB)<;>intro h<;>(try dsimp only[cu,eE,eN]at h)<;>(try(exfalso;omega)))))
 all_goals(
 with_reducible apply Leaf.mk
 (try dsimp only[cu,aC,aB,gts,eE,eN]at *)
 first
 |exact qN5 (by with_reducible assumption)
 |(
  have hfo:=cA s file;first
  |exact hfo.2.1
  |exact hfo.1
  |(
   rw[<-hfo.1];first|done|(symm;with_reducible assumption)|(with_reducible assumption))))
abbrev qXJ:Tbl:=(55,HT)::qXI
theorem qAX:aD Tryz.prog qXJ:=aD.cons qPV qAW
abbrev yT:Ct:=.fn [bM,.str,.int .i64] (some (fun(s:Schema) (file:ByteArray) (i:Int)=>(file.size<=288230376151711744))) (fun(s:Schema) (file:ByteArray) (i:Int)=>.tup [.list bK,.int .i64] ((bZ s file i).1,(bZ s file i).2,()))
theorem qDE:aF Tryz.prog 57 yT:=by
 refine aF.fn qAX mixed [] [] rfl rfl ?_;rintro⟨(s:Schema),(file:ByteArray),(i:Int),_⟩ hpre;replace hpre:=hpre _ rfl;dsimp only[cu]at hpre;have hs:=hpre;refine⟨[],?_⟩;repeat' (first
  |(
 with_reducible apply Side.mk
 (try dsimp only[cu,aC,aB,gts,loK,hiK,eE,eN])
 first
 |omega
 |(
  have hfo:=cA s file;have hf0:(aV s file).2.2=0:=by rw[<-hfo.1];with_reducible assumption
  obtain⟨fo1,fo2,fo3,fo4,fo5,fo6⟩:=hfo.2.2 hf0;have fo7:=AA (aV s file).2.1;have fo8:=aX fo6;first
  |omega
  |(
   rw[fo1];omega)
  |(
   have hi0:0<=i/\i<(aV s file).2.1.length:=by omega
   have ho:=fo3 i hi0.1 hi0.2;have e1:=sG (l:=(aV s file).2.1) (i:=i.toNat) (by omega);have e2:=sG (l:=(aV s file).2.1) (i:=(i+1).toNat) (by omega);rw[oO hi0]at e2;rw[fo1];first
   |(
    rw[e1];omega)
   |(
    rw[e2];omega)
   |(
    rw[e1,e2,ByteArray.size_extract];omega))))
  |(conv=>whnf
    first
     |with_reducible first|done|exact trivial|refine NilBr.mk (fun h=>?_) ?_|apply aI|apply aH|refine aJ (by kernel_rfl) ?_|apply aK|apply bE|apply bD|apply aQ
     |((with_reducible first|apply aS|apply aR|apply bB)<;>intro h<;>(try dsimp only[cu,eE,eN]at h)<;>(try(exfalso;omega)))))
 all_goals(
 with_reducible apply Leaf.mk
 (try dsimp only[cu,aC,aB,gts,eE,eN]at *)
 first
 |rw[bZ,xL,if_pos (by rw[<-(cA s file).1];with_reducible assumption),<-(cA s file).1]
 |(
  have hfo:=cA s file;have hf0:(aV s file).2.2=0:=by rw[<-hfo.1];with_reducible assumption
  obtain⟨fo1,fo2,fo3,fo4,fo5,fo6⟩:=hfo.2.2 hf0;have fo7:=AA (aV s file).2.1;have fo8:=aX fo6;first
  |rw[bZ,xL,if_neg (fun q=>q hf0),if_pos (by omega)]
  |(
   have hi0:0<=i/\i<(aV s file).2.1.length:=by omega
   have hpo:=qKI (file:=file) hi0;rw[<-fo1]at hpo;rw[bZ,xL,if_neg (fun q=>q hf0),if_neg (by omega)];first
   |(
    show _=Prod.fst (dP s file (aV s file).1.1 (aV s file).2.1 i);rw[dP,<-hpo,<-hfo.2.1];first
    |(
     rw[lM,if_neg (show ¬i=s.1.length by omega)];first
     |rw[if_pos (by with_reducible assumption)]
     |rw[if_neg (fun q=>q (by with_reducible assumption)),if_pos (by with_reducible assumption)]
     |(rw[if_neg (fun q=>q (by with_reducible assumption)),if_neg (fun q=>q (by with_reducible assumption))]))
    |(
     rw[lM,if_pos (show i=s.1.length by omega)];first
     |rw[if_pos (by with_reducible assumption)]
     |rw[if_neg (fun q=>q (by with_reducible assumption)),if_pos (by with_reducible assumption)]
     |(rw[if_neg (fun q=>q (by with_reducible assumption)),if_neg (fun q=>q (by with_reducible assumption))])))
   |(
    show _=Prod.snd (dP s file (aV s file).1.1 (aV s file).2.1 i);rw[dP,<-hpo,<-hfo.2.1];first
    |(
     rw[lM,if_neg (show ¬i=s.1.length by omega)];first
     |rw[if_pos (by with_reducible assumption)]
     |rw[if_neg (fun q=>q (by with_reducible assumption)),if_pos (by with_reducible assumption)]
     |(rw[if_neg (fun q=>q (by with_reducible assumption)),if_neg (fun q=>q (by with_reducible assumption))]))
    |(
     rw[lM,if_pos (show i=s.1.length by omega)];first
     |rw[if_pos (by with_reducible assumption)]
     |rw[if_neg (fun q=>q (by with_reducible assumption)),if_pos (by with_reducible assumption)]
     |(rw[if_neg (fun q=>q (by with_reducible assumption)),if_neg (fun q=>q (by with_reducible assumption))]))))))
abbrev qQS:Tbl:=(57,yT)::qXJ
theorem pM:aD Tryz.prog qQS:=aD.cons qDE qAX
def znP (s:Schema) (V:Nat->List Val) (k:Nat):List Zone:=(List.range k).map fun c=>pR s.1[c]!.2.1 (V c)
theorem qRM (s:Schema) (V:Nat->List Val) (k:Nat):znP s V (k+1)=znP s V k++ [pR s.1[k]!.2.1 (V k)]:=by
 rw[znP,List.range_succ,List.map_append];rfl
theorem PD {f:Nat->Int}:∀ {m k:Nat},sB f m k=0->∀c,k<=c->c<k+m->f c=0
 |0,k,_,c,h1,h2=>by omega
 |m+1,k,h,c,h1,h2=>by
  rw[sB]at h;split at h
  ·rename_i q;exact absurd h q
  ·rename_i q
   by_cases e:c=k
   ·subst e;exact Decidable.not_not.1 q
   ·exact PD h c (by omega) (by omega)
theorem qVB {s:Schema} {file:ByteArray} {F:Info×List Int×Int} (h:sB (chE s file F) (s.1.length+1) 0=0):znP s (chL s file F) s.1.length=(tB s (CI s file F)).2.1:=by
 show _=eL s (CI s file F) (List.range s.1.length);unfold znP eL;apply List.map_congr_left;intro c hc;rw[List.mem_range]at hc;rw[qJO hc (mK (PD h c (Nat.zero_le _) (by omega)))]
abbrev IB:Ct:=.fn [bM,.str] (some (fun(s:Schema) (file:ByteArray)=>(file.size<=288230376151711744))) (fun(s:Schema) (file:ByteArray)=>.tup [.list eF,.int .i64] ((iP s file).1,(iP s file).2,()))
theorem qP4:aF Tryz.prog 58 IB:=by
 refine aF.fnG (T:=qQS) [(0,4,2)] [] rfl rfl ?_;rintro⟨(s:Schema),(file:ByteArray),_⟩ hpre;replace hpre:=hpre _ rfl;dsimp only[cu]at hpre;have hs:=hpre;refine⟨[],?_⟩;repeat' (first
  |(
 with_reducible refine Side.mk ⟨(⟨⟩:Tag 102),?_⟩
 dsimp only[cu,aC,aB,gts,eE,eN]
 refine⟨?_,?_,?_,?_,?_⟩
 ·omega
 ·first
  |rfl
  |(
  have hfo:=(cA s file).2.2 (by with_reducible assumption)
  obtain⟨_,fo1,fo2,fo3,fo4,fo5⟩:=hfo
  have fo6:=aX fo5
  have hci:(bZ s file i)=(dP s file (aV s file).1.1 (aV s file).2.1 i):=by rw[bZ,xL,if_neg (fun q=>q (by with_reducible assumption)),if_neg (by omega)]
  have hvi:chL s file (aV s file) i.toNat=(bZ s file i).1:=by
   rw[hci];show(dP s file (aV s file).1.1 (aV s file).2.1 ((i.toNat:Nat):Int)).1=_;rw[hic]
  rw[hY,show min (i+1).toNat s.1.length=i.toNat+1 by omega,qRM,hvi,show min i.toNat s.1.length=i.toNat by omega])
  |(
  rw[hY]
  congr 1
  omega)
 ·first
  |decide
  |(
  have hfo:=(cA s file).2.2 (by with_reducible assumption)
  obtain⟨_,fo1,fo2,fo3,fo4,fo5⟩:=hfo
  have fo6:=aX fo5
  rw[List.length_append,hY,znP,List.length_map,List.length_range]
  show _+1<=12
  omega)
  |exact hYl
 ·first
  |exact(qPP _ _ _).symm
  |(
  have hfo:=(cA s file).2.2 (by with_reducible assumption)
  obtain⟨_,fo1,fo2,fo3,fo4,fo5⟩:=hfo
  have fo6:=aX fo5
  have hci:(bZ s file i)=(dP s file (aV s file).1.1 (aV s file).2.1 i):=by rw[bZ,xL,if_neg (fun q=>q (by with_reducible assumption)),if_neg (by omega)]
  have hil:(((bZ s file i).1.length:Nat):Int)=(aV s file).1.1:=by rw[hci];exact mK (by rw[<-hci];with_reducible assumption)
  rw[hS2,show k.toNat=(aV s file).1.1.toNat by omega,QJ,show(i+1).toNat=i.toNat+1 by omega])
 ·first
  |rfl
  |(
  have hfo:=(cA s file).2.2 (by with_reducible assumption)
  obtain⟨_,fo1,fo2,fo3,fo4,fo5⟩:=hfo
  have fo6:=aX fo5
  have hci:(bZ s file i)=(dP s file (aV s file).1.1 (aV s file).2.1 i):=by rw[bZ,xL,if_neg (fun q=>q (by with_reducible assumption)),if_neg (by omega)]
  rw[he]
  exact PA (m:=((s.1.length:Int)+1)) ⟨by omega,by omega⟩ (by
   show(dP s file (aV s file).1.1 (aV s file).2.1 ((i.toNat:Nat):Int)).2=0;rw[hic,<-hci];with_reducible assumption)))
  |(
 with_reducible refine Side.mk ⟨(⟨⟩:Tag 103),?_⟩
 dsimp only[cu,aC,aB,gts,eE,eN]
 refine⟨?_,?_⟩
 ·omega
 ·first
  |exact hR
  |(
  have hfo:=(cA s file).2.2 (by with_reducible assumption)
  obtain⟨_,fo1,fo2,fo3,fo4,fo5⟩:=hfo
  have fo6:=aX fo5
  have hci:(bZ s file i)=(dP s file (aV s file).1.1 (aV s file).2.1 i):=by rw[bZ,xL,if_neg (fun q=>q (by with_reducible assumption)),if_neg (by omega)]
  have hvi:chL s file (aV s file) i.toNat=(bZ s file i).1:=by
   rw[hci];show(dP s file (aV s file).1.1 (aV s file).2.1 ((i.toNat:Nat):Int)).1=_;rw[hic]
  first
  |(
   have hi2:i.toNat<s.1.length:=by omega
   rw[hS2,show(k+1).toNat=k.toNat+1 by omega,hra,<-hvi];exact XV hkr hi2)
  |(
   have hi2:i.toNat=s.1.length:=by omega
   rw[hS2,show(k+1).toNat=k.toNat+1 by omega,hra,<-hvi];exact XW hkr hi2)))
  |(
 with_reducible apply Side.mk
 (try dsimp only[cu,aC,aB,gts,loK,hiK,eE,eN])
 first
 |done
 |omega
 |exact Eq.refl _
 |simp only[List.length_append,List.length_cons,List.length_nil];omega
 |(
  have hfo:=(cA s file).2.2 (by with_reducible assumption);obtain⟨_,fo1,fo2,fo3,fo4,fo5⟩:=hfo;have fo6:=aX fo5;omega)
 |exact⟨rfl,rfl,rfl,rfl⟩
 |exact⟨⟨rfl,rfl,rfl,rfl⟩,rfl,rfl,by simp,by decide,rfl⟩
 |(
  have hfo:=(cA s file).2.2 (by with_reducible assumption);obtain⟨_,fo1,fo2,fo3,fo4,fo5⟩:=hfo;have fo6:=aX fo5;first
  |(
   have hrl:R.length=(aV s file).1.1.toNat:=by rw[hR,fZ]
   omega)
  |(
   have hci:(bZ s file i)=(dP s file (aV s file).1.1 (aV s file).2.1 i):=by rw[bZ,xL,if_neg (fun q=>q (by with_reducible assumption)),if_neg (by omega)]
   have hil:(((bZ s file i).1.length:Nat):Int)=(aV s file).1.1:=by rw[hci];exact mK (by rw[<-hci];with_reducible assumption)
   omega))
 |(
  have hr2:rows.length=(aV s file).1.1.toNat:=hrows;omega)
 |(
  have hfo:=(cA s file).2.2 (by with_reducible assumption);obtain⟨_,fo1,fo2,fo3,fo4,fo5⟩:=hfo;have fo6:=aX fo5;have hr2:=CH (chL s file (aV s file)) s.1.length i.toNat k.toNat k.toNat;rw[<-hra]at hr2;simp only[List.length_cons,List.length_nil];omega)
 |(kernel_rfl))
  |(conv=>whnf
    first
     |refine GoV.x 7 pM mixed (gJ pM mixed [(0,4,2)] [] 4 _ _) (by exact rfl) ?_
     |refine GoV.nest (tO:=eF) (t:=bK) 7 8 1 (fun a=>a.2) 56 43 (((0,[]):Rec)) TH rfl rfl (by exact rfl) ?_
     |refine GoV.sq ?_
     |intro(nb:Nat) (no:Nat) (hS:Heap) (ιS:Iota) (wS:World)
     |intro(rows:List (List V)) (hrows:rows.length=_)
     |intro(nv:Value)
     |refine GoN.x 13 pM mixed (gJ pM mixed [(0,4,2)] [] 4 _ _) (by exact rfl) (by exact rfl) ?_
     |refine GoN.block ?_
     |refine GoN.sq ?_
     |refine GoN.loopP 7 [.sl 10 (.int .i64),.lst 9 gA 67] (fun y (R:List (Ty.den eF))=>Tag 102/\cu [.int .i64,.list gA] (fun(i:Int) (Y:List Zone)=>fun(R:List (Ty.den eF))=>(0<=i/\i<=((s.1.length:Int)+1))/\(Y=znP s (chL s file (aV s file)) (min i.toNat s.1.length))/\(Y.length<=12)/\(R=rE (chL s file (aV s file)) s.1.length (aV s file).1.1.toNat i.toNat 0)/\(sB (chE s file (aV s file)) (s.1.length+1) 0=sB (chE s file (aV s file)) (((s.1.length:Int)+1)-i).toNat i.toNat)) y R) (fun y _=>cu [.int .i64,.list gA] (fun(i:Int) (Y:List Zone)=>(((s.1.length:Int)+1)-i).toNat) y) (by exact rfl) (by exact rfl) (by exact rfl) ?_
     |refine GoAnd.mk ?_ ?_
     |refine GoN.loopF (TH _ _ _) pM mixed (gJ pM mixed [(0,4,2)] [] 4 _ _) 13 [.sl 46 (.int .i64)] (fun y (R:List (Ty.den eF))=>Tag 103/\cu [.int .i64] (fun(k:Int)=>fun(R:List (Ty.den eF))=>(0<=k/\k<=(bZ s file i).1.length)/\(R=rE (chL s file (aV s file)) s.1.length (aV s file).1.1.toNat i.toNat k.toNat)) y R) (fun y _=>cu [.int .i64] (fun(k:Int)=>((bZ s file i).1.length-k).toNat) y) (cu [.int .i64] (fun(k:Int)=>k.toNat)) (by exact rfl) (by exact rfl) ?_ ?_ ?_
     |(
 intro yy (R:List (Ty.den eF)) (hy:Tag 102/\_)
 obtain⟨(i:Int),(Y:List Zone),_⟩:=yy
 replace hy:=hy.2
 dsimp only[cu,aC,aB,gts,eE,eN]at hy
 obtain⟨hi,hY,hYl,hR,he⟩:=hy
 have hic:((i.toNat:Nat):Int)=i:=by omega)
     |(
 intro yy (R:List (Ty.den eF)) (ra:Ty.den eF) (hy:Tag 103/\_) hra
 obtain⟨(k:Int),_⟩:=yy
 replace hy:=hy.2
 dsimp only[cu,aC,aB,gts,eE,eN]at hy hra
 obtain⟨hk,hS2⟩:=hy
 have hkr:=aP hra
 rw[hS2]at hra hkr
 rw[fZ]at hkr
 replace hra:=qFT hkr hra)
     |(
 intro yy (R:List (Ty.den eF)) (hy:Tag 103/\_) hle
 obtain⟨(k:Int),_⟩:=yy
 replace hy:=hy.2
 dsimp only[cu,aC,aB,gts,eE,eN]at hy hle
 obtain⟨hk,hS2⟩:=hy
 rw[hS2,fZ]at hle
 have hfo:=(cA s file).2.2 (by with_reducible assumption)
 obtain⟨_,fo1,fo2,fo3,fo4,fo5⟩:=hfo
 have fo6:=aX fo5
 have hci:(bZ s file i)=(dP s file (aV s file).1.1 (aV s file).2.1 i):=by rw[bZ,xL,if_neg (fun q=>q (by with_reducible assumption)),if_neg (by omega)]
 have hil:(((bZ s file i).1.length:Nat):Int)=(aV s file).1.1:=by rw[hci];exact mK (by rw[<-hci];with_reducible assumption))
     |with_reducible first|done|exact trivial|refine NilBr.mk (fun h=>?_) ?_|apply aI|apply aH|refine aJ (by kernel_rfl) ?_|apply aK|apply bE|apply bD|apply aQ
     |((with_reducible first|apply aS|apply aR|apply bB)<;>intro h<;>(try dsimp only[cu,eE,eN]at h)<;>(try(exfalso;omega)))))
 all_goals(
 with_reducible apply Leaf.mk
 (try dsimp only[cu,aC,aB,gts,eE,eN]at *)
 first
 |rw[iP,nA,if_pos (by with_reducible assumption)]
 |(
  have hfo:=(cA s file).2.2 (by with_reducible assumption);obtain⟨_,fo1,fo2,fo3,fo4,fo5⟩:=hfo;have fo6:=aX fo5;first
  |(
   have hci:(bZ s file i)=(dP s file (aV s file).1.1 (aV s file).2.1 i):=by rw[bZ,xL,if_neg (fun q=>q (by with_reducible assumption)),if_neg (by omega)]
   have hfe:=PB (f:=chE s file (aV s file)) (m:=((s.1.length:Int)+1)) (i:=i) ⟨by omega,by omega⟩ (by
    show(dP s file (aV s file).1.1 (aV s file).2.1 ((i.toNat:Nat):Int)).2≠0;rw[hic,<-hci];with_reducible assumption)
   have hfe2:chE s file (aV s file) i.toNat=(bZ s file i).2:=by
    rw[hci];show(dP s file (aV s file).1.1 (aV s file).2.1 ((i.toNat:Nat):Int)).2=_;rw[hic]
   rw[hfe2,<-he]at hfe;rw[iP,nA,if_neg (fun q=>q (by with_reducible assumption)),if_pos (by rw[hfe];with_reducible assumption),hfe])
  |(
   have hie:i=((s.1.length:Int)+1):=by omega
   have hz:sB (chE s file (aV s file)) (s.1.length+1) 0=0:=by
    rw[he,show(((s.1.length:Int)+1)-i).toNat=0 by omega];rfl
   have hRL:CI s file (aV s file)=R:=by rw[hR,CI,show i.toNat=s.1.length+1 by omega]
   have hYZ:(tB s R).2.1=Y:=by rw[<-hRL,<-qVB hz,hY,show min i.toNat s.1.length=s.1.length by omega]
   have hlo:(tB s R).2.2.1=eX s R[(0:Int).toNat]!:=rfl;have hhi:(tB s R).2.2.2=eX s R[((R.length:Int)-1).toNat]!:=by
    show eX s R[R.length-1]! =_;rw[show((R.length:Int)-1).toNat=R.length-1 by omega]
   first
   |rw[iP,nA,if_neg (fun q=>q (by with_reducible assumption)),if_neg (fun q=>q hz),hRL,rF,if_pos (FB (by with_reducible assumption))]
   |rw[iP,nA,if_neg (fun q=>q (by with_reducible assumption)),if_neg (fun q=>q hz),hRL,rF,if_neg (kF (gZ (b:=cQ s R) (by with_reducible assumption))),if_pos (.inr (.inr (by rw[hYZ];exact(by with_reducible assumption))))]
   |rw[iP,nA,if_neg (fun q=>q (by with_reducible assumption)),if_neg (fun q=>q hz),hRL,rF,if_neg (kF (gZ (b:=cQ s R) (by with_reducible assumption))),if_pos (.inl (by rw[hlo];exact TQ (by with_reducible assumption)))]
   |rw[iP,nA,if_neg (fun q=>q (by with_reducible assumption)),if_neg (fun q=>q hz),hRL,rF,if_neg (kF (gZ (b:=cQ s R) (by with_reducible assumption))),if_pos (.inr (.inl (by rw[hhi];exact TQ (by with_reducible assumption))))]
   |(
    rw[iP,nA,if_neg (fun q=>q (by with_reducible assumption)),if_neg (fun q=>q hz),hRL,rF,if_neg (kF (gZ (b:=cQ s R) (by with_reducible assumption))),if_neg (fun x=>by
     rcases x with x|x|x
     ·exact x (by rw[hlo];exact TR (by with_reducible assumption))
     ·exact x (by rw[hhi];exact TR (by with_reducible assumption))
     ·exact x (by rw[hYZ];exact(by with_reducible assumption)))]))))
abbrev qXK:Tbl:=(58,IB)::qQS
theorem qAY:aD Tryz.prog qXK:=aD.cons qP4 pM
theorem qMH (c:Col):∀(N:List Bool) (R M:List Val),(asm c N R M).1.length<=M.length+N.length
 | [],R,M=>by simp [asm]
 |b::N,R,M=>by
  rw[asm];split
  ·exact Nat.zero_le _
  ·have:=qMH c N (rsV b R) (M++ [pkV b R])
   simp at this ⊢;omega
theorem qUZ (s:ByteArray) (n:Int):(eQ s n).1.length<=4096:=by
 unfold eQ;split
 ·exact Nat.zero_le _
 split
 ·exact Nat.zero_le _
 split
 ·exact Nat.zero_le _
 split
 ·exact Nat.zero_le _
 ·rw[BQ];omega
theorem qYT {s:ByteArray} {a n k:Int} (h:n<=4096):(cU s a n k).1.length<=4096:=by
 unfold cU;split
 ·split
  ·exact Nat.zero_le _
  ·exact qUZ _ _
 ·rw[List.length_replicate];omega
theorem qX1 (c:Col) (s:ByteArray):(lL c s).1.length<=4096:=by
 unfold lL;split
 ·exact Nat.zero_le _
 ·rename_i h
  split
  ·exact Nat.zero_le _
  ·unfold GN
   split
   ·exact Nat.zero_le _
   ·unfold qRV
    split
    ·exact Nat.zero_le _
    ·have h1:=qMH c (cU s (aA s (aA s 1).2.1).2.1 (aA s 1).1 (aA s (aA s 1).2.1).1).1 (eP c.2.1 (aE s (0:Int).toNat) (s.extract (cU s (aA s (aA s 1).2.1).2.1 (aA s 1).1 (aA s (aA s 1).2.1).1).2.2.toNat s.size) ((aA s 1).1-(aA s (aA s 1).2.1).1)).1 []
     have h2:=qYT (s:=s) (a:=(aA s (aA s 1).2.1).2.1) (n:=(aA s 1).1) (k:=(aA s (aA s 1).2.1).1) (by
      rcases Int.lt_or_le 4096 (aA s 1).1 with q|q
      ·exact absurd (.inr (.inr q)) h
      ·exact q)
     simp only[List.length_nil]at h1;omega
theorem qR9 (c:Col) (s:ByteArray):(nH c s).1.length<=4096:=by
 unfold nH;split
 ·exact Nat.zero_le _
 split
 ·exact Nat.zero_le _
 split
 ·exact Nat.zero_le _
 ·exact qX1 _ _
theorem qKG {b:ByteArray} (h:1<=b.size):fY (cG b)=0/\gG (cG b)=b:=by
 have hb:gG (cG b)=b:=qK0 b;refine⟨?_,hb⟩;rw[fY,if_neg (by rw[mI];omega),hb,if_neg (fun q=>q rfl)]
theorem GQ {t k:Int} {l:List Val} (hv:∀v,v∈l->okV v) (hl:l.length<=4096):(fE t k l).size<=4398046585379/\5<=(fE t k l).size:=by
 have:=EB (t:=t) (k:=k) hv hl;rw[fE,mI];omega
theorem JW {x:Int} (h:x=0):¬x≠0:=fun q=>q h
theorem IS {c:Col} {v:Val} (h:bN c v=0) (hn:v.1=true):v=NV:=by
 obtain⟨x,y,z⟩:=v;have e1:x=true:=hn;subst e1;unfold bN at h;split at h
 ·cases h
 ·split at h
  ·cases h
  ·rename_i h2
   split at h
   ·cases h
   ·rename_i h3
    have e2:z=EMP:=Decidable.not_not.1 fun q=>h2 ⟨.inl rfl,q⟩
    have e3:y=0:=Decidable.not_not.1 fun q=>h3 ⟨.inl rfl,q⟩
    subst e2 e3;rfl
def kE (c:Col):List Val->Int
 | []=>0
 |v::r=>if bN c v≠0 then bN c v else kE c r
def bst (t:Int) (l:List Val):Nat->Int->ByteArray->ByteArray
 |0,_,b=>b
 |n+1,k,b=>bst t l n (k+1) (if cH t k=true then(if b=⟨#[]⟩\/(fE t k l).size<b.size then fE t k l else b)else b)
def jN (c:Col) (l:List Val):ByteArray×Int:=
 if cB c.2.1=false then(⟨#[]⟩,1)else if l.length>4096 then(⟨#[]⟩,7)else if kE c l≠0 then(⟨#[]⟩,kE c l)else(bst c.2.1 l 4 1 ⟨#[]⟩,0)
theorem EA {c:Col} {l:List Val} {k:Int} (h:0<=k/\k<l.length):kE c (l.drop k.toNat)=if bN c l[k.toNat]! ≠0 then bN c l[k.toNat]! else kE c (l.drop (k+1).toNat):=by
 rw[bO l k h];rfl
theorem vH {c:Col}:∀ {l:List Val},kE c l=0->∀v,v∈l->bN c v=0
 | [],_,v,hv=>by cases hv
 |x::r,h,v,hv=>by
  rw[kE]at h;split at h
  ·rename_i q;exact absurd h q
  ·rename_i q
   rcases List.mem_cons.1 hv with p|p
   ·rw[p];exact Decidable.not_not.1 q
   ·exact vH h v p
theorem fK {c:Col} {v:Val} (h:bN c v=0) (hi:inI v.2.1):okV v:=by
 refine⟨?_,hi⟩;by_cases hn:v.1=true
 ·rw[IS h hn];exact Nat.zero_le _
 ·have hn:v.1=false:=by simpa using hn
  unfold bN at h;split at h
  ·cases h
  ·split at h
   ·cases h
   ·rename_i h2
    split at h
    ·cases h
    ·split at h
     ·cases h
     ·split at h
      ·cases h
      ·rename_i h5
       by_cases ht:c.2.1=3
       ·have hp:iB c.2.1 v=true:=by
          refine Decidable.not_not.1 fun q=>h5 ⟨hn,by simpa using q⟩
        unfold iB at hp;rw[if_neg (by omega),if_neg (by omega),if_neg (by omega),if_pos ht]at hp;have:=of_decide_eq_true hp;omega
       ·have e:v.2.2=EMP:=Decidable.not_not.1 fun q=>h2 ⟨.inr ht,q⟩
        rw[e];exact Nat.zero_le _
theorem yI {t:Int} {l:List Val} {k:Int} {b:ByteArray} (h:1<=k/\k<5):bst t l (5-k).toNat k b=bst t l (5-(k+1)).toNat (k+1) (if cH t k=true then(if b=⟨#[]⟩\/(fE t k l).size<b.size then fE t k l else b)else b):=by
 rw[show(5-k).toNat=(5-(k+1)).toNat+1 by omega];rfl
theorem qMP {t:Int} {l:List Val}:∀(n:Nat) (k:Int) (b:ByteArray),(b=⟨#[]⟩\/∃j,cH t j=true/\b=fE t j l)->(bst t l n k b=⟨#[]⟩\/∃j,cH t j=true/\bst t l n k b=fE t j l)
 |0,k,b,h=>h
 |n+1,k,b,h=>by
  refine qMP n (k+1) _ ?_;split
  ·rename_i hu
   split
   ·exact .inr ⟨k,hu,rfl⟩
   ·exact h
  ·exact h
abbrev MR:Ct:=.fn [pJ,.list bK] (some (fun(c:Col) (l:List Val)=>(l.length<=9223372036854775807)/\(∀v,v∈l->inI v.2.1))) (fun(c:Col) (l:List Val)=>.tup [.str,.int .i64] ((jN c l).1,(jN c l).2,()))
theorem qSJ:aF Tryz.prog 39 MR:=by
 refine aF.fn qAY mixed [] [] rfl rfl ?_;rintro⟨(c:Col),(l:List Val),_⟩ hpre;replace hpre:=hpre _ rfl;dsimp only[cu]at hpre;obtain⟨hl,hin⟩:=hpre;refine⟨[(0,12,LA.mk [.sl 21 (.int .i64)] (fun y=>Tag 104/\cu [.int .i64] (fun(i:Int)=>(0<=i/\i<=l.length)/\(kE c l=kE c (l.drop i.toNat))) y) (cu [.int .i64] (fun(i:Int)=>((l.length:Int)-i).toNat)) (cu [.int .i64] (fun(i:Int)=>([]:List (Nat×Nat×LA))))),(0,28,LA.mk [.sl 10 (.int .i64),.sl 9 .str] (fun y=>Tag 105/\cu [.int .i64,.str] (fun(k:Int) (b:ByteArray)=>(1<=k/\k<=5)/\(bst c.2.1 l 4 1 ⟨#[]⟩=bst c.2.1 l (5-k).toNat k b)/\(b.size<=4398046585379)) y) (cu [.int .i64,.str] (fun(k:Int) (b:ByteArray)=>(5-k).toNat)) (cu [.int .i64,.str] (fun(k:Int) (b:ByteArray)=>([]:List (Nat×Nat×LA)))))],?_⟩;repeat' (first
  |(
 with_reducible refine Side.mk ⟨(⟨⟩:Tag 104),?_⟩
 dsimp only[cu,aC,aB,gts,eE,eN]
 refine⟨?_,?_⟩
 ·omega
 ·first
  |rfl
  |(
  have hv:¬bN c l[i.toNat]! ≠0:=JW (by with_reducible assumption)
  rw[hc,EA (by omega),if_neg hv]))
  |(
 with_reducible refine Side.mk ⟨(⟨⟩:Tag 105),?_⟩
 dsimp only[cu,aC,aB,gts,eE,eN]
 refine⟨?_,?_,?_⟩
 ·omega
 ·first
  |rfl
  |(
  have hu:¬cH c.2.1 k=true:=by rw[show cH c.2.1 k=false by first|with_reducible assumption|exact TI (by with_reducible assumption)];exact Bool.noConfusion
  rw[hb,yI (by omega),if_neg hu])
  |(
  have hu:cH c.2.1 k=true:=by first|with_reducible assumption|exact kU (by with_reducible assumption)
  first
  |(
   have he:b=⟨#[]⟩:=by with_reducible assumption
   rw[hb,yI (by omega),if_pos hu,if_pos (.inl he)])
  |(
   have he:(fE c.2.1 k l).size<b.size:=by omega
   rw[hb,yI (by omega),if_pos hu,if_pos (.inr he)])
  |(
   have he:¬(b=⟨#[]⟩\/(fE c.2.1 k l).size<b.size):=fun q=>by
    rcases q with q|q
    ·contradiction
    ·omega
   rw[hb,yI (by omega),if_pos hu,if_neg he]))
 ·first
  |exact Nat.zero_le _
  |(
  have hch:kE c l=0:=by rw[hc,List.drop_eq_nil_of_le (by omega)];rfl
  have hok:∀v,v∈l->okV v:=fun v hv=>fK (vH hch v hv) (hin v hv)
  have hbs:=GQ (t:=c.2.1) (k:=k) hok (by omega)
  omega))
  |(
 with_reducible apply Side.mk
 (try dsimp only[cu,aC,aB,gts,loK,hiK,eE,eN])
 first
 |omega
 |(
  have hch:kE c l=0:=by rw[hc,List.drop_eq_nil_of_le (by omega)];rfl
  have hok:∀v,v∈l->okV v:=fun v hv=>fK (vH hch v hv) (hin v hv)
  exact⟨by omega,hok⟩))
  |(conv=>whnf
    first
     |with_reducible first|done|exact trivial|refine NilBr.mk (fun h=>?_) ?_|apply aI|apply aH|refine aJ (by kernel_rfl) ?_|apply aK|apply bE|apply bD|apply aQ
     |((with_reducible first|apply aS|apply aR|apply bB)<;>intro h<;>(try dsimp only[cu,eE,eN]at h)<;>(try(exfalso;omega)))
     |(
 intro yy (hy:Tag 104/\_)
 obtain⟨(i:Int),_⟩:=yy
 replace hy:=hy.2
 dsimp only[cu,aC,aB,gts,eE,eN]at hy
 obtain⟨hi,hc⟩:=hy)
     |(
 intro yy (hy:Tag 105/\_)
 obtain⟨(k:Int),(b:ByteArray),_⟩:=yy
 replace hy:=hy.2
 dsimp only[cu,aC,aB,gts,eE,eN]at hy
 obtain⟨hk,hb,hz⟩:=hy)))
 all_goals(
 with_reducible apply Leaf.mk
 (try dsimp only[cu,aC,aB,gts,eE,eN]at *)
 first
 |(
  have hkn:cB c.2.1=false:=by first|with_reducible assumption|exact TI (by with_reducible assumption)
  rw[jN,if_pos hkn])
 |(
  have hkn:¬cB c.2.1=false:=by rw[show cB c.2.1=true by first|with_reducible assumption|exact kU (by with_reducible assumption)];exact Bool.noConfusion
  first
  |(
   have h4:l.length>4096:=by omega
   rw[jN,if_neg hkn,if_pos h4])
  |(
   have h4:¬l.length>4096:=by omega
   have hv:bN c l[i.toNat]! ≠0:=by with_reducible assumption
   have hce:kE c l=bN c l[i.toNat]!:=by rw[hc,EA (by omega),if_pos hv]
   rw[jN,if_neg hkn,if_neg h4,hce,if_pos hv])
  |(
   have hch:kE c l=0:=by rw[hc,List.drop_eq_nil_of_le (by omega)];rfl
   have hok:∀v,v∈l->okV v:=fun v hv=>fK (vH hch v hv) (hin v hv)
   have h4:¬l.length>4096:=by omega
   rw[jN,if_neg hkn,if_neg h4,if_neg (JW hch),hb,show(5-k).toNat=0 by omega];first|done|rfl)))
abbrev qXL:Tbl:=(39,MR)::qXK
theorem qAZ:aD Tryz.prog qXL:=aD.cons qSJ qAY
end Go.Proofs.YtcjiefknhfhmkaaGreatDoor
