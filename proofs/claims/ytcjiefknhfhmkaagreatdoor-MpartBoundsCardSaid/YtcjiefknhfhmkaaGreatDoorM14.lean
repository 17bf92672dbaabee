import Derived.Below
import Derived.Test.YtcjiefknhfhmkaaGreatDoorM13
namespace Go.Proofs.YtcjiefknhfhmkaaGreatDoor
open Go.Abs
set_option maxRecDepth 100000
set_option maxHeartbeats 4000000
set_option linter.unusedVariables false
set_option linter.unusedSimpArgs false
def pP:Nat->Int->Src->Schema->List Rec
 |0,_,_,_=>[]
 |n+1,m,q,x=>((m,(eR x.1 q).1):Rec)::pP n (m+(1+Src.pick (eR x.1 q).2 3)) (Src.next (eR x.1 q).2) x
theorem RM {k m:Int} {q:Src} {x:Schema} (h:0<k):pP k.toNat m q x=((m,(eR x.1 q).1):Rec)::pP (k-1).toNat (m+(1+Src.pick (eR x.1 q).2 3)) (Src.next (eR x.1 q).2) x:=by
 rw[show k.toNat=(k-1).toNat+1 by omega];rfl
def QH (x:Schema) (l:List Int) (n:Int):List Rec:=pP (Src.pick (Src.next (l,0)) (n+1)).toNat (Src.pick (l,0) 5) (Src.next (Src.next (l,0))) x
def QI (x:Schema) (l:List Int) (n:Int):List Rec:=eD x (QH x l n)
theorem JN:∀(cs:List Col) (q:Src),lM q->(∀v,v∈(eR cs q).1->inI v.2.1)/\lM (eR cs q).2
 | [],q,h=>⟨(fun v hv=>by cases hv),h⟩
 |c::cs,q,h=>by
  have h1:=qDQ c h;have h2:=JN cs _ h1.2;refine⟨fun v hv=>?_,h2.2⟩;rcases List.mem_cons.1 hv with e|e
  ·rw[e];exact h1.1.2
  ·exact h2.1 v e
theorem KI:∀(n:Nat) (m:Int) (q:Src) (x:Schema),lM q->wZ (pP n m q x)
 |0,_,_,_,_,r,hr=>by cases hr
 |n+1,m,q,x,h,r,hr=>by
  have h1:=JN x.1 q h;rcases List.mem_cons.1 hr with e|e
  ·rw[e];exact h1.1
  ·exact KI n _ _ x (gZ h1.2) r e
theorem SG {s:Schema} {l:List Rec}:∀r,r∈eD s l->r∈l:=by
 unfold eD;split;case isFalse=>intro r hr;cases hr
 have go:∀(l o:List Rec) (r:Rec),r∈l.foldl (fW s) o->r∈o\/r∈l:=by
  intro l;induction l with
  |nil=>intro o r h;exact .inl h
  |cons x l ih=>
   intro o r h;rcases ih _ r h with q|q
   ·unfold fW at q
    simp only[List.mem_append,List.mem_singleton]at q;rcases q with(q|q)|q
    ·exact .inl (List.mem_of_mem_take q)
    ·exact .inr (by rw[q];exact List.mem_cons_self ..)
    ·exact .inl (List.mem_of_mem_drop q)
   ·exact .inr (List.mem_cons_of_mem _ q)
 intro r hr;rcases go l [] r hr with q|q
 ·cases q
 ·exact q
theorem qI6 {s:Schema} {l:List Rec}:(eD s l).length<=l.length:=by
 unfold eD;split
 ·have go:∀(l o:List Rec),(l.foldl (fW s) o).length=o.length+l.length:=by
    intro l;induction l with
    |nil=>intro o;rfl
    |cons x l ih=>intro o;rw[List.foldl_cons,ih,qX,List.length_cons];omega
  rw[go];simp
 ·exact Nat.zero_le _
theorem ET:∀(n:Nat) (m:Int) (q:Src) (x:Schema),(pP n m q x).length=n
 |0,_,_,_=>rfl
 |n+1,m,q,x=>by rw[pP,List.length_cons,ET n]
theorem QJ {x:Schema} {l:List Int} {n:Int} (h:∀v,v∈l->inI v):wZ (QI x l n):=fun r hr=>KI _ _ _ _ (gZ (gZ (show lM (l,0)from h))) r (SG r hr)
theorem JM {x:Schema} {l:List Int} {n:Int} (h:0<=n/\n<=1000):((QI x l n).length:Int)<=n:=by
 have h1:=qI6 (s:=x) (l:=QH x l n);have h2:(QH x l n).length=_:=ET _ _ _ _;have h3:=Src.pick_lt (s:=Src.next (l,0)) (n:=n+1) (by omega);have h4:(QI x l n).length<=(QH x l n).length:=h1;omega
abbrev BY:Ct:=.fn [cG,.list (.int .i64),.int .i64] (some (fun(x:Schema) (l:List Int) (n:Int)=>(x.1.length<=1000)/\(l.length<=4611686018427387904)/\(0<=n/\n<=1000))) (fun(x:Schema) (l:List Int) (n:Int)=>.d (.list iW) (QI x l n))
theorem qHJ:aG Tryz.prog 15 BY:=by
 refine aG.fn TF mixed [] [] rfl rfl ?_;rintro⟨(x:Schema),(l:List Int),(n:Int),_⟩ hpre;replace hpre:=hpre _ rfl;dsimp only[cu]at hpre;obtain⟨hx,hl0,hn⟩:=hpre;have hp0:=Src.pick_lt (s:=(l,0)) (n:=5) (by omega);have hp1:=Src.pick_lt (s:=Src.next (l,0)) (n:=n+1) (by omega);refine⟨[(0,10,LA.mk [.sl 10 (.int .i64),.sl 9 (.int .i64),.lst 8 iW 56,.ob 1 nO 124] (fun y=>Tag 78/\cu [.int .i64,.int .i64,.list iW,nO] (fun(k:Int) (m:Int) (M:List Rec) (q:Src)=>(0<=k/\k<=1001)/\(Src.ok q)/\(QH x l n=M++pP k.toNat m q x)/\((M.length:Int)<=1001-k)/\(0<=m/\m<=5+4*(1001-k))) y) (cu [.int .i64,.int .i64,.list iW,nO] (fun(k:Int) (m:Int) (M:List Rec) (q:Src)=>k.toNat)) (cu [.int .i64,.int .i64,.list iW,nO] (fun(k:Int) (m:Int) (M:List Rec) (q:Src)=>([]:List (Nat×Nat×LA)))))],?_⟩;repeat' (first
  |(
 with_reducible refine Side.mk ⟨(⟨⟩:Tag 78),?_⟩
 dsimp only[cu,aB,aA,gts,eE,eN]
 refine⟨?_,?_,?_,?_,?_⟩
 ·omega
 ·(repeat (first|assumption|exact Src.ok_from (by omega)|apply Src.ok_next|apply gN|apply oT))
 ·first
  |rfl
  |(
  rw[hm,RM (by omega),List.append_assoc]
  rfl)
 ·first
  |simp only[List.length_nil];omega
  |simp only[List.length_append,List.length_cons,List.length_nil];omega
 ·first
  |omega
  |(
  have:=Src.pick_lt (s:=(eR x.1 q).2) (n:=3) (by decide)
  omega))
  |(
 with_reducible apply Side.mk
 (try dsimp only[cu,aB,aA,gts,loK,hiK,eE,eN])
 first
 |done
 |omega
 |exact Eq.refl _
 |simp only[List.length_append,List.length_cons,List.length_nil];omega
 |(
  refine⟨?_,by first|decide|exact FJ (by omega)⟩
  (repeat (first|assumption|exact Src.ok_from (by omega)|apply Src.ok_next|apply gN|apply oT));done)
 |exact⟨by(repeat (first|assumption|exact Src.ok_from (by omega)|apply Src.ok_next|apply gN|apply oT)),by assumption⟩
 |(have:=Src.pick_lt (s:=(eR x.1 q).2) (n:=3) (by decide);omega))
  |(conv=>whnf
    first
     |with_reducible first|done|exact trivial|refine NilBr.mk (fun h=>?_) ?_|apply aJ|apply aI|refine aK (by kernel_rfl) ?_|apply aL|apply bC|apply bB|apply aO
     |((with_reducible first|apply aQ|apply aP|apply bA)<;>intro h<;>(try dsimp only[cu,eE,eN]at h)<;>(try(exfalso;omega)))
     |(
 intro yy (hy:Tag 78/\_)
 obtain⟨(k:Int),(m:Int),(M:List Rec),(q:Src),_⟩:=yy
 replace hy:=hy.2
 dsimp only[cu,aB,aA,gts,eE,eN]at hy
 obtain⟨hk,hq,hm,hml,hmb⟩:=hy)))
 all_goals(
 with_reducible apply Leaf.mk
 (try dsimp only[cu,aB,aA,gts,eE,eN]at *)
 rw[QI,hm,show k.toNat=0 by omega,pP,List.append_nil])
abbrev qQ2:Tbl:=(15,BY)::qOB
theorem qJE:aC Tryz.prog qQ2:=aC.cons qHJ TF
def MI (c:Col):Prop:=cB c.2.1=true/\gA c=true
theorem qDP (s:Src) (n:Int):MI (DW s n).1/\(DW s n).1.1=ABCD.extract (n-1).toNat n.toNat:=by
 have h:=Src.pick_lt (s:=s) (n:=5) (by decide);have h4:=Src.pick_lt (s:=Src.next (Src.next s)) (n:=4) (by decide);unfold DW MI;split
 ·refine⟨⟨?_,?_⟩,rfl⟩
  ·simp [cB];omega
  ·simp [gA];omega
 ·refine⟨⟨?_,?_⟩,rfl⟩
  ·simp [cB];omega
  ·simp [gA]
theorem DX:∀(n:Nat) (s:Src) (acc:List Col),∃r,(lF n s acc).1=acc++r/\r.length=n/\∀i,i<n->MI r[i]! /\r[i]!.1=ABCD.extract (n-i-1) (n-i)
 |0,s,acc=>⟨[],by simp [lF],rfl,fun i h=>by omega⟩
 |n+1,s,acc=>by
  obtain⟨r,h1,h2,h3⟩:=DX n (DW s (n+1)).2 (acc++ [(DW s (n+1)).1]);refine⟨(DW s (n+1)).1::r,by rw[lF,h1];simp,by simp [h2],fun i hi=>?_⟩;obtain⟨g1,g2⟩:=qDP s (n+1);cases i with
  |zero=>
   refine⟨g1,?_⟩;have e1:((n:Int)+1-1).toNat=n+1-0-1:=by omega
   have e2:((n:Int)+1).toNat=n+1-0:=by omega
   rw[<-e1,<-e2];exact g2
  |succ i=>
   have:=h3 i (by omega);rw[show n+1-(i+1)-1=n-i-1 by omega,show n+1-(i+1)=n-i by omega];exact this
theorem VB:∀a:Nat,a<4->lQ (ABCD.extract a (a+1))=true:=by
 intro a h;obtain rfl|rfl|rfl|rfl:a=0\/a=1\/a=2\/a=3:=by omega
 all_goals rfl
theorem VA:∀a b:Nat,a<4->b<4->a≠b->¬ABCD.extract a (a+1)=ABCD.extract b (b+1):=by
 intro a b h1 h2 h3;obtain rfl|rfl|rfl|rfl:a=0\/a=1\/a=2\/a=3:=by omega
 all_goals(obtain rfl|rfl|rfl|rfl:b=0\/b=1\/b=2\/b=3:=by omega)
 all_goals first|(exfalso;exact h3 rfl)|decide
theorem qT {α:Type} [Inhabited α] (f:Int->α->Int):∀(l:List α) (k:Int),(∀i:Nat,i<l.length->f (k+i) l[i]! =0)->bL f k l=0
 | [],k,_=>rfl
 |x::l,k,h=>by
  have h0:=h 0 (by simp);have e:f k x=0:=by simpa using h0
  rw[bL,if_pos e];refine qT f l (k+1) (fun i hi=>?_);have:=h (i+1) (by simp;omega);rw[show k+1+(i:Int)=k+((i+1:Nat):Int)by omega];simpa using this
theorem GC (l:List Int):aX (aV l)=0/\1<=(aV l).1.length/\(aV l).1.length<=4/\∀i,i<(aV l).1.length->cB (aV l).1[i]!.2.1=true:=by
 have hp:=Src.pick_lt (s:=(l,0)) (n:=4) (by decide);obtain⟨r,h1,h2,h3⟩:=DX (1+Src.pick (l,0) 4).toNat (Src.next (l,0)) [];have hc:(aV l).1=r:=by simpa [aV]using h1
 have hk:(aV l).2=Src.pick (lF (1+Src.pick (l,0) 4).toNat (Src.next (l,0)) []).2 r.length:=by
  have e:(lF (1+Src.pick (l,0) 4).toNat (Src.next (l,0)) []).1=r:=by simpa using h1
  rw[<-e];rfl
 have hlen:r.length=(1+Src.pick (l,0) 4).toNat:=h2;have hkey:=Src.pick_lt (s:=(lF (1+Src.pick (l,0) 4).toNat (Src.next (l,0)) []).2) (n:=(r.length:Int)) (by omega);have herr:bL (dB r) 0 r=0:=by
  refine qT _ _ _ (fun i hi=>?_);obtain⟨⟨g1,g2⟩,g3⟩:=h3 i (by omega);have hnm:=VB ((1+Src.pick (l,0) 4).toNat-i-1) (by omega);rw[show(1+Src.pick (l,0) 4).toNat-i-1+1=(1+Src.pick (l,0) 4).toNat-i by omega]at hnm;have hidx:¬nE r[i]!.1 r 0<0+(i:Int):=by
   rw[Int.zero_add];have:=qP (name:=r[i]!.1) (l:=r) (k:=(i:Int)) (by omega) (by simp) (fun j hj=>by
    obtain⟨_,q⟩:=h3 j (by omega);rw[q,g3];have:=VA ((1+Src.pick (l,0) 4).toNat-j-1) ((1+Src.pick (l,0) 4).toNat-i-1) (by omega) (by omega) (by omega);rw[show(1+Src.pick (l,0) 4).toNat-j-1+1=(1+Src.pick (l,0) 4).toNat-j by omega,show(1+Src.pick (l,0) 4).toNat-i-1+1=(1+Src.pick (l,0) 4).toNat-i by omega]at this;exact this)
   exact this
  unfold dB;rw[g3,hnm,<-g3];simp only[if_neg hidx,g1,g2];simp
 refine⟨?_,by rw[hc];omega,by rw[hc];omega,fun i hi=>?_⟩
 ·unfold aX
  rw[hc,hk,herr];rw[if_neg (by omega),if_neg (by omega),if_neg (by simp),if_neg (by omega)]
 ·rw[hc]at hi ⊢
  exact(h3 i (by omega)).1.1
theorem FF {a b:ByteArray}:lW a b=0↔a=b:=by
 unfold lW;split
 ·rename_i h
  exact⟨fun q=>absurd q (by decide),fun q=>absurd h (by rw[q];exact kN b)⟩
 ·split
  ·rename_i h;exact⟨fun _=>h,fun _=>rfl⟩
  ·rename_i h;exact⟨fun q=>absurd q (by decide),fun q=>absurd q h⟩
theorem yA {a b:ByteArray}:lW a b<0↔dO a b=true:=by
 unfold lW;split
 ·rename_i h;exact⟨fun _=>h,fun _=>by decide⟩
 ·rename_i h
  split
  ·exact⟨fun q=>absurd q (by decide),fun q=>absurd q h⟩
  ·exact⟨fun q=>absurd q (by decide),fun q=>absurd q h⟩
theorem qEO {a b:ByteArray}:lW a b>0↔dO b a=true:=by
 constructor
 ·intro h
  rcases ZE a b with q|q|q
  ·have:=yA.2 q;omega
  ·have:=FF.2 q;omega
  ·exact q
 ·intro h
  rcases Int.lt_trichotomy (lW a b) 0 with q|q|q
  ·exact absurd (yA.1 q) (SE h)
  ·rw[FF.1 q]at h;exact absurd h (kN b)
  ·exact q
theorem QG {a b:Int}:gT a b=0↔a=b:=by unfold gT;split;omega;split<;>omega
theorem JI {a b:Int}:gT a b<0↔a<b:=by unfold gT;split;omega;split<;>omega
theorem JH {a b:Int}:gT a b>0↔a>b:=by unfold gT;split;omega;split<;>omega
theorem qTJ {t:Int} {a b:Val}:cT t a b=0↔a.1=b.1/\(a.1=false->if t=3 then a.2.2=b.2.2 else a.2.1=b.2.1):=by
 unfold cT;obtain⟨x,y,z⟩:=a;obtain⟨u,v,w⟩:=b;by_cases h:t=3<;>cases x<;>cases u<;>simp [h,FF,QG]
theorem qTK {t:Int} {a b:Val}:cT t a b>0↔cT t b a<0:=by
 unfold cT;obtain⟨x,y,z⟩:=a;obtain⟨u,v,w⟩:=b;by_cases h:t=3<;>cases x<;>cases u<;>simp [h,yA,JI]
 ·exact qEO
 ·exact JH
theorem qFO {s:Schema} {l:List Rec} (h:FW s l=true) {i:Nat} (hi:i+1<l.length):iK s l[i]! l[i+1]! <0:=
 of_decide_eq_true (List.all_eq_true.1 h i (List.mem_range.2 (by omega)))
theorem qQV {t:Int} {a b:Rank} (h:jQ t a b>0):jQ t b a<0:=by
 unfold jQ at *;by_cases p:cT t a.1 b.1=0
 ·have p2:cT t b.1 a.1=0:=by
    obtain⟨q1,q2⟩:=qTJ.1 p;refine qTJ.2 ⟨q1.symm,fun q=>?_⟩;have:=q2 (q1.trans q);split at this
    ·rename_i e;rw[if_pos e];exact this.symm
    ·rename_i e;rw[if_neg e];exact this.symm
  rw[if_neg (fun q=>q p)]at h;rw[if_neg (fun q=>q p2)];have:=JH.1 h;exact JI.2 this
 ·rw[if_pos p]at h
  have:=qTK.1 h;rw[if_pos (by omega)];exact this
theorem qQW {t:Int} {a b:Rank} (h:a.2≠b.2):jQ t a b≠0:=by
 unfold jQ;split
 ·assumption
 ·exact fun q=>h (QG.1 q)
theorem zI {s:Schema} {r:Rec} {l:List Rec}:∀n:Nat,iL s r l n<=n/\(iL s r l n=0\/¬iK s r l[iL s r l n-1]! <0)/\∀i:Nat,iL s r l n<=i->i<n->iK s r l[i]! <0
 |0=>⟨Nat.le_refl _,.inl rfl,fun i _ h=>absurd h (Nat.not_lt_zero _)⟩
 |n+1=>by
  obtain⟨h1,h2,h3⟩:=zI (s:=s) (r:=r) (l:=l) n;rw[iL];split
  ·rename_i q
   refine⟨by omega,h2,fun i hi hn=>?_⟩;rcases Nat.lt_or_eq_of_le (Nat.le_of_lt_succ hn)with e|e
   ·exact h3 i hi e
   ·rw[e];exact q
  ·rename_i q
   exact⟨Nat.le_refl _,.inr (by rw[Nat.add_sub_cancel];exact q),fun i hi hn=>by omega⟩
theorem qLG {s:Schema} {o:List Rec} {r:Rec} (ho:FW s o=true) (hr:∀i:Nat,i<o.length->iK s r o[i]! ≠0):FW s (fW s o r)=true:=by
 obtain⟨h1,h2,h3⟩:=zI (s:=s) (r:=r) (l:=o) o.length;have hlen:=qX s o r;unfold fW at hlen ⊢;generalize iL s r o o.length=j at h1 h2 h3 hlen;have lt:(o.take j).length=j:=by rw[List.length_take];omega
 have ga:∀k:Nat,k<j->(o.take j++ [r]++o.drop j)[k]! =o[k]!:=fun k hk=>by
  rw[List.getElem!_eq_getElem?_getD,List.getElem!_eq_getElem?_getD,List.append_assoc,List.getElem?_append_left (by omega),List.getElem?_take,if_pos hk]
 have gb:(o.take j++ [r]++o.drop j)[j]! =r:=by
  rw[List.getElem!_eq_getElem?_getD,List.append_assoc,List.getElem?_append_right (by omega),lt,Nat.sub_self];rfl
 have gc:∀k:Nat,j<k->k<=o.length->(o.take j++ [r]++o.drop j)[k]! =o[k-1]!:=fun k hk hl=>by
  have hl2:(o.take j++ [r]).length=j+1:=by rw[List.length_append,lt];rfl
  rw[List.getElem!_eq_getElem?_getD,List.getElem!_eq_getElem?_getD,List.getElem?_append_right (by omega),hl2,List.getElem?_drop,show j+(k-(j+1))=k-1 by omega]
 refine qFP fun i hi hn=>?_
 rw[hlen]at hn;rcases Nat.lt_trichotomy i j with q|q|q
 ·rw[ga _ (by omega),ga _ q]
  have:=qFO ho (i:=i-1) (by omega);rwa [Nat.sub_add_cancel hi]at this
 ·subst q
  rw[ga _ (by omega),gb];rcases h2 with e|e
  ·omega
  ·exact qQV (by have:=hr (i-1) (by omega);show iK s r o[i-1]! >0;omega)
 ·by_cases e:i=j+1
  ·subst e
   rw[Nat.add_sub_cancel,gb,gc _ (by omega) (by omega),Nat.add_sub_cancel];exact h3 j (Nat.le_refl _) (by omega)
  ·rw[gc _ (by omega) (by omega),gc _ q (by omega)]
   have:=qFO ho (i:=i-1-1) (by omega);rwa [Nat.sub_add_cancel (by omega)]at this
theorem RF {s:Schema} {r:Rec} (hs:aX s=0) (h:gR s r=true):(fR s r).2=r.1:=by
 have hk:=aU hs;simp only[gR,Bool.and_eq_true,decide_eq_true_eq]at h;have hl:r.2.length=s.1.length:=by
  have:=h.2;unfold jR at this;split at this
  ·cases this
  ·rename_i q;omega
 unfold fR;rw[if_neg (by omega)]
theorem qLH {s:Schema} {o:List Rec} {r x:Rec} (h:x∈fW s o r):x=r\/x∈o:=by
 unfold fW at h;simp only[List.mem_append,List.mem_singleton]at h;rcases h with(q|q)|q
 ·exact .inr (List.mem_of_mem_take q)
 ·exact .inl q
 ·exact .inr (List.mem_of_mem_drop q)
theorem lR {n:Nat} {v:Int} (h0:0<=v) (h:v<128^(n+1)) (hn:n<=9):(put v).length<=n+1:=by
 rw[put,xV n v h0 h 9 hn];exact(EH n v).1
theorem EB (c:Col):12<=most c/\most c<=67:=by unfold most;split<;>omega
theorem pW (c:Col):10<=stored c/\stored c<=65:=by unfold stored;split<;>omega
theorem qJY {c:Col} {v:Val} (h:bK c v=0) (hn:v.1=false):if c.2.1=3 then v.2.1=0/\v.2.2.size<=64 else v.2.2.size=0:=by
 unfold bK at h;split at h
 ·cases h
 split at h
 ·cases h
 rename_i h1;split at h
 ·cases h
 rename_i h2;split at h
 ·cases h
 split at h
 ·cases h
 rename_i h4;split
 ·rename_i e
  refine⟨?_,?_⟩
  ·by_cases q:v.2.1=0
   ·exact q
   ·exact absurd ⟨.inr e,q⟩ h2
  ·cases q:cH c.2.1 v with
   |false=>exact absurd ⟨hn,q⟩ h4
   |true=>
    unfold cH at q;rw[e]at q;simpa using q
 ·rename_i e
  by_cases q:v.2.2=EMP
  ·rw[q];rfl
  ·exact absurd ⟨.inr e,q⟩ h1
theorem qTQ:fE 0=0:=rfl
theorem MZ {c:Col} {v:Val} (h:bK c v=0\/v=dM):((rG v).size:Int)<=most c:=by
 have hm:=EB c;cases hn:v.1 with
 |true=>
  rw[rG,if_pos hn];show(1:Int)<=_;omega
 |false=>
  have hv:bK c v=0:=by
   rcases h with h|h
   ·exact h
   ·rw[h]at hn;cases hn
  have hs:=qJY hv hn;rw[VO hn];have s1:(⟨#[1]⟩:ByteArray).size=1:=rfl;simp only[ByteArray.size_append,aT];have p1:=aY (fE v.2.1);split at hs
  ·rename_i e
   rw[hs.1,qTQ];have p2:=lR (n:=0) (v:=0) (by decide) (by decide) (by decide);have p3:=lR (n:=0) (v:=(v.2.2.size:Int)) (by omega) (by have:=hs.2;show _<(128:Int);omega) (by decide);have e2:most c=67:=if_pos e;rw[e2];have:=hs.2;omega
  ·have p3:=lR (n:=0) (v:=(v.2.2.size:Int)) (by omega) (by show _<(128:Int);omega) (by decide)
   omega
theorem qPE {c:Col} {v:Val} (h:bK c v=0) (hn:v.1=false):((plV c.2.1 v).size:Int)<=stored c:=by
 have hs:=qJY h hn;unfold plV;split at hs
 ·rename_i e
  rw[if_pos e];have p3:=lR (n:=0) (v:=(v.2.2.size:Int)) (by omega) (by have:=hs.2;show _<(128:Int);omega) (by decide);have e2:stored c=65:=if_pos e;rw[e2,ByteArray.size_append,aT];have:=hs.2;have p4:(put (v.2.2.size:Int)).length<=1:=p3;have p5:v.2.2.size=v.2.2.size:=rfl;omega
 ·rename_i e
  rw[if_neg e,aT];have p1:=aY (fE v.2.1);have:=pW c;omega
theorem qHZ {c:Col}:∀ {l:List Val},(∀v,v∈l->bK c v=0/\v.1=false)->((plL c.2.1 l).size:Int)<=l.length*stored c
 | [],_=>by
   have:(plL c.2.1 []).size=0:=rfl;rw[this];simp
 |v::l,h=>by
  have h1:=qPE (h v (List.mem_cons_self ..)).1 (h v (List.mem_cons_self ..)).2;have h2:=qHZ (l:=l) fun x hx=>h x (List.mem_cons_of_mem _ hx)
  have e:plL c.2.1 (v::l)=plV c.2.1 v++plL c.2.1 l:=rfl;rw[e,ByteArray.size_append,List.length_cons,Int.natCast_add,Int.natCast_add,Int.add_mul];have:((1:Nat):Int)*stored c=stored c:=Int.one_mul _;omega
theorem BI (t:Int) (P:List Val):∀(L:List Int) (q:Int),(gB t (qC t P L q) P).size<=(gB t q P).size
 | [],q=>Nat.le_refl _
 |k::L,q=>by
  rw[qC];by_cases h:(gB t k P).size<(gB t q P).size
  ·rw[if_pos h];exact Nat.le_trans (BI t P L k) (Nat.le_of_lt h)
  ·rw[if_neg h];exact BI t P L q
theorem qGS {c:Col} {l:List Val} (h0:1<=l.length) (hl:l.length<=1024) (hv:∀v,v∈l->bK c v=0):((fK c l).1.size:Int)<=9+((l.length:Int)+7)/8+l.length*stored c:=by
 have hk:=IO (hv l[0] (List.getElem_mem _));rw[AJ (by rw[hk];exact Bool.noConfusion) (by omega) (LQ hv)];have hb:=BI c.2.1 (bT l) ((kA c.2.1).drop (Int.toNat 1)) 1;have hp:gB c.2.1 1 (bT l)=plL c.2.1 (bT l):=rfl;rw[hp]at hb;have hsl:=eM l;have hp2:=qHZ (c:=c) (l:=bT l) fun v h=>by
  obtain⟨m1,m2⟩:=List.mem_filter.1 h;exact⟨hv v m1,by simpa using m2⟩
 have hst:=pW c;have hm:((bT l).length:Int)*stored c<=l.length*stored c:=Int.mul_le_mul_of_nonneg_right (by omega) (by omega);have p1:=lR (n:=1) (v:=(l.length:Int)) (by omega) (by show _<(16384:Int);omega) (by decide);have p2:=lR (n:=1) (v:=(l.length:Int)-(bT l).length) (by omega) (by show _<(16384:Int);omega) (by decide);have hB:(zM (dR l)).size=((l.length:Int)+7)/8:=by
  unfold zM;rw[aT,kF,Int.tdiv_eq_ediv_of_nonneg (by omega)];have:(dR l).length=l.length:=by simp [dR]
  rw[this];omega
 show((cV c.2.1 (qC c.2.1 (bT l) ((kA c.2.1).drop (Int.toNat 1)) 1) l).size:Int)<=_;generalize qC c.2.1 (bT l) ((kA c.2.1).drop (Int.toNat 1)) 1=k at hb;unfold cV;rw[kP];have hh:(oA k l).size=1+(put (l.length:Int)).length+(put ((l.length:Int)-(bT l).length)).length:=by
  unfold oA;simp only[ByteArray.size_append,aT,List.length_cons,List.length_nil]
 by_cases q:(bT l).length<l.length
 ·rw[DD q,ByteArray.size_append,ByteArray.size_append,hh];omega
 ·rw[DC q,ByteArray.size_append,hh];omega
theorem qNA {c:Col} {l:List Val} (hl:l.length<=1024) (hv:∀v,v∈l->bK c v=0):((rH (mF c.2.1 l)).size:Int)<=4+2*most c:=by
 obtain⟨q1,q2,q3,q4⟩:=qCF (P:=fun v=>bK c v=0\/v=dM) (.inr rfl) (t:=c.2.1) l (0,dM,dM) (.inr rfl) (.inr rfl) fun v h=>.inl (hv v h)
 have z1:=MZ q1;have z2:=MZ q2;(try simp only at q3 q4);have m1:cI 0 (mF c.2.1 l).1=(l.length:Int):=by
  show cI 0 (l.length:Int)=_;unfold cI;split<;>omega
 have m2:cI 0 (mF c.2.1 l).2.1=(zGo c.2.1 l (0,dM,dM)).1:=by
  show cI 0 (zGo c.2.1 l (0,dM,dM)).1=_;unfold cI;split<;>omega
 unfold rH;rw[m1,m2];have p1:=lR (n:=1) (v:=(l.length:Int)) (by omega) (by show _<(16384:Int);omega) (by decide);have p2:=lR (n:=1) (v:=(zGo c.2.1 l (0,dM,dM)).1) (by omega) (by show _<(16384:Int);omega) (by decide);simp only[ByteArray.size_append,aT];have z1:((rG (mF c.2.1 l).2.2.1).size:Int)<=most c:=z1;have z2:((rG (mF c.2.1 l).2.2.2).size:Int)<=most c:=z2;omega
theorem YQ {s:Schema} {r:Rank} (h:vN s r):(cS r).size<=73:=by
 have h1:=MZ (c:=qLL s) (v:=r.1) (.inl h.2.1);have h2:=EB (qLL s);have h3:=lR (n:=5) (v:=r.2) h.2.2.1 (by have:=h.2.2.2;show _<(4398046511104:Int);omega) (by decide);unfold cS;rw[ByteArray.size_append,aT];omega
theorem qFV {n:Int} (h:0<=n):∀l:List Col,0<=AC n l
 | []=>Int.le_refl _
 |c::l=>by
  have h1:=qFV h l;have h2:=EB c;have h3:=Int.mul_nonneg h (show 0<=stored c by have:=pW c;omega);rw[AC];omega
theorem GY {s:Schema} {l:List Rec} (hv:cN s l=true) (hi:wZ l) (h0:1<=l.length) (hl:l.length<=1024):∀k:Nat,k<=s.1.length ->
  ((jC (chP s l k)).size:Int)+(jC ((chP s l k).map szB)).size+(jC ((iA s l (List.range k)).map rH)).size+AC (l.length:Int) (s.1.drop k)<=AC (l.length:Int) s.1
 |0,_=>by
  have e1:(jC (chP s l 0)).size=0:=rfl;have e2:(jC ((chP s l 0).map szB)).size=0:=rfl;have e3:(jC ((iA s l (List.range 0)).map rH)).size=0:=rfl;rw[e1,e2,e3,List.drop_zero];omega
 |k+1,hk=>by
  have ih:=GY hv hi h0 hl k (by omega);have ho:=FL hv hi (i:=k) (by omega);have hL:=qQ l k;have g1:=qO (s:=s) (l:=l) (k:=(k:Int)) (by omega);have g2:=rP (s:=s) (l:=l) (k:=(k:Int)) (by omega);rw[show((k:Int)+1).toNat=k+1 by omega,Int.toNat_natCast]at g1 g2;have g3:=BM (n:=(l.length:Int)) (l:=s.1) (k:=(k:Int)) ⟨by omega,by omega⟩;rw[show((k:Int)+1).toNat=k+1 by omega,Int.toNat_natCast]at g3;have a1:=qGS (c:=s.1[k]!) (l:=fD l k) (by omega) (by omega) fun v h=>(ho v h).1
  rw[hL,<-LR (s:=s) (l:=l) (by omega)]at a1;have a2:=qNA (c:=s.1[k]!) (l:=fD l k) (by omega) fun v h=>(ho v h).1
  have hst:=pW s.1[k]!;have hm:(l.length:Int)*stored s.1[k]! <=1024*65:=Int.le_trans (Int.mul_le_mul_of_nonneg_right (show(l.length:Int)<=1024 by omega) (by omega)) (by omega);have a3:(szB (chnk s l k)).size<=3:=by
   unfold szB;rw[aT];exact lR (n:=2) (by omega) (by show _<(2097152:Int);omega) (by decide)
  rw[g1,g2,List.map_append,List.map_append,fI,fI,fI,List.map_cons,List.map_nil,List.map_cons,List.map_nil,fJ,fJ,fJ];simp only[ByteArray.size_append,Int.natCast_add];omega
theorem DO {s:Schema} {l:List Rec} (hs:dN s l=true) (hi:wZ l) (h0:1<=l.length) (hl:l.length<=1024):((IX s l).size:Int)<=(iT s (l.length:Int)).1:=by
 have hv:=bF hs;have hb:=GY hv hi h0 hl s.1.length (Nat.le_refl _);rw[List.drop_eq_nil_of_le (Nat.le_refl _)]at hb;have ho:=WH hv;have hL:(dS l).length=l.length:=by simp [dS]
 have a1:=qGS (c:=uH) (l:=dS l) (by omega) (by omega) fun v h=>(ho v h).1
 rw[hL,<-PB (s:=s) (l:=l)]at a1;have hst:stored uH=10:=rfl;rw[hst]at a1;have a3:(szB (chnk s l s.1.length)).size<=3:=by
  unfold szB;rw[aT];exact lR (n:=2) (by omega) (by show _<(2097152:Int);omega) (by decide)
 have r1:=YQ (eS hv hi (j:=0) (by omega));have r2:=YQ (eS hv hi (j:=l.length-1) (by omega));have e:chnks s l=chP s l s.1.length++ [chnk s l s.1.length]:=by
  rw[chnks,List.range_succ,List.map_append];rfl
 have p1:=lR (n:=1) (v:=(l.length:Int)) (by omega) (by show _<(16384:Int);omega) (by decide);have hB:(iT s (l.length:Int)).1=192+10*(l.length:Int)+((l.length:Int)+7)/8+AC (l.length:Int) s.1:=by
  rw[iT,if_neg (fun q=>q (bS hv).1),if_neg (by omega)]
 have f4:∀v,(four v).length=4:=fun _=>rfl
 rw[hB,IX,qEX,kP,oR,e,List.map_append,fI,fI,List.map_cons,List.map_nil,fJ,fJ];simp only[ByteArray.size_append,aT,f4,Int.natCast_add,AC]at hb ⊢;omega
theorem qFW {s:Schema} {n:Int}:0<=(iT s n).1:=by
 unfold iT;split
 ·exact Int.le_refl _
 split
 ·exact Int.le_refl _
 ·rename_i h
  have:=qFV (n:=n) (by omega) s.1;simp only;omega
theorem qDG {s:Schema} {l:List Rec} (hi:wZ l) (hl:l.length<=1024):((lP s l).1.size:Int)<=(iT s (cI 1 (l.length:Int))).1:=by
 have z:((⟨#[]⟩:ByteArray).size:Int)=0:=rfl;have h0:=qFW (s:=s) (n:=cI 1 (l.length:Int));unfold lP;split
 ·rw[z];exact h0
 split
 ·rw[z];exact h0
 split
 ·rw[z];exact h0
 ·rename_i h
  have hs:dN s l=true:=by
   cases q:dN s l with
   |true=>rfl
   |false=>exact absurd (.inr q) h
  have h1:¬l.length=0:=fun q=>h (.inl q)
  have e:cI 1 (l.length:Int)=(l.length:Int):=by unfold cI;split<;>omega
  rw[e];exact DO hs hi (by omega) hl
theorem JL:∀(n:Nat) (s:Src) (acc:List Col),(lF n s acc).1.length=acc.length+n
 |0,s,acc=>rfl
 |n+1,s,acc=>by rw[lF,JL n];simp;omega
theorem MO (l:List Int):1<=(aV l).1.length/\(aV l).1.length<=4:=by
 have h:=Src.pick_lt (s:=(l,0)) (n:=4) (by decide);have e:(aV l).1.length=0+(1+Src.pick (l,0) 4).toNat:=JL _ _ [];omega
theorem PU {s:Schema} (hs:aX s=0):∀(l o:List Rec),(∀r,r∈l->gR s r=true)->(∀x,x∈o->gR s x=true/\∀r,r∈l->x.1<r.1)->l.Pairwise (fun a b=>a.1<b.1)->FW s o=true ->
  FW s (l.foldl (fW s) o)=true/\(∀x,x∈l.foldl (fW s) o->gR s x=true)/\(l.foldl (fW s) o).length=o.length+l.length
 | [],o,_,h2,_,h4=>⟨h4,fun x hx=>(h2 x hx).1,rfl⟩
 |r::l,o,h1,h2,h3,h4=>by
  obtain⟨p1,p2⟩:=List.pairwise_cons.1 h3;have hr:=h1 r (List.mem_cons_self ..);have hi:=qLG (s:=s) (o:=o) (r:=r) h4 fun i hi=>by
   have hm:o[i]! ∈o:=by rw[getElem!_pos o i hi];exact List.getElem_mem hi
   have hx:=h2 _ hm;refine qQW ?_;rw[RF hs hr,RF hs hx.1];have:=hx.2 r (List.mem_cons_self ..);omega
  obtain⟨g1,g2,g3⟩:=PU hs l (fW s o r) (fun x hx=>h1 x (List.mem_cons_of_mem _ hx)) (fun x hx=>by
   rcases qLH hx with e|e
   ·rw[e];exact⟨hr,p1⟩
   ·exact⟨(h2 x e).1,fun y hy=>(h2 x e).2 y (List.mem_cons_of_mem _ hy)⟩) p2 hi
  refine⟨g1,g2,?_⟩;rw[List.foldl_cons,g3,qX,List.length_cons];omega
def bV (big i:Int) (c:Col):Val:=if c.2.1=2 then(false,Int.tmod i 2,⟨#[]⟩)else if c.2.1=4 then(false,2932896-i,⟨#[]⟩)else if c.2.1=5 then(false,-999999999999999999+i,⟨#[]⟩)
 else if c.2.1=3 then(false,0,aN ((List.replicate 64 0).set (pick (IntKind.i64.wrap (big+i)) 64).toNat (IntKind.u8.wrap i)))else(false,-9223372036854775808+pick (IntKind.i64.wrap (big*i)) 1000,⟨#[]⟩)
def bR (big i:Int) (cs:List Col):Rec:=(1099511627676+i,cs.map (bV big i))
def bRs (big:Int) (cs:List Col) (m:Nat):List Rec:=(List.range m).map fun(j:Nat)=>bR big (j:Int) cs
theorem qP4 {big i:Int} {c:Col} (hk:cB c.2.1=true) (hi:0<=i/\i<=40):bK c (bV big i c)=0/\inI (bV big i c).2.1:=by
 have hp:=pick_lt (v:=IntKind.i64.wrap (big*i)) (n:=1000) (by decide);have hm:0<=Int.tmod i 2/\Int.tmod i 2<2:=⟨Int.tmod_nonneg 2 hi.1,Int.tmod_lt_of_pos i (by decide)⟩
 unfold bV bK;rw[if_neg (by rw[hk];exact Bool.noConfusion)];unfold inI;by_cases h2:c.2.1=2
 ·rw[if_pos h2]
  simp [cH,h2];omega
 rw[if_neg h2];by_cases h4:c.2.1=4
 ·rw[if_pos h4]
  simp [cH,h4];omega
 rw[if_neg h4];by_cases h5:c.2.1=5
 ·rw[if_pos h5]
  simp [cH,h5];omega
 rw[if_neg h5];by_cases h3:c.2.1=3
 ·rw[if_pos h3]
  have hz:(aN ((List.replicate 64 (0:Int)).set (pick (IntKind.i64.wrap (big+i)) 64).toNat (IntKind.u8.wrap i))).size=64:=by rw[aT,List.length_set,List.length_replicate]
  generalize aN ((List.replicate 64 (0:Int)).set (pick (IntKind.i64.wrap (big+i)) 64).toNat (IntKind.u8.wrap i))=B at hz;simp [cH,h3,hz]
 rw[if_neg h3];have:cH c.2.1 ((false,-9223372036854775808+pick (IntKind.i64.wrap (big*i)) 1000,⟨#[]⟩):Val)=true:=by
  unfold cH;rw[if_neg h2,if_neg h4,if_neg h5,if_neg h3]
 simp [this,h3];omega
theorem qJ9 (big:Int) (cs:List Col) (m:Nat):(bRs big cs m).length=m:=by simp [bRs]
theorem qFR {big:Int} {cs:List Col} {i:Int} (h:0<=i):bRs big cs (i+1).toNat=bRs big cs i.toNat++ [bR big i cs]:=by
 rw[show(i+1).toNat=i.toNat+1 by omega,bRs,List.range_succ,List.map_append,List.map_cons,List.map_nil,show((i.toNat:Nat):Int)=i by omega];rfl
theorem qCV {big i:Int} {cs:List Col} {k:Int} (h:0<=k/\k<cs.length):(cs.take (k+1).toNat).map (bV big i)=(cs.take k.toNat).map (bV big i)++ [bV big i cs[k.toNat]!]:=by
 rw[pC cs k h,List.map_append];rfl
theorem qNF {big:Int} (x:List Int) {m:Nat} (h:1<=m/\m<=40):dN (aV x) (eD (aV x) (bRs big (aV x).1 m))=true/\wZ (eD (aV x) (bRs big (aV x).1 m))/\(eD (aV x) (bRs big (aV x).1 m)).length=m:=by
 obtain⟨hs,_,_,hk⟩:=GC x;have hrec:∀r,r∈bRs big (aV x).1 m->gR (aV x) r=true/\∀v,v∈r.2->inI v.2.1:=by
  intro r hr;obtain⟨j,hj,rfl⟩:=List.mem_map.1 hr;rw[List.mem_range]at hj;have hv:∀i:Nat,i<(aV x).1.length->bK (aV x).1[i]! (bV big (j:Int) (aV x).1[i]!)=0/\inI (bV big (j:Int) (aV x).1[i]!).2.1:=fun i hi=>qP4 (hk i hi) ⟨by omega,by omega⟩
  refine⟨?_,fun v hv2=>?_⟩
  ·simp only[gR,Bool.and_eq_true,decide_eq_true_eq]
   refine⟨⟨by simp only[bR];omega,by simp only[bR];omega⟩,?_⟩;unfold jR;rw[if_neg (fun q=>q (by simp [bR]))];refine qT _ _ _ fun i hi=>?_
   have hi:i<(aV x).1.length:=by simpa [bR]using hi
   have:=(hv i hi).1;rw[show((0:Int)+(i:Int)).toNat=i by omega];have e:(bR big (j:Int) (aV x).1).2[i]! =bV big (j:Int) (aV x).1[i]!:=by
    show((aV x).1.map (bV big (j:Int)))[i]! =_;rw[getElem!_pos _ i (by rw[List.length_map];exact hi),List.getElem_map,getElem!_pos _ i hi]
   rw[e];exact this
  ·obtain⟨c,hc,rfl⟩:=List.mem_map.1 hv2
   obtain⟨i,hi,rfl⟩:=List.mem_iff_getElem.1 hc;have:=(hv i hi).2;rwa [getElem!_pos _ i hi]at this
 have hpw:(bRs big (aV x).1 m).Pairwise (fun a b=>a.1<b.1):=by
  unfold bRs;rw[List.pairwise_map];refine List.Pairwise.imp (fun{a b} h=>?_) List.pairwise_lt_range;show 1099511627676+(a:Int)<1099511627676+(b:Int);omega
 obtain⟨g1,g2,g3⟩:=PU hs (bRs big (aV x).1 m) [] (fun r hr=>(hrec r hr).1) (fun x hx=>by cases hx) hpw rfl;have va:∀L:List Rec,(∀r,r∈L->gR (aV x) r=true)->cN (aV x) L=true:=fun L hL=>by
  simp only[cN,Bool.and_eq_true,decide_eq_true_eq,List.all_eq_true];exact⟨hs,hL⟩
 have hva:=va _ fun r hr=>(hrec r hr).1
 have e:eD (aV x) (bRs big (aV x).1 m)=(bRs big (aV x).1 m).foldl (fW (aV x)) []:=by unfold eD;rw[if_pos hva]
 refine⟨?_,fun r hr v hv=>(hrec r (SG r hr)).2 v hv,?_⟩
 ·rw[e]
  unfold dN;rw[Bool.and_eq_true];exact⟨va _ g2,g1⟩
 ·rw[e,g3,qJ9];simp
abbrev qCZ:Ct:=.fn [.list (.int .i64),.list (.int .i64),.int .i64,.int .i64] (some (fun(x:List Int) (l:List Int) (n:Int) (big:Int)=>(x.length<=4611686018427387904)/\(l.length<=4611686018427387904)/\(∀v,v∈l->inI v))) (fun(x:List Int) (l:List Int) (n:Int) (big:Int)=>.d .bool true)
theorem qLO:aG Tryz.prog 12 qCZ:=by
 refine aG.fn qJE mixed [(0,10,2),(0,20,3)] [] rfl rfl ?_;rintro⟨(x:List Int),(l:List Int),(n:Int),(big:Int),_⟩ hpre;replace hpre:=hpre _ rfl;dsimp only[cu]at hpre;obtain⟨hx,hl,hi⟩:=hpre;have hp:=pick_lt (v:=n) (n:=40) (by decide);have kc:=MO x;refine⟨[(0,8,LA.mk [.sl 11 (.int .i64),.lst 10 iW 56] (fun y=>Tag 79/\cu [.int .i64,.list iW] (fun(i:Int) (M:List Rec)=>(0<=i/\i<=1+pick n 40)/\(M=bRs big (aV x).1 i.toNat)/\((M.length:Int)=i)) y) (cu [.int .i64,.list iW] (fun(i:Int) (M:List Rec)=>(1+pick n 40-i).toNat)) (cu [.int .i64,.list iW] (fun(i:Int) (M:List Rec)=>([(0,16,LA.mk [.sl 41 (.int .i64),.row 2 [.same,.own bQ 43]] (fun y=>Tag 80/\cu [.int .i64,.list bQ] (fun(k:Int) (O:List Val)=>(0<=k/\k<=(aV x).1.length)/\(O=((aV x).1.take k.toNat).map (bV big i))/\((O.length:Int)=k)) y) (cu [.int .i64,.list bQ] (fun(k:Int) (O:List Val)=>(((aV x).1.length:Int)-k).toNat)) (cu [.int .i64,.list bQ] (fun(k:Int) (O:List Val)=>([]:List (Nat×Nat×LA)))))]:List (Nat×Nat×LA)))))],?_⟩;repeat' (first
  |(
 with_reducible refine Side.mk ⟨(⟨⟩:Tag 79),?_⟩
 dsimp only[cu,aB,aA,gts,eE,eN]
 refine⟨?_,?_,?_⟩
 ·first
  |omega
  |(
  have hp:=pick_lt (v:=n) (n:=40) (by decide)
  omega)
 ·first
  |rfl
  |rw[hM,qFR (by omega),bR,hO,List.take_of_length_le (by omega)]
 ·first
  |rfl
  |(
  simp only[List.length_append,List.length_cons,List.length_nil]
  omega))
  |(
 with_reducible refine Side.mk ⟨(⟨⟩:Tag 80),?_⟩
 dsimp only[cu,aB,aA,gts,eE,eN]
 refine⟨?_,?_,?_⟩
 ·omega
 ·first
  |rfl
  |(
  rw[hO,qCV (by omega)]
  grind [bV])
 ·first
  |rfl
  |(
  simp only[List.length_append,List.length_cons,List.length_nil]
  omega))
  |(
 with_reducible apply Side.mk
 (try dsimp only[cu,aB,aA,gts,loK,hiK,eE,eN])
 first
 |done
 |with_reducible rfl
 |omega
 |exact Eq.refl _
 |simp only[List.length_append,List.length_cons,List.length_nil];omega
 |exact FJ (n:=40) (by decide)
 |exact FJ (n:=1000) (by decide)
 |exact FJ (n:=64) (by decide)
 |(
  have hp1:=pick_lt (v:=IntKind.i64.wrap (big*i)) (n:=1000) (by decide);omega)
 |(
  have hp3:0<=pick (IntKind.i64.wrap (big+i)) ((Int.toNat 64:Nat):Int)/\pick (IntKind.i64.wrap (big+i)) ((Int.toNat 64:Nat):Int)<((Int.toNat 64:Nat):Int):=pick_lt (by decide);(try simp only[List.length_replicate]);omega)
 |(
  simp only[List.length_set,List.length_replicate];done)
 |exact⟨by omega,by omega,by decide⟩
 |(
  have kl:=JM (x:=aV x) (l:=l) (n:=12) (by decide);exact⟨by omega,QJ hi⟩)
 |(
  subst hM;obtain⟨g1,g2,g3⟩:=qNF (big:=big) x (m:=i.toNat) (by omega);exact⟨by omega,g2⟩))
  |(conv=>whnf
    first
     |with_reducible first|done|exact trivial|refine NilBr.mk (fun h=>?_) ?_|apply aJ|apply aI|refine aK (by kernel_rfl) ?_|apply aL|apply bC|apply bB|apply aO
     |((with_reducible first|apply aQ|apply aP|apply bA)<;>intro h<;>(try dsimp only[cu,eE,eN]at h)<;>(try(exfalso;omega)))
     |(
 intro yy (hy:Tag 79/\_)
 obtain⟨(i:Int),(M:List Rec),_⟩:=yy
 replace hy:=hy.2
 dsimp only[cu,aB,aA,gts,eE,eN]at hy
 obtain⟨hi2,hM,hMl⟩:=hy)
     |(
 intro yy (hy:Tag 80/\_)
 obtain⟨(k:Int),(O:List Val),_⟩:=yy
 replace hy:=hy.2
 dsimp only[cu,aB,aA,gts,eE,eN]at hy
 obtain⟨hk,hO,hOl⟩:=hy)))
 all_goals(
 with_reducible apply Leaf.mk
 (try dsimp only[cu,aB,aA,gts,eE,eN]at *)
 first
 |done
 |rfl
 |(
  have kl:=JM (x:=aV x) (l:=l) (n:=12) (by decide);exact decide_eq_true (qDG (QJ hi) (by omega)))
 |(
  subst hM;obtain⟨g1,g2,g3⟩:=qNF (big:=big) x (m:=i.toNat) (by omega);first
  |(
   have E:lP (aV x) (eD (aV x) (bRs big (aV x).1 i.toNat))=(IX (aV x) (eD (aV x) (bRs big (aV x).1 i.toNat)),0):=qO5 (bS (bF g1)).1 (by omega) (by omega) g1;first
   |exact absurd (show(lP (aV x) (eD (aV x) (bRs big (aV x).1 i.toNat))).2=0 from by rw[E]) (by with_reducible assumption)
   |(exact absurd (show((lP (aV x) (eD (aV x) (bRs big (aV x).1 i.toNat))).1.size:Int)<=(iT (aV x) ((eD (aV x) (bRs big (aV x).1 i.toNat)).length:Int)).1 from by rw[E];exact DO g1 g2 (by omega) (by omega)) (by with_reducible assumption)))
  |(exact absurd (show(iT (aV x) ((eD (aV x) (bRs big (aV x).1 i.toNat)).length:Int)).2=0 from by rw[iT,if_neg (fun q=>q (bS (bF g1)).1),if_neg (by omega)]) (by with_reducible assumption))))
end Go.Proofs.YtcjiefknhfhmkaaGreatDoor
namespace Go.Abs
set_option maxRecDepth 100000
set_option maxHeartbeats 4000000
set_option linter.unusedVariables false
set_option linter.unusedSimpArgs false
open Go.RowKit
def ι0:Iota:={at':=fun _=>none,X:=fun _=>False}
theorem qQF (w:World):HRel [] ι0 w:=
 ⟨fun id o h=>by simp at h,fun id h=>by simp at h,fun id _=>rfl,fun id o l id' o' l' h=>by simp at h,fun b h=>h.elim,fun b h=>h.elim⟩
theorem mt0 (b:Nat):¬Mt [] ι0 b:=by
 rintro(h|⟨id,o,l,h,_⟩)
 ·exact h
 ·simp at h
def rR (w:World) (x:V) (y:Value):Prop:=Rep w ι0 (Mt [] ι0) x y
def AW (w:World):List V->List Value->Prop
 | [],[]=>True
 |x::xs,y::ys=>rR w x y/\AW w xs ys
 |_,_=>False
theorem zQ:∀ {w:World} {xs:List V} {ys:List Value},AW w xs ys->PW2 w ι0 (Mt [] ι0) xs ys.toArray
 |w,[],[],_=>⟨rfl,fun k x h=>by simp at h⟩
 |w,x::xs,y::ys,h=>by
  have ih:=zQ h.2;refine⟨by simpa using ih.1,fun k z hz=>?_⟩;cases k with
  |zero=>simp at hz;subst hz;exact⟨y,by simp,h.1⟩
  |succ k=>
   obtain⟨u,u1,u2⟩:=ih.2 k z (by simpa using hz);exact⟨u,by simpa using u1,u2⟩
 |w,[],_::_,h=>h.elim
 |w,_::_,[],h=>h.elim
theorem WN {P:Program} {f:FuncId} {args:List V} {vals:List Value} {w:World} (hr:AW w args vals) (hc:PC P f args [] (fun y _=>y = .v (.bool true))) :
  Calls P f vals.toArray w fun e w'=>e = .returned (.bool true)/\Below w.heap.size w w':=by
 refine(hc ι0 w _ (zQ hr) (qQF w)).mono ?_;rintro e w' ⟨y,x,h',ι',rfl,rfl,ry,_,ev⟩;cases ry;refine⟨rfl,ev.os,ev.tape,ev.output,ev.size,fun k hk=>(ev.frame k hk ?_).1⟩;rintro⟨id,o,l,h,_⟩;simp at h
theorem YZ (w:World) (x:Value):rR w (.v x) x:=.v x
theorem IN {w:World} {a:Addr} {v:Value} (h:w.cell? a=some v):a.spot=none/\a.block<w.heap.size:=by
 unfold World.cell? at h;split at h
 ·rename_i c el fr hb
  refine⟨?_,?_⟩
  ·by_cases q:a.spot.isSome=true
   ·rw[if_pos q]at h;cases h
   ·simpa using q
  ·rcases Nat.lt_or_ge a.block w.heap.size with q|q
   ·exact q
   ·rw[Array.getElem?_eq_none q]at hb;cases hb
 ·cases h
def ints (k:IntKind) (l:List Int):V:=.sF 1 (l.map fun n=>[.v (.int k n)])
theorem KH (w:World) (k:IntKind):rR w (ints k []) (.slice none 0 0):=Rep.sN 1
theorem ES {w:World} {k:IntKind} {x:Addr} {len cap:Nat} {zs:List Int} (hl:len<=cap) (hz:zs.length=cap) (hc:∀i,i<zs.length->w.cell? (x.add i)=some (.int k (zs.getD i 0))) :
  rR w (ints k (zs.take len)) (.slice (some x) len cap):=by
 have hlen:((zs.take len).map fun n=>[V.v (.int k n)]).length=len:=by simp;omega
 have:=Rep.sF_mk (w:=w) (ι:=ι0) (M:=Mt [] ι0) (sz:=1) (rows:=(zs.take len).map fun n=>[V.v (.int k n)]) x cap ?_ (by omega) (fun r hr=>by obtain⟨n,_,rfl⟩:=List.mem_map.1 hr;rfl) ?_
 ·rw[hlen]at this;exact this
 ·intro hne
  have h0:0<zs.length:=by
   rcases Nat.eq_zero_or_pos zs.length with q|q
   ·exfalso;apply hne;rw[List.eq_nil_of_length_eq_zero q];simp
   ·exact q
  have:=IN (hc 0 h0);unfold Addr.add at this;simp at this;exact⟨this.1,this.2,mt0 _⟩
 ·intro i j r y hi hj
  rw[List.getElem?_map]at hi;cases hq:(zs.take len)[i]? with
  |none=>rw[hq]at hi;simp at hi
  |some n=>
   rw[hq]at hi;simp at hi;subst hi;have hj0:j=0:=by have:=aF hj;simp at this;exact this
   subst hj0;simp at hj;subst hj;rw[List.getElem?_take]at hq;split at hq
   ·have hlt:=aF hq
    refine⟨.int k n,?_,.v _⟩;have hcell:=hc i hlt;have hsp:=(IN (hc 0 (by omega))).1;have hsp0:x.spot=none:=by unfold Addr.add at hsp;simpa using hsp
    have e:x.add i=⟨x.block,x.off+i*1+0,none⟩:=by
     obtain⟨b,o,sp⟩:=x;simp only at hsp0;subst hsp0;rw[jW];simp
    rw[<-e,hcell];rw[List.getElem?_eq_getElem hlt]at hq;injection hq with hq;simp [List.getD,List.getElem?_eq_getElem hlt,hq]
   ·cases hq
end Go.Abs
