import Derived.Test.YtcjiefknhfhmkaaGreatDoorM08
open List renaming getElem?_set_self -> ga, getElem?_set_ne -> gb, getElem?_eq_getElem -> gc, replicate -> ge, getElem?_eq_none -> gf, length_set -> gg, length_nil -> gh, length_append -> gi, length_cons -> gk, length_take -> gl, getElem?_append_right -> gm, getElem?_append_left -> gn, length_map -> go, ext_getElem? -> gp, mem_map -> gx, getElem?_map -> gy, drop_eq_nil_of_le -> gz, getElem_set_ne -> hu, length_eq_zero_iff -> kb, set_set -> kc
open Nat renaming mul_le_mul_right -> gq, lt_of_lt_of_le -> gt, lt_or_ge -> gu, lt_trichotomy -> gw, beq -> ka, eq_of_beq_eq_true -> kd, zero_le -> ke, le_trans -> kg, sub_self -> kh, le_refl -> ki
open Array renaming getElem?_eq_getElem -> gr
open Bool renaming noConfusion -> ht
open Iff renaming rfl -> km
namespace Go.Abs
set_option maxRecDepth 100000
set_option maxHeartbeats 4000000
set_option linter.unusedVariables false
set_option linter.unusedSimpArgs false
theorem Rep.view {w w':World} {ι ι':Iota} {M M':Nat->Prop} (hi:∀id l,ι id=some l->ι' id=some l) (hs:w.heap.size<=w'.heap.size)
  (hm:∀b,b<w.heap.size->¬M b->w'.heap[b]? =w.heap[b]? /\¬M' b)
  (hz:∀(b:Nat) (c:Array Value) (e:TypeId) (fr:Nat×Nat),w.heap[b]? =some (.cells c e fr)->∃(c':Array Value) (fr':Nat×Nat),w'.heap[b]? =some (.cells c' e fr')/\c'.size=c.size)
  {x:V} {y:Value} (r:Rep w ι M x y):Rep w' ι' M' x y:=by
 induction r with
 |v x=>exact .v x
 |any x=>exact .any x
 |pF row off b o cells hb hmb hc _ ih=>
  obtain⟨e,m⟩:=hm b hb hmb;exact .pF row off b o cells (gt hb hs) m (fun j hj=>(qU e).trans (hc j hj)) ih
 |pO id row off l hl=>exact .pO id row off l (hi _ _ hl)
 |sF sz rows a cap cells hb hcap hr hc _ ih=>
  refine .sF sz rows a cap cells (fun hne=>?_) hcap hr (fun i hii j hj=>?_) ih
  ·obtain⟨hs1,hb,hmb⟩:=hb hne
   exact⟨hs1,gt hb hs,(hm _ hb hmb).2⟩
  ·have hne:rows≠ []:=by intro e;subst e;simp at hii
   obtain⟨hs1,hb,hmb⟩:=hb hne;exact(qU (hm _ hb hmb).1).trans (hc i hii j hj)
 |sN sz=>exact .sN sz
 |sO id off len cap l c e fr hl hcap hb hs1=>
  obtain⟨c',fr',h1,h2⟩:=hz _ _ _ _ hb;exact .sO id off len cap l c' e fr' (hi _ _ hl) hcap h1 om
 |agg xs vs hl _ ih=>exact .agg xs vs hl ih
 |tup xs vs hl _ ih=>exact .tup xs vs hl ih
 |fn f a b vs us h1 h2 _ _ ih1 ih2=>exact .fn f a b vs us h1 h2 ih1 ih2
 |ifc t x y _ ih=>exact .ifc t x y ih
 |sL t l y _ ih=>exact .sL t l y ih
 |oL id n y _ ih=>exact .oL id n y ih
theorem Rep.same {w:World} {ι ι':Iota} {M M':Nat->Prop} (hi:∀id l,ι id=some l->ι' id=some l) (hm:∀b,M' b->M b) {x:V} {y:Value} (r:Rep w ι M x y):Rep w ι' M' x y:=
 r.view hi (ki _) (fun b _ q=>⟨rfl,fun p=>q (hm b p)⟩) (fun b c e fr h=>⟨c,fr,h,rfl⟩)
structure NZ where
 b:Nat
 o:Nat
 e1:TypeId
 e2:TypeId
 tO:Ty
 t:Ty
 p:Nat
 get:tO.den->List t.den
 n:Nat
structure NZ.ok (Z:NZ):Prop where
 at_p:∀a,(Z.tO.row a)[Z.p]? =some (.sL Z.t (Z.get a))
 flatO:∀(a:Z.tO.den) (j:Nat) (x:V),j≠Z.p->(Z.tO.row a)[j]? =some x->∃z,x = .v z
 flat:∀(a:Z.t.den) (j:Nat) (x:V),(Z.t.row a)[j]? =some x->∃z,x = .v z
def NIn (Z:NZ) (w:World) (l:List Z.t.den) (g:Nat×Nat) (y:Value):Prop:=
 ∃cap c fr,y = .slice (some ⟨g.1,g.2,none⟩) l.length cap/\w.heap[g.1]? =some (.cells c Z.e2 fr)/\Unfr 0 g.2 Z.t.size c.size fr/\g.2%Z.t.size=0/\l.length<=cap/\g.2+cap*Z.t.size<=c.size /\
  ∀(i:Nat) (a:Z.t.den) (j:Nat) (x:V),l[i]? =some a->(Z.t.row a)[j]? =some x->∃z,x = .v z/\c[g.2+i*Z.t.size+j]? =some z
structure Nst (Z:NZ) (F0:Nat->Prop) (X0:Nat->Prop) (y:Value) (R:List Z.tO.den) (ι:Iota) (w:World) (c:Array Value) (fr:Nat×Nat) (g:Nat->Nat×Nat):Prop where
 blk:w.heap[Z.b]? =some (.cells c Z.e1 fr)
 unf:Unfr 0 Z.o Z.tO.size c.size fr
 al:Z.o%Z.tO.size=0
 len:R.length=Z.n
 val:∃cap,y = .slice (some ⟨Z.b,Z.o,none⟩) Z.n cap/\Z.n<=cap/\Z.o+cap*Z.tO.size<=c.size
 X:∀q,ι.X q↔X0 q\/q=Z.b\/∃k a,R[k]? =some a/\Z.get a≠ []/\q=(g k).1
 x0b:¬X0 Z.b
 cells:∀(k:Nat) (a:Z.tO.den) (j:Nat) (x:V),R[k]? =some a->j≠Z.p->(Z.tO.row a)[j]? =some x->∃z,x = .v z/\c[Z.o+k*Z.tO.size+j]? =some z
 nil:∀k a,R[k]? =some a->Z.get a= []->c[Z.o+k*Z.tO.size+Z.p]? =some (.slice none 0 0)
 own:∀k a,R[k]? =some a->Z.get a≠ []->¬X0 (g k).1/\(g k).1≠Z.b/\F0 (g k).1/\∃y,c[Z.o+k*Z.tO.size+Z.p]? =some y/\NIn Z w (Z.get a) (g k) y
 apart:∀k a k' a',R[k]? =some a->Z.get a≠ []->R[k']? =some a'->Z.get a'≠ []->(g k).1=(g k').1->k=k'
structure EvS (hS:Heap) (ιS:Iota) (wS:World) (h:Heap) (ι:Iota) (w:World):Prop where
 os:w.os=wS.os
 tape:w.tape=wS.tape
 output:w.output=wS.output
 size:wS.heap.size<=w.heap.size
 frame:∀b,b<wS.heap.size->¬Ob hS ιS b->w.heap[b]? =wS.heap[b]? /\¬Ob h ι b
 sizes:∀(b:Nat) (c:Array Value) (e:TypeId) (fr:Nat×Nat),wS.heap[b]? =some (.cells c e fr)->∃(c':Array Value) (fr':Nat×Nat),w.heap[b]? =some (.cells c' e fr')/\c'.size=c.size
theorem EvS.step {n:Nat} {hS ιS wS h ι w h' ι' w'} (a:EvS hS ιS wS h ι w) (b:EvN n h ι w h' ι' w'):EvS hS ιS wS h' ι' w' where
 os:=b.os.trans a.os
 tape:=b.tape.trans a.tape
 output:=b.output.trans a.output
 size:=kg a.size b.size
 frame:=fun k hk hm=>by
  obtain⟨e1,m1⟩:=a.frame k hk hm;obtain⟨e2,m2⟩:=b.frame k (gt hk a.size) m1;exact⟨e2.trans e1,m2⟩
 sizes:=fun k c e fr hc=>by
  obtain⟨c1,fr1,h1,s1⟩:=a.sizes k c e fr hc;obtain⟨c2,fr2,h2,s2⟩:=b.sizes k c1 e fr1 h1;exact⟨c2,fr2,h2,s2.trans s1⟩
theorem Nst.keep {Z:NZ} {F0:Nat->Prop} {X0:Nat->Prop} {y:Value} {R:List Z.tO.den} {ι ι':Iota} {w w':World} {c:Array Value} {fr:Nat×Nat} {g:Nat->Nat×Nat} {h h':Heap} {n:Nat} (N:Nst Z F0 X0 y R ι w c fr g) (H:HRel h ι w) (e:EvN n h ι w h' ι' w'):Nst Z F0 X0 y R ι' w' c fr g:=by
 have same:∀b,ι.X b->w'.heap[b]? =w.heap[b]?:=fun b hb=>(e.frame b (H.xlt b hb) (H.xob b hb)).1
 refine⟨(same _ ((N.X _).2 (.inr (.inl rfl)))).trans N.blk,N.unf,N.al,N.len,N.val,fun q=>by rw[e.away];exact N.X q,N.x0b,N.cells,N.nil,fun k a hk ha=>?_,N.apart⟩;obtain⟨h1,h2,h3,y,hy,cap,c2,fr2,q1,q2,q3⟩:=N.own k a hk ha;exact⟨h1,h2,h3,y,hy,cap,c2,fr2,q1,(same _ ((N.X _).2 (.inr (.inr ⟨k,a,hk,ha,rfl⟩)))).trans q2,q3⟩
theorem qEP {c:Array Value} {i:Nat} {x:Value} (h:c[i]? =some x):c.getD i undef=x:=by
 rw[Array.getD_eq_getD_getElem?,h];rfl
theorem xS {n m sz i j:Nat} (h:i<n) (h2:j<sz) (h3:n<=m):i*sz+j<m*sz:=by
 have h4:(i+1)*sz<=m*sz:=gq _ om;rw[Nat.add_mul,Nat.one_mul]at h4;omega
theorem Ty.row_size (t:Ty) (a:t.den):(t.row a).length=t.size:=by have:=t.cells_len a [];simpa using this
theorem NZ.ok.plt {Z:NZ} (hZ:Z.ok) (a:Z.tO.den):Z.p<Z.tO.size:=by
 have:=aI (hZ.at_p a);rw[Ty.row_size]at this;exact this
def gA (Z:NZ) (c:Array Value):List (List V):=(List.range Z.n).map fun i=>(List.range Z.tO.size).map fun j=>.v (c.getD (Z.o+i*Z.tO.size+j) undef)
theorem jN (Z:NZ) (c:Array Value):(gA Z c).length=Z.n:=by simp [gA]
theorem PF {Z:NZ} {c:Array Value} {i:Nat} (h:i<Z.n):(gA Z c)[i]? =some ((List.range Z.tO.size).map fun j=>.v (c.getD (Z.o+i*Z.tO.size+j) undef)):=by
 simp [gA,h]
def gW (Z:NZ) (a:Z.tO.den) (j n:Nat):List V:=(Z.tO.row a).set Z.p (.oL j n)
structure NFoc (Z:NZ) (k:Nat) (a:Z.tO.den) (h:List XO) (ι:Iota) (c:Array Value) (g:Nat->Nat×Nat) (ι1:Iota):Prop where
 X:∀q,ι1.X q↔ι.X q/\q≠Z.b/\(Z.get a≠ []->q≠(g k).1)
 at0:∃l,ι1 h.length=some l/\l.blk=Z.b/\l.base=Z.o/\l.sz=Z.tO.size
 ob:∀q,Ob (dens (h++ [.row1 Z.tO.size (gA Z c) k (gW Z a (h.length+1) (Z.get a).length) Z.e1,.opt Z.t (Z.get a) Z.e2])) ι1 q->Ob (dens h) ι q\/q=Z.b\/(Z.get a≠ []/\q=(g k).1)
theorem qCO {Z:NZ} (hZ:Z.ok) {F0:Nat->Prop} {X0:Nat->Prop} {y0:Value} {R:List Z.tO.den} {sl:List V} {h:List XO} {ι:Iota} {A:Act} {w:World} {c:Array Value} {fr:Nat×Nat} {g:Nat->Nat×Nat} {L:Nat}
  (r:SR ⟨sl.set L (.v y0),dens h⟩ ι A w) (hL:L<sl.length) (N:Nst Z F0 X0 y0 R ι w c fr g) {k:Nat} {a:Z.tO.den} (hk:R[k]? =some a) :
  ∃ι1,SR ⟨sl.set L (.sO h.length 0 Z.n),dens (h++ [.row1 Z.tO.size (gA Z c) k (gW Z a (h.length+1) (Z.get a).length) Z.e1,.opt Z.t (Z.get a) Z.e2])⟩ ι1 A w/\NFoc Z k a h ι c g ι1:=by
 have H:=r.heap;have hkn:k<Z.n:=by have:=aI hk;rw[N.len]at this;exact this
 have hp:=hZ.plt a;obtain⟨cap,hy0,hcap,hroom⟩:=N.val;have inr:∀i j,i<Z.n->j<Z.tO.size->Z.o+i*Z.tO.size+j<c.size:=fun i j hi hj=>by have:=xS hi hj hcap;omega
 have hin:∃l1:Option Loc,(Z.get a= []->l1=none)/\(Z.get a≠ []->∃l,l1=some l/\l.blk=(g k).1/\l.base=(g k).2/\l.sz=Z.t.size):=by
  by_cases ha:Z.get a= []
  ·exact⟨none,fun _=>rfl,fun q=>(q ha).elim⟩
  ·obtain⟨h1,h2,h3,y,hy,cap,c2,fr2,q1,q2,q3,q4,q5⟩:=N.own k a hk ha
   exact⟨some ⟨(g k).1,(g k).2,Z.t.size,q4⟩,fun q=>(ha q).elim,fun _=>⟨_,rfl,rfl,rfl,rfl⟩⟩
 obtain⟨l1,hl0,hl1⟩:=hin;obtain⟨ι1,i0,i1,i2,iX⟩:∃ι1:Iota,ι1 h.length=some ⟨Z.b,Z.o,Z.tO.size,N.al⟩/\ι1 (h.length+1)=l1/\(∀id,id≠h.length->id≠h.length+1->ι1 id=ι id)/\(∀q,ι1.X q↔ι.X q/\q≠Z.b/\(Z.get a≠ []->q≠(g k).1)):=
  ⟨{at':=fun i=>if i=h.length then some ⟨Z.b,Z.o,Z.tO.size,N.al⟩else if i=h.length+1 then l1 else ι i,X:=fun q=>ι.X q/\q≠Z.b/\(Z.get a≠ []->q≠(g k).1)},
    by show(if _=_ then _ else _)=_;rw[if_pos rfl],by show(if _=_ then _ else if _=_ then _ else _)=_;rw[if_neg om,if_pos rfl],
    fun id h1 h2=>by show(if _=_ then _ else if _=_ then _ else _)=_;rw[if_neg h1,if_neg h2],fun q=>km⟩
 have hdl:(dens h).length=h.length:=eD h;have io:∀id l,ι id=some l->ι1 id=some l:=fun id l hl=>by
  have:id<h.length:=by
   rcases gu id h.length with q|q
   ·exact q
   ·rw[H.out id (by rw[hdl];exact q)]at hl;cases hl
  rw[i2 id om om];exact hl
 generalize hX0:(XO.row1 Z.tO.size (gA Z c) k (gW Z a (h.length+1) (Z.get a).length) Z.e1)=x0;have hd0:x0.den = .live ⟨Z.tO.size,(gA Z c).set k (gW Z a (h.length+1) (Z.get a).length),Z.e1⟩:=by rw[<-hX0];rfl
 have gold:∀id,id<h.length->(dens (h++ [x0,.opt Z.t (Z.get a) Z.e2]))[id]? =(dens h)[id]?:=fun id hid=>by
  rw[nN,gn (by rw[hdl];exact hid)]
 have g0:(dens (h++ [x0,.opt Z.t (Z.get a) Z.e2]))[h.length]? =some x0.den:=by
  rw[nN,gm (by rw[hdl];exact ki _),hdl,kh];rfl
 have g1:(dens (h++ [x0,.opt Z.t (Z.get a) Z.e2]))[h.length+1]? =some (XO.opt Z.t (Z.get a) Z.e2).den:=by
  rw[nN,gm (by rw[hdl];omega),hdl,show h.length+1-h.length=1 by omega];rfl
 have g2:∀id,h.length+2<=id->(dens (h++ [x0,.opt Z.t (Z.get a) Z.e2]))[id]? =none:=fun id hid=>by
  rw[gf];rw[eD];simp;omega
 have gopt:(XO.opt Z.t (Z.get a) Z.e2).den=(if Z.get a= []then .dead else .live ⟨Z.t.size,(Z.get a).map Z.t.row,Z.e2⟩):=by
  simp only[XO.den];by_cases ha:Z.get a= []
  ·simp [ha]
  ·simp [ha]
 have obs:∀q,Ob (dens (h++ [x0,.opt Z.t (Z.get a) Z.e2])) ι1 q->Ob (dens h) ι q\/q=Z.b\/(Z.get a≠ []/\q=(g k).1):=by
  rintro q ⟨id,o,l,q1,q2,q3⟩;rcases gw id h.length with hid|hid|hid
  ·rw[gold id hid]at q1
   rw[i2 id om om]at q2;exact .inl ⟨id,o,l,q1,q2,q3⟩
  ·subst hid
   rw[i0]at q2;injection q2 with q2;subst q2;exact .inr (.inl q3.symm)
  ·by_cases hid2:id=h.length+1
   ·subst hid2
    rw[i1]at q2;by_cases ha:Z.get a= []
    ·rw[hl0 ha]at q2;cases q2
    ·obtain⟨l',e1,e2,_⟩:=hl1 ha
     rw[e1]at q2;injection q2 with q2;subst q2;exact .inr (.inr ⟨ha,q3.symm.trans e2⟩)
   ·rw[g2 id om]at q1;cases q1
 have mle:∀q,Mt (dens (h++ [x0,.opt Z.t (Z.get a) Z.e2])) ι1 q->Mt (dens h) ι q:=by
  rintro q (q1|q1)
  ·exact .inl ((iX q).1 q1).1
  ·rcases obs q q1 with q1|q1|⟨q1,q2⟩
   ·exact .inr q1
   ·exact .inl ((N.X q).2 (.inr (.inl q1)))
   ·exact .inl ((N.X q).2 (.inr (.inr ⟨k,a,hk,q1,q2⟩)))
 have old:∀ {x:V} {y:Value},Rep w ι (Mt (dens h) ι) x y->Rep w ι1 (Mt (dens (h++ [x0,.opt Z.t (Z.get a) Z.e2])) ι1) x y:=fun q=>q.same io mle
 refine⟨ι1,⟨r.defers,⟨?_,?_⟩,?_⟩,iX,⟨_,i0,rfl,rfl,rfl⟩,by rw[hX0];exact obs⟩
 ·have:=r.slots.1;simpa using this
 ·intro i x hx
  by_cases hi:i=L
  ·subst hi
   obtain⟨y,y1,y2⟩:=r.slots.2 i _ (ga hL);rw[ga hL]at hx;injection hx with hx;subst hx;cases y2;refine⟨_,y1,?_⟩;have:=Rep.sO (w:=w) (ι:=ι1) (M:=Mt (dens (h++ [x0,.opt Z.t (Z.get a) Z.e2])) ι1) h.length 0 Z.n cap ⟨Z.b,Z.o,Z.tO.size,N.al⟩ c Z.e1 fr i0 hcap N.blk (by simpa using hroom);rw[hy0];simpa using this
  ·rw[gb (Ne.symm hi)]at hx
   obtain⟨y,y1,y2⟩:=r.slots.2 i x (by simp only;rw[gb (Ne.symm hi)];exact hx);exact⟨y,y1,old y2⟩
 ·refine⟨?_,?_,?_,?_,?_,?_⟩
  ·intro id o ho
   rcases gw id h.length with hid|hid|hid
   ·rw[gold id hid]at ho
    obtain⟨l,c1,fr1,e1,la⟩:=H.live id o ho;exact⟨l,c1,fr1,io _ _ e1,la.blk,la.unfrozen,la.sz,la.rows,la.fits,fun i hi j hj=>let ⟨z,z1,z2⟩:=la.reads i hi j hj;⟨z,z1,old z2⟩⟩
   ·subst hid
    rw[g0,hd0]at ho;injection ho with ho;injection ho with ho;subst ho;refine⟨⟨Z.b,Z.o,Z.tO.size,N.al⟩,c,fr,i0,⟨N.blk,N.unf,rfl,?_,?_,?_⟩⟩
    ·intro q hq
     rcases List.mem_or_eq_of_mem_set hq with hq|hq
     ·obtain⟨i,hi,rfl⟩:=gx.1 hq;simp
     ·subst hq;simp only[gW,gg];exact Ty.row_size _ _
    ·show Z.o+((gA Z c).set k _).length*Z.tO.size<=c.size
     rw[gg,jN];have:=gq Z.tO.size hcap;omega
    ·intro i hi j hj
     have hiZ:i<Z.n:=by have:i<((gA Z c).set k (gW Z a (h.length+1) (Z.get a).length)).length:=hi;rw[gg,jN]at this;exact this
     show ∃x,c[Z.o+i*Z.tO.size+j]? =some x/\Rep w ι1 _ (((gA Z c).set k (gW Z a (h.length+1) (Z.get a).length))[i][j]) x;have hj':j<(((gA Z c).set k (gW Z a (h.length+1) (Z.get a).length))[i]).length:=hj;by_cases hik:i=k
     ·subst hik
      have e2:((gA Z c).set i (gW Z a (h.length+1) (Z.get a).length))[i]'(by rw[gg,jN];exact hiZ)=gW Z a (h.length+1) (Z.get a).length:=sm
      simp only[e2]at hj' ⊢;have hjs:j<Z.tO.size:=by simp only[gW,gg,Ty.row_size]at hj';exact hj'
      by_cases hjp:j=Z.p
      ·subst hjp
       have e3:(gW Z a (h.length+1) (Z.get a).length)[Z.p] = .oL (h.length+1) (Z.get a).length:=by simp [gW]
       rw[e3];by_cases ha:Z.get a= []
       ·refine⟨_,N.nil i a hk ha,.oL _ _ _ ?_⟩
        rw[ha];exact .v _
       ·obtain⟨h1,h2,h3,y,hy,cap,c2,fr2,q1,q2,q3,q4,q5,q6,q7⟩:=N.own i a hk ha
        obtain⟨l,u1,u2,u3,u4⟩:=hl1 ha;refine⟨y,hy,.oL _ _ _ ?_⟩;rw[if_neg (fun q=>ha (kb.1 q)),q1];have:=Rep.sO (w:=w) (ι:=ι1) (M:=Mt (dens (h++ [x0,.opt Z.t (Z.get a) Z.e2])) ι1) (h.length+1) 0 (Z.get a).length cap l c2 Z.e2 fr2 (i1.trans u1) q5 (by rw[u2];exact q2) (by rw[u3,u4];simpa using q6);rw[u2,u3]at this;simpa using this
      ·have e3:(gW Z a (h.length+1) (Z.get a).length)[j]=(Z.tO.row a)[j]'(by rw[Ty.row_size];exact hjs):=by simp only[gW];rw[hu (Ne.symm hjp)]
       rw[e3];obtain⟨z,z1,z2⟩:=N.cells i a j _ hk hjp (gc (by rw[Ty.row_size];exact hjs));exact⟨z,z2,by rw[z1];exact .v z⟩
     ·have e1:=PF (Z:=Z) (c:=c) hiZ
      have e2:((gA Z c).set k (gW Z a (h.length+1) (Z.get a).length))[i]'(by rw[gg,jN];exact hiZ)=(List.range Z.tO.size).map fun j=>.v (c.getD (Z.o+i*Z.tO.size+j) undef):=by
       rw[hu (Ne.symm hik)];rw[gc (by rw[jN];exact hiZ)]at e1;injection e1
      simp only[e2]at hj' ⊢;have hjs:j<Z.tO.size:=by simpa using hj'
      have hlt:=inr i j hiZ hjs;refine⟨_,gr hlt,?_⟩;simp only[List.getElem_map,List.getElem_range];rw[qEP (gr hlt)];exact .v _
   ·by_cases hid2:id=h.length+1
    ·subst hid2
     rw[g1,gopt]at ho;by_cases ha:Z.get a= []
     ·rw[if_pos ha]at ho;cases ho
     ·rw[if_neg ha]at ho
      injection ho with ho;injection ho with ho;subst ho;obtain⟨h1,h2,h3,y,hy,cap,c2,fr2,q1,q2,q3,q4,q5,q6,q7⟩:=N.own k a hk ha;obtain⟨l,u1,u2,u3,u4⟩:=hl1 ha;refine⟨l,c2,fr2,i1.trans u1,⟨by rw[u2];exact q2,q3.move (ke _),u4,?_,?_,?_⟩⟩
      ·intro q hq
       obtain⟨v,_,rfl⟩:=gx.1 hq;exact Ty.row_size _ _
      ·show l.base+((Z.get a).map Z.t.row).length*Z.t.size<=c2.size
       rw[u3,go];have:=gq Z.t.size q5;omega
      ·intro i hi j hj
       have hi':i<(Z.get a).length:=by simpa using hi
       have e1:((Z.get a).map Z.t.row)[i]=Z.t.row (Z.get a)[i]:=sm
       have hj':j<(Z.t.row (Z.get a)[i]).length:=by
        have:j<(((Z.get a).map Z.t.row)[i]).length:=hj;rw[e1]at this;exact this
       obtain⟨z,z1,z2⟩:=q7 i (Z.get a)[i] j _ (gc hi') (gc hj');refine⟨z,by rw[u3];exact z2,?_⟩;have:((Z.get a).map Z.t.row)[i][j] = .v z:=by
        rw[<-z1];congr 1
       show Rep w _ _ (((Z.get a).map Z.t.row)[i][j]) z;rw[this];exact .v z
    ·rw[g2 id om]at ho;cases ho
  ·intro id hid
   rcases gw id h.length with q|q|q
   ·rw[gold id q]at hid
    rw[i2 id om om];exact H.free id hid
   ·subst q;rw[g0,hd0]at hid;cases hid
   ·by_cases hid2:id=h.length+1
    ·subst hid2;rw[g1,gopt]at hid;split at hid<;>cases hid
    ·rw[g2 id om]at hid;cases hid
  ·intro id hid
   have hid:h.length+2<=id:=by rw[eD]at hid;simpa using hid
   rw[i2 id om om];exact H.out id (by rw[hdl];omega)
  ·intro ia oa la ib ob lb ha1 ha2 hb1 hb2 hbk
   have cls:∀id o l,(dens (h++ [x0,.opt Z.t (Z.get a) Z.e2]))[id]? =some (.live o)->ι1 id=some l->(id<h.length/\(dens h)[id]? =some (.live o)/\ι id=some l)\/(id=h.length/\l.blk=Z.b)\/(id=h.length+1/\Z.get a≠ []/\l.blk=(g k).1):=by
    intro id o l u1 u2;rcases gw id h.length with q|q|q
    ·rw[gold id q]at u1;rw[i2 id om om]at u2;exact .inl ⟨q,u1,u2⟩
    ·subst q;rw[i0]at u2;injection u2 with u2;subst u2;exact .inr (.inl ⟨rfl,rfl⟩)
    ·by_cases hid2:id=h.length+1
     ·subst hid2;rw[i1]at u2
      by_cases hq:Z.get a= []
      ·rw[hl0 hq]at u2;cases u2
      ·obtain⟨l',e1,e2,_⟩:=hl1 hq
       rw[e1]at u2;injection u2 with u2;subst u2;exact .inr (.inr ⟨rfl,hq,e2⟩)
     ·rw[g2 id om]at u1;cases u1
   have xb:ι.X Z.b:=(N.X _).2 (.inr (.inl rfl));have xg:Z.get a≠ []->ι.X (g k).1:=fun q=>(N.X _).2 (.inr (.inr ⟨k,a,hk,q,rfl⟩))
   rcases cls ia oa la ha1 ha2 with⟨p1,p2,p3⟩|⟨p1,p2⟩|⟨p1,p2,p3⟩<;>rcases cls ib ob lb hb1 hb2 with⟨r1,r2,r3⟩|⟨r1,r2⟩|⟨r1,r2,r3⟩
   ·exact H.apart ia oa la ib ob lb p2 p3 r2 r3 hbk
   ·exact(H.xob _ xb ⟨ia,oa,la,p2,p3,hbk.trans r2⟩).elim
   ·exact(H.xob _ (xg r2) ⟨ia,oa,la,p2,p3,hbk.trans r3⟩).elim
   ·exact(H.xob _ xb ⟨ib,ob,lb,r2,r3,hbk.symm.trans p2⟩).elim
   ·rw[p1,r1]
   ·exact((N.own k a hk r2).2.1 (r3.symm.trans (hbk.symm.trans p2))).elim
   ·exact(H.xob _ (xg p2) ⟨ib,ob,lb,r2,r3,hbk.symm.trans p3⟩).elim
   ·exact((N.own k a hk p2).2.1 (p3.symm.trans (hbk.trans r2))).elim
   ·rw[p1,r1]
  ·intro b hb
   exact H.xlt b ((iX b).1 hb).1
  ·intro b hb q
   obtain⟨q0,q1,q2⟩:=(iX b).1 hb;rcases obs b q with e|e|⟨e1,e2⟩
   ·exact H.xob b q0 e
   ·exact q1 e
   ·exact q2 e1 e2
theorem qN5 {h:List XO} {i j id:Nat} {o:AObj} (e:(dens ((h.set i (.raw .dead)).set j (.raw .dead)))[id]? =some (.live o)):id≠i/\id≠j/\(dens h)[id]? =some (.live o):=by
 have h1:∀(h:List XO) (i id:Nat),(dens (h.set i (.raw .dead)))[id]? =some (.live o)->id≠i/\(dens h)[id]? =some (.live o):=by
  intro h i id e;rw[aX]at e;by_cases q:i=id
  ·subst q
   rw[ga (by have:=aI e;simpa using this)]at e;cases e
  ·rw[gb q]at e;exact⟨fun p=>q p.symm,e⟩
 obtain⟨a1,a2⟩:=h1 _ _ _ e;obtain⟨b1,b2⟩:=h1 _ _ _ a2;exact⟨b1,a1,b2⟩
theorem TB {Z:NZ} (hZ:Z.ok) {F0:Nat->Prop} {X0:Nat->Prop} {y0:Value} {R:List Z.tO.den} {h:List XO} {ι:Iota} {w:World} {c:Array Value} {fr:Nat×Nat} {g:Nat->Nat×Nat} {L:Nat} {k:Nat} {a:Z.tO.den} {ι1:Iota}
  (N:Nst Z F0 X0 y0 R ι w c fr g) (hk:R[k]? =some a) (F:NFoc Z k a h ι c g ι1)
  (H1:HRel (dens (h++ [.row1 Z.tO.size (gA Z c) k (gW Z a (h.length+1) (Z.get a).length) Z.e1,.opt Z.t (Z.get a) Z.e2])) ι1 w)
  (hF1:∀q,Ob (dens h) ι q->F0 q) (hF2:∀q,w.heap.size<=q->F0 q) (hF3:F0 Z.b) {n:Nat} (hn:h.length<n) {h':List XO} {ι':Iota} {w':World} {A':Act} {sl':List V}
  (ev:EvN n (dens (h++ [.row1 Z.tO.size (gA Z c) k (gW Z a (h.length+1) (Z.get a).length) Z.e1,.opt Z.t (Z.get a) Z.e2])) ι1 w (dens h') ι' w') (r':SR ⟨sl',dens h'⟩ ι' A' w') (hL:sl'[L]? =some (.sO h.length 0 Z.n))
  {a2:Z.tO.den} {j:Nat} (e0:h'[h.length]? =some (.row1 Z.tO.size (gA Z c) k (gW Z a2 j (Z.get a2).length) Z.e1)) (ej:h'[j]? =some (.opt Z.t (Z.get a2) Z.e2)) (hj:j≠h.length) :
  ∃ι2 y2 c2 fr2 g2,SR ⟨sl'.set L (.v y2),dens ((h'.set h.length (.raw .dead)).set j (.raw .dead))⟩ ι2 A' w'/\Nst Z F0 X0 y2 (R.set k a2) ι2 w' c2 fr2 g2 /\
   ∀q,q<w.heap.size->¬Ob (dens h) ι q->q≠Z.b->(Z.get a≠ []->q≠(g k).1)->w'.heap[q]? =w.heap[q]? /\¬Ob (dens ((h'.set h.length (.raw .dead)).set j (.raw .dead))) ι2 q:=by
 have H':=r'.heap;have hkR:k<R.length:=aI hk;have hkn:k<Z.n:=by rw[<-N.len];exact hkR
 have hp:=hZ.plt a2;have d0:(dens h')[h.length]? =some (.live ⟨Z.tO.size,(gA Z c).set k (gW Z a2 j (Z.get a2).length),Z.e1⟩):=by rw[aJ,e0];rfl
 obtain⟨l0,i1,b1,o1,s1⟩:=F.at0;have i':ι' h.length=some l0:=ev.iota _ _ hn i1;obtain⟨l0',c',fr',q1,la0⟩:=H'.live _ _ d0;rw[i']at q1;injection q1 with q1;subst q1;have hb0:w'.heap[Z.b]? =some (.cells c' Z.e1 fr'):=by rw[<-b1];exact la0.blk
 have hcs:c'.size=c.size:=by
  obtain⟨c3,fr3,u1,u2⟩:=ev.sizes _ _ _ _ N.blk;rw[hb0]at u1;injection u1 with u1;injection u1 with u1 _ _;rw[u1];exact u2
 have hob0:Ob (dens h') ι' Z.b:=⟨_,_,_,d0,i',b1⟩
 obtain⟨gj,hgj⟩:∃gj:Nat×Nat,Z.get a2≠ []->∃lj cj frj,ι' j=some lj/\LiveAt w' ι' (Mt (dens h') ι') ⟨Z.t.size,(Z.get a2).map Z.t.row,Z.e2⟩ lj cj frj/\gj=(lj.blk,lj.base)/\(dens h')[j]? =some (.live ⟨Z.t.size,(Z.get a2).map Z.t.row,Z.e2⟩):=by
  by_cases ha:Z.get a2= []
  ·exact⟨(0,0),fun q=>(q ha).elim⟩
  ·have dj:(dens h')[j]? =some (.live ⟨Z.t.size,(Z.get a2).map Z.t.row,Z.e2⟩):=by rw[aJ,ej];simp [XO.den,ha]
   obtain⟨lj,cj,frj,u1,u2⟩:=H'.live _ _ dj;exact⟨(lj.blk,lj.base),fun _=>⟨lj,cj,frj,u1,u2,rfl,dj⟩⟩
 have hobj:Z.get a2≠ []->Ob (dens h') ι' gj.1:=fun q=>by
  obtain⟨lj,cj,frj,u1,u2,u3,u4⟩:=hgj q;exact⟨j,_,lj,u4,u1,by rw[u3]⟩
 have same1:∀q,ι1.X q->w'.heap[q]? =w.heap[q]? /\¬Ob (dens h') ι' q:=fun q hq=>ev.frame q (H1.xlt q hq) (H1.xob q hq)
 have inner:∀k' a',k'≠k->R[k']? =some a'->Z.get a'≠ []->ι1.X (g k').1:=fun k' a' hne h1 h2=>
  (F.X _).2 ⟨(N.X _).2 (.inr (.inr ⟨k',a',h1,h2,rfl⟩)),(N.own k' a' h1 h2).2.1,fun ha e=>hne (N.apart k' a' k a h1 h2 hk ha e)⟩
 have gjb:Z.get a2≠ []->gj.1≠Z.b:=fun q e=>by
  obtain⟨lj,cj,frj,u1,u2,u3,u4⟩:=hgj q;exact hj (H'.apart j _ lj h.length _ l0 u4 u1 d0 i' (by rw[u3]at e;exact e.trans b1.symm))
 have gjF:Z.get a2≠ []->F0 gj.1:=fun q=>by
  rcases gu gj.1 w.heap.size with hlt|hge
  ·by_cases ho:Ob (dens (h++ [.row1 Z.tO.size (gA Z c) k (gW Z a (h.length+1) (Z.get a).length) Z.e1,.opt Z.t (Z.get a) Z.e2])) ι1 gj.1
   ·rcases F.ob _ ho with e|e|⟨e1,e2⟩
    ·exact hF1 _ e
    ·rw[e];exact hF3
    ·rw[e2];exact(N.own k a hk e1).2.2.1
   ·exact absurd (hobj q) (ev.frame _ hlt ho).2
  ·exact hF2 _ hge
 have gjX:Z.get a2≠ []->¬X0 gj.1:=fun q hx=>by
  have:ι1.X gj.1:=(F.X _).2 ⟨(N.X _).2 (.inl hx),gjb q,fun ha e=>(N.own k a hk ha).1 (by rw[<-e];exact hx)⟩;exact(same1 _ this).2 (hobj q)
 have setk:∀k' a',(R.set k a2)[k']? =some a'->(k'=k/\a'=a2)\/(k'≠k/\R[k']? =some a'):=fun k' a' q=>by
  by_cases e:k=k'
  ·subst e;rw[ga hkR]at q;injection q with q;exact .inl ⟨rfl,q.symm⟩
  ·rw[gb e]at q;exact .inr ⟨fun p=>e p.symm,q⟩
 have inr:∀i jj,i<Z.n->jj<Z.tO.size->Z.o+i*Z.tO.size+jj<c.size:=fun i jj hi hjj=>by
  obtain⟨cap,_,hcap,hroom⟩:=N.val;have:=xS hi hjj hcap;omega
 have rdk:∀jj (x:V),(gW Z a2 j (Z.get a2).length)[jj]? =some x->∃z,c'[Z.o+k*Z.tO.size+jj]? =some z/\Rep w' ι' (Mt (dens h') ι') x z:=fun jj x hx=>by
  have hlt:k<((gA Z c).set k (gW Z a2 j (Z.get a2).length)).length:=by rw[gg,jN];exact hkn
  have e2:((gA Z c).set k (gW Z a2 j (Z.get a2).length))[k]=gW Z a2 j (Z.get a2).length:=sm
  have hjl:jj<(((gA Z c).set k (gW Z a2 j (Z.get a2).length))[k]).length:=by rw[e2];exact aI hx
  obtain⟨z,z1,z2⟩:=la0.reads k hlt jj hjl;rw[o1]at z1;refine⟨z,z1,?_⟩;have:((gA Z c).set k (gW Z a2 j (Z.get a2).length))[k][jj]=x:=by
   have h3:(gW Z a2 j (Z.get a2).length)[jj]'(aI hx)=x:=by rw[gc (aI hx)]at hx;injection hx
   simp only[e2];exact h3
  rw[<-this];exact z2
 have rdo:∀i jj,i<Z.n->i≠k->jj<Z.tO.size->c'[Z.o+i*Z.tO.size+jj]? =c[Z.o+i*Z.tO.size+jj]?:=fun i jj hi hik hjj=>by
  have hlt:i<((gA Z c).set k (gW Z a2 j (Z.get a2).length)).length:=by rw[gg,jN];exact hi
  have e1:=PF (Z:=Z) (c:=c) hi;have e2:((gA Z c).set k (gW Z a2 j (Z.get a2).length))[i]=(List.range Z.tO.size).map fun j=>.v (c.getD (Z.o+i*Z.tO.size+j) undef):=by
   rw[hu (Ne.symm hik)];rw[gc (by rw[jN];exact hi)]at e1;injection e1
  have hjl:jj<(((gA Z c).set k (gW Z a2 j (Z.get a2).length))[i]).length:=by rw[e2];simpa using hjj
  obtain⟨z,z1,z2⟩:=la0.reads i hlt jj hjl;rw[o1]at z1;have:((gA Z c).set k (gW Z a2 j (Z.get a2).length))[i][jj] = .v (c.getD (Z.o+i*Z.tO.size+jj) undef):=by simp only[e2];simp
  rw[this]at z2;cases z2;have hc:=gr (inr i jj hi hjj);rw[qEP hc]at z1;rw[z1,hc]
 have hlen:∀k' a',R[k']? =some a'->k'<Z.n:=fun k' a' q=>by rw[<-N.len];exact aI q
 obtain⟨ι2,at2,X2⟩:∃ι2:Iota,(∀id,ι2 id=ι' id)/\∀q,ι2.X q↔ι'.X q\/q=Z.b\/(Z.get a2≠ []/\q=gj.1):=⟨{at':=ι'.at',X:=fun q=>ι'.X q\/q=Z.b\/(Z.get a2≠ []/\q=gj.1)},fun _=>rfl,fun _=>km⟩
 generalize hh2:(h'.set h.length (.raw .dead)).set j (.raw .dead)=h2;have get2:∀id o,(dens h2)[id]? =some (.live o)->id≠h.length/\id≠j/\(dens h')[id]? =some (.live o):=fun id o q=>by rw[<-hh2]at q;exact qN5 q
 have ob2:∀q,Ob (dens h2) ι2 q->Ob (dens h') ι' q:=by
  rintro q ⟨id,o,l,u1,u2,u3⟩;exact⟨id,o,l,(get2 id o u1).2.2,by rw[<-at2];exact u2,u3⟩
 have m2:∀q,Mt (dens h2) ι2 q->Mt (dens h') ι' q:=by
  rintro q (u|u)
  ·rcases(X2 q).1 u with u|u|⟨u1,u2⟩
   ·exact .inl u
   ·rw[u];exact .inr hob0
   ·rw[u2];exact .inr (hobj u1)
  ·exact .inr (ob2 q u)
 have old:∀ {x:V} {y:Value},Rep w' ι' (Mt (dens h') ι') x y->Rep w' ι2 (Mt (dens h2) ι2) x y:=fun q=>q.same (fun id l e=>by rw[at2];exact e) m2
 obtain⟨y2,t2,rep2⟩:=r'.slots.2 L _ hL;have val2:∃cap,y2 = .slice (some ⟨Z.b,Z.o,none⟩) Z.n cap/\Z.n<=cap/\Z.o+cap*Z.tO.size<=c'.size:=by
  cases rep2 with
  |sO _ _ _ cap l c3 e fr3 hl hcap hb hs=>
   rw[i']at hl;injection hl with hl;subst hl;rw[b1]at hb;rw[hb0]at hb;injection hb with hb;injection hb with hb _ _;subst hb;refine⟨cap,by rw[b1,o1];simp,hcap,?_⟩;rw[o1,s1]at hs;simpa using hs
 refine⟨ι2,y2,c',fr',fun q=>if q=k then gj else g q,⟨r'.defers,⟨by have:=r'.slots.1;simpa using this,fun i x hx=>?_⟩,?_⟩,?_,?_⟩
 ·by_cases hi:i=L
  ·subst hi
   rw[ga (aI hL)]at hx;injection hx with hx;subst hx;exact⟨y2,t2,.v _⟩
  ·rw[gb (Ne.symm hi)]at hx
   obtain⟨z,z1,z2⟩:=r'.slots.2 i x hx;exact⟨z,z1,old z2⟩
 ·refine⟨fun id o ho=>?_,fun id hid=>?_,fun id hid=>?_,fun ia oa la ib ob lb p1 p2 p3 p4=>?_,fun q hq=>?_,fun q hq ho=>?_⟩
  ·obtain⟨u1,u2,u3⟩:=get2 id o ho
   obtain⟨l,c3,fr3,v1,la⟩:=H'.live id o u3;exact⟨l,c3,fr3,by rw[at2];exact v1,la.blk,la.unfrozen,la.sz,la.rows,la.fits,fun i hi jj hjj=>let ⟨z,z1,z2⟩:=la.reads i hi jj hjj;⟨z,z1,old z2⟩⟩
  ·rw[at2]
   refine H'.free id ?_;rw[<-hh2,aX,aX]at hid;by_cases q1:j=id
   ·subst q1
    rw[ga (by have:=aI hid;simpa using this)]at hid;cases hid
   ·rw[gb q1]at hid
    by_cases q2:h.length=id
    ·subst q2
     rw[ga (by have:=aI hid;simpa using this)]at hid;cases hid
    ·rw[gb q2]at hid;exact hid
  ·rw[at2]
   refine H'.out id ?_;rw[<-hh2,aX,aX]at hid;simpa using hid
  ·rw[at2]at p2 p4
   exact H'.apart ia oa la ib ob lb (get2 _ _ p1).2.2 p2 (get2 _ _ p3).2.2 p4
  ·rcases(X2 q).1 hq with u|u|⟨u1,u2⟩
   ·exact H'.xlt q u
   ·rw[u];exact H'.blk_lt hob0
   ·rw[u2];exact H'.blk_lt (hobj u1)
  ·rcases(X2 q).1 hq with u|u|⟨u1,u2⟩
   ·exact H'.xob q u (ob2 q ho)
   ·obtain⟨id,o,l,v1,v2,v3⟩:=ho
    obtain⟨w1,w2,w3⟩:=get2 id o v1;rw[at2]at v2;exact w1 (H'.apart id o l h.length _ l0 w3 v2 d0 i' (v3.trans (u.trans b1.symm)))
   ·obtain⟨id,o,l,v1,v2,v3⟩:=ho
    obtain⟨w1,w2,w3⟩:=get2 id o v1;rw[at2]at v2;obtain⟨lj,cj,frj,t1,t2,t3,t4⟩:=hgj u1;exact w2 (H'.apart id o l j _ lj w3 v2 t4 t1 (v3.trans (u2.trans (by rw[t3]))))
 ·refine⟨hb0,Unfr.move la0.unfrozen (ke _),N.al,by rw[gg];exact N.len,val2,fun q=>?_,N.x0b,?_,?_,?_,?_⟩
  ·rw[X2 q,ev.away,F.X q,N.X q]
   constructor
   ·rintro(⟨u|u|⟨k',a',v1,v2,v3⟩,u2,u3⟩|u|⟨u1,u2⟩)
    ·exact .inl u
    ·exact(u2 u).elim
    ·have hne:k'≠k:=fun e=>by
       subst e;rw[hk]at v1;injection v1 with v1;subst v1;exact u3 v2 v3
     exact .inr (.inr ⟨k',a',by rw[gb (Ne.symm hne)];exact v1,v2,by rw[if_neg hne];exact v3⟩)
    ·exact .inr (.inl u)
    ·exact .inr (.inr ⟨k,a2,ga hkR,u1,by rw[if_pos rfl];exact u2⟩)
   ·rintro(u|u|⟨k',a',v1,v2,v3⟩)
    ·exact .inl ⟨.inl u,fun e=>N.x0b (by rw[<-e];exact u),fun ha e=>(N.own k a hk ha).1 (by rw[<-e];exact u)⟩
    ·exact .inr (.inl u)
    ·rcases setk k' a' v1 with⟨rfl,rfl⟩|⟨hne,hr⟩
     ·rw[if_pos rfl]at v3;exact .inr (.inr ⟨v2,v3⟩)
     ·rw[if_neg hne]at v3
      have:=(F.X _).1 (inner k' a' hne hr v2);rw[v3];exact .inl ⟨.inr (.inr ⟨k',a',hr,v2,rfl⟩),this.2.1,this.2.2⟩
  ·intro k' a' jj x hr hjp hx
   have hjs:jj<Z.tO.size:=by have:=aI hx;rw[Ty.row_size]at this;exact this
   rcases setk k' a' hr with⟨rfl,rfl⟩|⟨hne,hr⟩
   ·obtain⟨z,rfl⟩:=hZ.flatO _ _ _ hjp hx
    obtain⟨z2,z3,z4⟩:=rdk jj (.v z) (by simp only[gW];rw[gb (Ne.symm hjp)];exact hx);cases z4;exact⟨z,rfl,z3⟩
   ·rw[rdo k' jj (hlen _ _ hr) hne hjs]
    exact N.cells k' a' jj x hr hjp hx
  ·intro k' a' hr ha
   rcases setk k' a' hr with⟨rfl,rfl⟩|⟨hne,hr⟩
   ·obtain⟨z2,z3,z4⟩:=rdk Z.p (.oL j (Z.get a').length) (by simp only[gW];rw[ga (by rw[Ty.row_size];exact hp)])
    rw[ha]at z4;cases z4 with|oL _ _ _ z4=>cases z4;exact z3
   ·rw[rdo k' Z.p (hlen _ _ hr) hne hp]
    exact N.nil k' a' hr ha
  ·intro k' a' hr ha
   rcases setk k' a' hr with⟨rfl,rfl⟩|⟨hne,hr⟩
   ·rw[if_pos rfl]
    refine⟨gjX ha,gjb ha,gjF ha,?_⟩;obtain⟨z2,z3,z4⟩:=rdk Z.p (.oL j (Z.get a').length) (by simp only[gW];rw[ga (by rw[Ty.row_size];exact hp)]);refine⟨z2,z3,?_⟩;obtain⟨lj,cj,frj,t1,t2,t3,t4⟩:=hgj ha;cases z4 with
    |oL _ _ _ z4=>
     rw[if_neg (fun q=>ha (kb.1 q))]at z4;cases z4 with
     |sO _ _ _ cap l c3 e fr3 hl hcap hb hs=>
      rw[t1]at hl;injection hl with hl;subst hl;have hlb:=t2.blk;rw[hb]at hlb;injection hlb with hlb;injection hlb with u1 u2 u3;subst u1 u2 u3;have hsz:lj.sz=Z.t.size:=t2.sz;rw[t3];refine⟨cap,c3,fr3,sm,hb,Unfr.move t2.unfrozen (ke _),by have:=lj.al;rw[hsz]at this;exact this,hcap,by rw[hsz]at hs;simpa using hs,fun i a jj x hi hx=>?_⟩;obtain⟨z,rfl⟩:=hZ.flat _ _ _ hx;have hi':i<((Z.get a').map Z.t.row).length:=by simpa using aI hi
      have ei:((Z.get a').map Z.t.row)[i]=Z.t.row a:=by
       rw[gc (aI hi)]at hi;injection hi with hi;simp [hi]
      have hjl:jj<(((Z.get a').map Z.t.row)[i]).length:=by rw[ei];exact aI hx
      obtain⟨z5,z6,z7⟩:=t2.reads i hi' jj hjl;have:((Z.get a').map Z.t.row)[i][jj] = .v z:=by
       have h3:(Z.t.row a)[jj]'(aI hx) = .v z:=by rw[gc (aI hx)]at hx;injection hx
       simp only[ei];exact h3
      have z7:Rep w' ι' _ (((Z.get a').map Z.t.row)[i][jj]) z5:=z7;rw[this]at z7;cases z7;exact⟨z,rfl,z6⟩
   ·rw[if_neg hne]
    obtain⟨v1,v2,v3,y,v4,cap,c3,fr3,v5,v6,v7⟩:=N.own k' a' hr ha;exact⟨v1,v2,v3,y,by rw[rdo k' Z.p (hlen _ _ hr) hne hp];exact v4,cap,c3,fr3,v5,(same1 _ (inner k' a' hne hr ha)).1.trans v6,v7⟩
  ·intro k1 a1 k2 b2 hr1 hn1 hr2 hn2 he
   rcases setk k1 a1 hr1 with⟨rfl,rfl⟩|⟨hne1,hs1⟩<;>rcases setk k2 b2 hr2 with⟨rfl,rfl⟩|⟨hne2,hs2⟩
   ·rfl
   ·rw[if_pos rfl,if_neg hne2]at he
    exact((same1 _ (inner k2 b2 hne2 hs2 hn2)).2 (by rw[<-he];exact hobj hn1)).elim
   ·rw[if_neg hne1,if_pos rfl]at he
    exact((same1 _ (inner k1 a1 hne1 hs1 hn1)).2 (by rw[he];exact hobj hn2)).elim
   ·rw[if_neg hne1,if_neg hne2]at he
    exact N.apart k1 a1 k2 b2 hs1 hn1 hs2 hn2 he
 ·intro q hq h1 h2 h3
  have hno:¬Ob (dens (h++ [.row1 Z.tO.size (gA Z c) k (gW Z a (h.length+1) (Z.get a).length) Z.e1,.opt Z.t (Z.get a) Z.e2])) ι1 q:=fun p=>by
   rcases F.ob q p with e|e|⟨e1,e2⟩
   ·exact h1 e
   ·exact h2 e
   ·exact h3 e1 e2
  obtain⟨f1,f2⟩:=ev.frame q hq hno;exact⟨f1,fun p=>f2 (ob2 q p)⟩
structure SRN (Z:NZ) (hS:Heap) (ιS:Iota) (wS:World) (L:Nat) (s:Y) (R:List Z.tO.den) (ι:Iota) (A:Act) (w:World):Prop where
 any:s.sl[L]? =some .any
 ex:∃y c fr g,SR ⟨s.sl.set L (.v y),dens s.h⟩ ι A w/\Nst Z (fun q=>wS.heap.size<=q\/Ob hS ιS q) ιS.X y R ι w c fr g
 ev:EvS hS ιS wS (dens s.h) ι w
 ob:Ob hS ιS Z.b
def PNy (E:Env) (Z:NZ) (hS:Heap) (ιS:Iota) (wS:World) (L:Nat) (c:Code) (s:Y) (R:List Z.tO.den) (Q:Exit->Y->List Z.tO.den->Prop):Prop:=
 ∀ι A w,SRN Z hS ιS wS L s R ι A w->c.wp E.P (fun e A' w'=>∃s' R' ι',Q e s' R'/\FrW (wr c) s s'/\SRN Z hS ιS wS L s' R' ι' A' w') A w
section
variable {E:Env} {Z:NZ} {hS:Heap} {ιS:Iota} {wS:World} {L:Nat}
theorem PNy.mono {c:Code} {s:Y} {R:List Z.tO.den} {Q Q':Exit->Y->List Z.tO.den->Prop} (h:PNy E Z hS ιS wS L c s R Q) (hq:∀e s R,Q e s R->Q' e s R):PNy E Z hS ιS wS L c s R Q':=
 fun ι A w r=>wp_mono (h ι A w r) fun e A' w' ⟨s',R',ι',q,rest⟩=>⟨s',R',ι',hq _ _ _ q,rest⟩
theorem qLN {sl:List V} {L:Nat} {x y:V} (h:sl[L]? =some x):(sl.set L y).set L x=sl:=by
 rw[kc];exact KL h
theorem PNy.x (hT:aD E.P E.T) (hM:E.P.follows .mixedOrders=true) (hI:tK E) {c:Code} {s:Y} {R:List Z.tO.den} {Q:Exit->Y->List Z.tO.den->Prop} (hL:¬L∈wr c)
  (hx:∀y,iH s.sl L (.v y) fun sl=>xcode E c ⟨sl,s.h,s.tch,s.an⟩ fun e s'=>match s' with|⟨sl',h',tch',an'⟩=>iH sl' L .any fun sl'=>Q e ⟨sl',h',tch',an'⟩ R):PNy E Z hS ιS wS L c s R Q:=by
 intro ι A w r;obtain⟨hany,⟨y,c0,fr,g,sr,N⟩,ev,hob⟩:=r;have hx:=hx y;rw[cG]at hx;refine wp_mono (jJ hT hM hI c _ _ hx ι A w sr) ?_;rintro e A' w' ⟨st,ι',⟨⟨sl',h',tch',an'⟩,rfl,hq,fw⟩,r',ev'⟩;(try simp only at hq);rw[cG]at hq;have hl:sl'[L]? =some (.v y):=by rw[fw.sl L hL];exact ga (aI hany)
 refine⟨⟨sl'.set L .any,h',tch',an'⟩,R,ι',hq,⟨⟨fw.fr.len,fw.fr.tch,fw.fr.h⟩,by have:=fw.len;simpa using this,fun i hi=>?_⟩,⟨ga (aI hl),⟨y,c0,fr,g,?_,N.keep sr.heap ev'⟩,ev.step ev',hob⟩⟩
 ·by_cases q:i=L
  ·subst q;rw[hany];exact ga (aI hl)
  ·have:=fw.sl i hi
   (try simp only at this ⊢);rw[gb (Ne.symm q),this,gb (Ne.symm q)]
 ·simp only[qLN hl];exact r'
theorem PNy.seq {x y:Code} {s:Y} {R:List Z.tO.den} {Q:Exit->Y->List Z.tO.den->Prop} (h:PNy E Z hS ιS wS L x s R (fun e s' R'=>match e with
  | .normal=>PNy E Z hS ιS wS L y s' R' Q
  |e=>Q e s' R')):PNy E Z hS ιS wS L (.seq x y) s R Q:=by
 intro ι A w r;refine wp_seq (wp_mono (h ι A w r) ?_);rintro e A' w' ⟨s',R',ι',q,fw,r'⟩;have f1:FrW (wr (.seq x y)) s s':=fw.mono fun i hi=>List.mem_append.2 (.inl hi)
 cases e with
 |normal=>exact wp_mono (q ι' A' w' r') fun e2 A2 w2 ⟨s2,R2,ι2,q2,f2,r2⟩=>⟨s2,R2,ι2,q2,f1.trans (f2.mono fun i hi=>List.mem_append.2 (.inr hi)),r2⟩
 |_=>exact⟨s',R',ι',q,f1,r'⟩
theorem PNy.block {id:Nat} {c:Code} {s:Y} {R:List Z.tO.den} {Q:Exit->Y->List Z.tO.den->Prop} (h:PNy E Z hS ιS wS L c s R (fun e s' R'=>match e with
  | .exit i=>(match ka i id with
    |true=>Q .normal s' R'
    |false=>Q (.exit i) s' R')
  |e=>Q e s' R')):PNy E Z hS ιS wS L (.block id c) s R Q:=by
 intro ι A w r;refine wp_block (wp_mono (h ι A w r) ?_);rintro e A' w' ⟨s',R',ι',q,fw,r'⟩;cases e with
 |exit i=>
  simp only[Exit.inBlock];cases hq:ka i id with
  |true=>
   simp only[hq]at q;rw[if_pos (kd hq)];exact⟨s',R',ι',q,fw,r'⟩
  |false=>
   simp only[hq]at q;rw[if_neg (fun q=>by subst q;simp at hq)];exact⟨s',R',ι',q,fw,r'⟩
 |_=>exact⟨s',R',ι',q,fw,r'⟩
def TA (Z:NZ) (i0:Nat) (rows:List (List V)) (k:Nat) (s':Y) (K:Y->Z.tO.den->Prop):Prop:=match s' with
 |⟨sl,h,tch,an⟩=>match h[i0]? with
  |some (.row1 sz R1 k1 row e)=>(match row[Z.p]? with
   |some (.oL j m)=>(match h[j]? with
    |some (.opt t l e')=>(match fR (t':=Z.t) l with
     |some l'=>(match un (cN 8) Z.tO (row.set Z.p (.sL Z.t l'))with
      |some (a2,[])=>Side ((sz=Z.tO.size/\R1=rows/\k1=k/\e=Z.e1)/\e'=Z.e2/\Z.get a2=l'/\m=l'.length/\i0<j/\row=gW Z a2 j m) /\
         kR h i0 (.raw .dead) fun h=>kR h j (.raw .dead) fun h=>K ⟨sl,h,tch,an⟩ a2
      |_=>False)
     |none=>False)
    |_=>False)
   |_=>False)
  |_=>False
theorem PNy.focus (hZ:Z.ok) (hT:aD E.P E.T) (hM:E.P.follows .mixedOrders=true) (hI:tK E) {c:Code} {s:Y} {R:List Z.tO.den} {Q:Exit->Y->List Z.tO.den->Prop} (hL:¬L∈wr c) {k:Nat} {a:Z.tO.den} (hk:R[k]? =some a)
  (hx:∀rows:List (List V),rows.length=Z.n->fN s.h.length fun i0=>iH s.sl L (.sO i0 0 Z.n) fun sl=>fH (s.h++ [.row1 Z.tO.size rows k (gW Z a (i0+1) (Z.get a).length) Z.e1,.opt Z.t (Z.get a) Z.e2]) fun h=>
    xcode ⟨E.P,E.T,i0+2,E.fid,E.flip,E.inl⟩ c ⟨sl,h,s.tch,s.an⟩ fun e s'=>TA Z i0 rows k s' fun s2 a2=>match s2 with
     |⟨sl',h',tch',an'⟩=>iH sl' L .any fun sl'=>Q e ⟨sl',h',tch',an'⟩ (R.set k a2)):PNy E Z hS ιS wS L c s R Q:=by
 intro ι A w r;obtain⟨hany,⟨y,c0,fr,g,sr,N⟩,ev,hob⟩:=r;obtain⟨ι1,sr1,F⟩:=qCO hZ sr (aI hany) N hk;have hx:=hx (gA Z c0) (jN Z c0);rw[iD,cG,eQ]at hx;refine wp_mono (jJ (E:=⟨E.P,E.T,s.h.length+2,E.fid,E.flip,E.inl⟩) hT hM hI c _ _ hx ι1 A w sr1) ?_;rintro e A' w' ⟨st,ι',⟨⟨sl',h',tch',an'⟩,rfl,hq,fw⟩,r',ev'⟩;unfold TA at hq;(try simp only at hq);split at hq;case h_2=>exact hq.elim
 rename_i sz R1 k1 row e1 he0;split at hq;case h_2=>exact hq.elim
 rename_i j m hrow;split at hq;case h_2=>exact hq.elim
 rename_i t l e2 hej;split at hq;case h_2=>exact hq.elim
 rename_i l' hcl;split at hq;case h_2=>exact hq.elim
 rename_i a2 hun;obtain⟨⟨⟨⟨q1,q2,q3,q4⟩,q5,q6,q7,q8,q9⟩⟩,hq⟩:=hq;obtain⟨et,el⟩:=gM hcl;subst et;subst el;subst q1 q2 q3 q4 q5 q7;rw[cJ,cJ,cG]at hq;rw[<-q6]at hej q9;have hl:sl'[L]? =some (.sO s.h.length 0 Z.n):=by rw[fw.sl L hL];exact ga (aI hany)
 have hF1:∀q,Ob (dens s.h) ι q->wS.heap.size<=q\/Ob hS ιS q:=fun q hq=>by
  rcases gu q wS.heap.size with h1|h1
  ·by_cases h2:Ob hS ιS q
   ·exact .inr h2
   ·exact absurd hq (ev.frame q h1 h2).2
  ·exact .inl h1
 obtain⟨ι2,y2,c2,fr2,g2,sr2,N2,fin⟩:=TB hZ N hk F sr1.heap hF1 (fun q h1=>.inl (kg ev.size h1)) (.inr hob) (n:=s.h.length+2) om ev' r' hl (by rw[he0,q9]) hej om;refine⟨⟨sl'.set L .any,(h'.set s.h.length (.raw .dead)).set j (.raw .dead),tch',an'⟩,_,ι2,hq,⟨⟨?_,fw.fr.tch,fun i hi hn=>?_⟩,by have:=fw.len;simpa using this,fun i hi=>?_⟩,⟨ga (aI hl),⟨y2,c2,fr2,g2,?_,N2⟩,?_,hob⟩⟩
 ·have:=fw.fr.len;simp at this ⊢;omega
 ·have h1:=fw.fr.h i (by simp;omega) hn
  (try simp only at h1 ⊢);rw[gb om,gb om,h1,gn hi]
 ·by_cases q:i=L
  ·subst q;rw[hany];exact ga (aI hl)
  ·have:=fw.sl i hi
   (try simp only at this ⊢);rw[gb (Ne.symm q),this,gb (Ne.symm q)]
 ·simp only[kc];exact sr2
 ·refine⟨ev'.os.trans ev.os,ev'.tape.trans ev.tape,ev'.output.trans ev.output,kg ev.size ev'.size,fun q hq1 hq2=>?_,fun b cc e fr hb=>?_⟩
  ·obtain⟨u1,u2⟩:=ev.frame q hq1 hq2
   obtain⟨v1,v2⟩:=fin q (gt hq1 ev.size) u2 (fun e=>hq2 (by rw[e];exact hob)) (fun ha e=>by
    rcases(N.own _ a hk ha).2.2.1 with h1|h1
    ·omega
    ·exact hq2 (by rw[e];exact h1))
   exact⟨v1.trans u1,v2⟩
  ·obtain⟨c1,f1,h1,s1⟩:=ev.sizes b cc e fr hb
   obtain⟨c3,f3,h3,s3⟩:=ev'.sizes b c1 e f1 h1;exact⟨c3,f3,h3,s3.trans s1⟩
theorem CutR.setL {n0:Nat} {σ:List Nat} {sl sl':List V} {h h':Heap} {y:Value} (c:CutR n0 σ ⟨sl,h⟩ ⟨sl',h'⟩) (L:Nat):CutR n0 σ ⟨sl.set L (.v y),h⟩ ⟨sl'.set L (.v y),h'⟩:=
 ⟨c.len,c.ident,c.inj,⟨by have:=c.sl.1;simpa using this,fun i x z hx hz=>by
   by_cases q:i=L
   ·subst q
    rw[ga (by have:=aI hx;simpa using this)]at hx;rw[ga (by have:=aI hz;simpa using this)]at hz;injection hx with hx;injection hz with hz;subst hx hz;exact cE.tree (LE.refl _) (.v _)
   ·(try simp only at hx hz)
    rw[gb (Ne.symm q)]at hx hz;exact c.sl.2 i x z hx hz⟩,c.h⟩
theorem SRN.cut {n0:Nat} {σ:List Nat} {s s':Y} {R:List Z.tO.den} {ι:Iota} {A:Act} {w:World} (r:SRN Z hS ιS wS L s R ι A w) (c:CutR n0 σ s.den s'.den) (h:s'.sl[L]? =some .any):SRN Z hS ιS wS L s' R (ι.ren σ) A w:=by
 obtain⟨hany,⟨y,c0,fr,g,sr,N⟩,ev,hob⟩:=r;obtain⟨r1,e1⟩:=(CutR.setL (y:=y) c L).apply sr;exact⟨h,⟨y,c0,fr,g,r1,N.keep sr.heap e1⟩,ev.step e1,hob⟩
theorem PNy.loopA {c:Code} {g:List GK} {s:Y} {R:List Z.tO.den} {Q:Exit->Y->List Z.tO.den->Prop} (hL:¬L∈wr c) (inv:Tup (gts g)->List Z.tO.den->Prop) (mu:Tup (gts g)->List Z.tO.den->Nat) (nxt:List (Nat×Nat×LA))
  (h0:match s with|⟨sl,h,tch,an⟩=>arrive E.n0 (wr c) g ⟨sl,h,tch,an⟩ ⟨sl,h,[],an⟩ fun y=>Side (inv y R))
  (hr:match s with|⟨sl,h,tch,an⟩=>∀y R,inv y R->fS (wr c) g y ⟨sl,h⟩ fun sl' h'=>PNy E Z hS ιS wS L c ⟨sl',h',[],nxt⟩ R fun e s' R'=>match e with
    | .normal=>(match s' with|⟨sl',h',tch',an'⟩=>arrive E.n0 (wr c) g ⟨sl,h,tch,an⟩ ⟨sl',h',tch',an'⟩ fun y'=>Side (inv y' R')/\Side (mu y' R'<mu y R))
    |e=>Q e ⟨s'.sl,s'.h,s'.tch++(gids ⟨sl,h⟩ g++tch),an⟩ R'):PNy E Z hS ιS wS L (.loop c) s R Q:=by
 obtain⟨sl,h,tch,an⟩:=s;(try simp only at h0 hr);obtain⟨σ0,y0,cut0,⟨hi0⟩,hW⟩:=mC (s1:=⟨sl,h,tch,an⟩) (s':=⟨sl,h,[],an⟩) ⟨fun _ _=>rfl,rfl,fun _ _ _ _=>rfl⟩ h0;intro ι A w r;let S:Tup (gts g)->Y:=fun y=>⟨fQ g y ⟨sl,h⟩ (kU (wr c) sl),gH g y ⟨sl,h⟩ h,[],nxt⟩
 have hSL:∀y,(S y).sl[L]? =some .any:=fun y=>by
  show(fQ g y ⟨sl,h⟩ (kU (wr c) sl))[L]? =_;rw[gI g _ _ _ L (fun q=>hL (hW L q)),uA _ _ _ hL];exact r.any
 have J0:SRN Z hS ιS wS L (S y0) R (ι.ren σ0) A w:=SRN.cut (s':=S y0) (s:=⟨sl,h,[],an⟩) ⟨r.any,r.ex,r.ev,r.ob⟩ cut0 (hSL y0);let J:Nat->Act->World->Prop:=fun n A' w'=>∃y R' ι',mu y R'=n/\inv y R'/\SRN Z hS ιS wS L (S y) R' ι' A' w'
 have dec:∀A' w',∃m,((∃n,J n A' w')->J m A' w'/\∀n,J n A' w'->m<=n):=by
  intro A' w';by_cases hx:∃n,J n A' w'
  ·obtain⟨n,hn⟩:=hx
   induction n using Nat.strongRecOn with
   |_ n ih=>
    by_cases hlt:∃k,k<n/\J k A' w'
    ·obtain⟨k,hk,hj⟩:=hlt
     exact ih k hk hj
    ·refine⟨n,fun _=>⟨hn,fun k hk=>?_⟩⟩
     rcases gu k n with q|q
     ·exact absurd ⟨k,q,hk⟩ hlt
     ·exact q
  ·exact⟨0,fun q=>absurd q hx⟩
 obtain⟨f,hf⟩:∃f:Act->World->Nat,∀A' w',(∃n,J n A' w')->J (f A' w') A' w'/\∀n,J n A' w'->f A' w'<=n:=
  ⟨fun A' w'=>Classical.choose (dec A' w'),fun A' w'=>Classical.choose_spec (dec A' w')⟩
 refine wp_loop (fun A' w'=>∃n,J n A' w') f ⟨_,y0,R,_,rfl,hi0,J0⟩ ?_;intro A' w' hI;obtain⟨⟨y,R',ι',hm,hi,r'⟩,_⟩:=hf A' w' hI;have hr1:=hr y R' hi;rw[DS]at hr1;refine wp_mono (hr1 ι' A' w' r') ?_;rintro e A2 w2 ⟨s2,R2,ι2,q,fw,r2⟩;cases e with
 |normal=>
  obtain⟨sl2,h2,tch2,an2⟩:=s2;(try simp only at q);obtain⟨σ,y2,cut,⟨⟨hi2⟩,⟨hmu⟩⟩,_⟩:=mC (s1:=⟨sl,h,tch,an⟩) (s':=⟨sl2,h2,tch2,an2⟩) (vR (tch:=tch) (t0:=[]) (an:=an) hW fw).1 q;have hj:J (mu y2 R2) A2 w2:=⟨y2,R2,_,rfl,hi2,SRN.cut (s':=S y2) r2 cut (hSL y2)⟩
  refine⟨⟨_,hj⟩,?_⟩;have:=(hf A2 w2 ⟨_,hj⟩).2 _ hj;omega
 |_=>exact⟨⟨s2.sl,s2.h,s2.tch++(gids ⟨sl,h⟩ g++tch),an⟩,R2,ι2,q,wZ hW fw,⟨r2.any,r2.ex,r2.ev,r2.ob⟩⟩
end
section
variable {Z:NZ} {hS:Heap} {ιS:Iota} {wS:World} {L:Nat}
theorem SRN.close (hZ:Z.ok) {s:Y} {R:List Z.tO.den} {ι:Iota} {A:Act} {w:World} (r:SRN Z hS ιS wS L s R ι A w):∃ι2,SR ⟨s.sl.set L (.sL Z.tO R),dens s.h⟩ ι2 A w/\EvN 0 hS ιS wS (dens s.h) ι2 w:=by
 obtain⟨hany,⟨y,c,fr,g,sr,N⟩,ev,hob⟩:=r;have H:=sr.heap;obtain⟨ι2,at2,X2⟩:∃ι2:Iota,(∀id,ι2 id=ι id)/\∀q,ι2.X q↔ιS.X q:=⟨{at':=ι.at',X:=ιS.X},fun _=>rfl,fun _=>km⟩
 have ob2:∀q,Ob (dens s.h) ι2 q->Ob (dens s.h) ι q:=fun q ⟨id,o,l,u1,u2,u3⟩=>⟨id,o,l,u1,by rw[<-at2];exact u2,u3⟩
 have xx:∀q,ιS.X q->ι.X q:=fun q h=>(N.X q).2 (.inl h)
 have m2:∀q,Mt (dens s.h) ι2 q->Mt (dens s.h) ι q:=by
  rintro q (u|u)
  ·exact .inl (xx q ((X2 q).1 u))
  ·exact .inr (ob2 q u)
 have old:∀ {x:V} {y:Value},Rep w ι (Mt (dens s.h) ι) x y->Rep w ι2 (Mt (dens s.h) ι2) x y:=fun q=>q.same (fun id l e=>by rw[at2];exact e) m2
 have notM:∀q,ι.X q->¬ιS.X q->¬Mt (dens s.h) ι2 q:=by
  rintro q h1 h2 (u|u)
  ·exact h2 ((X2 q).1 u)
  ·exact H.xob q h1 (ob2 q u)
 have xb:ι.X Z.b:=(N.X _).2 (.inr (.inl rfl));obtain⟨cap,hy,hcap,hroom⟩:=N.val;have cell:∀k,w.cell? ⟨Z.b,k,none⟩=c[k]?:=fun k=>by simp [World.cell?,N.blk]
 have rep:Rep w ι2 (Mt (dens s.h) ι2) (.sL Z.tO R) y:=by
  refine .sL _ _ _ ?_;have hl:(R.map Z.tO.row).length=Z.n:=by rw[go];exact N.len
  have:=Rep.sF_mk (w:=w) (ι:=ι2) (M:=Mt (dens s.h) ι2) (sz:=Z.tO.size) (rows:=R.map Z.tO.row) ⟨Z.b,Z.o,none⟩ cap (fun _=>⟨rfl,H.xlt _ xb,notM _ xb N.x0b⟩) (by rw[hl];exact hcap)
   (fun r hr=>by obtain⟨a,_,rfl⟩:=gx.1 hr;exact Ty.row_size _ _)
   (fun i j r x hi hj=>by
     rw[gy]at hi;cases ha:R[i]? with
     |none=>rw[ha]at hi;cases hi
     |some a=>
      rw[ha]at hi;injection hi with hi;subst hi;rw[cell];by_cases hjp:j=Z.p
      ·subst hjp
       rw[hZ.at_p]at hj;injection hj with hj;subst hj;by_cases hg:Z.get a= []
       ·refine⟨_,N.nil i a ha hg,.sL _ _ _ ?_⟩
        rw[hg];exact .sN _
       ·obtain⟨h1,h2,h3,y1,q1,cap1,c1,fr1,q2,q3,q4,q5,q6,q7,q8⟩:=N.own i a ha hg
        have xg:ι.X (g i).1:=(N.X _).2 (.inr (.inr ⟨i,a,ha,hg,rfl⟩));refine⟨y1,q1,.sL _ _ _ ?_⟩;have:=Rep.sF_mk (w:=w) (ι:=ι2) (M:=Mt (dens s.h) ι2) (sz:=Z.t.size) (rows:=(Z.get a).map Z.t.row) ⟨(g i).1,(g i).2,none⟩ cap1 (fun _=>⟨rfl,H.xlt _ xg,notM _ xg h1⟩) (by rw[go];exact q6)
         (fun r hr=>by obtain⟨v,_,rfl⟩:=gx.1 hr;exact Ty.row_size _ _)
         (fun i2 j2 r x hi2 hj2=>by
           rw[gy]at hi2;cases hv:(Z.get a)[i2]? with
           |none=>rw[hv]at hi2;cases hi2
           |some v=>
            rw[hv]at hi2;injection hi2 with hi2;subst hi2;obtain⟨z,rfl,z2⟩:=q8 i2 v j2 x hv hj2;exact⟨z,by simp only[World.cell?,q3];exact z2,.v z⟩)
        rw[go]at this;rw[q2];exact this
      ·obtain⟨z,rfl,z2⟩:=N.cells i a j x ha hjp hj
       exact⟨z,z2,.v z⟩)
  rw[hl]at this;rw[hy];exact this
 refine⟨ι2,⟨sr.defers,⟨by have:=sr.slots.1;simpa using this,fun i x hx=>?_⟩,?_⟩,?_⟩
 ·by_cases q:i=L
  ·subst q
   rw[ga (aI hany)]at hx;injection hx with hx;subst hx;obtain⟨y2,t1,t2⟩:=sr.slots.2 i _ (ga (aI hany));cases t2;exact⟨y,t1,rep⟩
  ·(try simp only at hx)
   rw[gb (Ne.symm q)]at hx;obtain⟨z,z1,z2⟩:=sr.slots.2 i x (by simp only;rw[gb (Ne.symm q)];exact hx);exact⟨z,z1,old z2⟩
 ·refine⟨fun id o ho=>?_,fun id h=>by rw[at2];exact H.free id h,fun id h=>by rw[at2];exact H.out id h,fun ia oa la ib ob lb p1 p2 p3 p4=>?_,fun q hq=>H.xlt q (xx q ((X2 q).1 hq)),fun q hq ho=>H.xob q (xx q ((X2 q).1 hq)) (ob2 q ho)⟩
  ·obtain⟨l,c1,f1,e1,la⟩:=H.live id o ho
   exact⟨l,c1,f1,by rw[at2];exact e1,la.blk,la.unfrozen,la.sz,la.rows,la.fits,fun i hi j hj=>let ⟨z,z1,z2⟩:=la.reads i hi j hj;⟨z,z1,old z2⟩⟩
  ·rw[at2]at p2 p4;exact H.apart ia oa la ib ob lb p1 p2 p3 p4
 ·exact⟨ev.os,ev.tape,ev.output,ev.size,fun id l h=>(Nat.not_lt_zero _ h).elim,funext fun q=>propext (X2 q),fun q h1 h2=>⟨(ev.frame q h1 h2).1,fun p=>(ev.frame q h1 h2).2 (ob2 q p)⟩,ev.sizes⟩
theorem SRN.closeO (hZ:Z.ok) {s:Y} {R:List Z.tO.den} {ι:Iota} {A:Act} {w:World} (r:SRN Z hS ιS wS L s R ι A w):∃ι2,SR ⟨s.sl.set L (.sO s.h.length 0 Z.n),dens (s.h++ [.tl Z.tO R Z.e1])⟩ ι2 A w/\EvN 0 hS ιS wS (dens (s.h++ [.tl Z.tO R Z.e1])) ι2 w:=by
 obtain⟨hany,⟨y,c,fr,g,sr,N⟩,ev,hob⟩:=r;have H:=sr.heap;obtain⟨k,hk⟩:∃k,k=s.h.length:=⟨_,rfl⟩
 obtain⟨O,hO⟩:∃O:AObj,O=⟨Z.tO.size,R.map Z.tO.row,Z.e1⟩:=⟨_,rfl⟩
 have hd:dens (s.h++ [.tl Z.tO R Z.e1])=dens s.h++ [.live O]:=by rw[nN,hO];rfl
 rw[hd,<-hk];have hkl:(dens s.h).length=k:=by rw[eD,hk]
 have ik:ι k=none:=H.out k (by show(dens s.h).length<=k;omega);obtain⟨ι2,at2,atk,X2⟩:∃ι2:Iota,(∀id,id≠k->ι2 id=ι id)/\ι2 k=some ⟨Z.b,Z.o,Z.tO.size,N.al⟩/\∀q,ι2.X q↔ιS.X q:=
  ⟨{at':=(ι.put k ⟨Z.b,Z.o,Z.tO.size,N.al⟩).at',X:=ιS.X},fun id q=>by simp [Iota.put,q],by simp [Iota.put],fun _=>km⟩
 have cls:∀(i:Nat) (o:AObj),(dens s.h++ [HS.live O])[i]? =some (.live o)->(i≠k/\(dens s.h)[i]? =some (.live o))\/(i=k/\o=O):=by
  intro i o e;rcases gu i k with q|q
  ·exact .inl ⟨om,by rw[<-e,gn om]⟩
  ·have hi:=aI e
   simp only[gi,gk,gh,hkl]at hi;have:i=k:=om
   subst this;rw[gm om,hkl,kh]at e;injection e with e;injection e with e;exact .inr ⟨rfl,e.symm⟩
 have ob2:∀q,Ob (dens s.h++ [.live O]) ι2 q->Ob (dens s.h) ι q\/q=Z.b:=by
  rintro q ⟨id,o,l,u1,u2,u3⟩;rcases cls id o u1 with⟨v1,v2⟩|⟨rfl,rfl⟩
  ·exact .inl ⟨id,o,l,v2,by rw[<-at2 id v1];exact u2,u3⟩
  ·rw[atk]at u2;injection u2 with u2;subst u2;exact .inr u3.symm
 have xx:∀q,ιS.X q->ι.X q:=fun q h=>(N.X q).2 (.inl h)
 have xb:ι.X Z.b:=(N.X _).2 (.inr (.inl rfl));have m2:∀q,Mt (dens s.h++ [.live O]) ι2 q->Mt (dens s.h) ι q:=by
  rintro q (u|u)
  ·exact .inl (xx q ((X2 q).1 u))
  ·rcases ob2 q u with u|u
   ·exact .inr u
   ·rw[u];exact .inl xb
 have old:∀ {x:V} {y:Value},Rep w ι (Mt (dens s.h) ι) x y->Rep w ι2 (Mt (dens s.h++ [.live O]) ι2) x y:=fun q=>q.same (fun id l e=>by
  have:id≠k:=by intro p;subst p;rw[ik]at e;cases e
  rw[at2 id this];exact e) m2
 have notM:∀q,ι.X q->¬ιS.X q->q≠Z.b->¬Mt (dens s.h++ [.live O]) ι2 q:=by
  rintro q h1 h2 h3 (u|u)
  ·exact h2 ((X2 q).1 u)
  ·rcases ob2 q u with u|u
   ·exact H.xob q h1 u
   ·exact h3 u
 obtain⟨cap,hy,hcap,hroom⟩:=N.val;have rd:∀(i:Nat) (a:Z.tO.den) (j:Nat) (x:V),R[i]? =some a->(Z.tO.row a)[j]? =some x->∃z,c[Z.o+i*Z.tO.size+j]? =some z/\Rep w ι2 (Mt (dens s.h++ [.live O]) ι2) x z:=by
  intro i a j x ha hj;by_cases hjp:j=Z.p
  ·subst hjp
   rw[hZ.at_p]at hj;injection hj with hj;subst hj;by_cases hg:Z.get a= []
   ·refine⟨_,N.nil i a ha hg,.sL _ _ _ ?_⟩
    rw[hg];exact .sN _
   ·obtain⟨h1,h2,h3,y1,q1,cap1,c1,fr1,q2,q3,q4,q5,q6,q7,q8⟩:=N.own i a ha hg
    have xg:ι.X (g i).1:=(N.X _).2 (.inr (.inr ⟨i,a,ha,hg,rfl⟩));refine⟨y1,q1,.sL _ _ _ ?_⟩;have:=Rep.sF_mk (w:=w) (ι:=ι2) (M:=Mt (dens s.h++ [.live O]) ι2) (sz:=Z.t.size) (rows:=(Z.get a).map Z.t.row) ⟨(g i).1,(g i).2,none⟩ cap1 (fun _=>⟨rfl,H.xlt _ xg,notM _ xg h1 h2⟩) (by rw[go];exact q6)
     (fun r hr=>by obtain⟨v,_,rfl⟩:=gx.1 hr;exact Ty.row_size _ _)
     (fun i2 j2 r x hi2 hj2=>by
       rw[gy]at hi2;cases hv:(Z.get a)[i2]? with
       |none=>rw[hv]at hi2;cases hi2
       |some v=>
        rw[hv]at hi2;injection hi2 with hi2;subst hi2;obtain⟨z,rfl,z2⟩:=q8 i2 v j2 x hv hj2;exact⟨z,by simp only[World.cell?,q3];exact z2,.v z⟩)
    rw[go]at this;rw[q2];exact this
  ·obtain⟨z,rfl,z2⟩:=N.cells i a j x ha hjp hj
   exact⟨z,z2,.v z⟩
 have hlen:=N.len;have hfit:Z.o+(R.map Z.tO.row).length*Z.tO.size<=c.size:=by
  rw[go,hlen];have:=gq Z.tO.size hcap;omega
 refine⟨ι2,⟨sr.defers,⟨by have:=sr.slots.1;simpa using this,fun i x hx=>?_⟩,?_⟩,?_⟩
 ·by_cases q:i=L
  ·subst q
   rw[ga (aI hany)]at hx;injection hx with hx;subst hx;obtain⟨y2,t1,t2⟩:=sr.slots.2 i _ (ga (aI hany));cases t2;refine⟨y,t1,?_⟩;have:=Rep.sO (w:=w) (ι:=ι2) (M:=Mt (dens s.h++ [.live O]) ι2) k 0 Z.n cap ⟨Z.b,Z.o,Z.tO.size,N.al⟩ c Z.e1 fr atk hcap N.blk (by simpa using hroom);rw[hy];simpa using this
  ·(try simp only at hx)
   rw[gb (Ne.symm q)]at hx;obtain⟨z,z1,z2⟩:=sr.slots.2 i x (by simp only;rw[gb (Ne.symm q)];exact hx);exact⟨z,z1,old z2⟩
 ·refine⟨fun id o ho=>?_,fun id h=>?_,fun id h=>?_,fun ia oa la ib ob lb p1 p2 p3 p4 p5=>?_,fun q hq=>H.xlt q (xx q ((X2 q).1 hq)),fun q hq ho=>?_⟩
  ·rcases cls id o ho with⟨v1,v2⟩|⟨rfl,rfl⟩
   ·obtain⟨l,c1,f1,e1,la⟩:=H.live id o v2
    exact⟨l,c1,f1,by rw[at2 id v1];exact e1,la.blk,la.unfrozen,la.sz,la.rows,la.fits,fun i hi j hj=>let ⟨z,z1,z2⟩:=la.reads i hi j hj;⟨z,z1,old z2⟩⟩
   ·subst hO
    refine⟨_,c,fr,atk,N.blk,N.unf,rfl,fun r hr=>by obtain⟨a,_,rfl⟩:=gx.1 hr;exact Ty.row_size _ _,hfit,?_⟩;refine fJ (rows:=R.map Z.tO.row) (p:=fun i j x=>∃y,c[Z.o+i*Z.tO.size+j]? =some y/\Rep w ι2 (Mt (dens s.h++ [.live ⟨Z.tO.size,R.map Z.tO.row,Z.e1⟩]) ι2) x y) (fun i j r x hi hj=>?_);rw[gy]at hi;cases ha:R[i]? with
    |none=>rw[ha]at hi;cases hi
    |some a=>
     rw[ha]at hi;injection hi with hi;subst hi;exact rd i a j x ha hj
  ·have hlt:=aI h
   simp only[gi,gk,gh,hkl]at hlt;rcases gu id k with q|q
   ·rw[at2 id om]
    exact H.free id (by rw[<-h,gn om])
   ·have:id=k:=om
    subst this;rw[gm om,hkl,kh]at h;cases h
  ·simp only[gi,gk,gh,hkl]at h
   rw[at2 id om];exact H.out id (by show(dens s.h).length<=id;omega)
  ·rcases cls ia oa p1 with⟨v1,v2⟩|⟨rfl,rfl⟩
   ·rw[at2 ia v1]at p2
    rcases cls ib ob p3 with⟨u1,u2⟩|⟨rfl,rfl⟩
    ·rw[at2 ib u1]at p4;exact H.apart ia oa la ib ob lb v2 p2 u2 p4 p5
    ·rw[atk]at p4;injection p4 with p4;subst p4
     exact(H.xob Z.b xb ⟨ia,oa,la,v2,p2,p5⟩).elim
   ·rw[atk]at p2;injection p2 with p2;subst p2
    rcases cls ib ob p3 with⟨u1,u2⟩|⟨rfl,rfl⟩
    ·rw[at2 ib u1]at p4
     exact(H.xob Z.b xb ⟨ib,ob,lb,u2,p4,p5.symm⟩).elim
    ·rfl
  ·rcases ob2 q ho with u|u
   ·exact H.xob q (xx q ((X2 q).1 hq)) u
   ·rw[u]at hq;exact N.x0b ((X2 _).1 hq)
 ·exact⟨ev.os,ev.tape,ev.output,ev.size,fun id l h=>(Nat.not_lt_zero _ h).elim,funext fun q=>propext (X2 q),fun q h1 h2=>⟨(ev.frame q h1 h2).1,fun p=>(ob2 q p).elim (ev.frame q h1 h2).2 (fun e=>h2 (by rw[e];exact hob))⟩,ev.sizes⟩
end
theorem SRN.start {tO t:Ty} {p:Nat} {get:tO.den->List t.den} {e1 e2:TypeId} {n:Nat} {sl:List V} {h:List XO} {tch:List Nat} {an:List (Nat×Nat×LA)} {ι:Iota} {A:Act} {w:World} {L id n':Nat} {a0:tO.den} {zs:List V}
  (hok:∀b o,NZ.ok ⟨b,o,e1,e2,tO,t,p,get,n⟩) (r:SR ⟨sl,dens h⟩ ι A w) (hL:sl[L]? =some (.sO id 0 n)) (hh:h[id]? =some (.row1 tO.size (ge n zs) n' zs e1)) (hz:zs=(tO.row a0).set p (.v (.slice none 0 0))) (ha0:get a0= []) :
  ∃b o ι2,SRN ⟨b,o,e1,e2,tO,t,p,get,n⟩ (dens h) ι w L ⟨sl.set L .any,h.set id (.raw .dead),tch,an⟩ (ge n a0) ι2 A w:=by
 have H:=r.heap;have hset:(ge n zs).set n' zs=ge n zs:=by
  apply gp;intro i;by_cases q:n'=i
  ·subst q
   by_cases q2:n'<n
   ·rw[ga (by simpa using q2)];simp [q2]
   ·rw[gf (by simpa using q2),gf (by simpa using q2)]
  ·rw[gb q]
 have d0:(dens h)[id]? =some (.live ⟨tO.size,ge n zs,e1⟩):=by rw[aJ,hh];simp only[Option.map_some,XO.den,hset]
 obtain⟨l,c,fr,i0,la⟩:=H.live _ _ d0;have hsz:l.sz=tO.size:=la.sz;have hO:=hok l.blk l.base;have hp:p<tO.size:=hO.plt a0;have hob:Ob (dens h) ι l.blk:=⟨id,_,l,d0,i0,rfl⟩
 obtain⟨ι2,at2,X2⟩:∃ι2:Iota,(∀id,ι2 id=ι id)/\∀q,ι2.X q↔ι.X q\/q=l.blk:=⟨{at':=ι.at',X:=fun q=>ι.X q\/q=l.blk},fun _=>rfl,fun _=>km⟩
 have get2:∀i o,(dens (h.set id (.raw .dead)))[i]? =some (.live o)->i≠id/\(dens h)[i]? =some (.live o):=by
  intro i o e;rw[aX]at e;by_cases q:id=i
  ·subst q
   rw[ga (by have:=aI e;simpa using this)]at e;cases e
  ·rw[gb q]at e;exact⟨fun p=>q p.symm,e⟩
 have ob2:∀q,Ob (dens (h.set id (.raw .dead))) ι2 q->Ob (dens h) ι q/\q≠l.blk:=by
  rintro q ⟨i,o,l2,u1,u2,u3⟩;obtain⟨v1,v2⟩:=get2 i o u1;rw[at2]at u2;exact⟨⟨i,o,l2,v2,u2,u3⟩,fun e=>v1 (H.apart i o l2 id _ l v2 u2 d0 i0 (u3.trans e))⟩
 have m2:∀q,Mt (dens (h.set id (.raw .dead))) ι2 q->Mt (dens h) ι q:=by
  rintro q (u|u)
  ·rcases(X2 q).1 u with u|u
   ·exact .inl u
   ·rw[u];exact .inr hob
  ·exact .inr (ob2 q u).1
 have old:∀ {x:V} {y:Value},Rep w ι (Mt (dens h) ι) x y->Rep w ι2 (Mt (dens (h.set id (.raw .dead))) ι2) x y:=fun q=>q.same (fun i l e=>by rw[at2];exact e) m2
 obtain⟨y,t1,t2⟩:=r.slots.2 L _ hL;have val:∃cap,y = .slice (some ⟨l.blk,l.base,none⟩) n cap/\n<=cap/\l.base+cap*tO.size<=c.size:=by
  cases t2 with
  |sO _ _ _ cap l2 c3 e fr3 hl hcap hb hs=>
   rw[i0]at hl;injection hl with hl;subst hl;rw[la.blk]at hb;injection hb with hb;injection hb with hb _ _;subst hb;refine⟨cap,sm,hcap,?_⟩;rw[hsz]at hs;simpa using hs
 have rd:∀k j,k<n->(hj:j<zs.length)->∃x,c[l.base+k*tO.size+j]? =some x/\Rep w ι (Mt (dens h) ι) zs[j] x:=fun k j hk hj=>by
  have hk':k<(ge n zs).length:=by simpa using hk
  have e2:(ge n zs)[k]=zs:=sm
  obtain⟨x,x1,x2⟩:=la.reads k hk' j (by simp only[e2];exact hj);refine⟨x,x1,?_⟩;have:(ge n zs)[k][j]'(by rw[e2];exact hj)=zs[j]:=by simp only[e2]
  rw[<-this];exact x2
 have zl:zs.length=tO.size:=by rw[hz,gg,Ty.row_size]
 have rep0:∀k a,(ge n a0)[k]? =some a->k<n/\a=a0:=fun k a q=>by
  rw[List.getElem?_replicate]at q;split at q
  ·injection q with q;exact⟨av,q.symm⟩
  ·cases q
 refine⟨l.blk,l.base,ι2,ga (aI hL),⟨y,c,fr,fun _=>(0,0),⟨r.defers,⟨by have:=r.slots.1;simpa using this,fun i x hx=>?_⟩,?_⟩,?_⟩,?_,hob⟩
 ·by_cases q:i=L
  ·subst q
   simp only[kc]at hx;rw[ga (aI hL)]at hx;injection hx with hx;subst hx;exact⟨y,t1,.v _⟩
  ·simp only[kc]at hx
   rw[gb (Ne.symm q)]at hx;obtain⟨z,z1,z2⟩:=r.slots.2 i x hx;exact⟨z,z1,old z2⟩
 ·refine⟨fun i o ho=>?_,fun i hi=>?_,fun i hi=>?_,fun ia oa lx ib ob lb p1 p2 p3 p4=>?_,fun q hq=>?_,fun q hq ho=>?_⟩
  ·obtain⟨u1,u2⟩:=get2 i o ho
   obtain⟨l2,c1,f1,v1,la2⟩:=H.live i o u2;exact⟨l2,c1,f1,by rw[at2];exact v1,la2.blk,la2.unfrozen,la2.sz,la2.rows,la2.fits,fun i hi j hj=>let ⟨z,z1,z2⟩:=la2.reads i hi j hj;⟨z,z1,old z2⟩⟩
  ·rw[at2]
   refine H.free i ?_;rw[aX]at hi;by_cases q1:id=i
   ·subst q1
    rw[ga (by have:=aI hi;simpa using this)]at hi;cases hi
   ·rw[gb q1]at hi;exact hi
  ·rw[at2];refine H.out i ?_;rw[aX]at hi;simpa using hi
  ·rw[at2]at p2 p4
   exact H.apart ia oa lx ib ob lb (get2 _ _ p1).2 p2 (get2 _ _ p3).2 p4
  ·rcases(X2 q).1 hq with u|u
   ·exact H.xlt q u
   ·rw[u];exact H.blk_lt hob
  ·rcases(X2 q).1 hq with u|u
   ·exact H.xob q u (ob2 q ho).1
   ·exact(ob2 q ho).2 u
 ·refine⟨la.blk,Unfr.move la.unfrozen (ke _),by have:=l.al;rw[hsz]at this;exact this,sm,val,fun q=>?_,fun q=>H.xob _ q hob,?_,?_,?_,?_⟩
  ·rw[X2 q]
   constructor
   ·rintro(u|u)
    ·exact .inl u
    ·exact .inr (.inl u)
   ·rintro(u|u|⟨k,a,v1,v2,v3⟩)
    ·exact .inl u
    ·exact .inr u
    ·obtain⟨_,rfl⟩:=rep0 k a v1
     exact(v2 ha0).elim
  ·intro k a j x hk hj hx
   obtain⟨hkn,rfl⟩:=rep0 k a hk;have hjs:j<zs.length:=by rw[zl,<-Ty.row_size tO a];exact aI hx
   obtain⟨z,z1,z2⟩:=rd k j hkn hjs;obtain⟨z0,rfl⟩:=hO.flatO a j x hj hx;have:zs[j] = .v z0:=by
    have h1:zs[j]? =some (.v z0):=by rw[hz,gb (Ne.symm hj)];exact hx
    rw[gc hjs]at h1;injection h1
   rw[this]at z2;cases z2;exact⟨_,rfl,z1⟩
  ·intro k a hk _
   obtain⟨hkn,rfl⟩:=rep0 k a hk;have hjs:p<zs.length:=by rw[zl];exact hp
   obtain⟨z,z1,z2⟩:=rd k p hkn hjs;have:zs[p] = .v (.slice none 0 0):=by
    have h1:zs[p]? =some (.v (.slice none 0 0)):=by rw[hz,ga (by rw[Ty.row_size];exact hp)]
    rw[gc hjs]at h1;injection h1
   rw[this]at z2;cases z2;exact z1
  ·intro k a hk ha
   obtain⟨_,rfl⟩:=rep0 k a hk;exact(ha ha0).elim
  ·intro k a k' a' hk ha
   obtain⟨_,rfl⟩:=rep0 k a hk;exact(ha ha0).elim
 ·exact⟨rfl,rfl,rfl,ki _,fun q _ h2=>⟨rfl,fun p=>h2 (ob2 q p).1⟩,fun b cc e f hb=>⟨cc,f,hb,rfl⟩⟩
def PVy (E:Env) (c:Code) (s:Y) (Q:Exit->Y->Prop):Prop:=PV E.n0 E.P c s.den fun e st=>∃s':Y,st=s'.den/\Q e s'
theorem PVy.x {E:Env} (hT:aD E.P E.T) (hM:E.P.follows .mixedOrders=true) (hI:tK E) {c:Code} {s:Y} {Q:Exit->Y->Prop} (h:xcode E c s Q):PVy E c s Q:=
 PV.mono (jJ hT hM hI c s Q h) fun e st ⟨s',q1,q2,_⟩=>⟨s',q1,q2⟩
theorem PVy.seq {E:Env} {x y:Code} {s:Y} {Q:Exit->Y->Prop} (h:PVy E x s (fun e s'=>match e with
  | .normal=>PVy E y s' Q
  |e=>Q e s')):PVy E (.seq x y) s Q:=by
 refine PV.seq (PV.mono h ?_);rintro e st ⟨s',rfl,q⟩;cases e with
 |normal=>exact q
 |_=>exact⟨s',rfl,q⟩
theorem PVy.nest {E:Env} (h0:E.n0=0) {c:Code} {s:Y} {Q:Exit->Y->Prop} {tO t:Ty} {p:Nat} {get:tO.den->List t.den} {e1 e2:TypeId} {L:Nat} (a0:tO.den) (hok:∀b o n,NZ.ok ⟨b,o,e1,e2,tO,t,p,get,n⟩) (ha0:get a0= [])
  (h:match s with|⟨sl,h,tch,an⟩=>match sl[L]? with
    |some (.sO id 0 n)=>(match h[id]? with
     |some (.row1 sz R0 _ zs e)=>Side (sz=tO.size/\R0=ge n zs/\e=e1/\zs=(tO.row a0).set p (.v (.slice none 0 0)))/\iH sl L .any fun sl=>kR h id (.raw .dead) fun h=>
      ∀b o hS ιS wS,PNy E ⟨b,o,e1,e2,tO,t,p,get,n⟩ hS ιS wS L c ⟨sl,h,tch,an⟩ (ge n a0) fun e s' R=>match s' with|⟨sl',h',tch',an'⟩=>iH sl' L (.sL tO R) fun sl'=>Q e ⟨sl',h',tch',an'⟩
     |_=>False)
    |_=>False):PVy E c s Q:=by
 obtain⟨sl,hp,tch,an⟩:=s;(try simp only at h);split at h;case h_2=>exact h.elim
 rename_i id n hL;split at h;case h_2=>exact h.elim
 rename_i sz R0 n' zs e hid;obtain⟨⟨⟨q1,q2,q3,q4⟩⟩,h⟩:=h;rw[cG,cJ]at h;intro ι A w r;obtain⟨b,o,ι2,r2⟩:=SRN.start (e1:=e1) (e2:=e2) (t:=t) (get:=get) (a0:=a0) (n':=n') (zs:=zs) (tch:=tch) (an:=an) (fun b o=>hok b o n) r hL (by rw[hid,q1,q2,q3]) q4 ha0;refine wp_mono (h b o _ _ _ ι2 A w r2) ?_;rintro e A' w' ⟨s',R',ι',q,_,r'⟩;obtain⟨ι3,r3,ev3⟩:=r'.close (hok b o n);obtain⟨sl',h',tch',an'⟩:=s';(try simp only at q);rw[cG]at q;exact⟨_,ι3,⟨_,rfl,q⟩,r3,by rw[h0];exact ev3⟩
theorem PVy.nestO {E:Env} (h0:E.n0=0) {c:Code} {s:Y} {Q:Exit->Y->Prop} {tO t:Ty} {p:Nat} {get:tO.den->List t.den} {e1 e2:TypeId} {L:Nat} (a0:tO.den) (hok:∀b o n,NZ.ok ⟨b,o,e1,e2,tO,t,p,get,n⟩) (ha0:get a0= [])
  (h:match s with|⟨sl,h,tch,an⟩=>match sl[L]? with
    |some (.sO id 0 n)=>(match h[id]? with
     |some (.row1 sz R0 _ zs e)=>Side (sz=tO.size/\R0=ge n zs/\e=e1/\zs=(tO.row a0).set p (.v (.slice none 0 0)))/\iH sl L .any fun sl=>kR h id (.raw .dead) fun h=>
      ∀b o hS ιS wS,PNy E ⟨b,o,e1,e2,tO,t,p,get,n⟩ hS ιS wS L c ⟨sl,h,tch,an⟩ (ge n a0) fun e s' R=>match s' with|⟨sl',h',tch',an'⟩=>fN h'.length fun m=>iH sl' L (.sO m 0 n) fun sl'=>fH (h'++ [.tl tO R e1]) fun h'=>Q e ⟨sl',h',tch',an'⟩
     |_=>False)
    |_=>False):PVy E c s Q:=by
 obtain⟨sl,hp,tch,an⟩:=s;(try simp only at h);split at h;case h_2=>exact h.elim
 rename_i id n hL;split at h;case h_2=>exact h.elim
 rename_i sz R0 n' zs e hid;obtain⟨⟨⟨q1,q2,q3,q4⟩⟩,h⟩:=h;rw[cG,cJ]at h;intro ι A w r;obtain⟨b,o,ι2,r2⟩:=SRN.start (e1:=e1) (e2:=e2) (t:=t) (get:=get) (a0:=a0) (n':=n') (zs:=zs) (tch:=tch) (an:=an) (fun b o=>hok b o n) r hL (by rw[hid,q1,q2,q3]) q4 ha0;refine wp_mono (h b o _ _ _ ι2 A w r2) ?_;rintro e A' w' ⟨s',R',ι',q,_,r'⟩;obtain⟨ι3,r3,ev3⟩:=r'.closeO (hok b o n);obtain⟨sl',h',tch',an'⟩:=s';(try simp only at q);rw[iD,cG,eQ]at q;exact⟨_,ι3,⟨_,rfl,q⟩,r3,by rw[h0];exact ev3⟩
structure GoV (E:Env) (c:Code) (s:Y) (Q:Exit->Y->Prop):Prop where
 out:PVy E c s Q
structure GoN (E:Env) (Z:NZ) (hS:Heap) (ιS:Iota) (wS:World) (L:Nat) (c:Code) (s:Y) (R:List Z.tO.den) (Q:Exit->Y->List Z.tO.den->Prop):Prop where
 out:PNy E Z hS ιS wS L c s R Q
structure GoAnd (A B:Prop):Prop where
 a:A
 b:B
def WX (r0:Nat):Code->Bool
 | .region id _ _=>ka id r0
 | .seq a b=>WX r0 a||WX r0 b
 | .cond _ a b=>WX r0 a||WX r0 b
 | .block _ a=>WX r0 a
 | .loop a=>WX r0 a
 |_=>false
theorem GoV.x (r0:Nat) {E:Env} (hT:aD E.P E.T) (hM:E.P.follows .mixedOrders=true) (hI:tK E) {c:Code} {s:Y} {Q:Exit->Y->Prop} (hr:WX r0 c=false) (h:xcode E c s Q):GoV E c s Q:=⟨PVy.x hT hM hI h⟩
theorem GoV.sq {E:Env} {x y:Code} {s:Y} {Q:Exit->Y->Prop} (h:GoV E x s (fun e s'=>match e with
  | .normal=>GoV E y s' Q
  |e=>Q e s')):GoV E (.seq x y) s Q:=by
 refine⟨PVy.seq (PV.mono h.out ?_)⟩;rintro e st ⟨s',rfl,q⟩;refine⟨s',rfl,?_⟩;cases e with
 |normal=>exact q.out
 |_=>exact q
theorem GoV.nest {E:Env} (r0 L p:Nat) {tO t:Ty} (get:tO.den->List t.den) (e1 e2:TypeId) (a0:tO.den) (hok:∀b o n,NZ.ok ⟨b,o,e1,e2,tO,t,p,get,n⟩) (ha0:get a0= []) (h0:E.n0=0) {id:Nat} {x:Code} {s:Y} {Q:Exit->Y->Prop} (hr:ka (first x) r0=true)
  (h:match s with|⟨sl,h,tch,an⟩=>match sl[L]? with
    |some (.sO id0 0 n)=>(match h[id0]? with
     |some (.row1 sz R0 _ zs e)=>Side (sz=tO.size/\R0=ge n zs/\e=e1/\zs=(tO.row a0).set p (.v (.slice none 0 0)))/\iH sl L .any fun sl=>kR h id0 (.raw .dead) fun h=>
      ∀b o hS ιS wS,GoN E ⟨b,o,e1,e2,tO,t,p,get,n⟩ hS ιS wS L (.block id x) ⟨sl,h,tch,an⟩ (ge n a0) fun e s' R=>match s' with|⟨sl',h',tch',an'⟩=>iH sl' L (.sL tO R) fun sl'=>Q e ⟨sl',h',tch',an'⟩
     |_=>False)
    |_=>False):GoV E (.block id x) s Q:=by
 refine⟨PVy.nest (e1:=e1) (e2:=e2) (L:=L) (p:=p) (get:=get) h0 a0 hok ha0 ?_⟩;obtain⟨sl,hp,tch,an⟩:=s;(try simp only at h ⊢);split at h;case h_2=>exact h.elim
 rename_i id0 n hL;split at h;case h_2=>exact h.elim
 rename_i sz R0 n' zs e hid;(try simp only[hL,hid]);refine⟨h.1,?_⟩;have h2:=h.2;rw[cG,cJ]at h2 ⊢;intro b o hS ιS wS;exact(h2 b o hS ιS wS).out
theorem GoV.nestO {E:Env} (r0 L p:Nat) {tO t:Ty} (get:tO.den->List t.den) (e1 e2:TypeId) (a0:tO.den) (hok:∀b o n,NZ.ok ⟨b,o,e1,e2,tO,t,p,get,n⟩) (ha0:get a0= []) (h0:E.n0=0) {id:Nat} {x:Code} {s:Y} {Q:Exit->Y->Prop} (hr:ka (first x) r0=true)
  (h:match s with|⟨sl,h,tch,an⟩=>match sl[L]? with
    |some (.sO id0 0 n)=>(match h[id0]? with
     |some (.row1 sz R0 _ zs e)=>Side (sz=tO.size/\R0=ge n zs/\e=e1/\zs=(tO.row a0).set p (.v (.slice none 0 0)))/\iH sl L .any fun sl=>kR h id0 (.raw .dead) fun h=>
      ∀b o hS ιS wS,GoN E ⟨b,o,e1,e2,tO,t,p,get,n⟩ hS ιS wS L (.block id x) ⟨sl,h,tch,an⟩ (ge n a0) fun e s' R=>match s' with|⟨sl',h',tch',an'⟩=>fN h'.length fun m=>iH sl' L (.sO m 0 n) fun sl'=>fH (h'++ [.tl tO R e1]) fun h'=>Q e ⟨sl',h',tch',an'⟩
     |_=>False)
    |_=>False):GoV E (.block id x) s Q:=by
 refine⟨PVy.nestO (e1:=e1) (e2:=e2) (L:=L) (p:=p) (get:=get) h0 a0 hok ha0 ?_⟩;obtain⟨sl,hp,tch,an⟩:=s;(try simp only at h ⊢);split at h;case h_2=>exact h.elim
 rename_i id0 n hL;split at h;case h_2=>exact h.elim
 rename_i sz R0 n' zs e hid;(try simp only[hL,hid]);refine⟨h.1,?_⟩;have h2:=h.2;rw[cG,cJ]at h2 ⊢;intro b o hS ιS wS;exact(h2 b o hS ιS wS).out
section
variable {E:Env} {Z:NZ} {hS:Heap} {ιS:Iota} {wS:World} {L:Nat}
theorem GoN.x (r0:Nat) (hT:aD E.P E.T) (hM:E.P.follows .mixedOrders=true) (hI:tK E) {c:Code} {s:Y} {R:List Z.tO.den} {Q:Exit->Y->List Z.tO.den->Prop} (hr:WX r0 c=false) (hL:(wr c).contains L=false)
  (hx:match s with|⟨sl,h,tch,an⟩=>∀y,iH sl L (.v y) fun sl=>xcode E c ⟨sl,h,tch,an⟩ fun e s'=>match s' with|⟨sl',h',tch',an'⟩=>iH sl' L .any fun sl'=>Q e ⟨sl',h',tch',an'⟩ R):GoN E Z hS ιS wS L c s R Q:=
 ⟨PNy.x hT hM hI (fun q=>by simp at hL;exact hL q) (by obtain⟨sl,h,tch,an⟩:=s;exact hx)⟩
theorem GoN.sq {x y:Code} {s:Y} {R:List Z.tO.den} {Q:Exit->Y->List Z.tO.den->Prop} (h:GoN E Z hS ιS wS L x s R (fun e s' R'=>match e with
  | .normal=>GoN E Z hS ιS wS L y s' R' Q
  |e=>Q e s' R')):GoN E Z hS ιS wS L (.seq x y) s R Q:=by
 refine⟨PNy.seq (PNy.mono h.out ?_)⟩;intro e s' R' q;cases e with
 |normal=>exact q.out
 |_=>exact q
theorem GoN.block {id:Nat} {c:Code} {s:Y} {R:List Z.tO.den} {Q:Exit->Y->List Z.tO.den->Prop} (h:GoN E Z hS ιS wS L c s R (fun e s' R'=>match e with
 | .exit i=>(match ka i id with
   |true=>Q .normal s' R'
   |false=>Q (.exit i) s' R')
 |e=>Q e s' R')):GoN E Z hS ιS wS L (.block id c) s R Q:=⟨PNy.block h.out⟩
theorem GoN.loop {c:Code} {s:Y} {R:List Z.tO.den} {Q:Exit->Y->List Z.tO.den->Prop} (r0:Nat) (g:List GK) (inv:Tup (gts g)->List Z.tO.den->Prop) (mu:Tup (gts g)->List Z.tO.den->Nat) (hr0:ka (first c) r0=true) (hL:(wr c).contains L=false)
  (h0:match s with|⟨sl,h,tch,an⟩=>arrive E.n0 (wr c) g ⟨sl,h,tch,an⟩ ⟨sl,h,[],an⟩ fun y=>Side (inv y R))
  (hr:match s with|⟨sl,h,tch,an⟩=>∀y R,inv y R->fS (wr c) g y ⟨sl,h⟩ fun sl' h'=>GoN E Z hS ιS wS L c ⟨sl',h',[],[]⟩ R fun e s' R'=>match e with
    | .normal=>(match s' with|⟨sl',h',tch',an'⟩=>arrive E.n0 (wr c) g ⟨sl,h,tch,an⟩ ⟨sl',h',tch',an'⟩ fun y'=>Side (inv y' R')/\Side (mu y' R'<mu y R))
    |e=>Q e ⟨s'.sl,s'.h,s'.tch++(gids ⟨sl,h⟩ g++tch),an⟩ R'):GoN E Z hS ιS wS L (.loop c) s R Q:=by
 obtain⟨sl,h,tch,an⟩:=s;refine⟨PNy.loopA (fun q=>by simp at hL;exact hL q) (g:=g) inv mu [] h0 ?_⟩;intro y R hi;have:=hr y R hi;rw[DS]at this ⊢;exact this.out
theorem GoN.loopF (hZ:Z.ok) (hT:aD E.P E.T) (hM:E.P.follows .mixedOrders=true) (hI:tK E) {c:Code} {s:Y} {R:List Z.tO.den} {Q:Exit->Y->List Z.tO.den->Prop} (r0:Nat) (g:List GK) (inv:Tup (gts g)->List Z.tO.den->Prop) (mu:Tup (gts g)->List Z.tO.den->Nat) (kf:Tup (gts g)->Nat)
  (hr0:ka (first c) r0=true) (hL:(wr c).contains L=false)
  (h0:match s with|⟨sl,h,tch,an⟩=>arrive E.n0 (wr c) g ⟨sl,h,tch,an⟩ ⟨sl,h,[],an⟩ fun y=>Side (inv y R))
  (h1:match s with|⟨sl,h,tch,an⟩=>∀y R a,inv y R->R[kf y]? =some a->fS (wr c) g y ⟨sl,h⟩ fun sl1 hp1=>∀rows:List (List V),rows.length=Z.n->fN hp1.length fun i0=>iH sl1 L (.sO i0 0 Z.n) fun sl1=>fH (hp1++ [.row1 Z.tO.size rows (kf y) (gW Z a (i0+1) (Z.get a).length) Z.e1,.opt Z.t (Z.get a) Z.e2]) fun hp1=>xcode ⟨E.P,E.T,i0+2,E.fid,E.flip,E.inl⟩ c ⟨sl1,hp1,[],[]⟩ fun e s'=>TA Z i0 rows (kf y) s' fun s2 a2=>match s2 with
     |⟨sl',h',tch',an'⟩=>iH sl' L .any fun sl'=>match e with
      | .normal=>arrive E.n0 (wr c) g ⟨sl,h,tch,an⟩ ⟨sl',h',tch',an'⟩ fun y'=>Side (inv y' (R.set (kf y) a2))/\Side (mu y' (R.set (kf y) a2)<mu y R)
      |e=>Q e ⟨sl',h',tch'++(gids ⟨sl,h⟩ g++tch),an⟩ (R.set (kf y) a2))
  (h2:match s with|⟨sl,h,tch,an⟩=>∀y R,inv y R->R.length<=kf y->fS (wr c) g y ⟨sl,h⟩ fun sl1 hp1=>∀v,iH sl1 L (.v v) fun sl1=>xcode E c ⟨sl1,hp1,[],[]⟩ fun e s'=>match s' with
    |⟨sl',h',tch',an'⟩=>iH sl' L .any fun sl'=>match e with
     | .normal=>arrive E.n0 (wr c) g ⟨sl,h,tch,an⟩ ⟨sl',h',tch',an'⟩ fun y'=>Side (inv y' R)/\Side (mu y' R<mu y R)
     |e=>Q e ⟨sl',h',tch'++(gids ⟨sl,h⟩ g++tch),an⟩ R):GoN E Z hS ιS wS L (.loop c) s R Q:=by
 obtain⟨sl,h,tch,an⟩:=s;have hL':¬L∈wr c:=fun q=>by simp at hL;exact hL q
 refine⟨PNy.loopA hL' (g:=g) inv mu [] h0 ?_⟩;intro y R hi;by_cases hk:kf y<R.length
 ·have:=h1 y R _ hi (gc hk)
  rw[DS]at this ⊢;refine PNy.focus hZ hT hM hI hL' (gc hk) (fun rows hr=>?_);have:=this rows hr;rw[iD,cG,eQ]at this ⊢;exact this
 ·have:=h2 y R hi om
  rw[DS]at this ⊢;refine PNy.x hT hM hI hL' (fun v=>?_);have:=this v;rw[cG]at this ⊢;exact this
end
theorem aH.fnG {P:Program} {T:Tbl} {f:FuncId} {fn:Func} {c:Code} {ps:List Ty} {pre:Option (Cu ps Prop)} {res:Cu ps RV} (fl:List (Nat×Nat×Nat)) (I:List Nat) (hf:P.funcs[f]? =some fn) (hb:fn.body=some c)
  (h:∀x:Tup ps,(∀p,pre=some p->cu ps p x)->∃an:List (Nat×Nat×LA),fVs (vals ps x++ge (fn.ntmps-ps.length) (.v undef)) fun sl=>GoV ⟨P,T,0,0,fl,lC P T fl I 4⟩ c ⟨sl,[],[],an⟩ (fin P fn.results.toList 0 (cu ps res x) fun _=>True)):aH P f (.fn ps pre res):=by
 intro x hx;have hlen:=Tup.len ps x;refine⟨fun p hp=>(by cases hp),fun k _=>?_⟩;refine PC.mono (PC.frame (x0:=(cu ps res x).val) (Tup.ni 0 ps x) ?_ k) (fun y k' ⟨h1,h2⟩=>⟨h1,h2⟩);obtain⟨an,hw⟩:=h x hx;rw[kM]at hw;refine PC.of_bodyV hf hb _ rfl (fun K hK=>?_);rw[hlen];refine PV.mono hw.out ?_;rintro e st ⟨s',rfl,h1⟩;obtain⟨he,y,hy,hc⟩:=IS h1;exact hK e _ y he hy (yW (τ:=zO) (fun _ _=>rfl) hc).1
def qYD (P:Program) (rs:List ResultVar) (t:Ty) (el:TypeId) (b:List t.den) (e:Exit) (s:Y):Prop:=
 match s with
 |⟨sl,h,_,_⟩=>match e with
  | .normal=>False
  | .ret=>(match ares P rs sl (dens h)with
    |some y=>(match y with
     | .sO i 0 n=>match h[i]? with
       |some (.tl t' l e')=>(match fR (t':=t) l,ka e' el with
        |some l,true=>Leaf (l=b)/\(Leaf (n=l.length)/\True)
        |_,_=>False)
       |_=>False
     |_=>False)
    |none=>False)
  |_=>False
theorem qTJ {P:Program} {rs:List ResultVar} {t:Ty} {el:TypeId} {b:List t.den} {e:Exit} {s:Y} (h:qYD P rs t el b e s):(e = .normal\/e = .ret)/\∃i,ares P rs s.sl (dens s.h)=some (.sO i 0 b.length)/\s.h[i]? =some (.tl t b el):=by
 obtain⟨sl,hp,tch,an⟩:=s;simp only[qYD]at h;split at h
 ·exact h.elim
 ·split at h
  ·rename_i y hy
   split at h
   ·rename_i i n
    split at h
    ·rename_i t' l e' ho
     split at h
     ·rename_i l' hl he
      obtain⟨⟨rfl⟩,⟨rfl⟩,_⟩:=h;obtain⟨et,el'⟩:=gM hl;have he:=kd he;subst et;subst el' he;exact⟨.inr rfl,i,hy,ho⟩
     ·exact h.elim
    ·exact h.elim
   ·exact h.elim
  ·exact h.elim
 ·exact h.elim
theorem aH.nlG {P:Program} {T:Tbl} {f:FuncId} {fn:Func} {c:Code} {t:Ty} {el:TypeId} {ps:List Ty} {pre:Option (Cu ps Prop)} {post:Cu ps (List t.den)} (fl:List (Nat×Nat×Nat)) (I:List Nat) (hf:P.funcs[f]? =some fn) (hb:fn.body=some c)
  (h:∀x:Tup ps,(∀p,pre=some p->cu ps p x)->∃an:List (Nat×Nat×LA),fVs (vals ps x++ge (fn.ntmps-ps.length) (.v undef)) fun sl=>GoV ⟨P,T,0,0,fl,lC P T fl I 4⟩ c ⟨sl,[],[],an⟩ (qYD P fn.results.toList t el (cu ps post x))):aH P f (.nl t el ps pre post):=by
 intro x hx k new k' hh;have hlen:=Tup.len ps x;refine PC.newObjF (fun i=>.sO i 0 (cu ps post x).length) (fun h1 h2 r=>?_) (Tup.ni 0 ps x) (o:=⟨t.size,(cu ps post x).map t.row,el⟩) (t.nir 0 (cu ps post x)) ?_ hh
 ·cases r with
  |sO _ _ _ cap l2 c e fr hl hcap hb hs=>
   rw[h1]at hl;injection hl with hl;subst hl;exact Rep.sO _ _ _ cap _ c e fr h2 hcap hb hs
 obtain⟨an,hw⟩:=h x hx;rw[kM]at hw;refine PC.of_bodyV hf hb _ rfl (fun K hK=>?_);rw[hlen];refine PV.mono hw.out ?_;rintro e st ⟨s',rfl,h1⟩;obtain⟨he,i,hy,ho⟩:=qTJ h1;exact hK e _ _ he hy ⟨i,_,rfl,by rw[Y.den,aJ,ho];rfl,rfl,rfl,rfl,fun j r r' h1 h2=>by rw[h1]at h2;injection h2 with h2;rw[h2];exact⟨rfl,fun _ _ _ h1 h2=>by rw[h1]at h2;injection h2 with h2;rw[h2];exact LE.refl _⟩⟩
end Go.Abs
namespace Go.Proofs.YtcjiefknhfhmkaaGreatDoor
open Go.Abs
set_option maxRecDepth 100000
set_option maxHeartbeats 4000000
set_option linter.unusedVariables false
set_option linter.unusedSimpArgs false
abbrev cX:Ty:=.pair (.list tY) (.int .i64)
abbrev Schema:Type:=(List Col)×Int
@[reducible] instance:Inhabited Schema:=instInhabitedDen cX
abbrev gZ:Ty:=.pair (.int .i64) (.list bU)
abbrev Rec:Type:=Int×List Val
@[reducible] instance:Inhabited Rec:=instInhabitedDen gZ
abbrev vC:Ty:=.pair bU (.int .i64)
abbrev Rank:Type:=Val×Int
@[reducible] instance:Inhabited Rank:=instInhabitedDen vC
abbrev lZ:Ty:=.pair (.int .i64) (.pair (.int .i64) (.pair bU bU))
abbrev Zone:Type:=Int×Int×Val×Val
@[reducible] instance:Inhabited Zone:=instInhabitedDen lZ
abbrev ZM:Ty:=.pair (.int .i64) (.pair (.list lZ) (.pair vC vC))
abbrev Info:Type:=Int×(List Zone)×Rank×Rank
@[reducible] instance:Inhabited Info:=instInhabitedDen ZM
abbrev KEY:ByteArray:=⟨#[107,101,121]⟩
def lL (first:Bool) (c:Int):Bool:=(decide (97<=c)&&decide (c<=122))||(!first&&(decide (c=95)||(decide (48<=c)&&decide (c<=57))))
def oD (s:ByteArray):Bool:=decide (1<=s.size)&&decide (s.size<=16) && !(decide (s=KEY))&&(List.range s.size).all (fun i=>lL (decide (i=0)) (aG s i))
theorem EB {s:ByteArray} (h1:1<=s.size) (h2:s.size<=16) (h3:¬s=KEY) (h4:∀i,i<s.size->lL (decide (i=0)) (aG s i)=true):oD s=true:=by
 simp only[oD,h3,Bool.and_eq_true,decide_eq_true_eq,List.all_eq_true,List.mem_range,decide_false];exact⟨⟨⟨h1,h2⟩,rfl⟩,h4⟩
theorem zP {s:ByteArray} (i:Nat) (hi:i<s.size) (h:lL (decide (i=0)) (aG s i)=false):oD s=false:=by
 have:(List.range s.size).all (fun i=>lL (decide (i=0)) (aG s i))=false:=by
  rw[List.all_eq_false];exact⟨i,by simpa using hi,by simp [h]⟩
 simp [oD,this]
theorem JL {s:ByteArray} {k:Int} (h0:0<=k/\k<s.size) (h:lL (decide (k.toNat=0)) (aG s k.toNat)=false):oD s=false:=zP k.toNat om h
def pW (name:ByteArray) (l:List Col) (k:Int):Int:=oW (fun c=>decide (c.1=name)) k l
def gX (c:Col):Bool:=decide (0<=c.2.2.1)&&decide (c.2.2.1<=18)&&(decide (c.2.1=5)||decide (c.2.2.1=0))
def dZ (l:List Col) (i:Int) (c:Col):Int:=if oD c.1=false then 3 else if pW c.1 l 0<i then 5 else if bJ c.2.1=false then 11 else if gX c=false then 4 else 0
def aS (s:Schema):Int:=if s.1.length=0 then 1 else if 12<s.1.length then 7 else if bV (dZ s.1) 0 s.1≠0 then bV (dZ s.1) 0 s.1
 else if s.2<0\/s.1.length<=s.2 then 4 else 0
theorem SA {name:ByteArray} {l:List Col} {k:Int} (j:Nat) (hj:j<k.toNat) (hl:k.toNat<l.length) (h:l[j]!.1=name):pW name l 0<k:=by
 rcases sX (fun c:Col=>decide (c.1=name)) l 0 with⟨h1,h2⟩|⟨i,h1,h2,h3,h4⟩
 ·have:=h2 j om;rw[decide_eq_true h]at this;cases this
 ·rw[pW,h2]
  by_cases q:j<i
  ·have:=h4 j q;rw[decide_eq_true h]at this;cases this
  ·omega
theorem uE {name:ByteArray} {l:List Col} {k:Int} (hk:0<=k/\k<l.length) (hn:l[k.toNat]!.1=name) (h:∀j:Nat,j<k.toNat->¬l[j]!.1=name):¬pW name l 0<k:=by
 rcases sX (fun c:Col=>decide (c.1=name)) l 0 with⟨h1,h2⟩|⟨i,h1,h2,h3,h4⟩
 ·have:=h2 k.toNat om;rw[decide_eq_true hn]at this;cases this
 ·rw[pW,h2]
  intro q;exact h i om (of_decide_eq_true h3)
abbrev NG:Ct:=.fn [.str] (none) (fun(s:ByteArray)=>.d .bool (oD s))
theorem qUS:aH Tryz.prog 104 NG:=by
 refine aH.fn qHS mixed [] [] rfl rfl ?_;rintro⟨(s:ByteArray),_⟩ -;refine⟨[(0,8,LA.mk [.sl 28 (.int .i64)] (fun y=>Tag 37/\cu [.int .i64] (fun(k:Int)=>(0<=k/\k<=s.size)/\(∀i:Nat,i<k.toNat->lL (decide (i=0)) (aG s i)=true)) y) (cu [.int .i64] (fun(k:Int)=>((s.size:Int)-k).toNat)) (cu [.int .i64] (fun(k:Int)=>([]:List (Nat×Nat×LA)))))],?_⟩;repeat' (first
  |(
 with_reducible refine Side.mk ⟨(⟨⟩:Tag 37),?_⟩
 dsimp only[cu,aC,aB,gts,eE,eN]
 refine⟨?_,?_⟩
 ·omega
 ·first
  |intro i hi;simp at hi;done
  |(
  intro i hi
  by_cases q:i<k.toNat
  ·exact hall i q
  ·have e:i=k.toNat:=om
   subst e;have:(k=0)=(k.toNat=0):=by apply propext;omega
   grind [lL]))
  |(
 with_reducible apply Side.mk
 (try dsimp only[cu,aC,aB,gts,loK,hiK,eE,eN])
 first
 |omega
 |(have:=AI (s:=s) av;omega))
  |(conv=>whnf
    first
     |with_reducible first|done|exact trivial|refine NilBr.mk (fun h=>?_) ?_|apply aL|apply aK|refine aM kr ?_|apply aN|apply bL|apply bK|apply aU
     |((with_reducible first|apply aW|apply aV|apply bH)<;>intro h<;>(try dsimp only[cu,eE,eN]at h)<;>(try(exfalso;omega)))
     |(
 intro yy (hy:Tag 37/\_)
 obtain⟨(k:Int),_⟩:=yy
 replace hy:=hy.2
 dsimp only[cu,aC,aB,gts,eE,eN]at hy
 obtain⟨hk,hall⟩:=hy)))
 all_goals(
 with_reducible apply Leaf.mk
 (try dsimp only[cu,aC,aB,gts,eE,eN]at *)
 first
 |(subst_vars;rfl)
 |rw[EB]<;>grind [AI]
 |(
  rw[zP 0 (by have:=AI av;omega)];grind [lL])
 |(
  rw[JL (k:=k) om];grind [lL])
 |(grind [oD,lL]))
abbrev qc1:Tbl:=(104,NG)::qc0
theorem qHT:aD Tryz.prog qc1:=aD.cons qUS qHS
abbrev HK:Ct:=.fn [.str] (none) (fun(s:ByteArray)=>.d .bool (oD s))
theorem qQX:aH Tryz.prog 53 HK:=by
 refine aH.fn qHT mixed [] [] rfl rfl ?_;rintro⟨(s:ByteArray),_⟩ -;refine⟨[(0,8,LA.mk [.sl 3 (.int .i64)] (fun y=>Tag 38/\cu [.int .i64] (fun(k:Int)=>(0<=k/\k<=s.size)/\(∀i:Nat,i<k.toNat->lL (decide (i=0)) (aG s i)=true)) y) (cu [.int .i64] (fun(k:Int)=>((s.size:Int)-k).toNat)) (cu [.int .i64] (fun(k:Int)=>([]:List (Nat×Nat×LA)))))],?_⟩;repeat' (first
  |(
 with_reducible refine Side.mk ⟨(⟨⟩:Tag 38),?_⟩
 dsimp only[cu,aC,aB,gts,eE,eN]
 refine⟨?_,?_⟩
 ·omega
 ·first
  |intro i hi;simp at hi;done
  |(
  intro i hi
  by_cases q:i<k.toNat
  ·exact hall i q
  ·have e:i=k.toNat:=om
   subst e;have:(k=0)=(k.toNat=0):=by apply propext;omega
   grind [lL]))
  |(
 with_reducible apply Side.mk
 (try dsimp only[cu,aC,aB,gts,loK,hiK,eE,eN])
 omega)
  |(conv=>whnf
    first
     |with_reducible first|done|exact trivial|refine NilBr.mk (fun h=>?_) ?_|apply aL|apply aK|refine aM kr ?_|apply aN|apply bL|apply bK|apply aU
     |((with_reducible first|apply aW|apply aV|apply bH)<;>intro h<;>(try dsimp only[cu,eE,eN]at h)<;>(try(exfalso;omega)))
     |(
 intro yy (hy:Tag 38/\_)
 obtain⟨(k:Int),_⟩:=yy
 replace hy:=hy.2
 dsimp only[cu,aC,aB,gts,eE,eN]at hy
 obtain⟨hk,hall⟩:=hy)))
 all_goals(
 with_reducible apply Leaf.mk
 (try dsimp only[cu,aC,aB,gts,eE,eN]at *)
 first
 |(subst_vars;rfl)
 |rw[EB]<;>grind [AI]
 |(
  rw[JL (k:=k) om];grind [lL])
 |(grind [oD,lL]))
abbrev qc2:Tbl:=(53,HK)::qc1
theorem qHU:aD Tryz.prog qc2:=aD.cons qQX qHT
abbrev MS:Ct:=.fn [cX,.str] (some (fun(s:Schema) (name:ByteArray)=>(s.1.length<=9223372036854775807))) (fun(s:Schema) (name:ByteArray)=>.d (.int .i64) (pW name s.1 0))
theorem qTM:aH Tryz.prog 105 MS:=by
 refine aH.fn qHU mixed [] [143,144] rfl rfl ?_;rintro⟨(s:Schema),(name:ByteArray),_⟩ hpre;replace hpre:=hpre _ rfl;dsimp only[cu]at hpre;have hl:=hpre;refine⟨[(143,4,LA.mk [.sl 8 (.int .i64)] (fun y=>Tag 39/\cu [.int .i64] (fun(k:Int)=>(0<=k/\k<=s.1.length)/\(pW name s.1 0=pW name (s.1.drop k.toNat) k)) y) (cu [.int .i64] (fun(k:Int)=>((s.1.length:Int)-k).toNat)) (cu [.int .i64] (fun(k:Int)=>([]:List (Nat×Nat×LA)))))],?_⟩;repeat' (first
  |(
 with_reducible refine Side.mk ⟨(⟨⟩:Tag 39),?_⟩
 dsimp only[cu,aC,aB,gts,eE,eN]
 refine⟨?_,?_⟩
 ·omega
 ·first
  |simp;done
  |(
  rw[bQ _ _ om]at hi
  simp only[pW,oW]at hi ⊢
  rw[hi]
  grind))
  |(
 with_reducible apply Side.mk
 (try dsimp only[cu,aC,aB,gts,loK,hiK,eE,eN])
 omega)
  |(conv=>whnf
    first
     |with_reducible first|done|exact trivial|refine NilBr.mk (fun h=>?_) ?_|apply aL|apply aK|refine aM kr ?_|apply aN|apply bL|apply bK|apply aU
     |((with_reducible first|apply aW|apply aV|apply bH)<;>intro h<;>(try dsimp only[cu,eE,eN]at h)<;>(try(exfalso;omega)))
     |(
 intro yy (hy:Tag 39/\_)
 obtain⟨(k:Int),_⟩:=yy
 replace hy:=hy.2
 dsimp only[cu,aC,aB,gts,eE,eN]at hy
 obtain⟨hk,hi⟩:=hy)))
 all_goals(
 with_reducible apply Leaf.mk
 (try dsimp only[cu,aC,aB,gts,eE,eN]at *)
 first
 |(
  rw[hi,bQ _ _ om];simp only[pW,oW];grind)
 |(
  rw[hi,nO _ _ om];rfl))
abbrev qc3:Tbl:=(105,MS)::qc2
theorem qHV:aD Tryz.prog qc3:=aD.cons qTM qHU
abbrev DH:Ct:=.fn [cX] (none) (fun(s:Schema)=>.d (.int .i64) (aS s))
theorem qLL:aH Tryz.prog 60 DH:=by
 refine aH.fn qHV mixed [] [] rfl rfl ?_;rintro⟨(s:Schema),_⟩ -;refine⟨[(0,12,LA.mk [.sl 18 (.int .i64)] (fun y=>Tag 40/\cu [.int .i64] (fun(k:Int)=>(0<=k/\k<=s.1.length)/\(bV (dZ s.1) 0 s.1=bV (dZ s.1) k (s.1.drop k.toNat))) y) (cu [.int .i64] (fun(k:Int)=>((s.1.length:Int)-k).toNat)) (cu [.int .i64] (fun(k:Int)=>([]:List (Nat×Nat×LA)))))],?_⟩;repeat' (first
  |(
 with_reducible refine Side.mk ⟨(⟨⟩:Tag 40),?_⟩
 dsimp only[cu,aC,aB,gts,eE,eN]
 refine⟨?_,?_⟩
 ·omega
 ·first
  |simp;done
  |(
  rw[bQ _ _ om]at hi
  rw[hi,bV,if_pos (by grind [dZ,gX,bJ])]))
  |(
 with_reducible apply Side.mk
 (try dsimp only[cu,aC,aB,gts,loK,hiK,eE,eN])
 omega)
  |(conv=>whnf
    first
     |with_reducible first|done|exact trivial|refine NilBr.mk (fun h=>?_) ?_|apply aL|apply aK|refine aM kr ?_|apply aN|apply bL|apply bK|apply aU
     |((with_reducible first|apply aW|apply aV|apply bH)<;>intro h<;>(try dsimp only[cu,eE,eN]at h)<;>(try(exfalso;omega)))
     |(
 intro yy (hy:Tag 40/\_)
 obtain⟨(k:Int),_⟩:=yy
 replace hy:=hy.2
 dsimp only[cu,aC,aB,gts,eE,eN]at hy
 obtain⟨hk,hi⟩:=hy)))
 all_goals(
 with_reducible apply Leaf.mk
 (try dsimp only[cu,aC,aB,gts,eE,eN]at *)
 first
 |grind [aS]
 |(
  have e:bV (dZ s.1) 0 s.1=dZ s.1 k s.1[k.toNat]!:=(by rw[hi,bQ _ _ om,bV];grind [dZ,bJ,gX])
  grind [aS,dZ,bJ,gX])
 |(
  rw[nO _ _ om]at hi;grind [aS,bV]))
abbrev qc4:Tbl:=(60,DH)::qc3
theorem qHW:aD Tryz.prog qc4:=aD.cons qLL qHV
abbrev yQ:Ct:=.fn [cX] (none) (fun(s:Schema)=>.d (.int .i64) (aS s))
theorem qDB:aH Tryz.prog 20 yQ:=by
 refine aH.fn qHW mixed [] [] rfl rfl ?_;rintro⟨(s:Schema),_⟩ -;refine⟨[(0,12,LA.mk [.sl 18 (.int .i64)] (fun y=>Tag 41/\cu [.int .i64] (fun(k:Int)=>(0<=k/\k<=s.1.length)/\(bV (dZ s.1) 0 s.1=bV (dZ s.1) k (s.1.drop k.toNat))) y) (cu [.int .i64] (fun(k:Int)=>((s.1.length:Int)-k).toNat)) (cu [.int .i64] (fun(k:Int)=>([(0,22,LA.mk [.sl 32 (.int .i64)] (fun y=>Tag 42/\cu [.int .i64] (fun(j:Int)=>(0<=j/\j<=k)/\(∀i:Nat,i<j.toNat->¬s.1[i]!.1=s.1[k.toNat]!.1)) y) (cu [.int .i64] (fun(j:Int)=>(k-j).toNat)) (cu [.int .i64] (fun(j:Int)=>([]:List (Nat×Nat×LA)))))]:List (Nat×Nat×LA)))))],?_⟩;repeat' (first
  |(
 with_reducible refine Side.mk ⟨(⟨⟩:Tag 41),?_⟩
 dsimp only[cu,aC,aB,gts,eE,eN]
 refine⟨?_,?_⟩
 ·omega
 ·first
  |simp;done
  |(
  have hcol:=uE (l:=s.1) (k:=k) om rfl (fun i hi=>hd i (by have:=gl (i:=k.toNat) (l:=s.1);omega))
  rw[bQ _ _ om]at hi
  rw[hi,bV,if_pos (by grind [dZ,gX,bJ])]))
  |(
 with_reducible refine Side.mk ⟨(⟨⟩:Tag 42),?_⟩
 dsimp only[cu,aC,aB,gts,eE,eN]
 refine⟨?_,?_⟩
 ·first
  |omega
  |have:=gl (i:=k.toNat) (l:=s.1);omega
 ·first
  |intro i hi;simp at hi;done
  |(
  intro i hi
  by_cases q:i<j.toNat
  ·exact hd i q
  ·have e:i=j.toNat:=om
   subst e;rw[<-nH s.1 k.toNat j.toNat (by have:=gl (i:=k.toNat) (l:=s.1);omega)];assumption))
  |(
 with_reducible apply Side.mk
 (try dsimp only[cu,aC,aB,gts,loK,hiK,eE,eN])
 first
 |omega
 |(have:=gl (i:=k.toNat) (l:=s.1);omega))
  |(conv=>whnf
    first
     |with_reducible first|done|exact trivial|refine NilBr.mk (fun h=>?_) ?_|apply aL|apply aK|refine aM kr ?_|apply aN|apply bL|apply bK|apply aU
     |((with_reducible first|apply aW|apply aV|apply bH)<;>intro h<;>(try dsimp only[cu,eE,eN]at h)<;>(try(exfalso;omega)))
     |(
 intro yy (hy:Tag 41/\_)
 obtain⟨(k:Int),_⟩:=yy
 replace hy:=hy.2
 dsimp only[cu,aC,aB,gts,eE,eN]at hy
 obtain⟨hk,hi⟩:=hy)
     |(
 intro yy (hy:Tag 42/\_)
 obtain⟨(j:Int),_⟩:=yy
 replace hy:=hy.2
 dsimp only[cu,aC,aB,gts,eE,eN]at hy
 obtain⟨hj,hd⟩:=hy)))
 all_goals(
 with_reducible apply Leaf.mk
 (try dsimp only[cu,aC,aB,gts,eE,eN]at *)
 first
 |grind [aS]
 |(
  have hjk:j<k:=by have:=gl (i:=k.toNat) (l:=s.1);omega
  have hcol:=SA (name:=s.1[k.toNat]!.1) (l:=s.1) (k:=k) j.toNat om om (by rw[<-nH s.1 k.toNat j.toNat om];assumption);have e:bV (dZ s.1) 0 s.1=dZ s.1 k s.1[k.toNat]!:=(by rw[hi,bQ _ _ om,bV];grind [dZ,bJ,gX])
  grind [aS,dZ,bJ,gX])
 |(
  have hcol:=uE (l:=s.1) (k:=k) om rfl (fun i hi=>hd i (by have:=gl (i:=k.toNat) (l:=s.1);omega));have e:bV (dZ s.1) 0 s.1=dZ s.1 k s.1[k.toNat]!:=(by rw[hi,bQ _ _ om,bV];grind [dZ,bJ,gX])
  grind [aS,dZ,bJ,gX])
 |(
  have e:bV (dZ s.1) 0 s.1=dZ s.1 k s.1[k.toNat]!:=(by rw[hi,bQ _ _ om,bV];grind [dZ,bJ,gX])
  grind [aS,dZ,bJ,gX])
 |(
  rw[nO _ _ om]at hi;grind [aS,bV]))
abbrev qc5:Tbl:=(20,yQ)::qc4
theorem qHX:aD Tryz.prog qc5:=aD.cons qDB qHW
abbrev ABCD:ByteArray:=⟨#[97,98,99,100]⟩
def JD (s:Src) (n:Int):Col×Src:=
 if 1+Src.pick s 5=5 then(⟨ABCD.extract (n-1).toNat n.toNat,1+Src.pick s 5,Src.pick (Src.next (Src.next s)) 4,decide (Src.pick (Src.next s) 2=0)⟩,Src.next (Src.next (Src.next s)))
 else(⟨ABCD.extract (n-1).toNat n.toNat,1+Src.pick s 5,0,decide (Src.pick (Src.next s) 2=0)⟩,Src.next (Src.next s))
def nQ:Nat->Src->List Col->List Col×Src
 |0,s,acc=>(acc,s)
 |n+1,s,acc=>nQ n (JD s (n+1)).2 (acc++ [(JD s (n+1)).1])
theorem qCF {k:Int} (h:k>0) (s:Src) (acc:List Col):nQ k.toNat s acc=nQ (k-1).toNat (JD s k).2 (acc++ [(JD s k).1]):=by
 obtain⟨n,rfl⟩:∃n:Nat,k=(n:Int)+1:=⟨(k-1).toNat,om⟩
 rw[show((n:Int)+1).toNat=n+1 by omega,show((n:Int)+1-1).toNat=n by omega];rfl
def aQ (l:List Int):Schema:=⟨(nQ (1+Src.pick (l,0) 4).toNat (Src.next (l,0)) []).1,Src.pick (nQ (1+Src.pick (l,0) 4).toNat (Src.next (l,0)) []).2 (nQ (1+Src.pick (l,0) 4).toNat (Src.next (l,0)) []).1.length⟩
theorem qJB:(ByteArray.mk #[97,98,99,100]).size=4:=rfl
abbrev yN:Ct:=.fn [.list (.int .i64)] (some (fun(l:List Int)=>(l.length<=9223372036854775807))) (fun(l:List Int)=>.d cX (aQ l))
theorem qCH:aH Tryz.prog 13 yN:=by
 refine aH.fn qHX mixed [] [] rfl rfl ?_;rintro⟨(l:List Int),_⟩ hpre;replace hpre:=hpre _ rfl;dsimp only[cu]at hpre;have hl:=hpre;have hp0:=Src.pick_lt (s:=(l,0)) (n:=4) dc;refine⟨[(0,8,LA.mk [.sl 5 (.int .i64),.row 2 [.own tY 40,.same],.ob 1 qP 124] (fun y=>Tag 43/\cu [.int .i64,.list tY,qP] (fun(k:Int) (C:List Col) (q:Src)=>(0<=k/\k<=4)/\(Src.ok q)/\((C.length:Int)=1+Src.pick (l,0) 4-k)/\(nQ (1+Src.pick (l,0) 4).toNat (Src.next (l,0)) []=nQ k.toNat q C)) y) (cu [.int .i64,.list tY,qP] (fun(k:Int) (C:List Col) (q:Src)=>k.toNat)) (cu [.int .i64,.list tY,qP] (fun(k:Int) (C:List Col) (q:Src)=>([]:List (Nat×Nat×LA)))))],?_⟩;repeat' (first
  |(
 with_reducible refine Side.mk ⟨(⟨⟩:Tag 43),?_⟩
 dsimp only[cu,aC,aB,gts,eE,eN]
 refine⟨?_,?_,?_,?_⟩
 ·omega
 ·(repeat (first|assumption|exact Src.ok_from av|apply Src.ok_next|apply iK|apply kNode_ok))
 ·first
  |simp only[gh];omega
  |simp only[gi,gk,gh];omega
 ·first
  |rfl
  |(
  rw[hg,qCF av]
  simp [JD, *]))
  |(
 with_reducible apply Side.mk
 (try dsimp only[cu,aC,aB,gts,loK,hiK,eE,eN])
 first
 |done
 |omega
 |exact Eq.refl _
 |simp only[gi,gk,gh];omega
 |rw[qJB];omega
 |(
  refine⟨?_,by first|decide|exact qR0 om⟩
  (repeat (first|assumption|exact Src.ok_from av|apply Src.ok_next|apply iK|apply kNode_ok));done)
 |(have:=@Src.pick_lt;grind))
  |(conv=>whnf
    first
     |with_reducible first|done|exact trivial|refine NilBr.mk (fun h=>?_) ?_|apply aL|apply aK|refine aM kr ?_|apply aN|apply bL|apply bK|apply aU
     |((with_reducible first|apply aW|apply aV|apply bH)<;>intro h<;>(try dsimp only[cu,eE,eN]at h)<;>(try(exfalso;omega)))
     |(
 intro yy (hy:Tag 43/\_)
 obtain⟨(k:Int),(C:List Col),(q:Src),_⟩:=yy
 replace hy:=hy.2
 dsimp only[cu,aC,aB,gts,eE,eN]at hy
 obtain⟨hk,hq,hv,hg⟩:=hy)))
 all_goals(
 with_reducible apply Leaf.mk
 (try dsimp only[cu,aC,aB,gts,eE,eN]at *)
 (
  rw[show k.toNat=0 by omega,nQ]at hg;simp [aQ,hg]))
abbrev qc6:Tbl:=(13,yN)::qc5
theorem qHY:aD Tryz.prog qc6:=aD.cons qCH qHX
def dA:List Col->Src->List Val×Src
 | [],q=>([],q)
 |c::cs,q=>((gV q c).1::(dA cs (gV q c).2).1,(dA cs (gV q c).2).2)
theorem rZ:∀(cs:List Col) (q:Src),Src.ok q->Src.ok (dA cs q).2
 | [],q,h=>h
 |c::cs,q,h=>rZ cs _ (by apply iK;exact h)
theorem XF {l:List Col} {k:Int} {q:Src} (h:0<=k/\k<l.length):dA (l.drop k.toNat) q=((gV q l[k.toNat]!).1::(dA (l.drop (k+1).toNat) (gV q l[k.toNat]!).2).1,(dA (l.drop (k+1).toNat) (gV q l[k.toNat]!).2).2):=by
 rw[bQ l k h];rfl
abbrev MZ:Ct:=.meth qP 124 [cX] (some (fun(s:Src) (x:Schema)=>(Src.ok s)/\(x.1.length<=1000))) (fun(s:Src) (x:Schema)=>.d (.list bU) ((dA x.1 s).1)) (fun(s:Src) (x:Schema)=>(dA x.1 s).2)
theorem qT9:aH Tryz.prog 47 MZ:=by
 refine aH.meth qHY mixed [] [] rfl rfl ?_;rintro(s:Src) ⟨(x:Schema),_⟩ hpre;replace hpre:=hpre _ rfl;dsimp only[cu]at hpre;obtain⟨hs,hx⟩:=hpre;refine⟨[(0,6,LA.mk [.sl 11 (.int .i64),.lst 5 bU 43,.ob 0 qP 124] (fun y=>Tag 44/\cu [.int .i64,.list bU,qP] (fun(k:Int) (M:List Val) (q:Src)=>(0<=k/\k<=x.1.length)/\(Src.ok q)/\(dA x.1 s=(M++(dA (x.1.drop k.toNat) q).1,(dA (x.1.drop k.toNat) q).2))/\((M.length:Int)<=k)) y) (cu [.int .i64,.list bU,qP] (fun(k:Int) (M:List Val) (q:Src)=>((x.1.length:Int)-k).toNat)) (cu [.int .i64,.list bU,qP] (fun(k:Int) (M:List Val) (q:Src)=>([]:List (Nat×Nat×LA)))))],?_⟩;repeat' (first
  |(
 with_reducible refine Side.mk ⟨(⟨⟩:Tag 44),?_⟩
 dsimp only[cu,aC,aB,gts,eE,eN]
 refine⟨?_,?_,?_,?_⟩
 ·omega
 ·(repeat (first|assumption|exact Src.ok_from om|apply Src.ok_next|apply iK|apply rZ))
 ·first
  |rfl
  |(
  rw[hm,XF om]
  simp)
 ·first
  |simp;done
  |(simp only[gi,gk,gh];omega))
  |(
 with_reducible apply Side.mk
 (try dsimp only[cu,aC,aB,gts,loK,hiK,eE,eN])
 first
 |done
 |omega
 |exact Eq.refl _
 |(simp only[gi,gk,gh];omega))
  |(conv=>whnf
    first
     |with_reducible first|done|exact trivial|refine NilBr.mk (fun h=>?_) ?_|apply aL|apply aK|refine aM kr ?_|apply aN|apply bL|apply bK|apply aU
     |((with_reducible first|apply aW|apply aV|apply bH)<;>intro h<;>(try dsimp only[cu,eE,eN]at h)<;>(try(exfalso;omega)))
     |(
 intro yy (hy:Tag 44/\_)
 obtain⟨(k:Int),(M:List Val),(q:Src),_⟩:=yy
 replace hy:=hy.2
 dsimp only[cu,aC,aB,gts,eE,eN]at hy
 obtain⟨hk,hq,hm,hl⟩:=hy)))
 all_goals(
 with_reducible apply Leaf.mk
 (try dsimp only[cu,aC,aB,gts,eE,eN]at *)
 (
  rw[hm,gz om];simp [dA]))
abbrev qZZ:Tbl:=(47,MZ)::qc6
theorem tI:aD Tryz.prog qZZ:=aD.cons qT9 qHY
theorem qPT (b o n:Nat):NZ.ok ⟨b,o,52,43,.list bU,bU,0,fun a=>a,n⟩:=by
 refine⟨fun a=>rfl,?_,?_⟩
 ·intro a j x hj h
  rcases j with _|j
  ·exact(hj rfl).elim
  ·cases h
 ·intro a j x h
  rcases j with _|_|_|j
  ·exact⟨_,(Option.some.inj h).symm⟩
  ·exact⟨_,(Option.some.inj h).symm⟩
  ·exact⟨_,(Option.some.inj h).symm⟩
  ·cases h
theorem qPS (b o n:Nat):NZ.ok ⟨b,o,56,43,gZ,bU,1,fun a=>a.2,n⟩:=by
 refine⟨fun a=>rfl,?_,?_⟩
 ·intro a j x hj h
  rcases j with _|_|j
  ·exact⟨_,(Option.some.inj h).symm⟩
  ·exact(hj rfl).elim
  ·cases h
 ·intro a j x h
  rcases j with _|_|_|j
  ·exact⟨_,(Option.some.inj h).symm⟩
  ·exact⟨_,(Option.some.inj h).symm⟩
  ·exact⟨_,(Option.some.inj h).symm⟩
  ·cases h
def atV (r:Rec) (i:Nat):Val:=if i<r.2.length then r.2[i]! else(true,0,⟨#[]⟩)
def jW (l:List Rec) (i:Nat):List Val:=l.map fun r=>atV r i
def jX (l:List Rec) (n:Int):List (List Val):=if n<1\/n>12 then[]else(List.range n.toNat).map (jW l)
def nL (l:List Rec) (n i k:Nat):List (List Val):=(List.range n).map fun j=>if j<i then jW l j else if j=i then jW (l.take k) i else[]
theorem jL (l:List Rec) (n i k:Nat):(nL l n i k).length=n:=by simp [nL]
theorem mH {l:List Rec} {n i k j:Nat} (h:j<n):(nL l n i k)[j]? =some (if j<i then jW l j else if j=i then jW (l.take k) i else[]):=by simp [nL,h]
theorem qSZ (l:List Rec) (n:Nat):nL l n 0 0=ge n []:=by
 apply gp;intro j;by_cases h:j<n
 ·rw[mH h];simp [h,jW]
 ·rw[gf (by rw[jL];omega),gf (by simp;omega)]
theorem qBL (l:List Rec) (n i:Nat):nL l n i l.length=nL l n (i+1) 0:=by
 apply gp;intro j;by_cases h:j<n
 ·rw[mH h,mH h]
  congr 1
  by_cases h1:j<i
  ·rw[if_pos h1,if_pos om]
  ·by_cases h2:j=i
   ·subst h2;rw[if_neg h1,if_pos rfl,if_pos om,List.take_length]
   ·rw[if_neg h1,if_neg h2,if_neg om]
    split
    ·simp [jW]
    ·rfl
 ·rw[gf (by rw[jL];omega),gf (by rw[jL];omega)]
theorem IH {l:List Rec} {n i k:Nat} (hi:i<n) (hk:k<l.length):(nL l n i k).set i (jW (l.take k) i++ [atV l[k]! i])=nL l n i (k+1):=by
 apply gp;intro j;by_cases h:j<n
 ·rw[mH h]
  by_cases h2:i=j
  ·subst h2
   rw[ga (by rw[jL];exact hi),if_neg om,if_pos rfl,List.take_add_one,gc hk,getElem!_pos l k hk];simp only[jW,List.map_append,Option.toList_some,List.map_cons,List.map_nil]
  ·rw[gb h2,mH h]
   congr 1
   split
   ·rfl
   ·rw[if_neg (fun q=>h2 q.symm),if_neg (fun q=>h2 q.symm)]
 ·rw[gf (by rw[gg,jL];omega),gf (by rw[jL];omega)]
theorem qJZ {l:List Rec} {n:Int} (h:¬(n<1\/n>12)):nL l n.toNat n.toNat 0=jX l n:=by
 rw[jX,if_neg h];apply List.map_congr_left;intro j hj;rw[if_pos (by simpa using hj)]
theorem qNU {l:List Rec} {n i k:Nat} {a:List Val} (hi:i<n) (h:(nL l n i k)[i]? =some a):a=jW (l.take k) i:=by
 rw[mH hi,if_neg om,if_pos rfl]at h;exact(Option.some.inj h).symm
theorem qBM {l:List Rec} {n i k:Nat} (hi:i<n):(nL l n i k).set i (jW (l.take k) i)=nL l n i k:=by
 apply gp;intro j;by_cases h2:i=j
 ·subst h2
  rw[ga (by rw[jL];exact hi),mH hi,if_neg om,if_pos rfl]
 ·rw[gb h2]
theorem qJ0 {l:List Rec} {n i k:Nat} (hi:i<n) (hk:k=l.length):(nL l n i k).set i (jW (l.take k) i)=nL l n (i+1) 0:=by
 rw[qBM hi,hk,qBL]
theorem gN (l:List Rec) (i:Nat):(jW l i).length=l.length:=by simp [jW]
abbrev MM:Ct:=.nl (.list bU) 52 [.list gZ,.int .i64] (some (fun(l:List Rec) (n:Int)=>(l.length<=1099511627776)/\(1<=n/\n<=12))) (fun(l:List Rec) (n:Int)=>jX l n)
theorem qS0:aH Tryz.prog 99 MM:=by
 refine aH.nlG (T:=qZZ) [(0,3,1)] [] rfl rfl ?_;rintro⟨(l:List Rec),(n:Int),_⟩ hpre;replace hpre:=hpre _ rfl;dsimp only[cu]at hpre;obtain⟨hl,hn⟩:=hpre;refine⟨[],?_⟩;repeat' (first
  |(
 with_reducible refine Side.mk ⟨(⟨⟩:Tag 45),?_⟩
 dsimp only[cu,aC,aB,gts,eE,eN]
 refine⟨?_,?_⟩
 ·omega
 ·first
  |exact(qSZ l n.toNat).symm
  |(
  rw[hS2,show(i+1).toNat=i.toNat+1 by omega]
  exact qJ0 om om))
  |(
 with_reducible refine Side.mk ⟨(⟨⟩:Tag 46),?_⟩
 dsimp only[cu,aC,aB,gts,eE,eN]
 refine⟨?_,?_⟩
 ·omega
 ·first
  |exact hR
  |rw[hS2,show(k+1).toNat=k.toNat+1 by omega,<-IH om om,atV,if_pos om]
  |(rw[hS2,show(k+1).toNat=k.toNat+1 by omega,<-IH om om,atV,if_neg om]))
  |(
 with_reducible apply Side.mk
 (try dsimp only[cu,aC,aB,gts,loK,hiK,eE,eN])
 first
 |done
 |omega
 |simp only[gi,gk,gh];omega
 |(
  dsimp only at hrows;omega)
 |exact⟨rfl,rfl,rfl,rfl⟩
 |exact⟨⟨rfl,rfl,rfl,rfl⟩,rfl,rfl,sm,dc,rfl⟩
 |(
  simp only[gN,gl,gk,gh];omega))
  |(conv=>whnf
    first
     |refine GoV.x 5 tI mixed (iS tI mixed [(0,3,1)] [] 4 _ _) (by exact rfl) ?_
     |refine GoV.nestO (tO:=.list bU) (t:=bU) 5 5 0 (fun a=>a) 52 43 ([]) qPT rfl rfl (by exact rfl) ?_
     |refine GoV.sq ?_
     |intro(nb:Nat) (no:Nat) (hS:Heap) (ιS:Iota) (wS:World)
     |intro(rows:List (List V)) (hrows:rows.length=_)
     |intro(nv:Value)
     |refine GoN.x 8 tI mixed (iS tI mixed [(0,3,1)] [] 4 _ _) (by exact rfl) (by exact rfl) ?_
     |refine GoN.block ?_
     |refine GoN.sq ?_
     |refine GoN.loop 5 [.sl 20 (.int .i64)] (fun y (R:List (Ty.den (.list bU)))=>Tag 45/\cu [.int .i64] (fun(i:Int)=>fun(R:List (Ty.den (.list bU)))=>(0<=i/\i<=n)/\(R=nL l n.toNat i.toNat 0)) y R) (fun y _=>cu [.int .i64] (fun(i:Int)=>(n-i).toNat) y) (by exact rfl) (by exact rfl) ?_ ?_
     |refine GoN.loopF (qPT _ _ _) tI mixed (iS tI mixed [(0,3,1)] [] 4 _ _) 8 [.sl 25 (.int .i64)] (fun y (R:List (Ty.den (.list bU)))=>Tag 46/\cu [.int .i64] (fun(k:Int)=>fun(R:List (Ty.den (.list bU)))=>(0<=k/\k<=l.length)/\(R=nL l n.toNat i.toNat k.toNat)) y R) (fun y _=>cu [.int .i64] (fun(k:Int)=>(l.length-k).toNat) y) (cu [.int .i64] (fun(k:Int)=>i.toNat)) (by exact rfl) (by exact rfl) ?_ ?_ ?_
     |(
 intro yy (R:List (Ty.den (.list bU))) (hy:Tag 45/\_)
 obtain⟨(i:Int),_⟩:=yy
 replace hy:=hy.2
 dsimp only[cu,aC,aB,gts,eE,eN]at hy
 obtain⟨hi,hR⟩:=hy)
     |(
 intro yy (R:List (Ty.den (.list bU))) (ra:Ty.den (.list bU)) (hy:Tag 46/\_) hra
 obtain⟨(k:Int),_⟩:=yy
 replace hy:=hy.2
 dsimp only[cu,aC,aB,gts,eE,eN]at hy hra
 obtain⟨hk,hS2⟩:=hy
 rw[hS2]at hra
 have hra:=qNU om hra
 subst hra)
     |(
 intro yy (R:List (Ty.den (.list bU))) (hy:Tag 46/\_) hle
 obtain⟨(k:Int),_⟩:=yy
 replace hy:=hy.2
 dsimp only[cu,aC,aB,gts,eE,eN]at hy hle
 obtain⟨hk,hS2⟩:=hy
 exfalso
 rw[hS2,jL]at hle
 omega)
     |with_reducible first|done|exact trivial|refine NilBr.mk (fun h=>?_) ?_|apply aL|apply aK|refine aM kr ?_|apply aN|apply bL|apply bK|apply aU
     |((with_reducible first|apply aW|apply aV|apply bH)<;>intro h<;>(try dsimp only[cu,eE,eN]at h)<;>(try(exfalso;omega)))))
 all_goals(
 with_reducible apply Leaf.mk
 (try dsimp only[cu,aC,aB,gts,eE,eN]at *)
 first
 |(
  rw[hR,show i.toNat=n.toNat by omega];exact qJZ om)
 |(
  rw[hR,jL];(try omega)))
abbrev qc7:Tbl:=(99,MM)::qZZ
theorem qHZ:aD Tryz.prog qc7:=aD.cons qS0 tI
abbrev fC:Val:=(true,0,⟨#[]⟩)
def oF (t g:Int) (a b:Val):Val:=if a.1=true/\b.1=true then fC else if a.1=true then b else if b.1=true then a else if aY t b a=g then b else a
def vE (t:Int) (z:Int×Val×Val) (v:Val):Int×Val×Val:=if v.1=true then(z.1+1,z.2.1,z.2.2)else(z.1,oF t (-1) z.2.1 v,oF t 1 z.2.2 v)
def zGo (t:Int) (l:List Val) (z:Int×Val×Val):Int×Val×Val:=l.foldl (vE t) z
def qO (t:Int) (l:List Val):Zone:=((l.length:Int),zGo t l (0,fC,fC))
theorem AP {t:Int} {l:List Val} {k:Int} {z:Int×Val×Val} (h:0<=k/\k<l.length):zGo t (l.drop k.toNat) z=zGo t (l.drop (k+1).toNat) (vE t z l[k.toNat]!):=by
 rw[bQ l k h];rfl
theorem UF {t:Int} {z:Int×Val×Val} {v:Val} (h:v.1=false):vE t z v=(z.1,oF t (-1) z.2.1 v,oF t 1 z.2.2 v):=by rw[vE,if_neg (by rw[h];exact ht)]
theorem FJ {t g:Int} {a b:Val} (hb:b.1=true) (ha:a.1=true->a=fC):oF t g a b=a:=by
 unfold oF;by_cases h:a.1=true
 ·rw[if_pos ⟨h,hb⟩,ha h]
 ·rw[if_neg (fun q=>h q.1),if_neg h,if_pos hb]
theorem qFJ {t g:Int} {a b:Val} (hb:b.1=false):(oF t g a b).1=true->oF t g a b=fC:=by
 unfold oF;intro h;rw[if_neg (fun q=>by rw[hb]at q;exact ht q.2)]at h ⊢;by_cases ha:a.1=true
 ·rw[if_pos ha,hb]at h;cases h
 ·rw[if_neg ha,if_neg (by rw[hb];exact ht)]at h
  split at h
  ·rw[hb]at h;cases h
  ·exact absurd h ha
def zU (v:Val):ByteArray:=if v.1=true then⟨#[0]⟩else(⟨#[1]⟩++aT (put (eK v.2.1))++aT (put (v.2.2.size:Int)))++v.2.2
theorem qP7 {v:Val} (h:v.1=false):zU v=(⟨#[1]⟩++aT (put (eK v.2.1))++aT (put (v.2.2.size:Int)))++v.2.2:=by rw[zU,if_neg (by rw[h];exact ht)]
theorem wA {v:Val}:(zU v).size<=21+v.2.2.size:=by
 unfold zU;have p1:=bW (eK v.2.1);have p2:=bW ((v.2.2.size:Int));split
 ·show 1<=_;omega
 ·simp only[ByteArray.size_append,bO]
  have s1:(⟨#[1]⟩:ByteArray).size=1:=rfl;omega
abbrev zV:Val:=(false,0,⟨#[]⟩)
def dT (s:ByteArray) (a:Int):Val×Int×Int:=if a<0\/a>s.size then(zV,0,4)else if a=s.size then(zV,0,10)else if aG s a.toNat>1 then(zV,0,2)else if aG s a.toNat=0 then(fC,a+1,0)
 else if(aA s (a+1)).2.2≠0 then(zV,0,(aA s (a+1)).2.2)else if(aA s (aA s (a+1)).2.1).2.2≠0 then(zV,0,(aA s (aA s (a+1)).2.1).2.2)
 else if(aA s (aA s (a+1)).2.1).1>s.size-(aA s (aA s (a+1)).2.1).2.1 then(zV,0,10)
 else((false,nE (aA s (a+1)).1,s.extract (aA s (aA s (a+1)).2.1).2.1.toNat ((aA s (aA s (a+1)).2.1).2.1+(aA s (aA s (a+1)).2.1).1).toNat),(aA s (aA s (a+1)).2.1).2.1+(aA s (aA s (a+1)).2.1).1,0)
abbrev zZ:Zone:=(0,0,zV,zV)
def gG (s:ByteArray) (a:Int):Zone×Int×Int:=if(aA s a).2.2≠0 then(zZ,0,(aA s a).2.2)else if(aA s a).1>4096 then(zZ,0,2)
 else if(aA s (aA s a).2.1).2.2≠0 then(zZ,0,(aA s (aA s a).2.1).2.2)else if(aA s (aA s a).2.1).1>4096 then(zZ,0,2)
 else if(dT s (aA s (aA s a).2.1).2.1).2.2≠0 then(zZ,0,(dT s (aA s (aA s a).2.1).2.1).2.2)else if(dT s (dT s (aA s (aA s a).2.1).2.1).2.1).2.2≠0 then(zZ,0,(dT s (dT s (aA s (aA s a).2.1).2.1).2.1).2.2)
 else(((aA s a).1,(aA s (aA s a).2.1).1,(dT s (aA s (aA s a).2.1).2.1).1,(dT s (dT s (aA s (aA s a).2.1).2.1).2.1).1),(dT s (dT s (aA s (aA s a).2.1).2.1).2.1).2.1,0)
def sA (z:Zone):ByteArray:=aT (put (cH 0 z.1))++aT (put (cH 0 z.2.1))++zU z.2.2.1++zU z.2.2.2
def lU (c:Col) (z:Zone):Bool:=if bJ c.2.1=false\/z.2.1<0\/z.2.1>z.1\/z.1>4096\/(z.2.1>0/\c.2.2.2=false)then false
 else if z.2.1=z.1 then decide (z.2.2.1=fC)&&decide (z.2.2.2=fC)
 else if z.2.2.1.1=true\/z.2.2.2.1=true\/aZ c z.2.2.1≠0\/aZ c z.2.2.2≠0 then false
 else(decide (aY c.2.1 z.2.2.1 z.2.2.2<0)&&decide (z.1-z.2.1>1))||decide (aY c.2.1 z.2.2.1 z.2.2.2=0)
abbrev HA:Ct:=.fn [.int .i64,bU,bU] (none) (fun(t:Int) (a:Val) (b:Val)=>.d bU (oF t (-1) a b))
theorem qPD:aH Tryz.prog 138 HA:=by
 refine aH.fn qHZ mixed [] [] rfl rfl ?_;rintro⟨(t:Int),(a:Val),(b:Val),_⟩ -;refine⟨[],?_⟩;repeat' (first
  |(
 with_reducible apply Side.mk
 (try dsimp only[cu,aC,aB,gts,loK,hiK,eE,eN])
 done)
  |(conv=>whnf
    first
     |with_reducible first|done|exact trivial|refine NilBr.mk (fun h=>?_) ?_|apply aL|apply aK|refine aM kr ?_|apply aN|apply bL|apply bK|apply aU
     |((with_reducible first|apply aW|apply aV|apply bH)<;>intro h<;>(try dsimp only[cu,eE,eN]at h)<;>(try(exfalso;omega)))))
 all_goals(
 with_reducible apply Leaf.mk
 (try dsimp only[cu,aC,aB,gts,eE,eN]at *)
 grind [oF,aY,iO,nB])
abbrev qc8:Tbl:=(138,HA)::qc7
theorem qH0:aD Tryz.prog qc8:=aD.cons qPD qHZ
abbrev wQ:Ct:=.fn [.int .i64,bU,bU] (none) (fun(t:Int) (a:Val) (b:Val)=>.d bU (oF t 1 a b))
theorem WV:aH Tryz.prog 139 wQ:=by
 refine aH.fn qH0 mixed [] [] rfl rfl ?_;rintro⟨(t:Int),(a:Val),(b:Val),_⟩ -;refine⟨[],?_⟩;repeat' (first
  |(
 with_reducible apply Side.mk
 (try dsimp only[cu,aC,aB,gts,loK,hiK,eE,eN])
 done)
  |(conv=>whnf
    first
     |with_reducible first|done|exact trivial|refine NilBr.mk (fun h=>?_) ?_|apply aL|apply aK|refine aM kr ?_|apply aN|apply bL|apply bK|apply aU
     |((with_reducible first|apply aW|apply aV|apply bH)<;>intro h<;>(try dsimp only[cu,eE,eN]at h)<;>(try(exfalso;omega)))))
 all_goals(
 with_reducible apply Leaf.mk
 (try dsimp only[cu,aC,aB,gts,eE,eN]at *)
 grind [oF,aY,iO,nB])
abbrev qc9:Tbl:=(139,wQ)::qc8
theorem qH1:aD Tryz.prog qc9:=aD.cons WV qH0
abbrev NL:Ct:=.fn [] (none) (.d bU fC)
theorem qUZ:aH Tryz.prog 74 NL:=by
 refine aH.fn qH1 mixed [] [] rfl rfl ?_;rintro⟨⟩ -;refine⟨[],?_⟩;repeat' (first
  |(
 with_reducible apply Side.mk
 (try dsimp only[cu,aC,aB,gts,loK,hiK,eE,eN])
 done)
  |(conv=>whnf
    first
     |with_reducible first|done|exact trivial|refine NilBr.mk (fun h=>?_) ?_|apply aL|apply aK|refine aM kr ?_|apply aN|apply bL|apply bK|apply aU
     |((with_reducible first|apply aW|apply aV|apply bH)<;>intro h<;>(try dsimp only[cu,eE,eN]at h)<;>(try(exfalso;omega)))))
 all_goals(
 with_reducible apply Leaf.mk
 (try dsimp only[cu,aC,aB,gts,eE,eN]at *)
 done)
abbrev qdA:Tbl:=(74,NL)::qc9
theorem qH2:aD Tryz.prog qdA:=aD.cons qUZ qH1
abbrev VF:Ct:=.fn [.int .i64,.int .i64,bU,bU] (none) (fun(t:Int) (g:Int) (a:Val) (b:Val)=>.d bU (oF t g a b))
theorem qZG:aH Tryz.prog 75 VF:=by
 refine aH.fn qH2 mixed [] [] rfl rfl ?_;rintro⟨(t:Int),(g:Int),(a:Val),(b:Val),_⟩ -;refine⟨[],?_⟩;repeat' (first
  |(
 with_reducible apply Side.mk
 (try dsimp only[cu,aC,aB,gts,loK,hiK,eE,eN])
 done)
  |(conv=>whnf
    first
     |with_reducible first|done|exact trivial|refine NilBr.mk (fun h=>?_) ?_|apply aL|apply aK|refine aM kr ?_|apply aN|apply bL|apply bK|apply aU
     |((with_reducible first|apply aW|apply aV|apply bH)<;>intro h<;>(try dsimp only[cu,eE,eN]at h)<;>(try(exfalso;omega)))))
 all_goals(
 with_reducible apply Leaf.mk
 (try dsimp only[cu,aC,aB,gts,eE,eN]at *)
 grind [oF])
abbrev qdB:Tbl:=(75,VF)::qdA
theorem qH3:aD Tryz.prog qdB:=aD.cons qZG qH2
abbrev DL:Ct:=.fn [.int .i64,.list bU] (some (fun(t:Int) (l:List Val)=>(l.length<=1073741824))) (fun(t:Int) (l:List Val)=>.d lZ (qO t l))
theorem qMH:aH Tryz.prog 100 DL:=by
 refine aH.fn qH3 mixed [] [] rfl rfl ?_;rintro⟨(t:Int),(l:List Val),_⟩ hpre;replace hpre:=hpre _ rfl;dsimp only[cu]at hpre;have hl:=hpre;refine⟨[(0,6,LA.mk [.sl 15 (.int .i64),.row 1 [.same,.val (.int .i64),.val .bool,.val (.int .i64),.val .str,.val .bool,.val (.int .i64),.val .str]] (fun y=>Tag 47/\cu [.int .i64,.int .i64,.bool,.int .i64,.str,.bool,.int .i64,.str] (fun(k:Int) (nl:Int) (b1:Bool) (n1:Int) (s1:ByteArray) (b2:Bool) (n2:Int) (s2:ByteArray)=>(0<=k/\k<=l.length)/\(zGo t l (0,fC,fC)=zGo t (l.drop k.toNat) (nl,((b1,n1,s1):Val),((b2,n2,s2):Val)))/\(0<=nl/\nl<=k)/\(b1=true->((b1,n1,s1):Val)=fC)/\(b2=true->((b2,n2,s2):Val)=fC)) y) (cu [.int .i64,.int .i64,.bool,.int .i64,.str,.bool,.int .i64,.str] (fun(k:Int) (nl:Int) (b1:Bool) (n1:Int) (s1:ByteArray) (b2:Bool) (n2:Int) (s2:ByteArray)=>((l.length:Int)-k).toNat)) (cu [.int .i64,.int .i64,.bool,.int .i64,.str,.bool,.int .i64,.str] (fun(k:Int) (nl:Int) (b1:Bool) (n1:Int) (s1:ByteArray) (b2:Bool) (n2:Int) (s2:ByteArray)=>([]:List (Nat×Nat×LA)))))],?_⟩;repeat' (first
  |(
 with_reducible refine Side.mk ⟨(⟨⟩:Tag 47),?_⟩
 dsimp only[cu,aC,aB,gts,eE,eN]
 refine⟨?_,?_,?_,?_,?_⟩
 ·omega
 ·first
  |rfl
  |(
  rw[hg,AP om,vE,if_pos av]
  rw[FJ av h1,FJ av h2])
  |rw[hg,AP om,UF av]
 ·omega
 ·first
  |exact fun _=>rfl
  |(
  rw[FJ av h1]
  exact h1)
  |exact qFJ av
 ·first
  |exact fun _=>rfl
  |(
  rw[FJ av h2]
  exact h2)
  |(exact qFJ av))
  |(
 with_reducible apply Side.mk
 (try dsimp only[cu,aC,aB,gts,loK,hiK,eE,eN])
 first
 |done
 |(omega))
  |(conv=>whnf
    first
     |with_reducible first|done|exact trivial|refine NilBr.mk (fun h=>?_) ?_|apply aL|apply aK|refine aM kr ?_|apply aN|apply bL|apply bK|apply aU
     |((with_reducible first|apply aW|apply aV|apply bH)<;>intro h<;>(try dsimp only[cu,eE,eN]at h)<;>(try(exfalso;omega)))
     |(
 intro yy (hy:Tag 47/\_)
 obtain⟨(k:Int),(nl:Int),(b1:Bool),(n1:Int),(s1:ByteArray),(b2:Bool),(n2:Int),(s2:ByteArray),_⟩:=yy
 replace hy:=hy.2
 dsimp only[cu,aC,aB,gts,eE,eN]at hy
 obtain⟨hk,hg,hn,h1,h2⟩:=hy)))
 all_goals(
 with_reducible apply Leaf.mk
 (try dsimp only[cu,aC,aB,gts,eE,eN]at *)
 (
  rw[qO,hg,gz om];rfl))
abbrev qdC:Tbl:=(100,DL)::qdB
theorem qH4:aD Tryz.prog qdC:=aD.cons qMH qH3
abbrev yR:Ct:=.fn [.int .i64,.list bU] (some (fun(t:Int) (l:List Val)=>(l.length<=1073741824))) (fun(t:Int) (l:List Val)=>.d lZ (qO t l))
theorem qDD:aH Tryz.prog 28 yR:=by
 refine aH.fn qH4 mixed [] [] rfl rfl ?_;rintro⟨(t:Int),(l:List Val),_⟩ hpre;replace hpre:=hpre _ rfl;dsimp only[cu]at hpre;have hl:=hpre;refine⟨[(0,6,LA.mk [.sl 15 (.int .i64),.row 1 [.same,.val (.int .i64),.val .bool,.val (.int .i64),.val .str,.val .bool,.val (.int .i64),.val .str]] (fun y=>Tag 48/\cu [.int .i64,.int .i64,.bool,.int .i64,.str,.bool,.int .i64,.str] (fun(k:Int) (nl:Int) (b1:Bool) (n1:Int) (s1:ByteArray) (b2:Bool) (n2:Int) (s2:ByteArray)=>(0<=k/\k<=l.length)/\(zGo t l (0,fC,fC)=zGo t (l.drop k.toNat) (nl,((b1,n1,s1):Val),((b2,n2,s2):Val)))/\(0<=nl/\nl<=k)/\(b1=true->((b1,n1,s1):Val)=fC)/\(b2=true->((b2,n2,s2):Val)=fC)) y) (cu [.int .i64,.int .i64,.bool,.int .i64,.str,.bool,.int .i64,.str] (fun(k:Int) (nl:Int) (b1:Bool) (n1:Int) (s1:ByteArray) (b2:Bool) (n2:Int) (s2:ByteArray)=>((l.length:Int)-k).toNat)) (cu [.int .i64,.int .i64,.bool,.int .i64,.str,.bool,.int .i64,.str] (fun(k:Int) (nl:Int) (b1:Bool) (n1:Int) (s1:ByteArray) (b2:Bool) (n2:Int) (s2:ByteArray)=>([]:List (Nat×Nat×LA)))))],?_⟩;repeat' (first
  |(
 with_reducible refine Side.mk ⟨(⟨⟩:Tag 48),?_⟩
 dsimp only[cu,aC,aB,gts,eE,eN]
 refine⟨?_,?_,?_,?_,?_⟩
 ·omega
 ·first
  |rfl
  |(
  rw[hg,AP om,vE,if_pos av]
  done)
  |rw[hg,AP om,UF av]
 ·omega
 ·first
  |exact fun _=>rfl
  |exact h1
  |exact qFJ av
 ·first
  |exact fun _=>rfl
  |exact h2
  |(exact qFJ av))
  |(
 with_reducible apply Side.mk
 (try dsimp only[cu,aC,aB,gts,loK,hiK,eE,eN])
 first
 |done
 |(omega))
  |(conv=>whnf
    first
     |with_reducible first|done|exact trivial|refine NilBr.mk (fun h=>?_) ?_|apply aL|apply aK|refine aM kr ?_|apply aN|apply bL|apply bK|apply aU
     |((with_reducible first|apply aW|apply aV|apply bH)<;>intro h<;>(try dsimp only[cu,eE,eN]at h)<;>(try(exfalso;omega)))
     |(
 intro yy (hy:Tag 48/\_)
 obtain⟨(k:Int),(nl:Int),(b1:Bool),(n1:Int),(s1:ByteArray),(b2:Bool),(n2:Int),(s2:ByteArray),_⟩:=yy
 replace hy:=hy.2
 dsimp only[cu,aC,aB,gts,eE,eN]at hy
 obtain⟨hk,hg,hn,h1,h2⟩:=hy)))
 all_goals(
 with_reducible apply Leaf.mk
 (try dsimp only[cu,aC,aB,gts,eE,eN]at *)
 (
  rw[qO,hg,gz om];rfl))
abbrev qdD:Tbl:=(28,yR)::qdC
theorem qH5:aD Tryz.prog qdD:=aD.cons qDD qH4
abbrev NT:Ct:=.fn [.str,.int .i64] (some (fun(s:ByteArray) (a:Int)=>(s.size<=4611686018427387904))) (fun(s:ByteArray) (a:Int)=>.tup [bU,.int .i64,.int .i64] ((dT s a).1,(dT s a).2.1,(dT s a).2.2,()))
theorem qV3:aH Tryz.prog 129 NT:=by
 refine aH.fn qH5 mixed [] [] rfl rfl ?_;rintro⟨(s:ByteArray),(a:Int),_⟩ hpre;replace hpre:=hpre _ rfl;dsimp only[cu]at hpre;have hs:=hpre;refine⟨[],?_⟩;repeat' (first
  |(
 with_reducible apply Side.mk
 (try dsimp only[cu,aC,aB,gts,loK,hiK,eE,eN])
 first
 |omega
 |exact bA _ _
 |(
  have hg:=bA s (a+1);have hg2:=bA s (aA s (a+1)).2.1;have o1:=bT (s:=s) (a:=a+1) wa;first
  |omega
  |(
   have o2:=bT (s:=s) (a:=(aA s (a+1)).2.1) wa;first
   |omega
   |(
    rw[bF om]at *;omega))))
  |(conv=>whnf
    first
     |with_reducible first|done|exact trivial|refine NilBr.mk (fun h=>?_) ?_|apply aL|apply aK|refine aM kr ?_|apply aN|apply bL|apply bK|apply aU
     |((with_reducible first|apply aW|apply aV|apply bH)<;>intro h<;>(try dsimp only[cu,eE,eN]at h)<;>(try(exfalso;omega)))))
 all_goals(
 with_reducible apply Leaf.mk
 (try dsimp only[cu,aC,aB,gts,eE,eN]at *)
 first
 |(
  have hb:=cZ s a.toNat;unfold dT;rw[if_neg om,if_neg om,if_pos om])
 |(
  have hg:=bA s (a+1);have hg2:=bA s (aA s (a+1)).2.1;have o1:=bT (s:=s) (a:=a+1) wa;have o2:=bT (s:=s) (a:=(aA s (a+1)).2.1) wa;have hw:=bF (n:=(s.size:Int)-(aA s (aA s (a+1)).2.1).2.1) om;simp only[hw]at *;unfold dT;first
  |rw[if_neg om,if_neg om,if_neg om,if_neg om,if_neg om,if_neg om,if_pos om]
  |(rw[if_neg om,if_neg om,if_neg om,if_neg om,if_neg om,if_neg om,if_neg om]))
 |(
  unfold dT;first
  |rw[if_pos om]
  |(rw[if_neg om,if_pos om]))
 |(grind [dT]))
abbrev qdE:Tbl:=(129,NT)::qdD
theorem qH6:aD Tryz.prog qdE:=aD.cons qV3 qH5
abbrev VP:Ct:=.fn [tY,lZ] (none) (fun(c:Col) (z:Zone)=>.d .bool (lU c z))
theorem qaC:aH Tryz.prog 128 VP:=by
 refine aH.fn qH6 mixed [] [] rfl rfl ?_;rintro⟨(c:Col),(z:Zone),_⟩ -;refine⟨[],?_⟩;repeat' (first
  |(
 with_reducible apply Side.mk
 (try dsimp only[cu,aC,aB,gts,loK,hiK,eE,eN])
 first
 |omega
 |(kernel_rfl))
  |(conv=>whnf
    first
     |with_reducible first|done|exact trivial|refine NilBr.mk (fun h=>?_) ?_|apply aL|apply aK|refine aM kr ?_|apply aN|apply bL|apply bK|apply aU
     |((with_reducible first|apply aW|apply aV|apply bH)<;>intro h<;>(try dsimp only[cu,eE,eN]at h)<;>(try(exfalso;omega)))))
 all_goals(
 with_reducible apply Leaf.mk
 (try dsimp only[cu,aC,aB,gts,eE,eN]at *)
 grind [lU,bJ])
abbrev qdF:Tbl:=(128,VP)::qdE
theorem qH7:aD Tryz.prog qdF:=aD.cons qaC qH6
abbrev NW:Ct:=.fn [.str,.int .i64] (some (fun(s:ByteArray) (a:Int)=>(s.size<=4611686018427387904))) (fun(s:ByteArray) (a:Int)=>.tup [lZ,.int .i64,.int .i64] ((gG s a).1,(gG s a).2.1,(gG s a).2.2,()))
theorem qWD:aH Tryz.prog 127 NW:=by
 refine aH.fn qH7 mixed [(0,3,2000000)] [] rfl rfl ?_;rintro⟨(s:ByteArray),(a:Int),_⟩ hpre;replace hpre:=hpre _ rfl;dsimp only[cu]at hpre;have hs:=hpre;refine⟨[],?_⟩;repeat' (first
  |(
 with_reducible apply Side.mk
 (try dsimp only[cu,aC,aB,gts,loK,hiK,eE,eN])
 first
 |omega
 |(
  have r1:=bA s a;have r2:=bA s (aA s a).2.1;omega))
  |(conv=>whnf
    first
     |with_reducible first|done|exact trivial|refine NilBr.mk (fun h=>?_) ?_|apply aL|apply aK|refine aM kr ?_|apply aN|apply bL|apply bK|apply aU
     |((with_reducible first|apply aW|apply aV|apply bH)<;>intro h<;>(try dsimp only[cu,eE,eN]at h)<;>(try(exfalso;omega)))))
 all_goals(
 with_reducible apply Leaf.mk
 (try dsimp only[cu,aC,aB,gts,eE,eN]at *)
 (
  have r1:=bA s a;have r2:=bA s (aA s a).2.1;(try simp only[qDU _ om]);grind [gG]))
abbrev qdG:Tbl:=(127,NW)::qdF
theorem qH8:aD Tryz.prog qdG:=aD.cons qWD qH7
end Go.Proofs.YtcjiefknhfhmkaaGreatDoor
