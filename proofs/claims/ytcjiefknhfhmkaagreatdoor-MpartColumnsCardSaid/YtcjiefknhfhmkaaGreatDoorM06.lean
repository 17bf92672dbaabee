import Derived.Shelf.Sort.Plain
import Derived.Shelf.Slices.In.SortNone
import Derived.Shelf.Slices.CompactS
import Derived.Shelf.Spec.SearchS
import Derived.Shelf.Strconv.Itoa0
import Derived.Test.YtcjiefknhfhmkaaGreatDoorRows
import Derived.Test.YtcjiefknhfhmkaaGreatDoorM05
namespace Go.Abs
set_option maxRecDepth 100000
set_option maxHeartbeats 4000000
set_option linter.unusedVariables false
set_option linter.unusedSimpArgs false
def first:Code->Nat
 | .region id _ _=>id
 | .seq a _=>first a
 | .cond _ a _=>first a
 | .block _ a=>first a
 | .loop a=>first a
 |_=>0
def nR:(g:List GK)->Tup (gts g)->Bs->List V->(List V->Prop)->Prop
 | [],_,_,l,K=>K l
 | .sl d t::g,(y,r),b,l,K=>fV (t.val y) fun v=>jZ l d v fun l=>nR g r b l K
 | .lst d t e::g,(y,r),b,l,K=>fN (jG b d) fun i=>jZ l d (.oL i y.length) fun l=>nR g r b l K
 | .nls d t e::g,(y,r),b,l,K=>fN (jG b d) fun i=>jZ l d (.sO i 0 y.length) fun l=>nR g r b l K
 | .ob _ _ _::g,(y,r),b,l,K=>nR g r b l K
 | .ar _ _ _::g,(y,r),b,l,K=>nR g r b l K
 | .op _ _ _::g,(y,r),b,l,K=>nR g r b l K
 | .row _ ks::g,y,b,l,K=>match uL (aB ks) (gts g) y with
   |(_,q)=>nR g q b l K
theorem mX:∀(g:List GK) (y:Tup (gts g)) (b:Bs) (l:List V) (K:List V->Prop),nR g y b l K=K (gR g y b l)
 | [],_,_,_,_=>rfl
 | .sl _ _::g,y,b,l,K=>by simp only[nR,gR,cN,dB,mX g]
 | .lst _ _ _::g,y,b,l,K=>by simp only[nR,gR,jM,dB,mX g]
 | .nls _ _ _::g,y,b,l,K=>by simp only[nR,gR,jM,dB,mX g]
 | .ob _ _ _::g,y,b,l,K=>by simp only[nR,gR,mX g]
 | .ar _ _ _::g,y,b,l,K=>by simp only[nR,gR,mX g]
 | .op _ _ _::g,y,b,l,K=>by simp only[nR,gR,mX g]
 | .row _ _::g,y,b,l,K=>by simp only[nR,gR,mX g]
def oD:(ks:List CK)->Tup (aB ks)->List V->List XO->(List XO->Prop)->Prop
 | .same::ks,y,_::r,h,K=>oD ks y r h K
 | .val _::ks,(_,y),_::r,h,K=>oD ks y r h K
 | .osf _::ks,(_,y),_::r,h,K=>oD ks y r h K
 | .own t e::ks,(l,y),c::r,h,K=>kW h (idC c) (.opt t l e) fun h=>oD ks y r h K
 | .ows t e::ks,(l,y),c::r,h,K=>kW h (idC c) (.tl t l e) fun h=>oD ks y r h K
 |_,_,_,h,K=>K h
theorem mF:∀(ks:List CK) (y:Tup (aB ks)) (r:List V) (h:List XO) (K:List XO->Prop),oD ks y r h K=K (nI ks y r h)
 | [],_,_,_,_=>rfl
 | .same::ks,_,[],_,_=>rfl
 | .val _::ks,_,[],_,_=>rfl
 | .own _ _::ks,_,[],_,_=>rfl
 | .ows _ _::ks,_,[],_,_=>rfl
 | .osf _::ks,_,[],_,_=>rfl
 | .same::ks,y,_::r,h,K=>mF ks y r h K
 | .val _::ks,(_,y),_::r,h,K=>mF ks y r h K
 | .osf _::ks,(_,y),_::r,h,K=>mF ks y r h K
 | .own t e::ks,(l,y),c::r,h,K=>by
   show kW h (idC c) (.opt t l e) (fun h=>oD ks y r h K)=K (nI ks y r (h.set (idC c) (.opt t l e)));rw[cO,mF ks y r]
 | .ows t e::ks,(l,y),c::r,h,K=>by
   show kW h (idC c) (.tl t l e) (fun h=>oD ks y r h K)=K (nI ks y r (h.set (idC c) (.tl t l e)));rw[cO,mF ks y r]
def nQ:(g:List GK)->Tup (gts g)->Bs->List XO->(List XO->Prop)->Prop
 | [],_,_,h,K=>K h
 | .sl _ _::g,(y,r),b,h,K=>nQ g r b h K
 | .lst d t e::g,(y,r),b,h,K=>kW h (jG b d) (.opt t y e) fun h=>nQ g r b h K
 | .nls d t e::g,(y,r),b,h,K=>kW h (jG b d) (.tl t y e) fun h=>nQ g r b h K
 | .ob id t e::g,(y,r),b,h,K=>kW h id (.ob t y e) fun h=>nQ g r b h K
 | .ar id t e::g,(y,r),b,h,K=>kW h id (.tl t y e) fun h=>nQ g r b h K
 | .op id t e::g,(y,r),b,h,K=>kW h id (.opt t y e) fun h=>nQ g r b h K
 | .row id ks::g,y,b,h,K=>match uL (aB ks) (gts g) y with
   |(c,q)=>fX (qOF b id (iY ks c (rE b id))) fun o=>kW h id o fun h=>oD ks c (rE b id) h fun h=>nQ g q b h K
theorem mW:∀(g:List GK) (y:Tup (gts g)) (b:Bs) (h:List XO) (K:List XO->Prop),nQ g y b h K=K (gT g y b h)
 | [],_,_,_,_=>rfl
 | .sl _ _::g,y,b,h,K=>by simp only[nQ,gT,mW g]
 | .lst _ _ _::g,y,b,h,K=>by simp only[nQ,gT,cO,mW g]
 | .nls _ _ _::g,y,b,h,K=>by simp only[nQ,gT,cO,mW g]
 | .ob _ _ _::g,y,b,h,K=>by simp only[nQ,gT,cO,mW g]
 | .ar _ _ _::g,y,b,h,K=>by simp only[nQ,gT,cO,mW g]
 | .op _ _ _::g,y,b,h,K=>by simp only[nQ,gT,cO,mW g]
 | .row _ _::g,y,b,h,K=>by simp only[nQ,gT,qMM,cO,mF,mW g]
def fS (W:List Nat) (g:List GK) (y:Tup (gts g)) (b:Bs) (k:List V->List XO->Prop):Prop:=fVs (oP W b.sl) fun l=>nR g y b l fun sl=>nQ g y b b.h fun h=>k sl h
theorem MY (W:List Nat) (g:List GK) (y:Tup (gts g)) (b:Bs) (k:List V->List XO->Prop):fS W g y b k=k (gR g y b (oP W b.sl)) (gT g y b b.h):=by simp only[fS,lX,mX,mW]
def fdis (a b:List Nat×List Nat):Bool:=
 a.2.all (fun p=>b.1.all (fun q=>p != q)&&b.2.all (fun q=>p != q))&&b.2.all (fun p=>a.1.all (fun q=>p != q)&&a.2.all (fun q=>p != q))
def qN1 (ops:Array Oper) (fs:List (List Nat×List Nat)) (i j:Nat):Bool:=
 dep ops ops.size i j||((match ops[i]?,ops[j]? with|some oi,some oj=>oj.apart ops oi|_,_=>true)&&(match fs[i]?,fs[j]? with|some a,some b=>fdis a b|_,_=>false))
def qV9 (ops:Array Oper) (fs:List (List Nat×List Nat)):Bool:=
 (List.range ops.size).all fun i=>(List.range i).all fun j=>qN1 ops fs i j
def qRE (ops:Array Oper):Bool:=
 (List.range ops.size).all fun i=>match ops[i]? with
   |some o=>o.after.toList.all fun e=>!Region.binds .any e||decide (e.on<i)
   |none=>true
theorem qII {a b:List Nat×List Nat} (h:fdis a b=true):(∀p,p∈a.2->∀q,q∈b.1++b.2->p≠q)/\(∀p,p∈b.2->∀q,q∈a.1++a.2->p≠q):=by
 simp only[fdis,Bool.and_eq_true,List.all_eq_true,bne_iff_ne]at h;refine⟨fun p hp q hq=>?_,fun p hp q hq=>?_⟩
 ·rcases List.mem_append.1 hq with hq|hq
  ·exact(h.1 p hp).1 q hq
  ·exact(h.1 p hp).2 q hq
 ·rcases List.mem_append.1 hq with hq|hq
  ·exact(h.2 p hp).1 q hq
  ·exact(h.2 p hp).2 q hq
def nS:List XO->List XO
 | []=>[]
 |x::r=>match nS r,x with
  | [],.raw .free=>[]
  |r',.raw .free=>.raw .dead::r'
  |r',x=>x::r'
def qMG (base:Nat) (h:List XO):List XO:=h.take base++nS (h.drop base)
theorem qEF {sl:List V} {a:Act} {ι:Iota} {w:World}:∀(r pre:List XO),SR ⟨sl,dens (pre++r)⟩ ι a w->SR ⟨sl,dens (pre++nS r)⟩ ι a w/\Evolve (dens (pre++r)) ι w (dens (pre++nS r)) ι w
 | [],pre,h=>⟨h,Evolve.refl _ _ _⟩
 |x::r,pre,h=>by
  have h0:pre++x::r=(pre++ [x])++r:=by simp
  rw[h0]at h ⊢;obtain⟨h1,ev1⟩:=qEF r (pre++ [x]) h;have keep:nS (x::r)=x::nS r->SR ⟨sl,dens (pre++nS (x::r))⟩ ι a w/\Evolve (dens ((pre++ [x])++r)) ι w (dens (pre++nS (x::r))) ι w:=by
   intro q;rw[q,show pre++x::nS r=(pre++ [x])++nS r by simp];exact⟨h1,ev1⟩
  by_cases hx:x = .raw .free
  ·subst hx
   cases ht:nS r with
   |nil=>
    have hq:nS (.raw .free::r)= []:=by simp only[nS,ht]
    rw[ht]at h1 ev1;rw[hq];have hd:dens (pre++ [XO.raw .free]++ [])=dens pre++ [.free]:=by simp [dens,XO.den]
    rw[hd]at h1 ev1;obtain⟨h2,ev2⟩:=h1.unreserve;rw[List.append_nil];exact⟨h2,ev1.trans ev2⟩
   |cons y r'=>
    have hq:nS (.raw .free::r) = .raw .dead::y::r':=by simp only[nS,ht]
    rw[ht]at h1 ev1;rw[hq];have hf:(dens (pre++ [XO.raw .free]++y::r'))[pre.length]? =some .free:=by
     rw[aM];simp [XO.den]
    obtain⟨h2,ev2⟩:=h1.heap.fill hf;have hd:(dens (pre++ [XO.raw .free]++y::r')).set pre.length .dead=dens (pre ++ .raw .dead::y::r'):=by
     simp [dens,XO.den]
    rw[hd]at h2 ev2;exact⟨⟨h1.defers,h1.slots.mono ev2,h2⟩,ev1.trans ev2⟩
  ·refine keep ?_
   simp only[nS];split
   ·exact absurd rfl hx
   ·exact absurd rfl hx
   ·rfl
theorem qWA {sl:List V} {a:Act} {ι:Iota} {w:World} (base:Nat) (h:List XO) (r:SR ⟨sl,dens h⟩ ι a w):SR ⟨sl,dens (qMG base h)⟩ ι a w/\Evolve (dens h) ι w (dens (qMG base h)) ι w:=by
 have:=qEF (h.drop base) (h.take base) (by rw[List.take_append_drop];exact r);rwa [List.take_append_drop]at this
def niB:V->Bool
 | .v _=>true
 | .sL _ _=>true
 |_=>false
theorem qWY {x:V} (h:niB x=true):NI 0 x:=by
 cases x<;>first|exact .v _|exact .sL _ _|cases h
def fzV (id n sz:Nat) (rows:List (List V)) (x:V):V:=match x with
 | .sO i 0 m=>(match Nat.beq i id,Nat.beq m n with
   |true,true=>.sF sz rows
   |_,_=>.sO i 0 m)
 |x=>x
def fzS (W:List Nat) (id n sz:Nat) (rows:List (List V)):Nat->List V->List V
 |_,[]=>[]
 |i,x::r=>(match W.any (fun j=>Nat.beq j i)with
  |true=>fzV id n sz rows x
  |false=>x)::fzS W id n sz rows (i+1) r
theorem qRT {id sz:Nat} {rows:List (List V)} (x:V):frzV (.sO id 0 rows.length) (.sF sz rows) x (fzV id rows.length sz rows x):=by
 unfold fzV;split
 ·rename_i i m
  split
  ·rename_i h1 h2
   have:=Nat.eq_of_beq_eq_true h1;have:=Nat.eq_of_beq_eq_true h2;subst_vars
   exact .it
  ·exact .same
 ·exact .same
theorem QR {W:List Nat} {id sz:Nat} {rows:List (List V)}:∀(l:List V) (i:Nat),frzVs (.sO id 0 rows.length) (.sF sz rows) l (fzS W id rows.length sz rows i l)
 | [],_=>.nil
 |x::l,i=>by
  simp only[fzS];split
  ·exact .cons (qRT x) (QR l _)
  ·exact .same (QR l _)
theorem qCN {W:List Nat} {id n sz:Nat} {rows:List (List V)}:∀(l:List V) (i:Nat),(fzS W id n sz rows i l).length=l.length
 | [],_=>rfl
 |x::l,i=>by simp only[fzS,List.length_cons,qCN l]
theorem ND {W:List Nat} {id n sz:Nat} {rows:List (List V)}:∀(l:List V) (i j:Nat),¬(i+j)∈W->(fzS W id n sz rows i l)[j]? =l[j]?
 | [],_,_,_=>rfl
 |x::l,i,0,h=>by
  have:(W.any fun j=>Nat.beq j i)=false:=by
   rw[List.any_eq_false];intro k hk hq;have:=Nat.eq_of_beq_eq_true hq;subst this;exact h hk
  simp only[fzS,this,List.getElem?_cons_zero]
 |x::l,i,j+1,h=>by
  simp only[fzS,List.getElem?_cons_succ];exact ND l (i+1) j (by rwa [show i+1+j=i+(j+1)by omega])
def qMS (f r:Nat):List (Nat×Nat×Nat)->List Nat
 | []=>[]
 |(a,b,c)::q=>match Nat.beq a f,Nat.beq b r,Nat.ble 1000000 c with
  |true,true,true=>(c-1000000)::qMS f r q
  |_,_,_=>qMS f r q
def fzK (W:List Nat) (base:Nat):List Nat->List V->List XO->(List V->List XO->Prop)->Prop
 | [],sl,h,K=>K sl h
 |id::r,sl,h,K=>match Nat.ble base id with
  |true=>(match h[id]? with
   |some (.raw (.live o))=>(match o.rows.all (fun r=>r.all niB)with
    |true=>fVs (fzS W id o.rows.length o.sz o.rows 0 sl) fun sl=>fH (h.set id (.raw .dead)) fun h=>fzK W base r sl h K
    |false=>False)
   |_=>False)
  |false=>False
theorem qMT {n0:Nat} {W:List Nat} {base:Nat}:∀(ids:List Nat) (sl:List V) (h:List XO) (K:List V->List XO->Prop),fzK W base ids sl h K ->
  ∃sl' h',K sl' h'/\sl'.length=sl.length/\(∀i,¬i∈W->sl'[i]? =sl[i]?)/\h'.length=h.length/\(∀j,j<base->h'[j]? =h[j]?)/\AL n0 ⟨sl,dens h⟩ ⟨sl',dens h'⟩
 | [],sl,h,K,hk=>⟨sl,h,hk,rfl,fun _ _=>rfl,rfl,fun _ _=>rfl,fun{ι a w} r=>⟨ι,r,EvN.of (Evolve.refl _ _ _)⟩⟩
 |id::r,sl,h,K,hk=>by
  simp only[fzK]at hk;split at hk
  ·rename_i hb
   split at hk
   ·rename_i o ho
    split at hk
    ·rename_i hn
     rw[lX,eP]at hk;obtain⟨sl',h',k1,k2,k3,k4,k5,k6⟩:=qMT (n0:=n0) r _ _ K hk;refine⟨sl',h',k1,k2.trans (qCN _ _),fun i hi=>(k3 i hi).trans (ND _ 0 i (by rwa [Nat.zero_add])),by rw[k4];simp,fun j hj=>?_,?_⟩
     ·have:=Nat.le_of_ble_eq_true hb
      rw[k5 j hj,List.getElem?_set_ne (by omega)]
     ·refine AL.trans (b:=⟨fzS W id o.rows.length o.sz o.rows 0 sl,dens (h.set id (.raw .dead))⟩) (fun{ι a w} q=>⟨ι,?_⟩) k6
      have hd:(dens h)[id]? =some (.live ⟨o.sz,o.rows,o.elem⟩):=by rw[aM,ho];rfl
      have hr:NIr 0 o.rows:=fun r hr x hx=>qWY (List.all_eq_true.1 (List.all_eq_true.1 hn r hr) x hx)
      obtain⟨r1,ev⟩:=HZ q hd hr (QR sl 0);rw[aZ];exact⟨r1,EvN.of ev⟩
    ·exact hk.elim
   ·exact hk.elim
  ·exact hk.elim
theorem FrW.mk' {W:List Nat} {s s':Y} (h1:s.h.length<=s'.h.length) (h2:∀j,j∈s.tch->j∈s'.tch) (h3:∀j,j<s.h.length->¬j∈s'.tch->s'.h[j]? =s.h[j]?) (h4:s'.sl.length=s.sl.length) (h5:∀i,¬i∈W->s'.sl[i]? =s.sl[i]?):FrW W s s':=⟨⟨h1,h2,h3⟩,h4,h5⟩
def qCC (f r:Nat):List (Nat×Nat×Nat)->List Nat
 | []=>[]
 |(a,b,c)::q=>match Nat.beq a f,Nat.beq b r,Nat.ble 3000000 c with
  |true,true,true=>(c-3000000)::qCC f r q
  |_,_,_=>qCC f r q
def qW8 (n:Nat) (h:List XO):List XO:=h++List.replicate (n-h.length) (.raw .dead)
theorem qN0 {sl:List V} {a:Act} {w:World} {ι:Iota}:∀(m:Nat) (h:List XO),SR ⟨sl,dens h⟩ ι a w->SR ⟨sl,dens (h++List.replicate m (.raw .dead))⟩ ι a w/\Evolve (dens h) ι w (dens (h++List.replicate m (.raw .dead))) ι w
 |0,h,r=>by rw[List.replicate_zero,List.append_nil];exact⟨r,Evolve.refl _ _ _⟩
 |m+1,h,r=>by
  obtain⟨r1,ev1⟩:=r.reserve 1;simp only[List.replicate_one]at r1 ev1;have hf:(dens h++ [HS.free])[(dens h).length]? =some .free:=by simp
  obtain⟨H2,ev2⟩:=r1.heap.fill hf;have hd:(dens h++ [HS.free]).set (dens h).length .dead=dens (h++ [.raw .dead]):=by simp [dens,XO.den]
  simp only[hd]at H2 ev2;obtain⟨r3,ev3⟩:=qN0 m (h++ [.raw .dead]) ⟨r1.defers,r1.slots.mono ev2,H2⟩;have e:h++ [XO.raw .dead]++List.replicate m (.raw .dead)=h++List.replicate (m+1) (.raw .dead):=by rw[List.replicate_succ];simp
  rw[e]at r3 ev3;exact⟨r3,(ev1.trans ev2).trans ev3⟩
def yR (id d:Nat):List Nat->List V->(List V->Prop)->Prop
 | [],sl,K=>K sl
 |j::W,sl,K=>match Nat.beq j d with
  |true=>yR id d W sl K
  |false=>(match sl[j]? with
   |some (.sO i _ _)=>(match Nat.beq i id with
    |true=>jZ sl j .any fun sl=>yR id d W sl K
    |false=>yR id d W sl K)
   |some (.oL i _)=>(match Nat.beq i id with
    |true=>jZ sl j .any fun sl=>yR id d W sl K
    |false=>yR id d W sl K)
   |some (.pO i _ _)=>(match Nat.beq i id with
    |true=>jZ sl j .any fun sl=>yR id d W sl K
    |false=>yR id d W sl K)
   |_=>yR id d W sl K)
theorem EQ {id d:Nat}:∀(W:List Nat) (sl:List V) (K:List V->Prop),yR id d W sl K->∃sl':List V,K sl'/\sl'.length=sl.length/\(∀i,¬i∈W->sl'[i]? =sl[i]?)/\∀ {h:Heap} {ι:Iota} {a:Act} {w:World},SR ⟨sl,h⟩ ι a w->SR ⟨sl',h⟩ ι a w
 | [],sl,K,hk=>⟨sl,hk,rfl,fun _ _=>rfl,fun r=>r⟩
 |j::W,sl,K,hk=>by
  have up:∀ {sl2:List V},yR id d W sl2 K->sl2.length=sl.length->(∀i,¬i=j->sl2[i]? =sl[i]?)->(∀ {h:Heap} {ι:Iota} {a:Act} {w:World},SR ⟨sl,h⟩ ι a w->SR ⟨sl2,h⟩ ι a w)->∃sl':List V,K sl'/\sl'.length=sl.length/\(∀i,¬i∈j::W->sl'[i]? =sl[i]?)/\∀ {h:Heap} {ι:Iota} {a:Act} {w:World},SR ⟨sl,h⟩ ι a w->SR ⟨sl',h⟩ ι a w:=by
   intro sl2 h2 hl hi hr;obtain⟨sl',k1,k2,k3,k4⟩:=EQ W sl2 K h2;exact⟨sl',k1,k2.trans hl,fun i hn=>(k3 i (fun q=>hn (List.mem_cons_of_mem _ q))).trans (hi i (fun q=>hn (by rw[q];exact List.mem_cons_self ..))),fun r=>k4 (hr r)⟩
  simp only[yR]at hk;split at hk
  ·exact up hk rfl (fun _ _=>rfl) (fun r=>r)
  ·split at hk
   ·rename_i i a b hj
    split at hk
    ·rw[dB]at hk
     exact up hk (by simp) (fun i hi=>List.getElem?_set_ne (fun q=>hi q.symm)) (fun r=>r.setLE hj (fun _=>.any _))
    ·exact up hk rfl (fun _ _=>rfl) (fun r=>r)
   ·rename_i i a hj
    split at hk
    ·rw[dB]at hk
     exact up hk (by simp) (fun i hi=>List.getElem?_set_ne (fun q=>hi q.symm)) (fun r=>r.setLE hj (fun _=>.any _))
    ·exact up hk rfl (fun _ _=>rfl) (fun r=>r)
   ·rename_i i a b hj
    split at hk
    ·rw[dB]at hk
     exact up hk (by simp) (fun i hi=>List.getElem?_set_ne (fun q=>hi q.symm)) (fun r=>r.setLE hj (fun _=>.any _))
    ·exact up hk rfl (fun _ _=>rfl) (fun r=>r)
   ·exact up hk rfl (fun _ _=>rfl) (fun r=>r)
def cvK (W:List Nat):List Nat->Y->(Y->Prop)->Prop
 | [],s,K=>K s
 |d::r,s,K=>match s with
  |⟨sl,h,tch,an⟩=>(
   match Nat.ble 1000000 d with
   |true=>fH (qW8 (d-1000000) h) fun h=>cvK W r ⟨sl,h,tch,an⟩ K
   |false=>(match Nat.ble 500000 d with
      |true=>(match sl[d-500000]? with
       |some (.sO id _ _)=>yR id (d-500000) W sl fun sl=>cvK W r ⟨sl,h,tch,an⟩ K
       |some (.oL id _)=>yR id (d-500000) W sl fun sl=>cvK W r ⟨sl,h,tch,an⟩ K
       |_=>False)
      |false=>
      match Nat.ble 250000 d with
      |true=>(match W.any (fun j=>Nat.beq j (d-250000))with
       |true=>(match sl[d-250000]? with
        |some _=>jZ sl (d-250000) .any fun sl=>cvK W r ⟨sl,h,tch,an⟩ K
        |none=>False)
       |false=>False)
      |false=>
      (match W.any (fun j=>Nat.beq j d)with
      |true=>(match sl[d]? with
       |some (.sO id 0 n)=>(match h[id]? with
        |some (.tl t l e)=>needs [decide (n=l.length),decide (0<l.length)] (jZ sl d (.oL id n) fun sl=>yR id d W sl fun sl=>kW h id (.opt t l e) fun h=>cvK W r ⟨sl,h,id::tch,an⟩ K)
        |_=>False)
       |_=>False)
      |false=>False)))
theorem LE.sOL {id n:Nat} (h:0<n):LE (.sO id 0 n) (.oL id n):=fun r=>.oL _ _ _ (by rw[if_neg (by omega)];exact r)
theorem BH {W:List Nat}:∀(ids:List Nat) (s:Y) (K:Y->Prop),cvK W ids s K->∃s':Y,K s'/\FrW W s s'/\∀ {ι:Iota} {a:Act} {w:World},SR s.den ι a w->SR s'.den ι a w/\Evolve (dens s.h) ι w (dens s'.h) ι w
 | [],s,K,hk=>⟨s,hk,FrW.refl _ _,fun r=>⟨r,Evolve.refl _ _ _⟩⟩
 |d::r,⟨sl,h,tch,an⟩,K,hk=>by
  simp only[cvK]at hk;split at hk
  ·rw[eP]at hk
   obtain⟨s',k1,k2,k3⟩:=BH r _ K hk;refine⟨s',k1,FrW.trans (b:=⟨sl,qW8 (d-1000000) h,tch,an⟩) (.mk' (by simp [qW8]) (fun j hj=>hj) (fun j hj hq=>?_) rfl (fun i hi=>rfl)) k2,fun{ι a w} q=>?_⟩
   ·exact List.getElem?_append_left hj
   ·obtain⟨r1,ev1⟩:=qN0 (d-1000000-h.length) h q
    obtain⟨g1,g2⟩:=k3 r1;exact⟨g1,ev1.trans g2⟩
  split at hk
  ·split at hk
   ·rename_i id _ _ hd
    obtain⟨sl2,hk,c2,c3,c4⟩:=EQ W _ _ hk;obtain⟨s',k1,k2,k3⟩:=BH r _ K hk;refine⟨s',k1,FrW.trans (b:=⟨sl2,h,tch,an⟩) (.mk' (Nat.le_refl _) (fun j hj=>hj) (fun j hj hq=>rfl) c2 (fun i hi=>c3 i hi)) k2,fun{ι a w} q=>?_⟩;have q2:SR ⟨sl,dens h⟩ ι a w:=q;exact k3 (c4 q2)
   ·rename_i id _ hd
    obtain⟨sl2,hk,c2,c3,c4⟩:=EQ W _ _ hk;obtain⟨s',k1,k2,k3⟩:=BH r _ K hk;refine⟨s',k1,FrW.trans (b:=⟨sl2,h,tch,an⟩) (.mk' (Nat.le_refl _) (fun j hj=>hj) (fun j hj hq=>rfl) c2 (fun i hi=>c3 i hi)) k2,fun{ι a w} q=>?_⟩;have q2:SR ⟨sl,dens h⟩ ι a w:=q;exact k3 (c4 q2)
   ·exact hk.elim
  split at hk
  ·split at hk
   ·rename_i hW
    split at hk
    ·rename_i x hd
     rw[dB]at hk;obtain⟨s',k1,k2,k3⟩:=BH r _ K hk;have hdW:d-250000∈W:=by
      obtain⟨j,hj,hq⟩:=List.any_eq_true.1 hW;exact(Nat.eq_of_beq_eq_true hq) ▸ hj
     refine⟨s',k1,FrW.trans (b:=⟨sl.set (d-250000) .any,h,tch,an⟩) (.mk' (Nat.le_refl _) (fun j hj=>hj) (fun j hj hq=>rfl) (by simp) (fun i hi=>List.getElem?_set_ne (fun p=>hi (by rw[<-p];exact hdW)))) k2,fun{ι a w} q=>?_⟩;have q:SR ⟨sl,dens h⟩ ι a w:=q;exact k3 (q.setLE hd (fun _=>.any _))
    ·exact hk.elim
   ·exact hk.elim
  split at hk
  ·rename_i hW
   split at hk
   ·rename_i id n hd
    split at hk
    ·rename_i t l e ho
     obtain⟨hc,hk⟩:=bO hk;rw[dB]at hk;obtain⟨sl2,hk,c2,c3,c4⟩:=EQ W _ _ hk;rw[cO]at hk;have hn:n=l.length:=of_decide_eq_true (hc _ (by simp));have h0:0<l.length:=of_decide_eq_true (hc _ (by simp));have hne:l.isEmpty=false:=by cases l with
      |nil=>simp at h0
      |cons a b=>rfl
     have hlt:=aN ho;have hden:dens (h.set id (.opt t l e))=dens h:=by
      rw[aZ];apply List.ext_getElem?;intro j;by_cases q:id=j
      ·subst q
       rw[List.getElem?_set_self (by rw[dK];exact hlt),aM,ho];simp [XO.den,hne]
      ·rw[List.getElem?_set_ne q]
     obtain⟨s',k1,k2,k3⟩:=BH r _ K hk;have hdW:d∈W:=by
      obtain⟨j,hj,hq⟩:=List.any_eq_true.1 hW;have:=Nat.eq_of_beq_eq_true hq;subst this;exact hj
     refine⟨s',k1,FrW.trans (.mk' (by simp) (fun j hj=>List.mem_cons_of_mem _ hj) (fun j hj hq=>?_) (by rw[c2];simp) (fun i hi=>?_)) k2,fun{ι a w} q=>?_⟩
     ·refine List.getElem?_set_ne (fun p=>hq ?_)
      rw[<-p];exact List.mem_cons_self ..
     ·refine(c3 i hi).trans (List.getElem?_set_ne (fun p=>hi ?_))
      rw[<-p];exact hdW
     ·have q2:SR ⟨sl,dens h⟩ ι a w:=q
      have q3:=c4 (q2.setLE hd (LE.sOL (n:=n) (by omega)));rw[<-hden]at q3;obtain⟨g1,g2⟩:=k3 q3;refine⟨g1,?_⟩;simp only[hden]at g2;exact g2
    ·exact hk.elim
   ·exact hk.elim
  ·exact hk.elim
def xdraw (E:Env) (id:Nat) (ops:Array Oper) (s:Y) (K:Y->Prop):Prop:=
 match s with
 |⟨sl,h,tch,an⟩=>Kern (qRE ops)/\fN h.length fun base=>fN (rW E.T ops.toList) fun tot=>fH (h++List.replicate (tot+1) (.raw .free)) fun h1=>xdrw E ops id base tot ops.toList 0 0 ⟨sl,h1,tch,an⟩ fun s' fs=>
  Kern (qV9 ops fs)/\match s' with|⟨sl',h',tch',an'⟩=>fH (qMG base h') fun h'=>fzK (nC ops.toList) base (qMS E.fid id E.flip) sl' h' fun sl' h'=>K ⟨sl',h',tch',an'⟩
def UY (Q:Exit->Y->Prop) (k:Y->Prop):Exit->Y->Prop:=fun e s'=>match e with
 | .normal=>k s'
 |e=>Q e s'
def qG2 (body:Y->(Exit->Y->Prop)->Prop) (Q:Exit->Y->Prop) (s:Y):Prop:=
 body s (UY Q fun s=>body s (UY Q fun s=>body s (UY Q fun s=>body s (UY Q fun _=>False))))
def xcode (E:Env) (c:Code):Y->(Exit->Y->Prop)->Prop:=Code.rec (motive:=fun _=>Y->(Exit->Y->Prop)->Prop)
 (fun s Q=>Q .normal s)
 (fun id ops dr s Q=>match dr with
   |false=>xops E ops id ops.toList 0 s fun s'=>cvK (nC ops.toList) (qCC E.fid id E.flip) s' (Q .normal)
   |true=>xdraw E id ops s (Q .normal))
 (fun a b iha ihb s Q=>match s with
   |⟨sl,h,tch,an⟩=>match find an E.fid (2*first b+1)with
    |none=>iha ⟨sl,h,tch,an⟩ fun e s'=>match e with
     | .normal=>ihb s' Q
     |e=>Q e s'
    |some (.mk g inv _ next)=>zM g sl h fun sl h=>(iha ⟨sl,h,[],an⟩ fun e s'=>match e with
     | .normal=>(match s' with|⟨sl',h',tch',an'⟩=>zM g sl' h' fun sl' h'=>arrive E.n0 (wr a) g ⟨sl,h,tch,an⟩ ⟨sl',h',tch',an'⟩ fun y=>Side (inv y))
     |e=>Q e ⟨s'.sl,s'.h,s'.tch++(gids ⟨sl,h⟩ g++tch),an⟩)/\(Kern ((gslots g).all fun d=>(wr a).contains d)/\∀y,inv y->fS (wr a) g y ⟨sl,h⟩ fun sl' h'=>ihb ⟨sl',h',gids ⟨sl,h⟩ g++tch,next y++an⟩ fun e s'=>Q e ⟨s'.sl,s'.h,s'.tch,an⟩))
 (fun c a b iha ihb s Q=>match s with
   |⟨sl,h,tch,an⟩=>match c with
    | .tmp d=>match sl[d]? with
      |some (.v (.bool t))=>br t (jZ sl d (.v (.bool true)) fun sl=>iha ⟨sl,h,tch,an⟩ Q) (jZ sl d (.v (.bool false)) fun sl=>ihb ⟨sl,h,tch,an⟩ Q)
      |_=>False
    |c=>match aev sl c with
     | .v (.bool t)=>br t (iha ⟨sl,h,tch,an⟩ Q) (ihb ⟨sl,h,tch,an⟩ Q)
     |_=>False)
 (fun id a iha s Q=>iha s fun e s'=>match e with
   | .exit i=>match Nat.beq i id with
     |true=>Q .normal s'
     |false=>Q (.exit i) s'
   |e=>Q e s')
 (fun c ih s Q=>match s with
   |⟨sl,h,tch,an⟩=>match find an E.fid (2*first c)with
    |none=>(match flips E.flip E.fid (first c) 2000000 with
     |true=>qG2 (fun s K=>ih s K) Q ⟨sl,h,tch,an⟩
     |false=>False)
    |some (.mk g inv mu next)=>zM g sl h fun sl h=>arrive E.n0 (wr c) g ⟨sl,h,tch,an⟩ ⟨sl,h,[],an⟩ fun y=>Side (inv y) /\
     ∀y,inv y->fS (wr c) g y ⟨sl,h⟩ fun sl' h'=>ih ⟨sl',h',[],next y++an⟩ fun e s'=>match e with
      | .normal=>(match s' with|⟨sl',h',tch',an'⟩=>zM g sl' h' fun sl' h'=>arrive E.n0 (wr c) g ⟨sl,h,tch,an⟩ ⟨sl',h',tch',an'⟩ fun y'=>Side (inv y')/\Side (mu y'<mu y))
      |e=>Q e ⟨s'.sl,s'.h,s'.tch++(gids ⟨sl,h⟩ g++tch),an⟩)
 (fun _ _ _ _ _ _ _ _=>False)
 (fun id s Q=>Q (.exit id) s)
 (fun _ _ _ _=>False)
 (fun _ _ _=>False)
 (fun _ _ _=>False)
 (fun s Q=>Q .ret s)
 (fun _ _ _=>False) c
theorem qKB (E:Env) (a b:Code) (sl:List V) (h:List XO) (tch:List Nat) (an:List (Nat×Nat×LA)) (Q:Exit->Y->Prop):xcode E (.seq a b) ⟨sl,h,tch,an⟩ Q=(match find an E.fid (2*first b+1)with
 |none=>xcode E a ⟨sl,h,tch,an⟩ fun e s'=>match e with
  | .normal=>xcode E b s' Q
  |e=>Q e s'
 |some (.mk g inv _ next)=>zM g sl h fun sl h=>(xcode E a ⟨sl,h,[],an⟩ fun e s'=>match e with
  | .normal=>(match s' with|⟨sl',h',tch',an'⟩=>zM g sl' h' fun sl' h'=>arrive E.n0 (wr a) g ⟨sl,h,tch,an⟩ ⟨sl',h',tch',an'⟩ fun y=>Side (inv y))
  |e=>Q e ⟨s'.sl,s'.h,s'.tch++(gids ⟨sl,h⟩ g++tch),an⟩)/\(Kern ((gslots g).all fun d=>(wr a).contains d)/\∀y,inv y->fS (wr a) g y ⟨sl,h⟩ fun sl' h'=>xcode E b ⟨sl',h',gids ⟨sl,h⟩ g++tch,next y++an⟩ fun e s'=>Q e ⟨s'.sl,s'.h,s'.tch,an⟩)):=rfl
theorem qBX (E:Env) (c:Operand) (a b:Code) (sl:List V) (h:List XO) (tch:List Nat) (an:List (Nat×Nat×LA)) (Q:Exit->Y->Prop):xcode E (.cond c a b) ⟨sl,h,tch,an⟩ Q=(match c with
 | .tmp d=>match sl[d]? with
   |some (.v (.bool t))=>br t (jZ sl d (.v (.bool true)) fun sl=>xcode E a ⟨sl,h,tch,an⟩ Q) (jZ sl d (.v (.bool false)) fun sl=>xcode E b ⟨sl,h,tch,an⟩ Q)
   |_=>False
 |c=>match aev sl c with
  | .v (.bool t)=>br t (xcode E a ⟨sl,h,tch,an⟩ Q) (xcode E b ⟨sl,h,tch,an⟩ Q)
  |_=>False):=rfl
theorem qBY (E:Env) (c:Code) (sl:List V) (h:List XO) (tch:List Nat) (an:List (Nat×Nat×LA)) (Q:Exit->Y->Prop):xcode E (.loop c) ⟨sl,h,tch,an⟩ Q=(match find an E.fid (2*first c)with
 |none=>(match flips E.flip E.fid (first c) 2000000 with
  |true=>qG2 (fun s K=>xcode E c s K) Q ⟨sl,h,tch,an⟩
  |false=>False)
 |some (.mk g inv mu next)=>zM g sl h fun sl h=>arrive E.n0 (wr c) g ⟨sl,h,tch,an⟩ ⟨sl,h,[],an⟩ fun y=>Side (inv y) /\
  ∀y,inv y->fS (wr c) g y ⟨sl,h⟩ fun sl' h'=>xcode E c ⟨sl',h',[],next y++an⟩ fun e s'=>match e with
   | .normal=>(match s' with|⟨sl',h',tch',an'⟩=>zM g sl' h' fun sl' h'=>arrive E.n0 (wr c) g ⟨sl,h,tch,an⟩ ⟨sl',h',tch',an'⟩ fun y'=>Side (inv y')/\Side (mu y'<mu y))
   |e=>Q e ⟨s'.sl,s'.h,s'.tch++(gids ⟨sl,h⟩ g++tch),an⟩):=rfl
def WQ (W:List Nat) (s:Y) (Q:Exit->Y->Prop):Exit->St->Prop:=fun e st=>∃s':Y,st=s'.den/\Q e s'/\FrW W s s'
theorem PV.brk {n:Nat} {P:Program} {Q:Exit->St->Prop} {s:St} {c:Operand} {a b:Code} (h:∃t:Bool,aev s.sl c = .v (.bool t)/\(t=true->PV n P a s Q)/\(t=false->PV n P b s Q)):PV n P (.cond c a b) s Q:=by
 obtain⟨t,h1,h2,h3⟩:=h;refine PV.cond h1 ?_;cases t with
 |true=>exact h2 rfl
 |false=>exact h3 rfl
theorem JE {sl:List V} {d:Nat} {x:V} (h:sl[d]? =some x):sl.set d x=sl:=by
 have hlt:=aN h;rw[List.getElem?_eq_getElem hlt]at h;injection h with h;rw[<-h,List.set_getElem_self]
theorem BV {W:List Nat} {g:List GK} {y:Tup (gts g)} {sl:List V} {h:List XO} {tch t0:List Nat} {an an':List (Nat×Nat×LA)} {s':Y} (hW:∀d,d∈gslots g->d∈W)
  (f:FrW W ⟨gR g y ⟨sl,h⟩ (oP W sl),gT g y ⟨sl,h⟩ h,[],an'⟩ s'):Near W (gids ⟨sl,h⟩ g) ⟨sl,h,tch,an⟩ s'/\h.length<=s'.h.length:=by
 refine⟨⟨fun i hi=>?_,?_,fun j hj hg ht=>?_⟩,?_⟩
 ·rw[f.sl i hi]
  simp only;rw[gI g _ _ _ i (fun q=>hi (hW i q)),tE _ _ _ hi]
 ·rw[f.len];simp only[kA,AZ]
 ·rw[f.fr.h j (by simpa [jB]using hj) ht]
  exact iA g _ _ _ j hg
 ·have:=f.fr.len;simpa [jB]using this
theorem qMR {W:List Nat} {g:List GK} {y:Tup (gts g)} {sl:List V} {h:List XO} {tch:List Nat} {an an':List (Nat×Nat×LA)} (hW:∀d,d∈gslots g->d∈W) :
  FrW W ⟨sl,h,tch,an⟩ ⟨gR g y ⟨sl,h⟩ (oP W sl),gT g y ⟨sl,h⟩ h,gids ⟨sl,h⟩ g++tch,an'⟩:=by
 refine .mk' (by simp [jB]) (fun j hj=>by simp [hj]) (fun j hj hn=>?_) (by simp [kA,AZ]) (fun i hi=>?_)
 ·exact iA g _ _ _ j (fun q=>hn (by simp [q]))
 ·simp only
  rw[gI g _ _ _ i (fun q=>hi (hW i q)),tE _ _ _ hi]
theorem wP {W:List Nat} {g:List GK} {y:Tup (gts g)} {sl:List V} {h:List XO} {tch:List Nat} {an an' an2:List (Nat×Nat×LA)} {s':Y} (hW:∀d,d∈gslots g->d∈W)
  (f:FrW W ⟨gR g y ⟨sl,h⟩ (oP W sl),gT g y ⟨sl,h⟩ h,[],an'⟩ s'):FrW W ⟨sl,h,tch,an⟩ ⟨s'.sl,s'.h,s'.tch++(gids ⟨sl,h⟩ g++tch),an2⟩:=by
 obtain⟨n1,n2⟩:=BV (tch:=tch) (t0:=[]) (an:=an) hW f;refine .mk' n2 (fun j hj=>by simp [hj]) (fun j hj hn=>?_) n1.len n1.sl;simp only[List.mem_append,not_or]at hn;exact n1.h j hj hn.2.1 hn.1
theorem PV.cut {n:Nat} {P:Program} {Q:Exit->St->Prop} {s s2:St} {c:Code} (hc:AL n s s2) (h:PV n P c s2 Q):PV n P c s Q:=PV.post (fun r=>hc r) h
theorem FrW.prep {W:List Nat} {g:List GK} {b:Bs} {sl sl1:List V} {h h1:List XO} {tch:List Nat} {an an1:List (Nat×Nat×LA)} {s2:Y} (hW:∀d,d∈gslots g->d∈W) (p1:sl1.length=sl.length) (p2:∀i,¬i∈gslots g->sl1[i]? =sl[i]?) (p3:h.length<=h1.length)
  (p4:∀j,j<h.length->¬j∈mD g->h1[j]? =h[j]?) (f:FrW W ⟨sl1,h1,tch,an1⟩ s2) (ht:∀j,j∈gids b g->j∈s2.tch):FrW W ⟨sl,h,tch,an⟩ s2:=
 .mk' (Nat.le_trans p3 f.fr.len) f.fr.tch (fun j hj hn=>(f.fr.h j (Nat.lt_of_lt_of_le hj p3) hn).trans (p4 j hj (fun q=>hn (ht j (eV q))))) (f.len.trans p1) (fun i hi=>(f.sl i hi).trans (p2 i (fun q=>hi (hW i q))))
theorem Near.prep {W gi:List Nat} {g:List GK} {s1:Y} {sl sl1:List V} {h h1:List XO} {tch:List Nat} {an an1:List (Nat×Nat×LA)} (hW:∀d,d∈gslots g->d∈W) (n:Near W gi s1 ⟨sl,h,tch,an⟩) (n2:s1.h.length<=h.length) (p1:sl1.length=sl.length) (p2:∀i,¬i∈gslots g->sl1[i]? =sl[i]?)
  (p4:∀j,j<h.length->¬j∈mD g->h1[j]? =h[j]?) (hgi:∀j,j∈mD g->j∈gi):Near W gi s1 ⟨sl1,h1,tch,an1⟩:=
 ⟨fun i hi=>(p2 i (fun q=>hi (hW i q))).trans (n.sl i hi),p1.trans n.len,fun j hj hg ht=>(p4 j (Nat.lt_of_lt_of_le hj n2) (fun q=>hg (hgi j q))).trans (n.h j hj hg ht)⟩
theorem qHC.run {P:Program} {ops:Array Oper} {ds all:List Dat}:∀ {i:Nat} {s s':St},qHC P ops i ds s s'->(∀(m:Nat) (d:Dat),ds[m]? =some d->all[i+m]? =some d)->Run P ops (fun j=>(all[j]?).getD default) (List.range' i ds.length) s s':=by
 induction ds with
 |nil=>intro i s s' h _;exact h
 |cons d ds ih=>
  intro i s s' ⟨s1,h1,h2⟩ hall;simp only[List.length_cons,List.range'_succ];refine⟨s1,?_,ih h2 (fun m e he=>?_)⟩
  ·have:all[i]? =some d:=by simpa using hall 0 d rfl
   unfold AS at h1 ⊢;simp only[this,Option.getD_some];exact h1
  ·rw[show i+1+m=i+(m+1)by omega]
   exact hall (m+1) e (by simpa using he)
theorem PV.weak {n:Nat} {P:Program} {Q Q2:Exit->St->Prop} {s:St} {c:Code} (h:PV n P c s Q) (hq:∀e st,Q e st->∃st2,Q2 e st2/\∀ {ι:Iota} {a:Act} {w:World},SR st ι a w->∃ι',SR st2 ι' a w/\EvN n st.h ι w st2.h ι' w):PV n P c s Q2:=
 fun ι a w r=>wp_mono (h ι a w r) fun e a' w' ⟨s',ι',q,r',ev⟩=>by
  obtain⟨st2,q2,hr⟩:=hq e s' q;obtain⟨ι2,r2,ev2⟩:=hr r';exact⟨st2,ι2,q2,r2,ev.trans ev2⟩
theorem qKC {E:Env} (hT:aD E.P E.T) (hM:E.P.follows .mixedOrders=true) {id:Nat} {ops:Array Oper} {s:Y} {K:Y->Prop} (h:xdraw E id ops s K) (W:(Exit->Act->World->Prop)->Act->World->Prop)
  (hmono:∀ {Q Q':Exit->Act->World->Prop} {a:Act} {w:World},W Q a w->(∀e a w,Q e a w->Q' e a w)->W Q' a w)
  (hops:∀ {Q:Exit->Act->World->Prop} {a:Act} {w:World},¬LetsOut Q->(∀t,wpOps E.P ops Q (Region.schedule (E.P.follows .mixedOrders) ops t) a {w with drawn:=w.drawn+1})->W Q a w) :
  ∀(ι:Iota) (a:Act) (w:World),SR s.den ι a w->W (qKJ E.n0 s.den ι w (fun e st=>e = .normal/\∃s',st=s'.den/\K s'/\FrW (nC ops.toList) s s')) a w:=by
 obtain⟨sl,hp,tch,an⟩:=s;simp only[xdraw]at h;obtain⟨⟨he⟩,h⟩:=h;rw[jM,jM,eP]at h;obtain⟨ds,fs,s',g1,g2,g3,⟨⟨hd⟩,g4⟩,g5⟩:=qG8 (ops:=ops) (W:=nC ops.toList) hT ops.toList 0 0 _ _ (fun j o hj=>by rw[Nat.zero_add];simpa using hj) (fun o ho d hd=>JP ho d hd) h;obtain⟨sl',h',tch',an'⟩:=s';(try simp only at g4);rw[eP]at g4;have hedge:∀(i:Nat) (o:Oper),ops[i]? =some o->∀e∈o.after,Region.binds .any e=true->e.on<i:=by
  intro i o ho e hem hb;have hi:i<ops.size:=by
   rcases Nat.lt_or_ge i ops.size with q|q
   ·exact q
   ·rw[Array.getElem?_eq_none q]at ho;cases ho
  have h1:=List.all_eq_true.1 he i (by simpa using hi);simp only[ho]at h1;have h2:=List.all_eq_true.1 h1 e (by simpa using hem);simpa [hb]using h2
 have hrun:=qHC.run (all:=ds) g3 (fun m d hm=>by rw[Nat.zero_add];exact hm);have hlen:ds.length=ops.size:=by rw[g1];simp
 rw[hlen,<-List.range_eq_range']at hrun;have hind:∀i j,j<i->i<ops.size->(∃n,dep ops n i j=true)\/Indep ops (fun j=>(ds[j]?).getD default) i j:=by
  intro i j hj hi;have h1:=List.all_eq_true.1 (List.all_eq_true.1 hd i (by simpa using hi)) j (by simpa using hj);simp only[qN1,Bool.or_eq_true,Bool.and_eq_true]at h1;rcases h1 with h1|⟨h1,h2⟩
  ·exact .inl ⟨_,h1⟩
  ·refine .inr fun oi oj hoi hoj=>?_
   rw[hoi,hoj]at h1;refine⟨h1,?_⟩;have i1:i<ds.length:=by omega
   have j1:j<ds.length:=by omega
   obtain⟨fi,a1,a2⟩:=g2 i _ (List.getElem?_eq_getElem i1);obtain⟨fj,b1,b2⟩:=g2 j _ (List.getElem?_eq_getElem j1);rw[a1,b1]at h2;obtain⟨c1,c2⟩:=qII h2;simp only[List.getElem?_eq_getElem i1,List.getElem?_eq_getElem j1,Option.getD_some];refine⟨fun p hp q hq=>c1 _ (a2.2 p hp) q ?_,fun p hp q hq=>c2 _ (b2.2 p hp) q ?_⟩
   ·rcases List.mem_append.1 hq with hq|hq
    ·obtain⟨r,hr,rfl⟩:=List.mem_map.1 hq;exact List.mem_append.2 (.inl (b2.1 r hr))
    ·obtain⟨r,hr,rfl⟩:=List.mem_map.1 hq;exact List.mem_append.2 (.inr (b2.2 r hr))
   ·rcases List.mem_append.1 hq with hq|hq
    ·obtain⟨r,hr,rfl⟩:=List.mem_map.1 hq;exact List.mem_append.2 (.inl (a2.1 r hr))
    ·obtain⟨r,hr,rfl⟩:=List.mem_map.1 hq;exact List.mem_append.2 (.inr (a2.2 r hr))
 have hdens:dens (hp++List.replicate (rW E.T ops.toList+1) (.raw .free))=dens hp++List.replicate (rW E.T ops.toList+1) .free:=by simp [dens,XO.den]
 have pre:∀ {ι:Iota} {a:Act} {w:World},SR ⟨sl,dens hp⟩ ι a w->SR ⟨sl,dens (hp++List.replicate (rW E.T ops.toList+1) (.raw .free))⟩ ι a w/\EvN E.n0 (dens hp) ι w (dens (hp++List.replicate (rW E.T ops.toList+1) (.raw .free))) ι w:=by
  intro ι a w r;obtain⟨r1,ev1⟩:=r.reserve (rW E.T ops.toList+1);rw[hdens];exact⟨r1,EvN.of ev1⟩
 have post:∃st2:St,(∃s':Y,st2=s'.den/\K s'/\FrW (nC ops.toList) ⟨sl,hp,tch,an⟩ s')/\∀ {ι:Iota} {a:Act} {w:World},SR ⟨sl',dens h'⟩ ι a w->∃ι',SR st2 ι' a w/\EvN E.n0 (dens h') ι w st2.h ι' w:=by
  obtain⟨sl2,h2,k1,k2,k3,k4,k5,k6⟩:=qMT (n0:=E.n0) _ _ _ _ g4;refine⟨⟨sl2,dens h2⟩,⟨⟨sl2,h2,tch',an'⟩,rfl,k1,?_⟩,fun{ι a w} r=>?_⟩
  ·have hl:hp.length<=h'.length:=by have:=g5.fr.len;simp at this;omega
   refine .mk' (by rw[k4];simp [qMG];omega) (fun j hj=>g5.fr.tch j hj) (fun j hj hn=>?_) (k2.trans g5.len) (fun i hi=>(k3 i hi).trans (g5.sl i hi));have hj:j<hp.length:=hj;have h1:=g5.fr.h j (by simp;omega) hn;refine(k5 j hj).trans ?_;(try simp only at h1 ⊢);rw[List.getElem?_append_left hj]at h1;rw[qMG,List.getElem?_append_left (by simp;omega),List.getElem?_take,if_pos hj];exact h1
  ·obtain⟨r1,ev1⟩:=qWA hp.length h' r
   obtain⟨ι2,r2,ev2⟩:=k6 r1;exact⟨ι2,r2,(EvN.of ev1).trans ev2⟩
 intro ι a w r;obtain⟨r0,ev0⟩:=pre r;have hq:¬LetsOut (Post ⟨sl,dens (hp++List.replicate (rW E.T ops.toList+1) (.raw .free))⟩ ι w (fun e st=>e = .normal/\st=⟨sl',dens h'⟩)):=by
  rintro⟨_,_,_,_,⟨q,_⟩,_⟩;cases q
 refine hmono (hops hq (TZ (Q:=fun e st=>e = .normal/\st=⟨sl',dens h'⟩) hM hedge hind hrun ⟨rfl,rfl⟩ ι a w r0)) ?_;rintro e a' w' ⟨st,ι',⟨rfl,rfl⟩,r',ev⟩;obtain⟨st2,q2,hr⟩:=post;obtain⟨ι2,r2,ev2⟩:=hr r';exact⟨st2,ι2,⟨rfl,q2⟩,r2,(ev0.trans (EvN.of ev)).trans ev2⟩
theorem qQC {E:Env} (hT:aD E.P E.T) (hM:E.P.follows .mixedOrders=true) {id:Nat} {ops:Array Oper} {s:Y} {K:Y->Prop} (h:xdraw E id ops s K):PV E.n0 E.P (.region id ops true) s.den (fun e st=>e = .normal/\∃s',st=s'.den/\K s'/\FrW (nC ops.toList) s s'):=
 qKC hT hM h (fun Q a w=>(Code.region id ops true).wp E.P Q a w) (fun q hq=>wp_mono q hq) (fun _ q=>wp_region_draw q)
theorem kD {E:Env} (hT:aD E.P E.T) (hM:E.P.follows .mixedOrders=true) (hI:wG E):∀(c:Code) (s:Y) (Q:Exit->Y->Prop),xcode E c s Q->PV E.n0 E.P c s.den (WQ (wr c) s Q):=by
 intro c;induction c with
 |skip=>intro s Q h;exact PV.skip ⟨s,rfl,h,FrW.refl _ _⟩
 |exit id=>intro s Q h;exact PV.exit ⟨s,rfl,h,FrW.refl _ _⟩
 |ret=>intro s Q h;exact PV.ret ⟨s,rfl,h,FrW.refl _ _⟩
 |region id ops dr=>
  intro s Q h;cases dr with
  |false=>
   refine PV.weak (Q:=fun e st=>e = .normal/\∃s':Y,st=s'.den/\cvK (nC ops.toList) (qCC E.fid id E.flip) s' (Q .normal)/\FrW (nC ops.toList) s s') (PV.regionL ((qG9 hT hI (fun _ q=>q) ops.toList 0 s _ (fun o ho d hd=>JP ho d hd) h).mono ?_)) ?_
   ·rintro st ⟨s',h1,h2,h3⟩
    exact⟨rfl,s',h1,h2,h3⟩
   ·rintro e st ⟨rfl,s',rfl,h2,h3⟩
    obtain⟨s2,k1,k2,k3⟩:=BH _ s' _ h2;refine⟨s2.den,⟨s2,rfl,k1,h3.trans k2⟩,fun{ι a w} r=>?_⟩;obtain⟨g1,g2⟩:=k3 r;exact⟨ι,g1,EvN.of g2⟩
  |true=>
   refine PV.mono (qQC hT hM h) ?_;rintro e st ⟨rfl,s',h1,h2,h3⟩;exact⟨s',h1,h2,h3⟩
 |seq a b iha ihb=>
  intro s Q h;obtain⟨sl,hp,tch,an⟩:=s;rw[qKB]at h;split at h
  ·refine PV.seq (PV.mono (iha _ _ h) ?_)
   rintro e st ⟨s',rfl,h2,h3⟩;cases e with
   |normal=>
    refine PV.mono (ihb _ _ h2) ?_;rintro e st ⟨s2,h4,h5,h6⟩;exact⟨s2,h4,h5,(h3.mono fun i hi=>List.mem_append.2 (.inl hi)).trans (h6.mono fun i hi=>List.mem_append.2 (.inr hi))⟩
   |_=>exact⟨s',rfl,h2,h3.mono fun i hi=>List.mem_append.2 (.inl hi)⟩
  ·rename_i g inv mu next hf
   obtain⟨sl1,h1,⟨ha,⟨hk⟩,hb⟩,p1,p2,p3,p4,p5⟩:=zN h;have hW:∀d,d∈gslots g->d∈wr a:=fun d hd=>by simpa using List.all_eq_true.1 hk d hd
   refine PV.cut (s2:=⟨sl1,dens h1⟩) (fun{ι a w} r=>⟨ι,(p5 r).1,EvN.of (p5 r).2⟩) ?_;refine PV.seq (PV.mono (iha ⟨sl1,h1,[],an⟩ _ ha) ?_);rintro e st ⟨s',rfl,h3,h4⟩;have up:FrW (wr a) ⟨sl,hp,tch,an⟩ ⟨s'.sl,s'.h,s'.tch++(gids ⟨sl1,h1⟩ g++tch),an⟩:=
    FrW.prep (b:=⟨sl1,h1⟩) (an1:=an) hW p1 p2 p3 p4 (.mk' h4.fr.len (fun j hj=>by simp [hj]) (fun j hj hn=>h4.fr.h j hj (fun q=>hn (by simp [q]))) h4.len h4.sl) (fun j hj=>by simp [hj])
   cases e with
   |normal=>
    obtain⟨sl',h',tch',an'⟩:=s';(try simp only at h3);obtain⟨sl2,h2,ha2,q1,q2,q3,q4,q5⟩:=zN h3;have hn:Near (wr a) (gids ⟨sl1,h1⟩ g) ⟨sl1,h1,tch,an⟩ ⟨sl',h',tch',an'⟩:=⟨h4.sl,h4.len,fun j hj _ ht=>h4.fr.h j hj ht⟩
    obtain⟨σ,y,hc,hk,_⟩:=qU (s1:=⟨sl1,h1,tch,an⟩) (s':=⟨sl2,h2,tch',an'⟩) (hn.prep (an1:=an') hW h4.fr.len q1 q2 q4 (fun j q=>eV q)) ha2;have hb:=hb y hk.out;rw[MY]at hb;refine PV.cut (AL.trans (b:=⟨sl2,dens h2⟩) (fun{ι a w} r=>⟨ι,(q5 r).1,EvN.of (q5 r).2⟩) hc.cs) (PV.mono (ihb _ _ hb) ?_);rintro e st ⟨s2,h5,h6,h7⟩;refine⟨⟨s2.sl,s2.h,s2.tch,an⟩,h5,h6,?_⟩;have f1:=qMR (W:=wr a) (y:=y) (sl:=sl1) (h:=h1) (tch:=tch) (an:=an) (an':=next y++an) hW;have f2:=(f1.mono (W':=wr a++wr b) fun i hi=>List.mem_append.2 (.inl hi)).trans (h7.mono fun i hi=>List.mem_append.2 (.inr hi));have f3:=FrW.prep (b:=⟨sl1,h1⟩) (an:=an) (fun d hd=>List.mem_append.2 (.inl (hW d hd))) p1 p2 p3 p4 f2 (fun j hj=>h7.fr.tch j (by simp only[List.mem_append];exact .inl hj));exact⟨⟨f3.fr.len,f3.fr.tch,f3.fr.h⟩,f3.len,f3.sl⟩
   |_=>exact⟨⟨s'.sl,s'.h,s'.tch++(gids ⟨sl1,h1⟩ g++tch),an⟩,rfl,h3,up.mono fun i hi=>List.mem_append.2 (.inl hi)⟩
 |block id a iha=>
  intro s Q h;refine PV.block (PV.mono (iha _ _ h) ?_);rintro e st ⟨s',rfl,h2,h3⟩;cases e with
  |exit i=>
   simp only[tU];cases hq:Nat.beq i id with
   |true=>
    simp only[hq]at h2;rw[if_pos (Nat.eq_of_beq_eq_true hq)];exact⟨s',rfl,h2,h3⟩
   |false=>
    simp only[hq]at h2;rw[if_neg (fun q=>by subst q;simp at hq)];exact⟨s',rfl,h2,h3⟩
  |_=>exact⟨s',rfl,h2,h3⟩
 |cond c a b iha ihb=>
  intro s Q h;obtain⟨sl,hp,tch,an⟩:=s;have left:∀ {X:Exit->Y->Prop},PV E.n0 E.P a ⟨sl,dens hp⟩ (WQ (wr a) ⟨sl,hp,tch,an⟩ X)->PV E.n0 E.P a ⟨sl,dens hp⟩ (WQ (wr a++wr b) ⟨sl,hp,tch,an⟩ X):=fun h=>PV.mono h fun e st ⟨s',q1,q2,q3⟩=>⟨s',q1,q2,q3.mono fun i hi=>List.mem_append.2 (.inl hi)⟩
  have right:∀ {X:Exit->Y->Prop},PV E.n0 E.P b ⟨sl,dens hp⟩ (WQ (wr b) ⟨sl,hp,tch,an⟩ X)->PV E.n0 E.P b ⟨sl,dens hp⟩ (WQ (wr a++wr b) ⟨sl,hp,tch,an⟩ X):=fun h=>PV.mono h fun e st ⟨s',q1,q2,q3⟩=>⟨s',q1,q2,q3.mono fun i hi=>List.mem_append.2 (.inr hi)⟩
  rw[qBX]at h;split at h
  ·rename_i d
   split at h
   ·rename_i t ht
    obtain⟨h1,h2⟩:=(gY _ _ _).1 h;refine PV.brk ⟨t,by simp [aev,Y.den,ht],fun q=>?_,fun q=>?_⟩
    ·have h3:=h1 q
     clear h1 h2;subst q;rw[dB,JE ht]at h3;exact left (iha ⟨sl,hp,tch,an⟩ _ h3)
    ·have h3:=h2 q
     clear h1 h2;subst q;rw[dB,JE ht]at h3;exact right (ihb ⟨sl,hp,tch,an⟩ _ h3)
   ·exact h.elim
  ·split at h
   ·rename_i t ht
    obtain⟨h1,h2⟩:=(gY _ _ _).1 h;refine PV.brk ⟨t,ht,fun q=>left (iha ⟨sl,hp,tch,an⟩ _ (h1 q)),fun q=>right (ihb ⟨sl,hp,tch,an⟩ _ (h2 q))⟩
   ·exact h.elim
 |loop c ih=>
  intro s Q h;obtain⟨sl,hp,tch,an⟩:=s;rw[qBY]at h;split at h
  ·split at h
   ·have one:∀(m:Nat) (k:Y->Prop),(∀s,FrW (wr c) ⟨sl,hp,tch,an⟩ s->k s->zT E.n0 E.P c (fun e st=>∃s':Y,st=s'.den/\Q e s'/\FrW (wr c) ⟨sl,hp,tch,an⟩ s') m s.den) ->
        ∀s,FrW (wr c) ⟨sl,hp,tch,an⟩ s->xcode E c s (UY Q k)->zT E.n0 E.P c (fun e st=>∃s':Y,st=s'.den/\Q e s'/\FrW (wr c) ⟨sl,hp,tch,an⟩ s') (m+1) s.den:=by
      intro m k hk s hfr q;refine PV.mono (ih s _ q) ?_;rintro e st ⟨s',rfl,h2,h3⟩;cases e with
      |normal=>exact hk s' (hfr.trans h3) h2
      |_=>exact⟨s',rfl,h2,hfr.trans h3⟩
    exact PV.unroll 4 (one 3 _ (one 2 _ (one 1 _ (one 0 _ (fun _ _ q=>q.elim)))) _ (FrW.refl _ _) h)
   ·exact h.elim
  ·rename_i g inv mu next hf
   obtain⟨sl1,h1,ha,p1,p2,p3,p4,p5⟩:=zN h;obtain⟨σ,y0,hc,⟨⟨hi⟩,hr⟩,hW⟩:=qU (s1:=⟨sl1,h1,tch,an⟩) (s':=⟨sl1,h1,[],an⟩) ⟨fun _ _=>rfl,rfl,fun _ _ _ _=>rfl⟩ ha;refine PV.loopR (fun y=>⟨gR g y ⟨sl1,h1⟩ (oP (wr c) sl1),dens (gT g y ⟨sl1,h1⟩ h1)⟩) inv mu y0 (AL.trans (b:=⟨sl1,dens h1⟩) (fun{ι a w} r=>⟨ι,(p5 r).1,EvN.of (p5 r).2⟩) hc.cs) hi (fun y hy=>?_);have hb:=hr y hy;rw[MY]at hb;refine PV.mono (ih _ _ hb) ?_;rintro e st ⟨s',rfl,h2,h3⟩;cases e with
   |normal=>
    obtain⟨n1,n2⟩:=BV (tch:=tch) (t0:=[]) (an:=an) hW h3;obtain⟨sl',h',tch',an'⟩:=s';(try simp only at h2);obtain⟨sl2,h4,ha2,q1,q2,q3,q4,q5⟩:=zN h2;obtain⟨σ',y',hc',⟨⟨hk1⟩,⟨hk2⟩⟩,_⟩:=qU (s1:=⟨sl1,h1,tch,an⟩) (s':=⟨sl2,h4,tch',an'⟩) (n1.prep (an1:=an') hW n2 q1 q2 q4 (fun j q=>eV q)) ha2;exact⟨y',AL.trans (b:=⟨sl2,dens h4⟩) (fun{ι a w} r=>⟨ι,(q5 r).1,EvN.of (q5 r).2⟩) hc'.cs,hk1,hk2⟩
   |_=>exact⟨⟨s'.sl,s'.h,s'.tch++(gids ⟨sl1,h1⟩ g++tch),an⟩,rfl,h2,FrW.prep (b:=⟨sl1,h1⟩) (an1:=an) hW p1 p2 p3 p4 (wP (an2:=an) hW h3) (fun j hj=>by simp [hj])⟩
 |_=>intro s Q h;exact h.elim
theorem Tup.ni (n:Nat):∀(ps:List Ty) (x:Tup ps),NIs n (vals ps x)
 | [],_=>fun _ h=>by cases h
 |t::ts,x=>fun v h=>by
  rcases List.mem_cons.1 h with q|q
  ·subst q;exact t.ni_val n x.1
  ·exact Tup.ni n ts x.2 v q
theorem Tup.len:∀(ps:List Ty) (x:Tup ps),(vals ps x).length=ps.length
 | [],_=>rfl
 |t::ts,x=>by simp only[vals,List.length_cons,Tup.len ts x.2]
def fin (P:Program) (rs:List ResultVar) (lo:Nat) (r:RV) (k:List XO->Prop) (e:Exit) (s:Y):Prop:=
 match s with
 |⟨sl,h,_,_⟩=>match e with
  | .normal=>(match ares P rs sl (dens h)with
    |some y=>fV y fun y=>qH2 h lo y (k h) r
    |none=>False)
  | .ret=>(match ares P rs sl (dens h)with
    |some y=>fV y fun y=>qH2 h lo y (k h) r
    |none=>False)
  |_=>False
theorem QN {P:Program} {rs:List ResultVar} {lo:Nat} {r:RV} {k:List XO->Prop} {e:Exit} {s:Y} (h:fin P rs lo r k e s):(e = .normal\/e = .ret)/\∃y,ares P rs s.sl (dens s.h)=some y/\qH2 s.h lo y (k s.h) r:=by
 obtain⟨sl,hp,tch,an⟩:=s;simp only[fin]at h;split at h
 ·split at h
  ·rename_i y hy
   rw[cN]at h;exact⟨.inl rfl,y,hy,h⟩
  ·exact h.elim
 ·split at h
  ·rename_i y hy
   rw[cN]at h;exact⟨.inr rfl,y,hy,h⟩
  ·exact h.elim
 ·exact h.elim
def tV (P:Program) (T:Tbl) (fl:List (Nat×Nat×Nat)) (I:List Nat):Nat->FuncId->List V->Y->(V->Y->Prop)->Prop
 |0,_,_,_,_=>False
 |n+1,f,args,s,K=>match I.contains f with
  |true=>(match P.funcs[f]? with
   |some fn=>(match fn.body with
    |some c=>(match s with
     |⟨sl0,h,tch,an⟩=>fVs (args++List.replicate (fn.ntmps-args.length) (.v undef)) fun sl=>fN h.length fun n0=>xcode ⟨P,T,n0,f,fl,tV P T fl I n⟩ c ⟨sl,h,tch,an⟩ fun e s'=>(match s' with
      |⟨sl',h',tch',an'⟩=>match e with
       | .normal=>(match ares P fn.results.toList sl' (dens h')with
         |some y=>fV y fun y=>K y ⟨sl0,h',tch',an⟩
         |none=>False)
       | .ret=>(match ares P fn.results.toList sl' (dens h')with
         |some y=>fV y fun y=>K y ⟨sl0,h',tch',an⟩
         |none=>False)
       |_=>False))
    |none=>False)
   |none=>False)
  |false=>False
theorem jH {P:Program} {T:Tbl} (hT:aD P T) (hM:P.follows .mixedOrders=true) (fl:List (Nat×Nat×Nat)) (I:List Nat):∀(m n0 fid:Nat),wG ⟨P,T,n0,fid,fl,tV P T fl I m⟩
 |0,n0,fid=>fun f args s K h=>h.elim
 |m+1,n0,fid=>fun f args s K h=>by
  simp only[tV]at h;split at h
  ·split at h
   ·rename_i fn hf
    split at h
    ·rename_i c hb
     obtain⟨sl0,hp,tch,an⟩:=s;(try simp only at h);rw[lX,jM]at h;refine PC.of_bodyV hf hb _ rfl (fun K0 hK=>?_);have hw:=kD (E:=⟨P,T,hp.length,f,fl,tV P T fl I m⟩) hT hM (jH hT hM fl I m _ _) c _ _ h;rw[dK];refine PV.mono hw ?_;rintro e st ⟨⟨sl',h',tch',an'⟩,rfl,h1,h2⟩;(try simp only at h1);split at h1
     ·split at h1
      ·rename_i y hy
       rw[cN]at h1;exact hK _ _ y (.inl rfl) hy ⟨⟨sl0,h',tch',an⟩,rfl,rfl,⟨h2.fr.len,h2.fr.tch,h2.fr.h⟩,h1⟩
      ·exact h1.elim
     ·split at h1
      ·rename_i y hy
       rw[cN]at h1;exact hK _ _ y (.inr rfl) hy ⟨⟨sl0,h',tch',an⟩,rfl,rfl,⟨h2.fr.len,h2.fr.tch,h2.fr.h⟩,h1⟩
      ·exact h1.elim
     ·exact h1.elim
    ·exact h.elim
   ·exact h.elim
  ·exact h.elim
theorem aH.fn {P:Program} {T:Tbl} {f:FuncId} {fn:Func} {c:Code} {ps:List Ty} {pre:Option (Cu ps Prop)} {res:Cu ps RV} (hT:aD P T) (hM:P.follows .mixedOrders=true) (fl:List (Nat×Nat×Nat)) (I:List Nat)
  (hf:P.funcs[f]? =some fn) (hb:fn.body=some c)
  (h:∀x:Tup ps,(∀p,pre=some p->cu ps p x)->∃an:List (Nat×Nat×LA),fVs (vals ps x++List.replicate (fn.ntmps-ps.length) (.v undef)) fun sl=>xcode ⟨P,T,0,0,fl,tV P T fl I 4⟩ c ⟨sl,[],[],an⟩ (fin P fn.results.toList 0 (cu ps res x) fun _=>True)):aH P f (.fn ps pre res):=by
 intro x hx;have hlen:=Tup.len ps x;refine⟨fun p hp=>(by cases hp),fun k _=>?_⟩;refine PC.mono (PC.frame (x0:=(cu ps res x).val) (Tup.ni 0 ps x) ?_ k) (fun y k' ⟨h1,h2⟩=>⟨h1,h2⟩);obtain⟨an,hw⟩:=h x hx;rw[lX]at hw;refine PC.of_bodyV hf hb _ rfl (fun K hK=>?_);rw[hlen];have hw:=kD (E:=⟨P,T,0,0,fl,tV P T fl I 4⟩) hT hM (jH hT hM fl I 4 _ _) c _ _ hw;refine PV.mono hw ?_;rintro e st ⟨s',rfl,h1,_⟩;obtain⟨he,y,hy,hc⟩:=QN h1;exact hK e _ y he hy (ER (τ:=IL) (fun _ _=>rfl) hc).1
theorem aH.rd {P:Program} {T:Tbl} {f:FuncId} {fn:Func} {c:Code} {t:Ty} {ps:List Ty} {pre:Option (t.den->Cu ps Prop)} {res:t.den->Cu ps RV} (hT:aD P T) (hM:P.follows .mixedOrders=true) (fl:List (Nat×Nat×Nat)) (I:List Nat)
  (hf:P.funcs[f]? =some fn) (hb:fn.body=some c)
  (h:∀a (x:Tup ps),(∀p,pre=some p->cu ps (p a) x)->∃an:List (Nat×Nat×LA),fVs (.pF (t.row a) 0::vals ps x++List.replicate (fn.ntmps-(1+ps.length)) (.v undef)) fun sl=>xcode ⟨P,T,0,0,fl,tV P T fl I 4⟩ c ⟨sl,[],[],an⟩ (fin P fn.results.toList 0 (cu ps (res a) x) fun _=>True)):aH P f (.rd t ps pre res):=by
 intro a x hx;have hlen:=Tup.len ps x;refine⟨fun p hp=>(by cases hp),fun k _=>?_⟩;refine PC.mono (PC.frame (x0:=(cu ps (res a) x).val) (fun v hv=>?_) ?_ k) (fun y k' ⟨h1,h2⟩=>⟨h1,h2⟩)
 ·rcases List.mem_cons.1 hv with q|q
  ·subst q;exact .pF 0 (t.nis 0 a [] (by intro _ h;cases h))
  ·exact Tup.ni 0 ps x v q
 obtain⟨an,hw⟩:=h a x hx;rw[lX]at hw;refine PC.of_bodyV hf hb _ rfl (fun K hK=>?_);have hl2:(V.pF (t.row a) 0::vals ps x).length=1+ps.length:=by simp [hlen];omega
 rw[hl2];have hw:=kD (E:=⟨P,T,0,0,fl,tV P T fl I 4⟩) hT hM (jH hT hM fl I 4 _ _) c _ _ hw;refine PV.mono hw ?_;rintro e st ⟨s',rfl,h1,_⟩;obtain⟨he,y,hy,hc⟩:=QN h1;exact hK e _ y he hy (ER (τ:=IL) (fun _ _=>rfl) hc).1
def qWE (t:Ty) (e:TypeId) (b:t.den) (h:List XO):Prop:=match h with
 | .raw s::_=>(match s with
   | .live o=>if o.sz=t.size/\o.elem=e then(match o.rows with
     | [r]=>match un (rdH h 1) t r with
       |some (a,[])=>needs (r.flatMap (fZ h)) (Leaf (a=b)/\True)
       |_=>False
     |_=>False)else False
   |_=>False)
 | .ob _ a e'::_=>if e'=e then(match qB8 (t':=t) a with
   |some a=>Leaf (a=b)/\True
   |_=>False)else False
 |_=>False
theorem qRI {t:Ty} {e:TypeId} {b:t.den} {h:List XO} {τ:Nat->Option Nat} (hτ:∀id,1<=id->τ id=none) (q:qWE t e b h):∃o,(dens h)[0]? =some (.live o)/\FrzO τ (dens h) o ⟨t.size,[t.row b],e⟩:=by
 unfold qWE at q;split at q
 ·split at q
  ·rename_i r _ o
   split at q
   ·rename_i hsz
    split at q
    ·rename_i r0 hr
     split at q
     ·rename_i a ha
      obtain⟨hc,⟨rfl⟩,_⟩:=bO q;refine⟨o,rfl,⟨hsz.1.symm,hsz.2.symm,by rw[hr];rfl,fun i r1 r2 h1 h2=>?_⟩⟩;rw[hr]at h1;cases i with
      |zero=>
       simp at h1 h2;subst h1 h2;obtain⟨u1,u2⟩:=nL (R:=fun x y=>dI (fZ (.raw (.live o)::r) x)->Frz τ (dens (.raw (.live o)::r)) x y) (fun x t l e hc=>qDS hτ e hc) (fun x _=>Frz.tree (.v x)) ha;refine⟨u1,fun j x y hx hy=>u2 j x y hx hy fun c hc'=>hc c (List.mem_flatMap.2 ⟨x,cJ hx,hc'⟩)⟩
      |succ i=>simp at h1
     ·exact q.elim
    ·exact q.elim
   ·exact q.elim
  ·exact q.elim
 ·rename_i t0 l e' r
  split at q
  ·rename_i he
   subst he;split at q
   ·rename_i a ha
    obtain⟨⟨rfl⟩,_⟩:=q;obtain⟨et,el⟩:=TJ ha;subst et;subst el;exact⟨_,rfl,FrzO.tree (Ty.nir 0 _ [_])⟩
   ·exact q.elim
  ·exact q.elim
 ·exact q.elim
theorem aH.meth {P:Program} {T:Tbl} {f:FuncId} {fn:Func} {c:Code} {t:Ty} {el:TypeId} {ps:List Ty} {pre:Option (t.den->Cu ps Prop)} {res:t.den->Cu ps RV} {post:t.den->Cu ps t.den} (hT:aD P T) (hM:P.follows .mixedOrders=true) (fl:List (Nat×Nat×Nat)) (I:List Nat)
  (hf:P.funcs[f]? =some fn) (hb:fn.body=some c)
  (h:∀a (x:Tup ps),(∀p,pre=some p->cu ps (p a) x)->∃an:List (Nat×Nat×LA),fVs (.pO 0 0 0::vals ps x++List.replicate (fn.ntmps-(1+ps.length)) (.v undef)) fun sl=>fH [.ob t a el] fun h=>xcode ⟨P,T,1,0,fl,tV P T fl I 4⟩ c ⟨sl,h,[],an⟩
    (fin P fn.results.toList 1 (cu ps (res a) x) (qWE t el (cu ps (post a) x)))):aH P f (.meth t el ps pre res post):=by
 intro a x hx j;have hlen:=Tup.len ps x;refine⟨fun p hp=>?_,fun k hk=>?_⟩
 ·simp at hp;subst hp;simp
 have hj:k[j]? =some (RH t el a):=hk (j,RH t el a) (by simp);have hup:∀id,1<=id->up [j] id=none:=fun id hid=>by simp [up];omega
 have hrow:∀b:t.den,NIr 0 [t.row b]:=fun b r hr=>by simp at hr;subst hr;exact t.nis 0 b [] (by intro _ h;cases h)
 refine PC.mono (PC.lift (S:=[j]) (h0:=[RH t el a]) (post:=[⟨t.size,[t.row (cu ps (post a) x)],el⟩]) (args0:=.pO 0 0 0::vals ps x) (x0:=(cu ps (res a) x).val) (by simp) rfl rfl ?_ ?_ ?_) (fun y k' ⟨h1,h2⟩=>⟨h1,h2⟩)
 ·intro i id hi
  match i,hi with
  |0,hi=>
   simp at hi;subst hi;exact⟨_,_,hj,rfl,FrzO.tree (hrow a)⟩
  |i+1,hi=>simp at hi
 ·refine⟨rfl,fun i v v' h1 h2=>?_⟩
  match i,h1,h2 with
  |0,h1,h2=>
   simp at h1 h2;subst h1 h2;intro w ι M ι₂ M₂ cv y r;cases r with
   |pO _ _ _ l hl=>exact .pO _ _ _ l (cv.keep j 0 l (by simp [down,List.idxOf?,List.findIdx?_cons]) hl)
  |i+1,h1,h2=>
   have h1:(vals ps x)[i]? =some v:=h1;have h2:(vals ps x)[i]? =some v':=h2;rw[h1]at h2;injection h2 with h2;subst h2;intro w ι M ι₂ M₂ cv y r;exact Frz.tree (τ:=down [j]) (h:=[]) (Tup.ni 0 ps x v (cJ h1)) cv r
 ·obtain⟨an,hw⟩:=h a x hx
  rw[lX,eP]at hw;refine PC.of_bodyV hf hb _ rfl (fun K hK=>?_);have hl2:(V.pO 0 0 0::vals ps x).length=1+ps.length:=by simp [hlen];omega
  rw[hl2];have hw:=kD (E:=⟨P,T,1,0,fl,tV P T fl I 4⟩) hT hM (jH hT hM fl I 4 _ _) c _ _ hw;refine PV.mono hw ?_;rintro e st ⟨s',rfl,h1,_⟩;obtain⟨he,y,hy,hc⟩:=QN h1;obtain⟨hc,ho⟩:=ER (lo:=1) hup hc;refine hK e _ y he hy ⟨hc,fun i c hi=>?_⟩;match i,hi with
  |0,hi=>
   simp at hi;subst hi;obtain⟨o,o1,o2⟩:=qRI hup ho;exact⟨o,o1,o2⟩
  |i+1,hi=>simp at hi
def qWD (P:Program) (rs:List ResultVar) (t:Ty) (el:TypeId) (b:t.den) (e:Exit) (s:Y):Prop:=
 match s with
 |⟨sl,h,_,_⟩=>match e with
  | .normal=>False
  | .ret=>(match ares P rs sl (dens h)with
    |some y=>(match y with
     | .pO i 0 0=>match h[i]? with
       |some o=>(match KE t el o with
        |some a=>Leaf (a=b)/\True
        |none=>False)
       |none=>False
     |_=>False)
    |none=>False)
  |_=>False
theorem qRH {P:Program} {rs:List ResultVar} {t:Ty} {el:TypeId} {b:t.den} {e:Exit} {s:Y} (h:qWD P rs t el b e s):(e = .normal\/e = .ret)/\∃i,ares P rs s.sl (dens s.h)=some (.pO i 0 0)/\∃o,s.h[i]? =some o/\KE t el o=some b:=by
 obtain⟨sl,hp,tch,an⟩:=s;simp only[qWD]at h;split at h
 ·exact h.elim
 ·split at h
  ·rename_i y hy
   split at h
   ·rename_i i
    split at h
    ·rename_i o ho
     split at h
     ·rename_i a ha
      obtain⟨⟨rfl⟩,_⟩:=h;exact⟨.inr rfl,i,hy,o,ho,ha⟩
     ·exact h.elim
    ·exact h.elim
   ·exact h.elim
  ·exact h.elim
 ·exact h.elim
theorem aH.new {P:Program} {T:Tbl} {f:FuncId} {fn:Func} {c:Code} {t:Ty} {el:TypeId} {ps:List Ty} {pre:Option (Cu ps Prop)} {post:Cu ps t.den} (hT:aD P T) (hM:P.follows .mixedOrders=true) (fl:List (Nat×Nat×Nat)) (I:List Nat)
  (hf:P.funcs[f]? =some fn) (hb:fn.body=some c)
  (h:∀x:Tup ps,(∀p,pre=some p->cu ps p x)->∃an:List (Nat×Nat×LA),fVs (vals ps x++List.replicate (fn.ntmps-ps.length) (.v undef)) fun sl=>xcode ⟨P,T,0,0,fl,tV P T fl I 4⟩ c ⟨sl,[],[],an⟩ (qWD P fn.results.toList t el (cu ps post x))):aH P f (.new t el ps pre post):=by
 intro x hx k new k' hh;have hlen:=Tup.len ps x;refine PC.newObj (Tup.ni 0 ps x) (o:=⟨t.size,[t.row (cu ps post x)],el⟩) (t.nir 0 [cu ps post x]) ?_ hh;obtain⟨an,hw⟩:=h x hx;rw[lX]at hw;refine PC.of_bodyV hf hb _ rfl (fun K hK=>?_);rw[hlen];have hw:=kD (E:=⟨P,T,0,0,fl,tV P T fl I 4⟩) hT hM (jH hT hM fl I 4 _ _) c _ _ hw;refine PV.mono hw ?_;rintro e st ⟨s',rfl,h1,_⟩;obtain⟨he,i,hy,o,ho,hr⟩:=qRH h1;obtain⟨c0,o1,o2,o3,o4,o5⟩:=EY hr;exact hK e _ _ he hy ⟨i,c0,rfl,by rw[Y.den,aM,ho];simp [o1],o2,o3,o4,o5⟩
theorem aI {p q:Prop} (h:Leaf p) (a:q):Leaf p/\q:=⟨h,a⟩
theorem bG {p:Prop} [d:Decidable p] {A:Prop} (h:Side p) (a:A):(@decide p d)=true/\A:=⟨decide_eq_true h.out,a⟩
theorem bF {k:IntKind} {n:Int} {A:Prop} (h:Side (loK k<=n/\n<=hiK k)) (a:A):inR k n=true/\A:=⟨decide_eq_true h.out,a⟩
theorem aR {p q:Prop} (h:Side p) (a:q):p/\q:=⟨h.out,a⟩
theorem aJ {p q:Prop} (h:Side p) (a:q):Side p/\q:=⟨h,a⟩
theorem aK {c:Bool} {q:Prop} (h:c=true) (a:q):Kern c/\q:=⟨⟨h⟩,a⟩
theorem aL {q:Prop} (a:q):True/\q:=⟨trivial,a⟩
theorem bD {c:Bool} {A B:Prop} (h1:c=true->A) (h2:c=false->B):@Bool.rec (fun _=>Prop) B A c:=by cases c;exact h2 rfl;exact h1 rfl
theorem aS {p:Prop} [d:Decidable p] {A B:Prop} (h1:p->A) (h2:¬p->B):@Bool.rec (fun _=>Prop) B A (@decide p d):=bD (fun q=>h1 (of_decide_eq_true q)) (fun q=>h2 (of_decide_eq_false q))
theorem aT {p:Prop} [d:Decidable p] {A B:Prop} (h1:p->B) (h2:¬p->A):@Bool.rec (fun _=>Prop) B A (!(@decide p d)):=bD (fun q=>h2 (by simpa using q)) (fun q=>h1 (by simpa using q))
theorem qWS {P:Program} {f:FuncId} (h:∀(x:Int) (w:World),0<=x->x<=18446744073709551615->Calls P f #[.int .u64 x] w fun e w'=>e = .returned (.int .i64 (Lib.bitLen x.toNat))/\w'=w) :
  aH P f (.fn [.int .u64] (some fun(x:Int)=>0<=x/\x<=18446744073709551615) (fun(x:Int)=>RV.d (.int .i64) ((Lib.bitLen x.toNat:Nat):Int))):=by
 unfold aH;intro x0 hp;obtain⟨x,u⟩:=x0;have hp:0<=x/\x<=18446744073709551615:=hp _ rfl;refine⟨fun p q=>(by cases q),fun k _=>?_⟩;intro ι w vs hpw H;obtain⟨hl,hv⟩:=hpw;obtain⟨y,y1,y2⟩:=hv 0 _ rfl;have hy:y = .int .u64 x:=by
  have y3:Rep w ι (Mt k ι) (.v (.int .u64 x)) y:=y2;cases y3;rfl
 subst hy;have hvals:vs = #[.int .u64 x]:=by
  apply Array.ext_getElem?;intro i;match i with
  |0=>rw[y1];rfl
  |i+1=>rw[Array.getElem?_eq_none (by rw[<-hl];simp [vals]),Array.getElem?_eq_none (by simp)]
 rw[hvals];refine(h x w hp.1 hp.2).mono ?_;rintro e w' ⟨rfl,rfl⟩;exact⟨_,_,k,ι,rfl,⟨rfl,rfl⟩,.v _,H,Evolve.refl _ _ _⟩
end Go.Abs
namespace Go.Proofs
open Go.Shelf
def Tryz.lays129_ren:Go.Shelf.Ren:=⟨fun|129=>220|n=>n,fun|53=>86|3=>3|4=>4|46=>94|5=>5|9=>9|n=>n,fun|n=>n⟩
theorem Tryz.lays129:Go.Proofs.Lays.n129 Tryz.prog Tryz.lays129_ren:={
 mixed:=by kernel_rfl
 f129:=Tryz.func220.trans (congrArg some (by kernel_rfl))
 t3:=Tryz.underlying3
 a3:=Tryz.isAgg3
 z3:=Tryz.sizeOf3
 v3:=Tryz.zeroValue3
 t4:=Tryz.underlying4
 a4:=Tryz.isAgg4
 z4:=Tryz.sizeOf4
 v4:=Tryz.zeroValue4
 t5:=Tryz.underlying5
 a5:=Tryz.isAgg5
 z5:=Tryz.sizeOf5
 v5:=Tryz.zeroValue5
 t9:=Tryz.underlying9
 a9:=Tryz.isAgg9
 z9:=Tryz.sizeOf9
 v9:=Tryz.zeroValue9
 t46:=Tryz.underlying94
 a46:=Tryz.isAgg94
 z46:=Tryz.sizeOf94
 v46:=Tryz.zeroValue94
 t53:=Tryz.underlying86
 a53:=Tryz.isAgg86
 z53:=Tryz.sizeOf86
 v53:=Tryz.zeroValue86}
end Go.Proofs
namespace Go.Proofs.YtcjiefknhfhmkaaGreatDoor
open Go.Abs
set_option maxRecDepth 100000
set_option maxHeartbeats 4000000
set_option linter.unusedVariables false
set_option linter.unusedSimpArgs false
abbrev SX:Ct:=.fn [.int .u64] (some fun(x:Int)=>0<=x/\x<=18446744073709551615) (fun(x:Int)=>RV.d (.int .i64) ((Lib.bitLen x.toNat:Nat):Int))
theorem qWT:aH Tryz.prog 220 SX:=qWS (fun x w h0 h1=>Any.bits_Len64 Tryz.lays129 x w h0 h1)
theorem eE {α β:Type _} (p:α×β):(p.1,p.2)=p:=rfl
theorem eN {α:Type _} (l:List α):[]++l=l:=rfl
theorem mixed:Tryz.prog.follows .mixedOrders=true:=by kernel_rfl
structure Tag (n:Nat):Prop where
@[reducible] instance:Inhabited Int:=instInhabitedDen (.int .i64)
@[reducible] instance:Inhabited Bool:=instInhabitedDen .bool
@[reducible] instance:Inhabited ByteArray:=instInhabitedDen .str
theorem lI (n:Int):0<=IntKind.u8.wrap n/\IntKind.u8.wrap n<256:=by simp [IntKind.wrap,IntKind.bits,IntKind.signed];omega
theorem YH (n:Int):0<=IntKind.u32.wrap n/\IntKind.u32.wrap n<4294967296:=by simp [IntKind.wrap,IntKind.bits,IntKind.signed];omega
theorem nB (n:Int):0<=IntKind.u64.wrap n/\IntKind.u64.wrap n<18446744073709551616:=by simp [IntKind.wrap,IntKind.bits,IntKind.signed];omega
theorem AJ {n:Int} (h:0<=n/\n<256):IntKind.u8.wrap n=n:=by simp [IntKind.wrap,IntKind.bits,IntKind.signed];omega
theorem pG (n:Int):IntKind.u8.wrap n=n%256:=by simp [IntKind.wrap,IntKind.bits,IntKind.signed]
theorem xM {n:Int} (h:0<=n/\n<4294967296):IntKind.u32.wrap n=n:=by simp [IntKind.wrap,IntKind.bits,IntKind.signed];omega
theorem aY {n:Int} (h:0<=n/\n<18446744073709551616):IntKind.u64.wrap n=n:=by simp [IntKind.wrap,IntKind.bits,IntKind.signed];omega
theorem qXP (a:Int):jC .u64 a 7=a/128:=by
 have:min (7:Int).toNat IntKind.u64.bits=7:=by decide
 unfold jC;rw[this,Int.fdiv_eq_ediv_of_nonneg _ (by decide)];rfl
theorem PM {p:Nat->Bool} (h:(List.range 256).all p=true) {n:Int} (hn:0<=n/\n<256):p n.toNat=true:=
 List.all_eq_true.1 h _ (by simp;omega)
theorem qY2 {a:Int} (h:0<=a/\a<256):bOr .u8 a 128=a%128+128:=by
 have:=PM (p:=fun n=>decide (bOr .u8 (n:Int) 128=(n:Int)%128+128)) (by kernel_rfl) h;have:=of_decide_eq_true this;rwa [Int.toNat_of_nonneg h.1]at this
theorem qQK {a:Int} (h:0<=a/\a<256):FP .u8 a 128=a%128:=by
 have:=PM (p:=fun n=>decide (FP .u8 (n:Int) 128=(n:Int)%128)) (by kernel_rfl) h;have:=of_decide_eq_true this;rwa [Int.toNat_of_nonneg h.1]at this
theorem xV (a b:Int):0<=lK .u8 a b/\lK .u8 a b<256:=lI _
theorem tD (a b:Int):0<=lK .u32 a b/\lK .u32 a b<4294967296:=YH _
theorem qX9 {a:Int} (h:0<=a/\a<4294967296):lK .u32 a 0=a:=by
 unfold lK;rw[show BitVec.ofInt IntKind.u32.bits 0=0#IntKind.u32.bits from rfl,BitVec.xor_zero];rw[BitVec.toNat_ofInt];have:((a%((2^IntKind.u32.bits:Nat):Int)).toNat:Int)=a:=by
  simp [IntKind.bits];omega
 rw[this,xM h]
theorem qX6 {a:Int} (h:0<=a/\a<4294967296):rO .u32 a 1=a%2:=by
 unfold rO;have e1:(BitVec.ofInt IntKind.u32.bits a &&& BitVec.ofInt IntKind.u32.bits 1).toNat=(a%2).toNat:=by
  rw[BitVec.toNat_and,BitVec.toNat_ofInt,BitVec.toNat_ofInt];have:((1:Int)%((2^IntKind.u32.bits:Nat):Int)).toNat=1:=by decide
  rw[this,Nat.and_one_is_mod];simp [IntKind.bits];omega
 rw[e1,xM (by omega)];omega
theorem qD5 {a:Int} (h:0<=a/\a<4294967296) (n:Nat):0<=jC .u32 a n/\jC .u32 a n<4294967296:=by
 unfold jC;have hp:(0:Int)<2^(min ((n:Int)).toNat IntKind.u32.bits):=Int.pow_pos (by decide);rw[Int.fdiv_eq_ediv_of_nonneg _ (by omega)];exact⟨Int.ediv_nonneg h.1 (by omega),Int.lt_of_le_of_lt (Int.ediv_le_self _ h.1) h.2⟩
theorem AH {α:Type} (l:List α) (k:Nat) (v:α) (h:k<l.length):(l.set k v).take (k+1)=l.take k++ [v]:=by
 apply List.ext_getElem?;intro i;rw[List.getElem?_take,List.getElem?_append,List.getElem?_take];simp only[List.length_take,List.getElem?_set];by_cases h1:i<k
 ·rw[if_pos (by omega),if_neg (by omega),if_pos (by omega),if_pos h1]
 ·by_cases h2:i=k
  ·subst h2
   rw[if_pos (by omega),if_pos rfl,if_pos h,if_neg (by omega)];simp [Nat.min_eq_left (Nat.le_of_lt h)]
  ·rw[if_neg (by omega),if_neg (by omega)]
   simp;omega
theorem iZ (a b:List Int):aV (a++b)=aV a++aV b:=by
 apply ByteArray.ext;simp [aV]
theorem cC (l:List Int):(aV l).size=l.length:=by simp [aV,ByteArray.size]
theorem cI (s:ByteArray) (i:Nat):0<=aG s i/\aG s i<256:=by
 unfold aG;have:=(s.get! i).toNat_lt;omega
abbrev bS:Ty:=.pair .bool (.pair (.int .i64) .str)
abbrev Val:Type:=Bool×Int×ByteArray
@[reducible] instance:Inhabited Val:=instInhabitedDen bS
abbrev rI:Ty:=.pair .str (.pair (.int .i64) (.pair (.int .i64) .bool))
abbrev Col:Type:=ByteArray×Int×Int×Bool
@[reducible] instance:Inhabited Col:=instInhabitedDen rI
def gs (f:Nat->Int) (m w i:Nat):Nat->Int
 |0=>0
 |t+1=>gs f m w i t+(if i*w+t<m then f (i*w+t)*2^t else 0)
def tF (f:Nat->Int):Prop:=∀q,f q=0\/f q=1
theorem iF (t:Nat):(0:Int)<2^t:=Int.pow_pos (by decide)
theorem vO (t:Nat):(2:Int)^(t+1)=2*2^t:=by rw[Int.pow_succ];omega
theorem NF {f:Nat->Int} (hf:tF f) (m w i:Nat):∀t,0<=gs f m w i t/\gs f m w i t<2^t
 |0=>by simp [gs]
 |t+1=>by
  have h:=NF hf m w i t;have hp:=iF t;rw[gs,vO];split
  ·rcases hf (i*w+t)with q|q<;>rw[q]<;>omega
  ·omega
theorem qCT {f:Nat->Int} {m w i:Nat}:∀ {t t0:Nat},t0<=t->(∀u,t0<=u->u<t->¬i*w+u<m)->gs f m w i t=gs f m w i t0
 |0,t0,h,_=>by rw[show t0=0 by omega]
 |t+1,t0,h,hu=>by
  rcases Nat.eq_or_lt_of_le h with q|q
  ·rw[q]
  ·rw[gs,if_neg (hu t (by omega) (by omega)),qCT (t0:=t0) (by omega) (fun u h1 h2=>hu u h1 (by omega))];omega
theorem xA {i w t m:Nat} (ht:t<w) (h:i*w+t=m):i=m/w/\t=m%w:=by
 subst h;constructor
 ·rw[Nat.add_comm,Nat.add_mul_div_right _ _ (by omega),Nat.div_eq_of_lt ht,Nat.zero_add]
 ·rw[Nat.add_comm,Nat.add_mul_mod_self_right,Nat.mod_eq_of_lt ht]
theorem NG {f:Nat->Int} {m w i:Nat} (hw:0<w):∀t,t<=w->gs f (m+1) w i t=gs f m w i t+(if i=m/w/\m%w<t then f m*2^(m%w)else 0)
 |0,_=>by simp [gs]
 |t+1,ht=>by
  rw[gs,gs,NG hw t (by omega)];by_cases q:i*w+t=m
  ·obtain⟨q1,q2⟩:=xA (by omega) q
   rw[if_neg (by omega),if_pos (by omega),if_neg (by omega),if_pos ⟨q1,by omega⟩,q,<-q2];(try omega)
  ·have q':¬(i=m/w/\t=m%w):=fun h=>q (by
     have:=Nat.div_add_mod m w;rw[h.1,h.2,Nat.mul_comm];exact this)
   by_cases r:i*w+t<m
   ·rw[if_pos (show i*w+t<m+1 by omega),if_pos r]
    by_cases c:i=m/w/\m%w<t
    ·rw[if_pos c,if_pos ⟨c.1,by omega⟩];omega
    ·rw[if_neg c,if_neg (fun h=>c ⟨h.1,by omega⟩)];omega
   ·rw[if_neg (show ¬i*w+t<m+1 by omega),if_neg r]
    by_cases c:i=m/w/\m%w<t
    ·rw[if_pos c,if_pos ⟨c.1,by omega⟩];omega
    ·rw[if_neg c,if_neg (fun h=>c ⟨h.1,by omega⟩)]
theorem qCS {f:Nat->Int} {m w:Nat} (hw:0<w) (i:Nat):gs f (m+1) w i w=gs f m w i w+(if i=m/w then f m*2^(m%w)else 0):=by
 rw[NG hw w (Nat.le_refl _)];have:=Nat.mod_lt m hw;by_cases c:i=m/w
 ·rw[if_pos ⟨c,this⟩,if_pos c]
 ·rw[if_neg (fun h=>c h.1),if_neg c]
theorem qMX {f:Nat->Int} (hf:tF f) {m w:Nat} (hw:0<w):0<=gs f m w (m/w) w/\gs f m w (m/w) w<2^(m%w):=by
 have h:=Nat.mod_lt m hw;rw[qCT (t:=w) (t0:=m%w) (by omega) (fun u h1 h2=>by
  have:=Nat.div_add_mod m w;rw[Nat.mul_comm]at this;omega)]
 exact NF hf _ _ _ _
def gL (f:Nat->Int) (m w n:Nat):List Int:=(List.range n).map fun i=>gs f m w i w
theorem iW (f:Nat->Int) (m w n:Nat):(gL f m w n).length=n:=by simp [gL]
theorem QS {f:Nat->Int} {m w n i:Nat} (h:i<n):(gL f m w n)[i]! =gs f m w i w:=by
 rw[getElem!_pos _ i (by rw[iW];exact h)];simp [gL]
theorem QT (f:Nat->Int) (w n:Nat):gL f 0 w n=List.replicate n 0:=by
 have h0:∀i t,gs f 0 w i t=0:=by
  intro i t;induction t with
  |zero=>rfl
  |succ t ih=>rw[gs,ih,if_neg (by omega)];rfl
 unfold gL;apply List.ext_getElem
 ·simp
 ·intro i h1 h2
  simp [h0]
theorem qRW {f:Nat->Int} {m w n:Nat} (hw:0<w) (hm:m/w<n):(gL f m w n).set (m/w) (gs f m w (m/w) w+f m*2^(m%w))=gL f (m+1) w n:=by
 apply List.ext_getElem
 ·simp [gL]
 ·intro i h1 h2
  rw[List.getElem_set];simp only[gL,List.getElem_map,List.getElem_range];rw[qCS hw];by_cases c:m/w=i
  ·rw[if_pos c,if_pos c.symm,c]
  ·rw[if_neg c,if_neg (fun h=>c h.symm)];omega
theorem qCO {f:Nat->Int} {m w n:Nat} (hw:0<w) (h0:f m=0):gL f m w n=gL f (m+1) w n:=by
 unfold gL;refine List.map_congr_left fun i _=>?_
 rw[qCS hw,h0];split<;>omega
theorem qMW {f:Nat->Int} (hf:tF f) {m w i:Nat}:∀ {n t:Nat},t<n->(gs f m w i n/2^t)%2=if i*w+t<m then f (i*w+t)else 0
 |0,t,h=>by omega
 |n+1,t,h=>by
  rw[gs];have hl:=NF hf m w i n;have hp:=iF t;rcases Nat.eq_or_lt_of_le (Nat.lt_succ_iff.1 h)with q|q
  ·subst q
   have key:∀b:Int,(gs f m w i t+b*2^t)/2^t=b:=fun b=>by
    rw[Int.add_mul_ediv_right _ _ (by omega),Int.ediv_eq_zero_of_lt hl.1 hl.2];omega
   split
   ·rw[key]
    rcases hf (i*w+t)with q|q<;>rw[q]<;>rfl
   ·have:=key 0
    rw[Int.zero_mul]at this;rw[this];rfl
  ·have hs:∀b:Int,(gs f m w i n+b*2^n)/2^t%2=gs f m w i n/2^t%2:=fun b=>by
     obtain⟨d,rfl⟩:∃d,n=t+(d+1):=⟨n-t-1,by omega⟩
     rw[Int.pow_add,show b*(2^t*2^(d+1))=(b*2^(d+1))*2^t by rw[Int.mul_comm ((2:Int)^t),Int.mul_assoc],Int.add_mul_ediv_right _ _ (by omega),vO];rw[show b*(2*2^d)=2*(b*2^d)by rw[Int.mul_left_comm]];omega
   rw[<-qMW hf (i:=i) (m:=m) (w:=w) q];split
   ·exact hs _
   ·have:=hs 0
    rw[Int.zero_mul]at this;exact this
theorem qCR {v:Int} {f:Nat->Int} {m w i:Nat} (hv:0<=v):∀t,(∀u,u<t->i*w+u<m/\f (i*w+u)=v/2^u%2)->gs f m w i t=v%2^t
 |0,_=>by simp [gs]
 |t+1,h=>by
  rw[gs,qCR hv t (fun u hu=>h u (by omega)),if_pos (h t (by omega)).1,(h t (by omega)).2,vO];have hp:=iF t;have e1:=Int.emod_add_mul_ediv v (2^t);have e2:=Int.emod_add_mul_ediv (v/2^t) 2;have e3:=Int.emod_nonneg v (show(2:Int)^t≠0 by omega);have e4:=Int.emod_lt_of_pos v hp;have e5:=Int.emod_nonneg (v/2^t) (show(2:Int)≠0 by decide);have e6:=Int.emod_lt_of_pos (v/2^t) (show(0:Int)<2 by decide);have e7:v=(v%2^t+v/2^t%2*2^t)+(2*2^t)*(v/2^t/2):=by
   have a1:(2:Int)^t*(v/2^t)=v/2^t%2*2^t+2*2^t*(v/2^t/2):=by
    conv=>lhs;rw[<-e2]
    rw[Int.mul_add,Int.mul_comm,<-Int.mul_assoc,Int.mul_comm (2^t) 2]
   omega
  have e8:0<=v%2^t+v/2^t%2*2^t/\v%2^t+v/2^t%2*2^t<2*2^t:=by
   rcases(show v/2^t%2=0\/v/2^t%2=1 by omega)with q|q<;>rw[q]<;>omega
  conv=>rhs;rw[e7]
  rw[Int.add_mul_emod_self_left,Int.emod_eq_of_lt e8.1 e8.2]
theorem dC (n:Nat):((2^n:Nat):Int)=(2:Int)^n:=by simp
theorem qSZ (k:IntKind) (hs:k.signed=false) {a b:Int} {s:Nat} (hb:b=0\/b=1) (hk:s<k.bits) (ha:0<=a/\a<2^s):bOr k a (b*2^s)=a+b*2^s:=by
 have hp:=iF s;have hle:(2:Int)^s*2<=2^k.bits:=by
  obtain⟨d,hd⟩:∃d,k.bits=s+(d+1):=⟨k.bits-s-1,by omega⟩
  rw[hd,Int.pow_add,vO];have:=iF d;have h1:(2:Int)^s*(2*1)<=2^s*(2*2^d):=Int.mul_le_mul_of_nonneg_left (by omega) (by omega);simpa using h1
 have hbs:0<=b*2^s/\b*2^s<=2^s:=by rcases hb with q|q<;>rw[q]<;>omega
 have hcast:=dC k.bits;have hid:∀x:Int,0<=x->x<2^k.bits->(BitVec.ofInt k.bits x).toNat=x.toNat:=fun x h1 h2=>by
  rw[BitVec.toNat_ofInt,hcast,Int.emod_eq_of_lt h1 h2]
 unfold bOr;rw[BitVec.toNat_or,hid a ha.1 (by omega),hid _ hbs.1 (by omega)];have e:a.toNat ||| (b*2^s).toNat=a.toNat+(b*2^s).toNat:=by
  have ha2:a.toNat<2^s:=by
   have:=dC s;omega
  rcases hb with q|q
  ·subst q;simp
  ·subst q
   have h2:((1:Int)*2^s).toNat=2^s*1:=by
    rw[Int.one_mul,<-dC,Int.toNat_natCast,Nat.mul_one]
   rw[h2,Nat.or_comm,<-Nat.two_pow_add_eq_or_of_lt ha2];omega
 rw[e];have hsum:((a.toNat+(b*2^s).toNat:Nat):Int)=a+b*2^s:=by omega
 rw[hsum];have hin:0<=a+b*2^s/\a+b*2^s<2^k.bits:=by
  refine⟨by omega,?_⟩;rcases hb with q|q<;>rw[q]<;>omega
 cases k<;>first|(simp [IntKind.signed]at hs;done)|(simp only[IntKind.wrap,IntKind.bits,IntKind.signed]at hin ⊢;simp at hin ⊢;omega)
theorem qD4 {v:Int} (hv:0<=v) {k:Int} (hk:0<=k/\k<64):jC .u64 v k=v/2^k.toNat:=by
 unfold jC;rw[Int.fdiv_eq_ediv_of_nonneg _ (by have:=iF (min k.toNat IntKind.u64.bits);omega),Nat.min_eq_left (by simp [IntKind.bits];omega)]
theorem WM {v:Int} {k:Int} (hk:0<=k/\k<8):jC .u8 v k=v/2^k.toNat:=by
 unfold jC;rw[Int.fdiv_eq_ediv_of_nonneg _ (by have:=iF (min k.toNat IntKind.u8.bits);omega),Nat.min_eq_left (by simp [IntKind.bits];omega)]
theorem PN {a:Int} (h:0<=a/\a<18446744073709551616):rO .u64 a 1=a%2:=by
 unfold rO;have e1:(BitVec.ofInt IntKind.u64.bits a &&& BitVec.ofInt IntKind.u64.bits 1).toNat=(a%2).toNat:=by
  rw[BitVec.toNat_and,BitVec.toNat_ofInt,BitVec.toNat_ofInt];have:((1:Int)%((2^IntKind.u64.bits:Nat):Int)).toNat=1:=by decide
  rw[this,Nat.and_one_is_mod];simp [IntKind.bits];omega
 rw[e1,aY (by omega)];omega
theorem qVU {a:Int} (h:0<=a/\a<256):rO .u8 a 1=a%2:=by
 unfold rO;have e1:(BitVec.ofInt IntKind.u8.bits a &&& BitVec.ofInt IntKind.u8.bits 1).toNat=(a%2).toNat:=by
  rw[BitVec.toNat_and,BitVec.toNat_ofInt,BitVec.toNat_ofInt];have:((1:Int)%((2^IntKind.u8.bits:Nat):Int)).toNat=1:=by decide
  rw[this,Nat.and_one_is_mod];simp [IntKind.bits];omega
 rw[e1,AJ (by omega)];omega
theorem qXO {b:Int} (hb:b=0\/b=1) {s:Int} (hs:0<=s/\s<8):oE .u8 b s=b*2^s.toNat:=by
 unfold oE;rw[Nat.min_eq_left (by simp [IntKind.bits];omega)];refine AJ ?_;have h8:(2:Int)^s.toNat<=128:=by
  have:s.toNat<=7:=by omega
  have:=Nat.pow_le_pow_right (show 0<2 by decide) this;rw[<-dC];omega
 have hp:=iF s.toNat;rcases hb with q|q<;>rw[q]<;>omega
theorem qTM {b:Int} (hb:b=0\/b=1) {s:Int} (hs:0<=s/\s<64):oE .u64 b s=b*2^s.toNat:=by
 unfold oE;rw[Nat.min_eq_left (by simp [IntKind.bits];omega)];refine aY ?_;have h8:(2:Int)^s.toNat<=9223372036854775808:=by
  have:s.toNat<=63:=by omega
  have:=Nat.pow_le_pow_right (show 0<2 by decide) this;rw[<-dC];omega
 have hp:=iF s.toNat;rcases hb with q|q<;>rw[q]<;>omega
def gS (v:Int):Int:=((Lib.bitLen v.toNat:Nat):Int)
def qA (n w:Int):Bool:=decide (0<=n)&&decide (n<=4096)&&decide (0<=w)&&decide (w<=64)
def dP (n w:Int):Int:=if qA n w=true then(n*w+7).tdiv 8 else 0
theorem fA (n w:Int):qA n w=true↔(0<=n/\n<=4096)/\0<=w/\w<=64:=by simp [qA,and_assoc]
theorem qDD {n w:Int} (h:(0<=n/\n<=4096)/\0<=w/\w<=64):0<=n*w/\n*w<=262144:=by
 refine⟨Int.mul_nonneg h.1.1 h.2.1,?_⟩;have h1:=Int.mul_le_mul_of_nonneg_right h.1.2 h.2.1;omega
theorem kE {n w:Int} (h:(0<=n/\n<=4096)/\0<=w/\w<=64):dP n w=(n*w+7)/8/\0<=n*w/\n*w<=262144:=by
 have h1:=qDD h;rw[dP,if_pos ((fA n w).2 h),Int.tdiv_eq_ediv_of_nonneg (by omega)];exact⟨rfl,h1⟩
theorem xE {i n k w:Int} (hi:i<n) (hk:k<w) (h0:0<=w):i*w+k<n*w:=by
 have h1:(i+1)*w<=n*w:=Int.mul_le_mul_of_nonneg_right (by omega) h0;rw[Int.add_mul]at h1;omega
theorem WN (i w:Int):(i+1)*w=i*w+w:=by rw[Int.add_mul];omega
def vbit (l:List Int) (w q:Nat):Int:=l[q/w]! /2^(q%w)%2
def sbit (s:ByteArray) (q:Nat):Int:=aG s (q/8)/2^(q%8)%2
theorem qBR (l:List Int) (w:Nat):tF (vbit l w):=fun q=>by unfold vbit;omega
theorem xK (s:ByteArray):tF (sbit s):=fun q=>by unfold sbit;omega
theorem VP {i w k:Int} (h:0<=i/\0<=k/\k<w):(i*w+k).toNat/w.toNat=i.toNat/\(i*w+k).toNat%w.toNat=k.toNat:=by
 have h1:(i*w+k).toNat=i.toNat*w.toNat+k.toNat:=by
  have:0<=i*w:=Int.mul_nonneg h.1 (by omega);have e:((i.toNat*w.toNat+k.toNat:Nat):Int)=i*w+k:=by
   push_cast
   rw[Int.toNat_of_nonneg h.1,Int.toNat_of_nonneg (show 0<=w by omega),Int.toNat_of_nonneg h.2.1]
  omega
 obtain⟨q1,q2⟩:=xA (i:=i.toNat) (w:=w.toNat) (t:=k.toNat) (m:=(i*w+k).toNat) (by omega) h1.symm;exact⟨q1.symm,q2.symm⟩
theorem qUJ {kd:IntKind} (hs:kd.signed=false) {f:Nat->Int} (hf:tF f) {m W n:Nat} (hW:0<W) (hb:W<=kd.bits) (hm:m/W<n) :
  (gL f m W n).set (m/W) (bOr kd (gL f m W n)[m/W]! (f m*2^(m%W)))=gL f (m+1) W n:=by
 have hml:=Nat.mod_lt m hW;rw[QS hm,qSZ kd hs (hf m) (by omega) (qMX hf hW)];exact qRW hW hm
theorem VE {f:Nat->Int} (hf:tF f) {N:Nat} {a b s q:Int} (ha:0<=a) (hN:a.toNat/8<N) (hb:b=f a.toNat) (hs:s=a.tmod 8) (hq:q=a.tdiv 8) :
  (gL f a.toNat 8 N).set q.toNat (bOr .u8 (gL f a.toNat 8 N)[q.toNat]! (oE .u8 b s))=gL f (a+1).toNat 8 N:=by
 have e1:q.toNat=a.toNat/8:=by rw[hq,Int.tdiv_eq_ediv_of_nonneg ha];omega
 have e2:s.toNat=a.toNat%8:=by rw[hs,Int.tmod_eq_emod_of_nonneg ha];omega
 have e3:0<=s/\s<8:=by rw[hs,Int.tmod_eq_emod_of_nonneg ha];omega
 rw[qXO (by rw[hb];exact hf _) e3,e1,e2,hb,show(a+1).toNat=a.toNat+1 by omega];exact qUJ rfl hf (by decide) (by decide) hN
theorem qBP {f:Nat->Int} (hf:tF f) {n W:Nat} {a b k i:Int} (ha:0<=a) (hW:0<W/\W<=64) (hi:0<=i/\i.toNat<n) (hk:0<=k) (h1:a.toNat/W=i.toNat) (h2:a.toNat%W=k.toNat) (hb:b=f a.toNat) :
  (gL f a.toNat W n).set i.toNat (bOr .u64 (gL f a.toNat W n)[i.toNat]! (oE .u64 b k))=gL f (a+1).toNat W n:=by
 have h3:=Nat.mod_lt a.toNat hW.1;rw[qTM (by rw[hb];exact hf _) (by omega),<-h1,<-h2,hb,show(a+1).toNat=a.toNat+1 by omega];exact qUJ rfl hf hW.1 hW.2 (by omega)
theorem qG3 {l:List Int} {i k w:Int} (h:0<=i/\0<=k/\k<w):vbit l w.toNat (i*w+k).toNat=l[i.toNat]! /2^k.toNat%2:=by
 obtain⟨q1,q2⟩:=VP h;unfold vbit;rw[q1,q2]
theorem qLD {v k:Int} (hv:0<=v/\v<18446744073709551616) (hk:0<=k/\k<64):rO .u64 (jC .u64 v k) 1=v/2^k.toNat%2/\(v/2^k.toNat%2=0\/v/2^k.toNat%2=1):=by
 have hp:=iF k.toNat;have h0:0<=v/2^k.toNat:=Int.ediv_nonneg hv.1 (by omega);have h1:v/2^k.toNat<=v:=Int.ediv_le_self _ hv.1;rw[qD4 hv.1 hk,PN (by omega)];exact⟨rfl,by omega⟩
theorem qLC (s:ByteArray) {a:Int} (ha:0<=a):rO .u8 (jC .u8 (aG s (a.tdiv 8).toNat) (a.tmod 8)) 1=sbit s a.toNat/\(sbit s a.toNat=0\/sbit s a.toNat=1):=by
 have e1:(a.tdiv 8).toNat=a.toNat/8:=by rw[Int.tdiv_eq_ediv_of_nonneg ha];omega
 have e2:(a.tmod 8).toNat=a.toNat%8:=by rw[Int.tmod_eq_emod_of_nonneg ha];omega
 have e3:0<=a.tmod 8/\a.tmod 8<8:=by rw[Int.tmod_eq_emod_of_nonneg ha];omega
 have hb:=cI s (a.toNat/8);have hp:=iF (a.toNat%8);have h0:0<=aG s (a.toNat/8)/2^(a.toNat%8):=Int.ediv_nonneg hb.1 (by omega);have h1:aG s (a.toNat/8)/2^(a.toNat%8)<=aG s (a.toNat/8):=Int.ediv_le_self _ hb.1;rw[WM e3,e1,e2,qVU (by omega)];exact⟨rfl,xK s _⟩
def pP (l:List Int) (w:Int):Bool:=l.any fun v=>decide (gS v>w)
theorem qP6 {l:List Int} {w i:Int} (hi:0<=i/\i<l.length) (h:gS l[i.toNat]! >w):pP l w=true:=by
 unfold pP;rw[List.any_eq_true];refine⟨l[i.toNat]!,?_,by simpa using h⟩;rw[getElem!_pos l i.toNat (by omega)];exact List.getElem_mem _
theorem qG6 {l:List Int} {w:Int} (h:∀j:Nat,j<l.length->gS l[j]! <=w):pP l w=false:=by
 unfold pP;rw[List.any_eq_false];intro v hv;obtain⟨j,hj,rfl⟩:=List.mem_iff_getElem.1 hv;have:=h j hj;rw[getElem!_pos l j hj]at this;simp;omega
def eQ (l:List Int) (w:Int):ByteArray×Int:=
 if w<0\/w>64 then(⟨#[]⟩,4)else if l.length>4096 then(⟨#[]⟩,7)else if pP l w=true then(⟨#[]⟩,8)
 else(aV (gL (vbit l w.toNat) ((l.length:Int)*w).toNat 8 (dP l.length w).toNat),0)
abbrev tb1:Tbl:=(220,SX)::([]:Tbl)
theorem qPJ:aD Tryz.prog tb1:=aD.cons qWT aD.nil
abbrev HD:Ct:=.fn [.int .u64] (some (fun(v:Int)=>(0<=v/\v<18446744073709551616))) (fun(v:Int)=>.d (.int .i64) (gS v))
theorem qP7:aH Tryz.prog 202 HD:=by
 refine aH.fn qPJ mixed [] [] rfl rfl ?_;rintro⟨(v:Int),_⟩ hpre;replace hpre:=hpre _ rfl;dsimp only[cu]at hpre;have hv:=hpre;refine⟨[],?_⟩;repeat' (first
  |(
 with_reducible apply Side.mk
 (try dsimp only[cu,aC,aB,gts,loK,hiK,eE,eN])
 omega)
  |(conv=>whnf
    first
     |with_reducible first|done|exact trivial|refine NilBr.mk (fun h=>?_) ?_|apply aJ|apply aI|refine aK (by kernel_rfl) ?_|apply aL|apply bG|apply bF|apply aR
     |((with_reducible first|apply aT|apply aS|apply bD)<;>intro h<;>(try dsimp only[cu,eE,eN]at h)<;>(try(exfalso;omega)))))
 all_goals(
 with_reducible apply Leaf.mk
 (try dsimp only[cu,aC,aB,gts,eE,eN]at *)
 rfl)
abbrev tb2:Tbl:=(202,HD)::tb1
theorem qPK:aD Tryz.prog tb2:=aD.cons qP7 qPJ
theorem vE {v:Int} (h:0<v) (h2:v<18446744073709551616):gS v=1+gS (v/2):=by
 obtain⟨n,rfl⟩:=Int.eq_ofNat_of_zero_le (show 0<=v by omega);have hn:0<n:=by omega
 have e:((n:Int)/2).toNat=n/2:=by omega
 unfold gS;rw[e,Int.toNat_natCast];by_cases h1:n/2=0
 ·have:n=1:=by omega
  subst this;rfl
 ·rw[Lib.bitLen_shift 1 n (by omega) (by omega)]
  simp
theorem vF {v:Int} (h:v<=0):gS v=0:=by
 unfold gS;rw[show v.toNat=0 by omega];rfl
theorem vD {v:Int} (h:v<18446744073709551616):0<=gS v/\gS v<=64:=by
 unfold gS;have:=Lib.bitLen_le v.toNat 64 (by omega) (by omega);omega
theorem qO4 {v:Int} (h:0<=v):jC .u64 v 1=v/2:=by
 rw[qD4 h (by decide)];rfl
abbrev DC:Ct:=.fn [.int .u64] (some (fun(v0:Int)=>(0<=v0/\v0<18446744073709551616))) (fun(v0:Int)=>.d (.int .i64) (gS v0))
theorem qJJ:aH Tryz.prog 184 DC:=by
 refine aH.fn qPK mixed [] [] rfl rfl ?_;rintro⟨(v0:Int),_⟩ hpre;replace hpre:=hpre _ rfl;dsimp only[cu]at hpre;have hv0:=hpre;refine⟨[(0,4,LA.mk [.sl 0 (.int .u64),.sl 3 (.int .i64)] (fun y=>Tag 1/\cu [.int .u64,.int .i64] (fun(v:Int) (w:Int)=>(0<=v/\v<18446744073709551616)/\(gS v0=w+gS v)/\(0<=w/\w<=64)) y) (cu [.int .u64,.int .i64] (fun(v:Int) (w:Int)=>v.toNat)) (cu [.int .u64,.int .i64] (fun(v:Int) (w:Int)=>([]:List (Nat×Nat×LA)))))],?_⟩;repeat' (first
  |(
 with_reducible refine Side.mk ⟨(⟨⟩:Tag 1),?_⟩
 dsimp only[cu,aC,aB,gts,eE,eN]
 refine⟨?_,?_,?_⟩
 ·first
  |omega
  |rw[qO4 (by omega)];omega
 ·first
  |omega
  |rw[hw,vE (v:=v) (by omega) (by omega),qO4 (by omega)];omega
 ·first
  |omega
  |(
  have:=vD (v:=v0) (by omega)
  have h2:=vE (v:=v) (by omega) (by omega)
  have:=vD (v:=v/2) (by omega)
  omega))
  |(
 with_reducible apply Side.mk
 (try dsimp only[cu,aC,aB,gts,loK,hiK,eE,eN])
 first
 |omega
 |(rw[qO4 (by omega)];omega))
  |(conv=>whnf
    first
     |with_reducible first|done|exact trivial|refine NilBr.mk (fun h=>?_) ?_|apply aJ|apply aI|refine aK (by kernel_rfl) ?_|apply aL|apply bG|apply bF|apply aR
     |((with_reducible first|apply aT|apply aS|apply bD)<;>intro h<;>(try dsimp only[cu,eE,eN]at h)<;>(try(exfalso;omega)))
     |(
 intro yy (hy:Tag 1/\_)
 obtain⟨(v:Int),(w:Int),_⟩:=yy
 replace hy:=hy.2
 dsimp only[cu,aC,aB,gts,eE,eN]at hy
 obtain⟨hv,hw,hw0⟩:=hy)))
 all_goals(
 with_reducible apply Leaf.mk
 (try dsimp only[cu,aC,aB,gts,eE,eN]at *)
 (
  have e:=vF (v:=v) (by omega);rw[hw,e,Int.add_zero]))
abbrev tb3:Tbl:=(184,DC)::tb2
theorem qPL:aD Tryz.prog tb3:=aD.cons qJJ qPK
abbrev LX:Ct:=.fn [.int .i64,.int .i64] (none) (fun(n:Int) (w:Int)=>.d .bool (qA n w))
theorem qS0:aH Tryz.prog 225 LX:=by
 refine aH.fn qPL mixed [] [] rfl rfl ?_;rintro⟨(n:Int),(w:Int),_⟩ -;refine⟨[],?_⟩;repeat' (first
  |(
 with_reducible apply Side.mk
 (try dsimp only[cu,aC,aB,gts,loK,hiK,eE,eN])
 done)
  |(conv=>whnf
    first
     |with_reducible first|done|exact trivial|refine NilBr.mk (fun h=>?_) ?_|apply aJ|apply aI|refine aK (by kernel_rfl) ?_|apply aL|apply bG|apply bF|apply aR
     |((with_reducible first|apply aT|apply aS|apply bD)<;>intro h<;>(try dsimp only[cu,eE,eN]at h)<;>(try(exfalso;omega)))))
 all_goals(
 with_reducible apply Leaf.mk
 (try dsimp only[cu,aC,aB,gts,eE,eN]at *)
 grind [qA])
abbrev tb4:Tbl:=(225,LX)::tb3
theorem qPM:aD Tryz.prog tb4:=aD.cons qS0 qPL
abbrev LR:Ct:=.fn [.int .i64,.int .i64] (none) (fun(n:Int) (w:Int)=>.d (.int .i64) (dP n w))
theorem qSQ:aH Tryz.prog 207 LR:=by
 refine aH.fn qPM mixed [] [] rfl rfl ?_;rintro⟨(n:Int),(w:Int),_⟩ -;refine⟨[],?_⟩;repeat' (first
  |(
 with_reducible apply Side.mk
 (try dsimp only[cu,aC,aB,gts,loK,hiK,eE,eN])
 first
 |omega
 |(
  have hnw:=qDD (n:=n) (w:=w) ((fA n w).1 (by simp_all;done));first
  |omega
  |(
   rw[Int.tdiv_eq_ediv_of_nonneg (by omega)];omega)))
  |(conv=>whnf
    first
     |with_reducible first|done|exact trivial|refine NilBr.mk (fun h=>?_) ?_|apply aJ|apply aI|refine aK (by kernel_rfl) ?_|apply aL|apply bG|apply bF|apply aR
     |((with_reducible first|apply aT|apply aS|apply bD)<;>intro h<;>(try dsimp only[cu,eE,eN]at h)<;>(try(exfalso;omega)))))
 all_goals(
 with_reducible apply Leaf.mk
 (try dsimp only[cu,aC,aB,gts,eE,eN]at *)
 first
 |(
  have q:qA n w=true:=by simp_all;done
  rw[dP,if_pos q])
 |(
  have q:¬qA n w=true:=by simp_all;done
  rw[dP,if_neg q]))
abbrev tb5:Tbl:=(207,LR)::tb4
theorem qPN:aD Tryz.prog tb5:=aD.cons qSQ qPM
abbrev GR:Ct:=.fn [.int .i64,.int .i64] (none) (fun(n:Int) (w:Int)=>.d (.int .i64) (dP n w))
theorem qOT:aH Tryz.prog 209 GR:=by
 refine aH.fn qPN mixed [] [] rfl rfl ?_;rintro⟨(n:Int),(w:Int),_⟩ -;refine⟨[],?_⟩;repeat' (first
  |(
 with_reducible apply Side.mk
 (try dsimp only[cu,aC,aB,gts,loK,hiK,eE,eN])
 first
 |omega
 |(
  have hnw:=qDD (n:=n) (w:=w) (by omega);first
  |omega
  |(
   rw[Int.tdiv_eq_ediv_of_nonneg (by omega)];omega)))
  |(conv=>whnf
    first
     |with_reducible first|done|exact trivial|refine NilBr.mk (fun h=>?_) ?_|apply aJ|apply aI|refine aK (by kernel_rfl) ?_|apply aL|apply bG|apply bF|apply aR
     |((with_reducible first|apply aT|apply aS|apply bD)<;>intro h<;>(try dsimp only[cu,eE,eN]at h)<;>(try(exfalso;omega)))))
 all_goals(
 with_reducible apply Leaf.mk
 (try dsimp only[cu,aC,aB,gts,eE,eN]at *)
 first
 |(
  have q:qA n w=true:=(fA n w).2 (by omega);rw[dP,if_pos q])
 |(
  have q:¬qA n w=true:=fun q=>by have:=(fA n w).1 q;omega
  rw[dP,if_neg q]))
abbrev tb6:Tbl:=(209,GR)::tb5
theorem qPO:aD Tryz.prog tb6:=aD.cons qOT qPN
abbrev GS:Ct:=.fn [.list (.int .u64),.int .i64] (some (fun(l:List Int) (w:Int)=>(∀i:Nat,0<=l[i]! /\l[i]! <18446744073709551616)/\(l.length<=4611686018427387904))) (fun(l:List Int) (w:Int)=>.tup [.str,.int .i64] ((eQ l w).1,(eQ l w).2,()))
theorem qOU:aH Tryz.prog 183 GS:=by
 refine aH.fn qPO mixed [] [] rfl rfl ?_;rintro⟨(l:List Int),(w:Int),_⟩ hpre;replace hpre:=hpre _ rfl;dsimp only[cu]at hpre;obtain⟨hlv,hll⟩:=hpre;refine⟨[(0,14,LA.mk [.sl 27 (.int .i64),.ar 0 (.int .u8) 5] (fun y=>Tag 2/\cu [.int .i64,.list (.int .u8)] (fun(i:Int) (M:List Int)=>(0<=i/\i<=l.length)/\(M=gL (vbit l w.toNat) (i*w).toNat 8 (dP l.length w).toNat)/\(∀j:Nat,(j:Int)<i->gS l[j]! <=w)) y) (cu [.int .i64,.list (.int .u8)] (fun(i:Int) (M:List Int)=>((l.length:Int)-i).toNat)) (cu [.int .i64,.list (.int .u8)] (fun(i:Int) (M:List Int)=>([(0,24,LA.mk [.sl 9 (.int .i64),.ar 0 (.int .u8) 5] (fun y=>Tag 3/\cu [.int .i64,.list (.int .u8)] (fun(k:Int) (O:List Int)=>(0<=k/\k<=w)/\(O=gL (vbit l w.toNat) (i*w+k).toNat 8 (dP l.length w).toNat)) y) (cu [.int .i64,.list (.int .u8)] (fun(k:Int) (O:List Int)=>((w:Int)-k).toNat)) (cu [.int .i64,.list (.int .u8)] (fun(k:Int) (O:List Int)=>([]:List (Nat×Nat×LA)))))]:List (Nat×Nat×LA)))))],?_⟩;repeat' (first
  |(
 with_reducible refine Side.mk ⟨(⟨⟩:Tag 2),?_⟩
 dsimp only[cu,aC,aB,gts,eE,eN]
 refine⟨?_,?_,?_⟩
 ·omega
 ·first
  |rw[Int.zero_mul];exact(QT _ _ _).symm
  |rw[hO,show k=w by omega,WN]
 ·first
  |intro j hj;omega
  |(
  intro j hj
  rcases Int.lt_or_le (j:Int) i with q|q
  ·exact hwd j q
  ·rw[show j=i.toNat by omega];exact Int.not_lt.1 (by assumption)))
  |(
 with_reducible refine Side.mk ⟨(⟨⟩:Tag 3),?_⟩
 dsimp only[cu,aC,aB,gts,eE,eN]
 refine⟨?_,?_⟩
 ·omega
 ·first
  |rw[hM,Int.add_zero]
  |(
  have hne:=kE (n:=l.length) (w:=w) (by omega)
  have hix:=xE (i:=i) (n:=l.length) (k:=k) (w:=w) (by omega) (by omega) (by omega)
  have hi0:0<=i*w:=Int.mul_nonneg (by omega) (by omega)
  first
  |(
   rw[hO,show i*w+(k+1)=i*w+k+1 by omega];obtain⟨q1,q2⟩:=qLD (hlv i.toNat) (k:=k) (by omega);rw[aY (n:=k) (by omega)]at h;rw[aY (n:=(i*w+k).tmod 8) (by rw[Int.tmod_eq_emod_of_nonneg (by omega)];omega)];refine VE (qBR _ _) (by omega) (by omega) ?_ rfl rfl;rw[qG3 (by omega),<-q1];exact h.symm)
  |(
   rw[hO,show i*w+(k+1)=i*w+k+1 by omega,show(i*w+k+1).toNat=(i*w+k).toNat+1 by omega];obtain⟨q1,q2⟩:=qLD (hlv i.toNat) (k:=k) (by omega);rw[aY (n:=k) (by omega)]at h;have h2:¬rO .u64 (jC .u64 l[i.toNat]! k) 1=1:=h;rw[q1]at h2;refine qCO (by decide) ?_;rw[qG3 (by omega)];omega)))
  |(
 with_reducible apply Side.mk
 (try dsimp only[cu,aC,aB,gts,loK,hiK,eE,eN])
 first
 |omega
 |(
  have hne:=kE (n:=l.length) (w:=w) (by omega);omega)
 |exact hlv _
 |simp only[hM,iW];done
 |rw[aY (n:=k) (by omega)];omega
 |(
  have hne:=kE (n:=l.length) (w:=w) (by omega);have hix:=xE (i:=i) (n:=l.length) (k:=k) (w:=w) (by omega) (by omega) (by omega);have hi0:0<=i*w:=Int.mul_nonneg (by omega) (by omega);first
  |(
   (try rw[Int.tdiv_eq_ediv_of_nonneg (by omega)]);(try rw[Int.tmod_eq_emod_of_nonneg (by omega)]);(try simp only[hO,iW]);omega)
  |(
   rw[aY (n:=(i*w+k).tmod 8) (by rw[Int.tmod_eq_emod_of_nonneg (by omega)];omega)];(try rw[Int.tdiv_eq_ediv_of_nonneg (by omega)]);(try rw[Int.tmod_eq_emod_of_nonneg (by omega)]);omega)))
  |(conv=>whnf
    first
     |with_reducible first|done|exact trivial|refine NilBr.mk (fun h=>?_) ?_|apply aJ|apply aI|refine aK (by kernel_rfl) ?_|apply aL|apply bG|apply bF|apply aR
     |((with_reducible first|apply aT|apply aS|apply bD)<;>intro h<;>(try dsimp only[cu,eE,eN]at h)<;>(try(exfalso;omega)))
     |(
 intro yy (hy:Tag 2/\_)
 obtain⟨(i:Int),(M:List Int),_⟩:=yy
 replace hy:=hy.2
 dsimp only[cu,aC,aB,gts,eE,eN]at hy
 obtain⟨hi,hM,hwd⟩:=hy)
     |(
 intro yy (hy:Tag 3/\_)
 obtain⟨(k:Int),(O:List Int),_⟩:=yy
 replace hy:=hy.2
 dsimp only[cu,aC,aB,gts,eE,eN]at hy
 obtain⟨hk,hO⟩:=hy)))
 all_goals(
 with_reducible apply Leaf.mk
 (try dsimp only[cu,aC,aB,gts,eE,eN]at *)
 first
 |rw[eQ,if_pos (by omega)]
 |rw[eQ,if_neg (by omega),if_pos (by omega)]
 |(
  have hyes:=qP6 (l:=l) (w:=w) (i:=i) (by omega) (by assumption);have h1:¬(w<0\/w>64):=by omega
  have h2:¬l.length>4096:=by omega
  rw[eQ,if_neg h1,if_neg h2,if_pos hyes])
 |(
  have hil:i=l.length:=by omega
  have hno:=qG6 (l:=l) (w:=w) (fun j hj=>hwd j (by omega));have h1:¬(w<0\/w>64):=by omega
  have h2:¬l.length>4096:=by omega
  have h3:¬pP l w=true:=by rw[hno];decide
  rw[eQ,if_neg h1,if_neg h2,if_neg h3];(try rw[hM,hil])))
abbrev tb7:Tbl:=(183,GS)::tb6
theorem qPP:aD Tryz.prog tb7:=aD.cons qOU qPO
def iQ (s:ByteArray) (m:Nat):Bool:=(List.range (8*s.size)).any fun q=>decide (m<=q)&&decide (sbit s q=1)
def bK (s:ByteArray) (n w:Int):List Int×Int:=
 if ¬qA n w=true then([],4)else if(s.size:Int)<dP n w then([],10)else if(s.size:Int)>dP n w then([],2)
 else if iQ s (n*w).toNat=true then([],2)else(gL (sbit s) (n*w).toNat w.toNat n.toNat,0)
theorem qHY {B:Int} (hB:0<=B/\B<256) {t:Nat} (ht:t<8) (h:B/2^t≠0):∃u,t<=u/\u<8/\B/2^u%2=1:=by
 have h1:=PM (p:=fun n=>(List.range 8).all fun t=>decide ((n:Int)/2^t=0)||(List.range 8).any fun u=>decide (t<=u)&&decide ((n:Int)/2^u%2=1)) (by kernel_rfl) hB;have h2:=List.all_eq_true.1 h1 t (by simp;omega);rw[Int.toNat_of_nonneg hB.1]at h2;rw[Bool.or_eq_true]at h2;rcases h2 with q|q
 ·exact absurd (of_decide_eq_true q) h
 ·obtain⟨u,hu,hq⟩:=List.any_eq_true.1 q
  simp only[Bool.and_eq_true,decide_eq_true_eq]at hq;exact⟨u,hq.1,by simpa using hu,hq.2⟩
theorem WU {s:ByteArray} {m q:Nat} (h1:m<=q) (h2:q<8*s.size) (h3:sbit s q=1):iQ s m=true:=by
 unfold iQ;rw[List.any_eq_true];exact⟨q,by simpa using h2,by simp [h1,h3]⟩
theorem qEE {s:ByteArray} {m:Nat} (h:∀q,m<=q->q<8*s.size->sbit s q≠1):¬iQ s m=true:=by
 intro hq;unfold iQ at hq;obtain⟨q,h1,h2⟩:=List.any_eq_true.1 hq;simp only[Bool.and_eq_true,decide_eq_true_eq]at h2;exact h q h2.1 (by simpa using h1) h2.2
theorem WT {s:ByteArray} {m:Nat} (h:s.size=(m+7)/8):iQ s m=true↔m%8≠0/\aG s (m/8)/2^(m%8)≠0:=by
 have hb:=cI s (m/8);constructor
 ·intro hq
  unfold iQ at hq;obtain⟨q,h1,h2⟩:=List.any_eq_true.1 hq;simp only[Bool.and_eq_true,decide_eq_true_eq]at h2;have h1:q<8*s.size:=by simpa using h1
  have hm:m%8≠0:=by omega
  refine⟨hm,fun h0=>?_⟩;have e1:q/8=m/8:=by omega
  have h3:=h2.2;unfold sbit at h3;rw[e1]at h3;have hlt:aG s (m/8)<2^(m%8):=by
   have hp:=iF (m%8);have:=Int.emod_add_mul_ediv (aG s (m/8)) (2^(m%8));rw[h0,Int.mul_zero]at this;have:=Int.emod_lt_of_pos (aG s (m/8)) hp;omega
  have hle:(2:Int)^(m%8)<=2^(q%8):=by
   have:=Nat.pow_le_pow_right (show 0<2 by decide) (show m%8<=q%8 by omega);rw[<-dC,<-dC];omega
  rw[Int.ediv_eq_zero_of_lt hb.1 (by omega)]at h3;omega
 ·rintro⟨h1,h2⟩
  obtain⟨u,u1,u2,u3⟩:=qHY hb (by omega) h2;refine WU (q:=8*(m/8)+u) (by omega) (by omega) ?_;unfold sbit;rw[show(8*(m/8)+u)/8=m/8 by omega,show(8*(m/8)+u)%8=u by omega];exact u3
theorem OV (s:ByteArray) {a:Int} (ha:0<=a):jC .u8 (aG s (a.tdiv 8).toNat) (a.tmod 8)=aG s (a.toNat/8)/2^(a.toNat%8)/\(a.tmod 8=0↔a.toNat%8=0):=by
 have e1:(a.tdiv 8).toNat=a.toNat/8:=by rw[Int.tdiv_eq_ediv_of_nonneg ha];omega
 have e2:(a.tmod 8).toNat=a.toNat%8:=by rw[Int.tmod_eq_emod_of_nonneg ha];omega
 have e3:0<=a.tmod 8/\a.tmod 8<8:=by rw[Int.tmod_eq_emod_of_nonneg ha];omega
 rw[WM e3,e1,e2];exact⟨rfl,by omega⟩
abbrev DE:Ct:=.fn [.str,.int .i64,.int .i64] (some (fun(s:ByteArray) (n:Int) (w:Int)=>(s.size<=4611686018427387904))) (fun(s:ByteArray) (n:Int) (w:Int)=>.tup [.list (.int .u64),.int .i64] ((bK s n w).1,(bK s n w).2,()))
theorem qJ1:aH Tryz.prog 211 DE:=by
 refine aH.fn qPP mixed [] [] rfl rfl ?_;rintro⟨(s:ByteArray),(n:Int),(w:Int),_⟩ hpre;replace hpre:=hpre _ rfl;dsimp only[cu]at hpre;have hs:=hpre;refine⟨[(0,20,LA.mk [.sl 35 (.int .i64),.sl 9 (.int .i64),.ar 0 (.int .u64) 86] (fun y=>Tag 4/\cu [.int .i64,.int .i64,.list (.int .u64)] (fun(i:Int) (a:Int) (M:List Int)=>(0<=i/\i<=n)/\(a=i*w)/\(M=gL (sbit s) a.toNat w.toNat n.toNat)) y) (cu [.int .i64,.int .i64,.list (.int .u64)] (fun(i:Int) (a:Int) (M:List Int)=>((n:Int)-i).toNat)) (cu [.int .i64,.int .i64,.list (.int .u64)] (fun(i:Int) (a:Int) (M:List Int)=>([(0,26,LA.mk [.sl 39 (.int .i64),.sl 9 (.int .i64),.ar 0 (.int .u64) 86] (fun y=>Tag 5/\cu [.int .i64,.int .i64,.list (.int .u64)] (fun(k:Int) (b:Int) (O:List Int)=>(0<=k/\k<=w)/\(b=i*w+k)/\(O=gL (sbit s) b.toNat w.toNat n.toNat)) y) (cu [.int .i64,.int .i64,.list (.int .u64)] (fun(k:Int) (b:Int) (O:List Int)=>((w:Int)-k).toNat)) (cu [.int .i64,.int .i64,.list (.int .u64)] (fun(k:Int) (b:Int) (O:List Int)=>([]:List (Nat×Nat×LA)))))]:List (Nat×Nat×LA)))))],?_⟩;repeat' (first
  |(
 with_reducible refine Side.mk ⟨(⟨⟩:Tag 4),?_⟩
 dsimp only[cu,aC,aB,gts,eE,eN]
 refine⟨?_,?_,?_⟩
 ·first
  |omega
  |(
  have hpb:=(fA n w).1 (by first|assumption|simp_all)
  have hne:=kE hpb
  omega)
 ·first
  |omega
  |rw[WN];omega
 ·first
  |exact(QT _ _ _).symm
  |(rw[hO]))
  |(
 with_reducible refine Side.mk ⟨(⟨⟩:Tag 5),?_⟩
 dsimp only[cu,aC,aB,gts,eE,eN]
 refine⟨?_,?_,?_⟩
 ·first
  |omega
  |(
  have hpb:=(fA n w).1 (by first|assumption|simp_all)
  have hne:=kE hpb
  omega)
 ·first
  |rw[ha];omega
  |omega
 ·first
  |exact hM
  |(
  have hpb:=(fA n w).1 (by first|assumption|simp_all)
  have hne:=kE hpb
  have hix:=xE (i:=i) (n:=n) (k:=k) (w:=w) (by omega) (by omega) (by omega)
  have hi0:0<=i*w:=Int.mul_nonneg (by omega) (by omega)
  rw[hO]
  obtain⟨q1,q2⟩:=qLC s (a:=b) (by omega)
  obtain⟨p1,p2⟩:=VP (i:=i) (k:=k) (w:=w) (by omega)
  rw[<-hb]at p1 p2
  refine qBP (xK _) (by omega) (by omega) (by omega) (by omega) p1 p2 ?_
  rw[q1]
  exact aY (by omega)))
  |(
 with_reducible apply Side.mk
 (try dsimp only[cu,aC,aB,gts,loK,hiK,eE,eN])
 first
 |omega
 |(
  have hpb:=(fA n w).1 (by first|assumption|simp_all)
  have hne:=kE hpb;omega)
 |simp only[hM,iW];done
 |(
  have hpb:=(fA n w).1 (by first|assumption|simp_all)
  have hne:=kE hpb;first
  |(
   have hix:=xE (i:=i) (n:=n) (k:=k) (w:=w) (by omega) (by omega) (by omega);have hi0:0<=i*w:=Int.mul_nonneg (by omega) (by omega);(try rw[Int.tdiv_eq_ediv_of_nonneg (by omega)]);(try rw[Int.tmod_eq_emod_of_nonneg (by omega)]);(try simp only[hO,iW]);omega)
  |(
   have hin:i=n:=by omega
   rw[hin]at ha;rw[Int.tdiv_eq_ediv_of_nonneg (by omega)];rw[Int.tmod_eq_emod_of_nonneg (by omega)]at *;omega)
  |(
   have hi0:0<=i*w:=Int.mul_nonneg (by omega) (by omega);rw[Int.tmod_eq_emod_of_nonneg (by omega)];omega)))
  |(conv=>whnf
    first
     |with_reducible first|done|exact trivial|refine NilBr.mk (fun h=>?_) ?_|apply aJ|apply aI|refine aK (by kernel_rfl) ?_|apply aL|apply bG|apply bF|apply aR
     |((with_reducible first|apply aT|apply aS|apply bD)<;>intro h<;>(try dsimp only[cu,eE,eN]at h)<;>(try(exfalso;omega)))
     |(
 intro yy (hy:Tag 4/\_)
 obtain⟨(i:Int),(a:Int),(M:List Int),_⟩:=yy
 replace hy:=hy.2
 dsimp only[cu,aC,aB,gts,eE,eN]at hy
 obtain⟨hi,ha,hM⟩:=hy)
     |(
 intro yy (hy:Tag 5/\_)
 obtain⟨(k:Int),(b:Int),(O:List Int),_⟩:=yy
 replace hy:=hy.2
 dsimp only[cu,aC,aB,gts,eE,eN]at hy
 obtain⟨hk,hb,hO⟩:=hy)))
 all_goals(
 with_reducible apply Leaf.mk
 (try dsimp only[cu,aC,aB,gts,eE,eN]at *)
 first
 |(
  have q:¬qA n w=true:=by simp_all;done
  rw[bK,if_pos q])
 |(
  have h1:¬¬qA n w=true:=by simp_all;done
  first
  |(
   have h2:(s.size:Int)<dP n w:=by omega
   rw[bK,if_neg h1,if_pos h2])
  |(
   have h2:¬(s.size:Int)<dP n w:=by omega
   have h3:(s.size:Int)>dP n w:=by omega
   rw[bK,if_neg h1,if_neg h2,if_pos h3]))
 |(
  have hpb:=(fA n w).1 (by first|assumption|simp_all)
  have hne:=kE hpb;have hin:i=n:=by omega
  rw[hin]at ha;obtain⟨t1,t2⟩:=OV s (a:=a) (by omega);have hsz:s.size=((n*w).toNat+7)/8:=by omega
  have ht:=WT hsz;rw[<-ha]at ht;have h1:¬¬qA n w=true:=by simp_all;done
  have h2:¬(s.size:Int)<dP n w:=by omega
  have h3:¬(s.size:Int)>dP n w:=by omega
  first
  |(
   have h4:iQ s (n*w).toNat=true:=by
    rw[<-ha];refine ht.2 ⟨fun q=>?_,fun q=>?_⟩
    ·exact absurd (t2.2 q) (by assumption)
    ·rw[<-t1]at q;exact absurd q (by assumption)
   rw[bK,if_neg h1,if_neg h2,if_neg h3,if_pos h4])
  |(
   have h4:¬iQ s (n*w).toNat=true:=by
    rw[<-ha];intro q;obtain⟨g1,g2⟩:=ht.1 q;rw[<-t1]at g2;simp_all
   rw[bK,if_neg h1,if_neg h2,if_neg h3,if_neg h4];(try rw[hM,ha]))))
abbrev tb8:Tbl:=(211,DE)::tb7
theorem qPQ:aD Tryz.prog tb8:=aD.cons qJ1 qPP
def wB:Nat->Int->List Int
 |0,v=>[v]
 |n+1,v=>if v<128 then[v]else(v%128+128)::wB n (v/128)
def put (v:Int):List Int:=wB 9 v
theorem VR:∀(n:Nat) (v:Int),(wB n v).length<=n+1/\1<=(wB n v).length
 |0,v=>by simp [wB]
 |n+1,v=>by
  unfold wB;split
  ·simp
  ·have:=VR n (v/128);simp;omega
theorem bM (v:Int):(put v).length<=10/\1<=(put v).length:=VR 9 v
theorem OC:∀(n:Nat) (v:Int),0<=v->v<128^(n+1)->∀m,n<=m->wB m v=wB n v
 |0,v,h0,h,m,_=>by
  have:v<128:=by simpa using h
  cases m with
  |zero=>rfl
  |succ m=>simp [wB,this]
 |n+1,v,h0,h,0,hm=>by omega
 |n+1,v,h0,h,m+1,hm=>by
  unfold wB;split
  ·rfl
  ·rw[OC n (v/128) (Int.ediv_nonneg h0 (by decide)) (by
     rw[Int.pow_succ]at h;exact Int.ediv_lt_of_lt_mul (by decide) h) m (by omega)]
theorem IU {v:Int} (h:0<=v/\v<18446744073709551616) (h1:¬v<128):put v=(v%128+128)::put (v/128):=by
 have e:put v=(v%128+128)::wB 8 (v/128):=by unfold put;rw[wB,if_neg h1]
 rw[e,put,OC 8 (v/128) (Int.ediv_nonneg h.1 (by decide)) (by
  have:(128:Int)^(8+1)=9223372036854775808:=by decide
  rw[this];omega) 9 (by omega)]
theorem zP {v:Int} (h1:v<128):put v= [v]:=by unfold put;rw[wB,if_pos h1]
theorem qN6 {v:Int} (h:0<=v/\v<18446744073709551616) (h1:¬v<128):put v=bOr .u8 (IntKind.u8.wrap v) 128::put (jC .u64 v 7):=by
 rw[IU h h1,qXP,pG,qY2 (by omega)];rw[show v%256%128=v%128 by omega]
theorem qI3 {v:Int} (h:0<=v) (h1:v<128):put v= [IntKind.u8.wrap v]:=by rw[zP h1,AJ (by omega)]
abbrev MB:Ct:=.fn [.int .u64] (some (fun(v0:Int)=>(0<=v0/\v0<18446744073709551616))) (fun(v0:Int)=>.d .str (aV (put v0)))
theorem qTB:aH Tryz.prog 40 MB:=by
 refine aH.fn qPQ mixed [] [] rfl rfl ?_;rintro⟨(v0:Int),_⟩ hpre;replace hpre:=hpre _ rfl;dsimp only[cu]at hpre;have hv0:=hpre;refine⟨[(0,4,LA.mk [.sl 0 (.int .u64),.sl 3 .str] (fun y=>Tag 6/\cu [.int .u64,.str] (fun(v:Int) (x:ByteArray)=>(0<=v/\v<18446744073709551616)/\(aV (put v0)=x++aV (put v))) y) (cu [.int .u64,.str] (fun(v:Int) (x:ByteArray)=>v.toNat)) (cu [.int .u64,.str] (fun(v:Int) (x:ByteArray)=>([]:List (Nat×Nat×LA)))))],?_⟩;repeat' (first
  |(
 with_reducible refine Side.mk ⟨(⟨⟩:Tag 6),?_⟩
 dsimp only[cu,aC,aB,gts,eE,eN]
 refine⟨?_,?_⟩
 ·first
  |omega
  |(
  have h7:=qXP v
  omega)
 ·first
  |rw[show(⟨#[]⟩:ByteArray)=ByteArray.empty from rfl,ByteArray.empty_append]
  |(rw[hb,qN6 hv (by omega),ByteArray.append_assoc,<-iZ];rfl))
  |(
 with_reducible apply Side.mk
 (try dsimp only[cu,aC,aB,gts,loK,hiK,eE,eN])
 first
 |omega
 |exact Eq.refl _
 |(
  have h7:=qXP v;omega)
 |(
  have hb2:=congrArg ByteArray.size hb;have:=bM v0;have:=bM v;simp only[ByteArray.size_append,cC,List.length_cons,List.length_nil]at hb2 ⊢;omega))
  |(conv=>whnf
    first
     |with_reducible first|done|exact trivial|refine NilBr.mk (fun h=>?_) ?_|apply aJ|apply aI|refine aK (by kernel_rfl) ?_|apply aL|apply bG|apply bF|apply aR
     |((with_reducible first|apply aT|apply aS|apply bD)<;>intro h<;>(try dsimp only[cu,eE,eN]at h)<;>(try(exfalso;omega)))
     |(
 intro yy (hy:Tag 6/\_)
 obtain⟨(v:Int),(x:ByteArray),_⟩:=yy
 replace hy:=hy.2
 dsimp only[cu,aC,aB,gts,eE,eN]at hy
 obtain⟨hv,hb⟩:=hy)))
 all_goals(
 with_reducible apply Leaf.mk
 (try dsimp only[cu,aC,aB,gts,eE,eN]at *)
 rw[hb,qI3 hv.1 (by omega)])
abbrev tb9:Tbl:=(40,MB)::tb8
theorem qPR:aD Tryz.prog tb9:=aD.cons qTB qPQ
def gv (v b k:Int):Int:=bOr .u64 v (oE .u64 (b%128) (7*k))
def jN (s:ByteArray) (at':Int):Nat->Int->Int->Int×Int×Int
 |0,_,_=>(0,0,8)
 |n+1,k,v=>if k>=s.size-at' then(0,0,10)else if k=9/\aG s (at'+k).toNat>1 then(0,0,8)
  else if aG s (at'+k).toNat>=128 then jN s at' n (k+1) (gv v (aG s (at'+k).toNat) k)
  else if aG s (at'+k).toNat=0/\k>0 then(0,0,2)else(gv v (aG s (at'+k).toNat) k,at'+k+1,0)
termination_by n _ _=>n
def aA (s:ByteArray) (at':Int):Int×Int×Int:=if at'<0\/at'>s.size then(0,0,4)else jN s at' 10 0 0
theorem xD {s:ByteArray} {a k v:Int} (h:0<=k/\k<10):jN s a (10-k).toNat k v=if k>=s.size-a then(0,0,10)else if k=9/\aG s (a+k).toNat>1 then(0,0,8)
  else if aG s (a+k).toNat>=128 then jN s a (10-(k+1)).toNat (k+1) (gv v (aG s (a+k).toNat) k)
  else if aG s (a+k).toNat=0/\k>0 then(0,0,2)else(gv v (aG s (a+k).toNat) k,a+k+1,0):=by
 rw[show(10-k).toNat=(10-(k+1)).toNat+1 by omega,jN]
theorem qCU (s:ByteArray) (v k:Int) (i:Nat):bOr .u64 v (oE .u64 (FP .u8 (aG s i) 128) (7*k))=gv v (aG s i) k:=by rw[qQK (cI s i)];rfl
theorem qQJ (s:ByteArray) (i:Nat):0<=rO .u8 (aG s i) 127/\rO .u8 (aG s i) 127<256:=lI _
theorem qK2 (s:ByteArray) (i:Nat):0<=FP .u8 (aG s i) 128/\FP .u8 (aG s i) 128<256:=lI _
abbrev SW:Ct:=.fn [.str,.int .i64] (some (fun(s:ByteArray) (a:Int)=>(s.size<=4611686018427387904))) (fun(s:ByteArray) (a:Int)=>.tup [.int .u64,.int .i64,.int .i64] ((aA s a).1,(aA s a).2.1,(aA s a).2.2,()))
theorem qWQ:aH Tryz.prog 126 SW:=by
 refine aH.fn qPR mixed [(0,11,3)] [] rfl rfl ?_;rintro⟨(s:ByteArray),(a:Int),_⟩ hpre;replace hpre:=hpre _ rfl;dsimp only[cu]at hpre;have hs:=hpre;refine⟨[(0,10,LA.mk [.sl 18 (.int .i64),.sl 7 (.int .u64)] (fun y=>Tag 7/\cu [.int .i64,.int .u64] (fun(k:Int) (v:Int)=>(0<=k/\k<=10)/\(aA s a=jN s a (10-k).toNat k v)) y) (cu [.int .i64,.int .u64] (fun(k:Int) (v:Int)=>(10-k).toNat)) (cu [.int .i64,.int .u64] (fun(k:Int) (v:Int)=>([]:List (Nat×Nat×LA)))))],?_⟩;repeat' (first
  |(
 with_reducible refine Side.mk ⟨(⟨⟩:Tag 7),?_⟩
 dsimp only[cu,aC,aB,gts,eE,eN]
 refine⟨?_,?_⟩
 ·omega
 ·first
  |(
  rw[aA,if_neg (by omega)]
  rfl)
  |(
  rw[hg,xD (k:=k) (v:=v) (by omega),qCU]
  rw[if_neg (by omega),if_neg (by omega),if_pos (by omega)]))
  |(
 with_reducible apply Side.mk
 (try dsimp only[cu,aC,aB,gts,loK,hiK,eE,eN])
 first
 |omega
 |(
  have:=qK2 s (a+k).toNat;have:=qQJ s (a+k).toNat;omega))
  |(conv=>whnf
    first
     |with_reducible first|done|exact trivial|refine NilBr.mk (fun h=>?_) ?_|apply aJ|apply aI|refine aK (by kernel_rfl) ?_|apply aL|apply bG|apply bF|apply aR
     |((with_reducible first|apply aT|apply aS|apply bD)<;>intro h<;>(try dsimp only[cu,eE,eN]at h)<;>(try(exfalso;omega)))
     |(
 intro yy (hy:Tag 7/\_)
 obtain⟨(k:Int),(v:Int),_⟩:=yy
 replace hy:=hy.2
 dsimp only[cu,aC,aB,gts,eE,eN]at hy
 obtain⟨hk,hg⟩:=hy)))
 all_goals(
 with_reducible apply Leaf.mk
 (try dsimp only[cu,aC,aB,gts,eE,eN]at *)
 first
 |rw[aA,if_pos (by omega)]
 |(
  simp only[hg,xD (k:=k) (v:=v) (show 0<=k/\k<10 by omega)];simp [*];done)
 |(
  simp only[hg,xD (k:=k) (v:=v) (show 0<=k/\k<10 by omega),qCU];grind)
 |(rw[hg,show(10-k).toNat=0 by omega,jN]))
abbrev qY6:Tbl:=(126,SW)::tb9
theorem qEH:aD Tryz.prog qY6:=aD.cons qWQ qPR
theorem aQ (s:ByteArray):(aE s).length=s.size:=by simp [aE]
theorem gJ (s:ByteArray) (k:Nat):(aE s)[k]! =aG s k:=by
 obtain⟨d⟩:=s;show(d.toList.map fun u=>(u.toNat:Int))[k]! =((d[k]!).toNat:Int)
 by_cases h:k<d.size
 ·rw[getElem!_pos _ k (by simpa using h),getElem!_pos d k h]
  simp
 ·rw[getElem!_neg _ k (by simpa using h),getElem!_neg d k h]
  rfl
theorem qX8 {a c:Int} (ha:0<=a/\a<18446744073709551616) (hc:0<=c/\c<18446744073709551616):bOr .u64 a c=((a.toNat ||| c.toNat:Nat):Int):=by
 have q:∀x:Int,0<=x/\x<18446744073709551616->(BitVec.ofInt IntKind.u64.bits x).toNat=x.toNat:=by
  intro x hx;rw[BitVec.toNat_ofInt];simp [IntKind.bits];omega
 unfold bOr;rw[BitVec.toNat_or,q a ha,q c hc];have:a.toNat ||| c.toNat<2^64:=Nat.or_lt_two_pow (by omega) (by omega);exact aY (by omega)
theorem qX7 {a c:Int} (ha:0<=a/\a<4294967296) (hc:0<=c/\c<4294967296):bOr .u32 a c=((a.toNat ||| c.toNat:Nat):Int):=by
 have q:∀x:Int,0<=x/\x<4294967296->(BitVec.ofInt IntKind.u32.bits x).toNat=x.toNat:=by
  intro x hx;rw[BitVec.toNat_ofInt];simp [IntKind.bits];omega
 unfold bOr;rw[BitVec.toNat_or,q a ha,q c hc];have:a.toNat ||| c.toNat<2^32:=Nat.or_lt_two_pow (by omega) (by omega);exact xM (by omega)
theorem qNV (a b n:Nat) (h:a<2^n):a ||| (b*2^n)=a+b*2^n:=by
 have:=Nat.shiftLeft_add_eq_or_of_lt h b;rw[Nat.shiftLeft_eq]at this;rw[Nat.or_comm,<-this];omega
theorem qY4 {b:Int} {n:Nat} (hn:n<=64) (h:0<=b*2^n/\b*2^n<18446744073709551616):oE .u64 b n=b*2^n:=by
 unfold oE;rw[show min ((n:Int)).toNat IntKind.u64.bits=n by simp [IntKind.bits];omega];exact aY h
theorem qY3 {b:Int} {n:Nat} (hn:n<=32) (h:0<=b*2^n/\b*2^n<4294967296):oE .u32 b n=b*2^n:=by
 unfold oE;rw[show min ((n:Int)).toNat IntKind.u32.bits=n by simp [IntKind.bits];omega];exact xM h
theorem qNW {a b:Int} {n:Nat} (hn:n<=64) (ha:0<=a/\a<2^n) (hb:0<=b) (h:a+b*2^n<18446744073709551616):bOr .u64 a (oE .u64 b n)=a+b*2^n:=by
 have h0:0<=b*2^n:=Int.mul_nonneg hb (Int.le_of_lt (Int.pow_pos (by decide)));rw[qY4 hn ⟨h0,by omega⟩,qX8 (by omega) (by omega)];have e:(b*2^n).toNat=b.toNat*2^n:=by
  obtain⟨m,rfl⟩:=Int.eq_ofNat_of_zero_le hb;have:((m:Int)*2^n)=((m*2^n:Nat):Int):=by push_cast;rfl
  rw[this];rfl
 have ha':a.toNat<2^n:=by
  have:((2^n:Nat):Int)=2^n:=by push_cast;rfl
  omega
 rw[e,qNV _ _ _ ha'];have:((b.toNat*2^n:Nat):Int)=b*2^n:=by push_cast;rw[Int.toNat_of_nonneg hb]
 omega
theorem qA5 (k:Nat):(2:Int)^(7*k)=128^k:=by
 rw[Int.pow_mul];rfl
theorem qCV {v b:Int} {k:Nat} (hk:k<=9) (hv:0<=v/\v<128^k) (h:v+b%128*128^k<18446744073709551616):gv v b k=v+b%128*128^k:=by
 have:=qNW (a:=v) (b:=b%128) (n:=7*k) (by omega) (by rw[qA5];exact hv) (by omega) (by rw[qA5];exact h);rw[qA5]at this;unfold gv;rw[show(7*(k:Int))=((7*k:Nat):Int)by push_cast;rfl];exact this
theorem sJ {s:ByteArray} {b:Int} (h:b∈aE s):0<=b/\b<256:=by
 unfold aE at h;obtain⟨u,_,rfl⟩:=List.mem_map.1 h;have:=u.toNat_lt;omega
theorem BI {s:ByteArray} {i:Nat} (h:i<s.size):(aE s).drop i=aG s i::(aE s).drop (i+1):=by
 have:=bN (aE s) (i:Int) (by rw[aQ];omega);rw[gJ]at this;simpa using this
theorem IP (k:Nat):(0:Int)<128^k:=Int.pow_pos (by decide)
theorem vM (k:Nat):(128:Int)^(k+1)=128^k*128:=Int.pow_succ _ _
theorem NY {k:Nat} (h:k<=8):(128:Int)^k<=72057594037927936:=by
 have h1:k=0\/k=1\/k=2\/k=3\/k=4\/k=5\/k=6\/k=7\/k=8:=by omega
 rcases h1 with rfl|rfl|rfl|rfl|rfl|rfl|rfl|rfl|rfl<;>decide
theorem DQ (s:ByteArray) (a:Nat):∀(n k:Nat) (v x e:Int),n+k=10->0<=v->v<128^k->jN s a n k v=(x,e,0) ->
  ∃u,0<=u/\x=v+u*128^k/\x<18446744073709551616/\e=a+k+(put u).length/\e<=s.size/\(aE s).drop (a+k)=put u++(aE s).drop e.toNat/\(0<k->0<u)
 |0,k,v,x,e,_,_,_,h=>by simp [jN]at h
 |n+1,k,v,x,e,hk,h0,h1,h=>by
  rw[jN]at h;have hp:=IP k;split at h
  ·simp at h
  ·rename_i h2
   have hi:a+k<s.size:=by omega
   rw[show((a:Int)+(k:Int)).toNat=a+k by omega]at h;have hb:=cI s (a+k);have hd:=BI hi;generalize hbb:aG s (a+k)=b at h hb hd;split at h
   ·simp at h
   ·rename_i h3
    split at h
    ·rename_i h4
     have hk8:k<=8:=by omega
     have hm:b%128*128^k<=127*128^k:=Int.mul_le_mul_of_nonneg_right (by omega) (Int.le_of_lt hp);have hpm:=NY hk8;have hg:=qCV (v:=v) (b:=b) (k:=k) (by omega) ⟨h0,h1⟩ (by omega);have hg0:0<=b%128*128^k:=Int.mul_nonneg (by omega) (Int.le_of_lt hp);rw[hg,show((k:Int)+1)=((k+1:Nat):Int)by push_cast;rfl]at h;obtain⟨u,u0,u1,u2,u3,u4,u5,u6⟩:=DQ s a n (k+1) _ x e (by omega) (by omega) (by rw[vM];omega) h;have up:=u6 (by omega);have e1:(b%128+128*u)*128^k=b%128*128^k+u*128^(k+1):=by rw[vM,Int.add_mul,Int.mul_comm 128 u,Int.mul_assoc,Int.mul_comm 128]
     have hle:b%128+128*u<=(b%128+128*u)*128^k:=by
      have:=Int.mul_le_mul_of_nonneg_left (show(1:Int)<=128^k by omega) (show 0<=b%128+128*u by omega);omega
     have hput:put (b%128+128*u)=b::put u:=by
      rw[IU (by omega) (by omega),show(b%128+128*u)/128=u by omega,show(b%128+128*u)%128+128=b by omega]
     refine⟨b%128+128*u,by omega,by omega,u2,?_,u4,?_,fun _=>by omega⟩
     ·rw[hput];simp;omega
     ·rw[hput,hd,show a+k+1=a+(k+1)by omega,u5];rfl
    ·rename_i h4
     split at h
     ·simp at h
     ·rename_i h5
      have hm:b%128=b:=by omega
      have hbp:v+b%128*128^k<18446744073709551616:=by
       rcases Nat.lt_or_ge k 9 with hk9|hk9
       ·have hpm:=NY (show k<=8 by omega)
        have:b%128*128^k<=127*128^k:=Int.mul_le_mul_of_nonneg_right (by omega) (Int.le_of_lt hp);omega
       ·have h9:k=9:=by omega
        subst h9;have:(128:Int)^9=9223372036854775808:=by decide
        rw[this]at h1 ⊢;omega
      have hg:=qCV (v:=v) (b:=b) (k:=k) (by omega) ⟨h0,h1⟩ hbp;injection h with q1 q2;injection q2 with q2 q3;refine⟨b,hb.1,by rw[<-q1,hg,hm],by rw[<-q1,hg];exact hbp,by rw[zP (by omega),<-q2];simp,by omega,?_,fun hk0=>by omega⟩;rw[zP (by omega),hd,<-q2,show((a:Int)+(k:Int)+1).toNat=a+k+1 by omega];rfl
theorem tT (s:ByteArray) (a:Nat):∀(n k:Nat) (v u:Int) (r:List Int),n+k=10->0<=v->v<128^k->0<=u->v+u*128^k<18446744073709551616->(0<k->0<u)->(aE s).drop (a+k)=put u++r ->
  jN s a n k v=(v+u*128^k,(a:Int)+k+(put u).length,0)
 |0,k,v,u,r,hk,h0,h1,u0,u1,u2,hd=>by
  exfalso;have h9:k=10:=by omega
  subst h9;have:(128:Int)^10=1180591620717411303424:=by decide
  rw[this]at u1;omega
 |n+1,k,v,u,r,hk,h0,h1,u0,u1,u2,hd=>by
  have hp:=IP k;have hl:a+k<s.size:=by
   rcases Nat.lt_or_ge (a+k) s.size with q|q
   ·exact q
   ·rw[List.drop_eq_nil_of_le (by rw[aQ];exact q)]at hd
    have:=congrArg List.length hd;have:=bM u;simp at *;omega
  have hdb:=BI hl;have hb:=cI s (a+k);have hu9:k=9->u<=1:=by
   rintro rfl;have:(128:Int)^9=9223372036854775808:=by decide
   rw[this]at u1;omega
  rw[jN,if_neg (by omega),show((a:Int)+(k:Int)).toNat=a+k by omega];by_cases hu:u<128
  ·rw[zP hu]at hd ⊢
   have hbu:aG s (a+k)=u:=by
    rw[hdb]at hd;injection hd
   rw[hbu,if_neg (by omega),if_neg (by omega),if_neg (by omega)];have hg:=qCV (v:=v) (b:=u) (k:=k) (by omega) ⟨h0,h1⟩ (by rw[show u%128=u by omega];exact u1);rw[hg,show u%128=u by omega];simp
  ·have hle:u<=u*128^k:=by
     have:=Int.mul_le_mul_of_nonneg_left (show(1:Int)<=128^k by omega) u0;omega
   rw[IU (by omega) hu]at hd ⊢;have hbu:aG s (a+k)=u%128+128/\(aE s).drop (a+k+1)=put (u/128)++r:=by
    rw[hdb]at hd;injection hd with q1 q2;exact⟨q1,q2⟩
   have e1:u*128^k=u%128*128^k+(u/128)*128^(k+1):=by
    rw[vM,Int.mul_comm (128^k) 128,<-Int.mul_assoc,<-Int.add_mul];congr 1;omega
   have hm0:0<=(u/128)*128^(k+1):=Int.mul_nonneg (by omega) (Int.le_of_lt (IP _));have hm1:u%128*128^k<=127*128^k:=Int.mul_le_mul_of_nonneg_right (by omega) (Int.le_of_lt hp);have hm2:0<=u%128*128^k:=Int.mul_nonneg (by omega) (Int.le_of_lt hp);have hg:=qCV (v:=v) (b:=u%128+128) (k:=k) (by omega) ⟨h0,h1⟩ (by rw[show(u%128+128)%128=u%128 by omega];omega);rw[hbu.1,if_neg (by omega),if_pos (by omega),hg,show(u%128+128)%128=u%128 by omega,show((k:Int)+1)=((k+1:Nat):Int)by push_cast;rfl];rw[tT s a n (k+1) _ (u/128) r (by omega) (by omega) (by rw[vM];omega) (by omega) (by omega) (fun _=>by omega) (by rw[<-Nat.add_assoc];exact hbu.2)];simp only[Prod.mk.injEq,List.length_cons];refine⟨by omega,by push_cast;omega,trivial⟩
theorem qAF {s:ByteArray} {a v e:Int} (h:aA s a=(v,e,0)):0<=a/\a<=s.size/\0<=v/\v<18446744073709551616/\e=a+(put v).length/\e<=s.size/\(aE s).drop a.toNat=put v++(aE s).drop e.toNat:=by
 unfold aA at h;split at h
 ·simp at h
 ·rename_i hr
  obtain⟨m,rfl⟩:=Int.eq_ofNat_of_zero_le (show 0<=a by omega);obtain⟨u,u0,u1,u2,u3,u4,u5,_⟩:=DQ s m 10 0 0 v e rfl (by decide) (by decide) h;have hu:v=u:=by rw[u1];simp
  subst hu;refine⟨by omega,by omega,u0,u2,?_,u4,?_⟩
  ·simpa using u3
  ·simpa using u5
theorem mM {s:ByteArray} {a:Nat} {u:Int} {r:List Int} (h:0<=u/\u<18446744073709551616) (hd:(aE s).drop a=put u++r):aA s a=(u,(a:Int)+(put u).length,0):=by
 have hl:a<=s.size:=by
  rcases Nat.lt_or_ge s.size a with q|q
  ·rw[List.drop_eq_nil_of_le (by rw[aQ];omega)]at hd
   have:=congrArg List.length hd;have:=bM u;simp at *;omega
  ·exact q
 unfold aA;rw[if_neg (by omega)];have:=tT s a 10 0 0 u r rfl (by decide) (by decide) h.1 (by simpa using h.2) (by omega) (by simpa using hd);simpa using this
theorem aX (a b:ByteArray):aE (a++b)=aE a++aE b:=by
 unfold aE;simp
theorem aU {l:List Int} (h:∀b,b∈l->0<=b/\b<256):aE (aV l)=l:=by
 unfold aE aV;simp only[List.map_map];conv=>rhs;rw[<-List.map_id l]
 refine List.map_congr_left fun b hb=>?_
 have:=h b hb;show((UInt8.ofNat b.toNat).toNat:Int)=b;have hb':b.toNat<256:=by omega
 rw[UInt8.toNat_ofNat_of_lt' hb'];omega
theorem fG {a b:ByteArray} (h:aE a=aE b):a=b:=by
 apply ByteArray.ext;apply Array.ext';unfold aE at h;refine List.map_inj_right (f:=fun u:UInt8=>(u.toNat:Int)) (fun x y hxy=>?_) |>.1 h;exact UInt8.toNat_inj.1 (Int.ofNat.inj hxy)
theorem VT:∀(n:Nat) (v:Int),0<=v->v<128^(n+1)->∀b,b∈wB n v->0<=b/\b<256
 |0,v,h0,h,b,hb=>by
  simp [wB]at hb;have:v<128:=by simpa using h
  rw[hb];omega
 |n+1,v,h0,h,b,hb=>by
  unfold wB at hb;split at hb
  ·simp at hb;omega
  ·rcases List.mem_cons.1 hb with q|q
   ·omega
   ·exact VT n (v/128) (Int.ediv_nonneg h0 (by decide)) (by
      rw[Int.pow_succ]at h;exact Int.ediv_lt_of_lt_mul (by decide) h) b q
theorem eI {v:Int} (h:0<=v/\v<18446744073709551616):∀b,b∈put v->0<=b/\b<256:=
 VT 9 v h.1 (by have:(128:Int)^(9+1)=1180591620717411303424:=by decide
                rw[this];omega)
theorem bB (s:ByteArray) (a:Int):0<=(aA s a).1/\(aA s a).1<18446744073709551616:=by
 have go:∀(n:Nat) (k v:Int),0<=v/\v<18446744073709551616->0<=(jN s a n k v).1/\(jN s a n k v).1<18446744073709551616:=by
  intro n;induction n with
  |zero=>intro k v h;simp [jN]
  |succ n ih=>
   intro k v h;rw[jN];repeat' split
   ·simp
   ·simp
   ·exact ih _ _ (nB _)
   ·simp
   ·exact nB _
 unfold aA;split
 ·simp
 ·exact go _ _ _ (by decide)
end Go.Proofs.YtcjiefknhfhmkaaGreatDoor
namespace Go.Abs
set_option maxRecDepth 100000
set_option maxHeartbeats 4000000
set_option linter.unusedVariables false
set_option linter.unusedSimpArgs false
theorem FB (a b:ByteArray):dY a b=true↔a.data.toList<b.data.toList:=by
 unfold dY;rw[Proofs.bytesLess_eq,Lib.toList_data,Lib.toList_data];simp
theorem pA (a:ByteArray):¬dY a a=true:=by rw[FB];exact List.lt_irrefl _
theorem vS {a b c:ByteArray} (h1:dY a b=true) (h2:dY b c=true):dY a c=true:=by
 rw[FB]at *;exact List.lt_trans h1 h2
theorem qL2 {a b:ByteArray} (h:a.data.toList=b.data.toList):a=b:=by
 cases a;cases b;simp at h;rw[h]
theorem qR9 (a b:List UInt8):a<b\/a=b\/b<a:=by
 rcases List.le_total a b with h|h
 ·by_cases q:a<b
  ·exact .inl q
  ·exact .inr (.inl (List.le_antisymm h (List.not_lt.1 q)))
 ·by_cases q:b<a
  ·exact .inr (.inr q)
  ·exact .inr (.inl (List.le_antisymm (List.not_lt.1 q) h))
theorem qD1 (a b:ByteArray):dY a b=true\/a=b\/dY b a=true:=by
 rw[FB,FB];rcases qR9 a.data.toList b.data.toList with h|h|h
 ·exact .inl h
 ·exact .inr (.inl (qL2 h))
 ·exact .inr (.inr h)
theorem WJ {a b:ByteArray} (h1:dY a b=true):¬dY b a=true:=fun h2=>pA a (vS h1 h2)
def xS (l:List ByteArray):Prop:=l.Pairwise fun a b=>dY a b=true
def plS (l:List ByteArray) (s:ByteArray):Nat:=(l.takeWhile fun w=>dY w s).length
theorem IT (l:List ByteArray) (s:ByteArray):plS l s<=l.length:=by
 unfold plS;induction l with
 |nil=>simp
 |cons x l ih=>rw[List.takeWhile_cons];split<;>simp;omega
theorem qA3:∀ {l:List ByteArray} {s:ByteArray} {t:Nat},t<plS l s->dY l[t]! s=true
 | [],s,t,h=>by simp [plS]at h
 |x::l,s,t,h=>by
  unfold plS at h;rw[List.takeWhile_cons]at h;split at h
  ·rename_i q
   cases t with
   |zero=>exact q
   |succ t=>exact qA3 (l:=l) (t:=t) (by unfold plS;simpa using h)
  ·simp at h
theorem RL:∀ {l:List ByteArray} {s:ByteArray},plS l s<l.length->¬dY l[plS l s]! s=true
 | [],s,h=>by simp at h
 |x::l,s,h=>by
  unfold plS at h ⊢;rw[List.takeWhile_cons]at h ⊢;split
  ·rename_i q
   rw[if_pos q]at h;exact RL (l:=l) (by unfold plS;simpa using h)
  ·rename_i q
   exact q
theorem xJ {l:List ByteArray} {s:ByteArray} {k:Nat} (h1:∀t,t<k->dY l[t]! s=true) (h0:k<=l.length) (h2:k=l.length\/¬dY l[k]! s=true):plS l s=k:=by
 rcases Nat.lt_trichotomy (plS l s) k with q|q|q
 ·exact absurd (h1 _ q) (RL (by omega))
 ·exact q
 ·rcases h2 with p|p
  ·have:=IT l s;omega
  ·exact absurd (qA3 q) p
theorem SM {l:List ByteArray} (h:xS l) {i j:Nat} (hij:i<j) (hj:j<l.length):dY l[i]! l[j]! =true:=by
 rw[getElem!_pos l i (by omega),getElem!_pos l j hj];exact(List.pairwise_iff_getElem.1 h) i j (by omega) hj hij
theorem qXB {l:List ByteArray} (h:xS l) {s:ByteArray} {t:Nat} (h1:plS l s<=t) (h2:t<l.length):¬dY l[t]! s=true:=by
 intro q;rcases Nat.eq_or_lt_of_le h1 with p|p
 ·subst p;exact RL h2 q
 ·exact RL (by omega) (vS (SM h p h2) q)
theorem RM {l:List ByteArray} (h:xS l) {i:Nat} (hi:i<l.length):plS l l[i]! =i:=
 xJ (fun t ht=>SM h ht hi) (by omega) (.inr (pA _))
theorem qDP {l:List ByteArray} (h:xS l) {s:ByteArray} (hs:s∈l):plS l s<l.length/\l[plS l s]! =s:=by
 obtain⟨i,hi,rfl⟩:=List.mem_iff_getElem.1 hs;have e:l[i]=l[i]!:=(getElem!_pos l i hi).symm;rw[e,RM h hi];exact⟨hi,rfl⟩
def kU (l:List ByteArray) (s:ByteArray):List ByteArray:=if plS l s=l.length\/l[plS l s]! ≠s then l.take (plS l s)++ [s]++l.drop (plS l s)else l
theorem qM4 {l:List ByteArray} (h:xS l) (s v:ByteArray):v∈kU l s↔v=s\/v∈l:=by
 unfold kU;split
 ·have e:v∈l↔v∈l.take (plS l s)\/v∈l.drop (plS l s):=by
    conv=>lhs;rw[<-List.take_append_drop (plS l s) l]
    exact List.mem_append
  rw[List.mem_append,List.mem_append,List.mem_singleton,e];grind
 ·rename_i q
  have hlt:plS l s<l.length:=by have:=IT l s;omega
  have hs:s∈l:=by
   have p:l[plS l s]! =s:=Decidable.not_not.1 fun p=>q (.inr p)
   rw[<-p,getElem!_pos l _ hlt];exact List.getElem_mem hlt
  constructor
  ·exact fun h=>.inr h
  ·rintro(rfl|h)
   ·exact hs
   ·exact h
theorem qM3 {l:List ByteArray} (h:xS l) (s:ByteArray):xS (kU l s):=by
 unfold kU;split
 ·rename_i q
  unfold xS;rw[List.append_assoc,List.pairwise_append];have ht:∀a,a∈l.take (plS l s)->dY a s=true:=fun a ha=>by
   obtain⟨i,hi,rfl⟩:=List.mem_iff_getElem.1 ha;have hi2:i<plS l s/\i<l.length:=by simp at hi;omega
   have:=qA3 (l:=l) (s:=s) (t:=i) hi2.1;rw[getElem!_pos l i hi2.2]at this;rw[List.getElem_take];exact this
  have hd:∀b,b∈l.drop (plS l s)->dY s b=true:=fun b hb=>by
   obtain⟨i,hi,rfl⟩:=List.mem_iff_getElem.1 hb;have hi2:plS l s+i<l.length:=by simp at hi;omega
   have h1:=qXB h (s:=s) (t:=plS l s+i) (by omega) hi2;rw[List.getElem_drop,<-getElem!_pos l _ hi2];rcases qD1 l[plS l s+i]! s with p|p|p
   ·exact absurd p h1
   ·exfalso
    have e:=RM h hi2;rw[p]at e;have hi0:i=0:=by omega
    subst hi0;rcases q with q|q
    ·omega
    ·exact q p
   ·exact p
  refine⟨List.Pairwise.sublist (List.take_sublist _ _) h,?_,?_⟩
  ·rw[List.singleton_append,List.pairwise_cons]
   exact⟨hd,List.Pairwise.sublist (List.drop_sublist _ _) h⟩
  ·intro a ha b hb
   rw[List.singleton_append,List.mem_cons]at hb;rcases hb with rfl|hb
   ·exact ht a ha
   ·exact vS (ht a ha) (hd b hb)
 ·exact h
theorem ID (l:List ByteArray) (s:ByteArray):(kU l s).length<=l.length+1:=by
 unfold kU;split
 ·simp only[List.length_append,List.length_take,List.length_drop,List.length_singleton];omega
 ·omega
def bJ (l:List ByteArray):List ByteArray:=l.foldl kU []
theorem EU:∀(l a:List ByteArray),xS a->xS (l.foldl kU a)/\(∀v,v∈l.foldl kU a↔v∈a\/v∈l)/\(l.foldl kU a).length<=a.length+l.length
 | [],a,h=>⟨h,fun v=>by simp,by simp⟩
 |x::l,a,h=>by
  obtain⟨h1,h2,h3⟩:=EU l (kU a x) (qM3 h x);have:=ID a x;refine⟨h1,fun v=>?_,by rw[List.foldl_cons,List.length_cons];omega⟩;rw[List.foldl_cons,h2 v,qM4 h,List.mem_cons];grind
theorem sM (l:List ByteArray):xS (bJ l):=(EU l [] List.Pairwise.nil).1
theorem kN (l:List ByteArray) (v:ByteArray):v∈bJ l↔v∈l:=by
 have:=(EU l [] List.Pairwise.nil).2.1 v;unfold bJ;simpa using this
theorem iD (l:List ByteArray):(bJ l).length<=l.length:=by
 have:=(EU l [] List.Pairwise.nil).2.2;unfold bJ;simpa using this
def dF (l:List ByteArray):List Int:=l.map fun s=>(plS (bJ l) s:Int)
theorem kI (l:List ByteArray):(dF l).length=l.length:=by simp [dF]
end Go.Abs
