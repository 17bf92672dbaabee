import Derived.Calls
import Derived.Orders
import Derived.WalkKit
open List renaming getElem?_eq_getElem -> ga, getElem?_eq_none -> gb, getElem?_append_right -> gi, getElem?_append_left -> gj, getElem_mem -> gk, getElem?_set_ne -> gl, length_cons -> gp, all_eq_true -> gr, getElem?_drop -> gw, getElem?_map -> gx, replicate -> gy, mem_of_mem_take -> gz, eq_of_mem_replicate -> kb, getElem?_take -> kd, getElem?_cons_succ -> ke, append_assoc -> kf, mem_of_mem_drop -> ki, getElem_of_mem -> km, getElem?_take_of_lt -> ko, getElem?_cons_zero -> kp, getElem?_toArray -> ky
open Array renaming getElem?_eq_getElem -> gc, getElem?_eq_none -> gm, getElem?_toList -> go, getElem?_append_left -> hg, getElem?_setIfInBounds_ne -> kg, getElem?_setIfInBounds -> kj, size_append -> kn, getElem?_modify -> kx, getElem?_map -> ua, empty_append -> ub
open Nat renaming add_mul -> ge, zero_mod -> gf, lt_or_ge -> gg, mul_le_mul_right -> gh, lt_of_lt_of_le -> gn, le_refl -> gt, one_mul -> gu, mul_comm -> ht, add_assoc -> ka, mod_eq_of_lt -> kh, min_eq_left -> kk, add_comm -> kq, add_zero -> ks, not_lt_zero -> kt, mul_add_mod -> ku, div_add_mod -> kv, eq_of_beq_eq_true -> kw, eq_zero_or_pos -> kz
open Classical renaming axiomOfChoice -> gq
open Option renaming map_some -> ud
open ByteArray renaming ext -> uj
namespace Go.Abs
set_option maxRecDepth 100000
set_option maxHeartbeats 4000000
set_option linter.unusedVariables false
set_option linter.unusedSimpArgs false
theorem om{p:Prop}(h:p:=by omega):p:=h
theorem dc{p:Prop}(h:p:=by decide):p:=h
theorem sm{p:Prop}(h:p:=by simp):p:=h
theorem av{p:Prop}(h:p:=by assumption):p:=h
theorem wa{p:Prop}(h:p:=by with_reducible assumption):p:=h
inductive Ty where
 |int (k:IntKind)
 |bool
 |str
 |list (t:Ty)
 |pair (a b:Ty)
 deriving DecidableEq,Inhabited
@[reducible] def Ty.den:Ty->Type
  | .int _=>Int
  | .bool=>Bool
  | .str=>ByteArray
  | .list t=>List t.den
  | .pair a b=>a.den×b.den
def Ty.size:Ty->Nat
 | .pair a b=>a.size+b.size
 |_=>1
inductive V where
 |v (x:Value)
 |any
 |pF (row:List V) (off:Nat)
 |pO (id row off:Nat)
 |sF (sz:Nat) (rows:List (List V))
 |sO (id off len:Nat)
 |agg (xs:List V)
 |tup (xs:List V)
 |fn (f:Fn) (first caps:List V)
 |ifc (t:TypeId) (x:V)
 |sL (t:Ty) (l:List t.den)
 |oL (id n:Nat)
 deriving Inhabited
def Ty.cells:(t:Ty)->t.den->List V->List V
 | .int k,n,r=>.v (.int k n)::r
 | .bool,b,r=>.v (.bool b)::r
 | .str,s,r=>.v (.string s)::r
 | .list t,l,r=>.sL t l::r
 | .pair a b,x,r=>a.cells x.1 (b.cells x.2 r)
abbrev Ty.row (t:Ty) (x:t.den):List V:=t.cells x []
theorem Ty.cells_len:∀(t:Ty) (x:t.den) (r:List V),(t.cells x r).length=t.size+r.length
 | .int _,_,_=>kq _ _
 | .bool,_,_=>kq _ _
 | .str,_,_=>kq _ _
 | .list _,_,_=>kq _ _
 | .pair a b,x,r=>by rw[Ty.cells,a.cells_len,b.cells_len,Ty.size,ka]
def V.nf:V->V
 | .sL t l=>.sF t.size (l.map t.row)
 | .oL id n=>if n=0 then .v (.slice none 0 0)else .sO id 0 n
 |x=>x
structure El where
 t:TypeId
 fz:Nat
 deriving DecidableEq,Inhabited
instance:Coe TypeId El:=⟨fun t=>⟨t,0⟩⟩
instance (n:Nat):OfNat El n:=⟨⟨n,0⟩⟩
def El.is (e:El) (t:TypeId):Bool:=Nat.beq e.t t&&Nat.beq e.fz 0
theorem El.is_eq {e:El} {t:TypeId} (h:e.is t=true):e=⟨t,0⟩:=by
 obtain⟨a,b⟩:=e;obtain⟨h1,h2⟩:=Bool.and_eq_true_iff.1 h;have h1:a=t:=kw h1;have h2:b=0:=kw h2;rw[h1,h2]
structure AObj where
 sz:Nat
 rows:List (List V)
 elem:El
 deriving Inhabited
inductive HS where
 |free
 |dead
 |live (o:AObj)
 deriving Inhabited
abbrev Heap:=List HS
structure Loc where
 blk:Nat
 base:Nat
 sz:Nat
 al:base%sz=0
structure Iota where
 at':Nat->Option Loc
 X:Nat->Prop
instance:CoeFun Iota (fun _=>Nat->Option Loc):=⟨Iota.at'⟩
def Ob (h:Heap) (ι:Iota) (b:Nat):Prop:=∃id o l,h[id]? =some (.live o)/\ι id=some l/\l.blk=b
def Mt (h:Heap) (ι:Iota) (b:Nat):Prop:=ι.X b\/Ob h ι b
def ofValue:Value->V
 | .agg cs=>.agg (cs.toList.map .v)
 | .tuple vs=>.tup (vs.toList.map .v)
 |x=>.v x
def norm:V->V
 | .v x=>ofValue x
 |y=>y
inductive Rep (w:World) (ι:Iota) (M:Nat->Prop):V->Value->Prop
 |v (x:Value):Rep w ι M (.v x) x
 |any (x:Value):Rep w ι M .any x
 |pF (row:List V) (off b o:Nat) (cells:Nat->Value):b<w.heap.size->¬M b ->
    (∀j,(h:j<row.length)->w.cell? ⟨b,o+j,none⟩=some (cells j)) ->
    (∀j,(h:j<row.length)->Rep w ι M row[j] (cells j)) ->
    Rep w ι M (.pF row off) (.pointer (some ⟨b,o+off,none⟩))
 |pO (id row off:Nat) (l:Loc):ι id=some l->Rep w ι M (.pO id row off) (.pointer (some ⟨l.blk,l.base+row*l.sz+off,none⟩))
 |sF (sz:Nat) (rows:List (List V)) (a:Addr) (cap:Nat) (cells:Nat->Nat->Value) :
    (rows≠ []->a.spot=none/\a.block<w.heap.size/\¬M a.block)->rows.length<=cap->(∀r,r∈rows->r.length=sz) ->
    (∀i,(h:i<rows.length)->∀j,(h':j<rows[i].length)->w.cell? ⟨a.block,a.off+i*sz+j,none⟩=some (cells i j)) ->
    (∀i,(h:i<rows.length)->∀j,(h':j<rows[i].length)->Rep w ι M rows[i][j] (cells i j)) ->
    Rep w ι M (.sF sz rows) (.slice (some a) rows.length cap)
 |sN (sz:Nat):Rep w ι M (.sF sz []) (.slice none 0 0)
 |sO (id off len cap:Nat) (l:Loc) (c:Array Value) (e:TypeId) (fr:Nat×Nat):ι id=some l->len<=cap ->
    w.heap[l.blk]? =some (.cells c e fr)->l.base+(off+cap)*l.sz<=c.size ->
    Rep w ι M (.sO id off len) (.slice (some ⟨l.blk,l.base+off*l.sz,none⟩) len cap)
 |agg (xs:List V) (vs:Array Value):xs.length=vs.size->(∀i,(h:i<xs.length)->(h':i<vs.size)->Rep w ι M xs[i] vs[i])->Rep w ι M (.agg xs) (.agg vs)
 |tup (xs:List V) (vs:Array Value):xs.length=vs.size->(∀i,(h:i<xs.length)->(h':i<vs.size)->Rep w ι M xs[i] vs[i])->Rep w ι M (.tup xs) (.tuple vs)
 |fn (f:Fn) (first caps:List V) (vs us:Array Value):first.length=vs.size->caps.length=us.size ->
    (∀i,(h:i<first.length)->(h':i<vs.size)->Rep w ι M first[i] vs[i]) ->
    (∀i,(h:i<caps.length)->(h':i<us.size)->Rep w ι M caps[i] us[i])->Rep w ι M (.fn f first caps) (.func f vs us)
 |ifc (t:TypeId) (x:V) (y:Value):Rep w ι M x y->Rep w ι M (.ifc t x) (.iface t y)
 |sL (t:Ty) (l:List t.den) (y:Value):Rep w ι M (.sF t.size (l.map t.row)) y->Rep w ι M (.sL t l) y
 |oL (id n:Nat) (y:Value):Rep w ι M (if n=0 then .v (.slice none 0 0)else .sO id 0 n) y->Rep w ι M (.oL id n) y
structure Unfr (z base sz n:Nat) (fr:Nat×Nat):Prop where
 at':∀k,k<n->fr.1<=k->k<fr.2->base<=k/\k+1<base+z
 last:sz≠1->¬(fr.1<=n/\n<fr.2)
 clean:0<z->fr.1<=fr.2/\∀k,fr.1<=k->k<fr.2->base<=k/\k+1<base+z
theorem Unfr.zero {z base:Nat} (sz n:Nat):Unfr z base sz n (0,0):=⟨fun k _ _ q=>(kt _ q).elim,fun _ q=>kt _ q.2,fun _=>⟨gt _,fun k _ q=>(kt _ q).elim⟩⟩
theorem Unfr.move {z base base' sz n:Nat} {fr:Nat×Nat} (h:Unfr z base sz n fr) (hz:z<=1):Unfr z base' sz n fr:=
 ⟨fun k h1 h2 h3=>absurd (h.at' k h1 h2 h3) om,h.last,fun q=>⟨(h.clean q).1,fun k h1 h2=>absurd ((h.clean q).2 k h1 h2) om⟩⟩
theorem Unfr.drop {z base sz n:Nat} {fr:Nat×Nat} (h:Unfr z base sz n fr) (hz:z<=1):Unfr 0 base sz n fr:=
 ⟨fun k h1 h2 h3=>absurd (h.at' k h1 h2 h3) om,h.last,fun q=>absurd q (Nat.lt_irrefl 0)⟩
structure LiveAt (w:World) (ι:Iota) (M:Nat->Prop) (o:AObj) (l:Loc) (c:Array Value) (fr:Nat×Nat):Prop where
 blk:w.heap[l.blk]? =some (.cells c o.elem.t fr)
 unfrozen:Unfr o.elem.fz l.base o.sz c.size fr
 sz:l.sz=o.sz
 rows:∀r,r∈o.rows->r.length=o.sz
 fits:l.base+o.rows.length*o.sz<=c.size
 reads:∀i,(h:i<o.rows.length)->∀j,(h':j<o.rows[i].length)->∃x,c[l.base+i*o.sz+j]? =some x/\Rep w ι M o.rows[i][j] x
structure HRel (h:Heap) (ι:Iota) (w:World):Prop where
 live:∀id o,h[id]? =some (.live o)->∃l c fr,ι id=some l/\LiveAt w ι (Mt h ι) o l c fr
 free:∀id,h[id]? =some .free->ι id=none
 out:∀id,h.length<=id->ι id=none
 apart:∀id o l id' o' l',h[id]? =some (.live o)->ι id=some l->h[id']? =some (.live o')->ι id'=some l'->l.blk=l'.blk->id=id'
 xlt:∀b,ι.X b->b<w.heap.size
 xob:∀b,ι.X b->¬Ob h ι b
structure Evolve (h:Heap) (ι:Iota) (w:World) (h':Heap) (ι':Iota) (w':World):Prop where
 os:w'.os=w.os
 tape:w'.tape=w.tape
 output:w'.output=w.output
 size:w.heap.size<=w'.heap.size
 iota:∀id l,ι id=some l->ι' id=some l
 away:ι'.X=ι.X
 frame:∀b,b<w.heap.size->¬Ob h ι b->w'.heap[b]? =w.heap[b]? /\¬Ob h' ι' b
 sizes:∀(b:Nat) (c:Array Value) (e:TypeId) (fr:Nat×Nat),w.heap[b]? =some (.cells c e fr)->∃(c':Array Value) (fr':Nat×Nat),w'.heap[b]? =some (.cells c' e fr')/\c'.size=c.size
theorem Evolve.refl (h:Heap) (ι:Iota) (w:World):Evolve h ι w h ι w:=
 ⟨rfl,rfl,rfl,gt _,fun _ _ h=>h,rfl,fun _ _ h=>⟨rfl,h⟩,fun _ c _ fr h=>⟨c,fr,h,rfl⟩⟩
theorem Evolve.trans {h ι w h₁ ι₁ w₁ h₂ ι₂ w₂} (a:Evolve h ι w h₁ ι₁ w₁) (b:Evolve h₁ ι₁ w₁ h₂ ι₂ w₂):Evolve h ι w h₂ ι₂ w₂ where
 os:=b.os.trans a.os
 tape:=b.tape.trans a.tape
 output:=b.output.trans a.output
 size:=Nat.le_trans a.size b.size
 iota:=fun id l e=>b.iota id l (a.iota id l e)
 away:=b.away.trans a.away
 frame:=fun k hk hm=>by
  obtain⟨e1,m1⟩:=a.frame k hk hm;obtain⟨e2,m2⟩:=b.frame k (gn hk a.size) m1;exact⟨e2.trans e1,m2⟩
 sizes:=fun k c e fr hc=>by
  obtain⟨c1,fr1,h1,s1⟩:=a.sizes k c e fr hc;obtain⟨c2,fr2,h2,s2⟩:=b.sizes k c1 e fr1 h1;exact⟨c2,fr2,h2,s2.trans s1⟩
theorem qU {w w':World} {b o:Nat} (e:w'.heap[b]? =w.heap[b]?):w'.cell? ⟨b,o,none⟩=w.cell? ⟨b,o,none⟩:=by
 simp only[World.cell?,e]
theorem Evolve.mt {h ι w h' ι' w'} (ev:Evolve h ι w h' ι' w') {b:Nat} (hb:b<w.heap.size) (hm:¬Mt h ι b):w'.heap[b]? =w.heap[b]? /\¬Mt h' ι' b:=by
 obtain⟨e,m⟩:=ev.frame b hb (fun q=>hm (.inr q));refine⟨e,fun q=>?_⟩;rcases q with q|q
 ·rw[ev.away]at q;exact hm (.inl q)
 ·exact m q
theorem Rep.mono {h ι w h' ι' w'} (ev:Evolve h ι w h' ι' w') {x:V} {y:Value} (r:Rep w ι (Mt h ι) x y):Rep w' ι' (Mt h' ι') x y:=by
 induction r with
 |v x=>exact .v x
 |any x=>exact .any x
 |pF row off b o cells hb hm hc _ ih=>
  obtain⟨e,m⟩:=ev.mt hb hm;exact .pF row off b o cells (gn hb ev.size) m (fun j hj=>(qU e).trans (hc j hj)) ih
 |pO id row off l hl=>exact .pO id row off l (ev.iota _ _ hl)
 |sF sz rows a cap cells hb hcap hr hc _ ih=>
  refine .sF sz rows a cap cells (fun hne=>?_) hcap hr (fun i hi j hj=>?_) ih
  ·obtain⟨hs,hb,hm⟩:=hb hne
   exact⟨hs,gn hb ev.size,(ev.mt hb hm).2⟩
  ·have hne:rows≠ []:=by intro e;subst e;simp at hi
   obtain⟨hs,hb,hm⟩:=hb hne;exact(qU (ev.mt hb hm).1).trans (hc i hi j hj)
 |sN sz=>exact .sN sz
 |sO id off len cap l c e fr hl hcap hb hs=>
  obtain⟨c',fr',h1,h2⟩:=ev.sizes _ _ _ _ hb;exact .sO id off len cap l c' e fr' (ev.iota _ _ hl) hcap h1 om
 |agg xs vs hl _ ih=>exact .agg xs vs hl ih
 |tup xs vs hl _ ih=>exact .tup xs vs hl ih
 |fn f a b vs us h1 h2 _ _ ih1 ih2=>exact .fn f a b vs us h1 h2 ih1 ih2
 |ifc t x y _ ih=>exact .ifc t x y ih
 |sL t l y _ ih=>exact .sL t l y ih
 |oL id n y _ ih=>exact .oL id n y ih
theorem Rep.nf {w ι M} {x:V} {y:Value} (r:Rep w ι M x y):Rep w ι M x.nf y:=by
 cases x with
 |sL t l=>cases r;assumption
 |oL id n=>cases r;assumption
 |_=>exact r
theorem Rep.of_nf {w ι M} {x:V} {y:Value} (r:Rep w ι M x.nf y):Rep w ι M x y:=by
 cases x with
 |sL t l=>exact .sL _ _ _ r
 |oL id n=>exact .oL _ _ _ r
 |_=>exact r
theorem Rep.ofValue {w ι M} (x:Value):Rep w ι M (ofValue x) x:=by
 cases x with
 |agg cs=>exact .agg _ _ sm (fun i h h'=>by simp;exact .v _)
 |tuple vs=>exact .tup _ _ sm (fun i h h'=>by simp;exact .v _)
 |_=>exact .v _
theorem Rep.norm {w ι M} {x:V} {y:Value} (r:Rep w ι M x y):Rep w ι M (norm x) y:=by
 cases x with
 |v z=>cases r;exact Rep.ofValue _
 |_=>exact r
def halloc (h:Heap) (new:Nat) (o:AObj):Option Heap:=
 match h[new]? with
 |none=>if new=h.length then some (h++ [.live o])else none
 |some .free=>some (h.set new (.live o))
 |_=>none
theorem sW {h:Heap} {new:Nat} {o:AObj} {h':Heap} (e:halloc h new o=some h') :
  h'[new]? =some (.live o)/\(∀id,id≠new->h'[id]? =h[id]?)/\(∀id,h.length<=id->id≠new->h'.length<=id)/\(h[new]? =some .free\/h.length<=new):=by
 unfold halloc at e;split at e
 ·rename_i hn
  split at e
  ·rename_i hl
   injection e with e;subst e;refine⟨by simp [hl],fun id hid=>?_,fun id h1 h2=>?_,.inr om⟩
   ·rw[List.getElem?_append]
    split
    ·rfl
    ·rename_i hlt
     rw[gb (by simp;omega),gb om]
   ·simp;omega
  ·cases e
 ·rename_i hn
  injection e with e;subst e;have hlt:new<h.length:=by
   rcases gg new h.length with hh|hh
   ·exact hh
   ·rw[gb hh]at hn;cases hn
  refine⟨by simp [hlt],fun id hid=>?_,fun id h1 _=>by simpa using h1,.inl hn⟩;rw[gl om]
 ·cases e
def Iota.put (ι:Iota) (id:Nat) (l:Loc):Iota:={at':=fun i=>if i=id then some l else ι i,X:=ι.X}
theorem BO {w:World} {x:Obj} {b:Nat} (h:b<w.heap.size):(w.heap.push x)[b]? =w.heap[b]?:=by
 rw[Array.getElem?_push,if_neg om]
theorem HRel.blk_lt {h ι w} (H:HRel h ι w) {b:Nat} (m:Ob h ι b):b<w.heap.size:=by
 obtain⟨id,o,l,h1,h2,h3⟩:=m;obtain⟨l',c,fr,e1,la⟩:=H.live id o h1;rw[h2]at e1;injection e1 with e1;subst e1;subst h3;rcases gg l.blk w.heap.size with hh|hh
 ·exact hh
 ·have:=la.blk;rw[gm hh]at this;cases this
theorem HRel.alloc {h:Heap} {ι:Iota} {w:World} (H:HRel h ι w) {new:Nat} {o:AObj} {h':Heap} (e:halloc h new o=some h')
  (c:Array Value) (fr:Nat×Nat) (hfr:Unfr o.elem.fz 0 o.sz c.size fr) (hr:∀r,r∈o.rows->r.length=o.sz) (hf:o.rows.length*o.sz<=c.size)
  (hc:∀i,(hi:i<o.rows.length)->∀j,(hj:j<o.rows[i].length)->∃x,c[i*o.sz+j]? =some x/\Rep w ι (Mt h ι) o.rows[i][j] x)
  {w':World} (hw:w'= {w with heap:=w.heap.push (.cells c o.elem.t fr)}) :
  HRel h' (ι.put new ⟨w.heap.size,0,o.sz,gf _⟩) w'/\Evolve h ι w h' (ι.put new ⟨w.heap.size,0,o.sz,gf _⟩) w':=by
 obtain⟨g1,g2,g3,g4⟩:=sW e;have hnew:ι new=none:=by
  rcases g4 with g4|g4
  ·exact H.free _ g4
  ·exact H.out _ g4
 have io:∀id l,ι id=some l->(ι.put new ⟨w.heap.size,0,o.sz,gf _⟩) id=some l:=by
  intro id l hl;have:id≠new:=by intro e;subst e;rw[hnew]at hl;cases hl
  simp [Iota.put,this,hl]
 have mt:∀b,Ob h' (ι.put new ⟨w.heap.size,0,o.sz,gf _⟩) b->b=w.heap.size\/Ob h ι b:=by
  rintro b ⟨id,o',l,h1,h2,h3⟩;by_cases hid:id=new
  ·subst hid
   simp [Iota.put]at h2;subst h2;exact .inl h3.symm
  ·rw[g2 id hid]at h1
   simp [Iota.put,hid]at h2;exact .inr ⟨id,o',l,h1,h2,h3⟩
 have ev:Evolve h ι w h' (ι.put new ⟨w.heap.size,0,o.sz,gf _⟩) w':=by
  subst hw;refine⟨rfl,rfl,rfl,sm,io,rfl,fun b hb hm=>⟨BO hb,fun m=>?_⟩,fun b cc el f hb=>?_⟩
  ·rcases mt b m with m|m
   ·omega
   ·exact hm m
  ·have hlt:b<w.heap.size:=by
     rcases gg b w.heap.size with hh|hh
     ·exact hh
     ·rw[gm hh]at hb;cases hb
   exact⟨cc,f,(BO hlt).trans hb,rfl⟩
 refine⟨⟨?_,?_,?_,?_,fun b hb=>gn (H.xlt b hb) ev.size,fun b hb=>(ev.frame b (H.xlt b hb) (H.xob b hb)).2⟩,ev⟩
 ·intro id o' ho'
  by_cases hid:id=new
  ·subst hid
   rw[g1]at ho';injection ho' with ho';injection ho' with ho';subst ho';refine⟨⟨w.heap.size,0,o.sz,gf _⟩,c,fr,by simp [Iota.put],⟨by subst hw;simp,hfr,rfl,hr,by simpa using hf,?_⟩⟩;intro i hi j hj;obtain⟨x,h1,h2⟩:=hc i hi j hj;exact⟨x,by simpa using h1,h2.mono ev⟩
  ·rw[g2 id hid]at ho'
   obtain⟨l,c0,fr0,h1,la⟩:=H.live id o' ho';refine⟨l,c0,fr0,io id l h1,⟨?_,la.unfrozen,la.sz,la.rows,la.fits,?_⟩⟩
   ·have hlt:=H.blk_lt ⟨id,o',l,ho',h1,rfl⟩
    subst hw;exact(BO hlt).trans la.blk
   ·intro i hi j hj
    obtain⟨x,h1,h2⟩:=la.reads i hi j hj;exact⟨x,h1,h2.mono ev⟩
 ·intro id hid
  have hne:id≠new:=by intro e;subst e;rw[g1]at hid;cases hid
  rw[g2 id hne]at hid;simp [Iota.put,hne,H.free id hid]
 ·intro id hid
  have hne:id≠new:=by
   intro e;subst e;rw[gb hid]at g1;cases g1
  have:h.length<=id:=by
   rcases gg id h.length with hh|hh
   ·have h0:=g2 id hne
    rw[gb hid,ga hh]at h0;cases h0
   ·exact hh
  simp [Iota.put,hne,H.out id this]
 ·intro id o1 l1 id' o2 l2 a1 a2 b1 b2 hb
  by_cases h1:id=new
  ·by_cases h2:id'=new
   ·rw[h1,h2]
   ·exfalso
    rw[g2 id' h2]at b1;simp [Iota.put,h2]at b2;have:=H.blk_lt ⟨id',o2,l2,b1,b2,rfl⟩;simp [Iota.put,h1]at a2;rw[<-hb,<-a2]at this;simp at this
  ·by_cases h2:id'=new
   ·exfalso
    rw[g2 id h1]at a1;simp [Iota.put,h1]at a2;have:=H.blk_lt ⟨id,o1,l1,a1,a2,rfl⟩;simp [Iota.put,h2]at b2;rw[hb,<-b2]at this;simp at this
   ·rw[g2 id h1]at a1
    rw[g2 id' h2]at b1;simp [Iota.put,h1]at a2;simp [Iota.put,h2]at b2;exact H.apart _ _ _ _ _ _ a1 a2 b1 b2 hb
structure SameBut (w w':World) (b:Nat):Prop where
 os:w'.os=w.os
 tape:w'.tape=w.tape
 output:w'.output=w.output
 size:w'.heap.size=w.heap.size
 others:∀k,k≠b->w'.heap[k]? =w.heap[k]?
theorem pB (b:Nat) (e:TypeId) (fr:Nat×Nat):∀(vs:List Value) (o:Nat) (w:World) (c:Array Value),w.heap[b]? =some (.cells c e fr)->o+vs.length<=c.size ->
  ∃c':Array Value,(w.setCells b o vs).heap[b]? =some (.cells c' e fr)/\c'.size=c.size/\SameBut w (w.setCells b o vs) b /\
   (∀k,(k<o\/o+vs.length<=k)->c'[k]? =c[k]?)/\(∀j,j<vs.length->c'[o+j]? =vs[j]?)
 | [],o,w,c,h,_=>⟨c,h,rfl,⟨rfl,rfl,rfl,rfl,fun _ _=>rfl⟩,fun _ _=>rfl,fun j hj=>by simp at hj⟩
 |v::r,o,w,c,h,hl=>by
  simp only[gp]at hl;have h1:(w.setCell ⟨b,o,none⟩ v).heap[b]? =some (.cells (c.setIfInBounds o v) e fr):=by
   simp only[World.setCell,kx,if_pos,h];simp
  obtain⟨c',e1,e2,e3,e4,e5⟩:=pB b e fr r (o+1) (w.setCell ⟨b,o,none⟩ v) (c.setIfInBounds o v) h1 (by simp;omega);refine⟨c',e1,by simpa using e2,⟨e3.os,e3.tape,e3.output,by rw[World.setCells,e3.size];simp [World.setCell],fun k hk=>?_⟩,fun k hk=>?_,fun j hj=>?_⟩
  ·rw[World.setCells,e3.others k hk]
   simp only[World.setCell,kx];rw[if_neg om]
  ·rw[e4 k (by simp only[gp]at hk;omega)]
   rw[kg (by simp only[gp]at hk;omega)]
  ·cases j with
   |zero=>
    rw[e4 _ om];simp [kj];omega
   |succ j=>
    have:=e5 j (by simpa using hj);rw[show o+(j+1)=o+1+j by omega,this];simp
theorem HRel.reloc {h:Heap} {ι:Iota} {w:World} (H:HRel h ι w) {id:Nat} {o:AObj} {l:Loc} {c:Array Value} {fr:Nat×Nat}
  (ho:h[id]? =some (.live o)) (hl:ι id=some l) (la:LiveAt w ι (Mt h ι) o l c fr)
  {new:Nat} {o':AObj} {h':Heap} (e:halloc (h.set id .dead) new o'=some h') {base':Nat} (hal:base'%o'.sz=0) {c':Array Value} {w':World}
  (hw:SameBut w w' l.blk) (hb:w'.heap[l.blk]? =some (.cells c' o.elem.t fr)) (hs:c'.size=c.size) (he:o'.elem=o.elem) (hz:o'.sz=o.sz) (hbz:o.elem.fz<=1\/base'=l.base)
  (hr:∀r,r∈o'.rows->r.length=o'.sz) (hf:base'+o'.rows.length*o'.sz<=c.size)
  (hc:∀i,(hi:i<o'.rows.length)->∀j,(hj:j<o'.rows[i].length)->∃x,c'[base'+i*o'.sz+j]? =some x/\Rep w ι (Mt h ι) o'.rows[i][j] x) :
  HRel h' (ι.put new ⟨l.blk,base',o'.sz,hal⟩) w'/\Evolve h ι w h' (ι.put new ⟨l.blk,base',o'.sz,hal⟩) w':=by
 obtain⟨g1,g2,g3,g4⟩:=sW e;have hidlt:id<h.length:=by
  rcases gg id h.length with hh|hh
  ·exact hh
  ·rw[gb hh]at ho;cases ho
 have hnid:new≠id:=by
  intro e;subst e;rcases g4 with g4|g4
  ·simp [hidlt]at g4
  ·simp at g4;omega
 have hnew:ι new=none:=by
  rcases g4 with g4|g4
  ·rw[gl om]at g4;exact H.free _ g4
  ·exact H.out _ (by simpa using g4)
 have get:∀k x,k≠new->h'[k]? =some (.live x)->k≠id/\h[k]? =some (.live x):=by
  intro k x hk hx;rw[g2 k hk]at hx;by_cases hki:k=id
  ·subst hki;simp [hidlt]at hx
  ·rw[gl om]at hx;exact⟨hki,hx⟩
 have io:∀k x,ι k=some x->(ι.put new ⟨l.blk,base',o'.sz,hal⟩) k=some x:=by
  intro k x hx;have:k≠new:=by intro e;subst e;rw[hnew]at hx;cases hx
  simp [Iota.put,this,hx]
 have mt:∀b,Ob h' (ι.put new ⟨l.blk,base',o'.sz,hal⟩) b->Ob h ι b:=by
  rintro b ⟨k,x,y,h1,h2,h3⟩;by_cases hk:k=new
  ·subst hk
   simp [Iota.put]at h2;subst h2;exact⟨id,o,l,ho,hl,h3⟩
  ·obtain⟨_,h1⟩:=get k x hk h1
   simp [Iota.put,hk]at h2;exact⟨k,x,y,h1,h2,h3⟩
 have ev:Evolve h ι w h' (ι.put new ⟨l.blk,base',o'.sz,hal⟩) w':=by
  refine⟨hw.os,hw.tape,hw.output,by rw[hw.size];exact gt _,io,rfl,fun b hbl hm=>⟨hw.others b ?_,fun m=>hm (mt b m)⟩,fun b cc el f hbb=>?_⟩
  ·intro e;subst e;exact hm ⟨id,o,l,ho,hl,rfl⟩
  ·by_cases hbe:b=l.blk
   ·subst hbe
    rw[la.blk]at hbb;injection hbb with hbb;injection hbb with q1 q2 q3;subst q1 q2 q3;exact⟨c',fr,hb,hs⟩
   ·exact⟨cc,f,(hw.others b hbe).trans hbb,rfl⟩
 refine⟨⟨?_,?_,?_,?_,fun b hb=>gn (H.xlt b hb) ev.size,fun b hb=>(ev.frame b (H.xlt b hb) (H.xob b hb)).2⟩,ev⟩
 ·intro k x hx
  by_cases hk:k=new
  ·subst hk
   rw[g1]at hx;injection hx with hx;injection hx with hx;subst hx;refine⟨⟨l.blk,base',o'.sz,hal⟩,c',fr,by simp [Iota.put],⟨by rw[he];exact hb,?_,rfl,hr,by rw[hs];exact hf,?_⟩⟩
   ·show Unfr o'.elem.fz base' o'.sz c'.size fr
    rw[he,hz,hs];rcases hbz with q|q
    ·exact la.unfrozen.move q
    ·rw[q];exact la.unfrozen
   intro i hi j hj;obtain⟨x,h1,h2⟩:=hc i hi j hj;exact⟨x,h1,h2.mono ev⟩
  ·obtain⟨hki,hx⟩:=get k x hk hx
   obtain⟨l2,c2,fr2,h1,la2⟩:=H.live k x hx;have hne:l2.blk≠l.blk:=fun q=>hki (H.apart _ _ _ _ _ _ hx h1 ho hl q)
   refine⟨l2,c2,fr2,io k l2 h1,⟨(hw.others _ hne).trans la2.blk,la2.unfrozen,la2.sz,la2.rows,la2.fits,?_⟩⟩;intro i hi j hj;obtain⟨y,h1,h2⟩:=la2.reads i hi j hj;exact⟨y,h1,h2.mono ev⟩
 ·intro k hk
  have hne:k≠new:=by intro e;subst e;rw[g1]at hk;cases hk
  rw[g2 k hne]at hk;have hki:k≠id:=by intro e;subst e;simp [hidlt]at hk
  rw[gl om]at hk;simp [Iota.put,hne,H.free k hk]
 ·intro k hk
  have hne:k≠new:=by
   intro e;subst e;rw[gb hk]at g1;cases g1
  have hlen:h.length<=k:=by
   rcases gg k h.length with hh|hh
   ·have h0:=g2 k hne
    rw[gb hk,ga (by simpa using hh)]at h0;cases h0
   ·exact hh
  simp [Iota.put,hne,H.out k hlen]
 ·intro k1 o1 l1 k2 o2 l2 a1 a2 b1 b2 hbk
  by_cases h1:k1=new
  ·by_cases h2:k2=new
   ·rw[h1,h2]
   ·exfalso
    obtain⟨hki,b1⟩:=get k2 o2 h2 b1;simp [Iota.put,h2]at b2;simp [Iota.put,h1]at a2;subst a2;exact hki (H.apart _ _ _ _ _ _ b1 b2 ho hl hbk.symm)
  ·by_cases h2:k2=new
   ·exfalso
    obtain⟨hki,a1⟩:=get k1 o1 h1 a1;simp [Iota.put,h1]at a2;simp [Iota.put,h2]at b2;subst b2;exact hki (H.apart _ _ _ _ _ _ a1 a2 ho hl hbk)
   ·obtain⟨_,a1⟩:=get k1 o1 h1 a1
    obtain⟨_,b1⟩:=get k2 o2 h2 b1;simp [Iota.put,h1]at a2;simp [Iota.put,h2]at b2;exact H.apart _ _ _ _ _ _ a1 a2 b1 b2 hbk
theorem HRel.updG {h:Heap} {ι:Iota} {w:World} (H:HRel h ι w) {id:Nat} {o:AObj} {l:Loc} {c:Array Value} {fr:Nat×Nat}
  (ho:h[id]? =some (.live o)) (hl:ι id=some l) (la:LiveAt w ι (Mt h ι) o l c fr)
  {o':AObj} {c':Array Value} {fr':Nat×Nat} {w':World}
  (hw:SameBut w w' l.blk) (hb:w'.heap[l.blk]? =some (.cells c' o.elem.t fr')) (hs:c'.size=c.size) (he:o'.elem.t=o.elem.t) (hz:o'.sz=o.sz) (hu:Unfr o'.elem.fz l.base o.sz c.size fr')
  (hr:∀r,r∈o'.rows->r.length=o'.sz) (hf:l.base+o'.rows.length*o'.sz<=c.size)
  (hc:∀i,(hi:i<o'.rows.length)->∀j,(hj:j<o'.rows[i].length)->∃x,c'[l.base+i*o'.sz+j]? =some x/\Rep w ι (Mt h ι) o'.rows[i][j] x) :
  HRel (h.set id (.live o')) ι w'/\Evolve h ι w (h.set id (.live o')) ι w':=by
 have hidlt:id<h.length:=by
  rcases gg id h.length with hh|hh
  ·exact hh
  ·rw[gb hh]at ho;cases ho
 have get:∀(k:Nat),k≠id->(h.set id (.live o'))[k]? =h[k]?:=fun k hk=>gl om
 have gid:(h.set id (HS.live o'))[id]? =some (.live o'):=by simp [hidlt]
 have mt:∀b,Ob (h.set id (.live o')) ι b->Ob h ι b:=by
  rintro b ⟨k,x,y,h1,h2,h3⟩;by_cases hk:k=id
  ·subst hk
   exact⟨k,o,y,ho,h2,h3⟩
  ·rw[get k hk]at h1
   exact⟨k,x,y,h1,h2,h3⟩
 have ev:Evolve h ι w (h.set id (.live o')) ι w':=by
  refine⟨hw.os,hw.tape,hw.output,by rw[hw.size];exact gt _,fun _ _ q=>q,rfl,fun b hbl hm=>⟨hw.others b ?_,fun m=>hm (mt b m)⟩,fun b cc el f hbb=>?_⟩
  ·intro e;subst e;exact hm ⟨id,o,l,ho,hl,rfl⟩
  ·by_cases hbe:b=l.blk
   ·subst hbe
    rw[la.blk]at hbb;injection hbb with hbb;injection hbb with q1 q2 q3;subst q1 q2 q3;exact⟨c',fr',hb,hs⟩
   ·exact⟨cc,f,(hw.others b hbe).trans hbb,rfl⟩
 refine⟨⟨?_,?_,?_,?_,fun b hb=>gn (H.xlt b hb) ev.size,fun b hb=>(ev.frame b (H.xlt b hb) (H.xob b hb)).2⟩,ev⟩
 ·intro k x hx
  by_cases hk:k=id
  ·subst hk
   rw[gid]at hx;injection hx with hx;injection hx with hx;subst hx;refine⟨l,c',fr',hl,⟨by rw[he];exact hb,by rw[hs,hz];exact hu,by rw[la.sz,hz],hr,by rw[hs];exact hf,?_⟩⟩;intro i hi j hj;obtain⟨x,h1,h2⟩:=hc i hi j hj;exact⟨x,h1,h2.mono ev⟩
  ·rw[get k hk]at hx
   obtain⟨l2,c2,fr2,h1,la2⟩:=H.live k x hx;have hne:l2.blk≠l.blk:=fun q=>hk (H.apart _ _ _ _ _ _ hx h1 ho hl q)
   refine⟨l2,c2,fr2,h1,⟨(hw.others _ hne).trans la2.blk,la2.unfrozen,la2.sz,la2.rows,la2.fits,?_⟩⟩;intro i hi j hj;obtain⟨y,h1,h2⟩:=la2.reads i hi j hj;exact⟨y,h1,h2.mono ev⟩
 ·intro k hk
  have hne:k≠id:=by intro e;subst e;rw[gid]at hk;cases hk
  rw[get k hne]at hk;exact H.free k hk
 ·intro k hk
  exact H.out k (by simpa using hk)
 ·intro k1 o1 l1 k2 o2 l2 a1 a2 b1 b2 hbk
  have f:∀(k:Nat) (x:AObj),(h.set id (.live o'))[k]? =some (.live x)->∃y,h[k]? =some (.live y):=by
   intro k x hx;by_cases hk:k=id
   ·subst hk;exact⟨o,ho⟩
   ·rw[get k hk]at hx;exact⟨x,hx⟩
  obtain⟨y1,q1⟩:=f _ _ a1;obtain⟨y2,q2⟩:=f _ _ b1;exact H.apart _ _ _ _ _ _ q1 a2 q2 b2 hbk
theorem HRel.upd {h:Heap} {ι:Iota} {w:World} (H:HRel h ι w) {id:Nat} {o:AObj} {l:Loc} {c:Array Value} {fr:Nat×Nat}
  (ho:h[id]? =some (.live o)) (hl:ι id=some l) (la:LiveAt w ι (Mt h ι) o l c fr)
  {o':AObj} {c':Array Value} {w':World}
  (hw:SameBut w w' l.blk) (hb:w'.heap[l.blk]? =some (.cells c' o.elem.t fr)) (hs:c'.size=c.size) (he:o'.elem=o.elem) (hz:o'.sz=o.sz)
  (hr:∀r,r∈o'.rows->r.length=o'.sz) (hf:l.base+o'.rows.length*o'.sz<=c.size)
  (hc:∀i,(hi:i<o'.rows.length)->∀j,(hj:j<o'.rows[i].length)->∃x,c'[l.base+i*o'.sz+j]? =some x/\Rep w ι (Mt h ι) o'.rows[i][j] x) :
  HRel (h.set id (.live o')) ι w'/\Evolve h ι w (h.set id (.live o')) ι w':=
 H.updG ho hl la hw hb hs (congrArg El.t he) hz (by rw[he];exact la.unfrozen) hr hf hc
theorem HRel.kill {h:Heap} {ι:Iota} {w:World} (H:HRel h ι w) {id:Nat} {o:AObj} (ho:h[id]? =some (.live o)) :
  HRel (h.set id .dead) ι w/\Evolve h ι w (h.set id .dead) ι w:=by
 have hidlt:id<h.length:=by
  rcases gg id h.length with hh|hh
  ·exact hh
  ·rw[gb hh]at ho;cases ho
 have get:∀(k:Nat) (x:AObj),(h.set id HS.dead)[k]? =some (.live x)->h[k]? =some (.live x):=by
  intro k x hx;by_cases hk:k=id
  ·subst hk;simp [hidlt]at hx
  ·rwa [gl om]at hx
 have ev:Evolve h ι w (h.set id .dead) ι w:=by
  refine⟨rfl,rfl,rfl,gt _,fun _ _ q=>q,rfl,fun b _ hm=>⟨rfl,?_⟩,fun b c _ fr hb=>⟨c,fr,hb,rfl⟩⟩;rintro⟨k,x,y,h1,h2,h3⟩;exact hm ⟨k,x,y,get k x h1,h2,h3⟩
 refine⟨⟨fun k x hx=>?_,fun k hk=>?_,fun k hk=>H.out k (by simpa using hk),fun k1 o1 l1 k2 o2 l2 a1 a2 b1 b2=>H.apart _ _ _ _ _ _ (get _ _ a1) a2 (get _ _ b1) b2,H.xlt,fun b hb=>(ev.frame b (H.xlt b hb) (H.xob b hb)).2⟩,ev⟩
 ·obtain⟨l2,c2,fr2,h1,la2⟩:=H.live k x (get k x hx)
  exact⟨l2,c2,fr2,h1,⟨la2.blk,la2.unfrozen,la2.sz,la2.rows,la2.fits,fun i hi j hj=>let ⟨y,q1,q2⟩:=la2.reads i hi j hj;⟨y,q1,q2.mono ev⟩⟩⟩
 ·have hne:k≠id:=by intro e;subst e;simp [hidlt]at hk
  rw[gl om]at hk;exact H.free k hk
theorem HRel.drawn {h:Heap} {ι:Iota} {w:World} (H:HRel h ι w) (n:Nat):HRel h ι {w with drawn:=n}/\Evolve h ι w h ι {w with drawn:=n}:=by
 have ev:Evolve h ι w h ι {w with drawn:=n}:=⟨rfl,rfl,rfl,gt _,fun _ _ q=>q,rfl,fun b _ hm=>⟨rfl,hm⟩,fun b c _ fr hb=>⟨c,fr,hb,rfl⟩⟩
 refine⟨⟨fun k x hx=>?_,H.free,H.out,H.apart,H.xlt,fun b hb=>(ev.frame b (H.xlt b hb) (H.xob b hb)).2⟩,ev⟩;obtain⟨l2,c2,fr2,h1,la2⟩:=H.live k x hx;exact⟨l2,c2,fr2,h1,⟨la2.blk,la2.unfrozen,la2.sz,la2.rows,la2.fits,fun i hi j hj=>let ⟨y,q1,q2⟩:=la2.reads i hi j hj;⟨y,q1,q2.mono ev⟩⟩⟩
def aP (P:Program) {α:Type}:Sem α->Option α
 | .pure a=>some a
 | .program k=>aP P (k P)
 | .mark _ k=>aP P k
 |_=>none
theorem EE {P:Program} {α:Type} {m:Sem α} {a:α} (h:aP P m=some a) (w:World):m.run P w = .ok a w:=by
 induction m with
 |pure b=>simp [aP]at h;subst h;rfl
 |program k ih=>exact ih P h
 |mark x k ih=>exact ih h
 |_=>simp [aP]at h
def VS (P:Program) (h:Heap) (ι:Iota) (w:World) (m:Sem Value) (r:Option (V×Heap)):Prop:=
 ∀x h',r=some (x,h')->∃y w' ι',m.run P w = .ok y w'/\Rep w' ι' (Mt h' ι') x y/\HRel h' ι' w'/\Evolve h ι w h' ι' w'
theorem VS.of_pure {P h ι w} (H:HRel h ι w) {m:Sem Value} {x:V} (hx:∃y,m.run P w = .ok y w/\Rep w ι (Mt h ι) x y):VS P h ι w m (some (x,h)):=by
 intro x' h' e;injection e with e;injection e with e1 e2;subst e1 e2;obtain⟨y,h1,h2⟩:=hx;exact⟨y,w,ι,h1,h2,H,Evolve.refl _ _ _⟩
theorem VS.none {P h ι w} {m:Sem Value}:VS P h ι w m none:=by intro x h' e;cases e
def cK:List V->Option (List Value)
 | []=>some []
 | .v x::r=>match cK r with
   |some xs=>some (x::xs)
   |none=>none
 |_=>none
def iA:V->Option Value
 | .v x=>some x
 | .agg xs=>match cK xs with
   |some vs=>some (.agg vs.toArray)
   |none=>none
 |_=>none
theorem pD {w ι M}:∀(xs:List V) (vs:List Value) (ys:List Value),cK xs=some vs->xs.length=ys.length ->
  (∀i,(h:i<xs.length)->(h':i<ys.length)->Rep w ι M xs[i] ys[i])->ys=vs
 | [],vs,ys,e,hl,_=>by
   simp [cK]at e;subst e;cases ys with
   |nil=>rfl
   |cons=>simp at hl
 |x::r,vs,ys,e,hl,h=>by
  cases ys with
  |nil=>simp at hl
  |cons y ys=>
   cases x with
   |v x=>
    simp only[cK]at e;split at e
    ·rename_i us hu
     injection e with e;subst e;have h0:=h 0 sm sm;simp at h0;cases h0;rw[pD r us ys hu (by simpa using hl) (fun i h1 h2=>by have:=h (i+1) (by simpa using h1) (by simpa using h2);simpa using this)]
    ·cases e
   |_=>simp [cK]at e
theorem EL {w ι M} {x:V} {y z:Value} (r:Rep w ι M x y) (e:iA x=some z):y=z:=by
 cases r with
 |v x=>simpa [iA]using e
 |agg xs vs hl h=>
  simp only[iA]at e;split at e
  ·rename_i us hu
   injection e with e;subst e;have:=pD xs us vs.toList hu (by simpa using hl) (fun i h1 h2=>by have:=h i h1 (by simpa using h2);simpa using this);rw[<-this]
  ·cases e
 |_=>simp [iA]at e
def qCD (P:Program) (t:TypeId):Option Bool:=
 match P.underlying t with
 |some (.struct _)=>some true
 |some (.array _ _)=>some true
 |some _=>some false
 |none=>none
def cP (P:Program) (t:TypeId):Option Nat:=
 match P.info? t with
 |some i=>some i.size
 |none=>none
theorem bS {P:Program} {t:TypeId} {n:Nat} (h:cP P t=some n) (w:World):(sizeOf t).run P w = .ok n w:=by
 unfold cP at h;split at h
 ·rename_i i hi
  injection h with h;simp [sizeOf,typeInfo,hi,h]
 ·cases h
theorem wC {P:Program} {t:TypeId} {b:Bool} (h:qCD P t=some b) (w:World):(isAgg t).run P w = .ok b w:=by
 unfold qCD at h;split at h<;>(try cases h)<;>rename_i hu<;>simp [isAgg,run_underlying hu]
def jV (P:Program) (t:TypeId) (row:List V) (off:Nat):Option V:=
 match qCD P t with
 |some true=>match cP P t with
  |some n=>if off+n<=row.length then some (.agg ((row.drop off).take n))else none
  |none=>none
 |some false=>row[off]?
 |none=>none
theorem tT {P:Program} {w:World} {ι:Iota} {M:Nat->Prop} {t:TypeId} {row:List V} {off b o:Nat} {x:V}
  (hc:∀j,(h:j<row.length)->∃z,w.cell? ⟨b,o+j,none⟩=some z/\Rep w ι M row[j] z) (h:jV P t row off=some x) :
  ∃y,(loadVar t ⟨b,o+off,none⟩).run P w = .ok y w/\Rep w ι M x y:=by
 have add:∀j,(⟨b,o+off,none⟩:Addr).add j=⟨b,o+off+j,none⟩:=by
  intro j;unfold Addr.add;split<;>simp_all
 unfold jV at h;split at h
 ·rename_i ha
  split at h
  ·rename_i n hn
   split at h
   ·rename_i hle
    injection h with h;subst h;have hch:∀j,∃z,j<n->w.cell? ((⟨b,o+off,none⟩:Addr).add j)=some z/\∃hj:off+j<row.length,Rep w ι M row[off+j] z:=by
     intro j;by_cases hj:j<n
     ·obtain⟨z,h1,h2⟩:=hc (off+j) om
      exact⟨z,fun _=>⟨by rw[add,ka];exact h1,om,h2⟩⟩
     ·exact⟨undef,fun q=>absurd q hj⟩
    obtain⟨f,hf⟩:=gq hch;refine⟨.agg ((List.range n).map f).toArray,?_,.agg _ _ ?_ ?_⟩
    ·simp [loadVar,wC ha,bS hn,run_loadCells (P:=P) w ⟨b,o+off,none⟩ n f (fun j hj=>(hf j hj).1)]
    ·simp;omega
    ·intro i h1 h2
     have hin:i<n:=by simp at h2;exact h2
     obtain⟨hj,hr⟩:=(hf i hin).2;simpa using hr
   ·cases h
  ·cases h
 ·rename_i ha
  have hlt:off<row.length:=by
   rcases gg off row.length with q|q
   ·exact q
   ·rw[gb q]at h;cases h
  rw[ga hlt]at h;injection h with h;subst h;obtain⟨z,h1,h2⟩:=hc off hlt;exact⟨z,by simp [loadVar,wC ha,h1],h2⟩
 ·cases h
def rowAt (h:Heap):V->Option (List V×Nat)
 | .pF row off=>some (row,off)
 | .pO id r off=>match h[id]? with
   |some (.live o)=>match o.rows[r]? with
    |some row=>some (row,off)
    |none=>none
   |_=>none
 |_=>none
theorem LiveAt.cell {w ι M o l c fr} (la:LiveAt w ι M o l c fr) (k:Nat):w.cell? ⟨l.blk,k,none⟩=c[k]?:=by
 simp [World.cell?,la.blk]
theorem QC {h ι w} (H:HRel h ι w) {p:V} {y:Value} (r:Rep w ι (Mt h ι) p y) {row:List V} {off:Nat} (e:rowAt h p=some (row,off)) :
  ∃b o,y = .pointer (some ⟨b,o+off,none⟩)/\∀j,(hj:j<row.length)->∃z,w.cell? ⟨b,o+j,none⟩=some z/\Rep w ι (Mt h ι) row[j] z:=by
 cases r with
 |pF row' off' b o cells hb hm hc hr=>
  simp [rowAt]at e;obtain⟨rfl,rfl⟩:=e;exact⟨b,o,rfl,fun j hj=>⟨cells j,hc j hj,hr j hj⟩⟩
 |pO id r' off' l hl=>
  simp only[rowAt]at e;split at e
  ·rename_i o ho
   split at e
   ·rename_i row' hrow
    injection e with e;injection e with e1 e2;subst e1 e2;obtain⟨l',c,fr,h1,la⟩:=H.live id o ho;rw[hl]at h1;injection h1 with h1;subst h1;have hlt:r'<o.rows.length:=by
     rcases gg r' o.rows.length with q|q
     ·exact q
     ·rw[gb q]at hrow;cases hrow
    rw[ga hlt]at hrow;injection hrow with hrow;subst hrow;refine⟨l.blk,l.base+r'*l.sz,rfl,fun j hj=>?_⟩;obtain⟨z,q1,q2⟩:=la.reads r' hlt j hj;exact⟨z,by rw[la.cell,la.sz];exact q1,q2⟩
   ·cases e
  ·cases e
 |_=>simp [rowAt]at e
def qQ (P:Program) (h:Heap) (t:TypeId) (p:V):Option (V×Heap):=
 match rowAt h p with
 |some (row,off)=>match jV P t row off with
  |some x=>some (x,h)
  |none=>none
 |none=>none
theorem CN {P h ι w} (H:HRel h ι w) {t:TypeId} {p:V} {y:Value} (r:Rep w ι (Mt h ι) p y):VS P h ι w (Instr.loadAt t y) (qQ P h t p):=by
 unfold qQ;split
 ·rename_i row off e
  split
  ·rename_i x hx
   obtain⟨b,o,rfl,hc⟩:=QC H r e;obtain⟨z,h1,h2⟩:=tT hc hx;exact VS.of_pure H ⟨z,by simpa [Instr.loadAt,Instr.sureAddr]using h1,h2⟩
  ·exact VS.none
 ·exact VS.none
theorem XW {P:Program} {w ι M} {t:TypeId} {xs:List V} {vs:Array Value} {off:Nat} {x:V} (hl:xs.length=vs.size)
  (hr:∀i,(h:i<xs.length)->(h':i<vs.size)->Rep w ι M xs[i] vs[i]) (h:jV P t xs off=some x) (w₀:World) :
  ∃y,(part t vs off).run P w₀ = .ok y w₀/\Rep w ι M x y:=by
 unfold jV at h;split at h
 ·rename_i ha
  split at h
  ·rename_i n hn
   split at h
   ·rename_i hle
    injection h with h;subst h;refine⟨.agg (vs.extract off (off+n)),by simp [part,wC ha,bS hn],.agg _ _ (by simp;omega) ?_⟩;intro i h1 h2;have:=hr (off+i) (by simp at h1;omega) (by simp at h2;omega);simpa using this
   ·cases h
  ·cases h
 ·rename_i ha
  have hlt:off<xs.length:=by
   rcases gg off xs.length with q|q
   ·exact q
   ·rw[gb q]at h;cases h
  rw[ga hlt]at h;injection h with h;subst h;refine⟨vs[off]' om,?_,hr off hlt om⟩;simp [part,wC ha,gc (show off<vs.size by omega)]
 ·cases h
def FE (P:Program) (s:TypeId) (f:Nat):Option Field:=
 match P.underlying s with
 |some (.struct fields)=>fields[f]?
 |_=>none
def FW (P:Program) (h:Heap) (s:TypeId) (x:V) (f:Nat):Option (V×Heap):=
 match norm x,FE P s f with
 | .agg xs,some fd=>match jV P fd.type xs fd.offset with
   |some y=>some (y,h)
   |none=>none
 |_,_=>none
theorem uJ {P:Program} {s:TypeId} {f:Nat} {fd:Field} (h:FE P s f=some fd) :
  ∃fields,P.underlying s=some (.struct fields)/\fields[f]? =some fd:=by
 unfold FE at h;split at h
 ·rename_i fields hu
  exact⟨fields,hu,h⟩
 ·cases h
theorem QY {P h ι w} (H:HRel h ι w) {s:TypeId} {x:V} {y:Value} {f:Nat} (r:Rep w ι (Mt h ι) x y):VS P h ι w (Instr.field s y f) (FW P h s x f):=by
 have rn:=r.norm;unfold FW;split
 ·rename_i xs fd e1 e2
  split
  ·rename_i z hz
   rw[e1]at rn;cases rn with
   |agg _ vs hl hr=>
    obtain⟨fields,hu,hf⟩:=uJ e2;obtain⟨u,h1,h2⟩:=XW hl hr hz w;exact VS.of_pure H ⟨u,by simp [Instr.field,run_underlying hu,hf,asAgg,h1],h2⟩
  ·exact VS.none
 ·exact VS.none
def pQ (P:Program) (h:Heap) (s:TypeId) (x:V) (f:Nat):Option (V×Heap):=
 match x,FE P s f with
 | .pF row off,some fd=>match cP P fd.type with
   |some (_+1)=>some (.pF row (off+fd.offset),h)
   |_=>none
 | .pO id r off,some fd=>match cP P fd.type with
   |some (_+1)=>some (.pO id r (off+fd.offset),h)
   |_=>none
 |_,_=>none
theorem oA (b o n:Nat):(⟨b,o,none⟩:Addr).add n=⟨b,o+n,none⟩:=by
 unfold Addr.add;split<;>simp_all
theorem AU {P h ι w} (H:HRel h ι w) {s:TypeId} {x:V} {y:Value} {f:Nat} (r:Rep w ι (Mt h ι) x y):VS P h ι w (Instr.fieldAt s y f) (pQ P h s x f):=by
 unfold pQ;split
 ·rename_i row off fd e2
  split
  ·rename_i n hn
   cases r with
   |pF _ _ b o cells hb hm hc hr=>
    obtain⟨fields,hu,hf⟩:=uJ e2;refine VS.of_pure H ⟨.pointer (some ⟨b,o+(off+fd.offset),none⟩),?_,.pF row _ b o cells hb hm hc hr⟩;simp [Instr.fieldAt,run_underlying hu,hf,Instr.sureAddr,fieldPlace,bS hn,oA,ka]
  ·exact VS.none
 ·rename_i id r' off fd e2
  split
  ·rename_i n hn
   cases r with
   |pO _ _ _ l hl=>
    obtain⟨fields,hu,hf⟩:=uJ e2;refine VS.of_pure H ⟨.pointer (some ⟨l.blk,l.base+r'*l.sz+(off+fd.offset),none⟩),?_,.pO id r' _ l hl⟩;simp [Instr.fieldAt,run_underlying hu,hf,Instr.sureAddr,fieldPlace,bS hn,oA,ka]
  ·exact VS.none
 ·exact VS.none
def lW:V->Option Int
 | .v (.int _ n)=>some n
 |_=>none
def cC (P:Program) (h:Heap) (t:TypeId) (x i:V):Option (V×Heap):=
 match lW i with
 |none=>none
 |some n=>match P.underlying t with
  |some (.slice elem)=>match cP P elem with
   |none=>none
   |some s=>match x with
    | .sF sz rows=>if s=sz/\0<=n then match rows[n.toNat]? with
        |some row=>some (.pF row 0,h)
        |none=>none
      else none
    | .sO id off len=>match h[id]? with
      |some (.live o)=>if o.sz=s/\0<=n/\n<len then some (.pO id (off+n.toNat) 0,h)else none
      |_=>none
    |_=>none
  |some (.array len elem)=>match cP P elem with
   |none=>none
   |some s=>if 0<=n/\n<len then match x with
      | .pF row off=>some (.pF row (off+n.toNat*s),h)
      | .pO id r off=>some (.pO id r (off+n.toNat*s),h)
      |_=>none
    else none
  |_=>none
theorem AV {P h ι w} (H:HRel h ι w) {t:TypeId} {x i:V} {y z:Value} (r:Rep w ι (Mt h ι) x y) (ri:Rep w ι (Mt h ι) i z) :
  VS P h ι w (Instr.indexAt t y z) (cC P h t x i):=by
 unfold cC;split
 ·exact VS.none
 ·rename_i n hn
  have hz:∃k,z = .int k n:=by
   cases i with
   |v q=>cases ri;cases z<;>simp [lW]at hn;subst hn;exact⟨_,rfl⟩
   |_=>simp [lW]at hn
  obtain⟨k,rfl⟩:=hz;split
  ·rename_i elem hu
   split
   ·exact VS.none
   ·rename_i s hs
    split
    ·rename_i sz rows
     split
     ·rename_i hsz
      obtain⟨rfl,h0⟩:=hsz;split
      ·rename_i row hrow
       cases r with
       |sN=>simp at hrow
       |sF _ _ a cap cells hb hcap hr hc hrep=>
        have hlt:n.toNat<rows.length:=by
         rcases gg n.toNat rows.length with q|q
         ·exact q
         ·rw[gb q]at hrow;cases hrow
        rw[ga hlt]at hrow;injection hrow with hrow;subst hrow;have hne:rows≠ []:=by intro e;subst e;simp at hlt
        obtain⟨b1,b2,b3⟩:=hb hne;obtain⟨ab,ao,asp⟩:=a;simp only at b1 b2 b3;subst b1;refine VS.of_pure H ⟨.pointer (some ⟨ab,ao+n.toNat*s,none⟩),?_,?_⟩
        ·have:n<(rows.length:Int):=om
         simp [Instr.indexAt,asIntOf,run_underlying hu,bS hs,h0,this,oA]
        ·exact .pF rows[n.toNat] 0 ab (ao+n.toNat*s) (cells n.toNat) b2 b3 (fun j hj=>hc _ hlt j hj) (fun j hj=>hrep _ hlt j hj)
      ·exact VS.none
     ·exact VS.none
    ·rename_i id off len
     split
     ·rename_i o ho
      split
      ·rename_i hsz
       obtain⟨rfl,h0,h1⟩:=hsz;cases r with
       |sO _ _ _ cap l c e fr hl hcap hb hsize=>
        obtain⟨l',c',fr',q1,la⟩:=H.live id o ho;rw[hl]at q1;injection q1 with q1;subst q1;refine VS.of_pure H ⟨.pointer (some ⟨l.blk,l.base+(off+n.toNat)*l.sz+0,none⟩),?_,.pO id _ 0 l hl⟩;have e1:l.base+off*l.sz+n.toNat*o.sz=l.base+(off+n.toNat)*l.sz:=by rw[la.sz,ge];omega
        simp [Instr.indexAt,asIntOf,run_underlying hu,bS hs,h0,h1,oA,e1]
      ·exact VS.none
     ·exact VS.none
    ·exact VS.none
  ·rename_i len elem hu
   split
   ·exact VS.none
   ·rename_i s hs
    split
    ·rename_i hn0
     obtain⟨h0,h1⟩:=hn0;split
     ·rename_i row off
      cases r with
      |pF _ _ b o cells hb hm hc hr=>
       refine VS.of_pure H ⟨.pointer (some ⟨b,o+(off+n.toNat*s),none⟩),?_,.pF row _ b o cells hb hm hc hr⟩;simp [Instr.indexAt,asIntOf,run_underlying hu,bS hs,h0,h1,Instr.sureAddr,oA,ka]
     ·rename_i id r' off
      cases r with
      |pO _ _ _ l hl=>
       refine VS.of_pure H ⟨.pointer (some ⟨l.blk,l.base+r'*l.sz+(off+n.toNat*s),none⟩),?_,.pO id r' _ l hl⟩;simp [Instr.indexAt,asIntOf,run_underlying hu,bS hs,h0,h1,Instr.sureAddr,oA,ka]
     ·exact VS.none
    ·exact VS.none
  ·exact VS.none
def leaves (x:V):Option (List V):=
 match norm x with
 | .agg xs=>some xs
 | .tup _=>none
 | .any=>none
 |y=>some [y]
def eZ:V->Bool
 | .v x=>x.oneCell'
 | .any=>false
 | .agg _=>false
 | .tup _=>false
 |_=>true
theorem FN {w ι M} {x:V} {y:Value} (r:Rep w ι M x y):(∃t l,x = .sL t l)\/(∃a b,x = .oL a b)->y.oneCell'=true:=by
 rintro(⟨t,l,rfl⟩|⟨a,b,rfl⟩)
 ·cases r with
  |sL _ _ _ r=>
   generalize List.map t.row l=q at r;cases r<;>rfl
 ·cases r with
  |oL _ _ _ r=>
   by_cases hb:b=0
   ·rw[if_pos hb]at r;cases r;rfl
   ·rw[if_neg hb]at r;cases r;rfl
theorem xW {w ι M} {x:V} {y:Value} (r:Rep w ι M x y) (h:eZ x=true):y.oneCell'=true:=by
 cases x with
 |sL t l=>exact FN r (.inl ⟨t,l,rfl⟩)
 |oL a b=>exact FN r (.inr ⟨a,b,rfl⟩)
 |_=>cases r<;>simp_all [eZ,Value.oneCell']
theorem qY7 {x:V} {u:Value} (h:norm x = .v u):u.oneCell'=true:=by
 cases x with
 |v q=>cases q<;>simp only[norm,ofValue]at h<;>first|(injection h with h;subst h;rfl)|cases h
 |_=>simp [norm]at h
theorem BH {y:Value} (h:y.oneCell'=true):y.cells = #[y]:=by
 cases y<;>first|rfl|(simp [Value.oneCell']at h)
theorem xX {w ι M} {x:V} {y:Value} {ls:List V} (r:Rep w ι M x y) (h:leaves x=some ls) :
  ls.length=y.cells.size/\∀i,(h:i<ls.length)->(h':i<y.cells.size)->Rep w ι M ls[i] y.cells[i]:=by
 have rn:=r.norm;have hv:=@qY7 x;unfold leaves at h;generalize norm x=q at *;split at h
 ·injection h with h;subst h
  cases rn with
  |agg _ vs hl hr=>exact⟨hl,hr⟩
 ·cases h
 ·cases h
 ·rename_i z n1 n2 n3
  injection h with h;subst h;have hy:y.cells = #[y]:=by
   cases rn with
   |v u=>exact BH (hv rfl)
   |any=>simp_all
   |agg=>simp_all
   |tup=>simp_all
   |sL t l _ r=>exact BH (FN (.sL t l _ r) (.inl ⟨t,l,rfl⟩))
   |oL a b _ r=>exact BH (FN (.oL a b _ r) (.inr ⟨a,b,rfl⟩))
   |_=>rfl
  rw[hy];refine⟨rfl,fun i h1 h2=>?_⟩;simp at h1;subst h1;simpa using rn
def FZ (h:Heap) (c a b:V):Option (V×Heap):=
 match c with
 | .v (.bool t)=>some (if t then a else b,h)
 |_=>none
def UJ (h:Heap) (new:Nat) (elem:TypeId) (x:V):Option (V×Heap):=
 match leaves x with
 |some ls=>match halloc h new ⟨ls.length,[ls],elem⟩with
  |some h'=>some (.pO new 0 0,h')
  |none=>none
 |none=>none
theorem qJF {h:Heap} {ι:Iota} {w:World} (H:HRel h ι w) {new:Nat} {elem:TypeId} {ls:List V} {h':Heap} {y:Value}
  (e:halloc h new ⟨ls.length,[ls],elem⟩=some h') (hl:ls.length=y.cells.size)
  (hr:∀i,(h1:i<ls.length)->(h2:i<y.cells.size)->Rep w ι (Mt h ι) ls[i] y.cells[i]) :
  HRel h' (ι.put new ⟨w.heap.size,0,ls.length,gf _⟩) {w with heap:=w.heap.push (.cells y.cells elem)}/\Evolve h ι w h' (ι.put new ⟨w.heap.size,0,ls.length,gf _⟩) {w with heap:=w.heap.push (.cells y.cells elem)}:=by
 refine H.alloc e y.cells (0,0) (Unfr.zero _ _) sm (by simp [hl]) ?_ rfl;intro i hi j hj;simp at hi;subst hi;simp at hj;exact⟨y.cells[j]' om,by simp [gc (show j<y.cells.size by omega)],hr j hj om⟩
theorem qD (ι:Iota) (n:Nat) (l:Loc):(ι.put n l) n=some l:=by simp [Iota.put]
theorem FS {P h ι w} (H:HRel h ι w) {new:Nat} {elem:TypeId} {x:V} {y:Value} (r:Rep w ι (Mt h ι) x y):VS P h ι w (Instr.box elem y) (UJ h new elem x):=by
 unfold UJ;split
 ·rename_i ls hls
  split
  ·rename_i h1 e
   intro x' h' ee;injection ee with ee;injection ee with e1 e2;subst e1 e2;obtain⟨hl,hr⟩:=xX r hls;obtain⟨HH,ev⟩:=qJF H e hl hr;exact⟨.pointer (some ⟨w.heap.size,0+0*ls.length+0,none⟩),_,_,by simp [Instr.box,newVar,newRow],.pO new 0 0 ⟨w.heap.size,0,ls.length,gf _⟩ (qD _ _ _),HH,ev⟩
  ·exact VS.none
 ·exact VS.none
def qI4 (P:Program) (t:TypeId):Option V:=
 match P.info? t with
 |some i=>match i.zero with
  |some z=>some (ofValue z)
  |none=>none
 |none=>none
theorem qLI {P:Program} {t:TypeId} {x:V} (h:qI4 P t=some x):∃z,(∀w:World,(zeroValue t).run P w = .ok z w)/\x=ofValue z:=by
 unfold qI4 at h;split at h
 ·rename_i i hi
  split at h
  ·rename_i z hz
   injection h with h;exact⟨z,fun w=>by simp [zeroValue,typeInfo,hi,hz],h.symm⟩
  ·cases h
 ·cases h
def xI (P:Program) (h:Heap) (new:Nat) (elem:TypeId):Option (V×Heap):=
 match qI4 P elem with
 |some z=>UJ h new elem z
 |none=>none
theorem QU {P h ι w} (H:HRel h ι w) {new:Nat} {elem:TypeId}:VS P h ι w (Instr.alloc elem true (.tuple #[])) (xI P h new elem):=by
 unfold xI;split
 ·rename_i x hx
  obtain⟨z,hz,rfl⟩:=qLI hx;intro x' h' e;obtain⟨y,w',ι',h1,h2,h3,h4⟩:=FS (P:=P) H (new:=new) (elem:=elem) (Rep.ofValue (w:=w) (ι:=ι) (M:=Mt h ι) z) x' h' e;refine⟨y,w',ι',?_,h2,h3,h4⟩;simpa [Instr.alloc,Instr.box,hz]using h1
 ·exact VS.none
theorem fJ {rows:List (List V)} {p:Nat->Nat->V->Prop} (h:∀i j r x,rows[i]? =some r->r[j]? =some x->p i j x) :
  ∀i,(hi:i<rows.length)->∀j,(hj:j<rows[i].length)->p i j rows[i][j]:=
 fun i hi j hj=>h i j rows[i] rows[i][j] (ga hi) (ga hj)
theorem LiveAt.get {w ι M o l c fr} (la:LiveAt w ι M o l c fr) {i j:Nat} {r:List V} {x:V} (hi:o.rows[i]? =some r) (hj:r[j]? =some x) :
  j<o.sz/\i<o.rows.length/\∃y,c[l.base+i*o.sz+j]? =some y/\Rep w ι M x y:=by
 have h1:i<o.rows.length:=by
  rcases gg i o.rows.length with q|q
  ·exact q
  ·rw[gb q]at hi;cases hi
 rw[ga h1]at hi;injection hi with hi;subst hi;have h2:j<o.rows[i].length:=by
  rcases gg j o.rows[i].length with q|q
  ·exact q
  ·rw[gb q]at hj;cases hj
 rw[ga h2]at hj;injection hj with hj;subst hj;have:=la.rows _ (gk h1);exact⟨om,h1,la.reads i h1 j h2⟩
theorem KM {row ls:List V} {off j:Nat} {x:V} (hf:off+ls.length<=row.length) (h:(row.take off++ls++row.drop (off+ls.length))[j]? =some x) :
  (off<=j/\j<off+ls.length/\ls[j-off]? =some x)\/((j<off\/off+ls.length<=j)/\row[j]? =some x):=by
 by_cases h1:j<off
 ·right
  refine⟨.inl h1,?_⟩;rw[kf,gj (by simp;omega),ko h1]at h;exact h
 ·by_cases h2:j<off+ls.length
  ·left
   refine⟨om,h2,?_⟩;rw[kf,gi (by simp;omega),gj (by simp;omega)]at h;simpa [kk (show off<=row.length by omega)]using h
  ·right
   refine⟨.inr om,?_⟩;rw[gi (by simp;omega),gw]at h;rw[<-h];congr 1
   simp;omega
def nZ (P:Program) (h:Heap) (t:TypeId) (p x:V):Option (V×Heap):=
 match p,leaves x,cP P t with
 | .pO id r off,some ls,some n=>if ls.length=n/\ls.all eZ=true then match h[id]? with
     |some (.live o)=>match o.rows[r]? with
      |some row=>if off+n<=row.length/\o.elem.fz<=1 then some (.any,h.set id (.live {o with rows:=o.rows.set r (row.take off++ls++row.drop (off+n))}))else none
      |none=>none
     |_=>none
   else none
 |_,_,_=>none
def US (P:Program) (h:Heap) (ι:Iota) (w:World) (m:Sem Unit) (r:Option (V×Heap)):Prop:=
 ∀x h',r=some (x,h')->x = .any/\∃w' ι',m.run P w = .ok () w'/\HRel h' ι' w'/\Evolve h ι w h' ι' w'
theorem LiveAt.frozen {w ι M o l c fr} (la:LiveAt w ι M o l c fr) {k:Nat} (hk:k<c.size) (hz:l.base+o.elem.fz<=k+1\/o.elem.fz<=1):w.frozen? ⟨l.blk,k,none⟩=false:=by
 have:=la.unfrozen.at' k hk;simp only[World.frozen?,la.blk];simp;omega
theorem RF {P h ι w} (H:HRel h ι w) {t:TypeId} {p x:V} {y z:Value} (r:Rep w ι (Mt h ι) p y) (rx:Rep w ι (Mt h ι) x z) :
  US P h ι w (Instr.storeAt t y z) (nZ P h t p x):=by
 unfold nZ;split
 ·rename_i id rr off ls n hls hn
  split
  ·rename_i hcond
   obtain⟨hlen,hok⟩:=hcond;split
   ·rename_i o ho
    split
    ·rename_i row hrow
     split
     ·rename_i hfit0
      obtain⟨hfit,hfz⟩:=hfit0;intro x' h' e;injection e with e;injection e with e1 e2;subst e1;refine⟨rfl,?_⟩;cases r with
      |pO _ _ _ l hl=>
       obtain⟨l',c,fr,h1,la⟩:=H.live id o ho;rw[hl]at h1;injection h1 with h1;subst h1;obtain⟨hzl,hzr⟩:=xX rx hls;have hlt:rr<o.rows.length:=by
        rcases gg rr o.rows.length with q|q
        ·exact q
        ·rw[gb q]at hrow;cases hrow
       have hrow':o.rows[rr]=row:=by rw[ga hlt]at hrow;injection hrow
       have hrl:row.length=o.sz:=la.rows row (by rw[<-hrow'];exact gk hlt);have hmul:rr*o.sz+o.sz<=o.rows.length*o.sz:=by
        have:(rr+1)*o.sz<=o.rows.length*o.sz:=gh _ hlt;rwa [ge,gu]at this
       have hfits:=la.fits;have hsz:z.cells.toList.length=n:=by simp;omega
       have hone:∀v∈z.cells.toList,v.oneCell'=true:=by
        intro v hv;obtain⟨i,hi,rfl⟩:=km hv;have hi':i<ls.length:=by simp at hi;omega
        have:=hzr i hi' (by simpa using hi);simp only[Array.getElem_toList];exact xW this (gr.1 hok _ (gk hi'))
       have hbound:l.base+rr*o.sz+off+n<=c.size:=om
       have hrun:=run_storeCells_cells (P:=P) l.blk (l.base+rr*l.sz+off) z.cells.toList 0 w
        (fun j hj=>by
          rw[la.cell,la.sz];rw[gc om];rfl)
        (fun j hj=>by rw[la.sz];exact la.frozen om (.inr hfz)) hone
       obtain⟨c',q1,q2,q3,q4,q5⟩:=pB l.blk o.elem.t fr z.cells.toList (l.base+rr*l.sz+off) w c la.blk (by rw[la.sz];omega);have key:=H.upd ho hl la (o':={o with rows:=o.rows.set rr (row.take off++ls++row.drop (off+n))}) q3 q1 q2 rfl rfl ?_ ?_ ?_
       ·refine⟨_,ι,?_,by rw[<-e2];exact key.1,by rw[<-e2];exact key.2⟩
        have hz:z.cells.size=n:=om
        simp only[Instr.storeAt,Instr.sureAddr,storeVar,Sem.run_bind,Sem.run_pure,Result.andThen_ok,bS hn,hz];simpa using hrun
       ·intro r' hr'
        rcases List.mem_or_eq_of_mem_set hr' with h2|h2
        ·exact la.rows r' h2
        ·subst h2
         simp;omega
       ·simpa using hfits
       ·refine fJ (rows:=o.rows.set rr (row.take off++ls++row.drop (off+n))) (p:=fun i j x=>∃y,c'[l.base+i*o.sz+j]? =some y/\Rep w ι (Mt h ι) x y) ?_
        intro i j r x hi hj;by_cases hir:i=rr
        ·subst hir
         rw[List.getElem?_set_self hlt]at hi;injection hi with hi;subst hi;rw[<-hlen]at hj;rcases KM om hj with⟨j1,j2,j3⟩|⟨j1,j3⟩
         ·have hk:=q5 (j-off) om
          refine⟨z.cells[j-off]' om,?_,?_⟩
          ·have ee:l.base+i*o.sz+j=l.base+i*l.sz+off+(j-off):=by rw[la.sz];omega
           rw[ee,hk];rw[ga om];simp
          ·have hz2:=hzr (j-off) om om
           rw[ga om]at j3;injection j3 with j3;rw[<-j3];exact hz2
         ·obtain⟨_,_,u,u1,u2⟩:=la.get hrow j3
          exact⟨u,by rw[q4 _ (by rw[la.sz];rcases j1 with j1|j1;· left;omega
                                 ·right;omega)];exact u1,u2⟩
        ·rw[gl om]at hi
         obtain⟨hjs,hil,u,u1,u2⟩:=la.get hi hj;have hsep:l.base+i*o.sz+j<l.base+rr*o.sz+off\/l.base+rr*o.sz+off+n<=l.base+i*o.sz+j:=by
          rcases Nat.lt_or_gt_of_ne hir with q|q
          ·left
           have:(i+1)*o.sz<=rr*o.sz:=gh _ q;rw[ge,gu]at this;omega
          ·right
           have:(rr+1)*o.sz<=i*o.sz:=gh _ q;rw[ge,gu]at this;omega
         exact⟨u,by rw[q4 _ (by rw[la.sz,hsz];exact hsep)];exact u1,u2⟩
     ·intro _ _ e;cases e
    ·intro _ _ e;cases e
   ·intro _ _ e;cases e
  ·intro _ _ e;cases e
 ·intro _ _ e;cases e
def PW2 (w:World) (ι:Iota) (M:Nat->Prop) (ls:List V) (c:Array Value):Prop:=
 ls.length=c.size/\∀(k:Nat) (x:V),ls[k]? =some x->∃y,c[k]? =some y/\Rep w ι M x y
def afill (place:Nat->Option (Nat×Nat)):List V->List (Nat×V)->Option (List V)
 |ls,[]=>some ls
 |ls,(i,x)::rest=>match place i,leaves x with
  |some (off,size),some xs=>if xs.length=size/\off+xs.length<=ls.length then afill place (ls.take off++xs++ls.drop (off+xs.length)) rest else none
  |_,_=>none
theorem DT (off:Nat):∀(vs:List Value) (k:Nat) (c:Array Value),off+k+vs.length<=c.size ->
  let c':=(vs.zipIdx k).foldl (fun cs (p:Value×Nat)=>cs.setIfInBounds (off+p.2) p.1) c
  c'.size=c.size/\(∀j,(j<off+k\/off+k+vs.length<=j)->c'[j]? =c[j]?)/\(∀j,j<vs.length->c'[off+k+j]? =vs[j]?)
 | [],k,c,_=>⟨rfl,fun _ _=>rfl,fun j hj=>by simp at hj⟩
 |v::r,k,c,h=>by
  simp only[gp]at h;obtain⟨h1,h2,h3⟩:=DT off r (k+1) (c.setIfInBounds (off+k) v) (by simp;omega);simp only[List.zipIdx_cons,List.foldl_cons];refine⟨by rw[h1];simp,fun j hj=>?_,fun j hj=>?_⟩
  ·rw[h2 j (by simp only[gp]at hj;omega)]
   rw[kg (by simp only[gp]at hj;omega)]
  ·cases j with
   |zero=>
    rw[h2 _ om];simp [kj];omega
   |succ j=>
    have:=h3 j (by simpa using hj);rw[show off+k+(j+1)=off+(k+1)+j by omega,this];simp
theorem qR {w ι M} {place:Nat->Option (Nat×Nat)}:∀(parts:List (Nat×V)) (vparts:List (Nat×Value)) (ls:List V) (c:Array Value) (ls':List V),
  PW2 w ι M ls c->parts.length=vparts.length->(∀(k i:Nat) (x:V),parts[k]? =some (i,x)->∃y,vparts[k]? =some (i,y)/\Rep w ι M x y)->afill place ls parts=some ls' ->
  ∃c',Instr.fill place c vparts=some c'/\PW2 w ι M ls' c'/\c'.size=c.size
 | [],vparts,ls,c,ls',hp,hl,_,h=>by
   cases vparts with
   |nil=>simp [afill]at h;subst h;exact⟨c,rfl,hp,rfl⟩
   |cons=>simp at hl
 |(i,x)::rest,vparts,ls,c,ls',hp,hl,hr,h=>by
  cases vparts with
  |nil=>simp at hl
  |cons q vrest=>
   obtain⟨y,hy,rxy⟩:=hr 0 i x sm;simp at hy;subst hy;simp only[afill]at h;split at h
   ·rename_i off size xs hplace hxs
    split at h
    ·rename_i hc
     obtain⟨c1,c2⟩:=hc;obtain⟨l1,l2⟩:=xX rxy hxs;have hsz:=hp.1;obtain⟨f1,f2,f3⟩:=DT off y.cells.toList 0 c (by simp;omega);simp only[ks]at f1 f2 f3;have hlen2:y.cells.toList.length=xs.length:=by simp;omega
     have hp':PW2 w ι M (ls.take off++xs++ls.drop (off+xs.length)) (y.cells.toList.zipIdx.foldl (fun cs (p:Value×Nat)=>cs.setIfInBounds (off+p.2) p.1) c):=by
      refine⟨by rw[f1];simp;omega,fun k z hz=>?_⟩;rcases KM om hz with⟨j1,j2,j3⟩|⟨j1,j3⟩
      ·have hk:=f3 (k-off) om
       have hk2:k-off<y.cells.size:=om
       refine⟨y.cells[k-off],?_,?_⟩
       ·rw[show off+(k-off)=k by omega]at hk
        rw[hk];rw[ga (by simpa using hk2)];simp
       ·have:=l2 (k-off) om hk2
        rw[ga om]at j3;injection j3 with j3;rw[<-j3];exact this
      ·obtain⟨u,u1,u2⟩:=hp.2 k z j3
       exact⟨u,by rw[f2 k (by rw[hlen2];exact j1)];exact u1,u2⟩
     obtain⟨c',q1,q2,q3⟩:=qR rest vrest _ _ ls' hp' (by simpa using hl) (fun k j z hz=>by
      have:=hr (k+1) j z (by simpa using hz);simpa using this) h
     refine⟨c',?_,q2,by rw[q3,f1]⟩;simp only[Instr.fill,hplace];rw[if_neg (by simp;omega)];rw[<-Array.foldl_toList,Array.toList_zipIdx];exact q1
    ·cases h
   ·cases h
theorem JK {w ι M} (c:Array Value):PW2 w ι M (c.toList.map .v) c:=by
 refine⟨sm,fun k x hx=>?_⟩;rw[gx]at hx;rw[<-go];cases h:c.toList[k]? with
 |none=>rw[h]at hx;simp at hx
 |some y=>
  rw[h]at hx;simp at hx;subst hx;exact⟨y,rfl,.v y⟩
def dB (P:Program) (t:TypeId):Option (List V):=
 match P.info? t with
 |some i=>match i.zero with
  |some z=>some (z.cells.toList.map .v)
  |none=>none
 |none=>none
theorem iM {P:Program} {t:TypeId} {ls:List V} (h:dB P t=some ls):∃z,(∀w:World,(zeroValue t).run P w = .ok z w)/\ls=z.cells.toList.map .v:=by
 unfold dB at h;split at h
 ·rename_i i hi
  split at h
  ·rename_i z hz
   injection h with h;exact⟨z,fun w=>by simp [zeroValue,typeInfo,hi,hz],h.symm⟩
  ·cases h
 ·cases h
def uR (P:Program):List Field->Option (List (Nat×Nat))
 | []=>some []
 |f::r=>match cP P f.type,uR P r with
  |some n,some l=>some ((f.offset,n)::l)
  |_,_=>none
theorem zR {P:Program} {w:World}:∀(fs:List Field) (l:List (Nat×Nat)),uR P fs=some l ->
  (fs.mapM fun f=>(do pure (f.offset,<-sizeOf f.type):Sem (Nat×Nat))).run P w = .ok l w
 | [],l,h=>by simp [uR]at h;subst h;rfl
 |f::r,l,h=>by
  simp only[uR]at h;split at h
  ·rename_i n l' hn hl
   injection h with h;subst h;have ih:=zR (w:=w) r l' hl;simp only[List.mapM_cons,Sem.run_bind,bS hn,Result.andThen_ok,ih,Sem.run_pure]
  ·cases h
def sK (P:Program) (h:Heap) (t:TypeId) (ps:List (Nat×V)):Option (V×Heap):=
 match P.underlying t,dB P t with
 |some (.struct fields),some zs=>match uR P fields.toList with
  |some places=>match afill (fun i=>places[i]?) zs ps with
   |some ls=>some (.agg ls,h)
   |none=>none
  |none=>none
 |some (.array _ elem),some zs=>match cP P elem with
  |some size=>match afill (fun i=>some (i*size,size)) zs ps with
   |some ls=>some (.agg ls,h)
   |none=>none
  |none=>none
 |_,_=>none
theorem GB {w ι M} {ls:List V} {c:Array Value} (h:PW2 w ι M ls c):Rep w ι M (.agg ls) (.agg c):=by
 refine .agg _ _ h.1 (fun i h1 h2=>?_);obtain⟨y,e1,e2⟩:=h.2 i ls[i] (ga h1);rw[gc h2]at e1;injection e1 with e1;rw[e1];exact e2
theorem QV {P h ι w} (H:HRel h ι w) {t:TypeId} {ps:List (Nat×V)} {vps:Array (Nat×Value)} (hl:ps.length=vps.size)
  (hr:∀(k i:Nat) (x:V),ps[k]? =some (i,x)->∃y,vps[k]? =some (i,y)/\Rep w ι (Mt h ι) x y):VS P h ι w (Instr.build t vps) (sK P h t ps):=by
 unfold sK;split
 ·rename_i fields zs hu hz
  split
  ·rename_i places hp
   split
   ·rename_i ls hf
    obtain⟨z,z1,z2⟩:=iM hz;obtain⟨c',f1,f2,_⟩:=qR (w:=w) (ι:=ι) (M:=Mt h ι) ps vps.toList zs z.cells ls (by rw[z2];exact JK _) (by simpa using hl) (fun k i x hx=>by
     obtain⟨y,y1,y2⟩:=hr k i x hx;exact⟨y,by simpa using y1,y2⟩) hf
    refine VS.of_pure H ⟨.agg c',?_,GB f2⟩;have hpl:=zR (P:=P) (w:=w) fields.toList places hp;have hpl':(fields.mapM fun f=>(do pure (f.offset,<-sizeOf f.type):Sem (Nat×Nat))).run P w = .ok places.toArray w:=by
     rw[<-Array.toArray_toList (xs:=fields),List.mapM_toArray,Sem.run_map,hpl];rfl
    simp only[Instr.build,Sem.run_bind,z1,Result.andThen_ok,run_underlying hu,hpl'];have:(fun(x:Nat)=>places.toArray[x]?)=fun(i:Nat)=>places[i]?:=by funext i;simp
    rw[this,f1];rfl
   ·exact VS.none
  ·exact VS.none
 ·rename_i n elem zs hu hz
  split
  ·rename_i size hs
   split
   ·rename_i ls hf
    obtain⟨z,z1,z2⟩:=iM hz;obtain⟨c',f1,f2,_⟩:=qR (w:=w) (ι:=ι) (M:=Mt h ι) ps vps.toList zs z.cells ls (by rw[z2];exact JK _) (by simpa using hl) (fun k i x hx=>by
     obtain⟨y,y1,y2⟩:=hr k i x hx;exact⟨y,by simpa using y1,y2⟩) hf
    refine VS.of_pure H ⟨.agg c',?_,GB f2⟩;simp only[Instr.build,Sem.run_bind,z1,Result.andThen_ok,run_underlying hu,bS hs];rw[f1];rfl
   ·exact VS.none
  ·exact VS.none
 ·exact VS.none
def chunk (sz:Nat):Nat->List V->List (List V)
 |0,_=>[]
 |n+1,ls=>ls.take sz::chunk sz n (ls.drop sz)
theorem OB {sz:Nat}:∀ {n:Nat} {ls:List V} {i j:Nat} {r:List V} {x:V},(chunk sz n ls)[i]? =some r->r[j]? =some x->ls[i*sz+j]? =some x
 |0,_,_,_,_,_,h,_=>by simp [chunk]at h
 |n+1,ls,0,j,r,x,h,hj=>by
  simp [chunk]at h;subst h;simp only[kd]at hj;split at hj
  ·simpa using hj
  ·cases hj
 |n+1,ls,i+1,j,r,x,h,hj=>by
  simp only[chunk,ke]at h;have:=OB h hj;rw[gw]at this;rw[<-this];congr 1
  rw[ge];omega
theorem OC {sz:Nat}:∀ {n:Nat} {ls:List V},n*sz=ls.length->(chunk sz n ls).length=n/\∀r,r∈chunk sz n ls->r.length=sz
 |0,_,_=>⟨rfl,fun r hr=>by simp [chunk]at hr⟩
 |n+1,ls,h=>by
  have e:n*sz=(ls.drop sz).length:=by rw[ge]at h;simp;omega
  obtain⟨h1,h2⟩:=OC (n:=n) (ls:=ls.drop sz) e;refine⟨by simp [chunk,h1],fun r hr=>?_⟩;simp only[chunk,List.mem_cons]at hr;rcases hr with rfl|hr
  ·rw[ge]at h;simp;omega
  ·exact h2 r hr
def repl (n:Nat) (zs:List V):List V:=(gy n zs).flatten
theorem vQ {n s k:Nat} (h:k<n*s):k%s<s/\k/s<n:=by
 have hs:0<s:=by
  rcases kz s with q|q
  ·subst q;simp at h
  ·exact q
 exact⟨Nat.mod_lt _ hs,(Nat.div_lt_iff_lt_mul hs).2 h⟩
theorem YS {zs:List V}:∀ {n k:Nat} {x:V},(repl n zs)[k]? =some x->k<n*zs.length/\zs[k%zs.length]? =some x
 |0,_,_,h=>by simp [repl]at h
 |n+1,k,x,h=>by
  have e:repl (n+1) zs=zs++repl n zs:=by simp [repl,List.replicate_succ]
  rw[e]at h;rw[ge,gu];by_cases hk:k<zs.length
  ·rw[gj hk]at h
   exact⟨om,by rw[kh hk];exact h⟩
  ·rw[gi om]at h
   obtain⟨h1,h2⟩:=YS h;refine⟨om,?_⟩;rw[<-h2];congr 1
   rw[Nat.mod_eq_sub_mod om]
theorem YT {zs:List V} (n:Nat):(repl n zs).length=n*zs.length:=by simp [repl]
theorem qQR {w ι M} (z:Array Value) (n:Nat):PW2 w ι M (repl n (z.toList.map .v)) ((Array.range (n*z.size)).map (z[· %z.size]!)):=by
 refine⟨by simp [YT],fun k x hx=>?_⟩;obtain⟨h1,h2⟩:=YS hx;simp only[List.length_map,Array.length_toList]at h1 h2;obtain⟨m1,_⟩:=vQ h1;rw[gx]at h2;simp only[go,gc m1,ud,Option.some.injEq]at h2;subst h2;refine⟨z[k%z.size]!,by simp [h1],?_⟩;rw[getElem!_pos z (k%z.size) m1];exact .v _
def gR (P:Program) (h:Heap) (new:Nat) (t:TypeId) (len:Nat) (ps:List (Nat×V)):Option (V×Heap):=
 match P.underlying t with
 |some (.slice elem)=>match cP P elem,dB P elem with
  |some size,some zs=>if zs.length=size/\len*size<=2^24 then
     match afill (fun i=>some (i*size,size)) (repl len zs) ps with
     |some ls=>match halloc h new ⟨size,chunk size len ls,elem⟩with
      |some h'=>some (.sO new 0 len,h')
      |none=>none
     |none=>none
   else none
  |_,_=>none
 |_=>none
theorem qA9 {h:Heap} {ι:Iota} {w:World} (H:HRel h ι w) {new:Nat} {elem:TypeId} {size len:Nat} {ls:List V} {c:Array Value} {h':Heap}
  (e:halloc h new ⟨size,chunk size len ls,elem⟩=some h') (hp:PW2 w ι (Mt h ι) ls c) (hl:len*size=ls.length) :
  HRel h' (ι.put new ⟨w.heap.size,0,size,gf _⟩) {w with heap:=w.heap.push (.cells c elem)}/\Evolve h ι w h' (ι.put new ⟨w.heap.size,0,size,gf _⟩) {w with heap:=w.heap.push (.cells c elem)} /\
   Rep {w with heap:=w.heap.push (.cells c elem)} (ι.put new ⟨w.heap.size,0,size,gf _⟩) (Mt h' (ι.put new ⟨w.heap.size,0,size,gf _⟩)) (.sO new 0 len) (.slice (some ⟨w.heap.size,0,none⟩) len len):=by
 obtain⟨k1,k2⟩:=OC hl;have hps:=hp.1;obtain⟨HH,ev⟩:=H.alloc e c (0,0) (Unfr.zero _ _) (fun r hr=>k2 r hr) (by simp only[k1];omega)
  (fJ (rows:=chunk size len ls) (p:=fun i j x=>∃y,c[i*size+j]? =some y/\Rep w ι (Mt h ι) x y) (fun i j r x hi hj=>hp.2 _ x (OB hi hj))) rfl
 refine⟨HH,ev,?_⟩;have:=Rep.sO (w:={w with heap:=w.heap.push (.cells c elem)}) (ι:=ι.put new ⟨w.heap.size,0,size,gf _⟩) (M:=Mt h' (ι.put new ⟨w.heap.size,0,size,gf _⟩)) new 0 len len ⟨w.heap.size,0,size,gf _⟩ c elem (0,0)
  (qD _ _ _) (gt _) sm (by simp;omega)
 simpa using this
theorem LV {place:Nat->Option (Nat×Nat)}:∀(ps:List (Nat×V)) (ls ls':List V),afill place ls ps=some ls'->ls'.length=ls.length
 | [],ls,ls',h=>by simp [afill]at h;rw[h]
 |(i,x)::r,ls,ls',h=>by
  simp only[afill]at h;split at h
  ·split at h
   ·rename_i hc
    rw[LV r _ _ h];simp;omega
   ·cases h
  ·cases h
theorem yD {P h ι w} (H:HRel h ι w) {new:Nat} {t:TypeId} {len:Nat} {ps:List (Nat×V)} {vps:Array (Nat×Value)} (hl:ps.length=vps.size)
  (hr:∀(k i:Nat) (x:V),ps[k]? =some (i,x)->∃y,vps[k]? =some (i,y)/\Rep w ι (Mt h ι) x y):VS P h ι w (Instr.buildSlice t len vps) (gR P h new t len ps):=by
 unfold gR;split
 ·rename_i elem hu
  split
  ·rename_i size zs hs hz
   split
   ·rename_i hcond
    obtain⟨c1,c2⟩:=hcond;split
    ·rename_i ls hf
     split
     ·rename_i h1 e
      intro x' h' ee;injection ee with ee;injection ee with e1 e2;subst e1 e2;obtain⟨z,z1,z2⟩:=iM hz;have hzs:z.cells.size=size:=by rw[<-c1,z2];simp
      have hp0:PW2 w ι (Mt h ι) (repl len zs) ((Array.range (len*size)).map (z.cells[· %z.cells.size]!)):=by
       have:=qQR (w:=w) (ι:=ι) (M:=Mt h ι) z.cells len;rw[z2];rw[hzs]at this ⊢;exact this
      obtain⟨c',f1,f2,f3⟩:=qR ps vps.toList _ _ ls hp0 (by simpa using hl) (fun k i x hx=>by
       obtain⟨y,y1,y2⟩:=hr k i x hx;exact⟨y,by simpa using y1,y2⟩) hf
      have hlen:=LV _ _ _ hf;rw[YT,c1]at hlen;obtain⟨HH,ev,rp⟩:=qA9 H e f2 hlen.symm;refine⟨_,_,_,?_,rp,HH,ev⟩;simp only[Instr.buildSlice,Sem.run_bind,run_underlying hu,Result.andThen_ok,bS hs];rw[if_neg om];by_cases h0:len*size=0
      ·simp only[h0,if_true,pure_bind]
       have hempty:(Array.range 0).map (fun x=>(#[]:Array Value)[x%(#[]:Array Value).size]!)=(Array.range (len*size)).map (z.cells[· %z.cells.size]!):=by simp [h0]
       rw[hempty,f1];simp [newRow]
      ·simp only[h0,if_false,Sem.run_bind,z1,Result.andThen_ok,Sem.run_pure]
       rw[f1];simp [newRow]
     ·exact VS.none
    ·exact VS.none
   ·exact VS.none
  ·exact VS.none
 ·exact VS.none
def rI (P:Program) (t:TypeId):Option Nat:=
 match P.info? t with
 |some i=>some i.bytes
 |none=>none
theorem AD {P:Program} {t:TypeId} {n:Nat} (h:rI P t=some n):∃i,P.info? t=some i/\i.bytes=n:=by
 unfold rI at h;split at h
 ·rename_i i hi
  injection h with h;exact⟨i,hi,h⟩
 ·cases h
def dP (P:Program) (h:Heap) (new:Nat) (t:TypeId) (l c:V):Option (V×Heap):=
 match P.underlying t,lW l,lW c with
 |some (.slice elem),some n,some m=>match cP P elem,dB P elem,rI P elem with
  |some size,some zs,some b=>if zs.length=size/\0<=n/\n<=m/\m<=2^48/\b*m<=2^48 then
     match halloc h new ⟨size,gy n.toNat zs,elem⟩with
     |some h'=>some (.sO new 0 n.toNat,h')
     |none=>none
   else none
  |_,_,_=>none
 |_,_,_=>none
theorem BA {w ι M} {x:V} {y:Value} {n:Int} (r:Rep w ι M x y) (h:lW x=some n):∃k,y = .int k n:=by
 cases x with
 |v q=>cases r;cases y<;>simp [lW]at h;subst h;exact⟨_,rfl⟩
 |_=>simp [lW]at h
theorem KY {n:Int} (h0:0<=n) (h1:n<=2^48):IntKind.i64.wrap n=n:=by
 have h2:n<=281474976710656:=by simpa using h1
 exact IntWalk.i64_in n om
theorem xB {zs:List V} {n i j:Nat} {r:List V} {x:V} (h:(gy n zs)[i]? =some r) (hj:r[j]? =some x):i<n/\r=zs:=by
 rw[List.getElem?_replicate]at h;split at h
 ·injection h with h
  exact⟨av,h.symm⟩
 ·cases h
theorem AW {P h ι w} (H:HRel h ι w) {new:Nat} {t:TypeId} {l c:V} {yl yc:Value} (rl:Rep w ι (Mt h ι) l yl) (rc:Rep w ι (Mt h ι) c yc) :
  VS P h ι w (Instr.makeSlice t yl yc) (dP P h new t l c):=by
 unfold dP;split
 ·rename_i elem n m hu hn hm
  split
  ·rename_i size zs b hs hz hb
   split
   ·rename_i hcond
    obtain⟨c1,c2,c3,c4,c5⟩:=hcond;split
    ·rename_i h1 e
     intro x' h' ee;injection ee with ee;injection ee with e1 e2;subst e1 e2;obtain⟨kl,rfl⟩:=BA rl hn;obtain⟨kc,rfl⟩:=BA rc hm;obtain⟨z,z1,z2⟩:=iM hz;obtain⟨inf,hi,hbytes⟩:=AD hb;have hzs:z.cells.size=size:=by rw[<-c1,z2];simp
     have w1:IntKind.i64.wrap n=n:=KY c2 om;have w2:IntKind.i64.wrap m=m:=KY om c4;obtain⟨cells,hcells⟩:∃c:Array Value,c=(Array.range (m.toNat*size)).map (z.cells[· %z.cells.size]!):=⟨_,rfl⟩
     have hcs:cells.size=m.toNat*size:=by simp [hcells]
     have hle:n.toNat*size<=m.toNat*size:=gh _ om;obtain⟨HH,ev⟩:=H.alloc e cells (0,0) (Unfr.zero _ _) (fun r hr=>by rw[kb hr];exact c1) (by simp only[List.length_replicate];omega)
      (fJ (rows:=gy n.toNat zs) (p:=fun i j x=>∃y,cells[i*size+j]? =some y/\Rep w ι (Mt h ι) x y) (fun i j r x hi hj=>by
        obtain⟨q1,q2⟩:=xB hi hj;subst q2;have hj':j<size:=by
         rcases gg j r.length with q|q
         ·omega
         ·rw[gb q]at hj;cases hj
        have hk:i*size+j<m.toNat*size:=by
         have:(i+1)*size<=m.toNat*size:=gh _ om;rw[ge,gu]at this;omega
        have hmod:(i*size+j)%size=j:=by rw[ht,ku,kh hj']
        refine⟨z.cells[j]' om,?_,?_⟩
        ·simp [hcells,hzs,hk,hmod]
         rw[getElem!_pos z.cells j om]
        ·rw[z2,gx,go,gc om]at hj
         simp at hj;subst hj;exact .v _)) rfl
     refine⟨.slice (some ⟨w.heap.size,0,none⟩) n.toNat m.toNat,_,_,?_,?_,HH,ev⟩
     ·simp only[Instr.makeSlice,Sem.run_bind,run_underlying hu,Result.andThen_ok,asInt,asIntOf,Sem.run_pure,typeInfo,run_program,hi,hbytes,w1,w2]
      have t1:(decide (m<0)||decide ((b:Int)*m>2^48))=false:=by simp;omega
      have hcc:((((decide (m<0)||decide ((b:Int)*m>2^48))||decide (n<0))||decide (n>m))=true)=False:=by
       simp;omega
      simp only[hcc,if_false,Sem.run_bind,run_askRoom,Result.andThen_ok,bS hs];by_cases h0:m.toNat*size=0
      ·simp only[h0,if_true,pure_bind]
       have r0:Array.range 0 = #[]:=by simp [Array.range]
       have:cells = #[]:=by rw[hcells,h0,r0];simp
       rw[this];simp [newRow,r0]
      ·simp only[h0,if_false,Sem.run_bind,z1,Result.andThen_ok,Sem.run_pure]
       rw[hcells];simp [newRow]
     ·have:=Rep.sO (w:={w with heap:=w.heap.push (.cells cells elem)}) (ι:=ι.put new ⟨w.heap.size,0,size,gf _⟩) (M:=Mt h1 (ι.put new ⟨w.heap.size,0,size,gf _⟩)) new 0 n.toNat m.toNat ⟨w.heap.size,0,size,gf _⟩ cells elem (0,0)
        (qD _ _ _) om sm (by simp;omega)
      simpa using this
    ·exact VS.none
   ·exact VS.none
  ·exact VS.none
 ·exact VS.none
def bound (x:Option V) (d:Nat):Option Nat:=
 match x with
 |none=>some d
 |some (.v (.int _ n))=>if 0<=n then some n.toNat else none
 |_=>none
def fG (P:Program) (h:Heap) (t:TypeId) (x:V) (lo hi:Option V):Option (V×Heap):=
 match x with
 | .sF sz rows=>match P.underlying t,bound lo 0,bound hi rows.length with
   |some (.slice elem),some l,some u=>match cP P elem with
    |some s=>if s=sz/\l<=u/\u<=rows.length then some (.sF sz ((rows.take u).drop l),h)else none
    |none=>none
   |_,_,_=>none
 | .sO id off len=>match P.underlying t,bound lo 0,bound hi len with
   |some (.slice elem),some l,some u=>match cP P elem,h[id]? with
    |some s,some (.live o)=>if o.sz=s/\l<=u/\u<=len then
       if l=u/\l≠0 then some (.sF s [],h)else some (.sO id (off+l) (u-l),h)
     else none
    |_,_=>none
   |_,_,_=>none
 |_=>none
theorem MG {P:Program} {w w₀:World} {ι:Iota} {M:Nat->Prop} {x:Option V} {y:Option Value} {d n c:Nat} {code:BoundsCode}
  (hxy:(x=none/\y=none)\/∃a b,x=some a/\y=some b/\Rep w ι M a b) (h:bound x d=some n) (hc:n<=c) :
  (match y with|some v=>Instr.sliceBound v c code|none=>pure d:Sem Nat).run P w₀ = .ok n w₀:=by
 rcases hxy with⟨rfl,rfl⟩|⟨a,b,rfl,rfl,r⟩
 ·simp [bound]at h
  simp [h]
 ·cases a with
  |v q=>
   cases r;cases b<;>simp [bound]at h
   obtain⟨h0,h1⟩:=h;rename_i k m;have:m<=(c:Int):=om
   simp [Instr.sliceBound,asIntOf,h0,this,h1]
  |_=>simp [bound]at h
def xH (w:World) (ι:Iota) (M:Nat->Prop) (x:Option V) (y:Option Value):Prop:=
 (x=none/\y=none)\/∃a b,x=some a/\y=some b/\Rep w ι M a b
theorem oH {P:Program} {w w₀:World} {ι:Iota} {M:Nat->Prop} {lo hi:Option V} {ylo yhi:Option Value} {len cap l u:Nat}
  (rlo:xH w ι M lo ylo) (rhi:xH w ι M hi yhi) (hl:bound lo 0=some l) (hu:bound hi len=some u) (h1:l<=u) (h2:u<=len) (h3:len<=cap) :
  (Instr.sliceBounds true len cap ylo yhi none).run P w₀ = .ok (l,u,cap) w₀:=by
 have e1:=fun code=>MG (P:=P) (w₀:=w₀) (c:=cap) (code:=code) rhi hu om
 have e2:=fun code=>MG (P:=P) (w₀:=w₀) (c:=u) (code:=code) rlo hl h1
 rcases rhi with⟨rfl,rfl⟩|⟨a,b,rfl,rfl,r⟩<;>rcases rlo with⟨rfl,rfl⟩|⟨a',b',rfl,rfl,r'⟩<;>simp at e1 e2<;>simp [Instr.sliceBounds,e1,e2]
theorem LT {rows:List (List V)} {l u i:Nat} {r:List V} (h:((rows.take u).drop l)[i]? =some r):rows[l+i]? =some r:=by
 rw[gw,kd]at h;split at h
 ·exact h
 ·cases h
theorem qS6 {w:World} {ι:Iota} {M:Nat->Prop} {sz:Nat} {rows:List (List V)} {a:Addr} {cells:Nat->Nat->Value}
  (hc:∀i,(h:i<rows.length)->∀j,(h':j<rows[i].length)->w.cell? ⟨a.block,a.off+i*sz+j,none⟩=some (cells i j))
  (hrep:∀i,(h:i<rows.length)->∀j,(h':j<rows[i].length)->Rep w ι M rows[i][j] (cells i j)) {i j:Nat} {r:List V} {x:V}
  (hi:rows[i]? =some r) (hj:r[j]? =some x):∃z,w.cell? ⟨a.block,a.off+i*sz+j,none⟩=some z/\Rep w ι M x z:=by
 have h1:i<rows.length:=by
  rcases gg i rows.length with q|q
  ·exact q
  ·rw[gb q]at hi;cases hi
 rw[ga h1]at hi;injection hi with hi;subst hi;have h2:j<rows[i].length:=by
  rcases gg j rows[i].length with q|q
  ·exact q
  ·rw[gb q]at hj;cases hj
 rw[ga h2]at hj;injection hj with hj;subst hj;exact⟨_,hc i h1 j h2,hrep i h1 j h2⟩
theorem Rep.sF_opt {w ι M} {sz:Nat} {rows:List (List V)} {y:Value} (r:Rep w ι M (.sF sz rows) y) :
  (rows= []/\y = .slice none 0 0)\/∃a cap,y = .slice (some a) rows.length cap/\(rows≠ []->a.spot=none/\a.block<w.heap.size/\¬M a.block)/\rows.length<=cap/\(∀r,r∈rows->r.length=sz) /\
    ∀(i j:Nat) (r:List V) (x:V),rows[i]? =some r->r[j]? =some x->∃z,w.cell? ⟨a.block,a.off+i*sz+j,none⟩=some z/\Rep w ι M x z:=by
 cases r with
 |sN=>exact .inl ⟨rfl,rfl⟩
 |sF _ _ a cap cells hb hcap hr hc hrep=>
  exact .inr ⟨a,cap,rfl,hb,hcap,hr,fun i j r x hi hj=>qS6 hc hrep hi hj⟩
theorem Rep.sF_mk {w ι M} {sz:Nat} {rows:List (List V)} (a:Addr) (cap:Nat) (hb:rows≠ []->a.spot=none/\a.block<w.heap.size/\¬M a.block) (hcap:rows.length<=cap)
  (hr:∀r,r∈rows->r.length=sz)
  (h:∀(i j:Nat) (r:List V) (x:V),rows[i]? =some r->r[j]? =some x->∃z,w.cell? ⟨a.block,a.off+i*sz+j,none⟩=some z/\Rep w ι M x z) :
  Rep w ι M (.sF sz rows) (.slice (some a) rows.length cap):=by
 have hch:∀i,∀j,∃z,∀(hi:i<rows.length) (hj:j<rows[i].length),w.cell? ⟨a.block,a.off+i*sz+j,none⟩=some z/\Rep w ι M rows[i][j] z:=by
  intro i j;by_cases hi:i<rows.length
  ·by_cases hj:j<rows[i].length
   ·obtain⟨z,h1,h2⟩:=h i j rows[i] rows[i][j] (ga hi) (ga hj)
    exact⟨z,fun _ _=>⟨h1,h2⟩⟩
   ·exact⟨undef,fun _ q=>absurd q hj⟩
  ·exact⟨undef,fun q=>absurd q hi⟩
 have hch2:∀i,∃f:Nat->Value,∀j,∀(hi:i<rows.length) (hj:j<rows[i].length),w.cell? ⟨a.block,a.off+i*sz+j,none⟩=some (f j)/\Rep w ι M rows[i][j] (f j):=
  fun i=>gq (hch i)
 obtain⟨f,hf⟩:=gq hch2;exact .sF sz rows a cap f hb hcap hr (fun i hi j hj=>(hf i j hi hj).1) (fun i hi j hj=>(hf i j hi hj).2)
theorem RC {P h ι w} (H:HRel h ι w) {t:TypeId} {x:V} {y:Value} {lo hi:Option V} {ylo yhi:Option Value} (r:Rep w ι (Mt h ι) x y)
  (rlo:xH w ι (Mt h ι) lo ylo) (rhi:xH w ι (Mt h ι) hi yhi):VS P h ι w (Instr.sliceAt t y ylo yhi none) (fG P h t x lo hi):=by
 unfold fG;split
 ·rename_i sz rows
  split
  ·rename_i elem l u hu hl hh
   split
   ·rename_i s hs
    split
    ·rename_i hc
     obtain⟨rfl,c1,c2⟩:=hc;rcases r.sF_opt with⟨rfl,rfl⟩|⟨a,cap,rfl,hb,hcap,hr,hcells⟩
     ·simp only[List.length_nil]at c2
      obtain rfl:u=0:=om
      obtain rfl:l=0:=om
      have hb':=oH (P:=P) (w₀:=w) (cap:=0) rlo rhi hl hh om sm sm;simp only[List.length_nil]at hb';refine VS.of_pure H ⟨.slice none 0 0,?_,by simpa using Rep.sN _⟩;simp only[Instr.sliceAt,Sem.run_bind,run_underlying hu,Result.andThen_ok,Instr.slice,hb',bS hs,Sem.run_pure];simp
     have hb':=oH (P:=P) (w₀:=w) rlo rhi hl hh c1 c2 hcap;have hlen:((rows.take u).drop l).length=u-l:=by simp;omega
     refine VS.of_pure H ⟨.slice (some (if cap=l then a else a.add (l*s))) (u-l) (cap-l),?_,?_⟩
     ·simp only[Instr.sliceAt,Sem.run_bind,run_underlying hu,Result.andThen_ok,Instr.slice,hb',bS hs,Sem.run_pure]
      split<;>rfl
     ·rw[<-hlen]
      by_cases hcl:cap=l
      ·have:(rows.take u).drop l= []:=List.eq_nil_of_length_eq_zero om
       rw[this];exact Rep.sF_mk _ _ (fun q=>absurd rfl q) sm sm (by intro i j r x hi;simp at hi)
      ·rw[if_neg hcl]
       refine Rep.sF_mk _ _ (fun q=>?_) om (fun r hr'=>hr r (gz (ki hr'))) (fun i j r x hi hj=>?_)
       ·have hne:rows≠ []:=by intro e;subst e;simp at q
        obtain⟨b1,b2,b3⟩:=hb hne;unfold Addr.add;split<;>exact⟨by first|rfl|exact b1,b2,b3⟩
       ·have hi':=LT hi
        obtain⟨z,z1,z2⟩:=hcells _ _ _ _ hi' hj;refine⟨z,?_,z2⟩;have hadd:(a.add (l*s)).block=a.block/\(a.add (l*s)).off=a.off+l*s:=by
         unfold Addr.add;split<;>simp_all
        rw[hadd.1,hadd.2,<-z1];congr 2
        rw[ge];omega
    ·exact VS.none
   ·exact VS.none
  ·exact VS.none
 ·rename_i id off len
  split
  ·rename_i elem l u hu hl hh
   split
   ·rename_i s o hs ho
    split
    ·rename_i hc
     obtain⟨hsz,c1,c2⟩:=hc;cases r with
     |sO _ _ _ cap lc c e fr hlc hcap hb hsize=>
      obtain⟨l',c',fr',q1,la⟩:=H.live id o ho;rw[hlc]at q1;injection q1 with q1;subst q1;have hb':=oH (P:=P) (w₀:=w) rlo rhi hl hh c1 c2 hcap;have hrun:(Instr.sliceAt t (.slice (some ⟨lc.blk,lc.base+off*lc.sz,none⟩) len cap) ylo yhi none).run P w =
        .ok (.slice (some (if cap=l then⟨lc.blk,lc.base+off*lc.sz,none⟩else(⟨lc.blk,lc.base+off*lc.sz,none⟩:Addr).add (l*s))) (u-l) (cap-l)) w:=by
       simp only[Instr.sliceAt,Sem.run_bind,run_underlying hu,Result.andThen_ok,Instr.slice,hb',bS hs,Sem.run_pure];split<;>rfl
      split
      ·rename_i hlu
       obtain⟨hlu,_⟩:=hlu;refine VS.of_pure H ⟨_,hrun,?_⟩;have e0:u-l=([]:List (List V)).length:=by simp;omega
       rw[e0];exact Rep.sF_mk _ _ (fun q=>absurd rfl q) sm sm (by intro i j r x hi;simp at hi)
      ·rename_i hlu
       refine VS.of_pure H ⟨_,hrun,?_⟩;have haddr:(if cap=l then(⟨lc.blk,lc.base+off*lc.sz,none⟩:Addr)else(⟨lc.blk,lc.base+off*lc.sz,none⟩:Addr).add (l*s))=⟨lc.blk,lc.base+(off+l)*lc.sz,none⟩:=by
        have e1:lc.base+off*lc.sz+l*s=lc.base+(off+l)*lc.sz:=by rw[<-hsz,la.sz,ge];omega
        by_cases hcl:cap=l
        ·have hl0:l=0:=by
           rcases kz l with q|q
           ·exact q
           ·exfalso;exact hlu ⟨om,om⟩
         rw[if_pos hcl,hl0];simp
        ·rw[if_neg hcl,oA,e1]
       rw[haddr];refine .sO id (off+l) (u-l) (cap-l) lc c e fr hlc om hb ?_;have:off+l+(cap-l)=off+cap:=om
       rw[this];exact hsize
    ·exact VS.none
   ·exact VS.none
  ·exact VS.none
 ·exact VS.none
def fM:V->Bool
 | .v (.slice none 0 0)=>true
 |_=>false
def kH (b:UInt8):List V:=[.v (.int .u8 b.toNat)]
def cM (h:Heap) (s:Nat) (y:V):Option (List (List V)):=
 match y with
 | .sF sz rows=>if sz=s then some rows else none
 | .sO id off len=>match h[id]? with
   |some (.live o)=>if o.sz=s/\off+len<=o.rows.length then some ((o.rows.drop off).take len)else none
   |_=>none
 | .v (.slice none 0 0)=>some []
 | .v (.string b)=>if s=1 then some (b.data.toList.map kH)else none
 |_=>none
structure CM (w:World) (ι:Iota) (M:Nat->Prop) (s:Nat) (rows:List (List V)) (c:Array Value):Prop where
 size:c.size=rows.length*s
 lens:∀r,r∈rows->r.length=s
 get:∀(i j:Nat) (r:List V) (x:V),rows[i]? =some r->r[j]? =some x->∃z,c[i*s+j]? =some z/\Rep w ι M x z
theorem aI {α:Type} {l:List α} {i:Nat} {x:α} (h:l[i]? =some x):i<l.length:=by
 rcases gg i l.length with q|q
 ·exact q
 ·rw[gb q]at h;cases h
theorem cD {α:Type} {l:List α} {i:Nat} {x:α} (h:l[i]? =some x):x∈l:=by
 have:=aI h;rw[ga this]at h;injection h with h;rw[<-h];exact gk this
theorem CM.append {w ι M s r1 c1 r2 c2} (a:CM w ι M s r1 c1) (b:CM w ι M s r2 c2):CM w ι M s (r1++r2) (c1++c2):=by
 refine⟨by simp [a.size,b.size,ge],fun r hr=>?_,fun i j r x hi hj=>?_⟩
 ·rcases List.mem_append.1 hr with q|q
  ·exact a.lens r q
  ·exact b.lens r q
 ·by_cases h1:i<r1.length
  ·rw[gj h1]at hi
   obtain⟨z,z1,z2⟩:=a.get i j r x hi hj;refine⟨z,?_,z2⟩;rw[hg]
   ·exact z1
   ·rcases gg (i*s+j) c1.size with q|q
    ·exact q
    ·rw[gm q]at z1;cases z1
  ·rw[gi om]at hi
   obtain⟨z,z1,z2⟩:=b.get _ j r x hi hj;refine⟨z,?_,z2⟩;have e:i*s+j=c1.size+((i-r1.length)*s+j):=by
    rw[a.size];have:i*s=r1.length*s+(i-r1.length)*s:=by rw[<-ge];congr 1;omega
    omega
   rw[e,Array.getElem?_append_right om];simpa using z1
theorem PE {P:Program} {w ι M} {s:Nat} {rows:List (List V)} (a:Addr) (hr:∀r,r∈rows->r.length=s)
  (h:∀(i j:Nat) (r:List V) (x:V),rows[i]? =some r->r[j]? =some x->∃z,w.cell? (a.add (i*s+j))=some z/\Rep w ι M x z) :
  ∃c,(∀w':World,w'.heap=w.heap->(loadCells a (rows.length*s)).run P w' = .ok c w')/\CM w ι M s rows c:=by
 have hch:∀k,∃z,k<rows.length*s->w.cell? (a.add k)=some z/\∀r x,rows[k/s]? =some r->r[k%s]? =some x->Rep w ι M x z:=by
  intro k;by_cases hk:k<rows.length*s
  ·obtain⟨m1,m2⟩:=vQ hk
   have hrow:=ga m2;have hl:=hr _ (gk m2);have hx:=ga (l:=rows[k/s]) (i:=k%s) om;obtain⟨z,z1,z2⟩:=h _ _ _ _ hrow hx;have e:k/s*s+k%s=k:=by rw[ht];exact kv k s
   rw[e]at z1;refine⟨z,fun _=>⟨z1,fun r x q1 q2=>?_⟩⟩;rw[hrow]at q1;injection q1 with q1;subst q1;rw[hx]at q2;injection q2 with q2;subst q2;exact z2
  ·exact⟨undef,fun q=>absurd q hk⟩
 obtain⟨f,hf⟩:=gq hch;refine⟨((List.range (rows.length*s)).map f).toArray,fun w' he=>run_loadCells w' a _ f (fun j hj=>by rw[<-(hf j hj).1];simp only[World.cell?,he]),sm,hr,fun i j r x hi hj=>?_⟩;have h1:=aI hi;have h2:j<s:=by have:=aI hj;rw[hr r (cD hi)]at this;exact this
 have hk:i*s+j<rows.length*s:=by
  have:(i+1)*s<=rows.length*s:=gh _ h1;rw[ge,gu]at this;omega
 have d1:(i*s+j)/s=i:=by
  have hs:0<s:=om
  rw[ht,Nat.mul_add_div hs,Nat.div_eq_of_lt h2,ks]
 have d2:(i*s+j)%s=j:=by rw[ht,ku,kh h2]
 refine⟨f (i*s+j),by simp [hk],(hf _ hk).2 r x (by rw[d1];exact hi) (by rw[d2];exact hj)⟩
theorem BW {h ι w} (H:HRel h ι w) {id:Nat} {o:AObj} {l:Loc} (ho:h[id]? =some (.live o)) (hl:ι id=some l):∃c fr,LiveAt w ι (Mt h ι) o l c fr:=by
 obtain⟨l',c,fr,e,la⟩:=H.live id o ho;rw[hl]at e;injection e with e;subst e;exact⟨c,fr,la⟩
theorem vD {rows:List (List V)} {l n i:Nat} {r:List V} (h:((rows.drop l).take n)[i]? =some r):i<n/\rows[l+i]? =some r:=by
 rw[kd]at h;split at h
 ·rw[gw]at h
  exact⟨av,h⟩
 ·cases h
theorem qG {P:Program} {h ι w} (H:HRel h ι w) {s:Nat} {y:V} {v:Value} {rows:List (List V)} (r:Rep w ι (Mt h ι) y v) (e:cM h s y=some rows) :
  (Builtin.lenOf v).run P w = .ok rows.length w/\∃c,(∀w':World,w'.heap=w.heap->(Builtin.firstCells s rows.length v).run P w' = .ok c w')/\CM w ι (Mt h ι) s rows c:=by
 unfold cM at e;split at e
 ·rename_i sz rows'
  split at e
  ·rename_i hsz
   subst hsz;injection e with e;subst e;rcases r.sF_opt with⟨rfl,rfl⟩|⟨a,cap,rfl,hb,hcap,hr,hcells⟩
   ·exact⟨by simp [Builtin.lenOf],#[],fun w' _=>by simp [Builtin.firstCells],sm,sm,by intro i j r x hi;simp at hi⟩
   refine⟨by simp [Builtin.lenOf],?_⟩;obtain⟨c,c1,c2⟩:=PE (P:=P) (w:=w) (ι:=ι) (M:=Mt h ι) a hr (fun i j r x hi hj=>by
    obtain⟨z,z1,z2⟩:=hcells i j r x hi hj;have hne:rows'≠ []:=by intro q;subst q;simp at hi
    have hsp:=(hb hne).1;refine⟨z,?_,z2⟩;rw[<-z1];unfold Addr.add;obtain⟨ab,ao,asp⟩:=a;simp only at hsp;subst hsp;split
    ·rename_i h0;congr 2;simp;omega
    ·congr 2;omega)
   exact⟨c,fun w' he=>by simpa [Builtin.firstCells]using c1 w' he,c2⟩
  ·cases e
 ·rename_i id off len
  split at e
  ·rename_i o ho
   split at e
   ·rename_i hc
    obtain⟨hsz,hfit⟩:=hc;injection e with e;cases r with
    |sO _ _ _ cap l cc el fr hl hcap hb hsize=>
     obtain⟨c0,fr0,la⟩:=BW H ho hl;have hlen:rows.length=len:=by rw[<-e];simp;omega
     rw[hlen];refine⟨by simp [Builtin.lenOf],?_⟩;obtain⟨c,c1,c2⟩:=PE (P:=P) (w:=w) (ι:=ι) (M:=Mt h ι) (s:=s) (rows:=rows) ⟨l.blk,l.base+off*l.sz,none⟩
      (fun r hr=>by rw[<-e]at hr;rw[<-hsz];exact la.rows r (ki (gz hr)))
      (fun i j r x hi hj=>by
        rw[<-e]at hi;obtain⟨_,hi⟩:=vD hi;obtain⟨_,_,z,z1,z2⟩:=la.get hi hj;refine⟨z,?_,z2⟩;rw[oA,la.cell,<-z1,la.sz,<-hsz];congr 1
        rw[ge];omega)
     rw[hlen]at c1;exact⟨c,fun w' he=>by simpa [Builtin.firstCells]using c1 w' he,c2⟩
   ·cases e
  ·cases e
 ·injection e with e;subst e
  cases r;exact⟨by simp [Builtin.lenOf],#[],fun w' _=>by simp [Builtin.firstCells],sm,sm,by intro i j r x hi;simp at hi⟩
 ·rename_i b
  split at e
  ·rename_i hs
   subst hs;injection e with e;subst e;cases r;have hsz:(b.data.toList.map kH).length=b.size:=sm
   rw[hsz];refine⟨by simp [Builtin.lenOf],b.data.map (fun x=>.int .u8 x.toNat),?_,?_,?_,?_⟩
   ·intro w' _
    simp only[Builtin.firstCells,Sem.run_pure];congr 2
    have:b.extract 0 b.size=b:=by
     apply uj;simp
    rw[this]
   ·simp
   ·intro r hr
    obtain⟨x,_,rfl⟩:=List.mem_map.1 hr;rfl
   ·intro i j r x hi hj
    rw[gx]at hi;cases hq:b.data.toList[i]? with
    |none=>rw[hq]at hi;simp at hi
    |some u=>
     rw[hq]at hi;simp at hi;subst hi;have hj0:j=0:=by have:=aI hj;simp [kH]at this;exact this
     subst hj0;simp [kH]at hj;subst hj;refine⟨.int .u8 u.toNat,?_,.v _⟩;simp only[Nat.mul_one,ks,ua];rw[<-go,hq];rfl
  ·cases e
 ·cases e
theorem OR (n:Nat):∀(k c:Nat),256<=c->c<n->Builtin.growBy n k c<=2*n
 |0,c,_,h=>by simp [Builtin.growBy];omega
 |k+1,c,h0,h=>by
  simp only[Builtin.growBy];split
  ·omega
  ·by_cases h2:c+(c+768)/4<n
   ·exact OR n k _ om h2
   ·cases k with
    |zero=>simp only[Builtin.growBy];omega
    |succ k=>simp only[Builtin.growBy];rw[if_pos om];omega
theorem qUV {need cap:Nat} (h:cap<need):Builtin.nextslicecap need cap<=2*need:=by
 unfold Builtin.nextslicecap;split
 ·omega
 ·split
  ·omega
  ·exact OR need 4 cap om h
def oE (n b:Nat):Bool:=decide (n<=2^47)&&decide (n*b<=2^47)
def qM3 (e:El) (t:TypeId) (off n:Nat):Prop:=e.t=t/\(e.fz<=1\/(off=0/\e.fz<=n+1))
instance (e:El) (t:TypeId) (off n:Nat):Decidable (qM3 e t off n):=by unfold qM3;infer_instance
def bX (P:Program) (h:Heap) (new:Nat) (elem:TypeId) (s b:Nat) (zs:List V) (x:V) (rows:List (List V)):Option (V×Heap):=
 if rows.isEmpty then
  match x with
  | .v q=>if fM (.v q)then some (.v q,h)else none
  | .sF a c=>some (.sF a c,h)
  | .sO a c d=>some (.sO a c d,h)
  |_=>none
 else if zs.length=s/\rows.all (·.all eZ)=true then
  match x with
  | .v q=>if fM (.v q)/\oE rows.length b=true then
      match halloc h new ⟨s,rows,⟨elem,1⟩⟩with
      |some h'=>some (.sO new 0 rows.length,h')
      |none=>none
    else none
  | .sO id off len=>match h[id]? with
    |some (.live o)=>if o.sz=s/\qM3 o.elem elem off (len*s)/\off+len<=o.rows.length/\oE (len+rows.length) b=true then
       match halloc (h.set id .dead) new ⟨s,(o.rows.drop off).take len++rows,o.elem⟩with
       |some h'=>some (.sO new 0 (len+rows.length),h')
       |none=>none
     else none
    |_=>none
  |_=>none
 else none
def nK (P:Program) (h:Heap) (new:Nat) (elem:TypeId) (x y:V):Option (V×Heap):=
 match cP P elem,rI P elem,dB P elem with
 |some s,some b,some zs=>match cM h s y with
  |some rows=>bX P h new elem s b zs x rows
  |none=>none
 |_,_,_=>none
def gU (P:Program) (t:TypeId):Bool:=
 match P.underlying t with
 |some (.slice _)=>true
 |some .string=>true
 |_=>false
theorem zJ {P:Program} {t:TypeId} (h:gU P t=true):(∃e,P.underlying t=some (.slice e))\/P.underlying t=some .string:=by
 unfold gU at h;split at h
 ·rename_i e hu;exact .inl ⟨e,hu⟩
 ·rename_i hu;exact .inr hu
 ·cases h
def fP (P:Program) (h:Heap) (new:Nat) (argTypes:Array TypeId) (x y:V):Option (V×Heap):=
 match argTypes[0]?,argTypes[1]? with
 |some sT,some xT=>match P.underlying sT with
  |some (.slice elem)=>if gU P xT then nK P h new elem x y else none
  |_=>none
 |_,_=>none
theorem tN {q:Value} (h:fM (.v q)=true):q = .slice none 0 0:=by
 unfold fM at h;split at h
 ·rename_i e;injection e
 ·cases h
theorem pG (z:Array Value) (n:Nat):(Builtin.zeroCells z n).size=n*z.size:=by simp [Builtin.zeroCells]
theorem CP {P:Program} {w:World} {sT xT ty elem:TypeId} {inf:TypeInfo} {s b sLen sCap n:Nat} {base:Option Addr} {v:Value} {c1 c2:Array Value} {z:Value}
  (hT:P.underlying sT=some (.slice elem)) (hx:(∃e,P.underlying xT=some (.slice e))\/P.underlying xT=some .string) (hs:cP P elem=some s) (hi:P.info? elem=some inf) (hb:inf.bytes=b)
  (hz:∀w:World,(zeroValue elem).run P w = .ok z w) (hlen:(Builtin.lenOf v).run P w = .ok n w) (hneed:sCap<sLen+n) (hroom:oE (sLen+n) b=true)
  (h1:∀w':World,w'.heap=w.heap->(Builtin.firstCells s sLen (.slice base sLen sCap)).run P w' = .ok c1 w') (h2:∀w':World,w'.heap=w.heap->(Builtin.firstCells s n v).run P w' = .ok c2 w') :
  ∃cap d,sLen+n<=cap/\(Builtin.append_ #[sT,xT] ty #[.slice base sLen sCap,v]).run P w =
   .ok (.slice (some ⟨w.heap.size,0,none⟩) (sLen+n) cap) {w with drawn:=d,heap:=w.heap.push (.cells (c1++c2++Builtin.zeroCells z.cells (cap-(sLen+n))) elem)}:=by
 simp only[oE,Bool.and_eq_true,decide_eq_true_eq]at hroom;obtain⟨r1,r2⟩:=hroom;have hnext:=qUV hneed;have hbig:¬(Builtin.nextslicecap (sLen+n) sCap*b>2^48):=by
  have:Builtin.nextslicecap (sLen+n) sCap*b<=2*(sLen+n)*b:=gh _ hnext;have e:2*(sLen+n)*b=2*((sLen+n)*b):=by rw[Nat.mul_assoc]
  omega
 refine⟨(Question.appendCap (sLen+n) sCap elem).cut (w.tape w.drawn (.appendCap (sLen+n) sCap elem)),w.drawn+1,by simp [Question.cut],?_⟩;have hmax:¬(((sLen+n:Nat):Int)>IntKind.i64.max/\(False\/b=0)):=by
  intro⟨q,_⟩;have:IntKind.i64.max=9223372036854775807:=by rfl
  rw[this]at q;omega
 have hmax':¬((9223372036854775807:Int)<(sLen:Int)+(n:Int)/\b=0):=om
 rcases hx with⟨e,hd⟩|hd
 ·simp [Builtin.append_,run_underlying hT,bS hs,run_underlying hd,hlen,Nat.not_le.2 hneed,typeInfo,hi,hb,hbig,hz,newRow,Question.forced,hmax']
  rw[h1 w.drew rfl,Result.andThen_ok,h2 w.drew rfl,Result.andThen_ok];rfl
 ·simp [Builtin.append_,run_underlying hT,bS hs,run_underlying hd,hlen,Nat.not_le.2 hneed,typeInfo,hi,hb,hbig,hz,newRow,Question.forced,hmax']
  rw[h1 w.drew rfl,Result.andThen_ok,h2 w.drew rfl,Result.andThen_ok];rfl
theorem qS {P:Program} {w:World} {sT xT ty elem:TypeId} {s sLen sCap:Nat} {base:Option Addr} {v:Value} {c2:Array Value}
  (hT:P.underlying sT=some (.slice elem)) (hx:(∃e,P.underlying xT=some (.slice e))\/P.underlying xT=some .string) (hs:cP P elem=some s)
  (hlen:(Builtin.lenOf v).run P w = .ok 0 w) (hneed:sLen<=sCap) (h2:(Builtin.firstCells s 0 v).run P w = .ok c2 w) (hc:c2 = #[]) :
  (Builtin.append_ #[sT,xT] ty #[.slice base sLen sCap,v]).run P w = .ok (.slice base sLen sCap) w:=by
 subst hc;rcases hx with⟨e,hd⟩|hd
 ·cases base<;>simp [Builtin.append_,run_underlying hT,bS hs,run_underlying hd,hlen,hneed,h2,storeCells]
 ·cases base<;>simp [Builtin.append_,run_underlying hT,bS hs,run_underlying hd,hlen,hneed,h2,storeCells]
theorem UO {P:Program} {w w':World} {sT xT ty elem:TypeId} {s sLen sCap n:Nat} {a:Addr} {v:Value} {c2:Array Value}
  (hT:P.underlying sT=some (.slice elem)) (hx:(∃e,P.underlying xT=some (.slice e))\/P.underlying xT=some .string) (hs:cP P elem=some s)
  (hlen:(Builtin.lenOf v).run P w = .ok n w) (hneed:sLen+n<=sCap) (h2:(Builtin.firstCells s n v).run P w = .ok c2 w)
  (hst:(storeCells (a.add (sLen*s)) c2.toList).run P w = .ok () w') :
  (Builtin.append_ #[sT,xT] ty #[.slice (some a) sLen sCap,v]).run P w = .ok (.slice (some a) (sLen+n) sCap) w':=by
 rcases hx with⟨e,hd⟩|hd
 ·simp [Builtin.append_,run_underlying hT,bS hs,run_underlying hd,hlen,hneed,h2,hst]
 ·simp [Builtin.append_,run_underlying hT,bS hs,run_underlying hd,hlen,hneed,h2,hst]
theorem qT3 {P:Program} {t:TypeId} {b:Nat} (h:rI P t=some b):∃i,P.info? t=some i/\i.bytes=b:=AD h
theorem qUY {w ι M} {x:V} {y:Value} (r:Rep w ι M x y) (e:x = .v (.slice none 0 0)):y = .slice none 0 0:=by subst e;cases r;rfl
theorem LC {P h ι w} (H:HRel h ι w) {new:Nat} {argTypes:Array TypeId} {ty:TypeId} {x y:V} {xv yv:Value} (rx:Rep w ι (Mt h ι) x xv) (ry:Rep w ι (Mt h ι) y yv) (h2:argTypes.size=2) :
  VS P h ι w (Builtin.append_ argTypes ty #[xv,yv]) (fP P h new argTypes x y):=by
 obtain⟨sT,xT,rfl⟩:∃a b,argTypes = #[a,b]:=by
  obtain⟨l⟩:=argTypes;match l,h2 with
  | [a,b],_=>exact⟨a,b,rfl⟩
 have main:∀elem,P.underlying sT=some (.slice elem)->((∃e,P.underlying xT=some (.slice e))\/P.underlying xT=some .string) ->
   ∀s b zs,cP P elem=some s->rI P elem=some b->dB P elem=some zs->∀rows,cM h s y=some rows ->
   (rows= []->(∃q,x = .v q/\q = .slice none 0 0)\/(∃a c,x = .sF a c)\/(∃a c d,x = .sO a c d)->VS P h ι w (Builtin.append_ #[sT,xT] ty #[xv,yv]) (some (x,h))) /\
   (zs.length=s->rows.all (·.all eZ)=true->x = .v (.slice none 0 0)->rows≠ []->oE rows.length b=true->∀h',halloc h new ⟨s,rows,⟨elem,1⟩⟩=some h' ->
     VS P h ι w (Builtin.append_ #[sT,xT] ty #[xv,yv]) (some (.sO new 0 rows.length,h'))) /\
   (zs.length=s->rows.all (·.all eZ)=true->∀id off len o,x = .sO id off len->h[id]? =some (.live o)->rows≠ []->o.sz=s->qM3 o.elem elem off (len*s)->off+len<=o.rows.length->oE (len+rows.length) b=true ->
     ∀h',halloc (h.set id .dead) new ⟨s,(o.rows.drop off).take len++rows,o.elem⟩=some h'->VS P h ι w (Builtin.append_ #[sT,xT] ty #[xv,yv]) (some (.sO new 0 (len+rows.length),h'))):=by
  intro elem hT hx s b zs hs hb hz rows hrows;obtain⟨hlen,c2,hc2,cm2⟩:=qG (P:=P) H ry hrows;obtain⟨inf,hinf,hinfb⟩:=qT3 hb;obtain⟨z,z1,z2⟩:=iM hz;refine⟨?_,?_,?_⟩
  ·intro hnil hxx
   subst hnil;have hc0:c2 = #[]:=by have:=cm2.size;simp at this;exact this
   have hc2':=hc2 w rfl;refine VS.of_pure H ⟨xv,?_,rx⟩;rcases hxx with⟨q,rfl,rfl⟩|⟨a,c,rfl⟩|⟨a,c,d,rfl⟩
   ·cases rx
    exact qS hT hx hs (by simpa using hlen) (gt _) (by simpa using hc2') hc0
   ·rcases rx.sF_opt with⟨rfl,rfl⟩|⟨ad,cap,rfl,_,hcap,_,_⟩
    ·exact qS hT hx hs (by simpa using hlen) (gt _) (by simpa using hc2') hc0
    exact qS hT hx hs (by simpa using hlen) hcap (by simpa using hc2') hc0
   ·cases rx with
    |sO _ _ _ cap l cc el fr hl hcap hbb hsize=>
     exact qS hT hx hs (by simpa using hlen) hcap (by simpa using hc2') hc0
  ·intro hzs _ hxe hne hroom h' e
   obtain rfl:=qUY rx hxe;intro x' h'' ee;injection ee with ee;injection ee with e1 e2;subst e1 e2;have hpos:0<rows.length:=List.length_pos_iff.2 hne;obtain⟨cap,d,hcap,hrun⟩:=CP (P:=P) (w:=w) (ty:=ty) (s:=s) (b:=b) (sLen:=0) (sCap:=0) (n:=rows.length) (base:=none) (v:=yv) (c1:=#[]) (c2:=c2) (z:=z) hT hx hs hinf hinfb z1 hlen om (by simpa using hroom)
    (fun w' _=>by simp [Builtin.firstCells]) hc2
   simp only[Nat.zero_add]at hcap hrun;obtain⟨Hd,evd⟩:=H.drawn d;have hzsz:z.cells.size=s:=by rw[<-hzs,z2];simp
   have hsz:=cm2.size;obtain⟨HH,ev⟩:=Hd.alloc e (#[]++c2++Builtin.zeroCells z.cells (cap-rows.length)) (0,0) (Unfr.zero _ _) cm2.lens (by simp [pG,hsz])
    (fJ (rows:=rows) (p:=fun i j x=>∃y,(#[]++c2++Builtin.zeroCells z.cells (cap-rows.length))[i*s+j]? =some y/\Rep {w with drawn:=d} ι (Mt h ι) x y) (fun i j r x hi hj=>by
      obtain⟨u,u1,u2⟩:=cm2.get i j r x hi hj;refine⟨u,?_,u2.mono evd⟩;have hlt:i*s+j<c2.size:=by
       rcases gg (i*s+j) c2.size with q|q
       ·exact q
       ·rw[gm q]at u1;cases u1
      rw[ub,hg hlt];exact u1)) rfl
   refine⟨_,_,_,hrun,?_,HH,evd.trans ev⟩;have hcs:(#[]++c2++Builtin.zeroCells z.cells (cap-rows.length)).size=cap*s:=by
    simp only[ub,kn,pG,hsz,hzsz];rw[<-ge];congr 1;omega
   have:=Rep.sO (w:={w with drawn:=d,heap:=w.heap.push (.cells (#[]++c2++Builtin.zeroCells z.cells (cap-rows.length)) elem)}) (ι:=ι.put new ⟨w.heap.size,0,s,gf _⟩) (M:=Mt h' (ι.put new ⟨w.heap.size,0,s,gf _⟩)) new 0 rows.length cap ⟨w.heap.size,0,s,gf _⟩ (#[]++c2++Builtin.zeroCells z.cells (cap-rows.length)) elem (0,0)
    (qD _ _ _) hcap sm (by rw[hcs];simp)
   simpa using this
  ·intro hzs hok id off len o hxe ho hne hosz hoel hfit hroom h' e
   subst hxe;obtain⟨hoel,hofz⟩:=hoel;subst hoel;cases rx with
   |sO _ _ _ cap l cc el fr hl hcap hbb hsize=>
    obtain⟨c0,fr0,la⟩:=BW H ho hl;have hcc:cc=c0/\fr=fr0:=by
     have:=la.blk;rw[hbb]at this;injection this with this;injection this with q1 q2 q3;exact⟨q1,q3⟩
    obtain⟨rfl,rfl⟩:=hcc;have hlsz:l.sz=s:=by rw[la.sz,hosz]
    have hold:cM h s (.sO id off len)=some ((o.rows.drop off).take len):=by simp [cM,ho,hosz,hfit]
    have hrep:Rep w ι (Mt h ι) (.sO id off len) (.slice (some ⟨l.blk,l.base+off*l.sz,none⟩) len cap):=.sO id off len cap l cc el fr hl hcap hbb hsize;obtain⟨_,c1,hc1,cm1⟩:=qG (P:=P) H hrep hold;have holdlen:((o.rows.drop off).take len).length=len:=by simp;omega
    rw[holdlen]at hc1;have cm:=cm1.append cm2;have hnl:((o.rows.drop off).take len++rows).length=len+rows.length:=by rw[List.length_append,holdlen]
    intro x' h'' ee;injection ee with ee;injection ee with e1 e2;subst e1 e2;have hzsz:z.cells.size=s:=by rw[<-hzs,z2];simp
    by_cases hneed:len+rows.length<=cap
    ·
     have hsz2:=cm2.size;have hbound:l.base+(off+cap)*s<=cc.size:=by rw[<-hlsz];exact hsize
     have hmul:(off+(len+rows.length))*s<=(off+cap)*s:=gh _ om;have hsplit:(off+(len+rows.length))*s=off*s+len*s+rows.length*s:=by rw[ge,ge];omega
     have hone:∀v∈c2.toList,v.oneCell'=true:=by
      intro v hv;obtain⟨k,hk,rfl⟩:=km hv;have hk':k<rows.length*s:=by simp at hk;omega
      obtain⟨m1,m2⟩:=vQ hk';have hrow:=ga m2;have hll:=cm2.lens _ (gk m2);have hxx:=ga (l:=rows[k/s]) (i:=k%s) om;obtain⟨u,u1,u2⟩:=cm2.get _ _ _ _ hrow hxx;have ee:k/s*s+k%s=k:=by rw[ht];exact kv k s
      rw[ee]at u1;have hleaf:eZ rows[k/s][k%s]=true:=by
       have:=gr.1 hok _ (gk m2);exact gr.1 this _ (gk _)
      have:=xW u2 hleaf;rw[gc (by simpa using hk)]at u1;injection u1 with u1;simpa [<-u1]using this
     have hrun0:=run_storeCells_cells (P:=P) l.blk (l.base+off*s+len*s) c2.toList 0 w
      (fun j hj=>by
        rw[la.cell,gc (by simp at hj;omega)];rfl)
      (fun j hj=>la.frozen (by simp at hj;omega) (by
        rcases hofz with q|⟨q1,q2⟩
        ·exact .inr q
        ·left;rw[q1,Nat.zero_mul];omega)) hone
     obtain⟨c',q1,q2,q3,q4,q5⟩:=pB l.blk o.elem.t fr c2.toList (l.base+off*s+len*s) w cc la.blk (by simp;omega);have hrun:=UO (P:=P) (w:=w) (ty:=ty) (s:=s) (sLen:=len) (sCap:=cap) (n:=rows.length) (a:=⟨l.blk,l.base+off*l.sz,none⟩) (v:=yv) (c2:=c2) (w':=w.setCells l.blk (l.base+off*s+len*s) c2.toList) hT hx hs hlen hneed (hc2 w rfl)
      (by rw[oA,hlsz];simpa using hrun0)
     have hal:(l.base+off*s)%s=0:=by rw[Nat.add_mul_mod_self_right,<-hlsz];exact l.al
     obtain⟨HH,ev⟩:=H.reloc ho hl la (new:=new) (o':=⟨s,(o.rows.drop off).take len++rows,o.elem⟩) (h':=h') e (base':=l.base+off*s) hal (c':=c') (w':=w.setCells l.blk (l.base+off*s+len*s) c2.toList) q3 q1 q2 rfl hosz.symm (by
       rcases hofz with q|⟨q1,_⟩
       ·exact .inl q
       ·right;rw[q1,Nat.zero_mul,ks]) cm.lens
      (by simp only[hnl];rw[ge];omega)
      (fJ (rows:=(o.rows.drop off).take len++rows) (p:=fun i j x=>∃y,c'[l.base+off*s+i*s+j]? =some y/\Rep w ι (Mt h ι) x y) (fun i j r x hi hj=>by
        have hjs:j<s:=by have:=aI hj;rw[cm.lens r (cD hi)]at this;exact this
        by_cases hil:i<len
        ·rw[gj om]at hi
         obtain⟨_,hi⟩:=vD hi;obtain⟨_,_,u,u1,u2⟩:=la.get hi hj;refine⟨u,?_,u2⟩;have:(i+1)*s<=len*s:=gh _ hil;rw[ge,gu]at this;rw[q4 _ (by left;omega),<-u1,hosz];congr 1
         rw[ge];omega
        ·rw[gi om,holdlen]at hi
         obtain⟨u,u1,u2⟩:=cm2.get _ j r x hi hj;refine⟨u,?_,u2⟩;have hlt:(i-len)*s+j<c2.size:=by
          rcases gg ((i-len)*s+j) c2.size with q|q
          ·exact q
          ·rw[gm q]at u1;cases u1
         have:=q5 ((i-len)*s+j) (by simpa using hlt);have e3:i*s=len*s+(i-len)*s:=by rw[<-ge];congr 1;omega
         rw[show l.base+off*s+i*s+j=l.base+off*s+len*s+((i-len)*s+j)by omega,this];simpa using u1))
     refine⟨_,_,_,hrun,?_,HH,ev⟩;have hb':(w.setCells l.blk (l.base+off*s+len*s) c2.toList).heap[l.blk]? =some (.cells c' o.elem.t fr):=q1;have:=Rep.sO (w:=w.setCells l.blk (l.base+off*s+len*s) c2.toList) (ι:=ι.put new ⟨l.blk,l.base+off*s,s,hal⟩) (M:=Mt h' (ι.put new ⟨l.blk,l.base+off*s,s,hal⟩)) new 0 (len+rows.length) cap ⟨l.blk,l.base+off*s,s,hal⟩ c' o.elem.t fr
      (qD _ _ _) hneed hb' (by simp only[Nat.zero_add,q2];rw[ge]at hbound;omega)
     rw[hlsz];simpa using this
    ·
     obtain⟨ncap,d,hncap,hrun⟩:=CP (P:=P) (w:=w) (ty:=ty) (s:=s) (b:=b) (sLen:=len) (sCap:=cap) (n:=rows.length) (base:=some ⟨l.blk,l.base+off*l.sz,none⟩) (v:=yv) (c1:=c1) (c2:=c2) (z:=z) hT hx hs hinf hinfb z1 hlen om hroom hc1 hc2;obtain⟨Hk,evk⟩:=H.kill ho;obtain⟨Hd,evd⟩:=Hk.drawn d;have evkd:=evk.trans evd;have hsz:=cm.size;obtain⟨HH,ev⟩:=Hd.alloc e (c1++c2++Builtin.zeroCells z.cells (ncap-(len+rows.length))) (0,0) (Unfr.zero _ _) cm.lens (by rw[kn,hsz];simp)
      (fJ (rows:=(o.rows.drop off).take len++rows) (p:=fun i j x=>∃y,(c1++c2++Builtin.zeroCells z.cells (ncap-(len+rows.length)))[i*s+j]? =some y/\Rep {w with drawn:=d} ι (Mt (h.set id .dead) ι) x y) (fun i j r x hi hj=>by
        obtain⟨u,u1,u2⟩:=cm.get i j r x hi hj;refine⟨u,?_,u2.mono evkd⟩;have hlt:i*s+j<(c1++c2).size:=by
         rcases gg (i*s+j) (c1++c2).size with q|q
         ·exact q
         ·rw[gm q]at u1;cases u1
        rw[hg hlt];exact u1)) rfl
     refine⟨_,_,_,hrun,?_,HH,evkd.trans ev⟩;have hcs:(c1++c2++Builtin.zeroCells z.cells (ncap-(len+rows.length))).size=ncap*s:=by
      rw[kn,hsz,pG,hnl,hzsz,<-ge];congr 1;omega
     have:=Rep.sO (w:={w with drawn:=d,heap:=w.heap.push (.cells (c1++c2++Builtin.zeroCells z.cells (ncap-(len+rows.length))) o.elem.t)}) (ι:=ι.put new ⟨w.heap.size,0,s,gf _⟩) (M:=Mt h' (ι.put new ⟨w.heap.size,0,s,gf _⟩)) new 0 (len+rows.length) ncap ⟨w.heap.size,0,s,gf _⟩ (c1++c2++Builtin.zeroCells z.cells (ncap-(len+rows.length))) o.elem.t (0,0)
      (qD _ _ _) hncap sm (by rw[hcs];simp)
     simpa using this
 have glue:∀elem,P.underlying sT=some (.slice elem)->((∃e,P.underlying xT=some (.slice e))\/P.underlying xT=some .string) ->
   VS P h ι w (Builtin.append_ #[sT,xT] ty #[xv,yv]) (nK P h new elem x y):=by
  intro elem hT hx;unfold nK;split
  ·rename_i s b zs hs hb hz
   split
   ·rename_i rows hrows
    obtain⟨m1,m2,m3⟩:=main elem hT hx s b zs hs hb hz rows hrows;unfold bX;split
    ·rename_i hem
     have hem':rows= []:=by simpa using hem
     split
     ·rename_i q
      split
      ·rename_i hq;exact m1 hem' (.inl ⟨q,rfl,tN hq⟩)
      ·exact VS.none
     ·exact m1 hem' (.inr (.inl ⟨_,_,rfl⟩))
     ·exact m1 hem' (.inr (.inr ⟨_,_,_,rfl⟩))
     ·exact VS.none
    ·rename_i hem
     have hne':rows≠ []:=by simpa using hem
     split
     ·rename_i hc
      split
      ·rename_i q
       split
       ·rename_i hroom
        split
        ·rename_i h' e
         exact m2 hc.1 hc.2 (by rw[tN hroom.1]) hne' hroom.2 h' e
        ·exact VS.none
       ·exact VS.none
      ·rename_i id off len
       split
       ·rename_i o ho
        split
        ·rename_i hcc
         split
         ·rename_i h' e
          exact m3 hc.1 hc.2 id off len o rfl ho hne' hcc.1 hcc.2.1 hcc.2.2.1 hcc.2.2.2 h' e
         ·exact VS.none
        ·exact VS.none
       ·exact VS.none
      ·exact VS.none
     ·exact VS.none
   ·exact VS.none
  ·exact VS.none
 unfold fP;simp only[ky,kp,ke];split
 ·rename_i elem hT
  split
  ·rename_i hx
   exact glue elem hT (zJ hx)
  ·exact VS.none
 ·exact VS.none
def iT (o:AObj) (off:Nat) (new:List (List V)):AObj:={o with rows:=o.rows.take off++new++o.rows.drop (off+new.length)}
theorem KZ {P:Program} {h ι w} (H:HRel h ι w) {id off len:Nat} {o:AObj} {l:Loc} {cc:Array Value} {el:TypeId} {fr:Nat×Nat} {new:List (List V)} {c2:Array Value}
  (ho:h[id]? =some (.live o)) (hl:ι id=some l) (hbb:w.heap[l.blk]? =some (.cells cc el fr))
  (hlen:new.length<=len) (hfit:off+len<=o.rows.length) (hfz:o.elem.fz<=1) (hok:new.all (·.all eZ)=true) (cm2:CM w ι (Mt h ι) o.sz new c2) :
  ∃w',(storeCells ⟨l.blk,l.base+off*l.sz,none⟩ c2.toList).run P w = .ok () w'/\HRel (h.set id (.live (iT o off new))) ι w'/\Evolve h ι w (h.set id (.live (iT o off new))) ι w':=by
 obtain⟨c0,fr0,la⟩:=BW H ho hl;obtain⟨rfl,rfl⟩:cc=c0/\fr=fr0:=by
  have:=la.blk;rw[hbb]at this;injection this with this;injection this with q1 q2 q3;exact⟨q1,q3⟩
 have hlsz:=la.sz;have hsz2:=cm2.size;have hfits:=la.fits;have hmul:(off+new.length)*o.sz<=o.rows.length*o.sz:=gh _ om;have hsplit:(off+new.length)*o.sz=off*o.sz+new.length*o.sz:=ge _ _ _;have hone:∀v∈c2.toList,v.oneCell'=true:=by
  intro v hv;obtain⟨k,hk,rfl⟩:=km hv;have hk':k<new.length*o.sz:=by simp at hk;omega
  obtain⟨m1,m2⟩:=vQ hk';have hrow:=ga m2;have hll:=cm2.lens _ (gk m2);have hxx:=ga (l:=new[k/o.sz]) (i:=k%o.sz) om;obtain⟨u,u1,u2⟩:=cm2.get _ _ _ _ hrow hxx;have ee:k/o.sz*o.sz+k%o.sz=k:=by rw[ht];exact kv k o.sz
  rw[ee]at u1;have hleaf:eZ new[k/o.sz][k%o.sz]=true:=by
   have:=gr.1 hok _ (gk m2);exact gr.1 this _ (gk _)
  have:=xW u2 hleaf;rw[gc (by simpa using hk)]at u1;injection u1 with u1;simpa [<-u1]using this
 have hrun0:=run_storeCells_cells (P:=P) l.blk (l.base+off*l.sz) c2.toList 0 w
  (fun j hj=>by rw[la.cell,gc (by rw[hlsz];simp at hj;omega)];rfl)
  (fun j hj=>la.frozen (by rw[hlsz];simp at hj;omega) (.inr hfz)) hone
 obtain⟨c',q1,q2,q3,q4,q5⟩:=pB l.blk o.elem.t fr c2.toList (l.base+off*l.sz) w cc la.blk (by rw[hlsz];simp;omega);refine⟨_,by simpa using hrun0,?_⟩;refine H.upd ho hl la (o':=iT o off new) q3 q1 q2 rfl rfl ?_ ?_ ?_
 ·intro r hr
  simp only[iT,List.mem_append]at hr;rcases hr with(q|q)|q
  ·exact la.rows r (gz q)
  ·exact cm2.lens r q
  ·exact la.rows r (ki q)
 ·have:(iT o off new).rows.length=o.rows.length:=by simp [iT];omega
  rw[this];exact hfits
 ·refine fJ (rows:=(iT o off new).rows) (p:=fun i j x=>∃y,c'[l.base+i*o.sz+j]? =some y/\Rep w ι (Mt h ι) x y) (fun i j r x hi hj=>?_)
  simp only[iT]at hi;by_cases h1:i<off
  ·rw[kf,gj (by simp;omega),ko h1]at hi
   obtain⟨hjs,_,u,u1,u2⟩:=la.get hi hj;refine⟨u,?_,u2⟩;have:(i+1)*o.sz<=off*o.sz:=gh _ h1;rw[ge,gu]at this;rw[q4 _ (by left;rw[hlsz];omega)];exact u1
  ·by_cases h2:i<off+new.length
   ·rw[kf,gi (by simp;omega),gj (by simp;omega)]at hi
    simp only[List.length_take,kk (show off<=o.rows.length by omega)]at hi;obtain⟨u,u1,u2⟩:=cm2.get _ j r x hi hj;refine⟨u,?_,u2⟩;have hlt:(i-off)*o.sz+j<c2.size:=by
     rcases gg ((i-off)*o.sz+j) c2.size with q|q
     ·exact q
     ·rw[gm q]at u1;cases u1
    have:=q5 ((i-off)*o.sz+j) (by simpa using hlt);have e3:i*o.sz=off*o.sz+(i-off)*o.sz:=by rw[<-ge];congr 1;omega
    rw[show l.base+i*o.sz+j=l.base+off*l.sz+((i-off)*o.sz+j)by rw[hlsz];omega,this];simpa using u1
   ·rw[gi (by simp;omega),gw]at hi
    have e4:off+new.length+(i-(List.take off o.rows++new).length)=i:=by simp;omega
    rw[e4]at hi;obtain⟨hjs,_,u,u1,u2⟩:=la.get hi hj;refine⟨u,?_,u2⟩;have:(off+new.length)*o.sz<=i*o.sz:=gh _ om;rw[q4 _ (by right;rw[hlsz];simp;omega)];exact u1
theorem qWC {w ι M} {z:Array Value} {zs:List V} (hz:zs=z.toList.map .v) (n:Nat):CM w ι M zs.length (gy n zs) (Builtin.zeroCells z n):=by
 have hzs:z.size=zs.length:=by rw[hz];simp
 refine⟨by simp [pG,hzs],fun r hr=>by rw[kb hr],fun i j r x hi hj=>?_⟩;obtain⟨q1,q2⟩:=xB hi hj;subst q2;have hj':=aI hj;have hk:i*r.length+j<n*z.size:=by
  have:(i+1)*r.length<=n*r.length:=gh _ om;rw[ge,gu]at this;rw[hzs];omega
 have hmod:(i*r.length+j)%z.size=j:=by rw[hzs,ht,ku,kh hj']
 refine⟨z[j]' om,?_,?_⟩
 ·simp only[Builtin.zeroCells,ua]
  rw[gc (by simpa using hk)];simp only[Array.getElem_range,ud,hmod];rw[getElem!_pos z j om]
 ·rw[hz,gx,go,gc om]at hj
  simp at hj;subst hj;exact .v _
def pP (P:Program) (h:Heap) (t:TypeId) (x:V):Option (V×Heap):=
 match P.underlying t with
 |some (.slice elem)=>match x with
  | .sF _ []=>some (.tup [],h)
  | .v (.slice none 0 0)=>some (.tup [],h)
  | .sO id off len=>match h[id]?,dB P elem with
    |some (.live o),some zs=>if len=0 then some (.tup [],h)else if zs.length=o.sz/\off+len<=o.rows.length/\zs.all eZ=true/\o.elem.fz<=1 then
       some (.tup [],h.set id (.live (iT o off (gy len zs))))
     else none
    |_,_=>none
  |_=>none
 |_=>none
theorem uV {w ι M}:Rep w ι M (.tup []) (.tuple #[]):=.tup _ _ rfl (by intro i h;simp at h)
theorem QW {P h ι w} (H:HRel h ι w) {t ty:TypeId} {x:V} {y:Value} (r:Rep w ι (Mt h ι) x y):VS P h ι w (Builtin.clear_ #[t] ty #[y]) (pP P h t x):=by
 unfold pP;split
 ·rename_i elem hu
  split
  ·rcases r.sF_opt with⟨_,rfl⟩|⟨a,cap,rfl,_⟩
   ·exact VS.of_pure H ⟨.tuple #[],by simp [Builtin.clear_,run_underlying hu],uV⟩
   ·exact VS.of_pure H ⟨.tuple #[],by simp [Builtin.clear_,run_underlying hu],uV⟩
  ·cases r
   exact VS.of_pure H ⟨.tuple #[],by simp [Builtin.clear_,run_underlying hu],uV⟩
  ·rename_i id off len
   split
   ·rename_i o zs ho hz
    split
    ·rename_i h0
     subst h0;cases r;exact VS.of_pure H ⟨.tuple #[],by simp [Builtin.clear_,run_underlying hu],uV⟩
    ·rename_i h0
     split
     ·rename_i hc
      obtain⟨c1,c2,c3,c4⟩:=hc;cases r with
      |sO _ _ _ cap l cc el fr hl hcap hbb hsize=>
       obtain⟨z,z1,z2⟩:=iM hz;have cm:=qWC (w:=w) (ι:=ι) (M:=Mt h ι) (z:=z.cells) z2 len;rw[c1]at cm;obtain⟨w',g1,g2,g3⟩:=KZ (P:=P) H ho hl hbb (len:=len) sm c2 c4 (by
        rw[gr];intro q hq;rw[kb hq];exact c3) cm
       intro x' h' e;injection e with e;injection e with e1 e2;subst e1 e2;refine⟨.tuple #[],w',ι,?_,uV,g2,g3⟩;obtain⟨n,rfl⟩:∃n,len=n+1:=⟨len-1,om⟩
       simp [Builtin.clear_,run_underlying hu,z1,g1]
     ·exact VS.none
   ·exact VS.none
  ·exact VS.none
 ·exact VS.none
theorem xC {P:Program} {h ι w} (H:HRel h ι w) {s:Nat} {y:V} {v:Value} {rows:List (List V)} (r:Rep w ι (Mt h ι) y v) (e:cM h s y=some rows) (n:Nat) (hn:n<=rows.length) :
  ∃c,(Builtin.firstCells s n v).run P w = .ok c w/\CM w ι (Mt h ι) s (rows.take n) c:=by
 have hl:(rows.take n).length=n:=by simp;omega
 have fin:∀(y':V) (v':Value),Rep w ι (Mt h ι) y' v'->cM h s y'=some (rows.take n)->Builtin.firstCells s n v'=Builtin.firstCells s n v->∃c,(Builtin.firstCells s n v).run P w = .ok c w/\CM w ι (Mt h ι) s (rows.take n) c:=by
  intro y' v' r' e' he;obtain⟨_,c,hc,cm⟩:=qG (P:=P) H r' e';rw[hl]at hc;exact⟨c,by rw[<-he];exact hc w rfl,cm⟩
 unfold cM at e;split at e
 ·rename_i sz rows'
  split at e
  ·rename_i hsz
   subst hsz;injection e with e;subst e;rcases r.sF_opt with⟨rfl,rfl⟩|⟨a,cap,rfl,hb,hcap,hr,hcells⟩
   ·exact fin (.sF sz []) _ (.sN _) (by simp [cM]) rfl
   ·have:=Rep.sF_mk (w:=w) (ι:=ι) (M:=Mt h ι) (sz:=sz) (rows:=rows'.take n) a cap (fun q=>hb (by intro q';subst q';simp at q)) om (fun r hr'=>hr r (gz hr')) (fun i j r x hi hj=>by
      rw[kd]at hi;split at hi
      ·exact hcells i j r x hi hj
      ·cases hi)
    exact fin _ _ this (by simp [cM]) rfl
  ·cases e
 ·rename_i id off len
  split at e
  ·rename_i o ho
   split at e
   ·rename_i hc
    injection e with e;cases r with
    |sO _ _ _ cap l cc el fr hl2 hcap hb hsize=>
     have hrl:rows.length=len:=by rw[<-e];simp;omega
     refine fin (.sO id off n) (.slice (some ⟨l.blk,l.base+off*l.sz,none⟩) n cap) (.sO id off n cap l cc el fr hl2 om hb hsize) ?_ rfl;simp only[cM,ho];rw[if_pos ⟨hc.1,om⟩,<-e,List.take_take,kk om]
   ·cases e
  ·cases e
 ·injection e with e;subst e
  cases r;exact fin (.v (.slice none 0 0)) _ (.v _) (by simp [cM]) rfl
 ·rename_i b
  split at e
  ·rename_i hs
   subst hs;injection e with e;subst e;cases r;refine fin (.v (.string (b.extract 0 n))) _ (.v _) ?_ ?_
   ·simp [cM,List.map_take]
   ·simp only[Builtin.firstCells]
    have:(b.extract 0 n).extract 0 n=b.extract 0 n:=by
     apply uj;simp
    rw[this]
  ·cases e
 ·cases e
def wM (P:Program) (h:Heap) (t:TypeId) (x y:V):Option (V×Heap):=
 match P.underlying t with
 |some (.slice elem)=>match cP P elem with
  |some s=>match cM h s y with
   |some rows=>match x with
    | .sF _ []=>some (.v (.int .i64 0),h)
    | .v (.slice none 0 0)=>some (.v (.int .i64 0),h)
    | .sO id off len=>match h[id]? with
      |some (.live o)=>if o.sz=s/\off+len<=o.rows.length/\(rows.take len).all (·.all eZ)=true/\o.elem.fz<=1 then
         some (.v (.int .i64 (rows.take len).length),h.set id (.live (iT o off (rows.take len))))
       else none
      |_=>none
    |_=>none
   |none=>none
  |none=>none
 |_=>none
theorem UK {P h ι w} (H:HRel h ι w) {t t2 ty:TypeId} {x y:V} {xv yv:Value} (rx:Rep w ι (Mt h ι) x xv) (ry:Rep w ι (Mt h ι) y yv):VS P h ι w (Builtin.copy_ #[t,t2] ty #[xv,yv]) (wM P h t x y):=by
 unfold wM;split
 ·rename_i elem hu
  split
  ·rename_i s hs
   split
   ·rename_i rows hrows
    obtain⟨hlen,_⟩:=qG (P:=P) H ry hrows;have nil:∀(b:Option Addr) (cap:Nat),VS P h ι w (Builtin.copy_ #[t,t2] ty #[.slice b 0 cap,yv]) (some (.v (.int .i64 0),h)):=by
     intro b cap;obtain⟨c,c1,c2⟩:=xC (P:=P) H ry hrows 0 (Nat.zero_le _);have hc:c = #[]:=by have:=c2.size;simp at this;exact this
     subst hc;refine VS.of_pure H ⟨.int .i64 0,?_,.v _⟩;cases b<;>simp [Builtin.copy_,run_underlying hu,hlen,bS hs,c1,storeCells,goInt]
    split
    ·rcases rx.sF_opt with⟨_,rfl⟩|⟨a,cap,rfl,_⟩
     ·exact nil _ _
     ·exact nil _ _
    ·cases rx
     exact nil _ _
    ·rename_i id off len
     split
     ·rename_i o ho
      split
      ·rename_i hc
       obtain⟨c1,c2,c3,c4⟩:=hc;cases rx with
       |sO _ _ _ cap l cc el fr hl hcap hbb hsize=>
        have htl:(rows.take len).length=min len rows.length:=sm
        obtain⟨c,d1,d2⟩:=xC (P:=P) H ry hrows (min len rows.length) om;have htake:rows.take (min len rows.length)=rows.take len:=by
         by_cases q:len<=rows.length
         ·rw[kk q]
         ·rw[Nat.min_eq_right om,List.take_length,List.take_of_length_le om]
        rw[htake,<-c1]at d2;obtain⟨w',g1,g2,g3⟩:=KZ (P:=P) H ho hl hbb (len:=len) (by rw[htl];omega) c2 c4 c3 d2;intro x' h' e;injection e with e;injection e with e1 e2;subst e1 e2;refine⟨.int .i64 (rows.take len).length,w',ι,?_,.v _,g2,g3⟩;have hmin:Nat.min rows.length len=min len rows.length:=Nat.min_comm _ _;simp only[Builtin.copy_,ky,kp,ke,Sem.run_bind,run_underlying hu,Result.andThen_ok,hlen,bS hs,hmin,d1,g1,Sem.run_pure,goInt,htl]
      ·exact VS.none
     ·exact VS.none
    ·exact VS.none
   ·exact VS.none
  ·exact VS.none
 ·exact VS.none
end Go.Abs
