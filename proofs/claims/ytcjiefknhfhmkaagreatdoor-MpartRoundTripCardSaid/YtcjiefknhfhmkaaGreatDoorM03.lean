import Derived.Test.YtcjiefknhfhmkaaGreatDoorM02
open List renaming getElem?_eq_getElem -> ga, getElem?_append_right -> gb, length_eq_zero_iff -> gc, getElem?_append_left -> ge, replicate -> gf, getElem?_set_ne -> gg, mem_append -> gh, take_of_length_le -> gi, getElem?_set_self -> gj, isEmpty_iff -> gm, length_append -> gn, getElem?_eq_none -> go, drop_zero -> gp, length_take -> gr, all_eq_true -> gt, map_cons -> gw, getElem?_take -> gx, getElem?_drop -> gy, append_assoc -> gz, length_cons -> hw, length_drop -> ka, map_nil -> kb, ext_getElem? -> kc, mem_cons -> kf, all_cons -> kg, getElem_mem -> kh, forIn_cons -> kj, mem_of_mem_drop -> kn, mem_of_mem_take -> ko, getElem_of_mem -> kp, map_take -> kt, map_drop -> ku, mem_cons_self -> kv
open Option renaming bind -> gk
open Bool renaming and_eq_true -> gl, beq_eq_decide_eq -> kl, true_and -> kq, not_eq_true' -> kw
open Nat renaming zero_le -> gq, add_assoc -> gu, le_refl -> ke, add_comm -> ki, eq_of_beq_eq_true -> km
namespace Go.Abs
set_option maxRecDepth 100000
set_option maxHeartbeats 4000000
set_option linter.unusedVariables false
set_option linter.unusedSimpArgs false
def LE (x y:V):Prop:=∀ {w:World} {ι:Iota} {M:Nat->Prop} {z:Value},Rep w ι M x z->Rep w ι M y z
def LEs (xs ys:List V):Prop:=xs.length=ys.length/\∀(i:Nat) (x y:V),xs[i]? =some x->ys[i]? =some y->LE x y
theorem LE.refl (x:V):LE x x:=fun r=>r
theorem LEs.refl (xs:List V):LEs xs xs:=⟨rfl,fun i x y h1 h2=>by rw[h1]at h2;injection h2 with h2;subst h2;exact LE.refl _⟩
theorem LEs.nil:LEs [] []:=LEs.refl _
theorem LEs.cons {x y:V} {xs ys:List V} (h:LE x y) (hs:LEs xs ys):LEs (x::xs) (y::ys):=by
 refine⟨by simp [hs.1],fun i a b h1 h2=>?_⟩;cases i with
 |zero=>simp at h1 h2;subst h1 h2;exact h
 |succ i=>exact hs.2 i a b (by simpa using h1) (by simpa using h2)
theorem LEs.opt {xs ys:List V} (h:LEs xs ys) {i:Nat} {y:V} (hy:ys[i]? =some y):∃x,xs[i]? =some x/\LE x y:=by
 have hi:i<xs.length:=by rw[h.1];exact aI hy
 exact⟨_,ga hi,h.2 i _ y (ga hi) hy⟩
theorem LE.agg {xs ys:List V} (h:LEs xs ys):LE (.agg xs) (.agg ys):=by
 intro w ι M z r;cases r with
 |agg _ vs hl hr=>
  refine .agg _ vs (by rw[<-h.1];exact hl) (fun i h1 h2=>?_);obtain⟨x,x1,x2⟩:=h.opt (ga h1);have hi:=aI x1;rw[ga hi]at x1;injection x1 with x1;exact x2 (x1 ▸ hr i hi h2)
theorem LE.nil (sz:Nat):LE (.v (.slice none 0 0)) (.sF sz []):=fun r=>by cases r;exact .sN sz
theorem LE.sF {sz:Nat} {rows rows':List (List V)} (hl:rows.length=rows'.length) (h:∀(i:Nat) (r r':List V),rows[i]? =some r->rows'[i]? =some r'->LEs r r'):LE (.sF sz rows) (.sF sz rows'):=by
 intro w ι M z r;rcases r.sF_opt with⟨rfl,rfl⟩|⟨a,cap,rfl,hb,hcap,hr,hc⟩
 ·have:rows'= []:=gc.1 hl.symm
  subst this;exact .sN sz
 ·rw[hl]
  refine Rep.sF_mk a cap (fun hne=>hb (fun q=>hne (by subst q;exact gc.1 hl.symm))) om (fun r' hr'=>?_) (fun i j r' x' hi hj=>?_)
  ·obtain⟨i,hi,e⟩:=kp hr'
   have hi0:i<rows.length:=om
   have:=(h i _ _ (ga hi0) (ga hi)).1;rw[<-e,<-this];exact hr _ (kh hi0)
  ·have hi0:i<rows.length:=by rw[hl];exact aI hi
   obtain⟨x,x1,x2⟩:=(h i _ _ (ga hi0) hi).opt hj;obtain⟨z,z1,z2⟩:=hc i j _ x (ga hi0) x1;exact⟨z,z1,x2 z2⟩
theorem LE.nf (x:V):LE x x.nf:=fun r=>r.nf
theorem LE.of_nf (x:V):LE x.nf x:=fun r=>r.of_nf
theorem qLY {x:V} {i:Nat} (h:i∈aO x.nf):i∈aO x:=by
 cases x with
 |oL id n=>
  by_cases hn:n=0
  ·simp [V.nf,hn,aO]at h
  ·simpa [V.nf,hn,aO]using h
 |sL t l=>simp [V.nf,aO]at h
 |_=>exact h
def AO (P:Program) (o:Op) (ev:Operand->V) (k:Heap) (new:Nat) (x:V) (k':Heap):Prop:=
 ∃(e:Operand->V) (x':V),(∀a,LE (ev a) (e a)/\∀i,i∈aO (e a)->i∈aO (ev a))/\LE x' x/\aop P o e k new=some (x',k')
theorem AO.os {P:Program} {h h':Heap} {ι:Iota} {w:World} (H:HRel h ι w) {ev:Operand->V} {a:Act} (hev:∀x,Rep w ι (Mt h ι) (ev x) (a.eval x)) {o:Oper} {new:Nat} {x:V}
  (hx:AO P o.op ev h new x h'):OS P h ι w (execOp a.eval o) (some (x,h')):=by
 obtain⟨e,x',he,hx',hop⟩:=hx;intro y k' hy;injection hy with hy;injection hy with h1 h2;subst h1 h2;obtain⟨z,w',ι',g1,g2,g3⟩:=mB H (fun y=>(he y).1 (hev y)) o new x' h' hop;exact⟨z,w',ι',g1,hx' g2,g3⟩
theorem AO.of {P:Program} {o:Op} {ev:Operand->V} {k k':Heap} {new:Nat} {x:V} (h:aop P o ev k new=some (x,k')):AO P o ev k new x k':=⟨ev,x,fun _=>⟨LE.refl _,fun _ h=>h⟩,LE.refl _,h⟩
theorem AO.nf {P:Program} {o:Op} {ev:Operand->V} {k k':Heap} {new:Nat} {x x':V} (h:aop P o (fun a=>(ev a).nf) k new=some (x',k')) (hx:LE x' x):AO P o ev k new x k':=
 ⟨_,x',fun a=>⟨LE.nf _,fun _ q=>qLY q⟩,hx,h⟩
section
variable {ev e:Operand->V} (he:∀a,LE (ev a) (e a)/\∀i,i∈aO (e a)->i∈aO (ev a))
include he
theorem AL (a:Operand) {i:Nat} (h:i∈aO (e a)):i∈aO (ev a):=(he a).2 i h
theorem qYN (op:Op):∀i,i∈foot op e->i∈foot op ev:=by
 intro i h;cases op<;>simp only[foot]at h ⊢<;>first|exact AL he _ h|exact h|skip
 rw[List.mem_flatMap]at h ⊢;obtain⟨a,h1,h2⟩:=h;exact⟨a,h1,AL he _ h2⟩
theorem qZ5 (op:Op) (new:Nat):∀i,i∈wids op e new->i∈wids op ev new:=by
 have flat:∀(l:List Operand) (i:Nat),i∈(l.flatMap fun x=>aO (e x))->i∈(l.flatMap fun x=>aO (ev x)):=by
  intro l i h;rw[List.mem_flatMap]at h ⊢;obtain⟨a,h1,h2⟩:=h;exact⟨a,h1,AL he _ h2⟩
 intro i h;cases op with
 |store t p x=>exact AL he _ h
 |call c=>
  obtain⟨callee,args,tys⟩:=c;cases callee with
  |builtin b=>
   cases b<;>simp only[wids]at h ⊢<;>first|exact flat _ _ h|exact h|skip
   rw[gh]at h ⊢;exact h.elim (fun q=>.inl (flat _ _ q)) .inr
  |_=>exact h
 |_=>exact h
end
theorem AO.loc {P:Program} {o:Op} {ev:Operand->V} {h h':Heap} {new:Nat} {x:V} (a:AO P o ev h new x h') (hn:new<h.length) :
  ∃post:List (Nat×HS),(∀p,p∈post->p.1∈wids o ev new)/\h'=bB h post /\
   ∀k:Heap,(∀id,id∈foot o ev++ [new]->k[id]? =h[id]?)->AO P o ev k new x (bB k post):=by
 obtain⟨e,x',he,hx,hop⟩:=a;obtain⟨post,p1,p2⟩:=qD4 h x' h' hop hn;have hself:=p2 h (fun _ _=>rfl);simp only[hop,Option.some.injEq,Prod.mk.injEq,true_and]at hself;refine⟨post,fun p hp=>qZ5 he o new _ (p1 p hp),hself,fun k hk=>⟨e,x',he,hx,p2 k (fun id hid=>hk id ?_)⟩⟩;rcases gh.1 hid with q|q
 ·exact gh.2 (.inl (qYN he o _ q))
 ·exact gh.2 (.inr q)
inductive XO where
 |raw (s:HS)
 |tl (t:Ty) (l:List t.den) (e:TypeId)
 |opt (t:Ty) (l:List t.den) (e:El)
 |ob (t:Ty) (a:t.den) (e:TypeId)
 |row1 (sz:Nat) (R:List (List V)) (k:Nat) (row:List V) (e:TypeId)
 deriving Inhabited
def XO.den:XO->HS
 | .raw s=>s
 | .tl t l e=>.live ⟨t.size,l.map t.row,e⟩
 | .opt t l e=>if l.isEmpty then .dead else .live ⟨t.size,l.map t.row,e⟩
 | .ob t a e=>.live ⟨t.size,[t.row a],e⟩
 | .row1 sz R k row e=>.live ⟨sz,R.set k row,e⟩
def dens (h:List XO):Heap:=h.map XO.den
theorem aJ (h:List XO) (i:Nat):(dens h)[i]? =(h[i]?).map XO.den:=by simp [dens]
theorem eD (h:List XO):(dens h).length=h.length:=by simp [dens]
theorem aX (h:List XO) (i:Nat) (o:XO):dens (h.set i o)=(dens h).set i o.den:=by simp [dens,List.map_set]
theorem nN (h k:List XO):dens (h++k)=dens h++dens k:=by simp [dens]
def Ty.dflt:(t:Ty)->t.den
 | .int _=>(0:Int)
 | .bool=>false
 | .str=>ByteArray.empty
 | .list _=>[]
 | .pair a b=>(a.dflt,b.dflt)
instance instInhabitedDen (t:Ty):Inhabited t.den:=⟨t.dflt⟩
def un (f:V->(t:Ty)->Option (List t.den)):(t:Ty)->List V->Option (t.den×List V)
 | .int k,x::r=>match x with
   | .v (.int k' n)=>if k'=k then some (n,r)else none
   |_=>none
 | .bool,x::r=>match x with
   | .v (.bool b)=>some (b,r)
   |_=>none
 | .str,x::r=>match x with
   | .v (.string s)=>some (s,r)
   |_=>none
 | .list t,x::r=>match f x t with
   |some l=>some (l,r)
   |none=>none
 | .pair a b,r=>match un f a r with
   |some (x,r1)=>match un f b r1 with
    |some (y,r2)=>some ((x,y),r2)
    |none=>none
   |none=>none
 |_,[]=>none
def oI (f:V->(t:Ty)->Option (List t.den)) (t:Ty):List (List V)->Option (List t.den)
 | []=>some []
 |r::rs=>match un f t r with
  |some (x,[])=>match oI f t rs with
   |some xs=>some (x::xs)
   |none=>none
  |_=>none
def fR {t t':Ty} (l:List t.den):Option (List t'.den):=if h:t=t' then h ▸ some l else none
theorem HX {t t':Ty} {l:List t.den} {l':List t'.den} (h:fR l=some l'):V.sL t l=V.sL t' l':=by
 unfold fR at h;split at h
 ·rename_i e;subst e;injection h with h;subst h;rfl
 ·cases h
theorem gM {t t':Ty} {l:List t.den} {l':List t'.den} (h:fR l=some l'):∃e:t=t',l'=e ▸ l:=by
 unfold fR at h;split at h
 ·rename_i e;subst e;injection h with h;exact⟨rfl,h.symm⟩
 ·cases h
def cN:Nat->V->(t:Ty)->Option (List t.den)
 |0,_,_=>none
 |n+1,x,t=>match x with
  | .sL _ l=>fR l
  | .v (.slice none 0 0)=>some []
  | .sF sz rows=>if sz=t.size then oI (cN n) t rows else none
  |_=>none
def WM (f:TypeId->Option Ty):List Field->Option Ty
 | []=>none
 | [x]=>f x.type
 |x::r=>match f x.type,WM f r with
  |some a,some b=>some (.pair a b)
  |_,_=>none
def qLZ (P:Program):Nat->TypeId->Option Ty
 |0,_=>none
 |n+1,t=>match P.underlying t with
  |some (.int k)=>some (.int k)
  |some .bool=>some .bool
  |some .string=>some .str
  |some (.slice e)=>match qLZ P n e with
   |some x=>some (.list x)
   |none=>none
  |some (.struct fs)=>WM (qLZ P n) fs.toList
  |_=>none
def UI (R:V->V->Prop) (f:V->(t:Ty)->Option (List t.den)):Prop:=∀x t l,f x t=some l->R x (.sL t l)
theorem qZ2 {R:V->V->Prop} {f:V->(t:Ty)->Option (List t.den)} (hf:UI R f) (h0:∀x,R (.v x) (.v x)):∀(t:Ty) (cs:List V) (a:t.den) (r:List V),un f t cs=some (a,r) ->
  ∃pre,cs=pre++r/\pre.length=t.size/\(∀rest,t.cells a rest=t.row a++rest)/\∀(i:Nat) (x y:V),pre[i]? =some x->(t.row a)[i]? =some y->R x y:=by
 intro t;induction t with
 |int k=>
  intro cs a r h;cases cs with
  |nil=>simp [un]at h
  |cons x cs=>
   simp only[un]at h;split at h
   ·split at h
    ·rename_i n hk
     subst hk;injection h with h;injection h with h1 h2;subst h1 h2;refine⟨[_],rfl,rfl,fun _=>rfl,fun i x y h1 h2=>?_⟩;cases i with
     |zero=>simp [Ty.row,Ty.cells]at h1 h2;subst h1 h2;exact h0 _
     |succ i=>simp at h1
    ·cases h
   ·cases h
 |bool=>
  intro cs a r h;cases cs with
  |nil=>simp [un]at h
  |cons x cs=>
   simp only[un]at h;split at h
   ·injection h with h;injection h with h1 h2;subst h1 h2
    refine⟨[_],rfl,rfl,fun _=>rfl,fun i x y h1 h2=>?_⟩;cases i with
    |zero=>simp [Ty.row,Ty.cells]at h1 h2;subst h1 h2;exact h0 _
    |succ i=>simp at h1
   ·cases h
 |str=>
  intro cs a r h;cases cs with
  |nil=>simp [un]at h
  |cons x cs=>
   simp only[un]at h;split at h
   ·injection h with h;injection h with h1 h2;subst h1 h2
    refine⟨[_],rfl,rfl,fun _=>rfl,fun i x y h1 h2=>?_⟩;cases i with
    |zero=>simp [Ty.row,Ty.cells]at h1 h2;subst h1 h2;exact h0 _
    |succ i=>simp at h1
   ·cases h
 |list t _=>
  intro cs a r h;cases cs with
  |nil=>simp [un]at h
  |cons x cs=>
   simp only[un]at h;split at h
   ·rename_i l hl
    injection h with h;injection h with h1 h2;subst h1 h2;refine⟨[_],rfl,rfl,fun _=>rfl,fun i x y h1 h2=>?_⟩;cases i with
    |zero=>simp [Ty.row,Ty.cells]at h1 h2;subst h1 h2;exact hf _ _ _ hl
    |succ i=>simp at h1
   ·cases h
 |pair a b iha ihb=>
  intro cs x r h;simp only[un]at h;split at h
  ·rename_i xa r1 h1
   split at h
   ·rename_i xb r2 h2
    injection h with h;injection h with e1 e2;subst e1 e2;obtain⟨p1,rfl,q1,c1,g1⟩:=iha _ _ _ h1;obtain⟨p2,rfl,q2,c2,g2⟩:=ihb _ _ _ h2;have hrow:Ty.row (.pair a b) (xa,xb)=a.row xa++b.row xb:=by simp only[Ty.row,Ty.cells];exact c1 _
    refine⟨p1++p2,sm,by simp [Ty.size,q1,q2],fun rest=>?_,fun i x y hx hy=>?_⟩
    ·rw[hrow];simp only[Ty.cells];rw[c1,c2];simp
    ·rw[hrow]at hy
     have hl:(a.row xa).length=p1.length:=by rw[q1];simpa using a.cells_len xa []
     by_cases hi:i<p1.length
     ·rw[ge hi]at hx
      rw[ge om]at hy;exact g1 i x y hx hy
     ·rw[gb om]at hx
      rw[gb om]at hy;rw[hl]at hy;exact g2 _ x y hx hy
   ·cases h
  ·cases h
theorem oJ {R:V->V->Prop} {f:V->(t:Ty)->Option (List t.den)} (hf:UI R f) (h0:∀x,R (.v x) (.v x)) {t:Ty} {cs:List V} {a:t.den} (h:un f t cs=some (a,[])) :
  cs.length=(t.row a).length/\∀(i:Nat) (x y:V),cs[i]? =some x->(t.row a)[i]? =some y->R x y:=by
 obtain⟨pre,rfl,h1,_,h2⟩:=qZ2 hf h0 t cs a [] h;have:=t.cells_len a [];exact⟨by simp [h1,Ty.row]at this ⊢;omega,by simpa using h2⟩
theorem qL {R:V->V->Prop} {f:V->(t:Ty)->Option (List t.den)} (hf:UI R f) (h0:∀x,R (.v x) (.v x)) {t:Ty}:∀ {rows:List (List V)} {l:List t.den},oI f t rows=some l ->
  rows.length=l.length/\∀(i:Nat) (r:List V) (a:t.den),rows[i]? =some r->l[i]? =some a->r.length=(t.row a).length/\∀(j:Nat) (x y:V),r[j]? =some x->(t.row a)[j]? =some y->R x y
 | [],l,h=>by simp [oI]at h;subst h;exact⟨rfl,fun i r a h=>by simp at h⟩
 |r::rs,l,h=>by
  simp only[oI]at h;split at h
  ·rename_i x hx
   split at h
   ·rename_i xs hxs
    injection h with h;subst h;obtain⟨h1,h2⟩:=qL hf h0 hxs;refine⟨by simp [h1],fun i r' a hr ha=>?_⟩;cases i with
    |zero=>simp at hr ha;subst hr ha;exact oJ hf h0 hx
    |succ i=>exact h2 i r' a (by simpa using hr) (by simpa using ha)
   ·cases h
  ·cases h
theorem fW:∀n,UI LE (cN n)
 |0,x,t,l,h=>by simp [cN]at h
 |n+1,x,t,l,h=>by
  simp only[cN]at h;split at h
  ·intro r;rw[<-HX h];exact r
  ·injection h with h;subst h
   intro r;exact .sL _ _ _ (LE.nil _ r)
  ·split at h
   ·rename_i sz rows hs
    subst hs;intro r;refine .sL _ _ _ (LE.sF (by simpa using(qL (fW n) (fun _=>LE.refl _) h).1) (fun i r1 r2 h1 h2=>?_) r);rw[List.getElem?_map]at h2;cases ha:l[i]? with
    |none=>rw[ha]at h2;simp at h2
    |some a=>
     rw[ha]at h2;simp at h2;subst h2;exact(qL (fW n) (fun _=>LE.refl _) h).2 i r1 a h1 ha
   ·cases h
  ·cases h
def sU:V->V->Option Bool
 | .v (.int k a),.v (.int k' b)=>if k=k' then some (decide (a=b))else none
 | .v (.bool a),.v (.bool b)=>some (decide (a=b))
 | .v (.string a),.v (.string b)=>some (decide (a=b))
 |_,_=>none
def cU:List V->List V->Option Bool
 | [],[]=>some true
 | [x],[y]=>sU x y
 |x::xs,y::ys=>match sU x y,cU xs ys with
  |some a,some b=>some (a&&b)
  |_,_=>none
 |_,_=>none
def mP (P:Program) (t:TypeId) (x:V):Bool:=match P.underlying t,x with
 |some (.int _),.v (.int _ _)=>true
 |some .bool,.v (.bool _)=>true
 |some .string,.v (.string _)=>true
 |_,_=>false
def mJ (P:Program):Nat->List Field->List V->Bool
 |_,[],[]=>true
 | i, f :: fs, x :: xs => (f.name != "_" && f.offset == i) && mP P f.type x && mJ P (i + 1) fs xs
 |_,_,_=>false
def qP6 (P:Program) (t:TypeId) (xs:List V):Bool:=match P.underlying t with
 |some (.struct fs)=>!P.stoodInHeld t&&mJ P 0 fs.toList xs
 |_=>false
def fsz (P:Program) (t:TypeId):Nat:=(aP P (sizeOf t)).getD 0
def mK (P:Program):Nat->List Field->List V->Bool
 |_,[],xs=>xs.isEmpty
 | i, f :: fs, xs => (f.name != "_" && f.offset == i) && (((match xs with | x :: _ => mP P f.type x | [] => false) && mK P (i + 1) fs (xs.drop 1)) ||
     (aP P (sizeOf f.type) == some (fsz P f.type)&&(xs.take (fsz P f.type)).length == fsz P f.type&&qP6 P f.type (xs.take (fsz P f.type))&&mK P (i+fsz P f.type) fs (xs.drop (fsz P f.type))))
def qU2 (P:Program) (t:TypeId) (xs:List V):Bool:=match P.underlying t with
 |some (.struct fs)=>!P.stoodInHeld t && !P.eqGuardType P.depth t&&(mJ P 0 fs.toList xs
  || mK P 0 fs.toList xs
  )
 |_=>false
def dagg (P:Program) (op:BinOp) (t:TypeId) (xs ys:List V):Option (List Bool×V):=match op,cU xs ys with
 | .eql,some b=>some ([qU2 P t xs],.v (.bool b))
 | .neq,some b=>some ([qU2 P t xs],.v (.bool (!b)))
 |_,_=>none
theorem cV {P:Program} {α β:Type} (m:Sem α) (f:α->Sem β):aP P (m >>= f)=(aP P m).bind fun a=>aP P (f a):=by
 show aP P (Sem.bind m f)=_;induction m with
 |pure a=>rfl
 |program k ih=>exact ih P
 |mark x k ih=>exact ih
 |_=>rfl
theorem qJL (a c:ByteArray):(a == c)=decide (a=c):=by
 have h:(a == c)=(a.data == c.data):=rfl;rw[h];by_cases q:a=c
 ·subst q;simp
 ·rw[decide_eq_false q,beq_eq_false_iff_ne]
  intro e;apply q;cases a;cases c;simp at e;rw[e]
theorem uS {P:Program} {t:TypeId} {x y:V} {b:Bool} (d:Nat) (hp:mP P t x=true) (h:sU x y=some b) :
  ∃u v,x = .v u/\y = .v v/\aP P (Op.equalIn (d+1) t u v)=some b:=by
 unfold sU at h;split at h
 ·rename_i k a k' c
  split at h
  ·rename_i hk
   subst hk;injection h with h;subst h;refine⟨_,_,rfl,rfl,?_⟩;unfold mP at hp;split at hp<;>try cases hp
   all_goals(rename_i q1 q2;first|cases q2|skip)
   simp [Op.equalIn,Go.underlying,q1,aP,bind,pure,program,Sem.bind];exact(kl a c)
  ·cases h
 ·rename_i a c
  injection h with h;subst h;refine⟨_,_,rfl,rfl,?_⟩;unfold mP at hp;split at hp<;>try cases hp
  all_goals(rename_i q1 q2;first|cases q2|skip)
  simp [Op.equalIn,Go.underlying,q1,aP,bind,pure,program,Sem.bind];exact kl a c
 ·rename_i a c
  injection h with h;subst h;refine⟨_,_,rfl,rfl,?_⟩;unfold mP at hp;split at hp<;>try cases hp
  all_goals(rename_i q1 q2;first|cases q2|skip)
  simp [Op.equalIn,Go.underlying,q1,aP,bind,pure,program,Sem.bind];exact qJL a c
 ·cases h
theorem pA {P:Program} {t:TypeId} {x:V} (hp:mP P t x=true) (cs:Array Value) (i:Nat) (u:Value) (h:cs[i]? =some u):aP P (part t cs i)=some u:=by
 have ha:∀(α:Type) (f:Bool->Sem α),aP P (isAgg t >>= f)=aP P (f false):=by
  intro α f;unfold mP at hp;split at hp<;>try cases hp
  all_goals simp [isAgg,Go.underlying, *,aP,bind,pure,program,Sem.bind]
 unfold part;rw[ha];simp [h,aP,pure]
def mI (A B:Array Value) (d:Nat) (f:Field) (_:Option Bool×Unit):Sem (ForInStep (Option Bool×Unit)):=
 if f.name = "_" then pure (.yield (none, ())) else do
  let x <- part f.type A f.offset
  let y <- part f.type B f.offset
  let b <- Op.equalIn d f.type x y
  if b=false then pure (.done (some false,()))else pure (.yield (none,()))
theorem oV {x:V} {xs:List V} {y:V} {ys:List V} {b:Bool} (h:cU (x::xs) (y::ys)=some b):∃a c,sU x y=some a/\cU xs ys=some c/\b=(a&&c):=by
 cases xs with
 |nil=>cases ys with
  |nil=>exact⟨b,true,h,rfl,(Bool.and_true b).symm⟩
  |cons y' ys=>simp [cU]at h
 |cons x' xs=>
  cases ys with
  |nil=>simp [cU]at h
  |cons y' ys=>
   rw[cU]at h
   ·split at h
    ·rename_i a c h1 h2
     injection h with h;exact⟨a,c,h1,h2,h.symm⟩
    ·cases h
   ·simp
theorem kF (u:Value) (xs:List V) (us:List Value) (h:cK xs=some us):cK (.v u::xs)=some (u::us):=by
 simp [cK,h]
theorem SZ {P:Program} (d:Nat):∀(fs:List Field) (i:Nat) (xs ys:List V) (b:Bool),mJ P i fs xs=true->cU xs ys=some b ->
  ∃us vs,cK xs=some us/\cK ys=some vs/\∀A B:Array Value,(∀j,j<us.length->A[i+j]? =us[j]?)->(∀j,j<vs.length->B[i+j]? =vs[j]?) ->
   aP P (forIn fs (none,()) (mI A B (d+1)))=some (if b then(none,())else(some false,()))
 | [],i,xs,ys,b,hf,he=>by
   cases xs with
   |cons x xs=>simp [mJ]at hf
   |nil=>
    cases ys with
    |cons y ys=>simp [cU]at he
    |nil=>
     injection he with he;subst he;exact⟨[],[],rfl,rfl,fun A B _ _=>rfl⟩
 |f::fs,i,[],ys,b,hf,he=>by simp [mJ]at hf
 |f::fs,i,x::xs,[],b,hf,he=>by cases xs<;>simp [cU]at he
 |f::fs,i,x::xs,y::ys,b,hf,he=>by
  obtain⟨a,c,h1,h2,rfl⟩:=oV he;simp only[mJ,gl,bne_iff_ne,beq_iff_eq]at hf;obtain⟨⟨⟨hn,ho⟩,hp⟩,hr⟩:=hf;obtain⟨us,vs,q1,q2,q3⟩:=SZ d fs (i+1) xs ys c hr h2;obtain⟨u,v,rfl,rfl,hu⟩:=uS d hp h1;have hpv:mP P f.type (.v v)=true:=by
   unfold sU at h1;unfold mP at hp ⊢;split at h1<;>first|(cases h1;done)|skip
   all_goals
    rename_i e1 e2;cases e1;cases e2;revert hp;split<;>simp_all
  refine⟨u::us,v::vs,kF u xs us q1,kF v ys vs q2,fun A B hA hB=>?_⟩;have a0:=hA 0 sm;have b0:=hB 0 sm;rw[Nat.add_zero]at a0 b0;have hb:aP P (mI A B (d+1) f (none,()))=some (if a then .yield (none,())else .done (some false,())):=by
   unfold mI;rw[if_neg hn,ho];simp only[cV,pA hp A i u a0,pA hpv B i v b0,gk,hu];cases a<;>rfl
  rw[kj,cV,hb];simp only[gk];cases a with
  |false=>rfl
  |true=>
   simp only[if_true,kq];exact q3 A B (fun j hj=>by have:=hA (j+1) (by simp;omega);simpa [gu,ki 1 j]using this) (fun j hj=>by have:=hB (j+1) (by simp;omega);simpa [gu,ki 1 j]using this)
theorem uH {P:Program} {t:TypeId} {fs:Array Field} {A B:Array Value} (d:Nat) (hu:P.underlying t=some (.struct fs)) (hs:P.stoodInHeld t=false) {b:Bool}
  (h:aP P (forIn fs.toList (none,()) (mI A B d))=some (if b then(none,())else(some false,()))):aP P (Op.equalIn (d+1) t (.agg A) (.agg B))=some b:=by
 have e:aP P (Op.equalIn (d+1) t (.agg A) (.agg B))=aP P (do
   let r <- forIn fs.toList ((none,()):Option Bool×Unit) (mI A B d)
   match r.fst with
   |some a=>pure a
   |none=>pure true):=by
  rw[Array.forIn_toList];simp [Op.equalIn,Go.underlying,hu,hs,aP,bind,pure,program,Sem.bind];refine congrArg (aP P) (congr (congrArg Sem.bind (congrArg (forIn fs (none,())) ?_)) (funext fun r=>by rcases r with⟨_|_,_⟩<;>rfl));funext f s
  by_cases q : f.name = "_"
  ·simp only[mI,if_pos q];rfl
  ·simp only[mI,if_neg q,bind]
   congr 1
 rw[e,cV,h];cases b<;>rfl
theorem qB0 {x y:V} {xs ys:List V} {a c:Bool} (h1:sU x y=some a) (h2:cU xs ys=some c):cU (x::xs) (y::ys)=some (a&&c):=by
 cases xs with
 |nil=>cases ys with
  |nil=>injection h2 with h2;subst h2;rw[Bool.and_true];exact h1
  |cons y' ys=>simp [cU]at h2
 |cons x' xs=>cases ys with
  |nil=>cases xs<;>simp [cU]at h2
  |cons y' ys=>
   rw[cU]
   ·rw[h1,h2]
   ·simp
theorem wY:∀(n:Nat) (xs ys:List V) (b:Bool),cU xs ys=some b->∃a c,cU (xs.take n) (ys.take n)=some a/\cU (xs.drop n) (ys.drop n)=some c/\b=(a&&c)
 |0,xs,ys,b,h=>⟨true,b,rfl,h,rfl⟩
 |n+1,[],[],b,h=>by injection h with h;subst h;exact⟨true,true,rfl,rfl,rfl⟩
 |n+1,[],y::ys,b,h=>by simp [cU]at h
 |n+1,x::xs,[],b,h=>by cases xs<;>simp [cU]at h
 |n+1,x::xs,y::ys,b,h=>by
  obtain⟨a,c,h1,h2,rfl⟩:=oV h;obtain⟨a',c',h3,h4,rfl⟩:=wY n xs ys c h2;exact⟨a&&a',c',qB0 h1 h3,h4,by rw[Bool.and_assoc]⟩
theorem DQ:∀(xs ys:List V) (b:Bool),cU xs ys=some b->xs.length=ys.length
 | [],[],b,h=>rfl
 | [],y::ys,b,h=>by simp [cU]at h
 |x::xs,[],b,h=>by cases xs<;>simp [cU]at h
 |x::xs,y::ys,b,h=>by
  obtain⟨a,c,_,h2,_⟩:=oV h;rw[hw,hw,DQ xs ys c h2]
theorem tJ:∀(xs ys:List V) (us vs:List Value),cK xs=some us->cK ys=some vs->cK (xs++ys)=some (us++vs)/\us.length=xs.length
 | [],ys,us,vs,h1,h2=>by simp [cK]at h1;subst h1;exact⟨h2,rfl⟩
 |x::xs,ys,us,vs,h1,h2=>by
  cases x with
  |v u=>
   simp only[cK]at h1;cases q:cK xs with
   |none=>simp [q]at h1
   |some ws=>
    simp [q]at h1;subst h1;obtain⟨e1,e2⟩:=tJ xs ys ws vs q h2;exact⟨kF u _ _ e1,by rw[hw,hw,e2]⟩
  |_=>simp [cK]at h1
theorem IR (A:Array Value) (i:Nat) (us:List Value) (h:∀j,j<us.length->A[i+j]? =us[j]?):A.extract i (i+us.length)=us.toArray:=by
 apply Array.ext_getElem?;intro j;rw[Array.getElem?_extract,show us.toArray[j]? =us[j]? by simp];by_cases q:j<us.length
 ·have h2:=h (us.length-1) om
  rw[ga om]at h2;obtain⟨hz,_⟩:=Array.getElem?_eq_some_iff.mp h2;rw[if_pos om,h j q]
 ·rw[if_neg om,go om]
theorem qCW {P : Program} {d : Nat} {f : Field} {i : Nat} {x y : V} {a : Bool} (hn : ¬ f.name = "_") (ho : f.offset = i) (hp : mP P f.type x = true) (h1 : sU x y = some a) :
  ∃u v,x = .v u/\y = .v v/\∀A B:Array Value,A[i]? =some u->B[i]? =some v->aP P (mI A B (d+1) f (none,()))=some (if a then .yield (none,())else .done (some false,())):=by
 obtain⟨u,v,rfl,rfl,hu⟩:=uS d hp h1;have hpv:mP P f.type (.v v)=true:=by
  unfold sU at h1;unfold mP at hp ⊢;split at h1<;>first|(cases h1;done)|skip
  all_goals
   rename_i e1 e2;cases e1;cases e2;revert hp;split<;>simp_all
 refine⟨u,v,rfl,rfl,fun A B a0 b0=>?_⟩;unfold mI;rw[if_neg hn,ho];simp only[cV,pA hp A i u a0,pA hpv B i v b0,gk,hu];cases a<;>rfl
theorem XV {P:Program} {t:TypeId} {fs:Array Field} {n:Nat} (hu:P.underlying t=some (.struct fs)) (hz:aP P (sizeOf t)=some n) (A:Array Value) (i:Nat):aP P (part t A i)=some (.agg (A.extract i (i+n))):=by
 have ha:aP P (isAgg t)=some true:=by
  simp [isAgg,Go.underlying,hu,aP,bind,pure,program,Sem.bind]
 have e : part t A i = (isAgg t >>= fun b => if b = true then (sizeOf t >>= fun n => pure (.agg (A.extract i (i + n)))) else match A[i]? with | some v => pure v | none => stuck "part: no such cell") := rfl
 rw[e,cV,ha];simp only[gk,if_true,cV,hz];rfl
theorem JI {P:Program} (d:Nat):∀(fs:List Field) (i:Nat) (xs ys:List V) (b:Bool),mK P i fs xs=true->cU xs ys=some b ->
  ∃us vs,cK xs=some us/\cK ys=some vs/\∀A B:Array Value,(∀j,j<us.length->A[i+j]? =us[j]?)->(∀j,j<vs.length->B[i+j]? =vs[j]?) ->
   aP P (forIn fs (none,()) (mI A B (d+2)))=some (if b then(none,())else(some false,()))
 | [],i,xs,ys,b,hf,he=>by
   cases xs with
   |cons x xs=>simp [mK]at hf
   |nil=>
    cases ys with
    |cons y ys=>simp [cU]at he
    |nil=>
     injection he with he;subst he;exact⟨[],[],rfl,rfl,fun A B _ _=>rfl⟩
 |f::fs,i,xs,ys,b,hf,he=>by
  unfold mK at hf;simp only[gl,Bool.or_eq_true,bne_iff_ne,beq_iff_eq]at hf;obtain⟨⟨hn,ho⟩,hf⟩:=hf;rcases hf with⟨hp,hr⟩|⟨⟨⟨hz,hl⟩,hs⟩,hr⟩
  ·cases xs with
   |nil=>cases hp
   |cons x xs=>
    cases ys with
    |nil=>cases xs<;>simp [cU]at he
    |cons y ys=>
     obtain⟨a,c,h1,h2,rfl⟩:=oV he;obtain⟨us,vs,q1,q2,q3⟩:=JI d fs (i+1) xs ys c hr h2;obtain⟨u,v,rfl,rfl,hu⟩:=qCW (d:=d+1) hn ho hp h1;refine⟨u::us,v::vs,kF u xs us q1,kF v ys vs q2,fun A B hA hB=>?_⟩;rw[kj,cV,hu A B (hA 0 sm) (hB 0 sm)];simp only[gk];cases a with
     |false=>rfl
     |true=>
      simp only[if_true,kq];exact q3 A B (fun j hj=>by have:=hA (j+1) (by simp;omega);simpa [gu,ki 1 j]using this) (fun j hj=>by have:=hB (j+1) (by simp;omega);simpa [gu,ki 1 j]using this)
  ·generalize hN:fsz P f.type=n at hz hl hs hr
   obtain⟨a,c,h1,h2,rfl⟩:=wY n xs ys b he;obtain⟨us,vs,q1,q2,q3⟩:=JI d fs (i+n) _ _ c hr h2;unfold qP6 at hs;split at hs
   ·rename_i gs hu
    simp only[gl,kw]at hs;obtain⟨us1,vs1,r1,r2,r3⟩:=SZ d gs.toList 0 _ _ a hs.2 h1;obtain⟨x1,x2⟩:=tJ _ _ _ _ r1 q1;obtain⟨y1,y2⟩:=tJ _ _ _ _ r2 q2;rw[List.take_append_drop]at x1 y1;have hm:vs1.length=n:=y2.trans ((DQ _ _ _ h1).symm.trans hl);have hm1:us1.length=n:=by rw[x2,hl]
    refine⟨us1++us,vs1++vs,x1,y1,fun A B hA hB=>?_⟩;have eA:A.extract i (i+n)=us1.toArray:=by
     rw[<-hm1];exact IR A i us1 fun j hj=>by rw[hA j (by rw[gn];omega),ge hj]
    have eB:B.extract i (i+n)=vs1.toArray:=by
     rw[<-hm];exact IR B i vs1 fun j hj=>by rw[hB j (by rw[gn];omega),ge hj]
    have hq:aP P (Op.equalIn (d+2) f.type (.agg us1.toArray) (.agg vs1.toArray))=some a:=uH (d+1) hu hs.1 (r3 _ _ (fun j _=>by simp) (fun j _=>by simp));have hb:aP P (mI A B (d+2) f (none,()))=some (if a then .yield (none,())else .done (some false,())):=by
     unfold mI;rw[if_neg hn,ho];simp only[cV,XV hu hz A i,XV hu hz B i,gk,eA,eB,hq];cases a<;>rfl
    rw[kj,cV,hb];simp only[gk];cases a with
    |false=>rfl
    |true=>
     simp only[if_true,kq];exact q3 A B (fun j hj=>by rw[gu,hA (n+j) (by rw[gn];omega),gb om];congr 1;omega) (fun j hj=>by rw[gu,hB (n+j) (by rw[gn];omega),gb om];congr 1;omega)
   ·cases hs
theorem qS2 {P:Program} {h:Heap} {op:BinOp} {t:TypeId} {X Y:Operand} {xs ys:List V} {z:V} {cs:List Bool} (e:dagg P op t xs ys=some (cs,z)) (hc:∀c,c∈cs->c=true):eH P h op t X Y (.agg xs) (.agg ys)=some (z,h):=by
 have main:∀b,qU2 P t xs=true->cU xs ys=some b->eH P h .eql t X Y (.agg xs) (.agg ys)=some (.v (.bool b),h)/\eH P h .neq t X Y (.agg xs) (.agg ys)=some (.v (.bool (!b)),h):=by
  intro b hk hb;unfold qU2 at hk;split at hk
  ·rename_i fs hu
   simp only[gl,kw]at hk;obtain⟨⟨hs,hg⟩,hf⟩:=hk;obtain⟨us,vs,q1,q2,q3⟩:∃us vs,cK xs=some us/\cK ys=some vs/\∀A B:Array Value,(∀j,j<us.length->A[0+j]? =us[j]?)->(∀j,j<vs.length->B[0+j]? =vs[j]?) ->
     aP P (forIn fs.toList (none,()) (mI A B 9999))=some (if b then(none,())else(some false,())):=by
    rw[Bool.or_eq_true]at hf;rcases hf with hf|hf;rotate_left
    ·exact JI 9997 fs.toList 0 xs ys b hf hb
    exact SZ 9998 fs.toList 0 xs ys b hf hb
   have h1:iA (.agg xs)=some (.agg us.toArray):=by simp [iA,q1]
   have h2:iA (.agg ys)=some (.agg vs.toArray):=by simp [iA,q2]
   have h3:aP P (Op.equal t (.agg us.toArray) (.agg vs.toArray))=some b:=uH 9999 hu hs (q3 _ _ (fun j _=>by simp) (fun j _=>by simp));have guard:∀op A B,aP P (eqGuard op t X Y (.agg A) (.agg B))=some ():=fun op A B=>by
    unfold eqGuard;cases op<;>simp [hg,aP,bind,pure,program,Sem.bind]
   constructor
   ·simp only[eH,h1,h2,cV,guard,gk]
    have:aP P (binOp .eql t (.agg us.toArray) (.agg vs.toArray))=some (.bool b):=by
     simp only[binOp,cV,h3,gk];rfl
    rw[this];rfl
   ·simp only[eH,h1,h2,cV,guard,gk]
    have:aP P (binOp .neq t (.agg us.toArray) (.agg vs.toArray))=some (.bool (!b)):=by
     simp only[binOp,cV,h3,gk];rfl
    rw[this];rfl
  ·cases hk
 unfold dagg at e;split at e
 ·rename_i b hb
  injection e with e;injection e with e1 e2;subst e1 e2;exact(main b (hc _ sm) hb).1
 ·rename_i b hb
  injection e with e;injection e with e1 e2;subst e1 e2;exact(main b (hc _ sm) hb).2
 ·cases e
abbrev DR:=Option (List Bool×V×List XO)
abbrev DV:=Option (List Bool×V)
def dK (cs:List Bool):Prop:=∀c,c∈cs->c=true
theorem aF {c:Bool} {cs:List Bool} (h:dK (c::cs)):c=true/\dK cs:=⟨h c sm,fun d hd=>h d (by simp [hd])⟩
def loK:IntKind->Int
 | .i8=>-128
 | .i16=>-32768
 | .i32=>-2147483648
 | .i64=>-9223372036854775808
 |_=>0
def hiK:IntKind->Int
 | .i8=>127
 | .i16=>32767
 | .i32=>2147483647
 | .i64=>9223372036854775807
 | .u8=>255
 | .u16=>65535
 | .u32=>4294967295
 | .u64=>18446744073709551615
def inR (k:IntKind) (n:Int):Bool:=decide (loK k<=n/\n<=hiK k)
theorem qO1 {k:IntKind} {n:Int} (h:inR k n=true):k.wrap n=n:=by
 have h:=of_decide_eq_true h;cases k<;>simp only[loK,hiK]at h<;>simp [IntKind.wrap,IntKind.bits,IntKind.signed]<;>omega
def ar (k:IntKind) (fl:Bool) (n:Int):List Bool×V:=match(match k with| .i64=>fl|_=>!fl)with
 |true=>([],.v (.int k (k.wrap n)))
 |false=>([inR k n],.v (.int k n))
theorem qM5 {k:IntKind} {wr:Bool} {n:Int} (h:dK (ar k wr n).1):(ar k wr n).2 = .v (.int k (k.wrap n)):=by
 unfold ar at h ⊢;generalize (match k with| .i64=>wr|_=>!wr)=q at h ⊢
 cases q with
 |true=>rfl
 |false=>rw[qO1 (h _ sm)]
def sQ (k:IntKind) (a b:Int):Int:=k.wrap ((BitVec.ofInt k.bits a &&& BitVec.ofInt k.bits b).toNat:Int)
def bOr (k:IntKind) (a b:Int):Int:=k.wrap ((BitVec.ofInt k.bits a ||| BitVec.ofInt k.bits b).toNat:Int)
def pT (k:IntKind) (a b:Int):Int:=k.wrap ((BitVec.ofInt k.bits a ^^^ BitVec.ofInt k.bits b).toNat:Int)
def GE (k:IntKind) (a b:Int):Int:=k.wrap ((BitVec.ofInt k.bits a &&& ~~~ (BitVec.ofInt k.bits b)).toNat:Int)
def mZ (k:IntKind) (a b:Int):Int:=k.wrap (a*2^(min b.toNat k.bits))
def jQ (k:IntKind) (a b:Int):Int:=a.fdiv (2^(min b.toNat k.bits))
theorem vH (P:Program) (h:Heap) (t:TypeId) (X Y:Operand) (k:IntKind) (a b:Int) :
  eH P h .and t X Y (.v (.int k a)) (.v (.int k b))=some (.v (.int k (sQ k a b)),h)/\eH P h .or t X Y (.v (.int k a)) (.v (.int k b))=some (.v (.int k (bOr k a b)),h) /\
  eH P h .xor t X Y (.v (.int k a)) (.v (.int k b))=some (.v (.int k (pT k a b)),h)/\eH P h .andNot t X Y (.v (.int k a)) (.v (.int k b))=some (.v (.int k (GE k a b)),h):=by
 cases k<;>exact⟨rfl,rfl,rfl,rfl⟩
theorem qMU (P:Program) (h:Heap) (t:TypeId) (X Y:Operand) (k k':IntKind) (a b:Int) (hb:0<=b):eH P h .shl t X Y (.v (.int k a)) (.v (.int k' b))=some (.v (.int k (mZ k a b)),h):=by
 have e:aP P (do eqGuard .shl t X Y (.int k a) (.int k' b);binOp .shl t (.int k a) (.int k' b))=some (.int k (mZ k a b)):=by
  have hb:¬b<0:=om
  cases k<;>simp [eqGuard,binOp,Op.shift,hb,aP,bind,pure,Sem.bind,mZ]
 simp only[eH,iA,e];rfl
theorem qMV (P:Program) (h:Heap) (t:TypeId) (X Y:Operand) (k k':IntKind) (a b:Int) (hb:0<=b):eH P h .shr t X Y (.v (.int k a)) (.v (.int k' b))=some (.v (.int k (jQ k a b)),h):=by
 have e:aP P (do eqGuard .shr t X Y (.int k a) (.int k' b);binOp .shr t (.int k a) (.int k' b))=some (.int k (jQ k a b)):=by
  have hb:¬b<0:=om
  cases k<;>simp [eqGuard,binOp,Op.shift,hb,aP,bind,pure,Sem.bind,jQ]
 simp only[eH,iA,e];rfl
def dint (wr:Bool) (op:BinOp) (k:IntKind) (a b:Int):DV:=
 match op with
 | .add=>some (ar k wr (a+b))
 | .sub=>some (ar k wr (a-b))
 | .mul=>some (ar k wr (a*b))
 | .lss=>some ([],.v (.bool (decide (a<b))))
 | .leq=>some ([],.v (.bool (decide (a<=b))))
 | .gtr=>some ([],.v (.bool (decide (a>b))))
 | .geq=>some ([],.v (.bool (decide (a>=b))))
 | .eql=>some ([],.v (.bool (decide (a=b))))
 | .neq=>some ([],.v (.bool (!decide (a=b))))
 | .quo=>some (decide (b≠0)::(ar k wr (a.tdiv b)).1,(ar k wr (a.tdiv b)).2)
 | .rem=>some ([decide (b≠0)],.v (.int k (a.tmod b)))
 | .and=>some ([],.v (.int k (sQ k a b)))
 | .or=>some ([],.v (.int k (bOr k a b)))
 | .xor=>some ([],.v (.int k (pT k a b)))
 | .andNot=>some ([],.v (.int k (GE k a b)))
 |_=>none
def dstr (op:BinOp) (a b:ByteArray):DV:=
 match op with
 | .eql=>some ([],.v (.bool (decide (a=b))))
 | .neq=>some ([],.v (.bool (!decide (a=b))))
 | .lss=>some ([],.v (.bool (eJ a b)))
 | .geq=>some ([],.v (.bool (!eJ a b)))
 | .leq=>some ([],.v (.bool (eJ a b||decide (a=b))))
 | .gtr=>some ([],.v (.bool (!(eJ a b||decide (a=b)))))
 | .add=>some ([decide (a.size+b.size<=9223372036854775807)],.v (.string (a++b)))
 |_=>none
def dbin (wr:Bool) (op:BinOp) (x y:V):DV:=
 match x,y with
 | .v (.int k a),.v (.int k' b)=>match op with
   | .shl=>some ([decide (0<=b)],.v (.int k (mZ k a b)))
   | .shr=>some ([decide (0<=b)],.v (.int k (jQ k a b)))
   |op=>if k'=k then dint wr op k a b else none
 | .v (.string a),.v (.string b)=>dstr op a b
 |_,_=>none
def isB (r:Option (V×Heap)) (want:Bool):Bool:=match r with
 |some (.v (.bool b),_)=>b == want
 |_=>false
def EY (P:Program) (h:Heap) (op:BinOp) (t:TypeId) (X Y:Operand) (f:Bool->Bool->Bool):Bool:=
 isB (eH P h op t X Y (.v (.bool true)) (.v (.bool true))) (f true true)&&isB (eH P h op t X Y (.v (.bool true)) (.v (.bool false))) (f true false) &&
 isB (eH P h op t X Y (.v (.bool false)) (.v (.bool true))) (f false true)&&isB (eH P h op t X Y (.v (.bool false)) (.v (.bool false))) (f false false)
def dbool (P:Program) (h:Heap) (op:BinOp) (t:TypeId) (X Y:Operand) (a b:Bool):DV:=
 match op with
 | .eql=>if EY P h .eql t X Y (fun a b=>a == b)then some ([],.v (.bool (a == b)))else none
 | .neq=>if EY P h .neq t X Y (fun a b=>!(a == b))then some ([],.v (.bool (!(a == b))))else none
 |_=>none
theorem qI7 {P:Program} {h h':Heap} {op:BinOp} {t:TypeId} {X Y:Operand} {x y z:V} (e:eH P h op t X Y x y=some (z,h')):h'=h:=by
 unfold eH at e;repeat' split at e
 all_goals first|(injection e with e;injection e with e1 e2;exact e2.symm)|cases e
theorem SV {P:Program} {h:Heap} {op:BinOp} {t:TypeId} {X Y:Operand} {x y:V} {b:Bool} (e:isB (eH P h op t X Y x y) b=true):eH P h op t X Y x y=some (.v (.bool b),h):=by
 unfold isB at e;split at e
 ·rename_i c k hk
  rw[hk,qI7 hk];rw[eq_of_beq e]
 ·cases e
theorem GN {P:Program} {h:Heap} {op:BinOp} {t:TypeId} {X Y:Operand} {f:Bool->Bool->Bool} (e:EY P h op t X Y f=true) (a b:Bool):eH P h op t X Y (.v (.bool a)) (.v (.bool b))=some (.v (.bool (f a b)),h):=by
 simp only[EY,gl]at e;obtain⟨⟨⟨h1,h2⟩,h3⟩,h4⟩:=e;cases a<;>cases b
 ·exact SV h4
 ·exact SV h3
 ·exact SV h2
 ·exact SV h1
theorem qN3 {P:Program} {h:Heap} {op:BinOp} {t:TypeId} {X Y:Operand} {a b:Bool} {z:V} {cs:List Bool} (e:dbool P h op t X Y a b=some (cs,z)):eH P h op t X Y (.v (.bool a)) (.v (.bool b))=some (z,h):=by
 unfold dbool at e;repeat' split at e
 all_goals first|cases e|skip
 ·rename_i ht
  exact GN (f:=fun a b=>a == b) ht a b
 ·rename_i ht
  exact GN (f:=fun a b=>!(a == b)) ht a b
theorem qS9 {P:Program} {h:Heap} {wr:Bool} {op:BinOp} {t:TypeId} {X Y:Operand} {k:IntKind} {a b:Int} {cs:List Bool} {x:V} (e:dint wr op k a b=some (cs,x)) (hc:dK cs) :
  eH P h op t X Y (.v (.int k a)) (.v (.int k b))=some (x,h):=by
 have ar':∀ {n:Int},ar k wr n=(cs,x)->x = .v (.int k (k.wrap n)):=fun{n} q=>by
  have h1:dK (ar k wr n).1:=by rw[q];exact hc
  have h2:=qM5 h1;rw[q]at h2;exact h2
 cases op<;>simp only[dint]at e<;>first|(cases e;done)|skip
 ·injection e with e;rw[ar' e];exact qMJ P h t X Y k a b
 ·injection e with e;rw[ar' e];exact qMX P h t X Y k a b
 ·injection e with e;rw[ar' e];exact qMQ P h t X Y k a b
 ·injection e with e;injection e with e1 e2
  subst e1;obtain⟨h1,h2⟩:=aF hc;rw[<-e2,qM5 h2];exact qMS P h t X Y k a b (of_decide_eq_true h1)
 ·injection e with e;injection e with e1 e2
  subst e1;rw[<-e2];exact qMT P h t X Y k a b (of_decide_eq_true (aF hc).1)
 ·injection e with e;injection e with e1 e2;rw[<-e2];exact(vH P h t X Y k a b).1
 ·injection e with e;injection e with e1 e2;rw[<-e2];exact(vH P h t X Y k a b).2.1
 ·injection e with e;injection e with e1 e2;rw[<-e2];exact(vH P h t X Y k a b).2.2.1
 ·injection e with e;injection e with e1 e2;rw[<-e2];exact(vH P h t X Y k a b).2.2.2
 ·injection e with e;injection e with e1 e2;rw[<-e2];exact qML P h t X Y k a b
 ·injection e with e;injection e with e1 e2;rw[<-e2];exact qMR P h t X Y k a b
 ·injection e with e;injection e with e1 e2;rw[<-e2];exact qMP P h t X Y k a b
 ·injection e with e;injection e with e1 e2;rw[<-e2];exact qMO P h t X Y k a b
 ·injection e with e;injection e with e1 e2;rw[<-e2];exact qMN P h t X Y k a b
 ·injection e with e;injection e with e1 e2;rw[<-e2];exact qMM P h t X Y k a b
theorem qMW (P:Program) (h:Heap) (op:BinOp) (t:TypeId) (X Y:Operand) (a b:ByteArray) :
  eH P h .eql t X Y (.v (.string a)) (.v (.string b))=some (.v (.bool (AJ a b)),h)/\eH P h .neq t X Y (.v (.string a)) (.v (.string b))=some (.v (.bool (!AJ a b)),h) /\
  eH P h .lss t X Y (.v (.string a)) (.v (.string b))=some (.v (.bool (eJ a b)),h)/\eH P h .geq t X Y (.v (.string a)) (.v (.string b))=some (.v (.bool (!eJ a b)),h) /\
  eH P h .leq t X Y (.v (.string a)) (.v (.string b))=some (.v (.bool (eJ a b||AJ a b)),h)/\eH P h .gtr t X Y (.v (.string a)) (.v (.string b))=some (.v (.bool (!(eJ a b||AJ a b))),h):=
 ⟨rfl,rfl,rfl,rfl,rfl,rfl⟩
theorem qS3 {P:Program} {h:Heap} {wr:Bool} {op:BinOp} {t:TypeId} {X Y:Operand} {x y z:V} {cs:List Bool} (e:dbin wr op x y=some (cs,z)) (hc:dK cs):eH P h op t X Y x y=some (z,h):=by
 unfold dbin at e;split at e
 ·split at e
  ·injection e with e;injection e with e1 e2;subst e1;rw[<-e2]
   exact qMU P h t X Y _ _ _ _ (of_decide_eq_true (aF hc).1)
  ·injection e with e;injection e with e1 e2;subst e1;rw[<-e2]
   exact qMV P h t X Y _ _ _ _ (of_decide_eq_true (aF hc).1)
  ·split at e
   ·rename_i hk;subst hk;exact qS9 e hc
   ·cases e
 ·rename_i a b
  obtain⟨q1,q2,q3,q4,q5,q6⟩:=qMW P h op t X Y a b;simp only[qLX]at q1 q2 q3 q4 q5 q6;cases op<;>simp only[dstr]at e<;>first|(cases e;done)|skip
  all_goals(injection e with e;injection e with e1 e2;subst e2)
  ·subst e1
   exact qMK P h t X Y a b (by have:=of_decide_eq_true (aF hc).1;omega)
  all_goals assumption
 ·cases e
def XO.rowsz:XO->Option Nat
 | .raw (.live o)=>some o.sz
 | .tl t _ _=>some t.size
 | .opt t _ _=>some t.size
 | .ob t _ _=>some t.size
 | .row1 sz _ _ _ _=>some sz
 |_=>none
def XO.room:XO->Nat->List Bool
 | .opt _ l _,i=>[decide (i<l.length)]
 |_,_=>[]
def aT (l:List Int):ByteArray:=⟨(l.map fun n=>UInt8.ofNat n.toNat).toArray⟩
def aE (b:ByteArray):List Int:=b.data.toList.map fun u=>(u.toNat:Int)
def TY {α:Type} (l:List α) (off len:Nat):List α:=match off with
 |0=>l.take len
 |_=>(l.drop off).take len
def dbytes (h:List XO) (x:V):Option (List Bool×List Int):=
 match x with
 | .sL (.int .u8) l=>some ([],l)
 | .v (.slice none 0 0)=>some ([],[])
 | .sO id off len=>match h[id]? with
   |some (.tl (.int .u8) l _)=>match off with
    |0=>some ([decide (len=l.length)],l)
    |_=>some ([decide (off+len<=l.length)],(l.drop off).take len)
   |_=>none
 | .oL id n=>match h[id]? with
   |some (.opt (.int .u8) l _)=>some ([decide (n=l.length)],l)
   |_=>none
 |_=>none
theorem SD {h:List XO} {x:V} {r:List Bool×List Int} (e:dbytes h x=some r):x.nf = .v (.slice none 0 0)\/(∃a b,x.nf = .sF a b)\/(∃a b c,x.nf = .sO a b c):=by
 unfold dbytes at e;split at e
 ·exact .inr (.inl ⟨_,_,rfl⟩)
 ·exact .inl rfl
 ·exact .inr (.inr ⟨_,_,_,rfl⟩)
 ·rename_i id n
  by_cases hn:n=0
  ·exact .inl (by simp [V.nf,hn])
  ·exact .inr (.inr ⟨_,_,_,by simp [V.nf,hn];exact⟨rfl,rfl,rfl⟩⟩)
 ·cases e
def dlen (P:Program) (t:TypeId) (x:V):DV:=
 match P.underlying t,x with
 |some (.slice _),.sL _ l=>some ([],.v (.int .i64 (l.length:Int)))
 |some (.slice _),.oL _ n=>some ([],.v (.int .i64 (n:Int)))
 |some .string,.v (.string s)=>some ([],.v (.int .i64 (s.size:Int)))
 |_,_=>none
def xO (P:Program) (h:List XO) (t:TypeId) (x:V) (i:Int):DV:=
 match P.underlying t with
 |some (.slice e)=>match cP P e with
  |none=>none
  |some s=>match x with
   | .sL ty l=>if ty.size=s then some ([decide (0<=i),decide (i<l.length)],.pF (ty.row (l[i.toNat]!)) 0)else none
   | .sO id off len=>match h[id]? with
     |some o=>if o.rowsz=some s then(match off with|0=>some (decide (0<=i)::decide (i<len)::o.room (off+i.toNat),.pO id i.toNat 0)|_=>some (decide (0<=i)::decide (i<len)::o.room (off+i.toNat),.pO id (off+i.toNat) 0))else none
     |none=>none
   | .oL id n=>match h[id]? with
     |some o=>if o.rowsz=some s then some (decide (0<=i)::decide (i<n)::o.room i.toNat,.pO id i.toNat 0)else none
     |none=>none
   |_=>none
 |_=>none
def dindex (P:Program) (t:TypeId) (x:V) (i:Int):DV:=
 match P.underlying t,x with
 |some .string,.v (.string s)=>some ([decide (0<=i),decide (i<s.size)],.v (.int .u8 (aG s i.toNat)))
 |_,_=>none
def dload (P:Program) (h:List XO) (t:TypeId) (p:V):DV:=
 match p with
 | .pO id r off=>match h[id]? with
   |some (.tl ty l _)=>match jV P t (ty.row (l[r]!)) off with
    |some x=>some ([decide (r<l.length)],x)
    |none=>none
   |some (.ob ty a _)=>(match r with
    |0=>(match jV P t (ty.row a) off with
     |some x=>some ([],x)
     |none=>none)
    |_=>none)
   |some (.opt ty l _)=>match jV P t (ty.row (l[r]!)) off with
    |some x=>some ([decide (r<l.length)],x)
    |none=>none
   |some (.row1 sz R k row _)=>match jV P t row off with
    |some x=>some ([decide (r=k),decide (k<R.length)],x)
    |none=>none
   |_=>none
 |_=>none
def dslice (P:Program) (t:TypeId) (x:V) (lo hi:Option Int):DV:=
 match P.underlying t,x with
 |some (.slice e),.sL ty l=>if cP P e=some ty.size then match lo,hi with
    |none,none=>some ([],.sL ty l)
    |none,some u=>some ([decide (0<=u),decide (u<=l.length)],.sL ty (l.take u.toNat))
    |some a,none=>some ([decide (0<=a),decide (a<=l.length)],.sL ty (l.drop a.toNat))
    |some a,some u=>some ([decide (0<=a),decide (a<=u),decide (u<=l.length)],.sL ty ((l.take u.toNat).drop a.toNat))
  else none
 |some .string,.v (.string s)=>match lo,hi with
    |none,none=>some ([],.v (.string s))
    |none,some u=>some ([decide (0<=u),decide (u<=s.size)],.v (.string (s.extract 0 u.toNat)))
    |some a,none=>some ([decide (0<=a),decide (a<=s.size)],.v (.string (s.extract a.toNat s.size)))
    |some a,some u=>some ([decide (0<=a),decide (a<=u),decide (u<=s.size)],.v (.string (s.extract a.toNat u.toNat)))
 |_,_=>none
def dpick (b:Bool) (x y:V):DV:=
 match x,y with
 | .v (.bool p),.v (.bool q)=>some ([],.v (.bool (bif b then p else q)))
 | .v (.int k p),.v (.int k' q)=>if k'=k then some ([],.v (.int k (bif b then p else q)))else none
 | .v (.string p),.v (.string q)=>some ([],.v (.string (bif b then p else q)))
 |_,_=>none
def gP (a b:Int):Int:=if b<a then b else a
def cH (a b:Int):Int:=if b>a then b else a
def dpure (P:Program) (wr:Bool) (o:Op) (ev:Operand->V) (h:List XO):DV:=
 match o with
 | .binOp op t X Y _=>match ev X,ev Y with
   | .v (.bool a),.v (.bool b)=>dbool P (dens h) op t X Y a b
   | .agg xs,.agg ys=>dagg P op t xs ys
   |x,y=>dbin wr op x y
 | .unOp .not _ x=>match ev x with
   | .v (.bool b)=>some ([],.v (.bool (!b)))
   |_=>none
 | .pick c x y=>match ev c with
   | .v (.bool b)=>dpick b (ev x) (ev y)
   |_=>none
 | .convert s d x=>match ev x,P.underlying s,P.underlying d with
   | .v (.int q n),some (.int _),some (.int k')=>some (ar k' wr n)
   |x,some (.slice e),some .string=>match P.underlying e,dbytes h x with
    |some (.int .u8),some (cs,l)=>some (cs,.v (.string (aT l)))
    |_,_=>none
   |_,_,_=>none
 | .load t p=>dload P h t (ev p)
 | .indexAddr t x i=>match ev i with
   | .v (.int _ n)=>xO P h t (ev x) n
   |_=>none
 | .index t x i=>match ev i with
   | .v (.int _ n)=>dindex P t (ev x) n
   |_=>none
 | .slice t x lo hi none=>match lo.map ev,hi.map ev with
   |none,none=>dslice P t (ev x) none none
   |some (.v (.int _ a)),none=>dslice P t (ev x) (some a) none
   |none,some (.v (.int _ b))=>dslice P t (ev x) none (some b)
   |some (.v (.int _ a)),some (.v (.int _ b))=>dslice P t (ev x) (some a) (some b)
   |_,_=>none
 | .call c=>match c.callee,c.args.toList,c.argTypes with
   | .builtin .len,[x],⟨[t]⟩=>dlen P t (ev x)
   | .builtin .min,[x,y],_=>match ev x,ev y with
     | .v (.int k a),.v (.int k' b)=>if k'=k then some ([],.v (.int k (gP a b)))else none
     |_,_=>none
   | .builtin .max,[x,y],_=>match ev x,ev y with
     | .v (.int k a),.v (.int k' b)=>if k'=k then some ([],.v (.int k (cH a b)))else none
     |_,_=>none
   |_,_,_=>none
 |_=>none
theorem rD (l:List Int):bytesOf (l.map (Ty.row (.int .u8)))=some (l.map fun n=>UInt8.ofNat n.toNat):=by
 induction l with
 |nil=>rfl
 |cons a l ih=>
  have:RU (Ty.row (.int .u8) a)=some (UInt8.ofNat a.toNat):=rfl;simp only[gw,bytesOf,this,ih]
theorem qJ2 {h:List XO} {x:V} {cs:List Bool} {l:List Int} (e:dbytes h x=some (cs,l)) (hc:dK cs):dJ (dens h) x.nf=some (.v (.string (aT l)),dens h):=by
 have fin:∀(y:V) (rows:List (List V)),cM (dens h) 1 y=some rows->rows=l.map (Ty.row (.int .u8))->dJ (dens h) y=some (.v (.string (aT l)),dens h):=by
  intro y rows h1 h2;subst h2;simp only[dJ,h1];split
  ·rename_i bs hb
   have:=hb.symm.trans (rD l);injection this with this;rw[this];rfl
  ·rename_i hb
   have:=hb.symm.trans (rD l);cases this
 unfold dbytes at e;split at e
 ·injection e with e;injection e with e1 e2;subst e1 e2
  exact fin _ _ (by simp [V.nf,cM,Ty.size]) rfl
 ·injection e with e;injection e with e1 e2;subst e1 e2
  exact fin _ [] rfl rfl
 ·rename_i id off len
  split at e
  ·rename_i l0 el ho
   have hd:(dens h)[id]? =some (.live ⟨1,l0.map (Ty.row (.int .u8)),el⟩):=by rw[aJ,ho];rfl
   split at e
   ·injection e with e;injection e with e1 e2;subst e1 e2
    have hl:=of_decide_eq_true (aF hc).1;refine fin _ (l0.map (Ty.row (.int .u8))) ?_ rfl;simp only[V.nf,cM,hd];rw[if_pos (by simp;exact Nat.le_of_eq hl)];simp only[hl,gp];rw[gi sm]
   ·rename_i hoff
    injection e with e;injection e with e1 e2;subst e1 e2;have hf:=of_decide_eq_true (aF hc).1;refine fin _ (((l0.drop off).take len).map (Ty.row (.int .u8))) ?_ rfl;simp only[V.nf,cM,hd];rw[if_pos (by simp;omega)];simp [kt,ku]
  ·cases e
 ·rename_i id n
  split at e
  ·rename_i l0 el ho
   injection e with e;injection e with e1 e2;subst e1 e2;have hl:=of_decide_eq_true (aF hc).1;subst hl;by_cases hn:l0= []
   ·subst hn
    exact fin _ [] rfl rfl
   ·have hd:(dens h)[id]? =some (.live ⟨1,l0.map (Ty.row (.int .u8)),el⟩):=by
      rw[aJ,ho];simp [XO.den,hn,Ty.size]
    have hn':¬l0.length=0:=fun q=>hn (gc.1 q)
    refine fin _ (l0.map (Ty.row (.int .u8))) ?_ rfl;simp only[V.nf,if_neg hn',cM,hd];rw[if_pos sm];simp only[gp];rw[gi sm]
  ·cases e
 ·cases e
theorem qTA {P:Program} {h:Heap} {t:TypeId} {x z:V} {cs:List Bool} (e:dlen P t x=some (cs,z)):EO P h t x.nf=some (z,h):=by
 unfold dlen at e;repeat' split at e
 all_goals first|(cases e;done)|skip
 all_goals(injection e with e;injection e with e1 e2;subst e2)
 ·rename_i el ty l ht
  exact qMY P h t el ht ty.size ty.row l
 ·rename_i el id n ht
  by_cases hn:n=0
  ·subst hn
   have e2:aP P (Builtin.len_ #[t] 0 #[.slice none 0 0])=some (.int .i64 0):=by
    simp [Builtin.len_,Go.underlying,ht,aP,bind,pure,program,Sem.bind,goInt]
   simp only[V.nf,if_pos,EO,e2];rfl
  ·simp only[V.nf,if_neg hn,EO,ht]
 ·rename_i s ht
  have e2:aP P (Builtin.len_ #[t] 0 #[.string s])=some (.int .i64 s.size):=by
   simp [Builtin.len_,Go.underlying,ht,aP,bind,pure,program,Sem.bind,goInt]
  simp only[V.nf,EO,e2];rfl
theorem XO.live_of {o:XO} {s i:Nat} (hs:o.rowsz=some s) (hr:dK (o.room i)):∃a:AObj,o.den = .live a/\a.sz=s:=by
 cases o with
 |raw x=>cases x with
  |live a=>injection hs with hs;exact⟨a,rfl,hs⟩
  |_=>cases hs
 |tl t l e=>injection hs with hs;exact⟨_,rfl,hs⟩
 |ob t a e=>injection hs with hs;exact⟨_,rfl,hs⟩
 |row1 sz R k row e=>injection hs with hs;exact⟨_,rfl,hs⟩
 |opt t l e=>
  injection hs with hs;have hi:=of_decide_eq_true (hr (decide (i<l.length)) (by simp [XO.room]));have hn:¬l.isEmpty=true:=by intro q;rw[gm]at q;subst q;simp at hi
  exact⟨⟨t.size,l.map t.row,e⟩,by simp [XO.den,hn],hs⟩
theorem LH {P:Program} {h:List XO} {t:TypeId} {x z:V} {k:IntKind} {i:Int} {cs:List Bool} (e:xO P h t x i=some (cs,z)) (hc:dK cs) :
  cC P (dens h) t x.nf (.v (.int k i))=some (z,dens h):=by
 unfold xO at e;split at e
 ·rename_i el ht
  split at e
  ·cases e
  ·rename_i s hs
   split at e
   ·rename_i ty l
    split at e
    ·rename_i hsz
     injection e with e;injection e with e1 e2;subst e1 e2;have h1:=of_decide_eq_true (aF hc).1;have h2:=of_decide_eq_true (aF (aF hc).2).1;subst hsz;exact FX P (dens h) t el ty.size ty.row ht hs l k i ⟨h1,h2⟩
    ·cases e
   ·rename_i id off len
    split at e
    ·rename_i o ho
     split at e
     ·rename_i hsz
      have hz:∃p,z = .pO id p 0/\p=off+i.toNat/\cs=decide (0<=i)::decide (i<len)::o.room (off+i.toNat):=by
       split at e
       ·injection e with e;injection e with e1 e2;exact⟨_,e2.symm,(Nat.zero_add _).symm,e1.symm⟩
       ·injection e with e;injection e with e1 e2;exact⟨_,e2.symm,rfl,e1.symm⟩
      obtain⟨p,rfl,rfl,rfl⟩:=hz;obtain⟨q1,hc⟩:=aF hc;obtain⟨q2,hc⟩:=aF hc;obtain⟨a,a1,a2⟩:=XO.live_of hsz hc;have hd:(dens h)[id]? =some (.live a):=by rw[aJ,ho];simp [a1]
      exact LF P (dens h) t el s ht hs id off len k i a hd a2 ⟨of_decide_eq_true q1,of_decide_eq_true q2⟩
     ·cases e
    ·cases e
   ·rename_i id n
    split at e
    ·rename_i o ho
     split at e
     ·rename_i hsz
      injection e with e;injection e with e1 e2;subst e1 e2;obtain⟨q1,hc⟩:=aF hc;obtain⟨q2,hc⟩:=aF hc;obtain⟨a,a1,a2⟩:=XO.live_of hsz hc;have hd:(dens h)[id]? =some (.live a):=by rw[aJ,ho];simp [a1]
      have h1:=of_decide_eq_true q1;have h2:=of_decide_eq_true q2;have hn:¬n=0:=om
      simp only[V.nf,if_neg hn];exact FY P (dens h) t el s ht hs id n k i a hd a2 ⟨h1,h2⟩
     ·cases e
    ·cases e
   ·cases e
 ·cases e
theorem qJ5 {P:Program} {h:Heap} {t:TypeId} {x z:V} {k:IntKind} {i:Int} {cs:List Bool} (e:dindex P t x i=some (cs,z)) (hc:dK cs):rF P h t x (.v (.int k i))=some (z,h):=by
 unfold dindex at e;split at e
 ·rename_i s ht
  injection e with e;injection e with e1 e2;subst e1 e2;exact qA6 P h t s k i ht ⟨of_decide_eq_true (aF hc).1,of_decide_eq_true (aF (aF hc).2).1⟩
 ·cases e
theorem qOB {P:Program} {h:List XO} {t:TypeId} {p z:V} {cs:List Bool} (e:dload P h t p=some (cs,z)) (hc:dK cs):qQ P (dens h) t p=some (z,dens h):=by
 unfold dload at e;repeat' split at e
 all_goals first|(cases e;done)|skip
 all_goals(injection e with e;injection e with e1 e2;subst e1 e2)
 ·have hr:=of_decide_eq_true (aF hc).1
  rename_i id r off _ ty l el ho _ x hx;exact xJ P (dens h) t id r off ty.size l ty.row el (by rw[aJ,ho];rfl) hr _ hx
 ·rename_i id off _ ty a el ho _ _ x hx
  exact xJ P (dens h) t id 0 off ty.size [a] ty.row el (by rw[aJ,ho];rfl) sm _ hx
 ·have hr:=of_decide_eq_true (aF hc).1
  rename_i id r off _ ty l el ho _ x hx;have hn:¬l.isEmpty=true:=by intro q;rw[gm]at q;subst q;simp at hr
  exact xJ P (dens h) t id r off ty.size l ty.row el (by rw[aJ,ho];simp [XO.den,hn]) hr _ hx
 ·have hr:=of_decide_eq_true (aF hc).1
  have hk:=of_decide_eq_true (aF (aF hc).2).1;rename_i id r off _ sz R k row el ho _ x hx;subst hr;have hd:(dens h)[id]? =some (.live ⟨sz,R.set r row,el⟩):=by rw[aJ,ho];rfl
  have hrow:(R.set r row)[r]? =some row:=gj hk;simp only[qQ,rowAt,hd,hrow,hx]
theorem qOE {h:Heap} {b:Bool} {x y z:V} {cs:List Bool} (e:dpick b x y=some (cs,z)):FZ h (.v (.bool b)) x y=some (z,h):=by
 unfold dpick at e;repeat' split at e
 all_goals first|(cases e;done)|skip
 all_goals(injection e with e;injection e with e1 e2;subst e2)
 ·cases b<;>rfl
 ·rename_i hk;subst hk;cases b<;>rfl
 ·cases b<;>rfl
theorem rO (k:IntKind) (n:Int) (c:Nat) (o:BoundsCode) (h1:0<=n) (h2:n<=c):Instr.sliceBound (.int k n) c o=pure n.toNat:=by
 simp [Instr.sliceBound,asIntOf,bind,Sem.bind,pure,h1,h2]
theorem qLR {P:Program} {t:TypeId} {s:ByteArray} {lo hi:Option Int} {k k':IntKind} {cs:List Bool} {z:V} (ht:P.underlying t=some .string) (e:dslice P t (.v (.string s)) lo hi=some (cs,z)) (hc:dK cs) :
  ∃y,aP P (Instr.sliceAt t (.string s) (lo.map (.int k ·)) (hi.map (.int k' ·)) none)=some y/\ofValue y=z:=by
 have H:∀(k:IntKind) (n:Int),0<=n->n<=s.size->Instr.sliceBound (.int k n) s.size .sliceAlen=pure n.toNat:=fun k n=>rO k n _ _
 unfold dslice at e;rw[ht]at e;match lo,hi,e with
 |none,none,e=>
  injection e with e;injection e with e1 e2;subst e1 e2;refine⟨.string (s.extract 0 s.size),?_,?_⟩
  ·simp [Instr.sliceAt,Instr.slice,Instr.sliceBounds,Go.underlying,ht,aP,bind,pure,program,Sem.bind]
  ·simp [ofValue]
 |none,some u,e=>
  injection e with e;injection e with e1 e2;subst e1 e2;have h1:=of_decide_eq_true (aF hc).1;have h2:=of_decide_eq_true (aF (aF hc).2).1;refine⟨.string (s.extract 0 u.toNat),?_,rfl⟩;simp [Instr.sliceAt,Instr.slice,Instr.sliceBounds,Go.underlying,ht,aP,bind,pure,program,Sem.bind,H k' u h1 h2]
 |some a,none,e=>
  injection e with e;injection e with e1 e2;subst e1 e2;have h1:=of_decide_eq_true (aF hc).1;have h2:=of_decide_eq_true (aF (aF hc).2).1;refine⟨.string (s.extract a.toNat s.size),?_,rfl⟩;simp [Instr.sliceAt,Instr.slice,Instr.sliceBounds,Go.underlying,ht,aP,bind,pure,program,Sem.bind,rO k a s.size .sliceB h1 h2]
 |some a,some u,e=>
  injection e with e;injection e with e1 e2;subst e1 e2;have h1:=of_decide_eq_true (aF hc).1;have h2:=of_decide_eq_true (aF (aF hc).2).1;have h3:=of_decide_eq_true (aF (aF (aF hc).2).2).1;refine⟨.string (s.extract a.toNat u.toNat),?_,rfl⟩;simp [Instr.sliceAt,Instr.slice,Instr.sliceBounds,Go.underlying,ht,aP,bind,pure,program,Sem.bind,H k' u om h3,rO k a u.toNat .sliceB h1 om]
theorem qLP {P:Program} {h:Heap} {t:TypeId} {z:V} {lo hi:Option Int} {k k':IntKind} {cs:List Bool} {ty:Ty} {l:List ty.den} (e:dslice P t (.sL ty l) lo hi=some (cs,z)) (hc:dK cs) :
  fG P h t (.sF ty.size (l.map ty.row)) (lo.map fun n=>.v (.int k n)) (hi.map fun n=>.v (.int k' n))=some (z.nf,h):=by
 unfold dslice at e;split at e
 ·rename_i el t2 l2 ht heq
  injection heq with q1 q2;subst q1;cases q2;split at e
  ·rename_i hs
   match lo,hi,e with
   |none,none,e=>
    injection e with e;injection e with e1 e2;subst e1 e2;simp [fG,ht,bound,hs,V.nf];exact gi sm
   |none,some u,e=>
    injection e with e;injection e with e1 e2;subst e1 e2;exact qI9 P h t el _ _ ht hs l k' u ⟨of_decide_eq_true (aF hc).1,of_decide_eq_true (aF (aF hc).2).1⟩
   |some a,none,e=>
    injection e with e;injection e with e1 e2;subst e1 e2;exact qJA P h t el _ _ ht hs l k a ⟨of_decide_eq_true (aF hc).1,of_decide_eq_true (aF (aF hc).2).1⟩
   |some a,some u,e=>
    injection e with e;injection e with e1 e2;subst e1 e2;exact UM P h t el _ _ ht hs l k k' a u ⟨of_decide_eq_true (aF hc).1,of_decide_eq_true (aF (aF hc).2).1,of_decide_eq_true (aF (aF (aF hc).2).2).1⟩
  ·cases e
 ·rename_i heq;cases heq
 ·cases e
theorem qM0 (P:Program) (h:Heap) (k:IntKind) (a b:Int):nF P h .min [.v (.int k a),.v (.int k b)]=some (.v (.int k (gP a b)),h):=rfl
theorem qMZ (P:Program) (h:Heap) (k:IntKind) (a b:Int):nF P h .max [.v (.int k a),.v (.int k b)]=some (.v (.int k (cH a b)),h):=rfl
theorem WG {P:Program} {wr:Bool} {o:Op} {ev:Operand->V} {h:List XO} {new:Nat} {cs:List Bool} {x:V} (e:dpure P wr o ev h=some (cs,x)) (hc:dK cs):AO P o ev (dens h) new x (dens h):=by
 unfold dpure at e;split at e
 ·rename_i op t X Y u
  split at e
  ·rename_i a b ha hb
   refine AO.of ?_;show eH P _ op t X Y (ev X) (ev Y)=_;rw[ha,hb];exact qN3 e
  ·rename_i xs ys ha hb
   refine AO.of ?_;show eH P _ op t X Y (ev X) (ev Y)=_;rw[ha,hb];exact qS2 e hc
  ·refine AO.of ?_
   show eH P _ op t X Y (ev X) (ev Y)=_;exact qS3 e hc
 ·rename_i t X
  split at e
  ·rename_i b hb
   injection e with e;injection e with e1 e2;subst e2;refine AO.of ?_;show aUn P _ .not (ev X)=_;rw[hb];rfl
  ·cases e
 ·rename_i c X Y
  split at e
  ·rename_i b hb
   refine AO.of ?_;show FZ _ (ev c) (ev X) (ev Y)=_;rw[hb];exact qOE e
  ·cases e
 ·rename_i s d X
  split at e
  ·rename_i q n ks kd hx hs hd
   injection e with e;have hv:=qM5 (k:=kd) (wr:=wr) (n:=n) (by rw[e];exact hc);rw[e]at hv;refine AO.of ?_;show cY P _ new s d (ev X)=_;rw[hx,QX P _ new s d ks kd q n hs hd,<-hv]
  ·rename_i el hn hs hd
   split at e
   ·rename_i cs0 l hel hb
    injection e with e;injection e with e1 e2;subst e1 e2;have hd2:=qJ2 hb hc;refine AO.nf (x':=.v (.string (aT l))) ?_ (LE.refl _);show cY P _ new s d (ev X).nf=_;have hy:=SD hb;generalize (ev X).nf=y at hd2 hy;unfold cY;rw[hd];rcases hy with rfl|⟨a,b,rfl⟩|⟨a,b,c,rfl⟩
    ·simp only[hs,hel];exact hd2
    ·simp only[hs,hel];exact hd2
    ·simp only[hs,hel];exact hd2
   ·cases e
  ·cases e
 ·rename_i t p
  refine AO.of ?_;exact qOB e hc
 ·rename_i t X i
  split at e
  ·rename_i k n hi
   refine AO.nf (x':=x) ?_ (LE.refl _);show cC P _ t (ev X).nf (ev i).nf=_;rw[hi];exact LH e hc
  ·cases e
 ·rename_i t X i
  split at e
  ·rename_i k n hi
   refine AO.of ?_;show rF P _ t (ev X) (ev i)=_;rw[hi];exact qJ5 e hc
  ·cases e
 ·rename_i t X lo hi
  have key:∀(a b:Option Int) (k k':IntKind),lo.map ev=a.map (fun n=>.v (.int k n))->hi.map ev=b.map (fun n=>.v (.int k' n))->dslice P t (ev X) a b=some (cs,x)->AO P (.slice t X lo hi none) ev (dens h) new x (dens h):=by
   intro a b k k' hl hh e;have hnf:∀(q:Option Operand) (c:Option Int) (kk:IntKind),q.map ev=c.map (fun n=>.v (.int kk n))->q.map (fun a=>(ev a).nf)=c.map (fun n=>.v (.int kk n)):=by
    intro q c kk hq;cases q with
    |none=>cases c with
     |none=>rfl
     |some _=>cases hq
    |some q=>cases c with
     |none=>cases hq
     |some c=>injection hq with hq;simp only[Option.map];rw[hq];rfl
   have e0:=e;unfold dslice at e;split at e
   ·rename_i el ty l ht hx
    rw[hx]at e0;refine AO.nf ?_ (LE.of_nf x);simp only[aop];rw[hx,hnf lo a k hl,hnf hi b k' hh];exact qLP e0 hc
   ·rename_i s ht hx
    rw[hx]at e0;obtain⟨y,h1,h2⟩:=qLR (k:=k) (k':=k') ht e0 hc;refine AO.of ?_;simp only[aop];rw[hx,hl,hh];cases a<;>cases b<;>simp only[Option.map]at h1 ⊢<;>simp only[h1,h2]
   ·cases e
  split at e
  ·rename_i h1 h2
   exact key none none .i64 .i64 h1 h2 e
  ·rename_i k a h1 h2
   exact key (some a) none k .i64 h1 h2 e
  ·rename_i k b h1 h2
   exact key none (some b) .i64 k h1 h2 e
  ·rename_i k a k' b h1 h2
   exact key (some a) (some b) k k' h1 h2 e
  ·cases e
 ·rename_i c
  obtain⟨callee,args,tys⟩:=c;(try simp only at e);split at e
  ·rename_i X t h1
   refine AO.nf (x':=x) ?_ (LE.refl _);simp only[aop,h1,gw,kb,fY];exact qTA e
  ·rename_i X Y _ h1
   split at e
   ·rename_i k a k' b ha hb
    split at e
    ·rename_i hk
     subst hk;injection e with e;injection e with e1 e2;subst e2;refine AO.of ?_;simp only[aop,h1,gw,kb,fY,ha,hb];exact qM0 _ _ _ _ _
    ·cases e
   ·cases e
  ·rename_i X Y _ h1
   split at e
   ·rename_i k a k' b ha hb
    split at e
    ·rename_i hk
     subst hk;injection e with e;injection e with e1 e2;subst e2;refine AO.of ?_;simp only[aop,h1,gw,kb,fY,ha,hb];exact qMZ _ _ _ _ _
    ·cases e
   ·cases e
  ·cases e
 ·cases e
def Ex:V->Prop
 | .sL _ _=>True
 | .v (.slice none 0 0)=>False
 | .v _=>True
 |_=>False
theorem Ty.ex:∀(t:Ty) (a:t.den) (r:List V),(∀x,x∈r->Ex x)->∀x,x∈t.cells a r->Ex x
 | .int _,_,_,h,x,hx=>by rcases kf.1 hx with q|q;exact q ▸ trivial;exact h x q
 | .bool,_,_,h,x,hx=>by rcases kf.1 hx with q|q;exact q ▸ trivial;exact h x q
 | .str,_,_,h,x,hx=>by rcases kf.1 hx with q|q;exact q ▸ trivial;exact h x q
 | .list _,_,_,h,x,hx=>by rcases kf.1 hx with q|q;exact q ▸ trivial;exact h x q
 | .pair a b,p,r,h,x,hx=>a.ex p.1 _ (b.ex p.2 r h) x hx
theorem Ty.row_ok:∀(t:Ty) (a:t.den) (r:List V),r.all eZ=true->(t.cells a r).all eZ=true
 | .int _,_,_,h=>by simp only[Ty.cells,kg,h];rfl
 | .bool,_,_,h=>by simp only[Ty.cells,kg,h];rfl
 | .str,_,_,h=>by simp only[Ty.cells,kg,h];rfl
 | .list _,_,_,h=>by simp only[Ty.cells,kg,h];rfl
 | .pair a b,p,r,h=>a.row_ok p.1 _ (b.row_ok p.2 r h)
def RX (x y:V):Prop:=LE x y/\(Ex x->x=y)
theorem qL0:∀n,UI RX (cN n)
 |0,x,t,l,h=>by simp [cN]at h
 |n+1,x,t,l,h=>by
  refine⟨fW (n+1) x t l h,fun hx=>?_⟩;simp only[cN]at h;split at h
  ·exact HX h
  ·exact hx.elim
  ·exact hx.elim
  ·cases h
def unX (x:V) (t:Ty):Option (List t.den):=match x with
 | .sL _ l=>fR l
 |_=>none
theorem qZ1:UI (· = ·) unX:=by
 intro x t l h;unfold unX at h;split at h
 ·exact HX h
 ·cases h
theorem qL1 {t:Ty} {cs:List V} {a:t.den} (h:un unX t cs=some (a,[])):cs=t.row a:=by
 obtain⟨h1,h2⟩:=oJ qZ1 (fun _=>rfl) h;refine kc fun i=>?_
 by_cases hi:i<cs.length
 ·rw[ga hi,ga om]
  rw[h2 i _ _ (ga hi) (ga om)]
 ·rw[go om,go om]
theorem CI {t:Ty}:∀ {rows:List (List V)} {l:List t.den},oI unX t rows=some l->rows=l.map t.row
 | [],l,h=>by simp [oI]at h;subst h;rfl
 |r::rs,l,h=>by
  simp only[oI]at h;split at h
  ·rename_i x hx
   split at h
   ·rename_i xs hxs
    injection h with h;subst h;rw[qL1 hx,CI hxs];rfl
   ·cases h
  ·cases h
def dstore (P:Program) (h:List XO) (t:TypeId) (p x:V):DR:=
 match p,leaves x,cP P t with
 | .pO id r off,some ls,some n=>if ls.length=n/\OV x=false then match h[id]? with
   |some (.tl ty l el)=>if off+n<=ty.size then match un (cN 8) ty ((ty.row (l[r]!)).take off++ls++(ty.row (l[r]!)).drop (off+n))with
    |some (y,[])=>some ([decide (r<l.length)],.any,h.set id (.tl ty (l.set r y) el))
    |_=>none
    else none
   |some (.ob ty a el)=>(match r with
    |0=>if off+n<=ty.size then(match un (cN 8) ty ((ty.row a).take off++ls++(ty.row a).drop (off+n))with
     |some (y,[])=>some ([],.any,h.set id (.ob ty y el))
     |_=>none)
     else none
    |_=>none)
   |some (.opt ty l el)=>if off+n<=ty.size/\el.fz<=1 then match un (cN 8) ty ((ty.row (l[r]!)).take off++ls++(ty.row (l[r]!)).drop (off+n))with
    |some (y,[])=>some ([decide (r<l.length)],.any,h.set id (.opt ty (l.set r y) el))
    |_=>none
    else none
   |some (.row1 sz R k row el)=>if off+n<=row.length/\ls.all eZ=true then some ([decide (r=k),decide (k<R.length)],.any,h.set id (.row1 sz R k (row.take off++ls++row.drop (off+n)) el))else none
   |_=>none
   else none
 |_,_,_=>none
theorem qLV {t:Ty} {a y:t.den} {off n:Nat} {ls:List V} (hl:ls.length=n) (hfit:off+n<=(t.row a).length) (e:un (cN 8) t ((t.row a).take off++ls++(t.row a).drop (off+n))=some (y,[])) :
  (t.row a).take off++((t.row y).drop off).take n++(t.row a).drop (off+n)=t.row y/\LEs ls (((t.row y).drop off).take n):=by
 obtain⟨h1,h2⟩:=oJ (qL0 8) (fun x=>⟨LE.refl _,fun _=>rfl⟩) e;have hlen:(t.row y).length=(t.row a).length:=by rw[Ty.cells_len,Ty.cells_len]
 have hex:∀x,x∈t.row a->Ex x:=t.ex a [] (fun x h=>by cases h);have hto:((t.row a).take off).length=off:=by rw[gr];omega
 have hget:∀(i:Nat),((t.row a).take off++ls++(t.row a).drop (off+n))[i]? =if i<off then(t.row a)[i]? else if i<off+n then ls[i-off]? else(t.row a)[i]?:=by
  intro i;by_cases q1:i<off
  ·rw[if_pos q1,gz,ge om,gx,if_pos q1]
  ·rw[if_neg q1]
   by_cases q2:i<off+n
   ·rw[if_pos q2,gz,gb om,ge om,hto]
   ·rw[if_neg q2,gb (by simp;omega),gy]
    congr 1
    simp;omega
 refine⟨?_,?_⟩
 ·refine kc fun i=>?_
  by_cases q1:i<off
  ·rw[gz,ge om,gx,if_pos q1]
   have hi:i<(t.row a).length:=om
   have h3:=h2 i (t.row a)[i] (t.row y)[i] (by rw[hget,if_pos q1,ga hi]) (ga om);rw[ga hi,ga om,h3.2 (hex _ (kh hi))]
  ·by_cases q2:i<off+n
   ·rw[gz,gb om,ge (by rw[hto,gr,ka];omega),hto,gx,if_pos om,gy]
    congr 1;omega
   ·rw[gb (by simp;omega),gy]
    have e1:off+n+(i-((t.row a).take off++((t.row y).drop off).take n).length)=i:=by simp;omega
    rw[e1];by_cases hi:i<(t.row a).length
    ·have h3:=h2 i (t.row a)[i] (t.row y)[i] (by rw[hget,if_neg q1,if_neg q2,ga hi]) (ga om)
     rw[ga hi,ga om,h3.2 (hex _ (kh hi))]
    ·rw[go om,go om]
 ·refine⟨by rw[gr,ka];omega,fun i x z hx hz=>?_⟩
  rw[gx]at hz;have hi:=aI hx;rw[if_pos om,gy]at hz;have h3:=h2 (off+i) x z (by rw[hget,if_neg om,if_pos om];rw[show off+i-off=i by omega];exact hx) hz;exact @h3.left
open Classical in
theorem OM {P:Program} {t:TypeId} {p x:Operand} {ev:Operand->V} {h h':List XO} {new:Nat} {cs:List Bool} {z:V} (e:dstore P h t (ev p) (ev x)=some (cs,z,h')) (hc:dK cs) :
  AO P (.store t p x) ev (dens h) new z (dens h'):=by
 have key:∀(id r off:Nat) (ls:List V) (n:Nat) (ty:Ty) (l:List ty.den) (el:El) (y:ty.den),el.fz<=1->ev p = .pO id r off->OV (ev x)=false->leaves (ev x)=some ls->cP P t=some n->ls.length=n ->
   (dens h)[id]? =some (.live ⟨ty.size,l.map ty.row,el⟩)->off+n<=ty.size->un (cN 8) ty ((ty.row (l[r]!)).take off++ls++(ty.row (l[r]!)).drop (off+n))=some (y,[])->r<l.length ->
   AO P (.store t p x) ev (dens h) new .any ((dens h).set id (.live ⟨ty.size,(l.set r y).map ty.row,el⟩)):=by
  intro id r off ls n ty l el y hfz hp hnp hls hn hlen ho hfit hun hr;have hrl:∀a:ty.den,(ty.row a).length=ty.size:=fun a=>by simpa using ty.cells_len a []
  have hfit':off+n<=(ty.row l[r]!).length:=by rw[hrl];exact hfit
  obtain⟨g1,g2⟩:=qLV hlen hfit' hun;obtain⟨w,w1,w2,w3⟩:∃w,leaves w=some (((ty.row y).drop off).take n)/\LE (ev x) w/\aO w= []:=by
   have hzl:(((ty.row y).drop off).take n).length=n:=by rw[gr,ka,hrl];omega
   by_cases hag:∃xs,norm (ev x) = .agg xs
   ·obtain⟨xs,hxs⟩:=hag
    refine⟨.agg (((ty.row y).drop off).take n),rfl,?_,rfl⟩;have:ls=xs:=by simp only[leaves,hxs]at hls;injection hls with hls;exact hls.symm
    subst this;intro _ _ _ _ rr;have rr:=rr.norm;rw[hxs]at rr;exact LE.agg g2 rr
   ·have hl1:ls= [norm (ev x)]:=by
      unfold leaves at hls;split at hls
      ·rename_i xs hxs;exact absurd ⟨xs,hxs⟩ hag
      ·cases hls
      ·cases hls
      ·injection hls with hls;exact hls.symm
    subst hl1;simp at hlen;subst hlen;obtain⟨c,hcx⟩:=List.length_eq_one_iff.1 hzl;have hcm:c∈ty.row y:=by
     have:c∈((ty.row y).drop off).take 1:=by rw[hcx];simp
     exact kn (ko this)
    have hlo:=ty.row_ok y [] rfl;rw[gt]at hlo;have hck:=hlo c hcm;have hce:=ty.ex y [] (fun _ q=>by cases q) c hcm;rw[hcx]at g2 ⊢;have hlec:LE (norm (ev x)) c:=g2.2 0 _ _ rfl rfl;refine⟨c,?_,fun rr=>hlec rr.norm,?_⟩
    ·cases c with
     |v q=>cases q<;>first|rfl|(simp [eZ,Value.oneCell']at hck)
     |sL _ _=>rfl
     |_=>exact hce.elim
    ·cases c with
     |v q=>rfl
     |sL _ _=>rfl
     |_=>exact hce.elim
  have hne:ev p≠ev x:=by
   intro q;rw[<-q,hp]at hnp;cases hnp
  refine⟨fun a=>if ev a=ev x then w else ev a,.any,fun a=>?_,LE.refl _,?_⟩
  ·by_cases q:ev a=ev x
   ·simp only[q,if_true];exact⟨w2,fun i hi=>by rw[w3]at hi;cases hi⟩
   ·simp only[q,if_false];exact⟨LE.refl _,fun _ hi=>hi⟩
  ·have hzl:(((ty.row y).drop off).take n).length=n:=by rw[gr,ka,hrl];omega
   have hall:(((ty.row y).drop off).take n).all eZ=true:=by
    rw[gt];intro c hcm;have hlo:=ty.row_ok y [] rfl;rw[gt]at hlo;exact hlo c (kn (ko hcm))
   have hrow:(l.map ty.row)[r]? =some (ty.row l[r]!):=by simp [hr,getElem!_pos]
   show nZ P (dens h) t (if ev p=ev x then w else ev p) (if ev x=ev x then w else ev x)=_;rw[if_neg hne,if_pos rfl,hp];simp only[nZ,w1,hn,ho,hrow];rw[if_pos ⟨hzl,hall⟩,if_pos ⟨hfit',hfz⟩,g1];simp [List.map_set]
 unfold dstore at e;split at e
 ·rename_i id r off ls n hp hls hn
  split at e
  ·rename_i hlen
   split at e
   ·rename_i ty l el ho
    split at e
    ·rename_i hfit
     split at e
     ·rename_i y hun
      injection e with e;injection e with e1 e2;injection e2 with e2 e3;subst e1 e2 e3;have:=key id r off ls n ty l el y (gq _) hp hlen.2 hls hn hlen.1 (by rw[aJ,ho];rfl) hfit hun (of_decide_eq_true (aF hc).1);rw[aX];exact this
     ·cases e
    ·cases e
   ·rename_i ty b el ho
    split at e
    ·split at e
     ·rename_i hfit
      split at e
      ·rename_i y hun
       injection e with e;injection e with e1 e2;injection e2 with e2 e3;subst e1 e2 e3;have:=key id 0 off ls n ty [b] el y (gq _) hp hlen.2 hls hn hlen.1 (by rw[aJ,ho];rfl) hfit hun sm;rw[aX];exact this
      ·cases e
     ·cases e
    ·cases e
   ·rename_i ty l el ho
    split at e
    ·rename_i hfit
     split at e
     ·rename_i y hun
      injection e with e;injection e with e1 e2;injection e2 with e2 e3;subst e1 e2 e3;have hr:=of_decide_eq_true (aF hc).1;have hn0:¬l.isEmpty=true:=by intro q;rw[gm]at q;subst q;simp at hr
      have hn1:¬(l.set r y).isEmpty=true:=by intro q;rw[gm]at q;have:=congrArg List.length q;simp at this;subst this;simp at hr
      have:=key id r off ls n ty l el y hfit.2 hp hlen.2 hls hn hlen.1 (by rw[aJ,ho];simp [XO.den,hn0]) hfit.1 hun hr;rw[aX];simpa [XO.den,hn1]using this
     ·cases e
    ·cases e
   ·rename_i sz R k row el ho
    split at e
    ·rename_i hfit
     injection e with e;injection e with e1 e2;injection e2 with e2 e3;subst e1 e2 e3;have hr:=of_decide_eq_true (aF hc).1;have hk:=of_decide_eq_true (aF (aF hc).2).1;subst hr;have hd:(dens h)[id]? =some (.live ⟨sz,R.set r row,el⟩):=by rw[aJ,ho];rfl
     refine⟨ev,.any,fun a=>⟨LE.refl _,fun _ q=>q⟩,LE.refl _,?_⟩;show nZ P (dens h) t (ev p) (ev x)=_;have hrow:(R.set r row)[r]? =some row:=gj hk;rw[aX];simp only[nZ,hp,hls,hn,hd,hrow];rw[if_pos ⟨hlen.1,hfit.2⟩,if_pos ⟨hfit.1,by first|trivial|exact gq _⟩]
     simp [XO.den,List.set_set]
    ·cases e
   ·cases e
  ·cases e
 ·cases e
def rdX (h:List XO) (ty:Ty) (y:V):Option (List Bool×List ty.den):=
 match y with
 | .sL _ l=>match fR (t':=ty) l with
   |some l=>some ([],l)
   |none=>none
 | .v (.slice none 0 0)=>some ([],[])
 | .v (.string b)=>match fR (t:=.int .u8) (t':=ty) (aE b)with
   |some l=>some ([],l)
   |none=>none
 | .sO id off len=>match h[id]? with
   |some (.raw (.live o))=>if o.sz=ty.size then match oI unX ty ((o.rows.drop off).take len)with
      |some l=>some ([decide (off+len<=o.rows.length)],l)
      |none=>none
    else none
   |some (.tl _ l _)=>match fR (t':=ty) l,off with
    |some l,0=>some ([decide (len=l.length)],l)
    |some l,_=>some ([decide (off+len<=l.length)],(l.drop off).take len)
    |none,_=>none
   |some (.opt _ l _)=>match fR (t':=ty) l with
    |some l=>some ([decide (0<l.length),decide (off+len<=l.length)],TY l off len)
    |none=>none
   |_=>none
 | .oL id n=>match h[id]? with
   |some (.opt _ l _)=>match fR (t':=ty) l with
    |some l=>some ([decide (n=l.length)],l)
    |none=>none
   |_=>none
 |_=>none
theorem qVU {α:Type} (l:List α) (off len:Nat):TY l off len=(l.drop off).take len:=by cases off<;>rfl
theorem eS {t t':Ty} {l:List t.den} {l':List t'.den} (h:fR l=some l'):t.size=t'.size/\l.map t.row=l'.map t'.row/\l.length=l'.length:=by
 obtain⟨e,h2⟩:=gM h;subst e h2;exact⟨rfl,rfl,rfl⟩
theorem qQL {h:List XO} {ty:Ty} {y:V} {cs:List Bool} {l:List ty.den} (e:rdX h ty y=some (cs,l)) (hc:dK cs):cM (dens h) ty.size y.nf=some (l.map ty.row):=by
 unfold rdX at e;split at e
 ·split at e
  ·rename_i l1 hl
   injection e with e;injection e with e1 e2;subst e1 e2;obtain⟨q1,q2,_⟩:=eS hl;simp only[V.nf,cM,q1,if_true,q2]
  ·cases e
 ·injection e with e;injection e with e1 e2;subst e1 e2;rfl
 ·rename_i b
  split at e
  ·rename_i l1 hl
   injection e with e;injection e with e1 e2;subst e1 e2;obtain⟨q1,q2,_⟩:=eS hl;simp only[V.nf,cM];rw[if_pos (show ty.size=1 from q1.symm),<-q2];congr 1
   unfold aE;rw[List.map_map];rfl
  ·cases e
 ·rename_i id off len
  split at e
  ·rename_i o ho
   split at e
   ·rename_i hsz
    split at e
    ·rename_i l1 hl
     injection e with e;injection e with e1 e2;subst e1 e2;have hb:=of_decide_eq_true (aF hc).1;have hd:(dens h)[id]? =some (.live o):=by rw[aJ,ho];rfl
     simp only[V.nf,cM,hd];rw[if_pos ⟨hsz,hb⟩,CI hl]
    ·cases e
   ·cases e
  ·rename_i t0 l0 el ho
   have hd:(dens h)[id]? =some (.live ⟨t0.size,l0.map t0.row,el⟩):=by rw[aJ,ho];rfl
   split at e
   ·rename_i l1 hl
    injection e with e;injection e with e1 e2;subst e1 e2;have hb:=of_decide_eq_true (aF hc).1;obtain⟨q1,q2,q3⟩:=eS hl;simp only[V.nf,cM,hd];rw[if_pos ⟨q1,by simp [q3,hb]⟩,q2];simp only[gp];rw[gi (by simp [hb])]
   ·rename_i l1 hl _
    injection e with e;injection e with e1 e2;subst e1 e2;have hb:=of_decide_eq_true (aF hc).1;obtain⟨q1,q2,q3⟩:=eS hl;simp only[V.nf,cM,hd];rw[if_pos ⟨q1,by simp [q3,hb]⟩,q2];simp [kt,ku]
   ·cases e
  ·rename_i t0 l0 el ho
   split at e
   ·rename_i l1 hl
    injection e with e;injection e with e1 e2;subst e1 e2;have h0:=of_decide_eq_true (aF hc).1;have hb:=of_decide_eq_true (aF (aF hc).2).1;obtain⟨q1,q2,q3⟩:=eS hl;have hn0:¬l0.isEmpty=true:=by intro q;rw[gm]at q;subst q;simp at q3;omega
    have hd:(dens h)[id]? =some (.live ⟨t0.size,l0.map t0.row,el⟩):=by rw[aJ,ho];simp [XO.den,hn0]
    simp only[V.nf,cM,hd];rw[if_pos ⟨q1,by simp [q3,hb]⟩,q2,qVU];simp [kt,ku]
   ·cases e
  ·cases e
 ·rename_i id n
  split at e
  ·rename_i t0 l0 el ho
   split at e
   ·rename_i l1 hl
    injection e with e;injection e with e1 e2;subst e1 e2;have hb:=of_decide_eq_true (aF hc).1;obtain⟨q1,q2,q3⟩:=eS hl;subst hb;by_cases hn:l1= []
    ·subst hn;rfl
    ·have hn':¬l1.length=0:=fun q=>hn (gc.1 q)
     have hn0:¬l0.isEmpty=true:=by intro q;rw[gm]at q;subst q;simp at q3;exact hn' q3.symm
     have hd:(dens h)[id]? =some (.live ⟨t0.size,l0.map t0.row,el⟩):=by rw[aJ,ho];simp [XO.den,hn0]
     simp only[V.nf,if_neg hn',cM,hd];rw[if_pos ⟨q1,by simp [q3]⟩,q2];simp only[gp];rw[gi sm]
   ·cases e
  ·cases e
 ·cases e
def fzC (s z n:Nat):List Bool:=match z with
 |0=>[]
 |1=>[]
 |z+2=>[Nat.beq s 1,decide (z+1<=n)]
theorem qYR:∀ {s z n:Nat},dK (fzC s z n)->z<=1\/(s=1/\1<=n/\z<=n+1)
 |_,0,_,_=>.inl (gq _)
 |_,1,_,_=>.inl (ke _)
 |_,z+2,_,h=>by
  have h1:=km (h _ (kv ..));have h2:=of_decide_eq_true (h _ (List.mem_cons_of_mem _ (kv ..)));exact .inr ⟨h1,om,om⟩
def qUX (ty:Ty) (e:TypeId):El:=match ty with
 | .int .u8=>⟨e,1⟩
 |_=>⟨e,0⟩
theorem qFA (ty:Ty) (e:TypeId):(qUX ty e).t=e/\(qUX ty e).fz<=1:=by
 unfold qUX;split
 ·exact⟨rfl,ke _⟩
 ·exact⟨rfl,gq _⟩
def bsX (h:List XO) (ty:Ty) (e:TypeId) (x:V):Option (List Bool×List ty.den×Option Nat×El):=
 match x with
 | .v (.slice none 0 0)=>some ([],[],none,qUX ty e)
 | .sO id 0 len=>match h[id]? with
   |some (.raw (.live o))=>if o.sz=ty.size/\o.elem=e then match oI unX ty o.rows with
      |some l=>some ([decide (len=l.length)],l,some id,e)
      |none=>none
    else none
   |some (.tl _ l e')=>if e'=e then match fR (t':=ty) l with
    |some l=>some ([decide (len=l.length)],l,some id,e)
    |none=>none
    else none
   |_=>none
 | .oL id n=>match h[id]? with
   |some (.opt _ l e')=>if e'.t=e then match fR (t':=ty) l with
    |some l=>some (decide (n=l.length)::fzC ty.size e'.fz l.length,l,some id,e')
    |none=>none
    else none
   |_=>none
 |_=>none
theorem qND {h:List XO} {ty:Ty} {el:TypeId} {x:V} {cs:List Bool} {l:List ty.den} {k:Option Nat} {el':El} (e:bsX h ty el x=some (cs,l,k,el')) (hc:dK cs) :
  el'.t=el/\(∀a b c,x = .sO a b c->el'=(el:El))/\((l= []/\x.nf = .v (.slice none 0 0)/\(∀id,k=some id->∃o,h[id]? =some o/\o.den = .dead)/\el'.fz<=1)\/(∃id,k=some id/\x.nf = .sO id 0 l.length/\(dens h)[id]? =some (.live ⟨ty.size,l.map ty.row,el'⟩)/\(el'.fz<=1\/(ty.size=1/\el'.fz<=l.length+1)))):=by
 unfold bsX at e;split at e
 ·injection e with e;injection e with e1 e2;injection e2 with e2 e3;injection e3 with e3 e4;subst e1 e2 e3 e4
  exact⟨(qFA _ _).1,fun _ _ _ q=>(by cases q),.inl ⟨rfl,rfl,fun _ q=>(by cases q),(qFA _ _).2⟩⟩
 ·rename_i id len
  split at e
  ·rename_i o ho
   split at e
   ·rename_i hsz
    split at e
    ·rename_i l1 hl
     injection e with e;injection e with e1 e2;injection e2 with e2 e3;injection e3 with e3 e4;subst e1 e2 e3 e4;have hb:=of_decide_eq_true (aF hc).1;subst hb;refine⟨rfl,fun _ _ _ _=>rfl,.inr ⟨id,rfl,rfl,?_,.inl (gq _)⟩⟩;obtain⟨z1,z2,z3⟩:=o;(try simp only at hsz hl);obtain⟨rfl,rfl⟩:=hsz;rw[aJ,ho,<-CI hl];rfl
    ·cases e
   ·cases e
  ·rename_i t0 l0 e' ho
   split at e
   ·rename_i he
    subst he;split at e
    ·rename_i l1 hl
     injection e with e;injection e with e1 e2;injection e2 with e2 e3;injection e3 with e3 e4;subst e1 e2 e3 e4;have hb:=of_decide_eq_true (aF hc).1;subst hb;obtain⟨q1,q2,q3⟩:=eS hl;refine⟨rfl,fun _ _ _ _=>rfl,.inr ⟨id,rfl,rfl,?_,.inl (gq _)⟩⟩;rw[aJ,ho,<-q1,<-q2];rfl
    ·cases e
   ·cases e
  ·cases e
 ·rename_i id n
  split at e
  ·rename_i t0 l0 e' ho
   split at e
   ·rename_i he
    subst he;split at e
    ·rename_i l1 hl
     injection e with e;injection e with e1 e2;injection e2 with e2 e3;injection e3 with e3 e4;subst e1 e2 e3 e4;have hb:=of_decide_eq_true (aF hc).1;have hz:=qYR (aF hc).2;subst hb;obtain⟨q1,q2,q3⟩:=eS hl;refine⟨rfl,fun _ _ _ q=>(by cases q),?_⟩;by_cases hn:l1= []
     ·subst hn
      have h0:l0= []:=gc.1 (by simpa using q3);subst h0;refine .inl ⟨rfl,rfl,fun i q=>?_,hz.elim (fun q=>q) fun q=>absurd q.2.1 sm⟩;injection q with q;subst q;exact⟨_,ho,rfl⟩
     ·have hn':¬l1.length=0:=fun q=>hn (gc.1 q)
      have hn0:¬l0.isEmpty=true:=by intro q;rw[gm]at q;subst q;simp at q3;exact hn' q3.symm
      refine .inr ⟨id,rfl,by simp only[V.nf,if_neg hn'],?_,hz.imp_right fun q=>⟨q.1,q.2.2⟩⟩;rw[aJ,ho,<-q1,<-q2];simp [XO.den,hn0]
    ·cases e
   ·cases e
  ·cases e
 ·cases e
def dO (h:List XO):Option Nat->List XO
 |some id=>h.set id (.raw .dead)
 |none=>h
def qYZ:List Nat:=[1,2,4,8,16,24,32,40,48,56,64,72,80,88,96,104,112,120,128,136,144,152,160,168,176,184,192,200,208,216,224,232,240,248,256,264,272,280,288,296,304,312,320,3,5,6,7,9,10,11,12,20,28,36,44,52]
def qE6 (b:Nat):List Nat->Option Nat
 | []=>none
 |k::r=>if Nat.beq k b then some k else qE6 b r
theorem XG {b k:Nat}:∀ {l:List Nat},qE6 b l=some k->k=b
 | [],h=>by cases h
 |x::r,h=>by
  simp only[qE6]at h;split at h
  ·rename_i q;injection h with h;subst h;exact km q
  ·exact XG h
def BG (P:Program) (t:TypeId):Option Nat:=match rI P t with
 |some b=>qE6 b qYZ
 |none=>none
theorem vJ {P:Program} {t:TypeId} {b:Nat} (h:BG P t=some b):rI P t=some b:=by
 unfold BG at h;split at h
 ·rename_i c hc;rw[hc,XG h]
 ·cases h
def dappend (P:Program) (h:List XO) (new:Nat) (tys:Array TypeId) (x y:V):DR:=
 match tys[0]?,tys[1]? with
 |some t0,some t1=>match P.underlying t0 with
  |some (.slice e)=>if gU P t1 then match qLZ P 8 e,cP P e,BG P e,dB P e with
   |some ty,some s,some b,some zs=>if ty.size=s/\zs.length=s then match bsX h ty e x,rdX h ty y with
    |some (c1,l1,k,el),some (c2,l2)=>some (decide (l1.length+l2.length<=140737488355328)::decide ((l1.length+l2.length)*b<=140737488355328)::(c1++(c2++(match x with| .sO _ _ _=>[decide (0<(l1++l2).length)]|_=>[]))),.oL new (l1++l2).length,(dO h k).set new (.opt ty (l1++l2) el))
    |_,_=>none
    else none
   |_,_,_,_=>none
   else none
  |_=>none
 |_,_=>none
def nM (P:Program) (h:List XO) (new:Nat) (tys:Array TypeId) (x y:V):DR:=
 match tys[0]?,tys[1]? with
 |some t0,some t1=>match P.underlying t0 with
  |some (.slice e)=>if gU P t1 then match qLZ P 8 e,cP P e,BG P e,dB P e with
   |some ty,some s,some b,some zs=>if ty.size=s/\zs.length=s then match bsX h ty e x,rdX h ty y with
    |some (c1,l1,k,_),some (c2,l2)=>some (decide (l1.length+l2.length<=140737488355328)::decide ((l1.length+l2.length)*b<=140737488355328)::(c1++c2),.sO new 0 (l1++l2).length,(dO h k).set new (.tl ty (l1++l2) e))
    |_,_=>none
    else none
   |_,_,_,_=>none
   else none
  |_=>none
 |_,_=>none
def dapp (P:Program) (h:List XO) (new:Nat) (tys:Array TypeId) (x y:V):DR:=match x with
 | .sO a b c=>nM P h new tys (.sO a b c) y
 |z=>dappend P h new tys z y
theorem gS {h:Heap} {new:Nat} {o:AObj} (hf:h[new]? =some .free):halloc h new o=some (h.set new (.live o)):=by
 simp only[halloc,hf]
theorem HRel.fill {h:Heap} {ι:Iota} {w:World} (H:HRel h ι w) {id:Nat} (hf:h[id]? =some .free):HRel (h.set id .dead) ι w/\Evolve h ι w (h.set id .dead) ι w:=by
 have hidlt:=aI hf;have get:∀(k:Nat) (x:AObj),(h.set id HS.dead)[k]? =some (.live x)↔h[k]? =some (.live x):=by
  intro k x;by_cases hk:k=id
  ·subst hk;rw[gj hidlt,hf];simp
  ·rw[gg om]
 have ob:∀b,Ob (h.set id .dead) ι b↔Ob h ι b:=by
  intro b;constructor
  ·rintro⟨k,x,y,h1,h2,h3⟩;exact⟨k,x,y,(get k x).1 h1,h2,h3⟩
  ·rintro⟨k,x,y,h1,h2,h3⟩;exact⟨k,x,y,(get k x).2 h1,h2,h3⟩
 have ev:Evolve h ι w (h.set id .dead) ι w:=⟨rfl,rfl,rfl,ke _,fun _ _ q=>q,rfl,fun b _ hm=>⟨rfl,fun q=>hm ((ob b).1 q)⟩,fun b c _ fr hb=>⟨c,fr,hb,rfl⟩⟩
 refine⟨⟨fun k x hx=>?_,fun k hk=>?_,fun k hk=>H.out k (by simpa using hk),fun k1 o1 l1 k2 o2 l2 a1 a2 b1 b2=>H.apart _ _ _ _ _ _ ((get _ _).1 a1) a2 ((get _ _).1 b1) b2,H.xlt,fun b hb q=>H.xob b hb ((ob b).1 q)⟩,ev⟩
 ·obtain⟨l2,c2,fr2,h1,la2⟩:=H.live k x ((get k x).1 hx)
  exact⟨l2,c2,fr2,h1,⟨la2.blk,la2.unfrozen,la2.sz,la2.rows,la2.fits,fun i hi j hj=>let ⟨y,q1,q2⟩:=la2.reads i hi j hj;⟨y,q1,q2.mono ev⟩⟩⟩
 ·have hne:k≠id:=by intro e;subst e;rw[gj hidlt]at hk;cases hk
  rw[gg om]at hk;exact H.free k hk
theorem HRel.move {h:Heap} {ι:Iota} {w:World} (H:HRel h ι w) {id new:Nat} {o:AObj} {l:Loc} (ho:h[id]? =some (.live o)) (hl:ι id=some l) (hf:h[new]? =some .free) (hz:l.base%o.sz=0) :
  HRel ((h.set id .dead).set new (.live o)) (ι.put new ⟨l.blk,l.base,o.sz,hz⟩) w/\Evolve h ι w ((h.set id .dead).set new (.live o)) (ι.put new ⟨l.blk,l.base,o.sz,hz⟩) w:=by
 obtain⟨l',c,fr,h1,la⟩:=H.live id o ho;rw[hl]at h1;injection h1 with h1;subst h1;have hne:id≠new:=by intro q;subst q;rw[ho]at hf;cases hf
 have hf':(h.set id .dead)[new]? =some .free:=by rw[gg hne];exact hf
 exact HRel.reloc H ho hl la (new:=new) (o':=o) (gS hf') (base':=l.base) hz (c':=c) (w':=w) ⟨rfl,rfl,rfl,rfl,fun _ _=>rfl⟩ la.blk rfl rfl rfl (.inr rfl) la.rows la.fits la.reads
theorem ZG {h:List XO} {k:Option Nat} (hk:∀id,k=some id->∃o,h[id]? =some o/\o.den = .dead):dens (dO h k)=dens h:=by
 cases k with
 |none=>rfl
 |some id=>
  obtain⟨o,h1,h2⟩:=hk id rfl;have hlt:=aI h1;rw[dO,aX];refine kc fun i=>?_
  by_cases q:i=id
  ·subst q
   rw[gj (by rw[eD];exact hlt),aJ,h1];exact congrArg some h2.symm
  ·rw[gg om]
theorem HRel.weakLe {ι:Iota} {w:World} {h:Heap} (H:HRel h ι w) {id:Nat} {o o':AObj} (ho:h[id]? =some (.live o)) (hs:o'.sz=o.sz) (he:o'.elem=o.elem) (hl:o'.rows.length<=o.rows.length)
  (hr:∀(i:Nat) (r r':List V),o.rows[i]? =some r->o'.rows[i]? =some r'->LEs r r'):HRel (h.set id (.live o')) ι w/\Evolve h ι w (h.set id (.live o')) ι w:=by
 have hidlt:=aI ho;have get:∀(k:Nat),k≠id->(h.set id (.live o'))[k]? =h[k]?:=fun k hk=>gg om
 have gid:(h.set id (HS.live o'))[id]? =some (.live o'):=by simp [hidlt]
 have ob:∀b,Ob (h.set id (.live o')) ι b->Ob h ι b:=by
  rintro b ⟨k,x,y,h1,h2,h3⟩;by_cases hk:k=id
  ·subst hk;exact⟨k,_,y,ho,h2,h3⟩
  ·rw[get k hk]at h1;exact⟨k,x,y,h1,h2,h3⟩
 have ev:Evolve h ι w (h.set id (.live o')) ι w:=⟨rfl,rfl,rfl,ke _,fun _ _ q=>q,rfl,fun b _ hm=>⟨rfl,fun q=>hm (ob b q)⟩,fun b c _ fr hb=>⟨c,fr,hb,rfl⟩⟩
 have f:∀(k:Nat) (x:AObj),(h.set id (.live o'))[k]? =some (.live x)->∃y,h[k]? =some (.live y):=by
  intro k x hx;by_cases hk:k=id
  ·subst hk;exact⟨_,ho⟩
  ·rw[get k hk]at hx;exact⟨x,hx⟩
 refine⟨⟨fun k x hx=>?_,fun k hk=>?_,fun k hk=>H.out k (by simpa using hk),fun k1 o1 l1 k2 o2 l2 a1 a2 b1 b2 hbk=>?_,H.xlt,fun b hb q=>H.xob b hb (ob b q)⟩,ev⟩
 ·by_cases hk:k=id
  ·subst hk
   rw[gid]at hx;injection hx with hx;injection hx with hx;subst hx;obtain⟨l2,c2,fr2,h1,la2⟩:=H.live k _ ho;have row:∀(i:Nat) (r':List V),o'.rows[i]? =some r'->∃r,o.rows[i]? =some r/\LEs r r':=by
    intro i r' hr';have hi:i<o.rows.length:=Nat.lt_of_lt_of_le (aI hr') hl;exact⟨_,ga hi,hr i _ _ (ga hi) hr'⟩
   refine⟨l2,c2,fr2,h1,⟨by rw[he];exact la2.blk,by rw[he,hs];exact la2.unfrozen,by rw[hs];exact la2.sz,fun q hq=>?_,by rw[hs];exact Nat.le_trans (Nat.add_le_add_left (Nat.mul_le_mul_right _ hl) _) la2.fits,?_⟩⟩
   ·obtain⟨i,hi,e⟩:=kp hq
    obtain⟨r,r1,r2⟩:=row i q (by rw[ga hi,e]);rw[<-r2.1,hs];exact la2.rows r (cD r1)
   ·refine fJ (rows:=o'.rows) (p:=fun i j x=>∃y,c2[l2.base+i*o'.sz+j]? =some y/\Rep w ι (Mt (h.set k (.live o')) ι) x y) (fun i j r' x' hi hj=>?_)
    obtain⟨r,r1,r2⟩:=row i r' hi;obtain⟨x,x1,x2⟩:=r2.opt hj;obtain⟨_,_,u,u1,u2⟩:=la2.get r1 x1;exact⟨u,by rw[hs];exact u1,(x2 u2).mono ev⟩
  ·rw[get k hk]at hx
   obtain⟨l2,c2,fr2,h1,la2⟩:=H.live k x hx;exact⟨l2,c2,fr2,h1,⟨la2.blk,la2.unfrozen,la2.sz,la2.rows,la2.fits,fun i hi j hj=>let ⟨y,q1,q2⟩:=la2.reads i hi j hj;⟨y,q1,q2.mono ev⟩⟩⟩
 ·have hne:k≠id:=by intro e;subst e;rw[gid]at hk;cases hk
  rw[get k hne]at hk;exact H.free k hk
 ·obtain⟨y1,q1⟩:=f _ _ a1
  obtain⟨y2,q2⟩:=f _ _ b1;exact H.apart _ _ _ _ _ _ q1 a2 q2 b2 hbk
theorem HRel.weakObj {ι:Iota} {w:World} {h:Heap} (H:HRel h ι w) {id:Nat} {o o':AObj} (ho:h[id]? =some (.live o)) (hs:o'.sz=o.sz) (he:o'.elem=o.elem) (hl:o.rows.length=o'.rows.length)
  (hr:∀(i:Nat) (r r':List V),o.rows[i]? =some r->o'.rows[i]? =some r'->LEs r r'):HRel (h.set id (.live o')) ι w/\Evolve h ι w (h.set id (.live o')) ι w:=
 H.weakLe ho hs he (Nat.le_of_eq hl.symm) hr
theorem HRel.weakF {ι:Iota} {w:World} {h:Heap} (H:HRel h ι w) {id:Nat} {o:AObj} (ho:h[id]? =some (.live o)) (hz:o.elem.fz<=1) :
  HRel (h.set id (.live ⟨o.sz,o.rows,o.elem.t⟩)) ι w/\Evolve h ι w (h.set id (.live ⟨o.sz,o.rows,o.elem.t⟩)) ι w:=by
 obtain⟨l,c,fr,h1,la⟩:=H.live id o ho;exact H.updG ho h1 la (o':=⟨o.sz,o.rows,o.elem.t⟩) (c':=c) (w':=w) ⟨rfl,rfl,rfl,rfl,fun _ _=>rfl⟩ la.blk rfl rfl rfl (la.unfrozen.drop hz) la.rows la.fits la.reads
theorem HRel.weakN {ι:Iota} {w:World} {h:Heap} (H:HRel h ι w) {id sz:Nat} {rows:List (List V)} {el:TypeId} {ez:El} (ho:h[id]? =some (.live ⟨sz,rows,⟨el,1⟩⟩)) (ht:ez.t=el) (hz:ez.fz<=1) :
  HRel (h.set id (.live ⟨sz,rows,ez⟩)) ι w/\Evolve h ι w (h.set id (.live ⟨sz,rows,ez⟩)) ι w:=by
 obtain⟨t,z⟩:=ez;(try simp only at ht hz);subst ht;match z,hz with
 |0,_=>exact H.weakF ho (ke _)
 |1,_=>
  have:h.set id (.live ⟨sz,rows,⟨t,1⟩⟩)=h:=by rw[<-(List.getElem?_eq_some_iff.1 ho).2,List.set_getElem_self]
  rw[this];exact⟨H,Evolve.refl _ _ _⟩
theorem OS.post {P:Program} {h:Heap} {ι:Iota} {w:World} {m:Sem Next} {x1 x2:V} {k1 k2:Heap} (ho:OS P h ι w m (some (x1,k1)))
  (hp:∀ {w:World} {ι:Iota},HRel k1 ι w->∃ι',HRel k2 ι' w/\Evolve k1 ι w k2 ι' w/\∀ {y:Value},Rep w ι (Mt k1 ι) x1 y->Rep w ι' (Mt k2 ι') x2 y):OS P h ι w m (some (x2,k2)):=by
 intro x h' e;injection e with e;injection e with e1 e2;subst e1 e2;obtain⟨y,w',ι',g1,g2,g3,g4⟩:=ho x1 k1 rfl;obtain⟨ι2,q1,q2,q3⟩:=hp g3;exact⟨y,w',ι2,g1,q3 g2,q1,g4.trans q2⟩
theorem EG {w:World} {ι:Iota} {h:Heap} {id new:Nat} {o:AObj} {l:Loc} (ho:h[id]? =some (.live o)) (hl:ι id=some l) (hs:l.sz=o.sz) (hz:l.base%o.sz=0) {M M':Nat->Prop} {n:Nat} {y:Value} (r:Rep w ι M (.sO id 0 n) y) :
  Rep w (ι.put new ⟨l.blk,l.base,o.sz,hz⟩) M' (.sO new 0 n) y:=by
 cases r with
 |sO _ _ _ cap l2 c e fr hl2 hcap hb hsz=>
  rw[hl]at hl2;injection hl2 with hl2;subst hl2;have h1:(ι.put new ⟨l.blk,l.base,o.sz,hz⟩) new=some ⟨l.blk,l.base,o.sz,hz⟩:=by simp [Iota.put]
  have:=Rep.sO (M:=M') new 0 n cap _ c e fr h1 hcap hb (by show l.base+(0+cap)*o.sz<=c.size;rw[<-hs];exact hsz);rw[hs];exact this
theorem qBS {P:Program} {h h':List XO} {new:Nat} {X Y:Operand} {tys:Array TypeId} {ev:Operand->V} {z:V} {cs:List Bool} (e:dappend P h new tys (ev X) (ev Y)=some (cs,z,h')) (hc:dK cs) (hn:h[new]? =some (.raw .free))
  {ι:Iota} {w:World} (H:HRel (dens h) ι w) {a:Act} (hev:∀x,Rep w ι (Mt (dens h) ι) (ev x) (a.eval x)) {o:Oper} (ho:o.op = .call ⟨.builtin .append,#[X,Y],tys⟩) (h2:tys.size=2) :
  OS P (dens h) ι w (execOp a.eval o) (some (z,dens h')):=by
 have hos:=mB (P:=P) H (fun x=>(hev x).nf) o new;have hop:aop P o.op (fun x=>(ev x).nf) (dens h) new=fP P (dens h) new tys (ev X).nf (ev Y).nf:=by
  rw[ho];simp only[aop,gw,kb,fY];rw[if_pos h2]
 rw[hop]at hos;clear hop ho hev;have hfree:(dens h)[new]? =some .free:=by rw[aJ,hn];rfl
 unfold dappend at e;split at e
 ·rename_i t0 t1 ht0 ht1
  split at e
  ·rename_i el hu
   split at e
   ·rename_i hst
    split at e
    ·rename_i ty s b zs hty hs hb hz
     have hb:=vJ hb;split at e
     ·rename_i hsz
      obtain⟨hsz,hzl⟩:=hsz;subst hsz;split at e
      ·rename_i c1 l1 k ez c2 l2 hbs hrd
       injection e with e;injection e with e1 e2;injection e2 with e2 e3;subst e1 e2 e3;obtain⟨hr1,hc⟩:=aF hc;obtain⟨hr2,hc⟩:=aF hc;have hroom:oE (l1.length+l2.length) b=true:=by
        have hr1:=of_decide_eq_true hr1;have hr2:=of_decide_eq_true hr2;simp only[oE,gl,decide_eq_true_eq];exact⟨hr1,hr2⟩
       have hc1:dK c1:=fun c q=>hc c (gh.2 (.inl q))
       have hc2:dK c2:=fun c q=>hc c (gh.2 (.inr (gh.2 (.inl q))))
       have hc3:dK (match ev X with| .sO _ _ _=>[decide (0<(l1++l2).length)]|_=>[]):=fun c q=>hc c (gh.2 (.inr (gh.2 (.inr q))))
       have hrows:=qQL hrd hc2;obtain⟨hezt,hezs,hbase⟩:=qND hbs hc1;have happ:fP P (dens h) new tys (ev X).nf (ev Y).nf=bX P (dens h) new el ty.size b zs (ev X).nf (l2.map ty.row):=by
        unfold fP;simp only[ht0,ht1,hu,hst,if_true,nK,hs,hb,hz,hrows]
       rw[happ]at hos;have hall:(l2.map ty.row).all (·.all eZ)=true:=by
        rw[gt];intro r hr;obtain⟨q,_,rfl⟩:=List.mem_map.1 hr;exact ty.row_ok q [] rfl
       by_cases hl2:l2= []
       ·subst hl2
        rcases hbase with⟨rfl,hx,hk,hzf⟩|⟨id,rfl,hx,ho,hzf⟩
        ·rw[hx]at hos
         have:bX P (dens h) new el ty.size b zs (.v (.slice none 0 0)) ([].map ty.row)=some (.v (.slice none 0 0),dens h):=rfl;rw[this]at hos;refine hos.post fun{w ι} H=>?_
         have hd:dens ((dO h k).set new (.opt ty ([]++ []) ez))=(dens h).set new .dead:=by rw[aX,ZG hk];rfl
         rw[hd];obtain⟨H1,ev1⟩:=H.fill hfree;refine⟨ι,H1,ev1,fun r=>?_⟩;exact .oL new _ _ (r.mono ev1)
        ·rw[hx]at hos
         have:bX P (dens h) new el ty.size b zs (.sO id 0 l1.length) ([].map ty.row)=some (.sO id 0 l1.length,dens h):=rfl;rw[this]at hos;rw[List.append_nil];by_cases hl1:l1= []
         ·subst hl1
          exfalso;revert hx hc3;cases ev X with
          |sO a b c=>intro hc3 _;have:=of_decide_eq_true (hc3 _ (List.mem_singleton.2 rfl));simp at this
          |oL a b=>intro _ hx;simp only[V.nf]at hx;split at hx
                   ·cases hx
                   ·rename_i q2;injection hx with _ _ q;exact q2 q
          |_=>intro _ hx;cases hx
         ·refine hos.post fun{w ι} H=>?_
          have hd:dens ((dO h (some id)).set new (.opt ty l1 ez))=((dens h).set id .dead).set new (.live ⟨ty.size,l1.map ty.row,ez⟩):=by
           simp [dO,aX,XO.den,hl1]
          rw[hd];obtain⟨l,c,fr,g1,la⟩:=H.live id _ ho;obtain⟨H1,ev1⟩:=H.move ho g1 hfree (la.sz ▸ l.al);refine⟨_,H1,ev1,fun r=>?_⟩;have hn1:¬l1.length=0:=fun q=>hl1 (gc.1 q)
          refine .oL new _ _ ?_;rw[if_neg hn1];exact EG ho g1 la.sz (la.sz ▸ l.al) r
       ·have hl2':(l2.map ty.row).isEmpty=false:=by cases l2 with
          |nil=>exact absurd rfl hl2
          |cons _ _=>rfl
        have hne:¬(l1++l2).length=0:=by
         intro q;apply hl2;apply gc.1;simp at q;simp [q.2]
        rcases hbase with⟨rfl,hx,hk,hzf⟩|⟨id,rfl,hx,ho,hzf⟩
        ·have hfin:bX P (dens h) new el ty.size b zs (ev X).nf (l2.map ty.row)=some (.sO new 0 l2.length,(dens h).set new (.live ⟨ty.size,l2.map ty.row,⟨el,1⟩⟩)):=by
           rw[hx];unfold bX;rw[hl2',if_neg sm,if_pos ⟨hzl,hall⟩];simp only[fM];rw[if_pos ⟨trivial,by simpa using hroom⟩,gS hfree];simp
         rw[hfin]at hos;refine hos.post fun{w ι} H=>?_
         have hd:dens ((dO h k).set new (.opt ty ([]++l2) ez))=((dens h).set new (.live ⟨ty.size,l2.map ty.row,⟨el,1⟩⟩)).set new (.live ⟨ty.size,l2.map ty.row,ez⟩):=by
          rw[aX,ZG hk,List.set_set];simp [XO.den,hl2]
         rw[hd];obtain⟨H1,ev1⟩:=H.weakN (gj (aI hfree)) hezt hzf;refine⟨ι,H1,ev1,fun r=>.oL new _ _ ?_⟩;rw[if_neg hne];exact r.mono ev1
        ·have hfin:(some (V.sO new 0 (l1++l2).length,dens ((dO h (some id)).set new (.opt ty (l1++l2) ez))):Option (V×Heap))=bX P (dens h) new el ty.size b zs (ev X).nf (l2.map ty.row):=by
           rw[hx];unfold bX;rw[hl2',if_neg sm,if_pos ⟨hzl,hall⟩];simp only[ho];have hne2:id≠new:=by intro q;subst q;rw[ho]at hfree;cases hfree
           rw[if_pos ⟨trivial,⟨hezt,hzf.imp_right fun q=>⟨rfl,by rw[q.1,Nat.mul_one];exact q.2⟩⟩,sm,by simpa using hroom⟩,gS (by rw[gg hne2];exact hfree)];have hemp:(l1++l2).isEmpty=false:=by cases l1<;>cases l2<;>simp_all
           have htk:((l1.map ty.row).drop 0).take l1.length=l1.map ty.row:=by rw[gp,gi sm]
           simp only[htk,dO,aX,XO.den,hemp,List.map_append,gn,List.length_map];rfl
         rw[<-hfin]at hos;refine hos.post fun{w ι} H=>⟨ι,H,Evolve.refl _ _ _,fun r=>.oL new _ _ ?_⟩
         rw[if_neg hne];exact r
      ·cases e
     ·cases e
    ·cases e
   ·cases e
  ·cases e
 ·cases e
theorem VZ {P:Program} {h h':List XO} {new:Nat} {X Y:Operand} {tys:Array TypeId} {ev:Operand->V} {z:V} {cs:List Bool} (e:nM P h new tys (ev X) (ev Y)=some (cs,z,h')) (hc:dK cs) (hn:h[new]? =some (.raw .free))
  {ι:Iota} {w:World} (H:HRel (dens h) ι w) {a:Act} (hev:∀x,Rep w ι (Mt (dens h) ι) (ev x) (a.eval x)) {o:Oper} {xa xb xc:Nat} (hX:ev X = .sO xa xb xc) (ho:o.op = .call ⟨.builtin .append,#[X,Y],tys⟩) (h2:tys.size=2) :
  OS P (dens h) ι w (execOp a.eval o) (some (z,dens h')):=by
 have hos:=mB (P:=P) H (fun x=>(hev x).nf) o new;have hop:aop P o.op (fun x=>(ev x).nf) (dens h) new=fP P (dens h) new tys (ev X).nf (ev Y).nf:=by
  rw[ho];simp only[aop,gw,kb,fY];rw[if_pos h2]
 rw[hop]at hos;clear hop ho hev;have hfree:(dens h)[new]? =some .free:=by rw[aJ,hn];rfl
 unfold nM at e;split at e
 ·rename_i t0 t1 ht0 ht1
  split at e
  ·rename_i el hu
   split at e
   ·rename_i hst
    split at e
    ·rename_i ty s b zs hty hs hb hz
     have hb:=vJ hb;split at e
     ·rename_i hsz
      obtain⟨hsz,hzl⟩:=hsz;subst hsz;split at e
      ·rename_i c1 l1 k ez c2 l2 hbs hrd
       injection e with e;injection e with e1 e2;injection e2 with e2 e3;subst e1 e2 e3;obtain⟨hr1,hc⟩:=aF hc;obtain⟨hr2,hc⟩:=aF hc;have hroom:oE (l1.length+l2.length) b=true:=by
        have hr1:=of_decide_eq_true hr1;have hr2:=of_decide_eq_true hr2;simp only[oE,gl,decide_eq_true_eq];exact⟨hr1,hr2⟩
       have hc1:dK c1:=fun c q=>hc c (gh.2 (.inl q))
       have hc2:dK c2:=fun c q=>hc c (gh.2 (.inr q))
       have hrows:=qQL hrd hc2;obtain⟨hezt,hezs,hbase⟩:=qND hbs hc1;have happ:fP P (dens h) new tys (ev X).nf (ev Y).nf=bX P (dens h) new el ty.size b zs (ev X).nf (l2.map ty.row):=by
        unfold fP;simp only[ht0,ht1,hu,hst,if_true,nK,hs,hb,hz,hrows]
       rw[happ]at hos;have hall:(l2.map ty.row).all (·.all eZ)=true:=by
        rw[gt];intro r hr;obtain⟨q,_,rfl⟩:=List.mem_map.1 hr;exact ty.row_ok q [] rfl
       obtain rfl:=hezs _ _ _ hX;by_cases hl2:l2= []
       ·subst hl2
        rcases hbase with⟨rfl,hx,hk,hzf⟩|⟨id,rfl,hx,ho,hzf⟩
        ·rw[hX]at hx;cases hx
        ·rw[hx]at hos
         have:bX P (dens h) new el ty.size b zs (.sO id 0 l1.length) ([].map ty.row)=some (.sO id 0 l1.length,dens h):=rfl;rw[this]at hos;rw[List.append_nil];refine hos.post fun{w ι} H=>?_
         have hd:dens ((dO h (some id)).set new (.tl ty l1 el))=((dens h).set id .dead).set new (.live ⟨ty.size,l1.map ty.row,el⟩):=by
          simp [dO,aX,XO.den]
         rw[hd];obtain⟨l,c,fr,g1,la⟩:=H.live id _ ho;obtain⟨H1,ev1⟩:=H.move ho g1 hfree (la.sz ▸ l.al);exact⟨_,H1,ev1,fun r=>EG ho g1 la.sz (la.sz ▸ l.al) r⟩
       ·have hl2':(l2.map ty.row).isEmpty=false:=by cases l2 with
          |nil=>exact absurd rfl hl2
          |cons _ _=>rfl
        have hne:¬(l1++l2).length=0:=by
         intro q;apply hl2;apply gc.1;simp at q;simp [q.2]
        have hfin:(some (V.sO new 0 (l1++l2).length,dens ((dO h k).set new (.tl ty (l1++l2) el))):Option (V×Heap))=bX P (dens h) new el ty.size b zs (ev X).nf (l2.map ty.row):=by
         rcases hbase with⟨rfl,hx,hk,hzf⟩|⟨id,rfl,hx,ho,hzf⟩
         ·rw[hX]at hx;cases hx
         ·rw[hx]
          unfold bX;rw[hl2',if_neg sm,if_pos ⟨hzl,hall⟩];simp only[ho];have hne2:id≠new:=by intro q;subst q;rw[ho]at hfree;cases hfree
          rw[if_pos ⟨trivial,⟨rfl,.inl (gq _)⟩,sm,by simpa using hroom⟩,gS (by rw[gg hne2];exact hfree)];have htk:((l1.map ty.row).drop 0).take l1.length=l1.map ty.row:=by rw[gp,gi sm]
          simp only[htk,dO,aX,XO.den,List.map_append,gn,List.length_map]
        rw[<-hfin]at hos;exact hos
      ·cases e
     ·cases e
    ·cases e
   ·cases e
  ·cases e
 ·cases e
def KK:Operand->Operand->Bool
 | .tmp i,.tmp j=>i == j
 |_,_=>false
def dmake (P:Program) (h:List XO) (new:Nat) (t:TypeId) (same:Bool) (n m:Int):DR:=
 match P.underlying t with
 |some (.slice e)=>match qLZ P 8 e,cP P e,dB P e,BG P e with
  |some ty,some s,some zs,some b=>if ty.size=s/\zs.length=s then match un (cN 8) ty zs with
   |some (d,[])=>some (decide (0<=n)::decide (m<=281474976710656)::decide ((b:Int)*m<=281474976710656)::(if same then[]else[decide (n<=m)]),.sO new 0 n.toNat,h.set new (.tl ty (gf n.toNat d) e))
   |_=>none
   else none
  |_,_,_,_=>none
 |_=>none
def dmkr (P:Program) (wr:Bool) (o:Op) (ev:Operand->V) (h:List XO) (new:Nat):DR:=match wr,o with
 |true,.makeSlice t l c=>match ev l,ev c with
  | .v (.int _ n),.v (.int _ m)=>match P.underlying t with
    |some (.slice e)=>match cP P e,dB P e,BG P e with
     |some s,some zs,some b=>if zs.length=s then some ([decide (0<=n),decide (n=m),decide (m<=281474976710656),decide ((b:Int)*m<=281474976710656)],.sO new 0 n.toNat,h.set new (.row1 s (gf n.toNat zs) n.toNat zs e))else none
     |_,_,_=>none
    |_=>none
  |_,_=>none
 |_,_=>none
theorem qTB {P:Program} {wr:Bool} {o:Op} {ev:Operand->V} {h h':List XO} {new:Nat} {cs:List Bool} {x:V} (e:dmkr P wr o ev h new=some (cs,x,h')):h'.length=h.length/\∀j,j≠new->h'[j]? =h[j]?:=by
 unfold dmkr at e;repeat' split at e
 all_goals first|(cases e;done)|skip
 injection e with e;injection e with e1 e2;injection e2 with e2 e3;subst e3;exact⟨sm,fun j hj=>gg (fun q=>hj q.symm)⟩
theorem qTC {P:Program} {wr:Bool} {o:Oper} {ev:Operand->V} {h h':List XO} {new:Nat} {cs:List Bool} {x:V} (e:dmkr P wr o.op ev h new=some (cs,x,h')) (hc:dK cs) (hn:h[new]? =some (.raw .free))
  {ι:Iota} {w:World} (H:HRel (dens h) ι w) {a:Act} (hev:∀x,Rep w ι (Mt (dens h) ι) (ev x) (a.eval x)):OS P (dens h) ι w (execOp a.eval o) (some (x,dens h')):=by
 unfold dmkr at e;split at e
 ·rename_i t L C ho
  have hos:=mB (P:=P) H hev o new;have hop:aop P o.op ev (dens h) new=dP P (dens h) new t (ev L) (ev C):=by rw[ho];rfl
  rw[hop]at hos;split at e
  ·rename_i k n k' m hL hC
   rw[hL,hC]at hos;split at e
   ·rename_i el hu
    split at e
    ·rename_i s zs b hs hz hb
     have hb:=vJ hb;split at e
     ·rename_i hzl
      injection e with e;injection e with e1 e2;injection e2 with e2 e3;subst e1 e2 e3;obtain⟨h0,hc⟩:=aF hc;obtain⟨h1,hc⟩:=aF hc;obtain⟨h2,hc⟩:=aF hc;have h3:=of_decide_eq_true (aF hc).1;have h0:=of_decide_eq_true h0;have h1:=of_decide_eq_true h1;have h2:=of_decide_eq_true h2;subst h1;have hfree:(dens h)[new]? =some .free:=by rw[aJ,hn];rfl
      have:dP P (dens h) new t (.v (.int k n)) (.v (.int k' n))=some (.sO new 0 n.toNat,(dens h).set new (.live ⟨s,gf n.toNat zs,el⟩)):=by
       simp only[dP,hu,lW,hs,hz,hb];rw[if_pos ⟨hzl,h0,Int.le_refl _,h2,h3⟩,gS hfree]
      rw[this]at hos;have hd2:dens (h.set new (.row1 s (gf n.toNat zs) n.toNat zs el))=(dens h).set new (.live ⟨s,gf n.toNat zs,el⟩):=by
       rw[aX];simp only[XO.den];rw[show(gf n.toNat zs).set n.toNat zs=gf n.toNat zs from List.set_eq_of_length_le sm]
      rw[hd2];exact hos
     ·cases e
    ·cases e
   ·cases e
  ·cases e
 ·cases e
theorem qOC {P:Program} {h h':List XO} {new:Nat} {t:TypeId} {L C:Operand} {k k':IntKind} {n m:Int} {ev:Operand->V} {z:V} {cs:List Bool} (hL:ev L = .v (.int k n)) (hC:ev C = .v (.int k' m))
  (e:dmake P h new t (KK L C) n m=some (cs,z,h')) (hc:dK cs) (hn:h[new]? =some (.raw .free))
  {ι:Iota} {w:World} (H:HRel (dens h) ι w) {a:Act} (hev:∀x,Rep w ι (Mt (dens h) ι) (ev x) (a.eval x)) {o:Oper} (ho:o.op = .makeSlice t L C) :
  OS P (dens h) ι w (execOp a.eval o) (some (z,dens h')):=by
 have hos:=mB (P:=P) H hev o new;have hop:aop P o.op ev (dens h) new=dP P (dens h) new t (ev L) (ev C):=by rw[ho];rfl
 rw[hop,hL,hC]at hos;have hnm:KK L C=true->n=m:=by
  intro q;cases L<;>cases C<;>simp [KK]at q
  subst q;rw[hL]at hC;injection hC with hC;injection hC with _ hC
 clear hop ho hev;have hfree:(dens h)[new]? =some .free:=by rw[aJ,hn];rfl
 unfold dmake at e;split at e
 ·rename_i el hu
  split at e
  ·rename_i ty s zs b hty hs hz hb
   have hb:=vJ hb;split at e
   ·rename_i hsz
    obtain⟨hsz,hzl⟩:=hsz;subst hsz;split at e
    ·rename_i d hd
     injection e with e;injection e with e1 e2;injection e2 with e2 e3;subst e1 e2 e3;obtain⟨h0,hc⟩:=aF hc;obtain⟨h1,hc⟩:=aF hc;obtain⟨h2,hc⟩:=aF hc;have h0:=of_decide_eq_true h0;have h1:=of_decide_eq_true h1;have h2:=of_decide_eq_true h2;have hnm':n<=m:=by
      by_cases q:KK L C=true
      ·exact hnm q ▸ Int.le_refl _
      ·rw[if_neg q]at hc;exact of_decide_eq_true (aF hc).1
     have:dP P (dens h) new t (.v (.int k n)) (.v (.int k' m))=some (.sO new 0 n.toNat,(dens h).set new (.live ⟨ty.size,gf n.toNat zs,el⟩)):=by
      simp only[dP,hu,lW,hs,hz,hb];rw[if_pos ⟨hzl,h0,hnm',h1,h2⟩,gS hfree]
     rw[this]at hos;refine hos.post fun{w ι} H=>?_
     have hlt:=aI hfree;have hrow:=oJ (fW 8) (fun _=>LE.refl _) hd;have hd2:dens (h.set new (.tl ty (gf n.toNat d) el))=((dens h).set new (.live ⟨ty.size,gf n.toNat zs,el⟩)).set new (.live ⟨ty.size,(gf n.toNat d).map ty.row,el⟩):=by
      rw[aX];simp [XO.den]
     rw[hd2];obtain⟨H1,ev1⟩:=H.weakObj (id:=new) (o:=⟨ty.size,gf n.toNat zs,el⟩) (o':=⟨ty.size,(gf n.toNat d).map ty.row,el⟩) (by rw[gj hlt]) rfl rfl sm (fun i r r' hr hr'=>by
      simp [List.getElem?_replicate]at hr hr';obtain⟨_,rfl⟩:=hr;obtain⟨_,rfl⟩:=hr';exact hrow)
     exact⟨ι,H1,ev1,fun r=>r.mono ev1⟩
    ·cases e
   ·cases e
  ·cases e
 ·cases e
def nP (P:Program) (h:List XO) (new:Nat) (s d:TypeId) (x:V):DR:=
 match x,P.underlying s,P.underlying d with
 | .v (.string b),some .string,some (.slice e)=>match P.underlying e with
   |some (.int .u8)=>some ([],.sO new 0 b.size,h.set new (.tl (.int .u8) (aE b) e))
   |_=>none
 |_,_,_=>none
theorem WJ {P:Program} {h h':List XO} {new:Nat} {s d:TypeId} {X:Operand} {ev:Operand->V} {z:V} {cs:List Bool} (e:nP P h new s d (ev X)=some (cs,z,h')) (hn:h[new]? =some (.raw .free)) :
  AO P (.convert s d X) ev (dens h) new z (dens h'):=by
 have hfree:(dens h)[new]? =some .free:=by rw[aJ,hn];rfl
 unfold nP at e;split at e
 ·rename_i b el hx hs hd
  split at e
  ·rename_i hel
   injection e with e;injection e with e1 e2;injection e2 with e2 e3;subst e1 e2 e3;refine AO.of ?_;show cY P _ new s d (ev X)=_;rw[hx];simp only[cY,hd,hs,hel,pR,gS hfree,aX,XO.den];have:b.data.toList.map kH=(aE b).map (Ty.row (.int .u8)):=by unfold aE;rw[List.map_map];rfl
   rw[this];rfl
  ·cases e
 ·cases e
end Go.Abs
