import Derived.LoopN
import Derived.Test.YtcjiefknhfhmkaaGreatDoorM03
open List renaming getElem?_eq_getElem -> ga, getElem?_set_self -> gb, mem_cons -> gc, getElem_mem -> ge, range'_succ -> gf, getElem?_set_ne -> gg, length_eq_zero_iff -> gh, getElem?_eq_none -> gi, length_cons -> gj, getElem_of_mem -> gk, set_set -> gp, set_getElem_self -> gq, range' -> gu, mem_cons_self -> gx, getElem?_map -> gz, flatMap_cons -> ka, getD -> ke
open Nat renaming lt_of_lt_of_le -> gl, beq -> gm, lt_or_ge -> gn, eq_of_beq_eq_true -> gr, le_refl -> gw, add_zero -> gy, zero_add -> hz
open Classical renaming choose_spec -> gt, choose -> kd
namespace Go.Abs
set_option maxRecDepth 100000
set_option maxHeartbeats 4000000
set_option linter.unusedVariables false
set_option linter.unusedSimpArgs false
def POL (P:Program) (ops:Array Oper) (l:List Oper) (s:St) (Q:St->Prop):Prop:=
 ∀k,(∀(j:Nat) (o:Oper),l[j]? =some o->ops[k+j]? =some o)->PO P ops (gu k l.length) s Q
section
variable {P:Program} {ops:Array Oper} {Q:St->Prop} {s:St}
theorem FP {k:Nat} {o:Oper} {l:List Oper} (h:∀(j:Nat) (o':Oper),(o::l)[j]? =some o'->ops[k+j]? =some o') :
  ops[k]? =some o/\∀(j:Nat) (o':Oper),l[j]? =some o'->ops[k+1+j]? =some o':=
 ⟨by simpa using h 0 o sm,fun j o' hj=>by have:=h (j+1) o' (by simpa using hj);rwa [show k+1+j=k+(j+1)by omega]⟩
theorem POL.nil (h:Q s):POL P ops [] s Q:=fun _ _=>PO.nil h
theorem POL.no {o:Oper} {l:List Oper} (hw:awanted ops s.sl o=some false) (hr:POL P ops l ⟨sput s.sl o.dst (.v undef),s.h⟩ Q):POL P ops (o::l) s Q:=by
 intro k hk;obtain⟨h1,h2⟩:=FP hk;simp only[gj,gf];exact PO.no h1 hw (hr (k+1) h2)
theorem POL.call {o:Oper} {l:List Oper} {f:FuncId} {args:List V} {R:V->Heap->Prop} (hw:awanted ops s.sl o=some true) (hop:jA P s.sl o.op=some (f,args)) (hcall:callable P f=true)
  (hc:PC P f args s.h R) (hr:∀x h',R x h'->POL P ops l ⟨sput s.sl o.dst x,h'⟩ Q):POL P ops (o::l) s Q:=by
 intro k hk;obtain⟨h1,h2⟩:=FP hk;simp only[gj,gf];obtain⟨fop,ars,tys,first,caps,hop2,hf,rfl⟩:=uD hop
 exact PO.call h1 hw hop2 hf hcall hc (fun x h' hR=>hr x h' hR (k+1) h2)
theorem PW.regionL {id:Nat} {Q:Exit->St->Prop} (h:POL P ops ops.toList s (Q .normal)):PW P (.region id ops false) s Q:=by
 refine PW.region ?_;have hr:List.range ops.size=gu 0 ops.toList.length:=by rw[List.range_eq_range'];simp
 rw[hr];exact h 0 (fun j o hj=>by simpa using hj)
theorem PO.post {l:List Nat} {s2:St} (hp:∀ {ι:Iota} {a:Act} {w:World},SR s ι a w->∃ι',SR s2 ι' a w/\Evolve s.h ι w s2.h ι' w) (hr:PO P ops l s2 Q):PO P ops l s Q:=by
 intro ι a w r;obtain⟨ι',r2,ev⟩:=hp r;refine iB ?_ _ _ _ (hr ι' a w r2);rintro e a' w' ⟨s3,ι3,q,r3,ev3⟩;exact⟨s3,ι3,q,r3,ev.trans ev3⟩
theorem POL.post {l:List Oper} {s2:St} (hp:∀ {ι:Iota} {a:Act} {w:World},SR s ι a w->∃ι',SR s2 ι' a w/\Evolve s.h ι w s2.h ι' w) (hr:POL P ops l s2 Q):POL P ops l s Q:=fun k hk=>PO.post hp (hr k hk)
theorem POL.os {o:Oper} {l:List Oper} {x:V} {h':Heap} (hw:awanted ops s.sl o=some true) (hos:∀ {ι:Iota} {a:Act} {w:World},SR s ι a w->OS P s.h ι w (execOp a.eval o) (some (x,h')))
  (hr:POL P ops l ⟨sput s.sl o.dst x,h'⟩ Q):POL P ops (o::l) s Q:=by
 intro k hk;obtain⟨ho,h2⟩:=FP hk;simp only[gj,gf];have hr:=hr (k+1) h2;intro ι a w r;simp only[wpOps,ho];rw[if_pos (eY r hw)];left;unfold Oper.wp;obtain⟨y,w',ι',h1,h2,h3,ev⟩:=hos r x h' rfl;have r':SR ⟨sput s.sl o.dst x,h'⟩ ι' (a.put o.dst y) w':=⟨by rw[gD];exact r.defers,(r.slots.mono ev).put o.dst h2,h3⟩
 rcases h1 with h1|⟨h1,rfl⟩
 ·rw[h1];exact PO.after hr r' ev
 ·rw[h1];exact PO.after hr r' ev
theorem POL.osx {o:Oper} {l:List Oper} (hw:awanted ops s.sl o=some true) (hos:∀ {ι:Iota} {a:Act} {w:World},SR s ι a w->∃x h',OS P s.h ι w (execOp a.eval o) (some (x,h'))/\POL P ops l ⟨sput s.sl o.dst x,h'⟩ Q):POL P ops (o::l) s Q:=by
 intro k hk;obtain⟨ho,h2⟩:=FP hk;simp only[gj,gf];intro ι a w r;obtain⟨x,h',hos,hr⟩:=hos r;have hr:=hr (k+1) h2;simp only[wpOps,ho];rw[if_pos (eY r hw)];left;unfold Oper.wp;obtain⟨y,w',ι',h1,h2,h3,ev⟩:=hos x h' rfl;have r':SR ⟨sput s.sl o.dst x,h'⟩ ι' (a.put o.dst y) w':=⟨by rw[gD];exact r.defers,(r.slots.mono ev).put o.dst h2,h3⟩
 rcases h1 with h1|⟨h1,rfl⟩
 ·rw[h1];exact PO.after hr r' ev
 ·rw[h1];exact PO.after hr r' ev
end
theorem SR.unreserve {sl:List V} {h:Heap} {ι:Iota} {a:Act} {w:World} (r:SR ⟨sl,h++ [.free]⟩ ι a w):SR ⟨sl,h⟩ ι a w/\Evolve (h++ [.free]) ι w h ι w:=by
 have get:∀(k:Nat) (x:AObj),h[k]? =some (.live x)↔(h++ [HS.free])[k]? =some (.live x):=by
  intro k x;rw[List.getElem?_append];split
  ·rfl
  ·rename_i hk
   rw[gi om];cases hq:k-h.length with
   |zero=>simp
   |succ n=>simp
 have ob:∀b,Ob h ι b↔Ob (h++ [.free]) ι b:=by
  intro b;constructor
  ·rintro⟨k,x,y,h1,h2,h3⟩;exact⟨k,x,y,(get k x).1 h1,h2,h3⟩
  ·rintro⟨k,x,y,h1,h2,h3⟩;exact⟨k,x,y,(get k x).2 h1,h2,h3⟩
 have H:=r.heap;have ev:Evolve (h++ [.free]) ι w h ι w:=⟨rfl,rfl,rfl,gw _,fun _ _ q=>q,rfl,fun b _ hm=>⟨rfl,fun q=>hm ((ob b).1 q)⟩,fun b c _ fr hb=>⟨c,fr,hb,rfl⟩⟩
 refine⟨⟨r.defers,r.slots.mono ev,⟨fun k x hx=>?_,fun k hk=>?_,fun k hk=>?_,fun k1 o1 l1 k2 o2 l2 a1 a2 b1 b2=>H.apart _ _ _ _ _ _ ((get _ _).1 a1) a2 ((get _ _).1 b1) b2,H.xlt,fun b hb q=>H.xob b hb ((ob b).1 q)⟩⟩,ev⟩
 ·obtain⟨l2,c2,fr2,h1,la2⟩:=H.live k x ((get k x).1 hx)
  exact⟨l2,c2,fr2,h1,⟨la2.blk,la2.unfrozen,la2.sz,la2.rows,la2.fits,fun i hi j hj=>let ⟨y,q1,q2⟩:=la2.reads i hi j hj;⟨y,q1,q2.mono ev⟩⟩⟩
 ·exact H.free k (by
    show(h++ [HS.free])[k]? =_;rw[List.getElem?_append_left (aI hk)];exact hk)
 ·rcases gn h.length k with q|q
  ·exact H.out k (by simp;omega)
  ·have:k=h.length:=Nat.le_antisymm q hk
   subst this;exact H.free _ (by show(h++ [HS.free])[h.length]? =_;simp)
def reb (h:List XO) (ws:List Nat):Heap->Nat->List XO
 | [],_=>[]
 |s::r,i=>(if ws.contains i then .raw s else match h[i]? with
  |some o=>o
  |none=>.raw s)::reb h ws r (i+1)
theorem TT {h:List XO} {ws:List Nat}:∀ {k:Heap} {i:Nat},(∀j s,k[j]? =some s->¬(i+j)∈ws->(dens h)[i+j]? =some s)->dens (reb h ws k i)=k
 | [],i,_=>rfl
 |s::r,i,hk=>by
  have ih:=TT (h:=h) (ws:=ws) (k:=r) (i:=i+1) (fun j s' hj hw=>by
   have:=hk (j+1) s' (by simpa using hj) (by rwa [show i+(j+1)=i+1+j by omega]);rwa [show i+1+j=i+(j+1)by omega])
  have hd:dens (reb h ws (s::r) i)=(XO.den (if ws.contains i then .raw s else match h[i]? with|some o=>o|none=>.raw s))::dens (reb h ws r (i+1)):=rfl
  rw[hd,ih];congr 1
  by_cases hw:i∈ws
  ·rw[if_pos (by simpa using hw)];rfl
  ·rw[if_neg (by simpa using hw)]
   have:=hk 0 s sm (by simpa using hw);rw[gy,aJ]at this;cases hq:h[i]? with
   |none=>rfl
   |some o=>rw[hq]at this;simpa using this
def strip:List XO->List XO
 | []=>[]
 | [.raw .free]=>[]
 |x::r=>x::strip r
theorem QK:∀h:List XO,dens (strip h)=dens h\/dens h=dens (strip h)++ [.free]
 | []=>.inl rfl
 | [.raw .free]=>.inr rfl
 | [.raw .dead]=>.inl rfl
 | [.raw (.live _)]=>.inl rfl
 | [.tl _ _ _]=>.inl rfl
 | [.opt _ _ _]=>.inl rfl
 | [.ob _ _ _]=>.inl rfl
 | [.row1 _ _ _ _ _]=>.inl rfl
 |x::y::r=>by
  have hd:strip (x::y::r)=x::strip (y::r):=by
   cases x with
   |raw s=>cases s<;>rfl
   |_=>rfl
  rw[hd];rcases QK (y::r)with h|h
  ·left;show _::dens (strip (y::r))=_::dens (y::r);rw[h]
  ·right;show _::dens (y::r)=_::(dens (strip (y::r))++_);rw[h]
def fL {α:Type} (l:List α):(List α->Prop)->Prop:=List.rec (motive:=fun _=>(List α->Prop)->Prop) (fun k=>k []) (fun a _ ih k=>ih fun r=>k (a::r)) l
theorem qOL {α:Type} (l:List α):∀k:List α->Prop,fL l k=k l:=by
 induction l with
 |nil=>intro k;rfl
 |cons a l ih=>intro k;exact ih fun r=>k (a::r)
def qYC (x:Value) (k:Value->Prop):Prop:=match x with
 | .int q n=>k (.int q n)
 | .bool b=>k (.bool b)
 | .string s=>k (.string s)
 |x=>k x
theorem qEJ (x:Value) (k:Value->Prop):qYC x k=k x:=by cases x<;>rfl
def qbJ:List Nat:=[0,1,2,3,4,5,6,7,8,9,10,11,12,13,14,15,16,17,18,19,20,21,22,23,24,25,26,27,28,29,30,31,32,33,34,35,36,37,38,39,40,41,42,43,44,45,46,47,48,49,50,51,52,53,54,55,56,57,58,59,60,61,62,63,64,65,66,67,68,69,70,71,72,73,74,75,76,77,78,79,80,81,82,83,84,85,86,87,88,89,90,91,92,93,94,95,96,97,98,99,100,101,102,103,104,105,106,107,108,109,110,111,112,113,114,115,116,117,118,119,120,121,122,123,124,125,126,127,128,129,130,131,132,133,134,135,136,137,138,139,140,141,142,143,144,145,146,147,148,149,150,151,152,153,154,155,156,157,158,159]
theorem qVV:qbJ=gu 0 160:=by rfl
def fNl (l:List Nat):Nat->Nat->(Nat->Prop)->Prop:=List.rec (motive:=fun _=>Nat->Nat->(Nat->Prop)->Prop) (fun _ d k=>k d) (fun x _ ih n d k=>Nat.rec (motive:=fun _=>Prop) (k x) (fun m _=>ih m d k) n) l
theorem qOM:∀(m a n d:Nat) (k:Nat->Prop),d=a+n->fNl (gu a m) n d k=k d
 |0,_,_,_,_,_=>rfl
 |m+1,a,0,d,k,h=>by rw[gf];show k a=_;rw[h,gy]
 |m+1,a,n+1,d,k,h=>by rw[gf];exact qOM m (a+1) n d k om
def fN (n:Nat) (k:Nat->Prop):Prop:=fNl qbJ n n k
theorem iD (n:Nat) (k:Nat->Prop):fN n k=k n:=by rw[fN,qVV];exact qOM _ _ _ _ _ om
def fV1 (x:V) (k:V->Prop):Prop:=match x with
 | .v y=>qYC y fun y=>k (.v y)
 | .agg xs=>fL xs fun xs=>k (.agg xs)
 | .tup xs=>fL xs fun xs=>k (.tup xs)
 | .pF row off=>fL row fun row=>fN off fun off=>k (.pF row off)
 | .pO a b c=>fN a fun a=>fN c fun c=>k (.pO a b c)
 | .sF a b=>k (.sF a b)
 | .sO a b c=>fN a fun a=>k (.sO a b c)
 | .sL a b=>k (.sL a b)
 | .oL a b=>fN a fun a=>k (.oL a b)
 |x=>k x
theorem qOO (x:V) (k:V->Prop):fV1 x k=k x:=by
 cases x<;>simp only[fV1,qEJ,qOL,iD]
def fVs (l:List V):(List V->Prop)->Prop:=List.rec (motive:=fun _=>(List V->Prop)->Prop) (fun k=>k []) (fun a _ ih k=>fV1 a fun a=>ih fun r=>k (a::r)) l
theorem kM (l:List V):∀k:List V->Prop,fVs l k=k l:=by
 induction l with
 |nil=>intro k;rfl
 |cons a l ih=>intro k;have h:fVs (a::l) k=fV1 a (fun a=>fVs l fun r=>k (a::r)):=rfl;rw[h,qOO];exact ih fun r=>k (a::r)
def fV (x:V) (k:V->Prop):Prop:=match x with
 | .v y=>qYC y fun y=>k (.v y)
 | .agg xs=>fVs xs fun xs=>k (.agg xs)
 | .tup xs=>fVs xs fun xs=>k (.tup xs)
 | .pF row off=>fVs row fun row=>fN off fun off=>k (.pF row off)
 |x=>fV1 x k
theorem dD (x:V) (k:V->Prop):fV x k=k x:=by
 cases x<;>simp only[fV,qEJ,kM,qOO,iD]
def qWO (l:List (List V)):(List (List V)->Prop)->Prop:=List.rec (motive:=fun _=>(List (List V)->Prop)->Prop) (fun k=>k []) (fun a _ ih k=>fVs a fun a=>ih fun r=>k (a::r)) l
theorem qON (l:List (List V)):∀k:List (List V)->Prop,qWO l k=k l:=by
 induction l with
 |nil=>intro k;rfl
 |cons a l ih=>intro k;show fVs a _=_;rw[kM];exact ih fun r=>k (a::r)
def fX (o:XO) (k:XO->Prop):Prop:=match o with
 | .raw s=>match s with
   | .live ⟨sz,rows,⟨el,z⟩⟩=>fN sz fun sz=>fN el fun el=>fN z fun z=>qWO rows fun rows=>k (.raw (.live ⟨sz,rows,⟨el,z⟩⟩))
   | .dead=>k (.raw .dead)
   | .free=>k (.raw .free)
 | .tl t l e=>fN e fun e=>k (.tl t l e)
 | .opt t l ⟨e,z⟩=>fN e fun e=>k (.opt t l ⟨e,z⟩)
 | .ob t a e=>fN e fun e=>k (.ob t a e)
 | .row1 sz R j row e=>fN sz fun sz=>fN e fun e=>fVs row fun row=>k (.row1 sz R j row e)
theorem qOP (o:XO) (k:XO->Prop):fX o k=k o:=by
 cases o with
 |raw s=>cases s<;>simp only[fX,qON,iD]
 |row1 sz R j row e=>simp only[fX,iD,kM]
 |_=>simp only[fX,iD]
def fH (l:List XO):(List XO->Prop)->Prop:=List.rec (motive:=fun _=>(List XO->Prop)->Prop) (fun k=>k []) (fun a _ ih k=>fX a fun a=>ih fun r=>k (a::r)) l
theorem eQ (l:List XO):∀k:List XO->Prop,fH l k=k l:=by
 induction l with
 |nil=>intro k;rfl
 |cons a l ih=>intro k;have h:fH (a::l) k=fX a (fun a=>fH l fun r=>k (a::r)):=rfl;rw[h,qOP];exact ih fun r=>k (a::r)
def iH:List V->Nat->V->(List V->Prop)->Prop:=fun l=>List.rec (motive:=fun _=>Nat->V->(List V->Prop)->Prop) (fun _ _ k=>k [])
 (fun a r ih d x k=>Nat.rec (motive:=fun _=>Prop) (k (x::r)) (fun d _=>ih d x fun r=>k (a::r)) d) l
theorem cG:∀(l:List V) (d:Nat) (x:V) (k:List V->Prop),iH l d x k=k (l.set d x)
 | [],_,_,_=>rfl
 |_::_,0,_,_=>rfl
 |a::r,d+1,x,k=>cG r d x fun r=>k (a::r)
def TN (l:List V) (d:Option Tmp) (x:V) (k:List V->Prop):Prop:=match d with
 |some d=>iH l d x k
 |none=>k l
theorem tD (l:List V) (d:Option Tmp) (x:V) (k:List V->Prop):TN l d x k=k (sput l d x):=by
 cases d with
 |none=>rfl
 |some d=>exact cG l d x k
def need (c:Bool) (A:Prop):Prop:=c=true/\A
theorem gB (c:Bool) (A:Prop):need c A↔c=true/\A:=Iff.rfl
def needs (cs:List Bool) (A:Prop):Prop:=List.rec (motive:=fun _=>Prop) A (fun c _ ih=>need c ih) cs
theorem bR {A:Prop}:∀ {cs:List Bool},needs cs A->dK cs/\A
 | [],h=>⟨fun c q=>(by cases q),h⟩
 |c::cs,h=>by
  obtain⟨h1,h2⟩:=(gB c _).1 h;obtain⟨h3,h4⟩:=bR h2;exact⟨fun d hd=>by rcases gc.1 hd with q|q;exact q ▸ h1;exact h3 d q,h4⟩
def br (c:Bool) (A B:Prop):Prop:=@Bool.rec (fun _=>Prop) B A c
theorem gT (c:Bool) (A B:Prop):br c A B↔(c=true->A)/\(c=false->B):=by cases c<;>simp [br]
structure XSt where
 sl:List V
 h:List XO
def XSt.den (s:XSt):St:=⟨s.sl,dens s.h⟩
def dalloc (P:Program) (o:Op) (ev:Operand->V) (h:List XO) (new:Nat):DR:=
 match o with
 | .makeSlice t l c=>match ev l,ev c with
   | .v (.int _ n),.v (.int _ m)=>dmake P h new t (KK l c) n m
   |_,_=>none
 | .convert s d x=>nP P h new s d (ev x)
 | .call c=>match c.callee,c.args.toList with
   | .builtin .append,[x,y]=>if c.argTypes.size=2 then dapp P h new c.argTypes (ev x) (ev y)else none
   |_,_=>none
 |_=>none
def dst (P:Program) (o:Op) (ev:Operand->V) (h:List XO):DR:=
 match o with
 | .store t p x=>dstore P h t (ev p) (ev x)
 |_=>none
def qFI (o:Op) (ev:Operand->V) (h:List XO):Option (Bool×V×V):=
 match o with
 | .pick c x y=>match ev c with
   | .v (.bool b)=>match ev x,ev y with
     | .v p,.v q=>some (b,.v p,.v q)
     |_,_=>none
   |_=>none
 |_=>none
theorem XY {P:Program} {o:Op} {ev:Operand->V} {h:List XO} {new:Nat} {b:Bool} {x y:V} (e:qFI o ev h=some (b,x,y)):AO P o ev (dens h) new (bif b then x else y) (dens h):=by
 cases o with
 |pick c X Y=>
  simp only[qFI]at e;repeat' split at e
  all_goals first|(cases e;done)|skip
  rename_i b' hc _ _ p q hx hy;injection e with e;injection e with e1 e2;injection e2 with e2 e3;subst e1 e2 e3;refine AO.of ?_;simp only[aop,hc,hx,hy];cases b'<;>rfl
 |_=>cases e
def qA8 (P:Program) (o:Op) (ev:Operand->V):Option (List V×Int×Nat×TypeId×Nat):=match o with
 | .index t x i=>match ev x with
   | .agg xs=>match ev i with
     | .v (.int _ n)=>match P.underlying t with
       |some (.array len elem)=>match cP P elem with
        |some s=>some (xs,n,len,elem,s)
        |none=>none
       |_=>none
     |_=>none
   |_=>none
 |_=>none
def qBC (P:Program) (elem:TypeId) (s:Nat) (xs:List V) (n:Int) (K:V->Prop):Nat->Nat->Prop
 |0,_=>False
 |m+1,j=>br (decide (n=(j:Int))) (match jV P elem xs (j*s)with
  |some y=>fV y K
  |none=>False) (fN (j+1) fun j=>qBC P elem s xs n K m j)
theorem MA {P:Program} {elem:TypeId} {s:Nat} {xs:List V} {n:Int} {K:V->Prop}:∀ {m j:Nat},qBC P elem s xs n K m j->∃(i:Nat) (y:V),i<j+m/\n=(i:Int)/\jV P elem xs (i*s)=some y/\K y
 |0,_,h=>h.elim
 |m+1,j,h=>by
  simp only[qBC]at h;obtain⟨h1,h2⟩:=(gT _ _ _).1 h;by_cases q:n=(j:Int)
  ·have h3:=h1 (decide_eq_true q)
   split at h3
   ·rename_i y hy
    rw[dD]at h3;exact⟨j,y,om,q,hy,h3⟩
   ·exact h3.elim
  ·have h3:=h2 (decide_eq_false q)
   rw[iD]at h3;obtain⟨i,y,g1,g2⟩:=MA h3;exact⟨i,y,om,g2⟩
theorem qJC {P:Program} {o:Op} {ev:Operand->V} {h:Heap} {new:Nat} {xs:List V} {n:Int} {len:Nat} {elem:TypeId} {s:Nat} (e:qA8 P o ev=some (xs,n,len,elem,s)) {i:Nat} {y:V} (hi:i<len) (hn:n=(i:Int)) (hy:jV P elem xs (i*s)=some y):AO P o ev h new y h:=by
 cases o with
 |index t x a=>
  simp only[qA8]at e;repeat' split at e
  all_goals first|(cases e;done)|skip
  rename_i _ hx _ k m ha _ l2 e2 hu _ s2 hs;injection e with e;injection e with e1 e2;injection e2 with e2 e3;injection e3 with e3 e4;injection e4 with e4 e5;subst e1 e2 e3 e4 e5;refine AO.of ?_;simp only[aop,rF,hx,ha,hu,lW,hs];subst hn;rw[if_pos om];simp only[Int.toNat_natCast,hy]
 |_=>cases e
def qd4 (P:Program):XO->XO
 | .raw s=>match s with
   | .live o=>match Nat.ble o.elem.fz 1,qLZ P 8 o.elem.t with
     |true,some ty=>if ty.size=o.sz then(match oI (cN 8) ty o.rows with
      |some l=>.tl ty l o.elem.t
      |none=>.raw (.live o))
      else .raw (.live o)
     |_,_=>.raw (.live o)
   |s=>.raw s
 |x=>x
def LU (P:Program) (o:Op) (n:Nat) (h:List XO):List XO:=match o with
 | .buildSlice _ _ _=>(match h[n]? with
   |some x=>h.set n (qd4 P x)
   |none=>h)
 |_=>h
theorem qRX (P:Program) (o:Op) (n:Nat) (h:List XO):(LU P o n h).length=h.length:=by
 unfold LU;split
 ·split
  ·simp
  ·rfl
 ·rfl
theorem qRW {P:Program} {o:Op} {n:Nat} {h:List XO} {j:Nat} (hj:j≠n):(LU P o n h)[j]? =h[j]?:=by
 unfold LU;split
 ·split
  ·exact gg (Ne.symm hj)
  ·rfl
 ·rfl
theorem qVZ {P:Program} {o:Op} {n:Nat} {h:List XO} {sl:List V} {ι:Iota} {a:Act} {w:World} (r:SR ⟨sl,dens h⟩ ι a w):SR ⟨sl,dens (LU P o n h)⟩ ι a w/\Evolve (dens h) ι w (dens (LU P o n h)) ι w:=by
 unfold LU;split
 ·split
  ·rename_i x hx
   have same:SR ⟨sl,dens (h.set n x)⟩ ι a w/\Evolve (dens h) ι w (dens (h.set n x)) ι w:=by
    have hlt:=aI hx;rw[ga hlt]at hx;injection hx with hx;rw[<-hx,gq];exact⟨r,Evolve.refl _ _ _⟩
   unfold qd4;split
   ·rename_i s
    split
    ·rename_i ob
     split
     ·rename_i ty hfz hty
      split
      ·rename_i hsz
       split
       ·rename_i l hl
        have hd:(dens h)[n]? =some (.live ob):=by rw[aJ,hx];rfl
        obtain⟨u1,u2⟩:=qL (fW 8) (fun _=>LE.refl _) hl;obtain⟨H0,ev0⟩:=r.heap.weakF hd (Nat.le_of_ble_eq_true hfz);obtain⟨H2,ev2⟩:=H0.weakObj (o':=⟨ty.size,l.map ty.row,ob.elem.t⟩) (gb (aI hd)) hsz rfl (by simpa using u1) (fun i r1 r2 h1 h2=>by
         rw[gz]at h2;cases ha:l[i]? with
         |none=>rw[ha]at h2;simp at h2
         |some b=>rw[ha]at h2;simp at h2;subst h2;exact u2 i r1 b h1 ha)
        have ev2:=ev0.trans ev2;rw[gp]at H2 ev2;have e:(dens h).set n (.live ⟨ty.size,l.map ty.row,ob.elem.t⟩)=dens (h.set n (.tl ty l ob.elem.t)):=by rw[aX];rfl
        simp only[e]at H2 ev2;exact⟨⟨r.defers,r.slots.mono ev2,H2⟩,ev2⟩
       ·exact same
      ·exact same
     ·exact same
    ·exact same
   ·exact same
  ·exact⟨r,Evolve.refl _ _ _⟩
 ·exact⟨r,Evolve.refl _ _ _⟩
structure NilBr (p A B:Prop):Prop where
 a:p->A
 b:B
def qCQ (P:Program) (o:Op) (ev:Operand->V):Option (Prop×Bool):=match o with
 | .binOp .eql t X Y _=>(match ev X,ev Y,P.underlying t with
   | .sL _ l,.v (.slice none 0 0),some (.slice _)=>some (l= [],true)
   |_,_,_=>none)
 | .binOp .neq t X Y _=>(match ev X,ev Y,P.underlying t with
   | .sL _ l,.v (.slice none 0 0),some (.slice _)=>some (l= [],false)
   |_,_,_=>none)
 |_=>none
theorem qFB {P:Program} {h:Heap} {ι:Iota} {w:World} (H:HRel h ι w) {t e:TypeId} {X Y:Operand} (hu:P.underlying t=some (.slice e)) {x:Value} {M:Nat->Prop} {ty:Ty} {l:List ty.den} (r:Rep w ι M (.sL ty l) x) :
  (l= []/\VS P h ι w (do eqGuard .eql t X Y x (.slice none 0 0);binOp .eql t x (.slice none 0 0)) (some (.v (.bool true),h))/\VS P h ι w (do eqGuard .neq t X Y x (.slice none 0 0);binOp .neq t x (.slice none 0 0)) (some (.v (.bool false),h))) \/
  (VS P h ι w (do eqGuard .eql t X Y x (.slice none 0 0);binOp .eql t x (.slice none 0 0)) (some (.v (.bool false),h))/\VS P h ι w (do eqGuard .neq t X Y x (.slice none 0 0);binOp .neq t x (.slice none 0 0)) (some (.v (.bool true),h))):=by
 cases r with
 |sL _ _ _ r=>
  generalize hrows:l.map ty.row=rows at r;cases r with
  |sF _ _ a cap cells g1 g2 g3 g4 g5=>
   right;have q:=lR (P:=P) (w:=w) (X:=X) (Y:=Y) hu a rows.length cap _ _ (.inl ⟨rfl,rfl⟩);exact⟨VS.of_pure H ⟨_,q.1,.v _⟩,VS.of_pure H ⟨_,q.2,.v _⟩⟩
  |sN=>
   left;have q0:∀d,(Op.equalIn (d+1) t (.slice none 0 0) (.slice none 0 0)).run P w = .ok true w:=fun d=>by simp [Op.equalIn,run_underlying hu]
   have q:=q0 9999;refine⟨List.map_eq_nil_iff.1 hrows,VS.of_pure H ⟨.bool true,?_,.v _⟩,VS.of_pure H ⟨.bool false,?_,.v _⟩⟩
   ·simp only[eqGuard,binOp,Op.equal,Op.maxDepth];simp [q]
   ·simp only[eqGuard,binOp,Op.equal,Op.maxDepth];simp [q]
theorem PG {P:Program} {o:Oper} {ev:Operand->V} {p:Prop} {b:Bool} (e:qCQ P o.op ev=some (p,b)) {h:Heap} {ι:Iota} {w:World} (H:HRel h ι w) {a:Act} {M:Nat->Prop} (hev:∀x,Rep w ι M (ev x) (a.eval x)) :
  (p/\OS P h ι w (execOp a.eval o) (some (.v (.bool b),h)))\/OS P h ι w (execOp a.eval o) (some (.v (.bool (!b)),h)):=by
 obtain⟨dst,op,type,pos,after,guard⟩:=o;unfold qCQ at e;(try simp only at e);split at e
 ·rename_i t X Y u
  split at e
  ·rename_i ty l el hX hY hu
   injection e with e;injection e with e1 e2;subst e1 e2;have rX:=hev X;have rY:=hev Y;rw[hX]at rX;rw[hY]at rY;generalize hx:a.eval X=x at rX;generalize hy:a.eval Y=y at rY;cases rY;rcases qFB H (X:=X) (Y:=Y) hu rX with⟨q0,q1,_⟩|⟨q1,_⟩
   ·exact .inl ⟨q0,OS.of_vs (by rw[hx,hy];exact q1)⟩
   ·exact .inr (OS.of_vs (by rw[hx,hy];exact q1))
  ·cases e
 ·rename_i t X Y u
  split at e
  ·rename_i ty l el hX hY hu
   injection e with e;injection e with e1 e2;subst e1 e2;have rX:=hev X;have rY:=hev Y;rw[hX]at rX;rw[hY]at rY;generalize hx:a.eval X=x at rX;generalize hy:a.eval Y=y at rY;cases rY;rcases qFB H (X:=X) (Y:=Y) hu rX with⟨q0,_,q1⟩|⟨_,q1⟩
   ·exact .inl ⟨q0,OS.of_vs (by rw[hx,hy];exact q1)⟩
   ·exact .inr (OS.of_vs (by rw[hx,hy];exact q1))
  ·cases e
 ·cases e
def loI (ev:Operand->V) (d:Int):Option Operand->Option Int
 |none=>some d
 |some x=>match ev x with
  | .v (.int _ n)=>some n
  |_=>none
def qDK (P:Program) (o:Op) (ev:Operand->V) (h:List XO):Option (List Bool×Nat×Nat×Ty×Int×Int×Nat×Nat):=match o with
 | .slice t x lo hi none=>(match ev x with
   | .oL id n=>(match P.underlying t,h[id]?,loI ev 0 lo,loI ev n hi with
     |some (.slice e),some (.opt ty l _),some a,some u=>if cP P e=some ty.size then
        (match lo with
          |none=>some ([decide (n=l.length),decide (0<=a),decide (a<=u),decide (u<=n)],n,id,ty,a,u,0,u.toNat)
          |some _=>some ([decide (n=l.length),decide (0<=a),decide (a<=u),decide (u<=n)],n,id,ty,a,u,a.toNat,(u-a).toNat))
        else none
     |_,_,_,_=>none)
   |_=>none)
 |_=>none
theorem lP {P:Program} {t:TypeId} {n:Nat} (h:cP P t=some n) {α:Type} (f:Nat->Sem α):aP P ((sizeOf t).bind f)=aP P (f n):=by
 unfold cP at h;split at h
 ·rename_i i hi
  injection h with h;simp [sizeOf,typeInfo,hi,h,bind,pure,program,Sem.bind,aP]
 ·cases h
theorem LE.sO_nil {id off sz:Nat}:LE (.sO id off 0) (.sF sz []):=by
 intro w ι M z r;cases r with
 |sO _ _ _ cap l c e fr h1 h2 h3 h4=>exact Rep.sF_mk (rows:=[]) _ _ (fun q=>absurd rfl q) sm sm (by intro i j r x hi;simp at hi)
theorem PD {ev:Operand->V} {d:Nat} {lo:Option Operand} {a:Int} (e:loI ev (d:Int) lo=some a) (h0:0<=a):bound (lo.map fun x=>(ev x).nf) d=some a.toNat:=by
 cases lo with
 |none=>simp only[loI]at e;injection e with e;subst e;simp [bound]
 |some x=>
  simp only[loI]at e;split at e
  ·rename_i k n hx
   injection e with e;subst e;simp [hx,V.nf,bound,h0]
  ·cases e
theorem qLQ {P:Program} {o:Op} {ev:Operand->V} {h:List XO} {new:Nat} {cs:List Bool} {n id off len:Nat} {ty:Ty} {a u:Int} (e:qDK P o ev h=some (cs,n,id,ty,a,u,off,len)) (hc:dK cs) :
  (n=0->AO P o ev (dens h) new (.v (.slice none 0 0)) (dens h))/\(¬n=0->a=u->AO P o ev (dens h) new (.sL ty []) (dens h))/\(¬n=0->¬a=u->AO P o ev (dens h) new (.sO id off len) (dens h)):=by
 cases o with
 |slice t x lo hi mx=>
  cases mx with
  |some _=>cases e
  |none=>
   simp only[qDK]at e;split at e
   ·rename_i id' n' hx
    split at e
    ·rename_i el ty' l el2 a' u' hu ho hlo hhi
     split at e
     ·rename_i hs
      have key:n'=n/\id'=id/\ty'=ty/\a'=a/\u'=u/\(off=a.toNat/\len=(u-a).toNat)/\cs= [decide (n'=l.length),decide (0<=a'),decide (a'<=u'),decide (u'<=n')]:=by
       cases lo with
       |none=>
        simp only[loI]at hlo;injection hlo with hlo;subst hlo;injection e with e;simp only[Prod.mk.injEq]at e;obtain⟨e1,e2,e3,e4,e5,e6,e7,e8⟩:=e;subst e2 e3 e4 e5 e6;exact⟨rfl,rfl,rfl,rfl,rfl,⟨by rw[<-e7];rfl,by rw[<-e8];simp⟩,e1.symm⟩
       |some x2=>
        injection e with e;simp only[Prod.mk.injEq]at e;obtain⟨e1,e2,e3,e4,e5,e6,e7,e8⟩:=e;subst e2 e3 e4 e5 e6;exact⟨rfl,rfl,rfl,rfl,rfl,⟨e7.symm,e8.symm⟩,e1.symm⟩
      obtain⟨rfl,rfl,rfl,rfl,rfl,⟨rfl,rfl⟩,rfl⟩:=key;have c1:=of_decide_eq_true (aF hc).1;have c2:=of_decide_eq_true (aF (aF hc).2).1;have c3:=of_decide_eq_true (aF (aF (aF hc).2).2).1;have c4:=of_decide_eq_true (aF (aF (aF (aF hc).2).2).2).1;have hx':(ev x).nf=if n'=0 then .v (.slice none 0 0)else .sO id' 0 n':=by rw[hx];rfl
      have run:¬n'=0->aop P (.slice t x lo hi none) (fun b=>(ev b).nf) (dens h) new=some (if a'=u'/\a'≠0 then .sF ty'.size []else .sO id' a'.toNat (u'-a').toNat,dens h):=by
       intro hn;have hne:¬l.isEmpty=true:=by intro q;rw[List.isEmpty_iff]at q;subst q;simp at c1;omega
       have hd:(dens h)[id']? =some (.live ⟨ty'.size,l.map ty'.row,el2⟩):=by rw[aJ,ho];simp [XO.den,hne]
       simp only[aop,hx',if_neg hn,fG,hu,PD (d:=0) hlo c2,PD hhi om,hs,hd];rw[if_pos ⟨trivial,om,om⟩];by_cases q:a'=u'
       ·by_cases q0:a'=0
        ·rw[if_neg om,if_neg (fun h=>h.2 q0)]
         simp only[hz];congr 3;omega
        ·rw[if_pos om,if_pos ⟨q,q0⟩]
       ·rw[if_neg om,if_neg (fun h=>q h.1)]
        simp only[hz];congr 3;omega
      refine⟨fun hn=>?_,fun hn hau=>?_,fun hn hau=>AO.nf (by rw[run hn,if_neg (fun h=>hau h.1)]) (LE.refl _)⟩
      ·have hu0:u'=0:=om
       have ha0:a'=0:=om
       subst hu0 ha0;refine AO.nf (x':=.v (.slice none 0 0)) ?_ (LE.refl _);simp only[aop,hx',if_pos hn];have z:∀(k:IntKind) (c:BoundsCode),Instr.sliceBound (.int k 0) 0 c=pure 0:=fun k c=>by simp [Instr.sliceBound,asIntOf,bind,Sem.bind,pure]
       have vint:∀ {q:Option Operand} {d:Int} {y:Operand},loI ev d q=some 0->q=some y->∃k,ev y = .v (.int k 0):=by
        intro q d y h1 h2;subst h2;simp only[loI]at h1;split at h1
        ·rename_i k m hq;injection h1 with h1;subst h1;exact⟨k,hq⟩
        ·cases h1
       cases lo with
       |none=>
        cases hi with
        |none=>simp [Instr.sliceAt,Instr.slice,Instr.sliceBounds,Go.underlying,hu,aP,bind,pure,program,Sem.bind,lP hs,ofValue]
        |some y=>
         obtain⟨k,hk⟩:=vint hhi rfl;simp [hk,V.nf,Instr.sliceAt,Instr.slice,Instr.sliceBounds,Go.underlying,hu,aP,bind,pure,program,Sem.bind,z,lP hs,ofValue]
       |some x2=>
        obtain⟨k2,hk2⟩:=vint hlo rfl;cases hi with
        |none=>simp [hk2,V.nf,Instr.sliceAt,Instr.slice,Instr.sliceBounds,Go.underlying,hu,aP,bind,pure,program,Sem.bind,z,lP hs,ofValue]
        |some y=>
         obtain⟨k,hk⟩:=vint hhi rfl;simp [hk,hk2,V.nf,Instr.sliceAt,Instr.slice,Instr.sliceBounds,Go.underlying,hu,aP,bind,pure,program,Sem.bind,z,lP hs,ofValue]
      ·by_cases q0:a'=0
       ·refine AO.nf (run hn) ?_
        rw[if_neg (fun h=>h.2 q0),show(u'-a').toNat=0 by omega];exact fun r=>.sL _ _ _ (LE.sO_nil r)
       ·refine AO.nf (run hn) ?_
        rw[if_pos ⟨hau,q0⟩];exact fun r=>.sL _ _ _ r
     ·cases e
    ·cases e
   ·cases e
 |_=>cases e
def QJ (P:Program) (wr:Bool) (o:Op) (s:XSt) (K:V->List XO->Prop):Prop:=
 match s with
 |⟨sl,h⟩=>
  match qFI o (aev sl) h with
  |some (b,x,y)=>br b (fV x fun x=>K x h) (fV y fun y=>K y h)
  |none=>match qA8 P o (aev sl)with
  |some (xs,n,len,elem,s)=>qBC P elem s xs n (fun y=>K y h) len 0
  |none=>match dpure P wr o (aev sl) h with
  |some (cs,x)=>needs cs (fV x fun x=>K x h)
  |none=>match dst P o (aev sl) h with
   |some (cs,x,h')=>needs cs (fH h' fun h'=>K x h')
    |none=>match dmkr P wr o (aev sl) (h++ [.raw .free]) h.length with
    |some (cs,x,h')=>needs cs (fV x fun x=>fH h' fun h'=>K x h')
    |none=>match dalloc P o (aev sl) (h++ [.raw .free]) h.length with
    |some (cs,x,h')=>needs cs (fV x fun x=>fH h' fun h'=>K x h')
    |none=>match aop P o (aev sl) (dens (h++ [.raw .free])) h.length with
     |some (x,h')=>match wids o (aev sl) h.length with
      | []=>fV x fun x=>K x h
      |ws=>fV x fun x=>fH (LU P o h.length (strip (reb (h++ [.raw .free]) ws h' 0))) fun h'=>K x h'
     |none=>match qCQ P o (aev sl)with
      |some (p,true)=>NilBr p (K (.v (.bool true)) h) (K (.v (.bool false)) h)
      |some (p,false)=>NilBr p (K (.v (.bool false)) h) (K (.v (.bool true)) h)
      |none=>match qDK P o (aev sl) h with
       |some (cs,n,id,ty,a,u,off,len)=>needs cs (br (decide (n=0)) (K (.v (.slice none 0 0)) h) (br (decide (a=u)) (K (.sL ty []) h) (fV (.sO id off len) fun x=>K x h)))
       |none=>False
theorem qOG {P:Program} {o:Op} {ev:Operand->V} {h h':List XO} {new:Nat} {cs:List Bool} {x:V} (e:dst P o ev h=some (cs,x,h')) (hc:dK cs):AO P o ev (dens h) new x (dens h'):=by
 unfold dst at e;split at e
 ·exact OM e hc
 ·cases e
theorem OL {P:Program} {o:Oper} {ev:Operand->V} {h h':List XO} {new:Nat} {cs:List Bool} {x:V} (e:dalloc P o.op ev h new=some (cs,x,h')) (hc:dK cs) (hn:h[new]? =some (.raw .free))
  {ι:Iota} {w:World} (H:HRel (dens h) ι w) {a:Act} (hev:∀x,Rep w ι (Mt (dens h) ι) (ev x) (a.eval x)):OS P (dens h) ι w (execOp a.eval o) (some (x,dens h')):=by
 unfold dalloc at e;split at e
 ·rename_i t l c ho
  split at e
  ·rename_i k n k' m hl hm
   exact qOC hl hm e hc hn H hev ho
  ·cases e
 ·rename_i s d X ho
  have:=WJ e hn;rw[<-ho]at this;exact this.os H hev
 ·rename_i c ho
  obtain⟨callee,args,tys⟩:=c;(try simp only at e);split at e
  ·rename_i X Y ha
   split at e
   ·rename_i h2
    have hoo:o.op = .call ⟨.builtin .append,#[X,Y],tys⟩:=by
     rw[ho];congr
     exact Array.toList_inj.1 (by simpa using ha)
    unfold dapp at e;split at e
    ·rename_i a b c' hX
     rw[<-hX]at e;exact VZ e hc hn H hev (o:=o) hX hoo h2
    ·exact qBS e hc hn H hev (o:=o) hoo h2
   ·cases e
  ·cases e
 ·cases e
theorem iJ (h:List XO):dens (h++ [.raw .free])=dens h++ [.free]:=by simp [dens,XO.den]
theorem qRF {P:Program} {ops:Array Oper} {wr:Bool} {o:Oper} {l:List Oper} {s:XSt} {K:V->List XO->Prop} {Q:St->Prop} (hs:QJ P wr o.op s K) (hw:awanted ops s.sl o=some true)
  (hk:∀x h',K x h'->POL P ops l ⟨sput s.sl o.dst x,dens h'⟩ Q):POL P ops (o::l) s.den Q:=by
 obtain⟨sl,h⟩:=s;simp only[XSt.den]at *;have res:∀ {ι:Iota} {a:Act} {w:World},SR ⟨sl,dens h⟩ ι a w->∃ι',SR ⟨sl,dens (h++ [.raw .free])⟩ ι' a w/\Evolve (dens h) ι w (dens (h++ [.raw .free])) ι' w:=by
  intro ι a w r;obtain⟨r1,ev1⟩:=r.reserve 1;rw[iJ];exact⟨ι,r1,ev1⟩
 have hnew:(h++ [XO.raw .free])[h.length]? =some (.raw .free):=sm
 simp only[QJ]at hs;split at hs
 ·rename_i b x y e
  simp only[dD]at hs;obtain⟨h1,h2⟩:=(gT _ _ _).1 hs;refine POL.os hw (fun r=>(XY (new:=0) e).os r.heap (fun y=>eV r.slots y)) ?_;cases b with
  |true=>exact hk _ _ (h1 rfl)
  |false=>exact hk _ _ (h2 rfl)
 split at hs
 ·rename_i xs n len elem sz e
  obtain⟨i,y,g1,g2,g3,g4⟩:=MA hs;exact POL.os hw (fun r=>(qJC (new:=0) e om g2 g3).os r.heap (fun y=>eV r.slots y)) (hk _ _ g4)
 split at hs
 ·rename_i cs x e
  obtain⟨hc,hK⟩:=bR hs;rw[dD]at hK;exact POL.os hw (fun r=>(WG (new:=0) e hc).os r.heap (fun y=>eV r.slots y)) (hk _ _ hK)
 ·split at hs
  ·rename_i cs x h' e
   obtain⟨hc,hK⟩:=bR hs;rw[eQ]at hK;exact POL.os hw (fun r=>(qOG (new:=0) e hc).os r.heap (fun y=>eV r.slots y)) (hk _ _ hK)
  ·refine POL.post (s2:=⟨sl,dens (h++ [.raw .free])⟩) res ?_
   split at hs
   ·rename_i cs x h' e
    obtain⟨hc,hK⟩:=bR hs;rw[dD,eQ]at hK;exact POL.os hw (fun r=>qTC e hc hnew r.heap (fun y=>eV r.slots y)) (hk _ _ hK)
   split at hs
   ·rename_i cs x h' e
    obtain⟨hc,hK⟩:=bR hs;rw[dD,eQ]at hK;exact POL.os hw (fun r=>OL e hc hnew r.heap (fun y=>eV r.slots y)) (hk _ _ hK)
   ·split at hs
    ·rename_i x h' e
     have hlt:h.length<(dens (h++ [.raw .free])).length:=by simp [dens]
     obtain⟨post,p1,p2,_⟩:=(AO.of e).loc hlt;refine POL.os hw (fun r=>(AO.of e).os r.heap (fun y=>eV r.slots y)) ?_;have fin:∀h2:List XO,dens h2=h'->K x (LU P o.op h.length (strip h2))->POL P ops l ⟨sput sl o.dst x,h'⟩ Q:=by
      intro h2 hd hK;have hp:=POL.post (s:=⟨sput sl o.dst x,dens (strip h2)⟩) (fun{ι a w} r=>⟨ι,qVZ r⟩) (hk _ _ hK);rcases QK h2 with q|q
      ·rw[q,hd]at hp;exact hp
      ·refine POL.post (s2:=⟨sput sl o.dst x,dens (strip h2)⟩) (fun{ι a w} r=>⟨ι,?_⟩) hp
       rw[<-hd,q]at r;have:=r.unreserve;rw[<-q,hd]at this;exact this
     split at hs
     ·rename_i hwd
      rw[dD]at hs;rw[hwd]at p1;have hpost:post= []:=by
       cases post with
       |nil=>rfl
       |cons p r=>exact absurd (p1 p sm) sm
      subst hpost;refine POL.post (s2:=⟨sput sl o.dst x,dens h⟩) (fun{ι a w} r=>⟨ι,?_⟩) (hk _ _ hs);rw[p2]at r;have r0:SR ⟨sput sl o.dst x,dens h++ [.free]⟩ ι a w:=by rw[<-iJ];exact r
      have:=r0.unreserve;rw[<-iJ]at this;rw[p2];exact this
     ·rw[dD,eQ]at hs
      refine fin _ (TT fun j t hj hnw=>?_) hs;rw[hz]at hnw ⊢;rw[p2,fF post _ (fun p hp q=>hnw (by rw[<-q];exact p1 p hp))]at hj;exact hj
    ·split at hs
     ·rename_i p e
      refine POL.osx hw (fun{ι a w} r=>?_);have drop:∀x,POL P ops l ⟨sput sl o.dst x,dens h⟩ Q->POL P ops l ⟨sput sl o.dst x,dens (h++ [.raw .free])⟩ Q:=fun x hp=>POL.post (s2:=⟨sput sl o.dst x,dens h⟩) (fun{ι a w} r=>⟨ι,by
       have r0:SR ⟨sput sl o.dst x,dens h++ [.free]⟩ ι a w:=by rw[<-iJ];exact r
       have:=r0.unreserve;rw[<-iJ]at this;exact this⟩) hp
      rcases PG e r.heap (fun y=>eV r.slots y)with⟨q,q1⟩|q1
      ·exact⟨_,_,q1,drop _ (hk _ _ (hs.a q))⟩
      ·exact⟨_,_,q1,drop _ (hk _ _ hs.b)⟩
     ·rename_i p e
      refine POL.osx hw (fun{ι a w} r=>?_);have drop:∀x,POL P ops l ⟨sput sl o.dst x,dens h⟩ Q->POL P ops l ⟨sput sl o.dst x,dens (h++ [.raw .free])⟩ Q:=fun x hp=>POL.post (s2:=⟨sput sl o.dst x,dens h⟩) (fun{ι a w} r=>⟨ι,by
       have r0:SR ⟨sput sl o.dst x,dens h++ [.free]⟩ ι a w:=by rw[<-iJ];exact r
       have:=r0.unreserve;rw[<-iJ]at this;exact this⟩) hp
      rcases PG e r.heap (fun y=>eV r.slots y)with⟨q,q1⟩|q1
      ·exact⟨_,_,q1,drop _ (hk _ _ (hs.a q))⟩
      ·exact⟨_,_,q1,drop _ (hk _ _ hs.b)⟩
     ·split at hs
      ·rename_i cs n id ty a u off len e
       obtain⟨hc,hK⟩:=bR hs;obtain⟨g1,g2,g3⟩:=qLQ (new:=0) e hc;obtain⟨k1,k2⟩:=(gT _ _ _).1 hK;have go:∀x,AO P o.op (aev sl) (dens h) 0 x (dens h)->K x h->POL P ops (o::l) ⟨sl,dens (h++ [.raw .free])⟩ Q:=fun x ha hkx=>
        POL.post (s2:=⟨sl,dens h⟩) (fun{ι a w} r=>⟨ι,by
         have r0:SR ⟨sl,dens h++ [.free]⟩ ι a w:=by rw[<-iJ];exact r
         have:=r0.unreserve;rw[<-iJ]at this;exact this⟩) (POL.os hw (fun r=>ha.os r.heap (fun y=>eV r.slots y)) (hk _ _ hkx))
       by_cases hn:n=0
       ·exact go _ (g1 hn) (k1 (decide_eq_true hn))
       ·obtain⟨k3,k4⟩:=(gT _ _ _).1 (k2 (decide_eq_false hn))
        by_cases hau:a=u
        ·exact go _ (g2 hn hau) (k3 (decide_eq_true hau))
        ·have hK:=k4 (decide_eq_false hau)
         rw[dD]at hK;exact go _ (g3 hn hau) hK
      ·exact hs.elim
@[reducible] def Tup:List Ty->Type
  | []=>Unit
  |t::ts=>t.den×Tup ts
def Ty.val:(t:Ty)->t.den->V
 | .int k,n=>.v (.int k n)
 | .bool,b=>.v (.bool b)
 | .str,s=>.v (.string s)
 | .list t,l=>.sL t l
 | .pair a b,x=>.agg (Ty.row (.pair a b) x)
def vals:(ts:List Ty)->Tup ts->List V
 | [],_=>[]
 |t::ts,(x,r)=>t.val x::vals ts r
@[reducible] def Cu:List Ty->Type->Type
  | [],α=>α
  |t::ts,α=>t.den->Cu ts α
def cu {α:Type}:(ts:List Ty)->Cu ts α->Tup ts->α
 | [],f,_=>f
 |_::ts,f,(x,r)=>cu ts (f x) r
def rG {α:Type}:(ts:List Ty)->Cu ts α->Tup ts->(α->Prop)->Prop
 | [],f,_,k=>k f
 |_::ts,f,(x,r),k=>rG ts (f x) r k
theorem eM {α:Type}:∀(ts:List Ty) (f:Cu ts α) (x:Tup ts) (k:α->Prop),rG ts f x k=k (cu ts f x)
 | [],_,_,_=>rfl
 |_::ts,f,(x,r),k=>eM ts (f x) r k
inductive RV where
 |d (t:Ty) (x:t.den)
 |tup (ts:List Ty) (x:Tup ts)
def RV.val:RV->V
 | .d t x=>t.val x
 | .tup ts x=>.tup (vals ts x)
def uK:Ty->Bool
 | .list _=>false
 | .pair a b=>uK a&&uK b
 |_=>true
def RV.flat:RV->Bool
 | .d t _=>uK t
 | .tup ts _=>ts.all uK
inductive Ct where
 |fn (ps:List Ty) (pre:Option (Cu ps Prop)) (res:Cu ps RV)
 |meth (t:Ty) (e:TypeId) (ps:List Ty) (pre:Option (t.den->Cu ps Prop)) (res:t.den->Cu ps RV) (post:t.den->Cu ps t.den)
 |new (t:Ty) (e:TypeId) (ps:List Ty) (pre:Option (Cu ps Prop)) (post:Cu ps t.den)
 |srt (t:Ty) (pre:Option (Cu [.list t] Prop)) (g:Cu [.list t] (List t.den)) (ret:Bool)
 |grw (t:Ty) (e:TypeId)
 |rd (t:Ty) (ps:List Ty) (pre:Option (t.den->Cu ps Prop)) (res:t.den->Cu ps RV)
 |bld (wr:Bool) (e eb:TypeId)
 |nl (t:Ty) (e:TypeId) (ps:List Ty) (pre:Option (Cu ps Prop)) (post:Cu ps (List t.den))
def PCX (P:Program) (f:FuncId) (args:List V) (pre post:List (Nat×HS)) (x:V):Prop:=
 (∀p,p∈post->p.1∈pre.map (·.1))/\∀k:Heap,(∀p,p∈pre->k[p.1]? =some p.2)->PC P f args k (fun y k'=>y=x/\k'=bB k post)
def TG (t:Ty) (e:TypeId) (a:t.den):HS:=.live ⟨t.size,[t.row a],e⟩
structure SrtOk (P:Program) (f:FuncId) (t:Ty) (pre:List t.den->Prop) (g:List t.den->List t.den) (ret:Bool):Prop where
 len:ret=false->∀l,(g l).length=l.length
 nil:g []= []
 cons:∀l,l≠ []->g l≠ []
 none:∀k,PC P f [.v (.slice none 0 0)] k (fun y k'=>y=(if ret=true then .v (.slice none 0 0)else .tup [])/\k'=k)
 some:∀l,pre l->∀(k:Heap) (id:Nat) (e:TypeId),k[id]? = .some (.live ⟨t.size,l.map t.row,e⟩)->PC P f [.sO id 0 l.length] k (fun y k'=>y=(if ret=true then .sO id 0 (g l).length else .tup [])/\k'=k.set id (.live ⟨t.size,(g l).map t.row,e⟩))
def qWI (P:Program) (f:FuncId) (t:Ty) (e:TypeId):Prop:=∀n:Int,0<=n->n<=8796093022208->∀(k:Heap),
 (n=0->PC P f [.v (.slice none 0 0),.v (.int .i64 n)] k (fun y k'=>y = .v (.slice none 0 0)/\k'=k)) /\
 (0<n->∀(new:Nat) (k':Heap),halloc k new ⟨t.size,[],e⟩=some k'->PC P f [.v (.slice none 0 0),.v (.int .i64 n)] k (fun y h=>y = .sO new 0 0/\h=k'))
def qH (id:Nat):Bool->V
 |true=>.pO id 0 0
 |false=>.v (.pointer none)
def KC (id:Nat) (c:V):Option Bool:=match c with
 | .v (.pointer none)=>some false
 | .pO j 0 0=>if gm j id then some true else none
 |_=>none
def fzD (z n:Nat):List Bool:=match z with
 |0=>[false]
 |1=>[]
 |z+2=>[decide (z+1<=n)]
theorem qYS:∀ {z n:Nat},dK (fzD z n)->1<=z/\z<=n+1
 |0,_,h=>(by have:=h _ (gx ..);cases this)
 |1,_,_=>⟨gw _,om⟩
 |z+2,_,h=>by
  have h2:=of_decide_eq_true (h _ (gx ..));exact⟨om,om⟩
def qT (e eb:TypeId) (h:List XO) (i:Nat):Option (Bool×List Bool×Option Nat×List Int×El):=match h[i]? with
 |some (.raw (.live o))=>(match o.rows with
  | [[c0,c1]]=>(match KC i c0,gm o.sz 2&&o.elem.is eb with
    |some b,true=>(match c1 with
     | .oL j n=>(match h[j]? with
       |some (.opt t l e')=>(match fR (t':=.int .u8) l,gm e'.t e with
        |some l,true=>some (b,decide (n=l.length)::fzD e'.fz l.length,some j,l,e')
        |_,_=>none)
       |_=>none)
     | .v (.slice none 0 0)=>some (b,[],none,[],⟨e,1⟩)
     |_=>none)
    |_,_=>none)
  |_=>none)
 |_=>none
def GI (eb:TypeId) (i new n:Nat):XO:=.raw (.live ⟨2,[[.pO i 0 0,.oL new n]],eb⟩)
def wrR (n:Nat):V:=.tup [.v (.int .i64 n),.v .nilIface]
def qI5 (P:Program) (f:FuncId) (e eb:TypeId):Prop:=∀(h:List XO) (i new:Nat) (s:ByteArray) (b:Bool) (cs:List Bool) (j:Option Nat) (l:List Int) (el:El),qT e eb h i=some (b,cs,j,l,el)->dK cs->l.length+s.size<=70368744177664->h[new]? =some (.raw .free) ->
 PC P f [.pO i 0 0,.v (.string s)] (dens h) (fun y k=>y=wrR s.size/\k=dens ((dO (h.set i (GI eb i new (l++aE s).length)) j).set new (.opt (.int .u8) (l++aE s) el)))
def zD (h:List XO) (e:TypeId) (l:List Int):Option Nat->List XO
 |some k=>h.set k (.opt (.int .u8) l ⟨e,l.length-1+2⟩)
 |none=>h
def qXS (P:Program) (f:FuncId) (e eb:TypeId):Prop:=∀(h:List XO) (i:Nat) (b:Bool) (cs:List Bool) (j:Option Nat) (l:List Int) (el:El),qT e eb h i=some (b,cs,j,l,el)->dK cs->l.length<=70368744177664 ->
 PC P f [.pO i 0 0] (dens h) (fun y k=>y = .v (.string (aT l))/\k=dens (zD h e l j))
def aH (P:Program) (f:FuncId):Ct->Prop
 | .fn ps pre res=>∀x,(∀p,pre=some p->cu ps p x)->PCX P f (vals ps x) [] [] (cu ps res x).val
 | .meth t e ps pre res post=>∀a x,(∀p,pre=some p->cu ps (p a) x)->∀j,PCX P f (.pO j 0 0::vals ps x) [(j,TG t e a)] [(j,TG t e (cu ps (post a) x))] (cu ps (res a) x).val
 | .new t e ps pre post=>∀x,(∀p,pre=some p->cu ps p x)->∀(k:Heap) (new:Nat) (k':Heap),halloc k new ⟨t.size,[t.row (cu ps post x)],e⟩=some k'->PC P f (vals ps x) k (fun y h=>y = .pO new 0 0/\h=k')
 | .srt t pre g ret=>SrtOk P f t (fun l=>∀p,pre=some p->p l) g ret
 | .grw t e=>qWI P f t e
 | .bld wr e eb=>match wr with
   |true=>qI5 P f e eb
   |false=>qXS P f e eb
 | .nl t e ps pre post=>∀x,(∀p,pre=some p->cu ps p x)->∀(k:Heap) (new:Nat) (k':Heap),halloc k new ⟨t.size,(cu ps post x).map t.row,e⟩=some k'->PC P f (vals ps x) k (fun y h=>y = .sO new 0 (cu ps post x).length/\h=k')
 | .rd t ps pre res=>∀a x,(∀p,pre=some p->cu ps (p a) x)->PCX P f (.pF (t.row a) 0::vals ps x) [] [] (cu ps (res a) x).val
abbrev Tbl:=List (FuncId×Ct)
def look:Tbl->FuncId->Option Ct
 | [],_=>none
 |(g,c)::r,f=>if gm g f then some c else look r f
def aD (P:Program) (T:Tbl):Prop:=∀f c,look T f=some c->aH P f c
theorem aD.nil {P:Program}:aD P []:=fun f c h=>by cases h
theorem aD.cons {P:Program} {T:Tbl} {f:FuncId} {c:Ct} (h:aH P f c) (ht:aD P T):aD P ((f,c)::T):=by
 intro g d hg;simp only[look]at hg;split at hg
 ·rename_i q
  injection hg with hg;subst hg;rw[<-gr q];exact h
 ·exact ht g d hg
def fI (t:Ty) (x:V):List V:=match t with
 | .pair _ _=>match norm x with
   | .agg xs=>xs
   |_=>[]
 |_=>[x]
def rdA (f:V->(t:Ty)->Option (List t.den)):(ps:List Ty)->List V->Option (Tup ps)
 | [],[]=>some ()
 |t::ts,x::xs=>match un f t (fI t x)with
  |some (a,[])=>match rdA f ts xs with
   |some r=>some (a,r)
   |none=>none
  |_=>none
 |_,_=>none
def Pairs (R:V->V->Prop) (xs ys:List V):Prop:=xs.length=ys.length/\∀(i:Nat) (x y:V),xs[i]? =some x->ys[i]? =some y->R x y
theorem RK {R R':V->V->Prop} {f:V->(t:Ty)->Option (List t.den)} (hf:UI R f) (h0:∀x,R (.v x) (.v x)) (hone:∀x y,R x y->R' x y) (hagg:∀x xs ys,norm x = .agg xs->Pairs R xs ys->R' x (.agg ys)) {t:Ty} {x:V} {a:t.den} (h:un f t (fI t x)=some (a,[])):R' x (t.val a):=by
 have one:∀(c:V),fI t x= [x]->t.row a= [c]->R' x c:=by
  intro c h1 h2;rw[h1]at h;exact hone _ _ ((oJ hf h0 h).2 0 x c rfl (by rw[h2];rfl))
 cases t with
 |int k=>exact one _ rfl rfl
 |bool=>exact one _ rfl rfl
 |str=>exact one _ rfl rfl
 |list t=>exact one _ rfl rfl
 |pair p q=>
  simp only[fI]at h;split at h
  ·rename_i xs hx
   exact hagg x xs _ hx (oJ hf h0 h)
  ·have:=(oJ hf h0 h).1
   simp [Ty.cells_len]at this;have hp:∀t:Ty,0<t.size:=by
    intro t;induction t<;>simp [Ty.size]<;>omega
   have:=hp p;simp [Ty.size]at *;omega
theorem qFS {R R':V->V->Prop} {f:V->(t:Ty)->Option (List t.den)} (hf:UI R f) (h0:∀x,R (.v x) (.v x)) (hone:∀x y,R x y->R' x y) (hagg:∀x xs ys,norm x = .agg xs->Pairs R xs ys->R' x (.agg ys)) :
  ∀ {ps:List Ty} {args:List V} {x:Tup ps},rdA f ps args=some x->Pairs R' args (vals ps x)
 | [],[],x,_=>⟨rfl,fun i x y h=>by simp at h⟩
 | [],_::_,_,h=>by simp [rdA]at h
 |_::_,[],_,h=>by simp [rdA]at h
 |t::ts,v::vs,x,h=>by
  simp only[rdA]at h;split at h
  ·rename_i a ha
   split at h
   ·rename_i r hr
    injection h with h;subst h;obtain⟨h1,h2⟩:=qFS hf h0 hone hagg hr;refine⟨by simp [vals,h1],fun i p q hp hq=>?_⟩;cases i with
    |zero=>simp [vals]at hp hq;subst hp hq;exact RK hf h0 hone hagg ha
    |succ i=>exact h2 i p q (by simpa using hp) (by simpa [vals]using hq)
   ·cases h
  ·cases h
theorem LE.norm_agg (x:V) (xs ys:List V) (hx:norm x = .agg xs) (h:Pairs (fun a b=>LE a b) xs ys):LE x (.agg ys):=by
 intro w ι M z r;have r:=r.norm;rw[hx]at r;exact LE.agg h r
theorem PC.res_LE {P:Program} {f:FuncId} {args:List V} {h:Heap} {R:V->Heap->Prop} (hc:PC P f args h (fun x k=>∃y,LE x y/\R y k)):PC P f args h R:=
 fun ι w vals h1 h2=>(hc ι w vals h1 h2).mono fun e w' ⟨z,x,h',ι',q1,⟨y,q2,q3⟩,q4,q5⟩=>⟨z,y,h',ι',q1,q3,q2 q4,q5⟩
theorem PC.args_LE {P:Program} {f:FuncId} {args args':List V} {h:Heap} {R:V->Heap->Prop} (hl:LEs args args') (hc:PC P f args' h R):PC P f args h R:=by
 intro ι w vals hp H;refine hc ι w vals ⟨hl.1.symm.trans hp.1,fun i y hy=>?_⟩ H;obtain⟨x,x1,x2⟩:=hl.opt hy;obtain⟨z,z1,z2⟩:=hp.2 i x x1;exact⟨z,z1,x2 z2⟩
def qEB {t t':Ty} (a:t.den):Option t'.den:=if h:t=t' then h ▸ some a else none
theorem VQ {t t':Ty} {a:t.den} {a':t'.den} (h:qEB a=some a'):∃e:t=t',a'=e ▸ a:=by
 unfold qEB at h;split at h
 ·rename_i e;subst e;injection h with h;exact⟨rfl,h.symm⟩
 ·cases h
def LP (t:Ty) (e:TypeId):XO->Option t.den
 | .ob _ a e'=>if e'=e then qEB (t':=t) a else none
 | .raw s=>match s with
   | .live o=>if o.sz=t.size/\o.elem=e then(match o.rows with
     | [r]=>(match un (cN 8) t r with
       |some (a,[])=>some a
       |_=>none)
     |_=>none)
     else none
   |_=>none
 |_=>none
theorem FL {t:Ty} {e:TypeId} {x:XO} {a:t.den} (h:LP t e x=some a):∃o,x.den = .live o/\o.sz=t.size/\o.elem=e/\o.rows.length=1/\∀(i:Nat) (r r':List V),o.rows[i]? =some r-> [t.row a][i]? =some r'->LEs r r':=by
 cases x with
 |ob t0 a0 e'=>
  simp only[LP]at h;split at h
  ·rename_i he
   subst he;obtain⟨et,el⟩:=VQ h;subst et;subst el;refine⟨_,rfl,rfl,rfl,rfl,fun i r r' q1 q2=>?_⟩;rw[q1]at q2;injection q2 with q2;subst q2;exact⟨rfl,fun j x y hx hy=>by rw[hx]at hy;injection hy with hy;subst hy;exact LE.refl _⟩
  ·cases h
 |raw s=>
  cases s with
  |live o=>
   simp only[LP]at h;split at h
   ·rename_i hsz
    split at h
    ·rename_i r hr
     split at h
     ·rename_i b hb
      injection h with h;subst h;refine⟨o,rfl,hsz.1,hsz.2,by rw[hr];rfl,fun i r1 r2 h1 h2=>?_⟩;rw[hr]at h1;cases i with
      |zero=>simp at h1 h2;subst h1 h2;exact oJ (fW 8) (fun _=>LE.refl _) hb
      |succ i=>simp at h1
     ·cases h
    ·cases h
   ·cases h
  |_=>simp [LP]at h
 |_=>simp [LP]at h
def Iota.none (ι:Iota):Iota:={at':=fun _=>Option.none,X:=ι.X}
theorem zM {ι:Iota} {b:Nat}:Mt [] ι.none b->ι.X b:=by
 rintro(q|⟨id,o,l,q,_⟩)
 ·exact q
 ·simp at q
theorem EH {w:World} {ι ι₂:Iota} {M M₂:Nat->Prop} {id len:Nat} {o:AObj} {l:Loc} {c:Array Value} {fr:Nat×Nat} {rows':List (List V)} {z:Value} (hl:ι id=some l) (la:LiveAt w ι M o l c fr) (hblk:l.blk<w.heap.size) (hm:¬M₂ l.blk)
  (hlen:len=rows'.length) (hrl:o.rows.length=rows'.length)
  (hrow:∀(i:Nat) (r r':List V),o.rows[i]? =some r->rows'[i]? =some r'->r.length=r'.length/\∀(j:Nat) (x x':V),r[j]? =some x->r'[j]? =some x'->∀ {y:Value},Rep w ι M x y->Rep w ι₂ M₂ x' y)
  (r:Rep w ι M (.sO id 0 len) z):Rep w ι₂ M₂ (.sF o.sz rows') z:=by
 cases r with
 |sO _ _ _ cap l2 c2 e2 fr2 hl2 hcap hb hsz=>
  rw[hl]at hl2;injection hl2 with hl2;subst hl2;subst hlen;have get:∀(i:Nat) (r':List V),rows'[i]? =some r'->∃r,o.rows[i]? =some r/\r.length=r'.length/\∀(j:Nat) (x x':V),r[j]? =some x->r'[j]? =some x'->∀ {y:Value},Rep w ι M x y->Rep w ι₂ M₂ x' y:=by
   intro i r' hr';have hi:i<o.rows.length:=by rw[hrl];exact aI hr'
   obtain⟨q1,q2⟩:=hrow i _ _ (ga hi) hr';exact⟨_,ga hi,q1,q2⟩
  refine Rep.sF_mk ⟨l.blk,l.base+0*l.sz,Option.none⟩ cap (fun _=>⟨rfl,hblk,hm⟩) hcap (fun r' hr'=>?_) (fun i j r' x' hi hj=>?_)
  ·obtain⟨i,hi,e⟩:=gk hr'
   obtain⟨r,r1,r2,_⟩:=get i r' (by rw[ga hi,e]);rw[<-r2];exact la.rows r (cD r1)
  ·obtain⟨r,r1,r2,r3⟩:=get i r' hi
   have hj0:j<r.length:=by rw[r2];exact aI hj
   obtain⟨_,_,u,u1,u2⟩:=la.get r1 (ga hj0);refine⟨u,?_,r3 j _ _ (ga hj0) hj u2⟩;rw[la.cell,<-u1,la.sz];congr 1
   simp
def rdH (h:List XO) (lo:Nat) (x:V) (t:Ty):Option (List t.den):=match x with
 | .sO id 0 len=>if lo<=id then match h[id]? with
     |some (.raw (.live o))=>if o.sz=t.size/\len=o.rows.length then oI (cN 8) t o.rows else none
     |some (.tl _ l _)=>fR l
     |_=>none
   else none
 | .oL id n=>if lo<=id then match h[id]? with
     |some (.opt _ l _)=>fR l
     |_=>none
   else none
 |x=>cN 8 x t
def fZ (h:List XO) (x:V):List Bool:=match x with
 | .sO id _ len=>match h[id]? with
   |some (.tl _ l _)=>[decide (len=l.length)]
   |_=>[]
 | .oL id n=>match h[id]? with
   |some (.opt _ l _)=>[decide (n=l.length)]
   |_=>[]
 |_=>[]
def PA (h:List XO) (x:V):List Bool:=match x with
 | .agg xs=>xs.flatMap (fZ h)
 |x=>fZ h x
def lens (h:List XO) (xs:List V):List Bool:=xs.flatMap (PA h)
theorem qFV {h:List XO} {lo:Nat} {w:World} {ι ι₂:Iota} {M M₂:Nat->Prop} (hw:∀b,M₂ b->M b) (hlive:∀id o,lo<=id->(dens h)[id]? =some (.live o)->∃l c fr,ι id=some l/\LiveAt w ι M o l c fr/\l.blk<w.heap.size/\¬M₂ l.blk)
  {x:V} {t:Ty} {l:List t.den} (e:rdH h lo x t=some l) (hc:dK (fZ h x)) {z:Value} (r:Rep w ι M x z):Rep w ι₂ M₂ (.sL t l) z:=by
 have free:∀ {a:V} {y:Value},NI 0 a->Rep w ι M a y->Rep w ι₂ M₂ a y:=fun hn rr=>rr.free hw hn
 have tree:∀(l0:List t.den) (len id:Nat) (el:El),lo<=id->(dens h)[id]? =some (.live ⟨t.size,l0.map t.row,el⟩)->len=l0.length->Rep w ι M (.sO id 0 len) z->Rep w ι₂ M₂ (.sF t.size (l0.map t.row)) z:=by
  intro l0 len id el hlo hd hl rr;obtain⟨lc,c,fr,g1,la,g2,g3⟩:=hlive id _ hlo hd;refine EH g1 la g2 g3 (by simpa using hl) rfl (fun i r r' h1 h2=>?_) rr;rw[h1]at h2;injection h2 with h2;subst h2;refine⟨rfl,fun j a b ha hb=>?_⟩;rw[ha]at hb;injection hb with hb;subst hb;exact free ((t.nir 0 l0) _ (cD h1) _ (cD ha))
 unfold rdH at e;split at e
 ·rename_i id len
  split at e
  ·rename_i hlo
   split at e
   ·rename_i o ho
    split at e
    ·rename_i hsz
     have hd:(dens h)[id]? =some (.live o):=by rw[aJ,ho];rfl
     obtain⟨lc,c,fr,g1,la,g2,g3⟩:=hlive id o hlo hd;obtain⟨u1,u2⟩:=qL (fW 8) (fun _=>LE.refl _) e;refine .sL _ _ _ ?_;rw[<-hsz.1];refine EH g1 la g2 g3 (by simp [hsz.2,u1]) (by simp [u1]) (fun i r r' h1 h2=>?_) r;rw[gz]at h2;cases ha:l[i]? with
     |none=>rw[ha]at h2;simp at h2
     |some a=>
      rw[ha]at h2;simp at h2;subst h2;obtain⟨v1,v2⟩:=u2 i r a h1 ha;refine⟨v1,fun j p q hp hq y rr=>?_⟩;exact free (t.nis 0 a [] (by intro _ h;cases h) q (cD hq)) (v2 j p q hp hq rr)
    ·cases e
   ·rename_i t0 l0 el ho
    obtain⟨q1,q2,q3⟩:=eS e;have hb:len=l0.length:=by simp only[fZ,ho]at hc;exact of_decide_eq_true (hc _ sm)
    refine .sL _ _ _ (tree l len id el hlo ?_ (hb.trans q3) r);rw[aJ,ho,<-q1,<-q2];rfl
   ·cases e
  ·cases e
 ·rename_i id n
  split at e
  ·rename_i hlo
   split at e
   ·rename_i t0 l0 el ho
    obtain⟨q1,q2,q3⟩:=eS e;have hb:n=l0.length:=by simp only[fZ,ho]at hc;exact of_decide_eq_true (hc _ sm)
    subst hb;cases r with
    |oL _ _ _ r=>
     by_cases hn:l0= []
     ·subst hn
      have:l= []:=gh.1 (by simpa using q3.symm);subst this;simp at r;exact .sL _ _ _ (LE.nil _ (free (.v _) r))
     ·have hn':¬l0.length=0:=fun q=>hn (gh.1 q)
      rw[if_neg hn']at r;refine .sL _ _ _ (tree l l0.length id el hlo ?_ q3 r);rw[aJ,ho,<-q1,<-q2];simp [XO.den,hn]
   ·cases e
  ·cases e
 ·exact free (.sL t l) (fW 8 x t l e r)
def RA (k:Heap) (y x:V):Prop:=∀(w:World) (ι:Iota) (z:Value),HRel k ι w->Rep w ι (Mt k ι) y z->Rep w ι.none (Mt [] ι.none) x z
theorem RA.agg {k:Heap} {x:V} {xs ys:List V} (hx:norm x = .agg xs) (h:Pairs (fun a b=>RA k a b) xs ys):RA k x (.agg ys):=by
 intro w ι z H r;have r:=r.norm;rw[hx]at r;cases r with
 |agg _ vs hl hr=>
  refine .agg _ vs (h.1.symm.trans hl) (fun i h1 h2=>?_);have hi:i<xs.length:=by rw[h.1];exact h1
  exact h.2 i _ _ (ga hi) (ga h1) _ _ _ H (hr i hi h2)
theorem flat_rep {w w':World} {ι ι':Iota} {M M':Nat->Prop}:∀ {t:Ty} {a:t.den} {r:List V},uK t=true->(∀x,x∈r->∀ {y:Value},Rep w ι M x y->Rep w' ι' M' x y)->∀x,x∈t.cells a r->∀ {y:Value},Rep w ι M x y->Rep w' ι' M' x y
 | .int _,_,_,_,hr,x,hx=>fun rr=>by rcases gc.1 hx with q|q;subst q;cases rr;exact .v _;exact hr x q rr
 | .bool,_,_,_,hr,x,hx=>fun rr=>by rcases gc.1 hx with q|q;subst q;cases rr;exact .v _;exact hr x q rr
 | .str,_,_,_,hr,x,hx=>fun rr=>by rcases gc.1 hx with q|q;subst q;cases rr;exact .v _;exact hr x q rr
 | .pair a b,p,r,hf,hr,x,hx=>by
   simp only[uK,Bool.and_eq_true]at hf;exact flat_rep (t:=a) hf.1 (flat_rep (t:=b) hf.2 hr) x hx
theorem WN {w w':World} {ι ι':Iota} {M M':Nat->Prop} {t:Ty} {a:t.den} (hf:uK t=true) {y:Value} (r:Rep w ι M (t.val a) y):Rep w' ι' M' (t.val a) y:=by
 cases t with
 |int k=>cases r;exact .v _
 |bool=>cases r;exact .v _
 |str=>cases r;exact .v _
 |list t=>cases hf
 |pair p q=>
  cases r with
  |agg _ vs hl hr=>exact .agg _ vs hl (fun i h1 h2=>flat_rep (w:=w) (ι:=ι) (M:=M) (t:=.pair p q) (a:=a) (r:=[]) hf (fun x h=>by cases h) _ (ge h1) (hr i h1 h2))
theorem ON {w w':World} {ι ι':Iota} {M M':Nat->Prop}:∀ {ts:List Ty} {x:Tup ts},ts.all uK=true->∀v,v∈vals ts x->∀ {y:Value},Rep w ι M v y->Rep w' ι' M' v y
 | [],_,_,v,hv=>by cases hv
 |t::ts,x,hf,v,hv=>by
  simp only[List.all_cons,Bool.and_eq_true]at hf;intro r;rcases gc.1 hv with q|q
  ·subst q;exact WN hf.1 r
  ·exact ON (ts:=ts) hf.2 v q r
theorem RV.flat_rep {w w':World} {ι ι':Iota} {M M':Nat->Prop} {x:RV} (hf:x.flat=true) {y:Value} (r:Rep w ι M x.val y):Rep w' ι' M' x.val y:=by
 cases x with
 |d t a=>exact WN hf r
 |tup ts a=>
  cases r with
  |tup _ vs hl hr=>exact .tup _ vs hl (fun i h1 h2=>ON (w:=w) (ι:=ι) (M:=M) hf _ (ge h1) (hr i h1 h2))
theorem PC.read {P:Program} {f:FuncId} {args args0:List V} {k:Heap} {x:RV} (hx:x.flat=true) (hc:PCX P f args0 [] [] x.val) (ha:Pairs (fun a b=>RA k a b) args args0):PC P f args k (fun y k'=>y=x.val/\k'=k):=by
 intro ι w vals hp H;have hob0:∀b,¬Ob [] ι.none b:=by rintro b ⟨id,o,l,q,_⟩;simp at q
 have H0:HRel [] ι.none w:=⟨fun id o h=>by simp at h,fun id h=>by simp at h,fun id _=>rfl,fun id o l id' o' l' h=>by simp at h,H.xlt,fun b _=>hob0 b⟩
 have hp0:PW2 w ι.none (Mt [] ι.none) args0 vals:=by
  refine⟨ha.1.symm.trans hp.1,fun i x hx=>?_⟩;have hi:i<args.length:=by rw[ha.1];exact aI hx
  obtain⟨y,y1,y2⟩:=hp.2 i _ (ga hi);exact⟨y,y1,ha.2 i _ _ (ga hi) hx _ _ _ H y2⟩
 refine(hc.2 [] (fun p hp=>by cases hp) ι.none w vals hp0 H0).mono ?_;rintro e w' ⟨y,_,_,ι',rfl,⟨rfl,rfl⟩,ry,H',ev⟩;have ev':Evolve k ι w k ι w':=⟨ev.os,ev.tape,ev.output,ev.size,fun _ _ q=>q,rfl,fun b hb q=>⟨(ev.frame b hb (hob0 b)).1,q⟩,ev.sizes⟩
 refine⟨y,_,k,ι,rfl,⟨rfl,rfl⟩,x.flat_rep hx ry,?_,ev'⟩;refine⟨fun id o ho=>?_,H.free,H.out,H.apart,fun b hb=>gl (H.xlt b hb) ev.size,H.xob⟩;obtain⟨l,c,fr,h1,la⟩:=H.live id o ho;have hb:=H.blk_lt ⟨id,o,l,ho,h1,rfl⟩;exact⟨l,c,fr,h1,⟨((ev.frame _ hb (hob0 _)).1).trans la.blk,la.unfrozen,la.sz,la.rows,la.fits,fun i hi j hj=>let ⟨u,u1,u2⟩:=la.reads i hi j hj;⟨u,u1,u2.mono ev'⟩⟩⟩
theorem qE {ps:List Ty} {args:List V} {x:Tup ps} (e:rdA (cN 8) ps args=some x):LEs args (vals ps x):=
 qFS (R:=fun a b=>LE a b) (R':=fun a b=>LE a b) (fW 8) (fun _=>LE.refl _) (fun _ _ h=>h) LE.norm_agg e
theorem qFU {h:List XO} {lo:Nat} {R:V->V->Prop} (hR:∀x t l,rdH h lo x t=some l->dK (fZ h x)->R x (.sL t l)) (h0:∀x,R (.v x) (.v x)) (hagg:∀x xs ys,norm x = .agg xs->Pairs R xs ys->R x (.agg ys))
  {t:Ty} {x:V} {a:t.den} (e:un (rdH h lo) t (fI t x)=some (a,[])) (hc:dK (PA h x)):R x (t.val a):=by
 refine RK (R:=fun a b=>dK (fZ h a)->R a b) (R':=fun a b=>dK (PA h a)->R a b) (f:=rdH h lo) (fun x t l q c=>hR x t l q c) (fun x _=>h0 x) (fun x y hxy hc=>hxy ?_) (fun x xs ys hx hp hc=>hagg x xs ys hx ⟨hp.1,fun i p q h1 h2=>hp.2 i p q h1 h2 ?_⟩) e hc
 ·cases x with
  |agg _=>intro c hc';cases hc'
  |_=>exact hc
 ·cases x with
  |agg zs=>injection hx with hx;subst hx;exact fun c hc'=>hc c (List.mem_flatMap.2 ⟨p,cD h1,hc'⟩)
  |v q=>
   have:∃r,p = .v r:=by
    cases q<;>simp [norm,ofValue]at hx
    subst hx;obtain⟨a,_,ha⟩:=List.mem_map.1 (cD h1);exact⟨a,ha.symm⟩
   obtain⟨r,rfl⟩:=this;intro c hc';cases hc'
  |_=>cases hx
theorem YO {h:List XO} {lo:Nat} {R:V->V->Prop} (hR:∀x t l,rdH h lo x t=some l->dK (fZ h x)->R x (.sL t l)) (h0:∀x,R (.v x) (.v x)) (hagg:∀x xs ys,norm x = .agg xs->Pairs R xs ys->R x (.agg ys)) :
  ∀ {ps:List Ty} {args:List V} {x:Tup ps},rdA (rdH h lo) ps args=some x->dK (lens h args)->Pairs R args (vals ps x)
 | [],[],x,_,_=>⟨rfl,fun i x y h=>by simp at h⟩
 | [],_::_,_,h,_=>by simp [rdA]at h
 |_::_,[],_,h,_=>by simp [rdA]at h
 |t::ts,v::vs,x,e,hc=>by
  simp only[rdA]at e;split at e
  ·rename_i a ha
   split at e
   ·rename_i r hr
    injection e with e;subst e;obtain⟨h1,h2⟩:=YO hR h0 hagg hr (fun c q=>hc c (by simp only[lens,ka,List.mem_append];exact .inr q));refine⟨by simp [vals,h1],fun i p q hp hq=>?_⟩;cases i with
    |zero=>simp [vals]at hp hq;subst hp hq;exact qFU hR h0 hagg ha (fun c q=>hc c (by simp only[lens,ka,List.mem_append];exact .inl q))
    |succ i=>exact h2 i p q (by simpa using hp) (by simpa [vals]using hq)
   ·cases e
  ·cases e
theorem qQI {h:List XO} {x:V} {t:Ty} {l:List t.den} (e:rdH h 0 x t=some l) (hc:dK (fZ h x)):RA (dens h) x (.sL t l):=by
 intro w ι z H r;refine qFV (lo:=0) (fun b q=>.inl (zM q)) (fun id o _ ho=>?_) e hc r;obtain⟨l,c,fr,h1,la⟩:=H.live id o ho;exact⟨l,c,fr,h1,la,H.blk_lt ⟨id,o,l,ho,h1,rfl⟩,fun q=>H.xob _ (zM q) ⟨id,o,l,ho,h1,rfl⟩⟩
def zX (h:List XO) (t:Ty) (o:XO):Option (t.den×List V):=match o.den with
 | .live ob=>if ob.sz=t.size then(match ob.rows with
   | [row]=>(match un (rdH h 0) t row with
     |some (a,[])=>some (a,row)
     |_=>none)
   |_=>none)else none
 |_=>none
theorem qQK {h:List XO} {t:Ty} {o:XO} {a:t.den} {row:List V} (e:zX h t o=some (a,row)):∃ob,o.den = .live ob/\ob.sz=t.size/\ob.rows= [row]/\un (rdH h 0) t row=some (a,[]):=by
 unfold zX at e;split at e
 ·rename_i ob hob
  split at e
  ·rename_i hsz
   split at e
   ·rename_i row' hrow
    split at e
    ·rename_i a' hu
     injection e with e;injection e with e1 e2;subst e1 e2;exact⟨ob,hob,hsz,hrow,hu⟩
    ·cases e
   ·cases e
  ·cases e
 ·cases e
theorem qQJ {h:List XO} {t:Ty} {o:XO} {a:t.den} {row:List V} {ob:AObj} (h1:o.den = .live ob) (h2:ob.sz=t.size) (h3:ob.rows= [row]) (h4:un (rdH h 0) t row=some (a,[])):zX h t o=some (a,row):=by
 simp only[zX,h1,h2,if_true,h3,h4]
theorem YP {h:List XO} {t:Ty} {j:Nat} {o:XO} {a:t.den} {row:List V} (ho:h[j]? =some o) (e:zX h t o=some (a,row)) (hc:dK (row.flatMap (fZ h))):RA (dens h) (.pO j 0 0) (.pF (t.row a) 0):=by
 unfold zX at e;split at e
 ·rename_i ob hob
  split at e
  ·rename_i hsz
   split at e
   ·rename_i row' hrow
    split at e
    ·rename_i a' hu
     injection e with e;injection e with e1 e2;subst e1 e2;have hd:(dens h)[j]? =some (.live ob):=by rw[aJ,ho,<-hob];rfl
     obtain⟨u1,u2⟩:=oJ (R:=fun x y=>dK (fZ h x)->RA (dens h) x y) (fun x t l e hc=>qQI e hc) (fun x _ _ _ _ _ r=>by cases r;exact .v _) hu;intro w ι z H r;cases r with
     |pO _ _ _ l hl=>
      obtain⟨l2,c,fr,g1,la⟩:=H.live j ob hd;rw[hl]at g1;injection g1 with g1;subst g1;have hb:Ob (dens h) ι l.blk:=⟨j,ob,l,hd,hl,rfl⟩
      have hr0:0<ob.rows.length:=by rw[hrow];simp
      have hget:∀i,i<(t.row a').length->∃x,c[l.base+i]? =some x/\∀y,(t.row a')[i]? =some y->Rep w ι.none (Mt [] ι.none) y x:=by
       intro i hi;have hi2:i<row'.length:=by rw[u1];exact hi
       have he:ob.rows[0]=row':=by simp [hrow]
       obtain⟨x,x1,x2⟩:=la.reads 0 hr0 i (by rw[he];exact hi2);refine⟨x,by simpa using x1,fun y hy=>?_⟩;have hx:ob.rows[0][i]'(by rw[he];exact hi2)=row'[i]:=by simp [he]
       rw[hx]at x2;exact u2 i _ y (ga hi2) hy (fun b hb=>hc b (List.mem_flatMap.2 ⟨_,ge hi2,hb⟩)) w ι x H x2
      have:=Rep.pF (w:=w) (ι:=ι.none) (M:=Mt [] ι.none) (t.row a') 0 l.blk l.base (fun i=>(c[l.base+i]?).getD default) (H.blk_lt hb) (fun q=>H.xob _ (zM q) hb) (fun i hi=>?_) (fun i hi=>?_)
      ·simpa using this
      ·obtain⟨x,x1,_⟩:=hget i hi
       simp only[World.cell?,la.blk,x1];rfl
      ·obtain⟨x,x1,x2⟩:=hget i hi
       simp only[x1,Option.getD_some];exact x2 _ (ga hi)
    ·cases e
   ·cases e
  ·cases e
 ·cases e
theorem LE.pF {r r':List V} (h:LEs r r'):LE (.pF r 0) (.pF r' 0):=by
 intro w ι M z q;cases q with
 |pF _ _ b o cells h1 h2 h3 h4=>
  refine .pF r' 0 b o cells h1 h2 (fun j hj=>h3 j (by rw[h.1];exact hj)) (fun j hj=>?_);have hj1:j<r.length:=by rw[h.1];exact hj
  exact h.2 j _ _ (ga hj1) (ga hj) (h4 j hj1)
theorem qFW {h:List XO} {ps:List Ty} {args:List V} {x:Tup ps} (e:rdA (rdH h 0) ps args=some x) (hc:dK (lens h args)):Pairs (fun a b=>RA (dens h) a b) args (vals ps x):=
 YO (R:=RA (dens h)) (fun _ _ _ e hc=>qQI e hc) (fun x _ _ _ _ r=>by cases r;exact .v _) (fun _ _ _ hx hp=>RA.agg hx hp) e hc
theorem qFT {h:List XO} {τ:Nat->Option Nat} {lo:Nat} (hτ:∀id,lo<=id->τ id=none) {x:V} {t:Ty} {l:List t.den} (e:rdH h lo x t=some l) (hc:dK (fZ h x)):Frz τ (dens h) x (.sL t l):=
 fun cv _ r=>qFV (lo:=lo) (fun b hb=>Classical.byContradiction fun q=>cv.wide b q hb) (fun id o hlo ho=>cv.live id o (hτ id hlo) ho) e hc r
theorem Frz.agg {h:Heap} {τ:Nat->Option Nat} (x:V) (xs ys:List V) (hx:norm x = .agg xs) (hp:Pairs (fun a b=>Frz τ h a b) xs ys):Frz τ h x (.agg ys):=by
 intro w ι M ι₂ M₂ cv z r;have r:=r.norm;rw[hx]at r;cases r with
 |agg _ vs hl hr=>
  refine .agg _ vs (hp.1.symm.trans hl) (fun i h1 h2=>?_);have hi:i<xs.length:=by rw[hp.1];exact h1
  exact hp.2 i _ _ (ga hi) (ga h1) cv (hr i hi h2)
structure Leaf (p:Prop):Prop where
 out:p
def RY (h:List XO) (lo:Nat):(ts:List Ty)->List V->Tup ts->Prop->Prop
 | [],[],_,A=>A
 |t::ts,y::ys,(x,r),A=>match un (rdH h lo) t (fI t y)with
  |some (a,[])=>needs (PA h y) (Leaf (a=x)/\RY h lo ts ys r A)
  |_=>False
 |_,_,_,_=>False
def qJW (h:List XO) (lo:Nat) (y:V) (A:Prop):RV->Prop
 | .d t x=>match un (rdH h lo) t (fI t y)with
   |some (a,[])=>needs (PA h y) (Leaf (a=x)/\A)
   |_=>False
 | .tup ts x=>match y with
   | .tup ys=>RY h lo ts ys x A
   |_=>False
theorem qaM {h:List XO} {τ:Nat->Option Nat} {lo:Nat} (hτ:∀id,lo<=id->τ id=none) {t:Ty} {y:V} {a:t.den} (e:un (rdH h lo) t (fI t y)=some (a,[])) (hc:dK (PA h y)):Frz τ (dens h) y (t.val a):=
 qFU (R:=fun a b=>Frz τ (dens h) a b) (fun _ _ _ e hc=>qFT hτ e hc) (fun x=>Frz.tree (.v x)) (fun x xs ys hx hp=>Frz.agg x xs ys hx hp) e hc
theorem OD {h:List XO} {τ:Nat->Option Nat} {lo:Nat} (hτ:∀id,lo<=id->τ id=none) {A:Prop}:∀ {ts:List Ty} {ys:List V} {x:Tup ts},RY h lo ts ys x A->Pairs (fun a b=>Frz τ (dens h) a b) ys (vals ts x)/\A
 | [],[],_,e=>⟨⟨rfl,fun i x y h=>by simp at h⟩,e⟩
 | [],_::_,_,e=>e.elim
 |_::_,[],_,e=>e.elim
 |t::ts,y::ys,(x,r),e=>by
  simp only[RY]at e;split at e
  ·rename_i a ha
   obtain⟨hc,⟨e1⟩,e2⟩:=bR e;obtain⟨⟨h1,h2⟩,hA⟩:=OD hτ e2;refine⟨⟨by simp [vals,h1],fun i p q hp hq=>?_⟩,hA⟩;cases i with
   |zero=>simp [vals]at hp hq;subst hp hq;rw[<-e1];exact qaM hτ ha hc
   |succ i=>exact h2 i p q (by simpa using hp) (by simpa [vals]using hq)
  ·cases e
theorem yW {h:List XO} {τ:Nat->Option Nat} {lo:Nat} (hτ:∀id,lo<=id->τ id=none) {y:V} {x:RV} {A:Prop} (e:qJW h lo y A x):Frz τ (dens h) y x.val/\A:=by
 cases x with
 |d t x=>
  simp only[qJW]at e;split at e
  ·rename_i a ha
   obtain⟨hc,⟨e1⟩,hA⟩:=bR e;rw[<-e1];exact⟨qaM hτ ha hc,hA⟩
  ·exact e.elim
 |tup ts x=>
  simp only[qJW]at e;split at e
  ·rename_i ys
   obtain⟨hp,hA⟩:=OD hτ e;refine⟨?_,hA⟩;intro w ι M ι₂ M₂ cv z r;cases r with
   |tup _ vs hl hr=>
    refine .tup _ vs (hp.1.symm.trans hl) (fun i h1 h2=>?_);have hi:i<ys.length:=by rw[hp.1];exact h1
    exact hp.2 i _ _ (ga hi) (ga h1) cv (hr i hi h2)
  ·exact e.elim
theorem PC.newObjF {P:Program} {f:FuncId} {args:List V} {o:AObj} (F:Nat->V) (hF:∀ {w:World} {ι ι2:Iota} {M M2:Nat->Prop} {i new:Nat} {l:Loc} {y:Value},ι i=some l->ι2 new=some l->Rep w ι M (F i) y->Rep w ι2 M2 (F new) y) (hargs:NIs 0 args) (ho:NIr 0 o.rows)
  (hc:PC P f args [] (fun x h'=>∃i c,x=F i/\h'[i]? =some (.live c)/\c.sz=o.sz/\c.elem=o.elem/\c.rows.length=o.rows.length/\∀(j:Nat) (r r':List V),c.rows[j]? =some r->o.rows[j]? =some r'->LEs r r'))
  {k:Heap} {new:Nat} {k':Heap} (hh:halloc k new o=some k'):PC P f args k (fun y h=>y=F new/\h=k'):=by
 intro ι w vals hp H;have hlt:∀b,Mt k ι b->b<w.heap.size:=by
  rintro b (q|q)
  ·exact H.xlt b q
  ·exact H.blk_lt q
 let ι0:Iota:={at':=fun _=>none,X:=Mt k ι}
 have H0:HRel [] ι0 w:=⟨fun id o h=>by simp at h,fun id h=>by simp at h,fun id _=>rfl,fun id o l id' o' l' h=>by simp at h,hlt,fun b _ ⟨id,o,l,q,_⟩=>by simp at q⟩
 have hp0:PW2 w ι0 (Mt [] ι0) args vals:=by
  refine⟨hp.1,fun i x hx=>?_⟩;obtain⟨y,y1,y2⟩:=hp.2 i x hx;exact⟨y,y1,y2.free (fun b q=>q.elim id fun⟨id,o,l,q,_⟩=>by simp at q) (hargs x (cD hx))⟩
 refine(hc ι0 w vals hp0 H0).mono ?_;rintro e w' ⟨y,x,h',ι',rfl,⟨i,c,rfl,hi,c1,c2,c3,c4⟩,ry,H',ev⟩;have hob0:∀b,¬Ob [] ι0 b:=by rintro b ⟨id,o,l,q,_⟩;simp at q
 have evk:∀b,b<w.heap.size->w'.heap[b]? =w.heap[b]? /\¬Ob h' ι' b:=fun b hb=>ev.frame b hb (hob0 b)
 obtain⟨l,cc,fr,hl,la⟩:=H'.live i c hi;have hblk:¬l.blk<w.heap.size:=fun q=>(evk _ q).2 ⟨i,c,l,hi,hl,rfl⟩
 obtain⟨g1,g2,g3,g4⟩:=sW hh;have hnew:ι new=none:=by
  rcases g4 with g4|g4
  ·exact H.free _ g4
  ·exact H.out _ g4
 let ι2:=ι.put new l
 have io:∀id l',ι id=some l'->ι2 id=some l':=by
  intro id l' hl';have:id≠new:=by intro e;subst e;rw[hnew]at hl';cases hl'
  simp [ι2,Iota.put,this,hl']
 have obk:∀b,Ob k' ι2 b->b=l.blk\/Ob k ι b:=by
  rintro b ⟨id,o',l',h1,h2,h3⟩;by_cases hid:id=new
  ·subst hid
   simp [ι2,Iota.put]at h2;subst h2;exact .inl h3.symm
  ·rw[g2 id hid]at h1
   simp [ι2,Iota.put,hid]at h2;exact .inr ⟨id,o',l',h1,h2,h3⟩
 have mt2:∀b,Mt k' ι2 b->Mt h' ι' b:=by
  rintro b (q|q)
  ·exact .inl (by rw[ev.away];exact .inl q)
  ·rcases obk b q with rfl|q
   ·exact .inr ⟨i,c,l,hi,hl,rfl⟩
   ·exact .inl (by rw[ev.away];exact .inr q)
 have ev':Evolve k ι w k' ι2 w':=by
  refine⟨ev.os,ev.tape,ev.output,ev.size,io,rfl,fun b hb q=>⟨(evk b hb).1,fun m=>?_⟩,ev.sizes⟩;rcases obk b m with rfl|m
  ·exact hblk hb
  ·exact q m
 refine⟨y,_,k',ι2,rfl,⟨rfl,rfl⟩,?_,?_,ev'⟩
 ·exact hF hl (by simp [ι2,Iota.put]) ry
 ·refine⟨fun id o' ho'=>?_,fun id hid=>?_,fun id hid=>?_,fun id o1 l1 id' o2 l2 a1 a2 b1 b2 hb=>?_,fun b hb=>gl (H.xlt b hb) ev.size,fun b hb q=>?_⟩
  ·by_cases hid:id=new
   ·subst hid
    rw[g1]at ho';injection ho' with ho';injection ho' with ho';subst ho';refine⟨l,cc,fr,by simp [ι2,Iota.put],⟨by rw[<-c2];exact la.blk,by rw[<-c2,<-c1];exact la.unfrozen,by rw[<-c1];exact la.sz,fun r' hr'=>?_,by rw[<-c1,<-c3];exact la.fits,fun m hm n hn=>?_⟩⟩
    ·obtain⟨m,hm,e⟩:=gk hr'
     have hm1:m<c.rows.length:=by rw[c3];exact hm
     have u:=c4 m _ _ (ga hm1) (ga hm);rw[<-e,<-u.1,<-c1];exact la.rows _ (ge hm1)
    ·have hm1:m<c.rows.length:=by rw[c3];exact hm
     have u:=c4 m _ _ (ga hm1) (ga hm);have hn1:n<c.rows[m].length:=by rw[u.1];exact hn
     obtain⟨z,z1,z2⟩:=la.reads m hm1 n hn1;refine⟨z,by rw[<-c1];exact z1,(u.2 n _ _ (ga hn1) (ga hn) z2).free mt2 ?_⟩;exact ho _ (ge hm) _ (ge hn)
   ·rw[g2 id hid]at ho'
    obtain⟨l',c',fr',h1,la'⟩:=H.live id o' ho';have hb:=H.blk_lt ⟨id,o',l',ho',h1,rfl⟩;exact⟨l',c',fr',io id l' h1,⟨((evk _ hb).1).trans la'.blk,la'.unfrozen,la'.sz,la'.rows,la'.fits,fun m hm n hn=>let ⟨u,u1,u2⟩:=la'.reads m hm n hn;⟨u,u1,u2.mono ev'⟩⟩⟩
  ·have hid':id≠new:=by intro q;subst q;rw[g1]at hid;cases hid
   rw[g2 id hid']at hid;simp [ι2,Iota.put,hid',H.free id hid]
  ·have hid':id≠new:=by
     intro q;subst q;have:=aI g1;omega
   simp only[ι2,Iota.put,hid',if_false];refine H.out id ?_;rcases gn id k.length with q|q
   ·have:=g2 id hid'
    rw[gi hid,ga q]at this;cases this
   ·exact q
  ·by_cases h1:id=new
   ·by_cases h2:id'=new
    ·rw[h1,h2]
    ·subst h1
     simp [ι2,Iota.put]at a2;rw[g2 id' h2]at b1;simp [ι2,Iota.put,h2]at b2;exact absurd (by rw[a2,hb];exact H.blk_lt ⟨id',o2,l2,b1,b2,rfl⟩) hblk
   ·rw[g2 id h1]at a1
    simp [ι2,Iota.put,h1]at a2;by_cases h2:id'=new
    ·subst h2
     simp [ι2,Iota.put]at b2;exact absurd (by rw[b2,<-hb];exact H.blk_lt ⟨id,o1,l1,a1,a2,rfl⟩) hblk
    ·rw[g2 id' h2]at b1
     simp [ι2,Iota.put,h2]at b2;exact H.apart _ _ _ _ _ _ a1 a2 b1 b2 hb
  ·rcases obk b q with rfl|q
   ·exact hblk (H.xlt _ hb)
   ·exact H.xob b hb q
theorem PC.newObj {P:Program} {f:FuncId} {args:List V} {o:AObj} (hargs:NIs 0 args) (ho:NIr 0 o.rows)
  (hc:PC P f args [] (fun x h'=>∃i c,x = .pO i 0 0/\h'[i]? =some (.live c)/\c.sz=o.sz/\c.elem=o.elem/\c.rows.length=o.rows.length/\∀(j:Nat) (r r':List V),c.rows[j]? =some r->o.rows[j]? =some r'->LEs r r'))
  {k:Heap} {new:Nat} {k':Heap} (hh:halloc k new o=some k'):PC P f args k (fun y h=>y = .pO new 0 0/\h=k'):=
 PC.newObjF (fun i=>.pO i 0 0) (fun h1 h2 r=>by
  cases r with
  |pO _ _ _ l2 hl2=>rw[h1]at hl2;injection hl2 with hl2;subst hl2;exact .pO _ 0 0 _ h2) hargs ho hc hh
structure EvN (n:Nat) (h:Heap) (ι:Iota) (w:World) (h':Heap) (ι':Iota) (w':World):Prop where
 os:w'.os=w.os
 tape:w'.tape=w.tape
 output:w'.output=w.output
 size:w.heap.size<=w'.heap.size
 iota:∀id l,id<n->ι id=some l->ι' id=some l
 away:ι'.X=ι.X
 frame:∀b,b<w.heap.size->¬Ob h ι b->w'.heap[b]? =w.heap[b]? /\¬Ob h' ι' b
 sizes:∀(b:Nat) (c:Array Value) (e:TypeId) (fr:Nat×Nat),w.heap[b]? =some (.cells c e fr)->∃(c':Array Value) (fr':Nat×Nat),w'.heap[b]? =some (.cells c' e fr')/\c'.size=c.size
theorem EvN.of {n:Nat} {h ι w h' ι' w'} (e:Evolve h ι w h' ι' w'):EvN n h ι w h' ι' w':=⟨e.os,e.tape,e.output,e.size,fun id l _ q=>e.iota id l q,e.away,e.frame,e.sizes⟩
theorem EvN.to {h ι w h' ι' w'} (e:EvN h.length h ι w h' ι' w') (H:HRel h ι w):Evolve h ι w h' ι' w':=⟨e.os,e.tape,e.output,e.size,(fun id l q=>by
 rcases gn id h.length with hlt|hge
 ·exact e.iota id l hlt q
 ·rw[H.out id hge]at q;cases q),e.away,e.frame,e.sizes⟩
theorem EvN.trans {n:Nat} {h ι w h₁ ι₁ w₁ h₂ ι₂ w₂} (a:EvN n h ι w h₁ ι₁ w₁) (b:EvN n h₁ ι₁ w₁ h₂ ι₂ w₂):EvN n h ι w h₂ ι₂ w₂ where
 os:=b.os.trans a.os
 tape:=b.tape.trans a.tape
 output:=b.output.trans a.output
 size:=Nat.le_trans a.size b.size
 iota:=fun id l hn e=>b.iota id l hn (a.iota id l hn e)
 away:=b.away.trans a.away
 frame:=fun k hk hm=>by
  obtain⟨e1,m1⟩:=a.frame k hk hm;obtain⟨e2,m2⟩:=b.frame k (gl hk a.size) m1;exact⟨e2.trans e1,m2⟩
 sizes:=fun k c e fr hc=>by
  obtain⟨c1,fr1,h1,s1⟩:=a.sizes k c e fr hc;obtain⟨c2,fr2,h2,s2⟩:=b.sizes k c1 e fr1 h1;exact⟨c2,fr2,h2,s2.trans s1⟩
def qD2 (n:Nat) (s:St) (ι:Iota) (w:World) (Q:Exit->St->Prop):Exit->Act->World->Prop:=
 fun e a' w'=>∃s' ι',Q e s'/\SR s' ι' a' w'/\EvN n s.h ι w s'.h ι' w'
def PV (n:Nat) (P:Program) (c:Code) (s:St) (Q:Exit->St->Prop):Prop:=
 ∀ι a w,SR s ι a w->c.wp P (qD2 n s ι w Q) a w
section
variable {n:Nat} {P:Program} {Q:Exit->St->Prop} {s:St}
theorem PV.of {c:Code} (h:PW P c s Q):PV n P c s Q:=fun ι a w r=>wp_mono (h ι a w r) fun e a' w' ⟨s',ι',q,r',ev⟩=>⟨s',ι',q,r',EvN.of ev⟩
theorem PV.mono {c:Code} {Q':Exit->St->Prop} (h:PV n P c s Q) (hq:∀e s,Q e s->Q' e s):PV n P c s Q':=
 fun ι a w r=>wp_mono (h ι a w r) fun e a' w' ⟨s',ι',q,rest⟩=>⟨s',ι',hq _ _ q,rest⟩
theorem PV.skip (h:Q .normal s):PV n P .skip s Q:=PV.of (PW.skip h)
theorem PV.exit {id:Nat} (h:Q (.exit id) s):PV n P (.exit id) s Q:=PV.of (PW.exit h)
theorem PV.ret (h:Q .ret s):PV n P .ret s Q:=PV.of (PW.ret h)
theorem PV.seq {x y:Code} (h:PV n P x s (qAQ (fun s'=>PV n P y s' Q) Q)):PV n P (.seq x y) s Q:=by
 intro ι a w r;refine wp_seq (wp_mono (h ι a w r) ?_);rintro e a' w' ⟨s',ι',q,r',ev⟩;cases e with
 |normal=>exact wp_mono (q ι' a' w' r') fun e2 a2 w2 ⟨s2,ι2,q2,r2,ev2⟩=>⟨s2,ι2,q2,r2,ev.trans ev2⟩
 |_=>exact⟨s',ι',q,r',ev⟩
def AA (n:Nat) (P:Program) (c:Code) (Q:Exit->St->Prop):Nat->St->Prop
 |0,_=>False
 |m+1,s=>PV n P c s (qAQ (AA n P c Q m) Q)
theorem PV.unroll {c:Code} (m:Nat) (h:AA n P c Q m s):PV n P (.loop c) s Q:=by
 have go:∀(m:Nat) (s':St) (ι':Iota) (a':Act) (w':World) {ι:Iota} {w:World},SR s' ι' a' w'->EvN n s.h ι w s'.h ι' w'->AA n P c Q m s'->Code.rounds P c (qD2 n s ι w Q) m a' w':=by
  intro m;induction m with
  |zero=>intro s' ι' a' w' ι w r ev hm;exact hm.elim
  |succ m ih=>
   intro s' ι' a' w' ι w r ev hm;rw[rounds_succ];refine wp_mono (hm ι' a' w' r) ?_;rintro e a2 w2 ⟨s2,ι2,q,r2,ev2⟩;cases e with
   |normal=>exact ih s2 ι2 a2 w2 r2 (ev.trans ev2) q
   |_=>exact⟨s2,ι2,q,r2,ev.trans ev2⟩
 intro ι a w r;refine wp_loop_rounds m (go m s ι a w r ⟨rfl,rfl,rfl,gw _,fun _ _ _ q=>q,rfl,fun _ _ q=>⟨rfl,q⟩,fun _ c _ fr q=>⟨c,fr,q,rfl⟩⟩ h)
theorem PV.block {id:Nat} {c:Code} (h:PV n P c s (pZ id Q)):PV n P (.block id c) s Q:=by
 intro ι a w r;refine wp_block (wp_mono (h ι a w r) ?_);rintro e a' w' ⟨s',ι',q,r',ev⟩;cases e with
 |exit id'=>
  simp only[pZ]at q;simp only[Exit.inBlock];split
  ·rename_i hid
   rw[if_pos hid]at q;exact⟨s',ι',q,r',ev⟩
  ·rename_i hid
   rw[if_neg hid]at q;exact⟨s',ι',q,r',ev⟩
 |_=>exact⟨s',ι',q,r',ev⟩
theorem PV.cond {c:Operand} {x y:Code} {t:Bool} (hc:aev s.sl c = .v (.bool t)) (h:PV n P (if t then x else y) s Q):PV n P (.cond c x y) s Q:=
 fun ι a w r=>wp_cond (r.eval hc) (h ι a w r)
end
def Iota.ren (ι:Iota) (σ:List Nat):Iota:={at':=fun j=>match σ[j]? with|some i=>ι i|Option.none=>Option.none,X:=ι.X}
def cE (σ:List Nat) (x y:V):Prop:=∀(w:World) (ι:Iota) (M M':Nat->Prop),(∀b,M' b->M b)->∀z:Value,Rep w ι M x z->Rep w (ι.ren σ) M' y z
structure RenL (σ:List Nat) (o o':AObj):Prop where
 sz:o.sz=o'.sz
 elem:o.elem=o'.elem
 len:o.rows.length=o'.rows.length
 rows:∀(i:Nat) (r r':List V),o.rows[i]? =some r->o'.rows[i]? =some r'->Pairs (cE σ) r r'
def lE (σ:List Nat) (x y:HS):Prop:=y ≠ .free/\∀o',y = .live o'->∃o,x = .live o/\RenL σ o o'
theorem cE.any (σ:List Nat) (x:V):cE σ x .any:=fun w ι M M' _ z _=>.any z
theorem cE.tree {σ:List Nat} {x y:V} (h:LE x y) (hy:NI 0 y):cE σ x y:=fun w ι M M' hM z r=>(h r).free hM hy
theorem cE.pO {σ:List Nat} {i j:Nat} (r o:Nat) (h:σ[j]? =some i):cE σ (.pO i r o) (.pO j r o):=fun w ι M M' hM z q=>by
 cases q with|pO _ _ _ l hl=>exact .pO _ _ _ l (by simp [Iota.ren,h,hl])
theorem cE.sO {σ:List Nat} {i j:Nat} (o l:Nat) (h:σ[j]? =some i):cE σ (.sO i o l) (.sO j o l):=fun w ι M M' hM z q=>by
 cases q with|sO _ _ _ cap l c e fr hl hcap hb hs=>exact .sO _ _ _ cap l c e fr (by simp [Iota.ren,h,hl]) hcap hb hs
theorem cE.oL {σ:List Nat} {i j:Nat} (n:Nat) (h:σ[j]? =some i):cE σ (.oL i n) (.oL j n):=fun w ι M M' hM z q=>by
 cases q with
 |oL _ _ _ q=>
  refine .oL _ _ _ ?_;by_cases hn:n=0
  ·rw[if_pos hn]at q ⊢;cases q;exact .v _
  ·rw[if_neg hn]at q ⊢;exact cE.sO 0 n h w ι M M' hM z q
theorem cE.agg {σ:List Nat} {xs ys:List V} (h:Pairs (cE σ) xs ys):cE σ (.agg xs) (.agg ys):=fun w ι M M' hM z q=>by
 cases q with
 |agg _ vs hl hr=>
  refine .agg _ vs (h.1.symm.trans hl) (fun i h1 h2=>?_);have hi:i<xs.length:=by rw[h.1];exact h1
  exact h.2 i _ _ (ga hi) (ga h1) w ι M M' hM _ (hr i hi h2)
theorem cE.tup {σ:List Nat} {xs ys:List V} (h:Pairs (cE σ) xs ys):cE σ (.tup xs) (.tup ys):=fun w ι M M' hM z q=>by
 cases q with
 |tup _ vs hl hr=>
  refine .tup _ vs (h.1.symm.trans hl) (fun i h1 h2=>?_);have hi:i<xs.length:=by rw[h.1];exact h1
  exact h.2 i _ _ (ga hi) (ga h1) w ι M M' hM _ (hr i hi h2)
theorem cE.fn {σ:List Nat} {f:Fn} {a b a' b':List V} (h1:Pairs (cE σ) a a') (h2:Pairs (cE σ) b b'):cE σ (.fn f a b) (.fn f a' b'):=fun w ι M M' hM z q=>by
 cases q with
 |fn _ _ _ vs us l1 l2 r1 r2=>
  refine .fn _ _ _ vs us (h1.1.symm.trans l1) (h2.1.symm.trans l2) (fun i g1 g2=>?_) (fun i g1 g2=>?_)
  ·have hi:i<a.length:=by rw[h1.1];exact g1
   exact h1.2 i _ _ (ga hi) (ga g1) w ι M M' hM _ (r1 i hi g2)
  ·have hi:i<b.length:=by rw[h2.1];exact g1
   exact h2.2 i _ _ (ga hi) (ga g1) w ι M M' hM _ (r2 i hi g2)
theorem cE.ifc {σ:List Nat} {t:TypeId} {x y:V} (h:cE σ x y):cE σ (.ifc t x) (.ifc t y):=fun w ι M M' hM z q=>by
 cases q with|ifc _ _ v r=>exact .ifc _ _ v (h w ι M M' hM v r)
structure CutR (n0:Nat) (σ:List Nat) (s s':St):Prop where
 len:s'.h.length=σ.length
 ident:∀j,j<n0->σ[j]? =some j
 inj:σ.Nodup
 sl:Pairs (cE σ) s.sl s'.sl
 h:∀(j i:Nat),σ[j]? =some i->∃x y,s.h[i]? =some x/\s'.h[j]? =some y/\lE σ x y
theorem CutR.apply {n0:Nat} {σ:List Nat} {s s':St} (c:CutR n0 σ s s') {ι:Iota} {a:Act} {w:World} (r:SR s ι a w):SR s' (ι.ren σ) a w/\EvN n0 s.h ι w s'.h (ι.ren σ) w:=by
 have H:=r.heap;have old:∀(j:Nat) (o':AObj),s'.h[j]? =some (.live o')->∃i o,σ[j]? =some i/\s.h[i]? =some (.live o)/\RenL σ o o':=by
  intro j o' h;have hj:j<σ.length:=by rw[<-c.len];exact aI h
  obtain⟨x,y,h1,h2,h3⟩:=c.h j σ[j] (ga hj);rw[h]at h2;injection h2 with h2;subst h2;obtain⟨o,rfl,h4⟩:=h3.2 o' rfl;exact⟨σ[j],o,ga hj,h1,h4⟩
 have at':∀(j i:Nat),σ[j]? =some i->(ι.ren σ) j=ι i:=by intro j i h;simp [Iota.ren,h]
 have ob:∀b,Ob s'.h (ι.ren σ) b->Ob s.h ι b:=by
  rintro b ⟨j,o',l,h1,h2,h3⟩;obtain⟨i,o,e1,e2,e3⟩:=old j o' h1;rw[at' j i e1]at h2;exact⟨i,o,l,e2,h2,h3⟩
 have mt:∀b,Mt s'.h (ι.ren σ) b->Mt s.h ι b:=fun b q=>q.elim .inl fun q=>.inr (ob b q)
 refine⟨⟨r.defers,⟨r.slots.1.trans c.sl.1,fun i y hy=>?_⟩,⟨fun j o' ho=>?_,fun j hj=>?_,fun j hj=>?_,fun j1 o1 l1 j2 o2 l2 a1 a2 b1 b2 hb=>?_,H.xlt,fun b hb q=>H.xob b hb (ob b q)⟩⟩,
  ⟨rfl,rfl,rfl,gw _,fun id l hn hl=>by rw[at' id id (c.ident id hn)];exact hl,rfl,fun b _ q=>⟨rfl,fun z=>q (ob b z)⟩,fun b cc e fr hb=>⟨cc,fr,hb,rfl⟩⟩⟩
 ·have h2:=aI hy
  have h1:i<s.sl.length:=by rw[c.sl.1];exact h2
  obtain⟨z,z1,z2⟩:=r.slots.2 i _ (ga h1);exact⟨z,z1,c.sl.2 i _ _ (ga h1) hy w ι _ _ mt z z2⟩
 ·obtain⟨i,o,e1,e2,e3⟩:=old j o' ho
  obtain⟨l,cc,fr,h1,la⟩:=H.live i o e2;refine⟨l,cc,fr,by rw[at' j i e1];exact h1,⟨by rw[<-e3.elem];exact la.blk,by rw[<-e3.elem,<-e3.sz];exact la.unfrozen,by rw[<-e3.sz];exact la.sz,fun r' hr'=>?_,by rw[<-e3.sz,<-e3.len];exact la.fits,fun k hk m hm=>?_⟩⟩
  ·obtain⟨k,hk,e⟩:=gk hr'
   have hk1:k<o.rows.length:=by rw[e3.len];exact hk
   have u:=e3.rows k _ _ (ga hk1) (ga hk);rw[<-e,<-u.1,<-e3.sz];exact la.rows _ (ge hk1)
  ·have hk1:k<o.rows.length:=by rw[e3.len];exact hk
   have u:=e3.rows k _ _ (ga hk1) (ga hk);have hm1:m<o.rows[k].length:=by rw[u.1];exact hm
   obtain⟨z,z1,z2⟩:=la.reads k hk1 m hm1;exact⟨z,by rw[<-e3.sz];exact z1,u.2 m _ _ (ga hm1) (ga hm) w ι _ _ mt z z2⟩
 ·exfalso
  have hj':j<σ.length:=by rw[<-c.len];exact aI hj
  obtain⟨x,y,h1,h2,h3⟩:=c.h j σ[j] (ga hj');rw[hj]at h2;injection h2 with h2;subst h2;exact h3.1 rfl
 ·have:σ[j]? =none:=gi (by rw[<-c.len];exact hj)
  simp [Iota.ren,this]
 ·obtain⟨i1,p1,e1,e2,_⟩:=old j1 o1 a1
  obtain⟨i2,p2,f1,f2,_⟩:=old j2 o2 b1;rw[at' j1 i1 e1]at a2;rw[at' j2 i2 f1]at b2;have:=H.apart _ _ _ _ _ _ e2 a2 f2 b2 hb;subst this;have h1:=aI e1;have h2:=aI f1;rw[ga h1]at e1;injection e1 with e1;rw[ga h2]at f1;injection f1 with f1;have hpw:=List.pairwise_iff_getElem.1 c.inj;rcases Nat.lt_trichotomy j1 j2 with q|q|q
  ·exact absurd (e1.trans f1.symm) (hpw j1 j2 h1 h2 q)
  ·exact q
  ·exact absurd (f1.trans e1.symm) (hpw j2 j1 h2 h1 q)
def AT (n:Nat) (s s':St):Prop:=∀ {ι:Iota} {a:Act} {w:World},SR s ι a w->∃ι',SR s' ι' a w/\EvN n s.h ι w s'.h ι' w
theorem AT.trans {n:Nat} {a b c:St} (h1:AT n a b) (h2:AT n b c):AT n a c:=fun r=>by
 obtain⟨ι1,r1,e1⟩:=h1 r;obtain⟨ι2,r2,e2⟩:=h2 r1;exact⟨ι2,r2,e1.trans e2⟩
theorem CutR.cs {n:Nat} {σ:List Nat} {s s':St} (c:CutR n σ s s'):AT n s s':=fun r=>⟨_,c.apply r⟩
section
variable {n:Nat} {P:Program} {Q:Exit->St->Prop} {s:St}
theorem PV.loopR {c:Code} {α:Type} (S:α->St) (J:α->Prop) (μ:α->Nat) (x0:α)
  (h0:AT n s (S x0)) (h3:J x0)
  (round:∀x,J x->PV n P c (S x) (qAQ (fun s'=>∃y,AT n s' (S y)/\J y/\μ y<μ x) Q)):PV n P (.loop c) s Q:=by
 have main:PV n P (.loop c) (S x0) Q:=by
  intro ι a w r;let I:Nat->Act->World->Prop:=fun m a' w'=>∃x ι',μ x=m/\J x/\SR (S x) ι' a' w'/\EvN n (S x0).h ι w (S x).h ι' w'
  have dec:∀a' w',∃m,((∃n,I n a' w')->I m a' w'/\∀n,I n a' w'->m<=n):=by
   intro a' w';by_cases hx:∃n,I n a' w'
   ·obtain⟨n,hn⟩:=hx
    induction n using Nat.strongRecOn with
    |_ n ih=>
     by_cases hlt:∃k,k<n/\I k a' w'
     ·obtain⟨k,hk,hj⟩:=hlt
      exact ih k hk hj
     ·refine⟨n,fun _=>⟨hn,fun k hk=>?_⟩⟩
      rcases gn k n with q|q
      ·exact absurd ⟨k,q,hk⟩ hlt
      ·exact q
   ·exact⟨0,fun q=>absurd q hx⟩
  have hch:∃f:Act->World->Nat,∀a' w',(∃n,I n a' w')->I (f a' w') a' w'/\∀n,I n a' w'->f a' w'<=n:=
   ⟨fun a' w'=>kd (dec a' w'),fun a' w'=>gt (dec a' w')⟩
  obtain⟨f,hf⟩:=hch;refine wp_loop (fun a' w'=>∃n,I n a' w') f ⟨μ x0,x0,ι,rfl,h3,r,EvN.of (Evolve.refl _ _ _)⟩ ?_;intro a' w' hI;obtain⟨⟨x,ι',hm,hj,r',ev⟩,_⟩:=hf a' w' hI;refine wp_mono (round x hj ι' a' w' r') ?_;rintro e a2 w2 ⟨s2,ι2,q,r2,ev2⟩;cases e with
  |normal=>
   obtain⟨y,hc,hj',hlt⟩:=q;obtain⟨ι3,r3,ev3⟩:=hc r2;have hi:I (μ y) a2 w2:=⟨y,_,rfl,hj',r3,(ev.trans ev2).trans ev3⟩
   refine⟨⟨_,hi⟩,?_⟩;have:=(hf a2 w2 ⟨_,hi⟩).2 _ hi;omega
  |_=>exact⟨s2,ι2,q,r2,ev.trans ev2⟩
 intro ι a w r;obtain⟨ι2,r2,ev2⟩:=h0 r;refine wp_mono (main _ a w r2) ?_;rintro e a' w' ⟨s',ι',q,r',ev'⟩;exact⟨s',ι',q,r',ev2.trans ev'⟩
end
theorem PC.of_bodyK {P:Program} {f:FuncId} {fn:Func} {c:Code} {args:List V} {h:Heap} {R:V->Heap->Prop} (hf:P.funcs[f]? =some fn) (hb:fn.body=some c) (sl:List V)
  (e0:args++List.replicate (fn.ntmps-args.length) (.v undef)=sl)
  (hp:∀K:Exit->St->Prop,(∀(e:Exit) (s':St) (x:V),(e = .normal\/e = .ret)->ares P fn.results.toList s'.sl s'.h=some x->R x s'.h->K e s')->PW P c ⟨sl,h⟩ K):PC P f args h R:=by
 subst e0;exact PC.of_body hf hb (hp _ fun e s' x h1 h2 h3=>⟨h1,x,h2,h3⟩)
theorem PC.of_bodyV {P:Program} {f:FuncId} {fn:Func} {c:Code} {args:List V} {h:Heap} {R:V->Heap->Prop} (hf:P.funcs[f]? =some fn) (hb:fn.body=some c) (sl:List V)
  (e0:args++List.replicate (fn.ntmps-args.length) (.v undef)=sl)
  (hp:∀K:Exit->St->Prop,(∀(e:Exit) (s':St) (x:V),(e = .normal\/e = .ret)->ares P fn.results.toList s'.sl s'.h=some x->R x s'.h->K e s')->PV h.length P c ⟨sl,h⟩ K):PC P f args h R:=by
 refine PC.of_bodyK hf hb sl e0 (fun K hK=>?_);intro ι a w r;refine wp_mono (hp K hK ι a w r) ?_;rintro e a' w' ⟨s',ι',q,r',ev⟩;exact⟨s',ι',q,r',ev.to r.heap⟩
theorem PV.regionL {n:Nat} {P:Program} {Q:Exit->St->Prop} {s:St} {id:Nat} {ops:Array Oper} (h:POL P ops ops.toList s (Q .normal)):PV n P (.region id ops false) s Q:=PV.of (PW.regionL h)
theorem PV.post {n:Nat} {P:Program} {Q:Exit->St->Prop} {s s2:St} {c:Code} (hp:∀ {ι:Iota} {a:Act} {w:World},SR s ι a w->∃ι',SR s2 ι' a w/\EvN n s.h ι w s2.h ι' w) (hr:PV n P c s2 Q):PV n P c s Q:=by
 intro ι a w r;obtain⟨ι',r2,ev⟩:=hp r;refine wp_mono (hr ι' a w r2) ?_;rintro e a' w' ⟨s3,ι3,q,r3,ev3⟩;exact⟨s3,ι3,q,r3,ev.trans ev3⟩
def lT:List Oper->List Nat
 | []=>[]
 |o::l=>match o.dst with
  |some d=>d::lT l
  |none=>lT l
def wr:Code->List Nat
 | .region _ ops _=>lT ops.toList
 | .seq a b=>wr a++wr b
 | .cond _ a b=>wr a++wr b
 | .block _ a=>wr a
 | .loop a=>wr a
 |_=>[]
theorem AN:∀ {l:List Oper} {o:Oper},o∈l->∀d,o.dst=some d->d∈lT l
 | [],_,h,_,_=>(List.not_mem_nil h).elim
 |p::l,o,h,d,hd=>by
  rcases gc.1 h with q|q
  ·subst q;simp [lT,hd]
  ·have:=AN q d hd
   simp only[lT];split
   ·exact List.mem_cons_of_mem _ this
   ·exact this
theorem SR.setLE {sl:List V} {h:Heap} {ι:Iota} {a:Act} {w:World} {d:Nat} {x y:V} (r:SR ⟨sl,h⟩ ι a w) (hd:sl[d]? =some x) (hl:LE x y):SR ⟨sl.set d y,h⟩ ι a w:=by
 refine⟨r.defers,⟨by have:=r.slots.1;simpa using this,fun i v hv=>?_⟩,r.heap⟩;simp only[List.getElem?_set]at hv;split at hv
 ·rename_i q;subst q
  split at hv
  ·injection hv with hv;subst hv
   obtain⟨z,z1,z2⟩:=r.slots.2 d x hd;exact⟨z,z1,hl z2⟩
  ·cases hv
 ·exact r.slots.2 i v hv
mutual
inductive frzV (p q:V):V->V->Prop
 |same {x:V}:frzV p q x x
 |it:frzV p q p q
 |agg {xs ys:List V}:frzVs p q xs ys->frzV p q (.agg xs) (.agg ys)
inductive frzVs (p q:V):List V->List V->Prop
 |nil:frzVs p q [] []
 |same {x:V} {xs ys:List V}:frzVs p q xs ys->frzVs p q (x::xs) (x::ys)
 |cons {x y:V} {xs ys:List V}:frzV p q x y->frzVs p q xs ys->frzVs p q (x::xs) (y::ys)
end
theorem frzVs.len {p q:V}:∀ {xs ys:List V},frzVs p q xs ys->xs.length=ys.length
 |_,_,.nil=>rfl
 |_,_,.same h=>congrArg (· +1) h.len
 |_,_,.cons _ h=>congrArg (· +1) h.len
mutual
theorem frzV.rep {w:World} {ι:Iota} {M:Nat->Prop} {p q:V} (hs:∀ {y:Value},Rep w ι M p y->Rep w ι M q y):∀ {x y:V},frzV p q x y->∀ {z:Value},Rep w ι M x z->Rep w ι M y z
 |_,_,.same,z,r=>r
 |_,_,.it,z,r=>hs r
 |_,_,.agg h,z,r=>by
  cases r with
  |agg _ vs hl hr=>exact .agg _ vs (by rw[<-h.len];exact hl) (fun i h1 h2=>(h.rep hs i (by rw[h.len];exact h1) h1).2 (hr i (by rw[h.len];exact h1) h2))
theorem frzVs.rep {w:World} {ι:Iota} {M:Nat->Prop} {p q:V} (hs:∀ {y:Value},Rep w ι M p y->Rep w ι M q y):∀ {xs ys:List V},frzVs p q xs ys->∀(i:Nat) (h1:i<xs.length) (h2:i<ys.length),True/\(∀ {z:Value},Rep w ι M xs[i] z->Rep w ι M ys[i] z)
 |_,_,.nil,i,h1,h2=>by simp at h1
 |_,_,.same h,0,h1,h2=>⟨trivial,fun{z} r=>r⟩
 |_,_,.cons u h,0,h1,h2=>⟨trivial,fun{z} r=>u.rep hs r⟩
 |_,_,.same h,i+1,h1,h2=>by simpa using h.rep hs i (by simpa using h1) (by simpa using h2)
 |_,_,.cons u h,i+1,h1,h2=>by simpa using h.rep hs i (by simpa using h1) (by simpa using h2)
end
theorem qKH {s:St} {ι:Iota} {a:Act} {w:World} (r:SR s ι a w) {id sz:Nat} {rows:List (List V)} {e:El} (ho:s.h[id]? =some (.live ⟨sz,rows,e⟩)) {y:Value} (ry:Rep w ι (Mt (s.h.set id .dead) ι) (.sO id 0 rows.length) y):Rep w ι (Mt (s.h.set id .dead) ι) (.sF sz rows) y:=by
 obtain⟨H1,ev⟩:=HRel.kill r.heap ho;obtain⟨l,c,fr,h1,la⟩:=r.heap.live id _ ho;have hidlt:=aI ho;have hnot:¬Mt (s.h.set id .dead) ι l.blk:=by
  rintro(q|⟨k,o',l',k1,k2,k3⟩)
  ·exact r.heap.xob _ q ⟨id,_,l,ho,h1,rfl⟩
  ·have hk:k≠id:=by intro q;subst q;rw[gb hidlt]at k1;cases k1
   rw[gg (Ne.symm hk)]at k1;exact hk (r.heap.apart _ _ _ _ _ _ k1 k2 ho h1 k3)
 cases ry with
 |sO _ _ _ cap l2 c2 e2 fr2 hl hcap hb hsz=>
  rw[h1]at hl;injection hl with hl;subst hl;have hls:l.sz=sz:=la.sz;have hblk:l.blk<w.heap.size:=r.heap.blk_lt ⟨id,_,l,ho,h1,rfl⟩;have hch:∀i,(hi:i<rows.length)->∀j,(hj:j<rows[i].length)->∃x,c[l.base+i*sz+j]? =some x/\Rep w ι (Mt s.h ι) rows[i][j] x:=la.reads;have hch2:∃cells:Nat->Nat->Value,∀i,(hi:i<rows.length)->∀j,(hj:j<rows[i].length)->c[l.base+i*sz+j]? =some (cells i j)/\Rep w ι (Mt s.h ι) rows[i][j] (cells i j):=by
   refine⟨fun i j=>if h:∃(hi:i<rows.length) (hj:j<rows[i].length),True then kd (hch i h.1 j h.2.1)else undef,fun i hi j hj=>?_⟩;have hx:∃(hi:i<rows.length) (hj:j<rows[i].length),True:=⟨hi,hj,trivial⟩
   simp only[dif_pos hx];exact gt (hch i hi j hj)
  obtain⟨cells,hcells⟩:=hch2;refine .sF sz rows ⟨l.blk,l.base+0*l.sz,none⟩ cap cells (fun _=>⟨rfl,hblk,hnot⟩) hcap (fun r' hr'=>la.rows r' hr') (fun i hi j hj=>?_) (fun i hi j hj=>?_)
  ·have:=(hcells i hi j hj).1
   simp only[World.cell?,la.blk];simp only[Nat.zero_mul,gy];simpa using this
  ·exact((hcells i hi j hj).2.mono ev)
theorem IU {s:St} {ι:Iota} {a:Act} {w:World} (r:SR s ι a w) {id sz:Nat} {rows:List (List V)} {e:El} (ho:s.h[id]? =some (.live ⟨sz,rows,e⟩)) (hr:NIr 0 rows) {sl:List V} (hs:frzVs (.sO id 0 rows.length) (.sF sz rows) s.sl sl) :
  SR ⟨sl,s.h.set id .dead⟩ ι a w/\Evolve s.h ι w (s.h.set id .dead) ι w:=by
 obtain⟨H1,ev⟩:=HRel.kill r.heap ho;have hsO:∀ {y:Value},Rep w ι (Mt (s.h.set id .dead) ι) (.sO id 0 rows.length) y->Rep w ι (Mt (s.h.set id .dead) ι) (.sF sz rows) y:=fun ry=>qKH r ho ry
 refine⟨⟨r.defers,⟨r.slots.1.trans hs.len,fun i y hy=>?_⟩,H1⟩,ev⟩;have h2:=aI hy;have h0:i<s.sl.length:=by rw[hs.len];exact h2
 rw[ga h2]at hy;injection hy with hy;subst hy;obtain⟨z,z1,z2⟩:=r.slots.2 i _ (ga h0);exact⟨z,z1,(hs.rep hsO i h0 h2).2 (z2.mono ev)⟩
def qYP (W:List Nat) (o:Op) (sl:List V) (h:List XO):Option (Nat×V×Nat×Bool):=match o with
 | .store _ p x=>match x with
   | .tmp d=>match aev sl p with
     | .pO j _ _=>match h[j]? with
       |some (.tl _ _ _)|some (.opt _ _ _)|some (.ob _ _ _)=>match sl[d]? with
        |some (.oL id n)=>match h[id]? with
         |some (.opt ty l _)=>if W.any (gm d)then some (d,.sL ty l,id,decide (n=l.length))else none
         |_=>none
        |_=>none
       |_=>none
     |_=>none
   |_=>none
 | .buildSlice _ _ ps=>match ps.toList with
   | [(_,.tmp d)]=>match sl[d]? with
     |some (.oL id n)=>match h[id]? with
      |some (.opt ty l _)=>if W.any (gm d)then some (d,.sL ty l,id,decide (n=l.length))else none
      |_=>none
     |_=>none
   |_=>none
 | .call c=>match c.args.toList with
   | [.tmp e,.tmp d]=>match sl[e]? with
     |some (.agg _)=>match sl[d]? with
      |some (.oL id n)=>match h[id]? with
       |some (.opt ty l _)=>if W.any (gm d)then some (d,.sL ty l,id,decide (n=l.length))else none
       |_=>none
      |_=>none
     |_=>none
   |_=>none
 | .build _ ps=>match ps.toList with
   | [(_,.const _),(_,.tmp d)]=>match sl[d]? with
     |some (.sO id 0 n)=>match h[id]? with
      |some (.tl ty l _)=>if W.any (gm d)then some (d,.sL ty l,id,decide (n=l.length))else none
      |_=>none
     |_=>none
   |_=>none
 |_=>none
theorem qD0 (t:Ty) (l:List t.den):NIr 0 (l.map t.row):=by
 have key:∀(t:Ty) (a:t.den) (r:List V),(∀x,x∈r->NI 0 x)->∀x,x∈t.cells a r->NI 0 x:=by
  intro t;induction t with
  |int k=>intro a r hr x hx;rcases gc.1 hx with q|q;exact q ▸ .v _;exact hr x q
  |bool=>intro a r hr x hx;rcases gc.1 hx with q|q;exact q ▸ .v _;exact hr x q
  |str=>intro a r hr x hx;rcases gc.1 hx with q|q;exact q ▸ .v _;exact hr x q
  |list t _=>intro a r hr x hx;rcases gc.1 hx with q|q;exact q ▸ .sL _ _;exact hr x q
  |pair a b iha ihb=>intro y r hr x hx;exact iha y.1 _ (ihb y.2 r hr) x hx
 intro r hr x hx;obtain⟨a,_,rfl⟩:=List.mem_map.1 hr;exact key t a [] (fun x h=>by cases h) x hx
theorem SN {p q:V}:∀(l:List V) (d:Nat),l[d]? =some p->frzVs p q l (l.set d q)
 | [],d,h=>by simp at h
 |x::l,0,h=>by
  have:x=p:=by simpa using h
  subst this;exact .cons .it (by
   have:∀l:List V,frzVs x q l l:=fun l=>by induction l with
    |nil=>exact .nil
    |cons y l ih=>exact .same ih
   exact this l)
 |x::l,d+1,h=>.same (SN l d (by simpa using h))
theorem OP {sl:List V} {h:List XO} {d i0 n:Nat} {ty:Ty} {l:List ty.den} {et:El} (hd:sl[d]? =some (.oL i0 n)) (ho:h[i0]? =some (.opt ty l et)) (hn:n=l.length) {ι:Iota} {a:Act} {w:World} (r:SR ⟨sl,dens h⟩ ι a w) :
  SR ⟨sl.set d (.sL ty l),dens (h.set i0 (.raw .dead))⟩ ι a w/\Evolve (dens h) ι w (dens (h.set i0 (.raw .dead))) ι w:=by
 subst hn;rw[aX];by_cases h0:l= []
 ·subst h0
  have hden:(dens h)[i0]? =some HS.dead:=by rw[aJ,ho];rfl
  have hset:(dens h).set i0 (XO.raw .dead).den=dens h:=by
   show(dens h).set i0 .dead=dens h;rw[<-(List.getElem?_eq_some_iff.1 hden).2,gq]
  rw[hset];exact⟨r.setLE hd (fun q=>by cases q with|oL _ _ _ q=>cases q;exact .sL _ _ _ (.sN _)),Evolve.refl _ _ _⟩
 ·have hl0:l.length≠0:=fun q=>h0 (gh.1 q)
  have hden:(dens h)[i0]? =some (.live ⟨ty.size,l.map ty.row,et⟩):=by rw[aJ,ho];simp [XO.den,h0]
  have r1:=r.setLE hd (y:=.sO i0 0 l.length) (fun q=>by cases q with|oL _ _ _ q=>simpa [hl0]using q);have hlt:=aI hd;have hs:=SN (p:=.sO i0 0 (l.map ty.row).length) (q:=.sF ty.size (l.map ty.row)) (sl.set _ (.sO i0 0 l.length)) _ (by rw[List.length_map];exact gb hlt);obtain⟨r2,ev⟩:=IU r1 hden (qD0 ty l) hs;rw[gp]at r2;refine⟨?_,ev⟩;have r3:=r2.setLE (y:=.sL ty l) (gb hlt) (fun q=>.sL _ _ _ q);rw[gp]at r3;exact r3
theorem qB8 {sl:List V} {h:List XO} {d i0 n:Nat} {ty:Ty} {l:List ty.den} {et:TypeId} (hd:sl[d]? =some (.sO i0 0 n)) (ho:h[i0]? =some (.tl ty l et)) (hn:n=l.length) {ι:Iota} {a:Act} {w:World} (r:SR ⟨sl,dens h⟩ ι a w) :
  SR ⟨sl.set d (.sL ty l),dens (h.set i0 (.raw .dead))⟩ ι a w/\Evolve (dens h) ι w (dens (h.set i0 (.raw .dead))) ι w:=by
 subst hn;rw[aX];have hden:(dens h)[i0]? =some (.live ⟨ty.size,l.map ty.row,et⟩):=by rw[aJ,ho];rfl
 have hlt:=aI hd;have hs:=SN (p:=.sO i0 0 (l.map ty.row).length) (q:=.sF ty.size (l.map ty.row)) sl d (by rw[List.length_map];exact hd);obtain⟨r2,ev⟩:=IU r hden (qD0 ty l) hs;have r3:=r2.setLE (y:=.sL ty l) (gb hlt) (fun q=>.sL _ _ _ q);rw[gp]at r3;exact⟨r3,ev⟩
def qa6:V->Bool
 | .oL _ _=>true
 | .sO _ _ _=>true
 |_=>false
theorem qTT {W:List Nat} {o:Op} {sl:List V} {h:List XO} {d id:Nat} {x:V} {c:Bool} (e:qYP W o sl h=some (d,x,id,c)) (hc:c=true) :
  d∈W/\(∃z,sl[d]? =some z/\qa6 z=true)/\∀ {ι:Iota} {a:Act} {w:World},SR ⟨sl,dens h⟩ ι a w->∃ι',SR ⟨sl.set d x,dens (h.set id (.raw .dead))⟩ ι' a w/\Evolve (dens h) ι w (dens (h.set id (.raw .dead))) ι' w:=by
 unfold qYP at e;repeat' split at e
 all_goals first|(cases e;done)|skip
 all_goals
  rename_i i0 n hd _ ty l et ho hW;injection e with e;injection e with e1 e2;injection e2 with e2 e3;injection e3 with e3 e4;subst e1 e2 e3 e4;have hn:=of_decide_eq_true hc;subst hn;refine⟨?_,⟨_,hd,rfl⟩,fun{ι a w} r=>⟨ι,?_⟩⟩
  ·obtain⟨k,hk,hq⟩:=List.any_eq_true.1 hW
   have:=gr hq;subst this;exact hk
  ·first|exact OP hd ho rfl r|exact qB8 hd ho rfl r
def qeG:XO->Bool
 | .row1 _ _ _ _ _=>true
 |_=>false
def WI (P:Program) (o:Op) (sl:List V) (h:List XO):Option (List Bool×Nat×Nat×XO):=match o with
 | .store t p x=>match aev sl p,aev sl x with
   | .pO j r off,.oL id n=>match h[j]?,h[id]? with
     |some oj,some (.opt ty l _)=>match dstore P [oj] t (.pO 0 r off) (.sL ty l)with
      |some (cs,_,[oj'])=>match gm j id||qeG oj with
       |true=>none
       |false=>some (decide (n=l.length)::cs,j,id,oj')
      |_=>none
     |_,_=>none
   |_,_=>none
 |_=>none
theorem qJ8 {P:Program} {h:List XO} {t:TypeId} {j r off:Nat} {x z:V} {oj oj':XO} {cs:List Bool} (hj:h[j]? =some oj) (e:dstore P [oj] t (.pO 0 r off) x=some (cs,z,[oj'])):dstore P h t (.pO j r off) x=some (cs,z,h.set j oj'):=by
 unfold dstore at e ⊢;cases hlv:leaves x with
 |none=>simp [hlv]at e
 |some ls=>
  cases hsz:cP P t with
  |none=>simp [hlv,hsz]at e
  |some n=>
   simp only[hlv,hsz,List.getElem?_cons_zero]at e;simp only[hj];repeat' split at e
   all_goals first|(cases e;done)|skip
   all_goals(simp only[List.set_cons_zero,Option.some.injEq,Prod.mk.injEq,List.cons.injEq,and_true]at e;obtain⟨rfl,rfl,rfl⟩:=e)
   all_goals simp_all
theorem qTD {P:Program} {o:Oper} {sl:List V} {h:List XO} {cs:List Bool} {j id:Nat} {oj':XO} (e:WI P o.op sl h=some (cs,j,id,oj')) (hc:dK cs) {ι:Iota} {a:Act} {w:World} (r:SR ⟨sl,dens h⟩ ι a w) :
  OS P (dens h) ι w (execOp a.eval o) (some (.any,dens ((h.set id (.raw .dead)).set j oj'))):=by
 unfold WI at e;split at e
 ·rename_i t p x hop
  split at e
  ·rename_i j0 rr off id0 n hp hx
   split at e
   ·rename_i oj ty l et hj hid
    split at e
    ·rename_i cs' z oj0 hs
     split at e
     ·cases e
     ·rename_i hne
      injection e with e;injection e with e1 e2;injection e2 with e2 e3;injection e3 with e3 e4;subst e1 e2 e3 e4;have hne:j0≠id0:=Nat.ne_of_beq_eq_false (Bool.or_eq_false_iff.1 hne).1;obtain⟨hn,hc'⟩:=aF hc;have hn:=of_decide_eq_true hn;cases x with
      |tmp d=>
       have hd:sl[d]? =some (.oL id0 n):=by
        simp only[aev,ke]at hx;cases q:sl[d]? with
        |none=>rw[q]at hx;cases hx
        |some v=>rw[q]at hx;exact congrArg some hx
       obtain⟨r2,ev⟩:=OP hd hid hn r;have hp2:aev (sl.set d (.sL ty l)) p = .pO j0 rr off:=by
        rw[<-hp];cases p with
        |tmp q=>
         have hq:q≠d:=by
          intro q2;subst q2;simp only[aev,ke,hd]at hp;cases hp
         simp only[aev,ke,gg (Ne.symm hq)]
        |_=>rfl
       have hx2:aev (sl.set d (.sL ty l)) (.tmp d) = .sL ty l:=by
        simp only[aev,ke,gb (aI hd)];rfl
       have hj2:(h.set id0 (.raw .dead))[j0]? =some oj:=by rw[gg (Ne.symm hne)];exact hj
       have hst:=qJ8 hj2 hs;have hst2:dstore P (h.set id0 (.raw .dead)) t (aev (sl.set d (.sL ty l)) p) (aev (sl.set d (.sL ty l)) (.tmp d))=some (cs',z,(h.set id0 (.raw .dead)).set j0 oj0):=by rw[hp2,hx2];exact hst
       have hao:=OM (new:=0) hst2 hc';rw[<-hop]at hao;have hos:=hao.os r2.heap (fun y=>eV r2.slots y);intro y h' ee;injection ee with ee;injection ee with ee1 ee2;subst ee1 ee2;obtain⟨y,w',ι',q1,_,q3,q4⟩:=hos _ _ rfl;exact⟨y,w',ι',q1,.any _,q3,ev.trans q4⟩
      |const c=>simp only[aev]at hx;cases c<;>cases hx
      |global g=>cases hx
      |func f=>cases hx
    ·cases e
   ·cases e
  ·cases e
 ·cases e
end Go.Abs
