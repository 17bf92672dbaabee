import Derived.Test.YtcjiefknhfhmkaaGreatDoorM04
open List renaming getElem?_set_ne -> ga, mem_cons_of_mem -> gb, getElem?_append_left -> ge, mem_cons_self -> gg, mem_append -> gh, mem_cons -> gj, replicate -> gk, all_eq_true -> gl, mem_flatMap -> gm, flatMap_cons -> gn, not_mem_nil -> go, getElem?_eq_getElem -> gp, length_eq_zero_iff -> gq, getElem?_cons_zero -> gr, getElem?_cons_succ -> gt, getElem?_set_self -> gx, append_nil -> gy, set_getElem_self -> gz, getElem?_eq_none -> ht, take_succ_cons -> kb, mem_map -> ke
open Nat renaming zero_add -> gc, le_refl -> gf, beq -> gw, lt_of_lt_of_le -> kc, add_zero -> kd
open Option renaming bind_some -> gu
open Array renaming mem_toList_iff -> ka
namespace Go.Abs
set_option maxRecDepth 100000
set_option maxHeartbeats 4000000
set_option linter.unusedVariables false
set_option linter.unusedSimpArgs false
structure Kern (c:Bool):Prop where
 out:c=true
structure Side (p:Prop):Prop where
 out:p
inductive CK where
 |same
 |val (t:Ty)
 |own (t:Ty) (e:El)
 |ows (t:Ty) (e:TypeId)
 |osf (id:Nat)
@[reducible] def aB:List CK->List Ty
  | []=>[]
  | .same::ks=>aB ks
  | .val t::ks=>t::aB ks
  | .own t _::ks=>.list t::aB ks
  | .ows t _::ks=>.list t::aB ks
  | .osf _::ks=>.bool::aB ks
inductive GK where
 |sl (d:Nat) (t:Ty)
 |lst (d:Nat) (t:Ty) (e:El)
 |nls (d:Nat) (t:Ty) (e:TypeId)
 |ob (id:Nat) (t:Ty) (e:TypeId)
 |ar (id:Nat) (t:Ty) (e:TypeId)
 |op (id:Nat) (t:Ty) (e:El)
 |row (id:Nat) (ks:List CK)
@[reducible] def qM4:List Ty->List Ty->List Ty
  | [],b=>b
  |t::a,b=>t::qM4 a b
@[reducible] def gts:List GK->List Ty
  | []=>[]
  | .sl _ t::g=>t::gts g
  | .lst _ t _::g=>.list t::gts g
  | .nls _ t _::g=>.list t::gts g
  | .ob _ t _::g=>t::gts g
  | .ar _ t _::g=>.list t::gts g
  | .op _ t _::g=>.list t::gts g
  | .row _ ks::g=>qM4 (aB ks) (gts g)
def vB:(a b:List Ty)->Tup (qM4 a b)->Tup a×Tup b
 | [],_,y=>((),y)
 |_::a,b,(x,y)=>match vB a b y with
  |(p,q)=>((x,p),q)
def aC:(a b:List Ty)->Tup a->Tup b->Tup (qM4 a b)
 | [],_,_,y=>y
 |_::a,b,(x,p),y=>(x,aC a b p y)
theorem KN:∀(a b:List Ty) (x:Tup a) (y:Tup b),vB a b (aC a b x y)=(x,y)
 | [],_,_,_=>rfl
 |_::a,b,(x,p),y=>by simp only[aC,vB,KN a b p y]
inductive LA where
 |mk (g:List GK) (inv:Tup (gts g)->Prop) (mu:Tup (gts g)->Nat) (next:Tup (gts g)->List (Nat×Nat×LA))
structure Y where
 sl:List V
 h:List XO
 tch:List Nat
 an:List (Nat×Nat×LA)
def Y.den (s:Y):St:=⟨s.sl,dens s.h⟩
structure Env where
 P:Program
 T:Tbl
 n0:Nat
 fid:Nat
 flip:List (Nat×Nat×Nat)
 inl:FuncId->List V->Y->(V->Y->Prop)->Prop
def find (l:List (Nat×Nat×LA)) (f k:Nat):Option LA:=match l with
 | []=>none
 |(a,b,x)::r=>if gw a f&&gw b k then some x else find r f k
def flips (l:List (Nat×Nat×Nat)) (f r i:Nat):Bool:=match l with
 | []=>false
 |(a,b,c)::q=>(gw a f&&gw b r&&gw c i)||flips q f r i
structure Fr (s s':Y):Prop where
 len:s.h.length<=s'.h.length
 tch:∀j,j∈s.tch->j∈s'.tch
 h:∀j,j<s.h.length->¬j∈s'.tch->s'.h[j]? =s.h[j]?
theorem Fr.refl (s:Y):Fr s s:=⟨gf _,fun _ h=>h,fun _ _ _=>rfl⟩
theorem Fr.trans {a b c:Y} (h1:Fr a b) (h2:Fr b c):Fr a c:=
 ⟨Nat.le_trans h1.len h2.len,fun j h=>h2.tch j (h1.tch j h),fun j hj hn=>(h2.h j (kc hj h1.len) hn).trans (h1.h j hj (fun q=>hn (h2.tch j q)))⟩
def kR:List XO->Nat->XO->(List XO->Prop)->Prop:=fun l=>List.rec (motive:=fun _=>Nat->XO->(List XO->Prop)->Prop) (fun _ _ k=>k [])
 (fun a r ih d x k=>Nat.rec (motive:=fun _=>Prop) (k (x::r)) (fun d _=>ih d x fun r=>k (a::r)) d) l
theorem cJ:∀(l:List XO) (d:Nat) (x:XO) (k:List XO->Prop),kR l d x k=k (l.set d x)
 | [],_,_,_=>rfl
 |_::_,0,_,_=>rfl
 |a::r,d+1,x,k=>cJ r d x fun r=>k (a::r)
def qYW (j:Option Nat) (h:List XO) (k:List XO->Prop):Prop:=match j with
 |some j=>kR h j (.raw .dead) k
 |none=>k h
theorem qE1 (j:Option Nat) (h:List XO) (k:List XO->Prop):qYW j h k=k (dO h j):=by
 cases j with
 |none=>rfl
 |some j=>exact cJ _ _ _ _
def qYQ (j:Option Nat) (e:TypeId) (l:List Int) (h:List XO) (k:List XO->Prop):Prop:=match j with
 |some j=>kR h j (.opt (.int .u8) l ⟨e,l.length-1+2⟩) k
 |none=>k h
theorem qEM (j:Option Nat) (e:TypeId) (l:List Int) (h:List XO) (k:List XO->Prop):qYQ j e l h k=k (zD h e l j):=by
 cases j with
 |none=>rfl
 |some j=>exact cJ _ _ _ _
theorem DX {h:List XO} {e:TypeId} {l:List Int} {j:Option Nat}:(zD h e l j).length=h.length:=by cases j<;>simp [zD]
theorem WS {h:List XO} {e:TypeId} {l:List Int} {j:Option Nat} {x:Nat} (hy:∀y,j=some y->y≠x):(zD h e l j)[x]? =h[x]?:=by
 cases j with
 |none=>rfl
 |some j=>exact ga (hy j rfl)
def kE (j:Option Nat) (l:List Nat):List Nat:=match j with
 |some j=>j::l
 |none=>l
theorem vP {h:List XO} {j:Option Nat} {k:Nat} (hk:∀i,j=some i->i≠k):(dO h j)[k]? =h[k]?:=by
 cases j with
 |none=>rfl
 |some i=>exact ga (hk i rfl)
theorem oY (h:List XO) (j:Option Nat):(dO h j).length=h.length:=by cases j<;>simp [dO]
def JS {ps:List Ty} (pre:Option (Cu ps Prop)) (x:Tup ps) (A:Prop):Prop:=match pre with
 |none=>A
 |some p=>rG ps p x fun p=>p/\A
theorem jO {ps:List Ty} {pre:Option (Cu ps Prop)} {x:Tup ps} {A:Prop} (h:JS pre x A):(∀p,pre=some p->cu ps p x)/\A:=by
 cases pre with
 |none=>exact⟨fun p q=>(by cases q),h⟩
 |some p=>
  simp only[JS,eM]at h;exact⟨fun q e=>(by injection e with e;subst e;exact h.1),h.2⟩
def YC {t:Ty} {ps:List Ty} (pre:Option (t.den->Cu ps Prop)) (a:t.den) (x:Tup ps) (A:Prop):Prop:=match pre with
 |none=>A
 |some p=>rG (t::ps) p (a,x) fun p=>p/\A
theorem pJ {t:Ty} {ps:List Ty} {pre:Option (t.den->Cu ps Prop)} {a:t.den} {x:Tup ps} {A:Prop} (h:YC pre a x A):(∀p,pre=some p->cu ps (p a) x)/\A:=by
 cases pre with
 |none=>exact⟨fun p q=>(by cases q),h⟩
 |some p=>
  simp only[YC,eM]at h;exact⟨fun q e=>(by injection e with e;subst e;exact h.1),h.2⟩
def xcall (E:Env) (f:FuncId) (args:List V) (s:Y) (K:V->Y->Prop):Prop:=
 match s with
 |⟨sl,h,tch,an⟩=>match look E.T f with
 |some (.fn ps pre res)=>(match rdA (cN 8) ps args with
  |some x=>JS pre x (rG ps res x fun r=>fV r.val fun v=>K v ⟨sl,h,tch,an⟩)
  |none=>match rdA (rdH h 0) ps args with
   |some x=>rG ps res x fun r=>(match r.flat with
    |true=>JS pre x (needs (lens h args) (fV r.val fun v=>K v ⟨sl,h,tch,an⟩))
    |false=>False)
   |none=>False)
 |some (.meth t e ps pre res post)=>(match args with
  | .pO j 0 0::rest=>match h[j]? with
    |some o=>(match LP t e o,rdA (cN 8) ps rest with
     |some a,some x=>YC pre a x (rG (t::ps) res (a,x) fun r=>fV r.val fun v=>rG (t::ps) post (a,x) fun b=>kR h j (.ob t b e) fun h=>K v ⟨sl,h,j::tch,an⟩)
     |_,_=>False)
    |_=>False
  |_=>False)
 |some (.new t e ps pre post)=>(match rdA (cN 8) ps args with
  |some x=>JS pre x (rG ps post x fun b=>fN h.length fun n=>fH (h++ [XO.ob t b e]) fun h=>K (.pO n 0 0) ⟨sl,h,tch,an⟩)
  |none=>False)
 |some (.nl t e ps pre post)=>(match rdA (cN 8) ps args with
  |some x=>JS pre x (rG ps post x fun b=>fN h.length fun n=>fH (h++ [XO.tl t b e]) fun h=>K (.sO n 0 b.length) ⟨sl,h,tch,an⟩)
  |none=>False)
 |some (.srt t pre g ret)=>(match args with
  | .oL j n::rest=>(match rest with
    | []=>(match h[j]? with
      |some (.opt _ l0 ⟨e,0⟩)=>(match fR (t':=t) l0 with
       |some l=>JS (ps:=[.list t]) pre (l,()) (need (decide (n=l.length)) (rG [.list t] g (l,()) fun b=>kR h j (.opt t b e) fun h=>match ret with
        |true=>K (.oL j b.length) ⟨sl,h,j::tch,an⟩
        |false=>K (.tup []) ⟨sl,h,j::tch,an⟩))
       |none=>False)
      |_=>False)
    |_=>False)
  | .sO j 0 n::rest=>(match rest with
    | []=>(match h[j]? with
      |some (.tl _ l0 e)=>(match fR (t':=t) l0 with
       |some l=>JS (ps:=[.list t]) pre (l,()) (need (decide (n=l.length)) (rG [.list t] g (l,()) fun b=>kR h j (.tl t b e) fun h=>match ret with
        |true=>K (.sO j 0 b.length) ⟨sl,h,j::tch,an⟩
        |false=>K (.tup []) ⟨sl,h,j::tch,an⟩))
       |none=>False)
      |_=>False)
    |_=>False)
  | .v (.slice none 0 0)::rest=>(match rest with
    | []=>(match ret with
      |true=>K (.v (.slice none 0 0)) ⟨sl,h,tch,an⟩
      |false=>K (.tup []) ⟨sl,h,tch,an⟩)
    |_=>False)
  |_=>False)
 |some (.grw t e)=>(match args with
  | .v (.slice none 0 0)::rest=>(match rest with
    | .v (.int .i64 n)::rest2=>(match rest2 with
      | []=>Side (0<=n/\n<=8796093022208)/\br (decide (0<n)) (fN h.length fun m=>fH (h++ [XO.tl t [] e]) fun h=>K (.sO m 0 0) ⟨sl,h,tch,an⟩) (K (.v (.slice none 0 0)) ⟨sl,h,tch,an⟩)
      |_=>False)
    |_=>False)
  |_=>False)
 |some (.rd t ps pre res)=>(match args with
  | .pO j 0 0::rest=>(match h[j]? with
    |some o=>(match zX h t o,rdA (cN 8) ps rest with
     |some (a,row),some x=>rG (t::ps) res (a,x) fun r=>(match r.flat with
      |true=>YC pre a x (needs (row.flatMap (fZ h)) (fV r.val fun v=>K v ⟨sl,h,tch,an⟩))
      |false=>False)
     |_,_=>False)
    |none=>False)
  | .pF row 0::rest=>(match un (cN 8) t row,rdA (cN 8) ps rest with
    |some (a,[]),some x=>YC pre a x (rG (t::ps) res (a,x) fun r=>fV r.val fun v=>K v ⟨sl,h,tch,an⟩)
    |_,_=>False)
  |_=>False)
 |some (.bld wr e eb)=>(match wr,args with
  |true,.pO i 0 0::rest=>(match rest with
   | .v (.string s)::rest2=>(match rest2 with
     | []=>fN h.length fun new=>fH (h++ [.raw .free]) fun h=>(match qT e eb h i with
       |some (_,cs,j,l,el)=>needs cs (need (decide (l.length+s.size<=70368744177664)) (kR h i (GI eb i new (l++aE s).length) fun h=>qYW j h fun h=>kR h new (.opt (.int .u8) (l++aE s) el) fun h=>fL (i::kE j tch) fun tch=>K (wrR s.size) ⟨sl,h,tch,an⟩))
       |none=>False)
     |_=>False)
   |_=>False)
  |false,.pO i 0 0::rest=>(match rest with
   | []=>(match qT e eb h i with
     |some (_,cs,j,l,_)=>needs cs (need (decide (l.length<=70368744177664)) (qYQ j e l h fun h=>fL (i::kE j tch) fun tch=>K (.v (.string (aT l))) ⟨sl,h,tch,an⟩))
     |none=>False)
   |_=>False)
  |_,_=>False)
 |none=>E.inl f args ⟨sl,h,tch,an⟩ K
def tK (E:Env):Prop:=∀f args s K,E.inl f args s K->PC E.P f args (dens s.h) (fun y k=>∃s':Y,s'.sl=s.sl/\k=dens s'.h/\Fr s s'/\K y s')
theorem PC.pre {P:Program} {f:FuncId} {args:List V} {h h':Heap} {R:V->Heap->Prop} (hp:∀ {ι:Iota} {w:World},HRel h ι w->HRel h' ι w/\Evolve h ι w h' ι w) (hc:PC P f args h' R):PC P f args h R:=by
 intro ι w vals hp2 H;obtain⟨H',ev⟩:=hp H;refine(hc ι w vals ⟨hp2.1,fun i x hx=>let ⟨y,y1,y2⟩:=hp2.2 i x hx;⟨y,y1,y2.mono ev⟩⟩ H').mono ?_;rintro e w' ⟨y,x,k,ι',h1,h2,h3,h4,ev'⟩;exact⟨y,x,k,ι',h1,h2,h3,h4,ev.trans ev'⟩
theorem Ty.ni_val (n:Nat) (t:Ty) (a:t.den):NI n (t.val a):=by
 cases t with
 |int k=>exact .v _
 |bool=>exact .v _
 |str=>exact .v _
 |list t=>exact .sL _ _
 |pair p q=>exact .agg (Ty.nis n (.pair p q) a [] (by intro _ h;cases h))
theorem qA4 (n:Nat):∀(ps:List Ty) (x:Tup ps),NIs n (vals ps x)
 | [],_=>fun _ h=>by cases h
 |t::ts,x=>fun v h=>by
  rcases gj.1 h with q|q
  ·subst q;exact t.ni_val n x.1
  ·exact qA4 n ts x.2 v q
theorem HRel.reserve1 {h:Heap} {ι:Iota} {w:World} (H:HRel h ι w):HRel (h++ [.free]) ι w/\Evolve h ι w (h++ [.free]) ι w:=by
 have r:SR ⟨[],h⟩ ι ⟨#[],[]⟩ w:=⟨rfl,⟨rfl,fun i x hx=>by simp at hx⟩,H⟩
 obtain⟨r1,ev⟩:=r.reserve 1;exact⟨r1.heap,ev⟩
theorem qSC {E:Env} (hT:aD E.P E.T) (hI:tK E) {f:FuncId} {args:List V} {s:Y} {K:V->Y->Prop} (h:xcall E f args s K) :
  PC E.P f args (dens s.h) (fun y k=>∃s':Y,s'.sl=s.sl/\k=dens s'.h/\Fr s s'/\K y s'):=by
 obtain⟨sl,hp0,tch,an⟩:=s;simp only[xcall]at h;split at h
 ·rename_i ps pre res hl
  have hc:=hT _ _ hl;split at h
  ·rename_i x hx
   obtain⟨hp,h⟩:=jO h;rw[eM,dD]at h;refine PC.args_LE (qE hx) (PC.mono ((hc x hp).2 (dens hp0) (fun _ q=>by cases q)) ?_);rintro y k ⟨rfl,rfl⟩;exact⟨⟨sl,hp0,tch,an⟩,rfl,rfl,Fr.refl _,h⟩
  ·split at h
   ·rename_i x hx
    rw[eM]at h;split at h
    ·rename_i hfl
     obtain⟨hp,h⟩:=jO h;obtain⟨hcs,h⟩:=bR h;rw[dD]at h;refine PC.mono (PC.read hfl (hc x hp) (qFW hx hcs)) ?_;rintro y k ⟨rfl,rfl⟩;exact⟨⟨sl,hp0,tch,an⟩,rfl,rfl,Fr.refl _,h⟩
    ·exact h.elim
   ·exact h.elim
 ·rename_i t e ps pre res post hl
  have hc:=hT _ _ hl;split at h
  ·rename_i j rest
   split at h
   ·rename_i xo ho
    split at h
    ·rename_i a x ha hx
     obtain⟨hp,h⟩:=pJ h;rw[eM,dD,eM,cJ]at h;obtain⟨o,o1,o2,o3,o4,o5⟩:=FL ha;have hd:(dens hp0)[j]? =some (.live o):=by rw[aJ,ho];simp [o1]
     have hlt:=aI hd;refine PC.pre (h':=(dens hp0).set j (TG t e a)) (fun{ι w} H=>H.weakObj hd o2.symm o3.symm o4 o5) ?_;refine PC.args_LE (LEs.cons (LE.refl _) (qE hx)) (PC.mono ((hc a x hp j).2 _ (fun p hp=>?_)) ?_)
     ·simp at hp;subst hp;rw[gx hlt]
     ·rintro y k ⟨rfl,rfl⟩
      refine⟨⟨sl,hp0.set j (.ob t (cu ps (post a) x) e),j::tch,an⟩,rfl,?_,⟨?_,?_,?_⟩,h⟩
      ·rw[aX];simp [bB,TG,XO.den]
      ·simp
      ·intro i hi;exact gb _ hi
      ·intro i hi hn
       exact ga (fun q=>hn (by rw[<-q];exact gg ..))
    ·exact h.elim
   ·exact h.elim
  ·exact h.elim
 ·rename_i t e ps pre post hl
  have hc:=hT _ _ hl;split at h
  ·rename_i x hx
   obtain⟨hp,h⟩:=jO h;rw[eM,iD,eQ]at h;refine PC.args_LE (qE hx) (PC.mono (hc x hp (dens hp0) hp0.length (dens hp0++ [.live ⟨t.size,[t.row (cu ps post x)],e⟩]) ?_) ?_)
   ·simp [halloc,dens]
   ·rintro y k ⟨rfl,rfl⟩
    refine⟨⟨sl,hp0++ [.ob t (cu ps post x) e],tch,an⟩,rfl,by rw[nN];rfl,⟨sm,fun _ q=>q,fun j hj _=>ge hj⟩,h⟩
  ·exact h.elim
 ·rename_i t e ps pre post hl
  have hc:=hT _ _ hl;split at h
  ·rename_i x hx
   obtain⟨hp,h⟩:=jO h;rw[eM,iD,eQ]at h;refine PC.args_LE (qE hx) (PC.mono (hc x hp (dens hp0) hp0.length (dens hp0++ [.live ⟨t.size,(cu ps post x).map t.row,e⟩]) ?_) ?_)
   ·simp [halloc,dens]
   ·rintro y k ⟨rfl,rfl⟩
    refine⟨⟨sl,hp0++ [.tl t (cu ps post x) e],tch,an⟩,rfl,by rw[nN];rfl,⟨sm,fun _ q=>q,fun j hj _=>ge hj⟩,h⟩
  ·exact h.elim
 ·rename_i t pre g ret hl
  have hc:SrtOk E.P f t (fun l=>∀p,pre=some p->p l) g ret:=hT _ _ hl;split at h
  ·rename_i j n rest
   split at h
   ·split at h
    ·rename_i t0 l0 e ho
     split at h
     ·rename_i l hcast
      obtain⟨et,el⟩:=gM hcast;subst et;subst el;obtain⟨hp,h⟩:=jO (ps:=[.list t0]) h;obtain⟨hn,h⟩:=(gB _ _).1 h;rw[eM,cJ]at h;have hn:=of_decide_eq_true hn;have hlt:=aI ho;have hg:cu [.list t0] g (l,())=g l:=rfl;rw[hg]at h;have hfr:Fr ⟨sl,hp0,tch,an⟩ ⟨sl,hp0.set j (.opt t0 (g l) e),j::tch,an⟩:=
       ⟨sm,fun i hi=>gb _ hi,fun i hi hni=>ga (fun q=>hni (by rw[<-q];exact gg ..))⟩
      have hend:∀y,y=(if ret=true then V.oL j (g l).length else .tup [])->∃s':Y,s'.sl=sl/\dens (hp0.set j (.opt t0 (g l) e))=dens s'.h/\Fr ⟨sl,hp0,tch,an⟩ s'/\K y s':=by
       intro y hy;refine⟨⟨sl,hp0.set j (.opt t0 (g l) e),j::tch,an⟩,rfl,rfl,hfr,?_⟩;subst hy;cases ret with
       |true=>simpa [iD]using h
       |false=>simpa using h
      have hoL:∀(j m:Nat),m=0->∀(M:Nat->Prop) (w:World) (ι:Iota) (z:Value),Rep w ι M (.v (.slice none 0 0)) z->Rep w ι M (.oL j m) z:=fun j m hm M w ι z q=>.oL _ _ _ (by rw[if_pos hm];exact q)
      have hoS:∀(j m:Nat),m≠0->∀(M:Nat->Prop) (w:World) (ι:Iota) (z:Value),Rep w ι M (.sO j 0 m) z->Rep w ι M (.oL j m) z:=fun j m hm M w ι z q=>.oL _ _ _ (by rw[if_neg hm];exact q)
      subst hn;by_cases h0:l= []
      ·subst h0
       have hd:dens (hp0.set j (.opt t0 (g []) e))=dens hp0:=by
        rw[aX,hc.nil];have:(dens hp0)[j]? =some (XO.opt t0 [] e).den:=by rw[aJ,ho];rfl
        rw[<-List.getElem?_eq_some_iff.1 this |>.2,gz]
       refine PC.args_LE (args':=[.v (.slice none 0 0)]) (LEs.cons (fun q=>by cases q with|oL _ _ _ q=>simpa using q) LEs.nil) ?_;refine PC.res_LE (PC.mono (hc.none _) ?_);rintro y k ⟨rfl,rfl⟩;obtain⟨s',a1,a2,a3,a4⟩:=hend _ rfl;refine⟨(if ret=true then V.oL j (g []).length else .tup []),?_,s',a1,by rw[<-a2,hd],a3,a4⟩;cases ret with
       |true=>
        simp only[if_true];exact fun q=>hoL _ _ (by rw[hc.nil];rfl) _ _ _ _ q
       |false=>exact LE.refl _
      ·have hl0:l.length≠0:=fun q=>h0 (gq.1 q)
       have hgl:(g l).length≠0:=fun q=>hc.cons l h0 (gq.1 q)
       have hden:∀(q:List t0.den),q≠ []->(XO.opt t0 q e).den = .live ⟨t0.size,q.map t0.row,e⟩:=fun q hl=>by simp [XO.den,hl]
       refine PC.args_LE (args':=[.sO j 0 l.length]) (LEs.cons (fun q=>by cases q with|oL _ _ _ q=>simpa [hl0]using q) LEs.nil) ?_;refine PC.res_LE (PC.mono (hc.some l (fun p q=>hp p q) (dens hp0) j e (by rw[aJ,ho,<-hden l h0];rfl)) ?_);rintro y k ⟨rfl,rfl⟩;obtain⟨s',a1,a2,a3,a4⟩:=hend _ rfl;refine⟨(if ret=true then V.oL j (g l).length else .tup []),?_,s',a1,by rw[<-a2,aX,hden _ (hc.cons l h0)],a3,a4⟩;cases ret with
       |true=>
        simp only[if_true];exact fun q=>hoS _ _ hgl _ _ _ _ q
       |false=>exact LE.refl _
     ·exact h.elim
    ·exact h.elim
   ·exact h.elim
  ·rename_i j n rest
   split at h
   ·split at h
    ·rename_i t0 l0 e ho
     split at h
     ·rename_i l hcast
      obtain⟨et,el⟩:=gM hcast;subst et;subst el;obtain⟨hp,h⟩:=jO (ps:=[.list t0]) h;obtain⟨hn,hK⟩:=(gB _ _).1 h;clear h;rw[eM,cJ]at hK;have hn:=of_decide_eq_true hn;have hg:cu [.list t0] g (l,())=g l:=rfl;rw[hg]at hK;have hfr:Fr ⟨sl,hp0,tch,an⟩ ⟨sl,hp0.set j (.tl t0 (g l) e),j::tch,an⟩:=
       ⟨sm,fun i hi=>gb _ hi,fun i hi hni=>ga (fun q=>hni (by rw[<-q];exact gg ..))⟩
      subst hn;refine PC.mono (hc.some l (fun p q=>hp p q) (dens hp0) j e (by rw[aJ,ho];rfl)) ?_;rintro y k ⟨rfl,rfl⟩;refine⟨⟨sl,hp0.set j (.tl t0 (g l) e),j::tch,an⟩,rfl,by rw[aX];rfl,hfr,?_⟩;cases ret with
      |true=>simpa [iD]using hK
      |false=>simpa using hK
     ·exact h.elim
    ·exact h.elim
   ·exact h.elim
  ·split at h
   ·refine PC.mono (hc.none _) ?_
    rintro y k ⟨rfl,rfl⟩;refine⟨⟨sl,hp0,tch,an⟩,rfl,rfl,Fr.refl _,?_⟩;cases ret with
    |true=>simpa using h
    |false=>simpa using h
   ·exact h.elim
  ·exact h.elim
 ·rename_i t e hl
  have hc:qWI E.P f t e:=hT _ _ hl;split at h
  ·split at h
   ·rename_i n rest2
    split at h
    ·obtain⟨⟨hn⟩,h⟩:=h
     obtain⟨h1,h2⟩:=(gT _ _ _).1 h;obtain⟨c1,c2⟩:=hc n hn.1 hn.2 (dens hp0);by_cases hpos:0<n
     ·have h1:=h1 (decide_eq_true hpos)
      rw[iD,eQ]at h1;refine PC.mono (c2 hpos hp0.length (dens hp0++ [.live ⟨t.size,[],e⟩]) (by simp [halloc,dens])) ?_;rintro y k ⟨rfl,rfl⟩;exact⟨⟨sl,hp0++ [.tl t [] e],tch,an⟩,rfl,by rw[nN];rfl,⟨sm,fun _ q=>q,fun j hj _=>ge hj⟩,h1⟩
     ·have h2:=h2 (decide_eq_false hpos)
      refine PC.mono (c1 om) ?_;rintro y k ⟨rfl,rfl⟩;exact⟨⟨sl,hp0,tch,an⟩,rfl,rfl,Fr.refl _,h2⟩
    ·exact h.elim
   ·exact h.elim
  ·exact h.elim
 ·rename_i t ps pre res hl
  have hc:=hT _ _ hl;split at h
  ·rename_i j rest
   split at h
   ·rename_i o ho
    split at h
    ·rename_i a row x ha hx
     rw[eM]at h;split at h
     ·rename_i hfl
      obtain⟨hp,h⟩:=pJ h;obtain⟨hcs,h⟩:=bR h;rw[dD]at h;have hra:Pairs (fun a b=>RA (dens hp0) a b) (.pO j 0 0::rest) (.pF (t.row a) 0::vals ps x):=by
       have h1:=qE hx;refine⟨by simp [h1.1],fun i y z hy hz=>?_⟩;cases i with
       |zero=>simp at hy hz;subst hy hz;exact YP ho ha hcs
       |succ i=>
        simp at hy hz;exact fun w ι v H r=>(h1.2 i y z hy hz r).free (fun b q=>.inl (zM q)) (qA4 0 ps x z (cD hz))
      refine PC.mono (PC.read hfl (hc a x hp) hra) ?_;rintro y k ⟨rfl,rfl⟩;exact⟨⟨sl,hp0,tch,an⟩,rfl,rfl,Fr.refl _,h⟩
     ·exact h.elim
    ·exact h.elim
   ·exact h.elim
  ·rename_i row rest
   split at h
   ·rename_i a x ha hx
    obtain⟨hp,h⟩:=pJ h;rw[eM,dD]at h;refine PC.args_LE (LEs.cons (LE.pF (oJ (R:=fun a b=>LE a b) (fW 8) (fun _=>LE.refl _) ha)) (qE hx)) (PC.mono ((hc a x hp).2 (dens hp0) (fun _ q=>by cases q)) ?_);rintro y k ⟨rfl,rfl⟩;exact⟨⟨sl,hp0,tch,an⟩,rfl,rfl,Fr.refl _,h⟩
   ·exact h.elim
  ·exact h.elim
 ·rename_i wr e eb hl
  have hc:=hT _ _ hl;split at h
  ·rename_i i rest
   split at h
   ·rename_i s0 rest2
    split at h
    ·rw[iD,eQ]at h
     split at h
     ·rename_i b cs j l el hr
      obtain⟨hcs,h⟩:=bR h;obtain⟨hn,h⟩:=(gB _ _).1 h;rw[cJ,qE1,cJ,qOL]at h;have hn:=of_decide_eq_true hn;have hfree:(hp0++ [XO.raw .free])[hp0.length]? =some (.raw .free):=sm
      refine PC.pre (h':=dens (hp0++ [.raw .free])) (fun{ι w} H=>?_) (PC.mono (hc (hp0++ [.raw .free]) i hp0.length s0 b cs j l el hr hcs hn hfree) ?_)
      ·rw[iJ];exact H.reserve1
      rintro y k ⟨rfl,rfl⟩;refine⟨⟨sl,(dO ((hp0++ [XO.raw .free]).set i (GI eb i hp0.length (l++aE s0).length)) j).set hp0.length (.opt (.int .u8) (l++aE s0) el),i::kE j tch,an⟩,rfl,rfl,⟨by simp [oY],fun x hx=>?_,fun x hx hn=>?_⟩,h⟩
      ·cases j with
       |none=>exact gb _ hx
       |some j=>exact gb _ (gb _ hx)
      ·have hxi:i≠x:=fun q=>hn (by rw[<-q];exact gg ..)
       (try simp only at hx ⊢);rw[ga om,vP (fun y hy=>?_),ga hxi,ge hx];intro q;apply hn;subst hy q;exact gb _ (gg ..)
     ·exact h.elim
    ·exact h.elim
   ·exact h.elim
  ·rename_i i rest
   split at h
   ·split at h
    ·rename_i b cs j l el hr
     obtain⟨hcs,h⟩:=bR h;obtain⟨hn,h⟩:=(gB _ _).1 h;rw[qEM,qOL]at h;refine PC.mono (hc hp0 i b cs j l el hr hcs (of_decide_eq_true hn)) ?_;rintro y k ⟨rfl,rfl⟩;refine⟨⟨sl,zD hp0 e l j,i::kE j tch,an⟩,rfl,rfl,⟨by simp [DX],fun x hx=>?_,fun x hx hn=>?_⟩,h⟩
     ·cases j with
      |none=>exact gb _ hx
      |some j=>exact gb _ (gb _ hx)
     ·(try simp only at hx ⊢)
      rw[WS (fun y hy=>?_)];intro q;apply hn;subst hy q;exact gb _ (gg ..)
    ·exact h.elim
   ·exact h.elim
  ·exact h.elim
 ·exact hI _ _ _ _ h
def qVY (o:Op) (sl:List V) (n:Nat) (tch:List Nat) (k:List Nat->Prop):Prop:=match wids o (aev sl) n with
 | []=>k tch
 |a::r=>k (a::(r++tch))
theorem qIU (o:Op) (sl:List V) (n:Nat) (tch:List Nat) (k:List Nat->Prop):qVY o sl n tch k=k (wids o (aev sl) n++tch):=by
 unfold qVY;split
 ·rename_i h;rw[h];rfl
 ·rename_i h;rw[h];rfl
def xstep (E:Env) (fl:Bool) (o:Oper) (s:Y) (K:Y->Prop):Prop:=
 match s with
 |⟨sl,h,tch,an⟩=>match jA E.P sl o.op with
  |some (f,args)=>xcall E f args ⟨sl,h,tch,an⟩ fun x s'=>(match s' with
   |⟨sl,h,tch,an⟩=>TN sl o.dst x fun sl=>K ⟨sl,h,tch,an⟩)
  |none=>QJ E.P fl o.op ⟨sl,h⟩ fun x h'=>TN sl o.dst x fun sl'=>qVY o.op sl h.length tch fun tch=>K ⟨sl',h',tch,an⟩
def gd (ops:Array Oper) (o:Oper) (s:Y) (run skip:Y->Prop):Prop:=
 match s with
 |⟨sl,h,tch,an⟩=>match o.guard with
 |none=>run ⟨sl,h,tch,an⟩
 |some (j,want)=>match(ops[j]?).bind (·.dst)with
  |some d=>match sl[d]? with
   |some (.v (.bool b))=>br b
    (iH sl d (.v (.bool true)) fun sl=>match want with|true=>run ⟨sl,h,tch,an⟩|false=>skip ⟨sl,h,tch,an⟩)
    (iH sl d (.v (.bool false)) fun sl=>match want with|true=>skip ⟨sl,h,tch,an⟩|false=>run ⟨sl,h,tch,an⟩)
   |some (.v (.tuple _))=>skip ⟨sl,h,tch,an⟩
   |_=>False
  |none=>False
def frO (W:List Nat) (o:Op) (s:Y) (K:Y->Prop):Prop:=match s with
 |⟨sl,h,tch,an⟩=>match qYP W o sl h with
  |some (d,x,id,c)=>need c (fV x fun x=>iH sl d x fun sl=>fH (h.set id (.raw .dead)) fun h=>K ⟨sl,h,id::tch,an⟩)
  |none=>
     K ⟨sl,h,tch,an⟩
def xops (E:Env) (ops:Array Oper) (rid:Nat) (l:List Oper):Nat->Y->(Y->Prop)->Prop:=List.rec (motive:=fun _=>Nat->Y->(Y->Prop)->Prop) (fun _ s K=>K s)
 (fun o _ ih i s K=>gd ops o s (fun s=>frO (lT ops.toList) o.op s fun s=>xstep E (flips E.flip E.fid rid i) o s fun s'=>ih (i+1) s' K)
     (fun s=>match s with|⟨sl,h,tch,an⟩=>TN sl o.dst (.v undef) fun sl=>ih (i+1) ⟨sl,h,tch,an⟩ K)) l
theorem qME (E:Env) (ops:Array Oper) (rid:Nat) (o:Oper) (l:List Oper) (i:Nat) (s:Y) (K:Y->Prop):xops E ops rid (o::l) i s K=gd ops o s (fun s=>frO (lT ops.toList) o.op s fun s=>xstep E (flips E.flip E.fid rid i) o s fun s'=>xops E ops rid l (i+1) s' K)
 (fun s=>match s with|⟨sl,h,tch,an⟩=>TN sl o.dst (.v undef) fun sl=>xops E ops rid l (i+1) ⟨sl,h,tch,an⟩ K):=rfl
theorem qOF {P:Program} {o:Op} {ev:Operand->V} {h h':List XO} {cs:List Bool} {x:V} {new:Nat} (e:dst P o ev h=some (cs,x,h')):h.length=h'.length/\∀j,¬j∈wids o ev new->h'[j]? =h[j]?:=by
 have fin:∀(id:Nat) (o':XO) (t:TypeId) (p y:Operand),o = .store t p y->ev p = .pO id 0 0\/(∃r q,ev p = .pO id r q)->h'=h.set id o'->h.length=h'.length/\∀j,¬j∈wids o ev new->h'[j]? =h[j]?:=by
  rintro id o' t p y rfl hp rfl;refine⟨sm,fun j hj=>ga (fun q=>hj ?_)⟩;subst q;rcases hp with hp|⟨r,q,hp⟩<;>simp [wids,hp,aO]
 unfold dst at e;split at e
 ·rename_i t p y
  unfold dstore at e;split at e
  ·rename_i id r off ls n hp hls hn
   repeat' split at e
   all_goals first|(cases e;done)|skip
   all_goals(injection e with e;injection e with e1 e2;injection e2 with e2 e3)
   all_goals exact fin _ _ t p y rfl (.inr ⟨_,_,av⟩) e3.symm
  ·cases e
 ·cases e
theorem RP {h:List XO} {ty:Ty} {el:TypeId} {x:V} {cs:List Bool} {l:List ty.den} {k:Option Nat} {ez:El} (e:bsX h ty el x=some (cs,l,k,ez)):∀id,k=some id->id∈aO x:=by
 intro id hid;unfold bsX at e;repeat' split at e
 all_goals first|(cases e;done)|skip
 all_goals(injection e with e;injection e with e1 e2;injection e2 with e2 e3;injection e3 with e3 e4;subst e3;first|(cases hid;done)|(injection hid with hid;subst hid;simp [aO]))
theorem OK {P:Program} {o:Op} {ev:Operand->V} {h h':List XO} {cs:List Bool} {x:V} {new:Nat} (e:dalloc P o ev h new=some (cs,x,h')):h.length=h'.length/\∀j,¬j∈wids o ev new->h'[j]? =h[j]?:=by
 have fin:∀(o':XO),new∈wids o ev new->h'=h.set new o'->h.length=h'.length/\∀j,¬j∈wids o ev new->h'[j]? =h[j]?:=by
  rintro o' hn rfl;exact⟨sm,fun j hj=>ga (fun q=>hj (by rw[<-q];exact hn))⟩
 unfold dalloc at e;split at e
 ·split at e
  ·unfold dmake at e
   repeat' split at e
   all_goals first|(cases e;done)|skip
   all_goals(injection e with e;injection e with e1 e2;injection e2 with e2 e3;exact fin _ (by simp [wids]) e3.symm)
  ·cases e
 ·unfold nP at e
  repeat' split at e
  all_goals first|(cases e;done)|skip
  all_goals(injection e with e;injection e with e1 e2;injection e2 with e2 e3;exact fin _ (by simp [wids]) e3.symm)
 ·rename_i c
  obtain⟨callee,args,tys⟩:=c;(try simp only at e);split at e
  ·rename_i X Y ha
   split at e
   ·have fin2:∀(k:Option Nat) (o':XO) (h2:List XO),h2=(dO h k).set new o'->(∀id,k=some id->id∈wids (.call ⟨.builtin .append,args,tys⟩) ev new)->h.length=h2.length/\∀j,¬j∈wids (.call ⟨.builtin .append,args,tys⟩) ev new->h2[j]? =h[j]?:=by
      rintro k o' h2 rfl hk;refine⟨by cases k<;>simp [dO],fun j hj=>?_⟩;rw[ga (fun q=>hj (by rw[<-q];simp [wids]))];cases k with
      |none=>rfl
      |some id=>exact ga (fun q=>hj (by rw[<-q];exact hk id rfl))
    unfold dapp at e;split at e
    ·rename_i a b c' hX
     unfold nM at e;repeat' split at e
     all_goals first|(cases e;done)|skip
     all_goals
      injection e with e;injection e with e1 e2;injection e2 with e2 e3;subst e3;have hbs:=‹bsX h _ _ (.sO _ _ _)=some _›;rw[<-hX]at hbs;refine fin2 _ _ _ rfl fun id hid=>?_
      simp only[wids,ha,kb,List.take_zero,gn,List.flatMap_nil,gy,gh];exact .inl (RP hbs id hid)
    ·rename_i hX
     unfold dappend at e;repeat' split at e
     all_goals first|(cases e;done)|skip
     all_goals
      injection e with e;injection e with e1 e2;injection e2 with e2 e3;subst e3;have hbs:=‹bsX h _ _ (ev X)=some _›;refine fin2 _ _ _ rfl fun id hid=>?_
      simp only[wids,ha,kb,List.take_zero,gn,List.flatMap_nil,gy,gh];exact .inl (RP hbs id hid)
   ·cases e
  ·cases e
 ·cases e
theorem ZJ:∀(h:List XO),h.length<=(strip h).length+1/\∀j,j<(strip h).length->(strip h)[j]? =h[j]?
 | []=>⟨by simp [strip],fun j hj=>by simp [strip]at hj⟩
 | [x]=>by
   cases x with
   |raw s=>cases s<;>exact⟨by simp [strip],fun j hj=>by simp [strip]at hj ⊢⟩
   |_=>exact⟨by simp [strip],fun j hj=>by simp [strip]at hj ⊢⟩
 |x::y::r=>by
  have hd:strip (x::y::r)=x::strip (y::r):=by
   cases x with
   |raw s=>cases s<;>rfl
   |_=>rfl
  obtain⟨h1,h2⟩:=ZJ (y::r);rw[hd];refine⟨by simp at h1 ⊢;omega,fun j hj=>?_⟩;cases j with
  |zero=>rfl
  |succ j=>simpa using h2 j (by simpa using hj)
theorem TU {h:List XO} {ws:List Nat}:∀ {k:Heap} {i j:Nat},j<k.length->¬(i+j)∈ws->i+j<h.length->(reb h ws k i)[j]? =h[i+j]?
 | [],i,j,hj,_,_=>by simp at hj
 |s::r,i,0,_,hw,hl=>by
  rw[kd]at hw hl ⊢;simp only[reb,gr];rw[if_neg (by simpa using hw),gp hl]
 |s::r,i,j+1,hj,hw,hl=>by
  simp only[reb,gt];rw[TU (by simpa using hj) (by rwa [show i+1+j=i+(j+1)by omega]) om,show i+1+j=i+(j+1)by omega]
theorem FM {h:List XO} {ws:List Nat}:∀ {k:Heap} {i:Nat},(reb h ws k i).length=k.length
 | [],_=>rfl
 |_::_,_=>by simp [reb,FM]
theorem qRE {P:Program} {fl:Bool} {o:Op} {s:XSt} {K:V->List XO->Prop} (h:QJ P fl o s K) :
  QJ P fl o s fun x h'=>K x h'/\s.h.length<=h'.length/\∀j,j<s.h.length->¬j∈wids o (aev s.sl) s.h.length->h'[j]? =s.h[j]?:=by
 have nd:∀ {cs:List Bool} {A B:Prop},(A->B)->needs cs A->needs cs B:=by
  intro cs A B hab;induction cs with
  |nil=>exact hab
  |cons c cs ih=>intro q;exact(gB c _).2 ⟨((gB c _).1 q).1,ih ((gB c _).1 q).2⟩
 obtain⟨sl,hp⟩:=s;simp only[QJ]at h ⊢;split
 ·rename_i b x y e
  simp only[e,dD]at h ⊢;obtain⟨h1,h2⟩:=(gT _ _ _).1 h;exact(gT _ _ _).2 ⟨fun q=>⟨h1 q,gf _,fun _ _ _=>trivial⟩,fun q=>⟨h2 q,gf _,fun _ _ _=>trivial⟩⟩
 rename_i e0;simp only[e0]at h;split
 ·rename_i xs n len elem sz e
  simp only[e]at h ⊢;have:∀(K2:V->Prop),(∀y,K y hp->K2 y)->∀(m j:Nat),qBC P elem sz xs n (fun y=>K y hp) m j->qBC P elem sz xs n K2 m j:=by
   intro K2 hK m;induction m with
   |zero=>intro j q;exact q
   |succ m ih=>
    intro j q;simp only[qBC]at q ⊢;obtain⟨h1,h2⟩:=(gT _ _ _).1 q;refine(gT _ _ _).2 ⟨fun c=>?_,fun c=>?_⟩
    ·have h3:=h1 c
     split
     ·rename_i y hy
      rw[hy]at h3;simp only[dD]at h3 ⊢;exact hK _ h3
     ·rename_i hy
      rw[hy]at h3;exact h3
    ·have h3:=h2 c
     rw[iD]at h3 ⊢;exact ih _ h3
  exact this _ (fun y hy=>⟨hy,gf _,fun _ _ _=>trivial⟩) _ _ h
 rename_i e00;simp only[e00]at h;split
 ·rename_i cs x e
  simp only[e,dD]at h ⊢;exact nd (fun q=>⟨q,gf _,fun _ _ _=>trivial⟩) h
 ·rename_i e
  simp only[e]at h;split
  ·rename_i cs x h' e2
   rw[e2]at h;refine nd (fun q=>?_) h;rw[eQ]at q ⊢;obtain⟨g1,g2⟩:=qOF (new:=hp.length) e2;exact⟨q,Nat.le_of_eq g1,fun j _ hj=>g2 j hj⟩
  ·rename_i e2
   simp only[e2]at h;split
   ·rename_i cs x h' e3
    rw[e3]at h;refine nd (fun q=>?_) h;rw[dD,eQ]at q ⊢;obtain⟨g1,g2⟩:=qTB e3;refine⟨q,by simp at g1;omega,fun j hlt hj=>?_⟩;rw[g2 j om,ge hlt]
   rename_i e32;simp only[e32]at h;split
   ·rename_i cs x h' e3
    rw[e3]at h;refine nd (fun q=>?_) h;rw[dD,eQ]at q ⊢;obtain⟨g1,g2⟩:=OK e3;refine⟨q,by simp at g1;omega,fun j hlt hj=>?_⟩;rw[g2 j hj,ge hlt]
   ·rename_i e3
    simp only[e3]at h;split
    ·rename_i x h' e4
     rw[e4]at h;(try simp only at h);split
     ·rename_i e5
      rw[e5]at h;rw[dD]at h ⊢;exact⟨h,gf _,fun _ _ _=>trivial⟩
     ·rename_i e5
      have h2:fV x fun x=>fH (LU P o hp.length (strip (reb (hp++ [.raw .free]) (wids o (aev sl) hp.length) h' 0))) fun h'=>K x h':=by
       revert h;split
       ·rename_i e6;exact absurd e6 e5
       ·exact fun h=>h
      rw[dD,eQ]at h2;rw[dD,eQ];have hlt:hp.length<(dens (hp++ [.raw .free])).length:=by simp [dens]
      obtain⟨post,p1,p2,_⟩:=(AO.of e4).loc hlt;have hl:h'.length=hp.length+1:=by rw[p2,jE];simp [dens]
      obtain⟨g1,g2⟩:=ZJ (reb (hp++ [.raw .free]) (wids o (aev sl) hp.length) h' 0);rw[FM,hl]at g1;refine⟨h2,by rw[qRX];omega,fun j hj hn=>?_⟩;rw[qRW om,g2 j om,TU om (by rwa [gc]) (by simp;omega),gc,ge hj]
    ·rename_i e4
     simp only[e4]at h;split
     ·rename_i p e5
      simp only[e5]at h;exact⟨fun q=>⟨h.a q,gf _,fun _ _ _=>trivial⟩,⟨h.b,gf _,fun _ _ _=>trivial⟩⟩
     ·rename_i p e5
      simp only[e5]at h;exact⟨fun q=>⟨h.a q,gf _,fun _ _ _=>trivial⟩,⟨h.b,gf _,fun _ _ _=>trivial⟩⟩
     ·rename_i e5
      simp only[e5]at h;split
      ·rename_i cs n id ty a u off len e6
       simp only[e6]at h;refine nd (fun q=>?_) h;obtain⟨q1,q2⟩:=(gT _ _ _).1 q;refine(gT _ _ _).2 ⟨fun c=>⟨q1 c,gf _,fun _ _ _=>trivial⟩,fun c=>?_⟩;obtain⟨q3,q4⟩:=(gT _ _ _).1 (q2 c);refine(gT _ _ _).2 ⟨fun c=>⟨q3 c,gf _,fun _ _ _=>trivial⟩,fun c=>?_⟩;have q5:=q4 c;rw[dD]at q5 ⊢;exact⟨q5,gf _,fun _ _ _=>trivial⟩
      ·rename_i e6
       simp only[e6]at h
theorem qEO {ops:Array Oper} {o:Oper} {s:Y} {run skip:Y->Prop} (h:gd ops o s run skip):(awanted ops s.sl o=some true/\run s)\/(awanted ops s.sl o=some false/\skip s):=by
 obtain⟨sl,hp,tch,an⟩:=s;simp only[gd]at h;split at h
 ·rename_i hg
  exact .inl ⟨by simp [awanted,hg],h⟩
 ·rename_i j want hg
  split at h
  ·rename_i d hd
   split at h
   ·rename_i b hb
    have hset:∀c,b=c->sl.set d (.v (.bool c))=sl:=by
     intro c hc;subst hc;have hlt:=aI hb;rw[gp hlt]at hb;injection hb with hb;rw[<-hb,gz]
    have hw:awanted ops sl o=some (b == want):=by simp only[awanted,hg,hd,gu,hb]
    obtain⟨h1,h2⟩:=(gT b _ _).1 h;cases b with
    |true=>
     have h1:=h1 rfl;rw[cG,hset true rfl]at h1;cases want with
     |true=>exact .inl ⟨hw,h1⟩
     |false=>exact .inr ⟨hw,h1⟩
    |false=>
     have h2:=h2 rfl;rw[cG,hset false rfl]at h2;cases want with
     |true=>exact .inr ⟨hw,h2⟩
     |false=>exact .inl ⟨hw,h2⟩
   ·rename_i vs hb
    exact .inr ⟨by simp only[awanted,hg,hd,gu,hb],h⟩
   ·exact h.elim
  ·exact h.elim
structure FrW (W:List Nat) (s s':Y):Prop where
 fr:Fr s s'
 len:s'.sl.length=s.sl.length
 sl:∀i,¬i∈W->s'.sl[i]? =s.sl[i]?
theorem FrW.refl (W:List Nat) (s:Y):FrW W s s:=⟨Fr.refl s,rfl,fun _ _=>rfl⟩
theorem FrW.trans {W:List Nat} {a b c:Y} (h1:FrW W a b) (h2:FrW W b c):FrW W a c:=⟨h1.fr.trans h2.fr,h2.len.trans h1.len,fun i hi=>(h2.sl i hi).trans (h1.sl i hi)⟩
theorem FrW.mono {W W':List Nat} {a b:Y} (h:FrW W a b) (hw:∀i,i∈W->i∈W'):FrW W' a b:=⟨h.fr,h.len,fun i hi=>h.sl i (fun q=>hi (hw i q))⟩
theorem KP (sl:List V) (d:Option Tmp) (x:V):(sput sl d x).length=sl.length:=by cases d<;>simp [sput]
theorem KO {sl:List V} {d:Option Tmp} {x:V} {i:Nat} (h:∀k,d=some k->k≠i):(sput sl d x)[i]? =sl[i]?:=by
 cases d with
 |none=>rfl
 |some k=>exact ga (h k rfl)
theorem POL.mono {P:Program} {ops:Array Oper} {l:List Oper} {s:St} {Q Q':St->Prop} (h:POL P ops l s Q) (hq:∀s,Q s->Q' s):POL P ops l s Q':=by
 intro k hk ι a w r;refine iB ?_ _ _ _ (h k hk ι a w r);rintro e a' w' ⟨s3,ι3,⟨q1,q2⟩,r3,ev3⟩;exact⟨s3,ι3,⟨q1,hq _ q2⟩,r3,ev3⟩
theorem UU {ops:Array Oper} {sl:List V} {o:Oper} {d:Nat} {x z:V} (hd:sl[d]? =some z) (hz:qa6 z=true) (hw:awanted ops sl o=some true):awanted ops (sl.set d x) o=some true:=by
 unfold awanted at hw ⊢;split
 ·rfl
 ·rename_i j want hg
  simp only[hg]at hw;cases hd0:(ops[j]?).bind (·.dst)with
  |none=>rw[hd0]at hw;cases hw
  |some d0=>
   rw[hd0]at hw;simp only[gu]at hw ⊢;by_cases q:d0=d
   ·subst q;rw[hd]at hw;cases z<;>first|(cases hz;done)|(cases hw;done)
   ·rw[ga (fun e=>q e.symm)];exact hw
theorem qYO {W:List Nat} {o:Op} {s:Y} {K:Y->Prop} (h:frO W o s K):∃s':Y,K s'/\FrW W s s'/\(∀(ops:Array Oper) (o':Oper),awanted ops s.sl o'=some true->awanted ops s'.sl o'=some true) /\
  ∀ {ι:Iota} {a:Act} {w:World},SR s.den ι a w->∃ι',SR s'.den ι' a w/\Evolve (dens s.h) ι w (dens s'.h) ι' w:=by
 obtain⟨sl,hp,tch,an⟩:=s;simp only[frO]at h;split at h
 ·rename_i d x id c e
  obtain⟨hc,h⟩:=(gB _ _).1 h;rw[dD,cG,eQ]at h;obtain⟨h1,⟨z,h2,hz⟩,h3⟩:=qTT e hc;refine⟨_,h,⟨⟨sm,fun j hj=>gb _ hj,fun j hj hn=>ga (fun q=>hn (by rw[<-q];exact gg ..))⟩,sm,fun j hj=>ga (fun q=>hj (by rw[<-q];exact h1))⟩,fun ops o' hw=>UU h2 hz hw,h3⟩
 ·
  exact⟨_,h,FrW.refl _ _,fun _ _ q=>q,fun r=>⟨_,r,Evolve.refl _ _ _⟩⟩
theorem UD {E:Env} (hT:aD E.P E.T) (hI:tK E) {ops:Array Oper} {rid:Nat} {W:List Nat} (hW0:∀d,d∈lT ops.toList->d∈W):∀(l:List Oper) (i:Nat) (s:Y) (K:Y->Prop),(∀o,o∈l->∀d,o.dst=some d->d∈W)->xops E ops rid l i s K ->
  POL E.P ops l s.den (fun st=>∃s',st=s'.den/\K s'/\FrW W s s')
 | [],i,s,K,_,h=>POL.nil ⟨s,rfl,h,FrW.refl _ _⟩
 |o::l,i,s,K,hW,h=>by
  rw[qME]at h;have hdst:=hW o sm;have ih:∀s1:Y,FrW W s s1->xops E ops rid l (i+1) s1 K->POL E.P ops l s1.den (fun st=>∃s',st=s'.den/\K s'/\FrW W s s'):=fun s1 hf hx=>
   (UD hT hI hW0 l (i+1) s1 K (fun o ho=>hW o (by simp [ho])) hx).mono fun st ⟨s',q1,q2,q3⟩=>⟨s',q1,q2,hf.trans q3⟩
  have put:∀(s0 s1:Y) (x:V),FrW W s s0->s1.sl=s0.sl->Fr s0 s1->FrW W s ⟨sput s1.sl o.dst x,s1.h,s1.tch,s1.an⟩:=by
   intro s0 s1 x h0 h1 h2;refine h0.trans ⟨⟨h2.len,h2.tch,h2.h⟩,by simp only[KP,h1],fun j hj=>?_⟩;simp only[h1];exact KO (fun k hk q=>hj (q ▸ hdst k hk))
  rcases qEO h with⟨hw,hr⟩|⟨hw,hr⟩
  ·obtain⟨s0,hr,hf0,hw0,hsr⟩:=qYO hr
   have hw:=hw0 ops o hw;have hf0:FrW W s s0:=hf0.mono hW0;refine POL.post (s2:=s0.den) hsr ?_;obtain⟨sl,hp,tch,an⟩:=s0;simp only[xstep]at hr;split at hr
   ·rename_i f args hcall
    have hcl:callable E.P f=true:=by
     unfold jA at hcall;repeat' split at hcall
     all_goals first|(cases hcall;done)|skip
     injection hcall with hcall;injection hcall with q _;subst q;assumption
    refine POL.call hw hcall hcl (qSC hT hI hr) ?_;rintro x k ⟨⟨sl2,hp2,tch2,an2⟩,h1,rfl,h2,h3⟩;(try simp only at h1 h3);rw[tD]at h3;have:=ih _ (put _ ⟨sl2,hp2,tch2,an2⟩ x hf0 h1 h2) h3;subst h1;exact this
   ·have hs:=qRE hr
    refine qRF (s:=⟨sl,hp⟩) hs hw ?_;rintro x h' ⟨h1,h2,h3⟩;rw[tD,qIU]at h1;have hf:Fr ⟨sl,hp,tch,an⟩ ⟨sl,h',wids o.op (aev sl) hp.length++tch,an⟩:=⟨h2,fun j hj=>gh.2 (.inr hj),fun j hj hn=>h3 j hj (fun q=>hn (gh.2 (.inl q)))⟩
    exact ih _ (put _ ⟨sl,h',wids o.op (aev sl) hp.length++tch,an⟩ x hf0 rfl hf) h1
  ·refine POL.no hw ?_
   (try simp only at hr);rw[tD]at hr;exact ih _ (put s s _ (FrW.refl _ _) rfl (Fr.refl _)) hr
def MC (W:List Nat):List V->Nat->List V
 | [],_=>[]
 |a::r,i=>(match W.contains i with
  |true=>.any
  |false=>a)::MC W r (i+1)
def kU (W:List Nat) (sl:List V):List V:=MC W sl 0
structure Bs where
 sl:List V
 h:List XO
def idC (c:V):Nat:=match c with
 | .oL id _=>id
 | .sO id _ _=>id
 |_=>0
def jM (b:Bs) (d:Nat):Nat:=match b.sl[d]? with
 |some c=>idC c
 |none=>0
def sB (b:Bs) (id:Nat):List V:=match b.h[id]? with
 |some (.raw (.live o))=>(match o.rows with
  | [r]=>r
  |_=>[])
 |_=>[]
def jC:(ks:List CK)->Tup (aB ks)->List V->List V
 | .same::ks,y,c::r=>c::jC ks y r
 | .val t::ks,(a,y),_::r=>t.val a::jC ks y r
 | .own _ _::ks,(l,y),c::r=>.oL (idC c) l.length::jC ks y r
 | .ows _ _::ks,(l,y),c::r=>.sO (idC c) 0 l.length::jC ks y r
 | .osf i::ks,(a,y),_::r=>qH i a::jC ks y r
 |_,_,_=>[]
def oG:(ks:List CK)->Tup (aB ks)->List V->List XO->List XO
 | .same::ks,y,_::r,h=>oG ks y r h
 | .val _::ks,(_,y),_::r,h=>oG ks y r h
 | .osf _::ks,(_,y),_::r,h=>oG ks y r h
 | .own t e::ks,(l,y),c::r,h=>oG ks y r (h.set (idC c) (.opt t l e))
 | .ows t e::ks,(l,y),c::r,h=>oG ks y r (h.set (idC c) (.tl t l e))
 |_,_,_,h=>h
def qQM (b:Bs) (id:Nat) (r:List V):XO:=match b.h[id]? with
 |some (.raw (.live o))=>.raw (.live ⟨o.sz,[r],o.elem⟩)
 |_=>.raw .dead
def fQ:(g:List GK)->Tup (gts g)->Bs->List V->List V
 | [],_,_,l=>l
 | .sl d t::g,(y,r),b,l=>fQ g r b (l.set d (t.val y))
 | .lst d t e::g,(y,r),b,l=>fQ g r b (l.set d (.oL (jM b d) y.length))
 | .nls d t e::g,(y,r),b,l=>fQ g r b (l.set d (.sO (jM b d) 0 y.length))
 | .ob _ _ _::g,(y,r),b,l=>fQ g r b l
 | .ar _ _ _::g,(y,r),b,l=>fQ g r b l
 | .op _ _ _::g,(y,r),b,l=>fQ g r b l
 | .row _ ks::g,y,b,l=>match vB (aB ks) (gts g) y with
   |(_,q)=>fQ g q b l
def gH:(g:List GK)->Tup (gts g)->Bs->List XO->List XO
 | [],_,_,h=>h
 | .sl _ _::g,(y,r),b,h=>gH g r b h
 | .lst d t e::g,(y,r),b,h=>gH g r b (h.set (jM b d) (.opt t y e))
 | .nls d t e::g,(y,r),b,h=>gH g r b (h.set (jM b d) (.tl t y e))
 | .ob id t e::g,(y,r),b,h=>gH g r b (h.set id (.ob t y e))
 | .ar id t e::g,(y,r),b,h=>gH g r b (h.set id (.tl t y e))
 | .op id t e::g,(y,r),b,h=>gH g r b (h.set id (.opt t y e))
 | .row id ks::g,y,b,h=>match vB (aB ks) (gts g) y with
   |(c,q)=>gH g q b (oG ks c (sB b id) (h.set id (qQM b id (jC ks c (sB b id)))))
def rdK:(ks:List CK)->List V->List XO->Option (Tup (aB ks))
 | [],[],_=>some ()
 | .same::ks,_::r,h=>rdK ks r h
 | .val t::ks,c::r,h=>match un (cN 8) t [c],rdK ks r h with
   |some (a,[]),some q=>some (a,q)
   |_,_=>none
 | .osf i::ks,c::r,h=>match KC i c,rdK ks r h with
   |some a,some q=>some (a,q)
   |_,_=>none
 | .own t e::ks,c::r,h=>match c with
   | .oL id _=>match h[id]? with
     |some (.opt _ l e')=>if e'=e then match fR (t':=t) l,rdK ks r h with
      |some l,some q=>some (l,q)
      |_,_=>none
      else none
     |_=>none
   |_=>none
 | .ows t e::ks,c::r,h=>match c with
   | .sO id 0 _=>match h[id]? with
     |some (.tl _ l e')=>if e'=e then match fR (t':=t) l,rdK ks r h with
      |some l,some q=>some (l,q)
      |_,_=>none
      else none
     |_=>none
   |_=>none
 |_,_,_=>none
def cdK:(ks:List CK)->List V->List XO->List Bool
 | .own _ _::ks,c::r,h=>fZ h c++cdK ks r h
 | .ows _ _::ks,c::r,h=>fZ h c++cdK ks r h
 |_::ks,_::r,h=>cdK ks r h
 |_,_,_=>[]
def KJ:(ks:List CK)->List V->List V->Prop->Prop
 | .same::ks,c'::r',c::r,A=>c'=c/\KJ ks r' r A
 | .val _::ks,_::r',_::r,A=>KJ ks r' r A
 | .own _ _::ks,_::r',_::r,A=>KJ ks r' r A
 | .ows _ _::ks,_::r',_::r,A=>KJ ks r' r A
 | .osf _::ks,_::r',_::r,A=>KJ ks r' r A
 | [],_,_,A=>A
 |_,_,_,_=>False
def qB:(ks:List CK)->List V->List Nat
 | .own _ _::ks,c::r=>idC c::qB ks r
 | .ows _ _::ks,c::r=>idC c::qB ks r
 |_::ks,_::r=>qB ks r
 |_,_=>[]
def qDJ:(ks:List CK)->List V->List V->List Nat->List Nat
 | .own _ _::ks,c::r,c'::r',σ=>qDJ ks r r' (σ.set (idC c) (idC c'))
 | .ows _ _::ks,c::r,c'::r',σ=>qDJ ks r r' (σ.set (idC c) (idC c'))
 |_::ks,_::r,_::r',σ=>qDJ ks r r' σ
 |_,_,_,σ=>σ
def rN (σ:List Nat):(ks:List CK)->List V->List V->Bool
 | .own _ _::ks,c::r,c'::r'=>(σ[idC c]? == some (idC c'))&&rN σ ks r r'
 | .ows _ _::ks,c::r,c'::r'=>(σ[idC c]? == some (idC c'))&&rN σ ks r r'
 |_::ks,_::r,_::r'=>rN σ ks r r'
 |_,_,_=>true
def rdG:(g:List GK)->List V->List XO->Option (Tup (gts g))
 | [],_,_=>some ()
 | .sl d t::g,sl,h=>match sl[d]? with
   |some v=>match un (cN 8) t (fI t v),rdG g sl h with
    |some (a,[]),some r=>some (a,r)
    |_,_=>none
   |none=>none
 | .lst d t e::g,sl,h=>match sl[d]? with
   |some (.oL id _)=>match h[id]? with
    |some (.opt _ l e')=>if e'=e then match fR (t':=t) l,rdG g sl h with
     |some l,some r=>some (l,r)
     |_,_=>none
     else none
    |_=>none
   |_=>none
 | .nls d t e::g,sl,h=>match sl[d]? with
   |some (.sO id 0 _)=>match h[id]? with
    |some (.tl _ l e')=>if e'=e then match fR (t':=t) l,rdG g sl h with
     |some l,some r=>some (l,r)
     |_,_=>none
     else none
    |_=>none
   |_=>none
 | .ob id t e::g,sl,h=>match h[id]? with
   |some o=>(match LP t e o,rdG g sl h with
    |some a,some q=>some (a,q)
    |_,_=>none)
   |_=>none
 | .ar id t e::g,sl,h=>match h[id]? with
   |some (.tl _ l e')=>if e'=e then match fR (t':=t) l,rdG g sl h with
    |some l,some r=>some (l,r)
    |_,_=>none
    else none
   |_=>none
 | .op id t e::g,sl,h=>match h[id]? with
   |some (.opt _ l e')=>if e'=e then match fR (t':=t) l,rdG g sl h with
    |some l,some r=>some (l,r)
    |_,_=>none
    else none
   |_=>none
 | .row id ks::g,sl,h=>match rdK ks (sB ⟨sl,h⟩ id) h,rdG g sl h with
   |some c,some q=>some (aC (aB ks) (gts g) c q)
   |_,_=>none
def cdG (h:List XO) (sl:List V):List GK->List Bool
 | []=>[]
 | .lst d _ _::g=>(match sl[d]? with
   |some v=>fZ h v
   |none=>[])++cdG h sl g
 | .nls d _ _::g=>(match sl[d]? with
   |some v=>fZ h v
   |none=>[])++cdG h sl g
 | .row id ks::g=>cdK ks (sB ⟨sl,h⟩ id) h++cdG h sl g
 |_::g=>cdG h sl g
def AG (b b':Bs):List GK->Prop->Prop
 | [],A=>A
 | .row id ks::g,A=>KJ ks (sB b' id) (sB b id) (AG b b' g A)
 | .sl _ _::g,A=>AG b b' g A
 | .lst _ _ _::g,A=>AG b b' g A
 | .nls _ _ _::g,A=>AG b b' g A
 | .ob _ _ _::g,A=>AG b b' g A
 | .ar _ _ _::g,A=>AG b b' g A
 | .op _ _ _::g,A=>AG b b' g A
def gslots:List GK->List Nat
 | []=>[]
 | .sl d _::g=>d::gslots g
 | .lst d _ _::g=>d::gslots g
 | .nls d _ _::g=>d::gslots g
 |_::g=>gslots g
def gids (b:Bs):List GK->List Nat
 | []=>[]
 | .sl _ _::g=>gids b g
 | .lst d _ _::g=>jM b d::gids b g
 | .nls d _ _::g=>jM b d::gids b g
 | .ob id _ _::g=>id::gids b g
 | .ar id _ _::g=>id::gids b g
 | .op id _ _::g=>id::gids b g
 | .row id ks::g=>id::(qB ks (sB b id)++gids b g)
def sig (g:List GK) (b b':Bs) (σ:List Nat):List Nat:=match g with
 | []=>σ
 | .lst d _ _::g=>sig g b b' (σ.set (jM b d) (jM b' d))
 | .nls d _ _::g=>sig g b b' (σ.set (jM b d) (jM b' d))
 | .row id ks::g=>sig g b b' (qDJ ks (sB b id) (sB b' id) σ)
 |_::g=>sig g b b' σ
def niV:Nat->V->Bool
 |0,_=>false
 |n+1,x=>match x with
  | .v _=>true
  | .any=>true
  | .sL _ _=>true
  | .pF row _=>row.all (niV n)
  | .sF _ rows=>rows.all (·.all (niV n))
  | .agg xs=>xs.all (niV n)
  | .tup xs=>xs.all (niV n)
  |_=>false
theorem BX:∀ {n:Nat} {x:V},niV n x=true->NI 0 x
 |0,x,h=>by simp [niV]at h
 |n+1,x,h=>by
  cases x with
  |v x=>exact .v _
  |any=>exact .any
  |sL t l=>exact .sL _ _
  |pF row o=>exact .pF o fun x hx=>BX (gl.1 h x hx)
  |sF sz rows=>exact .sF sz fun r hr x hx=>BX (gl.1 (gl.1 h r hr) x hx)
  |agg xs=>exact .agg fun x hx=>BX (gl.1 h x hx)
  |tup xs=>exact .tup fun x hx=>BX (gl.1 h x hx)
  |_=>cases h
def qB2 (σ:List Nat) (id:Nat):Bool:=σ[id]? == some id
def IT (σ:List Nat):Nat->V->Bool
 |0,_=>false
 |n+1,x=>match x with
  | .v _=>true
  | .any=>true
  | .pO id _ _=>qB2 σ id
  | .sO id _ _=>qB2 σ id
  | .oL id _=>qB2 σ id
  | .sL _ _=>true
  | .agg xs=>xs.all (IT σ n)
  | .tup xs=>xs.all (IT σ n)
  | .fn _ a b=>a.all (IT σ n)&&b.all (IT σ n)
  | .ifc _ x=>IT σ n x
  | .pF row _=>row.all (niV 6)
  | .sF _ rows=>rows.all (·.all (niV 6))
def rM (σ:List Nat):(ks:List CK)->List V->Bool
 | [],[]=>true
 | .same::ks,c::r=>IT σ 6 c&&rM σ ks r
 | .val t::ks,_::r=>(match t with| .pair _ _=>false|_=>true)&&rM σ ks r
 | .own _ _::ks,_::r=>rM σ ks r
 | .ows _ _::ks,_::r=>rM σ ks r
 | .osf i::ks,_::r=>qB2 σ i&&rM σ ks r
 |_,_=>false
def qEX (b:Bs) (id:Nat):Option (Nat×El):=match b.h[id]? with
 |some (.raw (.live o))=>(match o.rows with
  | [_]=>some (o.sz,o.elem)
  |_=>none)
 |_=>none
def qF4 (b b':Bs) (id:Nat):Bool:=match qEX b id,qEX b' id with
 |some (s,e),some (s',e')=>gw s s'&&(gw e.t e'.t&&gw e.fz e'.fz)
 |_,_=>false
def jT (σ:List Nat) (b b':Bs):List GK->Bool
 | []=>true
 | .sl _ _::g=>jT σ b b' g
 | .lst d _ _::g=>(σ[jM b d]? == some (jM b' d))&&jT σ b b' g
 | .nls d _ _::g=>(σ[jM b d]? == some (jM b' d))&&jT σ b b' g
 | .ob id _ _::g=>(σ[id]? == some id)&&jT σ b b' g
 | .ar id _ _::g=>(σ[id]? == some id)&&jT σ b b' g
 | .op id _ _::g=>(σ[id]? == some id)&&jT σ b b' g
 | .row id ks::g=>(σ[id]? == some id)&&(rN σ ks (sB b id) (sB b' id)&&(rM σ ks (sB b id)&&(qF4 b b' id&&jT σ b b' g)))
def qaV (σ:List Nat):XO->Bool
 | .raw (.live o)=>o.rows.all (·.all (IT σ 6))
 | .raw .dead=>true
 | .raw .free=>false
 | .row1 _ _ _ _ _=>false
 |_=>true
def TD:List Nat->Bool
 | []=>true
 |x::xs=>!xs.contains x&&TD xs
def qOQ (σ gi:List Nat):List XO->Nat->Bool
 | [],_=>true
 |o::r,j=>(gi.contains j||(qaV σ o&&(σ[j]? == some j)))&&qOQ σ gi r (j+1)
def qO0 (n0:Nat) (σ:List Nat):Bool:=(List.range n0).all fun j=>σ[j]? == some j
def Y.bs (s:Y):Bs:=⟨s.sl,s.h⟩
def okG (n0:Nat) (W:List Nat) (g:List GK) (s1 s':Y) (σ:List Nat):Bool:=
 TD σ&&qO0 n0 σ&&σ.all (fun i=>Nat.blt i s'.h.length)&&jT σ s1.bs s'.bs g&&(kU W s1.sl).all (IT σ 6)&&qOQ σ (gids s1.bs g) s1.h 0 &&
  s'.tch.all (fun j=>(gids s1.bs g).contains j||Nat.ble s1.h.length j)&&(gslots g).all (fun d=>W.contains d)
def arrive (n0:Nat) (W:List Nat) (g:List GK) (s1 s':Y) (k:Tup (gts g)->Prop):Prop:=
 match rdG g s'.sl s'.h with
 |some y=>needs (cdG s'.h s'.sl g) (AG s1.bs s'.bs g (Kern (okG n0 W g s1 s' (sig g s1.bs s'.bs (List.range s1.h.length)))/\k y))
 |none=>False
def JT:List GK->List V->List XO->(List V->List XO->Prop)->Prop
 | [],sl,h,K=>K sl h
 | .lst d t e::g,sl,h,K=>match sl[d]? with
   |some (.v (.slice none 0 0))=>fN h.length fun n=>iH sl d (.oL n 0) fun sl=>fH (h++ [XO.opt t [] e]) fun h=>JT g sl h K
   |_=>JT g sl h K
 |_::g,sl,h,K=>JT g sl h K
def eG (n:Nat):List CK->List V->List V×List XO
 | .own t e::ks,c::r=>match c with
   | .v (.slice none 0 0)=>(.oL n 0::(eG (n+1) ks r).1,.opt t [] e::(eG (n+1) ks r).2)
   |c=>(c::(eG n ks r).1,(eG n ks r).2)
 |_::ks,c::r=>(c::(eG n ks r).1,(eG n ks r).2)
 |_,r=>(r,[])
def ED:List GK->List XO->(List XO->Prop)->Prop
 | .row id ks::g,h,K=>match h[id]? with
   |some (.raw (.live o))=>(match o.rows with
    | [r]=>match eG h.length ks r with
      |(r',new)=>fH ((h++new).set id (.raw (.live ⟨o.sz,[r'],o.elem⟩))) fun h=>ED g h K
    |_=>ED g h K)
   |_=>ED g h K
 |_::g,h,K=>ED g h K
 | [],h,K=>K h
def mT:List GK->List Nat
 | []=>[]
 | .row id _::g=>id::mT g
 |_::g=>mT g
theorem fE {b:Bs}:∀ {g:List GK} {j:Nat},j∈mT g->j∈gids b g
 | .sl _ _::g,j,h=>fE (g:=g) h
 | .lst _ _ _::g,j,h=>gb _ (fE (g:=g) h)
 | .nls _ _ _::g,j,h=>gb _ (fE (g:=g) h)
 | .ob _ _ _::g,j,h=>gb _ (fE (g:=g) h)
 | .ar _ _ _::g,j,h=>gb _ (fE (g:=g) h)
 | .op _ _ _::g,j,h=>gb _ (fE (g:=g) h)
 | .row id ks::g,j,h=>by
   simp only[mT,gj]at h;simp only[gids,gj,gh];exact h.imp (fun q=>q) fun q=>.inr (fE (g:=g) q)
def zS (g:List GK) (sl:List V) (h:List XO) (K:List V->List XO->Prop):Prop:=JT g sl h fun sl h=>ED g h fun h=>K sl h
theorem SR.dead {sl:List V} {h:Heap} {ι:Iota} {a:Act} {w:World} (r:SR ⟨sl,h⟩ ι a w):SR ⟨sl,h++ [.dead]⟩ ι a w/\Evolve h ι w (h++ [.dead]) ι w:=by
 obtain⟨r1,ev1⟩:=r.reserve 1;have hf:(h++gk 1 HS.free)[h.length]? =some .free:=sm
 obtain⟨h2,ev2⟩:=r1.heap.fill hf;have hd:(h++gk 1 HS.free).set h.length .dead=h++ [.dead]:=sm
 simp only[hd]at h2 ev2;exact⟨⟨r1.defers,r1.slots.mono ev2,h2⟩,ev1.trans ev2⟩
theorem SR.deads {sl:List V} {ι:Iota} {a:Act} {w:World}:∀(n:Nat) {h:Heap},SR ⟨sl,h⟩ ι a w->SR ⟨sl,h++gk n .dead⟩ ι a w/\Evolve h ι w (h++gk n .dead) ι w
 |0,h,r=>by simp only[List.replicate_zero,gy];exact⟨r,Evolve.refl _ _ _⟩
 |n+1,h,r=>by
  obtain⟨r1,ev1⟩:=r.dead;obtain⟨r2,ev2⟩:=SR.deads n r1;have e:h++ [HS.dead]++gk n HS.dead=h++gk (n+1) .dead:=by rw[List.append_assoc];rfl
  rw[e]at r2 ev2;exact⟨r2,ev1.trans ev2⟩
theorem LE.oL0 (n:Nat):LE (.v (.slice none 0 0)) (.oL n 0):=fun r=>.oL _ _ _ (by rw[if_pos rfl];exact r)
theorem lN:∀(g:List GK) (sl:List V) (h:List XO) (K:List V->List XO->Prop),JT g sl h K ->
  ∃sl' h',K sl' h'/\sl'.length=sl.length/\(∀i,¬i∈gslots g->sl'[i]? =sl[i]?)/\h.length<=h'.length/\(∀j,j<h.length->h'[j]? =h[j]?) /\
   ∀ {ι:Iota} {a:Act} {w:World},SR ⟨sl,dens h⟩ ι a w->SR ⟨sl',dens h'⟩ ι a w/\Evolve (dens h) ι w (dens h') ι w
 | [],sl,h,K,q=>⟨sl,h,q,rfl,fun _ _=>rfl,gf _,fun _ _=>rfl,fun r=>⟨r,Evolve.refl _ _ _⟩⟩
 | .sl d _::g,sl,h,K,q=>by
   obtain⟨sl',h',q1,q2,q3,q4⟩:=lN g sl h K q;exact⟨sl',h',q1,q2,fun i hi=>q3 i (fun q=>hi (by simp [gslots,q])),q4⟩
 | .nls d _ _::g,sl,h,K,q=>by
   obtain⟨sl',h',q1,q2,q3,q4⟩:=lN g sl h K q;exact⟨sl',h',q1,q2,fun i hi=>q3 i (fun q=>hi (by simp [gslots,q])),q4⟩
 | .ob _ _ _::g,sl,h,K,q=>lN g sl h K q
 | .ar _ _ _::g,sl,h,K,q=>lN g sl h K q
 | .op _ _ _::g,sl,h,K,q=>lN g sl h K q
 | .row _ _::g,sl,h,K,q=>lN g sl h K q
 | .lst d t e::g,sl,h,K,q=>by
   have skip:JT g sl h K->∃sl' h',K sl' h'/\sl'.length=sl.length/\(∀i,¬i∈gslots (.lst d t e::g)->sl'[i]? =sl[i]?)/\h.length<=h'.length/\(∀j,j<h.length->h'[j]? =h[j]?) /\
     ∀ {ι:Iota} {a:Act} {w:World},SR ⟨sl,dens h⟩ ι a w->SR ⟨sl',dens h'⟩ ι a w/\Evolve (dens h) ι w (dens h') ι w:=fun q=>by
    obtain⟨sl',h',q1,q2,q3,q4⟩:=lN g sl h K q;exact⟨sl',h',q1,q2,fun i hi=>q3 i (fun q=>hi (by simp [gslots,q])),q4⟩
   simp only[JT]at q;split at q
   ·rename_i hd
    rw[iD,cG,eQ]at q;obtain⟨sl',h',q1,q2,q3,q4,q5,q6⟩:=lN g _ _ K q;refine⟨sl',h',q1,by simpa using q2,fun i hi=>?_,by simp at q4;omega,fun j hj=>?_,fun{ι a w} r=>?_⟩
    ·simp only[gslots,gj,not_or]at hi
     rw[q3 i hi.2,ga (Ne.symm hi.1)]
    ·rw[q5 j (by simp;omega),ge hj]
    ·obtain⟨r1,ev1⟩:=r.dead
     have hden:dens h++ [HS.dead]=dens (h++ [XO.opt t [] e]):=by simp [dens,XO.den]
     rw[hden]at r1 ev1;obtain⟨r2,ev2⟩:=q6 (r1.setLE hd (LE.oL0 h.length));exact⟨r2,ev1.trans ev2⟩
   ·exact skip q
theorem mO:∀(ks:List CK) (r:List V) (n:Nat),(eG n ks r).1.length=r.length/\dens (eG n ks r).2=gk (eG n ks r).2.length .dead/\∀(i:Nat) (x y:V),r[i]? =some x->(eG n ks r).1[i]? =some y->LE x y
 | [],r,n=>⟨by cases r<;>rfl,by cases r<;>rfl,fun i x y h1 h2=>by cases r<;>(simp [eG]at h2 h1;try(rw[h1]at h2;injection h2 with h2;subst h2;exact LE.refl _))⟩
 | .same::_,[],n=>⟨rfl,rfl,fun i x y h=>by simp at h⟩
 | .osf _::_,[],n=>⟨rfl,rfl,fun i x y h=>by simp at h⟩
 | .val _::_,[],n=>⟨rfl,rfl,fun i x y h=>by simp at h⟩
 | .own _ _::_,[],n=>⟨rfl,rfl,fun i x y h=>by simp at h⟩
 | .ows _ _::_,[],n=>⟨rfl,rfl,fun i x y h=>by simp at h⟩
 | .same::ks,c::r,n=>by
   obtain⟨q1,q2,q3⟩:=mO ks r n;exact⟨by simp [eG,q1],q2,fun i x y h1 h2=>by
    cases i with
    |zero=>simp [eG]at h1 h2;rw[<-h1,<-h2];exact LE.refl _
    |succ i=>exact q3 i x y (by simpa using h1) (by simpa [eG]using h2)⟩
 | .val _::ks,c::r,n=>by
   obtain⟨q1,q2,q3⟩:=mO ks r n;exact⟨by simp [eG,q1],q2,fun i x y h1 h2=>by
    cases i with
    |zero=>simp [eG]at h1 h2;rw[<-h1,<-h2];exact LE.refl _
    |succ i=>exact q3 i x y (by simpa using h1) (by simpa [eG]using h2)⟩
 | .osf _::ks,c::r,n=>by
   obtain⟨q1,q2,q3⟩:=mO ks r n;exact⟨by simp [eG,q1],q2,fun i x y h1 h2=>by
    cases i with
    |zero=>simp [eG]at h1 h2;rw[<-h1,<-h2];exact LE.refl _
    |succ i=>exact q3 i x y (by simpa using h1) (by simpa [eG]using h2)⟩
 | .own t e::ks,c::r,n=>by
   obtain⟨p1,p2,p3⟩:=mO ks r (n+1);obtain⟨q1,q2,q3⟩:=mO ks r n;simp only[eG];split
   ·refine⟨by simp [p1],by simp only[List.length_cons,List.replicate_succ,<-p2];rfl,fun i x y h1 h2=>?_⟩
    cases i with
    |zero=>simp at h1 h2;rw[<-h1,<-h2];exact LE.oL0 _
    |succ i=>exact p3 i x y (by simpa using h1) (by simpa using h2)
   ·refine⟨by simp [q1],q2,fun i x y h1 h2=>?_⟩
    cases i with
    |zero=>simp at h1 h2;rw[<-h1,<-h2];exact LE.refl _
    |succ i=>exact q3 i x y (by simpa using h1) (by simpa using h2)
 | .ows _ _::ks,c::r,n=>by
   obtain⟨q1,q2,q3⟩:=mO ks r n;exact⟨by simp [eG,q1],q2,fun i x y h1 h2=>by
    cases i with
    |zero=>simp [eG]at h1 h2;rw[<-h1,<-h2];exact LE.refl _
    |succ i=>exact q3 i x y (by simpa using h1) (by simpa [eG]using h2)⟩
theorem lO:∀(g:List GK) (h:List XO) (K:List XO->Prop),ED g h K ->
  ∃h',K h'/\h.length<=h'.length/\(∀j,j<h.length->¬j∈mT g->h'[j]? =h[j]?) /\
   ∀ {sl:List V} {ι:Iota} {a:Act} {w:World},SR ⟨sl,dens h⟩ ι a w->SR ⟨sl,dens h'⟩ ι a w/\Evolve (dens h) ι w (dens h') ι w
 | [],h,K,q=>⟨h,q,gf _,fun _ _ _=>rfl,fun r=>⟨r,Evolve.refl _ _ _⟩⟩
 | .sl _ _::g,h,K,q=>lO g h K q
 | .lst _ _ _::g,h,K,q=>lO g h K q
 | .nls _ _ _::g,h,K,q=>lO g h K q
 | .ob _ _ _::g,h,K,q=>lO g h K q
 | .ar _ _ _::g,h,K,q=>lO g h K q
 | .op _ _ _::g,h,K,q=>lO g h K q
 | .row id ks::g,h,K,q=>by
   have skip:ED g h K->∃h',K h'/\h.length<=h'.length/\(∀j,j<h.length->¬j∈mT (.row id ks::g)->h'[j]? =h[j]?) /\
     ∀ {sl:List V} {ι:Iota} {a:Act} {w:World},SR ⟨sl,dens h⟩ ι a w->SR ⟨sl,dens h'⟩ ι a w/\Evolve (dens h) ι w (dens h') ι w:=fun q=>by
    obtain⟨h',q1,q2,q3,q4⟩:=lO g h K q;exact⟨h',q1,q2,fun j hj hn=>q3 j hj (fun hb=>hn (by simp [mT,hb])),q4⟩
   simp only[ED]at q;split at q
   ·rename_i o ho
    split at q
    ·rename_i r hr
     rw[eQ]at q;obtain⟨n1,n2,n3⟩:=mO ks r h.length;generalize hr':(eG h.length ks r).1=r' at n1 n3 q;generalize hnew:(eG h.length ks r).2=new at n2 q;obtain⟨h',q1,q2,q3,q4⟩:=lO g _ K q;have hid:=aI ho;refine⟨h',q1,by simp at q2;omega,fun j hj hn=>?_,fun{sl ι a w} r0=>?_⟩
     ·rw[q3 j (by simp;omega) (fun hb=>hn (by simp [mT,hb])),ga (fun q=>hn (by simp [mT,q])),ge hj]
     ·obtain⟨r1,ev1⟩:=SR.deads new.length r0
      rw[<-n2,<-nN]at r1 ev1;have hd:(dens (h++new))[id]? =some (.live o):=by rw[aJ,ge hid,ho];rfl
      obtain⟨H2,ev2⟩:=r1.heap.weakObj (o':=⟨o.sz,[r'],o.elem⟩) hd rfl rfl (by rw[hr];rfl) (fun i r1 r2 h1 h2=>by
       rw[hr]at h1;cases i with
       |zero=>simp at h1 h2;subst h1 h2;exact⟨n1.symm,n3⟩
       |succ i=>simp at h1)
      have e:(dens (h++new)).set id (.live ⟨o.sz,[r'],o.elem⟩)=dens ((h++new).set id (.raw (.live ⟨o.sz,[r'],o.elem⟩))):=by rw[aX];rfl
      simp only[e]at H2 ev2;obtain⟨r3,ev3⟩:=q4 (sl:=sl) (ι:=ι) (a:=a) (w:=w) ⟨r1.defers,r1.slots.mono ev2,H2⟩;exact⟨r3,(ev1.trans ev2).trans ev3⟩
    ·exact skip q
   ·exact skip q
theorem zT {g:List GK} {sl:List V} {h:List XO} {K:List V->List XO->Prop} (q:zS g sl h K) :
  ∃sl' h',K sl' h'/\sl'.length=sl.length/\(∀i,¬i∈gslots g->sl'[i]? =sl[i]?)/\h.length<=h'.length/\(∀j,j<h.length->¬j∈mT g->h'[j]? =h[j]?) /\
   ∀ {ι:Iota} {a:Act} {w:World},SR ⟨sl,dens h⟩ ι a w->SR ⟨sl',dens h'⟩ ι a w/\Evolve (dens h) ι w (dens h') ι w:=by
 obtain⟨sl',h1,q1,q2,q3,q4,q5,q6⟩:=lN g sl h _ q;obtain⟨h',r1,r2,r3,r4⟩:=lO g h1 _ q1;refine⟨sl',h',r1,q2,q3,Nat.le_trans q4 r2,fun j hj hn=>(r3 j (kc hj q4) hn).trans (q5 j hj),fun{ι a w} r=>?_⟩;obtain⟨s1,e1⟩:=q6 r;obtain⟨s2,e2⟩:=r4 s1;exact⟨s2,e1.trans e2⟩
def sD (h:List XO):List (Nat×XO)->List XO
 | []=>h
 |p::r=>sD (h.set p.1 p.2) r
def pden (l:List (Nat×XO)):List (Nat×HS):=l.map fun p=>(p.1,p.2.den)
theorem sS:∀(l:List (Nat×XO)) (h:List XO),dens (sD h l)=bB (dens h) (pden l)
 | [],_=>rfl
 |p::r,h=>by
  show dens (sD (h.set p.1 p.2) r)=bB ((dens h).set p.1 p.2.den) (pden r);rw[sS r,aX]
def ovX (F:List Nat) (h:List XO):Heap->Nat->List XO
 | [],_=>[]
 |c::k,i=>(if F.contains i then(match h[i]? with
  |some o=>o
  |none=>.raw c)else .raw c)::ovX F h k (i+1)
theorem vU {F:List Nat} {h:List XO}:∀ {k:Heap} {i:Nat},(∀j,(i+j)∈F->k[j]? =(dens h)[i+j]?)->dens (ovX F h k i)=k
 | [],i,_=>rfl
 |c::k,i,hk=>by
  have ih:=vU (F:=F) (h:=h) (k:=k) (i:=i+1) (fun j hj=>by
   have:=hk (j+1) (by rwa [show i+(j+1)=i+1+j by omega]);rwa [show i+(j+1)=i+1+j by omega]at this)
  have hd:dens (ovX F h (c::k) i)=XO.den (if F.contains i then(match h[i]? with|some o=>o|none=>.raw c)else .raw c)::dens (ovX F h k (i+1)):=rfl
  rw[hd,ih];congr 1
  by_cases hw:i∈F
  ·rw[if_pos (by simpa using hw)]
   have:=hk 0 (by simpa using hw);rw[kd,aJ]at this;cases hq:h[i]? with
   |none=>rfl
   |some o=>rw[hq]at this;simp at this;exact this.symm
  ·rw[if_neg (by simpa using hw)];rfl
theorem vV {F:List Nat} {h:List XO}:∀ {k:Heap} {i j:Nat},(i+j)∈F->k[j]? =(dens h)[i+j]? ->(ovX F h k i)[j]? =h[i+j]?
 | [],i,j,hj,hk=>by
   rw[aJ]at hk;cases hq:h[i+j]? with
   |none=>simp [ovX]
   |some o=>rw[hq]at hk;simp at hk
 |c::k,i,0,hj,hk=>by
  rw[kd]at hj hk ⊢;rw[aJ]at hk;simp only[ovX,gr];rw[if_pos (by simpa using hj)];cases hq:h[i]? with
  |none=>rw[hq]at hk;simp at hk
  |some o=>rfl
 |c::k,i,j+1,hj,hk=>by
  simp only[ovX,gt];rw[show i+(j+1)=i+1+j by omega]at hj hk ⊢;exact vV hj (by simpa using hk)
theorem MH {h h2:List XO} {ty:Ty} {e:TypeId}:∀ {x:V},(∀id,id∈aO x->h2[id]? =h[id]?)->bsX h2 ty e x=bsX h ty e x
 | .sO id 0 len,hx=>by simp only[bsX];rw[hx id (by simp [aO])]
 | .sO id (n+1) len,hx=>rfl
 | .oL id n,hx=>by simp only[bsX];rw[hx id (by simp [aO])]
 | .v x,_=>by unfold bsX;split<;>first|rfl|simp_all
 | .any,_=>rfl
 | .pF _ _,_=>rfl
 | .pO _ _ _,_=>rfl
 | .sF _ _,_=>rfl
 | .agg _,_=>rfl
 | .tup _,_=>rfl
 | .fn _ _ _,_=>rfl
 | .ifc _ _,_=>rfl
 | .sL _ _,_=>rfl
theorem PU {h h2:List XO} {ty:Ty}:∀ {x:V},(∀id,id∈aO x->h2[id]? =h[id]?)->rdX h2 ty x=rdX h ty x
 | .sO id off len,hx=>by simp only[rdX];rw[hx id (by simp [aO])]
 | .oL id n,hx=>by simp only[rdX];rw[hx id (by simp [aO])]
 | .v x,_=>by unfold rdX;split<;>first|rfl|simp_all
 | .any,_=>rfl
 | .pF _ _,_=>rfl
 | .pO _ _ _,_=>rfl
 | .sF _ _,_=>rfl
 | .agg _,_=>rfl
 | .tup _,_=>rfl
 | .fn _ _ _,_=>rfl
 | .ifc _ _,_=>rfl
 | .sL _ _,_=>rfl
theorem qJ6 {P:Program} {h h':List XO} {new:Nat} {t:TypeId} {same:Bool} {n m:Int} {cs:List Bool} {x:V} (e:dmake P h new t same n m=some (cs,x,h')) :
  ∃o:XO,h'=h.set new o/\∀h2,dmake P h2 new t same n m=some (cs,x,h2.set new o):=by
 unfold dmake at e;split at e
 ·rename_i el hu
  split at e
  ·rename_i ty s zs b hty hs hz hb
   split at e
   ·rename_i hsz
    split at e
    ·rename_i d hd
     injection e with e;injection e with e1 e2;injection e2 with e2 e3;subst e1 e2 e3;exact⟨_,rfl,fun h2=>by simp only[dmake,hu,hty,hs,hz,hb,if_pos hsz,hd]⟩
    ·cases e
   ·cases e
  ·cases e
 ·cases e
theorem SI {P:Program} {h h':List XO} {new:Nat} {s d:TypeId} {v:V} {cs:List Bool} {x:V} (e:nP P h new s d v=some (cs,x,h')) :
  ∃o:XO,h'=h.set new o/\∀h2,nP P h2 new s d v=some (cs,x,h2.set new o):=by
 unfold nP at e;split at e
 ·rename_i b el hs hd
  split at e
  ·rename_i hel
   injection e with e;injection e with e1 e2;injection e2 with e2 e3;subst e1 e2 e3;exact⟨_,rfl,fun h2=>by simp only[nP,hs,hd,hel]⟩
  ·cases e
 ·cases e
theorem WA {P:Program} {h h':List XO} {new:Nat} {tys:Array TypeId} {v u:V} {cs:List Bool} {x:V} (e:dappend P h new tys v u=some (cs,x,h')) :
  ∃(k:Option Nat) (o:XO),(∀id,k=some id->id∈aO v)/\h'=(dO h k).set new o/\∀h2:List XO,(∀id,id∈aO v->h2[id]? =h[id]?)->(∀id,id∈aO u->h2[id]? =h[id]?)->dappend P h2 new tys v u=some (cs,x,(dO h2 k).set new o):=by
 unfold dappend at e;split at e
 ·rename_i t0 t1 ht0 ht1
  split at e
  ·rename_i el hu
   split at e
   ·rename_i hst
    split at e
    ·rename_i ty s b zs hty hs hb hz
     split at e
     ·rename_i hsz
      split at e
      ·rename_i c1 l1 k ez c2 l2 hbs hrd
       injection e with e;injection e with e1 e2;injection e2 with e2 e3;subst e1 e2 e3;refine⟨k,_,RP hbs,rfl,fun h2 h3 h4=>?_⟩;have q1:=(MH (ty:=ty) (e:=el) h3).trans hbs;have q2:=(PU (ty:=ty) h4).trans hrd;simp only[dappend,ht0,ht1,hu,if_pos hst,hty,hs,hb,hz,if_pos hsz,q1,q2]
      ·cases e
     ·cases e
    ·cases e
   ·cases e
  ·cases e
 ·cases e
theorem SC {P:Program} {h h':List XO} {new:Nat} {tys:Array TypeId} {v u:V} {cs:List Bool} {x:V} (e:nM P h new tys v u=some (cs,x,h')) :
  ∃(k:Option Nat) (o:XO),(∀id,k=some id->id∈aO v)/\h'=(dO h k).set new o/\∀h2:List XO,(∀id,id∈aO v->h2[id]? =h[id]?)->(∀id,id∈aO u->h2[id]? =h[id]?)->nM P h2 new tys v u=some (cs,x,(dO h2 k).set new o):=by
 unfold nM at e;split at e
 ·rename_i t0 t1 ht0 ht1
  split at e
  ·rename_i el hu
   split at e
   ·rename_i hst
    split at e
    ·rename_i ty s b zs hty hs hb hz
     split at e
     ·rename_i hsz
      split at e
      ·rename_i c1 l1 k ez c2 l2 hbs hrd
       injection e with e;injection e with e1 e2;injection e2 with e2 e3;subst e1 e2 e3;refine⟨k,_,RP hbs,rfl,fun h2 h3 h4=>?_⟩;have q1:=(MH (ty:=ty) (e:=el) h3).trans hbs;have q2:=(PU (ty:=ty) h4).trans hrd;simp only[nM,ht0,ht1,hu,if_pos hst,hty,hs,hb,hz,if_pos hsz,q1,q2]
      ·cases e
     ·cases e
    ·cases e
   ·cases e
  ·cases e
 ·cases e
theorem qN2 {P:Program} {h h':List XO} {new:Nat} {tys:Array TypeId} {v u:V} {cs:List Bool} {x:V} (e:dapp P h new tys v u=some (cs,x,h')) :
  ∃(k:Option Nat) (o:XO),(∀id,k=some id->id∈aO v)/\h'=(dO h k).set new o/\∀h2:List XO,(∀id,id∈aO v->h2[id]? =h[id]?)->(∀id,id∈aO u->h2[id]? =h[id]?)->dapp P h2 new tys v u=some (cs,x,(dO h2 k).set new o):=by
 cases v with
 |sO a b c=>exact SC e
 |_=>exact WA e
theorem qBR {P:Program} {o:Op} {ev:Operand->V} {h h':List XO} {new:Nat} {cs:List Bool} {x:V} (e:dalloc P o ev h new=some (cs,x,h')) :
  ∃post:List (Nat×XO),(∀p,p∈post->p.1∈wids o ev new)/\h'=sD h post/\∀(ev2:Operand->V) (h2:List XO),(∀a,a∈o.operands->ev2 a=ev a)->(∀id,id∈foot o ev->h2[id]? =h[id]?)->dalloc P o ev2 h2 new=some (cs,x,sD h2 post):=by
 unfold dalloc at e;split at e
 ·rename_i t l c
  split at e
  ·rename_i k n k' m hl hm
   obtain⟨o,rfl,q⟩:=qJ6 e;refine⟨[(new,o)],fun p hp=>by simp at hp;subst hp;simp [wids],rfl,fun ev2 h2 he _=>?_⟩;have e1:=(he l (by simp [Op.operands])).trans hl;have e2:=(he c (by simp [Op.operands])).trans hm;simp only[dalloc,e1,e2];exact q h2
  ·cases e
 ·rename_i s d X
  obtain⟨o,rfl,q⟩:=SI e;refine⟨[(new,o)],fun p hp=>by simp at hp;subst hp;simp [wids],rfl,fun ev2 h2 he _=>?_⟩;simp only[dalloc,he X (by simp [Op.operands])];exact q h2
 ·rename_i c
  obtain⟨callee,args,tys⟩:=c;(try simp only at e);split at e
  ·rename_i X Y ha
   split at e
   ·rename_i h2s
    obtain⟨k,o',hk,rfl,q⟩:=qN2 e;have mx:X∈args:=by rw[<-ka,ha];simp
    have my:Y∈args:=by rw[<-ka,ha];simp
    have fin:∀(ev2:Operand->V) (h2:List XO),(∀a,a∈(Op.call ⟨.builtin .append,args,tys⟩).operands->ev2 a=ev a)->(∀id,id∈foot (.call ⟨.builtin .append,args,tys⟩) ev->h2[id]? =h[id]?) ->
      dalloc P (.call ⟨.builtin .append,args,tys⟩) ev2 h2 new=some (cs,x,(dO h2 k).set new o'):=by
     intro ev2 h2 he hh;have e1:=he X (by simp [Op.operands,Call.operands,mx]);have e2:=he Y (by simp [Op.operands,Call.operands,my]);simp only[dalloc,ha,if_pos h2s,e1,e2];exact q h2 (fun id hid=>hh id (by simp [foot,ha,hid])) (fun id hid=>hh id (by simp [foot,ha,hid]))
    cases k with
    |none=>exact⟨[(new,o')],fun p hp=>by simp at hp;subst hp;simp [wids],rfl,fin⟩
    |some id=>
     refine⟨[(id,.raw .dead),(new,o')],fun p hp=>?_,rfl,fin⟩;simp only[gj,go,or_false]at hp;rcases hp with rfl|rfl
     ·simp [wids,ha,hk id rfl]
     ·simp [wids]
   ·cases e
  ·cases e
 ·cases e
theorem AO.congr {P:Program} {op:Op} {ev ev2:Operand->V} {k k':Heap} {new:Nat} {x:V} (he:∀a,a∈op.operands->ev2 a=ev a) (a:AO P op ev k new x k'):AO P op ev2 k new x k':=by
 obtain⟨e,x',h1,h2,h3⟩:=a;classical
 refine⟨fun b=>if b∈op.operands then e b else ev2 b,x',fun b=>?_,h2,?_⟩
 ·by_cases hb:b∈op.operands
  ·simp only[if_pos hb];rw[he b hb];exact h1 b
  ·simp only[if_neg hb];exact⟨LE.refl _,fun _ q=>q⟩
 ·rw[<-h3]
  exact LW (fun b hb=>by simp [hb]) k new
section
variable {P:Program} {ops:Array Oper}
theorem qSA {i:Nat} {o:Oper} {s:St} {x:V} {h':Heap} (ho:ops[i]? =some o) (hw:awanted ops s.sl o=some true)
  (hos:∀ {ι:Iota} {a:Act} {w:World},SR s ι a w->OS P s.h ι w (execOp a.eval o) (some (x,h'))):WO P ops i s ⟨sput s.sl o.dst x,h'⟩:=by
 intro ι a w K Q r hk;simp only[wpOp,ho];rw[if_pos (eY r hw)];left;unfold Oper.wp;obtain⟨y,w',ι',h1,h2,h3,ev⟩:=hos r x h' rfl;have r':SR ⟨sput s.sl o.dst x,h'⟩ ι' (a.put o.dst y) w':=⟨by rw[gD];exact r.defers,(r.slots.mono ev).put o.dst h2,h3⟩
 rcases h1 with h1|⟨h1,rfl⟩
 ·rw[h1];exact hk _ _ _ r' ev
 ·rw[h1];exact hk _ _ _ r' ev
def QI (P:Program) (fl:Bool) (o:Op) (sl:List V) (h:List XO) (new:Nat) (K:V->List XO->Prop):Prop:=
 match qFI o (aev sl) h with
 |some (b,x,y)=>br b (fV x fun x=>K x h) (fV y fun y=>K y h)
 |none=>match dpure P fl o (aev sl) h with
 |some (cs,x)=>needs cs (fV x fun x=>K x h)
 |none=>match dst P o (aev sl) h with
  |some (cs,x,h')=>needs cs (fH h' fun h'=>K x h')
  |none=>match dalloc P o (aev sl) h new with
   |some (cs,x,h')=>needs cs (fV x fun x=>fH h' fun h'=>K x h')
   |none=>match aop P o (aev sl) (dens h) new with
    |some (x,h')=>match wids o (aev sl) new with
     | []=>fV x fun x=>K x h
     |ws=>fV x fun x=>fH (reb h ws h' 0) fun h'=>K x h'
    |none=>False
def qCY (h:Heap) (F:List Nat):List (Nat×Option HS):=F.map fun id=>(id,h[id]?)
theorem nR {h:Heap} {F:List Nat} {k:Heap} (a:AX (qCY h F) k) (id:Nat) (hid:id∈F):k[id]? =h[id]?:=a (id,h[id]?) (List.mem_map_of_mem hid)
theorem qD3 {o:Oper} {i:Nat} {sl:List V} {h:Heap} {h':Heap} {new:Nat} {x:V} (ho:ops[i]? =some o) (hw:awanted ops sl o=some true) (hn:new<h.length) (a:AO P o.op (aev sl) h new x h') :
  ∃post:List (Nat×HS),(∀p,p∈post->p.1∈wids o.op (aev sl) new)/\h'=bB h post/\LS P ops i o ⟨sl,qCY h (foot o.op (aev sl)++ [new]),x,post⟩:=by
 obtain⟨post,p1,p2,p3⟩:=a.loc hn;refine⟨post,p1,p2,fun s ag ah=>?_⟩;have he:=kT ag;refine qSA ho (by rw[fA ag];exact hw) (fun r=>?_);exact(AO.congr he (p3 s.h (fun id hid=>nR ah id hid))).os r.heap (fun y=>eV r.slots y)
theorem qRD {fl:Bool} {o:Oper} {i:Nat} {sl:List V} {h:List XO} {new:Nat} {K:V->List XO->Prop} (ho:ops[i]? =some o) (hw:awanted ops sl o=some true) (hn:h[new]? =some (.raw .free)) (hs:QI P fl o.op sl h new K) :
  ∃(x:V) (h':List XO) (post:List (Nat×HS)),K x h'/\(∀p,p∈post->p.1∈wids o.op (aev sl) new)/\dens h'=bB (dens h) post/\LS P ops i o ⟨sl,qCY (dens h) (foot o.op (aev sl)++ [new]),x,post⟩:=by
 have hlt:new<(dens h).length:=by rw[eD];exact aI hn
 unfold QI at hs;split at hs
 ·rename_i b x y e
  simp only[dD]at hs;obtain⟨h1,h2⟩:=(gT _ _ _).1 hs;obtain⟨post,p1,p2,p3⟩:=qD3 ho hw hlt (XY (new:=new) e);cases b with
  |true=>exact⟨x,h,post,h1 rfl,p1,p2,p3⟩
  |false=>exact⟨y,h,post,h2 rfl,p1,p2,p3⟩
 split at hs
 ·rename_i cs x e
  obtain⟨hc,hK⟩:=bR hs;rw[dD]at hK;obtain⟨post,p1,p2,p3⟩:=qD3 ho hw hlt (WG (new:=new) e hc);exact⟨x,h,post,hK,p1,p2,p3⟩
 ·split at hs
  ·rename_i cs x h' e
   obtain⟨hc,hK⟩:=bR hs;rw[eQ]at hK;obtain⟨post,p1,p2,p3⟩:=qD3 ho hw hlt (qOG (new:=new) e hc);exact⟨x,h',post,hK,p1,p2,p3⟩
  ·split at hs
   ·rename_i cs x h' e
    obtain⟨hc,hK⟩:=bR hs;rw[dD,eQ]at hK;obtain⟨post,p1,p2,p3⟩:=qBR e;refine⟨x,h',pden post,hK,fun p hp=>?_,by rw[p2,sS],fun s ag ah=>?_⟩
    ·obtain⟨q,hq,rfl⟩:=ke.1 hp;exact p1 q hq
    ·have hF:=nR ah
     generalize hh2:ovX (foot o.op (aev sl)++ [new]) h s.h 0=h2;have hden:dens h2=s.h:=by rw[<-hh2];exact vU (fun j hj=>by rw[gc]at hj ⊢;exact hF j hj)
     have hget:∀id,id∈foot o.op (aev sl)++ [new]->h2[id]? =h[id]?:=fun id hid=>by
      have:=vV (F:=foot o.op (aev sl)++ [new]) (h:=h) (k:=s.h) (i:=0) (j:=id) (by rwa [gc]) (by rw[gc];exact hF id hid);rwa [gc,hh2]at this
     have e2:=p3 (aev s.sl) h2 (fun a ha=>kT ag a ha) (fun id hid=>hget id (gh.2 (.inl hid)));have hn2:h2[new]? =some (.raw .free):=(hget new sm).trans hn;have hw2:awanted ops s.sl o=some true:=by rw[fA ag];exact hw
     have:WO P ops i ⟨s.sl,dens h2⟩ ⟨sput s.sl o.dst x,dens (sD h2 post)⟩:=qSA ho hw2 (fun r=>OL e2 hc hn2 r.heap (fun y=>eV r.slots y));rw[sS,hden]at this;exact this
   ·split at hs
    ·rename_i x h' e
     have hlt:new<(dens h).length:=hlt;obtain⟨post,p1,p2,p3⟩:=qD3 ho hw hlt (AO.of e);split at hs
     ·rename_i hwd
      rw[dD]at hs;rw[hwd]at p1;have hpost:post= []:=by
       cases post with
       |nil=>rfl
       |cons p r=>exact absurd (p1 p sm) sm
      subst hpost;exact⟨x,h,[],hs,(fun p hp=>by cases hp),rfl,p3⟩
     ·rw[dD,eQ]at hs
      refine⟨x,_,post,hs,p1,?_,p3⟩;rw[<-p2];refine TT fun j t hj hnw=>?_
      rw[gc]at hnw ⊢;rw[p2,fF post _ (fun p hp q=>hnw (by rw[<-q];exact p1 p hp))]at hj;exact hj
    ·exact hs.elim
end
theorem qL2 {f:V->(t:Ty)->Option (List t.den)}:∀ {t:Ty} {cs:List V} {a:t.den} {r:List V},un f t cs=some (a,r)->∃pre,cs=pre++r:=by
 intro t;induction t with
 |pair a b iha ihb=>
  intro cs x r h;simp only[un]at h;split at h
  ·rename_i xa r1 h1
   split at h
   ·rename_i xb r2 h2
    injection h with h;injection h with e1 e2;subst e1 e2;obtain⟨p1,rfl⟩:=iha h1;obtain⟨p2,rfl⟩:=ihb h2;exact⟨p1++p2,sm⟩
   ·cases h
  ·cases h
 |_=>
  intro cs x r h;cases cs with
  |nil=>simp [un]at h
  |cons c cs=>
   simp only[un]at h;repeat' split at h
   all_goals first|(cases h;done)|(injection h with h;injection h with e1 e2;subst e2;exact⟨[_],rfl⟩)
theorem qAU {f g:V->(t:Ty)->Option (List t.den)}:∀ {t:Ty} {cs:List V},(∀c,c∈cs->∀t,f c t=g c t)->un f t cs=un g t cs:=by
 intro t;induction t with
 |list t _=>
  intro cs h;cases cs with
  |nil=>rfl
  |cons c cs=>simp only[un];rw[h c sm t]
 |pair a b iha ihb=>
  intro cs h;simp only[un];rw[iha h];split
  ·rename_i xa r1 h1
   obtain⟨p,rfl⟩:=qL2 h1;rw[ihb (cs:=r1) (fun c hc=>h c (by simp [hc]))]
  ·rfl
 |_=>intro cs h;cases cs<;>rfl
def WZ (x:V):List Nat:=match norm x with
 | .agg xs=>xs.flatMap aO
 |y=>aO y
theorem XA {x:V} {id:Nat} (h:id∈aO x):id∈WZ x:=by
 cases x with
 |v x=>cases h
 |_=>first|exact h|cases h
theorem qKM {x c:V} {t:Ty} {id:Nat} (hc:c∈fI t x) (h:id∈aO c):id∈WZ x:=by
 cases t with
 |pair a b=>
  simp only[fI]at hc;split at hc
  ·rename_i xs hx
   simp only[WZ,hx];exact gm.2 ⟨c,hc,h⟩
  ·cases hc
 |_=>simp only[fI,List.mem_singleton]at hc;subst hc;exact XA h
theorem PS {f g:V->(t:Ty)->Option (List t.den)}:∀ {ps:List Ty} {args:List V},(∀v,v∈args->∀t c,c∈fI t v->∀t,f c t=g c t)->rdA f ps args=rdA g ps args
 | [],[],_=>rfl
 | [],_::_,_=>rfl
 |_::_,[],_=>rfl
 |t::ts,v::vs,h=>by
  simp only[rdA];rw[qAU (h v sm t),PS (fun u hu=>h u (by simp [hu]))]
theorem PT {h h2:List XO} {lo:Nat} {t:Ty}:∀ {x:V},(∀id,id∈aO x->h2[id]? =h[id]?)->rdH h2 lo x t=rdH h lo x t
 | .sO id 0 len,hx=>by simp only[rdH];rw[hx id (by simp [aO])]
 | .sO id (n+1) len,hx=>rfl
 | .oL id n,hx=>by simp only[rdH];rw[hx id (by simp [aO])]
 | .v _,_=>rfl
 | .any,_=>rfl
 | .pF _ _,_=>rfl
 | .pO _ _ _,_=>rfl
 | .sF _ _,_=>rfl
 | .agg _,_=>rfl
 | .tup _,_=>rfl
 | .fn _ _ _,_=>rfl
 | .ifc _ _,_=>rfl
 | .sL _ _,_=>rfl
theorem uP {h h2:List XO}:∀ {x:V},(∀id,id∈aO x->h2[id]? =h[id]?)->fZ h2 x=fZ h x
 | .sO id off len,hx=>by simp only[fZ];rw[hx id (by simp [aO])]
 | .oL id n,hx=>by simp only[fZ];rw[hx id (by simp [aO])]
 | .v _,_=>rfl
 | .any,_=>rfl
 | .pF _ _,_=>rfl
 | .pO _ _ _,_=>rfl
 | .sF _ _,_=>rfl
 | .agg _,_=>rfl
 | .tup _,_=>rfl
 | .fn _ _ _,_=>rfl
 | .ifc _ _,_=>rfl
 | .sL _ _,_=>rfl
theorem lH {α β:Type} {f g:α->List β}:∀ {l:List α},(∀a,a∈l->f a=g a)->l.flatMap f=l.flatMap g
 | [],_=>rfl
 |a::l,h=>by rw[gn,gn,h a sm,lH fun b hb=>h b (by simp [hb])]
theorem qCJ {h h2:List XO} {args:List V} (hx:∀v,v∈args->∀id,id∈WZ v->h2[id]? =h[id]?):lens h2 args=lens h args:=by
 refine lH fun v hv=>?_
 cases v with
 |agg xs=>exact lH fun c hc=>uP fun id hid=>hx _ hv id (gm.2 ⟨c,hc,hid⟩)
 |_=>exact uP fun id hid=>hx _ hv id (XA hid)
def qDW (E:Env) (f:FuncId) (args:List V) (h:List XO) (new:Nat) (K:V->List XO->List Nat->List Nat->Prop):Prop:=
 match look E.T f with
 |some (.fn ps pre res)=>(match rdA (cN 8) ps args with
  |some x=>JS pre x (rG ps res x fun r=>fV r.val fun v=>K v h [] [])
  |none=>match rdA (rdH h 0) ps args with
   |some x=>rG ps res x fun r=>(match r.flat with
    |true=>JS pre x (needs (lens h args) (fV r.val fun v=>K v h (args.flatMap WZ) []))
    |false=>False)
   |none=>False)
 |some (.meth t e ps pre res post)=>(match args with
  | .pO j 0 0::rest=>match h[j]? with
    |some o=>(match LP t e o,rdA (cN 8) ps rest with
     |some a,some x=>YC pre a x (rG (t::ps) res (a,x) fun r=>fV r.val fun v=>rG (t::ps) post (a,x) fun b=>kR h j (.ob t b e) fun h=>K v h [j] [j])
     |_,_=>False)
    |_=>False
  |_=>False)
 |some (.new t e ps pre post)=>(match rdA (cN 8) ps args with
  |some x=>JS pre x (rG ps post x fun b=>match h[new]? with
   |some (.raw .free)=>kR h new (.ob t b e) fun h=>K (.pO new 0 0) h [new] [new]
   |_=>False)
  |none=>False)
 |some (.rd t ps pre res)=>(match args with
  | .pO j 0 0::rest=>(match h[j]? with
    |some o=>(match zX h t o,rdA (cN 8) ps rest with
     |some (a,row),some x=>rG (t::ps) res (a,x) fun r=>(match r.flat with
      |true=>YC pre a x (needs (row.flatMap (fZ h)) (fV r.val fun v=>K v h (j::row.flatMap aO) []))
      |false=>False)
     |_,_=>False)
    |none=>False)
  | .pF row 0::rest=>(match un (cN 8) t row,rdA (cN 8) ps rest with
    |some (a,[]),some x=>YC pre a x (rG (t::ps) res (a,x) fun r=>fV r.val fun v=>K v h [] [])
    |_,_=>False)
  |_=>False)
 |some (.bld wr e eb)=>(match wr,args with
  |true,.pO i 0 0::rest=>(match rest with
   | .v (.string s)::rest2=>(match rest2 with
     | []=>(match qT e eb h i,h[new]? with
       |some (_,cs,j,l,el),some (.raw .free)=>needs cs (need (decide (l.length+s.size<=70368744177664)) (kR h i (GI eb i new (l++aE s).length) fun h=>qYW j h fun h=>kR h new (.opt (.int .u8) (l++aE s) el) fun h=>K (wrR s.size) h (new::i::kE j []) (new::i::kE j [])))
       |_,_=>False)
     |_=>False)
   |_=>False)
  |false,.pO i 0 0::rest=>(match rest with
   | []=>(match qT e eb h i with
     |some (_,cs,j,l,_)=>needs cs (need (decide (l.length<=70368744177664)) (qYQ j e l h fun h=>K (.v (.string (aT l))) h (i::kE j []) (i::kE j [])))
     |none=>False)
   |_=>False)
  |_,_=>False)
 |_=>False
theorem CS {e eb:TypeId} {h h2:List XO} {i:Nat} {b:Bool} {cs:List Bool} {j:Option Nat} {l:List Int} {el:El} (hr:qT e eb h i=some (b,cs,j,l,el)) (hi:h2[i]? =h[i]?) (hj:∀k,j=some k->h2[k]? =h[k]?):qT e eb h2 i=some (b,cs,j,l,el):=by
 unfold qT at hr ⊢;rw[hi];split at hr
 ·rename_i o ho
  split at hr
  ·rename_i c0 c1 hrow
   split at hr
   ·rename_i b' hb hz
    split at hr
    ·rename_i j' n
     split at hr
     ·rename_i t l' e' hj'
      split at hr
      ·rename_i l'' hl he
       injection hr with hr;injection hr with e1 hr;injection hr with e2 hr;injection hr with e3 e4;injection e4 with e4 e5;subst e1 e2 e3 e4 e5;simp only[hrow,hb,hz,hj _ rfl,hj',hl,he]
      ·cases hr
     ·cases hr
    ·simp only[hrow,hb,hz,hr]
    ·cases hr
   ·cases hr
  ·cases hr
 ·cases hr
section
variable {ops:Array Oper}
theorem qMC {E:Env} (hT:aD E.P E.T) {f:FuncId} {args:List V} {o:Oper} {i new:Nat} {sl:List V} {h:List XO} {K:V->List XO->List Nat->List Nat->Prop} (ho:ops[i]? =some o) (hw:awanted ops sl o=some true)
  (hcall:jA E.P sl o.op=some (f,args)) (hs:qDW E f args h new K) :
  ∃(x:V) (h':List XO) (F W:List Nat) (post:List (Nat×HS)),K x h' F W/\(∀p,p∈post->p.1∈W)/\dens h'=bB (dens h) post/\LS E.P ops i o ⟨sl,qCY (dens h) F,x,post⟩/\h'.length=h.length/\∀j,¬j∈W->h'[j]? =h[j]?:=by
 have hcl:callable E.P f=true:=by
  unfold jA at hcall;repeat' split at hcall
  all_goals first|(cases hcall;done)|skip
  injection hcall with hcall;injection hcall with q _;subst q;assumption
 have hop:∀s:St,AY ops o sl s.sl->jA E.P s.sl o.op=some (f,args)/\awanted ops s.sl o=some true:=fun s ag=>⟨by rw[yU (kT ag)];exact hcall,by rw[fA ag];exact hw⟩
 unfold qDW at hs;split at hs
 ·rename_i ps pre res hl
  have hc:=hT _ _ hl;split at hs
  ·rename_i x hx
   obtain⟨hp,hs⟩:=jO hs;rw[eM,dD]at hs;refine⟨(cu ps res x).val,h,[],[],[],hs,(fun p hp=>by cases hp),rfl,fun s ag _=>?_,rfl,fun _ _=>rfl⟩;obtain⟨h1,h2⟩:=hop s ag;exact pE ho h2 h1 hcl (PC.args_LE (qE hx) ((hc x hp).2 s.h (fun _ q=>by cases q)))
  ·split at hs
   ·rename_i x hx
    rw[eM]at hs;split at hs
    ·rename_i hfl
     obtain⟨hp,hs⟩:=jO hs;obtain⟨hcs,hs⟩:=bR hs;rw[dD]at hs;refine⟨(cu ps res x).val,h,_,[],[],hs,(fun p hp=>by cases hp),rfl,fun s ag ah=>?_,rfl,fun _ _=>rfl⟩;obtain⟨h1,h2⟩:=hop s ag;have hF:=nR ah;generalize hh2:ovX (args.flatMap WZ) h s.h 0=hh;have hden:dens hh=s.h:=by rw[<-hh2];exact vU (fun j hj=>by rw[gc]at hj ⊢;exact hF j hj)
     have hget:∀id,id∈args.flatMap WZ->hh[id]? =h[id]?:=fun id hid=>by
      have:=vV (F:=args.flatMap WZ) (h:=h) (k:=s.h) (i:=0) (j:=id) (by rwa [gc]) (by rw[gc];exact hF id hid);rwa [gc,hh2]at this
     have hr:rdA (rdH hh 0) ps args=some x:=by
      rw[<-hx];exact PS fun v hv t c hc t'=>PT fun id hid=>hget id (gm.2 ⟨v,hv,qKM hc hid⟩)
     have hl2:dK (lens hh args):=by
      rw[qCJ fun v hv id hid=>hget id (gm.2 ⟨v,hv,hid⟩)];exact hcs
     have:=PC.read hfl (hc x hp) (qFW hr hl2);rw[hden]at this;exact pE ho h2 h1 hcl this
    ·exact hs.elim
   ·exact hs.elim
 ·rename_i t e ps pre res post hl
  have hc:=hT _ _ hl;split at hs
  ·rename_i j rest
   split at hs
   ·rename_i xo hob
    split at hs
    ·rename_i a x ha hx
     obtain⟨hp,hs⟩:=pJ hs;rw[eM,dD,eM,cJ]at hs;obtain⟨ob,o1,o2,o3,o4,o5⟩:=FL ha;refine⟨_,_,[j],[j],[(j,TG t e (cu ps (post a) x))],hs,(fun p hp=>by simp at hp;subst hp;simp),by rw[aX];rfl,fun s ag ah=>?_,sm,fun i hi=>ga (fun q=>hi (by simp [q]))⟩;obtain⟨h1,h2⟩:=hop s ag;have hd:s.h[j]? =some (.live ob):=by rw[nR ah j sm,aJ,hob];simp [o1]
     have hlt:=aI hd;refine pE ho h2 h1 hcl (PC.pre (h':=s.h.set j (TG t e a)) (fun{ι w} H=>H.weakObj hd o2.symm o3.symm o4 o5) ?_);refine PC.args_LE (LEs.cons (LE.refl _) (qE hx)) (PC.mono ((hc a x hp j).2 _ (fun p hp=>?_)) ?_)
     ·simp at hp;subst hp;rw[gx hlt]
     ·rintro y k ⟨rfl,rfl⟩
      exact⟨rfl,by simp [bB]⟩
    ·exact hs.elim
   ·exact hs.elim
  ·exact hs.elim
 ·rename_i t e ps pre post hl
  have hc:=hT _ _ hl;split at hs
  ·rename_i x hx
   obtain⟨hp,hs⟩:=jO hs;rw[eM]at hs;split at hs
   ·rename_i hfree
    rw[cJ]at hs;have hlt:=aI hfree;refine⟨_,_,[new],[new],[(new,.live ⟨t.size,[t.row (cu ps post x)],e⟩)],hs,(fun p hp=>by simp at hp;subst hp;simp),by rw[aX];rfl,fun s ag ah=>?_,sm,fun i hi=>ga (fun q=>hi (by simp [q]))⟩;obtain⟨h1,h2⟩:=hop s ag;have hd:s.h[new]? =some .free:=by rw[nR ah new sm,aJ,hfree];rfl
    refine pE ho h2 h1 hcl (PC.args_LE (qE hx) (PC.mono (hc x hp s.h new _ (gS hd)) ?_));rintro y k ⟨rfl,rfl⟩;exact⟨rfl,by simp [bB]⟩
   ·exact hs.elim
  ·exact hs.elim
 ·rename_i t ps pre res hl
  have hc:=hT _ _ hl;split at hs
  ·rename_i j rest
   split at hs
   ·rename_i xo hob
    split at hs
    ·rename_i a row x ha hx
     rw[eM]at hs;split at hs
     ·rename_i hfl
      obtain⟨hp,hs⟩:=pJ hs;obtain⟨hcs,hs⟩:=bR hs;rw[dD]at hs;refine⟨_,h,j::row.flatMap aO,[],[],hs,(fun p hp=>by cases hp),rfl,fun s ag ah=>?_,rfl,fun _ _=>rfl⟩;obtain⟨h1,h2⟩:=hop s ag;have hF:=nR ah;generalize hh2:ovX (j::row.flatMap aO) h s.h 0=hh;have hden:dens hh=s.h:=by rw[<-hh2];exact vU (fun i hi=>by rw[gc]at hi ⊢;exact hF i hi)
      have hget:∀id,id∈j::row.flatMap aO->hh[id]? =h[id]?:=fun id hid=>by
       have:=vV (F:=j::row.flatMap aO) (h:=h) (k:=s.h) (i:=0) (j:=id) (by rwa [gc]) (by rw[gc];exact hF id hid);rwa [gc,hh2]at this
      have hcell:∀c,c∈row->∀id,id∈aO c->hh[id]? =h[id]?:=fun c hc id hid=>hget id (gb _ (gm.2 ⟨c,hc,hid⟩))
      have ha2:zX hh t xo=some (a,row):=by
       obtain⟨ob,b1,b2,b3,b4⟩:=qQK ha;exact qQJ b1 b2 b3 (by rw[<-b4];exact qAU (fun c hc t=>PT (fun id hid=>hcell c hc id hid)))
      have hcs2:dK (row.flatMap (fZ hh)):=by
       rw[lH (fun c hc=>uP (fun id hid=>hcell c hc id hid))];exact hcs
      have hra:Pairs (fun a b=>RA (dens hh) a b) (.pO j 0 0::rest) (.pF (t.row a) 0::vals ps x):=by
       have h1:=qE hx;refine⟨by simp [h1.1],fun i y z hy hz=>?_⟩;cases i with
       |zero=>simp at hy hz;subst hy hz;exact YP ((hget j sm).trans hob) ha2 hcs2
       |succ i=>
        simp at hy hz;exact fun w ι v H r=>(h1.2 i y z hy hz r).free (fun b q=>.inl (zM q)) (qA4 0 ps x z (cD hz))
      have:=PC.read hfl (hc a x hp) hra;rw[hden]at this;exact pE ho h2 h1 hcl this
     ·exact hs.elim
    ·exact hs.elim
   ·exact hs.elim
  ·rename_i row rest
   split at hs
   ·rename_i a x ha hx
    obtain⟨hp,hs⟩:=pJ hs;rw[eM,dD]at hs;refine⟨_,h,[],[],[],hs,(fun p hp=>by cases hp),rfl,fun s ag _=>?_,rfl,fun _ _=>rfl⟩;obtain⟨h1,h2⟩:=hop s ag;exact pE ho h2 h1 hcl (PC.args_LE (LEs.cons (LE.pF (oJ (R:=fun a b=>LE a b) (fW 8) (fun _=>LE.refl _) ha)) (qE hx)) ((hc a x hp).2 s.h (fun _ q=>by cases q)))
   ·exact hs.elim
  ·exact hs.elim
 ·rename_i wr e eb hl
  have hc:=hT _ _ hl;have mj:∀ {j:Option Nat} {k:Nat},j=some k->k∈kE j []:=fun{j k} q=>by subst q;exact gg ..
  have get:∀ {F:List Nat} {s:St},AX (qCY (dens h) F) s.h->∃hh:List XO,dens hh=s.h/\∀id,id∈F->hh[id]? =h[id]?:=fun{F s} ah=>by
   have hF:=nR ah;refine⟨ovX F h s.h 0,vU (fun i hi=>by rw[gc]at hi ⊢;exact hF i hi),fun id hid=>?_⟩;have:=vV (F:=F) (h:=h) (k:=s.h) (i:=0) (j:=id) (by rwa [gc]) (by rw[gc];exact hF id hid);rwa [gc]at this
  split at hs
  ·rename_i i rest
   split at hs
   ·rename_i s0 rest2
    split at hs
    ·split at hs
     ·rename_i b cs j l el hr hfree
      obtain⟨hcs,hs⟩:=bR hs;obtain⟨hn,hs⟩:=(gB _ _).1 hs;rw[cJ,qE1,cJ]at hs;refine⟨_,_,_,_,((i,(GI eb i new (l++aE s0).length).den)::(match j with|some k=>[(k,HS.dead)]|none=>[]))++ [(new,(XO.opt (.int .u8) (l++aE s0) el).den)],hs,fun p hp=>?_,?_,fun s ag ah=>?_,by simp [oY],fun x hx=>?_⟩
      ·simp only[gh,gj,go,or_false]at hp
       rcases hp with(rfl|hp)|rfl
       ·simp
       ·cases j with
        |none=>cases hp
        |some k=>simp at hp;subst hp;simp [kE]
       ·simp
      ·cases j<;>simp [dO,aX,bB,XO.den]
      ·obtain⟨h1,h2⟩:=hop s ag
       obtain⟨hh,hden,hget⟩:=get ah;have hr2:=CS hr (hget i sm) (fun k q=>hget k (gb _ (gb _ (mj q))));have hcall:=hc hh i new s0 b cs j l el hr2 hcs (of_decide_eq_true hn) ((hget new sm).trans hfree);rw[hden]at hcall;refine pE ho h2 h1 hcl (PC.mono hcall ?_);rintro y k ⟨rfl,rfl⟩;refine⟨rfl,?_⟩;rw[<-hden];cases j<;>simp [dO,aX,bB,XO.den]
      ·simp only[gj,not_or]at hx
       rw[ga (Ne.symm hx.1),vP (fun y hy q=>hx.2.2 (by rw[<-q];exact mj hy)),ga (Ne.symm hx.2.1)]
     ·exact hs.elim
    ·exact hs.elim
   ·exact hs.elim
  ·rename_i i rest
   split at hs
   ·split at hs
    ·rename_i b cs j l el hr
     obtain⟨hcs,hs⟩:=bR hs;obtain⟨hn,hs⟩:=(gB _ _).1 hs;rw[qEM]at hs;refine⟨_,_,_,_,(match j with|some k=>[(k,(XO.opt (.int .u8) l ⟨e,l.length-1+2⟩).den)]|none=>[]),hs,fun p hp=>?_,?_,fun s ag ah=>?_,by simp [DX],fun x hx=>?_⟩
     ·cases j with
      |none=>cases hp
      |some k=>simp at hp;subst hp;simp [kE]
     ·cases j<;>simp [zD,aX,bB]
     ·obtain⟨h1,h2⟩:=hop s ag
      obtain⟨hh,hden,hget⟩:=get ah;have hr2:=CS hr (hget i sm) (fun k q=>hget k (gb _ (mj q)));have hcall:=hc hh i b cs j l el hr2 hcs (of_decide_eq_true hn);rw[hden]at hcall;refine pE ho h2 h1 hcl (PC.mono hcall ?_);rintro y k ⟨rfl,rfl⟩;refine⟨rfl,?_⟩;rw[<-hden];cases j<;>simp [zD,aX,bB]
     ·simp only[gj,not_or]at hx
      rw[WS (fun y hy q=>hx.2 (by rw[<-q];exact mj hy))]
    ·exact hs.elim
   ·exact hs.elim
  ·exact hs.elim
 ·exact hs.elim
def qa5 (T:Tbl) (f:FuncId):Bool:=match look T f with
 |some (.new _ _ _ _ _)=>true
 |some (.bld true _ _)=>true
 |_=>false
def qEW (T:Tbl):Op->Bool
 | .alloc _=>true
 | .box _ _=>true
 | .buildSlice _ _ _=>true
 | .makeSlice _ _ _=>true
 | .convert _ _ _=>true
 | .call c=>match c.callee with
   | .builtin .append=>true
   | .value (.func f)=>qa5 T f
   |_=>false
 |_=>false
def sY (T:Tbl):List Oper->Nat
 | []=>0
 |o::l=>match qEW T o.op with
  |true=>sY T l+1
  |false=>sY T l
def UE (E:Env) (fl:Bool) (o:Oper) (new:Nat) (s:Y) (K:Y->List Nat×List Nat->Prop):Prop:=
 match s with
 |⟨sl,h,tch,an⟩=>match jA E.P sl o.op with
  |some (f,args)=>qDW E f args h new fun x h' F W=>TN sl o.dst x fun sl=>K ⟨sl,h',W++tch,an⟩ (F,W)
  |none=>match WI E.P o.op sl h with
  |some (cs,j,id,oj')=>needs cs (kR h id (.raw .dead) fun h=>fX oj' fun oj'=>kR h j oj' fun h=>TN sl o.dst .any fun sl=>K ⟨sl,h,j::id::tch,an⟩ ([j,id],[j,id]))
  |none=>match h[new]? with
   |some (.raw .free)=>QI E.P fl o.op sl h new fun x h'=>TN sl o.dst x fun sl'=>qVY o.op sl new tch fun tch=>K ⟨sl',h',tch,an⟩ (foot o.op (aev sl)++ [new],wids o.op (aev sl) new)
   |_=>False
def xdrw (E:Env) (ops:Array Oper) (rid base tot:Nat):List Oper->Nat->Nat->Y->(Y->List (List Nat×List Nat)->Prop)->Prop
 | [],_,_,s,K=>K s []
 |o::l,i,cnt,s,K=>gd ops o s (fun s=>match qEW E.T o.op with
   |true=>fN (base+cnt) fun new=>UE E (flips E.flip E.fid rid i) o new s fun s' f=>xdrw E ops rid base tot l (i+1) (cnt+1) s' fun s2 fs=>K s2 (f::fs)
   |false=>fN (base+tot) fun new=>UE E (flips E.flip E.fid rid i) o new s fun s' f=>xdrw E ops rid base tot l (i+1) cnt s' fun s2 fs=>K s2 (f::fs))
   (fun s=>match s with|⟨sl,h,tch,an⟩=>TN sl o.dst (.v undef) fun sl=>xdrw E ops rid base tot l (i+1) cnt ⟨sl,h,tch,an⟩ fun s2 fs=>K s2 (([],[])::fs))
def qI6 (P:Program) (ops:Array Oper):Nat->List Dat->St->St->Prop
 |_,[],s,s'=>s=s'
 |i,d::ds,s,s'=>∃s1,AS P ops (fun _=>d) i s s1/\qI6 P ops (i+1) ds s1 s'
def InF (d:Dat) (f:List Nat×List Nat):Prop:=(∀p,p∈d.pre->p.1∈f.1)/\∀p,p∈d.post->p.1∈f.2
theorem CO (o:Oper) (sl:List V):AY ops o sl sl:=fun _ _=>rfl
theorem UN (h:Heap) (F:List Nat):AX (qCY h F) h:=fun p hp=>by
 obtain⟨id,_,rfl⟩:=ke.1 hp;rfl
theorem qRC {P:Program} {fl:Bool} {o:Op} {sl:List V} {h:List XO} {new:Nat} {K:V->List XO->Prop} (hn:new<h.length) (hs:QI P fl o sl h new K) :
  QI P fl o sl h new fun x h'=>K x h'/\h'.length=h.length/\∀j,¬j∈wids o (aev sl) new->h'[j]? =h[j]?:=by
 have nd:∀ {cs:List Bool} {A B:Prop},(A->B)->needs cs A->needs cs B:=by
  intro cs A B hab;induction cs with
  |nil=>exact hab
  |cons c cs ih=>intro q;exact(gB c _).2 ⟨((gB c _).1 q).1,ih ((gB c _).1 q).2⟩
 unfold QI at hs ⊢;split
 ·rename_i b x y e
  simp only[e,dD]at hs ⊢;obtain⟨h1,h2⟩:=(gT _ _ _).1 hs;exact(gT _ _ _).2 ⟨fun q=>⟨h1 q,trivial,fun _ _=>trivial⟩,fun q=>⟨h2 q,trivial,fun _ _=>trivial⟩⟩
 rename_i e0;simp only[e0]at hs;split
 ·rename_i cs x e
  simp only[e,dD]at hs ⊢;exact nd (fun q=>⟨q,trivial,fun _ _=>trivial⟩) hs
 ·rename_i e
  simp only[e]at hs;split
  ·rename_i cs x h' e2
   rw[e2]at hs;refine nd (fun q=>?_) hs;rw[eQ]at q ⊢;obtain⟨g1,g2⟩:=qOF (new:=new) e2;exact⟨q,g1.symm,g2⟩
  ·rename_i e2
   simp only[e2]at hs;split
   ·rename_i cs x h' e3
    rw[e3]at hs;refine nd (fun q=>?_) hs;rw[dD,eQ]at q ⊢;obtain⟨g1,g2⟩:=OK e3;exact⟨q,g1.symm,g2⟩
   ·rename_i e3
    simp only[e3]at hs;split
    ·rename_i x h' e4
     rw[e4]at hs;(try simp only at hs);split
     ·rename_i e5
      rw[e5]at hs;rw[dD]at hs ⊢;exact⟨hs,rfl,fun _ _=>rfl⟩
     ·rename_i e5
      have h2:fV x fun x=>fH (reb h (wids o (aev sl) new) h' 0) fun h'=>K x h':=by
       revert hs;split
       ·rename_i e6;exact absurd e6 e5
       ·exact fun h=>h
      rw[dD,eQ]at h2;rw[dD,eQ];have hlt:new<(dens h).length:=by rw[eD];exact hn
      obtain⟨post,p1,p2,_⟩:=(AO.of e4).loc hlt;have hl:h'.length=h.length:=by rw[p2,jE];simp [dens]
      refine⟨h2,by rw[FM,hl],fun j hj=>?_⟩;rcases Nat.lt_or_ge j h.length with q|q
      ·rw[TU om (by rwa [gc]) om,gc]
      ·rw[ht (by rw[FM,hl];exact q),ht q]
    ·rename_i e4
     rw[e4]at hs;exact hs.elim
theorem qBY {P:Program} {o:Op} {sl sl2:List V} {h h2:List XO} {cs:List Bool} {j id:Nat} {oj':XO} (e:WI P o sl h=some (cs,j,id,oj')) (he:∀a,a∈o.operands->aev sl2 a=aev sl a) (hj:h2[j]? =h[j]?) (hid:h2[id]? =h[id]?):WI P o sl2 h2=WI P o sl h:=by
 cases o with
 |store t p x=>
  have e1:=he p (by simp [Op.operands]);have e2:=he x (by simp [Op.operands]);simp only[WI,e1,e2]at e ⊢;split at e
  ·split at e
   ·split at e
    ·split at e
     ·cases e
     ·injection e with e;injection e with _ e;injection e with a1 e;injection e with a2 _;subst a1 a2
      rw[hj,hid];simp_all
    ·cases e
   ·cases e
  ·cases e
 |_=>cases e
theorem QT {E:Env} (hT:aD E.P E.T) {fl:Bool} {o:Oper} {i new:Nat} {s:Y} {W:List Nat} {K:Y->List Nat×List Nat->Prop} (ho:ops[i]? =some o) (hw:awanted ops s.sl o=some true) (hW:∀d,o.dst=some d->d∈W) (hs:UE E fl o new s K) :
  ∃(s':Y) (d:Dat) (f:List Nat×List Nat),K s' f/\InF d f/\AS E.P ops (fun _=>d) i s.den s'.den/\FrW W s s':=by
 obtain⟨sl,h,tch,an⟩:=s;simp only[UE]at hs;have fin:∀(x:V) (h':List XO) (F U tch':List Nat) (post:List (Nat×HS)),K ⟨sput sl o.dst x,h',tch',an⟩ (F,U)->(∀p,p∈post->p.1∈U)->dens h'=bB (dens h) post->LS E.P ops i o ⟨sl,qCY (dens h) F,x,post⟩->h'.length=h.length->(∀j,¬j∈U->h'[j]? =h[j]?)->tch'=U++tch ->
   ∃(s':Y) (d:Dat) (f:List Nat×List Nat),K s' f/\InF d f/\AS E.P ops (fun _=>d) i (Y.den ⟨sl,h,tch,an⟩) s'.den/\FrW W ⟨sl,h,tch,an⟩ s':=by
  rintro x h' F U tch' post h1 h2 h3 h4 h5 h6 rfl;refine⟨⟨sput sl o.dst x,h',U++tch,an⟩,_,(F,U),h1,⟨fun p hp=>?_,h2⟩,⟨o,ho,CO o sl,UN _ _,?_,h4⟩,⟨⟨Nat.le_of_eq h5.symm,fun j hj=>gh.2 (.inr hj),fun j hj hn=>h6 j (fun q=>hn (gh.2 (.inl q)))⟩,KP _ _ _,fun j hj=>KO (fun k hk q=>hj (q ▸ hW k hk))⟩⟩
  ·obtain⟨id,hid,rfl⟩:=ke.1 hp;exact hid
  ·simp only[Y.den,h3]
 split at hs
 ·rename_i f args hcall
  obtain⟨x,h',F,U,post,h1,h2,h3,h4,h5,h6⟩:=qMC hT ho hw hcall hs;rw[tD]at h1;exact fin x h' F U _ post h1 h2 h3 h4 h5 h6 rfl
 ·split at hs
  ·rename_i cs j id oj' e
   obtain⟨hcs,hs⟩:=bR hs;rw[cJ,qOP,cJ,tD]at hs;refine fin .any _ [j,id] [j,id] _ [(id,.dead),(j,oj'.den)] hs (fun p hp=>?_) (by rw[aX,aX];rfl) (fun s ag ah=>?_) sm (fun i hi=>?_) rfl
   ·simp only[gj,go,or_false]at hp ⊢
    rcases hp with rfl|rfl
    ·exact .inr rfl
    ·exact .inl rfl
   ·have hF:=nR ah
    generalize hh2:ovX [j,id] h s.h 0=hh;have hden:dens hh=s.h:=by rw[<-hh2];exact vU (fun i hi=>by rw[gc]at hi ⊢;exact hF i hi)
    have hget:∀i,i∈ [j,id]->hh[i]? =h[i]?:=fun i hi=>by
     have:=vV (F:=[j,id]) (h:=h) (k:=s.h) (i:=0) (j:=i) (by rwa [gc]) (by rw[gc];exact hF i hi);rwa [gc,hh2]at this
    have e2:WI E.P o.op s.sl hh=some (cs,j,id,oj'):=by
     rw[<-e];exact qBY e (kT ag) (hget j sm) (hget id sm)
    have:WO E.P ops i ⟨s.sl,dens hh⟩ ⟨sput s.sl o.dst .any,dens ((hh.set id (.raw .dead)).set j oj')⟩:=qSA ho (by rw[fA ag];exact hw) (fun r=>qTD e2 hcs r);rw[aX,aX,hden]at this;exact this
   ·simp only[gj,go,or_false,not_or]at hi
    rw[ga (Ne.symm hi.1),ga (Ne.symm hi.2)]
  split at hs
  ·rename_i hfree
   obtain⟨x,h',post,⟨h1,h5,h6⟩,h2,h3,h4⟩:=qRD ho hw hfree (qRC (aI hfree) hs);rw[tD,qIU]at h1;exact fin x h' _ _ _ post h1 h2 h3 h4 h5 h6 rfl
  ·exact hs.elim
theorem qI3 {E:Env} (hT:aD E.P E.T) {rid base tot:Nat} {W:List Nat}:∀(l:List Oper) (i cnt:Nat) (s:Y) (K:Y->List (List Nat×List Nat)->Prop),(∀(j:Nat) (o:Oper),l[j]? =some o->ops[i+j]? =some o)->(∀o,o∈l->∀d,o.dst=some d->d∈W)->xdrw E ops rid base tot l i cnt s K ->
  ∃(ds:List Dat) (fs:List (List Nat×List Nat)) (s':Y),ds.length=l.length/\(∀(m:Nat) (d:Dat),ds[m]? =some d->∃f,fs[m]? =some f/\InF d f)/\qI6 E.P ops i ds s.den s'.den/\K s' fs/\FrW W s s'
 | [],i,cnt,s,K,_,_,h=>⟨[],[],s,rfl,fun m d h=>by simp at h,rfl,h,FrW.refl _ _⟩
 |o::l,i,cnt,s,K,hops,hW,h=>by
  have ho:ops[i]? =some o:=by simpa using hops 0 o sm
  have hops':∀(j:Nat) (o':Oper),l[j]? =some o'->ops[i+1+j]? =some o':=fun j o' hj=>by
   have:=hops (j+1) o' (by simpa using hj);rwa [show i+(j+1)=i+1+j by omega]at this
  have hW':∀o,o∈l->∀d,o.dst=some d->d∈W:=fun o' h'=>hW o' (gb _ h')
  have fin:∀(s1:Y) (d:Dat) (f:List Nat×List Nat) (cnt':Nat),InF d f->AS E.P ops (fun _=>d) i s.den s1.den->FrW W s s1->xdrw E ops rid base tot l (i+1) cnt' s1 (fun s2 fs=>K s2 (f::fs)) ->
    ∃(ds:List Dat) (fs:List (List Nat×List Nat)) (s':Y),ds.length=(o::l).length/\(∀(m:Nat) (d:Dat),ds[m]? =some d->∃f,fs[m]? =some f/\InF d f)/\qI6 E.P ops i ds s.den s'.den/\K s' fs/\FrW W s s':=by
   intro s1 d f cnt' h1 h2 h3 h4;obtain⟨ds,fs,s',g1,g2,g3,g4,g5⟩:=qI3 hT l (i+1) cnt' s1 _ hops' hW' h4;refine⟨d::ds,f::fs,s',by simp [g1],fun m e he=>?_,⟨s1.den,h2,g3⟩,g4,h3.trans g5⟩;cases m with
   |zero=>simp at he;subst he;exact⟨f,rfl,h1⟩
   |succ m=>simpa using g2 m e (by simpa using he)
  rcases qEO h with⟨hw,hr⟩|⟨hw,hr⟩
  ·split at hr
   ·rw[iD]at hr
    obtain⟨s1,d,f,h1,h2,h3,h4⟩:=QT hT ho hw (hW o sm) hr;exact fin s1 d f _ h2 h3 h4 h1
   ·rw[iD]at hr
    obtain⟨s1,d,f,h1,h2,h3,h4⟩:=QT hT ho hw (hW o sm) hr;exact fin s1 d f _ h2 h3 h4 h1
  ·obtain⟨sl,hp,tch,an⟩:=s
   (try simp only at hr);rw[tD]at hr;refine fin ⟨sput sl o.dst (.v undef),hp,tch,an⟩ ⟨sl,[],.v undef,[]⟩ ([],[]) cnt ⟨fun p hp=>(by cases hp),fun p hp=>(by cases hp)⟩ ⟨o,ho,CO o sl,fun p hp=>(by cases hp),rfl,fun s ag _=>?_⟩ ⟨⟨gf _,fun _ h=>h,fun _ _ _=>rfl⟩,KP _ _ _,fun j hj=>KO (fun k hk q=>hj (q ▸ hW o sm k hk))⟩ hr;exact qXQ ho (by rw[fA ag];exact hw)
end
end Go.Abs
