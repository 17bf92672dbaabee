import Derived.Below
import Derived.ChangeArms
import Derived.DataElems
import Derived.Test.YtcjiefknhfhmkaaGreatDoorM13
namespace Go.Proofs.YtcjiefknhfhmkaaGreatDoor
open Go.Abs
set_option maxRecDepth 100000
set_option maxHeartbeats 4000000
set_option linter.unusedVariables false
set_option linter.unusedSimpArgs false
def pH:Nat->Int->Src->Schema->List Rec
 |0,_,_,_=>[]
 |n+1,m,q,x=>((m,(dD x.1 q).1):Rec)::pH n (m+(1+Src.pick (dD x.1 q).2 3)) (Src.next (dD x.1 q).2) x
theorem QN {k m:Int} {q:Src} {x:Schema} (h:0<k):pH k.toNat m q x=((m,(dD x.1 q).1):Rec)::pH (k-1).toNat (m+(1+Src.pick (dD x.1 q).2 3)) (Src.next (dD x.1 q).2) x:=by
 rw[show k.toNat=(k-1).toNat+1 by omega];rfl
def PK (x:Schema) (l:List Int) (n:Int):List Rec:=pH (Src.pick (Src.next (l,0)) (n+1)).toNat (Src.pick (l,0) 5) (Src.next (Src.next (l,0))) x
def PL (x:Schema) (l:List Int) (n:Int):List Rec:=iD x (PK x l n)
theorem xD:∀(cs:List Col) (q:Src),jK q->(∀v,v∈(dD cs q).1->inI v.2.1)/\jK (dD cs q).2
 | [],q,h=>⟨(fun v hv=>by cases hv),h⟩
 |c::cs,q,h=>by
  have h1:=qC3 c h;have h2:=xD cs _ h1.2;refine⟨fun v hv=>?_,h2.2⟩;rcases List.mem_cons.1 hv with e|e
  ·rw[e];exact h1.1.2
  ·exact h2.1 v e
theorem JP:∀(n:Nat) (m:Int) (q:Src) (x:Schema),jK q->wN (pH n m q x)
 |0,_,_,_,_,r,hr=>by cases hr
 |n+1,m,q,x,h,r,hr=>by
  have h1:=xD x.1 q h;rcases List.mem_cons.1 hr with e|e
  ·rw[e];exact h1.1
  ·exact JP n _ _ x (eU h1.2) r e
theorem qIL {s:Schema} {l:List Rec}:∀r,r∈iD s l->r∈l:=by
 unfold iD;split;case isFalse=>intro r hr;cases hr
 have go:∀(l o:List Rec) (r:Rec),r∈l.foldl (iS s) o->r∈o\/r∈l:=by
  intro l;induction l with
  |nil=>intro o r h;exact .inl h
  |cons x l ih=>
   intro o r h;rcases ih _ r h with q|q
   ·unfold iS at q
    simp only[List.mem_append,List.mem_singleton]at q;rcases q with(q|q)|q
    ·exact .inl (List.mem_of_mem_take q)
    ·exact .inr (by rw[q];exact List.mem_cons_self ..)
    ·exact .inl (List.mem_of_mem_drop q)
   ·exact .inr (List.mem_cons_of_mem _ q)
 intro r hr;rcases go l [] r hr with q|q
 ·cases q
 ·exact q
theorem qIK {s:Schema} {l:List Rec}:(iD s l).length<=l.length:=by
 unfold iD;split
 ·have go:∀(l o:List Rec),(l.foldl (iS s) o).length=o.length+l.length:=by
    intro l;induction l with
    |nil=>intro o;rfl
    |cons x l ih=>intro o;rw[List.foldl_cons,ih,DN,List.length_cons];omega
  rw[go];simp
 ·exact Nat.zero_le _
theorem EM:∀(n:Nat) (m:Int) (q:Src) (x:Schema),(pH n m q x).length=n
 |0,_,_,_=>rfl
 |n+1,m,q,x=>by rw[pH,List.length_cons,EM n]
theorem qGP {x:Schema} {l:List Int} {n:Int} (h:∀v,v∈l->inI v):wN (PL x l n):=fun r hr=>JP _ _ _ _ (eU (eU (show jK (l,0)from h))) r (qIL r hr)
theorem qC2 {x:Schema} {l:List Int} {n:Int} (h:0<=n/\n<=1000):((PL x l n).length:Int)<=n:=by
 have h1:=qIK (s:=x) (l:=PK x l n);have h2:(PK x l n).length=_:=EM _ _ _ _;have h3:=Src.pick_lt (s:=Src.next (l,0)) (n:=n+1) (by omega);have h4:(PL x l n).length<=(PK x l n).length:=h1;omega
abbrev BT:Ct:=.fn [bK,.list (.int .i64),.int .i64] (some (fun(x:Schema) (l:List Int) (n:Int)=>(x.1.length<=1000)/\(l.length<=4611686018427387904)/\(0<=n/\n<=1000))) (fun(x:Schema) (l:List Int) (n:Int)=>.d (.list fP) (PL x l n))
theorem qGT:aG Tryz.prog 15 BT:=by
 refine aG.fn SK mixed [] [] rfl rfl ?_;rintro⟨(x:Schema),(l:List Int),(n:Int),_⟩ hpre;replace hpre:=hpre _ rfl;dsimp only[cu]at hpre;obtain⟨hx,hl0,hn⟩:=hpre;have hp0:=Src.pick_lt (s:=(l,0)) (n:=5) (by omega);have hp1:=Src.pick_lt (s:=Src.next (l,0)) (n:=n+1) (by omega);refine⟨[(0,10,LA.mk [.sl 10 (.int .i64),.sl 9 (.int .i64),.lst 8 fP 56,.ob 1 lA 124] (fun y=>Tag 80/\cu [.int .i64,.int .i64,.list fP,lA] (fun(k:Int) (m:Int) (M:List Rec) (q:Src)=>(0<=k/\k<=1001)/\(Src.ok q)/\(PK x l n=M++pH k.toNat m q x)/\((M.length:Int)<=1001-k)/\(0<=m/\m<=5+4*(1001-k))) y) (cu [.int .i64,.int .i64,.list fP,lA] (fun(k:Int) (m:Int) (M:List Rec) (q:Src)=>k.toNat)) (cu [.int .i64,.int .i64,.list fP,lA] (fun(k:Int) (m:Int) (M:List Rec) (q:Src)=>([]:List (Nat×Nat×LA)))))],?_⟩;repeat' (first
  |(
 with_reducible refine Side.mk ⟨(⟨⟩:Tag 80),?_⟩
 dsimp only[cu,aB,aA,gts,eE,eN]
 refine⟨?_,?_,?_,?_,?_⟩
 ·omega
 ·(repeat (first|assumption|exact Src.ok_from (by omega)|apply Src.ok_next|apply dS|apply iP))
 ·first
  |rfl
  |(
  rw[hm,QN (by omega),List.append_assoc]
  rfl)
 ·first
  |simp only[List.length_nil];omega
  |simp only[List.length_append,List.length_cons,List.length_nil];omega
 ·first
  |omega
  |(
  have:=Src.pick_lt (s:=(dD x.1 q).2) (n:=3) (by decide)
  omega))
  |(
 with_reducible apply Side.mk
 (try dsimp only[cu,aB,aA,gts,loK,hiK,eE,eN])
 first
 |done
 |omega
 |exact Eq.refl _
 |simp only[List.length_append,List.length_cons,List.length_nil];omega
 |(
  refine⟨?_,by first|decide|exact MV (by omega)⟩
  (repeat (first|assumption|exact Src.ok_from (by omega)|apply Src.ok_next|apply dS|apply iP));done)
 |exact⟨by(repeat (first|assumption|exact Src.ok_from (by omega)|apply Src.ok_next|apply dS|apply iP)),by assumption⟩
 |(have:=Src.pick_lt (s:=(dD x.1 q).2) (n:=3) (by decide);omega))
  |(conv=>whnf
    first
     |with_reducible first|done|exact trivial|refine NilBr.mk (fun h=>?_) ?_|apply aJ|apply aI|refine aK (by kernel_rfl) ?_|apply aL|apply bA|apply aZ|apply aO
     |((with_reducible first|apply aQ|apply aP|apply aX)<;>intro h<;>(try dsimp only[cu,eE,eN]at h)<;>(try(exfalso;omega)))
     |(
 intro yy (hy:Tag 80/\_)
 obtain⟨(k:Int),(m:Int),(M:List Rec),(q:Src),_⟩:=yy
 replace hy:=hy.2
 dsimp only[cu,aB,aA,gts,eE,eN]at hy
 obtain⟨hk,hq,hm,hml,hmb⟩:=hy)))
 all_goals(
 with_reducible apply Leaf.mk
 (try dsimp only[cu,aB,aA,gts,eE,eN]at *)
 rw[PL,hm,show k.toNat=0 by omega,pH,List.append_nil])
abbrev qP9:Tbl:=(15,BT)::qNM
theorem qIT:aC Tryz.prog qP9:=aC.cons qGT SK
theorem IS:∀(n:Nat) (s:Src) (acc:List Col),(qQ n s acc).1.length=acc.length+n
 |0,s,acc=>rfl
 |n+1,s,acc=>by rw[qQ,IS n];simp;omega
theorem LR (l:List Int):1<=(pC l).1.length/\(pC l).1.length<=4:=by
 have h:=Src.pick_lt (s:=(l,0)) (n:=4) (by decide);have e:(pC l).1.length=0+(1+Src.pick (l,0) 4).toNat:=IS _ _ [];omega
theorem PP:∀(n:Nat) (q:Src) (x:Schema),jK q->wN (mA n q x)
 |0,_,_,_,r,hr=>by cases hr
 |n+1,q,x,h,r,hr=>by
  have h1:=xD x.1 (Src.next q) (eU h);rcases List.mem_cons.1 hr with e|e
  ·rw[e];exact h1.1
  ·exact PP n _ x h1.2 r e
theorem qC1 {x:Schema} {l:List Int} {n:Int} (h:∀v,v∈l->inI v):wN (DQ x l n):=PP _ _ _ (eU (show jK (l,0)from h))
theorem UE {x:Schema} {l:List Int} {n:Int} (h:0<=n/\n<=1000):((DQ x l n).length:Int)<=n:=by
 have:=Src.pick_lt (s:=(l,0)) (n:=n+1) (by omega);unfold DQ;rw[zG];omega
abbrev TH:Ct:=.fn [bK,.list fP,.list (.int .i64),.list (.int .i64),.int .i64] (some (fun(s:Schema) (raw:List Rec) (x:List Int) (l:List Int) (n:Int)=>(raw.length<=9223372036854775807)/\(wN raw)/\(x.length<=4611686018427387904)/\(l.length<=4611686018427387904)/\(∀v,v∈l->inI v))) (fun(s:Schema) (raw:List Rec) (x:List Int) (l:List Int) (n:Int)=>.d .bool true)
theorem qGX:aG Tryz.prog 11 TH:=by
 refine aG.fn qIT mixed [] [] rfl rfl ?_;rintro⟨(s:Schema),(raw:List Rec),(x:List Int),(l:List Int),(n:Int),_⟩ hpre;replace hpre:=hpre _ rfl;dsimp only[cu]at hpre;obtain⟨hr,hri,hx,hl,hi⟩:=hpre;refine⟨[],?_⟩;repeat' (first
  |(
 with_reducible apply Side.mk
 (try dsimp only[cu,aB,aA,gts,loK,hiK,eE,eN])
 first
 |omega
 |(
  have kc:=LR x;exact⟨by omega,by omega,by decide⟩)
 |exact⟨by omega,hri⟩
 |(
  have kl:=qC2 (x:=pC x) (l:=l) (n:=12) (by decide);exact⟨by omega,qGP hi⟩)
 |(
  have kl:=UE (x:=pC x) (l:=l) (n:=6) (by decide);exact⟨by omega,qC1 hi⟩)
 |exact MV (n:=1027) (by decide)
 |(
  have:=pick_lt (v:=n) (n:=1027) (by decide);omega))
  |(conv=>whnf
    first
     |with_reducible first|done|exact trivial|refine NilBr.mk (fun h=>?_) ?_|apply aJ|apply aI|refine aK (by kernel_rfl) ?_|apply aL|apply bA|apply aZ|apply aO
     |((with_reducible first|apply aQ|apply aP|apply aX)<;>intro h<;>(try dsimp only[cu,eE,eN]at h)<;>(try(exfalso;omega)))))
 all_goals(
 with_reducible apply Leaf.mk
 (try dsimp only[cu,aB,aA,gts,eE,eN]at *)
 first
 |(
  simp;done)
 |(exact absurd rfl (by with_reducible assumption)))
end Go.Proofs.YtcjiefknhfhmkaaGreatDoor
namespace Go.Abs
set_option maxRecDepth 100000
set_option maxHeartbeats 4000000
set_option linter.unusedVariables false
set_option linter.unusedSimpArgs false
open Go.RowKit
def ι0:Iota:={at':=fun _=>none,X:=fun _=>False}
theorem qPM (w:World):HRel [] ι0 w:=
 ⟨fun id o h=>by simp at h,fun id h=>by simp at h,fun id _=>rfl,fun id o l id' o' l' h=>by simp at h,fun b h=>h.elim,fun b h=>h.elim⟩
theorem mt0 (b:Nat):¬Mt [] ι0 b:=by
 rintro(h|⟨id,o,l,h,_⟩)
 ·exact h
 ·simp at h
def iT (w:World) (x:V) (y:Value):Prop:=Rep w ι0 (Mt [] ι0) x y
def AT (w:World):List V->List Value->Prop
 | [],[]=>True
 |x::xs,y::ys=>iT w x y/\AT w xs ys
 |_,_=>False
theorem zM:∀ {w:World} {xs:List V} {ys:List Value},AT w xs ys->PW2 w ι0 (Mt [] ι0) xs ys.toArray
 |w,[],[],_=>⟨rfl,fun k x h=>by simp at h⟩
 |w,x::xs,y::ys,h=>by
  have ih:=zM h.2;refine⟨by simpa using ih.1,fun k z hz=>?_⟩;cases k with
  |zero=>simp at hz;subst hz;exact⟨y,by simp,h.1⟩
  |succ k=>
   obtain⟨u,u1,u2⟩:=ih.2 k z (by simpa using hz);exact⟨u,by simpa using u1,u2⟩
 |w,[],_::_,h=>h.elim
 |w,_::_,[],h=>h.elim
theorem VR {P:Program} {f:FuncId} {args:List V} {vals:List Value} {w:World} (hr:AT w args vals) (hc:PC P f args [] (fun y _=>y = .v (.bool true))) :
  Calls P f vals.toArray w fun e w'=>e = .returned (.bool true)/\Below w.heap.size w w':=by
 refine(hc ι0 w _ (zM hr) (qPM w)).mono ?_;rintro e w' ⟨y,x,h',ι',rfl,rfl,ry,_,ev⟩;cases ry;refine⟨rfl,ev.os,ev.tape,ev.output,ev.size,fun k hk=>(ev.frame k hk ?_).1⟩;rintro⟨id,o,l,h,_⟩;simp at h
theorem AM (w:World) (x:Value):iT w (.v x) x:=.v x
theorem wX {w:World} {a:Addr} {v:Value} (h:w.cell? a=some v):a.spot=none/\a.block<w.heap.size:=by
 unfold World.cell? at h;split at h
 ·rename_i c el fr hb
  refine⟨?_,?_⟩
  ·by_cases q:a.spot.isSome=true
   ·rw[if_pos q]at h;cases h
   ·simpa using q
  ·rcases Nat.lt_or_ge a.block w.heap.size with q|q
   ·exact q
   ·rw[Array.getElem?_eq_none q]at hb;cases hb
 ·cases h
def ints (k:IntKind) (l:List Int):V:=.sF 1 (l.map fun n=>[.v (.int k n)])
theorem JO (w:World) (k:IntKind):iT w (ints k []) (.slice none 0 0):=Rep.sN 1
theorem EL {w:World} {k:IntKind} {x:Addr} {len cap:Nat} {zs:List Int} (hl:len<=cap) (hz:zs.length=cap) (hc:∀i,i<zs.length->w.cell? (x.add i)=some (.int k (zs.getD i 0))) :
  iT w (ints k (zs.take len)) (.slice (some x) len cap):=by
 have hlen:((zs.take len).map fun n=>[V.v (.int k n)]).length=len:=by simp;omega
 have:=Rep.sF_mk (w:=w) (ι:=ι0) (M:=Mt [] ι0) (sz:=1) (rows:=(zs.take len).map fun n=>[V.v (.int k n)]) x cap ?_ (by omega) (fun r hr=>by obtain⟨n,_,rfl⟩:=List.mem_map.1 hr;rfl) ?_
 ·rw[hlen]at this;exact this
 ·intro hne
  have h0:0<zs.length:=by
   rcases Nat.eq_zero_or_pos zs.length with q|q
   ·exfalso;apply hne;rw[List.eq_nil_of_length_eq_zero q];simp
   ·exact q
  have:=wX (hc 0 h0);unfold Addr.add at this;simp at this;exact⟨this.1,this.2,mt0 _⟩
 ·intro i j r y hi hj
  rw[List.getElem?_map]at hi;cases hq:(zs.take len)[i]? with
  |none=>rw[hq]at hi;simp at hi
  |some n=>
   rw[hq]at hi;simp at hi;subst hi;have hj0:j=0:=by have:=aF hj;simp at this;exact this
   subst hj0;simp at hj;subst hj;rw[List.getElem?_take]at hq;split at hq
   ·have hlt:=aF hq
    refine⟨.int k n,?_,.v _⟩;have hcell:=hc i hlt;have hsp:=(wX (hc 0 (by omega))).1;have hsp0:x.spot=none:=by unfold Addr.add at hsp;simpa using hsp
    have e:x.add i=⟨x.block,x.off+i*1+0,none⟩:=by
     obtain⟨b,o,sp⟩:=x;simp only at hsp0;subst hsp0;rw[iJ];simp
    rw[<-e,hcell];rw[List.getElem?_eq_getElem hlt]at hq;injection hq with hq;simp [List.getD,List.getElem?_eq_getElem hlt,hq]
   ·cases hq
open Go.RowKit
def Ty.ok:(t:Ty)->t.den->Prop
 | .int k,n=>(Lit.int k n).wf=true
 | .bool,_=>True
 | .str,s=>s.size<=maxLen
 | .list t,l=>l.length<=maxLen/\∀x,x∈l->t.ok x
 | .pair a b,x=>a.ok x.1/\b.ok x.2
def Ty.vol:(t:Ty)->t.den->Nat
 | .int _,_=>1
 | .bool,_=>1
 | .str,s=>s.size+1
 | .list t,l=>(l.map t.vol).sum+1
 | .pair a b,x=>a.vol x.1+b.vol x.2
structure BkOk {H:Type} (blk:DataW H->Nat):Prop where
 lit:∀x,1<=blk (.lit x)
 str:∀s,s.length+1<=blk (.lit (.string s))
 nil:1<=blk .nil
 slice:∀a b,(a.map blk).sum+1<=blk (.slice a b)
 agg:∀a,(a.map blk).sum<=blk (.agg a)
def oB (P:Program) (f:TypeId->Ty->Bool):List Field->Nat->Ty->Bool
 | [],_,_=>false
 | [x],off,y=>decide (x.offset=off)&&f x.type y&&decide (P.cellsOf x.type=y.size)
 |x::xs,off,.pair a b=>decide (x.offset=off)&&f x.type a&&decide (P.cellsOf x.type=a.size)&&oB P f xs (off+a.size) b
 |_,_,_=>false
def fits (P:Program):Nat->TypeId->Ty->Bool
 |0,_,_=>false
 |n+1,t,y=>match P.underlying t,y with
  |some (.int k),.int k'=>decide (k=k')
  |some .bool,.bool=>true
  |some .string,.str=>true
  |some (.slice e),.list y=>fits P n e y&&decide (P.cellsOf e=y.size)
  |some (.struct fs),y=>oB P (fits P n) fs.toList 0 y&&decide (P.cellsOf t=y.size)
  |_,_=>false
theorem Ty.size_pos:∀(t:Ty),0<t.size
 | .int _=>Nat.one_pos
 | .bool=>Nat.one_pos
 | .str=>Nat.one_pos
 | .list _=>Nat.one_pos
 | .pair a b=>by have:=a.size_pos;simp only[Ty.size];omega
def kK (w:World) (r:List V) (cs:List Value):Prop:=r.length=cs.length/\∀(i:Nat) (u:V) (z:Value),r[i]? =some u->cs[i]? =some z->iT w u z
theorem kK.one {w:World} {u:V} {z:Value} (h:iT w u z):kK w [u] [z]:=by
 refine⟨rfl,fun i a b ha hb=>?_⟩;cases i with
 |zero=>simp at ha hb;subst ha hb;exact h
 |succ i=>simp at ha
theorem kK.app {w:World} {r r':List V} {cs cs':List Value} (h:kK w r cs) (h':kK w r' cs'):kK w (r++r') (cs++cs'):=by
 refine⟨by simp [h.1,h'.1],fun i a b ha hb=>?_⟩;by_cases hi:i<r.length
 ·rw[List.getElem?_append_left hi]at ha
  rw[List.getElem?_append_left (by rw[<-h.1];exact hi)]at hb;exact h.2 i a b ha hb
 ·rw[List.getElem?_append_right (by omega)]at ha
  rw[List.getElem?_append_right (by rw[<-h.1];omega),<-h.1]at hb;exact h'.2 _ a b ha hb
variable {H:Type} {enc:TypeId×Value->H} {P:Program} {w:World} {base:Nat} {spare:Nat->Bool} {held:Bool}
theorem vC {f:TypeId->Ty->Bool} {n:Nat} {cs:List Value} (ih:∀(t:TypeId) (y:Ty) (cs:List Value) (x:DataW H×List MemPlace),f t y=true->DataW.trod enc P w base spare held n t cs=some x->∃a:y.den,y.ok a/\kK w (y.row a) cs/\∀blk:DataW H->Nat,BkOk blk->y.vol a<=blk x.1) :
  ∀(l:List Field) (xs:List (DataW H×List MemPlace)) (off:Nat) (y:Ty),oB P f l off y=true->l.length=xs.length->(∀(i:Nat) (g:Field),l[i]? =some g->DataW.trod enc P w base spare held n g.type ((cs.drop g.offset).take (P.cellsOf g.type))=xs[i]?)->cs.length=off+y.size ->
   ∃a:y.den,y.ok a/\kK w (y.row a) (cs.drop off)/\∀blk:DataW H->Nat,BkOk blk->y.vol a<=(xs.map fun x=>blk x.1).sum
 | [],_,_,_,h,_,_,_=>by simp [oB]at h
 | [g],xs,off,y,h,hxl,hx,hl=>by
   simp only[oB,Bool.and_eq_true,decide_eq_true_eq]at h;obtain⟨⟨h1,h2⟩,h3⟩:=h;have hx:=hx 0 g rfl;cases xs with
   |nil=>simp at hxl
   |cons x xs=>
    rw[h1,h3,List.take_of_length_le (by simp;omega)]at hx;obtain⟨a,a1,a2,a3⟩:=ih _ _ _ _ h2 hx;exact⟨a,a1,a2,fun blk hb=>by have:=a3 blk hb;simp;omega⟩
 |g::g2::l,xs,off,.pair a b,h,hxl,hx,hl=>by
  simp only[oB,Bool.and_eq_true,decide_eq_true_eq]at h;obtain⟨⟨⟨h1,h2⟩,h3⟩,h4⟩:=h;cases xs with
  |nil=>simp at hxl
  |cons x xs=>
   have hx1:=hx 0 g rfl;rw[h1,h3]at hx1;obtain⟨p,p1,p2,p3⟩:=ih _ _ _ _ h2 hx1;obtain⟨q,q1,q2,q3⟩:=vC ih (g2::l) xs (off+a.size) b h4 (by simpa using hxl) (fun i k hk=>hx (i+1) k (by simpa using hk)) (by simp only[Ty.size]at hl;omega);refine⟨(p,q),⟨p1,q1⟩,?_,fun blk hb=>by have:=p3 blk hb;have:=q3 blk hb;simp only[Ty.vol,List.map_cons,List.sum_cons];omega⟩;have e:Ty.row (.pair a b) (p,q)=a.row p++b.row q:=by
    simp only[Ty.row,Ty.cells];rw[a.cells_row]
   rw[e,show cs.drop off=(cs.drop off).take a.size++cs.drop (off+a.size)by rw[<-List.drop_drop,List.take_append_drop]];exact p2.app q2
 |_::_::_,_,_,.int _,h,_,_,_=>by simp [oB]at h
 |_::_::_,_,_,.bool,h,_,_,_=>by simp [oB]at h
 |_::_::_,_,_,.str,h,_,_,_=>by simp [oB]at h
 |_::_::_,_,_,.list _,h,_,_,_=>by simp [oB]at h
theorem EZ {α β:Type} (f:α->Nat) (g:β->Nat):∀(a:List α) (b:List β),a.length=b.length->(∀(i:Nat) (x:α) (y:β),a[i]? =some x->b[i]? =some y->f x<=g y)->(a.map f).sum<=(b.map g).sum
 | [],[],_,_=>Nat.le_refl _
 | [],_::_,h,_=>by simp at h
 |_::_,[],h,_=>by simp at h
 |x::a,y::b,h,hx=>by
  have h1:=hx 0 x y rfl rfl;have h2:=EZ f g a b (by simpa using h) (fun i u v hu hv=>hx (i+1) u v (by simpa using hu) (by simpa using hv));simp only[List.map_cons,List.sum_cons];omega
theorem qL:∀(n:Nat) (t:TypeId) (y:Ty) (fuel:Nat) (cs:List Value) (x:DataW H×List MemPlace),fits P n t y=true->DataW.trod enc P w base spare held fuel t cs=some x->∃a:y.den,y.ok a/\kK w (y.row a) cs/\∀blk:DataW H->Nat,BkOk blk->y.vol a<=blk x.1
 |0,_,_,_,_,_,h,_=>by simp [fits]at h
 |n+1,t,y,fuel,cs,x,h,hx=>by
  unfold fits at h;split at h
  ·rename_i k k' hu
   obtain rfl:k=k':=by simpa using h
   obtain⟨m,rfl,rfl,hw⟩:=DataW.trod_int hu hx;exact⟨m,hw,kK.one (AM _ _),fun blk hb=>hb.lit _⟩
  ·rename_i hu
   obtain⟨b,rfl,rfl⟩:=DataW.trod_bool hu hx;exact⟨b,trivial,kK.one (AM _ _),fun blk hb=>hb.lit _⟩
  ·rename_i hu
   obtain⟨s,rfl,rfl,hs⟩:=DataW.trod_string hu hx;refine⟨s,hs,kK.one (AM _ _),fun blk hb=>?_⟩;have:=hb.str s.data.toList;rw[Array.length_toList]at this;exact this
  ·rename_i e y hu
   simp only[Bool.and_eq_true,decide_eq_true_eq]at h;rcases DataW.trod_slice hu hx with⟨rfl,rfl⟩|⟨a,len,cap,elems,rest,m,rfl,rfl,rfl,hb,hlc,hm,hel,hget,_,_⟩
   ·exact⟨([]:List y.den),⟨by simp,fun x hx=>by cases hx⟩,kK.one (Rep.sL _ _ _ (Rep.sN _)),fun blk hb=>hb.nil⟩
   ·have each:∀i,∃d:y.den,i<len->y.ok d/\(∃c,(∀j,j<y.size->w.cell? ((a.add (i*y.size)).add j)=c[j]?)/\kK w (y.row d) c)/\∀e,elems[i]? =some e->∀blk:DataW H->Nat,BkOk blk->y.vol d<=blk e.1:=by
      intro i;by_cases hi:i<len
      ·have h1:=hget i hi
       rw[List.getElem?_eq_getElem (by omega),Option.bind_eq_some_iff,h.2]at h1;obtain⟨c,hc,hr⟩:=h1;obtain⟨_,_,hcell⟩:=World.cells?_some hc;obtain⟨d,d1,d2,d3⟩:=qL n e y m c _ h.1 hr;refine⟨d,fun _=>⟨d1,⟨c,hcell,d2⟩,fun e2 he2=>?_⟩⟩;rw[List.getElem?_eq_getElem (by omega)]at he2;injection he2 with he2;rw[<-he2];exact d3
      ·exact⟨default,fun q=>absurd q hi⟩
    obtain⟨g,hg⟩:=Classical.axiomOfChoice each;have hln:((List.range len).map g).length=len:=by simp
    have top:0<len->a.spot=none/\a.block<w.heap.size:=by
     intro h0;obtain⟨_,⟨c,c1,c2⟩,_⟩:=hg 0 h0;have hcl:0<c.length:=by rw[<-c2.1,show(y.row (g 0)).length=y.size by simpa using y.cells_len (g 0) []];exact y.size_pos
     have:=wX ((c1 0 y.size_pos).trans (List.getElem?_eq_getElem hcl));unfold Addr.add at this;simpa using this
    refine⟨((List.range len).map g:List y.den),⟨by rw[hln];omega,fun x hx=>?_⟩,kK.one (Rep.sL _ _ _ ?_),fun blk hbk=>?_⟩
    ·obtain⟨i,hi,rfl⟩:=List.mem_map.1 hx
     exact(hg i (List.mem_range.1 hi)).1
    ·have hrl:(((List.range len).map g).map y.row).length=len:=by simp
     have:=Rep.sF_mk (w:=w) (ι:=ι0) (M:=Mt [] ι0) (sz:=y.size) (rows:=((List.range len).map g).map y.row) a cap ?_ (by omega) (fun r hr=>by obtain⟨d,_,rfl⟩:=List.mem_map.1 hr;simpa using y.cells_len d []) ?_
     ·rw[hrl]at this;exact this
     ·intro hne
      have h0:0<len:=by
       rcases Nat.eq_zero_or_pos len with q|q
       ·exfalso;apply hne;subst q;rfl
       ·exact q
      have this:=top h0;exact⟨this.1,this.2,mt0 _⟩
     ·intro i j r u hi hj
      rw[List.getElem?_map,List.getElem?_map]at hi;by_cases hil:i<len
      ·rw[List.getElem?_range hil]at hi
       simp at hi;subst hi;obtain⟨_,⟨c,c1,c2⟩,_⟩:=hg i hil;have hjl:j<y.size:=by have:=aF hj;rwa [show(y.row (g i)).length=y.size by simpa using y.cells_len (g i) []]at this
       have hjc:j<c.length:=by rw[<-c2.1,show(y.row (g i)).length=y.size by simpa using y.cells_len (g i) []];exact hjl
       have hcell:=c1 j hjl;have hc0:=hcell.trans (List.getElem?_eq_getElem hjc);refine⟨c[j],?_,c2.2 j _ _ hj (List.getElem?_eq_getElem hjc)⟩;have hsp0:a.spot=none:=(top (by omega)).1;obtain⟨b,o,sp⟩:=a;simp only at hsp0;subst hsp0;rw[iJ,iJ]at hc0;exact hc0
      ·rw[List.getElem?_eq_none (by simpa using hil)]at hi
       simp at hi
    ·have h1:=hbk.slice (elems.map (·.1)) (rest.map (·.1))
     have h2:=EZ (fun d=>y.vol d) (fun e:DataW H×List MemPlace=>blk e.1) ((List.range len).map g) elems (by rw[hln,hel]) (fun i u v hu hv=>by
      by_cases hil:i<len
      ·rw[List.getElem?_map,List.getElem?_range hil]at hu
       simp at hu;subst hu;exact(hg i hil).2.2 v hv blk hbk
      ·rw[List.getElem?_eq_none (by rw[hln];omega)]at hu
       cases hu)
     rw[List.map_map]at h1;simp only[Ty.vol];have h3:(List.map (blk∘fun x=>x.1) elems).sum=(elems.map fun e=>blk e.1).sum:=rfl;show((List.range len).map g |>.map fun d=>y.vol d).sum+1<=_;omega
  ·rename_i _ fs hu
   simp only[Bool.and_eq_true,decide_eq_true_eq]at h;obtain⟨xs,m,rfl,rfl,hl,hxl,hf⟩:=DataW.trod_struct hu hx;obtain⟨a,a1,a2,a3⟩:=vC (cs:=cs) (n:=m) (fun t y cs x h1 h2=>qL n t y m cs x h1 h2) fs.toList xs 0 _ h.1 (by simp [hxl]) (fun i g hg=>hf i g (by simpa using hg)) (by omega);refine⟨a,a1,by simpa using a2,fun blk hb=>?_⟩;have h1:=a3 blk hb;have h2:=hb.agg (xs.map (·.1));rw[List.map_map]at h2;exact Nat.le_trans h1 h2
  ·cases h
theorem DI (n:Nat) (t:TypeId) (y:Ty) (fuel:Nat) (cs:List Value) (x:DataW H×List MemPlace) (h:fits P n t y=true) (hx:DataW.trod enc P w base spare held fuel t cs=some x):∃a:y.den,y.ok a/\kK w (y.row a) cs:=
 let ⟨a,a1,a2,_⟩:=qL n t y fuel cs x h hx
 ⟨a,a1,a2⟩
theorem KD {y:Ty} {a:y.den} {v:Value} (h:kK w (y.row a) v.cells.toList) (hv:∀p q,y = .pair p q->∃vs,v = .agg vs) (hs:(∀p q,y ≠ .pair p q)->v.cells.toList= [v]):iT w (y.val a) v:=by
 cases y with
 |pair p q=>
  obtain⟨vs,rfl⟩:=hv p q rfl;simp [Value.cells]at h;exact Rep.agg _ _ (by simpa using h.1) (fun i h1 h2=>h.2 i _ _ (List.getElem?_eq_getElem h1) (by simp [h2]))
 |int k=>have e:=hs (fun _ _=>by simp);rw[e]at h;exact h.2 0 _ _ rfl rfl
 |bool=>have e:=hs (fun _ _=>by simp);rw[e]at h;exact h.2 0 _ _ rfl rfl
 |str=>have e:=hs (fun _ _=>by simp);rw[e]at h;exact h.2 0 _ _ rfl rfl
 |list t=>have e:=hs (fun _ _=>by simp);rw[e]at h;exact h.2 0 _ _ rfl rfl
end Go.Abs
