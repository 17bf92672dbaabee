import Derived.Lib.UnsafeStr
import Derived.Tactics2
import Derived.RegionTactic
import Derived.WalkKit
import Derived.Test.YtcjiefknhfhmkaaGreatDoorM10
namespace Go.Abs
set_option maxRecDepth 100000
set_option maxHeartbeats 4000000
set_option linter.unusedVariables false
set_option linter.unusedSimpArgs false
def qO3 (P:Program) (rs:List ResultVar) (n:Nat) (l:List Int) (e eb:TypeId) (m:Nat) (x:Exit) (s:Y):Prop:=
 match s with
 |⟨sl,h,_,_⟩=>match x with
  | .ret=>(match ares P rs sl (dens h),oJ e eb h 0 with
    |some y,some (true,cs,some j,l')=>needs cs (Kern (Nat.ble m j&&Nat.ble m h.length)/\(Leaf (y=wrR n)/\(Leaf (l'=l)/\True)))
    |_,_=>False)
  |_=>False
theorem qA1 {P:Program} {rs:List ResultVar} {n m:Nat} {l:List Int} {e eb:TypeId} {x:Exit} {s:Y} (h:qO3 P rs n l e eb m x s):(x = .normal\/x = .ret)/\ares P rs s.sl (dens s.h)=some (wrR n)/\∃cs j,oJ e eb s.h 0=some (true,cs,some j,l)/\cZ cs/\m<=j/\m<=s.h.length:=by
 obtain⟨sl,hp,tch,an⟩:=s;simp only[qO3]at h;split at h
 ·split at h
  ·rename_i y cs j l' hy hr
   obtain⟨hc,⟨hk⟩,⟨rfl⟩,⟨rfl⟩,_⟩:=bI h;simp only[Bool.and_eq_true]at hk;exact⟨.inr rfl,hy,cs,j,hr,hc,Nat.le_of_ble_eq_true hk.1,Nat.le_of_ble_eq_true hk.2⟩
  ·exact h.elim
 ·exact h.elim
theorem vD {e eb:TypeId} {h:List XO} {i:Nat} {b:Bool} {cs:List Bool} {j:Option Nat} {l:List Int} (hr:oJ e eb h i=some (b,cs,j,l)) (hc:cZ cs) :
  ∃c1,h[i]? =some (.raw (.live ⟨2,[[pY i b,c1]],eb⟩))/\((j=none/\l= []/\c1 = .v (.slice none 0 0))\/∃k,j=some k/\c1 = .oL k l.length/\h[k]? =some (.opt (.int .u8) l e)):=by
 unfold oJ at hr;split at hr
 ·rename_i o ho
  split at hr
  ·rename_i c0 c1 hrow
   split at hr
   ·rename_i b' hb hz
    have ho':∀b2,c0=pY i b2->h[i]? =some (.raw (.live ⟨2,[[pY i b2,c1]],eb⟩)):=by
     intro b2 q;simp only[Bool.and_eq_true]at hz;have z1:=Nat.eq_of_beq_eq_true hz.1;have z2:=El.is_eq hz.2;rw[ho];obtain⟨sz,rows,el⟩:=o;(try simp only at z1 z2 hrow);subst z1 z2 hrow q;rfl
    have hself:c0=pY i b':=by
     unfold GR at hb;split at hb
     ·injection hb with hb;subst hb;rfl
     ·split at hb
      ·rename_i q
       have q:=Nat.eq_of_beq_eq_true q;injection hb with hb;subst hb q;rfl
      ·cases hb
     ·cases hb
    split at hr
    ·rename_i j' n
     split at hr
     ·rename_i t l' e' hj'
      split at hr
      ·rename_i l'' hl he
       injection hr with hr;injection hr with e1 hr;injection hr with e2 hr;injection hr with e3 e4;subst e1 e2 e3 e4;have hn:n=l''.length:=of_decide_eq_true (hc _ (by simp));obtain⟨et,el⟩:=gY hl;have he:=Nat.eq_of_beq_eq_true he;subst et;subst el he;exact⟨_,ho' _ hself,.inr ⟨_,rfl,by rw[hn],hj'⟩⟩
      ·cases hr
     ·cases hr
    ·injection hr with hr;injection hr with e1 hr;injection hr with e2 hr;injection hr with e3 e4;subst e1 e2 e3 e4
     exact⟨_,ho' _ hself,.inl ⟨rfl,rfl,rfl⟩⟩
    ·cases hr
   ·cases hr
  ·cases hr
 ·cases hr
theorem bX.self {σ:List Nat} {i k:Nat} (b:Bool) (h:σ[k]? =some i):bX σ (pY i b) (pY k b):=by
 cases b with
 |true=>exact bX.pO 0 0 h
 |false=>exact bX.tree (LE.refl _) (.v _)
theorem jS.two {σ:List Nat} {a b c d:V} {eb:TypeId} (h1:bX σ a c) (h2:bX σ b d):jS σ (.live ⟨2,[[a,b]],eb⟩) (.live ⟨2,[[c,d]],eb⟩):=
 ⟨by simp,fun o' q=>by
   injection q with q;subst q;refine⟨_,rfl,⟨rfl,rfl,rfl,fun m r r' g1 g2=>?_⟩⟩;match m,g1,g2 with
   |0,g1,g2=>
    simp at g1 g2;subst g1 g2;refine⟨rfl,fun n x y g3 g4=>?_⟩;match n,g3,g4 with
    |0,g3,g4=>simp at g3 g4;subst g3 g4;exact h1
    |1,g3,g4=>simp at g3 g4;subst g3 g4;exact h2
    |n+2,g3,g4=>simp at g3
   |m+1,g1,g2=>simp at g1⟩
theorem qFB.lift {P:Program} {f:FuncId} {e eb:TypeId} {h:List XO} {i new:Nat} {s:ByteArray} {b:Bool} {l l2:List Int} {j:Option Nat} {c1:V} (hi:h[i]? =some (.raw (.live ⟨2,[[pY i b,c1]],eb⟩)))
  (hj:∀k,j=some k->k≠i/\h[k]? =some (.opt (.int .u8) l e)) (hnew:h[new]? =some (.raw .free)) (c0:V) (hc0:bX (i::iW j []) c1 c0)
  (hc:PC P f [.pO 0 0 0,.v (.string s)] (.live ⟨2,[[pY 0 b,c0]],eb⟩::(match j with|some _=>[(XO.opt (.int .u8) l e).den]|none=>[]))
    (fun y k=>y=wrR s.size/\∃(hs:List XO) (cs:List Bool) (jj:Nat),k=dens hs/\oJ e eb hs 0=some (true,cs,some jj,l2)/\cZ cs/\(i::iW j []).length<=jj/\(i::iW j []).length<=hs.length)) :
  PC P f [.pO i 0 0,.v (.string s)] (dens h) (fun y k=>y=wrR s.size/\k=dens ((cA (h.set i (DM eb i new l2.length)) j).set new (.opt (.int .u8) l2 e))):=by
 have hni:new≠i:=by intro q;subst q;rw[hi]at hnew;cases hnew
 have hnj:∀k,j=some k->new≠k:=by intro k hk q;subst q;rw[(hj _ hk).2]at hnew;cases hnew
 have hilt:=aM hi;have hnlt:=aM hnew;have hnd:(i::iW j []).Nodup:=by
  cases j with
  |none=>simp [iW]
  |some k=>simp only[iW,List.nodup_cons,List.mem_cons,List.not_mem_nil,or_false,not_false_eq_true,List.nodup_nil,and_true];exact Ne.symm (hj k rfl).1
 have hs0:(i::iW j [])[0]? =some i:=rfl;refine PC.liftN (σ:=i::iW j []) (N:=[new]) hnd (fun x hx=>?_) ?_ (fun a c hac=>?_) ?_ hc ?_
 ·simp only[List.mem_cons,List.not_mem_nil,or_false]at hx
  subst hx;rw[aL,hnew];rfl
 ·cases j<;>rfl
 ·match a,hac with
  |0,hac=>
   have hac:i=c:=by simpa using hac
   subst hac;refine⟨_,_,by rw[aL,hi];rfl,rfl,jS.two (bX.self b hs0) hc0⟩
  |a+1,hac=>
   cases j with
   |none=>simp [iW]at hac
   |some k=>
    match a,hac with
    |0,hac=>
     have hac:k=c:=by simpa [iW]using hac
     subst hac;exact⟨_,_,by rw[aL,(hj k rfl).2];rfl,rfl,jS.opt _ _ _⟩
    |a+1,hac=>simp [iW]at hac
 ·refine⟨rfl,fun m x y h1 h2=>?_⟩
  match m,h1,h2 with
  |0,h1,h2=>simp at h1 h2;subst h1 h2;exact bX.pO 0 0 hs0
  |1,h1,h2=>simp at h1 h2;subst h1 h2;exact bX.tree (LE.refl _) (.v _)
  |m+2,h1,h2=>simp at h1
 rintro y k ⟨rfl,hs,cs,jj,rfl,hr,hcs,hjj,hlen⟩;obtain⟨d1,r1,r2⟩:=vD hr hcs;obtain⟨k2,q,rfl,r3⟩:∃k2,some jj=some k2/\d1 = .oL k2 l2.length/\hs[k2]? =some (.opt (.int .u8) l2 e):=by
  rcases r2 with⟨q,_⟩|r2
  ·cases q
  ·exact r2
 injection q with q;subst q;let g:Nat->Nat:=fun x=>if x=i then 0 else if x=new then jj else if j=some x then 1 else hs.length
 have gi:g i=0:=by simp [g]
 have gn:g new=jj:=by simp [g,hni]
 have gj:∀k,j=some k->g k=1:=fun k hk=>by simp [g,(hj k hk).1,Ne.symm (hnj k hk),hk]
 have go:∀x,x≠i->x≠new->j≠some x->g x=hs.length:=fun x h1 h2 h3=>by simp [g,h1,h2,h3]
 have hL:(dens ((cA (h.set i (DM eb i new l2.length)) j).set new (.opt (.int .u8) l2 e))).length=h.length:=by rw[dB];simp [eV]
 have hτ:∀x,x<h.length->((List.range h.length).map g)[x]? =some (g x):=fun x hx=>by simp [hx]
 have ki:(dens ((cA (h.set i (DM eb i new l2.length)) j).set new (.opt (.int .u8) l2 e)))[i]? =some (.live ⟨2,[[.pO i 0 0,.oL new l2.length]],eb⟩):=by
  rw[aL,List.getElem?_set_ne hni,nB (fun k hk=>(hj k hk).1),List.getElem?_set_self hilt];rfl
 have kn:(dens ((cA (h.set i (DM eb i new l2.length)) j).set new (.opt (.int .u8) l2 e)))[new]? =some (XO.opt (.int .u8) l2 e).den:=by
  rw[aL,List.getElem?_set_self (by simpa [eV]using hnlt)];rfl
 have kj:∀k,j=some k->(dens ((cA (h.set i (DM eb i new l2.length)) j).set new (.opt (.int .u8) l2 e)))[k]? =some .dead:=fun k hk=>by
  subst hk;rw[aL,List.getElem?_set_ne (hnj k rfl)];simp only[cA];rw[List.getElem?_set_self (by simpa using aM (hj k rfl).2)];rfl
 have mem:∀x,x∈i::iW j []->x=i\/j=some x:=fun x hx=>by
  rcases List.mem_cons.1 hx with q|q
  ·exact .inl q
  ·cases j with
   |none=>simp [iW]at q
   |some k=>simp [iW]at q;subst q;exact .inr rfl
 have mem2:∀x,j=some x->x∈i::iW j []:=fun x hx=>by subst hx;simp [iW]
 have h2l:∀k,j=some k->2<=jj/\2<=hs.length:=fun k hk=>by subst hk;simp [iW]at hjj hlen;omega
 have h1l:1<=jj/\1<=hs.length:=by simp at hjj hlen;omega
 refine⟨(List.range h.length).map g,⟨by rw[hL];simp,by rw[dB,hL];exact Nat.le_refl _,fun x hx hs1 hs2=>?_,fun a x hx=>?_,fun x hx hlt=>?_,fun x1 x2 m o1 o2 g1 g2 g3 g4 g5 g6=>?_⟩,bX.tree (LE.refl _) (.tup fun z hz=>?_)⟩
 ·rw[dB]at hx
  have n1:x≠i:=fun q=>hs1 (by rw[q];exact List.mem_cons_self ..)
  have n2:x≠new:=fun q=>hs2 (by rw[q];simp)
  have n3:j≠some x:=fun q=>hs1 (mem2 x q)
  refine⟨by rw[hτ x hx,go x n1 n2 n3,dB],?_⟩;rw[aL,aL,List.getElem?_set_ne (Ne.symm n2),nB (fun k hk q=>n3 (by rw[hk,q])),List.getElem?_set_ne (Ne.symm n1)]
 ·match a,hx with
  |0,hx=>have hx:i=x:=by simpa using hx
         subst hx;rw[hτ _ hilt,gi]
  |a+1,hx=>
   cases hj0:j with
   |none=>subst hj0;simp [iW]at hx
   |some k=>
    subst hj0;match a,hx with
    |0,hx=>
     have hx:k=x:=by simpa [iW]using hx
     subst hx;rw[hτ _ (aM (hj k rfl).2),gj k rfl]
    |a+1,hx=>simp [iW]at hx
 ·rw[hL]at hlt
  have cases3:x=i\/j=some x\/x=new:=by
   rcases hx with hx|hx|hx
   ·exact(mem x hx).imp (fun q=>q) .inl
   ·exact .inr (.inr (by simpa using hx))
   ·rw[dB]at hx;omega
  rcases cases3 with rfl|q|rfl
  ·refine⟨0,_,_,by rw[hτ _ hilt,gi],by rw[aL,r1];rfl,ki,jS.two ?_ ?_⟩
   ·exact bX.pO 0 0 (by rw[hτ _ hilt,gi])
   ·exact bX.oL _ (by rw[hτ _ hnlt,gn])
  ·obtain⟨z,hz⟩:∃z,hs[1]? =some z:=⟨_,List.getElem?_eq_getElem (by have:=(h2l x q).2;omega)⟩
   exact⟨1,_,_,by rw[hτ _ hlt,gj x q],by rw[aL,hz];rfl,kj x q,⟨by simp,fun _ q=>by cases q⟩⟩
  ·exact⟨jj,_,_,by rw[hτ _ hnlt,gn],by rw[aL,r3];rfl,kn,jS.opt _ _ _⟩
 ·have live:∀x,(x∈i::iW j []\/(x∈ [new]\/(dens h).length<=x))->∀o,(dens ((cA (h.set i (DM eb i new l2.length)) j).set new (.opt (.int .u8) l2 e)))[x]? =some (.live o)->x=i\/x=new:=by
    intro x hx o ho;rcases hx with hx|hx|hx
    ·rcases mem x hx with q|q
     ·exact .inl q
     ·rw[kj x q]at ho;cases ho
    ·exact .inr (by simpa using hx)
    ·have:=aM ho;rw[hL]at this;rw[dB]at hx;omega
  have t1:∀x,x<h.length->((List.range h.length).map g)[x]? =some m->g x=m:=fun x hx q=>by rw[hτ x hx]at q;injection q
  rcases live x1 g1 o1 g3 with rfl|rfl<;>rcases live x2 g2 o2 g4 with rfl|rfl
  ·rfl
  ·have a1:=t1 _ hilt g5;have a2:=t1 _ hnlt g6;rw[gi]at a1;rw[gn]at a2;omega
  ·have a1:=t1 _ hnlt g5;have a2:=t1 _ hilt g6;rw[gn]at a1;rw[gi]at a2;omega
  ·rfl
 ·simp at hz;rcases hz with rfl|rfl<;>exact .v _
theorem qFB.mk {P:Program} {T:Tbl} {f:FuncId} {fn:Func} {c:Code} {e eb:TypeId} (hT:aD P T) (hM:P.follows .mixedOrders=true) (fl:List (Nat×Nat×Nat)) (I:List Nat)
  (hf:P.funcs[f]? =some fn) (hb:fn.body=some c)
  (h1:∀(b:Bool) (l:List Int) (s:ByteArray),l.length+s.size<=1099511627776->∃an:List (Nat×Nat×LA),fVs (.pO 0 0 0 :: .v (.string s)::List.replicate (fn.ntmps-2) (.v undef)) fun sl=>fH [.raw (.live ⟨2,[[pY 0 b,.oL 1 l.length]],eb⟩),.opt (.int .u8) l e] fun h=>xcode ⟨P,T,2,0,fl,sH P T fl I 4⟩ c ⟨sl,h,[],an⟩
    (qO3 P fn.results.toList s.size (l++aN s) e eb 2))
  (h2:∀(b:Bool) (s:ByteArray),s.size<=1099511627776->∃an:List (Nat×Nat×LA),fVs (.pO 0 0 0 :: .v (.string s)::List.replicate (fn.ntmps-2) (.v undef)) fun sl=>fH [.raw (.live ⟨2,[[pY 0 b,.v (.slice none 0 0)]],eb⟩)] fun h=>xcode ⟨P,T,1,0,fl,sH P T fl I 4⟩ c ⟨sl,h,[],an⟩
    (qO3 P fn.results.toList s.size (aN s) e eb 1)):aF P f (.bld true e eb):=by
 intro h i new s b cs j l hr hcs hn hfree;obtain⟨c1,g1,g2⟩:=vD hr hcs;rcases g2 with⟨rfl,rfl,rfl⟩|⟨k,rfl,rfl,g3⟩
 ·refine qFB.lift (j:=none) (l:=[]) g1 (fun k hk=>by cases hk) hfree (.v (.slice none 0 0)) (bX.tree (LE.refl _) (.v _)) ?_
  obtain⟨an,hw⟩:=h2 b s (by simpa using hn);rw[kS,dO]at hw;refine PC.of_bodyV hf hb _ rfl (fun K hK=>?_);have hw:=iZ (E:=⟨P,T,1,0,fl,sH P T fl I 4⟩) hT hM (iF hT hM fl I 4 _ _) c _ _ hw;refine PV.mono hw ?_;rintro e st ⟨s',rfl,q1,_⟩;obtain⟨he,hy,cs',jj,q2,q3,q4,q5⟩:=qA1 q1;exact hK e _ _ he hy ⟨rfl,s'.h,cs',jj,rfl,q2,q3,q4,q5⟩
 ·have hki:k≠i:=by intro q;subst q;rw[g1]at g3;cases g3
  refine qFB.lift (j:=some k) (l:=l) g1 (fun k' hk=>by injection hk with hk;subst hk;exact⟨hki,g3⟩) hfree (.oL 1 l.length) (bX.oL _ rfl) ?_;obtain⟨an,hw⟩:=h1 b l s hn;rw[kS,dO]at hw;refine PC.of_bodyV hf hb _ rfl (fun K hK=>?_);have hw:=iZ (E:=⟨P,T,2,0,fl,sH P T fl I 4⟩) hT hM (iF hT hM fl I 4 _ _) c _ _ hw;refine PV.mono hw ?_;rintro e st ⟨s',rfl,q1,_⟩;obtain⟨he,hy,cs',jj,q2,q3,q4,q5⟩:=qA1 q1;exact hK e _ _ he hy ⟨rfl,s'.h,cs',jj,rfl,q2,q3,q4,q5⟩
theorem HRel.killed {h h':Heap} {ι:Iota} {w w':World} (H:HRel h ι w) (hk:∀id:Nat,h'[id]? =h[id]? \/h'[id]? =some HS.dead) (hl:h'.length=h.length) (Pb:Nat->Prop) (h1:∀b,Pb b->Ob h ι b/\¬Ob h' ι b)
  (hos:w'.os=w.os) (htp:w'.tape=w.tape) (hou:w'.output=w.output) (hsz:w'.heap.size=w.heap.size) (hsame:∀b,¬Pb b->w'.heap[b]? =w.heap[b]?)
  (hcs:∀(b:Nat) (c:Array Value) (e:TypeId) (fr:Nat×Nat),w.heap[b]? =some (.cells c e fr)->∃(c':Array Value) (fr':Nat×Nat),w'.heap[b]? =some (.cells c' e fr')/\c'.size=c.size):HRel h' ι w'/\Evolve h ι w h' ι w':=by
 have old:∀(id:Nat) (o:AObj),h'[id]? =some (.live o)->h[id]? =some (.live o):=fun id o q=>by
  rcases hk id with r|r
  ·rw[<-r];exact q
  ·rw[r]at q;cases q
 have ob:∀b,Ob h' ι b->Ob h ι b:=fun b ⟨id,o,l,q1,q2,q3⟩=>⟨id,o,l,old id o q1,q2,q3⟩
 have ev:Evolve h ι w h' ι w':=⟨hos,htp,hou,by rw[hsz];exact Nat.le_refl _,fun _ _ q=>q,rfl,fun b hb hn=>⟨hsame b (fun q=>hn (h1 b q).1),fun q=>hn (ob b q)⟩,hcs⟩
 refine⟨⟨fun id o ho=>?_,fun id ho=>?_,fun id ho=>H.out id (by rw[<-hl];exact ho),fun id o l id' o' l' a1 a2 b1 b2 hb=>H.apart id o l id' o' l' (old _ _ a1) a2 (old _ _ b1) b2 hb,fun b hb=>by rw[hsz];exact H.xlt b hb,fun b hb q=>H.xob b hb (ob b q)⟩,ev⟩
 ·obtain⟨l,c,fr,q1,la⟩:=H.live id o (old id o ho)
  have hn:¬Pb l.blk:=fun q=>(h1 _ q).2 ⟨id,o,l,ho,q1,rfl⟩
  exact⟨l,c,fr,q1,⟨(hsame _ hn).trans la.blk,la.unfrozen,la.sz,la.rows,la.fits,fun i hi j hj=>let ⟨y,g1,g2⟩:=la.reads i hi j hj;⟨y,g1,g2.mono ev⟩⟩⟩
 ·refine H.free id ?_
  rcases hk id with r|r
  ·rw[<-r];exact ho
  ·rw[r]at ho;cases ho
theorem GC (h:List XO) (i:Nat) (j:Option Nat) (id:Nat):(dens (cA (h.set i (.raw .dead)) j))[id]? =(dens h)[id]? \/(dens (cA (h.set i (.raw .dead)) j))[id]? =some HS.dead:=by
 have one:∀(h:List XO) (i id:Nat),(dens (h.set i (.raw .dead)))[id]? =(dens h)[id]? \/(dens (h.set i (.raw .dead)))[id]? =some HS.dead:=by
  intro h i id;rw[aU];by_cases q:i=id
  ·subst q
   rw[List.getElem?_set];simp only[if_pos];split
   ·exact .inr rfl
   ·rename_i hlt;left;rw[List.getElem?_eq_none (by omega)]
  ·left;rw[List.getElem?_set_ne q]
 cases j with
 |none=>exact one h i id
 |some k=>
  rcases one (h.set i (.raw .dead)) k id with r|r
  ·rcases one h i id with r2|r2
   ·exact .inl (r.trans r2)
   ·exact .inr (r.trans r2)
  ·exact .inr r
theorem yC {P:Program} (w:World):∀(l:List Int) (a:Addr) (acc:ByteArray),(∀j x,l[j]? =some x->w.cell? (a.add j)=some (.int .u8 x)) ->
  (loadBytes a acc l.length).run P w = .ok ⟨acc.data++(l.map fun n=>UInt8.ofNat n.toNat).toArray⟩ w
 | [],a,acc,_=>by simp [loadBytes]
 |x::l,a,acc,h=>by
  have h0:w.cell? a=some (.int .u8 x):=by
   have:=h 0 x rfl;simpa [Addr.add]using this
  have ih:=yC (P:=P) w l (a.add 1) (acc.push (UInt8.ofNat x.toNat)) (fun j y hy=>by
   have:=h (j+1) y (by simpa using hy);have e:(a.add 1).add j=a.add (j+1):=by
    unfold Addr.add;by_cases hj:j=0
    ·subst hj;simp
    ·simp [hj];omega
   rw[e];exact this)
  have hx:x.toNat.toUInt8=UInt8.ofNat x.toNat:=rfl;simp only[List.length_cons,loadBytes,Sem.run_bind,run_load,h0,Result.andThen,hx];rw[ih];congr 1
  apply ByteArray.ext;simp [ByteArray.push]
theorem uK {P:Program} (w:World) (pt it ty e:TypeId) (hp:P.underlying pt=some (.pointer e)) (hc:P.cellsOf e=1) (g o cells:Nat) (hsh:w.shape? g=some (e,cells)) (l:List Int) (h0:l≠ []) (hn:o+l.length<=cells) (h63:l.length<=9223372036854775807)
  (hcell:∀j x,l[j]? =some x->w.cell? ((⟨g,o,none⟩:Addr).add j)=some (.int .u8 x)) :
  (Builtin.unsafeString_ #[pt,it] ty #[.pointer (some ⟨g,o,none⟩),.int .i64 l.length]).run P w = .ok (.string (aV l)) (w.freeze ⟨g,o,none⟩ l.length):=by
 have hl:l.length≠0:=by simpa using h0
 have hlb:=yC (P:=P) w l ⟨g,o,none⟩ .empty hcell;have hlies:liesAt P P.depth e (cells/P.cellsOf e) o e l.length=true:=by
  have hd:P.depth=(2*(P.types.size+Made.depth)+1)+1:=rfl;rw[hd];simp only[liesAt,Bool.or_eq_true];left;rw[hd];simp [Go.rowAt,hc,hn,sameLayout,Nat.mod_one]
 have h63':¬(9223372036854775807:Int)<(l.length:Int):=by omega
 have hdef:Builtin.unsafeString_ #[pt,it] ty #[.pointer (some ⟨g,o,none⟩),.int .i64 l.length] =
  (do
    let n <- asInt (.int .i64 l.length)
    if n < 0 then runtimePanic (.error "unsafe.String: len out of range")
    if n > IntKind.i64.max then unsupported (.unsafePointer "String: a length above the largest int")
    if n=0 then pure (.string .empty)
    else if <- variablesAt ⟨g,o,none⟩ (<-elemOf pt) n.toNat then do
     let s <- loadBytes ⟨g,o,none⟩ .empty n.toNat
     freeze ⟨g,o,none⟩ n.toNat
     pure (.string s)
    else unsupported (.unsafePointer "String: not so many bytes at ptr")) := rfl
 rw[hdef];have hmax:IntKind.i64.max=9223372036854775807:=rfl;have hneg:¬(l.length:Int)<0:=by omega
 simp [asInt,asIntOf,hmax,h63',hneg,hl,variablesAt,hsh,elemOf,run_underlying hp,hlies,hlb,aV]
theorem BK (w:World) (a:Addr) (n b:Nat) (hb:b≠a.block):(w.freeze a n).heap[b]? =w.heap[b]?:=by
 unfold World.freeze;split
 ·rfl
 ·simp only[Array.getElem?_modify];rw[if_neg (Ne.symm hb)]
theorem SS (w:World) (a:Addr) (n:Nat):(w.freeze a n).heap.size=w.heap.size:=by
 unfold World.freeze;split
 ·rfl
 ·simp
theorem OY (w:World) (a:Addr) (n b:Nat) (c:Array Value) (e:TypeId) (fr:Nat×Nat) (h:w.heap[b]? =some (.cells c e fr)):∃fr',(w.freeze a n).heap[b]? =some (.cells c e fr'):=by
 by_cases hb:b=a.block
 ·subst hb
  unfold World.freeze;split
  ·exact⟨fr,h⟩
  ·simp only[Array.getElem?_modify,if_pos,h]
   exact⟨_,rfl⟩
 ·exact⟨fr,by rw[BK w a n b hb];exact h⟩
theorem qS6.mk {P:Program} {f:FuncId} {e eb pt it ty:TypeId} (hp:P.underlying pt=some (.pointer e)) (hcell:P.cellsOf e=1)
  (hnil:∀(b o:Nat) (w:World),w.cell? ⟨b,o+1,none⟩=some (.slice none 0 0)->Calls P f #[.pointer (some ⟨b,o,none⟩)] w fun x w'=>x = .returned (.string ⟨#[]⟩)/\w'=w.drew)
  (hsome:∀(b o:Nat) (a:Addr) (n cap:Nat) (s:ByteArray) (w:World),w.cell? ⟨b,o+1,none⟩=some (.slice (some a) n cap)->cap≠0->(Builtin.unsafeString_ #[pt,it] ty #[.pointer (some a),.int .i64 n]).run P w.drew = .ok (.string s) (w.drew.freeze a n) ->
    Calls P f #[.pointer (some ⟨b,o,none⟩)] w fun x w'=>x = .returned (.string s)/\w'=w.drew.freeze a n):aF P f (.bld false e eb):=by
 intro h i b cs j l hr hcs hlen ι w vals hpv H;obtain⟨c1,g1,g2⟩:=vD hr hcs;have hden:(dens h)[i]? =some (.live ⟨2,[[pY i b,c1]],eb⟩):=by rw[aL,g1];rfl
 obtain⟨L,c,fr,hL,la⟩:=H.live i _ hden;have hLs:L.sz=2:=la.sz;obtain⟨v0,hv0,rv0⟩:=hpv.2 0 _ rfl;cases rv0 with
 |pO _ _ _ L2 hL2=>
  rw[hL]at hL2;injection hL2 with hL2;subst hL2;have hvals:vals = #[.pointer (some ⟨L.blk,L.base+0*L.sz+0,none⟩)]:=by
   have hs:vals.size=1:=hpv.1.symm;exact Array.ext (by rw[hs];rfl) (fun q q1 q2=>by
    have h0:q=0:=by rw[hs]at q1;omega
    subst h0;rw[Array.getElem?_eq_getElem q1]at hv0;exact Option.some.inj hv0)
  subst hvals;obtain⟨x,x1,x2⟩:=la.reads 0 (by simp) 1 (by simp);have x2:Rep w ι (Mt (dens h) ι) c1 x:=x2;have hcx:w.cell? ⟨L.blk,L.base+0*L.sz+0+1,none⟩=some x:=by
   have:L.base+0*L.sz+0+1=L.base+0*2+1:=by omega
   rw[this];simp only[World.cell?,la.blk];exact x1
  have nilcase:x = .slice none 0 0->l= []->Calls P f #[.pointer (some ⟨L.blk,L.base+0*L.sz+0,none⟩)] w fun e' w'=>∃y x h' ι',e' = .returned y/\(x = .v (.string (aV l))/\h'=dens (cA (h.set i (.raw .dead)) j))/\Rep w' ι' (Mt h' ι') x y/\HRel h' ι' w'/\Evolve (dens h) ι w h' ι' w':=by
   intro hx hl0;subst hx hl0;refine(hnil _ _ w hcx).mono ?_;rintro e' w' ⟨rfl,rfl⟩;obtain⟨H2,ev⟩:=H.killed (h':=dens (cA (h.set i (.raw .dead)) j)) (w':=w.drew) (fun id=>GC h i j id) (by rw[dB,dB,eV];simp) (fun _=>False) (fun _ q=>q.elim) rfl rfl rfl rfl (fun _ _=>rfl) (fun _ c _ fr q=>⟨c,fr,q,rfl⟩);exact⟨_,_,_,ι,rfl,⟨rfl,rfl⟩,.v _,H2,ev⟩
  rcases g2 with⟨rfl,rfl,rfl⟩|⟨k,rfl,rfl,g3⟩
  ·cases x2
   exact nilcase rfl rfl
  ·by_cases hl0:l= []
   ·subst hl0
    cases x2 with
    |oL _ _ _ q=>simp at q;cases q;exact nilcase rfl rfl
   ·have hlen0:l.length≠0:=fun q=>hl0 (List.length_eq_zero_iff.1 q)
    have hdk:(dens h)[k]? =some (.live ⟨1,l.map (Ty.row (.int .u8)),e⟩):=by rw[aL,g3];simp [XO.den,hl0,Ty.size]
    have hki:k≠i:=by intro q;subst q;rw[g1]at g3;cases g3
    cases x2 with
    |oL _ _ _ q=>
     rw[if_neg hlen0]at q;cases q with
     |sO _ _ _ cap Lk ck ek frk hLk hcap hbk hszk=>
      obtain⟨Lk2,ck2,frk2,hLk2,lak⟩:=H.live k _ hdk;rw[hLk]at hLk2;injection hLk2 with hLk2;subst hLk2;have hsk:Lk.sz=1:=lak.sz;have hfit:Lk.base+l.length<=ck2.size:=by have:=lak.fits;simp at this;omega
      have hoff:Lk.base+0*Lk.sz=Lk.base:=by omega
      rw[hoff]at hcx;have hUS:=uK (P:=P) w.drew pt it ty e hp hcell Lk.blk Lk.base ck2.size (by show(match w.heap[Lk.blk]? with|some (.cells c elem _)=>some (elem,c.size)|_=>none)=_;rw[lak.blk]) l hl0 hfit (by omega) (fun q z hz=>by
       have hq:=aM hz;obtain⟨y,y1,y2⟩:=lak.reads q (by simpa using hq) 0 (by simp [Ty.cells]);have e1:(l.map (Ty.row (.int .u8)))[q]'(by simpa using hq)= [.v (.int .u8 z)]:=by
        rw[List.getElem?_eq_getElem hq]at hz;injection hz with hz;simp [hz,Ty.cells]
       have y2:Rep w ι (Mt (dens h) ι) (.v (.int .u8 z)) y:=by
        have:=y2;simp only[e1]at this;exact this
       cases y2;have:(⟨Lk.blk,Lk.base,none⟩:Addr).add q=⟨Lk.blk,Lk.base+q,none⟩:=lW _ _ _;rw[this];show w.cell? ⟨Lk.blk,Lk.base+q,none⟩=_;simp only[World.cell?,lak.blk];rw[<-y1];congr 1
       simp [Ty.size])
      refine(hsome _ _ ⟨Lk.blk,Lk.base,none⟩ l.length cap (aV l) w hcx (by omega) hUS).mono ?_;rintro e' w' ⟨rfl,rfl⟩;have hPb:∀q,q=Lk.blk->Ob (dens h) ι q/\¬Ob (dens (cA (h.set i (.raw .dead)) (some k))) ι q:=by
       intro q hq;subst hq;refine⟨⟨k,_,Lk,hdk,hLk,rfl⟩,?_⟩;rintro⟨id,o,L3,q1,q2,q3⟩;have hid:(dens h)[id]? =some (.live o):=by
        rcases GC h i (some k) id with r|r
        ·rw[<-r];exact q1
        ·rw[r]at q1;cases q1
       have:=H.apart _ _ _ _ _ _ hid q2 hdk hLk q3;subst this;rw[aL]at q1;simp only[cA]at q1;rw[List.getElem?_set_self (by simpa using aM g3)]at q1;cases q1
      obtain⟨H2,ev⟩:=H.killed (h':=dens (cA (h.set i (.raw .dead)) (some k))) (w':=w.drew.freeze ⟨Lk.blk,Lk.base,none⟩ l.length) (fun id=>GC h i (some k) id) (by rw[dB,dB,eV];simp) (fun q=>q=Lk.blk) hPb
       (by unfold World.freeze;split<;>rfl) (by unfold World.freeze;split<;>rfl) (by unfold World.freeze;split<;>rfl) (SS _ _ _) (fun q hq=>BK w.drew _ _ _ hq)
       (fun q c2 e2 fr2 hq=>let ⟨fr',q'⟩:=OY w.drew ⟨Lk.blk,Lk.base,none⟩ l.length q c2 e2 fr2 hq;⟨c2,fr',q',rfl⟩)
      exact⟨_,_,_,ι,rfl,⟨rfl,rfl⟩,.v _,H2,ev⟩
end Go.Abs
namespace Go.Proofs.YtcjiefknhfhmkaaGreatDoor
open Go.Abs
set_option maxRecDepth 100000
set_option maxHeartbeats 4000000
set_option linter.unusedVariables false
set_option linter.unusedSimpArgs false
abbrev RS:Ct:=.bld true 5 106
theorem qU8:aF Tryz.prog 62 RS:=by
 refine qFB.mk VN mixed [] [107] rfl rfl ?_ ?_;all_goals first|rintro(_|_) (l:List Int) s hs|rintro(_|_) s hs
 all_goals refine⟨[],?_⟩
 repeat' (first
  |(
 with_reducible apply Side.mk
 (try dsimp only[cu,aC,aB,gts,loK,hiK,eE,eN])
 first
 |done
 |(
  (try simp only[bF,List.length_nil]);omega))
  |(conv=>whnf
    first
     |with_reducible first|done|exact trivial|refine NilBr.mk (fun h=>?_) ?_|apply aI|apply aH|refine aJ (by kernel_rfl) ?_|apply aK|apply bB|apply bA|apply aQ
     |((with_reducible first|apply aS|apply aR|apply aZ)<;>intro h<;>(try dsimp only[cu,eE,eN]at h)<;>(try(exfalso;omega)))))
 all_goals(
 with_reducible apply Leaf.mk
 (try dsimp only[cu,aC,aB,gts,eE,eN]at *)
 first
 |done
 |(rfl))
abbrev qSM:Tbl:=(62,RS)::qSL
theorem qM2:aD Tryz.prog qSM:=aD.cons qU8 VN
abbrev IV:Ct:=.bld false 5 106
theorem RE (b o:Nat) (w:World) (hc:w.cell? ⟨b,o+1,none⟩=some (.slice none 0 0)) :
  Calls Tryz.prog 72 #[.pointer (some ⟨b,o,none⟩)] w fun e w'=>e = .returned (.string ⟨#[]⟩)/\w'=w.drew:=by
 have hUS:∀W:World,(Builtin.unsafeString_ #[150,3] 9 #[.pointer none,.int .i64 0]).run Tryz.prog W = .ok (.string .empty) W:=fun W=>Lib.run_unsafeString_none W _ _ _ none
 have c1:w.drew.cell? ⟨b,o+1,none⟩=some (.slice none 0 0):=hc;have hSD:∀W:World,(Builtin.unsafeSliceData_ #[36] 150 #[.slice none 0 0]).run Tryz.prog W = .ok (.pointer none) W:=fun W=>rfl
 go_enter Tryz.func72,Tryz.ntmps72
 go_wp2
 go_region
 all_goals(go_wp2;go_ret;exact⟨rfl,rfl⟩)
theorem OD (b o:Nat) (a:Addr) (n cap:Nat) (s:ByteArray) (w:World) (hc:w.cell? ⟨b,o+1,none⟩=some (.slice (some a) n cap)) (h0:cap≠0)
  (hUS:(Builtin.unsafeString_ #[150,3] 9 #[.pointer (some a),.int .i64 n]).run Tryz.prog w.drew = .ok (.string s) (w.drew.freeze a n)) :
  Calls Tryz.prog 72 #[.pointer (some ⟨b,o,none⟩)] w fun e w'=>e = .returned (.string s)/\w'=w.drew.freeze a n:=by
 have c1:w.drew.cell? ⟨b,o+1,none⟩=some (.slice (some a) n cap):=hc;have hSD:(Builtin.unsafeSliceData_ #[36] 150 #[.slice (some a) n cap]).run Tryz.prog w.drew = .ok (.pointer (some a)) w.drew:=Lib.run_unsafeSliceData_row _ _ _ _ _ _ h0;go_enter Tryz.func72,Tryz.ntmps72
 go_wp2
 go_region
 all_goals(go_wp2;go_ret;exact⟨rfl,rfl⟩)
theorem qOD:aF Tryz.prog 72 IV:=qS6.mk (pt:=150) (it:=3) (ty:=9) (by kernel_rfl) (by kernel_rfl) RE OD
abbrev qSN:Tbl:=(72,IV)::qSM
theorem VO:aD Tryz.prog qSN:=aD.cons qOD qM2
def SH (n:Int):ByteArray:=if n<10 then⟨#[UInt8.ofNat (48+n.toNat)]⟩else⟨#[49,UInt8.ofNat (38+n.toNat)]⟩
def vU:List ByteArray:=[⟨#[105,110,116]⟩,⟨#[98,111,111,108]⟩,⟨#[98,121,116,101,115]⟩,⟨#[100,97,116,101]⟩,⟨#[100,101,99,105,109,97,108]⟩]
def tw (t:Int):ByteArray:=⟨#[32]⟩++vU[(t-1).toNat]!
abbrev nlB:ByteArray:=⟨#[10]⟩
abbrev nuB:ByteArray:=⟨#[32,110,117,108,108]⟩
def scT (c:Col):ByteArray:=if c.2.1=5 then⟨#[32]⟩++SH c.2.2.1 else⟨#[]⟩
def nuT (c:Col):ByteArray:=if c.2.2.2=true then nuB else⟨#[]⟩
def mP (c:Col):ByteArray:=c.1++tw c.2.1++scT c++nuT c++nlB
def eI:List Col->ByteArray
 | []=>⟨#[]⟩
 |c::l=>mP c++eI l
def YP (s:Schema):ByteArray:=⟨#[107,101,121,32]⟩++s.1[s.2.toNat]!.1++nlB
def kV (s:Schema):ByteArray:=eI s.1++YP s
def kJ (s:Schema):ByteArray×Int:=if aT s≠0 then(⟨#[]⟩,aT s)else(kV s,0)
def idS (s:Schema):Int×Int:=if aT s≠0 then(0,aT s)else(iM (kV s),0)
theorem dA {l:List Col} {k:Int} (h:0<=k/\k<l.length):eI (l.drop k.toNat)=mP l[k.toNat]! ++eI (l.drop (k+1).toNat):=by
 rw[bH l k h];rfl
theorem eD {s:Schema} (h:aT s=0) {k:Int} (hk:0<=k/\k<s.1.length):(1<=s.1[k.toNat]!.2.1/\s.1[k.toNat]!.2.1<=5)/\(0<=s.1[k.toNat]!.2.2.1/\s.1[k.toNat]!.2.2.1<=18)/\s.1[k.toNat]!.1.size<=16:=by
 have he:bM (cN s.1) 0 s.1=0:=by
  unfold aT at h;split at h
  ·cases h
  split at h
  ·cases h
  split at h
  ·contradiction
  ·rename_i q;exact Decidable.not_not.1 q
 have h1:=pQ he k hk;unfold cN at h1;split at h1
 ·cases h1
 rename_i h2;split at h1
 ·cases h1
 split at h1
 ·cases h1
 rename_i h3;split at h1
 ·cases h1
 rename_i h4;simp only[Bool.not_eq_false]at h2 h3 h4;simp only[kX,Bool.and_eq_true,decide_eq_true_eq]at h2;simp only[bS,Bool.and_eq_true,decide_eq_true_eq]at h3;simp only[eZ,Bool.and_eq_true,decide_eq_true_eq]at h4;omega
theorem qV2 {t:Int} (h:1<=t/\t<=5):t=1\/t=2\/t=3\/t=4\/t=5:=by omega
theorem qYV {t:Int} (h:1<=t/\t<=5):(tw t).size<=8:=by
 rcases qV2 h with rfl|rfl|rfl|rfl|rfl<;>decide
theorem qE1 {t:Int} (h:1<=t/\t<=5):(vU[(t-1).toNat]!).size<=7:=by
 rcases qV2 h with rfl|rfl|rfl|rfl|rfl<;>decide
theorem tM (n:Int):(SH n).size<=2:=by
 unfold SH;split
 ·show 1<=2;decide
 ·show 2<=2;decide
theorem qUV (c:Col):(scT c).size<=3:=by
 unfold scT;split
 ·rw[ByteArray.size_append];have:=tM c.2.2.1;have e:(⟨#[32]⟩:ByteArray).size=1:=rfl;omega
 ·exact Nat.zero_le _
theorem qUA (c:Col):(nuT c).size<=5:=by unfold nuT;split<;>decide
theorem qOG {c:Col} (h:1<=c.2.1/\c.2.1<=5) (hn:c.1.size<=16):(mP c).size<=33:=by
 have h1:=qYV h;have h2:=qUV c;have h3:=qUA c;have e:nlB.size=1:=rfl;simp only[mP,ByteArray.size_append];omega
theorem fQ (a:ByteArray):(⟨#[]⟩:ByteArray)++a=a:=ByteArray.empty_append
theorem CI (a:ByteArray):a++⟨#[]⟩=a:=ByteArray.append_empty
theorem SC:∀(l:List Col),(∀c,c∈l->(1<=c.2.1/\c.2.1<=5)/\c.1.size<=16)->(eI l).size<=33*l.length
 | [],_=>Nat.zero_le _
 |c::l,h=>by
  have h1:=h c (List.mem_cons_self ..);have h2:=qOG h1.1 h1.2;have h3:=SC l fun x hx=>h x (List.mem_cons_of_mem _ hx)
  rw[eI,ByteArray.size_append,List.length_cons];omega
theorem qTQ {s:Schema} (h:aT s=0):(kV s).size<=1000:=by
 have q0:=aY h;have h1:=SC s.1 fun c hc=>by
  obtain⟨i,hi,rfl⟩:=List.mem_iff_getElem.1 hc;have:=eD h (k:=(i:Int)) ⟨by omega,by omega⟩;rw[Int.toNat_natCast,getElem!_pos s.1 i hi]at this;exact⟨this.1,this.2.2⟩
 have h2:=eD h (k:=s.2) q0.2;have u1:(⟨#[107,101,121,32]⟩:ByteArray).size=4:=rfl;have u2:nlB.size=1:=rfl;unfold kV YP;simp only[ByteArray.size_append];omega
theorem qA3 {s:Schema}:(kJ s).1.size<=1000:=by
 unfold kJ;split
 ·exact Nat.zero_le _
 ·rename_i h;exact qTQ (Decidable.not_not.1 h)
theorem qVV {s:Schema} (h:(kJ s).2=0):idS s=(zT cR (kJ s).1,0):=by
 unfold kJ idS at *;by_cases q:aT s≠0
 ·rw[if_pos q]at h;exact absurd h q
 ·rw[if_neg q,if_neg q];rfl
theorem qVW {s:Schema} (h:¬(kJ s).2=0):idS s=(0,(kJ s).2):=by
 unfold kJ idS at *;by_cases q:aT s≠0
 ·rw[if_pos q,if_pos q]
 ·rw[if_neg q]at h;exact absurd rfl h
theorem qY7 {q:Int} (h:0<=q/\q<=18):(0<=Int.tmod q 10/\Int.tmod q 10<10)/\0<=Int.tdiv q 10/\Int.tdiv q 10<=1/\(0<q->Int.tdiv q 10<q):=by
 rw[Int.tmod_eq_emod_of_nonneg h.1,Int.tdiv_eq_ediv_of_nonneg h.1];omega
def CG (s p:ByteArray):Bool:=decide (p.size<=s.size)&&decide (s.extract 0 p.size=p)
def CH (s p:ByteArray):Bool:=decide (p.size<=s.size)&&decide (s.extract (s.size-p.size) s.size=p)
abbrev RN:Ct:=.fn [.str,.str] (some (fun(s:ByteArray) (p:ByteArray)=>(s.size<=4611686018427387904/\p.size<=4611686018427387904))) (fun(s:ByteArray) (p:ByteArray)=>.d .bool (CG s p))
theorem qUL:aF Tryz.prog 89 RN:=by
 refine aF.fn VO mixed [] [124] rfl rfl ?_;rintro⟨(s:ByteArray),(p:ByteArray),_⟩ hpre;replace hpre:=hpre _ rfl;dsimp only[cu]at hpre;have hs:=hpre;refine⟨[],?_⟩;repeat' (first
  |(
 with_reducible apply Side.mk
 (try dsimp only[cu,aC,aB,gts,loK,hiK,eE,eN])
 omega)
  |(conv=>whnf
    first
     |with_reducible first|done|exact trivial|refine NilBr.mk (fun h=>?_) ?_|apply aI|apply aH|refine aJ (by kernel_rfl) ?_|apply aK|apply bB|apply bA|apply aQ
     |((with_reducible first|apply aS|apply aR|apply aZ)<;>intro h<;>(try dsimp only[cu,eE,eN]at h)<;>(try(exfalso;omega)))))
 all_goals(
 with_reducible apply Leaf.mk
 (try dsimp only[cu,aC,aB,gts,eE,eN]at *)
 grind [CG])
abbrev qSO:Tbl:=(89,RN)::qSN
theorem VP:aD Tryz.prog qSO:=aD.cons qUL VO
abbrev RQ:Ct:=.fn [.str,.str] (some (fun(s:ByteArray) (p:ByteArray)=>(s.size<=4611686018427387904/\p.size<=4611686018427387904))) (fun(s:ByteArray) (p:ByteArray)=>.d .bool (CH s p))
theorem qU0:aF Tryz.prog 90 RQ:=by
 refine aF.fn VP mixed [] [125] rfl rfl ?_;rintro⟨(s:ByteArray),(p:ByteArray),_⟩ hpre;replace hpre:=hpre _ rfl;dsimp only[cu]at hpre;have hs:=hpre;refine⟨[],?_⟩;repeat' (first
  |(
 with_reducible apply Side.mk
 (try dsimp only[cu,aC,aB,gts,loK,hiK,eE,eN])
 omega)
  |(conv=>whnf
    first
     |with_reducible first|done|exact trivial|refine NilBr.mk (fun h=>?_) ?_|apply aI|apply aH|refine aJ (by kernel_rfl) ?_|apply aK|apply bB|apply bA|apply aQ
     |((with_reducible first|apply aS|apply aR|apply aZ)<;>intro h<;>(try dsimp only[cu,eE,eN]at h)<;>(try(exfalso;omega)))))
 all_goals(
 with_reducible apply Leaf.mk
 (try dsimp only[cu,aC,aB,gts,eE,eN]at *)
 grind [CH])
abbrev qSP:Tbl:=(90,RQ)::qSO
theorem VQ:aD Tryz.prog qSP:=aD.cons qU0 VP
abbrev JJ:Ct:=.fn [.int .i64] (some (fun(n:Int)=>(0<=n/\n<=18))) (fun(n:Int)=>.d .str (SH n))
theorem qPO:aF Tryz.prog 146 JJ:=by
 refine aF.fn VQ mixed [] [175,199,216] rfl rfl ?_;rintro⟨(n:Int),_⟩ hpre;replace hpre:=hpre _ rfl;dsimp only[cu]at hpre;have hn:=hpre;refine⟨[],?_⟩;repeat' (first
  |(
 with_reducible apply Side.mk
 (try dsimp only[cu,aC,aB,gts,loK,hiK,eE,eN])
 first
 |omega
 |(
  show _<=((36:Nat):Int);omega)
 |(
  show _<=((200:Nat):Int);omega))
  |(conv=>whnf
    first
     |with_reducible first|done|exact trivial|refine NilBr.mk (fun h=>?_) ?_|apply aI|apply aH|refine aJ (by kernel_rfl) ?_|apply aK|apply bB|apply bA|apply aQ
     |((with_reducible first|apply aS|apply aR|apply aZ)<;>intro h<;>(try dsimp only[cu,eE,eN]at h)<;>(try(exfalso;omega)))))
 all_goals(
 with_reducible apply Leaf.mk
 (try dsimp only[cu,aC,aB,gts,eE,eN]at *)
 (rcases(show n=0\/n=1\/n=2\/n=3\/n=4\/n=5\/n=6\/n=7\/n=8\/n=9\/n=10\/n=11\/n=12\/n=13\/n=14\/n=15\/n=16\/n=17\/n=18 by omega)with rfl|rfl|rfl|rfl|rfl|rfl|rfl|rfl|rfl|rfl|rfl|rfl|rfl|rfl|rfl|rfl|rfl|rfl|rfl<;>first|(exfalso;omega)|decide))
abbrev qSQ:Tbl:=(146,JJ)::qSP
theorem VR:aD Tryz.prog qSQ:=aD.cons qPO VQ
abbrev KA:Ct:=.fn [.int .i64] (some (fun(n:Int)=>(0<=n/\n<=18))) (fun(n:Int)=>.d .str (SH n))
theorem qQV:aF Tryz.prog 119 KA:=by
 refine aF.fn VR mixed [] [] rfl rfl ?_;rintro⟨(n:Int),_⟩ hpre;replace hpre:=hpre _ rfl;dsimp only[cu]at hpre;have hn:=hpre;refine⟨[(0,10,LA.mk [.sl 0 (.int .i64),.sl 3 .str] (fun y=>Tag 77/\cu [.int .i64,.str] (fun(q:Int) (w:ByteArray)=>((q=n/\w=⟨#[]⟩)\/(q=1/\w=⟨#[UInt8.ofNat (38+n.toNat)]⟩)\/(q=0/\w=SH n))/\(0<=q/\q<=18)) y) (cu [.int .i64,.str] (fun(q:Int) (w:ByteArray)=>q.toNat)) (cu [.int .i64,.str] (fun(q:Int) (w:ByteArray)=>([]:List (Nat×Nat×LA)))))],?_⟩;repeat' (first
  |(
 with_reducible refine Side.mk ⟨(⟨⟩:Tag 77),?_⟩
 dsimp only[cu,aC,aB,gts,eE,eN]
 refine⟨?_,?_⟩
 ·first
  |exact Or.inl ⟨rfl,rfl⟩
  |(
  rcases hq with⟨rfl,rfl⟩|⟨rfl,rfl⟩|⟨rfl,rfl⟩
  ·refine Or.inr (Or.inl ⟨?_,?_⟩)<;>(rcases(show q=10\/q=11\/q=12\/q=13\/q=14\/q=15\/q=16\/q=17\/q=18 by omega)with rfl|rfl|rfl|rfl|rfl|rfl|rfl|rfl|rfl<;>decide)
  ·refine Or.inr (Or.inr ⟨by decide,?_⟩)
   rcases(show n=10\/n=11\/n=12\/n=13\/n=14\/n=15\/n=16\/n=17\/n=18 by omega)with rfl|rfl|rfl|rfl|rfl|rfl|rfl|rfl|rfl<;>decide
  ·exact absurd rfl (by with_reducible assumption))
 ·omega)
  |(
 with_reducible apply Side.mk
 (try dsimp only[cu,aC,aB,gts,loK,hiK,eE,eN])
 first
 |omega
 |(
  show _<=((10:Nat):Int);omega)
 |(
  have hws:w.size<=2:=by
   rcases hq with⟨_,h⟩|⟨_,h⟩|⟨_,h⟩<;>rw[h]
   ·exact Nat.zero_le _
   ·show 1<=2;decide
   ·exact tM n
  have u:(⟨#[48,49,50,51,52,53,54,55,56,57]⟩:ByteArray).size=10:=rfl;rw[ByteArray.size_extract];omega))
  |(conv=>whnf
    first
     |with_reducible first|done|exact trivial|refine NilBr.mk (fun h=>?_) ?_|apply aI|apply aH|refine aJ (by kernel_rfl) ?_|apply aK|apply bB|apply bA|apply aQ
     |((with_reducible first|apply aS|apply aR|apply aZ)<;>intro h<;>(try dsimp only[cu,eE,eN]at h)<;>(try(exfalso;omega)))
     |(
 intro yy (hy:Tag 77/\_)
 obtain⟨(q:Int),(w:ByteArray),_⟩:=yy
 replace hy:=hy.2
 dsimp only[cu,aC,aB,gts,eE,eN]at hy
 obtain⟨hq,hqb⟩:=hy
 have hm:=qY7 hqb)))
 all_goals(
 with_reducible apply Leaf.mk
 (try dsimp only[cu,aC,aB,gts,eE,eN]at *)
 first
 |(
  rcases hq with⟨h1,h2⟩|⟨h1,h2⟩|⟨h1,h2⟩
  ·exfalso;omega
  ·exfalso;omega
  ·exact h2)
 |(rcases(show n=0\/n=1\/n=2\/n=3\/n=4\/n=5\/n=6\/n=7\/n=8\/n=9\/n=10\/n=11\/n=12\/n=13\/n=14\/n=15\/n=16\/n=17\/n=18 by omega)with rfl|rfl|rfl|rfl|rfl|rfl|rfl|rfl|rfl|rfl|rfl|rfl|rfl|rfl|rfl|rfl|rfl|rfl|rfl<;>first|(exfalso;omega)|decide))
abbrev qSR:Tbl:=(119,KA)::qSQ
theorem VT:aD Tryz.prog qSR:=aD.cons qQV VR
abbrev EZ:Ct:=.fn [] (none) (.d (.list .str) vU)
theorem qNK:aF Tryz.prog 145 EZ:=by
 refine aF.fn VT mixed [] [] rfl rfl ?_;rintro⟨⟩ -;refine⟨[],?_⟩;repeat' (first
  |(
 with_reducible apply Side.mk
 (try dsimp only[cu,aC,aB,gts,loK,hiK,eE,eN])
 exact Eq.refl _)
  |(conv=>whnf
    first
     |with_reducible first|done|exact trivial|refine NilBr.mk (fun h=>?_) ?_|apply aI|apply aH|refine aJ (by kernel_rfl) ?_|apply aK|apply bB|apply bA|apply aQ
     |((with_reducible first|apply aS|apply aR|apply aZ)<;>intro h<;>(try dsimp only[cu,eE,eN]at h)<;>(try(exfalso;omega)))))
 all_goals(
 with_reducible apply Leaf.mk
 (try dsimp only[cu,aC,aB,gts,eE,eN]at *)
 rfl)
abbrev qSS:Tbl:=(145,EZ)::qSR
theorem VU:aD Tryz.prog qSS:=aD.cons qNK VT
abbrev JF:Ct:=.fn [bW] (none) (fun(s:Schema)=>.tup [.str,.int .i64] ((kJ s).1,(kJ s).2,()))
theorem qPA:aF Tryz.prog 106 JF:=by
 refine aF.fn VU mixed [] [] rfl rfl ?_;rintro⟨(s:Schema),_⟩ -;refine⟨[(0,12,LA.mk [.sl 16 (.int .i64),.row 1 [.osf 1,.own (.int .u8) 5]] (fun y=>Tag 78/\cu [.int .i64,.bool,.list (.int .u8)] (fun(k:Int) (b0:Bool) (B:List Int)=>(0<=k/\k<=s.1.length)/\(eI s.1=aV B++eI (s.1.drop k.toNat))/\((B.length:Int)<=33*k)) y) (cu [.int .i64,.bool,.list (.int .u8)] (fun(k:Int) (b0:Bool) (B:List Int)=>((s.1.length:Int)-k).toNat)) (cu [.int .i64,.bool,.list (.int .u8)] (fun(k:Int) (b0:Bool) (B:List Int)=>([]:List (Nat×Nat×LA)))))],?_⟩;repeat' (first
  |(
 with_reducible refine Side.mk ⟨(⟨⟩:Tag 78),?_⟩
 dsimp only[cu,aC,aB,gts,eE,eN]
 refine⟨?_,?_,?_⟩
 ·omega
 ·first
  |(
  show eI s.1=ByteArray.empty++eI s.1
  rw[ByteArray.empty_append])
  |(
  have t1:scT s.1[k.toNat]! =⟨#[32]⟩++SH s.1[k.toNat]!.2.2.1:=if_pos (by with_reducible assumption)
  first
  |(
   have t2:nuT s.1[k.toNat]! =nuB:=if_pos (by with_reducible assumption);rw[hB,dA (by omega),mP,t1,t2,tw];simp only[hE,gP,ByteArray.append_assoc,fQ];done)
  |(
   have t2:nuT s.1[k.toNat]! =⟨#[]⟩:=if_neg (by rw[show s.1[k.toNat]!.2.2.2=false by with_reducible assumption];exact Bool.noConfusion);rw[hB,dA (by omega),mP,t1,t2,tw];simp only[hE,gP,ByteArray.append_assoc,fQ];done))
  |(
  have t1:scT s.1[k.toNat]! =⟨#[]⟩:=if_neg (by with_reducible assumption)
  first
  |(
   have t2:nuT s.1[k.toNat]! =nuB:=if_pos (by with_reducible assumption);rw[hB,dA (by omega),mP,t1,t2,tw];simp only[hE,gP,ByteArray.append_assoc,fQ];done)
  |(
   have t2:nuT s.1[k.toNat]! =⟨#[]⟩:=if_neg (by rw[show s.1[k.toNat]!.2.2.2=false by with_reducible assumption];exact Bool.noConfusion);rw[hB,dA (by omega),mP,t1,t2,tw];simp only[hE,gP,ByteArray.append_assoc,fQ];done))
 ·first
  |exact Int.le_refl _
  |(
  have kk:0<=k/\k<s.1.length:=by omega
  have qq:=eD (s:=s) (by with_reducible assumption) kk
  obtain⟨q1,q2,q3⟩:=qq
  have z1:=qE1 q1
  have z2:=tM s.1[k.toNat]!.2.2.1
  have u1:(⟨#[32]⟩:ByteArray).size=1:=rfl
  have u2:(⟨#[10]⟩:ByteArray).size=1:=rfl
  have u3:(⟨#[32,110,117,108,108]⟩:ByteArray).size=5:=rfl
  have u5:vU.length=5:=rfl
  have v0:(⟨#[32,105,110,116]⟩:ByteArray).size=4:=rfl
  have v1:(⟨#[32,98,111,111,108]⟩:ByteArray).size=5:=rfl
  have v2:(⟨#[32,98,121,116,101,115]⟩:ByteArray).size=6:=rfl
  have v3:(⟨#[32,100,97,116,101]⟩:ByteArray).size=5:=rfl
  have v4:(⟨#[32,100,101,99,105,109,97,108,32]⟩:ByteArray).size=9:=rfl
  have q0:=aY (s:=s) (by with_reducible assumption)
  simp only[List.length_append,bF,ByteArray.size_append]
  omega))
  |(
 with_reducible apply Side.mk
 (try dsimp only[cu,aC,aB,gts,loK,hiK,eE,eN])
 first
 |done
 |omega
 |exact Eq.refl _
 |(
  show _/\_;have kk:0<=k/\k<s.1.length:=by omega
  have qq:=eD (s:=s) (by with_reducible assumption) kk;obtain⟨q1,q2,q3⟩:=qq;omega)
 |(
  have kk:0<=k/\k<s.1.length:=by omega
  have qq:=eD (s:=s) (by with_reducible assumption) kk;obtain⟨q1,q2,q3⟩:=qq;have z1:=qE1 q1;have z2:=tM s.1[k.toNat]!.2.2.1;have u1:(⟨#[32]⟩:ByteArray).size=1:=rfl;have u2:(⟨#[10]⟩:ByteArray).size=1:=rfl;have u3:(⟨#[32,110,117,108,108]⟩:ByteArray).size=5:=rfl;have u5:vU.length=5:=rfl;have v0:(⟨#[32,105,110,116]⟩:ByteArray).size=4:=rfl;have v1:(⟨#[32,98,111,111,108]⟩:ByteArray).size=5:=rfl;have v2:(⟨#[32,98,121,116,101,115]⟩:ByteArray).size=6:=rfl;have v3:(⟨#[32,100,97,116,101]⟩:ByteArray).size=5:=rfl;have v4:(⟨#[32,100,101,99,105,109,97,108,32]⟩:ByteArray).size=9:=rfl;have q0:=aY (s:=s) (by with_reducible assumption);have w1:=q1.1;have w2:=q1.2;(try simp only[List.length_append,bF,ByteArray.size_append]);omega)
 |(
  have q0:=aY (s:=s) (by with_reducible assumption);have kk:0<=s.2/\s.2<s.1.length:=by omega
  have qq:=eD (s:=s) (by with_reducible assumption) kk;obtain⟨q1,q2,q3⟩:=qq;have u1:(⟨#[107,101,121,32]⟩:ByteArray).size=4:=rfl;have u2:(⟨#[10]⟩:ByteArray).size=1:=rfl;(try simp only[List.length_append,bF,ByteArray.size_append]);omega))
  |(conv=>whnf
    first
     |with_reducible first|done|exact trivial|refine NilBr.mk (fun h=>?_) ?_|apply aI|apply aH|refine aJ (by kernel_rfl) ?_|apply aK|apply bB|apply bA|apply aQ
     |((with_reducible first|apply aS|apply aR|apply aZ)<;>intro h<;>(try dsimp only[cu,eE,eN]at h)<;>(try(exfalso;omega)))
     |(
 intro yy (hy:Tag 78/\_)
 obtain⟨(k:Int),(b0:Bool),(B:List Int),_⟩:=yy
 replace hy:=hy.2
 dsimp only[cu,aC,aB,gts,eE,eN]at hy
 obtain⟨hk,hB,hz⟩:=hy
 rcases b0 with _|_)))
 all_goals(
 with_reducible apply Leaf.mk
 (try dsimp only[cu,aC,aB,gts,eE,eN]at *)
 first
 |rw[kJ,if_pos (by with_reducible assumption)]
 |(
  have hk2:k=s.1.length:=by omega
  have hd:s.1.drop k.toNat= []:=List.drop_eq_nil_of_le (by omega);rw[hd]at hB;have hB2:eI []=(⟨#[]⟩:ByteArray):=rfl;rw[hB2,CI]at hB;rw[kJ,if_neg (fun q=>q (by with_reducible assumption)),kV,YP,hB];simp only[hE,gP,ByteArray.append_assoc,fQ];done)
 |(rw[kJ,if_neg (fun q=>q (by with_reducible assumption))]))
abbrev qST:Tbl:=(106,JF)::qSS
theorem VV:aD Tryz.prog qST:=aD.cons qPA VU
abbrev EM:Ct:=.fn [bW] (none) (fun(s:Schema)=>.tup [.str,.int .i64] ((kJ s).1,(kJ s).2,()))
theorem qMB:aF Tryz.prog 80 EM:=by
 refine aF.fn VV mixed [] [] rfl rfl ?_;rintro⟨(s:Schema),_⟩ -;refine⟨[(0,12,LA.mk [.sl 16 (.int .i64),.sl 5 .str] (fun y=>Tag 79/\cu [.int .i64,.str] (fun(k:Int) (b:ByteArray)=>(0<=k/\k<=s.1.length)/\(eI s.1=b++eI (s.1.drop k.toNat))/\((b.size:Int)<=33*k)) y) (cu [.int .i64,.str] (fun(k:Int) (b:ByteArray)=>((s.1.length:Int)-k).toNat)) (cu [.int .i64,.str] (fun(k:Int) (b:ByteArray)=>([]:List (Nat×Nat×LA)))))],?_⟩;repeat' (first
  |(
 with_reducible refine Side.mk ⟨(⟨⟩:Tag 79),?_⟩
 dsimp only[cu,aC,aB,gts,eE,eN]
 refine⟨?_,?_,?_⟩
 ·omega
 ·first
  |(
  show eI s.1=ByteArray.empty++eI s.1
  rw[ByteArray.empty_append])
  |(
  have t0:s.1[k.toNat]!.2.1=1:=by with_reducible assumption
  have t1:scT s.1[k.toNat]! =⟨#[]⟩:=if_neg (by rw[t0];decide)
  have t3:tw s.1[k.toNat]!.2.1=(⟨#[32,105,110,116]⟩:ByteArray):=by rw[t0];decide
  first
  |(
   have t2:nuT s.1[k.toNat]! =nuB:=if_pos (by with_reducible assumption);rw[hB,dA (by omega),mP,t1,t2,t3];simp only[ByteArray.append_assoc,fQ];done)
  |(
   have t2:nuT s.1[k.toNat]! =⟨#[]⟩:=if_neg (by rw[show s.1[k.toNat]!.2.2.2=false by with_reducible assumption];exact Bool.noConfusion);rw[hB,dA (by omega),mP,t1,t2,t3];simp only[ByteArray.append_assoc,fQ];done))
  |(
  have t0:s.1[k.toNat]!.2.1=2:=by with_reducible assumption
  have t1:scT s.1[k.toNat]! =⟨#[]⟩:=if_neg (by rw[t0];decide)
  have t3:tw s.1[k.toNat]!.2.1=(⟨#[32,98,111,111,108]⟩:ByteArray):=by rw[t0];decide
  first
  |(
   have t2:nuT s.1[k.toNat]! =nuB:=if_pos (by with_reducible assumption);rw[hB,dA (by omega),mP,t1,t2,t3];simp only[ByteArray.append_assoc,fQ];done)
  |(
   have t2:nuT s.1[k.toNat]! =⟨#[]⟩:=if_neg (by rw[show s.1[k.toNat]!.2.2.2=false by with_reducible assumption];exact Bool.noConfusion);rw[hB,dA (by omega),mP,t1,t2,t3];simp only[ByteArray.append_assoc,fQ];done))
  |(
  have t0:s.1[k.toNat]!.2.1=3:=by with_reducible assumption
  have t1:scT s.1[k.toNat]! =⟨#[]⟩:=if_neg (by rw[t0];decide)
  have t3:tw s.1[k.toNat]!.2.1=(⟨#[32,98,121,116,101,115]⟩:ByteArray):=by rw[t0];decide
  first
  |(
   have t2:nuT s.1[k.toNat]! =nuB:=if_pos (by with_reducible assumption);rw[hB,dA (by omega),mP,t1,t2,t3];simp only[ByteArray.append_assoc,fQ];done)
  |(
   have t2:nuT s.1[k.toNat]! =⟨#[]⟩:=if_neg (by rw[show s.1[k.toNat]!.2.2.2=false by with_reducible assumption];exact Bool.noConfusion);rw[hB,dA (by omega),mP,t1,t2,t3];simp only[ByteArray.append_assoc,fQ];done))
  |(
  have t0:s.1[k.toNat]!.2.1=4:=by with_reducible assumption
  have t1:scT s.1[k.toNat]! =⟨#[]⟩:=if_neg (by rw[t0];decide)
  have t3:tw s.1[k.toNat]!.2.1=(⟨#[32,100,97,116,101]⟩:ByteArray):=by rw[t0];decide
  first
  |(
   have t2:nuT s.1[k.toNat]! =nuB:=if_pos (by with_reducible assumption);rw[hB,dA (by omega),mP,t1,t2,t3];simp only[ByteArray.append_assoc,fQ];done)
  |(
   have t2:nuT s.1[k.toNat]! =⟨#[]⟩:=if_neg (by rw[show s.1[k.toNat]!.2.2.2=false by with_reducible assumption];exact Bool.noConfusion);rw[hB,dA (by omega),mP,t1,t2,t3];simp only[ByteArray.append_assoc,fQ];done))
  |(
  have kk:0<=k/\k<s.1.length:=by omega
  have qq:=eD (s:=s) (by with_reducible assumption) kk
  obtain⟨q1,q2,q3⟩:=qq
  have t0:s.1[k.toNat]!.2.1=5:=by omega
  have t1:scT s.1[k.toNat]! =⟨#[32]⟩++SH s.1[k.toNat]!.2.2.1:=if_pos t0
  have t3:tw s.1[k.toNat]!.2.1=(⟨#[32,100,101,99,105,109,97,108]⟩:ByteArray):=by rw[t0];decide
  have t4:(⟨#[32,100,101,99,105,109,97,108,32]⟩:ByteArray)=(⟨#[32,100,101,99,105,109,97,108]⟩:ByteArray)++⟨#[32]⟩:=by decide
  first
  |(
   have t2:nuT s.1[k.toNat]! =nuB:=if_pos (by with_reducible assumption);rw[hB,dA (by omega),mP,t1,t2,t3,t4];simp only[ByteArray.append_assoc,fQ];done)
  |(
   have t2:nuT s.1[k.toNat]! =⟨#[]⟩:=if_neg (by rw[show s.1[k.toNat]!.2.2.2=false by with_reducible assumption];exact Bool.noConfusion);rw[hB,dA (by omega),mP,t1,t2,t3,t4];simp only[ByteArray.append_assoc,fQ];done))
 ·first
  |exact Int.le_refl _
  |(
  have kk:0<=k/\k<s.1.length:=by omega
  have qq:=eD (s:=s) (by with_reducible assumption) kk
  obtain⟨q1,q2,q3⟩:=qq
  have z1:=qE1 q1
  have z2:=tM s.1[k.toNat]!.2.2.1
  have u1:(⟨#[32]⟩:ByteArray).size=1:=rfl
  have u2:(⟨#[10]⟩:ByteArray).size=1:=rfl
  have u3:(⟨#[32,110,117,108,108]⟩:ByteArray).size=5:=rfl
  have u5:vU.length=5:=rfl
  have v0:(⟨#[32,105,110,116]⟩:ByteArray).size=4:=rfl
  have v1:(⟨#[32,98,111,111,108]⟩:ByteArray).size=5:=rfl
  have v2:(⟨#[32,98,121,116,101,115]⟩:ByteArray).size=6:=rfl
  have v3:(⟨#[32,100,97,116,101]⟩:ByteArray).size=5:=rfl
  have v4:(⟨#[32,100,101,99,105,109,97,108,32]⟩:ByteArray).size=9:=rfl
  have q0:=aY (s:=s) (by with_reducible assumption)
  simp only[ByteArray.size_append]
  omega))
  |(
 with_reducible apply Side.mk
 (try dsimp only[cu,aC,aB,gts,loK,hiK,eE,eN])
 first
 |omega
 |(
  show _/\_;have kk:0<=k/\k<s.1.length:=by omega
  have qq:=eD (s:=s) (by with_reducible assumption) kk;obtain⟨q1,q2,q3⟩:=qq;omega)
 |(
  have kk:0<=k/\k<s.1.length:=by omega
  have qq:=eD (s:=s) (by with_reducible assumption) kk;obtain⟨q1,q2,q3⟩:=qq;have z1:=qE1 q1;have z2:=tM s.1[k.toNat]!.2.2.1;have u1:(⟨#[32]⟩:ByteArray).size=1:=rfl;have u2:(⟨#[10]⟩:ByteArray).size=1:=rfl;have u3:(⟨#[32,110,117,108,108]⟩:ByteArray).size=5:=rfl;have u5:vU.length=5:=rfl;have v0:(⟨#[32,105,110,116]⟩:ByteArray).size=4:=rfl;have v1:(⟨#[32,98,111,111,108]⟩:ByteArray).size=5:=rfl;have v2:(⟨#[32,98,121,116,101,115]⟩:ByteArray).size=6:=rfl;have v3:(⟨#[32,100,97,116,101]⟩:ByteArray).size=5:=rfl;have v4:(⟨#[32,100,101,99,105,109,97,108,32]⟩:ByteArray).size=9:=rfl;have q0:=aY (s:=s) (by with_reducible assumption);have w1:=q1.1;have w2:=q1.2;(try simp only[List.length_append,bF,ByteArray.size_append]);omega)
 |(
  have q0:=aY (s:=s) (by with_reducible assumption);have kk:0<=s.2/\s.2<s.1.length:=by omega
  have qq:=eD (s:=s) (by with_reducible assumption) kk;obtain⟨q1,q2,q3⟩:=qq;have u1:(⟨#[107,101,121,32]⟩:ByteArray).size=4:=rfl;have u2:(⟨#[10]⟩:ByteArray).size=1:=rfl;(try simp only[List.length_append,bF,ByteArray.size_append]);omega))
  |(conv=>whnf
    first
     |with_reducible first|done|exact trivial|refine NilBr.mk (fun h=>?_) ?_|apply aI|apply aH|refine aJ (by kernel_rfl) ?_|apply aK|apply bB|apply bA|apply aQ
     |((with_reducible first|apply aS|apply aR|apply aZ)<;>intro h<;>(try dsimp only[cu,eE,eN]at h)<;>(try(exfalso;omega)))
     |(
 intro yy (hy:Tag 79/\_)
 obtain⟨(k:Int),(b:ByteArray),_⟩:=yy
 replace hy:=hy.2
 dsimp only[cu,aC,aB,gts,eE,eN]at hy
 obtain⟨hk,hB,hz⟩:=hy)))
 all_goals(
 with_reducible apply Leaf.mk
 (try dsimp only[cu,aC,aB,gts,eE,eN]at *)
 first
 |rw[kJ,if_pos (by with_reducible assumption)]
 |(
  have hk2:k=s.1.length:=by omega
  have hd:s.1.drop k.toNat= []:=List.drop_eq_nil_of_le (by omega);rw[hd]at hB;have hB2:eI []=(⟨#[]⟩:ByteArray):=rfl;rw[hB2,CI]at hB;rw[kJ,if_neg (fun q=>q (by with_reducible assumption)),kV,YP,hB];simp only[hE,gP,ByteArray.append_assoc,fQ];done)
 |(rw[kJ,if_neg (fun q=>q (by with_reducible assumption))]))
abbrev qSU:Tbl:=(80,EM)::qST
theorem VW:aD Tryz.prog qSU:=aD.cons qMB VV
abbrev qAQ:Ct:=.fn [bW] (none) (fun(s:Schema)=>.tup [.int .u32,.int .i64] ((idS s).1,(idS s).2,()))
theorem qVX:aF Tryz.prog 61 qAQ:=by
 refine aF.fn VW mixed [] [] rfl rfl ?_;rintro⟨(s:Schema),_⟩ -;refine⟨[],?_⟩;repeat' (first
  |(
 with_reducible apply Side.mk
 (try dsimp only[cu,aC,aB,gts,loK,hiK,eE,eN])
 (
  have hfs:=qA3 (s:=s);omega))
  |(conv=>whnf
    first
     |with_reducible first|done|exact trivial|refine NilBr.mk (fun h=>?_) ?_|apply aI|apply aH|refine aJ (by kernel_rfl) ?_|apply aK|apply bB|apply bA|apply aQ
     |((with_reducible first|apply aS|apply aR|apply aZ)<;>intro h<;>(try dsimp only[cu,eE,eN]at h)<;>(try(exfalso;omega)))))
 all_goals(
 with_reducible apply Leaf.mk
 (try dsimp only[cu,aC,aB,gts,eE,eN]at *)
 first
 |(
  rw[qVV (by with_reducible assumption)];first|done|rfl)
 |(rw[qVW (by with_reducible assumption)]))
abbrev qSV:Tbl:=(61,qAQ)::qSU
theorem VX:aD Tryz.prog qSV:=aD.cons qVX VW
abbrev RP:Ct:=.fn [bW] (none) (fun(s:Schema)=>.tup [.int .u32,.int .i64] ((idS s).1,(idS s).2,()))
theorem qUT:aF Tryz.prog 37 RP:=by
 refine aF.fn VX mixed [] [] rfl rfl ?_;rintro⟨(s:Schema),_⟩ -;refine⟨[],?_⟩;repeat' (first
  |(
 with_reducible apply Side.mk
 (try dsimp only[cu,aC,aB,gts,loK,hiK,eE,eN])
 (
  have hfs:=qA3 (s:=s);omega))
  |(conv=>whnf
    first
     |with_reducible first|done|exact trivial|refine NilBr.mk (fun h=>?_) ?_|apply aI|apply aH|refine aJ (by kernel_rfl) ?_|apply aK|apply bB|apply bA|apply aQ
     |((with_reducible first|apply aS|apply aR|apply aZ)<;>intro h<;>(try dsimp only[cu,eE,eN]at h)<;>(try(exfalso;omega)))))
 all_goals(
 with_reducible apply Leaf.mk
 (try dsimp only[cu,aC,aB,gts,eE,eN]at *)
 first
 |(
  rw[qVV (by with_reducible assumption)];first|done|rfl)
 |(rw[qVW (by with_reducible assumption)]))
abbrev qSW:Tbl:=(37,RP)::qSV
theorem VY:aD Tryz.prog qSW:=aD.cons qUT VX
abbrev qY6:Ty:=.pair UR (.pair (.list (.int .i64)) (.int .i64))
abbrev Ftr:Type:=Info×(List Int)×Int
@[reducible] instance:Inhabited Ftr:=instInhabitedDen qY6
abbrev jC:ByteArray:=⟨#[77,80,84,49]⟩
abbrev gW:Info:=(0,[],oD,oD)
abbrev CF (s:Schema):Col:=s.1[s.2.toNat]!
def nmF (m:Int):Nat->List Int->Int->Fr->List Int×Int×Fr
 |0,l,d,r=>(l,d,r)
 |n+1,l,d,r=>nmF m n (l++ [(gU r m).1]) (d-(gU r m).1) (gU r m).2
def znF (rows:Int):List Col->List Zone->Fr->List Zone×Fr
 | [],z,r=>(z,r)
 |c::l,z,r=>znF rows l (z++ [(rN r c rows).1]) (rN r c rows).2
def pP3 (s:Schema) (n:Int) (rows:Int) (B:List Int×Int×Fr) (Z:List Zone) (lo hi:Rank×Fr):Info×List Int×Int:=
 if hi.2.2.2=true\/hi.2.2.1<n\/rows<1\/B.2.1≠0\/lH (CF s).2.1 lo.1 hi.1>0 then(gW,[],2)else((rows,Z,lo.1,hi.1),B.1,0)
def pP2 (s:Schema) (n:Int) (rows:Int) (B:List Int×Int×Fr) (Z:List Zone×Fr):Info×List Int×Int:=pP3 s n rows B Z.1 (mI Z.2 (CF s)) (mI (mI Z.2 (CF s)).2 (CF s))
def pP1 (s:Schema) (n:Int) (rows:Int) (B:List Int×Int×Fr):Info×List Int×Int:=pP2 s n rows B (znF rows s.1 [] B.2.2)
def pP0 (s:Schema) (n m d:Int) (A:Int×Fr):Info×List Int×Int:=pP1 s n A.1 (nmF m (s.1.length+1) [] d A.2)
def xQ (s:Schema) (t:ByteArray) (m d:Int):Info×List Int×Int:=pP0 s t.size m d (gU (t,0,false) 1024)
def nK (s:Schema) (file f:ByteArray) (k:Int):Info×List Int×Int:=
 if iM f≠cQ file (file.size-12)then(gW,[],9)else if cQ f 0≠iM (kV s)then(gW,[],1)else xQ s (f.extract 4 f.size) file.size (file.size-12-k)
def LG (s:Schema) (file:ByteArray) (k:Int):Info×List Int×Int:=
 if k>file.size-12 then(gW,[],10)else if CG file jC=false\/CH file jC=false\/k<8 then(gW,[],2)else nK s file (file.extract (file.size-8-k).toNat (file.size-12)) k
def bD (s:Schema) (file:ByteArray):Info×List Int×Int:=
 if aT s≠0 then(gW,[],aT s)else if file.size<12 then(gW,[],10)else LG s file (cQ file (file.size-8))
def offs (l:List Int):List Int:=(List.range (l.length+1)).map fun i=>4+eO (l.take i)
def rfN (f:ByteArray) (b:Int):Nat->List Int->Int->List Int×Int×Bool
 |0,F,a=>(F,a,true)
 |n+1,F,a=>if(aA f a).2.2≠0\/(aA f a).1>b then(F,a,false)else rfN f b n (F++ [F[F.length-1]! +(aA f a).1]) (aA f a).2.1
def rzN (f:ByteArray) (rows:Int):List Col->List Zone->Int->List Zone×Int×Bool
 | [],z,a=>(z,a,true)
 |c::l,z,a=>if(fE f a).2.2≠0\/mF c (fE f a).1=false\/(fE f a).1.1≠rows then(z,a,false)else rzN f rows l (z++ [(fE f a).1]) (fE f a).2.1
def rP4 (s:Schema) (f:ByteArray) (st rows:Int) (F:List Int) (Z:List Zone) (lo hi:Rank×Int×Bool):Ftr×Bool:=
 if hi.2.2=false\/hi.2.1≠f.size\/lH (CF s).2.1 lo.1 hi.1>0 then(((rows,Z,oD,oD),F,st),false)else(((rows,Z,lo.1,hi.1),F,st),true)
def rP3 (s:Schema) (f:ByteArray) (st rows:Int) (F:List Int) (Z:List Zone) (lo:Rank×Int×Bool):Ftr×Bool:=
 if lo.2.2=false then(((rows,Z,oD,oD),F,st),false)else rP4 s f st rows F Z lo (jF s f lo.2.1)
def rP2 (s:Schema) (f:ByteArray) (st rows:Int) (F:List Int) (Z:List Zone×Int×Bool):Ftr×Bool:=
 if Z.2.2=false then(((rows,Z.1,oD,oD),F,st),false)else rP3 s f st rows F Z.1 (jF s f Z.2.1)
def rP1 (s:Schema) (f:ByteArray) (st rows:Int) (B:List Int×Int×Bool):Ftr×Bool:=
 if B.2.2=false\/B.1[B.1.length-1]! ≠st then(((rows,[],oD,oD),B.1,st),false)else rP2 s f st rows B.1 (rzN f rows s.1 [] B.2.1)
def rJ (s:Schema) (f:ByteArray) (st:Int):Ftr×Bool:=
 if(aA f 4).2.2≠0\/(aA f 4).1<1\/(aA f 4).1>1024 then((gW,[4],st),false)else rP1 s f st (aA f 4).1 (rfN f st (s.1.length+1) [4] (aA f 4).2.1)
abbrev qAK:Ftr:=(gW,[],0)
def TG (s:Schema) (file f:ByteArray) (k:Int):Ftr×Int:=
 if iM f≠cQ file (file.size-12)then(qAK,9)else if cQ f 0≠iM (kV s)then(qAK,1)else if(rJ s f (file.size-8-k)).2=false then(qAK,2)else((rJ s f (file.size-8-k)).1,0)
def qR0 (s:Schema) (file:ByteArray) (k:Int):Ftr×Int:=
 if k>file.size-12 then(qAK,10)else if CG file jC=false\/CH file jC=false\/k<8 then(qAK,2)else TG s file (file.extract (file.size-8-k).toNat (file.size-12)) k
def qBW (s:Schema) (file:ByteArray):Ftr×Int:=
 if aT s≠0 then(qAK,aT s)else if file.size<12 then(qAK,10)else qR0 s file (cQ file (file.size-8))
def shK {α:Type} (k:Int) (x:α×Int×Int):α×Int×Int:=(x.1,if x.2.2=0 then x.2.1-k else 0,x.2.2)
theorem FW (s:ByteArray) (a b:Nat):aN (s.extract a b)=((aN s).drop a).take (b-a):=by
 unfold aN;simp [List.map_take,List.map_drop,List.take_drop]
theorem kN {f:ByteArray} {k e i:Nat} (h:k+i<e) (he:e<=f.size):aG (f.extract k e) i=aG f (k+i):=by
 rw[<-oB,<-oB,FW,List.getElem!_eq_getElem?_getD,List.getElem!_eq_getElem?_getD,List.getElem?_take,if_pos (by omega),List.getElem?_drop]
theorem OU {f:ByteArray} {k:Nat} (h:k<=f.size):(f.extract k f.size).size=f.size-k:=by rw[ByteArray.size_extract];omega
theorem ST {f:ByteArray} {k:Nat} (hk:k<=f.size) {a:Int} (ha:0<=a):∀(n:Nat) (j v:Int),0<=j->iJ (f.extract k f.size) a n j v=shK k (iJ f (a+k) n j v)
 |0,j,v,_=>by rw[iJ,iJ];rfl
 |n+1,j,v,hj=>by
  rw[iJ,iJ,OU hk];by_cases h1:j>=(f.size:Int)-(a+k)
  ·rw[if_pos (show j>=((f.size-k:Nat):Int)-a by omega),if_pos h1];rfl
  ·rw[if_neg (show ¬j>=((f.size-k:Nat):Int)-a by omega),if_neg h1]
   have hb:aG (f.extract k f.size) (a+j).toNat=aG f (a+k+j).toNat:=by
    rw[kN (by omega) (Nat.le_refl _)];congr 1;omega
   rw[hb,ST hk ha n (j+1) _ (by omega)];split
   ·rfl
   ·split
    ·rfl
    ·split
     ·rfl
     ·simp only[shK,if_true,Prod.mk.injEq,true_and,and_true];omega
theorem xF {f:ByteArray} {k:Nat} (hk:k<=f.size) {a:Int} (ha:0<=a):aA (f.extract k f.size) a=shK k (aA f (a+k)):=by
 unfold aA;rw[OU hk];by_cases h:a+k>f.size
 ·rw[if_pos (.inr (by omega)),if_pos (.inr h)];rfl
 ·rw[if_neg (by omega),if_neg (by omega),ST hk ha 10 0 0 (by omega)]
theorem qO0 {f:ByteArray} {k a b:Nat} (hk:k<=f.size) (hb:k+b<=f.size):(f.extract k f.size).extract a b=f.extract (k+a) (k+b):=by
 rw[ByteArray.extract_extract];congr 1;omega
theorem sZ {α:Type} {k:Int} {x:α×Int×Int} (h:x.2.2=0):shK k x=(x.1,x.2.1-k,0):=by
 rw[shK,if_pos h,h]
theorem rL {α:Type} {k:Int} {x:α×Int×Int} (h:x.2.2≠0):shK k x=(x.1,0,x.2.2):=by
 rw[shK,if_neg h]
theorem PE {f:ByteArray} {k:Nat} (hk:k<=f.size) {a:Int} (ha:0<=a):dC (f.extract k f.size) a=shK k (dC f (a+k)):=by
 unfold dC;rw[OU hk];by_cases h1:a+k>f.size
 ·rw[if_pos (.inr (by omega)),if_pos (.inr h1)];rfl
 rw[if_neg (show ¬(a<0\/a>((f.size-k:Nat):Int))by omega),if_neg (show ¬(a+k<0\/a+k>(f.size:Int))by omega)];by_cases h2:a+k=f.size
 ·rw[if_pos (by omega),if_pos h2];rfl
 rw[if_neg (show ¬a=((f.size-k:Nat):Int)by omega),if_neg h2];have hb:aG (f.extract k f.size) a.toNat=aG f (a+k).toNat:=by
  rw[kN (by omega) (Nat.le_refl _)];congr 1;omega
 rw[hb,xF hk (a:=a+1) (by omega),show a+1+(k:Int)=a+k+1 by omega];by_cases h3:aG f (a+k).toNat>1
 ·rw[if_pos h3,if_pos h3];rfl
 rw[if_neg h3,if_neg h3];by_cases h4:aG f (a+k).toNat=0
 ·rw[if_pos h4,if_pos h4];simp only[shK,if_true,Prod.mk.injEq,true_and,and_true];omega
 rw[if_neg h4,if_neg h4];by_cases h5:(aA f (a+k+1)).2.2≠0
 ·rw[rL h5,if_pos h5,if_pos h5,rL (by exact h5)]
 have h5:=Decidable.not_not.1 h5;have o1:=bO h5;rw[sZ h5];simp only[h5,ne_eq,not_true_eq_false,if_false];rw[xF hk (a:=(aA f (a+k+1)).2.1-k) (by omega),show(aA f (a+k+1)).2.1-(k:Int)+k=(aA f (a+k+1)).2.1 by omega];by_cases h6:(aA f (aA f (a+k+1)).2.1).2.2≠0
 ·rw[rL h6,if_pos h6,if_pos h6,rL (by exact h6)]
 have h6:=Decidable.not_not.1 h6;have o2:=bO h6;have g2:=aX f (aA f (a+k+1)).2.1;rw[sZ h6];simp only[h6,ne_eq,not_true_eq_false,if_false];by_cases h7:(aA f (aA f (a+k+1)).2.1).1>f.size-(aA f (aA f (a+k+1)).2.1).2.1
 ·rw[if_pos (by omega),if_pos h7];rfl
 rw[if_neg (by omega),if_neg h7,qO0 hk (by omega),sZ rfl];refine Prod.ext (Prod.ext rfl (Prod.ext rfl ?_)) (Prod.ext ?_ rfl)
 ·show f.extract _ _=f.extract _ _
  congr 1<;>omega
 ·dsimp only;omega
theorem CR {s:ByteArray} {a:Int} (h:(dC s a).2.2=0):0<=a/\a<(dC s a).2.1/\(dC s a).2.1<=s.size:=by
 unfold dC at h ⊢;split at h
 ·cases h
 rename_i h1;split at h
 ·cases h
 rename_i h2;split at h
 ·cases h
 rename_i h3;rw[if_neg h1,if_neg h2,if_neg h3];split at h
 ·rename_i h4
  rw[if_pos h4];show 0<=a/\a<a+1/\a+1<=s.size;omega
 rename_i h4;split at h
 ·rename_i h5;exact absurd h h5
 rename_i h5;split at h
 ·rename_i h6;exact absurd h h6
 rename_i h6;split at h
 ·cases h
 rename_i h7;rw[if_neg h4,if_neg h5,if_neg h6,if_neg h7];have o1:=bO (Decidable.not_not.1 h5);have o2:=bO (Decidable.not_not.1 h6);have g2:=aX s (aA s (a+1)).2.1;show 0<=a/\a<_+_/\_+_<=(s.size:Int);omega
theorem qPJ {f:ByteArray} {k:Nat} (hk:k<=f.size) {a:Int} (ha:0<=a):fE (f.extract k f.size) a=shK k (fE f (a+k)):=by
 unfold fE;rw[xF hk ha];by_cases h1:(aA f (a+k)).2.2≠0
 ·rw[rL h1,if_pos h1,if_pos h1,rL (by exact h1)]
 have h1:=Decidable.not_not.1 h1;have o1:=bO h1;rw[sZ h1];simp only[h1,ne_eq,not_true_eq_false,if_false];by_cases h2:(aA f (a+k)).1>4096
 ·rw[if_pos h2,if_pos h2];rfl
 rw[if_neg h2,if_neg h2,xF hk (a:=(aA f (a+k)).2.1-k) (by omega),show(aA f (a+k)).2.1-(k:Int)+k=(aA f (a+k)).2.1 by omega];by_cases h3:(aA f (aA f (a+k)).2.1).2.2≠0
 ·rw[rL h3,if_pos h3,if_pos h3,rL (by exact h3)]
 have h3:=Decidable.not_not.1 h3;have o3:=bO h3;rw[sZ h3];simp only[h3,ne_eq,not_true_eq_false,if_false];by_cases h4:(aA f (aA f (a+k)).2.1).1>4096
 ·rw[if_pos h4,if_pos h4];rfl
 rw[if_neg h4,if_neg h4];generalize hp:(aA f (aA f (a+k)).2.1).2.1=p at *;rw[PE hk (a:=p-k) (by omega),show p-(k:Int)+k=p by omega];by_cases h5:(dC f p).2.2≠0
 ·rw[rL h5,if_pos h5,if_pos h5,rL (by exact h5)]
 have h5:=Decidable.not_not.1 h5;have o5:=CR h5;rw[sZ h5];simp only[h5,ne_eq,not_true_eq_false,if_false];rw[PE hk (a:=(dC f p).2.1-k) (by omega),show(dC f p).2.1-(k:Int)+k=(dC f p).2.1 by omega];by_cases h6:(dC f (dC f p).2.1).2.2≠0
 ·rw[rL h6,if_pos h6,if_pos h6,rL (by exact h6)]
 have h6:=Decidable.not_not.1 h6;rw[sZ h6];simp only[h6,ne_eq,not_true_eq_false,if_false];rw[sZ rfl]
theorem qPI {s:ByteArray} {a:Int} (h:(fE s a).2.2=0):0<=a/\a<(fE s a).2.1/\(fE s a).2.1<=s.size:=by
 unfold fE at h ⊢;split at h
 ·rename_i q;exact absurd h q
 rename_i h1;split at h
 ·cases h
 rename_i h2;split at h
 ·rename_i q;exact absurd h q
 rename_i h3;split at h
 ·cases h
 rename_i h4;split at h
 ·rename_i q;exact absurd h q
 rename_i h5;split at h
 ·rename_i q;exact absurd h q
 rename_i h6;rw[if_neg h1,if_neg h2,if_neg h3,if_neg h4,if_neg h5,if_neg h6];have o1:=bO (Decidable.not_not.1 h1);have o3:=bO (Decidable.not_not.1 h3);have o5:=CR (Decidable.not_not.1 h5);have o6:=CR (Decidable.not_not.1 h6);show 0<=a/\a<(dC s _).2.1/\(dC s _).2.1<=(s.size:Int);omega
theorem qLD {r:Fr} {m:Int} (h:r.2.2=true):gU r m=(0,r):=by
 obtain⟨t,a,b⟩:=r;simp only at h;subst h;rw[gU,if_pos (.inl rfl)]
theorem zQ {r:Fr} {c:Col} (h:r.2.2=true):mI r c=(oD,r):=by
 obtain⟨t,a,b⟩:=r;simp only at h;subst h;rw[mI,if_pos (.inl rfl)]
theorem qH7 {r:Fr} {c:Col} {rows:Int} (h:r.2.2=true):(rN r c rows).2.2.2=true:=by
 show(r.2.2||_)=true;rw[h,Bool.true_or]
theorem PQ {m:Int}:∀(n:Nat) (l:List Int) (d:Int) (r:Fr),r.2.2=true->(nmF m n l d r).2.2.2.2=true
 |0,_,_,_,h=>h
 |n+1,l,d,r,h=>by rw[nmF,qLD h];exact PQ n _ _ _ h
theorem QQ {rows:Int}:∀(cs:List Col) (z:List Zone) (r:Fr),r.2.2=true->(znF rows cs z r).2.2.2=true
 | [],_,_,h=>h
 |c::cs,z,r,h=>by rw[znF];exact QQ cs _ _ (qH7 h)
theorem PT (r:Fr) (m:Int):0<=(gU r m).1:=by
 unfold gU;split
 ·exact Int.le_refl _
 ·exact(aX _ _).1
theorem qLB {m:Int}:∀(n:Nat) (l:List Int) (d:Int) (r:Fr),(nmF m n l d r).2.1<=d
 |0,_,_,_=>Int.le_refl _
 |n+1,l,d,r=>by
  rw[nmF];have h1:=qLB (m:=m) n (l++ [(gU r m).1]) (d-(gU r m).1) (gU r m).2;have h2:=PT r m;omega
theorem PS {f:ByteArray} (hk:4<=f.size) {a m:Int} (ha:0<=a):gU (f.extract 4 f.size,a,false) m=if(aA f (a+4)).2.2≠0\/(aA f (a+4)).1>m then(0,(f.extract 4 f.size,a,true))else((aA f (a+4)).1,(f.extract 4 f.size,(aA f (a+4)).2.1-4,false)):=by
 unfold gU;simp only;rw[xF hk ha];show(if(false=true\/(shK 4 (aA f (a+4))).2.2≠0\/(shK 4 (aA f (a+4))).1>m)then _ else _)=_;by_cases h:(aA f (a+4)).2.2≠0\/(aA f (a+4)).1>m
 ·rw[if_pos h,if_pos (.inr h)]
 ·rw[if_neg h,if_neg (by rintro(q|q);cases q;exact h q)]
  show((aA f (a+4)).1,_,(shK 4 (aA f (a+4))).2.1,false)=_;rw[sZ (Decidable.not_not.1 fun q=>h (.inl q))]
theorem UP (l:List Int) (v:Int):eO (l++ [v])=eO l+v:=by
 induction l with
 |nil=>simp [eO]
 |cons x l ih=>simp only[eO,List.cons_append,List.foldr_cons]at ih ⊢;omega
theorem TE (l:List Int):(offs l).length=l.length+1:=by simp [offs]
theorem PX {l:List Int} {i:Nat} (h:i<=l.length):(offs l)[i]! =4+eO (l.take i):=by
 rw[getElem!_pos _ i (by rw[TE];omega)];simp [offs]
theorem tV (l:List Int):(offs l)[(offs l).length-1]! =4+eO l:=by
 rw[TE,show l.length+1-1=l.length by omega,PX (Nat.le_refl _),List.take_length]
theorem TD (l:List Int) (v:Int):offs (l++ [v])=offs l++ [(offs l)[(offs l).length-1]! +v]:=by
 rw[tV];unfold offs;rw[List.length_append,List.length_singleton,List.range_succ,List.map_append];congr 1
 ·apply List.map_congr_left
  intro i hi;rw[List.mem_range]at hi;rw[List.take_append_of_le_length (by omega)]
 ·simp only[List.map_cons,List.map_nil]
  rw[List.take_of_length_le (by simp),UP];congr 1;omega
theorem qRZ {f:ByteArray} (hk:4<=f.size) {b m:Int} (hb:b<=m):∀(n:Nat) (l:List Int) (d a:Int),0<=a ->
  ((rfN f b n (offs l) (a+4)).2.2=true->∃l' a',nmF m n l d (f.extract 4 f.size,a,false)=(l',d+eO l-eO l',(f.extract 4 f.size,a'-4,false))/\rfN f b n (offs l) (a+4)=(offs l',a',true)/\4<=a'/\l'.length=l.length+n/\(∀i,l.length<=i->i<l'.length->0<=l'[i]!)/\l'=l++l'.drop l.length) /\
  ((rfN f b n (offs l) (a+4)).2.2=false->(nmF m n l d (f.extract 4 f.size,a,false)).2.2.2.2=true\/(nmF m n l d (f.extract 4 f.size,a,false)).2.1<d-b)
 |0,l,d,a,ha=>⟨fun _=>⟨l,a+4,by rw[nmF];refine Prod.ext rfl (Prod.ext ?_ (Prod.ext rfl (Prod.ext ?_ rfl)))<;>(simp only;omega),rfl,by omega,by omega,fun i h1 h2=>by omega,by simp⟩,fun h=>by cases h⟩
 |n+1,l,d,a,ha=>by
  rw[rfN,nmF,PS hk ha];by_cases h1:(aA f (a+4)).2.2≠0\/(aA f (a+4)).1>b
  ·rw[if_pos h1]
   refine⟨(fun h=>by cases h),fun _=>?_⟩;by_cases h2:(aA f (a+4)).2.2≠0\/(aA f (a+4)).1>m
   ·rw[if_pos h2];exact .inl (PQ n _ _ _ rfl)
   ·rw[if_neg h2]
    refine .inr ?_;have:=qLB (m:=m) n (l++ [(aA f (a+4)).1]) (d-(aA f (a+4)).1) (f.extract 4 f.size,(aA f (a+4)).2.1-4,false);simp only;omega
  ·have h0:(aA f (a+4)).2.2=0:=Decidable.not_not.1 fun q=>h1 (.inl q)
   have o:=bO h0;have g:=aX f (a+4);rw[if_neg h1,if_neg (by omega)];simp only;rw[<-TD];have ih:=qRZ hk hb n (l++ [(aA f (a+4)).1]) (d-(aA f (a+4)).1) ((aA f (a+4)).2.1-4) (by omega);rw[show(aA f (a+4)).2.1-4+4=(aA f (a+4)).2.1 by omega]at ih;refine⟨fun h=>?_,fun h=>?_⟩
   ·obtain⟨l',a',e1,e2,e3,e4,e5,e6⟩:=ih.1 h
    rw[List.length_append,List.length_singleton]at e4 e5 e6;have hd:l'[l.length]? =some (aA f (a+4)).1:=by
     rw[e6,List.getElem?_append_left (by simp)];simp
    have hlt:l.length<l'.length:=by omega
    refine⟨l',a',by rw[e1,UP];refine Prod.ext rfl (Prod.ext ?_ rfl);simp only;omega,e2,e3,by omega,fun i h1 h2=>?_,?_⟩
    ·by_cases q:i=l.length
     ·subst q;rw[getElem!_pos l' _ h2,<-Option.some.inj (hd.symm.trans (List.getElem?_eq_getElem h2))];exact g.1
     ·exact e5 i (by omega) h2
    ·have h3:l'.drop l.length=(aA f (a+4)).1::l'.drop (l.length+1):=by
       rw[List.drop_eq_getElem_cons hlt];congr 1
       exact Option.some.inj ((List.getElem?_eq_getElem hlt).symm.trans hd)
     rw[h3];rw[List.append_assoc]at e6;exact e6
   ·rcases ih.2 h with q|q
    ·exact .inl q
    ·exact .inr (by omega)
theorem qN1 {f:ByteArray} (hk:4<=f.size) {a rows:Int} {c:Col} (ha:0<=a) :
  ((fE f (a+4)).2.2=0/\mF c (fE f (a+4)).1=true/\(fE f (a+4)).1.1=rows->rN (f.extract 4 f.size,a,false) c rows=((fE f (a+4)).1,(f.extract 4 f.size,(fE f (a+4)).2.1-4,false))) /\
  (((fE f (a+4)).2.2≠0\/mF c (fE f (a+4)).1=false\/(fE f (a+4)).1.1≠rows)->(rN (f.extract 4 f.size,a,false) c rows).2.2.2=true):=by
 unfold rN;simp only;rw[qPJ hk ha];refine⟨fun⟨h1,h2,h3⟩=>?_,fun h=>?_⟩
 ·rw[show((4:Nat):Int)=4 from rfl,sZ h1]
  simp only[h2,h3,Bool.false_or,Bool.not_true,ne_eq,not_true_eq_false,decide_false,Bool.or_self]
 ·show(false||(decide ((fE f (a+4)).2.2≠0)||(!mF c (fE f (a+4)).1||decide ((fE f (a+4)).1.1≠rows))))=true
  rcases h with h|h|h
  ·rw[decide_eq_true h];rfl
  ·rw[h];simp
  ·rw[decide_eq_true h];simp
theorem qS5 {f:ByteArray} (hk:4<=f.size) {rows:Int}:∀(cs:List Col) (z:List Zone) (a:Int),0<=a ->
  ((rzN f rows cs z (a+4)).2.2=true->znF rows cs z (f.extract 4 f.size,a,false)=((rzN f rows cs z (a+4)).1,(f.extract 4 f.size,(rzN f rows cs z (a+4)).2.1-4,false))/\4<=(rzN f rows cs z (a+4)).2.1) /\
  ((rzN f rows cs z (a+4)).2.2=false->(znF rows cs z (f.extract 4 f.size,a,false)).2.2.2=true)
 | [],z,a,ha=>⟨fun _=>⟨by rw[znF,rzN];refine Prod.ext rfl (Prod.ext rfl (Prod.ext ?_ rfl));simp only;omega,by rw[rzN];simp only;omega⟩,fun h=>by cases h⟩
 |c::cs,z,a,ha=>by
  rw[rzN,znF];obtain⟨z1,z2⟩:=qN1 hk (rows:=rows) (c:=c) ha;by_cases h1:(fE f (a+4)).2.2≠0\/mF c (fE f (a+4)).1=false\/(fE f (a+4)).1.1≠rows
  ·rw[if_pos h1]
   exact⟨(fun h=>by cases h),fun _=>QQ cs _ _ (z2 h1)⟩
  ·have h0:(fE f (a+4)).2.2=0:=Decidable.not_not.1 fun q=>h1 (.inl q)
   have o:=qPI h0;rw[if_neg h1,z1 ⟨h0,by cases q:mF c (fE f (a+4)).1;exact absurd (.inr (.inl q)) h1;rfl,Decidable.not_not.1 fun q=>h1 (.inr (.inr q))⟩];simp only;have ih:=qS5 hk (rows:=rows) cs (z++ [(fE f (a+4)).1]) ((fE f (a+4)).2.1-4) (by omega);rw[show(fE f (a+4)).2.1-4+4=(fE f (a+4)).2.1 by omega]at ih;exact ih
theorem qB1 {f:ByteArray} (hk:4<=f.size) {s:Schema} {a:Int} (ha:0<=a) :
  ((jF s f (a+4)).2.2=true->mI (f.extract 4 f.size,a,false) (CF s)=((jF s f (a+4)).1,(f.extract 4 f.size,(jF s f (a+4)).2.1-4,false))/\4<=(jF s f (a+4)).2.1/\(jF s f (a+4)).2.1<=f.size) /\
  ((jF s f (a+4)).2.2=false->(mI (f.extract 4 f.size,a,false) (CF s)).2.2.2=true):=by
 unfold mI jF;simp only;rw[PE hk ha];by_cases h1:(dC f (a+4)).2.2≠0\/bQ (CF s) (dC f (a+4)).1≠0
 ·rw[if_pos h1]
  refine⟨(fun h=>by cases h),fun _=>?_⟩;rw[if_pos (.inr h1)]
 ·have h0:(dC f (a+4)).2.2=0:=Decidable.not_not.1 fun q=>h1 (.inl q)
  have o:=CR h0;rw[if_neg h1,show((4:Nat):Int)=4 from rfl,sZ h0];simp only;rw[if_neg (show ¬(false=true\/(0:Int)≠0\/bQ (CF s) (dC f (a+4)).1≠0)from fun q=>by
   rcases q with q|q|q
   ·cases q
   ·exact q rfl
   ·exact h1 (.inr q)),PS hk (show 0<=(dC f (a+4)).2.1-4 by omega),show(dC f (a+4)).2.1-4+4=(dC f (a+4)).2.1 by omega]
  by_cases h2:(aA f (dC f (a+4)).2.1).2.2≠0\/(aA f (dC f (a+4)).2.1).1>1099511627776
  ·rw[if_pos h2,if_pos h2]
   exact⟨(fun h=>by cases h),fun _=>rfl⟩
  ·have h3:(aA f (dC f (a+4)).2.1).2.2=0:=Decidable.not_not.1 fun q=>h2 (.inl q)
   have o3:=bO h3;rw[if_neg h2,if_neg h2];refine⟨fun _=>?_,fun h=>by cases h⟩;refine⟨rfl,?_,?_⟩<;>(simp only;omega)
theorem MF {s:Schema} {f:ByteArray} {st m:Int} (hk:4<=f.size) (hm:st<=m) :
  ((rJ s f st).2=false->xQ s (f.extract 4 f.size) m (st-4)=(gW,[],2)) /\
  ((rJ s f st).2=true->∃l,xQ s (f.extract 4 f.size) m (st-4)=((rJ s f st).1.1,l,0)/\(rJ s f st).1.2.1=offs l/\l.length=s.1.length+1/\(∀i,i<l.length->0<=l[i]!)/\4+eO l=st/\1<=(rJ s f st).1.1.1/\(rJ s f st).1.1.1<=1024):=by
 have bad3:∀ {n rows:Int} {B:List Int×Int×Fr} {Z:List Zone} {lo hi:Rank×Fr},hi.2.2.2=true->pP3 s n rows B Z lo hi=(gW,[],2):=fun h=>by rw[pP3,if_pos (.inl h)]
 have bad2:∀ {n rows:Int} {B:List Int×Int×Fr} {Z:List Zone×Fr},Z.2.2.2=true->pP2 s n rows B Z=(gW,[],2):=fun h=>by
  rw[pP2,zQ h];exact bad3 (by rw[zQ h];exact h)
 have bad1:∀ {n rows:Int} {B:List Int×Int×Fr},B.2.2.2.2=true->pP1 s n rows B=(gW,[],2):=fun h=>by rw[pP1];exact bad2 (QQ _ _ _ h)
 have neg2:∀ {n rows:Int} {B:List Int×Int×Fr} {Z:List Zone×Fr},B.2.1≠0->pP2 s n rows B Z=(gW,[],2):=fun h=>by rw[pP2,pP3,if_pos (.inr (.inr (.inr (.inl h))))]
 have row2:∀ {n rows:Int} {B:List Int×Int×Fr} {Z:List Zone×Fr},rows<1->pP2 s n rows B Z=(gW,[],2):=fun h=>by rw[pP2,pP3,if_pos (.inr (.inr (.inl h)))]
 unfold xQ rJ;rw[PS hk (Int.le_refl 0),show(0:Int)+4=4 by omega,OU hk];by_cases h1:(aA f 4).2.2≠0\/(aA f 4).1>1024
 ·rw[if_pos h1,if_pos (by omega),pP0]
  exact⟨fun _=>bad1 (PQ _ _ _ _ rfl),fun h=>by cases h⟩
 rw[if_neg h1,pP0];by_cases h2:(aA f 4).1<1
 ·rw[if_pos (.inr (.inl h2)),pP1]
  exact⟨fun _=>row2 h2,fun h=>by cases h⟩
 have h0:(aA f 4).2.2=0:=Decidable.not_not.1 fun q=>h1 (.inl q)
 have o:=bO h0;rw[if_neg (by omega),rP1];simp only;obtain⟨n1,n2⟩:=qRZ hk hm (s.1.length+1) [] (st-4) ((aA f 4).2.1-4) (by omega);rw[show offs []= [4]from rfl,show(aA f 4).2.1-4+4=(aA f 4).2.1 by omega]at n1 n2;cases hB:(rfN f st (s.1.length+1) [4] (aA f 4).2.1).2.2 with
 |false=>
  rw[if_pos (.inl rfl)];refine⟨fun _=>?_,fun h=>by cases h⟩;rcases n2 hB with q|q
  ·exact bad1 q
  ·rw[pP1];exact neg2 (by omega)
 |true=>
  obtain⟨l,a,e1,e2,e3,e4,e5,_⟩:=n1 hB;rw[e1,e2];simp only[List.length_nil,Nat.zero_add]at e4 e5;have hs0:eO ([]:List Int)=0:=rfl;rw[hs0];simp only;by_cases h3:(offs l)[(offs l).length-1]! ≠st
  ·rw[if_pos (.inr h3),pP1]
   rw[tV]at h3;exact⟨fun _=>neg2 (by simp only;omega),fun h=>by cases h⟩
  rw[if_neg (by rintro(q|q);cases q;exact h3 q),pP1,rP2];rw[tV]at h3;simp only;obtain⟨z1,z2⟩:=qS5 hk (rows:=(aA f 4).1) s.1 [] (a-4) (by omega);rw[show a-4+4=a by omega]at z1 z2;cases hZ:(rzN f (aA f 4).1 s.1 [] a).2.2 with
  |false=>
   rw[if_pos rfl];exact⟨fun _=>bad2 (z2 hZ),fun h=>by cases h⟩
  |true=>
   obtain⟨w1,w2⟩:=z1 hZ;rw[if_neg (by intro q;cases q),w1,rP3,pP2];generalize rzN f (aA f 4).1 s.1 [] a=Z at *;simp only;obtain⟨k1,k2⟩:=qB1 hk (s:=s) (a:=Z.2.1-4) (by omega);rw[show Z.2.1-4+4=Z.2.1 by omega]at k1 k2;cases hL:(jF s f Z.2.1).2.2 with
   |false=>
    rw[if_pos rfl];exact⟨fun _=>bad3 (by rw[zQ (k2 hL)];exact k2 hL),fun h=>by cases h⟩
   |true=>
    obtain⟨v1,v2,v3⟩:=k1 hL;rw[if_neg (by intro q;cases q),v1,rP4];generalize jF s f Z.2.1=lo at *;simp only;obtain⟨m1,m2⟩:=qB1 hk (s:=s) (a:=lo.2.1-4) (by omega);rw[show lo.2.1-4+4=lo.2.1 by omega]at m1 m2;cases hH:(jF s f lo.2.1).2.2 with
    |false=>
     rw[if_pos (.inl rfl)];exact⟨fun _=>bad3 (m2 hH),fun h=>by cases h⟩
    |true=>
     obtain⟨x1,x2,x3⟩:=m1 hH;rw[x1,pP3];generalize jF s f lo.2.1=hi at *;simp only;by_cases h9:hi.2.1≠f.size\/lH (CF s).2.1 lo.1 hi.1>0
     ·rw[if_pos (.inr h9)]
      refine⟨fun _=>?_,fun h=>by cases h⟩;rw[if_pos];rcases h9 with q|q
      ·exact .inr (.inl (by omega))
      ·exact .inr (.inr (.inr (.inr q)))
     ·rw[if_neg (by rintro(q|q);cases q;exact h9 q)]
      refine⟨(fun h=>by cases h),fun _=>⟨l,?_,rfl,by omega,fun i hi=>e5 i (Nat.zero_le _) hi,by omega,by simp only;omega,by simp only;omega⟩⟩;rw[if_neg];rintro(q|q|q|q|q)
      ·cases q
      ·omega
      ·exact h2 q
      ·exact q (by omega)
      ·exact h9 (.inr q)
theorem qLH {l:List Int} {n:Nat} (h0:∀i,i<l.length->0<=l[i]!) (hs:4+eO l<=n):qBR n l:=by
 have nn:∀(a:List Int),(∀x,x∈a->0<=x)->0<=eO a:=fun a ha=>by
  induction a with
  |nil=>exact Int.le_refl _
  |cons x a ih=>
   have h1:=ha x (List.mem_cons_self ..);have h2:=ih fun y hy=>ha y (List.mem_cons_of_mem _ hy)
   simp only[eO,List.foldr_cons]at h2 ⊢;omega
 have app:∀a b:List Int,eO (a++b)=eO a+eO b:=fun a b=>by
  induction a with
  |nil=>simp [eO]
  |cons x a ih=>simp only[eO,List.cons_append,List.foldr_cons]at ih ⊢;omega
 have mem:∀x,x∈l->0<=x:=fun x hx=>by
  obtain⟨i,hi,rfl⟩:=List.mem_iff_getElem.1 hx;have:=h0 i hi;rwa [getElem!_pos l i hi]at this
 intro k hk hl;have h1:=uE (l:=l) (k:=k) ⟨hk,hl⟩;have h2:=app (l.take (k+1).toNat) (l.drop (k+1).toNat);rw[List.take_append_drop]at h2;have h3:=nn (l.drop (k+1).toNat) fun x hx=>mem x (List.mem_of_mem_drop hx)
 have h4:=nn (l.take k.toNat) fun x hx=>mem x (List.mem_of_mem_take hx)
 have h5:=h0 k.toNat (by omega);omega
theorem YB {s:Schema} {file f:ByteArray} {k:Int} (h0:aT s=0) (hf:4<=f.size) (hk:8<=k) (hk2:k<=file.size-12):(TG s file f k).2=(nK s file f k).2.2/\(TG s file f k).1.1=(nK s file f k).1 /\
  ((nK s file f k).2.2=0->(TG s file f k).1.2.1=offs (nK s file f k).2.1/\(nK s file f k).2.1.length=s.1.length+1/\qBR file.size (nK s file f k).2.1/\1<=(nK s file f k).1.1/\(nK s file f k).1.1<=1024/\aT s=0):=by
 unfold TG nK;by_cases h1:iM f≠cQ file (file.size-12)
 ·rw[if_pos h1,if_pos h1];exact⟨rfl,rfl,fun q=>by cases q⟩
 by_cases h2:cQ f 0≠iM (kV s)
 ·rw[if_neg h1,if_neg h1,if_pos h2,if_pos h2];exact⟨rfl,rfl,fun q=>by cases q⟩
 rw[if_neg h1,if_neg h1,if_neg h2,if_neg h2];obtain⟨p1,p2⟩:=MF (s:=s) (f:=f) (st:=file.size-8-k) (m:=file.size) hf (by omega);rw[show(file.size:Int)-8-k-4=file.size-12-k by omega]at p1 p2;cases hr:(rJ s f (file.size-8-k)).2 with
 |false=>rw[if_pos rfl,p1 hr];exact⟨rfl,rfl,fun q=>by cases q⟩
 |true=>
  rw[if_neg (by intro q;cases q)];obtain⟨l,e1,e2,e3,e4,e5,e6,e7⟩:=p2 hr;rw[e1];exact⟨rfl,rfl,fun _=>⟨e2,e3,qLH (l:=l) e4 (by omega),e6,e7,h0⟩⟩
theorem nA (s:Schema) (file:ByteArray):(qBW s file).2=(bD s file).2.2/\(qBW s file).1.1=(bD s file).1 /\
  ((bD s file).2.2=0->(qBW s file).1.2.1=offs (bD s file).2.1/\(bD s file).2.1.length=s.1.length+1/\qBR file.size (bD s file).2.1/\1<=(bD s file).1.1/\(bD s file).1.1<=1024/\aT s=0):=by
 unfold qBW bD;by_cases h0:aT s≠0
 ·rw[if_pos h0,if_pos h0];exact⟨rfl,rfl,fun q=>absurd q h0⟩
 rw[if_neg h0,if_neg h0];by_cases h1:file.size<12
 ·rw[if_pos h1,if_pos h1];exact⟨rfl,rfl,fun q=>by cases q⟩
 rw[if_neg h1,if_neg h1];generalize hk:cQ file ((file.size:Int)-8)=k;unfold qR0 LG;by_cases h2:k>file.size-12
 ·rw[if_pos h2,if_pos h2];exact⟨rfl,rfl,fun q=>by cases q⟩
 rw[if_neg h2,if_neg h2];by_cases h3:CG file jC=false\/CH file jC=false\/k<8
 ·rw[if_pos h3,if_pos h3];exact⟨rfl,rfl,fun q=>by cases q⟩
 rw[if_neg h3,if_neg h3];have h8:¬k<8:=fun q=>h3 (.inr (.inr q))
 exact YB (Decidable.not_not.1 h0) (by rw[ByteArray.size_extract];omega) (by omega) (by omega)
theorem YY (r:Fr) (m:Int):(gU r m).2.1=r.1:=by unfold gU;split<;>rfl
theorem qRO (r:Fr) (c:Col) (n:Int):(rN r c n).2.1=r.1:=rfl
theorem QC (r:Fr) (c:Col):(mI r c).2.1=r.1:=by
 unfold mI;split
 ·rfl
 ·simp only[YY]
theorem qBP (r:Fr) {m:Int} (h:0<=m):(gU r m).1<=m:=by
 unfold gU;split
 ·exact h
 ·rename_i q;simp only;omega
theorem qLC {m k n d:Int} {l:List Int} {r:Fr} (h:0<=k/\k<n):nmF m (n-k).toNat l d r=nmF m (n-(k+1)).toNat (l++ [(gU r m).1]) (d-(gU r m).1) (gU r m).2:=by
 rw[show(n-k).toNat=(n-(k+1)).toNat+1 by omega];rfl
theorem qN0 {rows k:Int} {l:List Col} {z:List Zone} {r:Fr} (h:0<=k/\k<l.length):znF rows (l.drop k.toNat) z r=znF rows (l.drop (k+1).toNat) (z++ [(rN r l[k.toNat]! rows).1]) (rN r l[k.toNat]! rows).2:=by
 rw[bH l k h];rfl
theorem NE (s:ByteArray) (i:Int):0<=cQ s i/\cQ s i<4294967296:=WH _
theorem nE {f:ByteArray} {a e:Nat} {i:Int} (hi:0<=i/\a+i+4<=e) (he:e<=f.size):cQ (f.extract a e) i=cQ f (a+i):=by
 unfold cQ;rw[kN (by omega) he,kN (by omega) he,kN (by omega) he,kN (by omega) he];rw[show a+i.toNat=((a:Int)+i).toNat by omega,show a+(i+1).toNat=((a:Int)+i+1).toNat by omega,show a+(i+2).toNat=((a:Int)+i+2).toNat by omega,show a+(i+3).toNat=((a:Int)+i+3).toNat by omega]
abbrev fzK (file:ByteArray):Int:=cQ (file.extract ((file.size:Int)-8).toNat file.size) 0
abbrev fzF (file:ByteArray):ByteArray:=file.extract ((file.size:Int)-8-fzK file).toNat ((file.size:Int)-8).toNat
abbrev fzT (file:ByteArray):ByteArray:=(fzF file).extract (4:Int).toNat (fzK file-4).toNat
abbrev fzG (file:ByteArray):ByteArray:=file.extract ((file.size:Int)-8-fzK file).toNat (file.size-12)
theorem qPG {file:ByteArray} (h:12<=file.size):fzK file=cQ file (file.size-8):=by
 unfold fzK;rw[nE (by omega) (Nat.le_refl _)];congr 1;omega
theorem YG {file:ByteArray} (h:12<=file.size) (h2:¬fzK file>file.size-12) (h8:¬fzK file<8) :
  ((fzF file).size:Int)=fzK file/\((fzG file).size:Int)=fzK file-4/\(fzF file).extract 0 (fzK file-4).toNat=fzG file/\cQ ((fzF file).extract (fzK file-4).toNat (fzF file).size) 0=cQ file (file.size-12)/\cQ (fzF file) 0=cQ (fzG file) 0/\fzT file=(fzG file).extract 4 (fzG file).size:=by
 have s1:((fzF file).size:Int)=fzK file:=by unfold fzF;rw[ByteArray.size_extract];omega
 have s2:((fzG file).size:Int)=fzK file-4:=by unfold fzG;rw[ByteArray.size_extract];omega
 refine⟨s1,s2,?_,?_,?_,?_⟩
 ·unfold fzF fzG;rw[ByteArray.extract_extract];congr 1<;>omega
 ·rw[nE (by omega) (Nat.le_refl _)]
  unfold fzF;rw[nE (by omega) (by omega)];congr 1;omega
 ·unfold fzF fzG
  rw[nE (by omega) (by omega),nE (by omega) (by omega)]
 ·unfold fzT fzG fzF
  rw[ByteArray.extract_extract,ByteArray.extract_extract];have:(file.extract ((file.size:Int)-8-fzK file).toNat (file.size-12)).size=(fzK file-4).toNat:=by rw[ByteArray.size_extract];omega
  rw[this];congr 1<;>omega
theorem YJ {s:Schema} (h:aT s=0):(idS s).1=iM (kV s):=by rw[idS,if_neg (fun q=>q h)]
theorem qTR {s:Schema} {file:ByteArray} (h:aT s≠0):bD s file=(gW,[],aT s):=by rw[bD,if_pos h]
theorem qTS {s:Schema} {file:ByteArray} (h:aT s=0) (h1:file.size<12):bD s file=(gW,[],10):=by rw[bD,if_neg (fun q=>q h),if_pos h1]
theorem qTT {s:Schema} {file:ByteArray} (h:aT s=0) (h1:¬file.size<12) (h2:fzK file>file.size-12):bD s file=(gW,[],10):=by
 rw[bD,if_neg (fun q=>q h),if_neg h1,LG,if_pos (by rw[<-qPG (by omega)];exact h2)]
theorem XZ {s:Schema} {file:ByteArray} (h:aT s=0) (h1:¬file.size<12) (h2:¬fzK file>file.size-12) (h3:CG file jC=false\/CH file jC=false\/fzK file<8):bD s file=(gW,[],2):=by
 rw[bD,if_neg (fun q=>q h),if_neg h1,LG,if_neg (by rw[<-qPG (by omega)];exact h2),if_pos (by rw[<-qPG (by omega)];exact h3)]
theorem YA {s:Schema} {file:ByteArray} (h:aT s=0) (h1:¬file.size<12) (h2:¬fzK file>file.size-12) (h3:¬(CG file jC=false\/CH file jC=false\/fzK file<8)):bD s file=nK s file (fzG file) (fzK file):=by
 rw[bD,if_neg (fun q=>q h),if_neg h1,<-qPG (by omega),LG,if_neg h2,if_neg h3]
theorem qTU {s:Schema} {file:ByteArray} (h:aT s=0) (h1:¬file.size<12) (h2:¬fzK file>file.size-12) (h3:CG file jC=true) (h4:CH file jC=true) (h5:¬fzK file<8)
  (h6:zT cR ((fzF file).extract 0 (fzK file-4).toNat)≠cQ ((fzF file).extract (fzK file-4).toNat (fzF file).size) 0):bD s file=(gW,[],9):=by
 obtain⟨_,_,a3,a4,a5,a6⟩:=YG (by omega) h2 h5;rw[YA h h1 h2 (by rw[h3,h4];rintro(q|q|q);cases q;cases q;exact h5 q),nK,if_pos];rw[a3,a4]at h6;exact h6
theorem qTV {s:Schema} {file:ByteArray} (h:aT s=0) (h1:¬file.size<12) (h2:¬fzK file>file.size-12) (h3:CG file jC=true) (h4:CH file jC=true) (h5:¬fzK file<8)
  (h6:zT cR ((fzF file).extract 0 (fzK file-4).toNat)=cQ ((fzF file).extract (fzK file-4).toNat (fzF file).size) 0) (h7:cQ (fzF file) 0≠(idS s).1):bD s file=(gW,[],1):=by
 obtain⟨_,_,a3,a4,a5,a6⟩:=YG (by omega) h2 h5;rw[a3,a4]at h6;rw[YA h h1 h2 (by rw[h3,h4];rintro(q|q|q);cases q;cases q;exact h5 q),nK,if_neg (fun q=>q h6),if_pos];rw[a5,YJ h]at h7;exact h7
theorem qTW {s:Schema} {file:ByteArray} (h:aT s=0) (h1:¬file.size<12) (h2:¬fzK file>file.size-12) (h3:CG file jC=true) (h4:CH file jC=true) (h5:¬fzK file<8)
  (h6:zT cR ((fzF file).extract 0 (fzK file-4).toNat)=cQ ((fzF file).extract (fzK file-4).toNat (fzF file).size) 0) (h7:cQ (fzF file) 0=(idS s).1):bD s file=xQ s (fzT file) file.size (file.size-12-fzK file):=by
 obtain⟨_,_,a3,a4,a5,a6⟩:=YG (by omega) h2 h5;rw[a3,a4]at h6;rw[a5,YJ h]at h7;rw[YA h h1 h2 (by rw[h3,h4];rintro(q|q|q);cases q;cases q;exact h5 q),nK,if_neg (fun q=>q h6),if_neg (fun q=>q h7),a6]
theorem qT1 (file:ByteArray):(fzT file).size<=file.size:=by
 unfold fzT fzF;simp only[ByteArray.size_extract];omega
abbrev fzL (s:Schema) (q:Fr):Rank×Fr:=mI q s.1[s.2.toNat]!
abbrev fzH (s:Schema) (q:Fr):Rank×Fr:=mI (mI q s.1[s.2.toNat]!).2 s.1[s.2.toNat]!
theorem qKH {s:Schema} {file:ByteArray} {P:List Int} {d D:Int} {r q:Fr} {Z:List Zone} (hf:bD s file=xQ s (fzT file) file.size D) (e1:nmF file.size (s.1.length+1) [] D (gU (fzT file,0,false) 1024).2=(P,d,r))
  (e2:znF (gU (fzT file,0,false) 1024).1 s.1 [] r=(Z,q)) (hq:q.1=fzT file) :
  bD s file=if(fzH s q).2.2.2=true\/(fzH s q).2.2.1<((fzH s q).2.1.size:Int)\/(gU (fzT file,0,false) 1024).1<1\/d≠0\/lH s.1[s.2.toNat]!.2.1 (fzL s q).1 (fzH s q).1>0 then(gW,[],2)else(((gU (fzT file,0,false) 1024).1,Z,(fzL s q).1,(fzH s q).1),P,0):=by
 have hz:((fzH s q).2.1.size:Int)=(fzT file).size:=by rw[fzH,QC,QC,hq]
 rw[hz,hf,xQ,pP0,pP1,e1];simp only;rw[e2,pP2,pP3]
theorem qVT {b:Bool} (h:b=false):¬b=true:=by rw[h];exact Bool.noConfusion
theorem SP {s:Schema} (h:aT s=0):s.1.length<=12/\0<=s.2/\s.2<s.1.length:=aY h
abbrev JE:Ct:=.fn [bW,.str] (some (fun(s:Schema) (file:ByteArray)=>(file.size<=288230376151711744))) (fun(s:Schema) (file:ByteArray)=>.tup [UR,.list (.int .i64),.int .i64] ((bD s file).1,(bD s file).2.1,(bD s file).2.2,()))
theorem qO8:aF Tryz.prog 48 JE:=by
 refine aF.fn VY mixed [] [] rfl rfl ?_;rintro⟨(s:Schema),(file:ByteArray),_⟩ hpre;replace hpre:=hpre _ rfl;dsimp only[cu]at hpre;have hs:=hpre;refine⟨[(0,46,LA.mk [.sl 107 (.int .i64),.sl 16 (.int .i64),.lst 15 (.int .i64) 3,.ob 2 tFr 134] (fun y=>Tag 80/\cu [.int .i64,.int .i64,.list (.int .i64),tFr] (fun(k:Int) (d:Int) (P:List Int) (r:Fr)=>(0<=k/\k<=((s.1.length:Int)+1))/\((nmF file.size (s.1.length+1) [] ((file.size:Int)-12-(cQ (file.extract ((file.size:Int)-8).toNat file.size) 0)) (gU (fzT file,0,false) 1024).2)=nmF file.size (((s.1.length:Int)+1)-k).toNat P d r)/\(r.1=fzT file)/\(((file.size:Int)-12-(cQ (file.extract ((file.size:Int)-8).toNat file.size) 0))-288230376151711744*k<=d/\d<=((file.size:Int)-12-(cQ (file.extract ((file.size:Int)-8).toNat file.size) 0)))/\((P.length:Int)=k)) y) (cu [.int .i64,.int .i64,.list (.int .i64),tFr] (fun(k:Int) (d:Int) (P:List Int) (r:Fr)=>((((s.1.length:Int)+1):Int)-k).toNat)) (cu [.int .i64,.int .i64,.list (.int .i64),tFr] (fun(k:Int) (d:Int) (P:List Int) (r:Fr)=>([]:List (Nat×Nat×LA))))),(0,58,LA.mk [.sl 124 (.int .i64),.row 3 [.same,.own kK 67,.same,.same,.same,.same,.same,.same,.same,.same],.ob 2 tFr 134] (fun y=>Tag 81/\cu [.int .i64,.list kK,tFr] (fun(j:Int) (Z:List Zone) (q:Fr)=>(0<=j/\j<=s.1.length)/\(znF (gU (fzT file,0,false) 1024).1 s.1 [] (nmF file.size (s.1.length+1) [] ((file.size:Int)-12-(cQ (file.extract ((file.size:Int)-8).toNat file.size) 0)) (gU (fzT file,0,false) 1024).2).2.2=znF (gU (fzT file,0,false) 1024).1 (s.1.drop j.toNat) Z q)/\(q.1=fzT file)/\((Z.length:Int)=j)) y) (cu [.int .i64,.list kK,tFr] (fun(j:Int) (Z:List Zone) (q:Fr)=>((s.1.length:Int)-j).toNat)) (cu [.int .i64,.list kK,tFr] (fun(j:Int) (Z:List Zone) (q:Fr)=>([]:List (Nat×Nat×LA)))))],?_⟩;repeat' (first
  |(
 with_reducible refine Side.mk ⟨(⟨⟩:Tag 80),?_⟩
 dsimp only[cu,aC,aB,gts,eE,eN]
 refine⟨?_,?_,?_,?_,?_⟩
 ·omega
 ·first
  |rfl
  |rw[hn,qLC (by omega)]
 ·first
  |exact YY _ _
  |((rw[YY];exact hr))
 ·first
  |omega
  |(
  have g1:=PT r file.size
  have g2:=qBP r (m:=file.size) (by omega)
  omega)
 ·first
  |rfl
  |(
  simp only[List.length_append,List.length_cons,List.length_nil]
  omega))
  |(
 with_reducible refine Side.mk ⟨(⟨⟩:Tag 81),?_⟩
 dsimp only[cu,aC,aB,gts,eE,eN]
 refine⟨?_,?_,?_,?_⟩
 ·omega
 ·first
  |(
  rw[hn,show(((s.1.length:Int)+1)-k).toNat=0 by omega]
  rfl)
  |rw[hz,qN0 (by omega)]
 ·first
  |exact hr
  |((rw[qRO];exact hq))
 ·first
  |rfl
  |(
  simp only[List.length_append,List.length_cons,List.length_nil]
  omega))
  |(
 with_reducible apply Side.mk
 (try dsimp only[cu,aC,aB,gts,loK,hiK,eE,eN])
 first
 |done
 |omega
 |exact Eq.refl _
 |simp only[List.length_append,List.length_cons,List.length_nil];omega
 |(
  have hkey:=SP (s:=s) (by with_reducible assumption);first
  |omega
  |(
   have hK:=NE (file.extract ((file.size:Int)-8).toNat file.size) 0;have u4:(⟨#[77,80,84,49]⟩:ByteArray).size=4:=rfl;have g1:=PT r file.size;have g2:=qBP r (m:=file.size) (by omega);omega))
 |(
  have hK:=NE (file.extract ((file.size:Int)-8).toNat file.size) 0;have u4:(⟨#[77,80,84,49]⟩:ByteArray).size=4:=rfl;first
  |omega
  |(
   simp only[ByteArray.size_extract];omega))
 |(
  have hkey:=SP (s:=s) (by with_reducible assumption);simp only[List.length_append,List.length_cons,List.length_nil];omega)
 |(
  have hT:=qT1 file;first
  |(
   rw[hr];omega)
  |(
   rw[hq];omega)
  |(
   rw[QC,hq];omega)))
  |(conv=>whnf
    first
     |with_reducible first|done|exact trivial|refine NilBr.mk (fun h=>?_) ?_|apply aI|apply aH|refine aJ (by kernel_rfl) ?_|apply aK|apply bB|apply bA|apply aQ
     |((with_reducible first|apply aS|apply aR|apply aZ)<;>intro h<;>(try dsimp only[cu,eE,eN]at h)<;>(try(exfalso;omega)))
     |(
 intro yy (hy:Tag 80/\_)
 obtain⟨(k:Int),(d:Int),(P:List Int),(r:Fr),_⟩:=yy
 replace hy:=hy.2
 dsimp only[cu,aC,aB,gts,eE,eN]at hy
 obtain⟨hk,hn,hr,hd,hp⟩:=hy)
     |(
 intro yy (hy:Tag 81/\_)
 obtain⟨(j:Int),(Z:List Zone),(q:Fr),_⟩:=yy
 replace hy:=hy.2
 dsimp only[cu,aC,aB,gts,eE,eN]at hy
 obtain⟨hj,hz,hq,hzl⟩:=hy)))
 all_goals(
 with_reducible apply Leaf.mk
 (try dsimp only[cu,aC,aB,gts,eE,eN]at *)
 first
 |rw[qTR (by with_reducible assumption)]
 |rw[qTS (by with_reducible assumption) (by omega)]
 |rw[qTT (by with_reducible assumption) (by omega) (by with_reducible assumption)]
 |rw[XZ (by with_reducible assumption) (by omega) (by with_reducible assumption) (.inl (YW (by with_reducible assumption)))]
 |rw[XZ (by with_reducible assumption) (by omega) (by with_reducible assumption) (.inr (.inl (YW (by with_reducible assumption))))]
 |rw[XZ (by with_reducible assumption) (by omega) (by with_reducible assumption) (.inr (.inr (by with_reducible assumption)))]
 |rw[qTU (by with_reducible assumption) (by omega) (by with_reducible assumption) (kH (by with_reducible assumption)) (kH (by with_reducible assumption)) (by with_reducible assumption) (by with_reducible assumption)]
 |rw[qTV (by with_reducible assumption) (by omega) (by with_reducible assumption) (kH (by with_reducible assumption)) (kH (by with_reducible assumption)) (by with_reducible assumption) (by with_reducible assumption) (by with_reducible assumption)]
 |(
  have e1:(nmF file.size (s.1.length+1) [] ((file.size:Int)-12-(cQ (file.extract ((file.size:Int)-8).toNat file.size) 0)) (gU (fzT file,0,false) 1024).2)=(P,d,r):=by
   rw[hn,show(((s.1.length:Int)+1)-k).toNat=0 by omega];rfl
  have e2:znF (gU (fzT file,0,false) 1024).1 s.1 [] r=(Z,q):=by
   have h2:=hz;rw[e1,List.drop_eq_nil_of_le (by omega)]at h2;exact h2
  have ff:=qKH (qTW (by with_reducible assumption) (by omega) (by with_reducible assumption) (kH (by with_reducible assumption)) (kH (by with_reducible assumption)) (by with_reducible assumption) (by with_reducible assumption) (by with_reducible assumption)) e1 e2 hq;first
  |rw[ff,if_pos (.inl (by with_reducible assumption))]
  |rw[ff,if_pos (.inr (.inl (by with_reducible assumption)))]
  |rw[ff,if_pos (.inr (.inr (.inl (by with_reducible assumption))))]
  |rw[ff,if_pos (.inr (.inr (.inr (.inl (by with_reducible assumption)))))]
  |rw[ff,if_pos (.inr (.inr (.inr (.inr (by with_reducible assumption)))))]
  |(
   rw[ff,if_neg (fun x=>by
    rcases x with x|x|x|x|x
    ·exact absurd x (qVT (by with_reducible assumption))
    ·exact absurd x (by with_reducible assumption)
    ·exact absurd x (by with_reducible assumption)
    ·exact x (by with_reducible assumption)
    ·exact absurd x (by with_reducible assumption))])))
abbrev qSX:Tbl:=(48,JE)::qSW
theorem VZ:aD Tryz.prog qSX:=aD.cons qO8 VY
def zH (f:Nat->Int):Nat->Nat->Int
 |0,_=>0
 |m+1,k=>if f k≠0 then f k else zH f m (k+1)
theorem qGD {f:Nat->Int} {m i:Int} (h:0<=i/\i<m) (h0:f i.toNat=0):zH f (m-i).toNat i.toNat=zH f (m-(i+1)).toNat (i+1).toNat:=by
 rw[show(m-i).toNat=(m-(i+1)).toNat+1 by omega,zH,if_neg (fun q=>q h0),show(i+1).toNat=i.toNat+1 by omega]
theorem qGE {f:Nat->Int} {m i:Int} (h:0<=i/\i<m) (h0:f i.toNat≠0):zH f (m-i).toNat i.toNat=f i.toNat:=by
 rw[show(m-i).toNat=(m-(i+1)).toNat+1 by omega,zH,if_pos h0]
def oT (V:Nat->List Val) (nc i k j:Nat):Rec:=(if nc<i\/(i=nc/\j<k)then(V nc)[j]!.2.1 else 0,(List.range (min nc (if j<k then i+1 else i))).map fun c=>(V c)[j]!)
theorem qG3 (V:Nat->List Val) (nc i k j:Nat):(oT V nc i k j).2.length<=nc:=by
 simp only[oT,List.length_map,List.length_range];omega
def sS (V:Nat->List Val) (nc n i k:Nat):List Rec:=(List.range n).map (oT V nc i k)
theorem iS (V:Nat->List Val) (nc n i k:Nat):(sS V nc n i k).length=n:=by simp [sS]
theorem nT {V:Nat->List Val} {nc n i k j:Nat} (h:j<n):(sS V nc n i k)[j]? =some (oT V nc i k j):=by simp [sS,h]
theorem qUS (V:Nat->List Val) (nc n:Nat):sS V nc n 0 0=List.replicate n ((0,[]):Rec):=by
 apply List.ext_getElem?;intro j;by_cases h:j<n
 ·rw[nT h]
  simp [h,oT]
 ·rw[List.getElem?_eq_none (by rw[iS];omega),List.getElem?_eq_none (by simp;omega)]
theorem qQR {V:Nat->List Val} {nc n i k:Nat} {a:Rec} (hk:k<n) (h:(sS V nc n i k)[k]? =some a):a=oT V nc i k k:=by
 rw[nT hk]at h;exact(Option.some.inj h).symm
theorem UB {V:Nat->List Val} {nc n i k:Nat} {a:Rec} (hk:k<n) (ha:a=oT V nc i (k+1) k):(sS V nc n i k).set k a=sS V nc n i (k+1):=by
 apply List.ext_getElem?;intro j;by_cases h:j<n
 ·rw[nT h]
  by_cases h2:k=j
  ·subst h2;rw[List.getElem?_set_self (by rw[iS];exact h),ha]
  ·rw[List.getElem?_set_ne h2,nT h]
   have e:(j<k)=(j<k+1):=by apply propext;omega
   simp only[oT,e]
 ·rw[List.getElem?_eq_none (by rw[List.length_set,iS];omega),List.getElem?_eq_none (by rw[iS];omega)]
theorem qL4 {V:Nat->List Val} {nc n i k:Nat} (hk:k<n) (hi:i<nc):(sS V nc n i k).set k ((oT V nc i k k).1,(oT V nc i k k).2++ [(V i)[k]!])=sS V nc n i (k+1):=by
 refine UB hk ?_;simp only[oT,Nat.lt_irrefl,if_false,Nat.lt_succ_self,if_true];rw[if_neg (by omega),if_neg (by omega),Nat.min_eq_right (by omega),Nat.min_eq_right (by omega),List.range_succ,List.map_append];rfl
theorem qL5 {V:Nat->List Val} {nc n i k:Nat} (hk:k<n) (hi:i=nc):(sS V nc n i k).set k ((V i)[k]!.2.1,(oT V nc i k k).2)=sS V nc n i (k+1):=by
 subst hi;refine UB hk (Prod.ext ?_ ?_)
 ·show _=if i<i\/(i=i/\k<k+1)then _ else _
  rw[if_pos (.inr ⟨rfl,Nat.lt_succ_self k⟩)]
 ·show List.map _ (List.range (min i (if k<k then i+1 else i)))=List.map _ (List.range (min i (if k<k+1 then i+1 else i)))
  rw[if_neg (Nat.lt_irrefl k),if_pos (Nat.lt_succ_self k),Nat.min_eq_right (by omega),Nat.min_eq_left (by omega)]
theorem qG5 (V:Nat->List Val) (nc n i:Nat):sS V nc n i n=sS V nc n (i+1) 0:=by
 apply List.ext_getElem?;intro j;by_cases h:j<n
 ·rw[nT h,nT h]
  simp only[oT,if_pos h,Nat.not_lt_zero,if_false,h,and_true,and_false,or_false];simp only[show(nc<i\/i=nc)↔nc<i+1 by omega];rfl
 ·rw[List.getElem?_eq_none (by rw[iS];omega),List.getElem?_eq_none (by rw[iS];omega)]
abbrev chV (s:Schema) (file:ByteArray) (F:Info×List Int×Int) (i:Int):List Val×Int:=kG s file F.1.1 F.2.1 i
abbrev chL (s:Schema) (file:ByteArray) (F:Info×List Int×Int) (i:Nat):List Val:=(chV s file F i).1
abbrev chE (s:Schema) (file:ByteArray) (F:Info×List Int×Int) (i:Nat):Int:=(chV s file F i).2
def qL3 (s:Schema) (file:ByteArray) (F:Info×List Int×Int):List Rec:=sS (chL s file F) s.1.length F.1.1.toNat (s.1.length+1) 0
def GT (s:Schema) (I:Info) (l:List Rec):List Rec×Int:=if cX s l=false then([],2)else if(BF s l).2.2.1≠I.2.2.1\/(BF s l).2.2.2≠I.2.2.2\/(BF s l).2.1≠I.2.1 then([],2)else(l,0)
def xY (s:Schema) (file:ByteArray) (F:Info×List Int×Int):List Rec×Int:=
 if F.2.2≠0 then([],F.2.2)else if zH (chE s file F) (s.1.length+1) 0≠0 then([],zH (chE s file F) (s.1.length+1) 0)else GT s F.1 (qL3 s file F)
def rK (s:Schema) (file:ByteArray):List Rec×Int:=xY s file (bD s file)
theorem qLW {a b:Rank} (h:(!(decide (a.1.1=b.1.1)&&(decide (a.1.2.1=b.1.2.1)&&(decide (a.1.2.2=b.1.2.2)&&decide (a.2=b.2)))))=false):a=b:=by
 simp only[Bool.not_eq_eq_eq_not,Bool.not_false,Bool.and_eq_true,decide_eq_true_eq]at h;exact Prod.ext (Prod.ext h.1 (Prod.ext h.2.1 h.2.2.1)) h.2.2.2
theorem qLV {a b:Rank} (h:(!(decide (a.1.1=b.1.1)&&(decide (a.1.2.1=b.1.2.1)&&(decide (a.1.2.2=b.1.2.2)&&decide (a.2=b.2)))))=true):a≠b:=by
 rintro rfl;simp at h
theorem PA {b:Bool} (h:b=true):¬b=false:=by rw[h];exact Bool.noConfusion
theorem qH9 (s:Schema) (l:List Rec):(BF s l).2.1.length=s.1.length:=by simp [BF,eG]
theorem zW {s:Schema} {file:ByteArray} {n i:Int} {l:List Int} (h:(kG s file n l i).2=0):((kG s file n l i).1.length:Int)=n:=by
 unfold kG at h ⊢;split at h
 ·rename_i q;exact absurd h q
 ·split at h
  ·cases h
  ·rename_i h1 h2
   rw[if_neg h1,if_neg h2];exact Decidable.not_not.1 h2
abbrev EC:Ct:=.fn [bW,.str] (some (fun(s:Schema) (file:ByteArray)=>(file.size<=288230376151711744))) (fun(s:Schema) (file:ByteArray)=>.tup [UR,.int .i64] ((bD s file).1,(bD s file).2.2,()))
theorem qK6:aF Tryz.prog 19 EC:=by
 refine aF.fn VZ mixed [] [] rfl rfl ?_;rintro⟨(s:Schema),(file:ByteArray),_⟩ hpre;replace hpre:=hpre _ rfl;dsimp only[cu]at hpre;have hs:=hpre;refine⟨[],?_⟩;repeat' (first
  |(
 with_reducible apply Side.mk
 (try dsimp only[cu,aC,aB,gts,loK,hiK,eE,eN])
 omega)
  |(conv=>whnf
    first
     |with_reducible first|done|exact trivial|refine NilBr.mk (fun h=>?_) ?_|apply aI|apply aH|refine aJ (by kernel_rfl) ?_|apply aK|apply bB|apply bA|apply aQ
     |((with_reducible first|apply aS|apply aR|apply aZ)<;>intro h<;>(try dsimp only[cu,eE,eN]at h)<;>(try(exfalso;omega)))))
 all_goals(
 with_reducible apply Leaf.mk
 (try dsimp only[cu,aC,aB,gts,eE,eN]at *)
 done)
abbrev qM3:Tbl:=(19,EC)::qSX
theorem nZ:aD Tryz.prog qM3:=aD.cons qK6 VZ
abbrev ED:Ct:=.fn [bW,.str] (some (fun(s:Schema) (file:ByteArray)=>(file.size<=288230376151711744))) (fun(s:Schema) (file:ByteArray)=>.tup [.list fO,.int .i64] ((rK s file).1,(rK s file).2,()))
theorem qK7:aF Tryz.prog 18 ED:=by
 refine aF.fnG (T:=qM3) [(0,4,2)] [] rfl rfl ?_;rintro⟨(s:Schema),(file:ByteArray),_⟩ hpre;replace hpre:=hpre _ rfl;dsimp only[cu]at hpre;have hs:=hpre;refine⟨[],?_⟩;repeat' (first
  |(
 with_reducible refine Side.mk ⟨(⟨⟩:Tag 82),?_⟩
 dsimp only[cu,aC,aB,gts,eE,eN]
 refine⟨?_,?_,?_⟩
 ·omega
 ·first
  |exact(qUS _ _ _).symm
  |(
  have hil:(((kG s file (bD s file).1.1 (bD s file).2.1 i).1.length:Nat):Int)=(bD s file).1.1:=zW (by with_reducible assumption)
  rw[hS2,show k.toNat=(bD s file).1.1.toNat by omega,qG5,show(i+1).toNat=i.toNat+1 by omega])
 ·first
  |rfl
  |(
  have hfo:=(nA s file).2.2 (by with_reducible assumption)
  obtain⟨_,fo1,fo2,fo3,fo4,fo5⟩:=hfo
  have fo6:=aY fo5
  rw[he]
  exact qGD (m:=((s.1.length:Int)+1)) ⟨by omega,by omega⟩ (by
   show(kG s file (bD s file).1.1 (bD s file).2.1 ((i.toNat:Nat):Int)).2=0;rw[hic];with_reducible assumption)))
  |(
 with_reducible refine Side.mk ⟨(⟨⟩:Tag 83),?_⟩
 dsimp only[cu,aC,aB,gts,eE,eN]
 refine⟨?_,?_⟩
 ·omega
 ·first
  |exact hR
  |(
  have hfo:=(nA s file).2.2 (by with_reducible assumption)
  obtain⟨_,fo1,fo2,fo3,fo4,fo5⟩:=hfo
  have fo6:=aY fo5
  first
  |(
   have hi2:i.toNat<s.1.length:=by omega
   rw[hS2,show(k+1).toNat=k.toNat+1 by omega,hra,<-hvi];exact qL4 hkr hi2)
  |(
   have hi2:i.toNat=s.1.length:=by omega
   rw[hS2,show(k+1).toNat=k.toNat+1 by omega,hra,<-hvi];exact qL5 hkr hi2)))
  |(
 with_reducible apply Side.mk
 (try dsimp only[cu,aC,aB,gts,loK,hiK,eE,eN])
 first
 |done
 |omega
 |simp only[List.length_append,List.length_cons,List.length_nil];omega
 |(
  have hfo:=(nA s file).2.2 (by with_reducible assumption);obtain⟨_,fo1,fo2,fo3,fo4,fo5⟩:=hfo;have fo6:=aY fo5;first
  |omega
  |(exact⟨by omega,hs,fo2⟩))
 |exact⟨rfl,rfl,rfl,rfl⟩
 |exact⟨⟨rfl,rfl,rfl,rfl⟩,rfl,rfl,by simp,by decide,rfl⟩
 |(
  have hfo:=(nA s file).2.2 (by with_reducible assumption);obtain⟨_,fo1,fo2,fo3,fo4,fo5⟩:=hfo;have fo6:=aY fo5;have hrl:R.length=(bD s file).1.1.toNat:=by rw[hR,iS]
  first
  |omega
  |(
   rw[qH9];omega))
 |(
  have hil:(((kG s file (bD s file).1.1 (bD s file).2.1 i).1.length:Nat):Int)=(bD s file).1.1:=zW (by with_reducible assumption);omega)
 |(
  have hr2:rows.length=(bD s file).1.1.toNat:=hrows;omega)
 |(
  have hfo:=(nA s file).2.2 (by with_reducible assumption);obtain⟨_,fo1,fo2,fo3,fo4,fo5⟩:=hfo;have fo6:=aY fo5;have hr2:=qG3 (chL s file (bD s file)) s.1.length i.toNat k.toNat k.toNat;rw[<-hra]at hr2;simp only[List.length_cons,List.length_nil];omega)
 |(kernel_rfl))
  |(conv=>whnf
    first
     |refine GoV.x 6 nZ mixed (iF nZ mixed [(0,4,2)] [] 4 _ _) (by exact rfl) ?_
     |refine GoV.nest (tO:=fO) (t:=bP) 6 9 1 (fun a=>a.2) 56 43 (((0,[]):Rec)) qLE rfl rfl (by exact rfl) ?_
     |refine GoV.sq ?_
     |intro(nb:Nat) (no:Nat) (hS:Heap) (ιS:Iota) (wS:World)
     |intro(rows:List (List V)) (hrows:rows.length=_)
     |intro(nv:Value)
     |refine GoN.x 12 nZ mixed (iF nZ mixed [(0,4,2)] [] 4 _ _) (by exact rfl) (by exact rfl) ?_
     |refine GoN.block ?_
     |refine GoN.sq ?_
     |refine GoN.loop 6 [.sl 31 (.int .i64)] (fun y (R:List (Ty.den fO))=>Tag 82/\cu [.int .i64] (fun(i:Int)=>fun(R:List (Ty.den fO))=>(0<=i/\i<=(bD s file).2.1.length)/\(R=sS (chL s file (bD s file)) s.1.length (bD s file).1.1.toNat i.toNat 0)/\(zH (chE s file (bD s file)) (s.1.length+1) 0=zH (chE s file (bD s file)) (((s.1.length:Int)+1)-i).toNat i.toNat)) y R) (fun y _=>cu [.int .i64] (fun(i:Int)=>((bD s file).2.1.length-i).toNat) y) (by exact rfl) (by exact rfl) ?_ ?_
     |refine GoN.loopF (qLE _ _ _) nZ mixed (iF nZ mixed [(0,4,2)] [] 4 _ _) 12 [.sl 49 (.int .i64)] (fun y (R:List (Ty.den fO))=>Tag 83/\cu [.int .i64] (fun(k:Int)=>fun(R:List (Ty.den fO))=>(0<=k/\k<=(kG s file (bD s file).1.1 (bD s file).2.1 i).1.length)/\(R=sS (chL s file (bD s file)) s.1.length (bD s file).1.1.toNat i.toNat k.toNat)) y R) (fun y _=>cu [.int .i64] (fun(k:Int)=>((kG s file (bD s file).1.1 (bD s file).2.1 i).1.length-k).toNat) y) (cu [.int .i64] (fun(k:Int)=>k.toNat)) (by exact rfl) (by exact rfl) ?_ ?_ ?_
     |(
 intro yy (R:List (Ty.den fO)) (hy:Tag 82/\_)
 obtain⟨(i:Int),_⟩:=yy
 replace hy:=hy.2
 dsimp only[cu,aC,aB,gts,eE,eN]at hy
 obtain⟨hi,hR,he⟩:=hy
 have hic:((i.toNat:Nat):Int)=i:=by omega
 have hvi:chL s file (bD s file) i.toNat=(kG s file (bD s file).1.1 (bD s file).2.1 i).1:=by
  show(kG s file (bD s file).1.1 (bD s file).2.1 ((i.toNat:Nat):Int)).1=_;rw[hic])
     |(
 intro yy (R:List (Ty.den fO)) (ra:Ty.den fO) (hy:Tag 83/\_) hra
 obtain⟨(k:Int),_⟩:=yy
 replace hy:=hy.2
 dsimp only[cu,aC,aB,gts,eE,eN]at hy hra
 obtain⟨hk,hS2⟩:=hy
 have hkr:=aM hra
 rw[hS2]at hra hkr
 rw[iS]at hkr
 replace hra:=qQR hkr hra)
     |(
 intro yy (R:List (Ty.den fO)) (hy:Tag 83/\_) hle
 obtain⟨(k:Int),_⟩:=yy
 replace hy:=hy.2
 dsimp only[cu,aC,aB,gts,eE,eN]at hy hle
 obtain⟨hk,hS2⟩:=hy
 rw[hS2,iS]at hle
 have hil:(((kG s file (bD s file).1.1 (bD s file).2.1 i).1.length:Nat):Int)=(bD s file).1.1:=zW (by with_reducible assumption))
     |with_reducible first|done|exact trivial|refine NilBr.mk (fun h=>?_) ?_|apply aI|apply aH|refine aJ (by kernel_rfl) ?_|apply aK|apply bB|apply bA|apply aQ
     |((with_reducible first|apply aS|apply aR|apply aZ)<;>intro h<;>(try dsimp only[cu,eE,eN]at h)<;>(try(exfalso;omega)))))
 all_goals(
 with_reducible apply Leaf.mk
 (try dsimp only[cu,aC,aB,gts,eE,eN]at *)
 first
 |rw[rK,xY,if_pos (by with_reducible assumption)]
 |(
  have hfo:=(nA s file).2.2 (by with_reducible assumption);obtain⟨_,fo1,fo2,fo3,fo4,fo5⟩:=hfo;have fo6:=aY fo5;first
  |(
   have hfe:=qGE (f:=chE s file (bD s file)) (m:=((s.1.length:Int)+1)) (i:=i) ⟨by omega,by omega⟩ (by
    show(kG s file (bD s file).1.1 (bD s file).2.1 ((i.toNat:Nat):Int)).2≠0;rw[hic];with_reducible assumption)
   have hfe2:chE s file (bD s file) i.toNat=(kG s file (bD s file).1.1 (bD s file).2.1 i).2:=by
    show(kG s file (bD s file).1.1 (bD s file).2.1 ((i.toNat:Nat):Int)).2=_;rw[hic]
   rw[hfe2,<-he]at hfe;rw[rK,xY,if_neg (fun q=>q (by with_reducible assumption)),if_pos (by rw[hfe];with_reducible assumption),hfe])
  |(
   have hie:i=((s.1.length:Int)+1):=by omega
   have hz:zH (chE s file (bD s file)) (s.1.length+1) 0=0:=by
    rw[he,show(((s.1.length:Int)+1)-i).toNat=0 by omega];rfl
   have hRL:qL3 s file (bD s file)=R:=by rw[hR,qL3,show i.toNat=s.1.length+1 by omega]
   first
   |rw[rK,xY,if_neg (fun q=>q (by with_reducible assumption)),if_neg (fun q=>q hz),hRL,GT,if_pos (YW (by with_reducible assumption))]
   |rw[rK,xY,if_neg (fun q=>q (by with_reducible assumption)),if_neg (fun q=>q hz),hRL,GT,if_neg (PA (kH (b:=cX s R) (by with_reducible assumption))),if_pos (.inl (qLV (by with_reducible assumption)))]
   |rw[rK,xY,if_neg (fun q=>q (by with_reducible assumption)),if_neg (fun q=>q hz),hRL,GT,if_neg (PA (kH (b:=cX s R) (by with_reducible assumption))),if_pos (.inr (.inl (qLV (by with_reducible assumption))))]
   |rw[rK,xY,if_neg (fun q=>q (by with_reducible assumption)),if_neg (fun q=>q hz),hRL,GT,if_neg (PA (kH (b:=cX s R) (by with_reducible assumption))),if_pos (.inr (.inr (by with_reducible assumption)))]
   |(
    rw[rK,xY,if_neg (fun q=>q (by with_reducible assumption)),if_neg (fun q=>q hz),hRL,GT,if_neg (PA (kH (b:=cX s R) (by with_reducible assumption))),if_neg (fun x=>by
     rcases x with x|x|x
     ·exact x (qLW (by with_reducible assumption))
     ·exact x (qLW (by with_reducible assumption))
     ·exact x (by with_reducible assumption))]))))
abbrev qSY:Tbl:=(18,ED)::qM3
theorem WA:aD Tryz.prog qSY:=aD.cons qK7 nZ
theorem qPL (s:Schema):(idS s).2=aT s:=by
 unfold idS;split
 ·rfl
 ·rename_i h;exact(Decidable.not_not.1 h).symm
theorem qGX {b:ByteArray} (h:1<=b.size):gK (cB b)=0/\gX (cB b)=b:=by
 have hb:gX (cB b)=b:=qHG b;refine⟨?_,hb⟩;rw[gK,if_neg (by rw[lB];omega),hb,if_neg (fun q=>q rfl)]
theorem DP {t k:Int} {l:List Val} (hv:∀v,v∈l->okV v) (hl:l.length<=4096):(eK t k l).size<=4398046585379/\5<=(eK t k l).size:=by
 have:=BE (t:=t) (k:=k) hv hl;rw[eK,lB];omega
theorem GF {x:Int} (h:x=0):¬x≠0:=fun q=>q h
theorem FD {c:Col} {v:Val} (h:bQ c v=0) (hn:v.1=true):v=NV:=by
 obtain⟨x,y,z⟩:=v;have e1:x=true:=hn;subst e1;unfold bQ at h;split at h
 ·cases h
 ·split at h
  ·cases h
  ·rename_i h2
   split at h
   ·cases h
   ·rename_i h3
    have e2:z=EMP:=Decidable.not_not.1 fun q=>h2 ⟨.inl rfl,q⟩
    have e3:y=0:=Decidable.not_not.1 fun q=>h3 ⟨.inl rfl,q⟩
    subst e2 e3;rfl
def jD (c:Col):List Val->Int
 | []=>0
 |v::r=>if bQ c v≠0 then bQ c v else jD c r
def bst (t:Int) (l:List Val):Nat->Int->ByteArray->ByteArray
 |0,_,b=>b
 |n+1,k,b=>bst t l n (k+1) (if cT t k=true then(if b=⟨#[]⟩\/(eK t k l).size<b.size then eK t k l else b)else b)
def iN (c:Col) (l:List Val):ByteArray×Int:=
 if bS c.2.1=false then(⟨#[]⟩,1)else if l.length>4096 then(⟨#[]⟩,7)else if jD c l≠0 then(⟨#[]⟩,jD c l)else(bst c.2.1 l 4 1 ⟨#[]⟩,0)
theorem BD {c:Col} {l:List Val} {k:Int} (h:0<=k/\k<l.length):jD c (l.drop k.toNat)=if bQ c l[k.toNat]! ≠0 then bQ c l[k.toNat]! else jD c (l.drop (k+1).toNat):=by
 rw[bH l k h];rfl
theorem tL {c:Col}:∀ {l:List Val},jD c l=0->∀v,v∈l->bQ c v=0
 | [],_,v,hv=>by cases hv
 |x::r,h,v,hv=>by
  rw[jD]at h;split at h
  ·rename_i q;exact absurd h q
  ·rename_i q
   rcases List.mem_cons.1 hv with p|p
   ·rw[p];exact Decidable.not_not.1 q
   ·exact tL h v p
theorem eP {c:Col} {v:Val} (h:bQ c v=0) (hi:inI v.2.1):okV v:=by
 refine⟨?_,hi⟩;by_cases hn:v.1=true
 ·rw[FD h hn];exact Nat.zero_le _
 ·have hn:v.1=false:=by simpa using hn
  unfold bQ at h;split at h
  ·cases h
  ·split at h
   ·cases h
   ·rename_i h2
    split at h
    ·cases h
    ·split at h
     ·cases h
     ·split at h
      ·cases h
      ·rename_i h5
       by_cases ht:c.2.1=3
       ·have hp:gI c.2.1 v=true:=by
          refine Decidable.not_not.1 fun q=>h5 ⟨hn,by simpa using q⟩
        unfold gI at hp;rw[if_neg (by omega),if_neg (by omega),if_neg (by omega),if_pos ht]at hp;have:=of_decide_eq_true hp;omega
       ·have e:v.2.2=EMP:=Decidable.not_not.1 fun q=>h2 ⟨.inr ht,q⟩
        rw[e];exact Nat.zero_le _
theorem wC {t:Int} {l:List Val} {k:Int} {b:ByteArray} (h:1<=k/\k<5):bst t l (5-k).toNat k b=bst t l (5-(k+1)).toNat (k+1) (if cT t k=true then(if b=⟨#[]⟩\/(eK t k l).size<b.size then eK t k l else b)else b):=by
 rw[show(5-k).toNat=(5-(k+1)).toNat+1 by omega];rfl
theorem qJA {t:Int} {l:List Val}:∀(n:Nat) (k:Int) (b:ByteArray),(b=⟨#[]⟩\/∃j,cT t j=true/\b=eK t j l)->(bst t l n k b=⟨#[]⟩\/∃j,cT t j=true/\bst t l n k b=eK t j l)
 |0,k,b,h=>h
 |n+1,k,b,h=>by
  refine qJA n (k+1) _ ?_;split
  ·rename_i hu
   split
   ·exact .inr ⟨k,hu,rfl⟩
   ·exact h
  ·exact h
abbrev JB:Ct:=.fn [qC,.list bP] (some (fun(c:Col) (l:List Val)=>(l.length<=9223372036854775807)/\(∀v,v∈l->inI v.2.1))) (fun(c:Col) (l:List Val)=>.tup [.str,.int .i64] ((iN c l).1,(iN c l).2,()))
theorem qOZ:aF Tryz.prog 39 JB:=by
 refine aF.fn WA mixed [] [] rfl rfl ?_;rintro⟨(c:Col),(l:List Val),_⟩ hpre;replace hpre:=hpre _ rfl;dsimp only[cu]at hpre;obtain⟨hl,hin⟩:=hpre;refine⟨[(0,12,LA.mk [.sl 21 (.int .i64)] (fun y=>Tag 84/\cu [.int .i64] (fun(i:Int)=>(0<=i/\i<=l.length)/\(jD c l=jD c (l.drop i.toNat))) y) (cu [.int .i64] (fun(i:Int)=>((l.length:Int)-i).toNat)) (cu [.int .i64] (fun(i:Int)=>([]:List (Nat×Nat×LA))))),(0,28,LA.mk [.sl 10 (.int .i64),.sl 9 .str] (fun y=>Tag 85/\cu [.int .i64,.str] (fun(k:Int) (b:ByteArray)=>(1<=k/\k<=5)/\(bst c.2.1 l 4 1 ⟨#[]⟩=bst c.2.1 l (5-k).toNat k b)/\(b.size<=4398046585379)) y) (cu [.int .i64,.str] (fun(k:Int) (b:ByteArray)=>(5-k).toNat)) (cu [.int .i64,.str] (fun(k:Int) (b:ByteArray)=>([]:List (Nat×Nat×LA)))))],?_⟩;repeat' (first
  |(
 with_reducible refine Side.mk ⟨(⟨⟩:Tag 84),?_⟩
 dsimp only[cu,aC,aB,gts,eE,eN]
 refine⟨?_,?_⟩
 ·omega
 ·first
  |rfl
  |(
  have hv:¬bQ c l[i.toNat]! ≠0:=GF (by with_reducible assumption)
  rw[hc,BD (by omega),if_neg hv]))
  |(
 with_reducible refine Side.mk ⟨(⟨⟩:Tag 85),?_⟩
 dsimp only[cu,aC,aB,gts,eE,eN]
 refine⟨?_,?_,?_⟩
 ·omega
 ·first
  |rfl
  |(
  have hu:¬cT c.2.1 k=true:=by rw[show cT c.2.1 k=false by first|with_reducible assumption|exact qLG (by with_reducible assumption)];exact Bool.noConfusion
  rw[hb,wC (by omega),if_neg hu])
  |(
  have hu:cT c.2.1 k=true:=by first|with_reducible assumption|exact vN (by with_reducible assumption)
  first
  |(
   have he:b=⟨#[]⟩:=by with_reducible assumption
   rw[hb,wC (by omega),if_pos hu,if_pos (.inl he)])
  |(
   have he:(eK c.2.1 k l).size<b.size:=by omega
   rw[hb,wC (by omega),if_pos hu,if_pos (.inr he)])
  |(
   have he:¬(b=⟨#[]⟩\/(eK c.2.1 k l).size<b.size):=fun q=>by
    rcases q with q|q
    ·contradiction
    ·omega
   rw[hb,wC (by omega),if_pos hu,if_neg he]))
 ·first
  |exact Nat.zero_le _
  |(
  have hch:jD c l=0:=by rw[hc,List.drop_eq_nil_of_le (by omega)];rfl
  have hok:∀v,v∈l->okV v:=fun v hv=>eP (tL hch v hv) (hin v hv)
  have hbs:=DP (t:=c.2.1) (k:=k) hok (by omega)
  omega))
  |(
 with_reducible apply Side.mk
 (try dsimp only[cu,aC,aB,gts,loK,hiK,eE,eN])
 first
 |omega
 |(
  have hch:jD c l=0:=by rw[hc,List.drop_eq_nil_of_le (by omega)];rfl
  have hok:∀v,v∈l->okV v:=fun v hv=>eP (tL hch v hv) (hin v hv)
  exact⟨by omega,hok⟩))
  |(conv=>whnf
    first
     |with_reducible first|done|exact trivial|refine NilBr.mk (fun h=>?_) ?_|apply aI|apply aH|refine aJ (by kernel_rfl) ?_|apply aK|apply bB|apply bA|apply aQ
     |((with_reducible first|apply aS|apply aR|apply aZ)<;>intro h<;>(try dsimp only[cu,eE,eN]at h)<;>(try(exfalso;omega)))
     |(
 intro yy (hy:Tag 84/\_)
 obtain⟨(i:Int),_⟩:=yy
 replace hy:=hy.2
 dsimp only[cu,aC,aB,gts,eE,eN]at hy
 obtain⟨hi,hc⟩:=hy)
     |(
 intro yy (hy:Tag 85/\_)
 obtain⟨(k:Int),(b:ByteArray),_⟩:=yy
 replace hy:=hy.2
 dsimp only[cu,aC,aB,gts,eE,eN]at hy
 obtain⟨hk,hb,hz⟩:=hy)))
 all_goals(
 with_reducible apply Leaf.mk
 (try dsimp only[cu,aC,aB,gts,eE,eN]at *)
 first
 |(
  have hkn:bS c.2.1=false:=by first|with_reducible assumption|exact qLG (by with_reducible assumption)
  rw[iN,if_pos hkn])
 |(
  have hkn:¬bS c.2.1=false:=by rw[show bS c.2.1=true by first|with_reducible assumption|exact vN (by with_reducible assumption)];exact Bool.noConfusion
  first
  |(
   have h4:l.length>4096:=by omega
   rw[iN,if_neg hkn,if_pos h4])
  |(
   have h4:¬l.length>4096:=by omega
   have hv:bQ c l[i.toNat]! ≠0:=by with_reducible assumption
   have hce:jD c l=bQ c l[i.toNat]!:=by rw[hc,BD (by omega),if_pos hv]
   rw[iN,if_neg hkn,if_neg h4,hce,if_pos hv])
  |(
   have hch:jD c l=0:=by rw[hc,List.drop_eq_nil_of_le (by omega)];rfl
   have hok:∀v,v∈l->okV v:=fun v hv=>eP (tL hch v hv) (hin v hv)
   have h4:¬l.length>4096:=by omega
   rw[iN,if_neg hkn,if_neg h4,if_neg (GF hch),hb,show(5-k).toNat=0 by omega];first|done|rfl)))
abbrev qSZ:Tbl:=(39,JB)::qSY
theorem WB:aD Tryz.prog qSZ:=aD.cons qOZ WA
end Go.Proofs.YtcjiefknhfhmkaaGreatDoor
