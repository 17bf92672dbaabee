import Derived.Test.YtcjiefknhfhmkaaGreatDoorM04
namespace Go.Abs
set_option maxRecDepth 100000
set_option maxHeartbeats 4000000
set_option linter.unusedVariables false
set_option linter.unusedSimpArgs false
theorem qEV {ops:Array Oper} {o:Oper} {s:Y} {run skip:Y->Prop} (h:gd ops o s run skip):(awanted ops s.sl o=some true/\run s)\/(awanted ops s.sl o=some false/\skip s):=by
 obtain⟨sl,hp,tch,an⟩:=s;simp only[gd]at h;split at h
 ·rename_i hg
  exact .inl ⟨by simp [awanted,hg],h⟩
 ·rename_i j want hg
  split at h
  ·rename_i d hd
   split at h
   ·rename_i b hb
    have hset:∀c,b=c->sl.set d (.v (.bool c))=sl:=by
     intro c hc;subst hc;have hlt:=aP hb;rw[List.getElem?_eq_getElem hlt]at hb;injection hb with hb;rw[<-hb,List.set_getElem_self]
    have hw:awanted ops sl o=some (b == want):=by simp only[awanted,hg,hd,Option.bind_some,hb]
    obtain⟨h1,h2⟩:=(gV b _ _).1 h;cases b with
    |true=>
     have h1:=h1 rfl;rw[cX,hset true rfl]at h1;cases want with
     |true=>exact .inl ⟨hw,h1⟩
     |false=>exact .inr ⟨hw,h1⟩
    |false=>
     have h2:=h2 rfl;rw[cX,hset false rfl]at h2;cases want with
     |true=>exact .inr ⟨hw,h2⟩
     |false=>exact .inl ⟨hw,h2⟩
   ·rename_i vs hb
    exact .inr ⟨by simp only[awanted,hg,hd,Option.bind_some,hb],h⟩
   ·exact h.elim
  ·exact h.elim
structure FrW (W:List Nat) (s s':Y):Prop where
 fr:Fr s s'
 len:s'.sl.length=s.sl.length
 sl:∀i,¬i∈W->s'.sl[i]? =s.sl[i]?
theorem FrW.refl (W:List Nat) (s:Y):FrW W s s:=⟨Fr.refl s,rfl,fun _ _=>rfl⟩
theorem FrW.trans {W:List Nat} {a b c:Y} (h1:FrW W a b) (h2:FrW W b c):FrW W a c:=⟨h1.fr.trans h2.fr,h2.len.trans h1.len,fun i hi=>(h2.sl i hi).trans (h1.sl i hi)⟩
theorem FrW.mono {W W':List Nat} {a b:Y} (h:FrW W a b) (hw:∀i,i∈W->i∈W'):FrW W' a b:=⟨h.fr,h.len,fun i hi=>h.sl i (fun q=>hi (hw i q))⟩
theorem KR (sl:List V) (d:Option Tmp) (x:V):(sput sl d x).length=sl.length:=by cases d<;>simp [sput]
theorem KQ {sl:List V} {d:Option Tmp} {x:V} {i:Nat} (h:∀k,d=some k->k≠i):(sput sl d x)[i]? =sl[i]?:=by
 cases d with
 |none=>rfl
 |some k=>exact List.getElem?_set_ne (h k rfl)
theorem POL.mono {P:Program} {ops:Array Oper} {l:List Oper} {s:St} {Q Q':St->Prop} (h:POL P ops l s Q) (hq:∀s,Q s->Q' s):POL P ops l s Q':=by
 intro k hk ι a w r;refine kI ?_ _ _ _ (h k hk ι a w r);rintro e a' w' ⟨s3,ι3,⟨q1,q2⟩,r3,ev3⟩;exact⟨s3,ι3,⟨q1,hq _ q2⟩,r3,ev3⟩
theorem UT {ops:Array Oper} {sl:List V} {o:Oper} {d:Nat} {x z:V} (hd:sl[d]? =some z) (hz:qaD z=true) (hw:awanted ops sl o=some true):awanted ops (sl.set d x) o=some true:=by
 unfold awanted at hw ⊢;split
 ·rfl
 ·rename_i j want hg
  simp only[hg]at hw;cases hd0:(ops[j]?).bind (·.dst)with
  |none=>rw[hd0]at hw;cases hw
  |some d0=>
   rw[hd0]at hw;simp only[Option.bind_some]at hw ⊢;by_cases q:d0=d
   ·subst q;rw[hd]at hw;cases z<;>first|(cases hz;done)|(cases hw;done)
   ·rw[List.getElem?_set_ne (fun e=>q e.symm)];exact hw
theorem qYJ {W:List Nat} {o:Op} {s:Y} {K:Y->Prop} (h:frO W o s K):∃s':Y,K s'/\FrW W s s'/\(∀(ops:Array Oper) (o':Oper),awanted ops s.sl o'=some true->awanted ops s'.sl o'=some true) /\
  ∀ {ι:Iota} {a:Act} {w:World},SR s.den ι a w->∃ι',SR s'.den ι' a w/\Evolve (dens s.h) ι w (dens s'.h) ι' w:=by
 obtain⟨sl,hp,tch,an⟩:=s;simp only[frO]at h;split at h
 ·rename_i d x id c e
  obtain⟨hc,h⟩:=(fW _ _).1 h;rw[cN,cX,eM]at h;obtain⟨h1,⟨z,h2,hz⟩,h3⟩:=qSX e hc;refine⟨_,h,⟨⟨by simp,fun j hj=>List.mem_cons_of_mem _ hj,fun j hj hn=>List.getElem?_set_ne (fun q=>hn (by rw[<-q];exact List.mem_cons_self ..))⟩,by simp,fun j hj=>List.getElem?_set_ne (fun q=>hj (by rw[<-q];exact h1))⟩,fun ops o' hw=>UT h2 hz hw,h3⟩
 ·exact⟨_,h,FrW.refl _ _,fun _ _ q=>q,fun r=>⟨_,r,Evolve.refl _ _ _⟩⟩
theorem qIT {E:Env} (hT:aD E.P E.T) (hI:wL E) {ops:Array Oper} {rid:Nat} {W:List Nat} (hW0:∀d,d∈nF ops.toList->d∈W):∀(l:List Oper) (i:Nat) (s:Y) (K:Y->Prop),(∀o,o∈l->∀d,o.dst=some d->d∈W)->xops E ops rid l i s K ->
  POL E.P ops l s.den (fun st=>∃s',st=s'.den/\K s'/\FrW W s s')
 | [],i,s,K,_,h=>POL.nil ⟨s,rfl,h,FrW.refl _ _⟩
 |o::l,i,s,K,hW,h=>by
  rw[qLO]at h;have hdst:=hW o (by simp);have ih:∀s1:Y,FrW W s s1->xops E ops rid l (i+1) s1 K->POL E.P ops l s1.den (fun st=>∃s',st=s'.den/\K s'/\FrW W s s'):=fun s1 hf hx=>
   (qIT hT hI hW0 l (i+1) s1 K (fun o ho=>hW o (by simp [ho])) hx).mono fun st ⟨s',q1,q2,q3⟩=>⟨s',q1,q2,hf.trans q3⟩
  have put:∀(s0 s1:Y) (x:V),FrW W s s0->s1.sl=s0.sl->Fr s0 s1->FrW W s ⟨sput s1.sl o.dst x,s1.h,s1.tch,s1.an⟩:=by
   intro s0 s1 x h0 h1 h2;refine h0.trans ⟨⟨h2.len,h2.tch,h2.h⟩,by simp only[KR,h1],fun j hj=>?_⟩;simp only[h1];exact KQ (fun k hk q=>hj (q ▸ hdst k hk))
  rcases qEV h with⟨hw,hr⟩|⟨hw,hr⟩
  ·obtain⟨s0,hr,hf0,hw0,hsr⟩:=qYJ hr
   have hw:=hw0 ops o hw;have hf0:FrW W s s0:=hf0.mono hW0;refine POL.post (s2:=s0.den) hsr ?_;obtain⟨sl,hp,tch,an⟩:=s0;simp only[xstep]at hr;split at hr
   ·rename_i f args hcall
    have hcl:callable E.P f=true:=by
     unfold lU at hcall;repeat' split at hcall
     all_goals first|(cases hcall;done)|skip
     injection hcall with hcall;injection hcall with q _;subst q;assumption
    refine POL.call hw hcall hcl (qRI hT hI hr) ?_;rintro x k ⟨⟨sl2,hp2,tch2,an2⟩,h1,rfl,h2,h3⟩;simp only at h1 h3;rw[sK]at h3;have:=ih _ (put _ ⟨sl2,hp2,tch2,an2⟩ x hf0 h1 h2) h3;subst h1;exact this
   ·have hs:=qQL hr
    refine qQM (s:=⟨sl,hp⟩) hs hw ?_;rintro x h' ⟨h1,h2,h3⟩;rw[sK,qIK]at h1;have hf:Fr ⟨sl,hp,tch,an⟩ ⟨sl,h',wids o.op (aev sl) hp.length++tch,an⟩:=⟨h2,fun j hj=>List.mem_append.2 (.inr hj),fun j hj hn=>h3 j hj (fun q=>hn (List.mem_append.2 (.inl q)))⟩
    exact ih _ (put _ ⟨sl,h',wids o.op (aev sl) hp.length++tch,an⟩ x hf0 rfl hf) h1
  ·refine POL.no hw ?_
   simp only at hr;rw[sK]at hr;exact ih _ (put s s _ (FrW.refl _ _) rfl (Fr.refl _)) hr
def MF (W:List Nat):List V->Nat->List V
 | [],_=>[]
 |a::r,i=>(match W.contains i with
  |true=>.any
  |false=>a)::MF W r (i+1)
def oT (W:List Nat) (sl:List V):List V:=MF W sl 0
structure Bs where
 sl:List V
 h:List XO
def idC (c:V):Nat:=match c with
 | .oL id _=>id
 | .sO id _ _=>id
 |_=>0
def jG (b:Bs) (d:Nat):Nat:=match b.sl[d]? with
 |some c=>idC c
 |none=>0
def rG (b:Bs) (id:Nat):List V:=match b.h[id]? with
 |some (.raw (.live o))=>(match o.rows with
  | [r]=>r
  |_=>[])
 |_=>[]
def iS:(ks:List CK)->Tup (aB ks)->List V->List V
 | .same::ks,y,c::r=>c::iS ks y r
 | .val t::ks,(a,y),_::r=>t.val a::iS ks y r
 | .own _ _::ks,(l,y),c::r=>.oL (idC c) l.length::iS ks y r
 | .ows _ _::ks,(l,y),c::r=>.sO (idC c) 0 l.length::iS ks y r
 | .osf i::ks,(a,y),_::r=>rH i a::iS ks y r
 |_,_,_=>[]
def nK:(ks:List CK)->Tup (aB ks)->List V->List XO->List XO
 | .same::ks,y,_::r,h=>nK ks y r h
 | .val _::ks,(_,y),_::r,h=>nK ks y r h
 | .osf _::ks,(_,y),_::r,h=>nK ks y r h
 | .own t e::ks,(l,y),c::r,h=>nK ks y r (h.set (idC c) (.opt t l e))
 | .ows t e::ks,(l,y),c::r,h=>nK ks y r (h.set (idC c) (.tl t l e))
 |_,_,_,h=>h
def qPN (b:Bs) (id:Nat) (r:List V):XO:=match b.h[id]? with
 |some (.raw (.live o))=>.raw (.live ⟨o.sz,[r],o.elem⟩)
 |_=>.raw .dead
def gN:(g:List GK)->Tup (gts g)->Bs->List V->List V
 | [],_,_,l=>l
 | .sl d t::g,(y,r),b,l=>gN g r b (l.set d (t.val y))
 | .lst d t e::g,(y,r),b,l=>gN g r b (l.set d (.oL (jG b d) y.length))
 | .nls d t e::g,(y,r),b,l=>gN g r b (l.set d (.sO (jG b d) 0 y.length))
 | .ob _ _ _::g,(y,r),b,l=>gN g r b l
 | .ar _ _ _::g,(y,r),b,l=>gN g r b l
 | .op _ _ _::g,(y,r),b,l=>gN g r b l
 | .row _ ks::g,y,b,l=>match uR (aB ks) (gts g) y with
   |(_,q)=>gN g q b l
def gO:(g:List GK)->Tup (gts g)->Bs->List XO->List XO
 | [],_,_,h=>h
 | .sl _ _::g,(y,r),b,h=>gO g r b h
 | .lst d t e::g,(y,r),b,h=>gO g r b (h.set (jG b d) (.opt t y e))
 | .nls d t e::g,(y,r),b,h=>gO g r b (h.set (jG b d) (.tl t y e))
 | .ob id t e::g,(y,r),b,h=>gO g r b (h.set id (.ob t y e))
 | .ar id t e::g,(y,r),b,h=>gO g r b (h.set id (.tl t y e))
 | .op id t e::g,(y,r),b,h=>gO g r b (h.set id (.opt t y e))
 | .row id ks::g,y,b,h=>match uR (aB ks) (gts g) y with
   |(c,q)=>gO g q b (nK ks c (rG b id) (h.set id (qPN b id (iS ks c (rG b id)))))
def rdK:(ks:List CK)->List V->List XO->Option (Tup (aB ks))
 | [],[],_=>some ()
 | .same::ks,_::r,h=>rdK ks r h
 | .val t::ks,c::r,h=>match un (cS 8) t [c],rdK ks r h with
   |some (a,[]),some q=>some (a,q)
   |_,_=>none
 | .osf i::ks,c::r,h=>match KH i c,rdK ks r h with
   |some a,some q=>some (a,q)
   |_,_=>none
 | .own t e::ks,c::r,h=>match c with
   | .oL id _=>match h[id]? with
     |some (.opt _ l e')=>if e'=e then match gH (t':=t) l,rdK ks r h with
      |some l,some q=>some (l,q)
      |_,_=>none
      else none
     |_=>none
   |_=>none
 | .ows t e::ks,c::r,h=>match c with
   | .sO id 0 _=>match h[id]? with
     |some (.tl _ l e')=>if e'=e then match gH (t':=t) l,rdK ks r h with
      |some l,some q=>some (l,q)
      |_,_=>none
      else none
     |_=>none
   |_=>none
 |_,_,_=>none
def cdK:(ks:List CK)->List V->List XO->List Bool
 | .own _ _::ks,c::r,h=>fT h c++cdK ks r h
 | .ows _ _::ks,c::r,h=>fT h c++cdK ks r h
 |_::ks,_::r,h=>cdK ks r h
 |_,_,_=>[]
def KK:(ks:List CK)->List V->List V->Prop->Prop
 | .same::ks,c'::r',c::r,A=>c'=c/\KK ks r' r A
 | .val _::ks,_::r',_::r,A=>KK ks r' r A
 | .own _ _::ks,_::r',_::r,A=>KK ks r' r A
 | .ows _ _::ks,_::r',_::r,A=>KK ks r' r A
 | .osf _::ks,_::r',_::r,A=>KK ks r' r A
 | [],_,_,A=>A
 |_,_,_,_=>False
def pC:(ks:List CK)->List V->List Nat
 | .own _ _::ks,c::r=>idC c::pC ks r
 | .ows _ _::ks,c::r=>idC c::pC ks r
 |_::ks,_::r=>pC ks r
 |_,_=>[]
def qDV:(ks:List CK)->List V->List V->List Nat->List Nat
 | .own _ _::ks,c::r,c'::r',σ=>qDV ks r r' (σ.set (idC c) (idC c'))
 | .ows _ _::ks,c::r,c'::r',σ=>qDV ks r r' (σ.set (idC c) (idC c'))
 |_::ks,_::r,_::r',σ=>qDV ks r r' σ
 |_,_,_,σ=>σ
def qQ (σ:List Nat):(ks:List CK)->List V->List V->Bool
 | .own _ _::ks,c::r,c'::r'=>(σ[idC c]? == some (idC c'))&&qQ σ ks r r'
 | .ows _ _::ks,c::r,c'::r'=>(σ[idC c]? == some (idC c'))&&qQ σ ks r r'
 |_::ks,_::r,_::r'=>qQ σ ks r r'
 |_,_,_=>true
def rdG:(g:List GK)->List V->List XO->Option (Tup (gts g))
 | [],_,_=>some ()
 | .sl d t::g,sl,h=>match sl[d]? with
   |some v=>match un (cS 8) t (eT t v),rdG g sl h with
    |some (a,[]),some r=>some (a,r)
    |_,_=>none
   |none=>none
 | .lst d t e::g,sl,h=>match sl[d]? with
   |some (.oL id _)=>match h[id]? with
    |some (.opt _ l e')=>if e'=e then match gH (t':=t) l,rdG g sl h with
     |some l,some r=>some (l,r)
     |_,_=>none
     else none
    |_=>none
   |_=>none
 | .nls d t e::g,sl,h=>match sl[d]? with
   |some (.sO id 0 _)=>match h[id]? with
    |some (.tl _ l e')=>if e'=e then match gH (t':=t) l,rdG g sl h with
     |some l,some r=>some (l,r)
     |_,_=>none
     else none
    |_=>none
   |_=>none
 | .ob id t e::g,sl,h=>match h[id]? with
   |some o=>(match LW t e o,rdG g sl h with
    |some a,some q=>some (a,q)
    |_,_=>none)
   |_=>none
 | .ar id t e::g,sl,h=>match h[id]? with
   |some (.tl _ l e')=>if e'=e then match gH (t':=t) l,rdG g sl h with
    |some l,some r=>some (l,r)
    |_,_=>none
    else none
   |_=>none
 | .op id t e::g,sl,h=>match h[id]? with
   |some (.opt _ l e')=>if e'=e then match gH (t':=t) l,rdG g sl h with
    |some l,some r=>some (l,r)
    |_,_=>none
    else none
   |_=>none
 | .row id ks::g,sl,h=>match rdK ks (rG ⟨sl,h⟩ id) h,rdG g sl h with
   |some c,some q=>some (aC (aB ks) (gts g) c q)
   |_,_=>none
def cdG (h:List XO) (sl:List V):List GK->List Bool
 | []=>[]
 | .lst d _ _::g=>(match sl[d]? with
   |some v=>fT h v
   |none=>[])++cdG h sl g
 | .nls d _ _::g=>(match sl[d]? with
   |some v=>fT h v
   |none=>[])++cdG h sl g
 | .row id ks::g=>cdK ks (rG ⟨sl,h⟩ id) h++cdG h sl g
 |_::g=>cdG h sl g
def AR (b b':Bs):List GK->Prop->Prop
 | [],A=>A
 | .row id ks::g,A=>KK ks (rG b' id) (rG b id) (AR b b' g A)
 | .sl _ _::g,A=>AR b b' g A
 | .lst _ _ _::g,A=>AR b b' g A
 | .nls _ _ _::g,A=>AR b b' g A
 | .ob _ _ _::g,A=>AR b b' g A
 | .ar _ _ _::g,A=>AR b b' g A
 | .op _ _ _::g,A=>AR b b' g A
def gslots:List GK->List Nat
 | []=>[]
 | .sl d _::g=>d::gslots g
 | .lst d _ _::g=>d::gslots g
 | .nls d _ _::g=>d::gslots g
 |_::g=>gslots g
def gids (b:Bs):List GK->List Nat
 | []=>[]
 | .sl _ _::g=>gids b g
 | .lst d _ _::g=>jG b d::gids b g
 | .nls d _ _::g=>jG b d::gids b g
 | .ob id _ _::g=>id::gids b g
 | .ar id _ _::g=>id::gids b g
 | .op id _ _::g=>id::gids b g
 | .row id ks::g=>id::(pC ks (rG b id)++gids b g)
def sig (g:List GK) (b b':Bs) (σ:List Nat):List Nat:=match g with
 | []=>σ
 | .lst d _ _::g=>sig g b b' (σ.set (jG b d) (jG b' d))
 | .nls d _ _::g=>sig g b b' (σ.set (jG b d) (jG b' d))
 | .row id ks::g=>sig g b b' (qDV ks (rG b id) (rG b' id) σ)
 |_::g=>sig g b b' σ
def niV:Nat->V->Bool
 |0,_=>false
 |n+1,x=>match x with
  | .v _=>true
  | .any=>true
  | .sL _ _=>true
  | .pF row _=>row.all (niV n)
  | .sF _ rows=>rows.all (·.all (niV n))
  | .agg xs=>xs.all (niV n)
  | .tup xs=>xs.all (niV n)
  |_=>false
theorem CD:∀ {n:Nat} {x:V},niV n x=true->NI 0 x
 |0,x,h=>by simp [niV]at h
 |n+1,x,h=>by
  cases x with
  |v x=>exact .v _
  |any=>exact .any
  |sL t l=>exact .sL _ _
  |pF row o=>exact .pF o fun x hx=>CD (List.all_eq_true.1 h x hx)
  |sF sz rows=>exact .sF sz fun r hr x hx=>CD (List.all_eq_true.1 (List.all_eq_true.1 h r hr) x hx)
  |agg xs=>exact .agg fun x hx=>CD (List.all_eq_true.1 h x hx)
  |tup xs=>exact .tup fun x hx=>CD (List.all_eq_true.1 h x hx)
  |_=>cases h
def qCE (σ:List Nat) (id:Nat):Bool:=σ[id]? == some id
def JH (σ:List Nat):Nat->V->Bool
 |0,_=>false
 |n+1,x=>match x with
  | .v _=>true
  | .any=>true
  | .pO id _ _=>qCE σ id
  | .sO id _ _=>qCE σ id
  | .oL id _=>qCE σ id
  | .sL _ _=>true
  | .agg xs=>xs.all (JH σ n)
  | .tup xs=>xs.all (JH σ n)
  | .fn _ a b=>a.all (JH σ n)&&b.all (JH σ n)
  | .ifc _ x=>JH σ n x
  | .pF row _=>row.all (niV 6)
  | .sF _ rows=>rows.all (·.all (niV 6))
def qN (σ:List Nat):(ks:List CK)->List V->Bool
 | [],[]=>true
 | .same::ks,c::r=>JH σ 6 c&&qN σ ks r
 | .val t::ks,_::r=>(match t with| .pair _ _=>false|_=>true)&&qN σ ks r
 | .own _ _::ks,_::r=>qN σ ks r
 | .ows _ _::ks,_::r=>qN σ ks r
 | .osf i::ks,_::r=>qCE σ i&&qN σ ks r
 |_,_=>false
def qE3 (b:Bs) (id:Nat):Option (Nat×TypeId):=match b.h[id]? with
 |some (.raw (.live o))=>(match o.rows with
  | [_]=>some (o.sz,o.elem)
  |_=>none)
 |_=>none
def qFW (b b':Bs) (id:Nat):Bool:=match qE3 b id,qE3 b' id with
 |some (s,e),some (s',e')=>Nat.beq s s'&&Nat.beq e e'
 |_,_=>false
def jM (σ:List Nat) (b b':Bs):List GK->Bool
 | []=>true
 | .sl _ _::g=>jM σ b b' g
 | .lst d _ _::g=>(σ[jG b d]? == some (jG b' d))&&jM σ b b' g
 | .nls d _ _::g=>(σ[jG b d]? == some (jG b' d))&&jM σ b b' g
 | .ob id _ _::g=>(σ[id]? == some id)&&jM σ b b' g
 | .ar id _ _::g=>(σ[id]? == some id)&&jM σ b b' g
 | .op id _ _::g=>(σ[id]? == some id)&&jM σ b b' g
 | .row id ks::g=>(σ[id]? == some id)&&(qQ σ ks (rG b id) (rG b' id)&&(qN σ ks (rG b id)&&(qFW b b' id&&jM σ b b' g)))
def qZ1 (σ:List Nat):XO->Bool
 | .raw (.live o)=>o.rows.all (·.all (JH σ 6))
 | .raw .dead=>true
 | .raw .free=>false
 | .row1 _ _ _ _ _=>false
 |_=>true
def TE:List Nat->Bool
 | []=>true
 |x::xs=>!xs.contains x&&TE xs
def qNR (σ gi:List Nat):List XO->Nat->Bool
 | [],_=>true
 |o::r,j=>(gi.contains j||(qZ1 σ o&&(σ[j]? == some j)))&&qNR σ gi r (j+1)
def qN3 (n0:Nat) (σ:List Nat):Bool:=(List.range n0).all fun j=>σ[j]? == some j
def Y.bs (s:Y):Bs:=⟨s.sl,s.h⟩
def okG (n0:Nat) (W:List Nat) (g:List GK) (s1 s':Y) (σ:List Nat):Bool:=
 TE σ&&qN3 n0 σ&&σ.all (fun i=>Nat.blt i s'.h.length)&&jM σ s1.bs s'.bs g&&(oT W s1.sl).all (JH σ 6)&&qNR σ (gids s1.bs g) s1.h 0 &&
  s'.tch.all (fun j=>(gids s1.bs g).contains j||Nat.ble s1.h.length j)&&(gslots g).all (fun d=>W.contains d)
def arrive (n0:Nat) (W:List Nat) (g:List GK) (s1 s':Y) (k:Tup (gts g)->Prop):Prop:=
 match rdG g s'.sl s'.h with
 |some y=>needs (cdG s'.h s'.sl g) (AR s1.bs s'.bs g (Kern (okG n0 W g s1 s' (sig g s1.bs s'.bs (List.range s1.h.length)))/\k y))
 |none=>False
def AH:List GK->List V->List XO->(List V->List XO->Prop)->Prop
 | [],sl,h,K=>K sl h
 | .lst d t e::g,sl,h,K=>match sl[d]? with
   |some (.v (.slice none 0 0))=>fN h.length fun n=>jI sl d (.oL n 0) fun sl=>fH (h++ [XO.opt t [] e]) fun h=>AH g sl h K
   |_=>AH g sl h K
 |_::g,sl,h,K=>AH g sl h K
def dS (n:Nat):List CK->List V->List V×List XO
 | .own t e::ks,c::r=>match c with
   | .v (.slice none 0 0)=>(.oL n 0::(dS (n+1) ks r).1,.opt t [] e::(dS (n+1) ks r).2)
   |c=>(c::(dS n ks r).1,(dS n ks r).2)
 |_::ks,c::r=>(c::(dS n ks r).1,(dS n ks r).2)
 |_,r=>(r,[])
def EI:List GK->List XO->(List XO->Prop)->Prop
 | .row id ks::g,h,K=>match h[id]? with
   |some (.raw (.live o))=>(match o.rows with
    | [r]=>match dS h.length ks r with
      |(r',new)=>fH ((h++new).set id (.raw (.live ⟨o.sz,[r'],o.elem⟩))) fun h=>EI g h K
    |_=>EI g h K)
   |_=>EI g h K
 |_::g,h,K=>EI g h K
 | [],h,K=>K h
def mG:List GK->List Nat
 | []=>[]
 | .row id _::g=>id::mG g
 |_::g=>mG g
theorem eR {b:Bs}:∀ {g:List GK} {j:Nat},j∈mG g->j∈gids b g
 | .sl _ _::g,j,h=>eR (g:=g) h
 | .lst _ _ _::g,j,h=>List.mem_cons_of_mem _ (eR (g:=g) h)
 | .nls _ _ _::g,j,h=>List.mem_cons_of_mem _ (eR (g:=g) h)
 | .ob _ _ _::g,j,h=>List.mem_cons_of_mem _ (eR (g:=g) h)
 | .ar _ _ _::g,j,h=>List.mem_cons_of_mem _ (eR (g:=g) h)
 | .op _ _ _::g,j,h=>List.mem_cons_of_mem _ (eR (g:=g) h)
 | .row id ks::g,j,h=>by
   simp only[mG,List.mem_cons]at h;simp only[gids,List.mem_cons,List.mem_append];exact h.imp (fun q=>q) fun q=>.inr (eR (g:=g) q)
def AF (g:List GK) (sl:List V) (h:List XO) (K:List V->List XO->Prop):Prop:=AH g sl h fun sl h=>EI g h fun h=>K sl h
theorem SR.dead {sl:List V} {h:Heap} {ι:Iota} {a:Act} {w:World} (r:SR ⟨sl,h⟩ ι a w):SR ⟨sl,h++ [.dead]⟩ ι a w/\Evolve h ι w (h++ [.dead]) ι w:=by
 obtain⟨r1,ev1⟩:=r.reserve 1;have hf:(h++List.replicate 1 HS.free)[h.length]? =some .free:=by simp
 obtain⟨h2,ev2⟩:=r1.heap.fill hf;have hd:(h++List.replicate 1 HS.free).set h.length .dead=h++ [.dead]:=by simp
 simp only[hd]at h2 ev2;exact⟨⟨r1.defers,r1.slots.mono ev2,h2⟩,ev1.trans ev2⟩
theorem SR.deads {sl:List V} {ι:Iota} {a:Act} {w:World}:∀(n:Nat) {h:Heap},SR ⟨sl,h⟩ ι a w->SR ⟨sl,h++List.replicate n .dead⟩ ι a w/\Evolve h ι w (h++List.replicate n .dead) ι w
 |0,h,r=>by simp only[List.replicate_zero,List.append_nil];exact⟨r,Evolve.refl _ _ _⟩
 |n+1,h,r=>by
  obtain⟨r1,ev1⟩:=r.dead;obtain⟨r2,ev2⟩:=SR.deads n r1;have e:h++ [HS.dead]++List.replicate n HS.dead=h++List.replicate (n+1) .dead:=by rw[List.append_assoc];rfl
  rw[e]at r2 ev2;exact⟨r2,ev1.trans ev2⟩
theorem LE.oL0 (n:Nat):LE (.v (.slice none 0 0)) (.oL n 0):=fun r=>.oL _ _ _ (by rw[if_pos rfl];exact r)
theorem jT:∀(g:List GK) (sl:List V) (h:List XO) (K:List V->List XO->Prop),AH g sl h K ->
  ∃sl' h',K sl' h'/\sl'.length=sl.length/\(∀i,¬i∈gslots g->sl'[i]? =sl[i]?)/\h.length<=h'.length/\(∀j,j<h.length->h'[j]? =h[j]?) /\
   ∀ {ι:Iota} {a:Act} {w:World},SR ⟨sl,dens h⟩ ι a w->SR ⟨sl',dens h'⟩ ι a w/\Evolve (dens h) ι w (dens h') ι w
 | [],sl,h,K,q=>⟨sl,h,q,rfl,fun _ _=>rfl,Nat.le_refl _,fun _ _=>rfl,fun r=>⟨r,Evolve.refl _ _ _⟩⟩
 | .sl d _::g,sl,h,K,q=>by
   obtain⟨sl',h',q1,q2,q3,q4⟩:=jT g sl h K q;exact⟨sl',h',q1,q2,fun i hi=>q3 i (fun q=>hi (by simp [gslots,q])),q4⟩
 | .nls d _ _::g,sl,h,K,q=>by
   obtain⟨sl',h',q1,q2,q3,q4⟩:=jT g sl h K q;exact⟨sl',h',q1,q2,fun i hi=>q3 i (fun q=>hi (by simp [gslots,q])),q4⟩
 | .ob _ _ _::g,sl,h,K,q=>jT g sl h K q
 | .ar _ _ _::g,sl,h,K,q=>jT g sl h K q
 | .op _ _ _::g,sl,h,K,q=>jT g sl h K q
 | .row _ _::g,sl,h,K,q=>jT g sl h K q
 | .lst d t e::g,sl,h,K,q=>by
   have skip:AH g sl h K->∃sl' h',K sl' h'/\sl'.length=sl.length/\(∀i,¬i∈gslots (.lst d t e::g)->sl'[i]? =sl[i]?)/\h.length<=h'.length/\(∀j,j<h.length->h'[j]? =h[j]?) /\
     ∀ {ι:Iota} {a:Act} {w:World},SR ⟨sl,dens h⟩ ι a w->SR ⟨sl',dens h'⟩ ι a w/\Evolve (dens h) ι w (dens h') ι w:=fun q=>by
    obtain⟨sl',h',q1,q2,q3,q4⟩:=jT g sl h K q;exact⟨sl',h',q1,q2,fun i hi=>q3 i (fun q=>hi (by simp [gslots,q])),q4⟩
   simp only[AH]at q;split at q
   ·rename_i hd
    rw[jL,cX,eM]at q;obtain⟨sl',h',q1,q2,q3,q4,q5,q6⟩:=jT g _ _ K q;refine⟨sl',h',q1,by simpa using q2,fun i hi=>?_,by simp at q4;omega,fun j hj=>?_,fun{ι a w} r=>?_⟩
    ·simp only[gslots,List.mem_cons,not_or]at hi
     rw[q3 i hi.2,List.getElem?_set_ne (Ne.symm hi.1)]
    ·rw[q5 j (by simp;omega),List.getElem?_append_left hj]
    ·obtain⟨r1,ev1⟩:=r.dead
     have hden:dens h++ [HS.dead]=dens (h++ [XO.opt t [] e]):=by simp [dens,XO.den]
     rw[hden]at r1 ev1;obtain⟨r2,ev2⟩:=q6 (r1.setLE hd (LE.oL0 h.length));exact⟨r2,ev1.trans ev2⟩
   ·exact skip q
theorem mD:∀(ks:List CK) (r:List V) (n:Nat),(dS n ks r).1.length=r.length/\dens (dS n ks r).2=List.replicate (dS n ks r).2.length .dead/\∀(i:Nat) (x y:V),r[i]? =some x->(dS n ks r).1[i]? =some y->LE x y
 | [],r,n=>⟨by cases r<;>rfl,by cases r<;>rfl,fun i x y h1 h2=>by cases r<;>(simp [dS]at h2 h1;try(rw[h1]at h2;injection h2 with h2;subst h2;exact LE.refl _))⟩
 | .same::_,[],n=>⟨rfl,rfl,fun i x y h=>by simp at h⟩
 | .osf _::_,[],n=>⟨rfl,rfl,fun i x y h=>by simp at h⟩
 | .val _::_,[],n=>⟨rfl,rfl,fun i x y h=>by simp at h⟩
 | .own _ _::_,[],n=>⟨rfl,rfl,fun i x y h=>by simp at h⟩
 | .ows _ _::_,[],n=>⟨rfl,rfl,fun i x y h=>by simp at h⟩
 | .same::ks,c::r,n=>by
   obtain⟨q1,q2,q3⟩:=mD ks r n;exact⟨by simp [dS,q1],q2,fun i x y h1 h2=>by
    cases i with
    |zero=>simp [dS]at h1 h2;rw[<-h1,<-h2];exact LE.refl _
    |succ i=>exact q3 i x y (by simpa using h1) (by simpa [dS]using h2)⟩
 | .val _::ks,c::r,n=>by
   obtain⟨q1,q2,q3⟩:=mD ks r n;exact⟨by simp [dS,q1],q2,fun i x y h1 h2=>by
    cases i with
    |zero=>simp [dS]at h1 h2;rw[<-h1,<-h2];exact LE.refl _
    |succ i=>exact q3 i x y (by simpa using h1) (by simpa [dS]using h2)⟩
 | .osf _::ks,c::r,n=>by
   obtain⟨q1,q2,q3⟩:=mD ks r n;exact⟨by simp [dS,q1],q2,fun i x y h1 h2=>by
    cases i with
    |zero=>simp [dS]at h1 h2;rw[<-h1,<-h2];exact LE.refl _
    |succ i=>exact q3 i x y (by simpa using h1) (by simpa [dS]using h2)⟩
 | .own t e::ks,c::r,n=>by
   obtain⟨p1,p2,p3⟩:=mD ks r (n+1);obtain⟨q1,q2,q3⟩:=mD ks r n;simp only[dS];split
   ·refine⟨by simp [p1],by simp only[List.length_cons,List.replicate_succ,<-p2];rfl,fun i x y h1 h2=>?_⟩
    cases i with
    |zero=>simp at h1 h2;rw[<-h1,<-h2];exact LE.oL0 _
    |succ i=>exact p3 i x y (by simpa using h1) (by simpa using h2)
   ·refine⟨by simp [q1],q2,fun i x y h1 h2=>?_⟩
    cases i with
    |zero=>simp at h1 h2;rw[<-h1,<-h2];exact LE.refl _
    |succ i=>exact q3 i x y (by simpa using h1) (by simpa using h2)
 | .ows _ _::ks,c::r,n=>by
   obtain⟨q1,q2,q3⟩:=mD ks r n;exact⟨by simp [dS,q1],q2,fun i x y h1 h2=>by
    cases i with
    |zero=>simp [dS]at h1 h2;rw[<-h1,<-h2];exact LE.refl _
    |succ i=>exact q3 i x y (by simpa using h1) (by simpa [dS]using h2)⟩
theorem lG:∀(g:List GK) (h:List XO) (K:List XO->Prop),EI g h K ->
  ∃h',K h'/\h.length<=h'.length/\(∀j,j<h.length->¬j∈mG g->h'[j]? =h[j]?) /\
   ∀ {sl:List V} {ι:Iota} {a:Act} {w:World},SR ⟨sl,dens h⟩ ι a w->SR ⟨sl,dens h'⟩ ι a w/\Evolve (dens h) ι w (dens h') ι w
 | [],h,K,q=>⟨h,q,Nat.le_refl _,fun _ _ _=>rfl,fun r=>⟨r,Evolve.refl _ _ _⟩⟩
 | .sl _ _::g,h,K,q=>lG g h K q
 | .lst _ _ _::g,h,K,q=>lG g h K q
 | .nls _ _ _::g,h,K,q=>lG g h K q
 | .ob _ _ _::g,h,K,q=>lG g h K q
 | .ar _ _ _::g,h,K,q=>lG g h K q
 | .op _ _ _::g,h,K,q=>lG g h K q
 | .row id ks::g,h,K,q=>by
   have skip:EI g h K->∃h',K h'/\h.length<=h'.length/\(∀j,j<h.length->¬j∈mG (.row id ks::g)->h'[j]? =h[j]?) /\
     ∀ {sl:List V} {ι:Iota} {a:Act} {w:World},SR ⟨sl,dens h⟩ ι a w->SR ⟨sl,dens h'⟩ ι a w/\Evolve (dens h) ι w (dens h') ι w:=fun q=>by
    obtain⟨h',q1,q2,q3,q4⟩:=lG g h K q;exact⟨h',q1,q2,fun j hj hn=>q3 j hj (fun hb=>hn (by simp [mG,hb])),q4⟩
   simp only[EI]at q;split at q
   ·rename_i o ho
    split at q
    ·rename_i r hr
     rw[eM]at q;obtain⟨n1,n2,n3⟩:=mD ks r h.length;generalize hr':(dS h.length ks r).1=r' at n1 n3 q;generalize hnew:(dS h.length ks r).2=new at n2 q;obtain⟨h',q1,q2,q3,q4⟩:=lG g _ K q;have hid:=aP ho;refine⟨h',q1,by simp at q2;omega,fun j hj hn=>?_,fun{sl ι a w} r0=>?_⟩
     ·rw[q3 j (by simp;omega) (fun hb=>hn (by simp [mG,hb])),List.getElem?_set_ne (fun q=>hn (by simp [mG,q])),List.getElem?_append_left hj]
     ·obtain⟨r1,ev1⟩:=SR.deads new.length r0
      rw[<-n2,<-qW]at r1 ev1;have hd:(dens (h++new))[id]? =some (.live o):=by rw[aO,List.getElem?_append_left hid,ho];rfl
      obtain⟨H2,ev2⟩:=r1.heap.weakObj (o':=⟨o.sz,[r'],o.elem⟩) hd rfl rfl (by rw[hr];rfl) (fun i r1 r2 h1 h2=>by
       rw[hr]at h1;cases i with
       |zero=>simp at h1 h2;subst h1 h2;exact⟨n1.symm,n3⟩
       |succ i=>simp at h1)
      have e:(dens (h++new)).set id (.live ⟨o.sz,[r'],o.elem⟩)=dens ((h++new).set id (.raw (.live ⟨o.sz,[r'],o.elem⟩))):=by rw[bG];rfl
      simp only[e]at H2 ev2;obtain⟨r3,ev3⟩:=q4 (sl:=sl) (ι:=ι) (a:=a) (w:=w) ⟨r1.defers,r1.slots.mono ev2,H2⟩;exact⟨r3,(ev1.trans ev2).trans ev3⟩
    ·exact skip q
   ·exact skip q
theorem AG {g:List GK} {sl:List V} {h:List XO} {K:List V->List XO->Prop} (q:AF g sl h K) :
  ∃sl' h',K sl' h'/\sl'.length=sl.length/\(∀i,¬i∈gslots g->sl'[i]? =sl[i]?)/\h.length<=h'.length/\(∀j,j<h.length->¬j∈mG g->h'[j]? =h[j]?) /\
   ∀ {ι:Iota} {a:Act} {w:World},SR ⟨sl,dens h⟩ ι a w->SR ⟨sl',dens h'⟩ ι a w/\Evolve (dens h) ι w (dens h') ι w:=by
 obtain⟨sl',h1,q1,q2,q3,q4,q5,q6⟩:=jT g sl h _ q;obtain⟨h',r1,r2,r3,r4⟩:=lG g h1 _ q1;refine⟨sl',h',r1,q2,q3,Nat.le_trans q4 r2,fun j hj hn=>(r3 j (Nat.lt_of_lt_of_le hj q4) hn).trans (q5 j hj),fun{ι a w} r=>?_⟩;obtain⟨s1,e1⟩:=q6 r;obtain⟨s2,e2⟩:=r4 s1;exact⟨s2,e1.trans e2⟩
def rI (h:List XO):List (Nat×XO)->List XO
 | []=>h
 |p::r=>rI (h.set p.1 p.2) r
def pden (l:List (Nat×XO)):List (Nat×HS):=l.map fun p=>(p.1,p.2.den)
theorem rU:∀(l:List (Nat×XO)) (h:List XO),dens (rI h l)=bJ (dens h) (pden l)
 | [],_=>rfl
 |p::r,h=>by
  show dens (rI (h.set p.1 p.2) r)=bJ ((dens h).set p.1 p.2.den) (pden r);rw[rU r,bG]
def ovX (F:List Nat) (h:List XO):Heap->Nat->List XO
 | [],_=>[]
 |c::k,i=>(if F.contains i then(match h[i]? with
  |some o=>o
  |none=>.raw c)else .raw c)::ovX F h k (i+1)
theorem vT {F:List Nat} {h:List XO}:∀ {k:Heap} {i:Nat},(∀j,(i+j)∈F->k[j]? =(dens h)[i+j]?)->dens (ovX F h k i)=k
 | [],i,_=>rfl
 |c::k,i,hk=>by
  have ih:=vT (F:=F) (h:=h) (k:=k) (i:=i+1) (fun j hj=>by
   have:=hk (j+1) (by rwa [show i+(j+1)=i+1+j by omega]);rwa [show i+(j+1)=i+1+j by omega]at this)
  have hd:dens (ovX F h (c::k) i)=XO.den (if F.contains i then(match h[i]? with|some o=>o|none=>.raw c)else .raw c)::dens (ovX F h k (i+1)):=rfl
  rw[hd,ih];congr 1
  by_cases hw:i∈F
  ·rw[if_pos (by simpa using hw)]
   have:=hk 0 (by simpa using hw);rw[Nat.add_zero,aO]at this;cases hq:h[i]? with
   |none=>rfl
   |some o=>rw[hq]at this;simp at this;exact this.symm
  ·rw[if_neg (by simpa using hw)];rfl
theorem vU {F:List Nat} {h:List XO}:∀ {k:Heap} {i j:Nat},(i+j)∈F->k[j]? =(dens h)[i+j]? ->(ovX F h k i)[j]? =h[i+j]?
 | [],i,j,hj,hk=>by
   rw[aO]at hk;cases hq:h[i+j]? with
   |none=>simp [ovX]
   |some o=>rw[hq]at hk;simp at hk
 |c::k,i,0,hj,hk=>by
  rw[Nat.add_zero]at hj hk ⊢;rw[aO]at hk;simp only[ovX,List.getElem?_cons_zero];rw[if_pos (by simpa using hj)];cases hq:h[i]? with
  |none=>rw[hq]at hk;simp at hk
  |some o=>rfl
 |c::k,i,j+1,hj,hk=>by
  simp only[ovX,List.getElem?_cons_succ];rw[show i+(j+1)=i+1+j by omega]at hj hk ⊢;exact vU hj (by simpa using hk)
theorem MJ {h h2:List XO} {ty:Ty} {e:TypeId}:∀ {x:V},(∀id,id∈aT x->h2[id]? =h[id]?)->bsX h2 ty e x=bsX h ty e x
 | .sO id 0 len,hx=>by simp only[bsX];rw[hx id (by simp [aT])]
 | .sO id (n+1) len,hx=>rfl
 | .oL id n,hx=>by simp only[bsX];rw[hx id (by simp [aT])]
 | .v x,_=>by unfold bsX;split<;>first|rfl|simp_all
 | .any,_=>rfl
 | .pF _ _,_=>rfl
 | .pO _ _ _,_=>rfl
 | .sF _ _,_=>rfl
 | .agg _,_=>rfl
 | .tup _,_=>rfl
 | .fn _ _ _,_=>rfl
 | .ifc _ _,_=>rfl
 | .sL _ _,_=>rfl
theorem QI {h h2:List XO} {ty:Ty}:∀ {x:V},(∀id,id∈aT x->h2[id]? =h[id]?)->rdX h2 ty x=rdX h ty x
 | .sO id off len,hx=>by simp only[rdX];rw[hx id (by simp [aT])]
 | .oL id n,hx=>by simp only[rdX];rw[hx id (by simp [aT])]
 | .v x,_=>by unfold rdX;split<;>first|rfl|simp_all
 | .any,_=>rfl
 | .pF _ _,_=>rfl
 | .pO _ _ _,_=>rfl
 | .sF _ _,_=>rfl
 | .agg _,_=>rfl
 | .tup _,_=>rfl
 | .fn _ _ _,_=>rfl
 | .ifc _ _,_=>rfl
 | .sL _ _,_=>rfl
theorem qJV {P:Program} {h h':List XO} {new:Nat} {t:TypeId} {same:Bool} {n m:Int} {cs:List Bool} {x:V} (e:dmake P h new t same n m=some (cs,x,h')) :
  ∃o:XO,h'=h.set new o/\∀h2,dmake P h2 new t same n m=some (cs,x,h2.set new o):=by
 unfold dmake at e;split at e
 ·rename_i el hu
  split at e
  ·rename_i ty s zs b hty hs hz hb
   split at e
   ·rename_i hsz
    split at e
    ·rename_i d hd
     injection e with e;injection e with e1 e2;injection e2 with e2 e3;subst e1 e2 e3;exact⟨_,rfl,fun h2=>by simp only[dmake,hu,hty,hs,hz,hb,if_pos hsz,hd]⟩
    ·cases e
   ·cases e
  ·cases e
 ·cases e
theorem SG {P:Program} {h h':List XO} {new:Nat} {s d:TypeId} {v:V} {cs:List Bool} {x:V} (e:mW P h new s d v=some (cs,x,h')) :
  ∃o:XO,h'=h.set new o/\∀h2,mW P h2 new s d v=some (cs,x,h2.set new o):=by
 unfold mW at e;split at e
 ·rename_i b el hs hd
  split at e
  ·rename_i hel
   injection e with e;injection e with e1 e2;injection e2 with e2 e3;subst e1 e2 e3;exact⟨_,rfl,fun h2=>by simp only[mW,hs,hd,hel]⟩
  ·cases e
 ·cases e
theorem VU {P:Program} {h h':List XO} {new:Nat} {tys:Array TypeId} {v u:V} {cs:List Bool} {x:V} (e:dappend P h new tys v u=some (cs,x,h')) :
  ∃(k:Option Nat) (o:XO),(∀id,k=some id->id∈aT v)/\h'=(cO h k).set new o/\∀h2:List XO,(∀id,id∈aT v->h2[id]? =h[id]?)->(∀id,id∈aT u->h2[id]? =h[id]?)->dappend P h2 new tys v u=some (cs,x,(cO h2 k).set new o):=by
 unfold dappend at e;split at e
 ·rename_i t0 t1 ht0 ht1
  split at e
  ·rename_i el hu
   split at e
   ·rename_i hst
    split at e
    ·rename_i ty s b zs hty hs hb hz
     split at e
     ·rename_i hsz
      split at e
      ·rename_i c1 l1 k c2 l2 hbs hrd
       injection e with e;injection e with e1 e2;injection e2 with e2 e3;subst e1 e2 e3;refine⟨k,_,RS hbs,rfl,fun h2 h3 h4=>?_⟩;have q1:=(MJ (ty:=ty) (e:=el) h3).trans hbs;have q2:=(QI (ty:=ty) h4).trans hrd;simp only[dappend,ht0,ht1,hu,if_pos hst,hty,hs,hb,hz,if_pos hsz,q1,q2]
      ·cases e
     ·cases e
    ·cases e
   ·cases e
  ·cases e
 ·cases e
theorem SB {P:Program} {h h':List XO} {new:Nat} {tys:Array TypeId} {v u:V} {cs:List Bool} {x:V} (e:mU P h new tys v u=some (cs,x,h')) :
  ∃(k:Option Nat) (o:XO),(∀id,k=some id->id∈aT v)/\h'=(cO h k).set new o/\∀h2:List XO,(∀id,id∈aT v->h2[id]? =h[id]?)->(∀id,id∈aT u->h2[id]? =h[id]?)->mU P h2 new tys v u=some (cs,x,(cO h2 k).set new o):=by
 unfold mU at e;split at e
 ·rename_i t0 t1 ht0 ht1
  split at e
  ·rename_i el hu
   split at e
   ·rename_i hst
    split at e
    ·rename_i ty s b zs hty hs hb hz
     split at e
     ·rename_i hsz
      split at e
      ·rename_i c1 l1 k c2 l2 hbs hrd
       injection e with e;injection e with e1 e2;injection e2 with e2 e3;subst e1 e2 e3;refine⟨k,_,RS hbs,rfl,fun h2 h3 h4=>?_⟩;have q1:=(MJ (ty:=ty) (e:=el) h3).trans hbs;have q2:=(QI (ty:=ty) h4).trans hrd;simp only[mU,ht0,ht1,hu,if_pos hst,hty,hs,hb,hz,if_pos hsz,q1,q2]
      ·cases e
     ·cases e
    ·cases e
   ·cases e
  ·cases e
 ·cases e
theorem qM2 {P:Program} {h h':List XO} {new:Nat} {tys:Array TypeId} {v u:V} {cs:List Bool} {x:V} (e:dapp P h new tys v u=some (cs,x,h')) :
  ∃(k:Option Nat) (o:XO),(∀id,k=some id->id∈aT v)/\h'=(cO h k).set new o/\∀h2:List XO,(∀id,id∈aT v->h2[id]? =h[id]?)->(∀id,id∈aT u->h2[id]? =h[id]?)->dapp P h2 new tys v u=some (cs,x,(cO h2 k).set new o):=by
 cases v with
 |sO a b c=>exact SB e
 |_=>exact VU e
theorem qB3 {P:Program} {o:Op} {ev:Operand->V} {h h':List XO} {new:Nat} {cs:List Bool} {x:V} (e:dalloc P o ev h new=some (cs,x,h')) :
  ∃post:List (Nat×XO),(∀p,p∈post->p.1∈wids o ev new)/\h'=rI h post/\∀(ev2:Operand->V) (h2:List XO),(∀a,a∈o.operands->ev2 a=ev a)->(∀id,id∈foot o ev->h2[id]? =h[id]?)->dalloc P o ev2 h2 new=some (cs,x,rI h2 post):=by
 unfold dalloc at e;split at e
 ·rename_i t l c
  split at e
  ·rename_i k n k' m hl hm
   obtain⟨o,rfl,q⟩:=qJV e;refine⟨[(new,o)],fun p hp=>by simp at hp;subst hp;simp [wids],rfl,fun ev2 h2 he _=>?_⟩;have e1:=(he l (by simp [Op.operands])).trans hl;have e2:=(he c (by simp [Op.operands])).trans hm;simp only[dalloc,e1,e2];exact q h2
  ·cases e
 ·rename_i s d X
  obtain⟨o,rfl,q⟩:=SG e;refine⟨[(new,o)],fun p hp=>by simp at hp;subst hp;simp [wids],rfl,fun ev2 h2 he _=>?_⟩;simp only[dalloc,he X (by simp [Op.operands])];exact q h2
 ·rename_i c
  obtain⟨callee,args,tys⟩:=c;simp only at e;split at e
  ·rename_i X Y ha
   split at e
   ·rename_i h2s
    obtain⟨k,o',hk,rfl,q⟩:=qM2 e;have mx:X∈args:=by rw[<-Array.mem_toList_iff,ha];simp
    have my:Y∈args:=by rw[<-Array.mem_toList_iff,ha];simp
    have fin:∀(ev2:Operand->V) (h2:List XO),(∀a,a∈(Op.call ⟨.builtin .append,args,tys⟩).operands->ev2 a=ev a)->(∀id,id∈foot (.call ⟨.builtin .append,args,tys⟩) ev->h2[id]? =h[id]?) ->
      dalloc P (.call ⟨.builtin .append,args,tys⟩) ev2 h2 new=some (cs,x,(cO h2 k).set new o'):=by
     intro ev2 h2 he hh;have e1:=he X (by simp [Op.operands,Call.operands,mx]);have e2:=he Y (by simp [Op.operands,Call.operands,my]);simp only[dalloc,ha,if_pos h2s,e1,e2];exact q h2 (fun id hid=>hh id (by simp [foot,ha,hid])) (fun id hid=>hh id (by simp [foot,ha,hid]))
    cases k with
    |none=>exact⟨[(new,o')],fun p hp=>by simp at hp;subst hp;simp [wids],rfl,fin⟩
    |some id=>
     refine⟨[(id,.raw .dead),(new,o')],fun p hp=>?_,rfl,fin⟩;simp only[List.mem_cons,List.not_mem_nil,or_false]at hp;rcases hp with rfl|rfl
     ·simp [wids,ha,hk id rfl]
     ·simp [wids]
   ·cases e
  ·cases e
 ·cases e
theorem AO.congr {P:Program} {op:Op} {ev ev2:Operand->V} {k k':Heap} {new:Nat} {x:V} (he:∀a,a∈op.operands->ev2 a=ev a) (a:AO P op ev k new x k'):AO P op ev2 k new x k':=by
 obtain⟨e,x',h1,h2,h3⟩:=a;classical
 refine⟨fun b=>if b∈op.operands then e b else ev2 b,x',fun b=>?_,h2,?_⟩
 ·by_cases hb:b∈op.operands
  ·simp only[if_pos hb];rw[he b hb];exact h1 b
  ·simp only[if_neg hb];exact⟨LE.refl _,fun _ q=>q⟩
 ·rw[<-h3]
  exact qJB (fun b hb=>by simp [hb]) k new
section
variable {P:Program} {ops:Array Oper}
theorem qRG {i:Nat} {o:Oper} {s:St} {x:V} {h':Heap} (ho:ops[i]? =some o) (hw:awanted ops s.sl o=some true)
  (hos:∀ {ι:Iota} {a:Act} {w:World},SR s ι a w->OS P s.h ι w (execOp a.eval o) (some (x,h'))):WO P ops i s ⟨sput s.sl o.dst x,h'⟩:=by
 intro ι a w K Q r hk;simp only[wpOp,ho];rw[if_pos (fO r hw)];left;unfold Oper.wp;obtain⟨y,w',ι',h1,h2,h3,ev⟩:=hos r x h' rfl;have r':SR ⟨sput s.sl o.dst x,h'⟩ ι' (a.put o.dst y) w':=⟨by rw[gR];exact r.defers,(r.slots.mono ev).put o.dst h2,h3⟩
 rcases h1 with h1|⟨h1,rfl⟩
 ·rw[h1];exact hk _ _ _ r' ev
 ·rw[h1];exact hk _ _ _ r' ev
def QS (P:Program) (fl:Bool) (o:Op) (sl:List V) (h:List XO) (new:Nat) (K:V->List XO->Prop):Prop:=
 match qFK o (aev sl) h with
 |some (b,x,y)=>br b (fV x fun x=>K x h) (fV y fun y=>K y h)
 |none=>match dpure P fl o (aev sl) h with
 |some (cs,x)=>needs cs (fV x fun x=>K x h)
 |none=>match dst P o (aev sl) h with
  |some (cs,x,h')=>needs cs (fH h' fun h'=>K x h')
  |none=>match dalloc P o (aev sl) h new with
   |some (cs,x,h')=>needs cs (fV x fun x=>fH h' fun h'=>K x h')
   |none=>match aop P o (aev sl) (dens h) new with
    |some (x,h')=>match wids o (aev sl) new with
     | []=>fV x fun x=>K x h
     |ws=>fV x fun x=>fH (reb h ws h' 0) fun h'=>K x h'
    |none=>False
def qDB (h:Heap) (F:List Nat):List (Nat×Option HS):=F.map fun id=>(id,h[id]?)
theorem mY {h:Heap} {F:List Nat} {k:Heap} (a:GH (qDB h F) k) (id:Nat) (hid:id∈F):k[id]? =h[id]?:=a (id,h[id]?) (List.mem_map_of_mem hid)
theorem qD9 {o:Oper} {i:Nat} {sl:List V} {h:Heap} {h':Heap} {new:Nat} {x:V} (ho:ops[i]? =some o) (hw:awanted ops sl o=some true) (hn:new<h.length) (a:AO P o.op (aev sl) h new x h') :
  ∃post:List (Nat×HS),(∀p,p∈post->p.1∈wids o.op (aev sl) new)/\h'=bJ h post/\LS P ops i o ⟨sl,qDB h (foot o.op (aev sl)++ [new]),x,post⟩:=by
 obtain⟨post,p1,p2,p3⟩:=a.loc hn;refine⟨post,p1,p2,fun s ag ah=>?_⟩;have he:=pV ag;refine qRG ho (by rw[jR ag];exact hw) (fun r=>?_);exact(AO.congr he (p3 s.h (fun id hid=>mY ah id hid))).os r.heap (fun y=>eG r.slots y)
theorem qQK {fl:Bool} {o:Oper} {i:Nat} {sl:List V} {h:List XO} {new:Nat} {K:V->List XO->Prop} (ho:ops[i]? =some o) (hw:awanted ops sl o=some true) (hn:h[new]? =some (.raw .free)) (hs:QS P fl o.op sl h new K) :
  ∃(x:V) (h':List XO) (post:List (Nat×HS)),K x h'/\(∀p,p∈post->p.1∈wids o.op (aev sl) new)/\dens h'=bJ (dens h) post/\LS P ops i o ⟨sl,qDB (dens h) (foot o.op (aev sl)++ [new]),x,post⟩:=by
 have hlt:new<(dens h).length:=by rw[dM];exact aP hn
 unfold QS at hs;split at hs
 ·rename_i b x y e
  simp only[cN]at hs;obtain⟨h1,h2⟩:=(gV _ _ _).1 hs;obtain⟨post,p1,p2,p3⟩:=qD9 ho hw hlt (XJ (new:=new) e);cases b with
  |true=>exact⟨x,h,post,h1 rfl,p1,p2,p3⟩
  |false=>exact⟨y,h,post,h2 rfl,p1,p2,p3⟩
 split at hs
 ·rename_i cs x e
  obtain⟨hc,hK⟩:=bR hs;rw[cN]at hK;obtain⟨post,p1,p2,p3⟩:=qD9 ho hw hlt (VZ (new:=new) e hc);exact⟨x,h,post,hK,p1,p2,p3⟩
 ·split at hs
  ·rename_i cs x h' e
   obtain⟨hc,hK⟩:=bR hs;rw[eM]at hK;obtain⟨post,p1,p2,p3⟩:=qD9 ho hw hlt (qNJ (new:=new) e hc);exact⟨x,h',post,hK,p1,p2,p3⟩
  ·split at hs
   ·rename_i cs x h' e
    obtain⟨hc,hK⟩:=bR hs;rw[cN,eM]at hK;obtain⟨post,p1,p2,p3⟩:=qB3 e;refine⟨x,h',pden post,hK,fun p hp=>?_,by rw[p2,rU],fun s ag ah=>?_⟩
    ·obtain⟨q,hq,rfl⟩:=List.mem_map.1 hp;exact p1 q hq
    ·have hF:=mY ah
     generalize hh2:ovX (foot o.op (aev sl)++ [new]) h s.h 0=h2;have hden:dens h2=s.h:=by rw[<-hh2];exact vT (fun j hj=>by rw[Nat.zero_add]at hj ⊢;exact hF j hj)
     have hget:∀id,id∈foot o.op (aev sl)++ [new]->h2[id]? =h[id]?:=fun id hid=>by
      have:=vU (F:=foot o.op (aev sl)++ [new]) (h:=h) (k:=s.h) (i:=0) (j:=id) (by rwa [Nat.zero_add]) (by rw[Nat.zero_add];exact hF id hid);rwa [Nat.zero_add,hh2]at this
     have e2:=p3 (aev s.sl) h2 (fun a ha=>pV ag a ha) (fun id hid=>hget id (List.mem_append.2 (.inl hid)));have hn2:h2[new]? =some (.raw .free):=(hget new (by simp)).trans hn;have hw2:awanted ops s.sl o=some true:=by rw[jR ag];exact hw
     have:WO P ops i ⟨s.sl,dens h2⟩ ⟨sput s.sl o.dst x,dens (rI h2 post)⟩:=qRG ho hw2 (fun r=>OT e2 hc hn2 r.heap (fun y=>eG r.slots y));rw[rU,hden]at this;exact this
   ·split at hs
    ·rename_i x h' e
     have hlt:new<(dens h).length:=hlt;obtain⟨post,p1,p2,p3⟩:=qD9 ho hw hlt (AO.of e);split at hs
     ·rename_i hwd
      rw[cN]at hs;rw[hwd]at p1;have hpost:post= []:=by
       cases post with
       |nil=>rfl
       |cons p r=>exact absurd (p1 p (by simp)) (by simp)
      subst hpost;exact⟨x,h,[],hs,(fun p hp=>by cases hp),rfl,p3⟩
     ·rw[cN,eM]at hs
      refine⟨x,_,post,hs,p1,?_,p3⟩;rw[<-p2];refine TS fun j t hj hnw=>?_
      rw[Nat.zero_add]at hnw ⊢;rw[p2,gE post _ (fun p hp q=>hnw (by rw[<-q];exact p1 p hp))]at hj;exact hj
    ·exact hs.elim
end
theorem qLE {f:V->(t:Ty)->Option (List t.den)}:∀ {t:Ty} {cs:List V} {a:t.den} {r:List V},un f t cs=some (a,r)->∃pre,cs=pre++r:=by
 intro t;induction t with
 |pair a b iha ihb=>
  intro cs x r h;simp only[un]at h;split at h
  ·rename_i xa r1 h1
   split at h
   ·rename_i xb r2 h2
    injection h with h;injection h with e1 e2;subst e1 e2;obtain⟨p1,rfl⟩:=iha h1;obtain⟨p2,rfl⟩:=ihb h2;exact⟨p1++p2,by simp⟩
   ·cases h
  ·cases h
 |_=>
  intro cs x r h;cases cs with
  |nil=>simp [un]at h
  |cons c cs=>
   simp only[un]at h;repeat' split at h
   all_goals first|(cases h;done)|(injection h with h;injection h with e1 e2;subst e2;exact⟨[_],rfl⟩)
theorem qBA {f g:V->(t:Ty)->Option (List t.den)}:∀ {t:Ty} {cs:List V},(∀c,c∈cs->∀t,f c t=g c t)->un f t cs=un g t cs:=by
 intro t;induction t with
 |list t _=>
  intro cs h;cases cs with
  |nil=>rfl
  |cons c cs=>simp only[un];rw[h c (by simp) t]
 |pair a b iha ihb=>
  intro cs h;simp only[un];rw[iha h];split
  ·rename_i xa r1 h1
   obtain⟨p,rfl⟩:=qLE h1;rw[ihb (cs:=r1) (fun c hc=>h c (by simp [hc]))]
  ·rfl
 |_=>intro cs h;cases cs<;>rfl
def WN (x:V):List Nat:=match norm x with
 | .agg xs=>xs.flatMap aT
 |y=>aT y
theorem WP {x:V} {id:Nat} (h:id∈aT x):id∈WN x:=by
 cases x with
 |v x=>cases h
 |_=>first|exact h|cases h
theorem qJ4 {x c:V} {t:Ty} {id:Nat} (hc:c∈eT t x) (h:id∈aT c):id∈WN x:=by
 cases t with
 |pair a b=>
  simp only[eT]at hc;split at hc
  ·rename_i xs hx
   simp only[WN,hx];exact List.mem_flatMap.2 ⟨c,hc,h⟩
  ·cases hc
 |_=>simp only[eT,List.mem_singleton]at hc;subst hc;exact WP h
theorem QG {f g:V->(t:Ty)->Option (List t.den)}:∀ {ps:List Ty} {args:List V},(∀v,v∈args->∀t c,c∈eT t v->∀t,f c t=g c t)->rdA f ps args=rdA g ps args
 | [],[],_=>rfl
 | [],_::_,_=>rfl
 |_::_,[],_=>rfl
 |t::ts,v::vs,h=>by
  simp only[rdA];rw[qBA (h v (by simp) t),QG (fun u hu=>h u (by simp [hu]))]
theorem QH {h h2:List XO} {lo:Nat} {t:Ty}:∀ {x:V},(∀id,id∈aT x->h2[id]? =h[id]?)->rdH h2 lo x t=rdH h lo x t
 | .sO id 0 len,hx=>by simp only[rdH];rw[hx id (by simp [aT])]
 | .sO id (n+1) len,hx=>rfl
 | .oL id n,hx=>by simp only[rdH];rw[hx id (by simp [aT])]
 | .v _,_=>rfl
 | .any,_=>rfl
 | .pF _ _,_=>rfl
 | .pO _ _ _,_=>rfl
 | .sF _ _,_=>rfl
 | .agg _,_=>rfl
 | .tup _,_=>rfl
 | .fn _ _ _,_=>rfl
 | .ifc _ _,_=>rfl
 | .sL _ _,_=>rfl
theorem uH {h h2:List XO}:∀ {x:V},(∀id,id∈aT x->h2[id]? =h[id]?)->fT h2 x=fT h x
 | .sO id off len,hx=>by simp only[fT];rw[hx id (by simp [aT])]
 | .oL id n,hx=>by simp only[fT];rw[hx id (by simp [aT])]
 | .v _,_=>rfl
 | .any,_=>rfl
 | .pF _ _,_=>rfl
 | .pO _ _ _,_=>rfl
 | .sF _ _,_=>rfl
 | .agg _,_=>rfl
 | .tup _,_=>rfl
 | .fn _ _ _,_=>rfl
 | .ifc _ _,_=>rfl
 | .sL _ _,_=>rfl
theorem lA {α β:Type} {f g:α->List β}:∀ {l:List α},(∀a,a∈l->f a=g a)->l.flatMap f=l.flatMap g
 | [],_=>rfl
 |a::l,h=>by rw[List.flatMap_cons,List.flatMap_cons,h a (by simp),lA fun b hb=>h b (by simp [hb])]
theorem qCW {h h2:List XO} {args:List V} (hx:∀v,v∈args->∀id,id∈WN v->h2[id]? =h[id]?):lens h2 args=lens h args:=by
 refine lA fun v hv=>?_
 cases v with
 |agg xs=>exact lA fun c hc=>uH fun id hid=>hx _ hv id (List.mem_flatMap.2 ⟨c,hc,hid⟩)
 |_=>exact uH fun id hid=>hx _ hv id (WP hid)
def qD3 (E:Env) (f:FuncId) (args:List V) (h:List XO) (new:Nat) (K:V->List XO->List Nat->List Nat->Prop):Prop:=
 match look E.T f with
 |some (.fn ps pre res)=>(match rdA (cS 8) ps args with
  |some x=>LV pre x (qT ps res x fun r=>fV r.val fun v=>K v h [] [])
  |none=>match rdA (rdH h 0) ps args with
   |some x=>qT ps res x fun r=>(match r.flat with
    |true=>LV pre x (needs (lens h args) (fV r.val fun v=>K v h (args.flatMap WN) []))
    |false=>False)
   |none=>False)
 |some (.meth t e ps pre res post)=>(match args with
  | .pO j 0 0::rest=>match h[j]? with
    |some o=>(match LW t e o,rdA (cS 8) ps rest with
     |some a,some x=>XN pre a x (qT (t::ps) res (a,x) fun r=>fV r.val fun v=>qT (t::ps) post (a,x) fun b=>kV h j (.ob t b e) fun h=>K v h [j] [j])
     |_,_=>False)
    |_=>False
  |_=>False)
 |some (.new t e ps pre post)=>(match rdA (cS 8) ps args with
  |some x=>LV pre x (qT ps post x fun b=>match h[new]? with
   |some (.raw .free)=>kV h new (.ob t b e) fun h=>K (.pO new 0 0) h [new] [new]
   |_=>False)
  |none=>False)
 |some (.rd t ps pre res)=>(match args with
  | .pO j 0 0::rest=>(match h[j]? with
    |some o=>(match AK h t o,rdA (cS 8) ps rest with
     |some (a,row),some x=>qT (t::ps) res (a,x) fun r=>(match r.flat with
      |true=>XN pre a x (needs (row.flatMap (fT h)) (fV r.val fun v=>K v h (j::row.flatMap aT) []))
      |false=>False)
     |_,_=>False)
    |none=>False)
  | .pF row 0::rest=>(match un (cS 8) t row,rdA (cS 8) ps rest with
    |some (a,[]),some x=>XN pre a x (qT (t::ps) res (a,x) fun r=>fV r.val fun v=>K v h [] [])
    |_,_=>False)
  |_=>False)
 |some (.bld wr e eb)=>(match wr,args with
  |true,.pO i 0 0::rest=>(match rest with
   | .v (.string s)::rest2=>(match rest2 with
     | []=>(match pX e eb h i,h[new]? with
       |some (_,cs,j,l),some (.raw .free)=>needs cs (need (decide (l.length+s.size<=1099511627776)) (kV h i (GM eb i new (l++aU s).length) fun h=>qOE j h fun h=>kV h new (.opt (.int .u8) (l++aU s) e) fun h=>K (wrR s.size) h (new::i::jY j []) (new::i::jY j [])))
       |_,_=>False)
     |_=>False)
   |_=>False)
  |false,.pO i 0 0::rest=>(match rest with
   | []=>(match pX e eb h i with
     |some (_,cs,j,l)=>needs cs (need (decide (l.length<=2199023255552)) (kV h i (.raw .dead) fun h=>qOE j h fun h=>K (.v (.string (bH l))) h (i::jY j []) (i::jY j [])))
     |none=>False)
   |_=>False)
  |_,_=>False)
 |_=>False
theorem CY {e eb:TypeId} {h h2:List XO} {i:Nat} {b:Bool} {cs:List Bool} {j:Option Nat} {l:List Int} (hr:pX e eb h i=some (b,cs,j,l)) (hi:h2[i]? =h[i]?) (hj:∀k,j=some k->h2[k]? =h[k]?):pX e eb h2 i=some (b,cs,j,l):=by
 unfold pX at hr ⊢;rw[hi];split at hr
 ·rename_i o ho
  split at hr
  ·rename_i c0 c1 hrow
   split at hr
   ·rename_i b' hb hz
    split at hr
    ·rename_i j' n
     split at hr
     ·rename_i t l' e' hj'
      split at hr
      ·rename_i l'' hl he
       injection hr with hr;injection hr with e1 hr;injection hr with e2 hr;injection hr with e3 e4;subst e1 e2 e3 e4;simp only[hrow,hb,hz,hj _ rfl,hj',hl,he]
      ·cases hr
     ·cases hr
    ·simp only[hrow,hb,hz,hr]
    ·cases hr
   ·cases hr
  ·cases hr
 ·cases hr
section
variable {ops:Array Oper}
theorem qLL {E:Env} (hT:aD E.P E.T) {f:FuncId} {args:List V} {o:Oper} {i new:Nat} {sl:List V} {h:List XO} {K:V->List XO->List Nat->List Nat->Prop} (ho:ops[i]? =some o) (hw:awanted ops sl o=some true)
  (hcall:lU E.P sl o.op=some (f,args)) (hs:qD3 E f args h new K) :
  ∃(x:V) (h':List XO) (F W:List Nat) (post:List (Nat×HS)),K x h' F W/\(∀p,p∈post->p.1∈W)/\dens h'=bJ (dens h) post/\LS E.P ops i o ⟨sl,qDB (dens h) F,x,post⟩/\h'.length=h.length/\∀j,¬j∈W->h'[j]? =h[j]?:=by
 have hcl:callable E.P f=true:=by
  unfold lU at hcall;repeat' split at hcall
  all_goals first|(cases hcall;done)|skip
  injection hcall with hcall;injection hcall with q _;subst q;assumption
 have hop:∀s:St,BK ops o sl s.sl->lU E.P s.sl o.op=some (f,args)/\awanted ops s.sl o=some true:=fun s ag=>⟨by rw[RU (pV ag)];exact hcall,by rw[jR ag];exact hw⟩
 unfold qD3 at hs;split at hs
 ·rename_i ps pre res hl
  have hc:=hT _ _ hl;split at hs
  ·rename_i x hx
   obtain⟨hp,hs⟩:=kO hs;rw[eO,cN]at hs;refine⟨(cu ps res x).val,h,[],[],[],hs,(fun p hp=>by cases hp),rfl,fun s ag _=>?_,rfl,fun _ _=>rfl⟩;obtain⟨h1,h2⟩:=hop s ag;exact qI ho h2 h1 hcl (PC.args_LE (qO hx) ((hc x hp).2 s.h (fun _ q=>by cases q)))
  ·split at hs
   ·rename_i x hx
    rw[eO]at hs;split at hs
    ·rename_i hfl
     obtain⟨hp,hs⟩:=kO hs;obtain⟨hcs,hs⟩:=bR hs;rw[cN]at hs;refine⟨(cu ps res x).val,h,_,[],[],hs,(fun p hp=>by cases hp),rfl,fun s ag ah=>?_,rfl,fun _ _=>rfl⟩;obtain⟨h1,h2⟩:=hop s ag;have hF:=mY ah;generalize hh2:ovX (args.flatMap WN) h s.h 0=hh;have hden:dens hh=s.h:=by rw[<-hh2];exact vT (fun j hj=>by rw[Nat.zero_add]at hj ⊢;exact hF j hj)
     have hget:∀id,id∈args.flatMap WN->hh[id]? =h[id]?:=fun id hid=>by
      have:=vU (F:=args.flatMap WN) (h:=h) (k:=s.h) (i:=0) (j:=id) (by rwa [Nat.zero_add]) (by rw[Nat.zero_add];exact hF id hid);rwa [Nat.zero_add,hh2]at this
     have hr:rdA (rdH hh 0) ps args=some x:=by
      rw[<-hx];exact QG fun v hv t c hc t'=>QH fun id hid=>hget id (List.mem_flatMap.2 ⟨v,hv,qJ4 hc hid⟩)
     have hl2:dJ (lens hh args):=by
      rw[qCW fun v hv id hid=>hget id (List.mem_flatMap.2 ⟨v,hv,hid⟩)];exact hcs
     have:=PC.read hfl (hc x hp) (qFS hr hl2);rw[hden]at this;exact qI ho h2 h1 hcl this
    ·exact hs.elim
   ·exact hs.elim
 ·rename_i t e ps pre res post hl
  have hc:=hT _ _ hl;split at hs
  ·rename_i j rest
   split at hs
   ·rename_i xo hob
    split at hs
    ·rename_i a x ha hx
     obtain⟨hp,hs⟩:=oM hs;rw[eO,cN,eO,cP]at hs;obtain⟨ob,o1,o2,o3,o4,o5⟩:=FT ha;refine⟨_,_,[j],[j],[(j,TK t e (cu ps (post a) x))],hs,(fun p hp=>by simp at hp;subst hp;simp),by rw[bG];rfl,fun s ag ah=>?_,by simp,fun i hi=>List.getElem?_set_ne (fun q=>hi (by simp [q]))⟩;obtain⟨h1,h2⟩:=hop s ag;have hd:s.h[j]? =some (.live ob):=by rw[mY ah j (by simp),aO,hob];simp [o1]
     have hlt:=aP hd;refine qI ho h2 h1 hcl (PC.pre (h':=s.h.set j (TK t e a)) (fun{ι w} H=>H.weakObj hd o2.symm o3.symm o4 o5) ?_);refine PC.args_LE (LEs.cons (LE.refl _) (qO hx)) (PC.mono ((hc a x hp j).2 _ (fun p hp=>?_)) ?_)
     ·simp at hp;subst hp;rw[List.getElem?_set_self hlt]
     ·rintro y k ⟨rfl,rfl⟩
      exact⟨rfl,by simp [bJ]⟩
    ·exact hs.elim
   ·exact hs.elim
  ·exact hs.elim
 ·rename_i t e ps pre post hl
  have hc:=hT _ _ hl;split at hs
  ·rename_i x hx
   obtain⟨hp,hs⟩:=kO hs;rw[eO]at hs;split at hs
   ·rename_i hfree
    rw[cP]at hs;have hlt:=aP hfree;refine⟨_,_,[new],[new],[(new,.live ⟨t.size,[t.row (cu ps post x)],e⟩)],hs,(fun p hp=>by simp at hp;subst hp;simp),by rw[bG];rfl,fun s ag ah=>?_,by simp,fun i hi=>List.getElem?_set_ne (fun q=>hi (by simp [q]))⟩;obtain⟨h1,h2⟩:=hop s ag;have hd:s.h[new]? =some .free:=by rw[mY ah new (by simp),aO,hfree];rfl
    refine qI ho h2 h1 hcl (PC.args_LE (qO hx) (PC.mono (hc x hp s.h new _ (fQ hd)) ?_));rintro y k ⟨rfl,rfl⟩;exact⟨rfl,by simp [bJ]⟩
   ·exact hs.elim
  ·exact hs.elim
 ·rename_i t ps pre res hl
  have hc:=hT _ _ hl;split at hs
  ·rename_i j rest
   split at hs
   ·rename_i xo hob
    split at hs
    ·rename_i a row x ha hx
     rw[eO]at hs;split at hs
     ·rename_i hfl
      obtain⟨hp,hs⟩:=oM hs;obtain⟨hcs,hs⟩:=bR hs;rw[cN]at hs;refine⟨_,h,j::row.flatMap aT,[],[],hs,(fun p hp=>by cases hp),rfl,fun s ag ah=>?_,rfl,fun _ _=>rfl⟩;obtain⟨h1,h2⟩:=hop s ag;have hF:=mY ah;generalize hh2:ovX (j::row.flatMap aT) h s.h 0=hh;have hden:dens hh=s.h:=by rw[<-hh2];exact vT (fun i hi=>by rw[Nat.zero_add]at hi ⊢;exact hF i hi)
      have hget:∀id,id∈j::row.flatMap aT->hh[id]? =h[id]?:=fun id hid=>by
       have:=vU (F:=j::row.flatMap aT) (h:=h) (k:=s.h) (i:=0) (j:=id) (by rwa [Nat.zero_add]) (by rw[Nat.zero_add];exact hF id hid);rwa [Nat.zero_add,hh2]at this
      have hcell:∀c,c∈row->∀id,id∈aT c->hh[id]? =h[id]?:=fun c hc id hid=>hget id (List.mem_cons_of_mem _ (List.mem_flatMap.2 ⟨c,hc,hid⟩))
      have ha2:AK hh t xo=some (a,row):=by
       obtain⟨ob,b1,b2,b3,b4⟩:=qPK ha;exact qPJ b1 b2 b3 (by rw[<-b4];exact qBA (fun c hc t=>QH (fun id hid=>hcell c hc id hid)))
      have hcs2:dJ (row.flatMap (fT hh)):=by
       rw[lA (fun c hc=>uH (fun id hid=>hcell c hc id hid))];exact hcs
      have hra:Pairs (fun a b=>RA (dens hh) a b) (.pO j 0 0::rest) (.pF (t.row a) 0::vals ps x):=by
       have h1:=qO hx;refine⟨by simp [h1.1],fun i y z hy hz=>?_⟩;cases i with
       |zero=>simp at hy hz;subst hy hz;exact XU ((hget j (by simp)).trans hob) ha2 hcs2
       |succ i=>
        simp at hy hz;exact fun w ι v H r=>(h1.2 i y z hy hz r).free (fun b q=>.inl (zY q)) (qBH 0 ps x z (cK hz))
      have:=PC.read hfl (hc a x hp) hra;rw[hden]at this;exact qI ho h2 h1 hcl this
     ·exact hs.elim
    ·exact hs.elim
   ·exact hs.elim
  ·rename_i row rest
   split at hs
   ·rename_i a x ha hx
    obtain⟨hp,hs⟩:=oM hs;rw[eO,cN]at hs;refine⟨_,h,[],[],[],hs,(fun p hp=>by cases hp),rfl,fun s ag _=>?_,rfl,fun _ _=>rfl⟩;obtain⟨h1,h2⟩:=hop s ag;exact qI ho h2 h1 hcl (PC.args_LE (LEs.cons (LE.pF (nO (R:=fun a b=>LE a b) (fM 8) (fun _=>LE.refl _) ha)) (qO hx)) ((hc a x hp).2 s.h (fun _ q=>by cases q)))
   ·exact hs.elim
  ·exact hs.elim
 ·rename_i wr e eb hl
  have hc:=hT _ _ hl;have mj:∀ {j:Option Nat} {k:Nat},j=some k->k∈jY j []:=fun{j k} q=>by subst q;exact List.mem_cons_self ..
  have get:∀ {F:List Nat} {s:St},GH (qDB (dens h) F) s.h->∃hh:List XO,dens hh=s.h/\∀id,id∈F->hh[id]? =h[id]?:=fun{F s} ah=>by
   have hF:=mY ah;refine⟨ovX F h s.h 0,vT (fun i hi=>by rw[Nat.zero_add]at hi ⊢;exact hF i hi),fun id hid=>?_⟩;have:=vU (F:=F) (h:=h) (k:=s.h) (i:=0) (j:=id) (by rwa [Nat.zero_add]) (by rw[Nat.zero_add];exact hF id hid);rwa [Nat.zero_add]at this
  split at hs
  ·rename_i i rest
   split at hs
   ·rename_i s0 rest2
    split at hs
    ·split at hs
     ·rename_i b cs j l hr hfree
      obtain⟨hcs,hs⟩:=bR hs;obtain⟨hn,hs⟩:=(fW _ _).1 hs;rw[cP,FP,cP]at hs;refine⟨_,_,_,_,((i,(GM eb i new (l++aU s0).length).den)::(match j with|some k=>[(k,HS.dead)]|none=>[]))++ [(new,(XO.opt (.int .u8) (l++aU s0) e).den)],hs,fun p hp=>?_,?_,fun s ag ah=>?_,by simp [fR],fun x hx=>?_⟩
      ·simp only[List.mem_append,List.mem_cons,List.not_mem_nil,or_false]at hp
       rcases hp with(rfl|hp)|rfl
       ·simp
       ·cases j with
        |none=>cases hp
        |some k=>simp at hp;subst hp;simp [jY]
       ·simp
      ·cases j<;>simp [cO,bG,bJ,XO.den]
      ·obtain⟨h1,h2⟩:=hop s ag
       obtain⟨hh,hden,hget⟩:=get ah;have hr2:=CY hr (hget i (by simp)) (fun k q=>hget k (List.mem_cons_of_mem _ (List.mem_cons_of_mem _ (mj q))));have hcall:=hc hh i new s0 b cs j l hr2 hcs (of_decide_eq_true hn) ((hget new (by simp)).trans hfree);rw[hden]at hcall;refine qI ho h2 h1 hcl (PC.mono hcall ?_);rintro y k ⟨rfl,rfl⟩;refine⟨rfl,?_⟩;rw[<-hden];cases j<;>simp [cO,bG,bJ,XO.den]
      ·simp only[List.mem_cons,not_or]at hx
       rw[List.getElem?_set_ne (Ne.symm hx.1),oK (fun y hy q=>hx.2.2 (by rw[<-q];exact mj hy)),List.getElem?_set_ne (Ne.symm hx.2.1)]
     ·exact hs.elim
    ·exact hs.elim
   ·exact hs.elim
  ·rename_i i rest
   split at hs
   ·split at hs
    ·rename_i b cs j l hr
     obtain⟨hcs,hs⟩:=bR hs;obtain⟨hn,hs⟩:=(fW _ _).1 hs;rw[cP,FP]at hs;refine⟨_,_,_,_,(i,HS.dead)::(match j with|some k=>[(k,HS.dead)]|none=>[]),hs,fun p hp=>?_,?_,fun s ag ah=>?_,by simp [fR],fun x hx=>?_⟩
     ·simp only[List.mem_cons]at hp
      rcases hp with rfl|hp
      ·simp
      ·cases j with
       |none=>cases hp
       |some k=>simp at hp;subst hp;simp [jY]
     ·cases j<;>simp [cO,bG,bJ,XO.den]
     ·obtain⟨h1,h2⟩:=hop s ag
      obtain⟨hh,hden,hget⟩:=get ah;have hr2:=CY hr (hget i (by simp)) (fun k q=>hget k (List.mem_cons_of_mem _ (mj q)));have hcall:=hc hh i b cs j l hr2 hcs (of_decide_eq_true hn);rw[hden]at hcall;refine qI ho h2 h1 hcl (PC.mono hcall ?_);rintro y k ⟨rfl,rfl⟩;refine⟨rfl,?_⟩;rw[<-hden];cases j<;>simp [cO,bG,bJ,XO.den]
     ·simp only[List.mem_cons,not_or]at hx
      rw[oK (fun y hy q=>hx.2 (by rw[<-q];exact mj hy)),List.getElem?_set_ne (Ne.symm hx.1)]
    ·exact hs.elim
   ·exact hs.elim
  ·exact hs.elim
 ·exact hs.elim
def qaC (T:Tbl) (f:FuncId):Bool:=match look T f with
 |some (.new _ _ _ _ _)=>true
 |some (.bld true _ _)=>true
 |_=>false
def qE2 (T:Tbl):Op->Bool
 | .alloc _=>true
 | .box _ _=>true
 | .buildSlice _ _ _=>true
 | .makeSlice _ _ _=>true
 | .convert _ _ _=>true
 | .call c=>match c.callee with
   | .builtin .append=>true
   | .value (.func f)=>qaC T f
   |_=>false
 |_=>false
def sE (T:Tbl):List Oper->Nat
 | []=>0
 |o::l=>match qE2 T o.op with
  |true=>sE T l+1
  |false=>sE T l
def UG (E:Env) (fl:Bool) (o:Oper) (new:Nat) (s:Y) (K:Y->List Nat×List Nat->Prop):Prop:=
 match s with
 |⟨sl,h,tch,an⟩=>match lU E.P sl o.op with
  |some (f,args)=>qD3 E f args h new fun x h' F W=>TO sl o.dst x fun sl=>K ⟨sl,h',W++tch,an⟩ (F,W)
  |none=>match WC E.P o.op sl h with
  |some (cs,j,id,oj')=>needs cs (kV h id (.raw .dead) fun h=>fX oj' fun oj'=>kV h j oj' fun h=>TO sl o.dst .any fun sl=>K ⟨sl,h,j::id::tch,an⟩ ([j,id],[j,id]))
  |none=>match h[new]? with
   |some (.raw .free)=>QS E.P fl o.op sl h new fun x h'=>TO sl o.dst x fun sl'=>qUX o.op sl new tch fun tch=>K ⟨sl',h',tch,an⟩ (foot o.op (aev sl)++ [new],wids o.op (aev sl) new)
   |_=>False
def xdrw (E:Env) (ops:Array Oper) (rid base tot:Nat):List Oper->Nat->Nat->Y->(Y->List (List Nat×List Nat)->Prop)->Prop
 | [],_,_,s,K=>K s []
 |o::l,i,cnt,s,K=>gd ops o s (fun s=>match qE2 E.T o.op with
   |true=>fN (base+cnt) fun new=>UG E (flips E.flip E.fid rid i) o new s fun s' f=>xdrw E ops rid base tot l (i+1) (cnt+1) s' fun s2 fs=>K s2 (f::fs)
   |false=>fN (base+tot) fun new=>UG E (flips E.flip E.fid rid i) o new s fun s' f=>xdrw E ops rid base tot l (i+1) cnt s' fun s2 fs=>K s2 (f::fs))
   (fun s=>match s with|⟨sl,h,tch,an⟩=>TO sl o.dst (.v undef) fun sl=>xdrw E ops rid base tot l (i+1) cnt ⟨sl,h,tch,an⟩ fun s2 fs=>K s2 (([],[])::fs))
def qIZ (P:Program) (ops:Array Oper):Nat->List Dat->St->St->Prop
 |_,[],s,s'=>s=s'
 |i,d::ds,s,s'=>∃s1,AS P ops (fun _=>d) i s s1/\qIZ P ops (i+1) ds s1 s'
def InF (d:Dat) (f:List Nat×List Nat):Prop:=(∀p,p∈d.pre->p.1∈f.1)/\∀p,p∈d.post->p.1∈f.2
theorem CV (o:Oper) (sl:List V):BK ops o sl sl:=fun _ _=>rfl
theorem UN (h:Heap) (F:List Nat):GH (qDB h F) h:=fun p hp=>by
 obtain⟨id,_,rfl⟩:=List.mem_map.1 hp;rfl
theorem qQJ {P:Program} {fl:Bool} {o:Op} {sl:List V} {h:List XO} {new:Nat} {K:V->List XO->Prop} (hn:new<h.length) (hs:QS P fl o sl h new K) :
  QS P fl o sl h new fun x h'=>K x h'/\h'.length=h.length/\∀j,¬j∈wids o (aev sl) new->h'[j]? =h[j]?:=by
 have nd:∀ {cs:List Bool} {A B:Prop},(A->B)->needs cs A->needs cs B:=by
  intro cs A B hab;induction cs with
  |nil=>exact hab
  |cons c cs ih=>intro q;exact(fW c _).2 ⟨((fW c _).1 q).1,ih ((fW c _).1 q).2⟩
 unfold QS at hs ⊢;split
 ·rename_i b x y e
  simp only[e,cN]at hs ⊢;obtain⟨h1,h2⟩:=(gV _ _ _).1 hs;exact(gV _ _ _).2 ⟨fun q=>⟨h1 q,trivial,fun _ _=>trivial⟩,fun q=>⟨h2 q,trivial,fun _ _=>trivial⟩⟩
 rename_i e0;simp only[e0]at hs;split
 ·rename_i cs x e
  simp only[e,cN]at hs ⊢;exact nd (fun q=>⟨q,trivial,fun _ _=>trivial⟩) hs
 ·rename_i e
  simp only[e]at hs;split
  ·rename_i cs x h' e2
   rw[e2]at hs;refine nd (fun q=>?_) hs;rw[eM]at q ⊢;obtain⟨g1,g2⟩:=qNI (new:=new) e2;exact⟨q,g1.symm,g2⟩
  ·rename_i e2
   simp only[e2]at hs;split
   ·rename_i cs x h' e3
    rw[e3]at hs;refine nd (fun q=>?_) hs;rw[cN,eM]at q ⊢;obtain⟨g1,g2⟩:=OR e3;exact⟨q,g1.symm,g2⟩
   ·rename_i e3
    simp only[e3]at hs;split
    ·rename_i x h' e4
     rw[e4]at hs;simp only at hs;split
     ·rename_i e5
      rw[e5]at hs;rw[cN]at hs ⊢;exact⟨hs,rfl,fun _ _=>rfl⟩
     ·rename_i e5
      have h2:fV x fun x=>fH (reb h (wids o (aev sl) new) h' 0) fun h'=>K x h':=by
       revert hs;split
       ·rename_i e6;exact absurd e6 e5
       ·exact fun h=>h
      rw[cN,eM]at h2;rw[cN,eM];have hlt:new<(dens h).length:=by rw[dM];exact hn
      obtain⟨post,p1,p2,_⟩:=(AO.of e4).loc hlt;have hl:h'.length=h.length:=by rw[p2,lJ];simp [dens]
      refine⟨h2,by rw[FU,hl],fun j hj=>?_⟩;rcases Nat.lt_or_ge j h.length with q|q
      ·rw[TT (by omega) (by rwa [Nat.zero_add]) (by omega),Nat.zero_add]
      ·rw[List.getElem?_eq_none (by rw[FU,hl];exact q),List.getElem?_eq_none q]
    ·rename_i e4
     rw[e4]at hs;exact hs.elim
theorem qB8 {P:Program} {o:Op} {sl sl2:List V} {h h2:List XO} {cs:List Bool} {j id:Nat} {oj':XO} (e:WC P o sl h=some (cs,j,id,oj')) (he:∀a,a∈o.operands->aev sl2 a=aev sl a) (hj:h2[j]? =h[j]?) (hid:h2[id]? =h[id]?):WC P o sl2 h2=WC P o sl h:=by
 cases o with
 |store t p x=>
  have e1:=he p (by simp [Op.operands]);have e2:=he x (by simp [Op.operands]);simp only[WC,e1,e2]at e ⊢;split at e
  ·split at e
   ·split at e
    ·split at e
     ·cases e
     ·injection e with e;injection e with _ e;injection e with a1 e;injection e with a2 _;subst a1 a2
      rw[hj,hid];simp_all
    ·cases e
   ·cases e
  ·cases e
 |_=>cases e
theorem RE {E:Env} (hT:aD E.P E.T) {fl:Bool} {o:Oper} {i new:Nat} {s:Y} {W:List Nat} {K:Y->List Nat×List Nat->Prop} (ho:ops[i]? =some o) (hw:awanted ops s.sl o=some true) (hW:∀d,o.dst=some d->d∈W) (hs:UG E fl o new s K) :
  ∃(s':Y) (d:Dat) (f:List Nat×List Nat),K s' f/\InF d f/\AS E.P ops (fun _=>d) i s.den s'.den/\FrW W s s':=by
 obtain⟨sl,h,tch,an⟩:=s;simp only[UG]at hs;have fin:∀(x:V) (h':List XO) (F U tch':List Nat) (post:List (Nat×HS)),K ⟨sput sl o.dst x,h',tch',an⟩ (F,U)->(∀p,p∈post->p.1∈U)->dens h'=bJ (dens h) post->LS E.P ops i o ⟨sl,qDB (dens h) F,x,post⟩->h'.length=h.length->(∀j,¬j∈U->h'[j]? =h[j]?)->tch'=U++tch ->
   ∃(s':Y) (d:Dat) (f:List Nat×List Nat),K s' f/\InF d f/\AS E.P ops (fun _=>d) i (Y.den ⟨sl,h,tch,an⟩) s'.den/\FrW W ⟨sl,h,tch,an⟩ s':=by
  rintro x h' F U tch' post h1 h2 h3 h4 h5 h6 rfl;refine⟨⟨sput sl o.dst x,h',U++tch,an⟩,_,(F,U),h1,⟨fun p hp=>?_,h2⟩,⟨o,ho,CV o sl,UN _ _,?_,h4⟩,⟨⟨Nat.le_of_eq h5.symm,fun j hj=>List.mem_append.2 (.inr hj),fun j hj hn=>h6 j (fun q=>hn (List.mem_append.2 (.inl q)))⟩,KR _ _ _,fun j hj=>KQ (fun k hk q=>hj (q ▸ hW k hk))⟩⟩
  ·obtain⟨id,hid,rfl⟩:=List.mem_map.1 hp;exact hid
  ·simp only[Y.den,h3]
 split at hs
 ·rename_i f args hcall
  obtain⟨x,h',F,U,post,h1,h2,h3,h4,h5,h6⟩:=qLL hT ho hw hcall hs;rw[sK]at h1;exact fin x h' F U _ post h1 h2 h3 h4 h5 h6 rfl
 ·split at hs
  ·rename_i cs j id oj' e
   obtain⟨hcs,hs⟩:=bR hs;rw[cP,qNQ,cP,sK]at hs;refine fin .any _ [j,id] [j,id] _ [(id,.dead),(j,oj'.den)] hs (fun p hp=>?_) (by rw[bG,bG];rfl) (fun s ag ah=>?_) (by simp) (fun i hi=>?_) rfl
   ·simp only[List.mem_cons,List.not_mem_nil,or_false]at hp ⊢
    rcases hp with rfl|rfl
    ·exact .inr rfl
    ·exact .inl rfl
   ·have hF:=mY ah
    generalize hh2:ovX [j,id] h s.h 0=hh;have hden:dens hh=s.h:=by rw[<-hh2];exact vT (fun i hi=>by rw[Nat.zero_add]at hi ⊢;exact hF i hi)
    have hget:∀i,i∈ [j,id]->hh[i]? =h[i]?:=fun i hi=>by
     have:=vU (F:=[j,id]) (h:=h) (k:=s.h) (i:=0) (j:=i) (by rwa [Nat.zero_add]) (by rw[Nat.zero_add];exact hF i hi);rwa [Nat.zero_add,hh2]at this
    have e2:WC E.P o.op s.sl hh=some (cs,j,id,oj'):=by
     rw[<-e];exact qB8 e (pV ag) (hget j (by simp)) (hget id (by simp))
    have:WO E.P ops i ⟨s.sl,dens hh⟩ ⟨sput s.sl o.dst .any,dens ((hh.set id (.raw .dead)).set j oj')⟩:=qRG ho (by rw[jR ag];exact hw) (fun r=>qSH e2 hcs r);rw[bG,bG,hden]at this;exact this
   ·simp only[List.mem_cons,List.not_mem_nil,or_false,not_or]at hi
    rw[List.getElem?_set_ne (Ne.symm hi.1),List.getElem?_set_ne (Ne.symm hi.2)]
  split at hs
  ·rename_i hfree
   obtain⟨x,h',post,⟨h1,h5,h6⟩,h2,h3,h4⟩:=qQK ho hw hfree (qQJ (aP hfree) hs);rw[sK,qIK]at h1;exact fin x h' _ _ _ post h1 h2 h3 h4 h5 h6 rfl
  ·exact hs.elim
theorem qIS {E:Env} (hT:aD E.P E.T) {rid base tot:Nat} {W:List Nat}:∀(l:List Oper) (i cnt:Nat) (s:Y) (K:Y->List (List Nat×List Nat)->Prop),(∀(j:Nat) (o:Oper),l[j]? =some o->ops[i+j]? =some o)->(∀o,o∈l->∀d,o.dst=some d->d∈W)->xdrw E ops rid base tot l i cnt s K ->
  ∃(ds:List Dat) (fs:List (List Nat×List Nat)) (s':Y),ds.length=l.length/\(∀(m:Nat) (d:Dat),ds[m]? =some d->∃f,fs[m]? =some f/\InF d f)/\qIZ E.P ops i ds s.den s'.den/\K s' fs/\FrW W s s'
 | [],i,cnt,s,K,_,_,h=>⟨[],[],s,rfl,fun m d h=>by simp at h,rfl,h,FrW.refl _ _⟩
 |o::l,i,cnt,s,K,hops,hW,h=>by
  have ho:ops[i]? =some o:=by simpa using hops 0 o (by simp)
  have hops':∀(j:Nat) (o':Oper),l[j]? =some o'->ops[i+1+j]? =some o':=fun j o' hj=>by
   have:=hops (j+1) o' (by simpa using hj);rwa [show i+(j+1)=i+1+j by omega]at this
  have hW':∀o,o∈l->∀d,o.dst=some d->d∈W:=fun o' h'=>hW o' (List.mem_cons_of_mem _ h')
  have fin:∀(s1:Y) (d:Dat) (f:List Nat×List Nat) (cnt':Nat),InF d f->AS E.P ops (fun _=>d) i s.den s1.den->FrW W s s1->xdrw E ops rid base tot l (i+1) cnt' s1 (fun s2 fs=>K s2 (f::fs)) ->
    ∃(ds:List Dat) (fs:List (List Nat×List Nat)) (s':Y),ds.length=(o::l).length/\(∀(m:Nat) (d:Dat),ds[m]? =some d->∃f,fs[m]? =some f/\InF d f)/\qIZ E.P ops i ds s.den s'.den/\K s' fs/\FrW W s s':=by
   intro s1 d f cnt' h1 h2 h3 h4;obtain⟨ds,fs,s',g1,g2,g3,g4,g5⟩:=qIS hT l (i+1) cnt' s1 _ hops' hW' h4;refine⟨d::ds,f::fs,s',by simp [g1],fun m e he=>?_,⟨s1.den,h2,g3⟩,g4,h3.trans g5⟩;cases m with
   |zero=>simp at he;subst he;exact⟨f,rfl,h1⟩
   |succ m=>simpa using g2 m e (by simpa using he)
  rcases qEV h with⟨hw,hr⟩|⟨hw,hr⟩
  ·split at hr
   ·rw[jL]at hr
    obtain⟨s1,d,f,h1,h2,h3,h4⟩:=RE hT ho hw (hW o (by simp)) hr;exact fin s1 d f _ h2 h3 h4 h1
   ·rw[jL]at hr
    obtain⟨s1,d,f,h1,h2,h3,h4⟩:=RE hT ho hw (hW o (by simp)) hr;exact fin s1 d f _ h2 h3 h4 h1
  ·obtain⟨sl,hp,tch,an⟩:=s
   simp only at hr;rw[sK]at hr;refine fin ⟨sput sl o.dst (.v undef),hp,tch,an⟩ ⟨sl,[],.v undef,[]⟩ ([],[]) cnt ⟨fun p hp=>(by cases hp),fun p hp=>(by cases hp)⟩ ⟨o,ho,CV o sl,fun p hp=>(by cases hp),rfl,fun s ag _=>?_⟩ ⟨⟨Nat.le_refl _,fun _ h=>h,fun _ _ _=>rfl⟩,KR _ _ _,fun j hj=>KQ (fun k hk q=>hj (q ▸ hW o (by simp) k hk))⟩ hr;exact qdB ho (by rw[jR ag];exact hw)
end
theorem PY:∀ {l:List Nat},TE l=true->l.Nodup
 | [],_=>List.nodup_nil
 |x::xs,h=>by
  simp only[TE,Bool.and_eq_true,Bool.not_eq_true',List.contains_eq_mem,decide_eq_false_iff_not]at h;exact List.nodup_cons.2 ⟨h.1,PY h.2⟩
theorem qJ3 {n:Nat} {σ:List Nat} (h:qN3 n σ=true) (j:Nat) (hj:j<n):σ[j]? =some j:=by
 have:=List.all_eq_true.1 h j (by simpa using hj);simpa using this
theorem qY5 {t:Ty} {v:V} {a:t.den} (h:un (cS 8) t (eT t v)=some (a,[])):LE v (t.val a):=
 RO (R:=fun a b=>LE a b) (R':=fun a b=>LE a b) (fM 8) (fun _=>LE.refl _) (fun _ _ h=>h) LE.norm_agg h
theorem cJ.val {σ:List Nat} {t:Ty} {v:V} {a:t.den} (h:un (cS 8) t (eT t v)=some (a,[])):cJ σ v (t.val a):=cJ.tree (qY5 h) (Ty.ni_val 0 t a)
theorem pE {R:V->V->Prop} {xs:List V} (h:∀x,x∈xs->R x x):Pairs R xs xs:=
 ⟨rfl,fun i x y h1 h2=>by rw[h1]at h2;injection h2 with h2;subst h2;exact h x (cK h1)⟩
theorem qB {σ:List Nat}:∀ {n:Nat} {x:V},JH σ n x=true->cJ σ x x
 |0,x,h=>by simp [JH]at h
 |n+1,x,h=>by
  have fi:∀ {id:Nat},qCE σ id=true->σ[id]? =some id:=fun{id} q=>by simpa [qCE]using q
  cases x with
  |v x=>exact cJ.tree (LE.refl _) (.v _)
  |any=>exact cJ.any _ _
  |pO id r o=>exact cJ.pO r o (fi h)
  |sO id o l=>exact cJ.sO o l (fi h)
  |oL id l=>exact cJ.oL l (fi h)
  |sL t l=>exact cJ.tree (LE.refl _) (.sL _ _)
  |agg xs=>exact cJ.agg (pE fun x hx=>qB (List.all_eq_true.1 h x hx))
  |tup xs=>exact cJ.tup (pE fun x hx=>qB (List.all_eq_true.1 h x hx))
  |fn f a b=>
   simp only[JH,Bool.and_eq_true]at h;exact cJ.fn (pE fun x hx=>qB (List.all_eq_true.1 h.1 x hx)) (pE fun x hx=>qB (List.all_eq_true.1 h.2 x hx))
  |ifc t x=>exact cJ.ifc (qB (n:=n) h)
  |pF r o=>exact cJ.tree (LE.refl _) (.pF o fun x hx=>CD (List.all_eq_true.1 h x hx))
  |sF s r=>exact cJ.tree (LE.refl _) (.sF s fun r hr x hx=>CD (List.all_eq_true.1 (List.all_eq_true.1 h r hr) x hx))
theorem RenL.self {σ:List Nat} {o:AObj} (h:∀r,r∈o.rows->∀x,x∈r->cJ σ x x):RenL σ o o:=
 ⟨rfl,rfl,rfl,fun i r r' h1 h2=>by rw[h1]at h2;injection h2 with h2;subst h2;exact pE (h r (cK h1))⟩
theorem kW.typed {σ:List Nat} (t:Ty) (l:List t.den) (e:TypeId):kW σ (.live ⟨t.size,l.map t.row,e⟩) (.live ⟨t.size,l.map t.row,e⟩):=
 ⟨by simp,fun o' h=>by
   injection h with h;subst h;exact⟨_,rfl,RenL.self fun r hr x hx=>cJ.tree (LE.refl _) (Ty.nir 0 t l r hr x hx)⟩⟩
theorem kW.opt {σ:List Nat} (t:Ty) (l:List t.den) (e:TypeId):kW σ (XO.opt t l e).den (XO.opt t l e).den:=by
 simp only[XO.den];split
 ·exact⟨by simp,fun o' h=>by cases h⟩
 ·exact kW.typed t l e
theorem qSP {σ:List Nat} {o:XO} (h:qZ1 σ o=true):kW σ o.den o.den:=by
 cases o with
 |raw s=>
  cases s with
  |live o=>exact⟨by simp [XO.den],fun o' q=>by
     injection q with q;subst q;exact⟨_,rfl,RenL.self fun r hr x hx=>qB (List.all_eq_true.1 (List.all_eq_true.1 h r hr) x hx)⟩⟩
  |dead=>exact⟨by simp [XO.den],fun o' q=>by cases q⟩
  |free=>cases h
 |tl t l e=>exact kW.typed t l e
 |opt t l e=>exact kW.opt t l e
 |ob t a e=>exact kW.typed t [a] e
 |row1 sz R k row e=>cases h
theorem qER {σ gi:List Nat}:∀ {h:List XO} {k:Nat},qNR σ gi h k=true->∀(j:Nat) (o:XO),h[j]? =some o->¬(k+j)∈gi->kW σ o.den o.den/\σ[k+j]? =some (k+j)
 | [],_,_,j,o,ho,_=>by simp at ho
 |x::r,k,h,0,o,ho,hg=>by
  simp only[qNR,Bool.and_eq_true,Bool.or_eq_true]at h;simp at ho;subst ho;rcases h.1 with q|q
  ·exact absurd (by simpa using q) hg
  ·exact⟨qSP q.1,by simpa using q.2⟩
 |x::r,k,h,j+1,o,ho,hg=>by
  simp only[qNR,Bool.and_eq_true]at h;have:=qER h.2 j o (by simpa using ho) (by rwa [show k+1+j=k+(j+1)by omega]);rwa [show k+1+j=k+(j+1)by omega]at this
structure Near (W:List Nat) (gi:List Nat) (s1 s':Y):Prop where
 sl:∀i,¬i∈W->s'.sl[i]? =s1.sl[i]?
 len:s'.sl.length=s1.sl.length
 h:∀j,j<s1.h.length->¬j∈gi->¬j∈s'.tch->s'.h[j]? =s1.h[j]?
theorem MG (W:List Nat):∀(sl:List V) (i:Nat),(MF W sl i).length=sl.length
 | [],_=>rfl
 |_::r,i=>by simp only[MF,List.length_cons,MG W r]
theorem BO (W:List Nat):∀(sl:List V) (i j:Nat),(MF W sl i)[j]? =(sl[j]?).map fun a=>match W.contains (i+j)with
  |true=>.any
  |false=>a
 | [],_,_=>rfl
 |a::r,i,0=>rfl
 |a::r,i,j+1=>by simp only[MF,List.getElem?_cons_succ];rw[BO W r (i+1) j,show i+1+j=i+(j+1)by omega]
theorem BP (W:List Nat) (sl:List V):(oT W sl).length=sl.length:=MG W sl 0
theorem qJE (W:List Nat) (sl:List V) (i:Nat) (x:V) (h:(oT W sl)[i]? =some x):x = .any\/(¬i∈W/\sl[i]? =some x):=by
 rw[oT,BO,Nat.zero_add]at h;by_cases hi:i∈W
 ·rw[show W.contains i=true by simpa using hi]at h
  cases hs:sl[i]? with
  |none=>rw[hs]at h;cases h
  |some a=>rw[hs]at h;injection h with h;exact .inl h.symm
 ·rw[show W.contains i=false by simpa using hi]at h
  cases hs:sl[i]? with
  |none=>rw[hs]at h;cases h
  |some a=>rw[hs]at h;injection h with h;exact .inr ⟨hi,by rw[<-h]⟩
theorem tK (W:List Nat) (sl:List V) (i:Nat) (hi:¬i∈W):(oT W sl)[i]? =sl[i]?:=by
 rw[oT,BO,Nat.zero_add,show W.contains i=false by simpa using hi];cases sl[i]?<;>rfl
theorem jV:∀(g:List GK) (y:Tup (gts g)) (b:Bs) (l:List V),(gN g y b l).length=l.length
 | [],_,_,_=>rfl
 | .sl _ _::g,y,b,l=>by simp only[gN];rw[jV g];simp
 | .lst _ _ _::g,y,b,l=>by simp only[gN];rw[jV g];simp
 | .nls _ _ _::g,y,b,l=>by simp only[gN];rw[jV g];simp
 | .ob _ _ _::g,y,b,l=>by simp only[gN];rw[jV g]
 | .ar _ _ _::g,y,b,l=>by simp only[gN];rw[jV g]
 | .op _ _ _::g,y,b,l=>by simp only[gN];rw[jV g]
 | .row _ _::g,y,b,l=>by simp only[gN];rw[jV g]
theorem gF:∀(g:List GK) (y:Tup (gts g)) (b:Bs) (l:List V) (i:Nat),¬i∈gslots g->(gN g y b l)[i]? =l[i]?
 | [],_,_,_,_,_=>rfl
 | .sl d _::g,y,b,l,i,h=>by
   simp only[gslots,List.mem_cons,not_or]at h;simp only[gN];rw[gF g _ _ _ i h.2,List.getElem?_set_ne (Ne.symm h.1)]
 | .lst d _ _::g,y,b,l,i,h=>by
   simp only[gslots,List.mem_cons,not_or]at h;simp only[gN];rw[gF g _ _ _ i h.2,List.getElem?_set_ne (Ne.symm h.1)]
 | .nls d _ _::g,y,b,l,i,h=>by
   simp only[gslots,List.mem_cons,not_or]at h;simp only[gN];rw[gF g _ _ _ i h.2,List.getElem?_set_ne (Ne.symm h.1)]
 | .ob _ _ _::g,y,b,l,i,h=>by simp only[gN];exact gF g _ _ _ i h
 | .ar _ _ _::g,y,b,l,i,h=>by simp only[gN];exact gF g _ _ _ i h
 | .op _ _ _::g,y,b,l,i,h=>by simp only[gN];exact gF g _ _ _ i h
 | .row _ _::g,y,b,l,i,h=>by simp only[gN];exact gF g _ _ _ i h
theorem kH:∀(ks:List CK) (c:Tup (aB ks)) (r:List V) (h:List XO),(nK ks c r h).length=h.length
 | [],_,_,_=>rfl
 | .same::ks,_,[],_=>rfl
 | .same::ks,c,_::r,h=>kH ks c r h
 | .val _::ks,_,[],_=>rfl
 | .val _::ks,c,_::r,h=>kH ks c.2 r h
 | .osf _::ks,_,[],_=>rfl
 | .osf _::ks,c,_::r,h=>kH ks c.2 r h
 | .own _ _::ks,_,[],_=>rfl
 | .ows _ _::ks,_,[],_=>rfl
 | .own t e::ks,c,x::r,h=>(kH ks c.2 r (h.set (idC x) (.opt t c.1 e))).trans (by simp)
 | .ows t e::ks,c,x::r,h=>(kH ks c.2 r (h.set (idC x) (.tl t c.1 e))).trans (by simp)
theorem jJ:∀(ks:List CK) (c:Tup (aB ks)) (r:List V) (h:List XO) (i:Nat),¬i∈pC ks r->(nK ks c r h)[i]? =h[i]?
 | [],_,_,_,_,_=>rfl
 | .same::ks,_,[],_,_,_=>rfl
 | .same::ks,c,_::r,h,i,hi=>jJ ks c r h i hi
 | .val _::ks,_,[],_,_,_=>rfl
 | .val _::ks,c,_::r,h,i,hi=>jJ ks c.2 r h i hi
 | .osf _::ks,_,[],_,_,_=>rfl
 | .osf _::ks,c,_::r,h,i,hi=>jJ ks c.2 r h i hi
 | .own _ _::ks,_,[],_,_,_=>rfl
 | .ows _ _::ks,_,[],_,_,_=>rfl
 | .own t e::ks,c,x::r,h,i,hi=>by
   simp only[pC,List.mem_cons,not_or]at hi;exact(jJ ks c.2 r (h.set (idC x) (.opt t c.1 e)) i hi.2).trans (List.getElem?_set_ne (Ne.symm hi.1))
 | .ows t e::ks,c,x::r,h,i,hi=>by
   simp only[pC,List.mem_cons,not_or]at hi;exact(jJ ks c.2 r (h.set (idC x) (.tl t c.1 e)) i hi.2).trans (List.getElem?_set_ne (Ne.symm hi.1))
theorem iZ:∀(g:List GK) (y:Tup (gts g)) (b:Bs) (h:List XO),(gO g y b h).length=h.length
 | [],_,_,_=>rfl
 | .sl _ _::g,y,b,h=>by simp only[gO];exact iZ g _ _ _
 | .lst _ _ _::g,y,b,h=>by simp only[gO];rw[iZ g];simp
 | .nls _ _ _::g,y,b,h=>by simp only[gO];rw[iZ g];simp
 | .ob _ _ _::g,y,b,h=>by simp only[gO];rw[iZ g];simp
 | .ar _ _ _::g,y,b,h=>by simp only[gO];rw[iZ g];simp
 | .op _ _ _::g,y,b,h=>by simp only[gO];rw[iZ g];simp
 | .row _ _::g,y,b,h=>by simp only[gO];rw[iZ g,kH];simp
theorem hJ:∀(g:List GK) (y:Tup (gts g)) (b:Bs) (h:List XO) (i:Nat),¬i∈gids b g->(gO g y b h)[i]? =h[i]?
 | [],_,_,_,_,_=>rfl
 | .sl _ _::g,y,b,h,i,hi=>by simp only[gO];exact hJ g _ _ _ i hi
 | .lst d _ _::g,y,b,h,i,hi=>by
   simp only[gids,List.mem_cons,not_or]at hi;simp only[gO];rw[hJ g _ _ _ i hi.2,List.getElem?_set_ne (Ne.symm hi.1)]
 | .nls d _ _::g,y,b,h,i,hi=>by
   simp only[gids,List.mem_cons,not_or]at hi;simp only[gO];rw[hJ g _ _ _ i hi.2,List.getElem?_set_ne (Ne.symm hi.1)]
 | .ob d _ _::g,y,b,h,i,hi=>by
   simp only[gids,List.mem_cons,not_or]at hi;simp only[gO];rw[hJ g _ _ _ i hi.2,List.getElem?_set_ne (Ne.symm hi.1)]
 | .ar d _ _::g,y,b,h,i,hi=>by
   simp only[gids,List.mem_cons,not_or]at hi;simp only[gO];rw[hJ g _ _ _ i hi.2,List.getElem?_set_ne (Ne.symm hi.1)]
 | .op d _ _::g,y,b,h,i,hi=>by
   simp only[gids,List.mem_cons,not_or]at hi;simp only[gO];rw[hJ g _ _ _ i hi.2,List.getElem?_set_ne (Ne.symm hi.1)]
 | .row id ks::g,y,b,h,i,hi=>by
   simp only[gids,List.mem_cons,List.mem_append,not_or]at hi;simp only[gO];rw[hJ g _ _ _ i hi.2.2,jJ _ _ _ _ _ hi.2.1,List.getElem?_set_ne (Ne.symm hi.1)]
theorem rJ:∀(ks:List CK) (r r':List V) (σ:List Nat),(qDV ks r r' σ).length=σ.length
 | [],_,_,_=>rfl
 |_::_,[],_,_=>by unfold qDV;split<;>first|rfl|simp_all
 |_::_,_::_,[],_=>by unfold qDV;split<;>first|rfl|simp_all
 | .same::ks,_::r,_::r',σ=>rJ ks r r' σ
 | .val _::ks,_::r,_::r',σ=>rJ ks r r' σ
 | .osf _::ks,_::r,_::r',σ=>rJ ks r r' σ
 | .own _ _::ks,c::r,c'::r',σ=>(rJ ks r r' (σ.set (idC c) (idC c'))).trans (by simp)
 | .ows _ _::ks,c::r,c'::r',σ=>(rJ ks r r' (σ.set (idC c) (idC c'))).trans (by simp)
theorem qF:∀(g:List GK) (b b':Bs) (σ:List Nat),(sig g b b' σ).length=σ.length
 | [],_,_,_=>rfl
 | .sl _ _::g,b,b',σ=>by simp only[sig];exact qF g _ _ _
 | .lst _ _ _::g,b,b',σ=>by simp only[sig];rw[qF g];simp
 | .nls _ _ _::g,b,b',σ=>by simp only[sig];rw[qF g];simp
 | .ob _ _ _::g,b,b',σ=>by simp only[sig];exact qF g _ _ _
 | .ar _ _ _::g,b,b',σ=>by simp only[sig];exact qF g _ _ _
 | .op _ _ _::g,b,b',σ=>by simp only[sig];exact qF g _ _ _
 | .row _ _::g,b,b',σ=>by simp only[sig];rw[qF g,rJ]
theorem joined {a b:List Ty} {x:Tup a} {y:Tup b} {z:Tup (qMC a b)} (h:aC a b x y=z):uR a b z=(x,y):=by rw[<-h];exact KP a b x y
theorem qFJ {σ:List Nat} {h':List XO} {c':V} {j id n:Nat} {t0:Ty} {l0:List t0.den} {t:Ty} {l:List t.den} {e':TypeId} (hc:c' = .oL id n) (ho:h'[id]? =some (.opt t0 l0 e')) (hl:gH l0=some l) (hd:dJ (fT h' c')) (hσ:σ[j]? =some id):cJ σ c' (.oL j l.length):=by
 subst hc;simp only[fT,ho]at hd;have hn:n=l0.length:=of_decide_eq_true (hd _ (List.mem_singleton.2 rfl));rw[hn,(eJ hl).2.2];exact cJ.oL _ hσ
theorem WZ {σ:List Nat} {h':List XO} {c':V} {j id n:Nat} {t0:Ty} {l0:List t0.den} {t:Ty} {l:List t.den} {e':TypeId} (hc:c' = .sO id 0 n) (ho:h'[id]? =some (.tl t0 l0 e')) (hl:gH l0=some l) (hd:dJ (fT h' c')) (hσ:σ[j]? =some id):cJ σ c' (.sO j 0 l.length):=by
 subst hc;simp only[fT,ho]at hd;have hn:n=l0.length:=of_decide_eq_true (hd _ (List.mem_singleton.2 rfl));rw[hn,(eJ hl).2.2];exact cJ.sO 0 _ hσ
theorem nD {σ:List Nat} {sl':List V} {h':List XO} {b:Bs}:∀(g:List GK) (y:Tup (gts g)) (l:List V),rdG g sl' h'=some y->dJ (cdG h' sl' g)->jM σ b ⟨sl',h'⟩ g=true ->
  (∀(i:Nat) (x v:V),sl'[i]? =some x->l[i]? =some v->cJ σ x v)->∀(i:Nat) (x v:V),sl'[i]? =some x->(gN g y b l)[i]? =some v->cJ σ x v
 | [],_,_,_,_,_,hl=>hl
 | .sl d t::g,y,l,e,hc,hs,hl=>by
   simp only[rdG]at e;split at e
   ·rename_i v hv
    split at e
    ·rename_i a r ha hr
     injection e with e;subst e;refine nD g r _ hr hc hs (fun i x v' h1 h2=>?_);rw[List.getElem?_set]at h2;split at h2
     ·rename_i q;subst q
      split at h2
      ·injection h2 with h2;subst h2
       rw[hv]at h1;injection h1 with h1;subst h1;exact cJ.val ha
      ·cases h2
     ·exact hl i x v' h1 h2
    ·cases e
   ·cases e
 | .lst d t el::g,y,l,e,hc,hs,hl=>by
   simp only[rdG]at e;split at e
   ·rename_i id n hv
    split at e
    ·rename_i t0 l0 e' ho
     split at e
     ·split at e
      ·rename_i l1 r hl1 hr
       injection e with e;subst e;simp only[jM,Bool.and_eq_true]at hs;have hi:jG ⟨sl',h'⟩ d=id:=by simp [jG,hv,idC]
       have hσ:σ[jG b d]? =some id:=by have:=hs.1;rw[hi]at this;simpa using this
       refine nD g r _ hr (fun c q=>hc c (by simp [cdG,q])) hs.2 (fun i x v' h1 h2=>?_);rw[List.getElem?_set]at h2;split at h2
       ·rename_i q;subst q
        split at h2
        ·injection h2 with h2;subst h2
         rw[hv]at h1;injection h1 with h1;subst h1;exact qFJ rfl ho hl1 (fun c q=>hc c (by simp only[cdG,hv,List.mem_append];exact .inl q)) hσ
        ·cases h2
       ·exact hl i x v' h1 h2
      ·cases e
     ·cases e
    ·cases e
   ·cases e
 | .nls d t el::g,y,l,e,hc,hs,hl=>by
   simp only[rdG]at e;split at e
   ·rename_i id n hv
    split at e
    ·rename_i t0 l0 e' ho
     split at e
     ·split at e
      ·rename_i l1 r hl1 hr
       injection e with e;subst e;simp only[jM,Bool.and_eq_true]at hs;have hi:jG ⟨sl',h'⟩ d=id:=by simp [jG,hv,idC]
       have hσ:σ[jG b d]? =some id:=by have:=hs.1;rw[hi]at this;simpa using this
       refine nD g r _ hr (fun c q=>hc c (by simp [cdG,q])) hs.2 (fun i x v' h1 h2=>?_);rw[List.getElem?_set]at h2;split at h2
       ·rename_i q;subst q
        split at h2
        ·injection h2 with h2;subst h2
         rw[hv]at h1;injection h1 with h1;subst h1;exact WZ rfl ho hl1 (fun c q=>hc c (by simp only[cdG,hv,List.mem_append];exact .inl q)) hσ
        ·cases h2
       ·exact hl i x v' h1 h2
      ·cases e
     ·cases e
    ·cases e
   ·cases e
 | .ob id t el::g,y,l,e,hc,hs,hl=>by
   simp only[rdG]at e;repeat' split at e
   all_goals first|(cases e;done)|skip
   rename_i hr;injection e with e;subst e;simp only[jM,Bool.and_eq_true]at hs;exact nD g _ _ hr hc hs.2 hl
 | .ar id t el::g,y,l,e,hc,hs,hl=>by
   simp only[rdG]at e;repeat' split at e
   all_goals first|(cases e;done)|skip
   rename_i hr;injection e with e;subst e;simp only[jM,Bool.and_eq_true]at hs;exact nD g _ _ hr hc hs.2 hl
 | .op id t el::g,y,l,e,hc,hs,hl=>by
   simp only[rdG]at e;repeat' split at e
   all_goals first|(cases e;done)|skip
   rename_i hr;injection e with e;subst e;simp only[jM,Bool.and_eq_true]at hs;exact nD g _ _ hr hc hs.2 hl
 | .row id ks::g,y,l,e,hc,hs,hl=>by
   simp only[rdG]at e;split at e
   ·rename_i c q hk hr
    injection e with e;simp only[jM,Bool.and_eq_true]at hs;simp only[gN,joined e];exact nD g q l hr (fun c q=>hc c (by simp [cdG,q])) hs.2.2.2.2 hl
   ·cases e
def uP:(ks:List CK)->List V->List V->Prop
 | .same::ks,c'::r',c::r=>c'=c/\uP ks r' r
 | .val _::ks,_::r',_::r=>uP ks r' r
 | .own _ _::ks,_::r',_::r=>uP ks r' r
 | .ows _ _::ks,_::r',_::r=>uP ks r' r
 | .osf _::ks,_::r',_::r=>uP ks r' r
 |_,_,_=>True
theorem mH:∀(ks:List CK) (r' r:List V) (A:Prop),KK ks r' r A->uP ks r' r/\A
 | [],_,_,_,h=>⟨trivial,h⟩
 | .same::_,[],_,_,h=>h.elim
 | .same::_,_::_,[],_,h=>h.elim
 | .val _::_,[],_,_,h=>h.elim
 | .val _::_,_::_,[],_,h=>h.elim
 | .own _ _::_,[],_,_,h=>h.elim
 | .ows _ _::_,[],_,_,h=>h.elim
 | .osf _::_,[],_,_,h=>h.elim
 | .osf _::_,_::_,[],_,h=>h.elim
 | .own _ _::_,_::_,[],_,h=>h.elim
 | .ows _ _::_,_::_,[],_,h=>h.elim
 | .same::ks,_::r',_::r,A,h=>by
   obtain⟨h1,h2⟩:=mH ks r' r A h.2;exact⟨⟨h.1,h1⟩,h2⟩
 | .val _::ks,_::r',_::r,A,h=>mH ks r' r A h
 | .own _ _::ks,_::r',_::r,A,h=>mH ks r' r A h
 | .ows _ _::ks,_::r',_::r,A,h=>mH ks r' r A h
 | .osf _::ks,_::r',_::r,A,h=>mH ks r' r A h
def sR (b b':Bs):List GK->Prop
 | []=>True
 | .row id ks::g=>uP ks (rG b' id) (rG b id)/\sR b b' g
 | .sl _ _::g=>sR b b' g
 | .lst _ _ _::g=>sR b b' g
 | .nls _ _ _::g=>sR b b' g
 | .ob _ _ _::g=>sR b b' g
 | .ar _ _ _::g=>sR b b' g
 | .op _ _ _::g=>sR b b' g
theorem iY {b b':Bs}:∀(g:List GK) (A:Prop),AR b b' g A->sR b b' g/\A
 | [],_,h=>⟨trivial,h⟩
 | .row id ks::g,A,h=>by
   obtain⟨h1,h2⟩:=mH ks _ _ _ h;obtain⟨h3,h4⟩:=iY g A h2;exact⟨⟨h1,h3⟩,h4⟩
 | .sl _ _::g,A,h=>iY g A h
 | .lst _ _ _::g,A,h=>iY g A h
 | .nls _ _ _::g,A,h=>iY g A h
 | .ob _ _ _::g,A,h=>iY g A h
 | .ar _ _ _::g,A,h=>iY g A h
 | .op _ _ _::g,A,h=>iY g A h
theorem qDF {σ:List Nat} {k:Nat} {c:V} {a:Bool} (h:KH k c=some a) (hσ:σ[k]? =some k):cJ σ c (rH k a):=by
 unfold KH at h;split at h
 ·injection h with h;subst h;exact cJ.tree (LE.refl _) (.v _)
 ·split at h
  ·rename_i q
   have q:=Nat.eq_of_beq_eq_true q;injection h with h;subst h q;exact cJ.pO 0 0 hσ
  ·cases h
 ·cases h
theorem vZ {σ:List Nat} {h':List XO}:∀(ks:List CK) (c:Tup (aB ks)) (r r':List V),rdK ks r' h'=some c->dJ (cdK ks r' h')->uP ks r' r->qQ σ ks r r'=true->qN σ ks r=true->Pairs (cJ σ) r' (iS ks c r)
 | [],_,[],[],_,_,_,_,_=>⟨rfl,fun i x y h=>by simp at h⟩
 | [],_,_::_,_,_,_,_,_,hf=>by simp [qN]at hf
 | [],_,[],_::_,e,_,_,_,_=>by simp [rdK]at e
 |_::_,_,[],_,_,_,_,_,hf=>by unfold qN at hf;split at hf<;>first|(cases hf;done)|simp_all
 | .same::_,_,_::_,[],e,_,_,_,_=>by simp [rdK]at e
 | .val _::_,_,_::_,[],e,_,_,_,_=>by simp [rdK]at e
 | .own _ _::_,_,_::_,[],e,_,_,_,_=>by simp [rdK]at e
 | .ows _ _::_,_,_::_,[],e,_,_,_,_=>by simp [rdK]at e
 | .osf _::_,_,_::_,[],e,_,_,_,_=>by simp [rdK]at e
 | .same::ks,c,x::r,x'::r',e,hc,hsm,hs,hf=>by
   simp only[qN,Bool.and_eq_true]at hf;obtain⟨q1,q2⟩:=vZ ks c r r' e hc hsm.2 hs hf.2;have hx:=hsm.1;refine⟨by simp [iS,q1],fun i a b ha hb=>?_⟩;cases i with
   |zero=>simp [iS]at ha hb;rw[<-ha,<-hb,hx];exact qB hf.1
   |succ i=>exact q2 i a b (by simpa using ha) (by simpa [iS]using hb)
 | .val t::ks,c,x::r,x'::r',e,hc,hsm,hs,hf=>by
   simp only[qN,Bool.and_eq_true]at hf;simp only[rdK]at e;split at e
   ·rename_i a q ha hq
    injection e with e;subst e;obtain⟨q1,q2⟩:=vZ ks q r r' hq hc hsm hs hf.2;refine⟨by simp [iS,q1],fun i u v hu hv=>?_⟩;cases i with
    |zero=>
     simp [iS]at hu hv;rw[<-hu,<-hv];refine cJ.val ?_;cases t with
     |pair _ _=>simp at hf
     |_=>exact ha
    |succ i=>exact q2 i u v (by simpa using hu) (by simpa [iS]using hv)
   ·cases e
 | .osf k::ks,c,x::r,x'::r',e,hc,hsm,hs,hf=>by
   simp only[qN,Bool.and_eq_true]at hf;simp only[rdK]at e;split at e
   ·rename_i a q ha hq
    injection e with e;subst e;obtain⟨q1,q2⟩:=vZ ks q r r' hq hc hsm hs hf.2;refine⟨by simp [iS,q1],fun i u v hu hv=>?_⟩;cases i with
    |zero=>
     simp [iS]at hu hv;rw[<-hu,<-hv];exact qDF ha (by simpa [qCE]using hf.1)
    |succ i=>exact q2 i u v (by simpa using hu) (by simpa [iS]using hv)
   ·cases e
 | .own t el::ks,c,x::r,x'::r',e,hc,hsm,hs,hf=>by
   simp only[qN]at hf;simp only[rdK]at e;split at e
   ·rename_i id n
    split at e
    ·rename_i t0 l0 e' ho
     split at e
     ·split at e
      ·rename_i l1 q hl1 hq
       injection e with e;subst e;simp only[qQ,Bool.and_eq_true]at hs;obtain⟨q1,q2⟩:=vZ ks q r r' hq (fun c q=>hc c (by simp [cdK,q])) hsm hs.2 hf;refine⟨by simp [iS,q1],fun i u v hu hv=>?_⟩;cases i with
       |zero=>
        simp [iS]at hu hv;rw[<-hu,<-hv];exact qFJ rfl ho hl1 (fun c q=>hc c (by simp only[cdK,List.mem_append];exact .inl q)) (by simpa [idC]using hs.1)
       |succ i=>exact q2 i u v (by simpa using hu) (by simpa [iS]using hv)
      ·cases e
     ·cases e
    ·cases e
   ·cases e
 | .ows t el::ks,c,x::r,x'::r',e,hc,hsm,hs,hf=>by
   simp only[qN]at hf;simp only[rdK]at e;split at e
   ·rename_i id n
    split at e
    ·rename_i t0 l0 e' ho
     split at e
     ·split at e
      ·rename_i l1 q hl1 hq
       injection e with e;subst e;simp only[qQ,Bool.and_eq_true]at hs;obtain⟨q1,q2⟩:=vZ ks q r r' hq (fun c q=>hc c (by simp [cdK,q])) hsm hs.2 hf;refine⟨by simp [iS,q1],fun i u v hu hv=>?_⟩;cases i with
       |zero=>
        simp [iS]at hu hv;rw[<-hu,<-hv];exact WZ rfl ho hl1 (fun c q=>hc c (by simp only[cdK,List.mem_append];exact .inl q)) (by simpa [idC]using hs.1)
       |succ i=>exact q2 i u v (by simpa using hu) (by simpa [iS]using hv)
      ·cases e
     ·cases e
    ·cases e
   ·cases e
theorem vV {σ:List Nat} {h':List XO}:∀(ks:List CK) (c:Tup (aB ks)) (r r':List V) (k:List XO) (G:List Nat),rdK ks r' h'=some c->qQ σ ks r r'=true->qN σ ks r=true->k.length=σ.length ->
  (∀(j i:Nat),σ[j]? =some i->¬j∈G++pC ks r->∃x z,(dens h')[i]? =some x/\(dens k)[j]? =some z/\kW σ x z)->∀(j i:Nat),σ[j]? =some i->¬j∈G->∃x z,(dens h')[i]? =some x/\(dens (nK ks c r k))[j]? =some z/\kW σ x z
 | [],_,_,_,_,G,_,_,_,_,hk=>fun j i h1 h2=>hk j i h1 (by simpa [pC]using h2)
 |_::_,_,[],_,_,_,_,_,hf,_,_=>by unfold qN at hf;split at hf<;>first|(cases hf;done)|simp_all
 | .same::_,_,_::_,[],_,_,e,_,_,_,_=>by simp [rdK]at e
 | .val _::_,_,_::_,[],_,_,e,_,_,_,_=>by simp [rdK]at e
 | .own _ _::_,_,_::_,[],_,_,e,_,_,_,_=>by simp [rdK]at e
 | .ows _ _::_,_,_::_,[],_,_,e,_,_,_,_=>by simp [rdK]at e
 | .osf _::_,_,_::_,[],_,_,e,_,_,_,_=>by simp [rdK]at e
 | .same::ks,c,x::r,x'::r',k,G,e,hs,hf,hl,hk=>by
   simp only[qN,Bool.and_eq_true]at hf;exact vV ks c r r' k G e hs hf.2 hl hk
 | .val t::ks,c,x::r,x'::r',k,G,e,hs,hf,hl,hk=>by
   simp only[qN,Bool.and_eq_true]at hf;simp only[rdK]at e;split at e
   ·rename_i a q ha hq
    injection e with e;subst e;exact vV ks q r r' k G hq hs hf.2 hl hk
   ·cases e
 | .osf _::ks,c,x::r,x'::r',k,G,e,hs,hf,hl,hk=>by
   simp only[qN,Bool.and_eq_true]at hf;simp only[rdK]at e;split at e
   ·rename_i a q ha hq
    injection e with e;subst e;exact vV ks q r r' k G hq hs hf.2 hl hk
   ·cases e
 | .own t el::ks,c,x::r,x'::r',k,G,e,hs,hf,hl,hk=>by
   simp only[qN]at hf;simp only[rdK]at e;split at e
   ·rename_i id n
    split at e
    ·rename_i t0 l0 e' ho
     split at e
     ·rename_i hee
      split at e
      ·rename_i l1 q hl1 hq
       injection e with e;subst e;simp only[qQ,Bool.and_eq_true]at hs;have hσ:σ[idC x]? =some id:=by simpa [idC]using hs.1
       refine vV ks q r r' _ G hq hs.2 hf (by simpa using hl) (fun j i h1 h2=>?_);by_cases qe:j=idC x
       ·subst qe
        rw[hσ]at h1;injection h1 with h1;subst h1;have hlt:idC x<k.length:=by rw[hl];exact aP hσ
        refine⟨_,_,by rw[aO,ho];rfl,by rw[aO,List.getElem?_set_self hlt];rfl,?_⟩;have:(XO.opt t0 l0 e').den=(XO.opt t l1 el).den:=by
         obtain⟨et,el1⟩:=iR hl1;subst et el1 hee;rfl
        rw[this];exact kW.opt t l1 el
       ·obtain⟨x,z,g1,g2,g3⟩:=hk j i h1 (by simp only[pC,List.mem_append,List.mem_cons,not_or]at h2 ⊢;exact⟨h2.1,qe,h2.2⟩)
        exact⟨x,z,g1,by rw[bG,List.getElem?_set_ne (Ne.symm qe)];exact g2,g3⟩
      ·cases e
     ·cases e
    ·cases e
   ·cases e
 | .ows t el::ks,c,x::r,x'::r',k,G,e,hs,hf,hl,hk=>by
   simp only[qN]at hf;simp only[rdK]at e;split at e
   ·rename_i id n
    split at e
    ·rename_i t0 l0 e' ho
     split at e
     ·rename_i hee
      split at e
      ·rename_i l1 q hl1 hq
       injection e with e;subst e;simp only[qQ,Bool.and_eq_true]at hs;have hσ:σ[idC x]? =some id:=by simpa [idC]using hs.1
       refine vV ks q r r' _ G hq hs.2 hf (by simpa using hl) (fun j i h1 h2=>?_);by_cases qe:j=idC x
       ·subst qe
        rw[hσ]at h1;injection h1 with h1;subst h1;have hlt:idC x<k.length:=by rw[hl];exact aP hσ
        refine⟨_,_,by rw[aO,ho];rfl,by rw[aO,List.getElem?_set_self hlt];rfl,?_⟩;have:(XO.tl t0 l0 e').den=(XO.tl t l1 el).den:=by
         obtain⟨et,el1⟩:=iR hl1;subst et el1 hee;rfl
        rw[this];exact kW.typed t l1 el
       ·obtain⟨x,z,g1,g2,g3⟩:=hk j i h1 (by simp only[pC,List.mem_append,List.mem_cons,not_or]at h2 ⊢;exact⟨h2.1,qe,h2.2⟩)
        exact⟨x,z,g1,by rw[bG,List.getElem?_set_ne (Ne.symm qe)];exact g2,g3⟩
      ·cases e
     ·cases e
    ·cases e
   ·cases e
theorem JR {b:Bs} {id:Nat} {s:Nat} {e:TypeId} (h:qE3 b id=some (s,e)):∃r,b.h[id]? =some (.raw (.live ⟨s,[r],e⟩))/\rG b id=r:=by
 unfold qE3 at h;split at h
 ·rename_i o ho
  split at h
  ·rename_i r hr
   injection h with h;injection h with h1 h2;subst h1 h2;refine⟨r,by rw[ho,<-hr],by simp [rG,ho,hr]⟩
  ·cases h
 ·cases h
theorem qD {σ:List Nat} {sl':List V} {h':List XO} {b:Bs}:∀(g:List GK) (y:Tup (gts g)) (k:List XO) (G:List Nat),rdG g sl' h'=some y->dJ (cdG h' sl' g)->sR b ⟨sl',h'⟩ g->jM σ b ⟨sl',h'⟩ g=true->k.length=σ.length ->
  (∀(j i:Nat),σ[j]? =some i->¬j∈G++gids b g->∃x z,(dens h')[i]? =some x/\(dens k)[j]? =some z/\kW σ x z)->∀(j i:Nat),σ[j]? =some i->¬j∈G->∃x z,(dens h')[i]? =some x/\(dens (gO g y b k))[j]? =some z/\kW σ x z
 | [],_,_,G,_,_,_,_,_,hk=>fun j i h1 h2=>hk j i h1 (by simpa [gids]using h2)
 | .sl d t::g,y,k,G,e,hc,hsm,hs,hl,hk=>by
   simp only[rdG]at e;repeat' split at e
   all_goals first|(cases e;done)|skip
   rename_i hr;injection e with e;subst e;exact qD g _ k G hr hc hsm hs hl hk
 | .lst d t el::g,y,k,G,e,hc,hsm,hs,hl,hk=>by
   simp only[rdG]at e;split at e
   ·rename_i id n hv
    split at e
    ·rename_i t0 l0 e' ho
     split at e
     ·rename_i hee
      split at e
      ·rename_i l1 r hl1 hr
       injection e with e;subst e;simp only[jM,Bool.and_eq_true]at hs;have hi:jG ⟨sl',h'⟩ d=id:=by simp [jG,hv,idC]
       have hσ:σ[jG b d]? =some id:=by have:=hs.1;rw[hi]at this;simpa using this
       refine qD g r _ G hr (fun c q=>hc c (by simp [cdG,q])) hsm hs.2 (by simpa using hl) (fun j i h1 h2=>?_);by_cases q:j=jG b d
       ·subst q
        rw[hσ]at h1;injection h1 with h1;subst h1;have hlt:jG b d<k.length:=by rw[hl];exact aP hσ
        refine⟨_,_,by rw[aO,ho];rfl,by rw[aO,List.getElem?_set_self hlt];rfl,?_⟩;have:(XO.opt t0 l0 e').den=(XO.opt t l1 el).den:=by
         obtain⟨et,el1⟩:=iR hl1;subst et el1 hee;rfl
        rw[this];exact kW.opt t l1 el
       ·obtain⟨x,z,g1,g2,g3⟩:=hk j i h1 (by simp only[gids,List.mem_append,List.mem_cons,not_or]at h2 ⊢;exact⟨h2.1,q,h2.2⟩)
        exact⟨x,z,g1,by rw[bG,List.getElem?_set_ne (Ne.symm q)];exact g2,g3⟩
      ·cases e
     ·cases e
    ·cases e
   ·cases e
 | .nls d t el::g,y,k,G,e,hc,hsm,hs,hl,hk=>by
   simp only[rdG]at e;split at e
   ·rename_i id n hv
    split at e
    ·rename_i t0 l0 e' ho
     split at e
     ·rename_i hee
      split at e
      ·rename_i l1 r hl1 hr
       injection e with e;subst e;simp only[jM,Bool.and_eq_true]at hs;have hi:jG ⟨sl',h'⟩ d=id:=by simp [jG,hv,idC]
       have hσ:σ[jG b d]? =some id:=by have:=hs.1;rw[hi]at this;simpa using this
       refine qD g r _ G hr (fun c q=>hc c (by simp [cdG,q])) hsm hs.2 (by simpa using hl) (fun j i h1 h2=>?_);by_cases q:j=jG b d
       ·subst q
        rw[hσ]at h1;injection h1 with h1;subst h1;have hlt:jG b d<k.length:=by rw[hl];exact aP hσ
        refine⟨_,_,by rw[aO,ho];rfl,by rw[aO,List.getElem?_set_self hlt];rfl,?_⟩;have:(XO.tl t0 l0 e').den=(XO.tl t l1 el).den:=by
         obtain⟨et,el1⟩:=iR hl1;subst et el1 hee;rfl
        rw[this];exact kW.typed t l1 el
       ·obtain⟨x,z,g1,g2,g3⟩:=hk j i h1 (by simp only[gids,List.mem_append,List.mem_cons,not_or]at h2 ⊢;exact⟨h2.1,q,h2.2⟩)
        exact⟨x,z,g1,by rw[bG,List.getElem?_set_ne (Ne.symm q)];exact g2,g3⟩
      ·cases e
     ·cases e
    ·cases e
   ·cases e
 | .ob id t el::g,y,k,G,e,hc,hsm,hs,hl,hk=>by
   simp only[rdG]at e;split at e
   ·rename_i xo ho
    split at e
    ·rename_i a q ha hr
     injection e with e;subst e;simp only[jM,Bool.and_eq_true]at hs;have hσ:σ[id]? =some id:=by simpa using hs.1
     obtain⟨o,o1,o2,o3,o4,o5⟩:=FT ha;refine qD g q _ G hr hc hsm hs.2 (by simpa using hl) (fun j i h1 h2=>?_);by_cases qe:j=id
     ·subst qe
      rw[hσ]at h1;injection h1 with h1;subst h1;have hlt:j<k.length:=by rw[hl];exact aP hσ
      refine⟨_,_,by rw[aO,ho];rfl,by rw[aO,List.getElem?_set_self hlt];rfl,by simp [XO.den],fun o' ho'=>?_⟩;simp only[XO.den]at ho';injection ho' with ho';subst ho';refine⟨o,o1,⟨o2,o3,o4,fun m r1 r2 h3 h4=>?_⟩⟩;obtain⟨u1,u2⟩:=o5 m r1 r2 h3 h4;refine⟨u1,fun p c c' hc hc'=>cJ.tree (u2 p c c' hc hc') ?_⟩;exact t.nir 0 [a] r2 (cK h4) c' (cK hc')
     ·obtain⟨x,z,g1,g2,g3⟩:=hk j i h1 (by simp only[gids,List.mem_append,List.mem_cons,not_or]at h2 ⊢;exact⟨h2.1,qe,h2.2⟩)
      exact⟨x,z,g1,by rw[bG,List.getElem?_set_ne (Ne.symm qe)];exact g2,g3⟩
    ·cases e
   ·cases e
 | .ar id t el::g,y,k,G,e,hc,hsm,hs,hl,hk=>by
   simp only[rdG]at e;split at e
   ·rename_i t0 l0 e' ho
    split at e
    ·rename_i hee
     split at e
     ·rename_i l1 r hl1 hr
      injection e with e;subst e;simp only[jM,Bool.and_eq_true]at hs;have hσ:σ[id]? =some id:=by simpa using hs.1
      refine qD g r _ G hr hc hsm hs.2 (by simpa using hl) (fun j i h1 h2=>?_);by_cases qe:j=id
      ·subst qe
       rw[hσ]at h1;injection h1 with h1;subst h1;have hlt:j<k.length:=by rw[hl];exact aP hσ
       refine⟨_,_,by rw[aO,ho];rfl,by rw[aO,List.getElem?_set_self hlt];rfl,?_⟩;have:(XO.tl t0 l0 e').den=(XO.tl t l1 el).den:=by
        obtain⟨et,el1⟩:=iR hl1;subst et el1 hee;rfl
       rw[this];exact kW.typed t l1 el
      ·obtain⟨x,z,g1,g2,g3⟩:=hk j i h1 (by simp only[gids,List.mem_append,List.mem_cons,not_or]at h2 ⊢;exact⟨h2.1,qe,h2.2⟩)
       exact⟨x,z,g1,by rw[bG,List.getElem?_set_ne (Ne.symm qe)];exact g2,g3⟩
     ·cases e
    ·cases e
   ·cases e
 | .op id t el::g,y,k,G,e,hc,hsm,hs,hl,hk=>by
   simp only[rdG]at e;split at e
   ·rename_i t0 l0 e' ho
    split at e
    ·rename_i hee
     split at e
     ·rename_i l1 r hl1 hr
      injection e with e;subst e;simp only[jM,Bool.and_eq_true]at hs;have hσ:σ[id]? =some id:=by simpa using hs.1
      refine qD g r _ G hr hc hsm hs.2 (by simpa using hl) (fun j i h1 h2=>?_);by_cases qe:j=id
      ·subst qe
       rw[hσ]at h1;injection h1 with h1;subst h1;have hlt:j<k.length:=by rw[hl];exact aP hσ
       refine⟨_,_,by rw[aO,ho];rfl,by rw[aO,List.getElem?_set_self hlt];rfl,?_⟩;have:(XO.opt t0 l0 e').den=(XO.opt t l1 el).den:=by
        obtain⟨et,el1⟩:=iR hl1;subst et el1 hee;rfl
       rw[this];exact kW.opt t l1 el
      ·obtain⟨x,z,g1,g2,g3⟩:=hk j i h1 (by simp only[gids,List.mem_append,List.mem_cons,not_or]at h2 ⊢;exact⟨h2.1,qe,h2.2⟩)
       exact⟨x,z,g1,by rw[bG,List.getElem?_set_ne (Ne.symm qe)];exact g2,g3⟩
     ·cases e
    ·cases e
   ·cases e
 | .row id ks::g,y,k,G,e,hc,hsm,hs,hl,hk=>by
   simp only[rdG]at e;split at e
   ·rename_i c q hrk hr
    injection e with e;simp only[jM,Bool.and_eq_true]at hs;obtain⟨s1,s2,s3,s4,s5⟩:=hs;have hσ:σ[id]? =some id:=by simpa using s1
    simp only[gO,joined e];refine qD g q _ G hr (fun c q=>hc c (by simp [cdG,q])) hsm.2 s5 (by rw[kH];simpa using hl) (fun j i h1 h2=>?_);refine vV ks c (rG b id) (rG ⟨sl',h'⟩ id) _ (G++gids b g) hrk s2 s3 (by simpa using hl) (fun j i h1 h2=>?_) j i h1 h2;by_cases qe:j=id
    ·subst qe
     rw[hσ]at h1;injection h1 with h1;subst h1;have hlt:j<k.length:=by rw[hl];exact aP hσ
     simp only[qFW]at s4;split at s4
     ·rename_i sz el sz' el' h3 h4
      simp only[Bool.and_eq_true]at s4;have q1:=Nat.eq_of_beq_eq_true s4.1;have q2:=Nat.eq_of_beq_eq_true s4.2;subst q1;have q2:el=el':=q2;subst q2;obtain⟨r,u1,u2⟩:=JR h3;obtain⟨r',v1,v2⟩:=JR h4;have v1:h'[j]? =some (.raw (.live ⟨sz,[r'],el⟩)):=v1;refine⟨_,_,by rw[aO,v1];rfl,by rw[aO,List.getElem?_set_self hlt];rfl,?_⟩;simp only[qPN,u1,XO.den];refine⟨by simp,fun o' ho'=>?_⟩;injection ho' with ho';subst ho';refine⟨_,rfl,⟨rfl,rfl,rfl,fun m r1 r2 h3 h4=>?_⟩⟩;cases m with
      |zero=>
       simp at h3 h4;subst h3 h4;rw[<-v2];exact vZ ks c _ _ hrk (fun c q=>hc c (by simp [cdG,q])) hsm.1 s2 s3
      |succ m=>simp at h3
     ·cases s4
    ·obtain⟨x,z,g1,g2,g3⟩:=hk j i h1 (by simp only[gids,List.mem_append,List.mem_cons,not_or]at h2 ⊢;exact⟨h2.1.1,qe,h2.2,h2.1.2⟩)
     exact⟨x,z,g1,by rw[bG,List.getElem?_set_ne (Ne.symm qe)];exact g2,g3⟩
   ·cases e
theorem qU {n0:Nat} {W:List Nat} {g:List GK} {s1 s':Y} {k:Tup (gts g)->Prop} (hn:Near W (gids s1.bs g) s1 s') (h:arrive n0 W g s1 s' k) :
  ∃σ y,CutR n0 σ s'.den ⟨gN g y s1.bs (oT W s1.sl),dens (gO g y s1.bs s1.h)⟩/\k y/\(∀d,d∈gslots g->d∈W):=by
 unfold arrive at h;split at h
 ·rename_i y hy
  obtain⟨hcd,h⟩:=bR h;obtain⟨hsm,⟨hok⟩,hk⟩:=iY g _ h;simp only[okG,Bool.and_eq_true]at hok;obtain⟨⟨⟨⟨⟨⟨⟨o1,o2⟩,o3⟩,o4⟩,o5⟩,o6⟩,o7⟩,o8⟩:=hok;generalize hσ:sig g s1.bs s'.bs (List.range s1.h.length)=σ at o1 o2 o3 o4 o5 o6;have hlen:σ.length=s1.h.length:=by rw[<-hσ,qF];simp
  have hW:∀d,d∈gslots g->d∈W:=fun d hd=>by simpa using List.all_eq_true.1 o8 d hd
  refine⟨σ,y,⟨by rw[hlen,dM,iZ],qJ3 o2,PY o1,⟨?_,?_⟩,?_⟩,hk,hW⟩
  ·simp only[Y.den,jV,BP];exact hn.len
  ·simp only[Y.den]
   refine nD g y _ hy hcd o4 (fun i x v h1 h2=>?_);rcases qJE _ _ _ _ h2 with q|⟨q1,q2⟩
   ·subst q;exact cJ.any _ _
   ·rw[hn.sl i q1,q2]at h1;injection h1 with h1;subst h1
    exact qB (List.all_eq_true.1 o5 _ (cK h2))
  ·simp only[Y.den]
   intro j i hj;refine qD g y s1.h [] hy hcd hsm o4 hlen.symm (fun j i h1 h2=>?_) j i hj (by simp);have hlt:j<s1.h.length:=by rw[<-hlen];exact aP h1
   have h2':¬j∈gids s1.bs g:=by simpa using h2
   obtain⟨r1,r2⟩:=qER o6 j s1.h[j] (List.getElem?_eq_getElem hlt) (by simpa using h2');rw[Nat.zero_add]at r2;rw[r2]at h1;injection h1 with h1;subst h1;have ht:¬j∈s'.tch:=by
    intro q;have:=List.all_eq_true.1 o7 j q;simp only[Bool.or_eq_true,List.contains_eq_mem,decide_eq_true_eq,Nat.ble_eq]at this;rcases this with q|q
    ·exact h2' q
    ·omega
   have he:=hn.h j hlt h2' ht;rw[List.getElem?_eq_getElem hlt]at he;exact⟨_,_,by rw[aO,he];rfl,by rw[aO,List.getElem?_eq_getElem hlt];rfl,r1⟩
 ·exact h.elim
end Go.Abs
