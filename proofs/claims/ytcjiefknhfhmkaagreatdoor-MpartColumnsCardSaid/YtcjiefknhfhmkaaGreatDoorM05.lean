import Derived.Test.YtcjiefknhfhmkaaGreatDoorM04
namespace Go.Abs
set_option maxRecDepth 100000
set_option maxHeartbeats 4000000
set_option linter.unusedVariables false
set_option linter.unusedSimpArgs false
theorem qCP {ops:Array Oper} {o:Oper} {s:Y} {run skip:Y->Prop} (h:gd ops o s run skip):(awanted ops s.sl o=some true/\run s)\/(awanted ops s.sl o=some false/\skip s):=by
 obtain⟨sl,hp,tch,an⟩:=s;simp only[gd]at h;split at h
 ·rename_i hg
  exact .inl ⟨by simp [awanted,hg],h⟩
 ·rename_i j want hg
  split at h
  ·rename_i d hd
   split at h
   ·rename_i b hb
    have hset:∀c,b=c->sl.set d (.v (.bool c))=sl:=by
     intro c hc;subst hc;have hlt:=aN hb;rw[List.getElem?_eq_getElem hlt]at hb;injection hb with hb;rw[<-hb,List.set_getElem_self]
    have hw:awanted ops sl o=some (b == want):=by simp only[awanted,hg,hd,Option.bind_some,hb]
    obtain⟨h1,h2⟩:=(gY b _ _).1 h;cases b with
    |true=>
     have h1:=h1 rfl;rw[dB,hset true rfl]at h1;cases want with
     |true=>exact .inl ⟨hw,h1⟩
     |false=>exact .inr ⟨hw,h1⟩
    |false=>
     have h2:=h2 rfl;rw[dB,hset false rfl]at h2;cases want with
     |true=>exact .inr ⟨hw,h2⟩
     |false=>exact .inl ⟨hw,h2⟩
   ·rename_i vs hb
    exact .inr ⟨by simp only[awanted,hg,hd,Option.bind_some,hb],h⟩
   ·exact h.elim
  ·exact h.elim
structure FrW (W:List Nat) (s s':Y):Prop where
 fr:Fr s s'
 len:s'.sl.length=s.sl.length
 sl:∀i,¬i∈W->s'.sl[i]? =s.sl[i]?
theorem FrW.refl (W:List Nat) (s:Y):FrW W s s:=⟨Fr.refl s,rfl,fun _ _=>rfl⟩
theorem FrW.trans {W:List Nat} {a b c:Y} (h1:FrW W a b) (h2:FrW W b c):FrW W a c:=⟨h1.fr.trans h2.fr,h2.len.trans h1.len,fun i hi=>(h2.sl i hi).trans (h1.sl i hi)⟩
theorem FrW.mono {W W':List Nat} {a b:Y} (h:FrW W a b) (hw:∀i,i∈W->i∈W'):FrW W' a b:=⟨h.fr,h.len,fun i hi=>h.sl i (fun q=>hi (hw i q))⟩
theorem JI (sl:List V) (d:Option Tmp) (x:V):(sput sl d x).length=sl.length:=by cases d<;>simp [sput]
theorem JH {sl:List V} {d:Option Tmp} {x:V} {i:Nat} (h:∀k,d=some k->k≠i):(sput sl d x)[i]? =sl[i]?:=by
 cases d with
 |none=>rfl
 |some k=>exact List.getElem?_set_ne (h k rfl)
theorem POL.mono {P:Program} {ops:Array Oper} {l:List Oper} {s:St} {Q Q':St->Prop} (h:POL P ops l s Q) (hq:∀s,Q s->Q' s):POL P ops l s Q':=by
 intro k hk ι a w r;refine kO ?_ _ _ _ (h k hk ι a w r);rintro e a' w' ⟨s3,ι3,⟨q1,q2⟩,r3,ev3⟩;exact⟨s3,ι3,⟨q1,hq _ q2⟩,r3,ev3⟩
theorem SP {ops:Array Oper} {sl:List V} {o:Oper} {d:Nat} {x z:V} (hd:sl[d]? =some z) (hz:qYY z=true) (hw:awanted ops sl o=some true):awanted ops (sl.set d x) o=some true:=by
 unfold awanted at hw ⊢;split
 ·rfl
 ·rename_i j want hg
  simp only[hg]at hw;cases hd0:(ops[j]?).bind (·.dst)with
  |none=>rw[hd0]at hw;cases hw
  |some d0=>
   rw[hd0]at hw;simp only[Option.bind_some]at hw ⊢;by_cases q:d0=d
   ·subst q;rw[hd]at hw;cases z<;>first|(cases hz;done)|(cases hw;done)
   ·rw[List.getElem?_set_ne (fun e=>q e.symm)];exact hw
theorem qWN {W:List Nat} {o:Op} {s:Y} {K:Y->Prop} (h:frO W o s K):∃s':Y,K s'/\FrW W s s'/\(∀(ops:Array Oper) (o':Oper),awanted ops s.sl o'=some true->awanted ops s'.sl o'=some true) /\
  ∀ {ι:Iota} {a:Act} {w:World},SR s.den ι a w->∃ι',SR s'.den ι' a w/\Evolve (dens s.h) ι w (dens s'.h) ι' w:=by
 obtain⟨sl,hp,tch,an⟩:=s;simp only[frO]at h;split at h
 ·rename_i d x id c e
  obtain⟨hc,h⟩:=(gB _ _).1 h;rw[cN,dB,eP]at h;obtain⟨h1,⟨z,h2,hz⟩,h3⟩:=qRR e hc;refine⟨_,h,⟨⟨by simp,fun j hj=>List.mem_cons_of_mem _ hj,fun j hj hn=>List.getElem?_set_ne (fun q=>hn (by rw[<-q];exact List.mem_cons_self ..))⟩,by simp,fun j hj=>List.getElem?_set_ne (fun q=>hj (by rw[<-q];exact h1))⟩,fun ops o' hw=>SP h2 hz hw,h3⟩
 ·exact⟨_,h,FrW.refl _ _,fun _ _ q=>q,fun r=>⟨_,r,Evolve.refl _ _ _⟩⟩
theorem qG9 {E:Env} (hT:aD E.P E.T) (hI:wG E) {ops:Array Oper} {rid:Nat} {W:List Nat} (hW0:∀d,d∈nC ops.toList->d∈W):∀(l:List Oper) (i:Nat) (s:Y) (K:Y->Prop),(∀o,o∈l->∀d,o.dst=some d->d∈W)->xops E ops rid l i s K ->
  POL E.P ops l s.den (fun st=>∃s',st=s'.den/\K s'/\FrW W s s')
 | [],i,s,K,_,h=>POL.nil ⟨s,rfl,h,FrW.refl _ _⟩
 |o::l,i,s,K,hW,h=>by
  rw[qKD]at h;have hdst:=hW o (by simp);have ih:∀s1:Y,FrW W s s1->xops E ops rid l (i+1) s1 K->POL E.P ops l s1.den (fun st=>∃s',st=s'.den/\K s'/\FrW W s s'):=fun s1 hf hx=>
   (qG9 hT hI hW0 l (i+1) s1 K (fun o ho=>hW o (by simp [ho])) hx).mono fun st ⟨s',q1,q2,q3⟩=>⟨s',q1,q2,hf.trans q3⟩
  have put:∀(s0 s1:Y) (x:V),FrW W s s0->s1.sl=s0.sl->Fr s0 s1->FrW W s ⟨sput s1.sl o.dst x,s1.h,s1.tch,s1.an⟩:=by
   intro s0 s1 x h0 h1 h2;refine h0.trans ⟨⟨h2.len,h2.tch,h2.h⟩,by simp only[JI,h1],fun j hj=>?_⟩;simp only[h1];exact JH (fun k hk q=>hj (q ▸ hdst k hk))
  rcases qCP h with⟨hw,hr⟩|⟨hw,hr⟩
  ·obtain⟨s0,hr,hf0,hw0,hsr⟩:=qWN hr
   have hw:=hw0 ops o hw;have hf0:FrW W s s0:=hf0.mono hW0;refine POL.post (s2:=s0.den) hsr ?_;obtain⟨sl,hp,tch,an⟩:=s0;simp only[xstep]at hr;split at hr
   ·rename_i f args hcall
    have hcl:callable E.P f=true:=by
     unfold lT at hcall;repeat' split at hcall
     all_goals first|(cases hcall;done)|skip
     injection hcall with hcall;injection hcall with q _;subst q;assumption
    refine POL.call hw hcall hcl (qQB hT hI hr) ?_;rintro x k ⟨⟨sl2,hp2,tch2,an2⟩,h1,rfl,h2,h3⟩;(try simp only at h1 h3);rw[sC]at h3;have:=ih _ (put _ ⟨sl2,hp2,tch2,an2⟩ x hf0 h1 h2) h3;subst h1;exact this
   ·have hs:=qO9 hr
    refine qPA (s:=⟨sl,hp⟩) hs hw ?_;rintro x h' ⟨h1,h2,h3⟩;rw[sC,qGY]at h1;have hf:Fr ⟨sl,hp,tch,an⟩ ⟨sl,h',wids o.op (aev sl) hp.length++tch,an⟩:=⟨h2,fun j hj=>List.mem_append.2 (.inr hj),fun j hj hn=>h3 j hj (fun q=>hn (List.mem_append.2 (.inl q)))⟩
    exact ih _ (put _ ⟨sl,h',wids o.op (aev sl) hp.length++tch,an⟩ x hf0 rfl hf) h1
  ·refine POL.no hw ?_
   (try simp only at hr);rw[sC]at hr;exact ih _ (put s s _ (FrW.refl _ _) rfl (Fr.refl _)) hr
def KN (W:List Nat):List V->Nat->List V
 | [],_=>[]
 |a::r,i=>(match W.contains i with
  |true=>.any
  |false=>a)::KN W r (i+1)
def oP (W:List Nat) (sl:List V):List V:=KN W sl 0
structure Bs where
 sl:List V
 h:List XO
def idC (c:V):Nat:=match c with
 | .oL id _=>id
 | .sO id _ _=>id
 |_=>0
def jG (b:Bs) (d:Nat):Nat:=match b.sl[d]? with
 |some c=>idC c
 |none=>0
def rE (b:Bs) (id:Nat):List V:=match b.h[id]? with
 |some (.raw (.live o))=>(match o.rows with
  | [r]=>r
  |_=>[])
 |_=>[]
def iY:(ks:List CK)->Tup (aB ks)->List V->List V
 | .same::ks,y,c::r=>c::iY ks y r
 | .val t::ks,(a,y),_::r=>t.val a::iY ks y r
 | .own _ _::ks,(l,y),c::r=>.oL (idC c) l.length::iY ks y r
 | .ows _ _::ks,(l,y),c::r=>.sO (idC c) 0 l.length::iY ks y r
 | .osf i::ks,(a,y),_::r=>rF i a::iY ks y r
 |_,_,_=>[]
def nI:(ks:List CK)->Tup (aB ks)->List V->List XO->List XO
 | .same::ks,y,_::r,h=>nI ks y r h
 | .val _::ks,(_,y),_::r,h=>nI ks y r h
 | .osf _::ks,(_,y),_::r,h=>nI ks y r h
 | .own t e::ks,(l,y),c::r,h=>nI ks y r (h.set (idC c) (.opt t l e))
 | .ows t e::ks,(l,y),c::r,h=>nI ks y r (h.set (idC c) (.tl t l e))
 |_,_,_,h=>h
def qOF (b:Bs) (id:Nat) (r:List V):XO:=match b.h[id]? with
 |some (.raw (.live o))=>.raw (.live ⟨o.sz,[r],o.elem⟩)
 |_=>.raw .dead
def gR:(g:List GK)->Tup (gts g)->Bs->List V->List V
 | [],_,_,l=>l
 | .sl d t::g,(y,r),b,l=>gR g r b (l.set d (t.val y))
 | .lst d t e::g,(y,r),b,l=>gR g r b (l.set d (.oL (jG b d) y.length))
 | .nls d t e::g,(y,r),b,l=>gR g r b (l.set d (.sO (jG b d) 0 y.length))
 | .ob _ _ _::g,(y,r),b,l=>gR g r b l
 | .ar _ _ _::g,(y,r),b,l=>gR g r b l
 | .op _ _ _::g,(y,r),b,l=>gR g r b l
 | .row _ ks::g,y,b,l=>match uL (aB ks) (gts g) y with
   |(_,q)=>gR g q b l
def gT:(g:List GK)->Tup (gts g)->Bs->List XO->List XO
 | [],_,_,h=>h
 | .sl _ _::g,(y,r),b,h=>gT g r b h
 | .lst d t e::g,(y,r),b,h=>gT g r b (h.set (jG b d) (.opt t y e))
 | .nls d t e::g,(y,r),b,h=>gT g r b (h.set (jG b d) (.tl t y e))
 | .ob id t e::g,(y,r),b,h=>gT g r b (h.set id (.ob t y e))
 | .ar id t e::g,(y,r),b,h=>gT g r b (h.set id (.tl t y e))
 | .op id t e::g,(y,r),b,h=>gT g r b (h.set id (.opt t y e))
 | .row id ks::g,y,b,h=>match uL (aB ks) (gts g) y with
   |(c,q)=>gT g q b (nI ks c (rE b id) (h.set id (qOF b id (iY ks c (rE b id)))))
def rdK:(ks:List CK)->List V->List XO->Option (Tup (aB ks))
 | [],[],_=>some ()
 | .same::ks,_::r,h=>rdK ks r h
 | .val t::ks,c::r,h=>match un (cQ 8) t [c],rdK ks r h with
   |some (a,[]),some q=>some (a,q)
   |_,_=>none
 | .osf i::ks,c::r,h=>match IW i c,rdK ks r h with
   |some a,some q=>some (a,q)
   |_,_=>none
 | .own t e::ks,c::r,h=>match c with
   | .oL id _=>match h[id]? with
     |some (.opt _ l e')=>if e'=e then match gK (t':=t) l,rdK ks r h with
      |some l,some q=>some (l,q)
      |_,_=>none
      else none
     |_=>none
   |_=>none
 | .ows t e::ks,c::r,h=>match c with
   | .sO id 0 _=>match h[id]? with
     |some (.tl _ l e')=>if e'=e then match gK (t':=t) l,rdK ks r h with
      |some l,some q=>some (l,q)
      |_,_=>none
      else none
     |_=>none
   |_=>none
 |_,_,_=>none
def cdK:(ks:List CK)->List V->List XO->List Bool
 | .own _ _::ks,c::r,h=>fZ h c++cdK ks r h
 | .ows _ _::ks,c::r,h=>fZ h c++cdK ks r h
 |_::ks,_::r,h=>cdK ks r h
 |_,_,_=>[]
def JC:(ks:List CK)->List V->List V->Prop->Prop
 | .same::ks,c'::r',c::r,A=>c'=c/\JC ks r' r A
 | .val _::ks,_::r',_::r,A=>JC ks r' r A
 | .own _ _::ks,_::r',_::r,A=>JC ks r' r A
 | .ows _ _::ks,_::r',_::r,A=>JC ks r' r A
 | .osf _::ks,_::r',_::r,A=>JC ks r' r A
 | [],_,_,A=>A
 |_,_,_,_=>False
def oV:(ks:List CK)->List V->List Nat
 | .own _ _::ks,c::r=>idC c::oV ks r
 | .ows _ _::ks,c::r=>idC c::oV ks r
 |_::ks,_::r=>oV ks r
 |_,_=>[]
def qBK:(ks:List CK)->List V->List V->List Nat->List Nat
 | .own _ _::ks,c::r,c'::r',σ=>qBK ks r r' (σ.set (idC c) (idC c'))
 | .ows _ _::ks,c::r,c'::r',σ=>qBK ks r r' (σ.set (idC c) (idC c'))
 |_::ks,_::r,_::r',σ=>qBK ks r r' σ
 |_,_,_,σ=>σ
def qQ (σ:List Nat):(ks:List CK)->List V->List V->Bool
 | .own _ _::ks,c::r,c'::r'=>(σ[idC c]? == some (idC c'))&&qQ σ ks r r'
 | .ows _ _::ks,c::r,c'::r'=>(σ[idC c]? == some (idC c'))&&qQ σ ks r r'
 |_::ks,_::r,_::r'=>qQ σ ks r r'
 |_,_,_=>true
def rdG:(g:List GK)->List V->List XO->Option (Tup (gts g))
 | [],_,_=>some ()
 | .sl d t::g,sl,h=>match sl[d]? with
   |some v=>match un (cQ 8) t (fC t v),rdG g sl h with
    |some (a,[]),some r=>some (a,r)
    |_,_=>none
   |none=>none
 | .lst d t e::g,sl,h=>match sl[d]? with
   |some (.oL id _)=>match h[id]? with
    |some (.opt _ l e')=>if e'=e then match gK (t':=t) l,rdG g sl h with
     |some l,some r=>some (l,r)
     |_,_=>none
     else none
    |_=>none
   |_=>none
 | .nls d t e::g,sl,h=>match sl[d]? with
   |some (.sO id 0 _)=>match h[id]? with
    |some (.tl _ l e')=>if e'=e then match gK (t':=t) l,rdG g sl h with
     |some l,some r=>some (l,r)
     |_,_=>none
     else none
    |_=>none
   |_=>none
 | .ob id t e::g,sl,h=>match h[id]? with
   |some o=>(match KE t e o,rdG g sl h with
    |some a,some q=>some (a,q)
    |_,_=>none)
   |_=>none
 | .ar id t e::g,sl,h=>match h[id]? with
   |some (.tl _ l e')=>if e'=e then match gK (t':=t) l,rdG g sl h with
    |some l,some r=>some (l,r)
    |_,_=>none
    else none
   |_=>none
 | .op id t e::g,sl,h=>match h[id]? with
   |some (.opt _ l e')=>if e'=e then match gK (t':=t) l,rdG g sl h with
    |some l,some r=>some (l,r)
    |_,_=>none
    else none
   |_=>none
 | .row id ks::g,sl,h=>match rdK ks (rE ⟨sl,h⟩ id) h,rdG g sl h with
   |some c,some q=>some (aC (aB ks) (gts g) c q)
   |_,_=>none
def cdG (h:List XO) (sl:List V):List GK->List Bool
 | []=>[]
 | .lst d _ _::g=>(match sl[d]? with
   |some v=>fZ h v
   |none=>[])++cdG h sl g
 | .nls d _ _::g=>(match sl[d]? with
   |some v=>fZ h v
   |none=>[])++cdG h sl g
 | .row id ks::g=>cdK ks (rE ⟨sl,h⟩ id) h++cdG h sl g
 |_::g=>cdG h sl g
def AA (b b':Bs):List GK->Prop->Prop
 | [],A=>A
 | .row id ks::g,A=>JC ks (rE b' id) (rE b id) (AA b b' g A)
 | .sl _ _::g,A=>AA b b' g A
 | .lst _ _ _::g,A=>AA b b' g A
 | .nls _ _ _::g,A=>AA b b' g A
 | .ob _ _ _::g,A=>AA b b' g A
 | .ar _ _ _::g,A=>AA b b' g A
 | .op _ _ _::g,A=>AA b b' g A
def gslots:List GK->List Nat
 | []=>[]
 | .sl d _::g=>d::gslots g
 | .lst d _ _::g=>d::gslots g
 | .nls d _ _::g=>d::gslots g
 |_::g=>gslots g
def gids (b:Bs):List GK->List Nat
 | []=>[]
 | .sl _ _::g=>gids b g
 | .lst d _ _::g=>jG b d::gids b g
 | .nls d _ _::g=>jG b d::gids b g
 | .ob id _ _::g=>id::gids b g
 | .ar id _ _::g=>id::gids b g
 | .op id _ _::g=>id::gids b g
 | .row id ks::g=>id::(oV ks (rE b id)++gids b g)
def sig (g:List GK) (b b':Bs) (σ:List Nat):List Nat:=match g with
 | []=>σ
 | .lst d _ _::g=>sig g b b' (σ.set (jG b d) (jG b' d))
 | .nls d _ _::g=>sig g b b' (σ.set (jG b d) (jG b' d))
 | .row id ks::g=>sig g b b' (qBK ks (rE b id) (rE b' id) σ)
 |_::g=>sig g b b' σ
def niV:Nat->V->Bool
 |0,_=>false
 |n+1,x=>match x with
  | .v _=>true
  | .any=>true
  | .sL _ _=>true
  | .pF row _=>row.all (niV n)
  | .sF _ rows=>rows.all (·.all (niV n))
  | .agg xs=>xs.all (niV n)
  | .tup xs=>xs.all (niV n)
  |_=>false
theorem BW:∀ {n:Nat} {x:V},niV n x=true->NI 0 x
 |0,x,h=>by simp [niV]at h
 |n+1,x,h=>by
  cases x with
  |v x=>exact .v _
  |any=>exact .any
  |sL t l=>exact .sL _ _
  |pF row o=>exact .pF o fun x hx=>BW (List.all_eq_true.1 h x hx)
  |sF sz rows=>exact .sF sz fun r hr x hx=>BW (List.all_eq_true.1 (List.all_eq_true.1 h r hr) x hx)
  |agg xs=>exact .agg fun x hx=>BW (List.all_eq_true.1 h x hx)
  |tup xs=>exact .tup fun x hx=>BW (List.all_eq_true.1 h x hx)
  |_=>cases h
def ZW (σ:List Nat) (id:Nat):Bool:=σ[id]? == some id
def HY (σ:List Nat):Nat->V->Bool
 |0,_=>false
 |n+1,x=>match x with
  | .v _=>true
  | .any=>true
  | .pO id _ _=>ZW σ id
  | .sO id _ _=>ZW σ id
  | .oL id _=>ZW σ id
  | .sL _ _=>true
  | .agg xs=>xs.all (HY σ n)
  | .tup xs=>xs.all (HY σ n)
  | .fn _ a b=>a.all (HY σ n)&&b.all (HY σ n)
  | .ifc _ x=>HY σ n x
  | .pF row _=>row.all (niV 6)
  | .sF _ rows=>rows.all (·.all (niV 6))
def qL (σ:List Nat):(ks:List CK)->List V->Bool
 | [],[]=>true
 | .same::ks,c::r=>HY σ 6 c&&qL σ ks r
 | .val t::ks,_::r=>(match t with| .pair _ _=>false|_=>true)&&qL σ ks r
 | .own _ _::ks,_::r=>qL σ ks r
 | .ows _ _::ks,_::r=>qL σ ks r
 | .osf i::ks,_::r=>ZW σ i&&qL σ ks r
 |_,_=>false
def qCY (b:Bs) (id:Nat):Option (Nat×El):=match b.h[id]? with
 |some (.raw (.live o))=>(match o.rows with
  | [_]=>some (o.sz,o.elem)
  |_=>none)
 |_=>none
def qD2 (b b':Bs) (id:Nat):Bool:=match qCY b id,qCY b' id with
 |some (s,e),some (s',e')=>Nat.beq s s'&&(Nat.beq e.t e'.t&&Nat.beq e.fz e'.fz)
 |_,_=>false
def jQ (σ:List Nat) (b b':Bs):List GK->Bool
 | []=>true
 | .sl _ _::g=>jQ σ b b' g
 | .lst d _ _::g=>(σ[jG b d]? == some (jG b' d))&&jQ σ b b' g
 | .nls d _ _::g=>(σ[jG b d]? == some (jG b' d))&&jQ σ b b' g
 | .ob id _ _::g=>(σ[id]? == some id)&&jQ σ b b' g
 | .ar id _ _::g=>(σ[id]? == some id)&&jQ σ b b' g
 | .op id _ _::g=>(σ[id]? == some id)&&jQ σ b b' g
 | .row id ks::g=>(σ[id]? == some id)&&(qQ σ ks (rE b id) (rE b' id)&&(qL σ ks (rE b id)&&(qD2 b b' id&&jQ σ b b' g)))
def qYM (σ:List Nat):XO->Bool
 | .raw (.live o)=>o.rows.all (·.all (HY σ 6))
 | .raw .dead=>true
 | .raw .free=>false
 | .row1 _ _ _ _ _=>false
 |_=>true
def RE:List Nat->Bool
 | []=>true
 |x::xs=>!xs.contains x&&RE xs
def qMN (σ gi:List Nat):List XO->Nat->Bool
 | [],_=>true
 |o::r,j=>(gi.contains j||(qYM σ o&&(σ[j]? == some j)))&&qMN σ gi r (j+1)
def qMY (n0:Nat) (σ:List Nat):Bool:=(List.range n0).all fun j=>σ[j]? == some j
def Y.bs (s:Y):Bs:=⟨s.sl,s.h⟩
def okG (n0:Nat) (W:List Nat) (g:List GK) (s1 s':Y) (σ:List Nat):Bool:=
 RE σ&&qMY n0 σ&&σ.all (fun i=>Nat.blt i s'.h.length)&&jQ σ s1.bs s'.bs g&&(oP W s1.sl).all (HY σ 6)&&qMN σ (gids s1.bs g) s1.h 0 &&
  s'.tch.all (fun j=>(gids s1.bs g).contains j||Nat.ble s1.h.length j)&&(gslots g).all (fun d=>W.contains d)
def arrive (n0:Nat) (W:List Nat) (g:List GK) (s1 s':Y) (k:Tup (gts g)->Prop):Prop:=
 match rdG g s'.sl s'.h with
 |some y=>needs (cdG s'.h s'.sl g) (AA s1.bs s'.bs g (Kern (okG n0 W g s1 s' (sig g s1.bs s'.bs (List.range s1.h.length)))/\k y))
 |none=>False
def DT:List GK->List V->List XO->(List V->List XO->Prop)->Prop
 | [],sl,h,K=>K sl h
 | .lst d t e::g,sl,h,K=>match sl[d]? with
   |some (.v (.slice none 0 0))=>fN h.length fun n=>jZ sl d (.oL n 0) fun sl=>fH (h++ [XO.opt t [] e]) fun h=>DT g sl h K
   |_=>DT g sl h K
 |_::g,sl,h,K=>DT g sl h K
def dV (n:Nat):List CK->List V->List V×List XO
 | .own t e::ks,c::r=>match c with
   | .v (.slice none 0 0)=>(.oL n 0::(dV (n+1) ks r).1,.opt t [] e::(dV (n+1) ks r).2)
   |c=>(c::(dV n ks r).1,(dV n ks r).2)
 |_::ks,c::r=>(c::(dV n ks r).1,(dV n ks r).2)
 |_,r=>(r,[])
def DU:List GK->List XO->(List XO->Prop)->Prop
 | .row id ks::g,h,K=>match h[id]? with
   |some (.raw (.live o))=>(match o.rows with
    | [r]=>match dV h.length ks r with
      |(r',new)=>fH ((h++new).set id (.raw (.live ⟨o.sz,[r'],o.elem⟩))) fun h=>DU g h K
    |_=>DU g h K)
   |_=>DU g h K
 |_::g,h,K=>DU g h K
 | [],h,K=>K h
def mD:List GK->List Nat
 | []=>[]
 | .row id _::g=>id::mD g
 |_::g=>mD g
theorem eV {b:Bs}:∀ {g:List GK} {j:Nat},j∈mD g->j∈gids b g
 | .sl _ _::g,j,h=>eV (g:=g) h
 | .lst _ _ _::g,j,h=>List.mem_cons_of_mem _ (eV (g:=g) h)
 | .nls _ _ _::g,j,h=>List.mem_cons_of_mem _ (eV (g:=g) h)
 | .ob _ _ _::g,j,h=>List.mem_cons_of_mem _ (eV (g:=g) h)
 | .ar _ _ _::g,j,h=>List.mem_cons_of_mem _ (eV (g:=g) h)
 | .op _ _ _::g,j,h=>List.mem_cons_of_mem _ (eV (g:=g) h)
 | .row id ks::g,j,h=>by
   simp only[mD,List.mem_cons]at h;simp only[gids,List.mem_cons,List.mem_append];exact h.imp (fun q=>q) fun q=>.inr (eV (g:=g) q)
def zM (g:List GK) (sl:List V) (h:List XO) (K:List V->List XO->Prop):Prop:=DT g sl h fun sl h=>DU g h fun h=>K sl h
theorem SR.dead {sl:List V} {h:Heap} {ι:Iota} {a:Act} {w:World} (r:SR ⟨sl,h⟩ ι a w):SR ⟨sl,h++ [.dead]⟩ ι a w/\Evolve h ι w (h++ [.dead]) ι w:=by
 obtain⟨r1,ev1⟩:=r.reserve 1;have hf:(h++List.replicate 1 HS.free)[h.length]? =some .free:=by simp
 obtain⟨h2,ev2⟩:=r1.heap.fill hf;have hd:(h++List.replicate 1 HS.free).set h.length .dead=h++ [.dead]:=by simp
 simp only[hd]at h2 ev2;exact⟨⟨r1.defers,r1.slots.mono ev2,h2⟩,ev1.trans ev2⟩
theorem SR.deads {sl:List V} {ι:Iota} {a:Act} {w:World}:∀(n:Nat) {h:Heap},SR ⟨sl,h⟩ ι a w->SR ⟨sl,h++List.replicate n .dead⟩ ι a w/\Evolve h ι w (h++List.replicate n .dead) ι w
 |0,h,r=>by simp only[List.replicate_zero,List.append_nil];exact⟨r,Evolve.refl _ _ _⟩
 |n+1,h,r=>by
  obtain⟨r1,ev1⟩:=r.dead;obtain⟨r2,ev2⟩:=SR.deads n r1;have e:h++ [HS.dead]++List.replicate n HS.dead=h++List.replicate (n+1) .dead:=by rw[List.append_assoc];rfl
  rw[e]at r2 ev2;exact⟨r2,ev1.trans ev2⟩
theorem LE.oL0 (n:Nat):LE (.v (.slice none 0 0)) (.oL n 0):=fun r=>.oL _ _ _ (by rw[if_pos rfl];exact r)
theorem jW:∀(g:List GK) (sl:List V) (h:List XO) (K:List V->List XO->Prop),DT g sl h K ->
  ∃sl' h',K sl' h'/\sl'.length=sl.length/\(∀i,¬i∈gslots g->sl'[i]? =sl[i]?)/\h.length<=h'.length/\(∀j,j<h.length->h'[j]? =h[j]?) /\
   ∀ {ι:Iota} {a:Act} {w:World},SR ⟨sl,dens h⟩ ι a w->SR ⟨sl',dens h'⟩ ι a w/\Evolve (dens h) ι w (dens h') ι w
 | [],sl,h,K,q=>⟨sl,h,q,rfl,fun _ _=>rfl,Nat.le_refl _,fun _ _=>rfl,fun r=>⟨r,Evolve.refl _ _ _⟩⟩
 | .sl d _::g,sl,h,K,q=>by
   obtain⟨sl',h',q1,q2,q3,q4⟩:=jW g sl h K q;exact⟨sl',h',q1,q2,fun i hi=>q3 i (fun q=>hi (by simp [gslots,q])),q4⟩
 | .nls d _ _::g,sl,h,K,q=>by
   obtain⟨sl',h',q1,q2,q3,q4⟩:=jW g sl h K q;exact⟨sl',h',q1,q2,fun i hi=>q3 i (fun q=>hi (by simp [gslots,q])),q4⟩
 | .ob _ _ _::g,sl,h,K,q=>jW g sl h K q
 | .ar _ _ _::g,sl,h,K,q=>jW g sl h K q
 | .op _ _ _::g,sl,h,K,q=>jW g sl h K q
 | .row _ _::g,sl,h,K,q=>jW g sl h K q
 | .lst d t e::g,sl,h,K,q=>by
   have skip:DT g sl h K->∃sl' h',K sl' h'/\sl'.length=sl.length/\(∀i,¬i∈gslots (.lst d t e::g)->sl'[i]? =sl[i]?)/\h.length<=h'.length/\(∀j,j<h.length->h'[j]? =h[j]?) /\
     ∀ {ι:Iota} {a:Act} {w:World},SR ⟨sl,dens h⟩ ι a w->SR ⟨sl',dens h'⟩ ι a w/\Evolve (dens h) ι w (dens h') ι w:=fun q=>by
    obtain⟨sl',h',q1,q2,q3,q4⟩:=jW g sl h K q;exact⟨sl',h',q1,q2,fun i hi=>q3 i (fun q=>hi (by simp [gslots,q])),q4⟩
   simp only[DT]at q;split at q
   ·rename_i hd
    rw[jM,dB,eP]at q;obtain⟨sl',h',q1,q2,q3,q4,q5,q6⟩:=jW g _ _ K q;refine⟨sl',h',q1,by simpa using q2,fun i hi=>?_,by simp at q4;omega,fun j hj=>?_,fun{ι a w} r=>?_⟩
    ·simp only[gslots,List.mem_cons,not_or]at hi
     rw[q3 i hi.2,List.getElem?_set_ne (Ne.symm hi.1)]
    ·rw[q5 j (by simp;omega),List.getElem?_append_left hj]
    ·obtain⟨r1,ev1⟩:=r.dead
     have hden:dens h++ [HS.dead]=dens (h++ [XO.opt t [] e]):=by simp [dens,XO.den]
     rw[hden]at r1 ev1;obtain⟨r2,ev2⟩:=q6 (r1.setLE hd (LE.oL0 h.length));exact⟨r2,ev1.trans ev2⟩
   ·exact skip q
theorem mB:∀(ks:List CK) (r:List V) (n:Nat),(dV n ks r).1.length=r.length/\dens (dV n ks r).2=List.replicate (dV n ks r).2.length .dead/\∀(i:Nat) (x y:V),r[i]? =some x->(dV n ks r).1[i]? =some y->LE x y
 | [],r,n=>⟨by cases r<;>rfl,by cases r<;>rfl,fun i x y h1 h2=>by cases r<;>(simp [dV]at h2 h1;try(rw[h1]at h2;injection h2 with h2;subst h2;exact LE.refl _))⟩
 | .same::_,[],n=>⟨rfl,rfl,fun i x y h=>by simp at h⟩
 | .osf _::_,[],n=>⟨rfl,rfl,fun i x y h=>by simp at h⟩
 | .val _::_,[],n=>⟨rfl,rfl,fun i x y h=>by simp at h⟩
 | .own _ _::_,[],n=>⟨rfl,rfl,fun i x y h=>by simp at h⟩
 | .ows _ _::_,[],n=>⟨rfl,rfl,fun i x y h=>by simp at h⟩
 | .same::ks,c::r,n=>by
   obtain⟨q1,q2,q3⟩:=mB ks r n;exact⟨by simp [dV,q1],q2,fun i x y h1 h2=>by
    cases i with
    |zero=>simp [dV]at h1 h2;rw[<-h1,<-h2];exact LE.refl _
    |succ i=>exact q3 i x y (by simpa using h1) (by simpa [dV]using h2)⟩
 | .val _::ks,c::r,n=>by
   obtain⟨q1,q2,q3⟩:=mB ks r n;exact⟨by simp [dV,q1],q2,fun i x y h1 h2=>by
    cases i with
    |zero=>simp [dV]at h1 h2;rw[<-h1,<-h2];exact LE.refl _
    |succ i=>exact q3 i x y (by simpa using h1) (by simpa [dV]using h2)⟩
 | .osf _::ks,c::r,n=>by
   obtain⟨q1,q2,q3⟩:=mB ks r n;exact⟨by simp [dV,q1],q2,fun i x y h1 h2=>by
    cases i with
    |zero=>simp [dV]at h1 h2;rw[<-h1,<-h2];exact LE.refl _
    |succ i=>exact q3 i x y (by simpa using h1) (by simpa [dV]using h2)⟩
 | .own t e::ks,c::r,n=>by
   obtain⟨p1,p2,p3⟩:=mB ks r (n+1);obtain⟨q1,q2,q3⟩:=mB ks r n;simp only[dV];split
   ·refine⟨by simp [p1],by simp only[List.length_cons,List.replicate_succ,<-p2];rfl,fun i x y h1 h2=>?_⟩
    cases i with
    |zero=>simp at h1 h2;rw[<-h1,<-h2];exact LE.oL0 _
    |succ i=>exact p3 i x y (by simpa using h1) (by simpa using h2)
   ·refine⟨by simp [q1],q2,fun i x y h1 h2=>?_⟩
    cases i with
    |zero=>simp at h1 h2;rw[<-h1,<-h2];exact LE.refl _
    |succ i=>exact q3 i x y (by simpa using h1) (by simpa using h2)
 | .ows _ _::ks,c::r,n=>by
   obtain⟨q1,q2,q3⟩:=mB ks r n;exact⟨by simp [dV,q1],q2,fun i x y h1 h2=>by
    cases i with
    |zero=>simp [dV]at h1 h2;rw[<-h1,<-h2];exact LE.refl _
    |succ i=>exact q3 i x y (by simpa using h1) (by simpa [dV]using h2)⟩
theorem lE:∀(g:List GK) (h:List XO) (K:List XO->Prop),DU g h K ->
  ∃h',K h'/\h.length<=h'.length/\(∀j,j<h.length->¬j∈mD g->h'[j]? =h[j]?) /\
   ∀ {sl:List V} {ι:Iota} {a:Act} {w:World},SR ⟨sl,dens h⟩ ι a w->SR ⟨sl,dens h'⟩ ι a w/\Evolve (dens h) ι w (dens h') ι w
 | [],h,K,q=>⟨h,q,Nat.le_refl _,fun _ _ _=>rfl,fun r=>⟨r,Evolve.refl _ _ _⟩⟩
 | .sl _ _::g,h,K,q=>lE g h K q
 | .lst _ _ _::g,h,K,q=>lE g h K q
 | .nls _ _ _::g,h,K,q=>lE g h K q
 | .ob _ _ _::g,h,K,q=>lE g h K q
 | .ar _ _ _::g,h,K,q=>lE g h K q
 | .op _ _ _::g,h,K,q=>lE g h K q
 | .row id ks::g,h,K,q=>by
   have skip:DU g h K->∃h',K h'/\h.length<=h'.length/\(∀j,j<h.length->¬j∈mD (.row id ks::g)->h'[j]? =h[j]?) /\
     ∀ {sl:List V} {ι:Iota} {a:Act} {w:World},SR ⟨sl,dens h⟩ ι a w->SR ⟨sl,dens h'⟩ ι a w/\Evolve (dens h) ι w (dens h') ι w:=fun q=>by
    obtain⟨h',q1,q2,q3,q4⟩:=lE g h K q;exact⟨h',q1,q2,fun j hj hn=>q3 j hj (fun hb=>hn (by simp [mD,hb])),q4⟩
   simp only[DU]at q;split at q
   ·rename_i o ho
    split at q
    ·rename_i r hr
     rw[eP]at q;obtain⟨n1,n2,n3⟩:=mB ks r h.length;generalize hr':(dV h.length ks r).1=r' at n1 n3 q;generalize hnew:(dV h.length ks r).2=new at n2 q;obtain⟨h',q1,q2,q3,q4⟩:=lE g _ K q;have hid:=aN ho;refine⟨h',q1,by simp at q2;omega,fun j hj hn=>?_,fun{sl ι a w} r0=>?_⟩
     ·rw[q3 j (by simp;omega) (fun hb=>hn (by simp [mD,hb])),List.getElem?_set_ne (fun q=>hn (by simp [mD,q])),List.getElem?_append_left hj]
     ·obtain⟨r1,ev1⟩:=SR.deads new.length r0
      rw[<-n2,<-qV]at r1 ev1;have hd:(dens (h++new))[id]? =some (.live o):=by rw[aM,List.getElem?_append_left hid,ho];rfl
      obtain⟨H2,ev2⟩:=r1.heap.weakObj (o':=⟨o.sz,[r'],o.elem⟩) hd rfl rfl (by rw[hr];rfl) (fun i r1 r2 h1 h2=>by
       rw[hr]at h1;cases i with
       |zero=>simp at h1 h2;subst h1 h2;exact⟨n1.symm,n3⟩
       |succ i=>simp at h1)
      have e:(dens (h++new)).set id (.live ⟨o.sz,[r'],o.elem⟩)=dens ((h++new).set id (.raw (.live ⟨o.sz,[r'],o.elem⟩))):=by rw[aZ];rfl
      simp only[e]at H2 ev2;obtain⟨r3,ev3⟩:=q4 (sl:=sl) (ι:=ι) (a:=a) (w:=w) ⟨r1.defers,r1.slots.mono ev2,H2⟩;exact⟨r3,(ev1.trans ev2).trans ev3⟩
    ·exact skip q
   ·exact skip q
theorem zN {g:List GK} {sl:List V} {h:List XO} {K:List V->List XO->Prop} (q:zM g sl h K) :
  ∃sl' h',K sl' h'/\sl'.length=sl.length/\(∀i,¬i∈gslots g->sl'[i]? =sl[i]?)/\h.length<=h'.length/\(∀j,j<h.length->¬j∈mD g->h'[j]? =h[j]?) /\
   ∀ {ι:Iota} {a:Act} {w:World},SR ⟨sl,dens h⟩ ι a w->SR ⟨sl',dens h'⟩ ι a w/\Evolve (dens h) ι w (dens h') ι w:=by
 obtain⟨sl',h1,q1,q2,q3,q4,q5,q6⟩:=jW g sl h _ q;obtain⟨h',r1,r2,r3,r4⟩:=lE g h1 _ q1;refine⟨sl',h',r1,q2,q3,Nat.le_trans q4 r2,fun j hj hn=>(r3 j (Nat.lt_of_lt_of_le hj q4) hn).trans (q5 j hj),fun{ι a w} r=>?_⟩;obtain⟨s1,e1⟩:=q6 r;obtain⟨s2,e2⟩:=r4 s1;exact⟨s2,e1.trans e2⟩
def rG (h:List XO):List (Nat×XO)->List XO
 | []=>h
 |p::r=>rG (h.set p.1 p.2) r
def pden (l:List (Nat×XO)):List (Nat×HS):=l.map fun p=>(p.1,p.2.den)
theorem rQ:∀(l:List (Nat×XO)) (h:List XO),dens (rG h l)=bH (dens h) (pden l)
 | [],_=>rfl
 |p::r,h=>by
  show dens (rG (h.set p.1 p.2) r)=bH ((dens h).set p.1 p.2.den) (pden r);rw[rQ r,aZ]
def ovX (F:List Nat) (h:List XO):Heap->Nat->List XO
 | [],_=>[]
 |c::k,i=>(if F.contains i then(match h[i]? with
  |some o=>o
  |none=>.raw c)else .raw c)::ovX F h k (i+1)
theorem vJ {F:List Nat} {h:List XO}:∀ {k:Heap} {i:Nat},(∀j,(i+j)∈F->k[j]? =(dens h)[i+j]?)->dens (ovX F h k i)=k
 | [],i,_=>rfl
 |c::k,i,hk=>by
  have ih:=vJ (F:=F) (h:=h) (k:=k) (i:=i+1) (fun j hj=>by
   have:=hk (j+1) (by rwa [show i+(j+1)=i+1+j by omega]);rwa [show i+(j+1)=i+1+j by omega]at this)
  have hd:dens (ovX F h (c::k) i)=XO.den (if F.contains i then(match h[i]? with|some o=>o|none=>.raw c)else .raw c)::dens (ovX F h k (i+1)):=rfl
  rw[hd,ih];congr 1
  by_cases hw:i∈F
  ·rw[if_pos (by simpa using hw)]
   have:=hk 0 (by simpa using hw);rw[Nat.add_zero,aM]at this;cases hq:h[i]? with
   |none=>rfl
   |some o=>rw[hq]at this;simp at this;exact this.symm
  ·rw[if_neg (by simpa using hw)];rfl
theorem vK {F:List Nat} {h:List XO}:∀ {k:Heap} {i j:Nat},(i+j)∈F->k[j]? =(dens h)[i+j]? ->(ovX F h k i)[j]? =h[i+j]?
 | [],i,j,hj,hk=>by
   rw[aM]at hk;cases hq:h[i+j]? with
   |none=>simp [ovX]
   |some o=>rw[hq]at hk;simp at hk
 |c::k,i,0,hj,hk=>by
  rw[Nat.add_zero]at hj hk ⊢;rw[aM]at hk;simp only[ovX,List.getElem?_cons_zero];rw[if_pos (by simpa using hj)];cases hq:h[i]? with
  |none=>rw[hq]at hk;simp at hk
  |some o=>rfl
 |c::k,i,j+1,hj,hk=>by
  simp only[ovX,List.getElem?_cons_succ];rw[show i+(j+1)=i+1+j by omega]at hj hk ⊢;exact vK hj (by simpa using hk)
theorem KQ {h h2:List XO} {ty:Ty} {e:TypeId}:∀ {x:V},(∀id,id∈aO x->h2[id]? =h[id]?)->bsX h2 ty e x=bsX h ty e x
 | .sO id 0 len,hx=>by simp only[bsX];rw[hx id (by simp [aO])]
 | .sO id (n+1) len,hx=>rfl
 | .oL id n,hx=>by simp only[bsX];rw[hx id (by simp [aO])]
 | .v x,_=>by unfold bsX;split<;>first|rfl|simp_all
 | .any,_=>rfl
 | .pF _ _,_=>rfl
 | .pO _ _ _,_=>rfl
 | .sF _ _,_=>rfl
 | .agg _,_=>rfl
 | .tup _,_=>rfl
 | .fn _ _ _,_=>rfl
 | .ifc _ _,_=>rfl
 | .sL _ _,_=>rfl
theorem OG {h h2:List XO} {ty:Ty}:∀ {x:V},(∀id,id∈aO x->h2[id]? =h[id]?)->rdX h2 ty x=rdX h ty x
 | .sO id off len,hx=>by simp only[rdX];rw[hx id (by simp [aO])]
 | .oL id n,hx=>by simp only[rdX];rw[hx id (by simp [aO])]
 | .v x,_=>by unfold rdX;split<;>first|rfl|simp_all
 | .any,_=>rfl
 | .pF _ _,_=>rfl
 | .pO _ _ _,_=>rfl
 | .sF _ _,_=>rfl
 | .agg _,_=>rfl
 | .tup _,_=>rfl
 | .fn _ _ _,_=>rfl
 | .ifc _ _,_=>rfl
 | .sL _ _,_=>rfl
theorem qID {P:Program} {h h':List XO} {new:Nat} {t:TypeId} {same:Bool} {n m:Int} {cs:List Bool} {x:V} (e:dmake P h new t same n m=some (cs,x,h')) :
  ∃o:XO,h'=h.set new o/\∀h2,dmake P h2 new t same n m=some (cs,x,h2.set new o):=by
 unfold dmake at e;split at e
 ·rename_i el hu
  split at e
  ·rename_i ty s zs b hty hs hz hb
   split at e
   ·rename_i hsz
    split at e
    ·rename_i d hd
     injection e with e;injection e with e1 e2;injection e2 with e2 e3;subst e1 e2 e3;exact⟨_,rfl,fun h2=>by simp only[dmake,hu,hty,hs,hz,hb,if_pos hsz,hd]⟩
    ·cases e
   ·cases e
  ·cases e
 ·cases e
theorem QH {P:Program} {h h':List XO} {new:Nat} {s d:TypeId} {v:V} {cs:List Bool} {x:V} (e:mT P h new s d v=some (cs,x,h')) :
  ∃o:XO,h'=h.set new o/\∀h2,mT P h2 new s d v=some (cs,x,h2.set new o):=by
 unfold mT at e;split at e
 ·rename_i b el hs hd
  split at e
  ·rename_i hel
   injection e with e;injection e with e1 e2;injection e2 with e2 e3;subst e1 e2 e3;exact⟨_,rfl,fun h2=>by simp only[mT,hs,hd,hel]⟩
  ·cases e
 ·cases e
theorem TS {P:Program} {h h':List XO} {new:Nat} {tys:Array TypeId} {v u:V} {cs:List Bool} {x:V} (e:dappend P h new tys v u=some (cs,x,h')) :
  ∃(k:Option Nat) (o:XO),(∀id,k=some id->id∈aO v)/\h'=(cK h k).set new o/\∀h2:List XO,(∀id,id∈aO v->h2[id]? =h[id]?)->(∀id,id∈aO u->h2[id]? =h[id]?)->dappend P h2 new tys v u=some (cs,x,(cK h2 k).set new o):=by
 unfold dappend at e;split at e
 ·rename_i t0 t1 ht0 ht1
  split at e
  ·rename_i el hu
   split at e
   ·rename_i hst
    split at e
    ·rename_i ty s b zs hty hs hb hz
     split at e
     ·rename_i hsz
      split at e
      ·rename_i c1 l1 k c2 l2 hbs hrd
       injection e with e;injection e with e1 e2;injection e2 with e2 e3;subst e1 e2 e3;refine⟨k,_,PT hbs,rfl,fun h2 h3 h4=>?_⟩;have q1:=(KQ (ty:=ty) (e:=el) h3).trans hbs;have q2:=(OG (ty:=ty) h4).trans hrd;simp only[dappend,ht0,ht1,hu,if_pos hst,hty,hs,hb,hz,if_pos hsz,q1,q2]
      ·cases e
     ·cases e
    ·cases e
   ·cases e
  ·cases e
 ·cases e
theorem QD {P:Program} {h h':List XO} {new:Nat} {tys:Array TypeId} {v u:V} {cs:List Bool} {x:V} (e:mR P h new tys v u=some (cs,x,h')) :
  ∃(k:Option Nat) (o:XO),(∀id,k=some id->id∈aO v)/\h'=(cK h k).set new o/\∀h2:List XO,(∀id,id∈aO v->h2[id]? =h[id]?)->(∀id,id∈aO u->h2[id]? =h[id]?)->mR P h2 new tys v u=some (cs,x,(cK h2 k).set new o):=by
 unfold mR at e;split at e
 ·rename_i t0 t1 ht0 ht1
  split at e
  ·rename_i el hu
   split at e
   ·rename_i hst
    split at e
    ·rename_i ty s b zs hty hs hb hz
     split at e
     ·rename_i hsz
      split at e
      ·rename_i c1 l1 k c2 l2 hbs hrd
       injection e with e;injection e with e1 e2;injection e2 with e2 e3;subst e1 e2 e3;refine⟨k,_,PT hbs,rfl,fun h2 h3 h4=>?_⟩;have q1:=(KQ (ty:=ty) (e:=el) h3).trans hbs;have q2:=(OG (ty:=ty) h4).trans hrd;simp only[mR,ht0,ht1,hu,if_pos hst,hty,hs,hb,hz,if_pos hsz,q1,q2]
      ·cases e
     ·cases e
    ·cases e
   ·cases e
  ·cases e
 ·cases e
theorem qLX {P:Program} {h h':List XO} {new:Nat} {tys:Array TypeId} {v u:V} {cs:List Bool} {x:V} (e:dapp P h new tys v u=some (cs,x,h')) :
  ∃(k:Option Nat) (o:XO),(∀id,k=some id->id∈aO v)/\h'=(cK h k).set new o/\∀h2:List XO,(∀id,id∈aO v->h2[id]? =h[id]?)->(∀id,id∈aO u->h2[id]? =h[id]?)->dapp P h2 new tys v u=some (cs,x,(cK h2 k).set new o):=by
 cases v with
 |sO a b c=>exact QD e
 |_=>exact TS e
theorem ZJ {P:Program} {o:Op} {ev:Operand->V} {h h':List XO} {new:Nat} {cs:List Bool} {x:V} (e:dalloc P o ev h new=some (cs,x,h')) :
  ∃post:List (Nat×XO),(∀p,p∈post->p.1∈wids o ev new)/\h'=rG h post/\∀(ev2:Operand->V) (h2:List XO),(∀a,a∈o.operands->ev2 a=ev a)->(∀id,id∈foot o ev->h2[id]? =h[id]?)->dalloc P o ev2 h2 new=some (cs,x,rG h2 post):=by
 unfold dalloc at e;split at e
 ·rename_i t l c
  split at e
  ·rename_i k n k' m hl hm
   obtain⟨o,rfl,q⟩:=qID e;refine⟨[(new,o)],fun p hp=>by simp at hp;subst hp;simp [wids],rfl,fun ev2 h2 he _=>?_⟩;have e1:=(he l (by simp [Op.operands])).trans hl;have e2:=(he c (by simp [Op.operands])).trans hm;simp only[dalloc,e1,e2];exact q h2
  ·cases e
 ·rename_i s d X
  obtain⟨o,rfl,q⟩:=QH e;refine⟨[(new,o)],fun p hp=>by simp at hp;subst hp;simp [wids],rfl,fun ev2 h2 he _=>?_⟩;simp only[dalloc,he X (by simp [Op.operands])];exact q h2
 ·rename_i c
  obtain⟨callee,args,tys⟩:=c;(try simp only at e);split at e
  ·rename_i X Y ha
   split at e
   ·rename_i h2s
    obtain⟨k,o',hk,rfl,q⟩:=qLX e;have mx:X∈args:=by rw[<-Array.mem_toList_iff,ha];simp
    have my:Y∈args:=by rw[<-Array.mem_toList_iff,ha];simp
    have fin:∀(ev2:Operand->V) (h2:List XO),(∀a,a∈(Op.call ⟨.builtin .append,args,tys⟩).operands->ev2 a=ev a)->(∀id,id∈foot (.call ⟨.builtin .append,args,tys⟩) ev->h2[id]? =h[id]?) ->
      dalloc P (.call ⟨.builtin .append,args,tys⟩) ev2 h2 new=some (cs,x,(cK h2 k).set new o'):=by
     intro ev2 h2 he hh;have e1:=he X (by simp [Op.operands,Call.operands,mx]);have e2:=he Y (by simp [Op.operands,Call.operands,my]);simp only[dalloc,ha,if_pos h2s,e1,e2];exact q h2 (fun id hid=>hh id (by simp [foot,ha,hid])) (fun id hid=>hh id (by simp [foot,ha,hid]))
    cases k with
    |none=>exact⟨[(new,o')],fun p hp=>by simp at hp;subst hp;simp [wids],rfl,fin⟩
    |some id=>
     refine⟨[(id,.raw .dead),(new,o')],fun p hp=>?_,rfl,fin⟩;simp only[List.mem_cons,List.not_mem_nil,or_false]at hp;rcases hp with rfl|rfl
     ·simp [wids,ha,hk id rfl]
     ·simp [wids]
   ·cases e
  ·cases e
 ·cases e
theorem AO.congr {P:Program} {op:Op} {ev ev2:Operand->V} {k k':Heap} {new:Nat} {x:V} (he:∀a,a∈op.operands->ev2 a=ev a) (a:AO P op ev k new x k'):AO P op ev2 k new x k':=by
 obtain⟨e,x',h1,h2,h3⟩:=a;classical
 refine⟨fun b=>if b∈op.operands then e b else ev2 b,x',fun b=>?_,h2,?_⟩
 ·by_cases hb:b∈op.operands
  ·simp only[if_pos hb];rw[he b hb];exact h1 b
  ·simp only[if_neg hb];exact⟨LE.refl _,fun _ q=>q⟩
 ·rw[<-h3]
  exact qHO (fun b hb=>by simp [hb]) k new
section
variable {P:Program} {ops:Array Oper}
theorem qP8 {i:Nat} {o:Oper} {s:St} {x:V} {h':Heap} (ho:ops[i]? =some o) (hw:awanted ops s.sl o=some true)
  (hos:∀ {ι:Iota} {a:Act} {w:World},SR s ι a w->OS P s.h ι w (execOp a.eval o) (some (x,h'))):WO P ops i s ⟨sput s.sl o.dst x,h'⟩:=by
 intro ι a w K Q r hk;simp only[wpOp,ho];rw[if_pos (fT r hw)];left;unfold Oper.wp;obtain⟨y,w',ι',h1,h2,h3,ev⟩:=hos r x h' rfl;have r':SR ⟨sput s.sl o.dst x,h'⟩ ι' (a.put o.dst y) w':=⟨by rw[gW];exact r.defers,(r.slots.mono ev).put o.dst h2,h3⟩
 rcases h1 with h1|⟨h1,rfl⟩
 ·rw[h1];exact hk _ _ _ r' ev
 ·rw[h1];exact hk _ _ _ r' ev
def OQ (P:Program) (fl:Bool) (o:Op) (sl:List V) (h:List XO) (new:Nat) (K:V->List XO->Prop):Prop:=
 match qDN o (aev sl) h with
 |some (b,x,y)=>br b (fV x fun x=>K x h) (fV y fun y=>K y h)
 |none=>match dpure P fl o (aev sl) h with
 |some (cs,x)=>needs cs (fV x fun x=>K x h)
 |none=>match dst P o (aev sl) h with
  |some (cs,x,h')=>needs cs (fH h' fun h'=>K x h')
  |none=>match dalloc P o (aev sl) h new with
   |some (cs,x,h')=>needs cs (fV x fun x=>fH h' fun h'=>K x h')
   |none=>match aop P o (aev sl) (dens h) new with
    |some (x,h')=>match wids o (aev sl) new with
     | []=>fV x fun x=>K x h
     |ws=>fV x fun x=>fH (reb h ws h' 0) fun h'=>K x h'
    |none=>False
def qA6 (h:Heap) (F:List Nat):List (Nat×Option HS):=F.map fun id=>(id,h[id]?)
theorem mU {h:Heap} {F:List Nat} {k:Heap} (a:FN (qA6 h F) k) (id:Nat) (hid:id∈F):k[id]? =h[id]?:=a (id,h[id]?) (List.mem_map_of_mem hid)
theorem qB2 {o:Oper} {i:Nat} {sl:List V} {h:Heap} {h':Heap} {new:Nat} {x:V} (ho:ops[i]? =some o) (hw:awanted ops sl o=some true) (hn:new<h.length) (a:AO P o.op (aev sl) h new x h') :
  ∃post:List (Nat×HS),(∀p,p∈post->p.1∈wids o.op (aev sl) new)/\h'=bH h post/\LS P ops i o ⟨sl,qA6 h (foot o.op (aev sl)++ [new]),x,post⟩:=by
 obtain⟨post,p1,p2,p3⟩:=a.loc hn;refine⟨post,p1,p2,fun s ag ah=>?_⟩;have he:=pN ag;refine qP8 ho (by rw[jU ag];exact hw) (fun r=>?_);exact(AO.congr he (p3 s.h (fun id hid=>mU ah id hid))).os r.heap (fun y=>eG r.slots y)
theorem qO8 {fl:Bool} {o:Oper} {i:Nat} {sl:List V} {h:List XO} {new:Nat} {K:V->List XO->Prop} (ho:ops[i]? =some o) (hw:awanted ops sl o=some true) (hn:h[new]? =some (.raw .free)) (hs:OQ P fl o.op sl h new K) :
  ∃(x:V) (h':List XO) (post:List (Nat×HS)),K x h'/\(∀p,p∈post->p.1∈wids o.op (aev sl) new)/\dens h'=bH (dens h) post/\LS P ops i o ⟨sl,qA6 (dens h) (foot o.op (aev sl)++ [new]),x,post⟩:=by
 have hlt:new<(dens h).length:=by rw[dK];exact aN hn
 unfold OQ at hs;split at hs
 ·rename_i b x y e
  simp only[cN]at hs;obtain⟨h1,h2⟩:=(gY _ _ _).1 hs;obtain⟨post,p1,p2,p3⟩:=qB2 ho hw hlt (VM (new:=new) e);cases b with
  |true=>exact⟨x,h,post,h1 rfl,p1,p2,p3⟩
  |false=>exact⟨y,h,post,h2 rfl,p1,p2,p3⟩
 split at hs
 ·rename_i cs x e
  obtain⟨hc,hK⟩:=bO hs;rw[cN]at hK;obtain⟨post,p1,p2,p3⟩:=qB2 ho hw hlt (TY (new:=new) e hc);exact⟨x,h,post,hK,p1,p2,p3⟩
 ·split at hs
  ·rename_i cs x h' e
   obtain⟨hc,hK⟩:=bO hs;rw[eP]at hK;obtain⟨post,p1,p2,p3⟩:=qB2 ho hw hlt (qME (new:=new) e hc);exact⟨x,h',post,hK,p1,p2,p3⟩
  ·split at hs
   ·rename_i cs x h' e
    obtain⟨hc,hK⟩:=bO hs;rw[cN,eP]at hK;obtain⟨post,p1,p2,p3⟩:=ZJ e;refine⟨x,h',pden post,hK,fun p hp=>?_,by rw[p2,rQ],fun s ag ah=>?_⟩
    ·obtain⟨q,hq,rfl⟩:=List.mem_map.1 hp;exact p1 q hq
    ·have hF:=mU ah
     generalize hh2:ovX (foot o.op (aev sl)++ [new]) h s.h 0=h2;have hden:dens h2=s.h:=by rw[<-hh2];exact vJ (fun j hj=>by rw[Nat.zero_add]at hj ⊢;exact hF j hj)
     have hget:∀id,id∈foot o.op (aev sl)++ [new]->h2[id]? =h[id]?:=fun id hid=>by
      have:=vK (F:=foot o.op (aev sl)++ [new]) (h:=h) (k:=s.h) (i:=0) (j:=id) (by rwa [Nat.zero_add]) (by rw[Nat.zero_add];exact hF id hid);rwa [Nat.zero_add,hh2]at this
     have e2:=p3 (aev s.sl) h2 (fun a ha=>pN ag a ha) (fun id hid=>hget id (List.mem_append.2 (.inl hid)));have hn2:h2[new]? =some (.raw .free):=(hget new (by simp)).trans hn;have hw2:awanted ops s.sl o=some true:=by rw[jU ag];exact hw
     have:WO P ops i ⟨s.sl,dens h2⟩ ⟨sput s.sl o.dst x,dens (rG h2 post)⟩:=qP8 ho hw2 (fun r=>MW e2 hc hn2 r.heap (fun y=>eG r.slots y));rw[rQ,hden]at this;exact this
   ·split at hs
    ·rename_i x h' e
     have hlt:new<(dens h).length:=hlt;obtain⟨post,p1,p2,p3⟩:=qB2 ho hw hlt (AO.of e);split at hs
     ·rename_i hwd
      rw[cN]at hs;rw[hwd]at p1;have hpost:post= []:=by
       cases post with
       |nil=>rfl
       |cons p r=>exact absurd (p1 p (by simp)) (by simp)
      subst hpost;exact⟨x,h,[],hs,(fun p hp=>by cases hp),rfl,p3⟩
     ·rw[cN,eP]at hs
      refine⟨x,_,post,hs,p1,?_,p3⟩;rw[<-p2];refine RP fun j t hj hnw=>?_
      rw[Nat.zero_add]at hnw ⊢;rw[p2,gH post _ (fun p hp q=>hnw (by rw[<-q];exact p1 p hp))]at hj;exact hj
    ·exact hs.elim
end
theorem qJ0 {f:V->(t:Ty)->Option (List t.den)}:∀ {t:Ty} {cs:List V} {a:t.den} {r:List V},un f t cs=some (a,r)->∃pre,cs=pre++r:=by
 intro t;induction t with
 |pair a b iha ihb=>
  intro cs x r h;simp only[un]at h;split at h
  ·rename_i xa r1 h1
   split at h
   ·rename_i xb r2 h2
    injection h with h;injection h with e1 e2;subst e1 e2;obtain⟨p1,rfl⟩:=iha h1;obtain⟨p2,rfl⟩:=ihb h2;exact⟨p1++p2,by simp⟩
   ·cases h
  ·cases h
 |_=>
  intro cs x r h;cases cs with
  |nil=>simp [un]at h
  |cons c cs=>
   simp only[un]at h;repeat' split at h
   all_goals first|(cases h;done)|(injection h with h;injection h with e1 e2;subst e2;exact⟨[_],rfl⟩)
theorem YI {f g:V->(t:Ty)->Option (List t.den)}:∀ {t:Ty} {cs:List V},(∀c,c∈cs->∀t,f c t=g c t)->un f t cs=un g t cs:=by
 intro t;induction t with
 |list t _=>
  intro cs h;cases cs with
  |nil=>rfl
  |cons c cs=>simp only[un];rw[h c (by simp) t]
 |pair a b iha ihb=>
  intro cs h;simp only[un];rw[iha h];split
  ·rename_i xa r1 h1
   obtain⟨p,rfl⟩:=qJ0 h1;rw[ihb (cs:=r1) (fun c hc=>h c (by simp [hc]))]
  ·rfl
 |_=>intro cs h;cases cs<;>rfl
def UQ (x:V):List Nat:=match norm x with
 | .agg xs=>xs.flatMap aO
 |y=>aO y
theorem UR {x:V} {id:Nat} (h:id∈aO x):id∈UQ x:=by
 cases x with
 |v x=>cases h
 |_=>first|exact h|cases h
theorem qIP {x c:V} {t:Ty} {id:Nat} (hc:c∈fC t x) (h:id∈aO c):id∈UQ x:=by
 cases t with
 |pair a b=>
  simp only[fC]at hc;split at hc
  ·rename_i xs hx
   simp only[UQ,hx];exact List.mem_flatMap.2 ⟨c,hc,h⟩
  ·cases hc
 |_=>simp only[fC,List.mem_singleton]at hc;subst hc;exact UR h
theorem OE {f g:V->(t:Ty)->Option (List t.den)}:∀ {ps:List Ty} {args:List V},(∀v,v∈args->∀t c,c∈fC t v->∀t,f c t=g c t)->rdA f ps args=rdA g ps args
 | [],[],_=>rfl
 | [],_::_,_=>rfl
 |_::_,[],_=>rfl
 |t::ts,v::vs,h=>by
  simp only[rdA];rw[YI (h v (by simp) t),OE (fun u hu=>h u (by simp [hu]))]
theorem OF {h h2:List XO} {lo:Nat} {t:Ty}:∀ {x:V},(∀id,id∈aO x->h2[id]? =h[id]?)->rdH h2 lo x t=rdH h lo x t
 | .sO id 0 len,hx=>by simp only[rdH];rw[hx id (by simp [aO])]
 | .sO id (n+1) len,hx=>rfl
 | .oL id n,hx=>by simp only[rdH];rw[hx id (by simp [aO])]
 | .v _,_=>rfl
 | .any,_=>rfl
 | .pF _ _,_=>rfl
 | .pO _ _ _,_=>rfl
 | .sF _ _,_=>rfl
 | .agg _,_=>rfl
 | .tup _,_=>rfl
 | .fn _ _ _,_=>rfl
 | .ifc _ _,_=>rfl
 | .sL _ _,_=>rfl
theorem uA {h h2:List XO}:∀ {x:V},(∀id,id∈aO x->h2[id]? =h[id]?)->fZ h2 x=fZ h x
 | .sO id off len,hx=>by simp only[fZ];rw[hx id (by simp [aO])]
 | .oL id n,hx=>by simp only[fZ];rw[hx id (by simp [aO])]
 | .v _,_=>rfl
 | .any,_=>rfl
 | .pF _ _,_=>rfl
 | .pO _ _ _,_=>rfl
 | .sF _ _,_=>rfl
 | .agg _,_=>rfl
 | .tup _,_=>rfl
 | .fn _ _ _,_=>rfl
 | .ifc _ _,_=>rfl
 | .sL _ _,_=>rfl
theorem lA {α β:Type} {f g:α->List β}:∀ {l:List α},(∀a,a∈l->f a=g a)->l.flatMap f=l.flatMap g
 | [],_=>rfl
 |a::l,h=>by rw[List.flatMap_cons,List.flatMap_cons,h a (by simp),lA fun b hb=>h b (by simp [hb])]
theorem qAP {h h2:List XO} {args:List V} (hx:∀v,v∈args->∀id,id∈UQ v->h2[id]? =h[id]?):lens h2 args=lens h args:=by
 refine lA fun v hv=>?_
 cases v with
 |agg xs=>exact lA fun c hc=>uA fun id hid=>hx _ hv id (List.mem_flatMap.2 ⟨c,hc,hid⟩)
 |_=>exact uA fun id hid=>hx _ hv id (UR hid)
def qBW (E:Env) (f:FuncId) (args:List V) (h:List XO) (new:Nat) (K:V->List XO->List Nat->List Nat->Prop):Prop:=
 match look E.T f with
 |some (.fn ps pre res)=>(match rdA (cQ 8) ps args with
  |some x=>KD pre x (qT ps res x fun r=>fV r.val fun v=>K v h [] [])
  |none=>match rdA (rdH h 0) ps args with
   |some x=>qT ps res x fun r=>(match r.flat with
    |true=>KD pre x (needs (lens h args) (fV r.val fun v=>K v h (args.flatMap UQ) []))
    |false=>False)
   |none=>False)
 |some (.meth t e ps pre res post)=>(match args with
  | .pO j 0 0::rest=>match h[j]? with
    |some o=>(match KE t e o,rdA (cQ 8) ps rest with
     |some a,some x=>VQ pre a x (qT (t::ps) res (a,x) fun r=>fV r.val fun v=>qT (t::ps) post (a,x) fun b=>kW h j (.ob t b e) fun h=>K v h [j] [j])
     |_,_=>False)
    |_=>False
  |_=>False)
 |some (.new t e ps pre post)=>(match rdA (cQ 8) ps args with
  |some x=>KD pre x (qT ps post x fun b=>match h[new]? with
   |some (.raw .free)=>kW h new (.ob t b e) fun h=>K (.pO new 0 0) h [new] [new]
   |_=>False)
  |none=>False)
 |some (.rd t ps pre res)=>(match args with
  | .pO j 0 0::rest=>(match h[j]? with
    |some o=>(match zQ h t o,rdA (cQ 8) ps rest with
     |some (a,row),some x=>qT (t::ps) res (a,x) fun r=>(match r.flat with
      |true=>VQ pre a x (needs (row.flatMap (fZ h)) (fV r.val fun v=>K v h (j::row.flatMap aO) []))
      |false=>False)
     |_,_=>False)
    |none=>False)
  | .pF row 0::rest=>(match un (cQ 8) t row,rdA (cQ 8) ps rest with
    |some (a,[]),some x=>VQ pre a x (qT (t::ps) res (a,x) fun r=>fV r.val fun v=>K v h [] [])
    |_,_=>False)
  |_=>False)
 |some (.bld wr e eb)=>(match wr,args with
  |true,.pO i 0 0::rest=>(match rest with
   | .v (.string s)::rest2=>(match rest2 with
     | []=>(match pR e eb h i,h[new]? with
       |some (_,cs,j,l),some (.raw .free)=>needs cs (need (decide (l.length+s.size<=1099511627776)) (kW h i (FR eb i new (l++aE s).length) fun h=>qNB j h fun h=>kW h new (.opt (.int .u8) (l++aE s) e) fun h=>K (wrR s.size) h (new::i::kB j []) (new::i::kB j [])))
       |_,_=>False)
     |_=>False)
   |_=>False)
  |false,.pO i 0 0::rest=>(match rest with
   | []=>(match pR e eb h i with
     |some (_,cs,j,l)=>needs cs (need (decide (l.length<=2199023255552)) (kW h i (.raw .dead) fun h=>qNB j h fun h=>K (.v (.string (aV l))) h (i::kB j []) (i::kB j [])))
     |none=>False)
   |_=>False)
  |_,_=>False)
 |_=>False
theorem CL {e eb:TypeId} {h h2:List XO} {i:Nat} {b:Bool} {cs:List Bool} {j:Option Nat} {l:List Int} (hr:pR e eb h i=some (b,cs,j,l)) (hi:h2[i]? =h[i]?) (hj:∀k,j=some k->h2[k]? =h[k]?):pR e eb h2 i=some (b,cs,j,l):=by
 unfold pR at hr ⊢;rw[hi];split at hr
 ·rename_i o ho
  split at hr
  ·rename_i c0 c1 hrow
   split at hr
   ·rename_i b' hb hz
    split at hr
    ·rename_i j' n
     split at hr
     ·rename_i t l' e' hj'
      split at hr
      ·rename_i l'' hl he
       injection hr with hr;injection hr with e1 hr;injection hr with e2 hr;injection hr with e3 e4;subst e1 e2 e3 e4;simp only[hrow,hb,hz,hj _ rfl,hj',hl,he]
      ·cases hr
     ·cases hr
    ·simp only[hrow,hb,hz,hr]
    ·cases hr
   ·cases hr
  ·cases hr
 ·cases hr
section
variable {ops:Array Oper}
theorem qKA {E:Env} (hT:aD E.P E.T) {f:FuncId} {args:List V} {o:Oper} {i new:Nat} {sl:List V} {h:List XO} {K:V->List XO->List Nat->List Nat->Prop} (ho:ops[i]? =some o) (hw:awanted ops sl o=some true)
  (hcall:lT E.P sl o.op=some (f,args)) (hs:qBW E f args h new K) :
  ∃(x:V) (h':List XO) (F W:List Nat) (post:List (Nat×HS)),K x h' F W/\(∀p,p∈post->p.1∈W)/\dens h'=bH (dens h) post/\LS E.P ops i o ⟨sl,qA6 (dens h) F,x,post⟩/\h'.length=h.length/\∀j,¬j∈W->h'[j]? =h[j]?:=by
 have hcl:callable E.P f=true:=by
  unfold lT at hcall;repeat' split at hcall
  all_goals first|(cases hcall;done)|skip
  injection hcall with hcall;injection hcall with q _;subst q;assumption
 have hop:∀s:St,AT ops o sl s.sl->lT E.P s.sl o.op=some (f,args)/\awanted ops s.sl o=some true:=fun s ag=>⟨by rw[PX (pN ag)];exact hcall,by rw[jU ag];exact hw⟩
 unfold qBW at hs;split at hs
 ·rename_i ps pre res hl
  have hc:=hT _ _ hl;split at hs
  ·rename_i x hx
   obtain⟨hp,hs⟩:=kT hs;rw[eR,cN]at hs;refine⟨(cu ps res x).val,h,[],[],[],hs,(fun p hp=>by cases hp),rfl,fun s ag _=>?_,rfl,fun _ _=>rfl⟩;obtain⟨h1,h2⟩:=hop s ag;exact qH ho h2 h1 hcl (PC.args_LE (qM hx) ((hc x hp).2 s.h (fun _ q=>by cases q)))
  ·split at hs
   ·rename_i x hx
    rw[eR]at hs;split at hs
    ·rename_i hfl
     obtain⟨hp,hs⟩:=kT hs;obtain⟨hcs,hs⟩:=bO hs;rw[cN]at hs;refine⟨(cu ps res x).val,h,_,[],[],hs,(fun p hp=>by cases hp),rfl,fun s ag ah=>?_,rfl,fun _ _=>rfl⟩;obtain⟨h1,h2⟩:=hop s ag;have hF:=mU ah;generalize hh2:ovX (args.flatMap UQ) h s.h 0=hh;have hden:dens hh=s.h:=by rw[<-hh2];exact vJ (fun j hj=>by rw[Nat.zero_add]at hj ⊢;exact hF j hj)
     have hget:∀id,id∈args.flatMap UQ->hh[id]? =h[id]?:=fun id hid=>by
      have:=vK (F:=args.flatMap UQ) (h:=h) (k:=s.h) (i:=0) (j:=id) (by rwa [Nat.zero_add]) (by rw[Nat.zero_add];exact hF id hid);rwa [Nat.zero_add,hh2]at this
     have hr:rdA (rdH hh 0) ps args=some x:=by
      rw[<-hx];exact OE fun v hv t c hc t'=>OF fun id hid=>hget id (List.mem_flatMap.2 ⟨v,hv,qIP hc hid⟩)
     have hl2:dI (lens hh args):=by
      rw[qAP fun v hv id hid=>hget id (List.mem_flatMap.2 ⟨v,hv,hid⟩)];exact hcs
     have:=PC.read hfl (hc x hp) (qDV hr hl2);rw[hden]at this;exact qH ho h2 h1 hcl this
    ·exact hs.elim
   ·exact hs.elim
 ·rename_i t e ps pre res post hl
  have hc:=hT _ _ hl;split at hs
  ·rename_i j rest
   split at hs
   ·rename_i xo hob
    split at hs
    ·rename_i a x ha hx
     obtain⟨hp,hs⟩:=oJ hs;rw[eR,cN,eR,cO]at hs;obtain⟨ob,o1,o2,o3,o4,o5⟩:=EY ha;refine⟨_,_,[j],[j],[(j,RH t e (cu ps (post a) x))],hs,(fun p hp=>by simp at hp;subst hp;simp),by rw[aZ];rfl,fun s ag ah=>?_,by simp,fun i hi=>List.getElem?_set_ne (fun q=>hi (by simp [q]))⟩;obtain⟨h1,h2⟩:=hop s ag;have hd:s.h[j]? =some (.live ob):=by rw[mU ah j (by simp),aM,hob];simp [o1]
     have hlt:=aN hd;refine qH ho h2 h1 hcl (PC.pre (h':=s.h.set j (RH t e a)) (fun{ι w} H=>H.weakObj hd o2.symm o3.symm o4 o5) ?_);refine PC.args_LE (LEs.cons (LE.refl _) (qM hx)) (PC.mono ((hc a x hp j).2 _ (fun p hp=>?_)) ?_)
     ·simp at hp;subst hp;rw[List.getElem?_set_self hlt]
     ·rintro y k ⟨rfl,rfl⟩
      exact⟨rfl,by simp [bH]⟩
    ·exact hs.elim
   ·exact hs.elim
  ·exact hs.elim
 ·rename_i t e ps pre post hl
  have hc:=hT _ _ hl;split at hs
  ·rename_i x hx
   obtain⟨hp,hs⟩:=kT hs;rw[eR]at hs;split at hs
   ·rename_i hfree
    rw[cO]at hs;have hlt:=aN hfree;refine⟨_,_,[new],[new],[(new,.live ⟨t.size,[t.row (cu ps post x)],e⟩)],hs,(fun p hp=>by simp at hp;subst hp;simp),by rw[aZ];rfl,fun s ag ah=>?_,by simp,fun i hi=>List.getElem?_set_ne (fun q=>hi (by simp [q]))⟩;obtain⟨h1,h2⟩:=hop s ag;have hd:s.h[new]? =some .free:=by rw[mU ah new (by simp),aM,hfree];rfl
    refine qH ho h2 h1 hcl (PC.args_LE (qM hx) (PC.mono (hc x hp s.h new _ (fW hd)) ?_));rintro y k ⟨rfl,rfl⟩;exact⟨rfl,by simp [bH]⟩
   ·exact hs.elim
  ·exact hs.elim
 ·rename_i t ps pre res hl
  have hc:=hT _ _ hl;split at hs
  ·rename_i j rest
   split at hs
   ·rename_i xo hob
    split at hs
    ·rename_i a row x ha hx
     rw[eR]at hs;split at hs
     ·rename_i hfl
      obtain⟨hp,hs⟩:=oJ hs;obtain⟨hcs,hs⟩:=bO hs;rw[cN]at hs;refine⟨_,h,j::row.flatMap aO,[],[],hs,(fun p hp=>by cases hp),rfl,fun s ag ah=>?_,rfl,fun _ _=>rfl⟩;obtain⟨h1,h2⟩:=hop s ag;have hF:=mU ah;generalize hh2:ovX (j::row.flatMap aO) h s.h 0=hh;have hden:dens hh=s.h:=by rw[<-hh2];exact vJ (fun i hi=>by rw[Nat.zero_add]at hi ⊢;exact hF i hi)
      have hget:∀id,id∈j::row.flatMap aO->hh[id]? =h[id]?:=fun id hid=>by
       have:=vK (F:=j::row.flatMap aO) (h:=h) (k:=s.h) (i:=0) (j:=id) (by rwa [Nat.zero_add]) (by rw[Nat.zero_add];exact hF id hid);rwa [Nat.zero_add,hh2]at this
      have hcell:∀c,c∈row->∀id,id∈aO c->hh[id]? =h[id]?:=fun c hc id hid=>hget id (List.mem_cons_of_mem _ (List.mem_flatMap.2 ⟨c,hc,hid⟩))
      have ha2:zQ hh t xo=some (a,row):=by
       obtain⟨ob,b1,b2,b3,b4⟩:=qOD ha;exact qOC b1 b2 b3 (by rw[<-b4];exact YI (fun c hc t=>OF (fun id hid=>hcell c hc id hid)))
      have hcs2:dI (row.flatMap (fZ hh)):=by
       rw[lA (fun c hc=>uA (fun id hid=>hcell c hc id hid))];exact hcs
      have hra:Pairs (fun a b=>RA (dens hh) a b) (.pO j 0 0::rest) (.pF (t.row a) 0::vals ps x):=by
       have h1:=qM hx;refine⟨by simp [h1.1],fun i y z hy hz=>?_⟩;cases i with
       |zero=>simp at hy hz;subst hy hz;exact VX ((hget j (by simp)).trans hob) ha2 hcs2
       |succ i=>
        simp at hy hz;exact fun w ι v H r=>(h1.2 i y z hy hz r).free (fun b q=>.inl (zF q)) (YO 0 ps x z (cJ hz))
      have:=PC.read hfl (hc a x hp) hra;rw[hden]at this;exact qH ho h2 h1 hcl this
     ·exact hs.elim
    ·exact hs.elim
   ·exact hs.elim
  ·rename_i row rest
   split at hs
   ·rename_i a x ha hx
    obtain⟨hp,hs⟩:=oJ hs;rw[eR,cN]at hs;refine⟨_,h,[],[],[],hs,(fun p hp=>by cases hp),rfl,fun s ag _=>?_,rfl,fun _ _=>rfl⟩;obtain⟨h1,h2⟩:=hop s ag;exact qH ho h2 h1 hcl (PC.args_LE (LEs.cons (LE.pF (nL (R:=fun a b=>LE a b) (fR 8) (fun _=>LE.refl _) ha)) (qM hx)) ((hc a x hp).2 s.h (fun _ q=>by cases q)))
   ·exact hs.elim
  ·exact hs.elim
 ·rename_i wr e eb hl
  have hc:=hT _ _ hl;have mj:∀ {j:Option Nat} {k:Nat},j=some k->k∈kB j []:=fun{j k} q=>by subst q;exact List.mem_cons_self ..
  have get:∀ {F:List Nat} {s:St},FN (qA6 (dens h) F) s.h->∃hh:List XO,dens hh=s.h/\∀id,id∈F->hh[id]? =h[id]?:=fun{F s} ah=>by
   have hF:=mU ah;refine⟨ovX F h s.h 0,vJ (fun i hi=>by rw[Nat.zero_add]at hi ⊢;exact hF i hi),fun id hid=>?_⟩;have:=vK (F:=F) (h:=h) (k:=s.h) (i:=0) (j:=id) (by rwa [Nat.zero_add]) (by rw[Nat.zero_add];exact hF id hid);rwa [Nat.zero_add]at this
  split at hs
  ·rename_i i rest
   split at hs
   ·rename_i s0 rest2
    split at hs
    ·split at hs
     ·rename_i b cs j l hr hfree
      obtain⟨hcs,hs⟩:=bO hs;obtain⟨hn,hs⟩:=(gB _ _).1 hs;rw[cO,EW,cO]at hs;refine⟨_,_,_,_,((i,(FR eb i new (l++aE s0).length).den)::(match j with|some k=>[(k,HS.dead)]|none=>[]))++ [(new,(XO.opt (.int .u8) (l++aE s0) e).den)],hs,fun p hp=>?_,?_,fun s ag ah=>?_,by simp [fY],fun x hx=>?_⟩
      ·simp only[List.mem_append,List.mem_cons,List.not_mem_nil,or_false]at hp
       rcases hp with(rfl|hp)|rfl
       ·simp
       ·cases j with
        |none=>cases hp
        |some k=>simp at hp;subst hp;simp [kB]
       ·simp
      ·cases j<;>simp [cK,aZ,bH,XO.den]
      ·obtain⟨h1,h2⟩:=hop s ag
       obtain⟨hh,hden,hget⟩:=get ah;have hr2:=CL hr (hget i (by simp)) (fun k q=>hget k (List.mem_cons_of_mem _ (List.mem_cons_of_mem _ (mj q))));have hcall:=hc hh i new s0 b cs j l hr2 hcs (of_decide_eq_true hn) ((hget new (by simp)).trans hfree);rw[hden]at hcall;refine qH ho h2 h1 hcl (PC.mono hcall ?_);rintro y k ⟨rfl,rfl⟩;refine⟨rfl,?_⟩;rw[<-hden];cases j<;>simp [cK,aZ,bH,XO.den]
      ·simp only[List.mem_cons,not_or]at hx
       rw[List.getElem?_set_ne (Ne.symm hx.1),oI (fun y hy q=>hx.2.2 (by rw[<-q];exact mj hy)),List.getElem?_set_ne (Ne.symm hx.2.1)]
     ·exact hs.elim
    ·exact hs.elim
   ·exact hs.elim
  ·rename_i i rest
   split at hs
   ·split at hs
    ·rename_i b cs j l hr
     obtain⟨hcs,hs⟩:=bO hs;obtain⟨hn,hs⟩:=(gB _ _).1 hs;rw[cO,EW]at hs;refine⟨_,_,_,_,(i,HS.dead)::(match j with|some k=>[(k,HS.dead)]|none=>[]),hs,fun p hp=>?_,?_,fun s ag ah=>?_,by simp [fY],fun x hx=>?_⟩
     ·simp only[List.mem_cons]at hp
      rcases hp with rfl|hp
      ·simp
      ·cases j with
       |none=>cases hp
       |some k=>simp at hp;subst hp;simp [kB]
     ·cases j<;>simp [cK,aZ,bH,XO.den]
     ·obtain⟨h1,h2⟩:=hop s ag
      obtain⟨hh,hden,hget⟩:=get ah;have hr2:=CL hr (hget i (by simp)) (fun k q=>hget k (List.mem_cons_of_mem _ (mj q)));have hcall:=hc hh i b cs j l hr2 hcs (of_decide_eq_true hn);rw[hden]at hcall;refine qH ho h2 h1 hcl (PC.mono hcall ?_);rintro y k ⟨rfl,rfl⟩;refine⟨rfl,?_⟩;rw[<-hden];cases j<;>simp [cK,aZ,bH,XO.den]
     ·simp only[List.mem_cons,not_or]at hx
      rw[oI (fun y hy q=>hx.2 (by rw[<-q];exact mj hy)),List.getElem?_set_ne (Ne.symm hx.1)]
    ·exact hs.elim
   ·exact hs.elim
  ·exact hs.elim
 ·exact hs.elim
def qYX (T:Tbl) (f:FuncId):Bool:=match look T f with
 |some (.new _ _ _ _ _)=>true
 |some (.bld true _ _)=>true
 |_=>false
def qCX (T:Tbl):Op->Bool
 | .alloc _=>true
 | .box _ _=>true
 | .buildSlice _ _ _=>true
 | .makeSlice _ _ _=>true
 | .convert _ _ _=>true
 | .call c=>match c.callee with
   | .builtin .append=>true
   | .value (.func f)=>qYX T f
   |_=>false
 |_=>false
def rW (T:Tbl):List Oper->Nat
 | []=>0
 |o::l=>match qCX T o.op with
  |true=>rW T l+1
  |false=>rW T l
def SB (E:Env) (fl:Bool) (o:Oper) (new:Nat) (s:Y) (K:Y->List Nat×List Nat->Prop):Prop:=
 match s with
 |⟨sl,h,tch,an⟩=>match lT E.P sl o.op with
  |some (f,args)=>qBW E f args h new fun x h' F W=>RN sl o.dst x fun sl=>K ⟨sl,h',W++tch,an⟩ (F,W)
  |none=>match UB E.P o.op sl h with
  |some (cs,j,id,oj')=>needs cs (kW h id (.raw .dead) fun h=>fX oj' fun oj'=>kW h j oj' fun h=>RN sl o.dst .any fun sl=>K ⟨sl,h,j::id::tch,an⟩ ([j,id],[j,id]))
  |none=>match h[new]? with
   |some (.raw .free)=>OQ E.P fl o.op sl h new fun x h'=>RN sl o.dst x fun sl'=>qTR o.op sl new tch fun tch=>K ⟨sl',h',tch,an⟩ (foot o.op (aev sl)++ [new],wids o.op (aev sl) new)
   |_=>False
def xdrw (E:Env) (ops:Array Oper) (rid base tot:Nat):List Oper->Nat->Nat->Y->(Y->List (List Nat×List Nat)->Prop)->Prop
 | [],_,_,s,K=>K s []
 |o::l,i,cnt,s,K=>gd ops o s (fun s=>match qCX E.T o.op with
   |true=>fN (base+cnt) fun new=>SB E (flips E.flip E.fid rid i) o new s fun s' f=>xdrw E ops rid base tot l (i+1) (cnt+1) s' fun s2 fs=>K s2 (f::fs)
   |false=>fN (base+tot) fun new=>SB E (flips E.flip E.fid rid i) o new s fun s' f=>xdrw E ops rid base tot l (i+1) cnt s' fun s2 fs=>K s2 (f::fs))
   (fun s=>match s with|⟨sl,h,tch,an⟩=>RN sl o.dst (.v undef) fun sl=>xdrw E ops rid base tot l (i+1) cnt ⟨sl,h,tch,an⟩ fun s2 fs=>K s2 (([],[])::fs))
def qHC (P:Program) (ops:Array Oper):Nat->List Dat->St->St->Prop
 |_,[],s,s'=>s=s'
 |i,d::ds,s,s'=>∃s1,AS P ops (fun _=>d) i s s1/\qHC P ops (i+1) ds s1 s'
def InF (d:Dat) (f:List Nat×List Nat):Prop:=(∀p,p∈d.pre->p.1∈f.1)/\∀p,p∈d.post->p.1∈f.2
theorem CI (o:Oper) (sl:List V):AT ops o sl sl:=fun _ _=>rfl
theorem SJ (h:Heap) (F:List Nat):FN (qA6 h F) h:=fun p hp=>by
 obtain⟨id,_,rfl⟩:=List.mem_map.1 hp;rfl
theorem qO7 {P:Program} {fl:Bool} {o:Op} {sl:List V} {h:List XO} {new:Nat} {K:V->List XO->Prop} (hn:new<h.length) (hs:OQ P fl o sl h new K) :
  OQ P fl o sl h new fun x h'=>K x h'/\h'.length=h.length/\∀j,¬j∈wids o (aev sl) new->h'[j]? =h[j]?:=by
 have nd:∀ {cs:List Bool} {A B:Prop},(A->B)->needs cs A->needs cs B:=by
  intro cs A B hab;induction cs with
  |nil=>exact hab
  |cons c cs ih=>intro q;exact(gB c _).2 ⟨((gB c _).1 q).1,ih ((gB c _).1 q).2⟩
 unfold OQ at hs ⊢;split
 ·rename_i b x y e
  simp only[e,cN]at hs ⊢;obtain⟨h1,h2⟩:=(gY _ _ _).1 hs;exact(gY _ _ _).2 ⟨fun q=>⟨h1 q,trivial,fun _ _=>trivial⟩,fun q=>⟨h2 q,trivial,fun _ _=>trivial⟩⟩
 rename_i e0;simp only[e0]at hs;split
 ·rename_i cs x e
  simp only[e,cN]at hs ⊢;exact nd (fun q=>⟨q,trivial,fun _ _=>trivial⟩) hs
 ·rename_i e
  simp only[e]at hs;split
  ·rename_i cs x h' e2
   rw[e2]at hs;refine nd (fun q=>?_) hs;rw[eP]at q ⊢;obtain⟨g1,g2⟩:=qMD (new:=new) e2;exact⟨q,g1.symm,g2⟩
  ·rename_i e2
   simp only[e2]at hs;split
   ·rename_i cs x h' e3
    rw[e3]at hs;refine nd (fun q=>?_) hs;rw[cN,eP]at q ⊢;obtain⟨g1,g2⟩:=MV e3;exact⟨q,g1.symm,g2⟩
   ·rename_i e3
    simp only[e3]at hs;split
    ·rename_i x h' e4
     rw[e4]at hs;(try simp only at hs);split
     ·rename_i e5
      rw[e5]at hs;rw[cN]at hs ⊢;exact⟨hs,rfl,fun _ _=>rfl⟩
     ·rename_i e5
      have h2:fV x fun x=>fH (reb h (wids o (aev sl) new) h' 0) fun h'=>K x h':=by
       revert hs;split
       ·rename_i e6;exact absurd e6 e5
       ·exact fun h=>h
      rw[cN,eP]at h2;rw[cN,eP];have hlt:new<(dens h).length:=by rw[dK];exact hn
      obtain⟨post,p1,p2,_⟩:=(AO.of e4).loc hlt;have hl:h'.length=h.length:=by rw[p2,lH];simp [dens]
      refine⟨h2,by rw[EZ,hl],fun j hj=>?_⟩;rcases Nat.lt_or_ge j h.length with q|q
      ·rw[RQ (by omega) (by rwa [Nat.zero_add]) (by omega),Nat.zero_add]
      ·rw[List.getElem?_eq_none (by rw[EZ,hl];exact q),List.getElem?_eq_none q]
    ·rename_i e4
     rw[e4]at hs;exact hs.elim
theorem ZR {P:Program} {o:Op} {sl sl2:List V} {h h2:List XO} {cs:List Bool} {j id:Nat} {oj':XO} (e:UB P o sl h=some (cs,j,id,oj')) (he:∀a,a∈o.operands->aev sl2 a=aev sl a) (hj:h2[j]? =h[j]?) (hid:h2[id]? =h[id]?):UB P o sl2 h2=UB P o sl h:=by
 cases o with
 |store t p x=>
  have e1:=he p (by simp [Op.operands]);have e2:=he x (by simp [Op.operands]);simp only[UB,e1,e2]at e ⊢;split at e
  ·split at e
   ·split at e
    ·split at e
     ·cases e
     ·injection e with e;injection e with _ e;injection e with a1 e;injection e with a2 _;subst a1 a2
      rw[hj,hid];simp_all
    ·cases e
   ·cases e
  ·cases e
 |_=>cases e
theorem PB {E:Env} (hT:aD E.P E.T) {fl:Bool} {o:Oper} {i new:Nat} {s:Y} {W:List Nat} {K:Y->List Nat×List Nat->Prop} (ho:ops[i]? =some o) (hw:awanted ops s.sl o=some true) (hW:∀d,o.dst=some d->d∈W) (hs:SB E fl o new s K) :
  ∃(s':Y) (d:Dat) (f:List Nat×List Nat),K s' f/\InF d f/\AS E.P ops (fun _=>d) i s.den s'.den/\FrW W s s':=by
 obtain⟨sl,h,tch,an⟩:=s;simp only[SB]at hs;have fin:∀(x:V) (h':List XO) (F U tch':List Nat) (post:List (Nat×HS)),K ⟨sput sl o.dst x,h',tch',an⟩ (F,U)->(∀p,p∈post->p.1∈U)->dens h'=bH (dens h) post->LS E.P ops i o ⟨sl,qA6 (dens h) F,x,post⟩->h'.length=h.length->(∀j,¬j∈U->h'[j]? =h[j]?)->tch'=U++tch ->
   ∃(s':Y) (d:Dat) (f:List Nat×List Nat),K s' f/\InF d f/\AS E.P ops (fun _=>d) i (Y.den ⟨sl,h,tch,an⟩) s'.den/\FrW W ⟨sl,h,tch,an⟩ s':=by
  rintro x h' F U tch' post h1 h2 h3 h4 h5 h6 rfl;refine⟨⟨sput sl o.dst x,h',U++tch,an⟩,_,(F,U),h1,⟨fun p hp=>?_,h2⟩,⟨o,ho,CI o sl,SJ _ _,?_,h4⟩,⟨⟨Nat.le_of_eq h5.symm,fun j hj=>List.mem_append.2 (.inr hj),fun j hj hn=>h6 j (fun q=>hn (List.mem_append.2 (.inl q)))⟩,JI _ _ _,fun j hj=>JH (fun k hk q=>hj (q ▸ hW k hk))⟩⟩
  ·obtain⟨id,hid,rfl⟩:=List.mem_map.1 hp;exact hid
  ·simp only[Y.den,h3]
 split at hs
 ·rename_i f args hcall
  obtain⟨x,h',F,U,post,h1,h2,h3,h4,h5,h6⟩:=qKA hT ho hw hcall hs;rw[sC]at h1;exact fin x h' F U _ post h1 h2 h3 h4 h5 h6 rfl
 ·split at hs
  ·rename_i cs j id oj' e
   obtain⟨hcs,hs⟩:=bO hs;rw[cO,qMM,cO,sC]at hs;refine fin .any _ [j,id] [j,id] _ [(id,.dead),(j,oj'.den)] hs (fun p hp=>?_) (by rw[aZ,aZ];rfl) (fun s ag ah=>?_) (by simp) (fun i hi=>?_) rfl
   ·simp only[List.mem_cons,List.not_mem_nil,or_false]at hp ⊢
    rcases hp with rfl|rfl
    ·exact .inr rfl
    ·exact .inl rfl
   ·have hF:=mU ah
    generalize hh2:ovX [j,id] h s.h 0=hh;have hden:dens hh=s.h:=by rw[<-hh2];exact vJ (fun i hi=>by rw[Nat.zero_add]at hi ⊢;exact hF i hi)
    have hget:∀i,i∈ [j,id]->hh[i]? =h[i]?:=fun i hi=>by
     have:=vK (F:=[j,id]) (h:=h) (k:=s.h) (i:=0) (j:=i) (by rwa [Nat.zero_add]) (by rw[Nat.zero_add];exact hF i hi);rwa [Nat.zero_add,hh2]at this
    have e2:UB E.P o.op s.sl hh=some (cs,j,id,oj'):=by
     rw[<-e];exact ZR e (pN ag) (hget j (by simp)) (hget id (by simp))
    have:WO E.P ops i ⟨s.sl,dens hh⟩ ⟨sput s.sl o.dst .any,dens ((hh.set id (.raw .dead)).set j oj')⟩:=qP8 ho (by rw[jU ag];exact hw) (fun r=>qRD e2 hcs r);rw[aZ,aZ,hden]at this;exact this
   ·simp only[List.mem_cons,List.not_mem_nil,or_false,not_or]at hi
    rw[List.getElem?_set_ne (Ne.symm hi.1),List.getElem?_set_ne (Ne.symm hi.2)]
  split at hs
  ·rename_i hfree
   obtain⟨x,h',post,⟨h1,h5,h6⟩,h2,h3,h4⟩:=qO8 ho hw hfree (qO7 (aN hfree) hs);rw[sC,qGY]at h1;exact fin x h' _ _ _ post h1 h2 h3 h4 h5 h6 rfl
  ·exact hs.elim
theorem qG8 {E:Env} (hT:aD E.P E.T) {rid base tot:Nat} {W:List Nat}:∀(l:List Oper) (i cnt:Nat) (s:Y) (K:Y->List (List Nat×List Nat)->Prop),(∀(j:Nat) (o:Oper),l[j]? =some o->ops[i+j]? =some o)->(∀o,o∈l->∀d,o.dst=some d->d∈W)->xdrw E ops rid base tot l i cnt s K ->
  ∃(ds:List Dat) (fs:List (List Nat×List Nat)) (s':Y),ds.length=l.length/\(∀(m:Nat) (d:Dat),ds[m]? =some d->∃f,fs[m]? =some f/\InF d f)/\qHC E.P ops i ds s.den s'.den/\K s' fs/\FrW W s s'
 | [],i,cnt,s,K,_,_,h=>⟨[],[],s,rfl,fun m d h=>by simp at h,rfl,h,FrW.refl _ _⟩
 |o::l,i,cnt,s,K,hops,hW,h=>by
  have ho:ops[i]? =some o:=by simpa using hops 0 o (by simp)
  have hops':∀(j:Nat) (o':Oper),l[j]? =some o'->ops[i+1+j]? =some o':=fun j o' hj=>by
   have:=hops (j+1) o' (by simpa using hj);rwa [show i+(j+1)=i+1+j by omega]at this
  have hW':∀o,o∈l->∀d,o.dst=some d->d∈W:=fun o' h'=>hW o' (List.mem_cons_of_mem _ h')
  have fin:∀(s1:Y) (d:Dat) (f:List Nat×List Nat) (cnt':Nat),InF d f->AS E.P ops (fun _=>d) i s.den s1.den->FrW W s s1->xdrw E ops rid base tot l (i+1) cnt' s1 (fun s2 fs=>K s2 (f::fs)) ->
    ∃(ds:List Dat) (fs:List (List Nat×List Nat)) (s':Y),ds.length=(o::l).length/\(∀(m:Nat) (d:Dat),ds[m]? =some d->∃f,fs[m]? =some f/\InF d f)/\qHC E.P ops i ds s.den s'.den/\K s' fs/\FrW W s s':=by
   intro s1 d f cnt' h1 h2 h3 h4;obtain⟨ds,fs,s',g1,g2,g3,g4,g5⟩:=qG8 hT l (i+1) cnt' s1 _ hops' hW' h4;refine⟨d::ds,f::fs,s',by simp [g1],fun m e he=>?_,⟨s1.den,h2,g3⟩,g4,h3.trans g5⟩;cases m with
   |zero=>simp at he;subst he;exact⟨f,rfl,h1⟩
   |succ m=>simpa using g2 m e (by simpa using he)
  rcases qCP h with⟨hw,hr⟩|⟨hw,hr⟩
  ·split at hr
   ·rw[jM]at hr
    obtain⟨s1,d,f,h1,h2,h3,h4⟩:=PB hT ho hw (hW o (by simp)) hr;exact fin s1 d f _ h2 h3 h4 h1
   ·rw[jM]at hr
    obtain⟨s1,d,f,h1,h2,h3,h4⟩:=PB hT ho hw (hW o (by simp)) hr;exact fin s1 d f _ h2 h3 h4 h1
  ·obtain⟨sl,hp,tch,an⟩:=s
   (try simp only at hr);rw[sC]at hr;refine fin ⟨sput sl o.dst (.v undef),hp,tch,an⟩ ⟨sl,[],.v undef,[]⟩ ([],[]) cnt ⟨fun p hp=>(by cases hp),fun p hp=>(by cases hp)⟩ ⟨o,ho,CI o sl,fun p hp=>(by cases hp),rfl,fun s ag _=>?_⟩ ⟨⟨Nat.le_refl _,fun _ h=>h,fun _ _ _=>rfl⟩,JI _ _ _,fun j hj=>JH (fun k hk q=>hj (q ▸ hW o (by simp) k hk))⟩ hr;exact qbV ho (by rw[jU ag];exact hw)
end
theorem NU:∀ {l:List Nat},RE l=true->l.Nodup
 | [],_=>List.nodup_nil
 |x::xs,h=>by
  simp only[RE,Bool.and_eq_true,Bool.not_eq_true',List.contains_eq_mem,decide_eq_false_iff_not]at h;exact List.nodup_cons.2 ⟨h.1,NU h.2⟩
theorem qIO {n:Nat} {σ:List Nat} (h:qMY n σ=true) (j:Nat) (hj:j<n):σ[j]? =some j:=by
 have:=List.all_eq_true.1 h j (by simpa using hj);simpa using this
theorem qXI {t:Ty} {v:V} {a:t.den} (h:un (cQ 8) t (fC t v)=some (a,[])):LE v (t.val a):=
 PP (R:=fun a b=>LE a b) (R':=fun a b=>LE a b) (fR 8) (fun _=>LE.refl _) (fun _ _ h=>h) LE.norm_agg h
theorem cF.val {σ:List Nat} {t:Ty} {v:V} {a:t.den} (h:un (cQ 8) t (fC t v)=some (a,[])):cF σ v (t.val a):=cF.tree (qXI h) (Ty.ni_val 0 t a)
theorem oX {R:V->V->Prop} {xs:List V} (h:∀x,x∈xs->R x x):Pairs R xs xs:=
 ⟨rfl,fun i x y h1 h2=>by rw[h1]at h2;injection h2 with h2;subst h2;exact h x (cJ h1)⟩
theorem pY {σ:List Nat}:∀ {n:Nat} {x:V},HY σ n x=true->cF σ x x
 |0,x,h=>by simp [HY]at h
 |n+1,x,h=>by
  have fi:∀ {id:Nat},ZW σ id=true->σ[id]? =some id:=fun{id} q=>by simpa [ZW]using q
  cases x with
  |v x=>exact cF.tree (LE.refl _) (.v _)
  |any=>exact cF.any _ _
  |pO id r o=>exact cF.pO r o (fi h)
  |sO id o l=>exact cF.sO o l (fi h)
  |oL id l=>exact cF.oL l (fi h)
  |sL t l=>exact cF.tree (LE.refl _) (.sL _ _)
  |agg xs=>exact cF.agg (oX fun x hx=>pY (List.all_eq_true.1 h x hx))
  |tup xs=>exact cF.tup (oX fun x hx=>pY (List.all_eq_true.1 h x hx))
  |fn f a b=>
   simp only[HY,Bool.and_eq_true]at h;exact cF.fn (oX fun x hx=>pY (List.all_eq_true.1 h.1 x hx)) (oX fun x hx=>pY (List.all_eq_true.1 h.2 x hx))
  |ifc t x=>exact cF.ifc (pY (n:=n) h)
  |pF r o=>exact cF.tree (LE.refl _) (.pF o fun x hx=>BW (List.all_eq_true.1 h x hx))
  |sF s r=>exact cF.tree (LE.refl _) (.sF s fun r hr x hx=>BW (List.all_eq_true.1 (List.all_eq_true.1 h r hr) x hx))
theorem RenL.self {σ:List Nat} {o:AObj} (h:∀r,r∈o.rows->∀x,x∈r->cF σ x x):RenL σ o o:=
 ⟨rfl,rfl,rfl,fun i r r' h1 h2=>by rw[h1]at h2;injection h2 with h2;subst h2;exact oX (h r (cJ h1))⟩
theorem kX.typed {σ:List Nat} (t:Ty) (l:List t.den) (e:TypeId):kX σ (.live ⟨t.size,l.map t.row,e⟩) (.live ⟨t.size,l.map t.row,e⟩):=
 ⟨by simp,fun o' h=>by
   injection h with h;subst h;exact⟨_,rfl,RenL.self fun r hr x hx=>cF.tree (LE.refl _) (Ty.nir 0 t l r hr x hx)⟩⟩
theorem kX.opt {σ:List Nat} (t:Ty) (l:List t.den) (e:TypeId):kX σ (XO.opt t l e).den (XO.opt t l e).den:=by
 simp only[XO.den];split
 ·exact⟨by simp,fun o' h=>by cases h⟩
 ·exact kX.typed t l e
theorem qRL {σ:List Nat} {o:XO} (h:qYM σ o=true):kX σ o.den o.den:=by
 cases o with
 |raw s=>
  cases s with
  |live o=>exact⟨by simp [XO.den],fun o' q=>by
     injection q with q;subst q;exact⟨_,rfl,RenL.self fun r hr x hx=>pY (List.all_eq_true.1 (List.all_eq_true.1 h r hr) x hx)⟩⟩
  |dead=>exact⟨by simp [XO.den],fun o' q=>by cases q⟩
  |free=>cases h
 |tl t l e=>exact kX.typed t l e
 |opt t l e=>exact kX.opt t l e
 |ob t a e=>exact kX.typed t [a] e
 |row1 sz R k row e=>cases h
theorem qCK {σ gi:List Nat}:∀ {h:List XO} {k:Nat},qMN σ gi h k=true->∀(j:Nat) (o:XO),h[j]? =some o->¬(k+j)∈gi->kX σ o.den o.den/\σ[k+j]? =some (k+j)
 | [],_,_,j,o,ho,_=>by simp at ho
 |x::r,k,h,0,o,ho,hg=>by
  simp only[qMN,Bool.and_eq_true,Bool.or_eq_true]at h;simp at ho;subst ho;rcases h.1 with q|q
  ·exact absurd (by simpa using q) hg
  ·exact⟨qRL q.1,by simpa using q.2⟩
 |x::r,k,h,j+1,o,ho,hg=>by
  simp only[qMN,Bool.and_eq_true]at h;have:=qCK h.2 j o (by simpa using ho) (by rwa [show k+1+j=k+(j+1)by omega]);rwa [show k+1+j=k+(j+1)by omega]at this
structure Near (W:List Nat) (gi:List Nat) (s1 s':Y):Prop where
 sl:∀i,¬i∈W->s'.sl[i]? =s1.sl[i]?
 len:s'.sl.length=s1.sl.length
 h:∀j,j<s1.h.length->¬j∈gi->¬j∈s'.tch->s'.h[j]? =s1.h[j]?
theorem KO (W:List Nat):∀(sl:List V) (i:Nat),(KN W sl i).length=sl.length
 | [],_=>rfl
 |_::r,i=>by simp only[KN,List.length_cons,KO W r]
theorem AY (W:List Nat):∀(sl:List V) (i j:Nat),(KN W sl i)[j]? =(sl[j]?).map fun a=>match W.contains (i+j)with
  |true=>.any
  |false=>a
 | [],_,_=>rfl
 |a::r,i,0=>rfl
 |a::r,i,j+1=>by simp only[KN,List.getElem?_cons_succ];rw[AY W r (i+1) j,show i+1+j=i+(j+1)by omega]
theorem AZ (W:List Nat) (sl:List V):(oP W sl).length=sl.length:=KO W sl 0
theorem qHR (W:List Nat) (sl:List V) (i:Nat) (x:V) (h:(oP W sl)[i]? =some x):x = .any\/(¬i∈W/\sl[i]? =some x):=by
 rw[oP,AY,Nat.zero_add]at h;by_cases hi:i∈W
 ·rw[show W.contains i=true by simpa using hi]at h
  cases hs:sl[i]? with
  |none=>rw[hs]at h;cases h
  |some a=>rw[hs]at h;injection h with h;exact .inl h.symm
 ·rw[show W.contains i=false by simpa using hi]at h
  cases hs:sl[i]? with
  |none=>rw[hs]at h;cases h
  |some a=>rw[hs]at h;injection h with h;exact .inr ⟨hi,by rw[<-h]⟩
theorem tE (W:List Nat) (sl:List V) (i:Nat) (hi:¬i∈W):(oP W sl)[i]? =sl[i]?:=by
 rw[oP,AY,Nat.zero_add,show W.contains i=false by simpa using hi];cases sl[i]?<;>rfl
theorem kA:∀(g:List GK) (y:Tup (gts g)) (b:Bs) (l:List V),(gR g y b l).length=l.length
 | [],_,_,_=>rfl
 | .sl _ _::g,y,b,l=>by simp only[gR];rw[kA g];simp
 | .lst _ _ _::g,y,b,l=>by simp only[gR];rw[kA g];simp
 | .nls _ _ _::g,y,b,l=>by simp only[gR];rw[kA g];simp
 | .ob _ _ _::g,y,b,l=>by simp only[gR];rw[kA g]
 | .ar _ _ _::g,y,b,l=>by simp only[gR];rw[kA g]
 | .op _ _ _::g,y,b,l=>by simp only[gR];rw[kA g]
 | .row _ _::g,y,b,l=>by simp only[gR];rw[kA g]
theorem gI:∀(g:List GK) (y:Tup (gts g)) (b:Bs) (l:List V) (i:Nat),¬i∈gslots g->(gR g y b l)[i]? =l[i]?
 | [],_,_,_,_,_=>rfl
 | .sl d _::g,y,b,l,i,h=>by
   simp only[gslots,List.mem_cons,not_or]at h;simp only[gR];rw[gI g _ _ _ i h.2,List.getElem?_set_ne (Ne.symm h.1)]
 | .lst d _ _::g,y,b,l,i,h=>by
   simp only[gslots,List.mem_cons,not_or]at h;simp only[gR];rw[gI g _ _ _ i h.2,List.getElem?_set_ne (Ne.symm h.1)]
 | .nls d _ _::g,y,b,l,i,h=>by
   simp only[gslots,List.mem_cons,not_or]at h;simp only[gR];rw[gI g _ _ _ i h.2,List.getElem?_set_ne (Ne.symm h.1)]
 | .ob _ _ _::g,y,b,l,i,h=>by simp only[gR];exact gI g _ _ _ i h
 | .ar _ _ _::g,y,b,l,i,h=>by simp only[gR];exact gI g _ _ _ i h
 | .op _ _ _::g,y,b,l,i,h=>by simp only[gR];exact gI g _ _ _ i h
 | .row _ _::g,y,b,l,i,h=>by simp only[gR];exact gI g _ _ _ i h
theorem kL:∀(ks:List CK) (c:Tup (aB ks)) (r:List V) (h:List XO),(nI ks c r h).length=h.length
 | [],_,_,_=>rfl
 | .same::ks,_,[],_=>rfl
 | .same::ks,c,_::r,h=>kL ks c r h
 | .val _::ks,_,[],_=>rfl
 | .val _::ks,c,_::r,h=>kL ks c.2 r h
 | .osf _::ks,_,[],_=>rfl
 | .osf _::ks,c,_::r,h=>kL ks c.2 r h
 | .own _ _::ks,_,[],_=>rfl
 | .ows _ _::ks,_,[],_=>rfl
 | .own t e::ks,c,x::r,h=>(kL ks c.2 r (h.set (idC x) (.opt t c.1 e))).trans (by simp)
 | .ows t e::ks,c,x::r,h=>(kL ks c.2 r (h.set (idC x) (.tl t c.1 e))).trans (by simp)
theorem jK:∀(ks:List CK) (c:Tup (aB ks)) (r:List V) (h:List XO) (i:Nat),¬i∈oV ks r->(nI ks c r h)[i]? =h[i]?
 | [],_,_,_,_,_=>rfl
 | .same::ks,_,[],_,_,_=>rfl
 | .same::ks,c,_::r,h,i,hi=>jK ks c r h i hi
 | .val _::ks,_,[],_,_,_=>rfl
 | .val _::ks,c,_::r,h,i,hi=>jK ks c.2 r h i hi
 | .osf _::ks,_,[],_,_,_=>rfl
 | .osf _::ks,c,_::r,h,i,hi=>jK ks c.2 r h i hi
 | .own _ _::ks,_,[],_,_,_=>rfl
 | .ows _ _::ks,_,[],_,_,_=>rfl
 | .own t e::ks,c,x::r,h,i,hi=>by
   simp only[oV,List.mem_cons,not_or]at hi;exact(jK ks c.2 r (h.set (idC x) (.opt t c.1 e)) i hi.2).trans (List.getElem?_set_ne (Ne.symm hi.1))
 | .ows t e::ks,c,x::r,h,i,hi=>by
   simp only[oV,List.mem_cons,not_or]at hi;exact(jK ks c.2 r (h.set (idC x) (.tl t c.1 e)) i hi.2).trans (List.getElem?_set_ne (Ne.symm hi.1))
theorem jB:∀(g:List GK) (y:Tup (gts g)) (b:Bs) (h:List XO),(gT g y b h).length=h.length
 | [],_,_,_=>rfl
 | .sl _ _::g,y,b,h=>by simp only[gT];exact jB g _ _ _
 | .lst _ _ _::g,y,b,h=>by simp only[gT];rw[jB g];simp
 | .nls _ _ _::g,y,b,h=>by simp only[gT];rw[jB g];simp
 | .ob _ _ _::g,y,b,h=>by simp only[gT];rw[jB g];simp
 | .ar _ _ _::g,y,b,h=>by simp only[gT];rw[jB g];simp
 | .op _ _ _::g,y,b,h=>by simp only[gT];rw[jB g];simp
 | .row _ _::g,y,b,h=>by simp only[gT];rw[jB g,kL];simp
theorem iA:∀(g:List GK) (y:Tup (gts g)) (b:Bs) (h:List XO) (i:Nat),¬i∈gids b g->(gT g y b h)[i]? =h[i]?
 | [],_,_,_,_,_=>rfl
 | .sl _ _::g,y,b,h,i,hi=>by simp only[gT];exact iA g _ _ _ i hi
 | .lst d _ _::g,y,b,h,i,hi=>by
   simp only[gids,List.mem_cons,not_or]at hi;simp only[gT];rw[iA g _ _ _ i hi.2,List.getElem?_set_ne (Ne.symm hi.1)]
 | .nls d _ _::g,y,b,h,i,hi=>by
   simp only[gids,List.mem_cons,not_or]at hi;simp only[gT];rw[iA g _ _ _ i hi.2,List.getElem?_set_ne (Ne.symm hi.1)]
 | .ob d _ _::g,y,b,h,i,hi=>by
   simp only[gids,List.mem_cons,not_or]at hi;simp only[gT];rw[iA g _ _ _ i hi.2,List.getElem?_set_ne (Ne.symm hi.1)]
 | .ar d _ _::g,y,b,h,i,hi=>by
   simp only[gids,List.mem_cons,not_or]at hi;simp only[gT];rw[iA g _ _ _ i hi.2,List.getElem?_set_ne (Ne.symm hi.1)]
 | .op d _ _::g,y,b,h,i,hi=>by
   simp only[gids,List.mem_cons,not_or]at hi;simp only[gT];rw[iA g _ _ _ i hi.2,List.getElem?_set_ne (Ne.symm hi.1)]
 | .row id ks::g,y,b,h,i,hi=>by
   simp only[gids,List.mem_cons,List.mem_append,not_or]at hi;simp only[gT];rw[iA g _ _ _ i hi.2.2,jK _ _ _ _ _ hi.2.1,List.getElem?_set_ne (Ne.symm hi.1)]
theorem rH:∀(ks:List CK) (r r':List V) (σ:List Nat),(qBK ks r r' σ).length=σ.length
 | [],_,_,_=>rfl
 |_::_,[],_,_=>by unfold qBK;split<;>first|rfl|simp_all
 |_::_,_::_,[],_=>by unfold qBK;split<;>first|rfl|simp_all
 | .same::ks,_::r,_::r',σ=>rH ks r r' σ
 | .val _::ks,_::r,_::r',σ=>rH ks r r' σ
 | .osf _::ks,_::r,_::r',σ=>rH ks r r' σ
 | .own _ _::ks,c::r,c'::r',σ=>(rH ks r r' (σ.set (idC c) (idC c'))).trans (by simp)
 | .ows _ _::ks,c::r,c'::r',σ=>(rH ks r r' (σ.set (idC c) (idC c'))).trans (by simp)
theorem qD:∀(g:List GK) (b b':Bs) (σ:List Nat),(sig g b b' σ).length=σ.length
 | [],_,_,_=>rfl
 | .sl _ _::g,b,b',σ=>by simp only[sig];exact qD g _ _ _
 | .lst _ _ _::g,b,b',σ=>by simp only[sig];rw[qD g];simp
 | .nls _ _ _::g,b,b',σ=>by simp only[sig];rw[qD g];simp
 | .ob _ _ _::g,b,b',σ=>by simp only[sig];exact qD g _ _ _
 | .ar _ _ _::g,b,b',σ=>by simp only[sig];exact qD g _ _ _
 | .op _ _ _::g,b,b',σ=>by simp only[sig];exact qD g _ _ _
 | .row _ _::g,b,b',σ=>by simp only[sig];rw[qD g,rH]
theorem joined {a b:List Ty} {x:Tup a} {y:Tup b} {z:Tup (qK4 a b)} (h:aC a b x y=z):uL a b z=(x,y):=by rw[<-h];exact JG a b x y
theorem qDL {σ:List Nat} {h':List XO} {c':V} {j id n:Nat} {t0:Ty} {l0:List t0.den} {t:Ty} {l:List t.den} {e':TypeId} (hc:c' = .oL id n) (ho:h'[id]? =some (.opt t0 l0 e')) (hl:gK l0=some l) (hd:dI (fZ h' c')) (hσ:σ[j]? =some id):cF σ c' (.oL j l.length):=by
 subst hc;simp only[fZ,ho]at hd;have hn:n=l0.length:=of_decide_eq_true (hd _ (List.mem_singleton.2 rfl));rw[hn,(eK hl).2.2];exact cF.oL _ hσ
theorem VD {σ:List Nat} {h':List XO} {c':V} {j id n:Nat} {t0:Ty} {l0:List t0.den} {t:Ty} {l:List t.den} {e':TypeId} (hc:c' = .sO id 0 n) (ho:h'[id]? =some (.tl t0 l0 e')) (hl:gK l0=some l) (hd:dI (fZ h' c')) (hσ:σ[j]? =some id):cF σ c' (.sO j 0 l.length):=by
 subst hc;simp only[fZ,ho]at hd;have hn:n=l0.length:=of_decide_eq_true (hd _ (List.mem_singleton.2 rfl));rw[hn,(eK hl).2.2];exact cF.sO 0 _ hσ
theorem mY {σ:List Nat} {sl':List V} {h':List XO} {b:Bs}:∀(g:List GK) (y:Tup (gts g)) (l:List V),rdG g sl' h'=some y->dI (cdG h' sl' g)->jQ σ b ⟨sl',h'⟩ g=true ->
  (∀(i:Nat) (x v:V),sl'[i]? =some x->l[i]? =some v->cF σ x v)->∀(i:Nat) (x v:V),sl'[i]? =some x->(gR g y b l)[i]? =some v->cF σ x v
 | [],_,_,_,_,_,hl=>hl
 | .sl d t::g,y,l,e,hc,hs,hl=>by
   simp only[rdG]at e;split at e
   ·rename_i v hv
    split at e
    ·rename_i a r ha hr
     injection e with e;subst e;refine mY g r _ hr hc hs (fun i x v' h1 h2=>?_);rw[List.getElem?_set]at h2;split at h2
     ·rename_i q;subst q
      split at h2
      ·injection h2 with h2;subst h2
       rw[hv]at h1;injection h1 with h1;subst h1;exact cF.val ha
      ·cases h2
     ·exact hl i x v' h1 h2
    ·cases e
   ·cases e
 | .lst d t el::g,y,l,e,hc,hs,hl=>by
   simp only[rdG]at e;split at e
   ·rename_i id n hv
    split at e
    ·rename_i t0 l0 e' ho
     split at e
     ·split at e
      ·rename_i l1 r hl1 hr
       injection e with e;subst e;simp only[jQ,Bool.and_eq_true]at hs;have hi:jG ⟨sl',h'⟩ d=id:=by simp [jG,hv,idC]
       have hσ:σ[jG b d]? =some id:=by have:=hs.1;rw[hi]at this;simpa using this
       refine mY g r _ hr (fun c q=>hc c (by simp [cdG,q])) hs.2 (fun i x v' h1 h2=>?_);rw[List.getElem?_set]at h2;split at h2
       ·rename_i q;subst q
        split at h2
        ·injection h2 with h2;subst h2
         rw[hv]at h1;injection h1 with h1;subst h1;exact qDL rfl ho hl1 (fun c q=>hc c (by simp only[cdG,hv,List.mem_append];exact .inl q)) hσ
        ·cases h2
       ·exact hl i x v' h1 h2
      ·cases e
     ·cases e
    ·cases e
   ·cases e
 | .nls d t el::g,y,l,e,hc,hs,hl=>by
   simp only[rdG]at e;split at e
   ·rename_i id n hv
    split at e
    ·rename_i t0 l0 e' ho
     split at e
     ·split at e
      ·rename_i l1 r hl1 hr
       injection e with e;subst e;simp only[jQ,Bool.and_eq_true]at hs;have hi:jG ⟨sl',h'⟩ d=id:=by simp [jG,hv,idC]
       have hσ:σ[jG b d]? =some id:=by have:=hs.1;rw[hi]at this;simpa using this
       refine mY g r _ hr (fun c q=>hc c (by simp [cdG,q])) hs.2 (fun i x v' h1 h2=>?_);rw[List.getElem?_set]at h2;split at h2
       ·rename_i q;subst q
        split at h2
        ·injection h2 with h2;subst h2
         rw[hv]at h1;injection h1 with h1;subst h1;exact VD rfl ho hl1 (fun c q=>hc c (by simp only[cdG,hv,List.mem_append];exact .inl q)) hσ
        ·cases h2
       ·exact hl i x v' h1 h2
      ·cases e
     ·cases e
    ·cases e
   ·cases e
 | .ob id t el::g,y,l,e,hc,hs,hl=>by
   simp only[rdG]at e;repeat' split at e
   all_goals first|(cases e;done)|skip
   rename_i hr;injection e with e;subst e;simp only[jQ,Bool.and_eq_true]at hs;exact mY g _ _ hr hc hs.2 hl
 | .ar id t el::g,y,l,e,hc,hs,hl=>by
   simp only[rdG]at e;repeat' split at e
   all_goals first|(cases e;done)|skip
   rename_i hr;injection e with e;subst e;simp only[jQ,Bool.and_eq_true]at hs;exact mY g _ _ hr hc hs.2 hl
 | .op id t el::g,y,l,e,hc,hs,hl=>by
   simp only[rdG]at e;repeat' split at e
   all_goals first|(cases e;done)|skip
   rename_i hr;injection e with e;subst e;simp only[jQ,Bool.and_eq_true]at hs;exact mY g _ _ hr hc hs.2 hl
 | .row id ks::g,y,l,e,hc,hs,hl=>by
   simp only[rdG]at e;split at e
   ·rename_i c q hk hr
    injection e with e;simp only[jQ,Bool.and_eq_true]at hs;simp only[gR,joined e];exact mY g q l hr (fun c q=>hc c (by simp [cdG,q])) hs.2.2.2.2 hl
   ·cases e
def uJ:(ks:List CK)->List V->List V->Prop
 | .same::ks,c'::r',c::r=>c'=c/\uJ ks r' r
 | .val _::ks,_::r',_::r=>uJ ks r' r
 | .own _ _::ks,_::r',_::r=>uJ ks r' r
 | .ows _ _::ks,_::r',_::r=>uJ ks r' r
 | .osf _::ks,_::r',_::r=>uJ ks r' r
 |_,_,_=>True
theorem mE:∀(ks:List CK) (r' r:List V) (A:Prop),JC ks r' r A->uJ ks r' r/\A
 | [],_,_,_,h=>⟨trivial,h⟩
 | .same::_,[],_,_,h=>h.elim
 | .same::_,_::_,[],_,h=>h.elim
 | .val _::_,[],_,_,h=>h.elim
 | .val _::_,_::_,[],_,h=>h.elim
 | .own _ _::_,[],_,_,h=>h.elim
 | .ows _ _::_,[],_,_,h=>h.elim
 | .osf _::_,[],_,_,h=>h.elim
 | .osf _::_,_::_,[],_,h=>h.elim
 | .own _ _::_,_::_,[],_,h=>h.elim
 | .ows _ _::_,_::_,[],_,h=>h.elim
 | .same::ks,_::r',_::r,A,h=>by
   obtain⟨h1,h2⟩:=mE ks r' r A h.2;exact⟨⟨h.1,h1⟩,h2⟩
 | .val _::ks,_::r',_::r,A,h=>mE ks r' r A h
 | .own _ _::ks,_::r',_::r,A,h=>mE ks r' r A h
 | .ows _ _::ks,_::r',_::r,A,h=>mE ks r' r A h
 | .osf _::ks,_::r',_::r,A,h=>mE ks r' r A h
def sG (b b':Bs):List GK->Prop
 | []=>True
 | .row id ks::g=>uJ ks (rE b' id) (rE b id)/\sG b b' g
 | .sl _ _::g=>sG b b' g
 | .lst _ _ _::g=>sG b b' g
 | .nls _ _ _::g=>sG b b' g
 | .ob _ _ _::g=>sG b b' g
 | .ar _ _ _::g=>sG b b' g
 | .op _ _ _::g=>sG b b' g
theorem jA {b b':Bs}:∀(g:List GK) (A:Prop),AA b b' g A->sG b b' g/\A
 | [],_,h=>⟨trivial,h⟩
 | .row id ks::g,A,h=>by
   obtain⟨h1,h2⟩:=mE ks _ _ _ h;obtain⟨h3,h4⟩:=jA g A h2;exact⟨⟨h1,h3⟩,h4⟩
 | .sl _ _::g,A,h=>jA g A h
 | .lst _ _ _::g,A,h=>jA g A h
 | .nls _ _ _::g,A,h=>jA g A h
 | .ob _ _ _::g,A,h=>jA g A h
 | .ar _ _ _::g,A,h=>jA g A h
 | .op _ _ _::g,A,h=>jA g A h
theorem qA9 {σ:List Nat} {k:Nat} {c:V} {a:Bool} (h:IW k c=some a) (hσ:σ[k]? =some k):cF σ c (rF k a):=by
 unfold IW at h;split at h
 ·injection h with h;subst h;exact cF.tree (LE.refl _) (.v _)
 ·split at h
  ·rename_i q
   have q:=Nat.eq_of_beq_eq_true q;injection h with h;subst h q;exact cF.pO 0 0 hσ
  ·cases h
 ·cases h
theorem vQ {σ:List Nat} {h':List XO}:∀(ks:List CK) (c:Tup (aB ks)) (r r':List V),rdK ks r' h'=some c->dI (cdK ks r' h')->uJ ks r' r->qQ σ ks r r'=true->qL σ ks r=true->Pairs (cF σ) r' (iY ks c r)
 | [],_,[],[],_,_,_,_,_=>⟨rfl,fun i x y h=>by simp at h⟩
 | [],_,_::_,_,_,_,_,_,hf=>by simp [qL]at hf
 | [],_,[],_::_,e,_,_,_,_=>by simp [rdK]at e
 |_::_,_,[],_,_,_,_,_,hf=>by unfold qL at hf;split at hf<;>first|(cases hf;done)|simp_all
 | .same::_,_,_::_,[],e,_,_,_,_=>by simp [rdK]at e
 | .val _::_,_,_::_,[],e,_,_,_,_=>by simp [rdK]at e
 | .own _ _::_,_,_::_,[],e,_,_,_,_=>by simp [rdK]at e
 | .ows _ _::_,_,_::_,[],e,_,_,_,_=>by simp [rdK]at e
 | .osf _::_,_,_::_,[],e,_,_,_,_=>by simp [rdK]at e
 | .same::ks,c,x::r,x'::r',e,hc,hsm,hs,hf=>by
   simp only[qL,Bool.and_eq_true]at hf;obtain⟨q1,q2⟩:=vQ ks c r r' e hc hsm.2 hs hf.2;have hx:=hsm.1;refine⟨by simp [iY,q1],fun i a b ha hb=>?_⟩;cases i with
   |zero=>simp [iY]at ha hb;rw[<-ha,<-hb,hx];exact pY hf.1
   |succ i=>exact q2 i a b (by simpa using ha) (by simpa [iY]using hb)
 | .val t::ks,c,x::r,x'::r',e,hc,hsm,hs,hf=>by
   simp only[qL,Bool.and_eq_true]at hf;simp only[rdK]at e;split at e
   ·rename_i a q ha hq
    injection e with e;subst e;obtain⟨q1,q2⟩:=vQ ks q r r' hq hc hsm hs hf.2;refine⟨by simp [iY,q1],fun i u v hu hv=>?_⟩;cases i with
    |zero=>
     simp [iY]at hu hv;rw[<-hu,<-hv];refine cF.val ?_;cases t with
     |pair _ _=>simp at hf
     |_=>exact ha
    |succ i=>exact q2 i u v (by simpa using hu) (by simpa [iY]using hv)
   ·cases e
 | .osf k::ks,c,x::r,x'::r',e,hc,hsm,hs,hf=>by
   simp only[qL,Bool.and_eq_true]at hf;simp only[rdK]at e;split at e
   ·rename_i a q ha hq
    injection e with e;subst e;obtain⟨q1,q2⟩:=vQ ks q r r' hq hc hsm hs hf.2;refine⟨by simp [iY,q1],fun i u v hu hv=>?_⟩;cases i with
    |zero=>
     simp [iY]at hu hv;rw[<-hu,<-hv];exact qA9 ha (by simpa [ZW]using hf.1)
    |succ i=>exact q2 i u v (by simpa using hu) (by simpa [iY]using hv)
   ·cases e
 | .own t el::ks,c,x::r,x'::r',e,hc,hsm,hs,hf=>by
   simp only[qL]at hf;simp only[rdK]at e;split at e
   ·rename_i id n
    split at e
    ·rename_i t0 l0 e' ho
     split at e
     ·split at e
      ·rename_i l1 q hl1 hq
       injection e with e;subst e;simp only[qQ,Bool.and_eq_true]at hs;obtain⟨q1,q2⟩:=vQ ks q r r' hq (fun c q=>hc c (by simp [cdK,q])) hsm hs.2 hf;refine⟨by simp [iY,q1],fun i u v hu hv=>?_⟩;cases i with
       |zero=>
        simp [iY]at hu hv;rw[<-hu,<-hv];exact qDL rfl ho hl1 (fun c q=>hc c (by simp only[cdK,List.mem_append];exact .inl q)) (by simpa [idC]using hs.1)
       |succ i=>exact q2 i u v (by simpa using hu) (by simpa [iY]using hv)
      ·cases e
     ·cases e
    ·cases e
   ·cases e
 | .ows t el::ks,c,x::r,x'::r',e,hc,hsm,hs,hf=>by
   simp only[qL]at hf;simp only[rdK]at e;split at e
   ·rename_i id n
    split at e
    ·rename_i t0 l0 e' ho
     split at e
     ·split at e
      ·rename_i l1 q hl1 hq
       injection e with e;subst e;simp only[qQ,Bool.and_eq_true]at hs;obtain⟨q1,q2⟩:=vQ ks q r r' hq (fun c q=>hc c (by simp [cdK,q])) hsm hs.2 hf;refine⟨by simp [iY,q1],fun i u v hu hv=>?_⟩;cases i with
       |zero=>
        simp [iY]at hu hv;rw[<-hu,<-hv];exact VD rfl ho hl1 (fun c q=>hc c (by simp only[cdK,List.mem_append];exact .inl q)) (by simpa [idC]using hs.1)
       |succ i=>exact q2 i u v (by simpa using hu) (by simpa [iY]using hv)
      ·cases e
     ·cases e
    ·cases e
   ·cases e
theorem vL {σ:List Nat} {h':List XO}:∀(ks:List CK) (c:Tup (aB ks)) (r r':List V) (k:List XO) (G:List Nat),rdK ks r' h'=some c->qQ σ ks r r'=true->qL σ ks r=true->k.length=σ.length ->
  (∀(j i:Nat),σ[j]? =some i->¬j∈G++oV ks r->∃x z,(dens h')[i]? =some x/\(dens k)[j]? =some z/\kX σ x z)->∀(j i:Nat),σ[j]? =some i->¬j∈G->∃x z,(dens h')[i]? =some x/\(dens (nI ks c r k))[j]? =some z/\kX σ x z
 | [],_,_,_,_,G,_,_,_,_,hk=>fun j i h1 h2=>hk j i h1 (by simpa [oV]using h2)
 |_::_,_,[],_,_,_,_,_,hf,_,_=>by unfold qL at hf;split at hf<;>first|(cases hf;done)|simp_all
 | .same::_,_,_::_,[],_,_,e,_,_,_,_=>by simp [rdK]at e
 | .val _::_,_,_::_,[],_,_,e,_,_,_,_=>by simp [rdK]at e
 | .own _ _::_,_,_::_,[],_,_,e,_,_,_,_=>by simp [rdK]at e
 | .ows _ _::_,_,_::_,[],_,_,e,_,_,_,_=>by simp [rdK]at e
 | .osf _::_,_,_::_,[],_,_,e,_,_,_,_=>by simp [rdK]at e
 | .same::ks,c,x::r,x'::r',k,G,e,hs,hf,hl,hk=>by
   simp only[qL,Bool.and_eq_true]at hf;exact vL ks c r r' k G e hs hf.2 hl hk
 | .val t::ks,c,x::r,x'::r',k,G,e,hs,hf,hl,hk=>by
   simp only[qL,Bool.and_eq_true]at hf;simp only[rdK]at e;split at e
   ·rename_i a q ha hq
    injection e with e;subst e;exact vL ks q r r' k G hq hs hf.2 hl hk
   ·cases e
 | .osf _::ks,c,x::r,x'::r',k,G,e,hs,hf,hl,hk=>by
   simp only[qL,Bool.and_eq_true]at hf;simp only[rdK]at e;split at e
   ·rename_i a q ha hq
    injection e with e;subst e;exact vL ks q r r' k G hq hs hf.2 hl hk
   ·cases e
 | .own t el::ks,c,x::r,x'::r',k,G,e,hs,hf,hl,hk=>by
   simp only[qL]at hf;simp only[rdK]at e;split at e
   ·rename_i id n
    split at e
    ·rename_i t0 l0 e' ho
     split at e
     ·rename_i hee
      split at e
      ·rename_i l1 q hl1 hq
       injection e with e;subst e;simp only[qQ,Bool.and_eq_true]at hs;have hσ:σ[idC x]? =some id:=by simpa [idC]using hs.1
       refine vL ks q r r' _ G hq hs.2 hf (by simpa using hl) (fun j i h1 h2=>?_);by_cases qe:j=idC x
       ·subst qe
        rw[hσ]at h1;injection h1 with h1;subst h1;have hlt:idC x<k.length:=by rw[hl];exact aN hσ
        refine⟨_,_,by rw[aM,ho];rfl,by rw[aM,List.getElem?_set_self hlt];rfl,?_⟩;have:(XO.opt t0 l0 e').den=(XO.opt t l1 el).den:=by
         obtain⟨et,el1⟩:=iT hl1;subst et el1 hee;rfl
        rw[this];exact kX.opt t l1 el
       ·obtain⟨x,z,g1,g2,g3⟩:=hk j i h1 (by simp only[oV,List.mem_append,List.mem_cons,not_or]at h2 ⊢;exact⟨h2.1,qe,h2.2⟩)
        exact⟨x,z,g1,by rw[aZ,List.getElem?_set_ne (Ne.symm qe)];exact g2,g3⟩
      ·cases e
     ·cases e
    ·cases e
   ·cases e
 | .ows t el::ks,c,x::r,x'::r',k,G,e,hs,hf,hl,hk=>by
   simp only[qL]at hf;simp only[rdK]at e;split at e
   ·rename_i id n
    split at e
    ·rename_i t0 l0 e' ho
     split at e
     ·rename_i hee
      split at e
      ·rename_i l1 q hl1 hq
       injection e with e;subst e;simp only[qQ,Bool.and_eq_true]at hs;have hσ:σ[idC x]? =some id:=by simpa [idC]using hs.1
       refine vL ks q r r' _ G hq hs.2 hf (by simpa using hl) (fun j i h1 h2=>?_);by_cases qe:j=idC x
       ·subst qe
        rw[hσ]at h1;injection h1 with h1;subst h1;have hlt:idC x<k.length:=by rw[hl];exact aN hσ
        refine⟨_,_,by rw[aM,ho];rfl,by rw[aM,List.getElem?_set_self hlt];rfl,?_⟩;have:(XO.tl t0 l0 e').den=(XO.tl t l1 el).den:=by
         obtain⟨et,el1⟩:=iT hl1;subst et el1 hee;rfl
        rw[this];exact kX.typed t l1 el
       ·obtain⟨x,z,g1,g2,g3⟩:=hk j i h1 (by simp only[oV,List.mem_append,List.mem_cons,not_or]at h2 ⊢;exact⟨h2.1,qe,h2.2⟩)
        exact⟨x,z,g1,by rw[aZ,List.getElem?_set_ne (Ne.symm qe)];exact g2,g3⟩
      ·cases e
     ·cases e
    ·cases e
   ·cases e
theorem IF {b:Bs} {id:Nat} {s:Nat} {e:El} (h:qCY b id=some (s,e)):∃r,b.h[id]? =some (.raw (.live ⟨s,[r],e⟩))/\rE b id=r:=by
 unfold qCY at h;split at h
 ·rename_i o ho
  split at h
  ·rename_i r hr
   injection h with h;injection h with h1 h2;subst h1 h2;refine⟨r,by rw[ho,<-hr],by simp [rE,ho,hr]⟩
  ·cases h
 ·cases h
theorem pZ {σ:List Nat} {sl':List V} {h':List XO} {b:Bs}:∀(g:List GK) (y:Tup (gts g)) (k:List XO) (G:List Nat),rdG g sl' h'=some y->dI (cdG h' sl' g)->sG b ⟨sl',h'⟩ g->jQ σ b ⟨sl',h'⟩ g=true->k.length=σ.length ->
  (∀(j i:Nat),σ[j]? =some i->¬j∈G++gids b g->∃x z,(dens h')[i]? =some x/\(dens k)[j]? =some z/\kX σ x z)->∀(j i:Nat),σ[j]? =some i->¬j∈G->∃x z,(dens h')[i]? =some x/\(dens (gT g y b k))[j]? =some z/\kX σ x z
 | [],_,_,G,_,_,_,_,_,hk=>fun j i h1 h2=>hk j i h1 (by simpa [gids]using h2)
 | .sl d t::g,y,k,G,e,hc,hsm,hs,hl,hk=>by
   simp only[rdG]at e;repeat' split at e
   all_goals first|(cases e;done)|skip
   rename_i hr;injection e with e;subst e;exact pZ g _ k G hr hc hsm hs hl hk
 | .lst d t el::g,y,k,G,e,hc,hsm,hs,hl,hk=>by
   simp only[rdG]at e;split at e
   ·rename_i id n hv
    split at e
    ·rename_i t0 l0 e' ho
     split at e
     ·rename_i hee
      split at e
      ·rename_i l1 r hl1 hr
       injection e with e;subst e;simp only[jQ,Bool.and_eq_true]at hs;have hi:jG ⟨sl',h'⟩ d=id:=by simp [jG,hv,idC]
       have hσ:σ[jG b d]? =some id:=by have:=hs.1;rw[hi]at this;simpa using this
       refine pZ g r _ G hr (fun c q=>hc c (by simp [cdG,q])) hsm hs.2 (by simpa using hl) (fun j i h1 h2=>?_);by_cases q:j=jG b d
       ·subst q
        rw[hσ]at h1;injection h1 with h1;subst h1;have hlt:jG b d<k.length:=by rw[hl];exact aN hσ
        refine⟨_,_,by rw[aM,ho];rfl,by rw[aM,List.getElem?_set_self hlt];rfl,?_⟩;have:(XO.opt t0 l0 e').den=(XO.opt t l1 el).den:=by
         obtain⟨et,el1⟩:=iT hl1;subst et el1 hee;rfl
        rw[this];exact kX.opt t l1 el
       ·obtain⟨x,z,g1,g2,g3⟩:=hk j i h1 (by simp only[gids,List.mem_append,List.mem_cons,not_or]at h2 ⊢;exact⟨h2.1,q,h2.2⟩)
        exact⟨x,z,g1,by rw[aZ,List.getElem?_set_ne (Ne.symm q)];exact g2,g3⟩
      ·cases e
     ·cases e
    ·cases e
   ·cases e
 | .nls d t el::g,y,k,G,e,hc,hsm,hs,hl,hk=>by
   simp only[rdG]at e;split at e
   ·rename_i id n hv
    split at e
    ·rename_i t0 l0 e' ho
     split at e
     ·rename_i hee
      split at e
      ·rename_i l1 r hl1 hr
       injection e with e;subst e;simp only[jQ,Bool.and_eq_true]at hs;have hi:jG ⟨sl',h'⟩ d=id:=by simp [jG,hv,idC]
       have hσ:σ[jG b d]? =some id:=by have:=hs.1;rw[hi]at this;simpa using this
       refine pZ g r _ G hr (fun c q=>hc c (by simp [cdG,q])) hsm hs.2 (by simpa using hl) (fun j i h1 h2=>?_);by_cases q:j=jG b d
       ·subst q
        rw[hσ]at h1;injection h1 with h1;subst h1;have hlt:jG b d<k.length:=by rw[hl];exact aN hσ
        refine⟨_,_,by rw[aM,ho];rfl,by rw[aM,List.getElem?_set_self hlt];rfl,?_⟩;have:(XO.tl t0 l0 e').den=(XO.tl t l1 el).den:=by
         obtain⟨et,el1⟩:=iT hl1;subst et el1 hee;rfl
        rw[this];exact kX.typed t l1 el
       ·obtain⟨x,z,g1,g2,g3⟩:=hk j i h1 (by simp only[gids,List.mem_append,List.mem_cons,not_or]at h2 ⊢;exact⟨h2.1,q,h2.2⟩)
        exact⟨x,z,g1,by rw[aZ,List.getElem?_set_ne (Ne.symm q)];exact g2,g3⟩
      ·cases e
     ·cases e
    ·cases e
   ·cases e
 | .ob id t el::g,y,k,G,e,hc,hsm,hs,hl,hk=>by
   simp only[rdG]at e;split at e
   ·rename_i xo ho
    split at e
    ·rename_i a q ha hr
     injection e with e;subst e;simp only[jQ,Bool.and_eq_true]at hs;have hσ:σ[id]? =some id:=by simpa using hs.1
     obtain⟨o,o1,o2,o3,o4,o5⟩:=EY ha;refine pZ g q _ G hr hc hsm hs.2 (by simpa using hl) (fun j i h1 h2=>?_);by_cases qe:j=id
     ·subst qe
      rw[hσ]at h1;injection h1 with h1;subst h1;have hlt:j<k.length:=by rw[hl];exact aN hσ
      refine⟨_,_,by rw[aM,ho];rfl,by rw[aM,List.getElem?_set_self hlt];rfl,by simp [XO.den],fun o' ho'=>?_⟩;simp only[XO.den]at ho';injection ho' with ho';subst ho';refine⟨o,o1,⟨o2,o3,o4,fun m r1 r2 h3 h4=>?_⟩⟩;obtain⟨u1,u2⟩:=o5 m r1 r2 h3 h4;refine⟨u1,fun p c c' hc hc'=>cF.tree (u2 p c c' hc hc') ?_⟩;exact t.nir 0 [a] r2 (cJ h4) c' (cJ hc')
     ·obtain⟨x,z,g1,g2,g3⟩:=hk j i h1 (by simp only[gids,List.mem_append,List.mem_cons,not_or]at h2 ⊢;exact⟨h2.1,qe,h2.2⟩)
      exact⟨x,z,g1,by rw[aZ,List.getElem?_set_ne (Ne.symm qe)];exact g2,g3⟩
    ·cases e
   ·cases e
 | .ar id t el::g,y,k,G,e,hc,hsm,hs,hl,hk=>by
   simp only[rdG]at e;split at e
   ·rename_i t0 l0 e' ho
    split at e
    ·rename_i hee
     split at e
     ·rename_i l1 r hl1 hr
      injection e with e;subst e;simp only[jQ,Bool.and_eq_true]at hs;have hσ:σ[id]? =some id:=by simpa using hs.1
      refine pZ g r _ G hr hc hsm hs.2 (by simpa using hl) (fun j i h1 h2=>?_);by_cases qe:j=id
      ·subst qe
       rw[hσ]at h1;injection h1 with h1;subst h1;have hlt:j<k.length:=by rw[hl];exact aN hσ
       refine⟨_,_,by rw[aM,ho];rfl,by rw[aM,List.getElem?_set_self hlt];rfl,?_⟩;have:(XO.tl t0 l0 e').den=(XO.tl t l1 el).den:=by
        obtain⟨et,el1⟩:=iT hl1;subst et el1 hee;rfl
       rw[this];exact kX.typed t l1 el
      ·obtain⟨x,z,g1,g2,g3⟩:=hk j i h1 (by simp only[gids,List.mem_append,List.mem_cons,not_or]at h2 ⊢;exact⟨h2.1,qe,h2.2⟩)
       exact⟨x,z,g1,by rw[aZ,List.getElem?_set_ne (Ne.symm qe)];exact g2,g3⟩
     ·cases e
    ·cases e
   ·cases e
 | .op id t el::g,y,k,G,e,hc,hsm,hs,hl,hk=>by
   simp only[rdG]at e;split at e
   ·rename_i t0 l0 e' ho
    split at e
    ·rename_i hee
     split at e
     ·rename_i l1 r hl1 hr
      injection e with e;subst e;simp only[jQ,Bool.and_eq_true]at hs;have hσ:σ[id]? =some id:=by simpa using hs.1
      refine pZ g r _ G hr hc hsm hs.2 (by simpa using hl) (fun j i h1 h2=>?_);by_cases qe:j=id
      ·subst qe
       rw[hσ]at h1;injection h1 with h1;subst h1;have hlt:j<k.length:=by rw[hl];exact aN hσ
       refine⟨_,_,by rw[aM,ho];rfl,by rw[aM,List.getElem?_set_self hlt];rfl,?_⟩;have:(XO.opt t0 l0 e').den=(XO.opt t l1 el).den:=by
        obtain⟨et,el1⟩:=iT hl1;subst et el1 hee;rfl
       rw[this];exact kX.opt t l1 el
      ·obtain⟨x,z,g1,g2,g3⟩:=hk j i h1 (by simp only[gids,List.mem_append,List.mem_cons,not_or]at h2 ⊢;exact⟨h2.1,qe,h2.2⟩)
       exact⟨x,z,g1,by rw[aZ,List.getElem?_set_ne (Ne.symm qe)];exact g2,g3⟩
     ·cases e
    ·cases e
   ·cases e
 | .row id ks::g,y,k,G,e,hc,hsm,hs,hl,hk=>by
   simp only[rdG]at e;split at e
   ·rename_i c q hrk hr
    injection e with e;simp only[jQ,Bool.and_eq_true]at hs;obtain⟨s1,s2,s3,s4,s5⟩:=hs;have hσ:σ[id]? =some id:=by simpa using s1
    simp only[gT,joined e];refine pZ g q _ G hr (fun c q=>hc c (by simp [cdG,q])) hsm.2 s5 (by rw[kL];simpa using hl) (fun j i h1 h2=>?_);refine vL ks c (rE b id) (rE ⟨sl',h'⟩ id) _ (G++gids b g) hrk s2 s3 (by simpa using hl) (fun j i h1 h2=>?_) j i h1 h2;by_cases qe:j=id
    ·subst qe
     rw[hσ]at h1;injection h1 with h1;subst h1;have hlt:j<k.length:=by rw[hl];exact aN hσ
     simp only[qD2]at s4;split at s4
     ·rename_i sz el sz' el' h3 h4
      simp only[Bool.and_eq_true]at s4;have q1:=Nat.eq_of_beq_eq_true s4.1;have q2:=Nat.eq_of_beq_eq_true s4.2.1;have q3:=Nat.eq_of_beq_eq_true s4.2.2;subst q1;have q2:el=el':=by
       obtain⟨a,b⟩:=el;obtain⟨a',b'⟩:=el';have q2:a=a':=q2;have q3:b=b':=q3;rw[q2,q3]
      subst q2;obtain⟨r,u1,u2⟩:=IF h3;obtain⟨r',v1,v2⟩:=IF h4;have v1:h'[j]? =some (.raw (.live ⟨sz,[r'],el⟩)):=v1;refine⟨_,_,by rw[aM,v1];rfl,by rw[aM,List.getElem?_set_self hlt];rfl,?_⟩;simp only[qOF,u1,XO.den];refine⟨by simp,fun o' ho'=>?_⟩;injection ho' with ho';subst ho';refine⟨_,rfl,⟨rfl,rfl,rfl,fun m r1 r2 h3 h4=>?_⟩⟩;cases m with
      |zero=>
       simp at h3 h4;subst h3 h4;rw[<-v2];exact vQ ks c _ _ hrk (fun c q=>hc c (by simp [cdG,q])) hsm.1 s2 s3
      |succ m=>simp at h3
     ·cases s4
    ·obtain⟨x,z,g1,g2,g3⟩:=hk j i h1 (by simp only[gids,List.mem_append,List.mem_cons,not_or]at h2 ⊢;exact⟨h2.1.1,qe,h2.2,h2.1.2⟩)
     exact⟨x,z,g1,by rw[aZ,List.getElem?_set_ne (Ne.symm qe)];exact g2,g3⟩
   ·cases e
theorem qU {n0:Nat} {W:List Nat} {g:List GK} {s1 s':Y} {k:Tup (gts g)->Prop} (hn:Near W (gids s1.bs g) s1 s') (h:arrive n0 W g s1 s' k) :
  ∃σ y,CutR n0 σ s'.den ⟨gR g y s1.bs (oP W s1.sl),dens (gT g y s1.bs s1.h)⟩/\k y/\(∀d,d∈gslots g->d∈W):=by
 unfold arrive at h;split at h
 ·rename_i y hy
  obtain⟨hcd,h⟩:=bO h;obtain⟨hsm,⟨hok⟩,hk⟩:=jA g _ h;simp only[okG,Bool.and_eq_true]at hok;obtain⟨⟨⟨⟨⟨⟨⟨o1,o2⟩,o3⟩,o4⟩,o5⟩,o6⟩,o7⟩,o8⟩:=hok;generalize hσ:sig g s1.bs s'.bs (List.range s1.h.length)=σ at o1 o2 o3 o4 o5 o6;have hlen:σ.length=s1.h.length:=by rw[<-hσ,qD];simp
  have hW:∀d,d∈gslots g->d∈W:=fun d hd=>by simpa using List.all_eq_true.1 o8 d hd
  refine⟨σ,y,⟨by rw[hlen,dK,jB],qIO o2,NU o1,⟨?_,?_⟩,?_⟩,hk,hW⟩
  ·simp only[Y.den,kA,AZ];exact hn.len
  ·simp only[Y.den]
   refine mY g y _ hy hcd o4 (fun i x v h1 h2=>?_);rcases qHR _ _ _ _ h2 with q|⟨q1,q2⟩
   ·subst q;exact cF.any _ _
   ·rw[hn.sl i q1,q2]at h1;injection h1 with h1;subst h1
    exact pY (List.all_eq_true.1 o5 _ (cJ h2))
  ·simp only[Y.den]
   intro j i hj;refine pZ g y s1.h [] hy hcd hsm o4 hlen.symm (fun j i h1 h2=>?_) j i hj (by simp);have hlt:j<s1.h.length:=by rw[<-hlen];exact aN h1
   have h2':¬j∈gids s1.bs g:=by simpa using h2
   obtain⟨r1,r2⟩:=qCK o6 j s1.h[j] (List.getElem?_eq_getElem hlt) (by simpa using h2');rw[Nat.zero_add]at r2;rw[r2]at h1;injection h1 with h1;subst h1;have ht:¬j∈s'.tch:=by
    intro q;have:=List.all_eq_true.1 o7 j q;simp only[Bool.or_eq_true,List.contains_eq_mem,decide_eq_true_eq,Nat.ble_eq]at this;rcases this with q|q
    ·exact h2' q
    ·omega
   have he:=hn.h j hlt h2' ht;rw[List.getElem?_eq_getElem hlt]at he;exact⟨_,_,by rw[aM,he];rfl,by rw[aM,List.getElem?_eq_getElem hlt];rfl,r1⟩
 ·exact h.elim
end Go.Abs
