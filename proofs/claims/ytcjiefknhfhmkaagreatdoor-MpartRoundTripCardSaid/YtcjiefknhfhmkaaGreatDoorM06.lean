import Derived.Shelf.Sort.Plain
import Derived.Shelf.Slices.In.SortNone
import Derived.Shelf.Slices.CompactS
import Derived.Shelf.Spec.SearchS
import Derived.Shelf.Strconv.Itoa0
import Derived.Test.YtcjiefknhfhmkaaGreatDoorRows
import Derived.Test.YtcjiefknhfhmkaaGreatDoorM05
open List renaming getElem?_set_ne -> ga, mem_append -> gc, all_eq_true -> ge, mem_cons -> gf, getElem?_eq_getElem -> gg, replicate -> gh, getElem?_set_self -> gl, getElem?_append_left -> gn, length_cons -> gq, mem_map -> gr, getElem?_set -> gu, getElem?_cons_succ -> gw, length_eq_zero_iff -> gx, take_append_drop -> gz, contains_eq_mem -> kb, mem_cons_of_mem -> kc, map_eq_nil_iff -> ke, mem_singleton -> kf, mem_cons_self -> kg, getElem?_take -> kh
open Bool renaming and_eq_true -> gb, or_eq_true -> gy
open Array renaming getElem?_eq_none -> gj, ext_getElem? -> go, getElem?_modify -> ka
open Nat renaming eq_of_beq_eq_true -> gk, beq -> gm, zero_add -> gp, lt_of_lt_of_le -> gt, le_refl -> kd, ble -> ki
open Option renaming getD_some -> kk, map_some -> km
namespace Go.Abs
set_option maxRecDepth 100000
set_option maxHeartbeats 4000000
set_option linter.unusedVariables false
set_option linter.unusedSimpArgs false
theorem PH:∀ {l:List Nat},TD l=true->l.Nodup
 | [],_=>List.nodup_nil
 |x::xs,h=>by
  simp only[TD,gb,Bool.not_eq_true',kb,decide_eq_false_iff_not]at h;exact List.nodup_cons.2 ⟨h.1,PH h.2⟩
theorem qKL {n:Nat} {σ:List Nat} (h:qO0 n σ=true) (j:Nat) (hj:j<n):σ[j]? =some j:=by
 have:=ge.1 h j (by simpa using hj);simpa using this
theorem qZO {t:Ty} {v:V} {a:t.den} (h:un (cN 8) t (fI t v)=some (a,[])):LE v (t.val a):=
 RK (R:=fun a b=>LE a b) (R':=fun a b=>LE a b) (fW 8) (fun _=>LE.refl _) (fun _ _ h=>h) LE.norm_agg h
theorem cE.val {σ:List Nat} {t:Ty} {v:V} {a:t.den} (h:un (cN 8) t (fI t v)=some (a,[])):cE σ v (t.val a):=cE.tree (qZO h) (Ty.ni_val 0 t a)
theorem qC {R:V->V->Prop} {xs:List V} (h:∀x,x∈xs->R x x):Pairs R xs xs:=
 ⟨rfl,fun i x y h1 h2=>by rw[h1]at h2;injection h2 with h2;subst h2;exact h x (cD h1)⟩
theorem qW {σ:List Nat}:∀ {n:Nat} {x:V},IT σ n x=true->cE σ x x
 |0,x,h=>by simp [IT]at h
 |n+1,x,h=>by
  have fi:∀ {id:Nat},qB2 σ id=true->σ[id]? =some id:=fun{id} q=>by simpa [qB2]using q
  cases x with
  |v x=>exact cE.tree (LE.refl _) (.v _)
  |any=>exact cE.any _ _
  |pO id r o=>exact cE.pO r o (fi h)
  |sO id o l=>exact cE.sO o l (fi h)
  |oL id l=>exact cE.oL l (fi h)
  |sL t l=>exact cE.tree (LE.refl _) (.sL _ _)
  |agg xs=>exact cE.agg (qC fun x hx=>qW (ge.1 h x hx))
  |tup xs=>exact cE.tup (qC fun x hx=>qW (ge.1 h x hx))
  |fn f a b=>
   simp only[IT,gb]at h;exact cE.fn (qC fun x hx=>qW (ge.1 h.1 x hx)) (qC fun x hx=>qW (ge.1 h.2 x hx))
  |ifc t x=>exact cE.ifc (qW (n:=n) h)
  |pF r o=>exact cE.tree (LE.refl _) (.pF o fun x hx=>BX (ge.1 h x hx))
  |sF s r=>exact cE.tree (LE.refl _) (.sF s fun r hr x hx=>BX (ge.1 (ge.1 h r hr) x hx))
theorem RenL.self {σ:List Nat} {o:AObj} (h:∀r,r∈o.rows->∀x,x∈r->cE σ x x):RenL σ o o:=
 ⟨rfl,rfl,rfl,fun i r r' h1 h2=>by rw[h1]at h2;injection h2 with h2;subst h2;exact qC (h r (cD h1))⟩
theorem lE.typed {σ:List Nat} (t:Ty) (l:List t.den) (e:El):lE σ (.live ⟨t.size,l.map t.row,e⟩) (.live ⟨t.size,l.map t.row,e⟩):=
 ⟨sm,fun o' h=>by
   injection h with h;subst h;exact⟨_,rfl,RenL.self fun r hr x hx=>cE.tree (LE.refl _) (Ty.nir 0 t l r hr x hx)⟩⟩
theorem lE.opt {σ:List Nat} (t:Ty) (l:List t.den) (e:El):lE σ (XO.opt t l e).den (XO.opt t l e).den:=by
 simp only[XO.den];split
 ·exact⟨sm,fun o' h=>by cases h⟩
 ·exact lE.typed t l e
theorem qTN {σ:List Nat} {o:XO} (h:qaV σ o=true):lE σ o.den o.den:=by
 cases o with
 |raw s=>
  cases s with
  |live o=>exact⟨by simp [XO.den],fun o' q=>by
     injection q with q;subst q;exact⟨_,rfl,RenL.self fun r hr x hx=>qW (ge.1 (ge.1 h r hr) x hx)⟩⟩
  |dead=>exact⟨by simp [XO.den],fun o' q=>by cases q⟩
  |free=>cases h
 |tl t l e=>exact lE.typed t l e
 |opt t l e=>exact lE.opt t l e
 |ob t a e=>exact lE.typed t [a] e
 |row1 sz R k row e=>cases h
theorem qEL {σ gi:List Nat}:∀ {h:List XO} {k:Nat},qOQ σ gi h k=true->∀(j:Nat) (o:XO),h[j]? =some o->¬(k+j)∈gi->lE σ o.den o.den/\σ[k+j]? =some (k+j)
 | [],_,_,j,o,ho,_=>by simp at ho
 |x::r,k,h,0,o,ho,hg=>by
  simp only[qOQ,gb,gy]at h;simp at ho;subst ho;rcases h.1 with q|q
  ·exact absurd (by simpa using q) hg
  ·exact⟨qTN q.1,by simpa using q.2⟩
 |x::r,k,h,j+1,o,ho,hg=>by
  simp only[qOQ,gb]at h;have:=qEL h.2 j o (by simpa using ho) (by rwa [show k+1+j=k+(j+1)by omega]);rwa [show k+1+j=k+(j+1)by omega]at this
structure Near (W:List Nat) (gi:List Nat) (s1 s':Y):Prop where
 sl:∀i,¬i∈W->s'.sl[i]? =s1.sl[i]?
 len:s'.sl.length=s1.sl.length
 h:∀j,j<s1.h.length->¬j∈gi->¬j∈s'.tch->s'.h[j]? =s1.h[j]?
theorem MD (W:List Nat):∀(sl:List V) (i:Nat),(MC W sl i).length=sl.length
 | [],_=>rfl
 |_::r,i=>by simp only[MC,gq,MD W r]
theorem BD (W:List Nat):∀(sl:List V) (i j:Nat),(MC W sl i)[j]? =(sl[j]?).map fun a=>match W.contains (i+j)with
  |true=>.any
  |false=>a
 | [],_,_=>rfl
 |a::r,i,0=>rfl
 |a::r,i,j+1=>by simp only[MC,gw];rw[BD W r (i+1) j,show i+1+j=i+(j+1)by omega]
theorem BE (W:List Nat) (sl:List V):(kU W sl).length=sl.length:=MD W sl 0
theorem qJK (W:List Nat) (sl:List V) (i:Nat) (x:V) (h:(kU W sl)[i]? =some x):x = .any\/(¬i∈W/\sl[i]? =some x):=by
 rw[kU,BD,gp]at h;by_cases hi:i∈W
 ·rw[show W.contains i=true by simpa using hi]at h
  cases hs:sl[i]? with
  |none=>rw[hs]at h;cases h
  |some a=>rw[hs]at h;injection h with h;exact .inl h.symm
 ·rw[show W.contains i=false by simpa using hi]at h
  cases hs:sl[i]? with
  |none=>rw[hs]at h;cases h
  |some a=>rw[hs]at h;injection h with h;exact .inr ⟨hi,by rw[<-h]⟩
theorem uA (W:List Nat) (sl:List V) (i:Nat) (hi:¬i∈W):(kU W sl)[i]? =sl[i]?:=by
 rw[kU,BD,gp,show W.contains i=false by simpa using hi];cases sl[i]?<;>rfl
theorem kC:∀(g:List GK) (y:Tup (gts g)) (b:Bs) (l:List V),(fQ g y b l).length=l.length
 | [],_,_,_=>rfl
 | .sl _ _::g,y,b,l=>by simp only[fQ];rw[kC g];simp
 | .lst _ _ _::g,y,b,l=>by simp only[fQ];rw[kC g];simp
 | .nls _ _ _::g,y,b,l=>by simp only[fQ];rw[kC g];simp
 | .ob _ _ _::g,y,b,l=>by simp only[fQ];rw[kC g]
 | .ar _ _ _::g,y,b,l=>by simp only[fQ];rw[kC g]
 | .op _ _ _::g,y,b,l=>by simp only[fQ];rw[kC g]
 | .row _ _::g,y,b,l=>by simp only[fQ];rw[kC g]
theorem gI:∀(g:List GK) (y:Tup (gts g)) (b:Bs) (l:List V) (i:Nat),¬i∈gslots g->(fQ g y b l)[i]? =l[i]?
 | [],_,_,_,_,_=>rfl
 | .sl d _::g,y,b,l,i,h=>by
   simp only[gslots,gf,not_or]at h;simp only[fQ];rw[gI g _ _ _ i h.2,ga (Ne.symm h.1)]
 | .lst d _ _::g,y,b,l,i,h=>by
   simp only[gslots,gf,not_or]at h;simp only[fQ];rw[gI g _ _ _ i h.2,ga (Ne.symm h.1)]
 | .nls d _ _::g,y,b,l,i,h=>by
   simp only[gslots,gf,not_or]at h;simp only[fQ];rw[gI g _ _ _ i h.2,ga (Ne.symm h.1)]
 | .ob _ _ _::g,y,b,l,i,h=>by simp only[fQ];exact gI g _ _ _ i h
 | .ar _ _ _::g,y,b,l,i,h=>by simp only[fQ];exact gI g _ _ _ i h
 | .op _ _ _::g,y,b,l,i,h=>by simp only[fQ];exact gI g _ _ _ i h
 | .row _ _::g,y,b,l,i,h=>by simp only[fQ];exact gI g _ _ _ i h
theorem kQ:∀(ks:List CK) (c:Tup (aB ks)) (r:List V) (h:List XO),(oG ks c r h).length=h.length
 | [],_,_,_=>rfl
 | .same::ks,_,[],_=>rfl
 | .same::ks,c,_::r,h=>kQ ks c r h
 | .val _::ks,_,[],_=>rfl
 | .val _::ks,c,_::r,h=>kQ ks c.2 r h
 | .osf _::ks,_,[],_=>rfl
 | .osf _::ks,c,_::r,h=>kQ ks c.2 r h
 | .own _ _::ks,_,[],_=>rfl
 | .ows _ _::ks,_,[],_=>rfl
 | .own t e::ks,c,x::r,h=>(kQ ks c.2 r (h.set (idC x) (.opt t c.1 e))).trans sm
 | .ows t e::ks,c,x::r,h=>(kQ ks c.2 r (h.set (idC x) (.tl t c.1 e))).trans sm
theorem jP:∀(ks:List CK) (c:Tup (aB ks)) (r:List V) (h:List XO) (i:Nat),¬i∈qB ks r->(oG ks c r h)[i]? =h[i]?
 | [],_,_,_,_,_=>rfl
 | .same::ks,_,[],_,_,_=>rfl
 | .same::ks,c,_::r,h,i,hi=>jP ks c r h i hi
 | .val _::ks,_,[],_,_,_=>rfl
 | .val _::ks,c,_::r,h,i,hi=>jP ks c.2 r h i hi
 | .osf _::ks,_,[],_,_,_=>rfl
 | .osf _::ks,c,_::r,h,i,hi=>jP ks c.2 r h i hi
 | .own _ _::ks,_,[],_,_,_=>rfl
 | .ows _ _::ks,_,[],_,_,_=>rfl
 | .own t e::ks,c,x::r,h,i,hi=>by
   simp only[qB,gf,not_or]at hi;exact(jP ks c.2 r (h.set (idC x) (.opt t c.1 e)) i hi.2).trans (ga (Ne.symm hi.1))
 | .ows t e::ks,c,x::r,h,i,hi=>by
   simp only[qB,gf,not_or]at hi;exact(jP ks c.2 r (h.set (idC x) (.tl t c.1 e)) i hi.2).trans (ga (Ne.symm hi.1))
theorem jF:∀(g:List GK) (y:Tup (gts g)) (b:Bs) (h:List XO),(gH g y b h).length=h.length
 | [],_,_,_=>rfl
 | .sl _ _::g,y,b,h=>by simp only[gH];exact jF g _ _ _
 | .lst _ _ _::g,y,b,h=>by simp only[gH];rw[jF g];simp
 | .nls _ _ _::g,y,b,h=>by simp only[gH];rw[jF g];simp
 | .ob _ _ _::g,y,b,h=>by simp only[gH];rw[jF g];simp
 | .ar _ _ _::g,y,b,h=>by simp only[gH];rw[jF g];simp
 | .op _ _ _::g,y,b,h=>by simp only[gH];rw[jF g];simp
 | .row _ _::g,y,b,h=>by simp only[gH];rw[jF g,kQ];simp
theorem gY:∀(g:List GK) (y:Tup (gts g)) (b:Bs) (h:List XO) (i:Nat),¬i∈gids b g->(gH g y b h)[i]? =h[i]?
 | [],_,_,_,_,_=>rfl
 | .sl _ _::g,y,b,h,i,hi=>by simp only[gH];exact gY g _ _ _ i hi
 | .lst d _ _::g,y,b,h,i,hi=>by
   simp only[gids,gf,not_or]at hi;simp only[gH];rw[gY g _ _ _ i hi.2,ga (Ne.symm hi.1)]
 | .nls d _ _::g,y,b,h,i,hi=>by
   simp only[gids,gf,not_or]at hi;simp only[gH];rw[gY g _ _ _ i hi.2,ga (Ne.symm hi.1)]
 | .ob d _ _::g,y,b,h,i,hi=>by
   simp only[gids,gf,not_or]at hi;simp only[gH];rw[gY g _ _ _ i hi.2,ga (Ne.symm hi.1)]
 | .ar d _ _::g,y,b,h,i,hi=>by
   simp only[gids,gf,not_or]at hi;simp only[gH];rw[gY g _ _ _ i hi.2,ga (Ne.symm hi.1)]
 | .op d _ _::g,y,b,h,i,hi=>by
   simp only[gids,gf,not_or]at hi;simp only[gH];rw[gY g _ _ _ i hi.2,ga (Ne.symm hi.1)]
 | .row id ks::g,y,b,h,i,hi=>by
   simp only[gids,gf,gc,not_or]at hi;simp only[gH];rw[gY g _ _ _ i hi.2.2,jP _ _ _ _ _ hi.2.1,ga (Ne.symm hi.1)]
theorem sE:∀(ks:List CK) (r r':List V) (σ:List Nat),(qDJ ks r r' σ).length=σ.length
 | [],_,_,_=>rfl
 |_::_,[],_,_=>by unfold qDJ;split<;>first|rfl|simp_all
 |_::_,_::_,[],_=>by unfold qDJ;split<;>first|rfl|simp_all
 | .same::ks,_::r,_::r',σ=>sE ks r r' σ
 | .val _::ks,_::r,_::r',σ=>sE ks r r' σ
 | .osf _::ks,_::r,_::r',σ=>sE ks r r' σ
 | .own _ _::ks,c::r,c'::r',σ=>(sE ks r r' (σ.set (idC c) (idC c'))).trans sm
 | .ows _ _::ks,c::r,c'::r',σ=>(sE ks r r' (σ.set (idC c) (idC c'))).trans sm
theorem rB:∀(g:List GK) (b b':Bs) (σ:List Nat),(sig g b b' σ).length=σ.length
 | [],_,_,_=>rfl
 | .sl _ _::g,b,b',σ=>by simp only[sig];exact rB g _ _ _
 | .lst _ _ _::g,b,b',σ=>by simp only[sig];rw[rB g];simp
 | .nls _ _ _::g,b,b',σ=>by simp only[sig];rw[rB g];simp
 | .ob _ _ _::g,b,b',σ=>by simp only[sig];exact rB g _ _ _
 | .ar _ _ _::g,b,b',σ=>by simp only[sig];exact rB g _ _ _
 | .op _ _ _::g,b,b',σ=>by simp only[sig];exact rB g _ _ _
 | .row _ _::g,b,b',σ=>by simp only[sig];rw[rB g,sE]
theorem joined {a b:List Ty} {x:Tup a} {y:Tup b} {z:Tup (qM4 a b)} (h:aC a b x y=z):vB a b z=(x,y):=by rw[<-h];exact KN a b x y
theorem qFH {σ:List Nat} {h':List XO} {c':V} {j id n:Nat} {t0:Ty} {l0:List t0.den} {t:Ty} {l:List t.den} {e':El} (hc:c' = .oL id n) (ho:h'[id]? =some (.opt t0 l0 e')) (hl:fR l0=some l) (hd:dK (fZ h' c')) (hσ:σ[j]? =some id):cE σ c' (.oL j l.length):=by
 subst hc;simp only[fZ,ho]at hd;have hn:n=l0.length:=of_decide_eq_true (hd _ (kf.2 rfl));rw[hn,(eS hl).2.2];exact cE.oL _ hσ
theorem XP {σ:List Nat} {h':List XO} {c':V} {j id n:Nat} {t0:Ty} {l0:List t0.den} {t:Ty} {l:List t.den} {e':TypeId} (hc:c' = .sO id 0 n) (ho:h'[id]? =some (.tl t0 l0 e')) (hl:fR l0=some l) (hd:dK (fZ h' c')) (hσ:σ[j]? =some id):cE σ c' (.sO j 0 l.length):=by
 subst hc;simp only[fZ,ho]at hd;have hn:n=l0.length:=of_decide_eq_true (hd _ (kf.2 rfl));rw[hn,(eS hl).2.2];exact cE.sO 0 _ hσ
theorem nW {σ:List Nat} {sl':List V} {h':List XO} {b:Bs}:∀(g:List GK) (y:Tup (gts g)) (l:List V),rdG g sl' h'=some y->dK (cdG h' sl' g)->jT σ b ⟨sl',h'⟩ g=true ->
  (∀(i:Nat) (x v:V),sl'[i]? =some x->l[i]? =some v->cE σ x v)->∀(i:Nat) (x v:V),sl'[i]? =some x->(fQ g y b l)[i]? =some v->cE σ x v
 | [],_,_,_,_,_,hl=>hl
 | .sl d t::g,y,l,e,hc,hs,hl=>by
   simp only[rdG]at e;split at e
   ·rename_i v hv
    split at e
    ·rename_i a r ha hr
     injection e with e;subst e;refine nW g r _ hr hc hs (fun i x v' h1 h2=>?_);rw[gu]at h2;split at h2
     ·rename_i q;subst q
      split at h2
      ·injection h2 with h2;subst h2
       rw[hv]at h1;injection h1 with h1;subst h1;exact cE.val ha
      ·cases h2
     ·exact hl i x v' h1 h2
    ·cases e
   ·cases e
 | .lst d t el::g,y,l,e,hc,hs,hl=>by
   simp only[rdG]at e;split at e
   ·rename_i id n hv
    split at e
    ·rename_i t0 l0 e' ho
     split at e
     ·split at e
      ·rename_i l1 r hl1 hr
       injection e with e;subst e;simp only[jT,gb]at hs;have hi:jM ⟨sl',h'⟩ d=id:=by simp [jM,hv,idC]
       have hσ:σ[jM b d]? =some id:=by have:=hs.1;rw[hi]at this;simpa using this
       refine nW g r _ hr (fun c q=>hc c (by simp [cdG,q])) hs.2 (fun i x v' h1 h2=>?_);rw[gu]at h2;split at h2
       ·rename_i q;subst q
        split at h2
        ·injection h2 with h2;subst h2
         rw[hv]at h1;injection h1 with h1;subst h1;exact qFH rfl ho hl1 (fun c q=>hc c (by simp only[cdG,hv,gc];exact .inl q)) hσ
        ·cases h2
       ·exact hl i x v' h1 h2
      ·cases e
     ·cases e
    ·cases e
   ·cases e
 | .nls d t el::g,y,l,e,hc,hs,hl=>by
   simp only[rdG]at e;split at e
   ·rename_i id n hv
    split at e
    ·rename_i t0 l0 e' ho
     split at e
     ·split at e
      ·rename_i l1 r hl1 hr
       injection e with e;subst e;simp only[jT,gb]at hs;have hi:jM ⟨sl',h'⟩ d=id:=by simp [jM,hv,idC]
       have hσ:σ[jM b d]? =some id:=by have:=hs.1;rw[hi]at this;simpa using this
       refine nW g r _ hr (fun c q=>hc c (by simp [cdG,q])) hs.2 (fun i x v' h1 h2=>?_);rw[gu]at h2;split at h2
       ·rename_i q;subst q
        split at h2
        ·injection h2 with h2;subst h2
         rw[hv]at h1;injection h1 with h1;subst h1;exact XP rfl ho hl1 (fun c q=>hc c (by simp only[cdG,hv,gc];exact .inl q)) hσ
        ·cases h2
       ·exact hl i x v' h1 h2
      ·cases e
     ·cases e
    ·cases e
   ·cases e
 | .ob id t el::g,y,l,e,hc,hs,hl=>by
   simp only[rdG]at e;repeat' split at e
   all_goals first|(cases e;done)|skip
   rename_i hr;injection e with e;subst e;simp only[jT,gb]at hs;exact nW g _ _ hr hc hs.2 hl
 | .ar id t el::g,y,l,e,hc,hs,hl=>by
   simp only[rdG]at e;repeat' split at e
   all_goals first|(cases e;done)|skip
   rename_i hr;injection e with e;subst e;simp only[jT,gb]at hs;exact nW g _ _ hr hc hs.2 hl
 | .op id t el::g,y,l,e,hc,hs,hl=>by
   simp only[rdG]at e;repeat' split at e
   all_goals first|(cases e;done)|skip
   rename_i hr;injection e with e;subst e;simp only[jT,gb]at hs;exact nW g _ _ hr hc hs.2 hl
 | .row id ks::g,y,l,e,hc,hs,hl=>by
   simp only[rdG]at e;split at e
   ·rename_i c q hk hr
    injection e with e;simp only[jT,gb]at hs;simp only[fQ,joined e];exact nW g q l hr (fun c q=>hc c (by simp [cdG,q])) hs.2.2.2.2 hl
   ·cases e
def uY:(ks:List CK)->List V->List V->Prop
 | .same::ks,c'::r',c::r=>c'=c/\uY ks r' r
 | .val _::ks,_::r',_::r=>uY ks r' r
 | .own _ _::ks,_::r',_::r=>uY ks r' r
 | .ows _ _::ks,_::r',_::r=>uY ks r' r
 | .osf _::ks,_::r',_::r=>uY ks r' r
 |_,_,_=>True
theorem mV:∀(ks:List CK) (r' r:List V) (A:Prop),KJ ks r' r A->uY ks r' r/\A
 | [],_,_,_,h=>⟨trivial,h⟩
 | .same::_,[],_,_,h=>h.elim
 | .same::_,_::_,[],_,h=>h.elim
 | .val _::_,[],_,_,h=>h.elim
 | .val _::_,_::_,[],_,h=>h.elim
 | .own _ _::_,[],_,_,h=>h.elim
 | .ows _ _::_,[],_,_,h=>h.elim
 | .osf _::_,[],_,_,h=>h.elim
 | .osf _::_,_::_,[],_,h=>h.elim
 | .own _ _::_,_::_,[],_,h=>h.elim
 | .ows _ _::_,_::_,[],_,h=>h.elim
 | .same::ks,_::r',_::r,A,h=>by
   obtain⟨h1,h2⟩:=mV ks r' r A h.2;exact⟨⟨h.1,h1⟩,h2⟩
 | .val _::ks,_::r',_::r,A,h=>mV ks r' r A h
 | .own _ _::ks,_::r',_::r,A,h=>mV ks r' r A h
 | .ows _ _::ks,_::r',_::r,A,h=>mV ks r' r A h
 | .osf _::ks,_::r',_::r,A,h=>mV ks r' r A h
def tG (b b':Bs):List GK->Prop
 | []=>True
 | .row id ks::g=>uY ks (sB b' id) (sB b id)/\tG b b' g
 | .sl _ _::g=>tG b b' g
 | .lst _ _ _::g=>tG b b' g
 | .nls _ _ _::g=>tG b b' g
 | .ob _ _ _::g=>tG b b' g
 | .ar _ _ _::g=>tG b b' g
 | .op _ _ _::g=>tG b b' g
theorem jD {b b':Bs}:∀(g:List GK) (A:Prop),AG b b' g A->tG b b' g/\A
 | [],_,h=>⟨trivial,h⟩
 | .row id ks::g,A,h=>by
   obtain⟨h1,h2⟩:=mV ks _ _ _ h;obtain⟨h3,h4⟩:=jD g A h2;exact⟨⟨h1,h3⟩,h4⟩
 | .sl _ _::g,A,h=>jD g A h
 | .lst _ _ _::g,A,h=>jD g A h
 | .nls _ _ _::g,A,h=>jD g A h
 | .ob _ _ _::g,A,h=>jD g A h
 | .ar _ _ _::g,A,h=>jD g A h
 | .op _ _ _::g,A,h=>jD g A h
theorem qC7 {σ:List Nat} {k:Nat} {c:V} {a:Bool} (h:KC k c=some a) (hσ:σ[k]? =some k):cE σ c (qH k a):=by
 unfold KC at h;split at h
 ·injection h with h;subst h;exact cE.tree (LE.refl _) (.v _)
 ·split at h
  ·rename_i q
   have q:=gk q;injection h with h;subst h q;exact cE.pO 0 0 hσ
  ·cases h
 ·cases h
theorem wB {σ:List Nat} {h':List XO}:∀(ks:List CK) (c:Tup (aB ks)) (r r':List V),rdK ks r' h'=some c->dK (cdK ks r' h')->uY ks r' r->rN σ ks r r'=true->rM σ ks r=true->Pairs (cE σ) r' (jC ks c r)
 | [],_,[],[],_,_,_,_,_=>⟨rfl,fun i x y h=>by simp at h⟩
 | [],_,_::_,_,_,_,_,_,hf=>by simp [rM]at hf
 | [],_,[],_::_,e,_,_,_,_=>by simp [rdK]at e
 |_::_,_,[],_,_,_,_,_,hf=>by unfold rM at hf;split at hf<;>first|(cases hf;done)|simp_all
 | .same::_,_,_::_,[],e,_,_,_,_=>by simp [rdK]at e
 | .val _::_,_,_::_,[],e,_,_,_,_=>by simp [rdK]at e
 | .own _ _::_,_,_::_,[],e,_,_,_,_=>by simp [rdK]at e
 | .ows _ _::_,_,_::_,[],e,_,_,_,_=>by simp [rdK]at e
 | .osf _::_,_,_::_,[],e,_,_,_,_=>by simp [rdK]at e
 | .same::ks,c,x::r,x'::r',e,hc,hsm,hs,hf=>by
   simp only[rM,gb]at hf;obtain⟨q1,q2⟩:=wB ks c r r' e hc hsm.2 hs hf.2;have hx:=hsm.1;refine⟨by simp [jC,q1],fun i a b ha hb=>?_⟩;cases i with
   |zero=>simp [jC]at ha hb;rw[<-ha,<-hb,hx];exact qW hf.1
   |succ i=>exact q2 i a b (by simpa using ha) (by simpa [jC]using hb)
 | .val t::ks,c,x::r,x'::r',e,hc,hsm,hs,hf=>by
   simp only[rM,gb]at hf;simp only[rdK]at e;split at e
   ·rename_i a q ha hq
    injection e with e;subst e;obtain⟨q1,q2⟩:=wB ks q r r' hq hc hsm hs hf.2;refine⟨by simp [jC,q1],fun i u v hu hv=>?_⟩;cases i with
    |zero=>
     simp [jC]at hu hv;rw[<-hu,<-hv];refine cE.val ?_;cases t with
     |pair _ _=>simp at hf
     |_=>exact ha
    |succ i=>exact q2 i u v (by simpa using hu) (by simpa [jC]using hv)
   ·cases e
 | .osf k::ks,c,x::r,x'::r',e,hc,hsm,hs,hf=>by
   simp only[rM,gb]at hf;simp only[rdK]at e;split at e
   ·rename_i a q ha hq
    injection e with e;subst e;obtain⟨q1,q2⟩:=wB ks q r r' hq hc hsm hs hf.2;refine⟨by simp [jC,q1],fun i u v hu hv=>?_⟩;cases i with
    |zero=>
     simp [jC]at hu hv;rw[<-hu,<-hv];exact qC7 ha (by simpa [qB2]using hf.1)
    |succ i=>exact q2 i u v (by simpa using hu) (by simpa [jC]using hv)
   ·cases e
 | .own t el::ks,c,x::r,x'::r',e,hc,hsm,hs,hf=>by
   simp only[rM]at hf;simp only[rdK]at e;split at e
   ·rename_i id n
    split at e
    ·rename_i t0 l0 e' ho
     split at e
     ·split at e
      ·rename_i l1 q hl1 hq
       injection e with e;subst e;simp only[rN,gb]at hs;obtain⟨q1,q2⟩:=wB ks q r r' hq (fun c q=>hc c (by simp [cdK,q])) hsm hs.2 hf;refine⟨by simp [jC,q1],fun i u v hu hv=>?_⟩;cases i with
       |zero=>
        simp [jC]at hu hv;rw[<-hu,<-hv];exact qFH rfl ho hl1 (fun c q=>hc c (by simp only[cdK,gc];exact .inl q)) (by simpa [idC]using hs.1)
       |succ i=>exact q2 i u v (by simpa using hu) (by simpa [jC]using hv)
      ·cases e
     ·cases e
    ·cases e
   ·cases e
 | .ows t el::ks,c,x::r,x'::r',e,hc,hsm,hs,hf=>by
   simp only[rM]at hf;simp only[rdK]at e;split at e
   ·rename_i id n
    split at e
    ·rename_i t0 l0 e' ho
     split at e
     ·split at e
      ·rename_i l1 q hl1 hq
       injection e with e;subst e;simp only[rN,gb]at hs;obtain⟨q1,q2⟩:=wB ks q r r' hq (fun c q=>hc c (by simp [cdK,q])) hsm hs.2 hf;refine⟨by simp [jC,q1],fun i u v hu hv=>?_⟩;cases i with
       |zero=>
        simp [jC]at hu hv;rw[<-hu,<-hv];exact XP rfl ho hl1 (fun c q=>hc c (by simp only[cdK,gc];exact .inl q)) (by simpa [idC]using hs.1)
       |succ i=>exact q2 i u v (by simpa using hu) (by simpa [jC]using hv)
      ·cases e
     ·cases e
    ·cases e
   ·cases e
theorem vW {σ:List Nat} {h':List XO}:∀(ks:List CK) (c:Tup (aB ks)) (r r':List V) (k:List XO) (G:List Nat),rdK ks r' h'=some c->rN σ ks r r'=true->rM σ ks r=true->k.length=σ.length ->
  (∀(j i:Nat),σ[j]? =some i->¬j∈G++qB ks r->∃x z,(dens h')[i]? =some x/\(dens k)[j]? =some z/\lE σ x z)->∀(j i:Nat),σ[j]? =some i->¬j∈G->∃x z,(dens h')[i]? =some x/\(dens (oG ks c r k))[j]? =some z/\lE σ x z
 | [],_,_,_,_,G,_,_,_,_,hk=>fun j i h1 h2=>hk j i h1 (by simpa [qB]using h2)
 |_::_,_,[],_,_,_,_,_,hf,_,_=>by unfold rM at hf;split at hf<;>first|(cases hf;done)|simp_all
 | .same::_,_,_::_,[],_,_,e,_,_,_,_=>by simp [rdK]at e
 | .val _::_,_,_::_,[],_,_,e,_,_,_,_=>by simp [rdK]at e
 | .own _ _::_,_,_::_,[],_,_,e,_,_,_,_=>by simp [rdK]at e
 | .ows _ _::_,_,_::_,[],_,_,e,_,_,_,_=>by simp [rdK]at e
 | .osf _::_,_,_::_,[],_,_,e,_,_,_,_=>by simp [rdK]at e
 | .same::ks,c,x::r,x'::r',k,G,e,hs,hf,hl,hk=>by
   simp only[rM,gb]at hf;exact vW ks c r r' k G e hs hf.2 hl hk
 | .val t::ks,c,x::r,x'::r',k,G,e,hs,hf,hl,hk=>by
   simp only[rM,gb]at hf;simp only[rdK]at e;split at e
   ·rename_i a q ha hq
    injection e with e;subst e;exact vW ks q r r' k G hq hs hf.2 hl hk
   ·cases e
 | .osf _::ks,c,x::r,x'::r',k,G,e,hs,hf,hl,hk=>by
   simp only[rM,gb]at hf;simp only[rdK]at e;split at e
   ·rename_i a q ha hq
    injection e with e;subst e;exact vW ks q r r' k G hq hs hf.2 hl hk
   ·cases e
 | .own t el::ks,c,x::r,x'::r',k,G,e,hs,hf,hl,hk=>by
   simp only[rM]at hf;simp only[rdK]at e;split at e
   ·rename_i id n
    split at e
    ·rename_i t0 l0 e' ho
     split at e
     ·rename_i hee
      split at e
      ·rename_i l1 q hl1 hq
       injection e with e;subst e;simp only[rN,gb]at hs;have hσ:σ[idC x]? =some id:=by simpa [idC]using hs.1
       refine vW ks q r r' _ G hq hs.2 hf (by simpa using hl) (fun j i h1 h2=>?_);by_cases qe:j=idC x
       ·subst qe
        rw[hσ]at h1;injection h1 with h1;subst h1;have hlt:idC x<k.length:=by rw[hl];exact aI hσ
        refine⟨_,_,by rw[aJ,ho];rfl,by rw[aJ,gl hlt];rfl,?_⟩;have:(XO.opt t0 l0 e').den=(XO.opt t l1 el).den:=by
         obtain⟨et,el1⟩:=gM hl1;subst et el1 hee;rfl
        rw[this];exact lE.opt t l1 el
       ·obtain⟨x,z,g1,g2,g3⟩:=hk j i h1 (by simp only[qB,gc,gf,not_or]at h2 ⊢;exact⟨h2.1,qe,h2.2⟩)
        exact⟨x,z,g1,by rw[aX,ga (Ne.symm qe)];exact g2,g3⟩
      ·cases e
     ·cases e
    ·cases e
   ·cases e
 | .ows t el::ks,c,x::r,x'::r',k,G,e,hs,hf,hl,hk=>by
   simp only[rM]at hf;simp only[rdK]at e;split at e
   ·rename_i id n
    split at e
    ·rename_i t0 l0 e' ho
     split at e
     ·rename_i hee
      split at e
      ·rename_i l1 q hl1 hq
       injection e with e;subst e;simp only[rN,gb]at hs;have hσ:σ[idC x]? =some id:=by simpa [idC]using hs.1
       refine vW ks q r r' _ G hq hs.2 hf (by simpa using hl) (fun j i h1 h2=>?_);by_cases qe:j=idC x
       ·subst qe
        rw[hσ]at h1;injection h1 with h1;subst h1;have hlt:idC x<k.length:=by rw[hl];exact aI hσ
        refine⟨_,_,by rw[aJ,ho];rfl,by rw[aJ,gl hlt];rfl,?_⟩;have:(XO.tl t0 l0 e').den=(XO.tl t l1 el).den:=by
         obtain⟨et,el1⟩:=gM hl1;subst et el1 hee;rfl
        rw[this];exact lE.typed t l1 el
       ·obtain⟨x,z,g1,g2,g3⟩:=hk j i h1 (by simp only[qB,gc,gf,not_or]at h2 ⊢;exact⟨h2.1,qe,h2.2⟩)
        exact⟨x,z,g1,by rw[aX,ga (Ne.symm qe)];exact g2,g3⟩
      ·cases e
     ·cases e
    ·cases e
   ·cases e
theorem JB {b:Bs} {id:Nat} {s:Nat} {e:El} (h:qEX b id=some (s,e)):∃r,b.h[id]? =some (.raw (.live ⟨s,[r],e⟩))/\sB b id=r:=by
 unfold qEX at h;split at h
 ·rename_i o ho
  split at h
  ·rename_i r hr
   injection h with h;injection h with h1 h2;subst h1 h2;refine⟨r,by rw[ho,<-hr],by simp [sB,ho,hr]⟩
  ·cases h
 ·cases h
theorem qX {σ:List Nat} {sl':List V} {h':List XO} {b:Bs}:∀(g:List GK) (y:Tup (gts g)) (k:List XO) (G:List Nat),rdG g sl' h'=some y->dK (cdG h' sl' g)->tG b ⟨sl',h'⟩ g->jT σ b ⟨sl',h'⟩ g=true->k.length=σ.length ->
  (∀(j i:Nat),σ[j]? =some i->¬j∈G++gids b g->∃x z,(dens h')[i]? =some x/\(dens k)[j]? =some z/\lE σ x z)->∀(j i:Nat),σ[j]? =some i->¬j∈G->∃x z,(dens h')[i]? =some x/\(dens (gH g y b k))[j]? =some z/\lE σ x z
 | [],_,_,G,_,_,_,_,_,hk=>fun j i h1 h2=>hk j i h1 (by simpa [gids]using h2)
 | .sl d t::g,y,k,G,e,hc,hsm,hs,hl,hk=>by
   simp only[rdG]at e;repeat' split at e
   all_goals first|(cases e;done)|skip
   rename_i hr;injection e with e;subst e;exact qX g _ k G hr hc hsm hs hl hk
 | .lst d t el::g,y,k,G,e,hc,hsm,hs,hl,hk=>by
   simp only[rdG]at e;split at e
   ·rename_i id n hv
    split at e
    ·rename_i t0 l0 e' ho
     split at e
     ·rename_i hee
      split at e
      ·rename_i l1 r hl1 hr
       injection e with e;subst e;simp only[jT,gb]at hs;have hi:jM ⟨sl',h'⟩ d=id:=by simp [jM,hv,idC]
       have hσ:σ[jM b d]? =some id:=by have:=hs.1;rw[hi]at this;simpa using this
       refine qX g r _ G hr (fun c q=>hc c (by simp [cdG,q])) hsm hs.2 (by simpa using hl) (fun j i h1 h2=>?_);by_cases q:j=jM b d
       ·subst q
        rw[hσ]at h1;injection h1 with h1;subst h1;have hlt:jM b d<k.length:=by rw[hl];exact aI hσ
        refine⟨_,_,by rw[aJ,ho];rfl,by rw[aJ,gl hlt];rfl,?_⟩;have:(XO.opt t0 l0 e').den=(XO.opt t l1 el).den:=by
         obtain⟨et,el1⟩:=gM hl1;subst et el1 hee;rfl
        rw[this];exact lE.opt t l1 el
       ·obtain⟨x,z,g1,g2,g3⟩:=hk j i h1 (by simp only[gids,gc,gf,not_or]at h2 ⊢;exact⟨h2.1,q,h2.2⟩)
        exact⟨x,z,g1,by rw[aX,ga (Ne.symm q)];exact g2,g3⟩
      ·cases e
     ·cases e
    ·cases e
   ·cases e
 | .nls d t el::g,y,k,G,e,hc,hsm,hs,hl,hk=>by
   simp only[rdG]at e;split at e
   ·rename_i id n hv
    split at e
    ·rename_i t0 l0 e' ho
     split at e
     ·rename_i hee
      split at e
      ·rename_i l1 r hl1 hr
       injection e with e;subst e;simp only[jT,gb]at hs;have hi:jM ⟨sl',h'⟩ d=id:=by simp [jM,hv,idC]
       have hσ:σ[jM b d]? =some id:=by have:=hs.1;rw[hi]at this;simpa using this
       refine qX g r _ G hr (fun c q=>hc c (by simp [cdG,q])) hsm hs.2 (by simpa using hl) (fun j i h1 h2=>?_);by_cases q:j=jM b d
       ·subst q
        rw[hσ]at h1;injection h1 with h1;subst h1;have hlt:jM b d<k.length:=by rw[hl];exact aI hσ
        refine⟨_,_,by rw[aJ,ho];rfl,by rw[aJ,gl hlt];rfl,?_⟩;have:(XO.tl t0 l0 e').den=(XO.tl t l1 el).den:=by
         obtain⟨et,el1⟩:=gM hl1;subst et el1 hee;rfl
        rw[this];exact lE.typed t l1 el
       ·obtain⟨x,z,g1,g2,g3⟩:=hk j i h1 (by simp only[gids,gc,gf,not_or]at h2 ⊢;exact⟨h2.1,q,h2.2⟩)
        exact⟨x,z,g1,by rw[aX,ga (Ne.symm q)];exact g2,g3⟩
      ·cases e
     ·cases e
    ·cases e
   ·cases e
 | .ob id t el::g,y,k,G,e,hc,hsm,hs,hl,hk=>by
   simp only[rdG]at e;split at e
   ·rename_i xo ho
    split at e
    ·rename_i a q ha hr
     injection e with e;subst e;simp only[jT,gb]at hs;have hσ:σ[id]? =some id:=by simpa using hs.1
     obtain⟨o,o1,o2,o3,o4,o5⟩:=FL ha;refine qX g q _ G hr hc hsm hs.2 (by simpa using hl) (fun j i h1 h2=>?_);by_cases qe:j=id
     ·subst qe
      rw[hσ]at h1;injection h1 with h1;subst h1;have hlt:j<k.length:=by rw[hl];exact aI hσ
      refine⟨_,_,by rw[aJ,ho];rfl,by rw[aJ,gl hlt];rfl,by simp [XO.den],fun o' ho'=>?_⟩;simp only[XO.den]at ho';injection ho' with ho';subst ho';refine⟨o,o1,⟨o2,o3,o4,fun m r1 r2 h3 h4=>?_⟩⟩;obtain⟨u1,u2⟩:=o5 m r1 r2 h3 h4;refine⟨u1,fun p c c' hc hc'=>cE.tree (u2 p c c' hc hc') ?_⟩;exact t.nir 0 [a] r2 (cD h4) c' (cD hc')
     ·obtain⟨x,z,g1,g2,g3⟩:=hk j i h1 (by simp only[gids,gc,gf,not_or]at h2 ⊢;exact⟨h2.1,qe,h2.2⟩)
      exact⟨x,z,g1,by rw[aX,ga (Ne.symm qe)];exact g2,g3⟩
    ·cases e
   ·cases e
 | .ar id t el::g,y,k,G,e,hc,hsm,hs,hl,hk=>by
   simp only[rdG]at e;split at e
   ·rename_i t0 l0 e' ho
    split at e
    ·rename_i hee
     split at e
     ·rename_i l1 r hl1 hr
      injection e with e;subst e;simp only[jT,gb]at hs;have hσ:σ[id]? =some id:=by simpa using hs.1
      refine qX g r _ G hr hc hsm hs.2 (by simpa using hl) (fun j i h1 h2=>?_);by_cases qe:j=id
      ·subst qe
       rw[hσ]at h1;injection h1 with h1;subst h1;have hlt:j<k.length:=by rw[hl];exact aI hσ
       refine⟨_,_,by rw[aJ,ho];rfl,by rw[aJ,gl hlt];rfl,?_⟩;have:(XO.tl t0 l0 e').den=(XO.tl t l1 el).den:=by
        obtain⟨et,el1⟩:=gM hl1;subst et el1 hee;rfl
       rw[this];exact lE.typed t l1 el
      ·obtain⟨x,z,g1,g2,g3⟩:=hk j i h1 (by simp only[gids,gc,gf,not_or]at h2 ⊢;exact⟨h2.1,qe,h2.2⟩)
       exact⟨x,z,g1,by rw[aX,ga (Ne.symm qe)];exact g2,g3⟩
     ·cases e
    ·cases e
   ·cases e
 | .op id t el::g,y,k,G,e,hc,hsm,hs,hl,hk=>by
   simp only[rdG]at e;split at e
   ·rename_i t0 l0 e' ho
    split at e
    ·rename_i hee
     split at e
     ·rename_i l1 r hl1 hr
      injection e with e;subst e;simp only[jT,gb]at hs;have hσ:σ[id]? =some id:=by simpa using hs.1
      refine qX g r _ G hr hc hsm hs.2 (by simpa using hl) (fun j i h1 h2=>?_);by_cases qe:j=id
      ·subst qe
       rw[hσ]at h1;injection h1 with h1;subst h1;have hlt:j<k.length:=by rw[hl];exact aI hσ
       refine⟨_,_,by rw[aJ,ho];rfl,by rw[aJ,gl hlt];rfl,?_⟩;have:(XO.opt t0 l0 e').den=(XO.opt t l1 el).den:=by
        obtain⟨et,el1⟩:=gM hl1;subst et el1 hee;rfl
       rw[this];exact lE.opt t l1 el
      ·obtain⟨x,z,g1,g2,g3⟩:=hk j i h1 (by simp only[gids,gc,gf,not_or]at h2 ⊢;exact⟨h2.1,qe,h2.2⟩)
       exact⟨x,z,g1,by rw[aX,ga (Ne.symm qe)];exact g2,g3⟩
     ·cases e
    ·cases e
   ·cases e
 | .row id ks::g,y,k,G,e,hc,hsm,hs,hl,hk=>by
   simp only[rdG]at e;split at e
   ·rename_i c q hrk hr
    injection e with e;simp only[jT,gb]at hs;obtain⟨s1,s2,s3,s4,s5⟩:=hs;have hσ:σ[id]? =some id:=by simpa using s1
    simp only[gH,joined e];refine qX g q _ G hr (fun c q=>hc c (by simp [cdG,q])) hsm.2 s5 (by rw[kQ];simpa using hl) (fun j i h1 h2=>?_);refine vW ks c (sB b id) (sB ⟨sl',h'⟩ id) _ (G++gids b g) hrk s2 s3 (by simpa using hl) (fun j i h1 h2=>?_) j i h1 h2;by_cases qe:j=id
    ·subst qe
     rw[hσ]at h1;injection h1 with h1;subst h1;have hlt:j<k.length:=by rw[hl];exact aI hσ
     simp only[qF4]at s4;split at s4
     ·rename_i sz el sz' el' h3 h4
      simp only[gb]at s4;have q1:=gk s4.1;have q2:=gk s4.2.1;have q3:=gk s4.2.2;subst q1;have q2:el=el':=by
       obtain⟨a,b⟩:=el;obtain⟨a',b'⟩:=el';have q2:a=a':=q2;have q3:b=b':=q3;rw[q2,q3]
      subst q2;obtain⟨r,u1,u2⟩:=JB h3;obtain⟨r',v1,v2⟩:=JB h4;have v1:h'[j]? =some (.raw (.live ⟨sz,[r'],el⟩)):=v1;refine⟨_,_,by rw[aJ,v1];rfl,by rw[aJ,gl hlt];rfl,?_⟩;simp only[qQM,u1,XO.den];refine⟨sm,fun o' ho'=>?_⟩;injection ho' with ho';subst ho';refine⟨_,rfl,⟨rfl,rfl,rfl,fun m r1 r2 h3 h4=>?_⟩⟩;cases m with
      |zero=>
       simp at h3 h4;subst h3 h4;rw[<-v2];exact wB ks c _ _ hrk (fun c q=>hc c (by simp [cdG,q])) hsm.1 s2 s3
      |succ m=>simp at h3
     ·cases s4
    ·obtain⟨x,z,g1,g2,g3⟩:=hk j i h1 (by simp only[gids,gc,gf,not_or]at h2 ⊢;exact⟨h2.1.1,qe,h2.2,h2.1.2⟩)
     exact⟨x,z,g1,by rw[aX,ga (Ne.symm qe)];exact g2,g3⟩
   ·cases e
theorem mC {n0:Nat} {W:List Nat} {g:List GK} {s1 s':Y} {k:Tup (gts g)->Prop} (hn:Near W (gids s1.bs g) s1 s') (h:arrive n0 W g s1 s' k) :
  ∃σ y,CutR n0 σ s'.den ⟨fQ g y s1.bs (kU W s1.sl),dens (gH g y s1.bs s1.h)⟩/\k y/\(∀d,d∈gslots g->d∈W):=by
 unfold arrive at h;split at h
 ·rename_i y hy
  obtain⟨hcd,h⟩:=bR h;obtain⟨hsm,⟨hok⟩,hk⟩:=jD g _ h;simp only[okG,gb]at hok;obtain⟨⟨⟨⟨⟨⟨⟨o1,o2⟩,o3⟩,o4⟩,o5⟩,o6⟩,o7⟩,o8⟩:=hok;generalize hσ:sig g s1.bs s'.bs (List.range s1.h.length)=σ at o1 o2 o3 o4 o5 o6;have hlen:σ.length=s1.h.length:=by rw[<-hσ,rB];simp
  have hW:∀d,d∈gslots g->d∈W:=fun d hd=>by simpa using ge.1 o8 d hd
  refine⟨σ,y,⟨by rw[hlen,eD,jF],qKL o2,PH o1,⟨?_,?_⟩,?_⟩,hk,hW⟩
  ·simp only[Y.den,kC,BE];exact hn.len
  ·simp only[Y.den]
   refine nW g y _ hy hcd o4 (fun i x v h1 h2=>?_);rcases qJK _ _ _ _ h2 with q|⟨q1,q2⟩
   ·subst q;exact cE.any _ _
   ·rw[hn.sl i q1,q2]at h1;injection h1 with h1;subst h1
    exact qW (ge.1 o5 _ (cD h2))
  ·simp only[Y.den]
   intro j i hj;refine qX g y s1.h [] hy hcd hsm o4 hlen.symm (fun j i h1 h2=>?_) j i hj sm;have hlt:j<s1.h.length:=by rw[<-hlen];exact aI h1
   have h2':¬j∈gids s1.bs g:=by simpa using h2
   obtain⟨r1,r2⟩:=qEL o6 j s1.h[j] (gg hlt) (by simpa using h2');rw[gp]at r2;rw[r2]at h1;injection h1 with h1;subst h1;have ht:¬j∈s'.tch:=by
    intro q;have:=ge.1 o7 j q;simp only[gy,kb,decide_eq_true_eq,Nat.ble_eq]at this;rcases this with q|q
    ·exact h2' q
    ·omega
   have he:=hn.h j hlt h2' ht;rw[gg hlt]at he;exact⟨_,_,by rw[aJ,he];rfl,by rw[aJ,gg hlt];rfl,r1⟩
 ·exact h.elim
def first:Code->Nat
 | .region id _ _=>id
 | .seq a _=>first a
 | .cond _ a _=>first a
 | .block _ a=>first a
 | .loop a=>first a
 |_=>0
def oR:(g:List GK)->Tup (gts g)->Bs->List V->(List V->Prop)->Prop
 | [],_,_,l,K=>K l
 | .sl d t::g,(y,r),b,l,K=>fV (t.val y) fun v=>iH l d v fun l=>oR g r b l K
 | .lst d t e::g,(y,r),b,l,K=>fN (jM b d) fun i=>iH l d (.oL i y.length) fun l=>oR g r b l K
 | .nls d t e::g,(y,r),b,l,K=>fN (jM b d) fun i=>iH l d (.sO i 0 y.length) fun l=>oR g r b l K
 | .ob _ _ _::g,(y,r),b,l,K=>oR g r b l K
 | .ar _ _ _::g,(y,r),b,l,K=>oR g r b l K
 | .op _ _ _::g,(y,r),b,l,K=>oR g r b l K
 | .row _ ks::g,y,b,l,K=>match vB (aB ks) (gts g) y with
   |(_,q)=>oR g q b l K
theorem nU:∀(g:List GK) (y:Tup (gts g)) (b:Bs) (l:List V) (K:List V->Prop),oR g y b l K=K (fQ g y b l)
 | [],_,_,_,_=>rfl
 | .sl _ _::g,y,b,l,K=>by simp only[oR,fQ,dD,cG,nU g]
 | .lst _ _ _::g,y,b,l,K=>by simp only[oR,fQ,iD,cG,nU g]
 | .nls _ _ _::g,y,b,l,K=>by simp only[oR,fQ,iD,cG,nU g]
 | .ob _ _ _::g,y,b,l,K=>by simp only[oR,fQ,nU g]
 | .ar _ _ _::g,y,b,l,K=>by simp only[oR,fQ,nU g]
 | .op _ _ _::g,y,b,l,K=>by simp only[oR,fQ,nU g]
 | .row _ _::g,y,b,l,K=>by simp only[oR,fQ,nU g]
def pC:(ks:List CK)->Tup (aB ks)->List V->List XO->(List XO->Prop)->Prop
 | .same::ks,y,_::r,h,K=>pC ks y r h K
 | .val _::ks,(_,y),_::r,h,K=>pC ks y r h K
 | .osf _::ks,(_,y),_::r,h,K=>pC ks y r h K
 | .own t e::ks,(l,y),c::r,h,K=>kR h (idC c) (.opt t l e) fun h=>pC ks y r h K
 | .ows t e::ks,(l,y),c::r,h,K=>kR h (idC c) (.tl t l e) fun h=>pC ks y r h K
 |_,_,_,h,K=>K h
theorem mY:∀(ks:List CK) (y:Tup (aB ks)) (r:List V) (h:List XO) (K:List XO->Prop),pC ks y r h K=K (oG ks y r h)
 | [],_,_,_,_=>rfl
 | .same::ks,_,[],_,_=>rfl
 | .val _::ks,_,[],_,_=>rfl
 | .own _ _::ks,_,[],_,_=>rfl
 | .ows _ _::ks,_,[],_,_=>rfl
 | .osf _::ks,_,[],_,_=>rfl
 | .same::ks,y,_::r,h,K=>mY ks y r h K
 | .val _::ks,(_,y),_::r,h,K=>mY ks y r h K
 | .osf _::ks,(_,y),_::r,h,K=>mY ks y r h K
 | .own t e::ks,(l,y),c::r,h,K=>by
   show kR h (idC c) (.opt t l e) (fun h=>pC ks y r h K)=K (oG ks y r (h.set (idC c) (.opt t l e)));rw[cJ,mY ks y r]
 | .ows t e::ks,(l,y),c::r,h,K=>by
   show kR h (idC c) (.tl t l e) (fun h=>pC ks y r h K)=K (oG ks y r (h.set (idC c) (.tl t l e)));rw[cJ,mY ks y r]
def oQ:(g:List GK)->Tup (gts g)->Bs->List XO->(List XO->Prop)->Prop
 | [],_,_,h,K=>K h
 | .sl _ _::g,(y,r),b,h,K=>oQ g r b h K
 | .lst d t e::g,(y,r),b,h,K=>kR h (jM b d) (.opt t y e) fun h=>oQ g r b h K
 | .nls d t e::g,(y,r),b,h,K=>kR h (jM b d) (.tl t y e) fun h=>oQ g r b h K
 | .ob id t e::g,(y,r),b,h,K=>kR h id (.ob t y e) fun h=>oQ g r b h K
 | .ar id t e::g,(y,r),b,h,K=>kR h id (.tl t y e) fun h=>oQ g r b h K
 | .op id t e::g,(y,r),b,h,K=>kR h id (.opt t y e) fun h=>oQ g r b h K
 | .row id ks::g,y,b,h,K=>match vB (aB ks) (gts g) y with
   |(c,q)=>fX (qQM b id (jC ks c (sB b id))) fun o=>kR h id o fun h=>pC ks c (sB b id) h fun h=>oQ g q b h K
theorem nT:∀(g:List GK) (y:Tup (gts g)) (b:Bs) (h:List XO) (K:List XO->Prop),oQ g y b h K=K (gH g y b h)
 | [],_,_,_,_=>rfl
 | .sl _ _::g,y,b,h,K=>by simp only[oQ,gH,nT g]
 | .lst _ _ _::g,y,b,h,K=>by simp only[oQ,gH,cJ,nT g]
 | .nls _ _ _::g,y,b,h,K=>by simp only[oQ,gH,cJ,nT g]
 | .ob _ _ _::g,y,b,h,K=>by simp only[oQ,gH,cJ,nT g]
 | .ar _ _ _::g,y,b,h,K=>by simp only[oQ,gH,cJ,nT g]
 | .op _ _ _::g,y,b,h,K=>by simp only[oQ,gH,cJ,nT g]
 | .row _ _::g,y,b,h,K=>by simp only[oQ,gH,qOP,cJ,mY,nT g]
def fS (W:List Nat) (g:List GK) (y:Tup (gts g)) (b:Bs) (k:List V->List XO->Prop):Prop:=fVs (kU W b.sl) fun l=>oR g y b l fun sl=>oQ g y b b.h fun h=>k sl h
theorem DS (W:List Nat) (g:List GK) (y:Tup (gts g)) (b:Bs) (k:List V->List XO->Prop):fS W g y b k=k (fQ g y b (kU W b.sl)) (gH g y b b.h):=by simp only[fS,kM,nU,nT]
def fdis (a b:List Nat×List Nat):Bool:=
 a.2.all (fun p=>b.1.all (fun q=>p != q)&&b.2.all (fun q=>p != q))&&b.2.all (fun p=>a.1.all (fun q=>p != q)&&a.2.all (fun q=>p != q))
def qP2 (ops:Array Oper) (fs:List (List Nat×List Nat)) (i j:Nat):Bool:=
 dep ops ops.size i j||((match ops[i]?,ops[j]? with|some oi,some oj=>oj.apart ops oi|_,_=>true)&&(match fs[i]?,fs[j]? with|some a,some b=>fdis a b|_,_=>false))
def qX9 (ops:Array Oper) (fs:List (List Nat×List Nat)):Bool:=
 (List.range ops.size).all fun i=>(List.range i).all fun j=>qP2 ops fs i j
def FD (ops:Array Oper):Bool:=
 (List.range ops.size).all fun i=>match ops[i]? with
   |some o=>o.after.toList.all fun e=>!Region.binds .any e||decide (e.on<i)
   |none=>true
theorem qKC {a b:List Nat×List Nat} (h:fdis a b=true):(∀p,p∈a.2->∀q,q∈b.1++b.2->p≠q)/\(∀p,p∈b.2->∀q,q∈a.1++a.2->p≠q):=by
 simp only[fdis,gb,ge,bne_iff_ne]at h;refine⟨fun p hp q hq=>?_,fun p hp q hq=>?_⟩
 ·rcases gc.1 hq with hq|hq
  ·exact(h.1 p hp).1 q hq
  ·exact(h.1 p hp).2 q hq
 ·rcases gc.1 hq with hq|hq
  ·exact(h.2 p hp).1 q hq
  ·exact(h.2 p hp).2 q hq
def oS:List XO->List XO
 | []=>[]
 |x::r=>match oS r,x with
  | [],.raw .free=>[]
  |r',.raw .free=>.raw .dead::r'
  |r',x=>x::r'
def qOJ (base:Nat) (h:List XO):List XO:=h.take base++oS (h.drop base)
theorem qGD {sl:List V} {a:Act} {ι:Iota} {w:World}:∀(r pre:List XO),SR ⟨sl,dens (pre++r)⟩ ι a w->SR ⟨sl,dens (pre++oS r)⟩ ι a w/\Evolve (dens (pre++r)) ι w (dens (pre++oS r)) ι w
 | [],pre,h=>⟨h,Evolve.refl _ _ _⟩
 |x::r,pre,h=>by
  have h0:pre++x::r=(pre++ [x])++r:=sm
  rw[h0]at h ⊢;obtain⟨h1,ev1⟩:=qGD r (pre++ [x]) h;have keep:oS (x::r)=x::oS r->SR ⟨sl,dens (pre++oS (x::r))⟩ ι a w/\Evolve (dens ((pre++ [x])++r)) ι w (dens (pre++oS (x::r))) ι w:=by
   intro q;rw[q,show pre++x::oS r=(pre++ [x])++oS r by simp];exact⟨h1,ev1⟩
  by_cases hx:x = .raw .free
  ·subst hx
   cases ht:oS r with
   |nil=>
    have hq:oS (.raw .free::r)= []:=by simp only[oS,ht]
    rw[ht]at h1 ev1;rw[hq];have hd:dens (pre++ [XO.raw .free]++ [])=dens pre++ [.free]:=by simp [dens,XO.den]
    rw[hd]at h1 ev1;obtain⟨h2,ev2⟩:=h1.unreserve;rw[List.append_nil];exact⟨h2,ev1.trans ev2⟩
   |cons y r'=>
    have hq:oS (.raw .free::r) = .raw .dead::y::r':=by simp only[oS,ht]
    rw[ht]at h1 ev1;rw[hq];have hf:(dens (pre++ [XO.raw .free]++y::r'))[pre.length]? =some .free:=by
     rw[aJ];simp [XO.den]
    obtain⟨h2,ev2⟩:=h1.heap.fill hf;have hd:(dens (pre++ [XO.raw .free]++y::r')).set pre.length .dead=dens (pre ++ .raw .dead::y::r'):=by
     simp [dens,XO.den]
    rw[hd]at h2 ev2;exact⟨⟨h1.defers,h1.slots.mono ev2,h2⟩,ev1.trans ev2⟩
  ·refine keep ?_
   simp only[oS];split
   ·exact absurd rfl hx
   ·exact absurd rfl hx
   ·rfl
theorem qYA {sl:List V} {a:Act} {ι:Iota} {w:World} (base:Nat) (h:List XO) (r:SR ⟨sl,dens h⟩ ι a w):SR ⟨sl,dens (qOJ base h)⟩ ι a w/\Evolve (dens h) ι w (dens (qOJ base h)) ι w:=by
 have:=qGD (h.drop base) (h.take base) (by rw[gz];exact r);rwa [gz]at this
def niB:V->Bool
 | .v _=>true
 | .sL _ _=>true
 |_=>false
theorem qY6 {x:V} (h:niB x=true):NI 0 x:=by
 cases x<;>first|exact .v _|exact .sL _ _|cases h
def fzV (id n sz:Nat) (rows:List (List V)) (x:V):V:=match x with
 | .sO i 0 m=>(match gm i id,gm m n with
   |true,true=>.sF sz rows
   |_,_=>.sO i 0 m)
 |x=>x
def fzS (W:List Nat) (id n sz:Nat) (rows:List (List V)):Nat->List V->List V
 |_,[]=>[]
 |i,x::r=>(match W.any (fun j=>gm j i)with
  |true=>fzV id n sz rows x
  |false=>x)::fzS W id n sz rows (i+1) r
theorem qTV {id sz:Nat} {rows:List (List V)} (x:V):frzV (.sO id 0 rows.length) (.sF sz rows) x (fzV id rows.length sz rows x):=by
 unfold fzV;split
 ·rename_i i m
  split
  ·rename_i h1 h2
   have:=gk h1;have:=gk h2;subst_vars
   exact .it
  ·exact .same
 ·exact .same
theorem SP {W:List Nat} {id sz:Nat} {rows:List (List V)}:∀(l:List V) (i:Nat),frzVs (.sO id 0 rows.length) (.sF sz rows) l (fzS W id rows.length sz rows i l)
 | [],_=>.nil
 |x::l,i=>by
  simp only[fzS];split
  ·exact .cons (qTV x) (SP l _)
  ·exact .same (SP l _)
theorem qEN {W:List Nat} {id n sz:Nat} {rows:List (List V)}:∀(l:List V) (i:Nat),(fzS W id n sz rows i l).length=l.length
 | [],_=>rfl
 |x::l,i=>by simp only[fzS,gq,qEN l]
theorem OQ {W:List Nat} {id n sz:Nat} {rows:List (List V)}:∀(l:List V) (i j:Nat),¬(i+j)∈W->(fzS W id n sz rows i l)[j]? =l[j]?
 | [],_,_,_=>rfl
 |x::l,i,0,h=>by
  have:(W.any fun j=>gm j i)=false:=by
   rw[List.any_eq_false];intro k hk hq;have:=gk hq;subst this;exact h hk
  simp only[fzS,this,List.getElem?_cons_zero]
 |x::l,i,j+1,h=>by
  simp only[fzS,gw];exact OQ l (i+1) j (by rwa [show i+1+j=i+(j+1)by omega])
def qOU (f r:Nat):List (Nat×Nat×Nat)->List Nat
 | []=>[]
 |(a,b,c)::q=>match gm a f,gm b r,ki 1000000 c with
  |true,true,true=>(c-1000000)::qOU f r q
  |_,_,_=>qOU f r q
def fzK (W:List Nat) (base:Nat):List Nat->List V->List XO->(List V->List XO->Prop)->Prop
 | [],sl,h,K=>K sl h
 |id::r,sl,h,K=>match ki base id with
  |true=>(match h[id]? with
   |some (.raw (.live o))=>(match o.rows.all (fun r=>r.all niB)with
    |true=>fVs (fzS W id o.rows.length o.sz o.rows 0 sl) fun sl=>fH (h.set id (.raw .dead)) fun h=>fzK W base r sl h K
    |false=>False)
   |_=>False)
  |false=>False
theorem qOV {n0:Nat} {W:List Nat} {base:Nat}:∀(ids:List Nat) (sl:List V) (h:List XO) (K:List V->List XO->Prop),fzK W base ids sl h K ->
  ∃sl' h',K sl' h'/\sl'.length=sl.length/\(∀i,¬i∈W->sl'[i]? =sl[i]?)/\h'.length=h.length/\(∀j,j<base->h'[j]? =h[j]?)/\AT n0 ⟨sl,dens h⟩ ⟨sl',dens h'⟩
 | [],sl,h,K,hk=>⟨sl,h,hk,rfl,fun _ _=>rfl,rfl,fun _ _=>rfl,fun{ι a w} r=>⟨ι,r,EvN.of (Evolve.refl _ _ _)⟩⟩
 |id::r,sl,h,K,hk=>by
  simp only[fzK]at hk;split at hk
  ·rename_i hb
   split at hk
   ·rename_i o ho
    split at hk
    ·rename_i hn
     rw[kM,eQ]at hk;obtain⟨sl',h',k1,k2,k3,k4,k5,k6⟩:=qOV (n0:=n0) r _ _ K hk;refine⟨sl',h',k1,k2.trans (qEN _ _),fun i hi=>(k3 i hi).trans (OQ _ 0 i (by rwa [gp])),by rw[k4];simp,fun j hj=>?_,?_⟩
     ·have:=Nat.le_of_ble_eq_true hb
      rw[k5 j hj,ga om]
     ·refine AT.trans (b:=⟨fzS W id o.rows.length o.sz o.rows 0 sl,dens (h.set id (.raw .dead))⟩) (fun{ι a w} q=>⟨ι,?_⟩) k6
      have hd:(dens h)[id]? =some (.live ⟨o.sz,o.rows,o.elem⟩):=by rw[aJ,ho];rfl
      have hr:NIr 0 o.rows:=fun r hr x hx=>qY6 (ge.1 (ge.1 hn r hr) x hx)
      obtain⟨r1,ev⟩:=IU q hd hr (SP sl 0);rw[aX];exact⟨r1,EvN.of ev⟩
    ·exact hk.elim
   ·exact hk.elim
  ·exact hk.elim
theorem FrW.mk' {W:List Nat} {s s':Y} (h1:s.h.length<=s'.h.length) (h2:∀j,j∈s.tch->j∈s'.tch) (h3:∀j,j<s.h.length->¬j∈s'.tch->s'.h[j]? =s.h[j]?) (h4:s'.sl.length=s.sl.length) (h5:∀i,¬i∈W->s'.sl[i]? =s.sl[i]?):FrW W s s':=⟨⟨h1,h2,h3⟩,h4,h5⟩
def qEE (f r:Nat):List (Nat×Nat×Nat)->List Nat
 | []=>[]
 |(a,b,c)::q=>match gm a f,gm b r,ki 3000000 c with
  |true,true,true=>(c-3000000)::qEE f r q
  |_,_,_=>qEE f r q
def qZF (n:Nat) (h:List XO):List XO:=h++gh (n-h.length) (.raw .dead)
theorem qP1 {sl:List V} {a:Act} {w:World} {ι:Iota}:∀(m:Nat) (h:List XO),SR ⟨sl,dens h⟩ ι a w->SR ⟨sl,dens (h++gh m (.raw .dead))⟩ ι a w/\Evolve (dens h) ι w (dens (h++gh m (.raw .dead))) ι w
 |0,h,r=>by rw[List.replicate_zero,List.append_nil];exact⟨r,Evolve.refl _ _ _⟩
 |m+1,h,r=>by
  obtain⟨r1,ev1⟩:=r.reserve 1;simp only[List.replicate_one]at r1 ev1;have hf:(dens h++ [HS.free])[(dens h).length]? =some .free:=sm
  obtain⟨H2,ev2⟩:=r1.heap.fill hf;have hd:(dens h++ [HS.free]).set (dens h).length .dead=dens (h++ [.raw .dead]):=by simp [dens,XO.den]
  simp only[hd]at H2 ev2;obtain⟨r3,ev3⟩:=qP1 m (h++ [.raw .dead]) ⟨r1.defers,r1.slots.mono ev2,H2⟩;have e:h++ [XO.raw .dead]++gh m (.raw .dead)=h++gh (m+1) (.raw .dead):=by rw[List.replicate_succ];simp
  rw[e]at r3 ev3;exact⟨r3,(ev1.trans ev2).trans ev3⟩
def yV (id d:Nat):List Nat->List V->(List V->Prop)->Prop
 | [],sl,K=>K sl
 |j::W,sl,K=>match gm j d with
  |true=>yV id d W sl K
  |false=>(match sl[j]? with
   |some (.sO i _ _)=>(match gm i id with
    |true=>iH sl j .any fun sl=>yV id d W sl K
    |false=>yV id d W sl K)
   |some (.oL i _)=>(match gm i id with
    |true=>iH sl j .any fun sl=>yV id d W sl K
    |false=>yV id d W sl K)
   |some (.pO i _ _)=>(match gm i id with
    |true=>iH sl j .any fun sl=>yV id d W sl K
    |false=>yV id d W sl K)
   |_=>yV id d W sl K)
theorem FA {id d:Nat}:∀(W:List Nat) (sl:List V) (K:List V->Prop),yV id d W sl K->∃sl':List V,K sl'/\sl'.length=sl.length/\(∀i,¬i∈W->sl'[i]? =sl[i]?)/\∀ {h:Heap} {ι:Iota} {a:Act} {w:World},SR ⟨sl,h⟩ ι a w->SR ⟨sl',h⟩ ι a w
 | [],sl,K,hk=>⟨sl,hk,rfl,fun _ _=>rfl,fun r=>r⟩
 |j::W,sl,K,hk=>by
  have up:∀ {sl2:List V},yV id d W sl2 K->sl2.length=sl.length->(∀i,¬i=j->sl2[i]? =sl[i]?)->(∀ {h:Heap} {ι:Iota} {a:Act} {w:World},SR ⟨sl,h⟩ ι a w->SR ⟨sl2,h⟩ ι a w)->∃sl':List V,K sl'/\sl'.length=sl.length/\(∀i,¬i∈j::W->sl'[i]? =sl[i]?)/\∀ {h:Heap} {ι:Iota} {a:Act} {w:World},SR ⟨sl,h⟩ ι a w->SR ⟨sl',h⟩ ι a w:=by
   intro sl2 h2 hl hi hr;obtain⟨sl',k1,k2,k3,k4⟩:=FA W sl2 K h2;exact⟨sl',k1,k2.trans hl,fun i hn=>(k3 i (fun q=>hn (kc _ q))).trans (hi i (fun q=>hn (by rw[q];exact kg ..))),fun r=>k4 (hr r)⟩
  simp only[yV]at hk;split at hk
  ·exact up hk rfl (fun _ _=>rfl) (fun r=>r)
  ·split at hk
   ·rename_i i a b hj
    split at hk
    ·rw[cG]at hk
     exact up hk sm (fun i hi=>ga (fun q=>hi q.symm)) (fun r=>r.setLE hj (fun _=>.any _))
    ·exact up hk rfl (fun _ _=>rfl) (fun r=>r)
   ·rename_i i a hj
    split at hk
    ·rw[cG]at hk
     exact up hk sm (fun i hi=>ga (fun q=>hi q.symm)) (fun r=>r.setLE hj (fun _=>.any _))
    ·exact up hk rfl (fun _ _=>rfl) (fun r=>r)
   ·rename_i i a b hj
    split at hk
    ·rw[cG]at hk
     exact up hk sm (fun i hi=>ga (fun q=>hi q.symm)) (fun r=>r.setLE hj (fun _=>.any _))
    ·exact up hk rfl (fun _ _=>rfl) (fun r=>r)
   ·exact up hk rfl (fun _ _=>rfl) (fun r=>r)
def cvK (W:List Nat):List Nat->Y->(Y->Prop)->Prop
 | [],s,K=>K s
 |d::r,s,K=>match s with
  |⟨sl,h,tch,an⟩=>(
   match ki 1000000 d with
   |true=>fH (qZF (d-1000000) h) fun h=>cvK W r ⟨sl,h,tch,an⟩ K
   |false=>(match ki 500000 d with
      |true=>(match sl[d-500000]? with
       |some (.sO id _ _)=>yV id (d-500000) W sl fun sl=>cvK W r ⟨sl,h,tch,an⟩ K
       |some (.oL id _)=>yV id (d-500000) W sl fun sl=>cvK W r ⟨sl,h,tch,an⟩ K
       |_=>False)
      |false=>
      match ki 250000 d with
      |true=>(match W.any (fun j=>gm j (d-250000))with
       |true=>(match sl[d-250000]? with
        |some _=>iH sl (d-250000) .any fun sl=>cvK W r ⟨sl,h,tch,an⟩ K
        |none=>False)
       |false=>False)
      |false=>
      (match W.any (fun j=>gm j d)with
      |true=>(match sl[d]? with
       |some (.sO id 0 n)=>(match h[id]? with
        |some (.tl t l e)=>needs [decide (n=l.length),decide (0<l.length)] (iH sl d (.oL id n) fun sl=>yV id d W sl fun sl=>kR h id (.opt t l e) fun h=>cvK W r ⟨sl,h,id::tch,an⟩ K)
        |_=>False)
       |_=>False)
      |false=>False)))
theorem LE.sOL {id n:Nat} (h:0<n):LE (.sO id 0 n) (.oL id n):=fun r=>.oL _ _ _ (by rw[if_neg om];exact r)
theorem BI {W:List Nat}:∀(ids:List Nat) (s:Y) (K:Y->Prop),cvK W ids s K->∃s':Y,K s'/\FrW W s s'/\∀ {ι:Iota} {a:Act} {w:World},SR s.den ι a w->SR s'.den ι a w/\Evolve (dens s.h) ι w (dens s'.h) ι w
 | [],s,K,hk=>⟨s,hk,FrW.refl _ _,fun r=>⟨r,Evolve.refl _ _ _⟩⟩
 |d::r,⟨sl,h,tch,an⟩,K,hk=>by
  simp only[cvK]at hk;split at hk
  ·rw[eQ]at hk
   obtain⟨s',k1,k2,k3⟩:=BI r _ K hk;refine⟨s',k1,FrW.trans (b:=⟨sl,qZF (d-1000000) h,tch,an⟩) (.mk' (by simp [qZF]) (fun j hj=>hj) (fun j hj hq=>?_) rfl (fun i hi=>rfl)) k2,fun{ι a w} q=>?_⟩
   ·exact gn hj
   ·obtain⟨r1,ev1⟩:=qP1 (d-1000000-h.length) h q
    obtain⟨g1,g2⟩:=k3 r1;exact⟨g1,ev1.trans g2⟩
  split at hk
  ·split at hk
   ·rename_i id _ _ hd
    obtain⟨sl2,hk,c2,c3,c4⟩:=FA W _ _ hk;obtain⟨s',k1,k2,k3⟩:=BI r _ K hk;refine⟨s',k1,FrW.trans (b:=⟨sl2,h,tch,an⟩) (.mk' (kd _) (fun j hj=>hj) (fun j hj hq=>rfl) c2 (fun i hi=>c3 i hi)) k2,fun{ι a w} q=>?_⟩;have q2:SR ⟨sl,dens h⟩ ι a w:=q;exact k3 (c4 q2)
   ·rename_i id _ hd
    obtain⟨sl2,hk,c2,c3,c4⟩:=FA W _ _ hk;obtain⟨s',k1,k2,k3⟩:=BI r _ K hk;refine⟨s',k1,FrW.trans (b:=⟨sl2,h,tch,an⟩) (.mk' (kd _) (fun j hj=>hj) (fun j hj hq=>rfl) c2 (fun i hi=>c3 i hi)) k2,fun{ι a w} q=>?_⟩;have q2:SR ⟨sl,dens h⟩ ι a w:=q;exact k3 (c4 q2)
   ·exact hk.elim
  split at hk
  ·split at hk
   ·rename_i hW
    split at hk
    ·rename_i x hd
     rw[cG]at hk;obtain⟨s',k1,k2,k3⟩:=BI r _ K hk;have hdW:d-250000∈W:=by
      obtain⟨j,hj,hq⟩:=List.any_eq_true.1 hW;exact(gk hq) ▸ hj
     refine⟨s',k1,FrW.trans (b:=⟨sl.set (d-250000) .any,h,tch,an⟩) (.mk' (kd _) (fun j hj=>hj) (fun j hj hq=>rfl) sm (fun i hi=>ga (fun p=>hi (by rw[<-p];exact hdW)))) k2,fun{ι a w} q=>?_⟩;have q:SR ⟨sl,dens h⟩ ι a w:=q;exact k3 (q.setLE hd (fun _=>.any _))
    ·exact hk.elim
   ·exact hk.elim
  split at hk
  ·rename_i hW
   split at hk
   ·rename_i id n hd
    split at hk
    ·rename_i t l e ho
     obtain⟨hc,hk⟩:=bR hk;rw[cG]at hk;obtain⟨sl2,hk,c2,c3,c4⟩:=FA W _ _ hk;rw[cJ]at hk;have hn:n=l.length:=of_decide_eq_true (hc _ sm);have h0:0<l.length:=of_decide_eq_true (hc _ sm);have hne:l.isEmpty=false:=by cases l with
      |nil=>simp at h0
      |cons a b=>rfl
     have hlt:=aI ho;have hden:dens (h.set id (.opt t l e))=dens h:=by
      rw[aX];apply List.ext_getElem?;intro j;by_cases q:id=j
      ·subst q
       rw[gl (by rw[eD];exact hlt),aJ,ho];simp [XO.den,hne]
      ·rw[ga q]
     obtain⟨s',k1,k2,k3⟩:=BI r _ K hk;have hdW:d∈W:=by
      obtain⟨j,hj,hq⟩:=List.any_eq_true.1 hW;have:=gk hq;subst this;exact hj
     refine⟨s',k1,FrW.trans (.mk' sm (fun j hj=>kc _ hj) (fun j hj hq=>?_) (by rw[c2];simp) (fun i hi=>?_)) k2,fun{ι a w} q=>?_⟩
     ·refine ga (fun p=>hq ?_)
      rw[<-p];exact kg ..
     ·refine(c3 i hi).trans (ga (fun p=>hi ?_))
      rw[<-p];exact hdW
     ·have q2:SR ⟨sl,dens h⟩ ι a w:=q
      have q3:=c4 (q2.setLE hd (LE.sOL (n:=n) om));rw[<-hden]at q3;obtain⟨g1,g2⟩:=k3 q3;refine⟨g1,?_⟩;simp only[hden]at g2;exact g2
    ·exact hk.elim
   ·exact hk.elim
  ·exact hk.elim
def xdraw (E:Env) (id:Nat) (ops:Array Oper) (s:Y) (K:Y->Prop):Prop:=
 match s with
 |⟨sl,h,tch,an⟩=>Kern (FD ops)/\fN h.length fun base=>fN (sY E.T ops.toList) fun tot=>fH (h++gh (tot+1) (.raw .free)) fun h1=>xdrw E ops id base tot ops.toList 0 0 ⟨sl,h1,tch,an⟩ fun s' fs=>
  Kern (qX9 ops fs)/\match s' with|⟨sl',h',tch',an'⟩=>fH (qOJ base h') fun h'=>fzK (lT ops.toList) base (qOU E.fid id E.flip) sl' h' fun sl' h'=>K ⟨sl',h',tch',an'⟩
def tP (Q:Exit->Y->Prop) (k:Y->Prop):Exit->Y->Prop:=fun e s'=>match e with
 | .normal=>k s'
 |e=>Q e s'
def qIY (body:Y->(Exit->Y->Prop)->Prop) (Q:Exit->Y->Prop) (s:Y):Prop:=
 body s (tP Q fun s=>body s (tP Q fun s=>body s (tP Q fun s=>body s (tP Q fun _=>False))))
def xcode (E:Env) (c:Code):Y->(Exit->Y->Prop)->Prop:=Code.rec (motive:=fun _=>Y->(Exit->Y->Prop)->Prop)
 (fun s Q=>Q .normal s)
 (fun id ops dr s Q=>match dr with
   |false=>xops E ops id ops.toList 0 s fun s'=>cvK (lT ops.toList) (qEE E.fid id E.flip) s' (Q .normal)
   |true=>xdraw E id ops s (Q .normal))
 (fun a b iha ihb s Q=>match s with
   |⟨sl,h,tch,an⟩=>match find an E.fid (2*first b+1)with
    |none=>iha ⟨sl,h,tch,an⟩ fun e s'=>match e with
     | .normal=>ihb s' Q
     |e=>Q e s'
    |some (.mk g inv _ next)=>zS g sl h fun sl h=>(iha ⟨sl,h,[],an⟩ fun e s'=>match e with
     | .normal=>(match s' with|⟨sl',h',tch',an'⟩=>zS g sl' h' fun sl' h'=>arrive E.n0 (wr a) g ⟨sl,h,tch,an⟩ ⟨sl',h',tch',an'⟩ fun y=>Side (inv y))
     |e=>Q e ⟨s'.sl,s'.h,s'.tch++(gids ⟨sl,h⟩ g++tch),an⟩)/\(Kern ((gslots g).all fun d=>(wr a).contains d)/\∀y,inv y->fS (wr a) g y ⟨sl,h⟩ fun sl' h'=>ihb ⟨sl',h',gids ⟨sl,h⟩ g++tch,next y++an⟩ fun e s'=>Q e ⟨s'.sl,s'.h,s'.tch,an⟩))
 (fun c a b iha ihb s Q=>match s with
   |⟨sl,h,tch,an⟩=>match c with
    | .tmp d=>match sl[d]? with
      |some (.v (.bool t))=>br t (iH sl d (.v (.bool true)) fun sl=>iha ⟨sl,h,tch,an⟩ Q) (iH sl d (.v (.bool false)) fun sl=>ihb ⟨sl,h,tch,an⟩ Q)
      |_=>False
    |c=>match aev sl c with
     | .v (.bool t)=>br t (iha ⟨sl,h,tch,an⟩ Q) (ihb ⟨sl,h,tch,an⟩ Q)
     |_=>False)
 (fun id a iha s Q=>iha s fun e s'=>match e with
   | .exit i=>match gm i id with
     |true=>Q .normal s'
     |false=>Q (.exit i) s'
   |e=>Q e s')
 (fun c ih s Q=>match s with
   |⟨sl,h,tch,an⟩=>match find an E.fid (2*first c)with
    |none=>(match flips E.flip E.fid (first c) 2000000 with
     |true=>qIY (fun s K=>ih s K) Q ⟨sl,h,tch,an⟩
     |false=>False)
    |some (.mk g inv mu next)=>zS g sl h fun sl h=>arrive E.n0 (wr c) g ⟨sl,h,tch,an⟩ ⟨sl,h,[],an⟩ fun y=>Side (inv y) /\
     ∀y,inv y->fS (wr c) g y ⟨sl,h⟩ fun sl' h'=>ih ⟨sl',h',[],next y++an⟩ fun e s'=>match e with
      | .normal=>(match s' with|⟨sl',h',tch',an'⟩=>zS g sl' h' fun sl' h'=>arrive E.n0 (wr c) g ⟨sl,h,tch,an⟩ ⟨sl',h',tch',an'⟩ fun y'=>Side (inv y')/\Side (mu y'<mu y))
      |e=>Q e ⟨s'.sl,s'.h,s'.tch++(gids ⟨sl,h⟩ g++tch),an⟩)
 (fun _ _ _ _ _ _ _ _=>False)
 (fun id s Q=>Q (.exit id) s)
 (fun _ _ _ _=>False)
 (fun _ _ _=>False)
 (fun _ _ _=>False)
 (fun s Q=>Q .ret s)
 (fun _ _ _=>False) c
theorem qMD (E:Env) (a b:Code) (sl:List V) (h:List XO) (tch:List Nat) (an:List (Nat×Nat×LA)) (Q:Exit->Y->Prop):xcode E (.seq a b) ⟨sl,h,tch,an⟩ Q=(match find an E.fid (2*first b+1)with
 |none=>xcode E a ⟨sl,h,tch,an⟩ fun e s'=>match e with
  | .normal=>xcode E b s' Q
  |e=>Q e s'
 |some (.mk g inv _ next)=>zS g sl h fun sl h=>(xcode E a ⟨sl,h,[],an⟩ fun e s'=>match e with
  | .normal=>(match s' with|⟨sl',h',tch',an'⟩=>zS g sl' h' fun sl' h'=>arrive E.n0 (wr a) g ⟨sl,h,tch,an⟩ ⟨sl',h',tch',an'⟩ fun y=>Side (inv y))
  |e=>Q e ⟨s'.sl,s'.h,s'.tch++(gids ⟨sl,h⟩ g++tch),an⟩)/\(Kern ((gslots g).all fun d=>(wr a).contains d)/\∀y,inv y->fS (wr a) g y ⟨sl,h⟩ fun sl' h'=>xcode E b ⟨sl',h',gids ⟨sl,h⟩ g++tch,next y++an⟩ fun e s'=>Q e ⟨s'.sl,s'.h,s'.tch,an⟩)):=rfl
theorem qDX (E:Env) (c:Operand) (a b:Code) (sl:List V) (h:List XO) (tch:List Nat) (an:List (Nat×Nat×LA)) (Q:Exit->Y->Prop):xcode E (.cond c a b) ⟨sl,h,tch,an⟩ Q=(match c with
 | .tmp d=>match sl[d]? with
   |some (.v (.bool t))=>br t (iH sl d (.v (.bool true)) fun sl=>xcode E a ⟨sl,h,tch,an⟩ Q) (iH sl d (.v (.bool false)) fun sl=>xcode E b ⟨sl,h,tch,an⟩ Q)
   |_=>False
 |c=>match aev sl c with
  | .v (.bool t)=>br t (xcode E a ⟨sl,h,tch,an⟩ Q) (xcode E b ⟨sl,h,tch,an⟩ Q)
  |_=>False):=rfl
theorem qDY (E:Env) (c:Code) (sl:List V) (h:List XO) (tch:List Nat) (an:List (Nat×Nat×LA)) (Q:Exit->Y->Prop):xcode E (.loop c) ⟨sl,h,tch,an⟩ Q=(match find an E.fid (2*first c)with
 |none=>(match flips E.flip E.fid (first c) 2000000 with
  |true=>qIY (fun s K=>xcode E c s K) Q ⟨sl,h,tch,an⟩
  |false=>False)
 |some (.mk g inv mu next)=>zS g sl h fun sl h=>arrive E.n0 (wr c) g ⟨sl,h,tch,an⟩ ⟨sl,h,[],an⟩ fun y=>Side (inv y) /\
  ∀y,inv y->fS (wr c) g y ⟨sl,h⟩ fun sl' h'=>xcode E c ⟨sl',h',[],next y++an⟩ fun e s'=>match e with
   | .normal=>(match s' with|⟨sl',h',tch',an'⟩=>zS g sl' h' fun sl' h'=>arrive E.n0 (wr c) g ⟨sl,h,tch,an⟩ ⟨sl',h',tch',an'⟩ fun y'=>Side (inv y')/\Side (mu y'<mu y))
   |e=>Q e ⟨s'.sl,s'.h,s'.tch++(gids ⟨sl,h⟩ g++tch),an⟩):=rfl
def WQ (W:List Nat) (s:Y) (Q:Exit->Y->Prop):Exit->St->Prop:=fun e st=>∃s':Y,st=s'.den/\Q e s'/\FrW W s s'
theorem PV.brk {n:Nat} {P:Program} {Q:Exit->St->Prop} {s:St} {c:Operand} {a b:Code} (h:∃t:Bool,aev s.sl c = .v (.bool t)/\(t=true->PV n P a s Q)/\(t=false->PV n P b s Q)):PV n P (.cond c a b) s Q:=by
 obtain⟨t,h1,h2,h3⟩:=h;refine PV.cond h1 ?_;cases t with
 |true=>exact h2 rfl
 |false=>exact h3 rfl
theorem KL {sl:List V} {d:Nat} {x:V} (h:sl[d]? =some x):sl.set d x=sl:=by
 have hlt:=aI h;rw[gg hlt]at h;injection h with h;rw[<-h,List.set_getElem_self]
theorem vR {W:List Nat} {g:List GK} {y:Tup (gts g)} {sl:List V} {h:List XO} {tch t0:List Nat} {an an':List (Nat×Nat×LA)} {s':Y} (hW:∀d,d∈gslots g->d∈W)
  (f:FrW W ⟨fQ g y ⟨sl,h⟩ (kU W sl),gH g y ⟨sl,h⟩ h,[],an'⟩ s'):Near W (gids ⟨sl,h⟩ g) ⟨sl,h,tch,an⟩ s'/\h.length<=s'.h.length:=by
 refine⟨⟨fun i hi=>?_,?_,fun j hj hg ht=>?_⟩,?_⟩
 ·rw[f.sl i hi]
  simp only;rw[gI g _ _ _ i (fun q=>hi (hW i q)),uA _ _ _ hi]
 ·rw[f.len];simp only[kC,BE]
 ·rw[f.fr.h j (by simpa [jF]using hj) ht]
  exact gY g _ _ _ j hg
 ·have:=f.fr.len;simpa [jF]using this
theorem qOT {W:List Nat} {g:List GK} {y:Tup (gts g)} {sl:List V} {h:List XO} {tch:List Nat} {an an':List (Nat×Nat×LA)} (hW:∀d,d∈gslots g->d∈W) :
  FrW W ⟨sl,h,tch,an⟩ ⟨fQ g y ⟨sl,h⟩ (kU W sl),gH g y ⟨sl,h⟩ h,gids ⟨sl,h⟩ g++tch,an'⟩:=by
 refine .mk' (by simp [jF]) (fun j hj=>by simp [hj]) (fun j hj hn=>?_) (by simp [kC,BE]) (fun i hi=>?_)
 ·exact gY g _ _ _ j (fun q=>hn (by simp [q]))
 ·simp only
  rw[gI g _ _ _ i (fun q=>hi (hW i q)),uA _ _ _ hi]
theorem wZ {W:List Nat} {g:List GK} {y:Tup (gts g)} {sl:List V} {h:List XO} {tch:List Nat} {an an' an2:List (Nat×Nat×LA)} {s':Y} (hW:∀d,d∈gslots g->d∈W)
  (f:FrW W ⟨fQ g y ⟨sl,h⟩ (kU W sl),gH g y ⟨sl,h⟩ h,[],an'⟩ s'):FrW W ⟨sl,h,tch,an⟩ ⟨s'.sl,s'.h,s'.tch++(gids ⟨sl,h⟩ g++tch),an2⟩:=by
 obtain⟨n1,n2⟩:=vR (tch:=tch) (t0:=[]) (an:=an) hW f;refine .mk' n2 (fun j hj=>by simp [hj]) (fun j hj hn=>?_) n1.len n1.sl;simp only[gc,not_or]at hn;exact n1.h j hj hn.2.1 hn.1
theorem PV.cut {n:Nat} {P:Program} {Q:Exit->St->Prop} {s s2:St} {c:Code} (hc:AT n s s2) (h:PV n P c s2 Q):PV n P c s Q:=PV.post (fun r=>hc r) h
theorem FrW.prep {W:List Nat} {g:List GK} {b:Bs} {sl sl1:List V} {h h1:List XO} {tch:List Nat} {an an1:List (Nat×Nat×LA)} {s2:Y} (hW:∀d,d∈gslots g->d∈W) (p1:sl1.length=sl.length) (p2:∀i,¬i∈gslots g->sl1[i]? =sl[i]?) (p3:h.length<=h1.length)
  (p4:∀j,j<h.length->¬j∈mT g->h1[j]? =h[j]?) (f:FrW W ⟨sl1,h1,tch,an1⟩ s2) (ht:∀j,j∈gids b g->j∈s2.tch):FrW W ⟨sl,h,tch,an⟩ s2:=
 .mk' (Nat.le_trans p3 f.fr.len) f.fr.tch (fun j hj hn=>(f.fr.h j (gt hj p3) hn).trans (p4 j hj (fun q=>hn (ht j (fE q))))) (f.len.trans p1) (fun i hi=>(f.sl i hi).trans (p2 i (fun q=>hi (hW i q))))
theorem Near.prep {W gi:List Nat} {g:List GK} {s1:Y} {sl sl1:List V} {h h1:List XO} {tch:List Nat} {an an1:List (Nat×Nat×LA)} (hW:∀d,d∈gslots g->d∈W) (n:Near W gi s1 ⟨sl,h,tch,an⟩) (n2:s1.h.length<=h.length) (p1:sl1.length=sl.length) (p2:∀i,¬i∈gslots g->sl1[i]? =sl[i]?)
  (p4:∀j,j<h.length->¬j∈mT g->h1[j]? =h[j]?) (hgi:∀j,j∈mT g->j∈gi):Near W gi s1 ⟨sl1,h1,tch,an1⟩:=
 ⟨fun i hi=>(p2 i (fun q=>hi (hW i q))).trans (n.sl i hi),p1.trans n.len,fun j hj hg ht=>(p4 j (gt hj n2) (fun q=>hg (hgi j q))).trans (n.h j hj hg ht)⟩
theorem qI6.run {P:Program} {ops:Array Oper} {ds all:List Dat}:∀ {i:Nat} {s s':St},qI6 P ops i ds s s'->(∀(m:Nat) (d:Dat),ds[m]? =some d->all[i+m]? =some d)->Run P ops (fun j=>(all[j]?).getD default) (List.range' i ds.length) s s':=by
 induction ds with
 |nil=>intro i s s' h _;exact h
 |cons d ds ih=>
  intro i s s' ⟨s1,h1,h2⟩ hall;simp only[gq,List.range'_succ];refine⟨s1,?_,ih h2 (fun m e he=>?_)⟩
  ·have:all[i]? =some d:=by simpa using hall 0 d rfl
   unfold AS at h1 ⊢;simp only[this,kk];exact h1
  ·rw[show i+1+m=i+(m+1)by omega]
   exact hall (m+1) e (by simpa using he)
theorem PV.weak {n:Nat} {P:Program} {Q Q2:Exit->St->Prop} {s:St} {c:Code} (h:PV n P c s Q) (hq:∀e st,Q e st->∃st2,Q2 e st2/\∀ {ι:Iota} {a:Act} {w:World},SR st ι a w->∃ι',SR st2 ι' a w/\EvN n st.h ι w st2.h ι' w):PV n P c s Q2:=
 fun ι a w r=>wp_mono (h ι a w r) fun e a' w' ⟨s',ι',q,r',ev⟩=>by
  obtain⟨st2,q2,hr⟩:=hq e s' q;obtain⟨ι2,r2,ev2⟩:=hr r';exact⟨st2,ι2,q2,r2,ev.trans ev2⟩
theorem QS {E:Env} (hT:aD E.P E.T) (hM:E.P.follows .mixedOrders=true) {id:Nat} {ops:Array Oper} {s:Y} {K:Y->Prop} (h:xdraw E id ops s K) (W:(Exit->Act->World->Prop)->Act->World->Prop)
  (hmono:∀ {Q Q':Exit->Act->World->Prop} {a:Act} {w:World},W Q a w->(∀e a w,Q e a w->Q' e a w)->W Q' a w)
  (hops:∀ {Q:Exit->Act->World->Prop} {a:Act} {w:World},¬LetsOut Q->(∀t,wpOps E.P ops Q (Region.schedule (E.P.follows .mixedOrders) ops t) a {w with drawn:=w.drawn+1})->W Q a w) :
  ∀(ι:Iota) (a:Act) (w:World),SR s.den ι a w->W (qD2 E.n0 s.den ι w (fun e st=>e = .normal/\∃s',st=s'.den/\K s'/\FrW (lT ops.toList) s s')) a w:=by
 obtain⟨sl,hp,tch,an⟩:=s;simp only[xdraw]at h;obtain⟨⟨he⟩,h⟩:=h;rw[iD,iD,eQ]at h;obtain⟨ds,fs,s',g1,g2,g3,⟨⟨hd⟩,g4⟩,g5⟩:=qI3 (ops:=ops) (W:=lT ops.toList) hT ops.toList 0 0 _ _ (fun j o hj=>by rw[gp];simpa using hj) (fun o ho d hd=>AN ho d hd) h;obtain⟨sl',h',tch',an'⟩:=s';(try simp only at g4);rw[eQ]at g4;have hedge:∀(i:Nat) (o:Oper),ops[i]? =some o->∀e∈o.after,Region.binds .any e=true->e.on<i:=by
  intro i o ho e hem hb;have hi:i<ops.size:=by
   rcases Nat.lt_or_ge i ops.size with q|q
   ·exact q
   ·rw[gj q]at ho;cases ho
  have h1:=ge.1 he i (by simpa using hi);simp only[ho]at h1;have h2:=ge.1 h1 e (by simpa using hem);simpa [hb]using h2
 have hrun:=qI6.run (all:=ds) g3 (fun m d hm=>by rw[gp];exact hm);have hlen:ds.length=ops.size:=by rw[g1];simp
 rw[hlen,<-List.range_eq_range']at hrun;have hind:∀i j,j<i->i<ops.size->(∃n,dep ops n i j=true)\/Indep ops (fun j=>(ds[j]?).getD default) i j:=by
  intro i j hj hi;have h1:=ge.1 (ge.1 hd i (by simpa using hi)) j (by simpa using hj);simp only[qP2,gy,gb]at h1;rcases h1 with h1|⟨h1,h2⟩
  ·exact .inl ⟨_,h1⟩
  ·refine .inr fun oi oj hoi hoj=>?_
   rw[hoi,hoj]at h1;refine⟨h1,?_⟩;have i1:i<ds.length:=om
   have j1:j<ds.length:=om
   obtain⟨fi,a1,a2⟩:=g2 i _ (gg i1);obtain⟨fj,b1,b2⟩:=g2 j _ (gg j1);rw[a1,b1]at h2;obtain⟨c1,c2⟩:=qKC h2;simp only[gg i1,gg j1,kk];refine⟨fun p hp q hq=>c1 _ (a2.2 p hp) q ?_,fun p hp q hq=>c2 _ (b2.2 p hp) q ?_⟩
   ·rcases gc.1 hq with hq|hq
    ·obtain⟨r,hr,rfl⟩:=gr.1 hq;exact gc.2 (.inl (b2.1 r hr))
    ·obtain⟨r,hr,rfl⟩:=gr.1 hq;exact gc.2 (.inr (b2.2 r hr))
   ·rcases gc.1 hq with hq|hq
    ·obtain⟨r,hr,rfl⟩:=gr.1 hq;exact gc.2 (.inl (a2.1 r hr))
    ·obtain⟨r,hr,rfl⟩:=gr.1 hq;exact gc.2 (.inr (a2.2 r hr))
 have hdens:dens (hp++gh (sY E.T ops.toList+1) (.raw .free))=dens hp++gh (sY E.T ops.toList+1) .free:=by simp [dens,XO.den]
 have pre:∀ {ι:Iota} {a:Act} {w:World},SR ⟨sl,dens hp⟩ ι a w->SR ⟨sl,dens (hp++gh (sY E.T ops.toList+1) (.raw .free))⟩ ι a w/\EvN E.n0 (dens hp) ι w (dens (hp++gh (sY E.T ops.toList+1) (.raw .free))) ι w:=by
  intro ι a w r;obtain⟨r1,ev1⟩:=r.reserve (sY E.T ops.toList+1);rw[hdens];exact⟨r1,EvN.of ev1⟩
 have post:∃st2:St,(∃s':Y,st2=s'.den/\K s'/\FrW (lT ops.toList) ⟨sl,hp,tch,an⟩ s')/\∀ {ι:Iota} {a:Act} {w:World},SR ⟨sl',dens h'⟩ ι a w->∃ι',SR st2 ι' a w/\EvN E.n0 (dens h') ι w st2.h ι' w:=by
  obtain⟨sl2,h2,k1,k2,k3,k4,k5,k6⟩:=qOV (n0:=E.n0) _ _ _ _ g4;refine⟨⟨sl2,dens h2⟩,⟨⟨sl2,h2,tch',an'⟩,rfl,k1,?_⟩,fun{ι a w} r=>?_⟩
  ·have hl:hp.length<=h'.length:=by have:=g5.fr.len;simp at this;omega
   refine .mk' (by rw[k4];simp [qOJ];omega) (fun j hj=>g5.fr.tch j hj) (fun j hj hn=>?_) (k2.trans g5.len) (fun i hi=>(k3 i hi).trans (g5.sl i hi));have hj:j<hp.length:=hj;have h1:=g5.fr.h j (by simp;omega) hn;refine(k5 j hj).trans ?_;(try simp only at h1 ⊢);rw[gn hj]at h1;rw[qOJ,gn (by simp;omega),kh,if_pos hj];exact h1
  ·obtain⟨r1,ev1⟩:=qYA hp.length h' r
   obtain⟨ι2,r2,ev2⟩:=k6 r1;exact⟨ι2,r2,(EvN.of ev1).trans ev2⟩
 intro ι a w r;obtain⟨r0,ev0⟩:=pre r;have hq:¬LetsOut (Post ⟨sl,dens (hp++gh (sY E.T ops.toList+1) (.raw .free))⟩ ι w (fun e st=>e = .normal/\st=⟨sl',dens h'⟩)):=by
  rintro⟨_,_,_,_,⟨q,_⟩,_⟩;cases q
 refine hmono (hops hq (WH (Q:=fun e st=>e = .normal/\st=⟨sl',dens h'⟩) hM hedge hind hrun ⟨rfl,rfl⟩ ι a w r0)) ?_;rintro e a' w' ⟨st,ι',⟨rfl,rfl⟩,r',ev⟩;obtain⟨st2,q2,hr⟩:=post;obtain⟨ι2,r2,ev2⟩:=hr r';exact⟨st2,ι2,⟨rfl,q2⟩,r2,(ev0.trans (EvN.of ev)).trans ev2⟩
theorem qSE {E:Env} (hT:aD E.P E.T) (hM:E.P.follows .mixedOrders=true) {id:Nat} {ops:Array Oper} {s:Y} {K:Y->Prop} (h:xdraw E id ops s K):PV E.n0 E.P (.region id ops true) s.den (fun e st=>e = .normal/\∃s',st=s'.den/\K s'/\FrW (lT ops.toList) s s'):=
 QS hT hM h (fun Q a w=>(Code.region id ops true).wp E.P Q a w) (fun q hq=>wp_mono q hq) (fun _ q=>wp_region_draw q)
theorem jJ {E:Env} (hT:aD E.P E.T) (hM:E.P.follows .mixedOrders=true) (hI:tK E):∀(c:Code) (s:Y) (Q:Exit->Y->Prop),xcode E c s Q->PV E.n0 E.P c s.den (WQ (wr c) s Q):=by
 intro c;induction c with
 |skip=>intro s Q h;exact PV.skip ⟨s,rfl,h,FrW.refl _ _⟩
 |exit id=>intro s Q h;exact PV.exit ⟨s,rfl,h,FrW.refl _ _⟩
 |ret=>intro s Q h;exact PV.ret ⟨s,rfl,h,FrW.refl _ _⟩
 |region id ops dr=>
  intro s Q h;cases dr with
  |false=>
   refine PV.weak (Q:=fun e st=>e = .normal/\∃s':Y,st=s'.den/\cvK (lT ops.toList) (qEE E.fid id E.flip) s' (Q .normal)/\FrW (lT ops.toList) s s') (PV.regionL ((UD hT hI (fun _ q=>q) ops.toList 0 s _ (fun o ho d hd=>AN ho d hd) h).mono ?_)) ?_
   ·rintro st ⟨s',h1,h2,h3⟩
    exact⟨rfl,s',h1,h2,h3⟩
   ·rintro e st ⟨rfl,s',rfl,h2,h3⟩
    obtain⟨s2,k1,k2,k3⟩:=BI _ s' _ h2;refine⟨s2.den,⟨s2,rfl,k1,h3.trans k2⟩,fun{ι a w} r=>?_⟩;obtain⟨g1,g2⟩:=k3 r;exact⟨ι,g1,EvN.of g2⟩
  |true=>
   refine PV.mono (qSE hT hM h) ?_;rintro e st ⟨rfl,s',h1,h2,h3⟩;exact⟨s',h1,h2,h3⟩
 |seq a b iha ihb=>
  intro s Q h;obtain⟨sl,hp,tch,an⟩:=s;rw[qMD]at h;split at h
  ·refine PV.seq (PV.mono (iha _ _ h) ?_)
   rintro e st ⟨s',rfl,h2,h3⟩;cases e with
   |normal=>
    refine PV.mono (ihb _ _ h2) ?_;rintro e st ⟨s2,h4,h5,h6⟩;exact⟨s2,h4,h5,(h3.mono fun i hi=>gc.2 (.inl hi)).trans (h6.mono fun i hi=>gc.2 (.inr hi))⟩
   |_=>exact⟨s',rfl,h2,h3.mono fun i hi=>gc.2 (.inl hi)⟩
  ·rename_i g inv mu next hf
   obtain⟨sl1,h1,⟨ha,⟨hk⟩,hb⟩,p1,p2,p3,p4,p5⟩:=zT h;have hW:∀d,d∈gslots g->d∈wr a:=fun d hd=>by simpa using ge.1 hk d hd
   refine PV.cut (s2:=⟨sl1,dens h1⟩) (fun{ι a w} r=>⟨ι,(p5 r).1,EvN.of (p5 r).2⟩) ?_;refine PV.seq (PV.mono (iha ⟨sl1,h1,[],an⟩ _ ha) ?_);rintro e st ⟨s',rfl,h3,h4⟩;have up:FrW (wr a) ⟨sl,hp,tch,an⟩ ⟨s'.sl,s'.h,s'.tch++(gids ⟨sl1,h1⟩ g++tch),an⟩:=
    FrW.prep (b:=⟨sl1,h1⟩) (an1:=an) hW p1 p2 p3 p4 (.mk' h4.fr.len (fun j hj=>by simp [hj]) (fun j hj hn=>h4.fr.h j hj (fun q=>hn (by simp [q]))) h4.len h4.sl) (fun j hj=>by simp [hj])
   cases e with
   |normal=>
    obtain⟨sl',h',tch',an'⟩:=s';(try simp only at h3);obtain⟨sl2,h2,ha2,q1,q2,q3,q4,q5⟩:=zT h3;have hn:Near (wr a) (gids ⟨sl1,h1⟩ g) ⟨sl1,h1,tch,an⟩ ⟨sl',h',tch',an'⟩:=⟨h4.sl,h4.len,fun j hj _ ht=>h4.fr.h j hj ht⟩
    obtain⟨σ,y,hc,hk,_⟩:=mC (s1:=⟨sl1,h1,tch,an⟩) (s':=⟨sl2,h2,tch',an'⟩) (hn.prep (an1:=an') hW h4.fr.len q1 q2 q4 (fun j q=>fE q)) ha2;have hb:=hb y hk.out;rw[DS]at hb;refine PV.cut (AT.trans (b:=⟨sl2,dens h2⟩) (fun{ι a w} r=>⟨ι,(q5 r).1,EvN.of (q5 r).2⟩) hc.cs) (PV.mono (ihb _ _ hb) ?_);rintro e st ⟨s2,h5,h6,h7⟩;refine⟨⟨s2.sl,s2.h,s2.tch,an⟩,h5,h6,?_⟩;have f1:=qOT (W:=wr a) (y:=y) (sl:=sl1) (h:=h1) (tch:=tch) (an:=an) (an':=next y++an) hW;have f2:=(f1.mono (W':=wr a++wr b) fun i hi=>gc.2 (.inl hi)).trans (h7.mono fun i hi=>gc.2 (.inr hi));have f3:=FrW.prep (b:=⟨sl1,h1⟩) (an:=an) (fun d hd=>gc.2 (.inl (hW d hd))) p1 p2 p3 p4 f2 (fun j hj=>h7.fr.tch j (by simp only[gc];exact .inl hj));exact⟨⟨f3.fr.len,f3.fr.tch,f3.fr.h⟩,f3.len,f3.sl⟩
   |_=>exact⟨⟨s'.sl,s'.h,s'.tch++(gids ⟨sl1,h1⟩ g++tch),an⟩,rfl,h3,up.mono fun i hi=>gc.2 (.inl hi)⟩
 |block id a iha=>
  intro s Q h;refine PV.block (PV.mono (iha _ _ h) ?_);rintro e st ⟨s',rfl,h2,h3⟩;cases e with
  |exit i=>
   simp only[pZ];cases hq:gm i id with
   |true=>
    simp only[hq]at h2;rw[if_pos (gk hq)];exact⟨s',rfl,h2,h3⟩
   |false=>
    simp only[hq]at h2;rw[if_neg (fun q=>by subst q;simp at hq)];exact⟨s',rfl,h2,h3⟩
  |_=>exact⟨s',rfl,h2,h3⟩
 |cond c a b iha ihb=>
  intro s Q h;obtain⟨sl,hp,tch,an⟩:=s;have left:∀ {X:Exit->Y->Prop},PV E.n0 E.P a ⟨sl,dens hp⟩ (WQ (wr a) ⟨sl,hp,tch,an⟩ X)->PV E.n0 E.P a ⟨sl,dens hp⟩ (WQ (wr a++wr b) ⟨sl,hp,tch,an⟩ X):=fun h=>PV.mono h fun e st ⟨s',q1,q2,q3⟩=>⟨s',q1,q2,q3.mono fun i hi=>gc.2 (.inl hi)⟩
  have right:∀ {X:Exit->Y->Prop},PV E.n0 E.P b ⟨sl,dens hp⟩ (WQ (wr b) ⟨sl,hp,tch,an⟩ X)->PV E.n0 E.P b ⟨sl,dens hp⟩ (WQ (wr a++wr b) ⟨sl,hp,tch,an⟩ X):=fun h=>PV.mono h fun e st ⟨s',q1,q2,q3⟩=>⟨s',q1,q2,q3.mono fun i hi=>gc.2 (.inr hi)⟩
  rw[qDX]at h;split at h
  ·rename_i d
   split at h
   ·rename_i t ht
    obtain⟨h1,h2⟩:=(gT _ _ _).1 h;refine PV.brk ⟨t,by simp [aev,Y.den,ht],fun q=>?_,fun q=>?_⟩
    ·have h3:=h1 q
     clear h1 h2;subst q;rw[cG,KL ht]at h3;exact left (iha ⟨sl,hp,tch,an⟩ _ h3)
    ·have h3:=h2 q
     clear h1 h2;subst q;rw[cG,KL ht]at h3;exact right (ihb ⟨sl,hp,tch,an⟩ _ h3)
   ·exact h.elim
  ·split at h
   ·rename_i t ht
    obtain⟨h1,h2⟩:=(gT _ _ _).1 h;refine PV.brk ⟨t,ht,fun q=>left (iha ⟨sl,hp,tch,an⟩ _ (h1 q)),fun q=>right (ihb ⟨sl,hp,tch,an⟩ _ (h2 q))⟩
   ·exact h.elim
 |loop c ih=>
  intro s Q h;obtain⟨sl,hp,tch,an⟩:=s;rw[qDY]at h;split at h
  ·split at h
   ·have one:∀(m:Nat) (k:Y->Prop),(∀s,FrW (wr c) ⟨sl,hp,tch,an⟩ s->k s->AA E.n0 E.P c (fun e st=>∃s':Y,st=s'.den/\Q e s'/\FrW (wr c) ⟨sl,hp,tch,an⟩ s') m s.den) ->
        ∀s,FrW (wr c) ⟨sl,hp,tch,an⟩ s->xcode E c s (tP Q k)->AA E.n0 E.P c (fun e st=>∃s':Y,st=s'.den/\Q e s'/\FrW (wr c) ⟨sl,hp,tch,an⟩ s') (m+1) s.den:=by
      intro m k hk s hfr q;refine PV.mono (ih s _ q) ?_;rintro e st ⟨s',rfl,h2,h3⟩;cases e with
      |normal=>exact hk s' (hfr.trans h3) h2
      |_=>exact⟨s',rfl,h2,hfr.trans h3⟩
    exact PV.unroll 4 (one 3 _ (one 2 _ (one 1 _ (one 0 _ (fun _ _ q=>q.elim)))) _ (FrW.refl _ _) h)
   ·exact h.elim
  ·rename_i g inv mu next hf
   obtain⟨sl1,h1,ha,p1,p2,p3,p4,p5⟩:=zT h;obtain⟨σ,y0,hc,⟨⟨hi⟩,hr⟩,hW⟩:=mC (s1:=⟨sl1,h1,tch,an⟩) (s':=⟨sl1,h1,[],an⟩) ⟨fun _ _=>rfl,rfl,fun _ _ _ _=>rfl⟩ ha;refine PV.loopR (fun y=>⟨fQ g y ⟨sl1,h1⟩ (kU (wr c) sl1),dens (gH g y ⟨sl1,h1⟩ h1)⟩) inv mu y0 (AT.trans (b:=⟨sl1,dens h1⟩) (fun{ι a w} r=>⟨ι,(p5 r).1,EvN.of (p5 r).2⟩) hc.cs) hi (fun y hy=>?_);have hb:=hr y hy;rw[DS]at hb;refine PV.mono (ih _ _ hb) ?_;rintro e st ⟨s',rfl,h2,h3⟩;cases e with
   |normal=>
    obtain⟨n1,n2⟩:=vR (tch:=tch) (t0:=[]) (an:=an) hW h3;obtain⟨sl',h',tch',an'⟩:=s';(try simp only at h2);obtain⟨sl2,h4,ha2,q1,q2,q3,q4,q5⟩:=zT h2;obtain⟨σ',y',hc',⟨⟨hk1⟩,⟨hk2⟩⟩,_⟩:=mC (s1:=⟨sl1,h1,tch,an⟩) (s':=⟨sl2,h4,tch',an'⟩) (n1.prep (an1:=an') hW n2 q1 q2 q4 (fun j q=>fE q)) ha2;exact⟨y',AT.trans (b:=⟨sl2,dens h4⟩) (fun{ι a w} r=>⟨ι,(q5 r).1,EvN.of (q5 r).2⟩) hc'.cs,hk1,hk2⟩
   |_=>exact⟨⟨s'.sl,s'.h,s'.tch++(gids ⟨sl1,h1⟩ g++tch),an⟩,rfl,h2,FrW.prep (b:=⟨sl1,h1⟩) (an1:=an) hW p1 p2 p3 p4 (wZ (an2:=an) hW h3) (fun j hj=>by simp [hj])⟩
 |_=>intro s Q h;exact h.elim
theorem Tup.ni (n:Nat):∀(ps:List Ty) (x:Tup ps),NIs n (vals ps x)
 | [],_=>fun _ h=>by cases h
 |t::ts,x=>fun v h=>by
  rcases gf.1 h with q|q
  ·subst q;exact t.ni_val n x.1
  ·exact Tup.ni n ts x.2 v q
theorem Tup.len:∀(ps:List Ty) (x:Tup ps),(vals ps x).length=ps.length
 | [],_=>rfl
 |t::ts,x=>by simp only[vals,gq,Tup.len ts x.2]
def fin (P:Program) (rs:List ResultVar) (lo:Nat) (r:RV) (k:List XO->Prop) (e:Exit) (s:Y):Prop:=
 match s with
 |⟨sl,h,_,_⟩=>match e with
  | .normal=>(match ares P rs sl (dens h)with
    |some y=>fV y fun y=>qJW h lo y (k h) r
    |none=>False)
  | .ret=>(match ares P rs sl (dens h)with
    |some y=>fV y fun y=>qJW h lo y (k h) r
    |none=>False)
  |_=>False
theorem IS {P:Program} {rs:List ResultVar} {lo:Nat} {r:RV} {k:List XO->Prop} {e:Exit} {s:Y} (h:fin P rs lo r k e s):(e = .normal\/e = .ret)/\∃y,ares P rs s.sl (dens s.h)=some y/\qJW s.h lo y (k s.h) r:=by
 obtain⟨sl,hp,tch,an⟩:=s;simp only[fin]at h;split at h
 ·split at h
  ·rename_i y hy
   rw[dD]at h;exact⟨.inl rfl,y,hy,h⟩
  ·exact h.elim
 ·split at h
  ·rename_i y hy
   rw[dD]at h;exact⟨.inr rfl,y,hy,h⟩
  ·exact h.elim
 ·exact h.elim
def lC (P:Program) (T:Tbl) (fl:List (Nat×Nat×Nat)) (I:List Nat):Nat->FuncId->List V->Y->(V->Y->Prop)->Prop
 |0,_,_,_,_=>False
 |n+1,f,args,s,K=>match I.contains f with
  |true=>(match P.funcs[f]? with
   |some fn=>(match fn.body with
    |some c=>(match s with
     |⟨sl0,h,tch,an⟩=>fVs (args++gh (fn.ntmps-args.length) (.v undef)) fun sl=>fN h.length fun n0=>xcode ⟨P,T,n0,f,fl,lC P T fl I n⟩ c ⟨sl,h,tch,an⟩ fun e s'=>(match s' with
      |⟨sl',h',tch',an'⟩=>match e with
       | .normal=>(match ares P fn.results.toList sl' (dens h')with
         |some y=>fV y fun y=>K y ⟨sl0,h',tch',an⟩
         |none=>False)
       | .ret=>(match ares P fn.results.toList sl' (dens h')with
         |some y=>fV y fun y=>K y ⟨sl0,h',tch',an⟩
         |none=>False)
       |_=>False))
    |none=>False)
   |none=>False)
  |false=>False
theorem iS {P:Program} {T:Tbl} (hT:aD P T) (hM:P.follows .mixedOrders=true) (fl:List (Nat×Nat×Nat)) (I:List Nat):∀(m n0 fid:Nat),tK ⟨P,T,n0,fid,fl,lC P T fl I m⟩
 |0,n0,fid=>fun f args s K h=>h.elim
 |m+1,n0,fid=>fun f args s K h=>by
  simp only[lC]at h;split at h
  ·split at h
   ·rename_i fn hf
    split at h
    ·rename_i c hb
     obtain⟨sl0,hp,tch,an⟩:=s;(try simp only at h);rw[kM,iD]at h;refine PC.of_bodyV hf hb _ rfl (fun K0 hK=>?_);have hw:=jJ (E:=⟨P,T,hp.length,f,fl,lC P T fl I m⟩) hT hM (iS hT hM fl I m _ _) c _ _ h;rw[eD];refine PV.mono hw ?_;rintro e st ⟨⟨sl',h',tch',an'⟩,rfl,h1,h2⟩;(try simp only at h1);split at h1
     ·split at h1
      ·rename_i y hy
       rw[dD]at h1;exact hK _ _ y (.inl rfl) hy ⟨⟨sl0,h',tch',an⟩,rfl,rfl,⟨h2.fr.len,h2.fr.tch,h2.fr.h⟩,h1⟩
      ·exact h1.elim
     ·split at h1
      ·rename_i y hy
       rw[dD]at h1;exact hK _ _ y (.inr rfl) hy ⟨⟨sl0,h',tch',an⟩,rfl,rfl,⟨h2.fr.len,h2.fr.tch,h2.fr.h⟩,h1⟩
      ·exact h1.elim
     ·exact h1.elim
    ·exact h.elim
   ·exact h.elim
  ·exact h.elim
theorem aH.fn {P:Program} {T:Tbl} {f:FuncId} {fn:Func} {c:Code} {ps:List Ty} {pre:Option (Cu ps Prop)} {res:Cu ps RV} (hT:aD P T) (hM:P.follows .mixedOrders=true) (fl:List (Nat×Nat×Nat)) (I:List Nat)
  (hf:P.funcs[f]? =some fn) (hb:fn.body=some c)
  (h:∀x:Tup ps,(∀p,pre=some p->cu ps p x)->∃an:List (Nat×Nat×LA),fVs (vals ps x++gh (fn.ntmps-ps.length) (.v undef)) fun sl=>xcode ⟨P,T,0,0,fl,lC P T fl I 4⟩ c ⟨sl,[],[],an⟩ (fin P fn.results.toList 0 (cu ps res x) fun _=>True)):aH P f (.fn ps pre res):=by
 intro x hx;have hlen:=Tup.len ps x;refine⟨fun p hp=>(by cases hp),fun k _=>?_⟩;refine PC.mono (PC.frame (x0:=(cu ps res x).val) (Tup.ni 0 ps x) ?_ k) (fun y k' ⟨h1,h2⟩=>⟨h1,h2⟩);obtain⟨an,hw⟩:=h x hx;rw[kM]at hw;refine PC.of_bodyV hf hb _ rfl (fun K hK=>?_);rw[hlen];have hw:=jJ (E:=⟨P,T,0,0,fl,lC P T fl I 4⟩) hT hM (iS hT hM fl I 4 _ _) c _ _ hw;refine PV.mono hw ?_;rintro e st ⟨s',rfl,h1,_⟩;obtain⟨he,y,hy,hc⟩:=IS h1;exact hK e _ y he hy (yW (τ:=zO) (fun _ _=>rfl) hc).1
theorem aH.rd {P:Program} {T:Tbl} {f:FuncId} {fn:Func} {c:Code} {t:Ty} {ps:List Ty} {pre:Option (t.den->Cu ps Prop)} {res:t.den->Cu ps RV} (hT:aD P T) (hM:P.follows .mixedOrders=true) (fl:List (Nat×Nat×Nat)) (I:List Nat)
  (hf:P.funcs[f]? =some fn) (hb:fn.body=some c)
  (h:∀a (x:Tup ps),(∀p,pre=some p->cu ps (p a) x)->∃an:List (Nat×Nat×LA),fVs (.pF (t.row a) 0::vals ps x++gh (fn.ntmps-(1+ps.length)) (.v undef)) fun sl=>xcode ⟨P,T,0,0,fl,lC P T fl I 4⟩ c ⟨sl,[],[],an⟩ (fin P fn.results.toList 0 (cu ps (res a) x) fun _=>True)):aH P f (.rd t ps pre res):=by
 intro a x hx;have hlen:=Tup.len ps x;refine⟨fun p hp=>(by cases hp),fun k _=>?_⟩;refine PC.mono (PC.frame (x0:=(cu ps (res a) x).val) (fun v hv=>?_) ?_ k) (fun y k' ⟨h1,h2⟩=>⟨h1,h2⟩)
 ·rcases gf.1 hv with q|q
  ·subst q;exact .pF 0 (t.nis 0 a [] (by intro _ h;cases h))
  ·exact Tup.ni 0 ps x v q
 obtain⟨an,hw⟩:=h a x hx;rw[kM]at hw;refine PC.of_bodyV hf hb _ rfl (fun K hK=>?_);have hl2:(V.pF (t.row a) 0::vals ps x).length=1+ps.length:=by simp [hlen];omega
 rw[hl2];have hw:=jJ (E:=⟨P,T,0,0,fl,lC P T fl I 4⟩) hT hM (iS hT hM fl I 4 _ _) c _ _ hw;refine PV.mono hw ?_;rintro e st ⟨s',rfl,h1,_⟩;obtain⟨he,y,hy,hc⟩:=IS h1;exact hK e _ y he hy (yW (τ:=zO) (fun _ _=>rfl) hc).1
def qYF (t:Ty) (e:TypeId) (b:t.den) (h:List XO):Prop:=match h with
 | .raw s::_=>(match s with
   | .live o=>if o.sz=t.size/\o.elem=e then(match o.rows with
     | [r]=>match un (rdH h 1) t r with
       |some (a,[])=>needs (r.flatMap (fZ h)) (Leaf (a=b)/\True)
       |_=>False
     |_=>False)else False
   |_=>False)
 | .ob _ a e'::_=>if e'=e then(match qEB (t':=t) a with
   |some a=>Leaf (a=b)/\True
   |_=>False)else False
 |_=>False
theorem qTL {t:Ty} {e:TypeId} {b:t.den} {h:List XO} {τ:Nat->Option Nat} (hτ:∀id,1<=id->τ id=none) (q:qYF t e b h):∃o,(dens h)[0]? =some (.live o)/\FrzO τ (dens h) o ⟨t.size,[t.row b],e⟩:=by
 unfold qYF at q;split at q
 ·split at q
  ·rename_i r _ o
   split at q
   ·rename_i hsz
    split at q
    ·rename_i r0 hr
     split at q
     ·rename_i a ha
      obtain⟨hc,⟨rfl⟩,_⟩:=bR q;refine⟨o,rfl,⟨hsz.1.symm,hsz.2.symm,by rw[hr];rfl,fun i r1 r2 h1 h2=>?_⟩⟩;rw[hr]at h1;cases i with
      |zero=>
       simp at h1 h2;subst h1 h2;obtain⟨u1,u2⟩:=oJ (R:=fun x y=>dK (fZ (.raw (.live o)::r) x)->Frz τ (dens (.raw (.live o)::r)) x y) (fun x t l e hc=>qFT hτ e hc) (fun x _=>Frz.tree (.v x)) ha;refine⟨u1,fun j x y hx hy=>u2 j x y hx hy fun c hc'=>hc c (List.mem_flatMap.2 ⟨x,cD hx,hc'⟩)⟩
      |succ i=>simp at h1
     ·exact q.elim
    ·exact q.elim
   ·exact q.elim
  ·exact q.elim
 ·rename_i t0 l e' r
  split at q
  ·rename_i he
   subst he;split at q
   ·rename_i a ha
    obtain⟨⟨rfl⟩,_⟩:=q;obtain⟨et,el⟩:=VQ ha;subst et;subst el;exact⟨_,rfl,FrzO.tree (Ty.nir 0 _ [_])⟩
   ·exact q.elim
  ·exact q.elim
 ·exact q.elim
theorem aH.meth {P:Program} {T:Tbl} {f:FuncId} {fn:Func} {c:Code} {t:Ty} {el:TypeId} {ps:List Ty} {pre:Option (t.den->Cu ps Prop)} {res:t.den->Cu ps RV} {post:t.den->Cu ps t.den} (hT:aD P T) (hM:P.follows .mixedOrders=true) (fl:List (Nat×Nat×Nat)) (I:List Nat)
  (hf:P.funcs[f]? =some fn) (hb:fn.body=some c)
  (h:∀a (x:Tup ps),(∀p,pre=some p->cu ps (p a) x)->∃an:List (Nat×Nat×LA),fVs (.pO 0 0 0::vals ps x++gh (fn.ntmps-(1+ps.length)) (.v undef)) fun sl=>fH [.ob t a el] fun h=>xcode ⟨P,T,1,0,fl,lC P T fl I 4⟩ c ⟨sl,h,[],an⟩
    (fin P fn.results.toList 1 (cu ps (res a) x) (qYF t el (cu ps (post a) x)))):aH P f (.meth t el ps pre res post):=by
 intro a x hx j;have hlen:=Tup.len ps x;refine⟨fun p hp=>?_,fun k hk=>?_⟩
 ·simp at hp;subst hp;simp
 have hj:k[j]? =some (TG t el a):=hk (j,TG t el a) sm;have hup:∀id,1<=id->up [j] id=none:=fun id hid=>by simp [up];omega
 have hrow:∀b:t.den,NIr 0 [t.row b]:=fun b r hr=>by simp at hr;subst hr;exact t.nis 0 b [] (by intro _ h;cases h)
 refine PC.mono (PC.lift (S:=[j]) (h0:=[TG t el a]) (post:=[⟨t.size,[t.row (cu ps (post a) x)],el⟩]) (args0:=.pO 0 0 0::vals ps x) (x0:=(cu ps (res a) x).val) sm rfl rfl ?_ ?_ ?_) (fun y k' ⟨h1,h2⟩=>⟨h1,h2⟩)
 ·intro i id hi
  match i,hi with
  |0,hi=>
   simp at hi;subst hi;exact⟨_,_,hj,rfl,FrzO.tree (hrow a)⟩
  |i+1,hi=>simp at hi
 ·refine⟨rfl,fun i v v' h1 h2=>?_⟩
  match i,h1,h2 with
  |0,h1,h2=>
   simp at h1 h2;subst h1 h2;intro w ι M ι₂ M₂ cv y r;cases r with
   |pO _ _ _ l hl=>exact .pO _ _ _ l (cv.keep j 0 l (by simp [down,List.idxOf?,List.findIdx?_cons]) hl)
  |i+1,h1,h2=>
   have h1:(vals ps x)[i]? =some v:=h1;have h2:(vals ps x)[i]? =some v':=h2;rw[h1]at h2;injection h2 with h2;subst h2;intro w ι M ι₂ M₂ cv y r;exact Frz.tree (τ:=down [j]) (h:=[]) (Tup.ni 0 ps x v (cD h1)) cv r
 ·obtain⟨an,hw⟩:=h a x hx
  rw[kM,eQ]at hw;refine PC.of_bodyV hf hb _ rfl (fun K hK=>?_);have hl2:(V.pO 0 0 0::vals ps x).length=1+ps.length:=by simp [hlen];omega
  rw[hl2];have hw:=jJ (E:=⟨P,T,1,0,fl,lC P T fl I 4⟩) hT hM (iS hT hM fl I 4 _ _) c _ _ hw;refine PV.mono hw ?_;rintro e st ⟨s',rfl,h1,_⟩;obtain⟨he,y,hy,hc⟩:=IS h1;obtain⟨hc,ho⟩:=yW (lo:=1) hup hc;refine hK e _ y he hy ⟨hc,fun i c hi=>?_⟩;match i,hi with
  |0,hi=>
   simp at hi;subst hi;obtain⟨o,o1,o2⟩:=qTL hup ho;exact⟨o,o1,o2⟩
  |i+1,hi=>simp at hi
def qYE (P:Program) (rs:List ResultVar) (t:Ty) (el:TypeId) (b:t.den) (e:Exit) (s:Y):Prop:=
 match s with
 |⟨sl,h,_,_⟩=>match e with
  | .normal=>False
  | .ret=>(match ares P rs sl (dens h)with
    |some y=>(match y with
     | .pO i 0 0=>match h[i]? with
       |some o=>(match LP t el o with
        |some a=>Leaf (a=b)/\True
        |none=>False)
       |none=>False
     |_=>False)
    |none=>False)
  |_=>False
theorem qTK {P:Program} {rs:List ResultVar} {t:Ty} {el:TypeId} {b:t.den} {e:Exit} {s:Y} (h:qYE P rs t el b e s):(e = .normal\/e = .ret)/\∃i,ares P rs s.sl (dens s.h)=some (.pO i 0 0)/\∃o,s.h[i]? =some o/\LP t el o=some b:=by
 obtain⟨sl,hp,tch,an⟩:=s;simp only[qYE]at h;split at h
 ·exact h.elim
 ·split at h
  ·rename_i y hy
   split at h
   ·rename_i i
    split at h
    ·rename_i o ho
     split at h
     ·rename_i a ha
      obtain⟨⟨rfl⟩,_⟩:=h;exact⟨.inr rfl,i,hy,o,ho,ha⟩
     ·exact h.elim
    ·exact h.elim
   ·exact h.elim
  ·exact h.elim
 ·exact h.elim
theorem aH.new {P:Program} {T:Tbl} {f:FuncId} {fn:Func} {c:Code} {t:Ty} {el:TypeId} {ps:List Ty} {pre:Option (Cu ps Prop)} {post:Cu ps t.den} (hT:aD P T) (hM:P.follows .mixedOrders=true) (fl:List (Nat×Nat×Nat)) (I:List Nat)
  (hf:P.funcs[f]? =some fn) (hb:fn.body=some c)
  (h:∀x:Tup ps,(∀p,pre=some p->cu ps p x)->∃an:List (Nat×Nat×LA),fVs (vals ps x++gh (fn.ntmps-ps.length) (.v undef)) fun sl=>xcode ⟨P,T,0,0,fl,lC P T fl I 4⟩ c ⟨sl,[],[],an⟩ (qYE P fn.results.toList t el (cu ps post x))):aH P f (.new t el ps pre post):=by
 intro x hx k new k' hh;have hlen:=Tup.len ps x;refine PC.newObj (Tup.ni 0 ps x) (o:=⟨t.size,[t.row (cu ps post x)],el⟩) (t.nir 0 [cu ps post x]) ?_ hh;obtain⟨an,hw⟩:=h x hx;rw[kM]at hw;refine PC.of_bodyV hf hb _ rfl (fun K hK=>?_);rw[hlen];have hw:=jJ (E:=⟨P,T,0,0,fl,lC P T fl I 4⟩) hT hM (iS hT hM fl I 4 _ _) c _ _ hw;refine PV.mono hw ?_;rintro e st ⟨s',rfl,h1,_⟩;obtain⟨he,i,hy,o,ho,hr⟩:=qTK h1;obtain⟨c0,o1,o2,o3,o4,o5⟩:=FL hr;exact hK e _ _ he hy ⟨i,c0,rfl,by rw[Y.den,aJ,ho];simp [o1],o2,o3,o4,o5⟩
theorem aK {p q:Prop} (h:Leaf p) (a:q):Leaf p/\q:=⟨h,a⟩
theorem bL {p:Prop} [d:Decidable p] {A:Prop} (h:Side p) (a:A):(@decide p d)=true/\A:=⟨decide_eq_true h.out,a⟩
theorem bK {k:IntKind} {n:Int} {A:Prop} (h:Side (loK k<=n/\n<=hiK k)) (a:A):inR k n=true/\A:=⟨decide_eq_true h.out,a⟩
theorem aU {p q:Prop} (h:Side p) (a:q):p/\q:=⟨h.out,a⟩
theorem aL {p q:Prop} (h:Side p) (a:q):Side p/\q:=⟨h,a⟩
theorem aM {c:Bool} {q:Prop} (h:c=true) (a:q):Kern c/\q:=⟨⟨h⟩,a⟩
theorem aN {q:Prop} (a:q):True/\q:=⟨trivial,a⟩
theorem bH {c:Bool} {A B:Prop} (h1:c=true->A) (h2:c=false->B):@Bool.rec (fun _=>Prop) B A c:=by cases c;exact h2 rfl;exact h1 rfl
theorem aV {p:Prop} [d:Decidable p] {A B:Prop} (h1:p->A) (h2:¬p->B):@Bool.rec (fun _=>Prop) B A (@decide p d):=bH (fun q=>h1 (of_decide_eq_true q)) (fun q=>h2 (of_decide_eq_false q))
theorem aW {p:Prop} [d:Decidable p] {A B:Prop} (h1:p->B) (h2:¬p->A):@Bool.rec (fun _=>Prop) B A (!(@decide p d)):=bH (fun q=>h2 (by simpa using q)) (fun q=>h1 (by simpa using q))
open Go.Sort
theorem HRel.grownS {h:Heap} {ι:Iota} {w:World} (H:HRel h ι w) (os:Array Obj):HRel h ι (grow w os)/\Evolve h ι w h ι (grow w os):=by
 have hsz:w.heap.size<=(grow w os).heap.size:=by simp [grow]
 have hget:∀b,b<w.heap.size->(grow w os).heap[b]? =w.heap[b]?:=fun b hb=>by simp [grow,Array.getElem?_append_left hb]
 have hlt:∀ {b:Nat} {x:Obj},w.heap[b]? =some x->b<w.heap.size:=fun{b x} q=>by
  rcases Nat.lt_or_ge b w.heap.size with p|p
  ·exact p
  ·rw[gj p]at q;cases q
 have ev:Evolve h ι w h ι (grow w os):=⟨rfl,rfl,rfl,hsz,fun _ _ q=>q,rfl,fun b hb hm=>⟨hget b hb,hm⟩,fun b c _ fr hb=>⟨c,fr,(hget b (hlt hb)).trans hb,rfl⟩⟩
 refine⟨⟨fun k x hx=>?_,H.free,H.out,H.apart,fun b hb=>gt (H.xlt b hb) hsz,fun b hb=>(ev.frame b (H.xlt b hb) (H.xob b hb)).2⟩,ev⟩;obtain⟨l2,c2,fr2,h1,la2⟩:=H.live k x hx;exact⟨l2,c2,fr2,h1,⟨(hget _ (hlt la2.blk)).trans la2.blk,la2.unfrozen,la2.sz,la2.rows,la2.fits,fun i hi j hj=>let ⟨y,q1,q2⟩:=la2.reads i hi j hj;⟨y,q1,q2.mono ev⟩⟩⟩
theorem qCZ {α:Type} [Inhabited α] (enc:α->Value) (w:World) (blk off:Nat) (d:Array α) {c:Array Value} {e:TypeId} {fr:Nat×Nat} (hb:w.heap[blk]? =some (.cells c e fr)) :
  SameBut w (putRow enc w blk off d) blk/\(putRow enc w blk off d).heap[blk]? =some (.cells (putCells enc off d c) e fr):=by
 refine⟨⟨rfl,rfl,rfl,by simp [putRow,mapBlock],fun k hk=>?_⟩,?_⟩
 ·simp only[putRow,mapBlock,ka,if_neg (Ne.symm hk)]
 ·simp only[putRow,mapBlock,ka,if_true,hb,km,onCells]
theorem QH {P:Program} {f:FuncId} {pre:List ByteArray->Prop} {g:List ByteArray->List ByteArray} {ret:Bool} (hlen:ret=false->∀l,(g l).length=l.length) (hle:∀l,(g l).length<=l.length) (hnil:g []= []) (hcons:∀l,l≠ []->g l≠ [])
  (hnone:∀w,Calls P f #[.slice none 0 0] w fun e w'=>e = .returned (if ret=true then .slice none 0 0 else .tuple #[])/\w'=w)
  (hsome:∀(blk off cap:Nat) (zs:List ByteArray) (w:World),pre zs->Holds (Value.string) w blk off zs.toArray->blk<w.heap.size->zs.length<=cap->Calls P f #[.slice (some ⟨blk,off,none⟩) zs.length cap] w fun e w'=>
    e = .returned (if ret=true then .slice (some ⟨blk,off,none⟩) (g zs).length cap else .tuple #[])/\∃n os,∃d:List ByteArray,d.length=zs.length/\d.take (g zs).length=g zs/\w'=grow (putRow (Value.string) (Sort.ahead w n) blk off d.toArray) os) :
  SrtOk P f .str pre g ret where
 len:=hlen
 nil:=hnil
 cons:=hcons
 none:=by
  intro k ι w vals hp H;obtain⟨hl,hv⟩:=hp;obtain⟨y,y1,y2⟩:=hv 0 _ rfl;cases y2;have hvals:vals = #[.slice none 0 0]:=by
   apply go;intro i;cases i with
   |zero=>rw[y1];rfl
   |succ i=>rw[gj (by rw[<-hl];simp),gj sm]
  rw[hvals];refine(hnone w).mono ?_;rintro e w' ⟨rfl,rfl⟩;refine⟨_,_,k,ι,rfl,⟨rfl,rfl⟩,?_,H,Evolve.refl _ _ _⟩;cases ret with
  |true=>exact .v _
  |false=>exact .tup [] #[] rfl (fun i h=>by simp at h)
 some:=by
  intro zs hpre k id el hk ι w vals hp H;obtain⟨hl,hv⟩:=hp;obtain⟨y,y1,y2⟩:=hv 0 _ rfl;obtain⟨l,c,fr,hι,la⟩:=H.live id _ hk;cases y2 with
  |sO _ _ _ cap l2 c2 e2 fr2 hl2 hcap hb2 hsz2=>
   rw[hι]at hl2;injection hl2 with hl2;subst hl2;have hls:l.sz=1:=la.sz;have hvals:vals = #[.slice (some ⟨l.blk,l.base+0*l.sz,none⟩) zs.length cap]:=by
    apply go;intro i;cases i with
    |zero=>rw[y1];rfl
    |succ i=>rw[gj (by rw[<-hl];simp),gj sm]
   rw[Nat.zero_mul,Nat.add_zero]at hvals;rw[hvals];have hread:∀j,j<zs.length->c[l.base+j]? =some (.string zs[j]!):=by
    intro j hj;have hj':j<(zs.map (Ty.row .str)).length:=by simpa using hj
    obtain⟨x,x1,x2⟩:=la.reads j hj' 0 (by simp [Ty.row,Ty.cells]);have e:(zs.map (Ty.row .str))[j][0]'(by simp [Ty.row,Ty.cells])=V.v (.string zs[j]!):=by
     simp [Ty.row,Ty.cells,getElem!_pos zs j hj]
    rw[e]at x2;cases x2;have:l.base+j*Ty.str.size+0=l.base+j:=by simp [Ty.size]
    rw[<-this];exact x1
   have hfit:l.base+zs.length<=c.size:=by have:=la.fits;simpa [Ty.size]using this
   have hH:Holds (Value.string) w l.blk l.base zs.toArray:=by
    intro j hj;have hj:j<zs.length:=by simpa using hj
    constructor
    ·simp only[World.cell?,la.blk]
     rw[hread j hj];simp [getElem!_pos zs j hj]
    ·simp only[World.frozen?,la.blk]
     have:=la.unfrozen.at' (l.base+j);dsimp only at this;simp;omega
   have hblk:l.blk<w.heap.size:=H.blk_lt ⟨id,_,l,hk,hι,rfl⟩;refine(hsome l.blk l.base cap zs w hpre hH hblk hcap).mono ?_;rintro e w' ⟨rfl,n,os,d,hd1,hd2,rfl⟩;obtain⟨sb,hb3⟩:=qCZ (Value.string) (Sort.ahead w n) l.blk l.base d.toArray (c:=c) (e:=el) (fr:=fr) la.blk;have sb2:SameBut w (putRow (Value.string) (Sort.ahead w n) l.blk l.base d.toArray) l.blk:=⟨sb.os,sb.tape,sb.output,sb.size,sb.others⟩
   have hgl:=hle zs;have hcell:∀j,j<d.length->(putCells (Value.string) l.base d.toArray c)[l.base+j]? =some (.string d[j]!):=by
    intro j hj;simp only[putCells,Array.getElem?_mapIdx];have hc:l.base+j<c.size:=om
    rw[Array.getElem?_eq_getElem hc];simp only[km];rw[if_pos ⟨om,by simp;omega⟩,show l.base+j-l.base=j by omega];simp [getElem!_pos d j hj]
   obtain⟨H1,ev1⟩:=H.upd hk hι la (o':=⟨Ty.str.size,(g zs).map (Ty.row .str),el⟩) sb2 hb3 (by simp [putCells]) rfl rfl
    (fun r hr=>by obtain⟨x,_,rfl⟩:=gr.1 hr;rfl) (by simp [Ty.size];omega) (fun i hi j hj=>by
      have hi':i<(g zs).length:=by simpa using hi
      have hj0:j=0:=by have:j<1:=by simpa [Ty.row,Ty.cells]using hj
                       omega
      subst hj0;refine⟨.string d[i]!,?_,?_⟩
      ·have:=hcell i om
       have e:l.base+i*Ty.str.size+0=l.base+i:=by simp [Ty.size]
       simpa [e]using this
      ·have e:((g zs).map (Ty.row .str))[i][0]'(by simp [Ty.row,Ty.cells])=V.v (.string d[i]!):=by
         have:d[i]! =(g zs)[i]:=by
          rw[getElem!_pos d i om];have h3:(d.take (g zs).length)[i]? =(g zs)[i]?:=by rw[hd2]
          rw[kh,if_pos hi',gg om,gg hi']at h3;exact Option.some.inj h3
         simp [Ty.row,Ty.cells,this]
       simp only[e];exact .v _)
   obtain⟨H2,ev2⟩:=H1.grownS os;refine⟨_,_,_,ι,rfl,⟨rfl,rfl⟩,?_,H2,ev1.trans ev2⟩;cases hret:ret with
   |true=>
    simp only[if_true];obtain⟨c',fr',g1,g2⟩:=ev1.sizes _ _ _ _ hb2;obtain⟨c3,fr3,g3,g4⟩:=ev2.sizes _ _ _ _ g1;have:=Rep.sO (w:=grow (putRow (Value.string) (Sort.ahead w n) l.blk l.base d.toArray) os) (ι:=ι) (M:=Mt (k.set id (.live ⟨Ty.str.size,(g zs).map (Ty.row .str),el⟩)) ι) id 0 (g zs).length cap l c3 e2 fr3 hι om g3 (by rw[g4,g2];exact hsz2);simpa using this
   |false=>
    simp only[if_neg (show ¬(false=true)by decide)];exact .tup [] #[] rfl (fun i h=>by simp at h)
def bsL (l:List ByteArray):List (List UInt8):=l.map fun b=>b.data.toList
def mkB (l:List UInt8):ByteArray:=⟨l.toArray⟩
theorem yG (l:List ByteArray):(bsL l).length=l.length:=by simp [bsL]
theorem qWM (d:List (List UInt8)):bsL (d.map mkB)=d:=by
 unfold bsL;rw[List.map_map];conv=>rhs;rw[<-List.map_id d]
 exact List.map_congr_left fun x _=>by simp [mkB]
theorem WY {w:World} {blk off:Nat} {zs:List ByteArray} (h:Holds Value.string w blk off zs.toArray):Holds Proofs.encStr w blk off (bsL zs).toArray:=by
 intro j hj;have hj2:j<zs.length:=by simpa [bsL]using hj
 obtain⟨h1,h2⟩:=h j (by simpa using hj2);refine⟨?_,h2⟩;rw[h1];have e1:(zs.toArray)[j]! =zs[j]:=by rw[getElem!_pos _ j (by simpa using hj2)];simp
 have e2:((bsL zs).toArray)[j]! =zs[j].data.toList:=by rw[getElem!_pos _ j hj];simp [bsL]
 rw[e1,e2]
theorem PN (w:World) (blk off:Nat) (d:List (List UInt8)):putRow Proofs.encStr w blk off d.toArray=putRow Value.string w blk off (d.map mkB).toArray:=by
 have e:putCells Proofs.encStr off d.toArray=putCells Value.string off (d.map mkB).toArray:=by
  funext c
  unfold putCells;congr 1
  funext k x
  have hs:(d.map mkB).toArray.size=d.toArray.size:=sm
  rw[hs];by_cases h:off<=k/\k<off+d.toArray.size
  ·rw[if_pos h,if_pos h]
   have hk:k-off<d.toArray.size:=om
   rw[getElem!_pos d.toArray (k-off) hk,getElem!_pos (d.map mkB).toArray (k-off) (by rw[hs];exact hk)];simp [mkB]
  ·rw[if_neg h,if_neg h]
 unfold putRow;rw[e]
def jU (l:List ByteArray):List ByteArray:=((bsL l).mergeSort fun x y=>decide (x<=y)).map mkB
def oK (l:List ByteArray):List ByteArray:=(Lib.compact (bsL l)).map mkB
theorem pM (l:List ByteArray):(jU l).length=l.length:=by simp [jU,List.length_mergeSort,bsL]
theorem VX (l:List ByteArray):(oK l).length<=l.length:=by
 unfold oK Lib.compact Lib.compactUpTo;rw[List.length_map,List.length_map];exact Nat.le_trans (List.length_filter_le _ _) (by simp [bsL])
theorem qNV (l:List ByteArray) (h:l≠ []):oK l≠ []:=by
 intro q;have h0:0∈(List.range (bsL l).length).filter (Lib.keeps (bsL l).toArray):=by
  rw[List.mem_filter];refine⟨?_,by simp [Lib.keeps]⟩;have:=List.length_pos_iff.2 h;simpa [bsL]using this
 unfold oK Lib.compact Lib.compactUpTo at q;rw[ke,ke]at q;rw[q]at h0;cases h0
theorem qQ8 {P:Program} {f:FuncId} (hnone:∀w,Calls P f #[.slice none 0 0] w fun e w'=>e = .returned (.tuple #[])/\w'=w)
  (hsome:∀(blk off cap:Nat) (ss:List (List UInt8)) (w:World),Holds Proofs.encStr w blk off ss.toArray->blk<w.heap.size->ss.length<4611686018427387904->Calls P f #[.slice (some ⟨blk,off,none⟩) ss.length cap] w fun e w'=>
    e = .returned (.tuple #[])/\∃n os,w'=grow (putRow Proofs.encStr (Sort.ahead w n) blk off (ss.mergeSort fun x y=>decide (x<=y)).toArray) os) :
  aH P f (.srt .str (some fun(l:List ByteArray)=>l.length<4611686018427387904) jU false):=by
 refine QH (fun _=>pM) (fun l=>Nat.le_of_eq (pM l)) (by simp [jU,bsL]) (fun l h q=>h ?_) (fun w=>?_) (fun blk off cap zs w hp hH hb hc=>?_)
 ·have:=pM l
  rw[q]at this;exact gx.1 this.symm
 ·refine(hnone w).mono ?_
  rintro e w' ⟨rfl,rfl⟩;exact⟨rfl,rfl⟩
 ·have hs:=hsome blk off cap (bsL zs) w (WY hH) hb (by rw[yG];exact hp _ rfl)
  rw[yG]at hs;refine hs.mono ?_;rintro e w' ⟨rfl,n,os,rfl⟩;refine⟨rfl,n,os,jU zs,pM zs,List.take_of_length_le (kd _),?_⟩;rw[PN];rfl
theorem qNW {P:Program} {f:FuncId} (hnone:∀(a:Option Addr) (cap:Nat) (w:World),Calls P f #[.slice a 0 cap] w fun e w'=>e = .returned (.slice a 0 cap)/\w'=w)
  (hsome:∀(blk off cap:Nat) (zs:List (List UInt8)) (w:World),Holds Proofs.encStr w blk off zs.toArray->zs.length<=9223372036854775807->zs.length<=cap->Calls P f #[.slice (some ⟨blk,off,none⟩) zs.length cap] w fun e w'=>
    e = .returned (.slice (some ⟨blk,off,none⟩) (Lib.compact zs).length cap)/\∃q,w'=putRow Proofs.encStr (Sort.ahead w q) blk off (Lib.compact zs++gh (zs.length-(Lib.compact zs).length) []).toArray) :
  aH P f (.srt .str (some fun(l:List ByteArray)=>l.length<=9223372036854775807) oK true):=by
 refine QH (fun h=>(by cases h)) VX rfl qNV (fun w=>?_) (fun blk off cap zs w hp hH hb hc=>?_)
 ·refine(hnone none 0 w).mono ?_
  rintro e w' ⟨rfl,rfl⟩;exact⟨rfl,rfl⟩
 ·have hs:=hsome blk off cap (bsL zs) w (WY hH) (by rw[yG];exact hp _ rfl) (by rw[yG];exact hc)
  rw[yG]at hs;refine hs.mono ?_;rintro e w' ⟨rfl,n,rfl⟩;have hle:=VX zs;have hl:(oK zs).length=(Lib.compact (bsL zs)).length:=by simp [oK]
  refine⟨by rw[hl];rfl,n,#[],oK zs++gh (zs.length-(oK zs).length) (mkB []),by simp;omega,sm,?_⟩;rw[PN,List.map_append,List.map_replicate,hl,grow_empty];rfl
def bsI (l:List ByteArray) (x:ByteArray):Int:=(Lib.bsGo (fun t=>Op.bytesLess (l[t]!).toList x.toList) l.length 0 l.length:Nat)
def bsB (l:List ByteArray) (x:ByteArray):Bool:=decide (Lib.bsGo (fun t=>Op.bytesLess (l[t]!).toList x.toList) l.length 0 l.length<l.length/\l[Lib.bsGo (fun t=>Op.bytesLess (l[t]!).toList x.toList) l.length 0 l.length]! =x)
theorem qaJ {P:Program} {f:FuncId} (hnil:∀(a:Option Addr) (c:Nat) (x:ByteArray) (w:World),Calls P f #[.slice a 0 c,.string x] w fun e w'=>e = .returned (.tuple #[.int .i64 0,.bool false])/\w'=w)
  (hsome:∀(b off n c:Nat) (Sx:Nat->ByteArray) (x:ByteArray) (w:World),n<4611686018427387904->(∀j,j<n->w.cell? ⟨b,off+j,none⟩=some (.string (Sx j))) ->
    Calls P f #[.slice (some ⟨b,off,none⟩) n c,.string x] w fun e w'=>e = .returned (.tuple #[.int .i64 (Lib.bsGo (fun t=>Op.bytesLess (Sx t).toList x.toList) n 0 n:Nat),.bool (decide (Lib.bsGo (fun t=>Op.bytesLess (Sx t).toList x.toList) n 0 n<n/\Sx (Lib.bsGo (fun t=>Op.bytesLess (Sx t).toList x.toList) n 0 n)=x))])/\∃q,w'=w.drewN q) :
  aH P f (.fn [.list .str,.str] (some fun(l:List ByteArray) (_:ByteArray)=>l.length<4611686018427387904) (fun(l:List ByteArray) (x:ByteArray)=>RV.tup [.int .i64,.bool] (bsI l x,bsB l x,()))):=by
 unfold aH;intro x0 hp;obtain⟨l,x,u⟩:=x0;have hp:l.length<4611686018427387904:=hp _ rfl;refine⟨fun p q=>(by cases q),fun k _=>?_⟩;intro ι w vs hpw H;obtain⟨hl,hv⟩:=hpw;obtain⟨y,y1,y2⟩:=hv 0 _ rfl;obtain⟨z,z1,z2⟩:=hv 1 _ rfl;have hz:z = .string x:=by
  have z3:Rep w ι (Mt k ι) (.v (.string x)) z:=z2;cases z3;rfl
 subst hz;have hvals:vs = #[y,.string x]:=by
  apply go;intro i;match i with
  |0=>rw[y1];rfl
  |1=>rw[z1];rfl
  |i+2=>rw[gj (by rw[<-hl];simp [vals]),gj sm]
 rw[hvals];have fin:∀(n:Nat) (b:Bool) (w':World),(n:Int)=bsI l x->b=bsB l x->Rep w' ι (Mt k ι) (RV.val (RV.tup [.int .i64,.bool] (bsI l x,bsB l x,()))) (.tuple #[.int .i64 n,.bool b]):=by
  intro n b w' h1 h2;subst h2;rw[<-h1];refine .tup _ _ rfl (fun i h h'=>?_);match i with
  |0=>exact .v _
  |1=>exact .v _
  |i+2=>simp [vals]at h;omega
 have y3:Rep w ι (Mt k ι) (.sL .str l) y:=y2;cases y3 with
 |sL _ _ _ r=>
  rcases Nat.eq_zero_or_pos l.length with h0|h0
  ·have hl0:l= []:=gx.1 h0
   subst hl0;have hy:∃a c,y = .slice a 0 c:=by
    cases r with
    |sF _ _ a cap cells _ _ _ _ _=>exact⟨_,_,rfl⟩
    |sN=>exact⟨_,_,rfl⟩
   obtain⟨a,c,rfl⟩:=hy;refine(hnil a c x w).mono ?_;rintro e w' ⟨rfl,rfl⟩;exact⟨_,_,k,ι,rfl,⟨rfl,rfl⟩,fin 0 false w' rfl rfl,H,Evolve.refl _ _ _⟩
  ·have hy:∃b off c,y = .slice (some ⟨b,off,none⟩) l.length c/\∀j,j<l.length->w.cell? ⟨b,off+j,none⟩=some (.string l[j]!):=by
     generalize hR:l.map (Ty.row .str)=R at r;have hRl:R.length=l.length:=by rw[<-hR];simp
     cases r with
     |sF _ _ a cap cells hb hcap hr hc hrep=>
      obtain⟨b1,b2,b3⟩:=hb (by intro q;rw[q]at hRl;simp at hRl;omega);obtain⟨ab,ao,asp⟩:=a;simp only at b1;subst b1;refine⟨ab,ao,cap,by rw[hRl],fun j hj=>?_⟩;have hj2:j<R.length:=om
      have hrow:R[j]= [V.v (.string l[j]!)]:=by
       subst hR;simp [Ty.row,Ty.cells,getElem!_pos l j hj]
      have hj0:0<R[j].length:=by rw[hrow];simp
      have g1:=hc j hj2 0 hj0;have g2:=hrep j hj2 0 hj0;have g3:R[j][0]=V.v (.string l[j]!):=by simp [hrow]
      rw[g3]at g2;generalize hcj:cells j 0=cj at g1 g2;cases g2;simpa [Ty.size]using g1
     |sN=>simp at hRl;omega
   obtain⟨b,off,c,rfl,hcell⟩:=hy;refine(hsome b off l.length c (fun j=>l[j]!) x w hp hcell).mono ?_;rintro e w' ⟨rfl,q,rfl⟩;obtain⟨H1,ev1⟩:=H.drawn (w.drawn+q);exact⟨_,_,k,ι,rfl,⟨rfl,rfl⟩,fin _ _ _ rfl rfl,H1,ev1⟩
theorem qYX {P:Program} {f:FuncId} (h:∀(x:Int) (w:World),0<=x->x<=18446744073709551615->Calls P f #[.int .u64 x] w fun e w'=>e = .returned (.int .i64 (Lib.bitLen x.toNat))/\w'=w) :
  aH P f (.fn [.int .u64] (some fun(x:Int)=>0<=x/\x<=18446744073709551615) (fun(x:Int)=>RV.d (.int .i64) ((Lib.bitLen x.toNat:Nat):Int))):=by
 unfold aH;intro x0 hp;obtain⟨x,u⟩:=x0;have hp:0<=x/\x<=18446744073709551615:=hp _ rfl;refine⟨fun p q=>(by cases q),fun k _=>?_⟩;intro ι w vs hpw H;obtain⟨hl,hv⟩:=hpw;obtain⟨y,y1,y2⟩:=hv 0 _ rfl;have hy:y = .int .u64 x:=by
  have y3:Rep w ι (Mt k ι) (.v (.int .u64 x)) y:=y2;cases y3;rfl
 subst hy;have hvals:vs = #[.int .u64 x]:=by
  apply go;intro i;match i with
  |0=>rw[y1];rfl
  |i+1=>rw[gj (by rw[<-hl];simp [vals]),gj sm]
 rw[hvals];refine(h x w hp.1 hp.2).mono ?_;rintro e w' ⟨rfl,rfl⟩;exact⟨_,_,k,ι,rfl,⟨rfl,rfl⟩,.v _,H,Evolve.refl _ _ _⟩
end Go.Abs
namespace Go.Proofs
open Go.Shelf
def Tryz.lays190_ren:Go.Shelf.Ren:=⟨fun|190=>204|125=>222|258=>221|128=>241|129=>220|302=>233|303=>234|304=>235|305=>236|306=>237|307=>238|308=>223|309=>239|310=>240|333=>244|329=>245|330=>246|334=>247|335=>248|336=>185|344=>249|n=>n,fun|31=>176|9=>9|3=>3|46=>94|0=>0|51=>80|53=>86|4=>4|183=>248|182=>247|131=>195|5=>5|218=>254|222=>258|228=>262|229=>263|n=>n,fun|n=>n⟩
theorem Tryz.lays190:Go.Proofs.Lays.n190 Tryz.prog Tryz.lays190_ren:={
 mixed:=by kernel_rfl
 f125:=Tryz.func222.trans (congrArg some (by kernel_rfl))
 f128:=Tryz.func241.trans (congrArg some (by kernel_rfl))
 f129:=Tryz.func220.trans (congrArg some (by kernel_rfl))
 f190:=Tryz.func204.trans (congrArg some (by kernel_rfl))
 f258:=Tryz.func221.trans (congrArg some (by kernel_rfl))
 f302:=Tryz.func233.trans (congrArg some (by kernel_rfl))
 f303:=Tryz.func234.trans (congrArg some (by kernel_rfl))
 f304:=Tryz.func235.trans (congrArg some (by kernel_rfl))
 f305:=Tryz.func236.trans (congrArg some (by kernel_rfl))
 f306:=Tryz.func237.trans (congrArg some (by kernel_rfl))
 f307:=Tryz.func238.trans (congrArg some (by kernel_rfl))
 f308:=Tryz.func223.trans (congrArg some (by kernel_rfl))
 f309:=Tryz.func239.trans (congrArg some (by kernel_rfl))
 f310:=Tryz.func240.trans (congrArg some (by kernel_rfl))
 f329:=Tryz.func245.trans (congrArg some (by kernel_rfl))
 f330:=Tryz.func246.trans (congrArg some (by kernel_rfl))
 f333:=Tryz.func244.trans (congrArg some (by kernel_rfl))
 f334:=Tryz.func247.trans (congrArg some (by kernel_rfl))
 f335:=Tryz.func248.trans (congrArg some (by kernel_rfl))
 f336:=Tryz.func185.trans (congrArg some (by kernel_rfl))
 f344:=Tryz.func249.trans (congrArg some (by kernel_rfl))
 t0:=Tryz.underlying0
 a0:=Tryz.isAgg0
 z0:=Tryz.sizeOf0
 v0:=Tryz.zeroValue0
 t3:=Tryz.underlying3
 a3:=Tryz.isAgg3
 z3:=Tryz.sizeOf3
 v3:=Tryz.zeroValue3
 t4:=Tryz.underlying4
 a4:=Tryz.isAgg4
 z4:=Tryz.sizeOf4
 v4:=Tryz.zeroValue4
 t5:=Tryz.underlying5
 a5:=Tryz.isAgg5
 z5:=Tryz.sizeOf5
 v5:=Tryz.zeroValue5
 t9:=Tryz.underlying9
 a9:=Tryz.isAgg9
 z9:=Tryz.sizeOf9
 v9:=Tryz.zeroValue9
 t31:=Tryz.underlying176
 a31:=Tryz.isAgg176
 z31:=Tryz.sizeOf176
 v31:=Tryz.zeroValue176
 t46:=Tryz.underlying94
 a46:=Tryz.isAgg94
 z46:=Tryz.sizeOf94
 v46:=Tryz.zeroValue94
 t51:=Tryz.underlying80
 a51:=Tryz.isAgg80
 z51:=Tryz.sizeOf80
 v51:=Tryz.zeroValue80
 t53:=Tryz.underlying86
 a53:=Tryz.isAgg86
 z53:=Tryz.sizeOf86
 v53:=Tryz.zeroValue86
 t131:=Tryz.underlying195
 a131:=Tryz.isAgg195
 z131:=Tryz.sizeOf195
 v131:=Tryz.zeroValue195
 t182:=Tryz.underlying247
 a182:=Tryz.isAgg247
 z182:=Tryz.sizeOf247
 v182:=Tryz.zeroValue247
 t183:=Tryz.underlying248
 a183:=Tryz.isAgg248
 z183:=Tryz.sizeOf248
 v183:=Tryz.zeroValue248
 t218:=Tryz.underlying254
 a218:=Tryz.isAgg254
 z218:=Tryz.sizeOf254
 v218:=Tryz.zeroValue254
 t222:=Tryz.underlying258
 a222:=Tryz.isAgg258
 z222:=Tryz.sizeOf258
 v222:=Tryz.zeroValue258
 t228:=Tryz.underlying262
 a228:=Tryz.isAgg262
 z228:=Tryz.sizeOf262
 v228:=Tryz.zeroValue262
 t229:=Tryz.underlying263
 a229:=Tryz.isAgg263
 z229:=Tryz.sizeOf263
 v229:=Tryz.zeroValue263}
def Tryz.lays194_ren:Go.Shelf.Ren:=⟨fun|194=>205|n=>n,fun|31=>176|9=>9|3=>3|4=>4|0=>0|n=>n,fun|n=>n⟩
theorem Tryz.lays194:Go.Proofs.Lays.n194 Tryz.prog Tryz.lays194_ren:={
 mixed:=by kernel_rfl
 f194:=Tryz.func205.trans (congrArg some (by kernel_rfl))
 t0:=Tryz.underlying0
 a0:=Tryz.isAgg0
 z0:=Tryz.sizeOf0
 v0:=Tryz.zeroValue0
 t3:=Tryz.underlying3
 a3:=Tryz.isAgg3
 z3:=Tryz.sizeOf3
 v3:=Tryz.zeroValue3
 t4:=Tryz.underlying4
 a4:=Tryz.isAgg4
 z4:=Tryz.sizeOf4
 v4:=Tryz.zeroValue4
 t9:=Tryz.underlying9
 a9:=Tryz.isAgg9
 z9:=Tryz.sizeOf9
 v9:=Tryz.zeroValue9
 t31:=Tryz.underlying176
 a31:=Tryz.isAgg176
 z31:=Tryz.sizeOf176
 v31:=Tryz.zeroValue176}
def Tryz.lays226_ren:Go.Shelf.Ren:=⟨fun|26=>206|33=>223|34=>224|38=>185|n=>n,fun|24=>176|9=>9|3=>3|4=>4|40=>94|0=>0|n=>n,fun|n=>n⟩
theorem Tryz.lays226:Go.Proofs.Lays2.n26 Tryz.prog Tryz.lays226_ren:={
 mixed:=by kernel_rfl
 f26:=Tryz.func206.trans (congrArg some (by kernel_rfl))
 f33:=Tryz.func223.trans (congrArg some (by kernel_rfl))
 f34:=Tryz.func224.trans (congrArg some (by kernel_rfl))
 f38:=Tryz.func185.trans (congrArg some (by kernel_rfl))
 t0:=Tryz.underlying0
 a0:=Tryz.isAgg0
 z0:=Tryz.sizeOf0
 v0:=Tryz.zeroValue0
 t3:=Tryz.underlying3
 a3:=Tryz.isAgg3
 z3:=Tryz.sizeOf3
 v3:=Tryz.zeroValue3
 t4:=Tryz.underlying4
 a4:=Tryz.isAgg4
 z4:=Tryz.sizeOf4
 v4:=Tryz.zeroValue4
 t9:=Tryz.underlying9
 a9:=Tryz.isAgg9
 z9:=Tryz.sizeOf9
 v9:=Tryz.zeroValue9
 t24:=Tryz.underlying176
 a24:=Tryz.isAgg176
 z24:=Tryz.sizeOf176
 v24:=Tryz.zeroValue176
 t40:=Tryz.underlying94
 a40:=Tryz.isAgg94
 z40:=Tryz.sizeOf94
 v40:=Tryz.zeroValue94}
def Tryz.lays129_ren:Go.Shelf.Ren:=⟨fun|129=>220|n=>n,fun|53=>86|3=>3|4=>4|46=>94|5=>5|9=>9|n=>n,fun|n=>n⟩
theorem Tryz.lays129:Go.Proofs.Lays.n129 Tryz.prog Tryz.lays129_ren:={
 mixed:=by kernel_rfl
 f129:=Tryz.func220.trans (congrArg some (by kernel_rfl))
 t3:=Tryz.underlying3
 a3:=Tryz.isAgg3
 z3:=Tryz.sizeOf3
 v3:=Tryz.zeroValue3
 t4:=Tryz.underlying4
 a4:=Tryz.isAgg4
 z4:=Tryz.sizeOf4
 v4:=Tryz.zeroValue4
 t5:=Tryz.underlying5
 a5:=Tryz.isAgg5
 z5:=Tryz.sizeOf5
 v5:=Tryz.zeroValue5
 t9:=Tryz.underlying9
 a9:=Tryz.isAgg9
 z9:=Tryz.sizeOf9
 v9:=Tryz.zeroValue9
 t46:=Tryz.underlying94
 a46:=Tryz.isAgg94
 z46:=Tryz.sizeOf94
 v46:=Tryz.zeroValue94
 t53:=Tryz.underlying86
 a53:=Tryz.isAgg86
 z53:=Tryz.sizeOf86
 v53:=Tryz.zeroValue86}
end Go.Proofs
namespace Go.Proofs.YtcjiefknhfhmkaaGreatDoor
open Go.Abs
set_option maxRecDepth 100000
set_option maxHeartbeats 4000000
set_option linter.unusedVariables false
set_option linter.unusedSimpArgs false
abbrev HP:Ct:=.srt .str (some fun(l:List ByteArray)=>l.length<4611686018427387904) jU false
theorem qQ9:aH Tryz.prog 204 HP:=qQ8 (fun w=>Any.slices_Sort_string_none Tryz.lays190 none 0 w) (fun blk off cap zs w hH hb hs=>Any.slices_Sort_string Tryz.lays190 blk off cap zs w hH hb hs)
abbrev GV:Ct:=.srt .str (some fun(l:List ByteArray)=>l.length<=9223372036854775807) oK true
theorem qNX:aH Tryz.prog 205 GV:=qNW (fun a cap w=>Any.slices_Compact_string_empty Tryz.lays194 a cap w) (fun blk off cap zs w hH hs hc=>Any.slices_Compact_string Tryz.lays194 blk off cap zs w hH hs hc)
abbrev qD8:Ct:=.fn [.list .str,.str] (some fun(l:List ByteArray) (_:ByteArray)=>l.length<4611686018427387904) (fun(l:List ByteArray) (x:ByteArray)=>RV.tup [.int .i64,.bool] (bsI l x,bsB l x,()))
theorem qaK:aH Tryz.prog 206 qD8:=qaJ (fun a c x w=>Any2.slices_BinarySearch_string_empty Tryz.lays226 a c x w) (fun b off n c Sx x w hn hc=>Any2.slices_BinarySearch_string Tryz.lays226 b off n c Sx x w hn hc)
abbrev VD:Ct:=.fn [.int .u64] (some fun(x:Int)=>0<=x/\x<=18446744073709551615) (fun(x:Int)=>RV.d (.int .i64) ((Lib.bitLen x.toNat:Nat):Int))
theorem qYY:aH Tryz.prog 220 VD:=qYX (fun x w h0 h1=>Any.bits_Len64 Tryz.lays129 x w h0 h1)
end Go.Proofs.YtcjiefknhfhmkaaGreatDoor
