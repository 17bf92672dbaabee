import Derived.Shelf.Sort.Plain
import Derived.Shelf.Slices.In.SortNone
import Derived.Shelf.Slices.CompactS
import Derived.Shelf.Spec.SearchS
import Derived.Shelf.Strconv.Itoa0
import Derived.Test.YtcjiefknhfhmkaaGreatDoorRows
import Derived.Test.YtcjiefknhfhmkaaGreatDoorM05
namespace Go.Abs
set_option maxRecDepth 100000
set_option maxHeartbeats 4000000
set_option linter.unusedVariables false
set_option linter.unusedSimpArgs false
theorem MC:∀ {l:List Nat},PR l=true->l.Nodup
 | [],_=>List.nodup_nil
 |x::xs,h=>by
  simp only[PR,Bool.and_eq_true,Bool.not_eq_true',List.contains_eq_mem,decide_eq_false_iff_not]at h;exact List.nodup_cons.2 ⟨h.1,MC h.2⟩
theorem qGH {n:Nat} {σ:List Nat} (h:qKP n σ=true) (j:Nat) (hj:j<n):σ[j]? =some j:=by
 have:=List.all_eq_true.1 h j (by simpa using hj);simpa using this
theorem qUR {t:Ty} {v:V} {a:t.den} (h:un (cH 8) t (dY t v)=some (a,[])):LE v (t.val a):=
 NU (R:=fun a b=>LE a b) (R':=fun a b=>LE a b) (eR 8) (fun _=>LE.refl _) (fun _ _ h=>h) LE.norm_agg h
theorem bX.val {σ:List Nat} {t:Ty} {v:V} {a:t.den} (h:un (cH 8) t (dY t v)=some (a,[])):bX σ v (t.val a):=bX.tree (qUR h) (Ty.ni_val 0 t a)
theorem nS {R:V->V->Prop} {xs:List V} (h:∀x,x∈xs->R x x):Pairs R xs xs:=
 ⟨rfl,fun i x y h1 h2=>by rw[h1]at h2;injection h2 with h2;subst h2;exact h x (bZ h1)⟩
theorem oQ {σ:List Nat}:∀ {n:Nat} {x:V},FR σ n x=true->bX σ x x
 |0,x,h=>by simp [FR]at h
 |n+1,x,h=>by
  have fi:∀ {id:Nat},XX σ id=true->σ[id]? =some id:=fun{id} q=>by simpa [XX]using q
  cases x with
  |v x=>exact bX.tree (LE.refl _) (.v _)
  |any=>exact bX.any _ _
  |pO id r o=>exact bX.pO r o (fi h)
  |sO id o l=>exact bX.sO o l (fi h)
  |oL id l=>exact bX.oL l (fi h)
  |sL t l=>exact bX.tree (LE.refl _) (.sL _ _)
  |agg xs=>exact bX.agg (nS fun x hx=>oQ (List.all_eq_true.1 h x hx))
  |tup xs=>exact bX.tup (nS fun x hx=>oQ (List.all_eq_true.1 h x hx))
  |fn f a b=>
   simp only[FR,Bool.and_eq_true]at h;exact bX.fn (nS fun x hx=>oQ (List.all_eq_true.1 h.1 x hx)) (nS fun x hx=>oQ (List.all_eq_true.1 h.2 x hx))
  |ifc t x=>exact bX.ifc (oQ (n:=n) h)
  |pF r o=>exact bX.tree (LE.refl _) (.pF o fun x hx=>zN (List.all_eq_true.1 h x hx))
  |sF s r=>exact bX.tree (LE.refl _) (.sF s fun r hr x hx=>zN (List.all_eq_true.1 (List.all_eq_true.1 h r hr) x hx))
theorem RenL.self {σ:List Nat} {o:AObj} (h:∀r,r∈o.rows->∀x,x∈r->bX σ x x):RenL σ o o:=
 ⟨rfl,rfl,rfl,fun i r r' h1 h2=>by rw[h1]at h2;injection h2 with h2;subst h2;exact nS (h r (bZ h1))⟩
theorem jS.typed {σ:List Nat} (t:Ty) (l:List t.den) (e:TypeId):jS σ (.live ⟨t.size,l.map t.row,e⟩) (.live ⟨t.size,l.map t.row,e⟩):=
 ⟨by simp,fun o' h=>by
   injection h with h;subst h;exact⟨_,rfl,RenL.self fun r hr x hx=>bX.tree (LE.refl _) (Ty.nir 0 t l r hr x hx)⟩⟩
theorem jS.opt {σ:List Nat} (t:Ty) (l:List t.den) (e:TypeId):jS σ (XO.opt t l e).den (XO.opt t l e).den:=by
 simp only[XO.den];split
 ·exact⟨by simp,fun o' h=>by cases h⟩
 ·exact jS.typed t l e
theorem qO5 {σ:List Nat} {o:XO} (h:qVS σ o=true):jS σ o.den o.den:=by
 cases o with
 |raw s=>
  cases s with
  |live o=>exact⟨by simp [XO.den],fun o' q=>by
     injection q with q;subst q;exact⟨_,rfl,RenL.self fun r hr x hx=>oQ (List.all_eq_true.1 (List.all_eq_true.1 h r hr) x hx)⟩⟩
  |dead=>exact⟨by simp [XO.den],fun o' q=>by cases q⟩
  |free=>cases h
 |tl t l e=>exact jS.typed t l e
 |opt t l e=>exact jS.opt t l e
 |ob t a e=>exact jS.typed t [a] e
 |row1 sz R k row e=>cases h
theorem qA2 {σ gi:List Nat}:∀ {h:List XO} {k:Nat},qKG σ gi h k=true->∀(j:Nat) (o:XO),h[j]? =some o->¬(k+j)∈gi->jS σ o.den o.den/\σ[k+j]? =some (k+j)
 | [],_,_,j,o,ho,_=>by simp at ho
 |x::r,k,h,0,o,ho,hg=>by
  simp only[qKG,Bool.and_eq_true,Bool.or_eq_true]at h;simp at ho;subst ho;rcases h.1 with q|q
  ·exact absurd (by simpa using q) hg
  ·exact⟨qO5 q.1,by simpa using q.2⟩
 |x::r,k,h,j+1,o,ho,hg=>by
  simp only[qKG,Bool.and_eq_true]at h;have:=qA2 h.2 j o (by simpa using ho) (by rwa [show k+1+j=k+(j+1)by omega]);rwa [show k+1+j=k+(j+1)by omega]at this
structure Near (W:List Nat) (gi:List Nat) (s1 s':Y):Prop where
 sl:∀i,¬i∈W->s'.sl[i]? =s1.sl[i]?
 len:s'.sl.length=s1.sl.length
 h:∀j,j<s1.h.length->¬j∈gi->¬j∈s'.tch->s'.h[j]? =s1.h[j]?
theorem IQ (W:List Nat):∀(sl:List V) (i:Nat),(IP W sl i).length=sl.length
 | [],_=>rfl
 |_::r,i=>by simp only[IP,List.length_cons,IQ W r]
theorem yZ (W:List Nat):∀(sl:List V) (i j:Nat),(IP W sl i)[j]? =(sl[j]?).map fun a=>match W.contains (i+j)with
  |true=>.any
  |false=>a
 | [],_,_=>rfl
 |a::r,i,0=>rfl
 |a::r,i,j+1=>by simp only[IP,List.getElem?_cons_succ];rw[yZ W r (i+1) j,show i+1+j=i+(j+1)by omega]
theorem zA (W:List Nat) (sl:List V):(nH W sl).length=sl.length:=IQ W sl 0
theorem qFR (W:List Nat) (sl:List V) (i:Nat) (x:V) (h:(nH W sl)[i]? =some x):x = .any\/(¬i∈W/\sl[i]? =some x):=by
 rw[nH,yZ,Nat.zero_add]at h;by_cases hi:i∈W
 ·rw[show W.contains i=true by simpa using hi]at h
  cases hs:sl[i]? with
  |none=>rw[hs]at h;cases h
  |some a=>rw[hs]at h;injection h with h;exact .inl h.symm
 ·rw[show W.contains i=false by simpa using hi]at h
  cases hs:sl[i]? with
  |none=>rw[hs]at h;cases h
  |some a=>rw[hs]at h;injection h with h;exact .inr ⟨hi,by rw[<-h]⟩
theorem rQ (W:List Nat) (sl:List V) (i:Nat) (hi:¬i∈W):(nH W sl)[i]? =sl[i]?:=by
 rw[nH,yZ,Nat.zero_add,show W.contains i=false by simpa using hi];cases sl[i]?<;>rfl
theorem iU:∀(g:List GK) (y:Tup (gts g)) (b:Bs) (l:List V),(fT g y b l).length=l.length
 | [],_,_,_=>rfl
 | .sl _ _::g,y,b,l=>by simp only[fT];rw[iU g];simp
 | .lst _ _ _::g,y,b,l=>by simp only[fT];rw[iU g];simp
 | .nls _ _ _::g,y,b,l=>by simp only[fT];rw[iU g];simp
 | .ob _ _ _::g,y,b,l=>by simp only[fT];rw[iU g]
 | .ar _ _ _::g,y,b,l=>by simp only[fT];rw[iU g]
 | .op _ _ _::g,y,b,l=>by simp only[fT];rw[iU g]
 | .row _ _::g,y,b,l=>by simp only[fT];rw[iU g]
theorem fG:∀(g:List GK) (y:Tup (gts g)) (b:Bs) (l:List V) (i:Nat),¬i∈gslots g->(fT g y b l)[i]? =l[i]?
 | [],_,_,_,_,_=>rfl
 | .sl d _::g,y,b,l,i,h=>by
   simp only[gslots,List.mem_cons,not_or]at h;simp only[fT];rw[fG g _ _ _ i h.2,List.getElem?_set_ne (Ne.symm h.1)]
 | .lst d _ _::g,y,b,l,i,h=>by
   simp only[gslots,List.mem_cons,not_or]at h;simp only[fT];rw[fG g _ _ _ i h.2,List.getElem?_set_ne (Ne.symm h.1)]
 | .nls d _ _::g,y,b,l,i,h=>by
   simp only[gslots,List.mem_cons,not_or]at h;simp only[fT];rw[fG g _ _ _ i h.2,List.getElem?_set_ne (Ne.symm h.1)]
 | .ob _ _ _::g,y,b,l,i,h=>by simp only[fT];exact fG g _ _ _ i h
 | .ar _ _ _::g,y,b,l,i,h=>by simp only[fT];exact fG g _ _ _ i h
 | .op _ _ _::g,y,b,l,i,h=>by simp only[fT];exact fG g _ _ _ i h
 | .row _ _::g,y,b,l,i,h=>by simp only[fT];exact fG g _ _ _ i h
theorem jG:∀(ks:List CK) (c:Tup (aB ks)) (r:List V) (h:List XO),(mB ks c r h).length=h.length
 | [],_,_,_=>rfl
 | .same::ks,_,[],_=>rfl
 | .same::ks,c,_::r,h=>jG ks c r h
 | .val _::ks,_,[],_=>rfl
 | .val _::ks,c,_::r,h=>jG ks c.2 r h
 | .osf _::ks,_,[],_=>rfl
 | .osf _::ks,c,_::r,h=>jG ks c.2 r h
 | .own _ _::ks,_,[],_=>rfl
 | .ows _ _::ks,_,[],_=>rfl
 | .own t e::ks,c,x::r,h=>(jG ks c.2 r (h.set (idC x) (.opt t c.1 e))).trans (by simp)
 | .ows t e::ks,c,x::r,h=>(jG ks c.2 r (h.set (idC x) (.tl t c.1 e))).trans (by simp)
theorem iH:∀(ks:List CK) (c:Tup (aB ks)) (r:List V) (h:List XO) (i:Nat),¬i∈nQ ks r->(mB ks c r h)[i]? =h[i]?
 | [],_,_,_,_,_=>rfl
 | .same::ks,_,[],_,_,_=>rfl
 | .same::ks,c,_::r,h,i,hi=>iH ks c r h i hi
 | .val _::ks,_,[],_,_,_=>rfl
 | .val _::ks,c,_::r,h,i,hi=>iH ks c.2 r h i hi
 | .osf _::ks,_,[],_,_,_=>rfl
 | .osf _::ks,c,_::r,h,i,hi=>iH ks c.2 r h i hi
 | .own _ _::ks,_,[],_,_,_=>rfl
 | .ows _ _::ks,_,[],_,_,_=>rfl
 | .own t e::ks,c,x::r,h,i,hi=>by
   simp only[nQ,List.mem_cons,not_or]at hi;exact(iH ks c.2 r (h.set (idC x) (.opt t c.1 e)) i hi.2).trans (List.getElem?_set_ne (Ne.symm hi.1))
 | .ows t e::ks,c,x::r,h,i,hi=>by
   simp only[nQ,List.mem_cons,not_or]at hi;exact(iH ks c.2 r (h.set (idC x) (.tl t c.1 e)) i hi.2).trans (List.getElem?_set_ne (Ne.symm hi.1))
theorem hU:∀(g:List GK) (y:Tup (gts g)) (b:Bs) (h:List XO),(fW g y b h).length=h.length
 | [],_,_,_=>rfl
 | .sl _ _::g,y,b,h=>by simp only[fW];exact hU g _ _ _
 | .lst _ _ _::g,y,b,h=>by simp only[fW];rw[hU g];simp
 | .nls _ _ _::g,y,b,h=>by simp only[fW];rw[hU g];simp
 | .ob _ _ _::g,y,b,h=>by simp only[fW];rw[hU g];simp
 | .ar _ _ _::g,y,b,h=>by simp only[fW];rw[hU g];simp
 | .op _ _ _::g,y,b,h=>by simp only[fW];rw[hU g];simp
 | .row _ _::g,y,b,h=>by simp only[fW];rw[hU g,jG];simp
theorem gG:∀(g:List GK) (y:Tup (gts g)) (b:Bs) (h:List XO) (i:Nat),¬i∈gids b g->(fW g y b h)[i]? =h[i]?
 | [],_,_,_,_,_=>rfl
 | .sl _ _::g,y,b,h,i,hi=>by simp only[fW];exact gG g _ _ _ i hi
 | .lst d _ _::g,y,b,h,i,hi=>by
   simp only[gids,List.mem_cons,not_or]at hi;simp only[fW];rw[gG g _ _ _ i hi.2,List.getElem?_set_ne (Ne.symm hi.1)]
 | .nls d _ _::g,y,b,h,i,hi=>by
   simp only[gids,List.mem_cons,not_or]at hi;simp only[fW];rw[gG g _ _ _ i hi.2,List.getElem?_set_ne (Ne.symm hi.1)]
 | .ob d _ _::g,y,b,h,i,hi=>by
   simp only[gids,List.mem_cons,not_or]at hi;simp only[fW];rw[gG g _ _ _ i hi.2,List.getElem?_set_ne (Ne.symm hi.1)]
 | .ar d _ _::g,y,b,h,i,hi=>by
   simp only[gids,List.mem_cons,not_or]at hi;simp only[fW];rw[gG g _ _ _ i hi.2,List.getElem?_set_ne (Ne.symm hi.1)]
 | .op d _ _::g,y,b,h,i,hi=>by
   simp only[gids,List.mem_cons,not_or]at hi;simp only[fW];rw[gG g _ _ _ i hi.2,List.getElem?_set_ne (Ne.symm hi.1)]
 | .row id ks::g,y,b,h,i,hi=>by
   simp only[gids,List.mem_cons,List.mem_append,not_or]at hi;simp only[fW];rw[gG g _ _ _ i hi.2.2,iH _ _ _ _ _ hi.2.1,List.getElem?_set_ne (Ne.symm hi.1)]
theorem qA:∀(ks:List CK) (r r':List V) (σ:List Nat),(ZU ks r r' σ).length=σ.length
 | [],_,_,_=>rfl
 |_::_,[],_,_=>by unfold ZU;split<;>first|rfl|simp_all
 |_::_,_::_,[],_=>by unfold ZU;split<;>first|rfl|simp_all
 | .same::ks,_::r,_::r',σ=>qA ks r r' σ
 | .val _::ks,_::r,_::r',σ=>qA ks r r' σ
 | .osf _::ks,_::r,_::r',σ=>qA ks r r' σ
 | .own _ _::ks,c::r,c'::r',σ=>(qA ks r r' (σ.set (idC c) (idC c'))).trans (by simp)
 | .ows _ _::ks,c::r,c'::r',σ=>(qA ks r r' (σ.set (idC c) (idC c'))).trans (by simp)
theorem oV:∀(g:List GK) (b b':Bs) (σ:List Nat),(sig g b b' σ).length=σ.length
 | [],_,_,_=>rfl
 | .sl _ _::g,b,b',σ=>by simp only[sig];exact oV g _ _ _
 | .lst _ _ _::g,b,b',σ=>by simp only[sig];rw[oV g];simp
 | .nls _ _ _::g,b,b',σ=>by simp only[sig];rw[oV g];simp
 | .ob _ _ _::g,b,b',σ=>by simp only[sig];exact oV g _ _ _
 | .ar _ _ _::g,b,b',σ=>by simp only[sig];exact oV g _ _ _
 | .op _ _ _::g,b,b',σ=>by simp only[sig];exact oV g _ _ _
 | .row _ _::g,b,b',σ=>by simp only[sig];rw[oV g,qA]
theorem joined {a b:List Ty} {x:Tup a} {y:Tup b} {z:Tup (qIV a b)} (h:aC a b x y=z):tA a b z=(x,y):=by rw[<-h];exact HC a b x y
theorem qBY {σ:List Nat} {h':List XO} {c':V} {j id n:Nat} {t0:Ty} {l0:List t0.den} {t:Ty} {l:List t.den} {e':TypeId} (hc:c' = .oL id n) (ho:h'[id]? =some (.opt t0 l0 e')) (hl:fI l0=some l) (hd:cZ (eX h' c')) (hσ:σ[j]? =some id):bX σ c' (.oL j l.length):=by
 subst hc;simp only[eX,ho]at hd;have hn:n=l0.length:=of_decide_eq_true (hd _ (List.mem_singleton.2 rfl));rw[hn,(dQ hl).2.2];exact bX.oL _ hσ
theorem TH {σ:List Nat} {h':List XO} {c':V} {j id n:Nat} {t0:Ty} {l0:List t0.den} {t:Ty} {l:List t.den} {e':TypeId} (hc:c' = .sO id 0 n) (ho:h'[id]? =some (.tl t0 l0 e')) (hl:fI l0=some l) (hd:cZ (eX h' c')) (hσ:σ[j]? =some id):bX σ c' (.sO j 0 l.length):=by
 subst hc;simp only[eX,ho]at hd;have hn:n=l0.length:=of_decide_eq_true (hd _ (List.mem_singleton.2 rfl));rw[hn,(dQ hl).2.2];exact bX.sO 0 _ hσ
theorem lT {σ:List Nat} {sl':List V} {h':List XO} {b:Bs}:∀(g:List GK) (y:Tup (gts g)) (l:List V),rdG g sl' h'=some y->cZ (cdG h' sl' g)->iK σ b ⟨sl',h'⟩ g=true ->
  (∀(i:Nat) (x v:V),sl'[i]? =some x->l[i]? =some v->bX σ x v)->∀(i:Nat) (x v:V),sl'[i]? =some x->(fT g y b l)[i]? =some v->bX σ x v
 | [],_,_,_,_,_,hl=>hl
 | .sl d t::g,y,l,e,hc,hs,hl=>by
   simp only[rdG]at e;split at e
   ·rename_i v hv
    split at e
    ·rename_i a r ha hr
     injection e with e;subst e;refine lT g r _ hr hc hs (fun i x v' h1 h2=>?_);rw[List.getElem?_set]at h2;split at h2
     ·rename_i q;subst q
      split at h2
      ·injection h2 with h2;subst h2
       rw[hv]at h1;injection h1 with h1;subst h1;exact bX.val ha
      ·cases h2
     ·exact hl i x v' h1 h2
    ·cases e
   ·cases e
 | .lst d t el::g,y,l,e,hc,hs,hl=>by
   simp only[rdG]at e;split at e
   ·rename_i id n hv
    split at e
    ·rename_i t0 l0 e' ho
     split at e
     ·split at e
      ·rename_i l1 r hl1 hr
       injection e with e;subst e;simp only[iK,Bool.and_eq_true]at hs;have hi:iE ⟨sl',h'⟩ d=id:=by simp [iE,hv,idC]
       have hσ:σ[iE b d]? =some id:=by have:=hs.1;rw[hi]at this;simpa using this
       refine lT g r _ hr (fun c q=>hc c (by simp [cdG,q])) hs.2 (fun i x v' h1 h2=>?_);rw[List.getElem?_set]at h2;split at h2
       ·rename_i q;subst q
        split at h2
        ·injection h2 with h2;subst h2
         rw[hv]at h1;injection h1 with h1;subst h1;exact qBY rfl ho hl1 (fun c q=>hc c (by simp only[cdG,hv,List.mem_append];exact .inl q)) hσ
        ·cases h2
       ·exact hl i x v' h1 h2
      ·cases e
     ·cases e
    ·cases e
   ·cases e
 | .nls d t el::g,y,l,e,hc,hs,hl=>by
   simp only[rdG]at e;split at e
   ·rename_i id n hv
    split at e
    ·rename_i t0 l0 e' ho
     split at e
     ·split at e
      ·rename_i l1 r hl1 hr
       injection e with e;subst e;simp only[iK,Bool.and_eq_true]at hs;have hi:iE ⟨sl',h'⟩ d=id:=by simp [iE,hv,idC]
       have hσ:σ[iE b d]? =some id:=by have:=hs.1;rw[hi]at this;simpa using this
       refine lT g r _ hr (fun c q=>hc c (by simp [cdG,q])) hs.2 (fun i x v' h1 h2=>?_);rw[List.getElem?_set]at h2;split at h2
       ·rename_i q;subst q
        split at h2
        ·injection h2 with h2;subst h2
         rw[hv]at h1;injection h1 with h1;subst h1;exact TH rfl ho hl1 (fun c q=>hc c (by simp only[cdG,hv,List.mem_append];exact .inl q)) hσ
        ·cases h2
       ·exact hl i x v' h1 h2
      ·cases e
     ·cases e
    ·cases e
   ·cases e
 | .ob id t el::g,y,l,e,hc,hs,hl=>by
   simp only[rdG]at e;repeat' split at e
   all_goals first|(cases e;done)|skip
   rename_i hr;injection e with e;subst e;simp only[iK,Bool.and_eq_true]at hs;exact lT g _ _ hr hc hs.2 hl
 | .ar id t el::g,y,l,e,hc,hs,hl=>by
   simp only[rdG]at e;repeat' split at e
   all_goals first|(cases e;done)|skip
   rename_i hr;injection e with e;subst e;simp only[iK,Bool.and_eq_true]at hs;exact lT g _ _ hr hc hs.2 hl
 | .op id t el::g,y,l,e,hc,hs,hl=>by
   simp only[rdG]at e;repeat' split at e
   all_goals first|(cases e;done)|skip
   rename_i hr;injection e with e;subst e;simp only[iK,Bool.and_eq_true]at hs;exact lT g _ _ hr hc hs.2 hl
 | .row id ks::g,y,l,e,hc,hs,hl=>by
   simp only[rdG]at e;split at e
   ·rename_i c q hk hr
    injection e with e;simp only[iK,Bool.and_eq_true]at hs;simp only[fT,joined e];exact lT g q l hr (fun c q=>hc c (by simp [cdG,q])) hs.2.2.2.2 hl
   ·cases e
def sY:(ks:List CK)->List V->List V->Prop
 | .same::ks,c'::r',c::r=>c'=c/\sY ks r' r
 | .val _::ks,_::r',_::r=>sY ks r' r
 | .own _ _::ks,_::r',_::r=>sY ks r' r
 | .ows _ _::ks,_::r',_::r=>sY ks r' r
 | .osf _::ks,_::r',_::r=>sY ks r' r
 |_,_,_=>True
theorem lA:∀(ks:List CK) (r' r:List V) (A:Prop),GX ks r' r A->sY ks r' r/\A
 | [],_,_,_,h=>⟨trivial,h⟩
 | .same::_,[],_,_,h=>h.elim
 | .same::_,_::_,[],_,h=>h.elim
 | .val _::_,[],_,_,h=>h.elim
 | .val _::_,_::_,[],_,h=>h.elim
 | .own _ _::_,[],_,_,h=>h.elim
 | .ows _ _::_,[],_,_,h=>h.elim
 | .osf _::_,[],_,_,h=>h.elim
 | .osf _::_,_::_,[],_,h=>h.elim
 | .own _ _::_,_::_,[],_,h=>h.elim
 | .ows _ _::_,_::_,[],_,h=>h.elim
 | .same::ks,_::r',_::r,A,h=>by
   obtain⟨h1,h2⟩:=lA ks r' r A h.2;exact⟨⟨h.1,h1⟩,h2⟩
 | .val _::ks,_::r',_::r,A,h=>lA ks r' r A h
 | .own _ _::ks,_::r',_::r,A,h=>lA ks r' r A h
 | .ows _ _::ks,_::r',_::r,A,h=>lA ks r' r A h
 | .osf _::ks,_::r',_::r,A,h=>lA ks r' r A h
def rC (b b':Bs):List GK->Prop
 | []=>True
 | .row id ks::g=>sY ks (pX b' id) (pX b id)/\rC b b' g
 | .sl _ _::g=>rC b b' g
 | .lst _ _ _::g=>rC b b' g
 | .nls _ _ _::g=>rC b b' g
 | .ob _ _ _::g=>rC b b' g
 | .ar _ _ _::g=>rC b b' g
 | .op _ _ _::g=>rC b b' g
theorem hJ {b b':Bs}:∀(g:List GK) (A:Prop),yF b b' g A->rC b b' g/\A
 | [],_,h=>⟨trivial,h⟩
 | .row id ks::g,A,h=>by
   obtain⟨h1,h2⟩:=lA ks _ _ _ h;obtain⟨h3,h4⟩:=hJ g A h2;exact⟨⟨h1,h3⟩,h4⟩
 | .sl _ _::g,A,h=>hJ g A h
 | .lst _ _ _::g,A,h=>hJ g A h
 | .nls _ _ _::g,A,h=>hJ g A h
 | .ob _ _ _::g,A,h=>hJ g A h
 | .ar _ _ _::g,A,h=>hJ g A h
 | .op _ _ _::g,A,h=>hJ g A h
theorem ZJ {σ:List Nat} {k:Nat} {c:V} {a:Bool} (h:GR k c=some a) (hσ:σ[k]? =some k):bX σ c (pY k a):=by
 unfold GR at h;split at h
 ·injection h with h;subst h;exact bX.tree (LE.refl _) (.v _)
 ·split at h
  ·rename_i q
   have q:=Nat.eq_of_beq_eq_true q;injection h with h;subst h q;exact bX.pO 0 0 hσ
  ·cases h
 ·cases h
theorem uC {σ:List Nat} {h':List XO}:∀(ks:List CK) (c:Tup (aB ks)) (r r':List V),rdK ks r' h'=some c->cZ (cdK ks r' h')->sY ks r' r->pI σ ks r r'=true->pE σ ks r=true->Pairs (bX σ) r' (gZ ks c r)
 | [],_,[],[],_,_,_,_,_=>⟨rfl,fun i x y h=>by simp at h⟩
 | [],_,_::_,_,_,_,_,_,hf=>by simp [pE]at hf
 | [],_,[],_::_,e,_,_,_,_=>by simp [rdK]at e
 |_::_,_,[],_,_,_,_,_,hf=>by unfold pE at hf;split at hf<;>first|(cases hf;done)|simp_all
 | .same::_,_,_::_,[],e,_,_,_,_=>by simp [rdK]at e
 | .val _::_,_,_::_,[],e,_,_,_,_=>by simp [rdK]at e
 | .own _ _::_,_,_::_,[],e,_,_,_,_=>by simp [rdK]at e
 | .ows _ _::_,_,_::_,[],e,_,_,_,_=>by simp [rdK]at e
 | .osf _::_,_,_::_,[],e,_,_,_,_=>by simp [rdK]at e
 | .same::ks,c,x::r,x'::r',e,hc,hsm,hs,hf=>by
   simp only[pE,Bool.and_eq_true]at hf;obtain⟨q1,q2⟩:=uC ks c r r' e hc hsm.2 hs hf.2;have hx:=hsm.1;refine⟨by simp [gZ,q1],fun i a b ha hb=>?_⟩;cases i with
   |zero=>simp [gZ]at ha hb;rw[<-ha,<-hb,hx];exact oQ hf.1
   |succ i=>exact q2 i a b (by simpa using ha) (by simpa [gZ]using hb)
 | .val t::ks,c,x::r,x'::r',e,hc,hsm,hs,hf=>by
   simp only[pE,Bool.and_eq_true]at hf;simp only[rdK]at e;split at e
   ·rename_i a q ha hq
    injection e with e;subst e;obtain⟨q1,q2⟩:=uC ks q r r' hq hc hsm hs hf.2;refine⟨by simp [gZ,q1],fun i u v hu hv=>?_⟩;cases i with
    |zero=>
     simp [gZ]at hu hv;rw[<-hu,<-hv];refine bX.val ?_;cases t with
     |pair _ _=>simp at hf
     |_=>exact ha
    |succ i=>exact q2 i u v (by simpa using hu) (by simpa [gZ]using hv)
   ·cases e
 | .osf k::ks,c,x::r,x'::r',e,hc,hsm,hs,hf=>by
   simp only[pE,Bool.and_eq_true]at hf;simp only[rdK]at e;split at e
   ·rename_i a q ha hq
    injection e with e;subst e;obtain⟨q1,q2⟩:=uC ks q r r' hq hc hsm hs hf.2;refine⟨by simp [gZ,q1],fun i u v hu hv=>?_⟩;cases i with
    |zero=>
     simp [gZ]at hu hv;rw[<-hu,<-hv];exact ZJ ha (by simpa [XX]using hf.1)
    |succ i=>exact q2 i u v (by simpa using hu) (by simpa [gZ]using hv)
   ·cases e
 | .own t el::ks,c,x::r,x'::r',e,hc,hsm,hs,hf=>by
   simp only[pE]at hf;simp only[rdK]at e;split at e
   ·rename_i id n
    split at e
    ·rename_i t0 l0 e' ho
     split at e
     ·split at e
      ·rename_i l1 q hl1 hq
       injection e with e;subst e;simp only[pI,Bool.and_eq_true]at hs;obtain⟨q1,q2⟩:=uC ks q r r' hq (fun c q=>hc c (by simp [cdK,q])) hsm hs.2 hf;refine⟨by simp [gZ,q1],fun i u v hu hv=>?_⟩;cases i with
       |zero=>
        simp [gZ]at hu hv;rw[<-hu,<-hv];exact qBY rfl ho hl1 (fun c q=>hc c (by simp only[cdK,List.mem_append];exact .inl q)) (by simpa [idC]using hs.1)
       |succ i=>exact q2 i u v (by simpa using hu) (by simpa [gZ]using hv)
      ·cases e
     ·cases e
    ·cases e
   ·cases e
 | .ows t el::ks,c,x::r,x'::r',e,hc,hsm,hs,hf=>by
   simp only[pE]at hf;simp only[rdK]at e;split at e
   ·rename_i id n
    split at e
    ·rename_i t0 l0 e' ho
     split at e
     ·split at e
      ·rename_i l1 q hl1 hq
       injection e with e;subst e;simp only[pI,Bool.and_eq_true]at hs;obtain⟨q1,q2⟩:=uC ks q r r' hq (fun c q=>hc c (by simp [cdK,q])) hsm hs.2 hf;refine⟨by simp [gZ,q1],fun i u v hu hv=>?_⟩;cases i with
       |zero=>
        simp [gZ]at hu hv;rw[<-hu,<-hv];exact TH rfl ho hl1 (fun c q=>hc c (by simp only[cdK,List.mem_append];exact .inl q)) (by simpa [idC]using hs.1)
       |succ i=>exact q2 i u v (by simpa using hu) (by simpa [gZ]using hv)
      ·cases e
     ·cases e
    ·cases e
   ·cases e
theorem tY {σ:List Nat} {h':List XO}:∀(ks:List CK) (c:Tup (aB ks)) (r r':List V) (k:List XO) (G:List Nat),rdK ks r' h'=some c->pI σ ks r r'=true->pE σ ks r=true->k.length=σ.length ->
  (∀(j i:Nat),σ[j]? =some i->¬j∈G++nQ ks r->∃x z,(dens h')[i]? =some x/\(dens k)[j]? =some z/\jS σ x z)->∀(j i:Nat),σ[j]? =some i->¬j∈G->∃x z,(dens h')[i]? =some x/\(dens (mB ks c r k))[j]? =some z/\jS σ x z
 | [],_,_,_,_,G,_,_,_,_,hk=>fun j i h1 h2=>hk j i h1 (by simpa [nQ]using h2)
 |_::_,_,[],_,_,_,_,_,hf,_,_=>by unfold pE at hf;split at hf<;>first|(cases hf;done)|simp_all
 | .same::_,_,_::_,[],_,_,e,_,_,_,_=>by simp [rdK]at e
 | .val _::_,_,_::_,[],_,_,e,_,_,_,_=>by simp [rdK]at e
 | .own _ _::_,_,_::_,[],_,_,e,_,_,_,_=>by simp [rdK]at e
 | .ows _ _::_,_,_::_,[],_,_,e,_,_,_,_=>by simp [rdK]at e
 | .osf _::_,_,_::_,[],_,_,e,_,_,_,_=>by simp [rdK]at e
 | .same::ks,c,x::r,x'::r',k,G,e,hs,hf,hl,hk=>by
   simp only[pE,Bool.and_eq_true]at hf;exact tY ks c r r' k G e hs hf.2 hl hk
 | .val t::ks,c,x::r,x'::r',k,G,e,hs,hf,hl,hk=>by
   simp only[pE,Bool.and_eq_true]at hf;simp only[rdK]at e;split at e
   ·rename_i a q ha hq
    injection e with e;subst e;exact tY ks q r r' k G hq hs hf.2 hl hk
   ·cases e
 | .osf _::ks,c,x::r,x'::r',k,G,e,hs,hf,hl,hk=>by
   simp only[pE,Bool.and_eq_true]at hf;simp only[rdK]at e;split at e
   ·rename_i a q ha hq
    injection e with e;subst e;exact tY ks q r r' k G hq hs hf.2 hl hk
   ·cases e
 | .own t el::ks,c,x::r,x'::r',k,G,e,hs,hf,hl,hk=>by
   simp only[pE]at hf;simp only[rdK]at e;split at e
   ·rename_i id n
    split at e
    ·rename_i t0 l0 e' ho
     split at e
     ·rename_i hee
      split at e
      ·rename_i l1 q hl1 hq
       injection e with e;subst e;simp only[pI,Bool.and_eq_true]at hs;have hσ:σ[idC x]? =some id:=by simpa [idC]using hs.1
       refine tY ks q r r' _ G hq hs.2 hf (by simpa using hl) (fun j i h1 h2=>?_);by_cases qe:j=idC x
       ·subst qe
        rw[hσ]at h1;injection h1 with h1;subst h1;have hlt:idC x<k.length:=by rw[hl];exact aM hσ
        refine⟨_,_,by rw[aL,ho];rfl,by rw[aL,List.getElem?_set_self hlt];rfl,?_⟩;have:(XO.opt t0 l0 e').den=(XO.opt t l1 el).den:=by
         obtain⟨et,el1⟩:=gY hl1;subst et el1 hee;rfl
        rw[this];exact jS.opt t l1 el
       ·obtain⟨x,z,g1,g2,g3⟩:=hk j i h1 (by simp only[nQ,List.mem_append,List.mem_cons,not_or]at h2 ⊢;exact⟨h2.1,qe,h2.2⟩)
        exact⟨x,z,g1,by rw[aU,List.getElem?_set_ne (Ne.symm qe)];exact g2,g3⟩
      ·cases e
     ·cases e
    ·cases e
   ·cases e
 | .ows t el::ks,c,x::r,x'::r',k,G,e,hs,hf,hl,hk=>by
   simp only[pE]at hf;simp only[rdK]at e;split at e
   ·rename_i id n
    split at e
    ·rename_i t0 l0 e' ho
     split at e
     ·rename_i hee
      split at e
      ·rename_i l1 q hl1 hq
       injection e with e;subst e;simp only[pI,Bool.and_eq_true]at hs;have hσ:σ[idC x]? =some id:=by simpa [idC]using hs.1
       refine tY ks q r r' _ G hq hs.2 hf (by simpa using hl) (fun j i h1 h2=>?_);by_cases qe:j=idC x
       ·subst qe
        rw[hσ]at h1;injection h1 with h1;subst h1;have hlt:idC x<k.length:=by rw[hl];exact aM hσ
        refine⟨_,_,by rw[aL,ho];rfl,by rw[aL,List.getElem?_set_self hlt];rfl,?_⟩;have:(XO.tl t0 l0 e').den=(XO.tl t l1 el).den:=by
         obtain⟨et,el1⟩:=gY hl1;subst et el1 hee;rfl
        rw[this];exact jS.typed t l1 el
       ·obtain⟨x,z,g1,g2,g3⟩:=hk j i h1 (by simp only[nQ,List.mem_append,List.mem_cons,not_or]at h2 ⊢;exact⟨h2.1,qe,h2.2⟩)
        exact⟨x,z,g1,by rw[aU,List.getElem?_set_ne (Ne.symm qe)];exact g2,g3⟩
      ·cases e
     ·cases e
    ·cases e
   ·cases e
theorem FX {b:Bs} {id:Nat} {s:Nat} {e:El} (h:qBE b id=some (s,e)):∃r,b.h[id]? =some (.raw (.live ⟨s,[r],e⟩))/\pX b id=r:=by
 unfold qBE at h;split at h
 ·rename_i o ho
  split at h
  ·rename_i r hr
   injection h with h;injection h with h1 h2;subst h1 h2;refine⟨r,by rw[ho,<-hr],by simp [pX,ho,hr]⟩
  ·cases h
 ·cases h
theorem oS {σ:List Nat} {sl':List V} {h':List XO} {b:Bs}:∀(g:List GK) (y:Tup (gts g)) (k:List XO) (G:List Nat),rdG g sl' h'=some y->cZ (cdG h' sl' g)->rC b ⟨sl',h'⟩ g->iK σ b ⟨sl',h'⟩ g=true->k.length=σ.length ->
  (∀(j i:Nat),σ[j]? =some i->¬j∈G++gids b g->∃x z,(dens h')[i]? =some x/\(dens k)[j]? =some z/\jS σ x z)->∀(j i:Nat),σ[j]? =some i->¬j∈G->∃x z,(dens h')[i]? =some x/\(dens (fW g y b k))[j]? =some z/\jS σ x z
 | [],_,_,G,_,_,_,_,_,hk=>fun j i h1 h2=>hk j i h1 (by simpa [gids]using h2)
 | .sl d t::g,y,k,G,e,hc,hsm,hs,hl,hk=>by
   simp only[rdG]at e;repeat' split at e
   all_goals first|(cases e;done)|skip
   rename_i hr;injection e with e;subst e;exact oS g _ k G hr hc hsm hs hl hk
 | .lst d t el::g,y,k,G,e,hc,hsm,hs,hl,hk=>by
   simp only[rdG]at e;split at e
   ·rename_i id n hv
    split at e
    ·rename_i t0 l0 e' ho
     split at e
     ·rename_i hee
      split at e
      ·rename_i l1 r hl1 hr
       injection e with e;subst e;simp only[iK,Bool.and_eq_true]at hs;have hi:iE ⟨sl',h'⟩ d=id:=by simp [iE,hv,idC]
       have hσ:σ[iE b d]? =some id:=by have:=hs.1;rw[hi]at this;simpa using this
       refine oS g r _ G hr (fun c q=>hc c (by simp [cdG,q])) hsm hs.2 (by simpa using hl) (fun j i h1 h2=>?_);by_cases q:j=iE b d
       ·subst q
        rw[hσ]at h1;injection h1 with h1;subst h1;have hlt:iE b d<k.length:=by rw[hl];exact aM hσ
        refine⟨_,_,by rw[aL,ho];rfl,by rw[aL,List.getElem?_set_self hlt];rfl,?_⟩;have:(XO.opt t0 l0 e').den=(XO.opt t l1 el).den:=by
         obtain⟨et,el1⟩:=gY hl1;subst et el1 hee;rfl
        rw[this];exact jS.opt t l1 el
       ·obtain⟨x,z,g1,g2,g3⟩:=hk j i h1 (by simp only[gids,List.mem_append,List.mem_cons,not_or]at h2 ⊢;exact⟨h2.1,q,h2.2⟩)
        exact⟨x,z,g1,by rw[aU,List.getElem?_set_ne (Ne.symm q)];exact g2,g3⟩
      ·cases e
     ·cases e
    ·cases e
   ·cases e
 | .nls d t el::g,y,k,G,e,hc,hsm,hs,hl,hk=>by
   simp only[rdG]at e;split at e
   ·rename_i id n hv
    split at e
    ·rename_i t0 l0 e' ho
     split at e
     ·rename_i hee
      split at e
      ·rename_i l1 r hl1 hr
       injection e with e;subst e;simp only[iK,Bool.and_eq_true]at hs;have hi:iE ⟨sl',h'⟩ d=id:=by simp [iE,hv,idC]
       have hσ:σ[iE b d]? =some id:=by have:=hs.1;rw[hi]at this;simpa using this
       refine oS g r _ G hr (fun c q=>hc c (by simp [cdG,q])) hsm hs.2 (by simpa using hl) (fun j i h1 h2=>?_);by_cases q:j=iE b d
       ·subst q
        rw[hσ]at h1;injection h1 with h1;subst h1;have hlt:iE b d<k.length:=by rw[hl];exact aM hσ
        refine⟨_,_,by rw[aL,ho];rfl,by rw[aL,List.getElem?_set_self hlt];rfl,?_⟩;have:(XO.tl t0 l0 e').den=(XO.tl t l1 el).den:=by
         obtain⟨et,el1⟩:=gY hl1;subst et el1 hee;rfl
        rw[this];exact jS.typed t l1 el
       ·obtain⟨x,z,g1,g2,g3⟩:=hk j i h1 (by simp only[gids,List.mem_append,List.mem_cons,not_or]at h2 ⊢;exact⟨h2.1,q,h2.2⟩)
        exact⟨x,z,g1,by rw[aU,List.getElem?_set_ne (Ne.symm q)];exact g2,g3⟩
      ·cases e
     ·cases e
    ·cases e
   ·cases e
 | .ob id t el::g,y,k,G,e,hc,hsm,hs,hl,hk=>by
   simp only[rdG]at e;split at e
   ·rename_i xo ho
    split at e
    ·rename_i a q ha hr
     injection e with e;subst e;simp only[iK,Bool.and_eq_true]at hs;have hσ:σ[id]? =some id:=by simpa using hs.1
     obtain⟨o,o1,o2,o3,o4,o5⟩:=CV ha;refine oS g q _ G hr hc hsm hs.2 (by simpa using hl) (fun j i h1 h2=>?_);by_cases qe:j=id
     ·subst qe
      rw[hσ]at h1;injection h1 with h1;subst h1;have hlt:j<k.length:=by rw[hl];exact aM hσ
      refine⟨_,_,by rw[aL,ho];rfl,by rw[aL,List.getElem?_set_self hlt];rfl,by simp [XO.den],fun o' ho'=>?_⟩;simp only[XO.den]at ho';injection ho' with ho';subst ho';refine⟨o,o1,⟨o2,o3,o4,fun m r1 r2 h3 h4=>?_⟩⟩;obtain⟨u1,u2⟩:=o5 m r1 r2 h3 h4;refine⟨u1,fun p c c' hc hc'=>bX.tree (u2 p c c' hc hc') ?_⟩;exact t.nir 0 [a] r2 (bZ h4) c' (bZ hc')
     ·obtain⟨x,z,g1,g2,g3⟩:=hk j i h1 (by simp only[gids,List.mem_append,List.mem_cons,not_or]at h2 ⊢;exact⟨h2.1,qe,h2.2⟩)
      exact⟨x,z,g1,by rw[aU,List.getElem?_set_ne (Ne.symm qe)];exact g2,g3⟩
    ·cases e
   ·cases e
 | .ar id t el::g,y,k,G,e,hc,hsm,hs,hl,hk=>by
   simp only[rdG]at e;split at e
   ·rename_i t0 l0 e' ho
    split at e
    ·rename_i hee
     split at e
     ·rename_i l1 r hl1 hr
      injection e with e;subst e;simp only[iK,Bool.and_eq_true]at hs;have hσ:σ[id]? =some id:=by simpa using hs.1
      refine oS g r _ G hr hc hsm hs.2 (by simpa using hl) (fun j i h1 h2=>?_);by_cases qe:j=id
      ·subst qe
       rw[hσ]at h1;injection h1 with h1;subst h1;have hlt:j<k.length:=by rw[hl];exact aM hσ
       refine⟨_,_,by rw[aL,ho];rfl,by rw[aL,List.getElem?_set_self hlt];rfl,?_⟩;have:(XO.tl t0 l0 e').den=(XO.tl t l1 el).den:=by
        obtain⟨et,el1⟩:=gY hl1;subst et el1 hee;rfl
       rw[this];exact jS.typed t l1 el
      ·obtain⟨x,z,g1,g2,g3⟩:=hk j i h1 (by simp only[gids,List.mem_append,List.mem_cons,not_or]at h2 ⊢;exact⟨h2.1,qe,h2.2⟩)
       exact⟨x,z,g1,by rw[aU,List.getElem?_set_ne (Ne.symm qe)];exact g2,g3⟩
     ·cases e
    ·cases e
   ·cases e
 | .op id t el::g,y,k,G,e,hc,hsm,hs,hl,hk=>by
   simp only[rdG]at e;split at e
   ·rename_i t0 l0 e' ho
    split at e
    ·rename_i hee
     split at e
     ·rename_i l1 r hl1 hr
      injection e with e;subst e;simp only[iK,Bool.and_eq_true]at hs;have hσ:σ[id]? =some id:=by simpa using hs.1
      refine oS g r _ G hr hc hsm hs.2 (by simpa using hl) (fun j i h1 h2=>?_);by_cases qe:j=id
      ·subst qe
       rw[hσ]at h1;injection h1 with h1;subst h1;have hlt:j<k.length:=by rw[hl];exact aM hσ
       refine⟨_,_,by rw[aL,ho];rfl,by rw[aL,List.getElem?_set_self hlt];rfl,?_⟩;have:(XO.opt t0 l0 e').den=(XO.opt t l1 el).den:=by
        obtain⟨et,el1⟩:=gY hl1;subst et el1 hee;rfl
       rw[this];exact jS.opt t l1 el
      ·obtain⟨x,z,g1,g2,g3⟩:=hk j i h1 (by simp only[gids,List.mem_append,List.mem_cons,not_or]at h2 ⊢;exact⟨h2.1,qe,h2.2⟩)
       exact⟨x,z,g1,by rw[aU,List.getElem?_set_ne (Ne.symm qe)];exact g2,g3⟩
     ·cases e
    ·cases e
   ·cases e
 | .row id ks::g,y,k,G,e,hc,hsm,hs,hl,hk=>by
   simp only[rdG]at e;split at e
   ·rename_i c q hrk hr
    injection e with e;simp only[iK,Bool.and_eq_true]at hs;obtain⟨s1,s2,s3,s4,s5⟩:=hs;have hσ:σ[id]? =some id:=by simpa using s1
    simp only[fW,joined e];refine oS g q _ G hr (fun c q=>hc c (by simp [cdG,q])) hsm.2 s5 (by rw[jG];simpa using hl) (fun j i h1 h2=>?_);refine tY ks c (pX b id) (pX ⟨sl',h'⟩ id) _ (G++gids b g) hrk s2 s3 (by simpa using hl) (fun j i h1 h2=>?_) j i h1 h2;by_cases qe:j=id
    ·subst qe
     rw[hσ]at h1;injection h1 with h1;subst h1;have hlt:j<k.length:=by rw[hl];exact aM hσ
     simp only[qB9]at s4;split at s4
     ·rename_i sz el sz' el' h3 h4
      simp only[Bool.and_eq_true]at s4;have q1:=Nat.eq_of_beq_eq_true s4.1;have q2:=Nat.eq_of_beq_eq_true s4.2.1;have q3:=Nat.eq_of_beq_eq_true s4.2.2;subst q1;have q2:el=el':=by
       obtain⟨a,b⟩:=el;obtain⟨a',b'⟩:=el';have q2:a=a':=q2;have q3:b=b':=q3;rw[q2,q3]
      subst q2;obtain⟨r,u1,u2⟩:=FX h3;obtain⟨r',v1,v2⟩:=FX h4;have v1:h'[j]? =some (.raw (.live ⟨sz,[r'],el⟩)):=v1;refine⟨_,_,by rw[aL,v1];rfl,by rw[aL,List.getElem?_set_self hlt];rfl,?_⟩;simp only[qL2,u1,XO.den];refine⟨by simp,fun o' ho'=>?_⟩;injection ho' with ho';subst ho';refine⟨_,rfl,⟨rfl,rfl,rfl,fun m r1 r2 h3 h4=>?_⟩⟩;cases m with
      |zero=>
       simp at h3 h4;subst h3 h4;rw[<-v2];exact uC ks c _ _ hrk (fun c q=>hc c (by simp [cdG,q])) hsm.1 s2 s3
      |succ m=>simp at h3
     ·cases s4
    ·obtain⟨x,z,g1,g2,g3⟩:=hk j i h1 (by simp only[gids,List.mem_append,List.mem_cons,not_or]at h2 ⊢;exact⟨h2.1.1,qe,h2.2,h2.1.2⟩)
     exact⟨x,z,g1,by rw[aU,List.getElem?_set_ne (Ne.symm qe)];exact g2,g3⟩
   ·cases e
theorem pN {n0:Nat} {W:List Nat} {g:List GK} {s1 s':Y} {k:Tup (gts g)->Prop} (hn:Near W (gids s1.bs g) s1 s') (h:arrive n0 W g s1 s' k) :
  ∃σ y,CutR n0 σ s'.den ⟨fT g y s1.bs (nH W s1.sl),dens (fW g y s1.bs s1.h)⟩/\k y/\(∀d,d∈gslots g->d∈W):=by
 unfold arrive at h;split at h
 ·rename_i y hy
  obtain⟨hcd,h⟩:=bI h;obtain⟨hsm,⟨hok⟩,hk⟩:=hJ g _ h;simp only[okG,Bool.and_eq_true]at hok;obtain⟨⟨⟨⟨⟨⟨⟨o1,o2⟩,o3⟩,o4⟩,o5⟩,o6⟩,o7⟩,o8⟩:=hok;generalize hσ:sig g s1.bs s'.bs (List.range s1.h.length)=σ at o1 o2 o3 o4 o5 o6;have hlen:σ.length=s1.h.length:=by rw[<-hσ,oV];simp
  have hW:∀d,d∈gslots g->d∈W:=fun d hd=>by simpa using List.all_eq_true.1 o8 d hd
  refine⟨σ,y,⟨by rw[hlen,dB,hU],qGH o2,MC o1,⟨?_,?_⟩,?_⟩,hk,hW⟩
  ·simp only[Y.den,iU,zA];exact hn.len
  ·simp only[Y.den]
   refine lT g y _ hy hcd o4 (fun i x v h1 h2=>?_);rcases qFR _ _ _ _ h2 with q|⟨q1,q2⟩
   ·subst q;exact bX.any _ _
   ·rw[hn.sl i q1,q2]at h1;injection h1 with h1;subst h1
    exact oQ (List.all_eq_true.1 o5 _ (bZ h2))
  ·simp only[Y.den]
   intro j i hj;refine oS g y s1.h [] hy hcd hsm o4 hlen.symm (fun j i h1 h2=>?_) j i hj (by simp);have hlt:j<s1.h.length:=by rw[<-hlen];exact aM h1
   have h2':¬j∈gids s1.bs g:=by simpa using h2
   obtain⟨r1,r2⟩:=qA2 o6 j s1.h[j] (List.getElem?_eq_getElem hlt) (by simpa using h2');rw[Nat.zero_add]at r2;rw[r2]at h1;injection h1 with h1;subst h1;have ht:¬j∈s'.tch:=by
    intro q;have:=List.all_eq_true.1 o7 j q;simp only[Bool.or_eq_true,List.contains_eq_mem,decide_eq_true_eq,Nat.ble_eq]at this;rcases this with q|q
    ·exact h2' q
    ·omega
   have he:=hn.h j hlt h2' ht;rw[List.getElem?_eq_getElem hlt]at he;exact⟨_,_,by rw[aL,he];rfl,by rw[aL,List.getElem?_eq_getElem hlt];rfl,r1⟩
 ·exact h.elim
def first:Code->Nat
 | .region id _ _=>id
 | .seq a _=>first a
 | .cond _ a _=>first a
 | .block _ a=>first a
 | .loop a=>first a
 |_=>0
def mL:(g:List GK)->Tup (gts g)->Bs->List V->(List V->Prop)->Prop
 | [],_,_,l,K=>K l
 | .sl d t::g,(y,r),b,l,K=>fV (t.val y) fun v=>iT l d v fun l=>mL g r b l K
 | .lst d t e::g,(y,r),b,l,K=>fN (iE b d) fun i=>iT l d (.oL i y.length) fun l=>mL g r b l K
 | .nls d t e::g,(y,r),b,l,K=>fN (iE b d) fun i=>iT l d (.sO i 0 y.length) fun l=>mL g r b l K
 | .ob _ _ _::g,(y,r),b,l,K=>mL g r b l K
 | .ar _ _ _::g,(y,r),b,l,K=>mL g r b l K
 | .op _ _ _::g,(y,r),b,l,K=>mL g r b l K
 | .row _ ks::g,y,b,l,K=>match tA (aB ks) (gts g) y with
   |(_,q)=>mL g q b l K
theorem lS:∀(g:List GK) (y:Tup (gts g)) (b:Bs) (l:List V) (K:List V->Prop),mL g y b l K=K (fT g y b l)
 | [],_,_,_,_=>rfl
 | .sl _ _::g,y,b,l,K=>by simp only[mL,fT,cD,cV,lS g]
 | .lst _ _ _::g,y,b,l,K=>by simp only[mL,fT,iI,cV,lS g]
 | .nls _ _ _::g,y,b,l,K=>by simp only[mL,fT,iI,cV,lS g]
 | .ob _ _ _::g,y,b,l,K=>by simp only[mL,fT,lS g]
 | .ar _ _ _::g,y,b,l,K=>by simp only[mL,fT,lS g]
 | .op _ _ _::g,y,b,l,K=>by simp only[mL,fT,lS g]
 | .row _ _::g,y,b,l,K=>by simp only[mL,fT,lS g]
def mV:(ks:List CK)->Tup (aB ks)->List V->List XO->(List XO->Prop)->Prop
 | .same::ks,y,_::r,h,K=>mV ks y r h K
 | .val _::ks,(_,y),_::r,h,K=>mV ks y r h K
 | .osf _::ks,(_,y),_::r,h,K=>mV ks y r h K
 | .own t e::ks,(l,y),c::r,h,K=>jQ h (idC c) (.opt t l e) fun h=>mV ks y r h K
 | .ows t e::ks,(l,y),c::r,h,K=>jQ h (idC c) (.tl t l e) fun h=>mV ks y r h K
 |_,_,_,h,K=>K h
theorem lC:∀(ks:List CK) (y:Tup (aB ks)) (r:List V) (h:List XO) (K:List XO->Prop),mV ks y r h K=K (mB ks y r h)
 | [],_,_,_,_=>rfl
 | .same::ks,_,[],_,_=>rfl
 | .val _::ks,_,[],_,_=>rfl
 | .own _ _::ks,_,[],_,_=>rfl
 | .ows _ _::ks,_,[],_,_=>rfl
 | .osf _::ks,_,[],_,_=>rfl
 | .same::ks,y,_::r,h,K=>lC ks y r h K
 | .val _::ks,(_,y),_::r,h,K=>lC ks y r h K
 | .osf _::ks,(_,y),_::r,h,K=>lC ks y r h K
 | .own t e::ks,(l,y),c::r,h,K=>by
   show jQ h (idC c) (.opt t l e) (fun h=>mV ks y r h K)=K (mB ks y r (h.set (idC c) (.opt t l e)));rw[cE,lC ks y r]
 | .ows t e::ks,(l,y),c::r,h,K=>by
   show jQ h (idC c) (.tl t l e) (fun h=>mV ks y r h K)=K (mB ks y r (h.set (idC c) (.tl t l e)));rw[cE,lC ks y r]
def mK:(g:List GK)->Tup (gts g)->Bs->List XO->(List XO->Prop)->Prop
 | [],_,_,h,K=>K h
 | .sl _ _::g,(y,r),b,h,K=>mK g r b h K
 | .lst d t e::g,(y,r),b,h,K=>jQ h (iE b d) (.opt t y e) fun h=>mK g r b h K
 | .nls d t e::g,(y,r),b,h,K=>jQ h (iE b d) (.tl t y e) fun h=>mK g r b h K
 | .ob id t e::g,(y,r),b,h,K=>jQ h id (.ob t y e) fun h=>mK g r b h K
 | .ar id t e::g,(y,r),b,h,K=>jQ h id (.tl t y e) fun h=>mK g r b h K
 | .op id t e::g,(y,r),b,h,K=>jQ h id (.opt t y e) fun h=>mK g r b h K
 | .row id ks::g,y,b,h,K=>match tA (aB ks) (gts g) y with
   |(c,q)=>fX (qL2 b id (gZ ks c (pX b id))) fun o=>jQ h id o fun h=>mV ks c (pX b id) h fun h=>mK g q b h K
theorem lR:∀(g:List GK) (y:Tup (gts g)) (b:Bs) (h:List XO) (K:List XO->Prop),mK g y b h K=K (fW g y b h)
 | [],_,_,_,_=>rfl
 | .sl _ _::g,y,b,h,K=>by simp only[mK,fW,lR g]
 | .lst _ _ _::g,y,b,h,K=>by simp only[mK,fW,cE,lR g]
 | .nls _ _ _::g,y,b,h,K=>by simp only[mK,fW,cE,lR g]
 | .ob _ _ _::g,y,b,h,K=>by simp only[mK,fW,cE,lR g]
 | .ar _ _ _::g,y,b,h,K=>by simp only[mK,fW,cE,lR g]
 | .op _ _ _::g,y,b,h,K=>by simp only[mK,fW,cE,lR g]
 | .row _ _::g,y,b,h,K=>by simp only[mK,fW,qKF,cE,lC,lR g]
def fS (W:List Nat) (g:List GK) (y:Tup (gts g)) (b:Bs) (k:List V->List XO->Prop):Prop:=fVs (nH W b.sl) fun l=>mL g y b l fun sl=>mK g y b b.h fun h=>k sl h
theorem LB (W:List Nat) (g:List GK) (y:Tup (gts g)) (b:Bs) (k:List V->List XO->Prop):fS W g y b k=k (fT g y b (nH W b.sl)) (fW g y b b.h):=by simp only[fS,kS,lS,lR]
def fdis (a b:List Nat×List Nat):Bool:=
 a.2.all (fun p=>b.1.all (fun q=>p != q)&&b.2.all (fun q=>p != q))&&b.2.all (fun p=>a.1.all (fun q=>p != q)&&a.2.all (fun q=>p != q))
def qLO (ops:Array Oper) (fs:List (List Nat×List Nat)) (i j:Nat):Bool:=
 dep ops ops.size i j||((match ops[i]?,ops[j]? with|some oi,some oj=>oj.apart ops oi|_,_=>true)&&(match fs[i]?,fs[j]? with|some a,some b=>fdis a b|_,_=>false))
def qTK (ops:Array Oper) (fs:List (List Nat×List Nat)):Bool:=
 (List.range ops.size).all fun i=>(List.range i).all fun j=>qLO ops fs i j
def qOY (ops:Array Oper):Bool:=
 (List.range ops.size).all fun i=>match ops[i]? with
   |some o=>o.after.toList.all fun e=>!Region.binds .any e||decide (e.on<i)
   |none=>true
theorem qGC {a b:List Nat×List Nat} (h:fdis a b=true):(∀p,p∈a.2->∀q,q∈b.1++b.2->p≠q)/\(∀p,p∈b.2->∀q,q∈a.1++a.2->p≠q):=by
 simp only[fdis,Bool.and_eq_true,List.all_eq_true,bne_iff_ne]at h;refine⟨fun p hp q hq=>?_,fun p hp q hq=>?_⟩
 ·rcases List.mem_append.1 hq with hq|hq
  ·exact(h.1 p hp).1 q hq
  ·exact(h.1 p hp).2 q hq
 ·rcases List.mem_append.1 hq with hq|hq
  ·exact(h.2 p hp).1 q hq
  ·exact(h.2 p hp).2 q hq
def mM:List XO->List XO
 | []=>[]
 |x::r=>match mM r,x with
  | [],.raw .free=>[]
  |r',.raw .free=>.raw .dead::r'
  |r',x=>x::r'
def qJ9 (base:Nat) (h:List XO):List XO:=h.take base++mM (h.drop base)
theorem qCH {sl:List V} {a:Act} {ι:Iota} {w:World}:∀(r pre:List XO),SR ⟨sl,dens (pre++r)⟩ ι a w->SR ⟨sl,dens (pre++mM r)⟩ ι a w/\Evolve (dens (pre++r)) ι w (dens (pre++mM r)) ι w
 | [],pre,h=>⟨h,Evolve.refl _ _ _⟩
 |x::r,pre,h=>by
  have h0:pre++x::r=(pre++ [x])++r:=by simp
  rw[h0]at h ⊢;obtain⟨h1,ev1⟩:=qCH r (pre++ [x]) h;have keep:mM (x::r)=x::mM r->SR ⟨sl,dens (pre++mM (x::r))⟩ ι a w/\Evolve (dens ((pre++ [x])++r)) ι w (dens (pre++mM (x::r))) ι w:=by
   intro q;rw[q,show pre++x::mM r=(pre++ [x])++mM r by simp];exact⟨h1,ev1⟩
  by_cases hx:x = .raw .free
  ·subst hx
   cases ht:mM r with
   |nil=>
    have hq:mM (.raw .free::r)= []:=by simp only[mM,ht]
    rw[ht]at h1 ev1;rw[hq];have hd:dens (pre++ [XO.raw .free]++ [])=dens pre++ [.free]:=by simp [dens,XO.den]
    rw[hd]at h1 ev1;obtain⟨h2,ev2⟩:=h1.unreserve;rw[List.append_nil];exact⟨h2,ev1.trans ev2⟩
   |cons y r'=>
    have hq:mM (.raw .free::r) = .raw .dead::y::r':=by simp only[mM,ht]
    rw[ht]at h1 ev1;rw[hq];have hf:(dens (pre++ [XO.raw .free]++y::r'))[pre.length]? =some .free:=by
     rw[aL];simp [XO.den]
    obtain⟨h2,ev2⟩:=h1.heap.fill hf;have hd:(dens (pre++ [XO.raw .free]++y::r')).set pre.length .dead=dens (pre ++ .raw .dead::y::r'):=by
     simp [dens,XO.den]
    rw[hd]at h2 ev2;exact⟨⟨h1.defers,h1.slots.mono ev2,h2⟩,ev1.trans ev2⟩
  ·refine keep ?_
   simp only[mM];split
   ·exact absurd rfl hx
   ·exact absurd rfl hx
   ·rfl
theorem qTL {sl:List V} {a:Act} {ι:Iota} {w:World} (base:Nat) (h:List XO) (r:SR ⟨sl,dens h⟩ ι a w):SR ⟨sl,dens (qJ9 base h)⟩ ι a w/\Evolve (dens h) ι w (dens (qJ9 base h)) ι w:=by
 have:=qCH (h.drop base) (h.take base) (by rw[List.take_append_drop];exact r);rwa [List.take_append_drop]at this
def niB:V->Bool
 | .v _=>true
 | .sL _ _=>true
 |_=>false
theorem qT8 {x:V} (h:niB x=true):NI 0 x:=by
 cases x<;>first|exact .v _|exact .sL _ _|cases h
def fzV (id n sz:Nat) (rows:List (List V)) (x:V):V:=match x with
 | .sO i 0 m=>(match Nat.beq i id,Nat.beq m n with
   |true,true=>.sF sz rows
   |_,_=>.sO i 0 m)
 |x=>x
def fzS (W:List Nat) (id n sz:Nat) (rows:List (List V)):Nat->List V->List V
 |_,[]=>[]
 |i,x::r=>(match W.any (fun j=>Nat.beq j i)with
  |true=>fzV id n sz rows x
  |false=>x)::fzS W id n sz rows (i+1) r
theorem qPF {id sz:Nat} {rows:List (List V)} (x:V):frzV (.sO id 0 rows.length) (.sF sz rows) x (fzV id rows.length sz rows x):=by
 unfold fzV;split
 ·rename_i i m
  split
  ·rename_i h1 h2
   have:=Nat.eq_of_beq_eq_true h1;have:=Nat.eq_of_beq_eq_true h2;subst_vars
   exact .it
  ·exact .same
 ·exact .same
theorem PB {W:List Nat} {id sz:Nat} {rows:List (List V)}:∀(l:List V) (i:Nat),frzVs (.sO id 0 rows.length) (.sF sz rows) l (fzS W id rows.length sz rows i l)
 | [],_=>.nil
 |x::l,i=>by
  simp only[fzS];split
  ·exact .cons (qPF x) (PB l _)
  ·exact .same (PB l _)
theorem qA4 {W:List Nat} {id n sz:Nat} {rows:List (List V)}:∀(l:List V) (i:Nat),(fzS W id n sz rows i l).length=l.length
 | [],_=>rfl
 |x::l,i=>by simp only[fzS,List.length_cons,qA4 l]
theorem LK {W:List Nat} {id n sz:Nat} {rows:List (List V)}:∀(l:List V) (i j:Nat),¬(i+j)∈W->(fzS W id n sz rows i l)[j]? =l[j]?
 | [],_,_,_=>rfl
 |x::l,i,0,h=>by
  have:(W.any fun j=>Nat.beq j i)=false:=by
   rw[List.any_eq_false];intro k hk hq;have:=Nat.eq_of_beq_eq_true hq;subst this;exact h hk
  simp only[fzS,this,List.getElem?_cons_zero]
 |x::l,i,j+1,h=>by
  simp only[fzS,List.getElem?_cons_succ];exact LK l (i+1) j (by rwa [show i+1+j=i+(j+1)by omega])
def qKK (f r:Nat):List (Nat×Nat×Nat)->List Nat
 | []=>[]
 |(a,b,c)::q=>match Nat.beq a f,Nat.beq b r,Nat.ble 1000000 c with
  |true,true,true=>(c-1000000)::qKK f r q
  |_,_,_=>qKK f r q
def fzK (W:List Nat) (base:Nat):List Nat->List V->List XO->(List V->List XO->Prop)->Prop
 | [],sl,h,K=>K sl h
 |id::r,sl,h,K=>match Nat.ble base id with
  |true=>(match h[id]? with
   |some (.raw (.live o))=>(match o.rows.all (fun r=>r.all niB)with
    |true=>fVs (fzS W id o.rows.length o.sz o.rows 0 sl) fun sl=>fH (h.set id (.raw .dead)) fun h=>fzK W base r sl h K
    |false=>False)
   |_=>False)
  |false=>False
theorem qKL {n0:Nat} {W:List Nat} {base:Nat}:∀(ids:List Nat) (sl:List V) (h:List XO) (K:List V->List XO->Prop),fzK W base ids sl h K ->
  ∃sl' h',K sl' h'/\sl'.length=sl.length/\(∀i,¬i∈W->sl'[i]? =sl[i]?)/\h'.length=h.length/\(∀j,j<base->h'[j]? =h[j]?)/\yO n0 ⟨sl,dens h⟩ ⟨sl',dens h'⟩
 | [],sl,h,K,hk=>⟨sl,h,hk,rfl,fun _ _=>rfl,rfl,fun _ _=>rfl,fun{ι a w} r=>⟨ι,r,EvN.of (Evolve.refl _ _ _)⟩⟩
 |id::r,sl,h,K,hk=>by
  simp only[fzK]at hk;split at hk
  ·rename_i hb
   split at hk
   ·rename_i o ho
    split at hk
    ·rename_i hn
     rw[kS,dO]at hk;obtain⟨sl',h',k1,k2,k3,k4,k5,k6⟩:=qKL (n0:=n0) r _ _ K hk;refine⟨sl',h',k1,k2.trans (qA4 _ _),fun i hi=>(k3 i hi).trans (LK _ 0 i (by rwa [Nat.zero_add])),by rw[k4];simp,fun j hj=>?_,?_⟩
     ·have:=Nat.le_of_ble_eq_true hb
      rw[k5 j hj,List.getElem?_set_ne (by omega)]
     ·refine yO.trans (b:=⟨fzS W id o.rows.length o.sz o.rows 0 sl,dens (h.set id (.raw .dead))⟩) (fun{ι a w} q=>⟨ι,?_⟩) k6
      have hd:(dens h)[id]? =some (.live ⟨o.sz,o.rows,o.elem⟩):=by rw[aL,ho];rfl
      have hr:NIr 0 o.rows:=fun r hr x hx=>qT8 (List.all_eq_true.1 (List.all_eq_true.1 hn r hr) x hx)
      obtain⟨r1,ev⟩:=xE q hd hr (PB sl 0);rw[aU];exact⟨r1,EvN.of ev⟩
    ·exact hk.elim
   ·exact hk.elim
  ·exact hk.elim
theorem FrW.mk' {W:List Nat} {s s':Y} (h1:s.h.length<=s'.h.length) (h2:∀j,j∈s.tch->j∈s'.tch) (h3:∀j,j<s.h.length->¬j∈s'.tch->s'.h[j]? =s.h[j]?) (h4:s'.sl.length=s.sl.length) (h5:∀i,¬i∈W->s'.sl[i]? =s.sl[i]?):FrW W s s':=⟨⟨h1,h2,h3⟩,h4,h5⟩
def qAU (f r:Nat):List (Nat×Nat×Nat)->List Nat
 | []=>[]
 |(a,b,c)::q=>match Nat.beq a f,Nat.beq b r,Nat.ble 3000000 c with
  |true,true,true=>(c-3000000)::qAU f r q
  |_,_,_=>qAU f r q
def qUH (n:Nat) (h:List XO):List XO:=h++List.replicate (n-h.length) (.raw .dead)
theorem qLN {sl:List V} {a:Act} {w:World} {ι:Iota}:∀(m:Nat) (h:List XO),SR ⟨sl,dens h⟩ ι a w->SR ⟨sl,dens (h++List.replicate m (.raw .dead))⟩ ι a w/\Evolve (dens h) ι w (dens (h++List.replicate m (.raw .dead))) ι w
 |0,h,r=>by rw[List.replicate_zero,List.append_nil];exact⟨r,Evolve.refl _ _ _⟩
 |m+1,h,r=>by
  obtain⟨r1,ev1⟩:=r.reserve 1;simp only[List.replicate_one]at r1 ev1;have hf:(dens h++ [HS.free])[(dens h).length]? =some .free:=by simp
  obtain⟨H2,ev2⟩:=r1.heap.fill hf;have hd:(dens h++ [HS.free]).set (dens h).length .dead=dens (h++ [.raw .dead]):=by simp [dens,XO.den]
  simp only[hd]at H2 ev2;obtain⟨r3,ev3⟩:=qLN m (h++ [.raw .dead]) ⟨r1.defers,r1.slots.mono ev2,H2⟩;have e:h++ [XO.raw .dead]++List.replicate m (.raw .dead)=h++List.replicate (m+1) (.raw .dead):=by rw[List.replicate_succ];simp
  rw[e]at r3 ev3;exact⟨r3,(ev1.trans ev2).trans ev3⟩
def wV (id d:Nat):List Nat->List V->(List V->Prop)->Prop
 | [],sl,K=>K sl
 |j::W,sl,K=>match Nat.beq j d with
  |true=>wV id d W sl K
  |false=>(match sl[j]? with
   |some (.sO i _ _)=>(match Nat.beq i id with
    |true=>iT sl j .any fun sl=>wV id d W sl K
    |false=>wV id d W sl K)
   |some (.oL i _)=>(match Nat.beq i id with
    |true=>iT sl j .any fun sl=>wV id d W sl K
    |false=>wV id d W sl K)
   |some (.pO i _ _)=>(match Nat.beq i id with
    |true=>iT sl j .any fun sl=>wV id d W sl K
    |false=>wV id d W sl K)
   |_=>wV id d W sl K)
theorem CN {id d:Nat}:∀(W:List Nat) (sl:List V) (K:List V->Prop),wV id d W sl K->∃sl':List V,K sl'/\sl'.length=sl.length/\(∀i,¬i∈W->sl'[i]? =sl[i]?)/\∀ {h:Heap} {ι:Iota} {a:Act} {w:World},SR ⟨sl,h⟩ ι a w->SR ⟨sl',h⟩ ι a w
 | [],sl,K,hk=>⟨sl,hk,rfl,fun _ _=>rfl,fun r=>r⟩
 |j::W,sl,K,hk=>by
  have up:∀ {sl2:List V},wV id d W sl2 K->sl2.length=sl.length->(∀i,¬i=j->sl2[i]? =sl[i]?)->(∀ {h:Heap} {ι:Iota} {a:Act} {w:World},SR ⟨sl,h⟩ ι a w->SR ⟨sl2,h⟩ ι a w)->∃sl':List V,K sl'/\sl'.length=sl.length/\(∀i,¬i∈j::W->sl'[i]? =sl[i]?)/\∀ {h:Heap} {ι:Iota} {a:Act} {w:World},SR ⟨sl,h⟩ ι a w->SR ⟨sl',h⟩ ι a w:=by
   intro sl2 h2 hl hi hr;obtain⟨sl',k1,k2,k3,k4⟩:=CN W sl2 K h2;exact⟨sl',k1,k2.trans hl,fun i hn=>(k3 i (fun q=>hn (List.mem_cons_of_mem _ q))).trans (hi i (fun q=>hn (by rw[q];exact List.mem_cons_self ..))),fun r=>k4 (hr r)⟩
  simp only[wV]at hk;split at hk
  ·exact up hk rfl (fun _ _=>rfl) (fun r=>r)
  ·split at hk
   ·rename_i i a b hj
    split at hk
    ·rw[cV]at hk
     exact up hk (by simp) (fun i hi=>List.getElem?_set_ne (fun q=>hi q.symm)) (fun r=>r.setLE hj (fun _=>.any _))
    ·exact up hk rfl (fun _ _=>rfl) (fun r=>r)
   ·rename_i i a hj
    split at hk
    ·rw[cV]at hk
     exact up hk (by simp) (fun i hi=>List.getElem?_set_ne (fun q=>hi q.symm)) (fun r=>r.setLE hj (fun _=>.any _))
    ·exact up hk rfl (fun _ _=>rfl) (fun r=>r)
   ·rename_i i a b hj
    split at hk
    ·rw[cV]at hk
     exact up hk (by simp) (fun i hi=>List.getElem?_set_ne (fun q=>hi q.symm)) (fun r=>r.setLE hj (fun _=>.any _))
    ·exact up hk rfl (fun _ _=>rfl) (fun r=>r)
   ·exact up hk rfl (fun _ _=>rfl) (fun r=>r)
def cvK (W:List Nat):List Nat->Y->(Y->Prop)->Prop
 | [],s,K=>K s
 |d::r,s,K=>match s with
  |⟨sl,h,tch,an⟩=>(
   match Nat.ble 1000000 d with
   |true=>fH (qUH (d-1000000) h) fun h=>cvK W r ⟨sl,h,tch,an⟩ K
   |false=>(match Nat.ble 500000 d with
      |true=>(match sl[d-500000]? with
       |some (.sO id _ _)=>wV id (d-500000) W sl fun sl=>cvK W r ⟨sl,h,tch,an⟩ K
       |some (.oL id _)=>wV id (d-500000) W sl fun sl=>cvK W r ⟨sl,h,tch,an⟩ K
       |_=>False)
      |false=>
      match Nat.ble 250000 d with
      |true=>(match W.any (fun j=>Nat.beq j (d-250000))with
       |true=>(match sl[d-250000]? with
        |some _=>iT sl (d-250000) .any fun sl=>cvK W r ⟨sl,h,tch,an⟩ K
        |none=>False)
       |false=>False)
      |false=>
      (match W.any (fun j=>Nat.beq j d)with
      |true=>(match sl[d]? with
       |some (.sO id 0 n)=>(match h[id]? with
        |some (.tl t l e)=>needs [decide (n=l.length),decide (0<l.length)] (iT sl d (.oL id n) fun sl=>wV id d W sl fun sl=>jQ h id (.opt t l e) fun h=>cvK W r ⟨sl,h,id::tch,an⟩ K)
        |_=>False)
       |_=>False)
      |false=>False)))
theorem LE.sOL {id n:Nat} (h:0<n):LE (.sO id 0 n) (.oL id n):=fun r=>.oL _ _ _ (by rw[if_neg (by omega)];exact r)
theorem zG {W:List Nat}:∀(ids:List Nat) (s:Y) (K:Y->Prop),cvK W ids s K->∃s':Y,K s'/\FrW W s s'/\∀ {ι:Iota} {a:Act} {w:World},SR s.den ι a w->SR s'.den ι a w/\Evolve (dens s.h) ι w (dens s'.h) ι w
 | [],s,K,hk=>⟨s,hk,FrW.refl _ _,fun r=>⟨r,Evolve.refl _ _ _⟩⟩
 |d::r,⟨sl,h,tch,an⟩,K,hk=>by
  simp only[cvK]at hk;split at hk
  ·rw[dO]at hk
   obtain⟨s',k1,k2,k3⟩:=zG r _ K hk;refine⟨s',k1,FrW.trans (b:=⟨sl,qUH (d-1000000) h,tch,an⟩) (.mk' (by simp [qUH]) (fun j hj=>hj) (fun j hj hq=>?_) rfl (fun i hi=>rfl)) k2,fun{ι a w} q=>?_⟩
   ·exact List.getElem?_append_left hj
   ·obtain⟨r1,ev1⟩:=qLN (d-1000000-h.length) h q
    obtain⟨g1,g2⟩:=k3 r1;exact⟨g1,ev1.trans g2⟩
  split at hk
  ·split at hk
   ·rename_i id _ _ hd
    obtain⟨sl2,hk,c2,c3,c4⟩:=CN W _ _ hk;obtain⟨s',k1,k2,k3⟩:=zG r _ K hk;refine⟨s',k1,FrW.trans (b:=⟨sl2,h,tch,an⟩) (.mk' (Nat.le_refl _) (fun j hj=>hj) (fun j hj hq=>rfl) c2 (fun i hi=>c3 i hi)) k2,fun{ι a w} q=>?_⟩;have q2:SR ⟨sl,dens h⟩ ι a w:=q;exact k3 (c4 q2)
   ·rename_i id _ hd
    obtain⟨sl2,hk,c2,c3,c4⟩:=CN W _ _ hk;obtain⟨s',k1,k2,k3⟩:=zG r _ K hk;refine⟨s',k1,FrW.trans (b:=⟨sl2,h,tch,an⟩) (.mk' (Nat.le_refl _) (fun j hj=>hj) (fun j hj hq=>rfl) c2 (fun i hi=>c3 i hi)) k2,fun{ι a w} q=>?_⟩;have q2:SR ⟨sl,dens h⟩ ι a w:=q;exact k3 (c4 q2)
   ·exact hk.elim
  split at hk
  ·split at hk
   ·rename_i hW
    split at hk
    ·rename_i x hd
     rw[cV]at hk;obtain⟨s',k1,k2,k3⟩:=zG r _ K hk;have hdW:d-250000∈W:=by
      obtain⟨j,hj,hq⟩:=List.any_eq_true.1 hW;exact(Nat.eq_of_beq_eq_true hq) ▸ hj
     refine⟨s',k1,FrW.trans (b:=⟨sl.set (d-250000) .any,h,tch,an⟩) (.mk' (Nat.le_refl _) (fun j hj=>hj) (fun j hj hq=>rfl) (by simp) (fun i hi=>List.getElem?_set_ne (fun p=>hi (by rw[<-p];exact hdW)))) k2,fun{ι a w} q=>?_⟩;have q:SR ⟨sl,dens h⟩ ι a w:=q;exact k3 (q.setLE hd (fun _=>.any _))
    ·exact hk.elim
   ·exact hk.elim
  split at hk
  ·rename_i hW
   split at hk
   ·rename_i id n hd
    split at hk
    ·rename_i t l e ho
     obtain⟨hc,hk⟩:=bI hk;rw[cV]at hk;obtain⟨sl2,hk,c2,c3,c4⟩:=CN W _ _ hk;rw[cE]at hk;have hn:n=l.length:=of_decide_eq_true (hc _ (by simp));have h0:0<l.length:=of_decide_eq_true (hc _ (by simp));have hne:l.isEmpty=false:=by cases l with
      |nil=>simp at h0
      |cons a b=>rfl
     have hlt:=aM ho;have hden:dens (h.set id (.opt t l e))=dens h:=by
      rw[aU];apply List.ext_getElem?;intro j;by_cases q:id=j
      ·subst q
       rw[List.getElem?_set_self (by rw[dB];exact hlt),aL,ho];simp [XO.den,hne]
      ·rw[List.getElem?_set_ne q]
     obtain⟨s',k1,k2,k3⟩:=zG r _ K hk;have hdW:d∈W:=by
      obtain⟨j,hj,hq⟩:=List.any_eq_true.1 hW;have:=Nat.eq_of_beq_eq_true hq;subst this;exact hj
     refine⟨s',k1,FrW.trans (.mk' (by simp) (fun j hj=>List.mem_cons_of_mem _ hj) (fun j hj hq=>?_) (by rw[c2];simp) (fun i hi=>?_)) k2,fun{ι a w} q=>?_⟩
     ·refine List.getElem?_set_ne (fun p=>hq ?_)
      rw[<-p];exact List.mem_cons_self ..
     ·refine(c3 i hi).trans (List.getElem?_set_ne (fun p=>hi ?_))
      rw[<-p];exact hdW
     ·have q2:SR ⟨sl,dens h⟩ ι a w:=q
      have q3:=c4 (q2.setLE hd (LE.sOL (n:=n) (by omega)));rw[<-hden]at q3;obtain⟨g1,g2⟩:=k3 q3;refine⟨g1,?_⟩;simp only[hden]at g2;exact g2
    ·exact hk.elim
   ·exact hk.elim
  ·exact hk.elim
def xdraw (E:Env) (id:Nat) (ops:Array Oper) (s:Y) (K:Y->Prop):Prop:=
 match s with
 |⟨sl,h,tch,an⟩=>Kern (qOY ops)/\fN h.length fun base=>fN (qU E.T ops.toList) fun tot=>fH (h++List.replicate (tot+1) (.raw .free)) fun h1=>xdrw E ops id base tot ops.toList 0 0 ⟨sl,h1,tch,an⟩ fun s' fs=>
  Kern (qTK ops fs)/\match s' with|⟨sl',h',tch',an'⟩=>fH (qJ9 base h') fun h'=>fzK (lV ops.toList) base (qKK E.fid id E.flip) sl' h' fun sl' h'=>K ⟨sl',h',tch',an'⟩
def TC (Q:Exit->Y->Prop) (k:Y->Prop):Exit->Y->Prop:=fun e s'=>match e with
 | .normal=>k s'
 |e=>Q e s'
def qE3 (body:Y->(Exit->Y->Prop)->Prop) (Q:Exit->Y->Prop) (s:Y):Prop:=
 body s (TC Q fun s=>body s (TC Q fun s=>body s (TC Q fun s=>body s (TC Q fun _=>False))))
def xcode (E:Env) (c:Code):Y->(Exit->Y->Prop)->Prop:=Code.rec (motive:=fun _=>Y->(Exit->Y->Prop)->Prop)
 (fun s Q=>Q .normal s)
 (fun id ops dr s Q=>match dr with
   |false=>xops E ops id ops.toList 0 s fun s'=>cvK (lV ops.toList) (qAU E.fid id E.flip) s' (Q .normal)
   |true=>xdraw E id ops s (Q .normal))
 (fun a b iha ihb s Q=>match s with
   |⟨sl,h,tch,an⟩=>match find an E.fid (2*first b+1)with
    |none=>iha ⟨sl,h,tch,an⟩ fun e s'=>match e with
     | .normal=>ihb s' Q
     |e=>Q e s'
    |some (.mk g inv _ next)=>xS g sl h fun sl h=>(iha ⟨sl,h,[],an⟩ fun e s'=>match e with
     | .normal=>(match s' with|⟨sl',h',tch',an'⟩=>xS g sl' h' fun sl' h'=>arrive E.n0 (wr a) g ⟨sl,h,tch,an⟩ ⟨sl',h',tch',an'⟩ fun y=>Side (inv y))
     |e=>Q e ⟨s'.sl,s'.h,s'.tch++(gids ⟨sl,h⟩ g++tch),an⟩)/\(Kern ((gslots g).all fun d=>(wr a).contains d)/\∀y,inv y->fS (wr a) g y ⟨sl,h⟩ fun sl' h'=>ihb ⟨sl',h',gids ⟨sl,h⟩ g++tch,next y++an⟩ fun e s'=>Q e ⟨s'.sl,s'.h,s'.tch,an⟩))
 (fun c a b iha ihb s Q=>match s with
   |⟨sl,h,tch,an⟩=>match c with
    | .tmp d=>match sl[d]? with
      |some (.v (.bool t))=>br t (iT sl d (.v (.bool true)) fun sl=>iha ⟨sl,h,tch,an⟩ Q) (iT sl d (.v (.bool false)) fun sl=>ihb ⟨sl,h,tch,an⟩ Q)
      |_=>False
    |c=>match aev sl c with
     | .v (.bool t)=>br t (iha ⟨sl,h,tch,an⟩ Q) (ihb ⟨sl,h,tch,an⟩ Q)
     |_=>False)
 (fun id a iha s Q=>iha s fun e s'=>match e with
   | .exit i=>match Nat.beq i id with
     |true=>Q .normal s'
     |false=>Q (.exit i) s'
   |e=>Q e s')
 (fun c ih s Q=>match s with
   |⟨sl,h,tch,an⟩=>match find an E.fid (2*first c)with
    |none=>(match flips E.flip E.fid (first c) 2000000 with
     |true=>qE3 (fun s K=>ih s K) Q ⟨sl,h,tch,an⟩
     |false=>False)
    |some (.mk g inv mu next)=>xS g sl h fun sl h=>arrive E.n0 (wr c) g ⟨sl,h,tch,an⟩ ⟨sl,h,[],an⟩ fun y=>Side (inv y) /\
     ∀y,inv y->fS (wr c) g y ⟨sl,h⟩ fun sl' h'=>ih ⟨sl',h',[],next y++an⟩ fun e s'=>match e with
      | .normal=>(match s' with|⟨sl',h',tch',an'⟩=>xS g sl' h' fun sl' h'=>arrive E.n0 (wr c) g ⟨sl,h,tch,an⟩ ⟨sl',h',tch',an'⟩ fun y'=>Side (inv y')/\Side (mu y'<mu y))
      |e=>Q e ⟨s'.sl,s'.h,s'.tch++(gids ⟨sl,h⟩ g++tch),an⟩)
 (fun _ _ _ _ _ _ _ _=>False)
 (fun id s Q=>Q (.exit id) s)
 (fun _ _ _ _=>False)
 (fun _ _ _=>False)
 (fun _ _ _=>False)
 (fun s Q=>Q .ret s)
 (fun _ _ _=>False) c
theorem qH4 (E:Env) (a b:Code) (sl:List V) (h:List XO) (tch:List Nat) (an:List (Nat×Nat×LA)) (Q:Exit->Y->Prop):xcode E (.seq a b) ⟨sl,h,tch,an⟩ Q=(match find an E.fid (2*first b+1)with
 |none=>xcode E a ⟨sl,h,tch,an⟩ fun e s'=>match e with
  | .normal=>xcode E b s' Q
  |e=>Q e s'
 |some (.mk g inv _ next)=>xS g sl h fun sl h=>(xcode E a ⟨sl,h,[],an⟩ fun e s'=>match e with
  | .normal=>(match s' with|⟨sl',h',tch',an'⟩=>xS g sl' h' fun sl' h'=>arrive E.n0 (wr a) g ⟨sl,h,tch,an⟩ ⟨sl',h',tch',an'⟩ fun y=>Side (inv y))
  |e=>Q e ⟨s'.sl,s'.h,s'.tch++(gids ⟨sl,h⟩ g++tch),an⟩)/\(Kern ((gslots g).all fun d=>(wr a).contains d)/\∀y,inv y->fS (wr a) g y ⟨sl,h⟩ fun sl' h'=>xcode E b ⟨sl',h',gids ⟨sl,h⟩ g++tch,next y++an⟩ fun e s'=>Q e ⟨s'.sl,s'.h,s'.tch,an⟩)):=rfl
theorem qAI (E:Env) (c:Operand) (a b:Code) (sl:List V) (h:List XO) (tch:List Nat) (an:List (Nat×Nat×LA)) (Q:Exit->Y->Prop):xcode E (.cond c a b) ⟨sl,h,tch,an⟩ Q=(match c with
 | .tmp d=>match sl[d]? with
   |some (.v (.bool t))=>br t (iT sl d (.v (.bool true)) fun sl=>xcode E a ⟨sl,h,tch,an⟩ Q) (iT sl d (.v (.bool false)) fun sl=>xcode E b ⟨sl,h,tch,an⟩ Q)
   |_=>False
 |c=>match aev sl c with
  | .v (.bool t)=>br t (xcode E a ⟨sl,h,tch,an⟩ Q) (xcode E b ⟨sl,h,tch,an⟩ Q)
  |_=>False):=rfl
theorem qAJ (E:Env) (c:Code) (sl:List V) (h:List XO) (tch:List Nat) (an:List (Nat×Nat×LA)) (Q:Exit->Y->Prop):xcode E (.loop c) ⟨sl,h,tch,an⟩ Q=(match find an E.fid (2*first c)with
 |none=>(match flips E.flip E.fid (first c) 2000000 with
  |true=>qE3 (fun s K=>xcode E c s K) Q ⟨sl,h,tch,an⟩
  |false=>False)
 |some (.mk g inv mu next)=>xS g sl h fun sl h=>arrive E.n0 (wr c) g ⟨sl,h,tch,an⟩ ⟨sl,h,[],an⟩ fun y=>Side (inv y) /\
  ∀y,inv y->fS (wr c) g y ⟨sl,h⟩ fun sl' h'=>xcode E c ⟨sl',h',[],next y++an⟩ fun e s'=>match e with
   | .normal=>(match s' with|⟨sl',h',tch',an'⟩=>xS g sl' h' fun sl' h'=>arrive E.n0 (wr c) g ⟨sl,h,tch,an⟩ ⟨sl',h',tch',an'⟩ fun y'=>Side (inv y')/\Side (mu y'<mu y))
   |e=>Q e ⟨s'.sl,s'.h,s'.tch++(gids ⟨sl,h⟩ g++tch),an⟩):=rfl
def WQ (W:List Nat) (s:Y) (Q:Exit->Y->Prop):Exit->St->Prop:=fun e st=>∃s':Y,st=s'.den/\Q e s'/\FrW W s s'
theorem PV.brk {n:Nat} {P:Program} {Q:Exit->St->Prop} {s:St} {c:Operand} {a b:Code} (h:∃t:Bool,aev s.sl c = .v (.bool t)/\(t=true->PV n P a s Q)/\(t=false->PV n P b s Q)):PV n P (.cond c a b) s Q:=by
 obtain⟨t,h1,h2,h3⟩:=h;refine PV.cond h1 ?_;cases t with
 |true=>exact h2 rfl
 |false=>exact h3 rfl
theorem HA {sl:List V} {d:Nat} {x:V} (h:sl[d]? =some x):sl.set d x=sl:=by
 have hlt:=aM h;rw[List.getElem?_eq_getElem hlt]at h;injection h with h;rw[<-h,List.set_getElem_self]
theorem zM {W:List Nat} {g:List GK} {y:Tup (gts g)} {sl:List V} {h:List XO} {tch t0:List Nat} {an an':List (Nat×Nat×LA)} {s':Y} (hW:∀d,d∈gslots g->d∈W)
  (f:FrW W ⟨fT g y ⟨sl,h⟩ (nH W sl),fW g y ⟨sl,h⟩ h,[],an'⟩ s'):Near W (gids ⟨sl,h⟩ g) ⟨sl,h,tch,an⟩ s'/\h.length<=s'.h.length:=by
 refine⟨⟨fun i hi=>?_,?_,fun j hj hg ht=>?_⟩,?_⟩
 ·rw[f.sl i hi]
  simp only;rw[fG g _ _ _ i (fun q=>hi (hW i q)),rQ _ _ _ hi]
 ·rw[f.len];simp only[iU,zA]
 ·rw[f.fr.h j (by simpa [hU]using hj) ht]
  exact gG g _ _ _ j hg
 ·have:=f.fr.len;simpa [hU]using this
theorem qKJ {W:List Nat} {g:List GK} {y:Tup (gts g)} {sl:List V} {h:List XO} {tch:List Nat} {an an':List (Nat×Nat×LA)} (hW:∀d,d∈gslots g->d∈W) :
  FrW W ⟨sl,h,tch,an⟩ ⟨fT g y ⟨sl,h⟩ (nH W sl),fW g y ⟨sl,h⟩ h,gids ⟨sl,h⟩ g++tch,an'⟩:=by
 refine .mk' (by simp [hU]) (fun j hj=>by simp [hj]) (fun j hj hn=>?_) (by simp [iU,zA]) (fun i hi=>?_)
 ·exact gG g _ _ _ j (fun q=>hn (by simp [q]))
 ·simp only
  rw[fG g _ _ _ i (fun q=>hi (hW i q)),rQ _ _ _ hi]
theorem uX {W:List Nat} {g:List GK} {y:Tup (gts g)} {sl:List V} {h:List XO} {tch:List Nat} {an an' an2:List (Nat×Nat×LA)} {s':Y} (hW:∀d,d∈gslots g->d∈W)
  (f:FrW W ⟨fT g y ⟨sl,h⟩ (nH W sl),fW g y ⟨sl,h⟩ h,[],an'⟩ s'):FrW W ⟨sl,h,tch,an⟩ ⟨s'.sl,s'.h,s'.tch++(gids ⟨sl,h⟩ g++tch),an2⟩:=by
 obtain⟨n1,n2⟩:=zM (tch:=tch) (t0:=[]) (an:=an) hW f;refine .mk' n2 (fun j hj=>by simp [hj]) (fun j hj hn=>?_) n1.len n1.sl;simp only[List.mem_append,not_or]at hn;exact n1.h j hj hn.2.1 hn.1
theorem PV.cut {n:Nat} {P:Program} {Q:Exit->St->Prop} {s s2:St} {c:Code} (hc:yO n s s2) (h:PV n P c s2 Q):PV n P c s Q:=PV.post (fun r=>hc r) h
theorem FrW.prep {W:List Nat} {g:List GK} {b:Bs} {sl sl1:List V} {h h1:List XO} {tch:List Nat} {an an1:List (Nat×Nat×LA)} {s2:Y} (hW:∀d,d∈gslots g->d∈W) (p1:sl1.length=sl.length) (p2:∀i,¬i∈gslots g->sl1[i]? =sl[i]?) (p3:h.length<=h1.length)
  (p4:∀j,j<h.length->¬j∈kZ g->h1[j]? =h[j]?) (f:FrW W ⟨sl1,h1,tch,an1⟩ s2) (ht:∀j,j∈gids b g->j∈s2.tch):FrW W ⟨sl,h,tch,an⟩ s2:=
 .mk' (Nat.le_trans p3 f.fr.len) f.fr.tch (fun j hj hn=>(f.fr.h j (Nat.lt_of_lt_of_le hj p3) hn).trans (p4 j hj (fun q=>hn (ht j (dT q))))) (f.len.trans p1) (fun i hi=>(f.sl i hi).trans (p2 i (fun q=>hi (hW i q))))
theorem Near.prep {W gi:List Nat} {g:List GK} {s1:Y} {sl sl1:List V} {h h1:List XO} {tch:List Nat} {an an1:List (Nat×Nat×LA)} (hW:∀d,d∈gslots g->d∈W) (n:Near W gi s1 ⟨sl,h,tch,an⟩) (n2:s1.h.length<=h.length) (p1:sl1.length=sl.length) (p2:∀i,¬i∈gslots g->sl1[i]? =sl[i]?)
  (p4:∀j,j<h.length->¬j∈kZ g->h1[j]? =h[j]?) (hgi:∀j,j∈kZ g->j∈gi):Near W gi s1 ⟨sl1,h1,tch,an1⟩:=
 ⟨fun i hi=>(p2 i (fun q=>hi (hW i q))).trans (n.sl i hi),p1.trans n.len,fun j hj hg ht=>(p4 j (Nat.lt_of_lt_of_le hj n2) (fun q=>hg (hgi j q))).trans (n.h j hj hg ht)⟩
theorem qFC.run {P:Program} {ops:Array Oper} {ds all:List Dat}:∀ {i:Nat} {s s':St},qFC P ops i ds s s'->(∀(m:Nat) (d:Dat),ds[m]? =some d->all[i+m]? =some d)->Run P ops (fun j=>(all[j]?).getD default) (List.range' i ds.length) s s':=by
 induction ds with
 |nil=>intro i s s' h _;exact h
 |cons d ds ih=>
  intro i s s' ⟨s1,h1,h2⟩ hall;simp only[List.length_cons,List.range'_succ];refine⟨s1,?_,ih h2 (fun m e he=>?_)⟩
  ·have:all[i]? =some d:=by simpa using hall 0 d rfl
   unfold AS at h1 ⊢;simp only[this,Option.getD_some];exact h1
  ·rw[show i+1+m=i+(m+1)by omega]
   exact hall (m+1) e (by simpa using he)
theorem PV.weak {n:Nat} {P:Program} {Q Q2:Exit->St->Prop} {s:St} {c:Code} (h:PV n P c s Q) (hq:∀e st,Q e st->∃st2,Q2 e st2/\∀ {ι:Iota} {a:Act} {w:World},SR st ι a w->∃ι',SR st2 ι' a w/\EvN n st.h ι w st2.h ι' w):PV n P c s Q2:=
 fun ι a w r=>wp_mono (h ι a w r) fun e a' w' ⟨s',ι',q,r',ev⟩=>by
  obtain⟨st2,q2,hr⟩:=hq e s' q;obtain⟨ι2,r2,ev2⟩:=hr r';exact⟨st2,ι2,q2,r2,ev.trans ev2⟩
theorem qH5 {E:Env} (hT:aD E.P E.T) (hM:E.P.follows .mixedOrders=true) {id:Nat} {ops:Array Oper} {s:Y} {K:Y->Prop} (h:xdraw E id ops s K) (W:(Exit->Act->World->Prop)->Act->World->Prop)
  (hmono:∀ {Q Q':Exit->Act->World->Prop} {a:Act} {w:World},W Q a w->(∀e a w,Q e a w->Q' e a w)->W Q' a w)
  (hops:∀ {Q:Exit->Act->World->Prop} {a:Act} {w:World},¬LetsOut Q->(∀t,wpOps E.P ops Q (Region.schedule (E.P.follows .mixedOrders) ops t) a {w with drawn:=w.drawn+1})->W Q a w) :
  ∀(ι:Iota) (a:Act) (w:World),SR s.den ι a w->W (qIA E.n0 s.den ι w (fun e st=>e = .normal/\∃s',st=s'.den/\K s'/\FrW (lV ops.toList) s s')) a w:=by
 obtain⟨sl,hp,tch,an⟩:=s;simp only[xdraw]at h;obtain⟨⟨he⟩,h⟩:=h;rw[iI,iI,dO]at h;obtain⟨ds,fs,s',g1,g2,g3,⟨⟨hd⟩,g4⟩,g5⟩:=qE6 (ops:=ops) (W:=lV ops.toList) hT ops.toList 0 0 _ _ (fun j o hj=>by rw[Nat.zero_add];simpa using hj) (fun o ho d hd=>HM ho d hd) h;obtain⟨sl',h',tch',an'⟩:=s';(try simp only at g4);rw[dO]at g4;have hedge:∀(i:Nat) (o:Oper),ops[i]? =some o->∀e∈o.after,Region.binds .any e=true->e.on<i:=by
  intro i o ho e hem hb;have hi:i<ops.size:=by
   rcases Nat.lt_or_ge i ops.size with q|q
   ·exact q
   ·rw[Array.getElem?_eq_none q]at ho;cases ho
  have h1:=List.all_eq_true.1 he i (by simpa using hi);simp only[ho]at h1;have h2:=List.all_eq_true.1 h1 e (by simpa using hem);simpa [hb]using h2
 have hrun:=qFC.run (all:=ds) g3 (fun m d hm=>by rw[Nat.zero_add];exact hm);have hlen:ds.length=ops.size:=by rw[g1];simp
 rw[hlen,<-List.range_eq_range']at hrun;have hind:∀i j,j<i->i<ops.size->(∃n,dep ops n i j=true)\/Indep ops (fun j=>(ds[j]?).getD default) i j:=by
  intro i j hj hi;have h1:=List.all_eq_true.1 (List.all_eq_true.1 hd i (by simpa using hi)) j (by simpa using hj);simp only[qLO,Bool.or_eq_true,Bool.and_eq_true]at h1;rcases h1 with h1|⟨h1,h2⟩
  ·exact .inl ⟨_,h1⟩
  ·refine .inr fun oi oj hoi hoj=>?_
   rw[hoi,hoj]at h1;refine⟨h1,?_⟩;have i1:i<ds.length:=by omega
   have j1:j<ds.length:=by omega
   obtain⟨fi,a1,a2⟩:=g2 i _ (List.getElem?_eq_getElem i1);obtain⟨fj,b1,b2⟩:=g2 j _ (List.getElem?_eq_getElem j1);rw[a1,b1]at h2;obtain⟨c1,c2⟩:=qGC h2;simp only[List.getElem?_eq_getElem i1,List.getElem?_eq_getElem j1,Option.getD_some];refine⟨fun p hp q hq=>c1 _ (a2.2 p hp) q ?_,fun p hp q hq=>c2 _ (b2.2 p hp) q ?_⟩
   ·rcases List.mem_append.1 hq with hq|hq
    ·obtain⟨r,hr,rfl⟩:=List.mem_map.1 hq;exact List.mem_append.2 (.inl (b2.1 r hr))
    ·obtain⟨r,hr,rfl⟩:=List.mem_map.1 hq;exact List.mem_append.2 (.inr (b2.2 r hr))
   ·rcases List.mem_append.1 hq with hq|hq
    ·obtain⟨r,hr,rfl⟩:=List.mem_map.1 hq;exact List.mem_append.2 (.inl (a2.1 r hr))
    ·obtain⟨r,hr,rfl⟩:=List.mem_map.1 hq;exact List.mem_append.2 (.inr (a2.2 r hr))
 have hdens:dens (hp++List.replicate (qU E.T ops.toList+1) (.raw .free))=dens hp++List.replicate (qU E.T ops.toList+1) .free:=by simp [dens,XO.den]
 have pre:∀ {ι:Iota} {a:Act} {w:World},SR ⟨sl,dens hp⟩ ι a w->SR ⟨sl,dens (hp++List.replicate (qU E.T ops.toList+1) (.raw .free))⟩ ι a w/\EvN E.n0 (dens hp) ι w (dens (hp++List.replicate (qU E.T ops.toList+1) (.raw .free))) ι w:=by
  intro ι a w r;obtain⟨r1,ev1⟩:=r.reserve (qU E.T ops.toList+1);rw[hdens];exact⟨r1,EvN.of ev1⟩
 have post:∃st2:St,(∃s':Y,st2=s'.den/\K s'/\FrW (lV ops.toList) ⟨sl,hp,tch,an⟩ s')/\∀ {ι:Iota} {a:Act} {w:World},SR ⟨sl',dens h'⟩ ι a w->∃ι',SR st2 ι' a w/\EvN E.n0 (dens h') ι w st2.h ι' w:=by
  obtain⟨sl2,h2,k1,k2,k3,k4,k5,k6⟩:=qKL (n0:=E.n0) _ _ _ _ g4;refine⟨⟨sl2,dens h2⟩,⟨⟨sl2,h2,tch',an'⟩,rfl,k1,?_⟩,fun{ι a w} r=>?_⟩
  ·have hl:hp.length<=h'.length:=by have:=g5.fr.len;simp at this;omega
   refine .mk' (by rw[k4];simp [qJ9];omega) (fun j hj=>g5.fr.tch j hj) (fun j hj hn=>?_) (k2.trans g5.len) (fun i hi=>(k3 i hi).trans (g5.sl i hi));have hj:j<hp.length:=hj;have h1:=g5.fr.h j (by simp;omega) hn;refine(k5 j hj).trans ?_;(try simp only at h1 ⊢);rw[List.getElem?_append_left hj]at h1;rw[qJ9,List.getElem?_append_left (by simp;omega),List.getElem?_take,if_pos hj];exact h1
  ·obtain⟨r1,ev1⟩:=qTL hp.length h' r
   obtain⟨ι2,r2,ev2⟩:=k6 r1;exact⟨ι2,r2,(EvN.of ev1).trans ev2⟩
 intro ι a w r;obtain⟨r0,ev0⟩:=pre r;have hq:¬LetsOut (Post ⟨sl,dens (hp++List.replicate (qU E.T ops.toList+1) (.raw .free))⟩ ι w (fun e st=>e = .normal/\st=⟨sl',dens h'⟩)):=by
  rintro⟨_,_,_,_,⟨q,_⟩,_⟩;cases q
 refine hmono (hops hq (SJ (Q:=fun e st=>e = .normal/\st=⟨sl',dens h'⟩) hM hedge hind hrun ⟨rfl,rfl⟩ ι a w r0)) ?_;rintro e a' w' ⟨st,ι',⟨rfl,rfl⟩,r',ev⟩;obtain⟨st2,q2,hr⟩:=post;obtain⟨ι2,r2,ev2⟩:=hr r';exact⟨st2,ι2,⟨rfl,q2⟩,r2,(ev0.trans (EvN.of ev)).trans ev2⟩
theorem qNY {E:Env} (hT:aD E.P E.T) (hM:E.P.follows .mixedOrders=true) {id:Nat} {ops:Array Oper} {s:Y} {K:Y->Prop} (h:xdraw E id ops s K):PV E.n0 E.P (.region id ops true) s.den (fun e st=>e = .normal/\∃s',st=s'.den/\K s'/\FrW (lV ops.toList) s s'):=
 qH5 hT hM h (fun Q a w=>(Code.region id ops true).wp E.P Q a w) (fun q hq=>wp_mono q hq) (fun _ q=>wp_region_draw q)
theorem iZ {E:Env} (hT:aD E.P E.T) (hM:E.P.follows .mixedOrders=true) (hI:uM E):∀(c:Code) (s:Y) (Q:Exit->Y->Prop),xcode E c s Q->PV E.n0 E.P c s.den (WQ (wr c) s Q):=by
 intro c;induction c with
 |skip=>intro s Q h;exact PV.skip ⟨s,rfl,h,FrW.refl _ _⟩
 |exit id=>intro s Q h;exact PV.exit ⟨s,rfl,h,FrW.refl _ _⟩
 |ret=>intro s Q h;exact PV.ret ⟨s,rfl,h,FrW.refl _ _⟩
 |region id ops dr=>
  intro s Q h;cases dr with
  |false=>
   refine PV.weak (Q:=fun e st=>e = .normal/\∃s':Y,st=s'.den/\cvK (lV ops.toList) (qAU E.fid id E.flip) s' (Q .normal)/\FrW (lV ops.toList) s s') (PV.regionL ((qE7 hT hI (fun _ q=>q) ops.toList 0 s _ (fun o ho d hd=>HM ho d hd) h).mono ?_)) ?_
   ·rintro st ⟨s',h1,h2,h3⟩
    exact⟨rfl,s',h1,h2,h3⟩
   ·rintro e st ⟨rfl,s',rfl,h2,h3⟩
    obtain⟨s2,k1,k2,k3⟩:=zG _ s' _ h2;refine⟨s2.den,⟨s2,rfl,k1,h3.trans k2⟩,fun{ι a w} r=>?_⟩;obtain⟨g1,g2⟩:=k3 r;exact⟨ι,g1,EvN.of g2⟩
  |true=>
   refine PV.mono (qNY hT hM h) ?_;rintro e st ⟨rfl,s',h1,h2,h3⟩;exact⟨s',h1,h2,h3⟩
 |seq a b iha ihb=>
  intro s Q h;obtain⟨sl,hp,tch,an⟩:=s;rw[qH4]at h;split at h
  ·refine PV.seq (PV.mono (iha _ _ h) ?_)
   rintro e st ⟨s',rfl,h2,h3⟩;cases e with
   |normal=>
    refine PV.mono (ihb _ _ h2) ?_;rintro e st ⟨s2,h4,h5,h6⟩;exact⟨s2,h4,h5,(h3.mono fun i hi=>List.mem_append.2 (.inl hi)).trans (h6.mono fun i hi=>List.mem_append.2 (.inr hi))⟩
   |_=>exact⟨s',rfl,h2,h3.mono fun i hi=>List.mem_append.2 (.inl hi)⟩
  ·rename_i g inv mu next hf
   obtain⟨sl1,h1,⟨ha,⟨hk⟩,hb⟩,p1,p2,p3,p4,p5⟩:=xU h;have hW:∀d,d∈gslots g->d∈wr a:=fun d hd=>by simpa using List.all_eq_true.1 hk d hd
   refine PV.cut (s2:=⟨sl1,dens h1⟩) (fun{ι a w} r=>⟨ι,(p5 r).1,EvN.of (p5 r).2⟩) ?_;refine PV.seq (PV.mono (iha ⟨sl1,h1,[],an⟩ _ ha) ?_);rintro e st ⟨s',rfl,h3,h4⟩;have up:FrW (wr a) ⟨sl,hp,tch,an⟩ ⟨s'.sl,s'.h,s'.tch++(gids ⟨sl1,h1⟩ g++tch),an⟩:=
    FrW.prep (b:=⟨sl1,h1⟩) (an1:=an) hW p1 p2 p3 p4 (.mk' h4.fr.len (fun j hj=>by simp [hj]) (fun j hj hn=>h4.fr.h j hj (fun q=>hn (by simp [q]))) h4.len h4.sl) (fun j hj=>by simp [hj])
   cases e with
   |normal=>
    obtain⟨sl',h',tch',an'⟩:=s';(try simp only at h3);obtain⟨sl2,h2,ha2,q1,q2,q3,q4,q5⟩:=xU h3;have hn:Near (wr a) (gids ⟨sl1,h1⟩ g) ⟨sl1,h1,tch,an⟩ ⟨sl',h',tch',an'⟩:=⟨h4.sl,h4.len,fun j hj _ ht=>h4.fr.h j hj ht⟩
    obtain⟨σ,y,hc,hk,_⟩:=pN (s1:=⟨sl1,h1,tch,an⟩) (s':=⟨sl2,h2,tch',an'⟩) (hn.prep (an1:=an') hW h4.fr.len q1 q2 q4 (fun j q=>dT q)) ha2;have hb:=hb y hk.out;rw[LB]at hb;refine PV.cut (yO.trans (b:=⟨sl2,dens h2⟩) (fun{ι a w} r=>⟨ι,(q5 r).1,EvN.of (q5 r).2⟩) hc.cs) (PV.mono (ihb _ _ hb) ?_);rintro e st ⟨s2,h5,h6,h7⟩;refine⟨⟨s2.sl,s2.h,s2.tch,an⟩,h5,h6,?_⟩;have f1:=qKJ (W:=wr a) (y:=y) (sl:=sl1) (h:=h1) (tch:=tch) (an:=an) (an':=next y++an) hW;have f2:=(f1.mono (W':=wr a++wr b) fun i hi=>List.mem_append.2 (.inl hi)).trans (h7.mono fun i hi=>List.mem_append.2 (.inr hi));have f3:=FrW.prep (b:=⟨sl1,h1⟩) (an:=an) (fun d hd=>List.mem_append.2 (.inl (hW d hd))) p1 p2 p3 p4 f2 (fun j hj=>h7.fr.tch j (by simp only[List.mem_append];exact .inl hj));exact⟨⟨f3.fr.len,f3.fr.tch,f3.fr.h⟩,f3.len,f3.sl⟩
   |_=>exact⟨⟨s'.sl,s'.h,s'.tch++(gids ⟨sl1,h1⟩ g++tch),an⟩,rfl,h3,up.mono fun i hi=>List.mem_append.2 (.inl hi)⟩
 |block id a iha=>
  intro s Q h;refine PV.block (PV.mono (iha _ _ h) ?_);rintro e st ⟨s',rfl,h2,h3⟩;cases e with
  |exit i=>
   simp only[sG];cases hq:Nat.beq i id with
   |true=>
    simp only[hq]at h2;rw[if_pos (Nat.eq_of_beq_eq_true hq)];exact⟨s',rfl,h2,h3⟩
   |false=>
    simp only[hq]at h2;rw[if_neg (fun q=>by subst q;simp at hq)];exact⟨s',rfl,h2,h3⟩
  |_=>exact⟨s',rfl,h2,h3⟩
 |cond c a b iha ihb=>
  intro s Q h;obtain⟨sl,hp,tch,an⟩:=s;have left:∀ {X:Exit->Y->Prop},PV E.n0 E.P a ⟨sl,dens hp⟩ (WQ (wr a) ⟨sl,hp,tch,an⟩ X)->PV E.n0 E.P a ⟨sl,dens hp⟩ (WQ (wr a++wr b) ⟨sl,hp,tch,an⟩ X):=fun h=>PV.mono h fun e st ⟨s',q1,q2,q3⟩=>⟨s',q1,q2,q3.mono fun i hi=>List.mem_append.2 (.inl hi)⟩
  have right:∀ {X:Exit->Y->Prop},PV E.n0 E.P b ⟨sl,dens hp⟩ (WQ (wr b) ⟨sl,hp,tch,an⟩ X)->PV E.n0 E.P b ⟨sl,dens hp⟩ (WQ (wr a++wr b) ⟨sl,hp,tch,an⟩ X):=fun h=>PV.mono h fun e st ⟨s',q1,q2,q3⟩=>⟨s',q1,q2,q3.mono fun i hi=>List.mem_append.2 (.inr hi)⟩
  rw[qAI]at h;split at h
  ·rename_i d
   split at h
   ·rename_i t ht
    obtain⟨h1,h2⟩:=(gC _ _ _).1 h;refine PV.brk ⟨t,by simp [aev,Y.den,ht],fun q=>?_,fun q=>?_⟩
    ·have h3:=h1 q
     clear h1 h2;subst q;rw[cV,HA ht]at h3;exact left (iha ⟨sl,hp,tch,an⟩ _ h3)
    ·have h3:=h2 q
     clear h1 h2;subst q;rw[cV,HA ht]at h3;exact right (ihb ⟨sl,hp,tch,an⟩ _ h3)
   ·exact h.elim
  ·split at h
   ·rename_i t ht
    obtain⟨h1,h2⟩:=(gC _ _ _).1 h;refine PV.brk ⟨t,ht,fun q=>left (iha ⟨sl,hp,tch,an⟩ _ (h1 q)),fun q=>right (ihb ⟨sl,hp,tch,an⟩ _ (h2 q))⟩
   ·exact h.elim
 |loop c ih=>
  intro s Q h;obtain⟨sl,hp,tch,an⟩:=s;rw[qAJ]at h;split at h
  ·split at h
   ·have one:∀(m:Nat) (k:Y->Prop),(∀s,FrW (wr c) ⟨sl,hp,tch,an⟩ s->k s->yA E.n0 E.P c (fun e st=>∃s':Y,st=s'.den/\Q e s'/\FrW (wr c) ⟨sl,hp,tch,an⟩ s') m s.den) ->
        ∀s,FrW (wr c) ⟨sl,hp,tch,an⟩ s->xcode E c s (TC Q k)->yA E.n0 E.P c (fun e st=>∃s':Y,st=s'.den/\Q e s'/\FrW (wr c) ⟨sl,hp,tch,an⟩ s') (m+1) s.den:=by
      intro m k hk s hfr q;refine PV.mono (ih s _ q) ?_;rintro e st ⟨s',rfl,h2,h3⟩;cases e with
      |normal=>exact hk s' (hfr.trans h3) h2
      |_=>exact⟨s',rfl,h2,hfr.trans h3⟩
    exact PV.unroll 4 (one 3 _ (one 2 _ (one 1 _ (one 0 _ (fun _ _ q=>q.elim)))) _ (FrW.refl _ _) h)
   ·exact h.elim
  ·rename_i g inv mu next hf
   obtain⟨sl1,h1,ha,p1,p2,p3,p4,p5⟩:=xU h;obtain⟨σ,y0,hc,⟨⟨hi⟩,hr⟩,hW⟩:=pN (s1:=⟨sl1,h1,tch,an⟩) (s':=⟨sl1,h1,[],an⟩) ⟨fun _ _=>rfl,rfl,fun _ _ _ _=>rfl⟩ ha;refine PV.loopR (fun y=>⟨fT g y ⟨sl1,h1⟩ (nH (wr c) sl1),dens (fW g y ⟨sl1,h1⟩ h1)⟩) inv mu y0 (yO.trans (b:=⟨sl1,dens h1⟩) (fun{ι a w} r=>⟨ι,(p5 r).1,EvN.of (p5 r).2⟩) hc.cs) hi (fun y hy=>?_);have hb:=hr y hy;rw[LB]at hb;refine PV.mono (ih _ _ hb) ?_;rintro e st ⟨s',rfl,h2,h3⟩;cases e with
   |normal=>
    obtain⟨n1,n2⟩:=zM (tch:=tch) (t0:=[]) (an:=an) hW h3;obtain⟨sl',h',tch',an'⟩:=s';(try simp only at h2);obtain⟨sl2,h4,ha2,q1,q2,q3,q4,q5⟩:=xU h2;obtain⟨σ',y',hc',⟨⟨hk1⟩,⟨hk2⟩⟩,_⟩:=pN (s1:=⟨sl1,h1,tch,an⟩) (s':=⟨sl2,h4,tch',an'⟩) (n1.prep (an1:=an') hW n2 q1 q2 q4 (fun j q=>dT q)) ha2;exact⟨y',yO.trans (b:=⟨sl2,dens h4⟩) (fun{ι a w} r=>⟨ι,(q5 r).1,EvN.of (q5 r).2⟩) hc'.cs,hk1,hk2⟩
   |_=>exact⟨⟨s'.sl,s'.h,s'.tch++(gids ⟨sl1,h1⟩ g++tch),an⟩,rfl,h2,FrW.prep (b:=⟨sl1,h1⟩) (an1:=an) hW p1 p2 p3 p4 (uX (an2:=an) hW h3) (fun j hj=>by simp [hj])⟩
 |_=>intro s Q h;exact h.elim
theorem Tup.ni (n:Nat):∀(ps:List Ty) (x:Tup ps),NIs n (vals ps x)
 | [],_=>fun _ h=>by cases h
 |t::ts,x=>fun v h=>by
  rcases List.mem_cons.1 h with q|q
  ·subst q;exact t.ni_val n x.1
  ·exact Tup.ni n ts x.2 v q
theorem Tup.len:∀(ps:List Ty) (x:Tup ps),(vals ps x).length=ps.length
 | [],_=>rfl
 |t::ts,x=>by simp only[vals,List.length_cons,Tup.len ts x.2]
def fin (P:Program) (rs:List ResultVar) (lo:Nat) (r:RV) (k:List XO->Prop) (e:Exit) (s:Y):Prop:=
 match s with
 |⟨sl,h,_,_⟩=>match e with
  | .normal=>(match ares P rs sl (dens h)with
    |some y=>fV y fun y=>qFZ h lo y (k h) r
    |none=>False)
  | .ret=>(match ares P rs sl (dens h)with
    |some y=>fV y fun y=>qFZ h lo y (k h) r
    |none=>False)
  |_=>False
theorem OV {P:Program} {rs:List ResultVar} {lo:Nat} {r:RV} {k:List XO->Prop} {e:Exit} {s:Y} (h:fin P rs lo r k e s):(e = .normal\/e = .ret)/\∃y,ares P rs s.sl (dens s.h)=some y/\qFZ s.h lo y (k s.h) r:=by
 obtain⟨sl,hp,tch,an⟩:=s;simp only[fin]at h;split at h
 ·split at h
  ·rename_i y hy
   rw[cD]at h;exact⟨.inl rfl,y,hy,h⟩
  ·exact h.elim
 ·split at h
  ·rename_i y hy
   rw[cD]at h;exact⟨.inr rfl,y,hy,h⟩
  ·exact h.elim
 ·exact h.elim
def sH (P:Program) (T:Tbl) (fl:List (Nat×Nat×Nat)) (I:List Nat):Nat->FuncId->List V->Y->(V->Y->Prop)->Prop
 |0,_,_,_,_=>False
 |n+1,f,args,s,K=>match I.contains f with
  |true=>(match P.funcs[f]? with
   |some fn=>(match fn.body with
    |some c=>(match s with
     |⟨sl0,h,tch,an⟩=>fVs (args++List.replicate (fn.ntmps-args.length) (.v undef)) fun sl=>fN h.length fun n0=>xcode ⟨P,T,n0,f,fl,sH P T fl I n⟩ c ⟨sl,h,tch,an⟩ fun e s'=>(match s' with
      |⟨sl',h',tch',an'⟩=>match e with
       | .normal=>(match ares P fn.results.toList sl' (dens h')with
         |some y=>fV y fun y=>K y ⟨sl0,h',tch',an⟩
         |none=>False)
       | .ret=>(match ares P fn.results.toList sl' (dens h')with
         |some y=>fV y fun y=>K y ⟨sl0,h',tch',an⟩
         |none=>False)
       |_=>False))
    |none=>False)
   |none=>False)
  |false=>False
theorem iF {P:Program} {T:Tbl} (hT:aD P T) (hM:P.follows .mixedOrders=true) (fl:List (Nat×Nat×Nat)) (I:List Nat):∀(m n0 fid:Nat),uM ⟨P,T,n0,fid,fl,sH P T fl I m⟩
 |0,n0,fid=>fun f args s K h=>h.elim
 |m+1,n0,fid=>fun f args s K h=>by
  simp only[sH]at h;split at h
  ·split at h
   ·rename_i fn hf
    split at h
    ·rename_i c hb
     obtain⟨sl0,hp,tch,an⟩:=s;(try simp only at h);rw[kS,iI]at h;refine PC.of_bodyV hf hb _ rfl (fun K0 hK=>?_);have hw:=iZ (E:=⟨P,T,hp.length,f,fl,sH P T fl I m⟩) hT hM (iF hT hM fl I m _ _) c _ _ h;rw[dB];refine PV.mono hw ?_;rintro e st ⟨⟨sl',h',tch',an'⟩,rfl,h1,h2⟩;(try simp only at h1);split at h1
     ·split at h1
      ·rename_i y hy
       rw[cD]at h1;exact hK _ _ y (.inl rfl) hy ⟨⟨sl0,h',tch',an⟩,rfl,rfl,⟨h2.fr.len,h2.fr.tch,h2.fr.h⟩,h1⟩
      ·exact h1.elim
     ·split at h1
      ·rename_i y hy
       rw[cD]at h1;exact hK _ _ y (.inr rfl) hy ⟨⟨sl0,h',tch',an⟩,rfl,rfl,⟨h2.fr.len,h2.fr.tch,h2.fr.h⟩,h1⟩
      ·exact h1.elim
     ·exact h1.elim
    ·exact h.elim
   ·exact h.elim
  ·exact h.elim
theorem aF.fn {P:Program} {T:Tbl} {f:FuncId} {fn:Func} {c:Code} {ps:List Ty} {pre:Option (Cu ps Prop)} {res:Cu ps RV} (hT:aD P T) (hM:P.follows .mixedOrders=true) (fl:List (Nat×Nat×Nat)) (I:List Nat)
  (hf:P.funcs[f]? =some fn) (hb:fn.body=some c)
  (h:∀x:Tup ps,(∀p,pre=some p->cu ps p x)->∃an:List (Nat×Nat×LA),fVs (vals ps x++List.replicate (fn.ntmps-ps.length) (.v undef)) fun sl=>xcode ⟨P,T,0,0,fl,sH P T fl I 4⟩ c ⟨sl,[],[],an⟩ (fin P fn.results.toList 0 (cu ps res x) fun _=>True)):aF P f (.fn ps pre res):=by
 intro x hx;have hlen:=Tup.len ps x;refine⟨fun p hp=>(by cases hp),fun k _=>?_⟩;refine PC.mono (PC.frame (x0:=(cu ps res x).val) (Tup.ni 0 ps x) ?_ k) (fun y k' ⟨h1,h2⟩=>⟨h1,h2⟩);obtain⟨an,hw⟩:=h x hx;rw[kS]at hw;refine PC.of_bodyV hf hb _ rfl (fun K hK=>?_);rw[hlen];have hw:=iZ (E:=⟨P,T,0,0,fl,sH P T fl I 4⟩) hT hM (iF hT hM fl I 4 _ _) c _ _ hw;refine PV.mono hw ?_;rintro e st ⟨s',rfl,h1,_⟩;obtain⟨he,y,hy,hc⟩:=OV h1;exact hK e _ y he hy (CO (τ:=GG) (fun _ _=>rfl) hc).1
theorem aF.rd {P:Program} {T:Tbl} {f:FuncId} {fn:Func} {c:Code} {t:Ty} {ps:List Ty} {pre:Option (t.den->Cu ps Prop)} {res:t.den->Cu ps RV} (hT:aD P T) (hM:P.follows .mixedOrders=true) (fl:List (Nat×Nat×Nat)) (I:List Nat)
  (hf:P.funcs[f]? =some fn) (hb:fn.body=some c)
  (h:∀a (x:Tup ps),(∀p,pre=some p->cu ps (p a) x)->∃an:List (Nat×Nat×LA),fVs (.pF (t.row a) 0::vals ps x++List.replicate (fn.ntmps-(1+ps.length)) (.v undef)) fun sl=>xcode ⟨P,T,0,0,fl,sH P T fl I 4⟩ c ⟨sl,[],[],an⟩ (fin P fn.results.toList 0 (cu ps (res a) x) fun _=>True)):aF P f (.rd t ps pre res):=by
 intro a x hx;have hlen:=Tup.len ps x;refine⟨fun p hp=>(by cases hp),fun k _=>?_⟩;refine PC.mono (PC.frame (x0:=(cu ps (res a) x).val) (fun v hv=>?_) ?_ k) (fun y k' ⟨h1,h2⟩=>⟨h1,h2⟩)
 ·rcases List.mem_cons.1 hv with q|q
  ·subst q;exact .pF 0 (t.nis 0 a [] (by intro _ h;cases h))
  ·exact Tup.ni 0 ps x v q
 obtain⟨an,hw⟩:=h a x hx;rw[kS]at hw;refine PC.of_bodyV hf hb _ rfl (fun K hK=>?_);have hl2:(V.pF (t.row a) 0::vals ps x).length=1+ps.length:=by simp [hlen];omega
 rw[hl2];have hw:=iZ (E:=⟨P,T,0,0,fl,sH P T fl I 4⟩) hT hM (iF hT hM fl I 4 _ _) c _ _ hw;refine PV.mono hw ?_;rintro e st ⟨s',rfl,h1,_⟩;obtain⟨he,y,hy,hc⟩:=OV h1;exact hK e _ y he hy (CO (τ:=GG) (fun _ _=>rfl) hc).1
def qTP (t:Ty) (e:TypeId) (b:t.den) (h:List XO):Prop:=match h with
 | .raw s::_=>(match s with
   | .live o=>if o.sz=t.size/\o.elem=e then(match o.rows with
     | [r]=>match un (rdH h 1) t r with
       |some (a,[])=>needs (r.flatMap (eX h)) (Leaf (a=b)/\True)
       |_=>False
     |_=>False)else False
   |_=>False)
 | .ob _ a e'::_=>if e'=e then(match qAS (t':=t) a with
   |some a=>Leaf (a=b)/\True
   |_=>False)else False
 |_=>False
theorem qO2 {t:Ty} {e:TypeId} {b:t.den} {h:List XO} {τ:Nat->Option Nat} (hτ:∀id,1<=id->τ id=none) (q:qTP t e b h):∃o,(dens h)[0]? =some (.live o)/\FrzO τ (dens h) o ⟨t.size,[t.row b],e⟩:=by
 unfold qTP at q;split at q
 ·split at q
  ·rename_i r _ o
   split at q
   ·rename_i hsz
    split at q
    ·rename_i r0 hr
     split at q
     ·rename_i a ha
      obtain⟨hc,⟨rfl⟩,_⟩:=bI q;refine⟨o,rfl,⟨hsz.1.symm,hsz.2.symm,by rw[hr];rfl,fun i r1 r2 h1 h2=>?_⟩⟩;rw[hr]at h1;cases i with
      |zero=>
       simp at h1 h2;subst h1 h2;obtain⟨u1,u2⟩:=mE (R:=fun x y=>cZ (eX (.raw (.live o)::r) x)->Frz τ (dens (.raw (.live o)::r)) x y) (fun x t l e hc=>qB3 hτ e hc) (fun x _=>Frz.tree (.v x)) ha;refine⟨u1,fun j x y hx hy=>u2 j x y hx hy fun c hc'=>hc c (List.mem_flatMap.2 ⟨x,bZ hx,hc'⟩)⟩
      |succ i=>simp at h1
     ·exact q.elim
    ·exact q.elim
   ·exact q.elim
  ·exact q.elim
 ·rename_i t0 l e' r
  split at q
  ·rename_i he
   subst he;split at q
   ·rename_i a ha
    obtain⟨⟨rfl⟩,_⟩:=q;obtain⟨et,el⟩:=RW ha;subst et;subst el;exact⟨_,rfl,FrzO.tree (Ty.nir 0 _ [_])⟩
   ·exact q.elim
  ·exact q.elim
 ·exact q.elim
theorem aF.meth {P:Program} {T:Tbl} {f:FuncId} {fn:Func} {c:Code} {t:Ty} {el:TypeId} {ps:List Ty} {pre:Option (t.den->Cu ps Prop)} {res:t.den->Cu ps RV} {post:t.den->Cu ps t.den} (hT:aD P T) (hM:P.follows .mixedOrders=true) (fl:List (Nat×Nat×Nat)) (I:List Nat)
  (hf:P.funcs[f]? =some fn) (hb:fn.body=some c)
  (h:∀a (x:Tup ps),(∀p,pre=some p->cu ps (p a) x)->∃an:List (Nat×Nat×LA),fVs (.pO 0 0 0::vals ps x++List.replicate (fn.ntmps-(1+ps.length)) (.v undef)) fun sl=>fH [.ob t a el] fun h=>xcode ⟨P,T,1,0,fl,sH P T fl I 4⟩ c ⟨sl,h,[],an⟩
    (fin P fn.results.toList 1 (cu ps (res a) x) (qTP t el (cu ps (post a) x)))):aF P f (.meth t el ps pre res post):=by
 intro a x hx j;have hlen:=Tup.len ps x;refine⟨fun p hp=>?_,fun k hk=>?_⟩
 ·simp at hp;subst hp;simp
 have hj:k[j]? =some (PU t el a):=hk (j,PU t el a) (by simp);have hup:∀id,1<=id->up [j] id=none:=fun id hid=>by simp [up];omega
 have hrow:∀b:t.den,NIr 0 [t.row b]:=fun b r hr=>by simp at hr;subst hr;exact t.nis 0 b [] (by intro _ h;cases h)
 refine PC.mono (PC.lift (S:=[j]) (h0:=[PU t el a]) (post:=[⟨t.size,[t.row (cu ps (post a) x)],el⟩]) (args0:=.pO 0 0 0::vals ps x) (x0:=(cu ps (res a) x).val) (by simp) rfl rfl ?_ ?_ ?_) (fun y k' ⟨h1,h2⟩=>⟨h1,h2⟩)
 ·intro i id hi
  match i,hi with
  |0,hi=>
   simp at hi;subst hi;exact⟨_,_,hj,rfl,FrzO.tree (hrow a)⟩
  |i+1,hi=>simp at hi
 ·refine⟨rfl,fun i v v' h1 h2=>?_⟩
  match i,h1,h2 with
  |0,h1,h2=>
   simp at h1 h2;subst h1 h2;intro w ι M ι₂ M₂ cv y r;cases r with
   |pO _ _ _ l hl=>exact .pO _ _ _ l (cv.keep j 0 l (by simp [down,List.idxOf?,List.findIdx?_cons]) hl)
  |i+1,h1,h2=>
   have h1:(vals ps x)[i]? =some v:=h1;have h2:(vals ps x)[i]? =some v':=h2;rw[h1]at h2;injection h2 with h2;subst h2;intro w ι M ι₂ M₂ cv y r;exact Frz.tree (τ:=down [j]) (h:=[]) (Tup.ni 0 ps x v (bZ h1)) cv r
 ·obtain⟨an,hw⟩:=h a x hx
  rw[kS,dO]at hw;refine PC.of_bodyV hf hb _ rfl (fun K hK=>?_);have hl2:(V.pO 0 0 0::vals ps x).length=1+ps.length:=by simp [hlen];omega
  rw[hl2];have hw:=iZ (E:=⟨P,T,1,0,fl,sH P T fl I 4⟩) hT hM (iF hT hM fl I 4 _ _) c _ _ hw;refine PV.mono hw ?_;rintro e st ⟨s',rfl,h1,_⟩;obtain⟨he,y,hy,hc⟩:=OV h1;obtain⟨hc,ho⟩:=CO (lo:=1) hup hc;refine hK e _ y he hy ⟨hc,fun i c hi=>?_⟩;match i,hi with
  |0,hi=>
   simp at hi;subst hi;obtain⟨o,o1,o2⟩:=qO2 hup ho;exact⟨o,o1,o2⟩
  |i+1,hi=>simp at hi
def qTO (P:Program) (rs:List ResultVar) (t:Ty) (el:TypeId) (b:t.den) (e:Exit) (s:Y):Prop:=
 match s with
 |⟨sl,h,_,_⟩=>match e with
  | .normal=>False
  | .ret=>(match ares P rs sl (dens h)with
    |some y=>(match y with
     | .pO i 0 0=>match h[i]? with
       |some o=>(match IF t el o with
        |some a=>Leaf (a=b)/\True
        |none=>False)
       |none=>False
     |_=>False)
    |none=>False)
  |_=>False
theorem qO1 {P:Program} {rs:List ResultVar} {t:Ty} {el:TypeId} {b:t.den} {e:Exit} {s:Y} (h:qTO P rs t el b e s):(e = .normal\/e = .ret)/\∃i,ares P rs s.sl (dens s.h)=some (.pO i 0 0)/\∃o,s.h[i]? =some o/\IF t el o=some b:=by
 obtain⟨sl,hp,tch,an⟩:=s;simp only[qTO]at h;split at h
 ·exact h.elim
 ·split at h
  ·rename_i y hy
   split at h
   ·rename_i i
    split at h
    ·rename_i o ho
     split at h
     ·rename_i a ha
      obtain⟨⟨rfl⟩,_⟩:=h;exact⟨.inr rfl,i,hy,o,ho,ha⟩
     ·exact h.elim
    ·exact h.elim
   ·exact h.elim
  ·exact h.elim
 ·exact h.elim
theorem aF.new {P:Program} {T:Tbl} {f:FuncId} {fn:Func} {c:Code} {t:Ty} {el:TypeId} {ps:List Ty} {pre:Option (Cu ps Prop)} {post:Cu ps t.den} (hT:aD P T) (hM:P.follows .mixedOrders=true) (fl:List (Nat×Nat×Nat)) (I:List Nat)
  (hf:P.funcs[f]? =some fn) (hb:fn.body=some c)
  (h:∀x:Tup ps,(∀p,pre=some p->cu ps p x)->∃an:List (Nat×Nat×LA),fVs (vals ps x++List.replicate (fn.ntmps-ps.length) (.v undef)) fun sl=>xcode ⟨P,T,0,0,fl,sH P T fl I 4⟩ c ⟨sl,[],[],an⟩ (qTO P fn.results.toList t el (cu ps post x))):aF P f (.new t el ps pre post):=by
 intro x hx k new k' hh;have hlen:=Tup.len ps x;refine PC.newObj (Tup.ni 0 ps x) (o:=⟨t.size,[t.row (cu ps post x)],el⟩) (t.nir 0 [cu ps post x]) ?_ hh;obtain⟨an,hw⟩:=h x hx;rw[kS]at hw;refine PC.of_bodyV hf hb _ rfl (fun K hK=>?_);rw[hlen];have hw:=iZ (E:=⟨P,T,0,0,fl,sH P T fl I 4⟩) hT hM (iF hT hM fl I 4 _ _) c _ _ hw;refine PV.mono hw ?_;rintro e st ⟨s',rfl,h1,_⟩;obtain⟨he,i,hy,o,ho,hr⟩:=qO1 h1;obtain⟨c0,o1,o2,o3,o4,o5⟩:=CV hr;exact hK e _ _ he hy ⟨i,c0,rfl,by rw[Y.den,aL,ho];simp [o1],o2,o3,o4,o5⟩
theorem aH {p q:Prop} (h:Leaf p) (a:q):Leaf p/\q:=⟨h,a⟩
theorem bB {p:Prop} [d:Decidable p] {A:Prop} (h:Side p) (a:A):(@decide p d)=true/\A:=⟨decide_eq_true h.out,a⟩
theorem bA {k:IntKind} {n:Int} {A:Prop} (h:Side (loK k<=n/\n<=hiK k)) (a:A):inR k n=true/\A:=⟨decide_eq_true h.out,a⟩
theorem aQ {p q:Prop} (h:Side p) (a:q):p/\q:=⟨h.out,a⟩
theorem aI {p q:Prop} (h:Side p) (a:q):Side p/\q:=⟨h,a⟩
theorem aJ {c:Bool} {q:Prop} (h:c=true) (a:q):Kern c/\q:=⟨⟨h⟩,a⟩
theorem aK {q:Prop} (a:q):True/\q:=⟨trivial,a⟩
theorem aZ {c:Bool} {A B:Prop} (h1:c=true->A) (h2:c=false->B):@Bool.rec (fun _=>Prop) B A c:=by cases c;exact h2 rfl;exact h1 rfl
theorem aR {p:Prop} [d:Decidable p] {A B:Prop} (h1:p->A) (h2:¬p->B):@Bool.rec (fun _=>Prop) B A (@decide p d):=aZ (fun q=>h1 (of_decide_eq_true q)) (fun q=>h2 (of_decide_eq_false q))
theorem aS {p:Prop} [d:Decidable p] {A B:Prop} (h1:p->B) (h2:¬p->A):@Bool.rec (fun _=>Prop) B A (!(@decide p d)):=aZ (fun q=>h2 (by simpa using q)) (fun q=>h1 (by simpa using q))
theorem qT5 {P:Program} {f:FuncId} (h:∀(x:Int) (w:World),0<=x->x<=18446744073709551615->Calls P f #[.int .u64 x] w fun e w'=>e = .returned (.int .i64 (Lib.bitLen x.toNat))/\w'=w) :
  aF P f (.fn [.int .u64] (some fun(x:Int)=>0<=x/\x<=18446744073709551615) (fun(x:Int)=>RV.d (.int .i64) ((Lib.bitLen x.toNat:Nat):Int))):=by
 unfold aF;intro x0 hp;obtain⟨x,u⟩:=x0;have hp:0<=x/\x<=18446744073709551615:=hp _ rfl;refine⟨fun p q=>(by cases q),fun k _=>?_⟩;intro ι w vs hpw H;obtain⟨hl,hv⟩:=hpw;obtain⟨y,y1,y2⟩:=hv 0 _ rfl;have hy:y = .int .u64 x:=by
  have y3:Rep w ι (Mt k ι) (.v (.int .u64 x)) y:=y2;cases y3;rfl
 subst hy;have hvals:vs = #[.int .u64 x]:=by
  apply Array.ext_getElem?;intro i;match i with
  |0=>rw[y1];rfl
  |i+1=>rw[Array.getElem?_eq_none (by rw[<-hl];simp [vals]),Array.getElem?_eq_none (by simp)]
 rw[hvals];refine(h x w hp.1 hp.2).mono ?_;rintro e w' ⟨rfl,rfl⟩;exact⟨_,_,k,ι,rfl,⟨rfl,rfl⟩,.v _,H,Evolve.refl _ _ _⟩
end Go.Abs
namespace Go.Proofs
open Go.Shelf
def Tryz.lays129_ren:Go.Shelf.Ren:=⟨fun|129=>220|n=>n,fun|53=>86|3=>3|4=>4|46=>94|5=>5|9=>9|n=>n,fun|n=>n⟩
theorem Tryz.lays129:Go.Proofs.Lays.n129 Tryz.prog Tryz.lays129_ren:={
 mixed:=by kernel_rfl
 f129:=Tryz.func220.trans (congrArg some (by kernel_rfl))
 t3:=Tryz.underlying3
 a3:=Tryz.isAgg3
 z3:=Tryz.sizeOf3
 v3:=Tryz.zeroValue3
 t4:=Tryz.underlying4
 a4:=Tryz.isAgg4
 z4:=Tryz.sizeOf4
 v4:=Tryz.zeroValue4
 t5:=Tryz.underlying5
 a5:=Tryz.isAgg5
 z5:=Tryz.sizeOf5
 v5:=Tryz.zeroValue5
 t9:=Tryz.underlying9
 a9:=Tryz.isAgg9
 z9:=Tryz.sizeOf9
 v9:=Tryz.zeroValue9
 t46:=Tryz.underlying94
 a46:=Tryz.isAgg94
 z46:=Tryz.sizeOf94
 v46:=Tryz.zeroValue94
 t53:=Tryz.underlying86
 a53:=Tryz.isAgg86
 z53:=Tryz.sizeOf86
 v53:=Tryz.zeroValue86}
end Go.Proofs
namespace Go.Proofs.YtcjiefknhfhmkaaGreatDoor
open Go.Abs
set_option maxRecDepth 100000
set_option maxHeartbeats 4000000
set_option linter.unusedVariables false
set_option linter.unusedSimpArgs false
abbrev RJ:Ct:=.fn [.int .u64] (some fun(x:Int)=>0<=x/\x<=18446744073709551615) (fun(x:Int)=>RV.d (.int .i64) ((Lib.bitLen x.toNat:Nat):Int))
theorem qT6:aF Tryz.prog 220 RJ:=qT5 (fun x w h0 h1=>Any.bits_Len64 Tryz.lays129 x w h0 h1)
theorem eE {α β:Type _} (p:α×β):(p.1,p.2)=p:=rfl
theorem eN {α:Type _} (l:List α):[]++l=l:=rfl
theorem mixed:Tryz.prog.follows .mixedOrders=true:=by kernel_rfl
structure Tag (n:Nat):Prop where
@[reducible] instance:Inhabited Int:=instInhabitedDen (.int .i64)
@[reducible] instance:Inhabited Bool:=instInhabitedDen .bool
@[reducible] instance:Inhabited ByteArray:=instInhabitedDen .str
theorem oX (n:Int):0<=IntKind.u8.wrap n/\IntKind.u8.wrap n<256:=by simp [IntKind.wrap,IntKind.bits,IntKind.signed];omega
theorem WH (n:Int):0<=IntKind.u32.wrap n/\IntKind.u32.wrap n<4294967296:=by simp [IntKind.wrap,IntKind.bits,IntKind.signed];omega
theorem qE (n:Int):0<=IntKind.u64.wrap n/\IntKind.u64.wrap n<18446744073709551616:=by simp [IntKind.wrap,IntKind.bits,IntKind.signed];omega
theorem WI {n:Int} (h:0<=n/\n<256):IntKind.u8.wrap n=n:=by simp [IntKind.wrap,IntKind.bits,IntKind.signed];omega
theorem ZZ (n:Int):IntKind.u8.wrap n=n%256:=by simp [IntKind.wrap,IntKind.bits,IntKind.signed]
theorem vV {n:Int} (h:0<=n/\n<4294967296):IntKind.u32.wrap n=n:=by simp [IntKind.wrap,IntKind.bits,IntKind.signed];omega
theorem aW {n:Int} (h:0<=n/\n<18446744073709551616):IntKind.u64.wrap n=n:=by simp [IntKind.wrap,IntKind.bits,IntKind.signed];omega
theorem qUX (a:Int):iV .u64 a 7=a/128:=by
 have:min (7:Int).toNat IntKind.u64.bits=7:=by decide
 unfold iV;rw[this,Int.fdiv_eq_ediv_of_nonneg _ (by decide)];rfl
theorem NS {p:Nat->Bool} (h:(List.range 256).all p=true) {n:Int} (hn:0<=n/\n<256):p n.toNat=true:=
 List.all_eq_true.1 h _ (by simp;omega)
theorem qV7 {a:Int} (h:0<=a/\a<256):bOr .u8 a 128=a%128+128:=by
 have:=NS (p:=fun n=>decide (bOr .u8 (n:Int) 128=(n:Int)%128+128)) (by kernel_rfl) h;have:=of_decide_eq_true this;rwa [Int.toNat_of_nonneg h.1]at this
theorem qN5 {a:Int} (h:0<=a/\a<256):DK .u8 a 128=a%128:=by
 have:=NS (p:=fun n=>decide (DK .u8 (n:Int) 128=(n:Int)%128)) (by kernel_rfl) h;have:=of_decide_eq_true this;rwa [Int.toNat_of_nonneg h.1]at this
theorem NX (a b:Int):0<=mN .u8 a b/\mN .u8 a b<256:=oX _
theorem wB (a b:Int):0<=mN .u32 a b/\mN .u32 a b<4294967296:=WH _
theorem qVF {a:Int} (h:0<=a/\a<4294967296):mN .u32 a 0=a:=by
 unfold mN;rw[show BitVec.ofInt IntKind.u32.bits 0=0#IntKind.u32.bits from rfl,BitVec.xor_zero];rw[BitVec.toNat_ofInt];have:((a%((2^IntKind.u32.bits:Nat):Int)).toNat:Int)=a:=by
  simp [IntKind.bits];omega
 rw[this,vV h]
theorem qVC {a:Int} (h:0<=a/\a<4294967296):qM .u32 a 1=a%2:=by
 unfold qM;have e1:(BitVec.ofInt IntKind.u32.bits a &&& BitVec.ofInt IntKind.u32.bits 1).toNat=(a%2).toNat:=by
  rw[BitVec.toNat_and,BitVec.toNat_ofInt,BitVec.toNat_ofInt];have:((1:Int)%((2^IntKind.u32.bits:Nat):Int)).toNat=1:=by decide
  rw[this,Nat.and_one_is_mod];simp [IntKind.bits];omega
 rw[e1,vV (by omega)];omega
theorem qCB {a:Int} (h:0<=a/\a<4294967296) (n:Nat):0<=iV .u32 a n/\iV .u32 a n<4294967296:=by
 unfold iV;have hp:(0:Int)<2^(min ((n:Int)).toNat IntKind.u32.bits):=Int.pow_pos (by decide);rw[Int.fdiv_eq_ediv_of_nonneg _ (by omega)];exact⟨Int.ediv_nonneg h.1 (by omega),Int.lt_of_le_of_lt (Int.ediv_le_self _ h.1) h.2⟩
theorem yL {α:Type} (l:List α) (k:Nat) (v:α) (h:k<l.length):(l.set k v).take (k+1)=l.take k++ [v]:=by
 apply List.ext_getElem?;intro i;rw[List.getElem?_take,List.getElem?_append,List.getElem?_take];simp only[List.length_take,List.getElem?_set];by_cases h1:i<k
 ·rw[if_pos (by omega),if_neg (by omega),if_pos (by omega),if_pos h1]
 ·by_cases h2:i=k
  ·subst h2
   rw[if_pos (by omega),if_pos rfl,if_pos h,if_neg (by omega)];simp [Nat.min_eq_left (Nat.le_of_lt h)]
  ·rw[if_neg (by omega),if_neg (by omega)]
   simp;omega
theorem hE (a b:List Int):aV (a++b)=aV a++aV b:=by
 apply ByteArray.ext;simp [aV]
theorem cO (l:List Int):(aV l).size=l.length:=by simp [aV,ByteArray.size]
theorem cM (s:ByteArray) (i:Nat):0<=aG s i/\aG s i<256:=by
 unfold aG;have:=(s.get! i).toNat_lt;omega
abbrev bP:Ty:=.pair .bool (.pair (.int .i64) .str)
abbrev Val:Type:=Bool×Int×ByteArray
@[reducible] instance:Inhabited Val:=instInhabitedDen bP
abbrev qC:Ty:=.pair .str (.pair (.int .i64) (.pair (.int .i64) .bool))
abbrev Col:Type:=ByteArray×Int×Int×Bool
@[reducible] instance:Inhabited Col:=instInhabitedDen qC
def gs (f:Nat->Int) (m w i:Nat):Nat->Int
 |0=>0
 |t+1=>gs f m w i t+(if i*w+t<m then f (i*w+t)*2^t else 0)
def AD (f:Nat->Int):Prop:=∀q,f q=0\/f q=1
theorem iQ (t:Nat):(0:Int)<2^t:=Int.pow_pos (by decide)
theorem MG (t:Nat):(2:Int)^(t+1)=2*2^t:=by rw[Int.pow_succ];omega
theorem qA8 {f:Nat->Int} (hf:AD f) (m w i:Nat):∀t,0<=gs f m w i t/\gs f m w i t<2^t
 |0=>by simp [gs]
 |t+1=>by
  have h:=qA8 hf m w i t;have hp:=iQ t;rw[gs,MG];split
  ·rcases hf (i*w+t)with q|q<;>rw[q]<;>omega
  ·omega
theorem qBA {f:Nat->Int} {m w i:Nat}:∀ {t t0:Nat},t0<=t->(∀u,t0<=u->u<t->¬i*w+u<m)->gs f m w i t=gs f m w i t0
 |0,t0,h,_=>by rw[show t0=0 by omega]
 |t+1,t0,h,hu=>by
  rcases Nat.eq_or_lt_of_le h with q|q
  ·rw[q]
  ·rw[gs,if_neg (hu t (by omega) (by omega)),qBA (t0:=t0) (by omega) (fun u h1 h2=>hu u h1 (by omega))];omega
theorem FN {i w t m:Nat} (ht:t<w) (h:i*w+t=m):i=m/w/\t=m%w:=by
 subst h;constructor
 ·rw[Nat.add_comm,Nat.add_mul_div_right _ _ (by omega),Nat.div_eq_of_lt ht,Nat.zero_add]
 ·rw[Nat.add_comm,Nat.add_mul_mod_self_right,Nat.mod_eq_of_lt ht]
theorem LM {f:Nat->Int} {m w i:Nat} (hw:0<w):∀t,t<=w->gs f (m+1) w i t=gs f m w i t+(if i=m/w/\m%w<t then f m*2^(m%w)else 0)
 |0,_=>by simp [gs]
 |t+1,ht=>by
  rw[gs,gs,LM hw t (by omega)];by_cases q:i*w+t=m
  ·obtain⟨q1,q2⟩:=FN (by omega) q
   rw[if_neg (by omega),if_pos (by omega),if_neg (by omega),if_pos ⟨q1,by omega⟩,q,<-q2];(try omega)
  ·have q':¬(i=m/w/\t=m%w):=fun h=>q (by
     have:=Nat.div_add_mod m w;rw[h.1,h.2,Nat.mul_comm];exact this)
   by_cases r:i*w+t<m
   ·rw[if_pos (show i*w+t<m+1 by omega),if_pos r]
    by_cases c:i=m/w/\m%w<t
    ·rw[if_pos c,if_pos ⟨c.1,by omega⟩];omega
    ·rw[if_neg c,if_neg (fun h=>c ⟨h.1,by omega⟩)];omega
   ·rw[if_neg (show ¬i*w+t<m+1 by omega),if_neg r]
    by_cases c:i=m/w/\m%w<t
    ·rw[if_pos c,if_pos ⟨c.1,by omega⟩];omega
    ·rw[if_neg c,if_neg (fun h=>c ⟨h.1,by omega⟩)]
theorem qA9 {f:Nat->Int} {m w:Nat} (hw:0<w) (i:Nat):gs f (m+1) w i w=gs f m w i w+(if i=m/w then f m*2^(m%w)else 0):=by
 rw[LM hw w (Nat.le_refl _)];have:=Nat.mod_lt m hw;by_cases c:i=m/w
 ·rw[if_pos ⟨c,this⟩,if_pos c]
 ·rw[if_neg (fun h=>c h.1),if_neg c]
theorem qKO {f:Nat->Int} (hf:AD f) {m w:Nat} (hw:0<w):0<=gs f m w (m/w) w/\gs f m w (m/w) w<2^(m%w):=by
 have h:=Nat.mod_lt m hw;rw[qBA (t:=w) (t0:=m%w) (by omega) (fun u h1 h2=>by
  have:=Nat.div_add_mod m w;rw[Nat.mul_comm]at this;omega)]
 exact qA8 hf _ _ _ _
def gL (f:Nat->Int) (m w n:Nat):List Int:=(List.range n).map fun i=>gs f m w i w
theorem lY (f:Nat->Int) (m w n:Nat):(gL f m w n).length=n:=by simp [gL]
theorem YH {f:Nat->Int} {m w n i:Nat} (h:i<n):(gL f m w n)[i]! =gs f m w i w:=by
 rw[getElem!_pos _ i (by rw[lY];exact h)];simp [gL]
theorem PD (f:Nat->Int) (w n:Nat):gL f 0 w n=List.replicate n 0:=by
 have h0:∀i t,gs f 0 w i t=0:=by
  intro i t;induction t with
  |zero=>rfl
  |succ t ih=>rw[gs,ih,if_neg (by omega)];rfl
 unfold gL;apply List.ext_getElem
 ·simp
 ·intro i h1 h2
  simp [h0]
theorem qPH {f:Nat->Int} {m w n:Nat} (hw:0<w) (hm:m/w<n):(gL f m w n).set (m/w) (gs f m w (m/w) w+f m*2^(m%w))=gL f (m+1) w n:=by
 apply List.ext_getElem
 ·simp [gL]
 ·intro i h1 h2
  rw[List.getElem_set];simp only[gL,List.getElem_map,List.getElem_range];rw[qA9 hw];by_cases c:m/w=i
  ·rw[if_pos c,if_pos c.symm,c]
  ·rw[if_neg c,if_neg (fun h=>c h.symm)];omega
theorem qA5 {f:Nat->Int} {m w n:Nat} (hw:0<w) (h0:f m=0):gL f m w n=gL f (m+1) w n:=by
 unfold gL;refine List.map_congr_left fun i _=>?_
 rw[qA9 hw,h0];split<;>omega
theorem fA (n:Nat):((2^n:Nat):Int)=(2:Int)^n:=by simp
theorem qQJ (k:IntKind) (hs:k.signed=false) {a b:Int} {s:Nat} (hb:b=0\/b=1) (hk:s<k.bits) (ha:0<=a/\a<2^s):bOr k a (b*2^s)=a+b*2^s:=by
 have hp:=iQ s;have hle:(2:Int)^s*2<=2^k.bits:=by
  obtain⟨d,hd⟩:∃d,k.bits=s+(d+1):=⟨k.bits-s-1,by omega⟩
  rw[hd,Int.pow_add,MG];have:=iQ d;have h1:(2:Int)^s*(2*1)<=2^s*(2*2^d):=Int.mul_le_mul_of_nonneg_left (by omega) (by omega);simpa using h1
 have hbs:0<=b*2^s/\b*2^s<=2^s:=by rcases hb with q|q<;>rw[q]<;>omega
 have hcast:=fA k.bits;have hid:∀x:Int,0<=x->x<2^k.bits->(BitVec.ofInt k.bits x).toNat=x.toNat:=fun x h1 h2=>by
  rw[BitVec.toNat_ofInt,hcast,Int.emod_eq_of_lt h1 h2]
 unfold bOr;rw[BitVec.toNat_or,hid a ha.1 (by omega),hid _ hbs.1 (by omega)];have e:a.toNat ||| (b*2^s).toNat=a.toNat+(b*2^s).toNat:=by
  have ha2:a.toNat<2^s:=by
   have:=fA s;omega
  rcases hb with q|q
  ·subst q;simp
  ·subst q
   have h2:((1:Int)*2^s).toNat=2^s*1:=by
    rw[Int.one_mul,<-fA,Int.toNat_natCast,Nat.mul_one]
   rw[h2,Nat.or_comm,<-Nat.two_pow_add_eq_or_of_lt ha2];omega
 rw[e];have hsum:((a.toNat+(b*2^s).toNat:Nat):Int)=a+b*2^s:=by omega
 rw[hsum];have hin:0<=a+b*2^s/\a+b*2^s<2^k.bits:=by
  refine⟨by omega,?_⟩;rcases hb with q|q<;>rw[q]<;>omega
 cases k<;>first|(simp [IntKind.signed]at hs;done)|(simp only[IntKind.wrap,IntKind.bits,IntKind.signed]at hin ⊢;simp at hin ⊢;omega)
theorem qCA {v:Int} (hv:0<=v) {k:Int} (hk:0<=k/\k<64):iV .u64 v k=v/2^k.toNat:=by
 unfold iV;rw[Int.fdiv_eq_ediv_of_nonneg _ (by have:=iQ (min k.toNat IntKind.u64.bits);omega),Nat.min_eq_left (by simp [IntKind.bits];omega)]
theorem UM {v:Int} {k:Int} (hk:0<=k/\k<8):iV .u8 v k=v/2^k.toNat:=by
 unfold iV;rw[Int.fdiv_eq_ediv_of_nonneg _ (by have:=iQ (min k.toNat IntKind.u8.bits);omega),Nat.min_eq_left (by simp [IntKind.bits];omega)]
theorem NT {a:Int} (h:0<=a/\a<18446744073709551616):qM .u64 a 1=a%2:=by
 unfold qM;have e1:(BitVec.ofInt IntKind.u64.bits a &&& BitVec.ofInt IntKind.u64.bits 1).toNat=(a%2).toNat:=by
  rw[BitVec.toNat_and,BitVec.toNat_ofInt,BitVec.toNat_ofInt];have:((1:Int)%((2^IntKind.u64.bits:Nat):Int)).toNat=1:=by decide
  rw[this,Nat.and_one_is_mod];simp [IntKind.bits];omega
 rw[e1,aW (by omega)];omega
theorem qS7 {a:Int} (h:0<=a/\a<256):qM .u8 a 1=a%2:=by
 unfold qM;have e1:(BitVec.ofInt IntKind.u8.bits a &&& BitVec.ofInt IntKind.u8.bits 1).toNat=(a%2).toNat:=by
  rw[BitVec.toNat_and,BitVec.toNat_ofInt,BitVec.toNat_ofInt];have:((1:Int)%((2^IntKind.u8.bits:Nat):Int)).toNat=1:=by decide
  rw[this,Nat.and_one_is_mod];simp [IntKind.bits];omega
 rw[e1,WI (by omega)];omega
theorem qUW {b:Int} (hb:b=0\/b=1) {s:Int} (hs:0<=s/\s<8):mW .u8 b s=b*2^s.toNat:=by
 unfold mW;rw[Nat.min_eq_left (by simp [IntKind.bits];omega)];refine WI ?_;have h8:(2:Int)^s.toNat<=128:=by
  have:s.toNat<=7:=by omega
  have:=Nat.pow_le_pow_right (show 0<2 by decide) this;rw[<-fA];omega
 have hp:=iQ s.toNat;rcases hb with q|q<;>rw[q]<;>omega
theorem qQ5 {b:Int} (hb:b=0\/b=1) {s:Int} (hs:0<=s/\s<64):mW .u64 b s=b*2^s.toNat:=by
 unfold mW;rw[Nat.min_eq_left (by simp [IntKind.bits];omega)];refine aW ?_;have h8:(2:Int)^s.toNat<=9223372036854775808:=by
  have:s.toNat<=63:=by omega
  have:=Nat.pow_le_pow_right (show 0<2 by decide) this;rw[<-fA];omega
 have hp:=iQ s.toNat;rcases hb with q|q<;>rw[q]<;>omega
def nN (v:Int):Int:=((Lib.bitLen v.toNat:Nat):Int)
def pW (n w:Int):Bool:=decide (0<=n)&&decide (n<=4096)&&decide (0<=w)&&decide (w<=64)
def dK (n w:Int):Int:=if pW n w=true then(n*w+7).tdiv 8 else 0
theorem eQ (n w:Int):pW n w=true↔(0<=n/\n<=4096)/\0<=w/\w<=64:=by simp [pW,and_assoc]
theorem qBQ {n w:Int} (h:(0<=n/\n<=4096)/\0<=w/\w<=64):0<=n*w/\n*w<=262144:=by
 refine⟨Int.mul_nonneg h.1.1 h.2.1,?_⟩;have h1:=Int.mul_le_mul_of_nonneg_right h.1.2 h.2.1;omega
theorem jZ {n w:Int} (h:(0<=n/\n<=4096)/\0<=w/\w<=64):dK n w=(n*w+7)/8/\0<=n*w/\n*w<=262144:=by
 have h1:=qBQ h;rw[dK,if_pos ((eQ n w).2 h),Int.tdiv_eq_ediv_of_nonneg (by omega)];exact⟨rfl,h1⟩
theorem vK {i n k w:Int} (hi:i<n) (hk:k<w) (h0:0<=w):i*w+k<n*w:=by
 have h1:(i+1)*w<=n*w:=Int.mul_le_mul_of_nonneg_right (by omega) h0;rw[Int.add_mul]at h1;omega
theorem UN (i w:Int):(i+1)*w=i*w+w:=by rw[Int.add_mul];omega
def vbit (l:List Int) (w q:Nat):Int:=l[q/w]! /2^(q%w)%2
def sbit (s:ByteArray) (q:Nat):Int:=aG s (q/8)/2^(q%8)%2
theorem qU6 (l:List Int) (w:Nat):AD (vbit l w):=fun q=>by unfold vbit;omega
theorem vQ (s:ByteArray):AD (sbit s):=fun q=>by unfold sbit;omega
theorem TU {i w k:Int} (h:0<=i/\0<=k/\k<w):(i*w+k).toNat/w.toNat=i.toNat/\(i*w+k).toNat%w.toNat=k.toNat:=by
 have h1:(i*w+k).toNat=i.toNat*w.toNat+k.toNat:=by
  have:0<=i*w:=Int.mul_nonneg h.1 (by omega);have e:((i.toNat*w.toNat+k.toNat:Nat):Int)=i*w+k:=by
   push_cast
   rw[Int.toNat_of_nonneg h.1,Int.toNat_of_nonneg (show 0<=w by omega),Int.toNat_of_nonneg h.2.1]
  omega
 obtain⟨q1,q2⟩:=FN (i:=i.toNat) (w:=w.toNat) (t:=k.toNat) (m:=(i*w+k).toNat) (by omega) h1.symm;exact⟨q1.symm,q2.symm⟩
theorem qRX {kd:IntKind} (hs:kd.signed=false) {f:Nat->Int} (hf:AD f) {m W n:Nat} (hW:0<W) (hb:W<=kd.bits) (hm:m/W<n) :
  (gL f m W n).set (m/W) (bOr kd (gL f m W n)[m/W]! (f m*2^(m%W)))=gL f (m+1) W n:=by
 have hml:=Nat.mod_lt m hW;rw[YH hm,qQJ kd hs (hf m) (by omega) (qKO hf hW)];exact qPH hW hm
theorem TJ {f:Nat->Int} (hf:AD f) {N:Nat} {a b s q:Int} (ha:0<=a) (hN:a.toNat/8<N) (hb:b=f a.toNat) (hs:s=a.tmod 8) (hq:q=a.tdiv 8) :
  (gL f a.toNat 8 N).set q.toNat (bOr .u8 (gL f a.toNat 8 N)[q.toNat]! (mW .u8 b s))=gL f (a+1).toNat 8 N:=by
 have e1:q.toNat=a.toNat/8:=by rw[hq,Int.tdiv_eq_ediv_of_nonneg ha];omega
 have e2:s.toNat=a.toNat%8:=by rw[hs,Int.tmod_eq_emod_of_nonneg ha];omega
 have e3:0<=s/\s<8:=by rw[hs,Int.tmod_eq_emod_of_nonneg ha];omega
 rw[qUW (by rw[hb];exact hf _) e3,e1,e2,hb,show(a+1).toNat=a.toNat+1 by omega];exact qRX rfl hf (by decide) (by decide) hN
theorem qAC {f:Nat->Int} (hf:AD f) {n W:Nat} {a b k i:Int} (ha:0<=a) (hW:0<W/\W<=64) (hi:0<=i/\i.toNat<n) (hk:0<=k) (h1:a.toNat/W=i.toNat) (h2:a.toNat%W=k.toNat) (hb:b=f a.toNat) :
  (gL f a.toNat W n).set i.toNat (bOr .u64 (gL f a.toNat W n)[i.toNat]! (mW .u64 b k))=gL f (a+1).toNat W n:=by
 have h3:=Nat.mod_lt a.toNat hW.1;rw[qQ5 (by rw[hb];exact hf _) (by omega),<-h1,<-h2,hb,show(a+1).toNat=a.toNat+1 by omega];exact qRX rfl hf hW.1 hW.2 (by omega)
theorem qE4 {l:List Int} {i k w:Int} (h:0<=i/\0<=k/\k<w):vbit l w.toNat (i*w+k).toNat=l[i.toNat]! /2^k.toNat%2:=by
 obtain⟨q1,q2⟩:=TU h;unfold vbit;rw[q1,q2]
theorem qI4 {v k:Int} (hv:0<=v/\v<18446744073709551616) (hk:0<=k/\k<64):qM .u64 (iV .u64 v k) 1=v/2^k.toNat%2/\(v/2^k.toNat%2=0\/v/2^k.toNat%2=1):=by
 have hp:=iQ k.toNat;have h0:0<=v/2^k.toNat:=Int.ediv_nonneg hv.1 (by omega);have h1:v/2^k.toNat<=v:=Int.ediv_le_self _ hv.1;rw[qCA hv.1 hk,NT (by omega)];exact⟨rfl,by omega⟩
theorem qI3 (s:ByteArray) {a:Int} (ha:0<=a):qM .u8 (iV .u8 (aG s (a.tdiv 8).toNat) (a.tmod 8)) 1=sbit s a.toNat/\(sbit s a.toNat=0\/sbit s a.toNat=1):=by
 have e1:(a.tdiv 8).toNat=a.toNat/8:=by rw[Int.tdiv_eq_ediv_of_nonneg ha];omega
 have e2:(a.tmod 8).toNat=a.toNat%8:=by rw[Int.tmod_eq_emod_of_nonneg ha];omega
 have e3:0<=a.tmod 8/\a.tmod 8<8:=by rw[Int.tmod_eq_emod_of_nonneg ha];omega
 have hb:=cM s (a.toNat/8);have hp:=iQ (a.toNat%8);have h0:0<=aG s (a.toNat/8)/2^(a.toNat%8):=Int.ediv_nonneg hb.1 (by omega);have h1:aG s (a.toNat/8)/2^(a.toNat%8)<=aG s (a.toNat/8):=Int.ediv_le_self _ hb.1;rw[UM e3,e1,e2,qS7 (by omega)];exact⟨rfl,vQ s _⟩
def qL (l:List Int) (w:Int):Bool:=l.any fun v=>decide (nN v>w)
theorem qNS {l:List Int} {w i:Int} (hi:0<=i/\i<l.length) (h:nN l[i.toNat]! >w):qL l w=true:=by
 unfold qL;rw[List.any_eq_true];refine⟨l[i.toNat]!,?_,by simpa using h⟩;rw[getElem!_pos l i.toNat (by omega)];exact List.getElem_mem _
theorem qRK {l:List Int} {w:Int} (h:∀j:Nat,j<l.length->nN l[j]! <=w):qL l w=false:=by
 unfold qL;rw[List.any_eq_false];intro v hv;obtain⟨j,hj,rfl⟩:=List.mem_iff_getElem.1 hv;have:=h j hj;rw[getElem!_pos l j hj]at this;simp;omega
def pV (l:List Int) (w:Int):ByteArray×Int:=
 if w<0\/w>64 then(⟨#[]⟩,4)else if l.length>4096 then(⟨#[]⟩,7)else if qL l w=true then(⟨#[]⟩,8)
 else(aV (gL (vbit l w.toNat) ((l.length:Int)*w).toNat 8 (dK l.length w).toNat),0)
abbrev tb1:Tbl:=(220,RJ)::([]:Tbl)
theorem qM6:aD Tryz.prog tb1:=aD.cons qT6 aD.nil
abbrev FA:Ct:=.fn [.int .u64] (some (fun(v:Int)=>(0<=v/\v<18446744073709551616))) (fun(v:Int)=>.d (.int .i64) (nN v))
theorem qNT:aF Tryz.prog 202 FA:=by
 refine aF.fn qM6 mixed [] [] rfl rfl ?_;rintro⟨(v:Int),_⟩ hpre;replace hpre:=hpre _ rfl;dsimp only[cu]at hpre;have hv:=hpre;refine⟨[],?_⟩;repeat' (first
  |(
 with_reducible apply Side.mk
 (try dsimp only[cu,aC,aB,gts,loK,hiK,eE,eN])
 omega)
  |(conv=>whnf
    first
     |with_reducible first|done|exact trivial|refine NilBr.mk (fun h=>?_) ?_|apply aI|apply aH|refine aJ (by kernel_rfl) ?_|apply aK|apply bB|apply bA|apply aQ
     |((with_reducible first|apply aS|apply aR|apply aZ)<;>intro h<;>(try dsimp only[cu,eE,eN]at h)<;>(try(exfalso;omega)))))
 all_goals(
 with_reducible apply Leaf.mk
 (try dsimp only[cu,aC,aB,gts,eE,eN]at *)
 rfl)
abbrev tb2:Tbl:=(202,FA)::tb1
theorem qM7:aD Tryz.prog tb2:=aD.cons qNT qM6
theorem LV {v:Int} (h:0<v) (h2:v<18446744073709551616):nN v=1+nN (v/2):=by
 obtain⟨n,rfl⟩:=Int.eq_ofNat_of_zero_le (show 0<=v by omega);have hn:0<n:=by omega
 have e:((n:Int)/2).toNat=n/2:=by omega
 unfold nN;rw[e,Int.toNat_natCast];by_cases h1:n/2=0
 ·have:n=1:=by omega
  subst this;rfl
 ·rw[Lib.bitLen_shift 1 n (by omega) (by omega)]
  simp
theorem qGP {v:Int} (h:v<=0):nN v=0:=by
 unfold nN;rw[show v.toNat=0 by omega];rfl
theorem PL {v:Int} (h:v<18446744073709551616):0<=nN v/\nN v<=64:=by
 unfold nN;have:=Lib.bitLen_le v.toNat 64 (by omega) (by omega);omega
theorem qMR {v:Int} (h:0<=v):iV .u64 v 1=v/2:=by
 rw[qCA h (by decide)];rfl
abbrev AW:Ct:=.fn [.int .u64] (some (fun(v0:Int)=>(0<=v0/\v0<18446744073709551616))) (fun(v0:Int)=>.d (.int .i64) (nN v0))
theorem qHE:aF Tryz.prog 184 AW:=by
 refine aF.fn qM7 mixed [] [] rfl rfl ?_;rintro⟨(v0:Int),_⟩ hpre;replace hpre:=hpre _ rfl;dsimp only[cu]at hpre;have hv0:=hpre;refine⟨[(0,4,LA.mk [.sl 0 (.int .u64),.sl 3 (.int .i64)] (fun y=>Tag 1/\cu [.int .u64,.int .i64] (fun(v:Int) (w:Int)=>(0<=v/\v<18446744073709551616)/\(nN v0=w+nN v)/\(0<=w/\w<=64)) y) (cu [.int .u64,.int .i64] (fun(v:Int) (w:Int)=>v.toNat)) (cu [.int .u64,.int .i64] (fun(v:Int) (w:Int)=>([]:List (Nat×Nat×LA)))))],?_⟩;repeat' (first
  |(
 with_reducible refine Side.mk ⟨(⟨⟩:Tag 1),?_⟩
 dsimp only[cu,aC,aB,gts,eE,eN]
 refine⟨?_,?_,?_⟩
 ·first
  |omega
  |rw[qMR (by omega)];omega
 ·first
  |omega
  |rw[hw,LV (v:=v) (by omega) (by omega),qMR (by omega)];omega
 ·first
  |omega
  |(
  have:=PL (v:=v0) (by omega)
  have h2:=LV (v:=v) (by omega) (by omega)
  have:=PL (v:=v/2) (by omega)
  omega))
  |(
 with_reducible apply Side.mk
 (try dsimp only[cu,aC,aB,gts,loK,hiK,eE,eN])
 first
 |omega
 |(rw[qMR (by omega)];omega))
  |(conv=>whnf
    first
     |with_reducible first|done|exact trivial|refine NilBr.mk (fun h=>?_) ?_|apply aI|apply aH|refine aJ (by kernel_rfl) ?_|apply aK|apply bB|apply bA|apply aQ
     |((with_reducible first|apply aS|apply aR|apply aZ)<;>intro h<;>(try dsimp only[cu,eE,eN]at h)<;>(try(exfalso;omega)))
     |(
 intro yy (hy:Tag 1/\_)
 obtain⟨(v:Int),(w:Int),_⟩:=yy
 replace hy:=hy.2
 dsimp only[cu,aC,aB,gts,eE,eN]at hy
 obtain⟨hv,hw,hw0⟩:=hy)))
 all_goals(
 with_reducible apply Leaf.mk
 (try dsimp only[cu,aC,aB,gts,eE,eN]at *)
 (
  have e:=qGP (v:=v) (by omega);rw[hw,e,Int.add_zero]))
abbrev tb3:Tbl:=(184,AW)::tb2
theorem qM8:aD Tryz.prog tb3:=aD.cons qHE qM7
abbrev JX:Ct:=.fn [.int .i64,.int .i64] (none) (fun(n:Int) (w:Int)=>.d .bool (pW n w))
theorem qQL:aF Tryz.prog 225 JX:=by
 refine aF.fn qM8 mixed [] [] rfl rfl ?_;rintro⟨(n:Int),(w:Int),_⟩ -;refine⟨[],?_⟩;repeat' (first
  |(
 with_reducible apply Side.mk
 (try dsimp only[cu,aC,aB,gts,loK,hiK,eE,eN])
 done)
  |(conv=>whnf
    first
     |with_reducible first|done|exact trivial|refine NilBr.mk (fun h=>?_) ?_|apply aI|apply aH|refine aJ (by kernel_rfl) ?_|apply aK|apply bB|apply bA|apply aQ
     |((with_reducible first|apply aS|apply aR|apply aZ)<;>intro h<;>(try dsimp only[cu,eE,eN]at h)<;>(try(exfalso;omega)))))
 all_goals(
 with_reducible apply Leaf.mk
 (try dsimp only[cu,aC,aB,gts,eE,eN]at *)
 grind [pW])
abbrev tb4:Tbl:=(225,JX)::tb3
theorem qM9:aD Tryz.prog tb4:=aD.cons qQL qM8
abbrev JS:Ct:=.fn [.int .i64,.int .i64] (none) (fun(n:Int) (w:Int)=>.d (.int .i64) (dK n w))
theorem qP9:aF Tryz.prog 207 JS:=by
 refine aF.fn qM9 mixed [] [] rfl rfl ?_;rintro⟨(n:Int),(w:Int),_⟩ -;refine⟨[],?_⟩;repeat' (first
  |(
 with_reducible apply Side.mk
 (try dsimp only[cu,aC,aB,gts,loK,hiK,eE,eN])
 first
 |omega
 |(
  have hnw:=qBQ (n:=n) (w:=w) ((eQ n w).1 (by simp_all;done));first
  |omega
  |(
   rw[Int.tdiv_eq_ediv_of_nonneg (by omega)];omega)))
  |(conv=>whnf
    first
     |with_reducible first|done|exact trivial|refine NilBr.mk (fun h=>?_) ?_|apply aI|apply aH|refine aJ (by kernel_rfl) ?_|apply aK|apply bB|apply bA|apply aQ
     |((with_reducible first|apply aS|apply aR|apply aZ)<;>intro h<;>(try dsimp only[cu,eE,eN]at h)<;>(try(exfalso;omega)))))
 all_goals(
 with_reducible apply Leaf.mk
 (try dsimp only[cu,aC,aB,gts,eE,eN]at *)
 first
 |(
  have q:pW n w=true:=by simp_all;done
  rw[dK,if_pos q])
 |(
  have q:¬pW n w=true:=by simp_all;done
  rw[dK,if_neg q]))
abbrev tb5:Tbl:=(207,JS)::tb4
theorem qNA:aD Tryz.prog tb5:=aD.cons qP9 qM9
abbrev EO:Ct:=.fn [.int .i64,.int .i64] (none) (fun(n:Int) (w:Int)=>.d (.int .i64) (dK n w))
theorem qMF:aF Tryz.prog 209 EO:=by
 refine aF.fn qNA mixed [] [] rfl rfl ?_;rintro⟨(n:Int),(w:Int),_⟩ -;refine⟨[],?_⟩;repeat' (first
  |(
 with_reducible apply Side.mk
 (try dsimp only[cu,aC,aB,gts,loK,hiK,eE,eN])
 first
 |omega
 |(
  have hnw:=qBQ (n:=n) (w:=w) (by omega);first
  |omega
  |(
   rw[Int.tdiv_eq_ediv_of_nonneg (by omega)];omega)))
  |(conv=>whnf
    first
     |with_reducible first|done|exact trivial|refine NilBr.mk (fun h=>?_) ?_|apply aI|apply aH|refine aJ (by kernel_rfl) ?_|apply aK|apply bB|apply bA|apply aQ
     |((with_reducible first|apply aS|apply aR|apply aZ)<;>intro h<;>(try dsimp only[cu,eE,eN]at h)<;>(try(exfalso;omega)))))
 all_goals(
 with_reducible apply Leaf.mk
 (try dsimp only[cu,aC,aB,gts,eE,eN]at *)
 first
 |(
  have q:pW n w=true:=(eQ n w).2 (by omega);rw[dK,if_pos q])
 |(
  have q:¬pW n w=true:=fun q=>by have:=(eQ n w).1 q;omega
  rw[dK,if_neg q]))
abbrev tb6:Tbl:=(209,EO)::tb5
theorem qNB:aD Tryz.prog tb6:=aD.cons qMF qNA
abbrev EP:Ct:=.fn [.list (.int .u64),.int .i64] (some (fun(l:List Int) (w:Int)=>(∀i:Nat,0<=l[i]! /\l[i]! <18446744073709551616)/\(l.length<=4611686018427387904))) (fun(l:List Int) (w:Int)=>.tup [.str,.int .i64] ((pV l w).1,(pV l w).2,()))
theorem qMG:aF Tryz.prog 183 EP:=by
 refine aF.fn qNB mixed [] [] rfl rfl ?_;rintro⟨(l:List Int),(w:Int),_⟩ hpre;replace hpre:=hpre _ rfl;dsimp only[cu]at hpre;obtain⟨hlv,hll⟩:=hpre;refine⟨[(0,14,LA.mk [.sl 27 (.int .i64),.ar 0 (.int .u8) 5] (fun y=>Tag 2/\cu [.int .i64,.list (.int .u8)] (fun(i:Int) (M:List Int)=>(0<=i/\i<=l.length)/\(M=gL (vbit l w.toNat) (i*w).toNat 8 (dK l.length w).toNat)/\(∀j:Nat,(j:Int)<i->nN l[j]! <=w)) y) (cu [.int .i64,.list (.int .u8)] (fun(i:Int) (M:List Int)=>((l.length:Int)-i).toNat)) (cu [.int .i64,.list (.int .u8)] (fun(i:Int) (M:List Int)=>([(0,24,LA.mk [.sl 9 (.int .i64),.ar 0 (.int .u8) 5] (fun y=>Tag 3/\cu [.int .i64,.list (.int .u8)] (fun(k:Int) (O:List Int)=>(0<=k/\k<=w)/\(O=gL (vbit l w.toNat) (i*w+k).toNat 8 (dK l.length w).toNat)) y) (cu [.int .i64,.list (.int .u8)] (fun(k:Int) (O:List Int)=>((w:Int)-k).toNat)) (cu [.int .i64,.list (.int .u8)] (fun(k:Int) (O:List Int)=>([]:List (Nat×Nat×LA)))))]:List (Nat×Nat×LA)))))],?_⟩;repeat' (first
  |(
 with_reducible refine Side.mk ⟨(⟨⟩:Tag 2),?_⟩
 dsimp only[cu,aC,aB,gts,eE,eN]
 refine⟨?_,?_,?_⟩
 ·omega
 ·first
  |rw[Int.zero_mul];exact(PD _ _ _).symm
  |rw[hO,show k=w by omega,UN]
 ·first
  |intro j hj;omega
  |(
  intro j hj
  rcases Int.lt_or_le (j:Int) i with q|q
  ·exact hwd j q
  ·rw[show j=i.toNat by omega];exact Int.not_lt.1 (by assumption)))
  |(
 with_reducible refine Side.mk ⟨(⟨⟩:Tag 3),?_⟩
 dsimp only[cu,aC,aB,gts,eE,eN]
 refine⟨?_,?_⟩
 ·omega
 ·first
  |rw[hM,Int.add_zero]
  |(
  have hne:=jZ (n:=l.length) (w:=w) (by omega)
  have hix:=vK (i:=i) (n:=l.length) (k:=k) (w:=w) (by omega) (by omega) (by omega)
  have hi0:0<=i*w:=Int.mul_nonneg (by omega) (by omega)
  first
  |(
   rw[hO,show i*w+(k+1)=i*w+k+1 by omega];obtain⟨q1,q2⟩:=qI4 (hlv i.toNat) (k:=k) (by omega);rw[aW (n:=k) (by omega)]at h;rw[aW (n:=(i*w+k).tmod 8) (by rw[Int.tmod_eq_emod_of_nonneg (by omega)];omega)];refine TJ (qU6 _ _) (by omega) (by omega) ?_ rfl rfl;rw[qE4 (by omega),<-q1];exact h.symm)
  |(
   rw[hO,show i*w+(k+1)=i*w+k+1 by omega,show(i*w+k+1).toNat=(i*w+k).toNat+1 by omega];obtain⟨q1,q2⟩:=qI4 (hlv i.toNat) (k:=k) (by omega);rw[aW (n:=k) (by omega)]at h;have h2:¬qM .u64 (iV .u64 l[i.toNat]! k) 1=1:=h;rw[q1]at h2;refine qA5 (by decide) ?_;rw[qE4 (by omega)];omega)))
  |(
 with_reducible apply Side.mk
 (try dsimp only[cu,aC,aB,gts,loK,hiK,eE,eN])
 first
 |omega
 |(
  have hne:=jZ (n:=l.length) (w:=w) (by omega);omega)
 |exact hlv _
 |simp only[hM,lY];done
 |rw[aW (n:=k) (by omega)];omega
 |(
  have hne:=jZ (n:=l.length) (w:=w) (by omega);have hix:=vK (i:=i) (n:=l.length) (k:=k) (w:=w) (by omega) (by omega) (by omega);have hi0:0<=i*w:=Int.mul_nonneg (by omega) (by omega);first
  |(
   (try rw[Int.tdiv_eq_ediv_of_nonneg (by omega)]);(try rw[Int.tmod_eq_emod_of_nonneg (by omega)]);(try simp only[hO,lY]);omega)
  |(
   rw[aW (n:=(i*w+k).tmod 8) (by rw[Int.tmod_eq_emod_of_nonneg (by omega)];omega)];(try rw[Int.tdiv_eq_ediv_of_nonneg (by omega)]);(try rw[Int.tmod_eq_emod_of_nonneg (by omega)]);omega)))
  |(conv=>whnf
    first
     |with_reducible first|done|exact trivial|refine NilBr.mk (fun h=>?_) ?_|apply aI|apply aH|refine aJ (by kernel_rfl) ?_|apply aK|apply bB|apply bA|apply aQ
     |((with_reducible first|apply aS|apply aR|apply aZ)<;>intro h<;>(try dsimp only[cu,eE,eN]at h)<;>(try(exfalso;omega)))
     |(
 intro yy (hy:Tag 2/\_)
 obtain⟨(i:Int),(M:List Int),_⟩:=yy
 replace hy:=hy.2
 dsimp only[cu,aC,aB,gts,eE,eN]at hy
 obtain⟨hi,hM,hwd⟩:=hy)
     |(
 intro yy (hy:Tag 3/\_)
 obtain⟨(k:Int),(O:List Int),_⟩:=yy
 replace hy:=hy.2
 dsimp only[cu,aC,aB,gts,eE,eN]at hy
 obtain⟨hk,hO⟩:=hy)))
 all_goals(
 with_reducible apply Leaf.mk
 (try dsimp only[cu,aC,aB,gts,eE,eN]at *)
 first
 |rw[pV,if_pos (by omega)]
 |rw[pV,if_neg (by omega),if_pos (by omega)]
 |(
  have hyes:=qNS (l:=l) (w:=w) (i:=i) (by omega) (by assumption);have h1:¬(w<0\/w>64):=by omega
  have h2:¬l.length>4096:=by omega
  rw[pV,if_neg h1,if_neg h2,if_pos hyes])
 |(
  have hil:i=l.length:=by omega
  have hno:=qRK (l:=l) (w:=w) (fun j hj=>hwd j (by omega));have h1:¬(w<0\/w>64):=by omega
  have h2:¬l.length>4096:=by omega
  have h3:¬qL l w=true:=by rw[hno];decide
  rw[pV,if_neg h1,if_neg h2,if_neg h3];(try rw[hM,hil])))
abbrev tb7:Tbl:=(183,EP)::tb6
theorem qNC:aD Tryz.prog tb7:=aD.cons qMG qNB
end Go.Proofs.YtcjiefknhfhmkaaGreatDoor
