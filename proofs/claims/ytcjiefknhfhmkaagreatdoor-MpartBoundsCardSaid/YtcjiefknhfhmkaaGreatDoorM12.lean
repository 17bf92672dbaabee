import Derived.Test.YtcjiefknhfhmkaaGreatDoorM11
namespace Go.Abs
set_option maxRecDepth 100000
set_option maxHeartbeats 4000000
set_option linter.unusedVariables false
set_option linter.unusedSimpArgs false
noncomputable section
abbrev RD:=FuncId->List V->RH->Option (V×RH)
def RDOk (P:Program) (D:RD):Prop:=∀f args H x H',D f args H=some (x,H')->PC P f args H.den (fun y k=>y=x/\k=H'.den)/\Fr' H H'
structure RE where
 d:RD
 l:FuncId->Bool
 c:FuncId->Nat
structure REOk (P:Program) (D:RE):Prop where
 d:RDOk P D.d
 c:∀g,D.c g≠0->mY P g (D.c g)/\callable P g=true
def rAl:Op->Bool
 | .alloc _=>true
 | .box _ _=>true
 | .buildSlice _ _ _=>true
 | .makeSlice _ _ _=>true
 | .convert _ _ _=>true
 | .call ⟨.builtin _,_,_⟩=>true
 |_=>false
def rbump (op:Op) (n:Nat):Nat:=bif rAl op then n+1 else n
def rstep (P:Program) (D:RE) (ih:RT->Option RR):RT->Option RR
 | .code c s=>match c with
   | .skip=>some (.code .normal s)
   | .region _ ops d=>(match d with
     |true=>rreg P ih ops s
     |false=>ih (.ops ops ops.toList s))
   | .seq a b=>match ih (.code a s)with
     |some (.code .normal s')=>ih (.code b s')
     |r=>r
   | .cond c t e=>match rev s.n s.sl c with
     | .v (.bool b)=>ih (.code (if b then t else e) s)
     |_=>none
   | .block id c=>match ih (.code c s)with
     |some (.code (.exit id') s')=>if id'=id then some (.code .normal s')else some (.code (.exit id') s')
     |r=>r
   | .loop b=>match ih (.code b s)with
     |some (.code .normal s')=>ih (.code (.loop b) s')
     |r=>r
   | .exit id=>some (.code (.exit id) s)
   | .ret=>some (.code .ret s)
   |_=>none
 | .ops ops l s=>match l with
   | []=>some (.code .normal s)
   |o::r=>match rwanted ops s.n s.sl o with
    |some true=>match AP P (rev s.n s.sl) o.op with
     |some (f,args)=>match ih (.call f args s.h)with
      |some (.val x h')=>ih (.ops ops r ⟨s.n,tK s.sl o.dst x,h'⟩)
      |_=>none
     |none=>match rop P o.op (rev s.n s.sl) s.h s.h.nx with
      |some (x,h')=>bif Nat.blt s.h.nx s.h.m then ih (.ops ops r ⟨s.n,tK s.sl o.dst x,⟨h'.m,rbump o.op s.h.nx,h'.t,rwids P o.op (rev s.n s.sl) s.h.nx++s.h.lg⟩⟩)else none
      |none=>none
    |some false=>ih (.ops ops r ⟨s.n,tK s.sl o.dst (.v undef),s.h⟩)
    |none=>none
 | .call f args h=>match D.d f args h with
   |some (x,h')=>some (.val x h')
   |none=>match P.funcs[f]? with
    |some fn=>match fn.body with
     |some c=>bif D.l f then(match rtail P D.c ih fn.results.toList 64 c (rstart fn.ntmps args h)with
      |some (x,h')=>some (.val x h')
      |none=>none)else match ih (.code c (rstart fn.ntmps args h))with
      |some (.code e s')=>match e with
       | .normal=>(match rares P fn.results.toList s' with
         |some x=>some (.val x s'.h)
         |none=>none)
       | .ret=>(match rares P fn.results.toList s' with
         |some x=>some (.val x s'.h)
         |none=>none)
       |_=>none
      |_=>none
     |none=>none
    |none=>none
def rrun (P:Program) (D:RE) (n:Nat):RT->Option RR:=
 Nat.rec (motive:=fun _=>RT->Option RR) (fun _=>none) (fun _ ih=>rstep P D ih) n
theorem oX (P:Program) (D:RE) (n:Nat) (t:RT):rrun P D (n+1) t=rstep P D (rrun P D n) t:=rfl
theorem RQ {P:Program} {D:RE} {b:Code} (n:Nat) (hrec:∀m,m<n+1->RIH P (rrun P D m)):∀(m:Nat) (s:RS) (e:Exit) (s':RS),m<=n+1->rrun P D m (.code (.loop b) s)=some (.code e s')->Fr' s.h s'.h
 |0,_,_,_,_,q=>by cases q
 |m+1,s,e,s',hm,q=>by
  rw[oX]at q;simp only[rstep]at q;split at q
  ·rename_i s2 h2
   exact(hrec m (by omega) _ _ h2).2.trans (RQ n hrec m s2 e s' (by omega) q)
  ·exact(hrec m (by omega) _ _ q).2
theorem SB {P:Program} {D:RE} (hm:P.follows .mixedOrders=true) (hD:REOk P D) (n:Nat) (hrec:∀m,m<n+1->RIH P (rrun P D m)) (t:RT) (r:RR) (e:rstep P D (rrun P D n) t=some r):RTS P t r:=by
 have hih:RIH P (rrun P D n):=hrec n (by omega);cases t with
 |code c s=>
  simp only[rstep]at e;cases c with
  |skip=>injection e with e;subst e;exact⟨PW.skip ⟨rfl,rfl⟩,Fr'.refl _⟩
  |region id ops d=>
   (try simp only at e);split at e
   ·exact qMJ hm hih e
   ·have:=hih _ _ e
    cases r with
    |code e2 s2=>
     obtain⟨rfl,fr,q⟩:=this;refine⟨PW.region ?_,fr⟩;have hr:List.range ops.size=List.range' 0 ops.toList.length:=by rw[List.range_eq_range'];simp
     rw[hr];intro ι a w rr;exact fC (fun e a w ⟨s3,ι3,⟨p1,p2⟩,p3⟩=>⟨s3,ι3,⟨p1,rfl,p2⟩,p3⟩) _ _ _ (q 0 (fun j o hj=>by simpa using hj) ι a w rr)
    |val x h=>exact this.elim
  |seq a b=>
   (try simp only at e);split at e
   ·rename_i s' ha
    have h1:=hih _ _ ha;have h2:=hih _ _ e;cases r with
    |code e2 s2=>
     refine⟨PW.seq (PW.mono h1.1 ?_),h1.2.trans h2.2⟩;rintro e3 s3 ⟨rfl,rfl⟩;exact h2.1
    |val x h=>exact h2.elim
   ·rename_i q hq
    have h1:=hih _ _ e;cases r with
    |code e2 s2=>
     refine⟨PW.seq (PW.mono h1.1 ?_),h1.2⟩;rintro e3 s3 ⟨rfl,rfl⟩;cases e3 with
     |normal=>exact absurd e (hq s2)
     |_=>exact⟨rfl,rfl⟩
    |val x h=>exact h1.elim
  |cond c x y=>
   (try simp only at e);split at e
   ·rename_i b hb
    rw[<-NJ]at hb;have h1:=hih _ _ e;cases r with
    |code e2 s2=>exact⟨PW.cond (s:=s.den) hb h1.1,h1.2⟩
    |val x h=>exact h1.elim
   ·cases e
  |block id c=>
   (try simp only at e);split at e
   ·rename_i id' s' hc
    have h1:=hih _ _ hc;split at e
    ·rename_i hid
     injection e with e;subst e;refine⟨PW.block (PW.mono h1.1 ?_),h1.2⟩;rintro e3 s3 ⟨rfl,rfl⟩;simp only[nG,if_pos hid];exact⟨trivial,trivial⟩
    ·rename_i hid
     injection e with e;subst e;refine⟨PW.block (PW.mono h1.1 ?_),h1.2⟩;rintro e3 s3 ⟨rfl,rfl⟩;simp only[nG,if_neg hid];exact⟨trivial,trivial⟩
   ·rename_i q hq
    have h1:=hih _ _ e;cases r with
    |code e2 s2=>
     refine⟨PW.block (PW.mono h1.1 ?_),h1.2⟩;rintro e3 s3 ⟨rfl,rfl⟩;cases e3 with
     |exit id'=>exact absurd e (hq id' s2)
     |_=>exact⟨rfl,rfl⟩
    |val x h=>exact h1.elim
  |loop b=>
   have e0:rrun P D (n+1) (.code (.loop b) s)=some r:=by rw[oX];simp only[rstep];exact e
   cases r with
   |val x h=>
    exfalso;have none:∀m s',m<=n+1->rrun P D m (.code (.loop b) s')≠some (.val x h):=by
     intro m;induction m with
     |zero=>intro s' _ q;cases q
     |succ m ih=>
      intro s' hm' q;rw[oX]at q;simp only[rstep]at q;split at q
      ·rename_i s2 h2;exact ih s2 (by omega) q
      ·exact hrec m (by omega) _ _ q
    exact none (n+1) s (Nat.le_refl _) e0
   |code er sr=>
    refine⟨?_,RQ n hrec (n+1) s er sr (Nat.le_refl _) e0⟩;have key:∀m,m<=n+1->∀s',rrun P D m (.code (.loop b) s')=some (.code er sr)->∃s2 e2,rrun P D (m-1) (.code b s')=some (.code e2 s2)/\(e2 = .normal->rrun P D (m-1) (.code (.loop b) s2)=some (.code er sr))/\(e2 ≠ .normal->e2=er/\s2=sr)/\0<m:=by
     intro m hm' s' q;cases m with
     |zero=>cases q
     |succ m=>
      rw[oX]at q;simp only[rstep]at q;split at q
      ·rename_i s2 h2;exact⟨s2,.normal,h2,fun _=>q,fun z=>absurd rfl z,Nat.succ_pos _⟩
      ·rename_i hq
       refine⟨sr,er,q,fun z=>?_,fun _=>⟨rfl,rfl⟩,Nat.succ_pos _⟩;rw[z]at q;exact absurd q (hq sr)
    let J:St->Nat->Prop:=fun st m=>m<=n+1/\∃s':RS,st=s'.den/\rrun P D m (.code (.loop b) s')=some (.code er sr)
    have hch:∃μ:St->Nat,∀st,(∃m,J st m)->J st (μ st)/\∀m,J st m->μ st<=m:=by
     have least:∀st,∃m,(∃m,J st m)->J st m/\∀m',J st m'->m<=m':=by
      intro st;by_cases hx:∃m,J st m
      ·obtain⟨m,hm1⟩:=hx
       induction m using Nat.strongRecOn with
       |_ m ih=>
        by_cases hl:∃j,j<m/\J st j
        ·obtain⟨j,hj,hj2⟩:=hl
         exact ih j hj hj2
        ·refine⟨m,fun _=>⟨hm1,fun m' hm'=>?_⟩⟩
         rcases Nat.lt_or_ge m' m with q|q
         ·exact absurd ⟨m',q,hm'⟩ hl
         ·exact q
      ·exact⟨0,fun q=>absurd q hx⟩
     exact⟨fun st=>Classical.choose (least st),fun st=>Classical.choose_spec (least st)⟩
    obtain⟨μ,hμ⟩:=hch;refine PW.loop (fun st=>∃m,J st m) μ ⟨n+1,Nat.le_refl _,s,rfl,e0⟩ ?_;intro st hI;obtain⟨⟨g1,s1,g2,g3⟩,_⟩:=hμ st hI;obtain⟨s2,e2,k1,k2,k3,k4⟩:=key (μ st) g1 s1 g3;subst g2;refine PW.mono (hrec (μ s1.den-1) (by omega) _ _ k1).1 ?_;rintro e3 s3 ⟨rfl,rfl⟩;cases e3 with
    |normal=>
     have hJ:J s2.den (μ s1.den-1):=⟨by omega,s2,rfl,k2 rfl⟩
     refine⟨⟨_,hJ⟩,?_⟩;have:=(hμ s2.den ⟨_,hJ⟩).2 _ hJ;omega
    |_=>
     obtain⟨z1,z2⟩:=k3 (by simp);subst z1 z2;exact⟨rfl,rfl⟩
  |exit id=>injection e with e;subst e;exact⟨PW.exit ⟨rfl,rfl⟩,Fr'.refl _⟩
  |ret=>injection e with e;subst e;exact⟨PW.ret ⟨rfl,rfl⟩,Fr'.refl _⟩
  |_=>cases e
 |ops ops l s=>
  simp only[rstep]at e;cases l with
  |nil=>injection e with e;subst e;exact⟨rfl,Fr'.refl _,fun k _=>PO.nil rfl⟩
  |cons o rest=>
   (try simp only at e);have tail:∀s2:RS,Fr' s.h s2.h->rrun P D n (.ops ops rest s2)=some r->∃s',r = .code .normal s'/\Fr' s.h s'.h/\∀k,(∀(j:Nat) (o':Oper),(o::rest)[j]? =some o'->ops[k+j]? =some o')->PO P ops (List.range' (k+1) rest.length) s2.den (fun s3=>s3=s'.den):=by
    intro s2 f2 h2;have:=hih _ _ h2;cases r with
    |code e2 s'=>
     obtain⟨rfl,fr,q⟩:=this;exact⟨s',rfl,f2.trans fr,fun k hk=>q (k+1) (fun j o' hj=>by have:=hk (j+1) o' (by simpa using hj);rwa [show k+1+j=k+(j+1)by omega])⟩
    |val x h=>exact this.elim
   have head:∀k,(∀(j:Nat) (o':Oper),(o::rest)[j]? =some o'->ops[k+j]? =some o')->ops[k]? =some o:=fun k hk=>by simpa using hk 0 o (by simp)
   split at e
   ·rename_i hw
    rw[<-pT]at hw;split at e
    ·rename_i f args hcall
     rw[<-EP]at hcall;have hcb:callable P f=true:=by
      unfold gS at hcall;split at hcall
      ·split at hcall
       ·split at hcall
        ·rename_i q;injection hcall with hcall;injection hcall with e1 e2;subst e1;exact q
        ·cases hcall
       ·cases hcall
      ·cases hcall
     obtain⟨fop,ars,tys,first,caps,hop,hf,rfl⟩:=qN hcall
     split at e
     ·rename_i x h' hl
      obtain⟨c1,c2⟩:=hih _ _ hl;obtain⟨s',rfl,fr,q⟩:=tail ⟨s.n,tK s.sl o.dst x,h'⟩ c2 e;refine⟨rfl,fr,fun k hk=>?_⟩;simp only[List.length_cons,List.range'_succ];refine PO.call (s:=s.den) (head k hk) hw hop hf hcb c1 ?_;rintro y k' ⟨rfl,rfl⟩;have q2:=q k hk;unfold RS.den at q2;rw[gV]at q2;exact q2
     ·cases e
    ·split at e
     ·rename_i x h' hx
      cases hb:Nat.blt s.h.nx s.h.m with
      |false=>rw[hb]at e;cases e
      |true=>
       rw[hb]at e;simp only[cond_true]at e;obtain⟨q1,q2⟩:=qIS (n2:=rbump o.op s.h.nx) hx (Nat.le_of_ble_eq_true hb);obtain⟨s',rfl,fr,q⟩:=tail _ q2 e;refine⟨rfl,fr,fun k hk=>?_⟩;simp only[List.length_cons,List.range'_succ];have q3:=q k hk;unfold RS.den at q3;rw[gV]at q3;rw[<-NJ]at q1;exact PO.op (s:=s.den) s.h.nx (head k hk) hw q1 q3
     ·cases e
   ·rename_i hw
    rw[<-pT]at hw;obtain⟨s',rfl,fr,q⟩:=tail ⟨s.n,tK s.sl o.dst (.v undef),s.h⟩ (Fr'.refl _) e;refine⟨rfl,fr,fun k hk=>?_⟩;simp only[List.length_cons,List.range'_succ];have q3:=q k hk;unfold RS.den at q3;rw[gV]at q3;exact PO.no (s:=s.den) (head k hk) hw q3
   ·cases e
 |call f args h=>
  simp only[rstep]at e;split at e
  ·rename_i x h' hd
   injection e with e;subst e;exact hD.d _ _ _ _ _ hd
  ·split at e
   ·rename_i fn hf
    split at e
    ·rename_i c hb
     cases hl:D.l f with
     |true=>
      rw[hl]at e;simp only[cond_true]at e;split at e
      ·rename_i x h' hx
       injection e with e;subst e;exact WD hm hih hD.c hf hb hx
      ·cases e
     |false=>
     rw[hl]at e;simp only[cond_false]at e;split at e
     ·rename_i e2 s' hc
      have h1:=hih _ _ hc;have fin:(e2 = .normal\/e2 = .ret)->∀x,rares P fn.results.toList s'=some x->PC P f args h.den (fun y k=>y=x/\k=s'.h.den)/\Fr' h s'.h:=by
       intro he x hx;refine⟨PC.of_body hf hb ?_,h1.2⟩;have h2:=h1.1;unfold RS.den at h2;rw[wD]at h2;refine PW.mono h2 ?_;rintro e3 s3 ⟨rfl,rfl⟩;exact⟨he,x,EO hx,rfl,rfl⟩
      split at e
      ·split at e
       ·rename_i x hx
        injection e with e;subst e;exact fin (.inl rfl) x hx
       ·cases e
      ·split at e
       ·rename_i x hx
        injection e with e;subst e;exact fin (.inr rfl) x hx
       ·cases e
      ·cases e
     ·cases e
    ·cases e
   ·cases e
theorem WA {P:Program} {D:RE} (hm:P.follows .mixedOrders=true) (hD:REOk P D) (n:Nat):RIH P (rrun P D n):=by
 induction n using Nat.strongRecOn with
 |_ n ih=>
  cases n with
  |zero=>intro t r e;cases e
  |succ n=>exact fun t r e=>SB hm hD n (fun m hm'=>ih m hm') t r (by rw[<-oX];exact e)
theorem qIJ {k:Nat} {ι:Iota} {w:World} (H:HRel [] ι w):HRel (List.replicate k .free) ι w/\Evolve [] ι w (List.replicate k .free) ι w:=by
 have no:∀(id:Nat) (o:AObj),¬(List.replicate k HS.free)[id]? =some (.live o):=by
  intro id o h;rw[List.getElem?_replicate]at h;split at h<;>cases h
 have nob:∀b,¬Ob (List.replicate k HS.free) ι b:=fun b ⟨id,o,l,h,_⟩=>no id o h
 have hout:∀id,ι id=none:=fun id=>H.out id (Nat.zero_le _)
 exact⟨⟨fun id o h=>(no id o h).elim,fun id _=>hout id,fun id _=>hout id,fun id o l id' o' l' h=>(no id o h).elim,H.xlt,fun b _=>nob b⟩,
  ⟨rfl,rfl,rfl,Nat.le_refl _,fun _ _ q=>q,rfl,fun b _ _=>⟨rfl,nob b⟩,fun b c _ fr hb=>⟨c,fr,hb,rfl⟩⟩⟩
theorem PC.of_rrun {P:Program} {D:RE} (hm:P.follows .mixedOrders=true) (hD:REOk P D) (n m:Nat) {f:FuncId} {args:List V} {x:V} {h':RH} (e:rrun P D n (.call f args ⟨m,0,.nil,[]⟩)=some (.val x h')) :
  PC P f args [] (fun y k=>y=x/\k=h'.den):=by
 have h1:=(WA hm hD n _ _ e).1;have h2:(RH.mk m 0 .nil []).den=List.replicate m .free:=by
  unfold RH.den;apply List.ext_getElem?;intro i;rw[List.getElem?_map,List.getElem?_replicate];by_cases q:i<m
  ·rw[List.getElem?_range q,if_pos q];rfl
  ·rw[List.getElem?_eq_none (by simpa using Nat.le_of_not_lt q),if_neg q];rfl
 rw[h2]at h1;exact PC.pre (fun H=>qIJ H) h1
def YP:Option RR->Bool
 |some (.val x _)=>(match x with
  | .v y=>(match y with
    | .bool b=>b
    |_=>false)
  |_=>false)
 |_=>false
theorem qD3 {x:V} {h:RH} (e:YP (some (.val x h))=true):x = .v (.bool true):=by
 cases x with
 |v y=>cases y with
  |bool b=>cases b with
   |true=>rfl
   |false=>cases e
  |_=>cases e
 |_=>cases e
theorem PC.of_rtrue {P:Program} {D:RE} (hm:P.follows .mixedOrders=true) (hD:REOk P D) (n m:Nat) {f:FuncId} {args:List V} (e:YP (rrun P D n (.call f args ⟨m,0,.nil,[]⟩))=true) :
  PC P f args [] (fun y _=>y = .v (.bool true)):=by
 cases hr:rrun P D n (.call f args ⟨m,0,.nil,[]⟩)with
 |none=>rw[hr]at e;cases e
 |some r=>
  rw[hr]at e;cases r with
  |code e2 s=>cases e
  |val x h'=>
   refine PC.mono (PC.of_rrun hm hD n m hr) ?_;rintro y k ⟨rfl,rfl⟩;exact qD3 e
end
noncomputable section
theorem RDOk.or {P:Program} {A B:RD} (ha:RDOk P A) (hb:RDOk P B):RDOk P (fun f args H=>match A f args H with
  |some r=>some r
  |none=>B f args H):=by
 intro f args H x H' h;cases q:A f args H with
 |some r=>simp only[q]at h;injection h with h;subst h;exact ha _ _ _ _ _ q
 |none=>simp only[q]at h;exact hb _ _ _ _ _ h
def rcst (f:FuncId) (x:V):RD:=fun g args H=>match Nat.beq g f,args with
 |true,[]=>some (x,H)
 |_,_=>none
theorem YT {P:Program} {f:FuncId} {x:V} (h:∀k,PC P f [] k (fun y k'=>y=x/\k'=k)):RDOk P (rcst f x):=by
 intro g args H y H' e;unfold rcst at e;split at e
 ·rename_i q
  injection e with e;injection e with e1 e2;subst e1 e2;rw[Nat.eq_of_beq_eq_true q];exact⟨h _,Fr'.refl _⟩
 ·cases e
theorem aG.cst {P:Program} {f:FuncId} {t:Ty} {l:List t.den} (h:aG P f (.fn [] none (.d (.list t) l))) (k:Heap):PC P f [] k (fun y k'=>y = .sF t.size (l.map t.row)/\k'=k):=by
 have h1:=(h () (fun p q=>by cases q)).2 k (fun p hp=>by cases hp);refine PC.res_LE (PC.mono h1 ?_);rintro y k' ⟨rfl,rfl⟩;refine⟨_,?_,rfl,rfl⟩;intro w ι M z r;cases r with
 |sL _ _ _ r=>exact r
theorem aG.closed {P:Program} {D:RE} (hm:P.follows .mixedOrders=true) (hD:REOk P D) (n m:Nat) {f:FuncId} (e:YP (rrun P D n (.call f [] ⟨m,0,.nil,[]⟩))=true):aG P f (.fn [] none (.d .bool true)):=by
 intro x _;refine⟨fun p hp=>(by cases hp),fun k _=>?_⟩;refine PC.mono (PC.frame (x0:=.v (.bool true)) ((WV 0).2 trivial) (PC.mono (PC.of_rtrue hm hD n m e) ?_) k) (fun y k' ⟨h1,h2⟩=>⟨h1,h2⟩);rintro y k' rfl;exact Frz.tree (.v _)
def YR (f:FuncId) (e:TypeId):RD:=fun g args H=>match Nat.beq g f,args with
 |true,[x]=>match x with
  | .pO i r off=>match qMB H (.pO i r off)with
    |some (row,off)=>match row[off+1]? with
     |some (.v (.slice none 0 0))=>some (.v (.string ⟨#[]⟩),H)
     |some (.sO k 0 n)=>match H.get k with
      |some (.live ob)=>bif Nat.beq ob.sz 1&&(Nat.beq ob.elem.t e&&(Nat.ble n ob.rows.length&&(Nat.ble n 1099511627776&&(!Nat.beq n 0&&(Nat.ble 1 ob.elem.fz&&Nat.ble ob.elem.fz (n+1))))))then
         match bytesOf (ob.rows.take n)with
         |some bs=>some (str bs,⟨H.m,H.nx,H.t.set k (.live ⟨ob.sz,ob.rows,⟨ob.elem.t,n+1⟩⟩),k::H.lg⟩)
         |none=>none
       else none
      |_=>none
     |_=>none
    |none=>none
  |_=>none
 |_,_=>none
theorem uS:∀ {rows:List (List V)} {bs:List UInt8},bytesOf rows=some bs->∃l:List Int,rows=l.map (fun n=>[V.v (.int .u8 n)])/\bs=l.map (fun n=>UInt8.ofNat n.toNat)
 | [],bs,h=>by injection h with h;subst h;exact⟨[],rfl,rfl⟩
 |r::rs,bs,h=>by
  simp only[bytesOf]at h;split at h
  ·rename_i b bs' hb hbs
   injection h with h;subst h;obtain⟨l,l1,l2⟩:=uS hbs;unfold LP at hb;split at hb
   ·rename_i n
    injection hb with hb;exact⟨n::l,by rw[l1];rfl,by rw[l2,<-hb];rfl⟩
   ·cases hb
  ·cases h
theorem qH7 {P:Program} {f:FuncId} {e pt it ty:TypeId} (hp:P.underlying pt=some (.pointer e)) (hcell:P.cellsOf e=1)
  (hnil:∀(b o:Nat) (w:World),w.cell? ⟨b,o+1,none⟩=some (.slice none 0 0)->Calls P f #[.pointer (some ⟨b,o,none⟩)] w fun x w'=>x = .returned (.string ⟨#[]⟩)/\w'=w.drew)
  (hsome:∀(b o:Nat) (a:Addr) (n cap:Nat) (s:ByteArray) (w:World),w.cell? ⟨b,o+1,none⟩=some (.slice (some a) n cap)->cap≠0->(Builtin.unsafeString_ #[pt,it] ty #[.pointer (some a),.int .i64 n]).run P w.drew = .ok (.string s) (w.drew.freeze a n) ->
    Calls P f #[.pointer (some ⟨b,o,none⟩)] w fun x w'=>x = .returned (.string s)/\w'=w.drew.freeze a n):RDOk P (YR f e):=by
 intro g args H x H' hr;unfold YR at hr;split at hr;rotate_left
 ·cases hr
 rename_i hg;have hg:=Nat.eq_of_beq_eq_true hg;subst hg;split at hr;rotate_left
 ·cases hr
 rename_i i r off;split at hr;rotate_left
 ·cases hr
 rename_i row off' hrow;have hrow2:rowAt H.den (.pO i r off)=some (row,off'):=by rw[YO];exact hrow
 simp only[rowAt]at hrow2;split at hrow2;rotate_left
 ·cases hrow2
 rename_i ob0 hob0;split at hrow2;rotate_left
 ·cases hrow2
 rename_i row2 hrw;injection hrow2 with hrow2;injection hrow2 with h1 h2;subst h1 h2;have start:∀(ι:Iota) (w:World) (vals:Array Value),PW2 w ι (Mt H.den ι) [V.pO i r off] vals->HRel H.den ι w->∀c,row2[off+1]? =some c->∃b o x,vals = #[.pointer (some ⟨b,o,none⟩)]/\w.cell? ⟨b,o+1,none⟩=some x/\Rep w ι (Mt H.den ι) c x:=by
  intro ι w vals hpv HR c hc;obtain⟨L,cs,fr,hL,la⟩:=HR.live i _ hob0;obtain⟨v0,hv0,rv0⟩:=hpv.2 0 _ rfl;cases rv0 with
  |pO _ _ _ L2 hL2=>
   rw[hL]at hL2;injection hL2 with hL2;subst hL2;have hvals:vals = #[.pointer (some ⟨L.blk,L.base+r*L.sz+off,none⟩)]:=by
    have hs:vals.size=1:=hpv.1.symm;exact Array.ext (by rw[hs];rfl) (fun q q1 q2=>by
     have h0:q=0:=by rw[hs]at q1;omega
     subst h0;rw[Array.getElem?_eq_getElem q1]at hv0;exact Option.some.inj hv0)
   obtain⟨_,_,u,u1,u2⟩:=la.get hrw hc;refine⟨_,_,u,hvals,?_,u2⟩;simp only[World.cell?,la.blk];rw[<-u1,la.sz];congr 1
 split at hr
 ·rename_i hc
  injection hr with hr;injection hr with e1 e2;subst e1 e2;refine⟨?_,Fr'.refl _⟩;intro ι w vals hpv HR;obtain⟨b,o,z,hv,hz,rz⟩:=start ι w vals hpv HR _ hc;subst hv;cases rz;refine(hnil b o w hz).mono ?_;rintro e' w' ⟨rfl,rfl⟩;obtain⟨H2,ev⟩:=HR.killed (h':=H.den) (w':=w.drew) (fun _=>.inl rfl) rfl (fun _=>False) (fun _ q=>q.elim) rfl rfl rfl rfl (fun _ _=>rfl) (fun _ c _ fr q=>⟨c,fr,q,rfl⟩);exact⟨_,_,_,ι,rfl,⟨rfl,rfl⟩,.v _,H2,ev⟩
 ·rename_i k n hc
  split at hr;rotate_left
  ·cases hr
  rename_i ob hob;cases q:(Nat.beq ob.sz 1&&(Nat.beq ob.elem.t e&&(Nat.ble n ob.rows.length&&(Nat.ble n 1099511627776&&(!Nat.beq n 0&&(Nat.ble 1 ob.elem.fz&&Nat.ble ob.elem.fz (n+1)))))))with
  |false=>rw[q]at hr;cases hr
  |true=>
   rw[q]at hr;simp only[cond_true]at hr;obtain⟨q1,q2⟩:=Bool.and_eq_true_iff.1 q;obtain⟨q3,q4⟩:=Bool.and_eq_true_iff.1 q2;obtain⟨q5,q7⟩:=Bool.and_eq_true_iff.1 q4;obtain⟨q8,q9⟩:=Bool.and_eq_true_iff.1 q7;obtain⟨q6,q10⟩:=Bool.and_eq_true_iff.1 q9;have hn63:=Nat.le_of_ble_eq_true q8;have hsz:=Nat.eq_of_beq_eq_true q1;have hel:ob.elem.t=e:=Nat.eq_of_beq_eq_true q3;have hon:=Nat.le_of_ble_eq_true q5;obtain⟨q11,q12⟩:=Bool.and_eq_true_iff.1 q10;have hfz1:=Nat.le_of_ble_eq_true q11;have hfz:=Nat.le_of_ble_eq_true q12;have hn0:n≠0:=fun z=>by rw[z]at q6;cases q6
   split at hr;rotate_left
   ·cases hr
   rename_i bs hbs;injection hr with hr;injection hr with e1 e2;subst e1 e2;have hobd:H.den[k]? =some (.live ob):=by rw[bP];exact hob
   have hden:(RH.mk H.m H.nx (H.t.set k (.live ⟨ob.sz,ob.rows,⟨ob.elem.t,n+1⟩⟩)) (k::H.lg)).den=H.den.set k (.live ⟨ob.sz,ob.rows,⟨ob.elem.t,n+1⟩⟩):=nX H k _;refine⟨?_,rfl,[k],rfl,fun j hj=>?_⟩;rotate_left
   ·rw[<-bP,<-bP,hden,List.getElem?_set_ne]
    intro z;exact hj (by rw[z];exact List.mem_singleton.2 rfl)
   rw[hden];intro ι w vals hpv HR;obtain⟨b,o1,z,hv,hz,rz⟩:=start ι w vals hpv HR _ hc;subst hv;obtain⟨l,l1,l2⟩:=uS hbs;have hll:l.length=n:=by
    have:=congrArg List.length l1;rw[List.length_take,List.length_map]at this;omega
   have hl0:l≠ []:=fun z=>hn0 (by rw[<-hll,z];rfl)
   cases rz with
   |sO _ _ _ cap Lk ck ek frk hLk hcap hbk hszk=>
    obtain⟨Lk2,ck2,frk2,hLk2,lak⟩:=HR.live k _ hobd;rw[hLk]at hLk2;injection hLk2 with hLk2;subst hLk2;have hsk:Lk.sz=1:=lak.sz.trans hsz;rw[Nat.zero_mul,Nat.add_zero]at hz;have hcells:∀(j:Nat) (x:Int),l[j]? =some x->w.cell? ⟨Lk.blk,Lk.base+j,none⟩=some (.int .u8 x):=by
     intro j x hx;have hj:j<n:=by rw[<-hll];exact aF hx
     have hrow:ob.rows[j]? =some [V.v (.int .u8 x)]:=by
      have h1:(ob.rows.take n)[j]? =some [V.v (.int .u8 x)]:=by rw[l1,List.getElem?_map,hx];rfl
      rw[List.getElem?_take_of_lt hj]at h1;exact h1
     obtain⟨_,_,u,u1,u2⟩:=lak.get hrow (show[V.v (.int .u8 x)][0]? =some (V.v (.int .u8 x))from rfl);cases u2;simp only[World.cell?,lak.blk];have e1:Lk.base+j*ob.sz+0=Lk.base+j:=by rw[hsz];omega
     rw[<-e1];exact u1
    have hfit:Lk.base+l.length<=ck2.size:=by
     have:=lak.fits;rw[hsz]at this;omega
    have hUS:=mB (P:=P) w.drew pt it ty e hp hcell Lk.blk Lk.base ck2.size (by show(match w.heap[Lk.blk]? with|some (.cells c elem _)=>some (elem,c.size)|_=>none)=_;rw[lak.blk,hel]) l hl0 hfit (by omega) (fun j x hx=>by
     have:(⟨Lk.blk,Lk.base,none⟩:Addr).add j=⟨Lk.blk,Lk.base+j,none⟩:=jW _ _ _;rw[this];exact hcells j x hx)
    rw[hll]at hUS;refine(hsome _ _ ⟨Lk.blk,Lk.base,none⟩ n cap (aN l) w hz (by omega) hUS).mono ?_;rintro e' w' ⟨rfl,rfl⟩;have hhp:(w.drew.freeze ⟨Lk.blk,Lk.base,none⟩ n).heap[Lk.blk]? =some (.cells ck2 ob.elem.t (if frk2.1 == frk2.2 then(Lk.base,Lk.base+n)else(min frk2.1 Lk.base,max frk2.2 (Lk.base+n)))):=by
     unfold World.freeze;rw[if_neg hn0];have h0:w.drew.heap[Lk.blk]? =some (.cells ck2 ob.elem.t frk2):=lak.blk;simp only[Array.getElem?_modify,if_pos,h0];obtain⟨lo,hi⟩:=frk2;rfl
    have hun:Unfr (n+1) Lk.base ob.sz ck2.size (if frk2.1 == frk2.2 then(Lk.base,Lk.base+n)else(min frk2.1 Lk.base,max frk2.2 (Lk.base+n))):=by
     have u:=lak.unfrozen;obtain⟨hle,hcl⟩:=u.clean hfz1;have cl:∀fr:Nat×Nat,fr.1<=fr.2->(∀k,fr.1<=k->k<fr.2->Lk.base<=k/\k+1<Lk.base+(n+1))->Unfr (n+1) Lk.base ob.sz ck2.size fr:=fun fr h1 h2=>⟨fun k _=>h2 k,fun z=>(z hsz).elim,fun _=>⟨h1,h2⟩⟩
     split
     ·exact cl _ (Nat.le_add_right _ _) fun k h1 h2=>by simp only at h1 h2;omega
     ·rename_i hne
      have hne:frk2.1≠frk2.2:=by simpa using hne
      have a1:=hcl frk2.1 (Nat.le_refl _) (by omega);have a2:=hcl (frk2.2-1) (by omega) (by omega);exact cl _ (by simp only;omega) fun k h1 h2=>by simp only at h1 h2;omega
    obtain⟨H2,ev⟩:=HR.updG hobd hLk lak (o':=⟨ob.sz,ob.rows,⟨ob.elem.t,n+1⟩⟩) (c':=ck2) (w':=w.drew.freeze ⟨Lk.blk,Lk.base,none⟩ n)
     ⟨by unfold World.freeze;split<;>rfl,by unfold World.freeze;split<;>rfl,by unfold World.freeze;split<;>rfl,zF _ _ _,fun q hq=>zE w.drew _ _ _ hq⟩ hhp rfl rfl rfl hun lak.rows lak.fits lak.reads
    have hs:str bs = .v (.string (aN l)):=by rw[str,l2];rfl
    exact⟨_,_,_,ι,rfl,⟨rfl,rfl⟩,by rw[hs];exact .v _,H2,ev⟩
 ·cases hr
end
end Go.Abs
