import Derived.Lib.Builder
import Derived.Laws.Externs
import Derived.Test.YtcjiefknhfhmkaaGreatDoorM01
open List renaming getElem?_eq_getElem -> ga, mem_append_left -> ge, mem_map_of_mem -> gf, map_congr_left -> gg, getElem_mem -> gi, replicate -> gj, getElem?_set_ne -> gl, flatMap_map -> gm, mem_cons_of_mem -> go, getElem?_append_left -> gq, getElem_of_mem -> gr, mem_cons_self -> gt, eq_nil_iff_forall_not_mem -> gz, eq_nil_of_length_eq_zero -> ka, mem_append -> kb, length_map -> kc, getElem?_append_right -> kf, drop_eq_getElem_cons -> kg, getElem?_map -> kh, getElem?_replicate -> ki, getElem?_set_self -> kj, drop_eq_nil_of_le -> kk, mem_append_right -> kl, getElem?_append -> ko, mem_cons -> kq, filter_congr -> kw
open Array renaming getElem?_eq_getElem -> gb, getElem?_eq_none -> gh, getElem?_append_left -> gn, getElem?_toList -> gw, getD -> gy, getElem?_append_right -> ke, getElem?_push -> kp, getElem?_map -> ks
open Bool renaming and_eq_true_iff -> gc, and_eq_true -> gx, or_eq_true_iff -> kd, false_eq_true -> kt
open Nat renaming eq_of_beq_eq_true -> gk, lt_or_ge -> gu, lt_of_lt_of_le -> ku, zero_mod -> kv, le_refl -> kz, blt -> ud, beq -> ue, blt_eq -> uf
open Option renaming bind_some -> gp, bind -> kn
open ByteArray renaming get! -> ui
namespace Go.Abs
set_option maxRecDepth 100000
set_option maxHeartbeats 4000000
set_option linter.unusedVariables false
set_option linter.unusedSimpArgs false
theorem kr{p:Prop}(h:p:=by kernel_rfl):p:=h
def pR (h:Heap) (new:Nat) (elem:TypeId) (b:ByteArray):Option (V×Heap):=
 match halloc h new ⟨1,b.data.toList.map kH,elem⟩with
 |some h'=>some (.sO new 0 b.size,h')
 |none=>none
theorem WR (w:World) (c:Array Value) (elem:TypeId) (n:Nat) :
  ({w with heap:=w.heap.push (.cells c elem)}:World).freeze ⟨w.heap.size,n,none⟩ 1= {w with heap:=w.heap.push (.cells c elem (n,n+1))}:=by
 simp only[World.freeze];rw[if_neg om];congr 1
 apply Array.ext_getElem?;intro i;rw[Array.getElem?_modify,kp,kp];by_cases h1:i=w.heap.size
 ·subst h1;simp
 ·simp [h1,Ne.symm h1]
theorem GA {P h ι w} (H:HRel h ι w) {new:Nat} {elem:TypeId} {b:ByteArray}:VS P h ι w (Conv.stringToBytes elem b) (pR h new elem b):=by
 unfold pR;split
 ·rename_i h1 e
  intro x' h' ee;injection ee with ee;injection ee with e1 e2;subst e1 e2;generalize hcap:(Question.appendCap b.size 0 elem).cut (w.tape w.drawn (.appendCap b.size 0 elem))=cap;have hcapge:b.size<=cap:=by rw[<-hcap];simp [Question.cut]
  generalize hcells:(b.data.map (fun b=>Value.int .u8 b.toNat))++Array.replicate (cap-b.size) (Value.int .u8 0)=cells;have hcs:cells.size=cap:=by
   rw[<-hcells];have:b.data.size=b.size:=rfl;simp;omega
  obtain⟨Hd,evd⟩:=H.drawn (w.drawn+1);obtain⟨HH,ev⟩:=Hd.alloc e cells (cap,cap+1) ⟨fun k hk h1 _=>absurd h1 (by simp only;omega),fun q=>(q rfl).elim,fun q=>absurd q (Nat.lt_irrefl 0)⟩ (by intro r hr;obtain⟨x,_,rfl⟩:=List.mem_map.1 hr;rfl) (by simp;omega)
   (fJ (rows:=b.data.toList.map kH) (p:=fun i j x=>∃y,cells[i*1+j]? =some y/\Rep {w with drawn:=w.drawn+1} ι (Mt h ι) x y) (fun i j r x hi hj=>by
     rw[kh]at hi;cases hq:b.data.toList[i]? with
     |none=>rw[hq]at hi;simp at hi
     |some u=>
      rw[hq]at hi;simp at hi;subst hi;have hj0:j=0:=by have:=aI hj;simp [kH]at this;exact this
      subst hj0;simp [kH]at hj;subst hj;refine⟨.int .u8 u.toNat,?_,.v _⟩;have hlt:i<b.data.size:=by have:=aI hq;simpa using this
      rw[<-hcells,gn (by simpa using hlt)];simp only[Nat.mul_one,Nat.add_zero,ks];rw[<-gw,hq];rfl)) rfl
  refine⟨.slice (some ⟨w.heap.size,0,none⟩) b.size cap,{w with drawn:=w.drawn+1,heap:=w.heap.push (.cells cells elem (cap,cap+1))},_,?_,?_,HH,evd.trans ev⟩
  ·have hfr:=WR {w with drawn:=w.drawn+1} cells elem cap
   (try simp only at hfr);simp only[Conv.stringToBytes,Sem.run_bind,run_choose,Question.forced,kt,if_false,Result.andThen_ok,hcap,hcells,newRow,run_newObj,Sem.run_pure,markStringish,run_shape,World.shape?];simp only[Array.getElem?_push_size,Result.andThen_ok,run_freeze,hcs,hfr]
  ·have:=Rep.sO (w:={w with drawn:=w.drawn+1,heap:=w.heap.push (.cells cells elem (cap,cap+1))}) (ι:=ι.put new ⟨w.heap.size,0,1,kv _⟩) (M:=Mt h1 (ι.put new ⟨w.heap.size,0,1,kv _⟩)) new 0 b.size cap ⟨w.heap.size,0,1,kv _⟩ cells elem (cap,cap+1)
     (qD _ _ _) hcapge sm (by simp;omega)
   simpa using this
 ·exact VS.none
def RU:List V->Option UInt8
 | [.v (.int .u8 n)]=>some (UInt8.ofNat n.toNat)
 |_=>none
def bytesOf:List (List V)->Option (List UInt8)
 | []=>some []
 |r::rs=>match RU r,bytesOf rs with
  |some b,some bs=>some (b::bs)
  |_,_=>none
def str (l:List UInt8):V:=.v (.string ⟨l.toArray⟩)
def dJ (h:Heap) (x:V):Option (V×Heap):=
 match cM h 1 x with
 |some rows=>match bytesOf rows with
  |some bs=>some (str bs,h)
  |none=>none
 |none=>none
theorem wO {w ι M}:∀(rows:List (List V)) (c:List Value) (bs:List UInt8),bytesOf rows=some bs->c.length=rows.length ->
  (∀(i:Nat) (r:List V) (x:V),rows[i]? =some r->r[0]? =some x->∃z,c[i]? =some z/\Rep w ι M x z) ->
  ∃ns:List Int,c=ns.map (Value.int .u8)/\bs=ns.map fun n=>UInt8.ofNat n.toNat
 | [],c,bs,h,hl,_=>by
   simp [bytesOf]at h;subst h;have:c= []:=ka (by simpa using hl);subst this;exact⟨[],rfl,rfl⟩
 |r::rs,c,bs,h,hl,hc=>by
  simp only[bytesOf]at h;split at h
  ·rename_i b bs' hb hbs
   injection h with h;subst h;cases c with
   |nil=>simp at hl
   |cons v c=>
    unfold RU at hb;split at hb
    ·rename_i n
     injection hb with hb;obtain⟨z,z1,z2⟩:=hc 0 [.v (.int .u8 n)] (.v (.int .u8 n)) sm sm;simp at z1;subst z1;cases z2;obtain⟨ns,n1,n2⟩:=wO rs c bs' hbs (by simpa using hl) (fun i r x hi hx=>by
      have:=hc (i+1) r x (by simpa using hi) hx;simpa using this)
     exact⟨n::ns,by simp [n1],by simp [n2,hb]⟩
    ·cases hb
  ·cases h
theorem EQ {P h ι w} (H:HRel h ι w) {x:V} {y:Value} (r:Rep w ι (Mt h ι) x y) (hy:∀s,y ≠ .string s):VS P h ι w (Conv.bytesToString y) (dJ h x):=by
 unfold dJ;split
 ·rename_i rows hrows
  split
  ·rename_i bs hbs
   obtain⟨hlen,c,hc,cm⟩:=qG (P:=P) H r hrows;have hc':=hc w rfl;obtain⟨ns,n1,n2⟩:=wO (w:=w) (ι:=ι) (M:=Mt h ι) rows c.toList bs hbs (by have:=cm.size;simpa using this) (fun i r x hi hx=>by
    obtain⟨z,z1,z2⟩:=cm.get i 0 r x hi hx;exact⟨z,by simpa using z1,z2⟩)
   refine VS.of_pure H ⟨.string ⟨bs.toArray⟩,?_,.v _⟩;cases y with
   |slice a n cap=>
    cases a with
    |none=>
     cases hl:rows with
     |nil=>rw[hl]at hbs;simp [bytesOf]at hbs;subst hbs;rfl
     |cons r rs=>
      exfalso;simp [Builtin.firstCells]at hc';have:=cm.size;rw[hc',hl]at this;simp at this
    |some a=>
     have hn:n=rows.length:=by simpa [Builtin.lenOf]using hlen
     subst hn;simp only[Builtin.firstCells,Nat.mul_one]at hc';have hcc:c=(ns.map (Value.int .u8)).toArray:=by rw[<-n1]
     rw[hcc]at hc';rw[run_bytesToString w a _ cap ns hc',foldl_push_bytes,<-n2];simp [ByteArray.empty,ByteArray.emptyWithCapacity];rfl
   |string s=>exact absurd rfl (hy s)
   |_=>simp [Builtin.lenOf]at hlen
  ·exact VS.none
 ·exact VS.none
def qRV (P:Program) (t:TypeId) (o:AObj) (r:Nat):Bool:=ud r o.rows.length&&(ud 0 o.sz&&(match P.info? t with
 |some j=>ud 0 j.size
 |none=>false))
def IV (P:Program) (u:TypeId) (o:AObj) (r:Nat):Bool:=ud r o.rows.length&&(ud 0 o.sz&&(ue o.elem.t u&&(match P.info? u with
 |some j=>ue j.size o.sz
 |none=>false)))
def cY (P:Program) (h:Heap) (new:Nat) (src dst:TypeId) (x:V):Option (V×Heap):=
 match P.underlying dst,x with
 |some (.slice e),.v (.string b)=>match P.underlying src,P.underlying e with
  |some .string,some (.int .u8)=>pR h new e b
  |_,_=>none
 |some .string,.v (.slice none 0 0)=>match P.underlying src with
  |some (.slice e)=>match P.underlying e with
   |some (.int .u8)=>dJ h x
   |_=>none
  |_=>none
 |some .string,.sF _ _=>match P.underlying src with
  |some (.slice e)=>match P.underlying e with
   |some (.int .u8)=>dJ h x
   |_=>none
  |_=>none
 |some .string,.sO _ _ _=>match P.underlying src with
  |some (.slice e)=>match P.underlying e with
   |some (.int .u8)=>dJ h x
   |_=>none
  |_=>none
 |some .unsafePointer,.pO id r 0=>match P.underlying src,h[id]? with
  |some (.pointer t),some (.live o)=>match qRV P t o r with
   |true=>some (.pO id r 0,h)
   |false=>none
  |_,_=>none
 |some (.pointer u),.pO id r 0=>match P.underlying src,h[id]? with
  |some .unsafePointer,some (.live o)=>match IV P u o r with
   |true=>some (.pO id r 0,h)
   |false=>none
  |_,_=>none
 |_,.v y=>match aP P (convert src dst y)with
  |some z=>some (ofValue z,h)
  |none=>none
 |_,_=>none
theorem qKT {P:Program} {e s count off:Nat} (hs:P.cellsOf e=s) (h0:0<s) (ho:off%s=0) (hc:off/s+1<=count):liesAt P P.depth e count off e 1=true:=by
 have hd:P.depth=2*(P.types.size+Made.depth)+1+1:=rfl;have hne:¬s=0:=om
 rw[hd];unfold liesAt;rw[hd];unfold Go.rowAt;simp only[hs,hne,if_false,ho];simp [sameLayout,hc]
theorem VY {P h ι w} (H:HRel h ι w) {src dst t u:TypeId} {id r:Nat} {o:AObj} {y:Value} (ho:h[id]? =some (.live o)) (hr:Rep w ι (Mt h ι) (.pO id r 0) y) :
  (P.underlying src=some (.pointer t)->P.underlying dst=some .unsafePointer->qRV P t o r=true->(convert src dst y).run P w = .ok y w) /\
  (P.underlying src=some .unsafePointer->P.underlying dst=some (.pointer u)->IV P u o r=true->(convert src dst y).run P w = .ok y w):=by
 cases hr with
 |pO _ _ _ l hl=>
  obtain⟨l',c,fr,h1,la⟩:=H.live id o ho;rw[hl]at h1;injection h1 with h1;subst h1;have hsh:w.shape? l.blk=some (o.elem.t,c.size):=by simp [World.shape?,la.blk]
  have hfit:=la.fits;have hsz:=la.sz;have room:r<o.rows.length->(r+1)*o.sz<=o.rows.length*o.sz:=fun q=>Nat.mul_le_mul_right _ q
  refine⟨fun g1 g2 g3=>?_,fun g1 g2 g3=>?_⟩
  ·simp only[qRV,gx,uf]at g3
   obtain⟨q1,q2,q3⟩:=g3;split at q3
   ·rename_i j hj
    have q3:0<j.size:=by simpa [uf]using q3
    have:=room q1;rw[Nat.add_mul,Nat.one_mul]at this;exact Lib.run_to_unsafe w _ g1 g2 hj om hsh (by show l.base+r*l.sz+0<c.size;rw[hsz];omega)
   ·cases q3
  ·simp only[IV,gx,uf]at g3
   obtain⟨q1,q2,q3,q4⟩:=g3;split at q4
   ·rename_i j hj
    have q4:j.size=o.sz:=gk q4;have q3:o.elem.t=u:=gk q3;have hcell:P.cellsOf o.elem.t=o.sz:=by rw[q3];simp [Program.cellsOf,hj,q4]
    have:=room q1;rw[Nat.add_mul,Nat.one_mul]at this;have hal:(l.base+r*o.sz)%o.sz=0:=by rw[Nat.add_mul_mod_self_right,<-hsz];exact l.al
    refine Lib.run_from_unsafe w _ g1 g2 hj hsh ?_;show liesAt P P.depth o.elem.t (c.size/P.cellsOf o.elem.t) (l.base+r*l.sz+0) u 1=true;rw[<-q3,hcell,hsz,Nat.add_zero];refine qKT hcell q2 hal ?_;have h2:l.base+r*o.sz+o.sz<=c.size:=om
    have h3:=Nat.div_le_div_right (c:=o.sz) h2;rw[Nat.add_div_right _ q2]at h3;exact h3
   ·cases q4
theorem dF {P h ι w} (H:HRel h ι w) {m:Sem Value}:VS P h ι w m (match aP P m with|some z=>some (ofValue z,h)|none=>none):=by
 split
 ·rename_i z hz
  exact VS.of_pure H ⟨z,EE hz w,Rep.ofValue z⟩
 ·exact VS.none
theorem FU {P h ι w} (H:HRel h ι w) {new:Nat} {src dst:TypeId} {x:V} {y:Value} (r:Rep w ι (Mt h ι) x y):VS P h ι w (convert src dst y) (cY P h new src dst x):=by
 have tostr:∀e,P.underlying dst=some .string->P.underlying src=some (.slice e)->P.underlying e=some (.int .u8)->(∃a l c,y = .slice a l c)->VS P h ι w (convert src dst y) (dJ h x):=by
  intro e hd hs he hy;obtain⟨a,l,c,rfl⟩:=hy;have:=EQ (P:=P) H r (by intro s;simp);intro x' h' ee;rw[run_convert_bytes_string w src dst e a l c hs he hd];exact this x' h' ee
 unfold cY;split
 ·rename_i e b hd
  split
  ·rename_i hs he
   cases r;intro x' h' ee;obtain⟨z,w',ι',h1,h2⟩:=GA (P:=P) H x' h' ee;exact⟨z,w',ι',by simpa [convert,run_underlying hs,run_underlying hd,run_underlying he]using h1,h2⟩
  ·exact VS.none
 ·rename_i hd
  split
  ·rename_i e hs
   split
   ·rename_i he
    cases r;exact tostr e hd hs he ⟨_,_,_,rfl⟩
   ·exact VS.none
  ·exact VS.none
 ·rename_i hd
  split
  ·rename_i e hs
   split
   ·rename_i he
    rcases r.sF_opt with⟨_,rfl⟩|⟨a,cap,rfl,_⟩
    ·exact tostr e hd hs he ⟨_,_,_,rfl⟩
    ·exact tostr e hd hs he ⟨_,_,_,rfl⟩
   ·exact VS.none
  ·exact VS.none
 ·rename_i hd
  split
  ·rename_i e hs
   split
   ·rename_i he
    cases r;exact tostr e hd hs he ⟨_,_,_,rfl⟩
   ·exact VS.none
  ·exact VS.none
 ·rename_i id rr hd
  split
  ·rename_i t o hs ho
   split
   ·rename_i hk
    exact VS.of_pure H ⟨y,(VY (u:=t) H ho r).1 hs hd hk,r⟩
   ·exact VS.none
  ·exact VS.none
 ·rename_i u id rr hd
  split
  ·rename_i o hs ho
   split
   ·rename_i hk
    exact VS.of_pure H ⟨y,(VY (t:=u) H ho r).2 hs hd hk,r⟩
   ·exact VS.none
  ·exact VS.none
 ·cases r
  exact dF H
 ·exact VS.none
def EO (P:Program) (h:Heap) (t:TypeId) (x:V):Option (V×Heap):=
 match x with
 | .sF _ rows=>match P.underlying t with
   |some (.slice _)=>some (.v (.int .i64 rows.length),h)
   |_=>none
 | .sO _ _ len=>match P.underlying t with
   |some (.slice _)=>some (.v (.int .i64 len),h)
   |_=>none
 | .v y=>match aP P (Builtin.len_ #[t] 0 #[y])with
   |some z=>some (ofValue z,h)
   |none=>none
 |_=>none
theorem qA7 {P h ι w} (H:HRel h ι w) {t ty:TypeId} {x:V} {y:Value} (r:Rep w ι (Mt h ι) x y):VS P h ι w (Builtin.len_ #[t] ty #[y]) (EO P h t x):=by
 unfold EO;split
 ·split
  ·rename_i hu
   rcases r.sF_opt with⟨rfl,rfl⟩|⟨a,cap,rfl,_⟩
   ·exact VS.of_pure H ⟨_,by simp [Builtin.len_,run_underlying hu,goInt],.v _⟩
   exact VS.of_pure H ⟨_,by simp [Builtin.len_,run_underlying hu,goInt],.v _⟩
  ·exact VS.none
 ·split
  ·rename_i hu
   cases r;exact VS.of_pure H ⟨_,by simp [Builtin.len_,run_underlying hu,goInt],.v _⟩
  ·exact VS.none
 ·cases r
  exact dF H
 ·exact VS.none
def rF (P:Program) (h:Heap) (t:TypeId) (x i:V):Option (V×Heap):=
 match x with
 | .agg xs=>match P.underlying t,lW i with
   |some (.array len elem),some n=>match cP P elem with
    |some s=>if 0<=n/\n<len then match jV P elem xs (n.toNat*s)with
       |some y=>some (y,h)
       |none=>none
     else none
    |none=>none
   |_,_=>none
 | .v y=>match i with
   | .v j=>match aP P (Instr.index t y j)with
     |some z=>some (ofValue z,h)
     |none=>none
   |_=>none
 |_=>none
theorem RB {P h ι w} (H:HRel h ι w) {t:TypeId} {x i:V} {y j:Value} (r:Rep w ι (Mt h ι) x y) (ri:Rep w ι (Mt h ι) i j):VS P h ι w (Instr.index t y j) (rF P h t x i):=by
 unfold rF;split
 ·split
  ·rename_i len elem n hu hn
   split
   ·rename_i s hs
    split
    ·rename_i hc
     split
     ·rename_i z hz
      obtain⟨k,rfl⟩:=BA ri hn;cases r with
      |agg _ vs hl hr=>
       obtain⟨u,h1,h2⟩:=XW hl hr hz w;exact VS.of_pure H ⟨u,by simp [Instr.index,asIntOf,run_underlying hu,hc.1,hc.2,bS hs,h1],h2⟩
     ·exact VS.none
    ·exact VS.none
   ·exact VS.none
  ·exact VS.none
 ·cases r
  split
  ·cases ri
   exact dF H
  ·exact VS.none
 ·exact VS.none
def rP (h:Heap) (x:V):Option (V×Heap):=
 match x with
 | .pF row off=>some (.pF row off,h)
 | .pO id r off=>some (.pO id r off,h)
 | .fn (.func f) a b=>some (.fn (.func f) a b,h)
 |_=>none
def zH:V->Bool
 | .v (.pointer none)=>true
 |_=>false
def OV:V->Bool
 | .pF _ _=>true
 | .pO _ _ _=>true
 |_=>false
def isSome:V->Bool
 | .sO _ _ _=>true
 | .sF _ rows=>!rows.isEmpty
 |_=>false
def qDE:V->V->Bool
 | .pO i r o,.pO i' r' o'=>ue i i'&&(ue r r'&&ue o o')
 |_,_=>false
theorem qDF {w ι M} {x y:V} {a b:Value} (rx:Rep w ι M x a) (ry:Rep w ι M y b) (h:qDE x y=true):∃p,a = .pointer (some p)/\b = .pointer (some p):=by
 unfold qDE at h;split at h
 ·simp only[gx]at h
  obtain⟨h1,h2,h3⟩:=h;have h1:=gk h1;have h2:=gk h2;have h3:=gk h3;subst h1 h2 h3;cases rx with
  |pO _ _ _ l hl=>
   cases ry with
   |pO _ _ _ l' hl'=>
    rw[hl]at hl';injection hl' with hl';subst hl';exact⟨_,rfl,rfl⟩
 ·cases h
def eH (P:Program) (h:Heap) (op:BinOp) (t:TypeId) (X Y:Operand) (x y:V):Option (V×Heap):=
 match iA x,iA y with
 |some a,some b=>match aP P (do eqGuard op t X Y a b;binOp op t a b)with
  |some z=>some (ofValue z,h)
  |none=>none
 |_,_=>if(OV x&&zH y)||(zH x&&OV y)then
    match P.underlying t,op with
    |some (.pointer _),.eql=>some (.v (.bool false),h)
    |some (.pointer _),.neq=>some (.v (.bool true),h)
    |_,_=>none
  else if(isSome x&&fM y)||(fM x&&isSome y)then
   match P.underlying t,op with
   |some (.slice _),.eql=>some (.v (.bool false),h)
   |some (.slice _),.neq=>some (.v (.bool true),h)
   |_,_=>none
  else match qDE x y,P.underlying t,op with
   |true,some (.pointer e),.neq=>match P.info? e with
    |some _=>some (.v (.bool false),h)
    |none=>none
   |_,_,_=>none
theorem JC {w ι M} {x:V} {y:Value} (r:Rep w ι M x y) (h:isSome x=true):∃a n c,y = .slice (some a) n c:=by
 cases r<;>first|exact⟨_,_,_,rfl⟩|(simp [isSome]at h)
theorem uN {w ι M} {x:V} {y:Value} (r:Rep w ι M x y) (h:fM x=true):y = .slice none 0 0:=by
 unfold fM at h;split at h
 ·cases r;rfl
 ·cases h
theorem tX {P:Program} {w:World} {t e:TypeId} (hu:P.underlying t=some (.slice e)) (d:Nat) (p:Addr) (n c:Nat) :
  (Op.equalIn (d+1) t (.slice (some p) n c) (.slice none 0 0)).run P w = .ok false w/\(Op.equalIn (d+1) t (.slice none 0 0) (.slice (some p) n c)).run P w = .ok false w:=by
 constructor<;>simp [Op.equalIn,run_underlying hu]
theorem lR {P:Program} {w:World} {t e:TypeId} {X Y:Operand} (hu:P.underlying t=some (.slice e)) (p:Addr) (n c:Nat) (a b:Value)
  (h:(a = .slice (some p) n c/\b = .slice none 0 0)\/(a = .slice none 0 0/\b = .slice (some p) n c)) :
  (do eqGuard .eql t X Y a b;binOp .eql t a b:Sem Value).run P w = .ok (.bool false) w/\(do eqGuard .neq t X Y a b;binOp .neq t a b:Sem Value).run P w = .ok (.bool true) w:=by
 have q:=tX (P:=P) (w:=w) hu 9999 p n c;rcases h with⟨rfl,rfl⟩|⟨rfl,rfl⟩
 ·constructor<;>(simp only[eqGuard,binOp,Op.equal,Op.maxDepth];simp [q.1])
 ·constructor<;>(simp only[eqGuard,binOp,Op.equal,Op.maxDepth];simp [q.2])
theorem vO {w ι M} {x:V} {y:Value} (r:Rep w ι M x y) (h:OV x=true):∃a,y = .pointer (some a):=by
 cases r<;>simp [OV]at h<;>exact⟨_,rfl⟩
theorem zI {w ι M} {x:V} {y:Value} (r:Rep w ι M x y) (h:zH x=true):y = .pointer none:=by
 unfold zH at h;split at h
 ·cases r;rfl
 ·cases h
theorem wK {P:Program} {w:World} {t e:TypeId} (hu:P.underlying t=some (.pointer e)) (d:Nat) (p:Addr) :
  (Op.equalIn (d+1) t (.pointer (some p)) (.pointer none)).run P w = .ok false w/\(Op.equalIn (d+1) t (.pointer none) (.pointer (some p))).run P w = .ok false w:=by
 constructor<;>simp [Op.equalIn,run_underlying hu]
theorem kI {P:Program} {w:World} {t e:TypeId} {X Y:Operand} (hu:P.underlying t=some (.pointer e)) (p:Addr) (a b:Value)
  (h:(a = .pointer (some p)/\b = .pointer none)\/(a = .pointer none/\b = .pointer (some p))) :
  (do eqGuard .eql t X Y a b;binOp .eql t a b:Sem Value).run P w = .ok (.bool false) w/\(do eqGuard .neq t X Y a b;binOp .neq t a b:Sem Value).run P w = .ok (.bool true) w:=by
 have q:=wK (P:=P) (w:=w) hu 9999 p;rcases h with⟨rfl,rfl⟩|⟨rfl,rfl⟩
 ·constructor<;>(simp only[eqGuard,binOp,Op.equal,Op.maxDepth];simp [q.1])
 ·constructor<;>(simp only[eqGuard,binOp,Op.equal,Op.maxDepth];simp [q.2])
theorem qA5 {P h ι w} (H:HRel h ι w) {op:BinOp} {t:TypeId} {X Y:Operand} {x y:V} {a b:Value} (rx:Rep w ι (Mt h ι) x a) (ry:Rep w ι (Mt h ι) y b) :
  VS P h ι w (do eqGuard op t X Y a b;binOp op t a b) (eH P h op t X Y x y):=by
 unfold eH;split
 ·rename_i a' b' ha hb
  have e1:=EL rx ha;have e2:=EL ry hb;subst e1 e2;exact dF H
 ·split
  ·rename_i hc
   have hab:(∃p,a = .pointer (some p)/\b = .pointer none)\/(∃p,a = .pointer none/\b = .pointer (some p)):=by
    rcases kd.1 hc with q|q
    ·obtain⟨q1,q2⟩:=gc.1 q
     obtain⟨p,hp⟩:=vO rx q1;exact .inl ⟨p,hp,zI ry q2⟩
    ·obtain⟨q1,q2⟩:=gc.1 q
     obtain⟨p,hp⟩:=vO ry q2;exact .inr ⟨p,zI rx q1,hp⟩
   split
   ·rename_i e hu
    refine VS.of_pure H ⟨.bool false,?_,.v _⟩;rcases hab with⟨p,q⟩|⟨p,q⟩
    ·exact(kI hu p a b (.inl q)).1
    ·exact(kI hu p a b (.inr q)).1
   ·rename_i e hu
    refine VS.of_pure H ⟨.bool true,?_,.v _⟩;rcases hab with⟨p,q⟩|⟨p,q⟩
    ·exact(kI hu p a b (.inl q)).2
    ·exact(kI hu p a b (.inr q)).2
   ·exact VS.none
  ·split
   ·rename_i hc
    have hab:∃p n c,(a = .slice (some p) n c/\b = .slice none 0 0)\/(a = .slice none 0 0/\b = .slice (some p) n c):=by
     rcases kd.1 hc with q|q
     ·obtain⟨q1,q2⟩:=gc.1 q
      obtain⟨p,n,c,hp⟩:=JC rx q1;exact⟨p,n,c,.inl ⟨hp,uN ry q2⟩⟩
     ·obtain⟨q1,q2⟩:=gc.1 q
      obtain⟨p,n,c,hp⟩:=JC ry q2;exact⟨p,n,c,.inr ⟨uN rx q1,hp⟩⟩
    obtain⟨p,n,c,q⟩:=hab;split
    ·rename_i e hu
     exact VS.of_pure H ⟨.bool false,(lR hu p n c a b q).1,.v _⟩
    ·rename_i e hu
     exact VS.of_pure H ⟨.bool true,(lR hu p n c a b q).2,.v _⟩
    ·exact VS.none
   ·split
    ·rename_i e hsm hu
     split
     ·rename_i j hj
      obtain⟨p,rfl,rfl⟩:=qDF rx ry hsm;exact VS.of_pure H ⟨.bool false,by
       have:=Lib.run_neq_ptr_same (P:=P) w p hu hj;simpa [eqGuard]using this,.v _⟩
     ·exact VS.none
    ·exact VS.none
def tZ (h:Heap) (x:V) (i:Nat):Option (V×Heap):=
 match norm x with
 | .tup xs=>match xs[i]? with
   |some y=>some (norm y,h)
   |none=>none
 |_=>none
theorem FV {P h ι w} (H:HRel h ι w) {x:V} {y:Value} {i:Nat} (r:Rep w ι (Mt h ι) x y):VS P h ι w (Instr.extract y i) (tZ h x i):=by
 have rn:=r.norm;unfold tZ;split
 ·rename_i xs e
  rw[e]at rn;split
  ·rename_i u hu
   cases rn with
   |tup _ vs hl hr=>
    have hlt:=aI hu;rw[ga hlt]at hu;injection hu with hu;subst hu;exact VS.of_pure H ⟨vs[i]' om,by simp [Instr.extract,gb (show i<vs.size by omega)],(hr i hlt om).norm⟩
  ·exact VS.none
 ·exact VS.none
def aUn (P:Program) (h:Heap) (op:UnOp) (x:V):Option (V×Heap):=
 match x with
 | .v y=>match aP P (Op.unary op y)with
   |some z=>some (ofValue z,h)
   |none=>none
 |_=>none
def QZ (P:Program) (h:Heap) (t:TypeId) (x:V):Option (V×Heap):=
 match P.underlying t with
 |some (.interface _)=>none
 |some _=>some (.ifc t x,h)
 |none=>none
def nF (P:Program) (h:Heap) (b:Builtin) (xs:List V):Option (V×Heap):=
 match cK xs with
 |some vs=>match b with
  | .min=>match aP P (Builtin.min_ #[] 0 vs.toArray)with
    |some z=>some (ofValue z,h)
    |none=>none
  | .max=>match aP P (Builtin.max_ #[] 0 vs.toArray)with
    |some z=>some (ofValue z,h)
    |none=>none
  |_=>none
 |none=>none
def fY (P:Program) (h:Heap) (new:Nat) (b:Builtin) (argTypes:Array TypeId) (xs:List V):Option (V×Heap):=
 match b,xs with
 | .len,[x]=>match argTypes with
   |⟨[t]⟩=>EO P h t x
   |_=>none
 | .append,[x,y]=>if argTypes.size=2 then fP P h new argTypes x y else none
 | .clear,[x]=>match argTypes with
   |⟨[t]⟩=>pP P h t x
   |_=>none
 | .copy,[x,y]=>match argTypes with
   |⟨[t,_]⟩=>wM P h t x y
   |_=>none
 | .min,xs=>nF P h .min xs
 | .max,xs=>nF P h .max xs
 |_,_=>none
def SW (fn : Func) : Bool := fn.body.isNone && (fn.name == "internal/abi.NoEscape" && fn.origin == "")
theorem qLH {P:Program} {g:FuncId} {fn:Func} (hf:P.funcs[g]? =some fn) (h:SW fn=true) (x:Value) (w:World):(callFunc g #[x]).run P w = .ok (.value x) w:=by
 simp only[SW,gx,beq_iff_eq]at h;obtain⟨h1,h2,h3⟩:=h;cases fn;(try simp only at h1 h2 h3);subst h2 h3;rw[run_callFunc_extern hf kr h1 kr (e:=Extern.AbiNoEscape.same) kr,Lib.run_noEscape];rfl
def yE (P:Program) (h:Heap) (f:V) (args:List V):Option (V×Heap):=
 match f with
 | .fn (.func g) first caps=>match cK (first++args++caps)with
   |some vs=>match aP P (callFunc g vs.toArray)with
    |some (.value z)=>some (ofValue z,h)
    |_=>none
   |none=>match first++args++caps with
    | [.pO id r o]=>match P.funcs[g]? with
      |some fn=>match SW fn with
       |true=>some (.pO id r o,h)
       |false=>none
      |none=>none
    |_=>none
 |_=>none
def aop (P:Program) (op:Op) (ρ:Operand->V) (h:Heap) (new:Nat):Option (V×Heap):=
 match op with
 | .move x=>some (ρ x,h)
 | .assign x=>some (ρ x,h)
 | .pick c a b=>FZ h (ρ c) (ρ a) (ρ b)
 | .alloc e=>xI P h new e
 | .box e x=>UJ h new e (ρ x)
 | .build t ps=>sK P h t (ps.toList.map fun p=>(p.1,ρ p.2))
 | .buildSlice t n ps=>gR P h new t n (ps.toList.map fun p=>(p.1,ρ p.2))
 | .load t p=>qQ P h t (ρ p)
 | .store t p x=>nZ P h t (ρ p) (ρ x)
 | .nilCheck x=>rP h (ρ x)
 | .binOp op t X Y _=>eH P h op t X Y (ρ X) (ρ Y)
 | .unOp op _ x=>aUn P h op (ρ x)
 | .convert s d x=>cY P h new s d (ρ x)
 | .makeInterface t x=>QZ P h t (ρ x)
 | .makeFunc fn first caps=>some (.fn fn (first.toList.map ρ) (caps.toList.map ρ),h)
 | .makeSlice t l c=>dP P h new t (ρ l) (ρ c)
 | .slice t x lo hi none=>match ρ x with
   | .v y=>match lo.map ρ,hi.map ρ with
     |none,none=>match aP P (Instr.sliceAt t y none none none)with
      |some z=>some (ofValue z,h)
      |none=>none
     |some (.v l),none=>match aP P (Instr.sliceAt t y (some l) none none)with
      |some z=>some (ofValue z,h)
      |none=>none
     |none,some (.v u)=>match aP P (Instr.sliceAt t y none (some u) none)with
      |some z=>some (ofValue z,h)
      |none=>none
     |some (.v l),some (.v u)=>match aP P (Instr.sliceAt t y (some l) (some u) none)with
      |some z=>some (ofValue z,h)
      |none=>none
     |_,_=>none
   |x=>fG P h t x (lo.map ρ) (hi.map ρ)
 | .fieldAddr s x f=>pQ P h s (ρ x) f
 | .field s x f=>FW P h s (ρ x) f
 | .indexAddr t x i=>cC P h t (ρ x) (ρ i)
 | .index t x i=>rF P h t (ρ x) (ρ i)
 | .extract x i=>tZ h (ρ x) i
 | .call c=>match c.callee with
   | .builtin b=>fY P h new b c.argTypes (c.args.toList.map ρ)
   | .value f=>yE P h (ρ f) (c.args.toList.map ρ)
   |_=>none
 |_=>none
def OS (P:Program) (h:Heap) (ι:Iota) (w:World) (m:Sem Next) (r:Option (V×Heap)):Prop:=
 ∀x h',r=some (x,h')->∃y w' ι',(m.run P w = .ok (.value y) w'\/(m.run P w = .ok .skip w'/\y=undef))/\Rep w' ι' (Mt h' ι') x y/\HRel h' ι' w'/\Evolve h ι w h' ι' w'
theorem OS.of_vs {P h ι w} {m:Sem Value} {r:Option (V×Heap)} (hv:VS P h ι w m r):OS P h ι w (do pure (.value (<-m))) r:=by
 intro x h' e;obtain⟨y,w',ι',h1,h2⟩:=hv x h' e;exact⟨y,w',ι',.inl (by simp [h1]),h2⟩
theorem OS.of_us {P h ι w} {m:Sem Unit} {r:Option (V×Heap)} (hv:US P h ι w m r):OS P h ι w (do m;pure .skip) r:=by
 intro x h' e;obtain⟨rfl,w',ι',h1,h2⟩:=hv x h' e;exact⟨undef,w',ι',.inr ⟨by simp [h1],rfl⟩,.any _,h2⟩
theorem OS.none {P h ι w} {m:Sem Next}:OS P h ι w m none:=by intro x h' e;cases e
theorem OS.val {P h ι w} (H:HRel h ι w) {x:V} {y:Value} (r:Rep w ι (Mt h ι) x y):OS P h ι w (pure (.value y)) (some (x,h)):=by
 intro x' h' e;injection e with e;injection e with e1 e2;subst e1 e2;exact⟨y,w,ι,.inl rfl,r,H,Evolve.refl _ _ _⟩
def aev (sl:List V):Operand->V
 | .tmp t=>sl.getD t .any
 | .const c=>ofValue c
 | .global g=>.v (.pointer (some ⟨g,0,none⟩))
 | .func f=>.fn (.func f) [] []
def SRel (sl:List V) (h:Heap) (ι:Iota) (w:World) (tmps:Array Value):Prop:=
 tmps.size=sl.length/\∀(i:Nat) (x:V),sl[i]? =some x->∃y,tmps[i]? =some y/\Rep w ι (Mt h ι) x y
theorem eV {sl h ι w} {a:Act} (S:SRel sl h ι w a.tmps) (x:Operand):Rep w ι (Mt h ι) (aev sl x) (a.eval x):=by
 cases x with
 |tmp t=>
  simp only[aev,Act.eval,List.getD];cases e:sl[t]? with
  |none=>exact .any _
  |some u=>
   obtain⟨y,y1,y2⟩:=S.2 t u e;have hlt:t<a.tmps.size:=by
    rcases gu t a.tmps.size with q|q
    ·exact q
    ·rw[gh q]at y1;cases y1
   have:a.tmps.getD t undef=y:=by
    rw[gb hlt]at y1;injection y1 with y1;simp [gy,hlt,y1]
   rw[this];exact y2
 |const c=>exact Rep.ofValue c
 |global g=>exact .v _
 |func f=>exact .fn _ _ _ _ _ sm sm (by intro i h;simp at h) (by intro i h;simp at h)
theorem oZ {α:Type} {w ι M} {f:α->V} {g:α->Value} (hr:∀a,Rep w ι M (f a) (g a)) (l:Array α) :
  (l.toList.map f).length=(l.map g).size/\∀i,(h:i<(l.toList.map f).length)->(h':i<(l.map g).size)->Rep w ι M (l.toList.map f)[i] (l.map g)[i]:=by
 refine⟨sm,fun i h h'=>?_⟩;simp only[List.getElem_map,Array.getElem_map,Array.getElem_toList];exact hr _
theorem PW2.append {w ι M} {a b:List V} {x y:Array Value} (h1:PW2 w ι M a x) (h2:PW2 w ι M b y):PW2 w ι M (a++b) (x++y):=by
 refine⟨by simp [h1.1,h2.1],fun k z hz=>?_⟩;have hl:=h1.1;by_cases q:k<a.length
 ·rw[gq q]at hz
  obtain⟨u,u1,u2⟩:=h1.2 k z hz;exact⟨u,by rw[gn om];exact u1,u2⟩
 ·rw[kf om]at hz
  obtain⟨u,u1,u2⟩:=h2.2 _ z hz;exact⟨u,by rw[ke om,<-hl];exact u1,u2⟩
theorem PW2.of_dep {w ι M} {a:List V} {x:Array Value} (h1:a.length=x.size) (r:∀i,(h:i<a.length)->(h':i<x.size)->Rep w ι M a[i] x[i]):PW2 w ι M a x:=by
 refine⟨h1,fun k z hz=>?_⟩;have hlt:=aI hz;rw[ga hlt]at hz;injection hz with hz;subst hz;exact⟨x[k]' om,gb _,r k hlt om⟩
theorem UL {P h ι w} (H:HRel h ι w) {c a b:V} {c' a' b':Value} (rc:Rep w ι (Mt h ι) c c') (ra:Rep w ι (Mt h ι) a a') (rb:Rep w ι (Mt h ι) b b') :
  OS P h ι w (do pure (.value (if <- asBool c' then a' else b'))) (FZ h c a b):=by
 unfold FZ;split
 ·rename_i t
  cases rc;intro x h' e;injection e with e;injection e with e1 e2;subst e1 e2;refine⟨if t then a' else b',w,ι,.inl (by simp [asBool]),?_,H,Evolve.refl _ _ _⟩;cases t<;>simp<;>assumption
 ·exact OS.none
theorem EP {P h ι w} (H:HRel h ι w) {x:V} {y:Value} (r:Rep w ι (Mt h ι) x y) (m:Sem Next)
  (hm:(∀a,y = .pointer (some a)->m=pure (.value y))/\(∀f a b,y = .func (.func f) a b->m=pure (.value y))):OS P h ι w m (rP h x):=by
 unfold rP;split
 ·obtain⟨a,ha⟩:=vO r rfl
  rw[hm.1 a ha];exact OS.val H r
 ·obtain⟨a,ha⟩:=vO r rfl
  rw[hm.1 a ha];exact OS.val H r
 ·have hy:∃f a b,y = .func (.func f) a b:=by cases r;exact⟨_,_,_,rfl⟩
  obtain⟨f,a,b,hy⟩:=hy;rw[hm.2 f a b hy];exact OS.val H r
 ·exact OS.none
theorem tB {e:Operand->V} {h:Heap} {ι w} {a:Act} (S:∀x,Rep w ι (Mt h ι) (e x) (a.eval x)) (x:Option Operand):xH w ι (Mt h ι) (x.map e) (x.map a.eval):=by
 cases x with
 |none=>exact .inl ⟨rfl,rfl⟩
 |some x=>exact .inr ⟨_,_,rfl,rfl,S x⟩
theorem wN {P h ι w} (H:HRel h ι w) {b:Builtin} {xs:List V} {ys:Array Value} {tys:Array TypeId} {ty:TypeId} (hl:xs.length=ys.size)
  (hr:∀i,(h1:i<xs.length)->(h2:i<ys.size)->Rep w ι (Mt h ι) xs[i] ys[i]) :
  OS P h ι w (builtin b tys ty #[] ys) (nF P h b xs):=by
 unfold nF;split
 ·rename_i vs hvs
  have e:=pD xs vs ys.toList hvs (by simpa using hl) (fun i h1 h2=>by have:=hr i h1 (by simpa using h2);simpa using this);have e':vs.toArray=ys:=by rw[<-e]
  rw[e'];split
  ·exact OS.of_vs (m:=Builtin.min_ tys ty ys) (dF H)
  ·exact OS.of_vs (m:=Builtin.max_ tys ty ys) (dF H)
  ·exact OS.none
 ·exact OS.none
theorem VA (tys:Array TypeId) (ty:TypeId) (cs:Array Bool) (ys:Array Value):builtin .min tys ty cs ys=builtin .min tys ty #[] ys:=rfl
theorem UZ (tys:Array TypeId) (ty:TypeId) (cs:Array Bool) (ys:Array Value):builtin .max tys ty cs ys=builtin .max tys ty #[] ys:=rfl
theorem FT {P h ι w} (H:HRel h ι w) {new:Nat} {b:Builtin} {xs:List V} {ys:Array Value} {tys:Array TypeId} {ty:TypeId} {cs:Array Bool} (hl:xs.length=ys.size)
  (hr:∀i,(h1:i<xs.length)->(h2:i<ys.size)->Rep w ι (Mt h ι) xs[i] ys[i]) :
  OS P h ι w (builtin b tys ty cs ys) (fY P h new b tys xs):=by
 unfold fY;split
 ·split
  ·obtain⟨l⟩:=ys
   match l,hl with
   | [y],_=>exact OS.of_vs (qA7 H (hr 0 sm sm))
  ·exact OS.none
 ·split
  ·rename_i h2
   obtain⟨l⟩:=ys;match l,hl with
   | [y,z],_=>exact OS.of_vs (LC H (hr 0 sm sm) (hr 1 sm sm) h2)
  ·exact OS.none
 ·split
  ·obtain⟨l⟩:=ys
   match l,hl with
   | [y],_=>exact OS.of_vs (QW H (hr 0 sm sm))
  ·exact OS.none
 ·split
  ·obtain⟨l⟩:=ys
   match l,hl with
   | [y,z],_=>exact OS.of_vs (UK H (hr 0 sm sm) (hr 1 sm sm))
  ·exact OS.none
 ·rw[VA];exact wN H hl hr
 ·rw[UZ];exact wN H hl hr
 ·exact OS.none
theorem vY {e:Operand->V} {h:Heap} {ι w} {a:Act} (S:∀x,Rep w ι (Mt h ι) (e x) (a.eval x)) (ps:Array (Nat×Operand)) :
  (ps.toList.map fun p=>(p.1,e p.2)).length=(ps.map fun(i,x)=>(i,a.eval x)).size /\
  ∀(k i:Nat) (x:V),(ps.toList.map fun p=>(p.1,e p.2))[k]? =some (i,x)->∃y,(ps.map fun(i,x)=>(i,a.eval x))[k]? =some (i,y)/\Rep w ι (Mt h ι) x y:=by
 refine⟨sm,fun k i x hx=>?_⟩;rw[kh]at hx;rw[ks,<-gw];cases hq:ps.toList[k]? with
 |none=>rw[hq]at hx;simp at hx
 |some p=>
  rw[hq]at hx;simp at hx;obtain⟨rfl,rfl⟩:=hx;exact⟨_,rfl,S _⟩
theorem mB {P h ι w} (H:HRel h ι w) {e:Operand->V} {a:Act} (ev:∀x,Rep w ι (Mt h ι) (e x) (a.eval x)) (o:Oper) (new:Nat) :
  OS P h ι w (execOp a.eval o) (aop P o.op e h new):=by
 have S:=ev;obtain⟨dst,op,type,pos,after,guard⟩:=o;cases op with
 |move x=>exact OS.val H (ev x)
 |assign x=>exact OS.val H (ev x)
 |pick c x y=>exact UL H (ev c) (ev x) (ev y)
 |alloc e=>exact OS.of_vs (QU H)
 |box e x=>exact OS.of_vs (FS H (ev x))
 |build t ps=>exact OS.of_vs (QV H (vY S ps).1 (vY S ps).2)
 |buildSlice t n ps=>exact OS.of_vs (yD H (vY S ps).1 (vY S ps).2)
 |load t p=>exact OS.of_vs (CN H (ev p))
 |store t p x=>exact OS.of_us (RF H (ev p) (ev x))
 |nilCheck x=>
  refine EP H (ev x) _ ⟨fun q hq=>?_,fun f q1 q2 hq=>?_⟩
  ·simp only[execOp,hq]
  ·simp only[execOp,hq]
 |binOp op t X Y u=>exact OS.of_vs (qA5 H (ev X) (ev Y))
 |unOp op t x=>
  simp only[aop,aUn];split
  ·rename_i y e9
   have r:=ev x;rw[e9]at r;generalize hq:a.eval x=q at *;cases r;simp only[execOp,hq];exact OS.of_vs (dF H)
  ·exact OS.none
 |convert s d x=>exact OS.of_vs (FU H (ev x))
 |makeInterface t x=>
  simp only[aop,QZ];split
  ·exact OS.none
  ·rename_i d hu hn
   refine OS.of_vs (VS.of_pure H ⟨.iface t (a.eval x),?_,.ifc _ _ _ (ev x)⟩);simp only[Instr.makeInterface,Sem.run_bind,run_underlying hn,Result.andThen_ok];cases d<;>first|rfl|(exact absurd hn (hu _))
  ·exact OS.none
 |makeFunc fn first caps=>
  exact OS.of_vs (VS.of_pure H ⟨_,rfl,.fn fn _ _ _ _ (oZ ev first).1 (oZ ev caps).1 (oZ ev first).2 (oZ ev caps).2⟩)
 |makeSlice t l c=>exact OS.of_vs (AW H (ev l) (ev c))
 |slice t x lo hi mx=>
  cases mx with
  |some m=>exact OS.none
  |none=>
   simp only[aop];split
   ·rename_i y e9
    have r:=ev x;rw[e9]at r;have rlo:=tB S lo;have rhi:=tB S hi;have fin:∀(xl xu:Option V) (yl yu:Option Value),xH w ι (Mt h ι) xl yl->xH w ι (Mt h ι) xu yu->(xl=none\/∃l,xl=some (.v l))->(xu=none\/∃u,xu=some (.v u))->∀y',Rep w ι (Mt h ι) (.v y) y' ->
      ∃zl zu,yl=zl/\yu=zu/\y'=y/\zl=xl.bind (fun| .v l=>some l|_=>none)/\zu=xu.bind (fun| .v l=>some l|_=>none):=by
     intro xl xu yl yu h1 h2 h3 h4 y' ry;refine⟨yl,yu,rfl,rfl,by cases ry;rfl,?_,?_⟩
     ·rcases h3 with rfl|⟨l,rfl⟩<;>rcases h1 with⟨q1,q2⟩|⟨p1,p2,q1,q2,q3⟩
      ·rw[q2];rfl
      ·cases q1
      ·cases q1
      ·injection q1 with q1;subst q1;cases q3;rw[q2];rfl
     ·rcases h4 with rfl|⟨l,rfl⟩<;>rcases h2 with⟨q1,q2⟩|⟨p1,p2,q1,q2,q3⟩
      ·rw[q2];rfl
      ·cases q1
      ·cases q1
      ·injection q1 with q1;subst q1;cases q3;rw[q2];rfl
    split
    ·rename_i e1 e2
     obtain⟨_,_,rfl,rfl,g1,g2,g3⟩:=fin _ _ _ _ rlo rhi (.inl e1) (.inl e2) _ r;rw[e1]at g2;rw[e2]at g3;simp only[execOp,g1];simp only[kn]at g2 g3;rw[g2,g3];exact OS.of_vs (dF H)
    ·rename_i l e1 e2
     obtain⟨_,_,rfl,rfl,g1,g2,g3⟩:=fin _ _ _ _ rlo rhi (.inr ⟨l,e1⟩) (.inl e2) _ r;rw[e1]at g2;rw[e2]at g3;simp only[execOp,g1];simp only[kn]at g2 g3;rw[g2,g3];exact OS.of_vs (dF H)
    ·rename_i u e1 e2
     obtain⟨_,_,rfl,rfl,g1,g2,g3⟩:=fin _ _ _ _ rlo rhi (.inl e1) (.inr ⟨u,e2⟩) _ r;rw[e1]at g2;rw[e2]at g3;simp only[execOp,g1];simp only[kn]at g2 g3;rw[g2,g3];exact OS.of_vs (dF H)
    ·rename_i l u e1 e2
     obtain⟨_,_,rfl,rfl,g1,g2,g3⟩:=fin _ _ _ _ rlo rhi (.inr ⟨l,e1⟩) (.inr ⟨u,e2⟩) _ r;rw[e1]at g2;rw[e2]at g3;simp only[execOp,g1];simp only[kn]at g2 g3;rw[g2,g3];exact OS.of_vs (dF H)
    ·exact OS.none
   ·exact OS.of_vs (RC H (ev x) (tB S lo) (tB S hi))
 |fieldAddr s x f=>exact OS.of_vs (AU H (ev x))
 |field s x f=>exact OS.of_vs (QY H (ev x))
 |indexAddr t x i=>exact OS.of_vs (AV H (ev x) (ev i))
 |index t x i=>exact OS.of_vs (RB H (ev x) (ev i))
 |extract x i=>exact OS.of_vs (FV H (ev x))
 |call c=>
  obtain⟨callee,args,argTypes⟩:=c;cases callee with
  |builtin b=>
   have m:=oZ ev args;have:=FT (P:=P) H (new:=new) (b:=b) (tys:=argTypes) (ty:=type) (cs:=args.map fun| .const _=>true|_=>false) m.1 m.2;exact this
  |value fop=>
   simp only[aop,yE];split
   ·rename_i g first caps hf
    split
    ·rename_i vs hvs
     split
     ·rename_i z hz
      have rf:=ev fop;rw[hf]at rf;generalize hfv:a.eval fop=fv at rf;cases rf with
      |fn _ _ _ us ws l1 l2 r1 r2=>
       have m:=oZ ev args;have hrep:=((PW2.of_dep l1 r1).append (PW2.of_dep m.1 m.2)).append (PW2.of_dep l2 r2);have hall:(us++args.map a.eval++ws).toList=vs:=by
        refine pD (w:=w) (ι:=ι) (M:=Mt h ι) _ vs _ hvs (by have:=hrep.1;simpa using this) (fun i h1 h2=>?_);obtain⟨y,y1,y2⟩:=hrep.2 i _ (ga h1);rw[<-gw,ga h2]at y1;injection y1 with y1;rw[y1];exact y2
       have hrun:(execOp a.eval ⟨dst,.call ⟨.value fop,args,argTypes⟩,type,pos,after,guard⟩).run P w = .ok (.value z) w:=by
        simp only[execOp,resolve,hfv,Deferred.ofValue,Sem.run_bind,Sem.run_pure,Result.andThen_ok,invoke];have:us++Array.map a.eval args++ws=vs.toArray:=by rw[<-hall]
        rw[this];exact EE hz w
       intro x' h' e;injection e with e;injection e with e1 e2;subst e1 e2;exact⟨z,w,ι,.inl hrun,Rep.ofValue z,H,Evolve.refl _ _ _⟩
     ·exact OS.none
    ·split
     ·rename_i id r o hl
      split
      ·rename_i fn hfn
       split
       ·rename_i hne
        have rf:=ev fop;rw[hf]at rf;generalize hfv:a.eval fop=fv at rf;cases rf with
        |fn _ _ _ us ws l1 l2 r1 r2=>
         have m:=oZ ev args;have hrep:=((PW2.of_dep l1 r1).append (PW2.of_dep m.1 m.2)).append (PW2.of_dep l2 r2);rw[hl]at hrep;obtain⟨y,y1,y2⟩:=hrep.2 0 _ rfl;have hone:us++Array.map a.eval args++ws = #[y]:=by
          have hs:(us++Array.map a.eval args++ws).size=1:=hrep.1.symm;exact Array.ext (by rw[hs];rfl) (fun i h1 h2=>by
           have h0:i=0:=by rw[hs]at h1;omega
           subst h0;rw[gb h1]at y1;exact Option.some.inj y1)
         have hrun:(execOp a.eval ⟨dst,.call ⟨.value fop,args,argTypes⟩,type,pos,after,guard⟩).run P w = .ok (.value y) w:=by
          simp only[execOp,resolve,hfv,Deferred.ofValue,Sem.run_bind,Sem.run_pure,Result.andThen_ok,invoke];rw[hone];exact qLH hfn hne y w
         intro x' h' e;injection e with e;injection e with e1 e2;subst e1 e2;exact⟨y,w,ι,.inl hrun,y2,H,Evolve.refl _ _ _⟩
       ·exact OS.none
      ·exact OS.none
     ·exact OS.none
   ·exact OS.none
  |_=>exact OS.none
 |_=>exact OS.none
theorem LX {P h ι w} (H:HRel h ι w) {sl:List V} {a:Act} (S:SRel sl h ι w a.tmps) (o:Oper) (new:Nat) :
 OS P h ι w (execOp a.eval o) (aop P o.op (aev sl) h new):=mB H (fun x=>eV S x) o new
structure St where
 sl:List V
 h:Heap
structure SR (s:St) (ι:Iota) (a:Act) (w:World):Prop where
 defers:a.defers= []
 slots:SRel s.sl s.h ι w a.tmps
 heap:HRel s.h ι w
def Post (s:St) (ι:Iota) (w:World) (Q:Exit->St->Prop):Exit->Act->World->Prop:=
 fun e a' w'=>∃s' ι',Q e s'/\SR s' ι' a' w'/\Evolve s.h ι w s'.h ι' w'
def PW (P:Program) (c:Code) (s:St) (Q:Exit->St->Prop):Prop:=
 ∀ι a w,SR s ι a w->c.wp P (Post s ι w Q) a w
def qAQ (next:St->Prop) (Q:Exit->St->Prop):Exit->St->Prop
 | .normal,s=>next s
 |e,s=>Q e s
def pZ (id:Nat) (Q:Exit->St->Prop):Exit->St->Prop
 | .exit id',s=>if id'=id then Q .normal s else Q (.exit id') s
 |e,s=>Q e s
section
variable {P:Program} {Q:Exit->St->Prop} {s:St}
theorem PW.mono {c:Code} {Q':Exit->St->Prop} (h:PW P c s Q) (hq:∀e s,Q e s->Q' e s):PW P c s Q':=
 fun ι a w r=>wp_mono (h ι a w r) fun e a' w' ⟨s',ι',q,rest⟩=>⟨s',ι',hq _ _ q,rest⟩
theorem CB {ι a w e} (r:SR s ι a w) (h:Q e s):Post s ι w Q e a w:=⟨s,ι,h,r,Evolve.refl _ _ _⟩
theorem PW.skip (h:Q .normal s):PW P .skip s Q:=fun _ _ _ r=>wp_skip (CB r h)
theorem PW.exit {id:Nat} (h:Q (.exit id) s):PW P (.exit id) s Q:=fun _ _ _ r=>wp_exit (CB r h)
theorem PW.ret (h:Q .ret s):PW P .ret s Q:=fun _ _ _ r=>wp_ret (CB r h)
theorem PW.seq {x y:Code} (h:PW P x s (qAQ (fun s'=>PW P y s' Q) Q)):PW P (.seq x y) s Q:=by
 intro ι a w r;refine wp_seq (wp_mono (h ι a w r) ?_);rintro e a' w' ⟨s',ι',q,r',ev⟩;cases e with
 |normal=>exact wp_mono (q ι' a' w' r') fun e2 a2 w2 ⟨s2,ι2,q2,r2,ev2⟩=>⟨s2,ι2,q2,r2,ev.trans ev2⟩
 |_=>exact⟨s',ι',q,r',ev⟩
theorem PW.block {id:Nat} {c:Code} (h:PW P c s (pZ id Q)):PW P (.block id c) s Q:=by
 intro ι a w r;refine wp_block (wp_mono (h ι a w r) ?_);rintro e a' w' ⟨s',ι',q,r',ev⟩;cases e with
 |exit id'=>
  simp only[pZ]at q;simp only[Exit.inBlock];split
  ·rename_i hid
   rw[if_pos hid]at q;exact⟨s',ι',q,r',ev⟩
  ·rename_i hid
   rw[if_neg hid]at q;exact⟨s',ι',q,r',ev⟩
 |_=>exact⟨s',ι',q,r',ev⟩
theorem SR.eval {ι a w} (r:SR s ι a w) {x:Operand} {v:Value} (h:aev s.sl x = .v v):a.eval x=v:=by
 have:=eV r.slots x;rw[h]at this;cases this;rfl
theorem PW.cond {c:Operand} {x y:Code} {t:Bool} (hc:aev s.sl c = .v (.bool t)) (h:PW P (if t then x else y) s Q):PW P (.cond c x y) s Q:=
 fun ι a w r=>wp_cond (r.eval hc) (h ι a w r)
theorem PW.loop {c:Code} (I:St->Prop) (μ:St->Nat) (h₀:I s) (round:∀s,I s->PW P c s (qAQ (fun s'=>I s'/\μ s'<μ s) Q)):PW P (.loop c) s Q:=by
 intro ι a w r;let J:Nat->Act->World->Prop:=fun n a' w'=>∃s' ι',μ s'=n/\I s'/\SR s' ι' a' w'/\Evolve s.h ι w s'.h ι' w'
 have dec:∀a' w',∃m,((∃n,J n a' w')->J m a' w'/\∀n,J n a' w'->m<=n):=by
  intro a' w';by_cases hx:∃n,J n a' w'
  ·obtain⟨n,hn⟩:=hx
   induction n using Nat.strongRecOn with
   |_ n ih=>
    by_cases hlt:∃k,k<n/\J k a' w'
    ·obtain⟨k,hk,hj⟩:=hlt
     exact ih k hk hj
    ·refine⟨n,fun _=>⟨hn,fun k hk=>?_⟩⟩
     rcases gu k n with q|q
     ·exact absurd ⟨k,q,hk⟩ hlt
     ·exact q
  ·exact⟨0,fun q=>absurd q hx⟩
 have hch:∃f:Act->World->Nat,∀a' w',(∃n,J n a' w')->J (f a' w') a' w'/\∀n,J n a' w'->f a' w'<=n:=by
  refine⟨fun a' w'=>Classical.choose (dec a' w'),fun a' w'=>Classical.choose_spec (dec a' w')⟩
 obtain⟨f,hf⟩:=hch;refine wp_loop (fun a' w'=>∃n,J n a' w') f ⟨μ s,s,ι,rfl,h₀,r,Evolve.refl _ _ _⟩ ?_;intro a' w' hI;obtain⟨⟨s',ι',hm,hi,r',ev⟩,_⟩:=hf a' w' hI;refine wp_mono (round s' hi ι' a' w' r') ?_;rintro e a2 w2 ⟨s2,ι2,q,r2,ev2⟩;cases e with
 |normal=>
  obtain⟨q1,q2⟩:=q;have hj:J (μ s2) a2 w2:=⟨s2,ι2,rfl,q1,r2,ev.trans ev2⟩
  refine⟨⟨_,hj⟩,?_⟩;have:=(hf a2 w2 ⟨_,hj⟩).2 _ hj;omega
 |_=>exact⟨s2,ι2,q,r2,ev.trans ev2⟩
end
def PO (P:Program) (ops:Array Oper) (l:List Nat) (s:St) (Q:St->Prop):Prop:=
 ∀ι a w,SR s ι a w->wpOps P ops (Post s ι w (fun e s'=>e = .normal/\Q s')) l a w
def sput (sl:List V) (dst:Option Tmp) (x:V):List V:=
 match dst with
 |some d=>sl.set d x
 |none=>sl
def awanted (ops:Array Oper) (sl:List V) (o:Oper):Option Bool:=
 match o.guard with
 |none=>some true
 |some (j,want)=>match((ops[j]?).bind (·.dst)).bind (sl[·]?)with
  |some (.v (.bool b))=>some (b == want)
  |some (.v (.tuple _))=>some false
  |_=>none
section
variable {P:Program} {ops:Array Oper} {Q:St->Prop} {s:St}
theorem eY {ι a w} (r:SR s ι a w) {o:Oper} {b:Bool} (h:awanted ops s.sl o=some b):Region.wanted o (yielded ops a.tmps)=b:=by
 unfold awanted at h;unfold Region.wanted;split at h
 ·rename_i hg
  injection h with h;simp [hg,h]
 ·rename_i j want hg
  simp only[hg];split at h
  ·rename_i b' hb
   injection h with h;cases hq:(ops[j]?).bind (·.dst)with
   |none=>rw[hq]at hb;simp at hb
   |some d=>
    rw[hq]at hb;simp only[gp]at hb;obtain⟨y,y1,y2⟩:=r.slots.2 d _ hb;cases y2;simp only[yielded,hq,gp,y1];rw[<-h];cases b'<;>cases want<;>rfl
  ·rename_i vs hb
   injection h with h;cases hq:(ops[j]?).bind (·.dst)with
   |none=>rw[hq]at hb;simp at hb
   |some d=>
    rw[hq]at hb;simp only[gp]at hb;obtain⟨y,y1,y2⟩:=r.slots.2 d _ hb;cases y2;simp only[yielded,hq,gp,y1];rw[<-h];rfl
  ·cases h
theorem SRel.mono {sl:List V} {h ι w h' ι' w'} {tmps:Array Value} (r:SRel sl h ι w tmps) (ev:Evolve h ι w h' ι' w'):SRel sl h' ι' w' tmps:=
 ⟨r.1,fun i x hx=>let ⟨y,y1,y2⟩:=r.2 i x hx;⟨y,y1,y2.mono ev⟩⟩
theorem SRel.put {sl:List V} {h ι w} {a:Act} (r:SRel sl h ι w a.tmps) (dst:Option Tmp) {x:V} {y:Value} (ry:Rep w ι (Mt h ι) x y):SRel (sput sl dst x) h ι w (a.put dst y).tmps:=by
 cases dst with
 |none=>exact r
 |some d=>
  refine⟨by simp [sput,Act.put,r.1],fun i z hz=>?_⟩;simp only[sput]at hz;simp only[Act.put];by_cases hid:i=d
  ·subst hid
   have hlt:=aI hz;simp only[List.length_set]at hlt;rw[kj hlt]at hz;injection hz with hz;subst hz;refine⟨y,?_,ry⟩;have hr:=r.1;rw[Array.getElem?_setIfInBounds_self_of_lt om]
  ·rw[gl (Ne.symm hid)]at hz
   obtain⟨u,u1,u2⟩:=r.2 i z hz;exact⟨u,by rw[Array.getElem?_setIfInBounds_ne (Ne.symm hid)];exact u1,u2⟩
theorem gD (a:Act) (dst:Option Tmp) (v:Value):(a.put dst v).defers=a.defers:=by cases dst<;>rfl
theorem qL4 {o:Oper} {a:Act} {K K':Act->World->Prop} {Q Q':Exit->Act->World->Prop} (hk:∀a w,K a w->K' a w) (hq:∀e a w,Q e a w->Q' e a w) (r:Result Next)
  (h:o.upon P a K Q r):o.upon P a K' Q' r:=by
 cases r with
 |ok n w=>
  cases n<;>simp only[Oper.upon]at h ⊢<;>first
   |exact hk _ _ h
   |exact h.elim
   |skip
  ·refine Calls.mono h ?_
   intro e w'' he;cases e with
   |returned v=>exact hk _ _ he
   |panicked chain=>exact hq _ _ _ he
   |outgrown=>
    obtain⟨a0,w0,q⟩:=he;exact⟨a0,w0,hq _ _ _ q⟩
  ·exact Rows.mono h fun v w'=>hk _ _
 |halt x w=>
  cases x<;>simp only[Oper.upon]at h ⊢<;>first
   |exact hq _ _ _ h
   |exact h.elim
theorem iB {Q Q':Exit->Act->World->Prop} (h:∀e a w,Q e a w->Q' e a w):∀(l:List Nat) (a:Act) (w:World),wpOps P ops Q l a w->wpOps P ops Q' l a w
 | [],a,w,hq=>h _ _ _ hq
 |i::rest,a,w,hq=>by
  simp only[wpOps]at hq ⊢;split
  ·rename_i ho
   simp only[ho]at hq;exact iB h rest a w hq
  ·rename_i o ho
   simp only[ho]at hq;split
   ·rename_i hw
    rw[if_pos hw]at hq;rcases hq with hq|⟨q1,a0,w0,q2⟩
    ·exact .inl (qL4 (fun a w=>iB h rest a w) h _ hq)
    ·exact .inr ⟨q1,a0,w0,h _ _ _ q2⟩
   ·rename_i hw
    rw[if_neg hw]at hq;exact iB h rest _ w hq
theorem PO.nil (h:Q s):PO P ops [] s Q:=fun ι a w r=>⟨s,ι,⟨rfl,h⟩,r,Evolve.refl _ _ _⟩
theorem PO.after {rest:List Nat} {s':St} {ι ι':Iota} {w:World} {a':Act} {w':World} (hr:PO P ops rest s' Q) (r':SR s' ι' a' w') (ev:Evolve s.h ι w s'.h ι' w') :
  wpOps P ops (Post s ι w (fun e s'=>e = .normal/\Q s')) rest a' w':=
 iB (fun e a2 w2 ⟨s2,ι2,q2,r2,ev2⟩=>⟨s2,ι2,q2,r2,ev.trans ev2⟩) rest a' w' (hr ι' a' w' r')
theorem PO.op {i:Nat} {rest:List Nat} {o:Oper} {x:V} {h':Heap} (new:Nat) (ho:ops[i]? =some o) (hw:awanted ops s.sl o=some true)
  (hx:aop P o.op (aev s.sl) s.h new=some (x,h')) (hr:PO P ops rest ⟨sput s.sl o.dst x,h'⟩ Q):PO P ops (i::rest) s Q:=by
 intro ι a w r;simp only[wpOps,ho];rw[if_pos (eY r hw)];left;unfold Oper.wp;obtain⟨y,w',ι',h1,h2,h3,ev⟩:=LX (P:=P) r.heap r.slots o new x h' hx;have r':SR ⟨sput s.sl o.dst x,h'⟩ ι' (a.put o.dst y) w':=⟨by rw[gD];exact r.defers,(r.slots.mono ev).put o.dst h2,h3⟩
 rcases h1 with h1|⟨h1,rfl⟩
 ·rw[h1];exact PO.after hr r' ev
 ·rw[h1];exact PO.after hr r' ev
theorem PO.no {i:Nat} {rest:List Nat} {o:Oper} (ho:ops[i]? =some o) (hw:awanted ops s.sl o=some false)
  (hr:PO P ops rest ⟨sput s.sl o.dst (.v undef),s.h⟩ Q):PO P ops (i::rest) s Q:=by
 intro ι a w r;simp only[wpOps,ho];rw[if_neg (by rw[eY r hw];simp)];have r':SR ⟨sput s.sl o.dst (.v undef),s.h⟩ ι (a.put o.dst undef) w:=⟨by rw[gD];exact r.defers,r.slots.put o.dst (.v _),r.heap⟩
 exact PO.after hr r' (Evolve.refl _ _ _)
end
def PC (P:Program) (f:FuncId) (args:List V) (h:Heap) (R:V->Heap->Prop):Prop:=
 ∀(ι:Iota) (w:World) (vals:Array Value),PW2 w ι (Mt h ι) args vals->HRel h ι w ->
  Calls P f vals w fun e w'=>∃y x h' ι',e = .returned y/\R x h'/\Rep w' ι' (Mt h' ι') x y/\HRel h' ι' w'/\Evolve h ι w h' ι' w'
theorem PC.mono {P f args h} {R R':V->Heap->Prop} (c:PC P f args h R) (hr:∀x h',R x h'->R' x h'):PC P f args h R':=
 fun ι w vals h1 h2=>(c ι w vals h1 h2).mono fun e w' ⟨y,x,h',ι',q1,q2,q3⟩=>⟨y,x,h',ι',q1,hr _ _ q2,q3⟩
def callable (P:Program) (f:FuncId):Bool:=
 match P.funcs[f]? with
 | some fn => fn.name != "runtime.NumGoroutine" && fn.body.isSome
 |none=>false
theorem AB {P:Program} {f:FuncId} (h:callable P f=true) (args:Array Value) (w:World):(callFunc f args).run P w = .ok (.enter f args) w:=by
 unfold callable at h;split at h
 ·rename_i fn hf
  obtain⟨h1,h2⟩:=gc.1 h;have h1' : ¬ fn.name = "runtime.NumGoroutine" := by simpa using h1
  have h2':¬fn.body=none:=by intro q;rw[q]at h2;simp at h2
  simp [callFunc,hf,h1',h2']
 ·cases h
theorem PO.call {P:Program} {ops:Array Oper} {Q:St->Prop} {s:St} {i:Nat} {rest:List Nat} {o:Oper} {fop:Operand} {args:Array Operand} {tys:Array TypeId} {f:FuncId} {first caps:List V} {R:V->Heap->Prop}
  (ho:ops[i]? =some o) (hw:awanted ops s.sl o=some true) (hop:o.op = .call ⟨.value fop,args,tys⟩) (hf:aev s.sl fop = .fn (.func f) first caps) (hcall:callable P f=true)
  (hc:PC P f (first++args.toList.map (aev s.sl)++caps) s.h R) (hr:∀x h',R x h'->PO P ops rest ⟨sput s.sl o.dst x,h'⟩ Q):PO P ops (i::rest) s Q:=by
 intro ι a w r;simp only[wpOps,ho];rw[if_pos (eY r hw)];left;have rf:=eV r.slots fop;rw[hf]at rf;generalize hfv:a.eval fop=fv at rf;cases rf with
 |fn _ _ _ vs us l1 l2 r1 r2=>
  have m:=oZ (fun x=>eV r.slots x) args;have hrep:=((PW2.of_dep l1 r1).append (PW2.of_dep m.1 m.2)).append (PW2.of_dep l2 r2);unfold Oper.wp;have hrun:(execOp a.eval o).run P w = .ok (.enter f (vs++args.map a.eval++us)) w:=by
   simp only[execOp,hop,resolve,hfv,Deferred.ofValue,Sem.run_bind,Sem.run_pure,Result.andThen_ok,invoke];rw[AB hcall]
  rw[hrun];refine(hc ι w _ hrep r.heap).mono ?_;rintro e w' ⟨y,x,h',ι',rfl,hR,ry,hh,ev⟩;have r':SR ⟨sput s.sl o.dst x,h'⟩ ι' (a.put o.dst y) w':=⟨by rw[gD];exact r.defers,(r.slots.mono ev).put o.dst ry,hh⟩
  exact PO.after (hr x h' hR) r' ev
theorem PW.region {P:Program} {id:Nat} {ops:Array Oper} {Q:Exit->St->Prop} {s:St} (h:PO P ops (List.range ops.size) s (Q .normal)):PW P (.region id ops false) s Q:=by
 intro ι a w r;refine wp_region (iB ?_ _ _ _ (h ι a w r));rintro e a' w' ⟨s',ι',⟨rfl,q⟩,rest⟩;exact⟨s',ι',q,rest⟩
def LY (P:Program) (sl:List V) (h:Heap):ResultVar->Option V
 | .tmp t=>sl[t]?
 | .cell a t=>match sl[a]? with
   |some p=>match qQ P h t p with
    |some (x,_)=>some x
    |none=>none
   |none=>none
def CQ (P:Program) (sl:List V) (h:Heap):List ResultVar->Option (List V)
 | []=>some []
 |r::rs=>match LY P sl h r,CQ P sl h rs with
  |some x,some xs=>some (x::xs)
  |_,_=>none
def ares (P:Program) (rs:List ResultVar) (sl:List V) (h:Heap):Option V:=
 match CQ P sl h rs with
 |some [x]=>some x
 |some xs=>some (.tup xs)
 |none=>none
theorem qJH {P:Program} {s:St} {ι a w} (r:SR s ι a w) {rv:ResultVar} {x:V} (h:LY P s.sl s.h rv=some x) :
  ∃y,(match rv with| .tmp t=>pure (a.tmps.getD t undef)| .cell c t=>do loadVar t (<-asAddr (a.tmps.getD c undef)):Sem Value).run P w = .ok y w/\Rep w ι (Mt s.h ι) x y:=by
 have gd:∀(t:Nat) (y:Value),a.tmps[t]? =some y->a.tmps.getD t undef=y:=by
  intro t y e;have hlt:t<a.tmps.size:=by
   rcases gu t a.tmps.size with q|q
   ·exact q
   ·rw[gh q]at e;cases e
  rw[gb hlt]at e;injection e with e;simp [gy,hlt,e]
 cases rv with
 |tmp t=>
  obtain⟨y,y1,y2⟩:=r.slots.2 t x h;exact⟨y,by simp [gd t y y1],y2⟩
 |cell c t=>
  simp only[LY]at h;split at h
  ·rename_i p hp
   split at h
   ·rename_i x' h' hl
    injection h with h;subst h;obtain⟨y,y1,y2⟩:=r.slots.2 c p hp;have hrow:rowAt s.h p≠none:=by
     intro q;simp [qQ,q]at hl
    obtain⟨z,w',ι',z1,z2,z3,z4⟩:=CN (P:=P) r.heap (t:=t) y2 x' h' hl;unfold qQ at hl;split at hl
    ·rename_i row off hrow
     split at hl
     ·rename_i u hu
      injection hl with hl;injection hl with e1 e2;obtain⟨b,o,rfl,hc⟩:=QC r.heap y2 hrow;obtain⟨q,q1,q2⟩:=tT (P:=P) hc hu;refine⟨q,?_,by rw[<-e1];exact q2⟩;simp [gd c _ y1,asAddr,q1]
     ·cases hl
    ·cases hl
   ·cases h
  ·cases h
theorem LZ {P:Program} {s:St} {ι a w} (r:SR s ι a w):∀(rs:List ResultVar) (xs:List V),CQ P s.sl s.h rs=some xs ->
  ∃ys:List Value,(rs.mapM fun(rv:ResultVar)=>(match rv with| .tmp t=>pure (a.tmps.getD t undef)| .cell c t=>do loadVar t (<-asAddr (a.tmps.getD c undef)):Sem Value)).run P w = .ok ys w/\xs.length=ys.length /\
   ∀i,(h1:i<xs.length)->(h2:i<ys.length)->Rep w ι (Mt s.h ι) xs[i] ys[i]
 | [],xs,h=>by simp [CQ]at h;subst h;exact⟨[],sm,rfl,fun i h=>by simp at h⟩
 |rv::rs,xs,h=>by
  simp only[CQ]at h;split at h
  ·rename_i x xs' hx hxs
   injection h with h;subst h;obtain⟨y,y1,y2⟩:=qJH r hx;obtain⟨ys,z1,z2,z3⟩:=LZ r rs xs' hxs;refine⟨y::ys,?_,by simp [z2],fun i h1 h2=>?_⟩
   ·simp only[List.mapM_cons,Sem.run_bind,Sem.run_pure]
    rw[y1];simp only[Result.andThen_ok];rw[z1];rfl
   ·cases i with
    |zero=>exact y2
    |succ i=>exact z3 i (by simpa using h1) (by simpa using h2)
  ·cases h
theorem GC {P:Program} {s:St} {ι a w} (r:SR s ι a w) {fn:Func} {x:V} (h:ares P fn.results.toList s.sl s.h=some x) :
  ∃y,(results fn a.tmps).run P w = .ok y w/\Rep w ι (Mt s.h ι) x y:=by
 unfold ares at h;have main:∀xs,CQ P s.sl s.h fn.results.toList=some xs->∃ys:List Value,(results fn a.tmps).run P w = .ok (if h:ys.toArray.size=1 then ys.toArray[0]else .tuple ys.toArray) w/\xs.length=ys.length /\
   ∀i,(h1:i<xs.length)->(h2:i<ys.length)->Rep w ι (Mt s.h ι) xs[i] ys[i]:=by
  intro xs hxs;obtain⟨ys,z1,z2,z3⟩:=LZ r fn.results.toList xs hxs;refine⟨ys,?_,z2,z3⟩;unfold results;rw[<-Array.toArray_toList (xs:=fn.results),List.mapM_toArray];simp only[Sem.run_bind,Sem.run_map];exact(congrArg (fun q:Result (List Value)=>(q.andThen fun a w'=>Result.ok a.toArray w').andThen fun a w'=>(Pure.pure (if h:a.size=1 then a[0]else Value.tuple a):Sem Value).run P w') z1).trans rfl
 split at h
 ·rename_i u hu
  injection h with h;subst h;obtain⟨ys,y1,y2,y3⟩:=main _ hu;match ys,y2 with
  | [y],_=>exact⟨y,by simpa using y1,y3 0 sm sm⟩
 ·rename_i xs hne hxs
  injection h with h;subst h;obtain⟨ys,y1,y2,y3⟩:=main _ hxs;have hl:ys.length≠1:=by
   intro q;match xs,(y2.trans q)with
   | [u],_=>exact hne u rfl
  rw[dif_neg (by simpa using hl)]at y1;exact⟨_,y1,.tup _ _ (by simpa using y2) (fun i h1 h2=>by simpa using y3 i h1 (by simpa using h2))⟩
 ·cases h
theorem PC.of_body {P:Program} {f:FuncId} {fn:Func} {c:Code} {args:List V} {h:Heap} {R:V->Heap->Prop} (hf:P.funcs[f]? =some fn) (hb:fn.body=some c)
  (hp:PW P c ⟨args++gj (fn.ntmps-args.length) (.v undef),h⟩ (fun e s'=>(e = .normal\/e = .ret)/\∃x,ares P fn.results.toList s'.sl s'.h=some x/\R x s'.h)):PC P f args h R:=by
 intro ι w vals hp2 hh;have hl:=hp2.1;refine calls_of_wp hf hb (wp_mono (hp ι _ w ?_) ?_)
 ·refine⟨rfl,⟨by simp [hl],fun i x hx=>?_⟩,hh⟩
  by_cases h1:i<args.length
  ·rw[gq h1]at hx
   obtain⟨u,u1,u2⟩:=hp2.2 i x hx;exact⟨u,by rw[gn om];exact u1,u2⟩
  ·rw[kf om,ki]at hx
   split at hx
   ·rename_i h2
    injection hx with hx;subst hx;refine⟨undef,?_,.v _⟩;rw[ke om,Array.getElem?_replicate,if_pos om]
   ·cases hx
 ·rintro e a' w' ⟨s',ι',⟨he,x,hx,hR⟩,r',ev⟩
  obtain⟨y,y1,y2⟩:=GC r' hx;have:bodyPost P fn (fun e w'=>∃y x h' ι',e = .returned y/\R x h'/\Rep w' ι' (Mt h' ι') x y/\HRel h' ι' w'/\Evolve h ι w h' ι' w') .normal a' w':=
   ⟨r'.defers,y,y1,y,x,s'.h,ι',rfl,hR,y2,r'.heap,ev⟩
  rcases he with rfl|rfl
  ·exact this
  ·exact this
structure Dat where
 sl:List V
 pre:List (Nat×Option HS)
 x:V
 post:List (Nat×HS)
 deriving Inhabited
def bB (h:Heap):List (Nat×HS)->Heap
 | []=>h
 |p::r=>bB (h.set p.1 p.2) r
theorem jE:∀(l:List (Nat×HS)) (h:Heap),(bB h l).length=h.length
 | [],_=>rfl
 |p::r,h=>by rw[bB,jE r];simp
theorem fF {id:Nat}:∀(l:List (Nat×HS)) (h:Heap),(∀p,p∈l->p.1≠id)->(bB h l)[id]? =h[id]?
 | [],_,_=>rfl
 |p::r,h,hn=>by
  rw[bB,fF r _ (fun q hq=>hn q (go _ hq)),gl (hn p (gt ..))]
theorem EK {i:Nat} {c:HS}:∀(l:List (Nat×HS)) (h:Heap),(∀p,p∈l->p.1≠i)->bB (h.set i c) l=(bB h l).set i c
 | [],_,_=>rfl
 |p::r,h,hn=>by
  rw[bB,List.set_comm _ _ (Ne.symm (hn p (gt ..))),EK r _ (fun q hq=>hn q (go _ hq))];rfl
theorem AH:∀(l m:List (Nat×HS)) (h:Heap),(∀p,p∈l->∀q,q∈m->p.1≠q.1)->bB (bB h l) m=bB (bB h m) l
 | [],_,_,_=>rfl
 |p::r,m,h,hn=>by
  rw[bB,AH r m _ (fun a ha b hb=>hn a (go _ ha) b hb),bB];rw[EK m h (fun q hq=>Ne.symm (hn p (gt ..) q hq))]
def AY (ops:Array Oper) (o:Oper) (sl sl':List V):Prop:=∀t,t∈o.looksAt ops->sl'[t]? =sl[t]?
def AX (pre:List (Nat×Option HS)) (h:Heap):Prop:=∀p,p∈pre->h[p.1]? =p.2
def WO (P:Program) (ops:Array Oper) (i:Nat) (s s':St):Prop:=
 ∀ι a w (K:Act->World->Prop) (Q:Exit->Act->World->Prop),SR s ι a w->(∀ι' a' w',SR s' ι' a' w'->Evolve s.h ι w s'.h ι' w'->K a' w')->wpOp P ops Q i K a w
def LS (P:Program) (ops:Array Oper) (i:Nat) (o:Oper) (d:Dat):Prop:=
 ∀s,AY ops o d.sl s.sl->AX d.pre s.h->WO P ops i s ⟨sput s.sl o.dst d.x,bB s.h d.post⟩
section
variable (P:Program) (ops:Array Oper) (D:Nat->Dat)
def AS (i:Nat) (s s':St):Prop:=
 ∃o,ops[i]? =some o/\AY ops o (D i).sl s.sl/\AX (D i).pre s.h/\s'=⟨sput s.sl o.dst (D i).x,bB s.h (D i).post⟩/\LS P ops i o (D i)
def Run:List Nat->St->St->Prop
 | [],s,s'=>s=s'
 |i::l,s,s'=>∃s1,AS P ops D i s s1/\Run l s1 s'
def hdis (a b:Dat):Prop:=(∀p,p∈a.post->∀q,q∈b.pre.map (·.1)++b.post.map (·.1)->p.1≠q)/\(∀p,p∈b.post->∀q,q∈a.pre.map (·.1)++a.post.map (·.1)->p.1≠q)
def Indep (i j:Nat):Prop:=∀oi oj,ops[i]? =some oi->ops[j]? =some oj->oj.apart ops oi=true/\hdis (D i) (D j)
end
section
variable {P:Program} {ops:Array Oper} {D:Nat->Dat}
theorem KQ {sl:List V} {dst:Option Tmp} {x:V} {t:Nat} (h:∀d,dst=some d->d≠t):(sput sl dst x)[t]? =sl[t]?:=by
 cases dst with
 |none=>rfl
 |some d=>exact gl (h d rfl)
theorem qLT {sl:List V} {a b:Option Tmp} {x y:V} (h:∀d,a=some d->b≠some d):sput (sput sl a x) b y=sput (sput sl b y) a x:=by
 cases a with
 |none=>rfl
 |some d=>cases b with
  |none=>rfl
  |some e=>exact List.set_comm _ _ (by intro q;subst q;exact h d rfl rfl)
theorem AS.swap {i j:Nat} {s s1 s2:St} (ind:Indep ops D i j) (h1:AS P ops D j s s1) (h2:AS P ops D i s1 s2):∃s1',AS P ops D i s s1'/\AS P ops D j s1' s2:=by
 obtain⟨oj,hj,aj,bj,rfl,lj⟩:=h1;obtain⟨oi,hi,ai,bi,rfl,li⟩:=h2;obtain⟨hap,hd1,hd2⟩:=ind oi oj hi hj;obtain⟨p1,p2,p3⟩:=Oper.apart_spec hap;refine⟨⟨sput s.sl oi.dst (D i).x,bB s.h (D i).post⟩,⟨oi,hi,fun t ht=>?_,fun p hp=>?_,rfl,li⟩,⟨oj,hj,fun t ht=>?_,fun p hp=>?_,?_,lj⟩⟩
 ·rw[<-ai t ht,KQ]
  intro d hd e;subst e;exact p1 d hd ht
 ·rw[<-bi p hp,fF]
  intro q hq e;exact hd2 q hq p.1 (ge _ (gf hp)) e
 ·rw[<-aj t ht,KQ]
  intro d hd e;subst e;exact p3 d hd ht
 ·rw[<-bj p hp,fF]
  intro q hq e;exact hd1 q hq p.1 (ge _ (gf hp)) e
 ·rw[qLT (fun d hd e=>p2 d hd e),AH _ _ _ (fun p hp q hq=>?_)]
  exact hd2 p hp q.1 (kl _ (gf hq))
theorem Run.front {i:Nat}:∀(l1 l2:List Nat) (s s':St),(∀j,j∈l1->Indep ops D i j)->Run P ops D (l1++i::l2) s s'->Run P ops D (i::(l1++l2)) s s'
 | [],_,_,_,_,h=>h
 |j::l1,l2,s,s',hind,h=>by
  obtain⟨s1,h1,h2⟩:=h;obtain⟨s2,h3,h4⟩:=Run.front l1 l2 s1 s' (fun k hk=>hind k (go _ hk)) h2;obtain⟨s1',q1,q2⟩:=AS.swap (hind j (gt ..)) h1 h3;exact⟨s1',q1,s2,q2,h4⟩
def dep (ops:Array Oper):Nat->Nat->Nat->Bool
 |0,_,_=>false
 |n+1,i,j=>match ops[i]? with
  |some o=>o.after.toList.any fun e=>Region.binds .any e&&(e.on == j||dep ops n e.on j)
  |none=>false
def closed (ops:Array Oper) (listed:Array Bool):Prop:=
 ∀i o,ops[i]? =some o->listed.getD i false=true->∀e∈o.after,Region.binds .any e=true->listed.getD e.on false=true
theorem IL {listed:Array Bool} (hc:closed ops listed):∀(n i j:Nat),(∀o,ops[i]? =some o->∀e∈o.after,Region.binds .any e=true->listed.getD e.on false=true)->dep ops n i j=true->listed.getD j false=true
 |0,_,_,_,h=>by simp [dep]at h
 |n+1,i,j,hi,h=>by
  simp only[dep]at h;split at h
  ·rename_i o ho
   obtain⟨e,he,hb⟩:=List.any_eq_true.1 h;obtain⟨hb1,hb2⟩:=gc.1 hb;have hl:=hi o ho e (by simpa using he) hb1;rcases kd.1 hb2 with q|q
   ·have:e.on=j:=by simpa using q
    rw[<-this];exact hl
   ·exact IL hc n e.on j (fun o' ho'=>hc e.on o' ho' hl) q
  ·cases h
def rem (ops:Array Oper) (listed:Array Bool):List Nat:=(List.range ops.size).filter fun i=>!listed.getD i true
theorem zB {p:Nat->Bool} {i:Nat}:∀(l:List Nat),i∈l->l.Pairwise (· < ·)->p i=true ->
  ∃l1 l2,l.filter p=l1++i::l2/\l.filter (fun k=>p k&&k != i)=l1++l2/\∀j∈l1,j<i/\p j=true
 | [],h,_,_=>by cases h
 |k::l,h,hs,hp=>by
  rw[List.pairwise_cons]at hs;by_cases hk:k=i
  ·subst hk
   refine⟨[],l.filter p,by simp [hp],?_,sm⟩;have:∀x∈l,(p x&&x != k)=p x:=by
    intro x hx;have:=hs.1 x hx;have hne:(x != k)=true:=by simp;omega
    simp [hne]
   simp only[List.filter_cons,bne_self_eq_false,Bool.and_false,kt,if_false,List.nil_append];exact kw this
  ·have hmem:i∈l:=by
     rcases kq.1 h with q|q
     ·exact absurd q.symm hk
     ·exact q
   obtain⟨l1,l2,e1,e2,e3⟩:=zB l hmem hs.2 hp;have hki:k<i:=hs.1 i hmem;by_cases hpk:p k=true
   ·refine⟨k::l1,l2,by simp [hpk,e1],by simp [hpk,hk,e2],fun j hj=>?_⟩
    rcases kq.1 hj with q|q
    ·subst q;exact⟨hki,hpk⟩
    ·exact e3 j q
   ·refine⟨l1,l2,by simp [hpk,e1],by simp [hpk,e2],e3⟩
theorem qVE {listed:Array Bool} {i:Nat} (hs:listed.size=ops.size) (hi:i<ops.size) (hn:listed.getD i true=false) :
  ∃l1 l2,rem ops listed=l1++i::l2/\rem ops (listed.setIfInBounds i true)=l1++l2/\∀j∈l1,j<i/\listed.getD j true=false:=by
 obtain⟨l1,l2,e1,e2,e3⟩:=zB (p:=fun k=>!listed.getD k true) (i:=i) (List.range ops.size) (by simp [hi]) List.pairwise_lt_range (by simp [hn]);refine⟨l1,l2,e1,?_,fun j hj=>⟨(e3 j hj).1,by simpa using(e3 j hj).2⟩⟩;rw[<-e2];unfold rem;apply kw;intro k hk;by_cases hki:k=i
 ·subst hki
  have:(listed.setIfInBounds k true).getD k true=true:=by
   simp [gy]
  simp [this]
 ·rw[getD_set_ne true (Ne.symm hki)]
  simp [hki]
theorem qBA {Q:Exit->Act->World->Prop} {s1:St} (hedge:∀(i:Nat) (o:Oper),ops[i]? =some o->∀e∈o.after,Region.binds .any e=true->e.on<i)
  (hind:∀i j,j<i->i<ops.size->(∃n,dep ops n i j=true)\/Indep ops D i j) :
  ∀(fuel:Nat) (listed:Array Bool) (s:St) (ι:Iota) (a:Act) (w:World),listed.size=ops.size->closed ops listed->(rem ops listed).length<=fuel->Run P ops D (rem ops listed) s s1 ->
   SR s ι a w->(∀ι' a' w',SR s1 ι' a' w'->Evolve s.h ι w s1.h ι' w'->Q .normal a' w')->wpAny P .any ops Q fuel listed a w:=by
 have done:∀(listed:Array Bool),listed.size=ops.size->Region.ready .any ops listed= []->rem ops listed= []:=by
  intro listed hs hr;apply gz.2;intro i;induction i using Nat.strongRecOn with
  |_ i ih=>
   intro hi;have hmem:i<ops.size/\listed.getD i true=false:=by simpa [rem]using hi
   have:i∈Region.ready .any ops listed:=by
    refine mem_ready.2 ?_;refine⟨hmem.2,ops[i]'hmem.1,gb hmem.1,fun e he hb=>?_⟩;have hlt:=hedge i _ (gb hmem.1) e he hb;have hnot:=ih e.on hlt;have h1:listed.getD e.on true=true:=by
     by_cases q:listed.getD e.on true=true
     ·exact q
     ·exfalso
      apply hnot;simp only[rem,List.mem_filter,List.mem_range];exact⟨om,by simpa using q⟩
    have hlt2:e.on<listed.size:=om
    simpa [gy,hlt2]using h1
   rw[hr]at this;cases this
 intro fuel;induction fuel with
 |zero=>
  intro listed s ι a w hs hc hl hrun hsr hq;have hrem:rem ops listed= []:=ka om;have hready:Region.ready .any ops listed= []:=by
   apply gz.2;intro i hi;obtain⟨h1,o,ho,_⟩:=mem_ready.1 hi;have hio:i<ops.size:=by
    rcases gu i ops.size with q|q
    ·exact q
    ·rw[gh q]at ho;cases ho
   have:i∈rem ops listed:=by simp only[rem,List.mem_filter,List.mem_range];exact⟨hio,by simp [h1]⟩
   rw[hrem]at this;cases this
  rw[hrem]at hrun;have hrun:s=s1:=hrun;subst hrun;exact⟨hready,hq ι a w hsr (Evolve.refl _ _ _)⟩
 |succ fuel ih=>
  intro listed s ι a w hs hc hl hrun hsr hq;refine⟨fun hready=>?_,fun i hi=>?_⟩
  ·have hrem:=done listed hs hready
   rw[hrem]at hrun;have hrun:s=s1:=hrun;subst hrun;exact hq ι a w hsr (Evolve.refl _ _ _)
  ·obtain⟨h1,o,ho,hall⟩:=mem_ready.1 hi
   have hio:i<ops.size:=by
    rcases gu i ops.size with q|q
    ·exact q
    ·rw[gh q]at ho;cases ho
   obtain⟨l1,l2,e1,e2,e3⟩:=qVE hs hio h1;rw[e1]at hrun;have hfront:=Run.front l1 l2 s s1 (fun j hj=>by
    obtain⟨hji,hjl⟩:=e3 j hj;rcases hind i j hji hio with⟨n,hd⟩|hd
    ·exfalso
     have:=IL hc n i j (fun o' ho' e he hb=>by rw[ho]at ho';injection ho' with ho';subst ho';exact hall e he hb) hd;have hjs:j<listed.size:=om
     simp [gy,hjs]at this hjl;rw[this]at hjl;cases hjl
    ·exact hd) hrun
   obtain⟨s',⟨o',ho',ag,ah,es,ls⟩,hrest⟩:=hfront;rw[ho]at ho';injection ho' with ho';subst ho';refine ls s ag ah ι a w _ Q hsr (fun ι' a' w' hsr' ev=>?_);rw[<-es]at hsr' ev;refine ih (listed.setIfInBounds i true) s' ι' a' w' (by simpa using hs) ?_ ?_ (by rw[e2];exact hrest) hsr' (fun ι2 a2 w2 r2 ev2=>hq ι2 a2 w2 r2 (ev.trans ev2))
   ·intro k ok hok hk e he hb
    by_cases hki:k=i
    ·subst hki
     rw[ho]at hok;injection hok with hok;subst hok;exact getD_set_true (hall e he hb)
    ·rw[getD_set_ne false (Ne.symm hki)]at hk
     exact getD_set_true (hc k ok hok hk e he hb)
   ·rw[e2]
    rw[e1]at hl;simp at hl ⊢;omega
theorem QA:rem ops (Array.replicate ops.size false)=List.range ops.size:=by
 unfold rem;apply List.filter_eq_self.2;intro i hi;have:i<ops.size:=by simpa using hi
 simp [gy,this]
theorem WH {Q:Exit->St->Prop} {s s1:St} (hm:P.follows .mixedOrders=true) (hedge:∀(i:Nat) (o:Oper),ops[i]? =some o->∀e∈o.after,Region.binds .any e=true->e.on<i)
  (hind:∀i j,j<i->i<ops.size->(∃n,dep ops n i j=true)\/Indep ops D i j) (hrun:Run P ops D (List.range ops.size) s s1) (h:Q .normal s1):∀ι a w,SR s ι a w->∀t,wpOps P ops (Post s ι w Q) (Region.schedule (P.follows .mixedOrders) ops t) a {w with drawn:=w.drawn+1}:=by
 intro ι a w r t;simp only[Region.schedule,hm,Bool.true_or,if_true];refine wpAny_sound ops.size t _ a _ ?_;have hd:=r.heap.drawn (w.drawn+1);have r':SR s ι a {w with drawn:=w.drawn+1}:=⟨r.defers,r.slots.mono hd.2,hd.1⟩
 refine qBA (P:=P) (D:=D) (s1:=s1) hedge hind ops.size _ s ι a _ sm ?_ (by rw[QA];simp) (by rw[QA];exact hrun) r' ?_
 ·intro i o ho hl
  have hio:i<ops.size:=by
   rcases gu i ops.size with q|q
   ·exact q
   ·rw[gh q]at ho;cases ho
  simp [gy,hio]at hl
 ·intro ι' a' w' r1 ev
  exact⟨s1,ι',h,r1,hd.2.trans ev⟩
def aO:V->List Nat
 | .pO id _ _=>[id]
 | .sO id _ _=>[id]
 | .oL id _=>[id]
 |_=>[]
def foot (op:Op) (ρ:Operand->V):List Nat:=
 match op with
 | .load _ p=>aO (ρ p)
 | .store _ p _=>aO (ρ p)
 | .indexAddr _ x _=>aO (ρ x)
 | .slice _ x _ _ _=>aO (ρ x)
 | .convert _ _ x=>aO (ρ x)
 | .call c=>c.args.toList.flatMap fun x=>aO (ρ x)
 |_=>[]
end
inductive NI (n:Nat):V->Prop
 |v (x:Value):NI n (.v x)
 |any:NI n .any
 |pO {id:Nat} (row off:Nat):id<n->NI n (.pO id row off)
 |sO {id:Nat} (off len:Nat):id<n->NI n (.sO id off len)
 |pF {row:List V} (off:Nat):(∀x,x∈row->NI n x)->NI n (.pF row off)
 |sF (sz:Nat) {rows:List (List V)}:(∀r,r∈rows->∀x,x∈r->NI n x)->NI n (.sF sz rows)
 |agg {xs:List V}:(∀x,x∈xs->NI n x)->NI n (.agg xs)
 |tup {xs:List V}:(∀x,x∈xs->NI n x)->NI n (.tup xs)
 |fn {f:Fn} {a b:List V}:(∀x,x∈a->NI n x)->(∀x,x∈b->NI n x)->NI n (.fn f a b)
 |ifc {t:TypeId} {x:V}:NI n x->NI n (.ifc t x)
 |sL (t:Ty) (l:List t.den):NI n (.sL t l)
 |oL {id:Nat} (m:Nat):id<n->NI n (.oL id m)
def NIs (n:Nat) (xs:List V):Prop:=∀x,x∈xs->NI n x
def NIr (n:Nat) (rows:List (List V)):Prop:=∀r,r∈rows->NIs n r
theorem qD1 (n:Nat):NIs n []↔True:=⟨fun _=>trivial,fun _ x h=>by simp at h⟩
theorem yB (n:Nat) (x:V) (xs:List V):NIs n (x::xs)↔NI n x/\NIs n xs:=by simp [NIs]
theorem qSI {α:Type} (n:Nat) (f:α->List V) (l:List α) (h:∀x,NIs n (f x)):NIr n (l.map f)↔True:=by
 refine⟨fun _=>trivial,fun _ r hr=>?_⟩;obtain⟨x,_,rfl⟩:=List.mem_map.1 hr;exact h x
theorem Ty.nis (n:Nat):∀(t:Ty) (x:t.den) (r:List V),NIs n r->NIs n (t.cells x r)
 | .int _,_,_,h=>(yB n _ _).2 ⟨.v _,h⟩
 | .bool,_,_,h=>(yB n _ _).2 ⟨.v _,h⟩
 | .str,_,_,h=>(yB n _ _).2 ⟨.v _,h⟩
 | .list t,l,_,h=>(yB n _ _).2 ⟨.sL t l,h⟩
 | .pair a b,x,r,h=>a.nis n x.1 _ (b.nis n x.2 r h)
theorem Ty.nir (n:Nat) (t:Ty) (l:List t.den):NIr n (l.map t.row):=(qSI n t.row l fun x=>t.nis n x [] ((qD1 n).2 trivial)).2 trivial
theorem Rep.free {w:World} {M M':Nat->Prop} {ι1 ι2:Iota} (hM:∀b,M' b->M b):∀ {x:V} {y:Value},Rep w ι1 M x y->NI 0 x->Rep w ι2 M' x y:=by
 intro x y r;induction r with
 |v x=>intro _;exact .v x
 |any x=>intro _;exact .any x
 |pF row off b o cells hb hm hc _ ih=>intro h;cases h with|pF _ h=>exact .pF row off b o cells hb (fun q=>hm (hM _ q)) hc (fun j hj=>ih j hj (h _ (gi hj)))
 |pO id row off l hl=>intro h;cases h with|pO _ _ h=>omega
 |sF sz rows a cap cells hb hcap hr hc _ ih=>intro h;cases h with|sF _ h=>exact .sF sz rows a cap cells (fun hne=>⟨(hb hne).1,(hb hne).2.1,fun q=>(hb hne).2.2 (hM _ q)⟩) hcap hr hc (fun i hi j hj=>ih i hi j hj (h _ (gi hi) _ (gi hj)))
 |sN sz=>intro _;exact .sN sz
 |sO id off len cap l c e fr hl hcap hb hs=>intro h;cases h with|sO _ _ h=>omega
 |agg xs vs hl _ ih=>intro h;cases h with|agg h=>exact .agg xs vs hl (fun i h1 h2=>ih i h1 h2 (h _ (gi h1)))
 |tup xs vs hl _ ih=>intro h;cases h with|tup h=>exact .tup xs vs hl (fun i h1 h2=>ih i h1 h2 (h _ (gi h1)))
 |fn f a b vs us h1 h2 _ _ ih1 ih2=>intro h;cases h with|fn ha hb=>exact .fn f a b vs us h1 h2 (fun i q1 q2=>ih1 i q1 q2 (ha _ (gi q1))) (fun i q1 q2=>ih2 i q1 q2 (hb _ (gi q1)))
 |ifc t x y _ ih=>intro h;cases h with|ifc h=>exact .ifc t x y (ih h)
 |sL t l y _ ih=>intro _;exact .sL t l y (ih (.sF _ (t.nir 0 l)))
 |oL id m y _ ih=>intro h;cases h with|oL _ h=>omega
structure Conv (τ:Nat->Option Nat) (h:Heap) (w:World) (ι:Iota) (M:Nat->Prop) (ι₂:Iota) (M₂:Nat->Prop):Prop where
 keep:∀id j l,τ id=some j->ι id=some l->ι₂ j=some l
 wide:∀b,¬M b->¬M₂ b
 live:∀id o,τ id=none->h[id]? =some (.live o)->∃l c fr,ι id=some l/\LiveAt w ι M o l c fr/\l.blk<w.heap.size/\¬M₂ l.blk
def Frz (τ:Nat->Option Nat) (h:Heap) (x x0:V):Prop:=
 ∀ {w:World} {ι:Iota} {M:Nat->Prop} {ι₂:Iota} {M₂:Nat->Prop},Conv τ h w ι M ι₂ M₂->∀ {y:Value},Rep w ι M x y->Rep w ι₂ M₂ x0 y
def Frzs (τ:Nat->Option Nat) (h:Heap) (xs ys:List V):Prop:=xs.length=ys.length/\∀(i:Nat) (x y:V),xs[i]? =some x->ys[i]? =some y->Frz τ h x y
structure FrzO (τ:Nat->Option Nat) (h:Heap) (o o':AObj):Prop where
 sz:o'.sz=o.sz
 elem:o'.elem=o.elem
 len:o'.rows.length=o.rows.length
 rows:∀(i:Nat) (r r':List V),o.rows[i]? =some r->o'.rows[i]? =some r'->Frzs τ h r r'
theorem Frz.tree {τ:Nat->Option Nat} {h:Heap} {x:V} (hx:NI 0 x):Frz τ h x x:=fun{_ _ M _ M₂} cv {_} r=>
 r.free (M:=M) (M':=M₂) (fun b hb=>Classical.byContradiction fun q=>cv.wide b q hb) hx
theorem Frzs.tree {τ:Nat->Option Nat} {h:Heap} {xs:List V} (hx:NIs 0 xs):Frzs τ h xs xs:=
 ⟨rfl,fun i x y h1 h2=>by rw[h1]at h2;injection h2 with h2;subst h2;exact Frz.tree (hx x (cD h1))⟩
theorem FrzO.tree {τ:Nat->Option Nat} {h:Heap} {o:AObj} (ho:NIr 0 o.rows):FrzO τ h o o:=
 ⟨rfl,rfl,rfl,fun i r r' h1 h2=>by rw[h1]at h2;injection h2 with h2;subst h2;exact Frzs.tree (ho r (cD h1))⟩
theorem LiveAt.conv {τ h w ι M ι₂ M₂} (cv:Conv τ h w ι M ι₂ M₂) {o o':AObj} {l:Loc} {c:Array Value} {fr:Nat×Nat} (la:LiveAt w ι M o l c fr)
  (hf:FrzO τ h o o'):LiveAt w ι₂ M₂ o' l c fr:=by
 have get:∀(i:Nat) (r':List V),o'.rows[i]? =some r'->∃r,o.rows[i]? =some r/\Frzs τ h r r':=by
  intro i r' hr';have hi:i<o.rows.length:=by rw[<-hf.len];exact aI hr'
  exact⟨_,ga hi,hf.rows i _ _ (ga hi) hr'⟩
 refine⟨by rw[hf.elem];exact la.blk,by rw[hf.elem,hf.sz];exact la.unfrozen,by rw[hf.sz];exact la.sz,fun r' hr'=>?_,by rw[hf.sz,hf.len];exact la.fits,?_⟩
 ·obtain⟨i,hi,e⟩:=gr hr'
  obtain⟨r,h1,h2⟩:=get i r' (by rw[ga hi,e]);rw[<-h2.1,hf.sz];exact la.rows r (cD h1)
 refine fJ (rows:=o'.rows) (p:=fun i j x=>∃y,c[l.base+i*o'.sz+j]? =some y/\Rep w ι₂ M₂ x y) (fun i j r' x' hi hj=>?_);obtain⟨r,h1,h2⟩:=get i r' hi;have hjr:j<r.length:=by rw[h2.1];exact aI hj
 obtain⟨_,_,u,u1,u2⟩:=la.get h1 (ga hjr);exact⟨u,by rw[hf.sz];exact u1,h2.2 j _ _ (ga hjr) hj cv u2⟩
def zO:Nat->Option Nat:=fun _=>none
theorem PC.frame {P:Program} {f:FuncId} {args:List V} {x0:V} (hargs:NIs 0 args) (hc:PC P f args [] (fun x h'=>Frz zO h' x x0)) (k:Heap) :
  PC P f args k (fun x k'=>x=x0/\k'=k):=by
 intro ι w vals hp H;have hlt:∀b,Mt k ι b->b<w.heap.size:=by
  rintro b (q|q)
  ·exact H.xlt b q
  ·exact H.blk_lt q
 let ι0:Iota:={at':=fun _=>none,X:=Mt k ι}
 have H0:HRel [] ι0 w:=⟨fun id o h=>by simp at h,fun id h=>by simp at h,fun id _=>rfl,fun id o l id' o' l' h=>by simp at h,hlt,fun b _ ⟨id,o,l,q,_⟩=>by simp at q⟩
 have cv0:Conv zO [] w ι (Mt k ι) ι0 (Mt [] ι0):=⟨fun id j l h=>by simp [zO]at h,fun b hb q=>by
  rcases q with q|⟨id,o,l,q,_⟩
  ·exact hb q
  ·simp at q,fun id o _ h=>by simp at h⟩
 have hp0:PW2 w ι0 (Mt [] ι0) args vals:=by
  refine⟨hp.1,fun i x hx=>?_⟩;obtain⟨y,y1,y2⟩:=hp.2 i x hx;exact⟨y,y1,Frz.tree (hargs x (cD hx)) cv0 y2⟩
 refine(hc ι0 w vals hp0 H0).mono ?_;rintro e w' ⟨y,x,h',ι',rfl,hm,ry,H',ev⟩;have hob0:∀b,¬Ob [] ι0 b:=by rintro b ⟨id,o,l,q,_⟩;simp at q
 have ev':Evolve k ι w k ι w':=⟨ev.os,ev.tape,ev.output,ev.size,fun _ _ q=>q,rfl,fun b hb q=>⟨(ev.frame b hb (hob0 b)).1,q⟩,ev.sizes⟩
 refine⟨y,x0,k,ι,rfl,⟨rfl,rfl⟩,?_,?_,ev'⟩
 ·refine hm (ι:=ι') (M:=Mt h' ι') ⟨fun id j l h=>by simp [zO]at h,fun b hb q=>hb (.inl ?_),fun id o _ ho=>?_⟩ ry
  ·rw[ev.away];exact q
  ·obtain⟨l,c,fr,h1,la⟩:=H'.live id o ho
   refine⟨l,c,fr,h1,la,H'.blk_lt ⟨id,o,l,ho,h1,rfl⟩,fun q=>?_⟩;exact(ev.frame l.blk (hlt _ q) (hob0 _)).2 ⟨id,o,l,ho,h1,rfl⟩
 ·refine⟨fun id o ho=>?_,H.free,H.out,H.apart,fun b hb=>ku (H.xlt b hb) ev.size,H.xob⟩
  obtain⟨l,c,fr,h1,la⟩:=H.live id o ho;have hb:=H.blk_lt ⟨id,o,l,ho,h1,rfl⟩;exact⟨l,c,fr,h1,⟨((ev.frame _ hb (hob0 _)).1).trans la.blk,la.unfrozen,la.sz,la.rows,la.fits,fun i hi j hj=>let ⟨u,u1,u2⟩:=la.reads i hi j hj;⟨u,u1,u2.mono ev'⟩⟩⟩
def down (S:List Nat):Nat->Option Nat:=fun id=>S.idxOf? id
def up (S:List Nat):Nat->Option Nat:=fun i=>S[i]?
theorem qJ7 {S:List Nat} {id j:Nat} (h:down S id=some j):S[j]? =some id:=by
 unfold down at h;rw[List.idxOf?_eq_some_iff]at h;obtain⟨h1,h2,_⟩:=h;rw[ga h1];simpa using h2
theorem EI {id:Nat} {c:HS}:∀(l:List (Nat×HS)) (h:Heap),(l.map (·.1)).Nodup->(id,c)∈l->id<h.length->(bB h l)[id]? =some c
 | [],_,_,hm,_=>by cases hm
 |p::r,h,hn,hm,hl=>by
  simp only[List.map_cons,List.nodup_cons]at hn;rw[bB];rcases kq.1 hm with q|q
  ·subst q
   rw[fF r _ (fun x hx e=>hn.1 (by have:=gf (f:=Prod.fst) hx;rw[e]at this;exact this))];rw[kj hl]
  ·exact EI r _ hn.2 q (by simpa using hl)
theorem PC.lift {P:Program} {f:FuncId} {args args0:List V} {x0:V} {S:List Nat} {h0:Heap} {post:List AObj} {k:Heap} (hS:S.Nodup) (hlen:h0.length=S.length) (hpl:post.length=S.length)
  (hk:∀(i id:Nat),S[i]? =some id->∃o c,k[id]? =some (.live o)/\h0[i]? =some (.live c)/\FrzO (down S) [] o c)
  (hargs:Frzs (down S) [] args args0)
  (hc:PC P f args0 h0 (fun x h'=>Frz (up S) h' x x0/\∀(i:Nat) (c:AObj),post[i]? =some c->∃c0,h'[i]? =some (.live c0)/\FrzO (up S) h' c0 c)) :
  PC P f args k (fun x k'=>x=x0/\k'=bB k (S.zip (post.map .live))):=by
 intro ι w vals hp H;have Slt:∀(i id:Nat),S[i]? =some id->id<k.length:=fun i id h=>by obtain⟨o,c,h1,_⟩:=hk i id h;exact aI h1
 let ι0:Iota:={at':=fun i=>match S[i]? with|some id=>ι id|none=>none,X:=fun b=>ι.X b\/∃id o l,id ∉ S/\k[id]? =some (.live o)/\ι id=some l/\l.blk=b}
 have at0:∀(i id:Nat),S[i]? =some id->ι0 i=ι id:=by intro i id h;show(match S[i]? with|some id=>ι id|none=>none)=_;rw[h]
 have live0:∀(i:Nat) (o':AObj),h0[i]? =some (.live o')->∃(id:Nat) (o:AObj),S[i]? =some id/\k[id]? =some (.live o)/\FrzO (down S) [] o o':=by
  intro i o' h;have hi:i<S.length:=by rw[<-hlen];exact aI h
  obtain⟨o,c,h1,h2,h3⟩:=hk i S[i] (ga hi);rw[h]at h2;injection h2 with h2;injection h2 with h2;subst h2;exact⟨_,o,ga hi,h1,h3⟩
 have ob0:∀(b:Nat),Ob h0 ι0 b->∃(i id:Nat) (o:AObj) (l:Loc),S[i]? =some id/\k[id]? =some (.live o)/\ι id=some l/\l.blk=b:=by
  rintro b ⟨i,o',l,h1,h2,h3⟩;obtain⟨id,o,e1,e2,_⟩:=live0 i o' h1;rw[at0 i id e1]at h2;exact⟨i,id,o,l,e1,e2,h2,h3⟩
 have ob0':∀(i id:Nat) (o:AObj) (l:Loc),S[i]? =some id->k[id]? =some (.live o)->ι id=some l->Ob h0 ι0 l.blk:=by
  intro i id o l h1 h2 h3;obtain⟨o2,c,e1,e2,e3⟩:=hk i id h1;exact⟨i,c,l,e2,by rw[at0 i id h1];exact h3,rfl⟩
 have mt0:∀b,Mt h0 ι0 b↔Mt k ι b:=by
  intro b;constructor
  ·rintro((q|⟨id,o,l,_,h1,h2,h3⟩)|q)
   ·exact .inl q
   ·exact .inr ⟨id,o,l,h1,h2,h3⟩
   ·obtain⟨i,id,o,l,_,h1,h2,h3⟩:=ob0 b q
    exact .inr ⟨id,o,l,h1,h2,h3⟩
  ·rintro(q|⟨id,o,l,h1,h2,h3⟩)
   ·exact .inl (.inl q)
   ·by_cases hid:id∈S
    ·obtain⟨i,hi,e⟩:=gr hid
     have:=ob0' i id o l (by rw[ga hi,e]) h1 h2;rw[h3]at this;exact .inr this
    ·exact .inl (.inr ⟨id,o,l,hid,h1,h2,h3⟩)
 have cvd:Conv (down S) [] w ι (Mt k ι) ι0 (Mt h0 ι0):=⟨fun id j l h1 h2=>by rw[at0 j id (qJ7 h1)];exact h2,fun b hb q=>hb ((mt0 b).1 q),fun id o _ h=>by simp at h⟩
 have idx:∀(i j id:Nat),S[i]? =some id->S[j]? =some id->i=j:=by
  intro i j id h1 h2;have hi:=aI h1;have hj:=aI h2;rw[ga hi]at h1;injection h1 with h1;rw[ga hj]at h2;injection h2 with h2;have hpw:=List.pairwise_iff_getElem.1 hS;rcases Nat.lt_trichotomy i j with q|q|q
  ·exact absurd (h1.trans h2.symm) (hpw i j hi hj q)
  ·exact q
  ·exact absurd (h2.trans h1.symm) (hpw j i hj hi q)
 have x0ob:∀b,ι0.X b->¬Ob h0 ι0 b:=by
  rintro b (q|⟨id,o,l,hid,h1,h2,h3⟩) hob
  ·obtain⟨i,id,o,l,_,h1,h2,h3⟩:=ob0 b hob
   exact H.xob b q ⟨id,o,l,h1,h2,h3⟩
  ·obtain⟨i,id',o',l',g0,g1,g2,g3⟩:=ob0 b hob
   have:=H.apart id o l id' o' l' h1 h2 g1 g2 (h3.trans g3.symm);subst this;exact hid (cD g0)
 have H0:HRel h0 ι0 w:=by
  refine⟨fun i o' h=>?_,fun i h=>?_,fun i h=>?_,fun i o l i' o' l' h1 h2 h3 h4 h5=>?_,fun b hb=>?_,x0ob⟩
  ·obtain⟨id,o,e1,e2,e3⟩:=live0 i o' h
   obtain⟨l,c,fr,g1,la⟩:=H.live id o e2;exact⟨l,c,fr,by rw[at0 i id e1];exact g1,la.conv cvd e3⟩
  ·exfalso
   have hi:i<S.length:=by rw[<-hlen];exact aI h
   obtain⟨o,c,h1,h2,h3⟩:=hk i S[i] (ga hi);rw[h]at h2;cases h2
  ·show(match S[i]? with|some id=>ι id|none=>none)=none
   rw[List.getElem?_eq_none om]
  ·obtain⟨id,q,e1,e2,_⟩:=live0 i o h1
   obtain⟨id',q',e1',e2',_⟩:=live0 i' o' h3;rw[at0 i id e1]at h2;rw[at0 i' id' e1']at h4;have:=H.apart id q l id' q' l' e2 h2 e2' h4 h5;subst this;exact idx i i' id e1 e1'
  ·rcases hb with q|⟨id,o,l,_,h1,h2,h3⟩
   ·exact H.xlt b q
   ·exact H.blk_lt ⟨id,o,l,h1,h2,h3⟩
 have hp0:PW2 w ι0 (Mt h0 ι0) args0 vals:=by
  obtain⟨l1,l2⟩:=hargs;refine⟨by rw[<-l1];exact hp.1,fun i x hx=>?_⟩;have hi:i<args.length:=by rw[l1];exact aI hx
  obtain⟨y,y1,y2⟩:=hp.2 i _ (ga hi);exact⟨y,y1,l2 i _ _ (ga hi) hx cvd y2⟩
 refine(hc ι0 w vals hp0 H0).mono ?_;rintro e w' ⟨y,x,h',ι',rfl,⟨hm,hpost0⟩,ry,H',ev⟩;have hpl':(post.map HS.live).length=S.length:=by simpa using hpl
 have hpost:∀(i:Nat) (c:HS),(post.map HS.live)[i]? =some c->∃c0 c1,c = .live c1/\h'[i]? =some (.live c0)/\FrzO (up S) h' c0 c1:=by
  intro i c hc;rw[kh]at hc;cases hp:post[i]? with
  |none=>rw[hp]at hc;simp at hc
  |some o=>rw[hp]at hc;simp at hc;subst hc;obtain⟨c0,q1,q2⟩:=hpost0 i o hp;exact⟨c0,o,rfl,q1,q2⟩
 have zmap:(S.zip (post.map HS.live)).map (·.1)=S:=by rw[List.map_fst_zip];omega
 have getS:∀(i id:Nat) (c:HS),S[i]? =some id->(post.map HS.live)[i]? =some c->(bB k (S.zip (post.map HS.live)))[id]? =some c:=by
  intro i id c h1 h2;refine EI _ _ (by rw[zmap];exact hS) ?_ (Slt i id h1);have:(S.zip (post.map HS.live))[i]? =some (id,c):=by rw[List.getElem?_zip_eq_some];exact⟨h1,h2⟩
  exact cD this
 have getO:∀(id:Nat),id ∉ S->(bB k (S.zip (post.map HS.live)))[id]? =k[id]?:=by
  intro id hid;refine fF _ _ (fun p hp e=>hid ?_);rw[<-e,<-zmap];exact gf hp
 have liveK:∀(id:Nat) (o':AObj),(bB k (S.zip (post.map HS.live)))[id]? =some (.live o')->(id ∉ S/\k[id]? =some (.live o')) \/
   ∃(i:Nat) (o:AObj) (l:Loc),S[i]? =some id/\h'[i]? =some (.live o)/\FrzO (up S) h' o o'/\ι id=some l/\ι' i=some l/\∃o2,k[id]? =some (.live o2):=by
  intro id o' h;by_cases hid:id∈S
  ·right
   obtain⟨i,hi,e⟩:=gr hid;have hSi:S[i]? =some id:=by rw[ga hi,e]
   have hpi:(post.map HS.live)[i]? =some (post.map HS.live)[i]:=ga om;rw[getS i id _ hSi hpi]at h;injection h with h;obtain⟨o,c1,g0,g1,g3⟩:=hpost i _ hpi;rw[h]at g0;injection g0 with g0;subst g0;obtain⟨o2,c,f1,f2,f3⟩:=hk i id hSi;obtain⟨l,cc,fr,p1,p2⟩:=H.live id o2 f1;exact⟨i,o,l,hSi,g1,g3,p1,ev.iota i l (by rw[at0 i id hSi];exact p1),o2,f1⟩
  ·left
   rw[getO id hid]at h;exact⟨hid,h⟩
 have obK:∀b,Ob (bB k (S.zip (post.map HS.live))) ι b->Ob k ι b/\(ι'.X b\/Ob h' ι' b):=by
  rintro b ⟨id,o',l,h1,h2,h3⟩;rcases liveK id o' h1 with⟨q1,q2⟩|⟨i,o,l2,q1,q2,_,q3,q4,o2,q5⟩
  ·exact⟨⟨id,o',l,q2,h2,h3⟩,.inl (by rw[ev.away];exact .inr ⟨id,o',l,q1,q2,h2,h3⟩)⟩
  ·rw[h2]at q3;injection q3 with q3;subst q3
   exact⟨⟨id,o2,l,q5,h2,h3⟩,.inr ⟨i,o,l,q2,q4,h3⟩⟩
 have evk:Evolve k ι w (bB k (S.zip (post.map HS.live))) ι w':=by
  refine⟨ev.os,ev.tape,ev.output,ev.size,fun _ _ q=>q,rfl,fun b hb q=>⟨(ev.frame b hb (fun z=>q ?_)).1,fun z=>q (obK b z).1⟩,ev.sizes⟩;obtain⟨i,id,o,l,_,h1,h2,h3⟩:=ob0 b z;exact⟨id,o,l,h1,h2,h3⟩
 have cvu:Conv (up S) h' w' ι' (Mt h' ι') ι (Mt (bB k (S.zip (post.map HS.live))) ι):=by
  refine⟨fun i id l h1 h2=>?_,fun b hb q=>hb ?_,fun i o hi ho=>?_⟩
  ·obtain⟨o2,c,f1,_⟩:=hk i id h1
   obtain⟨l2,cc,fr,p1,p2⟩:=H.live id o2 f1;have:=ev.iota i l2 (by rw[at0 i id h1];exact p1);rw[h2]at this;injection this with this;rw[this];exact p1
  ·rcases q with q|q
   ·exact .inl (by rw[ev.away];exact .inl q)
   ·exact(obK b q).2
  ·obtain⟨l,c,fr,g1,la⟩:=H'.live i o ho
   refine⟨l,c,fr,g1,la,H'.blk_lt ⟨i,o,l,ho,g1,rfl⟩,fun q=>?_⟩;have hob:Ob h' ι' l.blk:=⟨i,o,l,ho,g1,rfl⟩
   rcases q with q|q
   ·exact H'.xob l.blk (by rw[ev.away];exact .inl q) hob
   ·obtain⟨id,o',l',h1,h2,h3⟩:=q
    rcases liveK id o' h1 with⟨q1,q2⟩|⟨j,o3,l2,q1,q2,_,q3,q4,_⟩
    ·exact H'.xob l.blk (by rw[ev.away];exact .inr ⟨id,o',l',q1,q2,h2,h3⟩) hob
    ·rw[h2]at q3;injection q3 with q3;subst q3
     have:=H'.apart i o l j o3 l' ho g1 q2 q4 h3.symm;subst this;have:up S i=some id:=q1;rw[hi]at this;cases this
 refine⟨y,x0,_,ι,rfl,⟨rfl,rfl⟩,hm cvu ry,?_,evk⟩;refine⟨fun id o' ho=>?_,fun id hid=>?_,fun id hid=>H.out id (by rw[jE]at hid;exact hid),fun id o l id' o' l' h1 h2 h3 h4 h5=>?_,fun b hb=>ku (H.xlt b hb) ev.size,fun b hb q=>H.xob b hb (obK b q).1⟩
 ·rcases liveK id o' ho with⟨q1,q2⟩|⟨i,o,l,q1,q2,q3,q6,q7,_⟩
  ·obtain⟨l,c,fr,g1,la⟩:=H.live id o' q2
   have hb:=H.blk_lt ⟨id,o',l,q2,g1,rfl⟩;have hno:¬Ob h0 ι0 l.blk:=x0ob l.blk (.inr ⟨id,o',l,q1,q2,g1,rfl⟩);exact⟨l,c,fr,g1,⟨((ev.frame _ hb hno).1).trans la.blk,la.unfrozen,la.sz,la.rows,la.fits,fun i hi j hj=>let ⟨u,u1,u2⟩:=la.reads i hi j hj;⟨u,u1,u2.mono evk⟩⟩⟩
  ·obtain⟨l2,c,fr,g1,la⟩:=H'.live i o q2
   rw[q7]at g1;injection g1 with g1;subst g1;exact⟨l,c,fr,q6,la.conv cvu q3⟩
 ·by_cases hid':id∈S
  ·exfalso
   obtain⟨i,hi,e⟩:=gr hid';have hSi:S[i]? =some id:=by rw[ga hi,e]
   have hpi:(post.map HS.live)[i]? =some (post.map HS.live)[i]:=ga om;rw[getS i id _ hSi hpi]at hid;injection hid with hid;obtain⟨c0,c1,g1,_,_⟩:=hpost i _ hpi;rw[hid]at g1;cases g1
  ·rw[getO id hid']at hid
   exact H.free id hid
 ·have f:∀(a:Nat) (b:AObj),(bB k (S.zip (post.map HS.live)))[a]? =some (.live b)->∃b',k[a]? =some (.live b'):=by
    intro a b hab;rcases liveK a b hab with⟨_,q2⟩|⟨i,o,l,_,_,_,_,_,o2,q5⟩
    ·exact⟨b,q2⟩
    ·exact⟨o2,q5⟩
  obtain⟨b1,c1⟩:=f _ _ h1;obtain⟨b2,c2⟩:=f _ _ h3;exact H.apart id b1 l id' b2 l' c1 h2 c2 h4 h5
def wids (op:Op) (ρ:Operand->V) (new:Nat):List Nat:=
 match op with
 | .store _ p _=>aO (ρ p)
 | .alloc _=>[new]
 | .box _ _=>[new]
 | .buildSlice _ _ _=>[new]
 | .makeSlice _ _ _=>[new]
 | .convert _ _ _=>[new]
 | .call c=>match c.callee with
   | .builtin .append=>((c.args.toList.take 1).flatMap fun x=>aO (ρ x))++ [new]
   | .builtin .clear=>c.args.toList.flatMap fun x=>aO (ρ x)
   | .builtin .copy=>c.args.toList.flatMap fun x=>aO (ρ x)
   |_=>[]
 |_=>[]
def Neut (r:Heap->Option (V×Heap)):Prop:=∀h x h',r h=some (x,h')->∀k,r k=some (x,k)
def Loc' (r:Heap->Option (V×Heap)) (ids ws:List Nat) (new:Nat):Prop:=
 ∀h x h',r h=some (x,h')->new<h.length->∃post:List (Nat×HS),(∀p,p∈post->p.1∈ws)/\∀k:Heap,(∀id,id∈ids++ [new]->k[id]? =h[id]?)->r k=some (x,bB k post)
theorem Neut.loc {r:Heap->Option (V×Heap)} (n:Neut r) (ids ws:List Nat) (new:Nat):Loc' r ids ws new:=
 fun h x h' e _=>⟨[],sm,fun k _=>n h x h' e k⟩
theorem lI {h:Heap} {new:Nat} {o:AObj} {h':Heap} (e:halloc h new o=some h') (hl:new<h.length) {k:Heap} (hk:k[new]? =h[new]?) :
  halloc k new o=some (k.set new (.live o)):=by
 unfold halloc at e ⊢;rw[hk];rw[ga hl]at e ⊢;split at e
 ·rename_i q;cases q
 ·first|rfl|(rename_i q;rw[q])
 ·cases e
theorem Loc'.alloc {f:Option (AObj×V)} {new:Nat} {ids:List Nat} {r:Heap->Option (V×Heap)}
  (hr:∀h,r h=match f with|some (o,x)=>(match halloc h new o with|some h'=>some (x,h')|none=>none)|none=>none):Loc' r ids [new] new:=by
 intro h x h' e hl;rw[hr]at e;cases f with
 |none=>cases e
 |some p=>
  obtain⟨o,y⟩:=p;(try simp only at e);split at e
  ·rename_i h1 h2
   injection e with e;injection e with e1 e2;subst e1;refine⟨[(new,.live o)],sm,fun k hk=>?_⟩;rw[hr];simp only[lI h2 hl (hk new sm)];rfl
  ·cases e
theorem qD7 {new:Nat} {elem:TypeId} {x:V} {ids:List Nat}:Loc' (fun h=>UJ h new elem x) ids [new] new:=
 Loc'.alloc (f:=match leaves x with|some ls=>some (⟨ls.length,[ls],elem⟩,.pO new 0 0)|none=>none) (fun h=>by
  unfold UJ;cases leaves x<;>rfl)
theorem qJE {P:Program} {new:Nat} {elem:TypeId} {ids:List Nat}:Loc' (fun h=>xI P h new elem) ids [new] new:=by
 intro h x h' e hl;simp only[xI]at e;split at e
 ·rename_i z hz
  obtain⟨post,h1,h2⟩:=qD7 (new:=new) (elem:=elem) (x:=z) (ids:=ids) h x h' e hl;exact⟨post,h1,fun k hk=>by simp only[xI,hz];exact h2 k hk⟩
 ·cases e
theorem qAS {new:Nat} {elem:TypeId} {b:ByteArray} {ids:List Nat}:Loc' (fun h=>pR h new elem b) ids [new] new:=
 Loc'.alloc (f:=some (⟨1,b.data.toList.map kH,elem⟩,.sO new 0 b.size)) (fun h=>by unfold pR;rfl)
theorem GO {P:Program} {new:Nat} {t:TypeId} {len:Nat} {ps:List (Nat×V)} {ids:List Nat}:Loc' (fun h=>gR P h new t len ps) ids [new] new:=by
 intro h x h' e hl;simp only[gR]at e;split at e
 ·rename_i elem hu
  split at e
  ·rename_i size zs hs hz
   split at e
   ·rename_i hc
    split at e
    ·rename_i ls hf
     split at e
     ·rename_i h1 h2
      injection e with e;injection e with e1 e2;subst e1;refine⟨[(new,.live ⟨size,chunk size len ls,elem⟩)],sm,fun k hk=>?_⟩;simp only[gR,hu,hs,hz,hc,and_self,if_true,hf,lI h2 hl (hk new sm)];rfl
     ·cases e
    ·cases e
   ·cases e
  ·cases e
 ·cases e
theorem LL {P:Program} {new:Nat} {t:TypeId} {l c:V} {ids:List Nat}:Loc' (fun h=>dP P h new t l c) ids [new] new:=by
 intro h x h' e hl;simp only[dP]at e;split at e
 ·rename_i elem n m hu hn hm
  split at e
  ·rename_i size zs b hs hz hb
   split at e
   ·rename_i hc
    split at e
    ·rename_i h1 h2
     injection e with e;injection e with e1 e2;subst e1;refine⟨[(new,.live ⟨size,gj n.toNat zs,elem⟩)],sm,fun k hk=>?_⟩;simp only[dP,hu,hn,hm,hs,hz,hb];rw[if_pos hc];simp only[lI h2 hl (hk new sm)];rfl
    ·cases e
   ·cases e
  ·cases e
 ·cases e
theorem YX {h k:Heap} {p:V} (hk:∀id,id∈aO p->k[id]? =h[id]?):rowAt k p=rowAt h p:=by
 cases p<;>simp only[rowAt]
 rename_i id r off;rw[hk id (by simp [aO])]
theorem qPE {P:Program} {t:TypeId} {p:V} {new:Nat}:Loc' (fun h=>qQ P h t p) (aO p) [] new:=by
 intro h x h' e _;refine⟨[],sm,fun k hk=>?_⟩;have hr:=YX (h:=h) (k:=k) (p:=p) (fun id hid=>hk id (ge _ hid));simp only[qQ]at e ⊢;rw[hr];split at e
 ·rename_i row off hrow
  split at e
  ·rename_i y hy
   injection e with e;injection e with e1 e2;subst e1;first|rfl|(simp only[hy];rfl)
  ·cases e
 ·cases e
theorem qLU {P:Program} {t:TypeId} {p x:V} {new:Nat}:Loc' (fun h=>nZ P h t p x) (aO p) (aO p) new:=by
 intro h y h' e _;simp only[nZ]at e;split at e
 ·rename_i id r off ls n hls hn
  split at e
  ·rename_i hc
   split at e
   ·rename_i o ho
    split at e
    ·rename_i row hrow
     split at e
     ·rename_i hfit
      injection e with e;injection e with e1 e2;subst e1;refine⟨[(id,.live {o with rows:=o.rows.set r (row.take off++ls++row.drop (off+n))})],by simp [aO],fun k hk=>?_⟩;have hk':=hk id (by simp [aO]);simp only[nZ,hls,hn];rw[if_pos hc,hk',ho];simp only[hrow];rw[if_pos hfit];rfl
     ·cases e
    ·cases e
   ·cases e
  ·cases e
 ·cases e
theorem LJ {P:Program} {t:TypeId} {x i:V} {new:Nat}:Loc' (fun h=>cC P h t x i) (aO x) [] new:=by
 intro h y h' e _;refine⟨[],sm,fun k hk=>?_⟩;simp only[bB];cases x with
 |sO id off len=>
  have hk':=hk id (by simp [aO]);simp only[cC,hk']at e ⊢;(repeat' split at e)<;>simp_all
 |_=>
  simp only[cC]at e ⊢;(repeat' split at e)<;>simp_all
theorem qLS {P:Program} {t:TypeId} {x:V} {lo hi:Option V} {new:Nat}:Loc' (fun h=>fG P h t x lo hi) (aO x) [] new:=by
 intro h y h' e _;refine⟨[],sm,fun k hk=>?_⟩;simp only[bB];cases x with
 |sO id off len=>
  have hk':=hk id (by simp [aO]);have:fG P k t (.sO id off len) lo hi=(fG P h t (.sO id off len) lo hi).map fun p=>(p.1,k):=by
   simp only[fG,hk'];(repeat' split)<;>simp_all
  show fG P k t (.sO id off len) lo hi=_;have e':fG P h t (.sO id off len) lo hi=some (y,h'):=e;rw[this,e'];rfl
 |_=>
  simp only[fG]at e ⊢;(repeat' split at e)<;>simp_all
theorem tE {h k:Heap} {s:Nat} {y:V} (hk:∀id,id∈aO y->k[id]? =h[id]?):cM k s y=cM h s y:=by
 cases y with
 |sO id off len=>simp only[cM];rw[hk id (by simp [aO])]
 |v q=>cases q<;>(unfold cM;first|rfl|((repeat' split)<;>simp_all))
 |_=>rfl
theorem UA {x:V} {new:Nat}:Loc' (fun h=>dJ h x) (aO x) [] new:=by
 intro h y h' e _;refine⟨[],sm,fun k hk=>?_⟩;have hr:=tE (h:=h) (k:=k) (s:=1) (y:=x) (fun id hid=>hk id (ge _ hid));simp only[bB];simp only[dJ]at e ⊢;rw[hr];(repeat' split at e)<;>simp_all
theorem qBB {P:Program} {tys:Array TypeId} {x y:V} {new:Nat}:Loc' (fun h=>fP P h new tys x y) (aO x++aO y) (aO x++ [new]) new:=by
 intro h z h' e hl;simp only[fP]at e;split at e
 ·rename_i sT xT hs hx
  split at e
  ·rename_i elem hu
   split at e
   ·rename_i hxx
    simp only[nK]at e;split at e
    ·rename_i s b zs h1 h2 h3
     split at e
     ·rename_i rows hrows
      have hrk:∀k:Heap,(∀id,id∈aO x++aO y++ [new]->k[id]? =h[id]?)->fP P k new tys x y=bX P k new elem s b zs x rows:=by
       intro k hk;have:=tE (h:=h) (k:=k) (s:=s) (y:=y) (fun id hid=>hk id (by simp [hid]));simp only[fP,hs,hx,hu,hxx,if_true,nK,h1,h2,h3,this,hrows]
      simp only[bX]at e;split at e
      ·rename_i hem
       refine⟨[],sm,fun k hk=>?_⟩;show fP P k new tys _ y=_;rw[hrk k hk];simp only[bX,bB];(repeat' split at e)<;>simp_all
      ·rename_i hem
       split at e
       ·rename_i hc
        split at e
        ·rename_i q
         split at e
         ·rename_i hq
          split at e
          ·rename_i h4 h5
           injection e with e;injection e with e1 e2;subst e1;refine⟨[(new,.live ⟨s,rows,⟨elem,1⟩⟩)],sm,fun k hk=>?_⟩;show fP P k new tys _ y=_;rw[hrk k hk];simp only[bX];rw[if_neg hem,if_pos hc];rw[if_pos hq];simp only[lI h5 hl (hk new sm)];rfl
          ·cases e
         ·cases e
        ·rename_i id off len
         split at e
         ·rename_i o ho
          split at e
          ·rename_i hq
           split at e
           ·rename_i h4 h5
            injection e with e;injection e with e1 e2;subst e1;refine⟨[(id,.dead),(new,.live ⟨s,(o.rows.drop off).take len++rows,o.elem⟩)],by simp [aO],fun k hk=>?_⟩;have hid:=hk id (by simp [aO]);have hnew:=hk new sm;show fP P k new tys _ y=_;rw[hrk k hk];simp only[bX];rw[if_neg hem,if_pos hc];simp only[hid,ho];rw[if_pos hq];have hne:id≠new:=by
             intro q;subst q;have hlt:=aI ho;obtain⟨_,_,_,g⟩:=sW h5;rcases g with g|g
             ·simp [hlt]at g
             ·simp at g;omega
            have hkn:(k.set id .dead)[new]? =(h.set id .dead)[new]?:=by
             rw[gl hne,gl hne,hnew]
            simp only[lI h5 (by simpa using hl) hkn];rfl
           ·cases e
          ·cases e
         ·cases e
        ·cases e
       ·cases e
     ·cases e
    ·cases e
   ·cases e
  ·cases e
 ·cases e
theorem qJV {P:Program} {t:TypeId} {x:V} {new:Nat}:Loc' (fun h=>pP P h t x) (aO x) (aO x) new:=by
 intro h z h' e hl;simp only[pP]at e;split at e
 ·rename_i elem hu
  split at e
  ·injection e with e
   injection e with e1 e2;subst e1;exact⟨[],sm,fun k hk=>by simp only[pP,hu];rfl⟩
  ·injection e with e
   injection e with e1 e2;subst e1;exact⟨[],sm,fun k hk=>by simp only[pP,hu];rfl⟩
  ·rename_i id off len
   split at e
   ·rename_i o zs ho hz
    split at e
    ·rename_i h0
     injection e with e;injection e with e1 e2;subst e1;refine⟨[],sm,fun k hk=>?_⟩;have hid:=hk id (by simp [aO]);simp only[pP,hu,hid,ho,hz];rw[if_pos h0];rfl
    ·rename_i h0
     split at e
     ·rename_i hc
      injection e with e;injection e with e1 e2;subst e1;refine⟨[(id,.live (iT o off (gj len zs)))],by simp [aO],fun k hk=>?_⟩;have hid:=hk id (by simp [aO]);simp only[pP,hu,hid,ho,hz];rw[if_neg h0,if_pos hc];rfl
     ·cases e
   ·cases e
  ·cases e
 ·cases e
theorem qNZ {P:Program} {t:TypeId} {x y:V} {new:Nat}:Loc' (fun h=>wM P h t x y) (aO x++aO y) (aO x) new:=by
 intro h z h' e hl;simp only[wM]at e;split at e
 ·rename_i elem hu
  split at e
  ·rename_i s hs
   split at e
   ·rename_i rows hrows
    have hrk:∀k:Heap,(∀id,id∈aO x++aO y++ [new]->k[id]? =h[id]?)->cM k s y=some rows:=by
     intro k hk;rw[tE (h:=h) (fun id hid=>hk id (by simp [hid])),hrows]
    split at e
    ·injection e with e
     injection e with e1 e2;subst e1;exact⟨[],sm,fun k hk=>by simp only[wM,hu,hs,hrk k hk];rfl⟩
    ·injection e with e
     injection e with e1 e2;subst e1;exact⟨[],sm,fun k hk=>by simp only[wM,hu,hs,hrk k hk];rfl⟩
    ·rename_i id off len
     split at e
     ·rename_i o ho
      split at e
      ·rename_i hc
       injection e with e;injection e with e1 e2;subst e1;refine⟨[(id,.live (iT o off (rows.take len)))],by simp [aO],fun k hk=>?_⟩;have hid:=hk id (by simp [aO]);simp only[wM,hu,hs,hrk k hk,hid,ho];rw[if_pos hc];rfl
      ·cases e
     ·cases e
    ·cases e
   ·cases e
  ·cases e
 ·cases e
theorem Loc'.mono {r:Heap->Option (V×Heap)} {ids ws ids' ws':List Nat} {new:Nat} (l:Loc' r ids ws new) (h1:∀i,i∈ids->i∈ids') (h2:∀i,i∈ws->i∈ws'):Loc' r ids' ws' new:=by
 intro h x h' e hl;obtain⟨post,p1,p2⟩:=l h x h' e hl;refine⟨post,fun p hp=>h2 _ (p1 p hp),fun k hk=>p2 k (fun id hid=>hk id ?_)⟩;rcases kb.1 hid with q|q
 ·exact ge _ (h1 _ q)
 ·exact kl _ q
theorem kY:Neut (fun _=>none):=by intro h x h' e;cases e
theorem qD4 {P:Program} {op:Op} {ρ:Operand->V} {new:Nat}:Loc' (fun h=>aop P op ρ h new) (foot op ρ) (wids op ρ new) new:=by
 have neut:∀ {r:Heap->Option (V×Heap)},(∀h x h',r h=some (x,h')->∀k,r k=some (x,k))->Loc' r (foot op ρ) (wids op ρ new) new:=fun n=>Neut.loc n _ _ _
 cases op with
 |load t p=>exact qPE.mono (fun _ h=>h) sm
 |store t p x=>exact qLU
 |alloc e=>exact qJE
 |box e x=>exact qD7
 |buildSlice t n ps=>exact GO
 |makeSlice t l c=>exact LL
 |indexAddr t x i=>exact LJ.mono (fun _ h=>h) sm
 |convert s d x=>
  intro h y h' e hl;simp only[aop,cY]at e;have str:∀(hh:∀k,aop P (.convert s d x) ρ k new=dJ k (ρ x)),dJ h (ρ x)=some (y,h')->∃post:List (Nat×HS),(∀p,p∈post->p.1∈wids (.convert s d x) ρ new)/\∀k:Heap,(∀id,id∈foot (.convert s d x) ρ++ [new]->k[id]? =h[id]?)->aop P (.convert s d x) ρ k new=some (y,bB k post):=by
   intro hh e';obtain⟨post,p1,p2⟩:=UA (new:=new) h y h' e' hl;exact⟨post,fun p hp=>absurd (p1 p hp) sm,fun k hk=>by rw[hh k];exact p2 k hk⟩
  split at e
  ·rename_i el b hd hx
   split at e
   ·rename_i hs he
    obtain⟨post,p1,p2⟩:=qAS (ids:=aO (ρ x)) h y h' e hl;refine⟨post,fun p hp=>by simpa [wids]using p1 p hp,fun k hk=>?_⟩;simp only[aop,cY,hd,hx,hs,he];exact p2 k hk
   ·cases e
  ·rename_i hd hx
   split at e
   ·rename_i el hs
    split at e
    ·rename_i he
     exact str (fun k=>by simp only[aop,cY,hd,hx,hs,he]) (by rw[hx]at e ⊢;exact e)
    ·cases e
   ·cases e
  ·rename_i a b hd hx
   split at e
   ·rename_i el hs
    split at e
    ·rename_i he
     exact str (fun k=>by simp only[aop,cY,hd,hx,hs,he]) (by rw[hx]at e ⊢;exact e)
    ·cases e
   ·cases e
  ·rename_i a b c hd hx
   split at e
   ·rename_i el hs
    split at e
    ·rename_i he
     exact str (fun k=>by simp only[aop,cY,hd,hx,hs,he]) (by rw[hx]at e ⊢;exact e)
    ·cases e
   ·cases e
  ·rename_i id rr hd hx
   split at e
   ·rename_i t o hs ho
    split at e
    ·rename_i hk
     injection e with e;injection e with e1 e2;refine⟨[],sm,fun k hk2=>?_⟩;have hid:k[id]? =some (.live o):=by rw[hk2 id (by simp [foot,hx,aO])];exact ho
     subst e1;simp only[aop,cY,hd,hx,hs,hid,hk,bB]
    ·cases e
   ·cases e
  ·rename_i u id rr hd hx
   split at e
   ·rename_i o hs ho
    split at e
    ·rename_i hk
     injection e with e;injection e with e1 e2;refine⟨[],sm,fun k hk2=>?_⟩;have hid:k[id]? =some (.live o):=by rw[hk2 id (by simp [foot,hx,aO])];exact ho
     subst e1;simp only[aop,cY,hd,hx,hs,hid,hk,bB]
    ·cases e
   ·cases e
  ·rename_i q hx n1 n2
   split at e
   ·rename_i z hz
    injection e with e;injection e with e1 e2;refine⟨[],sm,fun k hk=>?_⟩;have:cY P k new s d (.v q)=some (ofValue z,k):=by
     unfold cY;split
     ·rename_i el b hd q1;injection q1 with q1;exact(n1 el b hd q1).elim
     ·rename_i hd q1;injection q1 with q1;exact(n2 hd q1).elim
     ·rename_i q1;cases q1
     ·rename_i q1;cases q1
     ·rename_i q1;cases q1
     ·rename_i q1;cases q1
     ·rename_i q1 _ _;injection q1 with q1;subst q1;rw[hz]
     ·rename_i n6 _ _ _;first|exact(n6 q rfl).elim|simp_all
    simp only[aop,hx,bB];rw[this,e1]
   ·cases e
  ·cases e
 |slice t x lo hi mx=>
  cases mx with
  |some m=>exact neut kY
  |none=>
   simp only[aop,foot];intro h y h' e hl;cases hx:ρ x with
   |v q=>
    refine⟨[],sm,fun k hk=>?_⟩;simp only[hx,bB]at e ⊢;(repeat' split at e)<;>simp_all
   |_=>
    simp only[hx]at e ⊢;obtain⟨post,p1,p2⟩:=qLS (new:=new) h y h' e hl;exact⟨post,fun p hp=>absurd (p1 p hp) sm,p2⟩
 |call c=>
  obtain⟨callee,args,tys⟩:=c;cases callee with
  |builtin b=>
   simp only[aop,fY];split
   ·split
    ·exact neut fun h x h' e k=>by
       simp only[EO]at e ⊢;(repeat' split at e)<;>simp_all
    ·exact neut kY
   ·rename_i x y hxy
    split
    ·refine qBB.mono ?_ ?_
     ·intro i hi
      have:args.toList.flatMap (fun x=>aO (ρ x))=aO x++aO y:=by
       rw[show args.toList.flatMap (fun x=>aO (ρ x))=(args.toList.map ρ).flatMap aO by rw[gm],hxy];simp
      simp only[foot];rw[this];exact hi
     ·intro i hi
      have:(args.toList.take 1).flatMap (fun x=>aO (ρ x))=aO x:=by
       rw[show(args.toList.take 1).flatMap (fun x=>aO (ρ x))=((args.toList.map ρ).take 1).flatMap aO by rw[<-List.map_take,gm],hxy];simp
      simp only[wids];rw[this];rcases kb.1 hi with q|q
      ·simp [q]
      ·simp at q;simp [q]
    ·exact neut kY
   ·rename_i x hx1
    split
    ·refine qJV.mono ?_ ?_
     ·intro i hi
      have:args.toList.flatMap (fun x=>aO (ρ x))=aO x:=by
       rw[show args.toList.flatMap (fun x=>aO (ρ x))=(args.toList.map ρ).flatMap aO by rw[gm],hx1];simp
      simp only[foot];rw[this];exact hi
     ·intro i hi
      have:args.toList.flatMap (fun x=>aO (ρ x))=aO x:=by
       rw[show args.toList.flatMap (fun x=>aO (ρ x))=(args.toList.map ρ).flatMap aO by rw[gm],hx1];simp
      simp only[wids];rw[this];exact hi
    ·exact neut kY
   ·rename_i x y hxy
    split
    ·refine qNZ.mono ?_ ?_
     ·intro i hi
      have:args.toList.flatMap (fun x=>aO (ρ x))=aO x++aO y:=by
       rw[show args.toList.flatMap (fun x=>aO (ρ x))=(args.toList.map ρ).flatMap aO by rw[gm],hxy];simp
      simp only[foot];rw[this];exact hi
     ·intro i hi
      have:args.toList.flatMap (fun x=>aO (ρ x))=aO x++aO y:=by
       rw[show args.toList.flatMap (fun x=>aO (ρ x))=(args.toList.map ρ).flatMap aO by rw[gm],hxy];simp
      simp only[wids];rw[this];exact ge _ hi
    ·exact neut kY
   ·exact neut fun h x h' e k=>by
      simp only[nF]at e ⊢;(repeat' split at e)<;>simp_all
   ·exact neut fun h x h' e k=>by
      simp only[nF]at e ⊢;(repeat' split at e)<;>simp_all
   ·exact neut kY
  |value f=>
   refine neut fun h x h' e k=>?_
   simp only[aop,yE]at e ⊢;(repeat' split at e)<;>simp_all
  |_=>exact neut kY
 |build t ps=>
  refine neut fun h x h' e k=>?_
  have:sK P k t (ps.toList.map fun p=>(p.1,ρ p.2))=(sK P h t (ps.toList.map fun p=>(p.1,ρ p.2))).map fun p=>(p.1,k):=by
   generalize (ps.toList.map fun p=>(p.1,ρ p.2))=l;unfold sK;(repeat' split)<;>simp_all
  simp only[aop]at e ⊢;rw[this,e];rfl
 |field s x f=>
  refine neut fun h x h' e k=>?_
  simp only[aop,FW]at e ⊢;(repeat' split at e)<;>simp_all
 |fieldAddr s x f=>
  refine neut fun h x h' e k=>?_
  simp only[aop,pQ]at e ⊢;(repeat' split at e)<;>simp_all
 |index t x i=>
  refine neut fun h x h' e k=>?_
  simp only[aop,rF]at e ⊢;(repeat' split at e)<;>simp_all
 |extract x i=>
  refine neut fun h x h' e k=>?_
  simp only[aop,tZ]at e ⊢;(repeat' split at e)<;>simp_all
 |nilCheck x=>
  refine neut fun h x h' e k=>?_
  simp only[aop,rP]at e ⊢;(repeat' split at e)<;>simp_all
 |binOp op t X Y u=>
  refine neut fun h x h' e k=>?_
  simp only[aop,eH]at e ⊢;(repeat' split at e)<;>first|(simp_all;done)|(simp_all;rw[if_neg (by rintro(⟨q1,q2⟩|⟨q1,q2⟩)<;>simp_all),if_neg (by rintro(⟨q1,q2⟩|⟨q1,q2⟩)<;>simp_all)])
 |unOp op t x=>
  refine neut fun h x h' e k=>?_
  simp only[aop,aUn]at e ⊢;(repeat' split at e)<;>simp_all
 |makeInterface t x=>
  refine neut fun h x h' e k=>?_
  simp only[aop,QZ]at e ⊢;(repeat' split at e)<;>simp_all
 |pick c a b=>
  refine neut fun h x h' e k=>?_
  simp only[aop,FZ]at e ⊢;(repeat' split at e)<;>simp_all
 |move x=>exact neut fun h x h' e k=>by simp only[aop]at e ⊢;simp_all
 |assign x=>exact neut fun h x h' e k=>by simp only[aop]at e ⊢;simp_all
 |makeFunc fn a b=>exact neut fun h x h' e k=>by simp only[aop]at e ⊢;simp_all
 |_=>exact neut kY
def jA (P:Program) (sl:List V) (op:Op):Option (FuncId×List V):=
 match op with
 | .call ⟨.value fop,args,_⟩=>match aev sl fop with
   | .fn (.func f) first caps=>if callable P f=true then some (f,first++args.toList.map (aev sl)++caps)else none
   |_=>none
 |_=>none
section
variable {P:Program} {ops:Array Oper} {base:Nat}
theorem qXQ {i:Nat} {o:Oper} {s:St} (ho:ops[i]? =some o) (hw:awanted ops s.sl o=some false):WO P ops i s ⟨sput s.sl o.dst (.v undef),s.h⟩:=by
 intro ι a w K Q r hk;simp only[wpOp,ho];rw[if_neg (by rw[eY r hw];simp)];exact hk ι _ w ⟨by rw[gD];exact r.defers,r.slots.put o.dst (.v _),r.heap⟩ (Evolve.refl _ _ _)
theorem qd9 {i:Nat} {o:Oper} {s:St} {x:V} {h':Heap} (new:Nat) (ho:ops[i]? =some o) (hw:awanted ops s.sl o=some true)
  (hx:aop P o.op (aev s.sl) s.h new=some (x,h')):WO P ops i s ⟨sput s.sl o.dst x,h'⟩:=by
 intro ι a w K Q r hk;simp only[wpOp,ho];rw[if_pos (eY r hw)];left;unfold Oper.wp;obtain⟨y,w',ι',h1,h2,h3,ev⟩:=LX (P:=P) r.heap r.slots o new x h' hx;have r':SR ⟨sput s.sl o.dst x,h'⟩ ι' (a.put o.dst y) w':=⟨by rw[gD];exact r.defers,(r.slots.mono ev).put o.dst h2,h3⟩
 rcases h1 with h1|⟨h1,rfl⟩
 ·rw[h1];exact hk _ _ _ r' ev
 ·rw[h1];exact hk _ _ _ r' ev
theorem uD {P:Program} {sl:List V} {op:Op} {f:FuncId} {args:List V} (h:jA P sl op=some (f,args)) :
  ∃fop as tys first caps,op = .call ⟨.value fop,as,tys⟩/\aev sl fop = .fn (.func f) first caps/\args=first++as.toList.map (aev sl)++caps:=by
 unfold jA at h;split at h
 ·rename_i fop as tys
  split at h
  ·rename_i g first caps hf
   split at h
   ·injection h with h
    injection h with h1 h2;subst h1 h2;exact⟨fop,as,tys,first,caps,rfl,hf,rfl⟩
   ·cases h
  ·cases h
 ·cases h
theorem pE {i:Nat} {o:Oper} {s:St} {f:FuncId} {args:List V} {x:V} {h':Heap} (ho:ops[i]? =some o) (hw:awanted ops s.sl o=some true)
  (hop:jA P s.sl o.op=some (f,args)) (hcall:callable P f=true) (hc:PC P f args s.h (fun y k=>y=x/\k=h')):WO P ops i s ⟨sput s.sl o.dst x,h'⟩:=by
 intro ι a w K Q r hk;simp only[wpOp,ho];rw[if_pos (eY r hw)];left;obtain⟨fop,ars,tys,first,caps,hop2,hf,rfl⟩:=uD hop
 have rf:=eV r.slots fop;rw[hf]at rf;generalize hfv:a.eval fop=fv at rf;cases rf with
 |fn _ _ _ vs us l1 l2 r1 r2=>
  have m:=oZ (fun x=>eV r.slots x) ars;have hrep:=((PW2.of_dep l1 r1).append (PW2.of_dep m.1 m.2)).append (PW2.of_dep l2 r2);unfold Oper.wp;have hrun:(execOp a.eval o).run P w = .ok (.enter f (vs++ars.map a.eval++us)) w:=by
   simp only[execOp,hop2,resolve,hfv,Deferred.ofValue,Sem.run_bind,Sem.run_pure,Result.andThen_ok,invoke];rw[AB hcall]
  rw[hrun];refine(hc ι w _ hrep r.heap).mono ?_;rintro e w' ⟨y,x,h',ι',rfl,⟨rfl,rfl⟩,ry,hh,ev⟩;exact hk ι' _ w' ⟨by rw[gD];exact r.defers,(r.slots.mono ev).put o.dst ry,hh⟩ ev
theorem kT {o:Oper} {sl sl':List V} (h:AY ops o sl sl'):∀x,x∈o.op.operands->aev sl' x=aev sl x:=by
 intro x hx;cases x with
 |tmp t=>
  have:t∈o.looksAt ops:=by
   simp only[Oper.looksAt,kb,List.mem_filterMap];exact .inl ⟨.tmp t,by simpa using hx,rfl⟩
  simp only[aev,List.getD,h t this]
 |_=>rfl
theorem fA {o:Oper} {sl sl':List V} (h:AY ops o sl sl'):awanted ops sl' o=awanted ops sl o:=by
 unfold awanted;cases hg:o.guard with
 |none=>rfl
 |some g=>
  obtain⟨j,want⟩:=g;simp only;cases hd:(ops[j]?).bind (·.dst)with
  |none=>rfl
  |some d=>
   have:d∈o.looksAt ops:=by
    simp only[Oper.looksAt,hg,kb];right;simp [hd]
   simp only[gp,h d this]
theorem LW {P:Program} {op:Op} {ρ ρ':Operand->V} (h:∀x,x∈op.operands->ρ' x=ρ x) (k:Heap) (new:Nat):aop P op ρ' k new=aop P op ρ k new:=by
 have pairs:∀ps:Array (Nat×Operand),(∀x,x∈ps.toList.map (·.2)->ρ' x=ρ x)->(ps.toList.map fun p=>(p.1,ρ' p.2))=(ps.toList.map fun p=>(p.1,ρ p.2)):=fun ps hp=>
  gg fun p hm=>by rw[hp p.2 (gf hm)]
 cases op<;>simp only[Op.operands]at h<;>simp only[aop]
 case build t ps=>rw[pairs ps fun x hx=>h x (by simpa using hx)]
 case buildSlice t n ps=>rw[pairs ps fun x hx=>h x (by simpa using hx)]
 case makeFunc fn first captured=>
  rw[gg (l:=first.toList) fun x hx=>h x (by simp at hx;simp [hx]),gg (l:=captured.toList) fun x hx=>h x (by simp at hx;simp [hx])]
 case call c=>
  obtain⟨callee,args,tys⟩:=c;cases callee with
  |builtin b=>simp only;rw[gg (l:=args.toList) fun x hx=>h x (by simp at hx;simp [Call.operands,hx])]
  |value f=>simp only;rw[gg (l:=args.toList) fun x hx=>h x (by simp at hx;simp [Call.operands,hx]),h f (by simp [Call.operands])]
  |_=>rfl
 case slice t x lo hi mx=>
  cases mx with
  |some m=>rfl
  |none=>
   have e1:ρ' x=ρ x:=h x sm;have e2:lo.map ρ'=lo.map ρ:=by cases lo<;>simp_all
   have e3:hi.map ρ'=hi.map ρ:=by cases hi<;>simp_all
   simp only[e1,e2,e3]
 all_goals(first|rfl|(simp_all;done))
theorem yU {P:Program} {o:Oper} {sl sl':List V} (h:∀x,x∈o.op.operands->aev sl' x=aev sl x):jA P sl' o.op=jA P sl o.op:=by
 unfold jA;cases ho:o.op with
 |call c=>
  obtain⟨callee,args,tys⟩:=c;cases callee with
  |value fop=>
   rw[ho]at h;have e1:aev sl' fop=aev sl fop:=h fop (by simp [Op.operands,Call.operands]);have e2:args.toList.map (aev sl')=args.toList.map (aev sl):=gg fun x hx=>h x (by simp at hx;simp [Op.operands,Call.operands,hx])
   simp only[e1,e2]
  |_=>rfl
 |_=>rfl
theorem SR.reserve {s:St} {ι a w} (r:SR s ι a w) (n:Nat):SR ⟨s.sl,s.h++gj n .free⟩ ι a w/\Evolve s.h ι w (s.h++gj n .free) ι w:=by
 have get:∀(id:Nat) (o:AObj),(s.h++gj n .free)[id]? =some (.live o)->s.h[id]? =some (.live o):=by
  intro id o h;rw[ko]at h;split at h
  ·exact h
  ·rw[ki]at h
   split at h<;>cases h
 have get':∀(id:Nat) (c:HS),s.h[id]? =some c->(s.h++gj n .free)[id]? =some c:=by
  intro id c h;rw[gq (aI h)];exact h
 have ev:Evolve s.h ι w (s.h++gj n .free) ι w:=⟨rfl,rfl,rfl,kz _,fun _ _ q=>q,rfl,fun b _ hb=>⟨rfl,fun⟨id,o,l,h1,h2,h3⟩=>hb ⟨id,o,l,get id o h1,h2,h3⟩⟩,fun b c _ fr hb=>⟨c,fr,hb,rfl⟩⟩
 refine⟨⟨r.defers,r.slots.mono ev,⟨fun id o h=>?_,fun id h=>?_,fun id h=>?_,fun id o l id' o' l' h1 h2 h3 h4=>r.heap.apart id o l id' o' l' (get _ _ h1) h2 (get _ _ h3) h4,r.heap.xlt,fun b hb=>(ev.frame b (r.heap.xlt b hb) (r.heap.xob b hb)).2⟩⟩,ev⟩
 ·obtain⟨l,c,fr,h1,la⟩:=r.heap.live id o (get id o h)
  exact⟨l,c,fr,h1,⟨la.blk,la.unfrozen,la.sz,la.rows,la.fits,fun i hi j hj=>let ⟨y,q1,q2⟩:=la.reads i hi j hj;⟨y,q1,q2.mono ev⟩⟩⟩
 ·rw[ko]at h
  split at h
  ·exact r.heap.free id h
  ·exact r.heap.out id om
 ·exact r.heap.out id (by simp at h;omega)
end
theorem qDU {n:Int} (h1:-9223372036854775808<=n) (h2:n<=9223372036854775807):IntKind.i64.wrap n=n:=IntWalk.i64_in n om
theorem qMP (P:Program) (h:Heap) (t:TypeId) (X Y:Operand) (k:IntKind) (a b:Int):eH P h .lss t X Y (.v (.int k a)) (.v (.int k b))=some (.v (.bool (decide (a<b))),h):=by cases k<;>rfl
theorem qMO (P:Program) (h:Heap) (t:TypeId) (X Y:Operand) (k:IntKind) (a b:Int):eH P h .leq t X Y (.v (.int k a)) (.v (.int k b))=some (.v (.bool (decide (a<=b))),h):=by cases k<;>rfl
theorem qMN (P:Program) (h:Heap) (t:TypeId) (X Y:Operand) (k:IntKind) (a b:Int):eH P h .gtr t X Y (.v (.int k a)) (.v (.int k b))=some (.v (.bool (decide (a>b))),h):=by cases k<;>rfl
theorem qMM (P:Program) (h:Heap) (t:TypeId) (X Y:Operand) (k:IntKind) (a b:Int):eH P h .geq t X Y (.v (.int k a)) (.v (.int k b))=some (.v (.bool (decide (a>=b))),h):=by cases k<;>rfl
theorem qML (P:Program) (h:Heap) (t:TypeId) (X Y:Operand) (k:IntKind) (a b:Int):eH P h .eql t X Y (.v (.int k a)) (.v (.int k b))=some (.v (.bool (a == b)),h):=by cases k<;>rfl
theorem qMR (P:Program) (h:Heap) (t:TypeId) (X Y:Operand) (k:IntKind) (a b:Int):eH P h .neq t X Y (.v (.int k a)) (.v (.int k b))=some (.v (.bool (a != b)),h):=by cases k<;>rfl
theorem qMJ (P:Program) (h:Heap) (t:TypeId) (X Y:Operand) (k:IntKind) (a b:Int):eH P h .add t X Y (.v (.int k a)) (.v (.int k b))=some (.v (.int k (k.wrap (a+b))),h):=by cases k<;>rfl
theorem qMX (P:Program) (h:Heap) (t:TypeId) (X Y:Operand) (k:IntKind) (a b:Int):eH P h .sub t X Y (.v (.int k a)) (.v (.int k b))=some (.v (.int k (k.wrap (a-b))),h):=by cases k<;>rfl
theorem qMQ (P:Program) (h:Heap) (t:TypeId) (X Y:Operand) (k:IntKind) (a b:Int):eH P h .mul t X Y (.v (.int k a)) (.v (.int k b))=some (.v (.int k (k.wrap (a*b))),h):=by cases k<;>rfl
theorem qI8 (P:Program) (h:Heap) (t e:TypeId) (ht:P.underlying t=some (.slice e)) (s:Nat) (rows:List (List V)):EO P h t (.sF s rows)=some (.v (.int .i64 rows.length),h):=by
 simp [EO,ht]
theorem LD (P:Program) (h:Heap) (t e:TypeId) (ht:P.underlying t=some (.slice e)) (s:Nat) (hs:cP P e=some s) (rows:List (List V)) (k:IntKind) (i:Int) (h0:0<=i) (h1:i<rows.length) :
  cC P h t (.sF s rows) (.v (.int k i))=some (.pF (rows[i.toNat]' om) 0,h):=by
 simp only[cC,lW,ht,hs];rw[if_pos ⟨trivial,h0⟩,ga om]
theorem qEG (b:ByteArray):b.data.toList.length=b.size:=rfl
theorem KT (b:ByteArray):∀(n i:Nat) (r:List UInt8),b.size-i=n->i<=b.size->ByteArray.toList.loop b i r=r.reverse++b.data.toList.drop i
 |0,i,r,h,hi=>by
  rw[ByteArray.toList.loop,if_neg om];rw[kk (by rw[qEG];omega)];simp
 |n+1,i,r,h,hi=>by
  have hlt:i<b.size:=om
  rw[ByteArray.toList.loop,if_pos hlt,KT b n (i+1) _ om om];have hd:i<b.data.toList.length:=by rw[qEG];exact hlt
  rw[kg hd];have hd2:i<b.data.size:=hlt;simp [ui];exact getElem!_pos b.data i hd2
theorem QN (b:ByteArray):b.toList=b.data.toList:=by
 unfold ByteArray.toList;rw[KT b b.size 0 [] om om];simp
theorem qVT {a b:ByteArray} (h:a.toList=b.toList):a=b:=by
 rw[QN,QN]at h;exact ByteArray.ext (Array.toList_inj.1 h)
def AJ (a b:ByteArray):Bool:=a.toList == b.toList
def eJ (a b:ByteArray):Bool:=Op.bytesLess a.toList b.toList
theorem qZW {a b:ByteArray} (h:a=b):AJ a b=true:=by rw[h];simp [AJ]
theorem qZV {a b:ByteArray} (h:¬a=b):AJ a b=false:=by
 rw[AJ,beq_eq_false_iff_ne];exact fun q=>h (qVT q)
theorem qLX (a b:ByteArray):AJ a b=decide (a=b):=by
 by_cases h:a=b
 ·rw[qZW h,decide_eq_true h]
 ·rw[qZV h,decide_eq_false h]
theorem QX (P:Program) (h:Heap) (new:Nat) (s d:TypeId) (k k':IntKind) (q:IntKind) (n:Int) (hs:P.underlying s=some (.int k)) (hd:P.underlying d=some (.int k')) :
  cY P h new s d (.v (.int q n))=some (.v (.int k' (k'.wrap n)),h):=by
 have e:aP P (convert s d (.int q n))=some (.int k' (k'.wrap n)):=by
  simp [convert,Go.underlying,hs,hd,aP,bind,pure,program,Sem.bind,Conv.intToInt]
 simp only[cY,hd,e];rfl
theorem qMT (P:Program) (h:Heap) (t:TypeId) (X Y:Operand) (k:IntKind) (a b:Int) (hb:b≠0):eH P h .rem t X Y (.v (.int k a)) (.v (.int k b))=some (.v (.int k (a.tmod b)),h):=by
 have e:aP P (do eqGuard .rem t X Y (.int k a) (.int k b);binOp .rem t (.int k a) (.int k b))=some (.int k (a.tmod b)):=by
  cases k<;>simp [eqGuard,binOp,Op.intDiv,hb,aP,bind,pure,Sem.bind]
 simp only[eH,iA,e];rfl
section
variable (P:Program) (h:Heap)
theorem FX {α:Type} [Inhabited α] (t e:TypeId) (s:Nat) (f:α->List V) (ht:P.underlying t=some (.slice e)) (hs:cP P e=some s) (l:List α) (k:IntKind) (i:Int) (hi:0<=i/\i<l.length) :
  cC P h t (.sF s (l.map f)) (.v (.int k i))=some (.pF (f (l[i.toNat]!)) 0,h):=by
 have hlt:i.toNat<l.length:=om
 have:=LD P h t e ht s hs (l.map f) k i hi.1 (by simpa using hi.2);rw[this];simp [getElem!_pos,hlt]
theorem FY (t e:TypeId) (s:Nat) (ht:P.underlying t=some (.slice e)) (hs:cP P e=some s) (id len:Nat) (k:IntKind) (i:Int) (o:AObj) (ho:h[id]? =some (.live o)) (hz:o.sz=s) (hi:0<=i/\i<len) :
  cC P h t (.sO id 0 len) (.v (.int k i))=some (.pO id i.toNat 0,h):=by
 simp only[cC,lW,ht,hs,ho];rw[if_pos ⟨hz,hi.1,hi.2⟩,Nat.zero_add]
theorem LF (t e:TypeId) (s:Nat) (ht:P.underlying t=some (.slice e)) (hs:cP P e=some s) (id off len:Nat) (k:IntKind) (i:Int) (o:AObj) (ho:h[id]? =some (.live o)) (hz:o.sz=s) (hi:0<=i/\i<len) :
  cC P h t (.sO id off len) (.v (.int k i))=some (.pO id (off+i.toNat) 0,h):=by
 simp only[cC,lW,ht,hs,ho];rw[if_pos ⟨hz,hi.1,hi.2⟩]
theorem qMY {α:Type} (t e:TypeId) (ht:P.underlying t=some (.slice e)) (s:Nat) (f:α->List V) (l:List α):EO P h t (.sF s (l.map f))=some (.v (.int .i64 (l.length:Int)),h):=by
 rw[qI8 P h t e ht,kc]
theorem xJ {α:Type} [Inhabited α] (t:TypeId) (id:Nat) (r:Nat) (off:Nat) (s:Nat) (l:List α) (f:α->List V) (e:El) (ho:h[id]? =some (.live ⟨s,l.map f,e⟩)) (hr:r<l.length) (x:V) (hx:jV P t (f (l[r]!)) off=some x) :
  qQ P h t (.pO id r off)=some (x,h):=by
 have:(l.map f)[r]? =some (f (l[r]!)):=by simp [hr,getElem!_pos]
 simp only[qQ,rowAt,ho,this,hx]
def aG (b:ByteArray) (i:Nat):Int:=((b.get! i).toNat:Int)
theorem qA6 (t:TypeId) (b:ByteArray) (k:IntKind) (i:Int) (ht:P.underlying t=some .string) (hi:0<=i/\i<b.size) :
  rF P h t (.v (.string b)) (.v (.int k i))=some (.v (.int .u8 (aG b i.toNat)),h):=by
 unfold aG;have hlt:i.toNat<b.size:=om
 have e:aP P (Instr.index t (.string b) (.int k i))=some (.int .u8 (b.get! i.toNat).toNat):=by
  have hg:(if 0<=i then b[i.toNat]? else none)=some (b.get! i.toNat):=by
   rw[if_pos hi.1,getElem?_pos b i.toNat hlt];have hd:i.toNat<b.data.size:=hlt;simp only[ui,Option.some.injEq];exact(getElem!_pos b.data i.toNat hd).symm
  simp [Instr.index,Go.asIntOf,Go.underlying,ht,aP,bind,pure,program,Sem.bind,hg]
 simp only[rF,e];rfl
theorem qI9 {α:Type} (t e:TypeId) (s:Nat) (f:α->List V) (ht:P.underlying t=some (.slice e)) (hs:cP P e=some s) (l:List α) (k:IntKind) (u:Int) (hu:0<=u/\u<=l.length) :
  fG P h t (.sF s (l.map f)) none (some (.v (.int k u)))=some (.sF s ((l.take u.toNat).map f),h):=by
 simp only[fG,ht,bound,hs,if_pos hu.1];rw[if_pos ⟨trivial,Nat.zero_le _,by rw[kc];omega⟩];simp
theorem qJA {α:Type} (t e:TypeId) (s:Nat) (f:α->List V) (ht:P.underlying t=some (.slice e)) (hs:cP P e=some s) (l:List α) (k:IntKind) (u:Int) (hu:0<=u/\u<=l.length) :
  fG P h t (.sF s (l.map f)) (some (.v (.int k u))) none=some (.sF s ((l.drop u.toNat).map f),h):=by
 simp only[fG,ht,bound,hs,if_pos hu.1];rw[if_pos ⟨trivial,by rw[kc];omega,kz _⟩];rw[List.take_of_length_le (kz _)];simp
theorem UM {α:Type} (t e:TypeId) (s:Nat) (f:α->List V) (ht:P.underlying t=some (.slice e)) (hs:cP P e=some s) (l:List α) (k k':IntKind) (a u:Int) (hu:0<=a/\a<=u/\u<=l.length) :
  fG P h t (.sF s (l.map f)) (some (.v (.int k a))) (some (.v (.int k' u)))=some (.sF s (((l.take u.toNat).drop a.toNat).map f),h):=by
 have hu0:0<=u:=om
 simp only[fG,ht,bound,hs,if_pos hu.1,if_pos hu0];rw[if_pos ⟨trivial,om,by rw[kc];omega⟩];simp
theorem qMS (t:TypeId) (X Y:Operand) (k:IntKind) (a b:Int) (hb:b≠0):eH P h .quo t X Y (.v (.int k a)) (.v (.int k b))=some (.v (.int k (k.wrap (a.tdiv b))),h):=by
 have e:aP P (do eqGuard .quo t X Y (.int k a) (.int k b);binOp .quo t (.int k a) (.int k b))=some (.int k (k.wrap (a.tdiv b))):=by
  cases k<;>simp [eqGuard,binOp,Op.intDiv,hb,aP,bind,pure,Sem.bind]
 simp only[eH,iA,e];rfl
end
theorem qMK (P:Program) (h:Heap) (t:TypeId) (X Y:Operand) (a b:ByteArray) (hs:((a.size+b.size:Nat):Int)<=9223372036854775807):eH P h .add t X Y (.v (.string a)) (.v (.string b))=some (.v (.string (a++b)),h):=by
 have hm:¬((a.size+b.size:Nat):Int)>IntKind.i64.max:=by
  have:IntKind.i64.max=9223372036854775807:=dc
  omega
 have e:aP P (do eqGuard .add t X Y (.string a) (.string b);binOp .add t (.string a) (.string b))=some (.string (a++b)):=by
  simp only[eqGuard,binOp,Op.stringOp,if_neg hm];rfl
 simp only[eH,iA,e];rfl
theorem bQ {α:Type} [Inhabited α] (l:List α) (k:Int) (h:0<=k/\k<l.length):l.drop k.toNat=l[k.toNat]! ::l.drop (k+1).toNat:=by
 have h1:k.toNat<l.length:=om
 rw[kg h1,show(k+1).toNat=k.toNat+1 by omega];simp [getElem!_pos,h1]
theorem nO {α:Type} (l:List α) (k:Int) (h:¬k<l.length):l.drop k.toNat= []:=kk om
theorem sH {α:Type} [Inhabited α] (l:List α) (k:Int) (h:0<=k/\k<l.length):l.take (k+1).toNat=l.take k.toNat++ [l[k.toNat]!]:=by
 have h1:k.toNat<l.length:=om
 rw[show(k+1).toNat=k.toNat+1 by omega,List.take_succ_eq_append_getElem h1];simp [getElem!_pos,h1]
def oW {α:Type} (p:α->Bool):Int->List α->Int
 |_,[]=>-1
 |k,x::xs=>if p x=true then k else oW p (k+1) xs
def bV {α:Type} (f:Int->α->Int):Int->List α->Int
 |_,[]=>0
 |k,x::xs=>if f k x=0 then bV f (k+1) xs else f k x
theorem zA {α:Type} [Inhabited α] (f:Int->α->Int):∀(l:List α) (k:Int),bV f k l=0->∀i:Nat,i<l.length->f (k+i) l[i]! =0
 | [],k,_,i,hi=>by simp at hi
 |x::xs,k,h,i,hi=>by
  by_cases hx:f k x=0
  ·rw[bV,if_pos hx]at h
   cases i with
   |zero=>simpa using hx
   |succ i=>
    have:=zA f xs (k+1) h i (by simpa using hi);rw[show k+((i+1:Nat):Int)=k+1+i by omega];simpa using this
  ·rw[bV,if_neg hx]at h;exact absurd h hx
theorem rS {α:Type} [Inhabited α] {f:Int->α->Int} {l:List α} (h:bV f 0 l=0) (k:Int) (hk:0<=k/\k<l.length):f k l[k.toNat]! =0:=by
 have:=zA f l 0 h k.toNat om;rwa [show(0:Int)+(k.toNat:Int)=k by omega]at this
theorem sX {α:Type} [Inhabited α] (p:α->Bool):∀(l:List α) (k:Int),(oW p k l = -1/\∀i:Nat,i<l.length->p l[i]! =false)\/(∃i:Nat,i<l.length/\oW p k l=k+i/\p l[i]! =true/\∀j:Nat,j<i->p l[j]! =false)
 | [],k=>.inl ⟨rfl,fun i hi=>by simp at hi⟩
 |x::xs,k=>by
  rcases hx:p x with _|_
  ·rcases sX p xs (k+1)with⟨h1,h2⟩|⟨i,h1,h2,h3,h4⟩
   ·refine .inl ⟨by simp [oW,hx,h1],fun i hi=>?_⟩
    cases i with
    |zero=>simpa using hx
    |succ i=>simpa using h2 i (by simpa using hi)
   ·refine .inr ⟨i+1,by simpa using h1,by simp [oW,hx,h2];omega,by simpa using h3,fun j hj=>?_⟩
    cases j with
    |zero=>simpa using hx
    |succ j=>simpa using h4 j om
  ·exact .inr ⟨0,sm,by simp [oW,hx],by simpa using hx,fun j hj=>by omega⟩
theorem nH {α:Type} [Inhabited α] (l:List α) (n i:Nat) (h:i<n):(l.take n)[i]! =l[i]!:=by
 by_cases hl:i<l.length
 ·rw[getElem!_pos _ _ (by simp;omega),getElem!_pos l i hl];simp
 ·rw[getElem!_neg _ _ (by simp;omega),getElem!_neg l i hl]
end Go.Abs
