import Derived.Test.YtcjiefknhfhmkaaGreatDoorM11
open Bool renaming and_eq_true_iff -> ga
open Nat renaming le_of_ble_eq_true -> gb, eq_of_beq_eq_true -> gg, beq -> gn, ble -> gp, le_of_not_lt -> gt, blt -> kf, le_refl -> ki
open List renaming length_append -> gc, getElem?_eq_getElem -> ge, all_eq_true -> gh, length_nil -> gi, length_cons -> gj, getElem_mem -> gk, getElem?_eq_none_iff -> gm, getElem?_eq_none -> go, replicate -> gq, contains_iff_mem -> gu, ext_getElem? -> gw, mem_cons_of_mem -> gx, mem_map_of_mem -> gy, mem_cons_self -> gz, getElem?_replicate -> hh, getElem?_map -> kb, range'_succ -> kc, range' -> kd, getElem?_range -> ke, getElem?_set -> kh, take_of_length_le -> kj, mem_map -> kk, length_map -> kl, mem_append -> km, mem_append_right -> kn, range_eq_range' -> ko, map_cons -> kp, length_range -> kq
open ByteArray renaming size_append -> gf, append_assoc -> ka
open Array renaming getElem?_eq_some_iff -> kg
namespace Go.Proofs.YtcjiefknhfhmkaaGreatDoor
open Go.Abs
set_option maxRecDepth 100000
set_option maxHeartbeats 4000000
set_option linter.unusedVariables false
set_option linter.unusedSimpArgs false
theorem qJS {c:Col} {v:Val} (h:aZ c v=0):bJ c.2.1=true:=by
 unfold aZ at h;split at h
 ·cases h
 ·rename_i q;simpa using q
theorem qEC {c:Col}:∀ {l:List Val},(∀v,v∈l->aZ c v=0)->gF c l=0
 | [],_=>rfl
 |v::l,h=>by rw[gF,if_neg (fun q=>q (h v (gz ..)))];exact qEC fun x hx=>h x (gx _ hx)
theorem qOI {c:Col} {l:List Val} (h0:1<=l.length) (hl:l.length<=4096) (hv:∀v,v∈l->aZ c v=0):(rQ c l).2=0:=by
 have hk:=qJS (hv l[0] (gk _));rw[rQ,if_neg (by rw[hk];exact Bool.noConfusion),if_neg om,if_neg (fun q=>q (qEC hv))]
theorem rJ {s:Schema} {l:List Rec} (h:1<=s.1.length/\s.1.length<=12):(jX l (s.1.length:Int)++ [kB l]).length=s.1.length+1:=by
 have hc:=(lG (l:=l) (n:=(s.1.length:Int)) ⟨om,om⟩).1;rw[gc,gj,gi];omega
theorem qaL {s:Schema} {l:List Rec} (h:1<=s.1.length/\s.1.length<=12) {k:Int} (hk:0<=k/\k<s.1.length+1) :
  @getElem! (List (List Val)) Nat (List Val) (fun xs i=>i<xs.length) _ (instInhabitedDen (.list bU)) (jX l (s.1.length:Int)++ [kB l]) k.toNat=mG s l k.toNat:=by
 have hc:=lG (l:=l) (n:=(s.1.length:Int)) ⟨om,om⟩;have hl:=hc.1;have hlen:=rJ (l:=l) h;unfold mG;rw[getElem!_pos _ _ om];split
 ·rw[List.getElem_append_right om,List.getElem_singleton]
 ·rw[List.getElem_append_left om,<-hc.2 k.toNat om,getElem!_pos _ _ om]
theorem rR {s:Schema} {l:List Rec} (hv:cO s l=true) (hi:AZ l) (h0:1<=l.length) (hl:l.length<=1024) {k:Int} (h:0<=k/\k<s.1.length+1) :
  @getElem! (List (List Val)) Nat (List Val) (fun xs i=>i<xs.length) _ (instInhabitedDen (.list bU)) (jX l (s.1.length:Int)++ [kB l]) k.toNat=mG s l k.toNat/\(mG s l k.toNat).length<=1024/\(∀v,v∈mG s l k.toNat->inI v.2.1) /\
   (rQ (kX s k) (mG s l k.toNat)).2=0/\(rQ (kX s k) (mG s l k.toNat)).1=chnk s l k.toNat/\(chnk s l k.toNat).size<=4398046585379:=by
 have hs:=bI (dR hv).1;have hk:((k.toNat:Nat):Int)=k:=om
 have hL:(mG s l k.toNat).length=l.length:=by
  unfold mG;split
  ·simp [kB]
  ·exact gN l _
 have ho:∀v,v∈mG s l k.toNat->aZ (kX s k) v=0/\inI v.2.1:=by
  unfold mG kX;split
  ·rename_i q;rw[if_pos om];exact uZ hv
  ·rename_i q;rw[if_neg om];exact qM hv hi om
 refine⟨qaL ⟨om,hs.1⟩ h,om,fun v q=>(ho v q).2,qOI om om (fun v q=>(ho v q).1),?_,?_⟩
 ·unfold chnk;rw[hk]
 ·unfold chnk;rw[hk]
  exact yZ om fun v q=>eO (ho v q).1 (ho v q).2
theorem qED {s:Schema} {l:List Rec} {k:Int} (h:k=s.1.length+1):chP s l k.toNat=chnks s l:=by rw[h];rfl
theorem LB {s:Schema} {l:List Rec} (hv:cO s l=true) (hi:AZ l) (hl:l.length<=1024):∀k:Int,0<=k/\k<((dV s l).2.1.length:Int)->uM (dV s l).2.1[k.toNat]!:=by
 intro k hk;show uM (dC s l (List.range s.1.length))[k.toNat]!;have hk:0<=k/\k<((dC s l (List.range s.1.length)).length:Int):=hk;have hlen:(dC s l (List.range s.1.length)).length=s.1.length:=by rw[dC,kl,kq]
 rw[getElem!_pos _ _ om];unfold dC;rw[List.getElem_map,List.getElem_range];have ho:=qM hv hi (i:=k.toNat) om;have hL:=gN l k.toNat;exact CL om fun v q=>FH (ho v q)
theorem vF {s:Schema} {l:List Rec}:(dC s l (List.range s.1.length)).length=s.1.length:=by rw[dC,kl,kq]
theorem qK0 {Z:List Zone} {k:Int} (h:0<=k/\k<Z.length):dY ((Z.take (k+1).toNat).map sA)=dY ((Z.take k.toNat).map sA)++sA Z[k.toNat]!:=by
 rw[sH Z k h,List.map_append,HY,kp,List.map_nil,HZ]
theorem JJ (a b:Int):cH a b=cH b a:=by unfold cH;split<;>split<;>omega
theorem qB5 {s:Schema} {l:List Rec} {G:List Int} (h:aS s=0) (hG:aT G=aT (four (idS s).1)++aT (put (l.length:Int))++dY ((chnks s l).map szB)++dY ((dC s l (List.range s.1.length)).map sA)) {n:Nat} (hn:n=l.length-1) :
  aT (G++aE (dG (fD s l[0]!)++dG (fD s l[n]!)))=jY s l:=by
 rw[cR,bP,hG,hn,jY,qCB h];simp only[ka]
abbrev NE:Ct:=.fn [.int .u32] (none) (fun(v:Int)=>.d .str (aT (four v)))
theorem qUL:aH Tryz.prog 63 NE:=by
 refine aH.fn qAJ mixed [] [] rfl rfl ?_;rintro⟨(v:Int),_⟩ -;refine⟨[],?_⟩;repeat' (first
  |(
 with_reducible apply Side.mk
 (try dsimp only[cu,aC,aB,gts,loK,hiK,eE,eN])
 first
 |omega
 |(exact Eq.refl _))
  |(conv=>whnf
    first
     |with_reducible first|done|exact trivial|refine NilBr.mk (fun h=>?_) ?_|apply aL|apply aK|refine aM kr ?_|apply aN|apply bL|apply bK|apply aU
     |((with_reducible first|apply aW|apply aV|apply bH)<;>intro h<;>(try dsimp only[cu,eE,eN]at h)<;>(try(exfalso;omega)))))
 all_goals(
 with_reducible apply Leaf.mk
 (try dsimp only[cu,aC,aB,gts,eE,eN]at *)
 rfl)
abbrev qXH:Tbl:=(63,NE)::qXG
theorem qAK:aD Tryz.prog qXH:=aD.cons qUL qAJ
abbrev NU:Ct:=.fn [bU] (some (fun(v:Val)=>(inI v.2.1/\v.2.2.size<=1073741824))) (fun(v:Val)=>.d .str (zU v))
theorem qV4:aH Tryz.prog 115 NU:=by
 refine aH.fn qAK mixed [] [] rfl rfl ?_;rintro⟨(v:Val),_⟩ hpre;replace hpre:=hpre _ rfl;dsimp only[cu]at hpre;have hv:=hpre;refine⟨[],?_⟩;repeat' (first
  |(
 with_reducible apply Side.mk
 (try dsimp only[cu,aC,aB,gts,loK,hiK,eE,eN])
 first
 |exact hv.1
 |exact iC hv.1
 |(
  have p1:=bW (eK v.2.1);have p2:=bW ((v.2.2.size:Int));first
  |(
   rw[bF om];omega)
  |(
   simp only[gf,bO];(try rw[bF om]);have s1:(⟨#[1]⟩:ByteArray).size=1:=rfl;omega)))
  |(conv=>whnf
    first
     |with_reducible first|done|exact trivial|refine NilBr.mk (fun h=>?_) ?_|apply aL|apply aK|refine aM kr ?_|apply aN|apply bL|apply bK|apply aU
     |((with_reducible first|apply aW|apply aV|apply bH)<;>intro h<;>(try dsimp only[cu,eE,eN]at h)<;>(try(exfalso;omega)))))
 all_goals(
 with_reducible apply Leaf.mk
 (try dsimp only[cu,aC,aB,gts,eE,eN]at *)
 first
 |rw[zU,if_pos av]
 |(rw[qP7 av,bF (n:=((v.2.2.size:Nat):Int)) om]))
abbrev qXI:Tbl:=(115,NU)::qXH
theorem qAL:aD Tryz.prog qXI:=aD.cons qV4 qAK
abbrev NX:Ct:=.fn [lZ] (some (fun(z:Zone)=>(z.1<=4096/\z.2.1<=4096)/\(inI z.2.2.1.2.1/\z.2.2.1.2.2.size<=1073741824)/\(inI z.2.2.2.2.1/\z.2.2.2.2.2.size<=1073741824))) (fun(z:Zone)=>.d .str (sA z))
theorem qWH:aH Tryz.prog 68 NX:=by
 refine aH.fn qAL mixed [] [] rfl rfl ?_;rintro⟨(z:Zone),_⟩ hpre;replace hpre:=hpre _ rfl;dsimp only[cu]at hpre;obtain⟨h1,h2,h3⟩:=hpre;refine⟨[],?_⟩;repeat' (first
  |(
 with_reducible apply Side.mk
 (try dsimp only[cu,aC,aB,gts,loK,hiK,eE,eN])
 first
 |omega
 |(
  have m1:0<=cH 0 z.1/\cH 0 z.1<=4096:=by unfold cH;split<;>omega
  have m2:0<=cH 0 z.2.1/\cH 0 z.2.1<=4096:=by unfold cH;split<;>omega
  first
  |(
   rw[JJ,bF om];omega)
  |(
   have p1:=bW (cH 0 z.1);have p2:=bW (cH 0 z.2.1);have p3:=wA (v:=z.2.2.1);have p4:=wA (v:=z.2.2.2);simp only[JJ z.1 0,JJ z.2.1 0,bF (n:=cH 0 z.1) om,bF (n:=cH 0 z.2.1) om,gf,bO];omega)))
  |(conv=>whnf
    first
     |with_reducible first|done|exact trivial|refine NilBr.mk (fun h=>?_) ?_|apply aL|apply aK|refine aM kr ?_|apply aN|apply bL|apply bK|apply aU
     |((with_reducible first|apply aW|apply aV|apply bH)<;>intro h<;>(try dsimp only[cu,eE,eN]at h)<;>(try(exfalso;omega)))))
 all_goals(
 with_reducible apply Leaf.mk
 (try dsimp only[cu,aC,aB,gts,eE,eN]at *)
 (
  have m1:0<=cH 0 z.1/\cH 0 z.1<=4096:=by unfold cH;split<;>omega
  have m2:0<=cH 0 z.2.1/\cH 0 z.2.1<=4096:=by unfold cH;split<;>omega
  rw[sA,JJ,JJ z.2.1,bF (n:=cH 0 z.1) om,bF (n:=cH 0 z.2.1) om]))
abbrev qXJ:Tbl:=(68,NX)::qXI
theorem qAM:aD Tryz.prog qXJ:=aD.cons qWH qAL
abbrev wT:Ct:=.fn [vC] (some (fun(r:Rank)=>(0<=r.2/\r.2<=1099511627776)/\(inI r.1.2.1/\r.1.2.2.size<=1073741824))) (fun(r:Rank)=>.d .str (dG r))
theorem XJ:aH Tryz.prog 69 wT:=by
 refine aH.fn qAM mixed [] [] rfl rfl ?_;rintro⟨(r:Rank),_⟩ hpre;replace hpre:=hpre _ rfl;dsimp only[cu]at hpre;obtain⟨hr,hs⟩:=hpre;refine⟨[],?_⟩;repeat' (first
  |(
 with_reducible apply Side.mk
 (try dsimp only[cu,aC,aB,gts,loK,hiK,eE,eN])
 first
 |omega
 |(
  rw[bF om];omega)
 |(
  have h1:=wA (v:=r.1);have h2:=bW (IntKind.u64.wrap r.2);simp only[bO];omega))
  |(conv=>whnf
    first
     |with_reducible first|done|exact trivial|refine NilBr.mk (fun h=>?_) ?_|apply aL|apply aK|refine aM kr ?_|apply aN|apply bL|apply bK|apply aU
     |((with_reducible first|apply aW|apply aV|apply bH)<;>intro h<;>(try dsimp only[cu,eE,eN]at h)<;>(try(exfalso;omega)))))
 all_goals(
 with_reducible apply Leaf.mk
 (try dsimp only[cu,aC,aB,gts,eE,eN]at *)
 rw[dG,bF om])
abbrev qXK:Tbl:=(69,wT)::qXJ
theorem qAN:aD Tryz.prog qXK:=aD.cons XJ qAM
abbrev wR:Ct:=.fn [cX,.list gZ] (some (fun(s:Schema) (l:List Rec)=>(l.length<=1073741824)/\(1<=s.1.length/\s.1.length<=12))) (fun(s:Schema) (l:List Rec)=>.d (.list (.list bU)) (jX l (s.1.length:Int)++ [kB l]))
theorem XI:aH Tryz.prog 65 wR:=by
 refine aH.fn qAN mixed [] [] rfl rfl ?_;rintro⟨(s:Schema),(l:List Rec),_⟩ hpre;replace hpre:=hpre _ rfl;dsimp only[cu]at hpre;obtain⟨hl,hs⟩:=hpre;refine⟨[(0,8,LA.mk [.sl 16 (.int .i64),.lst 6 bU 43] (fun y=>Tag 75/\cu [.int .i64,.list bU] (fun(k:Int) (M:List Val)=>(0<=k/\k<=l.length)/\(M=kB (l.take k.toNat))/\((M.length:Int)=k)) y) (cu [.int .i64,.list bU] (fun(k:Int) (M:List Val)=>((l.length:Int)-k).toNat)) (cu [.int .i64,.list bU] (fun(k:Int) (M:List Val)=>([]:List (Nat×Nat×LA)))))],?_⟩;repeat' (first
  |(
 with_reducible refine Side.mk ⟨(⟨⟩:Tag 75),?_⟩
 dsimp only[cu,aC,aB,gts,eE,eN]
 refine⟨?_,?_,?_⟩
 ·omega
 ·first
  |rfl
  |rw[hm,qDI om]
 ·first
  |(
  simp
  done)
  |(
  simp only[gc,gj,gi]
  omega))
  |(
 with_reducible apply Side.mk
 (try dsimp only[cu,aC,aB,gts,loK,hiK,eE,eN])
 first
 |done
 |omega
 |exact Eq.refl _
 |simp only[gc,gj,gi];omega
 |(
  have:=(lG (l:=l) (n:=(s.1.length:Int)) ⟨om,om⟩).1;simp only[gc,gj,gi];omega))
  |(conv=>whnf
    first
     |with_reducible first|done|exact trivial|refine NilBr.mk (fun h=>?_) ?_|apply aL|apply aK|refine aM kr ?_|apply aN|apply bL|apply bK|apply aU
     |((with_reducible first|apply aW|apply aV|apply bH)<;>intro h<;>(try dsimp only[cu,eE,eN]at h)<;>(try(exfalso;omega)))
     |(
 intro yy (hy:Tag 75/\_)
 obtain⟨(k:Int),(M:List Val),_⟩:=yy
 replace hy:=hy.2
 dsimp only[cu,aC,aB,gts,eE,eN]at hy
 obtain⟨hk,hm,hml⟩:=hy)))
 all_goals(
 with_reducible apply Leaf.mk
 (try dsimp only[cu,aC,aB,gts,eE,eN]at *)
 rw[hm,kj om])
abbrev qXL:Tbl:=(65,wR)::qXK
theorem qAO:aD Tryz.prog qXL:=aD.cons XI qAN
theorem qeH {s:Schema} {l:List Rec} (h:¬aS s=0):lV s l=(⟨#[]⟩,aS s):=by rw[lV,if_pos h]
theorem qeI {s:Schema} {l:List Rec} (h:aS s=0) (h1:l.length>1024):lV s l=(⟨#[]⟩,7):=by rw[lV,if_neg (fun q=>q h),if_pos h1]
theorem qY0 {s:Schema} {l:List Rec} (h:aS s=0) (h1:¬l.length>1024) (h2:l.length=0\/dN s l=false):lV s l=(⟨#[]⟩,1):=by rw[lV,if_neg (fun q=>q h),if_neg h1,if_pos h2]
theorem qY1 {s:Schema} {l:List Rec} (h:aS s=0) (h1:¬l.length>1024) (h2:¬l.length=0) (h3:dN s l=true):lV s l=(eT s l,0):=by
 rw[lV,if_neg (fun q=>q h),if_neg h1,if_neg (by rintro(q|q);exact h2 q;rw[h3]at q;cases q)]
abbrev yO:Ct:=.fn [cX,.list gZ] (some (fun(s:Schema) (l:List Rec)=>(l.length<=9223372036854775807)/\(AZ l))) (fun(s:Schema) (l:List Rec)=>.tup [.str,.int .i64] ((lV s l).1,(lV s l).2,()))
theorem qCM:aH Tryz.prog 26 yO:=by
 refine aH.fn qAO mixed [] [73] rfl rfl ?_;rintro⟨(s:Schema),(l:List Rec),_⟩ hpre;replace hpre:=hpre _ rfl;dsimp only[cu]at hpre;obtain⟨hl,hin⟩:=hpre;refine⟨[(0,24,LA.mk [.sl 54 (.int .i64),.row 1 [.osf 1,.own (.int .u8) (⟨5,1⟩:El)],.row 2 [.osf 2,.own (.int .u8) (⟨5,1⟩:El)]] (fun y=>Tag 76/\cu [.int .i64,.bool,.list (.int .u8),.bool,.list (.int .u8)] (fun(k:Int) (b1:Bool) (B:List Int) (b2:Bool) (F:List Int)=>(0<=k/\k<=(jX l (s.1.length:Int)++ [kB l]).length)/\(b2=true)/\(aT B=dY (chP s l k.toNat))/\(aT F=aT (four (idS s).1)++aT (put (l.length:Int))++dY ((chP s l k.toNat).map szB))/\((B.length:Int)<=4398046585379*k)/\(14<=(F.length:Int)+9/\(F.length:Int)<=14+10*k)) y) (cu [.int .i64,.bool,.list (.int .u8),.bool,.list (.int .u8)] (fun(k:Int) (b1:Bool) (B:List Int) (b2:Bool) (F:List Int)=>(((jX l (s.1.length:Int)++ [kB l]).length:Int)-k).toNat)) (cu [.int .i64,.bool,.list (.int .u8),.bool,.list (.int .u8)] (fun(k:Int) (b1:Bool) (B:List Int) (b2:Bool) (F:List Int)=>([]:List (Nat×Nat×LA))))),(0,44,LA.mk [.sl 84 (.int .i64),.row 2 [.osf 2,.own (.int .u8) (⟨5,1⟩:El)]] (fun y=>Tag 77/\cu [.int .i64,.bool,.list (.int .u8)] (fun(k:Int) (b2:Bool) (G:List Int)=>(0<=k/\k<=(dV s l).2.1.length)/\(b2=true)/\(aT G=aT (four (idS s).1)++aT (put (l.length:Int))++dY ((chnks s l).map szB)++dY (((dV s l).2.1.take k.toNat).map sA))/\(5<=(G.length:Int)/\(G.length:Int)<=144+2200000*k)) y) (cu [.int .i64,.bool,.list (.int .u8)] (fun(k:Int) (b2:Bool) (G:List Int)=>(((dV s l).2.1.length:Int)-k).toNat)) (cu [.int .i64,.bool,.list (.int .u8)] (fun(k:Int) (b2:Bool) (G:List Int)=>([]:List (Nat×Nat×LA)))))],?_⟩;repeat' (first
  |(
 with_reducible refine Side.mk ⟨(⟨⟩:Tag 76),?_⟩
 dsimp only[cu,aC,aB,gts,eE,eN]
 refine⟨?_,?_,?_,?_,?_,?_⟩
 ·omega
 ·rfl
 ·first
  |rfl
  |(
  have hv:=cW (s:=s) (l:=l) (oC wa)
  have hs:=bI (dR hv).1
  have hcl:=rJ (s:=s) (l:=l) ⟨om,hs.1⟩
  obtain⟨c1,c2,c3,c4,c5,c6⟩:=rR hv hin om om (k:=k) om
  rw[c1,c5,cR,bP,hb,VR om,HY,HZ])
 ·first
  |(
  have hul:=bF (n:=(l.length:Int)) om
  have p3:=bW (l.length:Int)
  have f4:∀v,(four v).length=4:=fun _=>rfl
  rw[bP,hul]
  exact(EW _).symm)
  |(
  have hv:=cW (s:=s) (l:=l) (oC wa)
  have hs:=bI (dR hv).1
  have hcl:=rJ (s:=s) (l:=l) ⟨om,hs.1⟩
  obtain⟨c1,c2,c3,c4,c5,c6⟩:=rR hv hin om om (k:=k) om
  have hu:=bF (n:=((chnk s l k.toNat).size:Int)) om
  have p1:=bW ((chnk s l k.toNat).size:Int)
  rw[c1,c5,hu,cR,bP,hf,VR om,List.map_append,HY,kp,List.map_nil,HZ,ka]
  rfl)
 ·first
  |exact Int.le_refl _
  |(
  have hv:=cW (s:=s) (l:=l) (oC wa)
  have hs:=bI (dR hv).1
  have hcl:=rJ (s:=s) (l:=l) ⟨om,hs.1⟩
  obtain⟨c1,c2,c3,c4,c5,c6⟩:=rR hv hin om om (k:=k) om
  rw[c1,c5]
  (try simp only[gc,gi,aR,gf,bO])
  omega)
 ·first
  |(
  have hul:=bF (n:=(l.length:Int)) om
  have p3:=bW (l.length:Int)
  have f4:∀v,(four v).length=4:=fun _=>rfl
  rw[hul]
  (try simp only[gc,gi,aR,gf,bO])
  rw[f4]
  omega)
  |(
  have hv:=cW (s:=s) (l:=l) (oC wa)
  have hs:=bI (dR hv).1
  have hcl:=rJ (s:=s) (l:=l) ⟨om,hs.1⟩
  obtain⟨c1,c2,c3,c4,c5,c6⟩:=rR hv hin om om (k:=k) om
  have hu:=bF (n:=((chnk s l k.toNat).size:Int)) om
  have p1:=bW ((chnk s l k.toNat).size:Int)
  rw[c1,c5,hu]
  (try simp only[gc,gi,aR,gf,bO])
  omega))
  |(
 with_reducible refine Side.mk ⟨(⟨⟩:Tag 77),?_⟩
 dsimp only[cu,aC,aB,gts,eE,eN]
 refine⟨?_,?_,?_,?_⟩
 ·omega
 ·rfl
 ·first
  |(
  have hv:=cW (s:=s) (l:=l) (oC wa)
  have hs:=bI (dR hv).1
  have hcl:=rJ (s:=s) (l:=l) ⟨om,hs.1⟩
  first
  |(
   rw[hf,qED om];exact(EW _).symm)
  |(
   have zl:(dV s l).2.1.length=s.1.length:=vF;have zg:uM (dV s l).2.1[k.toNat]!:=LB hv hin om k ⟨hk.1,wa⟩;have zs:=AR zg;rw[cR,bP,hg,qK0 om,ka]))
 ·first
  |(
  have hv:=cW (s:=s) (l:=l) (oC wa)
  have hs:=bI (dR hv).1
  have hcl:=rJ (s:=s) (l:=l) ⟨om,hs.1⟩
  first
  |omega
  |(
   have zl:(dV s l).2.1.length=s.1.length:=vF;have zg:uM (dV s l).2.1[k.toNat]!:=LB hv hin om k ⟨hk.1,wa⟩;have zs:=AR zg;(try simp only[gc,gi,aR,gf,bO]);omega)))
  |(
 with_reducible apply Side.mk
 (try dsimp only[cu,aC,aB,gts,loK,hiK,eE,eN])
 first
 |done
 |omega
 |exact Eq.refl _
 |simp only[gc,gj,gi];omega
 |(
  have hv:=cW (s:=s) (l:=l) (oC wa);have hs:=bI (dR hv).1;have hcl:=rJ (s:=s) (l:=l) ⟨om,hs.1⟩;first
  |omega
  |(
   have zl:(dV s l).2.1.length=s.1.length:=vF;omega))
 |(
  have hul:=bF (n:=(l.length:Int)) om;have p3:=bW (l.length:Int);have f4:∀v,(four v).length=4:=fun _=>rfl
  first
  |(
   rw[hul];omega)
  |(
   (try simp only[gc,gi,aR,gf,bO,f4]);rw[hul];omega))
 |(
  have hv:=cW (s:=s) (l:=l) (oC wa);have hs:=bI (dR hv).1;have hcl:=rJ (s:=s) (l:=l) ⟨om,hs.1⟩;first
  |(
   obtain⟨c1,c2,c3,c4,c5,c6⟩:=rR hv hin om om (k:=k) om;first
   |(
    rw[c1];exact⟨om,c3⟩)
   |(
    rw[c1,c5];(try simp only[gc,gi,aR,gf,bO]);omega)
   |(
    have hu:=bF (n:=((chnk s l k.toNat).size:Int)) om;have p1:=bW ((chnk s l k.toNat).size:Int);rw[c1,c5,hu];(try simp only[gc,gi,aR,gf,bO]);omega))
  |(
   have zl:(dV s l).2.1.length=s.1.length:=vF;first
   |(
    have zg:uM (dV s l).2.1[k.toNat]!:=LB hv hin om k ⟨hk.1,wa⟩;have zs:=AR zg;first
    |omega
    |(exact⟨⟨zg.1.2,zg.2.1.2⟩,⟨zg.2.2.1.2.1,by have:=zg.2.2.1.2.2;omega⟩,⟨zg.2.2.2.2.1,by have:=zg.2.2.2.2.2;omega⟩⟩))
   |(
    have hul:=bF (n:=(l.length:Int)) om;have p3:=bW (l.length:Int);have f4:∀v,(four v).length=4:=fun _=>rfl
    have r1:zF s (dV s l).2.2.1:=kZ hv hin (j:=0) om;have r2:zF s (dV s l).2.2.2:=kZ hv hin (j:=l.length-1) om;have z1:=qY r1;have z2:=qY r2;have u9:(⟨#[77,80,84,49]⟩:ByteArray).size=4:=rfl;first
    |exact⟨⟨r1.2.2.1,r1.2.2.2⟩,r1.1.2.1,by have:=r1.1.2.2;omega⟩
    |exact⟨⟨r2.2.2.1,r2.2.2.2⟩,r2.1.2.1,by have:=r2.1.2.2;omega⟩
    |(
     (try simp only[gc,gi,aR,gf,bO,f4]);omega)))))
  |(conv=>whnf
    first
     |with_reducible first|done|exact trivial|refine NilBr.mk (fun h=>?_) ?_|apply aL|apply aK|refine aM kr ?_|apply aN|apply bL|apply bK|apply aU
     |((with_reducible first|apply aW|apply aV|apply bH)<;>intro h<;>(try dsimp only[cu,eE,eN]at h)<;>(try(exfalso;omega)))
     |(
 intro yy (hy:Tag 76/\_)
 obtain⟨(k:Int),(b1:Bool),(B:List Int),(b2:Bool),(F:List Int),_⟩:=yy
 replace hy:=hy.2
 dsimp only[cu,aC,aB,gts,eE,eN]at hy
 obtain⟨hk,ht,hb,hf,hbz,hfz⟩:=hy
 subst ht
 rcases b1 with _|_)
     |(
 intro yy (hy:Tag 77/\_)
 obtain⟨(k:Int),(b2:Bool),(G:List Int),_⟩:=yy
 replace hy:=hy.2
 dsimp only[cu,aC,aB,gts,eE,eN]at hy
 obtain⟨hk,ht2,hg,hgz⟩:=hy
 subst ht2)))
 all_goals(
 with_reducible apply Leaf.mk
 (try dsimp only[cu,aC,aB,gts,eE,eN]at *)
 first
 |rw[qeH wa]
 |rw[qeI wa om]
 |rw[qY0 wa om (.inl om)]
 |rw[qY0 wa om (.inr (qKX wa))]
 |(
  have hv:=cW (s:=s) (l:=l) (oC wa);have hs:=bI (dR hv).1;have hcl:=rJ (s:=s) (l:=l) ⟨om,hs.1⟩;first
  |(
   obtain⟨c1,c2,c3,c4,c5,c6⟩:=rR hv hin om om (k:=k) om;rw[<-c1]at c4;exact absurd c4 wa)
  |(
   have zl:(dV s l).2.1.length=s.1.length:=vF;have hul:=bF (n:=(l.length:Int)) om;have p3:=bW (l.length:Int);have f4:∀v,(four v).length=4:=fun _=>rfl
   have r1:zF s (dV s l).2.2.1:=kZ hv hin (j:=0) om;have r2:zF s (dV s l).2.2.2:=kZ hv hin (j:=l.length-1) om;have z1:=qY r1;have z2:=qY r2;have u9:(⟨#[77,80,84,49]⟩:ByteArray).size=4:=rfl;have hB:aT B=dY (chnks s l):=by rw[hb,qED om]
   rw[kj om]at hg;have hF:aT (G++aE (dG (dV s l).2.2.1++dG (dV s l).2.2.2))=jY s l:=qB5 (dR hv).1 hg rfl;have hS:aT ((G++aE (dG (dV s l).2.2.1++dG (dV s l).2.2.2))++aE (aT (four (LR oB (aT (G++aE (dG (dV s l).2.2.1++dG (dV s l).2.2.2)))))))=dH (jY s l):=by
    rw[cR,bP,hF];rfl
   rw[qY1 (dR hv).1 om om (oC wa)];show _=fO (dY (chnks s l)) (dH (jY s l));rw[<-hB,<-hS,fO,bO,KV ⟨om,by
    (try simp only[gc,gi,aR,gf,bO,f4]);omega⟩])
  |(
   rw[qY1 (dR hv).1 om om (oC wa)];done)))
abbrev qXM:Tbl:=(26,yO)::qXL
theorem qRL:aD Tryz.prog qXM:=aD.cons qCM qAO
def stored (c:Col):Int:=if c.2.1=3 then 65 else 10
end Go.Proofs.YtcjiefknhfhmkaaGreatDoor
namespace Go.Abs
set_option maxRecDepth 100000
set_option maxHeartbeats 4000000
set_option linter.unusedVariables false
set_option linter.unusedSimpArgs false
inductive RI (p:Nat->Bool):V->Prop
 |v (x:Value):RI p (.v x)
 |any:RI p .any
 |pO {id:Nat} (row off:Nat):p id=true->RI p (.pO id row off)
 |sO {id:Nat} (off len:Nat):p id=true->RI p (.sO id off len)
 |pF {row:List V} (off:Nat):(∀x,x∈row->RI p x)->RI p (.pF row off)
 |sF (sz:Nat) {rows:List (List V)}:(∀r,r∈rows->∀x,x∈r->RI p x)->RI p (.sF sz rows)
 |agg {xs:List V}:(∀x,x∈xs->RI p x)->RI p (.agg xs)
 |tup {xs:List V}:(∀x,x∈xs->RI p x)->RI p (.tup xs)
 |fn {f:Fn} {a b:List V}:(∀x,x∈a->RI p x)->(∀x,x∈b->RI p x)->RI p (.fn f a b)
 |ifc {t:TypeId} {x:V}:RI p x->RI p (.ifc t x)
def ri (p:Nat->Bool):Nat->V->Bool
 |0,_=>false
 |n+1,x=>match x with
  | .v _=>true
  | .any=>true
  | .pO id _ _=>p id
  | .sO id _ _=>p id
  | .pF row _=>row.all (ri p n)
  | .sF _ rows=>rows.all fun r=>r.all (ri p n)
  | .agg xs=>xs.all (ri p n)
  | .tup xs=>xs.all (ri p n)
  | .fn _ a b=>a.all (ri p n)&&b.all (ri p n)
  | .ifc _ x=>ri p n x
  |_=>false
theorem qFY {p:Nat->Bool}:∀ {n:Nat} {x:V},ri p n x=true->RI p x
 |0,_,h=>by cases h
 |n+1,x,h=>by
  have l:∀ {xs:List V},xs.all (ri p n)=true->∀x,x∈xs->RI p x:=fun h x hx=>qFY (gh.1 h x hx)
  cases x with
  |v y=>exact .v y
  |any=>exact .any
  |pO id r o=>exact .pO r o h
  |sO id r o=>exact .sO r o h
  |pF row o=>exact .pF o (l h)
  |sF sz rows=>exact .sF sz fun r hr=>l (gh.1 (show rows.all (fun r=>r.all (ri p n))=true from h) r hr)
  |agg xs=>exact .agg (l h)
  |tup xs=>exact .tup (l h)
  |fn f a b=>obtain⟨h1,h2⟩:=ga.1 (show(a.all (ri p n)&&b.all (ri p n))=true from h);exact .fn (l h1) (l h2)
  |ifc t x=>exact .ifc (qFY (n:=n) h)
  |sL t l=>cases h
  |oL i m=>cases h
theorem Rep.cutI {w:World} {p:Nat->Bool} {ι ι0:Iota} {M M0:Nat->Prop} (hi:∀id l,p id=true->ι id=some l->ι0 id=some l) (hM:∀b,M0 b->M b):∀ {x:V} {y:Value},Rep w ι M x y->RI p x->Rep w ι0 M0 x y:=by
 intro x y r;induction r with
 |v x=>intro _;exact .v x
 |any x=>intro _;exact .any x
 |pF row off b o cells hb hm hc _ ih=>intro h;cases h with|pF _ h=>exact .pF row off b o cells hb (fun q=>hm (hM _ q)) hc (fun j hj=>ih j hj (h _ (gk hj)))
 |pO id row off l hl=>intro h;cases h with|pO _ _ h=>exact .pO id row off l (hi _ _ h hl)
 |sF sz rows a cap cells hb hcap hr hc _ ih=>intro h;cases h with|sF _ h=>exact .sF sz rows a cap cells (fun hne=>⟨(hb hne).1,(hb hne).2.1,fun q=>(hb hne).2.2 (hM _ q)⟩) hcap hr hc (fun i hi j hj=>ih i hi j hj (h _ (gk hi) _ (gk hj)))
 |sN sz=>intro _;exact .sN sz
 |sO id off len cap l c e fr hl hcap hb hs=>intro h;cases h with|sO _ _ h=>exact .sO id off len cap l c e fr (hi _ _ h hl) hcap hb hs
 |agg xs vs hl _ ih=>intro h;cases h with|agg h=>exact .agg xs vs hl (fun i h1 h2=>ih i h1 h2 (h _ (gk h1)))
 |tup xs vs hl _ ih=>intro h;cases h with|tup h=>exact .tup xs vs hl (fun i h1 h2=>ih i h1 h2 (h _ (gk h1)))
 |fn f a b vs us h1 h2 _ _ ih1 ih2=>intro h;cases h with|fn ha hb=>exact .fn f a b vs us h1 h2 (fun i q1 q2=>ih1 i q1 q2 (ha _ (gk q1))) (fun i q1 q2=>ih2 i q1 q2 (hb _ (gk q1)))
 |ifc t x y _ ih=>intro h;cases h with|ifc h=>exact .ifc t x y (ih h)
 |sL t l y _ ih=>intro h;cases h
 |oL id m y _ ih=>intro h;cases h
theorem Rep.wideI {w:World} {ι ι2:Iota} {M M2:Nat->Prop} (hi:∀id l,ι id=some l->ι2 id=some l) (hM:∀b,M2 b->M b):∀ {x:V} {y:Value},Rep w ι M x y->Rep w ι2 M2 x y:=by
 intro x y r;induction r with
 |v x=>exact .v x
 |any x=>exact .any x
 |pF row off b o cells hb hm hc _ ih=>exact .pF row off b o cells hb (fun q=>hm (hM _ q)) hc ih
 |pO id row off l hl=>exact .pO id row off l (hi _ _ hl)
 |sF sz rows a cap cells hb hcap hr hc _ ih=>exact .sF sz rows a cap cells (fun hne=>⟨(hb hne).1,(hb hne).2.1,fun q=>(hb hne).2.2 (hM _ q)⟩) hcap hr hc ih
 |sN sz=>exact .sN sz
 |sO id off len cap l c e fr hl hcap hb hs=>exact .sO id off len cap l c e fr (hi _ _ hl) hcap hb hs
 |agg xs vs hl _ ih=>exact .agg xs vs hl ih
 |tup xs vs hl _ ih=>exact .tup xs vs hl ih
 |fn f a b vs us h1 h2 _ _ ih1 ih2=>exact .fn f a b vs us h1 h2 ih1 ih2
 |ifc t x y _ ih=>exact .ifc t x y ih
 |sL t l y _ ih=>exact .sL t l y ih
 |oL id m y _ ih=>exact .oL id m y ih
theorem PC.ext {P:Program} {f:FuncId} {args:List V} {x0:V} {S T:Nat->Bool} {h0 h1 k K:Heap}
  (hlK:K.length=k.length)
  (hargs:∀x,x∈args->RI S x) (hrows:∀(id:Nat) (o:AObj),h0[id]? =some (.live o)->∀r,r∈o.rows->∀x,x∈r->RI S x)
  (hS0:∀(id:Nat) (o:AObj),S id=false->h0[id]? ≠some (.live o)) (hk:∀id,S id=true->k[id]? =h0[id]?)
  (hST:∀id,S id=true->T id=true) (hT1:∀id,T id=false->h1[id]? =some .free\/h1[id]? =none) (hT2:∀id,T id=true->S id=false->k[id]? =some .free\/k[id]? =none)
  (hK:∀id,K[id]? =if T id=true then h1[id]? else k[id]?)
  (hc:PC P f args h0 (fun y k'=>y=x0/\k'=h1)):PC P f args k (fun y k'=>y=x0/\k'=K):=by
 intro ι w vals hp HR;let ι0:Iota:={at':=fun id=>if S id=true then ι id else none,X:=fun b=>ι.X b\/∃id o l,S id=false/\k[id]? =some (.live o)/\ι id=some l/\l.blk=b}
 have i0:∀id,ι0 id=if S id=true then ι id else none:=fun _=>rfl
 have i0s:∀id,S id=true->ι0 id=ι id:=fun id h=>by rw[i0,if_pos h]
 have i0n:∀id,S id=false->ι0 id=none:=fun id h=>by rw[i0,if_neg (by rw[h];simp)]
 have ob0:∀b,Ob h0 ι0 b->Ob k ι b:=by
  rintro b ⟨id,o,l,q1,q2,q3⟩;cases hs:S id with
  |true=>exact⟨id,o,l,by rw[hk id hs];exact q1,by rw[<-i0s id hs];exact q2,q3⟩
  |false=>exact(hS0 id o hs q1).elim
 have mt0:∀b,Mt h0 ι0 b->Mt k ι b:=by
  rintro b ((q|⟨id,o,l,_,q1,q2,q3⟩)|q)
  ·exact .inl q
  ·exact .inr ⟨id,o,l,q1,q2,q3⟩
  ·exact .inr (ob0 b q)
 have H0:HRel h0 ι0 w:=by
  refine⟨fun id o ho=>?_,fun id ho=>?_,fun id ho=>?_,fun id o l id' o' l' a1 a2 b1 b2 hb=>?_,fun b hb=>?_,fun b hb q=>?_⟩
  ·cases hs:S id with
   |false=>exact(hS0 id o hs ho).elim
   |true=>
    obtain⟨l,c,fr,q1,la⟩:=HR.live id o (by rw[hk id hs];exact ho);refine⟨l,c,fr,by rw[i0s id hs];exact q1,la.blk,la.unfrozen,la.sz,la.rows,la.fits,fun i hi j hj=>?_⟩;obtain⟨y,g1,g2⟩:=la.reads i hi j hj;exact⟨y,g1,g2.cutI (p:=S) (fun id l h e=>by rw[i0s id h];exact e) mt0 (hrows id o ho _ (gk hi) _ (gk hj))⟩
  ·cases hs:S id with
   |false=>exact i0n id hs
   |true=>rw[i0s id hs];exact HR.free id (by rw[hk id hs];exact ho)
  ·cases hs:S id with
   |false=>exact i0n id hs
   |true=>rw[i0s id hs];exact HR.out id (gm.1 (by rw[hk id hs];exact gm.2 ho))
  ·have sid:∀ {id:Nat} {l:Loc},ι0 id=some l->S id=true/\ι id=some l:=by
     intro id l e;cases hs:S id with
     |true=>exact⟨rfl,by rw[<-i0s id hs];exact e⟩
     |false=>rw[i0n id hs]at e;cases e
   obtain⟨s1,e1⟩:=sid a2;obtain⟨s2,e2⟩:=sid b2;exact HR.apart id o l id' o' l' (by rw[hk id s1];exact a1) e1 (by rw[hk id' s2];exact b1) e2 hb
  ·rcases hb with q|⟨id,o,l,_,q1,q2,q3⟩
   ·exact HR.xlt b q
   ·obtain⟨l',c,fr,g1,la⟩:=HR.live id o q1
    rw[q2]at g1;injection g1 with g1;subst g1;rw[<-q3];exact(kg.1 la.blk).1
  ·rcases hb with q'|⟨id,o,l,s1,q1,q2,q3⟩
   ·exact HR.xob b q' (ob0 b q)
   ·obtain⟨id',o',l',g1,g2,g3⟩:=q
    cases hs:S id' with
    |false=>exact hS0 id' o' hs g1
    |true=>
     rw[i0s id' hs]at g2;have:=HR.apart id o l id' o' l' q1 q2 (by rw[hk id' hs];exact g1) g2 (q3.trans g3.symm);subst this;rw[hs]at s1;cases s1
 refine(hc ι0 w vals ⟨hp.1,fun i x hx=>let ⟨y,y1,y2⟩:=hp.2 i x hx;⟨y,y1,y2.cutI (p:=S) (fun id l h e=>by rw[i0s id h];exact e) mt0 (hargs x (cD hx))⟩⟩ H0).mono ?_;rintro e w' ⟨y,x,h',ι',rfl,⟨rfl,rfl⟩,ry,H1,ev⟩;have hTn:∀id,T id=false->ι' id=none:=by
  intro id h;rcases hT1 id h with q|q
  ·exact H1.free id q
  ·exact H1.out id (gm.1 q)
 have hTk:∀id,T id=true->S id=false->ι id=none:=by
  intro id h1 h2;rcases hT2 id h1 h2 with q|q
  ·exact HR.free id q
  ·exact HR.out id (gm.1 q)
 let ι2:Iota:={at':=fun id=>if T id=true then ι' id else ι id,X:=ι.X}
 have i2:∀id,ι2 id=if T id=true then ι' id else ι id:=fun _=>rfl
 have i2t:∀id,T id=true->ι2 id=ι' id:=fun id h=>by rw[i2,if_pos h]
 have i2n:∀id,T id=false->ι2 id=ι id:=fun id h=>by rw[i2,if_neg (by rw[h];simp)]
 have Kt:∀id,T id=true->K[id]? =h'[id]?:=fun id h=>by rw[hK,if_pos h]
 have Kn:∀id,T id=false->K[id]? =k[id]?:=fun id h=>by rw[hK,if_neg (by rw[h];simp)]
 have nST:∀id,T id=false->S id=false:=fun id h=>by
  cases hs:S id with
  |false=>rfl
  |true=>rw[hST id hs]at h;cases h
 have up:∀id l,ι' id=some l->ι2 id=some l:=by
  intro id l e;cases h:T id with
  |true=>rw[i2t id h];exact e
  |false=>rw[hTn id h]at e;cases e
 have up0:∀id l,ι id=some l->ι2 id=some l:=by
  intro id l e;cases h:T id with
  |false=>rw[i2n id h];exact e
  |true=>
   rw[i2t id h];cases hs:S id with
   |true=>exact ev.iota id l (by rw[i0s id hs];exact e)
   |false=>rw[hTk id h hs]at e;cases e
 have hX:ι'.X=ι0.X:=ev.away;have obK:∀b,Ob K ι2 b->Ob h' ι' b\/∃id o l,T id=false/\k[id]? =some (.live o)/\ι id=some l/\l.blk=b:=by
  rintro b ⟨id,o,l,q1,q2,q3⟩;cases h:T id with
  |true=>exact .inl ⟨id,o,l,by rw[<-Kt id h];exact q1,by rw[<-i2t id h];exact q2,q3⟩
  |false=>exact .inr ⟨id,o,l,h,by rw[<-Kn id h];exact q1,by rw[<-i2n id h];exact q2,q3⟩
 have evk:Evolve k ι w K ι2 w':=by
  refine⟨ev.os,ev.tape,ev.output,ev.size,up0,rfl,fun b hb hn=>?_,ev.sizes⟩;obtain⟨q1,q2⟩:=ev.frame b hb (fun q=>hn (ob0 b q));refine⟨q1,fun q=>?_⟩;rcases obK b q with g|⟨id,o,l,_,g1,g2,g3⟩
  ·exact q2 g
  ·exact hn ⟨id,o,l,g1,g2,g3⟩
 have mtK:∀b,Mt K ι2 b->Mt h' ι' b:=by
  rintro b (q|q)
  ·exact .inl (by rw[hX];exact .inl q)
  ·rcases obK b q with g|⟨id,o,l,g0,g1,g2,g3⟩
   ·exact .inr g
   ·exact .inl (by rw[hX];exact .inr ⟨id,o,l,nST id g0,g1,g2,g3⟩)
 refine⟨y,x,K,ι2,rfl,⟨rfl,rfl⟩,ry.wideI up mtK,?_,evk⟩;have far:∀ {id:Nat} {o:AObj} {l:Loc},T id=false->k[id]? =some (.live o)->ι id=some l->ι'.X l.blk:=fun h q1 q2=>by rw[hX];exact .inr ⟨_,_,_,nST _ h,q1,q2,rfl⟩
 refine⟨fun id o ho=>?_,fun id ho=>?_,fun id ho=>?_,fun id o l id' o' l' a1 a2 b1 b2 hb=>?_,fun b hb=>Nat.lt_of_lt_of_le (HR.xlt b hb) ev.size,fun b hb q=>?_⟩
 ·cases h:T id with
  |true=>
   obtain⟨l,c,fr,q1,la⟩:=H1.live id o (by rw[<-Kt id h];exact ho);exact⟨l,c,fr,by rw[i2t id h];exact q1,la.blk,la.unfrozen,la.sz,la.rows,la.fits,fun i hi j hj=>let ⟨y,g1,g2⟩:=la.reads i hi j hj;⟨y,g1,g2.wideI up mtK⟩⟩
  |false=>
   have ho':k[id]? =some (.live o):=by rw[<-Kn id h];exact ho
   obtain⟨l,c,fr,q1,la⟩:=HR.live id o ho';have hlt:l.blk<w.heap.size:=(kg.1 la.blk).1;have hno:¬Ob h0 ι0 l.blk:=H0.xob l.blk (by rw[<-hX];exact far h ho' q1);exact⟨l,c,fr,by rw[i2n id h];exact q1,(ev.frame l.blk hlt hno).1.trans la.blk,la.unfrozen,la.sz,la.rows,la.fits,fun i hi j hj=>let ⟨y,g1,g2⟩:=la.reads i hi j hj;⟨y,g1,g2.mono evk⟩⟩
 ·cases h:T id with
  |true=>rw[i2t id h];exact H1.free id (by rw[<-Kt id h];exact ho)
  |false=>rw[i2n id h];exact HR.free id (by rw[<-Kn id h];exact ho)
 ·have hk':k.length<=id:=om
  have hn:=HR.out id hk';cases h:T id with
  |false=>rw[i2n id h];exact hn
  |true=>
   rw[i2t id h];have:h'[id]? =none:=by rw[<-Kt id h];exact gm.2 ho
   exact H1.out id (gm.1 this)
 ·cases h:T id with
  |true=>
   rw[i2t id h]at a2;rw[Kt id h]at a1;cases h':T id' with
   |true=>rw[i2t id' h']at b2;rw[Kt id' h']at b1;exact H1.apart id o l id' o' l' a1 a2 b1 b2 hb
   |false=>
    rw[i2n id' h']at b2;rw[Kn id' h']at b1;exact(H1.xob l'.blk (far h' b1 b2) ⟨id,o,l,a1,a2,hb⟩).elim
  |false=>
   rw[i2n id h]at a2;rw[Kn id h]at a1;cases h':T id' with
   |true=>
    rw[i2t id' h']at b2;rw[Kt id' h']at b1;exact(H1.xob l.blk (far h a1 a2) ⟨id',o',l',b1,b2,hb.symm⟩).elim
   |false=>rw[i2n id' h']at b2;rw[Kn id' h']at b1;exact HR.apart id o l id' o' l' a1 a2 b1 b2 hb
 ·rcases obK b q with g|⟨id,o,l,g0,g1,g2,g3⟩
  ·exact H1.xob b (by rw[hX];exact .inl hb) g
  ·exact HR.xob b hb ⟨id,o,l,g1,g2,g3⟩
noncomputable section
inductive Tr (α:Type) where
 |nil
 |node (l:Tr α) (v:Option α) (r:Tr α)
namespace Tr
variable {α:Type}
def get (t:Tr α):Nat->Option α:=
 Tr.rec (motive:=fun _=>Nat->Option α) (fun _=>none)
  (fun _ v _ gl gr n=>bif gn n 0 then v else bif gn (n%2) 1 then gl (n/2)else gr (n/2-1)) t
def put (x:α) (ih:Tr α->Nat->Tr α) (l:Tr α) (v:Option α) (r:Tr α) (n:Nat):Tr α:=
 bif gn n 0 then .node l (some x) r else bif gn (n%2) 1 then .node (ih l (n/2)) v r else .node l v (ih r (n/2-1))
def qQ7 (x:α) (f:Nat):Tr α->Nat->Tr α:=
 Nat.rec (motive:=fun _=>Tr α->Nat->Tr α) (fun t _=>t)
  (fun _ ih t=>Tr.rec (motive:=fun _=>Nat->Tr α) (put x ih .nil none .nil) (fun l v r _ _=>put x ih l v r) t) f
def set (t:Tr α) (n:Nat) (x:α):Tr α:=qQ7 x (n+1) t n
theorem WU (l r:Tr α) (v:Option α) (n:Nat):(node l v r).get n=bif gn n 0 then v else bif gn (n%2) 1 then l.get (n/2)else r.get (n/2-1):=rfl
theorem get_nil (n:Nat):(nil:Tr α).get n=none:=rfl
theorem beq_no {a b:Nat} (h:a≠b):gn a b=false:=by
 cases q:gn a b with
 |false=>rfl
 |true=>exact absurd (gg q) h
theorem beq_yes (a:Nat):gn a a=true:=Nat.beq_refl a
theorem mL (l r:Tr α) (v:Option α) {n:Nat} (h:n%2=1):(node l v r).get n=l.get (n/2):=by
 rw[WU,beq_no om,h,beq_yes];rfl
theorem mM (l r:Tr α) (v:Option α) {n:Nat} (h0:n≠0) (h:n%2≠1):(node l v r).get n=r.get (n/2-1):=by
 rw[WU,beq_no h0,beq_no h];rfl
theorem IW (x:α):∀(f:Nat) (t:Tr α) (n m:Nat),n<f->(qQ7 x f t n).get m=if m=n then some x else t.get m
 |0,_,n,_,h=>absurd h (Nat.not_lt_zero n)
 |f+1,t,n,m,h=>by
  have key:∀(l r:Tr α) (v:Option α),(put x (qQ7 x f) l v r n).get m=if m=n then some x else(node l v r).get m:=by
   intro l r v;unfold put;by_cases h0:n=0
   ·subst h0
    show(node l (some x) r).get m=_;by_cases m0:m=0
    ·subst m0;rfl
    ·rw[if_neg m0]
     by_cases m1:m%2=1
     ·rw[mL _ _ _ m1,mL _ _ _ m1]
     ·rw[mM _ _ _ m0 m1,mM _ _ _ m0 m1]
   rw[beq_no h0];by_cases h1:n%2=1
   ·rw[h1,beq_yes]
    show(node (qQ7 x f l (n/2)) v r).get m=_;by_cases m0:m=0
    ·subst m0;rw[if_neg (fun q=>h0 q.symm)];rfl
    by_cases m1:m%2=1
    ·rw[mL _ _ _ m1,mL _ _ _ m1,IW x f l (n/2) (m/2) om]
     by_cases e:m=n
     ·rw[if_pos e,if_pos om]
     ·rw[if_neg e,if_neg om]
    ·rw[mM _ _ _ m0 m1,mM _ _ _ m0 m1,if_neg om]
   ·rw[beq_no h1]
    show(node l v (qQ7 x f r (n/2-1))).get m=_;by_cases m0:m=0
    ·subst m0;rw[if_neg (fun q=>h0 q.symm)];rfl
    by_cases m1:m%2=1
    ·rw[mL _ _ _ m1,mL _ _ _ m1,if_neg om]
    ·rw[mM _ _ _ m0 m1,mM _ _ _ m0 m1,IW x f r (n/2-1) (m/2-1) om]
     by_cases e:m=n
     ·rw[if_pos e,if_pos om]
     ·rw[if_neg e,if_neg om]
  cases t with
  |node l v r=>exact key l r v
  |nil=>
   have e:=key nil nil none;have q:(node nil none nil:Tr α).get m=none:=by
    by_cases m0:m=0
    ·subst m0;rfl
    by_cases m1:m%2=1
    ·rw[mL _ _ _ m1];rfl
    ·rw[mM _ _ _ m0 m1];rfl
   rw[q]at e;exact e
theorem get_set (t:Tr α) (n m:Nat) (x:α):(t.set n x).get m=if m=n then some x else t.get m:=IW x (n+1) t n m (Nat.lt_succ_self n)
end Tr
structure RH where
 m:Nat
 nx:Nat
 t:Tr HS
 lg:List Nat
def RH.get (H:RH) (i:Nat):Option HS:=bif kf i H.m then some ((H.t.get i).getD .free)else none
def RH.set (H:RH) (i:Nat) (x:HS):RH:=⟨H.m,H.nx,H.t.set i x,H.lg⟩
def RH.den (H:RH):Heap:=(List.range H.m).map fun i=>(H.t.get i).getD .free
theorem SG (H:RH):H.den.length=H.m:=by simp [RH.den]
theorem jK {a b:Nat} (h:a<b):kf a b=true:=Nat.ble_eq_true_of_le h
theorem pU {a b:Nat} (h:¬a<b):kf a b=false:=by
 cases q:kf a b with
 |false=>rfl
 |true=>exact absurd (gb q) h
theorem cF (H:RH) (i:Nat):H.den[i]? =H.get i:=by
 unfold RH.den RH.get;by_cases h:i<H.m
 ·rw[jK h,kb,ke h];rfl
 ·rw[pU h,go (by simpa using gt h)];rfl
theorem vM (H:RH) (i:Nat) (x:HS):(H.set i x).den=H.den.set i x:=by
 apply gw;intro j;rw[cF,kh,cF,SG];show(bif kf j H.m then some (((H.t.set i x).get j).getD .free)else none)=_;by_cases h:j<H.m
 ·rw[jK h,Tr.get_set]
  by_cases e:i=j
  ·rw[if_pos e,if_pos e.symm,if_pos om];rfl
  ·rw[if_neg e,if_neg (fun q=>e q.symm)];simp only[RH.get,jK h]
 ·rw[pU h]
  split
  ·rw[if_neg om];rfl
  ·simp only[RH.get,pU h];rfl
def ralloc (H:RH) (new:Nat) (o:AObj):Option RH:=match H.get new with
 |some .free=>some (H.set new (.live o))
 |_=>none
theorem pK {H H':RH} {new:Nat} {o:AObj} (h:ralloc H new o=some H'):halloc H.den new o=some H'.den/\H'.m=H.m:=by
 unfold ralloc at h;split at h
 ·rename_i q
  injection h with h;subst h;unfold halloc;rw[cF,q,vM];exact⟨rfl,rfl⟩
 ·cases h
def qVC (H:RH):V->Option (List V×Nat)
 | .pF row off=>some (row,off)
 | .pO id r off=>match H.get id with
   |some (.live o)=>match o.rows[r]? with
    |some row=>some (row,off)
    |none=>none
   |_=>none
 |_=>none
theorem qFN (H:RH) (p:V):rowAt H.den p=qVC H p:=by
 cases p<;>simp only[rowAt,qVC,cF]<;>rfl
def qFM (P:Program) (H:RH) (t:TypeId) (p:V):Option V:=match qVC H p with
 |some (row,off)=>jV P t row off
 |none=>none
theorem YJ {P:Program} {H:RH} {t:TypeId} {p x:V} (h:qFM P H t p=some x):qQ P H.den t p=some (x,H.den):=by
 unfold qFM at h;unfold qQ;rw[qFN];split at h
 ·rename_i row off q;simp only[q,h]
 ·cases h
def qVB (H:RH) (new:Nat) (elem:TypeId) (x:V):Option (V×RH):=match leaves x with
 |some ls=>match ralloc H new ⟨ls.length,[ls],elem⟩with
  |some h'=>some (.pO new 0 0,h')
  |none=>none
 |none=>none
theorem qFL {H H':RH} {new:Nat} {elem:TypeId} {x y:V} (h:qVB H new elem x=some (y,H')):UJ H.den new elem x=some (y,H'.den)/\H'.m=H.m:=by
 unfold qVB at h;unfold UJ;split at h
 ·rename_i ls hl
  split at h
  ·rename_i H2 e2
   injection h with h;injection h with h1 h2;subst h1 h2;obtain⟨a,b⟩:=pK e2;simp only[hl,a,b,and_self]
  ·cases h
 ·cases h
def qC5 (P:Program) (H:RH) (t:TypeId) (p x:V):Option RH:=match p,leaves x,cP P t with
 | .pO id r off,some ls,some n=>bif gn ls.length n&&ls.all eZ then match H.get id with
     |some (.live o)=>match o.rows[r]? with
      |some row=>bif gp (off+n) row.length&&gp o.elem.fz 1 then some (H.set id (.live {o with rows:=o.rows.set r (row.take off++ls++row.drop (off+n))}))else none
      |none=>none
     |_=>none
   else none
 |_,_,_=>none
theorem qK5 {P:Program} {H H':RH} {t:TypeId} {p x:V} (h:qC5 P H t p x=some H'):nZ P H.den t p x=some (.any,H'.den)/\H'.m=H.m:=by
 unfold qC5 at h;split at h
 ·rename_i id r off ls n hl hn
  cases q:(gn ls.length n&&ls.all eZ)with
  |false=>rw[q]at h;cases h
  |true=>
   rw[q]at h;simp only[cond_true]at h;obtain⟨q1,q2⟩:=ga.1 q;split at h
   ·rename_i o ho
    split at h
    ·rename_i row hr
     cases q3:(gp (off+n) row.length&&gp o.elem.fz 1)with
     |false=>rw[q3]at h;cases h
     |true=>
      rw[q3]at h;simp only[cond_true]at h;injection h with h;subst h;obtain⟨q4,q5⟩:=ga.1 q3;unfold nZ;simp only[hl,hn,cF,ho,hr,gg q1,q2,gb q4,gb q5,and_self,if_true,vM];exact⟨trivial,rfl⟩
    ·cases h
   ·cases h
 ·cases h
def uT (P:Program) (H:RH) (new:Nat) (t:TypeId) (len:Nat) (ps:List (Nat×V)):Option (V×RH):=
 match P.underlying t with
 |some (.slice elem)=>match cP P elem,dB P elem with
  |some size,some zs=>bif gn zs.length size&&gp (len*size) 16777216 then
     match afill (fun i=>some (i*size,size)) (repl len zs) ps with
     |some ls=>match ralloc H new ⟨size,chunk size len ls,elem⟩with
      |some h'=>some (.sO new 0 len,h')
      |none=>none
     |none=>none
   else none
  |_,_=>none
 |_=>none
theorem JX {P:Program} {H H':RH} {new:Nat} {t:TypeId} {len:Nat} {ps:List (Nat×V)} {y:V} (h:uT P H new t len ps=some (y,H')):gR P H.den new t len ps=some (y,H'.den)/\H'.m=H.m:=by
 unfold uT at h;unfold gR;split at h
 ·rename_i elem hu
  split at h
  ·rename_i size zs h1 h2
   cases q:(gn zs.length size&&gp (len*size) 16777216)with
   |false=>rw[q]at h;cases h
   |true=>
    rw[q]at h;simp only[cond_true]at h;obtain⟨q1,q2⟩:=ga.1 q;split at h
    ·rename_i ls hl
     split at h
     ·rename_i H2 h4
      injection h with h;injection h with h5 h6;subst h5 h6;obtain⟨a,b⟩:=pK h4;have q3:=gb q2;simp only[hu,h1,h2];rw[if_pos ⟨gg q1,q3⟩];simp only[hl,a,b,and_self]
     ·cases h
    ·cases h
  ·cases h
 ·cases h
def xZ (P:Program) (H:RH) (new:Nat) (t:TypeId) (l c:V):Option (V×RH):=
 match P.underlying t,lW l,lW c with
 |some (.slice elem),some n,some m=>match cP P elem,dB P elem,rI P elem with
  |some size,some zs,some b=>if zs.length=size/\0<=n/\n<=m/\m<=2^48/\b*m<=2^48 then
     match ralloc H new ⟨size,gq n.toNat zs,elem⟩with
     |some h'=>some (.sO new 0 n.toNat,h')
     |none=>none
   else none
  |_,_,_=>none
 |_,_,_=>none
theorem LN {P:Program} {H H':RH} {new:Nat} {t:TypeId} {l c y:V} (h:xZ P H new t l c=some (y,H')):dP P H.den new t l c=some (y,H'.den)/\H'.m=H.m:=by
 unfold xZ at h;unfold dP;split at h
 ·rename_i e n m h1 h2 h3
  split at h
  ·rename_i s zs b h4 h5 h6
   split at h
   ·rename_i hc
    split at h
    ·rename_i H2 h7
     injection h with h;injection h with h8 h9;subst h8 h9;obtain⟨a,b⟩:=pK h7;simp only[h1,h2,h3,h4,h5,h6];rw[if_pos hc];simp only[a,b,and_self]
    ·cases h
   ·cases h
  ·cases h
 ·cases h
def xY (P:Program) (H:RH) (t:TypeId) (x i:V):Option V:=
 match x with
 | .sO id off len=>match lW i with
   |none=>none
   |some n=>match P.underlying t with
    |some (.slice elem)=>match cP P elem with
     |none=>none
     |some s=>match H.get id with
      |some (.live o)=>if o.sz=s/\0<=n/\n<len then some (.pO id (off+n.toNat) 0)else none
      |_=>none
    |_=>none
 |x=>match cC P [] t x i with
  |some (y,_)=>some y
  |none=>none
theorem LM {P:Program} {H:RH} {t:TypeId} {x i y:V} (h:xY P H t x i=some y):cC P H.den t x i=some (y,H.den):=by
 unfold xY at h;split at h
 ·split at h
  ·cases h
  ·rename_i n hn
   split at h
   ·rename_i e hu
    split at h
    ·cases h
    ·rename_i s hs
     split at h
     ·rename_i o ho
      split at h
      ·rename_i hc
       injection h with h;subst h;unfold cC;simp only[hn,hu,hs,cF,ho,hc,and_self,if_true]
      ·cases h
     ·cases h
   ·cases h
 ·rename_i hx
  split at h
  ·rename_i z k hz
   injection h with h;subst h;unfold cC at hz ⊢;(repeat' split at hz)<;>simp_all
  ·cases h
def qC4 (P:Program) (H:RH) (t:TypeId) (x:V) (lo hi:Option V):Option V:=
 match x with
 | .sO id off len=>match P.underlying t,bound lo 0,bound hi len with
   |some (.slice elem),some l,some u=>match cP P elem,H.get id with
    |some s,some (.live o)=>bif gn o.sz s&&gp l u&&gp u len then
       bif gn l u && !Nat.beq l 0 then some (.sF s [])else some (.sO id (off+l) (u-l))
     else none
    |_,_=>none
   |_,_,_=>none
 |x=>match fG P [] t x lo hi with
  |some (y,_)=>some y
  |none=>none
theorem qK4 {P:Program} {H:RH} {t:TypeId} {x y:V} {lo hi:Option V} (h:qC4 P H t x lo hi=some y):fG P H.den t x lo hi=some (y,H.den):=by
 unfold qC4 at h;split at h
 ·split at h
  ·rename_i e l u h1 h2 h3
   split at h
   ·rename_i s o h4 h5
    unfold fG;simp only[h1,h2,h3,h4,h5,cF];cases q:(gn o.sz s&&gp l u&&gp u _)with
    |false=>rw[q]at h;cases h
    |true=>
     rw[q]at h;simp only[cond_true]at h;obtain⟨q1,q2⟩:=ga.1 q;obtain⟨q3,q4⟩:=ga.1 q1;rw[if_pos ⟨gg q3,gb q4,gb q2⟩];cases q5:(gn l u && !Nat.beq l 0)with
     |true=>
      rw[q5]at h;injection h with h;subst h;obtain⟨q6,q7⟩:=ga.1 q5;rw[if_pos ⟨gg q6,fun e=>by rw[e]at q7;cases q7⟩]
     |false=>
      rw[q5]at h;injection h with h;subst h;rw[if_neg];rintro⟨a,b⟩;rw[a,Tr.beq_yes,Tr.beq_no (by rw[<-a];exact b)]at q5;cases q5
   ·cases h
  ·cases h
 ·rename_i hx
  split at h
  ·rename_i z k hz
   injection h with h;subst h;unfold fG at hz ⊢;(repeat' split at hz)<;>simp_all
  ·cases h
def YK (H:RH) (s:Nat) (y:V):Option (List (List V)):=
 match y with
 | .sF sz rows=>if sz=s then some rows else none
 | .sO id off len=>match H.get id with
   |some (.live o)=>if o.sz=s/\off+len<=o.rows.length then some ((o.rows.drop off).take len)else none
   |_=>none
 | .v (.slice none 0 0)=>some []
 | .v (.string b)=>if s=1 then some (b.data.toList.map kH)else none
 |_=>none
theorem KA (H:RH) (s:Nat) (y:V):cM H.den s y=YK H s y:=by
 unfold cM YK;simp only[cF];rfl
def JW (H:RH) (new:Nat) (elem:TypeId) (s b:Nat) (zs:List V) (x:V) (rows:List (List V)):Option (V×RH):=
 bif rows.isEmpty then
  match x with
  | .v q=>if fM (.v q)then some (.v q,H)else none
  | .sF a c=>some (.sF a c,H)
  | .sO a c d=>some (.sO a c d,H)
  |_=>none
 else bif gn zs.length s&&rows.all (·.all eZ)then
  match x with
  | .v q=>if fM (.v q)/\oE rows.length b=true then
      match ralloc H new ⟨s,rows,⟨elem,1⟩⟩with
      |some h'=>some (.sO new 0 rows.length,h')
      |none=>none
    else none
  | .sO id off len=>match H.get id with
    |some (.live o)=>if o.sz=s/\qM3 o.elem elem off (len*s)/\off+len<=o.rows.length/\oE (len+rows.length) b=true then
       match ralloc (H.set id .dead) new ⟨s,(o.rows.drop off).take len++rows,o.elem⟩with
       |some h'=>some (.sO new 0 (len+rows.length),h')
       |none=>none
     else none
    |_=>none
  |_=>none
 else none
theorem YF {P:Program} {H H':RH} {new:Nat} {elem:TypeId} {s b:Nat} {zs:List V} {x y:V} {rows:List (List V)} (h:JW H new elem s b zs x rows=some (y,H')):bX P H.den new elem s b zs x rows=some (y,H'.den)/\H'.m=H.m:=by
 unfold JW at h;unfold bX;cases q:rows.isEmpty with
 |true=>
  rw[q]at h;simp only[cond_true]at h;simp only[if_true];split at h
  ·split at h
   ·rename_i hc
    injection h with h;injection h with h1 h2;subst h1 h2;exact⟨if_pos hc,rfl⟩
   ·cases h
  ·injection h with h;injection h with h1 h2;subst h1 h2;exact⟨rfl,rfl⟩
  ·injection h with h;injection h with h1 h2;subst h1 h2;exact⟨rfl,rfl⟩
  ·cases h
 |false=>
  rw[q]at h;simp only[cond_false]at h;rw[if_neg sm];cases q2:(gn zs.length s&&rows.all (·.all eZ))with
  |false=>rw[q2]at h;cases h
  |true=>
   rw[q2]at h;simp only[cond_true]at h;obtain⟨q3,q4⟩:=ga.1 q2;rw[if_pos ⟨gg q3,q4⟩];split at h
   ·split at h
    ·rename_i hc
     split at h
     ·rename_i H2 e2
      injection h with h;injection h with h1 h2;subst h1 h2;obtain⟨a,b⟩:=pK e2;simp only;rw[if_pos hc];simp only[a,b,and_self]
     ·cases h
    ·cases h
   ·split at h
    ·rename_i o ho
     split at h
     ·rename_i hc
      split at h
      ·rename_i H2 e2
       injection h with h;injection h with h1 h2;subst h1 h2;obtain⟨a,b⟩:=pK e2;rw[vM]at a;simp only[cF,ho];rw[if_pos hc];simp only[a,b,true_and];rfl
      ·cases h
     ·cases h
    ·cases h
   ·cases h
def TO (P:Program) (H:RH) (new:Nat) (argTypes:Array TypeId) (x y:V):Option (V×RH):=
 match argTypes[0]?,argTypes[1]? with
 |some sT,some xT=>match P.underlying sT with
  |some (.slice elem)=>bif gU P xT then(match cP P elem,rI P elem,dB P elem with
   |some s,some b,some zs=>match YK H s y with
    |some rows=>JW H new elem s b zs x rows
    |none=>none
   |_,_,_=>none)else none
  |_=>none
 |_,_=>none
theorem qC1 {P:Program} {H H':RH} {new:Nat} {tys:Array TypeId} {x y z:V} (h:TO P H new tys x y=some (z,H')):fP P H.den new tys x y=some (z,H'.den)/\H'.m=H.m:=by
 unfold TO at h;unfold fP;split at h
 ·rename_i sT xT h1 h2
  split at h
  ·rename_i e hu
   cases q:gU P xT with
   |false=>rw[q]at h;cases h
   |true=>
    rw[q]at h;simp only[cond_true]at h;split at h
    ·rename_i s b zs h3 h4 h5
     split at h
     ·rename_i rows hr
      have:=YF (P:=P) h;simp only[h1,h2,hu,q,if_true,nK,h3,h4,h5,KA,hr];exact this
     ·cases h
    ·cases h
  ·cases h
 ·cases h
def qC2 (P:Program) (H:RH) (t:TypeId) (x:V):Option RH:=
 match P.underlying t with
 |some (.slice elem)=>match x with
  | .sF _ []=>some H
  | .v (.slice none 0 0)=>some H
  | .sO id off len=>match H.get id,dB P elem with
    |some (.live o),some zs=>if len=0 then some H else if zs.length=o.sz/\off+len<=o.rows.length/\zs.all eZ=true/\o.elem.fz<=1 then
       some (H.set id (.live (iT o off (gq len zs))))
     else none
    |_,_=>none
  |_=>none
 |_=>none
theorem qK3 {P:Program} {H H':RH} {t:TypeId} {x:V} (h:qC2 P H t x=some H'):pP P H.den t x=some (.tup [],H'.den)/\H'.m=H.m:=by
 unfold qC2 at h;unfold pP;split at h
 ·rename_i e hu
  split at h
  ·injection h with h;subst h;simp only[hu];exact⟨trivial,trivial⟩
  ·injection h with h;subst h;simp only[hu];exact⟨trivial,trivial⟩
  ·split at h
   ·rename_i o zs h1 h2
    split at h
    ·rename_i h0
     injection h with h;subst h;simp only[hu,cF,h1,h2,h0,if_true,and_self]
    ·rename_i h0
     split at h
     ·rename_i hc
      injection h with h;subst h;simp only[hu,cF,h1,h2,h0,if_false,vM];rw[if_pos hc];exact⟨rfl,rfl⟩
     ·cases h
   ·cases h
  ·cases h
 ·cases h
def qQA (P:Program) (H:RH) (t:TypeId) (x y:V):Option (V×RH):=
 match P.underlying t with
 |some (.slice elem)=>match cP P elem with
  |some s=>match YK H s y with
   |some rows=>match x with
    | .sF _ []=>some (.v (.int .i64 0),H)
    | .v (.slice none 0 0)=>some (.v (.int .i64 0),H)
    | .sO id off len=>match H.get id with
      |some (.live o)=>if o.sz=s/\off+len<=o.rows.length/\(rows.take len).all (·.all eZ)=true/\o.elem.fz<=1 then
         some (.v (.int .i64 (rows.take len).length),H.set id (.live (iT o off (rows.take len))))
       else none
      |_=>none
    |_=>none
   |none=>none
  |none=>none
 |_=>none
theorem qQB {P:Program} {H H':RH} {t:TypeId} {x y z:V} (h:qQA P H t x y=some (z,H')):wM P H.den t x y=some (z,H'.den)/\H'.m=H.m:=by
 unfold qQA at h;unfold wM;split at h
 ·rename_i e hu
  split at h
  ·rename_i s hs
   split at h
   ·rename_i rows hr
    simp only[hu,hs,KA,hr];split at h
    ·injection h with h;injection h with h1 h2;subst h1 h2;exact⟨rfl,rfl⟩
    ·injection h with h;injection h with h1 h2;subst h1 h2;exact⟨rfl,rfl⟩
    ·split at h
     ·rename_i o ho
      split at h
      ·rename_i hc
       injection h with h;injection h with h1 h2;subst h1 h2;simp only[cF,ho,vM];rw[if_pos hc];exact⟨rfl,rfl⟩
      ·cases h
     ·cases h
    ·cases h
   ·cases h
  ·cases h
 ·cases h
def mQ (H:RH) (x:V):Option V:=match YK H 1 x with
 |some rows=>match bytesOf rows with
  |some bs=>some (str bs)
  |none=>none
 |none=>none
theorem TP {H:RH} {x y:V} (h:mQ H x=some y):dJ H.den x=some (y,H.den):=by
 unfold mQ at h;unfold dJ;rw[KA];split at h
 ·rename_i rows h1
  split at h
  ·rename_i bs h2
   injection h with h;subst h;simp only[h1,h2]
  ·cases h
 ·cases h
def rW (P:Program) (t:TypeId):Bool:=match P.underlying t with
 |some (.slice e)=>match P.underlying e with
  |some (.int .u8)=>true
  |_=>false
 |_=>false
def EA (H:RH):Option V->Option (V×RH)
 |some x=>some (x,H)
 |none=>none
def JZ (P:Program) (H:RH) (new:Nat) (src dst:TypeId) (x:V):Option (V×RH):=
 match P.underlying dst,x with
 |some (.slice e),.v (.string b)=>match P.underlying src,P.underlying e with
  |some .string,some (.int .u8)=>match ralloc H new ⟨1,b.data.toList.map kH,e⟩with
   |some h'=>some (.sO new 0 b.size,h')
   |none=>none
  |_,_=>none
 |some .string,.v (.slice none 0 0)=>bif rW P src then EA H (mQ H x)else none
 |some .string,.sF _ _=>bif rW P src then EA H (mQ H x)else none
 |some .string,.sO _ _ _=>bif rW P src then EA H (mQ H x)else none
 |some .unsafePointer,.pO id r 0=>match P.underlying src,H.get id with
  |some (.pointer t),some (.live o)=>bif qRV P t o r then some (.pO id r 0,H)else none
  |_,_=>none
 |some (.pointer u),.pO id r 0=>match P.underlying src,H.get id with
  |some .unsafePointer,some (.live o)=>bif IV P u o r then some (.pO id r 0,H)else none
  |_,_=>none
 |_,.v y=>match aP P (convert src dst y)with
  |some z=>some (ofValue z,H)
  |none=>none
 |_,_=>none
theorem YI {P:Program} {H H':RH} {new:Nat} {s d:TypeId} {x y:V} (h:JZ P H new s d x=some (y,H')):cY P H.den new s d x=some (y,H'.den)/\H'.m=H.m:=by
 have bs:∀ {z:V},(bif rW P s then EA H (mQ H z)else none)=some (y,H')->∃e,P.underlying s=some (.slice e)/\P.underlying e=some (.int .u8)/\dJ H.den z=some (y,H.den)/\H'=H:=by
  intro z q;cases hb:rW P s with
  |false=>rw[hb]at q;cases q
  |true=>
   rw[hb]at q;simp only[cond_true]at q;unfold rW at hb;split at hb
   ·rename_i e he
    split at hb
    ·rename_i he2
     cases hr:mQ H z with
     |none=>rw[hr]at q;cases q
     |some u=>
      rw[hr]at q;injection q with q;injection q with q1 q2;subst q1 q2;exact⟨e,he,he2,TP hr,rfl⟩
    ·cases hb
   ·cases hb
 unfold JZ at h;unfold cY;split at h
 ·rename_i e b hd
  split at h
  ·rename_i h1 h2
   split at h
   ·rename_i H2 h3
    injection h with h;injection h with h4 h5;subst h4 h5;obtain⟨a,c⟩:=pK h3;simp only[hd,h1,h2,pR,a,c,and_self]
   ·cases h
  ·cases h
 ·rename_i hd
  obtain⟨e,e1,e2,e3,rfl⟩:=bs h;simp only[hd,e1,e2,e3,and_self]
 ·rename_i hd
  obtain⟨e,e1,e2,e3,rfl⟩:=bs h;simp only[hd,e1,e2,e3,and_self]
 ·rename_i hd
  obtain⟨e,e1,e2,e3,rfl⟩:=bs h;simp only[hd,e1,e2,e3,and_self]
 ·rename_i hd
  split at h
  ·rename_i t o h1 h2
   cases q:qRV P t o _ with
   |false=>rw[q]at h;cases h
   |true=>
    rw[q]at h;injection h with h;injection h with h4 h5;subst h4 h5;simp only[hd,h1,cF,h2,q,and_self]
  ·cases h
 ·rename_i hd
  split at h
  ·rename_i o h1 h2
   cases q:IV P _ o _ with
   |false=>rw[q]at h;cases h
   |true=>
    rw[q]at h;injection h with h;injection h with h4 h5;subst h4 h5;simp only[hd,h1,cF,h2,q,and_self]
  ·cases h
 ·rename_i q n1 n2
  split at h
  ·rename_i z hz
   injection h with h;injection h with h4 h5;subst h4 h5;refine⟨?_,rfl⟩;split
   ·rename_i el b hd q1;injection q1 with q1;exact(n1 el b hd q1).elim
   ·rename_i hd q1;injection q1 with q1;exact(n2 hd q1).elim
   ·rename_i q1;cases q1
   ·rename_i q1;cases q1
   ·rename_i q1;cases q1
   ·rename_i q1;cases q1
   ·rename_i q1 _ _;injection q1 with q1;subst q1;rw[hz]
   ·rename_i n6 _ _ _;first|exact(n6 q rfl).elim|simp_all
  ·cases h
 ·cases h
def PP (H:RH):Option (V×Heap)->Option (V×RH)
 |some (x,_)=>some (x,H)
 |none=>none
def JY (P:Program) (H:RH) (new:Nat) (b:Builtin) (argTypes:Array TypeId) (xs:List V):Option (V×RH):=
 match b,xs with
 | .append,[x,y]=>bif gn argTypes.size 2 then TO P H new argTypes x y else none
 | .clear,[x]=>match argTypes with
   |⟨[t]⟩=>match qC2 P H t x with
    |some h=>some (.tup [],h)
    |none=>none
   |_=>none
 | .copy,[x,y]=>match argTypes with
   |⟨[t,_]⟩=>qQA P H t x y
   |_=>none
 | .append,_=>none
 | .clear,_=>none
 | .copy,_=>none
 |b,xs=>PP H (fY P [] 0 b argTypes xs)
theorem YG {P:Program} {H H':RH} {new:Nat} {b:Builtin} {tys:Array TypeId} {xs:List V} {y:V} (h:JY P H new b tys xs=some (y,H')):fY P H.den new b tys xs=some (y,H'.den)/\H'.m=H.m:=by
 unfold JY at h;split at h
 ·rename_i x z
  cases q:gn tys.size 2 with
  |false=>rw[q]at h;cases h
  |true=>
   rw[q]at h;have:=qC1 h;simp only[fY,gg q,if_true];exact this
 ·rename_i x
  split at h
  ·rename_i t
   split at h
   ·rename_i H2 h2
    injection h with h;injection h with h4 h5;subst h4 h5;exact qK3 h2
   ·cases h
  ·cases h
 ·rename_i x z
  split at h
  ·exact qQB h
  ·cases h
 ·cases h
 ·cases h
 ·cases h
 ·rename_i n1 n2 n3 n4 n5 n6
  cases e:fY P [] 0 b tys xs with
  |none=>rw[e]at h;cases h
  |some r=>
   obtain⟨x,k⟩:=r;rw[e]at h;injection h with h;injection h with h4 h5;subst h4 h5;refine⟨?_,rfl⟩;unfold fY at e ⊢;split at e
   ·split at e
    ·simp only[EO]at e ⊢
     (repeat' split at e)<;>simp_all
    ·cases e
   ·first|exact(n1 _ _ rfl rfl).elim|simp_all
   ·first|exact(n2 _ rfl rfl).elim|simp_all
   ·first|exact(n3 _ _ rfl rfl).elim|simp_all
   ·simp only[nF]at e ⊢
    (repeat' split at e)<;>simp_all
   ·simp only[nF]at e ⊢
    (repeat' split at e)<;>simp_all
   ·cases e
def rop (P:Program) (op:Op) (ρ:Operand->V) (H:RH) (new:Nat):Option (V×RH):=
 match op with
 | .load t p=>EA H (qFM P H t (ρ p))
 | .store t p x=>match qC5 P H t (ρ p) (ρ x)with
   |some h=>some (.any,h)
   |none=>none
 | .indexAddr t x i=>EA H (xY P H t (ρ x) (ρ i))
 | .call ⟨callee,args,tys⟩=>match callee with
   | .builtin b=>JY P H new b tys (args.toList.map ρ)
   | .value f=>PP H (yE P [] (ρ f) (args.toList.map ρ))
   |_=>none
 | .convert s d x=>JZ P H new s d (ρ x)
 | .slice t x lo hi none=>(match ρ x with
   | .v y=>PP H (aop P (.slice t x lo hi none) ρ [] 0)
   |x=>EA H (qC4 P H t x (lo.map ρ) (hi.map ρ)))
 | .box e x=>qVB H new e (ρ x)
 | .alloc e=>match qI4 P e with
   |some z=>qVB H new e z
   |none=>none
 | .buildSlice t n ps=>uT P H new t n (ps.toList.map fun p=>(p.1,ρ p.2))
 | .makeSlice t l c=>xZ P H new t (ρ l) (ρ c)
 |op=>PP H (aop P op ρ [] 0)
theorem xU {H H':RH} {r:Option V} {x:V} (h:EA H r=some (x,H')):r=some x/\H'=H:=by
 cases r with
 |none=>cases h
 |some y=>injection h with h;injection h with h1 h2;subst h1 h2;exact⟨rfl,rfl⟩
theorem qC3 {H H':RH} {r:Option (V×Heap)} {x:V} (h:PP H r=some (x,H')):(∃k,r=some (x,k))/\H'=H:=by
 cases r with
 |none=>cases h
 |some y=>obtain⟨y,k⟩:=y;injection h with h;injection h with h1 h2;subst h1 h2;exact⟨⟨k,rfl⟩,rfl⟩
theorem qZQ {P:Program} {op:Op} {ρ:Operand->V} {H H':RH} {new:Nat} {x:V} (h:rop P op ρ H new=some (x,H')):aop P op ρ H.den new=some (x,H'.den)/\H'.m=H.m:=by
 have neut:(∀ {k:Heap},aop P op ρ [] 0=some (x,k)->aop P op ρ H.den new=some (x,H.den))->PP H (aop P op ρ [] 0)=some (x,H')->aop P op ρ H.den new=some (x,H'.den)/\H'.m=H.m:=by
  intro f q;obtain⟨⟨k,hk⟩,rfl⟩:=qC3 q;exact⟨f hk,rfl⟩
 cases op with
 |load t p=>
  obtain⟨h1,rfl⟩:=xU h;exact⟨YJ h1,rfl⟩
 |store t p y=>
  simp only[rop]at h;split at h
  ·rename_i H2 h2
   injection h with h;injection h with h4 h5;subst h4 h5;exact qK5 h2
  ·cases h
 |indexAddr t y i=>
  obtain⟨h1,rfl⟩:=xU h;exact⟨LM h1,rfl⟩
 |call c=>
  obtain⟨callee,args,tys⟩:=c;cases callee with
  |builtin b=>exact YG h
  |value f=>
   refine neut (fun e=>?_) h;simp only[aop,yE]at e ⊢;(repeat' split at e)<;>simp_all
  |_=>cases h
 |convert s d y=>exact YI h
 |slice t y lo hi mx=>
  cases mx with
  |some m=>exact neut (fun e=>by cases e) h
  |none=>
   simp only[rop]at h;split at h
   ·rename_i z hz
    refine neut (fun e=>?_) h;simp only[aop,hz]at e ⊢;(repeat' split at e)<;>simp_all
   ·rename_i hz
    obtain⟨h1,rfl⟩:=xU h;have:=qK4 h1;refine⟨?_,rfl⟩;cases hy:ρ y with
    |v z=>exact(hz z hy).elim
    |_=>simp only[aop,hy];rw[hy]at this;exact this
 |box e y=>exact qFL h
 |alloc e=>
  simp only[rop]at h;split at h
  ·rename_i z hz
   have:=qFL h;simp only[aop,xI,hz];exact this
  ·cases h
 |buildSlice t n ps=>exact JX h
 |makeSlice t l c=>exact LN h
 |build t ps=>
  refine neut (fun e=>?_) h;have:sK P H.den t (ps.toList.map fun p=>(p.1,ρ p.2))=(sK P [] t (ps.toList.map fun p=>(p.1,ρ p.2))).map fun p=>(p.1,H.den):=by
   generalize (ps.toList.map fun p=>(p.1,ρ p.2))=l;unfold sK;(repeat' split)<;>simp_all
  simp only[aop]at e ⊢;rw[this,e];rfl
 |field s y f=>
  refine neut (fun e=>?_) h;simp only[aop,FW]at e ⊢;(repeat' split at e)<;>simp_all
 |fieldAddr s y f=>
  refine neut (fun e=>?_) h;simp only[aop,pQ]at e ⊢;(repeat' split at e)<;>simp_all
 |index t y i=>
  refine neut (fun e=>?_) h;simp only[aop,rF]at e ⊢;(repeat' split at e)<;>simp_all
 |extract y i=>
  refine neut (fun e=>?_) h;simp only[aop,tZ]at e ⊢;(repeat' split at e)<;>simp_all
 |nilCheck y=>
  refine neut (fun e=>?_) h;simp only[aop,rP]at e ⊢;(repeat' split at e)<;>simp_all
 |binOp op t X Y u=>
  refine neut (fun e=>?_) h;simp only[aop,eH]at e ⊢;(repeat' split at e)<;>first|(simp_all;done)|(simp_all;rw[if_neg (by rintro(⟨q1,q2⟩|⟨q1,q2⟩)<;>simp_all),if_neg (by rintro(⟨q1,q2⟩|⟨q1,q2⟩)<;>simp_all)])
 |unOp op t y=>
  refine neut (fun e=>?_) h;simp only[aop,aUn]at e ⊢;(repeat' split at e)<;>simp_all
 |makeInterface t y=>
  refine neut (fun e=>?_) h;simp only[aop,QZ]at e ⊢;(repeat' split at e)<;>simp_all
 |pick c a b=>
  refine neut (fun e=>?_) h;simp only[aop,FZ]at e ⊢;(repeat' split at e)<;>simp_all
 |move y=>exact neut (fun e=>by simp only[aop]at e ⊢;simp_all) h
 |assign y=>exact neut (fun e=>by simp only[aop]at e ⊢;simp_all) h
 |makeFunc fn a b=>exact neut (fun e=>by simp only[aop]at e ⊢;simp_all) h
 |_=>exact neut (fun e=>by cases e) h
end
noncomputable section
structure RS where
 n:Nat
 sl:Tr V
 h:RH
def rat (n:Nat) (sl:Tr V) (i:Nat):Option V:=bif kf i n then some ((sl.get i).getD (.v undef))else none
def RS.slots (s:RS):List V:=(List.range s.n).map fun i=>(s.sl.get i).getD (.v undef)
def RS.den (s:RS):St:=⟨s.slots,s.h.den⟩
theorem nA (s:RS) (i:Nat):s.slots[i]? =rat s.n s.sl i:=by
 unfold RS.slots rat;by_cases h:i<s.n
 ·rw[jK h,kb,ke h];rfl
 ·rw[pU h,go (by simpa using gt h)];rfl
def rev (n:Nat) (sl:Tr V):Operand->V
 | .tmp t=>(rat n sl t).getD .any
 | .const c=>ofValue c
 | .global g=>.v (.pointer (some ⟨g,0,none⟩))
 | .func f=>.fn (.func f) [] []
theorem TV (s:RS):aev s.slots=rev s.n s.sl:=by
 funext x
 cases x with
 |tmp t=>simp only[aev,rev,List.getD,nA]
 |_=>rfl
def xD (sl:Tr V) (dst:Option Tmp) (x:V):Tr V:=match dst with
 |some d=>sl.set d x
 |none=>sl
theorem mU (s:RS) (dst:Option Tmp) (x:V) (h:RH):(RS.mk s.n (xD s.sl dst x) h).slots=sput s.slots dst x:=by
 cases dst with
 |none=>rfl
 |some d=>
  apply gw;intro i;rw[nA];show rat s.n (s.sl.set d x) i=(s.slots.set d x)[i]?;rw[kh,nA];have hl:s.slots.length=s.n:=by simp [RS.slots]
  unfold rat;by_cases h:i<s.n
  ·rw[jK h,Tr.get_set]
   by_cases e:d=i
   ·rw[if_pos e,if_pos e.symm,if_pos (by rw[hl,e];exact h)];rfl
   ·rw[if_neg e,if_neg (fun q=>e q.symm)]
  ·rw[pU h]
   split
   ·rename_i e;rw[if_neg (by rw[hl,e];exact h)];rfl
   ·rfl
def rwanted (ops:Array Oper) (n:Nat) (sl:Tr V) (o:Oper):Option Bool:=
 match o.guard with
 |none=>some true
 |some (j,want)=>match((ops[j]?).bind (·.dst)).bind (rat n sl ·)with
  |some (.v (.bool b))=>some (b == want)
  |some (.v (.tuple _))=>some false
  |_=>none
theorem tF (ops:Array Oper) (s:RS) (o:Oper):awanted ops s.slots o=rwanted ops s.n s.sl o:=by
 unfold awanted rwanted;simp only[nA];rfl
def FK (P:Program) (ρ:Operand->V) (op:Op):Option (FuncId×List V):=
 match op with
 | .call ⟨.value fop,args,_⟩=>match ρ fop with
   | .fn (.func f) first caps=>if callable P f=true then some (f,first++args.toList.map ρ++caps)else none
   |_=>none
 |_=>none
theorem KB (P:Program) (s:RS) (op:Op):jA P s.slots op=FK P (rev s.n s.sl) op:=by
 unfold jA FK;rw[TV];rfl
def Fr' (H H':RH):Prop:=H'.m=H.m/\∃seg,H'.lg=seg++H.lg/\∀i,i ∉ seg->H'.get i=H.get i
theorem Fr'.refl (H:RH):Fr' H H:=⟨rfl,[],rfl,fun _ _=>rfl⟩
theorem Fr'.trans {A B C:RH} (h:Fr' A B) (g:Fr' B C):Fr' A C:=by
 obtain⟨h1,s,h2,h3⟩:=h;obtain⟨g1,t,g2,g3⟩:=g;refine⟨g1.trans h1,t++s,by rw[g2,h2,List.append_assoc],fun i hi=>?_⟩;rw[km]at hi;rw[g3 i (fun q=>hi (.inl q)),h3 i (fun q=>hi (.inr q))]
theorem EJ {g:Nat->HS}:∀(l:List Nat) (k:Heap) (j:Nat),(bB k (l.map fun i=>(i,g i)))[j]? =if j∈l/\j<k.length then some (g j)else k[j]?
 | [],k,j=>by simp [bB]
 |i::l,k,j=>by
  rw[kp,bB,EJ l,List.length_set,kh];by_cases h1:j∈l/\j<k.length
  ·rw[if_pos h1,if_pos ⟨gx _ h1.1,h1.2⟩]
  ·rw[if_neg h1]
   by_cases e:i=j
   ·subst e
    rw[if_pos rfl];split
    ·rename_i q;rw[if_pos ⟨gz ..,q⟩]
    ·rename_i q;rw[if_neg (fun z=>q z.2),go (gt q)]
   ·rw[if_neg e,if_neg]
    rintro⟨a,b⟩;rcases List.mem_cons.1 a with q|q
    ·exact e q.symm
    ·exact h1 ⟨q,b⟩
def rwids (P:Program) (op:Op) (ρ:Operand->V) (new:Nat):List Nat:=
 match op with
 | .convert s d x=>match P.underlying d with
   |some (.slice _)=>[new]
   |_=>[]
 |op=>wids op ρ new
theorem qFZ {P:Program} {op:Op} {ρ:Operand->V} {new:Nat}:Loc' (fun h=>aop P op ρ h new) (foot op ρ) (rwids P op ρ new) new:=by
 have gen:=qD4 (P:=P) (op:=op) (ρ:=ρ) (new:=new);cases op with
 |convert s d x=>
  simp only[rwids];split
  ·exact gen
  ·rename_i hd
   have same:∀(k:Heap) (y:V) (k':Heap),aop P (.convert s d x) ρ k new=some (y,k')->k'=k:=by
    intro k y k' e;simp only[aop,cY,dJ]at e;(repeat' split at e)<;>simp_all
   intro h y h' e hl;obtain⟨post,p1,p2⟩:=gen h y h' e hl;refine⟨[],⟨(fun p hp=>by simp at hp),fun k hk=>?_⟩⟩;have:=p2 k hk;have h2:=same k y _ this;rw[h2]at this;exact this
 |_=>exact gen
abbrev Fp:=List Nat×List Nat
def rd1 (ws:List Nat) (b:Fp):Bool:=ws.all fun p=>(b.1.all fun q=>!Nat.beq p q)&&b.2.all fun q=>!Nat.beq p q
def rdis (a b:Fp):Bool:=rd1 a.2 b&&rd1 b.2 a
def rpairs (ops:Array Oper):List (Nat×Nat):=
 (List.range ops.size).flatMap fun i=>((List.range i).filter fun j=>!dep ops ops.size i j).map fun j=>(i,j)
def rapart (ops:Array Oper):Bool:=(rpairs ops).all fun p=>match ops[p.1]?,ops[p.2]? with
 |some oi,some oj=>oj.apart ops oi
 |_,_=>true
def rdraws (fs:List Fp) (l:List (Nat×Nat)):Bool:=l.all fun p=>match fs[p.1]?,fs[p.2]? with
 |some a,some b=>rdis a b
 |_,_=>false
inductive RT where
 |code (c:Code) (s:RS)
 |ops (ops:Array Oper) (l:List Oper) (s:RS)
 |call (f:FuncId) (args:List V) (h:RH)
inductive RR where
 |code (e:Exit) (s:RS)
 |val (x:V) (h:RH)
def vrefs:Nat->V->List Nat
 |0,_=>[]
 |n+1,x=>match x with
  | .pO id _ _=>[id]
  | .sO id _ _=>[id]
  | .pF row _=>row.flatMap (vrefs n)
  | .sF _ rows=>rows.flatMap fun r=>r.flatMap (vrefs n)
  | .agg xs=>xs.flatMap (vrefs n)
  | .tup xs=>xs.flatMap (vrefs n)
  | .fn _ a b=>a.flatMap (vrefs n)++b.flatMap (vrefs n)
  | .ifc _ x=>vrefs n x
  |_=>[]
def orefs (H:RH) (i:Nat):List Nat:=match H.get i with
 |some (.live o)=>o.rows.flatMap fun r=>r.flatMap (vrefs 16)
 |_=>[]
def rreach (H:RH) (n:Nat):List Nat->Tr Unit->List Nat->List Nat:=
 Nat.rec (motive:=fun _=>List Nat->Tr Unit->List Nat->List Nat) (fun _ _ out=>out)
  (fun _ ih todo seen out=>match todo with
    | []=>out
    |i::todo=>match seen.get i with
     |some _=>ih todo seen out
     |none=>ih (orefs H i++todo) (seen.set i ()) (i::out)) n
def rset (l:List Nat) (t:Tr Unit):Tr Unit:=List.rec (motive:=fun _=>Tr Unit->Tr Unit) (fun t=>t) (fun i _ ih t=>ih (t.set i ())) l t
theorem YZ:∀(l:List Nat) (t:Tr Unit) (i:Nat),((rset l t).get i).isSome=true↔i∈l\/(t.get i).isSome=true
 | [],t,i=>by show(t.get i).isSome=true↔_;simp
 |j::l,t,i=>by
  show((rset l (t.set j ())).get i).isSome=true↔_;rw[YZ l,Tr.get_set];by_cases e:i=j
  ·subst e;simp
  ·rw[if_neg e];simp [e]
def rcopy (H:RH) (l:List Nat) (t:Tr HS):Tr HS:=List.rec (motive:=fun _=>Tr HS->Tr HS) (fun t=>t) (fun i _ ih t=>ih (match H.get i with
 |some x=>t.set i x
 |none=>t)) l t
theorem PR (H:RH):∀(l:List Nat) (t:Tr HS) (i:Nat),(rcopy H l t).get i=if i∈l/\H.get i≠none then H.get i else t.get i
 | [],t,i=>by show t.get i=_;simp
 |j::l,t,i=>by
  show(rcopy H l (match H.get j with
   |some x=>t.set j x
   |none=>t)).get i=_
  rw[PR H l];by_cases h1:i∈l/\H.get i≠none
  ·rw[if_pos h1,if_pos ⟨gx _ h1.1,h1.2⟩]
  ·rw[if_neg h1]
   by_cases e:i=j
   ·subst e
    cases q:H.get i with
    |none=>simp
    |some x=>simp only;rw[Tr.get_set,if_pos rfl,if_pos ⟨gz ..,sm⟩]
   ·have h2:¬(i∈j::l/\H.get i≠none):=by
      rintro⟨a,b⟩;rcases List.mem_cons.1 a with z|z
      ·exact e z
      ·exact h1 ⟨z,b⟩
    rw[if_neg h2];split
    ·rw[Tr.get_set,if_neg e]
    ·rfl
def rmerge (H:RH) (l:List Nat) (t:Tr HS):Tr HS:=List.rec (motive:=fun _=>Tr HS->Tr HS) (fun t=>t) (fun i _ ih t=>ih (t.set i ((H.get i).getD .free))) l t
theorem KH (H:RH):∀(l:List Nat) (t:Tr HS) (i:Nat),(rmerge H l t).get i=if i∈l then some ((H.get i).getD .free)else t.get i
 | [],t,i=>by show t.get i=_;simp
 |j::l,t,i=>by
  show(rmerge H l (t.set j ((H.get j).getD .free))).get i=_;rw[KH H l,Tr.get_set];by_cases h1:i∈l
  ·rw[if_pos h1,if_pos (gx _ h1)]
  ·rw[if_neg h1]
   by_cases e:i=j
   ·subst e;rw[if_pos rfl,if_pos (gz ..)]
   ·rw[if_neg e,if_neg (by simp [e,h1])]
def rfree (H:RH) (i:Nat):Bool:=match H.get i with
 |some .free=>true
 |_=>false
def qC8 (p:Nat->Bool) (H:RH) (i:Nat):Bool:=match H.get i with
 |some (.live o)=>o.rows.all fun r=>r.all (ri p 16)
 |_=>true
structure SubR where
 x:V
 h:RH
 rd:List Nat
 wr:List Nat
def qWV (ih:RT->Option RR) (f:FuncId) (args:List V) (H:RH) (S:List Nat) (p:Nat->Bool):Option SubR:=
 bif args.all (ri p 16)&&S.all (qC8 p H)then
  match ih (.call f args ⟨H.m,H.nx,rcopy H S .nil,[]⟩)with
  |some (.val x H1)=>bif H1.lg.all (fun i=>p i||rfree H i)then some ⟨x,⟨H.m,H1.nx,rmerge H1 H1.lg H.t,H1.lg++H.lg⟩,S++H1.lg,H1.lg⟩else none
  |_=>none
 else none
def qWU (ih:RT->Option RR) (f:FuncId) (args:List V) (H:RH) (S:List Nat):Option SubR:=qWV ih f args H S fun i=>((rset S .nil).get i).isSome
def rsub (ih:RT->Option RR) (f:FuncId) (args:List V) (H:RH):Option SubR:=qWU ih f args H (rreach H 100000 (args.flatMap (vrefs 16)) .nil [])
def rdraw (P:Program) (ih:RT->Option RR) (ops:Array Oper) (base:Nat):List Oper->Nat->RS->Option (RS×List Fp)
 | [],_,s=>some (s,[])
 |o::rest,i,s=>match rwanted ops s.n s.sl o with
  |some true=>match FK P (rev s.n s.sl) o.op with
   |some (f,args)=>match rsub ih f args s.h with
    |some r=>match rdraw P ih ops base rest (i+1) ⟨s.n,xD s.sl o.dst r.x,r.h⟩with
     |some (s',fs)=>some (s',(r.rd,r.wr)::fs)
     |none=>none
    |none=>none
   |none=>match rop P o.op (rev s.n s.sl) s.h (base+i)with
    |some (x,h')=>match rdraw P ih ops base rest (i+1) ⟨s.n,xD s.sl o.dst x,⟨h'.m,s.h.nx,h'.t,rwids P o.op (rev s.n s.sl) (base+i)++s.h.lg⟩⟩with
     |some (s',fs)=>some (s',(foot o.op (rev s.n s.sl)++ [base+i],rwids P o.op (rev s.n s.sl) (base+i))::fs)
     |none=>none
    |none=>none
  |some false=>match rdraw P ih ops base rest (i+1) ⟨s.n,xD s.sl o.dst (.v undef),s.h⟩with
   |some (s',fs)=>some (s',([],[])::fs)
   |none=>none
  |none=>none
def rreg (P:Program) (ih:RT->Option RR) (ops:Array Oper) (s:RS):Option RR:=
 bif FD ops&&(rapart ops&&gp (s.h.nx+ops.size) s.h.m)then
  match rdraw P ih ops s.h.nx ops.toList 0 ⟨s.n,s.sl,⟨s.h.m,s.h.nx+ops.size,s.h.t,s.h.lg⟩⟩with
  |some (s',fs)=>bif rdraws fs (rpairs ops)then some (.code .normal s')else none
  |none=>none
 else none
def qC6 (P:Program) (s:RS):ResultVar->Option V
 | .tmp t=>rat s.n s.sl t
 | .cell a t=>match rat s.n s.sl a with
   |some p=>qFM P s.h t p
   |none=>none
def TR (P:Program) (s:RS):List ResultVar->Option (List V)
 | []=>some []
 |r::rs=>match qC6 P s r,TR P s rs with
  |some x,some xs=>some (x::xs)
  |_,_=>none
def rares (P:Program) (rs:List ResultVar) (s:RS):Option V:=
 match TR P s rs with
 |some [x]=>some x
 |some xs=>some (.tup xs)
 |none=>none
theorem qK7 {P:Program} {s:RS} {r:ResultVar} {x:V} (h:qC6 P s r=some x):LY P s.slots s.h.den r=some x:=by
 cases r with
 |tmp t=>simp only[LY,nA];exact h
 |cell a t=>
  simp only[qC6]at h;simp only[LY,nA];split at h
  ·rename_i p hp
   simp only[hp,YJ h]
  ·cases h
theorem CD {P:Program} {s:RS}:∀ {rs:List ResultVar} {xs:List V},TR P s rs=some xs->CQ P s.slots s.h.den rs=some xs
 | [],xs,h=>h
 |r::rs,xs,h=>by
  simp only[TR]at h;split at h
  ·rename_i x ys h1 h2
   simp only[CQ,qK7 h1,CD h2];exact h
  ·cases h
theorem qQE {P:Program} {s:RS} {rs:List ResultVar} {x:V} (h:rares P rs s=some x):ares P rs s.slots s.h.den=some x:=by
 unfold rares at h;unfold ares;split at h
 ·rename_i y hy;rw[CD hy];exact h
 ·rename_i ys n hy
  rw[CD hy];split
  ·rename_i q;injection q with q;subst q;exact(n _ rfl).elim
  ·rename_i q;injection q with q;subst q;exact h
  ·rename_i q;cases q
 ·cases h
def rinit (args:List V):Nat->Tr V->Tr V:=List.rec (motive:=fun _=>Nat->Tr V->Tr V) (fun _ t=>t) (fun x _ ih i t=>ih (i+1) (t.set i x)) args
theorem QB:∀(args:List V) (i:Nat) (t:Tr V) (j:Nat),(rinit args i t).get j=if i<=j/\j<i+args.length then args[j-i]? else t.get j
 | [],i,t,j=>by rw[if_neg (by rw[gi];omega)];rfl
 |x::l,i,t,j=>by
  show(rinit l (i+1) (t.set i x)).get j=_;rw[QB l,Tr.get_set,gj];by_cases h:i+1<=j/\j<i+1+l.length
  ·rw[if_pos h,if_pos om,show j-i=(j-(i+1))+1 by omega,List.getElem?_cons_succ]
  ·rw[if_neg h]
   by_cases e:j=i
   ·subst e
    rw[if_pos rfl,if_pos om,Nat.sub_self];rfl
   ·rw[if_neg e,if_neg om]
def rstart (n:Nat) (args:List V) (h:RH):RS:=⟨args.length+(n-args.length),rinit args 0 .nil,h⟩
theorem TW (n:Nat) (args:List V) (h:RH):(rstart n args h).slots=args++gq (n-args.length) (.v undef):=by
 apply gw;intro i;rw[nA];show rat (args.length+(n-args.length)) (rinit args 0 .nil) i=_;unfold rat;rw[QB,List.getElem?_append,hh,Nat.zero_add,Nat.sub_zero];by_cases q:i<args.length
 ·rw[jK om,if_pos ⟨Nat.zero_le _,q⟩,if_pos q,ge q];rfl
 ·rw[if_neg (fun z=>q z.2),if_neg q]
  by_cases q2:i<args.length+(n-args.length)
  ·rw[jK q2,if_pos om];rfl
  ·rw[pU q2,if_neg om];rfl
def RTS (P:Program):RT->RR->Prop
 | .code c s,.code e s'=>PW P c s.den (fun e2 s2=>e2=e/\s2=s'.den)/\Fr' s.h s'.h
 | .ops ops l s,.code e s'=>e = .normal/\Fr' s.h s'.h/\∀k,(∀(j:Nat) (o:Oper),l[j]? =some o->ops[k+j]? =some o)->PO P ops (kd k l.length) s.den (fun s2=>s2=s'.den)
 | .call f args h,.val x h'=>PC P f args h.den (fun y k=>y=x/\k=h'.den)/\Fr' h h'
 |_,_=>False
def RIH (P:Program) (ih:RT->Option RR):Prop:=∀t r,ih t=some r->RTS P t r
theorem qQZ {P:Program} {op:Op} {ρ:Operand->V} {H H':RH} {new n2:Nat} {x:V} (h:rop P op ρ H new=some (x,H')) (hn:new<H.m) :
  aop P op ρ H.den new=some (x,(RH.mk H'.m n2 H'.t (rwids P op ρ new++H.lg)).den)/\Fr' H ⟨H'.m,n2,H'.t,rwids P op ρ new++H.lg⟩:=by
 obtain⟨h1,h2⟩:=qZQ h;refine⟨h1,h2,rwids P op ρ new,rfl,fun i hi=>?_⟩;obtain⟨post,p1,p2⟩:=qFZ (P:=P) (op:=op) (ρ:=ρ) (new:=new) H.den x H'.den h1 (by rw[SG];exact hn);have h3:=p2 H.den (fun _ _=>rfl);simp only[h1,Option.some.injEq,Prod.mk.injEq,true_and]at h3;show H'.get i=H.get i;rw[<-cF,<-cF,h3];exact fF post _ fun p hp e=>hi (by rw[<-e];exact p1 p hp)
theorem qVK {P:Program} {ih:RT->Option RR} (hih:RIH P ih) {f:FuncId} {args:List V} {H:RH} {r:SubR} (h:rsub ih f args H=some r) :
  bB H.den (r.wr.map fun i=>(i,(r.h.get i).getD .free))=r.h.den/\Fr' H r.h /\
  ∀k:Heap,(∀i,i∈r.rd->k[i]? =H.den[i]?)->PC P f args k (fun y k'=>y=r.x/\k'=bB k (r.wr.map fun i=>(i,(r.h.get i).getD .free))):=by
 unfold rsub at h;generalize rreach H 100000 (args.flatMap (vrefs 16)) .nil []=S at h;unfold qWU at h;generalize hp:(fun i=>((rset S .nil).get i).isSome)=p at h;have pS:∀i,p i=true↔i∈S:=by
  intro i;rw[<-hp];have:=YZ S .nil i;simpa [Tr.get_nil]using this
 unfold qWV at h;cases q:(args.all (ri p 16)&&S.all (qC8 p H))with
 |false=>rw[q]at h;cases h
 |true=>
  rw[q]at h;simp only[cond_true]at h;obtain⟨qa,qs⟩:=ga.1 q;split at h
  ·rename_i x H1 hc
   cases ql:(H1.lg.all fun i=>p i||rfree H i)with
   |false=>rw[ql]at h;cases h
   |true=>
    rw[ql]at h;injection h with h;subst h;obtain⟨c1,c2,seg,c3,c4⟩:=hih _ _ hc;simp only[List.append_nil]at c3;subst c3;have c2:H1.m=H.m:=c2;have gK:∀i,(RH.mk H.m H1.nx (rmerge H1 H1.lg H.t) (H1.lg++H.lg)).get i=if i∈H1.lg then H1.get i else H.get i:=by
     intro i;show(bif kf i H.m then some (((rmerge H1 H1.lg H.t).get i).getD .free)else none)=_;rw[KH];unfold RH.get;rw[c2];by_cases hi:i<H.m
     ·rw[jK hi]
      by_cases e:i∈H1.lg
      ·rw[if_pos e,if_pos e];rfl
      ·rw[if_neg e,if_neg e]
     ·rw[pU hi]
      split<;>rfl
    have g0:∀i,(RH.mk H.m H.nx (rcopy H S .nil) []).get i=if i∈S then H.get i else(if i<H.m then some .free else none):=by
     intro i;show(bif kf i H.m then some (((rcopy H S .nil).get i).getD .free)else none)=_;rw[PR];by_cases hi:i<H.m
     ·rw[jK hi,if_pos hi]
      by_cases e:i∈S
      ·have hne:H.get i≠none:=by unfold RH.get;rw[jK hi];simp
       rw[if_pos e,if_pos ⟨e,hne⟩];unfold RH.get;rw[jK hi];rfl
      ·rw[if_neg e,if_neg (fun z=>e z.1)];rfl
     ·have hn:H.get i=none:=by unfold RH.get;rw[pU hi];rfl
      rw[pU hi,if_neg hi,hn];show none=_;split<;>rfl
    have lgm:∀i,i∈H1.lg->p i=true\/H.get i=some .free:=by
     intro i hi;have:=gh.1 ql i hi;rcases Bool.or_eq_true_iff.1 this with z|z
     ·exact .inl z
     ·right
      unfold rfree at z;split at z
      ·assumption
      ·cases z
    have merged:∀k:Heap,(∀i,i∈S++H1.lg->k[i]? =H.den[i]?)->∀i,(bB k (H1.lg.map fun i=>(i,((RH.mk H.m H1.nx (rmerge H1 H1.lg H.t) (H1.lg++H.lg)).get i).getD .free)))[i]? =if i∈H1.lg then H1.get i else k[i]?:=by
     intro k hk i;rw[EJ (g:=fun i=>((RH.mk H.m H1.nx (rmerge H1 H1.lg H.t) (H1.lg++H.lg)).get i).getD .free)];by_cases e:i∈H1.lg
     ·rw[if_pos e]
      have hki:=hk i (kn _ e);rw[cF]at hki;by_cases hi:i<k.length
      ·rw[if_pos ⟨e,hi⟩,gK,if_pos e]
       have:H1.get i≠none:=by
        intro z;rw[ge hi]at hki;unfold RH.get at z hki;rw[c2]at z;by_cases hm:i<H.m
        ·rw[jK hm]at z;cases z
        ·rw[pU hm]at hki;cases hki
       cases hz:H1.get i with
       |none=>exact(this hz).elim
       |some z=>rfl
      ·rw[if_neg (fun z=>hi z.2),go (gt hi)]
       rw[go (gt hi)]at hki;unfold RH.get at hki ⊢;rw[c2];by_cases hm:i<H.m
       ·rw[jK hm]at hki;cases hki
       ·rw[pU hm];rfl
     ·rw[if_neg e,if_neg (fun z=>e z.1)]
    refine⟨?_,⟨rfl,H1.lg,rfl,fun i hi=>by rw[gK,if_neg hi]⟩,?_⟩
    ·apply gw
     intro i;rw[merged H.den (fun _ _=>rfl) i,cF,cF,gK]
    ·intro k hk
     have hkS:∀i,p i=true->k[i]? =(RH.mk H.m H.nx (rcopy H S .nil) []).den[i]?:=by
      intro i hi;have hi:=(pS i).1 hi;rw[hk i (List.mem_append_left _ hi),cF,cF,g0,if_pos hi]
     have nS:∀i,p i=false->¬i∈S:=fun i hi z=>by rw[(pS i).2 z]at hi;cases hi
     refine PC.ext (S:=p) (T:=fun i=>p i||H1.lg.contains i) (by rw[jE]) (fun x hx=>qFY (gh.1 qa x hx)) (fun id o ho r hr x hx=>?_) (fun id o hi ho=>?_) hkS (fun id hi=>by rw[hi];rfl) (fun id hi=>?_) (fun id hi hp=>?_) (fun id=>?_) c1
     ·rw[cF,g0]at ho
      by_cases e:id∈S
      ·rw[if_pos e]at ho
       have:=gh.1 qs id e;unfold qC8 at this;rw[ho]at this;exact qFY (gh.1 (gh.1 this r hr) x hx)
      ·rw[if_neg e]at ho
       split at ho<;>cases ho
     ·rw[cF,g0,if_neg (nS id hi)]at ho
      split at ho<;>cases ho
     ·obtain⟨z1,z2⟩:=Bool.or_eq_false_iff.1 hi
      have z3:¬id∈H1.lg:=fun z=>by rw[gu.2 z]at z2;cases z2
      rw[cF,c4 id z3,g0,if_neg (nS id z1)];by_cases hm:id<H.m
      ·exact .inl (if_pos hm)
      ·exact .inr (if_neg hm)
     ·rw[hp]at hi
      have hl:id∈H1.lg:=gu.1 (by simpa using hi);rw[hk id (kn _ hl),cF];rcases lgm id hl with z|z
      ·rw[hp]at z;cases z
      ·exact .inl z
     ·rw[merged k hk id,cF]
      by_cases e:id∈H1.lg
      ·rw[if_pos e,if_pos (by rw[gu.2 e];simp)]
      ·rw[if_neg e]
       cases hpi:p id with
       |true=>
        rw[if_pos (by rw[Bool.true_or])];rw[hkS id hpi,cF,c4 id e]
       |false=>
        rw[if_neg];intro z;rw[Bool.false_or]at z;exact e (gu.1 z)
  ·cases h
theorem PX {P:Program} {ih:RT->Option RR} (hih:RIH P ih) {ops:Array Oper} {base:Nat}:∀(rest:List Oper) (k:Nat) (s s':RS) (fs:List Fp),(∀(j:Nat) (o:Oper),rest[j]? =some o->ops[k+j]? =some o)->base+k+rest.length<=s.h.m ->
  rdraw P ih ops base rest k s=some (s',fs)->Fr' s.h s'.h/\∃Ds:List Dat,Ds.length=rest.length/\fs.length=rest.length /\
   (∀(j:Nat) (d:Dat) (f:Fp),Ds[j]? =some d->fs[j]? =some f->(∀q,q∈d.pre.map (·.1)->q∈f.1)/\(∀q,q∈d.post.map (·.1)->q∈f.2)) /\
   ∀D:Nat->Dat,(∀(j:Nat) (d:Dat),Ds[j]? =some d->D (k+j)=d)->Run P ops D (kd k rest.length) s.den s'.den
 | [],k,s,s',fs,_,_,h=>by
   simp [rdraw]at h;obtain⟨rfl,rfl⟩:=h;exact⟨Fr'.refl _,[],rfl,rfl,fun j d f hd=>by simp at hd,fun D _=>rfl⟩
 |o::rest,k,s,s',fs,hops,hlen,h=>by
  have ho:ops[k]? =some o:=by simpa using hops 0 o sm
  simp only[gj]at hlen;have fin:∀(d:Dat) (f:Fp) (fs':List Fp) (s1:RS),d.sl=s.slots->AX d.pre s.h.den->LS P ops k o d->(∀q,q∈d.pre.map (·.1)->q∈f.1)->(∀q,q∈d.post.map (·.1)->q∈f.2) ->
    Fr' s.h s1.h->s1.den=⟨sput s.slots o.dst d.x,bB s.h.den d.post⟩->rdraw P ih ops base rest (k+1) s1=some (s',fs')->fs=f::fs' ->
    Fr' s.h s'.h/\∃Ds:List Dat,Ds.length=(o::rest).length/\fs.length=(o::rest).length /\
   (∀(j:Nat) (d:Dat) (f:Fp),Ds[j]? =some d->fs[j]? =some f->(∀q,q∈d.pre.map (·.1)->q∈f.1)/\(∀q,q∈d.post.map (·.1)->q∈f.2)) /\
   ∀D:Nat->Dat,(∀(j:Nat) (d:Dat),Ds[j]? =some d->D (k+j)=d)->Run P ops D (kd k (o::rest).length) s.den s'.den:=by
   intro d f fs' s1 hsl hpre hls hf1 hf2 hfr hs1 hrun hfs;obtain⟨g,Ds,l1,l2,l3,l4⟩:=PX hih rest (k+1) s1 s' fs' (fun j o' hj=>by have:=hops (j+1) o' (by simpa using hj);rwa [show k+1+j=k+(j+1)by omega]) (by rw[hfr.1];omega) hrun;refine⟨hfr.trans g,d::Ds,by simp [l1],by rw[hfs];simp [l2],fun j d' f' hd hf=>?_,fun D hD=>?_⟩
   ·rw[hfs]at hf
    cases j with
    |zero=>
     simp at hd hf;subst hd hf;exact⟨hf1,hf2⟩
    |succ j=>exact l3 j d' f' (by simpa using hd) (by simpa using hf)
   ·have hD0:D k=d:=by simpa using hD 0 d sm
    simp only[gj,kc];refine⟨s1.den,⟨o,ho,?_,?_,?_,?_⟩,?_⟩
    ·rw[hD0,hsl];exact fun _ _=>rfl
    ·rw[hD0];exact hpre
    ·rw[hD0];exact hs1
    ·rw[hD0];exact hls
    ·exact l4 D (fun j d' hd=>by have:=hD (j+1) d' (by simpa using hd);rwa [show k+1+j=k+(j+1)by omega])
  simp only[rdraw]at h;split at h
  ·rename_i hw
   rw[<-tF]at hw;split at h
   ·rename_i f args hcall
    rw[<-KB]at hcall;split at h
    ·rename_i r hc
     split at h
     ·rename_i s2 fs2 hrun
      injection h with h;injection h with h1 h2;subst h1;obtain⟨c1,c2,c3⟩:=qVK hih hc;refine fin ⟨s.slots,r.rd.map fun i=>(i,s.h.den[i]?),r.x,r.wr.map fun i=>(i,(r.h.get i).getD .free)⟩ (r.rd,r.wr) fs2 _ rfl (fun p hp=>?_) ?_ (fun q hq=>by simpa using hq) (fun q hq=>by simpa using hq) c2 ?_ hrun h2.symm
      ·obtain⟨i,_,rfl⟩:=kk.1 hp;rfl
      ·intro t ag ah
       have hcong:=kT ag;have hcb:callable P f=true:=by
        unfold jA at hcall;split at hcall
        ·split at hcall
         ·split at hcall
          ·rename_i q;injection hcall with hcall;injection hcall with e1 e2;subst e1;exact q
          ·cases hcall
         ·cases hcall
        ·cases hcall
       exact pE ho (by rw[fA ag];exact hw) (by rw[yU hcong];exact hcall) hcb
        (c3 t.h fun i hi=>ah (i,s.h.den[i]?) (gy (f:=fun i=>(i,s.h.den[i]?)) hi))
      ·have e1:=mU s o.dst r.x r.h
       unfold RS.den;rw[e1];exact congrArg (St.mk _) c1.symm
     ·cases h
    ·cases h
   ·rename_i hcall
    split at h
    ·rename_i x h2 hx
     split at h
     ·rename_i s2 fs2 hrun
      injection h with h;injection h with h1 h3;subst h1;obtain⟨q1,q2⟩:=qQZ (n2:=s.h.nx) hx om;obtain⟨post,p1,p2⟩:=qFZ (P:=P) (op:=o.op) (ρ:=rev s.n s.sl) (new:=base+k) s.h.den x _ q1 (by rw[SG];omega);have hself:=p2 s.h.den (fun _ _=>rfl);simp only[q1,Option.some.injEq,Prod.mk.injEq,true_and]at hself;refine fin ⟨s.slots,(foot o.op (rev s.n s.sl)++ [base+k]).map fun id=>(id,s.h.den[id]?),x,post⟩ _ fs2 _ rfl (fun p hp=>?_) ?_ (fun q hq=>?_) (fun q hq=>?_) q2 ?_ hrun h3.symm
      ·obtain⟨id,_,rfl⟩:=kk.1 hp;rfl
      ·intro t ag ah
       have hcong:=kT ag;refine qd9 (base+k) ho (by rw[fA ag];exact hw) ?_;rw[LW hcong,TV];exact p2 t.h (fun id hid=>ah (id,s.h.den[id]?) (gy (f:=fun id=>(id,s.h.den[id]?)) hid))
      ·simpa using hq
      ·obtain⟨p,hp,rfl⟩:=kk.1 hq
       exact p1 p hp
      ·have e1:=mU s o.dst x ⟨h2.m,s.h.nx,h2.t,rwids P o.op (rev s.n s.sl) (base+k)++s.h.lg⟩
       unfold RS.den;rw[e1];exact congrArg (St.mk _) hself
     ·cases h
    ·cases h
  ·rename_i hw
   rw[<-tF]at hw;split at h
   ·rename_i s2 fs2 hrun
    injection h with h;injection h with h1 h3;subst h1;refine fin ⟨s.slots,[],.v undef,[]⟩ ([],[]) fs2 ⟨s.n,xD s.sl o.dst (.v undef),s.h⟩ rfl (fun p hp=>by cases hp) ?_ (fun q hq=>hq) (fun q hq=>hq) (Fr'.refl _) ?_ hrun h3.symm
    ·intro t ag ah
     exact qXQ ho (by rw[fA ag];exact hw)
    ·unfold RS.den
     rw[mU];rfl
   ·cases h
  ·cases h
theorem YN {ws:List Nat} {b:Fp} (h:rd1 ws b=true) {p:Nat} (hp:p∈ws):(∀q,q∈b.1->p≠q)/\∀q,q∈b.2->p≠q:=by
 have:=gh.1 h p hp;obtain⟨h1,h2⟩:=ga.1 this;have ne:∀ {q:Nat},(!Nat.beq p q)=true->p≠q:=by
  intro q h e;subst e;rw[Tr.beq_yes]at h;cases h
 exact⟨fun q hq=>ne (gh.1 h1 q hq),fun q hq=>ne (gh.1 h2 q hq)⟩
theorem qC9 {ops:Array Oper} {i j:Nat} (hi:i<ops.size) (hj:j<i) (hd:dep ops ops.size i j=false):(i,j)∈rpairs ops:=
 List.mem_flatMap.2 ⟨i,List.mem_range.2 hi,kk.2 ⟨j,List.mem_filter.2 ⟨List.mem_range.2 hj,by rw[hd];rfl⟩,rfl⟩⟩
theorem qQ3 {P:Program} (hm:P.follows .mixedOrders=true) {ih:RT->Option RR} (hih:RIH P ih) {ops:Array Oper} {s:RS} {e:Exit} {s':RS} (h:rreg P ih ops s=some (.code e s')) :
  Fr' s.h s'.h/\e = .normal/\∀ι a w,SR s.den ι a w->∀t,wpOps P ops (Post s.den ι w (fun e st=>e = .normal/\st=s'.den)) (Region.schedule (P.follows .mixedOrders) ops t) a {w with drawn:=w.drawn+1}:=by
 unfold rreg at h;cases q:(FD ops&&(rapart ops&&gp (s.h.nx+ops.size) s.h.m))with
 |false=>rw[q]at h;cases h
 |true=>
  rw[q]at h;simp only[cond_true]at h;obtain⟨he,q2⟩:=ga.1 q;obtain⟨ha,hb⟩:=ga.1 q2;split at h
  ·rename_i s2 fs hrun
   cases hd:rdraws fs (rpairs ops)with
   |false=>rw[hd]at h;cases h
   |true=>
    rw[hd]at h;injection h with h;injection h with h h';subst h h';obtain⟨fr,Ds,l1,l2,l3,l4⟩:=PX hih ops.toList 0 _ s2 fs (fun j o hj=>by simpa using hj) (by simpa using gb hb) hrun;have hl:=l4 (fun i=>(Ds[i]?).getD default) (fun j d hd=>by simp [hd]);have hr:kd 0 ops.toList.length=List.range ops.size:=by rw[ko];simp
    rw[hr]at hl;refine⟨fr,rfl,WH (s:=s.den) hm (fun i o ho e hee hb=>?_) (fun i j hji hi=>?_) hl ⟨rfl,rfl⟩⟩
    ·have hi:i<ops.size:=by
       rcases Nat.lt_or_ge i ops.size with q|q
       ·exact q
       ·rw[Array.getElem?_eq_none q]at ho;cases ho
     have:=gh.1 he i (by simp [hi]);simp only[ho]at this;have:=gh.1 this e (by simpa using hee);simpa [hb]using this
    ·cases hdp:dep ops ops.size i j with
     |true=>exact .inl ⟨_,hdp⟩
     |false=>
      right;have hp:=qC9 hi hji hdp;intro oi oj hoi hoj;have g1:=gh.1 ha _ hp;simp only[hoi,hoj]at g1;refine⟨g1,?_⟩;have g2:=gh.1 (show(rpairs ops).all _=true from hd) _ hp;have hil:i<Ds.length:=by rw[l1];simpa using hi
      have hjl:j<Ds.length:=om
      have hif:i<fs.length:=om
      have hjf:j<fs.length:=om
      simp only[ge hif,ge hjf]at g2;obtain⟨a1,a2⟩:=l3 i _ _ (ge hil) (ge hif);obtain⟨b1,b2⟩:=l3 j _ _ (ge hjl) (ge hjf);obtain⟨f1,f2⟩:=ga.1 g2;simp only[ge hil,ge hjl,Option.getD_some];refine⟨fun p hp q hq=>?_,fun p hp q hq=>?_⟩
      ·obtain⟨e2,e3⟩:=YN f1 (a2 _ (gy hp))
       rcases km.1 hq with z|z
       ·exact e2 q (b1 q z)
       ·exact e3 q (b2 q z)
      ·obtain⟨e2,e3⟩:=YN f2 (b2 _ (gy hp))
       rcases km.1 hq with z|z
       ·exact e2 q (a1 q z)
       ·exact e3 q (a2 q z)
  ·cases h
theorem qVJ {P:Program} (hm:P.follows .mixedOrders=true) {ih:RT->Option RR} (hih:RIH P ih) {id:Nat} {ops:Array Oper} {s:RS} {r:RR} (h:rreg P ih ops s=some r):RTS P (.code (.region id ops true) s) r:=by
 cases r with
 |code e s'=>
  obtain⟨fr,he,hw⟩:=qQ3 hm hih h;subst he;exact⟨fun ι a w r=>wp_region_draw (hw ι a w r),fr⟩
 |val x k=>
  exfalso;unfold rreg at h;cases q:(FD ops&&(rapart ops&&gp (s.h.nx+ops.size) s.h.m))with
  |false=>rw[q]at h;cases h
  |true=>
   rw[q]at h;simp only[cond_true]at h;split at h
   ·rename_i fs _
    cases hd:rdraws fs (rpairs ops)with
    |false=>rw[hd]at h;cases h
    |true=>rw[hd]at h;cases h
   ·cases h
end
noncomputable section
abbrev RD:=FuncId->List V->RH->Option (V×RH)
def RDOk (P:Program) (D:RD):Prop:=∀f args H x H',D f args H=some (x,H')->PC P f args H.den (fun y k=>y=x/\k=H'.den)/\Fr' H H'
structure RE where
 d:RD
 l:FuncId->Bool
 c:FuncId->Nat
structure REOk (P:Program) (D:RE):Prop where
 d:RDOk P D.d
def rAl:Op->Bool
 | .alloc _=>true
 | .box _ _=>true
 | .buildSlice _ _ _=>true
 | .makeSlice _ _ _=>true
 | .convert _ _ _=>true
 | .call ⟨.builtin _,_,_⟩=>true
 |_=>false
def rbump (op:Op) (n:Nat):Nat:=bif rAl op then n+1 else n
def rstep (P:Program) (D:RE) (ih:RT->Option RR):RT->Option RR
 | .code c s=>match c with
   | .skip=>some (.code .normal s)
   | .region _ ops d=>(match d with
     |true=>rreg P ih ops s
     |false=>ih (.ops ops ops.toList s))
   | .seq a b=>match ih (.code a s)with
     |some (.code .normal s')=>ih (.code b s')
     |r=>r
   | .cond c t e=>match rev s.n s.sl c with
     | .v (.bool b)=>ih (.code (if b then t else e) s)
     |_=>none
   | .block id c=>match ih (.code c s)with
     |some (.code (.exit id') s')=>if id'=id then some (.code .normal s')else some (.code (.exit id') s')
     |r=>r
   | .loop b=>match ih (.code b s)with
     |some (.code .normal s')=>ih (.code (.loop b) s')
     |r=>r
   | .exit id=>some (.code (.exit id) s)
   | .ret=>some (.code .ret s)
   |_=>none
 | .ops ops l s=>match l with
   | []=>some (.code .normal s)
   |o::r=>match rwanted ops s.n s.sl o with
    |some true=>match FK P (rev s.n s.sl) o.op with
     |some (f,args)=>match ih (.call f args s.h)with
      |some (.val x h')=>ih (.ops ops r ⟨s.n,xD s.sl o.dst x,h'⟩)
      |_=>none
     |none=>match rop P o.op (rev s.n s.sl) s.h s.h.nx with
      |some (x,h')=>bif kf s.h.nx s.h.m then ih (.ops ops r ⟨s.n,xD s.sl o.dst x,⟨h'.m,rbump o.op s.h.nx,h'.t,rwids P o.op (rev s.n s.sl) s.h.nx++s.h.lg⟩⟩)else none
      |none=>none
    |some false=>ih (.ops ops r ⟨s.n,xD s.sl o.dst (.v undef),s.h⟩)
    |none=>none
 | .call f args h=>match D.d f args h with
   |some (x,h')=>some (.val x h')
   |none=>match P.funcs[f]? with
    |some fn=>match fn.body with
     |some c=>match ih (.code c (rstart fn.ntmps args h))with
      |some (.code e s')=>match e with
       | .normal=>(match rares P fn.results.toList s' with
         |some x=>some (.val x s'.h)
         |none=>none)
       | .ret=>(match rares P fn.results.toList s' with
         |some x=>some (.val x s'.h)
         |none=>none)
       |_=>none
      |_=>none
     |none=>none
    |none=>none
def rrun (P:Program) (D:RE) (n:Nat):RT->Option RR:=
 Nat.rec (motive:=fun _=>RT->Option RR) (fun _=>none) (fun _ ih=>rstep P D ih) n
theorem sC (P:Program) (D:RE) (n:Nat) (t:RT):rrun P D (n+1) t=rstep P D (rrun P D n) t:=rfl
theorem YW {P:Program} {D:RE} {b:Code} (n:Nat) (hrec:∀m,m<n+1->RIH P (rrun P D m)):∀(m:Nat) (s:RS) (e:Exit) (s':RS),m<=n+1->rrun P D m (.code (.loop b) s)=some (.code e s')->Fr' s.h s'.h
 |0,_,_,_,_,q=>by cases q
 |m+1,s,e,s',hm,q=>by
  rw[sC]at q;simp only[rstep]at q;split at q
  ·rename_i s2 h2
   exact(hrec m om _ _ h2).2.trans (YW n hrec m s2 e s' om q)
  ·exact(hrec m om _ _ q).2
theorem ZA {P:Program} {D:RE} (hm:P.follows .mixedOrders=true) (hD:REOk P D) (n:Nat) (hrec:∀m,m<n+1->RIH P (rrun P D m)) (t:RT) (r:RR) (e:rstep P D (rrun P D n) t=some r):RTS P t r:=by
 have hih:RIH P (rrun P D n):=hrec n om;cases t with
 |code c s=>
  simp only[rstep]at e;cases c with
  |skip=>injection e with e;subst e;exact⟨PW.skip ⟨rfl,rfl⟩,Fr'.refl _⟩
  |region id ops d=>
   (try simp only at e);split at e
   ·exact qVJ hm hih e
   ·have:=hih _ _ e
    cases r with
    |code e2 s2=>
     obtain⟨rfl,fr,q⟩:=this;refine⟨PW.region ?_,fr⟩;have hr:List.range ops.size=kd 0 ops.toList.length:=by rw[ko];simp
     rw[hr];intro ι a w rr;exact iB (fun e a w ⟨s3,ι3,⟨p1,p2⟩,p3⟩=>⟨s3,ι3,⟨p1,rfl,p2⟩,p3⟩) _ _ _ (q 0 (fun j o hj=>by simpa using hj) ι a w rr)
    |val x h=>exact this.elim
  |seq a b=>
   (try simp only at e);split at e
   ·rename_i s' ha
    have h1:=hih _ _ ha;have h2:=hih _ _ e;cases r with
    |code e2 s2=>
     refine⟨PW.seq (PW.mono h1.1 ?_),h1.2.trans h2.2⟩;rintro e3 s3 ⟨rfl,rfl⟩;exact h2.1
    |val x h=>exact h2.elim
   ·rename_i q hq
    have h1:=hih _ _ e;cases r with
    |code e2 s2=>
     refine⟨PW.seq (PW.mono h1.1 ?_),h1.2⟩;rintro e3 s3 ⟨rfl,rfl⟩;cases e3 with
     |normal=>exact absurd e (hq s2)
     |_=>exact⟨rfl,rfl⟩
    |val x h=>exact h1.elim
  |cond c x y=>
   (try simp only at e);split at e
   ·rename_i b hb
    rw[<-TV]at hb;have h1:=hih _ _ e;cases r with
    |code e2 s2=>exact⟨PW.cond (s:=s.den) hb h1.1,h1.2⟩
    |val x h=>exact h1.elim
   ·cases e
  |block id c=>
   (try simp only at e);split at e
   ·rename_i id' s' hc
    have h1:=hih _ _ hc;split at e
    ·rename_i hid
     injection e with e;subst e;refine⟨PW.block (PW.mono h1.1 ?_),h1.2⟩;rintro e3 s3 ⟨rfl,rfl⟩;simp only[pZ,if_pos hid];exact⟨trivial,trivial⟩
    ·rename_i hid
     injection e with e;subst e;refine⟨PW.block (PW.mono h1.1 ?_),h1.2⟩;rintro e3 s3 ⟨rfl,rfl⟩;simp only[pZ,if_neg hid];exact⟨trivial,trivial⟩
   ·rename_i q hq
    have h1:=hih _ _ e;cases r with
    |code e2 s2=>
     refine⟨PW.block (PW.mono h1.1 ?_),h1.2⟩;rintro e3 s3 ⟨rfl,rfl⟩;cases e3 with
     |exit id'=>exact absurd e (hq id' s2)
     |_=>exact⟨rfl,rfl⟩
    |val x h=>exact h1.elim
  |loop b=>
   have e0:rrun P D (n+1) (.code (.loop b) s)=some r:=by rw[sC];simp only[rstep];exact e
   cases r with
   |val x h=>
    exfalso;have none:∀m s',m<=n+1->rrun P D m (.code (.loop b) s')≠some (.val x h):=by
     intro m;induction m with
     |zero=>intro s' _ q;cases q
     |succ m ih=>
      intro s' hm' q;rw[sC]at q;simp only[rstep]at q;split at q
      ·rename_i s2 h2;exact ih s2 om q
      ·exact hrec m om _ _ q
    exact none (n+1) s (ki _) e0
   |code er sr=>
    refine⟨?_,YW n hrec (n+1) s er sr (ki _) e0⟩;have key:∀m,m<=n+1->∀s',rrun P D m (.code (.loop b) s')=some (.code er sr)->∃s2 e2,rrun P D (m-1) (.code b s')=some (.code e2 s2)/\(e2 = .normal->rrun P D (m-1) (.code (.loop b) s2)=some (.code er sr))/\(e2 ≠ .normal->e2=er/\s2=sr)/\0<m:=by
     intro m hm' s' q;cases m with
     |zero=>cases q
     |succ m=>
      rw[sC]at q;simp only[rstep]at q;split at q
      ·rename_i s2 h2;exact⟨s2,.normal,h2,fun _=>q,fun z=>absurd rfl z,Nat.succ_pos _⟩
      ·rename_i hq
       refine⟨sr,er,q,fun z=>?_,fun _=>⟨rfl,rfl⟩,Nat.succ_pos _⟩;rw[z]at q;exact absurd q (hq sr)
    let J:St->Nat->Prop:=fun st m=>m<=n+1/\∃s':RS,st=s'.den/\rrun P D m (.code (.loop b) s')=some (.code er sr)
    have hch:∃μ:St->Nat,∀st,(∃m,J st m)->J st (μ st)/\∀m,J st m->μ st<=m:=by
     have least:∀st,∃m,(∃m,J st m)->J st m/\∀m',J st m'->m<=m':=by
      intro st;by_cases hx:∃m,J st m
      ·obtain⟨m,hm1⟩:=hx
       induction m using Nat.strongRecOn with
       |_ m ih=>
        by_cases hl:∃j,j<m/\J st j
        ·obtain⟨j,hj,hj2⟩:=hl
         exact ih j hj hj2
        ·refine⟨m,fun _=>⟨hm1,fun m' hm'=>?_⟩⟩
         rcases Nat.lt_or_ge m' m with q|q
         ·exact absurd ⟨m',q,hm'⟩ hl
         ·exact q
      ·exact⟨0,fun q=>absurd q hx⟩
     exact⟨fun st=>Classical.choose (least st),fun st=>Classical.choose_spec (least st)⟩
    obtain⟨μ,hμ⟩:=hch;refine PW.loop (fun st=>∃m,J st m) μ ⟨n+1,ki _,s,rfl,e0⟩ ?_;intro st hI;obtain⟨⟨g1,s1,g2,g3⟩,_⟩:=hμ st hI;obtain⟨s2,e2,k1,k2,k3,k4⟩:=key (μ st) g1 s1 g3;subst g2;refine PW.mono (hrec (μ s1.den-1) om _ _ k1).1 ?_;rintro e3 s3 ⟨rfl,rfl⟩;cases e3 with
    |normal=>
     have hJ:J s2.den (μ s1.den-1):=⟨om,s2,rfl,k2 rfl⟩
     refine⟨⟨_,hJ⟩,?_⟩;have:=(hμ s2.den ⟨_,hJ⟩).2 _ hJ;omega
    |_=>
     obtain⟨z1,z2⟩:=k3 sm;subst z1 z2;exact⟨rfl,rfl⟩
  |exit id=>injection e with e;subst e;exact⟨PW.exit ⟨rfl,rfl⟩,Fr'.refl _⟩
  |ret=>injection e with e;subst e;exact⟨PW.ret ⟨rfl,rfl⟩,Fr'.refl _⟩
  |_=>cases e
 |ops ops l s=>
  simp only[rstep]at e;cases l with
  |nil=>injection e with e;subst e;exact⟨rfl,Fr'.refl _,fun k _=>PO.nil rfl⟩
  |cons o rest=>
   (try simp only at e);have tail:∀s2:RS,Fr' s.h s2.h->rrun P D n (.ops ops rest s2)=some r->∃s',r = .code .normal s'/\Fr' s.h s'.h/\∀k,(∀(j:Nat) (o':Oper),(o::rest)[j]? =some o'->ops[k+j]? =some o')->PO P ops (kd (k+1) rest.length) s2.den (fun s3=>s3=s'.den):=by
    intro s2 f2 h2;have:=hih _ _ h2;cases r with
    |code e2 s'=>
     obtain⟨rfl,fr,q⟩:=this;exact⟨s',rfl,f2.trans fr,fun k hk=>q (k+1) (fun j o' hj=>by have:=hk (j+1) o' (by simpa using hj);rwa [show k+1+j=k+(j+1)by omega])⟩
    |val x h=>exact this.elim
   have head:∀k,(∀(j:Nat) (o':Oper),(o::rest)[j]? =some o'->ops[k+j]? =some o')->ops[k]? =some o:=fun k hk=>by simpa using hk 0 o sm
   split at e
   ·rename_i hw
    rw[<-tF]at hw;split at e
    ·rename_i f args hcall
     rw[<-KB]at hcall;have hcb:callable P f=true:=by
      unfold jA at hcall;split at hcall
      ·split at hcall
       ·split at hcall
        ·rename_i q;injection hcall with hcall;injection hcall with e1 e2;subst e1;exact q
        ·cases hcall
       ·cases hcall
      ·cases hcall
     obtain⟨fop,ars,tys,first,caps,hop,hf,rfl⟩:=uD hcall
     split at e
     ·rename_i x h' hl
      obtain⟨c1,c2⟩:=hih _ _ hl;obtain⟨s',rfl,fr,q⟩:=tail ⟨s.n,xD s.sl o.dst x,h'⟩ c2 e;refine⟨rfl,fr,fun k hk=>?_⟩;simp only[gj,kc];refine PO.call (s:=s.den) (head k hk) hw hop hf hcb c1 ?_;rintro y k' ⟨rfl,rfl⟩;have q2:=q k hk;unfold RS.den at q2;rw[mU]at q2;exact q2
     ·cases e
    ·split at e
     ·rename_i x h' hx
      cases hb:kf s.h.nx s.h.m with
      |false=>rw[hb]at e;cases e
      |true=>
       rw[hb]at e;simp only[cond_true]at e;obtain⟨q1,q2⟩:=qQZ (n2:=rbump o.op s.h.nx) hx (gb hb);obtain⟨s',rfl,fr,q⟩:=tail _ q2 e;refine⟨rfl,fr,fun k hk=>?_⟩;simp only[gj,kc];have q3:=q k hk;unfold RS.den at q3;rw[mU]at q3;rw[<-TV]at q1;exact PO.op (s:=s.den) s.h.nx (head k hk) hw q1 q3
     ·cases e
   ·rename_i hw
    rw[<-tF]at hw;obtain⟨s',rfl,fr,q⟩:=tail ⟨s.n,xD s.sl o.dst (.v undef),s.h⟩ (Fr'.refl _) e;refine⟨rfl,fr,fun k hk=>?_⟩;simp only[gj,kc];have q3:=q k hk;unfold RS.den at q3;rw[mU]at q3;exact PO.no (s:=s.den) (head k hk) hw q3
   ·cases e
 |call f args h=>
  simp only[rstep]at e;split at e
  ·rename_i x h' hd
   injection e with e;subst e;exact hD.d _ _ _ _ _ hd
  ·split at e
   ·rename_i fn hf
    split at e
    ·rename_i c hb
     split at e
     ·rename_i e2 s' hc
      have h1:=hih _ _ hc;have fin:(e2 = .normal\/e2 = .ret)->∀x,rares P fn.results.toList s'=some x->PC P f args h.den (fun y k=>y=x/\k=s'.h.den)/\Fr' h s'.h:=by
       intro he x hx;refine⟨PC.of_body hf hb ?_,h1.2⟩;have h2:=h1.1;unfold RS.den at h2;rw[TW]at h2;refine PW.mono h2 ?_;rintro e3 s3 ⟨rfl,rfl⟩;exact⟨he,x,qQE hx,rfl,rfl⟩
      split at e
      ·split at e
       ·rename_i x hx
        injection e with e;subst e;exact fin (.inl rfl) x hx
       ·cases e
      ·split at e
       ·rename_i x hx
        injection e with e;subst e;exact fin (.inr rfl) x hx
       ·cases e
      ·cases e
     ·cases e
    ·cases e
   ·cases e
theorem qDA {P:Program} {D:RE} (hm:P.follows .mixedOrders=true) (hD:REOk P D) (n:Nat):RIH P (rrun P D n):=by
 induction n using Nat.strongRecOn with
 |_ n ih=>
  cases n with
  |zero=>intro t r e;cases e
  |succ n=>exact fun t r e=>ZA hm hD n (fun m hm'=>ih m hm') t r (by rw[<-sC];exact e)
theorem qQS {k:Nat} {ι:Iota} {w:World} (H:HRel [] ι w):HRel (gq k .free) ι w/\Evolve [] ι w (gq k .free) ι w:=by
 have no:∀(id:Nat) (o:AObj),¬(gq k HS.free)[id]? =some (.live o):=by
  intro id o h;rw[hh]at h;split at h<;>cases h
 have nob:∀b,¬Ob (gq k HS.free) ι b:=fun b ⟨id,o,l,h,_⟩=>no id o h
 have hout:∀id,ι id=none:=fun id=>H.out id (Nat.zero_le _)
 exact⟨⟨fun id o h=>(no id o h).elim,fun id _=>hout id,fun id _=>hout id,fun id o l id' o' l' h=>(no id o h).elim,H.xlt,fun b _=>nob b⟩,
  ⟨rfl,rfl,rfl,ki _,fun _ _ q=>q,rfl,fun b _ _=>⟨rfl,nob b⟩,fun b c _ fr hb=>⟨c,fr,hb,rfl⟩⟩⟩
theorem PC.of_rrun {P:Program} {D:RE} (hm:P.follows .mixedOrders=true) (hD:REOk P D) (n m:Nat) {f:FuncId} {args:List V} {x:V} {h':RH} (e:rrun P D n (.call f args ⟨m,0,.nil,[]⟩)=some (.val x h')) :
  PC P f args [] (fun y k=>y=x/\k=h'.den):=by
 have h1:=(qDA hm hD n _ _ e).1;have h2:(RH.mk m 0 .nil []).den=gq m .free:=by
  unfold RH.den;apply gw;intro i;rw[kb,hh];by_cases q:i<m
  ·rw[ke q,if_pos q];rfl
  ·rw[go (by simpa using gt q),if_neg q];rfl
 rw[h2]at h1;exact PC.pre (fun H=>qQS H) h1
def qFO:Option RR->Bool
 |some (.val x _)=>(match x with
  | .v y=>(match y with
    | .bool b=>b
    |_=>false)
  |_=>false)
 |_=>false
theorem qK6 {x:V} {h:RH} (e:qFO (some (.val x h))=true):x = .v (.bool true):=by
 cases x with
 |v y=>cases y with
  |bool b=>cases b with
   |true=>rfl
   |false=>cases e
  |_=>cases e
 |_=>cases e
theorem PC.of_rtrue {P:Program} {D:RE} (hm:P.follows .mixedOrders=true) (hD:REOk P D) (n m:Nat) {f:FuncId} {args:List V} (e:qFO (rrun P D n (.call f args ⟨m,0,.nil,[]⟩))=true) :
  PC P f args [] (fun y _=>y = .v (.bool true)):=by
 cases hr:rrun P D n (.call f args ⟨m,0,.nil,[]⟩)with
 |none=>rw[hr]at e;cases e
 |some r=>
  rw[hr]at e;cases r with
  |code e2 s=>cases e
  |val x h'=>
   refine PC.mono (PC.of_rrun hm hD n m hr) ?_;rintro y k ⟨rfl,rfl⟩;exact qK6 e
end
noncomputable section
theorem RDOk.or {P:Program} {A B:RD} (ha:RDOk P A) (hb:RDOk P B):RDOk P (fun f args H=>match A f args H with
  |some r=>some r
  |none=>B f args H):=by
 intro f args H x H' h;cases q:A f args H with
 |some r=>simp only[q]at h;injection h with h;subst h;exact ha _ _ _ _ _ q
 |none=>simp only[q]at h;exact hb _ _ _ _ _ h
def rcst (f:FuncId) (x:V):RD:=fun g args H=>match gn g f,args with
 |true,[]=>some (x,H)
 |_,_=>none
theorem qFR {P:Program} {f:FuncId} {x:V} (h:∀k,PC P f [] k (fun y k'=>y=x/\k'=k)):RDOk P (rcst f x):=by
 intro g args H y H' e;unfold rcst at e;split at e
 ·rename_i q
  injection e with e;injection e with e1 e2;subst e1 e2;rw[gg q];exact⟨h _,Fr'.refl _⟩
 ·cases e
theorem aH.cst {P:Program} {f:FuncId} {t:Ty} {l:List t.den} (h:aH P f (.fn [] none (.d (.list t) l))) (k:Heap):PC P f [] k (fun y k'=>y = .sF t.size (l.map t.row)/\k'=k):=by
 have h1:=(h () (fun p q=>by cases q)).2 k (fun p hp=>by cases hp);refine PC.res_LE (PC.mono h1 ?_);rintro y k' ⟨rfl,rfl⟩;refine⟨_,?_,rfl,rfl⟩;intro w ι M z r;cases r with
 |sL _ _ _ r=>exact r
theorem aH.closed {P:Program} {D:RE} (hm:P.follows .mixedOrders=true) (hD:REOk P D) (n m:Nat) {f:FuncId} (e:qFO (rrun P D n (.call f [] ⟨m,0,.nil,[]⟩))=true):aH P f (.fn [] none (.d .bool true)):=by
 intro x _;refine⟨fun p hp=>(by cases hp),fun k _=>?_⟩;refine PC.mono (PC.frame (x0:=.v (.bool true)) ((qD1 0).2 trivial) (PC.mono (PC.of_rtrue hm hD n m e) ?_) k) (fun y k' ⟨h1,h2⟩=>⟨h1,h2⟩);rintro y k' rfl;exact Frz.tree (.v _)
def qFQ (f:FuncId) (e:TypeId):RD:=fun g args H=>match gn g f,args with
 |true,[x]=>match x with
  | .pO i r off=>match qVC H (.pO i r off)with
    |some (row,off)=>match row[off+1]? with
     |some (.v (.slice none 0 0))=>some (.v (.string ⟨#[]⟩),H)
     |some (.sO k 0 n)=>match H.get k with
      |some (.live ob)=>bif gn ob.sz 1&&(gn ob.elem.t e&&(gp n ob.rows.length&&(gp n 1099511627776&&(!Nat.beq n 0&&(gp 1 ob.elem.fz&&gp ob.elem.fz (n+1))))))then
         match bytesOf (ob.rows.take n)with
         |some bs=>some (str bs,⟨H.m,H.nx,H.t.set k (.live ⟨ob.sz,ob.rows,⟨ob.elem.t,n+1⟩⟩),k::H.lg⟩)
         |none=>none
       else none
      |_=>none
     |_=>none
    |none=>none
  |_=>none
 |_,_=>none
theorem yH:∀ {rows:List (List V)} {bs:List UInt8},bytesOf rows=some bs->∃l:List Int,rows=l.map (fun n=>[V.v (.int .u8 n)])/\bs=l.map (fun n=>UInt8.ofNat n.toNat)
 | [],bs,h=>by injection h with h;subst h;exact⟨[],rfl,rfl⟩
 |r::rs,bs,h=>by
  simp only[bytesOf]at h;split at h
  ·rename_i b bs' hb hbs
   injection h with h;subst h;obtain⟨l,l1,l2⟩:=yH hbs;unfold RU at hb;split at hb
   ·rename_i n
    injection hb with hb;exact⟨n::l,by rw[l1];rfl,by rw[l2,<-hb];rfl⟩
   ·cases hb
  ·cases h
theorem qQF {P:Program} {f:FuncId} {e pt it ty:TypeId} (hp:P.underlying pt=some (.pointer e)) (hcell:P.cellsOf e=1)
  (hnil:∀(b o:Nat) (w:World),w.cell? ⟨b,o+1,none⟩=some (.slice none 0 0)->Calls P f #[.pointer (some ⟨b,o,none⟩)] w fun x w'=>x = .returned (.string ⟨#[]⟩)/\w'=w.drew)
  (hsome:∀(b o:Nat) (a:Addr) (n cap:Nat) (s:ByteArray) (w:World),w.cell? ⟨b,o+1,none⟩=some (.slice (some a) n cap)->cap≠0->(Builtin.unsafeString_ #[pt,it] ty #[.pointer (some a),.int .i64 n]).run P w.drew = .ok (.string s) (w.drew.freeze a n) ->
    Calls P f #[.pointer (some ⟨b,o,none⟩)] w fun x w'=>x = .returned (.string s)/\w'=w.drew.freeze a n):RDOk P (qFQ f e):=by
 intro g args H x H' hr;unfold qFQ at hr;split at hr;rotate_left
 ·cases hr
 rename_i hg;have hg:=gg hg;subst hg;split at hr;rotate_left
 ·cases hr
 rename_i i r off;split at hr;rotate_left
 ·cases hr
 rename_i row off' hrow;have hrow2:rowAt H.den (.pO i r off)=some (row,off'):=by rw[qFN];exact hrow
 simp only[rowAt]at hrow2;split at hrow2;rotate_left
 ·cases hrow2
 rename_i ob0 hob0;split at hrow2;rotate_left
 ·cases hrow2
 rename_i row2 hrw;injection hrow2 with hrow2;injection hrow2 with h1 h2;subst h1 h2;have start:∀(ι:Iota) (w:World) (vals:Array Value),PW2 w ι (Mt H.den ι) [V.pO i r off] vals->HRel H.den ι w->∀c,row2[off+1]? =some c->∃b o x,vals = #[.pointer (some ⟨b,o,none⟩)]/\w.cell? ⟨b,o+1,none⟩=some x/\Rep w ι (Mt H.den ι) c x:=by
  intro ι w vals hpv HR c hc;obtain⟨L,cs,fr,hL,la⟩:=HR.live i _ hob0;obtain⟨v0,hv0,rv0⟩:=hpv.2 0 _ rfl;cases rv0 with
  |pO _ _ _ L2 hL2=>
   rw[hL]at hL2;injection hL2 with hL2;subst hL2;have hvals:vals = #[.pointer (some ⟨L.blk,L.base+r*L.sz+off,none⟩)]:=by
    have hs:vals.size=1:=hpv.1.symm;exact Array.ext (by rw[hs];rfl) (fun q q1 q2=>by
     have h0:q=0:=by rw[hs]at q1;omega
     subst h0;rw[Array.getElem?_eq_getElem q1]at hv0;exact Option.some.inj hv0)
   obtain⟨_,_,u,u1,u2⟩:=la.get hrw hc;refine⟨_,_,u,hvals,?_,u2⟩;simp only[World.cell?,la.blk];rw[<-u1,la.sz];congr 1
 split at hr
 ·rename_i hc
  injection hr with hr;injection hr with e1 e2;subst e1 e2;refine⟨?_,Fr'.refl _⟩;intro ι w vals hpv HR;obtain⟨b,o,z,hv,hz,rz⟩:=start ι w vals hpv HR _ hc;subst hv;cases rz;refine(hnil b o w hz).mono ?_;rintro e' w' ⟨rfl,rfl⟩;obtain⟨H2,ev⟩:=HR.killed (h':=H.den) (w':=w.drew) (fun _=>.inl rfl) rfl (fun _=>False) (fun _ q=>q.elim) rfl rfl rfl rfl (fun _ _=>rfl) (fun _ c _ fr q=>⟨c,fr,q,rfl⟩);exact⟨_,_,_,ι,rfl,⟨rfl,rfl⟩,.v _,H2,ev⟩
 ·rename_i k n hc
  split at hr;rotate_left
  ·cases hr
  rename_i ob hob;cases q:(gn ob.sz 1&&(gn ob.elem.t e&&(gp n ob.rows.length&&(gp n 1099511627776&&(!Nat.beq n 0&&(gp 1 ob.elem.fz&&gp ob.elem.fz (n+1)))))))with
  |false=>rw[q]at hr;cases hr
  |true=>
   rw[q]at hr;simp only[cond_true]at hr;obtain⟨q1,q2⟩:=ga.1 q;obtain⟨q3,q4⟩:=ga.1 q2;obtain⟨q5,q7⟩:=ga.1 q4;obtain⟨q8,q9⟩:=ga.1 q7;obtain⟨q6,q10⟩:=ga.1 q9;have hn63:=gb q8;have hsz:=gg q1;have hel:ob.elem.t=e:=gg q3;have hon:=gb q5;obtain⟨q11,q12⟩:=ga.1 q10;have hfz1:=gb q11;have hfz:=gb q12;have hn0:n≠0:=fun z=>by rw[z]at q6;cases q6
   split at hr;rotate_left
   ·cases hr
   rename_i bs hbs;injection hr with hr;injection hr with e1 e2;subst e1 e2;have hobd:H.den[k]? =some (.live ob):=by rw[cF];exact hob
   have hden:(RH.mk H.m H.nx (H.t.set k (.live ⟨ob.sz,ob.rows,⟨ob.elem.t,n+1⟩⟩)) (k::H.lg)).den=H.den.set k (.live ⟨ob.sz,ob.rows,⟨ob.elem.t,n+1⟩⟩):=vM H k _;refine⟨?_,rfl,[k],rfl,fun j hj=>?_⟩;rotate_left
   ·rw[<-cF,<-cF,hden,List.getElem?_set_ne]
    intro z;exact hj (by rw[z];exact List.mem_singleton.2 rfl)
   rw[hden];intro ι w vals hpv HR;obtain⟨b,o1,z,hv,hz,rz⟩:=start ι w vals hpv HR _ hc;subst hv;obtain⟨l,l1,l2⟩:=yH hbs;have hll:l.length=n:=by
    have:=congrArg List.length l1;rw[List.length_take,kl]at this;omega
   have hl0:l≠ []:=fun z=>hn0 (by rw[<-hll,z];rfl)
   cases rz with
   |sO _ _ _ cap Lk ck ek frk hLk hcap hbk hszk=>
    obtain⟨Lk2,ck2,frk2,hLk2,lak⟩:=HR.live k _ hobd;rw[hLk]at hLk2;injection hLk2 with hLk2;subst hLk2;have hsk:Lk.sz=1:=lak.sz.trans hsz;rw[Nat.zero_mul,Nat.add_zero]at hz;have hcells:∀(j:Nat) (x:Int),l[j]? =some x->w.cell? ⟨Lk.blk,Lk.base+j,none⟩=some (.int .u8 x):=by
     intro j x hx;have hj:j<n:=by rw[<-hll];exact aI hx
     have hrow:ob.rows[j]? =some [V.v (.int .u8 x)]:=by
      have h1:(ob.rows.take n)[j]? =some [V.v (.int .u8 x)]:=by rw[l1,kb,hx];rfl
      rw[List.getElem?_take_of_lt hj]at h1;exact h1
     obtain⟨_,_,u,u1,u2⟩:=lak.get hrow (show[V.v (.int .u8 x)][0]? =some (V.v (.int .u8 x))from rfl);cases u2;simp only[World.cell?,lak.blk];have e1:Lk.base+j*ob.sz+0=Lk.base+j:=by rw[hsz];omega
     rw[<-e1];exact u1
    have hfit:Lk.base+l.length<=ck2.size:=by
     have:=lak.fits;rw[hsz]at this;omega
    have hUS:=oP (P:=P) w.drew pt it ty e hp hcell Lk.blk Lk.base ck2.size (by show(match w.heap[Lk.blk]? with|some (.cells c elem _)=>some (elem,c.size)|_=>none)=_;rw[lak.blk,hel]) l hl0 hfit om (fun j x hx=>by
     have:(⟨Lk.blk,Lk.base,none⟩:Addr).add j=⟨Lk.blk,Lk.base+j,none⟩:=oA _ _ _;rw[this];exact hcells j x hx)
    rw[hll]at hUS;refine(hsome _ _ ⟨Lk.blk,Lk.base,none⟩ n cap (aT l) w hz om hUS).mono ?_;rintro e' w' ⟨rfl,rfl⟩;have hhp:(w.drew.freeze ⟨Lk.blk,Lk.base,none⟩ n).heap[Lk.blk]? =some (.cells ck2 ob.elem.t (if frk2.1 == frk2.2 then(Lk.base,Lk.base+n)else(min frk2.1 Lk.base,max frk2.2 (Lk.base+n)))):=by
     unfold World.freeze;rw[if_neg hn0];have h0:w.drew.heap[Lk.blk]? =some (.cells ck2 ob.elem.t frk2):=lak.blk;simp only[Array.getElem?_modify,if_pos,h0];obtain⟨lo,hi⟩:=frk2;rfl
    have hun:Unfr (n+1) Lk.base ob.sz ck2.size (if frk2.1 == frk2.2 then(Lk.base,Lk.base+n)else(min frk2.1 Lk.base,max frk2.2 (Lk.base+n))):=by
     have u:=lak.unfrozen;obtain⟨hle,hcl⟩:=u.clean hfz1;have cl:∀fr:Nat×Nat,fr.1<=fr.2->(∀k,fr.1<=k->k<fr.2->Lk.base<=k/\k+1<Lk.base+(n+1))->Unfr (n+1) Lk.base ob.sz ck2.size fr:=fun fr h1 h2=>⟨fun k _=>h2 k,fun z=>(z hsz).elim,fun _=>⟨h1,h2⟩⟩
     split
     ·exact cl _ (Nat.le_add_right _ _) fun k h1 h2=>by simp only at h1 h2;omega
     ·rename_i hne
      have hne:frk2.1≠frk2.2:=by simpa using hne
      have a1:=hcl frk2.1 (ki _) om;have a2:=hcl (frk2.2-1) om om;exact cl _ (by simp only;omega) fun k h1 h2=>by simp only at h1 h2;omega
    obtain⟨H2,ev⟩:=HR.updG hobd hLk lak (o':=⟨ob.sz,ob.rows,⟨ob.elem.t,n+1⟩⟩) (c':=ck2) (w':=w.drew.freeze ⟨Lk.blk,Lk.base,none⟩ n)
     ⟨by unfold World.freeze;split<;>rfl,by unfold World.freeze;split<;>rfl,by unfold World.freeze;split<;>rfl,DW _ _ _,fun q hq=>DU w.drew _ _ _ hq⟩ hhp rfl rfl rfl hun lak.rows lak.fits lak.reads
    have hs:str bs = .v (.string (aT l)):=by rw[str,l2];rfl
    exact⟨_,_,_,ι,rfl,⟨rfl,rfl⟩,by rw[hs];exact .v _,H2,ev⟩
 ·cases hr
end
end Go.Abs
