import Derived.Test.YtcjiefknhfhmkaaGreatDoorM10
namespace Go.Proofs.YtcjiefknhfhmkaaGreatDoor
open Go.Abs
set_option maxRecDepth 100000
set_option maxHeartbeats 4000000
set_option linter.unusedVariables false
set_option linter.unusedSimpArgs false
theorem IO {c:Col} {v:Val} (h:bK c v=0):cB c.2.1=true:=by
 unfold bK at h;split at h
 ·cases h
 ·rename_i q;simpa using q
theorem LQ {c:Col}:∀ {l:List Val},(∀v,v∈l->bK c v=0)->dQ c l=0
 | [],_=>rfl
 |v::l,h=>by rw[dQ,if_neg (fun q=>q (h v (List.mem_cons_self ..)))];exact LQ fun x hx=>h x (List.mem_cons_of_mem _ hx)
theorem qGU {c:Col} {l:List Val} (h0:1<=l.length) (hl:l.length<=4096) (hv:∀v,v∈l->bK c v=0):(fK c l).2=0:=by
 have hk:=IO (hv l[0] (List.getElem_mem _));rw[fK,if_neg (by rw[hk];exact Bool.noConfusion),if_neg (by omega),if_neg (fun q=>q (LQ hv))]
theorem oI {s:Schema} {l:List Rec} (h:1<=s.1.length/\s.1.length<=12):(jF l (s.1.length:Int)++ [dS l]).length=s.1.length+1:=by
 have hc:=(lA (l:=l) (n:=(s.1.length:Int)) ⟨by omega,by omega⟩).1;rw[List.length_append,List.length_cons,List.length_nil];omega
theorem qP8 {s:Schema} {l:List Rec} (h:1<=s.1.length/\s.1.length<=12) {k:Int} (hk:0<=k/\k<s.1.length+1) :
  @getElem! (List (List Val)) Nat (List Val) (fun xs i=>i<xs.length) _ (instInhabitedDen (.list bQ)) (jF l (s.1.length:Int)++ [dS l]) k.toNat=vI s l k.toNat:=by
 have hc:=lA (l:=l) (n:=(s.1.length:Int)) ⟨by omega,by omega⟩;have hl:=hc.1;have hlen:=oI (l:=l) h;unfold vI;rw[getElem!_pos _ _ (by omega)];split
 ·rw[List.getElem_append_right (by omega),List.getElem_singleton]
 ·rw[List.getElem_append_left (by omega),<-hc.2 k.toNat (by omega),getElem!_pos _ _ (by omega)]
theorem oP {s:Schema} {l:List Rec} (hv:cN s l=true) (hi:wZ l) (h0:1<=l.length) (hl:l.length<=1024) {k:Int} (h:0<=k/\k<s.1.length+1) :
  @getElem! (List (List Val)) Nat (List Val) (fun xs i=>i<xs.length) _ (instInhabitedDen (.list bQ)) (jF l (s.1.length:Int)++ [dS l]) k.toNat=vI s l k.toNat/\(vI s l k.toNat).length<=1024/\(∀v,v∈vI s l k.toNat->inI v.2.1) /\
   (fK (tC s k) (vI s l k.toNat)).2=0/\(fK (tC s k) (vI s l k.toNat)).1=chnk s l k.toNat/\(chnk s l k.toNat).size<=4398046585379:=by
 have hs:=aU (bS hv).1;have hk:((k.toNat:Nat):Int)=k:=by omega
 have hL:(vI s l k.toNat).length=l.length:=by
  unfold vI;split
  ·simp [dS]
  ·exact qQ l _
 have ho:∀v,v∈vI s l k.toNat->bK (tC s k) v=0/\inI v.2.1:=by
  unfold vI tC;split
  ·rename_i q;rw[if_pos (by omega)];exact WH hv
  ·rename_i q;rw[if_neg (by omega)];exact FL hv hi (by omega)
 refine⟨qP8 ⟨by omega,hs.1⟩ h,by omega,fun v q=>(ho v q).2,qGU (by omega) (by omega) (fun v q=>(ho v q).1),?_,?_⟩
 ·unfold chnk;rw[hk]
 ·unfold chnk;rw[hk]
  exact MB (by omega) fun v q=>eF (ho v q).1 (ho v q).2
theorem XE {s:Schema} {l:List Rec} {k:Int} (h:k=s.1.length+1):chP s l k.toNat=chnks s l:=by rw[h];rfl
theorem FS {s:Schema} {l:List Rec} (hv:cN s l=true) (hi:wZ l) (hl:l.length<=1024):∀k:Int,0<=k/\k<((gF s l).2.1.length:Int)->vO (gF s l).2.1[k.toNat]!:=by
 intro k hk;show vO (iA s l (List.range s.1.length))[k.toNat]!;have hk:0<=k/\k<((iA s l (List.range s.1.length)).length:Int):=hk;have hlen:(iA s l (List.range s.1.length)).length=s.1.length:=by rw[iA,List.length_map,List.length_range]
 rw[getElem!_pos _ _ (by omega)];unfold iA;rw[List.getElem_map,List.getElem_range];have ho:=FL hv hi (i:=k.toNat) (by omega);have hL:=qQ l k.toNat;exact KY (by omega) fun v q=>MJ (ho v q)
theorem FR {s:Schema} {l:List Rec}:(iA s l (List.range s.1.length)).length=s.1.length:=by rw[iA,List.length_map,List.length_range]
theorem qDY {Z:List Zone} {k:Int} (h:0<=k/\k<Z.length):jC ((Z.take (k+1).toNat).map rH)=jC ((Z.take k.toNat).map rH)++rH Z[k.toNat]!:=by
 rw[pC Z k h,List.map_append,fI,List.map_cons,List.map_nil,fJ]
theorem EA (a b:Int):cI a b=cI b a:=by unfold cI;split<;>split<;>omega
theorem UN {s:Schema} {l:List Rec} {G:List Int} (h:aX s=0) (hG:aN G=aN (four (idS s).1)++aN (put (l.length:Int))++jC ((chnks s l).map szB)++jC ((iA s l (List.range s.1.length)).map rH)) {n:Nat} (hn:n=l.length-1) :
  aN (G++bH (cS (fR s l[0]!)++cS (fR s l[n]!)))=oR s l:=by
 rw[bU,bE,hG,hn,oR,qG6 h];simp only[ByteArray.append_assoc]
abbrev HT:Ct:=.fn [.int .u32] (none) (fun(v:Int)=>.d .str (aN (four v)))
theorem qLT:aG Tryz.prog 63 HT:=by
 refine aG.fn SY mixed [] [] rfl rfl ?_;rintro⟨(v:Int),_⟩ -;refine⟨[],?_⟩;repeat' (first
  |(
 with_reducible apply Side.mk
 (try dsimp only[cu,aB,aA,gts,loK,hiK,eE,eN])
 first
 |omega
 |(exact Eq.refl _))
  |(conv=>whnf
    first
     |with_reducible first|done|exact trivial|refine NilBr.mk (fun h=>?_) ?_|apply aJ|apply aI|refine aK (by kernel_rfl) ?_|apply aL|apply bC|apply bB|apply aO
     |((with_reducible first|apply aQ|apply aP|apply bA)<;>intro h<;>(try dsimp only[cu,eE,eN]at h)<;>(try(exfalso;omega)))))
 all_goals(
 with_reducible apply Leaf.mk
 (try dsimp only[cu,aB,aA,gts,eE,eN]at *)
 rfl)
abbrev qN4:Tbl:=(63,HT)::qN3
theorem SZ:aC Tryz.prog qN4:=aC.cons qLT SY
abbrev IL:Ct:=.fn [bQ] (some (fun(v:Val)=>(inI v.2.1/\v.2.2.size<=1073741824))) (fun(v:Val)=>.d .str (rG v))
theorem qM6:aG Tryz.prog 115 IL:=by
 refine aG.fn SZ mixed [] [] rfl rfl ?_;rintro⟨(v:Val),_⟩ hpre;replace hpre:=hpre _ rfl;dsimp only[cu]at hpre;have hv:=hpre;refine⟨[],?_⟩;repeat' (first
  |(
 with_reducible apply Side.mk
 (try dsimp only[cu,aB,aA,gts,loK,hiK,eE,eN])
 first
 |exact hv.1
 |exact kX hv.1
 |(
  have p1:=aY (fE v.2.1);have p2:=aY ((v.2.2.size:Int));first
  |(
   rw[aS (by omega)];omega)
  |(
   simp only[ByteArray.size_append,aT];(try rw[aS (by omega)]);have s1:(⟨#[1]⟩:ByteArray).size=1:=rfl;omega)))
  |(conv=>whnf
    first
     |with_reducible first|done|exact trivial|refine NilBr.mk (fun h=>?_) ?_|apply aJ|apply aI|refine aK (by kernel_rfl) ?_|apply aL|apply bC|apply bB|apply aO
     |((with_reducible first|apply aQ|apply aP|apply bA)<;>intro h<;>(try dsimp only[cu,eE,eN]at h)<;>(try(exfalso;omega)))))
 all_goals(
 with_reducible apply Leaf.mk
 (try dsimp only[cu,aB,aA,gts,eE,eN]at *)
 first
 |rw[rG,if_pos (by assumption)]
 |(rw[VO (by assumption),aS (n:=((v.2.2.size:Nat):Int)) (by omega)]))
abbrev qN5:Tbl:=(115,IL)::qN4
theorem TA:aC Tryz.prog qN5:=aC.cons qM6 SZ
abbrev IM:Ct:=.fn [tM] (some (fun(z:Zone)=>(z.1<=4096/\z.2.1<=4096)/\(inI z.2.2.1.2.1/\z.2.2.1.2.2.size<=1073741824)/\(inI z.2.2.2.2.1/\z.2.2.2.2.2.size<=1073741824))) (fun(z:Zone)=>.d .str (rH z))
theorem qNB:aG Tryz.prog 68 IM:=by
 refine aG.fn TA mixed [] [] rfl rfl ?_;rintro⟨(z:Zone),_⟩ hpre;replace hpre:=hpre _ rfl;dsimp only[cu]at hpre;obtain⟨h1,h2,h3⟩:=hpre;refine⟨[],?_⟩;repeat' (first
  |(
 with_reducible apply Side.mk
 (try dsimp only[cu,aB,aA,gts,loK,hiK,eE,eN])
 first
 |omega
 |(
  have m1:0<=cI 0 z.1/\cI 0 z.1<=4096:=by unfold cI;split<;>omega
  have m2:0<=cI 0 z.2.1/\cI 0 z.2.1<=4096:=by unfold cI;split<;>omega
  first
  |(
   rw[EA,aS (by omega)];omega)
  |(
   have p1:=aY (cI 0 z.1);have p2:=aY (cI 0 z.2.1);have p3:=mN (v:=z.2.2.1);have p4:=mN (v:=z.2.2.2);simp only[EA z.1 0,EA z.2.1 0,aS (n:=cI 0 z.1) (by omega),aS (n:=cI 0 z.2.1) (by omega),ByteArray.size_append,aT];omega)))
  |(conv=>whnf
    first
     |with_reducible first|done|exact trivial|refine NilBr.mk (fun h=>?_) ?_|apply aJ|apply aI|refine aK (by kernel_rfl) ?_|apply aL|apply bC|apply bB|apply aO
     |((with_reducible first|apply aQ|apply aP|apply bA)<;>intro h<;>(try dsimp only[cu,eE,eN]at h)<;>(try(exfalso;omega)))))
 all_goals(
 with_reducible apply Leaf.mk
 (try dsimp only[cu,aB,aA,gts,eE,eN]at *)
 (
  have m1:0<=cI 0 z.1/\cI 0 z.1<=4096:=by unfold cI;split<;>omega
  have m2:0<=cI 0 z.2.1/\cI 0 z.2.1<=4096:=by unfold cI;split<;>omega
  rw[rH,EA,EA z.2.1,aS (n:=cI 0 z.1) (by omega),aS (n:=cI 0 z.2.1) (by omega)]))
abbrev qN6:Tbl:=(68,IM)::qN5
theorem TB:aC Tryz.prog qN6:=aC.cons qNB TA
abbrev sZ:Ct:=.fn [rN] (some (fun(r:Rank)=>(0<=r.2/\r.2<=1099511627776)/\(inI r.1.2.1/\r.1.2.2.size<=1073741824))) (fun(r:Rank)=>.d .str (cS r))
theorem QN:aG Tryz.prog 69 sZ:=by
 refine aG.fn TB mixed [] [] rfl rfl ?_;rintro⟨(r:Rank),_⟩ hpre;replace hpre:=hpre _ rfl;dsimp only[cu]at hpre;obtain⟨hr,hs⟩:=hpre;refine⟨[],?_⟩;repeat' (first
  |(
 with_reducible apply Side.mk
 (try dsimp only[cu,aB,aA,gts,loK,hiK,eE,eN])
 first
 |omega
 |(
  rw[aS (by omega)];omega)
 |(
  have h1:=mN (v:=r.1);have h2:=aY (IntKind.u64.wrap r.2);simp only[aT];omega))
  |(conv=>whnf
    first
     |with_reducible first|done|exact trivial|refine NilBr.mk (fun h=>?_) ?_|apply aJ|apply aI|refine aK (by kernel_rfl) ?_|apply aL|apply bC|apply bB|apply aO
     |((with_reducible first|apply aQ|apply aP|apply bA)<;>intro h<;>(try dsimp only[cu,eE,eN]at h)<;>(try(exfalso;omega)))))
 all_goals(
 with_reducible apply Leaf.mk
 (try dsimp only[cu,aB,aA,gts,eE,eN]at *)
 rw[cS,aS (by omega)])
abbrev qN7:Tbl:=(69,sZ)::qN6
theorem TC:aC Tryz.prog qN7:=aC.cons QN TB
abbrev sY:Ct:=.fn [cG,.list iW] (some (fun(s:Schema) (l:List Rec)=>(l.length<=1073741824)/\(1<=s.1.length/\s.1.length<=12))) (fun(s:Schema) (l:List Rec)=>.d (.list (.list bQ)) (jF l (s.1.length:Int)++ [dS l]))
theorem QM:aG Tryz.prog 65 sY:=by
 refine aG.fn TC mixed [] [] rfl rfl ?_;rintro⟨(s:Schema),(l:List Rec),_⟩ hpre;replace hpre:=hpre _ rfl;dsimp only[cu]at hpre;obtain⟨hl,hs⟩:=hpre;refine⟨[(0,8,LA.mk [.sl 16 (.int .i64),.lst 6 bQ 43] (fun y=>Tag 74/\cu [.int .i64,.list bQ] (fun(k:Int) (M:List Val)=>(0<=k/\k<=l.length)/\(M=dS (l.take k.toNat))/\((M.length:Int)=k)) y) (cu [.int .i64,.list bQ] (fun(k:Int) (M:List Val)=>((l.length:Int)-k).toNat)) (cu [.int .i64,.list bQ] (fun(k:Int) (M:List Val)=>([]:List (Nat×Nat×LA)))))],?_⟩;repeat' (first
  |(
 with_reducible refine Side.mk ⟨(⟨⟩:Tag 74),?_⟩
 dsimp only[cu,aB,aA,gts,eE,eN]
 refine⟨?_,?_,?_⟩
 ·omega
 ·first
  |rfl
  |rw[hm,EY (by omega)]
 ·first
  |(
  simp
  done)
  |(
  simp only[List.length_append,List.length_cons,List.length_nil]
  omega))
  |(
 with_reducible apply Side.mk
 (try dsimp only[cu,aB,aA,gts,loK,hiK,eE,eN])
 first
 |done
 |omega
 |exact Eq.refl _
 |simp only[List.length_append,List.length_cons,List.length_nil];omega
 |(
  have:=(lA (l:=l) (n:=(s.1.length:Int)) ⟨by omega,by omega⟩).1;simp only[List.length_append,List.length_cons,List.length_nil];omega))
  |(conv=>whnf
    first
     |with_reducible first|done|exact trivial|refine NilBr.mk (fun h=>?_) ?_|apply aJ|apply aI|refine aK (by kernel_rfl) ?_|apply aL|apply bC|apply bB|apply aO
     |((with_reducible first|apply aQ|apply aP|apply bA)<;>intro h<;>(try dsimp only[cu,eE,eN]at h)<;>(try(exfalso;omega)))
     |(
 intro yy (hy:Tag 74/\_)
 obtain⟨(k:Int),(M:List Val),_⟩:=yy
 replace hy:=hy.2
 dsimp only[cu,aB,aA,gts,eE,eN]at hy
 obtain⟨hk,hm,hml⟩:=hy)))
 all_goals(
 with_reducible apply Leaf.mk
 (try dsimp only[cu,aB,aA,gts,eE,eN]at *)
 rw[hm,List.take_of_length_le (by omega)])
abbrev qN8:Tbl:=(65,sY)::qN7
theorem TD:aC Tryz.prog qN8:=aC.cons QM TC
theorem qTS {s:Schema} {l:List Rec} (h:¬aX s=0):lP s l=(⟨#[]⟩,aX s):=by rw[lP,if_pos h]
theorem qTT {s:Schema} {l:List Rec} (h:aX s=0) (h1:l.length>1024):lP s l=(⟨#[]⟩,7):=by rw[lP,if_neg (fun q=>q h),if_pos h1]
theorem qQS {s:Schema} {l:List Rec} (h:aX s=0) (h1:¬l.length>1024) (h2:l.length=0\/dN s l=false):lP s l=(⟨#[]⟩,1):=by rw[lP,if_neg (fun q=>q h),if_neg h1,if_pos h2]
theorem qO5 {s:Schema} {l:List Rec} (h:aX s=0) (h1:¬l.length>1024) (h2:¬l.length=0) (h3:dN s l=true):lP s l=(IX s l,0):=by
 rw[lP,if_neg (fun q=>q h),if_neg h1,if_neg (by rintro(q|q);exact h2 q;rw[h3]at q;cases q)]
abbrev uY:Ct:=.fn [cG,.list iW] (some (fun(s:Schema) (l:List Rec)=>(l.length<=9223372036854775807)/\(wZ l))) (fun(s:Schema) (l:List Rec)=>.tup [.str,.int .i64] ((lP s l).1,(lP s l).2,()))
theorem VD:aG Tryz.prog 26 uY:=by
 refine aG.fn TD mixed [] [73] rfl rfl ?_;rintro⟨(s:Schema),(l:List Rec),_⟩ hpre;replace hpre:=hpre _ rfl;dsimp only[cu]at hpre;obtain⟨hl,hin⟩:=hpre;refine⟨[(0,24,LA.mk [.sl 54 (.int .i64),.row 1 [.osf 1,.own (.int .u8) (⟨5,1⟩:El)],.row 2 [.osf 2,.own (.int .u8) (⟨5,1⟩:El)]] (fun y=>Tag 75/\cu [.int .i64,.bool,.list (.int .u8),.bool,.list (.int .u8)] (fun(k:Int) (b1:Bool) (B:List Int) (b2:Bool) (F:List Int)=>(0<=k/\k<=(jF l (s.1.length:Int)++ [dS l]).length)/\(b2=true)/\(aN B=jC (chP s l k.toNat))/\(aN F=aN (four (idS s).1)++aN (put (l.length:Int))++jC ((chP s l k.toNat).map szB))/\((B.length:Int)<=4398046585379*k)/\(14<=(F.length:Int)+9/\(F.length:Int)<=14+10*k)) y) (cu [.int .i64,.bool,.list (.int .u8),.bool,.list (.int .u8)] (fun(k:Int) (b1:Bool) (B:List Int) (b2:Bool) (F:List Int)=>(((jF l (s.1.length:Int)++ [dS l]).length:Int)-k).toNat)) (cu [.int .i64,.bool,.list (.int .u8),.bool,.list (.int .u8)] (fun(k:Int) (b1:Bool) (B:List Int) (b2:Bool) (F:List Int)=>([]:List (Nat×Nat×LA))))),(0,44,LA.mk [.sl 84 (.int .i64),.row 2 [.osf 2,.own (.int .u8) (⟨5,1⟩:El)]] (fun y=>Tag 76/\cu [.int .i64,.bool,.list (.int .u8)] (fun(k:Int) (b2:Bool) (G:List Int)=>(0<=k/\k<=(gF s l).2.1.length)/\(b2=true)/\(aN G=aN (four (idS s).1)++aN (put (l.length:Int))++jC ((chnks s l).map szB)++jC (((gF s l).2.1.take k.toNat).map rH))/\(5<=(G.length:Int)/\(G.length:Int)<=144+2200000*k)) y) (cu [.int .i64,.bool,.list (.int .u8)] (fun(k:Int) (b2:Bool) (G:List Int)=>(((gF s l).2.1.length:Int)-k).toNat)) (cu [.int .i64,.bool,.list (.int .u8)] (fun(k:Int) (b2:Bool) (G:List Int)=>([]:List (Nat×Nat×LA)))))],?_⟩;repeat' (first
  |(
 with_reducible refine Side.mk ⟨(⟨⟩:Tag 75),?_⟩
 dsimp only[cu,aB,aA,gts,eE,eN]
 refine⟨?_,?_,?_,?_,?_,?_⟩
 ·omega
 ·rfl
 ·first
  |rfl
  |(
  have hv:=bF (s:=s) (l:=l) (jL (by with_reducible assumption))
  have hs:=aU (bS hv).1
  have hcl:=oI (s:=s) (l:=l) ⟨by omega,hs.1⟩
  obtain⟨c1,c2,c3,c4,c5,c6⟩:=oP hv hin (by omega) (by omega) (k:=k) (by omega)
  rw[c1,c5,bU,bE,hb,qO (by omega),fI,fJ])
 ·first
  |(
  have hul:=aS (n:=(l.length:Int)) (by omega)
  have p3:=aY (l.length:Int)
  have f4:∀v,(four v).length=4:=fun _=>rfl
  rw[bE,hul]
  exact(rT _).symm)
  |(
  have hv:=bF (s:=s) (l:=l) (jL (by with_reducible assumption))
  have hs:=aU (bS hv).1
  have hcl:=oI (s:=s) (l:=l) ⟨by omega,hs.1⟩
  obtain⟨c1,c2,c3,c4,c5,c6⟩:=oP hv hin (by omega) (by omega) (k:=k) (by omega)
  have hu:=aS (n:=((chnk s l k.toNat).size:Int)) (by omega)
  have p1:=aY ((chnk s l k.toNat).size:Int)
  rw[c1,c5,hu,bU,bE,hf,qO (by omega),List.map_append,fI,List.map_cons,List.map_nil,fJ,ByteArray.append_assoc]
  rfl)
 ·first
  |exact Int.le_refl _
  |(
  have hv:=bF (s:=s) (l:=l) (jL (by with_reducible assumption))
  have hs:=aU (bS hv).1
  have hcl:=oI (s:=s) (l:=l) ⟨by omega,hs.1⟩
  obtain⟨c1,c2,c3,c4,c5,c6⟩:=oP hv hin (by omega) (by omega) (k:=k) (by omega)
  rw[c1,c5]
  (try simp only[List.length_append,List.length_nil,aZ,ByteArray.size_append,aT])
  omega)
 ·first
  |(
  have hul:=aS (n:=(l.length:Int)) (by omega)
  have p3:=aY (l.length:Int)
  have f4:∀v,(four v).length=4:=fun _=>rfl
  rw[hul]
  (try simp only[List.length_append,List.length_nil,aZ,ByteArray.size_append,aT])
  rw[f4]
  omega)
  |(
  have hv:=bF (s:=s) (l:=l) (jL (by with_reducible assumption))
  have hs:=aU (bS hv).1
  have hcl:=oI (s:=s) (l:=l) ⟨by omega,hs.1⟩
  obtain⟨c1,c2,c3,c4,c5,c6⟩:=oP hv hin (by omega) (by omega) (k:=k) (by omega)
  have hu:=aS (n:=((chnk s l k.toNat).size:Int)) (by omega)
  have p1:=aY ((chnk s l k.toNat).size:Int)
  rw[c1,c5,hu]
  (try simp only[List.length_append,List.length_nil,aZ,ByteArray.size_append,aT])
  omega))
  |(
 with_reducible refine Side.mk ⟨(⟨⟩:Tag 76),?_⟩
 dsimp only[cu,aB,aA,gts,eE,eN]
 refine⟨?_,?_,?_,?_⟩
 ·omega
 ·rfl
 ·first
  |(
  have hv:=bF (s:=s) (l:=l) (jL (by with_reducible assumption))
  have hs:=aU (bS hv).1
  have hcl:=oI (s:=s) (l:=l) ⟨by omega,hs.1⟩
  first
  |(
   rw[hf,XE (by omega)];exact(rT _).symm)
  |(
   have zl:(gF s l).2.1.length=s.1.length:=FR;have zg:vO (gF s l).2.1[k.toNat]!:=FS hv hin (by omega) k ⟨hk.1,by with_reducible assumption⟩;have zs:=qA zg;rw[bU,bE,hg,qDY (by omega),ByteArray.append_assoc]))
 ·first
  |(
  have hv:=bF (s:=s) (l:=l) (jL (by with_reducible assumption))
  have hs:=aU (bS hv).1
  have hcl:=oI (s:=s) (l:=l) ⟨by omega,hs.1⟩
  first
  |omega
  |(
   have zl:(gF s l).2.1.length=s.1.length:=FR;have zg:vO (gF s l).2.1[k.toNat]!:=FS hv hin (by omega) k ⟨hk.1,by with_reducible assumption⟩;have zs:=qA zg;(try simp only[List.length_append,List.length_nil,aZ,ByteArray.size_append,aT]);omega)))
  |(
 with_reducible apply Side.mk
 (try dsimp only[cu,aB,aA,gts,loK,hiK,eE,eN])
 first
 |done
 |omega
 |exact Eq.refl _
 |simp only[List.length_append,List.length_cons,List.length_nil];omega
 |(
  have hv:=bF (s:=s) (l:=l) (jL (by with_reducible assumption));have hs:=aU (bS hv).1;have hcl:=oI (s:=s) (l:=l) ⟨by omega,hs.1⟩;first
  |omega
  |(
   have zl:(gF s l).2.1.length=s.1.length:=FR;omega))
 |(
  have hul:=aS (n:=(l.length:Int)) (by omega);have p3:=aY (l.length:Int);have f4:∀v,(four v).length=4:=fun _=>rfl
  first
  |(
   rw[hul];omega)
  |(
   (try simp only[List.length_append,List.length_nil,aZ,ByteArray.size_append,aT,f4]);rw[hul];omega))
 |(
  have hv:=bF (s:=s) (l:=l) (jL (by with_reducible assumption));have hs:=aU (bS hv).1;have hcl:=oI (s:=s) (l:=l) ⟨by omega,hs.1⟩;first
  |(
   obtain⟨c1,c2,c3,c4,c5,c6⟩:=oP hv hin (by omega) (by omega) (k:=k) (by omega);first
   |(
    rw[c1];exact⟨by omega,c3⟩)
   |(
    rw[c1,c5];(try simp only[List.length_append,List.length_nil,aZ,ByteArray.size_append,aT]);omega)
   |(
    have hu:=aS (n:=((chnk s l k.toNat).size:Int)) (by omega);have p1:=aY ((chnk s l k.toNat).size:Int);rw[c1,c5,hu];(try simp only[List.length_append,List.length_nil,aZ,ByteArray.size_append,aT]);omega))
  |(
   have zl:(gF s l).2.1.length=s.1.length:=FR;first
   |(
    have zg:vO (gF s l).2.1[k.toNat]!:=FS hv hin (by omega) k ⟨hk.1,by with_reducible assumption⟩;have zs:=qA zg;first
    |omega
    |(exact⟨⟨zg.1.2,zg.2.1.2⟩,⟨zg.2.2.1.2.1,by have:=zg.2.2.1.2.2;omega⟩,⟨zg.2.2.2.2.1,by have:=zg.2.2.2.2.2;omega⟩⟩))
   |(
    have hul:=aS (n:=(l.length:Int)) (by omega);have p3:=aY (l.length:Int);have f4:∀v,(four v).length=4:=fun _=>rfl
    have r1:vN s (gF s l).2.2.1:=eS hv hin (j:=0) (by omega);have r2:vN s (gF s l).2.2.2:=eS hv hin (j:=l.length-1) (by omega);have z1:=kU r1;have z2:=kU r2;have u9:(⟨#[77,80,84,49]⟩:ByteArray).size=4:=rfl;first
    |exact⟨⟨r1.2.2.1,r1.2.2.2⟩,r1.1.2.1,by have:=r1.1.2.2;omega⟩
    |exact⟨⟨r2.2.2.1,r2.2.2.2⟩,r2.1.2.1,by have:=r2.1.2.2;omega⟩
    |(
     (try simp only[List.length_append,List.length_nil,aZ,ByteArray.size_append,aT,f4]);omega)))))
  |(conv=>whnf
    first
     |with_reducible first|done|exact trivial|refine NilBr.mk (fun h=>?_) ?_|apply aJ|apply aI|refine aK (by kernel_rfl) ?_|apply aL|apply bC|apply bB|apply aO
     |((with_reducible first|apply aQ|apply aP|apply bA)<;>intro h<;>(try dsimp only[cu,eE,eN]at h)<;>(try(exfalso;omega)))
     |(
 intro yy (hy:Tag 75/\_)
 obtain⟨(k:Int),(b1:Bool),(B:List Int),(b2:Bool),(F:List Int),_⟩:=yy
 replace hy:=hy.2
 dsimp only[cu,aB,aA,gts,eE,eN]at hy
 obtain⟨hk,ht,hb,hf,hbz,hfz⟩:=hy
 subst ht
 rcases b1 with _|_)
     |(
 intro yy (hy:Tag 76/\_)
 obtain⟨(k:Int),(b2:Bool),(G:List Int),_⟩:=yy
 replace hy:=hy.2
 dsimp only[cu,aB,aA,gts,eE,eN]at hy
 obtain⟨hk,ht2,hg,hgz⟩:=hy
 subst ht2)))
 all_goals(
 with_reducible apply Leaf.mk
 (try dsimp only[cu,aB,aA,gts,eE,eN]at *)
 first
 |rw[qTS (by with_reducible assumption)]
 |rw[qTT (by with_reducible assumption) (by omega)]
 |rw[qQS (by with_reducible assumption) (by omega) (.inl (by omega))]
 |rw[qQS (by with_reducible assumption) (by omega) (.inr (qHR (by with_reducible assumption)))]
 |(
  have hv:=bF (s:=s) (l:=l) (jL (by with_reducible assumption));have hs:=aU (bS hv).1;have hcl:=oI (s:=s) (l:=l) ⟨by omega,hs.1⟩;first
  |(
   obtain⟨c1,c2,c3,c4,c5,c6⟩:=oP hv hin (by omega) (by omega) (k:=k) (by omega);rw[<-c1]at c4;exact absurd c4 (by with_reducible assumption))
  |(
   have zl:(gF s l).2.1.length=s.1.length:=FR;have hul:=aS (n:=(l.length:Int)) (by omega);have p3:=aY (l.length:Int);have f4:∀v,(four v).length=4:=fun _=>rfl
   have r1:vN s (gF s l).2.2.1:=eS hv hin (j:=0) (by omega);have r2:vN s (gF s l).2.2.2:=eS hv hin (j:=l.length-1) (by omega);have z1:=kU r1;have z2:=kU r2;have u9:(⟨#[77,80,84,49]⟩:ByteArray).size=4:=rfl;have hB:aN B=jC (chnks s l):=by rw[hb,XE (by omega)]
   rw[List.take_of_length_le (by omega)]at hg;have hF:aN (G++bH (cS (gF s l).2.2.1++cS (gF s l).2.2.2))=oR s l:=UN (bS hv).1 hg rfl;have hS:aN ((G++bH (cS (gF s l).2.2.1++cS (gF s l).2.2.2))++bH (aN (four (NN tV (aN (G++bH (cS (gF s l).2.2.1++cS (gF s l).2.2.2)))))))=oY (oR s l):=by
    rw[bU,bE,hF];rfl
   rw[qO5 (bS hv).1 (by omega) (by omega) (jL (by with_reducible assumption))];show _=FO (jC (chnks s l)) (oY (oR s l));rw[<-hB,<-hS,FO,aT,NQ ⟨by omega,by
    (try simp only[List.length_append,List.length_nil,aZ,ByteArray.size_append,aT,f4]);omega⟩])
  |(
   rw[qO5 (bS hv).1 (by omega) (by omega) (jL (by with_reducible assumption))];done)))
abbrev qN9:Tbl:=(26,uY)::qN8
theorem TE:aC Tryz.prog qN9:=aC.cons VD TD
def most (c:Col):Int:=if c.2.1=3 then 67 else 12
def stored (c:Col):Int:=if c.2.1=3 then 65 else 10
def AC (n:Int):List Col->Int
 | []=>0
 |c::l=>(16+2*most c+n*stored c+(n+7)/8)+AC n l
def iT (s:Schema) (n:Int):Int×Int:=if aX s≠0 then(0,aX s)else if n<1\/n>1024 then(0,4)else(192+10*n+(n+7)/8+AC n s.1,0)
theorem BM {n:Int} {l:List Col} {k:Int} (h:0<=k/\k<l.length):AC n (l.drop k.toNat)=(16+2*most l[k.toNat]! +n*stored l[k.toNat]! +(n+7)/8)+AC n (l.drop (k+1).toNat):=by
 rw[bJ l k h];rfl
abbrev yP:Ct:=.fn [cG,.int .i64] (none) (fun(s:Schema) (n:Int)=>.tup [.int .i64,.int .i64] ((iT s n).1,(iT s n).2,()))
theorem qDV:aG Tryz.prog 32 yP:=by
 refine aG.fn TE mixed [] [] rfl rfl ?_;rintro⟨(s:Schema),(n:Int),_⟩ -;refine⟨[(0,18,LA.mk [.sl 35 (.int .i64),.sl 8 (.int .i64)] (fun y=>Tag 77/\cu [.int .i64,.int .i64] (fun(k:Int) (w:Int)=>(0<=k/\k<=s.1.length)/\(iT s n=(w+AC n (s.1.drop k.toNat),0))/\(0<=w/\w<=20000+100000*k)) y) (cu [.int .i64,.int .i64] (fun(k:Int) (w:Int)=>((s.1.length:Int)-k).toNat)) (cu [.int .i64,.int .i64] (fun(k:Int) (w:Int)=>([]:List (Nat×Nat×LA)))))],?_⟩;repeat' (first
  |(
 with_reducible refine Side.mk ⟨(⟨⟩:Tag 77),?_⟩
 dsimp only[cu,aB,aA,gts,eE,eN]
 refine⟨?_,?_,?_⟩
 ·omega
 ·first
  |(
  have ht:=Int.tdiv_eq_ediv_of_nonneg (a:=n+7) (b:=8) (by omega)
  have hs:=aU (s:=s) (by with_reducible assumption)
  first
  |(
   rw[iT,if_neg (fun q=>q (by with_reducible assumption)),if_neg (by omega),ht];rfl)
  |(
   have e1:most s.1[k.toNat]! =67:=if_pos (by with_reducible assumption);have e2:stored s.1[k.toNat]! =65:=if_pos (by with_reducible assumption);rw[hw,BM (by omega),e1,e2,ht];exact Prod.ext (by simp only;omega) rfl)
  |(
   have e1:most s.1[k.toNat]! =12:=if_neg (by with_reducible assumption);have e2:stored s.1[k.toNat]! =10:=if_neg (by with_reducible assumption);rw[hw,BM (by omega),e1,e2,ht];exact Prod.ext (by simp only;omega) rfl))
 ·(
  have ht:=Int.tdiv_eq_ediv_of_nonneg (a:=n+7) (b:=8) (by omega);have hs:=aU (s:=s) (by with_reducible assumption);rw[ht];omega))
  |(
 with_reducible apply Side.mk
 (try dsimp only[cu,aB,aA,gts,loK,hiK,eE,eN])
 first
 |omega
 |(
  have ht:=Int.tdiv_eq_ediv_of_nonneg (a:=n+7) (b:=8) (by omega);have hs:=aU (s:=s) (by with_reducible assumption);rw[ht];omega)
 |(
  have hs:=aU (s:=s) (by with_reducible assumption);omega))
  |(conv=>whnf
    first
     |with_reducible first|done|exact trivial|refine NilBr.mk (fun h=>?_) ?_|apply aJ|apply aI|refine aK (by kernel_rfl) ?_|apply aL|apply bC|apply bB|apply aO
     |((with_reducible first|apply aQ|apply aP|apply bA)<;>intro h<;>(try dsimp only[cu,eE,eN]at h)<;>(try(exfalso;omega)))
     |(
 intro yy (hy:Tag 77/\_)
 obtain⟨(k:Int),(w:Int),_⟩:=yy
 replace hy:=hy.2
 dsimp only[cu,aB,aA,gts,eE,eN]at hy
 obtain⟨hk,hw,hwz⟩:=hy)))
 all_goals(
 with_reducible apply Leaf.mk
 (try dsimp only[cu,aB,aA,gts,eE,eN]at *)
 first
 |rw[iT,if_pos (by with_reducible assumption)]
 |rw[iT,if_neg (fun q=>q (by with_reducible assumption)),if_pos (by omega)]
 |(
  rw[hw,List.drop_eq_nil_of_le (by omega),AC];exact(Int.add_zero _).symm)
 |(rw[hw]))
abbrev qOA:Tbl:=(32,yP)::qN9
theorem qJD:aC Tryz.prog qOA:=aC.cons qDV TE
end Go.Proofs.YtcjiefknhfhmkaaGreatDoor
namespace Go.Abs
set_option maxRecDepth 100000
set_option maxHeartbeats 4000000
set_option linter.unusedVariables false
set_option linter.unusedSimpArgs false
inductive RI (p:Nat->Bool):V->Prop
 |v (x:Value):RI p (.v x)
 |any:RI p .any
 |pO {id:Nat} (row off:Nat):p id=true->RI p (.pO id row off)
 |sO {id:Nat} (off len:Nat):p id=true->RI p (.sO id off len)
 |pF {row:List V} (off:Nat):(∀x,x∈row->RI p x)->RI p (.pF row off)
 |sF (sz:Nat) {rows:List (List V)}:(∀r,r∈rows->∀x,x∈r->RI p x)->RI p (.sF sz rows)
 |agg {xs:List V}:(∀x,x∈xs->RI p x)->RI p (.agg xs)
 |tup {xs:List V}:(∀x,x∈xs->RI p x)->RI p (.tup xs)
 |fn {f:Fn} {a b:List V}:(∀x,x∈a->RI p x)->(∀x,x∈b->RI p x)->RI p (.fn f a b)
 |ifc {t:TypeId} {x:V}:RI p x->RI p (.ifc t x)
def ri (p:Nat->Bool):Nat->V->Bool
 |0,_=>false
 |n+1,x=>match x with
  | .v _=>true
  | .any=>true
  | .pO id _ _=>p id
  | .sO id _ _=>p id
  | .pF row _=>row.all (ri p n)
  | .sF _ rows=>rows.all fun r=>r.all (ri p n)
  | .agg xs=>xs.all (ri p n)
  | .tup xs=>xs.all (ri p n)
  | .fn _ a b=>a.all (ri p n)&&b.all (ri p n)
  | .ifc _ x=>ri p n x
  |_=>false
theorem ZA {p:Nat->Bool}:∀ {n:Nat} {x:V},ri p n x=true->RI p x
 |0,_,h=>by cases h
 |n+1,x,h=>by
  have l:∀ {xs:List V},xs.all (ri p n)=true->∀x,x∈xs->RI p x:=fun h x hx=>ZA (List.all_eq_true.1 h x hx)
  cases x with
  |v y=>exact .v y
  |any=>exact .any
  |pO id r o=>exact .pO r o h
  |sO id r o=>exact .sO r o h
  |pF row o=>exact .pF o (l h)
  |sF sz rows=>exact .sF sz fun r hr=>l (List.all_eq_true.1 (show rows.all (fun r=>r.all (ri p n))=true from h) r hr)
  |agg xs=>exact .agg (l h)
  |tup xs=>exact .tup (l h)
  |fn f a b=>obtain⟨h1,h2⟩:=Bool.and_eq_true_iff.1 (show(a.all (ri p n)&&b.all (ri p n))=true from h);exact .fn (l h1) (l h2)
  |ifc t x=>exact .ifc (ZA (n:=n) h)
  |sL t l=>cases h
  |oL i m=>cases h
theorem Rep.cutI {w:World} {p:Nat->Bool} {ι ι0:Iota} {M M0:Nat->Prop} (hi:∀id l,p id=true->ι id=some l->ι0 id=some l) (hM:∀b,M0 b->M b):∀ {x:V} {y:Value},Rep w ι M x y->RI p x->Rep w ι0 M0 x y:=by
 intro x y r;induction r with
 |v x=>intro _;exact .v x
 |any x=>intro _;exact .any x
 |pF row off b o cells hb hm hc _ ih=>intro h;cases h with|pF _ h=>exact .pF row off b o cells hb (fun q=>hm (hM _ q)) hc (fun j hj=>ih j hj (h _ (List.getElem_mem hj)))
 |pO id row off l hl=>intro h;cases h with|pO _ _ h=>exact .pO id row off l (hi _ _ h hl)
 |sF sz rows a cap cells hb hcap hr hc _ ih=>intro h;cases h with|sF _ h=>exact .sF sz rows a cap cells (fun hne=>⟨(hb hne).1,(hb hne).2.1,fun q=>(hb hne).2.2 (hM _ q)⟩) hcap hr hc (fun i hi j hj=>ih i hi j hj (h _ (List.getElem_mem hi) _ (List.getElem_mem hj)))
 |sN sz=>intro _;exact .sN sz
 |sO id off len cap l c e fr hl hcap hb hs=>intro h;cases h with|sO _ _ h=>exact .sO id off len cap l c e fr (hi _ _ h hl) hcap hb hs
 |agg xs vs hl _ ih=>intro h;cases h with|agg h=>exact .agg xs vs hl (fun i h1 h2=>ih i h1 h2 (h _ (List.getElem_mem h1)))
 |tup xs vs hl _ ih=>intro h;cases h with|tup h=>exact .tup xs vs hl (fun i h1 h2=>ih i h1 h2 (h _ (List.getElem_mem h1)))
 |fn f a b vs us h1 h2 _ _ ih1 ih2=>intro h;cases h with|fn ha hb=>exact .fn f a b vs us h1 h2 (fun i q1 q2=>ih1 i q1 q2 (ha _ (List.getElem_mem q1))) (fun i q1 q2=>ih2 i q1 q2 (hb _ (List.getElem_mem q1)))
 |ifc t x y _ ih=>intro h;cases h with|ifc h=>exact .ifc t x y (ih h)
 |sL t l y _ ih=>intro h;cases h
 |oL id m y _ ih=>intro h;cases h
theorem Rep.wideI {w:World} {ι ι2:Iota} {M M2:Nat->Prop} (hi:∀id l,ι id=some l->ι2 id=some l) (hM:∀b,M2 b->M b):∀ {x:V} {y:Value},Rep w ι M x y->Rep w ι2 M2 x y:=by
 intro x y r;induction r with
 |v x=>exact .v x
 |any x=>exact .any x
 |pF row off b o cells hb hm hc _ ih=>exact .pF row off b o cells hb (fun q=>hm (hM _ q)) hc ih
 |pO id row off l hl=>exact .pO id row off l (hi _ _ hl)
 |sF sz rows a cap cells hb hcap hr hc _ ih=>exact .sF sz rows a cap cells (fun hne=>⟨(hb hne).1,(hb hne).2.1,fun q=>(hb hne).2.2 (hM _ q)⟩) hcap hr hc ih
 |sN sz=>exact .sN sz
 |sO id off len cap l c e fr hl hcap hb hs=>exact .sO id off len cap l c e fr (hi _ _ hl) hcap hb hs
 |agg xs vs hl _ ih=>exact .agg xs vs hl ih
 |tup xs vs hl _ ih=>exact .tup xs vs hl ih
 |fn f a b vs us h1 h2 _ _ ih1 ih2=>exact .fn f a b vs us h1 h2 ih1 ih2
 |ifc t x y _ ih=>exact .ifc t x y ih
 |sL t l y _ ih=>exact .sL t l y ih
 |oL id m y _ ih=>exact .oL id m y ih
theorem PC.ext {P:Program} {f:FuncId} {args:List V} {x0:V} {S T:Nat->Bool} {h0 h1 k K:Heap}
  (hlK:K.length=k.length)
  (hargs:∀x,x∈args->RI S x) (hrows:∀(id:Nat) (o:AObj),h0[id]? =some (.live o)->∀r,r∈o.rows->∀x,x∈r->RI S x)
  (hS0:∀(id:Nat) (o:AObj),S id=false->h0[id]? ≠some (.live o)) (hk:∀id,S id=true->k[id]? =h0[id]?)
  (hST:∀id,S id=true->T id=true) (hT1:∀id,T id=false->h1[id]? =some .free\/h1[id]? =none) (hT2:∀id,T id=true->S id=false->k[id]? =some .free\/k[id]? =none)
  (hK:∀id,K[id]? =if T id=true then h1[id]? else k[id]?)
  (hc:PC P f args h0 (fun y k'=>y=x0/\k'=h1)):PC P f args k (fun y k'=>y=x0/\k'=K):=by
 intro ι w vals hp HR;let ι0:Iota:={at':=fun id=>if S id=true then ι id else none,X:=fun b=>ι.X b\/∃id o l,S id=false/\k[id]? =some (.live o)/\ι id=some l/\l.blk=b}
 have i0:∀id,ι0 id=if S id=true then ι id else none:=fun _=>rfl
 have i0s:∀id,S id=true->ι0 id=ι id:=fun id h=>by rw[i0,if_pos h]
 have i0n:∀id,S id=false->ι0 id=none:=fun id h=>by rw[i0,if_neg (by rw[h];simp)]
 have ob0:∀b,Ob h0 ι0 b->Ob k ι b:=by
  rintro b ⟨id,o,l,q1,q2,q3⟩;cases hs:S id with
  |true=>exact⟨id,o,l,by rw[hk id hs];exact q1,by rw[<-i0s id hs];exact q2,q3⟩
  |false=>exact(hS0 id o hs q1).elim
 have mt0:∀b,Mt h0 ι0 b->Mt k ι b:=by
  rintro b ((q|⟨id,o,l,_,q1,q2,q3⟩)|q)
  ·exact .inl q
  ·exact .inr ⟨id,o,l,q1,q2,q3⟩
  ·exact .inr (ob0 b q)
 have H0:HRel h0 ι0 w:=by
  refine⟨fun id o ho=>?_,fun id ho=>?_,fun id ho=>?_,fun id o l id' o' l' a1 a2 b1 b2 hb=>?_,fun b hb=>?_,fun b hb q=>?_⟩
  ·cases hs:S id with
   |false=>exact(hS0 id o hs ho).elim
   |true=>
    obtain⟨l,c,fr,q1,la⟩:=HR.live id o (by rw[hk id hs];exact ho);refine⟨l,c,fr,by rw[i0s id hs];exact q1,la.blk,la.unfrozen,la.sz,la.rows,la.fits,fun i hi j hj=>?_⟩;obtain⟨y,g1,g2⟩:=la.reads i hi j hj;exact⟨y,g1,g2.cutI (p:=S) (fun id l h e=>by rw[i0s id h];exact e) mt0 (hrows id o ho _ (List.getElem_mem hi) _ (List.getElem_mem hj))⟩
  ·cases hs:S id with
   |false=>exact i0n id hs
   |true=>rw[i0s id hs];exact HR.free id (by rw[hk id hs];exact ho)
  ·cases hs:S id with
   |false=>exact i0n id hs
   |true=>rw[i0s id hs];exact HR.out id (List.getElem?_eq_none_iff.1 (by rw[hk id hs];exact List.getElem?_eq_none_iff.2 ho))
  ·have sid:∀ {id:Nat} {l:Loc},ι0 id=some l->S id=true/\ι id=some l:=by
     intro id l e;cases hs:S id with
     |true=>exact⟨rfl,by rw[<-i0s id hs];exact e⟩
     |false=>rw[i0n id hs]at e;cases e
   obtain⟨s1,e1⟩:=sid a2;obtain⟨s2,e2⟩:=sid b2;exact HR.apart id o l id' o' l' (by rw[hk id s1];exact a1) e1 (by rw[hk id' s2];exact b1) e2 hb
  ·rcases hb with q|⟨id,o,l,_,q1,q2,q3⟩
   ·exact HR.xlt b q
   ·obtain⟨l',c,fr,g1,la⟩:=HR.live id o q1
    rw[q2]at g1;injection g1 with g1;subst g1;rw[<-q3];exact(Array.getElem?_eq_some_iff.1 la.blk).1
  ·rcases hb with q'|⟨id,o,l,s1,q1,q2,q3⟩
   ·exact HR.xob b q' (ob0 b q)
   ·obtain⟨id',o',l',g1,g2,g3⟩:=q
    cases hs:S id' with
    |false=>exact hS0 id' o' hs g1
    |true=>
     rw[i0s id' hs]at g2;have:=HR.apart id o l id' o' l' q1 q2 (by rw[hk id' hs];exact g1) g2 (q3.trans g3.symm);subst this;rw[hs]at s1;cases s1
 refine(hc ι0 w vals ⟨hp.1,fun i x hx=>let ⟨y,y1,y2⟩:=hp.2 i x hx;⟨y,y1,y2.cutI (p:=S) (fun id l h e=>by rw[i0s id h];exact e) mt0 (hargs x (bZ hx))⟩⟩ H0).mono ?_;rintro e w' ⟨y,x,h',ι',rfl,⟨rfl,rfl⟩,ry,H1,ev⟩;have hTn:∀id,T id=false->ι' id=none:=by
  intro id h;rcases hT1 id h with q|q
  ·exact H1.free id q
  ·exact H1.out id (List.getElem?_eq_none_iff.1 q)
 have hTk:∀id,T id=true->S id=false->ι id=none:=by
  intro id h1 h2;rcases hT2 id h1 h2 with q|q
  ·exact HR.free id q
  ·exact HR.out id (List.getElem?_eq_none_iff.1 q)
 let ι2:Iota:={at':=fun id=>if T id=true then ι' id else ι id,X:=ι.X}
 have i2:∀id,ι2 id=if T id=true then ι' id else ι id:=fun _=>rfl
 have i2t:∀id,T id=true->ι2 id=ι' id:=fun id h=>by rw[i2,if_pos h]
 have i2n:∀id,T id=false->ι2 id=ι id:=fun id h=>by rw[i2,if_neg (by rw[h];simp)]
 have Kt:∀id,T id=true->K[id]? =h'[id]?:=fun id h=>by rw[hK,if_pos h]
 have Kn:∀id,T id=false->K[id]? =k[id]?:=fun id h=>by rw[hK,if_neg (by rw[h];simp)]
 have nST:∀id,T id=false->S id=false:=fun id h=>by
  cases hs:S id with
  |false=>rfl
  |true=>rw[hST id hs]at h;cases h
 have up:∀id l,ι' id=some l->ι2 id=some l:=by
  intro id l e;cases h:T id with
  |true=>rw[i2t id h];exact e
  |false=>rw[hTn id h]at e;cases e
 have up0:∀id l,ι id=some l->ι2 id=some l:=by
  intro id l e;cases h:T id with
  |false=>rw[i2n id h];exact e
  |true=>
   rw[i2t id h];cases hs:S id with
   |true=>exact ev.iota id l (by rw[i0s id hs];exact e)
   |false=>rw[hTk id h hs]at e;cases e
 have hX:ι'.X=ι0.X:=ev.away;have obK:∀b,Ob K ι2 b->Ob h' ι' b\/∃id o l,T id=false/\k[id]? =some (.live o)/\ι id=some l/\l.blk=b:=by
  rintro b ⟨id,o,l,q1,q2,q3⟩;cases h:T id with
  |true=>exact .inl ⟨id,o,l,by rw[<-Kt id h];exact q1,by rw[<-i2t id h];exact q2,q3⟩
  |false=>exact .inr ⟨id,o,l,h,by rw[<-Kn id h];exact q1,by rw[<-i2n id h];exact q2,q3⟩
 have evk:Evolve k ι w K ι2 w':=by
  refine⟨ev.os,ev.tape,ev.output,ev.size,up0,rfl,fun b hb hn=>?_,ev.sizes⟩;obtain⟨q1,q2⟩:=ev.frame b hb (fun q=>hn (ob0 b q));refine⟨q1,fun q=>?_⟩;rcases obK b q with g|⟨id,o,l,_,g1,g2,g3⟩
  ·exact q2 g
  ·exact hn ⟨id,o,l,g1,g2,g3⟩
 have mtK:∀b,Mt K ι2 b->Mt h' ι' b:=by
  rintro b (q|q)
  ·exact .inl (by rw[hX];exact .inl q)
  ·rcases obK b q with g|⟨id,o,l,g0,g1,g2,g3⟩
   ·exact .inr g
   ·exact .inl (by rw[hX];exact .inr ⟨id,o,l,nST id g0,g1,g2,g3⟩)
 refine⟨y,x,K,ι2,rfl,⟨rfl,rfl⟩,ry.wideI up mtK,?_,evk⟩;have far:∀ {id:Nat} {o:AObj} {l:Loc},T id=false->k[id]? =some (.live o)->ι id=some l->ι'.X l.blk:=fun h q1 q2=>by rw[hX];exact .inr ⟨_,_,_,nST _ h,q1,q2,rfl⟩
 refine⟨fun id o ho=>?_,fun id ho=>?_,fun id ho=>?_,fun id o l id' o' l' a1 a2 b1 b2 hb=>?_,fun b hb=>Nat.lt_of_lt_of_le (HR.xlt b hb) ev.size,fun b hb q=>?_⟩
 ·cases h:T id with
  |true=>
   obtain⟨l,c,fr,q1,la⟩:=H1.live id o (by rw[<-Kt id h];exact ho);exact⟨l,c,fr,by rw[i2t id h];exact q1,la.blk,la.unfrozen,la.sz,la.rows,la.fits,fun i hi j hj=>let ⟨y,g1,g2⟩:=la.reads i hi j hj;⟨y,g1,g2.wideI up mtK⟩⟩
  |false=>
   have ho':k[id]? =some (.live o):=by rw[<-Kn id h];exact ho
   obtain⟨l,c,fr,q1,la⟩:=HR.live id o ho';have hlt:l.blk<w.heap.size:=(Array.getElem?_eq_some_iff.1 la.blk).1;have hno:¬Ob h0 ι0 l.blk:=H0.xob l.blk (by rw[<-hX];exact far h ho' q1);exact⟨l,c,fr,by rw[i2n id h];exact q1,(ev.frame l.blk hlt hno).1.trans la.blk,la.unfrozen,la.sz,la.rows,la.fits,fun i hi j hj=>let ⟨y,g1,g2⟩:=la.reads i hi j hj;⟨y,g1,g2.mono evk⟩⟩
 ·cases h:T id with
  |true=>rw[i2t id h];exact H1.free id (by rw[<-Kt id h];exact ho)
  |false=>rw[i2n id h];exact HR.free id (by rw[<-Kn id h];exact ho)
 ·have hk':k.length<=id:=by omega
  have hn:=HR.out id hk';cases h:T id with
  |false=>rw[i2n id h];exact hn
  |true=>
   rw[i2t id h];have:h'[id]? =none:=by rw[<-Kt id h];exact List.getElem?_eq_none_iff.2 ho
   exact H1.out id (List.getElem?_eq_none_iff.1 this)
 ·cases h:T id with
  |true=>
   rw[i2t id h]at a2;rw[Kt id h]at a1;cases h':T id' with
   |true=>rw[i2t id' h']at b2;rw[Kt id' h']at b1;exact H1.apart id o l id' o' l' a1 a2 b1 b2 hb
   |false=>
    rw[i2n id' h']at b2;rw[Kn id' h']at b1;exact(H1.xob l'.blk (far h' b1 b2) ⟨id,o,l,a1,a2,hb⟩).elim
  |false=>
   rw[i2n id h]at a2;rw[Kn id h]at a1;cases h':T id' with
   |true=>
    rw[i2t id' h']at b2;rw[Kt id' h']at b1;exact(H1.xob l.blk (far h a1 a2) ⟨id',o',l',b1,b2,hb.symm⟩).elim
   |false=>rw[i2n id' h']at b2;rw[Kn id' h']at b1;exact HR.apart id o l id' o' l' a1 a2 b1 b2 hb
 ·rcases obK b q with g|⟨id,o,l,g0,g1,g2,g3⟩
  ·exact H1.xob b (by rw[hX];exact .inl hb) g
  ·exact HR.xob b hb ⟨id,o,l,g1,g2,g3⟩
noncomputable section
inductive Tr (α:Type) where
 |nil
 |node (l:Tr α) (v:Option α) (r:Tr α)
namespace Tr
variable {α:Type}
def get (t:Tr α):Nat->Option α:=
 Tr.rec (motive:=fun _=>Nat->Option α) (fun _=>none)
  (fun _ v _ gl gr n=>bif Nat.beq n 0 then v else bif Nat.beq (n%2) 1 then gl (n/2)else gr (n/2-1)) t
def put (x:α) (ih:Tr α->Nat->Tr α) (l:Tr α) (v:Option α) (r:Tr α) (n:Nat):Tr α:=
 bif Nat.beq n 0 then .node l (some x) r else bif Nat.beq (n%2) 1 then .node (ih l (n/2)) v r else .node l v (ih r (n/2-1))
def qI2 (x:α) (f:Nat):Tr α->Nat->Tr α:=
 Nat.rec (motive:=fun _=>Tr α->Nat->Tr α) (fun t _=>t)
  (fun _ ih t=>Tr.rec (motive:=fun _=>Nat->Tr α) (put x ih .nil none .nil) (fun l v r _ _=>put x ih l v r) t) f
def set (t:Tr α) (n:Nat) (x:α):Tr α:=qI2 x (n+1) t n
theorem QA (l r:Tr α) (v:Option α) (n:Nat):(node l v r).get n=bif Nat.beq n 0 then v else bif Nat.beq (n%2) 1 then l.get (n/2)else r.get (n/2-1):=rfl
theorem get_nil (n:Nat):(nil:Tr α).get n=none:=rfl
theorem beq_no {a b:Nat} (h:a≠b):Nat.beq a b=false:=by
 cases q:Nat.beq a b with
 |false=>rfl
 |true=>exact absurd (Nat.eq_of_beq_eq_true q) h
theorem beq_yes (a:Nat):Nat.beq a a=true:=Nat.beq_refl a
theorem kG (l r:Tr α) (v:Option α) {n:Nat} (h:n%2=1):(node l v r).get n=l.get (n/2):=by
 rw[QA,beq_no (by omega),h,beq_yes];rfl
theorem kH (l r:Tr α) (v:Option α) {n:Nat} (h0:n≠0) (h:n%2≠1):(node l v r).get n=r.get (n/2-1):=by
 rw[QA,beq_no h0,beq_no h];rfl
theorem DS (x:α):∀(f:Nat) (t:Tr α) (n m:Nat),n<f->(qI2 x f t n).get m=if m=n then some x else t.get m
 |0,_,n,_,h=>absurd h (Nat.not_lt_zero n)
 |f+1,t,n,m,h=>by
  have key:∀(l r:Tr α) (v:Option α),(put x (qI2 x f) l v r n).get m=if m=n then some x else(node l v r).get m:=by
   intro l r v;unfold put;by_cases h0:n=0
   ·subst h0
    show(node l (some x) r).get m=_;by_cases m0:m=0
    ·subst m0;rfl
    ·rw[if_neg m0]
     by_cases m1:m%2=1
     ·rw[kG _ _ _ m1,kG _ _ _ m1]
     ·rw[kH _ _ _ m0 m1,kH _ _ _ m0 m1]
   rw[beq_no h0];by_cases h1:n%2=1
   ·rw[h1,beq_yes]
    show(node (qI2 x f l (n/2)) v r).get m=_;by_cases m0:m=0
    ·subst m0;rw[if_neg (fun q=>h0 q.symm)];rfl
    by_cases m1:m%2=1
    ·rw[kG _ _ _ m1,kG _ _ _ m1,DS x f l (n/2) (m/2) (by omega)]
     by_cases e:m=n
     ·rw[if_pos e,if_pos (by omega)]
     ·rw[if_neg e,if_neg (by omega)]
    ·rw[kH _ _ _ m0 m1,kH _ _ _ m0 m1,if_neg (by omega)]
   ·rw[beq_no h1]
    show(node l v (qI2 x f r (n/2-1))).get m=_;by_cases m0:m=0
    ·subst m0;rw[if_neg (fun q=>h0 q.symm)];rfl
    by_cases m1:m%2=1
    ·rw[kG _ _ _ m1,kG _ _ _ m1,if_neg (by omega)]
    ·rw[kH _ _ _ m0 m1,kH _ _ _ m0 m1,DS x f r (n/2-1) (m/2-1) (by omega)]
     by_cases e:m=n
     ·rw[if_pos e,if_pos (by omega)]
     ·rw[if_neg e,if_neg (by omega)]
  cases t with
  |node l v r=>exact key l r v
  |nil=>
   have e:=key nil nil none;have q:(node nil none nil:Tr α).get m=none:=by
    by_cases m0:m=0
    ·subst m0;rfl
    by_cases m1:m%2=1
    ·rw[kG _ _ _ m1];rfl
    ·rw[kH _ _ _ m0 m1];rfl
   rw[q]at e;exact e
theorem get_set (t:Tr α) (n m:Nat) (x:α):(t.set n x).get m=if m=n then some x else t.get m:=DS x (n+1) t n m (Nat.lt_succ_self n)
end Tr
structure RH where
 m:Nat
 nx:Nat
 t:Tr HS
 lg:List Nat
def RH.get (H:RH) (i:Nat):Option HS:=bif Nat.blt i H.m then some ((H.t.get i).getD .free)else none
def RH.set (H:RH) (i:Nat) (x:HS):RH:=⟨H.m,H.nx,H.t.set i x,H.lg⟩
def RH.den (H:RH):Heap:=(List.range H.m).map fun i=>(H.t.get i).getD .free
theorem LX (H:RH):H.den.length=H.m:=by simp [RH.den]
theorem iB {a b:Nat} (h:a<b):Nat.blt a b=true:=Nat.ble_eq_true_of_le h
theorem nC {a b:Nat} (h:¬a<b):Nat.blt a b=false:=by
 cases q:Nat.blt a b with
 |false=>rfl
 |true=>exact absurd (Nat.le_of_ble_eq_true q) h
theorem bP (H:RH) (i:Nat):H.den[i]? =H.get i:=by
 unfold RH.den RH.get;by_cases h:i<H.m
 ·rw[iB h,List.getElem?_map,List.getElem?_range h];rfl
 ·rw[nC h,List.getElem?_eq_none (by simpa using Nat.le_of_not_lt h)];rfl
theorem nX (H:RH) (i:Nat) (x:HS):(H.set i x).den=H.den.set i x:=by
 apply List.ext_getElem?;intro j;rw[bP,List.getElem?_set,bP,LX];show(bif Nat.blt j H.m then some (((H.t.set i x).get j).getD .free)else none)=_;by_cases h:j<H.m
 ·rw[iB h,Tr.get_set]
  by_cases e:i=j
  ·rw[if_pos e,if_pos e.symm,if_pos (by omega)];rfl
  ·rw[if_neg e,if_neg (fun q=>e q.symm)];simp only[RH.get,iB h]
 ·rw[nC h]
  split
  ·rw[if_neg (by omega)];rfl
  ·simp only[RH.get,nC h];rfl
def ralloc (H:RH) (new:Nat) (o:AObj):Option RH:=match H.get new with
 |some .free=>some (H.set new (.live o))
 |_=>none
theorem mV {H H':RH} {new:Nat} {o:AObj} (h:ralloc H new o=some H'):halloc H.den new o=some H'.den/\H'.m=H.m:=by
 unfold ralloc at h;split at h
 ·rename_i q
  injection h with h;subst h;unfold halloc;rw[bP,q,nX];exact⟨rfl,rfl⟩
 ·cases h
def qMB (H:RH):V->Option (List V×Nat)
 | .pF row off=>some (row,off)
 | .pO id r off=>match H.get id with
   |some (.live o)=>match o.rows[r]? with
    |some row=>some (row,off)
    |none=>none
   |_=>none
 |_=>none
theorem YO (H:RH) (p:V):rowAt H.den p=qMB H p:=by
 cases p<;>simp only[rowAt,qMB,bP]<;>rfl
def YN (P:Program) (H:RH) (t:TypeId) (p:V):Option V:=match qMB H p with
 |some (row,off)=>fM P t row off
 |none=>none
theorem RB {P:Program} {H:RH} {t:TypeId} {p x:V} (h:YN P H t p=some x):nP P H.den t p=some (x,H.den):=by
 unfold YN at h;unfold nP;rw[YO];split at h
 ·rename_i row off q;simp only[q,h]
 ·cases h
def qMA (H:RH) (new:Nat) (elem:TypeId) (x:V):Option (V×RH):=match leaves x with
 |some ls=>match ralloc H new ⟨ls.length,[ls],elem⟩with
  |some h'=>some (.pO new 0 0,h')
  |none=>none
 |none=>none
theorem YM {H H':RH} {new:Nat} {elem:TypeId} {x y:V} (h:qMA H new elem x=some (y,H')):OA H.den new elem x=some (y,H'.den)/\H'.m=H.m:=by
 unfold qMA at h;unfold OA;split at h
 ·rename_i ls hl
  split at h
  ·rename_i H2 e2
   injection h with h;injection h with h1 h2;subst h1 h2;obtain⟨a,b⟩:=mV e2;simp only[hl,a,b,and_self]
  ·cases h
 ·cases h
def VU (P:Program) (H:RH) (t:TypeId) (p x:V):Option RH:=match p,leaves x,bW P t with
 | .pO id r off,some ls,some n=>bif Nat.beq ls.length n&&ls.all dX then match H.get id with
     |some (.live o)=>match o.rows[r]? with
      |some row=>bif Nat.ble (off+n) row.length&&Nat.ble o.elem.fz 1 then some (H.set id (.live {o with rows:=o.rows.set r (row.take off++ls++row.drop (off+n))}))else none
      |none=>none
     |_=>none
   else none
 |_,_,_=>none
theorem qD2 {P:Program} {H H':RH} {t:TypeId} {p x:V} (h:VU P H t p x=some H'):lO P H.den t p x=some (.any,H'.den)/\H'.m=H.m:=by
 unfold VU at h;split at h
 ·rename_i id r off ls n hl hn
  cases q:(Nat.beq ls.length n&&ls.all dX)with
  |false=>rw[q]at h;cases h
  |true=>
   rw[q]at h;simp only[cond_true]at h;obtain⟨q1,q2⟩:=Bool.and_eq_true_iff.1 q;split at h
   ·rename_i o ho
    split at h
    ·rename_i row hr
     cases q3:(Nat.ble (off+n) row.length&&Nat.ble o.elem.fz 1)with
     |false=>rw[q3]at h;cases h
     |true=>
      rw[q3]at h;simp only[cond_true]at h;injection h with h;subst h;obtain⟨q4,q5⟩:=Bool.and_eq_true_iff.1 q3;unfold lO;simp only[hl,hn,bP,ho,hr,Nat.eq_of_beq_eq_true q1,q2,Nat.le_of_ble_eq_true q4,Nat.le_of_ble_eq_true q5,and_self,if_true,nX];exact⟨trivial,rfl⟩
    ·cases h
   ·cases h
 ·cases h
def rI (P:Program) (H:RH) (new:Nat) (t:TypeId) (len:Nat) (ps:List (Nat×V)):Option (V×RH):=
 match P.underlying t with
 |some (.slice elem)=>match bW P elem,cQ P elem with
  |some size,some zs=>bif Nat.beq zs.length size&&Nat.ble (len*size) 16777216 then
     match afill (fun i=>some (i*size,size)) (repl len zs) ps with
     |some ls=>match ralloc H new ⟨size,chunk size len ls,elem⟩with
      |some h'=>some (.sO new 0 len,h')
      |none=>none
     |none=>none
   else none
  |_,_=>none
 |_=>none
theorem EK {P:Program} {H H':RH} {new:Nat} {t:TypeId} {len:Nat} {ps:List (Nat×V)} {y:V} (h:rI P H new t len ps=some (y,H')):fP P H.den new t len ps=some (y,H'.den)/\H'.m=H.m:=by
 unfold rI at h;unfold fP;split at h
 ·rename_i elem hu
  split at h
  ·rename_i size zs h1 h2
   cases q:(Nat.beq zs.length size&&Nat.ble (len*size) 16777216)with
   |false=>rw[q]at h;cases h
   |true=>
    rw[q]at h;simp only[cond_true]at h;obtain⟨q1,q2⟩:=Bool.and_eq_true_iff.1 q;split at h
    ·rename_i ls hl
     split at h
     ·rename_i H2 h4
      injection h with h;injection h with h5 h6;subst h5 h6;obtain⟨a,b⟩:=mV h4;have q3:=Nat.le_of_ble_eq_true q2;simp only[hu,h1,h2];rw[if_pos ⟨Nat.eq_of_beq_eq_true q1,q3⟩];simp only[hl,a,b,and_self]
     ·cases h
    ·cases h
  ·cases h
 ·cases h
def uG (P:Program) (H:RH) (new:Nat) (t:TypeId) (l c:V):Option (V×RH):=
 match P.underlying t,jE l,jE c with
 |some (.slice elem),some n,some m=>match bW P elem,cQ P elem,oH P elem with
  |some size,some zs,some b=>if zs.length=size/\0<=n/\n<=m/\m<=2^48/\b*m<=2^48 then
     match ralloc H new ⟨size,List.replicate n.toNat zs,elem⟩with
     |some h'=>some (.sO new 0 n.toNat,h')
     |none=>none
   else none
  |_,_,_=>none
 |_,_,_=>none
theorem GF {P:Program} {H H':RH} {new:Nat} {t:TypeId} {l c y:V} (h:uG P H new t l c=some (y,H')):cY P H.den new t l c=some (y,H'.den)/\H'.m=H.m:=by
 unfold uG at h;unfold cY;split at h
 ·rename_i e n m h1 h2 h3
  split at h
  ·rename_i s zs b h4 h5 h6
   split at h
   ·rename_i hc
    split at h
    ·rename_i H2 h7
     injection h with h;injection h with h8 h9;subst h8 h9;obtain⟨a,b⟩:=mV h7;simp only[h1,h2,h3,h4,h5,h6];rw[if_pos hc];simp only[a,b,and_self]
    ·cases h
   ·cases h
  ·cases h
 ·cases h
def uF (P:Program) (H:RH) (t:TypeId) (x i:V):Option V:=
 match x with
 | .sO id off len=>match jE i with
   |none=>none
   |some n=>match P.underlying t with
    |some (.slice elem)=>match bW P elem with
     |none=>none
     |some s=>match H.get id with
      |some (.live o)=>if o.sz=s/\0<=n/\n<len then some (.pO id (off+n.toNat) 0)else none
      |_=>none
    |_=>none
 |x=>match bY P [] t x i with
  |some (y,_)=>some y
  |none=>none
theorem GE {P:Program} {H:RH} {t:TypeId} {x i y:V} (h:uF P H t x i=some y):bY P H.den t x i=some (y,H.den):=by
 unfold uF at h;split at h
 ·split at h
  ·cases h
  ·rename_i n hn
   split at h
   ·rename_i e hu
    split at h
    ·cases h
    ·rename_i s hs
     split at h
     ·rename_i o ho
      split at h
      ·rename_i hc
       injection h with h;subst h;unfold bY;simp only[hn,hu,hs,bP,ho,hc,and_self,if_true]
      ·cases h
     ·cases h
   ·cases h
 ·rename_i hx
  split at h
  ·rename_i z k hz
   injection h with h;subst h;unfold bY at hz ⊢;(repeat' split at hz)<;>simp_all
  ·cases h
def VT (P:Program) (H:RH) (t:TypeId) (x:V) (lo hi:Option V):Option V:=
 match x with
 | .sO id off len=>match P.underlying t,bound lo 0,bound hi len with
   |some (.slice elem),some l,some u=>match bW P elem,H.get id with
    |some s,some (.live o)=>bif Nat.beq o.sz s&&Nat.ble l u&&Nat.ble u len then
       bif Nat.beq l u && !Nat.beq l 0 then some (.sF s [])else some (.sO id (off+l) (u-l))
     else none
    |_,_=>none
   |_,_,_=>none
 |x=>match eG P [] t x lo hi with
  |some (y,_)=>some y
  |none=>none
theorem qD1 {P:Program} {H:RH} {t:TypeId} {x y:V} {lo hi:Option V} (h:VT P H t x lo hi=some y):eG P H.den t x lo hi=some (y,H.den):=by
 unfold VT at h;split at h
 ·split at h
  ·rename_i e l u h1 h2 h3
   split at h
   ·rename_i s o h4 h5
    unfold eG;simp only[h1,h2,h3,h4,h5,bP];cases q:(Nat.beq o.sz s&&Nat.ble l u&&Nat.ble u _)with
    |false=>rw[q]at h;cases h
    |true=>
     rw[q]at h;simp only[cond_true]at h;obtain⟨q1,q2⟩:=Bool.and_eq_true_iff.1 q;obtain⟨q3,q4⟩:=Bool.and_eq_true_iff.1 q1;rw[if_pos ⟨Nat.eq_of_beq_eq_true q3,Nat.le_of_ble_eq_true q4,Nat.le_of_ble_eq_true q2⟩];cases q5:(Nat.beq l u && !Nat.beq l 0)with
     |true=>
      rw[q5]at h;injection h with h;subst h;obtain⟨q6,q7⟩:=Bool.and_eq_true_iff.1 q5;rw[if_pos ⟨Nat.eq_of_beq_eq_true q6,fun e=>by rw[e]at q7;cases q7⟩]
     |false=>
      rw[q5]at h;injection h with h;subst h;rw[if_neg];rintro⟨a,b⟩;rw[a,Tr.beq_yes,Tr.beq_no (by rw[<-a];exact b)]at q5;cases q5
   ·cases h
  ·cases h
 ·rename_i hx
  split at h
  ·rename_i z k hz
   injection h with h;subst h;unfold eG at hz ⊢;(repeat' split at hz)<;>simp_all
  ·cases h
def RC (H:RH) (s:Nat) (y:V):Option (List (List V)):=
 match y with
 | .sF sz rows=>if sz=s then some rows else none
 | .sO id off len=>match H.get id with
   |some (.live o)=>if o.sz=s/\off+len<=o.rows.length then some ((o.rows.drop off).take len)else none
   |_=>none
 | .v (.slice none 0 0)=>some []
 | .v (.string b)=>if s=1 then some (b.data.toList.map iR)else none
 |_=>none
theorem EN (H:RH) (s:Nat) (y:V):cD H.den s y=RC H s y:=by
 unfold cD RC;simp only[bP];rfl
def EJ (H:RH) (new:Nat) (elem:TypeId) (s b:Nat) (zs:List V) (x:V) (rows:List (List V)):Option (V×RH):=
 bif rows.isEmpty then
  match x with
  | .v q=>if eJ (.v q)then some (.v q,H)else none
  | .sF a c=>some (.sF a c,H)
  | .sO a c d=>some (.sO a c d,H)
  |_=>none
 else bif Nat.beq zs.length s&&rows.all (·.all dX)then
  match x with
  | .v q=>if eJ (.v q)/\lS rows.length b=true then
      match ralloc H new ⟨s,rows,⟨elem,1⟩⟩with
      |some h'=>some (.sO new 0 rows.length,h')
      |none=>none
    else none
  | .sO id off len=>match H.get id with
    |some (.live o)=>if o.sz=s/\qFL o.elem elem off (len*s)/\off+len<=o.rows.length/\lS (len+rows.length) b=true then
       match ralloc (H.set id .dead) new ⟨s,(o.rows.drop off).take len++rows,o.elem⟩with
       |some h'=>some (.sO new 0 (len+rows.length),h')
       |none=>none
     else none
    |_=>none
  |_=>none
 else none
theorem QW {P:Program} {H H':RH} {new:Nat} {elem:TypeId} {s b:Nat} {zs:List V} {x y:V} {rows:List (List V)} (h:EJ H new elem s b zs x rows=some (y,H')):bN P H.den new elem s b zs x rows=some (y,H'.den)/\H'.m=H.m:=by
 unfold EJ at h;unfold bN;cases q:rows.isEmpty with
 |true=>
  rw[q]at h;simp only[cond_true]at h;simp only[if_true];split at h
  ·split at h
   ·rename_i hc
    injection h with h;injection h with h1 h2;subst h1 h2;exact⟨if_pos hc,rfl⟩
   ·cases h
  ·injection h with h;injection h with h1 h2;subst h1 h2;exact⟨rfl,rfl⟩
  ·injection h with h;injection h with h1 h2;subst h1 h2;exact⟨rfl,rfl⟩
  ·cases h
 |false=>
  rw[q]at h;simp only[cond_false]at h;rw[if_neg (by simp)];cases q2:(Nat.beq zs.length s&&rows.all (·.all dX))with
  |false=>rw[q2]at h;cases h
  |true=>
   rw[q2]at h;simp only[cond_true]at h;obtain⟨q3,q4⟩:=Bool.and_eq_true_iff.1 q2;rw[if_pos ⟨Nat.eq_of_beq_eq_true q3,q4⟩];split at h
   ·split at h
    ·rename_i hc
     split at h
     ·rename_i H2 e2
      injection h with h;injection h with h1 h2;subst h1 h2;obtain⟨a,b⟩:=mV e2;simp only;rw[if_pos hc];simp only[a,b,and_self]
     ·cases h
    ·cases h
   ·split at h
    ·rename_i o ho
     split at h
     ·rename_i hc
      split at h
      ·rename_i H2 e2
       injection h with h;injection h with h1 h2;subst h1 h2;obtain⟨a,b⟩:=mV e2;rw[nX]at a;simp only[bP,ho];rw[if_pos hc];simp only[a,b,true_and];rfl
      ·cases h
     ·cases h
    ·cases h
   ·cases h
def NA (P:Program) (H:RH) (new:Nat) (argTypes:Array TypeId) (x y:V):Option (V×RH):=
 match argTypes[0]?,argTypes[1]? with
 |some sT,some xT=>match P.underlying sT with
  |some (.slice elem)=>bif fY P xT then(match bW P elem,oH P elem,cQ P elem with
   |some s,some b,some zs=>match RC H s y with
    |some rows=>EJ H new elem s b zs x rows
    |none=>none
   |_,_,_=>none)else none
  |_=>none
 |_,_=>none
theorem VP {P:Program} {H H':RH} {new:Nat} {tys:Array TypeId} {x y z:V} (h:NA P H new tys x y=some (z,H')):eO P H.den new tys x y=some (z,H'.den)/\H'.m=H.m:=by
 unfold NA at h;unfold eO;split at h
 ·rename_i sT xT h1 h2
  split at h
  ·rename_i e hu
   cases q:fY P xT with
   |false=>rw[q]at h;cases h
   |true=>
    rw[q]at h;simp only[cond_true]at h;split at h
    ·rename_i s b zs h3 h4 h5
     split at h
     ·rename_i rows hr
      have:=QW (P:=P) h;simp only[h1,h2,hu,q,if_true,kY,h3,h4,h5,EN,hr];exact this
     ·cases h
    ·cases h
  ·cases h
 ·cases h
def VQ (P:Program) (H:RH) (t:TypeId) (x:V):Option RH:=
 match P.underlying t with
 |some (.slice elem)=>match x with
  | .sF _ []=>some H
  | .v (.slice none 0 0)=>some H
  | .sO id off len=>match H.get id,cQ P elem with
    |some (.live o),some zs=>if len=0 then some H else if zs.length=o.sz/\off+len<=o.rows.length/\zs.all dX=true/\o.elem.fz<=1 then
       some (H.set id (.live (gQ o off (List.replicate len zs))))
     else none
    |_,_=>none
  |_=>none
 |_=>none
theorem qD0 {P:Program} {H H':RH} {t:TypeId} {x:V} (h:VQ P H t x=some H'):mZ P H.den t x=some (.tup [],H'.den)/\H'.m=H.m:=by
 unfold VQ at h;unfold mZ;split at h
 ·rename_i e hu
  split at h
  ·injection h with h;subst h;simp only[hu];exact⟨trivial,trivial⟩
  ·injection h with h;subst h;simp only[hu];exact⟨trivial,trivial⟩
  ·split at h
   ·rename_i o zs h1 h2
    split at h
    ·rename_i h0
     injection h with h;subst h;simp only[hu,bP,h1,h2,h0,if_true,and_self]
    ·rename_i h0
     split at h
     ·rename_i hc
      injection h with h;subst h;simp only[hu,bP,h1,h2,h0,if_false,nX];rw[if_pos hc];exact⟨rfl,rfl⟩
     ·cases h
   ·cases h
  ·cases h
 ·cases h
def qH5 (P:Program) (H:RH) (t:TypeId) (x y:V):Option (V×RH):=
 match P.underlying t with
 |some (.slice elem)=>match bW P elem with
  |some s=>match RC H s y with
   |some rows=>match x with
    | .sF _ []=>some (.v (.int .i64 0),H)
    | .v (.slice none 0 0)=>some (.v (.int .i64 0),H)
    | .sO id off len=>match H.get id with
      |some (.live o)=>if o.sz=s/\off+len<=o.rows.length/\(rows.take len).all (·.all dX)=true/\o.elem.fz<=1 then
         some (.v (.int .i64 (rows.take len).length),H.set id (.live (gQ o off (rows.take len))))
       else none
      |_=>none
    |_=>none
   |none=>none
  |none=>none
 |_=>none
theorem qH6 {P:Program} {H H':RH} {t:TypeId} {x y z:V} (h:qH5 P H t x y=some (z,H')):sS P H.den t x y=some (z,H'.den)/\H'.m=H.m:=by
 unfold qH5 at h;unfold sS;split at h
 ·rename_i e hu
  split at h
  ·rename_i s hs
   split at h
   ·rename_i rows hr
    simp only[hu,hs,EN,hr];split at h
    ·injection h with h;injection h with h1 h2;subst h1 h2;exact⟨rfl,rfl⟩
    ·injection h with h;injection h with h1 h2;subst h1 h2;exact⟨rfl,rfl⟩
    ·split at h
     ·rename_i o ho
      split at h
      ·rename_i hc
       injection h with h;injection h with h1 h2;subst h1 h2;simp only[bP,ho,nX];rw[if_pos hc];exact⟨rfl,rfl⟩
      ·cases h
     ·cases h
    ·cases h
   ·cases h
  ·cases h
 ·cases h
def kK (H:RH) (x:V):Option V:=match RC H 1 x with
 |some rows=>match bytesOf rows with
  |some bs=>some (str bs)
  |none=>none
 |none=>none
theorem NB {H:RH} {x y:V} (h:kK H x=some y):cW H.den x=some (y,H.den):=by
 unfold kK at h;unfold cW;rw[EN];split at h
 ·rename_i rows h1
  split at h
  ·rename_i bs h2
   injection h with h;subst h;simp only[h1,h2]
  ·cases h
 ·cases h
def oS (P:Program) (t:TypeId):Bool:=match P.underlying t with
 |some (.slice e)=>match P.underlying e with
  |some (.int .u8)=>true
  |_=>false
 |_=>false
def zJ (H:RH):Option V->Option (V×RH)
 |some x=>some (x,H)
 |none=>none
def EM (P:Program) (H:RH) (new:Nat) (src dst:TypeId) (x:V):Option (V×RH):=
 match P.underlying dst,x with
 |some (.slice e),.v (.string b)=>match P.underlying src,P.underlying e with
  |some .string,some (.int .u8)=>match ralloc H new ⟨1,b.data.toList.map iR,e⟩with
   |some h'=>some (.sO new 0 b.size,h')
   |none=>none
  |_,_=>none
 |some .string,.v (.slice none 0 0)=>bif oS P src then zJ H (kK H x)else none
 |some .string,.sF _ _=>bif oS P src then zJ H (kK H x)else none
 |some .string,.sO _ _ _=>bif oS P src then zJ H (kK H x)else none
 |some .unsafePointer,.pO id r 0=>match P.underlying src,H.get id with
  |some (.pointer t),some (.live o)=>bif qJO P t o r then some (.pO id r 0,H)else none
  |_,_=>none
 |some (.pointer u),.pO id r 0=>match P.underlying src,H.get id with
  |some .unsafePointer,some (.live o)=>bif DQ P u o r then some (.pO id r 0,H)else none
  |_,_=>none
 |_,.v y=>match aM P (convert src dst y)with
  |some z=>some (ofValue z,H)
  |none=>none
 |_,_=>none
theorem QZ {P:Program} {H H':RH} {new:Nat} {s d:TypeId} {x y:V} (h:EM P H new s d x=some (y,H')):cO P H.den new s d x=some (y,H'.den)/\H'.m=H.m:=by
 have bs:∀ {z:V},(bif oS P s then zJ H (kK H z)else none)=some (y,H')->∃e,P.underlying s=some (.slice e)/\P.underlying e=some (.int .u8)/\cW H.den z=some (y,H.den)/\H'=H:=by
  intro z q;cases hb:oS P s with
  |false=>rw[hb]at q;cases q
  |true=>
   rw[hb]at q;simp only[cond_true]at q;unfold oS at hb;split at hb
   ·rename_i e he
    split at hb
    ·rename_i he2
     cases hr:kK H z with
     |none=>rw[hr]at q;cases q
     |some u=>
      rw[hr]at q;injection q with q;injection q with q1 q2;subst q1 q2;exact⟨e,he,he2,NB hr,rfl⟩
    ·cases hb
   ·cases hb
 unfold EM at h;unfold cO;split at h
 ·rename_i e b hd
  split at h
  ·rename_i h1 h2
   split at h
   ·rename_i H2 h3
    injection h with h;injection h with h4 h5;subst h4 h5;obtain⟨a,c⟩:=mV h3;simp only[hd,h1,h2,nB,a,c,and_self]
   ·cases h
  ·cases h
 ·rename_i hd
  obtain⟨e,e1,e2,e3,rfl⟩:=bs h;simp only[hd,e1,e2,e3,and_self]
 ·rename_i hd
  obtain⟨e,e1,e2,e3,rfl⟩:=bs h;simp only[hd,e1,e2,e3,and_self]
 ·rename_i hd
  obtain⟨e,e1,e2,e3,rfl⟩:=bs h;simp only[hd,e1,e2,e3,and_self]
 ·rename_i hd
  split at h
  ·rename_i t o h1 h2
   cases q:qJO P t o _ with
   |false=>rw[q]at h;cases h
   |true=>
    rw[q]at h;injection h with h;injection h with h4 h5;subst h4 h5;simp only[hd,h1,bP,h2,q,and_self]
  ·cases h
 ·rename_i hd
  split at h
  ·rename_i o h1 h2
   cases q:DQ P _ o _ with
   |false=>rw[q]at h;cases h
   |true=>
    rw[q]at h;injection h with h;injection h with h4 h5;subst h4 h5;simp only[hd,h1,bP,h2,q,and_self]
  ·cases h
 ·rename_i q n1 n2
  split at h
  ·rename_i z hz
   injection h with h;injection h with h4 h5;subst h4 h5;refine⟨?_,rfl⟩;split
   ·rename_i el b hd q1;injection q1 with q1;exact(n1 el b hd q1).elim
   ·rename_i hd q1;injection q1 with q1;exact(n2 hd q1).elim
   ·rename_i q1;cases q1
   ·rename_i q1;cases q1
   ·rename_i q1;cases q1
   ·rename_i q1;cases q1
   ·rename_i q1 _ _;injection q1 with q1;subst q1;rw[hz]
   ·rename_i n6 _ _ _;first|exact(n6 q rfl).elim|simp_all
  ·cases h
 ·cases h
def KB (H:RH):Option (V×Heap)->Option (V×RH)
 |some (x,_)=>some (x,H)
 |none=>none
def EL (P:Program) (H:RH) (new:Nat) (b:Builtin) (argTypes:Array TypeId) (xs:List V):Option (V×RH):=
 match b,xs with
 | .append,[x,y]=>bif Nat.beq argTypes.size 2 then NA P H new argTypes x y else none
 | .clear,[x]=>match argTypes with
   |⟨[t]⟩=>match VQ P H t x with
    |some h=>some (.tup [],h)
    |none=>none
   |_=>none
 | .copy,[x,y]=>match argTypes with
   |⟨[t,_]⟩=>qH5 P H t x y
   |_=>none
 | .append,_=>none
 | .clear,_=>none
 | .copy,_=>none
 |b,xs=>KB H (eU P [] 0 b argTypes xs)
theorem QX {P:Program} {H H':RH} {new:Nat} {b:Builtin} {tys:Array TypeId} {xs:List V} {y:V} (h:EL P H new b tys xs=some (y,H')):eU P H.den new b tys xs=some (y,H'.den)/\H'.m=H.m:=by
 unfold EL at h;split at h
 ·rename_i x z
  cases q:Nat.beq tys.size 2 with
  |false=>rw[q]at h;cases h
  |true=>
   rw[q]at h;have:=VP h;simp only[eU,Nat.eq_of_beq_eq_true q,if_true];exact this
 ·rename_i x
  split at h
  ·rename_i t
   split at h
   ·rename_i H2 h2
    injection h with h;injection h with h4 h5;subst h4 h5;exact qD0 h2
   ·cases h
  ·cases h
 ·rename_i x z
  split at h
  ·exact qH6 h
  ·cases h
 ·cases h
 ·cases h
 ·cases h
 ·rename_i n1 n2 n3 n4 n5 n6
  cases e:eU P [] 0 b tys xs with
  |none=>rw[e]at h;cases h
  |some r=>
   obtain⟨x,k⟩:=r;rw[e]at h;injection h with h;injection h with h4 h5;subst h4 h5;refine⟨?_,rfl⟩;unfold eU at e ⊢;split at e
   ·split at e
    ·simp only[zZ]at e ⊢
     (repeat' split at e)<;>simp_all
    ·cases e
   ·first|exact(n1 _ _ rfl rfl).elim|simp_all
   ·first|exact(n2 _ rfl rfl).elim|simp_all
   ·first|exact(n3 _ _ rfl rfl).elim|simp_all
   ·simp only[kR]at e ⊢
    (repeat' split at e)<;>simp_all
   ·simp only[kR]at e ⊢
    (repeat' split at e)<;>simp_all
   ·cases e
def rop (P:Program) (op:Op) (ρ:Operand->V) (H:RH) (new:Nat):Option (V×RH):=
 match op with
 | .load t p=>zJ H (YN P H t (ρ p))
 | .store t p x=>match VU P H t (ρ p) (ρ x)with
   |some h=>some (.any,h)
   |none=>none
 | .indexAddr t x i=>zJ H (uF P H t (ρ x) (ρ i))
 | .call ⟨callee,args,tys⟩=>match callee with
   | .builtin b=>EL P H new b tys (args.toList.map ρ)
   | .value f=>KB H (uN P [] (ρ f) (args.toList.map ρ))
   |_=>none
 | .convert s d x=>EM P H new s d (ρ x)
 | .slice t x lo hi none=>(match ρ x with
   | .v y=>KB H (aop P (.slice t x lo hi none) ρ [] 0)
   |x=>zJ H (VT P H t x (lo.map ρ) (hi.map ρ)))
 | .box e x=>qMA H new e (ρ x)
 | .alloc e=>match TN P e with
   |some z=>qMA H new e z
   |none=>none
 | .buildSlice t n ps=>rI P H new t n (ps.toList.map fun p=>(p.1,ρ p.2))
 | .makeSlice t l c=>uG P H new t (ρ l) (ρ c)
 |op=>KB H (aop P op ρ [] 0)
theorem tY {H H':RH} {r:Option V} {x:V} (h:zJ H r=some (x,H')):r=some x/\H'=H:=by
 cases r with
 |none=>cases h
 |some y=>injection h with h;injection h with h1 h2;subst h1 h2;exact⟨rfl,rfl⟩
theorem VR {H H':RH} {r:Option (V×Heap)} {x:V} (h:KB H r=some (x,H')):(∃k,r=some (x,k))/\H'=H:=by
 cases r with
 |none=>cases h
 |some y=>obtain⟨y,k⟩:=y;injection h with h;injection h with h1 h2;subst h1 h2;exact⟨⟨k,rfl⟩,rfl⟩
theorem qPJ {P:Program} {op:Op} {ρ:Operand->V} {H H':RH} {new:Nat} {x:V} (h:rop P op ρ H new=some (x,H')):aop P op ρ H.den new=some (x,H'.den)/\H'.m=H.m:=by
 have neut:(∀ {k:Heap},aop P op ρ [] 0=some (x,k)->aop P op ρ H.den new=some (x,H.den))->KB H (aop P op ρ [] 0)=some (x,H')->aop P op ρ H.den new=some (x,H'.den)/\H'.m=H.m:=by
  intro f q;obtain⟨⟨k,hk⟩,rfl⟩:=VR q;exact⟨f hk,rfl⟩
 cases op with
 |load t p=>
  obtain⟨h1,rfl⟩:=tY h;exact⟨RB h1,rfl⟩
 |store t p y=>
  simp only[rop]at h;split at h
  ·rename_i H2 h2
   injection h with h;injection h with h4 h5;subst h4 h5;exact qD2 h2
  ·cases h
 |indexAddr t y i=>
  obtain⟨h1,rfl⟩:=tY h;exact⟨GE h1,rfl⟩
 |call c=>
  obtain⟨callee,args,tys⟩:=c;cases callee with
  |builtin b=>exact QX h
  |value f=>
   refine neut (fun e=>?_) h;simp only[aop,uN]at e ⊢;(repeat' split at e)<;>simp_all
  |_=>cases h
 |convert s d y=>exact QZ h
 |slice t y lo hi mx=>
  cases mx with
  |some m=>exact neut (fun e=>by cases e) h
  |none=>
   simp only[rop]at h;split at h
   ·rename_i z hz
    refine neut (fun e=>?_) h;simp only[aop,hz]at e ⊢;(repeat' split at e)<;>simp_all
   ·rename_i hz
    obtain⟨h1,rfl⟩:=tY h;have:=qD1 h1;refine⟨?_,rfl⟩;cases hy:ρ y with
    |v z=>exact(hz z hy).elim
    |_=>simp only[aop,hy];rw[hy]at this;exact this
 |box e y=>exact YM h
 |alloc e=>
  simp only[rop]at h;split at h
  ·rename_i z hz
   have:=YM h;simp only[aop,tP,hz];exact this
  ·cases h
 |buildSlice t n ps=>exact EK h
 |makeSlice t l c=>exact GF h
 |build t ps=>
  refine neut (fun e=>?_) h;have:pE P H.den t (ps.toList.map fun p=>(p.1,ρ p.2))=(pE P [] t (ps.toList.map fun p=>(p.1,ρ p.2))).map fun p=>(p.1,H.den):=by
   generalize (ps.toList.map fun p=>(p.1,ρ p.2))=l;unfold pE;(repeat' split)<;>simp_all
  simp only[aop]at e ⊢;rw[this,e];rfl
 |field s y f=>
  refine neut (fun e=>?_) h;simp only[aop,BC]at e ⊢;(repeat' split at e)<;>simp_all
 |fieldAddr s y f=>
  refine neut (fun e=>?_) h;simp only[aop,nA]at e ⊢;(repeat' split at e)<;>simp_all
 |index t y i=>
  refine neut (fun e=>?_) h;simp only[aop,lN]at e ⊢;(repeat' split at e)<;>simp_all
 |extract y i=>
  refine neut (fun e=>?_) h;simp only[aop,qJ]at e ⊢;(repeat' split at e)<;>simp_all
 |nilCheck y=>
  refine neut (fun e=>?_) h;simp only[aop,oO]at e ⊢;(repeat' split at e)<;>simp_all
 |binOp op t X Y u=>
  refine neut (fun e=>?_) h;simp only[aop,dI]at e ⊢;(repeat' split at e)<;>first|(simp_all;done)|(simp_all;rw[if_neg (by rintro(⟨q1,q2⟩|⟨q1,q2⟩)<;>simp_all),if_neg (by rintro(⟨q1,q2⟩|⟨q1,q2⟩)<;>simp_all)])
 |unOp op t y=>
  refine neut (fun e=>?_) h;simp only[aop,aUn]at e ⊢;(repeat' split at e)<;>simp_all
 |makeInterface t y=>
  refine neut (fun e=>?_) h;simp only[aop,LH]at e ⊢;(repeat' split at e)<;>simp_all
 |pick c a b=>
  refine neut (fun e=>?_) h;simp only[aop,BF]at e ⊢;(repeat' split at e)<;>simp_all
 |move y=>exact neut (fun e=>by simp only[aop]at e ⊢;simp_all) h
 |assign y=>exact neut (fun e=>by simp only[aop]at e ⊢;simp_all) h
 |makeFunc fn a b=>exact neut (fun e=>by simp only[aop]at e ⊢;simp_all) h
 |_=>exact neut (fun e=>by cases e) h
end
noncomputable section
structure RS where
 n:Nat
 sl:Tr V
 h:RH
def rat (n:Nat) (sl:Tr V) (i:Nat):Option V:=bif Nat.blt i n then some ((sl.get i).getD (.v undef))else none
def RS.slots (s:RS):List V:=(List.range s.n).map fun i=>(s.sl.get i).getD (.v undef)
def RS.den (s:RS):St:=⟨s.slots,s.h.den⟩
theorem jB (s:RS) (i:Nat):s.slots[i]? =rat s.n s.sl i:=by
 unfold RS.slots rat;by_cases h:i<s.n
 ·rw[iB h,List.getElem?_map,List.getElem?_range h];rfl
 ·rw[nC h,List.getElem?_eq_none (by simpa using Nat.le_of_not_lt h)];rfl
def rev (n:Nat) (sl:Tr V):Operand->V
 | .tmp t=>(rat n sl t).getD .any
 | .const c=>ofValue c
 | .global g=>.v (.pointer (some ⟨g,0,none⟩))
 | .func f=>.fn (.func f) [] []
theorem NJ (s:RS):aev s.slots=rev s.n s.sl:=by
 funext x
 cases x with
 |tmp t=>simp only[aev,rev,List.getD,jB]
 |_=>rfl
def tK (sl:Tr V) (dst:Option Tmp) (x:V):Tr V:=match dst with
 |some d=>sl.set d x
 |none=>sl
theorem gV (s:RS) (dst:Option Tmp) (x:V) (h:RH):(RS.mk s.n (tK s.sl dst x) h).slots=sput s.slots dst x:=by
 cases dst with
 |none=>rfl
 |some d=>
  apply List.ext_getElem?;intro i;rw[jB];show rat s.n (s.sl.set d x) i=(s.slots.set d x)[i]?;rw[List.getElem?_set,jB];have hl:s.slots.length=s.n:=by simp [RS.slots]
  unfold rat;by_cases h:i<s.n
  ·rw[iB h,Tr.get_set]
   by_cases e:d=i
   ·rw[if_pos e,if_pos e.symm,if_pos (by rw[hl,e];exact h)];rfl
   ·rw[if_neg e,if_neg (fun q=>e q.symm)]
  ·rw[nC h]
   split
   ·rename_i e;rw[if_neg (by rw[hl,e];exact h)];rfl
   ·rfl
def rwanted (ops:Array Oper) (n:Nat) (sl:Tr V) (o:Oper):Option Bool:=
 match o.guard with
 |none=>some true
 |some (j,want)=>match((ops[j]?).bind (·.dst)).bind (rat n sl ·)with
  |some (.v (.bool b))=>some (b == want)
  |some (.v (.tuple _))=>some false
  |_=>none
theorem pT (ops:Array Oper) (s:RS) (o:Oper):awanted ops s.slots o=rwanted ops s.n s.sl o:=by
 unfold awanted rwanted;simp only[jB];rfl
def AP (P:Program) (ρ:Operand->V) (op:Op):Option (FuncId×List V):=
 match op with
 | .call ⟨.value fop,args,_⟩=>match ρ fop with
   | .fn (.func f) first caps=>if callable P f=true then some (f,first++args.toList.map ρ++caps)else none
   |_=>none
 |_=>none
theorem EP (P:Program) (s:RS) (op:Op):gS P s.slots op=AP P (rev s.n s.sl) op:=by
 unfold gS AP;rw[NJ];rfl
def Fr' (H H':RH):Prop:=H'.m=H.m/\∃seg,H'.lg=seg++H.lg/\∀i,i ∉ seg->H'.get i=H.get i
theorem Fr'.refl (H:RH):Fr' H H:=⟨rfl,[],rfl,fun _ _=>rfl⟩
theorem Fr'.trans {A B C:RH} (h:Fr' A B) (g:Fr' B C):Fr' A C:=by
 obtain⟨h1,s,h2,h3⟩:=h;obtain⟨g1,t,g2,g3⟩:=g;refine⟨g1.trans h1,t++s,by rw[g2,h2,List.append_assoc],fun i hi=>?_⟩;rw[List.mem_append]at hi;rw[g3 i (fun q=>hi (.inl q)),h3 i (fun q=>hi (.inr q))]
theorem zU {g:Nat->HS}:∀(l:List Nat) (k:Heap) (j:Nat),(aW k (l.map fun i=>(i,g i)))[j]? =if j∈l/\j<k.length then some (g j)else k[j]?
 | [],k,j=>by simp [aW]
 |i::l,k,j=>by
  rw[List.map_cons,aW,zU l,List.length_set,List.getElem?_set];by_cases h1:j∈l/\j<k.length
  ·rw[if_pos h1,if_pos ⟨List.mem_cons_of_mem _ h1.1,h1.2⟩]
  ·rw[if_neg h1]
   by_cases e:i=j
   ·subst e
    rw[if_pos rfl];split
    ·rename_i q;rw[if_pos ⟨List.mem_cons_self ..,q⟩]
    ·rename_i q;rw[if_neg (fun z=>q z.2),List.getElem?_eq_none (Nat.le_of_not_lt q)]
   ·rw[if_neg e,if_neg]
    rintro⟨a,b⟩;rcases List.mem_cons.1 a with q|q
    ·exact e q.symm
    ·exact h1 ⟨q,b⟩
def rwids (P:Program) (op:Op) (ρ:Operand->V) (new:Nat):List Nat:=
 match op with
 | .convert s d x=>match P.underlying d with
   |some (.slice _)=>[new]
   |_=>[]
 |op=>wids op ρ new
theorem ZB {P:Program} {op:Op} {ρ:Operand->V} {new:Nat}:Loc' (fun h=>aop P op ρ h new) (foot op ρ) (rwids P op ρ new) new:=by
 have gen:=WY (P:=P) (op:=op) (ρ:=ρ) (new:=new);cases op with
 |convert s d x=>
  simp only[rwids];split
  ·exact gen
  ·rename_i hd
   have same:∀(k:Heap) (y:V) (k':Heap),aop P (.convert s d x) ρ k new=some (y,k')->k'=k:=by
    intro k y k' e;simp only[aop,cO,cW]at e;(repeat' split at e)<;>simp_all
   intro h y h' e hl;obtain⟨post,p1,p2⟩:=gen h y h' e hl;refine⟨[],⟨(fun p hp=>by simp at hp),fun k hk=>?_⟩⟩;have:=p2 k hk;have h2:=same k y _ this;rw[h2]at this;exact this
 |_=>exact gen
abbrev Fp:=List Nat×List Nat
def rd1 (ws:List Nat) (b:Fp):Bool:=ws.all fun p=>(b.1.all fun q=>!Nat.beq p q)&&b.2.all fun q=>!Nat.beq p q
def rdis (a b:Fp):Bool:=rd1 a.2 b&&rd1 b.2 a
def rpairs (ops:Array Oper):List (Nat×Nat):=
 (List.range ops.size).flatMap fun i=>((List.range i).filter fun j=>!dep ops ops.size i j).map fun j=>(i,j)
def rapart (ops:Array Oper):Bool:=(rpairs ops).all fun p=>match ops[p.1]?,ops[p.2]? with
 |some oi,some oj=>oj.apart ops oi
 |_,_=>true
def rdraws (fs:List Fp) (l:List (Nat×Nat)):Bool:=l.all fun p=>match fs[p.1]?,fs[p.2]? with
 |some a,some b=>rdis a b
 |_,_=>false
inductive RT where
 |code (c:Code) (s:RS)
 |ops (ops:Array Oper) (l:List Oper) (s:RS)
 |call (f:FuncId) (args:List V) (h:RH)
inductive RR where
 |code (e:Exit) (s:RS)
 |val (x:V) (h:RH)
def vrefs:Nat->V->List Nat
 |0,_=>[]
 |n+1,x=>match x with
  | .pO id _ _=>[id]
  | .sO id _ _=>[id]
  | .pF row _=>row.flatMap (vrefs n)
  | .sF _ rows=>rows.flatMap fun r=>r.flatMap (vrefs n)
  | .agg xs=>xs.flatMap (vrefs n)
  | .tup xs=>xs.flatMap (vrefs n)
  | .fn _ a b=>a.flatMap (vrefs n)++b.flatMap (vrefs n)
  | .ifc _ x=>vrefs n x
  |_=>[]
def orefs (H:RH) (i:Nat):List Nat:=match H.get i with
 |some (.live o)=>o.rows.flatMap fun r=>r.flatMap (vrefs 16)
 |_=>[]
def rreach (H:RH) (n:Nat):List Nat->Tr Unit->List Nat->List Nat:=
 Nat.rec (motive:=fun _=>List Nat->Tr Unit->List Nat->List Nat) (fun _ _ out=>out)
  (fun _ ih todo seen out=>match todo with
    | []=>out
    |i::todo=>match seen.get i with
     |some _=>ih todo seen out
     |none=>ih (orefs H i++todo) (seen.set i ()) (i::out)) n
def rset (l:List Nat) (t:Tr Unit):Tr Unit:=List.rec (motive:=fun _=>Tr Unit->Tr Unit) (fun t=>t) (fun i _ ih t=>ih (t.set i ())) l t
theorem SA:∀(l:List Nat) (t:Tr Unit) (i:Nat),((rset l t).get i).isSome=true↔i∈l\/(t.get i).isSome=true
 | [],t,i=>by show(t.get i).isSome=true↔_;simp
 |j::l,t,i=>by
  show((rset l (t.set j ())).get i).isSome=true↔_;rw[SA l,Tr.get_set];by_cases e:i=j
  ·subst e;simp
  ·rw[if_neg e];simp [e]
def rcopy (H:RH) (l:List Nat) (t:Tr HS):Tr HS:=List.rec (motive:=fun _=>Tr HS->Tr HS) (fun t=>t) (fun i _ ih t=>ih (match H.get i with
 |some x=>t.set i x
 |none=>t)) l t
theorem KC (H:RH):∀(l:List Nat) (t:Tr HS) (i:Nat),(rcopy H l t).get i=if i∈l/\H.get i≠none then H.get i else t.get i
 | [],t,i=>by show t.get i=_;simp
 |j::l,t,i=>by
  show(rcopy H l (match H.get j with
   |some x=>t.set j x
   |none=>t)).get i=_
  rw[KC H l];by_cases h1:i∈l/\H.get i≠none
  ·rw[if_pos h1,if_pos ⟨List.mem_cons_of_mem _ h1.1,h1.2⟩]
  ·rw[if_neg h1]
   by_cases e:i=j
   ·subst e
    cases q:H.get i with
    |none=>simp
    |some x=>simp only;rw[Tr.get_set,if_pos rfl,if_pos ⟨List.mem_cons_self ..,by simp⟩]
   ·have h2:¬(i∈j::l/\H.get i≠none):=by
      rintro⟨a,b⟩;rcases List.mem_cons.1 a with z|z
      ·exact e z
      ·exact h1 ⟨z,b⟩
    rw[if_neg h2];split
    ·rw[Tr.get_set,if_neg e]
    ·rfl
def rmerge (H:RH) (l:List Nat) (t:Tr HS):Tr HS:=List.rec (motive:=fun _=>Tr HS->Tr HS) (fun t=>t) (fun i _ ih t=>ih (t.set i ((H.get i).getD .free))) l t
theorem EV (H:RH):∀(l:List Nat) (t:Tr HS) (i:Nat),(rmerge H l t).get i=if i∈l then some ((H.get i).getD .free)else t.get i
 | [],t,i=>by show t.get i=_;simp
 |j::l,t,i=>by
  show(rmerge H l (t.set j ((H.get j).getD .free))).get i=_;rw[EV H l,Tr.get_set];by_cases h1:i∈l
  ·rw[if_pos h1,if_pos (List.mem_cons_of_mem _ h1)]
  ·rw[if_neg h1]
   by_cases e:i=j
   ·subst e;rw[if_pos rfl,if_pos (List.mem_cons_self ..)]
   ·rw[if_neg e,if_neg (by simp [e,h1])]
def rfree (H:RH) (i:Nat):Bool:=match H.get i with
 |some .free=>true
 |_=>false
def VY (p:Nat->Bool) (H:RH) (i:Nat):Bool:=match H.get i with
 |some (.live o)=>o.rows.all fun r=>r.all (ri p 16)
 |_=>true
structure SubR where
 x:V
 h:RH
 rd:List Nat
 wr:List Nat
def qNP (ih:RT->Option RR) (f:FuncId) (args:List V) (H:RH) (S:List Nat) (p:Nat->Bool):Option SubR:=
 bif args.all (ri p 16)&&S.all (VY p H)then
  match ih (.call f args ⟨H.m,H.nx,rcopy H S .nil,[]⟩)with
  |some (.val x H1)=>bif H1.lg.all (fun i=>p i||rfree H i)then some ⟨x,⟨H.m,H1.nx,rmerge H1 H1.lg H.t,H1.lg++H.lg⟩,S++H1.lg,H1.lg⟩else none
  |_=>none
 else none
def qNO (ih:RT->Option RR) (f:FuncId) (args:List V) (H:RH) (S:List Nat):Option SubR:=qNP ih f args H S fun i=>((rset S .nil).get i).isSome
def rsub (ih:RT->Option RR) (f:FuncId) (args:List V) (H:RH):Option SubR:=qNO ih f args H (rreach H 100000 (args.flatMap (vrefs 16)) .nil [])
def rdraw (P:Program) (ih:RT->Option RR) (ops:Array Oper) (base:Nat):List Oper->Nat->RS->Option (RS×List Fp)
 | [],_,s=>some (s,[])
 |o::rest,i,s=>match rwanted ops s.n s.sl o with
  |some true=>match AP P (rev s.n s.sl) o.op with
   |some (f,args)=>match rsub ih f args s.h with
    |some r=>match rdraw P ih ops base rest (i+1) ⟨s.n,tK s.sl o.dst r.x,r.h⟩with
     |some (s',fs)=>some (s',(r.rd,r.wr)::fs)
     |none=>none
    |none=>none
   |none=>match rop P o.op (rev s.n s.sl) s.h (base+i)with
    |some (x,h')=>match rdraw P ih ops base rest (i+1) ⟨s.n,tK s.sl o.dst x,⟨h'.m,s.h.nx,h'.t,rwids P o.op (rev s.n s.sl) (base+i)++s.h.lg⟩⟩with
     |some (s',fs)=>some (s',(foot o.op (rev s.n s.sl)++ [base+i],rwids P o.op (rev s.n s.sl) (base+i))::fs)
     |none=>none
    |none=>none
  |some false=>match rdraw P ih ops base rest (i+1) ⟨s.n,tK s.sl o.dst (.v undef),s.h⟩with
   |some (s',fs)=>some (s',([],[])::fs)
   |none=>none
  |none=>none
def rreg (P:Program) (ih:RT->Option RR) (ops:Array Oper) (s:RS):Option RR:=
 bif AI ops&&(rapart ops&&Nat.ble (s.h.nx+ops.size) s.h.m)then
  match rdraw P ih ops s.h.nx ops.toList 0 ⟨s.n,s.sl,⟨s.h.m,s.h.nx+ops.size,s.h.t,s.h.lg⟩⟩with
  |some (s',fs)=>bif rdraws fs (rpairs ops)then some (.code .normal s')else none
  |none=>none
 else none
def VV (P:Program) (s:RS):ResultVar->Option V
 | .tmp t=>rat s.n s.sl t
 | .cell a t=>match rat s.n s.sl a with
   |some p=>YN P s.h t p
   |none=>none
def NC (P:Program) (s:RS):List ResultVar->Option (List V)
 | []=>some []
 |r::rs=>match VV P s r,NC P s rs with
  |some x,some xs=>some (x::xs)
  |_,_=>none
def rares (P:Program) (rs:List ResultVar) (s:RS):Option V:=
 match NC P s rs with
 |some [x]=>some x
 |some xs=>some (.tup xs)
 |none=>none
theorem qD4 {P:Program} {s:RS} {r:ResultVar} {x:V} (h:VV P s r=some x):GQ P s.slots s.h.den r=some x:=by
 cases r with
 |tmp t=>simp only[GQ,jB];exact h
 |cell a t=>
  simp only[VV]at h;simp only[GQ,jB];split at h
  ·rename_i p hp
   simp only[hp,RB h]
  ·cases h
theorem xW {P:Program} {s:RS}:∀ {rs:List ResultVar} {xs:List V},NC P s rs=some xs->yF P s.slots s.h.den rs=some xs
 | [],xs,h=>h
 |r::rs,xs,h=>by
  simp only[NC]at h;split at h
  ·rename_i x ys h1 h2
   simp only[yF,qD4 h1,xW h2];exact h
  ·cases h
theorem EO {P:Program} {s:RS} {rs:List ResultVar} {x:V} (h:rares P rs s=some x):ares P rs s.slots s.h.den=some x:=by
 unfold rares at h;unfold ares;split at h
 ·rename_i y hy;rw[xW hy];exact h
 ·rename_i ys n hy
  rw[xW hy];split
  ·rename_i q;injection q with q;subst q;exact(n _ rfl).elim
  ·rename_i q;injection q with q;subst q;exact h
  ·rename_i q;cases q
 ·cases h
def rinit (args:List V):Nat->Tr V->Tr V:=List.rec (motive:=fun _=>Nat->Tr V->Tr V) (fun _ t=>t) (fun x _ ih i t=>ih (i+1) (t.set i x)) args
theorem KK:∀(args:List V) (i:Nat) (t:Tr V) (j:Nat),(rinit args i t).get j=if i<=j/\j<i+args.length then args[j-i]? else t.get j
 | [],i,t,j=>by rw[if_neg (by rw[List.length_nil];omega)];rfl
 |x::l,i,t,j=>by
  show(rinit l (i+1) (t.set i x)).get j=_;rw[KK l,Tr.get_set,List.length_cons];by_cases h:i+1<=j/\j<i+1+l.length
  ·rw[if_pos h,if_pos (by omega),show j-i=(j-(i+1))+1 by omega,List.getElem?_cons_succ]
  ·rw[if_neg h]
   by_cases e:j=i
   ·subst e
    rw[if_pos rfl,if_pos (by omega),Nat.sub_self];rfl
   ·rw[if_neg e,if_neg (by omega)]
def rstart (n:Nat) (args:List V) (h:RH):RS:=⟨args.length+(n-args.length),rinit args 0 .nil,h⟩
theorem wD (n:Nat) (args:List V) (h:RH):(rstart n args h).slots=args++List.replicate (n-args.length) (.v undef):=by
 apply List.ext_getElem?;intro i;rw[jB];show rat (args.length+(n-args.length)) (rinit args 0 .nil) i=_;unfold rat;rw[KK,List.getElem?_append,List.getElem?_replicate,Nat.zero_add,Nat.sub_zero];by_cases q:i<args.length
 ·rw[iB (by omega),if_pos ⟨Nat.zero_le _,q⟩,if_pos q,List.getElem?_eq_getElem q];rfl
 ·rw[if_neg (fun z=>q z.2),if_neg q]
  by_cases q2:i<args.length+(n-args.length)
  ·rw[iB q2,if_pos (by omega)];rfl
  ·rw[nC q2,if_neg (by omega)];rfl
def RTS (P:Program):RT->RR->Prop
 | .code c s,.code e s'=>PW P c s.den (fun e2 s2=>e2=e/\s2=s'.den)/\Fr' s.h s'.h
 | .ops ops l s,.code e s'=>e = .normal/\Fr' s.h s'.h/\∀k,(∀(j:Nat) (o:Oper),l[j]? =some o->ops[k+j]? =some o)->PO P ops (List.range' k l.length) s.den (fun s2=>s2=s'.den)
 | .call f args h,.val x h'=>PC P f args h.den (fun y k=>y=x/\k=h'.den)/\Fr' h h'
 |_,_=>False
def RIH (P:Program) (ih:RT->Option RR):Prop:=∀t r,ih t=some r->RTS P t r
theorem qIS {P:Program} {op:Op} {ρ:Operand->V} {H H':RH} {new n2:Nat} {x:V} (h:rop P op ρ H new=some (x,H')) (hn:new<H.m) :
  aop P op ρ H.den new=some (x,(RH.mk H'.m n2 H'.t (rwids P op ρ new++H.lg)).den)/\Fr' H ⟨H'.m,n2,H'.t,rwids P op ρ new++H.lg⟩:=by
 obtain⟨h1,h2⟩:=qPJ h;refine⟨h1,h2,rwids P op ρ new,rfl,fun i hi=>?_⟩;obtain⟨post,p1,p2⟩:=ZB (P:=P) (op:=op) (ρ:=ρ) (new:=new) H.den x H'.den h1 (by rw[LX];exact hn);have h3:=p2 H.den (fun _ _=>rfl);simp only[h1,Option.some.injEq,Prod.mk.injEq,true_and]at h3;show H'.get i=H.get i;rw[<-bP,<-bP,h3];exact eC post _ fun p hp e=>hi (by rw[<-e];exact p1 p hp)
theorem qMK {P:Program} {ih:RT->Option RR} (hih:RIH P ih) {f:FuncId} {args:List V} {H:RH} {r:SubR} (h:rsub ih f args H=some r) :
  aW H.den (r.wr.map fun i=>(i,(r.h.get i).getD .free))=r.h.den/\Fr' H r.h /\
  ∀k:Heap,(∀i,i∈r.rd->k[i]? =H.den[i]?)->PC P f args k (fun y k'=>y=r.x/\k'=aW k (r.wr.map fun i=>(i,(r.h.get i).getD .free))):=by
 unfold rsub at h;generalize rreach H 100000 (args.flatMap (vrefs 16)) .nil []=S at h;unfold qNO at h;generalize hp:(fun i=>((rset S .nil).get i).isSome)=p at h;have pS:∀i,p i=true↔i∈S:=by
  intro i;rw[<-hp];have:=SA S .nil i;simpa [Tr.get_nil]using this
 unfold qNP at h;cases q:(args.all (ri p 16)&&S.all (VY p H))with
 |false=>rw[q]at h;cases h
 |true=>
  rw[q]at h;simp only[cond_true]at h;obtain⟨qa,qs⟩:=Bool.and_eq_true_iff.1 q;split at h
  ·rename_i x H1 hc
   cases ql:(H1.lg.all fun i=>p i||rfree H i)with
   |false=>rw[ql]at h;cases h
   |true=>
    rw[ql]at h;injection h with h;subst h;obtain⟨c1,c2,seg,c3,c4⟩:=hih _ _ hc;simp only[List.append_nil]at c3;subst c3;have c2:H1.m=H.m:=c2;have gK:∀i,(RH.mk H.m H1.nx (rmerge H1 H1.lg H.t) (H1.lg++H.lg)).get i=if i∈H1.lg then H1.get i else H.get i:=by
     intro i;show(bif Nat.blt i H.m then some (((rmerge H1 H1.lg H.t).get i).getD .free)else none)=_;rw[EV];unfold RH.get;rw[c2];by_cases hi:i<H.m
     ·rw[iB hi]
      by_cases e:i∈H1.lg
      ·rw[if_pos e,if_pos e];rfl
      ·rw[if_neg e,if_neg e]
     ·rw[nC hi]
      split<;>rfl
    have g0:∀i,(RH.mk H.m H.nx (rcopy H S .nil) []).get i=if i∈S then H.get i else(if i<H.m then some .free else none):=by
     intro i;show(bif Nat.blt i H.m then some (((rcopy H S .nil).get i).getD .free)else none)=_;rw[KC];by_cases hi:i<H.m
     ·rw[iB hi,if_pos hi]
      by_cases e:i∈S
      ·have hne:H.get i≠none:=by unfold RH.get;rw[iB hi];simp
       rw[if_pos e,if_pos ⟨e,hne⟩];unfold RH.get;rw[iB hi];rfl
      ·rw[if_neg e,if_neg (fun z=>e z.1)];rfl
     ·have hn:H.get i=none:=by unfold RH.get;rw[nC hi];rfl
      rw[nC hi,if_neg hi,hn];show none=_;split<;>rfl
    have lgm:∀i,i∈H1.lg->p i=true\/H.get i=some .free:=by
     intro i hi;have:=List.all_eq_true.1 ql i hi;rcases Bool.or_eq_true_iff.1 this with z|z
     ·exact .inl z
     ·right
      unfold rfree at z;split at z
      ·assumption
      ·cases z
    have merged:∀k:Heap,(∀i,i∈S++H1.lg->k[i]? =H.den[i]?)->∀i,(aW k (H1.lg.map fun i=>(i,((RH.mk H.m H1.nx (rmerge H1 H1.lg H.t) (H1.lg++H.lg)).get i).getD .free)))[i]? =if i∈H1.lg then H1.get i else k[i]?:=by
     intro k hk i;rw[zU (g:=fun i=>((RH.mk H.m H1.nx (rmerge H1 H1.lg H.t) (H1.lg++H.lg)).get i).getD .free)];by_cases e:i∈H1.lg
     ·rw[if_pos e]
      have hki:=hk i (List.mem_append_right _ e);rw[bP]at hki;by_cases hi:i<k.length
      ·rw[if_pos ⟨e,hi⟩,gK,if_pos e]
       have:H1.get i≠none:=by
        intro z;rw[List.getElem?_eq_getElem hi]at hki;unfold RH.get at z hki;rw[c2]at z;by_cases hm:i<H.m
        ·rw[iB hm]at z;cases z
        ·rw[nC hm]at hki;cases hki
       cases hz:H1.get i with
       |none=>exact(this hz).elim
       |some z=>rfl
      ·rw[if_neg (fun z=>hi z.2),List.getElem?_eq_none (Nat.le_of_not_lt hi)]
       rw[List.getElem?_eq_none (Nat.le_of_not_lt hi)]at hki;unfold RH.get at hki ⊢;rw[c2];by_cases hm:i<H.m
       ·rw[iB hm]at hki;cases hki
       ·rw[nC hm];rfl
     ·rw[if_neg e,if_neg (fun z=>e z.1)]
    refine⟨?_,⟨rfl,H1.lg,rfl,fun i hi=>by rw[gK,if_neg hi]⟩,?_⟩
    ·apply List.ext_getElem?
     intro i;rw[merged H.den (fun _ _=>rfl) i,bP,bP,gK]
    ·intro k hk
     have hkS:∀i,p i=true->k[i]? =(RH.mk H.m H.nx (rcopy H S .nil) []).den[i]?:=by
      intro i hi;have hi:=(pS i).1 hi;rw[hk i (List.mem_append_left _ hi),bP,bP,g0,if_pos hi]
     have nS:∀i,p i=false->¬i∈S:=fun i hi z=>by rw[(pS i).2 z]at hi;cases hi
     refine PC.ext (S:=p) (T:=fun i=>p i||H1.lg.contains i) (by rw[gX]) (fun x hx=>ZA (List.all_eq_true.1 qa x hx)) (fun id o ho r hr x hx=>?_) (fun id o hi ho=>?_) hkS (fun id hi=>by rw[hi];rfl) (fun id hi=>?_) (fun id hi hp=>?_) (fun id=>?_) c1
     ·rw[bP,g0]at ho
      by_cases e:id∈S
      ·rw[if_pos e]at ho
       have:=List.all_eq_true.1 qs id e;unfold VY at this;rw[ho]at this;exact ZA (List.all_eq_true.1 (List.all_eq_true.1 this r hr) x hx)
      ·rw[if_neg e]at ho
       split at ho<;>cases ho
     ·rw[bP,g0,if_neg (nS id hi)]at ho
      split at ho<;>cases ho
     ·obtain⟨z1,z2⟩:=Bool.or_eq_false_iff.1 hi
      have z3:¬id∈H1.lg:=fun z=>by rw[List.contains_iff_mem.2 z]at z2;cases z2
      rw[bP,c4 id z3,g0,if_neg (nS id z1)];by_cases hm:id<H.m
      ·exact .inl (if_pos hm)
      ·exact .inr (if_neg hm)
     ·rw[hp]at hi
      have hl:id∈H1.lg:=List.contains_iff_mem.1 (by simpa using hi);rw[hk id (List.mem_append_right _ hl),bP];rcases lgm id hl with z|z
      ·rw[hp]at z;cases z
      ·exact .inl z
     ·rw[merged k hk id,bP]
      by_cases e:id∈H1.lg
      ·rw[if_pos e,if_pos (by rw[List.contains_iff_mem.2 e];simp)]
      ·rw[if_neg e]
       cases hpi:p id with
       |true=>
        rw[if_pos (by rw[Bool.true_or])];rw[hkS id hpi,bP,c4 id e]
       |false=>
        rw[if_neg];intro z;rw[Bool.false_or]at z;exact e (List.contains_iff_mem.1 z)
  ·cases h
theorem KG {P:Program} {ih:RT->Option RR} (hih:RIH P ih) {ops:Array Oper} {base:Nat}:∀(rest:List Oper) (k:Nat) (s s':RS) (fs:List Fp),(∀(j:Nat) (o:Oper),rest[j]? =some o->ops[k+j]? =some o)->base+k+rest.length<=s.h.m ->
  rdraw P ih ops base rest k s=some (s',fs)->Fr' s.h s'.h/\∃Ds:List Dat,Ds.length=rest.length/\fs.length=rest.length /\
   (∀(j:Nat) (d:Dat) (f:Fp),Ds[j]? =some d->fs[j]? =some f->(∀q,q∈d.pre.map (·.1)->q∈f.1)/\(∀q,q∈d.post.map (·.1)->q∈f.2)) /\
   ∀D:Nat->Dat,(∀(j:Nat) (d:Dat),Ds[j]? =some d->D (k+j)=d)->Run P ops D (List.range' k rest.length) s.den s'.den
 | [],k,s,s',fs,_,_,h=>by
   simp [rdraw]at h;obtain⟨rfl,rfl⟩:=h;exact⟨Fr'.refl _,[],rfl,rfl,fun j d f hd=>by simp at hd,fun D _=>rfl⟩
 |o::rest,k,s,s',fs,hops,hlen,h=>by
  have ho:ops[k]? =some o:=by simpa using hops 0 o (by simp)
  simp only[List.length_cons]at hlen;have fin:∀(d:Dat) (f:Fp) (fs':List Fp) (s1:RS),d.sl=s.slots->wX d.pre s.h.den->LS P ops k o d->(∀q,q∈d.pre.map (·.1)->q∈f.1)->(∀q,q∈d.post.map (·.1)->q∈f.2) ->
    Fr' s.h s1.h->s1.den=⟨sput s.slots o.dst d.x,aW s.h.den d.post⟩->rdraw P ih ops base rest (k+1) s1=some (s',fs')->fs=f::fs' ->
    Fr' s.h s'.h/\∃Ds:List Dat,Ds.length=(o::rest).length/\fs.length=(o::rest).length /\
   (∀(j:Nat) (d:Dat) (f:Fp),Ds[j]? =some d->fs[j]? =some f->(∀q,q∈d.pre.map (·.1)->q∈f.1)/\(∀q,q∈d.post.map (·.1)->q∈f.2)) /\
   ∀D:Nat->Dat,(∀(j:Nat) (d:Dat),Ds[j]? =some d->D (k+j)=d)->Run P ops D (List.range' k (o::rest).length) s.den s'.den:=by
   intro d f fs' s1 hsl hpre hls hf1 hf2 hfr hs1 hrun hfs;obtain⟨g,Ds,l1,l2,l3,l4⟩:=KG hih rest (k+1) s1 s' fs' (fun j o' hj=>by have:=hops (j+1) o' (by simpa using hj);rwa [show k+1+j=k+(j+1)by omega]) (by rw[hfr.1];omega) hrun;refine⟨hfr.trans g,d::Ds,by simp [l1],by rw[hfs];simp [l2],fun j d' f' hd hf=>?_,fun D hD=>?_⟩
   ·rw[hfs]at hf
    cases j with
    |zero=>
     simp at hd hf;subst hd hf;exact⟨hf1,hf2⟩
    |succ j=>exact l3 j d' f' (by simpa using hd) (by simpa using hf)
   ·have hD0:D k=d:=by simpa using hD 0 d (by simp)
    simp only[List.length_cons,List.range'_succ];refine⟨s1.den,⟨o,ho,?_,?_,?_,?_⟩,?_⟩
    ·rw[hD0,hsl];exact fun _ _=>rfl
    ·rw[hD0];exact hpre
    ·rw[hD0];exact hs1
    ·rw[hD0];exact hls
    ·exact l4 D (fun j d' hd=>by have:=hD (j+1) d' (by simpa using hd);rwa [show k+1+j=k+(j+1)by omega])
  simp only[rdraw]at h;split at h
  ·rename_i hw
   rw[<-pT]at hw;split at h
   ·rename_i f args hcall
    rw[<-EP]at hcall;split at h
    ·rename_i r hc
     split at h
     ·rename_i s2 fs2 hrun
      injection h with h;injection h with h1 h2;subst h1;obtain⟨c1,c2,c3⟩:=qMK hih hc;refine fin ⟨s.slots,r.rd.map fun i=>(i,s.h.den[i]?),r.x,r.wr.map fun i=>(i,(r.h.get i).getD .free)⟩ (r.rd,r.wr) fs2 _ rfl (fun p hp=>?_) ?_ (fun q hq=>by simpa using hq) (fun q hq=>by simpa using hq) c2 ?_ hrun h2.symm
      ·obtain⟨i,_,rfl⟩:=List.mem_map.1 hp;rfl
      ·intro t ag ah
       have hcong:=iY ag;have hcb:callable P f=true:=by
        unfold gS at hcall;split at hcall
        ·split at hcall
         ·split at hcall
          ·rename_i q;injection hcall with hcall;injection hcall with e1 e2;subst e1;exact q
          ·cases hcall
         ·cases hcall
        ·cases hcall
       exact mS ho (by rw[dY ag];exact hw) (by rw[vG hcong];exact hcall) hcb
        (c3 t.h fun i hi=>ah (i,s.h.den[i]?) (List.mem_map_of_mem (f:=fun i=>(i,s.h.den[i]?)) hi))
      ·have e1:=gV s o.dst r.x r.h
       unfold RS.den;rw[e1];exact congrArg (St.mk _) c1.symm
     ·cases h
    ·cases h
   ·rename_i hcall
    split at h
    ·rename_i x h2 hx
     split at h
     ·rename_i s2 fs2 hrun
      injection h with h;injection h with h1 h3;subst h1;obtain⟨q1,q2⟩:=qIS (n2:=s.h.nx) hx (by omega);obtain⟨post,p1,p2⟩:=ZB (P:=P) (op:=o.op) (ρ:=rev s.n s.sl) (new:=base+k) s.h.den x _ q1 (by rw[LX];omega);have hself:=p2 s.h.den (fun _ _=>rfl);simp only[q1,Option.some.injEq,Prod.mk.injEq,true_and]at hself;refine fin ⟨s.slots,(foot o.op (rev s.n s.sl)++ [base+k]).map fun id=>(id,s.h.den[id]?),x,post⟩ _ fs2 _ rfl (fun p hp=>?_) ?_ (fun q hq=>?_) (fun q hq=>?_) q2 ?_ hrun h3.symm
      ·obtain⟨id,_,rfl⟩:=List.mem_map.1 hp;rfl
      ·intro t ag ah
       have hcong:=iY ag;refine qTL (base+k) ho (by rw[dY ag];exact hw) ?_;rw[GO hcong,NJ];exact p2 t.h (fun id hid=>ah (id,s.h.den[id]?) (List.mem_map_of_mem (f:=fun id=>(id,s.h.den[id]?)) hid))
      ·simpa using hq
      ·obtain⟨p,hp,rfl⟩:=List.mem_map.1 hq
       exact p1 p hp
      ·have e1:=gV s o.dst x ⟨h2.m,s.h.nx,h2.t,rwids P o.op (rev s.n s.sl) (base+k)++s.h.lg⟩
       unfold RS.den;rw[e1];exact congrArg (St.mk _) hself
     ·cases h
    ·cases h
  ·rename_i hw
   rw[<-pT]at hw;split at h
   ·rename_i s2 fs2 hrun
    injection h with h;injection h with h1 h3;subst h1;refine fin ⟨s.slots,[],.v undef,[]⟩ ([],[]) fs2 ⟨s.n,tK s.sl o.dst (.v undef),s.h⟩ rfl (fun p hp=>by cases hp) ?_ (fun q hq=>hq) (fun q hq=>hq) (Fr'.refl _) ?_ hrun h3.symm
    ·intro t ag ah
     exact qOD ho (by rw[dY ag];exact hw)
    ·unfold RS.den
     rw[gV];rfl
   ·cases h
  ·cases h
theorem RJ {ws:List Nat} {b:Fp} (h:rd1 ws b=true) {p:Nat} (hp:p∈ws):(∀q,q∈b.1->p≠q)/\∀q,q∈b.2->p≠q:=by
 have:=List.all_eq_true.1 h p hp;obtain⟨h1,h2⟩:=Bool.and_eq_true_iff.1 this;have ne:∀ {q:Nat},(!Nat.beq p q)=true->p≠q:=by
  intro q h e;subst e;rw[Tr.beq_yes]at h;cases h
 exact⟨fun q hq=>ne (List.all_eq_true.1 h1 q hq),fun q hq=>ne (List.all_eq_true.1 h2 q hq)⟩
theorem VZ {ops:Array Oper} {i j:Nat} (hi:i<ops.size) (hj:j<i) (hd:dep ops ops.size i j=false):(i,j)∈rpairs ops:=
 List.mem_flatMap.2 ⟨i,List.mem_range.2 hi,List.mem_map.2 ⟨j,List.mem_filter.2 ⟨List.mem_range.2 hj,by rw[hd];rfl⟩,rfl⟩⟩
theorem RY {P:Program} (hm:P.follows .mixedOrders=true) {ih:RT->Option RR} (hih:RIH P ih) {ops:Array Oper} {s:RS} {e:Exit} {s':RS} (h:rreg P ih ops s=some (.code e s')) :
  Fr' s.h s'.h/\e = .normal/\∀ι a w,SR s.den ι a w->∀t,wpOps P ops (Post s.den ι w (fun e st=>e = .normal/\st=s'.den)) (Region.schedule (P.follows .mixedOrders) ops t) a {w with drawn:=w.drawn+1}:=by
 unfold rreg at h;cases q:(AI ops&&(rapart ops&&Nat.ble (s.h.nx+ops.size) s.h.m))with
 |false=>rw[q]at h;cases h
 |true=>
  rw[q]at h;simp only[cond_true]at h;obtain⟨he,q2⟩:=Bool.and_eq_true_iff.1 q;obtain⟨ha,hb⟩:=Bool.and_eq_true_iff.1 q2;split at h
  ·rename_i s2 fs hrun
   cases hd:rdraws fs (rpairs ops)with
   |false=>rw[hd]at h;cases h
   |true=>
    rw[hd]at h;injection h with h;injection h with h h';subst h h';obtain⟨fr,Ds,l1,l2,l3,l4⟩:=KG hih ops.toList 0 _ s2 fs (fun j o hj=>by simpa using hj) (by simpa using Nat.le_of_ble_eq_true hb) hrun;have hl:=l4 (fun i=>(Ds[i]?).getD default) (fun j d hd=>by simp [hd]);have hr:List.range' 0 ops.toList.length=List.range ops.size:=by rw[List.range_eq_range'];simp
    rw[hr]at hl;refine⟨fr,rfl,DJ (s:=s.den) hm (fun i o ho e hee hb=>?_) (fun i j hji hi=>?_) hl ⟨rfl,rfl⟩⟩
    ·have hi:i<ops.size:=by
       rcases Nat.lt_or_ge i ops.size with q|q
       ·exact q
       ·rw[Array.getElem?_eq_none q]at ho;cases ho
     have:=List.all_eq_true.1 he i (by simp [hi]);simp only[ho]at this;have:=List.all_eq_true.1 this e (by simpa using hee);simpa [hb]using this
    ·cases hdp:dep ops ops.size i j with
     |true=>exact .inl ⟨_,hdp⟩
     |false=>
      right;have hp:=VZ hi hji hdp;intro oi oj hoi hoj;have g1:=List.all_eq_true.1 ha _ hp;simp only[hoi,hoj]at g1;refine⟨g1,?_⟩;have g2:=List.all_eq_true.1 (show(rpairs ops).all _=true from hd) _ hp;have hil:i<Ds.length:=by rw[l1];simpa using hi
      have hjl:j<Ds.length:=by omega
      have hif:i<fs.length:=by omega
      have hjf:j<fs.length:=by omega
      simp only[List.getElem?_eq_getElem hif,List.getElem?_eq_getElem hjf]at g2;obtain⟨a1,a2⟩:=l3 i _ _ (List.getElem?_eq_getElem hil) (List.getElem?_eq_getElem hif);obtain⟨b1,b2⟩:=l3 j _ _ (List.getElem?_eq_getElem hjl) (List.getElem?_eq_getElem hjf);obtain⟨f1,f2⟩:=Bool.and_eq_true_iff.1 g2;simp only[List.getElem?_eq_getElem hil,List.getElem?_eq_getElem hjl,Option.getD_some];refine⟨fun p hp q hq=>?_,fun p hp q hq=>?_⟩
      ·obtain⟨e2,e3⟩:=RJ f1 (a2 _ (List.mem_map_of_mem hp))
       rcases List.mem_append.1 hq with z|z
       ·exact e2 q (b1 q z)
       ·exact e3 q (b2 q z)
      ·obtain⟨e2,e3⟩:=RJ f2 (b2 _ (List.mem_map_of_mem hp))
       rcases List.mem_append.1 hq with z|z
       ·exact e2 q (a1 q z)
       ·exact e3 q (a2 q z)
  ·cases h
theorem qMJ {P:Program} (hm:P.follows .mixedOrders=true) {ih:RT->Option RR} (hih:RIH P ih) {id:Nat} {ops:Array Oper} {s:RS} {r:RR} (h:rreg P ih ops s=some r):RTS P (.code (.region id ops true) s) r:=by
 cases r with
 |code e s'=>
  obtain⟨fr,he,hw⟩:=RY hm hih h;subst he;exact⟨fun ι a w r=>wp_region_draw (hw ι a w r),fr⟩
 |val x k=>
  exfalso;unfold rreg at h;cases q:(AI ops&&(rapart ops&&Nat.ble (s.h.nx+ops.size) s.h.m))with
  |false=>rw[q]at h;cases h
  |true=>
   rw[q]at h;simp only[cond_true]at h;split at h
   ·rename_i fs _
    cases hd:rdraws fs (rpairs ops)with
    |false=>rw[hd]at h;cases h
    |true=>rw[hd]at h;cases h
   ·cases h
end
noncomputable section
theorem Evolve.keepsO {h h':Heap} {ι ι':Iota} {w w':World} (H:HRel h ι w) (e:Evolve h ι w h' ι' w'):KeepsOthers w w':=
 ⟨e.size,fun k o hk ho=>by
   have hlt:k<w.heap.size:=(Array.getElem?_eq_some_iff.1 hk).1;refine((e.frame k hlt ?_).1).trans hk;rintro⟨id,x,l,q1,q2,q3⟩;obtain⟨l',c,fr,q4,la⟩:=H.live id x q1;rw[q2]at q4;injection q4 with q4;subst q4;have:=la.blk;rw[q3,hk]at this;injection this with this;subst this;cases ho⟩
theorem Evolve.calmI {h h':Heap} {ι ι':Iota} {w0 w w':World} (e:Evolve h ι w0 h' ι' w) (hc:Calm w w') (hlow:∀b,b<w0.heap.size->w'.heap[b]? =w.heap[b]?):Evolve h ι w0 h' ι' w':=
 ⟨hc.os.trans e.os,hc.tape.trans e.tape,hc.output.trans e.output,Nat.le_trans e.size hc.size,e.iota,e.away,fun b hb hn=>let ⟨q1,q2⟩:=e.frame b hb hn;⟨(hlow b hb).trans q1,q2⟩,
   fun b c el fr hb=>let ⟨c',fr',q1,q2⟩:=e.sizes b c el fr hb;⟨c',fr',hc.cells _ _ _ _ q1,q2⟩⟩
abbrev CkK (K:Nat):={k:Nat // k<K}
def ckK (g off len es B:Nat) (st:Nat->Nat) (k:Nat):Value:=.slice (some ⟨g,off+st k*es,none⟩) (min B (len-st k)) (min B (len-st k))
def mY (P:Program) (gf:FuncId) (es:Nat):Prop:=∀(n l b1 o1 b2 o2 g off len cap B K:Nat) (st:Nat->Nat) (sv:Value),((sv = .slice none 0 0/\len=0)\/(sv = .slice (some ⟨g,off,none⟩) len cap/\len<=cap))->len<=1099511627776->1<=B->B<=1099511627776 ->
 st 0=0->(∀k,st (k+1)=st k+B)->(∀k,k<K->st k<len)->len<=st K->∀(J Jx:List (CkK K)->World->Prop),
 (∀s W W' row,J s W->W.grownBy W' row->(∀r,row=some r->False)->J s W') ->
 (∀pre x W,J pre W->pre.length<K->YieldAt Fence.wide (n-1) P l #[ckK g off len es B st x.1] W fun e W'=>
    (e = .returned (.bool true)/\J (pre++ [x]) W'/\Kp ⟨b1,o1,none⟩ ⟨b2,o2,none⟩ W W')\/(e = .returned (.bool false)/\Jx (pre++ [x]) W')) ->
 ∀(W:World),W.cell? ⟨b1,o1,none⟩=some sv->W.cell? ⟨b2,o2,none⟩=some (.int .i64 (B:Nat))->J [] W ->
  CallsIn Fence.wide n P gf #[.func (.yield l) #[] #[],.pointer (some ⟨b1,o1,none⟩),.pointer (some ⟨b2,o2,none⟩)] W fun e W'=>(∃v,e = .returned v) /\
   ((∃ys:List (CkK K),ys.map (·.1)=List.range K/\J ys W')\/(∃pre,Jx pre W'))
theorem mY.stops {P:Program} {gf:FuncId} {es:Nat} (It:mY P gf es) (n b1 o1 b2 o2 g off len cap B K:Nat) (st:Nat->Nat) (sv:Value) (w:World) (hsv:(sv = .slice none 0 0/\len=0)\/(sv = .slice (some ⟨g,off,none⟩) len cap/\len<=cap)) (hlen:len<=1099511627776) (hB1:1<=B) (hB2:B<=1099511627776)
  (s0:st 0=0) (s1:∀k,st (k+1)=st k+B) (s2:∀k,k<K->st k<len) (s3:len<=st K)
  (hb1:b1<w.heap.size) (hb2:b2<w.heap.size) (h1:w.cell? ⟨b1,o1,none⟩=some sv) (h2:w.cell? ⟨b2,o2,none⟩=some (.int .i64 (B:Nat))) :
  SeqStopsK Fence.wide n P gf #[.pointer (some ⟨b1,o1,none⟩),.pointer (some ⟨b2,o2,none⟩)] (fun x:CkK K=>#[ckK g off len es B st x.1]) (Kp ⟨b1,o1,none⟩ ⟨b2,o2,none⟩)
   (fun ys=>ys.map (·.1)=List.range K) (fun _=>True) K w:=by
 intro l J Jx W hW hJ hJx hY h0;refine(It n l b1 o1 b2 o2 g off len cap B K st sv hsv hlen hB1 hB2 s0 s1 s2 s3 J Jx (fun s W1 W' row hs hg hr=>hJ s W1 W' row hs hg (fun r e=>(hr r e).elim)) hY W ((hW.cell (p:=⟨b1,o1,none⟩) hb1).trans h1) ((hW.cell (p:=⟨b2,o2,none⟩) hb2).trans h2) h0).mono ?_;rintro e W' ⟨he,h|⟨pre,h⟩⟩
 ·exact⟨he,.inl h⟩
 ·exact⟨he,.inr ⟨pre,trivial,h⟩⟩
theorem qNM {h:Heap} {ι:Iota} {w:World} (H:HRel h ι w) (id:Nat):HRel (h.set id .dead) ι w/\Evolve h ι w (h.set id .dead) ι w:=by
 have hk:∀x:Nat,(h.set id .dead)[x]? =h[x]? \/(h.set id .dead)[x]? =some HS.dead:=fun x=>by
  by_cases e:id=x
  ·subst e
   by_cases q:id<h.length
   ·exact .inr (List.getElem?_set_self q)
   ·left;rw[List.getElem?_eq_none (by simp;omega),List.getElem?_eq_none (by omega)]
  ·exact .inl (List.getElem?_set_ne e)
 exact H.killed hk (by simp) (fun _=>False) (fun _ q=>q.elim) rfl rfl rfl rfl (fun _ _=>rfl) (fun _ c _ fr q=>⟨c,fr,q,rfl⟩)
theorem qIH {w:World} {ι:Iota} {M:Nat->Prop} {id off len cap es g o p m:Nat} {l:Loc} (hl:ι id=some l) (hs:l.sz=es) (r:Rep w ι M (.sO id off len) (.slice (some ⟨g,o,none⟩) len cap)) (hm:p+m<=len):Rep w ι M (.sO id (off+p) m) (.slice (some ⟨g,o+p*es,none⟩) m m):=by
 cases r with
 |sO _ _ _ _ l2 c e fr hl2 hcap hb hsz=>
  rw[hl]at hl2;injection hl2 with hl2;subst hl2;have h1:(off+p+m)*l.sz<=(off+cap)*l.sz:=Nat.mul_le_mul_right _ (by omega);have:=Rep.sO (M:=M) id (off+p) m m l c e fr hl (Nat.le_refl _) hb (by omega);rw[Nat.add_mul,hs,<-Nat.add_assoc]at this;rw[hs];exact this
def qP1 (P:Program) (c:Code) (s s':RS):Prop:=∀(l n:Nat) (ι:Iota) (a:Act) (w:World),SR s.den ι a w->c.wpIn (Fence.wide.inRound l) n P (Post s.den ι w (fun e st=>e = .normal/\st=s'.den)) a w
def qIW (P:Program) (ih:RT->Option RR):Code->RS->Option RS
 | .region _ ops d,s=>bif rV ops then(match d with
   |true=>(match rreg P ih ops s with
    |some (.code .normal s')=>some s'
    |_=>none)
   |false=>(match ih (.ops ops ops.toList s)with
    |some (.code .normal s')=>some s'
    |_=>none))else none
 |_,_=>none
theorem qHP {s:St} {ι:Iota} {w:World} {s':St}:¬LetsOut (Post s ι w (fun e st=>e = .normal/\st=s')):=by
 rintro⟨a,w,_,_,⟨q,_⟩,_⟩;cases q
theorem qIX {P:Program} (hm:P.follows .mixedOrders=true) {ih:RT->Option RR} (hih:RIH P ih) {c:Code} {s s':RS} (h:qIW P ih c s=some s'):Fr' s.h s'.h/\qP1 P c s s':=by
 cases c with
 |region id ops d=>
  simp only[qIW]at h;cases hc:rV ops with
  |false=>rw[hc]at h;cases h
  |true=>
   rw[hc]at h;simp only[cond_true]at h;cases d with
   |true=>
    (try simp only at h);split at h
    ·rename_i s2 hr
     injection h with h;subst h;obtain⟨fr,_,hw⟩:=RY hm hih hr;exact⟨fr,fun l n ι a w r=>wpIn_region_draw fun t=>kW l n (tT hc) qHP _ _ _ (hw ι a w r t)⟩
    ·cases h
   |false=>
    (try simp only at h);split at h
    ·rename_i s2 hr
     injection h with h;subst h;obtain⟨_,fr,q⟩:=hih _ _ hr;refine⟨fr,fun l n ι a w r=>wpIn_region ?_⟩;have hr:List.range ops.size=List.range' 0 ops.toList.length:=by rw[List.range_eq_range'];simp
     rw[hr];exact kW l n (tT hc) qHP _ _ _ (q 0 (fun j o hj=>by simpa using hj) ι a w r)
    ·cases h
 |_=>cases h
structure RCk where
 gf:FuncId
 i1:Nat
 i2:Nat
 y:V
 len:Nat
 B:Nat
 es:Nat
def NF (C:FuncId->Nat) (H:RH) (g:V):Option RCk:=match g with
 | .fn (.func gf) [] [.pO i1 0 0,.pO i2 0 0]=>match H.get i1,H.get i2 with
   |some (.live o1),some (.live o2)=>match o1.rows,o2.rows with
    | [[y]],[[.v (.int .i64 (.ofNat B))]]=>match y with
      | .v (.slice none 0 0)=>some ⟨gf,i1,i2,y,0,B,C gf⟩
      | .sO j off len=>match H.get j with
        |some (.live o)=>bif !Nat.beq j i1&&(!Nat.beq j i2&&Nat.beq o.sz (C gf))then some ⟨gf,i1,i2,y,len,B,C gf⟩else none
        |_=>none
      |_=>none
    |_,_=>none
   |_,_=>none
 |_=>none
def gC (r:RCk) (k:Nat):V:=match r.y with
 | .sO j off len=>.sO j (off+r.B*k) (min r.B (len-r.B*k))
 |y=>y
def oK (r:RCk):Nat:=(r.len+r.B-1)/r.B
def YS (r:RCk):Bool:=!Nat.beq r.i1 r.i2&&(Nat.ble r.len 1099511627776&&(Nat.ble 1 r.B&&Nat.ble r.B 1099511627776))
def NE (H:RH) (r:RCk):RH:=⟨H.m,H.nx,(H.t.set r.i1 .dead).set r.i2 .dead,r.i1::r.i2::H.lg⟩
theorem RG (H:RH) (r:RCk):(NE H r).den=(H.den.set r.i1 .dead).set r.i2 .dead:=by
 have h1:=nX (H.set r.i1 .dead) r.i2 .dead;have h2:=nX H r.i1 .dead;exact h1.trans (congrArg (fun l:List HS=>l.set r.i2 .dead) h2)
theorem qMC (H:RH) (r:RCk):Fr' H (NE H r):=by
 refine⟨rfl,[r.i1,r.i2],rfl,fun i hi=>?_⟩;simp only[List.mem_cons,List.not_mem_nil,or_false,not_or]at hi;rw[<-bP,<-bP,RG,List.getElem?_set_ne (Ne.symm hi.2),List.getElem?_set_ne (Ne.symm hi.1)]
def rround (P:Program) (ih:RT->Option RR) (p q:Nat) (body:Code) (s:RS) (r:RCk) (H:RH) (k:Nat):Option RH:=match qIW P ih body ⟨s.n,(s.sl.set p (gC r k)).set q (gC r k),H⟩with
 |some s2=>some s2.h
 |none=>none
def rall (R:RH->Nat->Option RH) (K:Nat):Nat->RH->Bool
 |0,_=>true
 |d+1,H=>(List.range K).all fun k=>match R H k with
  |some H'=>rall R K d H'
  |none=>false
def rseq (R:RH->Nat->Option RH):List Nat->RH->Option RH
 | [],H=>some H
 |k::l,H=>match R H k with
  |some H'=>rseq R l H'
  |none=>none
theorem RZ {R:RH->Nat->Option RH}:∀(l:List Nat) (k:Nat) (H H1:RH),rseq R l H=some H1->rseq R (l++ [k]) H=R H1 k
 | [],k,H,H1,h=>by injection h with h;subst h;show(match R H k with|some H'=>some H'|none=>none)=_;cases R H k<;>rfl
 |x::l,k,H,H1,h=>by
  simp only[rseq]at h;split at h
  ·rename_i H' hx
   show(match R H x with|some H'=>rseq R (l++ [k]) H'|none=>none)=_
   rw[hx];exact RZ l k H' H1 h
  ·cases h
def EQ (P:Program) (ih:RT->Option RR) (p q:Nat) (body:Code) (s:RS) (r:RCk):Option RH:=
 bif YS r&&(Nat.blt p s.n&&rall (rround P ih p q body s r) (oK r) (oK r) (NE s.h r))then rseq (rround P ih p q body s r) (List.range (oK r)) (NE s.h r)else none
theorem KM {P:Program} (hm:P.follows .mixedOrders=true) {ih:RT->Option RR} (hih:RIH P ih) {p q:Nat} {body:Code} {s:RS} {r:RCk} {H H':RH} {k:Nat} (h:rround P ih p q body s r H k=some H') :
  Fr' H H'/\∃s2:RS,s2.h=H'/\qP1 P body ⟨s.n,(s.sl.set p (gC r k)).set q (gC r k),H⟩ s2:=by
 unfold rround at h;split at h
 ·rename_i s2 h2
  injection h with h;obtain⟨f,hin⟩:=qIX hm hih h2;subst h;exact⟨f,s2,rfl,hin⟩
 ·cases h
theorem ZD {P:Program} (hm:P.follows .mixedOrders=true) {ih:RT->Option RR} (hih:RIH P ih) {p q:Nat} {body:Code} {s:RS} {r:RCk}:∀(l:List Nat) (H H':RH),rseq (rround P ih p q body s r) l H=some H'->Fr' H H'
 | [],H,H',h=>by injection h with h;subst h;exact Fr'.refl _
 |k::l,H,H',h=>by
  simp only[rseq]at h;split at h
  ·rename_i H1 h1
   exact(KM hm hih h1).1.trans (ZD hm hih l H1 H' h)
  ·cases h
theorem qD6 {P:Program} (hm:P.follows .mixedOrders=true) {ih:RT->Option RR} (hih:RIH P ih) {p q:Nat} {body:Code} {s:RS} {r:RCk} {H2:RH} (h:EQ P ih p q body s r=some H2):Fr' s.h H2:=by
 unfold EQ at h;cases hok:(YS r&&(Nat.blt p s.n&&rall (rround P ih p q body s r) (oK r) (oK r) (NE s.h r)))with
 |false=>rw[hok]at h;cases h
 |true=>
  rw[hok]at h;exact(qMC s.h r).trans (ZD hm hih _ _ _ h)
theorem qD7 {P:Program} (hm:P.follows .mixedOrders=true) {ih:RT->Option RR} (hih:RIH P ih) {r:RCk} (It:mY P r.gf r.es) (eg:∀(args:Array Value) (w:World),(callFunc r.gf args).run P w = .ok (.enter r.gf args) w)
  {gt p q bid bid2 id11:Nat} {ty11:TypeId} {pos11:String} {body:Code} {s:RS} {g:V} (hg:rat s.n s.sl gt=some g) {C:FuncId->Nat} (hh:NF C s.h g=some r) {H2:RH} (hrun:EQ P ih p q body s r=some H2) {ι:Iota} {a:Act} {w:World} (sr:SR s.den ι a w) {Qw:Exit->Act->World->Prop}
  (hq:∀(D0:Nat) (ι':Iota) (w':World),w.heap.size<=D0->w'.heap[D0]? =some (.deferred (some []))->SR ⟨s.slots,H2.den⟩ ι' ⟨a.tmps,[]⟩ w'->Evolve s.h.den ι w H2.den ι' w'->Qw .normal ⟨a.tmps,[{target:=.collected D0,args:=#[]}]⟩ w') :
  (Code.block bid (.rangeFunc (.tmp gt) #[p] (.region id11 #[{dst:=some q,op:=.assign (.tmp p),type:=ty11,pos:=pos11,after:=#[],guard:=none}] false) (.block bid2 body))).wp P Qw a w:=by
 unfold EQ at hrun;cases hok:(YS r&&(Nat.blt p s.n&&rall (rround P ih p q body s r) (oK r) (oK r) (NE s.h r)))with
 |false=>rw[hok]at hrun;cases hrun
 |true=>
 rw[hok]at hrun;simp only[cond_true]at hrun;obtain⟨hok,hp2⟩:=Bool.and_eq_true_iff.1 hok;obtain⟨hp,hall⟩:=Bool.and_eq_true_iff.1 hp2;have hp:p<s.n:=Nat.le_of_ble_eq_true hp;unfold YS at hok;obtain⟨k1,k2⟩:=Bool.and_eq_true_iff.1 hok;obtain⟨k3,k4⟩:=Bool.and_eq_true_iff.1 k2;obtain⟨k5,k6⟩:=Bool.and_eq_true_iff.1 k4;have n12:r.i1≠r.i2:=fun e=>by rw[e,Tr.beq_yes]at k1;cases k1
 have hlen:=Nat.le_of_ble_eq_true k3;have hB1:=Nat.le_of_ble_eq_true k5;have hB2:=Nat.le_of_ble_eq_true k6;generalize hK:oK r=K at *;have st1:∀k,r.B*(k+1)=r.B*k+r.B:=fun k=>Nat.mul_succ _ _
 have st2:∀k,k<K->r.B*k<r.len:=by
  intro k hk;rw[<-hK,oK,Nat.lt_div_iff_mul_lt (by omega)]at hk;rw[Nat.mul_comm];omega
 have st3:r.len<=r.B*K:=by
  rw[<-hK,oK];have h1:=Nat.div_add_mod (r.len+r.B-1) r.B;have h2:=Nat.mod_lt (r.len+r.B-1) (show r.B>0 by omega);omega
 obtain⟨o1,o2,e1,ho1,ho2,r1,r2,hy⟩:∃o1 o2,g = .fn (.func r.gf) [] [.pO r.i1 0 0,.pO r.i2 0 0]/\s.h.get r.i1=some (.live o1)/\s.h.get r.i2=some (.live o2)/\o1.rows= [[r.y]]/\o2.rows= [[.v (.int .i64 (r.B:Nat))]] /\
   ((r.y = .v (.slice none 0 0)/\r.len=0)\/∃j off o,r.y = .sO j off r.len/\s.h.get j=some (.live o)/\o.sz=r.es):=by
  unfold NF at hh;split at hh
  ·split at hh
   ·rename_i gf i1 i2 _ _ o1 o2 h1 h2
    split at hh
    ·rename_i y B q1 q2
     split at hh
     ·injection hh with hh;subst hh
      exact⟨o1,o2,rfl,h1,h2,q1,q2,.inl ⟨rfl,rfl⟩⟩
     ·rename_i j off len
      split at hh
      ·rename_i o ho
       cases hj:(!Nat.beq j i1&&(!Nat.beq j i2&&Nat.beq o.sz (C gf)))with
       |false=>rw[hj]at hh;cases hh
       |true=>
        rw[hj]at hh;injection hh with hh;subst hh;exact⟨o1,o2,rfl,h1,h2,q1,q2,.inr ⟨j,off,o,rfl,ho,Nat.eq_of_beq_eq_true (Bool.and_eq_true_iff.1 (Bool.and_eq_true_iff.1 hj).2).2⟩⟩
      ·cases hh
     ·cases hh
    ·cases hh
   ·cases hh
  ·cases hh
 subst e1;have H:=sr.heap;have d1:s.h.den[r.i1]? =some (.live o1):=by rw[bP];exact ho1
 have d2:s.h.den[r.i2]? =some (.live o2):=by rw[bP];exact ho2
 obtain⟨L1,c1,fr1,hL1,la1⟩:=H.live r.i1 o1 d1;obtain⟨L2,c2,fr2,hL2,la2⟩:=H.live r.i2 o2 d2;obtain⟨Hk1,ek1⟩:=qNM H r.i1;obtain⟨Hk2,ek2⟩:=qNM Hk1 r.i2;have evk:=ek1.trans ek2;have hkd:=RG s.h r;have Hk2:HRel (NE s.h r).den ι w:=by rw[hkd];exact Hk2
 have evk:Evolve s.h.den ι w (NE s.h r).den ι w:=by rw[hkd];exact evk
 generalize hH1:NE s.h r=H1 at hrun hall Hk2 evk;have sr1:SR ⟨s.slots,H1.den⟩ ι a w:=⟨sr.defers,sr.slots.mono evk,Hk2⟩
 have old:∀(id:Nat) (o:AObj),H1.den[id]? =some (.live o)->s.h.den[id]? =some (.live o)/\id≠r.i1/\id≠r.i2:=by
  intro id o z;rw[<-hH1,hkd]at z;have one:∀(h:Heap) (k:Nat),(h.set k .dead)[id]? =some (.live o)->id≠k/\h[id]? =some (.live o):=by
   intro h k z;by_cases e:k=id
   ·subst e
    rw[List.getElem?_set]at z;simp only[if_pos]at z;split at z<;>cases z
   ·rw[List.getElem?_set_ne e]at z
    exact⟨Ne.symm e,z⟩
  obtain⟨z1,z2⟩:=one _ _ z;obtain⟨z3,z4⟩:=one _ _ z2;exact⟨z4,z3,z1⟩
 have nob:∀(k:Nat) (o:AObj) (L:Loc),(k=r.i1\/k=r.i2)->s.h.den[k]? =some (.live o)->ι k=some L->¬Ob H1.den ι L.blk:=by
  rintro k o L hk ho hl ⟨id,o',L',z1,z2,z3⟩;obtain⟨z4,m1,m2⟩:=old id o' z1;have:=H.apart _ _ _ _ _ _ z4 z2 ho hl z3;subst this;rcases hk with z|z
  ·exact m1 z
  ·exact m2 z
 have hn1:=nob r.i1 o1 L1 (.inl rfl) d1 hL1;have hn2:=nob r.i2 o2 L2 (.inr rfl) d2 hL2;obtain⟨x1,hx1,rx1⟩:=la1.reads 0 (by simp [r1]) 0 (by simp [r1]);obtain⟨x2,hx2,rx2⟩:=la2.reads 0 (by simp [r2]) 0 (by simp [r2]);have rx1:Rep w ι (Mt s.den.h ι) r.y x1:=by simpa [r1]using rx1
 have rx1:Rep w ι (Mt s.h.den ι) r.y x1:=rx1;have rx2:Rep w ι (Mt s.den.h ι) (.v (.int .i64 (r.B:Nat))) x2:=by simpa [r2]using rx2
 cases rx2;have hb1:L1.blk<w.heap.size:=(Array.getElem?_eq_some_iff.1 la1.blk).1;have hb2:L2.blk<w.heap.size:=(Array.getElem?_eq_some_iff.1 la2.blk).1;have hc1:w.cell? ⟨L1.blk,L1.base+0*L1.sz+0,none⟩=some x1:=by
  simp only[World.cell?,la1.blk];rw[<-hx1];simp
 have hc2:w.cell? ⟨L2.blk,L2.base+0*L2.sz+0,none⟩=some (.int .i64 (r.B:Nat)):=by
  simp only[World.cell?,la2.blk];rw[<-hx2];simp
 obtain⟨y,y1,y2⟩:=sr.slots.2 gt _ (by show s.slots[gt]? =_;rw[jB];exact hg);have hev0:a.eval (.tmp gt)=y:=by
  simp only[Act.eval];have hlt:=(Array.getElem?_eq_some_iff.1 y1).1;rw[Array.getElem?_eq_getElem hlt]at y1;injection y1 with y1;simp [Array.getD,hlt,y1]
 have hfun:y = .func (.func r.gf) #[] #[.pointer (some ⟨L1.blk,L1.base+0*L1.sz+0,none⟩),.pointer (some ⟨L2.blk,L2.base+0*L2.sz+0,none⟩)]:=by
  cases y2 with
  |fn _ _ _ vs us q1 q2 q3 q4=>
   have hvs:vs = #[]:=Array.eq_empty_of_size_eq_zero q1.symm;have hus:us.size=2:=q2.symm;have u0:Rep w ι (Mt s.h.den ι) (.pO r.i1 0 0) us[0]:=q4 0 (by simp) (by omega);have u1:Rep w ι (Mt s.h.den ι) (.pO r.i2 0 0) us[1]:=q4 1 (by simp) (by omega);have v0:us[0] = .pointer (some ⟨L1.blk,L1.base+0*L1.sz+0,none⟩):=by
    generalize us[0]=z at u0;cases u0 with|pO _ _ _ l hl=>rw[hL1]at hl;injection hl with hl;subst hl;rfl
   have v1:us[1] = .pointer (some ⟨L2.blk,L2.base+0*L2.sz+0,none⟩):=by
    generalize us[1]=z at u1;cases u1 with|pO _ _ _ l hl=>rw[hL2]at hl;injection hl with hl;subst hl;rfl
   rw[hvs];congr 1
   refine Array.ext (by rw[hus];rfl) (fun i h1 h2=>?_);match i,h1 with
   |0,_=>exact v0
   |1,_=>exact v1
   |i+2,h1=>rw[hus]at h1;omega
 have hev:=hev0.trans hfun;obtain⟨bg,og,cap,hsv,hpart⟩:∃(bg og cap:Nat),((x1 = .slice none 0 0/\r.len=0)\/(x1 = .slice (some ⟨bg,og,none⟩) r.len cap/\r.len<=cap))/\(∀k,k<K->Rep w ι (Mt s.h.den ι) (gC r k) (ckK bg og r.len r.es r.B (fun k=>r.B*k) k)):=by
  rcases hy with⟨z1,z2⟩|⟨j,off,o,z1,ho,hes⟩
  ·rw[z1]at rx1
   cases rx1;exact⟨0,0,0,.inl ⟨rfl,z2⟩,fun k hk=>by have:=st2 k hk;omega⟩
  ·obtain⟨Lj,cj,frj,hLj,laj⟩:=H.live j o (show s.h.den[j]? =_ by rw[bP];exact ho)
   have rx:=rx1;rw[z1]at rx;cases rx with
   |sO _ _ _ cap l c e fr hl hcap hb hs=>
    refine⟨l.blk,l.base+off*l.sz,cap,.inr ⟨rfl,hcap⟩,fun k hk=>?_⟩;have hk:=st2 k hk;rw[gC,z1];simp only[ckK];rw[hLj]at hl;injection hl with hl;subst hl;exact qIH hLj (laj.sz.trans hes) (.sO j off r.len cap Lj c e fr hLj hcap hb hs) (by omega)
 have hdef:a.defers= []:=sr.defers;have hact:a=⟨a.tmps,[]⟩:=by cases a;simp at hdef;subst hdef;rfl
 have hpa:p<a.tmps.size:=by
  have:=sr.slots.1;simp only[RS.den,RS.slots,List.length_map,List.length_range]at this;omega
 let R:=rround P ih p q body s r
 let I:List (CkK K)->World->Prop:=fun pre X=>pre.length<=K/\∃Hc,rseq R (pre.map (·.1)) H1=some Hc/\rall R K (K-pre.length) Hc=true/\∃ι',SR ⟨s.slots,Hc.den⟩ ι' ⟨a.tmps,[]⟩ X/\Evolve H1.den ι w Hc.den ι' X
 refine(wpIn_wide (n:=3)).1 ?_;refine wpIn_block ?_;refine wpIn_rangeFunc_ownF rfl (by omega) (gf:=r.gf) (lb:=#[.pointer (some ⟨L1.blk,L1.base+0*L1.sz+0,none⟩),.pointer (some ⟨L2.blk,L2.base+0*L2.sz+0,none⟩)]) hev trivial eg
  (It.stops (3-1) L1.blk (L1.base+0*L1.sz+0) L2.blk (L2.base+0*L2.sz+0) bg og r.len cap r.B K (fun k=>r.B*k) x1 w hsv hlen hB1 hB2 (Nat.mul_zero _) st1 st2 st3 hb1 hb2 hc1 hc2) (fun h k=>⟨k.1.trans h.1,k.2.trans h.2⟩)
  (fun X l o o' hle ho hcell _=>⟨dV (World.putObj_heap_other (by simp only;omega)),dV (World.putObj_heap_other (by simp only;omega))⟩) (RowKit.Below.refl _ _) (fun _=>rfl)
  I (fun _ _ _=>False) ?own (fun _ _ _ _ _ q _ _=>q) ⟨Nat.zero_le _,H1,rfl,hall,ι,hact ▸ sr1,Evolve.refl _ _ _⟩
  (fun x=>⟨(a.tmps.setIfInBounds p (ckK bg og r.len r.es r.B (fun k=>r.B*k) x.1)).setIfInBounds q (ckK bg og r.len r.es r.B (fun k=>r.B*k) x.1),[]⟩) ?assign ?body ?done ?stop
 case own=>
  rintro pre X Y row ⟨hpl,Hc,z1,z2,ι',q1,q2⟩ hg hr;have hc:=Calm.grown hg (fun r e=>(hr r e).2);exact⟨hpl,Hc,z1,z2,ι',q1.calm hc,q2.calmI hc (fun b hb=>hg.block b (Nat.lt_of_lt_of_le hb q2.size) (fun e=>by have:=(hr b e.symm).1;omega))⟩
 case assign=>
  intro l x X K' hK';have hz:(#[p].zip #[ckK bg og r.len r.es r.B (fun k=>r.B*k) x.1]).foldl (fun t (p,v)=>t.setIfInBounds p v) a.tmps=a.tmps.setIfInBounds p (ckK bg og r.len r.es r.B (fun k=>r.B*k) x.1):=by simp
  rw[hz];exact GT hpa hK'
 case stop=>
  intro D0 c pre X _ _ hF _;exact hF.elim
 case done=>
  rintro D0 xs X hD0 hl ⟨_,Hc,z1,_,ι',q1,q2⟩ hdf;simp only[Exit.inBlock];rw[hdef];rw[hl]at z1;have e:Hc=H2:=Option.some.inj (z1.symm.trans hrun);subst e;exact hq D0 ι' X hD0 hdf q1 (evk.trans q2)
 case body=>
  rintro l pre x X ⟨hpl,Hc,z1,z2,ι',q1,q2⟩ hpre;refine wpIn_block ?_;obtain⟨d,hd⟩:∃d,K-pre.length=d+1:=⟨K-pre.length-1,by omega⟩
  rw[hd]at z2;simp only[rall]at z2;have z3:=List.all_eq_true.1 z2 x.1 (List.mem_range.2 x.2);split at z3;rotate_left
  ·cases z3
  rename_i Hn hrn;obtain⟨_,s2,hs2,hin⟩:=KM hm hih hrn;have hrep:Rep X ι' (Mt Hc.den ι') (gC r x.1) (ckK bg og r.len r.es r.B (fun k=>r.B*k) x.1):=((hpart x.1 x.2).mono evk).mono q2;have sr2:=q1.slots.sets p hrep;have sr2:=SRel.sets sr2 q hrep;have e1:(⟨s.n,(s.sl.set p (gC r x.1)).set q (gC r x.1),Hc⟩:RS).slots=(s.slots.set p (gC r x.1)).set q (gC r x.1):=by
   have h1:=gV s (some p) (gC r x.1) Hc;have h2:=gV ⟨s.n,s.sl.set p (gC r x.1),Hc⟩ (some q) (gC r x.1) Hc;exact h2.trans (congrArg (fun l:List V=>l.set q (gC r x.1)) h1)
  refine wpIn_mono (hin l _ ι' _ X ⟨rfl,by rw[RS.den,e1];exact sr2,q1.heap⟩) ?_;rintro e a3 X3 ⟨st,ι3,⟨rfl,rfl⟩,r3,e3⟩;have e3:Evolve Hc.den ι' X s2.h.den ι3 X3:=e3;have m1:=q2.frame L1.blk hb1 hn1;have m2:=q2.frame L2.blk hb2 hn2;refine⟨e3.keepsO q1.heap,⟨dV (e3.frame L1.blk (Nat.lt_of_lt_of_le hb1 q2.size) m1.2).1,dV (e3.frame L2.blk (Nat.lt_of_lt_of_le hb2 q2.size) m2.2).1⟩,?_,Hn,?_,?_,ι3,?_,?_⟩
  ·simp only[List.length_append,List.length_cons,List.length_nil];omega
  ·rw[List.map_append];exact(RZ _ _ _ _ z1).trans hrn
  ·have:K-(pre++ [x]).length=d:=by simp only[List.length_append,List.length_cons,List.length_nil];omega
   rw[this];exact z3
  ·rw[<-hs2];exact⟨rfl,q1.slots.mono e3,r3.heap⟩
  ·rw[<-hs2];exact q2.trans e3
structure LoopP where
 bid:Nat
 gt:Nat
 p:Nat
 q:Nat
 id11:Nat
 ty:TypeId
 pos:String
 bid2:Nat
 body:Code
def LoopP.code (L:LoopP):Code:=.block L.bid (.rangeFunc (.tmp L.gt) #[L.p] (.region L.id11 #[{dst:=some L.q,op:=.assign (.tmp L.p),type:=L.ty,pos:=L.pos,after:=#[],guard:=none}] false) (.block L.bid2 L.body))
def UR:Code->Option LoopP
 | .block bid (.rangeFunc (.tmp gt) ⟨[p]⟩ (.region id11 ⟨[o]⟩ false) (.block bid2 body))=>match o with
   | {dst:=some q,op:=.assign (.tmp p'),type:=ty,pos:=pos,after:=⟨[]⟩,guard:=none}=>bif Nat.beq p' p then some ⟨bid,gt,p,q,id11,ty,pos,bid2,body⟩else none
   |_=>none
 |_=>none
theorem qDM {c:Code} {L:LoopP} (h:UR c=some L):c=L.code:=by
 unfold UR at h;split at h
 ·split at h
  ·rename_i _ _ p _ _ _ _ _ p' _ _
   cases q:Nat.beq p' p with
   |false=>rw[q]at h;cases h
   |true=>
    rw[q]at h;injection h with h;subst h;have q:=Nat.eq_of_beq_eq_true q;subst q;rfl
  ·cases h
 ·cases h
def VC (a b:Code):Option (Code×LoopP×Nat×Array Oper):=match a,b with
 | .seq a6 lp,.seq (.region id ops false) .ret=>match UR lp with
   |some L=>some (a6,L,id,ops)
   |none=>none
 |_,_=>none
theorem qDU {a b a6:Code} {L:LoopP} {id:Nat} {ops:Array Oper} (h:VC a b=some (a6,L,id,ops)):a = .seq a6 L.code/\b = .seq (.region id ops false) .ret:=by
 unfold VC at h;split at h
 ·split at h
  ·rename_i hl
   injection h with h;injection h with h1 h;injection h with h2 h;injection h with h3 h4;subst h1 h2 h3 h4;rw[qDM hl];exact⟨rfl,rfl⟩
  ·cases h
 ·cases h
def rtail (P:Program) (C:FuncId->Nat) (ih:RT->Option RR) (rs:List ResultVar):Nat->Code->RS->Option (V×RH)
 |0,_,_=>none
 |n+1,c,s=>match c with
  | .seq a b=>match VC a b with
    |some (a6,L,id13,ops13)=>(match ih (.code a6 s)with
     |some (.code .normal s1)=>(match rat s1.n s1.sl L.gt with
      |some g=>(match NF C s1.h g with
       |some r=>bif !Nat.beq (C r.gf) 0&&Nat.beq (C r.gf) r.es then(match EQ P ih L.p L.q L.body s1 r with
        |some H2=>(match ih (.ops ops13 ops13.toList ⟨s1.n,s1.sl,H2⟩)with
         |some (.code .normal s3)=>(match rares P rs s3 with
          |some x=>some (x,s3.h)
          |none=>none)
         |_=>none)
        |none=>none)else none
       |none=>none)
      |none=>none)
     |_=>none)
    |none=>(match ih (.code a s)with
     |some (.code .normal s1)=>rtail P C ih rs n b s1
     |some (.code .ret s1)=>(match rares P rs s1 with
      |some x=>some (x,s1.h)
      |none=>none)
     |_=>none)
  |_=>none
def RFin (P:Program) (h0:Heap) (ι0:Iota) (w0:World) (x:V) (k:Heap):Ending->World->Prop:=fun e w'=>∃y z h' ι',e = .returned y/\(z=x/\h'=k)/\Rep w' ι' (Mt h' ι') z y/\HRel h' ι' w'/\Evolve h0 ι0 w0 h' ι' w'
theorem SC {P:Program} (hm:P.follows .mixedOrders=true) {C:FuncId->Nat} {ih:RT->Option RR} (hih:RIH P ih) (hC:∀g,C g≠0->mY P g (C g)/\callable P g=true) {fn:Func}:∀(n:Nat) (c:Code) (s:RS) (x:V) (H':RH),rtail P C ih fn.results.toList n c s=some (x,H') ->
  Fr' s.h H'/\∀(h0:Heap) (ι0:Iota) (w0:World) (ι:Iota) (a:Act) (w:World),SR s.den ι a w->Evolve h0 ι0 w0 s.h.den ι w->c.wp P (bodyPostM Fence.wide 3 P fn (RFin P h0 ι0 w0 x H'.den)) a w
 |0,_,_,_,_,h=>by cases h
 |n+1,c,s,x,H',h=>by
  have ret:∀ {s1:RS} {y:V},rares P fn.results.toList s1=some y->∀(h0:Heap) (ι0:Iota) (w0:World) (ι:Iota) (a:Act) (w:World),SR s1.den ι a w->Evolve h0 ι0 w0 s1.h.den ι w->bodyPostM Fence.wide 3 P fn (RFin P h0 ι0 w0 y s1.h.den) .ret a w:=by
   intro s1 y hy h0 ι0 w0 ι a w r ev;obtain⟨v,v1,v2⟩:=qK r (EO hy);show LeavesInM Fence.wide 3 P fn a.tmps _ a.defers .returning w;rw[r.defers];exact⟨v,v1,v,y,s1.h.den,ι,rfl,⟨rfl,rfl⟩,v2,r.heap,ev⟩
  cases c with
  |seq a b=>
   simp only[rtail]at h;split at h
   ·rename_i a6 L id13 ops13 hlo
    obtain⟨ea,eb⟩:=qDU hlo;subst ea eb;split at h
    ·rename_i s1 h1
     split at h
     ·rename_i g hg
      split at h
      ·rename_i r hr
       cases hcg:(!Nat.beq (C r.gf) 0&&Nat.beq (C r.gf) r.es)with
       |false=>rw[hcg]at h;cases h
       |true=>
        rw[hcg]at h;simp only[cond_true]at h;obtain⟨c1,c2⟩:=Bool.and_eq_true_iff.1 hcg;obtain⟨It,hcb⟩:=hC r.gf (fun z=>by rw[z]at c1;cases c1);rw[Nat.eq_of_beq_eq_true c2]at It;split at h
        ·rename_i H2 hrun
         split at h
         ·rename_i s3 h3
          split at h
          ·rename_i y hy
           injection h with h;injection h with e1 e2;subst e1 e2;obtain⟨p1,f1⟩:=hih _ _ h1;obtain⟨_,f3,p3⟩:=hih _ _ h3;have f2:Fr' s1.h H2:=qD6 hm hih hrun;refine⟨(f1.trans f2).trans f3,fun h0 ι0 w0 ι a w sr ev=>?_⟩;refine wp_seq ?_;refine wp_seq ?_;refine wp_mono (p1 ι a w sr) ?_;rintro e a1 w1 ⟨st,ι1,⟨he,hst⟩,r1,e1⟩;subst he hst;have ev1:=ev.trans e1;refine qD7 hm hih It (pR hcb) hg hr hrun r1 ?_;intro D0 ι7 w7 hD0 hdf r7 e7;have ev7:=ev1.trans e7;show(Code.seq (.region id13 ops13 false) .ret).wp P _ ⟨a1.tmps,[{target:=.collected D0,args:=#[]}]⟩ w7;refine wp_seq ?_;refine wp_region ?_;have hr2:List.range ops13.size=List.range' 0 ops13.toList.length:=by rw[List.range_eq_range'];simp
           rw[hr2];have wo:=pZ (P:=P) [{target:=.collected D0,args:=#[]}] qHP _ a1.tmps [] w7 (p3 0 (fun j o hj=>by simpa using hj) ι7 ⟨a1.tmps,[]⟩ w7 r7);refine fC ?_ _ _ _ wo;rintro e a8 w8 ⟨ds,hds,st,ι8,⟨he,hst⟩,r8,ev8⟩;subst he hst;have hds0:ds= []:=r8.defers;subst hds0;simp only[List.nil_append]at hds;show Code.wp P .ret _ a8 w8;refine wp_ret ?_;show LeavesInM Fence.wide 3 P fn a8.tmps _ a8.defers .returning w8;rw[hds];have ev8:Evolve H2.den ι7 w7 s3.h.den ι8 w8:=ev8;have hdf8:w8.heap[D0]? =some (.deferred (some [])):=(ev8.keepsO r7.heap).same D0 _ hdf rfl;refine⟨by simp,.inl ⟨D0,_,rfl,run_takeDeferred hdf8,?_⟩⟩;have hg2:=grownBy_putObj' w8 D0 (.deferred none);have hcalm:=Calm.grown hg2 (fun r e=>by cases e;exact⟨_,hdf8,rfl⟩);have r9:=r8.calm hcalm;have hsz:w0.heap.size<=w1.heap.size:=ev1.size;have e9:=(ev7.trans ev8).calmI hcalm (fun b hb=>hg2.block b (Nat.lt_of_lt_of_le hb (ev7.trans ev8).size) (fun q=>by injection q with q;omega));obtain⟨v,v1,v2⟩:=qK (s:=s3.den) r9 (EO hy);exact⟨v,v1,v,y,s3.h.den,ι8,rfl,⟨rfl,rfl⟩,v2,r9.heap,e9⟩
          ·cases h
         ·cases h
        ·cases h
      ·cases h
     ·cases h
    ·cases h
   ·split at h
    ·rename_i s1 h1
     obtain⟨p1,f1⟩:=hih _ _ h1;obtain⟨f2,p2⟩:=SC hm hih hC n b s1 x H' h;refine⟨f1.trans f2,fun h0 ι0 w0 ι a w sr ev=>wp_seq (wp_mono (p1 ι a w sr) ?_)⟩;rintro e a1 w1 ⟨st,ι1,⟨he,hst⟩,r1,e1⟩;subst he hst;exact p2 h0 ι0 w0 ι1 a1 w1 r1 (ev.trans e1)
    ·rename_i s1 h1
     split at h
     ·rename_i y hy
      injection h with h;injection h with e1 e2;subst e1 e2;obtain⟨p1,f1⟩:=hih _ _ h1;refine⟨f1,fun h0 ι0 w0 ι a w sr ev=>wp_seq (wp_mono (p1 ι a w sr) ?_)⟩;rintro e a1 w1 ⟨st,ι1,⟨he,hst⟩,r1,e1⟩;subst he hst;exact ret hy h0 ι0 w0 ι1 a1 w1 r1 (ev.trans e1)
     ·cases h
    ·cases h
  |_=>cases h
theorem WD {P:Program} (hm:P.follows .mixedOrders=true) {C:FuncId->Nat} {ih:RT->Option RR} (hih:RIH P ih) (hC:∀g,C g≠0->mY P g (C g)/\callable P g=true) {f:FuncId} {fn:Func} {c:Code} (hf:P.funcs[f]? =some fn) (hb:fn.body=some c) {args:List V} {H H':RH} {x:V} {n:Nat}
  (h:rtail P C ih fn.results.toList n c (rstart fn.ntmps args H)=some (x,H')):PC P f args H.den (fun y k=>y=x/\k=H'.den)/\Fr' H H':=by
 obtain⟨fr,hw⟩:=SC hm hih hC n c _ x H' h;refine⟨?_,fr⟩;intro ι w vs hp2 hh;have hl:=hp2.1;refine callsIn_wide.1 (callsIn_of_wp_marks (F:=Fence.wide) (n:=3) hf hb trivial (wpIn_wide.2 ?_));have r0:SR (rstart fn.ntmps args H).den ι ⟨vs++Array.replicate (fn.ntmps-vs.size) undef,[]⟩ w:=by
  unfold RS.den;rw[wD];refine⟨rfl,⟨by simp [<-hl],fun i z hz=>?_⟩,hh⟩;by_cases h1:i<args.length
  ·rw[List.getElem?_append_left h1]at hz
   obtain⟨u,u1,u2⟩:=hp2.2 i z hz;exact⟨u,by rw[Array.getElem?_append_left (by omega)];exact u1,u2⟩
  ·rw[List.getElem?_append_right (by omega),List.getElem?_replicate]at hz
   split at hz
   ·rename_i h2
    injection hz with hz;subst hz;refine⟨undef,?_,.v _⟩;rw[Array.getElem?_append_right (by omega),Array.getElem?_replicate,if_pos (by omega)]
   ·cases hz
 exact hw H.den ι w ι _ w r0 (Evolve.refl _ _ _)
end
end Go.Abs
