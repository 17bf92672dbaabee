/- A region inside a round of a range over a function. -/
import Derived.Test.YtmlojnecmdnbpaaGreatDoorAbsBd
import Derived.RangeFuncNested
import Derived.RangeFuncCalls
import Derived.ControlIn
namespace Go.Abs
set_option linter.unusedVariables false

theorem rowsIn_wide {n : Nat} {P : Program} {row : String} {args : Array Value} {w : World} {R : Value → World → Prop} (h : Rows P row args w R) : RowsIn Fence.wide n P row args w R :=
  fun c cs _ => let ⟨v, w', r, s⟩ := h c cs; ⟨v, w', r, stepsIn_wide.2 s⟩
theorem wpOps_inRound {P : Program} {ops : Array Oper} {Q : Exit → Act → World → Prop} (lr n : Nat) (hd : ∀ (i : Nat) (o : Oper), ops[i]? = some o → ∀ c, o.op ≠ .defer c) (hQ : ¬ LetsOut Q) :
    ∀ (l : List Nat) (a : Act) (w : World), wpOps P ops Q l a w → wpOpsIn (Fence.wide.inRound lr) n P ops Q l a w
  | [], _, _, h => h
  | i :: rest, a, w, h => by
    have ih := wpOps_inRound (P := P) lr n hd hQ rest
    simp only [wpOps] at h
    simp only [wpOpsIn]
    cases ho : ops[i]? with
    | none => simp only [ho] at h; exact ih _ _ h
    | some o =>
      simp only [ho] at h
      by_cases hw : Region.wanted o (yielded ops a.tmps) = true
      · simp only [hw, if_true] at h ⊢
        rcases h with h | ⟨_, h⟩
        · unfold Oper.wp at h
          unfold Oper.wpIn
          refine ⟨fun _ _ => trivial, ?_⟩
          rw [Oper.semAt_eq _ _ _ (hd i o ho)]
          generalize (execOp a.eval o).run P w = r at h ⊢
          cases r with
          | ok x w' =>
            cases x with
            | value v => exact ih _ _ h
            | skip => exact ih _ _ h
            | defer d => exact ih _ _ h
            | enter f args =>
              refine ⟨(by intro q; cases q), CallsIn.inRound lr (callsIn_wide.2 (Calls.mono h ?_))⟩
              intro e w'' he
              cases e with
              | returned v => exact ih _ _ he
              | panicked c => exact he
              | outgrown => exact he
            | row rw' args =>
              refine ⟨(by intro q; cases q), ?_⟩
              exact RowsIn.mono (F := Fence.wide.inRound lr) (rowsIn_wide h) fun v w'' he => ih _ _ he
            | _ => exact h.elim
          | halt x w' => cases x <;> exact h
        · exact (hQ h).elim
      · simp only [hw] at h ⊢
        exact ⟨fun _ _ => trivial, ih _ _ h⟩

/-- No operation is a defer statement. -/
def calmOps (ops : Array Oper) : Bool := ops.toList.all fun o => match o.op with
  | .defer _ => false
  | _ => true
theorem calmOps_ok {ops : Array Oper} (h : calmOps ops = true) : ∀ (i : Nat) (o : Oper), ops[i]? = some o → ∀ c, o.op ≠ .defer c := by
  intro i o ho c hc
  have hi : i < ops.size := (Array.getElem?_eq_some_iff.1 ho).1
  have := List.all_eq_true.1 h o (by rw [← Array.getElem?_toList] at ho; exact get_mem ho)
  rw [hc] at this
  cases this

theorem xdraw_in {E : Env} (hT : TblOk E.P E.T) (hM : E.P.follows .mixedOrders = true) {id : Nat} {ops : Array Oper} {s : Y} {K : Y → Prop} (hc : calmOps ops = true) (h : xdraw E id ops s K) (lr n : Nat) :
    ∀ (ι : Iota) (a : Act) (w : World), SR s.den ι a w → (Code.region id ops true).wpIn (Fence.wide.inRound lr) n E.P (PostN E.n0 s.den ι w (fun e st => e = .normal ∧ ∃ s', st = s'.den ∧ K s' ∧ FrW (wrOps ops.toList) s s')) a w :=
  xdraw_gen hT hM h (fun Q a w => (Code.region id ops true).wpIn (Fence.wide.inRound lr) n E.P Q a w) (fun q hq => wpIn_mono q hq) (fun hq q => wpIn_region_draw fun t => wpOps_inRound lr n (calmOps_ok hc) hq _ _ _ (q t))

/- worlds that differ in blocks that are no cells -/
structure Calm (w w' : World) : Prop where
  os : w'.os = w.os
  tape : w'.tape = w.tape
  output : w'.output = w.output
  size : w.heap.size ≤ w'.heap.size
  cells : ∀ (b : Nat) (c : Array Value) (e : TypeId) (fr : Nat × Nat), w.heap[b]? = some (.cells c e fr) → w'.heap[b]? = some (.cells c e fr)
theorem Calm.cell {w w' : World} (h : Calm w w') {b o : Nat} {v : Value} (hc : w.cell? ⟨b, o, none⟩ = some v) : w'.cell? ⟨b, o, none⟩ = some v := by
  unfold World.cell? at hc ⊢
  split at hc
  · rename_i c e fr hb
    simp only [h.cells _ _ _ _ hb]; exact hc
  · cases hc
theorem Rep.calm {w w' : World} {ι : Iota} {M : Nat → Prop} (h : Calm w w') {x : V} {y : Value} (r : Rep w ι M x y) : Rep w' ι M x y := by
  induction r with
  | v x => exact .v x
  | any x => exact .any x
  | pF row off b o cells hb hm hc _ ih => exact .pF row off b o cells (Nat.lt_of_lt_of_le hb h.size) hm (fun j hj => h.cell (hc j hj)) ih
  | pO id row off l hl => exact .pO id row off l hl
  | sF sz rows a cap cells hb hcap hr hc _ ih =>
    refine .sF sz rows a cap cells (fun hne => ?_) hcap hr (fun i hi j hj => h.cell (hc i hi j hj)) ih
    obtain ⟨hs, hb, hm⟩ := hb hne
    exact ⟨hs, Nat.lt_of_lt_of_le hb h.size, hm⟩
  | sN sz => exact .sN sz
  | sO id off len cap l c e fr hl hcap hb hs => exact .sO id off len cap l c e fr hl hcap (h.cells _ _ _ _ hb) hs
  | agg xs vs hl _ ih => exact .agg xs vs hl ih
  | tup xs vs hl _ ih => exact .tup xs vs hl ih
  | fn f first caps vs us h1 h2 _ _ ih1 ih2 => exact .fn f first caps vs us h1 h2 ih1 ih2
  | ifc t x y _ ih => exact .ifc t x y ih
  | sL t l y _ ih => exact .sL t l y ih
  | oL id n y _ ih => exact .oL id n y ih
theorem HRel.calm {h : Heap} {ι : Iota} {w w' : World} (H : HRel h ι w) (hc : Calm w w') : HRel h ι w' :=
  ⟨fun id o ho => let ⟨l, c, fr, q1, la⟩ := H.live id o ho; ⟨l, c, fr, q1, ⟨hc.cells _ _ _ _ la.blk, la.unfrozen, la.sz, la.rows, la.fits, fun i hi j hj => let ⟨y, g1, g2⟩ := la.reads i hi j hj; ⟨y, g1, g2.calm hc⟩⟩⟩, H.free, H.out, H.apart, fun b hb => Nat.lt_of_lt_of_le (H.xlt b hb) hc.size, H.xob⟩
theorem SR.calm {s : St} {ι : Iota} {a : Act} {w w' : World} (r : SR s ι a w) (hc : Calm w w') : SR s ι a w' :=
  ⟨r.defers, ⟨r.slots.1, fun i x hx => let ⟨y, y1, y2⟩ := r.slots.2 i x hx; ⟨y, y1, y2.calm hc⟩⟩, r.heap.calm hc⟩
theorem EvN.calm {n : Nat} {h h' : Heap} {ι ι' : Iota} {w0 w w' : World} (e : EvN n h ι w0 h' ι' w) (hc : Calm w w') (hlow : ∀ b, b < w0.heap.size → w'.heap[b]? = w.heap[b]?) : EvN n h ι w0 h' ι' w' :=
  ⟨hc.os.trans e.os, hc.tape.trans e.tape, hc.output.trans e.output, Nat.le_trans e.size hc.size, e.iota, e.away, fun b hb hn => let ⟨q1, q2⟩ := e.frame b hb hn; ⟨(hlow b hb).trans q1, q2⟩,
    fun b c el fr hb => let ⟨c', fr', q1, q2⟩ := e.sizes b c el fr hb; ⟨c', fr', hc.cells _ _ _ _ q1, q2⟩⟩
theorem Calm.grown {w w' : World} {row : Option Nat} (h : w.grownBy w' row) (hr : ∀ r, row = some r → ∃ o : Obj, w.heap[r]? = some o ∧ o.isCells = false) : Calm w w' :=
  ⟨h.os, h.tape, h.output, h.size, fun b c e fr hb => by
    have hlt : b < w.heap.size := (Array.getElem?_eq_some_iff.1 hb).1
    rw [h.block b hlt (fun q => by
      obtain ⟨o, ho, hc⟩ := hr b q.symm
      rw [hb] at ho; injection ho with ho; subst ho; cases hc)]
    exact hb⟩

/- slices.Chunk at 32, over a list of int64 -/
def Kp (A1 A2 : Addr) (W W' : World) : Prop := W'.cell? A1 = W.cell? A1 ∧ W'.cell? A2 = W.cell? A2
abbrev Ck (len : Nat) := { k : Nat // 32 * k < len }
def ckV (g off len : Nat) (x : Ck len) : Value := .slice (some ⟨g, off + 32 * x.1, none⟩) (min 32 (len - 32 * x.1)) (min 32 (len - 32 * x.1))
/-- What the iterator does. -/
def ChunkIt (P : Program) (gf : FuncId) : Prop := ∀ (n l b1 o1 b2 o2 g off len cap N : Nat) (sv : Value), ((sv = .slice none 0 0 ∧ len = 0) ∨ (sv = .slice (some ⟨g, off, none⟩) len cap ∧ len ≤ cap)) → len ≤ 1099511627776 → len ≤ 32 * N → ∀ (J Jx : List (Ck len) → World → Prop),
  (∀ s W W' row, J s W → W.grownBy W' row → (∀ r, row = some r → False) → J s W') →
  (∀ pre x W, J pre W → pre.length < N → YieldAt Fence.wide (n - 1) P l #[ckV g off len x] W fun e W' =>
      (e = .returned (.bool true) ∧ J (pre ++ [x]) W' ∧ Kp ⟨b1, o1, none⟩ ⟨b2, o2, none⟩ W W') ∨ (e = .returned (.bool false) ∧ Jx (pre ++ [x]) W')) →
  ∀ (W : World), W.cell? ⟨b1, o1, none⟩ = some sv → W.cell? ⟨b2, o2, none⟩ = some (.int .i64 32) → J [] W →
    CallsIn Fence.wide n P gf #[.func (.yield l) #[] #[], .pointer (some ⟨b1, o1, none⟩), .pointer (some ⟨b2, o2, none⟩)] W fun e W' => (∃ v, e = .returned v) ∧
      ((∃ ys, (∃ k, ys.map (·.1) = List.range k ∧ len ≤ 32 * k ∧ 32 * k < len + 32) ∧ J ys W') ∨ (∃ pre, Jx pre W'))
theorem ChunkIt.stops {P : Program} {gf : FuncId} (It : ChunkIt P gf) (n b1 o1 b2 o2 g off len cap : Nat) (sv : Value) (w : World) (hsv : (sv = .slice none 0 0 ∧ len = 0) ∨ (sv = .slice (some ⟨g, off, none⟩) len cap ∧ len ≤ cap)) (hlen : len ≤ 1099511627776)
    (hb1 : b1 < w.heap.size) (hb2 : b2 < w.heap.size) (h1 : w.cell? ⟨b1, o1, none⟩ = some sv) (h2 : w.cell? ⟨b2, o2, none⟩ = some (.int .i64 32)) :
    SeqStopsK Fence.wide n P gf #[.pointer (some ⟨b1, o1, none⟩), .pointer (some ⟨b2, o2, none⟩)] (fun x : Ck len => #[ckV g off len x]) (Kp ⟨b1, o1, none⟩ ⟨b2, o2, none⟩)
      (fun ys => ∃ k, ys.map (·.1) = List.range k ∧ len ≤ 32 * k ∧ 32 * k < len + 32) (fun _ => True) len w := by
  intro l J Jx W hW hJ hJx hY h0
  refine (It n l b1 o1 b2 o2 g off len cap len sv hsv hlen (by omega) J Jx (fun s W1 W' row hs hg hr => hJ s W1 W' row hs hg (fun r e => (hr r e).elim)) hY W ((hW.cell (p := ⟨b1, o1, none⟩) hb1).trans h1) ((hW.cell (p := ⟨b2, o2, none⟩) hb2).trans h2) h0).mono ?_
  rintro e W' ⟨he, h | ⟨pre, h⟩⟩
  · exact ⟨he, .inl h⟩
  · exact ⟨he, .inr ⟨pre, trivial, h⟩⟩

/- an activation that has deferred calls -/
theorem wpOps_defers {P : Program} {ops : Array Oper} {Q : Exit → Act → World → Prop} (d : List Deferred) (hQ : ¬ LetsOut Q) :
    ∀ (l : List Nat) (t : Array Value) (ds : List Deferred) (w : World), wpOps P ops Q l ⟨t, ds⟩ w → wpOps P ops (fun e a' w' => ∃ ds', a'.defers = ds' ++ d ∧ Q e ⟨a'.tmps, ds'⟩ w') l ⟨t, ds ++ d⟩ w
  | [], _, ds, _, h => ⟨ds, rfl, h⟩
  | i :: rest, t, ds, w, h => by
    have ih := wpOps_defers (P := P) (ops := ops) d hQ rest
    simp only [wpOps] at h ⊢
    cases ho : ops[i]? with
    | none => simp only [ho] at h; exact ih _ _ _ h
    | some o =>
      simp only [ho] at h
      have put : ∀ (ds : List Deferred) v, (Act.put ⟨t, ds ++ d⟩ o.dst v) = ⟨(Act.put ⟨t, ds⟩ o.dst v).tmps, ds ++ d⟩ := fun ds v => by cases o.dst <;> rfl
      have put0 : ∀ (ds : List Deferred) v, (Act.put ⟨t, ds⟩ o.dst v) = ⟨(Act.put ⟨t, ds⟩ o.dst v).tmps, ds⟩ := fun ds v => by cases o.dst <;> rfl
      by_cases hw : Region.wanted o (yielded ops t) = true
      · simp only [hw, if_true] at h ⊢
        rcases h with h | ⟨_, h⟩
        · refine .inl ?_
          unfold Oper.wp at h ⊢
          have he : (Act.eval ⟨t, ds ++ d⟩) = (Act.eval ⟨t, ds⟩) := by funext x; cases x <;> rfl
          rw [he]
          generalize (execOp (Act.eval ⟨t, ds⟩) o).run P w = r at h ⊢
          cases r with
          | ok x w' =>
            cases x with
            | value v => show wpOps _ _ _ rest (Act.put ⟨t, ds ++ d⟩ o.dst v) w'; rw [put]; exact ih _ _ _ (by rw [← put0]; exact h)
            | skip => show wpOps _ _ _ rest (Act.put ⟨t, ds ++ d⟩ o.dst undef) w'; rw [put]; exact ih _ _ _ (by rw [← put0]; exact h)
            | defer dd =>
              show wpOps _ _ _ rest (Act.put ⟨t, (dd :: ds) ++ d⟩ o.dst undef) w'
              rw [put]; exact ih _ _ _ (by rw [← put0]; exact h)
            | enter f args =>
              refine Calls.mono h ?_
              intro e w'' he
              cases e with
              | returned v => show wpOps _ _ _ rest (Act.put ⟨t, ds ++ d⟩ o.dst v) w''; rw [put]; exact ih _ _ _ (by rw [← put0]; exact he)
              | panicked c => exact ⟨ds, rfl, he⟩
              | outgrown => exact (hQ he).elim
            | row rw' args =>
              refine Rows.mono h ?_
              intro v w'' he
              show wpOps _ _ _ rest (Act.put ⟨t, ds ++ d⟩ o.dst v) w''; rw [put]; exact ih _ _ _ (by rw [← put0]; exact he)
            | _ => exact h.elim
          | halt x w' => cases x <;> first | exact h.elim | exact ⟨ds, rfl, h⟩
        · exact (hQ h).elim
      · simp only [hw] at h ⊢
        rw [if_neg (by simp)] at h ⊢
        rw [put]; exact ih _ _ _ (by rw [← put0]; exact h)

theorem wp_piece {E : Env} (hT : TblOk E.P E.T) (hM : E.P.follows .mixedOrders = true) (hI : InlOk E) {c rest : Code} {s : Y} {Q : Exit → Y → Prop} {Qw : Exit → Act → World → Prop} {k : Y → Prop} {ι : Iota} {a : Act} {w : World} (hx : xcode E c s (nextK Q k)) (r : SR s.den ι a w)
    (hn : ∀ (s' : Y) (ι' : Iota) (a' : Act) (w' : World), k s' → SR s'.den ι' a' w' → EvN E.n0 s.den.h ι w s'.den.h ι' w' → rest.wp E.P Qw a' w')
    (he : ∀ (e : Exit) (s' : Y) (ι' : Iota) (a' : Act) (w' : World), e ≠ .normal → Q e s' → SR s'.den ι' a' w' → EvN E.n0 s.den.h ι w s'.den.h ι' w' → Qw e a' w') : (Code.seq c rest).wp E.P Qw a w := by
  refine wp_seq (wp_mono (xcode_ok hT hM hI c s _ hx ι a w r) ?_)
  rintro e a' w' ⟨st, ι', ⟨s', rfl, hq, _⟩, r', ev⟩
  cases e with
  | normal => exact hn s' ι' a' w' hq r' ev
  | _ => exact he _ s' ι' a' w' (by simp) hq r' ev

/-- The head of such a loop: the objects of the iterator, the list. -/
def rfHead (gf : FuncId) (gt : Nat) (s : Y) : Option (List Bool × Nat × Nat × Nat × List Int) := match s.sl[gt]? with
  | some (.fn (.func g) [] [.pO i1 0 0, .pO i2 0 0]) => (match s.h[i1]?, s.h[i2]?, Nat.beq g gf with
    | some (.raw (.live o1)), some (.raw (.live o2)), true => (match o1.rows, o2.rows with
      | [[.oL jd n]], [[.v (.int .i64 32)]] => (match s.h[jd]? with
        | some (.opt t l _) => (match castL (t' := .int .i64) l, !(Nat.beq i1 i2) && (!(Nat.beq i1 jd) && !(Nat.beq i2 jd)) with
          | some l, true => some ([decide (n = l.length)], i1, i2, jd, l)
          | _, _ => none)
        | _ => none)
      | _, _ => none)
    | _, _, _ => none)
  | _ => none
def ck (D : List Int) (k : Nat) : List Int := (D.drop (32 * k)).take 32
def ckL (D : List Int) : List (List Int) := (List.range ((D.length + 31) / 32)).map (ck D)
def rfKill (i1 i2 jd : Nat) (h : List XO) : List XO := ((h.set i1 (.raw .dead)).set i2 (.raw .dead)).set jd (.raw .dead)
def isCk (D x : List Int) : Prop := ∃ k, 32 * k < D.length ∧ x = ck D k
structure RfAnd (A B C : Prop) : Prop where
  a : A
  b : B
  c : C
def rfLoop (P : Program) (inl : FuncId → List V → Y → (V → Y → Prop) → Prop) (T : Tbl) (W : List Nat) (ib : Nat) (e5 : TypeId) (p q id12 : Nat) (ops12 : Array Oper) (id13 : Nat) (ops13 : Array Oper) (rs : List ResultVar) (res : ByteArray)
    (BB : List (List Int) → List Int) (D : List Int) (s1 : Y) : Prop :=
  RfAnd (arrive 0 W [.row ib [.ows (.int .u8) e5]] s1 s1 (fun y => Leaf (y.1 = BB []) ∧ True))
   (∀ (pre : List (List Int)) (x : List Int), (∀ z, z ∈ pre ++ [x] → isCk D z) → pre.length < D.length →
    fS W [.row ib [.ows (.int .u8) e5]] (BB pre, ()) s1.bs fun sl h => setK sl p (.sL (.int .i64) x) fun sl2 => setK sl2 q (.sL (.int .i64) x) fun sl2 => fN h.length fun L => xdraw ⟨P, T, L, 0, [], inl⟩ id12 ops12 ⟨sl2, h, [], []⟩ fun s' => match s' with
      | ⟨_, h', tch', an'⟩ => arrive 0 W [.row ib [.ows (.int .u8) e5]] s1 ⟨sl, h', tch', an'⟩ (fun y => Leaf (y.1 = BB (pre ++ [x])) ∧ True))
   (fS W [.row ib [.ows (.int .u8) e5]] (BB (ckL D), ()) s1.bs fun sl h => xops ⟨P, T, 0, 0, [], inl⟩ ops13 id13 ops13.toList 0 ⟨sl, h, [], []⟩ fun s' => match s' with
      | ⟨sl', h', _, _⟩ => match ares P rs sl' (dens h') with
        | some y => Leaf (y = .v (.string res)) ∧ True
        | none => False)

theorem rfHead_spec {gf : FuncId} {gt : Nat} {s : Y} {cs : List Bool} {i1 i2 jd : Nat} {D : List Int} (h : rfHead gf gt s = some (cs, i1, i2, jd, D)) (hc : allT cs) :
    s.sl[gt]? = some (.fn (.func gf) [] [.pO i1 0 0, .pO i2 0 0]) ∧ i1 ≠ i2 ∧ i1 ≠ jd ∧ i2 ≠ jd ∧ (∃ o1, s.h[i1]? = some (.raw (.live o1)) ∧ o1.rows = [[.oL jd D.length]]) ∧ (∃ o2, s.h[i2]? = some (.raw (.live o2)) ∧ o2.rows = [[.v (.int .i64 32)]]) ∧ ∃ e, s.h[jd]? = some (.opt (.int .i64) D e) := by
  unfold rfHead at h
  split at h
  · rename_i g i1' i2' hg
    split at h
    · rename_i o1 o2 ho1 ho2 hb
      split at h
      · rename_i jd' n r1 r2
        split at h
        · rename_i t l e hl
          split at h
          · rename_i l' hcl hne
            injection h with h; injection h with e1 h; injection h with e2 h; injection h with e3 h; injection h with e4 e5
            subst e1 e2 e3 e4 e5
            have hn : n = l'.length := of_decide_eq_true (hc _ (by simp))
            obtain ⟨et, el⟩ := castL_ty hcl
            subst et; subst el hn
            have hb := Nat.eq_of_beq_eq_true hb
            subst hb
            simp only [Bool.and_eq_true, Bool.not_eq_true'] at hne
            exact ⟨hg, Nat.ne_of_beq_eq_false hne.1, Nat.ne_of_beq_eq_false hne.2.1, Nat.ne_of_beq_eq_false hne.2.2, ⟨o1, ho1, r1⟩, ⟨o2, ho2, r2⟩, _, hl⟩
          · cases h
        · cases h
      · cases h
    · cases h
  · cases h

theorem kill1 {h : List XO} {ι : Iota} {w : World} (H : HRel (dens h) ι w) (id : Nat) : HRel (dens (h.set id (.raw .dead))) ι w ∧ Evolve (dens h) ι w (dens (h.set id (.raw .dead))) ι w := by
  have hk : ∀ x : Nat, (dens (h.set id (.raw .dead)))[x]? = (dens h)[x]? ∨ (dens (h.set id (.raw .dead)))[x]? = some HS.dead := fun x => kill_get h id none x
  exact H.killed hk (by simp [dens_len]) (fun _ => False) (fun _ q => q.elim) rfl rfl rfl rfl (fun _ _ => rfl) (fun _ c _ fr q => ⟨c, fr, q, rfl⟩)

/-- What the head of the loop says of the world. -/
theorem rf_world {s : Y} {gf : FuncId} {gt : Nat} {cs : List Bool} {i1 i2 jd : Nat} {D : List Int} (hh : rfHead gf gt s = some (cs, i1, i2, jd, D)) (hc : allT cs) {ι : Iota} {a : Act} {w : World} (r : SR s.den ι a w) :
    ∃ (A1 A2 : Addr) (sv : Value) (g off cap : Nat), a.eval (.tmp gt) = .func (.func gf) #[] #[.pointer (some A1), .pointer (some A2)] ∧ A1.spot = none ∧ A2.spot = none ∧ A1.block < w.heap.size ∧ A2.block < w.heap.size ∧ w.cell? A1 = some sv ∧ w.cell? A2 = some (.int .i64 32) ∧
      ((sv = .slice none 0 0 ∧ D.length = 0) ∨ (sv = .slice (some ⟨g, off, none⟩) D.length cap ∧ D.length ≤ cap)) ∧
      SR ⟨s.sl, dens (rfKill i1 i2 jd s.h)⟩ ι a w ∧ Evolve (dens s.h) ι w (dens (rfKill i1 i2 jd s.h)) ι w ∧ ¬ Ob (dens (rfKill i1 i2 jd s.h)) ι A1.block ∧ ¬ Ob (dens (rfKill i1 i2 jd s.h)) ι A2.block ∧
      (D ≠ [] → g < w.heap.size ∧ ¬ Mt (dens (rfKill i1 i2 jd s.h)) ι g ∧ ∀ (j : Nat) (x : Int), D[j]? = some x → w.cell? ⟨g, off + j, none⟩ = some (.int .i64 x)) := by
  obtain ⟨hg, n12, n1d, n2d, ⟨o1, ho1, r1⟩, ⟨o2, ho2, r2⟩, ed, hjd⟩ := rfHead_spec hh hc
  have H := r.heap
  obtain ⟨y, y1, y2⟩ := r.slots.2 gt _ hg
  have hev : a.eval (.tmp gt) = y := by
    simp only [Act.eval]
    have hlt := (Array.getElem?_eq_some_iff.1 y1).1
    rw [Array.getElem?_eq_getElem hlt] at y1
    injection y1 with y1
    simp [Array.getD, hlt, y1]
  have d1 : (dens s.h)[i1]? = some (.live o1) := by rw [dens_get, ho1]; rfl
  have d2 : (dens s.h)[i2]? = some (.live o2) := by rw [dens_get, ho2]; rfl
  obtain ⟨L1, c1, fr1, hL1, la1⟩ := H.live i1 o1 d1
  obtain ⟨L2, c2, fr2, hL2, la2⟩ := H.live i2 o2 d2
  obtain ⟨H1, e1⟩ := kill1 H i1
  obtain ⟨H2, e2⟩ := kill1 H1 i2
  obtain ⟨H3, e3⟩ := kill1 H2 jd
  have ev := (e1.trans e2).trans e3
  have sr : SR ⟨s.sl, dens (rfKill i1 i2 jd s.h)⟩ ι a w := ⟨r.defers, r.slots.mono ev, H3⟩
  have old : ∀ (id : Nat) (o : AObj), (dens (rfKill i1 i2 jd s.h))[id]? = some (.live o) → (dens s.h)[id]? = some (.live o) ∧ id ≠ i1 ∧ id ≠ i2 ∧ id ≠ jd := by
    intro id o q
    have one : ∀ (h : List XO) (k : Nat), (dens (h.set k (.raw .dead)))[id]? = some (.live o) → id ≠ k ∧ (dens h)[id]? = some (.live o) := by
      intro h k q
      rw [dens_set] at q
      by_cases e : k = id
      · subst e
        rw [List.getElem?_set] at q
        simp only [if_pos] at q
        split at q
        · cases q
        · cases q
      · rw [List.getElem?_set_ne e] at q
        exact ⟨Ne.symm e, q⟩
    obtain ⟨q1, q2⟩ := one _ _ q
    obtain ⟨q3, q4⟩ := one _ _ q2
    obtain ⟨q5, q6⟩ := one _ _ q4
    exact ⟨q6, q5, q3, q1⟩
  have nob : ∀ (k : Nat) (o : AObj) (L : Loc), (k = i1 ∨ k = i2 ∨ k = jd) → (dens s.h)[k]? = some (.live o) → ι k = some L → ¬ Ob (dens (rfKill i1 i2 jd s.h)) ι L.blk := by
    rintro k o L hk ho hl ⟨id, o', L', q1, q2, q3⟩
    obtain ⟨q4, m1, m2, m3⟩ := old id o' q1
    have := H.apart _ _ _ _ _ _ q4 q2 ho hl q3
    subst this
    rcases hk with q | q | q
    · exact m1 q
    · exact m2 q
    · exact m3 q
  obtain ⟨x1, hx1, rx1⟩ := la1.reads 0 (by simp [r1]) 0 (by simp [r1])
  obtain ⟨x2, hx2, rx2⟩ := la2.reads 0 (by simp [r2]) 0 (by simp [r2])
  have rx1 : Rep w ι (Mt s.den.h ι) (.oL jd D.length) x1 := by simpa [r1] using rx1
  have rx2 : Rep w ι (Mt s.den.h ι) (.v (.int .i64 32)) x2 := by simpa [r2] using rx2
  cases rx2
  have hlt1 : L1.blk < w.heap.size := (Array.getElem?_eq_some_iff.1 la1.blk).1
  have hlt2 : L2.blk < w.heap.size := (Array.getElem?_eq_some_iff.1 la2.blk).1
  have cc1 : w.cell? ⟨L1.blk, L1.base + 0 * L1.sz + 0, none⟩ = some x1 := by
    simp only [World.cell?, la1.blk]
    rw [← hx1]; simp
  have cc2 : w.cell? ⟨L2.blk, L2.base + 0 * L2.sz + 0, none⟩ = some (.int .i64 32) := by
    simp only [World.cell?, la2.blk]
    rw [← hx2]; simp
  have hfun : y = .func (.func gf) #[] #[.pointer (some ⟨L1.blk, L1.base + 0 * L1.sz + 0, none⟩), .pointer (some ⟨L2.blk, L2.base + 0 * L2.sz + 0, none⟩)] := by
    cases y2 with
    | fn _ _ _ vs us q1 q2 q3 q4 =>
      have hvs : vs = #[] := by
        have : vs.size = 0 := q1.symm
        exact Array.eq_empty_of_size_eq_zero this
      have hus : us.size = 2 := q2.symm
      have u0 := q4 0 (by simp) (by omega)
      have u1 := q4 1 (by simp) (by omega)
      have u0 : Rep w ι (Mt s.den.h ι) (.pO i1 0 0) us[0] := u0
      have u1 : Rep w ι (Mt s.den.h ι) (.pO i2 0 0) us[1] := u1
      have v0 : us[0] = .pointer (some ⟨L1.blk, L1.base + 0 * L1.sz + 0, none⟩) := by
        generalize us[0] = z at u0
        cases u0 with | pO _ _ _ l hl => rw [hL1] at hl; injection hl with hl; subst hl; rfl
      have v1 : us[1] = .pointer (some ⟨L2.blk, L2.base + 0 * L2.sz + 0, none⟩) := by
        generalize us[1] = z at u1
        cases u1 with | pO _ _ _ l hl => rw [hL2] at hl; injection hl with hl; subst hl; rfl
      rw [hvs]
      congr 1
      refine Array.ext (by rw [hus]; rfl) (fun i h1 h2 => ?_)
      match i, h1 with
      | 0, _ => exact v0
      | 1, _ => exact v1
      | i + 2, h1 => rw [hus] at h1; omega
  suffices fin : ∃ (g off cap : Nat), ((x1 = .slice none 0 0 ∧ D.length = 0) ∨ (x1 = .slice (some ⟨g, off, none⟩) D.length cap ∧ D.length ≤ cap)) ∧ (D ≠ [] → g < w.heap.size ∧ ¬ Mt (dens (rfKill i1 i2 jd s.h)) ι g ∧ ∀ (j : Nat) (x : Int), D[j]? = some x → w.cell? ⟨g, off + j, none⟩ = some (.int .i64 x)) by
    obtain ⟨g, off, cap, k1, k2⟩ := fin
    exact ⟨⟨L1.blk, L1.base + 0 * L1.sz + 0, none⟩, ⟨L2.blk, L2.base + 0 * L2.sz + 0, none⟩, x1, g, off, cap, hev.trans hfun, rfl, rfl, hlt1, hlt2, cc1, cc2, k1, sr, ev, nob i1 o1 L1 (.inl rfl) d1 hL1, nob i2 o2 L2 (.inr (.inl rfl)) d2 hL2, k2⟩
  by_cases hD : D = []
  · subst hD
    cases rx1 with
    | oL _ _ _ q =>
      simp at q
      cases q
      exact ⟨0, 0, 0, .inl ⟨rfl, rfl⟩, fun q => (q rfl).elim⟩
  · have hl0 : D.length ≠ 0 := fun q => hD (List.length_eq_zero_iff.1 q)
    have dj : (dens s.h)[jd]? = some (.live ⟨1, D.map (Ty.row (.int .i64)), ed⟩) := by rw [dens_get, hjd]; simp [XO.den, hD, Ty.size]
    obtain ⟨Ld, cd, frd, hLd, lad⟩ := H.live jd _ dj
    have hsd : Ld.sz = 1 := lad.sz
    cases rx1 with
    | oL _ _ _ q =>
      rw [if_neg hl0] at q
      cases q with
      | sO _ _ _ cap L c e fr hL hcap hb hs =>
        rw [hLd] at hL; injection hL with hL; subst hL
        refine ⟨Ld.blk, Ld.base + 0 * Ld.sz, cap, .inr ⟨rfl, hcap⟩, fun _ => ⟨(Array.getElem?_eq_some_iff.1 lad.blk).1, ?_, fun j x hj => ?_⟩⟩
        · rintro (q | q)
          · exact H.xob _ q ⟨jd, _, Ld, dj, hLd, rfl⟩
          · exact nob jd _ Ld (.inr (.inr rfl)) dj hLd q
        · have hjl := get_lt hj
          obtain ⟨z, z1, z2⟩ := lad.reads j (by simpa using hjl) 0 (by simp [Ty.cells])
          have e1 : (D.map (Ty.row (.int .i64)))[j]'(by simpa using hjl) = [.v (.int .i64 x)] := by
            rw [List.getElem?_eq_getElem hjl] at hj; injection hj with hj
            simp [hj, Ty.cells]
          have z2 : Rep w ι (Mt (dens s.h) ι) (.v (.int .i64 x)) z := by
            have := z2
            simp only [e1] at this
            exact this
          cases z2
          simp only [World.cell?, lad.blk]
          rw [← z1]
          congr 1
          simp [Ty.size]

end Go.Abs
