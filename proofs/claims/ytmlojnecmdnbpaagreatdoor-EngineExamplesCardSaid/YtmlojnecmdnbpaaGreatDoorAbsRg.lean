/- A range over slices.Chunk: the loop. -/
import Derived.Test.YtmlojnecmdnbpaaGreatDoorAbsRf
namespace Go.Abs
set_option linter.unusedVariables false

theorem EvN.zero {n : Nat} {h h' : Heap} {ι ι' : Iota} {w w' : World} (e : EvN n h ι w h' ι' w') : EvN 0 h ι w h' ι' w' :=
  ⟨e.os, e.tape, e.output, e.size, fun id l q => (Nat.not_lt_zero _ q).elim, e.away, e.frame, e.sizes⟩
theorem EvN.keepsOthers {n : Nat} {h h' : Heap} {ι ι' : Iota} {w w' : World} (H : HRel h ι w) (e : EvN n h ι w h' ι' w') : KeepsOthers w w' :=
  ⟨e.size, fun k o hk ho => by
    have hlt : k < w.heap.size := (Array.getElem?_eq_some_iff.1 hk).1
    refine ((e.frame k hlt ?_).1).trans hk
    rintro ⟨id, x, l, q1, q2, q3⟩
    obtain ⟨l', c, fr, q4, la⟩ := H.live id x q1
    rw [q2] at q4; injection q4 with q4; subst q4
    have := la.blk
    rw [q3, hk] at this
    injection this with this; subst this; cases ho⟩
theorem SRel.sets {sl : List V} {h ι w} {t : Array Value} (r : SRel sl h ι w t) (d : Nat) {x : V} {y : Value} (ry : Rep w ι (Mt h ι) x y) : SRel (sl.set d x) h ι w (t.setIfInBounds d y) :=
  SRel.put (a := ⟨t, []⟩) r (some d) ry
theorem cell_of_heap {w w' : World} {A : Addr} (h : w'.heap[A.block]? = w.heap[A.block]?) : w'.cell? A = w.cell? A := by simp [World.cell?, h]

theorem ck_rep {h : Heap} {ι : Iota} {W : World} {D : List Int} {g off : Nat} (x : Ck D.length) (hb : g < W.heap.size) (hm : ¬ Mt h ι g) (hc : ∀ (j : Nat) (x : Int), D[j]? = some x → W.cell? ⟨g, off + j, none⟩ = some (.int .i64 x)) :
    Rep W ι (Mt h ι) (.sL (.int .i64) (ck D x.1)) (ckV g off D.length x) := by
  obtain ⟨k, hk⟩ := x
  refine .sL _ _ _ ?_
  have hl : ((ck D k).map (Ty.row (.int .i64))).length = min 32 (D.length - 32 * k) := by simp [ck]
  have := Rep.sF_mk (w := W) (ι := ι) (M := Mt h ι) (sz := 1) (rows := (ck D k).map (Ty.row (.int .i64))) ⟨g, off + 32 * k, none⟩ (min 32 (D.length - 32 * k)) (fun _ => ⟨rfl, hb, hm⟩) (by rw [hl]; exact Nat.le_refl _)
    (fun r hr => by obtain ⟨z, _, rfl⟩ := List.mem_map.1 hr; rfl)
    (fun i j r x hi hj => by
      rw [List.getElem?_map] at hi
      cases hz : (ck D k)[i]? with
      | none => rw [hz] at hi; cases hi
      | some z =>
        rw [hz] at hi; injection hi with hi; subst hi
        have hj0 : j = 0 := by
          have := get_lt hj
          simp [Ty.row, Ty.cells] at this
          omega
        subst hj0
        have hx : x = .v (.int .i64 z) := by
          simp [Ty.row, Ty.cells] at hj
          exact hj.symm
        subst hx
        have hz2 : D[32 * k + i]? = some z := by
          simp only [ck, List.getElem?_take, List.getElem?_drop] at hz
          split at hz
          · exact hz
          · cases hz
        have := hc _ _ hz2
        exact ⟨_, by rw [show off + 32 * k + i * 1 + 0 = off + (32 * k + i) by omega]; exact this, .v _⟩)
  rw [hl] at this; exact this

theorem assign_in {P : Program} {n l id p q : Nat} {v : Value} {t : Array Value} {w : World} {K : Act → World → Prop} {ty : TypeId} {pos : String} (hp : p < t.size) (h : K ⟨(t.setIfInBounds p v).setIfInBounds q v, []⟩ w) :
    (Code.region id #[{ dst := some q, op := .assign (.tmp p), type := ty, pos := pos, after := #[], guard := none }] false).wpIn (Fence.wide.inRound l) n P (Exit.then K (fun _ _ _ => False)) ⟨t.setIfInBounds p v, []⟩ w := by
  refine wpIn_region ?_
  simp only [Array.size, List.length_cons, List.length_nil, List.range, List.range.loop, wpOpsIn]
  have e : (Act.eval ⟨t.setIfInBounds p v, []⟩ (.tmp p)) = v := by
    simp [Act.eval, Array.getD, hp]
  simp only [Region.wanted, Oper.wpIn, List.getElem?_toArray, List.getElem?_cons_zero, if_true]
  refine ⟨fun _ _ => trivial, ?_⟩
  rw [Oper.semAt_eq _ _ _ (by intro c q; cases q)]
  simp only [execOp, e]
  exact h

theorem ckL_of {D : List Int} {xs : List (Ck D.length)} {k : Nat} (h : xs.map (·.1) = List.range k) (h1 : D.length ≤ 32 * k) (h2 : 32 * k < D.length + 32) : xs.map (fun x => ck D x.1) = ckL D := by
  have hk : k = (D.length + 31) / 32 := by omega
  have : xs.map (fun x => ck D x.1) = (xs.map (·.1)).map (ck D) := by simp
  rw [this, h, hk]; rfl

theorem rf_block {P : Program} {T : Tbl} {inl : FuncId → List V → Y → (V → Y → Prop) → Prop} (hT : TblOk P T) (hM : P.follows .mixedOrders = true) {gf : FuncId} (It : ChunkIt P gf) (eg : ∀ (args : Array Value) (w : World), (callFunc gf args).run P w = .ok (.enter gf args) w)
    {gt p q bid bid2 id12 : Nat} {ops12 : Array Oper} {W : List Nat} {ib : Nat} {e5 : TypeId} {id13 : Nat} {ops13 : Array Oper} {rs : List ResultVar} {res : ByteArray} {BB : List (List Int) → List Int} {id11 : Nat} {ty11 : TypeId} {pos11 : String}
    (hc12 : calmOps ops12 = true) {s : Y} {cs : List Bool} {i1 i2 jd : Nat} {D : List Int} (hpa : p < s.sl.length) (hh : rfHead gf gt s = some (cs, i1, i2, jd, D)) (hc : allT cs) (hlen : D.length ≤ 1099511627776)
    (hl : rfLoop P inl T W ib e5 p q id12 ops12 id13 ops13 rs res BB D ⟨s.sl, rfKill i1 i2 jd s.h, [], s.an⟩) {ι : Iota} {a : Act} {w : World} (r : SR s.den ι a w) {Qw : Exit → Act → World → Prop}
    (hq : ∀ (D0 : Nat) (ι' : Iota) (w' : World) (sl : List V) (h : List XO), w.heap.size ≤ D0 → w'.heap[D0]? = some (.deferred (some [])) → SR ⟨sl, dens h⟩ ι' ⟨a.tmps, []⟩ w' → EvN 0 s.den.h ι w (dens h) ι' w' →
      xops ⟨P, T, 0, 0, [], inl⟩ ops13 id13 ops13.toList 0 ⟨sl, h, [], []⟩ (fun s' => match s' with
        | ⟨sl', h', _, _⟩ => match ares P rs sl' (dens h') with
          | some y => Leaf (y = .v (.string res)) ∧ True
          | none => False) → Qw .normal ⟨a.tmps, [{ target := .collected D0, args := #[] }]⟩ w') :
    (Code.block bid (.rangeFunc (.tmp gt) #[p] (.region id11 #[{ dst := some q, op := .assign (.tmp p), type := ty11, pos := pos11, after := #[], guard := none }] false) (.block bid2 (.region id12 ops12 true)))).wp P Qw a w := by
  obtain ⟨A1, A2, sv, g, off, cap, hev, hA1, hA2, hb1, hb2, hc1, hc2, hsv, r1, ev1, hn1, hn2, hD⟩ := rf_world hh hc r
  obtain ⟨b1, o1, sp1⟩ := A1
  obtain ⟨b2, o2, sp2⟩ := A2
  simp only at hA1 hA2 hb1 hb2 hn1 hn2
  subst hA1 hA2
  obtain ⟨hstart, hround, hend⟩ := hl
  generalize hs1 : (⟨s.sl, rfKill i1 i2 jd s.h, [], s.an⟩ : Y) = s1 at hstart hround hend
  have hsl1 : s1.sl = s.sl := by rw [← hs1]
  have hh1 : s1.h = rfKill i1 i2 jd s.h := by rw [← hs1]
  rw [← hsl1, ← hh1] at r1
  rw [← hh1] at ev1 hn1 hn2 hD
  have hdef : a.defers = [] := r.defers
  have hact : a = ⟨a.tmps, []⟩ := by cases a; simp at hdef; subst hdef; rfl
  let S : List Int → St := fun y => ⟨setS [.row ib [.ows (.int .u8) e5]] (y, ()) s1.bs (baseS W s1.sl), dens (setO [.row ib [.ows (.int .u8) e5]] (y, ()) s1.bs s1.h)⟩
  have sizes : ∀ (x : List Int), (⟨(S x).sl, (S x).h⟩ : St) = S x := fun _ => rfl
  obtain ⟨σ0, y0, cut0, ⟨⟨hy0⟩, _⟩, hW⟩ := arrive_ok (s1 := s1) (s' := s1) ⟨fun _ _ => rfl, rfl, fun _ _ _ _ => rfl⟩ hstart
  obtain ⟨y0, u0⟩ := y0
  simp only at hy0
  subst hy0
  obtain ⟨r2, ev2⟩ := cut0.apply r1
  have J0 : ∃ ι', SR (S (BB [])) ι' ⟨a.tmps, []⟩ w ∧ EvN 0 (dens s1.h) ι w (S (BB [])).h ι' w := ⟨_, hact ▸ r2, ev2⟩
  refine (wpIn_wide (n := 3)).1 ?_
  refine wpIn_block ?_
  refine wpIn_rangeFunc_ownF rfl (by omega) (gf := gf) (lb := #[.pointer (some ⟨b1, o1, none⟩), .pointer (some ⟨b2, o2, none⟩)]) hev trivial eg
    (It.stops (3 - 1) b1 o1 b2 o2 g off D.length cap sv w hsv hlen hb1 hb2 hc1 hc2) (fun h k => ⟨k.1.trans h.1, k.2.trans h.2⟩)
    (fun X l o o' hle ho hcell _ => ⟨cell_of_heap (World.putObj_heap_other (by simp only; omega)), cell_of_heap (World.putObj_heap_other (by simp only; omega))⟩) (RowKit.Below.refl _ _) (fun _ => rfl)
    (fun pre X => ∃ ι', SR (S (BB (pre.map (fun x => ck D x.1)))) ι' ⟨a.tmps, []⟩ X ∧ EvN 0 (dens s1.h) ι w (S (BB (pre.map (fun x => ck D x.1)))).h ι' X)
    (fun _ _ _ => False) ?own (fun _ _ _ _ _ q _ _ => q) J0
    (fun x => ⟨(a.tmps.setIfInBounds p (ckV g off D.length x)).setIfInBounds q (ckV g off D.length x), []⟩) ?assign ?body ?done ?stop
  case own =>
    rintro pre X Y row ⟨ι', q1, q2⟩ hg hr
    refine ⟨ι', q1.calm (Calm.grown hg (fun r e => (hr r e).2)), q2.calm (Calm.grown hg (fun r e => (hr r e).2)) (fun b hb => ?_)⟩
    exact hg.block b (Nat.lt_of_lt_of_le hb q2.size) (fun e => by have := (hr b e.symm).1; omega)
  case assign =>
    intro l x X K hK
    have hz : (#[p].zip #[ckV g off D.length x]).foldl (fun t (p, v) => t.setIfInBounds p v) a.tmps = a.tmps.setIfInBounds p (ckV g off D.length x) := by simp
    rw [hz]
    exact assign_in (by have := r.slots.1; simp only [Y.den] at this; omega) hK
  case stop =>
    intro D0 c pre X _ _ hF _
    exact hF.elim
  case done =>
    rintro D0 xs X hD0 ⟨k, k1, k2, k3⟩ ⟨ι', q1, q2⟩ hdf
    simp only [Exit.inBlock]
    rw [ckL_of k1 k2 k3] at q1 q2
    rw [fS_eq] at hend
    have := hq D0 ι' X _ _ hD0 hdf q1 ((EvN.of ev1).trans q2) hend
    rw [hdef]
    exact this
  case body =>
    rintro l pre x X ⟨ι', q1, q2⟩ hpre
    refine wpIn_block ?_
    have hr0 := hround (pre.map (fun x => ck D x.1)) (ck D x.1) (fun z hz => by
      rcases List.mem_append.1 hz with hz | hz
      · obtain ⟨y, _, rfl⟩ := List.mem_map.1 hz; exact ⟨y.1, y.2, rfl⟩
      · simp at hz; subst hz; exact ⟨x.1, x.2, rfl⟩) (by simpa using hpre)
    rw [fS_eq, setK_eq, setK_eq, fN_eq] at hr0
    have hDne : D ≠ [] := by intro e; subst e; exact absurd x.2 (Nat.not_lt_zero _)
    obtain ⟨d1, d2, d3⟩ := hD hDne
    have ob1 : ∀ b, b < w.heap.size → ¬ Ob (dens s1.h) ι b → X.heap[b]? = w.heap[b]? ∧ ¬ Ob (S (BB (pre.map (fun x => ck D x.1)))).h ι' b := fun b hb hn => q2.frame b hb hn
    have hgX := ob1 g d1 (fun h => d2 (.inr h))
    have hmX : ¬ Mt (S (BB (pre.map (fun x => ck D x.1)))).h ι' g := by
      rintro (q | q)
      · rw [q2.away] at q; exact d2 (.inl q)
      · exact hgX.2 q
    have hrep : Rep X ι' (Mt (S (BB (pre.map (fun x => ck D x.1)))).h ι') (.sL (.int .i64) (ck D x.1)) (ckV g off D.length x) :=
      ck_rep x (Nat.lt_of_lt_of_le d1 q2.size) hmX (fun j z hj => (cell_of_heap hgX.1).trans (d3 j z hj))
    have sr := q1.slots.sets p hrep
    have sr := SRel.sets sr q hrep
    refine wpIn_mono (xdraw_in (E := ⟨P, T, _, 0, [], inl⟩) hT hM hc12 hr0 l _ ι' _ X ⟨rfl, sr, q1.heap⟩) ?_
    rintro e a3 X3 ⟨st, ι3, ⟨rfl, s', rfl, h1, h2⟩, r3, e3⟩
    obtain ⟨sl', h', tch', an'⟩ := s'
    simp only at h1
    have e3' : EvN (S (BB (pre.map (fun x => ck D x.1)))).h.length (S (BB (pre.map (fun x => ck D x.1)))).h ι' X (dens h') ι3 X3 := by
      have : (S (BB (pre.map (fun x => ck D x.1)))).h.length = (setO [.row ib [.ows (.int .u8) e5]] (BB (pre.map (fun x => ck D x.1)), ()) s1.bs s1.h).length := dens_len _
      rw [this]; exact e3
    have ev3 := e3'.to q1.heap
    have sl3 := q1.slots.mono ev3
    have fw : FrW W ⟨setS [.row ib [.ows (.int .u8) e5]] (BB (pre.map (fun x => ck D x.1)), ()) s1.bs (baseS W s1.sl), setO [.row ib [.ows (.int .u8) e5]] (BB (pre.map (fun x => ck D x.1)), ()) s1.bs s1.h, [], an'⟩ ⟨setS [.row ib [.ows (.int .u8) e5]] (BB (pre.map (fun x => ck D x.1)), ()) s1.bs (baseS W s1.sl), h', tch', an'⟩ :=
      ⟨⟨h2.fr.len, h2.fr.tch, h2.fr.h⟩, rfl, fun _ _ => rfl⟩
    obtain ⟨σ, y, cut, ⟨⟨hy⟩, _⟩, _⟩ := arrive_ok (s1 := s1) (s' := ⟨setS [.row ib [.ows (.int .u8) e5]] (BB (pre.map (fun x => ck D x.1)), ()) s1.bs (baseS W s1.sl), h', tch', an'⟩) (near_head (sl := s1.sl) (h := s1.h) (tch := s1.tch) (t0 := []) (an := s1.an) hW fw).1 h1
    obtain ⟨y, u⟩ := y
    simp only at hy
    subst hy
    obtain ⟨r4, e4⟩ := cut.apply (s := (⟨setS [.row ib [.ows (.int .u8) e5]] (BB (pre.map (fun x => ck D x.1)), ()) s1.bs (baseS W s1.sl), h', tch', an'⟩ : Y).den) (ι := ι3) (a := ⟨a.tmps, []⟩) (w := X3) ⟨rfl, sl3, r3.heap⟩
    have etot : EvN 0 (S (BB (pre.map (fun x => ck D x.1)))).h ι' X (S (BB ((pre ++ [x]).map (fun x => ck D x.1)))).h (ι3.ren σ) X3 := by
      rw [List.map_append]
      exact (e3'.zero).trans e4
    simp only [Exit.inBlock, ownPostK]
    have m1 := q2.frame b1 hb1 hn1
    have m2 := q2.frame b2 hb2 hn2
    refine ⟨e3'.keepsOthers q1.heap, ⟨cell_of_heap (e3'.frame b1 (Nat.lt_of_lt_of_le hb1 q2.size) m1.2).1, cell_of_heap (e3'.frame b2 (Nat.lt_of_lt_of_le hb2 q2.size) m2.2).1⟩, _, ?_, q2.trans etot⟩
    rw [List.map_append]
    exact r4

/-- Behind the pieces ahead of the loop. -/
def rfK (P : Program) (inl : FuncId → List V → Y → (V → Y → Prop) → Prop) (T : Tbl) (W : List Nat) (ib : Nat) (e5 : TypeId) (gf : FuncId) (gt p q id12 : Nat) (ops12 : Array Oper) (id13 : Nat) (ops13 : Array Oper) (rs : List ResultVar) (res : ByteArray)
    (BB : List (List Int) → List Int) (s : Y) : Prop := match rfHead gf gt s with
  | some (cs, i1, i2, jd, D) => (match s with
    | ⟨sl, h, _, an⟩ => (match Nat.blt p sl.length with
      | true => needs (decide (D.length ≤ 1099511627776) :: cs) (fH (rfKill i1 i2 jd h) fun h => rfLoop P inl T W ib e5 p q id12 ops12 id13 ops13 rs res BB D ⟨sl, h, [], an⟩)
      | false => False))
  | none => False

/-- The contract of a function of trees that ends in such a loop. -/
theorem CtOk.rf {P : Program} {T : Tbl} {f : FuncId} {fn : Func} {a1 a2 a3 a4 a5 a6 : Code} {id11 : Nat} {ty11 : TypeId} {pos11 : String} {ps : List Ty} {pre : Option (Cu ps Prop)} {res : Cu ps RV} (hT : TblOk P T) (hM : P.follows .mixedOrders = true) (fl : List (Nat × Nat × Nat)) (I : List Nat)
    (hf : P.funcs[f]? = some fn) {gt p q bid bid2 id12 : Nat} {ops12 : Array Oper} {id13 : Nat} {ops13 : Array Oper}
    (hb : fn.body = some (.seq a1 (.seq a2 (.seq a3 (.seq a4 (.seq a5 (.seq (.seq a6 (.block bid (.rangeFunc (.tmp gt) #[p] (.region id11 #[{ dst := some q, op := .assign (.tmp p), type := ty11, pos := pos11, after := #[], guard := none }] false) (.block bid2 (.region id12 ops12 true))))) (.seq (.region id13 ops13 false) .ret))))))))
    {gf : FuncId} (It : ChunkIt P gf) (eg : ∀ (args : Array Value) (w : World), (callFunc gf args).run P w = .ok (.enter gf args) w)
        (hc12 : calmOps ops12 = true) (W : List Nat) (ib : Nat) (e5 : TypeId) (rb : Tup ps → ByteArray) (hrb : ∀ x, (cu ps res x).val = .v (.string (rb x))) (BB : Tup ps → List (List Int) → List Int)
    (h : ∀ x : Tup ps, (∀ p, pre = some p → cu ps p x) → ∃ an : List (Nat × Nat × LA), fVs (vals ps x ++ List.replicate (fn.ntmps - ps.length) (.v undef)) fun sl =>
      xcode ⟨P, T, 0, 0, fl, inlN P T fl I 4⟩ a1 ⟨sl, [], [], an⟩ (nextK (fin P fn.results.toList 0 (cu ps res x) fun _ => True) fun s =>
      xcode ⟨P, T, 0, 0, fl, inlN P T fl I 4⟩ a2 s (nextK (fin P fn.results.toList 0 (cu ps res x) fun _ => True) fun s =>
      xcode ⟨P, T, 0, 0, fl, inlN P T fl I 4⟩ a3 s (nextK (fin P fn.results.toList 0 (cu ps res x) fun _ => True) fun s =>
      xcode ⟨P, T, 0, 0, fl, inlN P T fl I 4⟩ a4 s (nextK (fin P fn.results.toList 0 (cu ps res x) fun _ => True) fun s =>
      xcode ⟨P, T, 0, 0, fl, inlN P T fl I 4⟩ a5 s (nextK (fin P fn.results.toList 0 (cu ps res x) fun _ => True) fun s =>
      xcode ⟨P, T, 0, 0, fl, inlN P T fl I 4⟩ a6 s (nextK (fin P fn.results.toList 0 (cu ps res x) fun _ => True) fun s =>
        rfK P (inlN P T fl I 4) T W ib e5 gf gt p q id12 ops12 id13 ops13 fn.results.toList (rb x) (BB x) s))))))) : CtOk P f (.fn ps pre res) := by
  intro x hx
  have hlen := Tup.len ps x
  refine ⟨fun p hp => (by cases hp), fun k _ => ?_⟩
  refine PC.mono (PC.frame (x0 := (cu ps res x).val) (Tup.ni 0 ps x) ?_ k) (fun y k' ⟨h1, h2⟩ => ⟨h1, h2⟩)
  obtain ⟨an, hw⟩ := h x hx
  rw [fVs_eq] at hw
  intro ι w vs hp2 hh
  have hl := hp2.1
  refine callsIn_wide.1 (callsIn_of_wp_marks (F := Fence.wide) (n := 3) hf hb trivial (wpIn_wide.2 ?_))
  have hI : InlOk ⟨P, T, 0, 0, fl, inlN P T fl I 4⟩ := inlN_ok hT hM fl I 4 _ _
  have r0 : SR (⟨vals ps x ++ List.replicate (fn.ntmps - ps.length) (.v undef), [], [], an⟩ : Y).den ι ⟨vs ++ Array.replicate (fn.ntmps - vs.size) undef, []⟩ w := by
    refine ⟨rfl, ⟨by simp [Y.den, ← hl, hlen], fun i z hz => ?_⟩, hh⟩
    simp only [Y.den] at hz
    by_cases h1 : i < (vals ps x).length
    · rw [List.getElem?_append_left h1] at hz
      obtain ⟨u, u1, u2⟩ := hp2.2 i z hz
      exact ⟨u, by rw [Array.getElem?_append_left (by omega)]; exact u1, u2⟩
    · rw [List.getElem?_append_right (by omega), List.getElem?_replicate] at hz
      split at hz
      · rename_i h2
        injection hz with hz
        subst hz
        refine ⟨undef, ?_, .v _⟩
        rw [Array.getElem?_append_right (by omega), Array.getElem?_replicate, if_pos (by omega)]
      · cases hz
  let R : Ending → World → Prop := fun e w' => ∃ y z h' ι', e = .returned y ∧ Frz noTau h' z (cu ps res x).val ∧ Rep w' ι' (Mt h' ι') z y ∧ HRel h' ι' w' ∧ Evolve [] ι w h' ι' w'
  show Code.wp P _ (bodyPostM Fence.wide 3 P fn R) _ w
  have ex : ∀ (e : Exit) (s' : Y) (ι' : Iota) (a' : Act) (w' : World), e ≠ .normal → fin P fn.results.toList 0 (cu ps res x) (fun _ => True) e s' → SR s'.den ι' a' w' → EvN 0 (dens []) ι w s'.den.h ι' w' → bodyPostM Fence.wide 3 P fn R e a' w' := by
    intro e s' ι' a' w' he hq r' ev
    obtain ⟨he2, y, hy, hc⟩ := fin_ok hq
    obtain ⟨v, v1, v2⟩ := ares_run r' hy
    have : bodyPostM Fence.wide 3 P fn R .ret a' w' := by
      show LeavesInM Fence.wide 3 P fn a'.tmps R a'.defers .returning w'
      rw [r'.defers]
      exact ⟨v, v1, v, y, s'.den.h, ι', rfl, (cmpR_ok (τ := noTau) (fun _ _ => rfl) hc).1, v2, r'.heap, EvN.to (h := []) (w := w) (ι := ι) ev hh⟩
    rcases he2 with rfl | rfl
    · exact (he rfl).elim
    · exact this
  refine wp_piece hT hM hI hw r0 (fun s1 ι1 a1 w1 h1 r1 e1 => ?_) (fun e s' ι' a' w' he hq r' ev => ex e s' ι' a' w' he hq r' ev)
  refine wp_piece hT hM hI h1 r1 (fun s2 ι2 a2 w2 h2 r2 e2 => ?_) (fun e s' ι' a' w' he hq r' ev => ex e s' ι' a' w' he hq r' (e1.trans ev))
  have e2 := e1.trans e2
  refine wp_piece hT hM hI h2 r2 (fun s3 ι3 a3 w3 h3 r3 e3 => ?_) (fun e s' ι' a' w' he hq r' ev => ex e s' ι' a' w' he hq r' (e2.trans ev))
  have e3 := e2.trans e3
  refine wp_piece hT hM hI h3 r3 (fun s4 ι4 a4 w4 h4 r4 e4 => ?_) (fun e s' ι' a' w' he hq r' ev => ex e s' ι' a' w' he hq r' (e3.trans ev))
  have e4 := e3.trans e4
  refine wp_piece hT hM hI h4 r4 (fun s5 ι5 a5 w5 h5 r5 e5' => ?_) (fun e s' ι' a' w' he hq r' ev => ex e s' ι' a' w' he hq r' (e4.trans ev))
  have e5' := e4.trans e5'
  refine wp_seq ?_
  refine wp_piece hT hM hI h5 r5 (fun s6 ι6 a6 w6 h6 r6 e6 => ?_) (fun e s' ι' a' w' he hq r' ev => by
    have := ex e s' ι' a' w' he hq r' (e5'.trans ev)
    cases e with
    | normal => exact (he rfl).elim
    | _ => exact this)
  have e6 := e5'.trans e6
  unfold rfK at h6
  split at h6
  · rename_i cs i1 i2 jd D hh6
    obtain ⟨sl6, hp6, tch6, an6⟩ := s6
    simp only at h6
    split at h6
    case h_2 => exact h6.elim
    rename_i hblt
    obtain ⟨hcs, h6⟩ := needs_spec h6
    rw [fH_eq] at h6
    refine rf_block (T := T) (inl := inlN P T fl I 4) hT hM It eg hc12 (by simpa only [Nat.blt_eq] using hblt) hh6 (fun c q => hcs c (List.mem_cons_of_mem _ q)) (of_decide_eq_true (hcs _ (List.mem_cons_self ..))) h6 r6 ?_
    intro D0 ι7 w7 sl7 h7 hD0 hdf r7 e7 hx7
    have e7 := e6.trans e7
    show (Code.seq (.region id13 ops13 false) .ret).wp P (bodyPostM Fence.wide 3 P fn R) ⟨a6.tmps, [{ target := .collected D0, args := #[] }]⟩ w7
    refine wp_seq ?_
    refine wp_region ?_
    have pol := xops_ok (E := ⟨P, T, 0, 0, [], inlN P T fl I 4⟩) hT hI (W := wrOps ops13.toList) (fun _ q => q) ops13.toList 0 ⟨sl7, dens h7 |> fun _ => h7, [], []⟩ _ (fun o ho d hd => wrOps_ok ho d hd) hx7
    have hr : List.range ops13.size = List.range' 0 ops13.toList.length := by rw [List.range_eq_range']; simp
    rw [hr]
    have wo := wpOps_defers (P := P) [{ target := .collected D0, args := #[] }] (by rintro ⟨a, w, _, _, q, _⟩; cases q.1) _ a6.tmps [] w7 (pol 0 (fun j o hj => by simpa using hj) ι7 ⟨a6.tmps, []⟩ w7 r7)
    refine wpOps_mono ?_ _ _ _ wo
    rintro e a8 w8 ⟨ds, hds, st, ι8, ⟨rfl, s8, rfl, k8, _⟩, r8, ev8⟩
    have hds0 : ds = [] := r8.defers
    subst hds0
    simp only [List.nil_append] at hds
    show Code.wp P .ret (bodyPostM Fence.wide 3 P fn R) a8 w8
    refine wp_ret ?_
    show LeavesInM Fence.wide 3 P fn a8.tmps R a8.defers .returning w8
    rw [hds]
    have hdf8 : w8.heap[D0]? = some (.deferred (some [])) := ((EvN.of (n := 0) ev8).keepsOthers r7.heap).same D0 _ hdf rfl
    refine ⟨by simp, .inl ⟨D0, _, rfl, run_takeDeferred hdf8, ?_⟩⟩
    have hg := grownBy_putObj' w8 D0 (.deferred none)
    have hcalm := Calm.grown hg (fun r e => by cases e; exact ⟨_, hdf8, rfl⟩)
    have r9 := r8.calm hcalm
    have e9 := (e7.trans (EvN.of ev8)).calm hcalm (fun b hb => hg.block b (Nat.lt_of_lt_of_le hb (Nat.le_trans (e7.trans (EvN.of ev8)).size (Nat.le_refl _))) (fun q => by injection q with q; have := e6.size; omega))
    obtain ⟨sl8, hp8, tch8, an8⟩ := s8
    simp only at k8
    split at k8
    · rename_i y hy
      obtain ⟨⟨hy2⟩, _⟩ := k8
      obtain ⟨v, v1, v2⟩ := ares_run r9 hy
      subst hy2
      exact ⟨v, v1, v, _, _, ι8, rfl, by rw [hrb]; exact Frz.tree (.v _), v2, r9.heap, EvN.to (h := []) (w := w) (ι := ι) e9 hh⟩
    · exact k8.elim
  · exact h6.elim

end Go.Abs
