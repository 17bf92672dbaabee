/- Functions that end in a range over slices.Chunk, run in the kernel: lists of few pieces. -/
import Derived.Test.YtmlojnecmdnbpaaGreatDoorAbsRv
import Derived.Test.YtmlojnecmdnbpaaGreatDoorAbsRg
namespace Go.Abs
set_option linter.unusedVariables false
set_option linter.unusedSimpArgs false
noncomputable section

theorem Evolve.keepsO {h h' : Heap} {ι ι' : Iota} {w w' : World} (H : HRel h ι w) (e : Evolve h ι w h' ι' w') : KeepsOthers w w' :=
  ⟨e.size, fun k o hk ho => by
    have hlt : k < w.heap.size := (Array.getElem?_eq_some_iff.1 hk).1
    refine ((e.frame k hlt ?_).1).trans hk
    rintro ⟨id, x, l, q1, q2, q3⟩
    obtain ⟨l', c, fr, q4, la⟩ := H.live id x q1
    rw [q2] at q4; injection q4 with q4; subst q4
    have := la.blk
    rw [q3, hk] at this
    injection this with this; subst this; cases ho⟩
theorem Evolve.calmI {h h' : Heap} {ι ι' : Iota} {w0 w w' : World} (e : Evolve h ι w0 h' ι' w) (hc : Calm w w') (hlow : ∀ b, b < w0.heap.size → w'.heap[b]? = w.heap[b]?) : Evolve h ι w0 h' ι' w' :=
  ⟨hc.os.trans e.os, hc.tape.trans e.tape, hc.output.trans e.output, Nat.le_trans e.size hc.size, e.iota, e.away, fun b hb hn => let ⟨q1, q2⟩ := e.frame b hb hn; ⟨(hlow b hb).trans q1, q2⟩,
    fun b c el fr hb => let ⟨c', fr', q1, q2⟩ := e.sizes b c el fr hb; ⟨c', fr', hc.cells _ _ _ _ q1, q2⟩⟩
abbrev CkK (K : Nat) := { k : Nat // k < K }
def ckK (g off len es B : Nat) (st : Nat → Nat) (k : Nat) : Value := .slice (some ⟨g, off + st k * es, none⟩) (min B (len - st k)) (min B (len - st k))
/-- What the iterator does: K pieces, the k-th from st k on. -/
def ChunkItK (P : Program) (gf : FuncId) (es : Nat) : Prop := ∀ (n l b1 o1 b2 o2 g off len cap B K : Nat) (st : Nat → Nat) (sv : Value), ((sv = .slice none 0 0 ∧ len = 0) ∨ (sv = .slice (some ⟨g, off, none⟩) len cap ∧ len ≤ cap)) → len ≤ 1099511627776 → 1 ≤ B → B ≤ 1099511627776 →
  st 0 = 0 → (∀ k, st (k + 1) = st k + B) → (∀ k, k < K → st k < len) → len ≤ st K → ∀ (J Jx : List (CkK K) → World → Prop),
  (∀ s W W' row, J s W → W.grownBy W' row → (∀ r, row = some r → False) → J s W') →
  (∀ pre x W, J pre W → pre.length < K → YieldAt Fence.wide (n - 1) P l #[ckK g off len es B st x.1] W fun e W' =>
      (e = .returned (.bool true) ∧ J (pre ++ [x]) W' ∧ Kp ⟨b1, o1, none⟩ ⟨b2, o2, none⟩ W W') ∨ (e = .returned (.bool false) ∧ Jx (pre ++ [x]) W')) →
  ∀ (W : World), W.cell? ⟨b1, o1, none⟩ = some sv → W.cell? ⟨b2, o2, none⟩ = some (.int .i64 (B : Nat)) → J [] W →
    CallsIn Fence.wide n P gf #[.func (.yield l) #[] #[], .pointer (some ⟨b1, o1, none⟩), .pointer (some ⟨b2, o2, none⟩)] W fun e W' => (∃ v, e = .returned v) ∧
      ((∃ ys : List (CkK K), ys.map (·.1) = List.range K ∧ J ys W') ∨ (∃ pre, Jx pre W'))
theorem ChunkItK.stops {P : Program} {gf : FuncId} {es : Nat} (It : ChunkItK P gf es) (n b1 o1 b2 o2 g off len cap B K : Nat) (st : Nat → Nat) (sv : Value) (w : World) (hsv : (sv = .slice none 0 0 ∧ len = 0) ∨ (sv = .slice (some ⟨g, off, none⟩) len cap ∧ len ≤ cap)) (hlen : len ≤ 1099511627776) (hB1 : 1 ≤ B) (hB2 : B ≤ 1099511627776)
    (s0 : st 0 = 0) (s1 : ∀ k, st (k + 1) = st k + B) (s2 : ∀ k, k < K → st k < len) (s3 : len ≤ st K)
    (hb1 : b1 < w.heap.size) (hb2 : b2 < w.heap.size) (h1 : w.cell? ⟨b1, o1, none⟩ = some sv) (h2 : w.cell? ⟨b2, o2, none⟩ = some (.int .i64 (B : Nat))) :
    SeqStopsK Fence.wide n P gf #[.pointer (some ⟨b1, o1, none⟩), .pointer (some ⟨b2, o2, none⟩)] (fun x : CkK K => #[ckK g off len es B st x.1]) (Kp ⟨b1, o1, none⟩ ⟨b2, o2, none⟩)
      (fun ys => ys.map (·.1) = List.range K) (fun _ => True) K w := by
  intro l J Jx W hW hJ hJx hY h0
  refine (It n l b1 o1 b2 o2 g off len cap B K st sv hsv hlen hB1 hB2 s0 s1 s2 s3 J Jx (fun s W1 W' row hs hg hr => hJ s W1 W' row hs hg (fun r e => (hr r e).elim)) hY W ((hW.cell (p := ⟨b1, o1, none⟩) hb1).trans h1) ((hW.cell (p := ⟨b2, o2, none⟩) hb2).trans h2) h0).mono ?_
  rintro e W' ⟨he, h | ⟨pre, h⟩⟩
  · exact ⟨he, .inl h⟩
  · exact ⟨he, .inr ⟨pre, trivial, h⟩⟩

theorem killH {h : Heap} {ι : Iota} {w : World} (H : HRel h ι w) (id : Nat) : HRel (h.set id .dead) ι w ∧ Evolve h ι w (h.set id .dead) ι w := by
  have hk : ∀ x : Nat, (h.set id .dead)[x]? = h[x]? ∨ (h.set id .dead)[x]? = some HS.dead := fun x => by
    by_cases e : id = x
    · subst e
      by_cases q : id < h.length
      · exact .inr (List.getElem?_set_self q)
      · left; rw [List.getElem?_eq_none (by simp; omega), List.getElem?_eq_none (by omega)]
    · exact .inl (List.getElem?_set_ne e)
  exact H.killed hk (by simp) (fun _ => False) (fun _ q => q.elim) rfl rfl rfl rfl (fun _ _ => rfl) (fun _ c _ fr q => ⟨c, fr, q, rfl⟩)
theorem rep_part {w : World} {ι : Iota} {M : Nat → Prop} {id off len cap es g o p m : Nat} {l : Loc} (hl : ι id = some l) (hs : l.sz = es) (r : Rep w ι M (.sO id off len) (.slice (some ⟨g, o, none⟩) len cap)) (hm : p + m ≤ len) : Rep w ι M (.sO id (off + p) m) (.slice (some ⟨g, o + p * es, none⟩) m m) := by
  cases r with
  | sO _ _ _ _ l2 c e fr hl2 hcap hb hsz =>
    rw [hl] at hl2; injection hl2 with hl2; subst hl2
    have h1 : (off + p + m) * l.sz ≤ (off + cap) * l.sz := Nat.mul_le_mul_right _ (by omega)
    have := Rep.sO (M := M) id (off + p) m m l c e fr hl (Nat.le_refl _) hb (by omega)
    rw [Nat.add_mul, hs, ← Nat.add_assoc] at this
    rw [hs]
    exact this

/-- The region of a round, with the same claim inside a round. -/
def InRd (P : Program) (c : Code) (s s' : RS) : Prop := ∀ (l n : Nat) (ι : Iota) (a : Act) (w : World), SR s.den ι a w → c.wpIn (Fence.wide.inRound l) n P (Post s.den ι w (fun e st => e = .normal ∧ st = s'.den)) a w
def rregR (P : Program) (ih : RT → Option RR) : Code → RS → Option RS
  | .region _ ops d, s => bif calmOps ops then (match d with
    | true => (match rreg P ih ops s with
      | some (.code .normal s') => some s'
      | _ => none)
    | false => (match ih (.ops ops ops.toList s) with
      | some (.code .normal s') => some s'
      | _ => none)) else none
  | _, _ => none
theorem noLet {s : St} {ι : Iota} {w : World} {s' : St} : ¬ LetsOut (Post s ι w (fun e st => e = .normal ∧ st = s')) := by
  rintro ⟨a, w, _, _, ⟨q, _⟩, _⟩; cases q
theorem rregR_ok {P : Program} (hm : P.follows .mixedOrders = true) {ih : RT → Option RR} (hih : RIH P ih) {c : Code} {s s' : RS} (h : rregR P ih c s = some s') : Fr' s.h s'.h ∧ InRd P c s s' := by
  cases c with
  | region id ops d =>
    simp only [rregR] at h
    cases hc : calmOps ops with
    | false => rw [hc] at h; cases h
    | true =>
      rw [hc] at h
      simp only [cond_true] at h
      cases d with
      | true =>
        simp only at h
        split at h
        · rename_i s2 hr
          injection h with h; subst h
          obtain ⟨fr, _, hw⟩ := rreg_ops hm hih hr
          exact ⟨fr, fun l n ι a w r => wpIn_region_draw fun t => wpOps_inRound l n (calmOps_ok hc) noLet _ _ _ (hw ι a w r t)⟩
        · cases h
      | false =>
        simp only at h
        split at h
        · rename_i s2 hr
          injection h with h; subst h
          obtain ⟨_, fr, q⟩ := hih _ _ hr
          refine ⟨fr, fun l n ι a w r => wpIn_region ?_⟩
          have hr : List.range ops.size = List.range' 0 ops.toList.length := by rw [List.range_eq_range']; simp
          rw [hr]
          exact wpOps_inRound l n (calmOps_ok hc) noLet _ _ _ (q 0 (fun j o hj => by simpa using hj) ι a w r)
        · cases h
  | _ => cases h

/-- The head of such a loop: the iterator's objects i1, i2; the list as it lies in i1, its length; the length of a piece. -/
structure RCk where
  gf : FuncId
  i1 : Nat
  i2 : Nat
  y : V
  len : Nat
  B : Nat
  es : Nat
def rckHead (C : FuncId → Nat) (H : RH) (g : V) : Option RCk := match g with
  | .fn (.func gf) [] [.pO i1 0 0, .pO i2 0 0] => match H.get i1, H.get i2 with
    | some (.live o1), some (.live o2) => match o1.rows, o2.rows with
      | [[y]], [[.v (.int .i64 (.ofNat B))]] => match y with
        | .v (.slice none 0 0) => some ⟨gf, i1, i2, y, 0, B, C gf⟩
        | .sO j off len => match H.get j with
          | some (.live o) => bif !Nat.beq j i1 && (!Nat.beq j i2 && Nat.beq o.sz (C gf)) then some ⟨gf, i1, i2, y, len, B, C gf⟩ else none
          | _ => none
        | _ => none
      | _, _ => none
    | _, _ => none
  | _ => none
/-- The k-th piece. -/
def rckPart (r : RCk) (k : Nat) : V := match r.y with
  | .sO j off len => .sO j (off + r.B * k) (min r.B (len - r.B * k))
  | y => y
def rckNum (r : RCk) : Nat := (r.len + r.B - 1) / r.B
def rckOk (r : RCk) : Bool := !Nat.beq r.i1 r.i2 && (Nat.ble r.len 1099511627776 && (Nat.ble 1 r.B && Nat.ble r.B 1099511627776))
def rckH (H : RH) (r : RCk) : RH := ⟨H.m, H.nx, (H.t.set r.i1 .dead).set r.i2 .dead, r.i1 :: r.i2 :: H.lg⟩
theorem rckH_den (H : RH) (r : RCk) : (rckH H r).den = (H.den.set r.i1 .dead).set r.i2 .dead := by
  have h1 := den_set (H.set r.i1 .dead) r.i2 .dead
  have h2 := den_set H r.i1 .dead
  exact h1.trans (congrArg (fun l : List HS => l.set r.i2 .dead) h2)
theorem rckH_fr (H : RH) (r : RCk) : Fr' H (rckH H r) := by
  refine ⟨rfl, [r.i1, r.i2], rfl, fun i hi => ?_⟩
  simp only [List.mem_cons, List.not_mem_nil, or_false, not_or] at hi
  rw [← den_get, ← den_get, rckH_den, List.getElem?_set_ne (Ne.symm hi.2), List.getElem?_set_ne (Ne.symm hi.1)]
/-- A round with the k-th piece. -/
def rround (P : Program) (ih : RT → Option RR) (p q : Nat) (body : Code) (s : RS) (r : RCk) (H : RH) (k : Nat) : Option RH := match rregR P ih body ⟨s.n, (s.sl.set p (rckPart r k)).set q (rckPart r k), H⟩ with
  | some s2 => some s2.h
  | none => none
/-- All rounds, in whatever order, d of them. -/
def rall (R : RH → Nat → Option RH) (K : Nat) : Nat → RH → Bool
  | 0, _ => true
  | d + 1, H => (List.range K).all fun k => match R H k with
    | some H' => rall R K d H'
    | none => false
def rseq (R : RH → Nat → Option RH) : List Nat → RH → Option RH
  | [], H => some H
  | k :: l, H => match R H k with
    | some H' => rseq R l H'
    | none => none
theorem rseq_app {R : RH → Nat → Option RH} : ∀ (l : List Nat) (k : Nat) (H H1 : RH), rseq R l H = some H1 → rseq R (l ++ [k]) H = R H1 k
  | [], k, H, H1, h => by injection h with h; subst h; show (match R H k with | some H' => some H' | none => none) = _; cases R H k <;> rfl
  | x :: l, k, H, H1, h => by
    simp only [rseq] at h
    split at h
    · rename_i H' hx
      show (match R H x with | some H' => rseq R (l ++ [k]) H' | none => none) = _
      rw [hx]
      exact rseq_app l k H' H1 h
    · cases h
/-- The loop: what is behind it. -/
def rckRun (P : Program) (ih : RT → Option RR) (p q : Nat) (body : Code) (s : RS) (r : RCk) : Option RH :=
  bif rckOk r && (Nat.blt p s.n && rall (rround P ih p q body s r) (rckNum r) (rckNum r) (rckH s.h r)) then rseq (rround P ih p q body s r) (List.range (rckNum r)) (rckH s.h r) else none
theorem rround_ok {P : Program} (hm : P.follows .mixedOrders = true) {ih : RT → Option RR} (hih : RIH P ih) {p q : Nat} {body : Code} {s : RS} {r : RCk} {H H' : RH} {k : Nat} (h : rround P ih p q body s r H k = some H') :
    Fr' H H' ∧ ∃ s2 : RS, s2.h = H' ∧ InRd P body ⟨s.n, (s.sl.set p (rckPart r k)).set q (rckPart r k), H⟩ s2 := by
  unfold rround at h
  split at h
  · rename_i s2 h2
    injection h with h
    obtain ⟨f, hin⟩ := rregR_ok hm hih h2
    subst h
    exact ⟨f, s2, rfl, hin⟩
  · cases h
theorem rseq_fr {P : Program} (hm : P.follows .mixedOrders = true) {ih : RT → Option RR} (hih : RIH P ih) {p q : Nat} {body : Code} {s : RS} {r : RCk} : ∀ (l : List Nat) (H H' : RH), rseq (rround P ih p q body s r) l H = some H' → Fr' H H'
  | [], H, H', h => by injection h with h; subst h; exact Fr'.refl _
  | k :: l, H, H', h => by
    simp only [rseq] at h
    split at h
    · rename_i H1 h1
      exact (rround_ok hm hih h1).1.trans (rseq_fr hm hih l H1 H' h)
    · cases h
theorem rckRun_fr {P : Program} (hm : P.follows .mixedOrders = true) {ih : RT → Option RR} (hih : RIH P ih) {p q : Nat} {body : Code} {s : RS} {r : RCk} {H2 : RH} (h : rckRun P ih p q body s r = some H2) : Fr' s.h H2 := by
  unfold rckRun at h
  cases hok : (rckOk r && (Nat.blt p s.n && rall (rround P ih p q body s r) (rckNum r) (rckNum r) (rckH s.h r))) with
  | false => rw [hok] at h; cases h
  | true =>
    rw [hok] at h
    exact (rckH_fr s.h r).trans (rseq_fr hm hih _ _ _ h)

theorem rck_block {P : Program} (hm : P.follows .mixedOrders = true) {ih : RT → Option RR} (hih : RIH P ih) {r : RCk} (It : ChunkItK P r.gf r.es) (eg : ∀ (args : Array Value) (w : World), (callFunc r.gf args).run P w = .ok (.enter r.gf args) w)
    {gt p q bid bid2 id11 : Nat} {ty11 : TypeId} {pos11 : String} {body : Code} {s : RS} {g : V} (hg : rat s.n s.sl gt = some g) {C : FuncId → Nat} (hh : rckHead C s.h g = some r) {H2 : RH} (hrun : rckRun P ih p q body s r = some H2) {ι : Iota} {a : Act} {w : World} (sr : SR s.den ι a w) {Qw : Exit → Act → World → Prop}
    (hq : ∀ (D0 : Nat) (ι' : Iota) (w' : World), w.heap.size ≤ D0 → w'.heap[D0]? = some (.deferred (some [])) → SR ⟨s.slots, H2.den⟩ ι' ⟨a.tmps, []⟩ w' → Evolve s.h.den ι w H2.den ι' w' → Qw .normal ⟨a.tmps, [{ target := .collected D0, args := #[] }]⟩ w') :
    (Code.block bid (.rangeFunc (.tmp gt) #[p] (.region id11 #[{ dst := some q, op := .assign (.tmp p), type := ty11, pos := pos11, after := #[], guard := none }] false) (.block bid2 body))).wp P Qw a w := by
  unfold rckRun at hrun
  cases hok : (rckOk r && (Nat.blt p s.n && rall (rround P ih p q body s r) (rckNum r) (rckNum r) (rckH s.h r))) with
  | false => rw [hok] at hrun; cases hrun
  | true =>
  rw [hok] at hrun
  simp only [cond_true] at hrun
  obtain ⟨hok, hp2⟩ := Bool.and_eq_true_iff.1 hok
  obtain ⟨hp, hall⟩ := Bool.and_eq_true_iff.1 hp2
  have hp : p < s.n := Nat.le_of_ble_eq_true hp
  unfold rckOk at hok
  obtain ⟨k1, k2⟩ := Bool.and_eq_true_iff.1 hok
  obtain ⟨k3, k4⟩ := Bool.and_eq_true_iff.1 k2
  obtain ⟨k5, k6⟩ := Bool.and_eq_true_iff.1 k4
  have n12 : r.i1 ≠ r.i2 := fun e => by rw [e, Tr.beq_yes] at k1; cases k1
  have hlen := Nat.le_of_ble_eq_true k3
  have hB1 := Nat.le_of_ble_eq_true k5
  have hB2 := Nat.le_of_ble_eq_true k6
  generalize hK : rckNum r = K at *
  have st1 : ∀ k, r.B * (k + 1) = r.B * k + r.B := fun k => Nat.mul_succ _ _
  have st2 : ∀ k, k < K → r.B * k < r.len := by
    intro k hk
    rw [← hK, rckNum, Nat.lt_div_iff_mul_lt (by omega)] at hk
    rw [Nat.mul_comm]; omega
  have st3 : r.len ≤ r.B * K := by
    rw [← hK, rckNum]
    have h1 := Nat.div_add_mod (r.len + r.B - 1) r.B
    have h2 := Nat.mod_lt (r.len + r.B - 1) (show r.B > 0 by omega)
    omega
  -- the head
  obtain ⟨o1, o2, e1, ho1, ho2, r1, r2, hy⟩ : ∃ o1 o2, g = .fn (.func r.gf) [] [.pO r.i1 0 0, .pO r.i2 0 0] ∧ s.h.get r.i1 = some (.live o1) ∧ s.h.get r.i2 = some (.live o2) ∧ o1.rows = [[r.y]] ∧ o2.rows = [[.v (.int .i64 (r.B : Nat))]] ∧
      ((r.y = .v (.slice none 0 0) ∧ r.len = 0) ∨ ∃ j off o, r.y = .sO j off r.len ∧ s.h.get j = some (.live o) ∧ o.sz = r.es) := by
    unfold rckHead at hh
    split at hh
    · split at hh
      · rename_i gf i1 i2 _ _ o1 o2 h1 h2
        split at hh
        · rename_i y B q1 q2
          split at hh
          · injection hh with hh; subst hh
            exact ⟨o1, o2, rfl, h1, h2, q1, q2, .inl ⟨rfl, rfl⟩⟩
          · rename_i j off len
            split at hh
            · rename_i o ho
              cases hj : (!Nat.beq j i1 && (!Nat.beq j i2 && Nat.beq o.sz (C gf))) with
              | false => rw [hj] at hh; cases hh
              | true =>
                rw [hj] at hh
                injection hh with hh; subst hh
                exact ⟨o1, o2, rfl, h1, h2, q1, q2, .inr ⟨j, off, o, rfl, ho, Nat.eq_of_beq_eq_true (Bool.and_eq_true_iff.1 (Bool.and_eq_true_iff.1 hj).2).2⟩⟩
            · cases hh
          · cases hh
        · cases hh
      · cases hh
    · cases hh
  subst e1
  have H := sr.heap
  have d1 : s.h.den[r.i1]? = some (.live o1) := by rw [den_get]; exact ho1
  have d2 : s.h.den[r.i2]? = some (.live o2) := by rw [den_get]; exact ho2
  obtain ⟨L1, c1, fr1, hL1, la1⟩ := H.live r.i1 o1 d1
  obtain ⟨L2, c2, fr2, hL2, la2⟩ := H.live r.i2 o2 d2
  obtain ⟨Hk1, ek1⟩ := killH H r.i1
  obtain ⟨Hk2, ek2⟩ := killH Hk1 r.i2
  have evk := ek1.trans ek2
  have hkd := rckH_den s.h r
  have Hk2 : HRel (rckH s.h r).den ι w := by rw [hkd]; exact Hk2
  have evk : Evolve s.h.den ι w (rckH s.h r).den ι w := by rw [hkd]; exact evk
  generalize hH1 : rckH s.h r = H1 at hrun hall Hk2 evk
  have sr1 : SR ⟨s.slots, H1.den⟩ ι a w := ⟨sr.defers, sr.slots.mono evk, Hk2⟩
  have old : ∀ (id : Nat) (o : AObj), H1.den[id]? = some (.live o) → s.h.den[id]? = some (.live o) ∧ id ≠ r.i1 ∧ id ≠ r.i2 := by
    intro id o z
    rw [← hH1, hkd] at z
    have one : ∀ (h : Heap) (k : Nat), (h.set k .dead)[id]? = some (.live o) → id ≠ k ∧ h[id]? = some (.live o) := by
      intro h k z
      by_cases e : k = id
      · subst e
        rw [List.getElem?_set] at z
        simp only [if_pos] at z
        split at z <;> cases z
      · rw [List.getElem?_set_ne e] at z
        exact ⟨Ne.symm e, z⟩
    obtain ⟨z1, z2⟩ := one _ _ z
    obtain ⟨z3, z4⟩ := one _ _ z2
    exact ⟨z4, z3, z1⟩
  have nob : ∀ (k : Nat) (o : AObj) (L : Loc), (k = r.i1 ∨ k = r.i2) → s.h.den[k]? = some (.live o) → ι k = some L → ¬ Ob H1.den ι L.blk := by
    rintro k o L hk ho hl ⟨id, o', L', z1, z2, z3⟩
    obtain ⟨z4, m1, m2⟩ := old id o' z1
    have := H.apart _ _ _ _ _ _ z4 z2 ho hl z3
    subst this
    rcases hk with z | z
    · exact m1 z
    · exact m2 z
  have hn1 := nob r.i1 o1 L1 (.inl rfl) d1 hL1
  have hn2 := nob r.i2 o2 L2 (.inr rfl) d2 hL2
  obtain ⟨x1, hx1, rx1⟩ := la1.reads 0 (by simp [r1]) 0 (by simp [r1])
  obtain ⟨x2, hx2, rx2⟩ := la2.reads 0 (by simp [r2]) 0 (by simp [r2])
  have rx1 : Rep w ι (Mt s.den.h ι) r.y x1 := by simpa [r1] using rx1
  have rx1 : Rep w ι (Mt s.h.den ι) r.y x1 := rx1
  have rx2 : Rep w ι (Mt s.den.h ι) (.v (.int .i64 (r.B : Nat))) x2 := by simpa [r2] using rx2
  cases rx2
  have hb1 : L1.blk < w.heap.size := (Array.getElem?_eq_some_iff.1 la1.blk).1
  have hb2 : L2.blk < w.heap.size := (Array.getElem?_eq_some_iff.1 la2.blk).1
  have hc1 : w.cell? ⟨L1.blk, L1.base + 0 * L1.sz + 0, none⟩ = some x1 := by
    simp only [World.cell?, la1.blk]
    rw [← hx1]; simp
  have hc2 : w.cell? ⟨L2.blk, L2.base + 0 * L2.sz + 0, none⟩ = some (.int .i64 (r.B : Nat)) := by
    simp only [World.cell?, la2.blk]
    rw [← hx2]; simp
  obtain ⟨y, y1, y2⟩ := sr.slots.2 gt _ (by show s.slots[gt]? = _; rw [slots_get]; exact hg)
  have hev0 : a.eval (.tmp gt) = y := by
    simp only [Act.eval]
    have hlt := (Array.getElem?_eq_some_iff.1 y1).1
    rw [Array.getElem?_eq_getElem hlt] at y1
    injection y1 with y1
    simp [Array.getD, hlt, y1]
  have hfun : y = .func (.func r.gf) #[] #[.pointer (some ⟨L1.blk, L1.base + 0 * L1.sz + 0, none⟩), .pointer (some ⟨L2.blk, L2.base + 0 * L2.sz + 0, none⟩)] := by
    cases y2 with
    | fn _ _ _ vs us q1 q2 q3 q4 =>
      have hvs : vs = #[] := Array.eq_empty_of_size_eq_zero q1.symm
      have hus : us.size = 2 := q2.symm
      have u0 : Rep w ι (Mt s.h.den ι) (.pO r.i1 0 0) us[0] := q4 0 (by simp) (by omega)
      have u1 : Rep w ι (Mt s.h.den ι) (.pO r.i2 0 0) us[1] := q4 1 (by simp) (by omega)
      have v0 : us[0] = .pointer (some ⟨L1.blk, L1.base + 0 * L1.sz + 0, none⟩) := by
        generalize us[0] = z at u0
        cases u0 with | pO _ _ _ l hl => rw [hL1] at hl; injection hl with hl; subst hl; rfl
      have v1 : us[1] = .pointer (some ⟨L2.blk, L2.base + 0 * L2.sz + 0, none⟩) := by
        generalize us[1] = z at u1
        cases u1 with | pO _ _ _ l hl => rw [hL2] at hl; injection hl with hl; subst hl; rfl
      rw [hvs]
      congr 1
      refine Array.ext (by rw [hus]; rfl) (fun i h1 h2 => ?_)
      match i, h1 with
      | 0, _ => exact v0
      | 1, _ => exact v1
      | i + 2, h1 => rw [hus] at h1; omega
  have hev := hev0.trans hfun
  obtain ⟨bg, og, cap, hsv, hpart⟩ : ∃ (bg og cap : Nat), ((x1 = .slice none 0 0 ∧ r.len = 0) ∨ (x1 = .slice (some ⟨bg, og, none⟩) r.len cap ∧ r.len ≤ cap)) ∧ (∀ k, k < K → Rep w ι (Mt s.h.den ι) (rckPart r k) (ckK bg og r.len r.es r.B (fun k => r.B * k) k)) := by
    rcases hy with ⟨z1, z2⟩ | ⟨j, off, o, z1, ho, hes⟩
    · rw [z1] at rx1
      cases rx1
      exact ⟨0, 0, 0, .inl ⟨rfl, z2⟩, fun k hk => by have := st2 k hk; omega⟩
    · obtain ⟨Lj, cj, frj, hLj, laj⟩ := H.live j o (show s.h.den[j]? = _ by rw [den_get]; exact ho)
      have rx := rx1
      rw [z1] at rx
      cases rx with
      | sO _ _ _ cap l c e fr hl hcap hb hs =>
        refine ⟨l.blk, l.base + off * l.sz, cap, .inr ⟨rfl, hcap⟩, fun k hk => ?_⟩
        have hk := st2 k hk
        rw [rckPart, z1]
        simp only [ckK]
        rw [hLj] at hl; injection hl with hl; subst hl
        exact rep_part hLj (laj.sz.trans hes) (.sO j off r.len cap Lj c e fr hLj hcap hb hs) (by omega)
  have hdef : a.defers = [] := sr.defers
  have hact : a = ⟨a.tmps, []⟩ := by cases a; simp at hdef; subst hdef; rfl
  have hpa : p < a.tmps.size := by
    have := sr.slots.1
    simp only [RS.den, RS.slots, List.length_map, List.length_range] at this
    omega
  let R := rround P ih p q body s r
  let I : List (CkK K) → World → Prop := fun pre X => pre.length ≤ K ∧ ∃ Hc, rseq R (pre.map (·.1)) H1 = some Hc ∧ rall R K (K - pre.length) Hc = true ∧ ∃ ι', SR ⟨s.slots, Hc.den⟩ ι' ⟨a.tmps, []⟩ X ∧ Evolve H1.den ι w Hc.den ι' X
  refine (wpIn_wide (n := 3)).1 ?_
  refine wpIn_block ?_
  refine wpIn_rangeFunc_ownF rfl (by omega) (gf := r.gf) (lb := #[.pointer (some ⟨L1.blk, L1.base + 0 * L1.sz + 0, none⟩), .pointer (some ⟨L2.blk, L2.base + 0 * L2.sz + 0, none⟩)]) hev trivial eg
    (It.stops (3 - 1) L1.blk (L1.base + 0 * L1.sz + 0) L2.blk (L2.base + 0 * L2.sz + 0) bg og r.len cap r.B K (fun k => r.B * k) x1 w hsv hlen hB1 hB2 (Nat.mul_zero _) st1 st2 st3 hb1 hb2 hc1 hc2) (fun h k => ⟨k.1.trans h.1, k.2.trans h.2⟩)
    (fun X l o o' hle ho hcell _ => ⟨cell_of_heap (World.putObj_heap_other (by simp only; omega)), cell_of_heap (World.putObj_heap_other (by simp only; omega))⟩) (RowKit.Below.refl _ _) (fun _ => rfl)
    I (fun _ _ _ => False) ?own (fun _ _ _ _ _ q _ _ => q) ⟨Nat.zero_le _, H1, rfl, hall, ι, hact ▸ sr1, Evolve.refl _ _ _⟩
    (fun x => ⟨(a.tmps.setIfInBounds p (ckK bg og r.len r.es r.B (fun k => r.B * k) x.1)).setIfInBounds q (ckK bg og r.len r.es r.B (fun k => r.B * k) x.1), []⟩) ?assign ?body ?done ?stop
  case own =>
    rintro pre X Y row ⟨hpl, Hc, z1, z2, ι', q1, q2⟩ hg hr
    have hc := Calm.grown hg (fun r e => (hr r e).2)
    exact ⟨hpl, Hc, z1, z2, ι', q1.calm hc, q2.calmI hc (fun b hb => hg.block b (Nat.lt_of_lt_of_le hb q2.size) (fun e => by have := (hr b e.symm).1; omega))⟩
  case assign =>
    intro l x X K' hK'
    have hz : (#[p].zip #[ckK bg og r.len r.es r.B (fun k => r.B * k) x.1]).foldl (fun t (p, v) => t.setIfInBounds p v) a.tmps = a.tmps.setIfInBounds p (ckK bg og r.len r.es r.B (fun k => r.B * k) x.1) := by simp
    rw [hz]
    exact assign_in hpa hK'
  case stop =>
    intro D0 c pre X _ _ hF _
    exact hF.elim
  case done =>
    rintro D0 xs X hD0 hl ⟨_, Hc, z1, _, ι', q1, q2⟩ hdf
    simp only [Exit.inBlock]
    rw [hdef]
    rw [hl] at z1
    have e : Hc = H2 := Option.some.inj (z1.symm.trans hrun)
    subst e
    exact hq D0 ι' X hD0 hdf q1 (evk.trans q2)
  case body =>
    rintro l pre x X ⟨hpl, Hc, z1, z2, ι', q1, q2⟩ hpre
    refine wpIn_block ?_
    obtain ⟨d, hd⟩ : ∃ d, K - pre.length = d + 1 := ⟨K - pre.length - 1, by omega⟩
    rw [hd] at z2
    simp only [rall] at z2
    have z3 := List.all_eq_true.1 z2 x.1 (List.mem_range.2 x.2)
    split at z3
    rotate_left
    · cases z3
    rename_i Hn hrn
    obtain ⟨_, s2, hs2, hin⟩ := rround_ok hm hih hrn
    have hrep : Rep X ι' (Mt Hc.den ι') (rckPart r x.1) (ckK bg og r.len r.es r.B (fun k => r.B * k) x.1) := ((hpart x.1 x.2).mono evk).mono q2
    have sr2 := q1.slots.sets p hrep
    have sr2 := SRel.sets sr2 q hrep
    have e1 : (⟨s.n, (s.sl.set p (rckPart r x.1)).set q (rckPart r x.1), Hc⟩ : RS).slots = (s.slots.set p (rckPart r x.1)).set q (rckPart r x.1) := by
      have h1 := rput_slots s (some p) (rckPart r x.1) Hc
      have h2 := rput_slots ⟨s.n, s.sl.set p (rckPart r x.1), Hc⟩ (some q) (rckPart r x.1) Hc
      exact h2.trans (congrArg (fun l : List V => l.set q (rckPart r x.1)) h1)
    refine wpIn_mono (hin l _ ι' _ X ⟨rfl, by rw [RS.den, e1]; exact sr2, q1.heap⟩) ?_
    rintro e a3 X3 ⟨st, ι3, ⟨rfl, rfl⟩, r3, e3⟩
    have e3 : Evolve Hc.den ι' X s2.h.den ι3 X3 := e3
    have m1 := q2.frame L1.blk hb1 hn1
    have m2 := q2.frame L2.blk hb2 hn2
    refine ⟨e3.keepsO q1.heap, ⟨cell_of_heap (e3.frame L1.blk (Nat.lt_of_lt_of_le hb1 q2.size) m1.2).1, cell_of_heap (e3.frame L2.blk (Nat.lt_of_lt_of_le hb2 q2.size) m2.2).1⟩, ?_, Hn, ?_, ?_, ι3, ?_, ?_⟩
    · simp only [List.length_append, List.length_cons, List.length_nil]; omega
    · rw [List.map_append]; exact (rseq_app _ _ _ _ z1).trans hrn
    · have : K - (pre ++ [x]).length = d := by simp only [List.length_append, List.length_cons, List.length_nil]; omega
      rw [this]; exact z3
    · rw [← hs2]; exact ⟨rfl, q1.slots.mono e3, r3.heap⟩
    · rw [← hs2]; exact q2.trans e3

/- the whole function -/
structure LoopP where
  bid : Nat
  gt : Nat
  p : Nat
  q : Nat
  id11 : Nat
  ty : TypeId
  pos : String
  bid2 : Nat
  body : Code
def LoopP.code (L : LoopP) : Code := .block L.bid (.rangeFunc (.tmp L.gt) #[L.p] (.region L.id11 #[{ dst := some L.q, op := .assign (.tmp L.p), type := L.ty, pos := L.pos, after := #[], guard := none }] false) (.block L.bid2 L.body))
def isLoop : Code → Option LoopP
  | .block bid (.rangeFunc (.tmp gt) ⟨[p]⟩ (.region id11 ⟨[o]⟩ false) (.block bid2 body)) => match o with
    | { dst := some q, op := .assign (.tmp p'), type := ty, pos := pos, after := ⟨[]⟩, guard := none } => bif Nat.beq p' p then some ⟨bid, gt, p, q, id11, ty, pos, bid2, body⟩ else none
    | _ => none
  | _ => none
theorem isLoop_ok {c : Code} {L : LoopP} (h : isLoop c = some L) : c = L.code := by
  unfold isLoop at h
  split at h
  · split at h
    · rename_i _ _ p _ _ _ _ _ p' _ _
      cases q : Nat.beq p' p with
      | false => rw [q] at h; cases h
      | true =>
        rw [q] at h
        injection h with h; subst h
        have q := Nat.eq_of_beq_eq_true q
        subst q
        rfl
    · cases h
  · cases h
def loopOf (a b : Code) : Option (Code × LoopP × Nat × Array Oper) := match a, b with
  | .seq a6 lp, .seq (.region id ops false) .ret => match isLoop lp with
    | some L => some (a6, L, id, ops)
    | none => none
  | _, _ => none
theorem loopOf_ok {a b a6 : Code} {L : LoopP} {id : Nat} {ops : Array Oper} (h : loopOf a b = some (a6, L, id, ops)) : a = .seq a6 L.code ∧ b = .seq (.region id ops false) .ret := by
  unfold loopOf at h
  split at h
  · split at h
    · rename_i hl
      injection h with h; injection h with h1 h; injection h with h2 h; injection h with h3 h4; subst h1 h2 h3 h4
      rw [isLoop_ok hl]
      exact ⟨rfl, rfl⟩
    · cases h
  · cases h
def rtail (P : Program) (C : FuncId → Nat) (ih : RT → Option RR) (rs : List ResultVar) : Nat → Code → RS → Option (V × RH)
  | 0, _, _ => none
  | n + 1, c, s => match c with
    | .seq a b => match loopOf a b with
      | some (a6, L, id13, ops13) => (match ih (.code a6 s) with
        | some (.code .normal s1) => (match rat s1.n s1.sl L.gt with
          | some g => (match rckHead C s1.h g with
            | some r => bif !Nat.beq (C r.gf) 0 && Nat.beq (C r.gf) r.es then (match rckRun P ih L.p L.q L.body s1 r with
              | some H2 => (match ih (.ops ops13 ops13.toList ⟨s1.n, s1.sl, H2⟩) with
                | some (.code .normal s3) => (match rares P rs s3 with
                  | some x => some (x, s3.h)
                  | none => none)
                | _ => none)
              | none => none) else none
            | none => none)
          | none => none)
        | _ => none)
      | none => (match ih (.code a s) with
        | some (.code .normal s1) => rtail P C ih rs n b s1
        | some (.code .ret s1) => (match rares P rs s1 with
          | some x => some (x, s1.h)
          | none => none)
        | _ => none)
    | _ => none
def RFin (P : Program) (h0 : Heap) (ι0 : Iota) (w0 : World) (x : V) (k : Heap) : Ending → World → Prop := fun e w' => ∃ y z h' ι', e = .returned y ∧ (z = x ∧ h' = k) ∧ Rep w' ι' (Mt h' ι') z y ∧ HRel h' ι' w' ∧ Evolve h0 ι0 w0 h' ι' w'
theorem rtail_ok {P : Program} (hm : P.follows .mixedOrders = true) {C : FuncId → Nat} {ih : RT → Option RR} (hih : RIH P ih) (hC : ∀ g, C g ≠ 0 → ChunkItK P g (C g) ∧ callable P g = true) {fn : Func} : ∀ (n : Nat) (c : Code) (s : RS) (x : V) (H' : RH), rtail P C ih fn.results.toList n c s = some (x, H') →
    Fr' s.h H' ∧ ∀ (h0 : Heap) (ι0 : Iota) (w0 : World) (ι : Iota) (a : Act) (w : World), SR s.den ι a w → Evolve h0 ι0 w0 s.h.den ι w → c.wp P (bodyPostM Fence.wide 3 P fn (RFin P h0 ι0 w0 x H'.den)) a w
  | 0, _, _, _, _, h => by cases h
  | n + 1, c, s, x, H', h => by
    have ret : ∀ {s1 : RS} {y : V}, rares P fn.results.toList s1 = some y → ∀ (h0 : Heap) (ι0 : Iota) (w0 : World) (ι : Iota) (a : Act) (w : World), SR s1.den ι a w → Evolve h0 ι0 w0 s1.h.den ι w → bodyPostM Fence.wide 3 P fn (RFin P h0 ι0 w0 y s1.h.den) .ret a w := by
      intro s1 y hy h0 ι0 w0 ι a w r ev
      obtain ⟨v, v1, v2⟩ := ares_run r (rares_ok hy)
      show LeavesInM Fence.wide 3 P fn a.tmps _ a.defers .returning w
      rw [r.defers]
      exact ⟨v, v1, v, y, s1.h.den, ι, rfl, ⟨rfl, rfl⟩, v2, r.heap, ev⟩
    cases c with
    | seq a b =>
      simp only [rtail] at h
      split at h
      · rename_i a6 L id13 ops13 hlo
        obtain ⟨ea, eb⟩ := loopOf_ok hlo
        subst ea eb
        split at h
        · rename_i s1 h1
          split at h
          · rename_i g hg
            split at h
            · rename_i r hr
              cases hcg : (!Nat.beq (C r.gf) 0 && Nat.beq (C r.gf) r.es) with
              | false => rw [hcg] at h; cases h
              | true =>
                rw [hcg] at h
                simp only [cond_true] at h
                obtain ⟨c1, c2⟩ := Bool.and_eq_true_iff.1 hcg
                obtain ⟨It, hcb⟩ := hC r.gf (fun z => by rw [z] at c1; cases c1)
                rw [Nat.eq_of_beq_eq_true c2] at It
                split at h
                · rename_i H2 hrun
                  split at h
                  · rename_i s3 h3
                    split at h
                    · rename_i y hy
                      injection h with h; injection h with e1 e2; subst e1 e2
                      obtain ⟨p1, f1⟩ := hih _ _ h1
                      obtain ⟨_, f3, p3⟩ := hih _ _ h3
                      have f2 : Fr' s1.h H2 := rckRun_fr hm hih hrun
                      refine ⟨(f1.trans f2).trans f3, fun h0 ι0 w0 ι a w sr ev => ?_⟩
                      refine wp_seq ?_
                      refine wp_seq ?_
                      refine wp_mono (p1 ι a w sr) ?_
                      rintro e a1 w1 ⟨st, ι1, ⟨he, hst⟩, r1, e1⟩
                      subst he hst
                      have ev1 := ev.trans e1
                      refine rck_block hm hih It (run_callFunc hcb) hg hr hrun r1 ?_
                      intro D0 ι7 w7 hD0 hdf r7 e7
                      have ev7 := ev1.trans e7
                      show (Code.seq (.region id13 ops13 false) .ret).wp P _ ⟨a1.tmps, [{ target := .collected D0, args := #[] }]⟩ w7
                      refine wp_seq ?_
                      refine wp_region ?_
                      have hr2 : List.range ops13.size = List.range' 0 ops13.toList.length := by rw [List.range_eq_range']; simp
                      rw [hr2]
                      have wo := wpOps_defers (P := P) [{ target := .collected D0, args := #[] }] noLet _ a1.tmps [] w7 (p3 0 (fun j o hj => by simpa using hj) ι7 ⟨a1.tmps, []⟩ w7 r7)
                      refine wpOps_mono ?_ _ _ _ wo
                      rintro e a8 w8 ⟨ds, hds, st, ι8, ⟨he, hst⟩, r8, ev8⟩
                      subst he hst
                      have hds0 : ds = [] := r8.defers
                      subst hds0
                      simp only [List.nil_append] at hds
                      show Code.wp P .ret _ a8 w8
                      refine wp_ret ?_
                      show LeavesInM Fence.wide 3 P fn a8.tmps _ a8.defers .returning w8
                      rw [hds]
                      have ev8 : Evolve H2.den ι7 w7 s3.h.den ι8 w8 := ev8
                      have hdf8 : w8.heap[D0]? = some (.deferred (some [])) := (ev8.keepsO r7.heap).same D0 _ hdf rfl
                      refine ⟨by simp, .inl ⟨D0, _, rfl, run_takeDeferred hdf8, ?_⟩⟩
                      have hg2 := grownBy_putObj' w8 D0 (.deferred none)
                      have hcalm := Calm.grown hg2 (fun r e => by cases e; exact ⟨_, hdf8, rfl⟩)
                      have r9 := r8.calm hcalm
                      have hsz : w0.heap.size ≤ w1.heap.size := ev1.size
                      have e9 := (ev7.trans ev8).calmI hcalm (fun b hb => hg2.block b (Nat.lt_of_lt_of_le hb (ev7.trans ev8).size) (fun q => by injection q with q; omega))
                      obtain ⟨v, v1, v2⟩ := ares_run (s := s3.den) r9 (rares_ok hy)
                      exact ⟨v, v1, v, y, s3.h.den, ι8, rfl, ⟨rfl, rfl⟩, v2, r9.heap, e9⟩
                    · cases h
                  · cases h
                · cases h
            · cases h
          · cases h
        · cases h
      · split at h
        · rename_i s1 h1
          obtain ⟨p1, f1⟩ := hih _ _ h1
          obtain ⟨f2, p2⟩ := rtail_ok hm hih hC n b s1 x H' h
          refine ⟨f1.trans f2, fun h0 ι0 w0 ι a w sr ev => wp_seq (wp_mono (p1 ι a w sr) ?_)⟩
          rintro e a1 w1 ⟨st, ι1, ⟨he, hst⟩, r1, e1⟩
          subst he hst
          exact p2 h0 ι0 w0 ι1 a1 w1 r1 (ev.trans e1)
        · rename_i s1 h1
          split at h
          · rename_i y hy
            injection h with h; injection h with e1 e2; subst e1 e2
            obtain ⟨p1, f1⟩ := hih _ _ h1
            refine ⟨f1, fun h0 ι0 w0 ι a w sr ev => wp_seq (wp_mono (p1 ι a w sr) ?_)⟩
            rintro e a1 w1 ⟨st, ι1, ⟨he, hst⟩, r1, e1⟩
            subst he hst
            exact ret hy h0 ι0 w0 ι1 a1 w1 r1 (ev.trans e1)
          · cases h
        · cases h
    | _ => cases h
theorem rtail_call {P : Program} (hm : P.follows .mixedOrders = true) {C : FuncId → Nat} {ih : RT → Option RR} (hih : RIH P ih) (hC : ∀ g, C g ≠ 0 → ChunkItK P g (C g) ∧ callable P g = true) {f : FuncId} {fn : Func} {c : Code} (hf : P.funcs[f]? = some fn) (hb : fn.body = some c) {args : List V} {H H' : RH} {x : V} {n : Nat}
    (h : rtail P C ih fn.results.toList n c (rstart fn.ntmps args H) = some (x, H')) : PC P f args H.den (fun y k => y = x ∧ k = H'.den) ∧ Fr' H H' := by
  obtain ⟨fr, hw⟩ := rtail_ok hm hih hC n c _ x H' h
  refine ⟨?_, fr⟩
  intro ι w vs hp2 hh
  have hl := hp2.1
  refine callsIn_wide.1 (callsIn_of_wp_marks (F := Fence.wide) (n := 3) hf hb trivial (wpIn_wide.2 ?_))
  have r0 : SR (rstart fn.ntmps args H).den ι ⟨vs ++ Array.replicate (fn.ntmps - vs.size) undef, []⟩ w := by
    unfold RS.den
    rw [rstart_slots]
    refine ⟨rfl, ⟨by simp [← hl], fun i z hz => ?_⟩, hh⟩
    by_cases h1 : i < args.length
    · rw [List.getElem?_append_left h1] at hz
      obtain ⟨u, u1, u2⟩ := hp2.2 i z hz
      exact ⟨u, by rw [Array.getElem?_append_left (by omega)]; exact u1, u2⟩
    · rw [List.getElem?_append_right (by omega), List.getElem?_replicate] at hz
      split at hz
      · rename_i h2
        injection hz with hz
        subst hz
        refine ⟨undef, ?_, .v _⟩
        rw [Array.getElem?_append_right (by omega), Array.getElem?_replicate, if_pos (by omega)]
      · cases hz
  exact hw H.den ι w ι _ w r0 (Evolve.refl _ _ _)
end
end Go.Abs
