/- The walk through code, and that it is right. -/
import Derived.Test.YtmlojnecmdnbpaaGreatDoorAbsZa
namespace Go.Abs
set_option linter.unusedVariables false

/-- The first region of a code: the name of a loop, or of a join. -/
def first : Code → Nat
  | .region id _ _ => id
  | .seq a _ => first a
  | .cond _ a _ => first a
  | .block _ a => first a
  | .loop a => first a
  | _ => 0

def setSK : (g : List GK) → Tup (gts g) → Bs → List V → (List V → Prop) → Prop
  | [], _, _, l, K => K l
  | .sl d t :: g, (y, r), b, l, K => fV (t.val y) fun v => setK l d v fun l => setSK g r b l K
  | .lst d t e :: g, (y, r), b, l, K => fN (idAt b d) fun i => setK l d (.oL i y.length) fun l => setSK g r b l K
  | .nls d t e :: g, (y, r), b, l, K => fN (idAt b d) fun i => setK l d (.sO i 0 y.length) fun l => setSK g r b l K
  | .ob _ _ _ :: g, (y, r), b, l, K => setSK g r b l K
  | .ar _ _ _ :: g, (y, r), b, l, K => setSK g r b l K
  | .op _ _ _ :: g, (y, r), b, l, K => setSK g r b l K
  | .row _ ks :: g, y, b, l, K => match splitT (ckTys ks) (gts g) y with
    | (_, q) => setSK g q b l K
theorem setSK_eq : ∀ (g : List GK) (y : Tup (gts g)) (b : Bs) (l : List V) (K : List V → Prop), setSK g y b l K = K (setS g y b l)
  | [], _, _, _, _ => rfl
  | .sl _ _ :: g, y, b, l, K => by simp only [setSK, setS, fV_eq, setK_eq, setSK_eq g]
  | .lst _ _ _ :: g, y, b, l, K => by simp only [setSK, setS, fN_eq, setK_eq, setSK_eq g]
  | .nls _ _ _ :: g, y, b, l, K => by simp only [setSK, setS, fN_eq, setK_eq, setSK_eq g]
  | .ob _ _ _ :: g, y, b, l, K => by simp only [setSK, setS, setSK_eq g]
  | .ar _ _ _ :: g, y, b, l, K => by simp only [setSK, setS, setSK_eq g]
  | .op _ _ _ :: g, y, b, l, K => by simp only [setSK, setS, setSK_eq g]
  | .row _ _ :: g, y, b, l, K => by simp only [setSK, setS, setSK_eq g]
def setOwnK : (ks : List CK) → Tup (ckTys ks) → List V → List XO → (List XO → Prop) → Prop
  | .same :: ks, y, _ :: r, h, K => setOwnK ks y r h K
  | .val _ :: ks, (_, y), _ :: r, h, K => setOwnK ks y r h K
  | .osf _ :: ks, (_, y), _ :: r, h, K => setOwnK ks y r h K
  | .own t e :: ks, (l, y), c :: r, h, K => setX h (idC c) (.opt t l e) fun h => setOwnK ks y r h K
  | .ows t e :: ks, (l, y), c :: r, h, K => setX h (idC c) (.tl t l e) fun h => setOwnK ks y r h K
  | _, _, _, h, K => K h
theorem setOwnK_eq : ∀ (ks : List CK) (y : Tup (ckTys ks)) (r : List V) (h : List XO) (K : List XO → Prop), setOwnK ks y r h K = K (setOwn ks y r h)
  | [], _, _, _, _ => rfl
  | .same :: ks, _, [], _, _ => rfl
  | .val _ :: ks, _, [], _, _ => rfl
  | .own _ _ :: ks, _, [], _, _ => rfl
  | .ows _ _ :: ks, _, [], _, _ => rfl
  | .osf _ :: ks, _, [], _, _ => rfl
  | .same :: ks, y, _ :: r, h, K => setOwnK_eq ks y r h K
  | .val _ :: ks, (_, y), _ :: r, h, K => setOwnK_eq ks y r h K
  | .osf _ :: ks, (_, y), _ :: r, h, K => setOwnK_eq ks y r h K
  | .own t e :: ks, (l, y), c :: r, h, K => by
    show setX h (idC c) (.opt t l e) (fun h => setOwnK ks y r h K) = K (setOwn ks y r (h.set (idC c) (.opt t l e)))
    rw [setX_eq, setOwnK_eq ks y r]
  | .ows t e :: ks, (l, y), c :: r, h, K => by
    show setX h (idC c) (.tl t l e) (fun h => setOwnK ks y r h K) = K (setOwn ks y r (h.set (idC c) (.tl t l e)))
    rw [setX_eq, setOwnK_eq ks y r]
def setOK : (g : List GK) → Tup (gts g) → Bs → List XO → (List XO → Prop) → Prop
  | [], _, _, h, K => K h
  | .sl _ _ :: g, (y, r), b, h, K => setOK g r b h K
  | .lst d t e :: g, (y, r), b, h, K => setX h (idAt b d) (.opt t y e) fun h => setOK g r b h K
  | .nls d t e :: g, (y, r), b, h, K => setX h (idAt b d) (.tl t y e) fun h => setOK g r b h K
  | .ob id t e :: g, (y, r), b, h, K => setX h id (.ob t y e) fun h => setOK g r b h K
  | .ar id t e :: g, (y, r), b, h, K => setX h id (.tl t y e) fun h => setOK g r b h K
  | .op id t e :: g, (y, r), b, h, K => setX h id (.opt t y e) fun h => setOK g r b h K
  | .row id ks :: g, y, b, h, K => match splitT (ckTys ks) (gts g) y with
    | (c, q) => fX (reRow b id (mkRow ks c (rowB b id))) fun o => setX h id o fun h => setOwnK ks c (rowB b id) h fun h => setOK g q b h K
theorem setOK_eq : ∀ (g : List GK) (y : Tup (gts g)) (b : Bs) (h : List XO) (K : List XO → Prop), setOK g y b h K = K (setO g y b h)
  | [], _, _, _, _ => rfl
  | .sl _ _ :: g, y, b, h, K => by simp only [setOK, setO, setOK_eq g]
  | .lst _ _ _ :: g, y, b, h, K => by simp only [setOK, setO, setX_eq, setOK_eq g]
  | .nls _ _ _ :: g, y, b, h, K => by simp only [setOK, setO, setX_eq, setOK_eq g]
  | .ob _ _ _ :: g, y, b, h, K => by simp only [setOK, setO, setX_eq, setOK_eq g]
  | .ar _ _ _ :: g, y, b, h, K => by simp only [setOK, setO, setX_eq, setOK_eq g]
  | .op _ _ _ :: g, y, b, h, K => by simp only [setOK, setO, setX_eq, setOK_eq g]
  | .row _ _ :: g, y, b, h, K => by simp only [setOK, setO, fX_eq, setX_eq, setOwnK_eq, setOK_eq g]
/-- The state at a loop's head, or behind a join. -/
def fS (W : List Nat) (g : List GK) (y : Tup (gts g)) (b : Bs) (k : List V → List XO → Prop) : Prop := fVs (baseS W b.sl) fun l => setSK g y b l fun sl => setOK g y b b.h fun h => k sl h
theorem fS_eq (W : List Nat) (g : List GK) (y : Tup (gts g)) (b : Bs) (k : List V → List XO → Prop) : fS W g y b k = k (setS g y b (baseS W b.sl)) (setO g y b b.h) := by simp only [fS, fVs_eq, setSK_eq, setOK_eq]


/- a region that draws its order -/
def fdis (a b : List Nat × List Nat) : Bool :=
  a.2.all (fun p => b.1.all (fun q => p != q) && b.2.all (fun q => p != q)) && b.2.all (fun p => a.1.all (fun q => p != q) && a.2.all (fun q => p != q))
def pairOk (ops : Array Oper) (fs : List (List Nat × List Nat)) (i j : Nat) : Bool :=
  dep ops ops.size i j || ((match ops[i]?, ops[j]? with | some oi, some oj => oj.apart ops oi | _, _ => true) && (match fs[i]?, fs[j]? with | some a, some b => fdis a b | _, _ => false))
def drawOk (ops : Array Oper) (fs : List (List Nat × List Nat)) : Bool :=
  (List.range ops.size).all fun i => (List.range i).all fun j => pairOk ops fs i j
def edgesOk (ops : Array Oper) : Bool :=
  (List.range ops.size).all fun i => match ops[i]? with
    | some o => o.after.toList.all fun e => !Region.binds .any e || decide (e.on < i)
    | none => true
theorem fdis_spec {a b : List Nat × List Nat} (h : fdis a b = true) : (∀ p, p ∈ a.2 → ∀ q, q ∈ b.1 ++ b.2 → p ≠ q) ∧ (∀ p, p ∈ b.2 → ∀ q, q ∈ a.1 ++ a.2 → p ≠ q) := by
  simp only [fdis, Bool.and_eq_true, List.all_eq_true, bne_iff_ne] at h
  refine ⟨fun p hp q hq => ?_, fun p hp q hq => ?_⟩
  · rcases List.mem_append.1 hq with hq | hq
    · exact (h.1 p hp).1 q hq
    · exact (h.1 p hp).2 q hq
  · rcases List.mem_append.1 hq with hq | hq
    · exact (h.2 p hp).1 q hq
    · exact (h.2 p hp).2 q hq

/-- Free places at the end go; others are dead from then on. -/
def tailX : List XO → List XO
  | [] => []
  | x :: r => match tailX r, x with
    | [], .raw .free => []
    | r', .raw .free => .raw .dead :: r'
    | r', x => x :: r'
def endX (base : Nat) (h : List XO) : List XO := h.take base ++ tailX (h.drop base)
theorem tail_sr {sl : List V} {a : Act} {ι : Iota} {w : World} : ∀ (r pre : List XO), SR ⟨sl, dens (pre ++ r)⟩ ι a w → SR ⟨sl, dens (pre ++ tailX r)⟩ ι a w ∧ Evolve (dens (pre ++ r)) ι w (dens (pre ++ tailX r)) ι w
  | [], pre, h => ⟨h, Evolve.refl _ _ _⟩
  | x :: r, pre, h => by
    have h0 : pre ++ x :: r = (pre ++ [x]) ++ r := by simp
    rw [h0] at h ⊢
    obtain ⟨h1, ev1⟩ := tail_sr r (pre ++ [x]) h
    have keep : tailX (x :: r) = x :: tailX r → SR ⟨sl, dens (pre ++ tailX (x :: r))⟩ ι a w ∧ Evolve (dens ((pre ++ [x]) ++ r)) ι w (dens (pre ++ tailX (x :: r))) ι w := by
      intro q
      rw [q, show pre ++ x :: tailX r = (pre ++ [x]) ++ tailX r by simp]
      exact ⟨h1, ev1⟩
    by_cases hx : x = .raw .free
    · subst hx
      cases ht : tailX r with
      | nil =>
        have hq : tailX (.raw .free :: r) = [] := by simp only [tailX, ht]
        rw [ht] at h1 ev1
        rw [hq]
        have hd : dens (pre ++ [XO.raw .free] ++ []) = dens pre ++ [.free] := by simp [dens, XO.den]
        rw [hd] at h1 ev1
        obtain ⟨h2, ev2⟩ := h1.unreserve
        rw [List.append_nil]
        exact ⟨h2, ev1.trans ev2⟩
      | cons y r' =>
        have hq : tailX (.raw .free :: r) = .raw .dead :: y :: r' := by simp only [tailX, ht]
        rw [ht] at h1 ev1
        rw [hq]
        have hf : (dens (pre ++ [XO.raw .free] ++ y :: r'))[pre.length]? = some .free := by
          rw [dens_get]; simp [XO.den]
        obtain ⟨h2, ev2⟩ := h1.heap.fill hf
        have hd : (dens (pre ++ [XO.raw .free] ++ y :: r')).set pre.length .dead = dens (pre ++ .raw .dead :: y :: r') := by
          simp [dens, XO.den]
        rw [hd] at h2 ev2
        exact ⟨⟨h1.defers, h1.slots.mono ev2, h2⟩, ev1.trans ev2⟩
    · refine keep ?_
      simp only [tailX]
      split
      · exact absurd rfl hx
      · exact absurd rfl hx
      · rfl
theorem end_sr {sl : List V} {a : Act} {ι : Iota} {w : World} (base : Nat) (h : List XO) (r : SR ⟨sl, dens h⟩ ι a w) : SR ⟨sl, dens (endX base h)⟩ ι a w ∧ Evolve (dens h) ι w (dens (endX base h)) ι w := by
  have := tail_sr (h.drop base) (h.take base) (by rw [List.take_append_drop]; exact r)
  rwa [List.take_append_drop] at this

/- an object that a region has made becomes a tree at its end -/
def niB : V → Bool
  | .v _ => true
  | .sL _ _ => true
  | _ => false
theorem niB_ok {x : V} (h : niB x = true) : NI 0 x := by
  cases x <;> first | exact .v _ | exact .sL _ _ | cases h
def fzV (id n sz : Nat) (rows : List (List V)) (x : V) : V := match x with
  | .sO i 0 m => (match Nat.beq i id, Nat.beq m n with
    | true, true => .sF sz rows
    | _, _ => .sO i 0 m)
  | x => x
def fzS (W : List Nat) (id n sz : Nat) (rows : List (List V)) : Nat → List V → List V
  | _, [] => []
  | i, x :: r => (match W.any (fun j => Nat.beq j i) with
    | true => fzV id n sz rows x
    | false => x) :: fzS W id n sz rows (i + 1) r
theorem fzV_frz {id sz : Nat} {rows : List (List V)} (x : V) : frzV (.sO id 0 rows.length) (.sF sz rows) x (fzV id rows.length sz rows x) := by
  unfold fzV
  split
  · rename_i i m
    split
    · rename_i h1 h2
      have := Nat.eq_of_beq_eq_true h1; have := Nat.eq_of_beq_eq_true h2
      subst_vars
      exact .it
    · exact .same
  · exact .same
theorem fzS_frz {W : List Nat} {id sz : Nat} {rows : List (List V)} : ∀ (l : List V) (i : Nat), frzVs (.sO id 0 rows.length) (.sF sz rows) l (fzS W id rows.length sz rows i l)
  | [], _ => .nil
  | x :: l, i => by
    simp only [fzS]
    split
    · exact .cons (fzV_frz x) (fzS_frz l _)
    · exact .same (fzS_frz l _)
theorem fzS_len {W : List Nat} {id n sz : Nat} {rows : List (List V)} : ∀ (l : List V) (i : Nat), (fzS W id n sz rows i l).length = l.length
  | [], _ => rfl
  | x :: l, i => by simp only [fzS, List.length_cons, fzS_len l]
theorem fzS_other {W : List Nat} {id n sz : Nat} {rows : List (List V)} : ∀ (l : List V) (i j : Nat), ¬ (i + j) ∈ W → (fzS W id n sz rows i l)[j]? = l[j]?
  | [], _, _, _ => rfl
  | x :: l, i, 0, h => by
    have : (W.any fun j => Nat.beq j i) = false := by
      rw [List.any_eq_false]
      intro k hk hq
      have := Nat.eq_of_beq_eq_true hq
      subst this
      exact h hk
    simp only [fzS, this, List.getElem?_cons_zero]
  | x :: l, i, j + 1, h => by
    simp only [fzS, List.getElem?_cons_succ]
    exact fzS_other l (i + 1) j (by rwa [show i + 1 + j = i + (j + 1) by omega])
/-- The objects that are to become trees at the end of a region: 1000000 + number, among the flips. -/
def fzIds (f r : Nat) : List (Nat × Nat × Nat) → List Nat
  | [] => []
  | (a, b, c) :: q => match Nat.beq a f, Nat.beq b r, Nat.ble 1000000 c with
    | true, true, true => (c - 1000000) :: fzIds f r q
    | _, _, _ => fzIds f r q
def fzK (W : List Nat) (base : Nat) : List Nat → List V → List XO → (List V → List XO → Prop) → Prop
  | [], sl, h, K => K sl h
  | id :: r, sl, h, K => match Nat.ble base id with
    | true => (match h[id]? with
      | some (.raw (.live o)) => (match o.rows.all (fun r => r.all niB) with
        | true => fVs (fzS W id o.rows.length o.sz o.rows 0 sl) fun sl => fH (h.set id (.raw .dead)) fun h => fzK W base r sl h K
        | false => False)
      | _ => False)
    | false => False
theorem fzK_ok {n0 : Nat} {W : List Nat} {base : Nat} : ∀ (ids : List Nat) (sl : List V) (h : List XO) (K : List V → List XO → Prop), fzK W base ids sl h K →
    ∃ sl' h', K sl' h' ∧ sl'.length = sl.length ∧ (∀ i, ¬ i ∈ W → sl'[i]? = sl[i]?) ∧ h'.length = h.length ∧ (∀ j, j < base → h'[j]? = h[j]?) ∧ CutS n0 ⟨sl, dens h⟩ ⟨sl', dens h'⟩
  | [], sl, h, K, hk => ⟨sl, h, hk, rfl, fun _ _ => rfl, rfl, fun _ _ => rfl, fun {ι a w} r => ⟨ι, r, EvN.of (Evolve.refl _ _ _)⟩⟩
  | id :: r, sl, h, K, hk => by
    simp only [fzK] at hk
    split at hk
    · rename_i hb
      split at hk
      · rename_i o ho
        split at hk
        · rename_i hn
          rw [fVs_eq, fH_eq] at hk
          obtain ⟨sl', h', k1, k2, k3, k4, k5, k6⟩ := fzK_ok (n0 := n0) r _ _ K hk
          refine ⟨sl', h', k1, k2.trans (fzS_len _ _), fun i hi => (k3 i hi).trans (fzS_other _ 0 i (by rwa [Nat.zero_add])), by rw [k4]; simp, fun j hj => ?_, ?_⟩
          · have := Nat.le_of_ble_eq_true hb
            rw [k5 j hj, List.getElem?_set_ne (by omega)]
          · refine CutS.trans (b := ⟨fzS W id o.rows.length o.sz o.rows 0 sl, dens (h.set id (.raw .dead))⟩) (fun {ι a w} q => ⟨ι, ?_⟩) k6
            have hd : (dens h)[id]? = some (.live ⟨o.sz, o.rows, o.elem⟩) := by rw [dens_get, ho]; rfl
            have hr : NIr 0 o.rows := fun r hr x hx => niB_ok (List.all_eq_true.1 (List.all_eq_true.1 hn r hr) x hx)
            obtain ⟨r1, ev⟩ := freezeSR q hd hr (fzS_frz sl 0)
            rw [dens_set]
            exact ⟨r1, EvN.of ev⟩
        · exact hk.elim
      · exact hk.elim
    · exact hk.elim

theorem FrW.mk' {W : List Nat} {s s' : Y} (h1 : s.h.length ≤ s'.h.length) (h2 : ∀ j, j ∈ s.tch → j ∈ s'.tch) (h3 : ∀ j, j < s.h.length → ¬ j ∈ s'.tch → s'.h[j]? = s.h[j]?) (h4 : s'.sl.length = s.sl.length) (h5 : ∀ i, ¬ i ∈ W → s'.sl[i]? = s.sl[i]?) : FrW W s s' := ⟨⟨h1, h2, h3⟩, h4, h5⟩
/-- Lists that are not empty become own lists at the end of a plain region: 3000000 + slot, among the flips; 4000000 + n: dead objects up to n of them. -/
def cvIds (f r : Nat) : List (Nat × Nat × Nat) → List Nat
  | [] => []
  | (a, b, c) :: q => match Nat.beq a f, Nat.beq b r, Nat.ble 3000000 c with
    | true, true, true => (c - 3000000) :: cvIds f r q
    | _, _, _ => cvIds f r q
def padX (n : Nat) (h : List XO) : List XO := h ++ List.replicate (n - h.length) (.raw .dead)
theorem pad_sr {sl : List V} {a : Act} {w : World} {ι : Iota} : ∀ (m : Nat) (h : List XO), SR ⟨sl, dens h⟩ ι a w → SR ⟨sl, dens (h ++ List.replicate m (.raw .dead))⟩ ι a w ∧ Evolve (dens h) ι w (dens (h ++ List.replicate m (.raw .dead))) ι w
  | 0, h, r => by rw [List.replicate_zero, List.append_nil]; exact ⟨r, Evolve.refl _ _ _⟩
  | m + 1, h, r => by
    obtain ⟨r1, ev1⟩ := r.reserve 1
    simp only [List.replicate_one] at r1 ev1
    have hf : (dens h ++ [HS.free])[(dens h).length]? = some .free := by simp
    obtain ⟨H2, ev2⟩ := r1.heap.fill hf
    have hd : (dens h ++ [HS.free]).set (dens h).length .dead = dens (h ++ [.raw .dead]) := by simp [dens, XO.den]
    simp only [hd] at H2 ev2
    obtain ⟨r3, ev3⟩ := pad_sr m (h ++ [.raw .dead]) ⟨r1.defers, r1.slots.mono ev2, H2⟩
    have e : h ++ [XO.raw .dead] ++ List.replicate m (.raw .dead) = h ++ List.replicate (m + 1) (.raw .dead) := by rw [List.replicate_succ]; simp
    rw [e] at r3 ev3
    exact ⟨r3, (ev1.trans ev2).trans ev3⟩
/-- Other slots that hold the object are forgotten. -/
def clrK (id d : Nat) : List Nat → List V → (List V → Prop) → Prop
  | [], sl, K => K sl
  | j :: W, sl, K => match Nat.beq j d with
    | true => clrK id d W sl K
    | false => (match sl[j]? with
      | some (.sO i _ _) => (match Nat.beq i id with
        | true => setK sl j .any fun sl => clrK id d W sl K
        | false => clrK id d W sl K)
      | some (.oL i _) => (match Nat.beq i id with
        | true => setK sl j .any fun sl => clrK id d W sl K
        | false => clrK id d W sl K)
      | some (.pO i _ _) => (match Nat.beq i id with
        | true => setK sl j .any fun sl => clrK id d W sl K
        | false => clrK id d W sl K)
      | _ => clrK id d W sl K)
theorem clrK_ok {id d : Nat} : ∀ (W : List Nat) (sl : List V) (K : List V → Prop), clrK id d W sl K → ∃ sl' : List V, K sl' ∧ sl'.length = sl.length ∧ (∀ i, ¬ i ∈ W → sl'[i]? = sl[i]?) ∧ ∀ {h : Heap} {ι : Iota} {a : Act} {w : World}, SR ⟨sl, h⟩ ι a w → SR ⟨sl', h⟩ ι a w
  | [], sl, K, hk => ⟨sl, hk, rfl, fun _ _ => rfl, fun r => r⟩
  | j :: W, sl, K, hk => by
    have up : ∀ {sl2 : List V}, clrK id d W sl2 K → sl2.length = sl.length → (∀ i, ¬ i = j → sl2[i]? = sl[i]?) → (∀ {h : Heap} {ι : Iota} {a : Act} {w : World}, SR ⟨sl, h⟩ ι a w → SR ⟨sl2, h⟩ ι a w) → ∃ sl' : List V, K sl' ∧ sl'.length = sl.length ∧ (∀ i, ¬ i ∈ j :: W → sl'[i]? = sl[i]?) ∧ ∀ {h : Heap} {ι : Iota} {a : Act} {w : World}, SR ⟨sl, h⟩ ι a w → SR ⟨sl', h⟩ ι a w := by
      intro sl2 h2 hl hi hr
      obtain ⟨sl', k1, k2, k3, k4⟩ := clrK_ok W sl2 K h2
      exact ⟨sl', k1, k2.trans hl, fun i hn => (k3 i (fun q => hn (List.mem_cons_of_mem _ q))).trans (hi i (fun q => hn (by rw [q]; exact List.mem_cons_self ..))), fun r => k4 (hr r)⟩
    simp only [clrK] at hk
    split at hk
    · exact up hk rfl (fun _ _ => rfl) (fun r => r)
    · split at hk
      · rename_i i a b hj
        split at hk
        · rw [setK_eq] at hk
          exact up hk (by simp) (fun i hi => List.getElem?_set_ne (fun q => hi q.symm)) (fun r => r.setLE hj (fun _ => .any _))
        · exact up hk rfl (fun _ _ => rfl) (fun r => r)
      · rename_i i a hj
        split at hk
        · rw [setK_eq] at hk
          exact up hk (by simp) (fun i hi => List.getElem?_set_ne (fun q => hi q.symm)) (fun r => r.setLE hj (fun _ => .any _))
        · exact up hk rfl (fun _ _ => rfl) (fun r => r)
      · rename_i i a b hj
        split at hk
        · rw [setK_eq] at hk
          exact up hk (by simp) (fun i hi => List.getElem?_set_ne (fun q => hi q.symm)) (fun r => r.setLE hj (fun _ => .any _))
        · exact up hk rfl (fun _ _ => rfl) (fun r => r)
      · exact up hk rfl (fun _ _ => rfl) (fun r => r)
def cvK (W : List Nat) : List Nat → Y → (Y → Prop) → Prop
  | [], s, K => K s
  | d :: r, s, K => match s with
    | ⟨sl, h, tch, an⟩ => (
      match Nat.ble 1000000 d with
      | true => fH (padX (d - 1000000) h) fun h => cvK W r ⟨sl, h, tch, an⟩ K
      | false => (match Nat.ble 500000 d with
      | true => (match sl[d - 500000]? with
        | some (.sO id _ _) => clrK id (d - 500000) W sl fun sl => cvK W r ⟨sl, h, tch, an⟩ K
        | some (.oL id _) => clrK id (d - 500000) W sl fun sl => cvK W r ⟨sl, h, tch, an⟩ K
        | _ => False)
      | false =>
      (match W.any (fun j => Nat.beq j d) with
      | true => (match sl[d]? with
        | some (.sO id 0 n) => (match h[id]? with
          | some (.tl t l e) => needs [decide (n = l.length), decide (0 < l.length)] (setK sl d (.oL id n) fun sl => clrK id d W sl fun sl => setX h id (.opt t l e) fun h => cvK W r ⟨sl, h, id :: tch, an⟩ K)
          | _ => False)
        | _ => False)
      | false => False)))
theorem LE.sOL {id n : Nat} (h : 0 < n) : LE (.sO id 0 n) (.oL id n) := fun r => .oL _ _ _ (by rw [if_neg (by omega)]; exact r)
theorem cvK_ok {W : List Nat} : ∀ (ids : List Nat) (s : Y) (K : Y → Prop), cvK W ids s K → ∃ s' : Y, K s' ∧ FrW W s s' ∧ ∀ {ι : Iota} {a : Act} {w : World}, SR s.den ι a w → SR s'.den ι a w ∧ Evolve (dens s.h) ι w (dens s'.h) ι w
  | [], s, K, hk => ⟨s, hk, FrW.refl _ _, fun r => ⟨r, Evolve.refl _ _ _⟩⟩
  | d :: r, ⟨sl, h, tch, an⟩, K, hk => by
    simp only [cvK] at hk
    split at hk
    · rw [fH_eq] at hk
      obtain ⟨s', k1, k2, k3⟩ := cvK_ok r _ K hk
      refine ⟨s', k1, FrW.trans (b := ⟨sl, padX (d - 1000000) h, tch, an⟩) (.mk' (by simp [padX]) (fun j hj => hj) (fun j hj hq => ?_) rfl (fun i hi => rfl)) k2, fun {ι a w} q => ?_⟩
      · exact List.getElem?_append_left hj
      · obtain ⟨r1, ev1⟩ := pad_sr (d - 1000000 - h.length) h q
        obtain ⟨g1, g2⟩ := k3 r1
        exact ⟨g1, ev1.trans g2⟩
    split at hk
    · split at hk
      · rename_i id _ _ hd
        obtain ⟨sl2, hk, c2, c3, c4⟩ := clrK_ok W _ _ hk
        obtain ⟨s', k1, k2, k3⟩ := cvK_ok r _ K hk
        refine ⟨s', k1, FrW.trans (b := ⟨sl2, h, tch, an⟩) (.mk' (Nat.le_refl _) (fun j hj => hj) (fun j hj hq => rfl) c2 (fun i hi => c3 i hi)) k2, fun {ι a w} q => ?_⟩
        have q2 : SR ⟨sl, dens h⟩ ι a w := q
        exact k3 (c4 q2)
      · rename_i id _ hd
        obtain ⟨sl2, hk, c2, c3, c4⟩ := clrK_ok W _ _ hk
        obtain ⟨s', k1, k2, k3⟩ := cvK_ok r _ K hk
        refine ⟨s', k1, FrW.trans (b := ⟨sl2, h, tch, an⟩) (.mk' (Nat.le_refl _) (fun j hj => hj) (fun j hj hq => rfl) c2 (fun i hi => c3 i hi)) k2, fun {ι a w} q => ?_⟩
        have q2 : SR ⟨sl, dens h⟩ ι a w := q
        exact k3 (c4 q2)
      · exact hk.elim
    split at hk
    · rename_i hW
      split at hk
      · rename_i id n hd
        split at hk
        · rename_i t l e ho
          obtain ⟨hc, hk⟩ := needs_spec hk
          rw [setK_eq] at hk
          obtain ⟨sl2, hk, c2, c3, c4⟩ := clrK_ok W _ _ hk
          rw [setX_eq] at hk
          have hn : n = l.length := of_decide_eq_true (hc _ (by simp))
          have h0 : 0 < l.length := of_decide_eq_true (hc _ (by simp))
          have hne : l.isEmpty = false := by cases l with
            | nil => simp at h0
            | cons a b => rfl
          have hlt := get_lt ho
          have hden : dens (h.set id (.opt t l e)) = dens h := by
            rw [dens_set]
            apply List.ext_getElem?
            intro j
            by_cases q : id = j
            · subst q
              rw [List.getElem?_set_self (by rw [dens_len]; exact hlt), dens_get, ho]
              simp [XO.den, hne]
            · rw [List.getElem?_set_ne q]
          obtain ⟨s', k1, k2, k3⟩ := cvK_ok r _ K hk
          have hdW : d ∈ W := by
            obtain ⟨j, hj, hq⟩ := List.any_eq_true.1 hW
            have := Nat.eq_of_beq_eq_true hq
            subst this; exact hj
          refine ⟨s', k1, FrW.trans (.mk' (by simp) (fun j hj => List.mem_cons_of_mem _ hj) (fun j hj hq => ?_) (by rw [c2]; simp) (fun i hi => ?_)) k2, fun {ι a w} q => ?_⟩
          · refine List.getElem?_set_ne (fun p => hq ?_)
            rw [← p]; exact List.mem_cons_self ..
          · refine (c3 i hi).trans (List.getElem?_set_ne (fun p => hi ?_))
            rw [← p]; exact hdW
          · have q2 : SR ⟨sl, dens h⟩ ι a w := q
            have q3 := c4 (q2.setLE hd (LE.sOL (n := n) (by omega)))
            rw [← hden] at q3
            obtain ⟨g1, g2⟩ := k3 q3
            refine ⟨g1, ?_⟩
            simp only [hden] at g2
            exact g2
        · exact hk.elim
      · exact hk.elim
    · exact hk.elim

def xdraw (E : Env) (id : Nat) (ops : Array Oper) (s : Y) (K : Y → Prop) : Prop :=
  match s with
  | ⟨sl, h, tch, an⟩ => Kern (edgesOk ops) ∧ fN h.length fun base => fN (nAlloc E.T ops.toList) fun tot => fH (h ++ List.replicate (tot + 1) (.raw .free)) fun h1 => xdrw E ops id base tot ops.toList 0 0 ⟨sl, h1, tch, an⟩ fun s' fs =>
    Kern (drawOk ops fs) ∧ match s' with | ⟨sl', h', tch', an'⟩ => fH (endX base h') fun h' => fzK (wrOps ops.toList) base (fzIds E.fid id E.flip) sl' h' fun sl' h' => K ⟨sl', h', tch', an'⟩

/-- A loop that is walked round by round. -/
def nextK (Q : Exit → Y → Prop) (k : Y → Prop) : Exit → Y → Prop := fun e s' => match e with
  | .normal => k s'
  | e => Q e s'
def unrollK (body : Y → (Exit → Y → Prop) → Prop) (Q : Exit → Y → Prop) (s : Y) : Prop :=
  body s (nextK Q fun s => body s (nextK Q fun s => body s (nextK Q fun s => body s (nextK Q fun _ => False))))

def xcode (E : Env) (c : Code) : Y → (Exit → Y → Prop) → Prop := Code.rec (motive := fun _ => Y → (Exit → Y → Prop) → Prop)
  (fun s Q => Q .normal s)
  (fun id ops dr s Q => match dr with
    | false => xops E ops id ops.toList 0 s fun s' => cvK (wrOps ops.toList) (cvIds E.fid id E.flip) s' (Q .normal)
    | true => xdraw E id ops s (Q .normal))
  (fun a b iha ihb s Q => match s with
    | ⟨sl, h, tch, an⟩ => match find an E.fid (2 * first b + 1) with
      | none => iha ⟨sl, h, tch, an⟩ fun e s' => match e with
        | .normal => ihb s' Q
        | e => Q e s'
      | some (.mk g inv _ next) => prepG g sl h fun sl h => (iha ⟨sl, h, [], an⟩ fun e s' => match e with
        | .normal => (match s' with | ⟨sl', h', tch', an'⟩ => prepG g sl' h' fun sl' h' => arrive E.n0 (wr a) g ⟨sl, h, tch, an⟩ ⟨sl', h', tch', an'⟩ fun y => Side (inv y))
        | e => Q e ⟨s'.sl, s'.h, s'.tch ++ (gids ⟨sl, h⟩ g ++ tch), an⟩) ∧ (Kern ((gslots g).all fun d => (wr a).contains d) ∧ ∀ y, inv y → fS (wr a) g y ⟨sl, h⟩ fun sl' h' => ihb ⟨sl', h', gids ⟨sl, h⟩ g ++ tch, next y ++ an⟩ fun e s' => Q e ⟨s'.sl, s'.h, s'.tch, an⟩))
  (fun c a b iha ihb s Q => match s with
    | ⟨sl, h, tch, an⟩ => match c with
      | .tmp d => match sl[d]? with
        | some (.v (.bool t)) => br t (setK sl d (.v (.bool true)) fun sl => iha ⟨sl, h, tch, an⟩ Q) (setK sl d (.v (.bool false)) fun sl => ihb ⟨sl, h, tch, an⟩ Q)
        | _ => False
      | c => match aev sl c with
        | .v (.bool t) => br t (iha ⟨sl, h, tch, an⟩ Q) (ihb ⟨sl, h, tch, an⟩ Q)
        | _ => False)
  (fun id a iha s Q => iha s fun e s' => match e with
    | .exit i => match Nat.beq i id with
      | true => Q .normal s'
      | false => Q (.exit i) s'
    | e => Q e s')
  (fun c ih s Q => match s with
    | ⟨sl, h, tch, an⟩ => match find an E.fid (2 * first c) with
      | none => (match flips E.flip E.fid (first c) 2000000 with
        | true => unrollK (fun s K => ih s K) Q ⟨sl, h, tch, an⟩
        | false => False)
      | some (.mk g inv mu next) => prepG g sl h fun sl h => arrive E.n0 (wr c) g ⟨sl, h, tch, an⟩ ⟨sl, h, [], an⟩ fun y => Side (inv y) ∧
        ∀ y, inv y → fS (wr c) g y ⟨sl, h⟩ fun sl' h' => ih ⟨sl', h', [], next y ++ an⟩ fun e s' => match e with
          | .normal => (match s' with | ⟨sl', h', tch', an'⟩ => prepG g sl' h' fun sl' h' => arrive E.n0 (wr c) g ⟨sl, h, tch, an⟩ ⟨sl', h', tch', an'⟩ fun y' => Side (inv y') ∧ Side (mu y' < mu y))
          | e => Q e ⟨s'.sl, s'.h, s'.tch ++ (gids ⟨sl, h⟩ g ++ tch), an⟩)
  (fun _ _ _ _ _ _ _ _ => False)
  (fun id s Q => Q (.exit id) s)
  (fun _ _ _ _ => False)
  (fun _ _ _ => False)
  (fun _ _ _ => False)
  (fun s Q => Q .ret s)
  (fun _ _ _ => False) c
theorem xcode_seq (E : Env) (a b : Code) (sl : List V) (h : List XO) (tch : List Nat) (an : List (Nat × Nat × LA)) (Q : Exit → Y → Prop) : xcode E (.seq a b) ⟨sl, h, tch, an⟩ Q = (match find an E.fid (2 * first b + 1) with
      | none => xcode E a ⟨sl, h, tch, an⟩ fun e s' => match e with
        | .normal => xcode E b s' Q
        | e => Q e s'
      | some (.mk g inv _ next) => prepG g sl h fun sl h => (xcode E a ⟨sl, h, [], an⟩ fun e s' => match e with
        | .normal => (match s' with | ⟨sl', h', tch', an'⟩ => prepG g sl' h' fun sl' h' => arrive E.n0 (wr a) g ⟨sl, h, tch, an⟩ ⟨sl', h', tch', an'⟩ fun y => Side (inv y))
        | e => Q e ⟨s'.sl, s'.h, s'.tch ++ (gids ⟨sl, h⟩ g ++ tch), an⟩) ∧ (Kern ((gslots g).all fun d => (wr a).contains d) ∧ ∀ y, inv y → fS (wr a) g y ⟨sl, h⟩ fun sl' h' => xcode E b ⟨sl', h', gids ⟨sl, h⟩ g ++ tch, next y ++ an⟩ fun e s' => Q e ⟨s'.sl, s'.h, s'.tch, an⟩)) := rfl
theorem xcode_cond (E : Env) (c : Operand) (a b : Code) (sl : List V) (h : List XO) (tch : List Nat) (an : List (Nat × Nat × LA)) (Q : Exit → Y → Prop) : xcode E (.cond c a b) ⟨sl, h, tch, an⟩ Q = (match c with
      | .tmp d => match sl[d]? with
        | some (.v (.bool t)) => br t (setK sl d (.v (.bool true)) fun sl => xcode E a ⟨sl, h, tch, an⟩ Q) (setK sl d (.v (.bool false)) fun sl => xcode E b ⟨sl, h, tch, an⟩ Q)
        | _ => False
      | c => match aev sl c with
        | .v (.bool t) => br t (xcode E a ⟨sl, h, tch, an⟩ Q) (xcode E b ⟨sl, h, tch, an⟩ Q)
        | _ => False) := rfl
theorem xcode_loop (E : Env) (c : Code) (sl : List V) (h : List XO) (tch : List Nat) (an : List (Nat × Nat × LA)) (Q : Exit → Y → Prop) : xcode E (.loop c) ⟨sl, h, tch, an⟩ Q = (match find an E.fid (2 * first c) with
      | none => (match flips E.flip E.fid (first c) 2000000 with
        | true => unrollK (fun s K => xcode E c s K) Q ⟨sl, h, tch, an⟩
        | false => False)
      | some (.mk g inv mu next) => prepG g sl h fun sl h => arrive E.n0 (wr c) g ⟨sl, h, tch, an⟩ ⟨sl, h, [], an⟩ fun y => Side (inv y) ∧
        ∀ y, inv y → fS (wr c) g y ⟨sl, h⟩ fun sl' h' => xcode E c ⟨sl', h', [], next y ++ an⟩ fun e s' => match e with
          | .normal => (match s' with | ⟨sl', h', tch', an'⟩ => prepG g sl' h' fun sl' h' => arrive E.n0 (wr c) g ⟨sl, h, tch, an⟩ ⟨sl', h', tch', an'⟩ fun y' => Side (inv y') ∧ Side (mu y' < mu y))
          | e => Q e ⟨s'.sl, s'.h, s'.tch ++ (gids ⟨sl, h⟩ g ++ tch), an⟩) := rfl




/-- What a part of a walk shows. -/
def WQ (W : List Nat) (s : Y) (Q : Exit → Y → Prop) : Exit → St → Prop := fun e st => ∃ s' : Y, st = s'.den ∧ Q e s' ∧ FrW W s s'

theorem PV.brk {n : Nat} {P : Program} {Q : Exit → St → Prop} {s : St} {c : Operand} {a b : Code} (h : ∃ t : Bool, aev s.sl c = .v (.bool t) ∧ (t = true → PV n P a s Q) ∧ (t = false → PV n P b s Q)) : PV n P (.cond c a b) s Q := by
  obtain ⟨t, h1, h2, h3⟩ := h
  refine PV.cond h1 ?_
  cases t with
  | true => exact h2 rfl
  | false => exact h3 rfl

theorem set_same {sl : List V} {d : Nat} {x : V} (h : sl[d]? = some x) : sl.set d x = sl := by
  have hlt := get_lt h
  rw [List.getElem?_eq_getElem hlt] at h; injection h with h
  rw [← h, List.set_getElem_self]

theorem near_head {W : List Nat} {g : List GK} {y : Tup (gts g)} {sl : List V} {h : List XO} {tch t0 : List Nat} {an an' : List (Nat × Nat × LA)} {s' : Y} (hW : ∀ d, d ∈ gslots g → d ∈ W)
    (f : FrW W ⟨setS g y ⟨sl, h⟩ (baseS W sl), setO g y ⟨sl, h⟩ h, [], an'⟩ s') : Near W (gids ⟨sl, h⟩ g) ⟨sl, h, tch, an⟩ s' ∧ h.length ≤ s'.h.length := by
  refine ⟨⟨fun i hi => ?_, ?_, fun j hj hg ht => ?_⟩, ?_⟩
  · rw [f.sl i hi]
    simp only
    rw [setS_other g _ _ _ i (fun q => hi (hW i q)), baseS_other _ _ _ hi]
  · rw [f.len]; simp only [setS_len, baseS_len]
  · rw [f.fr.h j (by simpa [setO_len] using hj) ht]
    exact setO_other g _ _ _ j hg
  · have := f.fr.len; simpa [setO_len] using this

theorem frw_head {W : List Nat} {g : List GK} {y : Tup (gts g)} {sl : List V} {h : List XO} {tch : List Nat} {an an' : List (Nat × Nat × LA)} (hW : ∀ d, d ∈ gslots g → d ∈ W) :
    FrW W ⟨sl, h, tch, an⟩ ⟨setS g y ⟨sl, h⟩ (baseS W sl), setO g y ⟨sl, h⟩ h, gids ⟨sl, h⟩ g ++ tch, an'⟩ := by
  refine .mk' (by simp [setO_len]) (fun j hj => by simp [hj]) (fun j hj hn => ?_) (by simp [setS_len, baseS_len]) (fun i hi => ?_)
  · exact setO_other g _ _ _ j (fun q => hn (by simp [q]))
  · simp only
    rw [setS_other g _ _ _ i (fun q => hi (hW i q)), baseS_other _ _ _ hi]

/-- From the state at a loop's head on. -/
theorem frw_from_head {W : List Nat} {g : List GK} {y : Tup (gts g)} {sl : List V} {h : List XO} {tch : List Nat} {an an' an2 : List (Nat × Nat × LA)} {s' : Y} (hW : ∀ d, d ∈ gslots g → d ∈ W)
    (f : FrW W ⟨setS g y ⟨sl, h⟩ (baseS W sl), setO g y ⟨sl, h⟩ h, [], an'⟩ s') : FrW W ⟨sl, h, tch, an⟩ ⟨s'.sl, s'.h, s'.tch ++ (gids ⟨sl, h⟩ g ++ tch), an2⟩ := by
  obtain ⟨n1, n2⟩ := near_head (tch := tch) (t0 := []) (an := an) hW f
  refine .mk' n2 (fun j hj => by simp [hj]) (fun j hj hn => ?_) n1.len n1.sl
  simp only [List.mem_append, not_or] at hn
  exact n1.h j hj hn.2.1 hn.1

theorem PV.cut {n : Nat} {P : Program} {Q : Exit → St → Prop} {s s2 : St} {c : Code} (hc : CutS n s s2) (h : PV n P c s2 Q) : PV n P c s Q := PV.post (fun r => hc r) h
theorem FrW.prep {W : List Nat} {g : List GK} {b : Bs} {sl sl1 : List V} {h h1 : List XO} {tch : List Nat} {an an1 : List (Nat × Nat × LA)} {s2 : Y} (hW : ∀ d, d ∈ gslots g → d ∈ W) (p1 : sl1.length = sl.length) (p2 : ∀ i, ¬ i ∈ gslots g → sl1[i]? = sl[i]?) (p3 : h.length ≤ h1.length)
    (p4 : ∀ j, j < h.length → ¬ j ∈ rowIds g → h1[j]? = h[j]?) (f : FrW W ⟨sl1, h1, tch, an1⟩ s2) (ht : ∀ j, j ∈ gids b g → j ∈ s2.tch) : FrW W ⟨sl, h, tch, an⟩ s2 :=
  .mk' (Nat.le_trans p3 f.fr.len) f.fr.tch (fun j hj hn => (f.fr.h j (Nat.lt_of_lt_of_le hj p3) hn).trans (p4 j hj (fun q => hn (ht j (rowIds_gids q))))) (f.len.trans p1) (fun i hi => (f.sl i hi).trans (p2 i (fun q => hi (hW i q))))
theorem Near.prep {W gi : List Nat} {g : List GK} {s1 : Y} {sl sl1 : List V} {h h1 : List XO} {tch : List Nat} {an an1 : List (Nat × Nat × LA)} (hW : ∀ d, d ∈ gslots g → d ∈ W) (n : Near W gi s1 ⟨sl, h, tch, an⟩) (n2 : s1.h.length ≤ h.length) (p1 : sl1.length = sl.length) (p2 : ∀ i, ¬ i ∈ gslots g → sl1[i]? = sl[i]?)
    (p4 : ∀ j, j < h.length → ¬ j ∈ rowIds g → h1[j]? = h[j]?) (hgi : ∀ j, j ∈ rowIds g → j ∈ gi) : Near W gi s1 ⟨sl1, h1, tch, an1⟩ :=
  ⟨fun i hi => (p2 i (fun q => hi (hW i q))).trans (n.sl i hi), p1.trans n.len, fun j hj hg ht => (p4 j (Nat.lt_of_lt_of_le hj n2) (fun q => hg (hgi j q))).trans (n.h j hj hg ht)⟩

theorem RunD.run {P : Program} {ops : Array Oper} {ds all : List Dat} : ∀ {i : Nat} {s s' : St}, RunD P ops i ds s s' → (∀ (m : Nat) (d : Dat), ds[m]? = some d → all[i + m]? = some d) → Run P ops (fun j => (all[j]?).getD default) (List.range' i ds.length) s s' := by
  induction ds with
  | nil => intro i s s' h _; exact h
  | cons d ds ih =>
    intro i s s' ⟨s1, h1, h2⟩ hall
    simp only [List.length_cons, List.range'_succ]
    refine ⟨s1, ?_, ih h2 (fun m e he => ?_)⟩
    · have : all[i]? = some d := by simpa using hall 0 d rfl
      unfold AS at h1 ⊢
      simp only [this, Option.getD_some]
      exact h1
    · rw [show i + 1 + m = i + (m + 1) by omega]
      exact hall (m + 1) e (by simpa using he)

theorem PV.weak {n : Nat} {P : Program} {Q Q2 : Exit → St → Prop} {s : St} {c : Code} (h : PV n P c s Q) (hq : ∀ e st, Q e st → ∃ st2, Q2 e st2 ∧ ∀ {ι : Iota} {a : Act} {w : World}, SR st ι a w → ∃ ι', SR st2 ι' a w ∧ EvN n st.h ι w st2.h ι' w) : PV n P c s Q2 :=
  fun ι a w r => wp_mono (h ι a w r) fun e a' w' ⟨s', ι', q, r', ev⟩ => by
    obtain ⟨st2, q2, hr⟩ := hq e s' q
    obtain ⟨ι2, r2, ev2⟩ := hr r'
    exact ⟨st2, ι2, q2, r2, ev.trans ev2⟩

theorem xdraw_gen {E : Env} (hT : TblOk E.P E.T) (hM : E.P.follows .mixedOrders = true) {id : Nat} {ops : Array Oper} {s : Y} {K : Y → Prop} (h : xdraw E id ops s K) (W : (Exit → Act → World → Prop) → Act → World → Prop)
    (hmono : ∀ {Q Q' : Exit → Act → World → Prop} {a : Act} {w : World}, W Q a w → (∀ e a w, Q e a w → Q' e a w) → W Q' a w)
    (hops : ∀ {Q : Exit → Act → World → Prop} {a : Act} {w : World}, ¬ LetsOut Q → (∀ t, wpOps E.P ops Q (Region.schedule (E.P.follows .mixedOrders) ops t) a { w with drawn := w.drawn + 1 }) → W Q a w) :
    ∀ (ι : Iota) (a : Act) (w : World), SR s.den ι a w → W (PostN E.n0 s.den ι w (fun e st => e = .normal ∧ ∃ s', st = s'.den ∧ K s' ∧ FrW (wrOps ops.toList) s s')) a w := by
  obtain ⟨sl, hp, tch, an⟩ := s
  simp only [xdraw] at h
  obtain ⟨⟨he⟩, h⟩ := h
  rw [fN_eq, fN_eq, fH_eq] at h
  obtain ⟨ds, fs, s', g1, g2, g3, ⟨⟨hd⟩, g4⟩, g5⟩ := xdrw_ok (ops := ops) (W := wrOps ops.toList) hT ops.toList 0 0 _ _ (fun j o hj => by rw [Nat.zero_add]; simpa using hj) (fun o ho d hd => wrOps_ok ho d hd) h
  obtain ⟨sl', h', tch', an'⟩ := s'
  simp only at g4
  rw [fH_eq] at g4
  have hedge : ∀ (i : Nat) (o : Oper), ops[i]? = some o → ∀ e ∈ o.after, Region.binds .any e = true → e.on < i := by
    intro i o ho e hem hb
    have hi : i < ops.size := by
      rcases Nat.lt_or_ge i ops.size with q | q
      · exact q
      · rw [Array.getElem?_eq_none q] at ho; cases ho
    have h1 := List.all_eq_true.1 he i (by simpa using hi)
    simp only [ho] at h1
    have h2 := List.all_eq_true.1 h1 e (by simpa using hem)
    simpa [hb] using h2
  have hrun := RunD.run (all := ds) g3 (fun m d hm => by rw [Nat.zero_add]; exact hm)
  have hlen : ds.length = ops.size := by rw [g1]; simp
  rw [hlen, ← List.range_eq_range'] at hrun
  have hind : ∀ i j, j < i → i < ops.size → (∃ n, dep ops n i j = true) ∨ Indep ops (fun j => (ds[j]?).getD default) i j := by
    intro i j hj hi
    have h1 := List.all_eq_true.1 (List.all_eq_true.1 hd i (by simpa using hi)) j (by simpa using hj)
    simp only [pairOk, Bool.or_eq_true, Bool.and_eq_true] at h1
    rcases h1 with h1 | ⟨h1, h2⟩
    · exact .inl ⟨_, h1⟩
    · refine .inr fun oi oj hoi hoj => ?_
      rw [hoi, hoj] at h1
      refine ⟨h1, ?_⟩
      have i1 : i < ds.length := by omega
      have j1 : j < ds.length := by omega
      obtain ⟨fi, a1, a2⟩ := g2 i _ (List.getElem?_eq_getElem i1)
      obtain ⟨fj, b1, b2⟩ := g2 j _ (List.getElem?_eq_getElem j1)
      rw [a1, b1] at h2
      obtain ⟨c1, c2⟩ := fdis_spec h2
      simp only [List.getElem?_eq_getElem i1, List.getElem?_eq_getElem j1, Option.getD_some]
      refine ⟨fun p hp q hq => c1 _ (a2.2 p hp) q ?_, fun p hp q hq => c2 _ (b2.2 p hp) q ?_⟩
      · rcases List.mem_append.1 hq with hq | hq
        · obtain ⟨r, hr, rfl⟩ := List.mem_map.1 hq; exact List.mem_append.2 (.inl (b2.1 r hr))
        · obtain ⟨r, hr, rfl⟩ := List.mem_map.1 hq; exact List.mem_append.2 (.inr (b2.2 r hr))
      · rcases List.mem_append.1 hq with hq | hq
        · obtain ⟨r, hr, rfl⟩ := List.mem_map.1 hq; exact List.mem_append.2 (.inl (a2.1 r hr))
        · obtain ⟨r, hr, rfl⟩ := List.mem_map.1 hq; exact List.mem_append.2 (.inr (a2.2 r hr))
  have hdens : dens (hp ++ List.replicate (nAlloc E.T ops.toList + 1) (.raw .free)) = dens hp ++ List.replicate (nAlloc E.T ops.toList + 1) .free := by simp [dens, XO.den]
  have pre : ∀ {ι : Iota} {a : Act} {w : World}, SR ⟨sl, dens hp⟩ ι a w → SR ⟨sl, dens (hp ++ List.replicate (nAlloc E.T ops.toList + 1) (.raw .free))⟩ ι a w ∧ EvN E.n0 (dens hp) ι w (dens (hp ++ List.replicate (nAlloc E.T ops.toList + 1) (.raw .free))) ι w := by
    intro ι a w r
    obtain ⟨r1, ev1⟩ := r.reserve (nAlloc E.T ops.toList + 1)
    rw [hdens]
    exact ⟨r1, EvN.of ev1⟩
  have post : ∃ st2 : St, (∃ s' : Y, st2 = s'.den ∧ K s' ∧ FrW (wrOps ops.toList) ⟨sl, hp, tch, an⟩ s') ∧ ∀ {ι : Iota} {a : Act} {w : World}, SR ⟨sl', dens h'⟩ ι a w → ∃ ι', SR st2 ι' a w ∧ EvN E.n0 (dens h') ι w st2.h ι' w := by
    obtain ⟨sl2, h2, k1, k2, k3, k4, k5, k6⟩ := fzK_ok (n0 := E.n0) _ _ _ _ g4
    refine ⟨⟨sl2, dens h2⟩, ⟨⟨sl2, h2, tch', an'⟩, rfl, k1, ?_⟩, fun {ι a w} r => ?_⟩
    · have hl : hp.length ≤ h'.length := by have := g5.fr.len; simp at this; omega
      refine .mk' (by rw [k4]; simp [endX]; omega) (fun j hj => g5.fr.tch j hj) (fun j hj hn => ?_) (k2.trans g5.len) (fun i hi => (k3 i hi).trans (g5.sl i hi))
      have hj : j < hp.length := hj
      have h1 := g5.fr.h j (by simp; omega) hn
      refine (k5 j hj).trans ?_
      simp only at h1 ⊢
      rw [List.getElem?_append_left hj] at h1
      rw [endX, List.getElem?_append_left (by simp; omega), List.getElem?_take, if_pos hj]
      exact h1
    · obtain ⟨r1, ev1⟩ := end_sr hp.length h' r
      obtain ⟨ι2, r2, ev2⟩ := k6 r1
      exact ⟨ι2, r2, (EvN.of ev1).trans ev2⟩
  intro ι a w r
  obtain ⟨r0, ev0⟩ := pre r
  have hq : ¬ LetsOut (Post ⟨sl, dens (hp ++ List.replicate (nAlloc E.T ops.toList + 1) (.raw .free))⟩ ι w (fun e st => e = .normal ∧ st = ⟨sl', dens h'⟩)) := by
    rintro ⟨_, _, _, _, ⟨q, _⟩, _⟩
    cases q
  refine hmono (hops hq (draw_ops (Q := fun e st => e = .normal ∧ st = ⟨sl', dens h'⟩) hM hedge hind hrun ⟨rfl, rfl⟩ ι a w r0)) ?_
  rintro e a' w' ⟨st, ι', ⟨rfl, rfl⟩, r', ev⟩
  obtain ⟨st2, q2, hr⟩ := post
  obtain ⟨ι2, r2, ev2⟩ := hr r'
  exact ⟨st2, ι2, ⟨rfl, q2⟩, r2, (ev0.trans (EvN.of ev)).trans ev2⟩
theorem xdraw_ok {E : Env} (hT : TblOk E.P E.T) (hM : E.P.follows .mixedOrders = true) {id : Nat} {ops : Array Oper} {s : Y} {K : Y → Prop} (h : xdraw E id ops s K) : PV E.n0 E.P (.region id ops true) s.den (fun e st => e = .normal ∧ ∃ s', st = s'.den ∧ K s' ∧ FrW (wrOps ops.toList) s s') :=
  xdraw_gen hT hM h (fun Q a w => (Code.region id ops true).wp E.P Q a w) (fun q hq => wp_mono q hq) (fun _ q => wp_region_draw q)

theorem xcode_ok {E : Env} (hT : TblOk E.P E.T) (hM : E.P.follows .mixedOrders = true) (hI : InlOk E) : ∀ (c : Code) (s : Y) (Q : Exit → Y → Prop), xcode E c s Q → PV E.n0 E.P c s.den (WQ (wr c) s Q) := by
  intro c
  induction c with
  | skip => intro s Q h; exact PV.skip ⟨s, rfl, h, FrW.refl _ _⟩
  | exit id => intro s Q h; exact PV.exit ⟨s, rfl, h, FrW.refl _ _⟩
  | ret => intro s Q h; exact PV.ret ⟨s, rfl, h, FrW.refl _ _⟩
  | region id ops dr =>
    intro s Q h
    cases dr with
    | false =>
      refine PV.weak (Q := fun e st => e = .normal ∧ ∃ s' : Y, st = s'.den ∧ cvK (wrOps ops.toList) (cvIds E.fid id E.flip) s' (Q .normal) ∧ FrW (wrOps ops.toList) s s') (PV.regionL ((xops_ok hT hI (fun _ q => q) ops.toList 0 s _ (fun o ho d hd => wrOps_ok ho d hd) h).mono ?_)) ?_
      · rintro st ⟨s', h1, h2, h3⟩
        exact ⟨rfl, s', h1, h2, h3⟩
      · rintro e st ⟨rfl, s', rfl, h2, h3⟩
        obtain ⟨s2, k1, k2, k3⟩ := cvK_ok _ s' _ h2
        refine ⟨s2.den, ⟨s2, rfl, k1, h3.trans k2⟩, fun {ι a w} r => ?_⟩
        obtain ⟨g1, g2⟩ := k3 r
        exact ⟨ι, g1, EvN.of g2⟩
    | true =>
      refine PV.mono (xdraw_ok hT hM h) ?_
      rintro e st ⟨rfl, s', h1, h2, h3⟩
      exact ⟨s', h1, h2, h3⟩
  | seq a b iha ihb =>
    intro s Q h
    obtain ⟨sl, hp, tch, an⟩ := s
    rw [xcode_seq] at h
    split at h
    · refine PV.seq (PV.mono (iha _ _ h) ?_)
      rintro e st ⟨s', rfl, h2, h3⟩
      cases e with
      | normal =>
        refine PV.mono (ihb _ _ h2) ?_
        rintro e st ⟨s2, h4, h5, h6⟩
        exact ⟨s2, h4, h5, (h3.mono fun i hi => List.mem_append.2 (.inl hi)).trans (h6.mono fun i hi => List.mem_append.2 (.inr hi))⟩
      | _ => exact ⟨s', rfl, h2, h3.mono fun i hi => List.mem_append.2 (.inl hi)⟩
    · rename_i g inv mu next hf
      obtain ⟨sl1, h1, ⟨ha, ⟨hk⟩, hb⟩, p1, p2, p3, p4, p5⟩ := prepG_ok h
      have hW : ∀ d, d ∈ gslots g → d ∈ wr a := fun d hd => by simpa using List.all_eq_true.1 hk d hd
      refine PV.cut (s2 := ⟨sl1, dens h1⟩) (fun {ι a w} r => ⟨ι, (p5 r).1, EvN.of (p5 r).2⟩) ?_
      refine PV.seq (PV.mono (iha ⟨sl1, h1, [], an⟩ _ ha) ?_)
      rintro e st ⟨s', rfl, h3, h4⟩
      have up : FrW (wr a) ⟨sl, hp, tch, an⟩ ⟨s'.sl, s'.h, s'.tch ++ (gids ⟨sl1, h1⟩ g ++ tch), an⟩ :=
        FrW.prep (b := ⟨sl1, h1⟩) (an1 := an) hW p1 p2 p3 p4 (.mk' h4.fr.len (fun j hj => by simp [hj]) (fun j hj hn => h4.fr.h j hj (fun q => hn (by simp [q]))) h4.len h4.sl) (fun j hj => by simp [hj])
      cases e with
      | normal =>
        obtain ⟨sl', h', tch', an'⟩ := s'
        simp only at h3
        obtain ⟨sl2, h2, ha2, q1, q2, q3, q4, q5⟩ := prepG_ok h3
        have hn : Near (wr a) (gids ⟨sl1, h1⟩ g) ⟨sl1, h1, tch, an⟩ ⟨sl', h', tch', an'⟩ := ⟨h4.sl, h4.len, fun j hj _ ht => h4.fr.h j hj ht⟩
        obtain ⟨σ, y, hc, hk, _⟩ := arrive_ok (s1 := ⟨sl1, h1, tch, an⟩) (s' := ⟨sl2, h2, tch', an'⟩) (hn.prep (an1 := an') hW h4.fr.len q1 q2 q4 (fun j q => rowIds_gids q)) ha2
        have hb := hb y hk.out
        rw [fS_eq] at hb
        refine PV.cut (CutS.trans (b := ⟨sl2, dens h2⟩) (fun {ι a w} r => ⟨ι, (q5 r).1, EvN.of (q5 r).2⟩) hc.cs) (PV.mono (ihb _ _ hb) ?_)
        rintro e st ⟨s2, h5, h6, h7⟩
        refine ⟨⟨s2.sl, s2.h, s2.tch, an⟩, h5, h6, ?_⟩
        have f1 := frw_head (W := wr a) (y := y) (sl := sl1) (h := h1) (tch := tch) (an := an) (an' := next y ++ an) hW
        have f2 := (f1.mono (W' := wr a ++ wr b) fun i hi => List.mem_append.2 (.inl hi)).trans (h7.mono fun i hi => List.mem_append.2 (.inr hi))
        have f3 := FrW.prep (b := ⟨sl1, h1⟩) (an := an) (fun d hd => List.mem_append.2 (.inl (hW d hd))) p1 p2 p3 p4 f2 (fun j hj => h7.fr.tch j (by simp only [List.mem_append]; exact .inl hj))
        exact ⟨⟨f3.fr.len, f3.fr.tch, f3.fr.h⟩, f3.len, f3.sl⟩
      | _ => exact ⟨⟨s'.sl, s'.h, s'.tch ++ (gids ⟨sl1, h1⟩ g ++ tch), an⟩, rfl, h3, up.mono fun i hi => List.mem_append.2 (.inl hi)⟩
  | block id a iha =>
    intro s Q h
    refine PV.block (PV.mono (iha _ _ h) ?_)
    rintro e st ⟨s', rfl, h2, h3⟩
    cases e with
    | exit i =>
      simp only [inBlockA]
      cases hq : Nat.beq i id with
      | true =>
        simp only [hq] at h2
        rw [if_pos (Nat.eq_of_beq_eq_true hq)]
        exact ⟨s', rfl, h2, h3⟩
      | false =>
        simp only [hq] at h2
        rw [if_neg (fun q => by subst q; simp at hq)]
        exact ⟨s', rfl, h2, h3⟩
    | _ => exact ⟨s', rfl, h2, h3⟩
  | cond c a b iha ihb =>
    intro s Q h
    obtain ⟨sl, hp, tch, an⟩ := s
    have left : ∀ {X : Exit → Y → Prop}, PV E.n0 E.P a ⟨sl, dens hp⟩ (WQ (wr a) ⟨sl, hp, tch, an⟩ X) → PV E.n0 E.P a ⟨sl, dens hp⟩ (WQ (wr a ++ wr b) ⟨sl, hp, tch, an⟩ X) := fun h => PV.mono h fun e st ⟨s', q1, q2, q3⟩ => ⟨s', q1, q2, q3.mono fun i hi => List.mem_append.2 (.inl hi)⟩
    have right : ∀ {X : Exit → Y → Prop}, PV E.n0 E.P b ⟨sl, dens hp⟩ (WQ (wr b) ⟨sl, hp, tch, an⟩ X) → PV E.n0 E.P b ⟨sl, dens hp⟩ (WQ (wr a ++ wr b) ⟨sl, hp, tch, an⟩ X) := fun h => PV.mono h fun e st ⟨s', q1, q2, q3⟩ => ⟨s', q1, q2, q3.mono fun i hi => List.mem_append.2 (.inr hi)⟩
    rw [xcode_cond] at h
    split at h
    · rename_i d
      split at h
      · rename_i t ht
        obtain ⟨h1, h2⟩ := (br_iff _ _ _).1 h
        refine PV.brk ⟨t, by simp [aev, Y.den, ht], fun q => ?_, fun q => ?_⟩
        · have h3 := h1 q
          clear h1 h2
          subst q
          rw [setK_eq, set_same ht] at h3
          exact left (iha ⟨sl, hp, tch, an⟩ _ h3)
        · have h3 := h2 q
          clear h1 h2
          subst q
          rw [setK_eq, set_same ht] at h3
          exact right (ihb ⟨sl, hp, tch, an⟩ _ h3)
      · exact h.elim
    · split at h
      · rename_i t ht
        obtain ⟨h1, h2⟩ := (br_iff _ _ _).1 h
        refine PV.brk ⟨t, ht, fun q => left (iha ⟨sl, hp, tch, an⟩ _ (h1 q)), fun q => right (ihb ⟨sl, hp, tch, an⟩ _ (h2 q))⟩
      · exact h.elim
  | loop c ih =>
    intro s Q h
    obtain ⟨sl, hp, tch, an⟩ := s
    rw [xcode_loop] at h
    split at h
    · split at h
      · have one : ∀ (m : Nat) (k : Y → Prop), (∀ s, FrW (wr c) ⟨sl, hp, tch, an⟩ s → k s → roundsV E.n0 E.P c (fun e st => ∃ s' : Y, st = s'.den ∧ Q e s' ∧ FrW (wr c) ⟨sl, hp, tch, an⟩ s') m s.den) →
            ∀ s, FrW (wr c) ⟨sl, hp, tch, an⟩ s → xcode E c s (nextK Q k) → roundsV E.n0 E.P c (fun e st => ∃ s' : Y, st = s'.den ∧ Q e s' ∧ FrW (wr c) ⟨sl, hp, tch, an⟩ s') (m + 1) s.den := by
          intro m k hk s hfr q
          refine PV.mono (ih s _ q) ?_
          rintro e st ⟨s', rfl, h2, h3⟩
          cases e with
          | normal => exact hk s' (hfr.trans h3) h2
          | _ => exact ⟨s', rfl, h2, hfr.trans h3⟩
        exact PV.unroll 4 (one 3 _ (one 2 _ (one 1 _ (one 0 _ (fun _ _ q => q.elim)))) _ (FrW.refl _ _) h)
      · exact h.elim
    · rename_i g inv mu next hf
      obtain ⟨sl1, h1, ha, p1, p2, p3, p4, p5⟩ := prepG_ok h
      obtain ⟨σ, y0, hc, ⟨⟨hi⟩, hr⟩, hW⟩ := arrive_ok (s1 := ⟨sl1, h1, tch, an⟩) (s' := ⟨sl1, h1, [], an⟩) ⟨fun _ _ => rfl, rfl, fun _ _ _ _ => rfl⟩ ha
      refine PV.loopR (fun y => ⟨setS g y ⟨sl1, h1⟩ (baseS (wr c) sl1), dens (setO g y ⟨sl1, h1⟩ h1)⟩) inv mu y0 (CutS.trans (b := ⟨sl1, dens h1⟩) (fun {ι a w} r => ⟨ι, (p5 r).1, EvN.of (p5 r).2⟩) hc.cs) hi (fun y hy => ?_)
      have hb := hr y hy
      rw [fS_eq] at hb
      refine PV.mono (ih _ _ hb) ?_
      rintro e st ⟨s', rfl, h2, h3⟩
      cases e with
      | normal =>
        obtain ⟨n1, n2⟩ := near_head (tch := tch) (t0 := []) (an := an) hW h3
        obtain ⟨sl', h', tch', an'⟩ := s'
        simp only at h2
        obtain ⟨sl2, h4, ha2, q1, q2, q3, q4, q5⟩ := prepG_ok h2
        obtain ⟨σ', y', hc', ⟨⟨hk1⟩, ⟨hk2⟩⟩, _⟩ := arrive_ok (s1 := ⟨sl1, h1, tch, an⟩) (s' := ⟨sl2, h4, tch', an'⟩) (n1.prep (an1 := an') hW n2 q1 q2 q4 (fun j q => rowIds_gids q)) ha2
        exact ⟨y', CutS.trans (b := ⟨sl2, dens h4⟩) (fun {ι a w} r => ⟨ι, (q5 r).1, EvN.of (q5 r).2⟩) hc'.cs, hk1, hk2⟩
      | _ => exact ⟨⟨s'.sl, s'.h, s'.tch ++ (gids ⟨sl1, h1⟩ g ++ tch), an⟩, rfl, h2, FrW.prep (b := ⟨sl1, h1⟩) (an1 := an) hW p1 p2 p3 p4 (frw_from_head (an2 := an) hW h3) (fun j hj => by simp [hj])⟩
  | _ => intro s Q h; exact h.elim

end Go.Abs
