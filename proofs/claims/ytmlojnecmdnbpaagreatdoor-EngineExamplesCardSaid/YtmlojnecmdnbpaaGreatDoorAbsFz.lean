/- An object that becomes a tree; a list that is stored into an element of another list. -/
import Derived.Test.YtmlojnecmdnbpaaGreatDoorAbsX
namespace Go.Abs
set_option linter.unusedVariables false

/-- The slots that a code writes. -/
def wrOps : List Oper → List Nat
  | [] => []
  | o :: l => match o.dst with
    | some d => d :: wrOps l
    | none => wrOps l
def wr : Code → List Nat
  | .region _ ops _ => wrOps ops.toList
  | .seq a b => wr a ++ wr b
  | .cond _ a b => wr a ++ wr b
  | .block _ a => wr a
  | .loop a => wr a
  | _ => []
theorem wrOps_ok : ∀ {l : List Oper} {o : Oper}, o ∈ l → ∀ d, o.dst = some d → d ∈ wrOps l
  | [], _, h, _, _ => (List.not_mem_nil h).elim
  | p :: l, o, h, d, hd => by
    rcases List.mem_cons.1 h with q | q
    · subst q; simp [wrOps, hd]
    · have := wrOps_ok q d hd
      simp only [wrOps]
      split
      · exact List.mem_cons_of_mem _ this
      · exact this
theorem SR.setLE {sl : List V} {h : Heap} {ι : Iota} {a : Act} {w : World} {d : Nat} {x y : V} (r : SR ⟨sl, h⟩ ι a w) (hd : sl[d]? = some x) (hl : LE x y) : SR ⟨sl.set d y, h⟩ ι a w := by
  refine ⟨r.defers, ⟨by have := r.slots.1; simpa using this, fun i v hv => ?_⟩, r.heap⟩
  simp only [List.getElem?_set] at hv
  split at hv
  · rename_i q; subst q
    split at hv
    · injection hv with hv; subst hv
      obtain ⟨z, z1, z2⟩ := r.slots.2 d x hd
      exact ⟨z, z1, hl z2⟩
    · cases hv
  · exact r.slots.2 i v hv
mutual
/-- The first one's references to the object id are replaced by its rows. -/
inductive frzV (p q : V) : V → V → Prop
  | same {x : V} : frzV p q x x
  | it : frzV p q p q
  | agg {xs ys : List V} : frzVs p q xs ys → frzV p q (.agg xs) (.agg ys)
inductive frzVs (p q : V) : List V → List V → Prop
  | nil : frzVs p q [] []
  | same {x : V} {xs ys : List V} : frzVs p q xs ys → frzVs p q (x :: xs) (x :: ys)
  | cons {x y : V} {xs ys : List V} : frzV p q x y → frzVs p q xs ys → frzVs p q (x :: xs) (y :: ys)
end
theorem frzVs.len {p q : V} : ∀ {xs ys : List V}, frzVs p q xs ys → xs.length = ys.length
  | _, _, .nil => rfl
  | _, _, .same h => congrArg (· + 1) h.len
  | _, _, .cons _ h => congrArg (· + 1) h.len
mutual
theorem frzV.rep {w : World} {ι : Iota} {M : Nat → Prop} {p q : V} (hs : ∀ {y : Value}, Rep w ι M p y → Rep w ι M q y) : ∀ {x y : V}, frzV p q x y → ∀ {z : Value}, Rep w ι M x z → Rep w ι M y z
  | _, _, .same, z, r => r
  | _, _, .it, z, r => hs r
  | _, _, .agg h, z, r => by
    cases r with
    | agg _ vs hl hr => exact .agg _ vs (by rw [← h.len]; exact hl) (fun i h1 h2 => (h.rep hs i (by rw [h.len]; exact h1) h1).2 (hr i (by rw [h.len]; exact h1) h2))
theorem frzVs.rep {w : World} {ι : Iota} {M : Nat → Prop} {p q : V} (hs : ∀ {y : Value}, Rep w ι M p y → Rep w ι M q y) : ∀ {xs ys : List V}, frzVs p q xs ys → ∀ (i : Nat) (h1 : i < xs.length) (h2 : i < ys.length), True ∧ (∀ {z : Value}, Rep w ι M xs[i] z → Rep w ι M ys[i] z)
  | _, _, .nil, i, h1, h2 => by simp at h1
  | _, _, .same h, 0, h1, h2 => ⟨trivial, fun {z} r => r⟩
  | _, _, .cons u h, 0, h1, h2 => ⟨trivial, fun {z} r => u.rep hs r⟩
  | _, _, .same h, i + 1, h1, h2 => by simpa using h.rep hs i (by simpa using h1) (by simpa using h2)
  | _, _, .cons u h, i + 1, h1, h2 => by simpa using h.rep hs i (by simpa using h1) (by simpa using h2)
end

theorem freezeSR {s : St} {ι : Iota} {a : Act} {w : World} (r : SR s ι a w) {id sz : Nat} {rows : List (List V)} {e : El} (ho : s.h[id]? = some (.live ⟨sz, rows, e⟩)) (hr : NIr 0 rows) {sl : List V} (hs : frzVs (.sO id 0 rows.length) (.sF sz rows) s.sl sl) :
    SR ⟨sl, s.h.set id .dead⟩ ι a w ∧ Evolve s.h ι w (s.h.set id .dead) ι w := by
  obtain ⟨H1, ev⟩ := HRel.kill r.heap ho
  obtain ⟨l, c, fr, h1, la⟩ := r.heap.live id _ ho
  have hidlt := get_lt ho
  have hnot : ¬ Mt (s.h.set id .dead) ι l.blk := by
    rintro (q | ⟨k, o', l', k1, k2, k3⟩)
    · exact r.heap.xob _ q ⟨id, _, l, ho, h1, rfl⟩
    · have hk : k ≠ id := by intro q; subst q; rw [List.getElem?_set_self hidlt] at k1; cases k1
      rw [List.getElem?_set_ne (Ne.symm hk)] at k1
      exact hk (r.heap.apart _ _ _ _ _ _ k1 k2 ho h1 k3)
  have hsO : ∀ {y : Value}, Rep w ι (Mt (s.h.set id .dead) ι) (.sO id 0 rows.length) y → Rep w ι (Mt (s.h.set id .dead) ι) (.sF sz rows) y := by
    intro y ry
    cases ry with
    | sO _ _ _ cap l2 c2 e2 fr2 hl hcap hb hsz =>
      rw [h1] at hl; injection hl with hl; subst hl
      have hls : l.sz = sz := la.sz
      have hblk : l.blk < w.heap.size := r.heap.blk_lt ⟨id, _, l, ho, h1, rfl⟩
      have hch : ∀ i, (hi : i < rows.length) → ∀ j, (hj : j < rows[i].length) → ∃ x, c[l.base + i * sz + j]? = some x ∧ Rep w ι (Mt s.h ι) rows[i][j] x := la.reads
      have hch2 : ∃ cells : Nat → Nat → Value, ∀ i, (hi : i < rows.length) → ∀ j, (hj : j < rows[i].length) → c[l.base + i * sz + j]? = some (cells i j) ∧ Rep w ι (Mt s.h ι) rows[i][j] (cells i j) := by
        refine ⟨fun i j => if h : ∃ (hi : i < rows.length) (hj : j < rows[i].length), True then Classical.choose (hch i h.1 j h.2.1) else undef, fun i hi j hj => ?_⟩
        have hx : ∃ (hi : i < rows.length) (hj : j < rows[i].length), True := ⟨hi, hj, trivial⟩
        simp only [dif_pos hx]
        exact Classical.choose_spec (hch i hi j hj)
      obtain ⟨cells, hcells⟩ := hch2
      refine .sF sz rows ⟨l.blk, l.base + 0 * l.sz, none⟩ cap cells (fun _ => ⟨rfl, hblk, hnot⟩) hcap (fun r' hr' => la.rows r' hr') (fun i hi j hj => ?_) (fun i hi j hj => ?_)
      · have := (hcells i hi j hj).1
        simp only [World.cell?, la.blk]
        simp only [Nat.zero_mul, Nat.add_zero]
        simpa using this
      · exact ((hcells i hi j hj).2.mono ev)
  refine ⟨⟨r.defers, ⟨r.slots.1.trans hs.len, fun i y hy => ?_⟩, H1⟩, ev⟩
  have h2 := get_lt hy
  have h0 : i < s.sl.length := by rw [hs.len]; exact h2
  rw [List.getElem?_eq_getElem h2] at hy; injection hy with hy; subst hy
  obtain ⟨z, z1, z2⟩ := r.slots.2 i _ (List.getElem?_eq_getElem h0)
  exact ⟨z, z1, (hs.rep hsO i h0 h2).2 (z2.mono ev)⟩

/-- A list that is stored into a typed object: it becomes a tree first. -/
def frOd (W : List Nat) (o : Op) (sl : List V) (h : List XO) : Option (Nat × V × Nat × Bool) := match o with
  | .store _ p x => match x with
    | .tmp d => match aev sl p with
      | .pO j _ _ => match h[j]? with
        | some (.tl _ _ _) | some (.opt _ _ _) | some (.ob _ _ _) => match sl[d]? with
          | some (.oL id n) => match h[id]? with
            | some (.opt ty l _) => if W.any (Nat.beq d) then some (d, .sL ty l, id, decide (n = l.length)) else none
            | _ => none
          | _ => none
        | _ => none
      | _ => none
    | _ => none
  | _ => none
theorem NIr_row (t : Ty) (l : List t.den) : NIr 0 (l.map t.row) := by
  have key : ∀ (t : Ty) (a : t.den) (r : List V), (∀ x, x ∈ r → NI 0 x) → ∀ x, x ∈ t.cells a r → NI 0 x := by
    intro t
    induction t with
    | int k => intro a r hr x hx; rcases List.mem_cons.1 hx with q | q; exact q ▸ .v _; exact hr x q
    | bool => intro a r hr x hx; rcases List.mem_cons.1 hx with q | q; exact q ▸ .v _; exact hr x q
    | str => intro a r hr x hx; rcases List.mem_cons.1 hx with q | q; exact q ▸ .v _; exact hr x q
    | list t _ => intro a r hr x hx; rcases List.mem_cons.1 hx with q | q; exact q ▸ .sL _ _; exact hr x q
    | pair a b iha ihb => intro y r hr x hx; exact iha y.1 _ (ihb y.2 r hr) x hx
  intro r hr x hx
  obtain ⟨a, _, rfl⟩ := List.mem_map.1 hr
  exact key t a [] (fun x h => by cases h) x hx
theorem frz_set {p q : V} : ∀ (l : List V) (d : Nat), l[d]? = some p → frzVs p q l (l.set d q)
  | [], d, h => by simp at h
  | x :: l, 0, h => by
    have : x = p := by simpa using h
    subst this
    exact .cons .it (by
      have : ∀ l : List V, frzVs x q l l := fun l => by induction l with
        | nil => exact .nil
        | cons y l ih => exact .same ih
      exact this l)
  | x :: l, d + 1, h => .same (frz_set l d (by simpa using h))
theorem frOd_core {sl : List V} {h : List XO} {d i0 n : Nat} {ty : Ty} {l : List ty.den} {et : TypeId} (hd : sl[d]? = some (.oL i0 n)) (ho : h[i0]? = some (.opt ty l et)) (hn : n = l.length) {ι : Iota} {a : Act} {w : World} (r : SR ⟨sl, dens h⟩ ι a w) :
    SR ⟨sl.set d (.sL ty l), dens (h.set i0 (.raw .dead))⟩ ι a w ∧ Evolve (dens h) ι w (dens (h.set i0 (.raw .dead))) ι w := by
  subst hn
  rw [dens_set]
  by_cases h0 : l = []
  · subst h0
    have hden : (dens h)[i0]? = some HS.dead := by rw [dens_get, ho]; rfl
    have hset : (dens h).set i0 (XO.raw .dead).den = dens h := by
      show (dens h).set i0 .dead = dens h
      rw [← (List.getElem?_eq_some_iff.1 hden).2, List.set_getElem_self]
    rw [hset]
    exact ⟨r.setLE hd (fun q => by cases q with | oL _ _ _ q => cases q; exact .sL _ _ _ (.sN _)), Evolve.refl _ _ _⟩
  · have hl0 : l.length ≠ 0 := fun q => h0 (List.length_eq_zero_iff.1 q)
    have hden : (dens h)[i0]? = some (.live ⟨ty.size, l.map ty.row, et⟩) := by rw [dens_get, ho]; simp [XO.den, h0]
    have r1 := r.setLE hd (y := .sO i0 0 l.length) (fun q => by cases q with | oL _ _ _ q => simpa [hl0] using q)
    have hlt := get_lt hd
    have hs := frz_set (p := .sO i0 0 (l.map ty.row).length) (q := .sF ty.size (l.map ty.row)) (sl.set _ (.sO i0 0 l.length)) _ (by rw [List.length_map]; exact List.getElem?_set_self hlt)
    obtain ⟨r2, ev⟩ := freezeSR r1 hden (NIr_row ty l) hs
    rw [List.set_set] at r2
    refine ⟨?_, ev⟩
    have r3 := r2.setLE (y := .sL ty l) (List.getElem?_set_self hlt) (fun q => .sL _ _ _ q)
    rw [List.set_set] at r3
    exact r3
theorem frOd_core2 {sl : List V} {h : List XO} {d i0 n : Nat} {ty : Ty} {l : List ty.den} {et : TypeId} (hd : sl[d]? = some (.sO i0 0 n)) (ho : h[i0]? = some (.tl ty l et)) (hn : n = l.length) {ι : Iota} {a : Act} {w : World} (r : SR ⟨sl, dens h⟩ ι a w) :
    SR ⟨sl.set d (.sL ty l), dens (h.set i0 (.raw .dead))⟩ ι a w ∧ Evolve (dens h) ι w (dens (h.set i0 (.raw .dead))) ι w := by
  subst hn
  rw [dens_set]
  have hden : (dens h)[i0]? = some (.live ⟨ty.size, l.map ty.row, et⟩) := by rw [dens_get, ho]; rfl
  have hlt := get_lt hd
  have hs := frz_set (p := .sO i0 0 (l.map ty.row).length) (q := .sF ty.size (l.map ty.row)) sl d (by rw [List.length_map]; exact hd)
  obtain ⟨r2, ev⟩ := freezeSR r hden (NIr_row ty l) hs
  have r3 := r2.setLE (y := .sL ty l) (List.getElem?_set_self hlt) (fun q => .sL _ _ _ q)
  rw [List.set_set] at r3
  exact ⟨r3, ev⟩
def isOL : V → Bool
  | .oL _ _ => true
  | .sO _ _ _ => true
  | _ => false
theorem frOd_ok {W : List Nat} {o : Op} {sl : List V} {h : List XO} {d id : Nat} {x : V} {c : Bool} (e : frOd W o sl h = some (d, x, id, c)) (hc : c = true) :
    d ∈ W ∧ (∃ z, sl[d]? = some z ∧ isOL z = true) ∧ ∀ {ι : Iota} {a : Act} {w : World}, SR ⟨sl, dens h⟩ ι a w → ∃ ι', SR ⟨sl.set d x, dens (h.set id (.raw .dead))⟩ ι' a w ∧ Evolve (dens h) ι w (dens (h.set id (.raw .dead))) ι' w := by
  unfold frOd at e
  repeat' split at e
  all_goals first | (cases e; done) | skip
  all_goals
    rename_i i0 n hd _ ty l et ho hW
    injection e with e; injection e with e1 e2; injection e2 with e2 e3; injection e3 with e3 e4
    subst e1 e2 e3 e4
    have hn := of_decide_eq_true hc
    subst hn
    refine ⟨?_, ⟨_, hd, rfl⟩, fun {ι a w} r => ⟨ι, ?_⟩⟩
    · obtain ⟨k, hk, hq⟩ := List.any_eq_true.1 hW
      have := Nat.eq_of_beq_eq_true hq
      subst this; exact hk
    · first | exact frOd_core hd ho rfl r | exact frOd_core2 hd ho rfl r

def isR1 : XO → Bool
  | _ => false
/-- The same in a region that draws its order: the store takes the list's place with it. -/
def dstF (P : Program) (o : Op) (sl : List V) (h : List XO) : Option (List Bool × Nat × Nat × XO) := match o with
  | .store t p x => match aev sl p, aev sl x with
    | .pO j r off, .oL id n => match h[j]?, h[id]? with
      | some oj, some (.opt ty l _) => match dstore P [oj] t (.pO 0 r off) (.sL ty l) with
        | some (cs, _, [oj']) => match Nat.beq j id || isR1 oj with
          | true => none
          | false => some (decide (n = l.length) :: cs, j, id, oj')
        | _ => none
      | _, _ => none
    | _, _ => none
  | _ => none
theorem dstore_at {P : Program} {h : List XO} {t : TypeId} {j r off : Nat} {x z : V} {oj oj' : XO} {cs : List Bool} (hj : h[j]? = some oj) (e : dstore P [oj] t (.pO 0 r off) x = some (cs, z, [oj'])) : dstore P h t (.pO j r off) x = some (cs, z, h.set j oj') := by
  unfold dstore at e ⊢
  cases hlv : leaves x with
  | none => simp [hlv] at e
  | some ls =>
    cases hsz : sizeT P t with
    | none => simp [hlv, hsz] at e
    | some n =>
      simp only [hlv, hsz, List.getElem?_cons_zero] at e
      simp only [hj]
      repeat' split at e
      all_goals first | (cases e; done) | skip
      all_goals (simp only [List.set_cons_zero, Option.some.injEq, Prod.mk.injEq, List.cons.injEq, and_true] at e; obtain ⟨rfl, rfl, rfl⟩ := e)
      all_goals simp_all
theorem dstF_os {P : Program} {o : Oper} {sl : List V} {h : List XO} {cs : List Bool} {j id : Nat} {oj' : XO} (e : dstF P o.op sl h = some (cs, j, id, oj')) (hc : allT cs) {ι : Iota} {a : Act} {w : World} (r : SR ⟨sl, dens h⟩ ι a w) :
    OS P (dens h) ι w (execOp a.eval o) (some (.any, dens ((h.set id (.raw .dead)).set j oj'))) := by
  unfold dstF at e
  split at e
  · rename_i t p x hop
    split at e
    · rename_i j0 rr off id0 n hp hx
      split at e
      · rename_i oj ty l et hj hid
        split at e
        · rename_i cs' z oj0 hs
          split at e
          · cases e
          · rename_i hne
            injection e with e; injection e with e1 e2; injection e2 with e2 e3; injection e3 with e3 e4; subst e1 e2 e3 e4
            have hne : j0 ≠ id0 := Nat.ne_of_beq_eq_false (Bool.or_eq_false_iff.1 hne).1
            obtain ⟨hn, hc'⟩ := allT_cons hc
            have hn := of_decide_eq_true hn
            cases x with
            | tmp d =>
              have hd : sl[d]? = some (.oL id0 n) := by
                simp only [aev, List.getD] at hx
                cases q : sl[d]? with
                | none => rw [q] at hx; cases hx
                | some v => rw [q] at hx; exact congrArg some hx
              obtain ⟨r2, ev⟩ := frOd_core hd hid hn r
              have hp2 : aev (sl.set d (.sL ty l)) p = .pO j0 rr off := by
                rw [← hp]
                cases p with
                | tmp q =>
                  have hq : q ≠ d := by
                    intro q2; subst q2
                    simp only [aev, List.getD, hd] at hp
                    cases hp
                  simp only [aev, List.getD, List.getElem?_set_ne (Ne.symm hq)]
                | _ => rfl
              have hx2 : aev (sl.set d (.sL ty l)) (.tmp d) = .sL ty l := by
                simp only [aev, List.getD, List.getElem?_set_self (get_lt hd)]; rfl
              have hj2 : (h.set id0 (.raw .dead))[j0]? = some oj := by rw [List.getElem?_set_ne (Ne.symm hne)]; exact hj
              have hst := dstore_at hj2 hs
              have hst2 : dstore P (h.set id0 (.raw .dead)) t (aev (sl.set d (.sL ty l)) p) (aev (sl.set d (.sL ty l)) (.tmp d)) = some (cs', z, (h.set id0 (.raw .dead)).set j0 oj0) := by rw [hp2, hx2]; exact hst
              have hao := dstore_ok (new := 0) hst2 hc'
              rw [← hop] at hao
              have hos := hao.os r2.heap (fun y => aev_rep r2.slots y)
              intro y h' ee
              injection ee with ee; injection ee with ee1 ee2; subst ee1 ee2
              obtain ⟨y, w', ι', q1, _, q3, q4⟩ := hos _ _ rfl
              exact ⟨y, w', ι', q1, .any _, q3, ev.trans q4⟩
            | const c => simp only [aev] at hx; cases c <;> cases hx
            | global g => cases hx
            | func f => cases hx
        · cases e
      · cases e
    · cases e
  · cases e

end Go.Abs
