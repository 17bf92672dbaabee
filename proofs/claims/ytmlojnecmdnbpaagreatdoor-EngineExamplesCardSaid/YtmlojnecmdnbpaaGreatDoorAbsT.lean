/- Operations on typed data that write: storing, appending, making. -/
import Derived.Test.YtmlojnecmdnbpaaGreatDoorAbsS
namespace Go.Abs
set_option linter.unusedVariables false

/-- A cell whose typed reading is the cell itself. -/
def Ex : V → Prop
  | .sL _ _ => True
  | .v (.slice none 0 0) => False
  | .v _ => True
  | _ => False
theorem Ty.ex : ∀ (t : Ty) (a : t.den) (r : List V), (∀ x, x ∈ r → Ex x) → ∀ x, x ∈ t.cells a r → Ex x
  | .int _, _, _, h, x, hx => by rcases List.mem_cons.1 hx with q | q; exact q ▸ trivial; exact h x q
  | .bool, _, _, h, x, hx => by rcases List.mem_cons.1 hx with q | q; exact q ▸ trivial; exact h x q
  | .str, _, _, h, x, hx => by rcases List.mem_cons.1 hx with q | q; exact q ▸ trivial; exact h x q
  | .list _, _, _, h, x, hx => by rcases List.mem_cons.1 hx with q | q; exact q ▸ trivial; exact h x q
  | .pair a b, p, r, h, x, hx => a.ex p.1 _ (b.ex p.2 r h) x hx
theorem Ty.row_ok : ∀ (t : Ty) (a : t.den) (r : List V), r.all leafOk = true → (t.cells a r).all leafOk = true
  | .int _, _, _, h => by simp only [Ty.cells, List.all_cons, h]; rfl
  | .bool, _, _, h => by simp only [Ty.cells, List.all_cons, h]; rfl
  | .str, _, _, h => by simp only [Ty.cells, List.all_cons, h]; rfl
  | .list _, _, _, h => by simp only [Ty.cells, List.all_cons, h]; rfl
  | .pair a b, p, r, h => a.row_ok p.1 _ (b.row_ok p.2 r h)

def RX (x y : V) : Prop := LE x y ∧ (Ex x → x = y)
theorem unPure_rx : ∀ n, UnOk RX (unPure n)
  | 0, x, t, l, h => by simp [unPure] at h
  | n + 1, x, t, l, h => by
    refine ⟨unPure_ok (n + 1) x t l h, fun hx => ?_⟩
    simp only [unPure] at h
    split at h
    · exact castL_eq h
    · exact hx.elim
    · exact hx.elim
    · cases h

/-- Exact reading. -/
def unX (x : V) (t : Ty) : Option (List t.den) := match x with
  | .sL _ l => castL l
  | _ => none
theorem unX_ok : UnOk (· = ·) unX := by
  intro x t l h
  unfold unX at h
  split at h
  · exact castL_eq h
  · cases h
theorem un_row_eq {t : Ty} {cs : List V} {a : t.den} (h : un unX t cs = some (a, [])) : cs = t.row a := by
  obtain ⟨h1, h2⟩ := un_row unX_ok (fun _ => rfl) h
  refine List.ext_getElem? fun i => ?_
  by_cases hi : i < cs.length
  · rw [List.getElem?_eq_getElem hi, List.getElem?_eq_getElem (by omega)]
    rw [h2 i _ _ (List.getElem?_eq_getElem hi) (List.getElem?_eq_getElem (by omega))]
  · rw [List.getElem?_eq_none (by omega), List.getElem?_eq_none (by omega)]
theorem unRows_eq {t : Ty} : ∀ {rows : List (List V)} {l : List t.den}, unRows unX t rows = some l → rows = l.map t.row
  | [], l, h => by simp [unRows] at h; subst h; rfl
  | r :: rs, l, h => by
    simp only [unRows] at h
    split at h
    · rename_i x hx
      split at h
      · rename_i xs hxs
        injection h with h; subst h
        rw [un_row_eq hx, unRows_eq hxs]; rfl
      · cases h
    · cases h

/- storing -/
def dstore (P : Program) (h : List XO) (t : TypeId) (p x : V) : DR :=
  match p, leaves x, sizeT P t with
  | .pO id r off, some ls, some n => if ls.length = n ∧ isPtr x = false then match h[id]? with
    | some (.tl ty l el) => if off + n ≤ ty.size then match un (unPure 8) ty ((ty.row (l[r]!)).take off ++ ls ++ (ty.row (l[r]!)).drop (off + n)) with
      | some (y, []) => some ([decide (r < l.length)], .any, h.set id (.tl ty (l.set r y) el))
      | _ => none
      else none
    | some (.ob ty a el) => (match r with
      | 0 => if off + n ≤ ty.size then (match un (unPure 8) ty ((ty.row a).take off ++ ls ++ (ty.row a).drop (off + n)) with
        | some (y, []) => some ([], .any, h.set id (.ob ty y el))
        | _ => none)
        else none
      | _ => none)
    | some (.opt ty l el) => if off + n ≤ ty.size then match un (unPure 8) ty ((ty.row (l[r]!)).take off ++ ls ++ (ty.row (l[r]!)).drop (off + n)) with
      | some (y, []) => some ([decide (r < l.length)], .any, h.set id (.opt ty (l.set r y) el))
      | _ => none
      else none
    | _ => none
    else none
  | _, _, _ => none

theorem store_row {t : Ty} {a y : t.den} {off n : Nat} {ls : List V} (hl : ls.length = n) (hfit : off + n ≤ (t.row a).length) (e : un (unPure 8) t ((t.row a).take off ++ ls ++ (t.row a).drop (off + n)) = some (y, [])) :
    (t.row a).take off ++ ((t.row y).drop off).take n ++ (t.row a).drop (off + n) = t.row y ∧ LEs ls (((t.row y).drop off).take n) := by
  obtain ⟨h1, h2⟩ := un_row (unPure_rx 8) (fun x => ⟨LE.refl _, fun _ => rfl⟩) e
  have hlen : (t.row y).length = (t.row a).length := by rw [Ty.cells_len, Ty.cells_len]
  have hex : ∀ x, x ∈ t.row a → Ex x := t.ex a [] (fun x h => by cases h)
  have hto : ((t.row a).take off).length = off := by rw [List.length_take]; omega
  have hget : ∀ (i : Nat), ((t.row a).take off ++ ls ++ (t.row a).drop (off + n))[i]? = if i < off then (t.row a)[i]? else if i < off + n then ls[i - off]? else (t.row a)[i]? := by
    intro i
    by_cases q1 : i < off
    · rw [if_pos q1, List.append_assoc, List.getElem?_append_left (by omega), List.getElem?_take, if_pos q1]
    · rw [if_neg q1]
      by_cases q2 : i < off + n
      · rw [if_pos q2, List.append_assoc, List.getElem?_append_right (by omega), List.getElem?_append_left (by omega), hto]
      · rw [if_neg q2, List.getElem?_append_right (by simp; omega), List.getElem?_drop]
        congr 1
        simp; omega
  refine ⟨?_, ?_⟩
  · refine List.ext_getElem? fun i => ?_
    by_cases q1 : i < off
    · rw [List.append_assoc, List.getElem?_append_left (by omega), List.getElem?_take, if_pos q1]
      have hi : i < (t.row a).length := by omega
      have h3 := h2 i (t.row a)[i] (t.row y)[i] (by rw [hget, if_pos q1, List.getElem?_eq_getElem hi]) (List.getElem?_eq_getElem (by omega))
      rw [List.getElem?_eq_getElem hi, List.getElem?_eq_getElem (by omega), h3.2 (hex _ (List.getElem_mem hi))]
    · by_cases q2 : i < off + n
      · rw [List.append_assoc, List.getElem?_append_right (by omega), List.getElem?_append_left (by rw [hto, List.length_take, List.length_drop]; omega), hto, List.getElem?_take, if_pos (by omega), List.getElem?_drop]
        congr 1; omega
      · rw [List.getElem?_append_right (by simp; omega), List.getElem?_drop]
        have e1 : off + n + (i - ((t.row a).take off ++ ((t.row y).drop off).take n).length) = i := by simp; omega
        rw [e1]
        by_cases hi : i < (t.row a).length
        · have h3 := h2 i (t.row a)[i] (t.row y)[i] (by rw [hget, if_neg q1, if_neg q2, List.getElem?_eq_getElem hi]) (List.getElem?_eq_getElem (by omega))
          rw [List.getElem?_eq_getElem hi, List.getElem?_eq_getElem (by omega), h3.2 (hex _ (List.getElem_mem hi))]
        · rw [List.getElem?_eq_none (by omega), List.getElem?_eq_none (by omega)]
  · refine ⟨by rw [List.length_take, List.length_drop]; omega, fun i x z hx hz => ?_⟩
    rw [List.getElem?_take] at hz
    have hi := get_lt hx
    rw [if_pos (by omega), List.getElem?_drop] at hz
    have h3 := h2 (off + i) x z (by rw [hget, if_neg (by omega), if_pos (by omega)]; rw [show off + i - off = i by omega]; exact hx) hz
    exact @h3.left

theorem un_pO (f : V → (t : Ty) → Option (List t.den)) (hf : ∀ t id r o, f (.pO id r o) t = none) (id r o : Nat) : ∀ (t : Ty) (cs : List V), un f t (.pO id r o :: cs) = none
  | .int _, _ => rfl
  | .bool, _ => rfl
  | .str, _ => rfl
  | .list t, _ => by simp only [un, hf]
  | .pair a b, cs => by simp only [un, un_pO f hf id r o a cs]

open Classical in
theorem dstore_ok {P : Program} {t : TypeId} {p x : Operand} {ev : Operand → V} {h h' : List XO} {new : Nat} {cs : List Bool} {z : V} (e : dstore P h t (ev p) (ev x) = some (cs, z, h')) (hc : allT cs) :
    AO P (.store t p x) ev (dens h) new z (dens h') := by
  have key : ∀ (id r off : Nat) (ls : List V) (n : Nat) (ty : Ty) (l : List ty.den) (el : TypeId) (y : ty.den), ev p = .pO id r off → isPtr (ev x) = false → leaves (ev x) = some ls → sizeT P t = some n → ls.length = n →
      (dens h)[id]? = some (.live ⟨ty.size, l.map ty.row, el⟩) → off + n ≤ ty.size → un (unPure 8) ty ((ty.row (l[r]!)).take off ++ ls ++ (ty.row (l[r]!)).drop (off + n)) = some (y, []) → r < l.length →
      AO P (.store t p x) ev (dens h) new .any ((dens h).set id (.live ⟨ty.size, (l.set r y).map ty.row, el⟩)) := by
    intro id r off ls n ty l el y hp hnp hls hn hlen ho hfit hun hr
    have hrl : ∀ a : ty.den, (ty.row a).length = ty.size := fun a => by simpa using ty.cells_len a []
    have hfit' : off + n ≤ (ty.row l[r]!).length := by rw [hrl]; exact hfit
    obtain ⟨g1, g2⟩ := store_row hlen hfit' hun
    -- the weaker form of what is stored
    obtain ⟨w, w1, w2, w3⟩ : ∃ w, leaves w = some (((ty.row y).drop off).take n) ∧ LE (ev x) w ∧ topIds w = [] := by
      have hzl : (((ty.row y).drop off).take n).length = n := by rw [List.length_take, List.length_drop, hrl]; omega
      by_cases hag : ∃ xs, norm (ev x) = .agg xs
      · obtain ⟨xs, hxs⟩ := hag
        refine ⟨.agg (((ty.row y).drop off).take n), rfl, ?_, rfl⟩
        have : ls = xs := by simp only [leaves, hxs] at hls; injection hls with hls; exact hls.symm
        subst this
        intro _ _ _ _ rr
        have rr := rr.norm
        rw [hxs] at rr
        exact LE.agg g2 rr
      · have hl1 : ls = [norm (ev x)] := by
          unfold leaves at hls
          split at hls
          · rename_i xs hxs; exact absurd ⟨xs, hxs⟩ hag
          · cases hls
          · cases hls
          · injection hls with hls; exact hls.symm
        subst hl1
        simp at hlen
        subst hlen
        obtain ⟨c, hcx⟩ := List.length_eq_one_iff.1 hzl
        have hcm : c ∈ ty.row y := by
          have : c ∈ ((ty.row y).drop off).take 1 := by rw [hcx]; simp
          exact List.mem_of_mem_drop (List.mem_of_mem_take this)
        have hlo := ty.row_ok y [] rfl
        rw [List.all_eq_true] at hlo
        have hck := hlo c hcm
        have hce := ty.ex y [] (fun _ q => by cases q) c hcm
        rw [hcx] at g2 ⊢
        have hlec : LE (norm (ev x)) c := g2.2 0 _ _ rfl rfl
        refine ⟨c, ?_, fun rr => hlec rr.norm, ?_⟩
        · cases c with
          | v q => cases q <;> first | rfl | (simp [leafOk, Value.oneCell'] at hck)
          | sL _ _ => rfl
          | _ => exact hce.elim
        · cases c with
          | v q => rfl
          | sL _ _ => rfl
          | _ => exact hce.elim
    have hne : ev p ≠ ev x := by
      intro q
      rw [← q, hp] at hnp
      cases hnp
    refine ⟨fun a => if ev a = ev x then w else ev a, .any, fun a => ?_, LE.refl _, ?_⟩
    · by_cases q : ev a = ev x
      · simp only [q, if_true]; exact ⟨w2, fun i hi => by rw [w3] at hi; cases hi⟩
      · simp only [q, if_false]; exact ⟨LE.refl _, fun _ hi => hi⟩
    · have hzl : (((ty.row y).drop off).take n).length = n := by rw [List.length_take, List.length_drop, hrl]; omega
      have hall : (((ty.row y).drop off).take n).all leafOk = true := by
        rw [List.all_eq_true]
        intro c hcm
        have hlo := ty.row_ok y [] rfl
        rw [List.all_eq_true] at hlo
        exact hlo c (List.mem_of_mem_drop (List.mem_of_mem_take hcm))
      have hrow : (l.map ty.row)[r]? = some (ty.row l[r]!) := by simp [hr, getElem!_pos]
      show aStore P (dens h) t (if ev p = ev x then w else ev p) (if ev x = ev x then w else ev x) = _
      rw [if_neg hne, if_pos rfl, hp]
      simp only [aStore, w1, hn, ho, hrow]
      rw [if_pos ⟨hzl, hall⟩, if_pos ⟨hfit', by first | trivial | exact Nat.zero_le _⟩, g1]
      simp [List.map_set]
  unfold dstore at e
  split at e
  · rename_i id r off ls n hp hls hn
    split at e
    · rename_i hlen
      split at e
      · rename_i ty l el ho
        split at e
        · rename_i hfit
          split at e
          · rename_i y hun
            injection e with e; injection e with e1 e2; injection e2 with e2 e3; subst e1 e2 e3
            have := key id r off ls n ty l el y hp hlen.2 hls hn hlen.1 (by rw [dens_get, ho]; rfl) hfit hun (of_decide_eq_true (allT_cons hc).1)
            rw [dens_set]; exact this
          · cases e
        · cases e
      · rename_i ty b el ho
        split at e
        · split at e
          · rename_i hfit
            split at e
            · rename_i y hun
              injection e with e; injection e with e1 e2; injection e2 with e2 e3; subst e1 e2 e3
              have := key id 0 off ls n ty [b] el y hp hlen.2 hls hn hlen.1 (by rw [dens_get, ho]; rfl) hfit hun (by simp)
              rw [dens_set]; exact this
            · cases e
          · cases e
        · cases e
      · rename_i ty l el ho
        split at e
        · rename_i hfit
          split at e
          · rename_i y hun
            injection e with e; injection e with e1 e2; injection e2 with e2 e3; subst e1 e2 e3
            have hr := of_decide_eq_true (allT_cons hc).1
            have hn0 : ¬ l.isEmpty = true := by intro q; rw [List.isEmpty_iff] at q; subst q; simp at hr
            have hn1 : ¬ (l.set r y).isEmpty = true := by intro q; rw [List.isEmpty_iff] at q; have := congrArg List.length q; simp at this; subst this; simp at hr
            have := key id r off ls n ty l el y hp hlen.2 hls hn hlen.1 (by rw [dens_get, ho]; simp [XO.den, hn0]) hfit hun hr
            rw [dens_set]
            simpa [XO.den, hn1] using this
          · cases e
        · cases e
      · cases e
    · cases e
  · cases e

end Go.Abs
