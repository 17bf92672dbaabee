/- Builders: writing, from the walk of the function in a small heap. -/
import Derived.Test.YtmlojnecmdnbpaaGreatDoorAbsZc
import Derived.Test.YtmlojnecmdnbpaaGreatDoorAbsLg
import Derived.Lib.UnsafeStr
import Derived.Tactics2
import Derived.RegionTactic
import Derived.WalkKit
namespace Go.Abs
set_option linter.unusedVariables false

/-- Where a writing method returns. -/
def finW (P : Program) (rs : List ResultVar) (n : Nat) (l : List Int) (e eb : TypeId) (m : Nat) (x : Exit) (s : Y) : Prop :=
  match s with
  | ⟨sl, h, _, _⟩ => match x with
    | .ret => (match ares P rs sl (dens h), bldRd e eb h 0 with
      | some y, some (true, cs, some j, l') => needs cs (Kern (Nat.ble m j && Nat.ble m h.length) ∧ (Leaf (y = wrR n) ∧ (Leaf (l' = l) ∧ True)))
      | _, _ => False)
    | _ => False
theorem finW_ok {P : Program} {rs : List ResultVar} {n m : Nat} {l : List Int} {e eb : TypeId} {x : Exit} {s : Y} (h : finW P rs n l e eb m x s) : (x = .normal ∨ x = .ret) ∧ ares P rs s.sl (dens s.h) = some (wrR n) ∧ ∃ cs j, bldRd e eb s.h 0 = some (true, cs, some j, l) ∧ allT cs ∧ m ≤ j ∧ m ≤ s.h.length := by
  obtain ⟨sl, hp, tch, an⟩ := s
  simp only [finW] at h
  split at h
  · split at h
    · rename_i y cs j l' hy hr
      obtain ⟨hc, ⟨hk⟩, ⟨rfl⟩, ⟨rfl⟩, _⟩ := needs_spec h
      simp only [Bool.and_eq_true] at hk
      exact ⟨.inr rfl, hy, cs, j, hr, hc, Nat.le_of_ble_eq_true hk.1, Nat.le_of_ble_eq_true hk.2⟩
    · exact h.elim
  · exact h.elim

/-- What a builder is. -/
theorem bldRd_spec {e eb : TypeId} {h : List XO} {i : Nat} {b : Bool} {cs : List Bool} {j : Option Nat} {l : List Int} (hr : bldRd e eb h i = some (b, cs, j, l)) (hc : allT cs) :
    ∃ c1, h[i]? = some (.raw (.live ⟨2, [[selfV i b, c1]], eb⟩)) ∧ ((j = none ∧ l = [] ∧ c1 = .v (.slice none 0 0)) ∨ ∃ k, j = some k ∧ c1 = .oL k l.length ∧ h[k]? = some (.opt (.int .u8) l e)) := by
  unfold bldRd at hr
  split at hr
  · rename_i o ho
    split at hr
    · rename_i c0 c1 hrow
      split at hr
      · rename_i b' hb hz
        have ho' : ∀ b2, c0 = selfV i b2 → h[i]? = some (.raw (.live ⟨2, [[selfV i b2, c1]], eb⟩)) := by
          intro b2 q
          simp only [Bool.and_eq_true] at hz
          have z1 := Nat.eq_of_beq_eq_true hz.1
          have z2 := El.is_eq hz.2
          rw [ho]
          obtain ⟨sz, rows, el⟩ := o
          simp only at z1 z2 hrow
          subst z1 z2 hrow q
          rfl
        have hself : c0 = selfV i b' := by
          unfold rdSelf at hb
          split at hb
          · injection hb with hb; subst hb; rfl
          · split at hb
            · rename_i q
              have q := Nat.eq_of_beq_eq_true q
              injection hb with hb; subst hb q; rfl
            · cases hb
          · cases hb
        split at hr
        · rename_i j' n
          split at hr
          · rename_i t l' e' hj'
            split at hr
            · rename_i l'' hl he
              injection hr with hr; injection hr with e1 hr; injection hr with e2 hr; injection hr with e3 e4; subst e1 e2 e3 e4
              have hn : n = l''.length := of_decide_eq_true (hc _ (by simp))
              obtain ⟨et, el⟩ := castL_ty hl
              have he := Nat.eq_of_beq_eq_true he
              subst et; subst el he
              exact ⟨_, ho' _ hself, .inr ⟨_, rfl, by rw [hn], hj'⟩⟩
            · cases hr
          · cases hr
        · injection hr with hr; injection hr with e1 hr; injection hr with e2 hr; injection hr with e3 e4; subst e1 e2 e3 e4
          exact ⟨_, ho' _ hself, .inl ⟨rfl, rfl, rfl⟩⟩
        · cases hr
      · cases hr
    · cases hr
  · cases hr

theorem RenV.self {σ : List Nat} {i k : Nat} (b : Bool) (h : σ[k]? = some i) : RenV σ (selfV i b) (selfV k b) := by
  cases b with
  | true => exact RenV.pO 0 0 h
  | false => exact RenV.tree (LE.refl _) (.v _)
theorem RenO.two {σ : List Nat} {a b c d : V} {eb : TypeId} (h1 : RenV σ a c) (h2 : RenV σ b d) : RenO σ (.live ⟨2, [[a, b]], eb⟩) (.live ⟨2, [[c, d]], eb⟩) :=
  ⟨by simp, fun o' q => by
    injection q with q; subst q
    refine ⟨_, rfl, ⟨rfl, rfl, rfl, fun m r r' g1 g2 => ?_⟩⟩
    match m, g1, g2 with
    | 0, g1, g2 =>
      simp at g1 g2; subst g1 g2
      refine ⟨rfl, fun n x y g3 g4 => ?_⟩
      match n, g3, g4 with
      | 0, g3, g4 => simp at g3 g4; subst g3 g4; exact h1
      | 1, g3, g4 => simp at g3 g4; subst g3 g4; exact h2
      | n + 2, g3, g4 => simp at g3
    | m + 1, g1, g2 => simp at g1⟩

/-- From the small heap to the caller's. -/
theorem BldW.lift {P : Program} {f : FuncId} {e eb : TypeId} {h : List XO} {i new : Nat} {s : ByteArray} {b : Bool} {l l2 : List Int} {j : Option Nat} {c1 : V} (hi : h[i]? = some (.raw (.live ⟨2, [[selfV i b, c1]], eb⟩)))
    (hj : ∀ k, j = some k → k ≠ i ∧ h[k]? = some (.opt (.int .u8) l e)) (hnew : h[new]? = some (.raw .free)) (c0 : V) (hc0 : RenV (i :: tchJ j []) c1 c0)
    (hc : PC P f [.pO 0 0 0, .v (.string s)] (.live ⟨2, [[selfV 0 b, c0]], eb⟩ :: (match j with | some _ => [(XO.opt (.int .u8) l e).den] | none => []))
      (fun y k => y = wrR s.size ∧ ∃ (hs : List XO) (cs : List Bool) (jj : Nat), k = dens hs ∧ bldRd e eb hs 0 = some (true, cs, some jj, l2) ∧ allT cs ∧ (i :: tchJ j []).length ≤ jj ∧ (i :: tchJ j []).length ≤ hs.length)) :
    PC P f [.pO i 0 0, .v (.string s)] (dens h) (fun y k => y = wrR s.size ∧ k = dens ((killX (h.set i (bldX eb i new l2.length)) j).set new (.opt (.int .u8) l2 e))) := by
  have hni : new ≠ i := by intro q; subst q; rw [hi] at hnew; cases hnew
  have hnj : ∀ k, j = some k → new ≠ k := by intro k hk q; subst q; rw [(hj _ hk).2] at hnew; cases hnew
  have hilt := get_lt hi
  have hnlt := get_lt hnew
  have hnd : (i :: tchJ j []).Nodup := by
    cases j with
    | none => simp [tchJ]
    | some k => simp only [tchJ, List.nodup_cons, List.mem_cons, List.not_mem_nil, or_false, not_false_eq_true, List.nodup_nil, and_true]; exact Ne.symm (hj k rfl).1
  have hs0 : (i :: tchJ j [])[0]? = some i := rfl
  refine PC.liftN (σ := i :: tchJ j []) (N := [new]) hnd (fun x hx => ?_) ?_ (fun a c hac => ?_) ?_ hc ?_
  · simp only [List.mem_cons, List.not_mem_nil, or_false] at hx
    subst hx; rw [dens_get, hnew]; rfl
  · cases j <;> rfl
  · match a, hac with
    | 0, hac =>
      have hac : i = c := by simpa using hac
      subst hac
      refine ⟨_, _, by rw [dens_get, hi]; rfl, rfl, RenO.two (RenV.self b hs0) hc0⟩
    | a + 1, hac =>
      cases j with
      | none => simp [tchJ] at hac
      | some k =>
        match a, hac with
        | 0, hac =>
          have hac : k = c := by simpa [tchJ] using hac
          subst hac
          exact ⟨_, _, by rw [dens_get, (hj k rfl).2]; rfl, rfl, RenO.opt _ _ _⟩
        | a + 1, hac => simp [tchJ] at hac
  · refine ⟨rfl, fun m x y h1 h2 => ?_⟩
    match m, h1, h2 with
    | 0, h1, h2 => simp at h1 h2; subst h1 h2; exact RenV.pO 0 0 hs0
    | 1, h1, h2 => simp at h1 h2; subst h1 h2; exact RenV.tree (LE.refl _) (.v _)
    | m + 2, h1, h2 => simp at h1
  rintro y k ⟨rfl, hs, cs, jj, rfl, hr, hcs, hjj, hlen⟩
  obtain ⟨d1, r1, r2⟩ := bldRd_spec hr hcs
  obtain ⟨k2, q, rfl, r3⟩ : ∃ k2, some jj = some k2 ∧ d1 = .oL k2 l2.length ∧ hs[k2]? = some (.opt (.int .u8) l2 e) := by
    rcases r2 with ⟨q, _⟩ | r2
    · cases q
    · exact r2
  injection q with q; subst q
  let g : Nat → Nat := fun x => if x = i then 0 else if x = new then jj else if j = some x then 1 else hs.length
  have gi : g i = 0 := by simp [g]
  have gn : g new = jj := by simp [g, hni]
  have gj : ∀ k, j = some k → g k = 1 := fun k hk => by simp [g, (hj k hk).1, Ne.symm (hnj k hk), hk]
  have go : ∀ x, x ≠ i → x ≠ new → j ≠ some x → g x = hs.length := fun x h1 h2 h3 => by simp [g, h1, h2, h3]
  have hL : (dens ((killX (h.set i (bldX eb i new l2.length)) j).set new (.opt (.int .u8) l2 e))).length = h.length := by rw [dens_len]; simp [killX_length]
  have hτ : ∀ x, x < h.length → ((List.range h.length).map g)[x]? = some (g x) := fun x hx => by simp [hx]
  have ki : (dens ((killX (h.set i (bldX eb i new l2.length)) j).set new (.opt (.int .u8) l2 e)))[i]? = some (.live ⟨2, [[.pO i 0 0, .oL new l2.length]], eb⟩) := by
    rw [dens_get, List.getElem?_set_ne hni, killX_get (fun k hk => (hj k hk).1), List.getElem?_set_self hilt]; rfl
  have kn : (dens ((killX (h.set i (bldX eb i new l2.length)) j).set new (.opt (.int .u8) l2 e)))[new]? = some (XO.opt (.int .u8) l2 e).den := by
    rw [dens_get, List.getElem?_set_self (by simpa [killX_length] using hnlt)]; rfl
  have kj : ∀ k, j = some k → (dens ((killX (h.set i (bldX eb i new l2.length)) j).set new (.opt (.int .u8) l2 e)))[k]? = some .dead := fun k hk => by
    subst hk
    rw [dens_get, List.getElem?_set_ne (hnj k rfl)]
    simp only [killX]
    rw [List.getElem?_set_self (by simpa using get_lt (hj k rfl).2)]; rfl
  have mem : ∀ x, x ∈ i :: tchJ j [] → x = i ∨ j = some x := fun x hx => by
    rcases List.mem_cons.1 hx with q | q
    · exact .inl q
    · cases j with
      | none => simp [tchJ] at q
      | some k => simp [tchJ] at q; subst q; exact .inr rfl
  have mem2 : ∀ x, j = some x → x ∈ i :: tchJ j [] := fun x hx => by subst hx; simp [tchJ]
  have h2l : ∀ k, j = some k → 2 ≤ jj ∧ 2 ≤ hs.length := fun k hk => by subst hk; simp [tchJ] at hjj hlen; omega
  have h1l : 1 ≤ jj ∧ 1 ≤ hs.length := by simp at hjj hlen; omega
  refine ⟨(List.range h.length).map g, ⟨by rw [hL]; simp, by rw [dens_len, hL]; exact Nat.le_refl _, fun x hx hs1 hs2 => ?_, fun a x hx => ?_, fun x hx hlt => ?_, fun x1 x2 m o1 o2 g1 g2 g3 g4 g5 g6 => ?_⟩, RenV.tree (LE.refl _) (.tup fun z hz => ?_)⟩
  · rw [dens_len] at hx
    have n1 : x ≠ i := fun q => hs1 (by rw [q]; exact List.mem_cons_self ..)
    have n2 : x ≠ new := fun q => hs2 (by rw [q]; simp)
    have n3 : j ≠ some x := fun q => hs1 (mem2 x q)
    refine ⟨by rw [hτ x hx, go x n1 n2 n3, dens_len], ?_⟩
    rw [dens_get, dens_get, List.getElem?_set_ne (Ne.symm n2), killX_get (fun k hk q => n3 (by rw [hk, q])), List.getElem?_set_ne (Ne.symm n1)]
  · match a, hx with
    | 0, hx => have hx : i = x := by simpa using hx
               subst hx; rw [hτ _ hilt, gi]
    | a + 1, hx =>
      cases hj0 : j with
      | none => subst hj0; simp [tchJ] at hx
      | some k =>
        subst hj0
        match a, hx with
        | 0, hx =>
          have hx : k = x := by simpa [tchJ] using hx
          subst hx
          rw [hτ _ (get_lt (hj k rfl).2), gj k rfl]
        | a + 1, hx => simp [tchJ] at hx
  · rw [hL] at hlt
    have cases3 : x = i ∨ j = some x ∨ x = new := by
      rcases hx with hx | hx | hx
      · exact (mem x hx).imp (fun q => q) .inl
      · exact .inr (.inr (by simpa using hx))
      · rw [dens_len] at hx; omega
    rcases cases3 with rfl | q | rfl
    · refine ⟨0, _, _, by rw [hτ _ hilt, gi], by rw [dens_get, r1]; rfl, ki, RenO.two ?_ ?_⟩
      · exact RenV.pO 0 0 (by rw [hτ _ hilt, gi])
      · exact RenV.oL _ (by rw [hτ _ hnlt, gn])
    · obtain ⟨z, hz⟩ : ∃ z, hs[1]? = some z := ⟨_, List.getElem?_eq_getElem (by have := (h2l x q).2; omega)⟩
      exact ⟨1, _, _, by rw [hτ _ hlt, gj x q], by rw [dens_get, hz]; rfl, kj x q, ⟨by simp, fun _ q => by cases q⟩⟩
    · exact ⟨jj, _, _, by rw [hτ _ hnlt, gn], by rw [dens_get, r3]; rfl, kn, RenO.opt _ _ _⟩
  · have live : ∀ x, (x ∈ i :: tchJ j [] ∨ (x ∈ [new] ∨ (dens h).length ≤ x)) → ∀ o, (dens ((killX (h.set i (bldX eb i new l2.length)) j).set new (.opt (.int .u8) l2 e)))[x]? = some (.live o) → x = i ∨ x = new := by
      intro x hx o ho
      rcases hx with hx | hx | hx
      · rcases mem x hx with q | q
        · exact .inl q
        · rw [kj x q] at ho; cases ho
      · exact .inr (by simpa using hx)
      · have := get_lt ho; rw [hL] at this; rw [dens_len] at hx; omega
    have t1 : ∀ x, x < h.length → ((List.range h.length).map g)[x]? = some m → g x = m := fun x hx q => by rw [hτ x hx] at q; injection q
    rcases live x1 g1 o1 g3 with rfl | rfl <;> rcases live x2 g2 o2 g4 with rfl | rfl
    · rfl
    · have a1 := t1 _ hilt g5; have a2 := t1 _ hnlt g6; rw [gi] at a1; rw [gn] at a2; omega
    · have a1 := t1 _ hnlt g5; have a2 := t1 _ hilt g6; rw [gn] at a1; rw [gi] at a2; omega
    · rfl
  · simp at hz; rcases hz with rfl | rfl <;> exact .v _

/-- The contract of a writing method. -/
theorem BldW.mk {P : Program} {T : Tbl} {f : FuncId} {fn : Func} {c : Code} {e eb : TypeId} (hT : TblOk P T) (hM : P.follows .mixedOrders = true) (fl : List (Nat × Nat × Nat)) (I : List Nat)
    (hf : P.funcs[f]? = some fn) (hb : fn.body = some c)
    (h1 : ∀ (b : Bool) (l : List Int) (s : ByteArray), l.length + s.size ≤ 1099511627776 → ∃ an : List (Nat × Nat × LA), fVs (.pO 0 0 0 :: .v (.string s) :: List.replicate (fn.ntmps - 2) (.v undef)) fun sl => fH [.raw (.live ⟨2, [[selfV 0 b, .oL 1 l.length]], eb⟩), .opt (.int .u8) l e] fun h => xcode ⟨P, T, 2, 0, fl, inlN P T fl I 4⟩ c ⟨sl, h, [], an⟩
      (finW P fn.results.toList s.size (l ++ toInts s) e eb 2))
    (h2 : ∀ (b : Bool) (s : ByteArray), s.size ≤ 1099511627776 → ∃ an : List (Nat × Nat × LA), fVs (.pO 0 0 0 :: .v (.string s) :: List.replicate (fn.ntmps - 2) (.v undef)) fun sl => fH [.raw (.live ⟨2, [[selfV 0 b, .v (.slice none 0 0)]], eb⟩)] fun h => xcode ⟨P, T, 1, 0, fl, inlN P T fl I 4⟩ c ⟨sl, h, [], an⟩
      (finW P fn.results.toList s.size (toInts s) e eb 1)) : CtOk P f (.bld true e eb) := by
  intro h i new s b cs j l hr hcs hn hfree
  obtain ⟨c1, g1, g2⟩ := bldRd_spec hr hcs
  rcases g2 with ⟨rfl, rfl, rfl⟩ | ⟨k, rfl, rfl, g3⟩
  · refine BldW.lift (j := none) (l := []) g1 (fun k hk => by cases hk) hfree (.v (.slice none 0 0)) (RenV.tree (LE.refl _) (.v _)) ?_
    obtain ⟨an, hw⟩ := h2 b s (by simpa using hn)
    rw [fVs_eq, fH_eq] at hw
    refine PC.of_bodyV hf hb _ rfl (fun K hK => ?_)
    have hw := xcode_ok (E := ⟨P, T, 1, 0, fl, inlN P T fl I 4⟩) hT hM (inlN_ok hT hM fl I 4 _ _) c _ _ hw
    refine PV.mono hw ?_
    rintro e st ⟨s', rfl, q1, _⟩
    obtain ⟨he, hy, cs', jj, q2, q3, q4, q5⟩ := finW_ok q1
    exact hK e _ _ he hy ⟨rfl, s'.h, cs', jj, rfl, q2, q3, q4, q5⟩
  · have hki : k ≠ i := by intro q; subst q; rw [g1] at g3; cases g3
    refine BldW.lift (j := some k) (l := l) g1 (fun k' hk => by injection hk with hk; subst hk; exact ⟨hki, g3⟩) hfree (.oL 1 l.length) (RenV.oL _ rfl) ?_
    obtain ⟨an, hw⟩ := h1 b l s hn
    rw [fVs_eq, fH_eq] at hw
    refine PC.of_bodyV hf hb _ rfl (fun K hK => ?_)
    have hw := xcode_ok (E := ⟨P, T, 2, 0, fl, inlN P T fl I 4⟩) hT hM (inlN_ok hT hM fl I 4 _ _) c _ _ hw
    refine PV.mono hw ?_
    rintro e st ⟨s', rfl, q1, _⟩
    obtain ⟨he, hy, cs', jj, q2, q3, q4, q5⟩ := finW_ok q1
    exact hK e _ _ he hy ⟨rfl, s'.h, cs', jj, rfl, q2, q3, q4, q5⟩

/- the string of a builder -/
theorem HRel.killed {h h' : Heap} {ι : Iota} {w w' : World} (H : HRel h ι w) (hk : ∀ id : Nat, h'[id]? = h[id]? ∨ h'[id]? = some HS.dead) (hl : h'.length = h.length) (Pb : Nat → Prop) (h1 : ∀ b, Pb b → Ob h ι b ∧ ¬ Ob h' ι b)
    (hos : w'.os = w.os) (htp : w'.tape = w.tape) (hou : w'.output = w.output) (hsz : w'.heap.size = w.heap.size) (hsame : ∀ b, ¬ Pb b → w'.heap[b]? = w.heap[b]?)
    (hcs : ∀ (b : Nat) (c : Array Value) (e : TypeId) (fr : Nat × Nat), w.heap[b]? = some (.cells c e fr) → ∃ (c' : Array Value) (fr' : Nat × Nat), w'.heap[b]? = some (.cells c' e fr') ∧ c'.size = c.size) : HRel h' ι w' ∧ Evolve h ι w h' ι w' := by
  have old : ∀ (id : Nat) (o : AObj), h'[id]? = some (.live o) → h[id]? = some (.live o) := fun id o q => by
    rcases hk id with r | r
    · rw [← r]; exact q
    · rw [r] at q; cases q
  have ob : ∀ b, Ob h' ι b → Ob h ι b := fun b ⟨id, o, l, q1, q2, q3⟩ => ⟨id, o, l, old id o q1, q2, q3⟩
  have ev : Evolve h ι w h' ι w' := ⟨hos, htp, hou, by rw [hsz]; exact Nat.le_refl _, fun _ _ q => q, rfl, fun b hb hn => ⟨hsame b (fun q => hn (h1 b q).1), fun q => hn (ob b q)⟩, hcs⟩
  refine ⟨⟨fun id o ho => ?_, fun id ho => ?_, fun id ho => H.out id (by rw [← hl]; exact ho), fun id o l id' o' l' a1 a2 b1 b2 hb => H.apart id o l id' o' l' (old _ _ a1) a2 (old _ _ b1) b2 hb, fun b hb => by rw [hsz]; exact H.xlt b hb, fun b hb q => H.xob b hb (ob b q)⟩, ev⟩
  · obtain ⟨l, c, fr, q1, la⟩ := H.live id o (old id o ho)
    have hn : ¬ Pb l.blk := fun q => (h1 _ q).2 ⟨id, o, l, ho, q1, rfl⟩
    exact ⟨l, c, fr, q1, ⟨(hsame _ hn).trans la.blk, la.unfrozen, la.sz, la.rows, la.fits, fun i hi j hj => let ⟨y, g1, g2⟩ := la.reads i hi j hj; ⟨y, g1, g2.mono ev⟩⟩⟩
  · refine H.free id ?_
    rcases hk id with r | r
    · rw [← r]; exact ho
    · rw [r] at ho; cases ho

theorem kill_get (h : List XO) (i : Nat) (j : Option Nat) (id : Nat) : (dens (killX (h.set i (.raw .dead)) j))[id]? = (dens h)[id]? ∨ (dens (killX (h.set i (.raw .dead)) j))[id]? = some HS.dead := by
  have one : ∀ (h : List XO) (i id : Nat), (dens (h.set i (.raw .dead)))[id]? = (dens h)[id]? ∨ (dens (h.set i (.raw .dead)))[id]? = some HS.dead := by
    intro h i id
    rw [dens_set]
    by_cases q : i = id
    · subst q
      rw [List.getElem?_set]
      simp only [if_pos]
      split
      · exact .inr rfl
      · rename_i hlt; left; rw [List.getElem?_eq_none (by omega)]
    · left; rw [List.getElem?_set_ne q]
  cases j with
  | none => exact one h i id
  | some k =>
    rcases one (h.set i (.raw .dead)) k id with r | r
    · rcases one h i id with r2 | r2
      · exact .inl (r.trans r2)
      · exact .inr (r.trans r2)
    · exact .inr r
theorem run_loadInts {P : Program} (w : World) : ∀ (l : List Int) (a : Addr) (acc : ByteArray), (∀ j x, l[j]? = some x → w.cell? (a.add j) = some (.int .u8 x)) →
    (loadBytes a acc l.length).run P w = .ok ⟨acc.data ++ (l.map fun n => UInt8.ofNat n.toNat).toArray⟩ w
  | [], a, acc, _ => by simp [loadBytes]
  | x :: l, a, acc, h => by
    have h0 : w.cell? a = some (.int .u8 x) := by
      have := h 0 x rfl
      simpa [Addr.add] using this
    have ih := run_loadInts (P := P) w l (a.add 1) (acc.push (UInt8.ofNat x.toNat)) (fun j y hy => by
      have := h (j + 1) y (by simpa using hy)
      have e : (a.add 1).add j = a.add (j + 1) := by
        unfold Addr.add
        by_cases hj : j = 0
        · subst hj; simp
        · simp [hj]; omega
      rw [e]; exact this)
    have hx : x.toNat.toUInt8 = UInt8.ofNat x.toNat := rfl
    simp only [List.length_cons, loadBytes, Sem.run_bind, run_load, h0, Result.andThen, hx]
    rw [ih]
    congr 1
    apply ByteArray.ext
    simp [ByteArray.push]
theorem run_unsafeString_at {P : Program} (w : World) (pt it ty e : TypeId) (hp : P.underlying pt = some (.pointer e)) (hc : P.cellsOf e = 1) (g o cells : Nat) (hsh : w.shape? g = some (e, cells)) (l : List Int) (h0 : l ≠ []) (hn : o + l.length ≤ cells) (h63 : l.length ≤ 9223372036854775807)
    (hcell : ∀ j x, l[j]? = some x → w.cell? ((⟨g, o, none⟩ : Addr).add j) = some (.int .u8 x)) :
    (Builtin.unsafeString_ #[pt, it] ty #[.pointer (some ⟨g, o, none⟩), .int .i64 l.length]).run P w = .ok (.string (ofInts l)) (w.freeze ⟨g, o, none⟩ l.length) := by
  have hl : l.length ≠ 0 := by simpa using h0
  have hlb := run_loadInts (P := P) w l ⟨g, o, none⟩ .empty hcell
  have hlies : liesAt P P.depth e (cells / P.cellsOf e) o e l.length = true := by
    have hd : P.depth = (2 * (P.types.size + Made.depth) + 1) + 1 := rfl
    rw [hd]
    simp only [liesAt, Bool.or_eq_true]
    left
    rw [hd]
    simp [Go.rowAt, hc, hn, sameLayout, Nat.mod_one]
  have h63' : ¬ (9223372036854775807 : Int) < (l.length : Int) := by omega
  have hdef : Builtin.unsafeString_ #[pt, it] ty #[.pointer (some ⟨g, o, none⟩), .int .i64 l.length] =
      (do
        let n ← asInt (.int .i64 l.length)
        if n < 0 then runtimePanic (.error "unsafe.String: len out of range")
        if n > IntKind.i64.max then unsupported (.unsafePointer "String: a length above the largest int")
        if n = 0 then pure (.string .empty)
        else if ← variablesAt ⟨g, o, none⟩ (← elemOf pt) n.toNat then do
          let s ← loadBytes ⟨g, o, none⟩ .empty n.toNat
          freeze ⟨g, o, none⟩ n.toNat
          pure (.string s)
        else unsupported (.unsafePointer "String: not so many bytes at ptr")) := rfl
  rw [hdef]
  have hmax : IntKind.i64.max = 9223372036854775807 := rfl
  have hneg : ¬ (l.length : Int) < 0 := by omega
  simp [asInt, asIntOf, hmax, h63', hneg, hl, variablesAt, hsh, elemOf, run_underlying hp, hlies, hlb, ofInts]
theorem freeze_heap (w : World) (a : Addr) (n b : Nat) (hb : b ≠ a.block) : (w.freeze a n).heap[b]? = w.heap[b]? := by
  unfold World.freeze
  split
  · rfl
  · simp only [Array.getElem?_modify]; rw [if_neg (Ne.symm hb)]
theorem freeze_size (w : World) (a : Addr) (n : Nat) : (w.freeze a n).heap.size = w.heap.size := by
  unfold World.freeze
  split
  · rfl
  · simp
theorem freeze_cells (w : World) (a : Addr) (n b : Nat) (c : Array Value) (e : TypeId) (fr : Nat × Nat) (h : w.heap[b]? = some (.cells c e fr)) : ∃ fr', (w.freeze a n).heap[b]? = some (.cells c e fr') := by
  by_cases hb : b = a.block
  · subst hb
    unfold World.freeze
    split
    · exact ⟨fr, h⟩
    · simp only [Array.getElem?_modify, if_pos, h]
      exact ⟨_, rfl⟩
  · exact ⟨fr, by rw [freeze_heap w a n b hb]; exact h⟩

theorem BldS.mk {P : Program} {f : FuncId} {e eb pt it ty : TypeId} (hp : P.underlying pt = some (.pointer e)) (hcell : P.cellsOf e = 1)
    (hnil : ∀ (b o : Nat) (w : World), w.cell? ⟨b, o + 1, none⟩ = some (.slice none 0 0) → Calls P f #[.pointer (some ⟨b, o, none⟩)] w fun x w' => x = .returned (.string ⟨#[]⟩) ∧ w' = w.drew)
    (hsome : ∀ (b o : Nat) (a : Addr) (n cap : Nat) (s : ByteArray) (w : World), w.cell? ⟨b, o + 1, none⟩ = some (.slice (some a) n cap) → cap ≠ 0 → (Builtin.unsafeString_ #[pt, it] ty #[.pointer (some a), .int .i64 n]).run P w.drew = .ok (.string s) (w.drew.freeze a n) →
      Calls P f #[.pointer (some ⟨b, o, none⟩)] w fun x w' => x = .returned (.string s) ∧ w' = w.drew.freeze a n) : CtOk P f (.bld false e eb) := by
  intro h i b cs j l hr hcs hlen ι w vals hpv H
  obtain ⟨c1, g1, g2⟩ := bldRd_spec hr hcs
  have hden : (dens h)[i]? = some (.live ⟨2, [[selfV i b, c1]], eb⟩) := by rw [dens_get, g1]; rfl
  obtain ⟨L, c, fr, hL, la⟩ := H.live i _ hden
  have hLs : L.sz = 2 := la.sz
  obtain ⟨v0, hv0, rv0⟩ := hpv.2 0 _ rfl
  cases rv0 with
  | pO _ _ _ L2 hL2 =>
    rw [hL] at hL2; injection hL2 with hL2; subst hL2
    have hvals : vals = #[.pointer (some ⟨L.blk, L.base + 0 * L.sz + 0, none⟩)] := by
      have hs : vals.size = 1 := hpv.1.symm
      exact Array.ext (by rw [hs]; rfl) (fun q q1 q2 => by
        have h0 : q = 0 := by rw [hs] at q1; omega
        subst h0
        rw [Array.getElem?_eq_getElem q1] at hv0
        exact Option.some.inj hv0)
    subst hvals
    obtain ⟨x, x1, x2⟩ := la.reads 0 (by simp) 1 (by simp)
    have x2 : Rep w ι (Mt (dens h) ι) c1 x := x2
    have hcx : w.cell? ⟨L.blk, L.base + 0 * L.sz + 0 + 1, none⟩ = some x := by
      have : L.base + 0 * L.sz + 0 + 1 = L.base + 0 * 2 + 1 := by omega
      rw [this]
      simp only [World.cell?, la.blk]
      exact x1
    have nilcase : x = .slice none 0 0 → l = [] → Calls P f #[.pointer (some ⟨L.blk, L.base + 0 * L.sz + 0, none⟩)] w fun e' w' => ∃ y x h' ι', e' = .returned y ∧ (x = .v (.string (ofInts l)) ∧ h' = dens (killX (h.set i (.raw .dead)) j)) ∧ Rep w' ι' (Mt h' ι') x y ∧ HRel h' ι' w' ∧ Evolve (dens h) ι w h' ι' w' := by
      intro hx hl0
      subst hx hl0
      refine (hnil _ _ w hcx).mono ?_
      rintro e' w' ⟨rfl, rfl⟩
      obtain ⟨H2, ev⟩ := H.killed (h' := dens (killX (h.set i (.raw .dead)) j)) (w' := w.drew) (fun id => kill_get h i j id) (by rw [dens_len, dens_len, killX_length]; simp) (fun _ => False) (fun _ q => q.elim) rfl rfl rfl rfl (fun _ _ => rfl) (fun _ c _ fr q => ⟨c, fr, q, rfl⟩)
      exact ⟨_, _, _, ι, rfl, ⟨rfl, rfl⟩, .v _, H2, ev⟩
    rcases g2 with ⟨rfl, rfl, rfl⟩ | ⟨k, rfl, rfl, g3⟩
    · cases x2
      exact nilcase rfl rfl
    · by_cases hl0 : l = []
      · subst hl0
        cases x2 with
        | oL _ _ _ q => simp at q; cases q; exact nilcase rfl rfl
      · have hlen0 : l.length ≠ 0 := fun q => hl0 (List.length_eq_zero_iff.1 q)
        have hdk : (dens h)[k]? = some (.live ⟨1, l.map (Ty.row (.int .u8)), e⟩) := by rw [dens_get, g3]; simp [XO.den, hl0, Ty.size]
        have hki : k ≠ i := by intro q; subst q; rw [g1] at g3; cases g3
        cases x2 with
        | oL _ _ _ q =>
          rw [if_neg hlen0] at q
          cases q with
          | sO _ _ _ cap Lk ck ek frk hLk hcap hbk hszk =>
            obtain ⟨Lk2, ck2, frk2, hLk2, lak⟩ := H.live k _ hdk
            rw [hLk] at hLk2; injection hLk2 with hLk2; subst hLk2
            have hsk : Lk.sz = 1 := lak.sz
            have hfit : Lk.base + l.length ≤ ck2.size := by have := lak.fits; simp at this; omega
            have hoff : Lk.base + 0 * Lk.sz = Lk.base := by omega
            rw [hoff] at hcx
            have hUS := run_unsafeString_at (P := P) w.drew pt it ty e hp hcell Lk.blk Lk.base ck2.size (by show (match w.heap[Lk.blk]? with | some (.cells c elem _) => some (elem, c.size) | _ => none) = _; rw [lak.blk]) l hl0 hfit (by omega) (fun q z hz => by
              have hq := get_lt hz
              obtain ⟨y, y1, y2⟩ := lak.reads q (by simpa using hq) 0 (by simp [Ty.cells])
              have e1 : (l.map (Ty.row (.int .u8)))[q]'(by simpa using hq) = [.v (.int .u8 z)] := by
                rw [List.getElem?_eq_getElem hq] at hz; injection hz with hz
                simp [hz, Ty.cells]
              have y2 : Rep w ι (Mt (dens h) ι) (.v (.int .u8 z)) y := by
                have := y2
                simp only [e1] at this
                exact this
              cases y2
              have : (⟨Lk.blk, Lk.base, none⟩ : Addr).add q = ⟨Lk.blk, Lk.base + q, none⟩ := add_mk _ _ _
              rw [this]
              show w.cell? ⟨Lk.blk, Lk.base + q, none⟩ = _
              simp only [World.cell?, lak.blk]
              rw [← y1]
              congr 1
              simp [Ty.size])
            refine (hsome _ _ ⟨Lk.blk, Lk.base, none⟩ l.length cap (ofInts l) w hcx (by omega) hUS).mono ?_
            rintro e' w' ⟨rfl, rfl⟩
            have hPb : ∀ q, q = Lk.blk → Ob (dens h) ι q ∧ ¬ Ob (dens (killX (h.set i (.raw .dead)) (some k))) ι q := by
              intro q hq
              subst hq
              refine ⟨⟨k, _, Lk, hdk, hLk, rfl⟩, ?_⟩
              rintro ⟨id, o, L3, q1, q2, q3⟩
              have hid : (dens h)[id]? = some (.live o) := by
                rcases kill_get h i (some k) id with r | r
                · rw [← r]; exact q1
                · rw [r] at q1; cases q1
              have := H.apart _ _ _ _ _ _ hid q2 hdk hLk q3
              subst this
              rw [dens_get] at q1
              simp only [killX] at q1
              rw [List.getElem?_set_self (by simpa using get_lt g3)] at q1
              cases q1
            obtain ⟨H2, ev⟩ := H.killed (h' := dens (killX (h.set i (.raw .dead)) (some k))) (w' := w.drew.freeze ⟨Lk.blk, Lk.base, none⟩ l.length) (fun id => kill_get h i (some k) id) (by rw [dens_len, dens_len, killX_length]; simp) (fun q => q = Lk.blk) hPb
              (by unfold World.freeze; split <;> rfl) (by unfold World.freeze; split <;> rfl) (by unfold World.freeze; split <;> rfl) (freeze_size _ _ _) (fun q hq => freeze_heap w.drew _ _ _ hq)
              (fun q c2 e2 fr2 hq => let ⟨fr', q'⟩ := freeze_cells w.drew ⟨Lk.blk, Lk.base, none⟩ l.length q c2 e2 fr2 hq; ⟨c2, fr', q', rfl⟩)
            exact ⟨_, _, _, ι, rfl, ⟨rfl, rfl⟩, .v _, H2, ev⟩

end Go.Abs
