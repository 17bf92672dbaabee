/- Functions whose answer the closed run takes as known: strings.Builder's String; functions of no arguments. -/
import Derived.Test.YtmlojnecmdnbpaaGreatDoorAbsRw
namespace Go.Abs
set_option linter.unusedVariables false
set_option linter.unusedSimpArgs false
noncomputable section

theorem RDOk.or {P : Program} {A B : RD} (ha : RDOk P A) (hb : RDOk P B) : RDOk P (fun f args H => match A f args H with
    | some r => some r
    | none => B f args H) := by
  intro f args H x H' h
  cases q : A f args H with
  | some r => simp only [q] at h; injection h with h; subst h; exact ha _ _ _ _ _ q
  | none => simp only [q] at h; exact hb _ _ _ _ _ h
/-- A function of no arguments. -/
def rcst (f : FuncId) (x : V) : RD := fun g args H => match Nat.beq g f, args with
  | true, [] => some (x, H)
  | _, _ => none
theorem rcst_ok {P : Program} {f : FuncId} {x : V} (h : ∀ k, PC P f [] k (fun y k' => y = x ∧ k' = k)) : RDOk P (rcst f x) := by
  intro g args H y H' e
  unfold rcst at e
  split at e
  · rename_i q
    injection e with e; injection e with e1 e2; subst e1 e2
    rw [Nat.eq_of_beq_eq_true q]
    exact ⟨h _, Fr'.refl _⟩
  · cases e
/-- A contract without arguments, its result as a tree. -/
theorem CtOk.cst {P : Program} {f : FuncId} {t : Ty} {l : List t.den} (h : CtOk P f (.fn [] none (.d (.list t) l))) (k : Heap) : PC P f [] k (fun y k' => y = .sF t.size (l.map t.row) ∧ k' = k) := by
  have h1 := (h () (fun p q => by cases q)).2 k (fun p hp => by cases hp)
  refine PC.res_LE (PC.mono h1 ?_)
  rintro y k' ⟨rfl, rfl⟩
  refine ⟨_, ?_, rfl, rfl⟩
  intro w ι M z r
  cases r with
  | sL _ _ _ r => exact r

/-- A closed law, by one run. -/
theorem CtOk.closed {P : Program} {D : RE} (hm : P.follows .mixedOrders = true) (hD : REOk P D) (n m : Nat) {f : FuncId} (e : rTrue (rrun P D n (.call f [] ⟨m, 0, .nil, []⟩)) = true) : CtOk P f (.fn [] none (.d .bool true)) := by
  intro x _
  refine ⟨fun p hp => (by cases hp), fun k _ => ?_⟩
  refine PC.mono (PC.frame (x0 := .v (.bool true)) ((NIs_nil 0).2 trivial) (PC.mono (PC.of_rtrue hm hD n m e) ?_) k) (fun y k' ⟨h1, h2⟩ => ⟨h1, h2⟩)
  rintro y k' rfl
  exact Frz.tree (.v _)

def rbldS (f : FuncId) (e : TypeId) : RD := fun g args H => match Nat.beq g f, args with
  | true, [x] => match x with
    | .pO i r off => match rRow H (.pO i r off) with
      | some (row, off) => match row[off + 1]? with
        | some (.v (.slice none 0 0)) => some (.v (.string ⟨#[]⟩), H)
        | some (.sO k 0 n) => match H.get k with
          | some (.live ob) => bif Nat.beq ob.sz 1 && (Nat.beq ob.elem.t e && (Nat.ble n ob.rows.length && (Nat.ble n 1099511627776 && (!Nat.beq n 0 && (Nat.ble 1 ob.elem.fz && Nat.ble ob.elem.fz (n + 1)))))) then
              match bytesOf (ob.rows.take n) with
              | some bs => some (str bs, ⟨H.m, H.nx, H.t.set k (.live ⟨ob.sz, ob.rows, ⟨ob.elem.t, n + 1⟩⟩), k :: H.lg⟩)
              | none => none
            else none
          | _ => none
        | _ => none
      | none => none
    | _ => none
  | _, _ => none
theorem bytesOf_spec : ∀ {rows : List (List V)} {bs : List UInt8}, bytesOf rows = some bs → ∃ l : List Int, rows = l.map (fun n => [V.v (.int .u8 n)]) ∧ bs = l.map (fun n => UInt8.ofNat n.toNat)
  | [], bs, h => by injection h with h; subst h; exact ⟨[], rfl, rfl⟩
  | r :: rs, bs, h => by
    simp only [bytesOf] at h
    split at h
    · rename_i b bs' hb hbs
      injection h with h; subst h
      obtain ⟨l, l1, l2⟩ := bytesOf_spec hbs
      unfold byteOf at hb
      split at hb
      · rename_i n
        injection hb with hb
        exact ⟨n :: l, by rw [l1]; rfl, by rw [l2, ← hb]; rfl⟩
      · cases hb
    · cases h
theorem rbldS_ok {P : Program} {f : FuncId} {e pt it ty : TypeId} (hp : P.underlying pt = some (.pointer e)) (hcell : P.cellsOf e = 1)
    (hnil : ∀ (b o : Nat) (w : World), w.cell? ⟨b, o + 1, none⟩ = some (.slice none 0 0) → Calls P f #[.pointer (some ⟨b, o, none⟩)] w fun x w' => x = .returned (.string ⟨#[]⟩) ∧ w' = w.drew)
    (hsome : ∀ (b o : Nat) (a : Addr) (n cap : Nat) (s : ByteArray) (w : World), w.cell? ⟨b, o + 1, none⟩ = some (.slice (some a) n cap) → cap ≠ 0 → (Builtin.unsafeString_ #[pt, it] ty #[.pointer (some a), .int .i64 n]).run P w.drew = .ok (.string s) (w.drew.freeze a n) →
      Calls P f #[.pointer (some ⟨b, o, none⟩)] w fun x w' => x = .returned (.string s) ∧ w' = w.drew.freeze a n) : RDOk P (rbldS f e) := by
  intro g args H x H' hr
  unfold rbldS at hr
  split at hr
  rotate_left
  · cases hr
  rename_i hg
  have hg := Nat.eq_of_beq_eq_true hg
  subst hg
  split at hr
  rotate_left
  · cases hr
  rename_i i r off
  split at hr
  rotate_left
  · cases hr
  rename_i row off' hrow
  have hrow2 : rowAt H.den (.pO i r off) = some (row, off') := by rw [rRow_ok]; exact hrow
  simp only [rowAt] at hrow2
  split at hrow2
  rotate_left
  · cases hrow2
  rename_i ob0 hob0
  split at hrow2
  rotate_left
  · cases hrow2
  rename_i row2 hrw
  injection hrow2 with hrow2; injection hrow2 with h1 h2; subst h1 h2
  have start : ∀ (ι : Iota) (w : World) (vals : Array Value), PW2 w ι (Mt H.den ι) [V.pO i r off] vals → HRel H.den ι w → ∀ c, row2[off + 1]? = some c → ∃ b o x, vals = #[.pointer (some ⟨b, o, none⟩)] ∧ w.cell? ⟨b, o + 1, none⟩ = some x ∧ Rep w ι (Mt H.den ι) c x := by
    intro ι w vals hpv HR c hc
    obtain ⟨L, cs, fr, hL, la⟩ := HR.live i _ hob0
    obtain ⟨v0, hv0, rv0⟩ := hpv.2 0 _ rfl
    cases rv0 with
    | pO _ _ _ L2 hL2 =>
      rw [hL] at hL2; injection hL2 with hL2; subst hL2
      have hvals : vals = #[.pointer (some ⟨L.blk, L.base + r * L.sz + off, none⟩)] := by
        have hs : vals.size = 1 := hpv.1.symm
        exact Array.ext (by rw [hs]; rfl) (fun q q1 q2 => by
          have h0 : q = 0 := by rw [hs] at q1; omega
          subst h0
          rw [Array.getElem?_eq_getElem q1] at hv0
          exact Option.some.inj hv0)
      obtain ⟨_, _, u, u1, u2⟩ := la.get hrw hc
      refine ⟨_, _, u, hvals, ?_, u2⟩
      simp only [World.cell?, la.blk]
      rw [← u1, la.sz]
      congr 1
  split at hr
  · rename_i hc
    injection hr with hr; injection hr with e1 e2; subst e1 e2
    refine ⟨?_, Fr'.refl _⟩
    intro ι w vals hpv HR
    obtain ⟨b, o, z, hv, hz, rz⟩ := start ι w vals hpv HR _ hc
    subst hv
    cases rz
    refine (hnil b o w hz).mono ?_
    rintro e' w' ⟨rfl, rfl⟩
    obtain ⟨H2, ev⟩ := HR.killed (h' := H.den) (w' := w.drew) (fun _ => .inl rfl) rfl (fun _ => False) (fun _ q => q.elim) rfl rfl rfl rfl (fun _ _ => rfl) (fun _ c _ fr q => ⟨c, fr, q, rfl⟩)
    exact ⟨_, _, _, ι, rfl, ⟨rfl, rfl⟩, .v _, H2, ev⟩
  · rename_i k n hc
    split at hr
    rotate_left
    · cases hr
    rename_i ob hob
    cases q : (Nat.beq ob.sz 1 && (Nat.beq ob.elem.t e && (Nat.ble n ob.rows.length && (Nat.ble n 1099511627776 && (!Nat.beq n 0 && (Nat.ble 1 ob.elem.fz && Nat.ble ob.elem.fz (n + 1))))))) with
    | false => rw [q] at hr; cases hr
    | true =>
      rw [q] at hr
      simp only [cond_true] at hr
      obtain ⟨q1, q2⟩ := Bool.and_eq_true_iff.1 q
      obtain ⟨q3, q4⟩ := Bool.and_eq_true_iff.1 q2
      obtain ⟨q5, q7⟩ := Bool.and_eq_true_iff.1 q4
      obtain ⟨q8, q9⟩ := Bool.and_eq_true_iff.1 q7
      obtain ⟨q6, q10⟩ := Bool.and_eq_true_iff.1 q9
      have hn63 := Nat.le_of_ble_eq_true q8
      have hsz := Nat.eq_of_beq_eq_true q1
      have hel : ob.elem.t = e := Nat.eq_of_beq_eq_true q3
      have hon := Nat.le_of_ble_eq_true q5
      obtain ⟨q11, q12⟩ := Bool.and_eq_true_iff.1 q10
      have hfz1 := Nat.le_of_ble_eq_true q11
      have hfz := Nat.le_of_ble_eq_true q12
      have hn0 : n ≠ 0 := fun z => by rw [z] at q6; cases q6
      split at hr
      rotate_left
      · cases hr
      rename_i bs hbs
      injection hr with hr; injection hr with e1 e2; subst e1 e2
      have hobd : H.den[k]? = some (.live ob) := by rw [den_get]; exact hob
      have hden : (RH.mk H.m H.nx (H.t.set k (.live ⟨ob.sz, ob.rows, ⟨ob.elem.t, n + 1⟩⟩)) (k :: H.lg)).den = H.den.set k (.live ⟨ob.sz, ob.rows, ⟨ob.elem.t, n + 1⟩⟩) := den_set H k _
      refine ⟨?_, rfl, [k], rfl, fun j hj => ?_⟩
      rotate_left
      · rw [← den_get, ← den_get, hden, List.getElem?_set_ne]
        intro z; exact hj (by rw [z]; exact List.mem_singleton.2 rfl)
      rw [hden]
      intro ι w vals hpv HR
      obtain ⟨b, o1, z, hv, hz, rz⟩ := start ι w vals hpv HR _ hc
      subst hv
      obtain ⟨l, l1, l2⟩ := bytesOf_spec hbs
      have hll : l.length = n := by
        have := congrArg List.length l1
        rw [List.length_take, List.length_map] at this; omega
      have hl0 : l ≠ [] := fun z => hn0 (by rw [← hll, z]; rfl)
      cases rz with
      | sO _ _ _ cap Lk ck ek frk hLk hcap hbk hszk =>
        obtain ⟨Lk2, ck2, frk2, hLk2, lak⟩ := HR.live k _ hobd
        rw [hLk] at hLk2; injection hLk2 with hLk2; subst hLk2
        have hsk : Lk.sz = 1 := lak.sz.trans hsz
        rw [Nat.zero_mul, Nat.add_zero] at hz
        have hcells : ∀ (j : Nat) (x : Int), l[j]? = some x → w.cell? ⟨Lk.blk, Lk.base + j, none⟩ = some (.int .u8 x) := by
          intro j x hx
          have hj : j < n := by rw [← hll]; exact get_lt hx
          have hrow : ob.rows[j]? = some [V.v (.int .u8 x)] := by
            have h1 : (ob.rows.take n)[j]? = some [V.v (.int .u8 x)] := by rw [l1, List.getElem?_map, hx]; rfl
            rw [List.getElem?_take_of_lt hj] at h1
            exact h1
          obtain ⟨_, _, u, u1, u2⟩ := lak.get hrow (show [V.v (.int .u8 x)][0]? = some (V.v (.int .u8 x)) from rfl)
          cases u2
          simp only [World.cell?, lak.blk]
          have e1 : Lk.base + j * ob.sz + 0 = Lk.base + j := by rw [hsz]; omega
          rw [← e1]
          exact u1
        have hfit : Lk.base + l.length ≤ ck2.size := by
          have := lak.fits
          rw [hsz] at this; omega
        have hUS := run_unsafeString_at (P := P) w.drew pt it ty e hp hcell Lk.blk Lk.base ck2.size (by show (match w.heap[Lk.blk]? with | some (.cells c elem _) => some (elem, c.size) | _ => none) = _; rw [lak.blk, hel]) l hl0 hfit (by omega) (fun j x hx => by
          have : (⟨Lk.blk, Lk.base, none⟩ : Addr).add j = ⟨Lk.blk, Lk.base + j, none⟩ := add_mk _ _ _
          rw [this]
          exact hcells j x hx)
        rw [hll] at hUS
        refine (hsome _ _ ⟨Lk.blk, Lk.base, none⟩ n cap (ofInts l) w hz (by omega) hUS).mono ?_
        rintro e' w' ⟨rfl, rfl⟩
        have hhp : (w.drew.freeze ⟨Lk.blk, Lk.base, none⟩ n).heap[Lk.blk]? = some (.cells ck2 ob.elem.t (if frk2.1 == frk2.2 then (Lk.base, Lk.base + n) else (min frk2.1 Lk.base, max frk2.2 (Lk.base + n)))) := by
          unfold World.freeze
          rw [if_neg hn0]
          have h0 : w.drew.heap[Lk.blk]? = some (.cells ck2 ob.elem.t frk2) := lak.blk
          simp only [Array.getElem?_modify, if_pos, h0]
          obtain ⟨lo, hi⟩ := frk2
          rfl
        have hun : Unfr (n + 1) Lk.base ob.sz ck2.size (if frk2.1 == frk2.2 then (Lk.base, Lk.base + n) else (min frk2.1 Lk.base, max frk2.2 (Lk.base + n))) := by
          have u := lak.unfrozen
          obtain ⟨hle, hcl⟩ := u.clean hfz1
          have cl : ∀ fr : Nat × Nat, fr.1 ≤ fr.2 → (∀ k, fr.1 ≤ k → k < fr.2 → Lk.base ≤ k ∧ k + 1 < Lk.base + (n + 1)) → Unfr (n + 1) Lk.base ob.sz ck2.size fr := fun fr h1 h2 => ⟨fun k _ => h2 k, fun z => (z hsz).elim, fun _ => ⟨h1, h2⟩⟩
          split
          · exact cl _ (Nat.le_add_right _ _) fun k h1 h2 => by simp only at h1 h2; omega
          · rename_i hne
            have hne : frk2.1 ≠ frk2.2 := by simpa using hne
            have a1 := hcl frk2.1 (Nat.le_refl _) (by omega)
            have a2 := hcl (frk2.2 - 1) (by omega) (by omega)
            exact cl _ (by simp only; omega) fun k h1 h2 => by simp only at h1 h2; omega
        obtain ⟨H2, ev⟩ := HR.updG hobd hLk lak (o' := ⟨ob.sz, ob.rows, ⟨ob.elem.t, n + 1⟩⟩) (c' := ck2) (w' := w.drew.freeze ⟨Lk.blk, Lk.base, none⟩ n)
          ⟨by unfold World.freeze; split <;> rfl, by unfold World.freeze; split <;> rfl, by unfold World.freeze; split <;> rfl, freeze_size _ _ _, fun q hq => freeze_heap w.drew _ _ _ hq⟩ hhp rfl rfl rfl hun lak.rows lak.fits lak.reads
        have hs : str bs = .v (.string (ofInts l)) := by rw [str, l2]; rfl
        exact ⟨_, _, _, ι, rfl, ⟨rfl, rfl⟩, by rw [hs]; exact .v _, H2, ev⟩
  · cases hr
end
end Go.Abs
