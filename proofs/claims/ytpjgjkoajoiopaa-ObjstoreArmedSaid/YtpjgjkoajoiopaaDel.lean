/- slices.Delete of one element at a struct of three cells. -/
import Derived.Test.YtpjgjkoajoiopaaIns
namespace Go.Proofs.Ytpjgjkoajoiopaa
open Go.Abs Go.RowKit Go.Lib Go.Shelf
set_option linter.unusedVariables false
set_option linter.unusedSimpArgs false

theorem step_append_runI {P : Program} {ops : Array Oper} {o : Oper} {a : Act} {w : World} {K : Act → World → Prop} {Q : Exit → Act → World → Prop} {E : Prop}
    (hg : o.guard = none) (d x : Operand) (dT sT : TypeId) (hop : o.op = Op.call { callee := Callee.builtin Builtin.append, args := #[d, x], argTypes := #[dT, sT] })
    (v u : Value) (hd : a.eval d = v) (hx : a.eval x = u) {v' : Value} {w' : World} (hr : (Builtin.append_ #[dT, sT] o.type #[v, u]).run P w = .ok v' w') (hK : K (a.put o.dst v') w') :
    if Region.wanted o (yielded ops a.tmps) = true then Oper.wp P o a w K Q else E := by
  have hw : Region.wanted o (yielded ops a.tmps) = true := by simp [Region.wanted, hg]
  rw [if_pos hw]
  unfold Oper.wp
  simp [execOp, hop, resolve, invoke, builtin, hd, hx, hr, Result.andThen]
  exact hK

theorem erase_rows {α : Type} (rows : List α) (i : Nat) (h : i < rows.length) (r2 : List α) (h2 : r2 = rows.take i ++ rows.drop (i + 1) ++ rows.drop (i + (rows.drop (i + 1)).length)) : r2.length = rows.length ∧ r2.take (rows.length - 1) = rows.eraseIdx i := by
  have hl : (rows.take i ++ rows.drop (i + 1)).length = rows.length - 1 := by simp; omega
  refine ⟨by rw [h2]; simp; omega, ?_⟩
  rw [h2, List.take_append_of_le_length (by omega), List.take_of_length_le (by omega), List.eraseIdx_eq_take_drop_succ]

set_option maxRecDepth 100000 in
set_option maxHeartbeats 4000000 in
abbrev c_del_ok : Ct := .sld false tO 42
theorem del_ok : CtOk Try.prog 48 c_del_ok := by
  intro k new id i l hid hi hlen hnew ι w vals hp H
  obtain ⟨v0, v1, v2, rfl, r0, r1, r2⟩ := vals3 hp
  obtain ⟨L, cap, c, fr, hL, rfl, hcap, la, hcs⟩ := sO_inv H hid r0
  cases r1
  cases r2
  have hs3 : L.sz = 3 := la.sz
  have hu : Try.prog.underlying 43 = some (.slice 42) := by kernel_rfl
  have hsz : sizeT Try.prog 42 = some 3 := by kernel_rfl
  have hidlt : id < k.length := get_lt hid
  have hnewlt : new < k.length := get_lt hnew
  have hnn : new ≠ id := fun e => by subst e; rw [hid] at hnew; cases hnew
  obtain ⟨n, hn⟩ : ∃ n, n = l.length := ⟨_, rfl⟩
  rw [← hn] at hi hlen hcap ⊢
  have hrl : (l.map tO.row).length = n := by simp [hn]
  have hall : ∀ r, r ∈ l.map tO.row → r.all leafOk = true := fun r hr => by
    obtain ⟨q, _, rfl⟩ := List.mem_map.1 hr
    exact tO.row_ok q [] rfl
  have hid' : k[id]? = some (.live ⟨3, l.map tO.row, 42⟩) := hid
  -- the append
  obtain ⟨w1, R, hrun1, H1, ev1, hRl, hRt, hR3⟩ : ∃ w1 R, (∀ x c', (i + 1 < n → x = some ⟨L.blk, L.base + (i + 1) * 3, none⟩ ∧ c' = cap - (i + 1)) → (Builtin.append_ #[43, 43] 43 #[.slice (some ⟨L.blk, L.base, none⟩) i cap, .slice x (n - (i + 1)) c']).run Try.prog w.drew = .ok (.slice (some ⟨L.blk, L.base, none⟩) (n - 1) cap) w1) ∧
      HRel (k.set id (.live ⟨3, R, 42⟩)) ι w1 ∧ Evolve k ι w (k.set id (.live ⟨3, R, 42⟩)) ι w1 ∧ R.length = n ∧ R.take (n - 1) = (l.map tO.row).eraseIdx i ∧ (∀ r, r ∈ R → r ∈ l.map tO.row) := by
    obtain ⟨Hd, evd⟩ := H.drawn (w.drawn + 1)
    rcases Nat.lt_or_ge (i + 1) n with q | q
    · obtain ⟨c1, fr1, la1⟩ := live_rows Hd hid hL
      have hcs1 : L.base + cap * L.sz ≤ c1.size := by
        have q1 : w.heap[L.blk]? = some (.cells c1 42 fr1) := la1.blk
        rw [la.blk] at q1; injection q1 with q1; injection q1 with q1; subst q1; exact hcs
      have hcs2 : L.base + (i + 1 + (cap - (i + 1))) * L.sz ≤ c1.size := by
        have : i + 1 + (cap - (i + 1)) = cap := by omega
        rw [this]; exact hcs1
      have rd := sO_rep hL la1 (off := i + 1) (n := n - (i + 1)) (cap := cap - (i + 1)) (by omega) hcs2
      have hdl : ((l.map tO.row).drop (i + 1)).length = n - (i + 1) := by simp; omega
      have hrows : rowsOf k 3 (.sO id (i + 1) (n - (i + 1))) = some ((l.map tO.row).drop (i + 1)) := by
        simp only [rowsOf, hid']
        rw [if_pos ⟨trivial, by rw [hrl]; omega⟩, List.take_of_length_le (by omega)]
      obtain ⟨hlen0, c2, hc2, cm2⟩ := rowsOf_rep (P := Try.prog) Hd rd hrows
      obtain ⟨w1, hst, H1, ev1⟩ := write_rows (P := Try.prog) Hd hid' hL la1.blk (off := i) (len := n - (i + 1)) (by omega) (by rw [hrl]; omega) (List.all_eq_true.2 fun r hr => hall r (List.mem_of_mem_drop hr)) cm2
      obtain ⟨e1, e2⟩ := erase_rows (l.map tO.row) i (by omega) _ rfl
      refine ⟨w1, _, fun x c' hx => ?_, H1, evd.trans ev1, e1.trans hrl, by rw [← hrl]; exact e2, fun r hr => ?_⟩
      · obtain ⟨rfl, rfl⟩ := hx q
        rw [hs3] at hlen0 hc2 hst
        have hadd : (⟨L.blk, L.base, none⟩ : Addr).add (i * 3) = ⟨L.blk, L.base + i * 3, none⟩ := by
          simp only [Addr.add]
          split
          · rename_i h; simp at h ⊢; try omega
          · trivial
        have := append_fits (P := Try.prog) (w := w.drew) (w' := w1) (sT := 43) (xT := 43) (ty := 43) (a := ⟨L.blk, L.base, none⟩) (sLen := i) (sCap := cap) hu (.inl ⟨_, hu⟩) hsz hlen0 (by omega) (hc2 _ rfl) (by rw [hadd]; exact hst)
        rw [hdl, show i + (n - (i + 1)) = n - 1 by omega] at this
        exact this
      · rcases List.mem_append.1 hr with hr | hr
        · rcases List.mem_append.1 hr with hr | hr
          · exact List.mem_of_mem_take hr
          · exact List.mem_of_mem_drop hr
        · exact List.mem_of_mem_drop hr
    · have hi1 : i + 1 = n := by omega
      have hset : k.set id (.live ⟨3, l.map tO.row, 42⟩) = k := by
        have hg : k[id] = .live ⟨3, l.map tO.row, 42⟩ := by rw [List.getElem?_eq_getElem hidlt] at hid'; injection hid'
        rw [← hg, List.set_getElem_self]
      refine ⟨w.drew, l.map tO.row, fun x c' hx => ?_, by rw [hset]; exact Hd, by rw [hset]; exact evd, hrl, ?_, fun _ h => h⟩
      · have h0 : n - (i + 1) = 0 := by omega
        rw [h0]
        have := append_fits (P := Try.prog) (w := w.drew) (w' := w.drew) (sT := 43) (xT := 43) (ty := 43) (a := ⟨L.blk, L.base, none⟩) (sLen := i) (sCap := cap) (n := 0) (v := .slice x 0 c') (c2 := #[]) hu (.inl ⟨_, hu⟩) hsz (by cases x <;> simp [Builtin.lenOf]) (by omega) (by cases x <;> simp [Builtin.firstCells, loadCells, loadCellsFrom]) (by simp [storeCells])
        rw [show i + 0 = n - 1 by omega] at this
        exact this
      · rw [List.eraseIdx_eq_take_drop_succ, List.drop_eq_nil_of_le (by omega), List.append_nil]
        congr 1; omega
  -- the clearing
  obtain ⟨k1, hk1⟩ : ∃ k1, k1 = k.set id (.live ⟨3, R, 42⟩) := ⟨_, rfl⟩
  rw [← hk1] at H1 ev1
  have hid1 : k1[id]? = some (.live ⟨3, R, 42⟩) := by rw [hk1, List.getElem?_set_self hidlt]
  obtain ⟨zs, hzs, hzl, hzo⟩ : ∃ zs, zeroCellsV Try.prog 42 = some zs ∧ zs.length = 3 ∧ zs.all leafOk = true := by
    have h : (zeroCellsV Try.prog 42).map (fun z => (z.length, z.all leafOk)) = some (3, true) := by kernel_rfl
    cases hq : zeroCellsV Try.prog 42 with
    | none => rw [hq] at h; cases h
    | some zs => rw [hq] at h; injection h with h; exact ⟨zs, rfl, (Prod.mk.inj h).1, (Prod.mk.inj h).2⟩
  obtain ⟨c1, fr1, la1⟩ := live_rows H1 hid1 hL
  have hcs1 : L.base + cap * L.sz ≤ c1.size := by
    obtain ⟨c', fr', q1, q2⟩ := ev1.sizes _ _ _ _ la.blk
    have q3 := la1.blk
    rw [q1] at q3; injection q3 with q3; injection q3 with q3; subst q3
    rw [q2]; exact hcs
  have hcs2 : L.base + (n - 1 + (cap - (n - 1))) * L.sz ≤ c1.size := by
    have : n - 1 + (cap - (n - 1)) = cap := by omega
    rw [this]; exact hcs1
  have rc := sO_rep hL la1 (off := n - 1) (n := 1) (cap := cap - (n - 1)) (by omega) hcs2
  have hcl : aClear Try.prog k1 43 (.sO id (n - 1) 1) = some (.tup [], k1.set id (.live (putRows ⟨3, R, 42⟩ (n - 1) (List.replicate 1 zs)))) := by
    simp only [aClear, hu, hid1, hzs]
    rw [if_neg (by decide), if_pos ⟨hzl, by show n - 1 + 1 ≤ R.length; omega, hzo⟩]
  obtain ⟨y2, w2, ι2, hrun2, hrep2, H2, ev2⟩ := aClear_sound (P := Try.prog) H1 (t := 43) (ty := 0) rc _ _ hcl
  obtain ⟨o2, ho2⟩ : ∃ o2, o2 = putRows ⟨3, R, 42⟩ (n - 1) (List.replicate 1 zs) := ⟨_, rfl⟩
  rw [← ho2] at hrep2 H2 ev2
  obtain ⟨k2, hk2⟩ : ∃ k2, k2 = k1.set id (.live o2) := ⟨_, rfl⟩
  rw [← hk2] at hrep2 H2 ev2
  have hid2 : k2[id]? = some (.live o2) := by rw [hk2, List.getElem?_set_self (get_lt hid1)]
  have hL2 : ι2 id = some L := ev2.iota _ _ hL
  obtain ⟨c2, fr2, la2⟩ := live_rows H2 hid2 hL2
  obtain ⟨o3, ho3⟩ : ∃ o3 : AObj, o3 = ⟨3, (l.eraseIdx i).map tO.row, 42⟩ := ⟨_, rfl⟩
  have hlen3 : (l.eraseIdx i).length = n - 1 := by rw [List.length_eraseIdx_of_lt (by omega), hn]
  have hs2 : o2.sz = 3 := by rw [ho2]; rfl
  have hrows2 : o2.rows.take (n - 1) = o3.rows := by
    have hm : (l.map tO.row).eraseIdx i = (l.eraseIdx i).map tO.row := by
      rw [List.eraseIdx_eq_take_drop_succ, List.eraseIdx_eq_take_drop_succ]; simp [List.map_take, List.map_drop]
    rw [ho2, ho3]
    simp only [putRows]
    rw [List.append_assoc, List.take_append_of_le_length (by simp; omega), List.take_take, Nat.min_self, hRt, hm]
  have hget3 : ∀ (a : Nat) (r : List V), o3.rows[a]? = some r → o2.rows[a]? = some r := fun a r h => by
    rw [← hrows2, List.getElem?_take] at h
    split at h
    · exact h
    · cases h
  have hnew2 : (k2.set id .dead)[new]? = some .free := by
    rw [List.getElem?_set_ne (Ne.symm hnn), hk2, List.getElem?_set_ne (Ne.symm hnn), hk1, List.getElem?_set_ne (Ne.symm hnn)]; exact hnew
  have hal : halloc (k2.set id .dead) new o3 = some ((k2.set id .dead).set new (.live o3)) := by
    unfold halloc; rw [hnew2]
  have hl3 : o3.rows.length = n - 1 := by rw [ho3]; simp [hlen3]
  have hl2 : o2.rows.length = n := by rw [ho2]; simp [putRows]; omega
  have hfit3 : L.base + o3.rows.length * 3 ≤ c2.size := by
    have := la2.fits
    rw [hs2, hl2] at this
    rw [hl3]; omega
  obtain ⟨H3, ev3⟩ := H2.reloc hid2 hL2 la2 hal (base' := L.base) (hal := by rw [ho3]; have := L.al; rw [hs3] at this; exact this) (c' := c2) (w' := w2) ⟨rfl, rfl, rfl, rfl, fun _ _ => rfl⟩ la2.blk rfl (by rw [ho3, ho2]; rfl) (by rw [ho3, ho2]; rfl)
    (fun r hr => by
      obtain ⟨a, ha, e⟩ := List.getElem_of_mem hr
      have := hget3 a r (by rw [List.getElem?_eq_getElem ha, e])
      have h2 := la2.rows r (get_mem this)
      rw [hs2] at h2; rw [ho3]; exact h2)
    (by rw [show o3.sz = 3 by rw [ho3]]; exact hfit3)
    (fun a ha b hb => by
      have g := hget3 a _ (List.getElem?_eq_getElem ha)
      have ha2 := get_lt g
      have e : o2.rows[a] = o3.rows[a] := by rw [List.getElem?_eq_getElem ha2] at g; injection g
      have hb2 : b < o2.rows[a].length := by rw [e]; exact hb
      obtain ⟨x, x1, x2⟩ := la2.reads a ha2 b hb2
      refine ⟨x, by rw [show o3.sz = 3 by rw [ho3]]; rw [hs2] at x1; exact x1, ?_⟩
      simp only [e] at x2
      exact x2)
  have hfin : (k2.set id .dead).set new (.live o3) = (k.set id .dead).set new (.live o3) := by
    rw [hk2, hk1]; simp only [List.set_set]
  rw [hfin] at H3 ev3
  have evA := (ev1.trans ev2).trans ev3
  have hres : Rep w2 (ι2.put new ⟨L.blk, L.base, o3.sz, by rw [ho3]; have := L.al; rw [hs3] at this; exact this⟩) (Mt ((k.set id .dead).set new (.live o3)) (ι2.put new ⟨L.blk, L.base, o3.sz, by rw [ho3]; have := L.al; rw [hs3] at this; exact this⟩)) (.sO new 0 (n - 1)) (.slice (some ⟨L.blk, L.base, none⟩) (n - 1) cap) := by
    have hcz : c2.size = c1.size := by
      obtain ⟨c', fr', q1, q2⟩ := ev2.sizes _ _ _ _ la1.blk
      have q3 := la2.blk
      rw [q1] at q3; injection q3 with q3; injection q3 with q3; subst q3; exact q2
    have := Rep.sO (w := w2) (ι := ι2.put new ⟨L.blk, L.base, o3.sz, by rw [ho3]; have := L.al; rw [hs3] at this; exact this⟩) (M := Mt ((k.set id .dead).set new (.live o3)) (ι2.put new ⟨L.blk, L.base, o3.sz, by rw [ho3]; have := L.al; rw [hs3] at this; exact this⟩)) new 0 (n - 1) cap _ c2 _ fr2 (put_same _ _ _) (by omega) la2.blk (by
      have e : o3.sz = 3 := by rw [ho3]
      simp only [e, Nat.zero_add]
      rw [hcz]; rw [hs3] at hcs1; exact hcs1)
    simpa using this
  rw [hs3] at hrun2
  rw [hlen3]
  have hz1 : ¬ ((i : Int) = (i : Int) + 1) := by omega
  have hb1 : (0 : Int) ≤ (i : Int) + (1 : Int) := by omega
  have htn : ((i : Int) + (1 : Int)).toNat = i + 1 := by omega
  have hb3 : (i : Int) + 1 ≤ (n : Int) := by omega
  have hb4 : (i : Int) ≤ (n : Int) := by omega
  have hb5 : (n : Int) ≤ (cap : Int) := by omega
  have hin : i ≤ n := by omega
  have hni : ((n - 1 : Nat) : Int) ≤ (n : Int) := by omega
  have hic : i ≤ cap := by omega
  have hi1n : i + 1 ≤ n := by omega
  have hi1c : i + 1 ≤ cap := by omega
  have hn1 : n - (n - 1) = 1 := by omega
  have hcn : ¬ (cap = n - 1) := by omega
  have mixed : Try.prog.follows .mixedOrders = true := by kernel_rfl
  subst ho3
  clear hn hrl hall H1 ev1 hRl hRt hR3 hk1 hid1 hzs hzl hzo la1 hcs1 hcs2 rc hcl hrep2 H2 ev2 ho2 hk2 hid2 la2 hlen3 hs2 hrows2 hget3 hnew2 hal hl3 hl2 hfit3 hfin
  go_enter Try.func48, Try.ntmps48
  go_wp2
  by_cases hci : cap = i + 1
  · have hx := hrun1 (some ⟨L.blk, L.base, none⟩) (cap - (i + 1)) (fun q => by omega)
    have hB : ∃ _ : Unit, cap = i + 1 := ⟨(), hci⟩
    clear hci
    go_region_law_o (refine step_append_runI rfl _ _ 43 43 rfl _ _ (by simp [Act.eval, Act.put]) (by obtain ⟨_, hci⟩ := hB; simp [Act.eval, Act.put, hci]) hx ?_)
    go_wp2
    go_ret
    first
    | exact ⟨_, _, _, _, rfl, ⟨rfl, rfl⟩, hres, H3, evA⟩
    | (obtain ⟨_, e⟩ := hB; rw [e] at hres; exact ⟨_, rfl, _, _, ⟨rfl, rfl⟩, _, hres, H3, evA⟩)
  · have hx := hrun1 (some ⟨L.blk, L.base + (i + 1) * 3, none⟩) (cap - (i + 1)) (fun q => ⟨rfl, rfl⟩)
    go_region_law_o (refine step_append_runI rfl _ _ 43 43 rfl _ _ (by simp [Act.eval, Act.put]) (by simp [Act.eval, Act.put, hci]) hx ?_)
    go_wp2
    go_ret
    first
    | exact ⟨_, _, _, _, rfl, ⟨rfl, rfl⟩, hres, H3, evA⟩
    | exact ⟨_, rfl, _, _, ⟨rfl, rfl⟩, _, hres, H3, evA⟩
end Go.Proofs.Ytpjgjkoajoiopaa
