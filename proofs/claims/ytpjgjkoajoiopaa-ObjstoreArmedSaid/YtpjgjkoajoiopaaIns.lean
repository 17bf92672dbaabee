/- slices.Insert of one element at a struct of three cells. -/
import Derived.Test.YtpjgjkoajoiopaaRows
import Derived.Test.YtpjgjkoajoiopaaAbsZc
import Derived.Shelf.RegionOpenPlain
import Derived.Shelf.Spec.SlicesInsert
import Derived.WalkKit
import Derived.Lib.Walk
import Derived.Lib.SliceRun
import Derived.Lib.JoinLaws
import Derived.Lib.AppendZeros
import Derived.Lib.AppendZerosOnto
import Derived.Lib.Overlaps
import Derived.Laws.Externs
import Derived.Laws.NewBlocks
namespace Go.Proofs.Ytpjgjkoajoiopaa
open Go.Abs Go.RowKit Go.Lib Go.Shelf
set_option linter.unusedVariables false
set_option linter.unusedSimpArgs false

theorem row_leaf {t : Ty} (hf : flatTy t = true) (x : t.den) : (t.row x).all leafOk = true := t.row_ok x [] rfl
/-- How a slice of an object lies. -/
theorem sO_inv {k : Heap} {ι : Iota} {w : World} {id n : Nat} {o : AObj} {y : Value} (H : HRel k ι w) (ho : k[id]? = some (.live o)) (r : Rep w ι (Mt k ι) (.sO id 0 n) y) :
    ∃ (L : Abs.Loc) (cap : Nat) (c : Array Value) (fr : Nat × Nat), ι id = some L ∧ y = .slice (some ⟨L.blk, L.base, none⟩) n cap ∧ n ≤ cap ∧ LiveAt w ι (Mt k ι) o L c fr ∧ L.base + cap * L.sz ≤ c.size := by
  cases r with
  | sO _ _ _ cap L c e fr hL hcap hb hs =>
    obtain ⟨c0, fr0, la⟩ := live_rows H ho hL
    have := la.blk
    rw [hb] at this; injection this with this; injection this with q1 q2 q3
    subst q1 q3
    exact ⟨L, cap, c, fr, hL, by simp, hcap, la, by simpa using hs⟩

variable {t : Ty}
set_option maxRecDepth 100000 in
set_option maxHeartbeats 4000000 in
/-- At the end. -/
theorem ins_end (hf : flatTy t = true) (hsz : sizeT Try.prog 42 = some t.size) {zs : List V} (hzs : zeroCellsV Try.prog 42 = some zs) (hzl : zs.length = t.size) {b : Nat} (hb : bytesT Try.prog 42 = some b) {k : Heap} {id vid new : Nat} {l : List t.den} {o : t.den} (hroom : roomOk (l.length + 1) b = true)
    (hid : k[id]? = some (.live ⟨t.size, l.map t.row, 42⟩)) (hvid : k[vid]? = some (.live ⟨t.size, [t.row o], 42⟩)) (hne : id ≠ vid) (hnew : k[new]? = some .free) :
    PC Try.prog 46 [.sO id 0 l.length, .v (.int .i64 (l.length : Nat)), .sO vid 0 1] k (fun y k' => y = .sO new 0 (l.length + 1) ∧ k' = (k.set id .dead).set new (.live ⟨t.size, (insL l l.length o).map t.row, 42⟩)) := by
  intro ι w vals hp H
  have hp1 := hp.1
  obtain ⟨v0, e0, r0⟩ := hp.2 0 _ rfl
  obtain ⟨v1, e1, r1⟩ := hp.2 1 _ rfl
  obtain ⟨v2, e2, r2⟩ := hp.2 2 _ rfl
  have hv : vals = #[v0, v1, v2] := by
    obtain ⟨q⟩ := vals
    match q, hp1, e0, e1, e2 with
    | [a, b, c], _, e0, e1, e2 => simp at e0 e1 e2; rw [e0, e1, e2]
  have hu : Try.prog.underlying 43 = some (.slice 42) := by kernel_rfl
  have hidlt : id < k.length := get_lt hid
  have ha : aAppend Try.prog k new #[43, 43] (.sO id 0 l.length) (.sO vid 0 1) = some (.sO new 0 (l.length + 1), (k.set id .dead).set new (.live ⟨t.size, (insL l l.length o).map t.row, 42⟩)) := by
    have hnn : new ≠ id := fun e => by subst e; rw [hid] at hnew; cases hnew
    have hal : halloc (k.set id .dead) new ⟨t.size, (l.map t.row).take l.length ++ [t.row o], 42⟩ = some ((k.set id .dead).set new (.live ⟨t.size, (l.map t.row).take l.length ++ [t.row o], 42⟩)) := by
      unfold halloc
      rw [List.getElem?_set_ne (Ne.symm hnn), hnew]
    have hil : (insL l l.length o).map t.row = (l.map t.row).take l.length ++ [t.row o] := by
      rw [List.take_of_length_le (by simp)]
      simp [insL]
    simp only [aAppend, List.getElem?_toArray, List.getElem?_cons_zero, List.getElem?_cons_succ, hu, isStrOrSlice, if_true, aAppendE, hsz, hb, hzs, rowsOf, hvid]
    have hrow := row_leaf hf o
    have hok : List.all [t.row o] (fun x => x.all leafOk) = true := by simp [hrow]
    simp [aAppendRows, hzl, hok, hid, hroom, hal, hil]
  obtain ⟨y, w1, ι1, hrun, hrep, H1, ev1⟩ := aAppend_sound (P := Try.prog) H (ty := 43) r0 r2 rfl _ _ ha
  obtain ⟨L, cap, c, fr, hL, rfl, hcap, la, hcs⟩ := sO_inv H hid r0
  obtain ⟨Lv, capv, cv, frv, hLv, rfl, hcapv, lav, hcsv⟩ := sO_inv H hvid r2
  cases r1
  subst hv
  have hcap1 : ¬ ((1 : Int) = 0) := by decide
  go_enter Try.func46, Try.ntmps46
  go_wp2_with (at_builtin; refine wpList_append_run _ rfl _ _ _ _ rfl _ _ rfl rfl _ _ hrun ?_)
  all_goals (go_ret; exact ⟨y, rfl, _, _, ⟨rfl, rfl⟩, ι1, hrep, H1, ev1⟩)

abbrev tO : Ty := .pair .str (.pair .str (.int .i64))
theorem put_shift {α : Type} (rows : List α) (a x : α) (i : Nat) (h : i < rows.length) (r2 : List α) (h2 : r2 = (rows ++ [a]).take (i + 1) ++ rows.drop i ++ (rows ++ [a]).drop (i + 1 + (rows.drop i).length)) : r2.take i ++ [x] ++ r2.drop (i + [x].length) = rows.take i ++ x :: rows.drop i := by
  have hd : (rows ++ [a]).drop (i + 1 + (rows.drop i).length) = [] := List.drop_eq_nil_of_le (by simp; omega)
  have ht : (rows ++ [a]).take (i + 1) = rows.take (i + 1) := List.take_append_of_le_length (by omega)
  rw [hd, ht, List.append_nil] at h2
  subst h2
  have e1 : (rows.take (i + 1) ++ rows.drop i).take i = rows.take i := by
    rw [List.take_append_of_le_length (by simp; omega), List.take_take]
    congr 1; omega
  have e2 : (rows.take (i + 1) ++ rows.drop i).drop (i + 1) = rows.drop i := by
    rw [List.drop_append_of_le_length (by simp; omega), List.drop_eq_nil_of_le (by simp; omega), List.nil_append]
  rw [e1, List.length_singleton, e2, List.append_assoc]; rfl
theorem sO_rep {k : Heap} {ι : Iota} {w : World} {id : Nat} {o : AObj} {L : Abs.Loc} {c : Array Value} {fr : Nat × Nat} (hL : ι id = some L) (la : LiveAt w ι (Mt k ι) o L c fr) {off n cap : Nat} (h1 : n ≤ cap) (h2 : L.base + (off + cap) * L.sz ≤ c.size) :
    Rep w ι (Mt k ι) (.sO id off n) (.slice (some ⟨L.blk, L.base + off * L.sz, none⟩) n cap) := .sO _ _ _ _ L c _ fr hL h1 la.blk h2

set_option maxRecDepth 100000 in
set_option maxHeartbeats 4000000 in
/-- In the middle, where there is room. -/
theorem ins_shift {k : Heap} {id vid new : Nat} {l : List tO.den} {o : tO.den} {i : Nat} (hi : i < l.length) (hlen : l.length ≤ 1048576)
    (hid : k[id]? = some (.live ⟨3, l.map tO.row, 42⟩)) (hvid : k[vid]? = some (.live ⟨3, [tO.row o], 42⟩)) (hne : id ≠ vid) (hnew : k[new]? = some .free)
    {ι : Iota} {w : World} (H : HRel k ι w) {L Lv : Abs.Loc} {cap capv : Nat} {c cv : Array Value} {fr frv : Nat × Nat} (hL : ι id = some L) (hLv : ι vid = some Lv) (la : LiveAt w ι (Mt k ι) ⟨3, l.map tO.row, 42⟩ L c fr) (lav : LiveAt w ι (Mt k ι) ⟨3, [tO.row o], 42⟩ Lv cv frv)
    (hcs : L.base + cap * L.sz ≤ c.size) (hcap : l.length + 1 ≤ cap) (r2 : Rep w ι (Mt k ι) (.sO vid 0 1) (.slice (some ⟨Lv.blk, Lv.base, none⟩) 1 capv)) :
    Calls Try.prog 46 #[.slice (some ⟨L.blk, L.base, none⟩) l.length cap, .int .i64 (i : Nat), .slice (some ⟨Lv.blk, Lv.base, none⟩) 1 capv] w fun e w' => ∃ y x h' ι', e = .returned y ∧ (x = .sO new 0 (l.length + 1) ∧ h' = (k.set id .dead).set new (.live ⟨3, (insL l i o).map tO.row, 42⟩)) ∧ Rep w' ι' (Mt h' ι') x y ∧ HRel h' ι' w' ∧ Evolve k ι w h' ι' w' := by
  have hs3 : L.sz = 3 := la.sz
  have hsv : Lv.sz = 3 := lav.sz
  have hu : Try.prog.underlying 43 = some (.slice 42) := by kernel_rfl
  have hsz : sizeT Try.prog 42 = some 3 := by kernel_rfl
  have hidlt : id < k.length := get_lt hid
  have hnn : new ≠ id := fun e => by subst e; rw [hid] at hnew; cases hnew
  obtain ⟨n, hn⟩ : ∃ n, n = l.length := ⟨_, rfl⟩
  rw [← hn] at hi hlen hcap ⊢
  have hrl : (l.map tO.row).length = n := by simp [hn]
  -- the object with one more row
  obtain ⟨H1, ev1⟩ := H.upd hid hL la (o' := ⟨3, l.map tO.row ++ [[.any, .any, .any]], 42⟩) (c' := c) (w' := w) ⟨rfl, rfl, rfl, rfl, fun _ _ => rfl⟩ la.blk rfl rfl rfl
    (fun r hr => by
      rcases List.mem_append.1 hr with q | q
      · exact la.rows r q
      · simp at q; subst q; rfl)
    (by rw [List.length_append, hrl, List.length_singleton]; rw [hs3] at hcs; show L.base + (n + 1) * 3 ≤ c.size; omega)
    (fun a ha b hb => by
      by_cases q : a < (l.map tO.row).length
      · have e : (l.map tO.row ++ [[V.any, V.any, V.any]])[a] = (l.map tO.row)[a] := List.getElem_append_left q
        simp only [e] at hb ⊢
        exact la.reads a q b hb
      · have ha2 : a = n := by
          have : a < (l.map tO.row ++ [[V.any, V.any, V.any]]).length := ha
          rw [List.length_append, hrl, List.length_singleton] at this
          rw [hrl] at q; omega
        subst ha2
        have e : (l.map tO.row ++ [[V.any, V.any, V.any]])[a]'ha = [V.any, V.any, V.any] := by
          rw [List.getElem_append_right (by omega)]; simp [hrl]
        simp only [e] at hb ⊢
        have hb3 : b < 3 := hb
        have hlt : L.base + a * 3 + b < c.size := by rw [hs3] at hcs; omega
        refine ⟨c[L.base + a * 3 + b], Array.getElem?_eq_getElem hlt, ?_⟩
        match b, hb3 with
        | 0, _ => exact .any _
        | 1, _ => exact .any _
        | 2, _ => exact .any _)
  obtain ⟨k1, hk1⟩ : ∃ k1, k1 = k.set id (.live ⟨3, l.map tO.row ++ [[.any, .any, .any]], 42⟩) := ⟨_, rfl⟩
  rw [← hk1] at H1 ev1
  have hid1 : k1[id]? = some (.live ⟨3, l.map tO.row ++ [[.any, .any, .any]], 42⟩) := by rw [hk1, List.getElem?_set_self hidlt]
  have hvid1 : k1[vid]? = some (.live ⟨3, [tO.row o], 42⟩) := by rw [hk1, List.getElem?_set_ne hne]; exact hvid
  obtain ⟨Hd, evd⟩ := H1.drawn (w.drawn + 1)
  obtain ⟨c1, fr1, la1⟩ := live_rows Hd hid1 hL
  have hcs1 : L.base + cap * L.sz ≤ c1.size := by
    have q1 := la1.blk; have q2 := la.blk
    have q1 : w.heap[L.blk]? = some (.cells c1 42 fr1) := q1
    rw [q2] at q1; injection q1 with q1; injection q1 with q1; subst q1; exact hcs
  rw [hs3] at hcs1
  have ra := sO_rep hL la1 (off := i + 1) (n := n - i) (cap := cap - (i + 1)) (by omega) (by rw [hs3]; omega)
  have rb := sO_rep hL la1 (off := i) (n := n + 1 - i) (cap := cap - i) (by omega) (by rw [hs3]; omega)
  have hrows : rowsOf k1 3 (.sO id i (n + 1 - i)) = some (((l.map tO.row ++ [[V.any, V.any, V.any]]).drop i).take (n + 1 - i)) := by
    simp only [rowsOf, hid1]
    rw [if_pos ⟨trivial, by rw [List.length_append, hrl, List.length_singleton]; omega⟩]
  have htk : (((l.map tO.row ++ [[V.any, V.any, V.any]]).drop i).take (n + 1 - i)).take (n - i) = (l.map tO.row).drop i := by
    rw [List.take_take, Nat.min_eq_left (by omega), List.drop_append_of_le_length (by omega), List.take_append_of_le_length (by simp; omega), List.take_of_length_le (by simp; omega)]
  have hok : (((l.map tO.row)).drop i).all (fun x => x.all leafOk) = true := by
    rw [List.all_eq_true]
    intro r hr
    obtain ⟨q, _, rfl⟩ := List.mem_map.1 (List.mem_of_mem_drop hr)
    exact tO.row_ok q [] rfl
  have hdl : ((l.map tO.row).drop i).length = n - i := by simp; omega
  have hc1 : aCopy Try.prog k1 43 (.sO id (i + 1) (n - i)) (.sO id i (n + 1 - i)) = some (.v (.int .i64 ((n - i : Nat))), k1.set id (.live (putRows ⟨3, l.map tO.row ++ [[.any, .any, .any]], 42⟩ (i + 1) ((l.map tO.row).drop i)))) := by
    simp only [aCopy, hu, hsz, hrows, hid1, htk, hok, hdl]
    rw [if_pos ⟨trivial, by rw [List.length_append, hrl, List.length_singleton]; omega, trivial⟩]
  obtain ⟨y1, w1, ι1, hrun1, hrep1, H2, ev2⟩ := aCopy_sound (P := Try.prog) Hd (t := 43) (t2 := 43) (ty := 3) ra rb _ _ hc1
  obtain ⟨k2, hk2⟩ : ∃ k2, k2 = k1.set id (.live (putRows ⟨3, l.map tO.row ++ [[.any, .any, .any]], 42⟩ (i + 1) ((l.map tO.row).drop i))) := ⟨_, rfl⟩
  rw [← hk2] at hrep1 H2 ev2
  have hid1lt : id < k1.length := get_lt hid1
  have hid2 : k2[id]? = some (.live (putRows ⟨3, l.map tO.row ++ [[.any, .any, .any]], 42⟩ (i + 1) ((l.map tO.row).drop i))) := by rw [hk2, List.getElem?_set_self hid1lt]
  have hvid2 : k2[vid]? = some (.live ⟨3, [tO.row o], 42⟩) := by rw [hk2, List.getElem?_set_ne hne]; exact hvid1
  have hrl2 : (putRows ⟨3, l.map tO.row ++ [[.any, .any, .any]], 42⟩ (i + 1) ((l.map tO.row).drop i)).rows.length = n + 1 := by
    simp only [putRows, List.length_append, List.length_take, List.length_drop, hrl, List.length_singleton]; omega
  have hok2 : ([tO.row o].take (n + 1 - i)).all (fun x => x.all leafOk) = true := by
    rw [List.take_of_length_le (by simp; omega)]
    have := tO.row_ok o [] rfl
    simp [Ty.row, this]
  have hc2 : aCopy Try.prog k2 43 (.sO id i (n + 1 - i)) (.sO vid 0 1) = some (.v (.int .i64 (1 : Nat)), k2.set id (.live (putRows (putRows ⟨3, l.map tO.row ++ [[.any, .any, .any]], 42⟩ (i + 1) ((l.map tO.row).drop i)) i [tO.row o]))) := by
    have hrv : rowsOf k2 3 (.sO vid 0 1) = some [tO.row o] := by
      simp only [rowsOf, hvid2]; rw [if_pos ⟨trivial, by simp⟩]; rfl
    have ht1 : [tO.row o].take (n + 1 - i) = [tO.row o] := List.take_of_length_le (by simp; omega)
    simp only [aCopy, hu, hsz, hrv, hid2]
    rw [if_pos ⟨rfl, by rw [hrl2]; omega, hok2⟩, ht1]; rfl
  have rb2 := rb.mono ev2
  have rv2 := r2.mono ((ev1.trans evd).trans ev2)
  obtain ⟨y2, w2, ι2, hrun2, hrep2, H3, ev3⟩ := aCopy_sound (P := Try.prog) H2 (t := 43) (t2 := 43) (ty := 3) rb2 rv2 _ _ hc2
  -- the result gets its number
  obtain ⟨o3, ho3⟩ : ∃ o3 : AObj, o3 = ⟨3, (insL l i o).map tO.row, 42⟩ := ⟨_, rfl⟩
  have hrows3 : (putRows (putRows ⟨3, l.map tO.row ++ [[.any, .any, .any]], 42⟩ (i + 1) ((l.map tO.row).drop i)) i [tO.row o]) = o3 := by
    rw [ho3]
    have := put_shift (l.map tO.row) [V.any, V.any, V.any] (tO.row o) i (by omega) _ rfl
    simp only [putRows]
    rw [this]
    simp [insL, List.map_take, List.map_drop]
  rw [hrows3] at hrep2 H3 ev3 hc2
  obtain ⟨k3, hk3⟩ : ∃ k3, k3 = k2.set id (.live o3) := ⟨_, rfl⟩
  rw [← hk3] at hrep2 H3 ev3
  have hid3 : k3[id]? = some (.live o3) := by rw [hk3, List.getElem?_set_self (get_lt hid2)]
  have hL3 : ι2 id = some L := ev3.iota _ _ (ev2.iota _ _ hL)
  obtain ⟨c3, fr3, la3⟩ := live_rows H3 hid3 hL3
  have hnew3 : (k3.set id .dead)[new]? = some .free := by
    rw [List.getElem?_set_ne (Ne.symm hnn), hk3, List.getElem?_set_ne (Ne.symm hnn), hk2, List.getElem?_set_ne (Ne.symm hnn), hk1, List.getElem?_set_ne (Ne.symm hnn)]; exact hnew
  have hal : halloc (k3.set id .dead) new o3 = some ((k3.set id .dead).set new (.live o3)) := by
    unfold halloc; rw [hnew3]
  have hcs3 : L.base + cap * 3 ≤ c3.size := by
    obtain ⟨c', fr', q1, q2⟩ := ((ev1.trans evd).trans (ev2.trans ev3)).sizes _ _ _ _ la.blk
    have q3 := la3.blk
    rw [q1] at q3; injection q3 with q3; injection q3 with q3; subst q3
    rw [q2]; rw [hs3] at hcs; exact hcs
  have hlen3 : o3.rows.length = n + 1 := by rw [ho3]; simp [insL]; omega
  obtain ⟨H4, ev4⟩ := H3.reloc hid3 hL3 la3 hal (base' := L.base) (hal := by rw [ho3]; have := L.al; rw [hs3] at this; exact this) (c' := c3) (w' := w2) ⟨rfl, rfl, rfl, rfl, fun _ _ => rfl⟩ la3.blk rfl rfl rfl la3.rows la3.fits
    (fun a ha b hb => la3.reads a ha b hb)
  have hfin : (k3.set id .dead).set new (.live o3) = (k.set id .dead).set new (.live o3) := by
    rw [hk3, hk2, hk1]; simp only [List.set_set]
  rw [hfin] at H4 ev4
  have evA := ((ev1.trans evd).trans (ev2.trans ev3)).trans ev4
  have hres : Rep w2 (ι2.put new ⟨L.blk, L.base, o3.sz, by rw [ho3]; have := L.al; rw [hs3] at this; exact this⟩) (Mt ((k.set id .dead).set new (.live o3)) (ι2.put new ⟨L.blk, L.base, o3.sz, by rw [ho3]; have := L.al; rw [hs3] at this; exact this⟩)) (.sO new 0 (n + 1)) (.slice (some ⟨L.blk, L.base, none⟩) (n + 1) cap) := by
    have := Rep.sO (w := w2) (ι := ι2.put new ⟨L.blk, L.base, o3.sz, by rw [ho3]; have := L.al; rw [hs3] at this; exact this⟩) (M := Mt ((k.set id .dead).set new (.live o3)) (ι2.put new ⟨L.blk, L.base, o3.sz, by rw [ho3]; have := L.al; rw [hs3] at this; exact this⟩)) new 0 (n + 1) cap _ c3 _ fr3 (put_same _ _ _) hcap la3.blk (by
      have e : o3.sz = 3 := by rw [ho3]
      simp only [e, Nat.zero_add]; exact hcs3)
    simpa using this
  have hvb : Lv.blk ≠ L.blk := fun q => hne (H.apart _ _ _ _ _ _ hid hL hvid hLv q.symm)
  have hov : ∀ lb cb, (callFunc 70 #[.slice (some ⟨Lv.blk, Lv.base, none⟩) 1 capv, .slice (some ⟨L.blk, L.base + (i + 1) * 3, none⟩) lb cb]).run Try.prog w = .ok (.value (.bool false)) w := fun lb cb => by
    have hfa : w.frozen? ⟨Lv.blk, Lv.base, none⟩ = false := lav.frozen (by have := lav.fits; simp only [List.length_singleton] at this; omega)
    have hfe : w.frozen? ⟨Lv.blk, cv.size, none⟩ = false := by
      have := lav.unfrozen.last (show (3 : Nat) ≠ 1 by decide)
      simp only [World.frozen?, lav.blk]
      simp; omega
    rw [run_callFunc_extern Try.func70 (by kernel_rfl) (by kernel_rfl) (by kernel_rfl) (e := Extern.SlicesOverlaps.overlaps #[43, 43] #[4]) (by kernel_rfl),
      Lib.run_overlaps_apart w 43 4 42 hu 3 (Go.Abs.run_sizeOf hsz) ⟨Lv.blk, Lv.base, none⟩ ⟨L.blk, L.base + (i + 1) * 3, none⟩ 1 capv lb cb hvb 42 42 cv.size c.size (by simp [World.shape?, lav.blk]) (by simp [World.shape?, la.blk]) (by rw [hs3] at hcs; omega) hfa hfe]
    rfl
  rw [hs3] at hrun1 hrun2
  have hz1 : ¬ ((1 : Int) = 0) := by decide
  have hz2 : ¬ ((i : Int) = (n : Int)) := by omega
  have hw1 : IntKind.i64.wrap ((i : Int) + (1 : Int)) = (i : Int) + (1 : Int) := by rw [IntKind.wrap_i64]; omega
  have hb1 : (0 : Int) ≤ (i : Int) + (1 : Int) := by omega
  have hin : i ≤ n := by omega
  have htn : ((i : Int) + (1 : Int)).toNat = i + 1 := by omega
  have hb2 : ¬ (cap = i + 1) := by omega
  have hb3 : (i : Int) ≤ (n : Int) + (1 : Int) := by omega
  have hb4 : ¬ (cap = i) := by omega
  have mixed : Try.prog.follows .mixedOrders = true := by kernel_rfl
  clear hn hrl hdl hrl2 hlen3 hrows3 hrep1 hrep2 H1 H2 H3 Hd hcs1 hc1 hc2 hal hcs3 la1 la3
  go_enter Try.func46, Try.ntmps46
  go_wp2_with (simp only [hov])
  go_region_law_o (refine step_copy_runI rfl _ _ 43 43 rfl _ _ (by simp [Act.eval, Act.put]) (by simp [Act.eval, Act.put]) hrun1 ?_)
  go_wp2_with (at_builtin; refine wpList_copy_runI _ rfl _ _ 43 43 rfl _ _ rfl rfl hrun2 ?_)
  go_ret
  exact ⟨_, _, _, _, rfl, ⟨rfl, by rw [ho3]⟩, hres, H4, evA⟩

theorem put_grow {α : Type} (rows Z : List α) (x : α) (i : Nat) (h : i < rows.length) (hz : Z.length = rows.length + 1 - i) (r2 : List α) (h2 : r2 = (rows.take i ++ Z).take i ++ [x] ++ (rows.take i ++ Z).drop (i + [x].length)) :
    r2.take (i + 1) ++ rows.drop i ++ r2.drop (i + 1 + (rows.drop i).length) = rows.take i ++ x :: rows.drop i := by
  have ht : (rows.take i ++ Z).take i = rows.take i := by
    rw [List.take_append_of_le_length (by simp; omega), List.take_take]; congr 1; omega
  have hl : (rows.take i).length = i := by simp; omega
  have hr2 : r2.length = rows.length + 1 := by
    rw [h2, ht]; simp [hl]; omega
  have hd : r2.drop (i + 1 + (rows.drop i).length) = [] := List.drop_eq_nil_of_le (by rw [hr2]; simp; omega)
  have htt : r2.take (i + 1) = rows.take i ++ [x] := by
    rw [h2, ht, List.take_append_of_le_length (by simp [hl]), List.take_of_length_le (by simp [hl])]
  rw [hd, htt, List.append_nil, List.append_assoc]; rfl

set_option maxRecDepth 100000 in
set_option maxHeartbeats 4000000 in
/-- In the middle, where there is no room. -/
theorem ins_grow {k : Heap} {id vid new : Nat} {l : List tO.den} {o : tO.den} {i : Nat} (hi : i < l.length) (hlen : l.length ≤ 1048576)
    (hid : k[id]? = some (.live ⟨3, l.map tO.row, 42⟩)) (hvid : k[vid]? = some (.live ⟨3, [tO.row o], 42⟩)) (hne : id ≠ vid) (hnew : k[new]? = some .free)
    {ι : Iota} {w : World} (H : HRel k ι w) {L Lv : Abs.Loc} {cap capv : Nat} {c cv : Array Value} {fr frv : Nat × Nat} (hL : ι id = some L) (hLv : ι vid = some Lv) (la : LiveAt w ι (Mt k ι) ⟨3, l.map tO.row, 42⟩ L c fr) (lav : LiveAt w ι (Mt k ι) ⟨3, [tO.row o], 42⟩ Lv cv frv)
    (hcs : L.base + cap * L.sz ≤ c.size) (hcap : cap < l.length + 1) (hcap2 : l.length ≤ cap) (r0 : Rep w ι (Mt k ι) (.sO id 0 l.length) (.slice (some ⟨L.blk, L.base, none⟩) l.length cap)) (r2 : Rep w ι (Mt k ι) (.sO vid 0 1) (.slice (some ⟨Lv.blk, Lv.base, none⟩) 1 capv)) :
    Calls Try.prog 46 #[.slice (some ⟨L.blk, L.base, none⟩) l.length cap, .int .i64 (i : Nat), .slice (some ⟨Lv.blk, Lv.base, none⟩) 1 capv] w fun e w' => ∃ y x h' ι', e = .returned y ∧ (x = .sO new 0 (l.length + 1) ∧ h' = (k.set id .dead).set new (.live ⟨3, (insL l i o).map tO.row, 42⟩)) ∧ Rep w' ι' (Mt h' ι') x y ∧ HRel h' ι' w' ∧ Evolve k ι w h' ι' w' := by
  have hs3 : L.sz = 3 := la.sz
  have hu : Try.prog.underlying 43 = some (.slice 42) := by kernel_rfl
  have hui : Try.prog.underlying 3 = some (.int .i64) := by kernel_rfl
  have hsz : sizeT Try.prog 42 = some 3 := by kernel_rfl
  have hidlt : id < k.length := get_lt hid
  have hnewlt : new < k.length := get_lt hnew
  have hnn : new ≠ id := fun e => by subst e; rw [hid] at hnew; cases hnew
  have hnv : new ≠ vid := fun e => by subst e; rw [hvid] at hnew; cases hnew
  obtain ⟨inf, hinf, hib, his⟩ : ∃ inf, Try.prog.info? 42 = some inf ∧ inf.bytes = 40 ∧ inf.size = 3 := by
    have h : (Try.prog.info? 42).map (fun i => (i.bytes, i.size)) = some (40, 3) := by kernel_rfl
    cases hq : Try.prog.info? 42 with
    | none => rw [hq] at h; cases h
    | some inf =>
      rw [hq] at h; injection h with h
      exact ⟨inf, rfl, (Prod.mk.inj h).1, (Prod.mk.inj h).2⟩
  obtain ⟨z, hz, hzc⟩ : ∃ z, inf.zero = some z ∧ z.cells.size = 3 := by
    have h : ((Try.prog.info? 42).bind (·.zero)).map (·.cells.size) = some 3 := by kernel_rfl
    rw [hinf] at h
    cases hq : inf.zero with
    | none => simp [hq] at h
    | some z => simp [hq] at h; exact ⟨z, rfl, h⟩
  obtain ⟨n, hn⟩ : ∃ n, n = l.length := ⟨_, rfl⟩
  rw [← hn] at hi hlen hcap hcap2 r0 ⊢
  have hrl : (l.map tO.row).length = n := by simp [hn]
  obtain ⟨Hd, evd⟩ := H.drawn (w.drawn + 1)
  have hrows : rowsOf k 3 (.sO id 0 n) = some (l.map tO.row) := by
    simp only [rowsOf, hid]
    rw [if_pos ⟨trivial, by rw [hrl]; omega⟩, List.drop_zero, List.take_of_length_le (by omega)]
  obtain ⟨c1, hc1, cm1⟩ := rowsOf_prefix (P := Try.prog) Hd (r0.mono evd) hrows i (by omega)
  have hsl : (Builtin.firstCells 3 i (.slice (some ⟨L.blk, L.base, none⟩) n cap)) = (Builtin.firstCells 3 i (.slice (some ⟨L.blk, L.base, none⟩) i cap)) := rfl
  have hold : (Builtin.firstCells inf.size i (.slice (some ⟨L.blk, L.base, none⟩) i cap)).run Try.prog w.drew = .ok c1.toList.toArray w.drew := by
    rw [his, ← hsl]; exact hc1
  obtain ⟨m, hm⟩ : ∃ m, m = n + 1 - i := ⟨_, rfl⟩
  have him : i + m = n + 1 := by omega
  have hrun0 := Lib.run_append_grow_zeros w 43 3 43 42 inf z .i64 .i64 hu hui hinf hz (some ⟨L.blk, L.base, none⟩) i cap c1.toList hold m (by omega) (by omega) (by omega) (by omega) (by rw [hib]; omega) (by
    have := next_le (need := i + m) (cap := cap) (by omega)
    rw [hib]
    have h2 : Builtin.nextslicecap (i + m) cap ≤ 2 * (i + m) := this
    omega)
  rw [him] at hrun0
  obtain ⟨G, hG⟩ : ∃ G, G = grownCap w (n + 1) cap 42 := ⟨_, rfl⟩
  have hGn : n + 1 ≤ G := by rw [hG]; exact grownCap_ge w _ _ _
  rw [← hG] at hrun0
  obtain ⟨zs, hzs⟩ : ∃ zs, zs = z.cells.toList.map V.v := ⟨_, rfl⟩
  have hzl : zs.length = 3 := by rw [hzs]; simpa using hzc
  have zcm := zero_CM (w := w.drew) (ι := ι) (M := Mt k ι) (z := z.cells) hzs m
  rw [hzl] at zcm
  have cma := CM.append cm1 zcm
  obtain ⟨ROW, hROW⟩ : ∃ ROW : Array Value, ROW = c1.toList.toArray ++ Builtin.zeroCells z.cells m ++ Builtin.zeroCells z.cells (G - (n + 1)) := ⟨_, rfl⟩
  rw [← hROW] at hrun0
  have htl : ((l.map tO.row).take i).length = i := by simp; omega
  have hc1s : c1.size = i * 3 := by rw [cm1.size, htl]
  have hzm : ∀ q, (Builtin.zeroCells z.cells q).size = q * 3 := fun q => by
    have := (zero_CM (w := w.drew) (ι := ι) (M := Mt k ι) (z := z.cells) hzs q).size
    rw [hzl] at this; simpa using this
  have hRs : ROW.size = G * 3 := by
    rw [hROW]
    simp only [Array.size_append, hzm]
    have : c1.toList.toArray.size = i * 3 := by simpa using hc1s
    rw [this]; omega
  have hRget : ∀ a b, a < n + 1 → b < 3 → ROW[a * 3 + b]? = (c1 ++ Builtin.zeroCells z.cells m)[a * 3 + b]? := fun a b ha hb => by
    rw [hROW, Array.toArray_toList, Array.getElem?_append_left]
    rw [Array.size_append, hc1s, hzm]; omega
  obtain ⟨o1, ho1⟩ : ∃ o1 : AObj, o1 = ⟨3, (l.map tO.row).take i ++ List.replicate m zs, 42⟩ := ⟨_, rfl⟩
  have hol : o1.rows.length = n + 1 := by rw [ho1]; simp only [List.length_append, htl, List.length_replicate]; omega
  obtain ⟨w1, hw1⟩ : ∃ w1, w1 = w.drew.alloc (.cells ROW 42) := ⟨_, rfl⟩
  rw [← hw1] at hrun0
  have hrl1 : ∀ r, r ∈ o1.rows → r.length = 3 := by rw [ho1]; exact cma.lens
  obtain ⟨H1, ev1⟩ := Hd.alloc (o := o1) (halloc_free hnew) ROW (0, 0) (Unfr.zero _ _) (by rw [ho1] at hrl1 ⊢; exact hrl1) (by rw [hol, hRs]; rw [ho1]; show (n + 1) * 3 ≤ G * 3; omega)
    (fun a ha b hb => by
      have hb3 : b < 3 := by rw [← hrl1 _ (List.getElem_mem ha)]; exact hb
      have hs : o1.sz = 3 := by rw [ho1]
      rw [hs, hRget a b (by omega) hb3]
      have hg := cma.get a b o1.rows[a] o1.rows[a][b] (by rw [← List.getElem?_eq_getElem ha]; rw [ho1]) (List.getElem?_eq_getElem hb)
      exact hg) (w' := w1) (by rw [hw1, ho1]; rfl)
  obtain ⟨B, hB⟩ : ∃ B, B = w.heap.size := ⟨_, rfl⟩
  have hnb : w.drew.heap.size = B := by rw [hB]; rfl
  rw [← hB] at hrun0
  obtain ⟨LN, hLN⟩ : ∃ LN : Abs.Loc, LN = ⟨w.drew.heap.size, 0, o1.sz, Nat.zero_mod _⟩ := ⟨_, rfl⟩
  have hNs : LN.sz = 3 := by rw [hLN, ho1]
  have hNb : LN.blk = B := by rw [hLN]; exact hnb
  have hN0 : LN.base = 0 := by rw [hLN]
  obtain ⟨ι1, hι1⟩ : ∃ ι1, ι1 = ι.put new LN := ⟨_, rfl⟩
  have hLn : ι1 new = some LN := by rw [hι1]; exact put_same _ _ _
  have ev1' : Evolve k ι w.drew (k.set new (.live o1)) ι1 w1 := by rw [hι1, hLN]; exact ev1
  have H1' : HRel (k.set new (.live o1)) ι1 w1 := by rw [hι1, hLN]; exact H1
  clear ev1 H1
  obtain ⟨k1, hk1⟩ : ∃ k1, k1 = k.set new (.live o1) := ⟨_, rfl⟩
  rw [← hk1] at ev1' H1'
  have hnew1 : k1[new]? = some (.live o1) := by rw [hk1, List.getElem?_set_self hnewlt]
  have hid1 : k1[id]? = some (.live ⟨3, l.map tO.row, 42⟩) := by rw [hk1, List.getElem?_set_ne hnn]; exact hid
  have hvid1 : k1[vid]? = some (.live ⟨3, [tO.row o], 42⟩) := by rw [hk1, List.getElem?_set_ne hnv]; exact hvid
  obtain ⟨c1', fr1, la1⟩ := live_rows H1' hnew1 hLn
  have hcz : c1'.size = G * 3 := by
    have q1 := la1.blk
    have q2 : w1.heap[LN.blk]? = some (.cells ROW 42 (0, 0)) := by rw [hw1, hNb]; show (w.heap.push _)[B]? = _; rw [hB, Array.getElem?_push_size]
    rw [q2] at q1; injection q1 with q1; injection q1 with q1; subst q1; exact hRs
  have ev01 : Evolve k ι w k1 ι1 w1 := evd.trans ev1'
  -- s2[i:]
  have ra := sO_rep hLn la1 (off := i) (n := n + 1 - i) (cap := G - i) (by omega) (by rw [hNs, hN0, hcz]; omega)
  have rv := r2.mono ev01
  have hok2 : ([tO.row o].take (n + 1 - i)).all (fun x => x.all leafOk) = true := by
    rw [List.take_of_length_le (by simp; omega)]
    have := tO.row_ok o [] rfl
    simp [Ty.row, this]
  have ht1 : [tO.row o].take (n + 1 - i) = [tO.row o] := List.take_of_length_le (by simp; omega)
  have hs1 : o1.sz = 3 := by rw [ho1]
  have hc2 : aCopy Try.prog k1 43 (.sO new i (n + 1 - i)) (.sO vid 0 1) = some (.v (.int .i64 (1 : Nat)), k1.set new (.live (putRows o1 i [tO.row o]))) := by
    have hrv : rowsOf k1 3 (.sO vid 0 1) = some [tO.row o] := by
      simp only [rowsOf, hvid1]; rw [if_pos ⟨trivial, by simp⟩]; rfl
    simp only [aCopy, hu, hsz, hrv, hnew1]
    rw [if_pos ⟨hs1, by rw [hol]; omega, hok2⟩, ht1]; rfl
  obtain ⟨y1, w2, ι2, hrun1, hrep1, H2, ev2⟩ := aCopy_sound (P := Try.prog) H1' (t := 43) (t2 := 43) (ty := 3) ra rv _ _ hc2
  obtain ⟨k2, hk2⟩ : ∃ k2, k2 = k1.set new (.live (putRows o1 i [tO.row o])) := ⟨_, rfl⟩
  rw [← hk2] at hrep1 H2 ev2
  have hnew1lt : new < k1.length := get_lt hnew1
  have hnew2 : k2[new]? = some (.live (putRows o1 i [tO.row o])) := by rw [hk2, List.getElem?_set_self hnew1lt]
  have hid2 : k2[id]? = some (.live ⟨3, l.map tO.row, 42⟩) := by rw [hk2, List.getElem?_set_ne hnn]; exact hid1
  have hrl2 : (putRows o1 i [tO.row o]).rows.length = n + 1 := by
    simp only [putRows, List.length_append, List.length_take, List.length_drop, hol, List.length_singleton]; omega
  obtain ⟨Hd2, evd2⟩ := H2.drawn (w2.drawn + 1)
  have rb := (sO_rep hLn la1 (off := i + 1) (n := n - i) (cap := G - (i + 1)) (by omega) (by rw [hNs, hN0, hcz]; omega)).mono (ev2.trans evd2)
  have hcs2 : L.base + (i + (cap - i)) * L.sz ≤ c.size := by
    have : i + (cap - i) = cap := by omega
    rw [this]; exact hcs
  have ro := (sO_rep hL la (off := i) (n := n - i) (cap := cap - i) (by omega) hcs2).mono ((ev01.trans ev2).trans evd2)
  have hdl : ((l.map tO.row).drop i).length = n - i := by simp; omega
  have hok : ((l.map tO.row).drop i).all (fun x => x.all leafOk) = true := by
    rw [List.all_eq_true]
    intro r hr
    obtain ⟨q, _, rfl⟩ := List.mem_map.1 (List.mem_of_mem_drop hr)
    exact tO.row_ok q [] rfl
  have hc3 : aCopy Try.prog k2 43 (.sO new (i + 1) (n - i)) (.sO id i (n - i)) = some (.v (.int .i64 ((n - i : Nat))), k2.set new (.live (putRows (putRows o1 i [tO.row o]) (i + 1) ((l.map tO.row).drop i)))) := by
    have hrv : rowsOf k2 3 (.sO id i (n - i)) = some ((l.map tO.row).drop i) := by
      simp only [rowsOf, hid2]; rw [if_pos ⟨trivial, by rw [hrl]; omega⟩, List.take_of_length_le (by omega)]
    have ht2 : ((l.map tO.row).drop i).take (n - i) = (l.map tO.row).drop i := List.take_of_length_le (by omega)
    simp only [aCopy, hu, hsz, hrv, hnew2, ht2, hok, hdl]
    rw [if_pos ⟨hs1, by rw [hrl2]; omega, trivial⟩]
  obtain ⟨y2, w3, ι3, hrun2, hrep2, H3, ev3⟩ := aCopy_sound (P := Try.prog) Hd2 (t := 43) (t2 := 43) (ty := 3) rb ro _ _ hc3
  obtain ⟨o3, ho3⟩ : ∃ o3 : AObj, o3 = ⟨3, (insL l i o).map tO.row, 42⟩ := ⟨_, rfl⟩
  have hrows3 : putRows (putRows o1 i [tO.row o]) (i + 1) ((l.map tO.row).drop i) = o3 := by
    have hz0 : (List.replicate m zs).length = (l.map tO.row).length + 1 - i := by simp [hrl]; omega
    have := put_grow (l.map tO.row) (List.replicate m zs) (tO.row o) i (by omega) hz0 _ rfl
    rw [ho3]
    simp only [putRows, hs1]
    have e1 : o1.elem = 42 := by rw [ho1]
    have e2 : o1.rows = (l.map tO.row).take i ++ List.replicate m zs := by rw [ho1]
    rw [e1, e2, this]
    simp [insL, List.map_take, List.map_drop]
  rw [hrows3] at hrep2 H3 ev3 hc3
  obtain ⟨k3, hk3⟩ : ∃ k3, k3 = k2.set new (.live o3) := ⟨_, rfl⟩
  rw [← hk3] at hrep2 H3 ev3
  have hid3 : k3[id]? = some (.live ⟨3, l.map tO.row, 42⟩) := by rw [hk3, List.getElem?_set_ne hnn]; exact hid2
  obtain ⟨H4, ev4⟩ := H3.kill hid3
  have hfin : k3.set id .dead = (k.set id .dead).set new (.live o3) := by
    rw [hk3, hk2, hk1]; simp only [List.set_set]
    exact List.set_comm _ _ hnn
  rw [hfin] at H4 ev4
  have evA := (((ev01.trans ev2).trans evd2).trans ev3).trans ev4
  have hL3 : ι3 new = some LN := ev3.iota _ _ (ev2.iota _ _ hLn)
  have hN3 : ((k.set id .dead).set new (.live o3))[new]? = some (.live o3) := by rw [List.getElem?_set_self (by simpa using hnewlt)]
  obtain ⟨c4, fr4, la4⟩ := live_rows H4 hN3 hL3
  have hcz4 : c4.size = G * 3 := by
    obtain ⟨c', fr', q1, q2⟩ := ((ev2.trans evd2).trans (ev3.trans ev4)).sizes _ _ _ _ la1.blk
    have q3 := la4.blk
    rw [q1] at q3; injection q3 with q3; injection q3 with q3; subst q3
    rw [q2]; exact hcz
  have hres : Rep w3 ι3 (Mt ((k.set id .dead).set new (.live o3)) ι3) (.sO new 0 (n + 1)) (.slice (some ⟨B, 0, none⟩) (n + 1) G) := by
    have := sO_rep hL3 la4 (off := 0) (n := n + 1) (cap := G) hGn (by rw [hNs, hN0, hcz4]; omega)
    rw [hNb, hN0, hNs] at this
    simpa using this
  have hinl : (insL l i o).length = n + 1 := by simp [insL]; omega
  rw [hNs, hNb, hN0] at hrun1
  rw [hNs, hNb, hN0, hs3] at hrun2
  have hz1 : ¬ ((1 : Int) = 0) := by decide
  have hz2 : ¬ ((i : Int) = (n : Int)) := by omega
  have hw2 : IntKind.i64.wrap ((n : Int) + (1 : Int)) = (n : Int) + (1 : Int) := by rw [IntKind.wrap_i64]; omega
  have hw3 : IntKind.i64.wrap ((n : Int) + (1 : Int) - (i : Int)) = ((m : Nat) : Int) := by rw [IntKind.wrap_i64]; omega
  have hw1' : IntKind.i64.wrap ((i : Int) + (1 : Int)) = (i : Int) + (1 : Int) := by rw [IntKind.wrap_i64]; omega
  have hb1 : (0 : Int) ≤ (i : Int) + (1 : Int) := by omega
  have hin : i ≤ n := by omega
  have htn : ((i : Int) + (1 : Int)).toNat = i + 1 := by omega
  have hcp : (cap : Int) < (n : Int) + 1 := by omega
  have mixed : Try.prog.follows .mixedOrders = true := by kernel_rfl
  clear hn hrl hdl hrl2 hrows3 hrep1 hrep2 H1' H2 H3 Hd Hd2 hc2 hc3 la1 hcz hc1 hold hrows cma cm1 zcm hRget hrl1
  subst hm
  subst ho3
  simp only [Nat.zero_add] at hrun1 hrun2
  clear hG hB hnb hROW hw1 hLN ho1 hk1 hk2 hk3 hι1 hzs hfin him hRs hol htl hzm hc1s hinf hz
  go_enter Try.func46, Try.ntmps46
  go_wp2_with (at_builtin; refine wpList_append_run _ rfl _ _ _ _ rfl _ _ rfl rfl _ _ hrun0 ?_)
  have hb2 : ¬ (G = i + 1) := by omega
  have hb5 : (i : Int) + 1 ≤ (n : Int) + 1 := by omega
  have hsub : n + 1 - (i + 1) = n - i := by omega
  have hcapi : ¬ (cap = i) := by omega
  go_region_law_o (refine step_copy_runI rfl _ _ 43 43 rfl _ _ (by simp [Act.eval, Act.put, hsub]) (by simp [Act.eval, Act.put, hcapi]) hrun2 ?_)
  go_wp2
  go_ret
  exact ⟨_, _, _, _, rfl, ⟨rfl, rfl⟩, hres, H4, evA⟩

theorem vals3 {w : World} {ι : Iota} {M : Nat → Prop} {x y z : V} {vals : Array Value} (hp : PW2 w ι M [x, y, z] vals) : ∃ v0 v1 v2, vals = #[v0, v1, v2] ∧ Rep w ι M x v0 ∧ Rep w ι M y v1 ∧ Rep w ι M z v2 := by
  have hp1 := hp.1
  obtain ⟨v0, e0, r0⟩ := hp.2 0 _ rfl
  obtain ⟨v1, e1, r1⟩ := hp.2 1 _ rfl
  obtain ⟨v2, e2, r2⟩ := hp.2 2 _ rfl
  refine ⟨v0, v1, v2, ?_, r0, r1, r2⟩
  obtain ⟨q⟩ := vals
  match q, hp1, e0, e1, e2 with
  | [a, b, c], _, e0, e1, e2 => simp at e0 e1 e2; rw [e0, e1, e2]

set_option maxRecDepth 100000 in
set_option maxHeartbeats 4000000 in
/-- Into a nil slice. -/
theorem ins_nil {k : Heap} {vid new : Nat} {o : tO.den} (hvid : k[vid]? = some (.live ⟨3, [tO.row o], 42⟩)) (hnew : k[new]? = some .free) :
    PC Try.prog 46 [.v (.slice none 0 0), .v (.int .i64 (0 : Nat)), .sO vid 0 1] k (fun y k' => y = .sO new 0 1 ∧ k' = k.set new (.live ⟨3, [tO.row o], 42⟩)) := by
  intro ι w vals hp H
  obtain ⟨v0, v1, v2, rfl, r0, r1, r2⟩ := vals3 hp
  have hu : Try.prog.underlying 43 = some (.slice 42) := by kernel_rfl
  have hsz : sizeT Try.prog 42 = some 3 := by kernel_rfl
  obtain ⟨zs, hzs, hzl⟩ : ∃ zs, zeroCellsV Try.prog 42 = some zs ∧ zs.length = 3 := by
    have h : (zeroCellsV Try.prog 42).map (·.length) = some 3 := by kernel_rfl
    cases hq : zeroCellsV Try.prog 42 with
    | none => rw [hq] at h; cases h
    | some zs => rw [hq] at h; injection h with h; exact ⟨zs, rfl, h⟩
  have hb : bytesT Try.prog 42 = some 40 := by kernel_rfl
  have ha : aAppend Try.prog k new #[43, 43] (.v (.slice none 0 0)) (.sO vid 0 1) = some (.sO new 0 1, k.set new (.live ⟨3, [tO.row o], 42⟩)) := by
    have hal : halloc k new ⟨3, [tO.row o], 42⟩ = some (k.set new (.live ⟨3, [tO.row o], 42⟩)) := by
      unfold halloc; rw [hnew]
    have hrow := row_leaf (t := tO) rfl o
    have hok : List.all [tO.row o] (fun x => x.all leafOk) = true := by simp [hrow]
    have hroom : roomOk 1 40 = true := by decide
    simp only [aAppend, List.getElem?_toArray, List.getElem?_cons_zero, List.getElem?_cons_succ, hu, isStrOrSlice, if_true, aAppendE, hsz, hb, hzs, rowsOf, hvid]
    simp [aAppendRows, isNilSlice, hzl, hok, hroom, hal]
  obtain ⟨y, w1, ι1, hrun, hrep, H1, ev1⟩ := aAppend_sound (P := Try.prog) H (ty := 43) r0 r2 rfl _ _ ha
  obtain ⟨Lv, capv, cv, frv, hLv, rfl, hcapv, lav, hcsv⟩ := sO_inv H hvid r2
  cases r0
  cases r1
  have hcap1 : ¬ ((1 : Int) = 0) := by decide
  go_enter Try.func46, Try.ntmps46
  go_wp2_with (at_builtin; refine wpList_append_run _ rfl _ _ _ _ rfl _ _ rfl rfl _ _ hrun ?_)
  all_goals (go_ret; exact ⟨_, _, _, _, rfl, ⟨rfl, rfl⟩, hrep, H1, ev1⟩)

abbrev c_ins_ok : Ct := .sld true tO 42
theorem ins_ok : CtOk Try.prog 46 c_ins_ok := by
  intro k new vid i l o hvid hi hlen hnew
  have hl1 : (insL l i o).length = l.length + 1 := by simp [insL]; omega
  refine ⟨fun id hne hid => ?_, fun hl => ?_⟩
  · rcases Nat.lt_or_ge i l.length with q | q
    · intro ι w vals hp H
      obtain ⟨v0, v1, v2, rfl, r0, r1, r2⟩ := vals3 hp
      obtain ⟨L, cap, c, fr, hL, rfl, hcap, la, hcs⟩ := sO_inv H hid r0
      obtain ⟨Lv, capv, cv, frv, hLv, rfl, hcapv, lav, hcsv⟩ := sO_inv H hvid r2
      cases r1
      rw [hl1]
      rcases Nat.lt_or_ge cap (l.length + 1) with p | p
      · exact ins_grow q hlen hid hvid hne hnew H hL hLv la lav hcs p hcap r0 r2
      · exact ins_shift q hlen hid hvid hne hnew H hL hLv la lav hcs p r2
    · have e : i = l.length := by omega
      subst e
      rw [hl1]
      obtain ⟨zs, hzs, hzl⟩ : ∃ zs, zeroCellsV Try.prog 42 = some zs ∧ zs.length = tO.size := by
        have h : (zeroCellsV Try.prog 42).map (·.length) = some 3 := by kernel_rfl
        cases hq : zeroCellsV Try.prog 42 with
        | none => rw [hq] at h; cases h
        | some zs => rw [hq] at h; injection h with h; exact ⟨zs, rfl, h⟩
      exact ins_end (t := tO) rfl (by kernel_rfl) hzs hzl (b := 40) (by kernel_rfl) (by unfold roomOk; simp; omega) hid hvid hne hnew
  · subst hl
    have : i = 0 := by simpa using hi
    subst this
    exact ins_nil hvid hnew
end Go.Proofs.Ytpjgjkoajoiopaa
