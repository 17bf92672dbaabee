/- Functions of the library that turn a list in place: from a contract over any program to a contract of the walk. -/
import Derived.Test.YtinehkfcploeiaaAbsZc
import Derived.Shelf.Sort.Plain
import Derived.Shelf.Slices.In.SortNone
import Derived.Shelf.Slices.CompactI
import Derived.Shelf.Spec.SlicesGrow
namespace Go.Abs
set_option linter.unusedVariables false
open Go.Sort

/-- New blocks change nothing. -/
theorem HRel.grown {h : Heap} {ι : Iota} {w : World} (H : HRel h ι w) (os : Array Obj) : HRel h ι (grow w os) ∧ Evolve h ι w h ι (grow w os) := by
  have hsz : w.heap.size ≤ (grow w os).heap.size := by simp [grow]
  have hget : ∀ b, b < w.heap.size → (grow w os).heap[b]? = w.heap[b]? := fun b hb => by simp [grow, Array.getElem?_append_left hb]
  have hlt : ∀ {b : Nat} {x : Obj}, w.heap[b]? = some x → b < w.heap.size := fun {b x} q => by
    rcases Nat.lt_or_ge b w.heap.size with p | p
    · exact p
    · rw [Array.getElem?_eq_none p] at q; cases q
  have ev : Evolve h ι w h ι (grow w os) := ⟨rfl, rfl, rfl, hsz, fun _ _ q => q, rfl, fun b hb hm => ⟨hget b hb, hm⟩, fun b c _ fr hb => ⟨c, fr, (hget b (hlt hb)).trans hb, rfl⟩⟩
  refine ⟨⟨fun k x hx => ?_, H.free, H.out, H.apart, fun b hb => Nat.lt_of_lt_of_le (H.xlt b hb) hsz, fun b hb => (ev.frame b (H.xlt b hb) (H.xob b hb)).2⟩, ev⟩
  obtain ⟨l2, c2, fr2, h1, la2⟩ := H.live k x hx
  exact ⟨l2, c2, fr2, h1, ⟨(hget _ (hlt la2.blk)).trans la2.blk, la2.unfrozen, la2.sz, la2.rows, la2.fits, fun i hi j hj => let ⟨y, q1, q2⟩ := la2.reads i hi j hj; ⟨y, q1, q2.mono ev⟩⟩⟩

theorem putRow_at {α : Type} [Inhabited α] (enc : α → Value) (w : World) (blk off : Nat) (d : Array α) {c : Array Value} {e : TypeId} {fr : Nat × Nat} (hb : w.heap[blk]? = some (.cells c e fr)) :
    SameBut w (putRow enc w blk off d) blk ∧ (putRow enc w blk off d).heap[blk]? = some (.cells (putCells enc off d c) e fr) := by
  refine ⟨⟨rfl, rfl, rfl, by simp [putRow, mapBlock], fun k hk => ?_⟩, ?_⟩
  · simp only [putRow, mapBlock, Array.getElem?_modify, if_neg (Ne.symm hk)]
  · simp only [putRow, mapBlock, Array.getElem?_modify, if_true, hb, Option.map_some, onCells]

theorem srtOk_int {P : Program} {f : FuncId} {pre : List Int → Prop} {g : List Int → List Int} {ret : Bool} (hlen : ret = false → ∀ l, (g l).length = l.length) (hle : ∀ l, (g l).length ≤ l.length) (hnil : g [] = []) (hcons : ∀ l, l ≠ [] → g l ≠ [])
    (hnone : ∀ w, Calls P f #[.slice none 0 0] w fun e w' => e = .returned (if ret = true then .slice none 0 0 else .tuple #[]) ∧ w' = w)
    (hsome : ∀ (blk off cap : Nat) (zs : List Int) (w : World), pre zs → Holds (Value.int .i64) w blk off zs.toArray → blk < w.heap.size → zs.length ≤ cap → Calls P f #[.slice (some ⟨blk, off, none⟩) zs.length cap] w fun e w' =>
      e = .returned (if ret = true then .slice (some ⟨blk, off, none⟩) (g zs).length cap else .tuple #[]) ∧ ∃ n os, ∃ d : List Int, d.length = zs.length ∧ d.take (g zs).length = g zs ∧ w' = grow (putRow (Value.int .i64) (Sort.ahead w n) blk off d.toArray) os) :
    SrtOk P f (.int .i64) pre g ret where
  len := hlen
  nil := hnil
  cons := hcons
  none := by
    intro k ι w vals hp H
    obtain ⟨hl, hv⟩ := hp
    obtain ⟨y, y1, y2⟩ := hv 0 _ rfl
    cases y2
    have hvals : vals = #[.slice none 0 0] := by
      apply Array.ext_getElem?
      intro i
      cases i with
      | zero => rw [y1]; rfl
      | succ i => rw [Array.getElem?_eq_none (by rw [← hl]; simp), Array.getElem?_eq_none (by simp)]
    rw [hvals]
    refine (hnone w).mono ?_
    rintro e w' ⟨rfl, rfl⟩
    refine ⟨_, _, k, ι, rfl, ⟨rfl, rfl⟩, ?_, H, Evolve.refl _ _ _⟩
    cases ret with
    | true => exact .v _
    | false => exact .tup [] #[] rfl (fun i h => by simp at h)
  some := by
    intro zs hpre k id el hk ι w vals hp H
    obtain ⟨hl, hv⟩ := hp
    obtain ⟨y, y1, y2⟩ := hv 0 _ rfl
    obtain ⟨l, c, fr, hι, la⟩ := H.live id _ hk
    cases y2 with
    | sO _ _ _ cap l2 c2 e2 fr2 hl2 hcap hb2 hsz2 =>
      rw [hι] at hl2; injection hl2 with hl2; subst hl2
      have hls : l.sz = 1 := la.sz
      have hvals : vals = #[.slice (some ⟨l.blk, l.base + 0 * l.sz, none⟩) zs.length cap] := by
        apply Array.ext_getElem?
        intro i
        cases i with
        | zero => rw [y1]; rfl
        | succ i => rw [Array.getElem?_eq_none (by rw [← hl]; simp), Array.getElem?_eq_none (by simp)]
      rw [Nat.zero_mul, Nat.add_zero] at hvals
      rw [hvals]
      have hread : ∀ j, j < zs.length → c[l.base + j]? = some (.int .i64 zs[j]!) := by
        intro j hj
        have hj' : j < (zs.map (Ty.row (.int .i64))).length := by simpa using hj
        obtain ⟨x, x1, x2⟩ := la.reads j hj' 0 (by simp [Ty.row, Ty.cells])
        have e : (zs.map (Ty.row (.int .i64)))[j][0]'(by simp [Ty.row, Ty.cells]) = V.v (.int .i64 zs[j]!) := by
          simp [Ty.row, Ty.cells, getElem!_pos zs j hj]
        rw [e] at x2
        cases x2
        have : l.base + j * (Ty.int .i64).size + 0 = l.base + j := by simp [Ty.size]
        rw [← this]; exact x1
      have hfit : l.base + zs.length ≤ c.size := by have := la.fits; simpa [Ty.size] using this
      have hH : Holds (Value.int .i64) w l.blk l.base zs.toArray := by
        intro j hj
        have hj : j < zs.length := by simpa using hj
        constructor
        · simp only [World.cell?, la.blk]
          rw [hread j hj]
          simp [getElem!_pos zs j hj]
        · simp only [World.frozen?, la.blk]
          have := la.unfrozen (l.base + j) (by omega)
          simp; omega
      have hblk : l.blk < w.heap.size := H.blk_lt ⟨id, _, l, hk, hι, rfl⟩
      refine (hsome l.blk l.base cap zs w hpre hH hblk hcap).mono ?_
      rintro e w' ⟨rfl, n, os, d, hd1, hd2, rfl⟩
      obtain ⟨sb, hb3⟩ := putRow_at (Value.int .i64) (Sort.ahead w n) l.blk l.base d.toArray (c := c) (e := el) (fr := fr) la.blk
      have sb2 : SameBut w (putRow (Value.int .i64) (Sort.ahead w n) l.blk l.base d.toArray) l.blk := ⟨sb.os, sb.tape, sb.output, sb.size, sb.others⟩
      have hgl := hle zs
      have hcell : ∀ j, j < d.length → (putCells (Value.int .i64) l.base d.toArray c)[l.base + j]? = some (.int .i64 d[j]!) := by
        intro j hj
        simp only [putCells, Array.getElem?_mapIdx]
        have hc : l.base + j < c.size := by omega
        rw [Array.getElem?_eq_getElem hc]
        simp only [Option.map_some]
        rw [if_pos ⟨by omega, by simp; omega⟩, show l.base + j - l.base = j by omega]
        simp [getElem!_pos d j hj]
      obtain ⟨H1, ev1⟩ := H.upd hk hι la (o' := ⟨(Ty.int .i64).size, (g zs).map (Ty.row (.int .i64)), el⟩) sb2 hb3 (by simp [putCells]) rfl rfl
        (fun r hr => by obtain ⟨x, _, rfl⟩ := List.mem_map.1 hr; rfl) (by simp [Ty.size]; omega) (fun i hi j hj => by
          have hi' : i < (g zs).length := by simpa using hi
          have hj0 : j = 0 := by have : j < 1 := by simpa [Ty.row, Ty.cells] using hj
                                 omega
          subst hj0
          refine ⟨.int .i64 d[i]!, ?_, ?_⟩
          · have := hcell i (by omega)
            have e : l.base + i * (Ty.int .i64).size + 0 = l.base + i := by simp [Ty.size]
            simpa [e] using this
          · have e : ((g zs).map (Ty.row (.int .i64)))[i][0]'(by simp [Ty.row, Ty.cells]) = V.v (.int .i64 d[i]!) := by
              have : d[i]! = (g zs)[i] := by
                rw [getElem!_pos d i (by omega)]
                have h3 : (d.take (g zs).length)[i]? = (g zs)[i]? := by rw [hd2]
                rw [List.getElem?_take, if_pos hi', List.getElem?_eq_getElem (by omega), List.getElem?_eq_getElem hi'] at h3
                exact Option.some.inj h3
              simp [Ty.row, Ty.cells, this]
            simp only [e]
            exact .v _)
      obtain ⟨H2, ev2⟩ := H1.grown os
      refine ⟨_, _, _, ι, rfl, ⟨rfl, rfl⟩, ?_, H2, ev1.trans ev2⟩
      cases hret : ret with
      | true =>
        simp only [if_true]
        obtain ⟨c', fr', g1, g2⟩ := ev1.sizes _ _ _ _ hb2
        obtain ⟨c3, fr3, g3, g4⟩ := ev2.sizes _ _ _ _ g1
        have := Rep.sO (w := grow (putRow (Value.int .i64) (Sort.ahead w n) l.blk l.base d.toArray) os) (ι := ι) (M := Mt (k.set id (.live ⟨(Ty.int .i64).size, (g zs).map (Ty.row (.int .i64)), el⟩)) ι) id 0 (g zs).length cap l c3 e2 fr3 hι (by omega) g3 (by rw [g4, g2]; exact hsz2)
        simpa using this
      | false =>
        simp only [if_neg (show ¬ (false = true) by decide)]
        exact .tup [] #[] rfl (fun i h => by simp at h)

/- slices.Sort and slices.Compact of ints -/
def sortL (l : List Int) : List Int := l.mergeSort fun x y => decide (x ≤ y)
def compL (l : List Int) : List Int := Lib.compact l
theorem sortL_len (l : List Int) : (sortL l).length = l.length := List.length_mergeSort l
theorem grow_nil (w : World) : grow w #[] = w := by simp [grow]
theorem compL_le (l : List Int) : (compL l).length ≤ l.length := by
  unfold compL Lib.compact Lib.compactUpTo
  rw [List.length_map]
  exact Nat.le_trans (List.length_filter_le _ _) (by simp)
theorem compL_ne (l : List Int) (h : l ≠ []) : compL l ≠ [] := by
  intro q
  have h0 : 0 ∈ (List.range l.length).filter (Lib.keeps l.toArray) := by
    rw [List.mem_filter]
    refine ⟨?_, by simp [Lib.keeps]⟩
    have := List.length_pos_iff.2 h
    simpa using this
  unfold compL Lib.compact Lib.compactUpTo at q
  rw [List.map_eq_nil_iff] at q
  rw [q] at h0
  cases h0
theorem sort_of {P : Program} {f : FuncId} (hnone : ∀ w, Calls P f #[.slice none 0 0] w fun e w' => e = .returned (.tuple #[]) ∧ w' = w)
    (hsome : ∀ (blk off cap : Nat) (zs : List Int) (w : World), Holds (Value.int .i64) w blk off zs.toArray → blk < w.heap.size → zs.length < 4611686018427387904 → Calls P f #[.slice (some ⟨blk, off, none⟩) zs.length cap] w fun e w' =>
      e = .returned (.tuple #[]) ∧ ∃ n os, w' = grow (putRow (Value.int .i64) (Sort.ahead w n) blk off (zs.mergeSort fun x y => decide (x ≤ y)).toArray) os) :
    CtOk P f (.srt (.int .i64) (some fun (l : List Int) => l.length < 4611686018427387904) sortL false) := by
  refine srtOk_int (fun _ => sortL_len) (fun l => Nat.le_of_eq (sortL_len l)) (by simp [sortL]) (fun l h q => h ?_) (fun w => ?_) (fun blk off cap zs w hp hH hb hc => ?_)
  · have := sortL_len l
    rw [q] at this
    exact List.length_eq_zero_iff.1 this.symm
  · refine (hnone w).mono ?_
    rintro e w' ⟨rfl, rfl⟩
    exact ⟨rfl, rfl⟩
  · refine (hsome blk off cap zs w hH hb (hp _ rfl)).mono ?_
    rintro e w' ⟨rfl, n, os, rfl⟩
    exact ⟨rfl, n, os, sortL zs, sortL_len zs, List.take_of_length_le (Nat.le_refl _), rfl⟩
theorem comp_of {P : Program} {f : FuncId} (hnone : ∀ (a : Option Addr) (cap : Nat) (w : World), Calls P f #[.slice a 0 cap] w fun e w' => e = .returned (.slice a 0 cap) ∧ w' = w)
    (hsome : ∀ (blk off cap : Nat) (zs : List Int) (w : World), Holds (Value.int .i64) w blk off zs.toArray → zs.length ≤ 9223372036854775807 → zs.length ≤ cap → Calls P f #[.slice (some ⟨blk, off, none⟩) zs.length cap] w fun e w' =>
      e = .returned (.slice (some ⟨blk, off, none⟩) (Lib.compact zs).length cap) ∧ ∃ q, w' = putRow (Value.int .i64) (Sort.ahead w q) blk off (Lib.compact zs ++ List.replicate (zs.length - (Lib.compact zs).length) 0).toArray) :
    CtOk P f (.srt (.int .i64) (some fun (l : List Int) => l.length ≤ 9223372036854775807) compL true) := by
  refine srtOk_int (fun h => (by cases h)) compL_le rfl compL_ne (fun w => ?_) (fun blk off cap zs w hp hH hb hc => ?_)
  · refine (hnone none 0 w).mono ?_
    rintro e w' ⟨rfl, rfl⟩
    exact ⟨rfl, rfl⟩
  · refine (hsome blk off cap zs w hH (hp _ rfl) hc).mono ?_
    rintro e w' ⟨rfl, n, rfl⟩
    have hle := compL_le zs
    refine ⟨rfl, n, #[], compL zs ++ List.replicate (zs.length - (compL zs).length) 0, by simp; omega, by simp, by rw [grow_nil]; rfl⟩
theorem zeroCells_size (z : Value) (hz : z.cells.size = 1) (n : Nat) : (Builtin.zeroCells z.cells n).size = n := by simp [Builtin.zeroCells, hz]
theorem grw_of {P : Program} {f : FuncId} {e : TypeId} (hroom : ∀ w, Calls P f #[.slice none 0 0, .int .i64 0] w fun x w' => x = .returned (.slice none 0 0) ∧ w' = w)
    (hgrow : ∀ (n : Nat) (w : World), 0 < n → n ≤ 8796093022208 → Calls P f #[.slice none 0 0, .int .i64 n] w fun x w' => ∃ (c : Nat) (cs : Array Value), x = .returned (.slice (some ⟨w.heap.size, 0, none⟩) 0 c) ∧ c ≤ cs.size ∧ w' = w.drew.alloc (.cells cs e)) : CtOk P f (.grw (.int .i64) e) := by
  intro n hn0 hn1 k
  have hargs : ∀ {w : World} {ι : Iota} {M : Nat → Prop} {vals : Array Value}, PW2 w ι M [.v (.slice none 0 0), .v (.int .i64 n)] vals → vals = #[.slice none 0 0, .int .i64 n] := by
    intro w ι M vals hp
    obtain ⟨hl, hv⟩ := hp
    obtain ⟨y, y1, y2⟩ := hv 0 _ rfl
    obtain ⟨z, z1, z2⟩ := hv 1 _ rfl
    cases y2; cases z2
    apply Array.ext_getElem?
    intro i
    match i with
    | 0 => rw [y1]; rfl
    | 1 => rw [z1]; rfl
    | i + 2 => rw [Array.getElem?_eq_none (by rw [← hl]; simp), Array.getElem?_eq_none (by simp)]
  refine ⟨fun h0 => ?_, fun hpos new k' hh => ?_⟩
  · subst h0
    intro ι w vals hp H
    rw [hargs hp]
    refine (hroom w).mono ?_
    rintro x w' ⟨rfl, rfl⟩
    exact ⟨_, _, k, ι, rfl, ⟨rfl, rfl⟩, .v _, H, Evolve.refl _ _ _⟩
  · intro ι w vals hp H
    rw [hargs hp]
    obtain ⟨m, rfl⟩ := Int.eq_ofNat_of_zero_le hn0
    refine (hgrow m w (by omega) (by omega)).mono ?_
    rintro x w' ⟨c, cs, rfl, hc, rfl⟩
    obtain ⟨H1, ev1⟩ := H.drawn (w.drawn + 1)
    obtain ⟨H2, ev2⟩ := H1.alloc hh cs (0, 0) (fun k _ => by omega) (fun r hr => by simp at hr) (by simp) (fun i hi => by simp at hi) (w' := w.drew.alloc (.cells cs e)) rfl
    refine ⟨_, _, k', _, rfl, ⟨rfl, rfl⟩, ?_, H2, ev1.trans ev2⟩
    have hb : (w.drew.alloc (.cells cs e)).heap[w.heap.size]? = some (.cells cs e (0, 0)) := by
      show (w.heap.push (.cells cs e (0, 0)))[w.heap.size]? = _
      simp
    have := Rep.sO (w := w.drew.alloc (.cells cs e)) (ι := ι.put new ⟨w.heap.size, 0, (Ty.int .i64).size, Nat.zero_mod _⟩) (M := Mt k' (ι.put new ⟨w.heap.size, 0, (Ty.int .i64).size, Nat.zero_mod _⟩)) new 0 0 c ⟨w.heap.size, 0, (Ty.int .i64).size, Nat.zero_mod _⟩ cs e (0, 0) (by simp [Iota.put]) (Nat.zero_le _) hb (by simp [Ty.size]; exact hc)
    simpa using this
end Go.Abs
