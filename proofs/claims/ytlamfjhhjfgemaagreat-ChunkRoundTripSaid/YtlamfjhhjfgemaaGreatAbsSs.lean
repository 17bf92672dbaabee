/- Functions of the library over strings: from contracts over any program to contracts of the walk. -/
import Derived.Test.YtlamfjhhjfgemaaGreatAbsZc
import Derived.Shelf.Sort.Plain
import Derived.Shelf.Slices.In.SortNone
import Derived.Shelf.Slices.CompactS
import Derived.Shelf.Spec.SearchS
import Derived.Shelf.Strconv.Itoa0
namespace Go.Abs
set_option linter.unusedVariables false
open Go.Sort

/-- New blocks change nothing. -/
theorem HRel.grownS {h : Heap} {ι : Iota} {w : World} (H : HRel h ι w) (os : Array Obj) : HRel h ι (grow w os) ∧ Evolve h ι w h ι (grow w os) := by
  have hsz : w.heap.size ≤ (grow w os).heap.size := by simp [grow]
  have hget : ∀ b, b < w.heap.size → (grow w os).heap[b]? = w.heap[b]? := fun b hb => by simp [grow, Array.getElem?_append_left hb]
  have hlt : ∀ {b : Nat} {x : Obj}, w.heap[b]? = some x → b < w.heap.size := fun {b x} q => by
    rcases Nat.lt_or_ge b w.heap.size with p | p
    · exact p
    · rw [Array.getElem?_eq_none p] at q; cases q
  have ev : Evolve h ι w h ι (grow w os) := ⟨rfl, rfl, rfl, hsz, fun _ _ q => q, rfl, fun b hb hm => ⟨hget b hb, hm⟩, fun b c _ fr hb => ⟨c, fr, (hget b (hlt hb)).trans hb, rfl⟩⟩
  refine ⟨⟨fun k x hx => ?_, H.free, H.out, H.apart, fun b hb => Nat.lt_of_lt_of_le (H.xlt b hb) hsz, fun b hb => (ev.frame b (H.xlt b hb) (H.xob b hb)).2⟩, ev⟩
  obtain ⟨l2, c2, fr2, h1, la2⟩ := H.live k x hx
  exact ⟨l2, c2, fr2, h1, ⟨(hget _ (hlt la2.blk)).trans la2.blk, la2.unfrozen, la2.sz, la2.rows, la2.fits, fun i hi j hj => let ⟨y, q1, q2⟩ := la2.reads i hi j hj; ⟨y, q1, q2.mono ev⟩⟩⟩

theorem putRow_atS {α : Type} [Inhabited α] (enc : α → Value) (w : World) (blk off : Nat) (d : Array α) {c : Array Value} {e : TypeId} {fr : Nat × Nat} (hb : w.heap[blk]? = some (.cells c e fr)) :
    SameBut w (putRow enc w blk off d) blk ∧ (putRow enc w blk off d).heap[blk]? = some (.cells (putCells enc off d c) e fr) := by
  refine ⟨⟨rfl, rfl, rfl, by simp [putRow, mapBlock], fun k hk => ?_⟩, ?_⟩
  · simp only [putRow, mapBlock, Array.getElem?_modify, if_neg (Ne.symm hk)]
  · simp only [putRow, mapBlock, Array.getElem?_modify, if_true, hb, Option.map_some, onCells]

theorem srtOk_str {P : Program} {f : FuncId} {pre : List ByteArray → Prop} {g : List ByteArray → List ByteArray} {ret : Bool} (hlen : ret = false → ∀ l, (g l).length = l.length) (hle : ∀ l, (g l).length ≤ l.length) (hnil : g [] = []) (hcons : ∀ l, l ≠ [] → g l ≠ [])
    (hnone : ∀ w, Calls P f #[.slice none 0 0] w fun e w' => e = .returned (if ret = true then .slice none 0 0 else .tuple #[]) ∧ w' = w)
    (hsome : ∀ (blk off cap : Nat) (zs : List ByteArray) (w : World), pre zs → Holds (Value.string) w blk off zs.toArray → blk < w.heap.size → zs.length ≤ cap → Calls P f #[.slice (some ⟨blk, off, none⟩) zs.length cap] w fun e w' =>
      e = .returned (if ret = true then .slice (some ⟨blk, off, none⟩) (g zs).length cap else .tuple #[]) ∧ ∃ n os, ∃ d : List ByteArray, d.length = zs.length ∧ d.take (g zs).length = g zs ∧ w' = grow (putRow (Value.string) (Sort.ahead w n) blk off d.toArray) os) :
    SrtOk P f .str pre g ret where
  len := hlen
  nil := hnil
  cons := hcons
  none := by
    intro k ι w vals hp H
    obtain ⟨hl, hv⟩ := hp
    obtain ⟨y, y1, y2⟩ := hv 0 _ rfl
    cases y2
    have hvals : vals = #[.slice none 0 0] := by
      apply Array.ext_getElem?
      intro i
      cases i with
      | zero => rw [y1]; rfl
      | succ i => rw [Array.getElem?_eq_none (by rw [← hl]; simp), Array.getElem?_eq_none (by simp)]
    rw [hvals]
    refine (hnone w).mono ?_
    rintro e w' ⟨rfl, rfl⟩
    refine ⟨_, _, k, ι, rfl, ⟨rfl, rfl⟩, ?_, H, Evolve.refl _ _ _⟩
    cases ret with
    | true => exact .v _
    | false => exact .tup [] #[] rfl (fun i h => by simp at h)
  some := by
    intro zs hpre k id el hk ι w vals hp H
    obtain ⟨hl, hv⟩ := hp
    obtain ⟨y, y1, y2⟩ := hv 0 _ rfl
    obtain ⟨l, c, fr, hι, la⟩ := H.live id _ hk
    cases y2 with
    | sO _ _ _ cap l2 c2 e2 fr2 hl2 hcap hb2 hsz2 =>
      rw [hι] at hl2; injection hl2 with hl2; subst hl2
      have hls : l.sz = 1 := la.sz
      have hvals : vals = #[.slice (some ⟨l.blk, l.base + 0 * l.sz, none⟩) zs.length cap] := by
        apply Array.ext_getElem?
        intro i
        cases i with
        | zero => rw [y1]; rfl
        | succ i => rw [Array.getElem?_eq_none (by rw [← hl]; simp), Array.getElem?_eq_none (by simp)]
      rw [Nat.zero_mul, Nat.add_zero] at hvals
      rw [hvals]
      have hread : ∀ j, j < zs.length → c[l.base + j]? = some (.string zs[j]!) := by
        intro j hj
        have hj' : j < (zs.map (Ty.row .str)).length := by simpa using hj
        obtain ⟨x, x1, x2⟩ := la.reads j hj' 0 (by simp [Ty.row, Ty.cells])
        have e : (zs.map (Ty.row .str))[j][0]'(by simp [Ty.row, Ty.cells]) = V.v (.string zs[j]!) := by
          simp [Ty.row, Ty.cells, getElem!_pos zs j hj]
        rw [e] at x2
        cases x2
        have : l.base + j * Ty.str.size + 0 = l.base + j := by simp [Ty.size]
        rw [← this]; exact x1
      have hfit : l.base + zs.length ≤ c.size := by have := la.fits; simpa [Ty.size] using this
      have hH : Holds (Value.string) w l.blk l.base zs.toArray := by
        intro j hj
        have hj : j < zs.length := by simpa using hj
        constructor
        · simp only [World.cell?, la.blk]
          rw [hread j hj]
          simp [getElem!_pos zs j hj]
        · simp only [World.frozen?, la.blk]
          have := la.unfrozen (l.base + j) (by omega)
          simp; omega
      have hblk : l.blk < w.heap.size := H.blk_lt ⟨id, _, l, hk, hι, rfl⟩
      refine (hsome l.blk l.base cap zs w hpre hH hblk hcap).mono ?_
      rintro e w' ⟨rfl, n, os, d, hd1, hd2, rfl⟩
      obtain ⟨sb, hb3⟩ := putRow_atS (Value.string) (Sort.ahead w n) l.blk l.base d.toArray (c := c) (e := el) (fr := fr) la.blk
      have sb2 : SameBut w (putRow (Value.string) (Sort.ahead w n) l.blk l.base d.toArray) l.blk := ⟨sb.os, sb.tape, sb.output, sb.size, sb.others⟩
      have hgl := hle zs
      have hcell : ∀ j, j < d.length → (putCells (Value.string) l.base d.toArray c)[l.base + j]? = some (.string d[j]!) := by
        intro j hj
        simp only [putCells, Array.getElem?_mapIdx]
        have hc : l.base + j < c.size := by omega
        rw [Array.getElem?_eq_getElem hc]
        simp only [Option.map_some]
        rw [if_pos ⟨by omega, by simp; omega⟩, show l.base + j - l.base = j by omega]
        simp [getElem!_pos d j hj]
      obtain ⟨H1, ev1⟩ := H.upd hk hι la (o' := ⟨Ty.str.size, (g zs).map (Ty.row .str), el⟩) sb2 hb3 (by simp [putCells]) rfl rfl
        (fun r hr => by obtain ⟨x, _, rfl⟩ := List.mem_map.1 hr; rfl) (by simp [Ty.size]; omega) (fun i hi j hj => by
          have hi' : i < (g zs).length := by simpa using hi
          have hj0 : j = 0 := by have : j < 1 := by simpa [Ty.row, Ty.cells] using hj
                                 omega
          subst hj0
          refine ⟨.string d[i]!, ?_, ?_⟩
          · have := hcell i (by omega)
            have e : l.base + i * Ty.str.size + 0 = l.base + i := by simp [Ty.size]
            simpa [e] using this
          · have e : ((g zs).map (Ty.row .str))[i][0]'(by simp [Ty.row, Ty.cells]) = V.v (.string d[i]!) := by
              have : d[i]! = (g zs)[i] := by
                rw [getElem!_pos d i (by omega)]
                have h3 : (d.take (g zs).length)[i]? = (g zs)[i]? := by rw [hd2]
                rw [List.getElem?_take, if_pos hi', List.getElem?_eq_getElem (by omega), List.getElem?_eq_getElem hi'] at h3
                exact Option.some.inj h3
              simp [Ty.row, Ty.cells, this]
            simp only [e]
            exact .v _)
      obtain ⟨H2, ev2⟩ := H1.grownS os
      refine ⟨_, _, _, ι, rfl, ⟨rfl, rfl⟩, ?_, H2, ev1.trans ev2⟩
      cases hret : ret with
      | true =>
        simp only [if_true]
        obtain ⟨c', fr', g1, g2⟩ := ev1.sizes _ _ _ _ hb2
        obtain ⟨c3, fr3, g3, g4⟩ := ev2.sizes _ _ _ _ g1
        have := Rep.sO (w := grow (putRow (Value.string) (Sort.ahead w n) l.blk l.base d.toArray) os) (ι := ι) (M := Mt (k.set id (.live ⟨Ty.str.size, (g zs).map (Ty.row .str), el⟩)) ι) id 0 (g zs).length cap l c3 e2 fr3 hι (by omega) g3 (by rw [g4, g2]; exact hsz2)
        simpa using this
      | false =>
        simp only [if_neg (show ¬ (false = true) by decide)]
        exact .tup [] #[] rfl (fun i h => by simp at h)


/- strings as lists of bytes -/
def bsL (l : List ByteArray) : List (List UInt8) := l.map fun b => b.data.toList
def mkB (l : List UInt8) : ByteArray := ⟨l.toArray⟩
theorem bsL_len (l : List ByteArray) : (bsL l).length = l.length := by simp [bsL]
theorem bs_mk (d : List (List UInt8)) : bsL (d.map mkB) = d := by
  unfold bsL
  rw [List.map_map]
  conv => rhs; rw [← List.map_id d]
  exact List.map_congr_left fun x _ => by simp [mkB]
theorem holds_bs {w : World} {blk off : Nat} {zs : List ByteArray} (h : Holds Value.string w blk off zs.toArray) : Holds Proofs.encStr w blk off (bsL zs).toArray := by
  intro j hj
  have hj2 : j < zs.length := by simpa [bsL] using hj
  obtain ⟨h1, h2⟩ := h j (by simpa using hj2)
  refine ⟨?_, h2⟩
  rw [h1]
  have e1 : (zs.toArray)[j]! = zs[j] := by rw [getElem!_pos _ j (by simpa using hj2)]; simp
  have e2 : ((bsL zs).toArray)[j]! = zs[j].data.toList := by rw [getElem!_pos _ j hj]; simp [bsL]
  rw [e1, e2]
theorem putRow_bs (w : World) (blk off : Nat) (d : List (List UInt8)) : putRow Proofs.encStr w blk off d.toArray = putRow Value.string w blk off (d.map mkB).toArray := by
  have e : putCells Proofs.encStr off d.toArray = putCells Value.string off (d.map mkB).toArray := by
    funext c
    unfold putCells
    congr 1
    funext k x
    have hs : (d.map mkB).toArray.size = d.toArray.size := by simp
    rw [hs]
    by_cases h : off ≤ k ∧ k < off + d.toArray.size
    · rw [if_pos h, if_pos h]
      have hk : k - off < d.toArray.size := by omega
      rw [getElem!_pos d.toArray (k - off) hk, getElem!_pos (d.map mkB).toArray (k - off) (by rw [hs]; exact hk)]
      simp [mkB]
    · rw [if_neg h, if_neg h]
  unfold putRow
  rw [e]
def sortS (l : List ByteArray) : List ByteArray := ((bsL l).mergeSort fun x y => decide (x ≤ y)).map mkB
def compS (l : List ByteArray) : List ByteArray := (Lib.compact (bsL l)).map mkB
theorem sortS_len (l : List ByteArray) : (sortS l).length = l.length := by simp [sortS, List.length_mergeSort, bsL]
theorem compS_le (l : List ByteArray) : (compS l).length ≤ l.length := by
  unfold compS Lib.compact Lib.compactUpTo
  rw [List.length_map, List.length_map]
  exact Nat.le_trans (List.length_filter_le _ _) (by simp [bsL])
theorem compS_ne (l : List ByteArray) (h : l ≠ []) : compS l ≠ [] := by
  intro q
  have h0 : 0 ∈ (List.range (bsL l).length).filter (Lib.keeps (bsL l).toArray) := by
    rw [List.mem_filter]
    refine ⟨?_, by simp [Lib.keeps]⟩
    have := List.length_pos_iff.2 h
    simpa [bsL] using this
  unfold compS Lib.compact Lib.compactUpTo at q
  rw [List.map_eq_nil_iff, List.map_eq_nil_iff] at q
  rw [q] at h0
  cases h0
theorem sortS_of {P : Program} {f : FuncId} (hnone : ∀ w, Calls P f #[.slice none 0 0] w fun e w' => e = .returned (.tuple #[]) ∧ w' = w)
    (hsome : ∀ (blk off cap : Nat) (ss : List (List UInt8)) (w : World), Holds Proofs.encStr w blk off ss.toArray → blk < w.heap.size → ss.length < 4611686018427387904 → Calls P f #[.slice (some ⟨blk, off, none⟩) ss.length cap] w fun e w' =>
      e = .returned (.tuple #[]) ∧ ∃ n os, w' = grow (putRow Proofs.encStr (Sort.ahead w n) blk off (ss.mergeSort fun x y => decide (x ≤ y)).toArray) os) :
    CtOk P f (.srt .str (some fun (l : List ByteArray) => l.length < 4611686018427387904) sortS false) := by
  refine srtOk_str (fun _ => sortS_len) (fun l => Nat.le_of_eq (sortS_len l)) (by simp [sortS, bsL]) (fun l h q => h ?_) (fun w => ?_) (fun blk off cap zs w hp hH hb hc => ?_)
  · have := sortS_len l
    rw [q] at this
    exact List.length_eq_zero_iff.1 this.symm
  · refine (hnone w).mono ?_
    rintro e w' ⟨rfl, rfl⟩
    exact ⟨rfl, rfl⟩
  · have hs := hsome blk off cap (bsL zs) w (holds_bs hH) hb (by rw [bsL_len]; exact hp _ rfl)
    rw [bsL_len] at hs
    refine hs.mono ?_
    rintro e w' ⟨rfl, n, os, rfl⟩
    refine ⟨rfl, n, os, sortS zs, sortS_len zs, List.take_of_length_le (Nat.le_refl _), ?_⟩
    rw [putRow_bs]; rfl
theorem compS_of {P : Program} {f : FuncId} (hnone : ∀ (a : Option Addr) (cap : Nat) (w : World), Calls P f #[.slice a 0 cap] w fun e w' => e = .returned (.slice a 0 cap) ∧ w' = w)
    (hsome : ∀ (blk off cap : Nat) (zs : List (List UInt8)) (w : World), Holds Proofs.encStr w blk off zs.toArray → zs.length ≤ 9223372036854775807 → zs.length ≤ cap → Calls P f #[.slice (some ⟨blk, off, none⟩) zs.length cap] w fun e w' =>
      e = .returned (.slice (some ⟨blk, off, none⟩) (Lib.compact zs).length cap) ∧ ∃ q, w' = putRow Proofs.encStr (Sort.ahead w q) blk off (Lib.compact zs ++ List.replicate (zs.length - (Lib.compact zs).length) []).toArray) :
    CtOk P f (.srt .str (some fun (l : List ByteArray) => l.length ≤ 9223372036854775807) compS true) := by
  refine srtOk_str (fun h => (by cases h)) compS_le rfl compS_ne (fun w => ?_) (fun blk off cap zs w hp hH hb hc => ?_)
  · refine (hnone none 0 w).mono ?_
    rintro e w' ⟨rfl, rfl⟩
    exact ⟨rfl, rfl⟩
  · have hs := hsome blk off cap (bsL zs) w (holds_bs hH) (by rw [bsL_len]; exact hp _ rfl) (by rw [bsL_len]; exact hc)
    rw [bsL_len] at hs
    refine hs.mono ?_
    rintro e w' ⟨rfl, n, rfl⟩
    have hle := compS_le zs
    have hl : (compS zs).length = (Lib.compact (bsL zs)).length := by simp [compS]
    refine ⟨by rw [hl]; rfl, n, #[], compS zs ++ List.replicate (zs.length - (compS zs).length) (mkB []), by simp; omega, by simp, ?_⟩
    rw [putRow_bs, List.map_append, List.map_replicate, hl, grow_empty]
    rfl
/- slices.BinarySearch -/
def bsI (l : List ByteArray) (x : ByteArray) : Int := (Lib.bsGo (fun t => Op.bytesLess (l[t]!).toList x.toList) l.length 0 l.length : Nat)
def bsB (l : List ByteArray) (x : ByteArray) : Bool := decide (Lib.bsGo (fun t => Op.bytesLess (l[t]!).toList x.toList) l.length 0 l.length < l.length ∧ l[Lib.bsGo (fun t => Op.bytesLess (l[t]!).toList x.toList) l.length 0 l.length]! = x)
theorem bs_of {P : Program} {f : FuncId} (hnil : ∀ (a : Option Addr) (c : Nat) (x : ByteArray) (w : World), Calls P f #[.slice a 0 c, .string x] w fun e w' => e = .returned (.tuple #[.int .i64 0, .bool false]) ∧ w' = w)
    (hsome : ∀ (b off n c : Nat) (Sx : Nat → ByteArray) (x : ByteArray) (w : World), n < 4611686018427387904 → (∀ j, j < n → w.cell? ⟨b, off + j, none⟩ = some (.string (Sx j))) →
      Calls P f #[.slice (some ⟨b, off, none⟩) n c, .string x] w fun e w' => e = .returned (.tuple #[.int .i64 (Lib.bsGo (fun t => Op.bytesLess (Sx t).toList x.toList) n 0 n : Nat), .bool (decide (Lib.bsGo (fun t => Op.bytesLess (Sx t).toList x.toList) n 0 n < n ∧ Sx (Lib.bsGo (fun t => Op.bytesLess (Sx t).toList x.toList) n 0 n) = x))]) ∧ ∃ q, w' = w.drewN q) :
    CtOk P f (.fn [.list .str, .str] (some fun (l : List ByteArray) (_ : ByteArray) => l.length < 4611686018427387904) (fun (l : List ByteArray) (x : ByteArray) => RV.tup [.int .i64, .bool] (bsI l x, bsB l x, ()))) := by
  unfold CtOk
  intro x0 hp
  obtain ⟨l, x, u⟩ := x0
  have hp : l.length < 4611686018427387904 := hp _ rfl
  refine ⟨fun p q => (by cases q), fun k _ => ?_⟩
  intro ι w vs hpw H
  obtain ⟨hl, hv⟩ := hpw
  obtain ⟨y, y1, y2⟩ := hv 0 _ rfl
  obtain ⟨z, z1, z2⟩ := hv 1 _ rfl
  have hz : z = .string x := by
    have z3 : Rep w ι (Mt k ι) (.v (.string x)) z := z2
    cases z3; rfl
  subst hz
  have hvals : vs = #[y, .string x] := by
    apply Array.ext_getElem?
    intro i
    match i with
    | 0 => rw [y1]; rfl
    | 1 => rw [z1]; rfl
    | i + 2 => rw [Array.getElem?_eq_none (by rw [← hl]; simp [vals]), Array.getElem?_eq_none (by simp)]
  rw [hvals]
  have fin : ∀ (n : Nat) (b : Bool) (w' : World), (n : Int) = bsI l x → b = bsB l x → Rep w' ι (Mt k ι) (RV.val (RV.tup [.int .i64, .bool] (bsI l x, bsB l x, ()))) (.tuple #[.int .i64 n, .bool b]) := by
    intro n b w' h1 h2
    subst h2
    rw [← h1]
    refine .tup _ _ rfl (fun i h h' => ?_)
    match i with
    | 0 => exact .v _
    | 1 => exact .v _
    | i + 2 => simp [vals] at h; omega
  have y3 : Rep w ι (Mt k ι) (.sL .str l) y := y2
  cases y3 with
  | sL _ _ _ r =>
    rcases Nat.eq_zero_or_pos l.length with h0 | h0
    · have hl0 : l = [] := List.length_eq_zero_iff.1 h0
      subst hl0
      have hy : ∃ a c, y = .slice a 0 c := by
        cases r with
        | sF _ _ a cap cells _ _ _ _ _ => exact ⟨_, _, rfl⟩
        | sN => exact ⟨_, _, rfl⟩
      obtain ⟨a, c, rfl⟩ := hy
      refine (hnil a c x w).mono ?_
      rintro e w' ⟨rfl, rfl⟩
      exact ⟨_, _, k, ι, rfl, ⟨rfl, rfl⟩, fin 0 false w' rfl rfl, H, Evolve.refl _ _ _⟩
    · have hy : ∃ b off c, y = .slice (some ⟨b, off, none⟩) l.length c ∧ ∀ j, j < l.length → w.cell? ⟨b, off + j, none⟩ = some (.string l[j]!) := by
        generalize hR : l.map (Ty.row .str) = R at r
        have hRl : R.length = l.length := by rw [← hR]; simp
        cases r with
        | sF _ _ a cap cells hb hcap hr hc hrep =>
          obtain ⟨b1, b2, b3⟩ := hb (by intro q; rw [q] at hRl; simp at hRl; omega)
          obtain ⟨ab, ao, asp⟩ := a
          simp only at b1; subst b1
          refine ⟨ab, ao, cap, by rw [hRl], fun j hj => ?_⟩
          have hj2 : j < R.length := by omega
          have hrow : R[j] = [V.v (.string l[j]!)] := by
            subst hR
            simp [Ty.row, Ty.cells, getElem!_pos l j hj]
          have hj0 : 0 < R[j].length := by rw [hrow]; simp
          have g1 := hc j hj2 0 hj0
          have g2 := hrep j hj2 0 hj0
          have g3 : R[j][0] = V.v (.string l[j]!) := by simp [hrow]
          rw [g3] at g2
          generalize hcj : cells j 0 = cj at g1 g2
          cases g2
          simpa [Ty.size] using g1
        | sN => simp at hRl; omega
      obtain ⟨b, off, c, rfl, hcell⟩ := hy
      refine (hsome b off l.length c (fun j => l[j]!) x w hp hcell).mono ?_
      rintro e w' ⟨rfl, q, rfl⟩
      obtain ⟨H1, ev1⟩ := H.drawn (w.drawn + q)
      exact ⟨_, _, k, ι, rfl, ⟨rfl, rfl⟩, fin _ _ _ rfl rfl, H1, ev1⟩
/- bits.Len64 -/
theorem len_of {P : Program} {f : FuncId} (h : ∀ (x : Int) (w : World), 0 ≤ x → x ≤ 18446744073709551615 → Calls P f #[.int .u64 x] w fun e w' => e = .returned (.int .i64 (Lib.bitLen x.toNat)) ∧ w' = w) :
    CtOk P f (.fn [.int .u64] (some fun (x : Int) => 0 ≤ x ∧ x ≤ 18446744073709551615) (fun (x : Int) => RV.d (.int .i64) ((Lib.bitLen x.toNat : Nat) : Int))) := by
  unfold CtOk
  intro x0 hp
  obtain ⟨x, u⟩ := x0
  have hp : 0 ≤ x ∧ x ≤ 18446744073709551615 := hp _ rfl
  refine ⟨fun p q => (by cases q), fun k _ => ?_⟩
  intro ι w vs hpw H
  obtain ⟨hl, hv⟩ := hpw
  obtain ⟨y, y1, y2⟩ := hv 0 _ rfl
  have hy : y = .int .u64 x := by
    have y3 : Rep w ι (Mt k ι) (.v (.int .u64 x)) y := y2
    cases y3; rfl
  subst hy
  have hvals : vs = #[.int .u64 x] := by
    apply Array.ext_getElem?
    intro i
    match i with
    | 0 => rw [y1]; rfl
    | i + 1 => rw [Array.getElem?_eq_none (by rw [← hl]; simp [vals]), Array.getElem?_eq_none (by simp)]
  rw [hvals]
  refine (h x w hp.1 hp.2).mono ?_
  rintro e w' ⟨rfl, rfl⟩
  exact ⟨_, _, k, ι, rfl, ⟨rfl, rfl⟩, .v _, H, Evolve.refl _ _ _⟩
end Go.Abs
