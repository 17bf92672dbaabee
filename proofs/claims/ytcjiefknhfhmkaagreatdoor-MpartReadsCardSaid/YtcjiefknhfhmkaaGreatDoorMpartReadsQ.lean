/- PROVED: 'MpartReads' returns true (the statement as given, every start, no condition of its own). MpartReads: Info, Column and Recs against the reference, for any string and for files. -/
import Derived.Test.YtcjiefknhfhmkaaGreatDoorM13
import Derived.Test.YtcjiefknhfhmkaaGreatDoorRows
import Derived.Test.YtcjiefknhfhmkaaGreatDoorCards
import Derived.Test.YtcjiefknhfhmkaaGreatDoorTie
import Derived.LaidMore
import Derived.Stop.Joined
import Derived.SevenTiedAt
import Derived.ProofKit
import Derived.OpenShut
import Derived.ShutString
import Derived.ChangeOld
import Derived.SizedLaws
import Derived.ChangeSame
import Derived.ChangeMaps5
namespace Go.Proofs.YtcjiefknhfhmkaaGreatDoor.mpartReads
open Go.ChangeShapes Go.WideShapes Go.ChangeAt Go.RowKit Go.Abs
set_option linter.unusedVariables false

theorem sl_len {w : World} {t : Ty} {l : List t.den} {a : Option Addr} {n c : Nat} (h : gT w (.sL t l) (.slice a n c)) : l.length = n := by
  have h : Rep w _ _ (.sL t l) (.slice a n c) := h
  cases h with
  | sL _ _ _ h =>
    generalize hr : l.map t.row = rows at h
    have hl : rows.length = l.length := by rw [<- hr, List.length_map]
    rw [<- hl]
    cases h with
    | sF => rfl
    | sN => rfl
theorem cols_sz {H : Type} {enc : TypeId × Value -> H} {w : World} {base fuel : Nat} {spare : Nat -> Bool} {held : Bool} {cs : List Value} {d0 : DataW H} {p0 : List MemPlace} {l0 : Schema} (h : DataW.trod enc Tryz.prog w base spare held fuel 25 cs = some (d0, p0)) (e : mS w (Ty.row bM l0) cs) {ts : List TypeId} {ds : List (DataW H)} (hs : (DataW.weightsEach Tryz.prog (25 :: ts) (d0 :: ds)).all (· <= reachBytes) = true) : l0.1.length <= 140737488351232 := by
  obtain ⟨y0, y1, n, hx, hl, h0, _⟩ := trod_struct2 Tryz.underlying25 h
  obtain ⟨rfl, rfl⟩ := Prod.mk.inj hx
  have hc23 : Tryz.prog.cellsOf 23 = 1 := by kernel_rfl
  rcases DataW.trod_slice Tryz.underlying23 h0 with ⟨hc, hy⟩ | ⟨a, len, cap, elems, rest, m, _, hc, hy, _, _, _, hlen, _⟩
  · have hz : cs[0]? = some (.slice none 0 0) := by
      have := congrArg (·[0]?) hc
      simpa [hc23] using this
    have := sl_len (e.2 0 (.sL pJ l0.1) _ rfl hz)
    omega
  · have hz : cs[0]? = some (.slice (some a) len cap) := by
      have := congrArg (·[0]?) hc
      simpa [hc23] using this
    have h1 := sl_len (e.2 0 (.sL pJ l0.1) _ rfl hz)
    have h2 := List.all_eq_true.1 hs ((elems.length + rest.length) * Tryz.prog.bytesOf 40) (by
      rw [hy]
      simp [DataW.weightsEach, DataW.weights, Tryz.underlying25, Tryz.underlying23])
    rw [show Tryz.prog.bytesOf 40 = 40 by kernel_rfl] at h2
    have h3 := of_decide_eq_true h2
    unfold reachBytes at h3
    omega
theorem pc (l0 : Ty.den bM) (b0 : Ty.ok bM l0) (c0 : (l0 : Schema).1.length <= 140737488351232) (a1 : ByteArray) (w1 : a1.size <= 140737488351232) (l2 : List Int) (b2 : (∀ n ∈ l2, (Lit.int .i64 n).wf = true) /\ l2.length * 8 <= 140737488351232) (l3 : List Int) (b3 : (∀ n ∈ l3, (Lit.int .i64 n).wf = true) /\ l3.length * 8 <= 140737488351232) (l4 : List Int) (b4 : (∀ n ∈ l4, (Lit.int .i64 n).wf = true) /\ l4.length * 8 <= 140737488351232) : PC Tryz.prog 6 [Ty.val bM l0, .v (.string a1), .sL (.int .i64) l2, .sL (.int .i64) l3, .sL (.int .i64) l4] [] (fun y _ => y = .v (.bool true)) :=
  PC.mono ((PT (l0, a1, l2, l3, l4, ()) (fun q hq => by
    first
    | cases hq; done
    | (injection hq with hq; subst hq
       have wl2 := b2.1
       have b2 := b2.2
       have wl3 := b3.1
       have b3 := b3.2
       have wl4 := b4.1
       have b4 := b4.2
       have hi4 : ∀ x, x ∈ l4 -> inI x := fun x hx => by
         have h := wl4 x hx
         simp only [Lit.wf, Bool.and_eq_true, decide_eq_true_eq] at h
         exact h
       have hcs : (l0 : Schema).1.length <= 4611686018427387904 := Nat.le_trans c0 (by decide)
       show _
       dsimp only [cu]
       first | omega | (refine ⟨?_, ?_, ?_, ?_⟩ <;> first | omega | assumption) | (refine ⟨?_, ?_⟩ <;> first | omega | assumption) | (refine ⟨?_, ?_, ?_⟩ <;> first | omega | assumption) | (refine ⟨?_, ?_, ?_, ?_⟩ <;> omega) | (refine ⟨?_, ?_, ?_, ?_, ?_⟩ <;> omega) | (refine ⟨?_, ?_, ?_, ?_, ?_, ?_⟩ <;> first | omega | assumption)))).2 [] (fun _ h => by cases h)) fun _ _ h => h.1

abbrev qC : List (String × DataW Unit) := Rows.mpartReadsRow.laid
theorem tU (os : Os) (args : Array Value) : laidMetH Tryz.prog qC ((World.doorLaid Tryz.prog 400 os).forCall (fun _ _ => 0) ⟨#[], args, []⟩).memory :=
  laidMetH_of_parts3 (fuel := 8) (laidMet_of_run' 8 (by kernel_rfl) (by kernel_rfl)) (by kernel_rfl) (by kernel_rfl)
theorem own : ownKnob Tryz.prog.godebug = none := by kernel_rfl
theorem mN : laidOutB Tryz.prog = true := by kernel_rfl

set_option maxRecDepth 100000 in
theorem lifted (os : Os) (started : os.Started) (H : Type) (enc : TypeId × Value -> H) :
    ReturnsInHanded {} Tryz.checked os 6 .any (fun w args => (Rows.mpartReadsSpec.pre enc Tryz.prog Tryz.f6 [] false w args /\ laidMetH Tryz.prog qC w) /\ sizedMet enc Tryz.prog Tryz.f6 (OpenSpec.ofChange Rows.mpartReadsSpec) false w args) (Rows.mpartReadsSpec.post enc Tryz.prog Tryz.f6 false true false false) := by
  refine returnsInHanded_of_change_and (C := Tryz.checked) (X := fun w _ => laidMetH Tryz.prog qC w) (fun _ _ _ hh h => h.of_heap hh) own started (by kernel_rfl) Tryz.func6
    (ChangeSpec.witness_shaped (enc := enc) (C := Tryz.checked) (os := os) (X := fun w _ => laidMetH Tryz.prog qC w) false (World.doorLaid Tryz.prog 400 os) #[.agg #[.slice none 0 0, .int .i64 0], .string ByteArray.empty, .slice none 0 0, .slice none 0 0, .slice none 0 0] 8 rfl (World.shaped_of_RefB (by kernel_rfl) (by kernel_rfl)) (by kernel_rfl) (by kernel_rfl) (by kernel_rfl) (tU os _)) ?_
  intro W base args ds gs before hval0 hW hcnd hsz hL _
  have hval : ∀ (j : Nat) t v, Tryz.f6.params[j]? = some t -> args[j]? = some v -> Value.okWide Tryz.prog W .any base t v := hval0
  have hW' := hW
  obtain ⟨p, q, hA0, hV, rfl, hfz, hnd⟩ := hW
  have hA : DataW.TrodAll enc Tryz.prog W 0 (fun _ => true) true Tryz.f6.params.toList args.toList ds p := hA0
  rw [Tryz.params6] at hA hval
  obtain ⟨v0, vs0, d0, ds0, p0, q0, hargs, rfl, rfl, h0, r_0⟩ := trodAll_cons hA
  obtain ⟨v1, vs1, d1, ds1, p1, q1, rfl, rfl, rfl, h1, r_1⟩ := trodAll_cons r_0
  obtain ⟨v2, vs2, d2, ds2, p2, q2, rfl, rfl, rfl, h2, r_2⟩ := trodAll_cons r_1
  obtain ⟨v3, vs3, d3, ds3, p3, q3, rfl, rfl, rfl, h3, r_3⟩ := trodAll_cons r_2
  obtain ⟨v4, vs4, d4, ds4, p4, q4, rfl, rfl, rfl, h4, r_4⟩ := trodAll_cons r_3
  obtain ⟨rfl, rfl, rfl⟩ := trodAll_nil r_4
  obtain rfl : args = #[v0, v1, v2, v3, v4] := by cases args; simp_all
  obtain ⟨rfl, rfl⟩ := trodVars_none hV
  obtain ⟨vs0, rfl, _⟩ := okWide_struct Tryz.underlying25 (hval 0 25 v0 rfl rfl)
  have k0 := h0
  have lt0 : ∀ x ∈ p0, x.block < W.heap.size := by obtain ⟨m, hm⟩ := k0; exact DataW.trod_lt m _ _ _ hm
  obtain ⟨f0, hf0⟩ := h0
  obtain ⟨l0, b0, e0⟩ := qCD (P := Tryz.prog) 8 25 bM f0 _ _ (by kernel_rfl) hf0
  have r0 : gT W (Ty.val bM l0) (.agg vs0) := qLI e0 (fun _ _ q => ⟨_, rfl⟩) (fun q => (q _ _ rfl).elim)
  obtain ⟨a1, rfl, rfl, rfl, w1⟩ := Go.ChangeMaps.open_string Tryz.underlying9 (hval 1 9 v1 rfl rfl) h1
  have z1 : a1.size <= 140737488351232 := by have := sized_string hsz (j := 1) (t := 9) rfl rfl; simpa [reachBytes] using this
  obtain ⟨a2, len2, cap2, rfl⟩ := okWide_slice Tryz.underlying22 (hval 2 22 v2 rfl rfl)
  have k2 := h2
  have lt2 : ∀ x ∈ p2, x.block < W.heap.size := by obtain ⟨m, hm⟩ := k2; exact DataW.trod_lt m _ _ _ hm
  obtain ⟨l2, r2, b2⟩ : ∃ (l : List Int), gT W (.sL (.int .i64) l) (.slice a2 len2 cap2) /\ (∀ n ∈ l, (Lit.int .i64 n).wf = true) /\ l.length * 8 <= 140737488351232 := by
    obtain ⟨fuel, hf⟩ := h2
    rcases open_ints Tryz.underlying22 Tryz.underlying3 (by kernel_rfl) hf with ⟨hcs, _⟩ | ⟨x, l, c, zs, hcs, _, hl, hm, hz, hx, hcell, hwz⟩
    · simp [Value.cells] at hcs
      obtain ⟨rfl, rfl, rfl⟩ := hcs
      exact ⟨[], Rep.sL _ _ _ (mF _ _), by simp, by simp⟩
    · simp [Value.cells] at hcs
      obtain ⟨rfl, rfl, rfl⟩ := hcs
      refine ⟨_, Rep.sL _ _ _ (kG hl (by simpa using hz) hcell), fun n hn => hwz n (List.mem_of_mem_take hn), ?_⟩
      have hd : d2 = _ := (Prod.mk.inj hx).1
      have hs := sized_slice hsz (j := 2) (t := 22) (e := 3) rfl (by rw [hd]; rfl) Tryz.underlying22
      rw [show Tryz.checked.prog.bytesOf 3 = 8 by kernel_rfl] at hs
      simp [lits, reachBytes] at hs ⊢
      omega
  obtain ⟨a3, len3, cap3, rfl⟩ := okWide_slice Tryz.underlying22 (hval 3 22 v3 rfl rfl)
  have k3 := h3
  have lt3 : ∀ x ∈ p3, x.block < W.heap.size := by obtain ⟨m, hm⟩ := k3; exact DataW.trod_lt m _ _ _ hm
  obtain ⟨l3, r3, b3⟩ : ∃ (l : List Int), gT W (.sL (.int .i64) l) (.slice a3 len3 cap3) /\ (∀ n ∈ l, (Lit.int .i64 n).wf = true) /\ l.length * 8 <= 140737488351232 := by
    obtain ⟨fuel, hf⟩ := h3
    rcases open_ints Tryz.underlying22 Tryz.underlying3 (by kernel_rfl) hf with ⟨hcs, _⟩ | ⟨x, l, c, zs, hcs, _, hl, hm, hz, hx, hcell, hwz⟩
    · simp [Value.cells] at hcs
      obtain ⟨rfl, rfl, rfl⟩ := hcs
      exact ⟨[], Rep.sL _ _ _ (mF _ _), by simp, by simp⟩
    · simp [Value.cells] at hcs
      obtain ⟨rfl, rfl, rfl⟩ := hcs
      refine ⟨_, Rep.sL _ _ _ (kG hl (by simpa using hz) hcell), fun n hn => hwz n (List.mem_of_mem_take hn), ?_⟩
      have hd : d3 = _ := (Prod.mk.inj hx).1
      have hs := sized_slice hsz (j := 3) (t := 22) (e := 3) rfl (by rw [hd]; rfl) Tryz.underlying22
      rw [show Tryz.checked.prog.bytesOf 3 = 8 by kernel_rfl] at hs
      simp [lits, reachBytes] at hs ⊢
      omega
  obtain ⟨a4, len4, cap4, rfl⟩ := okWide_slice Tryz.underlying22 (hval 4 22 v4 rfl rfl)
  have k4 := h4
  have lt4 : ∀ x ∈ p4, x.block < W.heap.size := by obtain ⟨m, hm⟩ := k4; exact DataW.trod_lt m _ _ _ hm
  obtain ⟨l4, r4, b4⟩ : ∃ (l : List Int), gT W (.sL (.int .i64) l) (.slice a4 len4 cap4) /\ (∀ n ∈ l, (Lit.int .i64 n).wf = true) /\ l.length * 8 <= 140737488351232 := by
    obtain ⟨fuel, hf⟩ := h4
    rcases open_ints Tryz.underlying22 Tryz.underlying3 (by kernel_rfl) hf with ⟨hcs, _⟩ | ⟨x, l, c, zs, hcs, _, hl, hm, hz, hx, hcell, hwz⟩
    · simp [Value.cells] at hcs
      obtain ⟨rfl, rfl, rfl⟩ := hcs
      exact ⟨[], Rep.sL _ _ _ (mF _ _), by simp, by simp⟩
    · simp [Value.cells] at hcs
      obtain ⟨rfl, rfl, rfl⟩ := hcs
      refine ⟨_, Rep.sL _ _ _ (kG hl (by simpa using hz) hcell), fun n hn => hwz n (List.mem_of_mem_take hn), ?_⟩
      have hd : d4 = _ := (Prod.mk.inj hx).1
      have hs := sized_slice hsz (j := 4) (t := 22) (e := 3) rfl (by rw [hd]; rfl) Tryz.underlying22
      rw [show Tryz.checked.prog.bytesOf 3 = 8 by kernel_rfl] at hs
      simp [lits, reachBytes] at hs ⊢
      omega
  clear hA0 hval0
  refine (xY (P := Tryz.prog) (w := W) (vals := [.agg vs0, .string a1, .slice a2 len2 cap2, .slice a3 len3 cap3, .slice a4 len4 cap4]) (args := [Ty.val bM l0, .v (.string a1), .sL (.int .i64) l2, .sL (.int .i64) l3, .sL (.int .i64) l4]) ⟨r0, oC _ _, r2, r3, r4, trivial⟩ (pc l0 b0 (cols_sz hf0 e0 hsz) a1 z1 l2 b2 l3 b3 l4 b4)).mono fun e W' ⟨he, bel⟩ => ?_
  subst he
  exact ⟨_, rfl, _, _, _, [], _, [], hW', trodAll_mk1 (shut_bool Tryz.underlying4 _), (trodAll_cons_mk (Below.trod mN (by kernel_rfl) (of_decide_eq_true (by kernel_rfl)) k0 bel lt0) (trodAll_cons_mk (Go.ChangeMaps.shut_string Tryz.underlying9 w1) (trodAll_cons_mk (Below.trod mN (by kernel_rfl) (of_decide_eq_true (by kernel_rfl)) k2 bel lt2) (trodAll_cons_mk (Below.trod mN (by kernel_rfl) (of_decide_eq_true (by kernel_rfl)) k3 bel lt3) (trodAll_cons_mk (Below.trod mN (by kernel_rfl) (of_decide_eq_true (by kernel_rfl)) k4 bel lt4) trodAll_mk0))))), rfl, bel.frame _, fun h => by cases h⟩
end Go.Proofs.YtcjiefknhfhmkaaGreatDoor.mpartReads
