/- PROVED: 'MpartEncodes' returns true (the statement as given, every start, no condition of its own). MpartEncodes: Encode and Bound against the reference, for any schema and records, for made ones and for loose ones. -/
import Derived.Test.YtcjiefknhfhmkaaGreatDoorM14
import Derived.Test.YtcjiefknhfhmkaaGreatDoorRows
import Derived.Test.YtcjiefknhfhmkaaGreatDoorCards
import Derived.Test.YtcjiefknhfhmkaaGreatDoorTie
import Derived.LaidMore
import Derived.Stop.Joined
import Derived.SevenTiedAt
import Derived.ProofKit
import Derived.OpenShut
import Derived.ShutString
import Derived.ChangeOld
import Derived.SizedLaws
import Derived.ChangeMaps5
namespace Go.Proofs.YtcjiefknhfhmkaaGreatDoor.mpartEncodes
open Go.ChangeShapes Go.WideShapes Go.ChangeAt Go.RowKit Go.Abs

theorem pc (l0 : Ty.den bK) (b0 : Ty.ok bK l0) (l1 : Ty.den (.list fP)) (b1 : Ty.ok (.list fP) l1) (l2 : List Int) (b2 : (∀ n ∈ l2, (Lit.int .i64 n).wf = true) /\ l2.length * 8 <= 140737488351232) (l3 : List Int) (b3 : (∀ n ∈ l3, (Lit.int .i64 n).wf = true) /\ l3.length * 8 <= 140737488351232) (a4 : Int) (w4 : (Lit.int .i64 a4).wf = true) : PC Tryz.prog 11 [Ty.val bK l0, Ty.val (.list fP) l1, .sL (.int .i64) l2, .sL (.int .i64) l3, .v (.int .i64 a4)] [] (fun y _ => y = .v (.bool true)) :=
  PC.mono ((qGX (l0, l1, l2, l3, a4, ()) (fun q hq => by
    first
    | cases hq; done
    | (injection hq with hq; subst hq
       have wl2 := b2.1
       have b2 := b2.2
       have wl3 := b3.1
       have b3 := b3.2
       have hi3 : ∀ x, x ∈ l3 -> inI x := fun x hx => by
         have h := wl3 x hx
         simp only [Lit.wf, Bool.and_eq_true, decide_eq_true_eq] at h
         exact h
       have hri : wN l1 := fun r hr v hv => by
         have h := ((b1.2 r hr).2.2 v hv).2.1
         simp only [Ty.ok, Lit.wf, Bool.and_eq_true, decide_eq_true_eq] at h
         exact h
       have hr : l1.length <= 9223372036854775807 := Nat.le_trans b1.1 (by decide)
       show _
       dsimp only [cu]
       first | omega | (refine ⟨?_, ?_, ?_, ?_⟩ <;> first | omega | assumption) | (refine ⟨?_, ?_⟩ <;> first | omega | assumption) | (refine ⟨?_, ?_, ?_⟩ <;> first | omega | assumption) | (refine ⟨?_, ?_, ?_, ?_⟩ <;> omega) | (refine ⟨?_, ?_, ?_, ?_, ?_⟩ <;> omega) | (refine ⟨?_, ?_, ?_, ?_, ?_, ?_⟩ <;> first | omega | assumption)))).2 [] (fun _ h => by cases h)) fun _ _ h => h.1

abbrev XF : List (String × DataW Unit) := Rows.mpartEncodesRow.laid
theorem qFW (os : Os) (args : Array Value) : laidMetH Tryz.prog XF ((World.doorLaid Tryz.prog 400 os).forCall (fun _ _ => 0) ⟨#[], args, []⟩).memory :=
  laidMetH_of_parts3 (fuel := 8) (laidMet_of_run' 8 (by kernel_rfl) (by kernel_rfl)) (by kernel_rfl) (by kernel_rfl)
theorem own : ownKnob Tryz.prog.godebug = none := by kernel_rfl
theorem AI : laidOutB Tryz.prog = true := by kernel_rfl

set_option maxRecDepth 100000 in
theorem lifted (os : Os) (started : os.Started) (H : Type) (enc : TypeId × Value -> H) :
    ReturnsInHanded {} Tryz.checked os 11 .any (fun w args => (Rows.mpartEncodesSpec.pre enc Tryz.prog Tryz.f11 [] false w args /\ laidMetH Tryz.prog XF w) /\ sizedMet enc Tryz.prog Tryz.f11 (OpenSpec.ofChange Rows.mpartEncodesSpec) false w args) (Rows.mpartEncodesSpec.post enc Tryz.prog Tryz.f11 false true false false) := by
  refine returnsInHanded_of_change_and (C := Tryz.checked) (X := fun w _ => laidMetH Tryz.prog XF w) (fun _ _ _ hh h => h.of_heap hh) own started (by kernel_rfl) Tryz.func11
    (ChangeSpec.witness_shaped (enc := enc) (C := Tryz.checked) (os := os) (X := fun w _ => laidMetH Tryz.prog XF w) false (World.doorLaid Tryz.prog 400 os) #[.agg #[.slice none 0 0, .int .i64 0], .slice none 0 0, .slice none 0 0, .slice none 0 0, .int .i64 0] 8 rfl (World.shaped_of_RefB (by kernel_rfl) (by kernel_rfl)) (by kernel_rfl) (by kernel_rfl) (by kernel_rfl) (qFW os _)) ?_
  intro W base args ds gs before hval0 hW hcnd hsz hL _
  have hval : ∀ (j : Nat) t v, Tryz.f11.params[j]? = some t -> args[j]? = some v -> Value.okWide Tryz.prog W .any base t v := hval0
  have hW' := hW
  obtain ⟨p, q, hA0, hV, rfl, hfz, hnd⟩ := hW
  have hA : DataW.TrodAll enc Tryz.prog W 0 (fun _ => true) true Tryz.f11.params.toList args.toList ds p := hA0
  rw [Tryz.params11] at hA hval
  obtain ⟨v0, vs0, d0, ds0, p0, q0, hargs, rfl, rfl, h0, r_0⟩ := trodAll_cons hA
  obtain ⟨v1, vs1, d1, ds1, p1, q1, rfl, rfl, rfl, h1, r_1⟩ := trodAll_cons r_0
  obtain ⟨v2, vs2, d2, ds2, p2, q2, rfl, rfl, rfl, h2, r_2⟩ := trodAll_cons r_1
  obtain ⟨v3, vs3, d3, ds3, p3, q3, rfl, rfl, rfl, h3, r_3⟩ := trodAll_cons r_2
  obtain ⟨v4, vs4, d4, ds4, p4, q4, rfl, rfl, rfl, h4, r_4⟩ := trodAll_cons r_3
  obtain ⟨rfl, rfl, rfl⟩ := trodAll_nil r_4
  obtain rfl : args = #[v0, v1, v2, v3, v4] := by cases args; simp_all
  obtain ⟨rfl, rfl⟩ := trodVars_none hV
  obtain ⟨vs0, rfl, _⟩ := okWide_struct Tryz.underlying25 (hval 0 25 v0 rfl rfl)
  have k0 := h0
  have lt0 : ∀ x ∈ p0, x.block < W.heap.size := by obtain ⟨m, hm⟩ := k0; exact DataW.trod_lt m _ _ _ hm
  obtain ⟨f0, hf0⟩ := h0
  obtain ⟨l0, b0, e0⟩ := DI (P := Tryz.prog) 8 25 bK f0 _ _ (by kernel_rfl) hf0
  have r0 : iT W (Ty.val bK l0) (.agg vs0) := KD e0 (fun _ _ q => ⟨_, rfl⟩) (fun q => (q _ _ rfl).elim)
  obtain ⟨a1, len1, cap1, rfl⟩ := okWide_slice Tryz.underlying30 (hval 1 30 v1 rfl rfl)
  have k1 := h1
  have lt1 : ∀ x ∈ p1, x.block < W.heap.size := by obtain ⟨m, hm⟩ := k1; exact DataW.trod_lt m _ _ _ hm
  obtain ⟨f1, hf1⟩ := h1
  obtain ⟨l1, b1, e1⟩ := DI (P := Tryz.prog) 8 30 (.list fP) f1 _ _ (by kernel_rfl) hf1
  have r1 : iT W (Ty.val (.list fP) l1) (.slice a1 len1 cap1) := KD e1 (fun _ _ q => by cases q) (fun q => by simp [Value.cells])
  obtain ⟨a2, len2, cap2, rfl⟩ := okWide_slice Tryz.underlying22 (hval 2 22 v2 rfl rfl)
  have k2 := h2
  have lt2 : ∀ x ∈ p2, x.block < W.heap.size := by obtain ⟨m, hm⟩ := k2; exact DataW.trod_lt m _ _ _ hm
  obtain ⟨l2, r2, b2⟩ : ∃ (l : List Int), iT W (.sL (.int .i64) l) (.slice a2 len2 cap2) /\ (∀ n ∈ l, (Lit.int .i64 n).wf = true) /\ l.length * 8 <= 140737488351232 := by
    obtain ⟨fuel, hf⟩ := h2
    rcases open_ints Tryz.underlying22 Tryz.underlying3 (by kernel_rfl) hf with ⟨hcs, _⟩ | ⟨x, l, c, zs, hcs, _, hl, hm, hz, hx, hcell, hwz⟩
    · simp [Value.cells] at hcs
      obtain ⟨rfl, rfl, rfl⟩ := hcs
      exact ⟨[], Rep.sL _ _ _ (JO _ _), by simp, by simp⟩
    · simp [Value.cells] at hcs
      obtain ⟨rfl, rfl, rfl⟩ := hcs
      refine ⟨_, Rep.sL _ _ _ (EL hl (by simpa using hz) hcell), fun n hn => hwz n (List.mem_of_mem_take hn), ?_⟩
      have hd : d2 = _ := (Prod.mk.inj hx).1
      have hs := sized_slice hsz (j := 2) (t := 22) (e := 3) rfl (by rw [hd]; rfl) Tryz.underlying22
      rw [show Tryz.checked.prog.bytesOf 3 = 8 by kernel_rfl] at hs
      simp [lits, reachBytes] at hs ⊢
      omega
  obtain ⟨a3, len3, cap3, rfl⟩ := okWide_slice Tryz.underlying22 (hval 3 22 v3 rfl rfl)
  have k3 := h3
  have lt3 : ∀ x ∈ p3, x.block < W.heap.size := by obtain ⟨m, hm⟩ := k3; exact DataW.trod_lt m _ _ _ hm
  obtain ⟨l3, r3, b3⟩ : ∃ (l : List Int), iT W (.sL (.int .i64) l) (.slice a3 len3 cap3) /\ (∀ n ∈ l, (Lit.int .i64 n).wf = true) /\ l.length * 8 <= 140737488351232 := by
    obtain ⟨fuel, hf⟩ := h3
    rcases open_ints Tryz.underlying22 Tryz.underlying3 (by kernel_rfl) hf with ⟨hcs, _⟩ | ⟨x, l, c, zs, hcs, _, hl, hm, hz, hx, hcell, hwz⟩
    · simp [Value.cells] at hcs
      obtain ⟨rfl, rfl, rfl⟩ := hcs
      exact ⟨[], Rep.sL _ _ _ (JO _ _), by simp, by simp⟩
    · simp [Value.cells] at hcs
      obtain ⟨rfl, rfl, rfl⟩ := hcs
      refine ⟨_, Rep.sL _ _ _ (EL hl (by simpa using hz) hcell), fun n hn => hwz n (List.mem_of_mem_take hn), ?_⟩
      have hd : d3 = _ := (Prod.mk.inj hx).1
      have hs := sized_slice hsz (j := 3) (t := 22) (e := 3) rfl (by rw [hd]; rfl) Tryz.underlying22
      rw [show Tryz.checked.prog.bytesOf 3 = 8 by kernel_rfl] at hs
      simp [lits, reachBytes] at hs ⊢
      omega
  obtain ⟨a4, rfl, rfl, rfl, w4⟩ := open_int Tryz.underlying3 (hval 4 3 v4 rfl rfl) h4
  clear hA0 hval0
  refine (VR (P := Tryz.prog) (w := W) (vals := [.agg vs0, .slice a1 len1 cap1, .slice a2 len2 cap2, .slice a3 len3 cap3, .int .i64 a4]) (args := [Ty.val bK l0, Ty.val (.list fP) l1, .sL (.int .i64) l2, .sL (.int .i64) l3, .v (.int .i64 a4)]) ⟨r0, r1, r2, r3, AM _ _, trivial⟩ (pc l0 b0 l1 b1 l2 b2 l3 b3 a4 w4)).mono fun e W' ⟨he, bel⟩ => ?_
  subst he
  exact ⟨_, rfl, _, _, _, [], _, [], hW', trodAll_mk1 (shut_bool Tryz.underlying4 _), (trodAll_cons_mk (Below.trod AI (by kernel_rfl) (of_decide_eq_true (by kernel_rfl)) k0 bel lt0) (trodAll_cons_mk (Below.trod AI (by kernel_rfl) (of_decide_eq_true (by kernel_rfl)) k1 bel lt1) (trodAll_cons_mk (Below.trod AI (by kernel_rfl) (of_decide_eq_true (by kernel_rfl)) k2 bel lt2) (trodAll_cons_mk (Below.trod AI (by kernel_rfl) (of_decide_eq_true (by kernel_rfl)) k3 bel lt3) (trodAll_cons_mk (shut_int Tryz.underlying3 w4) trodAll_mk0))))), rfl, bel.frame _, fun h => by cases h⟩
end Go.Proofs.YtcjiefknhfhmkaaGreatDoor.mpartEncodes
