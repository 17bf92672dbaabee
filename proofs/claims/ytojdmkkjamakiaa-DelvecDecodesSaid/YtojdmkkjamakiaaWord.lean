/- The checksum at the end of an encoding. -/
import Derived.Test.YtojdmkkjamakiaaParse
namespace Go.Proofs.Ytojdmkkjamakiaa
open Go.Abs
set_option linter.unusedVariables false
set_option linter.unusedSimpArgs false


def wordR (s : ByteArray) (i : Int) : Int := bOr .u32 (bOr .u32 (bOr .u32 (byteAt s i.toNat) (shlI .u32 (byteAt s (i + 1).toNat) 8)) (shlI .u32 (byteAt s (i + 2).toNat) 16)) (shlI .u32 (byteAt s (i + 3).toNat) 24)
theorem or_shl32 {a b : Int} {n : Nat} (hn : n ≤ 32) (ha : 0 ≤ a ∧ a < 2 ^ n) (hb : 0 ≤ b) (h : a + b * 2 ^ n < 4294967296) : bOr .u32 a (shlI .u32 b n) = a + b * 2 ^ n := by
  have h0 : 0 ≤ b * 2 ^ n := Int.mul_nonneg hb (Int.le_of_lt (Int.pow_pos (by decide)))
  rw [shl32 hn ⟨h0, by omega⟩, bOr32 (by omega) (by omega)]
  have e : (b * 2 ^ n).toNat = b.toNat * 2 ^ n := by
    obtain ⟨m, rfl⟩ := Int.eq_ofNat_of_zero_le hb
    have : ((m : Int) * 2 ^ n) = ((m * 2 ^ n : Nat) : Int) := by push_cast; rfl
    rw [this]; rfl
  have ha' : a.toNat < 2 ^ n := by
    have : ((2 ^ n : Nat) : Int) = 2 ^ n := by push_cast; rfl
    omega
  rw [e, or_add _ _ _ ha']
  have : ((b.toNat * 2 ^ n : Nat) : Int) = b * 2 ^ n := by push_cast; rw [Int.toNat_of_nonneg hb]
  omega
theorem word_eq {a b c d : Int} (ha : 0 ≤ a ∧ a < 256) (hb : 0 ≤ b ∧ b < 256) (hc : 0 ≤ c ∧ c < 256) (hd : 0 ≤ d ∧ d < 256) :
    bOr .u32 (bOr .u32 (bOr .u32 a (shlI .u32 b 8)) (shlI .u32 c 16)) (shlI .u32 d 24) = a + b * 256 + c * 65536 + d * 16777216 := by
  have p1 : (2 : Int) ^ 8 = 256 := by decide
  have p2 : (2 : Int) ^ 16 = 65536 := by decide
  have p3 : (2 : Int) ^ 24 = 16777216 := by decide
  have e1 := or_shl32 (a := a) (b := b) (n := 8) (by omega) (by omega) (by omega) (by omega)
  rw [p1] at e1
  have e2 := or_shl32 (a := a + b * 256) (b := c) (n := 16) (by omega) (by omega) (by omega) (by omega)
  rw [p2] at e2
  have e3 := or_shl32 (a := a + b * 256 + c * 65536) (b := d) (n := 24) (by omega) (by omega) (by omega) (by omega)
  rw [p3] at e3
  rw [show ((8 : Int)) = ((8 : Nat) : Int) from rfl, e1, show ((16 : Int)) = ((16 : Nat) : Int) from rfl, e2, show ((24 : Int)) = ((24 : Nat) : Int) from rfl, e3]
theorem shr32 {v : Int} (h : 0 ≤ v) : shrI .u32 v 8 = v / 256 ∧ shrI .u32 v 16 = v / 65536 ∧ shrI .u32 v 24 = v / 16777216 := by
  unfold shrI
  refine ⟨?_, ?_, ?_⟩ <;> rw [Int.fdiv_eq_ediv_of_nonneg _ (by decide)] <;> rfl
theorem crcS_rng (s : ByteArray) : 0 ≤ crcS s ∧ crcS s < 4294967296 := by
  unfold crcS sumR
  rw [if_pos crcTab_len]
  exact bXor_u32 _ _
theorem four_eq {v a b c d : Int} (h : 0 ≤ v ∧ v < 4294967296) (ha : 0 ≤ a ∧ a < 256) (hb : 0 ≤ b ∧ b < 256) (hc : 0 ≤ c ∧ c < 256) (hd : 0 ≤ d ∧ d < 256) : four v = [a, b, c, d] ↔ a + b * 256 + c * 65536 + d * 16777216 = v := by
  obtain ⟨h1, h2, h3⟩ := shr32 h.1
  unfold four
  rw [h1, h2, h3, u8_mod, u8_mod, u8_mod, u8_mod]
  simp only [List.cons.injEq, and_true]
  omega
theorem four_rng (v : Int) : ∀ b, b ∈ four v → 0 ≤ b ∧ b < 256 := by
  intro b hb
  unfold four at hb
  rcases List.mem_cons.1 hb with h | hb
  · rw [h]; exact u8_wrap v
  rcases List.mem_cons.1 hb with h | hb
  · rw [h]; exact u8_wrap _
  rcases List.mem_cons.1 hb with h | hb
  · rw [h]; exact u8_wrap _
  rcases List.mem_cons.1 hb with h | hb
  · rw [h]; exact u8_wrap _
  cases hb
theorem seal_iff {s : ByteArray} (h8 : ¬ s.size < 8) : wordR s ((s.size : Int) - 4) = crcS (s.extract 0 ((s.size : Int) - 4).toNat) ↔ sealS (s.extract 0 ((s.size : Int) - 4).toNat) = s := by
  have e : ∀ (x : ByteArray) (n : Nat), toInts (x.extract 0 n) = (toInts x).take n := fun x n => by unfold toInts; simp [List.map_take]
  obtain ⟨m, hm⟩ : ∃ m, s.size = m + 4 := ⟨s.size - 4, by omega⟩
  have hd : (toInts s).drop m = [byteAt s m, byteAt s (m + 1), byteAt s (m + 2), byteAt s (m + 3)] := by
    rw [drop_byte (by omega), drop_byte (by omega), drop_byte (by omega), drop_byte (by omega), List.drop_eq_nil_of_le (by rw [toInts_len]; omega)]
  have hw : wordR s ((s.size : Int) - 4) = byteAt s m + byteAt s (m + 1) * 256 + byteAt s (m + 2) * 65536 + byteAt s (m + 3) * 16777216 := by
    unfold wordR
    rw [word_eq (byteAt_rng _ _) (byteAt_rng _ _) (byteAt_rng _ _) (byteAt_rng _ _)]
    rw [show ((s.size : Int) - 4).toNat = m by omega, show ((s.size : Int) - 4 + 1).toNat = m + 1 by omega, show ((s.size : Int) - 4 + 2).toNat = m + 2 by omega, show ((s.size : Int) - 4 + 3).toNat = m + 3 by omega]
  rw [hw, ← four_eq (crcS_rng _) (byteAt_rng _ _) (byteAt_rng _ _) (byteAt_rng _ _) (byteAt_rng _ _), ← hd]
  have hs : toInts (sealS (s.extract 0 ((s.size : Int) - 4).toNat)) = (toInts s).take m ++ four (crcS (s.extract 0 ((s.size : Int) - 4).toNat)) := by
    unfold sealS
    rw [toInts_app, e, show ((s.size : Int) - 4).toNat = m by omega, toInts_ofInts (four_rng _)]
  constructor
  · intro h
    apply toInts_inj
    rw [hs, h, List.take_append_drop]
  · intro h
    rw [h] at hs
    have := List.take_append_drop m (toInts s)
    rw [hs] at this
    have h2 := List.append_cancel_left (hs.symm.trans (List.take_append_drop m (toInts s)).symm)
    exact h2

abbrev c_word_ok : Ct := .fn [.str, .int .i64] (some (fun (s : ByteArray) (i : Int) => (0 ≤ i ∧ i + 4 ≤ s.size ∧ s.size ≤ 4611686018427387904))) (fun (s : ByteArray) (i : Int) => .d (.int .u32) (wordR s i))
set_option maxRecDepth 100000 in
set_option maxHeartbeats 4000000 in
theorem word_ok : CtOk Try.prog 56 c_word_ok := by
  refine CtOk.fn tb30_ok mixed [(0, 1, 3), (0, 1, 8), (0, 1, 15), (0, 1, 22)] [] rfl rfl ?_
  rintro ⟨(s : ByteArray), (i : Int), _⟩ hpre
  replace hpre := hpre _ rfl
  dsimp only [cu] at hpre
  have hi := hpre
  refine ⟨[], ?_⟩
  repeat' (first
    | (with_reducible refine Side.mk ?_
       (try dsimp only [cu, joinT, ckTys, gts, loK, hiK, Prod.eta, List.nil_append])
       first
       | (done)
       | (with_reducible rfl)
       | (omega)
       | (exact Eq.refl _)
       | (simp only [List.length_append, List.length_cons, List.length_nil]; omega)
       | (have := byteAt_rng s i.toNat
          have := byteAt_rng s (i + 1).toNat
          have := byteAt_rng s (i + 2).toNat
          have := byteAt_rng s (i + 3).toNat
          omega))
    | (conv => whnf
       first
        | done
        | exact trivial
        | with_reducible refine w_andS ?_ ?_
        | with_reducible refine w_andL ?_ ?_
        | with_reducible refine w_kern (by kernel_rfl) ?_
        | with_reducible refine w_true ?_
        | with_reducible refine w_nd ?_ ?_
        | with_reducible refine w_in ?_ ?_
        | with_reducible refine w_and ?_ ?_
        | (with_reducible refine w_brN (fun h => ?_) (fun h => ?_) <;> (try dsimp only [cu, Prod.eta, List.nil_append] at h) <;> (try (exfalso; omega; done)))
        | (with_reducible refine w_brD (fun h => ?_) (fun h => ?_) <;> (try dsimp only [cu, Prod.eta, List.nil_append] at h) <;> (try (exfalso; omega; done)))
        | (with_reducible refine w_br (fun h => ?_) (fun h => ?_) <;> (try dsimp only [cu, Prod.eta, List.nil_append] at h) <;> (try (exfalso; omega; done)))))
  all_goals (with_reducible refine Leaf.mk ?_
             (try dsimp only [cu, joinT, ckTys, gts, Prod.eta, List.nil_append] at *)
             first
             | (done)
             | (rfl))
abbrev tb31 : Tbl := (56, c_word_ok) :: tb30
theorem tb31_ok : TblOk Try.prog tb31 := TblOk.cons word_ok tb30_ok

end Go.Proofs.Ytojdmkkjamakiaa
