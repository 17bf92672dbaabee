/- Unpacking is the inverse of packing. -/
import Derived.Test.YthomnlfmamagcaaRDecode
namespace Go.Proofs.Ythomnlfmamagcaa
open Go.Abs
set_option linter.unusedVariables false
set_option linter.unusedSimpArgs false


theorem bl_lt : ∀ (f x : Nat), x < 2 ^ f → x < 2 ^ Lib.bitLenAux f x
  | 0, x, h => by simpa [Lib.bitLenAux] using h
  | f + 1, x, h => by
    rw [Lib.bitLenAux]
    split
    · rename_i q; subst q; simp
    · have := bl_lt f (x / 2) (by rw [Nat.pow_succ] at h; omega)
      rw [Nat.add_comm, Nat.pow_succ]; omega
/-- A number lies below the power of two of its width. -/
theorem lenI_lt {v : Int} (h : 0 ≤ v ∧ v < 18446744073709551616) : v < 2 ^ (lenI v).toNat := by
  have h1 := bl_lt 64 v.toNat (by have : (2 : Nat) ^ 64 = 18446744073709551616 := by decide
                                  omega)
  unfold lenI Lib.bitLen
  rw [Int.toNat_natCast, ← two_pow_cast]; omega
theorem lenI_of_lt {v : Int} {w : Nat} (hw : w ≤ 64) (h : 0 ≤ v ∧ v < 2 ^ w) : lenI v ≤ w := by
  have := two_pow_cast w
  have := Lib.bitLen_le v.toNat w hw (by omega)
  unfold lenI; omega
/-- A number is the sum of its bits, where the bits outside are 0. -/
theorem gs_self0 {v : Int} {f : Nat → Int} {m w i : Nat} (hv : 0 ≤ v) : ∀ t, (∀ u, u < t → (i * w + u < m → f (i * w + u) = v / 2 ^ u % 2) ∧ (¬ i * w + u < m → v / 2 ^ u % 2 = 0)) → gs f m w i t = v % 2 ^ t
  | 0, _ => by simp [gs]
  | t + 1, h => by
    have e0 : gs f m w i (t + 1) = gs f m w i t + v / 2 ^ t % 2 * 2 ^ t := by
      rw [gs]
      by_cases q : i * w + t < m
      · rw [if_pos q, (h t (by omega)).1 q]
      · rw [if_neg q, (h t (by omega)).2 q, Int.zero_mul]
    have e1 := gs_self (v := v) (f := fun q => v / 2 ^ (q - i * w) % 2) (m := i * w + t + 1) (w := w) (i := i) hv (t + 1) (fun u hu => ⟨by omega, by rw [show i * w + u - i * w = u by omega]⟩)
    have e2 := gs_self (v := v) (f := fun q => v / 2 ^ (q - i * w) % 2) (m := i * w + t + 1) (w := w) (i := i) hv t (fun u hu => ⟨by omega, by rw [show i * w + u - i * w = u by omega]⟩)
    rw [gs, if_pos (by omega), show i * w + t - i * w = t by omega, e2] at e1
    rw [e0, gs_self0 hv t (fun u hu => h u (by omega)), ← e1]
theorem byteAt_ofInts {l : List Int} (h : ∀ b, b ∈ l → 0 ≤ b ∧ b < 256) (k : Nat) : byteAt (ofInts l) k = l[k]! := by
  rw [← toInts_get, toInts_ofInts h]
theorem gL_byte {f : Nat → Int} (hf : bit01 f) (m n : Nat) : ∀ b, b ∈ gL f m 8 n → 0 ≤ b ∧ b < 256 := by
  intro b hb
  obtain ⟨i, _, rfl⟩ := List.mem_map.1 hb
  have := gs_lt hf m 8 i 8
  simpa using this
theorem gL_none (f : Nat → Int) (m w n i : Nat) (h : ¬ i < n) : (gL f m w n)[i]! = 0 := by
  rw [getElem!_neg _ _ (by rw [gL_len]; exact h)]; rfl
/-- The bits of a packed string. -/
theorem sbit_pack {f : Nat → Int} (hf : bit01 f) {m n q : Nat} (h : q < 8 * n) : sbit (ofInts (gL f m 8 n)) q = if q < m then f q else 0 := by
  unfold sbit
  rw [byteAt_ofInts (gL_byte hf m n), gL_get (by omega), gs_bit hf (Nat.mod_lt _ (by decide))]
  rw [show q / 8 * 8 + q % 8 = q by omega]
theorem vbit_gL {f : Nat → Int} (hf : bit01 f) {m w n q : Nat} (hw : 0 < w) (hq : q / w < n) : vbit (gL f m w n) w q = if q < m then f q else 0 := by
  unfold vbit
  rw [gL_get hq, gs_bit hf (Nat.mod_lt _ hw)]
  have : q / w * w + q % w = q := by rw [Nat.mul_comm]; exact Nat.div_add_mod q w
  rw [this]
theorem needR_nat {n w : Nat} (hn : n ≤ 4096) (hw : w ≤ 64) : needR (n : Int) (w : Int) = (((n * w + 7) / 8 : Nat) : Int) := by
  obtain ⟨h1, h2⟩ := need_eq (n := (n : Int)) (w := (w : Int)) ⟨⟨by omega, by omega⟩, by omega, by omega⟩
  rw [h1]; push_cast; rfl
/-- Packed numbers are unpacked again. -/
theorem unpack_pack {u : List Int} {w : Nat} (hn : u.length ≤ 4096) (hw : w ≤ 64) (h : ∀ v, v ∈ u → 0 ≤ v ∧ v < 2 ^ w) : unpackR (packR u w).1 u.length w = (u, 0) := by
  have hnd := needR_nat hn hw
  have hwide : ¬ anyWide u w = true := by
    rw [wide_no]
    · decide
    · intro j hj
      exact lenI_of_lt hw (h _ (by rw [getElem!_pos u j hj]; exact List.getElem_mem hj))
  have hp : (packR u w).1 = ofInts (gL (vbit u w) (u.length * w) 8 ((u.length * w + 7) / 8)) := by
    unfold packR
    rw [if_neg (by omega), if_neg (by omega), if_neg hwide, hnd]
    simp only [Int.toNat_natCast]
    rw [show ((u.length : Int) * (w : Int)).toNat = u.length * w by rw [← Int.natCast_mul, Int.toNat_natCast]]
  have hsz : (packR u w).1.size = (u.length * w + 7) / 8 := by rw [hp, ofInts_len, gL_len]
  have hperm : ¬ ¬ permB (u.length : Int) (w : Int) = true := fun q => q ((permB_iff _ _).2 (by omega))
  have hm : ((u.length : Int) * (w : Int)).toNat = u.length * w := by rw [← Int.natCast_mul, Int.toNat_natCast]
  have htail : ¬ tailBad (packR u w).1 ((u.length : Int) * (w : Int)).toNat = true := by
    rw [hm]
    refine tail_no fun q h1 h2 => ?_
    rw [hsz] at h2
    rw [hp, sbit_pack (vbit01 u w) h2, if_neg (by omega)]; decide
  rw [unpackR, if_neg hperm, if_neg (by rw [hsz, hnd]; omega), if_neg (by rw [hsz, hnd]; omega), if_neg htail, hm]
  congr 1
  apply List.ext_getElem
  · rw [gL_len]; simp
  · intro i h1 h2
    have hi : i < u.length := by rw [gL_len] at h1; simpa using h1
    have e1 : (gL (sbit (packR u w).1) (u.length * w) (w : Int).toNat (u.length : Int).toNat)[i] = gs (sbit (packR u w).1) (u.length * w) w i w := by
      simp [gL]
    rw [e1]
    have hu := h u[i] (List.getElem_mem hi)
    have hle : i * w + w ≤ u.length * w := by
      have := Nat.mul_le_mul_right w (show i + 1 ≤ u.length by omega)
      rw [Nat.add_mul, Nat.one_mul] at this; exact this
    rw [gs_self hu.1 w (fun t ht => ⟨by omega, ?_⟩), Int.emod_eq_of_lt hu.1 hu.2]
    rw [hp, sbit_pack (vbit01 u w) (by omega), if_pos (by omega)]
    obtain ⟨q1, q2⟩ := div_mod_of (i := i) (w := w) (t := t) (m := i * w + t) ht rfl
    unfold vbit
    rw [← q1, ← q2, getElem!_pos u i hi]
/-- Unpacked numbers are packed to the same string. -/
theorem pack_unpack {t : ByteArray} {n w : Nat} {u : List Int} (hn : n ≤ 4096) (hw : w ≤ 64) (h : unpackR t n w = (u, 0)) : packR u w = (t, 0) := by
  have hnd := needR_nat hn hw
  have hperm : ¬ ¬ permB (n : Int) (w : Int) = true := fun q => q ((permB_iff _ _).2 (by omega))
  have hm : ((n : Int) * (w : Int)).toNat = n * w := by rw [← Int.natCast_mul, Int.toNat_natCast]
  rw [unpackR, if_neg hperm] at h
  split at h
  · cases h
  split at h
  · cases h
  split at h
  · cases h
  rename_i h1 h2 h3
  rw [hm] at h h3
  have hsz : t.size = (n * w + 7) / 8 := by rw [hnd] at h1 h2; omega
  have htz : ∀ q, n * w ≤ q → q < 8 * t.size → sbit t q = 0 := fun q g1 g2 => by
    rcases sbit01 t q with z | z
    · exact z
    · exact absurd (tail_yes g1 g2 z) h3
  injection h with h _
  simp only [Int.toNat_natCast] at h
  have hul : u.length = n := by rw [← h, gL_len]
  have hwide : ¬ anyWide u w = true := by
    rw [wide_no]
    · decide
    · intro j hj
      rw [hul] at hj
      rw [← h, gL_get hj]
      exact lenI_of_lt hw (gs_lt (sbit01 t) _ _ _ _)
  unfold packR
  rw [if_neg (by omega), if_neg (by omega), if_neg hwide, hul, hnd, hm]
  congr 1
  apply toInts_inj
  rw [toInts_ofInts (gL_byte (vbit01 u _) _ _)]
  apply List.ext_getElem
  · rw [gL_len, toInts_len, hsz, Int.toNat_natCast]
  · intro j g1 g2
    have hj : j < (n * w + 7) / 8 := by rw [gL_len, Int.toNat_natCast] at g1; exact g1
    have hjt : (toInts t)[j] = byteAt t j := by rw [← toInts_get, getElem!_pos _ j g2]
    have e1 : (gL (vbit u (w : Int).toNat) (n * w) 8 ((((n * w + 7) / 8 : Nat) : Int)).toNat)[j] = gs (vbit u w) (n * w) 8 j 8 := by simp [gL]
    rw [e1, hjt]
    have hb := byteAt_rng t j
    have bit : ∀ z, z < 8 → byteAt t j / 2 ^ z % 2 = sbit t (j * 8 + z) := fun z hz => by
      unfold sbit
      rw [show (j * 8 + z) / 8 = j by omega, show (j * 8 + z) % 8 = z by omega]
    rw [gs_self0 hb.1 8 (fun z hz => ⟨fun q => ?_, fun q => ?_⟩), Int.emod_eq_of_lt hb.1 (by have := hb.2; simpa using this)]
    · rw [bit z hz, ← h]
      have hw0 : 0 < w := by
        rcases Nat.eq_zero_or_pos w with p | p
        · subst p; simp at q
        · exact p
      rw [vbit_gL (sbit01 t) hw0 (Nat.div_lt_of_lt_mul (by rw [Nat.mul_comm w n]; exact q)), if_pos q]
    · rw [bit z hz]
      exact htz _ (by omega) (by omega)

end Go.Proofs.Ythomnlfmamagcaa
