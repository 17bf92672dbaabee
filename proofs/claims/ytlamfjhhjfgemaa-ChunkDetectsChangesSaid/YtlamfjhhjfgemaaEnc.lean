/- Contract of EncodeChunk of the reference; the checksum finds changes. -/
import Derived.Test.YtlamfjhhjfgemaaRound
namespace Go.Proofs.Ytlamfjhhjfgemaa
open Go.Abs
set_option linter.unusedVariables false
set_option linter.unusedSimpArgs false

abbrev c_typed_ok : Ct := .fn [.int .i64] (none) (fun (t : Int) => .d .bool (vKnown t))
set_option maxRecDepth 100000 in
set_option maxHeartbeats 4000000 in
theorem typed_ok : CtOk Try.prog 37 c_typed_ok := by
  refine CtOk.fn tb70_ok mixed [] [] rfl rfl ?_
  rintro ⟨(t : Int), _⟩ -
  refine ⟨[], ?_⟩
  repeat' (first
    | (
 with_reducible refine Side.mk ?_
 (try dsimp only [cu, joinT, ckTys, gts, loK, hiK, Prod.eta, List.nil_append])
 first
 | (done)
 | (with_reducible rfl)
 | (omega)
 | (exact Eq.refl _)
 | (simp only [List.length_append, List.length_cons, List.length_nil]; omega)
 | (grind))
    | (conv => whnf
       first
        | done
        | exact trivial
        | with_reducible refine NilBr.mk (fun h => ?_) ?_
        | with_reducible first | refine w_andS ?_ ?_ | refine w_andL ?_ ?_ | refine w_kern (by kernel_rfl) ?_ | refine w_true ?_ | refine w_nd ?_ ?_ | refine w_in ?_ ?_ | refine w_and ?_ ?_
        | ((with_reducible first | refine w_brN (fun h => ?_) (fun h => ?_) | refine w_brD (fun h => ?_) (fun h => ?_) | refine w_br (fun h => ?_) (fun h => ?_)) <;> (try dsimp only [cu, Prod.eta, List.nil_append] at h) <;> (try (exfalso; omega; done)))))
  all_goals (
 with_reducible refine Leaf.mk ?_
 (try dsimp only [cu, joinT, ckTys, gts, Prod.eta, List.nil_append] at *)
 first
 | (done)
 | (grind [vKnown]))
abbrev tb71 : Tbl := (37, c_typed_ok) :: tb70
theorem tb71_ok : TblOk Try.prog tb71 := TblOk.cons typed_ok tb70_ok

abbrev c_rCheck_ok : Ct := .fn [tCol, tVal] (none) (fun (c : Col) (v : Val) => .d (.int .i64) (vCheck c v))
set_option maxRecDepth 100000 in
set_option maxHeartbeats 4000000 in
theorem rCheck_ok : CtOk Try.prog 24 c_rCheck_ok := by
  refine CtOk.fn tb71_ok mixed [] [] rfl rfl ?_
  rintro ⟨(c : Col), (v : Val), _⟩ -
  refine ⟨[], ?_⟩
  repeat' (first
    | (
 with_reducible refine Side.mk ?_
 (try dsimp only [cu, joinT, ckTys, gts, loK, hiK, Prod.eta, List.nil_append])
 first
 | (done)
 | (with_reducible rfl)
 | (omega)
 | (exact Eq.refl _)
 | (simp only [List.length_append, List.length_cons, List.length_nil]; omega)
 | (grind))
    | (conv => whnf
       first
        | done
        | exact trivial
        | with_reducible refine NilBr.mk (fun h => ?_) ?_
        | with_reducible first | refine w_andS ?_ ?_ | refine w_andL ?_ ?_ | refine w_kern (by kernel_rfl) ?_ | refine w_true ?_ | refine w_nd ?_ ?_ | refine w_in ?_ ?_ | refine w_and ?_ ?_
        | ((with_reducible first | refine w_brN (fun h => ?_) (fun h => ?_) | refine w_brD (fun h => ?_) (fun h => ?_) | refine w_br (fun h => ?_) (fun h => ?_)) <;> (try dsimp only [cu, Prod.eta, List.nil_append] at h) <;> (try (exfalso; omega; done)))))
  all_goals (
 with_reducible refine Leaf.mk ?_
 (try dsimp only [cu, joinT, ckTys, gts, Prod.eta, List.nil_append] at *)
 first
 | (done)
 | (grind [vCheck, vKnown, vPermitted, vCompare, intCmp]))
abbrev tb72 : Tbl := (24, c_rCheck_ok) :: tb71
theorem tb72_ok : TblOk Try.prog tb72 := TblOk.cons rCheck_ok tb71_ok


/- Encoding of chunks. -/
def chkAll (c : Col) : List Val → Int
  | [] => 0
  | v :: r => if vCheck c v ≠ 0 then vCheck c v else chkAll c r
def bst (t : Int) (l : List Val) : Nat → Int → ByteArray → ByteArray
  | 0, _, b => b
  | n + 1, k, b => bst t l n (k + 1) (if usesB t k = true then (if b = ⟨#[]⟩ ∨ (buildS t k l).size < b.size then buildS t k l else b) else b)
def encV (c : Col) (l : List Val) : ByteArray × Int :=
  if vKnown c.2.1 = false then (⟨#[]⟩, 1) else if l.length > 4096 then (⟨#[]⟩, 7) else if chkAll c l ≠ 0 then (⟨#[]⟩, chkAll c l) else (bst c.2.1 l 4 1 ⟨#[]⟩, 0)
theorem chkAll_step {c : Col} {l : List Val} {k : Int} (h : 0 ≤ k ∧ k < l.length) : chkAll c (l.drop k.toNat) = if vCheck c l[k.toNat]! ≠ 0 then vCheck c l[k.toNat]! else chkAll c (l.drop (k + 1).toNat) := by
  rw [drop_step l k h]; rfl
theorem chkAll_ok {c : Col} : ∀ {l : List Val}, chkAll c l = 0 → ∀ v, v ∈ l → vCheck c v = 0
  | [], _, v, hv => by cases hv
  | x :: r, h, v, hv => by
    rw [chkAll] at h
    split at h
    · rename_i q; exact absurd h q
    · rename_i q
      rcases List.mem_cons.1 hv with p | p
      · rw [p]; exact Decidable.not_not.1 q
      · exact chkAll_ok h v p
theorem check_okV {c : Col} {v : Val} (h : vCheck c v = 0) (hi : inI v.2.1) : okV v := by
  refine ⟨?_, hi⟩
  by_cases hn : v.1 = true
  · rw [check_null h hn]; exact Nat.zero_le _
  · have hn : v.1 = false := by simpa using hn
    unfold vCheck at h
    split at h
    · cases h
    · split at h
      · cases h
      · rename_i h2
        split at h
        · cases h
        · split at h
          · cases h
          · split at h
            · cases h
            · rename_i h5
              by_cases ht : c.2.1 = 3
              · have hp : vPermitted c.2.1 v = true := by
                  refine Decidable.not_not.1 fun q => h5 ⟨hn, by simpa using q⟩
                unfold vPermitted at hp
                rw [if_neg (by omega), if_neg (by omega), if_neg (by omega), if_pos ht] at hp
                have := of_decide_eq_true hp
                omega
              · have e : v.2.2 = EMP := Decidable.not_not.1 fun q => h2 ⟨.inr ht, q⟩
                rw [e]; exact Nat.zero_le _
theorem bst_step {t : Int} {l : List Val} {k : Int} {b : ByteArray} (h : 1 ≤ k ∧ k < 5) : bst t l (5 - k).toNat k b = bst t l (5 - (k + 1)).toNat (k + 1) (if usesB t k = true then (if b = ⟨#[]⟩ ∨ (buildS t k l).size < b.size then buildS t k l else b) else b) := by
  rw [show (5 - k).toNat = (5 - (k + 1)).toNat + 1 by omega]; rfl
/-- The least chunk is a chunk of one of the type's codecs. -/
theorem bst_is {t : Int} {l : List Val} : ∀ (n : Nat) (k : Int) (b : ByteArray), (b = ⟨#[]⟩ ∨ ∃ j, usesB t j = true ∧ b = buildS t j l) → (bst t l n k b = ⟨#[]⟩ ∨ ∃ j, usesB t j = true ∧ bst t l n k b = buildS t j l)
  | 0, k, b, h => h
  | n + 1, k, b, h => by
    refine bst_is n (k + 1) _ ?_
    split
    · rename_i hu
      split
      · exact .inr ⟨k, hu, rfl⟩
      · exact h
    · exact h

abbrev c_encc_ok : Ct := .fn [tCol, .list tVal] (some (fun (c : Col) (l : List Val) => (l.length ≤ 4611686018427387904) ∧ (∀ v, v ∈ l → inI v.2.1))) (fun (c : Col) (l : List Val) => .tup [.str, .int .i64] ((encV c l).1, (encV c l).2, ()))
set_option maxRecDepth 100000 in
set_option maxHeartbeats 4000000 in
theorem encc_ok : CtOk Try.prog 20 c_encc_ok := by
  refine CtOk.fn tb72_ok mixed [] [] rfl rfl ?_
  rintro ⟨(c : Col), (l : List Val), _⟩ hpre
  replace hpre := hpre _ rfl
  dsimp only [cu] at hpre
  obtain ⟨hl, hin⟩ := hpre
  refine ⟨[(0, 12, LA.mk [.sl 21 (.int .i64)] (fun y => Tag 50 ∧ cu [.int .i64] (fun (i : Int) => (0 ≤ i ∧ i ≤ l.length) ∧ (chkAll c l = chkAll c (l.drop i.toNat))) y) (cu [.int .i64] (fun (i : Int) => ((l.length : Int) - i).toNat)) (cu [.int .i64] (fun (i : Int) => ([] : List (Nat × Nat × LA))))), (0, 28, LA.mk [.sl 10 (.int .i64), .sl 9 .str] (fun y => Tag 51 ∧ cu [.int .i64, .str] (fun (k : Int) (b : ByteArray) => (1 ≤ k ∧ k ≤ 5) ∧ (bst c.2.1 l 4 1 ⟨#[]⟩ = bst c.2.1 l (5 - k).toNat k b) ∧ (b.size ≤ 4398046585379)) y) (cu [.int .i64, .str] (fun (k : Int) (b : ByteArray) => (5 - k).toNat)) (cu [.int .i64, .str] (fun (k : Int) (b : ByteArray) => ([] : List (Nat × Nat × LA)))))], ?_⟩
  repeat' (first
    | (
 with_reducible refine Side.mk ⟨(⟨⟩ : Tag 50), ?_⟩
 dsimp only [cu, joinT, ckTys, gts, Prod.eta, List.nil_append]
 refine ⟨?_, ?_⟩
 · omega
 · first
   | (rfl)
   | (
  have hv : ¬ vCheck c l[i.toNat]! ≠ 0 := ne_zero_no (by with_reducible assumption)
  rw [hc, chkAll_step (by omega), if_neg hv]))
    | (
 with_reducible refine Side.mk ⟨(⟨⟩ : Tag 51), ?_⟩
 dsimp only [cu, joinT, ckTys, gts, Prod.eta, List.nil_append]
 refine ⟨?_, ?_, ?_⟩
 · omega
 · first
   | (rfl)
   | (
  have hu : ¬ usesB c.2.1 k = true := by rw [show usesB c.2.1 k = false by first | with_reducible assumption | exact nz_f (by with_reducible assumption)]; exact Bool.noConfusion
  rw [hb, bst_step (by omega), if_neg hu])
   | (
  have hu : usesB c.2.1 k = true := by first | with_reducible assumption | exact nz_t (by with_reducible assumption)
  first
  | (
   have he : b = ⟨#[]⟩ := by with_reducible assumption
   rw [hb, bst_step (by omega), if_pos hu, if_pos (.inl he)])
  | (
   have he : (buildS c.2.1 k l).size < b.size := by omega
   rw [hb, bst_step (by omega), if_pos hu, if_pos (.inr he)])
  | (
   have he : ¬ (b = ⟨#[]⟩ ∨ (buildS c.2.1 k l).size < b.size) := fun q => by
     rcases q with q | q
     · contradiction
     · omega
   rw [hb, bst_step (by omega), if_pos hu, if_neg he]))
 · first
   | (exact Nat.zero_le _)
   | (
  have hch : chkAll c l = 0 := by rw [hc, List.drop_eq_nil_of_le (by omega)]; rfl
  have hok : ∀ v, v ∈ l → okV v := fun v hv => check_okV (chkAll_ok hch v hv) (hin v hv)
  have hbs := build_size (t := c.2.1) (k := k) hok (by omega)
  omega))
    | (
 with_reducible refine Side.mk ?_
 (try dsimp only [cu, joinT, ckTys, gts, loK, hiK, Prod.eta, List.nil_append])
 first
 | (done)
 | (with_reducible rfl)
 | (omega)
 | (exact Eq.refl _)
 | (simp only [List.length_append, List.length_cons, List.length_nil]; omega)
 | (
  have hch : chkAll c l = 0 := by rw [hc, List.drop_eq_nil_of_le (by omega)]; rfl
  have hok : ∀ v, v ∈ l → okV v := fun v hv => check_okV (chkAll_ok hch v hv) (hin v hv)
  exact ⟨by omega, hok⟩))
    | (conv => whnf
       first
        | done
        | exact trivial
        | with_reducible refine NilBr.mk (fun h => ?_) ?_
        | with_reducible first | refine w_andS ?_ ?_ | refine w_andL ?_ ?_ | refine w_kern (by kernel_rfl) ?_ | refine w_true ?_ | refine w_nd ?_ ?_ | refine w_in ?_ ?_ | refine w_and ?_ ?_
        | ((with_reducible first | refine w_brN (fun h => ?_) (fun h => ?_) | refine w_brD (fun h => ?_) (fun h => ?_) | refine w_br (fun h => ?_) (fun h => ?_)) <;> (try dsimp only [cu, Prod.eta, List.nil_append] at h) <;> (try (exfalso; omega; done)))
        | (
 intro yy (hy : Tag 50 ∧ _)
 obtain ⟨(i : Int), _⟩ := yy
 replace hy := hy.2
 dsimp only [cu, joinT, ckTys, gts, Prod.eta, List.nil_append] at hy
 obtain ⟨hi, hc⟩ := hy)
        | (
 intro yy (hy : Tag 51 ∧ _)
 obtain ⟨(k : Int), (b : ByteArray), _⟩ := yy
 replace hy := hy.2
 dsimp only [cu, joinT, ckTys, gts, Prod.eta, List.nil_append] at hy
 obtain ⟨hk, hb, hz⟩ := hy)))
  all_goals (
 with_reducible refine Leaf.mk ?_
 (try dsimp only [cu, joinT, ckTys, gts, Prod.eta, List.nil_append] at *)
 first
 | (done)
 | (
  have hkn : vKnown c.2.1 = false := by first | with_reducible assumption | exact nz_f (by with_reducible assumption)
  rw [encV, if_pos hkn])
 | (
  have hkn : ¬ vKnown c.2.1 = false := by rw [show vKnown c.2.1 = true by first | with_reducible assumption | exact nz_t (by with_reducible assumption)]; exact Bool.noConfusion
  first
  | (
   have h4 : l.length > 4096 := by omega
   rw [encV, if_neg hkn, if_pos h4])
  | (
   have h4 : ¬ l.length > 4096 := by omega
   have hv : vCheck c l[i.toNat]! ≠ 0 := by with_reducible assumption
   have hce : chkAll c l = vCheck c l[i.toNat]! := by rw [hc, chkAll_step (by omega), if_pos hv]
   rw [encV, if_neg hkn, if_neg h4, hce, if_pos hv])
  | (
   have hch : chkAll c l = 0 := by rw [hc, List.drop_eq_nil_of_le (by omega)]; rfl
   have hok : ∀ v, v ∈ l → okV v := fun v hv => check_okV (chkAll_ok hch v hv) (hin v hv)
   have h4 : ¬ l.length > 4096 := by omega
   rw [encV, if_neg hkn, if_neg h4, if_neg (ne_zero_no hch), hb, show (5 - k).toNat = 0 by omega]
   first | done | rfl)))
abbrev tb73 : Tbl := (20, c_encc_ok) :: tb72
theorem tb73_ok : TblOk Try.prog tb73 := TblOk.cons encc_ok tb72_ok


/- A checksum finds changes of two neighbouring bytes. -/
theorem xor32 {a c : Int} (ha : 0 ≤ a ∧ a < 4294967296) (hc : 0 ≤ c ∧ c < 4294967296) : bXor .u32 a c = ((a.toNat ^^^ c.toNat : Nat) : Int) := by
  have q : ∀ x : Int, 0 ≤ x ∧ x < 4294967296 → (BitVec.ofInt IntKind.u32.bits x).toNat = x.toNat := by
    intro x hx
    rw [BitVec.toNat_ofInt]
    simp [IntKind.bits]; omega
  unfold bXor
  rw [BitVec.toNat_xor, q a ha, q c hc]
  have : a.toNat ^^^ c.toNat < 2 ^ 32 := Nat.xor_lt_two_pow (by omega) (by omega)
  exact u32_id (by omega)
theorem xor8 {a c : Int} (ha : 0 ≤ a ∧ a < 256) (hc : 0 ≤ c ∧ c < 256) : bXor .u8 a c = ((a.toNat ^^^ c.toNat : Nat) : Int) := by
  have q : ∀ x : Int, 0 ≤ x ∧ x < 256 → (BitVec.ofInt IntKind.u8.bits x).toNat = x.toNat := by
    intro x hx
    rw [BitVec.toNat_ofInt]
    simp [IntKind.bits]; omega
  unfold bXor
  rw [BitVec.toNat_xor, q a ha, q c hc]
  have : a.toNat ^^^ c.toNat < 2 ^ 8 := Nat.xor_lt_two_pow (by omega) (by omega)
  exact u8_id (by omega)
theorem xor_cancel {a b c : Nat} (h : a ^^^ b = a ^^^ c) : b = c := by
  have : a ^^^ (a ^^^ b) = a ^^^ (a ^^^ c) := by rw [h]
  rwa [← Nat.xor_assoc, ← Nat.xor_assoc, Nat.xor_self, Nat.zero_xor, Nat.zero_xor] at this
theorem xor_cancel' {a b c : Nat} (h : b ^^^ a = c ^^^ a) : b = c := by
  rw [Nat.xor_comm b a, Nat.xor_comm c a] at h; exact xor_cancel h
def tops : List Nat := [0, 242, 225, 19, 199, 53, 38, 212, 138, 120, 107, 153, 77, 191, 172, 94, 16, 226, 241, 3, 215, 37, 54, 196, 154, 104, 123, 137, 93, 175, 188, 78, 32, 210, 193, 51, 231, 21, 6, 244, 170, 88, 75, 185, 109, 159, 140, 126, 48, 194, 209, 35, 247, 5, 22, 228, 186, 72, 91, 169, 125, 143, 156, 110, 65, 179, 160, 82, 134, 116, 103, 149, 203, 57, 42, 216, 12, 254, 237, 31, 81, 163, 176, 66, 150, 100, 119, 133, 219, 41, 58, 200, 28, 238, 253, 15, 97, 147, 128, 114, 166, 84, 71, 181, 235, 25, 10, 248, 44, 222, 205, 63, 113, 131, 144, 98, 182, 68, 87, 165, 251, 9, 26, 232, 60, 206, 221, 47, 130, 112, 99, 145, 69, 183, 164, 86, 8, 250, 233, 27, 207, 61, 46, 220, 146, 96, 115, 129, 85, 167, 180, 70, 24, 234, 249, 11, 223, 45, 62, 204, 162, 80, 67, 177, 101, 151, 132, 118, 40, 218, 201, 59, 239, 29, 14, 252, 178, 64, 83, 161, 117, 135, 148, 102, 56, 202, 217, 43, 255, 13, 30, 236, 195, 49, 34, 208, 4, 246, 229, 23, 73, 187, 168, 90, 142, 124, 111, 157, 211, 33, 50, 192, 20, 230, 245, 7, 89, 171, 184, 74, 158, 108, 127, 141, 227, 17, 2, 240, 36, 214, 197, 55, 105, 155, 136, 122, 174, 92, 79, 189, 243, 1, 18, 224, 52, 198, 213, 39, 121, 139, 152, 106, 190, 76, 95, 173]
theorem tops_eq : crcTab.map (fun v => (v / 16777216).toNat) = tops := by kernel_rfl
theorem tops_inj : (List.range 256).all (fun x => decide (tops.idxOf tops[x]! = x)) = true := by kernel_rfl
theorem tab_rng (x : Nat) : 0 ≤ crcTab[x]! ∧ crcTab[x]! < 4294967296 := by
  by_cases h : x < crcTab.length
  · rw [getElem!_pos crcTab x h]
    simp only [crcTab, List.getElem_map, List.getElem_range]
    show 0 ≤ rndN 7 (rnd (x : Int)) ∧ rndN 7 (rnd (x : Int)) < 4294967296
    have H : ∀ (n : Nat) (v : Int), 0 ≤ v ∧ v < 4294967296 → 0 ≤ rndN n v ∧ rndN n v < 4294967296 := by
      intro n
      induction n with
      | zero => intro v h; exact h
      | succ n ih => intro v _; exact ih _ (rnd_in v)
    exact H 7 _ (rnd_in _)
  · rw [getElem!_neg crcTab x h]; exact ⟨by decide, by decide⟩
theorem tab_top {x y : Nat} (hx : x < 256) (hy : y < 256) (h : crcTab[x]! / 16777216 = crcTab[y]! / 16777216) : x = y := by
  have e : ∀ z, z < 256 → tops[z]! = (crcTab[z]! / 16777216).toNat := fun z hz => by
    have hl : z < crcTab.length := by rw [crcTab_len]; exact hz
    rw [← tops_eq, getElem!_pos _ z (by rw [List.length_map]; exact hl), List.getElem_map, getElem!_pos crcTab z hl]
  have i : ∀ z, z < 256 → tops.idxOf tops[z]! = z := fun z hz => of_decide_eq_true (List.all_eq_true.1 tops_inj z (by simpa using hz))
  rw [← i x hx, ← i y hy, e x hx, e y hy, h]
def ix (v b : Int) : Nat := (bXor .u8 (IntKind.u8.wrap v) b).toNat
theorem ix_lt (v b : Int) : ix v b < 256 := by have := bXor_u8 (IntKind.u8.wrap v) b; unfold ix; omega
theorem shr8 {v : Int} (h : 0 ≤ v) : shrI .u32 v 8 = v / 256 := (shr32 h).1
theorem cs_nat {v b : Int} (hv : 0 ≤ v ∧ v < 4294967296) : cstep crcTab v b = (((v / 256).toNat ^^^ (crcTab[ix v b]!).toNat : Nat) : Int) := by
  unfold cstep
  rw [shr8 hv.1, xor32 (by omega) (tab_rng _)]
  rfl
theorem cs_rng (v b : Int) : 0 ≤ cstep crcTab v b ∧ cstep crcTab v b < 4294967296 := bXor_u32 _ _
theorem cs_top {v b : Int} (hv : 0 ≤ v ∧ v < 4294967296) : cstep crcTab v b / 16777216 = crcTab[ix v b]! / 16777216 := by
  have ht := tab_rng (ix v b)
  obtain ⟨T, hT⟩ := Int.eq_ofNat_of_zero_le ht.1
  obtain ⟨A, hA⟩ := Int.eq_ofNat_of_zero_le (show 0 ≤ v / 256 by omega)
  rw [cs_nat hv, hT, hA, Int.toNat_natCast, Int.toNat_natCast]
  have hA2 : A < 16777216 := by omega
  have e : (A ^^^ T) / 16777216 = T / 16777216 := by
    rw [show 16777216 = 2 ^ 24 from rfl, ← Nat.shiftRight_eq_div_pow, ← Nat.shiftRight_eq_div_pow, Nat.shiftRight_xor_distrib, show A >>> 24 = 0 by rw [Nat.shiftRight_eq_div_pow]; omega, Nat.zero_xor]
  omega
/-- Equal steps come from equal places of the table and equal upper parts. -/
theorem cs_inj {v b v' b' : Int} (hv : 0 ≤ v ∧ v < 4294967296) (hv' : 0 ≤ v' ∧ v' < 4294967296) (h : cstep crcTab v b = cstep crcTab v' b') : ix v b = ix v' b' ∧ v / 256 = v' / 256 := by
  have h1 := cs_top (b := b) hv
  have h2 := cs_top (b := b') hv'
  have e : ix v b = ix v' b' := tab_top (ix_lt _ _) (ix_lt _ _) (by rw [← h1, ← h2, h])
  refine ⟨e, ?_⟩
  rw [cs_nat hv, cs_nat hv', e] at h
  have := xor_cancel' (Int.ofNat.inj h)
  omega
theorem ix_eq {v b : Int} (hb : 0 ≤ b ∧ b < 256) : ix v b = (v % 256).toNat ^^^ b.toNat := by
  unfold ix
  rw [u8_mod, xor8 (by omega) hb]; rfl
theorem ix_byte {v b b' : Int} (hb : 0 ≤ b ∧ b < 256) (hb' : 0 ≤ b' ∧ b' < 256) (h : ix v b = ix v b') : b = b' := by
  rw [ix_eq hb, ix_eq hb'] at h
  have := xor_cancel h
  omega
theorem ix_state {v v' b : Int} (hv : 0 ≤ v) (hv' : 0 ≤ v') (hb : 0 ≤ b ∧ b < 256) (h : ix v b = ix v' b) : v % 256 = v' % 256 := by
  rw [ix_eq hb, ix_eq hb] at h
  have := xor_cancel' h
  omega
def runC (L : List Int) (v : Int) : Int := L.foldl (cstep crcTab) v
theorem runC_rng : ∀ (L : List Int) (v : Int), 0 ≤ v ∧ v < 4294967296 → 0 ≤ runC L v ∧ runC L v < 4294967296
  | [], v, h => h
  | b :: L, v, _ => runC_rng L _ (cs_rng v b)
theorem runC_app (A B : List Int) (v : Int) : runC (A ++ B) v = runC B (runC A v) := by unfold runC; rw [List.foldl_append]
/-- Equal bytes keep different states apart. -/
theorem runC_ne : ∀ (L : List Int) (v v' : Int), (∀ b, b ∈ L → 0 ≤ b ∧ b < 256) → 0 ≤ v ∧ v < 4294967296 → 0 ≤ v' ∧ v' < 4294967296 → v ≠ v' → runC L v ≠ runC L v'
  | [], v, v', _, _, _, h => h
  | b :: L, v, v', hL, hv, hv', h => by
    have hb := hL b (by simp)
    refine runC_ne L _ _ (fun x hx => hL x (List.mem_cons_of_mem _ hx)) (cs_rng v b) (cs_rng v' b) (fun q => h ?_)
    obtain ⟨h1, h2⟩ := cs_inj hv hv' q
    have h3 := ix_state hv.1 hv'.1 hb h1
    omega
/-- Another byte: another top byte. -/
theorem byte_top {v b b' : Int} (hv : 0 ≤ v ∧ v < 4294967296) (hb : 0 ≤ b ∧ b < 256) (hb' : 0 ≤ b' ∧ b' < 256) (h : b ≠ b') : cstep crcTab v b / 16777216 ≠ cstep crcTab v b' / 16777216 := fun q => by
  rw [cs_top hv, cs_top hv] at q
  exact h (ix_byte hb hb' (tab_top (ix_lt _ _) (ix_lt _ _) q))
theorem two_ne {v x y x' y' : Int} (hv : 0 ≤ v ∧ v < 4294967296) (hx : 0 ≤ x ∧ x < 256) (hx' : 0 ≤ x' ∧ x' < 256) (hy : 0 ≤ y ∧ y < 256) (hy' : 0 ≤ y' ∧ y' < 256) (h : x ≠ x' ∨ y ≠ y') :
    cstep crcTab (cstep crcTab v x) y ≠ cstep crcTab (cstep crcTab v x') y' := fun q => by
  obtain ⟨h1, h2⟩ := cs_inj (cs_rng v x) (cs_rng v x') q
  by_cases e : x = x'
  · subst e
    rcases h with h | h
    · exact h rfl
    · exact h (ix_byte hy hy' h1)
  · have h3 := byte_top hv hx hx' e
    omega
theorem bnot_eq {v : Int} (h : 0 ≤ v ∧ v < 4294967296) : bnot v = 4294967295 - v := by
  unfold bnot bXor
  rw [show BitVec.ofInt IntKind.u32.bits (-1) = BitVec.allOnes IntKind.u32.bits from rfl, BitVec.allOnes_xor, BitVec.toNat_not, BitVec.toNat_ofInt]
  have e2 : (2 : Nat) ^ IntKind.u32.bits = 4294967296 := rfl
  have e3 : ((2 ^ IntKind.u32.bits - 1 - (v % ((2 ^ IntKind.u32.bits : Nat) : Int)).toNat : Nat) : Int) = 4294967295 - v := by
    rw [e2]; omega
  rw [e3, u32_id (by omega)]
theorem crc_run (s : ByteArray) : crcS s = 4294967295 - runC (toInts s) 4294967295 := by
  have h := runC_rng (toInts s) 4294967295 (by decide)
  unfold crcS sumR
  rw [if_pos crcTab_len]
  exact bnot_eq h


theorem four_inj {v w : Int} (hv : 0 ≤ v ∧ v < 4294967296) (hw : 0 ≤ w ∧ w < 4294967296) (h : four v = four w) : v = w := by
  have r := four_rng w
  obtain ⟨h1, h2, h3⟩ := shr32 hw.1
  have e := (four_eq (v := v) hv (r (IntKind.u8.wrap w) (by simp [four])) (r (IntKind.u8.wrap (shrI .u32 w 8)) (by simp [four])) (r (IntKind.u8.wrap (shrI .u32 w 16)) (by simp [four])) (r (IntKind.u8.wrap (shrI .u32 w 24)) (by simp [four]))).1 h
  rw [h1, h2, h3, u8_mod, u8_mod, u8_mod, u8_mod] at e
  omega
theorem four_last {v : Int} (hv : 0 ≤ v ∧ v < 4294967296) {a b c d : Int} (h : four v = [a, b, c, d]) : d = v / 16777216 := by
  obtain ⟨h1, h2, h3⟩ := shr32 hv.1
  unfold four at h
  have h5 := (List.cons.inj (List.cons.inj (List.cons.inj (List.cons.inj h).2).2).2).1
  rw [h3, u8_mod] at h5
  omega
theorem two_at {s : ByteArray} {i : Nat} (h : i + 1 < s.size) : toInts s = (toInts s).take i ++ byteAt s i :: byteAt s (i + 1) :: (toInts s).drop (i + 2) := by
  have h1 := List.take_append_drop i (toInts s)
  rw [drop_byte (by omega), drop_byte (by omega)] at h1
  exact h1.symm
/-- A sealed string with two other bytes is not sealed. -/
theorem detect {B u : ByteArray} {i : Nat} {x' y' : Int} (hB : 1 ≤ B.size) (hi : i + 1 < (sealS B).size) (hx' : 0 ≤ x' ∧ x' < 256) (hy' : 0 ≤ y' ∧ y' < 256) (hne : byteAt (sealS B) i ≠ x' ∨ byteAt (sealS B) (i + 1) ≠ y')
    (hu : toInts u = (toInts (sealS B)).take i ++ x' :: y' :: (toInts (sealS B)).drop (i + 2)) : openE u = 9 := by
  have hss := seal_size B
  have hx := byteAt_rng (sealS B) i
  have hy := byteAt_rng (sealS B) (i + 1)
  have hul := congrArg List.length hu
  simp only [List.length_append, List.length_cons, List.length_take, List.length_drop, toInts_len] at hul
  have huz : u.size = B.size + 4 := by omega
  refine open_1 (by omega) (fun q => ?_)
  have hbz := body_size (s := u) (by omega)
  have hbn : (bodyS u).size = B.size := by omega
  have q1 : toInts u = toInts (bodyS u) ++ four (crcS (bodyS u)) := by
    conv => lhs; rw [← q]
    unfold sealS
    rw [toInts_app, toInts_ofInts (four_rng _)]
  have s1 : toInts (sealS B) = toInts B ++ four (crcS B) := by
    unfold sealS; rw [toInts_app, toInts_ofInts (four_rng _)]
  have hL := two_at hi
  generalize byteAt (sealS B) i = x at *
  generalize byteAt (sealS B) (i + 1) = y at *
  have hbl : (toInts (bodyS u)).length = B.size := by rw [toInts_len, hbn]
  have hBl : (toInts B).length = B.size := toInts_len B
  have hrg : ∀ b, b ∈ toInts (sealS B) → 0 ≤ b ∧ b < 256 := fun b hb => toInts_rng hb
  generalize hLL : toInts (sealS B) = L at *
  have hLl : L.length = B.size + 4 := by rw [← hLL, toInts_len, hss]
  have t1 : toInts (bodyS u) = (L.take i ++ x' :: y' :: L.drop (i + 2)).take B.size := by rw [← hu, q1, ← hbl, List.take_left]
  have t2 : four (crcS (bodyS u)) = (L.take i ++ x' :: y' :: L.drop (i + 2)).drop B.size := by rw [← hu, q1, ← hbl, List.drop_left]
  have t3 : toInts B = L.take B.size := by rw [s1, ← hBl, List.take_left]
  have t4 : four (crcS B) = L.drop B.size := by rw [s1, ← hBl, List.drop_left]
  have r0 : (0 : Int) ≤ 4294967295 ∧ (4294967295 : Int) < 4294967296 := by decide
  have c1 := crcS_rng B
  have c2 := crcS_rng (bodyS u)
  have k1 := crc_run B
  have k2 := crc_run (bodyS u)
  have hti : (L.take i).length = i := by rw [List.length_take]; omega
  rcases Nat.lt_or_ge (i + 1) B.size with g | g
  · have e1 : L.take B.size = L.take i ++ x :: y :: (L.drop (i + 2)).take (B.size - (i + 2)) := by
      conv => lhs; rw [hL]
      rw [List.take_append, hti, List.take_of_length_le (by omega), show B.size - i = (B.size - (i + 2)) + 1 + 1 by omega, List.take_succ_cons, List.take_succ_cons]
    have e2 : (L.take i ++ x' :: y' :: L.drop (i + 2)).take B.size = L.take i ++ x' :: y' :: (L.drop (i + 2)).take (B.size - (i + 2)) := by
      rw [List.take_append, hti, List.take_of_length_le (by omega), show B.size - i = (B.size - (i + 2)) + 1 + 1 by omega, List.take_succ_cons, List.take_succ_cons]
    have e3 : (L.take i ++ x' :: y' :: L.drop (i + 2)).drop B.size = L.drop B.size := by
      conv => rhs; rw [hL]
      rw [List.drop_append, List.drop_append, hti, show B.size - i = (B.size - (i + 2)) + 1 + 1 by omega]; rfl
    rw [e3, ← t4] at t2
    have hc := four_inj c2 c1 t2
    rw [k1, k2, t1, t3, e1, e2, runC_app, runC_app] at hc
    have hv := runC_rng (L.take i) 4294967295 r0
    refine runC_ne ((L.drop (i + 2)).take (B.size - (i + 2))) _ _ (fun b hb => hrg b (List.mem_of_mem_drop (List.mem_of_mem_take hb))) (cs_rng _ _) (cs_rng _ _) (two_ne hv hx hx' hy hy' hne) ?_
    have hc : (4294967295 : Int) - runC ((L.drop (i + 2)).take (B.size - (i + 2))) (cstep crcTab (cstep crcTab (runC (L.take i) 4294967295) x') y') = 4294967295 - runC ((L.drop (i + 2)).take (B.size - (i + 2))) (cstep crcTab (cstep crcTab (runC (L.take i) 4294967295) x) y) := hc
    omega
  · rcases Nat.eq_or_lt_of_le g with g | g
    · have e1 : L.take B.size = L.take i ++ [x] := by
        conv => lhs; rw [hL]
        rw [List.take_append, hti, List.take_of_length_le (by omega), show B.size - i = 1 by omega]; rfl
      have e2 : (L.take i ++ x' :: y' :: L.drop (i + 2)).take B.size = L.take i ++ [x'] := by
        rw [List.take_append, hti, List.take_of_length_le (by omega), show B.size - i = 1 by omega]; rfl
      have e3 : (L.take i ++ x' :: y' :: L.drop (i + 2)).drop B.size = y' :: L.drop (i + 2) := by
        rw [List.drop_append, hti, List.drop_eq_nil_of_le (by omega), show B.size - i = 1 by omega]; rfl
      have e4 : L.drop B.size = y :: L.drop (i + 2) := by
        conv => lhs; rw [hL]
        rw [List.drop_append, hti, List.drop_eq_nil_of_le (by omega), show B.size - i = 1 by omega]; rfl
      rw [e3] at t2
      rw [e4] at t4
      rw [e1] at t3
      rw [e2] at t1
      have hv := runC_rng (L.take i) 4294967295 r0
      by_cases hxx : x = x'
      · subst hxx
        have hc : crcS (bodyS u) = crcS B := by rw [k1, k2, t1, t3]
        rw [hc, t4] at t2
        have := (List.cons.inj t2).1
        rcases hne with hne | hne
        · exact hne rfl
        · exact hne this
      · have hd : L.drop (i + 2) = [(L.drop (i + 2))[0]!, (L.drop (i + 2))[1]!, (L.drop (i + 2))[2]!] := by
          have hl3 : (L.drop (i + 2)).length = 3 := by rw [List.length_drop]; omega
          match h3 : L.drop (i + 2), hl3 with
          | [p, q, r], _ => rfl
        rw [hd] at t2 t4
        have d1 := four_last c2 t2
        have d2 := four_last c1 t4
        have n1 : runC (toInts (bodyS u)) 4294967295 = cstep crcTab (runC (L.take i) 4294967295) x' := by rw [t1, runC_app]; rfl
        have n2 : runC (toInts B) 4294967295 = cstep crcTab (runC (L.take i) 4294967295) x := by rw [t3, runC_app]; rfl
        have b1 := cs_rng (runC (L.take i) 4294967295) x'
        have b2 := cs_rng (runC (L.take i) 4294967295) x
        have := byte_top hv hx hx' hxx
        omega
    · have e1 : (L.take i ++ x' :: y' :: L.drop (i + 2)).take B.size = L.take B.size := by
        conv => rhs; rw [hL]
        rw [List.take_append_of_le_length (by omega), List.take_append_of_le_length (by omega)]
      have e2 : (L.take i ++ x' :: y' :: L.drop (i + 2)).drop B.size = (L.take i).drop B.size ++ x' :: y' :: L.drop (i + 2) := List.drop_append_of_le_length (by omega)
      have e3 : L.drop B.size = (L.take i).drop B.size ++ x :: y :: L.drop (i + 2) := by
        conv => lhs; rw [hL]
        exact List.drop_append_of_le_length (by omega)
      have hc : crcS (bodyS u) = crcS B := by rw [k1, k2, t1, t3, e1]
      rw [hc, t4, e2, e3] at t2
      have t5 := List.append_cancel_left t2
      have p1 := (List.cons.inj t5).1
      have p2 := (List.cons.inj (List.cons.inj t5).2).1
      rcases hne with hne | hne
      · exact hne p1
      · exact hne p2


theorem chkAll_zero {c : Col} : ∀ {l : List Val}, (∀ v, v ∈ l → vCheck c v = 0) → chkAll c l = 0
  | [], _ => rfl
  | v :: r, h => by
    rw [chkAll, if_neg (ne_zero_no (h v (by simp))), chkAll_zero (fun x hx => h x (List.mem_cons_of_mem _ hx))]
theorem bst_is2 {t : Int} {l : List Val} : ∀ (n : Nat) (k : Int) (b : ByteArray), (∃ j, usesB t j = true ∧ b = buildS t j l) → ∃ j, usesB t j = true ∧ bst t l n k b = buildS t j l
  | 0, k, b, h => h
  | n + 1, k, b, h => by
    refine bst_is2 n (k + 1) _ ?_
    split
    · rename_i hu
      split
      · exact ⟨k, hu, rfl⟩
      · exact h
    · exact h
theorem uses_one (t : Int) : usesB t 1 = true := by unfold usesB; split <;> rfl
theorem enc_made {l : List Int} (t : Int) (null : Bool) (hi : ∀ x, x ∈ l → inI x) : ∃ B : ByteArray, 1 ≤ B.size ∧ B.size ≤ 4398046585375 ∧ (encV (colS t null) (kValuesS (colS t null) l)).1 = sealS B ∧ decV (colS t null) (sealS B) = (kValuesS (colS t null) l, 0) := by
  have hkv := kValues_ok (l := l) (colS t null) hi
  have hck := kValues_check (l := l) t null
  have hct := colS_type t null
  have hc : vKnown (colS t null).2.1 = true := by simp [vKnown, hct]
  generalize kValuesS (colS t null) l = x at *
  have hl : x.length ≤ 4096 := by omega
  have h1 : bst (colS t null).2.1 x 4 1 ⟨#[]⟩ = bst (colS t null).2.1 x 3 (1 + 1) (buildS (colS t null).2.1 1 x) := by
    rw [bst, if_pos (uses_one _), if_pos (.inl rfl)]
  obtain ⟨j, hj, e⟩ := bst_is2 (t := (colS t null).2.1) (l := x) 3 (1 + 1) _ ⟨1, uses_one _, rfl⟩
  have hs := chunkB_size (t := (colS t null).2.1) (k := j) hkv.1 hl
  refine ⟨chunkB (colS t null).2.1 j x, hs.2, hs.1, ?_, ?_⟩
  · rw [encV, if_neg (by rw [hc]; decide), if_neg (by omega), if_neg (ne_zero_no (chkAll_zero hck)), h1, e]; rfl
  · exact dec_round hc hj hl (fun v hv => ⟨hck v hv, hkv.1 v hv⟩)
theorem xor8_same {x a : Int} (hx : 0 ≤ x ∧ x < 256) (ha : 0 ≤ a ∧ a < 256) : bXor .u8 x a = x ↔ a = 0 := by
  rw [xor8 hx ha]
  constructor
  · intro h
    have h2 : x.toNat ^^^ a.toNat = x.toNat ^^^ 0 := by rw [Nat.xor_zero]; omega
    have := xor_cancel h2
    omega
  · intro h
    subst h
    rw [show (0 : Int).toNat = 0 from rfl, Nat.xor_zero]; omega
theorem det_dec {c : Col} {B : ByteArray} {l : List Val} {p a b : Int} (hc : vKnown c.2.1 = true) (hB : 1 ≤ B.size) (hd : decV c (sealS B) = (l, 0)) (hp : 0 ≤ p ∧ p + 1 < (sealS B).size) (ha : 0 ≤ a ∧ a < 256) (hb : 0 ≤ b ∧ b < 256) :
    (decV c (((sealS B).extract 0 p.toNat ++ ofInts [bXor .u8 (byteAt (sealS B) p.toNat) a, bXor .u8 (byteAt (sealS B) (p + 1).toNat) b]) ++ (sealS B).extract (p + 2).toNat (sealS B).size)).2 = if a = 0 ∧ b = 0 then 0 else 9 := by
  have e1 : (p + 1).toNat = p.toNat + 1 := by omega
  have e2 : (p + 2).toNat = p.toNat + 2 := by omega
  have hx := byteAt_rng (sealS B) p.toNat
  have hy := byteAt_rng (sealS B) (p.toNat + 1)
  have hx' := bXor_u8 (byteAt (sealS B) p.toNat) a
  have hy' := bXor_u8 (byteAt (sealS B) (p.toNat + 1)) b
  rw [e1, e2]
  have hu : toInts (((sealS B).extract 0 p.toNat ++ ofInts [bXor .u8 (byteAt (sealS B) p.toNat) a, bXor .u8 (byteAt (sealS B) (p.toNat + 1)) b]) ++ (sealS B).extract (p.toNat + 2) (sealS B).size) = (toInts (sealS B)).take p.toNat ++ bXor .u8 (byteAt (sealS B) p.toNat) a :: bXor .u8 (byteAt (sealS B) (p.toNat + 1)) b :: (toInts (sealS B)).drop (p.toNat + 2) := by
    rw [toInts_app, toInts_app, ints_extract, drop_ext, toInts_ofInts (fun z hz => by
      rcases List.mem_cons.1 hz with q | q
      · rw [q]; exact hx'
      · rw [List.mem_singleton.1 q]; exact hy')]
    simp
  by_cases h : a = 0 ∧ b = 0
  · rw [if_pos h]
    have hs : ((sealS B).extract 0 p.toNat ++ ofInts [bXor .u8 (byteAt (sealS B) p.toNat) a, bXor .u8 (byteAt (sealS B) (p.toNat + 1)) b]) ++ (sealS B).extract (p.toNat + 2) (sealS B).size = sealS B := by
      apply toInts_inj
      rw [hu, (xor8_same hx ha).2 h.1, (xor8_same hy hb).2 h.2]
      exact (two_at (by omega)).symm
    rw [hs, hd]
  · rw [if_neg h]
    have hne : byteAt (sealS B) p.toNat ≠ bXor .u8 (byteAt (sealS B) p.toNat) a ∨ byteAt (sealS B) (p.toNat + 1) ≠ bXor .u8 (byteAt (sealS B) (p.toNat + 1)) b := by
      by_cases h0 : a = 0
      · exact .inr fun q => h ⟨h0, (xor8_same hy hb).1 q.symm⟩
      · exact .inl fun q => h0 ((xor8_same hx ha).1 q.symm)
    have ho := detect hB (by omega) hx' hy' hne hu
    rw [decV_1 hc (by rw [ho]; decide), ho]
theorem two_size (x y : UInt8) : (ByteArray.mk #[x, y]).size = 2 := rfl

abbrev c_detects_ok : Ct := .fn [.int .i64, .bool, .list (.int .i64), .int .i64, .int .u8, .int .u8] (some (fun (t : Int) (null : Bool) (l : List Int) (at0 : Int) (a : Int) (b : Int) => (l.length ≤ 9223372036854775807) ∧ (∀ x, x ∈ l → inI x) ∧ (0 ≤ a ∧ a < 256) ∧ (0 ≤ b ∧ b < 256))) (fun (t : Int) (null : Bool) (l : List Int) (at0 : Int) (a : Int) (b : Int) => .d .bool true)
set_option maxRecDepth 100000 in
set_option maxHeartbeats 4000000 in
theorem detects_ok : CtOk Try.prog 5 c_detects_ok := by
  refine CtOk.fn tb73_ok mixed [] [] rfl rfl ?_
  rintro ⟨(t : Int), (null : Bool), (l : List Int), (at0 : Int), (a : Int), (b : Int), _⟩ hpre
  replace hpre := hpre _ rfl
  dsimp only [cu] at hpre
  obtain ⟨hl, hi, ha, hb⟩ := hpre
  refine ⟨[], ?_⟩
  repeat' (first
    | (
 with_reducible refine Side.mk ?_
 (try dsimp only [cu, joinT, ckTys, gts, loK, hiK, Prod.eta, List.nil_append])
 first
 | (done)
 | (with_reducible rfl)
 | (omega)
 | (exact Eq.refl _)
 | (simp only [List.length_append, List.length_cons, List.length_nil]; omega)
 | (with_reducible assumption)
 | (
  have hkv := kValues_ok (l := l) (colS t null) hi
  exact ⟨Nat.le_trans hkv.2 (by decide), fun v hv => (hkv.1 v hv).2⟩)
 | (
  obtain ⟨B, b1, b2, b3, b4⟩ := enc_made (l := l) t null hi
  have b5 := seal_size B
  have b6 : (encV (colS t null) (kValuesS (colS t null) l)).1.size = B.size + 4 := by rw [b3, b5]
  first
  | (omega)
  | (exact u64_ne (n := ((encV (colS t null) (kValuesS (colS t null) l)).1.size : Int) - 1) (by omega))
  | (
   have hpk := pick_lt (v := at0) (n := ((encV (colS t null) (kValuesS (colS t null) l)).1.size : Int) - 1) (by omega)
   first
   | (omega)
   | (
    (try simp only [ByteArray.size_append, ByteArray.size_extract, two_size])
    omega))))
    | (conv => whnf
       first
        | done
        | exact trivial
        | with_reducible refine NilBr.mk (fun h => ?_) ?_
        | with_reducible first | refine w_andS ?_ ?_ | refine w_andL ?_ ?_ | refine w_kern (by kernel_rfl) ?_ | refine w_true ?_ | refine w_nd ?_ ?_ | refine w_in ?_ ?_ | refine w_and ?_ ?_
        | ((with_reducible first | refine w_brN (fun h => ?_) (fun h => ?_) | refine w_brD (fun h => ?_) (fun h => ?_) | refine w_br (fun h => ?_) (fun h => ?_)) <;> (try dsimp only [cu, Prod.eta, List.nil_append] at h) <;> (try (exfalso; omega; done)))))
  all_goals (
 with_reducible refine Leaf.mk ?_
 (try dsimp only [cu, joinT, ckTys, gts, Prod.eta, List.nil_append] at *)
 first
 | (done)
 | (with_reducible rfl)
 | (
  obtain ⟨B, b1, b2, b3, b4⟩ := enc_made (l := l) t null hi
  have b5 := seal_size B
  have b6 : (encV (colS t null) (kValuesS (colS t null) l)).1.size = B.size + 4 := by rw [b3, b5]
  have hpk := pick_lt (v := at0) (n := ((encV (colS t null) (kValuesS (colS t null) l)).1.size : Int) - 1) (by omega)
  have hct := colS_type t null
  have hkn : vKnown (colS t null).2.1 = true := by simp [vKnown, hct]
  have hdd : (decV (colS t null) (((encV (colS t null) (kValuesS (colS t null) l)).1.extract 0 (pick at0 (((encV (colS t null) (kValuesS (colS t null) l)).1.size : Int) - 1)).toNat ++ ByteArray.mk #[UInt8.ofNat (bXor .u8 (byteAt (encV (colS t null) (kValuesS (colS t null) l)).1 (pick at0 (((encV (colS t null) (kValuesS (colS t null) l)).1.size : Int) - 1)).toNat) a).toNat, UInt8.ofNat (bXor .u8 (byteAt (encV (colS t null) (kValuesS (colS t null) l)).1 (pick at0 (((encV (colS t null) (kValuesS (colS t null) l)).1.size : Int) - 1) + 1).toNat) b).toNat]) ++ (encV (colS t null) (kValuesS (colS t null) l)).1.extract (pick at0 (((encV (colS t null) (kValuesS (colS t null) l)).1.size : Int) - 1) + 2).toNat (encV (colS t null) (kValuesS (colS t null) l)).1.size)).2 = if a = 0 ∧ b = 0 then 0 else 9 := by
    rw [b3] at hpk ⊢
    exact det_dec hkn b1 b4 ⟨hpk.1, by omega⟩ ha hb
  by_cases a0 : a = 0
  · by_cases b0 : b = 0
    · rw [if_pos ⟨a0, b0⟩] at hdd
      first | (simp_all; done) | (exfalso; simp_all; done)
    · rw [if_neg (fun q => b0 q.2)] at hdd
      first | (simp_all; done) | (exfalso; simp_all; done)
  · rw [if_neg (fun q => a0 q.1)] at hdd
    first | (simp_all; done) | (exfalso; simp_all; done)))
abbrev tb74 : Tbl := (5, c_detects_ok) :: tb73
theorem tb74_ok : TblOk Try.prog tb74 := TblOk.cons detects_ok tb73_ok

end Go.Proofs.Ytlamfjhhjfgemaa
