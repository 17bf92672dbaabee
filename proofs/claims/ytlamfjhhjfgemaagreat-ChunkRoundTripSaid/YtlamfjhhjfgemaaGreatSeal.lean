/- Contracts of checksums at the end; encoding of differences. -/
import Derived.Test.YtlamfjhhjfgemaaGreatOffs
namespace Go.Proofs.YtlamfjhhjfgemaaGreat
open Go.Abs
set_option linter.unusedVariables false
set_option linter.unusedSimpArgs false

def four (v : Int) : List Int := [IntKind.u8.wrap v, IntKind.u8.wrap (shrI .u32 v 8), IntKind.u8.wrap (shrI .u32 v 16), IntKind.u8.wrap (shrI .u32 v 24)]
def sealS (s : ByteArray) : ByteArray := s ++ ofInts (four (crcS s))
theorem put_size (v : Int) : (ofInts (put v)).size ≤ 10 ∧ 1 ≤ (ofInts (put v)).size := by rw [ofInts_len]; exact put_len v
theorem four_size (v : Int) : (ofInts (four v)).size = 4 := rfl

theorem seal_size (b : ByteArray) : (sealS b).size = b.size + 4 := by unfold sealS; rw [ByteArray.size_append, four_size]
theorem seal_body (b : ByteArray) : (sealS b).extract 0 (((sealS b).size : Int) - 4).toNat = b := by
  apply toInts_inj
  have e : ∀ (x : ByteArray) (n : Nat), toInts (x.extract 0 n) = (toInts x).take n := fun x n => by unfold toInts; simp [List.map_take]
  have hz : (sealS b).size = b.size + 4 := by unfold sealS; rw [ByteArray.size_append, four_size]
  rw [e, hz, show (((b.size + 4 : Nat) : Int) - 4).toNat = b.size by omega]
  unfold sealS
  rw [toInts_app, List.take_append_of_le_length (by rw [toInts_len]; omega), List.take_of_length_le (by rw [toInts_len]; omega)]
def bodyS (s : ByteArray) : ByteArray := (s.extract 0 ((s.size : Int) - 4).toNat)
def openE (s : ByteArray) : Int := if s.size ≤ 4 then 10 else if sealS (bodyS s) ≠ s then 9 else 0
def codecS (s : ByteArray) : Int × Int := if openE s ≠ 0 then (0, openE s) else if byteAt s 0 < 1 ∨ byteAt s 0 > 4 then (0, 2) else (byteAt s 0, 0)
theorem body_size {s : ByteArray} (h : 4 ≤ s.size) : ((bodyS s).size : Int) = (s.size : Int) - 4 := by
  unfold bodyS; rw [ByteArray.size_extract]; omega
theorem body_le (s : ByteArray) : (bodyS s).size ≤ s.size := by unfold bodyS; rw [ByteArray.size_extract]; omega
theorem open_0 {s : ByteArray} (h : s.size ≤ 4) : openE s = 10 := by rw [openE, if_pos h]
theorem open_1 {s : ByteArray} (h : ¬ s.size ≤ 4) (h1 : ¬ sealS (bodyS s) = s) : openE s = 9 := by rw [openE, if_neg h, if_pos h1]
theorem open_2 {s : ByteArray} (h : ¬ s.size ≤ 4) (h1 : sealS (bodyS s) = s) : openE s = 0 := by rw [openE, if_neg h, if_neg (fun q => q h1)]
theorem open_ok {s : ByteArray} (h : openE s = 0) : ¬ s.size ≤ 4 ∧ sealS (bodyS s) = s := by
  unfold openE at h
  split at h
  · cases h
  · rename_i q
    split at h
    · cases h
    · rename_i q1; exact ⟨q, Decidable.not_not.1 q1⟩
theorem body_at {s : ByteArray} {k : Nat} (h : (k : Int) < (s.size : Int) - 4) : byteAt (bodyS s) k = byteAt s k := by
  have e : ∀ (x : ByteArray) (n : Nat), toInts (x.extract 0 n) = (toInts x).take n := fun x n => by unfold toInts; simp [List.map_take]
  rw [← toInts_get, ← toInts_get]
  unfold bodyS
  rw [e, List.getElem!_eq_getElem?_getD, List.getElem!_eq_getElem?_getD, List.getElem?_take, if_pos (by omega)]
theorem cod_0 {s : ByteArray} (h : ¬ openE s = 0) : codecS s = (0, openE s) := by rw [codecS, if_pos h]
theorem cod_1 {s : ByteArray} (h : openE s = 0) (h1 : byteAt s 0 < 1 ∨ byteAt s 0 > 4) : codecS s = (0, 2) := by rw [codecS, if_neg (fun q => q h), if_pos h1]
theorem cod_2 {s : ByteArray} (h : openE s = 0) (h1 : ¬ (byteAt s 0 < 1 ∨ byteAt s 0 > 4)) : codecS s = (byteAt s 0, 0) := by rw [codecS, if_neg (fun q => q h), if_neg h1]

abbrev c_seal_ok : Ct := .fn [.str] (some (fun (s : ByteArray) => (s.size ≤ 4611686018427387904))) (fun (s : ByteArray) => .d .str (sealS s))
set_option maxRecDepth 100000 in
set_option maxHeartbeats 4000000 in
theorem seal_ok : CtOk Tryz.prog 20 c_seal_ok := by
  refine CtOk.fn tb52_ok mixed [] [] rfl rfl ?_
  rintro ⟨(s : ByteArray), _⟩ hpre
  replace hpre := hpre _ rfl
  dsimp only [cu] at hpre
  have hs := hpre
  refine ⟨[], ?_⟩
  repeat' (first
    | (
 with_reducible refine Side.mk ?_
 (try dsimp only [cu, joinT, ckTys, gts, loK, hiK, Prod.eta, List.nil_append])
 first
 | (done)
 | (with_reducible rfl)
 | (omega)
 | (exact Eq.refl _)
 | (simp only [List.length_append, List.length_cons, List.length_nil]; omega)
 | (rw [four_size]; omega)
 | (exact crcTab_len)
 | (simp only [ofInts_len, List.length_cons, List.length_nil]; omega))
    | (conv => whnf
       first
        | done
        | exact trivial
        | with_reducible refine NilBr.mk (fun h => ?_) ?_
        | with_reducible first | refine w_andS ?_ ?_ | refine w_andL ?_ ?_ | refine w_kern (by kernel_rfl) ?_ | refine w_true ?_ | refine w_nd ?_ ?_ | refine w_in ?_ ?_ | refine w_and ?_ ?_
        | ((with_reducible first | refine w_brN (fun h => ?_) (fun h => ?_) | refine w_brD (fun h => ?_) (fun h => ?_) | refine w_br (fun h => ?_) (fun h => ?_)) <;> (try dsimp only [cu, Prod.eta, List.nil_append] at h) <;> (try (exfalso; omega; done)))))
  all_goals (
 with_reducible refine Leaf.mk ?_
 (try dsimp only [cu, joinT, ckTys, gts, Prod.eta, List.nil_append] at *)
 first
 | (done)
 | (rfl))
abbrev tb53 : Tbl := (20, c_seal_ok) :: tb52
theorem tb53_ok : TblOk Tryz.prog tb53 := TblOk.cons seal_ok tb52_ok

abbrev c_four_ok : Ct := .fn [.int .u32] (none) (fun (v : Int) => .d .str (ofInts (four v)))
set_option maxRecDepth 100000 in
set_option maxHeartbeats 4000000 in
theorem four_ok : CtOk Tryz.prog 44 c_four_ok := by
  refine CtOk.fn tb53_ok mixed [] [] rfl rfl ?_
  rintro ⟨(v : Int), _⟩ -
  refine ⟨[], ?_⟩
  repeat' (first
    | (
 with_reducible refine Side.mk ?_
 (try dsimp only [cu, joinT, ckTys, gts, loK, hiK, Prod.eta, List.nil_append])
 first
 | (done)
 | (with_reducible rfl)
 | (omega)
 | (exact Eq.refl _)
 | (simp only [List.length_append, List.length_cons, List.length_nil]; omega))
    | (conv => whnf
       first
        | done
        | exact trivial
        | with_reducible refine NilBr.mk (fun h => ?_) ?_
        | with_reducible first | refine w_andS ?_ ?_ | refine w_andL ?_ ?_ | refine w_kern (by kernel_rfl) ?_ | refine w_true ?_ | refine w_nd ?_ ?_ | refine w_in ?_ ?_ | refine w_and ?_ ?_
        | ((with_reducible first | refine w_brN (fun h => ?_) (fun h => ?_) | refine w_brD (fun h => ?_) (fun h => ?_) | refine w_br (fun h => ?_) (fun h => ?_)) <;> (try dsimp only [cu, Prod.eta, List.nil_append] at h) <;> (try (exfalso; omega; done)))))
  all_goals (
 with_reducible refine Leaf.mk ?_
 (try dsimp only [cu, joinT, ckTys, gts, Prod.eta, List.nil_append] at *)
 first
 | (done)
 | (rfl))
abbrev tb54 : Tbl := (44, c_four_ok) :: tb53
theorem tb54_ok : TblOk Tryz.prog tb54 := TblOk.cons four_ok tb53_ok

abbrev c_open_ok' : Ct := .fn [.str] (some (fun (s : ByteArray) => (s.size ≤ 4611686018427387904))) (fun (s : ByteArray) => .tup [.str, .int .i64] (if openE s = 0 then bodyS s else EMP, openE s, ()))
set_option maxRecDepth 100000 in
set_option maxHeartbeats 4000000 in
theorem open_ok' : CtOk Tryz.prog 21 c_open_ok' := by
  refine CtOk.fn tb54_ok mixed [] [] rfl rfl ?_
  rintro ⟨(s : ByteArray), _⟩ hpre
  replace hpre := hpre _ rfl
  dsimp only [cu] at hpre
  have hs := hpre
  refine ⟨[], ?_⟩
  repeat' (first
    | (
 with_reducible refine Side.mk ?_
 (try dsimp only [cu, joinT, ckTys, gts, loK, hiK, Prod.eta, List.nil_append])
 first
 | (done)
 | (with_reducible rfl)
 | (omega)
 | (exact Eq.refl _)
 | (simp only [List.length_append, List.length_cons, List.length_nil]; omega)
 | (
  have hbl := body_le s
  exact Nat.le_trans hbl hs))
    | (conv => whnf
       first
        | done
        | exact trivial
        | with_reducible refine NilBr.mk (fun h => ?_) ?_
        | with_reducible first | refine w_andS ?_ ?_ | refine w_andL ?_ ?_ | refine w_kern (by kernel_rfl) ?_ | refine w_true ?_ | refine w_nd ?_ ?_ | refine w_in ?_ ?_ | refine w_and ?_ ?_
        | ((with_reducible first | refine w_brN (fun h => ?_) (fun h => ?_) | refine w_brD (fun h => ?_) (fun h => ?_) | refine w_br (fun h => ?_) (fun h => ?_)) <;> (try dsimp only [cu, Prod.eta, List.nil_append] at h) <;> (try (exfalso; omega; done)))))
  all_goals (
 with_reducible refine Leaf.mk ?_
 (try dsimp only [cu, joinT, ckTys, gts, Prod.eta, List.nil_append] at *)
 first
 | (done)
 | (
  have hb : bodyS s = (s.extract 0 ((s.size : Int) - 4).toNat) := rfl
  first
  | (
   have h := open_0 (s := s) (by omega)
   rw [h]
   (try rfl))
  | (
   have h := open_1 (s := s) (by omega) (by rw [hb]; with_reducible assumption)
   rw [h]
   (try rfl))
  | (
   have h1 : sealS (s.extract 0 ((s.size : Int) - 4).toNat) = s := by first | with_reducible assumption | (refine Decidable.not_not.1 ?_; with_reducible assumption)
   have h := open_2 (s := s) (by omega) (by rw [hb]; exact h1)
   rw [h]
   (try rfl))))
abbrev tb55 : Tbl := (21, c_open_ok') :: tb54
theorem tb55_ok : TblOk Tryz.prog tb55 := TblOk.cons open_ok' tb54_ok

abbrev c_codec_ok : Ct := .fn [.str] (some (fun (s : ByteArray) => (s.size ≤ 4611686018427387904))) (fun (s : ByteArray) => .tup [.int .i64, .int .i64] ((codecS s).1, (codecS s).2, ()))
set_option maxRecDepth 100000 in
set_option maxHeartbeats 4000000 in
theorem codec_ok : CtOk Tryz.prog 23 c_codec_ok := by
  refine CtOk.fn tb55_ok mixed [] [] rfl rfl ?_
  rintro ⟨(s : ByteArray), _⟩ hpre
  replace hpre := hpre _ rfl
  dsimp only [cu] at hpre
  have hs := hpre
  refine ⟨[], ?_⟩
  repeat' (first
    | (
 with_reducible refine Side.mk ?_
 (try dsimp only [cu, joinT, ckTys, gts, loK, hiK, Prod.eta, List.nil_append])
 first
 | (done)
 | (with_reducible rfl)
 | (omega)
 | (exact Eq.refl _)
 | (simp only [List.length_append, List.length_cons, List.length_nil]; omega)
 | (
  have ho : openE s = 0 := by with_reducible assumption
  have hz := open_ok ho
  have hbz := body_size (s := s) (by omega)
  have ei : (if openE s = 0 then bodyS s else EMP) = bodyS s := if_pos ho
  have eb : byteAt (if openE s = 0 then bodyS s else EMP) (Int.toNat 0) = byteAt s 0 := by rw [ei, show (Int.toNat 0) = 0 from rfl, body_at (by omega)]
  first
  | (rw [ei]; omega)
  | (
   have hr := byteAt_rng s 0
   have e00 : byteAt s (Int.toNat 0) = byteAt s 0 := rfl
   first
   | (omega)
   | (rw [eb]; omega))))
    | (conv => whnf
       first
        | done
        | exact trivial
        | with_reducible refine NilBr.mk (fun h => ?_) ?_
        | with_reducible first | refine w_andS ?_ ?_ | refine w_andL ?_ ?_ | refine w_kern (by kernel_rfl) ?_ | refine w_true ?_ | refine w_nd ?_ ?_ | refine w_in ?_ ?_ | refine w_and ?_ ?_
        | ((with_reducible first | refine w_brN (fun h => ?_) (fun h => ?_) | refine w_brD (fun h => ?_) (fun h => ?_) | refine w_br (fun h => ?_) (fun h => ?_)) <;> (try dsimp only [cu, Prod.eta, List.nil_append] at h) <;> (try (exfalso; omega; done)))))
  all_goals (
 with_reducible refine Leaf.mk ?_
 (try dsimp only [cu, joinT, ckTys, gts, Prod.eta, List.nil_append] at *)
 first
 | (done)
 | (
  have ho : ¬ openE s = 0 := by with_reducible assumption
  rw [cod_0 ho])
 | (
  have ho : openE s = 0 := by with_reducible assumption
  have hz := open_ok ho
  have hbz := body_size (s := s) (by omega)
  have ei : (if openE s = 0 then bodyS s else EMP) = bodyS s := if_pos ho
  have eb : byteAt (if openE s = 0 then bodyS s else EMP) (Int.toNat 0) = byteAt s 0 := by rw [ei, show (Int.toNat 0) = 0 from rfl, body_at (by omega)]
  have hr := byteAt_rng s 0
  have e00 : byteAt s (Int.toNat 0) = byteAt s 0 := rfl
  first
  | (
   have hc : byteAt s 0 < 1 ∨ byteAt s 0 > 4 := by omega
   rw [cod_1 ho hc])
  | (
   have hc : ¬ (byteAt s 0 < 1 ∨ byteAt s 0 > 4) := by omega
   rw [cod_2 ho hc]
   first | done | exact eb | rfl)))
abbrev tb56 : Tbl := (23, c_codec_ok) :: tb55
theorem tb56_ok : TblOk Tryz.prog tb56 := TblOk.cons codec_ok tb55_ok


/- Encoding of differences. -/
def dfs (l : List Int) : List Int := (List.range (l.length - 1)).map fun j => IntKind.i64.wrap (l[j + 1]! - l[j]!)
theorem dfs_len (l : List Int) : (dfs l).length = l.length - 1 := by simp [dfs]
theorem dfs_get {l : List Int} {j : Nat} (h : j + 1 < l.length) : (dfs l)[j]! = IntKind.i64.wrap (l[j + 1]! - l[j]!) := by
  rw [getElem!_pos _ _ (by rw [dfs_len]; omega)]; simp [dfs]
def usL (m : Int) (D : List Int) : List Int := D.map fun d => IntKind.u64.wrap (IntKind.i64.wrap (d - m))
def blkE (D : List Int) : ByteArray := (ofInts (put (zigS (mnL D))) ++ ofInts [IntKind.u8.wrap (mwL (usL (mnL D) D))]) ++ (packR (usL (mnL D) D) (mwL (usL (mnL D) D))).1
def encBs (D : List Int) : ByteArray := if h : D.length = 0 then ByteArray.empty else blkE (D.take 32) ++ encBs (D.drop 32)
termination_by D.length
decreasing_by simp; omega
def encDelta (l : List Int) : ByteArray := if l.length = 0 ∨ l.length > 4096 then ⟨#[]⟩ else ofInts (put (zigS l[0]!)) ++ encBs (dfs l)
/-- The differences of the block from i on. -/
def blkOf (l : List Int) (i : Int) : List Int := ((dfs l).drop (i - 1).toNat).take 32
theorem blkOf_len {l : List Int} {i : Int} (h : 1 ≤ i ∧ i < l.length) : ((blkOf l i).length : Int) = minI (i + 32) l.length - i := by
  unfold blkOf minI
  rw [List.length_take, List.length_drop, dfs_len]
  split <;> omega
theorem blkOf_get {l : List Int} {i k : Int} (h : 1 ≤ i ∧ i ≤ k ∧ k < minI (i + 32) l.length) : (blkOf l i)[(k - i).toNat]! = IntKind.i64.wrap (l[k.toNat]! - l[(k - 1).toNat]!) := by
  have h2 : k < l.length ∧ k < i + 32 := by unfold minI at h; split at h <;> omega
  have e := dfs_get (l := l) (j := (k - 1).toNat) (by omega)
  rw [show (k - 1).toNat + 1 = k.toNat by omega] at e
  rw [← e]
  unfold blkOf
  rw [List.getElem!_eq_getElem?_getD, List.getElem?_take, if_pos (by omega), List.getElem?_drop, show (i - 1).toNat + (k - i).toNat = (k - 1).toNat by omega, List.getElem!_eq_getElem?_getD]
theorem encBs_step {l : List Int} {i : Int} (h : 1 ≤ i ∧ i < l.length) : encBs ((dfs l).drop (i - 1).toNat) = blkE (blkOf l i) ++ encBs ((dfs l).drop (i + 32 - 1).toNat) := by
  rw [encBs, dif_neg (by rw [List.length_drop, dfs_len]; omega), List.drop_drop, show (i - 1).toNat + 32 = (i + 32 - 1).toNat by omega]
  rfl
theorem encBs_end {l : List Int} {i : Int} (h : ¬ i < l.length) : encBs ((dfs l).drop (i - 1).toNat) = ByteArray.empty := by
  rw [encBs, dif_pos (by rw [List.length_drop, dfs_len]; omega)]
theorem fold_mn {D : List Int} (h : 1 ≤ D.length) : D.foldl minI D[0]! = mnL D := by
  cases D with
  | nil => simp at h
  | cons x r =>
    show List.foldl minI (minI x x) r = List.foldl minI x r
    have e : minI x x = x := by unfold minI; split <;> rfl
    rw [e]
theorem fold_step2 {D : List Int} {x j : Int} {f : Int → Int → Int} (h : 0 ≤ j ∧ j < D.length) : (D.take (j + 1).toNat).foldl f x = f ((D.take j.toNat).foldl f x) D[j.toNat]! := by
  rw [take_get h]; simp
theorem usL_step {D : List Int} {m j : Int} (h : 0 ≤ j ∧ j < D.length) : usL m (D.take (j + 1).toNat) = usL m (D.take j.toNat) ++ [IntKind.u64.wrap (IntKind.i64.wrap (D[j.toNat]! - m))] := by
  unfold usL; rw [take_get h]; simp
theorem usL_u64 (m : Int) (D : List Int) (i : Nat) : 0 ≤ (usL m D)[i]! ∧ (usL m D)[i]! < 18446744073709551616 := by
  by_cases h : i < (usL m D).length
  · rw [getElem!_pos (usL m D) i h]
    simp only [usL, List.getElem_map]
    exact u64_wrap _
  · rw [getElem!_neg (usL m D) i h]; exact ⟨by decide, by decide⟩
theorem mwL_app (U : List Int) (v : Int) : mwL (U ++ [v]) = maxI (mwL U) (lenI v) := by simp [mwL]
theorem mwL_rng : ∀ (U : List Int), (∀ v, v ∈ U → v < 18446744073709551616) → 0 ≤ mwL U ∧ mwL U ≤ 64 := by
  have H : ∀ (U : List Int) (w : Int), 0 ≤ w ∧ w ≤ 64 → (∀ v, v ∈ U → v < 18446744073709551616) → 0 ≤ U.foldl (fun w v => maxI w (lenI v)) w ∧ U.foldl (fun w v => maxI w (lenI v)) w ≤ 64 := by
    intro U
    induction U with
    | nil => intro w hw _; exact hw
    | cons v U ih =>
      intro w hw h
      rw [List.foldl_cons]
      have := lenI_le (h v (by simp))
      refine ih _ ?_ (fun x hx => h x (by simp [hx]))
      unfold maxI; split <;> omega
  exact fun U h => H U 0 (by decide) h
theorem mwL_us (m : Int) (D : List Int) : 0 ≤ mwL (usL m D) ∧ mwL (usL m D) ≤ 64 := mwL_rng _ fun v hv => by
  unfold usL at hv
  obtain ⟨d, _, rfl⟩ := List.mem_map.1 hv
  exact (u64_wrap _).2
theorem blkE_size (D : List Int) : (blkE D).size ≤ 32779 := by
  unfold blkE
  have h1 := put_size (zigS (mnL D))
  have h2 := packR_size (usL (mnL D) D) (mwL (usL (mnL D) D))
  rw [ByteArray.size_append, ByteArray.size_append, ofInts_len [_]]
  simp only [List.length_cons, List.length_nil]
  omega
theorem encBs_size : ∀ (n : Nat) (D : List Int), D.length ≤ n → (encBs D).size ≤ 32779 * n
  | n, D, h => by
    rw [encBs]
    split
    · exact Nat.zero_le _
    · have := blkE_size (D.take 32)
      rw [ByteArray.size_append]
      obtain ⟨m, rfl⟩ : ∃ m, n = m + 1 := ⟨n - 1, by omega⟩
      have := encBs_size m (D.drop 32) (by simp; omega)
      omega
theorem encDelta_size (l : List Int) : (encDelta l).size ≤ 134262794 := by
  unfold encDelta
  split
  · exact Nat.zero_le _
  · have h1 := put_size (zigS l[0]!)
    have h2 := encBs_size 4096 (dfs l) (by rw [dfs_len]; omega)
    rw [ByteArray.size_append]; omega
theorem one_size (u : UInt8) : (ByteArray.mk #[u]).size = 1 := rfl
theorem wrap_in (x : Int) : inI (IntKind.i64.wrap x) := by unfold inI; simp [IntKind.wrap, IntKind.bits, IntKind.signed]; omega
theorem mn_in {l : List Int} {i : Int} (h : 1 ≤ i ∧ i < l.length) : inI (mnL (blkOf l i)) := by
  have hl := blkOf_len h
  have hm : minI (i + 32) l.length - i ≥ 1 := by unfold minI; split <;> omega
  have := mnL_mem (l := blkOf l i) (fun e => by rw [e] at hl; simp at hl; omega)
  unfold blkOf at this
  have := List.mem_of_mem_drop (List.mem_of_mem_take this)
  unfold dfs at this
  obtain ⟨j, _, e⟩ := List.mem_map.1 this
  show inI (mnL (List.take 32 (List.drop (i - 1).toNat (dfs l))))
  unfold dfs
  rw [← e]; exact wrap_in _

abbrev c_rencD_ok : Ct := .fn [.list (.int .i64)] (some (fun (l : List Int) => (l.length ≤ 1073741824) ∧ (∀ x, x ∈ l → inI x))) (fun (l : List Int) => .d .str (encDelta l))
set_option maxRecDepth 100000 in
set_option maxHeartbeats 4000000 in
theorem rencD_ok : CtOk Tryz.prog 65 c_rencD_ok := by
  refine CtOk.fn tb56_ok mixed [(0, 8, 9), (0, 12, 10), (0, 18, 9), (0, 18, 11)] [] rfl rfl ?_
  rintro ⟨(l : List Int), _⟩ hpre
  replace hpre := hpre _ rfl
  dsimp only [cu] at hpre
  obtain ⟨hl, hv⟩ := hpre
  refine ⟨[(0, 10, LA.mk [.sl 4 (.int .i64), .sl 3 .str] (fun y => Tag 43 ∧ cu [.int .i64, .str] (fun (i : Int) (x : ByteArray) => (1 ≤ i ∧ i ≤ l.length + 31) ∧ (encDelta l = x ++ encBs ((dfs l).drop (i - 1).toNat)) ∧ ((x.size : Int) ≤ 10 + 32779 * i)) y) (cu [.int .i64, .str] (fun (i : Int) (x : ByteArray) => ((l.length : Int) + 32 - i).toNat)) (cu [.int .i64, .str] (fun (i : Int) (x : ByteArray) => ([(0, 20, LA.mk [.sl 7 (.int .i64), .sl 6 (.int .i64)] (fun y => Tag 44 ∧ cu [.int .i64, .int .i64] (fun (k : Int) (m : Int) => (i ≤ k ∧ k ≤ minI (i + 32) l.length) ∧ (m = ((blkOf l i).take (k - i).toNat).foldl minI (blkOf l i)[0]!)) y) (cu [.int .i64, .int .i64] (fun (k : Int) (m : Int) => (minI (i + 32) l.length - k).toNat)) (cu [.int .i64, .int .i64] (fun (k : Int) (m : Int) => ([] : List (Nat × Nat × LA))))), (0, 32, LA.mk [.sl 10 (.int .i64), .lst 8 (.int .u64) 49, .sl 9 (.int .i64)] (fun y => Tag 45 ∧ cu [.int .i64, .list (.int .u64), .int .i64] (fun (j : Int) (u : List Int) (w : Int) => (i ≤ j ∧ j ≤ minI (i + 32) l.length) ∧ (u = usL (mnL (blkOf l i)) ((blkOf l i).take (j - i).toNat)) ∧ (w = mwL u)) y) (cu [.int .i64, .list (.int .u64), .int .i64] (fun (j : Int) (u : List Int) (w : Int) => (minI (i + 32) l.length - j).toNat)) (cu [.int .i64, .list (.int .u64), .int .i64] (fun (j : Int) (u : List Int) (w : Int) => ([] : List (Nat × Nat × LA)))))] : List (Nat × Nat × LA)))))], ?_⟩
  repeat' (first
    | (
 with_reducible refine Side.mk ⟨(⟨⟩ : Tag 43), ?_⟩
 dsimp only [cu, joinT, ckTys, gts, Prod.eta, List.nil_append]
 refine ⟨?_, ?_, ?_⟩
 · first
   | (
  have hmi : i < minI (i + 32) l.length ∧ minI (i + 32) l.length ≤ l.length ∧ minI (i + 32) l.length ≤ i + 32 := by unfold minI; split <;> omega
  omega)
   | (omega)
 · first
   | (
  rw [encDelta, if_neg (by omega)]
  rfl)
   | (
  have hmi : i < minI (i + 32) l.length ∧ minI (i + 32) l.length ≤ l.length ∧ minI (i + 32) l.length ≤ i + 32 := by unfold minI; split <;> omega
  have hbl := blkOf_len (l := l) (i := i) (by omega)
  have hmm : m = mnL (blkOf l i) := by rw [hm, List.take_of_length_le (by omega), fold_mn (by omega)]
  have huu : u = usL (mnL (blkOf l i)) (blkOf l i) := by rw [hu, List.take_of_length_le (by omega)]
  rw [hx, encBs_step (by omega), ← ByteArray.append_assoc]
  unfold blkE
  rw [← huu, ← hmm, ← hw]
  rfl)
 · first
   | (
  have h1 := put_size (zigS l[(0 : Int).toNat]!)
  omega)
   | (
  have hmi : i < minI (i + 32) l.length ∧ minI (i + 32) l.length ≤ l.length ∧ minI (i + 32) l.length ≤ i + 32 := by unfold minI; split <;> omega
  have hbl := blkOf_len (l := l) (i := i) (by omega)
  have hmm : m = mnL (blkOf l i) := by rw [hm, List.take_of_length_le (by omega), fold_mn (by omega)]
  have huu : u = usL (mnL (blkOf l i)) (blkOf l i) := by rw [hu, List.take_of_length_le (by omega)]
  have h1 := put_size (zigS m)
  have h2 := packR_size u w
  simp only [ByteArray.size_append, one_size, ofInts_len [_], List.length_cons, List.length_nil]
  omega))
    | (
 with_reducible refine Side.mk ⟨(⟨⟩ : Tag 44), ?_⟩
 dsimp only [cu, joinT, ckTys, gts, Prod.eta, List.nil_append]
 refine ⟨?_, ?_⟩
 · first
   | (
  have hmi : i < minI (i + 32) l.length ∧ minI (i + 32) l.length ≤ l.length ∧ minI (i + 32) l.length ≤ i + 32 := by unfold minI; split <;> omega
  omega)
 · first
   | (
  have hmi : i < minI (i + 32) l.length ∧ minI (i + 32) l.length ≤ l.length ∧ minI (i + 32) l.length ≤ i + 32 := by unfold minI; split <;> omega
  have hbl := blkOf_len (l := l) (i := i) (by omega)
  first
  | (
   have hbg := blkOf_get (l := l) (i := i) (k := i) (by omega)
   rw [show (i - i).toNat = 0 by omega] at hbg ⊢
   rw [hbg]
   (try rfl))
  | (
   have hbg := blkOf_get (l := l) (i := i) (k := k) (by omega)
   rw [show k + 1 - i = (k - i) + 1 by omega, fold_step2 (by omega), ← hm, hbg])))
    | (
 with_reducible refine Side.mk ⟨(⟨⟩ : Tag 45), ?_⟩
 dsimp only [cu, joinT, ckTys, gts, Prod.eta, List.nil_append]
 refine ⟨?_, ?_, ?_⟩
 · first
   | (
  have hmi : i < minI (i + 32) l.length ∧ minI (i + 32) l.length ≤ l.length ∧ minI (i + 32) l.length ≤ i + 32 := by unfold minI; split <;> omega
  omega)
 · first
   | (rw [show (i - i).toNat = 0 by omega]; rfl)
   | (
  have hmi : i < minI (i + 32) l.length ∧ minI (i + 32) l.length ≤ l.length ∧ minI (i + 32) l.length ≤ i + 32 := by unfold minI; split <;> omega
  have hbl := blkOf_len (l := l) (i := i) (by omega)
  have hmm : m = mnL (blkOf l i) := by rw [hm, List.take_of_length_le (by omega), fold_mn (by omega)]
  have hbg := blkOf_get (l := l) (i := i) (k := j) (by omega)
  rw [show j + 1 - i = (j - i) + 1 by omega, usL_step (by omega), ← hu, hbg, hmm])
 · first
   | (rfl)
   | (rw [mwL_app, hw]))
    | (
 with_reducible refine Side.mk ?_
 (try dsimp only [cu, joinT, ckTys, gts, loK, hiK, Prod.eta, List.nil_append])
 first
 | (done)
 | (with_reducible rfl)
 | (omega)
 | (exact Eq.refl _)
 | (simp only [List.length_append, List.length_cons, List.length_nil]; omega)
 | (
  have hmi : i < minI (i + 32) l.length ∧ minI (i + 32) l.length ≤ l.length ∧ minI (i + 32) l.length ≤ i + 32 := by unfold minI; split <;> omega
  omega)
 | (exact zig_rng (inI_at hv _))
 | (exact inI_at hv _)
 | (exact u64_wrap _)
 | (
  have hmi : i < minI (i + 32) l.length ∧ minI (i + 32) l.length ≤ l.length ∧ minI (i + 32) l.length ≤ i + 32 := by unfold minI; split <;> omega
  have hbl := blkOf_len (l := l) (i := i) (by omega)
  first
  | (
   have hul := congrArg List.length hu
   simp only [usL, List.length_map, List.length_take] at hul
   first
   | (omega)
   | (
    (try simp only [List.length_cons, List.length_nil])
    omega))
  | (
   have hmm : m = mnL (blkOf l i) := by rw [hm, List.take_of_length_le (by omega), fold_mn (by omega)]
   rw [hmm]
   first
   | (exact mn_in (by omega))
   | (exact zig_rng (mn_in (by omega))))
  | (
   have hul := congrArg List.length hu
   simp only [usL, List.length_map, List.length_take] at hul
   have hmi : i < minI (i + 32) l.length ∧ minI (i + 32) l.length ≤ l.length ∧ minI (i + 32) l.length ≤ i + 32 := by unfold minI; split <;> omega
   have hbl := blkOf_len (l := l) (i := i) (by omega)
   have hmm : m = mnL (blkOf l i) := by rw [hm, List.take_of_length_le (by omega), fold_mn (by omega)]
   have huu : u = usL (mnL (blkOf l i)) (blkOf l i) := by rw [hu, List.take_of_length_le (by omega)]
   refine ⟨fun q => ?_, by omega⟩
   rw [huu]
   exact usL_u64 _ _ q)
  | (
   have hmm : m = mnL (blkOf l i) := by rw [hm, List.take_of_length_le (by omega), fold_mn (by omega)]
   have huu : u = usL (mnL (blkOf l i)) (blkOf l i) := by rw [hu, List.take_of_length_le (by omega)]
   have h1 := put_size (zigS m)
   have h2 := packR_size u w
   simp only [ByteArray.size_append, one_size, ofInts_len [_], List.length_cons, List.length_nil]
   omega)))
    | (conv => whnf
       first
        | done
        | exact trivial
        | with_reducible refine NilBr.mk (fun h => ?_) ?_
        | with_reducible first | refine w_andS ?_ ?_ | refine w_andL ?_ ?_ | refine w_kern (by kernel_rfl) ?_ | refine w_true ?_ | refine w_nd ?_ ?_ | refine w_in ?_ ?_ | refine w_and ?_ ?_
        | ((with_reducible first | refine w_brN (fun h => ?_) (fun h => ?_) | refine w_brD (fun h => ?_) (fun h => ?_) | refine w_br (fun h => ?_) (fun h => ?_)) <;> (try dsimp only [cu, Prod.eta, List.nil_append] at h) <;> (try (exfalso; omega; done)))
        | (
 intro yy (hy : Tag 43 ∧ _)
 obtain ⟨(i : Int), (x : ByteArray), _⟩ := yy
 replace hy := hy.2
 dsimp only [cu, joinT, ckTys, gts, Prod.eta, List.nil_append] at hy
 obtain ⟨hi, hx, hz⟩ := hy)
        | (
 intro yy (hy : Tag 44 ∧ _)
 obtain ⟨(k : Int), (m : Int), _⟩ := yy
 replace hy := hy.2
 dsimp only [cu, joinT, ckTys, gts, Prod.eta, List.nil_append] at hy
 obtain ⟨hk, hm⟩ := hy)
        | (
 intro yy (hy : Tag 45 ∧ _)
 obtain ⟨(j : Int), (u : List Int), (w : Int), _⟩ := yy
 replace hy := hy.2
 dsimp only [cu, joinT, ckTys, gts, Prod.eta, List.nil_append] at hy
 obtain ⟨hj, hu, hw⟩ := hy)))
  all_goals (
 with_reducible refine Leaf.mk ?_
 (try dsimp only [cu, joinT, ckTys, gts, Prod.eta, List.nil_append] at *)
 first
 | (done)
 | (rw [encDelta, if_pos (by omega)])
 | (rw [hx, encBs_end (by omega), ByteArray.append_empty]))
abbrev tb57 : Tbl := (65, c_rencD_ok) :: tb56
theorem tb57_ok : TblOk Tryz.prog tb57 := TblOk.cons rencD_ok tb56_ok

end Go.Proofs.YtlamfjhhjfgemaaGreat
