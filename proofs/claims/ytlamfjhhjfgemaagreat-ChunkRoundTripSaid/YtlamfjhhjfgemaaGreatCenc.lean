/- Contracts of the encodings of runs and of differences. -/
import Derived.Test.YtlamfjhhjfgemaaGreatBlk
namespace Go.Proofs.YtlamfjhhjfgemaaGreat
open Go.Abs
set_option linter.unusedVariables false
set_option linter.unusedSimpArgs false


/- Encoding of differences by the program. -/
def bbD (x : Int) (cs : List (List Int)) : List Int := toInts (ofInts (put (zigS x))) ++ cs.flatMap fun c => toInts (blkE c)
theorem bbD_app (x : Int) (cs : List (List Int)) (c : List Int) : bbD x (cs ++ [c]) = bbD x cs ++ toInts (blkE c) := by simp [bbD]
theorem bbD_len (x : Int) : ∀ cs : List (List Int), (bbD x cs).length ≤ 10 + 32779 * cs.length := by
  intro cs
  unfold bbD
  have h1 := put_size (zigS x)
  rw [List.length_append, toInts_len]
  have : (cs.flatMap fun c => toInts (blkE c)).length ≤ 32779 * cs.length := by
    induction cs with
    | nil => exact Nat.zero_le _
    | cons c cs ih =>
      have h2 := blkE_size c
      rw [List.flatMap_cons, List.length_append, toInts_len, List.length_cons]; omega
  omega
theorem isCk_ok {D x : List Int} (h : isCk D x) : 1 ≤ x.length ∧ x.length ≤ 32 ∧ ∀ z, z ∈ x → z ∈ D := by
  obtain ⟨k, h1, rfl⟩ := h
  unfold ck
  refine ⟨by simp; omega, by simp; omega, fun z hz => List.mem_of_mem_drop (List.mem_of_mem_take hz)⟩
theorem encBs_ck : ∀ (n : Nat) (D : List Int), D.length ≤ n → encBs D = ofInts ((ckL D).flatMap fun c => toInts (blkE c))
  | n, D, h => by
    rw [encBs]
    split
    · rename_i h0
      have : ckL D = [] := by unfold ckL; rw [h0]; rfl
      rw [this]; rfl
    · rename_i h0
      obtain ⟨m, rfl⟩ : ∃ m, n = m + 1 := ⟨n - 1, by omega⟩
      have e : ckL D = D.take 32 :: ckL (D.drop 32) := by
        unfold ckL
        rw [List.length_drop, show (D.length + 31) / 32 = (D.length - 32 + 31) / 32 + 1 by omega, List.range_succ_eq_map, List.map_cons, List.map_map]
        rw [show ck D 0 = D.take 32 by simp [ck]]
        congr 1
        refine List.map_congr_left fun k _ => ?_
        simp only [Function.comp, ck, List.drop_drop]
        rw [show 32 * k.succ = 32 + 32 * k by omega]
      rw [e, List.flatMap_cons, ofInts_app, ofInts_toInts, encBs_ck m (D.drop 32) (by simp; omega)]
theorem dfs_in {l : List Int} : ∀ x, x ∈ dfs l → inI x := fun x hx => by
  unfold dfs at hx
  obtain ⟨j, _, rfl⟩ := List.mem_map.1 hx
  exact wrap_in _
theorem dfs_step {l : List Int} {k : Int} (h : 0 ≤ k ∧ k < (l.length : Int) - 1) : (dfs l).take (k + 1).toNat = (dfs l).take k.toNat ++ [IntKind.i64.wrap ((l.drop 1)[k.toNat]! - l[k.toNat]!)] := by
  rw [take_get (by rw [dfs_len]; omega), dfs_get (by omega), drop_get, Nat.add_comm 1]
theorem encD_is {l : List Int} (h : ¬ (l.length = 0 ∨ l.length > 4096)) : ofInts (bbD l[0]! (ckL (dfs l))) = encDelta l := by
  rw [encDelta, if_neg h, bbD, ofInts_app, ofInts_toInts, ← encBs_ck _ _ (Nat.le_refl _)]

abbrev c_encD_ok : Ct := .fn [.list (.int .i64)] (some (fun (l : List Int) => (l.length ≤ 1073741824) ∧ (∀ x, x ∈ l → inI x))) (fun (l : List Int) => .d .str (encDelta l))
set_option maxRecDepth 100000 in
set_option maxHeartbeats 4000000 in
theorem encD_ok : CtOk Tryz.prog 33 c_encD_ok := by
  refine CtOk.rf tb80_ok mixed [(0, 8, 6)] [48] rfl rfl (chunk_it : ChunkIt Tryz.prog 70) (enters_of Tryz.func70 (by kernel_rfl) rfl) rfl [0, 1, 2, 4, 5, 6, 7, 8, 9, 10, 11, 12, 13, 14, 15, 16, 17, 18, 19, 20, 21, 22, 23, 24, 25, 26, 27, 28, 29, 30, 31, 32, 33, 34, 35, 36, 37, 38, 39, 40, 41, 42, 43, 44, 45, 46, 47, 48] 1 5 (cu [.list (.int .i64)] (fun (l : List Int) => encDelta l)) (fun _ => rfl) (cu [.list (.int .i64)] (fun (l : List Int) => fun (cs : List (List Int)) => bbD l[0]! cs)) ?_
  rintro ⟨(l : List Int), _⟩ hpre
  replace hpre := hpre _ rfl
  dsimp only [cu] at hpre
  obtain ⟨hl, hv⟩ := hpre
  have hd : (List.drop (Int.toNat 1) l).length = l.length - 1 := List.length_drop
  refine ⟨[(0, 12, LA.mk [.sl 25 (.int .i64), .lst 4 (.int .i64) 2] (fun y => Tag 60 ∧ cu [.int .i64, .list (.int .i64)] (fun (k : Int) (M : List Int) => (0 ≤ k ∧ k ≤ (l.length : Int) - 1) ∧ (M = (dfs l).take k.toNat)) y) (cu [.int .i64, .list (.int .i64)] (fun (k : Int) (M : List Int) => ((l.length : Int) - 1 - k).toNat)) (cu [.int .i64, .list (.int .i64)] (fun (k : Int) (M : List Int) => ([] : List (Nat × Nat × LA)))))], ?_⟩
  repeat' (first
    | (
 intro (pre : List (List Int)) (x : List Int) hz hp
 have hmf : M = dfs l := by rw [hM, List.take_of_length_le (by rw [dfs_len]; omega)]
 have hck := isCk_ok (hz x (by simp))
 have hbl := bbD_len l[0]! pre
 rw [hmf, dfs_len] at hp
 rw [hmf] at hck)
    | (
 with_reducible refine Side.mk ⟨(⟨⟩ : Tag 60), ?_⟩
 dsimp only [cu, joinT, ckTys, gts, Prod.eta, List.nil_append]
 refine ⟨?_, ?_⟩
 · omega
 · first
   | (rfl)
   | (
  rw [dfs_step (by omega), ← hM]
  (try rfl)))
    | (
 with_reducible refine Side.mk ?_
 (try dsimp only [cu, joinT, ckTys, gts, loK, hiK, Prod.eta, List.nil_append])
 first
 | (done)
 | (with_reducible rfl)
 | (omega)
 | (exact Eq.refl _)
 | (simp only [List.length_append, List.length_cons, List.length_nil]; omega)
 | (exact (toInts_len _).symm)
 | (exact inI_at hv _)
 | (exact zig_rng (inI_at hv _))
 | (
  have hml := congrArg List.length hM
  rw [List.length_take, dfs_len] at hml
  (try simp only [List.length_cons, List.length_nil])
  omega)
 | (exact ⟨⟨hck.1, by omega⟩, fun z q => dfs_in z (hck.2.2 z q)⟩)
 | (
  have hb2 := blkE_size x
  (try simp only [toInts_len, List.length_append])
  omega))
    | (conv => whnf
       first
        | done
        | exact trivial
        | with_reducible refine RfAnd.mk ?_ ?_ ?_
        | with_reducible refine NilBr.mk (fun h => ?_) ?_
        | with_reducible first | refine w_andS ?_ ?_ | refine w_andL ?_ ?_ | refine w_kern (by kernel_rfl) ?_ | refine w_true ?_ | refine w_nd ?_ ?_ | refine w_in ?_ ?_ | refine w_and ?_ ?_
        | ((with_reducible first | refine w_brN (fun h => ?_) (fun h => ?_) | refine w_brD (fun h => ?_) (fun h => ?_) | refine w_br (fun h => ?_) (fun h => ?_)) <;> (try dsimp only [cu, Prod.eta, List.nil_append] at h) <;> (try (exfalso; omega; done)))
        | (
 intro yy (hy : Tag 60 ∧ _)
 obtain ⟨(k : Int), (M : List Int), _⟩ := yy
 replace hy := hy.2
 dsimp only [cu, joinT, ckTys, gts, Prod.eta, List.nil_append] at hy
 obtain ⟨hk, hM⟩ := hy)))
  all_goals (
 with_reducible refine Leaf.mk ?_
 (try dsimp only [cu, joinT, ckTys, gts, Prod.eta, List.nil_append] at *)
 first
 | (done)
 | (rw [encDelta, if_pos (by omega)])
 | (
  (try simp only [List.flatMap_nil, List.append_nil, bbD])
  rfl)
 | (rw [bbD_app])
 | (
  have hmf : M = dfs l := by rw [hM, List.take_of_length_le (by rw [dfs_len]; omega)]
  rw [hmf, encD_is (by omega)]))
abbrev tb81 : Tbl := (33, c_encD_ok) :: tb80
theorem tb81_ok : TblOk Tryz.prog tb81 := TblOk.cons encD_ok tb80_ok


/- Encoding of runs by the program. -/
theorem runs_head {m : List Int} (h : 1 ≤ m.length) : runs m = ((runLen m[0]! (m.drop 1) : Int) + 1, m[0]!) :: runs (m.drop ((runLen m[0]! (m.drop 1) : Int) + 1).toNat) := by
  cases m with
  | nil => simp at h
  | cons v l =>
    rw [runs]
    simp only [List.drop_succ_cons, List.drop_zero, List.getElem!_cons_zero]
    rw [show ((runLen v l : Int) + 1).toNat = runLen v l + 1 by omega, List.drop_succ_cons]

abbrev c_encR_ok : Ct := .fn [.list (.int .i64)] (some (fun (l : List Int) => (l.length ≤ 1073741824) ∧ (∀ x, x ∈ l → inI x))) (fun (l : List Int) => .d .str (encRuns l))
set_option maxRecDepth 100000 in
set_option maxHeartbeats 4000000 in
theorem encR_ok : CtOk Tryz.prog 32 c_encR_ok := by
  refine CtOk.fn tb81_ok mixed [] [] rfl rfl ?_
  rintro ⟨(l : List Int), _⟩ hpre
  replace hpre := hpre _ rfl
  dsimp only [cu] at hpre
  obtain ⟨hl, hv⟩ := hpre
  refine ⟨[(0, 4, LA.mk [.sl 0 (.list (.int .i64)), .lst 3 (.int .u8) 5] (fun y => Tag 61 ∧ cu [.list (.int .i64), .list (.int .u8)] (fun (m : List Int) (B : List Int) => (m.length ≤ l.length ∧ ∀ x, x ∈ m → inI x) ∧ (encRuns l = ofInts B ++ ofInts (encR (runs m))) ∧ ((B.length : Int) ≤ 20 * (l.length - m.length))) y) (cu [.list (.int .i64), .list (.int .u8)] (fun (m : List Int) (B : List Int) => m.length)) (cu [.list (.int .i64), .list (.int .u8)] (fun (m : List Int) (B : List Int) => ([] : List (Nat × Nat × LA)))))], ?_⟩
  repeat' (first
    | (
 with_reducible refine Side.mk ⟨(⟨⟩ : Tag 61), ?_⟩
 dsimp only [cu, joinT, ckTys, gts, Prod.eta, List.nil_append]
 refine ⟨?_, ?_, ?_⟩
 · first
   | (exact ⟨Nat.le_refl _, hv⟩)
   | (
  have hr := runLen_le m[0]! (m.drop 1)
  rw [List.length_drop] at hr
  exact ⟨by simp; omega, fun x q => hm.2 x (List.mem_of_mem_drop q)⟩)
 · first
   | (
  show encRuns l = ByteArray.empty ++ encRuns l
  rw [ByteArray.empty_append])
   | (
  (try simp only [Int.toNat_zero])
  have hr := runLen_le m[0]! (m.drop 1)
  rw [List.length_drop] at hr
  have hu := u64_id (n := (runLen m[0]! (m.drop 1) : Int) + 1) (by omega)
  rw [hx, runs_head (by omega), encR, hu]
  simp only [ofInts_app, ofInts_toInts, ByteArray.append_assoc])
 · first
   | (simp only [List.length_nil]; omega)
   | (
  (try simp only [Int.toNat_zero])
  have hr := runLen_le m[0]! (m.drop 1)
  rw [List.length_drop] at hr
  have p1 := put_size (IntKind.u64.wrap ((runLen m[0]! (m.drop 1) : Int) + 1))
  have p2 := put_size (zigS m[0]!)
  simp only [List.length_append, toInts_len, List.length_drop]
  omega))
    | (
 with_reducible refine Side.mk ?_
 (try dsimp only [cu, joinT, ckTys, gts, loK, hiK, Prod.eta, List.nil_append])
 first
 | (done)
 | (with_reducible rfl)
 | (omega)
 | (exact Eq.refl _)
 | (simp only [List.length_append, List.length_cons, List.length_nil]; omega)
 | (exact ⟨by omega, by omega⟩)
 | (exact inI_at hm.2 _)
 | (exact zig_rng (inI_at hm.2 _))
 | (exact u64_wrap _)
 | (
  have hr := runLen_le m[0]! (m.drop 1)
  rw [List.length_drop] at hr
  first
  | (omega)
  | (
   (try simp only [List.length_drop])
   omega))
 | (
  (try simp only [Int.toNat_zero])
  have hr := runLen_le m[0]! (m.drop 1)
  rw [List.length_drop] at hr
  have p1 := put_size (IntKind.u64.wrap ((runLen m[0]! (m.drop 1) : Int) + 1))
  have p2 := put_size (zigS m[0]!)
  (try simp only [List.length_append, toInts_len])
  omega))
    | (conv => whnf
       first
        | done
        | exact trivial
        | with_reducible refine NilBr.mk (fun h => ?_) ?_
        | with_reducible first | refine w_andS ?_ ?_ | refine w_andL ?_ ?_ | refine w_kern (by kernel_rfl) ?_ | refine w_true ?_ | refine w_nd ?_ ?_ | refine w_in ?_ ?_ | refine w_and ?_ ?_
        | ((with_reducible first | refine w_brN (fun h => ?_) (fun h => ?_) | refine w_brD (fun h => ?_) (fun h => ?_) | refine w_br (fun h => ?_) (fun h => ?_)) <;> (try dsimp only [cu, Prod.eta, List.nil_append] at h) <;> (try (exfalso; omega; done)))
        | (
 intro yy (hy : Tag 61 ∧ _)
 obtain ⟨(m : List Int), (B : List Int), _⟩ := yy
 replace hy := hy.2
 dsimp only [cu, joinT, ckTys, gts, Prod.eta, List.nil_append] at hy
 obtain ⟨hm, hx, hz⟩ := hy)))
  all_goals (
 with_reducible refine Leaf.mk ?_
 (try dsimp only [cu, joinT, ckTys, gts, Prod.eta, List.nil_append] at *)
 first
 | (done)
 | (
  have hm0 : m = [] := List.eq_nil_of_length_eq_zero (by omega)
  rw [hx, hm0, runs, encR]
  show _ = ofInts B ++ ByteArray.empty
  simp))
abbrev tb82 : Tbl := (32, c_encR_ok) :: tb81
theorem tb82_ok : TblOk Tryz.prog tb82 := TblOk.cons encR_ok tb81_ok


/- Lists that are being filled. -/
def padF {α : Type} (f : Val → α) (z : α) (l : List Val) (k : Int) : List α := (l.take k.toNat).map f ++ List.replicate (l.length - k.toNat) z
theorem padF_zero {α : Type} (f : Val → α) (z : α) (l : List Val) : List.replicate l.length z = padF f z l 0 := by simp [padF]
theorem padF_len {α : Type} (f : Val → α) (z : α) (l : List Val) (k : Int) (h : 0 ≤ k ∧ k ≤ l.length) : (padF f z l k).length = l.length := by simp [padF]; omega
theorem padF_set {α : Type} {f : Val → α} {z : α} {l : List Val} {k : Int} (h : 0 ≤ k ∧ k < l.length) : (padF f z l k).set k.toNat (f l[k.toNat]!) = padF f z l (k + 1) := by
  unfold padF
  rw [takeV_get h]
  have hl : ((l.take k.toNat).map f).length = k.toNat := by simp; omega
  rw [List.set_append_right _ _ (by omega), hl, Nat.sub_self, show l.length - k.toNat = (l.length - (k + 1).toNat) + 1 by omega, List.replicate_succ, List.set_cons_zero, List.map_append, List.append_assoc]
  rfl
theorem padF_full {α : Type} {f : Val → α} {z : α} {l : List Val} {k : Int} (h : k = l.length) : padF f z l k = l.map f := by
  unfold padF
  rw [List.take_of_length_le (by omega), show l.length - k.toNat = 0 by omega, List.replicate_zero, List.append_nil]

abbrev c_cpay_ok : Ct := .fn [.int .i64, .list tVal] (some (fun (c : Int) (l : List Val) => (2 ≤ c ∧ c ≤ 4) ∧ (l.length ≤ 4096) ∧ (∀ v, v ∈ l → okV v))) (fun (c : Int) (l : List Val) => .d .str (payS 0 c l))
set_option maxRecDepth 100000 in
set_option maxHeartbeats 4000000 in
theorem cpay_ok : CtOk Tryz.prog 17 c_cpay_ok := by
  refine CtOk.fn tb82_ok mixed [] [] rfl rfl ?_
  rintro ⟨(c : Int), (l : List Val), _⟩ hpre
  replace hpre := hpre _ rfl
  dsimp only [cu] at hpre
  obtain ⟨hc, hl, hv⟩ := hpre
  refine ⟨[(0, 6, LA.mk [.sl 17 (.int .i64), .ar 0 (.int .i64) 2, .ar 1 .str 9] (fun y => Tag 62 ∧ cu [.int .i64, .list (.int .i64), .list .str] (fun (k : Int) (M : List Int) (S : List ByteArray) => (0 ≤ k ∧ k ≤ l.length) ∧ (M = padF (fun v : Val => v.2.1) (0 : Int) l k) ∧ (S = padF (fun v : Val => v.2.2) (⟨#[]⟩ : ByteArray) l k)) y) (cu [.int .i64, .list (.int .i64), .list .str] (fun (k : Int) (M : List Int) (S : List ByteArray) => ((l.length : Int) - k).toNat)) (cu [.int .i64, .list (.int .i64), .list .str] (fun (k : Int) (M : List Int) (S : List ByteArray) => ([] : List (Nat × Nat × LA)))))], ?_⟩
  repeat' (first
    | (
 with_reducible refine Side.mk ⟨(⟨⟩ : Tag 62), ?_⟩
 dsimp only [cu, joinT, ckTys, gts, Prod.eta, List.nil_append]
 refine ⟨?_, ?_, ?_⟩
 · omega
 · first
   | (exact padF_zero _ _ _)
   | (
  rw [hM]
  exact padF_set (f := fun v : Val => v.2.1) (by omega))
 · first
   | (exact padF_zero _ _ _)
   | (
  rw [hS]
  exact padF_set (f := fun v : Val => v.2.2) (by omega)))
    | (
 with_reducible refine Side.mk ?_
 (try dsimp only [cu, joinT, ckTys, gts, loK, hiK, Prod.eta, List.nil_append])
 first
 | (done)
 | (with_reducible rfl)
 | (omega)
 | (exact Eq.refl _)
 | (simp only [List.length_append, List.length_cons, List.length_nil]; omega)
 | (
  have hml := padF_len (fun v : Val => v.2.1) (0 : Int) l k (by omega)
  rw [← hM] at hml
  have hsl := padF_len (fun v : Val => v.2.2) (⟨#[]⟩ : ByteArray) l k (by omega)
  rw [← hS] at hsl
  first
  | (omega)
  | (
   (try simp only [List.length_set])
   omega))
 | (
  have hf : M = numsV l := by rw [hM, padF_full (by omega)]; rfl
  have hg : S = strsV l := by rw [hS, padF_full (by omega)]; rfl
  have hml := padF_len (fun v : Val => v.2.1) (0 : Int) l k (by omega)
  rw [← hM] at hml
  have hsl := padF_len (fun v : Val => v.2.2) (⟨#[]⟩ : ByteArray) l k (by omega)
  rw [← hS] at hsl
  first
  | (
   refine ⟨by omega, ?_⟩
   rw [hf]
   exact nums_in hv)
  | (
   refine ⟨?_, by omega⟩
   rw [hg]
   exact strs_le hv)))
    | (conv => whnf
       first
        | done
        | exact trivial
        | with_reducible refine NilBr.mk (fun h => ?_) ?_
        | with_reducible first | refine w_andS ?_ ?_ | refine w_andL ?_ ?_ | refine w_kern (by kernel_rfl) ?_ | refine w_true ?_ | refine w_nd ?_ ?_ | refine w_in ?_ ?_ | refine w_and ?_ ?_
        | ((with_reducible first | refine w_brN (fun h => ?_) (fun h => ?_) | refine w_brD (fun h => ?_) (fun h => ?_) | refine w_br (fun h => ?_) (fun h => ?_)) <;> (try dsimp only [cu, Prod.eta, List.nil_append] at h) <;> (try (exfalso; omega; done)))
        | (
 intro yy (hy : Tag 62 ∧ _)
 obtain ⟨(k : Int), (M : List Int), (S : List ByteArray), _⟩ := yy
 replace hy := hy.2
 dsimp only [cu, joinT, ckTys, gts, Prod.eta, List.nil_append] at hy
 obtain ⟨hk, hM, hS⟩ := hy)))
  all_goals (
 with_reducible refine Leaf.mk ?_
 (try dsimp only [cu, joinT, ckTys, gts, Prod.eta, List.nil_append] at *)
 first
 | (done)
 | (
  have hf : M = numsV l := by rw [hM, padF_full (by omega)]; rfl
  have hg : S = strsV l := by rw [hS, padF_full (by omega)]; rfl
  first
  | (
   have hc2 : c = 2 := by with_reducible assumption
   rw [payS, if_pos hc2, hf])
  | (
   have hc2 : ¬ c = 2 := by with_reducible assumption
   first
   | (
    have hc4 : c = 4 := by with_reducible assumption
    rw [payS, if_neg hc2, if_neg (by omega), if_pos hc4, hf])
   | (
    have hc3 : c = 3 := by with_reducible assumption
    rw [payS, if_neg hc2, if_pos hc3, hg])))
 | (exfalso; omega))
abbrev tb83 : Tbl := (17, c_cpay_ok) :: tb82
theorem tb83_ok : TblOk Tryz.prog tb83 := TblOk.cons cpay_ok tb82_ok


/- The best codec. -/
def bestK (t : Int) (P : List Val) : List Int → Int → Int
  | [], q => q
  | k :: ks, q => bestK t P ks (if (payS t k P).size < (payS t q P).size then k else q)
theorem bestK_step {t : Int} {P : List Val} {L : List Int} {j q : Int} (h : 0 ≤ j ∧ j < L.length) : bestK t P (L.drop j.toNat) q = bestK t P (L.drop (j + 1).toNat) (if (payS t L[j.toNat]! P).size < (payS t q P).size then L[j.toNat]! else q) := by
  rw [drop_step L j h]; rfl
theorem codT_len (t : Int) : ((codL t).drop (Int.toNat 1)).length ≤ 2 := by unfold codL; split <;> decide
theorem codL_ge (t : Int) : 2 ≤ (codL t).length ∧ (codL t).length ≤ 3 := by unfold codL; split <;> decide
theorem codT_at {t j : Int} (h : 0 ≤ j ∧ j < ((codL t).drop (Int.toNat 1)).length) : (2 ≤ ((codL t).drop (Int.toNat 1))[j.toNat]! ∧ ((codL t).drop (Int.toNat 1))[j.toNat]! ≤ 4) := by
  have : ∀ k, k ∈ (codL t).drop (Int.toNat 1) → 2 ≤ k ∧ k ≤ 4 := by
    unfold codL; split <;> (intro k hk; simp [show Int.toNat 1 = 1 from rfl] at hk; omega)
  exact this _ (by rw [getElem!_pos _ _ (by omega)]; exact List.getElem_mem _)
theorem bestK_mem (t : Int) (P : List Val) : ∀ (L : List Int) (q : Int), bestK t P L q = q ∨ bestK t P L q ∈ L
  | [], q => .inl rfl
  | k :: ks, q => by
    rw [bestK]
    rcases bestK_mem t P ks (if (payS t k P).size < (payS t q P).size then k else q) with h | h
    · rw [h]; split
      · exact .inr (by simp)
      · exact .inl rfl
    · exact .inr (by simp [h])
theorem chunkB_sz (t k q : Int) (l : List Val) : (chunkB t k l).size + (payS t q (someV l)).size = (chunkB t q l).size + (payS t k (someV l)).size := by
  have hh : (headS k l).size = (headS q l).size := by
    unfold headS
    simp only [ByteArray.size_append, ofInts_len [_], List.length_cons, List.length_nil]
  unfold chunkB
  split <;> simp only [ByteArray.size_append] <;> omega
theorem build_lt (t k q : Int) (l : List Val) : (buildS t k l).size < (buildS t q l).size ↔ (payS t k (someV l)).size < (payS t q (someV l)).size := by
  have := chunkB_sz t k q l
  unfold buildS
  rw [seal_size, seal_size]; omega
theorem build_ne (t k : Int) (l : List Val) : ¬ buildS t k l = ⟨#[]⟩ := fun e => by
  have := congrArg ByteArray.size e
  unfold buildS at this
  rw [seal_size] at this
  have h0 : (ByteArray.mk #[]).size = 0 := rfl
  omega
/-- The least chunk is the one with the least payload. -/
theorem bst_best (t : Int) (l : List Val) : bst t l 4 1 ⟨#[]⟩ = buildS t (bestK t (someV l) ((codL t).drop (Int.toNat 1)) 1) l := by
  have st : ∀ (k q : Int), (if buildS t q l = ⟨#[]⟩ ∨ (buildS t k l).size < (buildS t q l).size then buildS t k l else buildS t q l) = buildS t (if (payS t k (someV l)).size < (payS t q (someV l)).size then k else q) l := fun k q => by
    by_cases h : (payS t k (someV l)).size < (payS t q (someV l)).size
    · rw [if_pos h, if_pos (.inr ((build_lt _ _ _ _).2 h))]
    · rw [if_neg h, if_neg (fun p => by
        rcases p with p | p
        · exact build_ne _ _ _ p
        · exact h ((build_lt _ _ _ _).1 p))]
  by_cases ht : t = 3
  · have u1 : usesB t 1 = true := by unfold usesB; rw [if_pos ht]; rfl
    have u2 : ¬ usesB t (1 + 1) = true := by unfold usesB; rw [if_pos ht]; decide
    have u3 : usesB t (1 + 1 + 1) = true := by unfold usesB; rw [if_pos ht]; rfl
    have u4 : ¬ usesB t (1 + 1 + 1 + 1) = true := by unfold usesB; rw [if_pos ht]; decide
    simp only [bst]
    rw [if_neg u4, if_pos u3, if_neg u2, if_pos u1]
    simp only [true_or, if_true]
    rw [st]
    unfold codL; rw [if_pos ht]; rfl
  · have u1 : usesB t 1 = true := by unfold usesB; rw [if_neg ht]; rfl
    have u2 : usesB t (1 + 1) = true := by unfold usesB; rw [if_neg ht]; rfl
    have u3 : ¬ usesB t (1 + 1 + 1) = true := by unfold usesB; rw [if_neg ht]; decide
    have u4 : usesB t (1 + 1 + 1 + 1) = true := by unfold usesB; rw [if_neg ht]; rfl
    simp only [bst]
    rw [if_pos u4, if_neg u3, if_pos u2, if_pos u1]
    simp only [true_or, if_true]
    rw [st, st]
    unfold codL; rw [if_neg ht]; rfl
theorem payS_t (t u k : Int) (l : List Val) (h : 2 ≤ k ∧ k ≤ 4) : payS t k l = payS u k l := by
  unfold payS
  by_cases h2 : k = 2
  · rw [if_pos h2, if_pos h2]
  · by_cases h3 : k = 3
    · rw [if_neg h2, if_neg h2, if_pos h3, if_pos h3]
    · rw [if_neg h2, if_neg h2, if_neg h3, if_neg h3, if_pos (by omega), if_pos (by omega)]
theorem encV_ok {c : Col} {l : List Val} (h1 : ¬ vKnown c.2.1 = false) (h2 : ¬ l.length > 4096) (h3 : chkAll c l = 0) : encV c l = (buildS c.2.1 (bestK c.2.1 (someV l) ((codL c.2.1).drop (Int.toNat 1)) 1) l, 0) := by
  rw [encV, if_neg h1, if_neg h2, if_neg (fun q => q h3), bst_best]

abbrev c_cencode_ok : Ct := .fn [tCol, .list tVal] (some (fun (c : Col) (l : List Val) => (l.length ≤ 9223372036854775807) ∧ (∀ v, v ∈ l → inI v.2.1))) (fun (c : Col) (l : List Val) => .tup [.str, .int .i64] ((encV c l).1, (encV c l).2, ()))
set_option maxRecDepth 100000 in
set_option maxHeartbeats 4000000 in
theorem cencode_ok : CtOk Tryz.prog 6 c_cencode_ok := by
  refine CtOk.fn tb83_ok mixed [] [] rfl rfl ?_
  rintro ⟨(c : Col), (l : List Val), _⟩ hpre
  replace hpre := hpre _ rfl
  dsimp only [cu] at hpre
  obtain ⟨hl, hin⟩ := hpre
  refine ⟨[(0, 16, LA.mk [.sl 36 (.int .i64), .ar 1 .bool 4, .lst 7 tVal 36] (fun y => Tag 63 ∧ cu [.int .i64, .list .bool, .list tVal] (fun (i : Int) (N : List Bool) (P : List Val) => (0 ≤ i ∧ i ≤ l.length) ∧ (chkAll c l = chkAll c (l.drop i.toNat)) ∧ (N = padF (fun v : Val => v.1) false l i) ∧ (P = someV (l.take i.toNat))) y) (cu [.int .i64, .list .bool, .list tVal] (fun (i : Int) (N : List Bool) (P : List Val) => ((l.length : Int) - i).toNat)) (cu [.int .i64, .list .bool, .list tVal] (fun (i : Int) (N : List Bool) (P : List Val) => ([] : List (Nat × Nat × LA))))), (0, 38, LA.mk [.sl 69 (.int .i64), .sl 11 .str, .sl 12 (.int .i64)] (fun y => Tag 64 ∧ cu [.int .i64, .str, .int .i64] (fun (j : Int) (b : ByteArray) (q : Int) => (0 ≤ j ∧ j ≤ ((codL c.2.1).drop (Int.toNat 1)).length) ∧ (1 ≤ q ∧ q ≤ 4) ∧ (b = payS c.2.1 q (someV l)) ∧ (bestK c.2.1 (someV l) ((codL c.2.1).drop (Int.toNat 1)) 1 = bestK c.2.1 (someV l) (((codL c.2.1).drop (Int.toNat 1)).drop j.toNat) q)) y) (cu [.int .i64, .str, .int .i64] (fun (j : Int) (b : ByteArray) (q : Int) => ((((codL c.2.1).drop (Int.toNat 1)).length : Int) - j).toNat)) (cu [.int .i64, .str, .int .i64] (fun (j : Int) (b : ByteArray) (q : Int) => ([] : List (Nat × Nat × LA)))))], ?_⟩
  repeat' (first
    | (
 with_reducible refine Side.mk ⟨(⟨⟩ : Tag 63), ?_⟩
 dsimp only [cu, joinT, ckTys, gts, Prod.eta, List.nil_append]
 refine ⟨?_, ?_, ?_, ?_⟩
 · omega
 · first
   | (rfl)
   | (
  have hv : ¬ vCheck c l[i.toNat]! ≠ 0 := ne_zero_no (by with_reducible assumption)
  rw [hc, chkAll_step (by omega), if_neg hv])
 · first
   | (exact padF_zero _ _ _)
   | (
  rw [hN]
  exact padF_set (f := fun v : Val => v.1) (by omega))
 · first
   | (rfl)
   | (
  have hb : l[i.toNat]!.1 = true := by first | with_reducible assumption | exact nz_t (by with_reducible assumption)
  rw [some_step (by omega), ← hP, if_pos hb, List.append_nil])
   | (
  have hb : ¬ l[i.toNat]!.1 = true := by first | with_reducible assumption | (simp_all; done)
  rw [some_step (by omega), ← hP, if_neg hb]))
    | (
 with_reducible refine Side.mk ⟨(⟨⟩ : Tag 64), ?_⟩
 dsimp only [cu, joinT, ckTys, gts, Prod.eta, List.nil_append]
 refine ⟨?_, ?_, ?_, ?_⟩
 · omega
 · first
   | (omega)
   | (
  have hca := codT_at (t := c.2.1) (j := j) (by omega)
  omega)
 · first
   | (exact hb)
   | (
  have hch : chkAll c l = 0 := by rw [hc, List.drop_eq_nil_of_le (by omega)]; rfl
  have hok : ∀ v, v ∈ l → okV v := fun v hv => check_okV (chkAll_ok hch v hv) (hin v hv)
  have hF : P = someV l := by rw [hP, List.take_of_length_le (by omega)]
  have hG : N = nullsV l := by rw [hN, padF_full (by omega)]; rfl
  have hpl := some_len l
  rw [← hF] at hpl
  have hpo := some_ok hok
  rw [← hF] at hpo
  rw [← hF]
  first
  | (rfl)
  | (
   have hca := codT_at (t := c.2.1) (j := j) (by omega)
   exact payS_t _ _ _ _ hca))
 · first
   | (rfl)
   | (
  have hch : chkAll c l = 0 := by rw [hc, List.drop_eq_nil_of_le (by omega)]; rfl
  have hok : ∀ v, v ∈ l → okV v := fun v hv => check_okV (chkAll_ok hch v hv) (hin v hv)
  have hF : P = someV l := by rw [hP, List.take_of_length_le (by omega)]
  have hG : N = nullsV l := by rw [hN, padF_full (by omega)]; rfl
  have hpl := some_len l
  rw [← hF] at hpl
  have hpo := some_ok hok
  rw [← hF] at hpo
  have hca := codT_at (t := c.2.1) (j := j) (by omega)
  have hpt := payS_t 0 c.2.1 _ (someV l) hca
  first
  | (
   have hlt : (payS c.2.1 ((codL c.2.1).drop (Int.toNat 1))[j.toNat]! (someV l)).size < (payS c.2.1 q (someV l)).size := by rw [← hpt, ← hb, ← hF]; omega
   rw [hk, bestK_step (by omega), if_pos hlt])
  | (
   have hlt : ¬ (payS c.2.1 ((codL c.2.1).drop (Int.toNat 1))[j.toNat]! (someV l)).size < (payS c.2.1 q (someV l)).size := by rw [← hpt, ← hb, ← hF]; omega
   rw [hk, bestK_step (by omega), if_neg hlt])))
    | (
 with_reducible refine Side.mk ?_
 (try dsimp only [cu, joinT, ckTys, gts, loK, hiK, Prod.eta, List.nil_append])
 first
 | (done)
 | (with_reducible rfl)
 | (omega)
 | (exact Eq.refl _)
 | (simp only [List.length_append, List.length_cons, List.length_nil]; omega)
 | (
  have hnl := padF_len (fun v : Val => v.1) false l i (by omega)
  rw [← hN] at hnl
  first
  | (omega)
  | (
   (try simp only [List.length_set])
   omega))
 | (
  have hp1 := some_len (l.take i.toNat)
  rw [← hP, List.length_take] at hp1
  (try simp only [List.length_cons, List.length_nil])
  omega)
 | (
  have hch : chkAll c l = 0 := by rw [hc, List.drop_eq_nil_of_le (by omega)]; rfl
  have hok : ∀ v, v ∈ l → okV v := fun v hv => check_okV (chkAll_ok hch v hv) (hin v hv)
  have hF : P = someV l := by rw [hP, List.take_of_length_le (by omega)]
  have hG : N = nullsV l := by rw [hN, padF_full (by omega)]; rfl
  have hpl := some_len l
  rw [← hF] at hpl
  have hpo := some_ok hok
  rw [← hF] at hpo
  exact ⟨by omega, hpo⟩)
 | (
  have hca := codT_at (t := c.2.1) (j := j) (by omega)
  have hch : chkAll c l = 0 := by rw [hc, List.drop_eq_nil_of_le (by omega)]; rfl
  have hok : ∀ v, v ∈ l → okV v := fun v hv => check_okV (chkAll_ok hch v hv) (hin v hv)
  have hF : P = someV l := by rw [hP, List.take_of_length_le (by omega)]
  have hG : N = nullsV l := by rw [hN, padF_full (by omega)]; rfl
  have hpl := some_len l
  rw [← hF] at hpl
  have hpo := some_ok hok
  rw [← hF] at hpo
  exact ⟨hca, by omega, hpo⟩)
 | (
  have hcl := codL_ge c.2.1
  omega)
 | (
  have hcl := codT_len c.2.1
  omega)
 | (
  have hcl := codL_ge c.2.1
  (try simp only [List.length_drop])
  omega)
 | (
  have hch : chkAll c l = 0 := by rw [hc, List.drop_eq_nil_of_le (by omega)]; rfl
  have hok : ∀ v, v ∈ l → okV v := fun v hv => check_okV (chkAll_ok hch v hv) (hin v hv)
  have hF : P = someV l := by rw [hP, List.take_of_length_le (by omega)]
  have hG : N = nullsV l := by rw [hN, padF_full (by omega)]; rfl
  have hpl := some_len l
  rw [← hF] at hpl
  have hpo := some_ok hok
  rw [← hF] at hpo
  omega)
 | (exact u64_wrap _)
 | (
  have hch : chkAll c l = 0 := by rw [hc, List.drop_eq_nil_of_le (by omega)]; rfl
  have hok : ∀ v, v ∈ l → okV v := fun v hv => check_okV (chkAll_ok hch v hv) (hin v hv)
  have hF : P = someV l := by rw [hP, List.take_of_length_le (by omega)]
  have hG : N = nullsV l := by rw [hN, padF_full (by omega)]; rfl
  have hpl := some_len l
  rw [← hF] at hpl
  have hpo := some_ok hok
  rw [← hF] at hpo
  first
  | (
   have w1 := u64_id (n := (l.length : Int)) (by omega)
   have w2 := u64_id (n := (l.length : Int) - P.length) (by omega)
   have hh := head_size q l
   have hp := pay_size (t := c.2.1) (k := q) (some_ok hok) (by have := some_len l; omega)
   rw [← hb] at hp
   have hq2 := packB_size (l := nullsV l) (by simp [nullsV]; omega)
   rw [← hG] at hq2
   have p1 := put_size (l.length : Int)
   have p2 := put_size ((l.length : Int) - P.length)
   simp only [ByteArray.size_append, w1, w2, one_size, ofInts_len [_], four_size, List.length_cons, List.length_nil]
   omega)
  | (
   have hnl := padF_len (fun v : Val => v.1) false l i (by omega)
   rw [← hN] at hnl
   omega)))
    | (conv => whnf
       first
        | done
        | exact trivial
        | with_reducible refine NilBr.mk (fun h => ?_) ?_
        | with_reducible first | refine w_andS ?_ ?_ | refine w_andL ?_ ?_ | refine w_kern (by kernel_rfl) ?_ | refine w_true ?_ | refine w_nd ?_ ?_ | refine w_in ?_ ?_ | refine w_and ?_ ?_
        | ((with_reducible first | refine w_brN (fun h => ?_) (fun h => ?_) | refine w_brD (fun h => ?_) (fun h => ?_) | refine w_br (fun h => ?_) (fun h => ?_)) <;> (try dsimp only [cu, Prod.eta, List.nil_append] at h) <;> (try (exfalso; omega; done)))
        | (
 intro yy (hy : Tag 63 ∧ _)
 obtain ⟨(i : Int), (N : List Bool), (P : List Val), _⟩ := yy
 replace hy := hy.2
 dsimp only [cu, joinT, ckTys, gts, Prod.eta, List.nil_append] at hy
 obtain ⟨hi, hc, hN, hP⟩ := hy)
        | (
 intro yy (hy : Tag 64 ∧ _)
 obtain ⟨(j : Int), (b : ByteArray), (q : Int), _⟩ := yy
 replace hy := hy.2
 dsimp only [cu, joinT, ckTys, gts, Prod.eta, List.nil_append] at hy
 obtain ⟨hj, hq, hb, hk⟩ := hy)))
  all_goals (
 with_reducible refine Leaf.mk ?_
 (try dsimp only [cu, joinT, ckTys, gts, Prod.eta, List.nil_append] at *)
 first
 | (done)
 | (
  have hkn : vKnown c.2.1 = false := by unfold vKnown; simp; omega
  rw [encV, if_pos hkn])
 | (
  have hkn : ¬ vKnown c.2.1 = false := by unfold vKnown; simp; omega
  first
  | (
   have h4 : l.length > 4096 := by omega
   rw [encV, if_neg hkn, if_pos h4])
  | (
   have h4 : ¬ l.length > 4096 := by omega
   have hv : vCheck c l[i.toNat]! ≠ 0 := by with_reducible assumption
   have hce : chkAll c l = vCheck c l[i.toNat]! := by rw [hc, chkAll_step (by omega), if_pos hv]
   rw [encV, if_neg hkn, if_neg h4, hce, if_pos hv])
  | (
   have hch : chkAll c l = 0 := by rw [hc, List.drop_eq_nil_of_le (by omega)]; rfl
   have hok : ∀ v, v ∈ l → okV v := fun v hv => check_okV (chkAll_ok hch v hv) (hin v hv)
   have hF : P = someV l := by rw [hP, List.take_of_length_le (by omega)]
   have hG : N = nullsV l := by rw [hN, padF_full (by omega)]; rfl
   have hpl := some_len l
   rw [← hF] at hpl
   have hpo := some_ok hok
   rw [← hF] at hpo
   first
   | (
    have w1 := u64_id (n := (l.length : Int)) (by omega)
    have w2 := u64_id (n := (l.length : Int) - P.length) (by omega)
    have hqq : bestK c.2.1 (someV l) ((codL c.2.1).drop (Int.toNat 1)) 1 = q := by rw [hk, List.drop_eq_nil_of_le (by omega)]; rfl
    first
    | (
     have hlt : (someV l).length < l.length := by rw [← hF]; omega
     rw [w1, w2, encV_ok hkn (by omega) hch, hqq, buildS, chunkB_y hlt, hb, ← hG]
     unfold headS
     rw [← hF]
     rfl)
    | (
     have hlt : ¬ (someV l).length < l.length := by rw [← hF]; omega
     rw [w1, w2, encV_ok hkn (by omega) hch, hqq, buildS, chunkB_n hlt, hb]
     unfold headS
     rw [← hF]
     rfl))
   | (rw [encV_ok hkn (by omega) hch]))))
abbrev tb84 : Tbl := (6, c_cencode_ok) :: tb83
theorem tb84_ok : TblOk Tryz.prog tb84 := TblOk.cons cencode_ok tb83_ok

end Go.Proofs.YtlamfjhhjfgemaaGreat
