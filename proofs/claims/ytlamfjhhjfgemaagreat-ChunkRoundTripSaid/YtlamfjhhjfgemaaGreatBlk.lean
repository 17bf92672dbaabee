/- Contracts of builders and of plain payloads. -/
import Derived.Test.YtlamfjhhjfgemaaGreatEnc
import Derived.Test.YtlamfjhhjfgemaaGreatAbsBd
import Derived.Test.YtlamfjhhjfgemaaGreatAbsRg
import Derived.RangeFuncNested
import Derived.RangeFuncBound
import Derived.RangeFuncCalls
import Derived.RangeFuncLeaves
import Derived.WalkKit
import Derived.OwnWalkIn
import Derived.TacticsInMore
import Derived.LoopNIn
import Derived.LoopIn
import Derived.Shelf.Abstract
namespace Go.Proofs.YtlamfjhhjfgemaaGreat
open Go.Abs
set_option linter.unusedVariables false
set_option linter.unusedSimpArgs false

abbrev c_wrs_ok : Ct := .bld true 5 67
set_option maxRecDepth 100000 in
set_option maxHeartbeats 4000000 in
theorem wrs_ok : CtOk Tryz.prog 29 c_wrs_ok := by
  refine BldW.mk tb76_ok mixed [] [46] rfl rfl ?_ ?_
  all_goals first | rintro (_ | _) (l : List Int) s hs | rintro (_ | _) s hs
  all_goals refine ⟨[], ?_⟩
  repeat' (first
    | (
 with_reducible refine Side.mk ?_
 (try dsimp only [cu, joinT, ckTys, gts, loK, hiK, Prod.eta, List.nil_append])
 first
 | (done)
 | (with_reducible rfl)
 | (omega)
 | (exact Eq.refl _)
 | (simp only [List.length_append, List.length_cons, List.length_nil]; omega)
 | (
  (try simp only [toInts_len, List.length_nil])
  omega))
    | (conv => whnf
       first
        | done
        | exact trivial
        | with_reducible refine NilBr.mk (fun h => ?_) ?_
        | with_reducible first | refine w_andS ?_ ?_ | refine w_andL ?_ ?_ | refine w_kern (by kernel_rfl) ?_ | refine w_true ?_ | refine w_nd ?_ ?_ | refine w_in ?_ ?_ | refine w_and ?_ ?_
        | ((with_reducible first | refine w_brN (fun h => ?_) (fun h => ?_) | refine w_brD (fun h => ?_) (fun h => ?_) | refine w_br (fun h => ?_) (fun h => ?_)) <;> (try dsimp only [cu, Prod.eta, List.nil_append] at h) <;> (try (exfalso; omega; done)))))
  all_goals (
 with_reducible refine Leaf.mk ?_
 (try dsimp only [cu, joinT, ckTys, gts, Prod.eta, List.nil_append] at *)
 first
 | (done)
 | (rfl))
abbrev tb77 : Tbl := (29, c_wrs_ok) :: tb76
theorem tb77_ok : TblOk Tryz.prog tb77 := TblOk.cons wrs_ok tb76_ok

abbrev c_bstr_ok : Ct := .bld false 5 67
theorem bstr_ok_nil (b o : Nat) (w : World) (hc : w.cell? ⟨b, o + 1, none⟩ = some (.slice none 0 0)) :
    Calls Tryz.prog 31 #[.pointer (some ⟨b, o, none⟩)] w fun e w' => e = .returned (.string ⟨#[]⟩) ∧ w' = w.drew := by
  have hUS : ∀ W : World, (Builtin.unsafeString_ #[94, 3] 9 #[.pointer none, .int .i64 0]).run Tryz.prog W = .ok (.string .empty) W := fun W => Lib.run_unsafeString_none W _ _ _ none
  have c1 : w.drew.cell? ⟨b, o + 1, none⟩ = some (.slice none 0 0) := hc
  have hSD : ∀ W : World, (Builtin.unsafeSliceData_ #[47] 94 #[.slice none 0 0]).run Tryz.prog W = .ok (.pointer none) W := fun W => rfl
  go_enter Tryz.func31, Tryz.ntmps31
  go_wp2
  go_region
  all_goals (go_wp2; go_ret; exact ⟨rfl, rfl⟩)
theorem bstr_ok_some (b o : Nat) (a : Addr) (n cap : Nat) (s : ByteArray) (w : World) (hc : w.cell? ⟨b, o + 1, none⟩ = some (.slice (some a) n cap)) (h0 : cap ≠ 0)
    (hUS : (Builtin.unsafeString_ #[94, 3] 9 #[.pointer (some a), .int .i64 n]).run Tryz.prog w.drew = .ok (.string s) (w.drew.freeze a n)) :
    Calls Tryz.prog 31 #[.pointer (some ⟨b, o, none⟩)] w fun e w' => e = .returned (.string s) ∧ w' = w.drew.freeze a n := by
  have c1 : w.drew.cell? ⟨b, o + 1, none⟩ = some (.slice (some a) n cap) := hc
  have hSD : (Builtin.unsafeSliceData_ #[47] 94 #[.slice (some a) n cap]).run Tryz.prog w.drew = .ok (.pointer (some a)) w.drew := Lib.run_unsafeSliceData_row _ _ _ _ _ _ h0
  go_enter Tryz.func31, Tryz.ntmps31
  go_wp2
  go_region
  all_goals (go_wp2; go_ret; exact ⟨rfl, rfl⟩)
theorem bstr_ok : CtOk Tryz.prog 31 c_bstr_ok := BldS.mk (pt := 94) (it := 3) (ty := 9) (by kernel_rfl) (by kernel_rfl) bstr_ok_nil bstr_ok_some
abbrev tb78 : Tbl := (31, c_bstr_ok) :: tb77
theorem tb78_ok : TblOk Tryz.prog tb78 := TblOk.cons bstr_ok tb77_ok

abbrev c_cplain_ok : Ct := .fn [.int .i64, .list tVal] (some (fun (t : Int) (l : List Val) => (l.length ≤ 4096) ∧ (∀ v, v ∈ l → okV v))) (fun (t : Int) (l : List Val) => .d .str (plL t l))
set_option maxRecDepth 100000 in
set_option maxHeartbeats 4000000 in
theorem cplain_ok : CtOk Tryz.prog 15 c_cplain_ok := by
  refine CtOk.fn tb78_ok mixed [] [] rfl rfl ?_
  rintro ⟨(t : Int), (l : List Val), _⟩ hpre
  replace hpre := hpre _ rfl
  dsimp only [cu] at hpre
  obtain ⟨hl, hv⟩ := hpre
  refine ⟨[(0, 6, LA.mk [.sl 10 (.int .i64), .row 0 [.osf 0, .own (.int .u8) 5]] (fun y => Tag 58 ∧ cu [.int .i64, .bool, .list (.int .u8)] (fun (k : Int) (b0 : Bool) (B : List Int) => (0 ≤ k ∧ k ≤ l.length) ∧ (plL t l = ofInts B ++ plL t (l.drop k.toNat)) ∧ ((B.length : Int) ≤ 1048586 * k)) y) (cu [.int .i64, .bool, .list (.int .u8)] (fun (k : Int) (b0 : Bool) (B : List Int) => ((l.length : Int) - k).toNat)) (cu [.int .i64, .bool, .list (.int .u8)] (fun (k : Int) (b0 : Bool) (B : List Int) => ([] : List (Nat × Nat × LA)))))], ?_⟩
  repeat' (first
    | (
 with_reducible refine Side.mk ⟨(⟨⟩ : Tag 58), ?_⟩
 dsimp only [cu, joinT, ckTys, gts, Prod.eta, List.nil_append]
 refine ⟨?_, ?_, ?_⟩
 · omega
 · first
   | (
  show plL t l = ByteArray.empty ++ plL t l
  rw [ByteArray.empty_append])
   | (
  have hat := okV_at hv k.toNat
  have hat1 := hat.1
  have h64 := u64_id (n := (l[k.toNat]!.2.2.size : Int)) (by omega)
  have p1 := put_size (l[k.toNat]!.2.2.size : Int)
  have p2 := put_size (zigS l[k.toNat]!.2.1)
  first
  | (
   have ht : t = 3 := by with_reducible assumption
   rw [hB, plL_step (by omega), plV, if_pos ht, h64, ofInts_app, ofInts_toInts]
   simp only [ByteArray.append_assoc])
  | (
   have ht : ¬ t = 3 := by with_reducible assumption
   rw [hB, plL_step (by omega), plV, if_neg ht, ofInts_app, ofInts_toInts]
   simp only [ByteArray.append_assoc]))
 · first
   | (exact Int.le_refl _)
   | (
  have hat := okV_at hv k.toNat
  have hat1 := hat.1
  have h64 := u64_id (n := (l[k.toNat]!.2.2.size : Int)) (by omega)
  have p1 := put_size (l[k.toNat]!.2.2.size : Int)
  have p2 := put_size (zigS l[k.toNat]!.2.1)
  simp only [List.length_append, toInts_len, ByteArray.size_append, h64]
  omega))
    | (
 with_reducible refine Side.mk ?_
 (try dsimp only [cu, joinT, ckTys, gts, loK, hiK, Prod.eta, List.nil_append])
 first
 | (done)
 | (with_reducible rfl)
 | (omega)
 | (exact Eq.refl _)
 | (simp only [List.length_append, List.length_cons, List.length_nil]; omega)
 | (exact u64_wrap _)
 | (
  have hat := okV_at hv k.toNat
  have hat1 := hat.1
  have h64 := u64_id (n := (l[k.toNat]!.2.2.size : Int)) (by omega)
  have p1 := put_size (l[k.toNat]!.2.2.size : Int)
  have p2 := put_size (zigS l[k.toNat]!.2.1)
  first
  | (exact zig_rng hat.2)
  | (exact hat.2)
  | (
   (try simp only [ByteArray.size_append, h64])
   omega)))
    | (conv => whnf
       first
        | done
        | exact trivial
        | with_reducible refine NilBr.mk (fun h => ?_) ?_
        | with_reducible first | refine w_andS ?_ ?_ | refine w_andL ?_ ?_ | refine w_kern (by kernel_rfl) ?_ | refine w_true ?_ | refine w_nd ?_ ?_ | refine w_in ?_ ?_ | refine w_and ?_ ?_
        | ((with_reducible first | refine w_brN (fun h => ?_) (fun h => ?_) | refine w_brD (fun h => ?_) (fun h => ?_) | refine w_br (fun h => ?_) (fun h => ?_)) <;> (try dsimp only [cu, Prod.eta, List.nil_append] at h) <;> (try (exfalso; omega; done)))
        | (
 intro yy (hy : Tag 58 ∧ _)
 obtain ⟨(k : Int), (b0 : Bool), (B : List Int), _⟩ := yy
 replace hy := hy.2
 dsimp only [cu, joinT, ckTys, gts, Prod.eta, List.nil_append] at hy
 obtain ⟨hk, hB, hz⟩ := hy
 rcases b0 with _ | _)))
  all_goals (
 with_reducible refine Leaf.mk ?_
 (try dsimp only [cu, joinT, ckTys, gts, Prod.eta, List.nil_append] at *)
 first
 | (done)
 | (rw [hB, List.drop_eq_nil_of_le (by omega), plL, ByteArray.append_empty]))
abbrev tb79 : Tbl := (15, c_cplain_ok) :: tb78
theorem tb79_ok : TblOk Tryz.prog tb79 := TblOk.cons cplain_ok tb78_ok


open Go.RowKit
/- Blocks. -/
theorem usub (v m : Int) : IntKind.u64.wrap (IntKind.u64.wrap v - IntKind.u64.wrap m) = IntKind.u64.wrap (IntKind.i64.wrap (v - m)) := by
  simp [IntKind.wrap, IntKind.bits, IntKind.signed]; omega
def usF (m : Int) (D : List Int) (k : Int) : List Int := usL m (D.take k.toNat) ++ List.replicate (D.length - k.toNat) 0
theorem usF_zero (m : Int) (D : List Int) : List.replicate D.length 0 = usF m D 0 := by simp [usF, usL]
theorem usF_len (m : Int) (D : List Int) (k : Int) (h : 0 ≤ k ∧ k ≤ D.length) : (usF m D k).length = D.length := by
  simp [usF, usL]; omega
theorem usF_set {m : Int} {D : List Int} {k : Int} (h : 0 ≤ k ∧ k < D.length) : (usF m D k).set k.toNat (IntKind.u64.wrap (IntKind.i64.wrap (D[k.toNat]! - m))) = usF m D (k + 1) := by
  unfold usF
  rw [usL_step h]
  have hl : (usL m (D.take k.toNat)).length = k.toNat := by simp [usL]; omega
  rw [List.set_append_right _ _ (by omega), hl, Nat.sub_self, show D.length - k.toNat = (D.length - (k + 1).toNat) + 1 by omega, List.replicate_succ, List.set_cons_zero, List.append_assoc]
  rfl
theorem usF_get {m : Int} {D : List Int} {k : Int} (h : 0 ≤ k ∧ k < D.length) (v : Int) : ((usF m D k).set k.toNat v)[k.toNat]! = v := by
  rw [getElem!_pos _ _ (by rw [List.length_set, usF_len _ _ _ (by omega)]; omega), List.getElem_set_self]
theorem usF_full {m : Int} {D : List Int} {k : Int} (h : k = D.length) : usF m D k = usL m D := by
  unfold usF
  rw [List.take_of_length_le (by omega), show D.length - k.toNat = 0 by omega, List.replicate_zero, List.append_nil]
theorem mwL_step {m : Int} {D : List Int} {k : Int} (h : 0 ≤ k ∧ k < D.length) : mwL (usL m (D.take (k + 1).toNat)) = maxI (mwL (usL m (D.take k.toNat))) (lenI (IntKind.u64.wrap (IntKind.i64.wrap (D[k.toNat]! - m)))) := by
  rw [usL_step h, mwL_app]
theorem mnL_in {D : List Int} (h : 1 ≤ D.length) (hv : ∀ x, x ∈ D → inI x) : inI (mnL D) := hv _ (mnL_mem (fun e => by rw [e] at h; simp at h))

abbrev c_block_ok : Ct := .fn [.list (.int .i64)] (some (fun (d : List Int) => (1 ≤ d.length ∧ d.length ≤ 1073741824) ∧ (∀ x, x ∈ d → inI x))) (fun (d : List Int) => .d .str (blkE d))
set_option maxRecDepth 100000 in
set_option maxHeartbeats 4000000 in
theorem block_ok : CtOk Tryz.prog 49 c_block_ok := by
  refine CtOk.fn tb79_ok mixed [] [] rfl rfl ?_
  rintro ⟨(d : List Int), _⟩ hpre
  replace hpre := hpre _ rfl
  dsimp only [cu] at hpre
  obtain ⟨hl, hv⟩ := hpre
  refine ⟨[(0, 10, LA.mk [.sl 17 (.int .i64), .ar 0 (.int .u64) 49, .sl 5 (.int .i64)] (fun y => Tag 59 ∧ cu [.int .i64, .list (.int .u64), .int .i64] (fun (k : Int) (o : List Int) (w : Int) => (0 ≤ k ∧ k ≤ d.length) ∧ (o = usF (mnL d) d k) ∧ (w = mwL (usL (mnL d) (d.take k.toNat)))) y) (cu [.int .i64, .list (.int .u64), .int .i64] (fun (k : Int) (o : List Int) (w : Int) => ((d.length : Int) - k).toNat)) (cu [.int .i64, .list (.int .u64), .int .i64] (fun (k : Int) (o : List Int) (w : Int) => ([] : List (Nat × Nat × LA)))))], ?_⟩
  repeat' (first
    | (
 with_reducible refine Side.mk ⟨(⟨⟩ : Tag 59), ?_⟩
 dsimp only [cu, joinT, ckTys, gts, Prod.eta, List.nil_append]
 refine ⟨?_, ?_, ?_⟩
 · omega
 · first
   | (exact usF_zero _ _)
   | (rw [ho, usub, usF_set (by omega)])
 · first
   | (rfl)
   | (
  (try simp only [u64_get])
  rw [ho, usub, usF_get (by omega), mwL_step (by omega), ← hw]))
    | (
 with_reducible refine Side.mk ?_
 (try dsimp only [cu, joinT, ckTys, gts, loK, hiK, Prod.eta, List.nil_append])
 first
 | (done)
 | (with_reducible rfl)
 | (omega)
 | (exact Eq.refl _)
 | (simp only [List.length_append, List.length_cons, List.length_nil]; omega)
 | (
  have hol := usF_len (mnL d) d k (by omega)
  rw [← ho] at hol
  (try simp only [List.length_set])
  omega)
 | (
  (try simp only [u64_get])
  rw [ho, usub, usF_get (by omega)]
  exact u64_wrap _)
 | (exact ⟨hl.1, by omega⟩)
 | (exact mnL_in hl.1 hv)
 | (exact zig_rng (mnL_in hl.1 hv))
 | (
  have hof : o = usL (mnL d) d := by rw [ho, usF_full (by omega)]
  have hol := usF_len (mnL d) d k (by omega)
  rw [← ho] at hol
  refine ⟨fun q => ?_, by omega⟩
  rw [hof]
  exact usL_u64 _ _ q)
 | (
  have h1 := put_size (zigS (mnL d))
  have h2 := packR_size o w
  simp only [ByteArray.size_append, one_size, ofInts_len [_], List.length_cons, List.length_nil]
  omega))
    | (conv => whnf
       first
        | done
        | exact trivial
        | with_reducible refine NilBr.mk (fun h => ?_) ?_
        | with_reducible first | refine w_andS ?_ ?_ | refine w_andL ?_ ?_ | refine w_kern (by kernel_rfl) ?_ | refine w_true ?_ | refine w_nd ?_ ?_ | refine w_in ?_ ?_ | refine w_and ?_ ?_
        | ((with_reducible first | refine w_brN (fun h => ?_) (fun h => ?_) | refine w_brD (fun h => ?_) (fun h => ?_) | refine w_br (fun h => ?_) (fun h => ?_)) <;> (try dsimp only [cu, Prod.eta, List.nil_append] at h) <;> (try (exfalso; omega; done)))
        | (
 intro yy (hy : Tag 59 ∧ _)
 obtain ⟨(k : Int), (o : List Int), (w : Int), _⟩ := yy
 replace hy := hy.2
 dsimp only [cu, joinT, ckTys, gts, Prod.eta, List.nil_append] at hy
 obtain ⟨hk, ho, hw⟩ := hy)))
  all_goals (
 with_reducible refine Leaf.mk ?_
 (try dsimp only [cu, joinT, ckTys, gts, Prod.eta, List.nil_append] at *)
 first
 | (done)
 | (
  have hof : o = usL (mnL d) d := by rw [ho, usF_full (by omega)]
  have hwf : w = mwL (usL (mnL d) d) := by rw [hw, List.take_of_length_le (by omega)]
  unfold blkE
  rw [← hof, hwf, ← hof]
  (try rfl)))
abbrev tb80 : Tbl := (49, c_block_ok) :: tb79
theorem tb80_ok : TblOk Tryz.prog tb80 := TblOk.cons block_ok tb79_ok


/- Chunks of 32. -/
set_option maxRecDepth 100000 in
set_option maxHeartbeats 2000000 in
theorem chunk_it : ChunkIt Tryz.prog 70 := by
  intro n l b1 o1 b2 o2 g off len cap N sv hsv hlen hN J Jx hJ hY W h1 h2 h0
  rcases hsv with ⟨rfl, rfl⟩ | ⟨rfl, hcap⟩
  · refine callsIn_of_wp Tryz.func70 rfl trivial ?_ rfl
    simp only [Tryz.ntmps70, List.size_toArray, List.length_cons, List.length_nil, Nat.reduceAdd, Nat.reduceSub, Array.replicate_succ, Array.replicate_zero, List.push_toArray, List.append_toArray, List.nil_append, List.cons_append]
    gi_wp2
    gi_loopw [4] (fun i wr => i = .int .i64 0 ∧ J [] wr ∧ Kp ⟨b1, o1, none⟩ ⟨b2, o2, none⟩ W wr) (fun i _ => 0)
    case atStart => exact ⟨rfl, h0, rfl, rfl⟩
    case round =>
      obtain ⟨rfl, hJs, hk1, hk2⟩ := hrel
      have c1 : wr.cell? ⟨b1, o1, none⟩ = some (.slice none 0 0) := hk1.trans h1
      have c2 : wr.cell? ⟨b2, o2, none⟩ = some (.int .i64 32) := hk2.trans h2
      gi_wp2
      go_end0
      exact ⟨⟨_, rfl⟩, .inl ⟨[], ⟨0, rfl, by omega, by omega⟩, hJs⟩⟩
  · refine callsIn_of_wp Tryz.func70 rfl trivial ?_ rfl
    simp only [Tryz.ntmps70, List.size_toArray, List.length_cons, List.length_nil, Nat.reduceAdd, Nat.reduceSub, Array.replicate_succ, Array.replicate_zero, List.push_toArray, List.append_toArray, List.nil_append, List.cons_append]
    gi_wp2
    gi_loopw [4] (fun i wr => ∃ (k : Nat) (ys : List (Ck len)), i = .int .i64 ((32 * k : Nat) : Int) ∧ ys.map (·.1) = List.range k ∧ 32 * k < len + 32 ∧ J ys wr ∧ Kp ⟨b1, o1, none⟩ ⟨b2, o2, none⟩ W wr)
      (fun i _ => len + 32 - (intOf i).toNat)
    case atStart => exact ⟨0, [], rfl, rfl, by omega, h0, rfl, rfl⟩
    case round =>
      obtain ⟨k, ys, rfl, hys, hk, hJs, hk1, hk2⟩ := hrel
      have c1 : wr.cell? ⟨b1, o1, none⟩ = some (.slice (some ⟨g, off, none⟩) len cap) := hk1.trans h1
      have c2 : wr.cell? ⟨b2, o2, none⟩ = some (.int .i64 32) := hk2.trans h2
      by_cases hlt : 32 * k < len
      · have hyl : ys.length = k := by have := congrArg List.length hys; simpa using this
        gi_wp2
        gi_region
        obtain ⟨m, hm⟩ : ∃ m, m = min 32 (len - 32 * k) := ⟨_, rfl⟩
        have hmi : (if ((len - 32 * k : Nat) : Int) < 32 then ((len - 32 * k : Nat) : Int) else 32) = ((m : Nat) : Int) := by
          rw [hm]; split <;> omega
        have hm1 : 32 * k + m ≤ len ∧ 1 ≤ m ∧ m ≤ 32 := by omega
        have hJd : J ys wr.drew := hJ ys wr wr.drew none hJs ⟨rfl, rfl, rfl, Nat.le_refl _, fun k _ _ => rfl⟩ (fun r q => by cases q)
        obtain ⟨fn, tmps, assign, body, hy, hR⟩ := hY ys ⟨k, hlt⟩ wr.drew hJd (by omega)
        have c1 : wr.drew.cell? ⟨b1, o1, none⟩ = some (.slice (some ⟨g, off, none⟩) len cap) := c1
        have c2 : wr.drew.cell? ⟨b2, o2, none⟩ = some (.int .i64 32) := c2
        dsimp only [ckV] at hy
        first | rw [hmi] | rw [show min (32 : Int) ((len - 32 * k : Nat) : Int) = ((m : Nat) : Int) by rw [hm]; omega]
        gi_wp2
        refine ⟨(by intro q; cases q), hR.mono ?_⟩
        rintro e W3 (⟨rfl, hJ3, hk31, hk32⟩ | ⟨rfl, hJx3⟩)
        · have c3 : W3.cell? ⟨b2, o2, none⟩ = some (.int .i64 32) := hk32.trans c2
          gi_wp2
          go_roundw
          case rel => exact ⟨k + 1, ys ++ [⟨k, hlt⟩], by simp; omega, by rw [List.map_append, hys, List.range_succ]; rfl, by omega, hJ3, hk31.trans hk1, hk32.trans hk2⟩
          case measure => simp [intOf]; omega
        · gi_wp2
          refine bodyPost_ret (results_none rfl _ _ _) rfl ?_
          exact ⟨⟨_, rfl⟩, .inr ⟨_, hJx3⟩⟩
      · gi_wp2
        go_end0
        exact ⟨⟨_, rfl⟩, .inl ⟨ys, ⟨k, hys, by omega, by omega⟩, hJs⟩⟩

end Go.Proofs.YtlamfjhhjfgemaaGreat
