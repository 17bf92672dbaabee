/- Contracts of the decoding of chunks; makers of values. -/
import Derived.Test.YtlamfjhhjfgemaaBody
namespace Go.Proofs.Ytlamfjhhjfgemaa
open Go.Abs
set_option linter.unusedVariables false
set_option linter.unusedSimpArgs false

abbrev c_cdec_ok : Ct := .fn [tCol, .str] (some (fun (c : Col) (s : ByteArray) => (s.size ≤ 288230376151711744))) (fun (c : Col) (s : ByteArray) => .tup [.list tVal, .int .i64] ((decV c s).1, (decV c s).2, ()))
set_option maxRecDepth 100000 in
set_option maxHeartbeats 4000000 in
theorem cdec_ok : CtOk Try.prog 17 c_cdec_ok := by
  refine CtOk.fn tb58_ok mixed [] [] rfl rfl ?_
  rintro ⟨(c : Col), (s : ByteArray), _⟩ hpre
  replace hpre := hpre _ rfl
  dsimp only [cu] at hpre
  have hs := hpre
  refine ⟨[], ?_⟩
  repeat' (first
    | (
 with_reducible refine Side.mk ?_
 (try dsimp only [cu, joinT, ckTys, gts, loK, hiK, Prod.eta, List.nil_append])
 first
 | (done)
 | (with_reducible rfl)
 | (omega)
 | (exact Eq.refl _)
 | (simp only [List.length_append, List.length_cons, List.length_nil]; omega)
 | (
  have ho : openE s = 0 := by with_reducible assumption
  have hz := open_ok ho
  have hbz := body_size (s := s) (by omega)
  have hbl := body_le s
  have ei : (if openE s = 0 then bodyS s else EMP) = bodyS s := if_pos ho
  first
  | (
   rw [ei]
   exact ⟨by omega, by omega⟩)
  | (exact ⟨by rw [ei]; omega, by rw [ei]; omega⟩)))
    | (conv => whnf
       first
        | done
        | exact trivial
        | with_reducible refine NilBr.mk (fun h => ?_) ?_
        | with_reducible first | refine w_andS ?_ ?_ | refine w_andL ?_ ?_ | refine w_kern (by kernel_rfl) ?_ | refine w_true ?_ | refine w_nd ?_ ?_ | refine w_in ?_ ?_ | refine w_and ?_ ?_
        | ((with_reducible first | refine w_brN (fun h => ?_) (fun h => ?_) | refine w_brD (fun h => ?_) (fun h => ?_) | refine w_br (fun h => ?_) (fun h => ?_)) <;> (try dsimp only [cu, Prod.eta, List.nil_append] at h) <;> (try (exfalso; omega; done)))))
  all_goals (
 with_reducible refine Leaf.mk ?_
 (try dsimp only [cu, joinT, ckTys, gts, Prod.eta, List.nil_append] at *)
 first
 | (done)
 | (
  have hk : vKnown c.2.1 = false := by simp [vKnown]; omega
  rw [decV_0 hk])
 | (
  have hk : vKnown c.2.1 = true := by simp [vKnown]; omega
  have ho : ¬ openE s = 0 := by with_reducible assumption
  rw [decV_1 hk ho])
 | (
  have ho : openE s = 0 := by with_reducible assumption
  have hz := open_ok ho
  have hbz := body_size (s := s) (by omega)
  have hbl := body_le s
  have ei : (if openE s = 0 then bodyS s else EMP) = bodyS s := if_pos ho
  have hk : vKnown c.2.1 = true := by simp [vKnown]; omega
  first
  | (
   have hb : (bodS c (if openE s = 0 then bodyS s else EMP)).2 = false := by first | with_reducible assumption | exact nz_f (by with_reducible assumption)
   rw [ei] at hb
   rw [decV_2 hk ho hb])
  | (
   have hb : (bodS c (if openE s = 0 then bodyS s else EMP)).2 = true := by first | with_reducible assumption | exact nz_t (by with_reducible assumption)
   rw [ei] at hb
   (try rw [ei])
   rw [decV_3 hk ho hb])))
abbrev tb59 : Tbl := (17, c_cdec_ok) :: tb58
theorem tb59_ok : TblOk Try.prog tb59 := TblOk.cons cdec_ok tb58_ok

abbrev tSrc : Ty := .pair (.list (.int .i64)) (.int .i64)
abbrev Src : Type := (List Int) × Int
@[reducible] instance : Inhabited Src := instInhabitedDen tSrc


def pick (v n : Int) : Int := IntKind.i64.wrap (Int.tmod (IntKind.u64.wrap v) (IntKind.u64.wrap n))
theorem pick_lt {v n : Int} (h : 0 < n ∧ n ≤ 9223372036854775807) : 0 ≤ pick v n ∧ pick v n < n := by
  have hn : IntKind.u64.wrap n = n := IntWalk.u64_in n (by omega)
  have hv : 0 ≤ IntKind.u64.wrap v := by simp [IntKind.wrap, IntKind.bits, IntKind.signed]; omega
  have h1 := Int.tmod_nonneg (IntKind.u64.wrap n) hv
  have h2 := Int.tmod_lt_of_pos (IntKind.u64.wrap v) (show 0 < IntKind.u64.wrap n by omega)
  rw [hn] at h1 h2
  unfold pick
  rw [hn, wrap64] <;> omega
theorem u64_ne {n : Int} (h : 0 < n ∧ n ≤ 9223372036854775807) : ¬ IntKind.u64.wrap n = 0 := by
  rw [IntWalk.u64_in n (by omega)]; omega
def Src.ok (s : Src) : Prop := (0 : Int) ≤ s.2 ∧ s.1.length ≤ 9223372036854775807
def Src.next (s : Src) : Src := if s.2 ≥ s.1.length then s else ⟨s.1, s.2 + 1⟩
def Src.val (s : Src) : Int := if s.2 ≥ s.1.length then 0 else s.1[s.2.toNat]!
def Src.pick (s : Src) (n : Int) : Int := if s.2 ≥ s.1.length then 0 else Go.Proofs.Ytlamfjhhjfgemaa.pick s.1[s.2.toNat]! n
theorem Src.ok_next {s : Src} (h : Src.ok s) : Src.ok (Src.next s) := by
  unfold Src.ok Src.next at *
  split
  · exact h
  · exact ⟨show (0 : Int) ≤ s.2 + 1 by have := h.1; omega, h.2⟩
theorem Src.pick_lt {s : Src} {n : Int} (h : 0 < n ∧ n ≤ 9223372036854775807) : 0 ≤ Src.pick s n ∧ Src.pick s n < n := by
  unfold Src.pick
  split
  · omega
  · exact Go.Proofs.Ytlamfjhhjfgemaa.pick_lt h
theorem Src.ok_from {l : List Int} (h : l.length ≤ 9223372036854775807) : Src.ok (l, 0) := ⟨by simp, h⟩

abbrev c_pick_ok : Ct := .fn [.int .i64, .int .i64] (some (fun (v : Int) (n : Int) => (¬ IntKind.u64.wrap n = 0))) (fun (v : Int) (n : Int) => .d (.int .i64) (pick v n))
set_option maxRecDepth 100000 in
set_option maxHeartbeats 4000000 in
theorem pick_ok : CtOk Try.prog 11 c_pick_ok := by
  refine CtOk.fn tb59_ok mixed [(0, 1, 5)] [] rfl rfl ?_
  rintro ⟨(v : Int), (n : Int), _⟩ hpre
  replace hpre := hpre _ rfl
  dsimp only [cu] at hpre
  have hn := hpre
  refine ⟨[], ?_⟩
  repeat' (first
    | (
 with_reducible refine Side.mk ?_
 (try dsimp only [cu, joinT, ckTys, gts, loK, hiK, Prod.eta, List.nil_append])
 first
 | (done)
 | (with_reducible rfl)
 | (omega)
 | (exact Eq.refl _)
 | (simp only [List.length_append, List.length_cons, List.length_nil]; omega)
 | (assumption))
    | (conv => whnf
       first
        | done
        | exact trivial
        | with_reducible refine NilBr.mk (fun h => ?_) ?_
        | with_reducible first | refine w_andS ?_ ?_ | refine w_andL ?_ ?_ | refine w_kern (by kernel_rfl) ?_ | refine w_true ?_ | refine w_nd ?_ ?_ | refine w_in ?_ ?_ | refine w_and ?_ ?_
        | ((with_reducible first | refine w_brN (fun h => ?_) (fun h => ?_) | refine w_brD (fun h => ?_) (fun h => ?_) | refine w_br (fun h => ?_) (fun h => ?_)) <;> (try dsimp only [cu, Prod.eta, List.nil_append] at h) <;> (try (exfalso; omega; done)))))
  all_goals (
 with_reducible refine Leaf.mk ?_
 (try dsimp only [cu, joinT, ckTys, gts, Prod.eta, List.nil_append] at *)
 first
 | (done)
 | (rfl))
abbrev tb60 : Tbl := (11, c_pick_ok) :: tb59
theorem tb60_ok : TblOk Try.prog tb60 := TblOk.cons pick_ok tb59_ok

abbrev c_next_ok : Ct := .meth tSrc 83 [.int .i64] (some (fun (s : Src) (n : Int) => (Src.ok s) ∧ (¬ IntKind.u64.wrap n = 0))) (fun (s : Src) (n : Int) => .d (.int .i64) (Src.pick s n)) (fun (s : Src) (n : Int) => Src.next s)
set_option maxRecDepth 100000 in
set_option maxHeartbeats 4000000 in
theorem next_ok : CtOk Try.prog 31 c_next_ok := by
  refine CtOk.meth tb60_ok mixed [] [] rfl rfl ?_
  rintro (s : Src) ⟨(n : Int), _⟩ hpre
  replace hpre := hpre _ rfl
  dsimp only [cu] at hpre
  obtain ⟨hs, hn⟩ := hpre
  obtain ⟨hs0, hs1⟩ := hs
  refine ⟨[], ?_⟩
  repeat' (first
    | (
 with_reducible refine Side.mk ?_
 (try dsimp only [cu, joinT, ckTys, gts, loK, hiK, Prod.eta, List.nil_append])
 first
 | (done)
 | (with_reducible rfl)
 | (omega)
 | (exact Eq.refl _)
 | (simp only [List.length_append, List.length_cons, List.length_nil]; omega)
 | (assumption))
    | (conv => whnf
       first
        | done
        | exact trivial
        | with_reducible refine NilBr.mk (fun h => ?_) ?_
        | with_reducible first | refine w_andS ?_ ?_ | refine w_andL ?_ ?_ | refine w_kern (by kernel_rfl) ?_ | refine w_true ?_ | refine w_nd ?_ ?_ | refine w_in ?_ ?_ | refine w_and ?_ ?_
        | ((with_reducible first | refine w_brN (fun h => ?_) (fun h => ?_) | refine w_brD (fun h => ?_) (fun h => ?_) | refine w_br (fun h => ?_) (fun h => ?_)) <;> (try dsimp only [cu, Prod.eta, List.nil_append] at h) <;> (try (exfalso; omega; done)))))
  all_goals (
 with_reducible refine Leaf.mk ?_
 (try dsimp only [cu, joinT, ckTys, gts, Prod.eta, List.nil_append] at *)
 first
 | (done)
 | (rw [Src.pick, if_pos (by omega)])
 | (rw [Src.next, if_pos (by omega)])
 | (
  rw [Src.pick, if_neg (by omega)]
  rw [show s.2 + 1 - 1 = s.2 by omega])
 | (rw [Src.next, if_neg (by omega)]))
abbrev tb61 : Tbl := (31, c_next_ok) :: tb60
theorem tb61_ok : TblOk Try.prog tb61 := TblOk.cons next_ok tb60_ok

abbrev c_raw_ok : Ct := .meth tSrc 83 [] (some (fun (s : Src) => (Src.ok s))) (fun (s : Src) => .d (.int .i64) (Src.val s)) (fun (s : Src) => Src.next s)
set_option maxRecDepth 100000 in
set_option maxHeartbeats 4000000 in
theorem raw_ok : CtOk Try.prog 53 c_raw_ok := by
  refine CtOk.meth tb61_ok mixed [] [] rfl rfl ?_
  rintro (s : Src) ⟨⟩ hpre
  replace hpre := hpre _ rfl
  dsimp only [cu] at hpre
  have hs := hpre
  obtain ⟨hs0, hs1⟩ := hs
  refine ⟨[], ?_⟩
  repeat' (first
    | (
 with_reducible refine Side.mk ?_
 (try dsimp only [cu, joinT, ckTys, gts, loK, hiK, Prod.eta, List.nil_append])
 first
 | (done)
 | (with_reducible rfl)
 | (omega)
 | (exact Eq.refl _)
 | (simp only [List.length_append, List.length_cons, List.length_nil]; omega)
 | (assumption))
    | (conv => whnf
       first
        | done
        | exact trivial
        | with_reducible refine NilBr.mk (fun h => ?_) ?_
        | with_reducible first | refine w_andS ?_ ?_ | refine w_andL ?_ ?_ | refine w_kern (by kernel_rfl) ?_ | refine w_true ?_ | refine w_nd ?_ ?_ | refine w_in ?_ ?_ | refine w_and ?_ ?_
        | ((with_reducible first | refine w_brN (fun h => ?_) (fun h => ?_) | refine w_brD (fun h => ?_) (fun h => ?_) | refine w_br (fun h => ?_) (fun h => ?_)) <;> (try dsimp only [cu, Prod.eta, List.nil_append] at h) <;> (try (exfalso; omega; done)))))
  all_goals (
 with_reducible refine Leaf.mk ?_
 (try dsimp only [cu, joinT, ckTys, gts, Prod.eta, List.nil_append] at *)
 first
 | (done)
 | (rw [Src.val, if_pos (by omega)])
 | (rw [Src.next, if_pos (by omega)])
 | (
  rw [Src.val, if_neg (by omega)]
  rw [show s.2 + 1 - 1 = s.2 by omega])
 | (rw [Src.next, if_neg (by omega)]))
abbrev tb62 : Tbl := (53, c_raw_ok) :: tb61
theorem tb62_ok : TblOk Try.prog tb62 := TblOk.cons raw_ok tb61_ok

abbrev c_from_ok : Ct := .new tSrc 83 [.list (.int .i64)] (none) (fun (l : List Int) => ((l, 0) : Src))
set_option maxRecDepth 100000 in
set_option maxHeartbeats 4000000 in
theorem from_ok : CtOk Try.prog 30 c_from_ok := by
  refine CtOk.new tb62_ok mixed [] [] rfl rfl ?_
  rintro ⟨(l : List Int), _⟩ -
  refine ⟨[], ?_⟩
  repeat' (first
    | (
 with_reducible refine Side.mk ?_
 (try dsimp only [cu, joinT, ckTys, gts, loK, hiK, Prod.eta, List.nil_append])
 first
 | (done)
 | (with_reducible rfl)
 | (omega)
 | (exact Eq.refl _)
 | (simp only [List.length_append, List.length_cons, List.length_nil]; omega)
 | (grind))
    | (conv => whnf
       first
        | done
        | exact trivial
        | with_reducible refine NilBr.mk (fun h => ?_) ?_
        | with_reducible first | refine w_andS ?_ ?_ | refine w_andL ?_ ?_ | refine w_kern (by kernel_rfl) ?_ | refine w_true ?_ | refine w_nd ?_ ?_ | refine w_in ?_ ?_ | refine w_and ?_ ?_
        | ((with_reducible first | refine w_brN (fun h => ?_) (fun h => ?_) | refine w_brD (fun h => ?_) (fun h => ?_) | refine w_br (fun h => ?_) (fun h => ?_)) <;> (try dsimp only [cu, Prod.eta, List.nil_append] at h) <;> (try (exfalso; omega; done)))))
  all_goals (
 with_reducible refine Leaf.mk ?_
 (try dsimp only [cu, joinT, ckTys, gts, Prod.eta, List.nil_append] at *)
 first
 | (done)
 | (rfl))
abbrev tb63 : Tbl := (30, c_from_ok) :: tb62
theorem tb63_ok : TblOk Try.prog tb63 := TblOk.cons from_ok tb62_ok


theorem ofInts_size (l : List Int) : (ofInts l).size = l.length := by simp [ofInts, ByteArray.size]
theorem chr_size (n : Int) : (ofInts [n]).size = 1 := rfl


def lettersGo : Nat → Src → ByteArray → ByteArray × Src
  | 0, s, x => (x, s)
  | n + 1, s, x => lettersGo n (Src.next s) (x ++ ofInts [IntKind.u8.wrap (97 + Src.pick s 3)])
def bitAnd (a b : Int) : Int := IntKind.i64.wrap ((BitVec.ofInt IntKind.i64.bits a &&& BitVec.ofInt IntKind.i64.bits b).toNat : Int)
def kNull (s : Src) (c : Col) : Bool := c.2.2.2 && decide (Src.pick s 4 = 0)
def kSrc1 (s : Src) (c : Col) : Src := if c.2.2.2 = true then Src.next s else s
def kNum (s : Src) : Int × Src := if Src.pick (Src.next s) 8 = 0 then (Src.val (Src.next (Src.next s)), Src.next (Src.next (Src.next s))) else if Src.pick (Src.next s) 8 = 1 then (Int.tmod (Src.val (Src.next (Src.next s))) 1000, Src.next (Src.next (Src.next s)))
  else (IntKind.i64.wrap (Src.pick s 7 - 2), Src.next (Src.next s))
def kFin (c : Col) (n : Int) (s : Src) : Val × Src :=
  if c.2.1 = 2 then (⟨false, bitAnd n 1, EMP⟩, s)
  else if c.2.1 = 3 then (⟨false, 0, (lettersGo (Src.pick s 4).toNat (Src.next s) EMP).1⟩, (lettersGo (Src.pick s 4).toNat (Src.next s) EMP).2)
  else if c.2.1 = 4 then (⟨false, Int.tmod n 700000, EMP⟩, s) else if c.2.1 = 5 then (⟨false, Int.tmod n 1000000000000000000, EMP⟩, s) else (⟨false, n, EMP⟩, s)
def kValue (s : Src) (c : Col) : Val × Src := if kNull s c = true then (⟨true, 0, EMP⟩, Src.next s) else kFin c (kNum (kSrc1 s c)).1 (kNum (kSrc1 s c)).2
theorem lettersGo_step {k : Int} (h : k > 0) (s : Src) (x : ByteArray) : lettersGo k.toNat s x = lettersGo (k - 1).toNat (Src.next s) (x ++ ofInts [IntKind.u8.wrap (97 + Src.pick s 3)]) := by
  rw [show k.toNat = (k - 1).toNat + 1 by omega]; rfl
theorem lettersGo_size : ∀ (n : Nat) (s : Src) (x : ByteArray), (lettersGo n s x).1.size = x.size + n
  | 0, s, x => rfl
  | n + 1, s, x => by
    rw [lettersGo, lettersGo_size n, ByteArray.size_append]
    rw [chr_size]
    omega
theorem lettersGo_ok : ∀ (n : Nat) (s : Src) (x : ByteArray), Src.ok s → Src.ok (lettersGo n s x).2
  | 0, s, x, h => h
  | n + 1, s, x, h => lettersGo_ok n _ _ (Src.ok_next h)
theorem kValue_ok {s : Src} (c : Col) (h : Src.ok s) : Src.ok (kValue s c).2 := by
  have h1 : Src.ok (kSrc1 s c) := by unfold kSrc1; split; exact Src.ok_next h; exact h
  have h2 : Src.ok (kNum (kSrc1 s c)).2 := by
    unfold kNum; split
    · exact Src.ok_next (Src.ok_next (Src.ok_next h1))
    · split
      · exact Src.ok_next (Src.ok_next (Src.ok_next h1))
      · exact Src.ok_next (Src.ok_next h1)
  unfold kValue
  split
  · exact Src.ok_next h
  · unfold kFin
    split; exact h2
    split; exact lettersGo_ok _ _ _ (Src.ok_next h2)
    split; exact h2
    split; exact h2
    exact h2

abbrev c_kvalue_ok : Ct := .meth tSrc 83 [tCol] (some (fun (s : Src) (c : Col) => (Src.ok s))) (fun (s : Src) (c : Col) => .d tVal ((kValue s c).1)) (fun (s : Src) (c : Col) => (kValue s c).2)
set_option maxRecDepth 100000 in
set_option maxHeartbeats 4000000 in
theorem kvalue_ok : CtOk Try.prog 32 c_kvalue_ok := by
  refine CtOk.meth tb63_ok mixed [(0, 3, 2)] [] rfl rfl ?_
  rintro (s : Src) ⟨(c : Col), _⟩ hpre
  replace hpre := hpre _ rfl
  dsimp only [cu] at hpre
  have hs := hpre
  refine ⟨[(0, 30, LA.mk [.sl 7 (.int .i64), .sl 6 .str, .ob 0 tSrc 83] (fun y => Tag 47 ∧ cu [.int .i64, .str, tSrc] (fun (k : Int) (x : ByteArray) (q : Src) => (0 ≤ k ∧ k ≤ 3) ∧ (Src.ok q) ∧ ((x.size : Int) ≤ 3 - k) ∧ (kValue s c = (((false, 0, (lettersGo k.toNat q x).1) : Val), (lettersGo k.toNat q x).2))) y) (cu [.int .i64, .str, tSrc] (fun (k : Int) (x : ByteArray) (q : Src) => k.toNat)) (cu [.int .i64, .str, tSrc] (fun (k : Int) (x : ByteArray) (q : Src) => ([] : List (Nat × Nat × LA)))))], ?_⟩
  repeat' (first
    | (
 with_reducible refine Side.mk ⟨(⟨⟩ : Tag 47), ?_⟩
 dsimp only [cu, joinT, ckTys, gts, Prod.eta, List.nil_append]
 refine ⟨?_, ?_, ?_, ?_⟩
 · first
   | (omega)
   | (have := @Src.pick_lt; grind)
 · (repeat (first | assumption | exact Src.ok_from (by assumption) | apply Src.ok_next | apply kValue_ok | apply kNode_ok))
 · first
   | (
  have h0 : (ByteArray.size ⟨#[]⟩) = 0 := rfl
  have := @Src.pick_lt; grind)
   | (
  rw [ByteArray.size_append, chr_size]
  omega)
 · first
   | (simp [kValue, kNull, kSrc1, kNum, kFin, *]; done)
   | (rw [hg, lettersGo_step (by assumption)]))
    | (
 with_reducible refine Side.mk ?_
 (try dsimp only [cu, joinT, ckTys, gts, loK, hiK, Prod.eta, List.nil_append])
 first
 | (done)
 | (with_reducible rfl)
 | (omega)
 | (exact Eq.refl _)
 | (simp only [List.length_append, List.length_cons, List.length_nil]; omega)
 | (
  refine ⟨?_, by decide⟩
  (repeat (first | assumption | exact Src.ok_from (by assumption) | apply Src.ok_next | apply kValue_ok | apply kNode_ok)); done)
 | ((repeat (first | assumption | exact Src.ok_from (by assumption) | apply Src.ok_next | apply kValue_ok | apply kNode_ok)); done)
 | (have := @Src.pick_lt; grind)
 | (
  rw [chr_size]
  omega))
    | (conv => whnf
       first
        | done
        | exact trivial
        | with_reducible refine NilBr.mk (fun h => ?_) ?_
        | with_reducible first | refine w_andS ?_ ?_ | refine w_andL ?_ ?_ | refine w_kern (by kernel_rfl) ?_ | refine w_true ?_ | refine w_nd ?_ ?_ | refine w_in ?_ ?_ | refine w_and ?_ ?_
        | ((with_reducible first | refine w_brN (fun h => ?_) (fun h => ?_) | refine w_brD (fun h => ?_) (fun h => ?_) | refine w_br (fun h => ?_) (fun h => ?_)) <;> (try dsimp only [cu, Prod.eta, List.nil_append] at h) <;> (try (exfalso; omega; done)))
        | (
 intro yy (hy : Tag 47 ∧ _)
 obtain ⟨(k : Int), (x : ByteArray), (q : Src), _⟩ := yy
 replace hy := hy.2
 dsimp only [cu, joinT, ckTys, gts, Prod.eta, List.nil_append] at hy
 obtain ⟨hk, hq, hx, hg⟩ := hy)))
  all_goals (
 with_reducible refine Leaf.mk ?_
 (try dsimp only [cu, joinT, ckTys, gts, Prod.eta, List.nil_append] at *)
 first
 | (done)
 | (simp [kValue, kNull, kSrc1, kNum, kFin, bitAnd, bAnd, *]; done)
 | (
  rw [show k.toNat = 0 by omega, lettersGo] at hg
  simp [hg]; done)
 | (grind [kValue, kNull, kSrc1, kNum, kFin, bitAnd, bAnd]))
abbrev tb64 : Tbl := (32, c_kvalue_ok) :: tb63
theorem tb64_ok : TblOk Try.prog tb64 := TblOk.cons kvalue_ok tb63_ok


def kVals : Nat → Src → Col → List Val → List Val × Src
  | 0, s, c, acc => (acc, s)
  | n + 1, s, c, acc => kVals n (kValue s c).2 c (acc ++ [(kValue s c).1])
theorem kVals_step {k : Int} (h : k > 0) (s : Src) (c : Col) (acc : List Val) : kVals k.toNat s c acc = kVals (k - 1).toNat (kValue s c).2 c (acc ++ [(kValue s c).1]) := by
  rw [show k.toNat = (k - 1).toNat + 1 by omega]; rfl
def kValuesS (c : Col) (l : List Int) : List Val := (kVals (Src.pick (l, 0) 40).toNat (Src.next (l, 0)) c []).1
def srcIn (s : Src) : Prop := ∀ x, x ∈ s.1 → inI x
theorem next_1 (s : Src) : (Src.next s).1 = s.1 := by unfold Src.next; split <;> rfl
theorem srcIn_next {s : Src} (h : srcIn s) : srcIn (Src.next s) := by unfold srcIn; rw [next_1]; exact h
theorem val_in {s : Src} (h : srcIn s) : inI (Src.val s) := by
  unfold Src.val
  split
  · unfold inI; exact ⟨by decide, by decide⟩
  · exact inI_at h _
theorem tmod_in {a b : Int} (h : inI a) : inI (Int.tmod a b) := by
  have h1 := Int.natAbs_tmod a b
  have h2 : a.natAbs % b.natAbs ≤ a.natAbs := Nat.mod_le _ _
  unfold inI at h ⊢
  by_cases q : 0 ≤ a
  · have := Int.tmod_nonneg b q; omega
  · have h3 : Int.tmod a b ≤ 0 := by
      have := Int.tmod_nonneg b (show 0 ≤ -a by omega)
      rw [Int.neg_tmod] at this; omega
    omega
theorem letters_1 : ∀ (n : Nat) (s : Src) (x : ByteArray), (lettersGo n s x).2.1 = s.1
  | 0, s, x => rfl
  | n + 1, s, x => by rw [lettersGo, letters_1 n, next_1]
theorem kNum_in {s : Src} (h : srcIn s) : inI (kNum s).1 ∧ srcIn (kNum s).2 := by
  have h1 := srcIn_next h
  have h2 := srcIn_next h1
  have h3 := srcIn_next h2
  unfold kNum
  split
  · exact ⟨val_in h2, h3⟩
  · split
    · exact ⟨tmod_in (val_in h2), h3⟩
    · exact ⟨wrap_in _, h2⟩
theorem zero_in : inI 0 := by unfold inI; exact ⟨by decide, by decide⟩
theorem emp_size : (ByteArray.mk #[]).size = 0 := rfl
theorem kFin_ok {c : Col} {n : Int} {s : Src} (hn : inI n) (hs : srcIn s) : okV (kFin c n s).1 ∧ srcIn (kFin c n s).2 := by
  unfold kFin
  split
  · exact ⟨⟨Nat.zero_le _, wrap_in _⟩, hs⟩
  · split
    · refine ⟨⟨?_, zero_in⟩, ?_⟩
      · show (lettersGo (Src.pick s 4).toNat (Src.next s) EMP).1.size ≤ 1048576
        rw [lettersGo_size]
        have := Src.pick_lt (s := s) (n := 4) (by decide)
        have e : EMP.size = 0 := rfl
        omega
      · show srcIn (lettersGo (Src.pick s 4).toNat (Src.next s) EMP).2
        unfold srcIn
        rw [letters_1, next_1]; exact hs
    · split
      · exact ⟨⟨Nat.zero_le _, tmod_in hn⟩, hs⟩
      · split
        · exact ⟨⟨Nat.zero_le _, tmod_in hn⟩, hs⟩
        · exact ⟨⟨Nat.zero_le _, hn⟩, hs⟩
theorem kValue_in {s : Src} (c : Col) (h : srcIn s) : okV (kValue s c).1 ∧ srcIn (kValue s c).2 := by
  have h1 : srcIn (kSrc1 s c) := by unfold kSrc1; split; exact srcIn_next h; exact h
  unfold kValue
  split
  · exact ⟨⟨Nat.zero_le _, zero_in⟩, srcIn_next h⟩
  · exact kFin_ok (kNum_in h1).1 (kNum_in h1).2
theorem kVals_ok (c : Col) : ∀ (n : Nat) (s : Src) (M : List Val), srcIn s → (∀ v, v ∈ M → okV v) → (∀ v, v ∈ (kVals n s c M).1 → okV v) ∧ (kVals n s c M).1.length = M.length + n
  | 0, s, M, _, hM => ⟨hM, rfl⟩
  | n + 1, s, M, hs, hM => by
    have h1 := kValue_in c hs
    have h2 := kVals_ok c n (kValue s c).2 (M ++ [(kValue s c).1]) h1.2 (fun v hv => by
      rcases List.mem_append.1 hv with q | q
      · exact hM v q
      · rw [List.mem_singleton.1 q]; exact h1.1)
    rw [kVals]
    refine ⟨h2.1, ?_⟩
    rw [h2.2]; simp; omega
theorem kValues_ok {l : List Int} (c : Col) (h : ∀ x, x ∈ l → inI x) : (∀ v, v ∈ kValuesS c l → okV v) ∧ (kValuesS c l).length ≤ 39 := by
  have hp := Src.pick_lt (s := (l, 0)) (n := 40) (by decide)
  have h1 := kVals_ok c (Src.pick (l, 0) 40).toNat (Src.next (l, 0)) [] (srcIn_next h) (fun v hv => by cases hv)
  refine ⟨h1.1, ?_⟩
  have := h1.2
  unfold kValuesS
  rw [this]; simp; omega

abbrev c_kvalues_ok : Ct := .fn [tCol, .list (.int .i64)] (some (fun (c : Col) (l : List Int) => (l.length ≤ 9223372036854775807))) (fun (c : Col) (l : List Int) => .d (.list tVal) (kValuesS c l))
set_option maxRecDepth 100000 in
set_option maxHeartbeats 4000000 in
theorem kvalues_ok : CtOk Try.prog 13 c_kvalues_ok := by
  refine CtOk.fn tb64_ok mixed [] [] rfl rfl ?_
  rintro ⟨(c : Col), (l : List Int), _⟩ hpre
  replace hpre := hpre _ rfl
  dsimp only [cu] at hpre
  have hl := hpre
  refine ⟨[(0, 8, LA.mk [.sl 7 (.int .i64), .lst 6 tVal 41, .ob 1 tSrc 83] (fun y => Tag 48 ∧ cu [.int .i64, .list tVal, tSrc] (fun (k : Int) (P : List Val) (q : Src) => (0 ≤ k ∧ k ≤ 39) ∧ (Src.ok q) ∧ ((P.length : Int) ≤ 39 - k) ∧ (kValuesS c l = (kVals k.toNat q c P).1)) y) (cu [.int .i64, .list tVal, tSrc] (fun (k : Int) (P : List Val) (q : Src) => k.toNat)) (cu [.int .i64, .list tVal, tSrc] (fun (k : Int) (P : List Val) (q : Src) => ([] : List (Nat × Nat × LA)))))], ?_⟩
  repeat' (first
    | (
 with_reducible refine Side.mk ⟨(⟨⟩ : Tag 48), ?_⟩
 dsimp only [cu, joinT, ckTys, gts, Prod.eta, List.nil_append]
 refine ⟨?_, ?_, ?_, ?_⟩
 · first
   | (omega)
   | (have := @Src.pick_lt; grind)
 · (repeat (first | assumption | exact Src.ok_from (by assumption) | apply Src.ok_next | apply kValue_ok))
 · first
   | (have := @Src.pick_lt; grind)
   | (simp only [List.length_append, List.length_cons, List.length_nil]; omega)
 · first
   | (rfl)
   | (rw [hg, kVals_step (by assumption)]))
    | (
 with_reducible refine Side.mk ?_
 (try dsimp only [cu, joinT, ckTys, gts, loK, hiK, Prod.eta, List.nil_append])
 first
 | (done)
 | (with_reducible rfl)
 | (omega)
 | (exact Eq.refl _)
 | (simp only [List.length_append, List.length_cons, List.length_nil]; omega)
 | (
  refine ⟨?_, by decide⟩
  (repeat (first | assumption | exact Src.ok_from (by assumption) | apply Src.ok_next | apply kValue_ok)); done)
 | ((repeat (first | assumption | exact Src.ok_from (by assumption) | apply Src.ok_next | apply kValue_ok)); done)
 | (have := @Src.pick_lt; grind)
 | (
  (try simp only [List.length_cons, List.length_nil])
  omega))
    | (conv => whnf
       first
        | done
        | exact trivial
        | with_reducible refine NilBr.mk (fun h => ?_) ?_
        | with_reducible first | refine w_andS ?_ ?_ | refine w_andL ?_ ?_ | refine w_kern (by kernel_rfl) ?_ | refine w_true ?_ | refine w_nd ?_ ?_ | refine w_in ?_ ?_ | refine w_and ?_ ?_
        | ((with_reducible first | refine w_brN (fun h => ?_) (fun h => ?_) | refine w_brD (fun h => ?_) (fun h => ?_) | refine w_br (fun h => ?_) (fun h => ?_)) <;> (try dsimp only [cu, Prod.eta, List.nil_append] at h) <;> (try (exfalso; omega; done)))
        | (
 intro yy (hy : Tag 48 ∧ _)
 obtain ⟨(k : Int), (P : List Val), (q : Src), _⟩ := yy
 replace hy := hy.2
 dsimp only [cu, joinT, ckTys, gts, Prod.eta, List.nil_append] at hy
 obtain ⟨hk, hq, hv, hg⟩ := hy)))
  all_goals (
 with_reducible refine Leaf.mk ?_
 (try dsimp only [cu, joinT, ckTys, gts, Prod.eta, List.nil_append] at *)
 first
 | (done)
 | (
  rw [hg, show k.toNat = 0 by omega]
  rfl))
abbrev tb65 : Tbl := (13, c_kvalues_ok) :: tb64
theorem tb65_ok : TblOk Try.prog tb65 := TblOk.cons kvalues_ok tb64_ok

abbrev c_sameV_ok : Ct := .fn [.list tVal, .list tVal] (some (fun (a : List Val) (b : List Val) => (a.length ≤ 9223372036854775807))) (fun (a : List Val) (b : List Val) => .d .bool (decide (a = b)))
set_option maxRecDepth 100000 in
set_option maxHeartbeats 4000000 in
theorem sameV_ok : CtOk Try.prog 19 c_sameV_ok := by
  refine CtOk.fn tb65_ok mixed [] [] rfl rfl ?_
  rintro ⟨(a : List Val), (b : List Val), _⟩ hpre
  replace hpre := hpre _ rfl
  dsimp only [cu] at hpre
  have ha := hpre
  refine ⟨[(0, 8, LA.mk [.sl 13 (.int .i64)] (fun y => Tag 49 ∧ cu [.int .i64] (fun (k : Int) => (0 ≤ k ∧ k ≤ a.length) ∧ (a.take k.toNat = b.take k.toNat)) y) (cu [.int .i64] (fun (k : Int) => ((a.length : Int) - k).toNat)) (cu [.int .i64] (fun (k : Int) => ([] : List (Nat × Nat × LA)))))], ?_⟩
  repeat' (first
    | (
 with_reducible refine Side.mk ⟨(⟨⟩ : Tag 49), ?_⟩
 dsimp only [cu, joinT, ckTys, gts, Prod.eta, List.nil_append]
 refine ⟨?_, ?_⟩
 · omega
 · first
   | (rfl)
   | (
  have e1 : k.toNat < a.length := by omega
  have e2 : k.toNat < b.length := by omega
  have e3 : a[k.toNat]! = b[k.toNat]! := by simp_all [Prod.ext_iff]
  rw [getElem!_pos a k.toNat e1, getElem!_pos b k.toNat e2] at e3
  rw [show (k + 1).toNat = k.toNat + 1 by omega, List.take_add_one, List.take_add_one, hs, List.getElem?_eq_getElem e1, List.getElem?_eq_getElem e2, e3]))
    | (
 with_reducible refine Side.mk ?_
 (try dsimp only [cu, joinT, ckTys, gts, loK, hiK, Prod.eta, List.nil_append])
 first
 | (done)
 | (with_reducible rfl)
 | (omega)
 | (exact Eq.refl _)
 | (simp only [List.length_append, List.length_cons, List.length_nil]; omega)
 | (with_reducible assumption)
 | (kernel_rfl))
    | (conv => whnf
       first
        | done
        | exact trivial
        | with_reducible refine NilBr.mk (fun h => ?_) ?_
        | with_reducible first | refine w_andS ?_ ?_ | refine w_andL ?_ ?_ | refine w_kern (by kernel_rfl) ?_ | refine w_true ?_ | refine w_nd ?_ ?_ | refine w_in ?_ ?_ | refine w_and ?_ ?_
        | ((with_reducible first | refine w_brN (fun h => ?_) (fun h => ?_) | refine w_brD (fun h => ?_) (fun h => ?_) | refine w_br (fun h => ?_) (fun h => ?_)) <;> (try dsimp only [cu, Prod.eta, List.nil_append] at h) <;> (try (exfalso; omega; done)))
        | (
 intro yy (hy : Tag 49 ∧ _)
 obtain ⟨(k : Int), _⟩ := yy
 replace hy := hy.2
 dsimp only [cu, joinT, ckTys, gts, Prod.eta, List.nil_append] at hy
 obtain ⟨hk, hs⟩ := hy)))
  all_goals (
 with_reducible refine Leaf.mk ?_
 (try dsimp only [cu, joinT, ckTys, gts, Prod.eta, List.nil_append] at *)
 first
 | (done)
 | (
  have hab : a = b := by
    have h2 := hs
    rw [List.take_of_length_le (by omega), List.take_of_length_le (by omega)] at h2
    exact h2
  rw [decide_eq_true hab])
 | (
  have hne : ¬ a = b := fun q => by subst q; omega
  rw [decide_eq_false hne])
 | (
  have hne : ¬ a = b := fun q => by subst q; simp_all
  rw [decide_eq_false hne]))
abbrev tb66 : Tbl := (19, c_sameV_ok) :: tb65
theorem tb66_ok : TblOk Try.prog tb66 := TblOk.cons sameV_ok tb65_ok

end Go.Proofs.Ytlamfjhhjfgemaa
