/- Contracts of the makers of values. -/
import Derived.Test.YtinehkfcploeiaaKeep
namespace Go.Proofs.Ytinehkfcploeiaa
open Go.Abs
set_option linter.unusedVariables false
set_option linter.unusedSimpArgs false


theorem ofInts_size (l : List Int) : (ofInts l).size = l.length := by simp [ofInts, ByteArray.size]
theorem chr_size (n : Int) : (ofInts [n]).size = 1 := rfl


def lettersGo : Nat → Src → ByteArray → ByteArray × Src
  | 0, s, x => (x, s)
  | n + 1, s, x => lettersGo n (Src.next s) (x ++ ofInts [IntKind.u8.wrap (97 + Src.pick s 3)])
def bitAnd (a b : Int) : Int := IntKind.i64.wrap ((BitVec.ofInt IntKind.i64.bits a &&& BitVec.ofInt IntKind.i64.bits b).toNat : Int)
def kNull (s : Src) (c : Col) : Bool := c.2.2.2 && decide (Src.pick s 4 = 0)
def kSrc1 (s : Src) (c : Col) : Src := if c.2.2.2 = true then Src.next s else s
def kNum (s : Src) : Int × Src := if Src.pick (Src.next s) 8 = 0 then (Src.val (Src.next (Src.next s)), Src.next (Src.next (Src.next s))) else if Src.pick (Src.next s) 8 = 1 then (Int.tmod (Src.val (Src.next (Src.next s))) 1000, Src.next (Src.next (Src.next s)))
  else (IntKind.i64.wrap (Src.pick s 7 - 2), Src.next (Src.next s))
def kFin (c : Col) (n : Int) (s : Src) : Val × Src :=
  if c.2.1 = 2 then (⟨false, bitAnd n 1, EMP⟩, s)
  else if c.2.1 = 3 then (⟨false, 0, (lettersGo (Src.pick s 4).toNat (Src.next s) EMP).1⟩, (lettersGo (Src.pick s 4).toNat (Src.next s) EMP).2)
  else if c.2.1 = 4 then (⟨false, Int.tmod n 700000, EMP⟩, s) else if c.2.1 = 5 then (⟨false, Int.tmod n 1000000000000000000, EMP⟩, s) else (⟨false, n, EMP⟩, s)
def kValue (s : Src) (c : Col) : Val × Src := if kNull s c = true then (⟨true, 0, EMP⟩, Src.next s) else kFin c (kNum (kSrc1 s c)).1 (kNum (kSrc1 s c)).2
theorem lettersGo_step {k : Int} (h : k > 0) (s : Src) (x : ByteArray) : lettersGo k.toNat s x = lettersGo (k - 1).toNat (Src.next s) (x ++ ofInts [IntKind.u8.wrap (97 + Src.pick s 3)]) := by
  rw [show k.toNat = (k - 1).toNat + 1 by omega]; rfl
theorem lettersGo_size : ∀ (n : Nat) (s : Src) (x : ByteArray), (lettersGo n s x).1.size = x.size + n
  | 0, s, x => rfl
  | n + 1, s, x => by
    rw [lettersGo, lettersGo_size n, ByteArray.size_append]
    rw [chr_size]
    omega
theorem lettersGo_ok : ∀ (n : Nat) (s : Src) (x : ByteArray), Src.ok s → Src.ok (lettersGo n s x).2
  | 0, s, x, h => h
  | n + 1, s, x, h => lettersGo_ok n _ _ (Src.ok_next h)
theorem kValue_ok {s : Src} (c : Col) (h : Src.ok s) : Src.ok (kValue s c).2 := by
  have h1 : Src.ok (kSrc1 s c) := by unfold kSrc1; split; exact Src.ok_next h; exact h
  have h2 : Src.ok (kNum (kSrc1 s c)).2 := by
    unfold kNum; split
    · exact Src.ok_next (Src.ok_next (Src.ok_next h1))
    · split
      · exact Src.ok_next (Src.ok_next (Src.ok_next h1))
      · exact Src.ok_next (Src.ok_next h1)
  unfold kValue
  split
  · exact Src.ok_next h
  · unfold kFin
    split; exact h2
    split; exact lettersGo_ok _ _ _ (Src.ok_next h2)
    split; exact h2
    split; exact h2
    exact h2

abbrev c_kvalue_ok : Ct := .meth tSrc 85 [tCol] (some (fun (s : Src) (c : Col) => (Src.ok s))) (fun (s : Src) (c : Col) => .d tVal ((kValue s c).1)) (fun (s : Src) (c : Col) => (kValue s c).2)
set_option maxRecDepth 100000 in
set_option maxHeartbeats 4000000 in
theorem kvalue_ok : CtOk Try.prog 38 c_kvalue_ok := by
  refine CtOk.meth tb42_ok mixed [(0, 3, 2)] [] rfl rfl ?_
  rintro (s : Src) ⟨(c : Col), _⟩ hpre
  replace hpre := hpre _ rfl
  dsimp only [cu] at hpre
  have hs := hpre
  refine ⟨[(0, 30, LA.mk [.sl 7 (.int .i64), .sl 6 .str, .ob 0 tSrc 85] (fun y => Tag 18 ∧ cu [.int .i64, .str, tSrc] (fun (k : Int) (x : ByteArray) (q : Src) => (0 ≤ k ∧ k ≤ 3) ∧ (Src.ok q) ∧ ((x.size : Int) ≤ 3 - k) ∧ (kValue s c = (((false, 0, (lettersGo k.toNat q x).1) : Val), (lettersGo k.toNat q x).2))) y) (cu [.int .i64, .str, tSrc] (fun (k : Int) (x : ByteArray) (q : Src) => k.toNat)) (cu [.int .i64, .str, tSrc] (fun (k : Int) (x : ByteArray) (q : Src) => ([] : List (Nat × Nat × LA)))))], ?_⟩
  repeat' (first
    | (
 with_reducible refine Side.mk ⟨(⟨⟩ : Tag 18), ?_⟩
 dsimp only [cu, joinT, ckTys, gts, Prod.eta, List.nil_append]
 refine ⟨?_, ?_, ?_, ?_⟩
 · first
   | (omega)
   | (have := @Src.pick_lt; grind)
 · (repeat (first | assumption | exact Src.ok_from (by assumption) | apply Src.ok_next | apply kValue_ok | apply kNode_ok))
 · first
   | (
  have h0 : (ByteArray.size ⟨#[]⟩) = 0 := rfl
  have := @Src.pick_lt; grind)
   | (
  rw [ByteArray.size_append, chr_size]
  omega)
 · first
   | (simp [kValue, kNull, kSrc1, kNum, kFin, *]; done)
   | (rw [hg, lettersGo_step (by assumption)]))
    | (
 with_reducible refine Side.mk ?_
 (try dsimp only [cu, joinT, ckTys, gts, loK, hiK, Prod.eta, List.nil_append])
 first
 | (done)
 | (with_reducible rfl)
 | (omega)
 | (exact Eq.refl _)
 | (simp only [List.length_append, List.length_cons, List.length_nil]; omega)
 | (
  refine ⟨?_, by decide⟩
  (repeat (first | assumption | exact Src.ok_from (by assumption) | apply Src.ok_next | apply kValue_ok | apply kNode_ok)); done)
 | ((repeat (first | assumption | exact Src.ok_from (by assumption) | apply Src.ok_next | apply kValue_ok | apply kNode_ok)); done)
 | (have := @Src.pick_lt; grind)
 | (
  rw [chr_size]
  omega))
    | (conv => whnf
       first
        | done
        | exact trivial
        | with_reducible refine NilBr.mk (fun h => ?_) ?_
        | with_reducible first | refine w_andS ?_ ?_ | refine w_andL ?_ ?_ | refine w_kern (by kernel_rfl) ?_ | refine w_true ?_ | refine w_nd ?_ ?_ | refine w_in ?_ ?_ | refine w_and ?_ ?_
        | ((with_reducible first | refine w_brN (fun h => ?_) (fun h => ?_) | refine w_brD (fun h => ?_) (fun h => ?_) | refine w_br (fun h => ?_) (fun h => ?_)) <;> (try dsimp only [cu, Prod.eta, List.nil_append] at h) <;> (try (exfalso; omega; done)))
        | (
 intro yy (hy : Tag 18 ∧ _)
 obtain ⟨(k : Int), (x : ByteArray), (q : Src), _⟩ := yy
 replace hy := hy.2
 dsimp only [cu, joinT, ckTys, gts, Prod.eta, List.nil_append] at hy
 obtain ⟨hk, hq, hx, hg⟩ := hy)))
  all_goals (
 with_reducible refine Leaf.mk ?_
 (try dsimp only [cu, joinT, ckTys, gts, Prod.eta, List.nil_append] at *)
 first
 | (done)
 | (simp [kValue, kNull, kSrc1, kNum, kFin, bitAnd, bAnd, *]; done)
 | (
  rw [show k.toNat = 0 by omega, lettersGo] at hg
  simp [hg]; done)
 | (grind [kValue, kNull, kSrc1, kNum, kFin, bitAnd, bAnd]))
abbrev tb43 : Tbl := (38, c_kvalue_ok) :: tb42
theorem tb43_ok : TblOk Try.prog tb43 := TblOk.cons kvalue_ok tb42_ok

end Go.Proofs.Ytinehkfcploeiaa
