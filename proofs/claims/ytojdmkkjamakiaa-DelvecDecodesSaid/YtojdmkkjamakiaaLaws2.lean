/- The walks of DelvecDecodes and DelvecMutations. -/
import Derived.Test.YtojdmkkjamakiaaLaws
namespace Go.Proofs.Ytojdmkkjamakiaa
open Go.Abs
set_option linter.unusedVariables false
set_option linter.unusedSimpArgs false


theorem four_len (v : Int) : (four v).length = 4 := rfl
theorem chr1_size (x : UInt8) : (ByteArray.mk #[x]).size = 1 := rfl

abbrev c_decodesLaw_ok : Ct := .fn [.str, .int .i64, .int .u8] (some (fun (s : ByteArray) (rows : Int) (n : Int) => (s.size ≤ 2305843009213693952))) (fun (s : ByteArray) (rows : Int) (n : Int) => .d .bool true)
set_option maxRecDepth 100000 in
set_option maxHeartbeats 4000000 in
theorem decodesLaw_ok : CtOk Try.prog 8 c_decodesLaw_ok := by
  refine CtOk.fn tb36_ok mixed [] [] rfl rfl ?_
  rintro ⟨(s : ByteArray), (rows : Int), (n : Int), _⟩ hpre
  replace hpre := hpre _ rfl
  dsimp only [cu] at hpre
  have hs := hpre
  refine ⟨[], ?_⟩
  repeat' (first
    | (with_reducible refine Side.mk ?_
       (try dsimp only [cu, joinT, ckTys, gts, loK, hiK, Prod.eta, List.nil_append])
       first
       | (done)
       | (with_reducible rfl)
       | (omega)
       | (exact Eq.refl _)
       | (simp only [List.length_append, List.length_cons, List.length_nil]; omega)
       | (exact u64_ne (by decide))
       | ((try simp only [ByteArray.size_append, ofInts_len, four_len, chr1_size, List.length_cons, List.length_nil, ByteArray.size_extract, DEL1_size] at *)
          omega)
       | (have := tm30 n; omega)
       | (have := tm30 n
          (try simp only [ByteArray.size_append, ofInts_len, four_len, chr1_size, List.length_cons, List.length_nil, ByteArray.size_extract, DEL1_size] at *)
          omega))
    | (conv => whnf
       first
        | done
        | exact trivial
        | with_reducible refine w_andS ?_ ?_
        | with_reducible refine w_andL ?_ ?_
        | with_reducible refine w_kern (by kernel_rfl) ?_
        | with_reducible refine w_true ?_
        | with_reducible refine w_nd ?_ ?_
        | with_reducible refine w_in ?_ ?_
        | with_reducible refine w_and ?_ ?_
        | (with_reducible refine w_brN (fun h => ?_) (fun h => ?_) <;> (try dsimp only [cu, Prod.eta, List.nil_append] at h) <;> (try (exfalso; omega; done)))
        | (with_reducible refine w_brD (fun h => ?_) (fun h => ?_) <;> (try dsimp only [cu, Prod.eta, List.nil_append] at h) <;> (try (exfalso; omega; done)))
        | (with_reducible refine w_br (fun h => ?_) (fun h => ?_) <;> (try dsimp only [cu, Prod.eta, List.nil_append] at h) <;> (try (exfalso; omega; done)))))
  all_goals (with_reducible refine Leaf.mk ?_
             (try dsimp only [cu, joinT, ckTys, gts, Prod.eta, List.nil_append] at *)
             first
             | (done)
             | (rfl)
             | (simp_all; done))
abbrev tb37 : Tbl := (8, c_decodesLaw_ok) :: tb36
theorem tb37_ok : TblOk Try.prog tb37 := TblOk.cons decodesLaw_ok tb36_ok

abbrev c_mutations_ok : Ct := .fn [.list (.int .i64), .int .i64, .int .u8, .bool, .int .i64] (some (fun (l : List Int) (at0 : Int) (b : Int) (fix : Bool) (n : Int) => (l.length ≤ 4611686018427387904))) (fun (l : List Int) (at0 : Int) (b : Int) (fix : Bool) (n : Int) => .d .bool true)
set_option maxRecDepth 100000 in
set_option maxHeartbeats 4000000 in
theorem mutations_ok : CtOk Try.prog 9 c_mutations_ok := by
  refine CtOk.fn tb37_ok mixed [] [] rfl rfl ?_
  rintro ⟨(l : List Int), (at0 : Int), (b : Int), (fix : Bool), (n : Int), _⟩ hpre
  replace hpre := hpre _ rfl
  dsimp only [cu] at hpre
  have hl := hpre
  have hc := vec_chk l (rows := 50) (by decide)
  have hv := vec_len l 50 (by decide)
  have he := enc_le (vec l 50) 50
  have he2 := enc_size hc
  have hk := pick_lt (v := at0) (n := ((encS (vec l 50) 50).size : Int)) (by omega)
  have hn := pick_lt (v := n) (n := 5) (by decide)
  refine ⟨[], ?_⟩
  repeat' (first
    | (with_reducible refine Side.mk ?_
       (try dsimp only [cu, joinT, ckTys, gts, loK, hiK, Prod.eta, List.nil_append])
       first
       | (done)
       | (with_reducible rfl)
       | (omega)
       | (exact Eq.refl _)
       | (simp only [List.length_append, List.length_cons, List.length_nil]; omega)
       | (exact u64_ne (by omega))
       | (exact u64_ne (by decide))
       | ((try simp only [ByteArray.size_append, ofInts_len, four_len, chr1_size, List.length_cons, List.length_nil, ByteArray.size_extract, DEL1_size] at *)
          omega)
       | (exact ⟨by omega, by omega⟩))
    | (conv => whnf
       first
        | done
        | exact trivial
        | with_reducible refine w_andS ?_ ?_
        | with_reducible refine w_andL ?_ ?_
        | with_reducible refine w_kern (by kernel_rfl) ?_
        | with_reducible refine w_true ?_
        | with_reducible refine w_nd ?_ ?_
        | with_reducible refine w_in ?_ ?_
        | with_reducible refine w_and ?_ ?_
        | (with_reducible refine w_brN (fun h => ?_) (fun h => ?_) <;> (try dsimp only [cu, Prod.eta, List.nil_append] at h) <;> (try (exfalso; omega; done)))
        | (with_reducible refine w_brD (fun h => ?_) (fun h => ?_) <;> (try dsimp only [cu, Prod.eta, List.nil_append] at h) <;> (try (exfalso; omega; done)))
        | (with_reducible refine w_br (fun h => ?_) (fun h => ?_) <;> (try dsimp only [cu, Prod.eta, List.nil_append] at h) <;> (try (exfalso; omega; done)))))
  all_goals (with_reducible refine Leaf.mk ?_
             (try dsimp only [cu, joinT, ckTys, gts, Prod.eta, List.nil_append] at *)
             first
             | (done)
             | (rfl)
             | (simp_all; done))
abbrev tb38 : Tbl := (9, c_mutations_ok) :: tb37
theorem tb38_ok : TblOk Try.prog tb38 := TblOk.cons mutations_ok tb37_ok

end Go.Proofs.Ytojdmkkjamakiaa
