/- The typed forms of the program's structs. -/
import Derived.Test.YtinehkfcploeiaaAbsU
namespace Go.Abs
set_option linter.unusedVariables false

structure Val where
  null : Bool
  n : Int
  s : ByteArray
instance : Inhabited Val := ⟨⟨false, 0, ByteArray.empty⟩⟩
def Val.cells (x : Val) : List V := [.v (.bool x.null), .v (.int .i64 x.n), .v (.string x.s)]

structure Col where
  name : ByteArray
  type : Int
  scale : Int
  nullable : Bool
instance : Inhabited Col := ⟨⟨ByteArray.empty, 0, 0, false⟩⟩
def Col.cells (x : Col) : List V := [.v (.string x.name), .v (.int .i64 x.type), .v (.int .i64 x.scale), .v (.bool x.nullable)]

structure Schema where
  columns : List Col
  key : Int
instance : Inhabited Schema := ⟨⟨[], 0⟩⟩
def Schema.cells (x : Schema) : List V := [.sF 4 (x.columns.map Col.cells), .v (.int .i64 x.key)]

structure PNode where
  op : Int
  column : Int
  value : Val
  list : List Val
  a : Int
  b : Int
instance : Inhabited PNode := ⟨⟨0, 0, default, [], 0, 0⟩⟩
def PNode.cells (x : PNode) : List V := [.v (.int .i64 x.op), .v (.int .i64 x.column), .v (.bool x.value.null), .v (.int .i64 x.value.n), .v (.string x.value.s), .sF 3 (x.list.map Val.cells), .v (.int .i64 x.a), .v (.int .i64 x.b)]

/-- micropartkeep.Source -/
structure Src where
  l : List Int
  i : Int
instance : Inhabited Src := ⟨⟨[], 0⟩⟩
def Src.cells (x : Src) : List V := [.sF 1 (x.l.map (icells .i64)), .v (.int .i64 x.i)]

theorem NIs_Val (n : Nat) (x : Val) : NIs n (Val.cells x) := by simp [Val.cells, NIs_cons, NIs_nil, NI_v]
theorem NIs_Col (n : Nat) (x : Col) : NIs n (Col.cells x) := by simp [Col.cells, NIs_cons, NIs_nil, NI_v]
theorem NIr_Val (n : Nat) (l : List Val) : NIr n (l.map Val.cells) := (NIr_map n _ l (NIs_Val n)).2 trivial
theorem NIr_Col (n : Nat) (l : List Col) : NIr n (l.map Col.cells) := (NIr_map n _ l (NIs_Col n)).2 trivial
theorem NIr_ints (n : Nat) (k : IntKind) (l : List Int) : NIr n (l.map (icells k)) := (NIr_map n _ l (NIs_icells n k)).2 trivial
theorem NIs_Schema (n : Nat) (x : Schema) : NIs n (Schema.cells x) := by simp [Schema.cells, NIs_cons, NIs_nil, NI_v, NI_sF, NIr_map _ _ _ (NIs_Col n)]
theorem NIs_PNode (n : Nat) (x : PNode) : NIs n (PNode.cells x) := by simp [PNode.cells, NIs_cons, NIs_nil, NI_v, NI_sF, NIr_map _ _ _ (NIs_Val n)]
theorem NIr_PNode (n : Nat) (l : List PNode) : NIr n (l.map PNode.cells) := (NIr_map n _ l (NIs_PNode n)).2 trivial
theorem NIs_Src (n : Nat) (x : Src) : NIs n (Src.cells x) := by simp [Src.cells, NIs_cons, NIs_nil, NI_v, NI_sF, NIr_map _ _ _ (NIs_icells n .i64)]

end Go.Abs
