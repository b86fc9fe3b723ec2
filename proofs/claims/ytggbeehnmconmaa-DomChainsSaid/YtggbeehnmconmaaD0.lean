/- Plain data of the program: functions of SSA, by their parts. -/
namespace Go.Proofs.Ytggbeehnmconmaa
/-- a phi -/
structure Phi where
  dst : Int
  args : List Int
/-- an instruction -/
structure Inst where
  op : Int
  dst : Int
  n : Int
  name : ByteArray
  args : List Int
/-- a block -/
structure Blk where
  phis : List Phi
  insts : List Inst
  fin : Int
  v : Int
  a : Int
  b : Int
/-- a function -/
structure Fn where
  name : ByteArray
  weak : Bool
  params : Int
  values : Int
  blocks : List Blk
instance : Inhabited Phi := ⟨⟨0, []⟩⟩
instance : Inhabited Inst := ⟨⟨0, 0, 0, ⟨#[]⟩, []⟩⟩
instance : Inhabited Blk := ⟨⟨[], [], 0, 0, 0, 0⟩⟩
instance : Inhabited Fn := ⟨⟨⟨#[]⟩, false, 0, 0, []⟩⟩
end Go.Proofs.Ytggbeehnmconmaa
