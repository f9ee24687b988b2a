/-
  (*strings.Builder).WriteString at this dump: the shelf's contract, laid by one application (the kit's printer left this one out).
-/
import Derived.Test.YtifnbpkcnkfanaaShelf
namespace Go.Proofs.Ytifnbpkcnkfanaa
open Go.RowKit Go.Shelf

def renW : Go.Shelf.Ren := ⟨fun | 166 => 82 | 240 => 88 | 276 => 92 | n => n, fun | 70 => 108 | 72 => 110 | 37 => 99 | 164 => 122 | 75 => 113 | 80 => 116 | 5 => 5 | n => n, fun | n => n⟩
theorem laysW : Go.Proofs.Lays.n166 Try.prog renW := {
  mixed := by kernel_rfl
  f166 := Try.func82.trans (congrArg some (by kernel_rfl))
  f240 := Try.func88.trans (congrArg some (by kernel_rfl))
  f276 := Try.func92.trans (congrArg some (by kernel_rfl))
  t0 := Try.underlying0
  a0 := Try.isAgg0
  z0 := Try.sizeOf0
  v0 := Try.zeroValue0
  t3 := Try.underlying3
  a3 := Try.isAgg3
  z3 := Try.sizeOf3
  v3 := Try.zeroValue3
  t4 := Try.underlying4
  a4 := Try.isAgg4
  z4 := Try.sizeOf4
  v4 := Try.zeroValue4
  t9 := Try.underlying9
  a9 := Try.isAgg9
  z9 := Try.sizeOf9
  v9 := Try.zeroValue9
  t20 := Try.underlying20
  a20 := Try.isAgg20
  z20 := Try.sizeOf20
  v20 := Try.zeroValue20
  t37 := Try.underlying99
  a37 := Try.isAgg99
  z37 := Try.sizeOf99
  v37 := Try.zeroValue99
  t70 := Try.underlying108
  a70 := Try.isAgg108
  z70 := Try.sizeOf108
  v70 := Try.zeroValue108
  t72 := Try.underlying110
  a72 := Try.isAgg110
  z72 := Try.sizeOf110
  v72 := Try.zeroValue110
  t75 := Try.underlying113
  a75 := Try.isAgg113
  z75 := Try.sizeOf113
  v75 := Try.zeroValue113
  t164 := Try.underlying122
  a164 := Try.isAgg122
  z164 := Try.sizeOf122
  v164 := Try.zeroValue122 }
theorem extraW : Builder.Extra Try.prog renW := {
  sizeBuilder := by kernel_rfl
  liesBuilder := by kernel_rfl
  t5 := Try.underlying5
  a5 := Try.isAgg5
  z5 := Try.sizeOf5
  v5 := Try.zeroValue5
  infoByte := by kernel_rfl
  cellsByte := by kernel_rfl
  sizeByte := by kernel_rfl
  neB5 := by decide }
theorem writeString_any (B b : Nat) (bs : List Value) (s : ByteArray) (w : World) (h : Lib.IsBuilder 110 5 B b bs w) (hlen : bs.length + s.size ≤ 140737488355328) (hBw : B ≤ w.heap.size) :
    Calls Try.prog 82 #[.pointer (some ⟨b, 0, none⟩), .string s] w fun e w' => e = .returned (.tuple #[.int .i64 s.size, .nilIface]) ∧ (Lib.BuilderAt 110 5 B b (.pointer (some ⟨b, 0, none⟩)) (bs ++ Lib.strCells s) w' ∧ Below B w w') := Any.Builder_WriteString laysW extraW B b bs s w h hlen hBw
end Go.Proofs.Ytifnbpkcnkfanaa
