/- strings.Builder: WriteString, WriteByte, String, Len, of a builder in a block of the call's own. -/
import Derived.Test.YtpoiopjggmhnjaaDoorShelf
import Derived.Test.YtpoiopjggmhnjaaDoorFr
import Derived.Shelf.Strings.BuilderK
namespace Go.Proofs.YtpoiopjggmhnjaaDoor
open Go.RowKit

def renB : Go.Shelf.Ren := { Tryd.lays105_ren with f := fun n => if n = 167 then 47 else Tryd.lays105_ren.f n }
set_option maxRecDepth 100000 in
theorem lay_ws : Lays.n166 Tryd.prog Tryd.lays105_ren := { Tryd.lays105 with }
set_option maxRecDepth 100000 in
theorem lay_wb : Lays.n167 Tryd.prog renB := { Tryd.lays105 with f167 := by kernel_rfl, f240 := by kernel_rfl, f276 := by kernel_rfl }
set_option maxRecDepth 100000 in
theorem extraB : Builder.Extra Tryd.prog renB := { Tryd.Builder_Extra_105 with }

/-- A builder in block b, a new one from B on, that holds the bytes l. -/
def Bd (B b : Nat) (l : List UInt8) (w : World) : Prop := Lib.IsBuilderF 85 5 B b (Lib.byteCells l) w

theorem bd_string (B b : Nat) (l : List UInt8) (s : ByteArray) (w : World) (h : Bd B b l w) (hlen : l.length + s.size ≤ 100000) (hBw : B ≤ w.heap.size) :
    Calls Tryd.prog 49 #[.pointer (some ⟨b, 0, none⟩), .string s] w fun e w' => e = .returned (.tuple #[.int .i64 s.size, .nilIface]) ∧ Bd B b (l ++ s.data.toList) w' ∧ Below B w w' := by
  refine (Any.Builder_WriteString_k lay_ws Tryd.Builder_Extra_105 B b (Lib.byteCells l) s w h (by simp [Lib.byteCells]; omega) hBw).mono ?_
  rintro e w' ⟨he, h1, h2, _⟩
  refine ⟨he, .inr ?_, h2⟩
  have e1 : Lib.byteCells (l ++ s.data.toList) = Lib.byteCells l ++ Lib.strCells s := by simp [Lib.byteCells, Lib.strCells]
  rw [e1]
  exact h1

theorem bd_byte (B b : Nat) (l : List UInt8) (c : UInt8) (w : World) (h : Bd B b l w) (hlen : l.length ≤ 100000) (hBw : B ≤ w.heap.size) :
    Calls Tryd.prog 47 #[.pointer (some ⟨b, 0, none⟩), .int .u8 c.toNat] w fun e w' => e = .returned .nilIface ∧ Bd B b (l ++ [c]) w' ∧ Below B w w' := by
  refine (Any.Builder_WriteByte_k lay_wb extraB B b (Lib.byteCells l) c.toNat w h (by simp [Lib.byteCells]; omega) hBw).mono ?_
  rintro e w' ⟨he, h1, h2, _⟩
  refine ⟨he, .inr ?_, h2⟩
  have e1 : Lib.byteCells (l ++ [c]) = Lib.byteCells l ++ [.int .u8 c.toNat] := by simp [Lib.byteCells]
  rw [e1]
  exact h1

theorem bd_all (B b : Nat) (l : List UInt8) (w : World) (h : Bd B b l w) (hBw : B ≤ w.heap.size) :
    Calls Tryd.prog 52 #[.pointer (some ⟨b, 0, none⟩)] w fun e w' => e = .returned (.string ⟨l.toArray⟩) ∧ Bd B b l w' ∧ Below B w w' :=
  Tryd.Builder_String_any_f B b l w h hBw

theorem bd_len (B b : Nat) (l : List UInt8) (w : World) (h : Bd B b l w) :
    Calls Tryd.prog 50 #[.pointer (some ⟨b, 0, none⟩)] w fun e w' => e = .returned (.int .i64 l.length) ∧ w' = w := by
  refine (Tryd.Builder_Len_f B b (Lib.byteCells l) w h).mono ?_
  rintro e w' ⟨he, hw⟩
  refine ⟨?_, hw⟩
  rw [he]
  simp [Lib.byteCells]

theorem bd_new (w : World) : Bd w.heap.size w.heap.size [] (w.alloc (.cells #[.pointer none, .slice none 0 0] 85)) :=
  .inl ⟨Nat.le_refl _, .slice none 0 0, heap_alloc_new w _, World.ownsRowF_nil _ _ _ _, by intro e; cases e⟩
end Go.Proofs.YtpoiopjggmhnjaaDoor
