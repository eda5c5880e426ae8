/-
  What stands in memory from the start: the tables, errors' own handle.
-/
import Derived.Test.YtffjdcbegohmiaaDoorProg
import Derived.Lib.LaidTab
import Derived.Lib.Strings
import Derived.Shelf.Strings.Fields
import Derived.Shelf.Strconv.Itoa3
import Derived.Below
import Derived.WalkSmall
namespace Go.Proofs.YtffjdcbegohmiaaDoor.Ev
open Go Go.RowKit Go.Lib

/-- What is known of the world below all bases. -/
def Top.ok (B : Nat) (w : World) : Prop := (1 < B ∧ 4 < B) ∧ TabIs Tryd.prog w "strings.asciiSpace" .u8 asciiSpaceTab ∧ TabIs Tryd.prog w "internal/strconv.uint64pow10" .u64 pow10Tab ∧ w.cell? ⟨0, 0, none⟩ = some (.iface 112 (.agg #[.pointer (some ⟨8, 25, none⟩)]))
theorem Top.move {B : Nat} {w w' : World} (h : Top.ok B w) (hb : Below B w w') : Top.ok B w' :=
  ⟨h.1, var?_below hb (g := 1) (by kernel_rfl) h.1.1 h.2.1, var?_below hb (g := 4) (by kernel_rfl) h.1.2 h.2.2.1,
    (hb.cell (p := ⟨0, 0, none⟩) (Nat.lt_of_le_of_lt (Nat.zero_le _) h.1.1)).trans h.2.2.2⟩
theorem Top.up {B B' : Nat} {w : World} (h : Top.ok B w) (hl : B ≤ B') : Top.ok B' w :=
  ⟨⟨Nat.lt_of_lt_of_le h.1.1 hl, Nat.lt_of_lt_of_le h.1.2 hl⟩, h.2⟩
end Go.Proofs.YtffjdcbegohmiaaDoor.Ev
