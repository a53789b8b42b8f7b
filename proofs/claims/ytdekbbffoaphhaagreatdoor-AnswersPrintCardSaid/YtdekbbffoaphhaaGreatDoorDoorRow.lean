/- The library's variables as the program's text lays them: what a law may lean on, and a world that holds them. -/
import Derived.Test.YtdekbbffoaphhaaGreatDoorRows
import Derived.Test.YtdekbbffoaphhaaGreatDoorDoor
import Derived.Deep.DeepHandedRow
import Derived.Deep.DeepWitnessRowRef
import Derived.Lib.LaidIn
import Derived.Lib.LaidU8
import Derived.Lib.LaidTab
import Derived.Stop.LaidErr
import Derived.ProofKit
import Derived.SizedLaws
set_option linter.unusedVariables false
namespace Go.Proofs.YtdekbbffoaphhaaGreatDoor
open Go.ChangeShapes Go.WideShapes Go.ChangeAt Go.RowKit Go.Lib
theorem own : ownKnob Tryz.prog.godebug = none := by kernel_rfl
theorem star : "*" ++ "errors.errorString" = "*errors.errorString" := by decide
theorem rowErr (u : TypeId) (h : Tryz.prog.typeName? 3 u = some "*errors.errorString") : u = 137 :=
  typeName_ptr_named (nm := "errors.errorString") (by rw [star]; kernel_rfl) (by kernel_rfl) (by decide) u (by rw [star]; exact h)
def seatLaid : List (String × DataW Unit) := [("math/bits.deBruijn32tab", Rows.laid_math_bits_deBruijn32tab), ("math/bits.deBruijn64tab", Rows.laid_math_bits_deBruijn64tab), ("internal/strconv.uint64pow10", Rows.laid_internal_strconv_uint64pow10), ("unicode/utf8.acceptRanges", Rows.laid_unicode_utf8_acceptRanges), ("strconv.ErrRange", Rows.laid_strconv_ErrRange), ("strconv.ErrSyntax", Rows.laid_strconv_ErrSyntax), ("unicode/utf8.first", Rows.laid_unicode_utf8_first)]
theorem gPowType : (Tryz.prog.globals[0]?).map (·.type) = some 128 := by kernel_rfl
theorem doors_of {W : World} (hL : laidMet Tryz.prog seatLaid W) (hSh : W.ShapedOpen Tryz.prog) : Doors W := by
  have h3 : laidMet Tryz.prog (("internal/strconv.uint64pow10", tabData .u64 pow10Tab) :: seatLaid.drop 3) W := hL.tail.tail
  obtain ⟨a0, t0, hv0, -, -, -⟩ := laid_sentinel (g := 2) hL.tail.tail.tail.tail (by kernel_rfl) (by kernel_rfl) Tryz.underlying57 rowErr Tryz.underlying137 Tryz.underlying139 rfl rfl Tryz.underlying9 (by kernel_rfl) (by kernel_rfl)
  obtain ⟨a1, t1, hv1, -, -, -⟩ := laid_sentinel (g := 1) hL.tail.tail.tail.tail.tail (by kernel_rfl) (by kernel_rfl) Tryz.underlying57 rowErr Tryz.underlying137 Tryz.underlying139 rfl rfl Tryz.underlying9 (by kernel_rfl) (by kernel_rfl)
  have hp := tabIs_of_head gPow gPowType Tryz.underlying128 Tryz.underlying28 (by kernel_rfl) (by kernel_rfl) h3
  obtain ⟨m, hm⟩ := Tryz.laysM146.s1_3 W hSh
  have hs : 4 ≤ W.heap.size := by
    have h3 := World.block_lt_of_cell? W _ hm
    have h := hp
    unfold TabIs World.var? at h
    rw [gPow] at h
    rcases Nat.lt_or_ge 0 W.heap.size with h4 | h4
    · have h3' : 3 < W.heap.size := h3
      omega
    · rw [Option.bind_some, Array.getElem?_eq_none h4] at h
      cases h
  exact ⟨hs, hp, ⟨_, _, hv1⟩, ⟨_, _, hv0⟩, m, hm⟩

/-- THE WITNESS: the settled world with two blocks more (the two errors' structs), the variables holding what their initialisers lay. -/
noncomputable def laidWorld (os : Os) : World :=
  let N := (World.settled Tryz.prog os).heap.size
  let w0 := World.holding Tryz.prog os ⟨#[.cells #[.string ⟨#[105, 110, 118, 97, 108, 105, 100, 32, 115, 121, 110, 116, 97, 120]⟩] 139, .cells #[.string ⟨#[118, 97, 108, 117, 101, 32, 111, 117, 116, 32, 111, 102, 32, 114, 97, 110, 103, 101]⟩] 139], #[], []⟩
  let put (h : Array Obj) (g : Nat) (cs : Array Value) : Array Obj := h.modify g fun
    | .cells _ t frozen => .cells cs t frozen
    | o => o
  let h0 := put (put w0.heap 1 #[.iface 137 (.pointer (some ⟨N, 0, none⟩))]) 2 #[.iface 137 (.pointer (some ⟨N + 1, 0, none⟩))]
  let h1 := put h0 0 (pow10Tab.map fun z => Value.int .u64 z).toArray
  let h2 := put h1 4 (firstTab.map fun z => Value.int .u8 z).toArray
  let h3 := put h2 5 (([128, 191, 160, 191, 128, 159, 144, 191, 128, 143, 0, 0, 0, 0, 0, 0, 0, 0, 0, 0, 0, 0, 0, 0, 0, 0, 0, 0, 0, 0, 0, 0] : List Int).map fun z => Value.int .u8 z).toArray
  let h4 := put h3 6 (([0, 1, 28, 2, 29, 14, 24, 3, 30, 22, 20, 15, 25, 17, 4, 8, 31, 27, 13, 23, 21, 19, 16, 7, 26, 12, 18, 6, 11, 5, 10, 9] : List Int).map fun z => Value.int .u8 z).toArray
  let h5 := put h4 7 (([0, 1, 56, 2, 57, 49, 28, 3, 61, 58, 42, 50, 38, 29, 17, 4, 62, 47, 59, 36, 45, 43, 51, 22, 53, 39, 33, 30, 24, 18, 12, 5, 63, 55, 48, 27, 60, 41, 37, 16, 46, 35, 44, 21, 52, 32, 23, 11, 54, 26, 40, 15, 34, 20, 31, 10, 25, 14, 19, 9, 13, 8, 7, 6] : List Int).map fun z => Value.int .u8 z).toArray
  { w0 with heap := h5 }
noncomputable abbrev N0 : Nat := (World.settled Tryz.prog default).heap.size
set_option maxRecDepth 1000000 in
theorem laid_met (os : Os) (args : Array Value) : laidMet Tryz.prog seatLaid ((laidWorld os).forCall (fun _ _ => 0) ⟨#[], args, []⟩).memory :=
  (LaidIn.of_run [6, 7, 0, 5, 2, N0 + 1, 1, N0, 4] 8 (by kernel_rfl) (by kernel_rfl) (by kernel_rfl) (by kernel_rfl)).met
end Go.Proofs.YtdekbbffoaphhaaGreatDoor
