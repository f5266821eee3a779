/- A world that holds the library's variables as they are laid; and what the row's list gives of them. -/
import Derived.Test.YtophbfnedglmdaaDoorParse3
import Derived.Test.YtophbfnedglmdaaDoorCards
import Derived.Test.YtophbfnedglmdaaDoorTie
import Derived.Lib.LaidTab
import Derived.Stop.LaidErr
import Derived.Deep.DeepWitnessRowRef
namespace Go.Proofs.YtophbfnedglmdaaDoor
open Go.ChangeShapes Go.WideShapes Go.ChangeAt Go.RowKit

def laying (cs : Array Value) : Obj → Obj
  | .cells _ t frozen => .cells cs t frozen
  | o => o
def cells_math_bits_deBruijn32tab : Array Value := #[.int .u8 0, .int .u8 1, .int .u8 28, .int .u8 2, .int .u8 29, .int .u8 14, .int .u8 24, .int .u8 3, .int .u8 30, .int .u8 22, .int .u8 20, .int .u8 15, .int .u8 25, .int .u8 17, .int .u8 4, .int .u8 8, .int .u8 31, .int .u8 27, .int .u8 13, .int .u8 23, .int .u8 21, .int .u8 19, .int .u8 16, .int .u8 7, .int .u8 26, .int .u8 12, .int .u8 18, .int .u8 6, .int .u8 11, .int .u8 5, .int .u8 10, .int .u8 9]
def cells_math_bits_deBruijn64tab : Array Value := #[.int .u8 0, .int .u8 1, .int .u8 56, .int .u8 2, .int .u8 57, .int .u8 49, .int .u8 28, .int .u8 3, .int .u8 61, .int .u8 58, .int .u8 42, .int .u8 50, .int .u8 38, .int .u8 29, .int .u8 17, .int .u8 4, .int .u8 62, .int .u8 47, .int .u8 59, .int .u8 36, .int .u8 45, .int .u8 43, .int .u8 51, .int .u8 22, .int .u8 53, .int .u8 39, .int .u8 33, .int .u8 30, .int .u8 24, .int .u8 18, .int .u8 12, .int .u8 5, .int .u8 63, .int .u8 55, .int .u8 48, .int .u8 27, .int .u8 60, .int .u8 41, .int .u8 37, .int .u8 16, .int .u8 46, .int .u8 35, .int .u8 44, .int .u8 21, .int .u8 52, .int .u8 32, .int .u8 23, .int .u8 11, .int .u8 54, .int .u8 26, .int .u8 40, .int .u8 15, .int .u8 34, .int .u8 20, .int .u8 31, .int .u8 10, .int .u8 25, .int .u8 14, .int .u8 19, .int .u8 9, .int .u8 13, .int .u8 8, .int .u8 7, .int .u8 6]
def cells_internal_strconv_uint64pow10 : Array Value := #[.int .u64 1, .int .u64 10, .int .u64 100, .int .u64 1000, .int .u64 10000, .int .u64 100000, .int .u64 1000000, .int .u64 10000000, .int .u64 100000000, .int .u64 1000000000, .int .u64 10000000000, .int .u64 100000000000, .int .u64 1000000000000, .int .u64 10000000000000, .int .u64 100000000000000, .int .u64 1000000000000000, .int .u64 10000000000000000, .int .u64 100000000000000000, .int .u64 1000000000000000000, .int .u64 10000000000000000000]
noncomputable def laidWorld (os : Os) : World :=
  { World.holding Tryd.prog os ⟨#[.cells #[.string ⟨#[105, 110, 118, 97, 108, 105, 100, 32, 115, 121, 110, 116, 97, 120]⟩] 78, .cells #[.string ⟨#[118, 97, 108, 117, 101, 32, 111, 117, 116, 32, 111, 102, 32, 114, 97, 110, 103, 101]⟩] 78], #[], []⟩ with heap := ((((((World.holding Tryd.prog os ⟨#[.cells #[.string ⟨#[105, 110, 118, 97, 108, 105, 100, 32, 115, 121, 110, 116, 97, 120]⟩] 78, .cells #[.string ⟨#[118, 97, 108, 117, 101, 32, 111, 117, 116, 32, 111, 102, 32, 114, 97, 110, 103, 101]⟩] 78], #[], []⟩).heap).modify 4 (laying cells_math_bits_deBruijn32tab)).modify 5 (laying cells_math_bits_deBruijn64tab)).modify 3 (laying cells_internal_strconv_uint64pow10)).modify 1 (laying #[.iface 76 (.pointer (some ⟨(World.settled Tryd.prog os).heap.size, 0, none⟩))])).modify 2 (laying #[.iface 76 (.pointer (some ⟨(World.settled Tryd.prog os).heap.size + 1, 0, none⟩))]) }

theorem gTabType : (Tryd.prog.globals[3]?).map (·.type) = some 67 := by kernel_rfl
theorem tab_of_laid {laid : List (String × DataW Unit)} {W : World} (e : (laid.filter fun x => x.1 == "internal/strconv.uint64pow10") = [("internal/strconv.uint64pow10", Lib.tabData .u64 Lib.pow10Tab)]) (h : laidMetH Tryd.prog laid W) : Tab W := by
  have h1 := h.filter (fun x => x.1 == "internal/strconv.uint64pow10")
  rw [e] at h1
  exact Lib.tabIs_of_head (rest := []) gTab gTabType Tryd.underlying67 Tryd.underlying43 (by kernel_rfl) (by kernel_rfl) h1
theorem gES : Tryd.prog.globalNamed "strconv.ErrSyntax" = some 1 := by kernel_rfl
theorem gESType : (Tryd.prog.globals[1]?).map (·.type) = some 36 := by kernel_rfl
theorem gER : Tryd.prog.globalNamed "strconv.ErrRange" = some 2 := by kernel_rfl
theorem gERType : (Tryd.prog.globals[2]?).map (·.type) = some 36 := by kernel_rfl
theorem starText : "*" ++ "errors.errorString" = "*errors.errorString" := by decide
theorem starRow (u : TypeId) (h : Tryd.prog.typeName? 3 u = some "*errors.errorString") : u = 76 :=
  typeName_ptr_named (nm := "errors.errorString") (by rw [starText]; kernel_rfl) (by kernel_rfl) (by decide) u (by rw [starText]; exact h)
theorem syn_of_laid {laid : List (String × DataW Unit)} {W : World} (e : (laid.filter fun x => x.1 == "strconv.ErrSyntax") = [("strconv.ErrSyntax", Rows.laid_strconv_ErrSyntax)]) (h : laidMetH Tryd.prog laid W) : ErrIn 1 W := by
  have h1 := h.filter (fun x => x.1 == "strconv.ErrSyntax")
  rw [e] at h1
  obtain ⟨a0, s0, hv0, -, -, -⟩ := laid_sentinel (r := []) h1 gES gESType Tryd.underlying36 starRow Tryd.underlying76 Tryd.underlying78 rfl rfl Tryd.underlying9 (by kernel_rfl) (by kernel_rfl)
  exact ⟨_, by have h0 := World.var?_cell gES hv0 0; simpa using h0, Or.inr ⟨_, _, rfl⟩⟩
theorem ran_of_laid {laid : List (String × DataW Unit)} {W : World} (e : (laid.filter fun x => x.1 == "strconv.ErrRange") = [("strconv.ErrRange", Rows.laid_strconv_ErrRange)]) (h : laidMetH Tryd.prog laid W) : ErrIn 2 W := by
  have h1 := h.filter (fun x => x.1 == "strconv.ErrRange")
  rw [e] at h1
  obtain ⟨a0, s0, hv0, -, -, -⟩ := laid_sentinel (r := []) h1 gER gERType Tryd.underlying36 starRow Tryd.underlying76 Tryd.underlying78 rfl rfl Tryd.underlying9 (by kernel_rfl) (by kernel_rfl)
  exact ⟨_, by have h0 := World.var?_cell gER hv0 0; simpa using h0, Or.inr ⟨_, _, rfl⟩⟩
theorem len_of_shape {W : World} (h : W.ShapedOpen Tryd.prog) : ∃ m : Int, W.cell? ⟨0, 0, none⟩ = some (.int .i64 m) :=
  Tryd.laysM145.s1_3 W h
theorem string_small {H : Type} {bytes : List UInt8} {l r : List (DataW H)} (h : Rows.uptoSmall H (l ++ .lit (.string bytes) :: r) = true) : bytes.length ≤ 1048576 := by
  have h2 : Rows.uptoBulkAll (l ++ .lit (.string bytes) :: r) ≤ 1048576 := of_decide_eq_true h
  clear h
  induction l with
  | nil =>
    simp only [List.nil_append, Rows.uptoBulkAll, Rows.uptoBulk] at h2
    omega
  | cons x l ih =>
    simp only [List.cons_append, Rows.uptoBulkAll] at h2
    exact ih (by omega)
end Go.Proofs.YtophbfnedglmdaaDoor
