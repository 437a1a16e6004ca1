/-
  The walks of layer 21: moves and runs.
-/
import Derived.Test.YtnjipfnajgcibaaBase
import Derived.Test.YtnjipfnajgcibaaLifePlain
import Derived.Deep.WholeRow
namespace Go.Proofs.Ytnjipfnajgcibaa.lw
open Go.RowKit Go.Proofs.Ytnjipfnajgcibaa.ba Go.Proofs.Ytnjipfnajgcibaa.lp
set_option linter.unusedVariables false

/-- The table of moves, and a row of it. -/
def tbl : Array Value := #[.int .i64 (-1), .int .i64 1, .int .i64 (-1), .int .i64 (-1), .int .i64 (-1), .int .i64 (-1), .int .i64 (-1), .int .i64 1, .int .i64 2, .int .i64 (-1), .int .i64 (-1), .int .i64 5, .int .i64 (-1), .int .i64 1, .int .i64 (-1), .int .i64 3, .int .i64 4, .int .i64 5, .int .i64 (-1), .int .i64 1, .int .i64 (-1), .int .i64 (-1), .int .i64 4, .int .i64 5, .int .i64 (-1), .int .i64 1, .int .i64 (-1), .int .i64 (-1), .int .i64 (-1), .int .i64 5, .int .i64 (-1), .int .i64 1, .int .i64 (-1), .int .i64 (-1), .int .i64 (-1), .int .i64 5]
def row (s : Int) : Array Value := #[.int .i64 (-1), .int .i64 (cell s 1), .int .i64 (cell s 2), .int .i64 (cell s 3), .int .i64 (cell s 4), .int .i64 (cell s 5)]

theorem info47 : (Try.prog.info? 47).map (·.size) = some 36 := by kernel_rfl
theorem tbl_size : tbl.size = 36 := rfl
theorem tbl_one : tbl.all (·.oneCell') = true := by kernel_rfl

theorem idx_tbl0 (w : World) : (Instr.index 47 (.agg tbl) (.int .i64 0)).run Try.prog w = .ok (.agg #[.int .i64 (-1), .int .i64 1, .int .i64 (-1), .int .i64 (-1), .int .i64 (-1), .int .i64 (-1)]) w := by kernel_rfl
theorem row0 : row 0 = #[.int .i64 (-1), .int .i64 1, .int .i64 (-1), .int .i64 (-1), .int .i64 (-1), .int .i64 (-1)] := by kernel_rfl
theorem idx_tbl1 (w : World) : (Instr.index 47 (.agg tbl) (.int .i64 1)).run Try.prog w = .ok (.agg #[.int .i64 (-1), .int .i64 1, .int .i64 2, .int .i64 (-1), .int .i64 (-1), .int .i64 5]) w := by kernel_rfl
theorem row1 : row 1 = #[.int .i64 (-1), .int .i64 1, .int .i64 2, .int .i64 (-1), .int .i64 (-1), .int .i64 5] := by kernel_rfl
theorem idx_tbl2 (w : World) : (Instr.index 47 (.agg tbl) (.int .i64 2)).run Try.prog w = .ok (.agg #[.int .i64 (-1), .int .i64 1, .int .i64 (-1), .int .i64 3, .int .i64 4, .int .i64 5]) w := by kernel_rfl
theorem row2 : row 2 = #[.int .i64 (-1), .int .i64 1, .int .i64 (-1), .int .i64 3, .int .i64 4, .int .i64 5] := by kernel_rfl
theorem idx_tbl3 (w : World) : (Instr.index 47 (.agg tbl) (.int .i64 3)).run Try.prog w = .ok (.agg #[.int .i64 (-1), .int .i64 1, .int .i64 (-1), .int .i64 (-1), .int .i64 4, .int .i64 5]) w := by kernel_rfl
theorem row3 : row 3 = #[.int .i64 (-1), .int .i64 1, .int .i64 (-1), .int .i64 (-1), .int .i64 4, .int .i64 5] := by kernel_rfl
theorem idx_tbl4 (w : World) : (Instr.index 47 (.agg tbl) (.int .i64 4)).run Try.prog w = .ok (.agg #[.int .i64 (-1), .int .i64 1, .int .i64 (-1), .int .i64 (-1), .int .i64 (-1), .int .i64 5]) w := by kernel_rfl
theorem row4 : row 4 = #[.int .i64 (-1), .int .i64 1, .int .i64 (-1), .int .i64 (-1), .int .i64 (-1), .int .i64 5] := by kernel_rfl
theorem idx_tbl5 (w : World) : (Instr.index 47 (.agg tbl) (.int .i64 5)).run Try.prog w = .ok (.agg #[.int .i64 (-1), .int .i64 1, .int .i64 (-1), .int .i64 (-1), .int .i64 (-1), .int .i64 5]) w := by kernel_rfl
theorem row5 : row 5 = #[.int .i64 (-1), .int .i64 1, .int .i64 (-1), .int .i64 (-1), .int .i64 (-1), .int .i64 5] := by kernel_rfl
theorem idx_tbl (s : Int) (h1 : 0 ≤ s) (h2 : s ≤ 5) (w : World) : (Instr.index 47 (.agg tbl) (.int .i64 s)).run Try.prog w = .ok (.agg (row s)) w := by
  have hs : s = 0 ∨ s = 1 ∨ s = 2 ∨ s = 3 ∨ s = 4 ∨ s = 5 := by omega
  rcases hs with rfl | rfl | rfl | rfl | rfl | rfl
  · rw [row0]; exact idx_tbl0 w
  · rw [row1]; exact idx_tbl1 w
  · rw [row2]; exact idx_tbl2 w
  · rw [row3]; exact idx_tbl3 w
  · rw [row4]; exact idx_tbl4 w
  · rw [row5]; exact idx_tbl5 w
theorem idx_row1 (s : Int) (w : World) : (Instr.index 46 (.agg (row s)) (.int .i64 1)).run Try.prog w = .ok (.int .i64 (cell s 1)) w := by kernel_rfl
theorem idx_row2 (s : Int) (w : World) : (Instr.index 46 (.agg (row s)) (.int .i64 2)).run Try.prog w = .ok (.int .i64 (cell s 2)) w := by kernel_rfl
theorem idx_row3 (s : Int) (w : World) : (Instr.index 46 (.agg (row s)) (.int .i64 3)).run Try.prog w = .ok (.int .i64 (cell s 3)) w := by kernel_rfl
theorem idx_row4 (s : Int) (w : World) : (Instr.index 46 (.agg (row s)) (.int .i64 4)).run Try.prog w = .ok (.int .i64 (cell s 4)) w := by kernel_rfl
theorem idx_row5 (s : Int) (w : World) : (Instr.index 46 (.agg (row s)) (.int .i64 5)).run Try.prog w = .ok (.int .i64 (cell s 5)) w := by kernel_rfl
theorem idx_row (s e : Int) (h1 : 1 ≤ e) (h2 : e ≤ 5) (w : World) : (Instr.index 46 (.agg (row s)) (.int .i64 e)).run Try.prog w = .ok (.int .i64 (cell s e)) w := by
  have he : e = 1 ∨ e = 2 ∨ e = 3 ∨ e = 4 ∨ e = 5 := by omega
  rcases he with rfl | rfl | rfl | rfl | rfl
  · exact idx_row1 s w
  · exact idx_row2 s w
  · exact idx_row3 s w
  · exact idx_row4 s w
  · exact idx_row5 s w
theorem bld0 (w : World) : (Instr.build 46 #[(0, .int .i64 (-1)), (1, .int .i64 1), (2, .int .i64 (-1)), (3, .int .i64 (-1)), (4, .int .i64 (-1)), (5, .int .i64 (-1))]).run Try.prog w = .ok (.agg #[.int .i64 (-1), .int .i64 1, .int .i64 (-1), .int .i64 (-1), .int .i64 (-1), .int .i64 (-1)]) w := by kernel_rfl
theorem bld1 (w : World) : (Instr.build 46 #[(0, .int .i64 (-1)), (1, .int .i64 1), (2, .int .i64 2), (3, .int .i64 (-1)), (4, .int .i64 (-1)), (5, .int .i64 5)]).run Try.prog w = .ok (.agg #[.int .i64 (-1), .int .i64 1, .int .i64 2, .int .i64 (-1), .int .i64 (-1), .int .i64 5]) w := by kernel_rfl
theorem bld2 (w : World) : (Instr.build 46 #[(0, .int .i64 (-1)), (1, .int .i64 1), (2, .int .i64 (-1)), (3, .int .i64 3), (4, .int .i64 4), (5, .int .i64 5)]).run Try.prog w = .ok (.agg #[.int .i64 (-1), .int .i64 1, .int .i64 (-1), .int .i64 3, .int .i64 4, .int .i64 5]) w := by kernel_rfl
theorem bld3 (w : World) : (Instr.build 46 #[(0, .int .i64 (-1)), (1, .int .i64 1), (2, .int .i64 (-1)), (3, .int .i64 (-1)), (4, .int .i64 4), (5, .int .i64 5)]).run Try.prog w = .ok (.agg #[.int .i64 (-1), .int .i64 1, .int .i64 (-1), .int .i64 (-1), .int .i64 4, .int .i64 5]) w := by kernel_rfl
theorem bld4 (w : World) : (Instr.build 46 #[(0, .int .i64 (-1)), (1, .int .i64 1), (2, .int .i64 (-1)), (3, .int .i64 (-1)), (4, .int .i64 (-1)), (5, .int .i64 5)]).run Try.prog w = .ok (.agg #[.int .i64 (-1), .int .i64 1, .int .i64 (-1), .int .i64 (-1), .int .i64 (-1), .int .i64 5]) w := by kernel_rfl
theorem bld5 (w : World) : (Instr.build 46 #[(0, .int .i64 (-1)), (1, .int .i64 1), (2, .int .i64 (-1)), (3, .int .i64 (-1)), (4, .int .i64 (-1)), (5, .int .i64 5)]).run Try.prog w = .ok (.agg #[.int .i64 (-1), .int .i64 1, .int .i64 (-1), .int .i64 (-1), .int .i64 (-1), .int .i64 5]) w := by kernel_rfl
theorem bldt (w : World) : (Instr.build 47 #[(0, .agg #[.int .i64 (-1), .int .i64 1, .int .i64 (-1), .int .i64 (-1), .int .i64 (-1), .int .i64 (-1)]), (1, .agg #[.int .i64 (-1), .int .i64 1, .int .i64 2, .int .i64 (-1), .int .i64 (-1), .int .i64 5]), (2, .agg #[.int .i64 (-1), .int .i64 1, .int .i64 (-1), .int .i64 3, .int .i64 4, .int .i64 5]), (3, .agg #[.int .i64 (-1), .int .i64 1, .int .i64 (-1), .int .i64 (-1), .int .i64 4, .int .i64 5]), (4, .agg #[.int .i64 (-1), .int .i64 1, .int .i64 (-1), .int .i64 (-1), .int .i64 (-1), .int .i64 5]), (5, .agg #[.int .i64 (-1), .int .i64 1, .int .i64 (-1), .int .i64 (-1), .int .i64 (-1), .int .i64 5])]).run Try.prog w = .ok (.agg tbl) w := by kernel_rfl

theorem moves_any (w : World) : Calls Try.prog 22 #[] w fun e w' => e = .returned (.agg tbl) ∧ Below w.heap.size w w' := by
  have b0 := bld0
  have b1 := bld1
  have b2 := bld2
  have b3 := bld3
  have b4 := bld4
  have b5 := bld5
  have bt := bldt
  go_enter Try.func22, Try.ntmps22
  go_wp2_with (with_reducible refine wpList_store_row rfl 47 _ _ rfl w.heap.size tbl rfl rfl 47 _ (heap_alloc_new _ _) (by rw [info47, tbl_size]) rfl tbl_one ?_; rw [World.setRow_alloc_new])
  exact bodyPost_ret (results_cell_row Try.results22 _ _ w.heap.size 47 tbl (0, 0) _ rfl (heap_alloc_new _ _) Try.underlying47 rfl (by rw [info47, tbl_size])) rfl ⟨rfl, (Below.refl _ _).alloc (Nat.le_refl _) _⟩

end Go.Proofs.Ytnjipfnajgcibaa.lw
