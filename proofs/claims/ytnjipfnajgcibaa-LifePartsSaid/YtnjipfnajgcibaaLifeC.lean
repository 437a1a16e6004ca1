/-
  The walks of layer 21: words.
-/
import Derived.Test.YtnjipfnajgcibaaLifeB
namespace Go.Proofs.Ytnjipfnajgcibaa.lw
open Go.RowKit Go.Proofs.Ytnjipfnajgcibaa.ba Go.Proofs.Ytnjipfnajgcibaa.lp
set_option linter.unusedVariables false

/-- The words of states, and of events. -/
def wordF (s : Int) : ByteArray := if s = 0 then ⟨#[110, 111, 110, 101]⟩ else if s = 1 then ⟨#[100, 114, 97, 102, 116]⟩ else if s = 2 then ⟨#[114, 101, 118, 105, 101, 119]⟩ else if s = 3 then ⟨#[97, 112, 112, 114, 111, 118, 101, 100]⟩ else if s = 4 then ⟨#[114, 101, 106, 101, 99, 116, 101, 100]⟩ else if s = 5 then ⟨#[115, 116, 97, 108, 101]⟩ else ⟨#[]⟩
def nameF (s : Int) : ByteArray := if s = 0 then ⟨#[]⟩ else if s = 1 then ⟨#[101, 100, 105, 116]⟩ else if s = 2 then ⟨#[115, 117, 98, 109, 105, 116]⟩ else if s = 3 then ⟨#[97, 112, 112, 114, 111, 118, 101]⟩ else if s = 4 then ⟨#[114, 101, 106, 101, 99, 116]⟩ else if s = 5 then ⟨#[99, 104, 97, 110, 103, 101]⟩ else ⟨#[]⟩

def wtbl : Array Value := #[.string ⟨#[110, 111, 110, 101]⟩, .string ⟨#[100, 114, 97, 102, 116]⟩, .string ⟨#[114, 101, 118, 105, 101, 119]⟩, .string ⟨#[97, 112, 112, 114, 111, 118, 101, 100]⟩, .string ⟨#[114, 101, 106, 101, 99, 116, 101, 100]⟩, .string ⟨#[115, 116, 97, 108, 101]⟩]
theorem wtbl_size : wtbl.size = 6 := rfl
theorem wtbl_one : wtbl.all (·.oneCell') = true := by kernel_rfl
theorem wbld (w : World) : (Instr.build 54 #[(0, .string ⟨#[110, 111, 110, 101]⟩), (1, .string ⟨#[100, 114, 97, 102, 116]⟩), (2, .string ⟨#[114, 101, 118, 105, 101, 119]⟩), (3, .string ⟨#[97, 112, 112, 114, 111, 118, 101, 100]⟩), (4, .string ⟨#[114, 101, 106, 101, 99, 116, 101, 100]⟩), (5, .string ⟨#[115, 116, 97, 108, 101]⟩)]).run Try.prog w = .ok (.agg wtbl) w := by kernel_rfl
theorem widx0 (w : World) : (Instr.index 54 (.agg wtbl) (.int .i64 0)).run Try.prog w = .ok (.string (wordF 0)) w := by kernel_rfl
theorem widx1 (w : World) : (Instr.index 54 (.agg wtbl) (.int .i64 1)).run Try.prog w = .ok (.string (wordF 1)) w := by kernel_rfl
theorem widx2 (w : World) : (Instr.index 54 (.agg wtbl) (.int .i64 2)).run Try.prog w = .ok (.string (wordF 2)) w := by kernel_rfl
theorem widx3 (w : World) : (Instr.index 54 (.agg wtbl) (.int .i64 3)).run Try.prog w = .ok (.string (wordF 3)) w := by kernel_rfl
theorem widx4 (w : World) : (Instr.index 54 (.agg wtbl) (.int .i64 4)).run Try.prog w = .ok (.string (wordF 4)) w := by kernel_rfl
theorem widx5 (w : World) : (Instr.index 54 (.agg wtbl) (.int .i64 5)).run Try.prog w = .ok (.string (wordF 5)) w := by kernel_rfl
theorem widx (s : Int) (h1 : 0 ≤ s) (h2 : s ≤ 5) (w : World) : (Instr.index 54 (.agg wtbl) (.int .i64 s)).run Try.prog w = .ok (.string (wordF s)) w := by
  have hs : s = 0 ∨ s = 1 ∨ s = 2 ∨ s = 3 ∨ s = 4 ∨ s = 5 := by omega
  rcases hs with rfl | rfl | rfl | rfl | rfl | rfl
  · exact widx0 w
  · exact widx1 w
  · exact widx2 w
  · exact widx3 w
  · exact widx4 w
  · exact widx5 w

def ntbl : Array Value := #[.string ⟨#[]⟩, .string ⟨#[101, 100, 105, 116]⟩, .string ⟨#[115, 117, 98, 109, 105, 116]⟩, .string ⟨#[97, 112, 112, 114, 111, 118, 101]⟩, .string ⟨#[114, 101, 106, 101, 99, 116]⟩, .string ⟨#[99, 104, 97, 110, 103, 101]⟩]
theorem ntbl_size : ntbl.size = 6 := rfl
theorem ntbl_one : ntbl.all (·.oneCell') = true := by kernel_rfl
theorem nbld (w : World) : (Instr.build 54 #[(0, .string ⟨#[]⟩), (1, .string ⟨#[101, 100, 105, 116]⟩), (2, .string ⟨#[115, 117, 98, 109, 105, 116]⟩), (3, .string ⟨#[97, 112, 112, 114, 111, 118, 101]⟩), (4, .string ⟨#[114, 101, 106, 101, 99, 116]⟩), (5, .string ⟨#[99, 104, 97, 110, 103, 101]⟩)]).run Try.prog w = .ok (.agg ntbl) w := by kernel_rfl
theorem nidx0 (w : World) : (Instr.index 54 (.agg ntbl) (.int .i64 0)).run Try.prog w = .ok (.string (nameF 0)) w := by kernel_rfl
theorem nidx1 (w : World) : (Instr.index 54 (.agg ntbl) (.int .i64 1)).run Try.prog w = .ok (.string (nameF 1)) w := by kernel_rfl
theorem nidx2 (w : World) : (Instr.index 54 (.agg ntbl) (.int .i64 2)).run Try.prog w = .ok (.string (nameF 2)) w := by kernel_rfl
theorem nidx3 (w : World) : (Instr.index 54 (.agg ntbl) (.int .i64 3)).run Try.prog w = .ok (.string (nameF 3)) w := by kernel_rfl
theorem nidx4 (w : World) : (Instr.index 54 (.agg ntbl) (.int .i64 4)).run Try.prog w = .ok (.string (nameF 4)) w := by kernel_rfl
theorem nidx5 (w : World) : (Instr.index 54 (.agg ntbl) (.int .i64 5)).run Try.prog w = .ok (.string (nameF 5)) w := by kernel_rfl
theorem nidx (s : Int) (h1 : 0 ≤ s) (h2 : s ≤ 5) (w : World) : (Instr.index 54 (.agg ntbl) (.int .i64 s)).run Try.prog w = .ok (.string (nameF s)) w := by
  have hs : s = 0 ∨ s = 1 ∨ s = 2 ∨ s = 3 ∨ s = 4 ∨ s = 5 := by omega
  rcases hs with rfl | rfl | rfl | rfl | rfl | rfl
  · exact nidx0 w
  · exact nidx1 w
  · exact nidx2 w
  · exact nidx3 w
  · exact nidx4 w
  · exact nidx5 w

theorem info54 : (Try.prog.info? 54).map (·.size) = some 6 := by kernel_rfl

theorem words_any (w : World) : Calls Try.prog 25 #[] w fun e w' => e = .returned (.agg wtbl) ∧ Below w.heap.size w w' := by
  have bt := wbld
  go_enter Try.func25, Try.ntmps25
  go_wp2_with (with_reducible refine wpList_store_row rfl 54 _ _ rfl w.heap.size wtbl rfl rfl 54 _ (heap_alloc_new _ _) (by rw [info54, wtbl_size]) rfl wtbl_one ?_; rw [World.setRow_alloc_new])
  exact bodyPost_ret (results_cell_row Try.results25 _ _ w.heap.size 54 wtbl (0, 0) _ rfl (heap_alloc_new _ _) Try.underlying54 rfl (by rw [info54, wtbl_size])) rfl ⟨rfl, (Below.refl _ _).alloc (Nat.le_refl _) _⟩

theorem names_any (w : World) : Calls Try.prog 26 #[] w fun e w' => e = .returned (.agg ntbl) ∧ Below w.heap.size w w' := by
  have bt := nbld
  go_enter Try.func26, Try.ntmps26
  go_wp2_with (with_reducible refine wpList_store_row rfl 54 _ _ rfl w.heap.size ntbl rfl rfl 54 _ (heap_alloc_new _ _) (by rw [info54, ntbl_size]) rfl ntbl_one ?_; rw [World.setRow_alloc_new])
  exact bodyPost_ret (results_cell_row Try.results26 _ _ w.heap.size 54 ntbl (0, 0) _ rfl (heap_alloc_new _ _) Try.underlying54 rfl (by rw [info54, ntbl_size])) rfl ⟨rfl, (Below.refl _ _).alloc (Nat.le_refl _) _⟩

theorem ret_str {a b : ByteArray} (h : a = b) : Ending.returned (.string a) = .returned (.string b) := by rw [h]
theorem wordF_out (s : Int) (h : s < 0 ∨ 5 < s) : wordF s = ⟨#[]⟩ := by
  unfold wordF
  rw [if_neg (by omega), if_neg (by omega), if_neg (by omega), if_neg (by omega), if_neg (by omega), if_neg (by omega)]
def eventF (s : Int) : ByteArray := if s < 1 ∨ 5 < s then ⟨#[]⟩ else nameF s

theorem word_any (s : Int) (w : World) : Calls Try.prog 20 #[.int .i64 s] w fun e w' => e = .returned (.string (wordF s)) ∧ Below w.heap.size w w' := by
  by_cases h1 : s < 0 ∨ 5 < s
  · rw [wordF_out s h1]
    rcases h1 with h1 | h1
    all_goals
      go_enter Try.func20, Try.ntmps20
      go_wp2
      go_ret
      exact ⟨rfl, Below.refl _ _⟩
  · have hs : 0 ≤ s ∧ s ≤ 5 := by omega
    obtain ⟨hs1, hs2⟩ := hs
    have i1 := widx s hs1 hs2
    go_enter Try.func20, Try.ntmps20
    go_wp2_with (go_at_call 25; refine (words_any _).mono ?_; rintro x w1 ⟨rfl, hb⟩)
    go_ret
    exact ⟨rfl, hb⟩

theorem event_any (s : Int) (w : World) : Calls Try.prog 21 #[.int .i64 s] w fun e w' => e = .returned (.string (eventF s)) ∧ Below w.heap.size w w' := by
  by_cases h1 : s < 1 ∨ 5 < s
  · rw [show eventF s = ⟨#[]⟩ from if_pos h1]
    rcases h1 with h1 | h1
    all_goals
      go_enter Try.func21, Try.ntmps21
      go_wp2
      go_ret
      exact ⟨rfl, Below.refl _ _⟩
  · rw [show eventF s = nameF s from if_neg h1]
    have hs : 1 ≤ s ∧ s ≤ 5 := by omega
    obtain ⟨hs1, hs2⟩ := hs
    have i1 := nidx s (by omega) hs2
    go_enter Try.func21, Try.ntmps21
    go_wp2_with (go_at_call 26; refine (names_any _).mono ?_; rintro x w1 ⟨rfl, hb⟩)
    go_ret
    exact ⟨rfl, hb⟩

/-- The state of a word, and the error: from the k-th word on. -/
def readK (b : ByteArray) (k : Nat) : Nat → Int × Int
  | 0 => (0, 15)
  | n + 1 => if wordF k = b then ((k : Int), 0) else readK b (k + 1) n
def readF (b : ByteArray) : Int × Int := readK b 0 6

theorem read_any (s : ByteArray) (w : World) : Calls Try.prog 19 #[.string s] w fun e w' => e = .returned (.tuple #[.int .i64 (readF s).1, .int .i64 (readF s).2]) ∧ Below w.heap.size w w' := by
  unfold readF
  go_enter Try.func19, Try.ntmps19
  go_wp2_with (go_at_call 25; refine (words_any _).mono ?_; rintro x w1 ⟨rfl, hb⟩)
  go_loop [7] (fun i => ∃ k : Nat, k ≤ 6 ∧ i = .int .i64 k ∧ Hid (readK s 0 6 = readK s k (6 - k))) (fun i => 6 - (intOf i).toNat)
  case atStart => exact ⟨0, Nat.zero_le _, rfl, rfl⟩
  case round =>
    obtain ⟨k, hk, rfl, hr⟩ := hrel
    by_cases hlt : k < 6
    · have i1 := widx (k : Int) (by omega) (by omega)
      have hst : readK s k (6 - k) = if wordF k = s then ((k : Int), 0) else readK s (k + 1) (6 - (k + 1)) := by
        rw [show 6 - k = (6 - (k + 1)) + 1 from by omega]; rfl
      by_cases he : wordF (k : Int) = s
      · rw [if_pos he] at hst
        have hs := Lib.hid hst
        clear hst
        go_wp2_with fail
        go_ret2
        exact ⟨by rw [hr.out, hs.out]; rfl, hb⟩
      · rw [if_neg he] at hst
        have hs := Lib.hid hst
        have hq := str_ne he
        clear hst he
        go_wp2_with fail
        go_round
        case rel => exact ⟨k + 1, by omega, by go_num, by show _ = _; rw [hr.out, hs.out]⟩
        case measure => simp [intOf]; omega
    · have : k = 6 := by omega
      subst this
      go_wp2_with fail
      go_ret2
      exact ⟨by rw [hr.out]; rfl, hb⟩
end Go.Proofs.Ytnjipfnajgcibaa.lw
