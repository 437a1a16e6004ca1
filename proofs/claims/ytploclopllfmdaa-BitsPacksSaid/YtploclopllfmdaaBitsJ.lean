/-
  The walk of the statement on fields that are packed.
-/
import Derived.Test.YtploclopllfmdaaBitsE
import Derived.StillTailTactics
import Derived.Deep.QuietTactic
import Derived.BigQuiet
import Derived.OneCell
namespace Go.Proofs.Ytploclopllfmdaa.bw
open Go.RowKit Go.Proofs.Ytploclopllfmdaa.bp Go.Proofs.Ytploclopllfmdaa.bl
set_option linter.unusedVariables false

/-- Fields put one behind the other: the first k. -/
def packF (x : Nat) (F : Nat → Int × Int × Int) : Nat → Nat
  | 0 => x
  | k + 1 => putF (packF x F k) (F k).1 (F k).2.1 (F k).2.2.toNat
theorem packF_lt (x : Nat) (F : Nat → Int × Int × Int) (k : Nat) (h : x < 18446744073709551616) : packF x F k < 18446744073709551616 := by
  induction k with
  | zero => exact h
  | succ k ih => exact putF_lt _ _ _ _ ih

theorem hmf : ∀ (fn : Fn) (first cap : Array Value) (w : World), (Instr.makeFunc fn first cap).run Try.prog w = .ok (.func fn first cap) w := fun _ _ _ _ => rfl

theorem bsome {B : Nat} {w w' : World} {p : Addr} {v : Value} (hb : Below B w w') (h : w.cell? p = some v) (hlt : p.block < B) : w'.cell? p = some v := (hb.cell hlt).trans h

/-- The closure: one more field is put into the captured word. -/
theorem pack1_any (b : Nat) (x lo n v : Int) (w : World) (hb : w.heap[b]? = some (.cells #[.int .u64 x] 22 (0, 0)))
    (w1 : 0 ≤ x) (w2 : x ≤ 18446744073709551615) (v1 : 0 ≤ v) (v2 : v ≤ 18446744073709551615) (h1 : -9223372036854775808 ≤ lo) (h2 : lo ≤ 9223372036854775807) :
    Calls Try.prog 38 #[.agg #[.int .i64 lo, .int .i64 n, .int .u64 v], .pointer (some ⟨b, 0, none⟩)] w fun e w' => e = .returned (.tuple #[]) ∧
      w'.heap[b]? = some (.cells #[.int .u64 ((putF x.toNat lo n v.toNat : Nat) : Int)] 22 (0, 0)) ∧ w.grownBy w' (some b) := by
  have hlt := lt_of_block hb
  have hc := cell_of_one hb
  have hf := free_of_one hb
  have hc2 : (w.alloc (.cells #[.int .i64 lo, .int .i64 n, .int .u64 v] 38)).cell? ⟨b, 0, none⟩ = some (.int .u64 x) := by rw [World.cell?_alloc_past _ _ _ hlt]; exact hc
  go_enter Try.func38, Try.ntmps38
  go_wp2_with (first | (go_at_call 13; refine (put_any _ _ _ _ _ (by omega) (by omega) (by omega) (by omega) (by omega) (by omega)).mono ?_; rintro e w' ⟨rfl, rfl⟩))
  go_end0
  refine ⟨rfl, ?_, rfl, rfl, rfl, by simp [World.setCell], fun k hk hne => ?_⟩
  · rw [heap_alloc_old _ _ (by simpa [World.setCell] using hlt)]
    exact one_setCell hb
  · rw [heap_alloc_old _ _ (by simpa [World.setCell] using hk)]
    exact heap_setCell_other _ _ _ _ (fun e => hne (by rw [e]))

/-- A slice of fields that came in. -/
def Fds (w : World) (a : Option Addr) (len : Nat) (F : Nat → Int × Int × Int) : Prop :=
  len = 0 ∨ ∃ b off, a = some ⟨b, off, none⟩ ∧ ∀ i, i < len →
    w.cell? ⟨b, off + i * 3, none⟩ = some (.int .i64 (F i).1) ∧ w.cell? ⟨b, off + i * 3 + 1, none⟩ = some (.int .i64 (F i).2.1) ∧ w.cell? ⟨b, off + i * 3 + 2, none⟩ = some (.int .u64 (F i).2.2) ∧
    -9223372036854775808 ≤ (F i).1 ∧ (F i).1 ≤ 9223372036854775807 ∧ 0 ≤ (F i).2.2 ∧ (F i).2.2 ≤ 18446744073709551615

theorem Fds.below {w w' : World} {a : Option Addr} {len : Nat} {F : Nat → Int × Int × Int} (h : Fds w a len F) (hb : Below w.heap.size w w') : Fds w' a len F := by
  rcases h with h | ⟨b, off, rfl, h⟩
  · exact .inl h
  · refine .inr ⟨b, off, rfl, fun i hi => ?_⟩
    obtain ⟨h1, h2, h3, h4⟩ := h i hi
    have hlt := World.block_lt_of_cell? w _ h1
    exact ⟨bsome hb h1 hlt, bsome hb h2 hlt, bsome hb h3 hlt, h4⟩

theorem Fds.mono {w : World} {a : Option Addr} {len len' : Nat} {F : Nat → Int × Int × Int} (h : Fds w a len F) (hl : len' ≤ len) : Fds w a len' F := by
  rcases h with h1 | ⟨b, off, rfl, h⟩
  · exact .inl (by omega)
  · exact .inr ⟨b, off, rfl, fun i hi => h i (by omega)⟩

theorem pack_any (x : Int) (a : Option Addr) (len cap : Nat) (F : Nat → Int × Int × Int) (w : World) (w1 : 0 ≤ x) (w2 : x ≤ 18446744073709551615) (hl : len ≤ 9223372036854775807) (hF : Fds w a len F) :
    Calls Try.prog 25 #[.int .u64 x, .slice a len cap] w fun e w' => e = .returned (.int .u64 ((packF x.toNat F len : Nat) : Int)) ∧ Below w.heap.size w w' := by
  have hmk := hmf
  go_enter Try.func25, Try.ntmps25
  go_wp2_with fail
  go_loopw [7, 11] (fun _ i wr => ∃ k : Nat, k ≤ len ∧ i = .int .i64 k ∧ wr.heap[w.heap.size]? = some (.cells #[.int .u64 ((packF x.toNat F k : Nat) : Int)] 22 (0, 0)) ∧ Below w.heap.size w wr) (fun _ i _ => len - (intOf i).toNat)
  case atStart => exact ⟨0, Nat.zero_le _, rfl, by rw [heap_alloc_new, packF, Int.toNat_of_nonneg w1], (Below.refl _ _).alloc (Nat.le_refl _) _⟩
  case round =>
    obtain ⟨k, hk, rfl, hcap, hbel⟩ := hrel
    by_cases hlt : k < len
    · rcases hF with h0 | ⟨b, off, rfl, hF⟩
      · omega
      · obtain ⟨c1, c2, c3, r1, r2, r3, r4⟩ := hF k hlt
        have hb := World.block_lt_of_cell? w _ c1
        have d1 := bsome hbel c1 hb
        have d2 := bsome hbel c2 hb
        have d3 := bsome hbel c3 hb
        have hlt2 := lt_of_block hcap
        have hcap2 : (wr.alloc (.cells #[.int .i64 (F k).1, .int .i64 (F k).2.1, .int .u64 (F k).2.2] 38)).heap[w.heap.size]? = some (.cells #[.int .u64 ((packF x.toNat F k : Nat) : Int)] 22 (0, 0)) := by
          rw [heap_alloc_old _ _ hlt2]; exact hcap
        have hp := packF_lt x.toNat F k (by omega)
        go_wp2_with (go_at_call 38; refine (pack1_any w.heap.size _ _ _ _ _ hcap2 (by omega) (by omega) r3 r4 r1 r2).mono ?_; rintro e W1 ⟨rfl, hn, hg⟩)
        go_roundw
        case rel => exact ⟨k + 1, by omega, by go_num, by simpa [packF] using hn, (hbel.alloc hbel.size _).grown hg (by simp; have := hbel.size; omega) (fun j hj => by simp at hj; omega)⟩
        case measure => simp [intOf]; omega
    · have : k = len := by omega
      subst this
      have hc := cell_of_one hcap
      go_wp2_with fail
      go_ret
      exact ⟨rfl, hbel⟩

theorem Fds.below' {w w' : World} {a : Option Addr} {len : Nat} {F : Nat → Int × Int × Int} (h : Fds w a len F) (hb : Below w.heap.size w w') : Fds w' a len F := h.below hb

theorem packs_any (x : Int) (a : Option Addr) (len cap : Nat) (F : Nat → Int × Int × Int) (w : World) (w1 : 0 ≤ x) (w2 : x ≤ 18446744073709551615) (hl : len ≤ 9223372036854775807) (hcap : len ≤ cap) (hF : Fds w a len F) :
    Calls Try.prog 6 #[.int .u64 x, .slice a len cap] w fun e w' => e = .returned (.bool true) ∧ Below w.heap.size w w' := by
  by_cases hl30 : len ≤ 30
  · go_enter Try.func6, Try.ntmps6
    go_wp2_with fail
    go_loopw [5, 6] (fun y i wr => ∃ k : Nat, k ≤ len ∧ i = .int .i64 k ∧ y = .int .u64 ((packF x.toNat F k : Nat) : Int) ∧ Below w.heap.size w wr) (fun _ i _ => len - (intOf i).toNat)
    case atStart => exact ⟨0, Nat.zero_le _, rfl, by rw [packF, Int.toNat_of_nonneg w1], Below.refl _ _⟩
    case round =>
      obtain ⟨k, hk, rfl, rfl, hbel⟩ := hrel
      have hp := packF_lt x.toNat F k (by omega)
      by_cases hlt : k < len
      · rcases hF with h0 | ⟨b, off, rfl, hF⟩
        · omega
        · obtain ⟨c1, c2, c3, r1, r2, r3, r4⟩ := hF k (by omega)
          have hb := World.block_lt_of_cell? w _ c1
          have d1 := bsome hbel c1 hb
          have d2 := bsome hbel c2 hb
          have d3 := bsome hbel c3 hb
          clear hF c1 c2 c3
          go_wp2_with fail
          go_still_tail 16, (by kernel_rfl)
          change wpList _ _ _ _ _ wr.drew
          replace hbel := hbel.drew
          generalize wr.drew = wr2 at *
          go_wp2_with (first | (go_at_call 14; refine (rput_any _ _ _ _ _ (by omega) (by omega) (by omega) (by omega) (by omega) (by omega)).mono ?_; rintro e W1 ⟨rfl, hb1⟩; replace hbel := bthen hbel hb1; clear hb1))
          go_roundw
          case rel => exact ⟨k + 1, by omega, by go_num, by simp [packF], hbel⟩
          case measure => simp [intOf]; omega
      · have : k = len := by omega
        subst this
        go_wp2_with (first | (go_at_call 15; refine (known_any _).mono ?_; rintro e w' ⟨rfl, rfl⟩) | (go_at_call 25; refine (pack_any _ _ _ _ F _ w1 w2 (by omega) ((hF.mono (by omega)).below' hbel)).mono ?_; rintro e W1 ⟨rfl, hb1⟩; replace hbel := bthen hbel hb1; clear hb1))
        go_ret
        exact ⟨rfl, hbel⟩
  · go_enter Try.func6, Try.ntmps6
    go_wp2_with fail
    go_loopw [5, 6] (fun y i wr => ∃ k : Nat, k ≤ 30 ∧ i = .int .i64 k ∧ y = .int .u64 ((packF x.toNat F k : Nat) : Int) ∧ Below w.heap.size w wr) (fun _ i _ => 30 - (intOf i).toNat)
    case atStart => exact ⟨0, Nat.zero_le _, rfl, by rw [packF, Int.toNat_of_nonneg w1], Below.refl _ _⟩
    case round =>
      obtain ⟨k, hk, rfl, rfl, hbel⟩ := hrel
      have hp := packF_lt x.toNat F k (by omega)
      by_cases hlt : k < 30
      · rcases hF with h0 | ⟨b, off, rfl, hF⟩
        · omega
        · obtain ⟨c1, c2, c3, r1, r2, r3, r4⟩ := hF k (by omega)
          have hb := World.block_lt_of_cell? w _ c1
          have d1 := bsome hbel c1 hb
          have d2 := bsome hbel c2 hb
          have d3 := bsome hbel c3 hb
          clear hF c1 c2 c3
          go_wp2_with fail
          go_still_tail 16, (by kernel_rfl)
          change wpList _ _ _ _ _ wr.drew
          replace hbel := hbel.drew
          generalize wr.drew = wr2 at *
          go_wp2_with (first | (go_at_call 14; refine (rput_any _ _ _ _ _ (by omega) (by omega) (by omega) (by omega) (by omega) (by omega)).mono ?_; rintro e W1 ⟨rfl, hb1⟩; replace hbel := bthen hbel hb1; clear hb1))
          go_roundw
          case rel => exact ⟨k + 1, by omega, by go_num, by simp [packF], hbel⟩
          case measure => simp [intOf]; omega
      · have : k = 30 := by omega
        subst this
        go_wp2_with (first | (go_at_call 15; refine (known_any _).mono ?_; rintro e w' ⟨rfl, rfl⟩) | (go_at_call 25; refine (pack_any _ _ _ _ F _ w1 w2 (by omega) ((hF.mono (by omega)).below' hbel)).mono ?_; rintro e W1 ⟨rfl, hb1⟩; replace hbel := bthen hbel hb1; clear hb1))
        go_ret
        exact ⟨rfl, hbel⟩
end Go.Proofs.Ytploclopllfmdaa.bw
