/-
  The walks of layer 2 that other layers want: numbers as small bytes.
-/
import Derived.Test.YtapeejndekoicaaDigitPlainD
import Derived.Test.YtapeejndekoicaaReadS
import Derived.Laws.BitsAllLaws
namespace Go.Proofs.Ytapeejndekoicaa.dw
open Go.RowKit Go.Proofs.Ytapeejndekoicaa.ba Go.Proofs.Ytapeejndekoicaa.dp
set_option linter.unusedVariables false

theorem info5 : (Try.prog.info? 5).map (fun i => (i.zero, i.size, i.bytes)) = some (some (.int .u8 0), 1, 1) := by kernel_rfl

set_option maxRecDepth 100000 in
theorem or128_all : ∀ y : Fin 256, y.val ||| 128 = y.val % 128 + 128 := by decide

theorem or128 (m : Nat) : bits .or .u8 ((m : Int) % 256) 128 = ((m % 128 + 128 : Nat) : Int) := by
  have h := u8_or_nat (m % 256) 128 (by omega) (by omega)
  have h2 := or128_all ⟨m % 256, by omega⟩
  simp only at h2
  rw [h2] at h
  rw [show ((m : Int) % 256) = ((m % 256 : Nat) : Int) from by omega]
  rw [show (128 : Int) = ((128 : Nat) : Int) from rfl, h]
  omega

/-- Bytes of the call's own, handed back. -/
def OwnB (base : Nat) (w w' : World) (l : List Int) (x : Ending) : Prop :=
  ∃ a cap, x = .returned (.slice a l.length cap) ∧ w'.ownsRow base 5 1 (.slice a l.length cap) l.length (l.map (Value.int .u8)) ∧ Below base w w'

set_option maxHeartbeats 1000000 in
set_option maxRecDepth 20000 in
theorem small1_any (base : Nat) (v : Value) (l : List Int) (n : Nat) (w : World) (hb : base ≤ w.heap.size) (hl : l.length ≤ 1000000) (hn : n < 18446744073709551616) (hown : w.ownsRow base 5 1 v l.length (l.map (Value.int .u8))) :
    Calls Try.prog 54 #[v, .int .u64 n] w fun x w' => OwnB base w w' (l ++ smaL n) x := by
  obtain ⟨i0, hi, hz0, hz1, hz2⟩ := info_parts info5
  go_enter Try.func54, Try.ntmps54
  go_wp2_with fail
  go_loopg [0, 1] 10 (fun g o i wr => ∃ (m : Nat) (l' : List Int), m < 18446744073709551616 ∧ m < 128 ^ g ∧ 1 ≤ g ∧ g ≤ 10 ∧ i = .int .u64 m ∧ l'.length + g ≤ l.length + 10 ∧ wr.ownsRow base 5 1 o l'.length (l'.map (Value.int .u8)) ∧ Hid (l ++ smaL n = l' ++ smaK g m) ∧ Below base w wr)
  case atStart => exact ⟨n, l, hn, by omega, by omega, Nat.le_refl _, rfl, Nat.le_refl _, hown, rfl, Below.refl _ _⟩
  case round =>
    obtain ⟨m, l', hm, hmg, hg1, hg10, rfl, hll, hown', hr, hbel⟩ := hrel
    have hz := hbel.size
    cases gk with
    | zero => omega
    | succ g =>
      by_cases hlt : m < 128
      · have hs2 : Hid (smaK (g + 1) m = [(m : Int)]) := by show _ = _; rw [smaK, if_pos hlt]
        have hlt' : (m : Int) < 128 := by omega
        clear hmg
        go_wp2_with (at_builtin; refine wpList_append_one rfl _ _ 30 rfl base 5 i0 (.int .u8 0) 1 Try.underlying30 hi hz0 hz1 hz2 rfl u0 _ _ rfl hown' _ rfl _ rfl (by omega) (by omega) (by omega) ?_; intro v2 W2 hown2 hg2)
        obtain ⟨a2, c2, rfl, _, _⟩ := own_form hown2
        go_ret
        refine ⟨a2, c2, ?_, ?_, below_append hbel (by omega) hown' (Nat.le_refl _) hg2⟩
        · rw [hr.out, hs2.out]; simp
        · rw [hr.out, hs2.out]
          simpa using hown2
      · have hs2 : Hid (smaK (g + 1) m = ((m % 128 + 128 : Nat) : Int) :: smaK g (m / 128)) := by show _ = _; rw [smaK, if_neg hlt]
        have hge : (128 : Int) ≤ (m : Int) := by omega
        go_wp2_with (at_builtin; refine wpList_append_one rfl _ _ 30 rfl base 5 i0 (.int .u8 0) 1 Try.underlying30 hi hz0 hz1 hz2 rfl u0 _ _ rfl hown' _ rfl _ rfl (by omega) (by omega) (by omega) ?_; intro v2 W2 hown2 hg2)
        go_roundg g
        case measure => omega
        case rel =>
          refine ⟨m / 128, l' ++ [((m % 128 + 128 : Nat) : Int)], by omega, ?_, ?_, by omega, by rw [Int.natCast_ediv]; rfl, by simp; omega, ?_, ?_, below_append hbel (by omega) hown' (Nat.le_refl _) hg2⟩
          · rw [Nat.pow_succ] at hmg; omega
          · rcases Nat.eq_zero_or_pos g with h | h
            · subst h; simp at hmg; omega
            · exact h
          · rw [or128 m] at hown2
            simpa using hown2
          · show _ = _
            rw [hr.out, hs2.out]; simp

/-- Numbers of 64 bits. -/
def Words (l : List Int) : Prop := ∀ v ∈ l, 0 ≤ v ∧ v ≤ 18446744073709551615

def smaR (l : List Int) : List Int := l.flatMap fun v => smaL v.toNat

theorem smaR_snoc (l : List Int) (v : Int) : smaR (l ++ [v]) = smaR l ++ smaL v.toNat := by simp [smaR, List.flatMap_append]

theorem smaR_len (l : List Int) : (smaR l).length ≤ 10 * l.length := by
  induction l with
  | nil => simp [smaR]
  | cons x xs ih =>
    have h : smaR (x :: xs) = smaL x.toNat ++ smaR xs := by simp [smaR]
    have h2 := smaK_len 10 x.toNat
    rw [h, List.length_append, List.length_cons]
    unfold smaL
    omega

set_option maxHeartbeats 1000000 in
set_option maxRecDepth 20000 in
theorem rowS_any (a : Option Addr) (cap : Nat) (l : List Int) (w : World) (hl : l.length ≤ 1000) (hW : Words l) (hX : Lst .u64 w a l) :
    Calls Try.prog 53 #[.slice a l.length cap, .func (.func 54) #[] #[]] w fun x w' => OwnB w.heap.size w w' (smaR l) x := by
  go_enter Try.func53, Try.ntmps53
  go_wp2_with fail
  go_loopw [5, 10] (fun o i wr => ∃ (k : Nat), k ≤ l.length ∧ i = .int .i64 k ∧ wr.ownsRow w.heap.size 5 1 o (smaR (l.take k)).length ((smaR (l.take k)).map (Value.int .u8)) ∧ Below w.heap.size w wr) (fun _ i _ => l.length - (intOf i).toNat)
  case atStart => exact ⟨0, Nat.zero_le _, rfl, World.ownsRow_nil _ _ _ _, Below.refl _ _⟩
  case round =>
    obtain ⟨k, hk, rfl, hown, hbel⟩ := hrel
    by_cases hlt : k < l.length
    · obtain ⟨x, hx⟩ := some_at l hlt
      have hxb := hW x (List.mem_of_getElem? hx)
      obtain ⟨X, rfl⟩ := Int.eq_ofNat_of_zero_le hxb.1
      obtain ⟨b, off, rfl, c0⟩ := hX.at hx
      have d0 := bsome hbel c0 (World.block_lt_of_cell? w _ c0)
      have hlen := smaR_len (l.take k)
      have hlk : (l.take k).length ≤ 1000 := by simp; omega
      have hs : Hid (smaR (l.take (k + 1)) = smaR (l.take k) ++ smaL X) := by show _ = _; rw [take_succ_at hx, smaR_snoc]; rfl
      have hz := hbel.size
      clear c0
      go_wp2_with (go_at_call 54; refine (small1_any w.heap.size _ (smaR (l.take k)) X _ hz (by omega) (by omega) hown).mono ?_; rintro x W1 ⟨a2, c2, rfl, hown2, hb2⟩)
      go_roundw
      case rel => exact ⟨k + 1, by omega, by go_num, by rw [hs.out]; simpa only [List.length_append] using hown2, hbel.trans hb2⟩
      case measure => simp [intOf]; omega
    · have : k = l.length := by omega
      subst this
      rw [List.take_length] at hown
      obtain ⟨a2, c2, hv, _, _⟩ := own_form hown
      subst hv
      go_wp2_with fail
      go_ret
      exact ⟨a2, c2, rfl, hown, hbel⟩

theorem small_any (a : Option Addr) (cap : Nat) (l : List Int) (w : World) (hl : l.length ≤ 1000) (hW : Words l) (hX : Lst .u64 w a l) :
    Calls Try.prog 47 #[.slice a l.length cap] w fun x w' => OwnB w.heap.size w w' (smaR l) x := by
  go_enter Try.func47, Try.ntmps47
  go_wp2_with fail
  refine (rowS_any a cap l w hl hW hX).mono ?_
  rintro x W1 ⟨a2, c2, rfl, hown, hb⟩
  go_wp2_with fail
  go_ret
  exact ⟨a2, c2, rfl, hown, hb⟩

theorem lst_new (k : IntKind) (w : World) (l : List Int) (t : TypeId) : Lst k (w.alloc (.cells (l.map (Value.int k)).toArray t)) (some ⟨w.heap.size, 0, none⟩) l :=
  .inr ⟨w.heap.size, 0, rfl, fun i v hv => by
    rw [cell_of_row _ _ (0 + i) _ _ _ (heap_alloc_new w _)]
    simp [hv]⟩

theorem smaR_one (n : Nat) : smaR [(n : Int)] = smaL n := by simp [smaR]

set_option maxHeartbeats 1000000 in
set_option maxRecDepth 20000 in
theorem rsma_any (n : Nat) (w : World) (hn : n < 18446744073709551616) :
    Calls Try.prog 52 #[.int .u64 n] w fun x w' => OwnB w.heap.size w w' (smaL n) x := by
  obtain ⟨i0, hi, hz0, hz1, hz2⟩ := info_parts info5
  go_enter Try.func52, Try.ntmps52
  go_wp2_with fail
  go_loopg [0, 3] 10 (fun g i o wr => ∃ (m : Nat) (l' : List Int), m < 18446744073709551616 ∧ m < 128 ^ g ∧ 1 ≤ g ∧ g ≤ 10 ∧ i = .int .u64 m ∧ l'.length + g ≤ 10 ∧ wr.ownsRow w.heap.size 5 1 o l'.length (l'.map (Value.int .u8)) ∧ Hid (smaL n = l' ++ smaK g m) ∧ Below w.heap.size w wr)
  case atStart => exact ⟨n, [], hn, by omega, by omega, Nat.le_refl _, rfl, by simp, World.ownsRow_nil _ _ _ _, rfl, Below.refl _ _⟩
  case round =>
    obtain ⟨m, l', hm, hmg, hg1, hg10, rfl, hll, hown', hr, hbel⟩ := hrel
    have hz := hbel.size
    cases gk with
    | zero => omega
    | succ g =>
      by_cases hlt : m < 128
      · have hs2 : Hid (smaK (g + 1) m = [(m : Int)]) := by show _ = _; rw [smaK, if_pos hlt]
        have hlt' : (m : Int) ≤ 127 := by omega
        clear hmg
        go_wp2_with (at_builtin; refine wpList_append_one rfl _ _ 30 rfl w.heap.size 5 i0 (.int .u8 0) 1 Try.underlying30 hi hz0 hz1 hz2 rfl u3 _ _ rfl hown' _ rfl _ rfl (by omega) (by omega) (by omega) ?_; intro v2 W2 hown2 hg2)
        obtain ⟨a2, c2, rfl, _, _⟩ := own_form hown2
        go_ret
        refine ⟨a2, c2, ?_, ?_, below_append hbel (by omega) hown' (Nat.le_refl _) hg2⟩
        · rw [hr.out, hs2.out]; simp
        · rw [hr.out, hs2.out]
          simpa using hown2
      · have hs2 : Hid (smaK (g + 1) m = ((m % 128 + 128 : Nat) : Int) :: smaK g (m / 128)) := by show _ = _; rw [smaK, if_neg hlt]
        have hge : (127 : Int) < (m : Int) := by omega
        go_wp2_with (at_builtin; refine wpList_append_one rfl _ _ 30 rfl w.heap.size 5 i0 (.int .u8 0) 1 Try.underlying30 hi hz0 hz1 hz2 rfl u3 _ _ rfl hown' _ rfl _ rfl (by omega) (by omega) (by omega) ?_; intro v2 W2 hown2 hg2)
        go_roundg g
        case measure => omega
        case rel =>
          refine ⟨m / 128, l' ++ [((m % 128 + 128 : Nat) : Int)], by omega, ?_, ?_, by omega, by rw [Int.natCast_ediv]; rfl, by simp; omega, ?_, ?_, below_append hbel (by omega) hown' (Nat.le_refl _) hg2⟩
          · rw [Nat.pow_succ] at hmg; omega
          · rcases Nat.eq_zero_or_pos g with h | h
            · subst h; simp at hmg; omega
            · exact h
          · simpa using hown2
          · show _ = _
            rw [hr.out, hs2.out]; simp
theorem sma_one (n : Nat) (hn : n < 18446744073709551616) (B : Nat) (w : World) (hB : B = w.heap.size) : Calls Try.prog 47 #[.slice (some ⟨B, 0, none⟩) 1 1] (w.alloc (.cells #[.int .u64 n] 27)) fun x w' => OwnB w.heap.size w w' (smaL n) x := by
  subst hB
  have h := small_any (some ⟨w.heap.size, 0, none⟩) 1 [(n : Int)] (w.alloc (.cells #[.int .u64 n] 27)) (by simp) (by intro v hv; simp at hv; omega) (lst_new .u64 w [(n : Int)] 27)
  rw [smaR_one] at h
  refine h.mono fun x w' ⟨a, c, h1, h2, h3⟩ => ?_
  exact ⟨a, c, h1, own_mono h2 (by simp), ((Below.refl _ w).alloc (Nat.le_refl _) _).trans (h3.mono (by simp))⟩
end Go.Proofs.Ytapeejndekoicaa.dw
