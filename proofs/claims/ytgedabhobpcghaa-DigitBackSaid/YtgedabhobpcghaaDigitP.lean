/-
  The walks of layer 2: the document's rows of numbers; what the law DigitPuts asks of one number.
-/
import Derived.Test.YtgedabhobpcghaaDigitO
namespace Go.Proofs.Ytgedabhobpcghaa.dw
open Go.RowKit Go.Proofs.Ytgedabhobpcghaa.ba Go.Proofs.Ytgedabhobpcghaa.dp Go.Proofs.Ytgedabhobpcghaa.bp
set_option linter.unusedVariables false

set_option maxHeartbeats 1000000 in
set_option maxRecDepth 20000 in
theorem rrowO_any (a : Option Addr) (cap : Nat) (l : List Int) (w : World) (hl : l.length ≤ 1000) (hW : Words l) (hX : Lst .u64 w a l) :
    Calls Try.prog 22 #[.slice a l.length cap, .bool true] w fun x w' => OwnB w.heap.size w w' (ordR l) x := by
  obtain ⟨i0, hi, hz0, hz1, hz2⟩ := info_parts info5
  go_enter Try.func22, Try.ntmps22
  go_wp2_with fail
  go_loopw [5, 6] (fun o i wr => ∃ (k : Nat), k ≤ l.length ∧ i = .int .i64 k ∧ wr.ownsRow w.heap.size 5 1 o (ordR (l.take k)).length ((ordR (l.take k)).map (Value.int .u8)) ∧ Below w.heap.size w wr) (fun _ i _ => l.length - (intOf i).toNat)
  case atStart => exact ⟨0, Nat.zero_le _, rfl, World.ownsRow_nil _ _ _ _, Below.refl _ _⟩
  case round =>
    obtain ⟨k, hk, rfl, hown, hbel⟩ := hrel
    by_cases hlt : k < l.length
    · obtain ⟨x, hx⟩ := some_at l hlt
      have hxb := hW x (List.mem_of_getElem? hx)
      obtain ⟨X, rfl⟩ := Int.eq_ofNat_of_zero_le hxb.1
      have hX64 : X < 18446744073709551616 := by omega
      obtain ⟨b, off, rfl, c0⟩ := hX.at hx
      have d0 := bsome hbel c0 (World.block_lt_of_cell? w _ c0)
      have hlen := ordR_len (l.take k) (fun v hv => hW v (List.mem_of_mem_take hv))
      have hlk : (l.take k).length ≤ 1000 := by simp; omega
      have hs : Hid (ordR (l.take (k + 1)) = ordR (l.take k) ++ ordL X) := by show _ = _; rw [take_succ_at hx, ordR_snoc]; rfl
      have hz := hbel.size
      have hlX : (ordL X).length ≤ 9 := by
        have h4 := sizeO_le X (by omega)
        rw [ordL, List.length_cons, beB_len]
        omega
      clear c0
      go_wp2_with (first
        | (go_at_call 19; (with_reducible refine (rord_any X _ hX64).mono ?_); rintro x W1 ⟨a2, c2, rfl, hown2, hb2⟩)
        | (at_builtin; refine wpList_append_lst rfl _ _ 22 rfl w.heap.size 5 .u8 i0 (.int .u8 0) 1 Try.underlying22 hi hz0 hz1 hz2 rfl u5 _ _ rfl (own_below hown hb2) a2 _ c2 (ordL X) rfl rfl (Lst.own hown2) (by omega) (by omega) (Nat.le_trans hz hb2.size) ?_; intro v3 W3 hown3 hg3))
      go_roundw
      case rel =>
        refine ⟨k + 1, by omega, by go_num, by rw [hs.out]; simpa only [List.length_append] using hown3, (bthen hbel hb2).grown hg3 (Nat.le_trans hz hb2.size) (fun j hj => (hown.lt j hj).1)⟩
      case measure => simp [intOf]; omega
    · have : k = l.length := by omega
      subst this
      rw [List.take_length] at hown
      obtain ⟨a2, c2, hv, _, _⟩ := own_form hown
      subst hv
      go_wp2_with fail
      go_ret
      exact ⟨a2, c2, rfl, hown, hbel⟩

set_option maxHeartbeats 1000000 in
set_option maxRecDepth 20000 in
theorem rrowS_any (a : Option Addr) (cap : Nat) (l : List Int) (w : World) (hl : l.length ≤ 1000) (hW : Words l) (hX : Lst .u64 w a l) :
    Calls Try.prog 22 #[.slice a l.length cap, .bool false] w fun x w' => OwnB w.heap.size w w' (smaR l) x := by
  obtain ⟨i0, hi, hz0, hz1, hz2⟩ := info_parts info5
  go_enter Try.func22, Try.ntmps22
  go_wp2_with fail
  go_loopw [5, 6] (fun o i wr => ∃ (k : Nat), k ≤ l.length ∧ i = .int .i64 k ∧ wr.ownsRow w.heap.size 5 1 o (smaR (l.take k)).length ((smaR (l.take k)).map (Value.int .u8)) ∧ Below w.heap.size w wr) (fun _ i _ => l.length - (intOf i).toNat)
  case atStart => exact ⟨0, Nat.zero_le _, rfl, World.ownsRow_nil _ _ _ _, Below.refl _ _⟩
  case round =>
    obtain ⟨k, hk, rfl, hown, hbel⟩ := hrel
    by_cases hlt : k < l.length
    · obtain ⟨x, hx⟩ := some_at l hlt
      have hxb := hW x (List.mem_of_getElem? hx)
      obtain ⟨X, rfl⟩ := Int.eq_ofNat_of_zero_le hxb.1
      have hX64 : X < 18446744073709551616 := by omega
      obtain ⟨b, off, rfl, c0⟩ := hX.at hx
      have d0 := bsome hbel c0 (World.block_lt_of_cell? w _ c0)
      have hlen := smaR_len (l.take k)
      have hlk : (l.take k).length ≤ 1000 := by simp; omega
      have hs : Hid (smaR (l.take (k + 1)) = smaR (l.take k) ++ smaL X) := by show _ = _; rw [take_succ_at hx, smaR_snoc]; rfl
      have hz := hbel.size
      have hlX : (smaL X).length ≤ 10 := smaK_len 10 X
      clear c0
      go_wp2_with (first
        | (go_at_call 21; (with_reducible refine (rsma_any X _ hX64).mono ?_); rintro x W1 ⟨a2, c2, rfl, hown2, hb2⟩)
        | (at_builtin; refine wpList_append_lst rfl _ _ 22 rfl w.heap.size 5 .u8 i0 (.int .u8 0) 1 Try.underlying22 hi hz0 hz1 hz2 rfl u5 _ _ rfl (own_below hown hb2) a2 _ c2 (smaL X) rfl rfl (Lst.own hown2) (by omega) (by omega) (Nat.le_trans hz hb2.size) ?_; intro v3 W3 hown3 hg3))
      go_roundw
      case rel =>
        refine ⟨k + 1, by omega, by go_num, by rw [hs.out]; simpa only [List.length_append] using hown3, (bthen hbel hb2).grown hg3 (Nat.le_trans hz hb2.size) (fun j hj => (hown.lt j hj).1)⟩
      case measure => simp [intOf]; omega
    · have : k = l.length := by omega
      subst this
      rw [List.take_length] at hown
      obtain ⟨a2, c2, hv, _, _⟩ := own_form hown
      subst hv
      go_wp2_with fail
      go_ret
      exact ⟨a2, c2, rfl, hown, hbel⟩

/-- How many bytes one number has, four times. -/
theorem puts_four (X : Nat) (hX : X < 18446744073709551616) (w : World) (p : Addr) (v : Value) (c0 : w.cell? p = some v) : ∃ s t : Nat,
    (∀ w2, Calls Try.prog 18 #[.int .u64 X] w2 fun x w' => x = .returned (.int .i64 (s : Int)) ∧ w2 = w') ∧
    (∀ w2, Below w.heap.size w w2 → Calls Try.prog 19 #[.int .u64 X] w2 fun x w' => ∃ a c, x = .returned (.slice a s c) ∧ w'.cell? p = some v ∧ Below w.heap.size w w') ∧
    (∀ w2, Calls Try.prog 20 #[.int .u64 X] w2 fun x w' => x = .returned (.int .i64 (t : Int)) ∧ w2 = w') ∧
    (∀ w2, Below w.heap.size w w2 → Calls Try.prog 21 #[.int .u64 X] w2 fun x w' => ∃ a c, x = .returned (.slice a t c) ∧ w'.cell? p = some v ∧ Below w.heap.size w w') := by
  refine ⟨(ordL X).length, (smaL X).length, fun w2 => ?_, fun w2 hb => ?_, fun w2 => ?_, fun w2 hb => ?_⟩
  · have := sizeO_any X w2 hX
    rw [show (1 + (sizeO X : Int)) = ((ordL X).length : Int) from by rw [ordL, List.length_cons, beB_len]; omega] at this
    exact this
  · exact (rord_any X w2 hX).mono fun x w' ⟨a, c, h1, _, h3⟩ => ⟨a, c, h1, bsome (bthen hb h3) c0 (World.block_lt_of_cell? _ _ c0), bthen hb h3⟩
  · exact sizeS_any X w2 hX
  · exact (rsma_any X w2 hX).mono fun x w' ⟨a, c, h1, _, h3⟩ => ⟨a, c, h1, bsome (bthen hb h3) c0 (World.block_lt_of_cell? _ _ c0), bthen hb h3⟩

/-- The four rows of numbers, and whether they are the same. -/
theorem puts_rows (a : Option Addr) (cap : Nat) (l : List Int) (n : Nat) (hn : l.length = n) (w : World) (hl : l.length ≤ 1000) (hW : Words l) (hX : Lst .u64 w a l) : ∃ (s t : Nat) (S T : World → Option Addr → Prop),
    (∀ w2, Below w.heap.size w w2 → Calls Try.prog 13 #[.slice a n cap] w2 fun x w' => ∃ a' c, x = .returned (.slice a' s c) ∧ S w' a' ∧ Below w2.heap.size w2 w') ∧
    (∀ w2, Below w.heap.size w w2 → Calls Try.prog 22 #[.slice a n cap, .bool true] w2 fun x w' => ∃ a' c, x = .returned (.slice a' s c) ∧ S w' a' ∧ Below w2.heap.size w2 w') ∧
    (∀ w2, Below w.heap.size w w2 → Calls Try.prog 14 #[.slice a n cap] w2 fun x w' => ∃ a' c, x = .returned (.slice a' t c) ∧ T w' a' ∧ Below w2.heap.size w2 w') ∧
    (∀ w2, Below w.heap.size w w2 → Calls Try.prog 22 #[.slice a n cap, .bool false] w2 fun x w' => ∃ a' c, x = .returned (.slice a' t c) ∧ T w' a' ∧ Below w2.heap.size w2 w') ∧
    (∀ w2 a1 c1 a2 c2, S w2 a1 → S w2 a2 → Calls Try.prog 15 #[.slice a1 s c1, .slice a2 s c2] w2 fun x w' => x = .returned (.bool true) ∧ Below w2.heap.size w2 w') ∧
    (∀ w2 a1 c1 a2 c2, T w2 a1 → T w2 a2 → Calls Try.prog 15 #[.slice a1 t c1, .slice a2 t c2] w2 fun x w' => x = .returned (.bool true) ∧ Below w2.heap.size w2 w') ∧
    (∀ w2 w3 a1, S w2 a1 → Below w2.heap.size w2 w3 → S w3 a1) ∧ (∀ w2 w3 a1, T w2 a1 → Below w2.heap.size w2 w3 → T w3 a1) := by
  subst hn
  have b1 := ordR_len l hW
  have b2 := smaR_len l
  refine ⟨(ordR l).length, (smaR l).length, fun w2 a' => Lst .u8 w2 a' (ordR l), fun w2 a' => Lst .u8 w2 a' (smaR l), fun w2 hb => ?_, fun w2 hb => ?_, fun w2 hb => ?_, fun w2 hb => ?_, fun w2 a1 c1 a2 c2 h1 h2 => ?_, fun w2 a1 c1 a2 c2 h1 h2 => ?_, fun w2 w3 a1 h hb => h.below hb, fun w2 w3 a1 h hb => h.below hb⟩
  · exact (ordered_any a cap l w2 hl hW (hX.below hb)).mono fun x w' ⟨a', c, h1, h2, h3⟩ => ⟨a', c, h1, Lst.own h2, h3⟩
  · exact (rrowO_any a cap l w2 hl hW (hX.below hb)).mono fun x w' ⟨a', c, h1, h2, h3⟩ => ⟨a', c, h1, Lst.own h2, h3⟩
  · exact (small_any a cap l w2 hl hW (hX.below hb)).mono fun x w' ⟨a', c, h1, h2, h3⟩ => ⟨a', c, h1, Lst.own h2, h3⟩
  · exact (rrowS_any a cap l w2 hl hW (hX.below hb)).mono fun x w' ⟨a', c, h1, h2, h3⟩ => ⟨a', c, h1, Lst.own h2, h3⟩
  · have := same_any a1 a2 c1 c2 (ordR l) (ordR l) w2 (by omega) (by omega) h1 h2
    simpa using this
  · have := same_any a1 a2 c1 c2 (smaR l) (smaR l) w2 (by omega) (by omega) h1 h2
    simpa using this
end Go.Proofs.Ytgedabhobpcghaa.dw
