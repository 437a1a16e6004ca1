/-
  The walks of layer 3: a new writer, and what was written; nil writers.
-/
import Derived.Test.YtaekpejpcafnkaaWireC
import Derived.Lib.LazyBuf
namespace Go.Proofs.Ytaekpejpcafnkaa.ww
open Go.RowKit Go.Proofs.Ytaekpejpcafnkaa.ba Go.Proofs.Ytaekpejpcafnkaa.dp Go.Proofs.Ytaekpejpcafnkaa.wp Go.Proofs.Ytaekpejpcafnkaa.dw
set_option maxRecDepth 8000
set_option linter.unusedVariables false

/-- What slices.Clone leaves. -/
theorem clone_any (a : Option Addr) (n c : Nat) (l : List Int) (w : World) (hn : l.length = n) (hl : n ≤ 1000000) (hL : Lst .u8 w a l) (hna : a = none → l = []) :
    Calls Try.prog 50 #[.slice a n c] w fun x w' => OwnB w.heap.size w w' l x := by
  obtain ⟨i0, hi, hz0, hz1, hz2⟩ := info_parts info5
  cases a with
  | none =>
    have h0 := hna rfl
    subst h0
    have hn0 : n = 0 := by simpa using hn.symm
    subst hn0
    have hnil : ∀ W, (binOp .eql 22 (.slice none 0 c) (.slice none 0 0)).run Try.prog W = .ok (.bool true) W := fun W => Lib.run_eql_slice_nil (P := Try.prog) W 22 5 none 0 c 0 0 Try.underlying22
    go_enter Try.func50, Try.ntmps50
    go_wp2_with fail
    go_ret
    exact ⟨none, 0, rfl, World.ownsRow_nil _ _ _ _, Below.refl _ _⟩
  | some ad =>
    have hb := box_below w (.cells #[] 5)
    have ho := own_new w w.heap.size 5 [] 0 rfl (Nat.le_refl _) (by unfold maxLen; omega)
    have HL := Lib.hid (hL.below hb)
    have HO := Lib.hid ho
    have Hn := Lib.hid hn
    clear ho hn
    have hnil : ∀ W, (binOp .eql 22 (.slice (some ad) n c) (.slice none 0 0)).run Try.prog W = .ok (.bool false) W := fun W => Lib.run_eql_slice_nil (P := Try.prog) W 22 5 (some ad) n c 0 0 Try.underlying22
    go_enter Try.func50, Try.ntmps50
    go_wp2_with (at_builtin; refine wpList_append_lst rfl _ _ 22 rfl w.heap.size 5 .u8 i0 (.int .u8 0) 1 Try.underlying22 hi hz0 hz1 hz2 rfl (.slice (some ⟨w.heap.size, 0, none⟩) 0 0) 0 [] rfl HO.out (some ad) n c l rfl Hn.out HL.out (by omega) (by omega) (by simp) ?_; intro v3 W3 hown3 hg3)
    go_ret
    obtain ⟨a3, c3, hv3, _, _⟩ := own_form hown3
    subst hv3
    rw [Nat.zero_add, List.nil_append, ← Hn.out] at hown3
    refine ⟨a3, c3, by rw [Hn.out]; simp, hown3, hb.grown hg3 (by simp) (fun j hj => ?_)⟩
    simp [Value.ownBlock] at hj
    omega

theorem new_any (room : Int) (w : World) : Calls Try.prog 33 #[.int .i64 room] w fun x w' => x = .returned (.pointer (some ⟨w.heap.size, 0, none⟩)) ∧ Wr w' w.heap.size none [] 0 (if room < 0 then 0 else room) ∧ Below w.heap.size w w' := by
  by_cases h : room < 0
  · rw [if_pos h]
    go_enter Try.func33, Try.ntmps33
    go_wp2_with fail
    go_ret
    exact ⟨rfl, ⟨_, Blk.new w _ _, World.ownsRow_nil _ _ _ _, rfl⟩, (Below.refl _ _).alloc (Nat.le_refl _) _⟩
  · rw [if_neg h]
    have h' : 0 ≤ room := by omega
    go_enter Try.func33, Try.ntmps33
    go_wp2_with fail
    go_ret
    exact ⟨rfl, ⟨_, Blk.new w _ _, World.ownsRow_nil _ _ _ _, rfl⟩, (Below.refl _ _).alloc (Nat.le_refl _) _⟩

/-- What was written is told: nothing behind an error. -/
theorem bytes_any (g : Nat) (q : Option Nat) (l : List Int) (e room : Int) (w : World) (hW : Wr w g q l e room) (hl : l.length ≤ 1000000) :
    Calls Try.prog 42 #[.pointer (some ⟨g, 0, none⟩)] w fun x w' => ∃ a c, x = .returned (.tuple #[.slice a (if e = 0 then l else []).length c, .int .i64 e]) ∧ (if e = 0 then l else []).length ≤ c ∧ c ≤ maxLen ∧ Lst .u8 w' a (if e = 0 then l else []) ∧ (a = none → (if e = 0 then l else []) = []) ∧ Below w.heap.size w w' := by
  obtain ⟨v, hB, ho, hq⟩ := hW
  obtain ⟨av, cv, hv, _, _⟩ := own_form ho
  subst hv
  have c0 : w.cell? ⟨g, 0, none⟩ = some (.slice av l.length cv) := hB.cell 0
  have c1 : w.cell? ⟨g, 1, none⟩ = some (.int .i64 e) := hB.cell 1
  by_cases he : e = 0
  · subst he
    rw [if_pos rfl]
    have hna : av = none → l = [] := fun h => by
      subst h
      rcases ho.2 with ⟨_, h2⟩ | ⟨g', cap, cur, h2, _⟩
      · exact List.eq_nil_of_length_eq_zero h2
      · cases h2
    have HC := Lib.hid (clone_any av l.length cv l w rfl (by omega) (Lst.own ho) hna)
    clear ho hB hq hna
    go_enter Try.func42, Try.ntmps42
    go_wp2_with ((with_reducible refine HC.out.mono ?_); rintro x W1 ⟨a1, c1, rfl, hown1, hb1⟩)
    obtain ⟨_, _, he1, g1, g2⟩ := own_form hown1
    cases he1
    go_ret2
    exact ⟨a1, _, rfl, g1, g2, Lst.own hown1, (fun h => by
      subst h
      rcases hown1.2 with ⟨_, h2⟩ | ⟨g', cap, cur, h2, _⟩
      · exact List.eq_nil_of_length_eq_zero h2
      · cases h2), hb1⟩
  · have he' : (e == 0) = false := by simpa using he
    rw [if_neg he]
    clear he ho hB hq
    go_enter Try.func42, Try.ntmps42
    go_wp2_with fail
    go_quiet (fail)
    go_wp2_with fail
    go_ret2
    exact ⟨none, 0, rfl, Nat.le_refl _, Nat.zero_le _, .inl rfl, by simp, bdrew (Below.refl _ _) _⟩

/-! nil writers -/
theorem field_nil (f : Value) (w : World) : Calls Try.prog 56 #[.pointer none, f] w fun x w' => x = .returned (.pointer none) ∧ w = w' := by
  go_enter Try.func56, Try.ntmps56
  go_wp2_with fail
  go_ret
  exact ⟨rfl, rfl⟩
theorem number_nil (n : Int) (w : World) : Calls Try.prog 38 #[.pointer none, .int .u64 n] w fun x w' => x = .returned (.pointer none) ∧ Below w.heap.size w w' := by
  go_enter Try.func38, Try.ntmps38
  go_wp2_with (go_at_call 56; ((with_reducible refine (field_nil _ _).mono ?_); rintro x W1 ⟨rfl, rfl⟩))
  go_ret
  exact ⟨rfl, box_below _ _⟩
theorem text_nil (s : ByteArray) (w : World) : Calls Try.prog 41 #[.pointer none, .string s] w fun x w' => x = .returned (.pointer none) ∧ Below w.heap.size w w' := by
  go_enter Try.func41, Try.ntmps41
  go_wp2_with (go_at_call 56; ((with_reducible refine (field_nil _ _).mono ?_); rintro x W1 ⟨rfl, rfl⟩))
  go_ret
  exact ⟨rfl, box_below _ _⟩
theorem byte_nil (x : Int) (b off : Nat) (w : World) (hc : w.cell? ⟨b, off, none⟩ = some (.int .u8 x)) :
    Calls Try.prog 34 #[.pointer none, .slice (some ⟨b, off, none⟩) 1 1] w fun y w' => y = .returned (.pointer none) ∧ Below w.heap.size w w' := by
  go_enter Try.func34, Try.ntmps34
  go_wp2_with fail
  go_loopw [9] (fun i wr => (i = .int .i64 0 ∧ wr = w) ∨ (i = .int .i64 1 ∧ Below w.heap.size w wr)) (fun i _ => 1 - (intOf i).toNat)
  case atStart => exact .inl ⟨rfl, rfl⟩
  case round =>
    rcases hrel with ⟨rfl, rfl⟩ | ⟨rfl, hD⟩
    · go_wp2_with (go_at_call 56; ((with_reducible refine (field_nil _ _).mono ?_); rintro x W1 ⟨rfl, rfl⟩))
      go_roundw
      case rel => exact .inr ⟨rfl, box_below _ _⟩
      case measure => simp [intOf]
    · go_wp2_with fail
      go_ret
      exact ⟨rfl, hD⟩
theorem bytes_nil (w : World) : Calls Try.prog 42 #[.pointer none] w fun x w' => x = .returned (.tuple #[.slice none 0 0, .int .i64 9]) ∧ w = w' := by
  go_enter Try.func42, Try.ntmps42
  go_wp2_with fail
  go_ret2
  exact ⟨rfl, rfl⟩
end Go.Proofs.Ytaekpejpcafnkaa.ww
