/-
  The walks of layer 10: what a kind uses, as letters; the document's answer whether a record is right.
-/
import Derived.Test.YtpbdgfgjlccapaaRecD
namespace Go.Proofs.Ytpbdgfgjlccapaa.rw
open Go.RowKit Go.Proofs.Ytpbdgfgjlccapaa.ba Go.Proofs.Ytpbdgfgjlccapaa.rp
set_option maxRecDepth 8000
set_option linter.unusedVariables false

def usesS (k : Int) : List UInt8 :=
  if k = 1 then [117] else if k = 2 then [109] else if k = 3 then [] else if k = 4 then [112, 115, 97] else if k = 5 then [103, 114, 116] else [115, 117, 114, 116]
set_option maxRecDepth 100000 in
theorem ruses_any (k : Int) (w : World) (h1 : 1 ≤ k) (h6 : k ≤ 6) :
    Calls Try.prog 37 #[.int .i64 k] w fun x w' => x = .returned (.string ⟨(usesS k).toArray⟩) ∧ Below w.heap.size w w' := by
  have hkk : k = 1 ∨ k = 2 ∨ k = 3 ∨ k = 4 ∨ k = 5 ∨ k = 6 := by omega
  clear h1 h6
  rcases hkk with rfl | rfl | rfl | rfl | rfl | rfl
  all_goals
    go_enter Try.func37, Try.ntmps37
    go_wp2_with fail
    go_ret
    exact ⟨rfl, (Below.refl _ _).alloc (Nat.le_refl _) _⟩

def hasB (l : List UInt8) (c : Int) : Bool := l.any fun b => (b.toNat : Int) == c
theorem hasB_take (s : ByteArray) (c : Int) (k : Nat) (hk : k < s.size) (h : hasB (s.data.toList.take k) c = false) (h2 : ((s[k].toNat : Int) == c) = false) : hasB (s.data.toList.take (k + 1)) c = false := by
  unfold hasB at *
  rw [List.take_succ_eq_append_getElem (by simpa using hk), List.any_append, h]
  have h3 : (((s.data.toList[k]'(by simpa using hk)).toNat : Int) == c) = false := h2
  simp only [List.any_cons, List.any_nil, h3, Bool.or_false]
theorem hasB_at (s : ByteArray) (c : Int) (k : Nat) (hk : k < s.size) (h2 : (s[k].toNat : Int) = c) : hasB s.data.toList c = true := by
  unfold hasB
  rw [List.any_eq_true]
  exact ⟨s.data.toList[k]'(by simpa using hk), List.getElem_mem _, by have h3 : ((s.data.toList[k]'(by simpa using hk)).toNat : Int) = c := h2; simpa using h3⟩
set_option maxRecDepth 100000 in
theorem has_any (s : ByteArray) (c : Int) (w : World) (hs : s.size ≤ 1000) :
    Calls Try.prog 38 #[.string s, .int .u8 c] w fun x w' => x = .returned (.bool (hasB s.data.toList c)) ∧ w = w' := by
  go_enter Try.func38, Try.ntmps38
  go_wp2_with fail
  go_loop [5] (fun i => ∃ k : Nat, k ≤ s.size ∧ i = .int .i64 k ∧ hasB (s.data.toList.take k) c = false) (fun i => s.size - (intOf i).toNat)
  case atStart => exact ⟨0, Nat.zero_le _, rfl, rfl⟩
  case round =>
    obtain ⟨k, hk, rfl, hb⟩ := hrel
    have HB := Lib.hid hb
    clear hb
    by_cases hlt : k < s.size
    · by_cases he : (s[k].toNat : Int) = c
      · have H := Lib.hid (hasB_at s c k hlt he)
        go_wp2_with fail
        go_ret
        exact ⟨ret_bool H.out.symm, rfl⟩
      · have he' : ((s[k].toNat : Int) == c) = false := by simpa using he
        have H := Lib.hid (hasB_take s c k hlt HB.out he')
        clear he
        go_wp2_with fail
        go_round
        case rel => exact ⟨k + 1, by omega, by go_num, H.out⟩
        case measure => simp [intOf]; omega
    · have hk' : k = s.size := by omega
      have H : hasB s.data.toList c = false := by
        have := HB.out
        rwa [hk', List.take_of_length_le (by simp)] at this
      have HH := Lib.hid H
      clear H hk'
      go_wp2_with fail
      go_ret
      exact ⟨ret_bool HH.out.symm, rfl⟩
end Go.Proofs.Ytpbdgfgjlccapaa.rw
