/-
  The walks of layer 3: a new reader; is all read; nil readers; writers and readers of the call's own.
-/
import Derived.Test.YtaekpejpcafnkaaWireK
namespace Go.Proofs.Ytaekpejpcafnkaa.ww
open Go.RowKit Go.Proofs.Ytaekpejpcafnkaa.ba Go.Proofs.Ytaekpejpcafnkaa.dp Go.Proofs.Ytaekpejpcafnkaa.wp Go.Proofs.Ytaekpejpcafnkaa.dw
set_option maxRecDepth 8000
set_option linter.unusedVariables false

/-- A writer of the call's own. -/
def KW (w w' : World) (g : Nat) (s : List Int × Int) (room : Int) : Prop :=
  w.heap.size ≤ g ∧ Below w.heap.size w w' ∧ ∃ q, Wr w' g q s.1 s.2 room ∧ ∀ j, q = some j → w.heap.size ≤ j
/-- A reader of the call's own. -/
def KR (w w' : World) (g : Nat) (l : List Int) (e : Int) : Prop := w.heap.size ≤ g ∧ Below w.heap.size w w' ∧ Rd w.heap.size w' g l e

section
variable {w w1 w2 : World} {g : Nat} {s s' : List Int × Int} {room : Int} {l l' : List Int} {e e' : Int}
theorem KW.below (h : KW w w1 g s room) (hb : Below w1.heap.size w1 w2) : KW w w2 g s room := by
  obtain ⟨h1, h2, q, h3, h4⟩ := h
  exact ⟨h1, bthen h2 hb, q, h3.below hb, h4⟩
theorem KW.call {M : Nat} {args : Array Value} (h : KW w w1 g s room) (hC : ∀ q, Wr w1 g q s.1 s.2 room → Calls Try.prog M args w1 fun x w' => WrDone w1 w' g q s' room x) : Calls Try.prog M args w1 fun x w' => x = .returned (.pointer (some ⟨g, 0, none⟩)) ∧ KW w w' g s' room := by
  obtain ⟨h1, h2, q, h3, h4⟩ := h
  refine (hC q h3).mono fun x w' ⟨hx, q', k1, k2, k3⟩ => ⟨hx, h1, k2.below h2 (fun j hj => ?_), q', k1, fun j hj => ?_⟩
  · rcases hj with rfl | hj
    · exact h1
    · exact h4 j hj
  · rcases k3 with rfl | ⟨k, hk, hk2⟩
    · exact h4 j hj
    · rw [hk] at hj
      cases hj
      exact Nat.le_trans h2.size hk2
theorem KR.below (h : KR w w1 g l e) (hb : Below w1.heap.size w1 w2) : KR w w2 g l e := ⟨h.1, bthen h.2.1 hb, h.2.2.below hb⟩
theorem KR.done (h : KR w w1 g l e) (hD : RdDone w.heap.size w1 w2 g l' e') : KR w w2 g l' e' := ⟨h.1, hD.2.below h.2.1 (fun j hj => by rw [hj]; exact h.1), hD.1⟩
end

theorem newr_any (a : Option Addr) (n c : Nat) (l : List Int) (w : World) (hn : l.length = n) (hl : n ≤ 1000000) (hL : Lst .u8 w a l) (hna : a = none → l = []) (hB : Bytes l) :
    Calls Try.prog 21 #[.slice a n c] w fun x w' => ∃ g, x = .returned (.pointer (some ⟨g, 0, none⟩)) ∧ KR w w' g l 0 := by
  subst hn
  have HC := Lib.hid (clone_any a l.length c l w rfl hl hL hna)
  go_enter Try.func21, Try.ntmps21
  go_wp2_with ((with_reducible refine HC.out.mono ?_); rintro x W1 ⟨a1, c1, rfl, hown1, hb1⟩)
  obtain ⟨_, _, he1, g1, g2⟩ := own_form hown1
  cases he1
  go_ret
  have hb2 := box_below W1 (.cells #[.slice a1 l.length c1, .int .i64 0] 97)
  refine ⟨W1.heap.size, rfl, hb1.size, bthen hb1 hb2, a1, c1, Blk.new W1 _ _, g1, g2, (Lst.own hown1).below hb2, fun p hp => ?_, hB⟩
  have hblk : w.heap.size ≤ p.block ∧ ∃ cur, Blk W1 p.block 5 cur := by
    rcases hown1.2 with ⟨h2, _⟩ | ⟨g', cap, cur, h2, hg0, hg, _⟩
    · rw [hp] at h2; cases h2
    · rw [hp] at h2
      cases h2
      exact ⟨hg0, cur, hg⟩
  obtain ⟨hge, cur, hc⟩ := hblk
  have := hc.lt
  exact ⟨⟨hge, by omega⟩, cur, hc.below hb2⟩

def doneF (l : List Int) (e : Int) : Int := if e = 0 ∧ 0 < l.length then 3 else e
/-! nil readers -/
theorem fixed_nil (s : Int) (w : World) : Calls Try.prog 51 #[.pointer none, .int .i64 s] w fun x w' => x = .returned (.int .u64 0) ∧ Below w.heap.size w w' := by
  go_enter Try.func51, Try.ntmps51
  go_wp2_with (go_at_call 52; ((with_reducible refine (take_nil _ _).mono ?_); rintro x W1 ⟨⟨b, rfl⟩, rfl⟩))
  go_ret
  exact ⟨rfl, two_below _ _ _ _ _⟩
theorem rbyte_nil (w : World) : Calls Try.prog 22 #[.pointer none] w fun x w' => x = .returned (.int .u8 0) ∧ Below w.heap.size w w' := by
  go_enter Try.func22, Try.ntmps22
  go_wp2_with (go_at_call 51; ((with_reducible refine (fixed_nil _ _).mono ?_); rintro x W1 ⟨rfl, hb⟩))
  go_ret
  exact ⟨rfl, hb⟩
theorem rnumber_nil (n : Int) (w : World) : Calls Try.prog 28 #[.pointer none, .int .u64 n] w fun x w' => x = .returned (.int .u64 0) ∧ Below w.heap.size w w' := by
  go_enter Try.func28, Try.ntmps28
  go_wp2_with (go_at_call 52; ((with_reducible refine (take_nil _ _).mono ?_); rintro x W1 ⟨⟨b, rfl⟩, rfl⟩))
  go_ret
  exact ⟨rfl, two_below _ _ _ _ _⟩
theorem rtext_nil (n : Int) (w : World) : Calls Try.prog 31 #[.pointer none, .int .i64 n] w fun x w' => x = .returned (.string ⟨#[]⟩) ∧ Below w.heap.size w w' := by
  go_enter Try.func31, Try.ntmps31
  go_wp2_with (go_at_call 52; ((with_reducible refine (take_nil _ _).mono ?_); rintro x W1 ⟨⟨b, rfl⟩, rfl⟩))
  go_ret
  exact ⟨rfl, two_below _ _ _ _ _⟩
theorem left_nil (w : World) : Calls Try.prog 32 #[.pointer none] w fun x w' => x = .returned (.int .i64 0) ∧ w = w' := by
  go_enter Try.func32, Try.ntmps32
  go_wp2_with fail
  go_ret
  exact ⟨rfl, rfl⟩
theorem err_nil (w : World) : Calls Try.prog 23 #[.pointer none] w fun x w' => x = .returned (.int .i64 9) ∧ w = w' := by
  go_enter Try.func23, Try.ntmps23
  go_wp2_with fail
  go_ret
  exact ⟨rfl, rfl⟩
end Go.Proofs.Ytaekpejpcafnkaa.ww
