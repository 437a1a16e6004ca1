/-
  The walk of the law WireSticks: behind an error.
-/
import Derived.Test.YtapeejndekoicaaWireS
namespace Go.Proofs.Ytapeejndekoicaa.ww
open Go.RowKit Go.Proofs.Ytapeejndekoicaa.ba Go.Proofs.Ytapeejndekoicaa.dp Go.Proofs.Ytapeejndekoicaa.wp Go.Proofs.Ytapeejndekoicaa.dw
set_option linter.unusedVariables false

section
variable {g : Nat} {e : Int} {w : World}
theorem fixed_bad (s : Int) (he : (e == 0) = false) (c1 : w.cell? ⟨g, 1, none⟩ = some (.int .i64 e)) : Calls Try.prog 49 #[.pointer (some ⟨g, 0, none⟩), .int .i64 s] w fun x w' => x = .returned (.int .u64 0) ∧ Below w.heap.size w w' := by
  have hT := take_bad (.func (.func 55) #[] #[.pointer (some ⟨w.heap.size, 0, none⟩), .pointer (some ⟨w.heap.size + 1, 0, none⟩)]) g e (two w (.int .i64 s) (.int .u64 0) 3 27) he (bsome (two_below _ _ _ _ _) c1 (World.block_lt_of_cell? _ _ c1))
  unfold two at hT
  have H := Lib.hid hT
  clear hT
  go_enter Try.func49, Try.ntmps49
  go_wp2_with ((with_reducible refine H.out.mono ?_); rintro x W1 ⟨⟨b, rfl⟩, rfl⟩)
  go_ret
  exact ⟨rfl, two_below _ _ _ _ _⟩
theorem rnumber_bad (n : Int) (he : (e == 0) = false) (c1 : w.cell? ⟨g, 1, none⟩ = some (.int .i64 e)) : Calls Try.prog 23 #[.pointer (some ⟨g, 0, none⟩), .int .u64 n] w fun x w' => x = .returned (.int .u64 0) ∧ Below w.heap.size w w' := by
  have hT := take_bad (.func (.func 42) #[] #[.pointer (some ⟨w.heap.size, 0, none⟩), .pointer (some ⟨w.heap.size + 1, 0, none⟩)]) g e (two w (.int .u64 n) (.int .u64 0) 27 27) he (bsome (two_below _ _ _ _ _) c1 (World.block_lt_of_cell? _ _ c1))
  unfold two at hT
  have H := Lib.hid hT
  clear hT
  go_enter Try.func23, Try.ntmps23
  go_wp2_with ((with_reducible refine H.out.mono ?_); rintro x W1 ⟨⟨b, rfl⟩, rfl⟩)
  go_ret
  exact ⟨rfl, two_below _ _ _ _ _⟩
theorem rtext_bad (n : Int) (he : (e == 0) = false) (c1 : w.cell? ⟨g, 1, none⟩ = some (.int .i64 e)) : Calls Try.prog 31 #[.pointer (some ⟨g, 0, none⟩), .int .i64 n] w fun x w' => x = .returned (.string ⟨#[]⟩) ∧ Below w.heap.size w w' := by
  have hT := take_bad (.func (.func 50) #[] #[.pointer (some ⟨w.heap.size, 0, none⟩), .pointer (some ⟨w.heap.size + 1, 0, none⟩)]) g e (two w (.int .i64 n) (.string ⟨#[]⟩) 3 9) he (bsome (two_below _ _ _ _ _) c1 (World.block_lt_of_cell? _ _ c1))
  unfold two at hT
  have H := Lib.hid hT
  clear hT
  go_enter Try.func31, Try.ntmps31
  go_wp2_with ((with_reducible refine H.out.mono ?_); rintro x W1 ⟨⟨b, rfl⟩, rfl⟩)
  go_ret
  exact ⟨rfl, two_below _ _ _ _ _⟩
theorem rbyte_bad (he : (e == 0) = false) (c1 : w.cell? ⟨g, 1, none⟩ = some (.int .i64 e)) : Calls Try.prog 28 #[.pointer (some ⟨g, 0, none⟩)] w fun x w' => x = .returned (.int .u8 0) ∧ Below w.heap.size w w' := by
  have H := Lib.hid (fixed_bad (g := g) 1 he c1)
  go_enter Try.func28, Try.ntmps28
  go_wp2_with ((with_reducible refine H.out.mono ?_); rintro x W1 ⟨rfl, hb⟩)
  go_ret
  exact ⟨rfl, hb⟩
theorem rshort_bad (he : (e == 0) = false) (c1 : w.cell? ⟨g, 1, none⟩ = some (.int .i64 e)) : Calls Try.prog 29 #[.pointer (some ⟨g, 0, none⟩)] w fun x w' => x = .returned (.int .i64 0) ∧ Below w.heap.size w w' := by
  have H := Lib.hid (fixed_bad (g := g) 2 he c1)
  go_enter Try.func29, Try.ntmps29
  go_wp2_with ((with_reducible refine H.out.mono ?_); rintro x W1 ⟨rfl, hb⟩)
  go_ret
  exact ⟨rfl, hb⟩
theorem rword_bad (he : (e == 0) = false) (c1 : w.cell? ⟨g, 1, none⟩ = some (.int .i64 e)) : Calls Try.prog 30 #[.pointer (some ⟨g, 0, none⟩)] w fun x w' => x = .returned (.int .u64 0) ∧ Below w.heap.size w w' := by
  have H := Lib.hid (fixed_bad (g := g) 8 he c1)
  go_enter Try.func30, Try.ntmps30
  go_wp2_with ((with_reducible refine H.out.mono ?_); rintro x W1 ⟨rfl, hb⟩)
  go_ret
  exact ⟨rfl, hb⟩
theorem get_bad (k most : Nat) (hk : k < 5) (he : (e == 0) = false) (c1 : w.cell? ⟨g, 1, none⟩ = some (.int .i64 e)) :
    Calls Try.prog 17 #[.pointer (some ⟨g, 0, none⟩), .int .i64 k, .int .u64 most] w fun x w' => x = .returned (.tuple #[.int .u64 0, .string ⟨#[]⟩]) ∧ Below w.heap.size w w' := by
  have h1 := Lib.hid (rbyte_bad (g := g) he c1); have h2 := Lib.hid (rshort_bad (g := g) he c1); have h3 := Lib.hid (rword_bad (g := g) he c1)
  have h4 := Lib.hid (rnumber_bad (g := g) (most : Int) he c1); have h5 := Lib.hid (rtext_bad (g := g) ((most : Int) % 1000000) he c1)
  have hk5 : k = 0 ∨ k = 1 ∨ k = 2 ∨ k = 3 ∨ k = 4 := by omega
  have hm0 : 0 ≤ (most : Int) % 1000000 := by omega
  rcases hk5 with rfl | rfl | rfl | rfl | rfl
  all_goals
    simp only [show ((0 : Nat) : Int) = 0 from rfl, show ((1 : Nat) : Int) = 1 from rfl, show ((2 : Nat) : Int) = 2 from rfl, show ((3 : Nat) : Int) = 3 from rfl, show ((4 : Nat) : Int) = 4 from rfl]
    go_enter Try.func17, Try.ntmps17
    go_wp2_with (first
      | (go_at_call 28; ((with_reducible refine h1.out.mono ?_); rintro x W1 ⟨rfl, hb⟩))
      | (go_at_call 29; ((with_reducible refine h2.out.mono ?_); rintro x W1 ⟨rfl, hb⟩))
      | (go_at_call 30; ((with_reducible refine h3.out.mono ?_); rintro x W1 ⟨rfl, hb⟩))
      | (go_at_call 23; ((with_reducible refine h4.out.mono ?_); rintro x W1 ⟨rfl, hb⟩))
      | (go_at_call 31; ((with_reducible refine h5.out.mono ?_); rintro x W1 ⟨rfl, hb⟩)))
    go_ret2
    exact ⟨rfl, hb⟩
end

/-- A reader's block of bytes, told; base B. -/
def RdAt (B : Nat) (w : World) (g rb : Nat) (l : List Int) (e : Int) : Prop :=
  B ≤ rb ∧ rb < w.heap.size ∧ ∃ a c, Blk w g 67 #[.slice a l.length c, .int .i64 e] ∧ l.length ≤ c ∧ c ≤ maxLen ∧ Lst .u8 w a l ∧ (∀ p, a = some p → p.block = rb ∧ p.block ≠ g ∧ ∃ cur, Blk w p.block 5 cur) ∧ Bytes l
theorem Rd.at_ {B : Nat} {w : World} {g : Nat} {l : List Int} {e : Int} (h : Rd B w g l e) (hg : B ≤ g) : ∃ rb, RdAt B w g rb l e := by
  obtain ⟨a, c, hB, h1, h2, h3, h4, h5⟩ := h
  cases a with
  | none => exact ⟨g, hg, hB.lt, none, c, hB, h1, h2, h3, (fun p hp => by cases hp), h5⟩
  | some p =>
    obtain ⟨⟨k0, k1⟩, cur, k2⟩ := h4 p rfl
    exact ⟨p.block, k0, k2.lt, some p, c, hB, h1, h2, h3, (fun q hq => by cases hq; exact ⟨rfl, k1, cur, k2⟩), h5⟩
theorem RdAt.rd {B : Nat} {w : World} {g rb : Nat} {l : List Int} {e : Int} (h : RdAt B w g rb l e) : Rd B w g l e := by
  obtain ⟨hb, _, a, c, hB, h1, h2, h3, h4, h5⟩ := h
  exact ⟨a, c, hB, h1, h2, h3, fun p hp => ⟨⟨by rw [(h4 p hp).1]; exact hb, (h4 p hp).2.1⟩, (h4 p hp).2.2⟩, h5⟩
theorem RdAt.kept {B : Nat} {S : Nat → Prop} {w w' : World} {g rb : Nat} {l : List Int} {e : Int} (h : RdAt B w g rb l e) (hk : Kept S w w') (hg : ¬ S g) (hr : ¬ S rb) : RdAt B w' g rb l e := by
  obtain ⟨hb, hlt, a, c, hB, h1, h2, h3, h4, h5⟩ := h
  refine ⟨hb, Nat.lt_of_lt_of_le hlt hk.size, a, c, hB.kept hk hg, h1, h2, h3.kept hk (fun p hp => by rw [(h4 p hp).1]; exact hr), fun p hp => ?_, h5⟩
  obtain ⟨k1, k2, cur, k3⟩ := h4 p hp
  exact ⟨k1, k2, cur, k3.kept hk (by rw [k1]; exact hr)⟩
theorem RdAt.err {B : Nat} {w : World} {g rb : Nat} {l : List Int} {e : Int} (h : RdAt B w g rb l e) : w.cell? ⟨g, 1, none⟩ = some (.int .i64 e) := by
  obtain ⟨_, _, a, c, hB, _⟩ := h
  exact hB.cell 1
/-- A writer, and a reader that was made behind it. -/
def WRd (w : World) (B : Nat) (w' : World) (g1 : Nat) (s : List Int × Int) (R : Int) (g2 rb : Nat) (l : List Int) (e : Int) : Prop :=
  w.heap.size ≤ g1 ∧ w.heap.size ≤ B ∧ B ≤ g2 ∧ g1 < B ∧ Below w.heap.size w w' ∧ RdAt B w' g2 rb l e ∧ ∃ q, Wr w' g1 q s.1 s.2 R ∧ ∀ j, q = some j → w.heap.size ≤ j ∧ j ≠ g2 ∧ j ≠ rb
section
variable {w w1 w2 : World} {B g1 g2 rb : Nat} {s s' : List Int × Int} {R : Int} {l : List Int} {e : Int}
theorem WRd.below (h : WRd w B w1 g1 s R g2 rb l e) (hb : Below w1.heap.size w1 w2) : WRd w B w2 g1 s R g2 rb l e := by
  obtain ⟨h1, h2, h3, h4, h5, h6, q, h7, h8⟩ := h
  exact ⟨h1, h2, h3, h4, bthen h5 hb, h6.kept (S := fun _ => False) (Kept.of_below hb) (by simp) (by simp), q, h7.below hb, h8⟩
theorem WRd.put {M : Nat} {args : Array Value} (h : WRd w B w1 g1 s R g2 rb l e) (hC : ∀ q, Wr w1 g1 q s.1 s.2 R → Calls Try.prog M args w1 fun x w' => WrDone w1 w' g1 q s' R x) :
    Calls Try.prog M args w1 fun x w' => x = .returned (.pointer (some ⟨g1, 0, none⟩)) ∧ WRd w B w' g1 s' R g2 rb l e := by
  obtain ⟨h1, h2, h3, h4, h5, h6, q, h7, h8⟩ := h
  have hg2 : g2 < w1.heap.size := by
    obtain ⟨_, _, a, c, hB, _⟩ := h6
    exact hB.lt
  have hrb := h6.1
  have hrl := h6.2.1
  refine (hC q h7).mono fun x w' ⟨hx, q', k1, k2, k3⟩ => ⟨hx, h1, h2, h3, h4, k2.below h5 (fun j hj => ?_), h6.kept k2 (fun hj => ?_) (fun hj => ?_), q', k1, fun j hj => ?_⟩
  · rcases hj with rfl | hj
    · exact h1
    · exact (h8 j hj).1
  · rcases hj with hj | hj
    · omega
    · exact (h8 g2 hj).2.1 rfl
  · rcases hj with hj | hj
    · omega
    · exact (h8 rb hj).2.2 rfl
  · rcases k3 with rfl | ⟨k, hk, hk2⟩
    · exact h8 j hj
    · rw [hk] at hj
      cases hj
      exact ⟨Nat.le_trans h5.size hk2, by omega, by omega⟩
theorem WRd.kw (h : WRd w B w1 g1 s R g2 rb l e) : KW w w1 g1 s R := by
  obtain ⟨h1, h2, h3, h4, h5, h6, q, h7, h8⟩ := h
  exact ⟨h1, h5, q, h7, fun j hj => (h8 j hj).1⟩
theorem WRd.make (h : KW w w1 g1 s R) (hR : KR w1 w2 g2 l e) : ∃ rb, WRd w w1.heap.size w2 g1 s R g2 rb l e := by
  obtain ⟨h1, hb, q, k1, k3⟩ := h
  obtain ⟨m1, m2, m3⟩ := hR
  obtain ⟨rb, hrb⟩ := m3.at_ m1
  have hlt := k1.lt
  refine ⟨rb, h1, hb.size, m1, hlt.1, bthen hb m2, hrb, q, k1.below m2, fun j hj => ⟨k3 j hj, ?_, ?_⟩⟩
  · have := hlt.2 j hj; omega
  · have := hlt.2 j hj; have := hrb.1; omega
end
end Go.Proofs.Ytapeejndekoicaa.ww
