/-
  The walks of the laws LifeRuns, LifePaths.
-/
import Derived.Test.YtnjipfnajgcibaaLifeG
namespace Go.Proofs.Ytnjipfnajgcibaa.lw
open Go.RowKit Go.Proofs.Ytnjipfnajgcibaa.ba Go.Proofs.Ytnjipfnajgcibaa.lp
set_option linter.unusedVariables false

theorem Ints.shorter {k : IntKind} {w : World} {a : Option Addr} {n len : Nat} {Z : Nat → Int} (h : Ints k w a len Z) (hn : n ≤ len) : Ints k w a n Z := by
  rcases h with h | ⟨b, off, rfl, h⟩
  · exact .inl (by omega)
  · exact .inr ⟨b, off, rfl, fun i hi => h i (by omega)⟩

set_option maxHeartbeats 1000000 in
theorem lifeRuns_any (s : Int) (a : Option Addr) (len cap : Nat) (Z : Nat → Int) (w : World) (hlc : len ≤ cap) (hcm : cap ≤ maxLen) (hZ : Ints .i64 w a len Z) :
    Calls Try.prog 4 #[.int .i64 s, .slice a len cap] w fun x w' => x = .returned (.bool true) ∧ Below w.heap.size w w' := by
  unfold maxLen at hcm
  have hbel : Below w.heap.size w w := Below.refl _ _
  by_cases h : (len : Int) ≤ 50
  · obtain ⟨R, hR⟩ : ∃ R, R = runF Z s 0 len := ⟨_, rfl⟩
    have h1 : Calls Try.prog 13 #[.int .i64 s, .slice a len cap] w fun x w' => x = .returned (.tuple #[.int .i64 R.1, .int .i64 R.2.1, .int .i64 R.2.2]) ∧ Below w.heap.size w w' := by rw [hR]; exact run_any _ _ _ _ _ _ (by omega) hZ
    have h2 : ∀ w2, Below w.heap.size w w2 → Calls Try.prog 14 #[.int .i64 s, .slice a len cap] w2 fun x w' => x = .returned (.tuple #[.int .i64 R.1, .int .i64 R.2.1, .int .i64 R.2.2]) ∧ w2 = w' := fun w2 hb => by rw [hR]; exact rrun_any _ _ _ _ _ _ (by omega) (hZ.below hb)
    clear hR
    go_enter Try.func4, Try.ntmps4
    go_wp2_with (first
      | (go_at_call 13; refine h1.mono ?_; rintro x W1 ⟨rfl, hb1⟩; replace hbel := bthen hbel hb1; clear hb1)
      | (go_at_call 14; refine (h2 _ hbel).mono ?_; rintro x W2 ⟨rfl, rfl⟩)
      | (go_at_call 10; refine (known_any _).mono ?_; rintro x W3 ⟨rfl, hb1⟩; replace hbel := bthen hbel hb1; clear hb1))
    go_ret
    exact ⟨ret_bool rfl, hbel⟩
  · have h' : (50 : Int) < (len : Int) := by omega
    obtain ⟨R, hR⟩ : ∃ R, R = runF Z s 0 50 := ⟨_, rfl⟩
    have h1 : Calls Try.prog 13 #[.int .i64 s, .slice a 50 cap] w fun x w' => x = .returned (.tuple #[.int .i64 R.1, .int .i64 R.2.1, .int .i64 R.2.2]) ∧ Below w.heap.size w w' := by rw [hR]; exact run_any _ _ _ _ _ _ (by omega) (Ints.shorter hZ (by omega))
    have h2 : ∀ w2, Below w.heap.size w w2 → Calls Try.prog 14 #[.int .i64 s, .slice a 50 cap] w2 fun x w' => x = .returned (.tuple #[.int .i64 R.1, .int .i64 R.2.1, .int .i64 R.2.2]) ∧ w2 = w' := fun w2 hb => by rw [hR]; exact rrun_any _ _ _ _ _ _ (by omega) ((Ints.shorter hZ (by omega)).below hb)
    clear hR h
    go_enter Try.func4, Try.ntmps4
    go_wp2_with (first
      | (go_at_call 13; refine h1.mono ?_; rintro x W1 ⟨rfl, hb1⟩; replace hbel := bthen hbel hb1; clear hb1)
      | (go_at_call 14; refine (h2 _ hbel).mono ?_; rintro x W2 ⟨rfl, rfl⟩)
      | (go_at_call 10; refine (known_any _).mono ?_; rintro x W3 ⟨rfl, hb1⟩; replace hbel := bthen hbel hb1; clear hb1))
    go_ret
    exact ⟨ret_bool rfl, hbel⟩

/-- What the code's search finds, run. -/
def found (frm to : Int) : Int × Int × Int := runF (fun i => (pathR frm to).1.getD i 0) frm 0 (pathR frm to).1.length
theorem path_law (frm to : Int) (h0 : 0 ≤ frm) (h5 : frm ≤ 5) (t0 : 0 ≤ to) (t5 : to ≤ 5) :
    pathR frm to = lenF frm to 0 7 ∧ ((pathR frm to).2 = (decide (0 < to) || decide (frm = 0))) ∧ (pathR frm to).1.length ≤ 3 ∧ ((pathR frm to).2 = true → found frm to = (to, ((pathR frm to).1.length : Int), 0)) := by
  have h := agree_all frm to h0 h5 t0 t5
  have e : pathR frm to = pathF frm to := by unfold pathR; rw [if_neg (by omega)]
  simp only [agree, Bool.and_eq_true, decide_eq_true_eq, Bool.or_eq_true, Bool.not_eq_true'] at h
  rw [found, e]
  refine ⟨h.1.1.1, h.1.1.2, h.1.2, fun h2 => ?_⟩
  rcases h.2 with h3 | h3
  · rw [h2] at h3; cases h3
  · exact h3

set_option maxHeartbeats 1000000 in
theorem lifePaths_any (frm to : Int) (w : World) : Calls Try.prog 5 #[.int .i64 frm, .int .i64 to] w fun x w' => x = .returned (.bool true) ∧ Below w.heap.size w w' := by
  have hbel : Below w.heap.size w w := Below.refl _ _
  by_cases hout : frm < 0 ∨ 5 < frm ∨ to < 0 ∨ 5 < to
  · have ho := hout
    have h1 : Calls Try.prog 15 #[.int .i64 frm, .int .i64 to] w fun x w' => ∃ a c, x = .returned (.tuple #[.slice a 0 c, .bool false]) ∧ Below w.heap.size w w' := by
      have h := path_any frm to w
      rw [show pathR frm to = ([], false) from by unfold pathR; rw [if_pos hout]] at h
      exact h.mono fun x W2 ⟨a, c, hx, _, hb⟩ => ⟨a, c, hx, hb⟩
    clear hout
    by_cases g1 : frm < 0
    · clear ho
      go_enter Try.func5, Try.ntmps5
      go_wp2_with (first
        | (go_at_call 15; refine h1.mono ?_; rintro x W1 ⟨a, c, rfl, hb1⟩; replace hbel := bthen hbel hb1; clear hb1)
        | (go_at_call 10; refine (known_any _).mono ?_; rintro x W3 ⟨rfl, hb1⟩; replace hbel := bthen hbel hb1; clear hb1))
      go_ret
      exact ⟨ret_bool rfl, hbel⟩
    by_cases g2 : 5 < frm
    · have g1' : 0 ≤ frm := by omega
      clear ho
      go_enter Try.func5, Try.ntmps5
      go_wp2_with (first
        | (go_at_call 15; refine h1.mono ?_; rintro x W1 ⟨a, c, rfl, hb1⟩; replace hbel := bthen hbel hb1; clear hb1)
        | (go_at_call 10; refine (known_any _).mono ?_; rintro x W3 ⟨rfl, hb1⟩; replace hbel := bthen hbel hb1; clear hb1))
      go_ret
      exact ⟨ret_bool rfl, hbel⟩
    by_cases g3 : to < 0
    · have g1' : 0 ≤ frm := by omega
      have g2' : frm ≤ 5 := by omega
      clear ho
      go_enter Try.func5, Try.ntmps5
      go_wp2_with (first
        | (go_at_call 15; refine h1.mono ?_; rintro x W1 ⟨a, c, rfl, hb1⟩; replace hbel := bthen hbel hb1; clear hb1)
        | (go_at_call 10; refine (known_any _).mono ?_; rintro x W3 ⟨rfl, hb1⟩; replace hbel := bthen hbel hb1; clear hb1))
      go_ret
      exact ⟨ret_bool rfl, hbel⟩
    · have g1' : 0 ≤ frm := by omega
      have g2' : frm ≤ 5 := by omega
      have g3' : 0 ≤ to := by omega
      have g4 : 5 < to := by omega
      clear ho
      go_enter Try.func5, Try.ntmps5
      go_wp2_with (first
        | (go_at_call 15; refine h1.mono ?_; rintro x W1 ⟨a, c, rfl, hb1⟩; replace hbel := bthen hbel hb1; clear hb1)
        | (go_at_call 10; refine (known_any _).mono ?_; rintro x W3 ⟨rfl, hb1⟩; replace hbel := bthen hbel hb1; clear hb1))
      go_ret
      exact ⟨ret_bool rfl, hbel⟩
  · have h0 : 0 ≤ frm := by omega
    have h5 : frm ≤ 5 := by omega
    have t0 : 0 ≤ to := by omega
    have t5 : to ≤ 5 := by omega
    obtain ⟨e1, e2, e3, e4⟩ := path_law frm to h0 h5 t0 t5
    have h1 := fun w => path_any frm to w
    have h2 := fun w => rpath_any frm to w
    rw [← e1] at h2
    unfold found at e4
    obtain ⟨l, hl⟩ : ∃ l, l = (pathR frm to).1 := ⟨_, rfl⟩
    have hRO : ∀ w x w', RowOut w w' (pathR frm to) x → ∃ a c, x = .returned (.tuple #[.slice a l.length c, .bool (pathR frm to).2]) ∧ Ints .i64 w' a l.length (fun i => l.getD i 0) ∧ Below w.heap.size w w' := by
      rintro w x w' ⟨a, c, rfl, hown, hb⟩
      rw [hl]
      exact ⟨a, c, rfl, Ints.own hown, hb⟩
    replace h1 := fun w => (h1 w).mono (hRO w)
    replace h2 := fun w => (h2 w).mono (hRO w)
    clear hRO e1 hout
    rw [← hl] at e3 e4
    have hS : ∀ w a c a2 c2, Ints .i64 w a l.length (fun i => l.getD i 0) → Ints .i64 w a2 l.length (fun i => l.getD i 0) → Calls Try.prog 11 #[.slice a l.length c, .slice a2 l.length c2] w fun x w' => x = .returned (.bool true) ∧ Below w.heap.size w w' := fun w a c a2 c2 hI hI2 => by
      have := same_any a a2 l.length c l.length c2 _ _ w (by omega) (by omega) hI hI2
      rw [(sameF_iff (fun i => l.getD i 0) (fun i => l.getD i 0) l.length).2 (fun _ _ => rfl), decide_eq_true rfl] at this
      exact this
    by_cases hyes : 0 < to ∨ frm = 0
    · have his : (pathR frm to).2 = true := by rw [e2]; simpa using hyes
      have hrun := e4 his
      rw [his] at h1 h2
      clear e2 e4 his hl
      have hR : ∀ w a c, Ints .i64 w a l.length (fun i => l.getD i 0) → Calls Try.prog 13 #[.int .i64 frm, .slice a l.length c] w fun x w' => x = .returned (.tuple #[.int .i64 to, .int .i64 (l.length : Int), .int .i64 0]) ∧ Below w.heap.size w w' := fun w a c hI => by
        have := run_any frm a l.length c _ w (by omega) hI
        rw [hrun] at this
        exact this
      clear hrun
      by_cases hto : 0 < to
      · clear hyes
        go_enter Try.func5, Try.ntmps5
        go_wp2_with (first
          | (go_at_call 15; refine (h1 _).mono ?_; rintro x W1 ⟨a, c, rfl, hI, hb1⟩; replace hbel := bthen hbel hb1; clear hb1)
          | (go_at_call 16; refine (h2 _).mono ?_; rintro x W2 ⟨a2, c2, rfl, hI2, hb1⟩; replace hI := hI.below hb1; replace hbel := bthen hbel hb1; clear hb1)
          | (go_at_call 13; refine (hR _ _ _ hI).mono ?_; rintro x W4 ⟨rfl, hb1⟩; replace hI := hI.below hb1; replace hI2 := hI2.below hb1; replace hbel := bthen hbel hb1; clear hb1)
          | (go_at_call 11; refine (hS _ _ _ _ _ hI hI2).mono ?_; rintro x W5 ⟨rfl, hb3⟩; replace hbel := bthen hbel hb3; clear hb3)
          | (go_at_call 10; refine (known_any _).mono ?_; rintro x W3 ⟨rfl, hb1⟩; replace hI := hI.below hb1; replace hI2 := hI2.below hb1; replace hbel := bthen hbel hb1; clear hb1))
        go_ret
        exact ⟨ret_bool (by first | rfl | (simp; omega)), hbel⟩
      · have hz : to = 0 := by omega
        have hf : frm = 0 := by omega
        subst hz
        subst hf
        clear hyes hto
        go_enter Try.func5, Try.ntmps5
        go_wp2_with (first
          | (go_at_call 15; refine (h1 _).mono ?_; rintro x W1 ⟨a, c, rfl, hI, hb1⟩; replace hbel := bthen hbel hb1; clear hb1)
          | (go_at_call 16; refine (h2 _).mono ?_; rintro x W2 ⟨a2, c2, rfl, hI2, hb1⟩; replace hI := hI.below hb1; replace hbel := bthen hbel hb1; clear hb1)
          | (go_at_call 13; refine (hR _ _ _ hI).mono ?_; rintro x W4 ⟨rfl, hb1⟩; replace hI := hI.below hb1; replace hI2 := hI2.below hb1; replace hbel := bthen hbel hb1; clear hb1)
          | (go_at_call 11; refine (hS _ _ _ _ _ hI hI2).mono ?_; rintro x W5 ⟨rfl, hb3⟩; replace hbel := bthen hbel hb3; clear hb3)
          | (go_at_call 10; refine (known_any _).mono ?_; rintro x W3 ⟨rfl, hb1⟩; replace hI := hI.below hb1; replace hI2 := hI2.below hb1; replace hbel := bthen hbel hb1; clear hb1))
        go_ret
        exact ⟨ret_bool (by first | rfl | (simp; omega)), hbel⟩
    · have his : (pathR frm to).2 = false := by rw [e2]; simpa using hyes
      rw [his] at h1 h2
      have hz : to = 0 := by omega
      have hf : 0 < frm := by omega
      have hf2 : (frm == 0) = false := by simp; omega
      subst hz
      clear e2 e4 his hl hyes
      go_enter Try.func5, Try.ntmps5
      go_wp2_with (first
        | (go_at_call 15; refine (h1 _).mono ?_; rintro x W1 ⟨a, c, rfl, hI, hb1⟩; replace hbel := bthen hbel hb1; clear hb1)
        | (go_at_call 16; refine (h2 _).mono ?_; rintro x W2 ⟨a2, c2, rfl, hI2, hb1⟩; replace hI := hI.below hb1; replace hbel := bthen hbel hb1; clear hb1)
        | (go_at_call 13; refine (run_any _ _ _ _ _ _ (by omega) hI).mono ?_; rintro x W4 ⟨rfl, hb1⟩; replace hI := hI.below hb1; replace hI2 := hI2.below hb1; replace hbel := bthen hbel hb1; clear hb1)
        | (go_at_call 11; refine (hS _ _ _ _ _ hI hI2).mono ?_; rintro x W5 ⟨rfl, hb3⟩; replace hbel := bthen hbel hb3; clear hb3)
        | (go_at_call 10; refine (known_any _).mono ?_; rintro x W3 ⟨rfl, hb1⟩; replace hI := hI.below hb1; replace hI2 := hI2.below hb1; replace hbel := bthen hbel hb1; clear hb1))
      go_ret
      exact ⟨ret_bool (by first | rfl | (simp; omega)), hbel⟩
end Go.Proofs.Ytnjipfnajgcibaa.lw
