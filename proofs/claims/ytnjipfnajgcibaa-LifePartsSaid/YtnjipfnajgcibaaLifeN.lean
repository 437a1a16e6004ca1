/-
  The walk of the law LifeParts, by the rows' lengths.
-/
import Derived.Test.YtnjipfnajgcibaaLifeM
namespace Go.Proofs.Ytnjipfnajgcibaa.lw
open Go.RowKit Go.Proofs.Ytnjipfnajgcibaa.ba Go.Proofs.Ytnjipfnajgcibaa.lp
set_option linter.unusedVariables false

theorem own_made (w : World) (n : Nat) : ((w.drewN n).alloc (.cells #[] 3)).ownsRow w.heap.size 3 1 (.slice (some ⟨w.heap.size, 0, none⟩) 0 0) 0 (([] : List Int).map (Value.int .i64)) := by
  have := World.ownsRow_lit (base := w.heap.size) (e := 3) (size := 1) (w.drewN n) #[] 0 (by simp) (by unfold maxLen; omega) rfl
  simpa using this
theorem below_made (w : World) (n : Nat) : Below w.heap.size w ((w.drewN n).alloc (.cells #[] 3)) := (bdrew (Below.refl _ _) n).alloc (by simp) _

set_option maxHeartbeats 1000000 in
theorem parts_ll (s : Int) (a b : Option Addr) (la ca lb cb : Nat) (Za Zb : Nat → Int) (w : World) (hla : la ≤ ca) (hlb : lb ≤ cb) (hca : ca ≤ maxLen) (hcb : cb ≤ maxLen) (hA0 : Ints .i64 w a la Za) (hB0 : Ints .i64 w b lb Zb) (h1 : (la : Int) ≤ 30) (h2 : (lb : Int) ≤ 30) :
    Calls Try.prog 6 #[.int .i64 s, .slice a la ca, .slice b lb cb] w fun x w' => x = .returned (.bool true) ∧ Below w.heap.size w w' := by
  unfold maxLen at hca hcb
  obtain ⟨i0, hi, hz0, hz1, hz2⟩ := info_parts info3
  have hA : Ints .i64 w a la Za := Ints.shorter hA0 (by omega)
  have hB : Ints .i64 w b lb Zb := Ints.shorter hB0 (by omega)
  clear hA0 hB0
  obtain ⟨R1, R2, hruns, hr1, hr2⟩ := runs_any s a b la ca lb cb Za Zb w (by omega) (by omega) hA hB
  obtain ⟨hone, htwo, hboth⟩ := hruns
  have hown0 := own_made w
  have hbel0 := below_made w
  by_cases he : R1.2.2 = 0
  · simp only [he, if_true] at hone hboth
    ·
      go_enter Try.func6, Try.ntmps6
      go_wp2_with fail
      go_quiet (fail)
      go_wp2_with (first
        | (at_builtin; refine wpList_append_ints rfl _ _ 27 rfl w.heap.size 3 .i64 i0 (.int .i64 0) 8 Try.underlying27 hi hz0 hz1 hz2 rfl (.slice (some ⟨w.heap.size, 0, none⟩) 0 0) 0 [] rfl (hown0 _) a la ca Za rfl (hA.below (hbel0 _)) (by omega) (by omega) (by have := (hbel0 nq).size; exact this) ?_; intro v2 W2 hown2 hg2
           simp only [Nat.zero_add, List.nil_append] at hown2
           have hbel2 := (hbel0 nq).grown hg2 (hbel0 nq).size (fun j hj => by simp [Value.ownBlock] at hj; omega)
           have hz2' := hbel2.size)
        | (at_builtin; refine wpList_append_ints rfl _ _ 27 rfl w.heap.size 3 .i64 i0 (.int .i64 0) 8 Try.underlying27 hi hz0 hz1 hz2 rfl v2 la _ rfl hown2 b lb cb Zb rfl (hB.below hbel2) (by omega) (by omega) hz2' ?_; intro v3 W3 hown3 hg3
           have hbel3 := hbel2.grown hg3 hz2' (fun j hj => (hown2.lt j hj).1)
           obtain ⟨a3, c3, rfl, _, _⟩ := own_form hown3
           have hbothc := hboth W3 a3 c3 w.heap.size _ rfl hown3
           clear hown3
           try simp only [Nat.reduceAdd] at hbothc)
        | (go_at_call 13; with_reducible refine hbothc.mono ?_; rintro x W4 ⟨rfl, hb4⟩; replace hbel3 := bthen hbel3 hb4; clear hb4)
        | (go_at_call 13; with_reducible refine (hone _ hbel3).mono ?_; rintro x W5 ⟨rfl, hb4⟩; replace hbel3 := bthen hbel3 hb4; clear hb4)
        | (go_at_call 13; with_reducible refine (htwo _ hbel3).mono ?_; rintro x W6 ⟨rfl, hb4⟩; replace hbel3 := bthen hbel3 hb4; clear hb4)
        | (go_at_call 10; refine (known_any _).mono ?_; rintro x W7 ⟨rfl, hb4⟩; replace hbel3 := bthen hbel3 hb4; clear hb4))
      go_ret
      exact ⟨ret_bool (by simp), hbel3⟩
  · simp only [he, if_false] at hboth
    have hne : (R1.2.2 != 0) = true := by simpa using he
    clear he
    ·
      go_enter Try.func6, Try.ntmps6
      go_wp2_with fail
      go_quiet (fail)
      go_wp2_with (first
        | (at_builtin; refine wpList_append_ints rfl _ _ 27 rfl w.heap.size 3 .i64 i0 (.int .i64 0) 8 Try.underlying27 hi hz0 hz1 hz2 rfl (.slice (some ⟨w.heap.size, 0, none⟩) 0 0) 0 [] rfl (hown0 _) a la ca Za rfl (hA.below (hbel0 _)) (by omega) (by omega) (by have := (hbel0 nq).size; exact this) ?_; intro v2 W2 hown2 hg2
           simp only [Nat.zero_add, List.nil_append] at hown2
           have hbel2 := (hbel0 nq).grown hg2 (hbel0 nq).size (fun j hj => by simp [Value.ownBlock] at hj; omega)
           have hz2' := hbel2.size)
        | (at_builtin; refine wpList_append_ints rfl _ _ 27 rfl w.heap.size 3 .i64 i0 (.int .i64 0) 8 Try.underlying27 hi hz0 hz1 hz2 rfl v2 la _ rfl hown2 b lb cb Zb rfl (hB.below hbel2) (by omega) (by omega) hz2' ?_; intro v3 W3 hown3 hg3
           have hbel3 := hbel2.grown hg3 hz2' (fun j hj => (hown2.lt j hj).1)
           obtain ⟨a3, c3, rfl, _, _⟩ := own_form hown3
           have hbothc := hboth W3 a3 c3 w.heap.size _ rfl hown3
           clear hown3
           try simp only [Nat.reduceAdd] at hbothc)
        | (go_at_call 13; with_reducible refine hbothc.mono ?_; rintro x W4 ⟨rfl, hb4⟩; replace hbel3 := bthen hbel3 hb4; clear hb4)
        | (go_at_call 13; with_reducible refine (hone _ hbel3).mono ?_; rintro x W5 ⟨rfl, hb4⟩; replace hbel3 := bthen hbel3 hb4; clear hb4)
        | (go_at_call 13; with_reducible refine (htwo _ hbel3).mono ?_; rintro x W6 ⟨rfl, hb4⟩; replace hbel3 := bthen hbel3 hb4; clear hb4)
        | (go_at_call 10; refine (known_any _).mono ?_; rintro x W7 ⟨rfl, hb4⟩; replace hbel3 := bthen hbel3 hb4; clear hb4))
      go_ret
      exact ⟨ret_bool (by simp), hbel3⟩

set_option maxHeartbeats 1000000 in
theorem parts_lh (s : Int) (a b : Option Addr) (la ca lb cb : Nat) (Za Zb : Nat → Int) (w : World) (hla : la ≤ ca) (hlb : lb ≤ cb) (hca : ca ≤ maxLen) (hcb : cb ≤ maxLen) (hA0 : Ints .i64 w a la Za) (hB0 : Ints .i64 w b lb Zb) (h1 : (la : Int) ≤ 30) (h2 : 30 < (lb : Int)) :
    Calls Try.prog 6 #[.int .i64 s, .slice a la ca, .slice b lb cb] w fun x w' => x = .returned (.bool true) ∧ Below w.heap.size w w' := by
  unfold maxLen at hca hcb
  obtain ⟨i0, hi, hz0, hz1, hz2⟩ := info_parts info3
  have hA : Ints .i64 w a la Za := Ints.shorter hA0 (by omega)
  have hB : Ints .i64 w b 30 Zb := Ints.shorter hB0 (by omega)
  clear hA0 hB0
  obtain ⟨R1, R2, hruns, hr1, hr2⟩ := runs_any s a b la ca 30 cb Za Zb w (by omega) (by omega) hA hB
  obtain ⟨hone, htwo, hboth⟩ := hruns
  have hown0 := own_made w
  have hbel0 := below_made w
  by_cases he : R1.2.2 = 0
  · simp only [he, if_true] at hone hboth
    ·
      go_enter Try.func6, Try.ntmps6
      go_wp2_with fail
      go_quiet (fail)
      go_wp2_with (first
        | (at_builtin; refine wpList_append_ints rfl _ _ 27 rfl w.heap.size 3 .i64 i0 (.int .i64 0) 8 Try.underlying27 hi hz0 hz1 hz2 rfl (.slice (some ⟨w.heap.size, 0, none⟩) 0 0) 0 [] rfl (hown0 _) a la ca Za rfl (hA.below (hbel0 _)) (by omega) (by omega) (by have := (hbel0 nq).size; exact this) ?_; intro v2 W2 hown2 hg2
           simp only [Nat.zero_add, List.nil_append] at hown2
           have hbel2 := (hbel0 nq).grown hg2 (hbel0 nq).size (fun j hj => by simp [Value.ownBlock] at hj; omega)
           have hz2' := hbel2.size)
        | (at_builtin; refine wpList_append_ints rfl _ _ 27 rfl w.heap.size 3 .i64 i0 (.int .i64 0) 8 Try.underlying27 hi hz0 hz1 hz2 rfl v2 la _ rfl hown2 b 30 cb Zb rfl (hB.below hbel2) (by omega) (by omega) hz2' ?_; intro v3 W3 hown3 hg3
           have hbel3 := hbel2.grown hg3 hz2' (fun j hj => (hown2.lt j hj).1)
           obtain ⟨a3, c3, rfl, _, _⟩ := own_form hown3
           have hbothc := hboth W3 a3 c3 w.heap.size _ rfl hown3
           clear hown3
           try simp only [Nat.reduceAdd] at hbothc)
        | (go_at_call 13; with_reducible refine hbothc.mono ?_; rintro x W4 ⟨rfl, hb4⟩; replace hbel3 := bthen hbel3 hb4; clear hb4)
        | (go_at_call 13; with_reducible refine (hone _ hbel3).mono ?_; rintro x W5 ⟨rfl, hb4⟩; replace hbel3 := bthen hbel3 hb4; clear hb4)
        | (go_at_call 13; with_reducible refine (htwo _ hbel3).mono ?_; rintro x W6 ⟨rfl, hb4⟩; replace hbel3 := bthen hbel3 hb4; clear hb4)
        | (go_at_call 10; refine (known_any _).mono ?_; rintro x W7 ⟨rfl, hb4⟩; replace hbel3 := bthen hbel3 hb4; clear hb4))
      go_ret
      exact ⟨ret_bool (by simp), hbel3⟩
  · simp only [he, if_false] at hboth
    have hne : (R1.2.2 != 0) = true := by simpa using he
    clear he
    ·
      go_enter Try.func6, Try.ntmps6
      go_wp2_with fail
      go_quiet (fail)
      go_wp2_with (first
        | (at_builtin; refine wpList_append_ints rfl _ _ 27 rfl w.heap.size 3 .i64 i0 (.int .i64 0) 8 Try.underlying27 hi hz0 hz1 hz2 rfl (.slice (some ⟨w.heap.size, 0, none⟩) 0 0) 0 [] rfl (hown0 _) a la ca Za rfl (hA.below (hbel0 _)) (by omega) (by omega) (by have := (hbel0 nq).size; exact this) ?_; intro v2 W2 hown2 hg2
           simp only [Nat.zero_add, List.nil_append] at hown2
           have hbel2 := (hbel0 nq).grown hg2 (hbel0 nq).size (fun j hj => by simp [Value.ownBlock] at hj; omega)
           have hz2' := hbel2.size)
        | (at_builtin; refine wpList_append_ints rfl _ _ 27 rfl w.heap.size 3 .i64 i0 (.int .i64 0) 8 Try.underlying27 hi hz0 hz1 hz2 rfl v2 la _ rfl hown2 b 30 cb Zb rfl (hB.below hbel2) (by omega) (by omega) hz2' ?_; intro v3 W3 hown3 hg3
           have hbel3 := hbel2.grown hg3 hz2' (fun j hj => (hown2.lt j hj).1)
           obtain ⟨a3, c3, rfl, _, _⟩ := own_form hown3
           have hbothc := hboth W3 a3 c3 w.heap.size _ rfl hown3
           clear hown3
           try simp only [Nat.reduceAdd] at hbothc)
        | (go_at_call 13; with_reducible refine hbothc.mono ?_; rintro x W4 ⟨rfl, hb4⟩; replace hbel3 := bthen hbel3 hb4; clear hb4)
        | (go_at_call 13; with_reducible refine (hone _ hbel3).mono ?_; rintro x W5 ⟨rfl, hb4⟩; replace hbel3 := bthen hbel3 hb4; clear hb4)
        | (go_at_call 13; with_reducible refine (htwo _ hbel3).mono ?_; rintro x W6 ⟨rfl, hb4⟩; replace hbel3 := bthen hbel3 hb4; clear hb4)
        | (go_at_call 10; refine (known_any _).mono ?_; rintro x W7 ⟨rfl, hb4⟩; replace hbel3 := bthen hbel3 hb4; clear hb4))
      go_ret
      exact ⟨ret_bool (by simp), hbel3⟩

set_option maxHeartbeats 1000000 in
theorem parts_hl (s : Int) (a b : Option Addr) (la ca lb cb : Nat) (Za Zb : Nat → Int) (w : World) (hla : la ≤ ca) (hlb : lb ≤ cb) (hca : ca ≤ maxLen) (hcb : cb ≤ maxLen) (hA0 : Ints .i64 w a la Za) (hB0 : Ints .i64 w b lb Zb) (h1 : 30 < (la : Int)) (h2 : (lb : Int) ≤ 30) :
    Calls Try.prog 6 #[.int .i64 s, .slice a la ca, .slice b lb cb] w fun x w' => x = .returned (.bool true) ∧ Below w.heap.size w w' := by
  unfold maxLen at hca hcb
  obtain ⟨i0, hi, hz0, hz1, hz2⟩ := info_parts info3
  have hA : Ints .i64 w a 30 Za := Ints.shorter hA0 (by omega)
  have hB : Ints .i64 w b lb Zb := Ints.shorter hB0 (by omega)
  clear hA0 hB0
  obtain ⟨R1, R2, hruns, hr1, hr2⟩ := runs_any s a b 30 ca lb cb Za Zb w (by omega) (by omega) hA hB
  obtain ⟨hone, htwo, hboth⟩ := hruns
  have hown0 := own_made w
  have hbel0 := below_made w
  by_cases he : R1.2.2 = 0
  · simp only [he, if_true] at hone hboth
    ·
      go_enter Try.func6, Try.ntmps6
      go_wp2_with fail
      go_quiet (fail)
      go_wp2_with (first
        | (at_builtin; refine wpList_append_ints rfl _ _ 27 rfl w.heap.size 3 .i64 i0 (.int .i64 0) 8 Try.underlying27 hi hz0 hz1 hz2 rfl (.slice (some ⟨w.heap.size, 0, none⟩) 0 0) 0 [] rfl (hown0 _) a 30 ca Za rfl (hA.below (hbel0 _)) (by omega) (by omega) (by have := (hbel0 nq).size; exact this) ?_; intro v2 W2 hown2 hg2
           simp only [Nat.zero_add, List.nil_append] at hown2
           have hbel2 := (hbel0 nq).grown hg2 (hbel0 nq).size (fun j hj => by simp [Value.ownBlock] at hj; omega)
           have hz2' := hbel2.size)
        | (at_builtin; refine wpList_append_ints rfl _ _ 27 rfl w.heap.size 3 .i64 i0 (.int .i64 0) 8 Try.underlying27 hi hz0 hz1 hz2 rfl v2 30 _ rfl hown2 b lb cb Zb rfl (hB.below hbel2) (by omega) (by omega) hz2' ?_; intro v3 W3 hown3 hg3
           have hbel3 := hbel2.grown hg3 hz2' (fun j hj => (hown2.lt j hj).1)
           obtain ⟨a3, c3, rfl, _, _⟩ := own_form hown3
           have hbothc := hboth W3 a3 c3 w.heap.size _ rfl hown3
           clear hown3
           try simp only [Nat.reduceAdd] at hbothc)
        | (go_at_call 13; with_reducible refine hbothc.mono ?_; rintro x W4 ⟨rfl, hb4⟩; replace hbel3 := bthen hbel3 hb4; clear hb4)
        | (go_at_call 13; with_reducible refine (hone _ hbel3).mono ?_; rintro x W5 ⟨rfl, hb4⟩; replace hbel3 := bthen hbel3 hb4; clear hb4)
        | (go_at_call 13; with_reducible refine (htwo _ hbel3).mono ?_; rintro x W6 ⟨rfl, hb4⟩; replace hbel3 := bthen hbel3 hb4; clear hb4)
        | (go_at_call 10; refine (known_any _).mono ?_; rintro x W7 ⟨rfl, hb4⟩; replace hbel3 := bthen hbel3 hb4; clear hb4))
      go_ret
      exact ⟨ret_bool (by simp), hbel3⟩
  · simp only [he, if_false] at hboth
    have hne : (R1.2.2 != 0) = true := by simpa using he
    clear he
    ·
      go_enter Try.func6, Try.ntmps6
      go_wp2_with fail
      go_quiet (fail)
      go_wp2_with (first
        | (at_builtin; refine wpList_append_ints rfl _ _ 27 rfl w.heap.size 3 .i64 i0 (.int .i64 0) 8 Try.underlying27 hi hz0 hz1 hz2 rfl (.slice (some ⟨w.heap.size, 0, none⟩) 0 0) 0 [] rfl (hown0 _) a 30 ca Za rfl (hA.below (hbel0 _)) (by omega) (by omega) (by have := (hbel0 nq).size; exact this) ?_; intro v2 W2 hown2 hg2
           simp only [Nat.zero_add, List.nil_append] at hown2
           have hbel2 := (hbel0 nq).grown hg2 (hbel0 nq).size (fun j hj => by simp [Value.ownBlock] at hj; omega)
           have hz2' := hbel2.size)
        | (at_builtin; refine wpList_append_ints rfl _ _ 27 rfl w.heap.size 3 .i64 i0 (.int .i64 0) 8 Try.underlying27 hi hz0 hz1 hz2 rfl v2 30 _ rfl hown2 b lb cb Zb rfl (hB.below hbel2) (by omega) (by omega) hz2' ?_; intro v3 W3 hown3 hg3
           have hbel3 := hbel2.grown hg3 hz2' (fun j hj => (hown2.lt j hj).1)
           obtain ⟨a3, c3, rfl, _, _⟩ := own_form hown3
           have hbothc := hboth W3 a3 c3 w.heap.size _ rfl hown3
           clear hown3
           try simp only [Nat.reduceAdd] at hbothc)
        | (go_at_call 13; with_reducible refine hbothc.mono ?_; rintro x W4 ⟨rfl, hb4⟩; replace hbel3 := bthen hbel3 hb4; clear hb4)
        | (go_at_call 13; with_reducible refine (hone _ hbel3).mono ?_; rintro x W5 ⟨rfl, hb4⟩; replace hbel3 := bthen hbel3 hb4; clear hb4)
        | (go_at_call 13; with_reducible refine (htwo _ hbel3).mono ?_; rintro x W6 ⟨rfl, hb4⟩; replace hbel3 := bthen hbel3 hb4; clear hb4)
        | (go_at_call 10; refine (known_any _).mono ?_; rintro x W7 ⟨rfl, hb4⟩; replace hbel3 := bthen hbel3 hb4; clear hb4))
      go_ret
      exact ⟨ret_bool (by simp), hbel3⟩

set_option maxHeartbeats 1000000 in
theorem parts_hh (s : Int) (a b : Option Addr) (la ca lb cb : Nat) (Za Zb : Nat → Int) (w : World) (hla : la ≤ ca) (hlb : lb ≤ cb) (hca : ca ≤ maxLen) (hcb : cb ≤ maxLen) (hA0 : Ints .i64 w a la Za) (hB0 : Ints .i64 w b lb Zb) (h1 : 30 < (la : Int)) (h2 : 30 < (lb : Int)) :
    Calls Try.prog 6 #[.int .i64 s, .slice a la ca, .slice b lb cb] w fun x w' => x = .returned (.bool true) ∧ Below w.heap.size w w' := by
  unfold maxLen at hca hcb
  obtain ⟨i0, hi, hz0, hz1, hz2⟩ := info_parts info3
  have hA : Ints .i64 w a 30 Za := Ints.shorter hA0 (by omega)
  have hB : Ints .i64 w b 30 Zb := Ints.shorter hB0 (by omega)
  clear hA0 hB0
  obtain ⟨R1, R2, hruns, hr1, hr2⟩ := runs_any s a b 30 ca 30 cb Za Zb w (by omega) (by omega) hA hB
  obtain ⟨hone, htwo, hboth⟩ := hruns
  have hown0 := own_made w
  have hbel0 := below_made w
  by_cases he : R1.2.2 = 0
  · simp only [he, if_true] at hone hboth
    ·
      go_enter Try.func6, Try.ntmps6
      go_wp2_with fail
      go_quiet (fail)
      go_wp2_with (first
        | (at_builtin; refine wpList_append_ints rfl _ _ 27 rfl w.heap.size 3 .i64 i0 (.int .i64 0) 8 Try.underlying27 hi hz0 hz1 hz2 rfl (.slice (some ⟨w.heap.size, 0, none⟩) 0 0) 0 [] rfl (hown0 _) a 30 ca Za rfl (hA.below (hbel0 _)) (by omega) (by omega) (by have := (hbel0 nq).size; exact this) ?_; intro v2 W2 hown2 hg2
           simp only [Nat.zero_add, List.nil_append] at hown2
           have hbel2 := (hbel0 nq).grown hg2 (hbel0 nq).size (fun j hj => by simp [Value.ownBlock] at hj; omega)
           have hz2' := hbel2.size)
        | (at_builtin; refine wpList_append_ints rfl _ _ 27 rfl w.heap.size 3 .i64 i0 (.int .i64 0) 8 Try.underlying27 hi hz0 hz1 hz2 rfl v2 30 _ rfl hown2 b 30 cb Zb rfl (hB.below hbel2) (by omega) (by omega) hz2' ?_; intro v3 W3 hown3 hg3
           have hbel3 := hbel2.grown hg3 hz2' (fun j hj => (hown2.lt j hj).1)
           obtain ⟨a3, c3, rfl, _, _⟩ := own_form hown3
           have hbothc := hboth W3 a3 c3 w.heap.size _ rfl hown3
           clear hown3
           try simp only [Nat.reduceAdd] at hbothc)
        | (go_at_call 13; with_reducible refine hbothc.mono ?_; rintro x W4 ⟨rfl, hb4⟩; replace hbel3 := bthen hbel3 hb4; clear hb4)
        | (go_at_call 13; with_reducible refine (hone _ hbel3).mono ?_; rintro x W5 ⟨rfl, hb4⟩; replace hbel3 := bthen hbel3 hb4; clear hb4)
        | (go_at_call 13; with_reducible refine (htwo _ hbel3).mono ?_; rintro x W6 ⟨rfl, hb4⟩; replace hbel3 := bthen hbel3 hb4; clear hb4)
        | (go_at_call 10; refine (known_any _).mono ?_; rintro x W7 ⟨rfl, hb4⟩; replace hbel3 := bthen hbel3 hb4; clear hb4))
      go_ret
      exact ⟨ret_bool (by simp), hbel3⟩
  · simp only [he, if_false] at hboth
    have hne : (R1.2.2 != 0) = true := by simpa using he
    clear he
    ·
      go_enter Try.func6, Try.ntmps6
      go_wp2_with fail
      go_quiet (fail)
      go_wp2_with (first
        | (at_builtin; refine wpList_append_ints rfl _ _ 27 rfl w.heap.size 3 .i64 i0 (.int .i64 0) 8 Try.underlying27 hi hz0 hz1 hz2 rfl (.slice (some ⟨w.heap.size, 0, none⟩) 0 0) 0 [] rfl (hown0 _) a 30 ca Za rfl (hA.below (hbel0 _)) (by omega) (by omega) (by have := (hbel0 nq).size; exact this) ?_; intro v2 W2 hown2 hg2
           simp only [Nat.zero_add, List.nil_append] at hown2
           have hbel2 := (hbel0 nq).grown hg2 (hbel0 nq).size (fun j hj => by simp [Value.ownBlock] at hj; omega)
           have hz2' := hbel2.size)
        | (at_builtin; refine wpList_append_ints rfl _ _ 27 rfl w.heap.size 3 .i64 i0 (.int .i64 0) 8 Try.underlying27 hi hz0 hz1 hz2 rfl v2 30 _ rfl hown2 b 30 cb Zb rfl (hB.below hbel2) (by omega) (by omega) hz2' ?_; intro v3 W3 hown3 hg3
           have hbel3 := hbel2.grown hg3 hz2' (fun j hj => (hown2.lt j hj).1)
           obtain ⟨a3, c3, rfl, _, _⟩ := own_form hown3
           have hbothc := hboth W3 a3 c3 w.heap.size _ rfl hown3
           clear hown3
           try simp only [Nat.reduceAdd] at hbothc)
        | (go_at_call 13; with_reducible refine hbothc.mono ?_; rintro x W4 ⟨rfl, hb4⟩; replace hbel3 := bthen hbel3 hb4; clear hb4)
        | (go_at_call 13; with_reducible refine (hone _ hbel3).mono ?_; rintro x W5 ⟨rfl, hb4⟩; replace hbel3 := bthen hbel3 hb4; clear hb4)
        | (go_at_call 13; with_reducible refine (htwo _ hbel3).mono ?_; rintro x W6 ⟨rfl, hb4⟩; replace hbel3 := bthen hbel3 hb4; clear hb4)
        | (go_at_call 10; refine (known_any _).mono ?_; rintro x W7 ⟨rfl, hb4⟩; replace hbel3 := bthen hbel3 hb4; clear hb4))
      go_ret
      exact ⟨ret_bool (by simp), hbel3⟩

theorem lifeParts_any (s : Int) (a b : Option Addr) (la ca lb cb : Nat) (Za Zb : Nat → Int) (w : World) (hla : la ≤ ca) (hlb : lb ≤ cb) (hca : ca ≤ maxLen) (hcb : cb ≤ maxLen) (hA : Ints .i64 w a la Za) (hB : Ints .i64 w b lb Zb) :
    Calls Try.prog 6 #[.int .i64 s, .slice a la ca, .slice b lb cb] w fun x w' => x = .returned (.bool true) ∧ Below w.heap.size w w' := by
  by_cases h1 : (la : Int) ≤ 30
  · by_cases h2 : (lb : Int) ≤ 30
    · exact parts_ll s a b la ca lb cb Za Zb w hla hlb hca hcb hA hB h1 h2
    · exact parts_lh s a b la ca lb cb Za Zb w hla hlb hca hcb hA hB h1 (by omega)
  · by_cases h2 : (lb : Int) ≤ 30
    · exact parts_hl s a b la ca lb cb Za Zb w hla hlb hca hcb hA hB (by omega) h2
    · exact parts_hh s a b la ca lb cb Za Zb w hla hlb hca hcb hA hB (by omega) (by omega)
end Go.Proofs.Ytnjipfnajgcibaa.lw
