/-
  The walks of the document's search.
-/
import Derived.Test.YtnjipfnajgcibaaLifePlainB
import Derived.Test.YtnjipfnajgcibaaLifeE
import Derived.Laws.OwnMore
namespace Go.Proofs.Ytnjipfnajgcibaa.lw
open Go.RowKit Go.Proofs.Ytnjipfnajgcibaa.ba Go.Proofs.Ytnjipfnajgcibaa.lp
set_option linter.unusedVariables false

/-- A row of events and whether there is one, handed back. -/
def RowOut (w w' : World) (r : List Int × Bool) (x : Ending) : Prop :=
  ∃ a cap, x = .returned (.tuple #[.slice a r.1.length cap, .bool r.2]) ∧ w'.ownsRow w.heap.size 3 1 (.slice a r.1.length cap) r.1.length (r.1.map (Value.int .i64)) ∧ Below w.heap.size w w'

theorem rowOut_none {w w' : World} {r : List Int × Bool} (h : r = ([], false)) (hb : Below w.heap.size w w') : RowOut w w' r (.returned (.tuple #[.slice none 0 0, .bool false])) := by
  subst h
  exact ⟨none, 0, rfl, World.ownsRow_nil _ _ _ _, hb⟩

theorem rowOut_some {w w' : World} {r : List Int × Bool} {l : List Int} {n c : Nat} {a : Option Addr} (h : r = (l, true)) (hn : n = l.length) (ho : w'.ownsRow w.heap.size 3 1 (.slice a n c) n (l.map (Value.int .i64))) (hb : Below w.heap.size w w') : RowOut w w' r (.returned (.tuple #[.slice a n c, .bool true])) := by
  subst h; subst hn
  exact ⟨a, c, rfl, ho, hb⟩

theorem row_any (to : Int) : ∀ (n : Nat), n ≤ 6 → ∀ (frm : Int) (w : World), Calls Try.prog 24 #[.int .i64 frm, .int .i64 to, .int .i64 n] w fun x w' => RowOut w w' (rowF to n frm) x := by
  obtain ⟨i0, hi, hz0, hz1, hz2⟩ := info_parts info3
  intro n
  induction n with
  | zero =>
    intro _ frm w
    rw [show ((0 : Nat) : Int) = 0 from rfl]
    go_enter Try.func24, Try.ntmps24
    go_wp2_with fail
    go_ret2
    exact ⟨none, 0, by simp [rowF, Bool.beq_eq_decide_eq], World.ownsRow_nil _ _ _ _, Below.refl _ _⟩
  | succ n ih =>
    intro hn frm w
    rw [show ((n + 1 : Nat) : Int) = (n : Int) + 1 from rfl]
    have hn0 : ((n : Int) + 1 == 0) = false := by simp; omega
    have hsub : ((n : Int) + 1 - 1) = n := by omega
    have ih' := Lib.hid (ih (by omega))
    clear ih
    go_enter Try.func24, Try.ntmps24
    go_wp2_with fail
    go_loopw [8] (fun v wr => ∃ (k : Nat), k ≤ 5 ∧ v = .int .i64 ((k : Int) + 1) ∧ Hid (rowF to (n + 1) frm = rowGo (rowF to n) frm k (5 - k)) ∧ Below w.heap.size w wr) (fun v _ => (6 - intOf v).toNat)
    case atStart => exact ⟨0, Nat.zero_le _, rfl, rfl, Below.refl _ _⟩
    case round =>
      obtain ⟨k, hk, rfl, hr, hbel⟩ := hrel
      by_cases hlt : k < 5
      · have hm := moveF_bounds frm ((k : Int) + 1)
        have hz := hbel.size
        by_cases he : (moveF frm ((k : Int) + 1)).2 = 0
        · have hne : ((moveF frm ((k : Int) + 1)).2 != 0) = false := by simp [he]
          go_wp2_with (go_at_call 9; refine (rmove_any _ _ _).mono ?_; rintro x W1 ⟨rfl, rfl⟩)
          refine (ih'.out _ _).mono ?_
          rintro x W2 ⟨a, c, rfl, hown, hb2⟩
          have hzw := hb2.size
          by_cases hf : (rowF to n (moveF frm ((k : Int) + 1)).1).2 = true
          · have hs := Lib.hid (rowGo_stop (rowF to n) frm k hlt he hf)
            have hln := rowF_len to n (moveF frm ((k : Int) + 1)).1
            clear he hne
            rcases hown.2 with ⟨hnil, hl0⟩ | ⟨g, cap, cur, hv, hgb, _⟩
            · rw [hl0] at hnil
              obtain ⟨rfl, rfl⟩ : a = none ∧ c = 0 := by simpa using hnil
              have hl0' : (rowF to n (moveF frm ((k : Int) + 1)).1).1 = [] := List.eq_nil_of_length_eq_zero hl0
              rw [hl0]
              go_wp2_with fail
              go_ret2
              exact rowOut_some (l := [(k : Int) + 1]) (n := 1) (by rw [hr.out, hs.out, hl0']) rfl (World.ownsRow_lit W2 #[.int .i64 ((k : Int) + 1)] 1 (by omega) (by unfold maxLen; omega) rfl) ((hbel.trans (hb2.mono hz)).alloc (by omega) _)
            · cases hv
              have hnews : ∀ j u, ((rowF to n (moveF frm ((k : Int) + 1)).1).1.map (Value.int .i64))[j]? = some u → (W2.alloc (.cells #[.int .i64 ((k : Int) + 1)] 3)).cell? ((⟨g, 0, none⟩ : Addr).add j) = some u := (hown.alloc _).cells rfl
              go_wp2_with (
                at_builtin
                refine wpList_append_own _ rfl _ _ 27 rfl w.heap.size 3 i0 (.int .i64 0) 1 8 Try.underlying27 hi hz0 hz1 hz2 rfl (by decide) (.slice (some ⟨W2.heap.size, 0, none⟩) 1 1) 1 [.int .i64 ((k : Int) + 1)] rfl (World.ownsRow_lit W2 #[.int .i64 ((k : Int) + 1)] 1 (by omega) (by unfold maxLen; omega) rfl) ⟨g, 0, none⟩ (rowF to n (moveF frm ((k : Int) + 1)).1).1.length c ((rowF to n (moveF frm ((k : Int) + 1)).1).1.map (Value.int .i64)) rfl (by simp) hnews (by simp [Value.oneCell']) (by unfold maxLen; omega) (by omega) (by simp; omega) ?_
                intro v42 W3 hown3 hg3
                obtain ⟨a42, c42, rfl, _, _⟩ := own_form hown3)
              go_ret2
              exact rowOut_some (l := ((k : Int) + 1) :: (rowF to n (moveF frm ((k : Int) + 1)).1).1) (by rw [hr.out, hs.out]) (by simp; omega) (by simpa using hown3) (((hbel.trans (hb2.mono hz)).alloc (by omega) _).grown hg3 (by simp; omega) (fun j hj => by simp [Value.ownBlock] at hj; omega))
          · have hs := Lib.hid (rowGo_on (rowF to n) frm k hlt (fun h => hf h.2))
            have hf' : (rowF to n (moveF frm ((k : Int) + 1)).1).2 = false := by simpa using hf
            replace hbel := hbel.trans (hb2.mono hz)
            clear he hf hown hb2
            go_wp2_with fail
            go_roundw
            case rel => exact ⟨k + 1, by omega, by go_num, by rw [hr.out, hs.out]; exact rfl, hbel⟩
            case measure => simp [intOf]; omega
        · have hs := Lib.hid (rowGo_on (rowF to n) frm k hlt (fun h => he h.1))
          have hne : ((moveF frm ((k : Int) + 1)).2 != 0) = true := by simpa using he
          clear he
          go_wp2_with (go_at_call 9; refine (rmove_any _ _ _).mono ?_; rintro x W1 ⟨rfl, rfl⟩)
          go_roundw
          case rel => exact ⟨k + 1, by omega, by go_num, by rw [hr.out, hs.out]; exact rfl, hbel⟩
          case measure => simp [intOf]; omega
      · have : k = 5 := by omega
        subst this
        go_wp2_with fail
        go_ret2
        exact rowOut_none (by rw [hr.out]; rfl) hbel

theorem rpath_any (frm to : Int) (w : World) : Calls Try.prog 16 #[.int .i64 frm, .int .i64 to, .int .i64 6] w fun x w' => RowOut w w' (lenF frm to 0 7) x := by
  go_enter Try.func16, Try.ntmps16
  go_wp2_with fail
  go_loopw [8] (fun v wr => ∃ (k : Nat), k ≤ 7 ∧ v = .int .i64 k ∧ Hid (lenF frm to 0 7 = lenF frm to k (7 - k)) ∧ Below w.heap.size w wr) (fun v _ => (7 - intOf v).toNat)
  case atStart => exact ⟨0, Nat.zero_le _, rfl, rfl, Below.refl _ _⟩
  case round =>
    obtain ⟨k, hk, rfl, hr, hbel⟩ := hrel
    by_cases hlt : k < 7
    · have hz := hbel.size
      go_wp2_with fail
      refine (row_any to k (by omega) frm _).mono ?_
      rintro x W2 ⟨a, c, rfl, hown, hb2⟩
      by_cases hf : (rowF to k frm).2 = true
      · have hs := Lib.hid (lenF_stop frm to k hlt hf)
        go_wp2_with fail
        go_ret2
        exact rowOut_some (l := (rowF to k frm).1) (by rw [hr.out, hs.out]) rfl (own_mono hown hz) (hbel.trans (hb2.mono hz))
      · have hf' : (rowF to k frm).2 = false := by simpa using hf
        have hs := Lib.hid (lenF_on frm to k hlt hf')
        replace hbel := hbel.trans (hb2.mono hz)
        clear hf hown hb2
        go_wp2_with fail
        go_roundw
        case rel => exact ⟨k + 1, by omega, by go_num, by rw [hr.out, hs.out]; exact rfl, hbel⟩
        case measure => simp [intOf]; omega
    · have : k = 7 := by omega
      subst this
      go_wp2_with fail
      go_ret2
      exact rowOut_none (by rw [hr.out]; rfl) hbel
end Go.Proofs.Ytnjipfnajgcibaa.lw
