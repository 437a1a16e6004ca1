/-
  The walks of layer 10: the records of all bytes.
-/
import Derived.Test.YtaekpejpcafnkaaRecN
namespace Go.Proofs.Ytaekpejpcafnkaa.rw
open Go.RowKit Go.Proofs.Ytaekpejpcafnkaa.ba Go.Proofs.Ytaekpejpcafnkaa.rp Go.Proofs.Ytaekpejpcafnkaa.dp Go.Proofs.Ytaekpejpcafnkaa.dw Go.Proofs.Ytaekpejpcafnkaa.wp Go.Proofs.Ytaekpejpcafnkaa.ww
set_option maxRecDepth 8000
set_option linter.unusedVariables false
attribute [local go_sem ↓] Go.wp_at_zero Go.wp_at_succ

theorem nine_new (w : World) (r : R) (t : TypeId) :
    (w.alloc (.cells (cellsOf r) t)).cell? ⟨w.heap.size, 0, none⟩ = some (.int .u8 r.k) := (Blk.new w t (cellsOf r)).cell 0
def sliceLen : Value → Nat
  | .slice _ n _ => n
  | _ => 0
set_option maxRecDepth 100000 in
set_option maxHeartbeats 4000000 in
theorem all_any (a : Option Addr) (n c : Nat) (l : List Int) (w : World) (hn : l.length = n) (hl : n ≤ 1000000) (hc : n ≤ c) (hcm : c ≤ maxLen) (hL : Lst .u8 w a l) (hB : Bytes l) :
    Calls Try.prog 18 #[.slice a n c] w fun x w' => GotL w w' (allF l) x := by
  subst hn
  obtain ⟨i0, hi, hz0, hz1, hz2⟩ := info_parts infoR
  obtain ⟨i5, hi5, hz50, hz51, hz52⟩ := info_parts info5
  go_enter Try.func18, Try.ntmps18
  go_wp2_with fail
  go_loopw [0, 4] (fun b o wr => ∃ (f : Nat) (y : List Int) (a' : Option Addr) (c' : Nat) (acc : List R), b = .slice a' y.length c' ∧ y.length < f ∧ acc.length + y.length ≤ l.length ∧ y.length ≤ c' ∧ c' ≤ maxLen ∧ Bytes y ∧ Lst .u8 w a' y ∧ Hid (allF l = allG f y acc) ∧ wr.ownsRow w.heap.size 30 9 o acc.length (acc.flatMap rcells) ∧ Below w.heap.size w wr) (fun b _ _ => sliceLen b)
  case atStart => exact ⟨l.length + 1, l, a, c, [], rfl, by omega, by simp, hc, hcm, hB, hL, rfl, World.ownsRow_nil _ _ _ _, Below.refl _ _⟩
  case round =>
    obtain ⟨f, y, a', c', acc, rfl, hf, hsum, hyc, hcm', hyB, hyL, hr, hown, hbel⟩ := hrel
    have hz := hbel.size
    obtain ⟨av, cv, hv, hac, hcm2⟩ := own_form hown
    subst hv
    have HO := Lib.hid hown
    by_cases hy : y = []
    · subst hy
      have hs2 : Hid (allF l = (acc, 0)) := by
        show _ = _
        rw [hr.out]
        cases f with
        | zero => exact absurd hf (by simp)
        | succ f => simp [allG]
      clear hown hr
      go_wp2_with fail
      go_ret2
      rw [hs2.out]
      exact ⟨av, cv, rfl, Recs.own HO.out, hbel⟩
    · have hpos : 0 < y.length := List.length_pos_iff.2 hy
      have hposI : (0 : Int) < (y.length : Int) := by omega
      obtain ⟨f, rfl⟩ : ∃ g, f = g + 1 := ⟨f - 1, by omega⟩
      have HR := Lib.hid (read_any a' y.length c' y wr rfl (by omega) (hyL.below hbel) (fun e => by
        rcases hyL with h | ⟨b, off, h, _⟩
        · exact h
        · rw [e] at h; cases h) hyB)
      have hok := readF_ok hyB
      by_cases he : (readF y).2.2 = 0
      · obtain ⟨h1, h2, h3⟩ := hok he
        have hs2 : Hid (allF l = allG f (y.drop (readF y).2.1.toNat) (acc ++ [(readF y).1])) := by
          show _ = _
          rw [hr.out, allG, if_neg hy, if_pos he]
        obtain ⟨N, hN⟩ := Int.eq_ofNat_of_zero_le (show 0 ≤ (readF y).2.1 by omega)
        obtain ⟨r, hrr⟩ : ∃ r, r = (readF y).1 := ⟨_, rfl⟩
        have hNN : (readF y).2.1.toNat = N := by rw [hN]; simp
        rw [hNN, ← hrr] at hs2
        have HR2 : Hid (Calls Try.prog 8 #[.slice a' y.length c'] wr fun x w' => x = .returned (.tuple #[.agg #[.int .u8 r.k, .int .u8 r.s, .int .u8 r.u, .int .u8 r.p, .int .u8 r.m, .bool r.g, .int .u32 r.v, .int .u64 r.a, .string r.t], .int .i64 N, .int .i64 0]) ∧ Below wr.heap.size wr w') := by
          have := HR.out
          unfold GotR at this
          rw [he, hN, ← hrr] at this
          exact Lib.hid this
        obtain ⟨a2, n2, c2, hsl, hn2, hnc2, hcc2, hcut, hblk⟩ := run_cut_from (P := Try.prog) 22 5 Try.underlying22 i5 hi5 hz51 a' y.length c' N (by omega) hyc
        have hn2' : Hid (n2 = (y.drop N).length) := by show _ = _; rw [hn2, List.length_drop]
        have HCut := Lib.hid (hcut .u8 w y rfl hyL)
        have HYB := Lib.hid (bytes_drop hyB N)
        have hNb : 1 ≤ N ∧ N ≤ y.length := by omega
        clear hown hr HR hok h1 h2 h3 hN hNN hrr he hcut hblk hn2 hyL hyB hy
        go_wp2_with
          (first
            | (go_at_call 8; ((with_reducible refine HR2.out.mono ?_); rintro x W1 ⟨rfl, hb1⟩; have HB1 := Lib.hid hb1; have HO1 := Lib.hid (own_below HO.out hb1); have hz1' := hb1.size; clear hb1))
            | (at_builtin; go_loud ((refine wpList_append_blk rfl _ _ 43 rfl w.heap.size 30 i0 _ 9 40 Try.underlying43 hi hz0 hz1 hz2 rfl (by decide) (.slice av acc.length cv) acc.length (acc.flatMap rcells) rfl (HO1.out.alloc _) [.int .u8 r.k, .int .u8 r.s, .int .u8 r.u, .int .u8 r.p, .int .u8 r.m, .bool r.g, .int .u32 r.v, .int .u64 r.a, .string r.t] rfl (by simp [Value.oneCell']) _ (W1.heap.size + 1) (by simp) rfl (by omega) (by omega) (by simp; omega) ?_; intro v3 W3 hown3 hg3)))
            | fail)
        go_roundw
        case rel =>
          refine ⟨f, y.drop N, a2, c2, acc ++ [r], by rw [hn2'.out], by simp; omega, by simp; omega, by rw [← hn2'.out]; exact hnc2, by omega, HYB.out, HCut.out, hs2, ?_, ?_⟩
          · rw [List.length_append, List.flatMap_append]
            simpa [rcells, cellsOf] using hown3
          · exact (((bthen hbel HB1.out).alloc (by omega) _).alloc (by simp; omega) _).grown hg3 (by simp; omega) (fun j hj => (HO1.out.lt j hj).1)
        case measure =>
          show n2 < y.length
          rw [hn2'.out, List.length_drop]
          omega
      · have hs2 : Hid (allF l = ([], (readF y).2.2)) := by
          show _ = _
          rw [hr.out, allG, if_neg hy, if_neg he]
        obtain ⟨E, hE⟩ : ∃ E, E = (readF y).2.2 := ⟨_, rfl⟩
        rw [← hE] at he hs2
        have HR2 : Hid (Calls Try.prog 8 #[.slice a' y.length c'] wr fun x w' => ∃ (r : R) (N : Int), x = .returned (.tuple #[.agg #[.int .u8 r.k, .int .u8 r.s, .int .u8 r.u, .int .u8 r.p, .int .u8 r.m, .bool r.g, .int .u32 r.v, .int .u64 r.a, .string r.t], .int .i64 N, .int .i64 E]) ∧ Below wr.heap.size wr w') := by
          have := HR.out
          unfold GotR at this
          rw [← hE] at this
          exact Lib.hid (this.mono fun x w' h => ⟨_, _, h⟩)
        have he1 : (E == 0) = false := by simpa using he
        have he2 : (E != 0) = true := by simpa using he
        clear hown hr HR hok he hE hy
        go_wp2_with
          (go_at_call 8; ((with_reducible refine HR2.out.mono ?_); rintro x W1 ⟨r, N, rfl, hb1⟩; have HB1 := Lib.hid hb1; clear hb1))
        go_ret2
        rw [hs2.out]
        exact ⟨none, 0, rfl, .inl rfl, (bthen hbel HB1.out).alloc (by have := HB1.out.size; omega) _⟩
end Go.Proofs.Ytaekpejpcafnkaa.rw
