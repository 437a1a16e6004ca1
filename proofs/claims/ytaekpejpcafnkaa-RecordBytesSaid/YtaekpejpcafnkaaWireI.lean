/-
  The walks of layer 3: what a reader's closures find.
-/
import Derived.Test.YtaekpejpcafnkaaWireC
import Derived.Test.YtaekpejpcafnkaaMa
import Derived.Test.YtaekpejpcafnkaaMc
import Derived.Laws.BytesArg
import Derived.Deep.DeepCutAuto
namespace Go.Proofs.Ytaekpejpcafnkaa.ww
open Go.RowKit Go.Proofs.Ytaekpejpcafnkaa.ba Go.Proofs.Ytaekpejpcafnkaa.dp Go.Proofs.Ytaekpejpcafnkaa.wp Go.Proofs.Ytaekpejpcafnkaa.dw
set_option maxRecDepth 8000
set_option linter.unusedVariables false

/-- What a closure that finds leaves: what it tells, and the captured variable. -/
def Found (w w' : World) (h : Nat) (t : TypeId) (v : Value) (k e : Int) (x : Ending) : Prop :=
  x = .returned (.tuple #[.int .i64 k, .int .i64 e]) ∧ Blk w' h t #[v] ∧ Kept (fun j => j = h) w w'

theorem far_of {w : World} {a : Option Addr} {k : IntKind} {l : List Int} {b off i : Nat} {v : Int} (ha : a = some ⟨b, off, none⟩) (hf : ∀ p, a = some p → p.block ≠ i) : b ≠ i := hf _ ha

set_option maxHeartbeats 2000000 in
theorem fixed_ok (a : Option Addr) (c h1 h2 s : Nat) (l : List Int) (w : World) (hc : l.length ≤ c) (hcm : c ≤ maxLen) (hs : s ≤ 8) (hsl : s ≤ l.length) (hB : Bytes l) (hL : Lst .u8 w a l) (hf : ∀ p, a = some p → p.block ≠ h2)
    (c1 : w.cell? ⟨h1, 0, none⟩ = some (.int .i64 s)) (b2 : Blk w h2 23 #[.int .u64 0]) (hne : h1 ≠ h2) :
    Calls Try.prog 66 #[.slice a l.length c, .pointer (some ⟨h1, 0, none⟩), .pointer (some ⟨h2, 0, none⟩)] w fun x w' => Found w w' h2 23 (.int .u64 (beF 0 (l.take s))) s 0 x := by
  unfold maxLen at hcm
  have hsI : (s : Int) ≤ (l.length : Int) := by omega
  have hsc : (s : Int) ≤ (c : Int) := by omega
  have hs0 : (0 : Int) ≤ (s : Int) := Int.natCast_nonneg _
  go_enter Try.func66, Try.ntmps66
  go_wp2_with fail
  go_loopw [7, 16] (fun _ i wr => ∃ k : Nat, k ≤ s ∧ i = .int .i64 k ∧ Blk wr h2 23 #[.int .u64 (beF 0 (l.take k))] ∧ Kept (fun j => j = h2) w wr) (fun _ i _ => s - (intOf i).toNat)
  case atStart => exact ⟨0, Nat.zero_le _, rfl, by simpa [beF] using b2, Kept.refl _ _⟩
  case round =>
    obtain ⟨k, hk, rfl, hb2, hkept⟩ := hrel
    have e1 : wr.cell? ⟨h1, 0, none⟩ = some (.int .i64 s) := hkept.cell c1 hne
    have e2 : wr.cell? ⟨h2, 0, none⟩ = some (.int .u64 (beF 0 (l.take k))) := hb2.cell 0
    have f2 := hb2.frozen 0
    by_cases hlt : k < s
    · obtain ⟨v, hv⟩ := some_at l (i := k) (by omega)
      have hvb := hB.at hv
      obtain ⟨be0, be1⟩ := be_small l k (by omega) hB
      obtain ⟨b, off, ha, c0⟩ := hL.at hv
      have hbn : b ≠ h2 := hf _ ha
      have d0 := hkept.cell c0 (by simpa using hbn)
      subst ha
      have hltI : (k : Int) < (s : Int) := by omega
      have htk : Hid (beF 0 (l.take (k + 1)) = beF 0 (l.take k) * 256 + v) := by show _ = _; rw [take_succ_at hv, beF_snoc]
      have HB := Lib.hid hb2
      have HV := Lib.hid hvb
      have HBE := Lib.hid (And.intro be0 be1)
      clear hv c0 hb2
      go_wp2_with fail
      go_roundw
      case rel =>
        refine ⟨k + 1, by omega, by go_num, ?_, hkept.on (Kept.of_set _ rfl)⟩
        rw [htk.out]
        have h3 := HB.out.set_ 0 (.int .u64 (beF 0 (l.take k) * 256 + v))
        first
        | rw [shl8_or _ _ HBE.out.1 HBE.out.2 HV.out.1 HV.out.2]
        | rw [shl8_or' _ _ HBE.out.1 HBE.out.2 HV.out.1 HV.out.2]
        exact h3
      case measure => simp [intOf]; omega
    · have hks : k = s := by omega
      subst hks
      have HB := Lib.hid hb2
      clear hb2
      go_wp2_with fail
      go_ret2
      exact ⟨rfl, HB.out, hkept⟩

theorem fixed_end (a : Option Addr) (c h1 h2 s : Nat) (l : List Int) (v : Value) (t : TypeId) (w : World) (hl : l.length ≤ 9223372036854775807) (hsl : l.length < s) (c1 : w.cell? ⟨h1, 0, none⟩ = some (.int .i64 s)) (b2 : Blk w h2 t #[v]) :
    Calls Try.prog 66 #[.slice a l.length c, .pointer (some ⟨h1, 0, none⟩), .pointer (some ⟨h2, 0, none⟩)] w fun x w' => Found w w' h2 t v 0 4 x := by
  have hsI : (l.length : Int) < (s : Int) := by omega
  go_enter Try.func66, Try.ntmps66
  go_wp2_with fail
  go_ret2
  exact ⟨rfl, b2, Kept.refl _ _⟩

set_option maxHeartbeats 1000000 in
theorem number_found (a : Option Addr) (c h1 h2 most : Nat) (l : List Int) (w : World) (hc : l.length ≤ c) (hcm : c ≤ maxLen) (hB : Bytes l) (hL : Lst .u8 w a l)
    (c1 : w.cell? ⟨h1, 0, none⟩ = some (.int .u64 most)) (b2 : Blk w h2 23 #[.int .u64 0]) :
    Calls Try.prog 53 #[.slice a l.length c, .pointer (some ⟨h1, 0, none⟩), .pointer (some ⟨h2, 0, none⟩)] w fun x w' => Found w w' h2 23 (.int .u64 (numF most l).1) (numF most l).2.1 (numF most l).2.2 x := by
  unfold maxLen at hcm
  have HR := Lib.hid (readS_any a c l w hc (by omega) hB hL)
  have hlt1 := World.block_lt_of_cell? _ _ c1
  have hF : numF most l = if (readS l).2.2 = 0 then (if (most : Int) < (readS l).1 then (0, 0, 5) else ((readS l).1, (readS l).2.1, 0)) else (0, 0, (readS l).2.2) := rfl
  obtain ⟨N, hN⟩ : ∃ N, N = (readS l).1 := ⟨_, rfl⟩
  obtain ⟨k, hk⟩ : ∃ k, k = (readS l).2.1 := ⟨_, rfl⟩
  obtain ⟨e, he⟩ : ∃ e, e = (readS l).2.2 := ⟨_, rfl⟩
  rw [← hN, ← hk, ← he] at HR hF
  clear hN hk he
  by_cases h0 : e = 0
  · subst h0
    rw [if_pos rfl] at hF
    by_cases hm : (most : Int) < N
    · rw [if_pos hm] at hF
      rw [hF]
      clear hF
      go_enter Try.func53, Try.ntmps53
      go_wp2_with ((with_reducible refine HR.out.mono ?_); rintro x W1 ⟨rfl, hb1⟩; have d1 := bsome hb1 c1 hlt1)
      go_ret2
      exact ⟨rfl, b2.below hb1, Kept.of_below hb1⟩
    · rw [if_neg hm] at hF
      rw [hF]
      have hm' : N ≤ (most : Int) := by omega
      clear hm hF
      go_enter Try.func53, Try.ntmps53
      go_wp2_with ((with_reducible refine HR.out.mono ?_); rintro x W1 ⟨rfl, hb1⟩; have d1 := bsome hb1 c1 hlt1; have hB2 := b2.below hb1; have d2 : W1.cell? ⟨h2, 0, none⟩ = some (.int .u64 0) := hB2.cell 0; have f2 := hB2.frozen 0)
      go_ret2
      exact ⟨rfl, hB2.set_ 0 _, (Kept.of_below hb1).on (Kept.of_set _ rfl)⟩
  · rw [if_neg h0] at hF
    rw [hF]
    have h0' : (e == 0) = false := by simpa using h0
    clear h0 hF
    go_enter Try.func53, Try.ntmps53
    go_wp2_with ((with_reducible refine HR.out.mono ?_); rintro x W1 ⟨rfl, hb1⟩)
    go_ret2
    exact ⟨rfl, b2.below hb1, Kept.of_below hb1⟩

/-- string(b) of a slice that reads as a list. -/
theorem conv_lst {P : Program} (w : World) (src dst e : TypeId) (hs : P.underlying src = some (.slice e)) (he : P.underlying e = some (.int .u8)) (hd : P.underlying dst = some .string) (a : Option Addr) (n c : Nat) (m : List Int) (hm : m.length = n) (hL : Lst .u8 w a m) :
    (convert src dst (.slice a n c)).run P w = .ok (.string (strOfNums m)) w := by
  rcases hL with rfl | ⟨b, off, rfl, hc⟩
  · subst hm
    cases a with
    | none => rw [run_convert_bytes_nil w src e hs he _ c dst hd]; rfl
    | some ad =>
      rw [run_convert_bytes_string w src dst e _ _ c hs he hd, run_bytesToString w ad _ c [] rfl]
      rfl
  · exact run_convert_bytes_arg w src e hs he b off n c m hm (fun i hi => by rw [hc i _ (List.getElem?_eq_getElem (by omega))]; simp [List.getD, List.getElem?_eq_getElem (by omega : i < m.length)]) dst hd
/-- x[k:k+n] -/
theorem run_cut_mid {P : Program} (t e : TypeId) (ht : P.underlying t = some (.slice e)) (i : TypeInfo) (hi : P.info? e = some i) (hs : i.size = 1) (a : Option Addr) (n cap k m : Nat) (hk : k + m ≤ n) (hn : n ≤ cap) :
    ∃ (a' : Option Addr) (c' : Nat), (∀ w, (Instr.slice t (.slice a n cap) (some (.int .i64 (k : Int))) (some (.int .i64 ((k : Int) + (m : Int)))) none).run P w = .ok (.slice a' m c') w) ∧
      (∀ (kd : IntKind) (w : World) (l : List Int), l.length = n → Lst kd w a l → Lst kd w a' ((l.drop k).take m)) := by
  have hel : P.elem t = e := by simp [Program.elem, ht]
  refine ⟨if cap = k then a else a.map (·.add (k * 1)), cap - k, fun w => ?_, fun kd w l hl hL => ?_⟩
  · rw [run_slice_lh w t a n cap (by rw [hel]; exact ht) .i64 .i64 (k : Int) ((k : Int) + (m : Int)) (by omega) (by omega) (by omega), hel]
    have e1 : ((k : Int) + (m : Int)).toNat = k + m := by omega
    simp [sizeOf, typeInfo, hi, hs, sliced, e1]
  · by_cases hc : cap = k
    · rw [if_pos hc, List.drop_eq_nil_of_le (by omega), List.take_nil]
      exact Lst.nil _ _ _
    · rw [if_neg hc]
      refine Lst.take ?_ m
      rcases hL with rfl | ⟨b, off, rfl, h⟩
      · exact .inl (by simp)
      · refine .inr ⟨b, off + k, by simp [Addr.add_lit], fun i v hv => ?_⟩
        rw [List.getElem?_drop] at hv
        have := h (k + i) v hv
        rwa [← Nat.add_assoc] at this

set_option maxRecDepth 100000 in
set_option maxHeartbeats 2000000 in
theorem text_found (a : Option Addr) (c h1 h2 : Nat) (most : Int) (l : List Int) (w : World) (hc : l.length ≤ c) (hcm : c ≤ maxLen) (hm0 : -9223372036854775808 ≤ most) (hm1 : most ≤ 9223372036854775807) (hB : Bytes l) (hL : Lst .u8 w a l)
    (c1 : w.cell? ⟨h1, 0, none⟩ = some (.int .i64 most)) (b2 : Blk w h2 9 #[.string ByteArray.empty]) :
    Calls Try.prog 55 #[.slice a l.length c, .pointer (some ⟨h1, 0, none⟩), .pointer (some ⟨h2, 0, none⟩)] w fun x w' => Found w w' h2 9 (.string (strOfNums (txtF most l).1)) (txtF most l).2.1 (txtF most l).2.2 x := by
  unfold maxLen at hcm
  obtain ⟨i0, hi, hz0, hz1, hz2⟩ := info_parts info5
  have HR := Lib.hid (readS_any a c l w hc (by omega) hB hL)
  have hlt1 := World.block_lt_of_cell? _ _ c1
  have hbd := readS_bounds l hB
  obtain ⟨M, hM⟩ : ∃ M, M = if most < 0 then 0 else most := ⟨_, rfl⟩
  have hM0 : 0 ≤ M := by rw [hM]; split <;> omega
  have hM1 : M ≤ 9223372036854775807 := by rw [hM]; split <;> omega
  have hF : txtF most l = if (readS l).2.2 = 0 then
    (if (if most < 0 then 0 else most) < (readS l).1 then ([], 0, 2)
     else if (l.length : Int) - (readS l).2.1 < (readS l).1 then ([], 0, 4)
     else ((l.drop (readS l).2.1.toNat).take (readS l).1.toNat, (readS l).2.1 + (readS l).1, 0))
  else ([], 0, (readS l).2.2) := rfl
  rw [← hM] at hF
  obtain ⟨N, hN⟩ : ∃ N, N = (readS l).1 := ⟨_, rfl⟩
  obtain ⟨k, hk⟩ : ∃ k, k = (readS l).2.1 := ⟨_, rfl⟩
  obtain ⟨e, he⟩ : ∃ e, e = (readS l).2.2 := ⟨_, rfl⟩
  rw [← hN, ← hk, ← he] at HR hF hbd
  clear hN hk he
  have hmx : ∀ W, (Builtin.max_ #[3, 3] 3 #[.int .i64 most, .int .i64 0]).run Try.prog W = .ok (.int .i64 M) W := by
    intro W
    rw [hM]
    by_cases h : most < 0
    · rw [if_pos h]; simp [go_sem, h]
    · rw [if_neg h]; simp [go_sem, h]
  clear hM
  by_cases h0 : e = 0
  · subst h0
    obtain ⟨g1, g2, g3, g4⟩ := hbd rfl
    obtain ⟨n, rfl⟩ := Int.eq_ofNat_of_zero_le g1
    obtain ⟨q, rfl⟩ := Int.eq_ofNat_of_zero_le (by omega : 0 ≤ k)
    clear hbd
    rw [if_pos rfl] at hF
    by_cases hm : M < (n : Int)
    · rw [if_pos hm] at hF
      rw [hF]
      clear hF
      go_enter Try.func55, Try.ntmps55
      go_wp2_with ((with_reducible refine HR.out.mono ?_); rintro x W1 ⟨rfl, hb1⟩; have d1 := bsome hb1 c1 hlt1)
      go_ret2
      exact ⟨rfl, b2.below hb1, Kept.of_below hb1⟩
    · rw [if_neg hm] at hF
      have hm' : (n : Int) ≤ M := by omega
      obtain ⟨D, hD⟩ := Int.eq_ofNat_of_zero_le (by omega : 0 ≤ (l.length : Int) - (q : Int))
      have hDm : (D : Int) ≤ 9223372036854775807 := by omega
      have hD2 : q + D = l.length := by omega
      rw [hD] at hF
      by_cases hs : (D : Int) < (n : Int)
      · rw [if_pos hs] at hF
        rw [hF]
        clear hm hF hD2 hc hB hL hcm g2 hm0 hm1
        go_enter Try.func55, Try.ntmps55
        go_wp2_with ((with_reducible refine HR.out.mono ?_); rintro x W1 ⟨rfl, hb1⟩; have d1 := bsome hb1 c1 hlt1)
        go_ret2
        exact ⟨rfl, b2.below hb1, Kept.of_below hb1⟩
      · rw [if_neg hs] at hF
        rw [hF]
        have hs' : (n : Int) ≤ (D : Int) := by omega
        have hn1 : (n : Int) ≤ 9223372036854775807 := by omega
        have hn2 : (q : Int) + (n : Int) ≤ 9223372036854775807 := by omega
        have hn3 : (0 : Int) ≤ (q : Int) + (n : Int) := by omega
        obtain ⟨a', c', hsl, hcut⟩ := run_cut_mid (P := Try.prog) 22 5 Try.underlying22 i0 hi hz1 a l.length c q n (by omega) hc
        have hlen : ((l.drop q).take n).length = n := by rw [List.length_take, List.length_drop]; omega
        have hcv := Lib.hid fun (W : World) (h : Below w.heap.size w W) => conv_lst (P := Try.prog) W 22 9 5 Try.underlying22 Try.underlying5 Try.underlying9 a' n c' _ hlen (hcut .u8 W l rfl (hL.below h))
        clear hm hF hs hcut hlen hD2 hc hB hL hcm g2 hm0 hm1
        go_enter Try.func55, Try.ntmps55
        go_wp2_with ((with_reducible refine HR.out.mono ?_); rintro x W1 ⟨rfl, hb1⟩; have d1 := bsome hb1 c1 hlt1; have hB2 := b2.below hb1; have d2 : W1.cell? ⟨h2, 0, none⟩ = some (.string ByteArray.empty) := hB2.cell 0; have f2 := hB2.frozen 0; have hcv1 := hcv.out W1 hb1)
        go_ret2
        exact ⟨rfl, hB2.set_ 0 _, (Kept.of_below hb1).on (Kept.of_set _ rfl)⟩
  · rw [if_neg h0] at hF
    rw [hF]
    have h0' : (e == 0) = false := by simpa using h0
    clear h0 hF hbd
    go_enter Try.func55, Try.ntmps55
    go_wp2_with ((with_reducible refine HR.out.mono ?_); rintro x W1 ⟨rfl, hb1⟩)
    go_ret2
    exact ⟨rfl, b2.below hb1, Kept.of_below hb1⟩
end Go.Proofs.Ytaekpejpcafnkaa.ww
