/-
  The walk of the law WireBack.
-/
import Derived.Test.YtapeejndekoicaaWireR
import Derived.Test.YtapeejndekoicaaWireQ
namespace Go.Proofs.Ytapeejndekoicaa.ww
open Go.RowKit Go.Proofs.Ytapeejndekoicaa.ba Go.Proofs.Ytapeejndekoicaa.dp Go.Proofs.Ytapeejndekoicaa.wp Go.Proofs.Ytapeejndekoicaa.dw
set_option linter.unusedVariables false

theorem str_back (s : ByteArray) : strOfNums (strL s) = s := by
  cases s with
  | mk d =>
    simp [strOfNums, strL, Function.comp_def]
theorem allB_drop (F : List Fld) (j : Nat) (f : Fld) (hf : F[j]? = some f) : allB (F.drop j) = fb f ++ allB (F.drop (j + 1)) := by
  rw [drop_at hf]
  simp [allB]
/-- A reader stays what it is while the caller's own variable, no bytes, is written. -/
theorem KR.set {w W : World} {g h : Nat} {l : List Int} {e : Int} {cs : Array Value} {t : TypeId} (hK : KR w W g l e) (hBk : Blk W h t cs) (ht : t ≠ 5) (hg : g ≠ h) (hw : w.heap.size ≤ h) (i : Nat) (v : Value) : KR w (W.setCell ⟨h, i, none⟩ v) g l e :=
  ⟨hK.1, hK.2.1.setCell hw v, hK.2.2.kept (S := fun j => j = h) (Kept.of_set v rfl) hg (fun j cur hj hc => by subst hj; exact ht (hBk.one hc).2)⟩
theorem KR.ne {w W : World} {g : Nat} {l : List Int} {e : Int} (hK : KR w W g l e) : g < W.heap.size := by
  obtain ⟨_, _, a, c, hB, _⟩ := hK
  exact hB.lt

set_option maxRecDepth 100000 in
set_option maxHeartbeats 8000000 in
theorem wireBack_any (a : Option Addr) (len cap : Nat) (w : World) (hlc : len ≤ cap) (hcm : cap ≤ 9223372036854775807) (hR : RawF w a len) :
    Calls Try.prog 6 #[.slice a len cap] w fun x w' => x = .returned (.bool true) ∧ Below w.heap.size w w' := by
  have HRight := Lib.hid (right_any a len cap 20 w hlc hcm (by decide) hR)
  rw [show ((20 : Nat) : Int) = 20 from rfl] at HRight
  clear hR
  go_enter Try.func6, Try.ntmps6
  go_wp2_with (first
    | (go_at_call 9; ((with_reducible refine HRight.out.mono ?_); rintro x W1 ⟨F, aF, cF, rfl, hF, hF20, hgF, hb1⟩))
    | (go_at_call 10; ((with_reducible refine (new_own 10000 10000 (by decide) _).mono ?_); rintro x W2 ⟨rfl, hK2⟩)))
  obtain ⟨g, hg⟩ : ∃ g, g = W1.heap.size := ⟨_, rfl⟩
  rw [← hg] at hK2 ⊢
  clear hg
  have hal := allB_len F hgF
  have hfin : wfold 10000 F ([], 0) = (allB F, 0) := wfold_fits 10000 F [] (by simp; omega)
  have hlen : ∀ R k, (wfold R (F.take k) ([], 0)).1.length ≤ 4200 := fun R k => by
    have h1 := wfold_len R (F.take k) ([], 0) (fun f hf => hgF f (List.mem_of_mem_take hf))
    have h2 : (F.take k).length ≤ 20 := by rw [List.length_take]; omega
    simp at h1
    omega
  have HF1 := Lib.hid hfin; have HLN := Lib.hid hlen
  have hbyF : Bytes (allB F) := by
    intro v hv
    simp only [allB, List.mem_flatMap] at hv
    obtain ⟨f, _, hv⟩ := hv
    exact fb_bytes f v hv
  clear hfin hlen
  go_loopw [4] (fun i wr => ∃ k : Nat, k ≤ F.length ∧ i = .int .i64 k ∧ KW W1 wr g (wfold 10000 (F.take k) ([], 0)) 10000) (fun i _ => F.length - (intOf i).toNat)
  case atStart => exact ⟨0, Nat.zero_le _, rfl, hK2⟩
  case round =>
    obtain ⟨k, hk, rfl, hK⟩ := hrel
    by_cases hlt : k < F.length
    · obtain ⟨f, hf⟩ := some_at F hlt
      have hgf := hgF f (List.mem_of_getElem? hf)
      have hs := Lib.hid (wfold_take 10000 F k f ([], 0) hf)
      rcases hF with h0 | ⟨b, off, rfl, hc⟩
      · subst h0; simp at hlt
      obtain ⟨d0, d1, d2⟩ := fl_at hc hf hK.2.1
      have hltI : (k : Int) < (F.length : Int) := by omega
      have hl0 := HLN.out 10000 k
      obtain ⟨st, hst⟩ : ∃ st, st = wfold 10000 (F.take k) ([], 0) := ⟨_, rfl⟩
      rw [← hst] at hK hs hl0
      have HC := Lib.hid (hK.call (s' := wput 10000 (fb f) st) fun q hq => put_any g q st.1 st.2 10000 f wr hq (by omega) (by decide) (by decide) hgf)
      clear hc hf hst hK hl0
      go_wp2_with (go_at_call 11; ((with_reducible refine HC.out.mono ?_); rintro x W3 ⟨rfl, hK3⟩))
      go_roundw
      case rel => exact ⟨k + 1, by omega, by go_num, by rw [hs.out]; exact hK3⟩
      case measure => simp [intOf]; omega
    · have hkn : k = F.length := by omega
      rw [hkn, List.take_length, HF1.out] at hK
      have hge : (F.length : Int) ≤ (k : Int) := by omega
      have HB := bytes_own hK (by simp only; omega)
      simp only [if_true] at HB
      have HBH := Lib.hid HB
      have hbig : (allB F).length ≤ 1000000 := by omega
      have HNR := Lib.hid fun (W : World) (a : Option Addr) (c : Nat) (h : Lst .u8 W a (allB F)) (hn : a = none → allB F = []) => newr_any a (allB F).length c (allB F) W rfl hbig h hn hbyF
      have hKc := hK.2.1
      clear HB hal hkn hk hbig hbyF
      go_wp2_with (first
        | (go_at_call 12; ((with_reducible refine HBH.out.mono ?_); rintro x W4 ⟨a4, c4, rfl, _, _, hL4, hn4, hb4⟩; have hb04 := bthen hKc hb4))
        | (go_at_call 16; ((with_reducible refine (HNR.out _ _ _ hL4 hn4).mono ?_); rintro x W5 ⟨g2, rfl, hR5⟩)))
      go_loopw [8] (fun i wr => ∃ j : Nat, j ≤ F.length ∧ i = .int .i64 j ∧ KR W4 wr g2 (allB (F.drop j)) 0) (fun i _ => F.length - (intOf i).toNat)
      case atStart => exact ⟨0, Nat.zero_le _, rfl, by simpa using hR5⟩
      case round =>
        clear hR5
        obtain ⟨j, hj, rfl, hKR⟩ := hrel
        by_cases hlt : j < F.length
        · obtain ⟨f, hf⟩ := some_at F hlt
          have hgf := hgF f (List.mem_of_getElem? hf)
          have hdr := allB_drop F j f hf
          rcases hF with h0 | ⟨b, off, rfl, hc⟩
          · subst h0; simp at hlt
          obtain ⟨d0, d1, d2⟩ := fl_at hc hf (hb04.trans (hKR.2.1.mono hb04.size))
          have hltI : (j : Int) < (F.length : Int) := by omega
          rw [hdr] at hKR
          have hgb := get_back f hgf (allB (F.drop (j + 1)))
          clear hc hf hdr
          obtain ⟨k, n, s⟩ := f
          obtain ⟨hk5, hn, hsz⟩ := hgf
          simp only at hk5 hn hsz d0 d1 d2 hKR hgb
          have hbx := box_below wr (.cells #[.int .i64 k, .int .u64 n, .string s] 29)
          have hKR0 := hKR.below hbx
          have hBf := Blk.new wr 29 #[.int .i64 k, .int .u64 n, .string s]
          have hgne : g2 ≠ wr.heap.size := by have := hKR.ne; omega
          have hwle : W4.heap.size ≤ wr.heap.size := hKR.2.1.size
          obtain ⟨hb0, hb2, hb3⟩ := box3 wr (.int .i64 k) (.int .u64 n) (.string s) 29
          have hkk : k = 0 ∨ k = 1 ∨ k = 2 ∨ k = 3 ∨ k = 4 := by omega
          rcases hkk with rfl | rfl | rfl | rfl | rfl
          · have HG := get_any g2 0 (mostOf (0, n, s)) _ 0 _ (by decide) (by show n < _; omega) hKR0.2.2
            rw [hgb] at HG
            simp only [show mostOf (0, n, s) = n from rfl, show numOf (0, n, s) = n % 256 from rfl, show textOf (0, n, s) = [] from rfl, show ((0 : Nat) : Int) = 0 from rfl] at HG d0 hKR0 hBf hb0 hb2 hb3
            rw [show ((n % 256 : Nat) : Int) = (n : Int) % 256 from by omega] at HG
            have HH := Lib.hid HG
            have HKR0 := Lib.hid hKR0; have HBf := Lib.hid hBf
            clear HG hgb hKR hKR0 hBf hbx
            go_wp2_with (go_at_call 17; ((with_reducible refine HH.out.mono ?_); rintro x W6 ⟨rfl, hD6⟩; have hB6 := HBf.out.kept hD6.2 (fun h => hgne h.symm); have q0 : W6.cell? ⟨wr.heap.size, 0, none⟩ = some (.int .i64 0) := hB6.cell 0; have q1 : W6.cell? ⟨wr.heap.size, 1, none⟩ = some (.int .u64 n) := hB6.cell 1; have q2 : W6.cell? ⟨wr.heap.size, 2, none⟩ = some (.string s) := hB6.cell 2; have q3 := hB6.frozen 1; have HX := Lib.hid (And.intro (HKR0.out.done hD6) hB6); clear hB6 hD6))
            go_roundw
            case rel => exact ⟨j + 1, by omega, by go_num, HX.out.1.set HX.out.2 (by decide) hgne hwle 1 _⟩
            case measure => simp [intOf]; omega
          · have HG := get_any g2 1 (mostOf (1, n, s)) _ 0 _ (by decide) (by show n < _; omega) hKR0.2.2
            rw [hgb] at HG
            simp only [show mostOf (1, n, s) = n from rfl, show numOf (1, n, s) = n % 65536 from rfl, show textOf (1, n, s) = [] from rfl, show ((1 : Nat) : Int) = 1 from rfl] at HG d0 hKR0 hBf hb0 hb2 hb3
            rw [show ((n % 65536 : Nat) : Int) = (n : Int) % 65536 from by omega] at HG
            have HH := Lib.hid HG
            have HKR0 := Lib.hid hKR0; have HBf := Lib.hid hBf
            clear HG hgb hKR hKR0 hBf hbx
            go_wp2_with (go_at_call 17; ((with_reducible refine HH.out.mono ?_); rintro x W6 ⟨rfl, hD6⟩; have hB6 := HBf.out.kept hD6.2 (fun h => hgne h.symm); have q0 : W6.cell? ⟨wr.heap.size, 0, none⟩ = some (.int .i64 1) := hB6.cell 0; have q1 : W6.cell? ⟨wr.heap.size, 1, none⟩ = some (.int .u64 n) := hB6.cell 1; have q2 : W6.cell? ⟨wr.heap.size, 2, none⟩ = some (.string s) := hB6.cell 2; have q3 := hB6.frozen 1; have HX := Lib.hid (And.intro (HKR0.out.done hD6) hB6); clear hB6 hD6))
            go_roundw
            case rel => exact ⟨j + 1, by omega, by go_num, HX.out.1.set HX.out.2 (by decide) hgne hwle 1 _⟩
            case measure => simp [intOf]; omega
          · have HG := get_any g2 2 (mostOf (2, n, s)) _ 0 _ (by decide) (by show n < _; omega) hKR0.2.2
            rw [hgb] at HG
            simp only [show mostOf (2, n, s) = n from rfl, show numOf (2, n, s) = n from rfl, show textOf (2, n, s) = [] from rfl, show ((2 : Nat) : Int) = 2 from rfl] at HG d0 hKR0 hBf hb0 hb2 hb3
            have HH := Lib.hid HG
            have HKR0 := Lib.hid hKR0; have HBf := Lib.hid hBf
            clear HG hgb hKR hKR0 hBf hbx
            go_wp2_with (go_at_call 17; ((with_reducible refine HH.out.mono ?_); rintro x W6 ⟨rfl, hD6⟩; have hB6 := HBf.out.kept hD6.2 (fun h => hgne h.symm); have q0 : W6.cell? ⟨wr.heap.size, 0, none⟩ = some (.int .i64 2) := hB6.cell 0; have q1 : W6.cell? ⟨wr.heap.size, 1, none⟩ = some (.int .u64 n) := hB6.cell 1; have q2 : W6.cell? ⟨wr.heap.size, 2, none⟩ = some (.string s) := hB6.cell 2; have q3 := hB6.frozen 1; have HX := Lib.hid (And.intro (HKR0.out.done hD6) hB6); clear hB6 hD6))
            go_roundw
            case rel => exact ⟨j + 1, by omega, by go_num, HX.out.1⟩
            case measure => simp [intOf]; omega
          · have HG := get_any g2 3 (mostOf (3, n, s)) _ 0 _ (by decide) (by show n < _; omega) hKR0.2.2
            rw [hgb] at HG
            simp only [show mostOf (3, n, s) = n from rfl, show numOf (3, n, s) = n from rfl, show textOf (3, n, s) = [] from rfl, show ((3 : Nat) : Int) = 3 from rfl] at HG d0 hKR0 hBf hb0 hb2 hb3
            have HH := Lib.hid HG
            have HKR0 := Lib.hid hKR0; have HBf := Lib.hid hBf
            clear HG hgb hKR hKR0 hBf hbx
            go_wp2_with (go_at_call 17; ((with_reducible refine HH.out.mono ?_); rintro x W6 ⟨rfl, hD6⟩; have hB6 := HBf.out.kept hD6.2 (fun h => hgne h.symm); have q0 : W6.cell? ⟨wr.heap.size, 0, none⟩ = some (.int .i64 3) := hB6.cell 0; have q1 : W6.cell? ⟨wr.heap.size, 1, none⟩ = some (.int .u64 n) := hB6.cell 1; have q2 : W6.cell? ⟨wr.heap.size, 2, none⟩ = some (.string s) := hB6.cell 2; have q3 := hB6.frozen 1; have HX := Lib.hid (And.intro (HKR0.out.done hD6) hB6); clear hB6 hD6))
            go_roundw
            case rel => exact ⟨j + 1, by omega, by go_num, HX.out.1⟩
            case measure => simp [intOf]; omega
          · have HG := get_any g2 4 (mostOf (4, n, s)) _ 0 _ (by decide) (by show s.size < _; omega) hKR0.2.2
            rw [hgb] at HG
            simp only [show mostOf (4, n, s) = s.size from rfl, show numOf (4, n, s) = 0 from rfl, show textOf (4, n, s) = strL s from rfl, show ((4 : Nat) : Int) = 4 from rfl] at HG d0 hKR0 hBf hb0 hb2 hb3
            rw [str_back] at HG
            simp only [show ((0 : Nat) : Int) = 0 from rfl] at HG
            have HH := Lib.hid HG
            have HKR0 := Lib.hid hKR0; have HBf := Lib.hid hBf
            clear HG hgb hKR hKR0 hBf hbx
            go_wp2_with (go_at_call 17; ((with_reducible refine HH.out.mono ?_); rintro x W6 ⟨rfl, hD6⟩; have hB6 := HBf.out.kept hD6.2 (fun h => hgne h.symm); have q0 : W6.cell? ⟨wr.heap.size, 0, none⟩ = some (.int .i64 4) := hB6.cell 0; have q1 : W6.cell? ⟨wr.heap.size, 1, none⟩ = some (.int .u64 n) := hB6.cell 1; have q2 : W6.cell? ⟨wr.heap.size, 2, none⟩ = some (.string s) := hB6.cell 2; have q3 := hB6.frozen 1; have HX := Lib.hid (And.intro (HKR0.out.done hD6) hB6); clear hB6 hD6))
            go_roundw
            case rel => exact ⟨j + 1, by omega, by go_num, HX.out.1.set HX.out.2 (by decide) hgne hwle 1 _⟩
            case measure => simp [intOf]; omega
        · have hjn : j = F.length := by omega
          rw [hjn, List.drop_length] at hKR
          have hgeI : (F.length : Int) ≤ (j : Int) := by omega
          have HD := Lib.hid fun (W : World) (h : KR W4 W g2 (allB []) 0) => done_any g2 (allB []) 0 W (by decide) h.2.2
          have HL := Lib.hid fun (W : World) (h : KR W4 W g2 (allB []) 0) => left_any g2 (allB []) 0 W h.2.2
          rw [show doneF (allB []) 0 = 0 from by decide] at HD
          rw [show (((allB []).length : Nat) : Int) = 0 from by decide] at HL
          clear hjn hj
          go_wp2_with (first
            | (go_at_call 14; ((with_reducible refine (known_any _).mono ?_); rintro x W11 ⟨rfl, hb11⟩; replace hKR := hKR.below hb11))
            | (go_at_call 21; ((with_reducible refine (HD.out _ hKR).mono ?_); rintro x W12 ⟨rfl, rfl⟩))
            | (go_at_call 19; ((with_reducible refine (HL.out _ hKR).mono ?_); rintro x W13 ⟨rfl, rfl⟩)))
          go_ret
          exact ⟨ret_bool (by simp), bthen hb1 (hb04.trans (hKR.2.1.mono hb04.size))⟩
end Go.Proofs.Ytapeejndekoicaa.ww
