/-
  The walk of the law WireWrites.
-/
import Derived.Test.YtapeejndekoicaaWireM
import Derived.Test.YtapeejndekoicaaWireH
import Derived.Lib.Builder
namespace Go.Proofs.Ytapeejndekoicaa.ww
open Go.RowKit Go.Proofs.Ytapeejndekoicaa.ba Go.Proofs.Ytapeejndekoicaa.dp Go.Proofs.Ytapeejndekoicaa.wp Go.Proofs.Ytapeejndekoicaa.dw
set_option linter.unusedVariables false

theorem same_nil (a b : Option Addr) (ca cb : Nat) (w : World) : Calls Try.prog 15 #[.slice a 0 ca, .slice b 0 cb] w fun x w' => x = .returned (.bool true) ∧ Below w.heap.size w w' :=
  same_any a b ca cb [] [] w (by decide) (by decide) (Lst.nil _ _ _) (Lst.nil _ _ _)
theorem infoWs : (Try.prog.info? 63).isSome = true := by kernel_rfl
theorem infoW : ∃ i, Try.prog.info? 63 = some i := Option.isSome_iff_exists.1 infoWs
theorem rwF_len (room : Int) (F : List Fld) : ∀ out o, (∀ f ∈ F, good f) → rwF room F out = some o → o.length ≤ out.length + 210 * F.length := by
  induction F with
  | nil => intro out o _ h; cases h; simp
  | cons f F ih =>
    intro out o hg h
    rw [rwF] at h
    split at h
    · cases h
    · have h1 := ih _ o (fun f hf => hg f (by simp [hf])) h
      have h2 := fb_len f (hg f (by simp))
      rw [List.length_append] at h1
      rw [List.length_cons]
      omega

set_option maxHeartbeats 2000000 in
theorem wireWrites_any (room : Int) (a : Option Addr) (len cap : Nat) (w : World) (hr0 : -9223372036854775808 ≤ room) (hr1 : room ≤ 9223372036854775807) (hlc : len ≤ cap) (hcm : cap ≤ 9223372036854775807) (hR : RawF w a len) :
    Calls Try.prog 3 #[.int .i64 room, .slice a len cap] w fun x w' => x = .returned (.bool true) ∧ Below w.heap.size w w' := by
  obtain ⟨iW, hiW⟩ := infoW
  obtain ⟨R, hRd⟩ : ∃ R, R = if room < 0 then 0 else room := ⟨_, rfl⟩
  have hR0 : 0 ≤ R := by rw [hRd]; split <;> omega
  have hR1 : R ≤ 9223372036854775807 := by rw [hRd]; split <;> omega
  have HRd := Lib.hid hRd
  clear hRd
  have HRight := Lib.hid (right_any a len cap 20 w hlc hcm (by decide) hR)
  rw [show ((20 : Nat) : Int) = 20 from rfl] at HRight
  clear hR
  go_enter Try.func3, Try.ntmps3
  go_wp2_with (first
    | (go_at_call 9; ((with_reducible refine HRight.out.mono ?_); rintro x W1 ⟨F, aF, cF, rfl, hF, hF20, hgF, hb1⟩))
    | (go_at_call 10; ((with_reducible refine (new_own room R HRd.out _).mono ?_); rintro x W2 ⟨rfl, hK2⟩)))
  obtain ⟨g, hg⟩ : ∃ g, g = W1.heap.size := ⟨_, rfl⟩
  rw [← hg] at hK2 ⊢
  clear hg
  have hptr := fun W => Lib.run_neq_ptr_same (P := Try.prog) (w := W) ⟨g, 0, none⟩ Try.underlying24 hiW
  go_loopw [6] (fun i wr => ∃ k : Nat, k ≤ F.length ∧ i = .int .i64 k ∧ KW W1 wr g (wfold R (F.take k) ([], 0)) R) (fun i _ => F.length - (intOf i).toNat)
  case atStart => exact ⟨0, Nat.zero_le _, rfl, hK2⟩
  case round =>
    obtain ⟨k, hk, rfl, hK⟩ := hrel
    by_cases hlt : k < F.length
    · obtain ⟨f, hf⟩ := some_at F hlt
      have hgf := hgF f (List.mem_of_getElem? hf)
      have hfl := wfold_len R (F.take k) ([], 0) (fun f hf => hgF f (List.mem_of_mem_take hf))
      have hs : Hid (wfold R (F.take (k + 1)) ([], 0) = wput R (fb f) (wfold R (F.take k) ([], 0))) := by
        show _ = _
        obtain ⟨hi, rfl⟩ := List.getElem?_eq_some_iff.1 hf
        rw [List.take_succ_eq_append_getElem hi, wfold_snoc]
      have hbel := hK.2.1
      have hFr := hF
      rcases hF with h0 | ⟨b, off, rfl, hc⟩
      · subst h0; simp at hlt
      obtain ⟨c0, c1, c2⟩ := hc k f hf
      have d0 := bsome hbel c0 (World.block_lt_of_cell? _ _ c0)
      have d1 := bsome hbel c1 (World.block_lt_of_cell? _ _ c1)
      have d2 := bsome hbel c2 (World.block_lt_of_cell? _ _ c2)
      have hltI : (k : Int) < (F.length : Int) := by omega
      have htl : (F.take k).length ≤ 20 := by rw [List.length_take]; omega
      obtain ⟨st, hst⟩ : ∃ st, st = wfold R (F.take k) ([], 0) := ⟨_, rfl⟩
      rw [← hst] at hK hs hfl
      have HC := Lib.hid (hK.call (s' := wput R (fb f) st) fun q hq => put_any g q st.1 st.2 R f wr hq (by simp at hfl; omega) hR0 hR1 hgf)
      clear hc c0 c1 c2 hf hst hfl hK hbel
      go_wp2_with (go_at_call 11; ((with_reducible refine HC.out.mono ?_); rintro x W3 ⟨rfl, hK3⟩))
      go_roundw
      case rel => exact ⟨k + 1, by omega, by go_num, by rw [hs.out]; exact hK3⟩
      case measure => simp [intOf]; omega
    · have hkn : k = F.length := by omega
      rw [hkn, List.take_length] at hK
      have hfl := wfold_len R F ([], 0) hgF
      have hrw := wfold_rw R F []
      have hrl := fun o => rwF_len R F [] o hgF
      obtain ⟨st, hst⟩ : ∃ st, st = wfold R F ([], 0) := ⟨_, rfl⟩
      rw [← hst] at hK hrw hfl
      obtain ⟨l, e⟩ := st
      obtain ⟨hgw, hbK, q, hWr, hq⟩ := hK
      simp only at hWr
      have hll : l.length ≤ 4200 := by simp at hfl; omega
      have HB := Lib.hid (bytes_any g q l e R wr hWr (by omega))
      have HW := Lib.hid fun W (hb : Below W1.heap.size W1 W) => rwrite_go aF cF F room R W HRd.out hr1 (by omega) hgF (hF.below hb)
      have hge : (F.length : Int) ≤ (k : Int) := by omega
      clear hst hWr hq hfl hgw hF hgF hkn
      cases hcase : rwF R F [] with
      | none =>
        have he := hrw.2 hcase
        simp only at he
        subst he
        have HN := Lib.hid hcase
        rw [if_neg (by decide)] at HB
        clear hrw hcase hrl
        go_wp2_with (first
          | (go_at_call 12; ((with_reducible refine HB.out.mono ?_); rintro x W3 ⟨a3, c3, rfl, _, _, hL3, _, hb3⟩; replace hbK := bthen hbK hb3))
          | (go_at_call 13; ((with_reducible refine (HW.out _ hbK).mono ?_); intro x W4 hw4; rcases hw4 with ⟨_, rfl, hb4⟩ | ⟨o, a4, c4, ho, _⟩; rotate_left; (exact absurd ho (by rw [HN.out]; simp)); replace hbK := bthen hbK hb4; replace hL3 := hL3.below hb4))
          | (go_at_call 14; ((with_reducible refine (known_any _).mono ?_); rintro x W5 ⟨rfl, hb5⟩; replace hbK := bthen hbK hb5; replace hL3 := hL3.below hb5))
          | (go_at_call 15; ((with_reducible refine (same_nil _ _ _ _ _).mono ?_); rintro x W6 ⟨rfl, hb6⟩; replace hbK := bthen hbK hb6)))
        go_ret
        exact ⟨ret_bool (by simp), bthen hb1 hbK⟩
      | some o =>
        have he := hrw.1 o hcase
        simp only [Prod.mk.injEq] at he
        obtain ⟨rfl, rfl⟩ := he
        have HN := Lib.hid hcase
        rw [if_pos rfl] at HB
        clear hrw hcase hrl
        go_wp2_with (first
          | (go_at_call 12; ((with_reducible refine HB.out.mono ?_); rintro x W3 ⟨a3, c3, rfl, _, _, hL3, _, hb3⟩; replace hbK := bthen hbK hb3))
          | (go_at_call 13; ((with_reducible refine (HW.out _ hbK).mono ?_); intro x W4 hw4; rcases hw4 with ⟨ho, _⟩ | ⟨o, a4, c4, ho, rfl, hL4, hb4⟩; (exact absurd ho (by rw [HN.out]; simp)); (have ho2 := Option.some.inj (HN.out.symm.trans ho)); subst ho2; replace hbK := bthen hbK hb4; replace hL3 := hL3.below hb4))
          | (go_at_call 14; ((with_reducible refine (known_any _).mono ?_); rintro x W5 ⟨rfl, hb5⟩; replace hbK := bthen hbK hb5; replace hL3 := hL3.below hb5; replace hL4 := hL4.below hb5))
          | (go_at_call 15; ((with_reducible refine (same_any a3 a4 c3 c4 l l _ (by omega) (by omega) hL3 hL4).mono ?_); rintro x W6 ⟨rfl, hb6⟩; replace hbK := bthen hbK hb6)))
        go_ret
        exact ⟨ret_bool (by simp), bthen hb1 hbK⟩
end Go.Proofs.Ytapeejndekoicaa.ww
