/-
  The walks of layer 10: how many records there are of each kind.
-/
import Derived.Test.YtaekpejpcafnkaaRecN
import Derived.Maps.OwnSet
import Derived.Maps.OwnOps
import Derived.Maps.Views
namespace Go.Proofs.Ytaekpejpcafnkaa.rw
open Go.RowKit Go.Proofs.Ytaekpejpcafnkaa.ba Go.Proofs.Ytaekpejpcafnkaa.rp Go.Proofs.Ytaekpejpcafnkaa.dp Go.Proofs.Ytaekpejpcafnkaa.dw Go.Proofs.Ytaekpejpcafnkaa.wp Go.Proofs.Ytaekpejpcafnkaa.ww
set_option maxRecDepth 8000
open Go.Maps (has size Tidy int_keyed keyOf_int_mk)
set_option linter.unusedVariables false
attribute [local go_sem ↓] Go.wp_at_zero Go.wp_at_succ

/-- How many there are. -/
def one (n : Nat) : Nat := if 0 < n then 1 else 0
def there (C : Int → Nat) : Nat := one (C 0) + one (C 1) + one (C 2) + one (C 3) + one (C 4) + one (C 5) + one (C 6)
/-- A map of the call's own that counts. -/
def Cnt (w : World) (b n : Nat) (C : Int → Nat) : Prop :=
  ∃ D : DataW Unit, w.ownsMap Try.prog 5 (plainElem Try.prog 3) b n D ∧ Tidy D ∧ (∀ k : Int, 0 ≤ k → k ≤ 255 → D.atKey (.int .u8 k) (.lit (.int .i64 0)) = .lit (.int .i64 (C k)) ∧ has D (.int .u8 k) = decide (0 < C k)) ∧ size D = there C
/-- One more of a kind. -/
def bump (C : Int → Nat) (k : Int) : Int → Nat := fun j => if j = k then C j + 1 else C j
theorem one_bump (n : Nat) : one (n + 1) = if decide (0 < n) then one n else one n + 1 := by
  unfold one
  by_cases h : 0 < n <;> simp [h]
theorem there_bump (C : Int → Nat) (k : Int) (h0 : 0 ≤ k) (h6 : k ≤ 6) : there (bump C k) = if decide (0 < C k) then there C else there C + 1 := by
  have hkk : k = 0 ∨ k = 1 ∨ k = 2 ∨ k = 3 ∨ k = 4 ∨ k = 5 ∨ k = 6 := by omega
  have e := one_bump (C k)
  cases hd : decide (0 < C k) <;> rw [hd] at e <;> rcases hkk with rfl | rfl | rfl | rfl | rfl | rfl | rfl <;> simp [there, bump] at e ⊢ <;> omega
theorem cnt_made (w : World) : Cnt (w.alloc (.map #[] 0)) w.heap.size 0 (fun _ => 0) :=
  ⟨_, World.ownsMap_made _ _ _ _, Go.Maps.tidy_empty, fun k _ _ => ⟨rfl, rfl⟩, rfl⟩
theorem Cnt.kept {w w' : World} {b n : Nat} {C : Int → Nat} {row : Option Nat} (h : Cnt w b n C) (hg : w.grownBy w' row) (hne : some b ≠ row) : Cnt w' b n C := by
  obtain ⟨D, h1, h2⟩ := h
  exact ⟨D, h1.kept hg hne, h2⟩
theorem Cnt.below {w w' : World} {b n : Nat} {C : Int → Nat} (h : Cnt w b n C) (hb : Below w.heap.size w w') : Cnt w' b n C :=
  Cnt.kept (row := none) h ⟨hb.os, hb.tape, hb.output, hb.size, fun j hj _ => hb.block j hj⟩ (by simp)
theorem key_u8 {k : Int} (h0 : 0 ≤ k) (h1 : k ≤ 255) : keyOf Try.prog 5 (.int .u8 k) = some (.int .u8 k) :=
  keyOf_int_mk Try.underlying5 (WalkArith.wf_u8 ⟨h0, h1⟩)
theorem lawU8 : Go.Maps.Keyed Try.prog 5 := int_keyed Try.underlying5
theorem zeroInt (w : World) : (zeroValue 3).run Try.prog w = .ok (.int .i64 0) w := by kernel_rfl
theorem Cnt.put {w' : World} {b n : Nat} {C : Int → Nat} {D : DataW Unit} {k : Int} (h0 : 0 ≤ k) (h6 : k ≤ 6) (h2 : Tidy D) (h3 : ∀ k : Int, 0 ≤ k → k ≤ 255 → D.atKey (.int .u8 k) (.lit (.int .i64 0)) = .lit (.int .i64 (C k)) ∧ has D (.int .u8 k) = decide (0 < C k)) (h4 : size D = there C)
    (h : w'.ownsMap Try.prog 5 (plainElem Try.prog 3) b n (D.put (.int .u8 k) (.lit (.int .i64 ((C k : Int) + 1))))) : Cnt w' b n (bump C k) := by
  have hk : WideAt.IsKeyLit (.int .u8 k) := by trivial
  refine ⟨_, h, h2.put hk _, fun j j0 j1 => ?_, ?_⟩
  · by_cases e : j = k
    · subst e
      rw [Go.Maps.atKey_put_same h2.isMap hk, Go.Maps.has_put_same h2.isMap hk]
      simp [bump]
    · have hne : (Lit.int .u8 j) ≠ .int .u8 k := fun e' => e (by injection e')
      rw [Go.Maps.atKey_put_other hne, Go.Maps.has_put_other hne]
      have := h3 j j0 j1
      simpa [bump, e] using this
  · rw [Go.Maps.size_put h2, (h3 k h0 (by omega)).2, h4, there_bump C k h0 h6]

theorem cnt_read {D : DataW Unit} {C : Int → Nat} {k c1 : Int} {m : Nat} (h3 : ∀ k : Int, 0 ≤ k → k ≤ 255 → D.atKey (.int .u8 k) (.lit (.int .i64 0)) = .lit (.int .i64 (C k)) ∧ has D (.int .u8 k) = decide (0 < C k)) (h0 : 0 ≤ k) (h9 : k ≤ 255) (hm : m = C k) (hat : D.atKey (.int .u8 k) (.lit (.int .i64 0)) = .lit (.int .i64 c1)) : c1 = (m : Int) := by
  have h1 := hat.symm.trans (h3 k h0 h9).1
  rw [hm]
  simp only [DataW.lit.injEq, Lit.int.injEq, true_and] at h1
  exact h1
/-- How many right records there are of a kind. -/
def cntF (l : List R) (k : Int) : Nat := l.countP fun r => checkF r == 0 && r.k == k
theorem cnt_nil : cntF [] = fun _ => 0 := rfl
theorem cnt_snoc_right (l : List R) (r : R) (h : checkF r = 0) : cntF (l ++ [r]) = bump (cntF l) r.k := by
  funext k
  unfold cntF bump
  rw [List.countP_append]
  by_cases e : k = r.k
  · subst e; simp [h]
  · have : ¬ (r.k = k) := fun x => e x.symm
    simp [h, e, this]
theorem cnt_snoc_wrong (l : List R) (r : R) (h : checkF r ≠ 0) : cntF (l ++ [r]) = cntF l := by
  funext k
  unfold cntF
  rw [List.countP_append]
  simp [h]
theorem cnt_le (l : List R) (k : Int) : cntF l k ≤ l.length := List.countP_le_length
theorem checkF_kind {r : R} (h : checkF r = 0) : 1 ≤ r.k ∧ r.k ≤ 6 := by
  unfold checkF at h
  split at h
  · exact absurd h (by decide)
  · omega
theorem recs_cells {w wr : World} {b off k : Nat} {r : R} (hb : Below w.heap.size w wr) (hc : ∀ c v, (cellsOf r)[c]? = some v → w.cell? ⟨b, off + k * 9 + c, none⟩ = some v) :
    wr.cell? ⟨b, off + k * 9, none⟩ = some (.int .u8 r.k) ∧ wr.cell? ⟨b, off + k * 9 + 1, none⟩ = some (.int .u8 r.s) ∧ wr.cell? ⟨b, off + k * 9 + 2, none⟩ = some (.int .u8 r.u) ∧ wr.cell? ⟨b, off + k * 9 + 3, none⟩ = some (.int .u8 r.p) ∧ wr.cell? ⟨b, off + k * 9 + 4, none⟩ = some (.int .u8 r.m) ∧ wr.cell? ⟨b, off + k * 9 + 5, none⟩ = some (.bool r.g) ∧ wr.cell? ⟨b, off + k * 9 + 6, none⟩ = some (.int .u32 r.v) ∧ wr.cell? ⟨b, off + k * 9 + 7, none⟩ = some (.int .u64 r.a) ∧ wr.cell? ⟨b, off + k * 9 + 8, none⟩ = some (.string r.t) := by
  have h := fun (j : Nat) (v : Value) (hv : (cellsOf r)[j]? = some v) => bsome hb (hc j v hv) (World.block_lt_of_cell? _ _ (hc j v hv))
  exact ⟨h 0 _ rfl, h 1 _ rfl, h 2 _ rfl, h 3 _ rfl, h 4 _ rfl, h 5 _ rfl, h 6 _ rfl, h 7 _ rfl, h 8 _ rfl⟩
set_option maxRecDepth 100000 in
set_option maxHeartbeats 4000000 in
theorem kinds_any (a : Option Addr) (n c : Nat) (l : List R) (w : World) (hn : l.length = n) (hl : n ≤ 1000000) (hL : Recs w a l) (hok : ∀ r ∈ l, r.ok) :
    Calls Try.prog 17 #[.slice a n c] w fun x w' => x = .returned (.map (some w.heap.size)) ∧ Cnt w' w.heap.size n (cntF l) ∧ Below w.heap.size w w' := by
  subst hn
  have hmm := @run_makeMap Try.prog
  go_enter Try.func17, Try.ntmps17
  go_wp2_with fail
  go_loopw [9] (fun i wr => ∃ (k : Nat), k ≤ l.length ∧ i = .int .i64 k ∧ Cnt wr w.heap.size k (cntF (l.take k)) ∧ Below w.heap.size w wr) (fun i _ => l.length - (intOf i).toNat)
  case atStart => exact ⟨0, Nat.zero_le _, rfl, cnt_made w, (Below.refl _ _).alloc (Nat.le_refl _) _⟩
  case round =>
    obtain ⟨k, hk, rfl, hC, hbel⟩ := hrel
    have hz := hbel.size
    by_cases hlt : k < l.length
    · obtain ⟨r, hrk⟩ := some_at l hlt
      have hrok := hok r (List.mem_of_getElem? hrk)
      have htk : l.take (k + 1) = l.take k ++ [r] := by
        obtain ⟨h1, h2⟩ := List.getElem?_eq_some_iff.1 hrk
        rw [List.take_succ_eq_append_getElem h1, h2]
      rcases hL with h0 | ⟨b, off, rfl, hc⟩
      · subst h0; simp at hlt
      obtain ⟨c0, c1, c2, c3, c4, c5, c6, c7, c8⟩ := recs_cells hbel (hc k r hrk)
      have HK := Lib.hid fun (W : World) => check_any r W hrok
      have hltI : (k : Int) < (l.length : Int) := by omega
      have HTK := Lib.hid htk
      have hkz : 0 ≤ r.k ∧ r.k ≤ 255 := hrok.k
      obtain ⟨hk0, hk9⟩ := hkz
      have HB0 := Lib.hid (Blk.new wr 30 (cellsOf r))
      clear hc hrk htk
      have HC := Lib.hid hC
      by_cases hck : checkF r = 0
      · obtain ⟨q1, q6⟩ := checkF_kind hck
        rw [hck] at HK
        have HCK := Lib.hid hck
        have hcl := cnt_le (l.take k) r.k
        have hcl2 : cntF (l.take k) r.k ≤ 1000000 := by rw [List.length_take] at hcl; omega
        clear hck hC hcl
        obtain ⟨D, hD, hD2, hD3, hD4⟩ := HC.out
        have HD := Lib.hid hD
        have HD2 := Lib.hid hD2
        have HD3 := Lib.hid hD3
        have HD4 := Lib.hid hD4
        have hwf : (Lit.int .i64 ((cntF (l.take k) r.k : Int) + 1)).wf = true := WalkArith.wf_i64 (by omega)
        clear hD hD2 hD3 hD4 HC
        obtain ⟨m, hm⟩ : ∃ m, m = cntF (l.take k) r.k := ⟨_, rfl⟩
        rw [← hm] at hwf hcl2
        have HM := Lib.hid hm
        clear hm
        go_wp2_with
          (first
            | (go_at_call 14; ((with_reducible refine (HK.out _).mono ?_); rintro x W1 ⟨rfl, hb1⟩; have HB1 := Lib.hid hb1; have e0 : W1.cell? ⟨wr.heap.size, 0, none⟩ = some (.int .u8 r.k) := (HB0.out.below hb1).cell 0; have HO1 := Lib.hid (HD.out.kept (row := none) ⟨hb1.os, hb1.tape, hb1.output, Nat.le_trans (by simp) hb1.size, (fun j hj _ => (hb1.block j (by simp; omega)).trans (Below.heap_alloc _ _ _ hj))⟩ (by simp)); clear hb1))
            | (at_lookup; refine wpList_lookup_own_int _ rfl _ _ 47 rfl 5 3 .i64 lawU8 Try.underlying47 Try.underlying3 (zeroInt _) w.heap.size k _ rfl HO1.out _ _ rfl (key_u8 hk0 hk9) ?_; intro c1 hat hwc; have hc1 := cnt_read HD3.out hk0 hk9 HM.out hat; subst hc1; clear hat hwc)
            | (at_mapUpdate; refine wpList_mapUpdate_own _ rfl _ _ _ 47 rfl 5 3 lawU8 Try.underlying47 _ w.heap.size k _ rfl HO1.out (by unfold maxLen; omega) _ _ _ rfl rfl (key_u8 hk0 hk9) _ [] (plainElem_int Try.underlying3 hwf) ?_; intro W2 hown2 hg2)
            | fail)
        go_roundw
        case rel =>
          refine ⟨k + 1, by omega, by go_num, ?_, ?_⟩
          · rw [HTK.out, cnt_snoc_right _ _ HCK.out]
            have := HM.out
            subst this
            exact Cnt.put hk0 q6 HD2.out HD3.out HD4.out hown2
          · exact ((hbel.alloc hz _).trans (HB1.out.mono (by simp; omega))).grown hg2 (by have := HB1.out.size; simp at this; omega) (fun j hj => by cases hj; exact Nat.le_refl _)
        case measure => simp [intOf]; omega
      · have HCK := Lib.hid hck
        have hck1 : (checkF r == 0) = false := by simpa using hck
        generalize checkF r = E at hck1 HK
        clear hck hC
        go_wp2_with ((go_at_call 14; ((with_reducible refine (HK.out _).mono ?_); rintro x W1 ⟨rfl, hb1⟩; have HB1 := Lib.hid hb1; clear hb1)))
        go_roundw
        case rel =>
          refine ⟨k + 1, by omega, by go_num, ?_, (hbel.alloc hz _).trans (HB1.out.mono (by simp; omega))⟩
          rw [HTK.out, cnt_snoc_wrong _ _ HCK.out]
          obtain ⟨D, d1, d2⟩ := HC.out
          exact ⟨D, ((d1.mono (Nat.le_succ k)).kept (row := none) ⟨HB1.out.os, HB1.out.tape, HB1.out.output, Nat.le_trans (by simp) HB1.out.size, (fun j hj _ => (HB1.out.block j (by simp; omega)).trans (Below.heap_alloc _ _ _ hj))⟩ (by simp)), d2⟩
        case measure => simp [intOf]; omega
    · have hkn : k = l.length := by omega
      subst hkn
      have HC : Hid (Cnt wr w.heap.size l.length (cntF l)) := by
        have := hC
        rw [List.take_of_length_le (Nat.le_refl _)] at this
        exact Lib.hid this
      clear hC
      go_wp2_with fail
      go_ret
      exact ⟨rfl, HC.out, hbel⟩
end Go.Proofs.Ytaekpejpcafnkaa.rw
