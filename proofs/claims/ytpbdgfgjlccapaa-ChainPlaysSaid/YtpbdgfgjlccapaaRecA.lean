/-
  The walks of layer 10: a record is visited, with whatever closures.
-/
import Derived.Test.YtpbdgfgjlccapaaRecPlain
import Derived.Test.YtpbdgfgjlccapaaBlk
import Derived.StillTailTactics
namespace Go.Proofs.Ytpbdgfgjlccapaa.rw
open Go.RowKit Go.Proofs.Ytpbdgfgjlccapaa.ba Go.Proofs.Ytpbdgfgjlccapaa.rp
set_option maxRecDepth 8000
set_option linter.unusedVariables false

/-- What a visited field's closure leaves. -/
def Step (I : Nat → World → Prop) (S : Nat → Prop) (j : Nat) (W w' : World) (x : Ending) : Prop := x = .returned (.tuple #[]) ∧ I j w' ∧ Kept S W w'

theorem _root_.Go.Proofs.Ytpbdgfgjlccapaa.ba.Kept.drew {S : Nat → Prop} {w w' : World} (h : Kept S w w') : Kept S w w'.drew := ⟨h.os, h.tape, h.output, h.size, h.block⟩

set_option maxRecDepth 100000 in
set_option maxHeartbeats 4000000 in
theorem visit_any (kind : Int) (g f0 f1 f2 f3 f4 : Nat) (c0 c1 c2 c3 c4 : Array Value) (S : Nat → Prop) (I : Nat → World → Prop) (w : World)
    (hk0 : 0 ≤ kind) (hk1 : kind ≤ 255) (h0 : I 0 (w.alloc (.cells #[.func (.func f0) #[] c0, .func (.func f1) #[] c1, .func (.func f2) #[] c2, .func (.func f3) #[] c3, .func (.func f4) #[] c4] 101))) (hdr : ∀ j W, I j W → I j W.drew) (hSn : ¬ S w.heap.size)
    (hk : w.cell? ⟨g, 0, none⟩ = some (.int .u8 kind))
    (hf0 : ∀ caps w, (callFunc f0 caps).run Try.prog w = .ok (.enter f0 caps) w) (hf1 : ∀ caps w, (callFunc f1 caps).run Try.prog w = .ok (.enter f1 caps) w) (hf2 : ∀ caps w, (callFunc f2 caps).run Try.prog w = .ok (.enter f2 caps) w)
    (hf3 : ∀ caps w, (callFunc f3 caps).run Try.prog w = .ok (.enter f3 caps) w) (hf4 : ∀ caps w, (callFunc f4 caps).run Try.prog w = .ok (.enter f4 caps) w)
    (hs0 : ∀ j off, (usesK kind)[j]? = some (0, off) → ∀ W, I j W → Calls Try.prog f0 (#[.pointer (some ⟨g, off, none⟩)] ++ c0) W fun x w' => Step I S (j + 1) W w' x)
    (hs1 : ∀ j off, (usesK kind)[j]? = some (1, off) → ∀ W, I j W → Calls Try.prog f1 (#[.pointer (some ⟨g, off, none⟩)] ++ c1) W fun x w' => Step I S (j + 1) W w' x)
    (hs2 : ∀ j off, (usesK kind)[j]? = some (2, off) → ∀ W, I j W → Calls Try.prog f2 (#[.pointer (some ⟨g, off, none⟩)] ++ c2) W fun x w' => Step I S (j + 1) W w' x)
    (hs3 : ∀ j off, (usesK kind)[j]? = some (3, off) → ∀ W, I j W → Calls Try.prog f3 (#[.pointer (some ⟨g, off, none⟩)] ++ c3) W fun x w' => Step I S (j + 1) W w' x)
    (hs4 : ∀ j off, (usesK kind)[j]? = some (4, off) → ∀ W, I j W → Calls Try.prog f4 (#[.pointer (some ⟨g, off, none⟩)] ++ c4) W fun x w' => Step I S (j + 1) W w' x) :
    Calls Try.prog 43 #[.pointer (some ⟨g, 0, none⟩), .agg #[.func (.func f0) #[] c0, .func (.func f1) #[] c1, .func (.func f2) #[] c2, .func (.func f3) #[] c3, .func (.func f4) #[] c4]] w fun x w' => Step I S (usesK kind).length w w' x := by
  have hkc : (w.alloc (.cells #[.func (.func f0) #[] c0, .func (.func f1) #[] c1, .func (.func f2) #[] c2, .func (.func f3) #[] c3, .func (.func f4) #[] c4] 101)).cell? ⟨g, 0, none⟩ = some (.int .u8 kind) := bsome ((Below.refl _ w).alloc (Nat.le_refl _) _) hk (World.block_lt_of_cell? _ _ hk)
  obtain ⟨d1, d2⟩ := And.intro hf0 hf1
  have hd := Lib.hid hdr
  have hI := h0
  have hV := Blk.new w 101 #[.func (.func f0) #[] c0, .func (.func f1) #[] c1, .func (.func f2) #[] c2, .func (.func f3) #[] c3, .func (.func f4) #[] c4]
  have hK := Kept.of_alloc (S := S) (w := w) (.cells #[.func (.func f0) #[] c0, .func (.func f1) #[] c1, .func (.func f2) #[] c2, .func (.func f3) #[] c3, .func (.func f4) #[] c4] 101)
  have HI := Lib.hid hI; have HV := Lib.hid hV; have HK := Lib.hid hK; have HS := Lib.hid hSn
  clear hdr h0 hk hI hV hK hSn d1 d2
  have hkk : kind = 1 ∨ kind = 2 ∨ kind = 4 ∨ kind = 5 ∨ kind = 6 ∨ (kind ≠ 1 ∧ kind ≠ 2 ∧ kind ≠ 4 ∧ kind ≠ 5 ∧ kind ≠ 6) := by omega
  rcases hkk with rfl | rfl | rfl | rfl | rfl | hne
  · have q0 := Lib.hid (hs0 0 2 rfl)
    clear hs0 hs1 hs2 hs3 hs4
    go_enter Try.func43, Try.ntmps43
    go_wp2_with fail
    generalize w.alloc (.cells #[.func (.func f0) #[] c0, .func (.func f1) #[] c1, .func (.func f2) #[] c2, .func (.func f3) #[] c3, .func (.func f4) #[] c4] 101) = W0 at *
    have v0 : W0.cell? ⟨w.heap.size, 0, none⟩ = some (.func (.func f0) #[] c0) := HV.out.cell 0
    go_still_tail 5, (by kernel_rfl)
    change wpList _ _ _ _ _ W0.drew
    have HI0 := hd.out _ _ HI.out; have HV0 := HV.out.drew; have HK0 := HK.out.drew
    replace HI := Lib.hid HI0; replace HV := Lib.hid HV0; replace HK := Lib.hid HK0
    clear HI0 HV0 HK0 v0
    generalize W0.drew = Y0 at *
    clear hkc
    go_wp2_with ((with_reducible refine (q0.out _ HI.out).mono ?_); rintro x W1 ⟨rfl, hI1, hK1⟩; replace HV := Lib.hid (HV.out.kept hK1 HS.out); replace HK := Lib.hid (HK.out.on hK1); replace HI := Lib.hid hI1; clear hI1 hK1)
    go_end0
    exact ⟨rfl, HI.out, HK.out⟩
  · have q0 := Lib.hid (hs0 0 4 rfl)
    clear hs0 hs1 hs2 hs3 hs4
    go_enter Try.func43, Try.ntmps43
    go_wp2_with fail
    generalize w.alloc (.cells #[.func (.func f0) #[] c0, .func (.func f1) #[] c1, .func (.func f2) #[] c2, .func (.func f3) #[] c3, .func (.func f4) #[] c4] 101) = W0 at *
    have v0 : W0.cell? ⟨w.heap.size, 0, none⟩ = some (.func (.func f0) #[] c0) := HV.out.cell 0
    go_still_tail 5, (by kernel_rfl)
    change wpList _ _ _ _ _ W0.drew
    have HI0 := hd.out _ _ HI.out; have HV0 := HV.out.drew; have HK0 := HK.out.drew
    replace HI := Lib.hid HI0; replace HV := Lib.hid HV0; replace HK := Lib.hid HK0
    clear HI0 HV0 HK0 v0
    generalize W0.drew = Y0 at *
    clear hkc
    go_wp2_with ((with_reducible refine (q0.out _ HI.out).mono ?_); rintro x W1 ⟨rfl, hI1, hK1⟩; replace HV := Lib.hid (HV.out.kept hK1 HS.out); replace HK := Lib.hid (HK.out.on hK1); replace HI := Lib.hid hI1; clear hI1 hK1)
    go_end0
    exact ⟨rfl, HI.out, HK.out⟩
  · have q0 := Lib.hid (hs0 0 3 rfl)
    have q1 := Lib.hid (hs0 1 1 rfl)
    have q2 := Lib.hid (hs3 2 7 rfl)
    clear hs0 hs1 hs2 hs3 hs4
    go_enter Try.func43, Try.ntmps43
    go_wp2_with fail
    generalize w.alloc (.cells #[.func (.func f0) #[] c0, .func (.func f1) #[] c1, .func (.func f2) #[] c2, .func (.func f3) #[] c3, .func (.func f4) #[] c4] 101) = W0 at *
    have v0 : W0.cell? ⟨w.heap.size, 0, none⟩ = some (.func (.func f0) #[] c0) := HV.out.cell 0
    go_still_tail 5, (by kernel_rfl)
    change wpList _ _ _ _ _ W0.drew
    have HI0 := hd.out _ _ HI.out; have HV0 := HV.out.drew; have HK0 := HK.out.drew
    replace HI := Lib.hid HI0; replace HV := Lib.hid HV0; replace HK := Lib.hid HK0
    clear HI0 HV0 HK0 v0
    generalize W0.drew = Y0 at *
    clear hkc
    go_wp2_with ((with_reducible refine (q0.out _ HI.out).mono ?_); rintro x W1 ⟨rfl, hI1, hK1⟩; replace HV := Lib.hid (HV.out.kept hK1 HS.out); replace HK := Lib.hid (HK.out.on hK1); replace HI := Lib.hid hI1; clear hI1 hK1)
    have v1 : W1.cell? ⟨w.heap.size, 0, none⟩ = some (.func (.func f0) #[] c0) := HV.out.cell 0
    go_still_tail 5, (by kernel_rfl)
    change wpList _ _ _ _ _ W1.drew
    have HI1 := hd.out _ _ HI.out; have HV1 := HV.out.drew; have HK1 := HK.out.drew
    replace HI := Lib.hid HI1; replace HV := Lib.hid HV1; replace HK := Lib.hid HK1
    clear HI1 HV1 HK1 v1
    generalize W1.drew = Y1 at *
    go_wp2_with ((with_reducible refine (q1.out _ HI.out).mono ?_); rintro x W2 ⟨rfl, hI1, hK1⟩; replace HV := Lib.hid (HV.out.kept hK1 HS.out); replace HK := Lib.hid (HK.out.on hK1); replace HI := Lib.hid hI1; clear hI1 hK1)
    have v2 : W2.cell? ⟨w.heap.size, 3, none⟩ = some (.func (.func f3) #[] c3) := HV.out.cell 3
    go_still_tail 5, (by kernel_rfl)
    change wpList _ _ _ _ _ W2.drew
    have HI2 := hd.out _ _ HI.out; have HV2 := HV.out.drew; have HK2 := HK.out.drew
    replace HI := Lib.hid HI2; replace HV := Lib.hid HV2; replace HK := Lib.hid HK2
    clear HI2 HV2 HK2 v2
    generalize W2.drew = Y2 at *
    go_wp2_with ((with_reducible refine (q2.out _ HI.out).mono ?_); rintro x W3 ⟨rfl, hI1, hK1⟩; replace HV := Lib.hid (HV.out.kept hK1 HS.out); replace HK := Lib.hid (HK.out.on hK1); replace HI := Lib.hid hI1; clear hI1 hK1)
    go_end0
    exact ⟨rfl, HI.out, HK.out⟩
  · have q0 := Lib.hid (hs1 0 5 rfl)
    have q1 := Lib.hid (hs2 1 6 rfl)
    have q2 := Lib.hid (hs4 2 8 rfl)
    clear hs0 hs1 hs2 hs3 hs4
    go_enter Try.func43, Try.ntmps43
    go_wp2_with fail
    generalize w.alloc (.cells #[.func (.func f0) #[] c0, .func (.func f1) #[] c1, .func (.func f2) #[] c2, .func (.func f3) #[] c3, .func (.func f4) #[] c4] 101) = W0 at *
    have v0 : W0.cell? ⟨w.heap.size, 1, none⟩ = some (.func (.func f1) #[] c1) := HV.out.cell 1
    go_still_tail 5, (by kernel_rfl)
    change wpList _ _ _ _ _ W0.drew
    have HI0 := hd.out _ _ HI.out; have HV0 := HV.out.drew; have HK0 := HK.out.drew
    replace HI := Lib.hid HI0; replace HV := Lib.hid HV0; replace HK := Lib.hid HK0
    clear HI0 HV0 HK0 v0
    generalize W0.drew = Y0 at *
    clear hkc
    go_wp2_with ((with_reducible refine (q0.out _ HI.out).mono ?_); rintro x W1 ⟨rfl, hI1, hK1⟩; replace HV := Lib.hid (HV.out.kept hK1 HS.out); replace HK := Lib.hid (HK.out.on hK1); replace HI := Lib.hid hI1; clear hI1 hK1)
    have v1 : W1.cell? ⟨w.heap.size, 2, none⟩ = some (.func (.func f2) #[] c2) := HV.out.cell 2
    go_still_tail 5, (by kernel_rfl)
    change wpList _ _ _ _ _ W1.drew
    have HI1 := hd.out _ _ HI.out; have HV1 := HV.out.drew; have HK1 := HK.out.drew
    replace HI := Lib.hid HI1; replace HV := Lib.hid HV1; replace HK := Lib.hid HK1
    clear HI1 HV1 HK1 v1
    generalize W1.drew = Y1 at *
    go_wp2_with ((with_reducible refine (q1.out _ HI.out).mono ?_); rintro x W2 ⟨rfl, hI1, hK1⟩; replace HV := Lib.hid (HV.out.kept hK1 HS.out); replace HK := Lib.hid (HK.out.on hK1); replace HI := Lib.hid hI1; clear hI1 hK1)
    have v2 : W2.cell? ⟨w.heap.size, 4, none⟩ = some (.func (.func f4) #[] c4) := HV.out.cell 4
    go_still_tail 5, (by kernel_rfl)
    change wpList _ _ _ _ _ W2.drew
    have HI2 := hd.out _ _ HI.out; have HV2 := HV.out.drew; have HK2 := HK.out.drew
    replace HI := Lib.hid HI2; replace HV := Lib.hid HV2; replace HK := Lib.hid HK2
    clear HI2 HV2 HK2 v2
    generalize W2.drew = Y2 at *
    go_wp2_with ((with_reducible refine (q2.out _ HI.out).mono ?_); rintro x W3 ⟨rfl, hI1, hK1⟩; replace HV := Lib.hid (HV.out.kept hK1 HS.out); replace HK := Lib.hid (HK.out.on hK1); replace HI := Lib.hid hI1; clear hI1 hK1)
    go_end0
    exact ⟨rfl, HI.out, HK.out⟩
  · have q0 := Lib.hid (hs0 0 1 rfl)
    have q1 := Lib.hid (hs0 1 2 rfl)
    have q2 := Lib.hid (hs2 2 6 rfl)
    have q3 := Lib.hid (hs4 3 8 rfl)
    clear hs0 hs1 hs2 hs3 hs4
    go_enter Try.func43, Try.ntmps43
    go_wp2_with fail
    generalize w.alloc (.cells #[.func (.func f0) #[] c0, .func (.func f1) #[] c1, .func (.func f2) #[] c2, .func (.func f3) #[] c3, .func (.func f4) #[] c4] 101) = W0 at *
    have v0 : W0.cell? ⟨w.heap.size, 0, none⟩ = some (.func (.func f0) #[] c0) := HV.out.cell 0
    go_still_tail 5, (by kernel_rfl)
    change wpList _ _ _ _ _ W0.drew
    have HI0 := hd.out _ _ HI.out; have HV0 := HV.out.drew; have HK0 := HK.out.drew
    replace HI := Lib.hid HI0; replace HV := Lib.hid HV0; replace HK := Lib.hid HK0
    clear HI0 HV0 HK0 v0
    generalize W0.drew = Y0 at *
    clear hkc
    go_wp2_with ((with_reducible refine (q0.out _ HI.out).mono ?_); rintro x W1 ⟨rfl, hI1, hK1⟩; replace HV := Lib.hid (HV.out.kept hK1 HS.out); replace HK := Lib.hid (HK.out.on hK1); replace HI := Lib.hid hI1; clear hI1 hK1)
    have v1 : W1.cell? ⟨w.heap.size, 0, none⟩ = some (.func (.func f0) #[] c0) := HV.out.cell 0
    go_still_tail 5, (by kernel_rfl)
    change wpList _ _ _ _ _ W1.drew
    have HI1 := hd.out _ _ HI.out; have HV1 := HV.out.drew; have HK1 := HK.out.drew
    replace HI := Lib.hid HI1; replace HV := Lib.hid HV1; replace HK := Lib.hid HK1
    clear HI1 HV1 HK1 v1
    generalize W1.drew = Y1 at *
    go_wp2_with ((with_reducible refine (q1.out _ HI.out).mono ?_); rintro x W2 ⟨rfl, hI1, hK1⟩; replace HV := Lib.hid (HV.out.kept hK1 HS.out); replace HK := Lib.hid (HK.out.on hK1); replace HI := Lib.hid hI1; clear hI1 hK1)
    have v2 : W2.cell? ⟨w.heap.size, 2, none⟩ = some (.func (.func f2) #[] c2) := HV.out.cell 2
    go_still_tail 5, (by kernel_rfl)
    change wpList _ _ _ _ _ W2.drew
    have HI2 := hd.out _ _ HI.out; have HV2 := HV.out.drew; have HK2 := HK.out.drew
    replace HI := Lib.hid HI2; replace HV := Lib.hid HV2; replace HK := Lib.hid HK2
    clear HI2 HV2 HK2 v2
    generalize W2.drew = Y2 at *
    go_wp2_with ((with_reducible refine (q2.out _ HI.out).mono ?_); rintro x W3 ⟨rfl, hI1, hK1⟩; replace HV := Lib.hid (HV.out.kept hK1 HS.out); replace HK := Lib.hid (HK.out.on hK1); replace HI := Lib.hid hI1; clear hI1 hK1)
    have v3 : W3.cell? ⟨w.heap.size, 4, none⟩ = some (.func (.func f4) #[] c4) := HV.out.cell 4
    go_still_tail 5, (by kernel_rfl)
    change wpList _ _ _ _ _ W3.drew
    have HI3 := hd.out _ _ HI.out; have HV3 := HV.out.drew; have HK3 := HK.out.drew
    replace HI := Lib.hid HI3; replace HV := Lib.hid HV3; replace HK := Lib.hid HK3
    clear HI3 HV3 HK3 v3
    generalize W3.drew = Y3 at *
    go_wp2_with ((with_reducible refine (q3.out _ HI.out).mono ?_); rintro x W4 ⟨rfl, hI1, hK1⟩; replace HV := Lib.hid (HV.out.kept hK1 HS.out); replace HK := Lib.hid (HK.out.on hK1); replace HI := Lib.hid hI1; clear hI1 hK1)
    go_end0
    exact ⟨rfl, HI.out, HK.out⟩
  · obtain ⟨n1, n2, n4, n5, n6⟩ := hne
    have hu : usesK kind = [] := by unfold usesK; rw [if_neg n1, if_neg n2, if_neg n4, if_neg n5, if_neg n6]
    rw [hu]
    have e1 : (kind == 1) = false := by simpa using n1
    have e2 : (kind == 2) = false := by simpa using n2
    have e4 : (kind == 4) = false := by simpa using n4
    have e5 : (kind == 5) = false := by simpa using n5
    have e6 : (kind == 6) = false := by simpa using n6
    clear hs0 hs1 hs2 hs3 hs4 hu n1 n2 n4 n5 n6
    go_enter Try.func43, Try.ntmps43
    go_wp2_with fail
    go_end0
    exact ⟨rfl, HI.out, HK.out⟩
end Go.Proofs.Ytpbdgfgjlccapaa.rw
