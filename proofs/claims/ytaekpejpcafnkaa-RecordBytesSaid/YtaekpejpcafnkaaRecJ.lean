/-
  The walks of layer 10: the first record of bytes.
-/
import Derived.Test.YtaekpejpcafnkaaRecI
import Derived.Deep.RegionHeld3
import Derived.StillTailTactics
namespace Go.Proofs.Ytaekpejpcafnkaa.rw
open Go.RowKit Go.Proofs.Ytaekpejpcafnkaa.ba Go.Proofs.Ytaekpejpcafnkaa.rp Go.Proofs.Ytaekpejpcafnkaa.dp Go.Proofs.Ytaekpejpcafnkaa.dw Go.Proofs.Ytaekpejpcafnkaa.wp Go.Proofs.Ytaekpejpcafnkaa.ww
set_option maxRecDepth 8000
set_option linter.unusedVariables false
attribute [local go_sem ↓] Go.wp_at_zero Go.wp_at_succ

theorem cf_r1 (caps : Array Value) (w : World) : (callFunc 25 caps).run Try.prog w = .ok (.enter 25 caps) w := by kernel_rfl
theorem cf_r2 (caps : Array Value) (w : World) : (callFunc 26 caps).run Try.prog w = .ok (.enter 26 caps) w := by kernel_rfl
theorem cf_r3 (caps : Array Value) (w : World) : (callFunc 27 caps).run Try.prog w = .ok (.enter 27 caps) w := by kernel_rfl
theorem cf_r4 (caps : Array Value) (w : World) : (callFunc 29 caps).run Try.prog w = .ok (.enter 29 caps) w := by kernel_rfl
theorem cf_r5 (caps : Array Value) (w : World) : (callFunc 30 caps).run Try.prog w = .ok (.enter 30 caps) w := by kernel_rfl

/-- A reading call's own: the result, the reader's variable, the reader. -/
structure RA (w W : World) (gv gi : Nat) (l : List Int) (e : Int) : Prop where
  z : Blk W w.heap.size 30 (cellsOf zR)
  v : Blk W gv 59 #[.pointer (some ⟨gi, 0, none⟩)]
  rd : Rd (w.heap.size + 1) W gi l e
  b : Below w.heap.size w W
  lv : w.heap.size < gv
  li : w.heap.size < gi

section
variable {w W W2 : World} {gv gi : Nat} {l l1 : List Int} {e e1 k : Int}
theorem RA.below (h : RA w W gv gi l e) (hb : Below W.heap.size W W2) : RA w W2 gv gi l e := ⟨h.z.below hb, h.v.below hb, h.rd.below hb, bthen h.b hb, h.lv, h.li⟩
theorem RA.drew (h : RA w W gv gi l e) : RA w W.drew gv gi l e := h.below ⟨rfl, rfl, rfl, Nat.le_refl _, fun _ _ => rfl⟩
theorem RA.ne (h : RA w W gv gi l e) : gv ≠ gi := by
  obtain ⟨cs, hg⟩ := Rd.blk h.rd
  exact blk_ne h.v hg (by decide)
theorem RA.read (h : RA w W gv gi l e) (hD : RdDone (w.heap.size + 1) W W2 gi l1 e1) : RA w W2 gv gi l1 e1 :=
  ⟨h.z.kept hD.2 (by have := h.li; omega), h.v.kept hD.2 h.ne, hD.1, hD.2.below h.b (fun j hj => by have := h.li; omega), h.lv, h.li⟩
theorem ra_new (a : Option Addr) (n c : Nat) (w : World) (hn : l.length = n) (hl : n ≤ 1000000) (hL : Lst .u8 w a l) (hna : a = none → l = []) (hB : Bytes l) :
    Calls Try.prog 21 #[.slice a n c] (w.alloc (.cells (cellsOf zR) 30)) fun x w' => ∃ gi, x = .returned (.pointer (some ⟨gi, 0, none⟩)) ∧ RA w (w'.alloc (.cells #[.pointer (some ⟨gi, 0, none⟩)] 59)) w'.heap.size gi l 0 :=
  (newr_any a n c l _ hn hl (hL.below (box_below w _)) hna hB).mono fun x w' ⟨gi, hx, h1, h2, h3⟩ => ⟨gi, hx, by
    have ez : (w.alloc (.cells (cellsOf zR) 30)).heap.size = w.heap.size + 1 := by simp
    have hz := h2.size
    rw [ez] at h1 h3 hz
    exact ⟨((Blk.new w _ _).below h2).alloc _, Blk.new _ _ _, h3.below (box_below _ _), bthen (bthen (box_below w _) h2) (box_below _ _), by omega, by omega⟩⟩
theorem ra_byte (h : RA w W gv gi l 0) (ht : tkF 0 (fixF 1 l) l 0 = (k, l1, e1)) :
    Calls Try.prog 22 #[.pointer (some ⟨gi, 0, none⟩)] W fun x w' => x = .returned (.int .u8 k) ∧ RA w w' gv gi l1 e1 ∧ w'.cell? ⟨gv, 0, none⟩ = some (.pointer (some ⟨gi, 0, none⟩)) :=
  (rbyte_any gi l 0 W h.rd).mono fun x w' ⟨hx, hD⟩ => by
    rw [ht] at hx hD
    have := h.read hD
    exact ⟨hx, this, this.v.cell 0⟩
theorem ra_err (h : RA w W gv gi l e) (W2 : World) (hb : Below W.heap.size W W2) : Calls Try.prog 23 #[.pointer (some ⟨gi, 0, none⟩)] W2 fun x w' => x = .returned (.int .i64 e) ∧ W2 = w' := err_any gi l e W2 (h.rd.below hb)
/-- Behind the fields. -/
structure RZ (w W : World) (gv gi gr go : Nat) (s : St) : Prop where
  a : RA w W gv gi s.l s.e
  r : Blk W gr 30 (cellsOf s.r)
  o : Blk W go 4 #[.bool s.o]
  ok : s.r.ok
theorem RZ.below {gr go : Nat} {s : St} (h : RZ w W gv gi gr go s) (hb : Below W.heap.size W W2) : RZ w W2 gv gi gr go s := ⟨h.a.below hb, h.r.below hb, h.o.below hb, h.ok⟩
theorem kR_ok (k : Int) (h1 : 1 ≤ k) (h6 : k ≤ 6) : (kR k).ok := by
  exact ⟨⟨by show 0 ≤ k; omega, by show k ≤ 255; omega⟩, by simp [kR], by simp [kR], by simp [kR], by simp [kR], by simp [kR], by simp [kR], Nat.zero_le _⟩
theorem ra_visit (h : RA w W gv gi l 0) (h1 : 1 ≤ k) (h6 : k ≤ 6) :
    Calls Try.prog 24 #[.pointer (some ⟨W.heap.size, 0, none⟩), .agg #[.func (.func 25) #[] #[.pointer (some ⟨gv, 0, none⟩)], .func (.func 26) #[] #[.pointer (some ⟨gv, 0, none⟩), .pointer (some ⟨W.heap.size + 1, 0, none⟩)], .func (.func 27) #[] #[.pointer (some ⟨gv, 0, none⟩)], .func (.func 29) #[] #[.pointer (some ⟨gv, 0, none⟩)], .func (.func 30) #[] #[.pointer (some ⟨gv, 0, none⟩)]]]
      ((W.alloc (.cells (cellsOf (kR k)) 30)).alloc (.cells #[.bool false] 4)) fun x w' => x = .returned (.tuple #[]) ∧ RZ w w' gv gi W.heap.size (W.heap.size + 1) (fieldsF k l) := by
  have b0 : Blk ((W.alloc (.cells (cellsOf (kR k)) 30)).alloc (.cells #[.bool false] 4)) W.heap.size 30 (cellsOf (kR k)) := (Blk.new W _ _).alloc _
  have b1 : Blk ((W.alloc (.cells (cellsOf (kR k)) 30)).alloc (.cells #[.bool false] 4)) (W.heap.size + 1) 4 #[.bool false] := by
    have := Blk.new (W.alloc (.cells (cellsOf (kR k)) 30)) 4 #[.bool false]
    simpa using this
  have hA := h.below (bthen (box_below W (.cells (cellsOf (kR k)) 30)) (box_below _ (.cells #[.bool false] 4)))
  have hlt := h.z.lt
  generalize hW3 : ((W.alloc (.cells (cellsOf (kR k)) 30)).alloc (.cells #[.bool false] 4)) = W3 at *
  have hz3 : W3.heap.size = W.heap.size + 2 := by rw [← hW3]; simp
  obtain ⟨cs, hg⟩ := Rd.blk hA.rd
  refine (visit_any k W.heap.size 25 26 27 29 30 #[.pointer (some ⟨gv, 0, none⟩)] #[.pointer (some ⟨gv, 0, none⟩), .pointer (some ⟨W.heap.size + 1, 0, none⟩)] #[.pointer (some ⟨gv, 0, none⟩)] #[.pointer (some ⟨gv, 0, none⟩)] #[.pointer (some ⟨gv, 0, none⟩)]
    (RS W.heap.size (W.heap.size + 1) gi) (RI (w.heap.size + 1) W.heap.size gv (W.heap.size + 1) gi W3.heap.size #[.func (.func 25) #[] #[.pointer (some ⟨gv, 0, none⟩)], .func (.func 26) #[] #[.pointer (some ⟨gv, 0, none⟩), .pointer (some ⟨W.heap.size + 1, 0, none⟩)], .func (.func 27) #[] #[.pointer (some ⟨gv, 0, none⟩)], .func (.func 29) #[] #[.pointer (some ⟨gv, 0, none⟩)], .func (.func 30) #[] #[.pointer (some ⟨gv, 0, none⟩)]] k ⟨kR k, l, 0, false⟩) W3 (by omega) (by omega)
    ⟨b0.alloc _, hA.v.alloc _, b1.alloc _, Blk.new W3 _ _, hA.rd.below (box_below W3 _), kR_ok k h1 h6⟩ (fun j X hI => hI.drew) (fun he => by have := hg.lt; rcases he with (he | he) | he <;> omega) (b0.cell 0) cf_r1 cf_r2 cf_r3 cf_r4 cf_r5
    (fun j off hu X hI => rb1_any off hI hu)
    (fun j off hu X hI => by
      obtain rfl : off = 5 := by have := uses_off _ _ _ _ hu; omega
      exact rb2_any hI hu)
    (fun j off hu X hI => by
      obtain rfl : off = 6 := by have := uses_off _ _ _ _ hu; omega
      exact rb3_any hI hu)
    (fun j off hu X hI => by
      obtain rfl : off = 7 := by have := uses_off _ _ _ _ hu; omega
      exact rb4_any hI hu)
    (fun j off hu X hI => by
      obtain rfl : off = 8 := by have := uses_off _ _ _ _ hu; omega
      exact rb5_any hI hu)).mono fun x w' ⟨hx, ⟨i1, i2, i3, i4, i5, i6⟩, hK⟩ => ⟨hx, ⟨hA.z.kept hK ?_, i2, i5, hK.below hA.b ?_, h.lv, h.li⟩, i1, i3, i6⟩
  · rintro ((he | he) | he)
    · omega
    · omega
    · have := h.li; omega
  · rintro j ((he | he) | he)
    · omega
    · omega
    · have := h.li; omega
end
end Go.Proofs.Ytaekpejpcafnkaa.rw
