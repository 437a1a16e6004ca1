/-
  The walks of layer 3: a writer takes a field's bytes.
-/
import Derived.Test.YtaekpejpcafnkaaMc
import Derived.Test.YtaekpejpcafnkaaMa
import Derived.Test.YtaekpejpcafnkaaMb
namespace Go.Proofs.Ytaekpejpcafnkaa.ww
open Go.RowKit Go.Proofs.Ytaekpejpcafnkaa.ba Go.Proofs.Ytaekpejpcafnkaa.dp Go.Proofs.Ytaekpejpcafnkaa.wp Go.Proofs.Ytaekpejpcafnkaa.dw
set_option maxRecDepth 8000
set_option linter.unusedVariables false

/-- A writer: its block, its bytes' own block, what is written, the first error, the room. -/
def Wr (w : World) (g : Nat) (q : Option Nat) (l : List Int) (e room : Int) : Prop :=
  ∃ v, Blk w g 104 #[v, .int .i64 e, .int .i64 room] ∧ w.ownsRow 0 5 1 v l.length (l.map (Value.int .u8)) ∧ v.ownBlock = q
/-- What a writer's method leaves. -/
def WrDone (w w' : World) (g : Nat) (q : Option Nat) (s : List Int × Int) (room : Int) (x : Ending) : Prop :=
  x = .returned (.pointer (some ⟨g, 0, none⟩)) ∧ ∃ q', Wr w' g q' s.1 s.2 room ∧ Kept (fun j => j = g ∨ q = some j) w w' ∧ (q' = q ∨ ∃ k, q' = some k ∧ w.heap.size ≤ k)
/-- A field's bytes, in new memory. -/
def Made (w w' : World) (bs : List Int) (x : Ending) : Prop := ∃ a c, x = .returned (.slice a bs.length c) ∧ Lst .u8 w' a bs ∧ Below w.heap.size w w'

theorem meet_zero (g : Nat) (n : Int) (w : World) (c1 : w.cell? ⟨g, 1, none⟩ = some (.int .i64 0)) (f1 : w.frozen? ⟨g, 1, none⟩ = false) :
    Calls Try.prog 67 #[.pointer (some ⟨g, 0, none⟩), .int .i64 n] w fun x w' => x = .returned (.tuple #[]) ∧ w.setCell ⟨g, 1, none⟩ (.int .i64 n) = w' := by
  go_enter Try.func67, Try.ntmps67
  go_wp2_with fail
  go_end0
  exact ⟨rfl, rfl⟩
theorem meet_non (g : Nat) (n e : Int) (w : World) (c1 : w.cell? ⟨g, 1, none⟩ = some (.int .i64 e)) (he : (e == 0) = false) :
    Calls Try.prog 67 #[.pointer (some ⟨g, 0, none⟩), .int .i64 n] w fun x w' => x = .returned (.tuple #[]) ∧ w = w' := by
  go_enter Try.func67, Try.ntmps67
  go_wp2_with fail
  go_end0
  exact ⟨rfl, rfl⟩

set_option maxHeartbeats 1000000 in
theorem field_any (fn : Nat) (caps : Array Value) (g : Nat) (q : Option Nat) (l bs : List Int) (e room : Int) (w : World) (hW : Wr w g q l e room) (hl : l.length ≤ 1000000) (hb : bs.length ≤ 1000000) (hr0 : 0 ≤ room) (hr1 : room ≤ 9223372036854775807)
    (hcf : ∀ w, (callFunc fn caps).run Try.prog w = .ok (.enter fn caps) w) (hmk : e = 0 → Calls Try.prog fn caps w fun x w' => Made w w' bs x) :
    Calls Try.prog 56 #[.pointer (some ⟨g, 0, none⟩), .func (.func fn) #[] caps] w fun x w' => WrDone w w' g q (wput room bs (l, e)) room x := by
  obtain ⟨i0, hi, hz0, hz1, hz2⟩ := info_parts info5
  obtain ⟨v, hB, hown, hq⟩ := hW
  obtain ⟨av, cv, hv, _, _⟩ := own_form hown
  subst hv
  have c0 : w.cell? ⟨g, 0, none⟩ = some (.slice av l.length cv) := hB.cell 0
  have c1 : w.cell? ⟨g, 1, none⟩ = some (.int .i64 e) := hB.cell 1
  have c2 : w.cell? ⟨g, 2, none⟩ = some (.int .i64 room) := hB.cell 2
  have Hq := Lib.hid hq
  clear hq
  by_cases he : e = 0
  · subst he
    have HM := Lib.hid (hmk rfl)
    clear hmk
    go_enter Try.func56, Try.ntmps56
    have hsub : IntKind.i64.wrap (room - (l.length : Int)) = room - (l.length : Int) := IntWalk.i64_in _ ⟨by omega, by omega⟩
    have lg := hB.lt
    by_cases hf : room - (l.length : Int) < (bs.length : Int)
    · have hs : Hid (wput room bs (l, 0) = (l, 2)) := wput_long hf
      go_wp2_with ((with_reducible refine HM.out.mono ?_); rintro x W1 ⟨a1, cc1, rfl, hL1, hb1⟩; have d0 := bsome hb1 c0 lg; have d1 := bsome hb1 c1 lg; have d2 := bsome hb1 c2 lg)
      have hB1 := hB.below hb1
      go_quiet (fail)
      go_wp2_with (go_at_call 67; refine (meet_zero g 2 _ (by exact d1) (by exact hB1.frozen 1)).mono ?_; rintro x W2 ⟨rfl, rfl⟩)
      go_ret
      rw [hs.out]
      have o1 := own_below hown hb1
      have o2 : (W1.drewN nq).ownsRow 0 5 1 (.slice av l.length cv) l.length (l.map (Value.int .u8)) := o1
      have hk : Kept (fun j => j = g) (W1.drewN nq) ((W1.drewN nq).setCell ⟨g, 1, none⟩ (.int .i64 2)) := Kept.of_set _ rfl
      refine ⟨rfl, q, ⟨_, (hB1.drewN nq).set_ 1 (.int .i64 2), hk.own o2 (fun j hj e => ?_), Hq.out⟩, ((Kept.of_below hb1).trans (Kept.of_drewN nq) (fun _ _ h => h)).trans hk (fun j _ h => .inl h), .inl rfl⟩
      subst e
      rcases own_ne o2 hB1 (by simp) with h | h
      · rw [h] at hj; cases hj
      · exact h hj
    · have hs : Hid (wput room bs (l, 0) = (l ++ bs, 0)) := wput_fits hf
      have hf' : (bs.length : Int) ≤ room - (l.length : Int) := by omega
      clear hf
      go_wp2_with ((with_reducible refine HM.out.mono ?_); rintro x W1 ⟨a1, cc1, rfl, hL1, hb1⟩; have d0 := bsome hb1 c0 lg; have d1 := bsome hb1 c1 lg; have d2 := bsome hb1 c2 lg)
      have hB1 := hB.below hb1
      go_quiet (fail)
      have o1 := own_below hown hb1
      have o2 : (W1.drewN nq).ownsRow 0 5 1 (.slice av l.length cv) l.length (l.map (Value.int .u8)) := o1
      have hL2 : Lst .u8 (W1.drewN nq) a1 bs := hL1
      have hne := own_ne o2 hB1 (by simp)
      have HO := Lib.hid o2; have HL := Lib.hid hL2; have HB := Lib.hid hB1; have HN := Lib.hid hne
      clear o1 o2 hL1 hL2 hB1 hne
      go_wp2_with (at_builtin; go_loud ((refine wpList_append_lst_at rfl _ _ 22 rfl 0 5 .u8 i0 (.int .u8 0) 1 Try.underlying22 hi hz0 hz1 hz2 rfl (.slice av l.length cv) l.length l rfl HO.out a1 bs.length cc1 bs rfl rfl HL.out (by omega) (by omega) (Nat.zero_le _) ?_; intro v3 W3 hown3 hg3 hat3; obtain ⟨a3, c3, hv3, _, _⟩ := own_form hown3; subst hv3; have hB3 := Blk.grown (HB.out.drewN nq) hg3 HN.out; have e0 : W3.cell? ⟨g, 0, none⟩ = some (.slice av l.length cv) := hB3.cell 0; have f0 := hB3.frozen 0)))
      go_ret
      rw [hs.out]
      have hk : Kept (fun j => j = g) W3 (W3.setCell ⟨g, 0, none⟩ (.slice a3 (l.length + bs.length) c3)) := Kept.of_set _ rfl
      refine ⟨rfl, _, ⟨_, hB3.set_ 0 _, hk.own (by rw [List.length_append]; exact hown3) (fun j hj e => ?_), rfl⟩, ?_, ?_⟩
      · subst e
        rcases own_ne hown3 hB3 (by simp) with h | h
        · rw [h] at hj; cases hj
        · exact h hj
      · exact (((Kept.of_below hb1).trans (Kept.of_drewN nq) (fun _ _ h => h)).trans (Kept.of_grown (S := fun j => j = g ∨ q = some j) hg3 (fun j hj => .inr (by rw [← Hq.out]; exact hj))) (fun _ _ h => h)).trans hk (fun j _ h => .inl h)
      · rcases hat3 with h | h
        · exact .inl (h.trans Hq.out)
        · exact .inr ⟨_, h, hb1.size⟩
  · have he' : (e == 0) = false := by simpa using he
    have hs : wput room bs (l, e) = (l, e) := wput_bad he
    rw [hs]
    clear he hs hmk
    go_enter Try.func56, Try.ntmps56
    go_wp2_with fail
    go_ret
    exact ⟨rfl, q, ⟨_, hB, hown, Hq.out⟩, Kept.refl _ _, .inl rfl⟩
theorem cf_byte (caps : Array Value) (w : World) : (callFunc 57 caps).run Try.prog w = .ok (.enter 57 caps) w := by kernel_rfl
end Go.Proofs.Ytaekpejpcafnkaa.ww
