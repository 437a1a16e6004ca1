/-
  The walks of layer 3: a reader.
-/
import Derived.Test.YtaekpejpcafnkaaWireI
import Derived.Test.YtaekpejpcafnkaaWireD
namespace Go.Proofs.Ytaekpejpcafnkaa.ww
open Go.RowKit Go.Proofs.Ytaekpejpcafnkaa.ba Go.Proofs.Ytaekpejpcafnkaa.dp Go.Proofs.Ytaekpejpcafnkaa.wp Go.Proofs.Ytaekpejpcafnkaa.dw
set_option maxRecDepth 8000
set_option linter.unusedVariables false

/-- A reader: its block, the bytes that are left, the first error. -/
def Rd (B : Nat) (w : World) (g : Nat) (l : List Int) (e : Int) : Prop :=
  ∃ a c, Blk w g 97 #[.slice a l.length c, .int .i64 e] ∧ l.length ≤ c ∧ c ≤ maxLen ∧ Lst .u8 w a l ∧ (∀ p, a = some p → (B ≤ p.block ∧ p.block ≠ g) ∧ ∃ cur, Blk w p.block 5 cur) ∧ Bytes l
/-- What take leaves. -/
def Took (w w' : World) (g h2 : Nat) (t : TypeId) (a : Option Addr) (c : Nat) (z v : Value) (l l' : List Int) (er : Int) (x : Ending) : Prop :=
  (∃ b, x = .returned (.bool b)) ∧ ∃ a' c', Blk w' g 97 #[.slice a' l'.length c', .int .i64 er] ∧ Blk w' h2 t #[v] ∧ Kept (fun j => j = g ∨ j = h2) w w' ∧ l'.length ≤ c' ∧ c' ≤ c ∧ (∀ W, Lst .u8 W a l → Lst .u8 W a' l') ∧ (∀ x, a' = some x → ∃ y, a = some y ∧ x.block = y.block)

set_option maxHeartbeats 2000000 in
theorem take_ok (fn h1 h2 g : Nat) (a : Option Addr) (c : Nat) (l : List Int) (w : World) (t : TypeId) (z v : Value) (k : Nat) (hB : Blk w g 97 #[.slice a l.length c, .int .i64 0]) (hcf : ∀ caps w, (callFunc fn caps).run Try.prog w = .ok (.enter fn caps) w)
    (hlc : l.length ≤ c) (hcm : c ≤ maxLen) (hk : k ≤ l.length) (hne : g ≠ h2)
    (hfind : Calls Try.prog fn #[.slice a l.length c, .pointer (some ⟨h1, 0, none⟩), .pointer (some ⟨h2, 0, none⟩)] w fun x w' => Found w w' h2 t v k 0 x) :
    Calls Try.prog 52 #[.pointer (some ⟨g, 0, none⟩), .func (.func fn) #[] #[.pointer (some ⟨h1, 0, none⟩), .pointer (some ⟨h2, 0, none⟩)]] w fun x w' => Took w w' g h2 t a c z v l (l.drop k) 0 x := by
  obtain ⟨i0, hi, hz0, hz1, hz2⟩ := info_parts info5
  obtain ⟨a', n', c', hsl, hn', hnc, hcc, hcut, hblk⟩ := run_cut_from (P := Try.prog) 22 5 Try.underlying22 i0 hi hz1 a l.length c k hk hlc
  have c0 : w.cell? ⟨g, 0, none⟩ = some (.slice a l.length c) := hB.cell 0
  have c1 : w.cell? ⟨g, 1, none⟩ = some (.int .i64 0) := hB.cell 1
  have HF := Lib.hid hfind
  have HB := Lib.hid hB
  have hn2 : Hid (n' = (l.drop k).length) := by show _ = _; rw [hn', List.length_drop]
  have fin : ∀ W W', Kept (fun j => j = h2) w W → Blk W h2 t #[v] → Blk W g 97 #[.slice a l.length c, .int .i64 0] → W' = W.setCell ⟨g, 0, none⟩ (.slice a' n' c') → Took w W' g h2 t a c z v l (l.drop k) 0 (.returned (.bool true)) := by
    intro W W' hk1 hb2 hbg hW'
    subst hW'
    refine ⟨⟨true, rfl⟩, a', c', by rw [← hn2.out]; exact hbg.set_ 0 _, hb2.far (p := ⟨g, 0, none⟩) (fun e => hne e.symm) _, (hk1.mono (fun j _ h => .inr h)).on (Kept.of_set _ (.inl rfl)), by rw [← hn2.out]; exact hnc, hcc, fun W0 hL => hcut .u8 W0 l rfl hL, hblk⟩
  have Fin := Lib.hid fin
  clear fin hfind hB hcut hblk hnc hcc hn'
  go_enter Try.func52, Try.ntmps52
  go_wp2_with ((with_reducible refine HF.out.mono ?_); rintro x W1 ⟨rfl, hb2, hk1⟩; have hB1 := HB.out.kept hk1 hne; have d0 : W1.cell? ⟨g, 0, none⟩ = some (.slice a l.length c) := hB1.cell 0; have f0 := hB1.frozen 0; have HX := Lib.hid (And.intro hk1 (And.intro hb2 hB1)); clear hk1 hb2 hB1)
  go_ret
  exact Fin.out _ _ HX.out.1 HX.out.2.1 HX.out.2.2 rfl

set_option maxHeartbeats 2000000 in
theorem take_err (fn h1 h2 g : Nat) (a : Option Addr) (c : Nat) (l : List Int) (w : World) (t : TypeId) (z v : Value) (k er : Int) (hB : Blk w g 97 #[.slice a l.length c, .int .i64 0]) (hcf : ∀ caps w, (callFunc fn caps).run Try.prog w = .ok (.enter fn caps) w)
    (hlc : l.length ≤ c) (her : er ≠ 0) (hne : g ≠ h2)
    (hfind : Calls Try.prog fn #[.slice a l.length c, .pointer (some ⟨h1, 0, none⟩), .pointer (some ⟨h2, 0, none⟩)] w fun x w' => Found w w' h2 t v k er x) :
    Calls Try.prog 52 #[.pointer (some ⟨g, 0, none⟩), .func (.func fn) #[] #[.pointer (some ⟨h1, 0, none⟩), .pointer (some ⟨h2, 0, none⟩)]] w fun x w' => Took w w' g h2 t a c z v l l er x := by
  have c0 : w.cell? ⟨g, 0, none⟩ = some (.slice a l.length c) := hB.cell 0
  have c1 : w.cell? ⟨g, 1, none⟩ = some (.int .i64 0) := hB.cell 1
  have HF := Lib.hid hfind
  have HB := Lib.hid hB
  have her' : (er == 0) = false := by simpa using her
  have fin : ∀ W W', Kept (fun j => j = h2) w W → Blk W h2 t #[v] → Blk W g 97 #[.slice a l.length c, .int .i64 0] → W' = W.setCell ⟨g, 1, none⟩ (.int .i64 er) → Took w W' g h2 t a c z v l l er (.returned (.bool false)) := by
    intro W W' hk1 hb2 hbg hW'
    subst hW'
    exact ⟨⟨false, rfl⟩, a, c, hbg.set_ 1 _, hb2.far (p := ⟨g, 1, none⟩) (fun e => hne e.symm) _, (hk1.mono (fun j _ h => .inr h)).on (Kept.of_set _ (.inl rfl)), hlc, Nat.le_refl _, fun W0 hL => hL, fun x hx => ⟨x, hx, rfl⟩⟩
  have Fin := Lib.hid fin
  clear fin hfind hB her
  go_enter Try.func52, Try.ntmps52
  go_wp2_with (first
    | (go_at_call 67; ((with_reducible refine (meet_zero g er _ d1 f1).mono ?_); rintro x W2 ⟨rfl, rfl⟩))
    | ((with_reducible refine HF.out.mono ?_); rintro x W1 ⟨rfl, hb2, hk1⟩; have hB1 := HB.out.kept hk1 hne; have d0 : W1.cell? ⟨g, 0, none⟩ = some (.slice a l.length c) := hB1.cell 0; have d1 : W1.cell? ⟨g, 1, none⟩ = some (.int .i64 0) := hB1.cell 1; have f1 := hB1.frozen 1; have HX := Lib.hid (And.intro hk1 (And.intro hb2 hB1)); clear hk1 hb2 hB1))
  go_ret
  exact Fin.out _ _ HX.out.1 HX.out.2.1 HX.out.2.2 rfl

theorem take_bad (f : Value) (g : Nat) (e : Int) (w : World) (he : (e == 0) = false) (c1 : w.cell? ⟨g, 1, none⟩ = some (.int .i64 e)) :
    Calls Try.prog 52 #[.pointer (some ⟨g, 0, none⟩), f] w fun x w' => (∃ b, x = .returned (.bool b)) ∧ w = w' := by
  go_enter Try.func52, Try.ntmps52
  go_wp2_with fail
  go_ret
  exact ⟨⟨_, rfl⟩, rfl⟩
theorem take_nil (f : Value) (w : World) : Calls Try.prog 52 #[.pointer none, f] w fun x w' => (∃ b, x = .returned (.bool b)) ∧ w = w' := by
  go_enter Try.func52, Try.ntmps52
  go_wp2_with fail
  go_ret
  exact ⟨⟨_, rfl⟩, rfl⟩
end Go.Proofs.Ytaekpejpcafnkaa.ww
