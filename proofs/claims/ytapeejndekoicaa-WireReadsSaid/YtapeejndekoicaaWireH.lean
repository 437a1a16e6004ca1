/-
  The walks of layer 3: the document writes fields.
-/
import Derived.Test.YtapeejndekoicaaWireG
import Derived.Deep.DeepCutAuto
namespace Go.Proofs.Ytapeejndekoicaa.ww
open Go.RowKit Go.Proofs.Ytapeejndekoicaa.ba Go.Proofs.Ytapeejndekoicaa.dp Go.Proofs.Ytapeejndekoicaa.wp Go.Proofs.Ytapeejndekoicaa.dw
set_option linter.unusedVariables false

/-- What the document writes; or the room is too small. -/
def rwF (room : Int) : List Fld → List Int → Option (List Int)
  | [], out => some out
  | f :: F, out => if room - out.length < (fb f).length then none else rwF room F (out ++ fb f)
def wfold (room : Int) (F : List Fld) (s : List Int × Int) : List Int × Int := F.foldl (fun s f => wput room (fb f) s) s
theorem wfold_snoc (room : Int) (F : List Fld) (f : Fld) (s : List Int × Int) : wfold room (F ++ [f]) s = wput room (fb f) (wfold room F s) := by simp [wfold]
theorem wfold_bad (room : Int) (F : List Fld) (s : List Int × Int) (h : s.2 ≠ 0) : wfold room F s = s := by
  induction F generalizing s with
  | nil => rfl
  | cons f F ih =>
    show wfold room F (wput room (fb f) s) = s
    rw [wput_bad h]
    exact ih s h
theorem wfold_rw (room : Int) (F : List Fld) : ∀ out, (∀ o, rwF room F out = some o → wfold room F (out, 0) = (o, 0)) ∧ (rwF room F out = none → (wfold room F (out, 0)).2 = 2) := by
  induction F with
  | nil => intro out; exact ⟨(fun o h => by cases h; rfl), (fun h => by cases h)⟩
  | cons f F ih =>
    intro out
    have e : wfold room (f :: F) (out, 0) = wfold room F (wput room (fb f) (out, 0)) := rfl
    rw [e, rwF]
    by_cases h : room - out.length < (fb f).length
    · rw [if_pos h, wput_long h, wfold_bad _ _ _ (by simp)]
      exact ⟨(fun o h => by cases h), fun _ => rfl⟩
    · rw [if_neg h, wput_fits h]
      exact ih _
theorem wput_len (room : Int) (bs : List Int) (s : List Int × Int) : (wput room bs s).1.length ≤ s.1.length + bs.length := by
  unfold wput
  split
  · split
    · simp
    · simp
  · omega
theorem wfold_len (room : Int) (F : List Fld) : ∀ s, (∀ f ∈ F, good f) → (wfold room F s).1.length ≤ s.1.length + 210 * F.length := by
  induction F with
  | nil => intro s _; simp [wfold]
  | cons f F ih =>
    intro s h
    have h1 := ih (wput room (fb f) s) (fun f hf => h f (by simp [hf]))
    have h2 := wput_len room (fb f) s
    have h3 := fb_len f (h f (by simp))
    show (wfold room F (wput room (fb f) s)).1.length ≤ _
    rw [List.length_cons]
    omega

/-- What the document's Write leaves. -/
def WroteOk (w w' : World) (r : Option (List Int)) (x : Ending) : Prop :=
  (r = none ∧ x = .returned (.tuple #[.slice none 0 0, .int .i64 2]) ∧ Below w.heap.size w w') ∨ ∃ o a c, r = some o ∧ x = .returned (.tuple #[.slice a o.length c, .int .i64 0]) ∧ Lst .u8 w' a o ∧ Below w.heap.size w w'

set_option maxHeartbeats 2000000 in
theorem rwrite_go (a : Option Addr) (c : Nat) (F : List Fld) (room R : Int) (w : World) (hR : R = if room < 0 then 0 else room) (hr1 : room ≤ 9223372036854775807) (hl : F.length ≤ 1000) (hg : ∀ f ∈ F, good f) (hF : FL w a F) :
    Calls Try.prog 13 #[.slice a F.length c, .int .i64 room] w fun x w' => WroteOk w w' (rwF R F []) x := by
  obtain ⟨i0, hi, hz0, hz1, hz2⟩ := info_parts info5
  have hR0 : 0 ≤ R := by rw [hR]; split <;> omega
  have hR1 : R ≤ 9223372036854775807 := by rw [hR]; split <;> omega
  have HR := Lib.hid hR
  clear hR
  go_enter Try.func13, Try.ntmps13
  go_upto_if 10 with (fail)
  go_cut [1] (fun x wx => x = .int .i64 R ∧ wx = w)
  case first =>
    by_cases hneg : room < 0
    · have e : R = 0 := by rw [HR.out, if_pos hneg]
      have E := Lib.hid e
      clear e
      go_wp2_with fail
      go_meet
      exact ⟨by rw [E.out], rfl⟩
    · have e : R = room := by rw [HR.out, if_neg hneg]
      have hneg' : 0 ≤ room := by omega
      have E := Lib.hid e
      clear e hneg
      go_wp2_with fail
      go_meet
      exact ⟨by rw [E.out], rfl⟩
  case rest =>
    obtain ⟨rfl, rfl⟩ := hcut
    go_wp2_with fail
    go_loopw [6, 7] (fun o i wr => ∃ (k : Nat) (l : List Int), k ≤ F.length ∧ i = .int .i64 k ∧ l.length ≤ 210 * k ∧ Hid (rwF R F [] = rwF R (F.drop k) l) ∧ wr.ownsRow wc.heap.size 5 1 o l.length (l.map (Value.int .u8)) ∧ Below wc.heap.size wc wr) (fun _ i _ => F.length - (intOf i).toNat)
    case atStart => exact ⟨0, [], Nat.zero_le _, rfl, Nat.le_refl _, rfl, World.ownsRow_nil _ _ _ _, Below.refl _ _⟩
    case round =>
      obtain ⟨k, l, hk, rfl, hll, hr, hown, hbel⟩ := hrel
      have hz := hbel.size
      obtain ⟨av, cv, hv, _, _⟩ := own_form hown
      subst hv
      by_cases hlt : k < F.length
      · obtain ⟨f, hf⟩ := some_at F hlt
        have hgf := hg f (List.mem_of_getElem? hf)
        have hfl := fb_len f hgf
        have hdr := drop_at hf
        rcases hF with h0 | ⟨b, off, rfl, hc⟩
        · subst h0; simp at hlt
        obtain ⟨c0, c1, c2⟩ := hc k f hf
        have d0 := bsome hbel c0 (World.block_lt_of_cell? _ _ c0)
        have d1 := bsome hbel c1 (World.block_lt_of_cell? _ _ c1)
        have d2 := bsome hbel c2 (World.block_lt_of_cell? _ _ c2)
        have HB := Lib.hid (rbytes_any f wr hgf)
        have hltI : (k : Int) < (F.length : Int) := by omega
        have hsub : IntKind.i64.wrap (R - (l.length : Int)) = R - (l.length : Int) := IntWalk.i64_in _ ⟨by omega, by omega⟩
        have HO := Lib.hid hown
        clear hc c0 c1 c2 hf hown
        by_cases hfit : R - (l.length : Int) < ((fb f).length : Int)
        · have hs2 : Hid (rwF R F [] = none) := by show _ = _; rw [hr.out, hdr, rwF, if_pos hfit]
          clear hdr
          go_wp2_with ((with_reducible refine HB.out.mono ?_); rintro x W1 ⟨a1, c1, rfl, hL1, hb1⟩)
          go_ret2
          exact .inl ⟨hs2.out, rfl, bthen hbel hb1⟩
        · have hs2 : Hid (rwF R F [] = rwF R (F.drop (k + 1)) (l ++ fb f)) := by show _ = _; rw [hr.out, hdr, rwF, if_neg hfit]
          have hfit' : ((fb f).length : Int) ≤ R - (l.length : Int) := by omega
          clear hdr hfit
          go_wp2_with (first
            | ((with_reducible refine HB.out.mono ?_); rintro x W1 ⟨a1, c1, rfl, hL1, hb1⟩)
            | (at_builtin; refine wpList_append_lst rfl _ _ 30 rfl wc.heap.size 5 .u8 i0 (.int .u8 0) 1 Try.underlying30 hi hz0 hz1 hz2 rfl (.slice av l.length cv) l.length l rfl (own_below HO.out hb1) a1 (fb f).length c1 (fb f) rfl rfl hL1 (by omega) (by omega) (Nat.le_trans hz hb1.size) ?_; intro v3 W3 hown3 hg3))
          go_roundw
          case rel => exact ⟨k + 1, l ++ fb f, by omega, by go_num, by rw [List.length_append]; omega, hs2, by rw [List.length_append]; exact hown3, (bthen hbel hb1).grown hg3 (Nat.le_trans hz hb1.size) (fun j hj => (HO.out.lt j hj).1)⟩
          case measure => simp [intOf]; omega
      · have hkn : k = F.length := by omega
        subst hkn
        have hs2 : Hid (rwF R F [] = some l) := by show _ = _; rw [hr.out, List.drop_eq_nil_of_le (Nat.le_refl _)]; rfl
        have hL := Lst.own hown
        clear hown
        go_wp2_with fail
        go_ret2
        exact .inr ⟨l, av, cv, hs2.out, rfl, hL, hbel⟩
end Go.Proofs.Ytapeejndekoicaa.ww
