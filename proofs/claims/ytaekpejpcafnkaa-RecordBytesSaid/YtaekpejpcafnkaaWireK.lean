/-
  The walks of layer 3: a reader's methods.
-/
import Derived.Test.YtaekpejpcafnkaaWireJ
namespace Go.Proofs.Ytaekpejpcafnkaa.ww
open Go.RowKit Go.Proofs.Ytaekpejpcafnkaa.ba Go.Proofs.Ytaekpejpcafnkaa.dp Go.Proofs.Ytaekpejpcafnkaa.wp Go.Proofs.Ytaekpejpcafnkaa.dw
set_option maxRecDepth 8000
set_option linter.unusedVariables false
variable {B : Nat}

theorem cf_fixed (caps : Array Value) (w : World) : (callFunc 66 caps).run Try.prog w = .ok (.enter 66 caps) w := by kernel_rfl
theorem cf_rnumber (caps : Array Value) (w : World) : (callFunc 53 caps).run Try.prog w = .ok (.enter 53 caps) w := by kernel_rfl
theorem cf_rtext (caps : Array Value) (w : World) : (callFunc 55 caps).run Try.prog w = .ok (.enter 55 caps) w := by kernel_rfl

theorem Rd.kept {S : Nat → Prop} {w w' : World} {g : Nat} {l : List Int} {e : Int} (h : Rd B w g l e) (hk : Kept S w w') (hg : ¬ S g) (hu : ∀ j cur, S j → ¬ Blk w j 5 cur) : Rd B w' g l e := by
  obtain ⟨a, c, hB, h1, h2, h3, h4, h5⟩ := h
  have hn : ∀ p, a = some p → ¬ S p.block := fun p hp hS => by
    obtain ⟨_, cur, hc⟩ := h4 p hp
    exact hu _ _ hS hc
  exact ⟨a, c, hB.kept hk hg, h1, h2, h3.kept hk hn, fun p hp => ⟨(h4 p hp).1, by obtain ⟨_, cur, hc⟩ := h4 p hp; exact ⟨cur, hc.kept hk (hn p hp)⟩⟩, h5⟩
theorem Rd.below {w w' : World} {g : Nat} {l : List Int} {e : Int} (h : Rd B w g l e) (hb : Below w.heap.size w w') : Rd B w' g l e := h.kept (S := fun _ => False) (Kept.of_below hb) (by simp) (by simp)

theorem Rd.base {B' : Nat} {w : World} {g : Nat} {l : List Int} {e : Int} (h : Rd B w g l e) (hb : B' ≤ B) : Rd B' w g l e := by
  obtain ⟨a, c, hB, h1, h2, h3, h4, h5⟩ := h
  exact ⟨a, c, hB, h1, h2, h3, fun p hp => ⟨⟨Nat.le_trans hb (h4 p hp).1.1, (h4 p hp).1.2⟩, (h4 p hp).2⟩, h5⟩
/-- The world of a method that looks for a field: what is asked, and what is found. -/
def two (w : World) (p z : Value) (t1 t : TypeId) : World := (w.alloc (.cells #[p] t1)).alloc (.cells #[z] t)
theorem two_below (w : World) (p z : Value) (t1 t : TypeId) : Below w.heap.size w (two w p z t1 t) := bthen (box_below w _) (box_below _ _)
theorem two_one (w : World) (p z : Value) (t1 t : TypeId) : (two w p z t1 t).cell? ⟨w.heap.size, 0, none⟩ = some p := ((Blk.new w t1 #[p]).alloc (.cells #[z] t)).cell 0
theorem two_blk (w : World) (p z : Value) (t1 t : TypeId) : Blk (two w p z t1 t) (w.heap.size + 1) t #[z] := by
  have := Blk.new (w.alloc (.cells #[p] t1)) t #[z]
  simpa [two] using this

theorem rd_take (fn g : Nat) (l : List Int) (e : Int) (w : World) (p z v : Value) (t1 t : TypeId) (k er : Int) (hW : Rd B w g l e) (hcf : ∀ caps w, (callFunc fn caps).run Try.prog w = .ok (.enter fn caps) w)
    (hk : 0 ≤ k ∧ k ≤ l.length) (hk0 : er ≠ 0 → k = 0)
    (hfind : e = 0 → ∀ a c, l.length ≤ c → c ≤ maxLen → Lst .u8 (two w p z t1 t) a l → (∀ x, a = some x → x.block ≠ w.heap.size + 1) → Calls Try.prog fn #[.slice a l.length c, .pointer (some ⟨w.heap.size, 0, none⟩), .pointer (some ⟨w.heap.size + 1, 0, none⟩)] (two w p z t1 t) fun x w' => Found (two w p z t1 t) w' (w.heap.size + 1) t v k er x) :
    Calls Try.prog 52 #[.pointer (some ⟨g, 0, none⟩), .func (.func fn) #[] #[.pointer (some ⟨w.heap.size, 0, none⟩), .pointer (some ⟨w.heap.size + 1, 0, none⟩)]] (two w p z t1 t) fun x w' =>
      (∃ b, x = .returned (.bool b)) ∧ Blk w' (w.heap.size + 1) t #[if e = 0 then v else z] ∧ Rd B w' g (if e = 0 then l.drop k.toNat else l) (if e = 0 then er else e) ∧ Kept (fun j => j = g) w w' := by
  have hb := two_below w p z t1 t
  obtain ⟨a, c, hB, h1, h2, h3, h4, h5⟩ := hW
  have hB2 := hB.below hb
  have hL2 := h3.below hb
  have hg := hB.lt
  have hne : g ≠ w.heap.size + 1 := by omega
  have hfar : ∀ x, a = some x → x.block ≠ w.heap.size + 1 := fun x hx => by obtain ⟨_, cur, hc⟩ := h4 x hx; have := hc.lt; omega
  have hz2 := two_blk w p z t1 t
  by_cases he : e = 0
  · subst he
    have after : ∀ w' l' x, (∀ u ∈ l', u ∈ l) → Took (two w p z t1 t) w' g (w.heap.size + 1) t a c z v l l' er x → (∃ b, x = .returned (.bool b)) ∧ Blk w' (w.heap.size + 1) t #[v] ∧ Rd B w' g l' er ∧ Kept (fun j => j = g) w w' := by
      intro w' l' x hsub ⟨hx, a', c', k1, k2, k3, k4, k5, k6, k7⟩
      refine ⟨hx, k2, ⟨a', c', k1, k4, Nat.le_trans k5 h2, (k6 _ hL2).kept k3 (fun q hq => ?_), fun q hq => ?_, fun u hu => h5 u (hsub u hu)⟩, (Kept.of_below (S := fun j => j = g) hb).trans k3 (fun j hj h => ?_)⟩
      · obtain ⟨y, hy, e⟩ := k7 q hq
        have := h4 y hy
        obtain ⟨⟨_, t1'⟩, cur, hc⟩ := this
        rintro (h | h)
        · exact t1' (e ▸ h)
        · have := hc.lt; omega
      · obtain ⟨y, hy, e⟩ := k7 q hq
        have := h4 y hy
        obtain ⟨⟨t0', t1'⟩, cur, hc⟩ := this
        have hlt := hc.lt
        exact ⟨⟨by rw [e]; exact t0', fun h => t1' (e ▸ h)⟩, cur, by rw [e]; exact (hc.below hb).kept k3 (fun h => by rcases h with h | h; exact t1' h; omega)⟩
      · rcases h with h | h
        · exact h
        · omega
    have hf := hfind rfl a c h1 h2 hL2 hfar
    rw [if_pos rfl, if_pos rfl, if_pos rfl]
    by_cases her : er = 0
    · subst her
      obtain ⟨k', rfl⟩ := Int.eq_ofNat_of_zero_le hk.1
      rw [Int.toNat_natCast]
      exact (take_ok fn w.heap.size (w.heap.size + 1) g a c l _ t z v k' hB2 hcf h1 h2 (by omega) hne hf).mono fun x w' h => after w' _ x (fun u hu => List.mem_of_mem_drop hu) h
    · have := hk0 her
      subst this
      exact (take_err fn w.heap.size (w.heap.size + 1) g a c l _ t z v 0 er hB2 hcf h1 her hne hf).mono fun x w' h => after w' _ x (fun u hu => hu) h
  · rw [if_neg he, if_neg he, if_neg he]
    refine (take_bad _ g e _ (by simpa using he) (hB2.cell 1)).mono fun x w' ⟨hx, hw⟩ => ?_
    subst hw
    exact ⟨hx, hz2, Rd.below ⟨a, c, hB, h1, h2, h3, h4, h5⟩ hb, Kept.of_below hb⟩

/-- What a reader's method leaves. -/
def RdDone (B : Nat) (w w' : World) (g : Nat) (l : List Int) (e : Int) : Prop := Rd B w' g l e ∧ Kept (fun j => j = g) w w'

set_option maxHeartbeats 1000000 in
theorem fixed_any (g s : Nat) (l : List Int) (e : Int) (w : World) (hs : s ≤ 8) (hW : Rd B w g l e) :
    Calls Try.prog 51 #[.pointer (some ⟨g, 0, none⟩), .int .i64 s] w fun x w' => x = .returned (.int .u64 (tkF 0 (fixF s l) l e).1) ∧ RdDone B w w' g (tkF 0 (fixF s l) l e).2.1 (tkF 0 (fixF s l) l e).2.2 := by
  obtain ⟨_, _, hB, _, hcm, _, _, hBy⟩ := hW
  have hW : Rd B w g l e := ⟨_, _, hB, by assumption, hcm, by assumption, by assumption, hBy⟩
  have h8 : l.length ≤ 9223372036854775807 := by have : l.length ≤ maxLen := Nat.le_trans (by assumption) hcm; unfold maxLen at this; omega
  have HT := rd_take 66 g l e w (.int .i64 s) (.int .u64 0) (.int .u64 (fixF s l).1) 3 23 (fixF s l).2.1 (fixF s l).2.2 hW cf_fixed (by unfold fixF; split <;> (simp; try omega)) (by unfold fixF; split <;> simp)
    (fun he a c k1 k2 k3 k4 => by
      unfold fixF
      by_cases hlt : l.length < s
      · rw [if_pos hlt]
        exact fixed_end a c w.heap.size (w.heap.size + 1) s l (.int .u64 0) 23 _ h8 hlt (two_one _ _ _ _ _) (two_blk _ _ _ _ _)
      · rw [if_neg hlt]
        exact fixed_ok a c w.heap.size (w.heap.size + 1) s l _ k1 k2 hs (by omega) hBy k3 k4 (two_one _ _ _ _ _) (two_blk _ _ _ _ _) (by omega))
  have HT2 := HT.mono (R' := fun x w' => (∃ b, x = .returned (.bool b)) ∧ w'.cell? ⟨w.heap.size + 1, 0, none⟩ = some (.int .u64 (tkF 0 (fixF s l) l e).1) ∧ RdDone B w w' g (tkF 0 (fixF s l) l e).2.1 (tkF 0 (fixF s l) l e).2.2) (fun x w' ⟨h1, h2, h3, h4⟩ => by
    refine ⟨h1, ?_, ?_, h4⟩
    · rw [h2.cell 0]
      unfold tkF
      split <;> rfl
    · unfold tkF
      split
      · rename_i he; rw [if_pos he, if_pos he] at h3; exact h3
      · rename_i he; rw [if_neg he, if_neg he] at h3; exact h3)
  unfold two at HT2
  have H := Lib.hid HT2
  clear HT HT2 hB
  go_enter Try.func51, Try.ntmps51
  go_wp2_with ((with_reducible refine H.out.mono ?_); rintro x W1 ⟨⟨b, rfl⟩, hc1, hD⟩)
  go_ret
  exact ⟨rfl, hD⟩

theorem fix_bounds (s : Nat) (l : List Int) (e : Int) (hB : Bytes l) : 0 ≤ (tkF 0 (fixF s l) l e).1 ∧ (tkF 0 (fixF s l) l e).1 < 256 ^ s := by
  have hp : (0 : Int) < 256 ^ s := Int.pow_pos (by decide)
  unfold tkF fixF
  split
  · split
    · exact ⟨Int.le_refl _, hp⟩
    · rename_i h
      have := beF_bounds (l.take s) (fun v hv => hB v (List.mem_of_mem_take hv))
      rw [List.length_take, Nat.min_eq_left (by omega)] at this
      exact this
  · exact ⟨Int.le_refl _, hp⟩
theorem Rd.bytes {w : World} {g : Nat} {l : List Int} {e : Int} (h : Rd B w g l e) : Bytes l := by
  obtain ⟨_, _, _, _, _, _, _, h5⟩ := h
  exact h5
theorem rbyte_any (g : Nat) (l : List Int) (e : Int) (w : World) (hW : Rd B w g l e) :
    Calls Try.prog 22 #[.pointer (some ⟨g, 0, none⟩)] w fun x w' => x = .returned (.int .u8 (tkF 0 (fixF 1 l) l e).1) ∧ RdDone B w w' g (tkF 0 (fixF 1 l) l e).2.1 (tkF 0 (fixF 1 l) l e).2.2 := by
  have hb := fix_bounds 1 l e hW.bytes
  rw [show (256 : Int) ^ 1 = 256 from by decide] at hb
  have H := Lib.hid (fixed_any g 1 l e w (by decide) hW)
  rw [show ((1 : Nat) : Int) = 1 from rfl] at H
  obtain ⟨r, hr⟩ : ∃ r, r = tkF 0 (fixF 1 l) l e := ⟨_, rfl⟩
  rw [← hr] at H hb ⊢
  obtain ⟨v, l', e'⟩ := r
  obtain ⟨b1, b2⟩ := hb
  simp only at b1 b2 H ⊢
  have b3 : v ≤ 255 := by omega
  clear hr hW
  go_enter Try.func22, Try.ntmps22
  go_wp2_with ((with_reducible refine H.out.mono ?_); rintro x W1 ⟨rfl, hD⟩)
  go_ret
  exact ⟨rfl, hD⟩
set_option maxHeartbeats 1000000 in
theorem rnumber_any (g most : Nat) (l : List Int) (e : Int) (w : World) (hW : Rd B w g l e) :
    Calls Try.prog 28 #[.pointer (some ⟨g, 0, none⟩), .int .u64 most] w fun x w' => x = .returned (.int .u64 (tkF 0 (numF most l) l e).1) ∧ RdDone B w w' g (tkF 0 (numF most l) l e).2.1 (tkF 0 (numF most l) l e).2.2 := by
  have hBy := hW.bytes
  have hbd := readS_bounds l hBy
  have HT := rd_take 53 g l e w (.int .u64 most) (.int .u64 0) (.int .u64 (numF most l).1) 23 23 (numF most l).2.1 (numF most l).2.2 hW cf_rnumber
    (by
      unfold numF
      split
      · split
        · simp
        · rename_i h _; have := hbd h; simp only; omega
      · simp)
    (by
      unfold numF
      split
      · split <;> simp
      · simp)
    (fun he a c k1 k2 k3 k4 => number_found a c w.heap.size (w.heap.size + 1) most l _ k1 k2 hBy k3 (two_one _ _ _ _ _) (two_blk _ _ _ _ _))
  have HT2 := HT.mono (R' := fun x w' => (∃ b, x = .returned (.bool b)) ∧ w'.cell? ⟨w.heap.size + 1, 0, none⟩ = some (.int .u64 (tkF 0 (numF most l) l e).1) ∧ RdDone B w w' g (tkF 0 (numF most l) l e).2.1 (tkF 0 (numF most l) l e).2.2) (fun x w' ⟨h1, h2, h3, h4⟩ => by
    refine ⟨h1, ?_, ?_, h4⟩
    · rw [h2.cell 0]
      unfold tkF
      split <;> rfl
    · unfold tkF
      split
      · rename_i he; rw [if_pos he, if_pos he] at h3; exact h3
      · rename_i he; rw [if_neg he, if_neg he] at h3; exact h3)
  unfold two at HT2
  have H := Lib.hid HT2
  clear HT HT2 hbd
  go_enter Try.func28, Try.ntmps28
  go_wp2_with ((with_reducible refine H.out.mono ?_); rintro x W1 ⟨⟨b, rfl⟩, hc1, hD⟩)
  go_ret
  exact ⟨rfl, hD⟩

set_option maxHeartbeats 1000000 in
theorem rtext_any (g : Nat) (most : Int) (l : List Int) (e : Int) (w : World) (hm0 : -9223372036854775808 ≤ most) (hm1 : most ≤ 9223372036854775807) (hW : Rd B w g l e) :
    Calls Try.prog 31 #[.pointer (some ⟨g, 0, none⟩), .int .i64 most] w fun x w' => x = .returned (.string (strOfNums (tkF [] (txtF most l) l e).1)) ∧ RdDone B w w' g (tkF [] (txtF most l) l e).2.1 (tkF [] (txtF most l) l e).2.2 := by
  have hBy := hW.bytes
  have hbd := readS_bounds l hBy
  have HT := rd_take 55 g l e w (.int .i64 most) (.string ⟨#[]⟩) (.string (strOfNums (txtF most l).1)) 3 9 (txtF most l).2.1 (txtF most l).2.2 hW cf_rtext
    (txtF_k most l hBy).1 (txtF_k most l hBy).2
    (fun he a c k1 k2 k3 k4 => text_found a c w.heap.size (w.heap.size + 1) most l _ k1 k2 hm0 hm1 hBy k3 (two_one _ _ _ _ _) (two_blk _ _ _ _ _))
  have HT2 := HT.mono (R' := fun x w' => (∃ b, x = .returned (.bool b)) ∧ w'.cell? ⟨w.heap.size + 1, 0, none⟩ = some (.string (strOfNums (tkF [] (txtF most l) l e).1)) ∧ RdDone B w w' g (tkF [] (txtF most l) l e).2.1 (tkF [] (txtF most l) l e).2.2) (fun x w' ⟨h1, h2, h3, h4⟩ => by
    refine ⟨h1, ?_, ?_, h4⟩
    · rw [h2.cell 0]
      unfold tkF
      split <;> rfl
    · unfold tkF
      split
      · rename_i he; rw [if_pos he, if_pos he] at h3; exact h3
      · rename_i he; rw [if_neg he, if_neg he] at h3; exact h3)
  unfold two at HT2
  have H := Lib.hid HT2
  clear HT HT2 hbd
  go_enter Try.func31, Try.ntmps31
  go_wp2_with ((with_reducible refine H.out.mono ?_); rintro x W1 ⟨⟨b, rfl⟩, hc1, hD⟩)
  go_ret
  exact ⟨rfl, hD⟩

theorem left_any (g : Nat) (l : List Int) (e : Int) (w : World) (hW : Rd B w g l e) : Calls Try.prog 32 #[.pointer (some ⟨g, 0, none⟩)] w fun x w' => x = .returned (.int .i64 (l.length : Int)) ∧ w = w' := by
  obtain ⟨a, c, hB, _⟩ := hW
  have c0 : w.cell? ⟨g, 0, none⟩ = some (.slice a l.length c) := hB.cell 0
  go_enter Try.func32, Try.ntmps32
  go_wp2_with fail
  go_ret
  exact ⟨rfl, rfl⟩
theorem err_any (g : Nat) (l : List Int) (e : Int) (w : World) (hW : Rd B w g l e) : Calls Try.prog 23 #[.pointer (some ⟨g, 0, none⟩)] w fun x w' => x = .returned (.int .i64 e) ∧ w = w' := by
  obtain ⟨a, c, hB, _⟩ := hW
  have c1 : w.cell? ⟨g, 1, none⟩ = some (.int .i64 e) := hB.cell 1
  go_enter Try.func23, Try.ntmps23
  go_wp2_with fail
  go_ret
  exact ⟨rfl, rfl⟩
end Go.Proofs.Ytaekpejpcafnkaa.ww
