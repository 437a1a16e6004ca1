/-
  The walks of layer 12: what is wrong with a version; what is seen at a time.
-/
import Derived.Test.YtpbdgfgjlccapaaChnD
namespace Go.Proofs.Ytpbdgfgjlccapaa.cw
open Go.RowKit Go.Proofs.Ytpbdgfgjlccapaa.ba Go.Proofs.Ytpbdgfgjlccapaa.rp Go.Proofs.Ytpbdgfgjlccapaa.rw Go.Proofs.Ytpbdgfgjlccapaa.cp
set_option maxRecDepth 8000
set_option linter.unusedVariables false

theorem run_neq_zero (r : R) : ∀ W, (binOp .neq 30 (.agg #[.int .u8 r.k, .int .u8 r.s, .int .u8 r.u, .int .u8 r.p, .int .u8 r.m, .bool r.g, .int .u32 r.v, .int .u64 r.a, .string r.t]) (.agg #[.int .u8 0, .int .u8 0, .int .u8 0, .int .u8 0, .int .u8 0, .bool false, .int .u32 0, .int .u64 0, .string ⟨#[]⟩])).run Try.prog W = .ok (.bool (!(eqR r zeroR))) W := by
  intro W
  rw [run_neq_struct]
  have := run_eq_rec r zeroR W
  unfold zeroR at this
  simp only at this
  rw [this]
  rfl
/-- What is wrong with a version. -/
def wrongF (v : V) : Int := if v.d = false then checkF v.r else if eqR v.r zeroR = true then 0 else 3
set_option maxRecDepth 100000 in
set_option maxHeartbeats 4000000 in
theorem wrong_any (v : V) (w : World) (hv : v.ok) :
    Calls Try.prog 33 #[.agg #[.int .u64 v.a, .bool v.d, .int .u8 v.r.k, .int .u8 v.r.s, .int .u8 v.r.u, .int .u8 v.r.p, .int .u8 v.r.m, .bool v.r.g, .int .u32 v.r.v, .int .u64 v.r.a, .string v.r.t]] w fun x w' => x = .returned (.int .i64 (wrongF v)) ∧ Below w.heap.size w w' := by
  have hn := run_neq_zero v.r
  have hb0 : Below w.heap.size w (w.alloc (.cells (#[.int .u64 v.a, .bool v.d, .int .u8 v.r.k, .int .u8 v.r.s, .int .u8 v.r.u, .int .u8 v.r.p, .int .u8 v.r.m, .bool v.r.g, .int .u32 v.r.v, .int .u64 v.r.a, .string v.r.t]) 43)) := (Below.refl _ _).alloc (Nat.le_refl _) _
  have HK := Lib.hid fun (W : World) => check_any v.r W hv.r
  have hd : v.d = false ∨ (v.d = true ∧ eqR v.r zeroR = true) ∨ (v.d = true ∧ eqR v.r zeroR = false) := by
    cases v.d <;> cases eqR v.r zeroR <;> simp
  have HW : wrongF v = if v.d = false then checkF v.r else if eqR v.r zeroR = true then 0 else 3 := rfl
  rcases hd with hd | ⟨hd, he⟩ | ⟨hd, he⟩
  · rw [if_pos hd] at HW
    rw [hd] at hb0
    have HWh := Lib.hid HW
    clear HW hv
    go_enter Try.func33, Try.ntmps33
    go_wp2_with (go_at_call 39; refine (HK.out _).mono ?_; rintro x w1 ⟨rfl, hb1⟩)
    go_ret
    exact ⟨ret_int HWh.out.symm, bthen hb0 hb1⟩
  · rw [hd, he, if_neg (by decide), if_pos rfl] at HW
    rw [he] at hn
    rw [hd] at hb0
    have HWh := Lib.hid HW
    clear HW hv
    go_enter Try.func33, Try.ntmps33
    go_wp2_with fail
    go_ret
    exact ⟨ret_int HWh.out.symm, hb0⟩
  · rw [hd, he, if_neg (by decide), if_neg (by decide)] at HW
    rw [he] at hn
    rw [hd] at hb0
    have HWh := Lib.hid HW
    clear HW hv
    go_enter Try.func33, Try.ntmps33
    go_wp2_with fail
    go_ret
    exact ⟨ret_int HWh.out.symm, hb0⟩

theorem seen_cases (L : List V) (t : Int) : ∀ k, seenK L t k = -1 ∨ ∃ m v, m < k ∧ L[m]? = some v ∧ seenK L t k = (m : Int)
  | 0 => .inl rfl
  | k + 1 => by
    have ih := seen_cases L t k
    have ih' : seenK L t k = -1 ∨ ∃ m v, m < k + 1 ∧ L[m]? = some v ∧ seenK L t k = (m : Int) := by
      rcases ih with h | ⟨m, v, h1, h2, h3⟩
      · exact .inl h
      · exact .inr ⟨m, v, by omega, h2, h3⟩
    unfold seenK
    split
    · rename_i v hv
      split
      · exact .inr ⟨k, v, by omega, hv, rfl⟩
      · exact ih'
    · exact ih'
/-- What is seen at a time. -/
def atF (L : List V) (t : Int) : R × Bool :=
  if seenK L t L.length < 0 then (zeroR, false) else match L[(seenK L t L.length).toNat]? with
  | some v => if v.d then (zeroR, false) else (v.r, true)
  | none => (zeroR, false)
abbrev rcA (r : R) : Array Value := #[.int .u8 r.k, .int .u8 r.s, .int .u8 r.u, .int .u8 r.p, .int .u8 r.m, .bool r.g, .int .u32 r.v, .int .u64 r.a, .string r.t]
abbrev zcells : Array Value := #[.int .u8 0, .int .u8 0, .int .u8 0, .int .u8 0, .int .u8 0, .bool false, .int .u32 0, .int .u64 0, .string ⟨#[]⟩]
theorem row_blk {w : World} {g : Nat} {t : TypeId} {cs : Array Value} (h : Blk w g t cs) (new : Array Value) : Blk (w.setRow g new) g t new := setRow_heap w g cs new t (0, 0) h
theorem row_below {w w' : World} {B g : Nat} (h : Below B w w') (hB : B ≤ g) (new : Array Value) : Below B w (w'.setRow g new) :=
  h.trans ⟨rfl, rfl, rfl, by simp, fun k hk => setRow_other w' g k new (by omega)⟩
theorem nine_frozen {W : World} {g : Nat} {t : TypeId} {cs : Array Value} (h : Blk W g t cs) : W.frozen? ⟨g, 0, none⟩ = false ∧ W.frozen? ⟨g, 1, none⟩ = false ∧ W.frozen? ⟨g, 2, none⟩ = false ∧ W.frozen? ⟨g, 3, none⟩ = false ∧ W.frozen? ⟨g, 4, none⟩ = false ∧ W.frozen? ⟨g, 5, none⟩ = false ∧ W.frozen? ⟨g, 6, none⟩ = false ∧ W.frozen? ⟨g, 7, none⟩ = false ∧ W.frozen? ⟨g, 8, none⟩ = false :=
  ⟨h.frozen _, h.frozen _, h.frozen _, h.frozen _, h.frozen _, h.frozen _, h.frozen _, h.frozen _, h.frozen _⟩
theorem nine_below {w W : World} {B g : Nat} (h : Below B w W) (hg : B ≤ g) (a b c d e f x y z : Value) : Below B w (((((((((W.setCell ⟨g, 0, none⟩ a).setCell ⟨g, 1, none⟩ b).setCell ⟨g, 2, none⟩ c).setCell ⟨g, 3, none⟩ d).setCell ⟨g, 4, none⟩ e).setCell ⟨g, 5, none⟩ f).setCell ⟨g, 6, none⟩ x).setCell ⟨g, 7, none⟩ y).setCell ⟨g, 8, none⟩ z) :=
  ((((((((h.setCell (p := ⟨g, 0, none⟩) hg a).setCell (p := ⟨g, 1, none⟩) hg b).setCell (p := ⟨g, 2, none⟩) hg c).setCell (p := ⟨g, 3, none⟩) hg d).setCell (p := ⟨g, 4, none⟩) hg e).setCell (p := ⟨g, 5, none⟩) hg f).setCell (p := ⟨g, 6, none⟩) hg x).setCell (p := ⟨g, 7, none⟩) hg y).setCell (p := ⟨g, 8, none⟩) hg z
theorem res_rec2 {fn : Func} {p u : Tmp} (h : fn.results = #[.cell p 30, .tmp u]) (tmps : Array Value) (w : World) (g : Nat) (cs : Array Value) (hp : tmps.getD p undef = .pointer (some ⟨g, 0, none⟩)) (hs : cs.size = 9) (hB : Blk w g 30 cs) :
    (results fn tmps).run Try.prog w = .ok (.tuple #[.agg cs, tmps.getD u undef]) w := by
  have hi : (Try.prog.info? 30).map (·.size) = some 9 := by kernel_rfl
  have hu : Try.prog.underlying 30 = some (.struct (Try.prog.fieldsOf 30)) := by kernel_rfl
  rw [results_cell_tmp h, hp]
  have := run_loadVar_row (P := Try.prog) w g 30 30 cs (0, 0) _ hB hu rfl (by rw [hi, hs])
  simp [asAddr, Result.andThen, this]
set_option maxRecDepth 100000 in
set_option maxHeartbeats 4000000 in
theorem at_any (p : Option Addr) (t : Int) (L : List V) (w : World) (hC : CP w p L) :
    Calls Try.prog 10 #[.pointer p, .int .u64 t] w fun e w' => e = .returned (.tuple #[.agg #[.int .u8 (atF L t).1.k, .int .u8 (atF L t).1.s, .int .u8 (atF L t).1.u, .int .u8 (atF L t).1.p, .int .u8 (atF L t).1.m, .bool (atF L t).1.g, .int .u32 (atF L t).1.v, .int .u64 (atF L t).1.a, .string (atF L t).1.t], .bool (atF L t).2]) ∧ Below w.heap.size w w' := by
  have hb0 : Below w.heap.size w (w.alloc (.cells zcells 30)) := (Below.refl _ _).alloc (Nat.le_refl _) _
  have hB0 := Blk.new w 30 zcells
  have hi : (Try.prog.info? 30).map (·.size) = some 9 := by kernel_rfl
  have hz9 : (Try.prog.info? 30).map (·.size) = some zcells.size := hi
  have hz1 : zcells.all (·.oneCell') = true := by simp [Value.oneCell']
  have hzz := Lib.hid (rfl : zcells.size = zcells.size)
  have HS := Lib.hid fun (W : World) (h : CP W p L) => seen_any p t L W h
  rcases seen_cases L t L.length with hs | ⟨m, v, hm, hv, hs⟩
  · have hat : atF L t = (zeroR, false) := by unfold atF; rw [hs, if_pos (by decide)]
    rw [hat]
    rw [hs] at HS
    go_enter Try.func10, Try.ntmps10
    go_wp2_with (go_at_call 24; refine (HS.out _ (hC.below hb0)).mono ?_; rintro x w1 ⟨rfl, hb1⟩; have hB1 := hB0.below hb1; obtain ⟨e0, e1, e2, e3, e4, e5, e6, e7, e8⟩ := nine_cells (r := zeroR) hB1; obtain ⟨f0, f1, f2, f3, f4, f5, f6, f7, f8⟩ := nine_frozen hB1)
    refine bodyPost_ret (res_rec2 rfl _ _ w.heap.size _ rfl rfl (((((((((hB1.set_ 0 _).set_ 1 _).set_ 2 _).set_ 3 _).set_ 4 _).set_ 5 _).set_ 6 _).set_ 7 _).set_ 8 _)) rfl ?_
    exact ⟨rfl, nine_below (bthen hb0 hb1) (Nat.le_refl _) _ _ _ _ _ _ _ _ _⟩
  · obtain ⟨hlen, ⟨rfl, rfl⟩ | ⟨g, o, a, cap, rfl, hg, hL⟩⟩ := id hC
    · simp at hm
    rcases hL with h0 | ⟨b, off, rfl, hc⟩
    · subst h0; simp at hm
    have hgl := World.block_lt_of_cell? _ _ hg
    have hva := hc m v hv
    have hbl := World.block_lt_of_cell? _ _ hva.1
    have hmI : (m : Int) < (L.length : Int) := by omega
    have hat : atF L t = if v.d then (zeroR, false) else (v.r, true) := by
      unfold atF
      rw [hs, if_neg (by omega), Int.toNat_natCast, hv]
    have HAT := Lib.hid hat
    have HV := Lib.hid fun (W : World) (h : Below (w.alloc (.cells zcells 30)).heap.size (w.alloc (.cells zcells 30)) W) => (hva.below hb0).below h
    rw [hs] at HS
    have HCh := Lib.hid (hC.below hb0)
    clear hat hva hc hC hs
    have hv9 : (Try.prog.info? 30).map (·.size) = some (rcA v.r).size := hi
    have hv1 : (rcA v.r).all (·.oneCell') = true := by simp [Value.oneCell']
    have hvz := Lib.hid (rfl : zcells.size = (rcA v.r).size)
    cases hd : v.d with
    | true =>
      go_enter Try.func10, Try.ntmps10
      go_wp2_with (go_at_call 24; refine (HS.out _ HCh.out).mono ?_; rintro x w1 ⟨rfl, hb1⟩; have hB1 := hB0.below hb1; obtain ⟨e0, e1, e2, e3, e4, e5, e6, e7, e8⟩ := nine_cells (r := zeroR) hB1; obtain ⟨f0, f1, f2, f3, f4, f5, f6, f7, f8⟩ := nine_frozen hB1; have hg1 := bsome (bthen hb0 hb1) hg hgl; obtain ⟨c0, c1, c2, c3, c4, c5, c6, c7, c8, c9, c10⟩ := HV.out _ hb1; rw [hd] at c1)
      refine bodyPost_ret (res_rec2 rfl _ _ w.heap.size _ rfl rfl (((((((((hB1.set_ 0 _).set_ 1 _).set_ 2 _).set_ 3 _).set_ 4 _).set_ 5 _).set_ 6 _).set_ 7 _).set_ 8 _)) rfl ?_
      rw [HAT.out, hd]
      exact ⟨rfl, nine_below (bthen hb0 hb1) (Nat.le_refl _) _ _ _ _ _ _ _ _ _⟩
    | false =>
      go_enter Try.func10, Try.ntmps10
      go_wp2_with (go_at_call 24; refine (HS.out _ HCh.out).mono ?_; rintro x w1 ⟨rfl, hb1⟩; have hB1 := hB0.below hb1; obtain ⟨e0, e1, e2, e3, e4, e5, e6, e7, e8⟩ := nine_cells (r := zeroR) hB1; obtain ⟨f0, f1, f2, f3, f4, f5, f6, f7, f8⟩ := nine_frozen hB1; have hg1 := bsome (bthen hb0 hb1) hg hgl; obtain ⟨c0, c1, c2, c3, c4, c5, c6, c7, c8, c9, c10⟩ := HV.out _ hb1; rw [hd] at c1)
      refine bodyPost_ret (res_rec2 rfl _ _ w.heap.size _ rfl rfl (((((((((hB1.set_ 0 _).set_ 1 _).set_ 2 _).set_ 3 _).set_ 4 _).set_ 5 _).set_ 6 _).set_ 7 _).set_ 8 _)) rfl ?_
      rw [HAT.out, hd]
      exact ⟨rfl, nine_below (bthen hb0 hb1) (Nat.le_refl _) _ _ _ _ _ _ _ _ _⟩
end Go.Proofs.Ytpbdgfgjlccapaa.cw
