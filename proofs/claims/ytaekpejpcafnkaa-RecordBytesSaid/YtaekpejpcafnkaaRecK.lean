/-
  The walks of layer 10: the first record of bytes: the walk.
-/
import Derived.Test.YtaekpejpcafnkaaRecJ
namespace Go.Proofs.Ytaekpejpcafnkaa.rw
open Go.RowKit Go.Proofs.Ytaekpejpcafnkaa.ba Go.Proofs.Ytaekpejpcafnkaa.rp Go.Proofs.Ytaekpejpcafnkaa.dp Go.Proofs.Ytaekpejpcafnkaa.dw Go.Proofs.Ytaekpejpcafnkaa.wp Go.Proofs.Ytaekpejpcafnkaa.ww
set_option maxRecDepth 8000
set_option linter.unusedVariables false
attribute [local go_sem ↓] Go.wp_at_zero Go.wp_at_succ

/-- A record, how many bytes it has, the error, handed back. -/
def GotR (w w' : World) (s : R × Int × Int) (x : Ending) : Prop :=
  x = .returned (.tuple #[.agg (cellsOf s.1), .int .i64 s.2.1, .int .i64 s.2.2]) ∧ Below w.heap.size w w'
theorem z_cells {W : World} {g : Nat} (h : Blk W g 30 (cellsOf zR)) :
    (W.cell? ⟨g, 0, none⟩ = some (.int .u8 0) ∧ W.cell? ⟨g, 1, none⟩ = some (.int .u8 0) ∧ W.cell? ⟨g, 2, none⟩ = some (.int .u8 0) ∧ W.cell? ⟨g, 3, none⟩ = some (.int .u8 0) ∧ W.cell? ⟨g, 4, none⟩ = some (.int .u8 0) ∧ W.cell? ⟨g, 5, none⟩ = some (.bool false) ∧ W.cell? ⟨g, 6, none⟩ = some (.int .u32 0) ∧ W.cell? ⟨g, 7, none⟩ = some (.int .u64 0) ∧ W.cell? ⟨g, 8, none⟩ = some (.string ⟨#[]⟩)) ∧
    (W.frozen? ⟨g, 0, none⟩ = false ∧ W.frozen? ⟨g, 1, none⟩ = false ∧ W.frozen? ⟨g, 2, none⟩ = false ∧ W.frozen? ⟨g, 3, none⟩ = false ∧ W.frozen? ⟨g, 4, none⟩ = false ∧ W.frozen? ⟨g, 5, none⟩ = false ∧ W.frozen? ⟨g, 6, none⟩ = false ∧ W.frozen? ⟨g, 7, none⟩ = false ∧ W.frozen? ⟨g, 8, none⟩ = false) :=
  ⟨⟨h.cell 0, h.cell 1, h.cell 2, h.cell 3, h.cell 4, h.cell 5, h.cell 6, h.cell 7, h.cell 8⟩, ⟨h.frozen 0, h.frozen 1, h.frozen 2, h.frozen 3, h.frozen 4, h.frozen 5, h.frozen 6, h.frozen 7, h.frozen 8⟩⟩
theorem nine_at {w W : World} {g : Nat} (h : Below w.heap.size w W) (hg : w.heap.size ≤ g) (a b c d e f i j k : Value) : Below w.heap.size w (((((((((W.setCell ⟨g, 0, none⟩ a).setCell ⟨g, 1, none⟩ b).setCell ⟨g, 2, none⟩ c).setCell ⟨g, 3, none⟩ d).setCell ⟨g, 4, none⟩ e).setCell ⟨g, 5, none⟩ f).setCell ⟨g, 6, none⟩ i).setCell ⟨g, 7, none⟩ j).setCell ⟨g, 8, none⟩ k) :=
  (((((((((h.setCell (p := ⟨g, 0, none⟩) hg a).setCell (p := ⟨g, 1, none⟩) hg b).setCell (p := ⟨g, 2, none⟩) hg c).setCell (p := ⟨g, 3, none⟩) hg d).setCell (p := ⟨g, 4, none⟩) hg e).setCell (p := ⟨g, 5, none⟩) hg f).setCell (p := ⟨g, 6, none⟩) hg i).setCell (p := ⟨g, 7, none⟩) hg j).setCell (p := ⟨g, 8, none⟩) hg k)

theorem far9 {W : World} {g : Nat} {p : Addr} (h : g ≠ p.block) (a b c d e f i j k : Value) : (((((((((W.setCell ⟨g, 0, none⟩ a).setCell ⟨g, 1, none⟩ b).setCell ⟨g, 2, none⟩ c).setCell ⟨g, 3, none⟩ d).setCell ⟨g, 4, none⟩ e).setCell ⟨g, 5, none⟩ f).setCell ⟨g, 6, none⟩ i).setCell ⟨g, 7, none⟩ j).setCell ⟨g, 8, none⟩ k).cell? p = W.cell? p := by
  rw [World.cell?_setCell_far _ _ _ _ h, World.cell?_setCell_far _ _ _ _ h, World.cell?_setCell_far _ _ _ _ h, World.cell?_setCell_far _ _ _ _ h, World.cell?_setCell_far _ _ _ _ h, World.cell?_setCell_far _ _ _ _ h, World.cell?_setCell_far _ _ _ _ h, World.cell?_setCell_far _ _ _ _ h, World.cell?_setCell_far _ _ _ _ h]
theorem cell_drew (W : World) (p : Addr) : W.drew.cell? p = W.cell? p := rfl
theorem far9d {W : World} {g : Nat} {p : Addr} (h : g ≠ p.block) (a b c d e f i j k : Value) : (((((((((W.setCell ⟨g, 0, none⟩ a).setCell ⟨g, 1, none⟩ b).setCell ⟨g, 2, none⟩ c).setCell ⟨g, 3, none⟩ d).setCell ⟨g, 4, none⟩ e).setCell ⟨g, 5, none⟩ f).setCell ⟨g, 6, none⟩ i).setCell ⟨g, 7, none⟩ j).setCell ⟨g, 8, none⟩ k).drew.cell? p = W.cell? p := (cell_drew _ _).trans (far9 h a b c d e f i j k)
/-- Where the kind cannot be read. -/
theorem read_nil (a : Option Addr) (c : Nat) (w : World) :
    Calls Try.prog 8 #[.slice a 0 c] w fun x w' => GotR w w' (readF []) x := by
  have HN := Lib.hid (ra_new (l := []) a 0 c w rfl (by decide) (Lst.nil _ _ _) (fun _ => rfl) (by intro v hv; simp at hv))
  go_enter Try.func8, Try.ntmps8
  go_wp2_with
    (first
      | (go_at_call 21; ((refine HN.out.mono ?_); rintro x W1 ⟨gi, rfl, hA1⟩; have HA1 := Lib.hid hA1; clear hA1))
      | (go_at_call 22; ((with_reducible refine (ra_byte HA1.out fix1_nil).mono ?_); rintro x W2 ⟨rfl, hA2, c2⟩; have HA2 := Lib.hid hA2; have c3 : ∀ o, (W2.alloc o).cell? ⟨_, 0, none⟩ = _ := (fun o => (hA2.below (box_below W2 o)).v.cell 0); have hz := fun o => z_cells (hA2.below (box_below W2 o)).z; clear hA2))
      | (go_at_call 23; ((with_reducible refine (ra_err HA2.out _ (box_below W2 _)).mono ?_); rintro x W3 ⟨rfl, rfl⟩))
      | fail)
  exact bodyPost_ret (v := .tuple #[.agg (cellsOf zR), .int .i64 0, .int .i64 4]) (by simp [results, Try.results8, go_sem, cellsOf, zR, hz]) rfl ⟨rfl, nine_at (bthen HA2.out.b (box_below W2 _)) (Nat.le_refl _) _ _ _ _ _ _ _ _ _⟩
/-- Where the kind is none. -/
theorem read_kind (a : Option Addr) (c : Nat) (k : Int) (l : List Int) (w : World) (hl : (k :: l).length ≤ 1000000) (hL : Lst .u8 w a (k :: l)) (hna : a = none → (k :: l) = []) (hB : Bytes (k :: l)) (hk : k < 1 ∨ 6 < k) :
    Calls Try.prog 8 #[.slice a (k :: l).length c] w fun x w' => GotR w w' (readF (k :: l)) x := by
  have HN := Lib.hid (ra_new a _ c w rfl hl hL hna hB)
  have hk0 : 0 ≤ k ∧ k ≤ 255 := hB k (by simp)
  have hF : readF (k :: l) = (zR, 0, 16) := by unfold readF; simp only; rw [if_pos hk]
  rw [hF]
  clear hF hL hna hB
  rcases hk with hk | hk
  · clear hl
    go_enter Try.func8, Try.ntmps8
    go_wp2_with
      (first
        | (go_at_call 21; ((refine HN.out.mono ?_); rintro x W1 ⟨gi, rfl, hA1⟩; have HA1 := Lib.hid hA1; clear hA1))
        | (go_at_call 22; ((with_reducible refine (ra_byte HA1.out (fix1_cons k l)).mono ?_); rintro x W2 ⟨rfl, hA2, c2⟩; have HA2 := Lib.hid hA2; have c3 : ∀ o, (W2.alloc o).cell? ⟨_, 0, none⟩ = _ := (fun o => (hA2.below (box_below W2 o)).v.cell 0); have hz := fun o => z_cells (hA2.below (box_below W2 o)).z; clear hA2))
        | (go_at_call 23; ((with_reducible refine (ra_err HA2.out _ (box_below W2 _)).mono ?_); rintro x W3 ⟨rfl, rfl⟩))
        | fail)
    exact bodyPost_ret (v := .tuple #[.agg (cellsOf zR), .int .i64 0, .int .i64 16]) (by simp [results, Try.results8, go_sem, cellsOf, zR, hz]) rfl ⟨rfl, nine_at (bthen HA2.out.b (box_below W2 _)) (Nat.le_refl _) _ _ _ _ _ _ _ _ _⟩
  · have hk1 : 1 ≤ k := by omega
    clear hl
    go_enter Try.func8, Try.ntmps8
    go_wp2_with
      (first
        | (go_at_call 21; ((refine HN.out.mono ?_); rintro x W1 ⟨gi, rfl, hA1⟩; have HA1 := Lib.hid hA1; clear hA1))
        | (go_at_call 22; ((with_reducible refine (ra_byte HA1.out (fix1_cons k l)).mono ?_); rintro x W2 ⟨rfl, hA2, c2⟩; have HA2 := Lib.hid hA2; have c3 : ∀ o, (W2.alloc o).cell? ⟨_, 0, none⟩ = _ := (fun o => (hA2.below (box_below W2 o)).v.cell 0); have hz := fun o => z_cells (hA2.below (box_below W2 o)).z; clear hA2))
        | (go_at_call 23; ((with_reducible refine (ra_err HA2.out _ (box_below W2 _)).mono ?_); rintro x W3 ⟨rfl, rfl⟩))
        | fail)
    exact bodyPost_ret (v := .tuple #[.agg (cellsOf zR), .int .i64 0, .int .i64 16]) (by simp [results, Try.results8, go_sem, cellsOf, zR, hz]) rfl ⟨rfl, nine_at (bthen HA2.out.b (box_below W2 _)) (Nat.le_refl _) _ _ _ _ _ _ _ _ _⟩
/-- What is known behind the fields: the variable's cell, the odd mark's, the record's, the result's. -/
def RF (w W : World) (gv gi gr go : Nat) (s : St) : Prop :=
  W.cell? ⟨gv, 0, none⟩ = some (.pointer (some ⟨gi, 0, none⟩)) ∧ W.cell? ⟨go, 0, none⟩ = some (.bool s.o) ∧ (W.cell? ⟨gr, 0, none⟩ = some (.int .u8 s.r.k) ∧ W.cell? ⟨gr, 1, none⟩ = some (.int .u8 s.r.s) ∧ W.cell? ⟨gr, 2, none⟩ = some (.int .u8 s.r.u) ∧ W.cell? ⟨gr, 3, none⟩ = some (.int .u8 s.r.p) ∧ W.cell? ⟨gr, 4, none⟩ = some (.int .u8 s.r.m) ∧ W.cell? ⟨gr, 5, none⟩ = some (.bool s.r.g) ∧ W.cell? ⟨gr, 6, none⟩ = some (.int .u32 s.r.v) ∧ W.cell? ⟨gr, 7, none⟩ = some (.int .u64 s.r.a) ∧ W.cell? ⟨gr, 8, none⟩ = some (.string s.r.t))
theorem RZ.cells {w W : World} {gv gi gr go : Nat} {s : St} (h : RZ w W gv gi gr go s) : RF w W gv gi gr go s := ⟨h.a.v.cell 0, h.o.cell 0, nine_cells h.r⟩
theorem err_ways (s : St) : (s.e ≠ 0 ∧ errF s = s.e) ∨ (s.e = 0 ∧ s.o = true ∧ errF s = 5) ∨ (s.e = 0 ∧ s.o = false ∧ checkF s.r ≠ 0 ∧ errF s = checkF s.r) ∨ (s.e = 0 ∧ s.o = false ∧ checkF s.r = 0 ∧ errF s = 0) := by
  unfold errF
  by_cases h : s.e = 0
  · cases ho : s.o with
    | true => right; left; simp [h]
    | false =>
      by_cases hc : checkF s.r = 0
      · right; right; right; simp [h, hc]
      · right; right; left; simp [h, hc]
  · left; simp [h]
set_option maxHeartbeats 4000000 in
theorem read_in (a : Option Addr) (c : Nat) (k : Int) (l : List Int) (w : World) (hl : (k :: l).length ≤ 1000000) (hL : Lst .u8 w a (k :: l)) (hna : a = none → (k :: l) = []) (hB : Bytes (k :: l)) (h1 : 1 ≤ k) (h6 : k ≤ 6) :
    Calls Try.prog 8 #[.slice a (k :: l).length c] w fun x w' => GotR w w' (readF (k :: l)) x := by
  have HN := Lib.hid (ra_new a _ c w rfl hl hL hna hB)
  have HV := Lib.hid (fun (W : World) (gv gi : Nat) (h : RA w W gv gi l 0) => ra_visit (k := k) h h1 h6)
  obtain ⟨s, hs⟩ : ∃ s, s = fieldsF k l := ⟨_, rfl⟩
  have hF : readF (k :: l) = if errF s = 0 then (s.r, ((k :: l).length : Int) - (s.l.length : Int), 0) else (zR, 0, errF s) := by
    unfold readF
    simp only
    rw [if_neg (by omega), hs]
  rw [← hs] at HV
  clear hs hL hna hB
  have HE0 := Lib.hid (fun (W : World) (gv gi gr go : Nat) (h : RZ w W gv gi gr go s) => ra_err h.a W (Below.refl _ W))
  rcases err_ways s with ⟨y1, y2⟩ | ⟨y1, y2, y3⟩ | ⟨y1, y2, y3, y4⟩ | ⟨y1, y2, y3, y4⟩
  · have HF := Lib.hid hF
    have HER := HE0
    have y1b : (s.e == 0) = false := by simpa using y1
    have y1c : (s.e != 0) = true := by simpa using y1
    rw [y2, if_neg y1] at HF
    clear hF HE0 y1 y2
    rw [HF.out]
    go_enter Try.func8, Try.ntmps8
    go_wp2_with
      (first
        | (go_at_call 21; ((refine HN.out.mono ?_); rintro x W1 ⟨gi, rfl, hA1⟩; have HA1 := Lib.hid hA1; clear hA1))
        | (go_at_call 22; ((with_reducible refine (ra_byte HA1.out (fix1_cons k l)).mono ?_); rintro x W2 ⟨rfl, hA2, c2⟩; have HA2 := Lib.hid hA2; have c3 : ∀ o, (W2.alloc o).cell? ⟨_, 0, none⟩ = _ := (fun o => (hA2.below (box_below W2 o)).v.cell 0); clear hA2))
        | (go_at_call 23; ((with_reducible refine (ra_err HA2.out _ (box_below W2 _)).mono ?_); rintro x W3 ⟨rfl, rfl⟩))
        | (go_at_call 24; ((refine (HV.out W2 _ _ HA2.out).mono ?_); rintro x W3 ⟨rfl, hZ⟩; have HZ := Lib.hid hZ; obtain ⟨e1, e2, p0, p1, p2, p3, p4, p5, p6, p7, p8⟩ := hZ.cells; have hz := z_cells hZ.a.z; clear hZ))
        | (go_at_call 23; ((with_reducible refine (HER.out _ _ _ _ _ HZ.out).mono ?_); rintro x W4 ⟨rfl, rfl⟩))
        | fail)
    exact bodyPost_ret (v := .tuple #[.agg (cellsOf zR), .int .i64 0, .int .i64 s.e]) (by simp [results, Try.results8, go_sem, cellsOf, zR, hz]) rfl ⟨rfl, nine_at HZ.out.a.b (Nat.le_refl _) _ _ _ _ _ _ _ _ _⟩
  · have HF := Lib.hid hF
    rw [y3, if_neg (by decide)] at HF
    have HER := HE0
    rw [y1] at HER
    have Y2 := Lib.hid y2
    clear hF HE0 y1 y2 y3
    rw [HF.out]
    go_enter Try.func8, Try.ntmps8
    go_wp2_with
      (first
        | (go_at_call 21; ((refine HN.out.mono ?_); rintro x W1 ⟨gi, rfl, hA1⟩; have HA1 := Lib.hid hA1; clear hA1))
        | (go_at_call 22; ((with_reducible refine (ra_byte HA1.out (fix1_cons k l)).mono ?_); rintro x W2 ⟨rfl, hA2, c2⟩; have HA2 := Lib.hid hA2; have c3 : ∀ o, (W2.alloc o).cell? ⟨_, 0, none⟩ = _ := (fun o => (hA2.below (box_below W2 o)).v.cell 0); clear hA2))
        | (go_at_call 23; ((with_reducible refine (ra_err HA2.out _ (box_below W2 _)).mono ?_); rintro x W3 ⟨rfl, rfl⟩))
        | (go_at_call 24; ((refine (HV.out W2 _ _ HA2.out).mono ?_); rintro x W3 ⟨rfl, hZ⟩; have HZ := Lib.hid hZ; obtain ⟨e1, e2, p0, p1, p2, p3, p4, p5, p6, p7, p8⟩ := hZ.cells; have hz := z_cells hZ.a.z; rw [Y2.out] at e2; clear hZ))
        | (go_at_call 23; ((with_reducible refine (HER.out _ _ _ _ _ HZ.out).mono ?_); rintro x W4 ⟨rfl, rfl⟩))
        | fail)
    exact bodyPost_ret (v := .tuple #[.agg (cellsOf zR), .int .i64 0, .int .i64 5]) (by simp [results, Try.results8, go_sem, cellsOf, zR, hz]) rfl ⟨rfl, nine_at HZ.out.a.b (Nat.le_refl _) _ _ _ _ _ _ _ _ _⟩
  · have HF := Lib.hid hF
    rw [y4, if_neg y3] at HF
    have HER := HE0
    rw [y1] at HER
    have Y2 := Lib.hid y2
    have y3b : (checkF s.r == 0) = false := by simpa using y3
    have y3c : (checkF s.r != 0) = true := by simpa using y3
    have HK := Lib.hid (fun (W : World) (h : s.r.ok) => check_any s.r W h)
    clear hF HE0 y1 y2 y3 y4
    rw [HF.out]
    generalize checkF s.r = E at y3b y3c HK
    clear HF
    go_enter Try.func8, Try.ntmps8
    go_wp2_with
      (first
        | (go_at_call 21; ((refine HN.out.mono ?_); rintro x W1 ⟨gi, rfl, hA1⟩; have HA1 := Lib.hid hA1; clear hA1))
        | (go_at_call 22; ((with_reducible refine (ra_byte HA1.out (fix1_cons k l)).mono ?_); rintro x W2 ⟨rfl, hA2, c2⟩; have HA2 := Lib.hid hA2; have c3 : ∀ o, (W2.alloc o).cell? ⟨_, 0, none⟩ = _ := (fun o => (hA2.below (box_below W2 o)).v.cell 0); clear hA2))
        | (go_at_call 23; ((with_reducible refine (ra_err HA2.out _ (box_below W2 _)).mono ?_); rintro x W3 ⟨rfl, rfl⟩))
        | (go_at_call 24; ((refine (HV.out W2 _ _ HA2.out).mono ?_); rintro x W3 ⟨rfl, hZ⟩; have HZ := Lib.hid hZ; obtain ⟨e1, e2, p0, p1, p2, p3, p4, p5, p6, p7, p8⟩ := hZ.cells; rw [Y2.out] at e2; clear hZ))
        | (go_at_call 23; ((with_reducible refine (HER.out _ _ _ _ _ HZ.out).mono ?_); rintro x W4 ⟨rfl, rfl⟩))
        | (go_at_call 14; ((refine (HK.out W3 HZ.out.ok).mono ?_); rintro x W4 ⟨rfl, hb4⟩; have hZ4 := HZ.out.below hb4; have HZ4 := Lib.hid hZ4; obtain ⟨d1, d2, q0, q1, q2, q3, q4, q5, q6, q7, q8⟩ := hZ4.cells; rw [Y2.out] at d2; have hz := z_cells hZ4.a.z; clear hZ4 hb4 e1 e2 p0 p1 p2 p3 p4 p5 p6 p7 p8))
        | fail)
    exact bodyPost_ret (v := .tuple #[.agg (cellsOf zR), .int .i64 0, .int .i64 E]) (by simp [results, Try.results8, go_sem, cellsOf, zR, hz]) rfl ⟨rfl, nine_at HZ4.out.a.b (Nat.le_refl _) _ _ _ _ _ _ _ _ _⟩
  · have HF := Lib.hid hF
    rw [y4, if_pos rfl] at HF
    have HER := HE0
    rw [y1] at HER
    have Y2 := Lib.hid y2
    have HK := Lib.hid (fun (W : World) (h : s.r.ok) => check_any s.r W h)
    rw [y3] at HK
    clear hF HE0 y1 y2 y3 y4
    rw [HF.out]
    clear HF
    go_enter Try.func8, Try.ntmps8
    go_wp2_with
      (first
        | (go_at_call 21; ((refine HN.out.mono ?_); rintro x W1 ⟨gi, rfl, hA1⟩; have HA1 := Lib.hid hA1; clear hA1))
        | (go_at_call 22; ((with_reducible refine (ra_byte HA1.out (fix1_cons k l)).mono ?_); rintro x W2 ⟨rfl, hA2, c2⟩; have HA2 := Lib.hid hA2; have c3 : ∀ o, (W2.alloc o).cell? ⟨_, 0, none⟩ = _ := (fun o => (hA2.below (box_below W2 o)).v.cell 0); clear hA2))
        | (go_at_call 23; ((with_reducible refine (ra_err HA2.out _ (box_below W2 _)).mono ?_); rintro x W3 ⟨rfl, rfl⟩))
        | (go_at_call 24; ((refine (HV.out W2 _ _ HA2.out).mono ?_); rintro x W3 ⟨rfl, hZ⟩; have HZ := Lib.hid hZ; obtain ⟨e1, e2, p0, p1, p2, p3, p4, p5, p6, p7, p8⟩ := hZ.cells; rw [Y2.out] at e2; clear hZ))
        | (go_at_call 23; ((with_reducible refine (HER.out _ _ _ _ _ HZ.out).mono ?_); rintro x W4 ⟨rfl, rfl⟩))
        | (go_at_call 14; ((refine (HK.out W3 HZ.out.ok).mono ?_); rintro x W4 ⟨rfl, hb4⟩; have hZ4 := HZ.out.below hb4; have HZ4 := Lib.hid hZ4; obtain ⟨d1, d2, q0, q1, q2, q3, q4, q5, q6, q7, q8⟩ := hZ4.cells; rw [Y2.out] at d2; have hz := z_cells hZ4.a.z; clear hZ4 hb4 e1 e2 p0 p1 p2 p3 p4 p5 p6 p7 p8))
        | fail)
    have hnz : w.heap.size ≠ W2.heap.size := by
      have h1 := HA2.out.z.lt
      omega
    have hnv : w.heap.size ≠ W1.heap.size := by
      have h1 := HZ4.out.a.lv
      omega
    have hsl : (s.l.length : Int) ≤ 9223372036854775807 := by
      obtain ⟨a', c', _, h1, h2, _⟩ := HZ4.out.a.rd
      unfold maxLen at h2
      omega
    have hsl0 : (0 : Int) ≤ (s.l.length : Int) := Int.natCast_nonneg _
    have HL := Lib.hid (left_any gi s.l s.e W4 HZ4.out.a.rd)
    have HLd := Lib.hid (left_any gi s.l s.e W4.drew (RA.drew HZ4.out.a).rd)
    have hwr : IntKind.i64.wrap ((l.length : Int) + 1 - (s.l.length : Int)) = (l.length : Int) + 1 - (s.l.length : Int) := IntWalk.i64_in _ (by simp only [List.length_cons] at hl; omega)
    have HB4 := Lib.hid HZ4.out.a.b
    clear c2 c3 HN HV HER HK HA1 HA2 HZ Y2 HZ4 d2 hsl hsl0
    obtain ⟨g1, g2⟩ : W4.drew.cell? ⟨W1.heap.size, 0, none⟩ = some (.pointer (some ⟨gi, 0, none⟩)) ∧ (W4.drew.cell? ⟨W2.heap.size, 0, none⟩ = some (.int .u8 s.r.k) ∧ W4.drew.cell? ⟨W2.heap.size, 1, none⟩ = some (.int .u8 s.r.s) ∧ W4.drew.cell? ⟨W2.heap.size, 2, none⟩ = some (.int .u8 s.r.u) ∧ W4.drew.cell? ⟨W2.heap.size, 3, none⟩ = some (.int .u8 s.r.p) ∧ W4.drew.cell? ⟨W2.heap.size, 4, none⟩ = some (.int .u8 s.r.m) ∧ W4.drew.cell? ⟨W2.heap.size, 5, none⟩ = some (.bool s.r.g) ∧ W4.drew.cell? ⟨W2.heap.size, 6, none⟩ = some (.int .u32 s.r.v) ∧ W4.drew.cell? ⟨W2.heap.size, 7, none⟩ = some (.int .u64 s.r.a) ∧ W4.drew.cell? ⟨W2.heap.size, 8, none⟩ = some (.string s.r.t)) := ⟨d1, q0, q1, q2, q3, q4, q5, q6, q7, q8⟩
    obtain ⟨g2, g3, g4, g5, g6, g7, g8, g9, g10⟩ := g2
    go_region_held3 (fun w' => w'.cell? ⟨W1.heap.size, 0, none⟩ = some (.pointer (some ⟨gi, 0, none⟩)) ∧ (w'.cell? ⟨W2.heap.size, 0, none⟩ = some (.int .u8 s.r.k) ∧ w'.cell? ⟨W2.heap.size, 1, none⟩ = some (.int .u8 s.r.s) ∧ w'.cell? ⟨W2.heap.size, 2, none⟩ = some (.int .u8 s.r.u) ∧ w'.cell? ⟨W2.heap.size, 3, none⟩ = some (.int .u8 s.r.p) ∧ w'.cell? ⟨W2.heap.size, 4, none⟩ = some (.int .u8 s.r.m) ∧ w'.cell? ⟨W2.heap.size, 5, none⟩ = some (.bool s.r.g) ∧ w'.cell? ⟨W2.heap.size, 6, none⟩ = some (.int .u32 s.r.v) ∧ w'.cell? ⟨W2.heap.size, 7, none⟩ = some (.int .u64 s.r.a) ∧ w'.cell? ⟨W2.heap.size, 8, none⟩ = some (.string s.r.t))) (first | (refine ⟨?_, ?_, ?_, ?_, ?_, ?_, ?_, ?_, ?_, ?_⟩ <;> with_reducible assumption) | (refine ⟨(far9d (g := w.heap.size) (p := ⟨W1.heap.size, _, none⟩) hnv _ _ _ _ _ _ _ _ _).trans ?_, (far9d (g := w.heap.size) (p := ⟨W2.heap.size, _, none⟩) hnz _ _ _ _ _ _ _ _ _).trans ?_, (far9d (g := w.heap.size) (p := ⟨W2.heap.size, _, none⟩) hnz _ _ _ _ _ _ _ _ _).trans ?_, (far9d (g := w.heap.size) (p := ⟨W2.heap.size, _, none⟩) hnz _ _ _ _ _ _ _ _ _).trans ?_, (far9d (g := w.heap.size) (p := ⟨W2.heap.size, _, none⟩) hnz _ _ _ _ _ _ _ _ _).trans ?_, (far9d (g := w.heap.size) (p := ⟨W2.heap.size, _, none⟩) hnz _ _ _ _ _ _ _ _ _).trans ?_, (far9d (g := w.heap.size) (p := ⟨W2.heap.size, _, none⟩) hnz _ _ _ _ _ _ _ _ _).trans ?_, (far9d (g := w.heap.size) (p := ⟨W2.heap.size, _, none⟩) hnz _ _ _ _ _ _ _ _ _).trans ?_, (far9d (g := w.heap.size) (p := ⟨W2.heap.size, _, none⟩) hnz _ _ _ _ _ _ _ _ _).trans ?_, (far9d (g := w.heap.size) (p := ⟨W2.heap.size, _, none⟩) hnz _ _ _ _ _ _ _ _ _).trans ?_⟩ <;> with_reducible assumption) | fail)
      (first
        | (go_at_call 32; ((with_reducible refine HLd.out.mono ?_); rintro x W5 ⟨rfl, rfl⟩))
        | (go_at_call 32; ((with_reducible refine HL.out.mono ?_); rintro x W5 ⟨rfl, rfl⟩))
        | fail)
    all_goals
      go_wp2_with fail
      exact bodyPost_ret (v := .tuple #[.agg (cellsOf s.r), .int .i64 (((k :: l).length : Int) - (s.l.length : Int)), .int .i64 0]) (by simp [results, Try.results8, go_sem, cellsOf, hz]) rfl ⟨rfl, bdry (nine_at HB4.out (Nat.le_refl _) _ _ _ _ _ _ _ _ _)⟩
/-- The first record of bytes. -/
theorem read_any (a : Option Addr) (n c : Nat) (l : List Int) (w : World) (hn : l.length = n) (hl : n ≤ 1000000) (hL : Lst .u8 w a l) (hna : a = none → l = []) (hB : Bytes l) :
    Calls Try.prog 8 #[.slice a n c] w fun x w' => GotR w w' (readF l) x := by
  subst hn
  cases l with
  | nil => exact read_nil a c w
  | cons k l =>
    by_cases hk : k < 1 ∨ 6 < k
    · exact read_kind a c k l w hl hL hna hB hk
    · exact read_in a c k l w hl hL hna hB (by omega) (by omega)
end Go.Proofs.Ytaekpejpcafnkaa.rw
