/-
  The walk of the law RecordApart: the two cuts.
-/
import Derived.Test.YtaekpejpcafnkaaRecS
import Derived.Test.YtaekpejpcafnkaaTake
import Derived.Deep.DrawnRows
import Derived.Deep.DeepCutAuto
namespace Go.Proofs.Ytaekpejpcafnkaa.rw
open Go.RowKit Go.Proofs.Ytaekpejpcafnkaa.ba Go.Proofs.Ytaekpejpcafnkaa.rp Go.Proofs.Ytaekpejpcafnkaa.dp Go.Proofs.Ytaekpejpcafnkaa.dw Go.Proofs.Ytaekpejpcafnkaa.wp Go.Proofs.Ytaekpejpcafnkaa.ww
set_option maxRecDepth 8000
set_option linter.unusedVariables false
attribute [local go_sem ↓] Go.wp_at_zero Go.wp_at_succ

theorem run_eql_rec (r q : R) (W : World) : (binOp .eql 30 (.agg #[.int .u8 r.k, .int .u8 r.s, .int .u8 r.u, .int .u8 r.p, .int .u8 r.m, .bool r.g, .int .u32 r.v, .int .u64 r.a, .string r.t]) (.agg #[.int .u8 q.k, .int .u8 q.s, .int .u8 q.u, .int .u8 q.p, .int .u8 q.m, .bool q.g, .int .u32 q.v, .int .u64 q.a, .string q.t])).run Try.prog W = .ok (.bool (eqR r q)) W := by
  rw [run_eql_struct, run_eq_rec r q W]
  rfl
theorem eqR_iff (r q : R) : eqR r q = true ↔ r = q := by
  obtain ⟨k, s, u, p, m, g, v, a, t⟩ := r
  obtain ⟨k', s', u', p', m', g', v', a', t'⟩ := q
  have e : (t.toList == t'.toList) = decide (t = t') := by
    rw [Bool.eq_iff_iff]
    simp only [beq_iff_eq, decide_eq_true_eq]
    exact ⟨fun h => toList_inj h, fun h => by rw [h]⟩
  unfold eqR
  simp only [e]
  simp
theorem nine_set {W : World} {g : Nat} {q : R} (h : Blk W g 30 (cellsOf q)) (r : R) : Blk (((((((((W.setCell ⟨g, 0, none⟩ (.int .u8 r.k)).setCell ⟨g, 1, none⟩ (.int .u8 r.s)).setCell ⟨g, 2, none⟩ (.int .u8 r.u)).setCell ⟨g, 3, none⟩ (.int .u8 r.p)).setCell ⟨g, 4, none⟩ (.int .u8 r.m)).setCell ⟨g, 5, none⟩ (.bool r.g)).setCell ⟨g, 6, none⟩ (.int .u32 r.v)).setCell ⟨g, 7, none⟩ (.int .u64 r.a)).setCell ⟨g, 8, none⟩ (.string r.t)) g 30 (cellsOf r) := by
  have e : (((((((((cellsOf q).setIfInBounds 0 (.int .u8 r.k)).setIfInBounds 1 (.int .u8 r.s)).setIfInBounds 2 (.int .u8 r.u)).setIfInBounds 3 (.int .u8 r.p)).setIfInBounds 4 (.int .u8 r.m)).setIfInBounds 5 (.bool r.g)).setIfInBounds 6 (.int .u32 r.v)).setIfInBounds 7 (.int .u64 r.a)).setIfInBounds 8 (.string r.t) = cellsOf r := by simp [cellsOf]
  rw [← e]
  exact ((((((((h.set_ 0 (.int .u8 r.k)).set_ 1 (.int .u8 r.s)).set_ 2 (.int .u8 r.u)).set_ 3 (.int .u8 r.p)).set_ 4 (.int .u8 r.m)).set_ 5 (.bool r.g)).set_ 6 (.int .u32 r.v)).set_ 7 (.int .u64 r.a)).set_ 8 (.string r.t)
theorem nine_off {W : World} {g g' : Nat} {t : TypeId} {cs : Array Value} (h : Blk W g t cs) (hne : g ≠ g') (a b c d e f i j k : Value) : Blk (((((((((W.setCell ⟨g', 0, none⟩ a).setCell ⟨g', 1, none⟩ b).setCell ⟨g', 2, none⟩ c).setCell ⟨g', 3, none⟩ d).setCell ⟨g', 4, none⟩ e).setCell ⟨g', 5, none⟩ f).setCell ⟨g', 6, none⟩ i).setCell ⟨g', 7, none⟩ j).setCell ⟨g', 8, none⟩ k) g t cs :=
  ((((((((h.far (p := ⟨g', 0, none⟩) hne a).far (p := ⟨g', 1, none⟩) hne b).far (p := ⟨g', 2, none⟩) hne c).far (p := ⟨g', 3, none⟩) hne d).far (p := ⟨g', 4, none⟩) hne e).far (p := ⟨g', 5, none⟩) hne f).far (p := ⟨g', 6, none⟩) hne i).far (p := ⟨g', 7, none⟩) hne j).far (p := ⟨g', 8, none⟩) hne k
theorem nine_frozen {W : World} {g : Nat} {t : TypeId} {cs : Array Value} (h : Blk W g t cs) : W.frozen? ⟨g, 0, none⟩ = false ∧ W.frozen? ⟨g, 1, none⟩ = false ∧ W.frozen? ⟨g, 2, none⟩ = false ∧ W.frozen? ⟨g, 3, none⟩ = false ∧ W.frozen? ⟨g, 4, none⟩ = false ∧ W.frozen? ⟨g, 5, none⟩ = false ∧ W.frozen? ⟨g, 6, none⟩ = false ∧ W.frozen? ⟨g, 7, none⟩ = false ∧ W.frozen? ⟨g, 8, none⟩ = false :=
  ⟨h.frozen 0, h.frozen 1, h.frozen 2, h.frozen 3, h.frozen 4, h.frozen 5, h.frozen 6, h.frozen 7, h.frozen 8⟩
/-- Two records in boxes. -/
def TwoR (w W : World) (a b : R) : Prop := Blk W w.heap.size 30 (cellsOf a) ∧ Blk W (w.heap.size + 1) 30 (cellsOf b) ∧ Below w.heap.size w W
set_option maxRecDepth 100000 in
set_option maxHeartbeats 4000000 in
theorem recordApart_at (a b : R) (w : World) (ha : a.ok) (hb : b.ok) :
    Calls Try.prog 4 #[.agg #[.int .u8 a.k, .int .u8 a.s, .int .u8 a.u, .int .u8 a.p, .int .u8 a.m, .bool a.g, .int .u32 a.v, .int .u64 a.a, .string a.t], .agg #[.int .u8 b.k, .int .u8 b.s, .int .u8 b.u, .int .u8 b.p, .int .u8 b.m, .bool b.g, .int .u32 b.v, .int .u64 b.a, .string b.t]] w fun x w' => x = .returned (.bool true) ∧ Below w.heap.size w w' := by
  have HCa := Lib.hid fun (W : World) => cut_any a W ha
  have HCb := Lib.hid fun (W : World) => cut_any b W hb
  obtain ⟨a', hae⟩ : ∃ a', a' = cutR a := ⟨_, rfl⟩
  obtain ⟨b', hbe⟩ : ∃ b', b' = cutR b := ⟨_, rfl⟩
  have ha' : a'.ok := by rw [hae]; exact (cutR_ok ha).1
  have hb' : b'.ok := by rw [hbe]; exact (cutR_ok hb).1
  rw [← hae] at HCa
  rw [← hbe] at HCb
  clear hae hbe
  go_enter Try.func4, Try.ntmps4
  go_upto_region 1 with fail
  go_cut [9] (fun x wx => TwoR w wx a' b')
  case first =>
    obtain ⟨h1, h2, h3⟩ := two_recs w (cellsOf a) (cellsOf b) 30
    have HA : Hid (∀ W : World, Calls Try.prog 13 #[.agg #[.int .u8 a.k, .int .u8 a.s, .int .u8 a.u, .int .u8 a.p, .int .u8 a.m, .bool a.g, .int .u32 a.v, .int .u64 a.a, .string a.t]] W fun x w' => x = .returned (.agg #[.int .u8 a'.k, .int .u8 a'.s, .int .u8 a'.u, .int .u8 a'.p, .int .u8 a'.m, .bool a'.g, .int .u32 a'.v, .int .u64 a'.a, .string a'.t]) ∧ Below W.heap.size W w') := Lib.hid HCa.out
    have HBb : Hid (∀ W : World, Calls Try.prog 13 #[.agg #[.int .u8 b.k, .int .u8 b.s, .int .u8 b.u, .int .u8 b.p, .int .u8 b.m, .bool b.g, .int .u32 b.v, .int .u64 b.a, .string b.t]] W fun x w' => x = .returned (.agg #[.int .u8 b'.k, .int .u8 b'.s, .int .u8 b'.u, .int .u8 b'.p, .int .u8 b'.m, .bool b'.g, .int .u32 b'.v, .int .u64 b'.a, .string b'.t]) ∧ Below W.heap.size W w') := Lib.hid HCb.out
    generalize hW0 : ((w.alloc (.cells (#[.int .u8 a.k, .int .u8 a.s, .int .u8 a.u, .int .u8 a.p, .int .u8 a.m, .bool a.g, .int .u32 a.v, .int .u64 a.a, .string a.t]) 30)).alloc (.cells (#[.int .u8 b.k, .int .u8 b.s, .int .u8 b.u, .int .u8 b.p, .int .u8 b.m, .bool b.g, .int .u32 b.v, .int .u64 b.a, .string b.t]) 30)) = W0 at *
    have hW0' : ((w.alloc (.cells (cellsOf a) 30)).alloc (.cells (cellsOf b) 30)) = W0 := hW0
    rw [hW0'] at h1 h2 h3
    have H1 := Lib.hid h1.drew
    have H2 := Lib.hid h2.drew
    have H3 := Lib.hid (bdry h3)
    obtain ⟨r0, r1, r2, r3, r4, r5, r6, r7, r8⟩ := nine_cells (r := a) h1
    obtain ⟨s0, s1, s2, s3, s4, s5, s6, s7, s8⟩ := nine_cells (r := b) h2
    clear hW0 hW0' h1 h2 h3 HCa HCb
    go_region_with
      (first
        | (go_at_call 13; ((with_reducible refine (HA.out _).mono ?_); rintro x W1 ⟨rfl, hb1⟩; have K1 := Lib.hid (H1.out.below hb1); have K2 := Lib.hid (H2.out.below hb1); have K3 := Lib.hid (bthen H3.out hb1); obtain ⟨s0, s1, s2, s3, s4, s5, s6, s7, s8⟩ := nine_cells (r := b) K2.out; clear hb1))
        | (go_at_call 13; ((with_reducible refine (HBb.out _).mono ?_); rintro x W2 ⟨rfl, hb2⟩; have L1 := Lib.hid (K1.out.below hb2); have L2 := Lib.hid (K2.out.below hb2); have L3 := Lib.hid (bthen K3.out hb2); obtain ⟨m0, m1, m2, m3, m4, m5, m6, m7, m8⟩ := nine_cells (r := b) L2.out; obtain ⟨l0, l1, l2, l3, l4, l5, l6, l7, l8⟩ := nine_cells (r := a) L1.out; obtain ⟨f0, f1, f2, f3, f4, f5, f6, f7, f8⟩ := nine_frozen L1.out; obtain ⟨g0, g1, g2, g3, g4, g5, g6, g7, g8⟩ := nine_frozen L2.out; clear hb2))
        | fail)
    all_goals
      go_wp2_with fail
      go_meet
      exact ⟨nine_off (nine_set L1.out a') (by omega) _ _ _ _ _ _ _ _ _, nine_set (nine_off L2.out (by omega) _ _ _ _ _ _ _ _ _) b', nine_at (nine_at L3.out (Nat.le_refl _) _ _ _ _ _ _ _ _ _) (by omega) _ _ _ _ _ _ _ _ _⟩
  case rest =>
    obtain ⟨h1, h2, h3⟩ := hcut
    clear HCa HCb
    have H1 := Lib.hid h1
    have H2 := Lib.hid h2
    have H3 := Lib.hid h3
    have HKa := Lib.hid fun (W : World) => check_any a' W ha'
    have HKb := Lib.hid fun (W : World) => check_any b' W hb'
    obtain ⟨la, hla⟩ : ∃ la, la = (recF [a'] []).1 := ⟨_, rfl⟩
    obtain ⟨lb, hlb⟩ : ∃ lb, lb = (recF [b'] []).1 := ⟨_, rfl⟩
    have e2a : (recF [a'] []).2 = checkF a' := by rw [recF_one]; split <;> simp_all
    have e2b : (recF [b'] []).2 = checkF b' := by rw [recF_one]; split <;> simp_all
    have hla0 : checkF a' = 0 → la = encR a' := fun h => by rw [hla, recF_one, if_pos h]
    have hla1 : checkF a' ≠ 0 → la = [] := fun h => by rw [hla, recF_one, if_neg h]
    have hlb0 : checkF b' = 0 → lb = encR b' := fun h => by rw [hlb, recF_one, if_pos h]
    have hlb1 : checkF b' ≠ 0 → lb = [] := fun h => by rw [hlb, recF_one, if_neg h]
    have HBa : Hid (∀ W : World, Calls Try.prog 11 #[.slice (some ⟨W.heap.size, 0, none⟩) 1 1] (W.alloc (.cells (#[.int .u8 a'.k, .int .u8 a'.s, .int .u8 a'.u, .int .u8 a'.p, .int .u8 a'.m, .bool a'.g, .int .u32 a'.v, .int .u64 a'.a, .string a'.t]) 30)) fun x w' => ∃ a4 c4, x = .returned (.tuple #[.slice a4 la.length c4, .int .i64 (checkF a')]) ∧ Lst .u8 w' a4 la ∧ Below W.heap.size W w') :=
      Lib.hid fun W => (bytes_one a' W ha').mono fun x w' ⟨a4, c4, q1, _, _, q2, _, q3⟩ => by
        rw [← hla, e2a] at q1
        rw [← hla] at q2
        exact ⟨a4, c4, q1, q2, q3⟩
    have HBb2 : Hid (∀ W : World, Calls Try.prog 11 #[.slice (some ⟨W.heap.size, 0, none⟩) 1 1] (W.alloc (.cells (#[.int .u8 b'.k, .int .u8 b'.s, .int .u8 b'.u, .int .u8 b'.p, .int .u8 b'.m, .bool b'.g, .int .u32 b'.v, .int .u64 b'.a, .string b'.t]) 30)) fun x w' => ∃ a4 c4, x = .returned (.tuple #[.slice a4 lb.length c4, .int .i64 (checkF b')]) ∧ Lst .u8 w' a4 lb ∧ Below W.heap.size W w') :=
      Lib.hid fun W => (bytes_one b' W hb').mono fun x w' ⟨a4, c4, q1, _, _, q2, _, q3⟩ => by
        rw [← hlb, e2b] at q1
        rw [← hlb] at q2
        exact ⟨a4, c4, q1, q2, q3⟩
    have hlal : la.length ≤ 100 := by
      by_cases h : checkF a' = 0
      · rw [hla0 h]; exact encR_le a' (right_parts h).2.2
      · rw [hla1 h]; exact Nat.zero_le _
    have hlbl : lb.length ≤ 100 := by
      by_cases h : checkF b' = 0
      · rw [hlb0 h]; exact encR_le b' (right_parts h).2.2
      · rw [hlb1 h]; exact Nat.zero_le _
    have HSm : Hid (∀ (W : World) (x y : Option Addr) (c d : Nat), Lst .u8 W x la → Lst .u8 W y lb → Calls Try.prog 12 #[.slice x la.length c, .slice y lb.length d] W fun z w' => z = .returned (.bool (decide (la = lb))) ∧ Below W.heap.size W w') :=
      Lib.hid fun W x y c d hx hy => same_any x y c d la lb W (by omega) (by omega) hx hy
    have heq := run_eql_rec a' b'
    have hsame : checkF a' = 0 → checkF b' = 0 → eqR a' b' = decide (la = lb) := fun h h' => by
      rw [hla0 h, hlb0 h', Bool.eq_iff_iff, eqR_iff, decide_eq_true_eq]
      exact ⟨fun e => by rw [e], fun e => enc_inj ha' hb' h h' e⟩
    obtain ⟨p0, p1, p2, p3, p4, p5, p6, p7, p8⟩ := nine_cells (r := a') h1
    have hpos : checkF a' = 0 → 0 < la.length := fun h => by rw [hla0 h]; exact encR_pos a'
    clear hla hlb e2a e2b hla0 hlb0 hlb1 hlal hlbl h1 h2 h3 ha' hb' ha hb
    generalize checkF a' = ea at *
    generalize checkF b' = eb at *
    by_cases hea : ea = 0
    · by_cases heb : eb = 0
      · subst hea heb
        have hs2 := hsame rfl rfl
        have hpos2 : 0 < la.length := hpos rfl
        have hpos3 : decide (0 < la.length) = true := decide_eq_true hpos2
        rw [hs2] at heq
        generalize decide (la = lb) = ee at *
        clear hs2 hsame hpos hla1
        generalize la.length = na at *
        generalize lb.length = nb at *
        go_wp2_with
          (first
            | (go_at_call 11; ((with_reducible refine (HBa.out _).mono ?_); rintro x W3 ⟨a3, c3, rfl, hL3, hb3⟩; have LA3 := Lib.hid hL3; have K3 := Lib.hid (H1.out.below hb3); have J3 := Lib.hid (H2.out.below hb3); have I3 := Lib.hid (bthen H3.out hb3); obtain ⟨q0, q1, q2, q3, q4, q5, q6, q7, q8⟩ := nine_cells (r := b') J3.out; clear hL3 hb3))
            | (go_at_call 11; ((with_reducible refine (HBb2.out _).mono ?_); rintro x W4 ⟨a4, c4, rfl, hL4, hb4⟩; have LA4 := Lib.hid (LA3.out.below hb4); have LB4 := Lib.hid hL4; have K4 := Lib.hid (K3.out.below hb4); have J4 := Lib.hid (J3.out.below hb4); have I4 := Lib.hid (bthen I3.out hb4); obtain ⟨r0, r1, r2, r3, r4, r5, r6, r7, r8⟩ := nine_cells (r := a') K4.out; clear hL4 hb4))
            | (go_at_call 14; ((with_reducible refine (HKa.out _).mono ?_); rintro x W6 ⟨rfl, hb6⟩; have LA6 := Lib.hid (LA4.out.below hb6); have LB6 := Lib.hid (LB4.out.below hb6); have K6 := Lib.hid (K4.out.below hb6); have J6 := Lib.hid (J4.out.below hb6); have I6 := Lib.hid (bthen I4.out hb6); obtain ⟨s0, s1, s2, s3, s4, s5, s6, s7, s8⟩ := nine_cells (r := b') J6.out; clear hb6))
            | (go_at_call 14; ((with_reducible refine (HKb.out _).mono ?_); rintro x W7 ⟨rfl, hb7⟩; have LA := Lib.hid (LA6.out.below hb7); have LB := Lib.hid (LB6.out.below hb7); have K7 := Lib.hid (K6.out.below hb7); have J7 := Lib.hid (J6.out.below hb7); have I7 := Lib.hid (bthen I6.out hb7); clear hb7))
            | fail)
        obtain ⟨⟨ga0, ga1, ga2, ga3, ga4, ga5, ga6, ga7, ga8⟩, ⟨gb0, gb1, gb2, gb3, gb4, gb5, gb6, gb7, gb8⟩⟩ : (W7.drew.cell? ⟨w.heap.size, 0, none⟩ = some (.int .u8 a'.k) ∧ W7.drew.cell? ⟨w.heap.size, 1, none⟩ = some (.int .u8 a'.s) ∧ W7.drew.cell? ⟨w.heap.size, 2, none⟩ = some (.int .u8 a'.u) ∧ W7.drew.cell? ⟨w.heap.size, 3, none⟩ = some (.int .u8 a'.p) ∧ W7.drew.cell? ⟨w.heap.size, 4, none⟩ = some (.int .u8 a'.m) ∧ W7.drew.cell? ⟨w.heap.size, 5, none⟩ = some (.bool a'.g) ∧ W7.drew.cell? ⟨w.heap.size, 6, none⟩ = some (.int .u32 a'.v) ∧ W7.drew.cell? ⟨w.heap.size, 7, none⟩ = some (.int .u64 a'.a) ∧ W7.drew.cell? ⟨w.heap.size, 8, none⟩ = some (.string a'.t)) ∧ (W7.drew.cell? ⟨w.heap.size + 1, 0, none⟩ = some (.int .u8 b'.k) ∧ W7.drew.cell? ⟨w.heap.size + 1, 1, none⟩ = some (.int .u8 b'.s) ∧ W7.drew.cell? ⟨w.heap.size + 1, 2, none⟩ = some (.int .u8 b'.u) ∧ W7.drew.cell? ⟨w.heap.size + 1, 3, none⟩ = some (.int .u8 b'.p) ∧ W7.drew.cell? ⟨w.heap.size + 1, 4, none⟩ = some (.int .u8 b'.m) ∧ W7.drew.cell? ⟨w.heap.size + 1, 5, none⟩ = some (.bool b'.g) ∧ W7.drew.cell? ⟨w.heap.size + 1, 6, none⟩ = some (.int .u32 b'.v) ∧ W7.drew.cell? ⟨w.heap.size + 1, 7, none⟩ = some (.int .u64 b'.a) ∧ W7.drew.cell? ⟨w.heap.size + 1, 8, none⟩ = some (.string b'.t)) := ⟨nine_cells (r := a') K7.out.drew, nine_cells (r := b') J7.out.drew⟩
        have M7 := Lib.hid (bdry I7.out)
        have KD := Lib.hid K7.out.drew
        have JD := Lib.hid J7.out.drew
        have LAd := Lib.hid (LA.out.below (bx0 _))
        have LBd := Lib.hid (LB.out.below (bx0 _))
        clear LA LB K7 J7 I7
        go_region_held3 (fun w' => (w'.cell? ⟨w.heap.size, 0, none⟩ = some (.int .u8 a'.k) ∧ w'.cell? ⟨w.heap.size, 1, none⟩ = some (.int .u8 a'.s) ∧ w'.cell? ⟨w.heap.size, 2, none⟩ = some (.int .u8 a'.u) ∧ w'.cell? ⟨w.heap.size, 3, none⟩ = some (.int .u8 a'.p) ∧ w'.cell? ⟨w.heap.size, 4, none⟩ = some (.int .u8 a'.m) ∧ w'.cell? ⟨w.heap.size, 5, none⟩ = some (.bool a'.g) ∧ w'.cell? ⟨w.heap.size, 6, none⟩ = some (.int .u32 a'.v) ∧ w'.cell? ⟨w.heap.size, 7, none⟩ = some (.int .u64 a'.a) ∧ w'.cell? ⟨w.heap.size, 8, none⟩ = some (.string a'.t)) ∧ (w'.cell? ⟨w.heap.size + 1, 0, none⟩ = some (.int .u8 b'.k) ∧ w'.cell? ⟨w.heap.size + 1, 1, none⟩ = some (.int .u8 b'.s) ∧ w'.cell? ⟨w.heap.size + 1, 2, none⟩ = some (.int .u8 b'.u) ∧ w'.cell? ⟨w.heap.size + 1, 3, none⟩ = some (.int .u8 b'.p) ∧ w'.cell? ⟨w.heap.size + 1, 4, none⟩ = some (.int .u8 b'.m) ∧ w'.cell? ⟨w.heap.size + 1, 5, none⟩ = some (.bool b'.g) ∧ w'.cell? ⟨w.heap.size + 1, 6, none⟩ = some (.int .u32 b'.v) ∧ w'.cell? ⟨w.heap.size + 1, 7, none⟩ = some (.int .u64 b'.a) ∧ w'.cell? ⟨w.heap.size + 1, 8, none⟩ = some (.string b'.t))) (first | (refine ⟨⟨?_, ?_, ?_, ?_, ?_, ?_, ?_, ?_, ?_⟩, ⟨?_, ?_, ?_, ?_, ?_, ?_, ?_, ?_, ?_⟩⟩ <;> with_reducible assumption) | fail)
          (first
            | (go_at_call 10; ((with_reducible refine (known_any _).mono ?_); rintro x W8 ⟨rfl, hb8⟩; have M8 := Lib.hid (bthen M7.out hb8); have LA8 := Lib.hid (LAd.out.below hb8); have LB8 := Lib.hid (LBd.out.below hb8); obtain ⟨⟨ua0, ua1, ua2, ua3, ua4, ua5, ua6, ua7, ua8⟩, ⟨ub0, ub1, ub2, ub3, ub4, ub5, ub6, ub7, ub8⟩⟩ : (W8.cell? ⟨w.heap.size, 0, none⟩ = some (.int .u8 a'.k) ∧ W8.cell? ⟨w.heap.size, 1, none⟩ = some (.int .u8 a'.s) ∧ W8.cell? ⟨w.heap.size, 2, none⟩ = some (.int .u8 a'.u) ∧ W8.cell? ⟨w.heap.size, 3, none⟩ = some (.int .u8 a'.p) ∧ W8.cell? ⟨w.heap.size, 4, none⟩ = some (.int .u8 a'.m) ∧ W8.cell? ⟨w.heap.size, 5, none⟩ = some (.bool a'.g) ∧ W8.cell? ⟨w.heap.size, 6, none⟩ = some (.int .u32 a'.v) ∧ W8.cell? ⟨w.heap.size, 7, none⟩ = some (.int .u64 a'.a) ∧ W8.cell? ⟨w.heap.size, 8, none⟩ = some (.string a'.t)) ∧ (W8.cell? ⟨w.heap.size + 1, 0, none⟩ = some (.int .u8 b'.k) ∧ W8.cell? ⟨w.heap.size + 1, 1, none⟩ = some (.int .u8 b'.s) ∧ W8.cell? ⟨w.heap.size + 1, 2, none⟩ = some (.int .u8 b'.u) ∧ W8.cell? ⟨w.heap.size + 1, 3, none⟩ = some (.int .u8 b'.p) ∧ W8.cell? ⟨w.heap.size + 1, 4, none⟩ = some (.int .u8 b'.m) ∧ W8.cell? ⟨w.heap.size + 1, 5, none⟩ = some (.bool b'.g) ∧ W8.cell? ⟨w.heap.size + 1, 6, none⟩ = some (.int .u32 b'.v) ∧ W8.cell? ⟨w.heap.size + 1, 7, none⟩ = some (.int .u64 b'.a) ∧ W8.cell? ⟨w.heap.size + 1, 8, none⟩ = some (.string b'.t)) := ⟨nine_cells (r := a') (KD.out.below hb8), nine_cells (r := b') (JD.out.below hb8)⟩; have K8 := Lib.hid (KD.out.below hb8); have J8 := Lib.hid (JD.out.below hb8); clear hb8))
            | (go_at_call 12; ((with_reducible refine (HSm.out _ _ _ _ _ LA8.out LB8.out).mono ?_); rintro x W9 ⟨rfl, hb9⟩; have M9 := Lib.hid (bthen M8.out hb9); obtain ⟨⟨va0, va1, va2, va3, va4, va5, va6, va7, va8⟩, ⟨vb0, vb1, vb2, vb3, vb4, vb5, vb6, vb7, vb8⟩⟩ : (W9.cell? ⟨w.heap.size, 0, none⟩ = some (.int .u8 a'.k) ∧ W9.cell? ⟨w.heap.size, 1, none⟩ = some (.int .u8 a'.s) ∧ W9.cell? ⟨w.heap.size, 2, none⟩ = some (.int .u8 a'.u) ∧ W9.cell? ⟨w.heap.size, 3, none⟩ = some (.int .u8 a'.p) ∧ W9.cell? ⟨w.heap.size, 4, none⟩ = some (.int .u8 a'.m) ∧ W9.cell? ⟨w.heap.size, 5, none⟩ = some (.bool a'.g) ∧ W9.cell? ⟨w.heap.size, 6, none⟩ = some (.int .u32 a'.v) ∧ W9.cell? ⟨w.heap.size, 7, none⟩ = some (.int .u64 a'.a) ∧ W9.cell? ⟨w.heap.size, 8, none⟩ = some (.string a'.t)) ∧ (W9.cell? ⟨w.heap.size + 1, 0, none⟩ = some (.int .u8 b'.k) ∧ W9.cell? ⟨w.heap.size + 1, 1, none⟩ = some (.int .u8 b'.s) ∧ W9.cell? ⟨w.heap.size + 1, 2, none⟩ = some (.int .u8 b'.u) ∧ W9.cell? ⟨w.heap.size + 1, 3, none⟩ = some (.int .u8 b'.p) ∧ W9.cell? ⟨w.heap.size + 1, 4, none⟩ = some (.int .u8 b'.m) ∧ W9.cell? ⟨w.heap.size + 1, 5, none⟩ = some (.bool b'.g) ∧ W9.cell? ⟨w.heap.size + 1, 6, none⟩ = some (.int .u32 b'.v) ∧ W9.cell? ⟨w.heap.size + 1, 7, none⟩ = some (.int .u64 b'.a) ∧ W9.cell? ⟨w.heap.size + 1, 8, none⟩ = some (.string b'.t)) := ⟨nine_cells (r := a') (K8.out.below hb9), nine_cells (r := b') (J8.out.below hb9)⟩; clear hb9))
            | fail)
        all_goals
          go_wp2_with fail
          go_ret
          exact ⟨ret_bool (by simp), M9.out⟩
      · subst hea
        have heb1 : (eb != 0) = true := by simpa using heb
        have heb2 : (eb == 0) = false := by simpa using heb
        have hpos2 : 0 < la.length := hpos rfl
        have hpos3 : decide (0 < la.length) = true := decide_eq_true hpos2
        clear hsame hpos hla1 heb HSm heq
        generalize la.length = na at *
        generalize lb.length = nb at *
        go_wp2_with
          (first
            | (go_at_call 11; ((with_reducible refine (HBa.out _).mono ?_); rintro x W3 ⟨a3, c3, rfl, hL3, hb3⟩; have LA3 := Lib.hid hL3; have K3 := Lib.hid (H1.out.below hb3); have J3 := Lib.hid (H2.out.below hb3); have I3 := Lib.hid (bthen H3.out hb3); obtain ⟨q0, q1, q2, q3, q4, q5, q6, q7, q8⟩ := nine_cells (r := b') J3.out; clear hL3 hb3))
            | (go_at_call 11; ((with_reducible refine (HBb2.out _).mono ?_); rintro x W4 ⟨a4, c4, rfl, hL4, hb4⟩; have LA4 := Lib.hid (LA3.out.below hb4); have LB4 := Lib.hid hL4; have K4 := Lib.hid (K3.out.below hb4); have J4 := Lib.hid (J3.out.below hb4); have I4 := Lib.hid (bthen I3.out hb4); obtain ⟨r0, r1, r2, r3, r4, r5, r6, r7, r8⟩ := nine_cells (r := a') K4.out; clear hL4 hb4))
            | (go_at_call 14; ((with_reducible refine (HKa.out _).mono ?_); rintro x W6 ⟨rfl, hb6⟩; have LA6 := Lib.hid (LA4.out.below hb6); have LB6 := Lib.hid (LB4.out.below hb6); have K6 := Lib.hid (K4.out.below hb6); have J6 := Lib.hid (J4.out.below hb6); have I6 := Lib.hid (bthen I4.out hb6); obtain ⟨s0, s1, s2, s3, s4, s5, s6, s7, s8⟩ := nine_cells (r := b') J6.out; clear hb6))
            | (go_at_call 14; ((with_reducible refine (HKb.out _).mono ?_); rintro x W7 ⟨rfl, hb7⟩; have LA := Lib.hid (LA6.out.below hb7); have LB := Lib.hid (LB6.out.below hb7); have K7 := Lib.hid (K6.out.below hb7); have J7 := Lib.hid (J6.out.below hb7); have I7 := Lib.hid (bthen I6.out hb7); clear hb7))
            | fail)
        have M7 := Lib.hid (bdry I7.out)
        refine wp_region_held_drew (S := (fun w' => Below w.heap.size w w')) (by kernel_rfl) (by exact M7.out) (fun hHeld => ?_)
        refine take_c 0 (by kernel_rfl) rfl (fun K hK => ?_)
        go_simp
        ((with_reducible refine (known_any _).mono ?_); rintro x W8 ⟨rfl, hb8⟩; have M8 := bthen M7.out hb8; clear hb8)
        refine hK.out _ _ (by assumption) (fun hHeld => ?_)
        clear hK K
        try simp only [Act.put, List.setIfInBounds_toArray, List.set_cons_zero, List.set_cons_succ]
        refine take_p 1 (v := ?vb1) rfl (by kernel_rfl) (by kernel_rfl) (by kernel_rfl) (fun _ _ _ h => h) (by rfl) (by assumption) ?yb1 ?rb1
        case yb1 => intro wS hSw; go_simp; try (with_reducible rfl)
        try simp only [Act.put, List.setIfInBounds_toArray, List.set_cons_zero, List.set_cons_succ]
        refine take_p 2 (v := ?vb2) rfl (by kernel_rfl) (by kernel_rfl) (by kernel_rfl) (fun _ _ _ h => h) (by rfl) (by assumption) ?yb2 ?rb2
        case yb2 => intro wS hSw; go_simp; try (with_reducible rfl)
        try simp only [Act.put, List.setIfInBounds_toArray, List.set_cons_zero, List.set_cons_succ]
        refine take_p 3 (v := ?vb3) rfl (by kernel_rfl) (by kernel_rfl) (by kernel_rfl) (fun _ _ _ h => h) (by rfl) (by assumption) ?yb3 ?rb3
        case yb3 => intro wS hSw; go_simp; try (with_reducible rfl)
        try simp only [Act.put, List.setIfInBounds_toArray, List.set_cons_zero, List.set_cons_succ]
        refine take_p 4 (v := ?vb4) rfl (by kernel_rfl) (by kernel_rfl) (by kernel_rfl) (fun _ _ _ h => h) (by rfl) (by assumption) ?yb4 ?rb4
        case yb4 => intro wS hSw; go_simp; try (with_reducible rfl)
        try simp only [Act.put, List.setIfInBounds_toArray, List.set_cons_zero, List.set_cons_succ]
        refine take_p 5 (v := ?vb5) rfl (by kernel_rfl) (by kernel_rfl) (by kernel_rfl) (fun _ _ _ h => h) (by rfl) (by assumption) ?yb5 ?rb5
        case yb5 => intro wS hSw; go_simp; try (with_reducible rfl)
        try simp only [Act.put, List.setIfInBounds_toArray, List.set_cons_zero, List.set_cons_succ]
        refine take_p 6 (v := ?vb6) rfl (by kernel_rfl) (by kernel_rfl) (by kernel_rfl) (fun _ _ _ h => h) (by rfl) (by assumption) ?yb6 ?rb6
        case yb6 => intro wS hSw; go_simp; try (with_reducible rfl)
        try simp only [Act.put, List.setIfInBounds_toArray, List.set_cons_zero, List.set_cons_succ]
        refine take_p 7 (v := ?vb7) rfl (by kernel_rfl) (by kernel_rfl) (by kernel_rfl) (fun _ _ _ h => h) (by rfl) (by assumption) ?yb7 ?rb7
        case yb7 => intro wS hSw; go_simp; try (with_reducible rfl)
        try simp only [Act.put, List.setIfInBounds_toArray, List.set_cons_zero, List.set_cons_succ]
        refine take_p 8 (v := ?vb8) rfl (by kernel_rfl) (by kernel_rfl) (by kernel_rfl) (fun _ _ _ h => h) (by rfl) (by assumption) ?yb8 ?rb8
        case yb8 => intro wS hSw; go_simp; try (with_reducible rfl)
        try simp only [Act.put, List.setIfInBounds_toArray, List.set_cons_zero, List.set_cons_succ]
        refine take_u 9 rfl (by kernel_rfl) (by kernel_rfl) (by kernel_rfl) (fun _ _ _ h => h) (by rfl) (by assumption) ?_
        try simp only [Act.put, List.setIfInBounds_toArray, List.set_cons_zero, List.set_cons_succ]
        refine take_u 10 rfl (by kernel_rfl) (by kernel_rfl) (by kernel_rfl) (fun _ _ _ h => h) (by rfl) (by assumption) ?_
        try simp only [Act.put, List.setIfInBounds_toArray, List.set_cons_zero, List.set_cons_succ]
        refine take_u 11 rfl (by kernel_rfl) (by kernel_rfl) (by kernel_rfl) (fun _ _ _ h => h) (by rfl) (by assumption) ?_
        try simp only [Act.put, List.setIfInBounds_toArray, List.set_cons_zero, List.set_cons_succ]
        refine take_u 12 rfl (by kernel_rfl) (by kernel_rfl) (by kernel_rfl) (fun _ _ _ h => h) (by rfl) (by assumption) ?_
        try simp only [Act.put, List.setIfInBounds_toArray, List.set_cons_zero, List.set_cons_succ]
        refine take_u 13 rfl (by kernel_rfl) (by kernel_rfl) (by kernel_rfl) (fun _ _ _ h => h) (by rfl) (by assumption) ?_
        try simp only [Act.put, List.setIfInBounds_toArray, List.set_cons_zero, List.set_cons_succ]
        refine take_u 14 rfl (by kernel_rfl) (by kernel_rfl) (by kernel_rfl) (fun _ _ _ h => h) (by rfl) (by assumption) ?_
        try simp only [Act.put, List.setIfInBounds_toArray, List.set_cons_zero, List.set_cons_succ]
        refine take_u 15 rfl (by kernel_rfl) (by kernel_rfl) (by kernel_rfl) (fun _ _ _ h => h) (by rfl) (by assumption) ?_
        try simp only [Act.put, List.setIfInBounds_toArray, List.set_cons_zero, List.set_cons_succ]
        refine take_p 16 (v := ?vb16) rfl (by kernel_rfl) (by kernel_rfl) (by kernel_rfl) (fun _ _ _ h => h) (by rfl) (by assumption) ?yb16 ?rb16
        case yb16 => intro wS hSw; go_simp; try (with_reducible rfl)
        try simp only [Act.put, List.setIfInBounds_toArray, List.set_cons_zero, List.set_cons_succ]
        refine take_p 17 (v := ?vb17) rfl (by kernel_rfl) (by kernel_rfl) (by kernel_rfl) (fun _ _ _ h => h) (by rfl) (by assumption) ?yb17 ?rb17
        case yb17 => intro wS hSw; go_simp; try (with_reducible rfl)
        try simp only [Act.put, List.setIfInBounds_toArray, List.set_cons_zero, List.set_cons_succ]
        refine take_p 18 (v := ?vb18) rfl (by kernel_rfl) (by kernel_rfl) (by kernel_rfl) (fun _ _ _ h => h) (by rfl) (by assumption) ?yb18 ?rb18
        case yb18 => intro wS hSw; go_simp; try (with_reducible rfl)
        try simp only [Act.put, List.setIfInBounds_toArray, List.set_cons_zero, List.set_cons_succ]
        refine wpAnyH_done (by kernel_rfl) ?_ _
        have M9 := Lib.hid M8
        clear M8
        go_wp2_with fail
        go_ret
        exact ⟨rfl, M9.out⟩
    · have hea1 : (ea != 0) = true := by simpa using hea
      have hea2 : (ea == 0) = false := by simpa using hea
      have hl0 := hla1 hea
      subst hl0
      clear hsame hpos hla1 hea HSm heq
      generalize lb.length = nb at *
      go_wp2_with
        (first
          | (go_at_call 11; ((with_reducible refine (HBa.out _).mono ?_); rintro x W3 ⟨a3, c3, rfl, hL3, hb3⟩; have LA3 := Lib.hid hL3; have K3 := Lib.hid (H1.out.below hb3); have J3 := Lib.hid (H2.out.below hb3); have I3 := Lib.hid (bthen H3.out hb3); obtain ⟨q0, q1, q2, q3, q4, q5, q6, q7, q8⟩ := nine_cells (r := b') J3.out; clear hL3 hb3))
          | (go_at_call 11; ((with_reducible refine (HBb2.out _).mono ?_); rintro x W4 ⟨a4, c4, rfl, hL4, hb4⟩; have LA4 := Lib.hid (LA3.out.below hb4); have LB4 := Lib.hid hL4; have K4 := Lib.hid (K3.out.below hb4); have J4 := Lib.hid (J3.out.below hb4); have I4 := Lib.hid (bthen I3.out hb4); obtain ⟨r0, r1, r2, r3, r4, r5, r6, r7, r8⟩ := nine_cells (r := a') K4.out; clear hL4 hb4))
          | (go_at_call 14; ((with_reducible refine (HKa.out _).mono ?_); rintro x W6 ⟨rfl, hb6⟩; have LA6 := Lib.hid (LA4.out.below hb6); have LB6 := Lib.hid (LB4.out.below hb6); have K6 := Lib.hid (K4.out.below hb6); have J6 := Lib.hid (J4.out.below hb6); have I6 := Lib.hid (bthen I4.out hb6); obtain ⟨s0, s1, s2, s3, s4, s5, s6, s7, s8⟩ := nine_cells (r := b') J6.out; clear hb6))
          | (go_at_call 14; ((with_reducible refine (HKb.out _).mono ?_); rintro x W7 ⟨rfl, hb7⟩; have LA := Lib.hid (LA6.out.below hb7); have LB := Lib.hid (LB6.out.below hb7); have K7 := Lib.hid (K6.out.below hb7); have J7 := Lib.hid (J6.out.below hb7); have I7 := Lib.hid (bthen I6.out hb7); clear hb7))
          | fail)
      have M7 := Lib.hid (bdry I7.out)
      refine wp_region_held_drew (S := (fun w' => Below w.heap.size w w')) (by kernel_rfl) (by exact M7.out) (fun hHeld => ?_)
      refine take_c 0 (by kernel_rfl) rfl (fun K hK => ?_)
      go_simp
      ((with_reducible refine (known_any _).mono ?_); rintro x W8 ⟨rfl, hb8⟩; have M8 := bthen M7.out hb8; clear hb8)
      refine hK.out _ _ (by assumption) (fun hHeld => ?_)
      clear hK K
      try simp only [Act.put, List.setIfInBounds_toArray, List.set_cons_zero, List.set_cons_succ]
      refine take_p 1 (v := ?va1) rfl (by kernel_rfl) (by kernel_rfl) (by kernel_rfl) (fun _ _ _ h => h) (by rfl) (by assumption) ?ya1 ?ra1
      case ya1 => intro wS hSw; go_simp; try (with_reducible rfl)
      try simp only [Act.put, List.setIfInBounds_toArray, List.set_cons_zero, List.set_cons_succ]
      refine take_p 2 (v := ?va2) rfl (by kernel_rfl) (by kernel_rfl) (by kernel_rfl) (fun _ _ _ h => h) (by rfl) (by assumption) ?ya2 ?ra2
      case ya2 => intro wS hSw; go_simp; try (with_reducible rfl)
      try simp only [Act.put, List.setIfInBounds_toArray, List.set_cons_zero, List.set_cons_succ]
      refine take_p 3 (v := ?va3) rfl (by kernel_rfl) (by kernel_rfl) (by kernel_rfl) (fun _ _ _ h => h) (by rfl) (by assumption) ?ya3 ?ra3
      case ya3 => intro wS hSw; go_simp; try (with_reducible rfl)
      try simp only [Act.put, List.setIfInBounds_toArray, List.set_cons_zero, List.set_cons_succ]
      refine take_p 4 (v := ?va4) rfl (by kernel_rfl) (by kernel_rfl) (by kernel_rfl) (fun _ _ _ h => h) (by rfl) (by assumption) ?ya4 ?ra4
      case ya4 => intro wS hSw; go_simp; try (with_reducible rfl)
      try simp only [Act.put, List.setIfInBounds_toArray, List.set_cons_zero, List.set_cons_succ]
      refine take_u 5 rfl (by kernel_rfl) (by kernel_rfl) (by kernel_rfl) (fun _ _ _ h => h) (by rfl) (by assumption) ?_
      try simp only [Act.put, List.setIfInBounds_toArray, List.set_cons_zero, List.set_cons_succ]
      refine take_u 6 rfl (by kernel_rfl) (by kernel_rfl) (by kernel_rfl) (fun _ _ _ h => h) (by rfl) (by assumption) ?_
      try simp only [Act.put, List.setIfInBounds_toArray, List.set_cons_zero, List.set_cons_succ]
      refine take_p 7 (v := ?va7) rfl (by kernel_rfl) (by kernel_rfl) (by kernel_rfl) (fun _ _ _ h => h) (by rfl) (by assumption) ?ya7 ?ra7
      case ya7 => intro wS hSw; go_simp; try (with_reducible rfl)
      try simp only [Act.put, List.setIfInBounds_toArray, List.set_cons_zero, List.set_cons_succ]
      refine take_p 8 (v := ?va8) rfl (by kernel_rfl) (by kernel_rfl) (by kernel_rfl) (fun _ _ _ h => h) (by rfl) (by assumption) ?ya8 ?ra8
      case ya8 => intro wS hSw; go_simp; try (with_reducible rfl)
      try simp only [Act.put, List.setIfInBounds_toArray, List.set_cons_zero, List.set_cons_succ]
      refine take_u 9 rfl (by kernel_rfl) (by kernel_rfl) (by kernel_rfl) (fun _ _ _ h => h) (by rfl) (by assumption) ?_
      try simp only [Act.put, List.setIfInBounds_toArray, List.set_cons_zero, List.set_cons_succ]
      refine take_u 10 rfl (by kernel_rfl) (by kernel_rfl) (by kernel_rfl) (fun _ _ _ h => h) (by rfl) (by assumption) ?_
      try simp only [Act.put, List.setIfInBounds_toArray, List.set_cons_zero, List.set_cons_succ]
      refine take_u 11 rfl (by kernel_rfl) (by kernel_rfl) (by kernel_rfl) (fun _ _ _ h => h) (by rfl) (by assumption) ?_
      try simp only [Act.put, List.setIfInBounds_toArray, List.set_cons_zero, List.set_cons_succ]
      refine take_u 12 rfl (by kernel_rfl) (by kernel_rfl) (by kernel_rfl) (fun _ _ _ h => h) (by rfl) (by assumption) ?_
      try simp only [Act.put, List.setIfInBounds_toArray, List.set_cons_zero, List.set_cons_succ]
      refine take_u 13 rfl (by kernel_rfl) (by kernel_rfl) (by kernel_rfl) (fun _ _ _ h => h) (by rfl) (by assumption) ?_
      try simp only [Act.put, List.setIfInBounds_toArray, List.set_cons_zero, List.set_cons_succ]
      refine take_u 14 rfl (by kernel_rfl) (by kernel_rfl) (by kernel_rfl) (fun _ _ _ h => h) (by rfl) (by assumption) ?_
      try simp only [Act.put, List.setIfInBounds_toArray, List.set_cons_zero, List.set_cons_succ]
      refine take_u 15 rfl (by kernel_rfl) (by kernel_rfl) (by kernel_rfl) (fun _ _ _ h => h) (by rfl) (by assumption) ?_
      try simp only [Act.put, List.setIfInBounds_toArray, List.set_cons_zero, List.set_cons_succ]
      refine take_p 16 (v := ?va16) rfl (by kernel_rfl) (by kernel_rfl) (by kernel_rfl) (fun _ _ _ h => h) (by rfl) (by assumption) ?ya16 ?ra16
      case ya16 => intro wS hSw; go_simp; try (with_reducible rfl)
      try simp only [Act.put, List.setIfInBounds_toArray, List.set_cons_zero, List.set_cons_succ]
      refine take_p 17 (v := ?va17) rfl (by kernel_rfl) (by kernel_rfl) (by kernel_rfl) (fun _ _ _ h => h) (by rfl) (by assumption) ?ya17 ?ra17
      case ya17 => intro wS hSw; go_simp; try (with_reducible rfl)
      try simp only [Act.put, List.setIfInBounds_toArray, List.set_cons_zero, List.set_cons_succ]
      refine take_p 18 (v := ?va18) rfl (by kernel_rfl) (by kernel_rfl) (by kernel_rfl) (fun _ _ _ h => h) (by rfl) (by assumption) ?ya18 ?ra18
      case ya18 => intro wS hSw; go_simp; try (with_reducible rfl)
      try simp only [Act.put, List.setIfInBounds_toArray, List.set_cons_zero, List.set_cons_succ]
      refine wpAnyH_done (by kernel_rfl) ?_ _
      have M9 := Lib.hid M8
      clear M8
      go_wp2_with fail
      go_ret
      exact ⟨rfl, M9.out⟩
/-- Unlike right records have unlike bytes. -/
theorem recordApart_any (a b : R) (w : World) (ha : a.ok) (hb : b.ok) :
    Calls Try.prog 4 #[.agg #[.int .u8 a.k, .int .u8 a.s, .int .u8 a.u, .int .u8 a.p, .int .u8 a.m, .bool a.g, .int .u32 a.v, .int .u64 a.a, .string a.t], .agg #[.int .u8 b.k, .int .u8 b.s, .int .u8 b.u, .int .u8 b.p, .int .u8 b.m, .bool b.g, .int .u32 b.v, .int .u64 b.a, .string b.t]] w fun x w' => x = .returned (.bool true) ∧ Below w.heap.size w w' := recordApart_at a b w ha hb
end Go.Proofs.Ytaekpejpcafnkaa.rw
