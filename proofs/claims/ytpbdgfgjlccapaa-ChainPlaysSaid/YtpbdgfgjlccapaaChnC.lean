/-
  The walks of layer 12: Chain's Newest, Live, seen.
-/
import Derived.Test.YtpbdgfgjlccapaaChnB
namespace Go.Proofs.Ytpbdgfgjlccapaa.cw
open Go.RowKit Go.Shelf Go.Proofs.Ytpbdgfgjlccapaa.ba Go.Proofs.Ytpbdgfgjlccapaa.rp Go.Proofs.Ytpbdgfgjlccapaa.cp Go.Proofs.Ytpbdgfgjlccapaa.it
set_option maxRecDepth 8000
set_option linter.unusedVariables false
attribute [local go_sem] Oper.semAt_some

/-- A chain in memory, or a nil one. -/
def CP (w : World) (p : Option Addr) (L : List V) : Prop :=
  L.length ≤ 1000000 ∧ ((p = none ∧ L = []) ∨ ∃ g o a cap, p = some ⟨g, o, none⟩ ∧ w.cell? ⟨g, o, none⟩ = some (.slice a L.length cap) ∧ VL w a L)
theorem CP.below {w w' : World} {p : Option Addr} {L : List V} (h : CP w p L) (hb : Below w.heap.size w w') : CP w' p L := by
  refine ⟨h.1, ?_⟩
  rcases h.2 with h | ⟨g, o, a, cap, rfl, hc, hv⟩
  · exact .inl h
  · exact .inr ⟨g, o, a, cap, rfl, bsome hb hc (World.block_lt_of_cell? _ _ hc), hv.below hb⟩
theorem back_seq (F : Fence) (n : Nat) (hd : F.depth = none) (hall : ∀ f, F.fn f) (hro : F.round = none) (hn : 3 ≤ n) (Bc : Nat) (p : Option Addr) (L : List V) (w : World) (hBc : w.cell? ⟨Bc, 0, none⟩ = some (.pointer p)) (hC : CP w p L) :
    SeqO F n Try.prog 35 #[.pointer (some ⟨Bc, 0, none⟩)] encV (fun ys => ys = come L 0) (fun pre => ∃ m, m ≤ L.length ∧ pre = come L m) L.length w := by
  obtain ⟨hlen, ⟨rfl, rfl⟩ | ⟨g, o, a, cap, rfl, hg, hL⟩⟩ := hC
  · intro l J Jx W hW hJ hJx hY h0
    refine (back1_nil F n (hall _) hro Bc w hBc l J Jx W hW hJ hJx hY h0).mono ?_
    rintro e W' ⟨he, ⟨xs, rfl, hj⟩ | ⟨pre, hf, _⟩⟩
    · exact ⟨he, .inl ⟨_, rfl, hj⟩⟩
    · exact hf.elim
  · exact back1_seq F n hd (hall _) (hall _) (hall _) hro hn Bc g o cap a L hlen w hBc hg hL

def newestF (L : List V) : Int := ((L.getLast?).map (·.a)).getD 0
def liveF (L : List V) : Bool := ((L.getLast?).map fun v => !v.d).getD false

theorem come_one {L : List V} {m : Nat} {x : Nat × V} (h : come L m = [x]) : L.getLast? = some x.2 := by
  have hl := congrArg List.length h
  rw [come_length, List.length_singleton] at hl
  have hm : m < L.length := by omega
  obtain ⟨v, hv⟩ : ∃ v, L[m]? = some v := ⟨_, List.getElem?_eq_getElem hm⟩
  rw [come_step L m v hv, show m + 1 = L.length from by omega, come_all] at h
  simp at h
  rw [List.getLast?_eq_getElem?, show L.length - 1 = m from by omega, hv, ← h]
theorem come_none {L : List V} (h : come L 0 = []) : L = [] := by
  have hl := congrArg List.length h
  rw [come_length] at hl
  exact List.length_eq_zero_iff.1 (by simpa using hl)

set_option maxRecDepth 100000 in
set_option maxHeartbeats 4000000 in
theorem newest_in (F : Fence) (n : Nat) (hd : F.depth = none) (hall : ∀ f, F.fn f) (hro : F.round = none) (hn : 4 ≤ n) (p : Option Addr) (L : List V) (w : World) (hC : CP w p L) :
    CallsIn F n Try.prog 11 #[.pointer p] w fun e w' => e = .returned (.int .u64 (newestF L)) ∧ Below w.heap.size w w' := by
  have h1 : 1 ≤ n := by omega
  refine callsIn_of_wp_marks Try.func11 rfl (hall _) ?_ hro
  simp only [Try.ntmps11, List.size_toArray, List.length_cons, List.length_nil, Nat.reduceAdd, Nat.reduceSub, Array.replicate_succ, Array.replicate_zero, List.push_toArray, List.append_toArray, List.nil_append, List.cons_append]
  gi_wp2_with (gi_at_call 29; refine (back_in F (n - 1) (hall _) hro _ _).mono ?_; rintro e w' ⟨rfl, rfl⟩)
  have hr0 := Boxed.new w 24 (.int .u64 0)
  have hc0 := cnew (w.alloc (.cells #[.int .u64 0] 24)) (.pointer p) 25
  rw [World.size_alloc] at hc0
  have hb0 : Below w.heap.size w ((w.alloc (.cells #[.int .u64 0] 24)).alloc (.cells #[.pointer p] 25)) := ((Below.refl _ w).alloc (Nat.le_refl _) _).alloc (by simp) _
  have hsz : ((w.alloc (.cells #[.int .u64 0] 24)).alloc (.cells #[.pointer p] 25)).heap.size = w.heap.size + 2 := by simp
  refine wpIn_rangeFunc_O hro h1 (gf := 35) (lb := #[.pointer (some ⟨w.heap.size + 1, 0, none⟩)]) rfl (hall _) (enters_of Try.func35 (by kernel_rfl) rfl)
    (back_seq F (n - 1) hd hall hro (by omega) (w.heap.size + 1) p L _ hc0 (hC.below hb0)) (Below.refl _ _) (fun _ => rfl)
    (fun pre W => pre = [] ∧ Boxed W w.heap.size 24 (.int .u64 0) ∧ Below w.heap.size w W)
    (fun pre W => ∃ x : Nat × V, pre = [x] ∧ Boxed W w.heap.size 24 (.int .u64 x.2.a) ∧ Below w.heap.size w W)
    (fun s A B row hs hgr hr => ⟨hs.1, (boxed_own (β := Unit) _ _ (fun _ => _)) () A B row hs.2.1 hgr (fun r e => (hr r e).2), (ownFrom_below (β := Unit) (Nat.le_refl _) hb0.size) () A B row hs.2.2 hgr hr⟩)
    (fun s A B row hs hgr hr => by
      obtain ⟨x, hx, hs1, hs2⟩ := hs
      exact ⟨x, hx, (boxed_own (β := Unit) _ _ (fun _ => _)) () A B row hs1 hgr (fun r e => (hr r e).2), (ownFrom_below (β := Unit) (Nat.le_refl _) hb0.size) () A B row hs2 hgr hr⟩)
    ⟨rfl, hr0.alloc _, hb0⟩
    (fun x a' W2 => ∃ Bx, w.heap.size < Bx ∧ VAt W2 ⟨Bx, 0, none⟩ x.2 ∧ a' = { tmps := #[.pointer p, undef, .pointer (some ⟨w.heap.size, 0, none⟩), undef, .pointer (some ⟨Bx, 0, none⟩), .pointer p, .func (.func 35) #[] #[.pointer (some ⟨w.heap.size + 1, 0, none⟩)], .int .i64 (x.1 : Int), .agg #[.int .u64 x.2.a, .bool x.2.d, .int .u8 x.2.r.k, .int .u8 x.2.r.s, .int .u8 x.2.r.u, .int .u8 x.2.r.p, .int .u8 x.2.r.m, .bool x.2.r.g, .int .u32 x.2.r.v, .int .u64 x.2.r.a, .string x.2.r.t], undef, undef], defers := [] })
    (fun x a' s A B row hs hgr hr => by
      obtain ⟨Bx, hlt, hv, he⟩ := hs
      exact ⟨Bx, hlt, hv.kept ((CellsKept.refl A).grown hgr (fun r e => (hr r e).2)), he⟩) ?assign ?body ?done ?stop
  case assign =>
    intro l2 pre x W2 K hi hz hK
    obtain ⟨i, v⟩ := x
    dsimp only [encV]
    gi_wp2
    have hgr := grown_new W2 (.cells (#[.int .u64 v.a, .bool v.d, .int .u8 v.r.k, .int .u8 v.r.s, .int .u8 v.r.u, .int .u8 v.r.p, .int .u8 v.r.m, .bool v.r.g, .int .u32 v.r.v, .int .u64 v.r.a, .string v.r.t]) 43)
    exact hK _ _ ((grown_others hgr).from _) (grown_cells hgr) ⟨hi.1, hi.2.1.alloc _, hi.2.2.alloc hi.2.2.size _⟩ ⟨W2.heap.size, by omega, vat_new W2 v, rfl⟩
  case body =>
    rintro l2 pre ⟨i, v⟩ a' W2 hz ⟨rfl, hbx, hbl⟩ ⟨Bx, hlt, hv, rfl⟩ _
    obtain ⟨c0, c1, c2, c3, c4, c5, c6, c7, c8, c9, c10⟩ := hv
    have hc := hbx.cell
    have hf := hbx.frozen
    gi_wp2
    exact ⟨(KeepsOthers.setCell _ _ _).from _, i, v, rfl, hbx.set _, hbl.setCell (p := ⟨w.heap.size, 0, none⟩) (Nat.le_refl _) _⟩
  case done =>
    rintro D ys W2 hD rfl ⟨hnil, hbx, hbl⟩ hK
    obtain rfl := come_none hnil
    have hc := hbx.cell
    have hf := hbx.frozen
    gi_wp2
    have hK' := (KeepsOthers.setCell W2 ⟨w.heap.size, 0, none⟩ (.int .u64 0)).same D _ hK rfl
    refine ⟨by simp, .inl ⟨_, _, rfl, run_takeDeferred hK', ?_⟩⟩
    have hc5 := ((hbx.set (.int .u64 0)).kept (grownBy_putObj' _ D (.deferred none)) (by simp; omega)).cell
    refine ⟨.int .u64 0, ?_, rfl, ((hbl.setCell (p := ⟨w.heap.size, 0, none⟩) (Nat.le_refl _) _).trans (belowK_b (w := w) (Nat.le_refl _) _ D _ _ (by omega) hK' rfl rfl))⟩
    simp [results, Try.f11, go_sem, hc5]
  case stop =>
    rintro D pre W2 hD ⟨m, hm, rfl⟩ ⟨x, hx, hbx, hbl⟩ hK
    have hl := come_one hx
    have hc := hbx.cell
    have hf := hbx.frozen
    gi_wp2
    refine ⟨by simp, .inl ⟨_, _, rfl, run_takeDeferred hK, ?_⟩⟩
    have hc5 := (hbx.kept (grownBy_putObj' _ D (.deferred none)) (by simp; omega)).cell
    refine ⟨.int .u64 x.2.a, ?_, by unfold newestF; rw [hl]; rfl, hbl.trans (belowK_b (w := w) (Nat.le_refl _) _ D _ _ (by omega) hK rfl rfl)⟩
    simp [results, Try.f11, go_sem, hc5]
theorem newest_any (p : Option Addr) (L : List V) (w : World) (hC : CP w p L) :
    Calls Try.prog 11 #[.pointer p] w fun e w' => e = .returned (.int .u64 (newestF L)) ∧ Below w.heap.size w w' :=
  (callsIn_wide (n := 4)).1 (newest_in Fence.wide 4 rfl (fun _ => trivial) rfl (Nat.le_refl _) p L w hC)

set_option maxRecDepth 100000 in
set_option maxHeartbeats 4000000 in
theorem live_in (F : Fence) (n : Nat) (hd : F.depth = none) (hall : ∀ f, F.fn f) (hro : F.round = none) (hn : 4 ≤ n) (p : Option Addr) (L : List V) (w : World) (hC : CP w p L) :
    CallsIn F n Try.prog 13 #[.pointer p] w fun e w' => e = .returned (.bool (liveF L)) ∧ Below w.heap.size w w' := by
  have h1 : 1 ≤ n := by omega
  refine callsIn_of_wp_marks Try.func13 rfl (hall _) ?_ hro
  simp only [Try.ntmps13, List.size_toArray, List.length_cons, List.length_nil, Nat.reduceAdd, Nat.reduceSub, Array.replicate_succ, Array.replicate_zero, List.push_toArray, List.append_toArray, List.nil_append, List.cons_append]
  gi_wp2_with (gi_at_call 29; refine (back_in F (n - 1) (hall _) hro _ _).mono ?_; rintro e w' ⟨rfl, rfl⟩)
  have hr0 := Boxed.new w 4 (.bool false)
  have hc0 := cnew (w.alloc (.cells #[.bool false] 4)) (.pointer p) 25
  rw [World.size_alloc] at hc0
  have hb0 : Below w.heap.size w ((w.alloc (.cells #[.bool false] 4)).alloc (.cells #[.pointer p] 25)) := ((Below.refl _ w).alloc (Nat.le_refl _) _).alloc (by simp) _
  have hsz : ((w.alloc (.cells #[.bool false] 4)).alloc (.cells #[.pointer p] 25)).heap.size = w.heap.size + 2 := by simp
  refine wpIn_rangeFunc_O hro h1 (gf := 35) (lb := #[.pointer (some ⟨w.heap.size + 1, 0, none⟩)]) rfl (hall _) (enters_of Try.func35 (by kernel_rfl) rfl)
    (back_seq F (n - 1) hd hall hro (by omega) (w.heap.size + 1) p L _ hc0 (hC.below hb0)) (Below.refl _ _) (fun _ => rfl)
    (fun pre W => pre = [] ∧ Boxed W w.heap.size 4 (.bool false) ∧ Below w.heap.size w W)
    (fun pre W => ∃ x : Nat × V, pre = [x] ∧ Boxed W w.heap.size 4 (.bool (!x.2.d)) ∧ Below w.heap.size w W)
    (fun s A B row hs hgr hr => ⟨hs.1, (boxed_own (β := Unit) _ _ (fun _ => _)) () A B row hs.2.1 hgr (fun r e => (hr r e).2), (ownFrom_below (β := Unit) (Nat.le_refl _) hb0.size) () A B row hs.2.2 hgr hr⟩)
    (fun s A B row hs hgr hr => by
      obtain ⟨x, hx, hs1, hs2⟩ := hs
      exact ⟨x, hx, (boxed_own (β := Unit) _ _ (fun _ => _)) () A B row hs1 hgr (fun r e => (hr r e).2), (ownFrom_below (β := Unit) (Nat.le_refl _) hb0.size) () A B row hs2 hgr hr⟩)
    ⟨rfl, hr0.alloc _, hb0⟩
    (fun x a' W2 => ∃ Bx, w.heap.size < Bx ∧ VAt W2 ⟨Bx, 0, none⟩ x.2 ∧ a' = { tmps := #[.pointer p, undef, .pointer (some ⟨w.heap.size, 0, none⟩), undef, .pointer (some ⟨Bx, 0, none⟩), .pointer p, .func (.func 35) #[] #[.pointer (some ⟨w.heap.size + 1, 0, none⟩)], .int .i64 (x.1 : Int), .agg #[.int .u64 x.2.a, .bool x.2.d, .int .u8 x.2.r.k, .int .u8 x.2.r.s, .int .u8 x.2.r.u, .int .u8 x.2.r.p, .int .u8 x.2.r.m, .bool x.2.r.g, .int .u32 x.2.r.v, .int .u64 x.2.r.a, .string x.2.r.t], undef, undef, undef], defers := [] })
    (fun x a' s A B row hs hgr hr => by
      obtain ⟨Bx, hlt, hv, he⟩ := hs
      exact ⟨Bx, hlt, hv.kept ((CellsKept.refl A).grown hgr (fun r e => (hr r e).2)), he⟩) ?assign ?body ?done ?stop
  case assign =>
    intro l2 pre x W2 K hi hz hK
    obtain ⟨i, v⟩ := x
    dsimp only [encV]
    gi_wp2
    have hgr := grown_new W2 (.cells (#[.int .u64 v.a, .bool v.d, .int .u8 v.r.k, .int .u8 v.r.s, .int .u8 v.r.u, .int .u8 v.r.p, .int .u8 v.r.m, .bool v.r.g, .int .u32 v.r.v, .int .u64 v.r.a, .string v.r.t]) 43)
    exact hK _ _ ((grown_others hgr).from _) (grown_cells hgr) ⟨hi.1, hi.2.1.alloc _, hi.2.2.alloc hi.2.2.size _⟩ ⟨W2.heap.size, by omega, vat_new W2 v, rfl⟩
  case body =>
    rintro l2 pre ⟨i, v⟩ a' W2 hz ⟨rfl, hbx, hbl⟩ ⟨Bx, hlt, hv, rfl⟩ _
    obtain ⟨c0, c1, c2, c3, c4, c5, c6, c7, c8, c9, c10⟩ := hv
    have hc := hbx.cell
    have hf := hbx.frozen
    gi_wp2
    exact ⟨(KeepsOthers.setCell _ _ _).from _, i, v, rfl, hbx.set _, hbl.setCell (p := ⟨w.heap.size, 0, none⟩) (Nat.le_refl _) _⟩
  case done =>
    rintro D ys W2 hD rfl ⟨hnil, hbx, hbl⟩ hK
    obtain rfl := come_none hnil
    have hc := hbx.cell
    have hf := hbx.frozen
    gi_wp2
    have hK' := (KeepsOthers.setCell W2 ⟨w.heap.size, 0, none⟩ (.bool false)).same D _ hK rfl
    refine ⟨by simp, .inl ⟨_, _, rfl, run_takeDeferred hK', ?_⟩⟩
    have hc5 := ((hbx.set (.bool false)).kept (grownBy_putObj' _ D (.deferred none)) (by simp; omega)).cell
    refine ⟨.bool false, ?_, rfl, ((hbl.setCell (p := ⟨w.heap.size, 0, none⟩) (Nat.le_refl _) _).trans (belowK_b (w := w) (Nat.le_refl _) _ D _ _ (by omega) hK' rfl rfl))⟩
    simp [results, Try.f13, go_sem, hc5]
  case stop =>
    rintro D pre W2 hD ⟨m, hm, rfl⟩ ⟨x, hx, hbx, hbl⟩ hK
    have hl := come_one hx
    have hc := hbx.cell
    have hf := hbx.frozen
    gi_wp2
    refine ⟨by simp, .inl ⟨_, _, rfl, run_takeDeferred hK, ?_⟩⟩
    have hc5 := (hbx.kept (grownBy_putObj' _ D (.deferred none)) (by simp; omega)).cell
    refine ⟨.bool (!x.2.d), ?_, by unfold liveF; rw [hl]; rfl, hbl.trans (belowK_b (w := w) (Nat.le_refl _) _ D _ _ (by omega) hK rfl rfl)⟩
    simp [results, Try.f13, go_sem, hc5]
theorem live_any (p : Option Addr) (L : List V) (w : World) (hC : CP w p L) :
    Calls Try.prog 13 #[.pointer p] w fun e w' => e = .returned (.bool (liveF L)) ∧ Below w.heap.size w w' :=
  (callsIn_wide (n := 4)).1 (live_in Fence.wide 4 rfl (fun _ => trivial) rfl (Nat.le_refl _) p L w hC)

theorem seen_come (L : List V) (t : Int) (m : Nat) (hm : m ≤ L.length) (h : ∀ x ∈ come L m, t < x.2.a) : seenK L t L.length = seenK L t m := by
  obtain ⟨d, hd⟩ : ∃ d, L.length = m + d := ⟨L.length - m, by omega⟩
  induction d generalizing m with
  | zero => rw [show L.length = m from by omega]
  | succ d ih =>
    obtain ⟨v, hv⟩ : ∃ v, L[m]? = some v := ⟨_, List.getElem?_eq_getElem (by omega)⟩
    rw [come_step L m v hv] at h
    have hmv : t < v.a := h (m, v) (List.mem_append.2 (.inr (by simp)))
    rw [ih (m + 1) (by omega) (fun x hx => h x (List.mem_append.2 (.inl hx))) (by omega)]
    simp only [seenK, hv]
    rw [if_neg (by omega)]
theorem seen_stop (L : List V) (t : Int) (m : Nat) (pre : List (Nat × V)) (x : Nat × V) (hm : m ≤ L.length) (h : come L m = pre ++ [x]) (hp : ∀ y ∈ pre, t < y.2.a) (hx : x.2.a ≤ t) : seenK L t L.length = (x.1 : Int) := by
  have hlt : m < L.length := by
    have := congrArg List.length h
    rw [come_length] at this
    simp at this
    omega
  obtain ⟨v, hv⟩ : ∃ v, L[m]? = some v := ⟨_, List.getElem?_eq_getElem hlt⟩
  rw [come_step L m v hv] at h
  obtain ⟨h1, h2⟩ := List.append_inj' h rfl
  simp at h2
  subst h2
  rw [seen_come L t (m + 1) (by omega) (by rw [h1]; exact hp)]
  simp only [seenK, hv]
  rw [if_pos hx]

def Ab (t : Int) (pre : List (Nat × V)) : Prop := ∀ y ∈ pre, t < y.2.a
set_option maxRecDepth 100000 in
set_option maxHeartbeats 4000000 in
theorem seen_in (F : Fence) (n : Nat) (hd : F.depth = none) (hall : ∀ f, F.fn f) (hro : F.round = none) (hn : 4 ≤ n) (p : Option Addr) (t : Int) (L : List V) (w : World) (hC : CP w p L) :
    CallsIn F n Try.prog 24 #[.pointer p, .int .u64 t] w fun e w' => e = .returned (.int .i64 (seenK L t L.length)) ∧ Below w.heap.size w w' := by
  have h1 : 1 ≤ n := by omega
  refine callsIn_of_wp_marks Try.func24 rfl (hall _) ?_ hro
  simp only [Try.ntmps24, List.size_toArray, List.length_cons, List.length_nil, Nat.reduceAdd, Nat.reduceSub, Array.replicate_succ, Array.replicate_zero, List.push_toArray, List.append_toArray, List.nil_append, List.cons_append]
  gi_wp2_with (gi_at_call 29; refine (back_in F (n - 1) (hall _) hro _ _).mono ?_; rintro e w' ⟨rfl, rfl⟩)
  have ht0 := Boxed.new w 24 (.int .u64 t)
  have hr0 := Boxed.new (w.alloc (.cells #[.int .u64 t] 24)) 3 (.int .i64 0)
  have hc0 := cnew ((w.alloc (.cells #[.int .u64 t] 24)).alloc (.cells #[.int .i64 0] 3)) (.pointer p) 25
  simp only [World.size_alloc] at hc0 hr0
  have hb0 : Below w.heap.size w (((w.alloc (.cells #[.int .u64 t] 24)).alloc (.cells #[.int .i64 0] 3)).alloc (.cells #[.pointer p] 25)) := (((Below.refl _ w).alloc (Nat.le_refl _) _).alloc (by simp) _).alloc (by simp; omega) _
  have hsz : (((w.alloc (.cells #[.int .u64 t] 24)).alloc (.cells #[.int .i64 0] 3)).alloc (.cells #[.pointer p] 25)).heap.size = w.heap.size + 3 := by simp
  refine wpIn_rangeFunc_O hro h1 (gf := 35) (lb := #[.pointer (some ⟨w.heap.size + 1 + 1, 0, none⟩)]) rfl (hall _) (enters_of Try.func35 (by kernel_rfl) rfl)
    (back_seq F (n - 1) hd hall hro (by omega) (w.heap.size + 1 + 1) p L _ hc0 (hC.below hb0)) (Below.refl _ _) (fun _ => rfl)
    (fun pre W => Ab t pre ∧ Boxed W (w.heap.size + 1) 3 (.int .i64 0) ∧ Boxed W w.heap.size 24 (.int .u64 t) ∧ Below w.heap.size w W)
    (fun pre W => (∃ q x, pre = q ++ [x] ∧ Ab t q ∧ x.2.a ≤ t ∧ Boxed W (w.heap.size + 1) 3 (.int .i64 (x.1 : Int))) ∧ Below w.heap.size w W)
    (fun s A B row hs hgr hr => ⟨hs.1, (boxed_own (β := Unit) _ _ (fun _ => _)) () A B row hs.2.1 hgr (fun r e => (hr r e).2), (boxed_own (β := Unit) _ _ (fun _ => _)) () A B row hs.2.2.1 hgr (fun r e => (hr r e).2), (ownFrom_below (β := Unit) (Nat.le_refl _) hb0.size) () A B row hs.2.2.2 hgr hr⟩)
    (fun s A B row hs hgr hr => by
      obtain ⟨⟨q, x, hx, hq, hxt, hs1⟩, hs2⟩ := hs
      exact ⟨⟨q, x, hx, hq, hxt, (boxed_own (β := Unit) _ _ (fun _ => _)) () A B row hs1 hgr (fun r e => (hr r e).2)⟩, (ownFrom_below (β := Unit) (Nat.le_refl _) hb0.size) () A B row hs2 hgr hr⟩)
    ⟨fun _ h => by simp at h, hr0.alloc _, (ht0.alloc _).alloc _, hb0⟩
    (fun x a' W2 => ∃ Bx, w.heap.size + 1 < Bx ∧ VAt W2 ⟨Bx, 0, none⟩ x.2 ∧ a' = { tmps := #[.pointer p, .int .u64 t, undef, .pointer (some ⟨w.heap.size, 0, none⟩), .pointer (some ⟨w.heap.size + 1, 0, none⟩), .int .i64 (x.1 : Int), .pointer (some ⟨Bx, 0, none⟩), .pointer p, .func (.func 35) #[] #[.pointer (some ⟨w.heap.size + 1 + 1, 0, none⟩)], .int .i64 (x.1 : Int), .agg #[.int .u64 x.2.a, .bool x.2.d, .int .u8 x.2.r.k, .int .u8 x.2.r.s, .int .u8 x.2.r.u, .int .u8 x.2.r.p, .int .u8 x.2.r.m, .bool x.2.r.g, .int .u32 x.2.r.v, .int .u64 x.2.r.a, .string x.2.r.t], undef, undef, undef, undef, undef], defers := [] })
    (fun x a' s A B row hs hgr hr => by
      obtain ⟨Bx, hlt, hv, he⟩ := hs
      exact ⟨Bx, hlt, hv.kept ((CellsKept.refl A).grown hgr (fun r e => (hr r e).2)), he⟩) ?assign ?body ?done ?stop
  case assign =>
    intro l2 pre x W2 K hi hz hK
    obtain ⟨i, v⟩ := x
    dsimp only [encV]
    gi_wp2
    have hgr := grown_new W2 (.cells (#[.int .u64 v.a, .bool v.d, .int .u8 v.r.k, .int .u8 v.r.s, .int .u8 v.r.u, .int .u8 v.r.p, .int .u8 v.r.m, .bool v.r.g, .int .u32 v.r.v, .int .u64 v.r.a, .string v.r.t]) 43)
    exact hK _ _ ((grown_others hgr).from _) (grown_cells hgr) ⟨hi.1, hi.2.1.alloc _, hi.2.2.1.alloc _, hi.2.2.2.alloc hi.2.2.2.size _⟩ ⟨W2.heap.size, by omega, vat_new W2 v, rfl⟩
  case body =>
    rintro l2 pre ⟨i, v⟩ a' W2 hz ⟨hp, hbx, hbt, hbl⟩ ⟨Bx, hlt, hv, rfl⟩ _
    obtain ⟨c0, c1, c2, c3, c4, c5, c6, c7, c8, c9, c10⟩ := hv
    have hc := hbx.cell
    have hf := hbx.frozen
    have ht := hbt.cell
    rcases Int.lt_or_le t v.a with hlo | hhi
    · have hno : ¬ v.a ≤ t := by omega
      gi_wp2
      exact ⟨KeepsFrom.refl _ _, CellsKept.refl _, fun y hy => (List.mem_append.1 hy).elim (hp y) (fun e => by simp at e; subst e; exact hlo), hbx, hbt, hbl⟩
    · gi_wp2
      exact ⟨(KeepsOthers.setCell _ _ _).from _, ⟨pre, i, v, rfl, hp, hhi, hbx.set _⟩, hbl.setCell (p := ⟨w.heap.size + 1, 0, none⟩) (by simp) _⟩
  case done =>
    rintro D ys W2 hD rfl ⟨hnil, hbx, _, hbl⟩ hK
    have hval := seen_come L t 0 (Nat.zero_le _) hnil
    have hc := hbx.cell
    have hf := hbx.frozen
    gi_wp2
    have hK' := (KeepsOthers.setCell W2 ⟨w.heap.size + 1, 0, none⟩ (.int .i64 (-1))).same D _ hK rfl
    refine ⟨by simp, .inl ⟨_, _, rfl, run_takeDeferred hK', ?_⟩⟩
    have hc5 := ((hbx.set (.int .i64 (-1))).kept (grownBy_putObj' _ D (.deferred none)) (by simp; omega)).cell
    refine ⟨.int .i64 (-1), ?_, by rw [hval]; rfl, ((hbl.setCell (p := ⟨w.heap.size + 1, 0, none⟩) (by simp) _).trans (belowK_b (w := w) (Nat.le_refl _) _ D _ _ (by omega) hK' rfl rfl))⟩
    simp [results, Try.f24, go_sem, hc5]
  case stop =>
    rintro D pre W2 hD ⟨m, hm, rfl⟩ ⟨⟨q, x, hx, hq, hxt, hbx⟩, hbl⟩ hK
    have hl := seen_stop L t m q x hm hx hq hxt
    have hc := hbx.cell
    have hf := hbx.frozen
    gi_wp2
    refine ⟨by simp, .inl ⟨_, _, rfl, run_takeDeferred hK, ?_⟩⟩
    have hc5 := (hbx.kept (grownBy_putObj' _ D (.deferred none)) (by simp; omega)).cell
    refine ⟨.int .i64 (x.1 : Int), ?_, by rw [hl], hbl.trans (belowK_b (w := w) (Nat.le_refl _) _ D _ _ (by omega) hK rfl rfl)⟩
    simp [results, Try.f24, go_sem, hc5]
theorem seen_any (p : Option Addr) (t : Int) (L : List V) (w : World) (hC : CP w p L) :
    Calls Try.prog 24 #[.pointer p, .int .u64 t] w fun e w' => e = .returned (.int .i64 (seenK L t L.length)) ∧ Below w.heap.size w w' :=
  (callsIn_wide (n := 4)).1 (seen_in Fence.wide 4 rfl (fun _ => trivial) rfl (Nat.le_refl _) p t L w hC)
end Go.Proofs.Ytpbdgfgjlccapaa.cw
