/-
  The walks of layer 12's laws: a version with a short text; a chain of those of some versions that may be put.
-/
import Derived.Test.YtpbdgfgjlccapaaChnP
import Derived.Laws.Small
namespace Go.Proofs.Ytpbdgfgjlccapaa.cw
open Go.RowKit Go.Proofs.Ytpbdgfgjlccapaa.ba Go.Proofs.Ytpbdgfgjlccapaa.rp Go.Proofs.Ytpbdgfgjlccapaa.rw Go.Proofs.Ytpbdgfgjlccapaa.cp
set_option maxRecDepth 8000
set_option linter.unusedVariables false

/-- A version with a short text; a dead one without a record, if it is told so. -/
def cutV (v : V) (c : Bool) : V := if c = true ∧ v.d = true then ⟨v.a, v.d, zeroR⟩ else ⟨v.a, v.d, { v.r with t := v.r.t.extract 0 (min v.r.t.size 80) }⟩
theorem zeroR_ok : zeroR.ok := by constructor <;> first | (simp [zeroR]; done) | exact Nat.zero_le _
theorem cutV_ok {v : V} (h : v.ok) (c : Bool) : (cutV v c).ok := by
  unfold cutV
  split
  · exact ⟨h.a, zeroR_ok⟩
  · refine ⟨h.a, ⟨h.r.k, h.r.s, h.r.u, h.r.p, h.r.m, h.r.v, h.r.a, ?_⟩⟩
    have := h.r.t
    simp only [ByteArray.size_extract]
    omega
theorem box_b (w : World) (o : Obj) : Below w.heap.size w (w.alloc o) := (Below.refl _ _).alloc (Nat.le_refl _) _
theorem box_b2 (w : World) (o o' : Obj) : Below w.heap.size w ((w.alloc o).alloc o') := bthen (box_b w o) (box_b _ o')
set_option maxRecDepth 100000 in
set_option maxHeartbeats 2000000 in
theorem cut_any (v : V) (c : Bool) (w : World) (hv : v.ok) :
    Calls Try.prog 16 #[.agg #[.int .u64 v.a, .bool v.d, .int .u8 v.r.k, .int .u8 v.r.s, .int .u8 v.r.u, .int .u8 v.r.p, .int .u8 v.r.m, .bool v.r.g, .int .u32 v.r.v, .int .u64 v.r.a, .string v.r.t], .bool c] w fun x w' => x = .returned (.agg #[.int .u64 (cutV v c).a, .bool (cutV v c).d, .int .u8 (cutV v c).r.k, .int .u8 (cutV v c).r.s, .int .u8 (cutV v c).r.u, .int .u8 (cutV v c).r.p, .int .u8 (cutV v c).r.m, .bool (cutV v c).r.g, .int .u32 (cutV v c).r.v, .int .u64 (cutV v c).r.a, .string (cutV v c).r.t]) ∧ Below w.heap.size w w' := by
  obtain ⟨a, d, ⟨k, s, u, p, m, g, rv, ra, t⟩⟩ := v
  have ht := hv.r.t
  simp only at ht
  have HB := Lib.hid fun (o o' : Obj) => box_b2 w o o'
  have hmn : (if (80 : Int) < (t.size : Int) then (80 : Int) else (t.size : Int)) = ((min t.size 80 : Nat) : Int) := by split <;> omega
  have hmin : ∀ W, (Builtin.min_ #[3, 3] 3 #[.int .i64 (t.size : Int), .int .i64 80]).run Try.prog W = .ok (.int .i64 ((min t.size 80 : Nat) : Int)) W := fun W => by rw [run_min_int2, hmn]
  have h2 : ((min t.size 80 : Nat) : Int) ≤ (t.size : Int) := by omega
  have h0 : (0 : Int) ≤ ((min t.size 80 : Nat) : Int) := Int.natCast_nonneg _
  rcases (by cases c <;> cases d <;> simp : (c = true ∧ d = true) ∨ (c = true ∧ d = false) ∨ c = false) with ⟨rfl, rfl⟩ | ⟨rfl, rfl⟩ | rfl
  · have hE : cutV ⟨a, true, ⟨k, s, u, p, m, g, rv, ra, t⟩⟩ true = ⟨a, true, zeroR⟩ := if_pos ⟨rfl, rfl⟩
    rw [hE]
    simp only
    generalize hM : min t.size 80 = M at *
    clear hM hv hE hmn
    go_enter Try.func16, Try.ntmps16
    go_wp2_with fail
    exact bodyPost_ret (v := .agg #[.int .u64 (⟨a, true, zeroR⟩ : V).a, .bool (⟨a, true, zeroR⟩ : V).d, .int .u8 (⟨a, true, zeroR⟩ : V).r.k, .int .u8 (⟨a, true, zeroR⟩ : V).r.s, .int .u8 (⟨a, true, zeroR⟩ : V).r.u, .int .u8 (⟨a, true, zeroR⟩ : V).r.p, .int .u8 (⟨a, true, zeroR⟩ : V).r.m, .bool (⟨a, true, zeroR⟩ : V).r.g, .int .u32 (⟨a, true, zeroR⟩ : V).r.v, .int .u64 (⟨a, true, zeroR⟩ : V).r.a, .string (⟨a, true, zeroR⟩ : V).r.t]) (by simp [results, Try.results16, go_sem, zeroR]) rfl ⟨rfl, HB.out _ _⟩
  · have hE : cutV ⟨a, false, ⟨k, s, u, p, m, g, rv, ra, t⟩⟩ true = ⟨a, false, ⟨k, s, u, p, m, g, rv, ra, t.extract 0 (min t.size 80)⟩⟩ := if_neg (by simp)
    rw [hE]
    simp only
    generalize hM : min t.size 80 = M at *
    clear hM hv hE hmn
    go_enter Try.func16, Try.ntmps16
    go_wp2_with fail
    exact bodyPost_ret (v := .agg #[.int .u64 a, .bool false, .int .u8 k, .int .u8 s, .int .u8 u, .int .u8 p, .int .u8 m, .bool g, .int .u32 rv, .int .u64 ra, .string (t.extract 0 M)]) (by simp [results, Try.results16, go_sem]) rfl ⟨rfl, HB.out _ _⟩
  · have hE : cutV ⟨a, d, ⟨k, s, u, p, m, g, rv, ra, t⟩⟩ false = ⟨a, d, ⟨k, s, u, p, m, g, rv, ra, t.extract 0 (min t.size 80)⟩⟩ := if_neg (by simp)
    rw [hE]
    simp only
    generalize hM : min t.size 80 = M at *
    clear hM hv hE hmn
    go_enter Try.func16, Try.ntmps16
    go_wp2_with fail
    exact bodyPost_ret (v := .agg #[.int .u64 a, .bool d, .int .u8 k, .int .u8 s, .int .u8 u, .int .u8 p, .int .u8 m, .bool g, .int .u32 rv, .int .u64 ra, .string (t.extract 0 M)]) (by simp [results, Try.results16, go_sem]) rfl ⟨rfl, HB.out _ _⟩

/-- Those of some versions that may be put. -/
def putL (L : List V) : List V → List V
  | [] => L
  | v :: X => putL (puts L [cutV v true]).1 X
theorem putL_snoc (v : V) : ∀ (X L : List V), putL L (X ++ [v]) = (puts (putL L X) [cutV v true]).1
  | [], L => rfl
  | x :: X, L => putL_snoc v X _
theorem puts_len : ∀ (X L : List V), (puts L X).1.length ≤ L.length + X.length
  | [], L => Nat.le_refl _
  | v :: X, L => by
    unfold puts
    split
    · simp
    · have := puts_len X (L ++ [v])
      simp at this ⊢
      omega
theorem putL_len : ∀ (X L : List V), (putL L X).length ≤ L.length + X.length
  | [], L => Nat.le_refl _
  | v :: X, L => by
    have h1 := puts_len [cutV v true] L
    have h2 := putL_len X (puts L [cutV v true]).1
    simp [putL] at h1 h2 ⊢
    omega
theorem inc_putL : ∀ (X L : List V), Inc L → Inc (putL L X)
  | [], L, h => h
  | v :: X, L, h => inc_putL X _ (inc_puts _ _ h)

/-- A chain of the call's own: where it lies, and that nothing older has changed. -/
structure OC (w w' : World) (g : Nat) (L : List V) : Prop where
  c : ∃ q, CS w' w.heap.size g q L ∧ ∀ j, q = some j → w.heap.size ≤ j
  g : w.heap.size ≤ g
  b : Below w.heap.size w w'
theorem OC.below {w w1 w2 : World} {g : Nat} {L : List V} (h : OC w w1 g L) (hb : Below w1.heap.size w1 w2) : OC w w2 g L := by
  obtain ⟨q, hc, hq⟩ := h.c
  exact ⟨⟨q, hc.below hb, hq⟩, h.g, bthen h.b hb⟩
theorem OC.cp {w w1 : World} {g : Nat} {L : List V} (h : OC w w1 g L) (hl : L.length ≤ 1000000) : CP w1 (some ⟨g, 0, none⟩) L := by
  obtain ⟨q, hc, hq⟩ := h.c
  exact hc.cp hl
theorem OC.lt {w w1 : World} {g : Nat} {L : List V} (h : OC w w1 g L) : g < w1.heap.size := by
  obtain ⟨q, hc, hq⟩ := h.c
  exact hc.lt.1
theorem OC.new (w : World) : OC w (w.alloc (.cells #[.slice none 0 0] 40)) w.heap.size [] :=
  ⟨⟨none, ⟨.slice none 0 0, Blk.new w _ _, World.ownsRow_nil _ _ _ _, rfl⟩, fun j hj => by cases hj⟩, Nat.le_refl _, box_b w _⟩
/-- Put at a chain of the call's own: some versions that lie elsewhere. -/
theorem OC.put {w w1 : World} {g : Nat} {L X : List V} (h : OC w w1 g L) (a : Option Addr) (n c : Nat) (hX : VL w1 a X) (hn : X.length = n) (hXok : ∀ v ∈ X, v.ok) (hl : L.length + n ≤ 100000)
    (hap : ∀ p, a = some p → p.block ≠ g ∧ ∀ q, CS w1 w.heap.size g q L → q ≠ some p.block) :
    Calls Try.prog 19 #[.pointer (some ⟨g, 0, none⟩), .slice a n c] w1 fun e w' => e = .returned (.tuple #[.int .i64 ((puts L X).2.1 : Int), .int .i64 (puts L X).2.2]) ∧ OC w w' g (puts L X).1 := by
  obtain ⟨q, hc, hq⟩ := h.c
  refine (put_any w.heap.size g q a n c L X w1 hX hn hXok hc h.b.size hl (fun p hp => ?_)).mono ?_
  · rintro (e | e)
    · exact (hap p hp).1 e
    · exact (hap p hp).2 q hc e
  · rintro x w2 ⟨rfl, hD⟩
    obtain ⟨hb, q', hC', hq'⟩ := hD.get h.b h.g hq
    exact ⟨rfl, ⟨q', hC', hq'⟩, h.g, hb⟩
/-- One version, in new memory. -/
theorem OC.put1 {w w1 : World} {g : Nat} {L : List V} (v : V) (h : OC w w1 g L) (hv : v.ok) (hl : L.length ≤ 90000) :
    Calls Try.prog 19 #[.pointer (some ⟨g, 0, none⟩), .slice (some ⟨w1.heap.size, 0, none⟩) 1 1] (w1.alloc (.cells (#[.int .u64 v.a, .bool v.d, .int .u8 v.r.k, .int .u8 v.r.s, .int .u8 v.r.u, .int .u8 v.r.p, .int .u8 v.r.m, .bool v.r.g, .int .u32 v.r.v, .int .u64 v.r.a, .string v.r.t]) 43)) fun e w' => e = .returned (.tuple #[.int .i64 ((puts L [v]).2.1 : Int), .int .i64 (puts L [v]).2.2]) ∧ OC w w' g (puts L [v]).1 := by
  have hg := h.lt
  refine (h.below (box_b w1 _)).put _ 1 1 (vl_new w1 v) rfl (fun x hx => by simp at hx; subst hx; exact hv) (by omega) (fun p hp => ?_)
  cases hp
  refine ⟨by simp only; omega, fun q hq e => ?_⟩
  obtain ⟨q0, hc0, hq0⟩ := h.c
  obtain ⟨sv, hB, ho, rfl⟩ := hq
  obtain ⟨sv0, hB0, ho0, rfl⟩ := hc0
  have := (hB.one (hB0.alloc _)).1
  simp at this
  subst this
  have := (World.ownsRow.lt ho0 _ e).2
  simp at this
/-- Trim at a chain of the call's own. -/
theorem OC.trim {w w1 : World} {g : Nat} {L : List V} (h : OC w w1 g L) (pa : Option Addr) (pn pc : Nat) (P : List Int) (hP : Lst .u64 w1 pa P) (hpn : P.length = pn) (hl : L.length ≤ 100000) (hpl : pn ≤ 100000) :
    Calls Try.prog 9 #[.pointer (some ⟨g, 0, none⟩), .slice pa pn pc] w1 fun e w' => e = .returned (.int .i64 ((L.length : Int) - ((trimF L P).length : Int))) ∧ OC w w' g (trimF L P) := by
  obtain ⟨q, hc, hq⟩ := h.c
  rcases Nat.eq_zero_or_pos L.length with h0 | h0
  · have : L = [] := List.length_eq_zero_iff.1 h0
    subst this
    refine (trim_none (some ⟨g, 0, none⟩) pa pn pc w1 (h.cp (by simp))).mono ?_
    rintro x w2 ⟨rfl, hb⟩
    exact ⟨rfl, h.below hb⟩
  · refine (trim_any w.heap.size g q pa pn pc L P w1 hP hpn hc h.b.size hl hpl h0).mono ?_
    rintro x w2 ⟨rfl, hD⟩
    obtain ⟨hb, q', hC', hq'⟩ := hD.get h.b h.g hq
    exact ⟨rfl, ⟨q', hC', hq'⟩, h.g, hb⟩

set_option maxRecDepth 100000 in
set_option maxHeartbeats 4000000 in
theorem putlaw_any (a : Option Addr) (n c : Nat) (L : List V) (w : World) (hn : L.length = n) (hL : VL w a L) (hok : ∀ v ∈ L, v.ok) :
    Calls Try.prog 8 #[.slice a n c] w fun e w' => ∃ g, e = .returned (.pointer (some ⟨g, 0, none⟩)) ∧ OC w w' g (putL [] (L.take 20)) := by
  subst hn
  have HO := Lib.hid (OC.new w)
  go_enter Try.func8, Try.ntmps8
  go_wp2_with fail
  go_loopw [4] (fun i wr => ∃ k : Nat, i = .int .i64 k ∧ k ≤ L.length ∧ k ≤ 20 ∧ OC w wr w.heap.size (putL [] (L.take k))) (fun i _ => 20 - (intOf i).toNat)
  case atStart => exact ⟨0, rfl, Nat.zero_le _, Nat.zero_le _, HO.out⟩
  case round =>
    obtain ⟨k, rfl, hk, hk20, hC⟩ := hrel
    by_cases hlt : k < L.length
    · have hlti : (k : Int) < (L.length : Int) := by omega
      by_cases h20 : k < 20
      · have h20i : (k : Int) < 20 := by omega
        obtain ⟨v, hv⟩ := at_some hlt
        obtain ⟨vb, voff, rfl, hva⟩ := hL.at2 hv
        obtain ⟨c0, c1, c2, c3, c4, c5, c6, c7, c8, c9, c10⟩ := hva.below (hC.b)
        have hvok := hok v (List.mem_of_getElem? hv)
        have HC := Lib.hid (cut_any v true wr hvok)
        have HX := Lib.hid (cutV_ok hvok true)
        have hsn : putL [] (L.take (k + 1)) = (puts (putL [] (L.take k)) [cutV v true]).1 := by rw [take_snoc hv, putL_snoc]
        have HS := Lib.hid hsn
        have hle : (putL [] (L.take k)).length ≤ 90000 := by have := putL_len (L.take k) []; simp at this; omega
        have HP := Lib.hid (fun (W : World) (hb : Below wr.heap.size wr W) => (hC.below hb).put1 (cutV v true) HX.out hle)
        generalize cutV v true = y at *
        clear hva hvok hsn hle hC
        go_wp2_with (first
          | (go_at_call 16; ((with_reducible refine HC.out.mono ?_); rintro x w1 ⟨rfl, hb1⟩))
          | (go_at_call 19; ((with_reducible refine (HP.out _ hb1).mono ?_); rintro x w2 ⟨rfl, hO2⟩; have HO2 := Lib.hid hO2; clear hO2)))
        go_roundw
        case rel => exact ⟨k + 1, by go_num, by omega, by omega, by rw [HS.out]; exact HO2.out⟩
        case measure => simp [intOf]; omega
      · have hke : k = 20 := by omega
        subst hke
        have HO := Lib.hid hC
        clear hC
        go_wp2_with fail
        go_ret
        exact ⟨_, rfl, HO.out⟩
    · have hke : k = L.length := by omega
      have hnl : ¬ ((k : Int) < (L.length : Int)) := by omega
      have ht : L.take 20 = L.take k := by rw [hke, List.take_length, List.take_of_length_le (by omega)]
      rw [← ht] at hC
      have HO := Lib.hid hC
      clear hC ht
      go_wp2_with fail
      go_ret
      exact ⟨_, rfl, HO.out⟩
end Go.Proofs.Ytpbdgfgjlccapaa.cw
