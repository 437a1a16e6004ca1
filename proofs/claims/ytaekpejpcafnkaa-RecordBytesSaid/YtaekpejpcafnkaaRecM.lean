/-
  The walks of layer 10: the document's reading of a record.
-/
import Derived.Test.YtaekpejpcafnkaaRecL
import Derived.Test.YtaekpejpcafnkaaRecF
import Derived.Test.YtaekpejpcafnkaaRecK
import Derived.Test.YtaekpejpcafnkaaWireZ
namespace Go.Proofs.Ytaekpejpcafnkaa.rw
open Go.RowKit Go.Proofs.Ytaekpejpcafnkaa.ba Go.Proofs.Ytaekpejpcafnkaa.rp Go.Proofs.Ytaekpejpcafnkaa.dp Go.Proofs.Ytaekpejpcafnkaa.dw Go.Proofs.Ytaekpejpcafnkaa.wp Go.Proofs.Ytaekpejpcafnkaa.ww
set_option maxRecDepth 8000
set_option linter.unusedVariables false
attribute [local go_sem ↓] Go.wp_at_zero Go.wp_at_succ

theorem tk_drop {α : Type} (z : α) (r : α × Int × Int) (l : List Int) (e : Int) : ∃ n, (tkF z r l e).2.1 = l.drop n := by
  unfold tkF
  split
  · exact ⟨_, rfl⟩
  · exact ⟨0, rfl⟩
theorem rdF_drop (s : St) (x : Nat × Nat) : ∃ n, (rdF s x).l = s.l.drop n := by
  unfold rdF
  split
  · exact tk_drop _ _ _ _
  split
  · exact tk_drop _ _ _ _
  split
  · exact tk_drop _ _ _ _
  split
  · exact tk_drop _ _ _ _
  · exact tk_drop _ _ _ _
theorem fold_drop (xs : List (Nat × Nat)) : ∀ s : St, ∃ n, (xs.foldl rdF s).l = s.l.drop n := by
  induction xs with
  | nil => exact fun s => ⟨0, rfl⟩
  | cons x xs ih =>
    intro s
    obtain ⟨n, hn⟩ := rdF_drop s x
    obtain ⟨m, hm⟩ := ih (rdF s x)
    exact ⟨n + m, by rw [List.foldl_cons, hm, hn, List.drop_drop]⟩
theorem rdJ_drop (k : Int) (s : St) (j : Nat) : ∃ n, (rdJ k s j).l = s.l.drop n := fold_drop _ s
theorem bytes_drop {l : List Int} (h : Bytes l) (n : Nat) : Bytes (l.drop n) := fun v hv => h v (List.mem_of_mem_drop hv)
theorem rdJ_ok {k : Int} {s : St} (hr : s.r.ok) (hB : Bytes s.l) : ∀ j, (rdJ k s j).r.ok ∧ (rdJ k s j).r.k = s.r.k := by
  intro j
  have : ∀ (xs : List (Nat × Nat)) (s : St), s.r.ok → Bytes s.l → (xs.foldl rdF s).r.ok ∧ (xs.foldl rdF s).r.k = s.r.k := by
    intro xs
    induction xs with
    | nil => exact fun s hr hB => ⟨hr, rfl⟩
    | cons x xs ih =>
      intro s hr hB
      obtain ⟨n, hn⟩ := rdF_drop s x
      have h1 := rdF_ok (x := x) hr hB
      have h2 := ih (rdF s x) h1.1 (by rw [hn]; exact bytes_drop hB n)
      exact ⟨h2.1, h2.2.trans h1.2⟩
  exact this _ s hr hB

section
variable (a : Option Addr) (c : Nat) (l : List Int) (e : Int) (w : World) (hc : l.length ≤ c) (hcm : c ≤ maxLen) (hBy : Bytes l) (hL : Lst .u8 w a l)
include hc hcm hBy hL
theorem rr_fix : Calls Try.prog 20 #[.agg #[.slice a l.length c, .int .i64 e], .agg #[.int .i64 0, .int .u64 0, .string ⟨#[]⟩]] w fun x w' => RRd w w' a l (((tkF 0 (fixF 1 l) l e).1, []), (tkF 0 (fixF 1 l) l e).2) x :=
  rread_any 0 0 ⟨#[]⟩ a c l e w (by decide) (by decide) (fun h => by cases h) hc hcm hBy hL
theorem rr_num (n : Nat) (hn : n < 18446744073709551616) : Calls Try.prog 20 #[.agg #[.slice a l.length c, .int .i64 e], .agg #[.int .i64 3, .int .u64 n, .string ⟨#[]⟩]] w fun x w' => RRd w w' a l (((tkF 0 (numF n l) l e).1, []), (tkF 0 (numF n l) l e).2) x :=
  rread_any 3 n ⟨#[]⟩ a c l e w (by decide) hn (fun h => by cases h) hc hcm hBy hL
theorem rr_txt : Calls Try.prog 20 #[.agg #[.slice a l.length c, .int .i64 e], .agg #[.int .i64 4, .int .u64 60, .string ⟨#[]⟩]] w fun x w' => RRd w w' a l ((0, (tkF [] (txtF 60 l) l e).1), (tkF [] (txtF 60 l) l e).2) x :=
  rread_any 4 60 ⟨#[]⟩ a c l e w (by decide) (by decide) (fun h => by decide) hc hcm hBy hL
end

def dcells (r : R) : Array Value := #[.int .i64 r.k, .int .i64 r.s, .int .i64 r.u, .int .i64 r.p, .int .i64 r.m, .bool r.g, .int .u64 r.v, .int .u64 r.a, .string r.t]
/-- The document's reading so far: the result, the record, the reader. -/
structure DI (w W : World) (a : Option Addr) (c : Nat) (s : St) : Prop where
  z : Blk W w.heap.size 25 (dcells zR)
  r : Blk W (w.heap.size + 1) 25 (dcells s.r)
  i : Blk W (w.heap.size + 2) 53 #[.slice a s.l.length c, .int .i64 s.e]
  b : Below w.heap.size w W
  lc : s.l.length ≤ c
  cm : c ≤ maxLen
  ls : Lst .u8 w a s.l
theorem DI.below {w W W2 : World} {a : Option Addr} {c : Nat} {s : St} (h : DI w W a c s) (hb : Below W.heap.size W W2) : DI w W2 a c s := ⟨h.z.below hb, h.r.below hb, h.i.below hb, bthen h.b hb, h.lc, h.cm, h.ls⟩
/-- What the round's stores ask. -/
theorem DI.facts {w W : World} {a : Option Addr} {c : Nat} {s : St} (h : DI w W a c s) (off : Nat) (u : Value) (hu : (dcells s.r)[off]? = some u) :
    (∀ o, (W.alloc o).cell? ⟨w.heap.size + 1 + 1, 0, none⟩ = some (.slice a s.l.length c)) ∧ (∀ o, (W.alloc o).cell? ⟨w.heap.size + 1 + 1, 1, none⟩ = some (.int .i64 s.e)) ∧ (∀ o, (W.alloc o).frozen? ⟨w.heap.size + 1 + 1, 0, none⟩ = false) ∧ (∀ o, (W.alloc o).frozen? ⟨w.heap.size + 1 + 1, 1, none⟩ = false) ∧
    (∀ o, (W.alloc o).cell? ⟨w.heap.size + 1, off, none⟩ = some u) ∧ (∀ o, (W.alloc o).frozen? ⟨w.heap.size + 1, off, none⟩ = false) :=
  ⟨fun o => (h.i.alloc o).cell 0, fun o => (h.i.alloc o).cell 1, fun o => (h.i.alloc o).frozen 0, fun o => (h.i.alloc o).frozen 1, fun o => ((h.r.alloc o).cell off).trans hu, fun o => (h.r.alloc o).frozen off⟩
theorem DI.next {w W4 : World} {a a4 : Option Addr} {c c4 off : Nat} {s s' : St} {v : Value} {o : Obj} (h : DI w W4 a c s) (h4 : s'.l.length ≤ c4 ∧ c4 ≤ maxLen ∧ Lst .u8 w a4 s'.l) (hv : (dcells s.r).setIfInBounds off v = dcells s'.r) :
    DI w ((((W4.alloc o).setCell ⟨w.heap.size + 1 + 1, 0, none⟩ (.slice a4 s'.l.length c4)).setCell ⟨w.heap.size + 1 + 1, 1, none⟩ (.int .i64 s'.e)).setCell ⟨w.heap.size + 1, off, none⟩ v) a4 c4 s' := by
  refine ⟨?_, ?_, ?_, ?_, h4.1, h4.2.1, h4.2.2⟩
  · exact (((h.z.alloc o).far (p := ⟨w.heap.size + 1 + 1, 0, none⟩) (by simp only; omega) _).far (p := ⟨w.heap.size + 1 + 1, 1, none⟩) (by simp only; omega) _).far (p := ⟨w.heap.size + 1, off, none⟩) (by simp only; omega) _
  · have := ((h.r.alloc o).far (p := ⟨w.heap.size + 1 + 1, 0, none⟩) (by simp only; omega) (.slice a4 s'.l.length c4)).far (p := ⟨w.heap.size + 1 + 1, 1, none⟩) (by simp only; omega) (.int .i64 s'.e)
    rw [← hv]
    exact this.set_ off v
  · exact (((h.i.alloc o).set_ 0 _).set_ 1 _).far (p := ⟨w.heap.size + 1, off, none⟩) (by simp only; omega) _
  · exact (((bthen h.b (box_below W4 o)).setCell (p := ⟨w.heap.size + 1 + 1, 0, none⟩) (by simp only; omega) _).setCell (p := ⟨w.heap.size + 1 + 1, 1, none⟩) (by simp only; omega) _).setCell (p := ⟨w.heap.size + 1, off, none⟩) (by simp only; omega) _
theorem dz_cells {W : World} {g : Nat} {r : R} (h : Blk W g 25 (dcells r)) :
    (W.cell? ⟨g, 0, none⟩ = some (.int .i64 r.k) ∧ W.cell? ⟨g, 1, none⟩ = some (.int .i64 r.s) ∧ W.cell? ⟨g, 2, none⟩ = some (.int .i64 r.u) ∧ W.cell? ⟨g, 3, none⟩ = some (.int .i64 r.p) ∧ W.cell? ⟨g, 4, none⟩ = some (.int .i64 r.m) ∧ W.cell? ⟨g, 5, none⟩ = some (.bool r.g) ∧ W.cell? ⟨g, 6, none⟩ = some (.int .u64 r.v) ∧ W.cell? ⟨g, 7, none⟩ = some (.int .u64 r.a) ∧ W.cell? ⟨g, 8, none⟩ = some (.string r.t)) ∧
    (W.frozen? ⟨g, 0, none⟩ = false ∧ W.frozen? ⟨g, 1, none⟩ = false ∧ W.frozen? ⟨g, 2, none⟩ = false ∧ W.frozen? ⟨g, 3, none⟩ = false ∧ W.frozen? ⟨g, 4, none⟩ = false ∧ W.frozen? ⟨g, 5, none⟩ = false ∧ W.frozen? ⟨g, 6, none⟩ = false ∧ W.frozen? ⟨g, 7, none⟩ = false ∧ W.frozen? ⟨g, 8, none⟩ = false) :=
  ⟨⟨h.cell 0, h.cell 1, h.cell 2, h.cell 3, h.cell 4, h.cell 5, h.cell 6, h.cell 7, h.cell 8⟩, ⟨h.frozen 0, h.frozen 1, h.frozen 2, h.frozen 3, h.frozen 4, h.frozen 5, h.frozen 6, h.frozen 7, h.frozen 8⟩⟩
/-- A record, how many bytes it has, the error: the document's. -/
def GotD (w w' : World) (s : R × Int × Int) (x : Ending) : Prop :=
  x = .returned (.tuple #[.agg (dcells s.1), .int .i64 s.2.1, .int .i64 s.2.2]) ∧ Below w.heap.size w w'
/-- What a field's reading leaves. -/
def RD2 (w W W' : World) (a : Option Addr) (l : List Int) (n : Int) (t : ByteArray) (l' : List Int) (e' : Int) (x : Ending) : Prop :=
  ∃ (a4 : Option Addr) (c4 : Nat), x = .returned (.tuple #[.agg #[.slice a4 l'.length c4, .int .i64 e'], .int .u64 n, .string t]) ∧ (l'.length ≤ c4 ∧ c4 ≤ maxLen ∧ Lst .u8 w a4 l') ∧ Below W.heap.size W W'
theorem rd2_of {w W W' : World} {a : Option Addr} {l : List Int} {r : (Int × List Int) × List Int × Int} {x : Ending} (hL : Lst .u8 w a l) (h : RRd W W' a l r x) : RD2 w W W' a l r.1.1 (strOfNums r.1.2) r.2.1 r.2.2 x := by
  obtain ⟨a4, c4, h0, h1, h2, h3, h4⟩ := h
  exact ⟨a4, c4, h0, ⟨h1, h2, h3 w hL⟩, h4⟩
theorem di_start {w W1 : World} {a1 : Option Addr} {c1 : Nat} {k : Int} {l : List Int}
    (hb : Below (((w.alloc (.cells (dcells zR) 25)).alloc (.cells (dcells (kR k)) 25)).alloc (.cells #[.slice a1 l.length c1, .int .i64 0] 53)).heap.size (((w.alloc (.cells (dcells zR) 25)).alloc (.cells (dcells (kR k)) 25)).alloc (.cells #[.slice a1 l.length c1, .int .i64 0] 53)) W1)
    (h1 : l.length ≤ c1) (h2 : c1 ≤ maxLen) (h3 : Lst .u8 w a1 l) : DI w W1 a1 c1 ⟨kR k, l, 0, false⟩ := by
  refine ⟨?_, ?_, ?_, ?_, h1, h2, h3⟩
  · exact ((((Blk.new w _ _).alloc _).alloc _)).below hb
  · exact ((blk_new2 w _ _ _).alloc _).below hb
  · have := Blk.new ((w.alloc (.cells (dcells zR) 25)).alloc (.cells (dcells (kR k)) 25)) 53 #[.slice a1 l.length c1, .int .i64 0]
    simp only [show ((w.alloc (.cells (dcells zR) 25)).alloc (.cells (dcells (kR k)) 25)).heap.size = w.heap.size + 2 from by simp] at this
    exact this.below hb
  · exact bthen (bthen (bthen (box_below w _) (box_below _ _)) (box_below _ _)) hb

set_option maxRecDepth 100000 in
set_option maxHeartbeats 20000000 in
theorem dread_in (a : Option Addr) (c : Nat) (k : Int) (l : List Int) (w : World) (hl : (k :: l).length ≤ 1000000) (hc : (k :: l).length ≤ c) (hcm : c ≤ maxLen) (hL : Lst .u8 w a (k :: l)) (hB : Bytes (k :: l)) (h1 : 1 ≤ k) (h6 : k ≤ 6) :
    Calls Try.prog 7 #[.slice a (k :: l).length c] w fun x w' => GotD w w' (readF (k :: l)) x := by
  obtain ⟨rf, hrf⟩ : ∃ rf, rf = readF (k :: l) := ⟨_, rfl⟩
  rw [← hrf]
  have HRF : Hid (rf = if errF (fieldsF k l) = 0 then ((fieldsF k l).r, ((k :: l).length : Int) - ((fieldsF k l).l.length : Int), 0) else (zR, 0, errF (fieldsF k l))) := by
    show _ = _
    rw [hrf]
    unfold readF
    simp only
    rw [if_neg (by omega)]
  clear hrf
  obtain ⟨i0, hi, hz0, hz1, hz2⟩ := info_parts info5
  have hLet := lets_of k h1 h6
  have hU := fun (W : World) => ruses_any k W h1 h6
  obtain ⟨U, hUe⟩ : ∃ U : ByteArray, U = ⟨(usesS k).toArray⟩ := ⟨_, rfl⟩
  rw [← hUe] at hU hLet
  have HU := Lib.hid hU
  have hU4 : U.size ≤ 4 := by have := hLet.1; have := uses_len k; omega
  have HLet := Lib.hid hLet
  obtain ⟨a1, n1, c1, hsl, hn1, hnc, hcc, hcut, hblk⟩ := run_cut_from (P := Try.prog) 22 5 Try.underlying22 i0 hi hz1 a (k :: l).length c 1 (by simp) hc
  obtain ⟨b, off, rfl, hcell⟩ : ∃ b off, a = some ⟨b, off, none⟩ ∧ w.cell? ⟨b, off, none⟩ = some (.int .u8 k) := by
    rcases hL with h | ⟨b, off, rfl, h⟩
    · cases h
    · exact ⟨b, off, rfl, h 0 k rfl⟩
  have hcell2 : ∀ o, (w.alloc o).cell? ⟨b, off, none⟩ = some (.int .u8 k) := fun o => bsome (box_below w o) hcell (World.block_lt_of_cell? _ _ hcell)
  have hsl2 : ∀ W, (Instr.slice 22 (.slice (some ⟨b, off, none⟩) (l.length + 1) c) (some (.int .i64 1)) none none).run Try.prog W = .ok (.slice a1 n1 c1) W := hsl
  have hn1' : n1 = l.length := by simp at hn1; exact hn1
  subst hn1'
  have hL1 := hcut .u8 w (k :: l) rfl hL
  have HL1 : Hid (Lst .u8 w a1 l) := Lib.hid hL1
  have hlen0 : ((l.length : Int) + 1 == 0) = false := by rw [beq_eq_false_iff_ne]; omega
  clear hsl hn1 hcut hblk hL1 hL
  clear hU hUe hLet
  go_enter Try.func7, Try.ntmps7
  go_wp2_with ((with_reducible refine (HU.out _).mono ?_); rintro x W1 ⟨rfl, hb1⟩)
  have hD0 : DI w W1 a1 c1 ⟨kR k, l, 0, false⟩ := di_start hb1 hnc (Nat.le_trans hcc hcm) HL1.out
  have HD0 := Lib.hid hD0
  have HB1 : Hid (Bytes l) := Lib.hid (fun v hv => hB v (List.mem_cons_of_mem _ hv))
  clear hD0 hb1 hcell2 hsl2 hcell hB
  obtain ⟨s0, hs0⟩ : ∃ s0 : St, s0 = ⟨kR k, l, 0, false⟩ := ⟨_, rfl⟩
  rw [← hs0] at HD0
  have HS0 := Lib.hid hs0
  clear hs0
  go_loopw [8, 9] (fun o i wr => ∃ (j : Nat) (a' : Option Addr) (c' : Nat), j ≤ U.size ∧ i = .int .i64 j ∧ o = .bool (rdJ k s0 j).o ∧ DI w wr a' c' (rdJ k s0 j)) (fun _ i _ => U.size - (intOf i).toNat)
  case atStart => exact ⟨0, a1, c1, Nat.zero_le _, rfl, by have := HS0.out; subst this; rfl, HD0.out⟩
  case round =>
    obtain ⟨j, a', c', hj, rfl, rfl, hD⟩ := hrel
    by_cases hlt : j < U.size
    · obtain ⟨x, hx⟩ := some_at (usesK k) (i := j) (by have := HLet.out.1; omega)
      have hB' : Bytes (rdJ k s0 j).l := by
        obtain ⟨n, hn⟩ := rdJ_drop k s0 j
        rw [hn]
        exact bytes_drop (by have := HS0.out; subst this; exact HB1.out) n
      have hsucc := rdJ_succ (s := s0) hx
      generalize rdJ k s0 j = s at *
      have HSU := Lib.hid hsucc
      have HB' := Lib.hid hB'
      have HD := Lib.hid hD
      have i0 : ∀ o, (wr.alloc o).cell? ⟨w.heap.size + 1 + 1, 0, none⟩ = some (.slice a' s.l.length c') := fun o => (hD.i.alloc o).cell 0
      have i1 : ∀ o, (wr.alloc o).cell? ⟨w.heap.size + 1 + 1, 1, none⟩ = some (.int .i64 s.e) := fun o => (hD.i.alloc o).cell 1
      clear hsucc hB' hD
      rcases let_ways k j x hx with rfl | rfl | rfl | rfl | rfl | rfl | rfl | rfl
      · have hc : (U[j].toNat : Int) = 117 := (HLet.out.2 j _ hx hlt).trans (by decide)
        obtain ⟨n, hn⟩ : ∃ n, n = (tkF 0 (fixF 1 s.l) s.l s.e).1 := ⟨_, rfl⟩
        have hn0 : 0 ≤ n ∧ n ≤ 255 := by rw [hn]; exact tk_bounds (fun n : Int => 0 ≤ n ∧ n ≤ 255) 0 _ _ _ (by omega) (fix1_bounds s.l HB'.out)
        obtain ⟨hn0, hn1⟩ := hn0
        have HRD : Hid (∀ W, Below wr.heap.size wr W → Calls Try.prog 20 #[.agg #[.slice a' s.l.length c', .int .i64 s.e], .agg #[.int .i64 0, .int .u64 0, .string ⟨#[]⟩]] W fun x w' => RD2 w W w' a' s.l n (strOfNums []) (rdF s (0, 2)).l (rdF s (0, 2)).e x) :=
          Lib.hid fun W hb => by
            rw [hn]
            exact (rr_fix a' c' s.l s.e W HD.out.lc HD.out.cm HB'.out ((HD.out.ls.below HD.out.b).below hb)).mono fun x w' h => rd2_of HD.out.ls h
        have HNn := Lib.hid hn
        clear hx hn
        go_wp2_with (go_at_call 20; ((refine (HRD.out _ (by first | exact box_below _ _ | exact Below.refl _ _)).mono ?_); rintro x W4 ⟨a4, c4, rfl, h4a, h4d⟩; have hD4 := HD.out.below (bthen (by first | exact box_below _ _ | exact Below.refl _ _) h4d); obtain ⟨d0, d1, d2, d3, d4, d5⟩ := hD4.facts 2 _ rfl; have HD4 := Lib.hid hD4; have H4 := Lib.hid h4a; clear hD4 h4a h4d))
        go_roundw
        case rel => exact ⟨j + 1, a4, c4, by omega, by go_num, by rw [HSU.out]; rfl, by rw [HSU.out]; exact HD4.out.next H4.out (by rw [HNn.out]; rfl)⟩
        case measure => simp [intOf]; omega
      · have hc : (U[j].toNat : Int) = 109 := (HLet.out.2 j _ hx hlt).trans (by decide)
        obtain ⟨n, hn⟩ : ∃ n, n = (tkF 0 (fixF 1 s.l) s.l s.e).1 := ⟨_, rfl⟩
        have hn0 : 0 ≤ n ∧ n ≤ 255 := by rw [hn]; exact tk_bounds (fun n : Int => 0 ≤ n ∧ n ≤ 255) 0 _ _ _ (by omega) (fix1_bounds s.l HB'.out)
        obtain ⟨hn0, hn1⟩ := hn0
        have HRD : Hid (∀ W, Below wr.heap.size wr W → Calls Try.prog 20 #[.agg #[.slice a' s.l.length c', .int .i64 s.e], .agg #[.int .i64 0, .int .u64 0, .string ⟨#[]⟩]] W fun x w' => RD2 w W w' a' s.l n (strOfNums []) (rdF s (0, 4)).l (rdF s (0, 4)).e x) :=
          Lib.hid fun W hb => by
            rw [hn]
            exact (rr_fix a' c' s.l s.e W HD.out.lc HD.out.cm HB'.out ((HD.out.ls.below HD.out.b).below hb)).mono fun x w' h => rd2_of HD.out.ls h
        have HNn := Lib.hid hn
        clear hx hn
        go_wp2_with (go_at_call 20; ((refine (HRD.out _ (by first | exact box_below _ _ | exact Below.refl _ _)).mono ?_); rintro x W4 ⟨a4, c4, rfl, h4a, h4d⟩; have hD4 := HD.out.below (bthen (by first | exact box_below _ _ | exact Below.refl _ _) h4d); obtain ⟨d0, d1, d2, d3, d4, d5⟩ := hD4.facts 4 _ rfl; have HD4 := Lib.hid hD4; have H4 := Lib.hid h4a; clear hD4 h4a h4d))
        go_roundw
        case rel => exact ⟨j + 1, a4, c4, by omega, by go_num, by rw [HSU.out]; rfl, by rw [HSU.out]; exact HD4.out.next H4.out (by rw [HNn.out]; rfl)⟩
        case measure => simp [intOf]; omega
      · have hc : (U[j].toNat : Int) = 112 := (HLet.out.2 j _ hx hlt).trans (by decide)
        obtain ⟨n, hn⟩ : ∃ n, n = (tkF 0 (fixF 1 s.l) s.l s.e).1 := ⟨_, rfl⟩
        have hn0 : 0 ≤ n ∧ n ≤ 255 := by rw [hn]; exact tk_bounds (fun n : Int => 0 ≤ n ∧ n ≤ 255) 0 _ _ _ (by omega) (fix1_bounds s.l HB'.out)
        obtain ⟨hn0, hn1⟩ := hn0
        have HRD : Hid (∀ W, Below wr.heap.size wr W → Calls Try.prog 20 #[.agg #[.slice a' s.l.length c', .int .i64 s.e], .agg #[.int .i64 0, .int .u64 0, .string ⟨#[]⟩]] W fun x w' => RD2 w W w' a' s.l n (strOfNums []) (rdF s (0, 3)).l (rdF s (0, 3)).e x) :=
          Lib.hid fun W hb => by
            rw [hn]
            exact (rr_fix a' c' s.l s.e W HD.out.lc HD.out.cm HB'.out ((HD.out.ls.below HD.out.b).below hb)).mono fun x w' h => rd2_of HD.out.ls h
        have HNn := Lib.hid hn
        clear hx hn
        go_wp2_with (go_at_call 20; ((refine (HRD.out _ (by first | exact box_below _ _ | exact Below.refl _ _)).mono ?_); rintro x W4 ⟨a4, c4, rfl, h4a, h4d⟩; have hD4 := HD.out.below (bthen (by first | exact box_below _ _ | exact Below.refl _ _) h4d); obtain ⟨d0, d1, d2, d3, d4, d5⟩ := hD4.facts 3 _ rfl; have HD4 := Lib.hid hD4; have H4 := Lib.hid h4a; clear hD4 h4a h4d))
        go_roundw
        case rel => exact ⟨j + 1, a4, c4, by omega, by go_num, by rw [HSU.out]; rfl, by rw [HSU.out]; exact HD4.out.next H4.out (by rw [HNn.out]; rfl)⟩
        case measure => simp [intOf]; omega
      · have hc : (U[j].toNat : Int) = 115 := (HLet.out.2 j _ hx hlt).trans (by decide)
        obtain ⟨n, hn⟩ : ∃ n, n = (tkF 0 (fixF 1 s.l) s.l s.e).1 := ⟨_, rfl⟩
        have hn0 : 0 ≤ n ∧ n ≤ 255 := by rw [hn]; exact tk_bounds (fun n : Int => 0 ≤ n ∧ n ≤ 255) 0 _ _ _ (by omega) (fix1_bounds s.l HB'.out)
        obtain ⟨hn0, hn1⟩ := hn0
        have HRD : Hid (∀ W, Below wr.heap.size wr W → Calls Try.prog 20 #[.agg #[.slice a' s.l.length c', .int .i64 s.e], .agg #[.int .i64 0, .int .u64 0, .string ⟨#[]⟩]] W fun x w' => RD2 w W w' a' s.l n (strOfNums []) (rdF s (0, 1)).l (rdF s (0, 1)).e x) :=
          Lib.hid fun W hb => by
            rw [hn]
            exact (rr_fix a' c' s.l s.e W HD.out.lc HD.out.cm HB'.out ((HD.out.ls.below HD.out.b).below hb)).mono fun x w' h => rd2_of HD.out.ls h
        have HNn := Lib.hid hn
        clear hx hn
        go_wp2_with (go_at_call 20; ((refine (HRD.out _ (by first | exact box_below _ _ | exact Below.refl _ _)).mono ?_); rintro x W4 ⟨a4, c4, rfl, h4a, h4d⟩; have hD4 := HD.out.below (bthen (by first | exact box_below _ _ | exact Below.refl _ _) h4d); obtain ⟨d0, d1, d2, d3, d4, d5⟩ := hD4.facts 1 _ rfl; have HD4 := Lib.hid hD4; have H4 := Lib.hid h4a; clear hD4 h4a h4d))
        go_roundw
        case rel => exact ⟨j + 1, a4, c4, by omega, by go_num, by rw [HSU.out]; rfl, by rw [HSU.out]; exact HD4.out.next H4.out (by rw [HNn.out]; rfl)⟩
        case measure => simp [intOf]; omega
      · have hc : (U[j].toNat : Int) = 103 := (HLet.out.2 j _ hx hlt).trans (by decide)
        obtain ⟨n, hn⟩ : ∃ n, n = (tkF 0 (fixF 1 s.l) s.l s.e).1 := ⟨_, rfl⟩
        have hn0 : 0 ≤ n ∧ n ≤ 255 := by rw [hn]; exact tk_bounds (fun n : Int => 0 ≤ n ∧ n ≤ 255) 0 _ _ _ (by omega) (fix1_bounds s.l HB'.out)
        obtain ⟨hn0, hn1⟩ := hn0
        have HRD : Hid (∀ W, Below wr.heap.size wr W → Calls Try.prog 20 #[.agg #[.slice a' s.l.length c', .int .i64 s.e], .agg #[.int .i64 0, .int .u64 0, .string ⟨#[]⟩]] W fun x w' => RD2 w W w' a' s.l n (strOfNums []) (rdF s (1, 5)).l (rdF s (1, 5)).e x) :=
          Lib.hid fun W hb => by
            rw [hn]
            exact (rr_fix a' c' s.l s.e W HD.out.lc HD.out.cm HB'.out ((HD.out.ls.below HD.out.b).below hb)).mono fun x w' h => rd2_of HD.out.ls h
        have HNn := Lib.hid hn
        clear hx hn
        go_wp2_with (go_at_call 20; ((refine (HRD.out _ (by first | exact box_below _ _ | exact Below.refl _ _)).mono ?_); rintro x W4 ⟨a4, c4, rfl, h4a, h4d⟩; have hD4 := HD.out.below (bthen (by first | exact box_below _ _ | exact Below.refl _ _) h4d); obtain ⟨d0, d1, d2, d3, d4, d5⟩ := hD4.facts 5 _ rfl; have HD4 := Lib.hid hD4; have H4 := Lib.hid h4a; clear hD4 h4a h4d))
        go_roundw
        case rel => exact ⟨j + 1, a4, c4, by omega, by go_num, by rw [HSU.out, HNn.out]; rfl, by rw [HSU.out]; exact HD4.out.next H4.out (by rw [HNn.out]; rfl)⟩
        case measure => simp [intOf]; omega
      · have hc : (U[j].toNat : Int) = 114 := (HLet.out.2 j _ hx hlt).trans (by decide)
        obtain ⟨n, hn⟩ : ∃ n, n = (tkF 0 (numF 4294967295 s.l) s.l s.e).1 := ⟨_, rfl⟩
        have HRD : Hid (∀ W, Below wr.heap.size wr W → Calls Try.prog 20 #[.agg #[.slice a' s.l.length c', .int .i64 s.e], .agg #[.int .i64 3, .int .u64 4294967295, .string ⟨#[]⟩]] W fun x w' => RD2 w W w' a' s.l n (strOfNums []) (rdF s (2, 6)).l (rdF s (2, 6)).e x) :=
          Lib.hid fun W hb => by
            rw [hn]
            exact (rr_num a' c' s.l s.e W HD.out.lc HD.out.cm HB'.out ((HD.out.ls.below HD.out.b).below hb) 4294967295 (by decide)).mono fun x w' h => rd2_of HD.out.ls h
        have HNn := Lib.hid hn
        clear hx hn
        go_wp2_with (go_at_call 20; ((refine (HRD.out _ (by first | exact box_below _ _ | exact Below.refl _ _)).mono ?_); rintro x W4 ⟨a4, c4, rfl, h4a, h4d⟩; have hD4 := HD.out.below (bthen (by first | exact box_below _ _ | exact Below.refl _ _) h4d); obtain ⟨d0, d1, d2, d3, d4, d5⟩ := hD4.facts 6 _ rfl; have HD4 := Lib.hid hD4; have H4 := Lib.hid h4a; clear hD4 h4a h4d))
        go_roundw
        case rel => exact ⟨j + 1, a4, c4, by omega, by go_num, by rw [HSU.out]; rfl, by rw [HSU.out]; exact HD4.out.next H4.out (by rw [HNn.out]; rfl)⟩
        case measure => simp [intOf]; omega
      · have hc : (U[j].toNat : Int) = 97 := (HLet.out.2 j _ hx hlt).trans (by decide)
        obtain ⟨n, hn⟩ : ∃ n, n = (tkF 0 (numF 18446744073709551615 s.l) s.l s.e).1 := ⟨_, rfl⟩
        have HRD : Hid (∀ W, Below wr.heap.size wr W → Calls Try.prog 20 #[.agg #[.slice a' s.l.length c', .int .i64 s.e], .agg #[.int .i64 3, .int .u64 18446744073709551615, .string ⟨#[]⟩]] W fun x w' => RD2 w W w' a' s.l n (strOfNums []) (rdF s (3, 7)).l (rdF s (3, 7)).e x) :=
          Lib.hid fun W hb => by
            rw [hn]
            exact (rr_num a' c' s.l s.e W HD.out.lc HD.out.cm HB'.out ((HD.out.ls.below HD.out.b).below hb) 18446744073709551615 (by decide)).mono fun x w' h => rd2_of HD.out.ls h
        have HNn := Lib.hid hn
        clear hx hn
        go_wp2_with (go_at_call 20; ((refine (HRD.out _ (by first | exact box_below _ _ | exact Below.refl _ _)).mono ?_); rintro x W4 ⟨a4, c4, rfl, h4a, h4d⟩; have hD4 := HD.out.below (bthen (by first | exact box_below _ _ | exact Below.refl _ _) h4d); obtain ⟨d0, d1, d2, d3, d4, d5⟩ := hD4.facts 7 _ rfl; have HD4 := Lib.hid hD4; have H4 := Lib.hid h4a; clear hD4 h4a h4d))
        go_roundw
        case rel => exact ⟨j + 1, a4, c4, by omega, by go_num, by rw [HSU.out]; rfl, by rw [HSU.out]; exact HD4.out.next H4.out (by rw [HNn.out]; rfl)⟩
        case measure => simp [intOf]; omega
      · have hc : (U[j].toNat : Int) = 116 := (HLet.out.2 j _ hx hlt).trans (by decide)
        obtain ⟨n, hn⟩ : ∃ n, n = strOfNums (tkF [] (txtF 60 s.l) s.l s.e).1 := ⟨_, rfl⟩
        have HRD : Hid (∀ W, Below wr.heap.size wr W → Calls Try.prog 20 #[.agg #[.slice a' s.l.length c', .int .i64 s.e], .agg #[.int .i64 4, .int .u64 60, .string ⟨#[]⟩]] W fun x w' => RD2 w W w' a' s.l 0 n (rdF s (4, 8)).l (rdF s (4, 8)).e x) :=
          Lib.hid fun W hb => by
            rw [hn]
            exact (rr_txt a' c' s.l s.e W HD.out.lc HD.out.cm HB'.out ((HD.out.ls.below HD.out.b).below hb)).mono fun x w' h => rd2_of HD.out.ls h
        have HNn := Lib.hid hn
        clear hx hn
        go_wp2_with (go_at_call 20; ((refine (HRD.out _ (by first | exact box_below _ _ | exact Below.refl _ _)).mono ?_); rintro x W4 ⟨a4, c4, rfl, h4a, h4d⟩; have hD4 := HD.out.below (bthen (by first | exact box_below _ _ | exact Below.refl _ _) h4d); obtain ⟨d0, d1, d2, d3, d4, d5⟩ := hD4.facts 8 _ rfl; have HD4 := Lib.hid hD4; have H4 := Lib.hid h4a; clear hD4 h4a h4d))
        go_roundw
        case rel => exact ⟨j + 1, a4, c4, by omega, by go_num, by rw [HSU.out]; rfl, by rw [HSU.out]; exact HD4.out.next H4.out (by rw [HNn.out]; rfl)⟩
        case measure => simp [intOf]; omega
    · have hjU : j = U.size := by omega
      subst hjU
      have hfin : rdJ k s0 U.size = fieldsF k l := by have := HS0.out; subst this; rw [HLet.out.1]; rfl
      have hok : (fieldsF k l).r.ok := (rdJ_ok (s := ⟨kR k, l, 0, false⟩) (kR_ok k h1 h6) HB1.out (usesK k).length).1
      rw [hfin] at hD ⊢
      have hrf := HRF.out
      clear HRF hfin HLet HU HD0 HS0 HL1 HB1
      generalize fieldsF k l = s at *
      have HD := Lib.hid hD
      have i0 : wr.cell? ⟨w.heap.size + 1 + 1, 0, none⟩ = some (.slice a' s.l.length c') := hD.i.cell 0
      have i1 : wr.cell? ⟨w.heap.size + 1 + 1, 1, none⟩ = some (.int .i64 s.e) := hD.i.cell 1
      rcases err_ways s with ⟨y1, y2⟩ | ⟨y1, y2, y3⟩ | ⟨y1, y2, y3, y4⟩ | ⟨y1, y2, y3, y4⟩
      · rw [y2, if_neg y1] at hrf
        have y1b : (s.e == 0) = false := by simpa using y1
        have y1c : (s.e != 0) = true := by simpa using y1
        have hz := dz_cells hD.z
        subst hrf
        clear y1 y2 hD hok
        go_wp2_with fail
        exact bodyPost_ret (v := .tuple #[.agg (dcells zR), .int .i64 0, .int .i64 s.e]) (by simp [results, Try.results7, go_sem, dcells, zR, hz]) rfl ⟨rfl, nine_at HD.out.b (Nat.le_refl _) _ _ _ _ _ _ _ _ _⟩
      · rw [y3, if_neg (by decide)] at hrf
        rw [y1] at i1
        rw [y2]
        have hz := dz_cells hD.z
        subst hrf
        clear y1 y2 y3 hD hok
        go_wp2_with fail
        exact bodyPost_ret (v := .tuple #[.agg (dcells zR), .int .i64 0, .int .i64 5]) (by simp [results, Try.results7, go_sem, dcells, zR, hz]) rfl ⟨rfl, nine_at HD.out.b (Nat.le_refl _) _ _ _ _ _ _ _ _ _⟩
      · rw [y4, if_neg y3] at hrf
        rw [y1] at i1
        rw [y2]
        have HK := Lib.hid (fun (W : World) => rcheck_any s.r W hok)
        obtain ⟨⟨p0, p1, p2, p3, p4, p5, p6, p7, p8⟩, _⟩ := dz_cells hD.r
        have y3b : (checkF s.r == 0) = false := by simpa using y3
        have y3c : (checkF s.r != 0) = true := by simpa using y3
        clear y1 y2 y3 y4 hD hok
        generalize checkF s.r = Er at *
        subst hrf
        go_wp2_with ((go_at_call 15; ((refine (HK.out _).mono ?_); rintro x W4 ⟨rfl, hb4⟩; have hD4 := HD.out.below hb4; have HD4 := Lib.hid hD4; have e0 : W4.cell? ⟨w.heap.size + 1 + 1, 0, none⟩ = some (.slice a' s.l.length c') := hD4.i.cell 0; have hz := dz_cells hD4.z; obtain ⟨⟨q0, q1, q2, q3, q4, q5, q6, q7, q8⟩, _⟩ := dz_cells hD4.r; clear hD4 hb4)))
        exact bodyPost_ret (v := .tuple #[.agg (dcells zR), .int .i64 0, .int .i64 Er]) (by simp [results, Try.results7, go_sem, dcells, zR, hz]) rfl ⟨rfl, nine_at HD4.out.b (Nat.le_refl _) _ _ _ _ _ _ _ _ _⟩
      · rw [y4, if_pos rfl] at hrf
        rw [y1] at i1
        rw [y2]
        have HK := Lib.hid (fun (W : World) => rcheck_any s.r W hok)
        rw [y3] at HK
        obtain ⟨⟨p0, p1, p2, p3, p4, p5, p6, p7, p8⟩, _⟩ := dz_cells hD.r
        clear y1 y2 y3 y4 hD hok
        subst hrf
        go_wp2_with ((go_at_call 15; ((refine (HK.out _).mono ?_); rintro x W4 ⟨rfl, hb4⟩; have hD4 := HD.out.below hb4; have HD4 := Lib.hid hD4; have e0 : W4.cell? ⟨w.heap.size + 1 + 1, 0, none⟩ = some (.slice a' s.l.length c') := hD4.i.cell 0; have hz := dz_cells hD4.z; obtain ⟨⟨q0, q1, q2, q3, q4, q5, q6, q7, q8⟩, _⟩ := dz_cells hD4.r; clear hD4 hb4)))
        have hnz : w.heap.size ≠ w.heap.size + 1 := by omega
        have hnv : w.heap.size ≠ w.heap.size + 1 + 1 := by omega
        have hwr : IntKind.i64.wrap ((l.length : Int) + 1 - (s.l.length : Int)) = (l.length : Int) + 1 - (s.l.length : Int) := IntWalk.i64_in _ (by have h2 := HD4.out.lc; have h3 := HD4.out.cm; unfold maxLen at h3; simp only [List.length_cons] at hl; omega)
        obtain ⟨g1, g2, g3, g4, g5, g6, g7, g8, g9, g10⟩ : W4.drew.cell? ⟨w.heap.size + 1 + 1, 0, none⟩ = some (.slice a' s.l.length c') ∧ (W4.drew.cell? ⟨w.heap.size + 1, 0, none⟩ = some (.int .i64 s.r.k) ∧ W4.drew.cell? ⟨w.heap.size + 1, 1, none⟩ = some (.int .i64 s.r.s) ∧ W4.drew.cell? ⟨w.heap.size + 1, 2, none⟩ = some (.int .i64 s.r.u) ∧ W4.drew.cell? ⟨w.heap.size + 1, 3, none⟩ = some (.int .i64 s.r.p) ∧ W4.drew.cell? ⟨w.heap.size + 1, 4, none⟩ = some (.int .i64 s.r.m) ∧ W4.drew.cell? ⟨w.heap.size + 1, 5, none⟩ = some (.bool s.r.g) ∧ W4.drew.cell? ⟨w.heap.size + 1, 6, none⟩ = some (.int .u64 s.r.v) ∧ W4.drew.cell? ⟨w.heap.size + 1, 7, none⟩ = some (.int .u64 s.r.a) ∧ W4.drew.cell? ⟨w.heap.size + 1, 8, none⟩ = some (.string s.r.t)) := ⟨e0, q0, q1, q2, q3, q4, q5, q6, q7, q8⟩
        have HB4 := Lib.hid HD4.out.b
        clear i0 i1 HK HD p0 p1 p2 p3 p4 p5 p6 p7 p8 HD4
        go_region_held3 (fun w' => w'.cell? ⟨w.heap.size + 1 + 1, 0, none⟩ = some (.slice a' s.l.length c') ∧ (w'.cell? ⟨w.heap.size + 1, 0, none⟩ = some (.int .i64 s.r.k) ∧ w'.cell? ⟨w.heap.size + 1, 1, none⟩ = some (.int .i64 s.r.s) ∧ w'.cell? ⟨w.heap.size + 1, 2, none⟩ = some (.int .i64 s.r.u) ∧ w'.cell? ⟨w.heap.size + 1, 3, none⟩ = some (.int .i64 s.r.p) ∧ w'.cell? ⟨w.heap.size + 1, 4, none⟩ = some (.int .i64 s.r.m) ∧ w'.cell? ⟨w.heap.size + 1, 5, none⟩ = some (.bool s.r.g) ∧ w'.cell? ⟨w.heap.size + 1, 6, none⟩ = some (.int .u64 s.r.v) ∧ w'.cell? ⟨w.heap.size + 1, 7, none⟩ = some (.int .u64 s.r.a) ∧ w'.cell? ⟨w.heap.size + 1, 8, none⟩ = some (.string s.r.t))) (first | (refine ⟨?_, ?_, ?_, ?_, ?_, ?_, ?_, ?_, ?_, ?_⟩ <;> with_reducible assumption) | (refine ⟨(far9d (g := w.heap.size) (p := ⟨w.heap.size + 1 + 1, _, none⟩) hnv _ _ _ _ _ _ _ _ _).trans ?_, (far9d (g := w.heap.size) (p := ⟨w.heap.size + 1, _, none⟩) hnz _ _ _ _ _ _ _ _ _).trans ?_, (far9d (g := w.heap.size) (p := ⟨w.heap.size + 1, _, none⟩) hnz _ _ _ _ _ _ _ _ _).trans ?_, (far9d (g := w.heap.size) (p := ⟨w.heap.size + 1, _, none⟩) hnz _ _ _ _ _ _ _ _ _).trans ?_, (far9d (g := w.heap.size) (p := ⟨w.heap.size + 1, _, none⟩) hnz _ _ _ _ _ _ _ _ _).trans ?_, (far9d (g := w.heap.size) (p := ⟨w.heap.size + 1, _, none⟩) hnz _ _ _ _ _ _ _ _ _).trans ?_, (far9d (g := w.heap.size) (p := ⟨w.heap.size + 1, _, none⟩) hnz _ _ _ _ _ _ _ _ _).trans ?_, (far9d (g := w.heap.size) (p := ⟨w.heap.size + 1, _, none⟩) hnz _ _ _ _ _ _ _ _ _).trans ?_, (far9d (g := w.heap.size) (p := ⟨w.heap.size + 1, _, none⟩) hnz _ _ _ _ _ _ _ _ _).trans ?_, (far9d (g := w.heap.size) (p := ⟨w.heap.size + 1, _, none⟩) hnz _ _ _ _ _ _ _ _ _).trans ?_⟩ <;> with_reducible assumption) | fail)
          (fail)
        all_goals
          go_wp2_with fail
          exact bodyPost_ret (v := .tuple #[.agg (dcells s.r), .int .i64 (((k :: l).length : Int) - (s.l.length : Int)), .int .i64 0]) (by simp [results, Try.results7, go_sem, dcells, zR, hz]) rfl ⟨rfl, bdry (nine_at HB4.out (Nat.le_refl _) _ _ _ _ _ _ _ _ _)⟩
end Go.Proofs.Ytaekpejpcafnkaa.rw

