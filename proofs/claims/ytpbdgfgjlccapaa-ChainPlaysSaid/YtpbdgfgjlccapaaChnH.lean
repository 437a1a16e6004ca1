/-
  The walks of layer 12: Chain's Trim.
-/
import Derived.Test.YtpbdgfgjlccapaaChnG
import Derived.Deep.OwnRows
namespace Go.Proofs.Ytpbdgfgjlccapaa.cw
open Go.RowKit Go.Proofs.Ytpbdgfgjlccapaa.ba Go.Proofs.Ytpbdgfgjlccapaa.rp Go.Proofs.Ytpbdgfgjlccapaa.rw Go.Proofs.Ytpbdgfgjlccapaa.cp
set_option maxRecDepth 8000
set_option linter.unusedVariables false

/-- What is left. -/
def trimF (L : List V) (P : List Int) : List V := (keepK L (needF L P) L.length).dropWhile (idleF P)
/-- Bools in memory. -/
def BL (w : World) (g n : Nat) (f : Nat → Bool) : Prop := ∃ cs : Array Value, Blk w g 4 cs ∧ cs.size = n ∧ ∀ i, i < n → cs[i]? = some (.bool (f i))
section
variable {w w' : World} {g n : Nat} {f : Nat → Bool}
theorem BL.below (h : BL w g n f) (hb : Below w.heap.size w w') : BL w' g n f := by
  obtain ⟨cs, h1, h2⟩ := h
  exact ⟨cs, h1.below hb, h2⟩
theorem BL.cell (h : BL w g n f) {i : Nat} (hi : i < n) : w.cell? ⟨g, i, none⟩ = some (.bool (f i)) ∧ w.frozen? ⟨g, i, none⟩ = false := by
  obtain ⟨cs, h1, h2, h3⟩ := h
  exact ⟨(h1.cell i).trans (h3 i hi), h1.frozen i⟩
theorem BL.lt (h : BL w g n f) : g < w.heap.size := by
  obtain ⟨cs, h1, _⟩ := h
  exact h1.lt
theorem BL.set (h : BL w g n f) (i : Nat) (hi : i < n) (b : Bool) (f' : Nat → Bool) (hf : ∀ j, j < n → f' j = if j = i then b else f j) : BL (w.setCell ⟨g, i, none⟩ (.bool b)) g n f' := by
  obtain ⟨cs, h1, h2, h3⟩ := h
  refine ⟨_, h1.set_ i _, by simpa using h2, fun j hj => ?_⟩
  rw [hf j hj, Array.getElem?_setIfInBounds]
  by_cases e : i = j
  · subst e
    simp [h2, hi]
  · rw [if_neg e, if_neg (fun x => e x.symm)]
    exact h3 j hj
theorem BL.grown {row : Option Nat} (h : BL w g n f) (hg : w.grownBy w' row) (hr : row ≠ some g) : BL w' g n f := by
  obtain ⟨cs, h1, h2⟩ := h
  exact ⟨cs, h1.grown hg (.inr hr), h2⟩
theorem BL.apart (h : BL w g n f) {base : Nat} {v : Value} {L : List V} (ho : VO w base v L) : v.ownBlock ≠ some g := by
  obtain ⟨cs, h1, _⟩ := h
  rcases own_ne ho h1 (by simp) with e | e
  · rw [e]; simp
  · exact e
end
theorem BL.made (w : World) (n : Nat) : BL (w.alloc (.cells (madeCells #[.bool false] n) 4)) w.heap.size n (fun _ => false) := by
  refine ⟨_, Blk.new w _ _, ?_, fun i hi => ?_⟩
  · simp [madeCells]
  · simp [madeCells, hi, Nat.mod_one]
theorem BL.made2 (w : World) (n : Nat) (hn : 0 < n) : BL (w.alloc (.cells ((madeCells #[.bool false] n).setIfInBounds (n - 1) (.bool true)) 4)) w.heap.size n (fun j => decide (j + 1 = n)) := by
  refine ⟨_, Blk.new w _ _, ?_, fun i hi => ?_⟩
  · simp [madeCells]
  · rw [Array.getElem?_setIfInBounds]
    by_cases e : n - 1 = i
    · subst e
      have : n - 1 + 1 = n := by omega
      rw [if_pos rfl, if_pos (by simp [madeCells]; omega)]
      simp [this]
    · rw [if_neg e]
      have : ¬ (i + 1 = n) := by omega
      simp [madeCells, hi, Nat.mod_one, this]
theorem own_room {w : World} {base : Nat} {e : TypeId} {size : Nat} {a : Option Addr} {m n c : Nat} {xs : List Value} (h : w.ownsRow base e size (.slice a m c) n xs) : n ≤ c ∧ c ≤ 9223372036854775807 ∧ (a = none → n = 0 ∧ c = 0) := by
  rcases h.2 with ⟨h1, h0⟩ | ⟨g, cap', cur, h1, _, _, h2, h3, _⟩
  · cases h1
    simp [h0]
  · cases h1
    exact ⟨h2, by unfold maxLen at h3; omega, fun e => by cases e⟩
theorem VO.vl2 {w : World} {base : Nat} {v : Value} {L : List V} (h : VO w base v L) : ∃ a c, v = .slice a L.length c ∧ VL w a L ∧ L.length ≤ c ∧ c ≤ 9223372036854775807 ∧ (a = none → L.length = 0 ∧ c = 0) := by
  obtain ⟨a, c, hv, hl⟩ := h.vl
  subst hv
  exact ⟨a, c, rfl, hl, own_room h⟩
theorem infoB : (Try.prog.info? 4).map (fun i => (i.zero, i.size, i.bytes)) = some (some (.bool false), 1, 1) := by kernel_rfl
def lenV : Value → Nat
  | .slice _ n _ => n
  | _ => 0

theorem cnew0 (W : World) (v : Value) (t : TypeId) : (W.alloc (.cells #[v] t)).cell? ⟨W.heap.size, 0, none⟩ = some v := (cell_of_row _ _ 0 _ _ _ (heap_alloc_new W _)).trans rfl
theorem take_snoc {α : Type} {P : List α} {k : Nat} {p : α} (hp : P[k]? = some p) : P.take (k + 1) = P.take k ++ [p] := by
  obtain ⟨h1, h2⟩ := List.getElem?_eq_some_iff.1 hp
  rw [List.take_succ_eq_append_getElem h1, h2]

theorem VL.at2 {w : World} {a : Option Addr} {L : List V} {k : Nat} {v : V} (h : VL w a L) (hv : L[k]? = some v) : ∃ b off, a = some ⟨b, off, none⟩ ∧ VAt w ⟨b, off + k * 11, none⟩ v := by
  rcases h with rfl | ⟨b, off, rfl, h⟩
  · simp at hv
  · exact ⟨b, off, rfl, h k v hv⟩
theorem vl_new2 (w : World) (v : V) : VL ((w.alloc (.cells (#[.int .u64 v.a, .bool v.d, .int .u8 v.r.k, .int .u8 v.r.s, .int .u8 v.r.u, .int .u8 v.r.p, .int .u8 v.r.m, .bool v.r.g, .int .u32 v.r.v, .int .u64 v.r.a, .string v.r.t]) 43)).alloc (.cells (#[.int .u64 v.a, .bool v.d, .int .u8 v.r.k, .int .u8 v.r.s, .int .u8 v.r.u, .int .u8 v.r.p, .int .u8 v.r.m, .bool v.r.g, .int .u32 v.r.v, .int .u64 v.r.a, .string v.r.t]) 43)) (some ⟨w.heap.size + 1, 0, none⟩) [v] := by
  have := vl_new (w.alloc (.cells (#[.int .u64 v.a, .bool v.d, .int .u8 v.r.k, .int .u8 v.r.s, .int .u8 v.r.u, .int .u8 v.r.p, .int .u8 v.r.m, .bool v.r.g, .int .u32 v.r.v, .int .u64 v.r.a, .string v.r.t]) 43)) v
  rwa [World.size_alloc] at this
theorem keepK_step (L : List V) (f : Nat → Bool) (k : Nat) (v : V) (hv : L[k]? = some v) : keepK L f (k + 1) = if f k = true then keepK L f k ++ [v] else keepK L f k := by
  show (match L[k]? with | some v => if f k then keepK L f k ++ [v] else keepK L f k | none => keepK L f k) = _
  rw [hv]
theorem vl_tail {w : World} {b off : Nat} {v : V} {M : List V} (h : ∀ i f, (v :: M)[i]? = some f → VAt w ⟨b, off + i * 11, none⟩ f) : VL w (some ⟨b, off + 11, none⟩) M := by
  refine .inr ⟨b, off + 11, rfl, fun i f hf => ?_⟩
  have := h (i + 1) f (by simpa using hf)
  rwa [show off + (i + 1) * 11 = off + 11 + i * 11 from by omega] at this
theorem VO.mono {w : World} {base base' : Nat} {v : Value} {L : List V} (h : VO w base v L) (hb : base' ≤ base) : VO w base' v L := by
  refine ⟨h.1, ?_⟩
  rcases h.2 with h1 | ⟨g, cap, cur, h1, h2, h3⟩
  · exact .inl h1
  · exact .inr ⟨g, cap, cur, h1, Nat.le_trans hb h2, h3⟩
theorem trim_out {w w1 w2 : World} {base g : Nat} {q : Option Nat} {sv v : Value} {M : List V} (hO : VO w2 w1.heap.size v M) (hB : Blk w2 g 40 #[sv]) (hb : Below w.heap.size w w2) (h1 : w.heap.size ≤ w1.heap.size ∧ base ≤ w1.heap.size) :
    PD w (w2.setCell ⟨g, 0, none⟩ v) base g q M :=
  ⟨⟨v.ownBlock, CS.put (hO.mono h1.2) hB, .inr fun j hj => Nat.le_trans h1.1 (World.ownsRow.lt hO j hj).1⟩, (Kept.of_below hb).on (Kept.of_set v (.inl rfl))⟩
theorem need_step {L : List V} {P : List Int} {k : Nat} {p : Int} (hp : P[k]? = some p) (j : Nat) : (decide (j + 1 = L.length) || (P.take (k + 1)).any fun p => seenK L p L.length == (j : Int)) = ((decide (j + 1 = L.length) || (P.take k).any fun p => seenK L p L.length == (j : Int)) || (seenK L p L.length == (j : Int))) := by
  rw [take_snoc hp, List.any_append]
  simp [Bool.or_assoc]
theorem need_no {L : List V} {P : List Int} {k : Nat} {p : Int} {f : Nat → Bool} (hp : P[k]? = some p) (hs : seenK L p L.length = -1) (hf : ∀ j, j < L.length → f j = (decide (j + 1 = L.length) || (P.take k).any fun p => seenK L p L.length == (j : Int))) :
    ∀ j, j < L.length → f j = (decide (j + 1 = L.length) || (P.take (k + 1)).any fun p => seenK L p L.length == (j : Int)) := by
  intro j hj
  have hne : ((-1 : Int) == (j : Int)) = false := by rw [beq_eq_false_iff_ne]; omega
  rw [need_step hp, hs, hne, Bool.or_false]
  exact hf j hj
theorem need_yes {L : List V} {P : List Int} {k m : Nat} {p : Int} {f : Nat → Bool} (hp : P[k]? = some p) (hs : seenK L p L.length = (m : Int)) (hf : ∀ j, j < L.length → f j = (decide (j + 1 = L.length) || (P.take k).any fun p => seenK L p L.length == (j : Int))) :
    ∀ j, j < L.length → (if j = m then true else f j) = (decide (j + 1 = L.length) || (P.take (k + 1)).any fun p => seenK L p L.length == (j : Int)) := by
  intro j hj
  rw [need_step hp, hs]
  by_cases e : j = m
  · subst e
    simp
  · have hne : ((m : Int) == (j : Int)) = false := by rw [beq_eq_false_iff_ne]; omega
    rw [if_neg e, hne, Bool.or_false]
    exact hf j hj
set_option maxRecDepth 100000 in
set_option maxHeartbeats 8000000 in
theorem trim_any (base g : Nat) (q : Option Nat) (pa : Option Addr) (pn pc : Nat) (L : List V) (P : List Int) (w : World) (hP : Lst .u64 w pa P) (hpn : P.length = pn) (hC : CS w base g q L) (hbase : base ≤ w.heap.size) (hl : L.length ≤ 100000) (hpl : pn ≤ 100000) (h0 : 0 < L.length) :
    Calls Try.prog 9 #[.pointer (some ⟨g, 0, none⟩), .slice pa pn pc] w fun e w' => e = .returned (.int .i64 ((L.length : Int) - ((trimF L P).length : Int))) ∧ PD w w' base g q (trimF L P) := by
  subst hpn
  have hmk := run_make_row' (P := Try.prog) 66 4 (.bool false) 1 Try.underlying66 infoB rfl .i64 .i64 L.length (by omega) (by omega)
  obtain ⟨w0, hw0⟩ : ∃ w0, w0 = w.alloc (.cells #[.slice pa P.length pc] 23) := ⟨_, rfl⟩
  have hb0 : Below w.heap.size w w0 := by rw [hw0]; exact (Below.refl _ _).alloc (Nat.le_refl _) _
  have hsz0 : w0.heap.size = w.heap.size + 1 := by rw [hw0]; simp
  have hbox : w0.cell? ⟨w.heap.size, 0, none⟩ = some (.slice pa P.length pc) := by rw [hw0]; exact cnew0 w _ _
  have hP0 := hP.below hb0
  have hC0 := hC.below hb0
  have hCP := hC0.cp (by omega)
  have HLen := Lib.hid (len_any (some ⟨g, 0, none⟩) L w0 hCP)
  have HSeen := Lib.hid fun (p : Int) (W : World) (h : Below w0.heap.size w0 W) => seen_any (some ⟨g, 0, none⟩) p L W (hCP.below h)
  have HIdle := Lib.hid fun (v : V) (W : World) (h : Below w0.heap.size w0 W) => idle_any w.heap.size v pa P.length pc P W rfl (by omega) (hP0.below h) (bsome h hbox (by simp; omega))
  have hBM := BL.made w0 L.length
  rw [hsz0] at hBM
  have hM1 := hBM.cell (i := L.length - 1) (by omega)
  have hbM : Below w0.heap.size w0 (w0.alloc (.cells (madeCells #[.bool false] L.length) 4)) := (Below.refl _ _).alloc (Nat.le_refl _) _
  have hboxM := bsome hbM hbox (by simp; omega)
  obtain ⟨hm1, hm2⟩ := hM1
  have hb1 := hbM.setCell (p := ⟨w.heap.size + 1, L.length - 1, none⟩) (by simp; omega) (.bool true)
  have hboxS := bsome hb1 hbox (by simp; omega)
  have HBM := Lib.hid hBM
  have HbM := Lib.hid hb1
  clear hBM hbM hb1
  have HW0 := Lib.hid hw0
  clear hw0
  have HPins := Lib.hid hP0
  have HC0 := Lib.hid hC0
  have HB0 := Lib.hid hb0
  have HSZ := Lib.hid hsz0
  clear hP hC hCP hP0 hC0 hb0
  go_enter Try.func9, Try.ntmps9
  go_wp2_with (first | (rw [← HW0.out]; go_at_call 14; ((with_reducible refine HLen.out.mono ?_); rintro x w1 ⟨rfl, rfl⟩)))
  have hB1 := BL.made2 w0 L.length h0
  rw [hsz0] at hB1
  have hb1 : Below w0.heap.size w0 (w0.alloc (.cells ((madeCells #[.bool false] L.length).setIfInBounds (L.length - 1) (.bool true)) 4)) := (Below.refl _ _).alloc (Nat.le_refl _) _
  clear hm1 hm2 hboxM HBM HbM hboxS
  generalize (w0.alloc (.cells ((madeCells #[.bool false] L.length).setIfInBounds (L.length - 1) (.bool true)) 4)) = w1 at *
  have HB1 := Lib.hid hB1
  have HBl1 := Lib.hid hb1
  clear hB1 hb1
  rw [show ((L.length : Int) == 0) = false from by rw [beq_eq_false_iff_ne]; omega]
  go_loopw [26] (fun i wr => ∃ (k : Nat) (f : Nat → Bool), k ≤ P.length ∧ i = .int .i64 k ∧ BL wr (w.heap.size + 1) L.length f ∧ (∀ j, j < L.length → f j = (decide (j + 1 = L.length) || (P.take k).any fun p => seenK L p L.length == (j : Int))) ∧ Below w0.heap.size w0 wr) (fun i _ => P.length - (intOf i).toNat)
  case atStart => exact ⟨0, _, Nat.zero_le _, rfl, HB1.out, fun j hj => by simp, HBl1.out⟩
  case round =>
    obtain ⟨k, f, hk, rfl, hB, hf, hbel⟩ := hrel
    by_cases hlt : k < P.length
    · obtain ⟨p, hp⟩ : ∃ p, P[k]? = some p := ⟨_, List.getElem?_eq_getElem hlt⟩
      obtain ⟨pb, poff, rfl, pc0⟩ := (HPins.out.below hbel).at hp
      have hlti : (k : Int) < (P.length : Int) := by omega
      have HS := Lib.hid (HSeen.out p wr hbel)
      have HF := Lib.hid hf
      have HB := Lib.hid hB
      have HL := Lib.hid hbel
      have HTK := Lib.hid (take_snoc hp)
      clear hf hB hbel
      rcases seen_cases L p L.length with hs | ⟨m, v, hm, hv, hs⟩
      · rw [hs] at HS
        go_wp2_with (go_at_call 24; ((with_reducible refine HS.out.mono ?_); rintro x w2 ⟨rfl, hb2⟩))
        go_roundw
        case rel => exact ⟨k + 1, f, by omega, by go_num, HB.out.below hb2, need_no hp hs HF.out, bthen HL.out hb2⟩
        case measure => simp [intOf]; omega
      · rw [hs] at HS
        have hmi : (m : Int) < (L.length : Int) := by omega
        go_wp2_with (go_at_call 24; ((with_reducible refine HS.out.mono ?_); rintro x w2 ⟨rfl, hb2⟩; obtain ⟨bc, bf⟩ := (HB.out.below hb2).cell hm))
        go_roundw
        case rel =>
          refine ⟨k + 1, fun j => if j = m then true else f j, by omega, by go_num, (HB.out.below hb2).set m hm true _ (fun j hj => rfl), fun j hj => ?_, (bthen HL.out hb2).setCell (p := ⟨w.heap.size + 1, m, none⟩) (by simp; have := HSZ.out; omega) _⟩
          exact need_yes hp hs HF.out j hj
        case measure => simp [intOf]; omega
    · have hke : k = P.length := by omega
      subst hke
      rw [List.take_length] at hf
      have hkc : keepK L f L.length = keepK L (needF L P) L.length := keepK_congr L f (needF L P) L.length L.length (Nat.le_refl _) hf
      have HKC := Lib.hid hkc
      have HB := Lib.hid hB
      have HL := Lib.hid hbel
      obtain ⟨sv, hBc, hO, hq⟩ := (HC0.out.below hbel)
      obtain ⟨sa, scap, rfl, hsv⟩ := hO.vl
      have e0 : wr.cell? ⟨g, 0, none⟩ = some (.slice sa L.length scap) := hBc.cell 0
      have HSV := Lib.hid hsv
      clear hf hkc hB hbel hBc hO hq hsv
      have hM : ∀ k, (keepK L f k).length ≤ k := keepK_len L f
      go_wp2_with fail
      generalize wr = y1 at *
      go_loopw [10, 44] (fun lv i wx => ∃ (k : Nat), k ≤ L.length ∧ i = .int .i64 k ∧ VO wx y1.heap.size lv (keepK L f k) ∧ BL wx (w.heap.size + 1) L.length f ∧ Below y1.heap.size y1 wx) (fun _ i _ => L.length - (intOf i).toNat)
      case atStart => exact ⟨0, Nat.zero_le _, rfl, World.ownsRow_nil _ _ _ _, HB.out, Below.refl _ _⟩
      case round =>
        obtain ⟨k, hk2, rfl, hvo, hB2, hbl2⟩ := hrel
        by_cases hlt2 : k < L.length
        · obtain ⟨v, hv⟩ : ∃ v, L[k]? = some v := ⟨_, List.getElem?_eq_getElem hlt2⟩
          have hkl := hM k
          obtain ⟨vb, voff, rfl, hva⟩ := HSV.out.at2 hv
          have hva2 := hva.below hbl2
          have hbV : Below wr.heap.size wr (wr.alloc (.cells (#[.int .u64 v.a, .bool v.d, .int .u8 v.r.k, .int .u8 v.r.s, .int .u8 v.r.u, .int .u8 v.r.p, .int .u8 v.r.m, .bool v.r.g, .int .u32 v.r.v, .int .u64 v.r.a, .string v.r.t]) 43)) := (Below.refl _ _).alloc (Nat.le_refl _) _
          have hbVV : Below wr.heap.size wr ((wr.alloc (.cells (#[.int .u64 v.a, .bool v.d, .int .u8 v.r.k, .int .u8 v.r.s, .int .u8 v.r.u, .int .u8 v.r.p, .int .u8 v.r.m, .bool v.r.g, .int .u32 v.r.v, .int .u64 v.r.a, .string v.r.t]) 43)).alloc (.cells (#[.int .u64 v.a, .bool v.d, .int .u8 v.r.k, .int .u8 v.r.s, .int .u8 v.r.u, .int .u8 v.r.p, .int .u8 v.r.m, .bool v.r.g, .int .u32 v.r.v, .int .u64 v.r.a, .string v.r.t]) 43)) := hbV.alloc (by simp) _
          obtain ⟨nc, nf⟩ := (hB2.below hbV).cell hlt2
          have hlti2 : (k : Int) < (L.length : Int) := by omega
          obtain ⟨c0, c1, c2, c3, c4, c5, c6, c7, c8, c9, c10⟩ := hva2
          have HKS := Lib.hid (keepK_step L f k v hv)
          have HVO := Lib.hid hvo
          have HVV := Lib.hid ((hvo.alloc (.cells (#[.int .u64 v.a, .bool v.d, .int .u8 v.r.k, .int .u8 v.r.s, .int .u8 v.r.u, .int .u8 v.r.p, .int .u8 v.r.m, .bool v.r.g, .int .u32 v.r.v, .int .u64 v.r.a, .string v.r.t]) 43)).alloc (.cells (#[.int .u64 v.a, .bool v.d, .int .u8 v.r.k, .int .u8 v.r.s, .int .u8 v.r.u, .int .u8 v.r.p, .int .u8 v.r.m, .bool v.r.g, .int .u32 v.r.v, .int .u64 v.r.a, .string v.r.t]) 43))
          have HB2 := Lib.hid hB2
          have HL2 := Lib.hid hbl2
          have HY2 := Lib.hid (vl_new2 wr v)
          have HbV := Lib.hid hbV
          have HbVV := Lib.hid hbVV
          have hzz2 := hbl2.size
          have HAP := Lib.hid (hB2.apart hvo)
          clear hva hbV hbVV hvo hB2 hbl2
          cases hfk : f k with
          | false =>
            rw [hfk] at nc
            rw [hfk] at HKS
            go_wp2_with fail
            go_roundw
            case rel => exact ⟨k + 1, by omega, by go_num, by rw [HKS.out]; exact HVO.out.alloc _, HB2.out.below HbV.out, HL2.out.trans (HbV.out.mono hzz2)⟩
            case measure => simp [intOf]; omega
          | true =>
            rw [hfk] at nc
            rw [hfk] at HKS
            go_wp2_with (at_builtin; go_loud ((refine wpList_append_vs rfl _ _ rfl y1.heap.size _ (keepK L f k) rfl HVV.out (some ⟨wr.heap.size + 1, 0, none⟩) 1 1 [v] rfl rfl HY2.out (by omega) (by simp; omega) ?_; intro v6 w5 hO6 hg6 _; have HO6 := Lib.hid hO6; have HG6 := Lib.hid hg6; clear hO6 hg6)))
            go_roundw
            case rel => exact ⟨k + 1, by omega, by go_num, by rw [HKS.out]; exact HO6.out, (HB2.out.below HbVV.out).grown HG6.out HAP.out, (HL2.out.trans (HbVV.out.mono hzz2)).grown HG6.out (by simp; omega) (fun j hj => (World.ownsRow.lt HVO.out j hj).1)⟩
            case measure => simp [intOf]; omega
        · have hke2 : k = L.length := by omega
          subst hke2
          obtain ⟨ma, mc, rfl, hML, hmc1, hmc2, hmn⟩ := hvo.vl2
          have HML := Lib.hid hML
          have HL2 := Lib.hid hbl2
          have HMN := Lib.hid hmn
          have hkl := hM L.length
          have hmf := mkfn (.func 25) #[] #[.pointer (some ⟨w.heap.size, 0, none⟩)]
          clear hML hbl2 hvo hB2 hmn
          go_wp2_with fail
          generalize wr = y2 at *
          go_loopw [10] (fun lv wz => ∃ (M : List V) (a : Option Addr) (c : Nat), lv = .slice a M.length c ∧ VL wz a M ∧ M.length ≤ c ∧ c ≤ 9223372036854775807 ∧ (a = none → M.length = 0 ∧ c = 0) ∧ M.dropWhile (idleF P) = (keepK L f L.length).dropWhile (idleF P) ∧ M.length ≤ L.length ∧ Below y2.heap.size y2 wz) (fun lv _ => lenV lv)
          case atStart => exact ⟨_, ma, mc, rfl, HML.out, hmc1, hmc2, HMN.out, rfl, hkl, Below.refl _ _⟩
          case round =>
            obtain ⟨M, a3, c3, rfl, hVL3, hc31, hc32, hn3, hdw, hml, hbl3⟩ := hrel
            have HW0 := Lib.hid (bthen HL.out (bthen HL2.out hbl3))
            have HLA := Lib.hid (bthen HB0.out HW0.out)
            obtain ⟨sv3, hBk, _, hq3⟩ := HC0.out.below HW0.out
            have HBk := Lib.hid hBk
            have HQ3 := Lib.hid hq3
            have HCL0 := Lib.hid (fun (n : Nat) (hn : M.length = n) => clone_any a3 n c3 M wr hn (by omega) hVL3 (fun e => by have := hn3 e; omega))
            have HDW := Lib.hid hdw
            have HBL3 := Lib.hid hbl3
            clear hBk hq3 hdw hbl3 hn3
            rcases M with _ | ⟨v, M⟩
            · have HCL := Lib.hid (HCL0.out 0 rfl)
              clear HCL0
              have HT : trimF L P = [] := by unfold trimF; rw [← HKC.out, ← HDW.out]; rfl
              have HTT := Lib.hid HT
              clear HT hVL3
              go_wp2_with (go_at_call 28; ((with_reducible refine HCL.out.mono ?_); rintro x w2 ⟨v', rfl, hvo', hb'⟩; obtain ⟨av, cv, hvv, _⟩ := hvo'.vl; subst hvv; have HVO' := Lib.hid hvo'; have HBc := Lib.hid (HBk.out.below hb'); have gc := HBc.out.cell 0; have gf := HBc.out.frozen 0; have HB' := Lib.hid (bthen HLA.out hb'); clear hvo' hb'))
              go_ret
              rw [HTT.out]
              exact ⟨ret_int (by go_num), trim_out HVO'.out HBc.out HB'.out ⟨HLA.out.size, by have := HLA.out.size; omega⟩⟩
            · rcases hVL3 with h0' | ⟨vb, voff, rfl, hva⟩
              · cases h0'
              have hv0 := hva 0 v rfl
              rw [Nat.zero_mul, Nat.add_zero] at hv0
              obtain ⟨c0, c1, c2, c3', c4, c5, c6, c7, c8, c9, c10⟩ := hv0
              have HTL := Lib.hid (vl_tail hva)
              have HID := Lib.hid (HIdle.out v wr HW0.out)
              have hpos : (0 : Int) < (((v :: M).length : Nat) : Int) := by simp
              cases hid : idleF P v with
              | true =>
                rw [hid] at HID
                have hdw2 : M.dropWhile (idleF P) = (keepK L f L.length).dropWhile (idleF P) := by rw [← HDW.out, List.dropWhile_cons, hid]; rfl
                have HDW2 := Lib.hid hdw2
                clear hdw2 HCL0
                go_wp2_with (go_at_call 25; ((with_reducible refine HID.out.mono ?_); rintro x w2 ⟨rfl, hb2⟩))
                have hb3 := HBL3.out.trans (hb2.mono HBL3.out.size)
                have hVt := HTL.out.below hb2
                have hml2 : M.length + 1 ≤ c3 := by simpa using hc31
                have hml3 : M.length + 1 ≤ L.length := by simpa using hml
                by_cases hc1 : c3 = 1
                · have hM0 : M = [] := List.length_eq_zero_iff.1 (by omega)
                  subst hM0
                  refine ⟨⟨[], _, _, rfl, .inl rfl, by simp, by omega, fun e => (by rw [if_pos hc1] at e; cases e), HDW2.out, by simp, hb3⟩, by simp [lenV]⟩
                · rw [if_neg hc1]
                  exact ⟨⟨M, _, _, rfl, hVt, by omega, by omega, fun e => (by cases e), HDW2.out, by omega, hb3⟩, by simp [lenV]⟩
              | false =>
                rw [hid] at HID
                have HT : trimF L P = v :: M := by unfold trimF; rw [← HKC.out, ← HDW.out, List.dropWhile_cons, hid]; rfl
                have HTT := Lib.hid HT
                have HCL0 := Lib.hid (fun (W : World) (h : Below wr.heap.size wr W) => clone_any (some ⟨vb, voff, none⟩) (M.length + 1) c3 (v :: M) W rfl (by simp at hml; omega) (VL.below (.inr ⟨vb, voff, rfl, hva⟩) h) (fun e => by cases e))
                clear HT
                go_wp2_with (first | (go_at_call 25; ((with_reducible refine HID.out.mono ?_); rintro x w2' ⟨rfl, hb2⟩; have HCL := Lib.hid (HCL0.out w2' hb2); have HBk2 := Lib.hid (HBk.out.below hb2); have HLA2 := Lib.hid (bthen HLA.out hb2); clear hb2)) | (go_at_call 28; ((with_reducible refine HCL.out.mono ?_); rintro x w2 ⟨v', rfl, hvo', hb'⟩; obtain ⟨av, cv, hvv, _⟩ := hvo'.vl; subst hvv; have HVO' := Lib.hid hvo'; have HBc := Lib.hid (HBk2.out.below hb'); have gc := HBc.out.cell 0; have gf := HBc.out.frozen 0; have HB' := Lib.hid (bthen HLA2.out hb'); clear hvo' hb')))
                go_ret
                rw [HTT.out]
                have hml3 : M.length + 1 ≤ L.length := by simpa using hml
                exact ⟨ret_int (by rw [IntWalk.wrap64_in _ ⟨by omega, by omega⟩, List.length_cons]; omega), trim_out HVO'.out HBc.out HB'.out ⟨HLA2.out.size, by have := HLA2.out.size; omega⟩⟩
end Go.Proofs.Ytpbdgfgjlccapaa.cw
