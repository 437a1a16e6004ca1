/-
  The walks of layer 3: the document's bytes of a field, and of fields.
-/
import Derived.Test.YtapeejndekoicaaWireF
import Derived.Test.YtapeejndekoicaaTake
import Derived.Lib.ConvBytes
namespace Go.Proofs.Ytapeejndekoicaa.ww
open Go.RowKit Go.Proofs.Ytapeejndekoicaa.ba Go.Proofs.Ytapeejndekoicaa.dp Go.Proofs.Ytapeejndekoicaa.wp Go.Proofs.Ytapeejndekoicaa.dw
set_option linter.unusedVariables false
set_option linter.unusedSimpArgs false
attribute [local go_sem ↓] Go.wp_at_zero Go.wp_at_succ

theorem bw_below (w : World) (e : TypeId) (s : ByteArray) : Below w.heap.size w (Lib.bytesWorld w e s) :=
  ⟨rfl, rfl, rfl, by rw [Lib.bytesWorld_size]; omega, fun j hj => Lib.bytesWorld_at_old w e s j hj⟩
theorem bw_lst (w : World) (e : TypeId) (s : ByteArray) : Lst .u8 (Lib.bytesWorld w e s) (some ⟨w.heap.size, 0, none⟩) (strL s) := by
  refine .inr ⟨w.heap.size, 0, rfl, fun i v hv => ?_⟩
  have hi : i < s.size := by
    rw [← strL_len]
    exact (List.getElem?_eq_some_iff.1 hv).1
  rw [Nat.zero_add, Lib.bytesWorld_cell w e s i hi]
  have hi2 : i < s.data.toList.length := by simpa using hi
  simp only [strL, List.getElem?_map, List.getElem?_eq_getElem hi2, Option.map_some, Option.some.injEq] at hv
  rw [List.getD_eq_getElem?_getD, List.getElem?_eq_getElem hi2, ← hv]
  rfl
theorem step_append_lst {P : Program} (w : World) {ops : Array Oper} {o : Oper} {ac : Act} {K : Act → World → Prop} {Q : Exit → Act → World → Prop} {E : Prop} (hgd : o.guard = none) (s x : Operand) (t : TypeId)
    (ho : o.op = .call { callee := .builtin .append, args := #[s, x], argTypes := #[t, t] })
    (base : Nat) (e : TypeId) (k : IntKind) (i : TypeInfo) (z : Value) (bytes : Nat) (ht : P.underlying t = some (.slice e)) (hi : P.info? e = some i) (hz : i.zero = some z)
    (hsize : i.size = 1) (hby : i.bytes = bytes) (hzs : z.cells.size = 1) (v : Value) (n : Nat) (l : List Int) (hs : ac.eval s = v) (hown : w.ownsRow base e 1 v n (l.map (Value.int k)))
    (a : Option Addr) (m c : Nat) (y : List Int) (hx : ac.eval x = .slice a m c) (hm : y.length = m) (hL : Lst k w a y) (h63 : n + m ≤ 1073741824) (hbytes : bytes ≤ 1024) (hbase : base ≤ w.heap.size)
    (h : ∀ v' w', w'.ownsRow base e 1 v' (n + m) ((l ++ y).map (Value.int k)) → w.grownBy w' v.ownBlock → K (ac.put o.dst v') w') :
    if Region.wanted o (yielded ops ac.tmps) = true then Oper.wp P o ac w K Q else E := by
  subst hm
  have hw : Region.wanted o (yielded ops ac.tmps) = true := by simp [Region.wanted, hgd]
  rw [if_pos hw]
  obtain ⟨v', w', hr, h2, h3, h4⟩ := run_append_lst_at (P := P) w base t o.type e k i z bytes ht hi hz hsize hby hzs v n l hown a c y hL h63 hbytes hbase
  unfold Oper.wp execOp
  simp only [ho, resolve, invoke, builtin, Sem.run_bind, Sem.run_pure, Result.andThen_ok, List.map_toArray, List.map_cons, List.map_nil, hs, hx, hr]
  exact h v' w' h2 h3

set_option maxHeartbeats 1000000 in
theorem rhigh_any (n s : Nat) (w : World) (hn : n < 18446744073709551616) (hs : s ≤ 8) :
    Calls Try.prog 51 #[.int .u64 n, .int .i64 s] w fun x w' => Made w w' (beB n s) x := by
  obtain ⟨i0, hi, hz0, hz1, hz2⟩ := info_parts info5
  go_enter Try.func51, Try.ntmps51
  go_wp2_with fail
  go_loopw [0, 5, 6] (fun m o i wr => ∃ (k N : Nat), k ≤ s ∧ i = .int .i64 k ∧ m = .int .u64 N ∧ N < 18446744073709551616 ∧ Hid (N = n / 256 ^ k) ∧ wr.ownsRow w.heap.size 5 1 o k ((beB n k).map (Value.int .u8)) ∧ Below w.heap.size w wr) (fun _ _ i _ => s - (intOf i).toNat)
  case atStart => exact ⟨0, n, Nat.zero_le _, rfl, rfl, hn, by show _ = _; simp, World.ownsRow_nil _ _ _ _, Below.refl _ _⟩
  case round =>
    obtain ⟨k, N, hk, rfl, rfl, hN, hr, hown, hbel⟩ := hrel
    have hz := hbel.size
    obtain ⟨a, c, hv, _, _⟩ := own_form hown
    subst hv
    have hL := Lst.own hown
    have hlen := beB_len n k
    by_cases hlt : k < s
    · have hr2 : Hid (beB n (k + 1) = ((N % 256 : Nat) : Int) :: beB n k) := by show _ = _; rw [hr.out]; rfl
      have hr3 : Hid (N / 256 = n / 256 ^ (k + 1)) := by show _ = _; rw [hr.out, Nat.pow_succ, Nat.div_div_eq_div_mul]
      have HN := Lib.hid hlen
      clear hlen
      go_wp2_with (at_builtin; refine wpList_append_lst rfl _ _ 30 rfl w.heap.size 5 .u8 i0 (.int .u8 0) 1 Try.underlying30 hi hz0 hz1 hz2 rfl (.slice (some ⟨wr.heap.size, 0, none⟩) 1 1) 1 [((N % 256 : Nat) : Int)] rfl (own_new wr w.heap.size 5 [.int .u8 ((N % 256 : Nat) : Int)] 1 rfl hz (by unfold maxLen; omega)) a k c (beB n k) rfl HN.out (hL.below ((Below.refl _ _).alloc (Nat.le_refl _) _)) (by omega) (by omega) (by simp; omega) ?_; intro v2 W2 hown2 hg2)
      go_roundw
      case rel =>
        refine ⟨k + 1, N / 256, by omega, by go_num, by rw [Int.natCast_ediv]; rfl, by omega, hr3, ?_, (hbel.alloc hz _).grown hg2 (by simp; omega) (fun j hj => by simp [Value.ownBlock] at hj; omega)⟩
        rw [hr2.out, Nat.add_comm k 1]
        exact hown2
      case measure => simp [intOf]; omega
    · have : k = s := by omega
      subst this
      have HN := Lib.hid hlen
      clear hlen
      go_wp2_with fail
      go_ret
      exact ⟨a, c, by rw [HN.out]; rfl, hL, hbel⟩

theorem made_own {w w' : World} {l : List Int} {x : Ending} (h : OwnB w.heap.size w w' l x) : Made w w' l x := by
  obtain ⟨a, c, h1, h2, h3⟩ := h
  exact ⟨a, c, h1, Lst.own h2, h3⟩
theorem Made.from {w w2 w' : World} {l : List Int} {x : Ending} (hb : Below w.heap.size w w2) (h : Made w2 w' l x) : Made w w' l x := by
  obtain ⟨a, c, h1, h2, h3⟩ := h
  exact ⟨a, c, h1, h2, bthen hb h3⟩

set_option maxHeartbeats 4000000 in
theorem rbytes_any (f : Fld) (w : World) (hf : good f) :
    Calls Try.prog 33 #[.agg #[.int .i64 f.1, .int .u64 f.2.1, .string f.2.2]] w fun x w' => Made w w' (fb f) x := by
  obtain ⟨i0, hi, hz0, hz1, hz2⟩ := info_parts info5
  obtain ⟨k, n, s⟩ := f
  obtain ⟨hk, hn, hs⟩ := hf
  simp only at hk hn hs
  have hb := box_below w (.cells #[.int .i64 k, .int .u64 n, .string s] 29)
  obtain ⟨d0, d1, d2⟩ := box3 w (.int .i64 k) (.int .u64 n) (.string s) 29
  have hk5 : k = 0 ∨ k = 1 ∨ k = 2 ∨ k = 3 ∨ k = 4 := by omega
  rcases hk5 with rfl | rfl | rfl | rfl | rfl
  · simp only [show ((0 : Nat) : Int) = 0 from rfl] at hb d0 d1 d2 ⊢
    have hb2 := box_below (w.alloc (.cells #[.int .i64 0, .int .u64 n, .string s] 29)) (.cells #[.int .u8 ((n : Int) % 256)] 5)
    have hL := lst_new .u8 (w.alloc (.cells #[.int .i64 0, .int .u64 n, .string s] 29)) [(n : Int) % 256] 5
    rw [show fb (0, n, s) = [(n : Int) % 256] from by simp [fb]]
    go_enter Try.func33, Try.ntmps33
    go_wp2_with fail
    go_ret
    exact ⟨_, _, rfl, by simpa using hL, bthen hb hb2⟩
  · simp only [show ((1 : Nat) : Int) = 1 from rfl] at hb d0 d1 d2 ⊢
    have HF := Lib.hid (rhigh_any (n % 65536) 2 (w.alloc (.cells #[.int .i64 1, .int .u64 n, .string s] 29)) (by omega) (by decide))
    rw [show ((n % 65536 : Nat) : Int) = (n : Int) % 65536 from by omega, show ((2 : Nat) : Int) = 2 from rfl] at HF
    go_enter Try.func33, Try.ntmps33
    go_wp2_with ((with_reducible refine HF.out.mono ?_); rintro x W1 ⟨a1, c1, rfl, hM⟩)
    go_ret
    exact Made.from hb ⟨a1, c1, rfl, hM⟩
  · simp only [show ((2 : Nat) : Int) = 2 from rfl] at hb d0 d1 d2 ⊢
    have HF := Lib.hid (rhigh_any n 8 (w.alloc (.cells #[.int .i64 2, .int .u64 n, .string s] 29)) hn (by decide))
    rw [show ((8 : Nat) : Int) = 8 from rfl] at HF
    go_enter Try.func33, Try.ntmps33
    go_wp2_with ((with_reducible refine HF.out.mono ?_); rintro x W1 ⟨a1, c1, rfl, hM⟩)
    go_ret
    exact Made.from hb ⟨a1, c1, rfl, hM⟩
  · simp only [show ((3 : Nat) : Int) = 3 from rfl] at hb d0 d1 d2 ⊢
    have HF := Lib.hid ((rsma_any n (w.alloc (.cells #[.int .i64 3, .int .u64 n, .string s] 29)) hn).mono fun x w' h => made_own h)
    go_enter Try.func33, Try.ntmps33
    go_wp2_with ((with_reducible refine HF.out.mono ?_); rintro x W1 ⟨a1, c1, rfl, hM⟩)
    go_ret
    exact Made.from hb ⟨a1, c1, rfl, hM⟩
  · simp only [show ((4 : Nat) : Int) = 4 from rfl] at hb d0 d1 d2 ⊢
    have hwr : IntKind.u64.wrap (s.size : Int) = (s.size : Int) := IntWalk.u64_in _ ⟨by omega, by omega⟩
    rw [show fb (4, n, s) = smaL s.size ++ strL s from by simp [fb]]
    have hcv : ∀ W, (convert 9 30 (.string s)).run Try.prog W = .ok (.slice (some ⟨W.heap.size, 0, none⟩) s.size (grownCap W s.size 0 5)) (Lib.bytesWorld W 5 s) := fun W => Lib.run_convert_string_bytes W 9 30 5 s Try.underlying9 Try.underlying30 Try.underlying5
    have hs10 : (smaL s.size).length ≤ 10 := smaK_len 10 s.size
    have hsl := strL_len s
    have HSL := Lib.hid hsl
    have HF := Lib.hid fun W => rsma_any s.size W (by omega)
    have hbx := box_below w (.cells #[.int .i64 4, .int .u64 n, .string s] 29)
    clear hsl
    go_enter Try.func33, Try.ntmps33
    go_wp2_with fail
    obtain ⟨W0, hW0⟩ : ∃ W0, W0 = w.alloc (.cells #[.int .i64 4, .int .u64 n, .string s] 29) := ⟨_, rfl⟩
    have hlt : w.heap.size < W0.heap.size := by rw [hW0]; simp
    rw [← hW0] at hbx d0 d1 d2 ⊢
    clear hb hW0
    refine wp_region_held_drew (S := (fun w' => w'.cell? ⟨w.heap.size, 2, none⟩ = some (.string s))) (by kernel_rfl) (by exact d2) (fun hHeld => ?_)
    refine take_p 0 (v := ?v0) rfl (by kernel_rfl) (by kernel_rfl) (by kernel_rfl) (fun _ _ _ h => h) (by rfl) (by assumption) ?y0 ?r0
    case y0 => intro wS hSw; go_simp; try (with_reducible rfl)
    try simp only [Act.put, List.setIfInBounds_toArray, List.set_cons_zero, List.set_cons_succ]
    refine take_p 1 (v := ?v1) rfl (by kernel_rfl) (by kernel_rfl) (by kernel_rfl) (fun _ _ _ h => h) (by rfl) (by assumption) ?y1 ?r1
    case y1 => intro wS hSw; go_simp; try (with_reducible rfl)
    try simp only [Act.put, List.setIfInBounds_toArray, List.set_cons_zero, List.set_cons_succ]
    refine take_p 2 (v := ?v2) rfl (by kernel_rfl) (by kernel_rfl) (by kernel_rfl) (fun _ _ _ h => h) (by rfl) (by assumption) ?y2 ?r2
    case y2 => intro wS hSw; go_simp; try (with_reducible rfl)
    try simp only [Act.put, List.setIfInBounds_toArray, List.set_cons_zero, List.set_cons_succ]
    refine take_p 3 (v := ?v3) rfl (by kernel_rfl) (by kernel_rfl) (by kernel_rfl) (fun _ _ _ h => h) (by rfl) (by assumption) ?y3 ?r3
    case y3 => intro wS hSw; go_simp; try (with_reducible rfl)
    try simp only [Act.put, List.setIfInBounds_toArray, List.set_cons_zero, List.set_cons_succ]
    refine take_p 5 (v := ?v5) rfl (by kernel_rfl) (by kernel_rfl) (by kernel_rfl) (fun _ _ _ h => h) (by rfl) (by assumption) ?y5 ?r5
    case y5 => intro wS hSw; go_simp; try (with_reducible rfl)
    try simp only [Act.put, List.setIfInBounds_toArray, List.set_cons_zero, List.set_cons_succ]
    refine take_p 6 (v := ?v6) rfl (by kernel_rfl) (by kernel_rfl) (by kernel_rfl) (fun _ _ _ h => h) (by rfl) (by assumption) ?y6 ?r6
    case y6 => intro wS hSw; go_simp; try (with_reducible rfl)
    try simp only [Act.put, List.setIfInBounds_toArray, List.set_cons_zero, List.set_cons_succ]
    refine take_two 4 7 (by kernel_rfl) rfl rfl (fun K hK => ?_) (fun K hK => ?_)
    · go_simp
      ((with_reducible refine (HF.out _).mono ?_); rintro x W1 ⟨a1, c1, rfl, hown1, hb1⟩; have hlt1 : w.heap.size < W1.heap.size := Nat.lt_of_lt_of_le (by first | exact hlt | exact hltb) hb1.size)
      refine hK.out _ _ (by first | assumption | exact bsome hb1 hHeld (by first | exact hlt | exact hltb) | exact (Lib.bytesWorld_old _ _ _ _ (by first | exact hlt | exact hlt1)).trans hHeld) (fun hHeld => ?_)
      clear hK K
      try simp only [Act.put, List.setIfInBounds_toArray, List.set_cons_zero, List.set_cons_succ]
      refine take_c 7 (by kernel_rfl) rfl (fun K hK => ?_)
      go_simp
      refine hK.out _ _ (by first | assumption | exact bsome hb1 hHeld (by first | exact hlt | exact hltb) | exact (Lib.bytesWorld_old _ _ _ _ (by first | exact hlt | exact hlt1)).trans hHeld) (fun hHeld => ?_)
      clear hK K
      try simp only [Act.put, List.setIfInBounds_toArray, List.set_cons_zero, List.set_cons_succ]
      refine take_c 8 (by kernel_rfl) rfl (fun K hK => ?_)
      refine step_append_lst _ rfl (.tmp 32) (.tmp 35) 30 rfl 0 5 .u8 i0 (.int .u8 0) 1 Try.underlying30 hi hz0 hz1 hz2 rfl (.slice a1 (smaL s.size).length c1) (smaL s.size).length (smaL s.size) (by rfl) (own_mono (own_below hown1 (bw_below _ _ _)) (Nat.zero_le _)) (some ⟨W1.heap.size, 0, none⟩) s.size (grownCap W1 s.size 0 5) (strL s) (by rfl) HSL.out (bw_lst W1 _ s) (by omega) (by omega) (Nat.zero_le _) ?_; intro v3 W3 hown3 hg3; have hd3 : W3.cell? ⟨w.heap.size, 2, none⟩ = some (.string s) := (World.cell?_of_block (hg3.block w.heap.size (Nat.lt_of_lt_of_le hlt1 (bw_below W1 5 s).size) (fun e => Nat.lt_irrefl _ (Nat.lt_of_lt_of_le hlt (hown1.lt w.heap.size e.symm).1)))).trans hHeld
      refine hK.out _ _ (by first | assumption | exact bsome hb1 hHeld (by first | exact hlt | exact hltb) | exact (Lib.bytesWorld_old _ _ _ _ (by first | exact hlt | exact hlt1)).trans hHeld) (fun hHeld => ?_)
      clear hK K
      try simp only [Act.put, List.setIfInBounds_toArray, List.set_cons_zero, List.set_cons_succ]
      refine take_p 9 (v := ?va9) rfl (by kernel_rfl) (by kernel_rfl) (by kernel_rfl) (fun _ _ _ h => h) (by rfl) (by assumption) ?ya9 ?ra9
      case ya9 => intro wS hSw; go_simp; try (with_reducible rfl)
      try simp only [Act.put, List.setIfInBounds_toArray, List.set_cons_zero, List.set_cons_succ]
      refine wpAnyH_done (by kernel_rfl) ?_ _
      obtain ⟨a3, c3, hv3, _, _⟩ := own_form hown3
      subst hv3
      have hbW0 : Below w.heap.size w W0.drew := bdrew hbx 1
      have hz0 := hbW0.size
      have hbf : Below w.heap.size w W3 := (bthen (bthen hbW0 hb1) (bw_below W1 5 s)).grown hg3 (bthen (bthen hbW0 hb1) (bw_below W1 5 s)).size (fun j hj => Nat.le_trans (hbW0.size) (hown1.lt j hj).1)
      have hLf := Lst.own hown3
      clear hown3 hg3 hb1 hown1 hbx hbW0 hd3 hHeld
      go_wp2_with fail
      go_ret
      exact ⟨a3, c3, by rw [List.length_append, HSL.out]; rfl, hLf, hbf⟩
    · go_simp
      have hltb : w.heap.size < (Lib.bytesWorld W0.drew 5 s).heap.size := Nat.lt_of_lt_of_le hlt (bw_below W0.drew 5 s).size
      refine hK.out _ _ (by first | assumption | exact bsome hb1 hHeld (by first | exact hlt | exact hltb) | exact (Lib.bytesWorld_old _ _ _ _ (by first | exact hlt | exact hlt1)).trans hHeld) (fun hHeld => ?_)
      clear hK K
      try simp only [Act.put, List.setIfInBounds_toArray, List.set_cons_zero, List.set_cons_succ]
      refine take_c 4 (by kernel_rfl) rfl (fun K hK => ?_)
      go_simp
      ((with_reducible refine (HF.out _).mono ?_); rintro x W1 ⟨a1, c1, rfl, hown1, hb1⟩; have hlt1 : w.heap.size < W1.heap.size := Nat.lt_of_lt_of_le (by first | exact hlt | exact hltb) hb1.size)
      refine hK.out _ _ (by first | assumption | exact bsome hb1 hHeld (by first | exact hlt | exact hltb) | exact (Lib.bytesWorld_old _ _ _ _ (by first | exact hlt | exact hlt1)).trans hHeld) (fun hHeld => ?_)
      clear hK K
      try simp only [Act.put, List.setIfInBounds_toArray, List.set_cons_zero, List.set_cons_succ]
      refine take_c 8 (by kernel_rfl) rfl (fun K hK => ?_)
      refine step_append_lst _ rfl (.tmp 32) (.tmp 35) 30 rfl 0 5 .u8 i0 (.int .u8 0) 1 Try.underlying30 hi hz0 hz1 hz2 rfl (.slice a1 (smaL s.size).length c1) (smaL s.size).length (smaL s.size) (by rfl) (own_mono hown1 (Nat.zero_le _)) (some ⟨W0.heap.size, 0, none⟩) s.size (grownCap W0.drew s.size 0 5) (strL s) (by rfl) HSL.out ((bw_lst W0.drew _ s).below hb1) (by omega) (by omega) (Nat.zero_le _) ?_; intro v3 W3 hown3 hg3; have hd3 : W3.cell? ⟨w.heap.size, 2, none⟩ = some (.string s) := (World.cell?_of_block (hg3.block w.heap.size hlt1 (fun e => Nat.lt_irrefl _ (Nat.lt_of_lt_of_le hltb (hown1.lt w.heap.size e.symm).1)))).trans hHeld
      refine hK.out _ _ (by first | assumption | exact bsome hb1 hHeld (by first | exact hlt | exact hltb) | exact (Lib.bytesWorld_old _ _ _ _ (by first | exact hlt | exact hlt1)).trans hHeld) (fun hHeld => ?_)
      clear hK K
      try simp only [Act.put, List.setIfInBounds_toArray, List.set_cons_zero, List.set_cons_succ]
      refine take_p 9 (v := ?vb9) rfl (by kernel_rfl) (by kernel_rfl) (by kernel_rfl) (fun _ _ _ h => h) (by rfl) (by assumption) ?yb9 ?rb9
      case yb9 => intro wS hSw; go_simp; try (with_reducible rfl)
      try simp only [Act.put, List.setIfInBounds_toArray, List.set_cons_zero, List.set_cons_succ]
      refine wpAnyH_done (by kernel_rfl) ?_ _
      obtain ⟨a3, c3, hv3, _, _⟩ := own_form hown3
      subst hv3
      have hbW0 : Below w.heap.size w W0.drew := bdrew hbx 1
      have hz0 := hbW0.size
      have hbf : Below w.heap.size w W3 := (bthen (bthen hbW0 (bw_below W0.drew 5 s)) hb1).grown hg3 (bthen (bthen hbW0 (bw_below W0.drew 5 s)) hb1).size (fun j hj => Nat.le_trans ((bthen hbW0 (bw_below W0.drew 5 s)).size) (hown1.lt j hj).1)
      have hLf := Lst.own hown3
      clear hown3 hg3 hb1 hown1 hbx hbW0 hd3 hHeld
      go_wp2_with fail
      go_ret
      exact ⟨a3, c3, by rw [List.length_append, HSL.out]; rfl, hLf, hbf⟩
end Go.Proofs.Ytapeejndekoicaa.ww
