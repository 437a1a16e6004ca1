/-
  The walks of layer 10: records as bytes.
-/
import Derived.Test.YtaekpejpcafnkaaRecD
import Derived.Test.YtaekpejpcafnkaaRecG
namespace Go.Proofs.Ytaekpejpcafnkaa.rw
open Go.RowKit Go.Proofs.Ytaekpejpcafnkaa.ba Go.Proofs.Ytaekpejpcafnkaa.rp Go.Proofs.Ytaekpejpcafnkaa.dp Go.Proofs.Ytaekpejpcafnkaa.dw Go.Proofs.Ytaekpejpcafnkaa.wp Go.Proofs.Ytaekpejpcafnkaa.ww
set_option maxRecDepth 8000
set_option linter.unusedVariables false
attribute [local go_sem ↓] Go.wp_at_zero Go.wp_at_succ

theorem cf_b1 (caps : Array Value) (w : World) : (callFunc 35 caps).run Try.prog w = .ok (.enter 35 caps) w := by kernel_rfl
theorem cf_b2 (caps : Array Value) (w : World) : (callFunc 36 caps).run Try.prog w = .ok (.enter 36 caps) w := by kernel_rfl
theorem cf_b3 (caps : Array Value) (w : World) : (callFunc 37 caps).run Try.prog w = .ok (.enter 37 caps) w := by kernel_rfl
theorem cf_b4 (caps : Array Value) (w : World) : (callFunc 39 caps).run Try.prog w = .ok (.enter 39 caps) w := by kernel_rfl
theorem cf_b5 (caps : Array Value) (w : World) : (callFunc 40 caps).run Try.prog w = .ok (.enter 40 caps) w := by kernel_rfl

section
variable {r : R} {L gr gv gw : Nat} {W : World} {q : Option Nat}
theorem WI.lt {V j : Nat} {vc : Array Value} (h : WI r L gr gv gw V vc j W) : L ≤ W.heap.size := by
  obtain ⟨_, _, _, ⟨q, hW, _⟩, h5⟩ := h
  exact Nat.le_trans h5 (Nat.le_of_lt hW.lt.1)
/-- A right record's fields are written behind its kind. -/
theorem wvisit_any (hr : r.ok) (ht : r.t.size ≤ 60) (h1 : Blk W gr 30 (cellsOf r)) (h2 : Blk W gv 79 #[.pointer (some ⟨gw, 0, none⟩)]) (hW : Wr W gw q [r.k] 0 100) (hq : ∀ k, q = some k → L ≤ k) (hg : L ≤ gw) :
    Calls Try.prog 24 #[.pointer (some ⟨gr, 0, none⟩), .agg #[.func (.func 35) #[] #[.pointer (some ⟨gv, 0, none⟩)], .func (.func 36) #[] #[.pointer (some ⟨gv, 0, none⟩)], .func (.func 37) #[] #[.pointer (some ⟨gv, 0, none⟩)], .func (.func 39) #[] #[.pointer (some ⟨gv, 0, none⟩)], .func (.func 40) #[] #[.pointer (some ⟨gv, 0, none⟩)]]] W fun x w' =>
      x = .returned (.tuple #[]) ∧ w'.cell? ⟨gv, 0, none⟩ = some (.pointer (some ⟨gw, 0, none⟩)) ∧ (∃ q', Wr w' gw q' (encR r) 0 100) ∧ Kept (fun j => L ≤ j) W w' := by
  refine (visit_any r.k gr 35 36 37 39 40 #[.pointer (some ⟨gv, 0, none⟩)] #[.pointer (some ⟨gv, 0, none⟩)] #[.pointer (some ⟨gv, 0, none⟩)] #[.pointer (some ⟨gv, 0, none⟩)] #[.pointer (some ⟨gv, 0, none⟩)]
    (WS L gr gv W.heap.size) (WI r L gr gv gw W.heap.size #[.func (.func 35) #[] #[.pointer (some ⟨gv, 0, none⟩)], .func (.func 36) #[] #[.pointer (some ⟨gv, 0, none⟩)], .func (.func 37) #[] #[.pointer (some ⟨gv, 0, none⟩)], .func (.func 39) #[] #[.pointer (some ⟨gv, 0, none⟩)], .func (.func 40) #[] #[.pointer (some ⟨gv, 0, none⟩)]]) W hr.k.1 hr.k.2
    ⟨h1.alloc _, h2.alloc _, Blk.new W _ _, ⟨q, hW.below (box_below W _), hq⟩, hg⟩ (fun j X h => h.drew) (fun e => e.2.2.2 rfl) (h1.cell 0) cf_b1 cf_b2 cf_b3 cf_b4 cf_b5
    (fun j off hu X hI => wb1_any off hI hI.lt ht hu)
    (fun j off hu X hI => by
      obtain rfl : off = 5 := by have := uses_off _ _ _ _ hu; omega
      exact wb2_any hI hI.lt ht hu)
    (fun j off hu X hI => by
      obtain rfl : off = 6 := by have := uses_off _ _ _ _ hu; omega
      exact wb3_any hr hI hI.lt ht hu)
    (fun j off hu X hI => by
      obtain rfl : off = 7 := by have := uses_off _ _ _ _ hu; omega
      exact wb4_any hr hI hI.lt ht hu)
    (fun j off hu X hI => by
      obtain rfl : off = 8 := by have := uses_off _ _ _ _ hu; omega
      exact wb5_any hr hI hI.lt ht hu)).mono fun x w' ⟨hx, hI, hK⟩ => ⟨hx, hI.2.1.cell 0, ?_, hK.mono fun j _ h => h.1⟩
  obtain ⟨q', hW', _⟩ := hI.2.2.2.1
  exact ⟨q', hW'⟩
end

/-- From the slice's address on lie just these records. -/
def Recs (w : World) (a : Option Addr) (l : List R) : Prop :=
  l = [] ∨ ∃ b off, a = some ⟨b, off, none⟩ ∧ ∀ i r, l[i]? = some r → ∀ c v, (cellsOf r)[c]? = some v → w.cell? ⟨b, off + i * 9 + c, none⟩ = some v
theorem Recs.below {w w' : World} {a : Option Addr} {l : List R} (h : Recs w a l) (hb : Below w.heap.size w w') : Recs w' a l := by
  rcases h with h | ⟨b, off, rfl, h⟩
  · exact .inl h
  · exact .inr ⟨b, off, rfl, fun i r hr c v hv => bsome hb (h i r hr c v hv) (World.block_lt_of_cell? w _ (h i r hr c v hv))⟩
/-- Records as bytes; the first error. -/
def recF : List R → List Int → List Int × Int
  | [], acc => (acc, 0)
  | r :: rs, acc => if checkF r = 0 then recF rs (acc ++ encR r) else ([], checkF r)
theorem checkF_text {r : R} (h : checkF r = 0) : r.t.size ≤ 60 := by
  unfold checkF at h
  repeat' split at h
  all_goals first | omega | exact absurd h (by decide)
theorem own_none {w : World} {base n c : Nat} {e : TypeId} {av : Option Addr} {xs : List Int} (h : w.ownsRow base e 1 (.slice av n c) n (xs.map (Value.int .u8))) : av = none → xs = [] := fun e0 => by
  subst e0
  rcases h.2 with ⟨_, h2⟩ | ⟨g, cap, cur, hv, _⟩
  · exact List.eq_nil_of_length_eq_zero (by have := h.1; rw [List.length_map, h2] at this; omega)
  · cases hv
/-- Bytes and an error, handed back. -/
def GotB (w w' : World) (s : List Int × Int) (x : Ending) : Prop :=
  ∃ a c, x = .returned (.tuple #[.slice a s.1.length c, .int .i64 s.2]) ∧ s.1.length ≤ c ∧ c ≤ maxLen ∧ Lst .u8 w' a s.1 ∧ (a = none → s.1 = []) ∧ Below w.heap.size w w'

theorem bx0 (W : World) : Below W.heap.size W W.drew := ⟨rfl, rfl, rfl, Nat.le_refl _, fun _ _ => rfl⟩
theorem bx1 (W : World) (o : Obj) : Below W.heap.size W (W.alloc o).drew := bthen (bx0 W) (box_below W.drew o)
theorem bx3 (W : World) (o o' : Obj) : Below W.heap.size W ((W.alloc o).alloc o') := bthen (box_below W o) (box_below _ o')
theorem bx2 (W : World) (o o' : Obj) : Below W.heap.size W ((W.alloc o).alloc o').drew := bthen (bx0 W) (bx3 W.drew o o')
theorem box_cell1 (w : World) (v : Value) (t : TypeId) (o : Obj) : ((w.alloc (.cells #[v] t)).alloc o).cell? ⟨w.heap.size, 0, none⟩ = some v := ((Blk.new w t #[v]).alloc o).cell 0
theorem box_cell2 (w : World) (v : Value) (t : TypeId) (o : Obj) : ((w.alloc o).alloc (.cells #[v] t)).cell? ⟨w.heap.size + 1, 0, none⟩ = some v := by
  simp
theorem old_cell {W W2 : World} {p : Addr} {v : Value} (hb : Below W.heap.size W W2) (h : W.cell? p = some v) : W2.cell? p = some v := bsome hb h (World.block_lt_of_cell? _ _ h)
theorem new_at {W1 : World} {g : Nat} {v : Value} (hc : W1.cell? ⟨g, 0, none⟩ = some v) (W : World) (hb : Below W1.heap.size W1 W) :
    Calls Try.prog 33 #[.int .i64 100] W fun x w' => ∃ g2, x = .returned (.pointer (some ⟨g2, 0, none⟩)) ∧ Wr w' g2 none [] 0 100 ∧ W1.heap.size ≤ g2 ∧ Below W1.heap.size W1 w' ∧ Below W.heap.size W w' ∧ W.heap.size ≤ g2 ∧ g2 < w'.heap.size ∧ w'.cell? ⟨g, 0, none⟩ = some v :=
  (new_any 100 W).mono fun x w' ⟨hx, hW, hb2⟩ => ⟨_, hx, hW, hb.size, bthen hb hb2, hb2, Nat.le_refl _, hW.lt.1, bsome (bthen hb hb2) hc (World.block_lt_of_cell? _ _ hc)⟩
theorem byte_at {v : Int} (gr : Nat) (v0 : Value) (g : Nat) (W2 W3 : World) (b : Nat) (hW : Wr W2 g none [] 0 100) (hb : Below W2.heap.size W2 W3) (hc : W3.cell? ⟨b, 0, none⟩ = some (.int .u8 v)) (h0 : W2.cell? ⟨gr, 0, none⟩ = some v0) (hne : gr ≠ g) :
    Calls Try.prog 34 #[.pointer (some ⟨g, 0, none⟩), .slice (some ⟨b, 0, none⟩) 1 1] W3 fun x w4 => x = .returned (.pointer (some ⟨g, 0, none⟩)) ∧ ∃ q, Wr w4 g q [v] 0 100 ∧ (∀ k, q = some k → W3.heap.size ≤ k) ∧ Kept (fun j => j = g) W3 w4 ∧ w4.cell? ⟨gr, 0, none⟩ = some v0 :=
  (byte_any g none [] 0 100 v b 0 W3 (hW.below hb) (by simp) (by decide) (by decide) hc).mono fun x w' ⟨hx, q', hW', hK, hq⟩ => by
    rw [wput_fits (by simp)] at hW'
    have hK' : Kept (fun j => j = g) W3 w' := hK.mono fun j _ h => h.elim id (fun h => by cases h)
    refine ⟨hx, q', hW', fun k hk => ?_, hK', hK'.cell (bsome hb h0 (World.block_lt_of_cell? _ _ h0)) hne⟩
    rcases hq with rfl | ⟨k', rfl, h⟩
    · cases hk
    · cases hk; exact h
theorem blk_new2 (w : World) (o : Obj) (t : TypeId) (cs : Array Value) : Blk ((w.alloc o).alloc (.cells cs t)) (w.heap.size + 1) t cs := by
  have := Blk.new (w.alloc o) t cs
  simpa using this
/-- What stands behind the writer's making: a variable that holds it. -/
def Fin (W1 : World) (v : Int) (x : Value) (wx : World) : Prop :=
  ∃ gv gw q, x = .pointer (some ⟨gv, 0, none⟩) ∧ Below W1.heap.size W1 wx ∧ Blk wx gv 79 #[.pointer (some ⟨gw, 0, none⟩)] ∧ Wr wx gw q [v] 0 100 ∧ (∀ k, q = some k → W1.heap.size ≤ k) ∧ W1.heap.size ≤ gw
theorem fin_below {W1 W2 W3 W4 : World} {g2 : Nat} (hb2 : Below W1.heap.size W1 W2) (hb3 : Below W2.heap.size W2 W3) (hK4 : Kept (fun j => j = g2) W3 W4) (hg2 : W1.heap.size ≤ g2) : Below W1.heap.size W1 W4 :=
  hK4.below (bthen hb2 hb3) (fun j hj => by omega)
theorem fin_new {W1 W2 W3 W4 : World} {g2 : Nat} {q4 : Option Nat} {v : Int} (hb2 : Below W1.heap.size W1 W2) (hb3 : Below W2.heap.size W2 W3) (hK4 : Kept (fun j => j = g2) W3 W4) (hW4 : Wr W4 g2 q4 [v] 0 100) (hq4 : ∀ k, q4 = some k → W3.heap.size ≤ k) (hg2 : W1.heap.size ≤ g2) :
    Fin W1 v (.pointer (some ⟨W4.heap.size, 0, none⟩)) (W4.alloc (.cells #[.pointer (some ⟨g2, 0, none⟩)] 79)) :=
  ⟨_, _, q4, rfl, bthen (fin_below hb2 hb3 hK4 hg2) (box_below _ _), Blk.new _ _ _, hW4.below (box_below _ _), fun k hk => Nat.le_trans hb2.size (Nat.le_trans hb3.size (hq4 k hk)), hg2⟩
theorem fin_old {W1 W2 W3 W4 : World} {g2 X : Nat} {q4 : Option Nat} {v : Int} (hb2 : Below W1.heap.size W1 W2) (hb3 : Below W2.heap.size W2 W3) (hK4 : Kept (fun j => j = g2) W3 W4) (hW4 : Wr W4 g2 q4 [v] 0 100) (hq4 : ∀ k, q4 = some k → W3.heap.size ≤ k) (hg2 : W1.heap.size ≤ g2)
    (hB : Blk W3 X 79 #[.pointer none]) (hne : X ≠ g2) (hge : W1.heap.size ≤ X) :
    Fin W1 v (.pointer (some ⟨X, 0, none⟩)) (W4.setCell ⟨X, 0, none⟩ (.pointer (some ⟨g2, 0, none⟩))) := by
  have hB4 := hB.kept hK4 hne
  have hX := wr_apart hW4 hB4 (by decide) (by decide)
  exact ⟨_, _, q4, rfl, (fin_below hb2 hb3 hK4 hg2).setCell hge _, hB4.set_ 0 _, hW4.kept (S := fun j => j = X) (Kept.of_set _ rfl) (fun e => hne e.symm) (fun j hj e => hX.1 (by rw [hj, e])), fun k hk => Nat.le_trans hb2.size (Nat.le_trans hb3.size (hq4 k hk)), hg2⟩
theorem bytes_ok (g : Nat) (q : Option Nat) (l : List Int) (room : Int) (w : World) (hW : Wr w g q l 0 room) (hl : l.length ≤ 1000000) :
    Calls Try.prog 42 #[.pointer (some ⟨g, 0, none⟩)] w fun x w' => ∃ a c, x = .returned (.tuple #[.slice a l.length c, .int .i64 0]) ∧ l.length ≤ c ∧ c ≤ maxLen ∧ Lst .u8 w' a l ∧ Below w.heap.size w w' :=
  (bytes_any g q l 0 room w hW hl).mono fun x w' ⟨a, c, hx, h1, h2, h3, h4, h5⟩ => ⟨a, c, by simpa using hx, by simpa using h1, h2, by simpa using h3, h5⟩
theorem below_grown {B : Nat} {W w w' : World} {v : Value} {base : Nat} {e : TypeId} {size n : Nat} {xs : List Value} (h : Below B W w) (hB : B ≤ w.heap.size) (hown : w.ownsRow base e size v n xs) (hbase : B ≤ base) (hg : w.grownBy w' v.ownBlock) : Below B W w' :=
  h.grown hg hB (fun k hk => by have := hown.lt k hk; omega)
theorem bl_far {W w2 : World} (hb : Below W.heap.size W w2) : (∀ b o, b < W.heap.size → w2.cell? ⟨b, o, none⟩ = W.cell? ⟨b, o, none⟩) ∧ (∀ b o, b < W.heap.size → w2.frozen? ⟨b, o, none⟩ = W.frozen? ⟨b, o, none⟩) :=
  ⟨fun b o h => hb.cell (p := ⟨b, o, none⟩) h, fun b o h => hb.frozen (p := ⟨b, o, none⟩) h⟩
theorem kp_far {g : Nat} {W3 w4 : World} (hK : Kept (fun j => j = g) W3 w4) : (∀ b o, b < W3.heap.size → b ≠ g → w4.cell? ⟨b, o, none⟩ = W3.cell? ⟨b, o, none⟩) ∧ (∀ b o, b < W3.heap.size → b ≠ g → w4.frozen? ⟨b, o, none⟩ = W3.frozen? ⟨b, o, none⟩) :=
  ⟨fun b o h hn => World.cell?_of_block (w := W3) (hK.block b h hn), fun b o h hn => by
    have := hK.block b h hn
    simp only [World.frozen?, this]⟩
set_option maxRecDepth 100000 in
set_option maxHeartbeats 4000000 in
theorem recbytes_any (a : Option Addr) (n c : Nat) (l : List R) (w : World) (hn : l.length = n) (hl : n ≤ 1000000) (hL : Recs w a l) (hok : ∀ r ∈ l, r.ok) :
    Calls Try.prog 11 #[.slice a n c] w fun x w' => GotB w w' (recF l []) x := by
  subst hn
  obtain ⟨i0, hi, hz0, hz1, hz2⟩ := info_parts info5
  go_enter Try.func11, Try.ntmps11
  go_wp2_with fail
  go_loopw [4, 13] (fun o i wr => ∃ (k : Nat) (acc : List Int), k ≤ l.length ∧ i = .int .i64 k ∧ acc.length ≤ 100 * k ∧ Hid (recF l [] = recF (l.drop k) acc) ∧ wr.ownsRow w.heap.size 5 1 o acc.length (acc.map (Value.int .u8)) ∧ Below w.heap.size w wr) (fun _ i _ => l.length - (intOf i).toNat)
  case atStart => exact ⟨0, [], Nat.zero_le _, rfl, Nat.le_refl _, rfl, World.ownsRow_nil _ _ _ _, Below.refl _ _⟩
  case round =>
    obtain ⟨k, acc, hk, rfl, hll, hr, hown, hbel⟩ := hrel
    have hz := hbel.size
    obtain ⟨av, cv, hv, hac, hcm⟩ := own_form hown
    subst hv
    by_cases hlt : k < l.length
    · obtain ⟨r, hrk⟩ := some_at l hlt
      have hrok := hok r (List.mem_of_getElem? hrk)
      have hdr := drop_at hrk
      rcases hL with h0 | ⟨b, off, rfl, hc⟩
      · subst h0; simp at hlt
      have hcc := fun (j : Nat) (v : Value) (hv : (cellsOf r)[j]? = some v) => bsome hbel (hc k r hrk j v hv) (World.block_lt_of_cell? _ _ (hc k r hrk j v hv))
      have c0 : wr.cell? ⟨b, off + k * 9, none⟩ = some (.int .u8 r.k) := hcc 0 _ rfl
      have c1 : wr.cell? ⟨b, off + k * 9 + 1, none⟩ = some (.int .u8 r.s) := hcc 1 _ rfl
      have c2 : wr.cell? ⟨b, off + k * 9 + 2, none⟩ = some (.int .u8 r.u) := hcc 2 _ rfl
      have c3 : wr.cell? ⟨b, off + k * 9 + 3, none⟩ = some (.int .u8 r.p) := hcc 3 _ rfl
      have c4 : wr.cell? ⟨b, off + k * 9 + 4, none⟩ = some (.int .u8 r.m) := hcc 4 _ rfl
      have c5 : wr.cell? ⟨b, off + k * 9 + 5, none⟩ = some (.bool r.g) := hcc 5 _ rfl
      have c6 : wr.cell? ⟨b, off + k * 9 + 6, none⟩ = some (.int .u32 r.v) := hcc 6 _ rfl
      have c7 : wr.cell? ⟨b, off + k * 9 + 7, none⟩ = some (.int .u64 r.a) := hcc 7 _ rfl
      have c8 : wr.cell? ⟨b, off + k * 9 + 8, none⟩ = some (.string r.t) := hcc 8 _ rfl
      have HK := Lib.hid fun (W : World) => check_any r W hrok
      have HO := Lib.hid hown
      have hltI : (k : Int) < (l.length : Int) := by omega
      clear hcc hc hrk hown
      by_cases hck : checkF r = 0
      · have HT := Lib.hid (checkF_text hck)
        have hs2 : Hid (recF l [] = recF (l.drop (k + 1)) (acc ++ encR r)) := by show _ = _; rw [hr.out, hdr, recF, if_pos hck]
        rw [hck] at HK
        clear hdr hck
        go_upto_region 8 with ((go_at_call 14; ((with_reducible refine (HK.out _).mono ?_); rintro x W1 ⟨rfl, hb1⟩)))
        obtain ⟨gr, hgr⟩ : ∃ g, g = wr.heap.size := ⟨_, rfl⟩
        have hB0 := Blk.new wr 30 (cellsOf r)
        have hB1 := hB0.below hb1
        have hb0 : Below wr.heap.size wr W1 := bthen (box_below wr _) hb1
        have e0 : W1.cell? ⟨wr.heap.size, 0, none⟩ = some (.int .u8 r.k) := hB1.cell 0
        have HN := Lib.hid (new_at (W1 := W1) (g := wr.heap.size) (v := .int .u8 r.k) e0)
        have HY := Lib.hid (byte_at (v := r.k) wr.heap.size (.int .u8 r.k))
        have hgl := hB1.lt
        clear hB0 hb0 hgr
        go_cut [8] (fun x wx => Fin W1 r.k x wx)
        case first =>
          go_region_held3 (fun w' => w'.cell? ⟨wr.heap.size, 0, none⟩ = some (.int .u8 r.k)) (first | assumption | (refine (World.cell?_setCell_far _ _ _ _ (by dsimp only; omega)).trans ?_; assumption) | go_keep)
            (first
              | (go_at_call 33; ((refine (HN.out _ (by first | exact bx0 _ | exact bx1 _ _ | exact bx2 _ _ _)).mono ?_); rintro x W2 ⟨g2, rfl, hW2, hg2, hb2, hbb2, hg3, hg4, e2⟩; obtain ⟨hbc, hbf⟩ := bl_far hbb2; have hz2 := hb2.size; have n2 : W2.heap.size ≠ g2 := (by omega); have n3 : W2.heap.size + 1 ≠ g2 := (by omega); (try have n1 : W1.heap.size ≠ g2 := (by simp at hg3; omega)); (try have n0 : W1.heap.size + 1 ≠ g2 := (by simp at hg3; omega)); have m1 : W1.heap.size < W2.heap.size := (by omega); have m3 : W1.heap.size < W2.heap.size + 1 := (by omega); (try have m2 : W1.heap.size + 1 < W2.heap.size := (by simp at hg3; omega)); (try have m4 : W1.heap.size + 1 < W2.heap.size + 1 := (by simp at hg3; omega)); (try have m5 : W1.heap.size + 1 ≤ W2.heap.size := (by simp at hg3; omega)); (try have k1 : W2.cell? ⟨W1.heap.size, 0, none⟩ = some (.int .u8 r.k) := old_cell hbb2 (by first | exact box_cell W1 _ _ | exact box_cell1 W1 _ _ _)); (try have k2 : W2.cell? ⟨W1.heap.size + 1, 0, none⟩ = some (.int .u8 r.k) := old_cell hbb2 (box_cell2 W1 _ _ _))))
              | (go_at_call 34; ((refine (HY.out _ W2 _ _ hW2 (by first | exact Below.refl _ _ | exact box_below _ _ | exact bx3 _ _ _) (by first | exact box_cell _ _ _ | exact box_cell1 _ _ _ _ | exact box_cell2 _ _ _ _ | exact k1 | exact k2 | exact old_cell (box_below _ _) k1 | exact old_cell (box_below _ _) k2) e2 (by omega)).mono ?_); rintro x W4 ⟨rfl, q4, hW4, hq4, hK4, e4⟩; obtain ⟨hkc, hkf⟩ := kp_far hK4; have hz4 := hK4.size; (try simp at hz4)))
              | fail)
          all_goals
            go_wp2_with fail
            go_meet
            first
                | exact fin_new hb2 (by first | exact Below.refl _ _ | exact box_below _ _ | exact bx3 _ _ _) hK4 hW4 hq4 hg2
                | exact fin_old hb2 (by first | exact Below.refl _ _ | exact box_below _ _ | exact bx3 _ _ _) hK4 hW4 hq4 hg2 (by first | exact Blk.new _ _ _ | exact (Blk.new _ _ _).alloc _ | exact blk_new2 _ _ _ _ | exact (Blk.new W1 _ _).drew.below hbb2 | exact ((Blk.new W1 _ _).alloc _).drew.below hbb2 | exact (blk_new2 W1 _ _ _).drew.below hbb2 | exact ((Blk.new W1 _ _).drew.below hbb2).alloc _ | exact (((Blk.new W1 _ _).alloc _).drew.below hbb2).alloc _ | exact ((blk_new2 W1 _ _ _).drew.below hbb2).alloc _) (by omega) (by omega)
        case rest =>
          obtain ⟨gv, gw, q, rfl, hb2, hv2, hW2, hq2, hg2⟩ := hcut
          have HV := Lib.hid (wvisit_any (L := W1.heap.size) hrok HT.out (hB1.below hb2) hv2 hW2 hq2 hg2)
          have HB2 := Lib.hid hb2
          have HB0 := Lib.hid (bthen (box_below wr (.cells (cellsOf r) 30)) hb1)
          have HEL := Lib.hid (encR_le r HT.out)
          clear hb2 hv2 hW2 hq2 hg2 HN HY hB1 e0 hgl hb1 HK c0 c1 c2 c3 c4 c5 c6 c7 c8
          go_wp2_with
            (first
              | (go_at_call 24; ((with_reducible refine HV.out.mono ?_); rintro x W3 ⟨rfl, e3, ⟨q3, hW3⟩, hK3⟩; have HB3 := Lib.hid (bthen HB0.out (hK3.below HB2.out (fun j h => h))); have HY2 := Lib.hid (bytes_ok gw q3 (encR r) 100 W3 hW3 (by have := HEL.out; omega)); clear hW3 hK3))
              | (go_at_call 42; ((with_reducible refine HY2.out.mono ?_); rintro x W4 ⟨a4, c4, rfl, h41, h42, h43, h45⟩; have HB4 := Lib.hid (bthen HB3.out h45); have HO4 := Lib.hid (own_below HO.out HB4.out); have HL4 := Lib.hid h43; clear h43 h45))
              | (at_builtin; go_loud ((refine wpList_append_lst_at rfl _ _ 22 rfl w.heap.size 5 .u8 i0 (.int .u8 0) 1 Try.underlying22 hi hz0 hz1 hz2 rfl (.slice av acc.length cv) acc.length acc rfl HO4.out a4 (encR r).length c4 (encR r) rfl rfl HL4.out (by have := HEL.out; omega) (by omega) (by have := HB4.out.size; omega) ?_; intro v3 W5 hown5 hg5 hat5; have HB5 := Lib.hid (below_grown (bthen hbel HB4.out) (by have := HB4.out.size; omega) HO4.out (Nat.le_refl _) hg5); have HO5 := Lib.hid hown5; clear hown5 hg5 hat5)))
              | fail)
          go_roundw
          case rel => exact ⟨k + 1, acc ++ encR r, by omega, by go_num, by rw [List.length_append]; have := HEL.out; omega, hs2, by rw [List.length_append]; exact HO5.out, HB5.out⟩
          case measure => simp [intOf]; omega
      · have hck' : (checkF r == 0) = false := by simpa using hck
        have hck2 : (checkF r != 0) = true := by simpa using hck
        have hs2 : Hid (recF l [] = ([], checkF r)) := by show _ = _; rw [hr.out, hdr, recF, if_neg hck]
        clear hdr hck
        go_wp2_with ((go_at_call 14; ((with_reducible refine (HK.out _).mono ?_); rintro x W1 ⟨rfl, hb1⟩)))
        go_ret2
        rw [hs2.out]
        exact ⟨none, 0, rfl, Nat.le_refl _, Nat.zero_le _, Lst.nil _ _ _, fun _ => rfl, bthen (hbel.alloc hz _) hb1⟩
    · have hkn : k = l.length := by omega
      subst hkn
      have hs2 : Hid (recF l [] = (acc, 0)) := by show _ = _; rw [hr.out, List.drop_eq_nil_of_le (Nat.le_refl _)]; rfl
      have HO := Lib.hid hown
      clear hown
      go_wp2_with fail
      go_ret2
      rw [hs2.out]
      exact ⟨av, cv, rfl, hac, hcm, Lst.own HO.out, own_none HO.out, hbel⟩
end Go.Proofs.Ytaekpejpcafnkaa.rw
