/-
  The walks of layer 3's law: fields, cut to right ones.
-/
import Derived.Test.YtapeejndekoicaaWireD
namespace Go.Proofs.Ytapeejndekoicaa.ww
open Go.RowKit Go.Proofs.Ytapeejndekoicaa.ba Go.Proofs.Ytapeejndekoicaa.dp Go.Proofs.Ytapeejndekoicaa.wp Go.Proofs.Ytapeejndekoicaa.dw
set_option linter.unusedVariables false

/-- A field: its kind, its number, its text. -/
abbrev Fld := Nat × Nat × ByteArray
def fcells (f : Fld) : List Value := [.int .i64 f.1, .int .u64 f.2.1, .string f.2.2]
def good (f : Fld) : Prop := f.1 < 5 ∧ f.2.1 < 18446744073709551616 ∧ f.2.2.size ≤ 200
/-- Fields in memory. -/
def FL (w : World) (a : Option Addr) (F : List Fld) : Prop :=
  F = [] ∨ ∃ b off, a = some ⟨b, off, none⟩ ∧ ∀ i f, F[i]? = some f → w.cell? ⟨b, off + i * 3, none⟩ = some (.int .i64 f.1) ∧ w.cell? ⟨b, off + i * 3 + 1, none⟩ = some (.int .u64 f.2.1) ∧ w.cell? ⟨b, off + i * 3 + 2, none⟩ = some (.string f.2.2)
/-- Whatever fields in memory. -/
def RawF (w : World) (a : Option Addr) (len : Nat) : Prop :=
  len = 0 ∨ ∃ b off, a = some ⟨b, off, none⟩ ∧ ∀ i, i < len → ∃ (k n : Int) (s : ByteArray), -9223372036854775808 ≤ k ∧ k ≤ 9223372036854775807 ∧ 0 ≤ n ∧ n ≤ 18446744073709551615 ∧ s.size ≤ 9223372036854775807 ∧ w.cell? ⟨b, off + i * 3, none⟩ = some (.int .i64 k) ∧ w.cell? ⟨b, off + i * 3 + 1, none⟩ = some (.int .u64 n) ∧ w.cell? ⟨b, off + i * 3 + 2, none⟩ = some (.string s)

theorem FL.below {w w' : World} {a : Option Addr} {F : List Fld} (h : FL w a F) (hb : Below w.heap.size w w') : FL w' a F := by
  rcases h with h | ⟨b, off, rfl, h⟩
  · exact .inl h
  · refine .inr ⟨b, off, rfl, fun i f hf => ?_⟩
    obtain ⟨h1, h2, h3⟩ := h i f hf
    exact ⟨bsome hb h1 (World.block_lt_of_cell? _ _ h1), bsome hb h2 (World.block_lt_of_cell? _ _ h2), bsome hb h3 (World.block_lt_of_cell? _ _ h3)⟩
theorem flat_at (F : List Fld) : ∀ (i j : Nat) (f : Fld) (v : Value), F[i]? = some f → (fcells f)[j]? = some v → (F.flatMap fcells)[i * 3 + j]? = some v := by
  induction F with
  | nil => intro i j f v h; simp at h
  | cons x xs ih =>
    intro i j f v h hj
    have hlj : j < 3 := by
      rcases Nat.lt_or_ge j 3 with h1 | h1
      · exact h1
      · rw [List.getElem?_eq_none (by simpa [fcells] using h1)] at hj; cases hj
    rw [List.flatMap_cons]
    cases i with
    | zero =>
      simp at h
      subst h
      rw [List.getElem?_append_left (by simp [fcells]; omega), Nat.zero_mul, Nat.zero_add]
      exact hj
    | succ i =>
      rw [List.getElem?_append_right (by simp [fcells]; omega), show (i + 1) * 3 + j - (fcells x).length = i * 3 + j from by simp [fcells]; omega]
      exact ih i j f v (by simpa using h) hj
theorem FL.own {w : World} {base : Nat} {e : TypeId} {a : Option Addr} {n cap : Nat} {F : List Fld} (h : w.ownsRow base e 3 (.slice a n cap) n (F.flatMap fcells)) : FL w a F := by
  rcases h.2 with ⟨hv, h0⟩ | ⟨g, cap', cur, hv, _⟩
  · left
    cases F with
    | nil => rfl
    | cons x xs => have := h.1; simp [fcells] at this; omega
  · cases hv
    refine .inr ⟨g, 0, rfl, fun i f hf => ?_⟩
    have hc := h.cells (g := g) rfl
    refine ⟨?_, ?_, ?_⟩
    · have := hc (i * 3 + 0) _ (flat_at F i 0 f _ hf rfl)
      rw [Addr.add_lit] at this
      simpa using this
    · have := hc (i * 3 + 1) _ (flat_at F i 1 f _ hf rfl)
      rw [Addr.add_lit] at this
      simpa using this
    · have := hc (i * 3 + 2) _ (flat_at F i 2 f _ hf rfl)
      rw [Addr.add_lit] at this
      simpa using this

theorem infoF : (Try.prog.info? 29).map (fun i => (i.zero, i.size, i.bytes)) = some (some (.agg #[.int .i64 0, .int .u64 0, .string ⟨#[]⟩]), 3, 32) := by kernel_rfl
theorem kind_bound (k : Int) : ∃ K : Nat, (IntKind.u64.wrap k).tmod 5 = (K : Int) ∧ K < 5 := by
  have h : 0 ≤ IntKind.u64.wrap k := by rw [IntKind.wrap_u64]; omega
  obtain ⟨n, hn⟩ := Int.eq_ofNat_of_zero_le h
  refine ⟨n % 5, ?_, by omega⟩
  rw [hn, Int.tmod_eq_emod_of_nonneg (by omega)]
  rfl

/-- append(v, y), y of some cells (laid in a block of its own first), v the call's own. -/
theorem wpList_append_blk {P : Program} {w : World} {ops : Array Oper} {rest : List Oper} {o : Oper} {a : Act} {Q : Exit → Act → World → Prop} (hgd : o.guard = none) (s x : Operand) (t : TypeId)
    (ho : o.op = .call { callee := .builtin .append, args := #[s, x], argTypes := #[t, t] })
    (base : Nat) (e : TypeId) (i : TypeInfo) (z : Value) (size bytes : Nat) (ht : P.underlying t = some (.slice e)) (hi : P.info? e = some i) (hz : i.zero = some z)
    (hsize : i.size = size) (hby : i.bytes = bytes) (hzs : z.cells.size = size) (hsz : 0 < size)
    (v : Value) (n : Nat) (xs : List Value) (hs : a.eval s = v) (hown : w.ownsRow base e size v n xs) (cs : List Value) (hcs : cs.length = size) (hy : ∀ u ∈ cs, u.oneCell' = true) (ty : TypeId) (B : Nat) (hB : B = w.heap.size)
    (hx : a.eval x = .slice (some ⟨B, 0, none⟩) 1 1) (hn : n ≤ 1000000) (hb : bytes ≤ 1024) (hbase : base ≤ w.heap.size)
    (h : ∀ v' w', w'.ownsRow base e size v' (n + 1) (xs ++ cs) → (w.alloc (.cells cs.toArray ty)).grownBy w' v.ownBlock → wpList P ops Q rest (a.put o.dst v') w') :
    wpList P ops Q (o :: rest) a (w.alloc (.cells cs.toArray ty)) := by
  subst hB
  refine wpList_append_own _ hgd s x t ho base e i z size bytes ht hi hz hsize hby hzs hsz v n xs hs (hown.alloc _) ⟨w.heap.size, 0, none⟩ 1 1 cs hx (by rw [hcs, Nat.one_mul]) ?_ hy ?_ ?_ ?_ ?_
  · intro j u hj
    rw [Addr.add_lit, Nat.zero_add, (Blk.new w ty cs.toArray).cell]
    simpa using hj
  · unfold maxLen; omega
  · have : (n + 1) * bytes ≤ 1000001 * 1024 := Nat.mul_le_mul (by omega) hb
    omega
  · simp; omega
  · intro v' w' h1 h2 _
    exact h v' w' h1 h2

def RightOk (m : Nat) (w w' : World) (x : Ending) : Prop := ∃ (F : List Fld) (a : Option Addr) (c : Nat), x = .returned (.slice a F.length c) ∧ FL w' a F ∧ F.length ≤ m ∧ (∀ f ∈ F, good f) ∧ Below w.heap.size w w'

set_option maxHeartbeats 2000000 in
theorem right_any (a : Option Addr) (len cap m : Nat) (w : World) (hlc : len ≤ cap) (hcm : cap ≤ 9223372036854775807) (hm : m ≤ 1000) (hR : RawF w a len) :
    Calls Try.prog 9 #[.slice a len cap, .int .i64 m] w fun x w' => RightOk m w w' x := by
  obtain ⟨i0, hi, hz0, hz1, hz2⟩ := info_parts infoF
  go_enter Try.func9, Try.ntmps9
  go_wp2_with fail
  go_loopw [5, 6] (fun o i wr => ∃ (k : Nat) (F : List Fld), k ≤ len ∧ k ≤ m ∧ i = .int .i64 k ∧ F.length = k ∧ (∀ f ∈ F, good f) ∧ wr.ownsRow w.heap.size 29 3 o k (F.flatMap fcells) ∧ Below w.heap.size w wr) (fun _ i _ => len - (intOf i).toNat)
  case atStart => exact ⟨0, [], Nat.zero_le _, Nat.zero_le _, rfl, rfl, by simp, World.ownsRow_nil _ _ _ _, Below.refl _ _⟩
  case round =>
    obtain ⟨k, F, hk, hk2, rfl, hF, hg, hown, hbel⟩ := hrel
    by_cases hgo : k < len ∧ k < m
    · obtain ⟨hlt, hlt2⟩ := hgo
      rcases hR with h0 | ⟨b, off, rfl, hc⟩
      · omega
      · obtain ⟨kd, n, s, b1, b2, b3, b4, b5, c0, c1, c2⟩ := hc k hlt
        have d0 := bsome hbel c0 (World.block_lt_of_cell? _ _ c0)
        have d1 := bsome hbel c1 (World.block_lt_of_cell? _ _ c1)
        have d2 := bsome hbel c2 (World.block_lt_of_cell? _ _ c2)
        have hbl := World.block_lt_of_cell? _ _ d0
        have hlti : (k : Int) < (len : Int) := by omega
        have hlt2i : (k : Int) < (m : Int) := by omega
        have HF := Lib.hid hF
        obtain ⟨K, hK, hK5⟩ := kind_bound kd
        have hz := hbel.size
        clear c0 c1 c2 hc hF
        by_cases hs : (s.size : Int) ≤ 200
        · skip
          go_wp2_with (at_builtin; go_loud ((refine wpList_append_blk rfl _ _ 22 rfl w.heap.size 29 i0 _ 3 32 Try.underlying22 hi hz0 hz1 hz2 rfl (by decide) u5 k (F.flatMap fcells) rfl (hown.alloc _) [.int .i64 K, .int .u64 n, .string s] rfl (by simp [Value.oneCell']) _ (wr.heap.size + 1) (by simp) rfl (by omega) (by omega) (by simp; omega) ?_; intro v3 W3 hown3 hg3)))
          go_roundw
          case rel =>
            obtain ⟨N, rfl⟩ := Int.eq_ofNat_of_zero_le b3
            refine ⟨k + 1, F ++ [(K, N, s)], by omega, by omega, by go_num, by rw [List.length_append, HF.out]; rfl, ?_, by simpa [fcells] using hown3, ((hbel.alloc hbel.size _).alloc (by simp; have := hbel.size; omega) _).grown hg3 (by simp; have := hbel.size; omega) (fun j hj => (hown.lt j hj).1)⟩
            intro f hf
            rcases List.mem_append.1 hf with h | h
            · exact hg f h
            · simp at h
              subst h
              exact ⟨hK5, by simp; omega, by simp; omega⟩
          case measure => simp [intOf]; omega
        · have hs' : (200 : Int) < (s.size : Int) := by omega
          clear hs
          go_wp2_with (at_builtin; go_loud ((refine wpList_append_blk rfl _ _ 22 rfl w.heap.size 29 i0 _ 3 32 Try.underlying22 hi hz0 hz1 hz2 rfl (by decide) u5 k (F.flatMap fcells) rfl (hown.alloc _) [.int .i64 K, .int .u64 n, .string (s.extract 0 200)] rfl (by simp [Value.oneCell']) _ (wr.heap.size + 1) (by simp) rfl (by omega) (by omega) (by simp; omega) ?_; intro v3 W3 hown3 hg3)))
          go_roundw
          case rel =>
            obtain ⟨N, rfl⟩ := Int.eq_ofNat_of_zero_le b3
            refine ⟨k + 1, F ++ [(K, N, s.extract 0 200)], by omega, by omega, by go_num, by rw [List.length_append, HF.out]; rfl, ?_, by simpa [fcells] using hown3, ((hbel.alloc hbel.size _).alloc (by simp; have := hbel.size; omega) _).grown hg3 (by simp; have := hbel.size; omega) (fun j hj => (hown.lt j hj).1)⟩
            intro f hf
            rcases List.mem_append.1 hf with h | h
            · exact hg f h
            · simp at h
              subst h
              exact ⟨hK5, by simp; omega, by simp [ByteArray.size_extract]; omega⟩
          case measure => simp [intOf]; omega
    · have hge : ¬ (k < len ∧ k < m) := hgo
      obtain ⟨a2, c2, hv, _, _⟩ := own_form hown
      subst hv
      have HF := Lib.hid hF
      have fin : ∀ wr', wr' = wr → RightOk m w wr' (.returned (.slice a2 k c2)) := fun wr' e => by subst e; exact ⟨F, a2, c2, by rw [HF.out], FL.own hown, by rw [HF.out]; exact hk2, hg, hbel⟩
      have Fin := Lib.hid fin
      clear hF fin hgo
      by_cases hlt : k < len
      · have hge2 : (m : Int) ≤ (k : Int) := by omega
        have hlti : (k : Int) < (len : Int) := by omega
        clear hge
        go_wp2_with fail
        go_ret
        exact Fin.out _ rfl
      · have hlti : (len : Int) ≤ (k : Int) := by omega
        clear hge
        go_wp2_with fail
        go_ret
        exact Fin.out _ rfl
end Go.Proofs.Ytapeejndekoicaa.ww
