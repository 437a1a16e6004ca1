/-
  The walks of layer 10: the document's first record of bytes; the records of all bytes.
-/
import Derived.Test.YtaekpejpcafnkaaRecM
import Derived.Test.YtaekpejpcafnkaaWireE
namespace Go.Proofs.Ytaekpejpcafnkaa.rw
open Go.RowKit Go.Proofs.Ytaekpejpcafnkaa.ba Go.Proofs.Ytaekpejpcafnkaa.rp Go.Proofs.Ytaekpejpcafnkaa.dp Go.Proofs.Ytaekpejpcafnkaa.dw Go.Proofs.Ytaekpejpcafnkaa.wp Go.Proofs.Ytaekpejpcafnkaa.ww
set_option maxRecDepth 8000
set_option linter.unusedVariables false
attribute [local go_sem ↓] Go.wp_at_zero Go.wp_at_succ

theorem dread_nil (a : Option Addr) (c : Nat) (w : World) :
    Calls Try.prog 7 #[.slice a 0 c] w fun x w' => GotD w w' (readF []) x := by
  have hz := dz_cells (Blk.new w 25 (dcells zR))
  have hb := box_below w (.cells (dcells zR) 25)
  have HB := Lib.hid hb
  clear hb
  go_enter Try.func7, Try.ntmps7
  go_wp2_with fail
  exact bodyPost_ret (v := .tuple #[.agg (dcells zR), .int .i64 0, .int .i64 4]) (by simp [results, Try.results7, go_sem, dcells, zR]) rfl ⟨rfl, HB.out⟩
theorem dread_kind (a : Option Addr) (c : Nat) (k : Int) (l : List Int) (w : World) (hl : (k :: l).length ≤ 1000000) (hL : Lst .u8 w a (k :: l)) (hB : Bytes (k :: l)) (hk : k < 1 ∨ 6 < k) :
    Calls Try.prog 7 #[.slice a (k :: l).length c] w fun x w' => GotD w w' (readF (k :: l)) x := by
  obtain ⟨b, off, rfl, hcell⟩ : ∃ b off, a = some ⟨b, off, none⟩ ∧ w.cell? ⟨b, off, none⟩ = some (.int .u8 k) := by
    rcases hL with h | ⟨b, off, rfl, h⟩
    · cases h
    · exact ⟨b, off, rfl, h 0 k rfl⟩
  have hcell2 : ∀ o, (w.alloc o).cell? ⟨b, off, none⟩ = some (.int .u8 k) := fun o => bsome (box_below w o) hcell (World.block_lt_of_cell? _ _ hcell)
  have hk0 : 0 ≤ k ∧ k ≤ 255 := hB k (by simp)
  obtain ⟨hk0, hk9⟩ := hk0
  have hF : readF (k :: l) = (zR, 0, 16) := by unfold readF; simp only; rw [if_pos hk]
  rw [hF]
  have hlen0 : ((l.length : Int) + 1 == 0) = false := by rw [beq_eq_false_iff_ne]; omega
  have HB := Lib.hid fun (o : Obj) => box_below w o
  have HB2 := Lib.hid fun (o o' : Obj) => bx3 w o o'
  clear hF hL hB hcell hl
  rcases hk with hk | hk
  · go_enter Try.func7, Try.ntmps7
    go_wp2_with fail
    first
      | exact bodyPost_ret (v := .tuple #[.agg (dcells zR), .int .i64 0, .int .i64 16]) (by simp [results, Try.results7, go_sem, dcells, zR]) rfl ⟨rfl, HB2.out _ _⟩
      | exact bodyPost_ret (v := .tuple #[.agg (dcells zR), .int .i64 0, .int .i64 16]) (by simp [results, Try.results7, go_sem, dcells, zR]) rfl ⟨rfl, nine_at (HB2.out _ _) (Nat.le_refl _) _ _ _ _ _ _ _ _ _⟩
  · have hk1 : 1 ≤ k := by omega
    go_enter Try.func7, Try.ntmps7
    go_wp2_with fail
    first
      | exact bodyPost_ret (v := .tuple #[.agg (dcells zR), .int .i64 0, .int .i64 16]) (by simp [results, Try.results7, go_sem, dcells, zR]) rfl ⟨rfl, HB2.out _ _⟩
      | exact bodyPost_ret (v := .tuple #[.agg (dcells zR), .int .i64 0, .int .i64 16]) (by simp [results, Try.results7, go_sem, dcells, zR]) rfl ⟨rfl, nine_at (HB2.out _ _) (Nat.le_refl _) _ _ _ _ _ _ _ _ _⟩
/-- The document's first record of bytes. -/
theorem dread_any (a : Option Addr) (n c : Nat) (l : List Int) (w : World) (hn : l.length = n) (hl : n ≤ 1000000) (hc : n ≤ c) (hcm : c ≤ maxLen) (hL : Lst .u8 w a l) (hB : Bytes l) :
    Calls Try.prog 7 #[.slice a n c] w fun x w' => GotD w w' (readF l) x := by
  subst hn
  cases l with
  | nil => exact dread_nil a c w
  | cons k l =>
    by_cases hk : k < 1 ∨ 6 < k
    · exact dread_kind a c k l w hl hL hB hk
    · exact dread_in a c k l w hl hc hcm hL hB (by omega) (by omega)

/-- What is read is of its types, and has some bytes. -/
theorem readF_ok {l : List Int} (hB : Bytes l) (h : (readF l).2.2 = 0) : (readF l).1.ok ∧ 1 ≤ (readF l).2.1 ∧ (readF l).2.1 ≤ l.length := by
  cases l with
  | nil => exact absurd h (by decide)
  | cons k l =>
    unfold readF at h ⊢
    simp only at h ⊢
    split at h
    · exact absurd h (by decide)
    · next hk =>
      rw [if_neg hk]
      split at h
      · next he =>
        rw [if_pos he]
        have hok : (fieldsF k l).r.ok := (rdJ_ok (s := ⟨kR k, l, 0, false⟩) (kR_ok k (by omega) (by omega)) (fun v hv => hB v (List.mem_cons_of_mem _ hv)) (usesK k).length).1
        obtain ⟨m, hm⟩ := rdJ_drop k ⟨kR k, l, 0, false⟩ (usesK k).length
        have hlen : (fieldsF k l).l.length ≤ l.length := by
          unfold fieldsF
          rw [hm]
          simp
        refine ⟨hok, ?_, ?_⟩ <;> simp only [List.length_cons] <;> omega
      · next he => simp only at h; exact absurd h he
/-- The records of all bytes; the first error. -/
def allG : Nat → List Int → List R → List R × Int
  | 0, _, acc => (acc, 0)
  | f + 1, l, acc => if l = [] then (acc, 0) else if (readF l).2.2 = 0 then allG f (l.drop (readF l).2.1.toNat) (acc ++ [(readF l).1]) else ([], (readF l).2.2)
def allF (l : List Int) : List R × Int := allG (l.length + 1) l []
def rcells (r : R) : List Value := (cellsOf r).toList
theorem rflat_at (F : List R) : ∀ (i j : Nat) (f : R) (v : Value), F[i]? = some f → (rcells f)[j]? = some v → (F.flatMap rcells)[i * 9 + j]? = some v := by
  induction F with
  | nil => intro i j f v h; simp at h
  | cons x xs ih =>
    intro i j f v h hj
    have hlj : j < 9 := by
      rcases Nat.lt_or_ge j 9 with h1 | h1
      · exact h1
      · rw [List.getElem?_eq_none (by simpa [rcells, cellsOf] using h1)] at hj; cases hj
    rw [List.flatMap_cons]
    cases i with
    | zero =>
      simp at h
      subst h
      rw [List.getElem?_append_left (by simp [rcells, cellsOf]; omega), Nat.zero_mul, Nat.zero_add]
      exact hj
    | succ i =>
      rw [List.getElem?_append_right (by simp [rcells, cellsOf]; omega), show (i + 1) * 9 + j - (rcells x).length = i * 9 + j from by simp [rcells, cellsOf]; omega]
      exact ih i j f v (by simpa using h) hj
theorem Recs.own {w : World} {base : Nat} {e : TypeId} {a : Option Addr} {n cap : Nat} {F : List R} (h : w.ownsRow base e 9 (.slice a n cap) n (F.flatMap rcells)) : Recs w a F := by
  rcases h.2 with ⟨hv, h0⟩ | ⟨g, cap', cur, hv, _⟩
  · left
    cases F with
    | nil => rfl
    | cons x xs => have := h.1; simp [rcells, cellsOf] at this; omega
  · cases hv
    refine .inr ⟨g, 0, rfl, fun i f hf c v hv => ?_⟩
    have := h.cells (g := g) rfl (i * 9 + c) v (rflat_at F i c f v hf (by unfold rcells; simpa using hv))
    rw [Addr.add_lit] at this
    simpa using this
theorem infoR : (Try.prog.info? 30).map (fun i => (i.zero, i.size, i.bytes)) = some (some (.agg (cellsOf zR)), 9, 40) := by kernel_rfl
/-- Records and an error, handed back. -/
def GotL (w w' : World) (s : List R × Int) (x : Ending) : Prop :=
  ∃ a c, x = .returned (.tuple #[.slice a s.1.length c, .int .i64 s.2]) ∧ Recs w' a s.1 ∧ Below w.heap.size w w'
end Go.Proofs.Ytaekpejpcafnkaa.rw
