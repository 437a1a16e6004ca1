/-
  Layer 12's law ChainPlays: acts that came in, opened; a chain and the document's list of the same versions.
-/
import Derived.Test.YtpbdgfgjlccapaaChnT
import Derived.Test.YtpbdgfgjlccapaaChnS
import Derived.Test.YtpbdgfgjlccapaaChnOpen
import Derived.Test.YtpbdgfgjlccapaaDigitR
namespace Go.Proofs.Ytpbdgfgjlccapaa.cw
open Go.RowKit Go.Proofs.Ytpbdgfgjlccapaa.fl Go.Proofs.Ytpbdgfgjlccapaa.ba Go.Proofs.Ytpbdgfgjlccapaa.rp Go.Proofs.Ytpbdgfgjlccapaa.rw Go.Proofs.Ytpbdgfgjlccapaa.cp Go.Deep Go.Joins Go.WideShapes Go.ChangeShapes
set_option maxRecDepth 8000
set_option linter.unusedVariables false

/-- An act: is it Trim, a version, pins. -/
structure A where
  t : Bool
  v : V
  pa : Option Addr
  pc : Nat
  P : List Int
def acells (x : A) : List Value := .bool x.t :: (vcells x.v ++ [.slice x.pa x.P.length x.pc])
/-- What is known of an act. -/
structure AOk (w : World) (x : A) : Prop where
  v : x.v.ok
  p : Lst .u64 w x.pa x.P
  c : x.P.length ≤ x.pc
  m : x.pc ≤ maxLen
  z : ∀ p ∈ x.P, 0 ≤ p
/-- Acts in memory. -/
def AL (w : World) (a : Option Addr) (L : List A) : Prop :=
  L = [] ∨ ∃ b off, a = some ⟨b, off, none⟩ ∧ ∀ i x, L[i]? = some x → ∀ j u, (acells x)[j]? = some u → w.cell? ⟨b, off + i * 13 + j, none⟩ = some u
theorem leaves_act : leaves Try.prog 5 45 = [(0, 4), (1, 24), (2, 4), (3, 5), (4, 5), (5, 5), (6, 5), (7, 5), (8, 4), (9, 28), (10, 24), (11, 9), (12, 23)] := by kernel_rfl
theorem cells_act : Try.prog.cellsOf 45 = 13 := by kernel_rfl
section
variable {H : Type} {enc : TypeId × Value → H} {W : World} {base : Nat} {spare : Nat → Bool} {held : Bool}
/-- Thirteen leaves, each read, are an act. -/
theorem act_leaves {F : Nat → Value → Prop} (h : ∀ o u, (o, u) ∈ leaves Try.prog 5 45 → ∃ (v : Value) (y : DataW H × List MemPlace) (m : Nat), F o v ∧ DataW.trod enc Try.prog W base spare held m u [v] = some y) :
    ∃ x : A, AOk W x ∧ ∀ c v, (acells x)[c]? = some v → F c v := by
  rw [leaves_act] at h
  have h0 := h 0 4 (by simp)
  have h12 := h 12 23 (by simp)
  obtain ⟨r, hr, hc⟩ := eleven_leaves (enc := enc) (W := W) (base := base) (spare := spare) (held := held) (F := fun o v => F (o + 1) v) (fun o u hou => h (o + 1) u (by
    rw [leaves_ver] at hou
    simp only [List.mem_cons, Prod.mk.injEq, List.not_mem_nil, or_false] at hou
    rcases hou with ⟨rfl, rfl⟩ | ⟨rfl, rfl⟩ | ⟨rfl, rfl⟩ | ⟨rfl, rfl⟩ | ⟨rfl, rfl⟩ | ⟨rfl, rfl⟩ | ⟨rfl, rfl⟩ | ⟨rfl, rfl⟩ | ⟨rfl, rfl⟩ | ⟨rfl, rfl⟩ | ⟨rfl, rfl⟩ <;> simp))
  obtain ⟨v0, y0, m0, c0, t0⟩ := h0
  obtain ⟨n0, e0, _⟩ := DataW.trod_bool Try.underlying4 t0
  obtain ⟨vp, yp, mp, cp, tp⟩ := h12
  simp only [List.cons.injEq, and_true] at e0
  subst e0
  have hsl : ∃ a len cap, vp = .slice a len cap := by
    rcases slice_leaves (n := 2) Try.underlying23 tp with h1 | ⟨x, len, cap, h1, _⟩
    · simp at h1; exact ⟨_, _, _, h1⟩
    · simp at h1; exact ⟨_, _, _, h1⟩
  obtain ⟨pa, pn, pc, rfl⟩ := hsl
  obtain ⟨hpc, hpm, Z, hI, hZ⟩ := dw.open_words (enc := enc) (d := yp.1) (p := yp.2) (W := W) (base := base) (spare := spare) (held := held) ⟨mp, by simpa [Value.cells] using tp⟩
  refine ⟨⟨n0, r, pa, pc, listOf Z pn⟩, ⟨hr, Lst.of_ints hI, by simpa [listOf_length] using hpc, hpm, fun p hp => ?_⟩, fun c v hv => ?_⟩
  · simp [listOf] at hp
    obtain ⟨i, hi, rfl⟩ := hp
    exact (hZ i hi).1
  · match c, hv with
    | 0, hv => cases hv; exact c0
    | c + 1, hv =>
      simp only [acells, List.getElem?_cons_succ] at hv
      rcases Nat.lt_or_ge c 11 with h1 | h1
      · rw [List.getElem?_append_left (by simpa [vcells] using h1)] at hv
        exact hc c v hv
      · rw [List.getElem?_append_right (by simpa [vcells] using h1)] at hv
        have : c = 11 := by
          rcases Nat.eq_zero_or_pos (c - (vcells r).length) with h2 | h2
          · simp [vcells] at h2; omega
          · rw [List.getElem?_eq_none (by simp; omega)] at hv; cases hv
        subst this
        simp [vcells, listOf_length] at hv
        subst hv
        exact cp
/-- A slice of acts. -/
theorem open_acts {a : Option Addr} {len cap : Nat} {d : DataW H} {p : List MemPlace} (h : DataW.Trod enc Try.prog W base spare held 38 (.slice a len cap) d p) : len ≤ cap ∧ cap ≤ maxLen ∧ ∃ l : List A, l.length = len ∧ AL W a l ∧ ∀ r ∈ l, AOk W r := by
  obtain ⟨fuel, hf⟩ := h
  rcases slice_leaves (n := 5) Try.underlying38 hf with h0 | ⟨x, len', cap', hcs, hl, hm, hi⟩
  · simp [Value.cells] at h0
    obtain ⟨rfl, rfl, rfl⟩ := h0
    exact ⟨Nat.le_refl _, Nat.zero_le _, [], rfl, .inl rfl, by simp⟩
  · simp [Value.cells] at hcs
    obtain ⟨rfl, rfl, rfl⟩ := hcs
    refine ⟨hl, hm, ?_⟩
    rw [cells_act] at hi
    by_cases h0 : len = 0
    · subst h0; exact ⟨[], rfl, .inl rfl, by simp⟩
    · have hx0 : x = ⟨x.block, x.off, none⟩ := by
        obtain ⟨v0, y0, m0, c0, t0⟩ := hi 0 (by omega) 0 4 (by rw [leaves_act]; simp) (by omega)
        exact spot_out (by simpa using c0)
      have hall : ∀ i, i < len → ∃ r : A, AOk W r ∧ ∀ c v, (acells r)[c]? = some v → W.cell? ⟨x.block, x.off + i * 13 + c, none⟩ = some v := fun i hlt =>
        act_leaves (enc := enc) (base := base) (spare := spare) (held := held) (F := fun o v => W.cell? ⟨x.block, x.off + i * 13 + o, none⟩ = some v) (fun o u hou => by
          obtain ⟨v, y, m, h1, h2⟩ := hi i hlt o u hou (by
            rw [leaves_act] at hou
            simp at hou
            omega)
          refine ⟨v, y, m, ?_, h2⟩
          have := cell_out h1
          rwa [← Nat.add_assoc] at this)
      have hlist : ∀ n, n ≤ len → ∃ l : List A, l.length = n ∧ (∀ i r, l[i]? = some r → ∀ c v, (acells r)[c]? = some v → W.cell? ⟨x.block, x.off + i * 13 + c, none⟩ = some v) ∧ ∀ r ∈ l, AOk W r := by
        intro n
        induction n with
        | zero => exact fun _ => ⟨[], rfl, by simp, by simp⟩
        | succ n ih =>
          intro hn
          obtain ⟨l, hl1, hl2, hl3⟩ := ih (by omega)
          obtain ⟨r, hr1, hr2⟩ := hall n (by omega)
          refine ⟨l ++ [r], by simp [hl1], fun i q hq => ?_, fun q hq => ?_⟩
          · rcases Nat.lt_or_ge i l.length with h1 | h1
            · rw [List.getElem?_append_left h1] at hq
              exact hl2 i q hq
            · rw [List.getElem?_append_right h1] at hq
              have hi0 : i - l.length = 0 := by
                rcases Nat.eq_zero_or_pos (i - l.length) with h2 | h2
                · exact h2
                · rw [List.getElem?_eq_none (by simp; omega)] at hq; cases hq
              rw [hi0] at hq
              simp at hq
              subst hq
              obtain rfl : i = n := by omega
              exact hr2
          · rcases List.mem_append.1 hq with h1 | h1
            · exact hl3 q h1
            · simp at h1; subst h1; exact hr1
      obtain ⟨l, hl1, hl2, hl3⟩ := hlist len (Nat.le_refl _)
      exact ⟨l, hl1, .inr ⟨x.block, x.off, congrArg some hx0, hl2⟩, hl3⟩
end
theorem keep_mem {L : List V} {f : Nat → Bool} {v : V} : ∀ k, v ∈ keepK L f k → v ∈ L
  | 0, h => by simp [keepK] at h
  | k + 1, h => by
    have ih := keep_mem (L := L) (f := f) (v := v) k
    unfold keepK at h
    split at h
    · rename_i u hu
      split at h
      · rcases List.mem_append.1 h with h1 | h1
        · exact ih h1
        · simp at h1; subst h1; exact List.mem_of_getElem? hu
      · exact ih h
    · exact ih h
theorem trim_mem {L : List V} {P : List Int} {v : V} (h : v ∈ trimF L P) : v ∈ L := keep_mem _ ((List.dropWhile_sublist _).subset h)
/-- A chain of the call's own and the document's list hold the same versions. -/
structure PS (w W : World) (q : Option Nat) (la : Option Addr) (D : List V) (n : Nat) : Prop where
  c : CS W w.heap.size w.heap.size q D
  q : ∀ j, q = some j → w.heap.size ≤ j
  d : DL W la D
  b : Below w.heap.size w W
  ok : ∀ v ∈ D, v.ok
  l : D.length ≤ n
theorem cs_dl {w : World} {base g b : Nat} {q : Option Nat} {D : List V} {cs : Array Value} (h : CS w base g q D) (hb : Blk w b 53 cs) : ¬ (b = g ∨ q = some b) := by
  obtain ⟨sv, hB, hO, rfl⟩ := h
  rintro (rfl | e)
  · have := (hb.one hB).2
    simp at this
  · rcases hO.2 with ⟨rfl, _⟩ | ⟨g', cap, cur, rfl, _, hg, _⟩
    · cases e
    · simp [Value.ownBlock] at e
      subst e
      unfold Blk at hb
      rw [hg] at hb
      simp at hb
section
variable {w W W' : World} {q : Option Nat} {la na : Option Addr} {D D' X : List V} {n : Nat}
theorem PS.below (h : PS w W q la D n) (hb : Below W.heap.size W W') : PS w W' q la D n := ⟨h.c.below hb, h.q, h.d.below hb, bthen h.b hb, h.ok, h.l⟩
theorem PS.start (w : World) : PS w (w.alloc (.cells #[.slice none 0 0] 40)) none none [] 0 :=
  ⟨⟨.slice none 0 0, Blk.new w _ _, World.ownsRow_nil _ _ _ _, rfl⟩, fun j hj => (by cases hj), .inl rfl, box_b w _, (by simp), Nat.le_refl _⟩
theorem PS.cp (h : PS w W q la D n) (hn : n ≤ 1000) : CP W (some ⟨w.heap.size, 0, none⟩) D := h.c.cp (by have := h.l; omega)
/-- The chain has been turned by a call; the list is another one. -/
theorem PS.turn (h : PS w W q la D n) (hD : PD W W' w.heap.size w.heap.size q D') (hd : DL W na D') (hok : ∀ v ∈ D', v.ok) {n' : Nat} (hl : D'.length ≤ n') : ∃ q', PS w W' q' na D' n' := by
  obtain ⟨hb, q', hC, hq⟩ := hD.get h.b (Nat.le_refl _) h.q
  exact ⟨q', hC, hq, hd.kept hD.s (fun b cs hb => cs_dl h.c hb), hb, hok, hl⟩
/-- Trim. -/
theorem PS.trim (h : PS w W q la D n) (hn : n ≤ 1000) (pa : Option Addr) (pn pc : Nat) (P : List Int) (hP : Lst .u64 W pa P) (hpn : P.length = pn) (hpl : pn ≤ 1000) (hd : DL W na (trimF D P)) :
    Calls Try.prog 9 #[.pointer (some ⟨w.heap.size, 0, none⟩), .slice pa pn pc] W fun e w' => e = .returned (.int .i64 ((D.length : Int) - ((trimF D P).length : Int))) ∧ ∃ q', PS w w' q' na (trimF D P) n := by
  have hl := h.l
  have htl := trim_le D P
  have hsub : ∀ v ∈ trimF D P, v.ok := fun v hv => h.ok v (trim_mem hv)
  rcases Nat.eq_zero_or_pos D.length with h0 | h0
  · have : D = [] := List.length_eq_zero_iff.1 h0
    subst this
    refine (trim_none (some ⟨w.heap.size, 0, none⟩) pa pn pc W (h.c.cp (by simp))).mono ?_
    rintro x w2 ⟨rfl, hb⟩
    exact ⟨rfl, q, h.c.below hb, h.q, .inl rfl, bthen h.b hb, by simp [trimF, keepK], by simp [trimF, keepK]⟩
  · refine (trim_any w.heap.size w.heap.size q pa pn pc D P W hP hpn h.c h.b.size (by omega) (by omega) h0).mono ?_
    rintro x w2 ⟨rfl, hD⟩
    exact ⟨rfl, h.turn hD hd hsub (by omega)⟩
/-- Put of one version, in new memory. -/
theorem PS.put (h : PS w W q la D n) (hn : n ≤ 1000) (v : V) (hv : v.ok) (hd : DL W na (puts D [v]).1) :
    Calls Try.prog 19 #[.pointer (some ⟨w.heap.size, 0, none⟩), .slice (some ⟨W.heap.size, 0, none⟩) 1 1] (W.alloc (.cells (#[.int .u64 v.a, .bool v.d, .int .u8 v.r.k, .int .u8 v.r.s, .int .u8 v.r.u, .int .u8 v.r.p, .int .u8 v.r.m, .bool v.r.g, .int .u32 v.r.v, .int .u64 v.r.a, .string v.r.t]) 43)) fun e w' => e = .returned (.tuple #[.int .i64 ((puts D [v]).2.1 : Int), .int .i64 (puts D [v]).2.2]) ∧ ∃ q', PS w w' q' na (puts D [v]).1 (n + 1) := by
  have h2 := h.below (box_b W (.cells (#[.int .u64 v.a, .bool v.d, .int .u8 v.r.k, .int .u8 v.r.s, .int .u8 v.r.u, .int .u8 v.r.p, .int .u8 v.r.m, .bool v.r.g, .int .u32 v.r.v, .int .u64 v.r.a, .string v.r.t]) 43))
  have hl := h.l
  have hlt := h.c.lt
  refine (put_any w.heap.size w.heap.size q _ 1 1 D [v] _ (vl_new W v) rfl (fun x hx => by simp at hx; subst hx; exact hv) h2.c h2.b.size (by omega) (fun p hp => ?_)).mono ?_
  · cases hp
    rintro (e | e)
    · simp only at e; omega
    · have := hlt.2 _ e; simp only at this; omega
  · rintro x w2 ⟨rfl, hD⟩
    refine ⟨rfl, h2.turn hD (hd.below (box_b W _)) (fun u hu => ?_) (by have := puts_len [v] D; simp at this; omega)⟩
    rcases puts_mem u [v] D hu with h1 | h1
    · exact h.ok u h1
    · simp at h1; subst h1; exact hv
end
theorem atF_ok {D : List V} (h : ∀ v ∈ D, v.ok) (t : Int) : (atF D t).1.ok := by
  unfold atF
  split
  · exact zeroR_ok
  · split
    · rename_i v hv
      split
      · exact zeroR_ok
      · exact (h v (List.mem_of_getElem? hv)).r
    · exact zeroR_ok
end Go.Proofs.Ytpbdgfgjlccapaa.cw
