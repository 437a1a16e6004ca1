/-
  The walks of layer 3: the document's bytes of a field, and of fields.
-/
import Derived.Test.YtaekpejpcafnkaaWireF
import Derived.Test.YtaekpejpcafnkaaTake
import Derived.Lib.ConvBytes
namespace Go.Proofs.Ytaekpejpcafnkaa.ww
open Go.RowKit Go.Proofs.Ytaekpejpcafnkaa.ba Go.Proofs.Ytaekpejpcafnkaa.dp Go.Proofs.Ytaekpejpcafnkaa.wp Go.Proofs.Ytaekpejpcafnkaa.dw
set_option maxRecDepth 8000
set_option linter.unusedVariables false
set_option linter.unusedSimpArgs false
attribute [local go_sem ↓] Go.wp_at_zero Go.wp_at_succ

theorem bw_below (w : World) (e : TypeId) (s : ByteArray) : Below w.heap.size w (Lib.bytesWorld w e s) :=
  ⟨rfl, rfl, rfl, by rw [Lib.bytesWorld_size]; omega, fun j hj => Lib.bytesWorld_at_old w e s j hj⟩
theorem bw_lst (w : World) (e : TypeId) (s : ByteArray) : Lst .u8 (Lib.bytesWorld w e s) (some ⟨w.heap.size, 0, none⟩) (strL s) := by
  refine .inr ⟨w.heap.size, 0, rfl, fun i v hv => ?_⟩
  have hi : i < s.size := by
    rw [← strL_len]
    exact (List.getElem?_eq_some_iff.1 hv).1
  rw [Nat.zero_add, Lib.bytesWorld_cell w e s i hi]
  have hi2 : i < s.data.toList.length := by simpa using hi
  simp only [strL, List.getElem?_map, List.getElem?_eq_getElem hi2, Option.map_some, Option.some.injEq] at hv
  rw [List.getD_eq_getElem?_getD, List.getElem?_eq_getElem hi2, ← hv]
  rfl
theorem step_append_lst {P : Program} (w : World) {ops : Array Oper} {o : Oper} {ac : Act} {K : Act → World → Prop} {Q : Exit → Act → World → Prop} {E : Prop} (hgd : o.guard = none) (s x : Operand) (t : TypeId)
    (ho : o.op = .call { callee := .builtin .append, args := #[s, x], argTypes := #[t, t] })
    (base : Nat) (e : TypeId) (k : IntKind) (i : TypeInfo) (z : Value) (bytes : Nat) (ht : P.underlying t = some (.slice e)) (hi : P.info? e = some i) (hz : i.zero = some z)
    (hsize : i.size = 1) (hby : i.bytes = bytes) (hzs : z.cells.size = 1) (v : Value) (n : Nat) (l : List Int) (hs : ac.eval s = v) (hown : w.ownsRow base e 1 v n (l.map (Value.int k)))
    (a : Option Addr) (m c : Nat) (y : List Int) (hx : ac.eval x = .slice a m c) (hm : y.length = m) (hL : Lst k w a y) (h63 : n + m ≤ 1073741824) (hbytes : bytes ≤ 1024) (hbase : base ≤ w.heap.size)
    (h : ∀ v' w', w'.ownsRow base e 1 v' (n + m) ((l ++ y).map (Value.int k)) → w.grownBy w' v.ownBlock → K (ac.put o.dst v') w') :
    if Region.wanted o (yielded ops ac.tmps) = true then Oper.wp P o ac w K Q else E := by
  subst hm
  have hw : Region.wanted o (yielded ops ac.tmps) = true := by simp [Region.wanted, hgd]
  rw [if_pos hw]
  obtain ⟨v', w', hr, h2, h3, h4⟩ := run_append_lst_at (P := P) w base t o.type e k i z bytes ht hi hz hsize hby hzs v n l hown a c y hL h63 hbytes hbase
  unfold Oper.wp execOp
  simp only [ho, resolve, invoke, builtin, Sem.run_bind, Sem.run_pure, Result.andThen_ok, List.map_toArray, List.map_cons, List.map_nil, hs, hx, hr]
  exact h v' w' h2 h3

theorem made_own {w w' : World} {l : List Int} {x : Ending} (h : OwnB w.heap.size w w' l x) : Made w w' l x := by
  obtain ⟨a, c, h1, h2, h3⟩ := h
  exact ⟨a, c, h1, Lst.own h2, h3⟩
theorem Made.from {w w2 w' : World} {l : List Int} {x : Ending} (hb : Below w.heap.size w w2) (h : Made w2 w' l x) : Made w w' l x := by
  obtain ⟨a, c, h1, h2, h3⟩ := h
  exact ⟨a, c, h1, h2, bthen hb h3⟩

end Go.Proofs.Ytaekpejpcafnkaa.ww
