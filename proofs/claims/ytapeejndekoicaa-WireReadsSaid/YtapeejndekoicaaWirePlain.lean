/-
  Layer 3, plain: what a writer does with a field's bytes. No program is imported.
-/
namespace Go.Proofs.Ytapeejndekoicaa.wp
/-- What is written, and the first error. -/
def wput (room : Int) (bs : List Int) (s : List Int × Int) : List Int × Int :=
  if s.2 = 0 then (if room - s.1.length < bs.length then (s.1, 2) else (s.1 ++ bs, 0)) else s
/-- An error, if it is the first one. -/
def meet (e : Int) (s : List Int × Int) : List Int × Int := if s.2 = 0 then (s.1, e) else s
theorem wput_bad {room : Int} {bs : List Int} {s : List Int × Int} (h : s.2 ≠ 0) : wput room bs s = s := by unfold wput; rw [if_neg h]
theorem wput_long {room : Int} {bs l : List Int} (h : room - l.length < bs.length) : wput room bs (l, 0) = (l, 2) := by unfold wput; rw [if_pos rfl, if_pos h]
theorem wput_fits {room : Int} {bs l : List Int} (h : ¬ room - l.length < bs.length) : wput room bs (l, 0) = (l ++ bs, 0) := by unfold wput; rw [if_pos rfl, if_neg h]
end Go.Proofs.Ytapeejndekoicaa.wp
