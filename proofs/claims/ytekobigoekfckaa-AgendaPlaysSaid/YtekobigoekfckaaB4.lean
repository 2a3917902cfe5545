/- Which entry comes first: the program's before. -/
import Derived.BigQuiet
import Derived.Deep.QuietTactic
import Derived.StillTail
import Derived.Test.YtekobigoekfckaaB3
namespace Go.Proofs.Ytekobigoekfckaa
open Go.RowKit

/-- an entry as a value -/
@[go_sem] def V (x : Ent) : Value := .agg #[.int .i64 x.1, .int .i64 x.2]
def entC (l : List Ent) : List Value := l.flatMap fun e => [.int .i64 e.1, .int .i64 e.2]
def BPost (x y : Ent) (w : World) (e : Ending) (w' : World) : Prop := e = .returned (.bool (before x y)) ∧ Mod None w w'
set_option maxHeartbeats 800000 in
theorem before_any (w : World) (x y : Ent) : Calls Try.prog 24 #[V x, V y] w (BPost x y w) := by
  obtain ⟨a, b⟩ := x
  obtain ⟨c, d⟩ := y
  have hm : ∀ (o1 o2 : Obj), Mod None w ((w.alloc o1).alloc o2) := fun o1 o2 => ((Mod.refl None w).alloc o1).alloc o2
  have HM := hid hm
  clear hm
  by_cases h1 : b < d
  · have HB := hid (show before (a, b) (c, d) = true by rw [before_iff]; exact .inl h1)
    go_enter Try.func24, Try.ntmps24
    go_wp2
    go_ret
    exact ⟨rbool HB.out.symm, HM.out _ _⟩
  · by_cases h2 : b = d
    · subst h2
      by_cases h3 : a < c
      · have HB := hid (show before (a, b) (c, b) = true by rw [before_iff]; exact .inr ⟨rfl, h3⟩)
        go_enter Try.func24, Try.ntmps24
        go_wp2
        go_ret
        exact ⟨rbool HB.out.symm, HM.out _ _⟩
      · have HB := hid (show before (a, b) (c, b) = false by rw [Bool.eq_false_iff, ne_eq, before_iff]; simp; omega)
        go_enter Try.func24, Try.ntmps24
        go_wp2
        go_ret
        exact ⟨rbool HB.out.symm, HM.out _ _⟩
    · have HB := hid (show before (a, b) (c, d) = false by rw [Bool.eq_false_iff, ne_eq, before_iff]; simp; omega)
      go_enter Try.func24, Try.ntmps24
      go_wp2
      go_ret
      exact ⟨rbool HB.out.symm, HM.out _ _⟩
end Go.Proofs.Ytekobigoekfckaa
