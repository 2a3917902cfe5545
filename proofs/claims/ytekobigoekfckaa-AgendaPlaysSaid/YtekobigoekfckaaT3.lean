/- The document's list and the agenda beside one another. -/
import Derived.Test.YtekobigoekfckaaT1
import Derived.Test.YtekobigoekfckaaT2
import Derived.Test.YtekobigoekfckaaV1
namespace Go.Proofs.Ytekobigoekfckaa
open Go.RowKit

/-- all entries put in, one behind the other -/
def build (l : List Ent) : List Ent := l.foldl putL []
theorem build_snoc (l : List Ent) (e : Ent) : build (l ++ [e]) = putL (build l) e := by simp [build]
theorem putL_len (s : List Ent) (e : Ent) : (putL s e).length ≤ s.length + 1 := by
  unfold putL
  rw [(insL_perm _ _).length_eq, List.length_cons]
  have := dropL_le s e.1; omega
theorem build_len (l : List Ent) : (build l).length ≤ l.length := by
  suffices h : ∀ (l s : List Ent), (l.foldl putL s).length ≤ s.length + l.length by simpa [build] using h l []
  intro l
  induction l with
  | nil => intro s; simp
  | cons x l ih =>
    intro s
    rw [List.foldl_cons, List.length_cons]
    have := ih (putL s x)
    have := putL_len s x
    omega
/-- the document's list and the agenda beside one another -/
structure Both (w wr : World) (S : Nat → Prop) (p : Nat) (s : List Ent) (v : Value) : Prop where
  ref : RefRel s w wr v
  live : Live w wr S p s
  off : ∀ g, v.ownBlock = some g → ¬ S g
theorem Both.same {w wr w2 : World} {S : Nat → Prop} {p : Nat} {s : List Ent} {v : Value} (h : Both w wr S p s v) (hm : Mod None wr w2) : Both w w2 S p s v := ⟨h.ref.same hm, h.live.step hm, h.off⟩
/-- the agenda's turn -/
theorem Both.turn {w wr w2 : World} {S S' : Nat → Prop} {p : Nat} {s' : List Ent} {v : Value} (hr : RefRel s' w wr v) (ho : ∀ g, v.ownBlock = some g → ¬ S g) (h2 : Live w w2 S' p s') (ht : Turn S S' wr w2) : Both w w2 S' p s' v := by
  have ho' : OwnR wr (fun _ => True) 29 2 v s'.length (entC s') := ⟨hr.own, fun _ _ => trivial⟩
  refine ⟨⟨(ho'.kept (S' := fun _ => True) ht.mod (fun g hg => ho g hg) (fun _ h => h)).1, h2.mod, hr.new⟩, h2, fun g hg h => ?_⟩
  have hlt := (World.ownsRow.lt hr.own g hg).2
  exact ho g hg (ht.old g hlt h)
theorem Both.refput {w wr w2 : World} {S : Nat → Prop} {p : Nat} {s s' : List Ent} {v v' : Value} (h : Both w wr S p s v) (h2 : RefRel s' wr w2 v') : RefRel s' w w2 v' ∧ Live w w2 S p s ∧ ∀ g, v'.ownBlock = some g → ¬ S g :=
  ⟨h2.from h.live.mod, h.live.step h2.mod, fun g hg hS => by have := h.live.ag.lt g hS; have := h2.new g hg; omega⟩
/-- a write beside both -/
theorem Both.aside {w wr w2 : World} {S T : Nat → Prop} {p : Nat} {s : List Ent} {v : Value} (h : Both w wr S p s v) (hm : Mod T wr w2) (hS : ∀ k, S k → ¬ T k) (hv : ∀ g, v.ownBlock = some g → ¬ T g) (hT : ∀ k, T k → w.heap.size ≤ k) : Both w w2 S p s v := by
  have ho' : OwnR wr (fun _ => True) 29 2 v s.length (entC s) := ⟨h.ref.own, fun _ _ => trivial⟩
  have h2 := h.live.aside hm hS hT
  exact ⟨⟨(ho'.kept (S' := fun _ => True) hm (fun g hg => hv g hg) (fun _ h => h)).1, h2.mod, h.ref.new⟩, h2, h.off⟩
def Walk (w : World) (e : Ending) (w' : World) : Prop := e = .returned (.bool true) ∧ Below w.heap.size w w'
theorem walk_of {w w' : World} (hm : Mod None w w') : Walk w (.returned (.bool true)) w' := ⟨rfl, hm.below _ (Nat.le_refl _) (fun _ h => h.elim)⟩
end Go.Proofs.Ytekobigoekfckaa
