/- The document's list of an agenda. -/
import Derived.Test.YtekobigoekfckaaA3
namespace Go.Proofs.Ytekobigoekfckaa

theorem sorted_perm : ∀ {a b : List Ent}, a.Pairwise le → b.Pairwise le → a.Perm b → a = b
  | [], b, _, _, h => (List.nil_perm.1 h).symm
  | x :: a, b, ha, hb, h => by
    cases b with
    | nil => exact absurd h.length_eq (by simp)
    | cons y b =>
      have hxy : x = y := by
        have h1 : x ∈ y :: b := h.mem_iff.1 (by simp)
        have h2 : y ∈ x :: a := h.mem_iff.2 (by simp)
        rcases List.mem_cons.1 h1 with e | h1
        · exact e
        · rcases List.mem_cons.1 h2 with e | h2
          · exact e.symm
          · exact le_anti (List.rel_of_pairwise_cons ha h2) (List.rel_of_pairwise_cons hb h1)
      subst hxy
      rw [sorted_perm ha.of_cons hb.of_cons (List.perm_cons x |>.1 h)]
/-- a list without a number's entry -/
def dropL (l : List Ent) (id : Int) : List Ent := l.filter (fun e => e.1 != id)
/-- a list in order with an entry -/
def insL : List Ent → Ent → List Ent
  | [], e => [e]
  | x :: l, e => if before e x = true then e :: x :: l else x :: insL l e
def putL (l : List Ent) (e : Ent) : List Ent := insL (dropL l e.1) e
theorem insL_perm : ∀ (l : List Ent) (e : Ent), (insL l e).Perm (e :: l)
  | [], e => .refl _
  | x :: l, e => by
    unfold insL
    split
    · exact .refl _
    · exact ((insL_perm l e).cons x).trans (List.Perm.swap _ _ _)
theorem insL_sorted : ∀ (l : List Ent) (e : Ent), l.Pairwise le → (insL l e).Pairwise le
  | [], e, _ => by simp [insL]
  | x :: l, e, h => by
    unfold insL
    split
    · rename_i hb
      refine List.Pairwise.cons (fun y hy => ?_) h
      rcases List.mem_cons.1 hy with rfl | hy
      · exact le_of_before hb
      · exact le_trans' (le_of_before hb) (List.rel_of_pairwise_cons h hy)
    · rename_i hb
      refine List.Pairwise.cons (fun y hy => ?_) (insL_sorted l e h.of_cons)
      rcases List.mem_cons.1 ((insL_perm l e).mem_iff.1 hy) with rfl | hy
      · exact le_of_not hb
      · exact List.rel_of_pairwise_cons h hy
theorem dropL_sorted (l : List Ent) (id : Int) (h : l.Pairwise le) : (dropL l id).Pairwise le := h.filter _
theorem putL_sorted (l : List Ent) (e : Ent) (h : l.Pairwise le) : (putL l e).Pairwise le := insL_sorted _ _ (dropL_sorted _ _ h)
theorem dropL_perm {a b : List Ent} (h : a.Perm b) (id : Int) : (dropL a id).Perm (dropL b id) := h.filter _
theorem putL_perm {a b : List Ent} (h : a.Perm b) (e : Ent) : (putL b e).Perm (e :: dropL a e.1) := (insL_perm _ _).trans ((dropL_perm h e.1).symm.cons e)
/-- the least of a heap is the sorted list's first -/
theorem head_least {l s : List Ent} (hp : l.Perm s) (hs : s.Pairwise le) {x : Ent} (hx : x ∈ l) (hl : ∀ y ∈ l, le x y) : s.head? = some x := by
  cases s with
  | nil => have := hp.mem_iff.1 hx; simp at this
  | cons y s =>
    have h1 := hp.mem_iff.1 hx
    have h2 := hl y (hp.mem_iff.2 (by simp))
    rcases List.mem_cons.1 h1 with e | h1
    · rw [e]; rfl
    · rw [le_anti h2 (List.rel_of_pairwise_cons hs h1)]; rfl
end Go.Proofs.Ytekobigoekfckaa
