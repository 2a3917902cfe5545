/- Two agendas and the document's lists beside one another. -/
import Derived.BigRegion
import Derived.Test.YtekobigoekfckaaT3
namespace Go.Proofs.Ytekobigoekfckaa
open Go.RowKit

theorem RefRel.turn {w wr w2 : World} {T T' : Nat → Prop} {s : List Ent} {v : Value} (h : RefRel s w wr v) (t : Turn T T' wr w2) (ho : ∀ g, v.ownBlock = some g → ¬ T g) (hT : ∀ k, T k → w.heap.size ≤ k) :
    RefRel s w w2 v ∧ ∀ g, v.ownBlock = some g → ¬ T' g := by
  have ho' : OwnR wr (fun _ => True) 29 2 v s.length (entC s) := ⟨h.own, fun _ _ => trivial⟩
  exact ⟨⟨(ho'.kept (S' := fun _ => True) t.mod ho (fun _ h => h)).1, h.mod.then t.mod (fun k hk hs => by have := hT k hs; omega), h.new⟩, fun g hg h' => ho g hg (t.old g (World.ownsRow.lt h.own g hg).2 h')⟩
/-- two agendas and a row -/
structure Trio (w wr : World) (Sa : Nat → Prop) (pa : Nat) (sa : List Ent) (Sb : Nat → Prop) (pb : Nat) (sb : List Ent) (s : List Ent) (v : Value) : Prop where
  a : Live w wr Sa pa sa
  b : Live w wr Sb pb sb
  one : RefRel s w wr v
  ab : ∀ k, Sa k → ¬ Sb k
  oa : ∀ g, v.ownBlock = some g → ¬ Sa g
  ob : ∀ g, v.ownBlock = some g → ¬ Sb g
section
variable {w wr w2 : World} {Sa Sa' : Nat → Prop} {pa : Nat} {sa sa' : List Ent} {Sb Sb' : Nat → Prop} {pb : Nat} {sb sb' : List Ent} {s s' o o' : List Ent} {v v' vx : Value}
theorem Trio.same (h : Trio w wr Sa pa sa Sb pb sb s v) (hm : Mod None wr w2) : Trio w w2 Sa pa sa Sb pb sb s v := ⟨h.a.step hm, h.b.step hm, h.one.same hm, h.ab, h.oa, h.ob⟩
theorem Trio.putOne (h : Trio w wr Sa pa sa Sb pb sb s v) (h2 : RefRel s' wr w2 v') : Trio w w2 Sa pa sa Sb pb sb s' v' :=
  ⟨h.a.step h2.mod, h.b.step h2.mod, h2.from h.a.mod, h.ab, fun g hg hS => by have := h.a.ag.lt g hS; have := h2.new g hg; omega, fun g hg hS => by have := h.b.ag.lt g hS; have := h2.new g hg; omega⟩
theorem Trio.turnA (h : Trio w wr Sa pa sa Sb pb sb s v) (h2 : Live w w2 Sa' pa sa') (t : Turn Sa Sa' wr w2) : Trio w w2 Sa' pa sa' Sb pb sb s v :=
  have hb := h.b.turn t (fun k hb ha => h.ab k ha hb) h.a.new
  have ho := h.one.turn t h.oa h.a.new
  ⟨h2, hb.1, ho.1, fun k ha hb' => hb.2 k hb' ha, ho.2, h.ob⟩
/-- .. and another row -/
structure Quad (w wr : World) (Sa : Nat → Prop) (pa : Nat) (sa : List Ent) (Sb : Nat → Prop) (pb : Nat) (sb : List Ent) (s : List Ent) (v : Value) (o : List Ent) (vx : Value) : Prop where
  trio : Trio w wr Sa pa sa Sb pb sb s v
  row : RefRel o w wr vx
  xa : ∀ g, vx.ownBlock = some g → ¬ Sa g
  xb : ∀ g, vx.ownBlock = some g → ¬ Sb g
  xo : ∀ g, v.ownBlock = some g → ¬ vx.ownBlock = some g
theorem Quad.same (h : Quad w wr Sa pa sa Sb pb sb s v o vx) (hm : Mod None wr w2) : Quad w w2 Sa pa sa Sb pb sb s v o vx := ⟨h.trio.same hm, h.row.same hm, h.xa, h.xb, h.xo⟩
theorem Trio.copy (h : Trio w wr Sa pa sa Sb pb sb s v) (h2 : RefRel o wr w2 vx) : Quad w w2 Sa pa sa Sb pb sb s v o vx :=
  ⟨h.same h2.mod, h2.from h.a.mod, fun g hg hS => by have := h.a.ag.lt g hS; have := h2.new g hg; omega, fun g hg hS => by have := h.b.ag.lt g hS; have := h2.new g hg; omega,
    fun g hv hg => by have := (World.ownsRow.lt h.one.own g hv).2; have := h2.new g hg; omega⟩
theorem Quad.turnB (h : Quad w wr Sa pa sa Sb pb sb s v o vx) (h2 : Live w w2 Sb' pb sb') (t : Turn Sb Sb' wr w2) : Quad w w2 Sa pa sa Sb' pb sb' s v o vx :=
  have ha := h.trio.a.turn t h.trio.ab h.trio.b.new
  have ho := h.trio.one.turn t h.trio.ob h.trio.b.new
  have hx := h.row.turn t h.xb h.trio.b.new
  ⟨⟨ha.1, h2, ho.1, ha.2, h.trio.oa, ho.2⟩, hx.1, h.xa, hx.2, h.xo⟩
/-- the other row is written -/
theorem Quad.write (h : Quad w wr Sa pa sa Sb pb sb s v o vx) (hm : Mod (fun k => vx.ownBlock = some k) wr w2) (h2 : w2.ownsRow 0 29 2 vx o'.length (entC o')) : Quad w w2 Sa pa sa Sb pb sb s v o' vx :=
  have t : Turn (fun k => vx.ownBlock = some k) (fun k => vx.ownBlock = some k) wr w2 := Turn.same hm
  have ha := h.trio.a.turn t (fun k hS hg => h.xa k hg hS) h.row.new
  have hb := h.trio.b.turn t (fun k hS hg => h.xb k hg hS) h.row.new
  have ho := h.trio.one.turn t h.xo h.row.new
  ⟨⟨ha.1, hb.1, ho.1, h.trio.ab, h.trio.oa, h.trio.ob⟩, ⟨h2, ha.1.mod, h.row.new⟩, h.xa, h.xb, h.xo⟩
end
/-- a row copied -/
theorem wp_copy_e {w wr : World} {o : Oper} {a : Act} {K : Act → World → Prop} {Q : Exit → Act → World → Prop} (sl x : Operand)
    (ho : o.op = .call { callee := .builtin .append, args := #[sl, x], argTypes := #[22, 22] })
    {s : List Ent} {ka : Option Addr} {kn kc : Nat} (hr : RefRel s w wr (.slice ka kn kc))
    (hs : a.eval sl = .slice none 0 0) (hx : a.eval x = .slice ka kn kc) (hb : s.length ≤ 1000000)
    (h : ∀ va vc w', Hid (RefRel s wr w' (.slice va kn vc)) → K (a.put o.dst (.slice va kn vc)) w') : o.wp Try.prog a wr K Q := by
  obtain ⟨i, hi, hz, hsz, hby⟩ := info_parts v_info29
  obtain ⟨hrd, hkn⟩ := hr.rdv
  subst hkn
  refine wp_append_R sl x 22 ho 29 i _ 2 16 v_und22 hi hz hsz hby rfl (by decide) (.slice none 0 0) 0 [] hs (World.ownsRow_nil _ _ _ _) ka s.length kc (entC s) hx (entC_length s) hrd (entC_ones s) (by unfold maxLen; omega) (by omega) (fun va vc w' h2 h3 h4 => ?_)
  rw [Nat.zero_add] at h2 h4 ⊢
  refine h va vc w' ⟨h2.out, h3.out.mono (fun k _ e => by cases e), fun g hg => ?_⟩
  rcases h4.out g hg with e | e
  · cases e
  · exact e.1
theorem swapW_blk29 {w : World} {g : Nat} {l : List Ent} {rest : List Value} (h : Blk w g 29 (entC l ++ rest)) (i k : Nat) (hi : i < l.length) (hk : k < l.length) :
    Blk (SwapW w g i k (fn l i) (fn l k)) g 29 (entC (swl l i k) ++ rest) := by
  have := (((h.set (i * 2) (.int .i64 (fn l k).1)).set (i * 2 + 1) (.int .i64 (fn l k).2)).set (k * 2) (.int .i64 (fn l i).1)).set (k * 2 + 1) (.int .i64 (fn l i).2)
  rw [entC_swl l rest i k hi hk] at this
  exact this
/-- where the other row lies -/
theorem RefRel.open1 {s : List Ent} {w wr : World} {a : Option Addr} {n c : Nat} (h : RefRel s w wr (.slice a n c)) (hn : 0 < s.length) :
    ∃ g rest, a = some ⟨g, 0, none⟩ ∧ n = s.length ∧ s.length ≤ c ∧ c ≤ maxLen ∧ Blk wr g 29 (entC s ++ rest) ∧ (entC s ++ rest).length = c * 2 := by
  obtain ⟨g, cap, rest, hv, _, hb, h1, h2, h3, _⟩ := (show OwnR wr (fun _ => True) 29 2 _ s.length (entC s) from ⟨h.own, fun _ _ => trivial⟩).open1 hn
  obtain ⟨rfl, rfl, rfl⟩ : a = some ⟨g, 0, none⟩ ∧ n = s.length ∧ c = cap := by simpa using hv
  exact ⟨g, rest, rfl, rfl, h1, h2, hb, h3⟩
theorem owns_swap {w2 : World} {g c : Nat} {o : List Ent} {rest : List Value} (h1 : o.length ≤ c) (h2 : c ≤ maxLen) (h3 : (entC o ++ rest).length = c * 2) (x y : Nat) (hb : Blk w2 g 29 (entC (swl o x y) ++ rest)) :
    w2.ownsRow 0 29 2 (.slice (some ⟨g, 0, none⟩) o.length c) (swl o x y).length (entC (swl o x y)) := by
  have e : (entC (swl o x y)).length = (entC o).length := by rw [entC_length, entC_length, swl_len]
  refine ⟨entC_length _, .inr ⟨g, c, _, by rw [swl_len], Nat.zero_le _, hb, by rw [swl_len]; exact h1, h2, ?_, ?_⟩⟩
  · rw [List.size_toArray, List.length_append, e, ← List.length_append]; exact h3
  · have e2 : (swl o x y).length * 2 = (entC (swl o x y)).length := by rw [entC_length]
    rw [List.toList_toArray, e2, List.take_left]
theorem build_sorted (l : List Ent) : (build l).Pairwise le := by
  suffices h : ∀ (l s : List Ent), s.Pairwise le → (l.foldl putL s).Pairwise le from h l [] List.Pairwise.nil
  intro l
  induction l with
  | nil => intro s hs; exact hs
  | cons x l ih => intro s hs; exact ih _ (putL_sorted _ _ hs)
theorem build_perm {o : List Ent} (h : o.Pairwise (fun x y => x.1 ≠ y.1)) : ∀ k, k ≤ o.length → (build (o.take k)).Perm (o.take k) := by
  intro k
  induction k with
  | zero => intro _; exact List.Perm.refl _
  | succ k ih =>
    intro hk
    have hp := ih (by omega)
    rw [fn_take_succ o k (by omega), build_snoc]
    have hd : ∀ y ∈ build (o.take k), y.1 ≠ (fn o k).1 := by
      intro y hy
      have hy2 := hp.mem_iff.1 hy
      obtain ⟨i, hi, rfl⟩ := List.getElem_of_mem hy2
      have hik : i < k := by rw [List.length_take] at hi; omega
      rw [List.getElem_take, fn_at (by omega)]
      exact List.pairwise_iff_getElem.1 h i k (by omega) (by omega) hik
    have := putL_perm (List.Perm.refl (build (o.take k))) (fn o k)
    rw [dropL_none hd] at this
    exact this.trans ((hp.cons _).trans (List.perm_append_singleton _ _).symm)
theorem build_eq {o s : List Ent} (hp : o.Perm s) (hs : s.Pairwise le) (hu : s.Pairwise (fun x y => x.1 ≠ y.1)) : build o = s := by
  have hu' : o.Pairwise (fun x y => x.1 ≠ y.1) := hp.symm.pairwise hu (fun h e => h e.symm)
  have := build_perm hu' o.length (Nat.le_refl _)
  rw [List.take_length] at this
  exact sorted_perm (build_sorted o) hs (this.trans hp)
end Go.Proofs.Ytekobigoekfckaa
