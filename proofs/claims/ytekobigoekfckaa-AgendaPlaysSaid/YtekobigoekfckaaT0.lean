/- An agenda of the walk's own. -/
import Derived.Test.YtekobigoekfckaaB14
import Derived.Test.YtekobigoekfckaaS3
namespace Go.Proofs.Ytekobigoekfckaa
open Go.RowKit

/-- the agenda at p holds s; S is what it owns, all of it new since w0 -/
structure Live (w0 w : World) (S : Nat → Prop) (p : Nat) (s : List Ent) : Prop where
  ag : AgS w S p s
  mod : Mod None w0 w
  new : ∀ k, S k → w0.heap.size ≤ k
section
variable {w0 w w' : World} {S S' T T' : Nat → Prop} {p : Nat} {s : List Ent}
theorem Live.step (h : Live w0 w S p s) (hm : Mod None w w') : Live w0 w' S p s := ⟨h.ag.same hm, h.mod.trans hm, h.new⟩
theorem Live.alloc (h : Live w0 w S p s) (o : Obj) : Live w0 (w.alloc o) S p s := h.step ((Mod.refl _ _).alloc o)
theorem Live.drew (h : Live w0 w S p s) : Live w0 w.drew S p s := h.step (Mod.refl _ _).drew
/-- what was there before is as it was -/
theorem Live.old (h : Live w0 w S p s) (hm : Mod S w w') : Mod None w0 w' := h.mod.then hm (fun k hk hs => by have := h.new k hs; omega)
theorem Live.by (h : Live w0 w S p s) {s' : List Ent} (ha : AgS w' S' p s') (ht : Turn S S' w w') : Live w0 w' S' p s' :=
  ⟨ha, h.old ht.mod, fun k hk => by
    rcases Nat.lt_or_ge k w.heap.size with hlt | hge
    · exact h.new k (ht.old k hlt hk)
    · have := h.mod.size; omega⟩
/-- another agenda's call -/
theorem Live.turn (h : Live w0 w S p s) (t : Turn T T' w w') (hd : ∀ k, S k → ¬ T k) (hT : ∀ k, T k → w0.heap.size ≤ k) : Live w0 w' S p s ∧ ∀ k, S k → ¬ T' k :=
  ⟨⟨h.ag.keep t.mod hd, h.mod.then t.mod (fun k hk hs => by have := hT k hs; omega), h.new⟩, fun k hk ht => hd k hk (t.old k (h.ag.lt k hk) ht)⟩
/-- a write to a block of the walk's own that is not the agenda's -/
theorem Live.aside (h : Live w0 w S p s) (hm : Mod T w w') (hd : ∀ k, S k → ¬ T k) (hT : ∀ k, T k → w0.heap.size ≤ k) : Live w0 w' S p s :=
  ⟨h.ag.keep hm hd, h.mod.then hm (fun k hk hs => by have := hT k hs; omega), h.new⟩
def LPost (w0 w : World) (S : Nat → Prop) (p : Nat) (v : Value) (s : List Ent) (e : Ending) (w' : World) : Prop := ∃ S', e = .returned v ∧ Live w0 w' S' p s ∧ Turn S S' w w'
def LNew (w0 w : World) (e : Ending) (w' : World) : Prop := ∃ p S, e = .returned (Ptr p) ∧ Live w0 w' S p [] ∧ Mod None w w' ∧ ∀ k, S k → w.heap.size ≤ k
theorem live_new (w0 w : World) (hm : Mod None w0 w) : Calls Try.prog 7 #[] w (LNew w0 w) :=
  (new_any w).mono fun _ _ ⟨p, S, he, ha, hm', hS⟩ => ⟨p, S, he, ⟨ha, hm.trans hm', fun k hk => Nat.le_trans hm.size (hS k hk)⟩, hm', hS⟩
theorem live_put (h : Live w0 w S p s) (e : Ent) (hi : In64 e.1 ∧ In64 e.2) (hfew : s.length ≤ 1000000) : Calls Try.prog 10 #[Ptr p, .int .i64 e.1, .int .i64 e.2] w (LPost w0 w S p (.bool (!there s e.1)) (putL s e)) :=
  (put_any w S p s h.ag e.1 e.2 hi.1 hi.2 (by omega)).mono fun _ _ ⟨S', he, ha, ht⟩ => ⟨S', he, h.by ha ht, ht⟩
theorem live_drop (h : Live w0 w S p s) (id : Int) (hi : In64 id) (hfew : s.length ≤ 1000000) : Calls Try.prog 14 #[Ptr p, .int .i64 id] w (LPost w0 w S p (.bool (there s id)) (dropL s id)) :=
  (drop_any w S p s h.ag id hi (by omega)).mono fun _ _ ⟨S', he, ha, ht⟩ => ⟨S', he, h.by ha ht, ht⟩
theorem live_take (h : Live w0 w S p s) (now : Int) (hfew : s.length ≤ 1000000) : Calls Try.prog 15 #[Ptr p, .int .i64 now] w (LPost w0 w S p (.tuple #[V (takeL s now).1.1, .bool (takeL s now).1.2]) (takeL s now).2) :=
  (take_any w S p s h.ag now (by omega)).mono fun _ _ ⟨he, ha, hm⟩ => ⟨S, he, h.by ha (Turn.same hm), Turn.same hm⟩
def SPost (w0 w : World) (S : Nat → Prop) (p : Nat) (v : Value) (s : List Ent) (e : Ending) (w' : World) : Prop := e = .returned v ∧ Live w0 w' S p s ∧ Mod None w w'
theorem live_first (h : Live w0 w S p s) : Calls Try.prog 18 #[Ptr p] w (SPost w0 w S p (.tuple #[V (firstL s).1, .bool (firstL s).2]) s) :=
  (first_any w S p s h.ag).mono fun _ _ ⟨he, hm⟩ => ⟨he, h.step hm, hm⟩
theorem live_len (h : Live w0 w S p s) : Calls Try.prog 17 #[Ptr p] w fun e w' => e = .returned (.int .i64 (s.length : Int)) ∧ w = w' := aglen_any w S p s h.ag
def LListPost (w0 w : World) (S : Nat → Prop) (p : Nat) (s : List Ent) (e : Ending) (w' : World) : Prop := ∃ a c, e = .returned (.slice a s.length c) ∧ Row w' w.heap.size a s ∧ Live w0 w' S p s ∧ Mod None w w'
theorem live_list (h : Live w0 w S p s) (hfew : s.length ≤ 1000000) : Calls Try.prog 12 #[Ptr p] w (LListPost w0 w S p s) :=
  (list_any w S p s h.ag (by omega)).mono fun _ _ ⟨a, c, he, hr, hm⟩ => ⟨a, c, he, hr, h.step hm, hm⟩
end
theorem Row.rdv {w : World} {B : Nat} {a : Option Addr} {s : List Ent} (h : Row w B a s) : RdV w a (entC s) := by
  rcases h with rfl | ⟨g, rest, rfl, _, hb⟩
  · exact .inl rfl
  · exact hb.rdv 0 (fun i hi => by rw [Nat.zero_add, List.getElem?_append_left hi])
theorem Row.same {w w' : World} {B : Nat} {a : Option Addr} {s : List Ent} (h : Row w B a s) (hm : Mod None w w') : Row w' B a s := by
  rcases h with rfl | ⟨g, rest, rfl, h1, hb⟩
  · exact .inl rfl
  · exact .inr ⟨g, rest, rfl, h1, hm.blk hb (fun h => h)⟩
end Go.Proofs.Ytekobigoekfckaa
