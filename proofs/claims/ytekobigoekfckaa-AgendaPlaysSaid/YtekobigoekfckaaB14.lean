/- The agenda's Take. -/
import Derived.Test.YtekobigoekfckaaB13
namespace Go.Proofs.Ytekobigoekfckaa
open Go.RowKit

def takeL (s : List Ent) (now : Int) : (Ent × Bool) × List Ent := match s with
  | [] => (((0, 0), false), [])
  | x :: s => if x.2 ≤ now then ((x, true), s) else (((0, 0), false), x :: s)
def TakePost (p : Nat) (S : Nat → Prop) (r : (Ent × Bool) × List Ent) (w : World) (e : Ending) (w' : World) : Prop := e = .returned (.tuple #[V r.1.1, .bool r.1.2]) ∧ AgS w' S p r.2 ∧ Mod S w w'
/-- the result's own cells, written -/
def SetE (w : World) (q : Nat) (x : Ent) : World := (w.setCell ⟨q, 0, none⟩ (.int .i64 x.1)).setCell ⟨q, 1, none⟩ (.int .i64 x.2)
theorem SetE.mod (w : World) (q : Nat) (x : Ent) : Mod (fun k => k = q) w (SetE w q x) := by
  have h0 : ∀ (w : World) (o : Nat) (v : Value), Mod (fun j => j = q) w (w.setCell ⟨q, o, none⟩ v) := fun w o v => Mod.set (S := fun j => j = q) (Mod.refl _ _) (.inl rfl) _
  exact (h0 _ _ _).trans (h0 _ _ _)
theorem SetE.blk {w : World} {q : Nat} {a b : Value} (h : Blk w q 36 [a, b]) (x : Ent) : Blk (SetE w q x) q 36 [.int .i64 x.1, .int .i64 x.2] := (h.set 0 _).set 1 _
theorem take_end {w w3 : World} {S : Nat → Prop} {p q : Nat} {r : (Ent × Bool) × List Ent} (hS : ∀ k, S k → k < w.heap.size) (hq : w.heap.size ≤ q) (ha : AgS w3 S p r.2) (hm : Mod S w w3) (x : Ent) :
    TakePost p S r w (.returned (.tuple #[V r.1.1, .bool r.1.2])) (SetE w3 q x) :=
  ⟨rfl, ha.keep (SetE.mod w3 q x) (fun k hk e => by have := hS k hk; omega), hm.then (SetE.mod w3 q x) (fun k hk e => by omega)⟩
theorem TakePost.alloc {w w3 : World} {S : Nat → Prop} {p : Nat} {r : (Ent × Bool) × List Ent} {e : Ending} (h : TakePost p S r w e w3) (o : Obj) : TakePost p S r w e (w3.alloc o) :=
  ⟨h.1, h.2.1.same ((Mod.refl None w3).alloc o), h.2.2.alloc o⟩
set_option maxHeartbeats 3200000 in
theorem take_any (w : World) (S : Nat → Prop) (p : Nat) (s : List Ent) (h : AgS w S p s) (now : Int) (hfew : s.length < 1000000000000) :
    Calls Try.prog 15 #[Ptr p, .int .i64 now] w (TakePost p S (takeL s now) w) := by
  have HF := hid (fun o => first_any (w.alloc o) S p s (h.same ((Mod.refl None w).alloc o)))
  have HM := hid (fun (w2 : World) (hm : Mod None (w.alloc (.cells #[.int .i64 0, .int .i64 0] 36)) w2) => ((Mod.refl None w).alloc _).trans hm)
  have HZ := hid (fun (w2 : World) (hm : Mod None (w.alloc (.cells #[.int .i64 0, .int .i64 0] 36)) w2) => hm.blk (b := w.heap.size) (Blk.new w 36 #[.int .i64 0, .int .i64 0]) (fun h => h))
  have HS := hid h
  have HLT := hid h.lt
  have HEnd := hid (fun (w3 : World) (r : (Ent × Bool) × List Ent) ha hm x => take_end (w := w) (w3 := w3) (S := S) (p := p) (q := w.heap.size) (r := r) h.lt (Nat.le_refl _) ha hm x)
  have hno : ∀ (x : Ent) (b : Bool) (s' : List Ent), s = s' → firstL s' = (x, b) → takeL s now = (((0, 0), false), s') → (b = false ∨ now < x.2) → (x.2 ≤ now → b = false) → Calls Try.prog 15 #[Ptr p, .int .i64 now] w (TakePost p S (takeL s now) w) := by
    intro x b s' hs' hf ht hb hb'
    subst hs'
    rw [hf] at HF
    rw [ht]
    clear h hf
    unfold Ptr at *
    cases b with
    | false =>
      clear hb hb'
      go_enter Try.func15, Try.ntmps15
      go_wp2_with fail
      refine (HF.out _).mono ?_
      rintro e w2 ⟨rfl, hm⟩
      have hz := HZ.out w2 hm
      have HM2 := hid (HM.out w2 hm)
      have HZ2 := hid hz
      have z0 := hz.is (i := 0) rfl
      have z1 := hz.is (i := 1) rfl
      have f0 := hz.free 0
      have f1 := hz.free 1
      have hlt := hz.lt
      clear hz hm HZ HF
      go_wp2_with fail
      have hb := (SetE.blk HZ2.out (0, 0)).alloc (.cells #[.int .i64 x.1, .int .i64 x.2] 36)
      exact ret_cell _ _ w.heap.size (0, 0) (.bool false) rfl rfl rfl (hb.is rfl) (hb.is rfl) ((HEnd.out w2 _ (HS.out.same HM2.out) (HM2.out.mono (fun _ _ h => h.elim)) (0, 0)).alloc _)
    | true =>
      have hx' : now < x.2 := by rcases hb with h | h; cases h; exact h
      clear hb hb'
      go_enter Try.func15, Try.ntmps15
      go_wp2_with fail
      refine (HF.out _).mono ?_
      rintro e w2 ⟨rfl, hm⟩
      have hz := HZ.out w2 hm
      have HM2 := hid (HM.out w2 hm)
      have HZ2 := hid hz
      have z0 := hz.is (i := 0) rfl
      have z1 := hz.is (i := 1) rfl
      have f0 := hz.free 0
      have f1 := hz.free 1
      have hlt := hz.lt
      clear hz hm HZ HF
      go_wp2_with fail
      have hb := (SetE.blk HZ2.out (0, 0)).alloc (.cells #[.int .i64 x.1, .int .i64 x.2] 36)
      exact ret_cell _ _ w.heap.size (0, 0) (.bool false) rfl rfl rfl (hb.is rfl) (hb.is rfl) ((HEnd.out w2 _ (HS.out.same HM2.out) (HM2.out.mono (fun _ _ h => h.elim)) (0, 0)).alloc _)
  cases s with
  | nil => exact hno (0, 0) false [] rfl rfl rfl (.inl rfl) (fun _ => rfl)
  | cons x s =>
    by_cases hx : x.2 ≤ now
    · have ht : takeL (x :: s) now = ((x, true), s) := by simp [takeL, hx]
      rw [ht]
      have hx' : ¬ (now < x.2) := by omega
      have HP := hid (fun w2 (hm : Mod None w w2) => show Calls Try.prog 26 #[If p] w2 (fun e w3 => e = .returned (IfE x) ∧ AgS w3 S p s ∧ Mod S w2 w3) by
        obtain ⟨l, ha, hH, hp, hs⟩ := h.same hm
        have hl := hp.length_eq
        rw [List.length_cons] at hl
        have hx0 : fn l 0 = x := by
          have := head_least hp hs (x := fn l 0) (fn_mem (by omega)) (fun y hy => by
            obtain ⟨i, hi, rfl⟩ := List.getElem_of_mem hy
            rw [← fn_at hi]
            exact hH.least i hi)
          simpa using this.symm
        have := hpop_any w2 S p l ha s.length hl hH (by rw [hl]; simpa using hfew)
        rw [hx0] at this
        refine this.mono ?_
        rintro e w3 ⟨rfl, l', ha', hp', hH', hm'⟩
        exact ⟨rfl, ⟨l', ha', hH', (List.perm_cons _).1 (hp'.trans hp), hs.of_cons⟩, hm'⟩)
      clear h hx hno ht
      unfold Ptr If IfE at *
      unfold Ptr at *
      unfold firstL at HF
      go_enter Try.func15, Try.ntmps15
      go_wp2_with fail
      refine (HF.out _).mono ?_
      rintro e w2 ⟨rfl, hm⟩
      have hz := HZ.out w2 hm
      have HM2 := hid ((HM.out w2 hm).alloc (.cells #[.int .i64 x.1, .int .i64 x.2] 36))
      have HZ2 := hid (hz.alloc (.cells #[.int .i64 x.1, .int .i64 x.2] 36))
      have hlt := hz.lt
      clear hz hm HZ HF
      go_wp2_with fail
      refine (HP.out _ HM2.out).mono ?_
      rintro e w3 ⟨rfl, ha3, hm3⟩
      have hz := hm3.blk HZ2.out (fun h => by have := HLT.out _ h; omega)
      have z0 := hz.is (i := 0) rfl
      have z1 := hz.is (i := 1) rfl
      have f0 := hz.free 0
      have f1 := hz.free 1
      have HZ3 := hid hz
      have HE := hid (HEnd.out w3 ((x, true), s) ha3 ((HM2.out.mono (S' := S) (fun _ _ h => h.elim)).trans hm3) x)
      clear hz ha3 hm3 HP HEnd HZ2
      go_wp2_with fail
      have hb := SetE.blk HZ3.out x
      exact ret_cell _ _ w.heap.size x (.bool true) rfl rfl rfl (hb.is rfl) (hb.is rfl) HE.out
    · exact hno x true (x :: s) rfl rfl (by simp [takeL, hx]) (.inr (by omega)) (fun h => absurd h hx)
end Go.Proofs.Ytekobigoekfckaa
