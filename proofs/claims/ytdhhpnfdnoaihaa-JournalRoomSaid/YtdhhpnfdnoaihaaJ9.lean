/- What a loop over a journal's sectors keeps. -/
import Derived.Test.YtdhhpnfdnoaihaaJ8
namespace Go.Proofs.Ytdhhpnfdnoaihaa
open Go.RowKit

/-- the writes of some bytes, a sector each -/
def wrs : Nat → DSt → Nat → List UInt8 → DSt × Int
  | 0, st, _, _ => (st, 0)
  | n + 1, st, i, f => if f = [] then (st, 0) else if (st.write (i : Int) (f.take 64)).2 = 0 then wrs n (st.write (i : Int) (f.take 64)).1 (i + 1) (f.drop 64) else st.write (i : Int) (f.take 64)
theorem wrs_nil (n : Nat) (st : DSt) (i : Nat) : wrs n st i [] = (st, 0) := by
  cases n with
  | zero => rfl
  | succ n => unfold wrs; rw [if_pos rfl]
theorem mod_putObj (W : World) (l : Nat) (o : Obj) : Mod (fun x => x = l) W (W.putObj l o) :=
  ⟨rfl, rfl, rfl, by simp [World.putObj], fun k _ hk => World.putObj_heap_other hk⟩
/-- the places that a loop over sectors knows -/
structure Spots (w0 W4 : World) (S : Nat → Prop) (bf rb q : Nat) : Prop where
  bfl : bf < W4.heap.size
  rbl : rb < W4.heap.size
  ql : q < W4.heap.size
  bfS : ¬ S bf
  rbS : ¬ S rb
  qS : ¬ S q
  bq : bf ≠ q
  rq : rb ≠ q
  br : bf ≠ rb
  b0 : w0.heap.size ≤ bf
  r0 : w0.heap.size ≤ rb
  new : ∀ k, S k → w0.heap.size ≤ k
  old : ∀ k, S k → k < W4.heap.size
def LJ (w0 W4 : World) (S : Nat → Prop) (p bf rb q i0 n0 : Nat) (f : List UInt8) (res : DSt × Int) (k kb : Nat) (a : Option Addr) (c : Nat) (W' : World) : Prop :=
  ∃ S' stk, Live w0 W' S' p stk ∧ wrs (f.length + 1 - k) stk (i0 + k) (f.drop (64 * k)) = res ∧ (∀ x, x < W4.heap.size + 2 → S' x → S x) ∧ stk.waits.length ≤ n0 + k ∧
    Mod (fun x => S x ∨ x = bf ∨ x = rb) W4 W' ∧ W4.heap.size + 2 ≤ W'.heap.size ∧ Blk W' bf 27 [.slice a (f.length - 64 * kb) c] ∧ Blk W' rb 40 [.int .i64 0] ∧ Rd W' a (f.drop (64 * kb)) ∧ (f.drop (64 * kb) = [] ∨ ∃ o, a = some ⟨q, o, none⟩) ∧ f.length - 64 * kb ≤ c ∧ c ≤ maxLen
section
variable {w0 W4 : World} {S : Nat → Prop} {p bf rb q i0 n0 : Nat} {f : List UInt8} {res : DSt × Int} {k kb : Nat} {a : Option Addr} {c : Nat} {W' W'' : World}
theorem rd_off {W' W'' : World} {a : Option Addr} {l : List UInt8} {q : Nat} {T : Nat → Prop} (h : Rd W' a l) (hq : l = [] ∨ ∃ o, a = some ⟨q, o, none⟩) (hm : Mod T W' W'') (hT : ¬ T q) : Rd W'' a l := by
  rcases hq with rfl | ⟨o, rfl⟩
  · exact .inl rfl
  · exact hm.rd h (fun x e => by cases e; exact hT)
/-- a step that writes T alone -/
theorem LJ.via {T : Nat → Prop} (hs : Spots w0 W4 S bf rb q) (h : LJ w0 W4 S p bf rb q i0 n0 f res k kb a c W') (hm : Mod T W' W'') (h1 : ¬ T bf ∧ ¬ T rb ∧ ¬ T q) (h2 : ∀ x, x < W4.heap.size → ¬ T x) (h3 : ∀ x, T x → x < W4.heap.size + 2 ) (h4 : ∀ x, T x → w0.heap.size ≤ x) :
    LJ w0 W4 S p bf rb q i0 n0 f res k kb a c W'' := by
  obtain ⟨S', stk, a1, a2, a3, a4, a5, a6, a7, a8, a9, a10, a11, a12⟩ := h
  have hd : ∀ x, S' x → ¬ T x := fun x hx ht => h2 x (hs.old x (a3 x (h3 x ht) hx)) ht
  obtain ⟨b1, _⟩ := a1.turn (Turn.same hm) hd h4
  exact ⟨S', stk, b1, a2, a3, a4, a5.then hm (fun i hi ht => absurd ht (h2 i hi)), Nat.le_trans a6 hm.size, hm.blk a7 h1.1, hm.blk a8 h1.2.1, rd_off a9 a10 hm h1.2.2, a10, a11, a12⟩
theorem LJ.put (hs : Spots w0 W4 S bf rb q) (h : LJ w0 W4 S p bf rb q i0 n0 f res k kb a c W') (l : Nat) (o' : Obj) (h1 : W4.heap.size ≤ l) (h2 : l ≤ W4.heap.size + 1) (h0 : w0.heap.size ≤ W4.heap.size) : LJ w0 W4 S p bf rb q i0 n0 f res k kb a c (W'.putObj l o') :=
  h.via hs (mod_putObj W' l o') ⟨by have := hs.bfl; omega, by have := hs.rbl; omega, by have := hs.ql; omega⟩ (fun x hx e => by omega) (fun x e => by omega) (fun x e => by omega)
theorem LJ.keep (hs : Spots w0 W4 S bf rb q) (h : LJ w0 W4 S p bf rb q i0 n0 f res k kb a c W') (hm : Mod None W' W'') : LJ w0 W4 S p bf rb q i0 n0 f res k kb a c W'' :=
  h.via hs hm ⟨fun h => h, fun h => h, fun h => h⟩ (fun _ _ h => h) (fun _ h => h.elim) (fun _ h => h.elim)
theorem LJ.box (hs : Spots w0 W4 S bf rb q) (h : LJ w0 W4 S p bf rb q i0 n0 f res k kb a c W') {kc : Nat} {a2 : Option Addr} {c2 : Nat} (hr : Rd W' a2 (f.drop (64 * kc))) (hq : f.drop (64 * kc) = [] ∨ ∃ o, a2 = some ⟨q, o, none⟩) (hc : f.length - 64 * kc ≤ c2) (hc2 : c2 ≤ maxLen) :
    LJ w0 W4 S p bf rb q i0 n0 f res k kc a2 c2 (W'.setCell ⟨bf, 0, none⟩ (.slice a2 (f.length - 64 * kc) c2)) := by
  obtain ⟨S', stk, a1, a2', a3, a4, a5, a6, a7, a8, a9, a10, a11, a12⟩ := h
  have hm : Mod (fun x => x = bf) W' (W'.setCell ⟨bf, 0, none⟩ (.slice a2 (f.length - 64 * kc) c2)) := Mod.set (S := fun x => x = bf) (Mod.refl _ _) (.inl rfl) _
  have hd : ∀ x, S' x → ¬ x = bf := fun x hx e => by subst e; exact hs.bfS (a3 x (by have := hs.bfl; omega) hx)
  obtain ⟨b1, _⟩ := a1.turn (Turn.same hm) hd (fun x e => by rw [e]; exact hs.b0)
  exact ⟨S', stk, b1, a2', a3, a4, a5.then hm (fun i _ e => .inr (.inl e)), Nat.le_trans a6 hm.size, a7.set 0 _, hm.blk a8 (fun e => hs.br e.symm), rd_off hr hq hm (fun e => hs.bq e.symm), hq, hc, hc2⟩
theorem LJ.read (h : LJ w0 W4 S p bf rb q i0 n0 f res k kb a c W') : W'.cell? ⟨bf, 0, none⟩ = some (.slice a (f.length - 64 * kb) c) ∧ W'.frozen? ⟨bf, 0, none⟩ = false ∧ Rd W' a (f.drop (64 * kb)) ∧ f.length - 64 * kb ≤ c ∧ c ≤ maxLen := by
  obtain ⟨S', stk, a1, a2', a3, a4, a5, a6, a7, a8, a9, a10, a11, a12⟩ := h
  exact ⟨a7.is rfl, a7.free 0, a9, a11, a12⟩
/-- stopped: an answer that isn't OK -/
def LX (w0 W4 : World) (S : Nat → Prop) (p bf rb : Nat) (res : DSt × Int) (W' : World) : Prop :=
  ∃ S', Live w0 W' S' p res.1 ∧ res.2 ≠ 0 ∧ (∀ x, x < W4.heap.size + 2 → S' x → S x) ∧ Mod (fun x => S x ∨ x = bf ∨ x = rb) W4 W' ∧ Blk W' rb 40 [.int .i64 res.2]
theorem LX.put (hs : Spots w0 W4 S bf rb q) (h : LX w0 W4 S p bf rb res W') (l : Nat) (o' : Obj) (h1 : W4.heap.size ≤ l) (h2 : l ≤ W4.heap.size + 1) (h0 : w0.heap.size ≤ W4.heap.size) : LX w0 W4 S p bf rb res (W'.putObj l o') := by
  obtain ⟨S', a1, a2, a3, a5, a8⟩ := h
  have hm := mod_putObj W' l o'
  have hd : ∀ x, S' x → ¬ x = l := fun x hx e => by have := hs.old x (a3 x (by omega) hx); omega
  obtain ⟨b1, _⟩ := a1.turn (Turn.same hm) hd (fun x e => by omega)
  exact ⟨S', b1, a2, a3, a5.then hm (fun i hi e => by omega), hm.blk a8 (by have := hs.rbl; omega)⟩
theorem wrs_step (st : DSt) (i : Nat) (f : List UInt8) (k : Nat) (hk : 64 * k < f.length) :
    wrs (f.length + 1 - k) st (i + k) (f.drop (64 * k)) = if (st.write ((i : Int) + (k : Int)) ((f.drop (64 * k)).take 64)).2 = 0 then wrs (f.length + 1 - (k + 1)) (st.write ((i : Int) + (k : Int)) ((f.drop (64 * k)).take 64)).1 (i + (k + 1)) (f.drop (64 * (k + 1))) else st.write ((i : Int) + (k : Int)) ((f.drop (64 * k)).take 64) := by
  have h1 : f.length + 1 - k = (f.length + 1 - (k + 1)) + 1 := by omega
  have h2 : f.drop (64 * k) ≠ [] := by intro h; rw [List.drop_eq_nil_iff] at h; omega
  rw [h1]
  conv => lhs; unfold wrs
  rw [if_neg h2, List.drop_drop, show ((i + k : Nat) : Int) = (i : Int) + (k : Int) by omega, show i + k + 1 = i + (k + 1) by omega, show 64 * k + 64 = 64 * (k + 1) by omega]
theorem changed_waits (st : DSt) : st.changed.waits = st.waits := by unfold DSt.changed; split <;> rfl
theorem write_waits (st : DSt) (i : Int) (d : List UInt8) : (st.write i d).1.waits.length ≤ st.waits.length + 1 := by
  unfold DSt.write
  split
  · split
    · exact Nat.le_succ _
    · rw [changed_waits]; simp [DSt.put]
  · exact Nat.le_succ _
/-- what the body's Write needs, and what it leaves -/
theorem LJ.write (hs : Spots w0 W4 S bf rb q) (h : LJ w0 W4 S p bf rb q i0 n0 f res k k a c W') (hk : 64 * k < f.length) (hn : n0 + k < 3000000000000) (m : Nat) (hm : m = Nat.min (f.length - 64 * k) 64) :
    Calls Try.prog 30 #[.pointer (some ⟨p, 0, none⟩), .int .i64 ((i0 : Int) + (k : Int)), .slice a m c] W' fun e w' => ∃ e0, e = .returned (.int .i64 e0) ∧ (∀ x, W4.heap.size ≤ x → x ≤ W4.heap.size + 1 → w'.heap[x]? = W'.heap[x]?) ∧
      Blk w' rb 40 [.int .i64 0] ∧ ((e0 = 0 ∧ LJ w0 W4 S p bf rb q i0 n0 f res (k + 1) k a c w') ∨ (e0 ≠ 0 ∧ LX w0 W4 S p bf rb res (w'.setCell ⟨rb, 0, none⟩ (.int .i64 e0)))) := by
  obtain ⟨S', stk, a1, a2, a3, a4, a5, a6, a7, a8, a9, a10, a11, a12⟩ := h
  have hrd : Rd W' a ((f.drop (64 * k)).take 64) := rd_take a9 64
  have hlen : m = ((f.drop (64 * k)).take 64).length := by
    rw [hm, List.length_take, List.length_drop]; exact Nat.min_comm _ _
  refine (live_write a1 _ a c m _ hlen hrd (by rw [List.length_take]; omega) (by omega)).mono ?_
  rintro e w' ⟨S'', rfl, hl, ht⟩
  have hst := wrs_step stk i0 f k hk
  rw [a2] at hst
  have hnb : ∀ x, x < W4.heap.size + 2 → ¬ S x → ¬ S' x := fun x hx hn hs' => hn (a3 x hx hs')
  have hrb : Blk w' rb 40 [.int .i64 0] := ht.mod.blk a8 (hnb rb (by have := hs.rbl; omega) hs.rbS)
  have h3' : ∀ x, x < W4.heap.size + 2 → S'' x → S x := fun x hx hs'' => a3 x hx (ht.old x (by omega) hs'')
  have hm4 : Mod (fun x => S x ∨ x = bf ∨ x = rb) W4 w' := a5.then ht.mod (fun i hi hs' => .inl (a3 i (by omega) hs'))
  refine ⟨_, rfl, fun x hx hx2 => ?_, hrb, ?_⟩
  · refine ht.mod.block x (by omega) (fun hs' => ?_)
    have := hs.old x (a3 x (by omega) hs'); omega
  · by_cases h0 : (stk.write ((i0 : Int) + (k : Int)) ((f.drop (64 * k)).take 64)).2 = 0
    · left
      rw [if_pos h0] at hst
      refine ⟨h0, S'', _, hl, hst.symm, h3', ?_, hm4, Nat.le_trans a6 ht.mod.size, ht.mod.blk a7 (hnb bf (by have := hs.bfl; omega) hs.bfS), hrb, rd_off a9 a10 ht.mod (hnb q (by have := hs.ql; omega) hs.qS), a10, a11, a12⟩
      have := write_waits stk ((i0 : Int) + (k : Int)) ((f.drop (64 * k)).take 64)
      omega
    · right
      rw [if_neg h0] at hst
      rw [← hst] at h0 hl ⊢
      have hm2 : Mod (fun x => x = rb) w' (w'.setCell ⟨rb, 0, none⟩ (.int .i64 res.2)) := Mod.set (S := fun x => x = rb) (Mod.refl _ _) (.inl rfl) _
      obtain ⟨b1, _⟩ := hl.turn (Turn.same hm2) (fun x hx e => hs.rbS (h3' rb (by have := hs.rbl; omega) (e ▸ hx))) (fun x e => by rw [e]; exact hs.r0)
      exact ⟨h0, S'', b1, h0, h3', hm4.then hm2 (fun i _ e => .inr (.inr e)), hrb.set 0 _⟩
end
end Go.Proofs.Ytdhhpnfdnoaihaa
