/- A disk of the walk's own; awake of layer 3. -/
import Derived.Laws.IdiomStrings
import Derived.Lib.BufferRead
import Derived.Lib.SlBytesConst
import Derived.Test.YtdhhpnfdnoaihaaD7
import Derived.Test.YtdhhpnfdnoaihaaC8
namespace Go.Proofs.Ytdhhpnfdnoaihaa
open Go.RowKit

/-- the disk at p is st; S is what it owns, all of it new since w0 -/
def Live (w0 w : World) (S : Nat → Prop) (p : Nat) (st : DSt) : Prop := IsDisk w S p st ∧ Mod None w0 w ∧ ∀ k, S k → w0.heap.size ≤ k
/-- a call that may have written S, and S' is what it left -/
structure Turn (S S' : Nat → Prop) (w w' : World) : Prop where
  mod : Mod S w w'
  old : ∀ k, k < w.heap.size → S' k → S k
theorem Turn.same {S : Nat → Prop} {w w' : World} (h : Mod S w w') : Turn S S w w' := ⟨h, fun _ _ h => h⟩
/-- bytes that are read, in a block that S does not hold -/
def Safe (S : Nat → Prop) (w : World) (a : Option Addr) (l : List UInt8) : Prop := Rd w a l ∧ (l = [] ∨ ∃ b o, a = some ⟨b, o, none⟩ ∧ b < w.heap.size ∧ ¬ S b)
theorem Safe.turn {S S' : Nat → Prop} {w w' : World} {a : Option Addr} {l : List UInt8} (h : Safe S w a l) (t : Turn S S' w w') : Safe S' w' a l := by
  obtain ⟨h1, rfl | ⟨b, o, rfl, hb, hs⟩⟩ := h
  · exact ⟨.inl rfl, .inl rfl⟩
  · exact ⟨t.mod.rd h1 (fun x e => by cases e; exact hs), .inr ⟨b, o, rfl, Nat.lt_of_lt_of_le hb t.mod.size, fun h => hs (t.old b hb h)⟩⟩
section
variable {w0 w w' : World} {S S' : Nat → Prop} {p : Nat} {st : DSt}
theorem Live.ok (h : Live w0 w S p st) : st.Ok := by
  obtain ⟨⟨_, _, h⟩, _⟩ := h; exact h.ok
theorem Live.lt (h : Live w0 w S p st) : ∀ k, S k → k < w.heap.size := by
  obtain ⟨⟨_, _, h⟩, _⟩ := h; exact h.lt
theorem Live.own (h : Live w0 w S p st) : S p := by
  obtain ⟨⟨_, _, h⟩, _⟩ := h; exact h.own
theorem Live.step (h : Live w0 w S p st) (hm : Mod None w w') : Live w0 w' S p st :=
  ⟨h.1.keep hm (fun _ _ h => h), h.2.1.trans hm, h.2.2⟩
theorem Live.alloc (h : Live w0 w S p st) (o : Obj) : Live w0 (w.alloc o) S p st := h.step ((Mod.refl _ _).alloc o)
theorem Live.drew (h : Live w0 w S p st) : Live w0 w.drew S p st := h.step (Mod.refl _ _).drew
/-- another disk's call -/
theorem Live.turn {T T' : Nat → Prop} (h : Live w0 w S p st) (t : Turn T T' w w') (hd : ∀ k, S k → ¬ T k) (hT : ∀ k, T k → w0.heap.size ≤ k) : Live w0 w' S p st ∧ ∀ k, S k → ¬ T' k :=
  ⟨⟨h.1.keep t.mod hd, h.2.1.then t.mod (fun k hk hs => by have := hT k hs; omega), h.2.2⟩, fun k hk ht => hd k hk (t.old k (h.lt k hk) ht)⟩
def LNew (w0 w : World) (n : Nat) (e : Ending) (w' : World) : Prop := ∃ p S, e = .returned (.pointer (some ⟨p, 0, none⟩)) ∧ Live w0 w' S p (DSt.new n) ∧ Mod None w w' ∧ ∀ k, S k → w.heap.size ≤ k
theorem live_new (w0 w : World) (hm : Mod None w0 w) (s : Int) (n : Nat) (hn : (n : Int) = min (max s 1) 65536) : Calls Try.prog 26 #[.int .i64 s] w (LNew w0 w n) :=
  (new_any w s n hn).mono fun _ _ ⟨p, S, he, hd, hm', hS⟩ => ⟨p, S, he, ⟨hd, hm.trans hm', fun k hk => Nat.le_trans hm.size (hS k hk)⟩, hm', hS⟩
def LPost (w0 w : World) (S : Nat → Prop) (p : Nat) (v : Value) (st : DSt) (e : Ending) (w' : World) : Prop := ∃ S', e = .returned v ∧ Live w0 w' S' p st ∧ Turn S S' w w'
theorem live_write (h : Live w0 w S p st) (i : Int) (a : Option Addr) (c n : Nat) (d : List UInt8) (hn : n = d.length) (hr : Rd w a d) (hd : d.length ≤ 140737488351232) (hroom : st.waits.length < 3000000000000) :
    Calls Try.prog 30 #[.pointer (some ⟨p, 0, none⟩), .int .i64 i, .slice a n c] w (LPost w0 w S p (.int .i64 (st.write i d).2) (st.write i d).1) := by
  obtain ⟨h1, h2, h3⟩ := h
  subst hn
  refine (write_any w S p st h1 i a c d hr hd hroom).mono fun e w' ⟨he, hd', hm⟩ => ⟨_, he, ⟨hd', h2.then hm (fun k hk hs => ?_), fun k hk => ?_⟩, hm, fun k hk hg => ?_⟩
  · have := h3 k hs; omega
  · rcases hk with hk | hk
    · exact h3 k hk
    · exact Nat.le_trans h2.size hk.1
  · rcases hg with hg | hg
    · exact hg
    · omega
theorem live_flush (h : Live w0 w S p st) : Calls Try.prog 29 #[.pointer (some ⟨p, 0, none⟩)] w (LPost w0 w S p (.int .i64 st.flush.2) st.flush.1) := by
  obtain ⟨h1, h2, h3⟩ := h
  exact (flush_any w S p st h1).mono fun e w' ⟨he, hd', hm⟩ => ⟨S, he, ⟨hd', h2.then hm (fun k hk hs => by have := h3 k hs; omega), h3⟩, .same hm⟩
theorem live_arm (h : Live w0 w S p st) (n : Int) (hn : n ≤ 9223372036854775807) : Calls Try.prog 28 #[.pointer (some ⟨p, 0, none⟩), .int .i64 n] w (LPost w0 w S p (.tuple #[]) (st.arm' n)) := by
  have hp := h.own
  obtain ⟨h1, h2, h3⟩ := h
  exact (arm_any w S p st h1 n hn).mono fun e w' ⟨he, hd', hm⟩ =>
    have hm' : Mod S w w' := hm.mono (fun k _ e => by subst e; exact hp)
    ⟨S, he, ⟨hd', h2.then hm' (fun k hk hs => by have := h3 k hs; omega), h3⟩, .same hm'⟩
theorem live_crash (h : Live w0 w S p st) (k t : Int) : Calls Try.prog 32 #[.pointer (some ⟨p, 0, none⟩), .int .i64 k, .int .i64 t] w (LPost w0 w S p (.tuple #[]) (st.crash k t)) := by
  obtain ⟨h1, h2, h3⟩ := h
  exact (crash_any w S p st h1 k t).mono fun e w' ⟨he, hd', hm⟩ => ⟨S, he, ⟨hd', h2.then hm (fun k hk hs => by have := h3 k hs; omega), h3⟩, .same hm⟩
theorem live_down (h : Live w0 w S p st) : Calls Try.prog 31 #[.pointer (some ⟨p, 0, none⟩)] w fun e w' => e = .returned (.bool st.down) ∧ w = w' := down_any w S p st h.1
theorem live_waits (h : Live w0 w S p st) : Calls Try.prog 36 #[.pointer (some ⟨p, 0, none⟩)] w fun e w' => e = .returned (.int .i64 (st.waits.length : Int)) ∧ w = w' := waits_any w S p st h.1
theorem live_size (h : Live w0 w S p st) : Calls Try.prog 73 #[.pointer (some ⟨p, 0, none⟩)] w fun e w' => e = .returned (.int .i64 (st.last.length : Int)) ∧ w = w' := size_any w S p st h.1
def LRead (w0 w : World) (S : Nat → Prop) (p : Nat) (st : DSt) (r : List UInt8 × Int) (e : Ending) (w' : World) : Prop :=
  ∃ a, e = .returned (.tuple #[.slice a r.1.length r.1.length, .int .i64 r.2]) ∧ Told w w' a r.1 ∧ Safe S w' a r.1 ∧ Live w0 w' S p st ∧ Mod None w w'
theorem live_read (h : Live w0 w S p st) (i : Int) : Calls Try.prog 33 #[.pointer (some ⟨p, 0, none⟩), .int .i64 i] w (LRead w0 w S p st (st.read i)) := by
  have hlt := h.lt
  obtain ⟨h1, h2, h3⟩ := h
  refine (read_any w S p st h1 i).mono fun e w' ⟨a, he, ht, hm⟩ => ⟨a, he, ht, ?_, ⟨h1.keep hm (fun _ _ h => h), h2.trans hm, h3⟩, hm⟩
  generalize (st.read i).1 = l at *
  rcases ht with ⟨rfl, rfl⟩ | ⟨b, rfl, hb, hk⟩
  · exact ⟨.inl rfl, .inl rfl⟩
  · exact ⟨hk.rdv 0 (fun i _ => by rw [Nat.zero_add]; rfl), .inr ⟨b, 0, rfl, hk.lt, fun hs => by have := hlt b hs; omega⟩⟩
end
theorem Told.rd {w w' : World} {a : Option Addr} {d : List UInt8} (h : Told w w' a d) : Rd w' a d := by
  rcases h with ⟨rfl, rfl⟩ | ⟨b, rfl, _, hb⟩
  · exact .inl rfl
  · exact hb.rdv 0 (fun i _ => by rw [Nat.zero_add]; rfl)
theorem und9 : Try.prog.underlying 9 = some .string := by kernel_rfl
def Str (l : List UInt8) : Value := .string ⟨l.toArray⟩
/-- string(b) -/
theorem str_rd {w : World} {a : Option Addr} {l : List UInt8} (h : Rd w a l) (n c : Nat) (hn : n = l.length) : (convert 27 9 (.slice a n c)).run Try.prog w = .ok (Str l) w := by
  subst hn
  by_cases h0 : l = []
  · subst h0
    cases a with
    | none => exact Lib.run_convert_nil_bytes w 27 9 5 c und27 und5 und9
    | some x => exact run_convert_bytes_back w 27 9 5 x c [] und27 und5 und9 (fun j hj => by simp at hj)
  · rcases h with h | ⟨b, o, rfl, hc⟩
    · exact absurd (by simpa using h) h0
    · exact run_convert_bytes_back w 27 9 5 ⟨b, o, none⟩ c l und27 und5 und9 (fun j hj => by rw [addr_add]; exact Rd.at hc j hj)
theorem Rd.take {w : World} {a : Option Addr} {l : List UInt8} (h : Rd w a l) (c : Nat) : Rd w a (l.take c) := by
  rcases h with h | ⟨b, o, rfl, hc⟩
  · left; simp at h; simp [h]
  · refine .inr ⟨b, o, rfl, fun i hi => ?_⟩
    have hi' : i < c ∧ i < l.length := by simpa [Nat.lt_min] using hi
    rw [hc i (by simpa using hi'.2)]
    simp [hi'.1]
/-- a text that the code spells out -/
theorem rd_lit (w : World) (C : Array Value) (l : List UInt8) (hC : C = (l.map B).toArray) (fr : Nat × Nat) (q : Nat) (hq : q = w.heap.size) : Rd (w.alloc (.cells C 5 fr)) (some ⟨q, 0, none⟩) l := by
  subst hq hC
  refine .inr ⟨_, 0, rfl, fun i hi => ?_⟩
  rw [Nat.zero_add, cell_new]; simp

/-! awake -/
def aw0 : DSt := DSt.new 2
def aw1 : DSt := (aw0.write 0 [97, 98]).1
def aw2 : DSt := (aw1.write 0 [99, 100]).1
def aw3 : DSt := aw2.crash 1 1
def aw4 : DSt := aw3.arm' 1
def aw5 : DSt := (aw4.write 1 []).1
theorem aw0w : (aw0.write 0 [97, 98]).2 = 0 := by decide +kernel
theorem aw1w : (aw1.write 0 [99, 100]).2 = 0 := by decide +kernel
theorem aw2r : (aw2.read 0).2 = 0 ∧ (aw2.read 0).1.length = 64 ∧ (aw2.read 0).1.take 2 = [99, 100] := by decide +kernel
theorem aw3r : (aw3.read 0).2 = 0 ∧ (aw3.read 0).1.length = 64 ∧ (aw3.read 0).1.take 2 = [99, 98] := by decide +kernel
theorem aw4w : (aw4.write 1 []).2 = 0 := by decide +kernel
theorem aw5r : (aw5.read 0).2 = 32 := by decide +kernel
theorem aw5d : aw5.down = true := by decide +kernel
theorem aww : aw0.waits.length < 3000000000000 ∧ aw1.waits.length < 3000000000000 ∧ aw4.waits.length < 3000000000000 := by decide +kernel
end Go.Proofs.Ytdhhpnfdnoaihaa
