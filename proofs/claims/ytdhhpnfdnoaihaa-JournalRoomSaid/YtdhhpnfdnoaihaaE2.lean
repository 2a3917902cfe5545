/- The document's disk in memory, and the contracts of its small methods. -/
import Derived.Test.YtdhhpnfdnoaihaaE1
namespace Go.Proofs.Ytdhhpnfdnoaihaa
open Go.RowKit

def bufC (ws : List (Nat × List UInt8)) (qs : List Nat) : List Value := (ws.zip qs).flatMap fun x => [.int .i64 (x.1.1 : Int), .slice (some ⟨x.2, 0, none⟩) 64 64]
structure RefAt (w : World) (S : Nat → Prop) (p b n : Nat) (f : Int → List UInt8) (qs : List Nat) (bv : Value) (st : DSt) : Prop where
  obj : Blk w p 113 [.int .i64 (st.last.length : Int), .map (some b), bv, .int .i64 st.armed, .bool st.down]
  own : S p
  ownb : S b
  map : IsMap w b n f
  last : ∀ (i : Nat) (s : List UInt8), st.last[i]? = some s → pad64 (f (i : Int)) = s ∧ (f (i : Int)).length ≤ 64
  buf : OwnR w S 115 2 bv st.waits.length (bufC st.waits qs)
  dat : ∀ (k : Nat) (x : Nat × List UInt8) (q : Nat), st.waits[k]? = some x → qs[k]? = some q → S q ∧ Blk w q 5 (x.2.map B)
  len : qs.length = st.waits.length
  ok : st.Ok
  lt : ∀ k, S k → k < w.heap.size
def IsRef (w : World) (S : Nat → Prop) (p N : Nat) (st : DSt) : Prop := ∃ b n f qs bv, RefAt w S p b n f qs bv st ∧ n + st.waits.length ≤ N

theorem Blk.types {w : World} {p q : Nat} {t t' : TypeId} {cs cs' : List Value} (h : Blk w p t cs) (h' : Blk w q t' cs') (ht : t ≠ t') : p ≠ q := by
  rintro rfl; exact ht (h.uniq h').1
theorem OwnR.far {w : World} {S : Nat → Prop} {e size : Nat} {v : Value} {n : Nat} {xs : List Value} (h : OwnR w S e size v n xs) {p : Nat} {t : TypeId} {cs : List Value} (hp : Blk w p t cs) (ht : e ≠ t) : ∀ g, v.ownBlock = some g → g ≠ p := by
  rintro g hg rfl
  rcases h.1.2 with ⟨rfl, _⟩ | ⟨g', cap, cur, rfl, _, hb, _⟩
  · cases hg
  · obtain rfl : g' = g := by simpa [Value.ownBlock] using hg
    unfold Blk at hp
    rw [hp] at hb
    cases hb; exact ht rfl
theorem OwnR.map {w : World} {S : Nat → Prop} {e size : Nat} {v : Value} {n : Nat} {xs : List Value} (h : OwnR w S e size v n xs) {b m : Nat} {f : Int → List UInt8} (hp : IsMap w b m f) : ∀ g, v.ownBlock = some g → g ≠ b := by
  rintro g hg rfl
  rcases h.1.2 with ⟨rfl, _⟩ | ⟨g', cap, cur, rfl, _, hb, _⟩
  · cases hg
  · obtain rfl : g' = g := by simpa [Value.ownBlock] using hg
    obtain ⟨D, ⟨es, clock, hb', _⟩, _⟩ := hp
    rw [hb] at hb'; cases hb'
section
variable {w w' : World} {S : Nat → Prop} {p b n : Nat} {f : Int → List UInt8} {qs : List Nat} {bv : Value} {st : DSt}
theorem RefAt.cells (h : RefAt w S p b n f qs bv st) : w.cell? ⟨p, 0, none⟩ = some (.int .i64 (st.last.length : Int)) ∧ w.cell? ⟨p, 1, none⟩ = some (.map (some b)) ∧ w.cell? ⟨p, 2, none⟩ = some bv ∧ w.cell? ⟨p, 3, none⟩ = some (.int .i64 st.armed) ∧ w.cell? ⟨p, 4, none⟩ = some (.bool st.down) :=
  ⟨h.obj.is rfl, h.obj.is rfl, h.obj.is rfl, h.obj.is rfl, h.obj.is rfl⟩
theorem RefAt.keep {T S' : Nat → Prop} (h : RefAt w S p b n f qs bv st) (hm : Mod T w w') (hT : ∀ k, S k → ¬ T k) (hS : ∀ k, S k → S' k) (hlt : ∀ k, S' k → k < w'.heap.size) : RefAt w' S' p b n f qs bv st where
  obj := hm.blk h.obj (hT _ h.own)
  own := hS _ h.own
  ownb := hS _ h.ownb
  map := h.map.keep hm (hT _ h.ownb)
  last := h.last
  buf := h.buf.kept hm (fun g hg => hT _ (h.buf.2 g hg)) hS
  dat := fun k x q hx hq => ⟨hS _ (h.dat k x q hx hq).1, hm.blk (h.dat k x q hx hq).2 (hT _ (h.dat k x q hx hq).1)⟩
  len := h.len
  ok := h.ok
  lt := hlt
/-- a store into the object's own cells -/
theorem RefAt.obj' (h : RefAt w S p b n f qs bv st) (hm : Mod (fun k => k = p) w w') {a : Int} {d : Bool}
    (hb : Blk w' p 113 [.int .i64 (st.last.length : Int), .map (some b), bv, .int .i64 a, .bool d]) (ha : -1 ≤ a ∧ a ≤ 9223372036854775807) : RefAt w' S p b n f qs bv { st with armed := a, down := d } where
  obj := hb
  own := h.own
  ownb := h.ownb
  map := h.map.keep hm (fun e => h.map.ne h.obj e.symm)
  last := h.last
  buf := h.buf.kept hm (fun g hg e => h.buf.far h.obj (by decide) g hg e) (fun _ h => h)
  dat := fun k x q hx hq => ⟨(h.dat k x q hx hq).1, hm.blk (h.dat k x q hx hq).2 (Blk.types (h.dat k x q hx hq).2 h.obj (by decide))⟩
  len := h.len
  ok := ⟨h.ok.one, h.ok.most, h.ok.sec, h.ok.wait, ha⟩
  lt := fun k hk => Nat.lt_of_lt_of_le (h.lt k hk) hm.size
/-- the buffer is struck -/
theorem RefAt.struck (h : RefAt w S p b n f qs bv st) (hm : Mod (fun k => k = p) w w') {a : Int} {d : Bool}
    (hb : Blk w' p 113 [.int .i64 (st.last.length : Int), .map (some b), .slice none 0 0, .int .i64 a, .bool d]) (ha : -1 ≤ a ∧ a ≤ 9223372036854775807) : RefAt w' S p b n f [] (.slice none 0 0) { last := st.last, waits := [], armed := a, down := d } where
  obj := hb
  own := h.own
  ownb := h.ownb
  map := h.map.keep hm (fun e => h.map.ne h.obj e.symm)
  last := h.last
  buf := ⟨World.ownsRow_nil _ _ _ _, fun g hg => by cases hg⟩
  dat := fun k x q hx _ => by simp at hx
  len := rfl
  ok := ⟨h.ok.one, h.ok.most, h.ok.sec, fun x hx => by simp at hx, ha⟩
  lt := fun k hk => Nat.lt_of_lt_of_le (h.lt k hk) hm.size
end
theorem IsRef.keep {w w' : World} {S T : Nat → Prop} {p N : Nat} {st : DSt} (h : IsRef w S p N st) (hm : Mod T w w') (hT : ∀ k, S k → ¬ T k) : IsRef w' S p N st := by
  obtain ⟨b, n, f, qs, bv, h, hn⟩ := h
  exact ⟨b, n, f, qs, bv, h.keep hm hT (fun _ h => h) (fun k hk => Nat.lt_of_lt_of_le (h.lt k hk) hm.size), hn⟩
def RefPost (v : Value) (S : Nat → Prop) (p N : Nat) (st : DSt) (T : Nat → Prop) (w : World) (e : Ending) (w' : World) : Prop :=
  e = .returned v ∧ IsRef w' S p N st ∧ Mod T w w'

def RNewPost (n : Nat) (w : World) (e : Ending) (w' : World) : Prop :=
  ∃ p S, e = .returned (.pointer (some ⟨p, 0, none⟩)) ∧ IsRef w' S p 0 (DSt.new n) ∧ Mod None w w' ∧ ∀ k, S k → w.heap.size ≤ k
theorem rnew_end (w : World) (n : Nat) (hn : 1 ≤ n ∧ n ≤ 65536) (C : Array Value) (hC : C = #[.int .i64 (n : Int), .map (some w.heap.size), .slice none 0 0, .int .i64 (-1), .bool false]) (q : Nat) (hq : q = w.heap.size + 1) :
    RNewPost n w (.returned (.pointer (some ⟨q, 0, none⟩))) ((w.alloc (.map #[] 0)).alloc (.cells C 113)) := by
  subst hC hq
  have hs : (w.alloc (.map #[] 0)).heap.size = w.heap.size + 1 := by simp
  have hb := Blk.new (w.alloc (.map #[] 0)) 113 #[.int .i64 (n : Int), .map (some w.heap.size), .slice none 0 0, .int .i64 (-1), .bool false]
  rw [hs] at hb
  refine ⟨_, fun k => w.heap.size ≤ k ∧ k < w.heap.size + 2, rfl, ⟨w.heap.size, 0, fun _ => [], [], .slice none 0 0, ?_, by simp [DSt.new]⟩, ((Mod.refl _ _).alloc _).alloc _, fun k hk => hk.1⟩
  refine ⟨?_, ⟨by omega, by omega⟩, ⟨by omega, by omega⟩, (ismap_made w).keep ((Mod.refl None _).alloc _) (fun h => h), fun i s hs => ?_, ⟨World.ownsRow_nil _ _ _ _, fun g hg => by cases hg⟩, fun k x q hx _ => by simp [DSt.new] at hx, rfl, DSt.new_ok n hn.1 hn.2, fun k hk => by simp; omega⟩
  · simpa [DSt.new] using hb
  · have : s = zeros64 := by
      simp only [DSt.new, List.getElem?_replicate] at hs
      split at hs
      · simpa using hs.symm
      · cases hs
    subst this
    exact ⟨by decide, by simp⟩
set_option maxRecDepth 100000 in
set_option maxHeartbeats 400000 in
theorem rnew_any (w : World) (s : Int) (n : Nat) (hn : (n : Int) = min (max s 1) 65536) : Calls Try.prog 37 #[.int .i64 s] w (RNewPost n w) := by
  have h1 : 1 ≤ n ∧ n ≤ 65536 := by omega
  have HE := hid (rnew_end w n h1)
  have hmm := @run_makeMap Try.prog
  by_cases ha : s < 1
  · obtain rfl : n = 1 := by omega
    clear hn h1
    go_enter Try.func37, Try.ntmps37
    go_wp2
    go_ret
    exact HE.out _ rfl _ (by simp)
  · by_cases hb : 65536 < s
    · obtain rfl : n = 65536 := by omega
      clear hn h1
      go_enter Try.func37, Try.ntmps37
      go_wp2
      go_ret
      exact HE.out _ rfl _ (by simp)
    · obtain rfl : s = n := by omega
      clear hn h1
      go_enter Try.func37, Try.ntmps37
      go_wp2
      go_ret
      exact HE.out _ rfl _ (by simp)

set_option maxHeartbeats 400000 in
theorem change_any (w : World) (S : Nat → Prop) (p N : Nat) (st : DSt) (h : IsRef w S p N st) (hd : st.down = false) :
    Calls Try.prog 70 #[.pointer (some ⟨p, 0, none⟩)] w (RefPost (.tuple #[]) S p N st.changed (fun k => k = p) w) := by
  obtain ⟨b, n, f, qs, bv, h, hn⟩ := h
  obtain ⟨_, _, _, h3, h4⟩ := h.cells
  have f3 := h.obj.free 3
  have f4 := h.obj.free 4
  have H := hid h
  have HN := hid hn
  have harm := h.ok.arm
  rw [hd] at h4
  have HD := hid hd
  clear h hn hd
  obtain ⟨arm, ha⟩ : ∃ arm, arm = st.armed := ⟨_, rfl⟩
  rw [← ha] at h3 harm
  have HA := hid ha
  clear ha
  have m1 : ∀ v, Mod (fun k => k = p) w (w.setCell ⟨p, 3, none⟩ v) := fun v => Mod.set (S := fun k => k = p) (Mod.refl _ _) (.inl rfl) _
  have M1 := hid m1
  have M2 := hid (fun v u => Mod.set (S := fun k => k = p) (m1 v) (p := ⟨p, 4, none⟩) (.inl rfl) u)
  clear m1
  by_cases hlt : 0 < arm
  · by_cases h1 : arm = 1
    · subst h1
      have HS := hid (show st.changed = { st with armed := 0, down := true } by unfold DSt.changed; rw [← HA.out, if_pos (by decide)]; rfl)
      clear hlt
      go_enter Try.func70, Try.ntmps70
      go_wp2
      go_end0
      refine ⟨rfl, ?_, M2.out _ _⟩
      rw [HS.out]
      exact ⟨b, n, f, qs, bv, H.out.obj' (M2.out _ _) ((H.out.obj.set 3 _).set 4 _) (by omega), HN.out⟩
    · have HS := hid (show st.changed = { st with armed := arm - 1, down := false } by
        unfold DSt.changed; rw [← HA.out, if_pos hlt]
        have : (arm - 1 == 0) = false := by simp; omega
        rw [this])
      have h0 : ¬ arm - 1 = 0 := by omega
      go_enter Try.func70, Try.ntmps70
      go_wp2
      go_end0
      refine ⟨rfl, ?_, M1.out _⟩
      rw [HS.out]
      have hb := H.out.obj.set 3 (.int .i64 (arm - 1))
      rw [HD.out] at hb
      exact ⟨b, n, f, qs, bv, H.out.obj' (M1.out _) hb (by omega), HN.out⟩
  · have HS := hid (show st.changed = st by unfold DSt.changed; rw [← HA.out, if_neg hlt])
    go_enter Try.func70, Try.ntmps70
    go_wp2
    go_end0
    exact ⟨rfl, by rw [HS.out]; exact ⟨b, n, f, qs, bv, H.out, HN.out⟩, Mod.refl _ _⟩

set_option maxHeartbeats 400000 in
theorem rarm_any (w : World) (S : Nat → Prop) (p N : Nat) (st : DSt) (h : IsRef w S p N st) (m : Int) (hm : m ≤ 9223372036854775807) :
    Calls Try.prog 40 #[.pointer (some ⟨p, 0, none⟩), .int .i64 m] w (RefPost (.tuple #[]) S p N (st.arm' m) (fun k => k = p) w) := by
  obtain ⟨b, n, f, qs, bv, h, hn⟩ := h
  obtain ⟨_, _, _, h3, h4⟩ := h.cells
  have f3 := h.obj.free 3
  have f4 := h.obj.free 4
  have H := hid h
  have HN := hid hn
  clear h hn
  have m1 : ∀ v, Mod (fun k => k = p) w (w.setCell ⟨p, 3, none⟩ v) := fun v => Mod.set (S := fun k => k = p) (Mod.refl _ _) (.inl rfl) _
  have M1 := hid m1
  have M2 := hid (fun v u => Mod.set (S := fun k => k = p) (m1 v) (p := ⟨p, 4, none⟩) (.inl rfl) u)
  clear m1
  by_cases hd : st.down = true
  · have HS := hid (show st.arm' m = st by unfold DSt.arm'; rw [if_pos hd])
    rw [hd] at h4
    clear hd hm
    go_enter Try.func40, Try.ntmps40
    go_wp2
    go_end0
    exact ⟨rfl, by rw [HS.out]; exact ⟨b, n, f, qs, bv, H.out, HN.out⟩, Mod.refl _ _⟩
  · rw [Bool.not_eq_true] at hd
    rw [hd] at h4
    have HD := hid hd
    have ha : st.arm' m = { st with armed := max m (-1), down := m == 0 } := by unfold DSt.arm'; rw [if_neg (by simp [hd])]
    clear hd
    by_cases hneg : m < 0
    · have HS := hid (show st.arm' m = { st with armed := -1, down := false } by
        rw [ha, show max m (-1) = -1 by omega, show (m == 0) = false by simp; omega])
      clear ha hm
      go_enter Try.func40, Try.ntmps40
      go_wp2
      go_end0
      refine ⟨rfl, ?_, M1.out _⟩
      rw [HS.out]
      have hb := H.out.obj.set 3 (.int .i64 (-1))
      rw [HD.out] at hb
      exact ⟨b, n, f, qs, bv, H.out.obj' (M1.out _) hb (by omega), HN.out⟩
    · by_cases h0 : m = 0
      · subst h0
        have HS := hid (show st.arm' 0 = { st with armed := 0, down := true } by rw [ha]; rfl)
        clear ha hm hneg
        go_enter Try.func40, Try.ntmps40
        go_wp2
        go_end0
        refine ⟨rfl, ?_, M2.out _ _⟩
        rw [HS.out]
        exact ⟨b, n, f, qs, bv, H.out.obj' (M2.out _ _) ((H.out.obj.set 3 _).set 4 _) (by omega), HN.out⟩
      · have HS := hid (show st.arm' m = { st with armed := m, down := false } by
          rw [ha, show max m (-1) = m by omega, show (m == 0) = false by simp; omega])
        have HB := hid (show -1 ≤ m ∧ m ≤ 9223372036854775807 by omega)
        clear ha hm
        go_enter Try.func40, Try.ntmps40
        go_wp2
        go_end0
        refine ⟨rfl, ?_, M1.out _⟩
        rw [HS.out]
        have hb := H.out.obj.set 3 (.int .i64 m)
        rw [HD.out] at hb
        exact ⟨b, n, f, qs, bv, H.out.obj' (M1.out _) hb HB.out, HN.out⟩
end Go.Proofs.Ytdhhpnfdnoaihaa
