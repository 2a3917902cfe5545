import Derived.Test.YtdhhpnfdnoaihaaY7
/-! S5 -/
/- An area's sectors; a frame that fits an area, and one that doesn't. -/
namespace Go.Proofs.Ytdhhpnfdnoaihaa
open Go.RowKit

def halfN (st : DSt) : Nat := (st.last.length - 2) / 2
def fromN (st : DSt) (area : Nat) : Nat := 2 + area * halfN st
def toN (st : DSt) (area : Nat) : Nat := 2 + area * halfN st + halfN st
theorem place_in {st : DSt} {area : Nat} (h : 4 ≤ st.last.length) (ha : area ≤ 1) : fromN st area ≤ toN st area ∧ toN st area ≤ st.last.length ∧ 2 ≤ fromN st area ∧ toN st area - fromN st area = halfN st := by
  unfold fromN toN
  rcases (show area = 0 ∨ area = 1 by omega) with rfl | rfl <;> unfold halfN <;> omega
set_option maxRecDepth 100000 in
theorem place_any {w0 w : World} {S : Nat → Prop} {p : Nat} {st : DSt} (h : Live w0 w S p st) (h4 : 4 ≤ st.last.length) (area : Nat) (ha : area ≤ 1) :
    Calls Try.prog 86 #[.pointer (some ⟨p, 0, none⟩), .int .i64 (area : Int)] w fun e w' => e = .returned (.tuple #[.int .i64 (fromN st area : Int), .int .i64 (toN st area : Int)]) ∧ w = w' := by
  have HS := hid (live_size h)
  have hmost := h.ok.most
  have HF := hid (show fromN st area = 2 + area * halfN st from rfl)
  have HT := hid (show toN st area = 2 + area * halfN st + halfN st from rfl)
  have hh : ((st.last.length : Int) - 2) / 2 = (halfN st : Int) := by unfold halfN; omega
  have hw1 : IntKind.i64.wrap ((st.last.length : Int) - 2) = (st.last.length : Int) - 2 := by rw [IntKind.wrap_i64]; omega
  have hN : halfN st ≤ 65536 := by unfold halfN; omega
  have hp : (area : Int) * (halfN st : Int) = ((area * halfN st : Nat) : Int) := by simp
  have hpl : area * halfN st ≤ 65536 := by
    rcases (show area = 0 ∨ area = 1 by omega) with rfl | rfl <;> omega
  have hn2 : (2 : Int) ≤ (st.last.length : Int) := by omega
  clear h h4
  generalize halfN st = hf at *
  generalize st.last.length = n at *
  generalize area * hf = ah at *
  have hw2 : IntKind.i64.wrap ((area : Int) * (hf : Int)) = (ah : Int) := by rw [hp, IntKind.wrap_i64]; omega
  have hw3 : IntKind.i64.wrap (2 + (ah : Int)) = 2 + (ah : Int) := by rw [IntKind.wrap_i64]; omega
  have hw4 : IntKind.i64.wrap (2 + (ah : Int) + (hf : Int)) = 2 + (ah : Int) + (hf : Int) := by rw [IntKind.wrap_i64]; omega
  go_enter Try.func86, Try.ntmps86
  go_wp2_with fail
  refine HS.out.mono ?_
  rintro e w1 ⟨rfl, rfl⟩
  go_wp2_with fail
  rw [show ((fromN st area : Nat) : Int) = 2 + (ah : Int) by rw [HF.out]; omega, show ((toN st area : Nat) : Int) = 2 + (ah : Int) + (hf : Int) by rw [HT.out]; omega]
  go_ret2
  exact ⟨rfl, rfl⟩
def fits (st : DSt) (en n : Nat) : Prop := n ≤ 1048576 ∧ en + n + 16 ≤ 64 * halfN st
instance (st : DSt) (en n : Nat) : Decidable (fits st en n) := inferInstanceAs (Decidable (_ ∧ _))
def AppendR (w0 w : World) (S : Nat → Prop) (p j fr to en ct : Nat) (b : List UInt8) (st : DSt) (e : Ending) (w' : World) : Prop :=
  ∃ S', Mod (fun x => S x ∨ x = j) w w' ∧ (∀ x, x < w.heap.size → S' x → S x) ∧
    ((fits st en b.length ∧ e = .returned (.int .i64 0) ∧ Live w0 w' S' p (st.append fr en b).1 ∧ IsJ w' j p fr to ((en + b.length + 16 : Nat) : Int) ((ct + 1 : Nat) : Int)) ∨
     (¬ fits st en b.length ∧ (e = .returned (.int .i64 3) ∨ e = .returned (.int .i64 51)) ∧ Live w0 w' S' p st ∧ IsJ w' j p fr to (en : Int) (ct : Int)))
theorem append_rest {w0 w : World} {S : Nat → Prop} {p j : Nat} {st : DSt} (h : Live w0 w S p st) (hR : Rest st) (h4 : 4 ≤ st.last.length) {area en ct : Nat} (har : area ≤ 1) (hj : IsJ w j p (fromN st area) (toN st area) en ct) (hjS : ¬ S j) (hj0 : w0.heap.size ≤ j) (hen : en ≤ 64 * halfN st) (hct : 16 * ct ≤ en)
    (b : List UInt8) (a : Option Addr) (n c : Nat) (hn : n = b.length) (hr : Rd w a b) : Calls Try.prog 47 #[.pointer (some ⟨j, 0, none⟩), .slice a n c] w (AppendR w0 w S p j (fromN st area) (toN st area) en ct b st) := by
  subst hn
  obtain ⟨p1, p2, p3, p4⟩ := place_in h4 har
  have hmost := h.ok.most
  have hhn : halfN st ≤ 32768 := by unfold halfN; omega
  have bad : ∀ (e : Ending) (w' : World), ¬ fits st en b.length → (e = .returned (.int .i64 3) ∨ e = .returned (.int .i64 51)) → Mod None w w' → AppendR w0 w S p j (fromN st area) (toN st area) en ct b st e w' := fun e w' hf he hm =>
    ⟨S, hm.mono (fun _ _ h => h.elim), fun _ _ h => h, .inr ⟨hf, he, h.step hm, hm.blk hj (fun h => h)⟩⟩
  by_cases hl : 1048576 < b.length
  · refine (append_long w j a c b.length hl).mono ?_
    rintro e w' ⟨rfl, hm⟩
    exact bad _ _ (fun hf => by have := hf.1; omega) (.inl rfl) hm
  · by_cases hroom : en + b.length + 16 ≤ 64 * halfN st
    · obtain ⟨hz, _⟩ := hR.appended (fromN st area) (toN st area) en b ⟨p1, p2⟩ (by rw [p4]; omega)
      refine (append_ok h hj hjS hj0 a c b.length b rfl hr ⟨p1, p2⟩ (by omega) (by rw [p4]; omega) (by omega) (by omega) hR.calm.down (by rw [hR.waits]; simp) hz).mono ?_
      rintro e w' ⟨S', rfl, hl', hj', hm, hS⟩
      exact ⟨S', hm, hS, .inl ⟨⟨by omega, hroom⟩, rfl, hl', hj'⟩⟩
    · refine (append_full w j p _ _ en ct hj a c b.length (by omega) (by omega) (by omega) (by omega)).mono ?_
      rintro e w' ⟨rfl, hm⟩
      exact bad _ _ (fun hf => hroom hf.2) (.inr rfl) hm
/-- the other area is opened, with nothing in it -/
theorem jnew_any {w0 w : World} {S : Nat → Prop} {p : Nat} {st : DSt} (h : Live w0 w S p st) (hR : Rest st) (h4 : 4 ≤ st.last.length) {area : Nat} (har : area ≤ 1) :
    Calls Try.prog 44 #[.pointer (some ⟨p, 0, none⟩), .int .i64 (fromN st area : Int), .int .i64 (toN st area : Int), .int .i64 0, .int .i64 0] w fun e w' => ∃ j v, Mod None w w' ∧ e = .returned (.tuple #[.pointer (some ⟨j, 0, none⟩), v, .int .i64 0]) ∧ IsJ w' j p (fromN st area) (toN st area) ((0 : Nat) : Int) ((0 : Nat) : Int) ∧ w.heap.size ≤ j ∧ LRow w' w.heap.size v [] := by
  obtain ⟨p1, p2, p3, p4⟩ := place_in h4 har
  have ho := open_any w0 w S p st h (fromN st area) (toN st area) 0 0 ⟨p1, p2⟩ (by omega) hR.calm.down
  have e0 : jopen (Proofs.Ytdhhpnfdnoaihaa.area st (fromN st area) 0) 0 = some [] := by
    have : Proofs.Ytdhhpnfdnoaihaa.area st (fromN st area) 0 = [] := by simp [Proofs.Ytdhhpnfdnoaihaa.area]
    rw [this]; rfl
  rw [e0] at ho
  refine ho.mono ?_
  rintro e w' ⟨hm, ⟨ls, j, v, hls, rfl, hj, hlt, hrow⟩ | ⟨h, _⟩⟩
  · obtain rfl : ls = [] := by cases hls; rfl
    exact ⟨j, v, hm, rfl, hj, hlt, hrow⟩
  · cases h
end Go.Proofs.Ytdhhpnfdnoaihaa

/-! S6 -/
/- A store in memory, and what a batch makes of it. -/
namespace Go.Proofs.Ytdhhpnfdnoaihaa
open Go.RowKit

/-- what a store is -/
structure SSt where
  st : DSt
  turn : Nat
  area : Nat
  en : Nat
  ct : Nat
  has : List Ch
def SSt.h (σ : SSt) : Hf := ⟨σ.turn, σ.area, σ.en, σ.ct⟩
structure SSt.Ok (σ : SSt) : Prop where
  rest : Rest σ.st
  four : 4 ≤ σ.st.last.length
  most : σ.st.last.length ≤ 65536
  ar : σ.area ≤ 1
  en : σ.en ≤ 64 * halfN σ.st
  ct : 16 * σ.ct ≤ σ.en
  ris : Rising σ.has
def SSt.next (σ : SSt) (area en ct : Nat) (b : List UInt8) (has : List Ch) : SSt :=
  { st := (σ.st.append (fromN σ.st area) en b).1.cset (σ.turn % 2) ⟨σ.turn + 1, area, (en + b.length + 16 : Nat), (ct + 1 : Nat)⟩, turn := σ.turn + 1, area := area, en := en + b.length + 16, ct := ct + 1, has := has }
/-- a batch -/
def SSt.commit (σ : SSt) (l : List Ch) : SSt × Int :=
  if fits σ.st σ.en (encL l).length then (σ.next σ.area σ.en σ.ct (encL l) (allL σ.has l), 0)
  else if fits σ.st 0 (encL (allL σ.has l)).length then (σ.next (1 - σ.area) 0 0 (encL (allL σ.has l)) (allL σ.has l), 0)
  else (σ, 51)
theorem SSt.next_ok {σ : SSt} (h : σ.Ok) {area en ct : Nat} {b : List UInt8} {has : List Ch} (ha : area ≤ 1) (hf : fits σ.st en b.length) (hct : 16 * ct ≤ en) (hr : Rising has) :
    (σ.next area en ct b has).Ok ∧ (σ.next area en ct b has).st.last.length = σ.st.last.length ∧ Rest (σ.st.append (fromN σ.st area) en b).1 ∧ (σ.st.append (fromN σ.st area) en b).1.last.length = σ.st.last.length := by
  obtain ⟨p1, p2, p3, p4⟩ := place_in h.four ha
  obtain ⟨q1, q2, q3, q4⟩ := h.rest.appended (fromN σ.st area) (toN σ.st area) en b ⟨p1, p2⟩ (by rw [p4]; have := hf.2; omega)
  have h4 := h.four
  have hl : (σ.next area en ct b has).st.last.length = σ.st.last.length := by
    show ((σ.st.append (fromN σ.st area) en b).1.cset _ _).last.length = _
    rw [cset_len, q3]
  have hh : halfN (σ.next area en ct b has).st = halfN σ.st := by unfold halfN; rw [hl]
  refine ⟨⟨(q2.cset _ (by rw [q3]; omega) _).2.2, by rw [hl]; exact h4, by rw [hl]; exact h.most, ha, ?_, ?_, hr⟩, hl, q2, q3⟩
  · rw [hh]
    show en + b.length + 16 ≤ _
    exact hf.2
  · show 16 * (ct + 1) ≤ en + b.length + 16
    omega
theorem SSt.commit_ok {σ : SSt} (h : σ.Ok) (l : List Ch) : (σ.commit l).1.Ok ∧ (σ.commit l).1.st.last.length = σ.st.last.length := by
  unfold SSt.commit
  have hr := rising_all l h.ris
  have har := h.ar
  split
  · rename_i hf
    obtain ⟨a, b, _⟩ := SSt.next_ok (has := allL σ.has l) h h.ar hf h.ct hr
    exact ⟨a, b⟩
  · split
    · rename_i hf
      obtain ⟨a, b, _⟩ := SSt.next_ok (area := 1 - σ.area) (ct := 0) (has := allL σ.has l) h (by omega) hf (by omega) hr
      exact ⟨a, b⟩
    · exact ⟨h, rfl⟩
/-- the store at s, on the disk at p, with the cell at c and the journal at j; v is its row -/
structure StoreAt (w0 w : World) (S : Nat → Prop) (s p c j : Nat) (v : Value) (σ : SSt) : Prop where
  live : Live w0 w S p σ.st
  obj : Blk w s 132 [.pointer (some ⟨p, 0, none⟩), .pointer (some ⟨c, 0, none⟩), .pointer (some ⟨j, 0, none⟩), .int .i64 (σ.area : Int), v]
  cell : IsCell w c p 0 σ.h
  log : IsJ w j p (fromN σ.st σ.area) (toN σ.st σ.area) σ.en σ.ct
  row : w.ownsRow 0 89 3 v σ.has.length (rowC σ.has)
  sS : ¬ S s
  cS : ¬ S c
  jS : ¬ S j
  vS : ∀ g, v.ownBlock = some g → ¬ S g
  s0 : w0.heap.size ≤ s
  c0 : w0.heap.size ≤ c
  j0 : w0.heap.size ≤ j
  v0 : ∀ g, v.ownBlock = some g → w0.heap.size ≤ g
  ok : σ.Ok
section
variable {w0 w w' : World} {S : Nat → Prop} {s p c j : Nat} {v : Value} {σ : SSt}
theorem StoreAt.step (h : StoreAt w0 w S s p c j v σ) (hm : Mod None w w') : StoreAt w0 w' S s p c j v σ where
  live := h.live.step hm
  obj := hm.blk h.obj (fun h => h)
  cell := hm.blk h.cell (fun h => h)
  log := hm.blk h.log (fun h => h)
  row := (OwnR.kept (S := fun _ => True) (S' := fun _ => True) ⟨h.row, fun _ _ => trivial⟩ hm (fun _ _ e => e) (fun _ h => h)).1
  sS := h.sS
  cS := h.cS
  jS := h.jS
  vS := h.vS
  s0 := h.s0
  c0 := h.c0
  j0 := h.j0
  v0 := h.v0
  ok := h.ok
theorem StoreAt.shape (h : StoreAt w0 w S s p c j v σ) : ∃ a n, v = .slice a σ.has.length n ∧ RdV w a (rowC σ.has) := by
  have h1 : OwnR w (fun _ => True) 89 3 v σ.has.length (rowC σ.has) := ⟨h.row, fun _ _ => trivial⟩
  obtain ⟨a, n, e, _⟩ := h1.shape
  exact ⟨a, n, e, h1.rdv e⟩
theorem StoreAt.cells (h : StoreAt w0 w S s p c j v σ) : w.cell? ⟨s, 0, none⟩ = some (.pointer (some ⟨p, 0, none⟩)) ∧ w.cell? ⟨s, 1, none⟩ = some (.pointer (some ⟨c, 0, none⟩)) ∧ w.cell? ⟨s, 2, none⟩ = some (.pointer (some ⟨j, 0, none⟩)) ∧ w.cell? ⟨s, 3, none⟩ = some (.int .i64 (σ.area : Int)) ∧ w.cell? ⟨s, 4, none⟩ = some v :=
  ⟨h.obj.is rfl, h.obj.is rfl, h.obj.is rfl, h.obj.is rfl, h.obj.is rfl⟩
end
def CommitR (w0 w : World) (S : Nat → Prop) (s p c j : Nat) (v : Value) (r : SSt × Int) (e : Ending) (w' : World) : Prop :=
  ∃ S' j' v', e = .returned (.int .i64 r.2) ∧ StoreAt w0 w' S' s p c j' v' r.1 ∧ Mod (fun k => S k ∨ k = s ∨ k = c ∨ k = j) w w' ∧ (∀ k, k < w.heap.size → S' k → S k) ∧ (j' = j ∨ w.heap.size ≤ j') ∧ ∀ g, v'.ownBlock = some g → g < w.heap.size → v.ownBlock = some g
/-- ahead of the cell's Set: the frame stands in its area -/
structure Mid (w0 w wt : World) (S S3 : Nat → Prop) (s p c j jj : Nat) (v0 v : Value) (σ : SSt) (area en ct : Nat) (L : List Ch) (st1 : DSt) : Prop where
  live : Live w0 wt S3 p st1
  rest : Rest st1
  len : st1.last.length = σ.st.last.length
  obj : Blk wt s 132 [.pointer (some ⟨p, 0, none⟩), .pointer (some ⟨c, 0, none⟩), .pointer (some ⟨j, 0, none⟩), .int .i64 (σ.area : Int), v0]
  cell : IsCell wt c p 0 σ.h
  log : IsJ wt jj p (fromN σ.st area) (toN σ.st area) en ct
  row : wt.ownsRow 0 89 3 v L.length (rowC L)
  mod : Mod (fun k => S k ∨ k = s ∨ k = c ∨ k = j) w wt
  old : ∀ k, k < w.heap.size → S3 k → S k
  sS : ¬ S3 s
  cS : ¬ S3 c
  jS : ¬ S3 jj
  s0 : w0.heap.size ≤ s
  c0 : w0.heap.size ≤ c
  j0 : w0.heap.size ≤ jj
  jn : jj = j ∨ w.heap.size ≤ jj
  vn : ∀ g, v.ownBlock = some g → w.heap.size ≤ g ∧ w0.heap.size ≤ g ∧ ¬ S3 g
theorem row_blk {w : World} {v : Value} {n : Nat} {xs : List Value} (h : w.ownsRow 0 89 3 v n xs) {g : Nat} (hg : v.ownBlock = some g) : ∃ cs, Blk w g 89 cs := by
  rcases h.2 with ⟨rfl, _⟩ | ⟨g', cap, cur, rfl, _, hb, _⟩
  · cases hg
  · obtain rfl : g' = g := by simpa [Value.ownBlock] using hg
    exact ⟨cur.toList, by unfold Blk; exact hb⟩
theorem row_kept {w w' : World} {T : Nat → Prop} {v : Value} {n : Nat} {xs : List Value} (h : w.ownsRow 0 89 3 v n xs) (hm : Mod T w w') (hT : ∀ g, v.ownBlock = some g → ¬ T g) : w'.ownsRow 0 89 3 v n xs :=
  (OwnR.kept (S := fun _ => True) (S' := fun _ => True) ⟨h, fun _ _ => trivial⟩ hm hT (fun _ h => h)).1
/-- .. and behind all -/
theorem Mid.done {w0 w wt w4 : World} {S S3 S4 : Nat → Prop} {s p c j jj : Nat} {v0 v : Value} {σ : SSt} {area en ct : Nat} {L : List Ch} {st1 st2 : DSt} {σ' : SSt} (h : Mid w0 w wt S S3 s p c j jj v0 v σ area en ct L st1)
    (hl : Live w0 w4 S4 p st2) (hc : IsCell w4 c p 0 σ'.h) (hm : Mod (fun k => S3 k ∨ k = c) wt w4) (ho : ∀ k, k < wt.heap.size → S4 k → S3 k)
    (e1 : σ'.st = st2) (e2 : st2.last.length = st1.last.length) (e3 : σ'.area = area) (e4 : σ'.en = en) (e5 : σ'.ct = ct) (e6 : σ'.has = L) (hok : σ'.Ok) :
    CommitR w0 w S s p c j v0 (σ', 0) (.returned (.int .i64 0)) (((w4.setCell ⟨s, 3, none⟩ (.int .i64 (area : Int))).setCell ⟨s, 2, none⟩ (.pointer (some ⟨jj, 0, none⟩))).setCell ⟨s, 4, none⟩ v) := by
  subst e1 e3 e4 e5 e6
  have hsl := h.obj.lt
  have hcl := Blk.lt h.cell
  have hjl := Blk.lt h.log
  have hsc : s ≠ c := h.obj.types h.cell (by decide)
  have hjc : jj ≠ c := Blk.types h.log h.cell (by decide)
  have hsj : s ≠ jj := h.obj.types h.log (by decide)
  have hvb : ∀ g, v.ownBlock = some g → g ≠ s ∧ g ≠ c ∧ g < wt.heap.size := fun g hg => by
    obtain ⟨cs, hb⟩ := row_blk h.row hg
    exact ⟨hb.types h.obj (by decide), hb.types h.cell (by decide), hb.lt⟩
  have hs4 : ¬ S4 s := fun hs => h.sS (ho s hsl hs)
  have hobj := hm.blk h.obj (fun e => e.elim h.sS hsc)
  have hlog := hm.blk h.log (fun e => e.elim h.jS hjc)
  have hrow := row_kept h.row hm (fun g hg e => e.elim (h.vn g hg).2.2 (hvb g hg).2.1)
  have hst : Mod (fun k => k = s) w4 (((w4.setCell ⟨s, 3, none⟩ (.int .i64 (σ'.area : Int))).setCell ⟨s, 2, none⟩ (.pointer (some ⟨jj, 0, none⟩))).setCell ⟨s, 4, none⟩ v) :=
    Mod.set (S := fun k => k = s) (Mod.set (S := fun k => k = s) (Mod.set (S := fun k => k = s) (Mod.refl _ _) (.inl rfl) _) (.inl rfl) _) (.inl rfl) _
  have e7 : fromN σ'.st σ'.area = fromN σ.st σ'.area ∧ toN σ'.st σ'.area = toN σ.st σ'.area := by
    unfold fromN toN halfN
    rw [e2, h.len]; exact ⟨rfl, rfl⟩
  refine ⟨S4, jj, v, rfl, ?_, ?_, fun k hk hs => h.old k hk (ho k (Nat.lt_of_lt_of_le hk h.mod.size) hs), h.jn, fun g hg hlt => by have := (h.vn g hg).1; omega⟩
  · exact {
      live := (hl.turn (T := fun k => k = s) (T' := fun k => k = s) (.same hst) (fun k hk e => by subst e; exact hs4 hk) (fun k e => by subst e; exact h.s0)).1
      obj := ((hobj.set 3 _).set 2 _).set 4 _
      cell := hst.blk hc (fun e => hsc e.symm)
      log := by rw [e7.1, e7.2]; exact hst.blk hlog (fun e => hsj e.symm)
      row := row_kept hrow hst (fun g hg => (hvb g hg).1)
      sS := hs4
      cS := fun hs => h.cS (ho c hcl hs)
      jS := fun hs => h.jS (ho jj hjl hs)
      vS := fun g hg hs => (h.vn g hg).2.2 (ho g (hvb g hg).2.2 hs)
      s0 := h.s0
      c0 := h.c0
      j0 := h.j0
      v0 := fun g hg => (h.vn g hg).2.1
      ok := hok }
  · exact (h.mod.then hm (fun k hk e => by
      rcases e with e | e
      · exact .inl (h.old k hk e)
      · exact .inr (.inr (.inl e)))).then hst (fun k _ e => .inr (.inl e))
section
variable {w0 w wt : World} {S S3 : Nat → Prop} {s p c j jj : Nat} {v0 v : Value} {σ : SSt} {area en ct : Nat} {L : List Ch} {st1 : DSt}
theorem Mid.drew (h : Mid w0 w wt S S3 s p c j jj v0 v σ area en ct L st1) : Mid w0 w wt.drew S S3 s p c j jj v0 v σ area en ct L st1 :=
  ⟨h.live.drew, h.rest, h.len, h.obj, h.cell, h.log, h.row, h.mod.drew, h.old, h.sS, h.cS, h.jS, h.s0, h.c0, h.j0, h.jn, h.vn⟩
/-- the store's own fields, as a store wants them -/
def Fields (w : World) (s c : Nat) : Prop := w.cell? ⟨s, 1, none⟩ = some (.pointer (some ⟨c, 0, none⟩)) ∧ (∃ u, w.cell? ⟨s, 2, none⟩ = some u) ∧ (∃ u, w.cell? ⟨s, 3, none⟩ = some u) ∧ (∃ u, w.cell? ⟨s, 4, none⟩ = some u) ∧ ∀ k, w.frozen? ⟨s, k, none⟩ = false
theorem Mid.obj5 (h : Mid w0 w wt S S3 s p c j jj v0 v σ area en ct L st1) : Fields wt.drew s c :=
  ⟨h.obj.is rfl, ⟨_, h.obj.is rfl⟩, ⟨_, h.obj.is rfl⟩, ⟨_, h.obj.is rfl⟩, fun k => h.obj.free k⟩
theorem Mid.objset {w4 : World} (h : Mid w0 w wt S S3 s p c j jj v0 v σ area en ct L st1) (hm : Mod (fun k => S3 k ∨ k = c) wt.drew w4) : Fields w4 s c := by
  have hb := hm.blk (b := s) h.obj (fun e => e.elim h.sS (h.obj.types h.cell (by decide)))
  exact ⟨hb.is rfl, ⟨_, hb.is rfl⟩, ⟨_, hb.is rfl⟩, ⟨_, hb.is rfl⟩, fun k => hb.free k⟩
theorem Mid.ends (h : Mid w0 w wt S S3 s p c j jj v0 v σ area en ct L st1) : Calls Try.prog 46 #[.pointer (some ⟨jj, 0, none⟩)] wt fun e w' => e = .returned (.int .i64 (en : Int)) ∧ wt = w' := end_any h.log
theorem Mid.counts (h : Mid w0 w wt S S3 s p c j jj v0 v σ area en ct L st1) : Calls Try.prog 48 #[.pointer (some ⟨jj, 0, none⟩)] wt fun e w' => e = .returned (.int .i64 (ct : Int)) ∧ wt = w' := count_any h.log
theorem Mid.sets (h : Mid w0 w wt S S3 s p c j jj v0 v σ area en ct L st1) (h4 : 4 ≤ σ.st.last.length) (ht : σ.turn ≤ 1000000000) (ha : area ≤ 1) (he : en ≤ 4194304) (hc : ct ≤ 4194304) :
    Calls Try.prog 90 #[.pointer (some ⟨c, 0, none⟩), V3 (area : Int) (en : Int) (ct : Int)] wt (SetPost w0 wt S3 p c 0 ⟨(σ.turn : Int) + 1, area, en, ct⟩ (st1.cset (σ.turn % 2) ⟨(σ.turn : Int) + 1, area, en, ct⟩)) := by
  have hs := cset_any w0 wt S3 p c 0 st1 h.live h.rest (by have := h.len; omega) σ.h h.cell h.cS h.c0 (show (0 : Int) ≤ (σ.turn : Int) ∧ (σ.turn : Int) < 4611686018427387904 by omega) area en ct ⟨by omega, by omega⟩ ⟨by omega, by omega⟩ ⟨by omega, by omega⟩
  have e : 0 + (σ.h.t + 2).toNat % 2 = σ.turn % 2 := by show 0 + ((σ.turn : Int) + 2).toNat % 2 = σ.turn % 2; omega
  rw [e] at hs
  exact hs
end
/-- a row of changes of the call's own, which the disk does not hold -/
def NewRow (w0 w wa : World) (S : Nat → Prop) (v : Value) (L : List Ch) : Prop := wa.ownsRow 0 89 3 v L.length (rowC L) ∧ ∀ g, v.ownBlock = some g → w.heap.size ≤ g ∧ w0.heap.size ≤ g ∧ ¬ S g
section
variable {w0 w wa wb : World} {S S' : Nat → Prop} {s p c j jj : Nat} {v v0 : Value} {σ : SSt} {L : List Ch}
theorem NewRow.of (h : ChRow w wa v L) (hl : Live w0 w S p σ.st) : NewRow w0 w wa S v L :=
  ⟨h.own, fun g hg => ⟨h.new g hg, Nat.le_trans hl.2.1.size (h.new g hg), fun hs => by have := hl.lt g hs; have := h.new g hg; omega⟩⟩
theorem NewRow.step (h : NewRow w0 w wa S v L) (hm : Mod None wa wb) : NewRow w0 w wb S v L := ⟨row_kept h.1 hm (fun _ _ e => e), h.2⟩
theorem NewRow.turn (h : NewRow w0 w wa S v L) (hj : ∃ t cs, t ≠ 89 ∧ Blk wa jj t cs) (hm : Mod (fun x => S x ∨ x = jj) wa wb) (ho : ∀ x, x < wa.heap.size → S' x → S x) : NewRow w0 w wb S' v L := by
  obtain ⟨t, cs, ht, hb⟩ := hj
  refine ⟨row_kept h.1 hm (fun g hg e => ?_), fun g hg => ⟨(h.2 g hg).1, (h.2 g hg).2.1, fun hs => ?_⟩⟩
  · rcases e with e | e
    · exact (h.2 g hg).2.2 e
    · subst e
      obtain ⟨cs', hb'⟩ := row_blk h.1 hg
      exact ht (hb.uniq hb').1
  · obtain ⟨cs', hb'⟩ := row_blk h.1 hg
    exact (h.2 g hg).2.2 (ho g hb'.lt hs)
theorem NewRow.rdv (h : NewRow w0 w wa S v L) {a : Option Addr} {n : Nat} (hv : v = .slice a L.length n) : RdV wa a (rowC L) :=
  OwnR.rdv (S := fun _ => True) ⟨h.1, fun _ _ => trivial⟩ hv
/-- an Append that was refused -/
theorem StoreAt.refused (h : StoreAt w0 wa S s p c j v σ) (hm : Mod (fun x => S x ∨ x = j) wa wb) (ho : ∀ x, x < wa.heap.size → S' x → S x) (hl : Live w0 wb S' p σ.st) (hj : IsJ wb j p (fromN σ.st σ.area) (toN σ.st σ.area) σ.en σ.ct) : StoreAt w0 wb S' s p c j v σ where
  live := hl
  obj := hm.blk h.obj (fun e => e.elim h.sS (h.obj.types h.log (by decide)))
  cell := hm.blk h.cell (fun e => e.elim h.cS (Blk.types h.cell h.log (by decide)))
  log := hj
  row := row_kept h.row hm (fun g hg e => by
    rcases e with e | e
    · exact h.vS g hg e
    · obtain ⟨cs, hb⟩ := row_blk h.row hg
      exact hb.types h.log (by decide) e)
  sS := fun hs => h.sS (ho s h.obj.lt hs)
  cS := fun hs => h.cS (ho c (Blk.lt h.cell) hs)
  jS := fun hs => h.jS (ho j (Blk.lt h.log) hs)
  vS := fun g hg hs => by
    obtain ⟨cs, hb⟩ := row_blk h.row hg
    exact h.vS g hg (ho g hb.lt hs)
  s0 := h.s0
  c0 := h.c0
  j0 := h.j0
  v0 := h.v0
  ok := h.ok
theorem mid_of {w3 : World} {Sa S3 : Nat → Prop} {v1 : Value} {area en ct : Nat} {st1 : DSt} (hs : StoreAt w0 wa Sa s p c j v0 σ) (hma : Mod (fun k => S k ∨ k = s ∨ k = c ∨ k = j) w wa) (hoa : ∀ k, k < w.heap.size → Sa k → S k)
    (hja : ∃ x y z u, IsJ wa jj p x y z u) (hjS : ¬ Sa jj) (jj0 : w0.heap.size ≤ jj) (jn : jj = j ∨ w.heap.size ≤ jj) (hrow : NewRow w0 w wa Sa v1 L) (hm3 : Mod (fun x => Sa x ∨ x = jj) wa w3) (ho3 : ∀ x, x < wa.heap.size → S3 x → Sa x)
    (hl3 : Live w0 w3 S3 p st1) (hj3 : IsJ w3 jj p (fromN σ.st area) (toN σ.st area) en ct) (hr : Rest st1) (hlen : st1.last.length = σ.st.last.length) : Mid w0 w w3 S S3 s p c j jj v0 v1 σ area en ct L st1 := by
  obtain ⟨x, y, z, u, hja⟩ := hja
  have hrow3 := hrow.turn ⟨118, _, by decide, hja⟩ hm3 ho3
  exact {
    live := hl3
    rest := hr
    len := hlen
    obj := hm3.blk hs.obj (fun e => e.elim hs.sS (hs.obj.types hja (by decide)))
    cell := hm3.blk hs.cell (fun e => e.elim hs.cS (Blk.types hs.cell hja (by decide)))
    log := hj3
    row := hrow3.1
    mod := hma.then hm3 (fun k hk e => by
      rcases e with e | e
      · exact .inl (hoa k hk e)
      · subst e
        rcases jn with e | e
        · exact .inr (.inr (.inr e))
        · omega)
    old := fun k hk h => hoa k hk (ho3 k (Nat.lt_of_lt_of_le hk hma.size) h)
    sS := fun h => hs.sS (ho3 s hs.obj.lt h)
    cS := fun h => hs.cS (ho3 c (Blk.lt hs.cell) h)
    jS := fun h => hjS (ho3 jj (Blk.lt hja) h)
    s0 := hs.s0
    c0 := hs.c0
    j0 := jj0
    jn := jn
    vn := hrow3.2 }
end
end Go.Proofs.Ytdhhpnfdnoaihaa

/-! S7 -/
/- A batch is committed. -/
namespace Go.Proofs.Ytdhhpnfdnoaihaa
open Go.RowKit

theorem SSt.commit_fits {σ : SSt} {l : List Ch} (hf : fits σ.st σ.en (encL l).length) : σ.commit l = (σ.next σ.area σ.en σ.ct (encL l) (allL σ.has l), 0) := by unfold SSt.commit; rw [if_pos hf]
theorem SSt.commit_turns {σ : SSt} {l : List Ch} (hn : ¬ fits σ.st σ.en (encL l).length) (hf : fits σ.st 0 (encL (allL σ.has l)).length) : σ.commit l = (σ.next (1 - σ.area) 0 0 (encL (allL σ.has l)) (allL σ.has l), 0) := by unfold SSt.commit; rw [if_neg hn, if_pos hf]
theorem SSt.commit_full {σ : SSt} {l : List Ch} (hn : ¬ fits σ.st σ.en (encL l).length) (hf : ¬ fits σ.st 0 (encL (allL σ.has l)).length) : σ.commit l = (σ, 51) := by unfold SSt.commit; rw [if_neg hn, if_neg hf]
/-- what the tail wants of numbers -/
def TailK (σ : SSt) (area en ct : Nat) : Prop := 4 ≤ σ.st.last.length ∧ area ≤ 1 ∧ en ≤ 4194304 ∧ ct ≤ 4194304
theorem tail_k {σ : SSt} (h : σ.Ok) {area en ct n : Nat} (ha : area ≤ 1) (hf : fits σ.st en n) (hct : 16 * ct ≤ en) : TailK σ area (en + n + 16) (ct + 1) := by
  have h1 := h.most
  have h2 := hf.2
  have h3 : halfN σ.st ≤ 32767 := by unfold halfN; omega
  exact ⟨h.four, ha, by omega, by omega⟩
theorem cell_as {w : World} {c p : Nat} {f : Int} {x y : Hf} (h : IsCell w c p f x) (e : y = x) : IsCell w c p f y := by rw [e]; exact h
theorem commit_refused {w0 w wb : World} {S S' : Nat → Prop} {s p c j : Nat} {v : Value} {σ : SSt} (h : StoreAt w0 wb S' s p c j v σ) (hm : Mod (fun k => S k ∨ k = s ∨ k = c ∨ k = j) w wb) (ho : ∀ k, k < w.heap.size → S' k → S k) : CommitR w0 w S s p c j v (σ, 51) (.returned (.int .i64 51)) wb :=
  ⟨S', j, v, rfl, h, hm, ho, .inl rfl, fun _ hg _ => hg⟩
/-- a refused Append at another journal -/
theorem StoreAt.appended_fail {w0 wa wb : World} {S S' : Nat → Prop} {s p c j jj : Nat} {v : Value} {σ : SSt} {x y z u x' y' z' u' : Int} (h : StoreAt w0 wa S s p c j v σ) (hm : Mod (fun k => S k ∨ k = jj) wa wb) (ho : ∀ k, k < wa.heap.size → S' k → S k) (hl : Live w0 wb S' p σ.st) (_ : IsJ wb jj p x' y' z' u') (hjj : IsJ wa jj p x y z u) (hne : j ≠ jj) : StoreAt w0 wb S' s p c j v σ where
  live := hl
  obj := hm.blk h.obj (fun e => e.elim h.sS (h.obj.types hjj (by decide)))
  cell := hm.blk h.cell (fun e => e.elim h.cS (Blk.types h.cell hjj (by decide)))
  log := hm.blk h.log (fun e => e.elim h.jS hne)
  row := row_kept h.row hm (fun g hg e => by
    rcases e with e | e
    · exact h.vS g hg e
    · obtain ⟨cs, hb⟩ := row_blk h.row hg
      exact hb.types hjj (by decide) e)
  sS := fun hs => h.sS (ho s h.obj.lt hs)
  cS := fun hs => h.cS (ho c (Blk.lt h.cell) hs)
  jS := fun hs => h.jS (ho j (Blk.lt h.log) hs)
  vS := fun g hg hs => by
    obtain ⟨cs, hb⟩ := row_blk h.row hg
    exact h.vS g hg (ho g hb.lt hs)
  s0 := h.s0
  c0 := h.c0
  j0 := h.j0
  v0 := h.v0
  ok := h.ok
theorem fail_mod {w wa wb : World} {S Sa : Nat → Prop} {s c j jj : Nat} (hm : Mod (fun k => S k ∨ k = s ∨ k = c ∨ k = j) w wa) (hm2 : Mod (fun k => Sa k ∨ k = jj) wa wb) (hn : w.heap.size ≤ jj) (ho : ∀ k, k < w.heap.size → Sa k → S k) : Mod (fun k => S k ∨ k = s ∨ k = c ∨ k = j) w wb :=
  hm.then hm2 (fun k hk e => by
    rcases e with e | e
    · exact .inl (ho k hk e)
    · omega)
set_option maxRecDepth 100000 in
set_option maxHeartbeats 3200000 in
theorem commit_any (w0 w : World) (S : Nat → Prop) (s p c j : Nat) (v : Value) (σ : SSt) (h : StoreAt w0 w S s p c j v σ) (ht : σ.turn ≤ 1000000000) (l : List Ch) (a : Option Addr) (n k : Nat) (hn : n = l.length) (hr : RdV w a (rowC l)) (hfew : σ.has.length + l.length ≤ 900000) (hw1 : wtL l ≤ 100000000) (hw2 : wtL (allL σ.has l) ≤ 100000000) :
    Calls Try.prog 53 #[.pointer (some ⟨s, 0, none⟩), .slice a n k] w (CommitR w0 w S s p c j v (σ.commit l)) := by
  obtain ⟨va, vn, rfl, hrv⟩ := h.shape
  have HST := hid h
  have HR := hid hr
  have HN := hid hn
  have HAP := hid (apply_any w va σ.has.length vn σ.has rfl hrv h.ok.ris a n k l hn hr hfew)
  obtain ⟨c0, c1, c2, c3, c4⟩ := h.cells
  clear h hr hn hrv
  go_enter Try.func53, Try.ntmps53
  go_wp2_with fail
  refine HAP.out.mono ?_
  rintro e w1 ⟨a1, n1, rfl, h1⟩
  have H1 := hid (NewRow.of h1 HST.out.live)
  have HM1 := hid h1.mod
  have HS1 := hid (HST.out.step h1.mod)
  obtain ⟨d0, d1, d2, d3, d4⟩ := HS1.out.cells
  clear h1 HAP c0 c1 c2 c3 c4
  generalize hL : allL σ.has l = L at *
  have HLL := hid hL
  clear hL
  go_wp2_with fail
  go_quiet (fail)
  rename_i nq
  have HMQ := hid (mod_drewN w1 nq)
  have HE := hid (encode_any (w1.drewN nq) a n k l HN.out ((HM1.out.trans HMQ.out).rdv HR.out (fun _ _ h => h)) hw1)
  go_wp2_with fail
  refine HE.out.mono ?_
  rintro e w2 ⟨a2, n2, rfl, ho2, hm2⟩
  have HM2 := hid ((HM1.out.trans HMQ.out).trans hm2)
  have HS2 := hid (HS1.out.step (HMQ.out.trans hm2))
  have H2 := hid (H1.out.step (HMQ.out.trans hm2))
  have HO2 := hid ho2
  clear hm2 ho2 HE HMQ H1 HS1
  obtain ⟨ra, rc, re, hrd2⟩ := HO2.out.rd
  obtain ⟨rfl, rfl⟩ : a2 = ra ∧ n2 = rc := by injection re with e1 e2 e3; exact ⟨e1, e3⟩
  have HA := hid (append_rest HS2.out.live HS2.out.ok.rest HS2.out.ok.four HS2.out.ok.ar HS2.out.log HS2.out.jS HS2.out.j0 HS2.out.ok.en HS2.out.ok.ct (encL l) a2 (encL l).length n2 rfl hrd2)
  clear re hrd2 d0 d1 d2 d3 d4
  have HLT := hid (show ∀ k, k < w.heap.size → S k → S k from fun _ _ h => h)
  go_wp2_with fail
  refine HA.out.mono ?_
  rintro e w3 ⟨S3, hm3, hS3, ⟨hfit, rfl, hl3, hj3⟩ | ⟨hnf, he, hl3, hj3⟩⟩
  · have HNX := hid (SSt.next_ok (has := L) HS2.out.ok HS2.out.ok.ar hfit HS2.out.ok.ct (by rw [← HLL.out]; exact rising_all l HS2.out.ok.ris))
    have HMID := hid (mid_of HS2.out (HM2.out.mono (fun _ _ h => h.elim)) HLT.out ⟨_, _, _, _, HS2.out.log⟩ HS2.out.jS HS2.out.j0 (.inl rfl) H2.out hm3 hS3 hl3 hj3 HNX.out.2.2.1 HNX.out.2.2.2)
    have HK := hid (tail_k HS2.out.ok HS2.out.ok.ar hfit HS2.out.ok.ct)
    have HCM := hid (SSt.commit_fits (σ := σ) (l := l) hfit)
    clear hm3 hS3 hl3 hj3 hfit
    generalize hE1 : σ.en + (encL l).length + 16 = E at *
    generalize hC1 : σ.ct + 1 = C at *
    have HE1 := hid hE1
    have HC1 := hid hC1
    clear hE1 hC1
    have HU := hid (HMID.out.obj5)
    have HEN := hid (HMID.out.drew.ends)
    have HCT := hid (HMID.out.drew.counts)
    have HSET := hid (HMID.out.drew.sets HK.out.1 ht HK.out.2.1 HK.out.2.2.1 HK.out.2.2.2)
    obtain ⟨r1, _⟩ := HU.out
    unfold V3 at HSET
    go_wp2_with fail
    refine wp_region_held_drew (S := fun w' => w'.cell? ⟨s, 1, none⟩ = some (.pointer (some ⟨c, 0, none⟩))) (by kernel_rfl) ?_ (fun hHeld => ?_)
    · exact HU.out.1
    refine wpAnyH_take (i := 0) (oi := { dst := some 70, op := Op.move (Operand.tmp 0), type := 74, pos := "store.go:161", after := #[], guard := none }) (v := ?vo1_0) rfl (by kernel_rfl) (by kernel_rfl) (by kernel_rfl) (fun _ _ _ h => h) (Or.inl ⟨by rfl, ?yo1_0⟩) (by assumption) ?ro1_0
    case yo1_0 => (intro w hSw; (try dsimp only at hSw); go_simp; (try with_reducible rfl))
    try simp only [Act.put, List.setIfInBounds_toArray, List.set_cons_zero, List.set_cons_succ]
    refine wpAnyH_take (i := 1) (oi := { dst := some 71, op := Op.nilCheck (Operand.tmp 70), type := 0, pos := "store.go:161", after := #[{ on := 0, ground := Ground.data }], guard := none }) (v := ?vo2_1) rfl (by kernel_rfl) (by kernel_rfl) (by kernel_rfl) (fun _ _ _ h => h) (Or.inl ⟨by rfl, ?yo2_1⟩) (by assumption) ?ro2_1
    case yo2_1 => (intro w hSw; (try dsimp only at hSw); go_simp; (try with_reducible rfl))
    try simp only [Act.put, List.setIfInBounds_toArray, List.set_cons_zero, List.set_cons_succ]
    refine wpAnyH_take (i := 2) (oi := { dst := some 72, op := Op.fieldAddr 132 (Operand.tmp 71) 1, type := 0, pos := "store.go:161", after := #[{ on := 1, ground := Ground.data }], guard := none }) (v := ?vo3_2) rfl (by kernel_rfl) (by kernel_rfl) (by kernel_rfl) (fun _ _ _ h => h) (Or.inl ⟨by rfl, ?yo3_2⟩) (by assumption) ?ro3_2
    case yo3_2 => (intro w hSw; (try dsimp only at hSw); go_simp; (try with_reducible rfl))
    try simp only [Act.put, List.setIfInBounds_toArray, List.set_cons_zero, List.set_cons_succ]
    refine wpAnyH_take (i := 3) (oi := { dst := some 73, op := Op.load 126 (Operand.tmp 72), type := 126, pos := "store.go:161", after := #[{ on := 2, ground := Ground.data }], guard := none }) (v := ?vo4_3) rfl (by kernel_rfl) (by kernel_rfl) (by kernel_rfl) (fun _ _ _ h => h) (Or.inl ⟨by rfl, ?yo4_3⟩) (by assumption) ?ro4_3
    case yo4_3 => (intro w hSw; (try dsimp only at hSw); go_simp; (try with_reducible rfl))
    try simp only [Act.put, List.setIfInBounds_toArray, List.set_cons_zero, List.set_cons_succ]
    refine wpAnyH_take (i := 4) (oi := { dst := some 74, op := Op.move (Operand.tmp 6), type := 3, pos := "store.go:161", after := #[], guard := none }) (v := ?vo5_4) rfl (by kernel_rfl) (by kernel_rfl) (by kernel_rfl) (fun _ _ _ h => h) (Or.inl ⟨by rfl, ?yo5_4⟩) (by assumption) ?ro5_4
    case yo5_4 => (intro w hSw; (try dsimp only at hSw); go_simp; (try with_reducible rfl))
    try simp only [Act.put, List.setIfInBounds_toArray, List.set_cons_zero, List.set_cons_succ]
    refine wpAnyH_take (i := 5) (oi := { dst := some 75, op := Op.move (Operand.tmp 7), type := 62, pos := "store.go:161", after := #[], guard := none }) (v := ?vo6_5) rfl (by kernel_rfl) (by kernel_rfl) (by kernel_rfl) (fun _ _ _ h => h) (Or.inl ⟨by rfl, ?yo6_5⟩) (by assumption) ?ro6_5
    case yo6_5 => (intro w hSw; (try dsimp only at hSw); go_simp; (try with_reducible rfl))
    try simp only [Act.put, List.setIfInBounds_toArray, List.set_cons_zero, List.set_cons_succ]
    refine wpAnyH_take (i := 7) (oi := { dst := some 77, op := Op.move (Operand.tmp 7), type := 62, pos := "store.go:161", after := #[], guard := none }) (v := ?vo7_7) rfl (by kernel_rfl) (by kernel_rfl) (by kernel_rfl) (fun _ _ _ h => h) (Or.inl ⟨by rfl, ?yo7_7⟩) (by assumption) ?ro7_7
    case yo7_7 => (intro w hSw; (try dsimp only at hSw); go_simp; (try with_reducible rfl))
    try simp only [Act.put, List.setIfInBounds_toArray, List.set_cons_zero, List.set_cons_succ]
    refine wpAnyH_ready (rs := [6]) (by kernel_rfl) (by simp) ?_
    refine AllReadyH.cons (o := { dst := some 76, op := Op.call { callee := Callee.value (Operand.func 46), args := #[Operand.tmp 75], argTypes := #[62] }, type := 2, pos := "store.go:161", after := #[{ on := 5, ground := Ground.data }], guard := none }) rfl (fun K hK => ?_) AllReadyH.nil
    go_simp; refine HEN.out.mono ?_; rintro e w5 ⟨rfl, rfl⟩
    refine hK.out _ _ ?_ (fun hHeld => ?_)
    · exact HU.out.1
    clear hK K
    try simp only [Act.put, List.setIfInBounds_toArray, List.set_cons_zero, List.set_cons_succ]
    refine wpAnyH_ready (rs := [8]) (by kernel_rfl) (by simp) ?_
    refine AllReadyH.cons (o := { dst := some 78, op := Op.call { callee := Callee.value (Operand.func 48), args := #[Operand.tmp 77], argTypes := #[62] }, type := 2, pos := "store.go:161", after := #[{ on := 7, ground := Ground.data }, { on := 6, ground := Ground.chain }], guard := none }) rfl (fun K hK => ?_) AllReadyH.nil
    go_simp; refine HCT.out.mono ?_; rintro e w6 ⟨rfl, rfl⟩
    refine hK.out _ _ ?_ (fun hHeld => ?_)
    · exact HU.out.1
    clear hK K
    try simp only [Act.put, List.setIfInBounds_toArray, List.set_cons_zero, List.set_cons_succ]
    refine wpAnyH_take (i := 9) (oi := { dst := some 79, op := Op.build 129 #[(0, Operand.tmp 74), (1, Operand.tmp 76), (2, Operand.tmp 78)], type := 129, pos := "store.go:161", after := #[{ on := 4, ground := Ground.data }, { on := 6, ground := Ground.data }, { on := 8, ground := Ground.data }], guard := none }) (v := ?vo8_9) rfl (by kernel_rfl) (by kernel_rfl) (by kernel_rfl) (fun _ _ _ h => h) (Or.inl ⟨by rfl, ?yo8_9⟩) (by assumption) ?ro8_9
    case yo8_9 => (intro w hSw; (try dsimp only at hSw); go_simp; (try with_reducible rfl))
    try simp only [Act.put, List.setIfInBounds_toArray, List.set_cons_zero, List.set_cons_succ]
    refine wpAnyH_ready (rs := [10]) (by kernel_rfl) (by simp) ?_
    refine AllReadyH.cons (o := { dst := some 80, op := Op.call { callee := Callee.value (Operand.func 90), args := #[Operand.tmp 73, Operand.tmp 79], argTypes := #[126, 129] }, type := 40, pos := "store.go:161", after := #[{ on := 3, ground := Ground.data }, { on := 9, ground := Ground.data }, { on := 8, ground := Ground.chain }], guard := none }) rfl (fun K hK => ?_) AllReadyH.nil
    go_simp; refine HSET.out.mono ?_; rintro e w4 ⟨S4, rfl, hl4, hc4, hm4, ho4⟩; have HU := hid (HMID.out.objset hm4); have HDN := hid (fun (σ' : SSt) hh e1 e2 e3 e4 e5 e6 e7 => HMID.out.drew.done (σ' := σ') hl4 (cell_as hc4 hh) hm4 ho4 e1 e2 e3 e4 e5 e6 e7); clear hl4 hc4 hm4 ho4 HSET HEN HCT
    refine hK.out _ _ ?_ (fun hHeld => ?_)
    · exact HU.out.1
    clear hK K
    try simp only [Act.put, List.setIfInBounds_toArray, List.set_cons_zero, List.set_cons_succ]
    refine wpAnyH_take (i := 11) (oi := { dst := some 11, op := Op.assign (Operand.tmp 80), type := 40, pos := "store.go:161", after := #[{ on := 10, ground := Ground.data }, { on := 10, ground := Ground.chain }, { on := 0, ground := Ground.phase }, { on := 1, ground := Ground.phase }, { on := 2, ground := Ground.phase }, { on := 3, ground := Ground.phase }, { on := 4, ground := Ground.phase }, { on := 5, ground := Ground.phase }, { on := 6, ground := Ground.phase }, { on := 7, ground := Ground.phase }, { on := 8, ground := Ground.phase }, { on := 9, ground := Ground.phase }, { on := 10, ground := Ground.phase }], guard := none }) (v := ?vo9_11) rfl (by kernel_rfl) (by kernel_rfl) (by kernel_rfl) (fun _ _ _ h => h) (Or.inl ⟨by rfl, ?yo9_11⟩) (by assumption) ?ro9_11
    case yo9_11 => (intro w hSw; (try dsimp only at hSw); go_simp; (try with_reducible rfl))
    try simp only [Act.put, List.setIfInBounds_toArray, List.set_cons_zero, List.set_cons_succ]
    refine wpAnyH_done (by kernel_rfl) ?_ _
    obtain ⟨g1, ⟨_, g2⟩, ⟨_, g3⟩, ⟨_, g4⟩, gf⟩ := HU.out
    go_wp2_with fail
    go_ret
    rw [HCM.out]
    exact HDN.out (σ.next σ.area σ.en σ.ct (encL l) (allL σ.has l)) (by rw [← HE1.out, ← HC1.out]; rfl) (by rw [← HE1.out, ← HC1.out]; rfl) (cset_len _ _ _) rfl HE1.out HC1.out HLL.out (by rw [HLL.out]; exact HNX.out.1)
  · have HSR := hid (HS2.out.refused hm3 hS3 hl3 hj3)
    have HRW := hid (H2.out.turn (jj := j) ⟨118, _, by decide, HS2.out.log⟩ hm3 hS3)
    have HNF := hid hnf
    have HM3 := hid (show Mod (fun k => S k ∨ k = s ∨ k = c ∨ k = j) w w3 from (HM2.out.mono (fun _ _ h => h.elim)).then hm3 (fun k _ e => e.elim .inl (fun e => .inr (.inr (.inr e)))))
    have HO3 := hid (show ∀ k, k < w.heap.size → S3 k → S k from fun k hk h => hS3 k (Nat.lt_of_lt_of_le hk HM2.out.size) h)
    have har := HS2.out.ok.ar
    obtain ⟨ar, har2⟩ : ∃ ar, ar = 1 - σ.area := ⟨_, rfl⟩
    have HAR := hid har2
    have hw11 : IntKind.i64.wrap (1 - (σ.area : Int)) = (ar : Int) := by rw [IntKind.wrap_i64]; omega
    have ha1 : ar ≤ 1 := by omega
    clear hm3 hS3 hl3 hj3 hnf HA har2 H2
    obtain ⟨d0, d1, d2, d3, d4⟩ := HSR.out.cells
    have HPL := hid (place_any HSR.out.live HSR.out.ok.four ar ha1)
    rcases he with rfl | rfl
    · go_wp2_with fail
      refine HPL.out.mono ?_
      rintro e w4 ⟨rfl, rfl⟩
      go_wp2_with fail
      refine (jnew_any HSR.out.live HSR.out.ok.rest HSR.out.ok.four ha1).mono ?_
      rintro e w5 ⟨j5, v5, hm5, rfl, hj5, hn5, _⟩
      have HS5 := hid (HSR.out.step hm5)
      have HJ5 := hid hj5
      have HN5 := hid (show w.heap.size ≤ j5 from Nat.le_trans HM3.out.size hn5)
      have HRW5 := hid (HRW.out.step hm5)
      have HJN := hid (show j ≠ j5 from fun e => by have := Blk.lt HSR.out.log; omega)
      have HJS5 := hid (show ¬ S3 j5 from fun hs => by have := HSR.out.live.lt j5 hs; omega)
      have HJ05 := hid (show w0.heap.size ≤ j5 from Nat.le_trans HSR.out.live.2.1.size hn5)
      have HM5 := hid (HM3.out.trans (hm5.mono (fun _ _ h => h.elim)))
      clear hm5 hj5 hn5 HPL d0 d1 d2 d3 d4
      have HE5 := hid (encode_any w5 a1 L.length n1 L rfl (HRW5.out.rdv rfl) hw2)
      go_wp2_with fail
      refine HE5.out.mono ?_
      rintro e w6 ⟨a6, n6, rfl, ho6, hm6⟩
      have HS6 := hid (HS5.out.step hm6)
      have HJ6 := hid (show IsJ w6 j5 p (fromN σ.st ar) (toN σ.st ar) ((0 : Nat) : Int) ((0 : Nat) : Int) from hm6.blk HJ5.out (fun h => h))
      have HRW6 := hid (HRW5.out.step hm6)
      have HM6 := hid (HM5.out.trans (hm6.mono (fun _ _ h => h.elim)))
      obtain ⟨ra, rc, re, hrd6⟩ := ho6.rd
      obtain ⟨rfl, rfl⟩ : a6 = ra ∧ n6 = rc := by injection re with e1 e2 e3; exact ⟨e1, e3⟩
      have HA6 := hid (append_rest HS6.out.live HS6.out.ok.rest HS6.out.ok.four ha1 HJ6.out HJS5.out HJ05.out (Nat.zero_le _) (by omega) (encL L) a6 (encL L).length n6 rfl hrd6)
      clear re hrd6 ho6 hm6 HE5 HRW5 HS5 HJ5
      go_wp2_with fail
      refine HA6.out.mono ?_
      rintro e w7 ⟨S7, hm7, hS7, ⟨hfit, rfl, hl7, hj7⟩ | ⟨hnf, he7, hl7, hj7⟩⟩
      · have HNX := hid (SSt.next_ok (has := L) (ct := 0) HS6.out.ok ha1 hfit (by omega) (by rw [← HLL.out]; exact rising_all l HS6.out.ok.ris))
        have HMID := hid (mid_of HS6.out HM6.out HO3.out ⟨_, _, _, _, HJ6.out⟩ HJS5.out HJ05.out (.inr HN5.out) HRW6.out hm7 hS7 hl7 hj7 HNX.out.2.2.1 HNX.out.2.2.2)
        have HK := hid (tail_k HS6.out.ok ha1 hfit (by omega : 16 * 0 ≤ 0))
        have HCM := hid (SSt.commit_turns (σ := σ) (l := l) HNF.out (by rw [HLL.out]; exact hfit))
        clear hm7 hS7 hl7 hj7 hfit HA6
        generalize hE1 : 0 + (encL L).length + 16 = E at *
        generalize hC1 : 0 + 1 = C at *
        have HE1 := hid hE1
        have HC1 := hid hC1
        clear hE1 hC1
        have HU := hid (HMID.out.obj5)
        have HEN := hid (HMID.out.drew.ends)
        have HCT := hid (HMID.out.drew.counts)
        have HSET := hid (HMID.out.drew.sets HK.out.1 ht HK.out.2.1 HK.out.2.2.1 HK.out.2.2.2)
        obtain ⟨r1, _⟩ := HU.out
        unfold V3 at HSET
        go_wp2_with fail
        refine wp_region_held_drew (S := fun w' => w'.cell? ⟨s, 1, none⟩ = some (.pointer (some ⟨c, 0, none⟩))) (by kernel_rfl) ?_ (fun hHeld => ?_)
        · exact HU.out.1
        refine wpAnyH_take (i := 0) (oi := { dst := some 70, op := Op.move (Operand.tmp 0), type := 74, pos := "store.go:161", after := #[], guard := none }) (v := ?va1_0) rfl (by kernel_rfl) (by kernel_rfl) (by kernel_rfl) (fun _ _ _ h => h) (Or.inl ⟨by rfl, ?ya1_0⟩) (by assumption) ?ra1_0
        case ya1_0 => (intro w hSw; (try dsimp only at hSw); go_simp; (try with_reducible rfl))
        try simp only [Act.put, List.setIfInBounds_toArray, List.set_cons_zero, List.set_cons_succ]
        refine wpAnyH_take (i := 1) (oi := { dst := some 71, op := Op.nilCheck (Operand.tmp 70), type := 0, pos := "store.go:161", after := #[{ on := 0, ground := Ground.data }], guard := none }) (v := ?va2_1) rfl (by kernel_rfl) (by kernel_rfl) (by kernel_rfl) (fun _ _ _ h => h) (Or.inl ⟨by rfl, ?ya2_1⟩) (by assumption) ?ra2_1
        case ya2_1 => (intro w hSw; (try dsimp only at hSw); go_simp; (try with_reducible rfl))
        try simp only [Act.put, List.setIfInBounds_toArray, List.set_cons_zero, List.set_cons_succ]
        refine wpAnyH_take (i := 2) (oi := { dst := some 72, op := Op.fieldAddr 132 (Operand.tmp 71) 1, type := 0, pos := "store.go:161", after := #[{ on := 1, ground := Ground.data }], guard := none }) (v := ?va3_2) rfl (by kernel_rfl) (by kernel_rfl) (by kernel_rfl) (fun _ _ _ h => h) (Or.inl ⟨by rfl, ?ya3_2⟩) (by assumption) ?ra3_2
        case ya3_2 => (intro w hSw; (try dsimp only at hSw); go_simp; (try with_reducible rfl))
        try simp only [Act.put, List.setIfInBounds_toArray, List.set_cons_zero, List.set_cons_succ]
        refine wpAnyH_take (i := 3) (oi := { dst := some 73, op := Op.load 126 (Operand.tmp 72), type := 126, pos := "store.go:161", after := #[{ on := 2, ground := Ground.data }], guard := none }) (v := ?va4_3) rfl (by kernel_rfl) (by kernel_rfl) (by kernel_rfl) (fun _ _ _ h => h) (Or.inl ⟨by rfl, ?ya4_3⟩) (by assumption) ?ra4_3
        case ya4_3 => (intro w hSw; (try dsimp only at hSw); go_simp; (try with_reducible rfl))
        try simp only [Act.put, List.setIfInBounds_toArray, List.set_cons_zero, List.set_cons_succ]
        refine wpAnyH_take (i := 4) (oi := { dst := some 74, op := Op.move (Operand.tmp 6), type := 3, pos := "store.go:161", after := #[], guard := none }) (v := ?va5_4) rfl (by kernel_rfl) (by kernel_rfl) (by kernel_rfl) (fun _ _ _ h => h) (Or.inl ⟨by rfl, ?ya5_4⟩) (by assumption) ?ra5_4
        case ya5_4 => (intro w hSw; (try dsimp only at hSw); go_simp; (try with_reducible rfl))
        try simp only [Act.put, List.setIfInBounds_toArray, List.set_cons_zero, List.set_cons_succ]
        refine wpAnyH_take (i := 5) (oi := { dst := some 75, op := Op.move (Operand.tmp 7), type := 62, pos := "store.go:161", after := #[], guard := none }) (v := ?va6_5) rfl (by kernel_rfl) (by kernel_rfl) (by kernel_rfl) (fun _ _ _ h => h) (Or.inl ⟨by rfl, ?ya6_5⟩) (by assumption) ?ra6_5
        case ya6_5 => (intro w hSw; (try dsimp only at hSw); go_simp; (try with_reducible rfl))
        try simp only [Act.put, List.setIfInBounds_toArray, List.set_cons_zero, List.set_cons_succ]
        refine wpAnyH_take (i := 7) (oi := { dst := some 77, op := Op.move (Operand.tmp 7), type := 62, pos := "store.go:161", after := #[], guard := none }) (v := ?va7_7) rfl (by kernel_rfl) (by kernel_rfl) (by kernel_rfl) (fun _ _ _ h => h) (Or.inl ⟨by rfl, ?ya7_7⟩) (by assumption) ?ra7_7
        case ya7_7 => (intro w hSw; (try dsimp only at hSw); go_simp; (try with_reducible rfl))
        try simp only [Act.put, List.setIfInBounds_toArray, List.set_cons_zero, List.set_cons_succ]
        refine wpAnyH_ready (rs := [6]) (by kernel_rfl) (by simp) ?_
        refine AllReadyH.cons (o := { dst := some 76, op := Op.call { callee := Callee.value (Operand.func 46), args := #[Operand.tmp 75], argTypes := #[62] }, type := 2, pos := "store.go:161", after := #[{ on := 5, ground := Ground.data }], guard := none }) rfl (fun K hK => ?_) AllReadyH.nil
        go_simp; refine HEN.out.mono ?_; rintro e w5 ⟨rfl, rfl⟩
        refine hK.out _ _ ?_ (fun hHeld => ?_)
        · exact HU.out.1
        clear hK K
        try simp only [Act.put, List.setIfInBounds_toArray, List.set_cons_zero, List.set_cons_succ]
        refine wpAnyH_ready (rs := [8]) (by kernel_rfl) (by simp) ?_
        refine AllReadyH.cons (o := { dst := some 78, op := Op.call { callee := Callee.value (Operand.func 48), args := #[Operand.tmp 77], argTypes := #[62] }, type := 2, pos := "store.go:161", after := #[{ on := 7, ground := Ground.data }, { on := 6, ground := Ground.chain }], guard := none }) rfl (fun K hK => ?_) AllReadyH.nil
        go_simp; refine HCT.out.mono ?_; rintro e w6 ⟨rfl, rfl⟩
        refine hK.out _ _ ?_ (fun hHeld => ?_)
        · exact HU.out.1
        clear hK K
        try simp only [Act.put, List.setIfInBounds_toArray, List.set_cons_zero, List.set_cons_succ]
        refine wpAnyH_take (i := 9) (oi := { dst := some 79, op := Op.build 129 #[(0, Operand.tmp 74), (1, Operand.tmp 76), (2, Operand.tmp 78)], type := 129, pos := "store.go:161", after := #[{ on := 4, ground := Ground.data }, { on := 6, ground := Ground.data }, { on := 8, ground := Ground.data }], guard := none }) (v := ?va8_9) rfl (by kernel_rfl) (by kernel_rfl) (by kernel_rfl) (fun _ _ _ h => h) (Or.inl ⟨by rfl, ?ya8_9⟩) (by assumption) ?ra8_9
        case ya8_9 => (intro w hSw; (try dsimp only at hSw); go_simp; (try with_reducible rfl))
        try simp only [Act.put, List.setIfInBounds_toArray, List.set_cons_zero, List.set_cons_succ]
        refine wpAnyH_ready (rs := [10]) (by kernel_rfl) (by simp) ?_
        refine AllReadyH.cons (o := { dst := some 80, op := Op.call { callee := Callee.value (Operand.func 90), args := #[Operand.tmp 73, Operand.tmp 79], argTypes := #[126, 129] }, type := 40, pos := "store.go:161", after := #[{ on := 3, ground := Ground.data }, { on := 9, ground := Ground.data }, { on := 8, ground := Ground.chain }], guard := none }) rfl (fun K hK => ?_) AllReadyH.nil
        go_simp; refine HSET.out.mono ?_; rintro e w4 ⟨S4, rfl, hl4, hc4, hm4, ho4⟩; have HU := hid (HMID.out.objset hm4); have HDN := hid (fun (σ' : SSt) hh e1 e2 e3 e4 e5 e6 e7 => HMID.out.drew.done (σ' := σ') hl4 (cell_as hc4 hh) hm4 ho4 e1 e2 e3 e4 e5 e6 e7); clear hl4 hc4 hm4 ho4 HSET HEN HCT
        refine hK.out _ _ ?_ (fun hHeld => ?_)
        · exact HU.out.1
        clear hK K
        try simp only [Act.put, List.setIfInBounds_toArray, List.set_cons_zero, List.set_cons_succ]
        refine wpAnyH_take (i := 11) (oi := { dst := some 11, op := Op.assign (Operand.tmp 80), type := 40, pos := "store.go:161", after := #[{ on := 10, ground := Ground.data }, { on := 10, ground := Ground.chain }, { on := 0, ground := Ground.phase }, { on := 1, ground := Ground.phase }, { on := 2, ground := Ground.phase }, { on := 3, ground := Ground.phase }, { on := 4, ground := Ground.phase }, { on := 5, ground := Ground.phase }, { on := 6, ground := Ground.phase }, { on := 7, ground := Ground.phase }, { on := 8, ground := Ground.phase }, { on := 9, ground := Ground.phase }, { on := 10, ground := Ground.phase }], guard := none }) (v := ?va9_11) rfl (by kernel_rfl) (by kernel_rfl) (by kernel_rfl) (fun _ _ _ h => h) (Or.inl ⟨by rfl, ?ya9_11⟩) (by assumption) ?ra9_11
        case ya9_11 => (intro w hSw; (try dsimp only at hSw); go_simp; (try with_reducible rfl))
        try simp only [Act.put, List.setIfInBounds_toArray, List.set_cons_zero, List.set_cons_succ]
        refine wpAnyH_done (by kernel_rfl) ?_ _
        obtain ⟨g1, ⟨_, g2⟩, ⟨_, g3⟩, ⟨_, g4⟩, gf⟩ := HU.out
        go_wp2_with fail
        go_ret
        rw [HCM.out]
        exact HDN.out (σ.next (1 - σ.area) 0 0 (encL (allL σ.has l)) (allL σ.has l)) (by rw [← HE1.out, ← HC1.out, ← HAR.out, HLL.out]; rfl) (by rw [← HE1.out, ← HC1.out, ← HAR.out, HLL.out]; rfl) (cset_len _ _ _) HAR.out.symm (by rw [← HE1.out, HLL.out]; rfl) HC1.out HLL.out (by rw [HLL.out, ← HAR.out]; exact HNX.out.1)

      · have HCM := hid (SSt.commit_full (σ := σ) (l := l) HNF.out (by rw [HLL.out]; exact hnf))
        have HEND := hid (show CommitR w0 w S s p c j (.slice va σ.has.length vn) (σ, 51) (.returned (.int .i64 51)) w7 from commit_refused (HS6.out.appended_fail hm7 hS7 hl7 hj7 HJ6.out HJN.out) (fail_mod HM6.out hm7 HN5.out HO3.out) (fun k hk h => HO3.out k hk (hS7 k (Nat.lt_of_lt_of_le hk HM6.out.size) h)))
        clear hm7 hS7 hl7 hj7 HA6
        rcases he7 with rfl | rfl
        all_goals
          go_wp2_with fail
          go_ret
          rw [HCM.out]
          exact HEND.out
    · go_wp2_with fail
      refine HPL.out.mono ?_
      rintro e w4 ⟨rfl, rfl⟩
      go_wp2_with fail
      refine (jnew_any HSR.out.live HSR.out.ok.rest HSR.out.ok.four ha1).mono ?_
      rintro e w5 ⟨j5, v5, hm5, rfl, hj5, hn5, _⟩
      have HS5 := hid (HSR.out.step hm5)
      have HJ5 := hid hj5
      have HN5 := hid (show w.heap.size ≤ j5 from Nat.le_trans HM3.out.size hn5)
      have HRW5 := hid (HRW.out.step hm5)
      have HJN := hid (show j ≠ j5 from fun e => by have := Blk.lt HSR.out.log; omega)
      have HJS5 := hid (show ¬ S3 j5 from fun hs => by have := HSR.out.live.lt j5 hs; omega)
      have HJ05 := hid (show w0.heap.size ≤ j5 from Nat.le_trans HSR.out.live.2.1.size hn5)
      have HM5 := hid (HM3.out.trans (hm5.mono (fun _ _ h => h.elim)))
      clear hm5 hj5 hn5 HPL d0 d1 d2 d3 d4
      have HE5 := hid (encode_any w5 a1 L.length n1 L rfl (HRW5.out.rdv rfl) hw2)
      go_wp2_with fail
      refine HE5.out.mono ?_
      rintro e w6 ⟨a6, n6, rfl, ho6, hm6⟩
      have HS6 := hid (HS5.out.step hm6)
      have HJ6 := hid (show IsJ w6 j5 p (fromN σ.st ar) (toN σ.st ar) ((0 : Nat) : Int) ((0 : Nat) : Int) from hm6.blk HJ5.out (fun h => h))
      have HRW6 := hid (HRW5.out.step hm6)
      have HM6 := hid (HM5.out.trans (hm6.mono (fun _ _ h => h.elim)))
      obtain ⟨ra, rc, re, hrd6⟩ := ho6.rd
      obtain ⟨rfl, rfl⟩ : a6 = ra ∧ n6 = rc := by injection re with e1 e2 e3; exact ⟨e1, e3⟩
      have HA6 := hid (append_rest HS6.out.live HS6.out.ok.rest HS6.out.ok.four ha1 HJ6.out HJS5.out HJ05.out (Nat.zero_le _) (by omega) (encL L) a6 (encL L).length n6 rfl hrd6)
      clear re hrd6 ho6 hm6 HE5 HRW5 HS5 HJ5
      go_wp2_with fail
      refine HA6.out.mono ?_
      rintro e w7 ⟨S7, hm7, hS7, ⟨hfit, rfl, hl7, hj7⟩ | ⟨hnf, he7, hl7, hj7⟩⟩
      · have HNX := hid (SSt.next_ok (has := L) (ct := 0) HS6.out.ok ha1 hfit (by omega) (by rw [← HLL.out]; exact rising_all l HS6.out.ok.ris))
        have HMID := hid (mid_of HS6.out HM6.out HO3.out ⟨_, _, _, _, HJ6.out⟩ HJS5.out HJ05.out (.inr HN5.out) HRW6.out hm7 hS7 hl7 hj7 HNX.out.2.2.1 HNX.out.2.2.2)
        have HK := hid (tail_k HS6.out.ok ha1 hfit (by omega : 16 * 0 ≤ 0))
        have HCM := hid (SSt.commit_turns (σ := σ) (l := l) HNF.out (by rw [HLL.out]; exact hfit))
        clear hm7 hS7 hl7 hj7 hfit HA6
        generalize hE1 : 0 + (encL L).length + 16 = E at *
        generalize hC1 : 0 + 1 = C at *
        have HE1 := hid hE1
        have HC1 := hid hC1
        clear hE1 hC1
        have HU := hid (HMID.out.obj5)
        have HEN := hid (HMID.out.drew.ends)
        have HCT := hid (HMID.out.drew.counts)
        have HSET := hid (HMID.out.drew.sets HK.out.1 ht HK.out.2.1 HK.out.2.2.1 HK.out.2.2.2)
        obtain ⟨r1, _⟩ := HU.out
        unfold V3 at HSET
        go_wp2_with fail
        refine wp_region_held_drew (S := fun w' => w'.cell? ⟨s, 1, none⟩ = some (.pointer (some ⟨c, 0, none⟩))) (by kernel_rfl) ?_ (fun hHeld => ?_)
        · exact HU.out.1
        refine wpAnyH_take (i := 0) (oi := { dst := some 70, op := Op.move (Operand.tmp 0), type := 74, pos := "store.go:161", after := #[], guard := none }) (v := ?vb1_0) rfl (by kernel_rfl) (by kernel_rfl) (by kernel_rfl) (fun _ _ _ h => h) (Or.inl ⟨by rfl, ?yb1_0⟩) (by assumption) ?rb1_0
        case yb1_0 => (intro w hSw; (try dsimp only at hSw); go_simp; (try with_reducible rfl))
        try simp only [Act.put, List.setIfInBounds_toArray, List.set_cons_zero, List.set_cons_succ]
        refine wpAnyH_take (i := 1) (oi := { dst := some 71, op := Op.nilCheck (Operand.tmp 70), type := 0, pos := "store.go:161", after := #[{ on := 0, ground := Ground.data }], guard := none }) (v := ?vb2_1) rfl (by kernel_rfl) (by kernel_rfl) (by kernel_rfl) (fun _ _ _ h => h) (Or.inl ⟨by rfl, ?yb2_1⟩) (by assumption) ?rb2_1
        case yb2_1 => (intro w hSw; (try dsimp only at hSw); go_simp; (try with_reducible rfl))
        try simp only [Act.put, List.setIfInBounds_toArray, List.set_cons_zero, List.set_cons_succ]
        refine wpAnyH_take (i := 2) (oi := { dst := some 72, op := Op.fieldAddr 132 (Operand.tmp 71) 1, type := 0, pos := "store.go:161", after := #[{ on := 1, ground := Ground.data }], guard := none }) (v := ?vb3_2) rfl (by kernel_rfl) (by kernel_rfl) (by kernel_rfl) (fun _ _ _ h => h) (Or.inl ⟨by rfl, ?yb3_2⟩) (by assumption) ?rb3_2
        case yb3_2 => (intro w hSw; (try dsimp only at hSw); go_simp; (try with_reducible rfl))
        try simp only [Act.put, List.setIfInBounds_toArray, List.set_cons_zero, List.set_cons_succ]
        refine wpAnyH_take (i := 3) (oi := { dst := some 73, op := Op.load 126 (Operand.tmp 72), type := 126, pos := "store.go:161", after := #[{ on := 2, ground := Ground.data }], guard := none }) (v := ?vb4_3) rfl (by kernel_rfl) (by kernel_rfl) (by kernel_rfl) (fun _ _ _ h => h) (Or.inl ⟨by rfl, ?yb4_3⟩) (by assumption) ?rb4_3
        case yb4_3 => (intro w hSw; (try dsimp only at hSw); go_simp; (try with_reducible rfl))
        try simp only [Act.put, List.setIfInBounds_toArray, List.set_cons_zero, List.set_cons_succ]
        refine wpAnyH_take (i := 4) (oi := { dst := some 74, op := Op.move (Operand.tmp 6), type := 3, pos := "store.go:161", after := #[], guard := none }) (v := ?vb5_4) rfl (by kernel_rfl) (by kernel_rfl) (by kernel_rfl) (fun _ _ _ h => h) (Or.inl ⟨by rfl, ?yb5_4⟩) (by assumption) ?rb5_4
        case yb5_4 => (intro w hSw; (try dsimp only at hSw); go_simp; (try with_reducible rfl))
        try simp only [Act.put, List.setIfInBounds_toArray, List.set_cons_zero, List.set_cons_succ]
        refine wpAnyH_take (i := 5) (oi := { dst := some 75, op := Op.move (Operand.tmp 7), type := 62, pos := "store.go:161", after := #[], guard := none }) (v := ?vb6_5) rfl (by kernel_rfl) (by kernel_rfl) (by kernel_rfl) (fun _ _ _ h => h) (Or.inl ⟨by rfl, ?yb6_5⟩) (by assumption) ?rb6_5
        case yb6_5 => (intro w hSw; (try dsimp only at hSw); go_simp; (try with_reducible rfl))
        try simp only [Act.put, List.setIfInBounds_toArray, List.set_cons_zero, List.set_cons_succ]
        refine wpAnyH_take (i := 7) (oi := { dst := some 77, op := Op.move (Operand.tmp 7), type := 62, pos := "store.go:161", after := #[], guard := none }) (v := ?vb7_7) rfl (by kernel_rfl) (by kernel_rfl) (by kernel_rfl) (fun _ _ _ h => h) (Or.inl ⟨by rfl, ?yb7_7⟩) (by assumption) ?rb7_7
        case yb7_7 => (intro w hSw; (try dsimp only at hSw); go_simp; (try with_reducible rfl))
        try simp only [Act.put, List.setIfInBounds_toArray, List.set_cons_zero, List.set_cons_succ]
        refine wpAnyH_ready (rs := [6]) (by kernel_rfl) (by simp) ?_
        refine AllReadyH.cons (o := { dst := some 76, op := Op.call { callee := Callee.value (Operand.func 46), args := #[Operand.tmp 75], argTypes := #[62] }, type := 2, pos := "store.go:161", after := #[{ on := 5, ground := Ground.data }], guard := none }) rfl (fun K hK => ?_) AllReadyH.nil
        go_simp; refine HEN.out.mono ?_; rintro e w5 ⟨rfl, rfl⟩
        refine hK.out _ _ ?_ (fun hHeld => ?_)
        · exact HU.out.1
        clear hK K
        try simp only [Act.put, List.setIfInBounds_toArray, List.set_cons_zero, List.set_cons_succ]
        refine wpAnyH_ready (rs := [8]) (by kernel_rfl) (by simp) ?_
        refine AllReadyH.cons (o := { dst := some 78, op := Op.call { callee := Callee.value (Operand.func 48), args := #[Operand.tmp 77], argTypes := #[62] }, type := 2, pos := "store.go:161", after := #[{ on := 7, ground := Ground.data }, { on := 6, ground := Ground.chain }], guard := none }) rfl (fun K hK => ?_) AllReadyH.nil
        go_simp; refine HCT.out.mono ?_; rintro e w6 ⟨rfl, rfl⟩
        refine hK.out _ _ ?_ (fun hHeld => ?_)
        · exact HU.out.1
        clear hK K
        try simp only [Act.put, List.setIfInBounds_toArray, List.set_cons_zero, List.set_cons_succ]
        refine wpAnyH_take (i := 9) (oi := { dst := some 79, op := Op.build 129 #[(0, Operand.tmp 74), (1, Operand.tmp 76), (2, Operand.tmp 78)], type := 129, pos := "store.go:161", after := #[{ on := 4, ground := Ground.data }, { on := 6, ground := Ground.data }, { on := 8, ground := Ground.data }], guard := none }) (v := ?vb8_9) rfl (by kernel_rfl) (by kernel_rfl) (by kernel_rfl) (fun _ _ _ h => h) (Or.inl ⟨by rfl, ?yb8_9⟩) (by assumption) ?rb8_9
        case yb8_9 => (intro w hSw; (try dsimp only at hSw); go_simp; (try with_reducible rfl))
        try simp only [Act.put, List.setIfInBounds_toArray, List.set_cons_zero, List.set_cons_succ]
        refine wpAnyH_ready (rs := [10]) (by kernel_rfl) (by simp) ?_
        refine AllReadyH.cons (o := { dst := some 80, op := Op.call { callee := Callee.value (Operand.func 90), args := #[Operand.tmp 73, Operand.tmp 79], argTypes := #[126, 129] }, type := 40, pos := "store.go:161", after := #[{ on := 3, ground := Ground.data }, { on := 9, ground := Ground.data }, { on := 8, ground := Ground.chain }], guard := none }) rfl (fun K hK => ?_) AllReadyH.nil
        go_simp; refine HSET.out.mono ?_; rintro e w4 ⟨S4, rfl, hl4, hc4, hm4, ho4⟩; have HU := hid (HMID.out.objset hm4); have HDN := hid (fun (σ' : SSt) hh e1 e2 e3 e4 e5 e6 e7 => HMID.out.drew.done (σ' := σ') hl4 (cell_as hc4 hh) hm4 ho4 e1 e2 e3 e4 e5 e6 e7); clear hl4 hc4 hm4 ho4 HSET HEN HCT
        refine hK.out _ _ ?_ (fun hHeld => ?_)
        · exact HU.out.1
        clear hK K
        try simp only [Act.put, List.setIfInBounds_toArray, List.set_cons_zero, List.set_cons_succ]
        refine wpAnyH_take (i := 11) (oi := { dst := some 11, op := Op.assign (Operand.tmp 80), type := 40, pos := "store.go:161", after := #[{ on := 10, ground := Ground.data }, { on := 10, ground := Ground.chain }, { on := 0, ground := Ground.phase }, { on := 1, ground := Ground.phase }, { on := 2, ground := Ground.phase }, { on := 3, ground := Ground.phase }, { on := 4, ground := Ground.phase }, { on := 5, ground := Ground.phase }, { on := 6, ground := Ground.phase }, { on := 7, ground := Ground.phase }, { on := 8, ground := Ground.phase }, { on := 9, ground := Ground.phase }, { on := 10, ground := Ground.phase }], guard := none }) (v := ?vb9_11) rfl (by kernel_rfl) (by kernel_rfl) (by kernel_rfl) (fun _ _ _ h => h) (Or.inl ⟨by rfl, ?yb9_11⟩) (by assumption) ?rb9_11
        case yb9_11 => (intro w hSw; (try dsimp only at hSw); go_simp; (try with_reducible rfl))
        try simp only [Act.put, List.setIfInBounds_toArray, List.set_cons_zero, List.set_cons_succ]
        refine wpAnyH_done (by kernel_rfl) ?_ _
        obtain ⟨g1, ⟨_, g2⟩, ⟨_, g3⟩, ⟨_, g4⟩, gf⟩ := HU.out
        go_wp2_with fail
        go_ret
        rw [HCM.out]
        exact HDN.out (σ.next (1 - σ.area) 0 0 (encL (allL σ.has l)) (allL σ.has l)) (by rw [← HE1.out, ← HC1.out, ← HAR.out, HLL.out]; rfl) (by rw [← HE1.out, ← HC1.out, ← HAR.out, HLL.out]; rfl) (cset_len _ _ _) HAR.out.symm (by rw [← HE1.out, HLL.out]; rfl) HC1.out HLL.out (by rw [HLL.out, ← HAR.out]; exact HNX.out.1)

      · have HCM := hid (SSt.commit_full (σ := σ) (l := l) HNF.out (by rw [HLL.out]; exact hnf))
        have HEND := hid (show CommitR w0 w S s p c j (.slice va σ.has.length vn) (σ, 51) (.returned (.int .i64 51)) w7 from commit_refused (HS6.out.appended_fail hm7 hS7 hl7 hj7 HJ6.out HJN.out) (fail_mod HM6.out hm7 HN5.out HO3.out) (fun k hk h => HO3.out k hk (hS7 k (Nat.lt_of_lt_of_le hk HM6.out.size) h)))
        clear hm7 hS7 hl7 hj7 HA6
        rcases he7 with rfl | rfl
        all_goals
          go_wp2_with fail
          go_ret
          rw [HCM.out]
          exact HEND.out
end Go.Proofs.Ytdhhpnfdnoaihaa

/-! S8 -/
/- A store is asked: Get, Under, Count. -/
namespace Go.Proofs.Ytdhhpnfdnoaihaa
open Go.RowKit

/-- what a key has -/
def getL (l : List Ch) (k : List UInt8) : List UInt8 × Bool := if isAt l k = true then ((nth l (cnt l k)).val, true) else ([], false)
def underL (l : List Ch) (p : List UInt8) : List Ch := l.filter (fun c => p.isPrefixOf c.key)
section
variable {w0 w : World} {S : Nat → Prop} {s p c j : Nat} {v : Value} {σ : SSt}
set_option maxRecDepth 100000 in
theorem get_any (h : StoreAt w0 w S s p c j v σ) (key : List UInt8) (hfew : σ.has.length ≤ 1000000) : Calls Try.prog 57 #[.pointer (some ⟨s, 0, none⟩), Str key] w (CPost (.tuple #[Str (getL σ.has key).1, .bool (getL σ.has key).2]) w) := by
  obtain ⟨va, vn, rfl, hrv⟩ := h.shape
  obtain ⟨_, _, _, _, c4⟩ := h.cells
  have HR := hid hrv
  have HF := hid (find_any w va σ.has.length vn σ.has rfl hrv h.ok.ris key hfew)
  have HG := hid (show getL σ.has key = if isAt σ.has key = true then ((nth σ.has (cnt σ.has key)).val, true) else ([], false) from rfl)
  have HAT := hid (fun e => isAt_lt (l := σ.has) (k := key) e)
  clear h hrv
  generalize getL σ.has key = g at *
  generalize isAt σ.has key = b at *
  generalize cnt σ.has key = i at *
  unfold Str at HF
  cases b with
  | true =>
    have hi := HAT.out rfl
    rw [if_pos rfl] at HG
    obtain ⟨bb, o, rfl, e1, e2, e3⟩ := rd_ch HR.out hi
    generalize nth σ.has i = x at *
    generalize hnn : σ.has.length = nn at *
    have hi' : (i : Int) < (nn : Int) := by omega
    rw [HG.out]
    unfold Str at *
    dsimp only
    go_enter Try.func57, Try.ntmps57
    go_wp2_with fail
    refine HF.out.mono ?_
    rintro e w2 ⟨rfl, hm⟩
    have d2 := hm.cell0 e2
    have d4 := hm.cell0 c4
    have HM := hid hm
    clear hm e1 e2 e3 c4
    go_wp2_with fail
    go_ret2
    exact ⟨rfl, HM.out⟩
  | false =>
    rw [if_neg (by simp)] at HG
    rw [HG.out]
    unfold Str at *
    dsimp only
    go_enter Try.func57, Try.ntmps57
    go_wp2_with fail
    refine HF.out.mono ?_
    rintro e w2 ⟨rfl, hm⟩
    have HM := hid hm
    clear hm
    go_wp2_with fail
    go_ret2
    exact ⟨rfl, HM.out⟩
theorem scount_any (h : StoreAt w0 w S s p c j v σ) : Calls Try.prog 60 #[.pointer (some ⟨s, 0, none⟩)] w fun e w' => e = .returned (.int .i64 (σ.has.length : Int)) ∧ w = w' := by
  obtain ⟨va, vn, rfl, hrv⟩ := h.shape
  obtain ⟨_, _, _, _, c4⟩ := h.cells
  clear h hrv
  go_enter Try.func60, Try.ntmps60
  go_wp2
  go_ret
  exact ⟨rfl, rfl⟩
theorem prefix_any (w : World) (x y : List UInt8) : Calls Try.prog 96 #[Str x, Str y] w fun e w' => e = .returned (.bool (y.isPrefixOf x)) ∧ w' = w :=
  Go.Proofs.Any.strings_HasPrefix Go.Proofs.Try.hasPre ⟨x.toArray⟩ ⟨y.toArray⟩ w
/-- the end of those that begin so -/
theorem under_end {l : List Ch} (hr : Rising l) {p : List UInt8} {k : Nat} (hk : k ≤ l.length) (hi : cnt l p ≤ k) (h1 : ∀ t, cnt l p ≤ t → t < k → p.isPrefixOf (nth l t).key = true) (h2 : k = l.length ∨ (k < l.length ∧ p.isPrefixOf (nth l k).key = false)) : (l.drop (cnt l p)).take (k - cnt l p) = underL l p := by
  unfold underL
  rw [← under_eq hr p]
  generalize cnt l p = i at *
  have key : ∀ (m : Nat) (L : List Ch), m ≤ L.length → (∀ t, t < m → p.isPrefixOf (nth L t).key = true) → (m = L.length ∨ (m < L.length ∧ p.isPrefixOf (nth L m).key = false)) → L.take m = L.takeWhile (fun c => p.isPrefixOf c.key) := by
    intro m
    induction m with
    | zero =>
      intro L _ _ h
      cases L with
      | nil => rfl
      | cons x L =>
        rcases h with h | ⟨_, h⟩
        · simp at h
        · have h : p.isPrefixOf x.key = false := h
          rw [List.takeWhile_cons_of_neg (p := fun c : Ch => p.isPrefixOf c.key) (by simp [h])]; rfl
    | succ m ih =>
      intro L hm h1 h2
      cases L with
      | nil => simp at hm
      | cons x L =>
        have hx : p.isPrefixOf x.key = true := h1 0 (by omega)
        rw [List.takeWhile_cons_of_pos (p := fun c : Ch => p.isPrefixOf c.key) hx, List.take_succ_cons, ih L (by simpa using hm) (fun t ht => h1 (t + 1) (by omega)) (by simpa [nth] using h2)]
  have hn : ∀ t, nth (l.drop i) t = nth l (i + t) := fun t => by
    unfold nth
    rw [List.getD_eq_getElem?_getD, List.getD_eq_getElem?_getD, List.getElem?_drop]
  refine key (k - i) (l.drop i) (by rw [List.length_drop]; omega) (fun t ht => ?_) ?_
  · rw [hn]; exact h1 (i + t) (by omega) (by omega)
  · rw [hn, List.length_drop, show i + (k - i) = k by omega]
    rcases h2 with h2 | h2
    · exact .inl (by omega)
    · exact .inr ⟨by omega, h2.2⟩
theorem rdv_part {w : World} {b o : Nat} {l : List Ch} (h : RdV w (some ⟨b, o, none⟩) (rowC l)) {i m : Nat} (hm : i + m ≤ l.length) : RdV w (some ⟨b, o + i * 3, none⟩) (rowC ((l.drop i).take m)) := by
  rcases h with h | ⟨b', o', e, hc⟩
  · have h0 := rowC_length l
    rw [h] at h0
    have : l.length = 0 := by simp at h0; omega
    left
    have : (l.drop i).take m = [] := List.eq_nil_of_length_eq_zero (by rw [List.length_take, List.length_drop]; omega)
    rw [this]; rfl
  · obtain ⟨rfl, rfl⟩ : b = b' ∧ o = o' := by simpa using e
    refine .inr ⟨b, o + i * 3, rfl, fun t ht => ?_⟩
    rw [rowC_length, List.length_take, List.length_drop] at ht
    have := hc (i * 3 + t) (by rw [rowC_length]; omega)
    rw [show o + i * 3 + t = o + (i * 3 + t) by omega, this]
    have e1 : rowC l = rowC (l.take i) ++ (rowC ((l.drop i).take m) ++ rowC ((l.drop i).drop m)) := by
      rw [← rowC_append, List.take_append_drop, ← rowC_append, List.take_append_drop]
    have hl1 : (rowC (l.take i)).length = i * 3 := by rw [rowC_length, List.length_take]; omega
    have hl2 : (rowC ((l.drop i).take m)).length = m * 3 := by rw [rowC_length, List.length_take, List.length_drop]; omega
    rw [e1, List.getElem?_append_right (by omega), hl1, show i * 3 + t - i * 3 = t by omega, List.getElem?_append_left (by omega)]
theorem rdv_map {w : World} {a : Option Addr} {l : List Ch} (h : RdV w a (rowC l)) {i m : Nat} (hm : i + m ≤ l.length) : RdV w (Option.map (fun x => x.add (i * 3)) a) (rowC ((l.drop i).take m)) := by
  have h' := h
  rcases h with h | ⟨b, o, rfl, _⟩
  · have h0 := rowC_length l
    rw [h] at h0
    have : l.length = 0 := by simp at h0; omega
    left
    have : (l.drop i).take m = [] := List.eq_nil_of_length_eq_zero (by rw [List.length_take, List.length_drop]; omega)
    rw [this]; rfl
  · have e : Option.map (fun x : Addr => x.add (i * 3)) (some ⟨b, o, none⟩) = some ⟨b, o + i * 3, none⟩ := by simp [addr_add]
    rw [e]; exact rdv_part h' hm
theorem clone_part {w wr : World} (hm : Mod None w wr) {l L : List Ch} {a : Option Addr} {i m : Nat} (h : RdV wr a (rowC l)) (hi : i + m ≤ l.length) (hL : (l.drop i).take m = L) (c : Nat) (hfew : l.length ≤ 1000000) : Calls Try.prog 97 #[.slice (Option.map (fun x => x.add (i * 3)) a) m c] wr (RPost w L) := by
  subst hL
  exact clone_row hm _ m c _ (by rw [List.length_take, List.length_drop]; omega) (rdv_map h hi) (by rw [List.length_take, List.length_drop]; omega)
theorem clone_none {w wr : World} (hm : Mod None w wr) {L : List Ch} (a : Option Addr) (m c : Nat) (hm0 : m = 0) (hL : L = []) : Calls Try.prog 97 #[.slice a m c] wr (RPost w L) := by
  subst hL hm0
  exact clone_row hm _ 0 c [] rfl (.inl rfl) (by simp)
end
set_option maxRecDepth 100000 in
set_option maxHeartbeats 1600000 in
theorem under_any {w0 w : World} {S : Nat → Prop} {s p c j : Nat} {v : Value} {σ : SSt} (h : StoreAt w0 w S s p c j v σ) (pre : List UInt8) (hfew : σ.has.length ≤ 1000000) : Calls Try.prog 58 #[.pointer (some ⟨s, 0, none⟩), Str pre] w (RPost w (underL σ.has pre)) := by
  obtain ⟨va, vn, rfl, hrv⟩ := h.shape
  obtain ⟨_, _, _, _, c4⟩ := h.cells
  have HR := hid hrv
  have HF := hid (find_any w va σ.has.length vn σ.has rfl hrv h.ok.ris pre hfew)
  have HUE := hid (fun k => under_end h.ok.ris (p := pre) (k := k))
  have hle := cnt_le σ.has pre
  obtain ⟨n1, hn1, hcap⟩ : ∃ n1, n1 = vn ∧ σ.has.length ≤ vn := by
    have h1 : OwnR w (fun _ => True) 89 3 (.slice va σ.has.length vn) σ.has.length (rowC σ.has) := ⟨h.row, fun _ _ => trivial⟩
    obtain ⟨a, n, e, h2, _⟩ := h1.shape
    obtain ⟨_, rfl⟩ : va = a ∧ vn = n := by injection e with e1 e2 e3; exact ⟨e1, e3⟩
    exact ⟨vn, rfl, h2⟩
  clear h hrv hn1
  generalize hcn : cnt σ.has pre = i at *
  have HCN := hid hcn
  clear hcn
  have HNN := hid (show σ.has.length = σ.has.length from rfl)
  unfold Str at HF ⊢
  go_enter Try.func58, Try.ntmps58
  go_wp2_with fail
  refine HF.out.mono ?_
  rintro e w2 ⟨rfl, hm⟩
  have HM := hid hm
  have HR2 := hid (hm.rdv HR.out (fun _ _ h => h))
  have d4 := hm.cell0 c4
  clear hm c4 HF
  go_wp2_with fail
  go_loopw [7] (fun vk wr => ∃ k : Nat, i ≤ k ∧ k ≤ σ.has.length ∧ vk = .int .i64 k ∧ wr = w2 ∧ Hid (∀ t, i ≤ t → t < k → pre.isPrefixOf (nth σ.has t).key = true)) (fun vk _ => σ.has.length - (intOf vk).toNat)
  case atStart => exact ⟨i, Nat.le_refl _, hle, rfl, rfl, fun t h1 h2 => by omega⟩
  case round =>
    obtain ⟨k, hik, hk, rfl, rfl, hpre⟩ := hrel
    by_cases hlt : k < σ.has.length
    · obtain ⟨bb, o, rfl, e1, e2, e3⟩ := rd_ch HR2.out hlt
      have HX := hid (prefix_any wr (nth σ.has k).key pre)
      have HPR := hid (show ∀ b, pre.isPrefixOf (nth σ.has k).key = b → pre.isPrefixOf (nth σ.has k).key = b from fun _ h => h)
      unfold Str at HX e1
      generalize hb : pre.isPrefixOf (nth σ.has k).key = b at *
      have HB := hid hb
      clear hb HPR e2 e3
      generalize nth σ.has k = x at e1 HX
      have hlt' : (k : Int) < (σ.has.length : Int) := by omega
      generalize hnn : σ.has.length = nn at *
      cases b with
      | true =>
        go_wp2_with fail
        refine HX.out.mono ?_
        rintro e w3 ⟨rfl, rfl⟩
        have hw1 : IntKind.i64.wrap ((k : Int) + 1) = (k : Int) + 1 := by rw [IntKind.wrap_i64]; omega
        go_wp2_with fail
        go_roundw
        case rel => exact ⟨k + 1, by omega, by omega, by go_num, trivial, fun t h1 h2 => by
          rcases Nat.lt_or_ge t k with h3 | h3
          · exact hpre.out t h1 h3
          · obtain rfl : t = k := by omega
            exact HB.out⟩
        case measure => simp [intOf]; omega
      | false =>
        go_wp2_with fail
        refine HX.out.mono ?_
        rintro e w3 ⟨rfl, rfl⟩
        have HE := hid (HUE.out k (by omega) hik hpre.out (.inr ⟨by omega, HB.out⟩))
        have HCL := hid (fun c => clone_part (w := w) HM.out HR2.out (i := i) (m := k - i) (by omega) HE.out c (by omega))
        rw [show Option.map (fun x : Addr => x.add (i * 3)) (some ⟨bb, o, none⟩) = some ⟨bb, o + i * 3, none⟩ by simp [addr_add]] at HCL
        go_wp2_with fail
        refine (HCL.out _).mono ?_
        rintro e w4 ⟨a4, c4, rfl, h4⟩
        have H4 := hid h4
        clear h4 HCL
        go_wp2_with fail
        go_ret
        exact ⟨a4, c4, rfl, H4.out⟩
    · obtain rfl : k = σ.has.length := by omega
      have hlt' : ¬ (σ.has.length : Int) < (σ.has.length : Int) := by omega
      have HE := hid (HUE.out σ.has.length (by omega) hik hpre.out (.inl rfl))
      have HCL := hid (fun c => clone_part (w := w) HM.out HR2.out (i := i) (m := σ.has.length - i) (by omega) HE.out c (by omega))
      have HCN0 := hid (fun (h0 : σ.has.length - i = 0) => clone_none (w := w) HM.out (L := underL σ.has pre) va (σ.has.length - i) 0 h0 (by rw [← HE.out, h0, List.take_zero]))
      go_wp2_with fail
      · refine (HCN0.out (by omega)).mono ?_
        rintro e w4 ⟨a4, c4, rfl, h4⟩
        have H4 := hid h4
        clear h4 HCL HCN0
        go_wp2_with fail
        go_ret
        exact ⟨a4, c4, rfl, H4.out⟩
      · refine (HCL.out _).mono ?_
        rintro e w4 ⟨a4, c4, rfl, h4⟩
        have H4 := hid h4
        clear h4 HCL HCN0
        go_wp2_with fail
        go_ret
        exact ⟨a4, c4, rfl, H4.out⟩
end Go.Proofs.Ytdhhpnfdnoaihaa

/-! S9 -/
/- A store is opened on a disk that has none. -/
namespace Go.Proofs.Ytdhhpnfdnoaihaa
open Go.RowKit

def SSt.new (st : DSt) : SSt := ⟨st, 0, 0, 0, 0, []⟩
theorem rest_of_new (n : Nat) : Rest (DSt.new n) := ⟨⟨rfl, by show (-1 : Int) < 0; decide⟩, rfl, fun s hs => by simp [DSt.new] at hs; rw [hs.2]; simp [zeros64]⟩
theorem new_len (n : Nat) : (DSt.new n).last.length = n := by simp [DSt.new]
theorem new_sect (n i : Nat) (h : i < n) : sect (DSt.new n) i = zeros64 := by
  unfold sect DSt.new
  rw [List.getD_eq_getElem?_getD, List.getElem?_replicate, if_pos h]; rfl
theorem zeros_whole : whole zeros64 = false := by decide +kernel
theorem new_cell (n : Nat) (h : 2 ≤ n) : cellL (DSt.new n) = ⟨0, 0, 0, 0⟩ := by
  unfold cellL
  simp only [cellK]
  rw [new_sect n 0 (by omega), new_sect n 1 (by omega)]
  unfold pickH
  rw [zeros_whole]
  simp
theorem SSt.new_ok (n : Nat) (h4 : 4 ≤ n) (hm : n ≤ 65536) : (SSt.new (DSt.new n)).Ok :=
  ⟨rest_of_new n, by show 4 ≤ (DSt.new n).last.length; rw [new_len]; exact h4, by show (DSt.new n).last.length ≤ _; rw [new_len]; exact hm, Nat.zero_le _, Nat.zero_le _, Nat.le_refl _, List.Pairwise.nil⟩
def SOpen (w0 w : World) (S : Nat → Prop) (p : Nat) (σ : SSt) (e : Ending) (w' : World) : Prop := ∃ s c j v, e = .returned (.tuple #[.pointer (some ⟨s, 0, none⟩), .int .i64 0]) ∧ StoreAt w0 w' S s p c j v σ ∧ Mod None w w' ∧ w.heap.size ≤ s ∧ w.heap.size ≤ c ∧ w.heap.size ≤ j ∧ ∀ g, v.ownBlock = some g → w.heap.size ≤ g
theorem open_done {w0 w wb : World} {S : Nat → Prop} {s p c j : Nat} {σ : SSt} (hl : Live w0 w S p σ.st) (hm : Mod None w wb) (hobj : Blk wb s 132 [.pointer (some ⟨p, 0, none⟩), .pointer (some ⟨c, 0, none⟩), .pointer (some ⟨j, 0, none⟩), .int .i64 (σ.area : Int), .slice none 0 0])
    (hc : IsCell wb c p 0 σ.h) (hj : IsJ wb j p (fromN σ.st σ.area) (toN σ.st σ.area) σ.en σ.ct) (hs0 : w.heap.size ≤ s) (hc0 : w.heap.size ≤ c) (hj0 : w.heap.size ≤ j) (hok : σ.Ok) (hh : σ.has = []) :
    SOpen w0 w S p σ (.returned (.tuple #[.pointer (some ⟨s, 0, none⟩), .int .i64 0])) wb := by
  have hno : ∀ k, w.heap.size ≤ k → ¬ S k := fun k hk hs => by have := hl.lt k hs; omega
  have h0 := hl.2.1.size
  exact ⟨s, c, j, _, rfl, {
    live := hl.step hm
    obj := hobj
    cell := hc
    log := hj
    row := by rw [hh]; exact World.ownsRow_nil _ _ _ _
    sS := hno s hs0
    cS := hno c hc0
    jS := hno j hj0
    vS := fun g hg => by cases hg
    s0 := by omega
    c0 := by omega
    j0 := by omega
    v0 := fun g hg => by cases hg
    ok := hok }, hm, hs0, hc0, hj0, fun g hg => by cases hg⟩
set_option maxRecDepth 100000 in
set_option maxHeartbeats 1600000 in
theorem sopen_new (w0 w : World) (S : Nat → Prop) (p : Nat) (st : DSt) (h : Live w0 w S p st) (h4 : 4 ≤ st.last.length) (hR : Rest st) (hc : cellL st = ⟨0, 0, 0, 0⟩) (hok : (SSt.new st).Ok) :
    Calls Try.prog 50 #[.pointer (some ⟨p, 0, none⟩)] w (SOpen w0 w S p (SSt.new st)) := by
  have HL := hid h
  have HS := hid (live_size h)
  have HR := hid hR
  have H4 := hid h4
  have HOK := hid hok
  have HC := hid (copen_any w0 w S p st h hR (by omega))
  rw [hc] at HC
  have hmost := h.ok.most
  have hn4 : ¬ (st.last.length : Int) < 4 := by omega
  clear h hc hR h4 hok
  go_enter Try.func50, Try.ntmps50
  go_wp2_with fail
  refine HS.out.mono ?_
  rintro e w1 ⟨rfl, rfl⟩
  go_wp2_with fail
  refine HC.out.mono ?_
  rintro e w1 ⟨c, rfl, hic, hcn, hm1⟩
  have HIC := hid hic
  have HCN := hid hcn
  have HM1 := hid hm1
  clear hic hcn hm1 HC
  go_wp2_with fail
  refine (cget_any w1 c p 0 _ HIC.out).mono ?_
  rintro e w2 ⟨rfl, hm2⟩
  have HM2 := hid (HM1.out.trans hm2)
  have HIC2 := hid (show IsCell w2 c p 0 ⟨0, 0, 0, 0⟩ from hm2.blk HIC.out (fun h => h))
  clear hm2 HIC HM1
  unfold V3
  dsimp only
  go_wp2_with fail
  have hW0 : Blk ((w2.alloc (.cells #[.int .i64 0, .int .i64 0, .int .i64 0] 129)).alloc (.cells #[.pointer (some ⟨p, 0, none⟩), .pointer (some ⟨c, 0, none⟩), .pointer none, .int .i64 0, .slice none 0 0] 132)) w2.heap.size 129 [.int .i64 0, .int .i64 0, .int .i64 0] := (Blk.new w2 129 _).alloc _
  have hW1 : Blk ((w2.alloc (.cells #[.int .i64 0, .int .i64 0, .int .i64 0] 129)).alloc (.cells #[.pointer (some ⟨p, 0, none⟩), .pointer (some ⟨c, 0, none⟩), .pointer none, .int .i64 0, .slice none 0 0] 132)) (w2.heap.size + 1) 132 [.pointer (some ⟨p, 0, none⟩), .pointer (some ⟨c, 0, none⟩), .pointer none, .int .i64 0, .slice none 0 0] := by
    have := Blk.new (w2.alloc (.cells #[.int .i64 0, .int .i64 0, .int .i64 0] 129)) 132 #[.pointer (some ⟨p, 0, none⟩), .pointer (some ⟨c, 0, none⟩), .pointer none, .int .i64 0, .slice none 0 0]
    rw [show (w2.alloc (.cells #[.int .i64 0, .int .i64 0, .int .i64 0] 129)).heap.size = w2.heap.size + 1 by simp] at this
    exact this
  have hWM : Mod None w2 ((w2.alloc (.cells #[.int .i64 0, .int .i64 0, .int .i64 0] 129)).alloc (.cells #[.pointer (some ⟨p, 0, none⟩), .pointer (some ⟨c, 0, none⟩), .pointer none, .int .i64 0, .slice none 0 0] 132)) := ((Mod.refl None w2).alloc _).alloc _
  generalize (w2.alloc (.cells #[.int .i64 0, .int .i64 0, .int .i64 0] 129)).alloc (.cells #[.pointer (some ⟨p, 0, none⟩), .pointer (some ⟨c, 0, none⟩), .pointer none, .int .i64 0, .slice none 0 0] 132) = W at *
  have HV := hid hW0
  have HO := hid hW1
  have HMW := hid (HM2.out.trans hWM)
  have HIC := hid (show IsCell W c p 0 ⟨0, 0, 0, 0⟩ from hWM.blk HIC2.out (fun h => h))
  have HSN := hid (show w.heap.size ≤ w2.heap.size + 1 from Nat.le_trans HM2.out.size (Nat.le_succ _))
  clear hW0 hW1 hWM HIC2 HM2
  have HPL := hid (place_any (HL.out.step HMW.out) H4.out 0 (Nat.zero_le _))
  generalize w2.heap.size + 1 = s at *
  generalize w2.heap.size = vb at *
  refine HPL.out.mono ?_
  rintro e w3 ⟨rfl, rfl⟩
  have u1 : W.cell? ⟨vb, 1, none⟩ = some (.int .i64 0) := HV.out.is rfl
  have u2 : W.cell? ⟨vb, 2, none⟩ = some (.int .i64 0) := HV.out.is rfl
  clear HPL
  go_wp2_with fail
  refine (jnew_any (HL.out.step HMW.out) HR.out H4.out (area := 0) (Nat.zero_le _)).mono ?_
  rintro e w5 ⟨j, v, hm5, rfl, hj5, hn5, hrow⟩
  obtain ⟨va, vc, rfl⟩ := hrow.shape
  have HO5 := hid (hm5.blk HO.out (fun h => h))
  have HIC5 := hid (show IsCell w5 c p 0 ⟨0, 0, 0, 0⟩ from hm5.blk HIC.out (fun h => h))
  have HM5 := hid (HMW.out.trans hm5)
  have HJ5 := hid hj5
  have HJN := hid (Nat.le_trans HMW.out.size hn5)
  clear hm5 hj5 hn5 hrow u1 u2 HO HIC HV
  have o2 : w5.cell? ⟨s, 2, none⟩ = some (.pointer none) := HO5.out.is rfl
  have of := HO5.out.free
  go_wp2_with fail
  refine wp_loop_rounds 1 ?_
  rw [rounds_succ]
  go_wp2_with fail
  go_ret2
  have hst : Mod (fun k => k = s) w5 (w5.setCell ⟨s, 2, none⟩ (.pointer (some ⟨j, 0, none⟩))) := Mod.set (S := fun k => k = s) (Mod.refl _ _) (.inl rfl) _
  exact open_done HL.out (HM5.out.set (.inr HSN.out) _) (HO5.out.set 2 _) (hst.blk HIC5.out (fun e => HO5.out.types HIC5.out (by decide) e.symm)) (hst.blk HJ5.out (fun e => HO5.out.types HJ5.out (by decide) e.symm)) HSN.out HCN.out HJN.out HOK.out rfl
end Go.Proofs.Ytdhhpnfdnoaihaa

/-! S10 -/
/- A store, whatever lies beneath it; awake of layer 6. -/
namespace Go.Proofs.Ytdhhpnfdnoaihaa
open Go.RowKit

/-- the store at s on the disk at p; T is what it owns -/
def IsStore (w0 w : World) (T : Nat → Prop) (s p : Nat) (σ : SSt) : Prop :=
  ∃ S c j v, StoreAt w0 w S s p c j v σ ∧ (∀ k, S k ∨ k = s ∨ k = c ∨ k = j ∨ v.ownBlock = some k → T k) ∧ ∀ k, T k → k < w.heap.size ∧ w0.heap.size ≤ k
section
variable {w0 w w' : World} {T : Nat → Prop} {s p : Nat} {σ : SSt}
theorem IsStore.mod (h : IsStore w0 w T s p σ) : Mod None w0 w := by
  obtain ⟨S, c, j, v, h, _⟩ := h; exact h.live.2.1
theorem IsStore.ok (h : IsStore w0 w T s p σ) : σ.Ok := by
  obtain ⟨S, c, j, v, h, _⟩ := h; exact h.ok
theorem IsStore.step (h : IsStore w0 w T s p σ) (hm : Mod None w w') : IsStore w0 w' T s p σ := by
  obtain ⟨S, c, j, v, h, h1, h2⟩ := h
  exact ⟨S, c, j, v, h.step hm, h1, fun k hk => ⟨Nat.lt_of_lt_of_le (h2 k hk).1 hm.size, (h2 k hk).2⟩⟩
theorem IsStore.of {S : Nat → Prop} {c j : Nat} {v : Value} (h : StoreAt w0 w S s p c j v σ) : IsStore w0 w (fun k => S k ∨ k = s ∨ k = c ∨ k = j ∨ v.ownBlock = some k) s p σ :=
  ⟨S, c, j, v, h, fun _ h => h, fun k hk => by
    rcases hk with hk | rfl | rfl | rfl | hk
    · exact ⟨h.live.lt k hk, h.live.2.2 k hk⟩
    · exact ⟨h.obj.lt, h.s0⟩
    · exact ⟨Blk.lt h.cell, h.c0⟩
    · exact ⟨Blk.lt h.log, h.j0⟩
    · obtain ⟨cs, hb⟩ := row_blk h.row hk
      exact ⟨hb.lt, h.v0 k hk⟩⟩
theorem IsStore.drew (h : IsStore w0 w T s p σ) : IsStore w0 w.drew T s p σ := h.step (Mod.refl _ _).drew
theorem IsStore.live (h : IsStore w0 w T s p σ) : ∃ S, Live w0 w S p σ.st ∧ ∀ k, S k → T k := by
  obtain ⟨S, c, j, v, h, h1, h2⟩ := h; exact ⟨S, h.live, fun k hk => h1 k (.inl hk)⟩
def SCommit (w0 w : World) (T : Nat → Prop) (s p : Nat) (r : SSt × Int) (e : Ending) (w' : World) : Prop := ∃ T', e = .returned (.int .i64 r.2) ∧ IsStore w0 w' T' s p r.1 ∧ Turn T T' w w'
theorem is_commit (h : IsStore w0 w T s p σ) (ht : σ.turn ≤ 1000000000) (l : List Ch) (a : Option Addr) (n k : Nat) (hn : n = l.length) (hr : RdV w a (rowC l)) (hfew : σ.has.length + l.length ≤ 900000) (hw1 : wtL l ≤ 100000000) (hw2 : wtL (allL σ.has l) ≤ 100000000) :
    Calls Try.prog 53 #[.pointer (some ⟨s, 0, none⟩), .slice a n k] w (SCommit w0 w T s p (σ.commit l)) := by
  obtain ⟨S, c, j, v, h, h1, h2⟩ := h
  refine (commit_any w0 w S s p c j v σ h ht l a n k hn hr hfew hw1 hw2).mono ?_
  rintro e w' ⟨S', j', v', he, h', hm, ho, hj, hv⟩
  refine ⟨_, he, IsStore.of h', hm.mono (fun k _ hk => ?_), fun k hk h => ?_⟩
  · rcases hk with hk | hk | hk | hk
    · exact h1 k (.inl hk)
    · exact h1 k (.inr (.inl hk))
    · exact h1 k (.inr (.inr (.inl hk)))
    · exact h1 k (.inr (.inr (.inr (.inl hk))))
  · rcases h with h | h | h | h | h
    · exact h1 k (.inl (ho k hk h))
    · exact h1 k (.inr (.inl h))
    · exact h1 k (.inr (.inr (.inl h)))
    · rcases hj with hj | hj
      · exact h1 k (.inr (.inr (.inr (.inl (h.trans hj)))))
      · omega
    · exact h1 k (.inr (.inr (.inr (.inr (hv k h hk)))))
theorem is_get (h : IsStore w0 w T s p σ) (key : List UInt8) (hfew : σ.has.length ≤ 1000000) : Calls Try.prog 57 #[.pointer (some ⟨s, 0, none⟩), Str key] w (CPost (.tuple #[Str (getL σ.has key).1, .bool (getL σ.has key).2]) w) := by
  obtain ⟨S, c, j, v, h, h1, h2⟩ := h; exact get_any h key hfew
theorem is_under (h : IsStore w0 w T s p σ) (pre : List UInt8) (hfew : σ.has.length ≤ 1000000) : Calls Try.prog 58 #[.pointer (some ⟨s, 0, none⟩), Str pre] w (RPost w (underL σ.has pre)) := by
  obtain ⟨S, c, j, v, h, h1, h2⟩ := h; exact under_any h pre hfew
theorem is_count (h : IsStore w0 w T s p σ) : Calls Try.prog 60 #[.pointer (some ⟨s, 0, none⟩)] w fun e w' => e = .returned (.int .i64 (σ.has.length : Int)) ∧ w = w' := by
  obtain ⟨S, c, j, v, h, h1, h2⟩ := h; exact scount_any h
/-- another call, which writes what the store does not hold -/
theorem is_open {S : Nat → Prop} {n : Nat} (h : Live w0 w S p (DSt.new n)) (h4 : 4 ≤ n) (hm : n ≤ 65536) : Calls Try.prog 50 #[.pointer (some ⟨p, 0, none⟩)] w fun e w' => ∃ s T, e = .returned (.tuple #[.pointer (some ⟨s, 0, none⟩), .int .i64 0]) ∧ IsStore w0 w' T s p (SSt.new (DSt.new n)) ∧ Mod None w w' := by
  refine (sopen_new w0 w S p (DSt.new n) h (by rw [new_len]; exact h4) (rest_of_new n) (new_cell n (by omega)) (SSt.new_ok n h4 hm)).mono ?_
  rintro e w' ⟨s, c, j, v, he, hs, hm, _⟩
  exact ⟨s, _, he, IsStore.of hs, hm⟩
end
/-- a batch for which there is room -/
theorem SSt.commits {σ : SSt} (h : σ.Ok) {l : List Ch} (hf : fits σ.st σ.en (encL l).length) : (σ.commit l).2 = 0 ∧ (σ.commit l).1.Ok ∧ (σ.commit l).1.has = allL σ.has l ∧ (σ.commit l).1.en = σ.en + (encL l).length + 16 ∧ (σ.commit l).1.turn = σ.turn + 1 ∧ halfN (σ.commit l).1.st = halfN σ.st := by
  obtain ⟨h1, h2⟩ := SSt.commit_ok h l
  have e : halfN (σ.commit l).1.st = halfN σ.st := by unfold halfN; rw [h2]
  rw [SSt.commit_fits hf] at *
  exact ⟨rfl, h1, rfl, rfl, rfl, e⟩
def kv (k v : List UInt8) (g : Bool) : Ch := ⟨k, v, g⟩
def al1 : List Ch := [kv [97] [49] false, kv [98] [50] false]
def al2 : List Ch := [kv [97] [] true]
def as0 : SSt := SSt.new (DSt.new 20)
def as1 : SSt := (as0.commit al1).1
def as2 : SSt := (as1.commit al2).1
theorem as_half : halfN as0.st = 9 := by show halfN (DSt.new 20) = 9; unfold halfN; rw [new_len]
theorem as1_all : (as0.commit al1).2 = 0 ∧ as1.Ok ∧ as1.has = al1 ∧ as1.en = 62 ∧ as1.turn = 1 ∧ halfN as1.st = 9 := by
  obtain ⟨h1, h2, h3, h4, h5, h6⟩ := SSt.commits (σ := as0) (l := al1) (SSt.new_ok 20 (by omega) (by omega)) ⟨by decide, by rw [as_half]; decide⟩
  exact ⟨h1, h2, h3.trans (by decide +kernel), h4.trans (by decide +kernel), h5, h6.trans as_half⟩
theorem as2_all : (as1.commit al2).2 = 0 ∧ as2.Ok ∧ as2.has = [kv [98] [50] false] ∧ as2.turn = 2 := by
  obtain ⟨_, g1, g2, g3, g4, g5⟩ := as1_all
  obtain ⟨h1, h2, h3, h4, h5, h6⟩ := SSt.commits (σ := as1) (l := al2) g1 ⟨by decide, by rw [g5, g3]; decide⟩
  exact ⟨h1, h2, h3.trans (by rw [g2]; decide +kernel), h5.trans (by rw [g4])⟩
theorem rows2 (w : World) (C : Array Value) (l : List Ch) (hC : C = (rowC l).toArray) (q : Nat) (hq : q = w.heap.size) : RdV (w.alloc (.cells C 89)) (some ⟨q, 0, none⟩) (rowC l) := by
  subst hC hq
  exact (Blk.new w 89 _).rdv 0 (fun i hi => by rw [Nat.zero_add])
set_option maxRecDepth 100000 in
set_option maxHeartbeats 1600000 in
theorem awake6_any (w : World) : Calls Try.prog 51 #[] w fun e w' => e = .returned (.bool true) ∧ Mod None w w' := by
  go_enter Try.func51, Try.ntmps51
  go_wp2_with fail
  refine (live_new w w (Mod.refl _ _) 20 20 (by omega)).mono ?_
  rintro e w1 ⟨p, S, rfl, hl, _, _⟩
  have HL := hid hl
  clear hl
  go_wp2_with fail
  refine (is_open HL.out (by omega) (by omega)).mono ?_
  rintro e w2 ⟨s, T, rfl, hs, _⟩
  have HS : Hid (IsStore w w2 T s p as0) := hid hs
  clear hs HL
  go_wp2_with fail
  have HC1 := hid (is_commit (HS.out.step ((Mod.refl None w2).alloc (.cells #[.string { data := #[97] }, .string { data := #[49] }, .bool false, .string { data := #[98] }, .string { data := #[50] }, .bool false] 89))) (by decide) al1 (some ⟨w2.heap.size, 0, none⟩) 2 2 rfl (rows2 w2 _ al1 rfl _ rfl) (by decide) (by decide) (by decide +kernel))
  unfold SCommit at HC1
  rw [as1_all.1] at HC1
  refine HC1.out.mono ?_
  rintro e w3 ⟨T3, rfl, hs3, _⟩
  have HS3 : Hid (IsStore w w3 T3 s p as1) := hid hs3
  clear hs3 HC1 HS
  go_wp2_with fail
  have HC2 := hid (is_commit (HS3.out.step ((Mod.refl None w3).alloc (.cells #[.string { data := #[97] }, .string { data := #[] }, .bool true] 89))) (by rw [as1_all.2.2.2.2.1]; decide) al2 (some ⟨w3.heap.size, 0, none⟩) 1 1 rfl (rows2 w3 _ al2 rfl _ rfl) (by rw [as1_all.2.2.1]; decide) (by decide) (by rw [as1_all.2.2.1]; decide +kernel))
  unfold SCommit at HC2
  rw [as2_all.1] at HC2
  refine HC2.out.mono ?_
  rintro e w4 ⟨T4, rfl, hs4, _⟩
  have HS4 : Hid (IsStore w w4 T4 s p as2) := hid hs4
  clear hs4 HC2 HS3
  have HU := hid (is_under HS4.out [] (by rw [as2_all.2.2.1]; decide))
  rw [show underL as2.has [] = [kv [98] [50] false] by rw [as2_all.2.2.1]; decide +kernel] at HU
  unfold Str at HU
  go_wp2_with fail
  refine HU.out.mono ?_
  rintro e w5 ⟨a5, c5, rfl, h5⟩
  obtain ⟨ra, rc, re, hrd⟩ := h5.shape
  obtain ⟨rfl, rfl⟩ : a5 = ra ∧ c5 = rc := by injection re with e1 e2 e3; exact ⟨e1, e3⟩
  obtain ⟨b, o, rfl, k0, k1, k2⟩ := rd_ch hrd (k := 0) (by decide)
  have HS5 := hid (HS4.out.step h5.mod)
  clear HU HS4 re hrd h5
  have HG := hid (is_get HS5.out [97] (by rw [as2_all.2.2.1]; decide))
  rw [show getL as2.has [97] = ([], false) by rw [as2_all.2.2.1]; decide +kernel] at HG
  unfold Str at HG
  go_wp2_with fail
  refine HG.out.mono ?_
  rintro e w6 ⟨rfl, hm6⟩
  have d0 : w6.cell? ⟨b, o, none⟩ = some (.string { data := #[98] }) := hm6.cell0 k0
  have d1 : w6.cell? ⟨b, o + 1, none⟩ = some (.string { data := #[50] }) := hm6.cell0 k1
  have d2 : w6.cell? ⟨b, o + 2, none⟩ = some (.bool false) := hm6.cell0 k2
  have HS6 := hid (HS5.out.step hm6)
  clear HG HS5 hm6 k0 k1 k2
  have HN := hid (is_count HS6.out)
  rw [as2_all.2.2.1] at HN
  go_wp2_with fail
  refine HN.out.mono ?_
  rintro e w7 ⟨rfl, rfl⟩
  go_wp2_with fail
  go_ret
  exact ⟨rfl, HS6.out.mod⟩
end Go.Proofs.Ytdhhpnfdnoaihaa
