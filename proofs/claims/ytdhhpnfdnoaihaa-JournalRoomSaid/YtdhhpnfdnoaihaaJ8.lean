/- A loop over a journal's sectors. -/
import Derived.Test.YtdhhpnfdnoaihaaJ6
namespace Go.Proofs.Ytdhhpnfdnoaihaa
open Go.RowKit

def bodyQ (B : Nat) (I' Ix : World → Prop) (W : World) : Exit → Act → World → Prop
  | .normal, _, W' => (∀ x, B ≤ x → x ≤ B + 1 → W'.heap[x]? = W.heap[x]?) ∧ I' W'
  | .ret, _, W' => (∀ x, B ≤ x → x ≤ B + 1 → W'.heap[x]? = W.heap[x]?) ∧ Ix W'
  | _, _, _ => False
set_option maxHeartbeats 1000000 in
theorem wp_sectors {assign body : Code} {Q : Exit → Act → World → Prop} {act : Act} {W4 : World} {g : Operand} {bj ba bf j fr at' i0 : Nat} {f : List UInt8} (hfl : f.length ≤ 100000000)
    (hg : act.eval g = .func (.func 101) #[] #[.pointer (some ⟨bj, 0, none⟩), .pointer (some ⟨ba, 0, none⟩), .pointer (some ⟨bf, 0, none⟩)])
    (I I' : Nat → Option Addr → Nat → World → Prop) (Ix : World → Prop)
    (hIp : ∀ k a c W l o o', W4.heap.size ≤ l → l ≤ W4.heap.size + 1 → W.heap[l]? = some o → I k a c W → I k a c (W.putObj l o'))
    (hIp' : ∀ k a c W l o o', W4.heap.size ≤ l → l ≤ W4.heap.size + 1 → W.heap[l]? = some o → I' k a c W → I' k a c (W.putObj l o'))
    (hIpx : ∀ W l o o', W4.heap.size ≤ l → l ≤ W4.heap.size + 1 → W.heap[l]? = some o → Ix W → Ix (W.putObj l o'))
    (a0 : Option Addr) (c0 : Nat) (h0 : ∀ o1 o2, I 0 a0 c0 ((W4.alloc o1).alloc o2)) (hId : ∀ k a c W n, I k a c W → I k a c (W.drewN n))
    (hI : ∀ k a c W, I k a c W → W.cell? ⟨bf, 0, none⟩ = some (.slice a (f.length - 64 * k) c) ∧ W.frozen? ⟨bf, 0, none⟩ = false ∧ Rd W a (f.drop (64 * k)) ∧ f.length - 64 * k ≤ c ∧ c ≤ maxLen)
    (hN : ∀ k a c W, I' k a c W → W.cell? ⟨bf, 0, none⟩ = some (.slice a (f.length - 64 * k) c) ∧ W.frozen? ⟨bf, 0, none⟩ = false ∧ Rd W a (f.drop (64 * k)) ∧
      ∀ a2 c2, Rd W a2 (f.drop (64 * (k + 1))) → (∃ m, a2 = a ∨ a2 = Option.map (fun x => x.add m) a) → f.length - 64 * (k + 1) ≤ c2 → c2 ≤ maxLen → I (k + 1) a2 c2 (W.setCell ⟨bf, 0, none⟩ (.slice a2 (f.length - 64 * (k + 1)) c2)))
    (hbf : bf < W4.heap.size) (hbj : W4.cell? ⟨bj, 0, none⟩ = some (.pointer (some ⟨j, 0, none⟩))) (hba : W4.cell? ⟨ba, 0, none⟩ = some (.int .i64 (at' : Int))) (hfr : W4.cell? ⟨j, 1, none⟩ = some (.int .i64 (fr : Int)))
    (hi0 : i0 = fr + at' / 64) (hb : fr ≤ 65536 ∧ at' ≤ 4194304)
    (a1 : Value → Value → Act) (hassign : ∀ l x v W (K : Act → World → Prop), K (a1 x v) W →
      assign.wpIn (Fence.wide.inRound l) 3 Try.prog (Exit.then K (fun _ _ _ => False)) { tmps := (act.tmps.setIfInBounds 80 x).setIfInBounds 81 v, defers := [] } W)
    (hbody : ∀ l k a c W, I k a c W → 64 * k < f.length → body.wpIn (Fence.wide.inRound l) 3 Try.prog (bodyQ W4.heap.size (I' k a c) Ix W) (a1 (.int .i64 ((i0 : Int) + (k : Int))) (.slice a (Nat.min (f.length - 64 * k) 64) c)) W)
    (hdone : ∀ k a c W, f.length ≤ 64 * k → I k a c W → W.heap[W4.heap.size]? = some (.deferred (some [])) → Q .normal { act with defers := { target := .collected W4.heap.size, args := #[] } :: act.defers } W)
    (hstop : ∀ W, Ix W → W.heap[W4.heap.size]? = some (.deferred (some [])) → Code.ret.wp Try.prog Q { act with defers := { target := .collected W4.heap.size, args := #[] } :: act.defers } W) :
    (Code.rangeFunc g #[80, 81] assign body).wp Try.prog Q act W4 := by
  refine (wpIn_wide (n := 5)).1 (wpIn_rangeFunc ?_)
  intro fn hfn
  obtain ⟨rec, hrec⟩ : ∃ rec : LoopState → Option Code → Loop, rec = fun st pe => { state := st, pending := pe, fn, tmps := act.tmps, params := #[80, 81], assign, body, defers := W4.heap.size } := ⟨_, rfl⟩
  obtain ⟨W5, hW5⟩ : ∃ W5, (W4.alloc (.deferred (some []))).alloc (.loop (rec .ready none)) = W5 := ⟨_, rfl⟩
  have hL : W5.heap[W4.heap.size + 1]? = some (.loop (rec .ready none)) := by
    rw [← hW5]; have := World.alloc_heap_new (w := W4.alloc (.deferred (some []))) (.loop (rec .ready none)); rwa [World.size_alloc] at this
  have hD : W5.heap[W4.heap.size]? = some (.deferred (some [])) := by
    rw [← hW5]; exact (Below.heap_alloc _ _ _ (by simp)).trans (World.alloc_heap_new (w := W4) _)
  have hm5 : Mod None W4 W5 := by rw [← hW5]; exact ((Mod.refl _ _).alloc _).alloc _
  have c5 : ∀ {x : Addr} {v : Value}, W4.cell? x = some v → W5.cell? x = some v := fun h => (hm5.cell (World.block_lt_of_cell? W4 _ h) (fun h => h)).trans h
  have h05 : I 0 a0 c0 W5 := by rw [← hW5]; exact h0 _ _
  refine ⟨W4.heap.size + 1, [{ target := .collected W4.heap.size, args := #[] }], W5, { target := .fn (.func 101) #[.pointer (some ⟨bj, 0, none⟩), .pointer (some ⟨ba, 0, none⟩), .pointer (some ⟨bf, 0, none⟩)], args := #[.func (.yield (W4.heap.size + 1)) #[] #[]] }, W5, 101,
    #[.func (.yield (W4.heap.size + 1)) #[] #[], .pointer (some ⟨bj, 0, none⟩), .pointer (some ⟨ba, 0, none⟩), .pointer (some ⟨bf, 0, none⟩)], W5, ?_, ?_, fun _ _ => trivial, ?_, fun _ => by omega, ?_⟩
  · rw [← hW5, hrec]; exact run_enterLoop_outer _ _ _ _ _
  · simp only [resolve, hg]
    simp [go_sem]
  · simp [invoke, go_sem]
  · have hset : ∀ (W : World) (v : Value) (x : Nat) (o : Obj), W4.heap.size ≤ x → W.heap[x]? = some o → (W.setCell ⟨bf, 0, none⟩ v).heap[x]? = some o := fun W v x o hx ho => by
      have hm : Mod (fun k => k = bf) W (W.setCell ⟨bf, 0, none⟩ v) := Mod.set (S := fun k => k = bf) (Mod.refl _ _) (.inl rfl) v
      rw [hm.block x (Array.getElem?_eq_some_iff.1 ho).1 (fun e => by omega)]; exact ho
    refine (iter_in (W4.heap.size + 1) bj ba bf j fr at' i0 f hfl
      (fun k a c W => I k a c W ∧ W.heap[W4.heap.size + 1]? = some (.loop (rec .ready none)) ∧ W.heap[W4.heap.size]? = some (.deferred (some [])))
      (fun k a c W => I' k a c W ∧ W.heap[W4.heap.size + 1]? = some (.loop (rec .ready none)) ∧ W.heap[W4.heap.size]? = some (.deferred (some [])))
      (fun W => Ix W ∧ W.heap[W4.heap.size + 1]? = some (.loop (rec .done (some .ret))) ∧ W.heap[W4.heap.size]? = some (.deferred (some [])))
      (fun k a c W n ⟨h1, h2, h3⟩ => ⟨hId k a c W n h1, h2, h3⟩) (fun k a c W ⟨h1, _, _⟩ => hI k a c W h1) ?_ ?_ W5 a0 c0 ⟨h05, hL, hD⟩ (c5 hbj) (c5 hba) (c5 hfr) hi0 hb).mono ?_
    · rintro k a c W ⟨hi, hl, hk⟩ hlen
      have hlt : W4.heap.size + 1 < W.heap.size := (Array.getElem?_eq_some_iff.1 hl).1
      have hy := run_yield (P := Try.prog) (args := #[.int .i64 ((i0 : Int) + (k : Int)), .slice a (Nat.min (f.length - 64 * k) 64) c]) hl (by rw [hrec]; rfl)
      have hl2 : (W.putObj (W4.heap.size + 1) (.loop { rec .ready none with state := .busy })).heap[W4.heap.size + 1]? = some (.loop { rec .ready none with state := .busy }) := World.putObj_heap_same hlt
      have hk2 : (W.putObj (W4.heap.size + 1) (.loop { rec .ready none with state := .busy })).heap[W4.heap.size]? = some (.deferred (some [])) := (World.putObj_heap_other (by omega)).trans hk
      have hbr := run_beginRound (P := Try.prog) hl (by rw [hrec])
      rw [hrec] at hy
      have htm : ((#[80, 81] : Array Tmp).zip #[Value.int .i64 ((i0 : Int) + (k : Int)), .slice a (Nat.min (f.length - 64 * k) 64) c]).foldl (fun t (p, v) => t.setIfInBounds p v) act.tmps = (act.tmps.setIfInBounds 80 (.int .i64 ((i0 : Int) + (k : Int)))).setIfInBounds 81 (.slice a (Nat.min (f.length - 64 * k) 64) c) := by simp
      simp only [htm] at hy
      refine ⟨fn, _, assign, body, hy, roundIn_of_wpIn hfn ?_⟩
      refine hassign _ (.int .i64 ((i0 : Int) + (k : Int))) (.slice a (Nat.min (f.length - 64 * k) 64) c) W _ ?_
      refine ⟨_, hbr, ?_⟩
      refine wpIn_mono (hbody _ k a c _ (hIp k a c W _ _ _ (by omega) (by omega) hl hi) hlen) ?_
      rintro e a3 W3 hp
      cases e with
      | normal =>
        obtain ⟨hkp, hi3⟩ := hp
        have hl3 := (hkp (W4.heap.size + 1) (by omega) (by omega)).trans hl2
        have hk3 := (hkp W4.heap.size (by omega) (by omega)).trans hk2
        have hr := run_endRound (P := Try.prog) none hl3
        refine ⟨_, _, hr, .inl ⟨rfl, hIp' k a c W3 _ _ _ (by omega) (by omega) hl3 hi3, ?_, (World.putObj_heap_other (by omega)).trans hk3⟩⟩
        rw [World.putObj_heap_same (Array.getElem?_eq_some_iff.1 hl3).1, hrec]; rfl
      | ret =>
        obtain ⟨hkp, hi3⟩ := hp
        have hl3 := (hkp (W4.heap.size + 1) (by omega) (by omega)).trans hl2
        have hk3 := (hkp W4.heap.size (by omega) (by omega)).trans hk2
        have hr := run_endRound (P := Try.prog) (some .ret) hl3
        refine ⟨_, _, hr, .inr ⟨rfl, hIpx W3 _ _ _ (by omega) (by omega) hl3 hi3, ?_, (World.putObj_heap_other (by omega)).trans hk3⟩⟩
        rw [World.putObj_heap_same (Array.getElem?_eq_some_iff.1 hl3).1, hrec]; rfl
      | exit id => exact hp.elim
      | goto t => exact hp.elim
      | panic ch => exact hp.elim
      | outgrown => exact hp.elim
    · rintro k a c W ⟨hi, hl, hk⟩
      obtain ⟨e1, e2, e3, e4⟩ := hN k a c W hi
      exact ⟨e1, e2, e3, fun a2 c2 g1 g2 g3 g4 => ⟨e4 a2 c2 g1 g2 g3 g4, hset _ _ _ _ (by omega) hl, hset _ _ _ _ (by omega) hk⟩⟩
    · rintro e W2 ⟨⟨v, rfl⟩, (⟨k, a, c, hle, hi, hl, hk⟩ | ⟨hx, hl, hk⟩)⟩
      · have hr := run_endLoop (P := Try.prog) hl (by rw [hrec]; simp)
        have hp : (rec .ready none).pending = none := by rw [hrec]
        rw [hp] at hr
        exact ⟨none, _, hr, hdone k a c _ hle (hIp k a c W2 _ _ _ (by omega) (by omega) hl hi) ((World.putObj_heap_other (by omega)).trans hk)⟩
      · have hr := run_endLoop (P := Try.prog) hl (by rw [hrec]; simp)
        have hp : (rec .done (some .ret)).pending = some .ret := by rw [hrec]
        rw [hp] at hr
        exact ⟨some .ret, _, hr, wpIn_wide.2 (hstop _ (hIpx W2 _ _ _ (by omega) (by omega) hl hx) ((World.putObj_heap_other (by omega)).trans hk))⟩
end Go.Proofs.Ytdhhpnfdnoaihaa
