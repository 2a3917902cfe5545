/- Rows that are owned, and what is put behind them. -/
import Derived.Test.YtekobigoekfckaaB1
import Derived.Test.YtekobigoekfckaaProg
namespace Go.Proofs.Ytekobigoekfckaa
open Go.RowKit

section
variable {P : Program} {w : World}
theorem run_append_owned_none' (base : Nat) (t ty e : TypeId) (i : TypeInfo) (size : Nat) (ht : P.underlying t = some (.slice e)) (hi : P.info? e = some i)
    (v : Value) (n : Nat) (xs : List Value) (hown : w.ownsRow base e size v n xs) (c : Nat) :
    (Builtin.append_ #[t, t] ty #[v, .slice none 0 c]).run P w = .ok v w := by
  rcases hown.2 with ⟨rfl, rfl⟩ | ⟨g, cap, cur, rfl, _, _, hnc, _⟩
  · simp [Builtin.append_, run_underlying ht, sizeOf, typeInfo, hi, Builtin.lenOf, Builtin.firstCells]
  · simp [Builtin.append_, run_underlying ht, sizeOf, typeInfo, hi, Builtin.lenOf, Builtin.firstCells, hnc, storeCells]
theorem addr_add (b o j : Nat) : (⟨b, o, none⟩ : Addr).add j = ⟨b, o + j, none⟩ := by
  unfold Addr.add
  split
  · rename_i h; subst h; rfl
  · rfl
end
theorem grown_mod {w w' : World} {row : Option Nat} (h : w.grownBy w' row) {S : Nat → Prop} (hS : ∀ k, row = some k → k < w.heap.size → S k) : Mod S w w' :=
  ⟨h.os, h.tape, h.output, h.size, fun k hk hn => h.block k hk (fun e => hn (hS k e.symm hk))⟩
theorem rint {k : IntKind} {a b : Int} (h : a = b) : Ending.returned (Value.int k a) = .returned (.int k b) := by rw [h]
theorem rbool {a b : Bool} (h : a = b) : Ending.returned (Value.bool a) = .returned (.bool b) := by rw [h]
def Ones (l : List Value) : Prop := ∀ v ∈ l, v.oneCell' = true
def OwnR (w : World) (S : Nat → Prop) (e : TypeId) (size : Nat) (v : Value) (n : Nat) (xs : List Value) : Prop := w.ownsRow 0 e size v n xs ∧ ∀ g, v.ownBlock = some g → S g
theorem OwnR.shape {w : World} {S : Nat → Prop} {e size : Nat} {v : Value} {n : Nat} {xs : List Value} (h : OwnR w S e size v n xs) :
    ∃ a c, v = .slice a n c ∧ n ≤ c ∧ c ≤ maxLen := by
  rcases h.1.2 with ⟨rfl, rfl⟩ | ⟨g, cap, cur, rfl, _, _, h1, h2, _⟩
  · exact ⟨none, 0, rfl, by simp, by simp⟩
  · exact ⟨_, cap, rfl, h1, h2⟩
theorem OwnR.open1 {w : World} {S : Nat → Prop} {e size : Nat} {v : Value} {n : Nat} {xs : List Value} (h : OwnR w S e size v n xs) (hn : 0 < n) :
    ∃ g cap rest, v = .slice (some ⟨g, 0, none⟩) n cap ∧ S g ∧ Blk w g e (xs ++ rest) ∧ n ≤ cap ∧ cap ≤ maxLen ∧ (xs ++ rest).length = cap * size ∧ xs.length = n * size := by
  obtain ⟨⟨h0, h1⟩, hS⟩ := h
  rcases h1 with ⟨rfl, rfl⟩ | ⟨g, cap, cur, rfl, _, hg, h1, h2, h3, h4⟩
  · omega
  · refine ⟨g, cap, cur.toList.drop (n * size), rfl, hS g rfl, ?_, h1, h2, ?_, h0⟩
    · unfold Blk; rw [← h4, List.take_append_drop]; exact hg
    · rw [← h4, List.take_append_drop]; simpa using h3
theorem OwnR.kept {w w' : World} {S S' T : Nat → Prop} {e size : Nat} {v : Value} {n : Nat} {xs : List Value} (h : OwnR w S e size v n xs) (hm : Mod T w w') (hT : ∀ g, v.ownBlock = some g → ¬ T g) (hS : ∀ g, S g → S' g) : OwnR w' S' e size v n xs := by
  obtain ⟨⟨h1, h2⟩, h3⟩ := h
  refine ⟨⟨h1, ?_⟩, fun g hg => hS g (h3 g hg)⟩
  rcases h2 with h2 | ⟨g, cap, cur, rfl, hb, hg, r⟩
  · exact .inl h2
  · refine .inr ⟨g, cap, cur, rfl, hb, ?_, r⟩
    rw [hm.block g (Array.getElem?_eq_some_iff.1 hg).1 (hT g rfl)]; exact hg

/-- S, and what is new -/
def Grow (S : Nat → Prop) (w w' : World) (k : Nat) : Prop := S k ∨ (w.heap.size ≤ k ∧ k < w'.heap.size)
theorem growBy_le (newLen : Nat) : ∀ (rounds c : Nat), c < newLen → Builtin.growBy newLen rounds c ≤ newLen + newLen / 4 + 256 ∧ Builtin.growBy newLen rounds c ≤ newLen + newLen / 4 + 256
  | 0, c, h => by unfold Builtin.growBy; omega
  | r + 1, c, h => by
    unfold Builtin.growBy
    rw [if_neg (by omega)]
    by_cases h' : c + (c + 768) / 4 < newLen
    · exact growBy_le newLen r _ h'
    · have : Builtin.growBy newLen r (c + (c + 768) / 4) = c + (c + 768) / 4 := by
        cases r with
        | zero => rfl
        | succ r => unfold Builtin.growBy; rw [if_pos (by omega)]
      rw [this]; omega
theorem nextslicecap_bound {need old : Nat} (h : old < need) : Builtin.nextslicecap need old ≤ need + need / 4 + 256 := by
  unfold Builtin.nextslicecap
  split
  · omega
  · split
    · omega
    · exact (growBy_le need 4 old h).1
section
variable {P : Program} {w : World}
theorem ownsRow_at {g cap n : Nat} {e : TypeId} {size : Nat} {xs : List Value} {cur : Array Value} (hlen : xs.length = n * size) (hg : w.heap[g]? = some (.cells cur e (0, 0))) (hn : n ≤ cap) (hc : cap ≤ maxLen) (hs : cur.size = cap * size) (ht : cur.toList.take (n * size) = xs) :
    w.ownsRow 0 e size (.slice (some ⟨g, 0, none⟩) n cap) n xs := ⟨hlen, .inr ⟨g, cap, cur, rfl, Nat.zero_le _, hg, hn, hc, hs, ht⟩⟩
theorem run_append_R (t ty e : TypeId) (i : TypeInfo) (z : Value) (size bytes : Nat) (ht : P.underlying t = some (.slice e)) (hi : P.info? e = some i) (hz : i.zero = some z)
    (hsize : i.size = size) (hby : i.bytes = bytes) (hzs : z.cells.size = size) (hsz : 0 < size)
    (v : Value) (n : Nat) (xs : List Value) (hown : w.ownsRow 0 e size v n xs)
    (sa : Option Addr) (m c : Nat) (news : List Value) (hl : news.length = m * size) (hr : RdV w sa news) (h1 : Ones news)
    (h63 : n + m ≤ maxLen) (hbytes : ((n + m) + (n + m) / 4 + 256) * bytes ≤ 281474976710656) :
    ∃ v' w', (Builtin.append_ #[t, t] ty #[v, .slice sa m c]).run P w = .ok v' w' ∧ w'.ownsRow 0 e size v' (n + m) (xs ++ news) ∧ Mod (fun k => v.ownBlock = some k) w w' ∧
      ∀ g, v'.ownBlock = some g → v.ownBlock = some g ∨ (w.heap.size ≤ g ∧ g < w'.heap.size) := by
  subst hsize
  subst hby
  cases sa with
  | none =>
    have hn : news = [] := by
      rcases hr with h | ⟨_, _, h, _⟩
      · exact h
      · cases h
    subst hn
    obtain rfl : m = 0 := by
      have : m * i.size = 0 := by simpa using hl.symm
      rcases Nat.mul_eq_zero.1 this with h | h
      · exact h
      · omega
    exact ⟨v, w, run_append_owned_none' 0 t ty e i i.size ht hi v n xs hown c, by simpa using hown, Mod.refl _ _, fun g hg => .inl hg⟩
  | some a =>
    have hnews : ∀ j u, news[j]? = some u → w.cell? (a.add j) = some u := by
      intro j u hj
      rcases hr with h | ⟨b, o, h, hc⟩
      · subst h; simp at hj
      · cases h
        have hlt : j < news.length := by
          rcases Nat.lt_or_ge j news.length with h | h
          · exact h
          · rw [List.getElem?_eq_none h] at hj; cases hj
        rw [addr_add, hc j hlt, hj]
    have hsmall : n + m ≤ 9223372036854775807 := by simp only [maxLen] at h63; omega
    have hlen : (xs ++ news).length = (n + m) * i.size := by rw [List.length_append, hown.1, hl, Nat.add_mul]
    have grown : ∀ (old : Nat),
        (w.drew.alloc (.cells (xs.toArray ++ news.toArray ++ Builtin.zeroCells z.cells (grownCap w (n + m) old e - (n + m))) e)).ownsRow 0 e i.size
          (.slice (some ⟨w.heap.size, 0, none⟩) (n + m) (grownCap w (n + m) old e)) (n + m) (xs ++ news) := by
      intro old
      have hge := grownCap_ge w (n + m) old e
      refine ownsRow_at hlen (heap_alloc_new w.drew _) hge (grownCap_le_maxLen w (n + m) old e h63) ?_ ?_
      · simp only [Array.size_append, List.size_toArray, size_zeroCells, hzs, hown.1, hl, ← Nat.add_mul]
        congr 1
        omega
      · simp only [Array.toList_append, List.append_assoc]
        rw [← List.append_assoc, ← hlen]
        exact List.take_left
    have hmod : ∀ (T : Nat → Prop) (o : Obj), Mod T w (w.drew.alloc o) := fun T o => ((Mod.refl T w).drew).alloc o
    rcases hown.2 with ⟨rfl, rfl⟩ | ⟨g, cap, cur, rfl, _, hg, hnc, hcm, hcs, htake⟩
    · have hx : xs = [] := List.eq_nil_of_length_eq_zero (by simpa using hown.1)
      subst hx
      by_cases hm : m = 0
      · subst hm
        have hn : news = [] := List.eq_nil_of_length_eq_zero (by simpa using hl)
        subst hn
        refine ⟨.slice none 0 0, w, ?_, World.ownsRow_nil w 0 e i.size, Mod.refl _ _, fun g hg => .inl hg⟩
        simp [Builtin.append_, run_underlying ht, sizeOf, typeInfo, hi, Builtin.lenOf, Builtin.firstCells, loadCells, loadCellsFrom]
      · have hb2 : m * i.bytes ≤ 281474976710656 := Nat.le_trans (Nat.mul_le_mul_right _ (by omega)) hbytes
        have hr' := run_append_nil (P := P) w t ty e i z ht hi hz a m c news hl hnews (by omega) (by omega) hb2
        have hgr := grown 0
        simp only [Nat.zero_add, List.nil_append, Array.empty_append] at hgr ⊢
        exact ⟨_, _, hr', hgr, hmod _ _, fun g hg => .inr (by simp [Value.ownBlock] at hg; subst hg; simp)⟩
    · by_cases hroom : n + m ≤ cap
      · have hfit : n * i.size + news.length ≤ cur.size := by rw [hl, hcs, ← Nat.add_mul]; exact Nat.mul_le_mul_right _ hroom
        have hr' := run_append_room (P := P) w t ty e i ht hi g n cap cur hg a m c news hl hnews h1 hroom hfit
        refine ⟨_, _, hr', ownsRow_at hlen (setRow_heap w g cur _ e _ hg) hroom hcm ?_ ?_, (Mod.row (S := fun k => (Value.slice (some ⟨g, 0, none⟩) n cap).ownBlock = some k) (Mod.refl _ _) (.inl rfl) _), fun g' hg' => .inl (by simpa [Value.ownBlock] using hg')⟩
        · simp only [List.size_toArray, List.length_append, List.length_take, List.length_drop, Array.length_toList]
          omega
        · rw [htake, ← hlen]
          exact List.take_left
      · have holds : ∀ j u, xs[j]? = some u → w.cell? ((⟨g, 0, none⟩ : Addr).add j) = some u := hown.cells (g := g) rfl
        have hfit : Builtin.nextslicecap (n + m) cap * i.bytes ≤ 281474976710656 := Nat.le_trans (Nat.mul_le_mul_right _ (nextslicecap_bound (by omega))) hbytes
        have hr' := run_append_grow (P := P) w t ty e i z ht hi hz ⟨g, 0, none⟩ n cap xs hown.1 holds a m c news hl hnews (by omega) (by omega) hfit
        exact ⟨_, _, hr', grown cap, hmod _ _, fun g hg => .inr (by simp [Value.ownBlock] at hg; subst hg; simp)⟩
end
/-- append at whatever place of a walk -/
theorem wp_append_R {P : Program} {w : World} {o : Oper} {a : Act} {K : Act → World → Prop} {Q : Exit → Act → World → Prop} (s x : Operand) (t : TypeId)
    (ho : o.op = .call { callee := .builtin .append, args := #[s, x], argTypes := #[t, t] })
    (e : TypeId) (i : TypeInfo) (z : Value) (size bytes : Nat) (ht : P.underlying t = some (.slice e)) (hi : P.info? e = some i) (hz : i.zero = some z)
    (hsize : i.size = size) (hby : i.bytes = bytes) (hzs : z.cells.size = size) (hsz : 0 < size)
    (v : Value) (n : Nat) (xs : List Value) (hs : a.eval s = v) (hown : w.ownsRow 0 e size v n xs)
    (sa : Option Addr) (m c : Nat) (news : List Value) (hx : a.eval x = .slice sa m c) (hl : news.length = m * size) (hr : RdV w sa news) (h1 : Ones news)
    (h63 : n + m ≤ maxLen) (hbytes : ((n + m) + (n + m) / 4 + 256) * bytes ≤ 281474976710656)
    (h : ∀ va vc w', Hid (w'.ownsRow 0 e size (.slice va (n + m) vc) (n + m) (xs ++ news)) → Hid (Mod (fun k => v.ownBlock = some k) w w') →
      Hid (∀ g, (Value.slice va (n + m) vc).ownBlock = some g → v.ownBlock = some g ∨ (w.heap.size ≤ g ∧ g < w'.heap.size)) → K (a.put o.dst (.slice va (n + m) vc)) w') : o.wp P a w K Q := by
  obtain ⟨v', w', hr, h2, h3, h4⟩ := run_append_R (P := P) t o.type e i z size bytes ht hi hz hsize hby hzs hsz v n xs hown sa m c news hl hr h1 h63 hbytes
  have hsh : ∃ va vc, v' = .slice va (n + m) vc := by
    rcases h2.2 with ⟨rfl, h⟩ | ⟨g, cap, cur, rfl, _⟩
    · exact ⟨none, 0, by rw [h]⟩
    · exact ⟨_, _, rfl⟩
  obtain ⟨va, vc, rfl⟩ := hsh
  unfold Oper.wp execOp
  simp only [ho, resolve, invoke, builtin, Sem.run_bind, Sem.run_pure, Result.andThen_ok, List.map_toArray, List.map_cons, List.map_nil, hs, hx, hr]
  exact h va vc w' h2 h3 h4
theorem step_of {P : Program} {ops : Array Oper} {o : Oper} {a : Act} {w : World} {K : Act → World → Prop} {Q : Exit → Act → World → Prop} {E : Prop} (hgd : o.guard = none) (h : o.wp P a w K Q) :
    if Region.wanted o (yielded ops a.tmps) = true then Oper.wp P o a w K Q else E := by
  rw [if_pos (by simp [Region.wanted, hgd])]; exact h
theorem owns_empty (w : World) (e : TypeId) (size : Nat) : (w.alloc (.cells #[] e)).ownsRow 0 e size (.slice (some ⟨w.heap.size, 0, none⟩) 0 0) 0 [] :=
  ⟨by simp, .inr ⟨w.heap.size, 0, #[], rfl, Nat.zero_le _, heap_alloc_new w _, by simp, by simp [maxLen], by simp, by simp⟩⟩
/-- a row of the call's own -/
def ClonePost (e size n : Nat) (xs : List Value) (w : World) (en : Ending) (w' : World) : Prop :=
  ∃ a c, en = .returned (.slice a n c) ∧ w'.ownsRow 0 e size (.slice a n c) n xs ∧ Mod None w w' ∧ ∀ g, (Value.slice a n c).ownBlock = some g → w.heap.size ≤ g
theorem OwnR.rdv {w : World} {S : Nat → Prop} {e size n : Nat} {v : Value} {xs : List Value} (h : OwnR w S e size v n xs) {a : Option Addr} {c : Nat} (hv : v = .slice a n c) : RdV w a xs := by
  subst hv
  by_cases h0 : n = 0
  · subst h0
    left
    have := h.1.1
    simpa using this
  · obtain ⟨g, cap, rest, he, _, hb, _⟩ := h.open1 (by omega)
    obtain ⟨rfl, _⟩ : a = some ⟨g, 0, none⟩ ∧ c = cap := by simpa using he
    exact hb.rdv 0 (fun i hi => by rw [Nat.zero_add, List.getElem?_append_left hi])
theorem clone_end {w w' : World} {e size n : Nat} {xs : List Value} {o : Obj} {va : Option Addr} {vc : Nat} (h2 : w'.ownsRow 0 e size (.slice va (0 + n) vc) (0 + n) ([] ++ xs))
    (h3 : Mod (fun k => (Value.slice (some ⟨w.heap.size, 0, none⟩) 0 0).ownBlock = some k) (w.alloc o) w')
    (h4 : ∀ g, (Value.slice va (0 + n) vc).ownBlock = some g → (Value.slice (some ⟨w.heap.size, 0, none⟩) 0 0).ownBlock = some g ∨ ((w.alloc o).heap.size ≤ g ∧ g < w'.heap.size)) :
    ClonePost e size n xs w (.returned (.slice va n vc)) w' := by
  rw [Nat.zero_add] at h2 h4
  refine ⟨va, vc, rfl, h2, ((Mod.refl None w).alloc o).then h3 (fun i hi hb => ?_), fun g hg => ?_⟩
  · have e : w.heap.size = i := by simpa [Value.ownBlock] using hb
    omega
  · rcases h4 g hg with h | h
    · have e : w.heap.size = g := by simpa [Value.ownBlock] using h
      omega
    · have := h.1
      simp at this; omega
theorem own_kind {w : World} {base base' : Nat} {v v' : Value} {e e' n n' size size' : Nat} {xs xs' : List Value} (h : w.ownsRow base e size v n xs) (h' : w.ownsRow base' e' size' v' n' xs') (he : e ≠ e') : ∀ k, v.ownBlock = some k → ¬ v'.ownBlock = some k := by
  intro k hk hk'
  rcases h.2 with ⟨rfl, _⟩ | ⟨g, cap, cur, rfl, _, hg, _⟩
  · simp [Value.ownBlock] at hk
  · rcases h'.2 with ⟨rfl, _⟩ | ⟨g', cap', cur', rfl, _, hg', _⟩
    · simp [Value.ownBlock] at hk'
    · have e1 : g = k := by simpa [Value.ownBlock] using hk
      have e2 : g' = k := by simpa [Value.ownBlock] using hk'
      subst e1; subst e2
      rw [hg] at hg'
      simp at hg'
      exact he hg'.2
end Go.Proofs.Ytekobigoekfckaa
