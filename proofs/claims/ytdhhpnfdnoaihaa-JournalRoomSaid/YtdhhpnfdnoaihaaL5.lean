/- append, with the blocks that it may write told. -/
import Derived.Test.YtdhhpnfdnoaihaaD1
import Derived.Test.YtdhhpnfdnoaihaaL4
namespace Go.Proofs.Ytdhhpnfdnoaihaa
open Go.RowKit

/-- S, and what is new -/
def Grow (S : Nat → Prop) (w w' : World) (k : Nat) : Prop := S k ∨ (w.heap.size ≤ k ∧ k < w'.heap.size)
theorem growBy_le (newLen : Nat) : ∀ (rounds c : Nat), c < newLen → Builtin.growBy newLen rounds c ≤ newLen + newLen / 4 + 256 ∧ Builtin.growBy newLen rounds c ≤ newLen + newLen / 4 + 256
  | 0, c, h => by unfold Builtin.growBy; omega
  | r + 1, c, h => by
    unfold Builtin.growBy
    rw [if_neg (by omega)]
    by_cases h' : c + (c + 768) / 4 < newLen
    · exact growBy_le newLen r _ h'
    · have : Builtin.growBy newLen r (c + (c + 768) / 4) = c + (c + 768) / 4 := by
        cases r with
        | zero => rfl
        | succ r => unfold Builtin.growBy; rw [if_pos (by omega)]
      rw [this]; omega
theorem nextslicecap_bound {need old : Nat} (h : old < need) : Builtin.nextslicecap need old ≤ need + need / 4 + 256 := by
  unfold Builtin.nextslicecap
  split
  · omega
  · split
    · omega
    · exact (growBy_le need 4 old h).1
section
variable {P : Program} {w : World}
theorem ownsRow_at {g cap n : Nat} {e : TypeId} {size : Nat} {xs : List Value} {cur : Array Value} (hlen : xs.length = n * size) (hg : w.heap[g]? = some (.cells cur e (0, 0))) (hn : n ≤ cap) (hc : cap ≤ maxLen) (hs : cur.size = cap * size) (ht : cur.toList.take (n * size) = xs) :
    w.ownsRow 0 e size (.slice (some ⟨g, 0, none⟩) n cap) n xs := ⟨hlen, .inr ⟨g, cap, cur, rfl, Nat.zero_le _, hg, hn, hc, hs, ht⟩⟩
theorem run_append_R (t ty e : TypeId) (i : TypeInfo) (z : Value) (size bytes : Nat) (ht : P.underlying t = some (.slice e)) (hi : P.info? e = some i) (hz : i.zero = some z)
    (hsize : i.size = size) (hby : i.bytes = bytes) (hzs : z.cells.size = size) (hsz : 0 < size)
    (v : Value) (n : Nat) (xs : List Value) (hown : w.ownsRow 0 e size v n xs)
    (sa : Option Addr) (m c : Nat) (news : List Value) (hl : news.length = m * size) (hr : RdV w sa news) (h1 : Ones news)
    (h63 : n + m ≤ maxLen) (hbytes : ((n + m) + (n + m) / 4 + 256) * bytes ≤ 281474976710656) :
    ∃ v' w', (Builtin.append_ #[t, t] ty #[v, .slice sa m c]).run P w = .ok v' w' ∧ w'.ownsRow 0 e size v' (n + m) (xs ++ news) ∧ Mod (fun k => v.ownBlock = some k) w w' ∧
      ∀ g, v'.ownBlock = some g → v.ownBlock = some g ∨ (w.heap.size ≤ g ∧ g < w'.heap.size) := by
  subst hsize
  subst hby
  cases sa with
  | none =>
    have hn : news = [] := by
      rcases hr with h | ⟨_, _, h, _⟩
      · exact h
      · cases h
    subst hn
    obtain rfl : m = 0 := by
      have : m * i.size = 0 := by simpa using hl.symm
      rcases Nat.mul_eq_zero.1 this with h | h
      · exact h
      · omega
    exact ⟨v, w, run_append_owned_none' 0 t ty e i i.size ht hi v n xs hown c, by simpa using hown, Mod.refl _ _, fun g hg => .inl hg⟩
  | some a =>
    have hnews : ∀ j u, news[j]? = some u → w.cell? (a.add j) = some u := by
      intro j u hj
      rcases hr with h | ⟨b, o, h, hc⟩
      · subst h; simp at hj
      · cases h
        have hlt : j < news.length := by
          rcases Nat.lt_or_ge j news.length with h | h
          · exact h
          · rw [List.getElem?_eq_none h] at hj; cases hj
        rw [addr_add, hc j hlt, hj]
    have hsmall : n + m ≤ 9223372036854775807 := by simp only [maxLen] at h63; omega
    have hlen : (xs ++ news).length = (n + m) * i.size := by rw [List.length_append, hown.1, hl, Nat.add_mul]
    have grown : ∀ (old : Nat),
        (w.drew.alloc (.cells (xs.toArray ++ news.toArray ++ Builtin.zeroCells z.cells (grownCap w (n + m) old e - (n + m))) e)).ownsRow 0 e i.size
          (.slice (some ⟨w.heap.size, 0, none⟩) (n + m) (grownCap w (n + m) old e)) (n + m) (xs ++ news) := by
      intro old
      have hge := grownCap_ge w (n + m) old e
      refine ownsRow_at hlen (heap_alloc_new w.drew _) hge (grownCap_le_maxLen w (n + m) old e h63) ?_ ?_
      · simp only [Array.size_append, List.size_toArray, size_zeroCells, hzs, hown.1, hl, ← Nat.add_mul]
        congr 1
        omega
      · simp only [Array.toList_append, List.append_assoc]
        rw [← List.append_assoc, ← hlen]
        exact List.take_left
    have hmod : ∀ (T : Nat → Prop) (o : Obj), Mod T w (w.drew.alloc o) := fun T o => ((Mod.refl T w).drew).alloc o
    rcases hown.2 with ⟨rfl, rfl⟩ | ⟨g, cap, cur, rfl, _, hg, hnc, hcm, hcs, htake⟩
    · have hx : xs = [] := List.eq_nil_of_length_eq_zero (by simpa using hown.1)
      subst hx
      by_cases hm : m = 0
      · subst hm
        have hn : news = [] := List.eq_nil_of_length_eq_zero (by simpa using hl)
        subst hn
        refine ⟨.slice none 0 0, w, ?_, World.ownsRow_nil w 0 e i.size, Mod.refl _ _, fun g hg => .inl hg⟩
        simp [Builtin.append_, run_underlying ht, sizeOf, typeInfo, hi, Builtin.lenOf, Builtin.firstCells, loadCells, loadCellsFrom]
      · have hb2 : m * i.bytes ≤ 281474976710656 := Nat.le_trans (Nat.mul_le_mul_right _ (by omega)) hbytes
        have hr' := run_append_nil (P := P) w t ty e i z ht hi hz a m c news hl hnews (by omega) (by omega) hb2
        have hgr := grown 0
        simp only [Nat.zero_add, List.nil_append, Array.empty_append] at hgr ⊢
        exact ⟨_, _, hr', hgr, hmod _ _, fun g hg => .inr (by simp [Value.ownBlock] at hg; subst hg; simp)⟩
    · by_cases hroom : n + m ≤ cap
      · have hfit : n * i.size + news.length ≤ cur.size := by rw [hl, hcs, ← Nat.add_mul]; exact Nat.mul_le_mul_right _ hroom
        have hr' := run_append_room (P := P) w t ty e i ht hi g n cap cur hg a m c news hl hnews h1 hroom hfit
        refine ⟨_, _, hr', ownsRow_at hlen (setRow_heap w g cur _ e _ hg) hroom hcm ?_ ?_, (Mod.row (S := fun k => (Value.slice (some ⟨g, 0, none⟩) n cap).ownBlock = some k) (Mod.refl _ _) (.inl rfl) _), fun g' hg' => .inl (by simpa [Value.ownBlock] using hg')⟩
        · simp only [List.size_toArray, List.length_append, List.length_take, List.length_drop, Array.length_toList]
          omega
        · rw [htake, ← hlen]
          exact List.take_left
      · have holds : ∀ j u, xs[j]? = some u → w.cell? ((⟨g, 0, none⟩ : Addr).add j) = some u := hown.cells (g := g) rfl
        have hfit : Builtin.nextslicecap (n + m) cap * i.bytes ≤ 281474976710656 := Nat.le_trans (Nat.mul_le_mul_right _ (nextslicecap_bound (by omega))) hbytes
        have hr' := run_append_grow (P := P) w t ty e i z ht hi hz ⟨g, 0, none⟩ n cap xs hown.1 holds a m c news hl hnews (by omega) (by omega) hfit
        exact ⟨_, _, hr', grown cap, hmod _ _, fun g hg => .inr (by simp [Value.ownBlock] at hg; subst hg; simp)⟩
end
/-- append at whatever place of a walk -/
theorem wp_append_R {P : Program} {w : World} {o : Oper} {a : Act} {K : Act → World → Prop} {Q : Exit → Act → World → Prop} (s x : Operand) (t : TypeId)
    (ho : o.op = .call { callee := .builtin .append, args := #[s, x], argTypes := #[t, t] })
    (e : TypeId) (i : TypeInfo) (z : Value) (size bytes : Nat) (ht : P.underlying t = some (.slice e)) (hi : P.info? e = some i) (hz : i.zero = some z)
    (hsize : i.size = size) (hby : i.bytes = bytes) (hzs : z.cells.size = size) (hsz : 0 < size)
    (v : Value) (n : Nat) (xs : List Value) (hs : a.eval s = v) (hown : w.ownsRow 0 e size v n xs)
    (sa : Option Addr) (m c : Nat) (news : List Value) (hx : a.eval x = .slice sa m c) (hl : news.length = m * size) (hr : RdV w sa news) (h1 : Ones news)
    (h63 : n + m ≤ maxLen) (hbytes : ((n + m) + (n + m) / 4 + 256) * bytes ≤ 281474976710656)
    (h : ∀ va vc w', Hid (w'.ownsRow 0 e size (.slice va (n + m) vc) (n + m) (xs ++ news)) → Hid (Mod (fun k => v.ownBlock = some k) w w') →
      Hid (∀ g, (Value.slice va (n + m) vc).ownBlock = some g → v.ownBlock = some g ∨ (w.heap.size ≤ g ∧ g < w'.heap.size)) → K (a.put o.dst (.slice va (n + m) vc)) w') : o.wp P a w K Q := by
  obtain ⟨v', w', hr, h2, h3, h4⟩ := run_append_R (P := P) t o.type e i z size bytes ht hi hz hsize hby hzs hsz v n xs hown sa m c news hl hr h1 h63 hbytes
  have hsh : ∃ va vc, v' = .slice va (n + m) vc := by
    rcases h2.2 with ⟨rfl, h⟩ | ⟨g, cap, cur, rfl, _⟩
    · exact ⟨none, 0, by rw [h]⟩
    · exact ⟨_, _, rfl⟩
  obtain ⟨va, vc, rfl⟩ := hsh
  unfold Oper.wp execOp
  simp only [ho, resolve, invoke, builtin, Sem.run_bind, Sem.run_pure, Result.andThen_ok, List.map_toArray, List.map_cons, List.map_nil, hs, hx, hr]
  exact h va vc w' h2 h3 h4
theorem step_of {P : Program} {ops : Array Oper} {o : Oper} {a : Act} {w : World} {K : Act → World → Prop} {Q : Exit → Act → World → Prop} {E : Prop} (hgd : o.guard = none) (h : o.wp P a w K Q) :
    if Region.wanted o (yielded ops a.tmps) = true then Oper.wp P o a w K Q else E := by
  rw [if_pos (by simp [Region.wanted, hgd])]; exact h
end Go.Proofs.Ytdhhpnfdnoaihaa
