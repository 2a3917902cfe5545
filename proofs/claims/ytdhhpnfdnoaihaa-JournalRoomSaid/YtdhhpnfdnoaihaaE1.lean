/- Maps of texts by numbers. -/
import Derived.Maps.Views
import Derived.Maps.StringElems
import Derived.Test.YtdhhpnfdnoaihaaD12
import Derived.Test.YtdhhpnfdnoaihaaV2
namespace Go.Proofs.Ytdhhpnfdnoaihaa
open Go.RowKit

theorem m_und110 : Try.prog.underlying 110 = some (.map 3 9) := by kernel_rfl
theorem m_zero9 (w : World) : (zeroValue 9).run Try.prog w = .ok (Str []) w := by kernel_rfl
theorem keyed3 : Maps.Keyed Try.prog 3 := Maps.int_keyed v_und3
theorem wf64 {i : Int} (h : In64 i) : (Lit.int .i64 i).wf = true := by
  simpa [Lit.wf, IntKind.min, IntKind.max, IntKind.signed, IntKind.bits, In64] using h
/-- the map at b tells f, of at most n keys -/
def IsMap (w : World) (b n : Nat) (f : Int → List UInt8) : Prop :=
  ∃ D : DataW Unit, w.ownsMap Try.prog 3 (plainElem Try.prog 9) b n D ∧ ∀ i, In64 i → D.atKey (.int .i64 i) (.lit (.string [])) = .lit (.string (f i))
theorem ismap_made (w : World) : IsMap (w.alloc (.map #[] 0)) w.heap.size 0 (fun _ => []) :=
  ⟨_, World.ownsMap_made w _ _ _, fun _ _ => rfl⟩
theorem m_zeroR : plainElem (H := Unit) Try.prog 9 (Str []) = some (.lit (.string []), []) := by
  have h : (⟨[].toArray⟩ : ByteArray).size ≤ maxLen := Nat.zero_le _
  exact plainElem_string und9 h
section
variable {w w' : World} {b n : Nat} {f : Int → List UInt8}
set_option maxRecDepth 100000 in
theorem IsMap.look (h : IsMap w b n f) (i : Int) (hi : In64 i) : (Instr.lookup 110 (.map (some b)) (.int .i64 i) false).run Try.prog w = .ok (Str (f i)) w := by
  obtain ⟨D, hD, hf⟩ := h
  obtain ⟨v, ps, hrun, hv⟩ := hD.lookup keyed3 m_und110 (m_zero9 w) m_zeroR (Maps.keyOf_int_mk v_und3 (wf64 hi))
  obtain ⟨s, rfl, hs, _⟩ := plainElem_string_inv und9 hv
  rw [hrun]
  have h1 : D.atKey (.int .i64 i) (.lit (.string [])) = .lit (.string s.data.toList) := congrArg Prod.fst hs
  rw [hf i hi] at h1
  have h2 : f i = s.data.toList := by injection h1 with h1; injection h1
  rw [h2]
  unfold Str
  obtain ⟨⟨l⟩⟩ := s
  rfl
theorem IsMap.put (h : IsMap w b n f) (hn : n < maxLen) (i : Int) (hi : In64 i) (l : List UInt8) (hl : l.length ≤ 64) :
    ∃ w', (Instr.mapUpdate 110 (.map (some b)) (.int .i64 i) (Str l)).run Try.prog w = .ok () w' ∧ IsMap w' b (n + 1) (fun j => if j = i then l else f j) ∧ Mod (fun k => k = b) w w' := by
  obtain ⟨D, hD, hf⟩ := h
  have hl' : (⟨l.toArray⟩ : ByteArray).size ≤ maxLen := by
    have : (⟨l.toArray⟩ : ByteArray).size = l.length := rfl
    rw [this]; unfold maxLen; omega
  obtain ⟨w', hrun, hD', hg⟩ := hD.update keyed3 m_und110 hn (Maps.keyOf_int_mk v_und3 (wf64 hi)) (plainElem_string und9 hl')
  refine ⟨w', hrun, ⟨_, hD', fun j hj => ?_⟩, grown_mod hg (fun k hk _ => by cases hk; rfl)⟩
  have hmap : Maps.IsMap D := by obtain ⟨es, clock, _, _, _, rfl⟩ := hD; exact ⟨_, rfl⟩
  by_cases hji : j = i
  · subst hji
    rw [Maps.atKey_put_same hmap (by trivial)]
    simp
  · show _ = DataW.lit (.string (if j = i then l else f j))
    rw [if_neg hji, Maps.atKey_put_other (by simpa using hji), hf j hj]
theorem IsMap.keep {T : Nat → Prop} (h : IsMap w b n f) (hm : Mod T w w') (hT : ¬ T b) : IsMap w' b n f := by
  obtain ⟨D, ⟨es, clock, hb, r⟩, hf⟩ := h
  exact ⟨D, ⟨es, clock, by rw [hm.block b (Array.getElem?_eq_some_iff.1 hb).1 hT]; exact hb, r⟩, hf⟩
theorem IsMap.lt (h : IsMap w b n f) : b < w.heap.size := by
  obtain ⟨D, hD, _⟩ := h; exact hD.lt
theorem IsMap.ne (h : IsMap w b n f) {p : Nat} {t : TypeId} {cs : List Value} (hp : Blk w p t cs) : p ≠ b := by
  rintro rfl
  obtain ⟨D, ⟨es, clock, hb, _⟩, _⟩ := h
  unfold Blk at hp
  rw [hp] at hb; cases hb
end
end Go.Proofs.Ytdhhpnfdnoaihaa
