/- What a disk keeps: plain laws. -/
import Derived.Test.YtdhhpnfdnoaihaaD7
namespace Go.Proofs.Ytdhhpnfdnoaihaa

structure Lasts (d : List UInt8) (k : Nat) (st : DSt) : Prop where
  len : st.last.length = 8
  at7 : st.last[7]? = some d
  off : ∀ x ∈ st.waits, x.1 ≠ 7
  few : st.waits.length ≤ k
theorem setAll_off (x : List (Nat × List UInt8)) : ∀ (l : List (List UInt8)), (∀ y ∈ x, y.1 ≠ 7) → (setAll l x)[7]? = l[7]? := by
  induction x with
  | nil => intro l _; rfl
  | cons y x ih =>
    intro l h
    show (setAll (l.set y.1 y.2) x)[7]? = _
    rw [ih _ (fun z hz => h z (by simp [hz])), List.getElem?_set_ne (h y (by simp))]
theorem Lasts.settle {d : List UInt8} {k : Nat} {st : DSt} (h : Lasts d k st) (n : Nat) : Lasts d k (st.settle n) where
  len := by show (setAll _ _).length = 8; rw [setAll_length]; exact h.len
  at7 := by show (setAll _ _)[7]? = _; rw [setAll_off _ _ (fun y hy => h.off y (List.mem_of_mem_take hy))]; exact h.at7
  off := h.off
  few := h.few
theorem Lasts.changed {d : List UInt8} {k : Nat} {st : DSt} (h : Lasts d k st) : Lasts d k st.changed := by
  unfold DSt.changed
  split
  · exact ⟨h.len, h.at7, h.off, h.few⟩
  · exact h
theorem Lasts.mono {d : List UInt8} {k k' : Nat} {st : DSt} (h : Lasts d k st) (hk : k ≤ k') : Lasts d k' st := ⟨h.len, h.at7, h.off, Nat.le_trans h.few hk⟩
theorem Lasts.write {d : List UInt8} {k : Nat} {st : DSt} (h : Lasts d k st) {i : Int} (hi : i ≠ 7) (x : List UInt8) : Lasts d (k + 1) (st.write i x).1 := by
  unfold DSt.write
  split
  · rename_i hm
    have hr := may_range hm
    split
    · exact h.mono (by omega)
    · refine Lasts.changed ⟨h.len, h.at7, ?_, ?_⟩
      · intro y hy
        rcases List.mem_append.1 hy with hy | hy
        · exact h.off y hy
        · obtain rfl := List.mem_singleton.1 hy
          show i.toNat ≠ 7; omega
      · have := h.few
        simp [DSt.put]; omega
  · exact h.mono (by omega)
theorem Lasts.flush {d : List UInt8} {k : Nat} {st : DSt} (h : Lasts d k st) : Lasts d k st.flush.1 := by
  unfold DSt.flush
  split
  · exact h
  · have := h.settle st.waits.length
    exact Lasts.changed ⟨this.len, this.at7, (fun x hx => by cases hx), by simp⟩
theorem Lasts.arm {d : List UInt8} {k : Nat} {st : DSt} (h : Lasts d k st) (n : Int) : Lasts d k (st.arm' n) := by
  unfold DSt.arm'
  split
  · exact h
  · exact ⟨h.len, h.at7, h.off, h.few⟩
theorem Lasts.crash {d : List UInt8} {k : Nat} {st : DSt} (h : Lasts d k st) (a b : Int) : Lasts d k (st.crash a b) := by
  unfold DSt.crash DSt.crashed
  have hs := h.settle (clampN a st.waits.length)
  split
  · rename_i x hx
    have hm : x ∈ st.waits := (List.mem_of_getElem? hx)
    refine ⟨?_, ?_, (fun x hx => by cases hx), by simp⟩
    · show (List.set _ _ _).length = 8
      rw [List.length_set]; exact hs.len
    · show (List.set _ _ _)[7]? = _
      rw [List.getElem?_set_ne (h.off x hm)]; exact hs.at7
  · exact ⟨hs.len, hs.at7, (fun x hx => by cases hx), by simp⟩
theorem Lasts.start {d : List UInt8} (hd : d.length ≤ 64) : Lasts (pad64 d) 0 (((DSt.new 8).write 7 d).1).flush.1 := by
  have hm : (DSt.new 8).may 7 = 0 := by decide
  have h1 : ((DSt.new 8).write 7 d).1 = ((DSt.new 8).put 7 (pad64 d)) := by
    unfold DSt.write
    rw [if_pos hm, if_neg (by omega)]
    rfl
  rw [h1]
  refine ⟨?_, ?_, ?_, ?_⟩
  · show (setAll _ _).length = 8
    rw [setAll_length]; rfl
  · rfl
  · intro x hx; cases hx
  · exact Nat.le_refl _
theorem Lasts.told {d : List UInt8} {k : Nat} {st : DSt} (h : Lasts d k st) : ((st.crash 0 0).read 7) = (d, 0) := by
  have hc := h.crash 0 0
  have hd : (st.crash 0 0).down = false := rfl
  have hw : (st.crash 0 0).waits = [] := rfl
  generalize st.crash 0 0 = s at *
  have hm : s.may 7 = 0 := by unfold DSt.may; rw [hd, hc.len]; rfl
  unfold DSt.read
  rw [if_pos hm, hw]
  show (s.last.getD 7 [], (0 : Int)) = _
  rw [List.getD_eq_getElem?_getD, hc.at7]; rfl
end Go.Proofs.Ytdhhpnfdnoaihaa
