/- Maps of numbers by numbers: where each entry stands. -/
import Derived.Maps.Views
import Derived.Maps.OwnSet
import Derived.WideKeyEntry
import Derived.Test.YtekobigoekfckaaB2
import Derived.Test.YtekobigoekfckaaA4
namespace Go.Proofs.Ytekobigoekfckaa
open Go.RowKit

theorem v_und3 : Try.prog.underlying 3 = some (.int .i64) := by kernel_rfl
theorem v_und2 : Try.prog.underlying 2 = some (.int .i64) := by kernel_rfl
theorem m_und49 : Try.prog.underlying 49 = some (.map 3 3) := by kernel_rfl
theorem m_zero3 (w : World) : (zeroValue 3).run Try.prog w = .ok (.int .i64 0) w := by kernel_rfl
theorem keyed3 : Maps.Keyed Try.prog 3 := Maps.int_keyed v_und3
def In64 (n : Int) : Prop := -9223372036854775808 ≤ n ∧ n ≤ 9223372036854775807
theorem in64 {n : Int} (h : (Lit.int .i64 n).wf = true) : In64 n := by
  simpa [Lit.wf, IntKind.min, IntKind.max, IntKind.signed, IntKind.bits, In64] using h
theorem wf64 {i : Int} (h : In64 i) : (Lit.int .i64 i).wf = true := by
  simpa [Lit.wf, IntKind.min, IntKind.max, IntKind.signed, IntKind.bits, In64] using h

/-- the map at b tells m, of just n keys -/
def IsAt (w : World) (b n : Nat) (m : Int → Option Nat) : Prop :=
  ∃ D : DataW Unit, w.ownsMap Try.prog 3 (plainElem Try.prog 3) b n D ∧ Maps.size D = n ∧ Maps.Tidy D ∧
    (∀ i, In64 i → Maps.has D (.int .i64 i) = (m i).isSome) ∧ ∀ i k, In64 i → m i = some k → D.atKey (.int .i64 i) (.lit (.int .i64 0)) = .lit (.int .i64 (k : Int))
theorem isat_made (w : World) : IsAt (w.alloc (.map #[] 0)) w.heap.size 0 (fun _ => none) :=
  ⟨_, World.ownsMap_made w _ _ _, rfl, Maps.tidy_empty, fun _ _ => rfl, fun _ _ _ h => by cases h⟩
section
variable {w w' : World} {b n : Nat} {m : Int → Option Nat}
theorem IsAt.keep {T : Nat → Prop} (h : IsAt w b n m) (hm : Mod T w w') (hT : ¬ T b) : IsAt w' b n m := by
  obtain ⟨D, ⟨es, clock, hb, r⟩, hf⟩ := h
  exact ⟨D, ⟨es, clock, by rw [hm.block b (Array.getElem?_eq_some_iff.1 hb).1 hT]; exact hb, r⟩, hf⟩
theorem IsAt.drew (h : IsAt w b n m) : IsAt w.drew b n m := h.keep (Mod.refl None w).drew (fun h => h)
theorem IsAt.lt (h : IsAt w b n m) : b < w.heap.size := by
  obtain ⟨D, hD, _⟩ := h; exact hD.lt
theorem IsAt.ne (h : IsAt w b n m) {p : Nat} {t : TypeId} {cs : List Value} (hp : Blk w p t cs) : p ≠ b := by
  rintro rfl
  obtain ⟨D, ⟨es, clock, hb, _⟩, _⟩ := h
  unfold Blk at hp
  rw [hp] at hb; cases hb
theorem tight {D : DataW Unit} (h : w.ownsMap Try.prog 3 (plainElem Try.prog 3) b n D) : w.ownsMap Try.prog 3 (plainElem Try.prog 3) b (Maps.size D) D := by
  obtain ⟨es, clock, hb, F, hs, rfl⟩ := h
  refine ⟨es, clock, hb, F, ?_, rfl⟩
  rw [Maps.size_eq, length_sorted]; simp
theorem key64 {i : Int} (hi : In64 i) : keyOf Try.prog 3 (.int .i64 i) = some (.int .i64 i) := Maps.keyOf_int_mk v_und3 (wf64 hi)
set_option maxRecDepth 100000 in
theorem IsAt.look (h : IsAt w b n m) (i : Int) (hi : In64 i) : ∃ c : Int, (Instr.lookup 49 (.map (some b)) (.int .i64 i) true).run Try.prog w = .ok (.tuple #[.int .i64 c, .bool (m i).isSome]) w ∧ ∀ k, m i = some k → c = k := by
  obtain ⟨D, hD, hn, ht, h1, h2⟩ := h
  obtain ⟨v, ps, hrun, hv⟩ := hD.look_ok keyed3 m_und49 (m_zero3 w) (plainElem_int v_und3 (by decide)) (key64 hi)
  obtain ⟨c, rfl, hc, hwc⟩ := plainElem_int_inv v_und3 hv
  refine ⟨c, by rw [hrun, h1 i hi], fun k hk => ?_⟩
  have e := h2 i k hi hk
  have := congrArg Prod.fst hc
  simp only [e] at this
  simpa using this.symm
theorem mapturned_mod (h : w.mapTurned w' b) : Mod (fun k => k = b) w w' := grown_mod h.grown (fun k hk _ => by cases hk; rfl)
set_option maxRecDepth 100000 in
theorem IsAt.put (h : IsAt w b n m) (hn : n < maxLen) (i : Int) (hi : In64 i) (k : Nat) (hk : In64 k) :
    ∃ w', (Instr.mapUpdate 49 (.map (some b)) (.int .i64 i) (.int .i64 (k : Int))).run Try.prog w = .ok () w' ∧ IsAt w' b (if (m i).isSome then n else n + 1) (upd m i (some k)) ∧ w.mapTurned w' b := by
  obtain ⟨D, hD, hsz, ht, h1, h2⟩ := h
  obtain ⟨w', hrun, hD', hg⟩ := hD.store keyed3 m_und49 hn (key64 hi) (plainElem_int v_und3 (wf64 hk))
  have hs : Maps.size (D.put (.int .i64 i) (.lit (.int .i64 (k : Int)))) = if (m i).isSome then n else n + 1 := by
    rw [Maps.size_put ht, h1 i hi, hsz]
  refine ⟨w', hrun, ⟨_, by rw [← hs]; exact tight hD', hs, ht.put (by trivial) _, fun j hj => ?_, fun j q hj hq => ?_⟩, hg⟩
  · by_cases hji : j = i
    · subst hji
      rw [Maps.has_put_same ht.isMap (by trivial)]
      simp [upd]
    · rw [Maps.has_put_other (by simpa using hji), h1 j hj]
      simp [upd, hji]
  · by_cases hji : j = i
    · subst hji
      rw [Maps.atKey_put_same ht.isMap (by trivial)]
      simp [upd] at hq
      rw [hq]
    · rw [Maps.atKey_put_other (by simpa using hji)]
      exact h2 j q hj (by simpa [upd, hji] using hq)
set_option maxRecDepth 100000 in
theorem IsAt.del (h : IsAt w b n m) (i : Int) (hi : In64 i) (ty : TypeId) :
    ∃ w', (Builtin.delete_ #[49, 3] ty #[.map (some b), .int .i64 i]).run Try.prog w = .ok (.tuple #[]) w' ∧ IsAt w' b (if (m i).isSome then n - 1 else n) (upd m i none) ∧ w.mapTurned w' b := by
  obtain ⟨D, hD, hsz, ht, h1, h2⟩ := h
  obtain ⟨w', hrun, hD', hg⟩ := hD.drop keyed3 m_und49 (key64 hi) ty
  have hs : Maps.size (D.del (.int .i64 i)) = if (m i).isSome then n - 1 else n := by
    have := Maps.size_del (k := .int .i64 i) ht
    rw [h1 i hi, hsz] at this
    split <;> rename_i hh <;> simp [hh] at this <;> omega
  refine ⟨w', hrun, ⟨_, by rw [← hs]; exact tight hD', hs, ht.del _, fun j hj => ?_, fun j q hj hq => ?_⟩, hg⟩
  · by_cases hji : j = i
    · subst hji
      rw [Maps.has_del_same]
      simp [upd]
    · rw [Maps.has_del_other (by simpa using hji), h1 j hj]
      simp [upd, hji]
  · by_cases hji : j = i
    · subst hji
      simp [upd] at hq
    · rw [Maps.atKey_del_other (by simpa using hji)]
      exact h2 j q hj (by simpa [upd, hji] using hq)
open Go.WideElems Go.MapKept Go.ChangeMaps in
set_option maxRecDepth 100000 in
/-- an entry that is there is asked for, and written -/
theorem IsAt.entry (h : IsAt w b n m) (hn : n < maxLen) (i : Int) (hi : In64 i) (hm : (m i).isSome = true) (k : Nat) (hk : In64 k) :
    ∃ v0 st w', (Instr.mapEntry 49 (.map (some b)) (.int .i64 i)).run Try.prog w = .ok (.tuple #[v0, goInt st]) w ∧
      (Instr.entryStore 49 (.map (some b)) (goInt st) (.int .i64 (k : Int))).run Try.prog w = .ok () w' ∧ IsAt w' b n (upd m i (some k)) ∧ w.mapTurned w' b := by
  obtain ⟨w', hrun, hat, ht⟩ := h.put hn i hi k hk
  rw [if_pos hm] at hat
  obtain ⟨D, hD, _, _, h1, _⟩ := h
  have hsame0 := hD.turned_refl
  obtain ⟨es, clock, hb, F, _, rfl⟩ := hD
  have hkey := key64 hi
  rcases keyed3.find w hkey es.toList F.keys with ⟨f1, f2⟩ | ⟨j, e0, f1, f2, f3⟩
  · exfalso
    have : Maps.has (DataW.map (H := Unit) ((es.toList.map (rg Try.prog 3 (plainElem Try.prog 3))).foldr DataW.insert [])) (.int .i64 i) = false := by
      rcases Maps.fit_look false keyed3 m_und49 (m_zero3 w) hb F hkey with ⟨_, _, hat⟩ | ⟨e0, y, g1, g2, _⟩
      · exact Maps.has_false_of_atKey hat
      · exact absurd g2 (f2 e0 g1)
    rw [h1 i hi, hm] at this
    cases this
  · have hj : es[j]? = some e0 := by simpa using f2
    have hsame : es.modify j (fun e => { e with key := .int .i64 i }) = es := by
      apply Array.ext'
      rw [Array.toList_modify, modify_eq_set _ _ _ _ f2]
      have : ({ e0 with key := .int .i64 i } : MapEntry) = e0 := by rw [← f3]
      rw [this]
      exact set_self _ _ _ f2
    have hw : setBlock w b (.map es clock) = w := by
      obtain ⟨es1, c1, es2, c2, g1, g2⟩ := hsame0
      have e := heap_setBlock_same g1 (.map es2 c2)
      rw [← g2, hb] at e
      have e2 := Option.some.inj e
      rw [e2]; exact g2.symm
    have hidx : es.findIdx? (fun e => ((e.born : Nat) : Int) == ((e0.born : Nat) : Int)) = some j := by
      rw [findIdx_arr]
      exact findIdx_born F.stamped.2.1 f2
    have hmod : es.modify j (fun e => { e with val := .int .i64 (k : Int) }) = es.modify j (fun e' => { e' with key := .int .i64 i, val := .int .i64 (k : Int) }) := by
      apply Array.ext'
      rw [Array.toList_modify, Array.toList_modify, modify_eq_set _ _ _ _ f2, modify_eq_set _ _ _ _ f2, ← f3]
    refine ⟨e0.val, e0.born, w', ?_, ?_, hat, ht⟩
    · have : (Instr.mapEntry 49 (.map (some b)) (.int .i64 i)).run Try.prog w = .ok (.tuple #[e0.val, goInt e0.born]) (setBlock w b (.map es clock)) := by
        simp [Instr.mapEntry, run_underlying m_und49, MapKept.run_getObj_map hb, keyed3.check w false hkey, f1, hj, f3, keyed3.stays w hkey, hsame, MapKept.run_setObj_map _ hb, Result.andThen, setBlock]
      rw [this, hw]
    · have e1 : (Instr.entryStore 49 (.map (some b)) (goInt e0.born) (.int .i64 (k : Int))).run Try.prog w = .ok () (setBlock w b (.map (es.modify j (fun e' => { e' with key := .int .i64 i, val := .int .i64 (k : Int) })) clock)) := by
        simp [Instr.entryStore, MapKept.run_getObj_map hb, asInt, asIntOf, goInt, hidx, hmod, MapKept.run_setObj_map _ hb, Result.andThen, setBlock]
      have e2 : (Instr.mapUpdate 49 (.map (some b)) (.int .i64 i) (.int .i64 (k : Int))).run Try.prog w = .ok () (setBlock w b (.map (es.modify j (fun e' => { e' with key := .int .i64 i, val := .int .i64 (k : Int) })) clock)) := by
        simp [Instr.mapUpdate, run_underlying m_und49, MapKept.run_getObj_map hb, keyed3.check w false hkey, f1, hj, f3, keyed3.stays w hkey, MapKept.run_setObj_map _ hb, Result.andThen, setBlock]
      rw [e1, ← e2, hrun]
end
end Go.Proofs.Ytekobigoekfckaa
