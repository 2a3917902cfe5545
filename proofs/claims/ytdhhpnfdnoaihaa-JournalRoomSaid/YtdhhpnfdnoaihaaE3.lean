/- The document's disk: what is told of a sector. -/
import Derived.Test.YtdhhpnfdnoaihaaE2
import Derived.Test.YtdhhpnfdnoaihaaD10
namespace Go.Proofs.Ytdhhpnfdnoaihaa
open Go.RowKit

theorem conv9 (w : World) (l : List UInt8) : ∃ cap w', (convert 9 27 (Str l)).run Try.prog w = .ok (.slice (some ⟨w.heap.size, 0, none⟩) l.length cap) w' ∧ Rd w' (some ⟨w.heap.size, 0, none⟩) l ∧ Mod None w w' := by
  refine ⟨_, _, run_bytes_of_string w 9 27 5 ⟨l.toArray⟩ und9 und27 und5, .inr ⟨_, 0, rfl, fun i hi => ?_⟩, ((Mod.refl None w).drew).alloc _⟩
  have hi' : i < l.length := by simpa using hi
  rw [Nat.zero_add]
  have := World.cell?_alloc_mark w.drew (bytesRow ⟨l.toArray⟩ (grownCap w l.length 0 5)) 5 ((bytesRow ⟨l.toArray⟩ (grownCap w l.length 0 5)).size, (bytesRow ⟨l.toArray⟩ (grownCap w l.length 0 5)).size + 1) i
  refine this.trans ?_
  unfold bytesRow
  rw [Array.getElem?_append_left (by simpa using hi')]
  simp
  rfl
theorem flat2 {α : Type} (F : α → List Value) (hF : ∀ x, (F x).length = 2) (rest : List Value) : ∀ (l : List α) (j : Nat) (x : α), l[j]? = some x → ∀ i, i < 2 → (l.flatMap F ++ rest)[j * 2 + i]? = (F x)[i]?
  | [], j, x, h, _, _ => by simp at h
  | y :: l, 0, x, h, i, hi => by
    obtain rfl : y = x := by simpa using h
    rw [List.flatMap_cons, List.append_assoc, List.getElem?_append_left (by rw [hF]; omega), Nat.zero_mul, Nat.zero_add]
  | y :: l, j + 1, x, h, i, hi => by
    rw [List.flatMap_cons, List.append_assoc, List.getElem?_append_right (by rw [hF]; omega), hF, show (j + 1) * 2 + i - 2 = j * 2 + i by omega]
    exact flat2 F hF rest l j x (by simpa using h) i hi
section
variable {w w' : World} {S : Nat → Prop} {p b n : Nat} {f : Int → List UInt8} {qs : List Nat} {bv : Value} {st : DSt}
theorem RefAt.at (h : RefAt w S p b n f qs bv st) {j : Nat} {x : Nat × List UInt8} (hx : st.waits[j]? = some x) :
    ∃ q g cap, qs[j]? = some q ∧ bv = .slice (some ⟨g, 0, none⟩) st.waits.length cap ∧ st.waits.length ≤ cap ∧ w.cell? ⟨g, j * 2, none⟩ = some (.int .i64 (x.1 : Int)) ∧ w.cell? ⟨g, j * 2 + 1, none⟩ = some (.slice (some ⟨q, 0, none⟩) 64 64) ∧ S q ∧ Blk w q 5 (x.2.map B) ∧ x.1 < st.last.length ∧ x.2.length = 64 := by
  have hlt : j < st.waits.length := (List.getElem?_eq_some_iff.1 hx).1
  obtain ⟨q, hq⟩ : ∃ q, qs[j]? = some q := ⟨_, List.getElem?_eq_getElem (by rw [h.len]; exact hlt)⟩
  obtain ⟨g, cap, rest, rfl, _, hb, hc, _⟩ := h.buf.open1 (by omega)
  obtain ⟨hq1, hq2⟩ := h.dat j x q hx hq
  have hz : (st.waits.zip qs)[j]? = some (x, q) := by rw [List.getElem?_zip_eq_some]; exact ⟨hx, hq⟩
  have hw := h.ok.wait x (List.mem_of_getElem? hx)
  have h0 := flat2 (fun x : (Nat × List UInt8) × Nat => [.int .i64 (x.1.1 : Int), .slice (some ⟨x.2, 0, none⟩) 64 64]) (fun _ => rfl) rest _ j _ hz 0 (by omega)
  have h1 := flat2 (fun x : (Nat × List UInt8) × Nat => [.int .i64 (x.1.1 : Int), .slice (some ⟨x.2, 0, none⟩) 64 64]) (fun _ => rfl) rest _ j _ hz 1 (by omega)
  refine ⟨q, g, cap, hq, rfl, hc, ?_, ?_, hq1, hq2, hw.1, hw.2⟩
  · rw [hb.cell]; exact h0
  · rw [hb.cell]; exact h1
theorem RefAt.shape (h : RefAt w S p b n f qs bv st) : ∃ a c, bv = .slice a st.waits.length c ∧ st.waits.length ≤ c ∧ c ≤ maxLen := h.buf.shape
theorem pad64_id {d : List UInt8} (h : d.length = 64) : pad64 d = d := by
  have : 64 - d.length = 0 := by omega
  simp [pad64, this]
end
set_option maxRecDepth 100000 in
set_option maxHeartbeats 400000 in
theorem lasting_any (w : World) (S : Nat → Prop) (p N : Nat) (st : DSt) (h : IsRef w S p N st) (k : Nat) (hk : k < st.last.length) :
    Calls Try.prog 71 #[.pointer (some ⟨p, 0, none⟩), .int .i64 (k : Int)] w (WholePost (st.last.getD k []) w) := by
  obtain ⟨b, n, f, qs, bv, h, hn⟩ := h
  obtain ⟨_, h1, _, _, _⟩ := h.cells
  have hm := h.ok.most
  have hl := h.map.look (k : Int) (by unfold In64; omega)
  obtain ⟨hp, h64⟩ := h.last k (st.last[k]) (List.getElem?_eq_getElem hk)
  have hpad : st.last.getD k [] = pad64 (f k) := by rw [List.getD_eq_getElem?_getD, List.getElem?_eq_getElem hk, hp]; rfl
  rw [hpad]
  clear h hpad hp hm hn
  generalize f (k : Int) = l at *
  obtain ⟨cap, w1, hcv, hrd, hm1⟩ := conv9 w l
  have HM1 := hid hm1
  clear hm1
  go_enter Try.func71, Try.ntmps71
  go_wp2_with fail
  refine (whole_any w1 _ cap l hrd h64).mono ?_
  rintro e w' ⟨a, rfl, hf, hm⟩
  have HF := hid hf
  have HM := hid hm
  clear hf hm hrd hl hcv
  go_wp2_with fail
  go_ret
  obtain ⟨b', e, hb, hbk⟩ := HF.out
  exact ⟨_, rfl, ⟨b', e, Nat.le_trans HM1.out.size hb, hbk⟩, HM1.out.trans HM.out⟩
def RTold (d : List UInt8) (w : World) (e : Ending) (w' : World) : Prop := ∃ a, e = .returned (.slice a 64 64) ∧ Rd w' a d ∧ Mod None w w'
set_option maxRecDepth 100000 in
set_option maxHeartbeats 800000 in
theorem told_any (w : World) (S : Nat → Prop) (p N : Nat) (st : DSt) (h : IsRef w S p N st) (k : Nat) (hk : k < st.last.length) :
    Calls Try.prog 72 #[.pointer (some ⟨p, 0, none⟩), .int .i64 (k : Int)] w (RTold (readTo st.waits k (st.last.getD k [])) w) := by
  have HL := hid (lasting_any w S p N st h k hk)
  obtain ⟨b, n, f, qs, bv, h, hn⟩ := h
  have H := hid h
  obtain ⟨ba, bc, rfl, hbc, hbm⟩ := h.shape
  unfold maxLen at hbm
  generalize hd0 : st.last.getD k [] = d0 at *
  clear h hd0 hk hn
  go_enter Try.func72, Try.ntmps72
  go_wp2_with fail
  refine HL.out.mono ?_
  rintro e w1 ⟨a, rfl, hf, hm⟩
  have HF := hid hf
  have HM := hid hm
  clear hf hm HL
  go_wp2_with fail
  go_loopw [5, 6] (fun v i wr => ∃ (j : Nat) (a : Option Addr), j ≤ st.waits.length ∧ i = .int .i64 j ∧ v = .slice a 64 64 ∧ Hid (Rd wr a (readTo (st.waits.take j) k d0)) ∧ Hid (Mod None w wr)) (fun _ i _ => st.waits.length - (intOf i).toNat)
  case atStart => exact ⟨0, a, by omega, rfl, rfl, HF.out.rd, HM.out⟩
  case round =>
    obtain ⟨j, a2, hj, rfl, rfl, hr, hm⟩ := hrel
    have hat := H.out.keep (S' := S) hm.out (fun _ _ h => h) (fun _ h => h) (fun k hk => Nat.lt_of_lt_of_le (H.out.lt k hk) hm.out.size)
    obtain ⟨_, _, h2, _, _⟩ := hat.cells
    by_cases hlt : j < st.waits.length
    · have hlt' : (j : Int) < (st.waits.length : Int) := by omega
      obtain ⟨x, hx⟩ : ∃ x, st.waits[j]? = some x := ⟨_, List.getElem?_eq_getElem hlt⟩
      obtain ⟨q, g, cap, hq, e, _, hc0, hc1, hSq, hqb, _, h64⟩ := hat.at hx
      obtain ⟨rfl, rfl⟩ : ba = some ⟨g, 0, none⟩ ∧ bc = cap := by cases e; exact ⟨rfl, rfl⟩
      have HNX := hid (show readTo (st.waits.take (j + 1)) k d0 = if x.1 = k then x.2 else readTo (st.waits.take j) k d0 by
        rw [List.take_succ_eq_append_getElem hlt, (List.getElem?_eq_some_iff.1 hx).2, readTo_snoc])
      have HQ := hid hqb
      clear hat e hx hq hqb
      obtain ⟨at', d⟩ := x
      simp only at hc0 h64 HNX HQ
      generalize st.waits.length = wl at *
      by_cases hk' : at' = k
      · subst hk'
        go_wp2_with fail
        have hw := whole_any wr (some ⟨q, 0, none⟩) 64 d (HQ.out.rdv 0 (fun i _ => by rw [Nat.zero_add])) (by omega)
        rw [h64, pad64_id h64] at hw
        refine hw.mono ?_
        rintro e w3 ⟨a3, rfl, hf3, hm3⟩
        have HF3 := hid hf3
        have HM3 := hid hm3
        clear hf3 hm3 hw
        go_wp2_with fail
        go_roundw
        case rel => exact ⟨j + 1, a3, by omega, by go_num, rfl, by show Rd _ _ _; rw [HNX.out, if_pos trivial]; exact HF3.out.rd, hm.out.trans HM3.out⟩
        case measure => simp [intOf]; omega
      · have hk2 : ¬ (at' : Int) = (k : Int) := by omega
        go_wp2_with fail
        go_roundw
        case rel => exact ⟨j + 1, a2, by omega, by go_num, rfl, by show Rd _ _ _; rw [HNX.out, if_neg hk']; exact hr.out, hm.out⟩
        case measure => simp [intOf]; omega
    · obtain rfl : j = st.waits.length := by omega
      rw [List.take_length] at hr
      clear hlt hat
      generalize hwl : st.waits.length = wl at *
      go_wp2_with fail
      go_ret
      exact ⟨_, rfl, hr.out, hm.out⟩
def RRead (r : List UInt8 × Int) (w : World) (e : Ending) (w' : World) : Prop :=
  ∃ a, e = .returned (.tuple #[.slice a r.1.length r.1.length, .int .i64 r.2]) ∧ Rd w' a r.1 ∧ Mod None w w'
theorem read_len {st : DSt} (hok : st.Ok) {k : Nat} (hk : k < st.last.length) : (readTo st.waits k (st.last.getD k [])).length = 64 := by
  refine readTo_length k _ _ ?_ (fun x hx => (hok.wait x hx).2)
  rw [List.getD_eq_getElem?_getD, List.getElem?_eq_getElem hk]; exact hok.sec _ (List.getElem_mem hk)
set_option maxRecDepth 100000 in
set_option maxHeartbeats 400000 in
theorem rread_any (w : World) (S : Nat → Prop) (p N : Nat) (st : DSt) (h : IsRef w S p N st) (i : Int) :
    Calls Try.prog 42 #[.pointer (some ⟨p, 0, none⟩), .int .i64 i] w (RRead (st.read i) w) := by
  have HI := hid h
  obtain ⟨b, n, f, qs, bv, h, hn⟩ := h
  obtain ⟨h0, _, _, _, h4⟩ := h.cells
  have hok := h.ok
  clear h hn
  by_cases hd : st.down = true
  · have HS := hid (show st.read i = ([], 32) by unfold DSt.read DSt.may; simp [hd])
    rw [hd] at h4
    clear hd hok HI
    go_enter Try.func42, Try.ntmps42
    go_wp2
    go_ret2
    rw [HS.out]
    exact ⟨none, rfl, .inl rfl, Mod.refl _ _⟩
  · rw [Bool.not_eq_true] at hd
    rw [hd] at h4
    by_cases hi : i < 0
    · have HS := hid (show st.read i = ([], 31) by unfold DSt.read DSt.may; simp [hd, hi])
      clear hd hok HI
      go_enter Try.func42, Try.ntmps42
      go_wp2
      go_ret2
      rw [HS.out]
      exact ⟨none, rfl, .inl rfl, Mod.refl _ _⟩
    · by_cases hi2 : (st.last.length : Int) ≤ i
      · have HS := hid (show st.read i = ([], 31) by unfold DSt.read DSt.may; simp [hd, hi, hi2])
        clear hd hok HI
        go_enter Try.func42, Try.ntmps42
        go_wp2
        go_ret2
        rw [HS.out]
        exact ⟨none, rfl, .inl rfl, Mod.refl _ _⟩
      · obtain ⟨k, rfl⟩ : ∃ k : Nat, i = (k : Int) := ⟨i.toNat, by omega⟩
        have hk : k < st.last.length := by omega
        have hl := read_len hok hk
        have HS := hid (show st.read k = (readTo st.waits k (st.last.getD k []), 0) by unfold DSt.read DSt.may; simp [hd, hi, hi2])
        have HT := hid (told_any w S p N st HI.out k hk)
        clear hd hok HI
        generalize readTo st.waits k (st.last.getD k []) = d at *
        go_enter Try.func42, Try.ntmps42
        go_wp2_with fail
        refine HT.out.mono ?_
        rintro e w1 ⟨a, rfl, hr, hm⟩
        have HR := hid hr
        have HM := hid hm
        clear hr hm HT
        go_wp2_with fail
        go_ret2
        rw [HS.out]
        exact ⟨a, by simp only [hl]; rfl, HR.out, HM.out⟩
end Go.Proofs.Ytdhhpnfdnoaihaa
