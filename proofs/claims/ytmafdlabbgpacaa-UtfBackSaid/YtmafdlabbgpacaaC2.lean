/- utf.Next. -/
import Derived.Laws.Strings2
import Derived.Test.YtmafdlabbgpacaaC1
namespace Go.Proofs.Ytmafdlabbgpacaa
open Go.RowKit

/-- a byte that goes on -/
def contB (c : UInt8) : Bool := decide (128 ≤ c.toNat ∧ c.toNat < 192)
/-- how many bytes the first one tells, and what it gives -/
def headL (c : UInt8) : Int × Nat :=
  if c.toNat < 128 then ((c.toNat : Int), 1) else if c.toNat < 192 then (0, 0)
  else if c.toNat < 224 then ((c.toNat : Int) % 32, 2) else if c.toNat < 240 then ((c.toNat : Int) % 16, 3) else if c.toNat < 248 then ((c.toNat : Int) % 8, 4) else (0, 0)
def accL (r : Int) (l : List UInt8) : Int := l.foldl (fun r c => r * 64 + (c.toNat : Int) % 64) r
/-- what is read of the bytes l, the first of which is c -/
def tailL (r : Int) (n : Nat) (l : List UInt8) : Int × Int :=
  if l.length < n - 1 then (0, 0) else if (l.take (n - 1)).all contB then
    (if (putL (accL r (l.take (n - 1)))).length = n then (accL r (l.take (n - 1)), (n : Int)) else (0, 0)) else (0, 0)
def readL : List UInt8 → Int × Int
  | [] => (0, 0)
  | c :: l => if c.toNat < 128 then ((c.toNat : Int), 1) else if (headL c).2 = 0 then (0, 0) else tailL (headL c).1 (headL c).2 l
def nextL (l : List UInt8) (at' : Int) : Int × Int := if at' < 0 then (0, 0) else readL (l.drop at'.toNat)
def RPost (r : Int × Int) (w : World) (e : Ending) (w' : World) : Prop := e = .returned (.tuple #[.int .i32 r.1, .int .i64 r.2]) ∧ Mod None w w'

theorem and192' : ∀ n : Fin 256, (bits .and .u8 ((n.val : Nat) : Int) 192 != 128) = !decide (128 ≤ n.val ∧ n.val < 192) := by decide +kernel
theorem and192 (c : UInt8) : (bits .and .u8 (c.toNat : Int) 192 != 128) = !contB c := and192' ⟨c.toNat, c.toNat_lt⟩

theorem wrap_i32 (n : Int) (h0 : 0 ≤ n) (h : n < 2147483648) : IntKind.i32.wrap n = n := by
  simp [IntKind.wrap, IntKind.bits, IntKind.signed]; omega
theorem or_i32 (m y : Nat) (hm : m < 1048576) (hy : y < 64) : bits .or .i32 ((m : Int) * 64) (y : Int) = (m : Int) * 64 + (y : Int) := by
  have e : ((m : Int) * 64) = ((m * 64 : Nat) : Int) := by omega
  show IntKind.i32.wrap ((BitVec.ofInt 32 ((m : Int) * 64) ||| BitVec.ofInt 32 (y : Int)).toNat : Int) = _
  rw [e, BitVec.ofInt_natCast, BitVec.ofInt_natCast, BitVec.toNat_or, BitVec.toNat_ofNat, BitVec.toNat_ofNat, Nat.mod_eq_of_lt (by omega), Nat.mod_eq_of_lt (by omega)]
  have h := Nat.shiftLeft_add_eq_or_of_lt (b := y) (i := 6) (by omega) m
  rw [Nat.shiftLeft_eq] at h
  have h64 : (2 : Nat) ^ 6 = 64 := rfl
  rw [h64] at h
  rw [← h, wrap_i32 _ (by omega) (by omega)]
  omega
theorem acc_bound (r : Int) (h0 : 0 ≤ r) (h1 : r < 32) (l : List UInt8) (hl : l.length ≤ 3) : 0 ≤ accL r l ∧ accL r l < 8388608 ∧ (l.length ≤ 2 → accL r l < 131072) := by
  match l, hl with
  | [], _ => simp [accL]; omega
  | [a], _ => simp [accL]; omega
  | [a, b], _ => simp [accL]; omega
  | [a, b, c], _ => simp [accL]; omega
theorem acc_snoc (r : Int) (l : List UInt8) (c : UInt8) : accL r (l ++ [c]) = accL r l * 64 + (c.toNat : Int) % 64 := by simp [accL]
/-- bytes of a string, in a block of their own -/
theorem conv_bytes (w : World) (t : ByteArray) : ∃ cap w', (convert 9 28 (.string t)).run Try.prog w = .ok (.slice (some ⟨w.heap.size, 0, none⟩) t.size cap) w' ∧
    (∀ i c, t.data.toList[i]? = some c → w'.cell? ⟨w.heap.size, i, none⟩ = some (.int .u8 (c.toNat : Int))) ∧ Mod None w w' := by
  refine ⟨_, _, run_bytes_of_string w 9 28 5 t und9 und28 und5, fun i c hi => ?_, ((Mod.refl None w).drew).alloc _⟩
  have := World.cell?_alloc_mark w.drew (bytesRow t (grownCap w t.size 0 5)) 5 ((bytesRow t (grownCap w t.size 0 5)).size, (bytesRow t (grownCap w t.size 0 5)).size + 1) i
  refine this.trans ?_
  obtain ⟨hlt, he⟩ := List.getElem?_eq_some_iff.1 hi
  have hlt' : i < t.data.size := by simpa using hlt
  unfold bytesRow
  rw [Array.getElem?_append_left (by simpa using hlt'), Array.getElem?_map, Array.getElem?_eq_getElem hlt']
  have he' : t.data[i] = c := by simpa using he
  rw [he']; rfl
/-- the bytes behind the first one -/
theorem slice_str (s : ByteArray) (k n : Nat) (z : Int) (hz : z = (k : Int) + n) (hk : k + n ≤ s.size) (h1 : 1 ≤ n) : ∃ t : ByteArray,
    (∀ w, (Instr.slice 9 (.string s) (some (.int .i64 ((k : Int) + 1))) (some (.int .i64 z)) none).run Try.prog w = .ok (.string t) w) ∧ t.data.toList = (s.data.toList.drop (k + 1)).take (n - 1) ∧ t.size = n - 1 := by
  subst hz
  have ht : (s.extract (k + 1) (k + n)).data.toList = (s.data.toList.drop (k + 1)).take (n - 1) := by
    have : s = ⟨s.data.toList.toArray⟩ := by cases s; simp
    conv => lhs; rw [this, ByteArray.extract_mk]
    show List.take (k + n - (k + 1)) _ = _
    congr 1; omega
  refine ⟨s.extract (k + 1) (k + n), fun w => ?_, ht, ?_⟩
  · have := run_slice_string (P := Try.prog) w 9 s .i64 .i64 ((k : Int) + 1) ((k : Int) + n) und9 (by omega) (by omega) (by omega)
    have e1 : ((k : Int) + 1).toNat = k + 1 := by omega
    have e2 : ((k : Int) + n).toNat = k + n := by omega
    rw [e1, e2] at this; exact this
  · have := congrArg List.length ht
    simp only [List.length_take, List.length_drop, Array.length_toList] at this
    have e : (s.extract (k + 1) (k + n)).size = (s.extract (k + 1) (k + n)).data.size := rfl
    have e3 : s.data.size = s.size := rfl
    omega
theorem tail_bad {r : Int} {n : Nat} {l tl : List UInt8} (ht : tl = l.take (n - 1)) {j : Nat} {c : UInt8} (hj : tl[j]? = some c) (hc : contB c = false) : tailL r n l = (0, 0) := by
  unfold tailL
  split
  · rfl
  · rw [← ht, if_neg]
    intro h
    rw [List.all_eq_true] at h
    have := h c (List.mem_of_getElem? hj)
    rw [hc] at this; cases this
theorem tail_good {r : Int} {n : Nat} {l tl : List UInt8} (ht : tl = l.take (n - 1)) (hlen : tl.length = n - 1) (hall : tl.all contB = true) : tailL r n l = if (putL (accL r tl)).length = n then (accL r tl, (n : Int)) else (0, 0) := by
  unfold tailL
  have : ¬ l.length < n - 1 := by
    have := congrArg List.length ht
    rw [List.length_take] at this
    omega
  rw [if_neg this, ← ht, if_pos hall]
theorem and63' : ∀ n : Fin 256, bits .and .u8 ((n.val : Nat) : Int) 63 = ((n.val % 64 : Nat) : Int) := by decide +kernel
theorem and63 (c : UInt8) : bits .and .u8 (c.toNat : Int) 63 = ((c.toNat % 64 : Nat) : Int) := and63' ⟨c.toNat, c.toNat_lt⟩
theorem take_snoc {tl : List UInt8} {j : Nat} {c : UInt8} (hj : tl[j]? = some c) : tl.take (j + 1) = tl.take j ++ [c] := by
  obtain ⟨h, he⟩ := List.getElem?_eq_some_iff.1 hj
  rw [List.take_succ_eq_append_getElem h, he]
theorem acc_step {r0 : Int} (h0 : 0 ≤ r0 ∧ r0 < 32) {tl : List UInt8} (hl : tl.length ≤ 3) {j : Nat} {d : UInt8} (hj : tl[j]? = some d) :
    bits .or .i32 (wrap32 (accL r0 (tl.take j) * 64)) (wrap32 (bits .and .u8 (d.toNat : Int) 63)) = accL r0 (tl.take (j + 1)) := by
  obtain ⟨hlt, _⟩ := List.getElem?_eq_some_iff.1 hj
  have hb := acc_bound r0 h0.1 h0.2 (tl.take j) (by rw [List.length_take]; omega)
  have hb2 := hb.2.2 (by rw [List.length_take]; omega)
  rw [take_snoc hj, acc_snoc, and63]
  generalize accL r0 (tl.take j) = x at *
  obtain ⟨m, rfl⟩ : ∃ m : Nat, x = m := ⟨x.toNat, by omega⟩
  have e1 : wrap32 ((m : Int) * 64) = (m : Int) * 64 := by have := wrap_i32 ((m : Int) * 64) (by omega) (by omega); unfold wrap32; omega
  have e2 : wrap32 ((d.toNat % 64 : Nat) : Int) = ((d.toNat % 64 : Nat) : Int) := by unfold wrap32; omega
  rw [e1, e2, or_i32 m (d.toNat % 64) (by omega) (by omega)]
  omega
theorem all_snoc {tl : List UInt8} {j : Nat} {d : UInt8} (hj : tl[j]? = some d) (h : (tl.take j).all contB = true) (hd : contB d = true) : (tl.take (j + 1)).all contB = true := by
  rw [take_snoc hj, List.all_append, h]; simp [hd]
set_option maxRecDepth 100000 in
set_option maxHeartbeats 1600000 in
theorem next_any (w : World) (s : ByteArray) (at' : Int) (hs : s.size ≤ 140737488351232) : Calls Try.prog 8 #[.string s, .int .i64 at'] w (RPost (nextL s.data.toList at') w) := by
  by_cases hneg : at' < 0
  · have hn : nextL s.data.toList at' = (0, 0) := by unfold nextL; rw [if_pos hneg]
    rw [hn]
    clear hn
    go_enter Try.func8, Try.ntmps8
    go_wp2
    go_ret2
    exact ⟨rfl, Mod.refl _ _⟩
  obtain ⟨k, rfl⟩ : ∃ k : Nat, at' = k := ⟨at'.toNat, by omega⟩
  have hn : nextL s.data.toList k = readL (s.data.toList.drop k) := by unfold nextL; rw [if_neg hneg, Int.toNat_natCast]
  rw [hn]
  clear hn hneg
  by_cases hge : s.size ≤ k
  · have hn : s.data.toList.drop k = [] := by rw [List.drop_eq_nil_iff]; simpa using hge
    rw [hn]
    clear hn
    go_enter Try.func8, Try.ntmps8
    go_wp2
    go_ret2
    exact ⟨rfl, Mod.refl _ _⟩
  have hk : k < s.size := by omega
  have hn : s.data.toList.drop k = s[k] :: s.data.toList.drop (k + 1) := by
    rw [List.drop_eq_getElem_cons (by simpa using hk)]; rfl
  rw [hn]
  obtain ⟨c, hc⟩ : ∃ c, s[k] = c := ⟨_, rfl⟩
  rw [hc]
  have HC := hid hn
  clear hn hge
  have hk' : (k : Int) < (s.size : Int) := by omega
  by_cases h1 : c.toNat < 128
  · have hr : readL (c :: s.data.toList.drop (k + 1)) = ((c.toNat : Int), 1) := by
      show (if c.toNat < 128 then _ else _) = _
      rw [if_pos h1]
    rw [hr]
    clear hr
    go_enter Try.func8, Try.ntmps8
    go_wp2
    go_ret2
    exact ⟨rfl, Mod.refl _ _⟩
  have hr : readL (c :: s.data.toList.drop (k + 1)) = if (headL c).2 = 0 then (0, 0) else tailL (headL c).1 (headL c).2 (s.data.toList.drop (k + 1)) := by
    show (if c.toNat < 128 then _ else _) = _
    rw [if_neg h1]
  rw [hr]
  clear hr
  by_cases h2 : c.toNat < 192
  · have hh : headL c = (0, 0) := by unfold headL; rw [if_neg h1, if_pos h2]
    rw [hh]
    have HH := hid hh
    clear hh
    go_enter Try.func8, Try.ntmps8
    go_wp2
    go_ret2
    exact ⟨rfl, Mod.refl _ _⟩
  by_cases h5 : 248 ≤ c.toNat
  · have hh : headL c = (0, 0) := by unfold headL; rw [if_neg h1, if_neg h2, if_neg (by omega), if_neg (by omega), if_neg (by omega)]
    rw [hh]
    have HH := hid hh
    clear hh
    go_enter Try.func8, Try.ntmps8
    go_wp2
    go_ret2
    exact ⟨rfl, Mod.refl _ _⟩
  by_cases h3 : c.toNat < 224
  · have hh : headL c = ((c.toNat : Int) % 32, 2) := by unfold headL; rw [if_neg h1, if_neg h2, if_pos h3]
    rw [hh]
    by_cases hsz : s.size - k < 2
    · have hsz' : (s.size : Int) - (k : Int) < 2 := by omega
      have ht : tailL ((c.toNat : Int) % 32) 2 (s.data.toList.drop (k + 1)) = (0, 0) := by unfold tailL; rw [if_pos (by simp; omega)]
      show Calls _ _ _ _ (RPost (if 2 = 0 then (0, 0) else tailL ((c.toNat : Int) % 32) 2 (s.data.toList.drop (k + 1))) w)
      rw [if_neg (by omega), ht]
      clear ht hh
      go_enter Try.func8, Try.ntmps8
      go_wp2
      go_ret2
      exact ⟨rfl, Mod.refl _ _⟩
    · have hsz' : ¬ (s.size : Int) - (k : Int) < 2 := by omega
      show Calls _ _ _ _ (RPost (if 2 = 0 then (0, 0) else tailL ((c.toNat : Int) % 32) 2 (s.data.toList.drop (k + 1))) w)
      rw [if_neg (by omega)]
      obtain ⟨t, hsl, hta, htn⟩ := slice_str s k 2 ((k : Int) + 2) rfl (by omega) (by omega)
      have hsl := hsl w
      obtain ⟨cap, w1, hcv, hcell, hm1⟩ := conv_bytes w t
      rw [htn] at hcv
      have hcv : (convert 9 28 (.string t)).run Try.prog w = .ok (.slice (some ⟨w.heap.size, 0, none⟩) 1 cap) w1 := hcv
      have htl : t.data.toList.length = 1 := by rw [Array.length_toList]; exact htn
      have hr0 : 0 ≤ (c.toNat : Int) % 32 ∧ (c.toNat : Int) % 32 < 32 := by omega
      have HR0 := hid hr0
      generalize t.data.toList = tl at *
      have HTA := hid hta
      have HTL := hid htl
      have HCELL := hid hcell
      have HM1 := hid hm1
      clear hh hta htn htl hcell hm1 hr0 hsz
      go_enter Try.func8, Try.ntmps8
      go_wp2_with fail
      clear hsl hcv
      generalize hr : (c.toNat : Int) % 32 = r0 at *
      have H32 := hid hr
      clear hr
      go_loopw [6, 63] (fun r i wr => ∃ j : Nat, j ≤ 1 ∧ i = .int .i64 j ∧ r = .int .i32 (accL r0 (tl.take j)) ∧ Hid ((tl.take j).all contB = true) ∧ wr = w1) (fun _ i _ => 1 - (intOf i).toNat)
      case atStart => exact ⟨0, by omega, rfl, rfl, rfl, rfl⟩
      case round =>
        obtain ⟨j, hj, rfl, rfl, hall, rfl⟩ := hrel
        by_cases hlt : j < 1
        · obtain ⟨d, hd⟩ : ∃ d, tl[j]? = some d := ⟨_, List.getElem?_eq_getElem (by have := HTL.out; omega)⟩
          have hcl := HCELL.out j d hd
          have hct := and192 d
          have HD := hid hd
          clear hd
          by_cases hb : contB d = true
          · rw [hb] at hct
            have hct : (bits .and .u8 (d.toNat : Int) 192 != 128) = false := hct
            go_wp2_with fail
            have hst := acc_step HR0.out (by have := HTL.out; omega) HD.out
            rw [hst]
            go_roundw
            case rel => exact ⟨j + 1, by omega, by go_num, rfl, all_snoc HD.out hall.out hb, trivial⟩
            case measure => simp [intOf]; omega
          · rw [Bool.not_eq_true] at hb
            rw [hb] at hct
            have hct : (bits .and .u8 (d.toNat : Int) 192 != 128) = true := hct
            go_wp2_with fail
            go_ret2
            rw [tail_bad HTA.out HD.out hb]
            exact ⟨rfl, HM1.out⟩
        · obtain rfl : j = 1 := by omega
          go_wp2_with fail
          have e1 : tl.take 1 = tl := by rw [List.take_of_length_le (by rw [HTL.out]; exact Nat.le_refl _)]
          rw [e1] at hall ⊢
          have HG := hid (tail_good (r := r0) HTA.out HTL.out hall.out)
          clear e1
          refine (put_any _ _).mono ?_
          rintro e w2 ⟨rfl, hm⟩
          have HM2 := hid (HM1.out.trans hm)
          clear hm
          generalize accL r0 tl = acc at *
          have hz : (⟨(putL acc).toArray⟩ : ByteArray).size = (putL acc).length := by simp [ByteArray.size]
          unfold Str
          generalize (⟨(putL acc).toArray⟩ : ByteArray) = bs at *
          by_cases hn : (putL acc).length = 2
          · have HN := hid hn
            rw [hn] at hz
            clear hn
            go_wp2_with fail
            go_ret2
            rw [HG.out, if_pos HN.out]
            exact ⟨rfl, HM2.out⟩
          · have HN := hid hn
            have hz' : ¬ (bs.size : Int) = 2 := by omega
            clear hz hn
            go_wp2_with fail
            go_ret2
            rw [HG.out, if_neg HN.out]
            exact ⟨rfl, HM2.out⟩
  by_cases h4 : c.toNat < 240
  · have hh : headL c = ((c.toNat : Int) % 16, 3) := by unfold headL; rw [if_neg h1, if_neg h2, if_neg h3, if_pos h4]
    rw [hh]
    by_cases hsz : s.size - k < 3
    · have hsz' : (s.size : Int) - (k : Int) < 3 := by omega
      have ht : tailL ((c.toNat : Int) % 16) 3 (s.data.toList.drop (k + 1)) = (0, 0) := by unfold tailL; rw [if_pos (by simp; omega)]
      show Calls _ _ _ _ (RPost (if 3 = 0 then (0, 0) else tailL ((c.toNat : Int) % 16) 3 (s.data.toList.drop (k + 1))) w)
      rw [if_neg (by omega), ht]
      clear ht hh
      go_enter Try.func8, Try.ntmps8
      go_wp2
      go_ret2
      exact ⟨rfl, Mod.refl _ _⟩
    · have hsz' : ¬ (s.size : Int) - (k : Int) < 3 := by omega
      show Calls _ _ _ _ (RPost (if 3 = 0 then (0, 0) else tailL ((c.toNat : Int) % 16) 3 (s.data.toList.drop (k + 1))) w)
      rw [if_neg (by omega)]
      obtain ⟨t, hsl, hta, htn⟩ := slice_str s k 3 ((k : Int) + 3) rfl (by omega) (by omega)
      have hsl := hsl w
      obtain ⟨cap, w1, hcv, hcell, hm1⟩ := conv_bytes w t
      rw [htn] at hcv
      have hcv : (convert 9 28 (.string t)).run Try.prog w = .ok (.slice (some ⟨w.heap.size, 0, none⟩) 2 cap) w1 := hcv
      have htl : t.data.toList.length = 2 := by rw [Array.length_toList]; exact htn
      have hr0 : 0 ≤ (c.toNat : Int) % 16 ∧ (c.toNat : Int) % 16 < 32 := by omega
      have HR0 := hid hr0
      generalize t.data.toList = tl at *
      have HTA := hid hta
      have HTL := hid htl
      have HCELL := hid hcell
      have HM1 := hid hm1
      clear hh hta htn htl hcell hm1 hr0 hsz
      go_enter Try.func8, Try.ntmps8
      go_wp2_with fail
      clear hsl hcv
      generalize hr : (c.toNat : Int) % 16 = r0 at *
      have H16 := hid hr
      clear hr
      go_loopw [6, 63] (fun r i wr => ∃ j : Nat, j ≤ 2 ∧ i = .int .i64 j ∧ r = .int .i32 (accL r0 (tl.take j)) ∧ Hid ((tl.take j).all contB = true) ∧ wr = w1) (fun _ i _ => 2 - (intOf i).toNat)
      case atStart => exact ⟨0, by omega, rfl, rfl, rfl, rfl⟩
      case round =>
        obtain ⟨j, hj, rfl, rfl, hall, rfl⟩ := hrel
        by_cases hlt : j < 2
        · obtain ⟨d, hd⟩ : ∃ d, tl[j]? = some d := ⟨_, List.getElem?_eq_getElem (by have := HTL.out; omega)⟩
          have hcl := HCELL.out j d hd
          have hct := and192 d
          have HD := hid hd
          clear hd
          by_cases hb : contB d = true
          · rw [hb] at hct
            have hct : (bits .and .u8 (d.toNat : Int) 192 != 128) = false := hct
            go_wp2_with fail
            have hst := acc_step HR0.out (by have := HTL.out; omega) HD.out
            rw [hst]
            go_roundw
            case rel => exact ⟨j + 1, by omega, by go_num, rfl, all_snoc HD.out hall.out hb, trivial⟩
            case measure => simp [intOf]; omega
          · rw [Bool.not_eq_true] at hb
            rw [hb] at hct
            have hct : (bits .and .u8 (d.toNat : Int) 192 != 128) = true := hct
            go_wp2_with fail
            go_ret2
            rw [tail_bad HTA.out HD.out hb]
            exact ⟨rfl, HM1.out⟩
        · obtain rfl : j = 2 := by omega
          go_wp2_with fail
          have e1 : tl.take 2 = tl := by rw [List.take_of_length_le (by rw [HTL.out]; exact Nat.le_refl _)]
          rw [e1] at hall ⊢
          have HG := hid (tail_good (r := r0) HTA.out HTL.out hall.out)
          clear e1
          refine (put_any _ _).mono ?_
          rintro e w2 ⟨rfl, hm⟩
          have HM2 := hid (HM1.out.trans hm)
          clear hm
          generalize accL r0 tl = acc at *
          have hz : (⟨(putL acc).toArray⟩ : ByteArray).size = (putL acc).length := by simp [ByteArray.size]
          unfold Str
          generalize (⟨(putL acc).toArray⟩ : ByteArray) = bs at *
          by_cases hn : (putL acc).length = 3
          · have HN := hid hn
            rw [hn] at hz
            clear hn
            go_wp2_with fail
            go_ret2
            rw [HG.out, if_pos HN.out]
            exact ⟨rfl, HM2.out⟩
          · have HN := hid hn
            have hz' : ¬ (bs.size : Int) = 3 := by omega
            clear hz hn
            go_wp2_with fail
            go_ret2
            rw [HG.out, if_neg HN.out]
            exact ⟨rfl, HM2.out⟩
  · have hh : headL c = ((c.toNat : Int) % 8, 4) := by unfold headL; rw [if_neg h1, if_neg h2, if_neg h3, if_neg h4, if_pos (by omega)]
    rw [hh]
    by_cases hsz : s.size - k < 4
    · have hsz' : (s.size : Int) - (k : Int) < 4 := by omega
      have ht : tailL ((c.toNat : Int) % 8) 4 (s.data.toList.drop (k + 1)) = (0, 0) := by unfold tailL; rw [if_pos (by simp; omega)]
      show Calls _ _ _ _ (RPost (if 4 = 0 then (0, 0) else tailL ((c.toNat : Int) % 8) 4 (s.data.toList.drop (k + 1))) w)
      rw [if_neg (by omega), ht]
      clear ht hh
      go_enter Try.func8, Try.ntmps8
      go_wp2
      go_ret2
      exact ⟨rfl, Mod.refl _ _⟩
    · have hsz' : ¬ (s.size : Int) - (k : Int) < 4 := by omega
      show Calls _ _ _ _ (RPost (if 4 = 0 then (0, 0) else tailL ((c.toNat : Int) % 8) 4 (s.data.toList.drop (k + 1))) w)
      rw [if_neg (by omega)]
      obtain ⟨t, hsl, hta, htn⟩ := slice_str s k 4 ((k : Int) + 4) rfl (by omega) (by omega)
      have hsl := hsl w
      obtain ⟨cap, w1, hcv, hcell, hm1⟩ := conv_bytes w t
      rw [htn] at hcv
      have hcv : (convert 9 28 (.string t)).run Try.prog w = .ok (.slice (some ⟨w.heap.size, 0, none⟩) 3 cap) w1 := hcv
      have htl : t.data.toList.length = 3 := by rw [Array.length_toList]; exact htn
      have hr0 : 0 ≤ (c.toNat : Int) % 8 ∧ (c.toNat : Int) % 8 < 32 := by omega
      have HR0 := hid hr0
      generalize t.data.toList = tl at *
      have HTA := hid hta
      have HTL := hid htl
      have HCELL := hid hcell
      have HM1 := hid hm1
      clear hh hta htn htl hcell hm1 hr0 hsz
      go_enter Try.func8, Try.ntmps8
      go_wp2_with fail
      clear hsl hcv
      generalize hr : (c.toNat : Int) % 8 = r0 at *
      have H8 := hid hr
      clear hr
      go_loopw [6, 63] (fun r i wr => ∃ j : Nat, j ≤ 3 ∧ i = .int .i64 j ∧ r = .int .i32 (accL r0 (tl.take j)) ∧ Hid ((tl.take j).all contB = true) ∧ wr = w1) (fun _ i _ => 3 - (intOf i).toNat)
      case atStart => exact ⟨0, by omega, rfl, rfl, rfl, rfl⟩
      case round =>
        obtain ⟨j, hj, rfl, rfl, hall, rfl⟩ := hrel
        by_cases hlt : j < 3
        · obtain ⟨d, hd⟩ : ∃ d, tl[j]? = some d := ⟨_, List.getElem?_eq_getElem (by have := HTL.out; omega)⟩
          have hcl := HCELL.out j d hd
          have hct := and192 d
          have HD := hid hd
          clear hd
          by_cases hb : contB d = true
          · rw [hb] at hct
            have hct : (bits .and .u8 (d.toNat : Int) 192 != 128) = false := hct
            go_wp2_with fail
            have hst := acc_step HR0.out (by have := HTL.out; omega) HD.out
            rw [hst]
            go_roundw
            case rel => exact ⟨j + 1, by omega, by go_num, rfl, all_snoc HD.out hall.out hb, trivial⟩
            case measure => simp [intOf]; omega
          · rw [Bool.not_eq_true] at hb
            rw [hb] at hct
            have hct : (bits .and .u8 (d.toNat : Int) 192 != 128) = true := hct
            go_wp2_with fail
            go_ret2
            rw [tail_bad HTA.out HD.out hb]
            exact ⟨rfl, HM1.out⟩
        · obtain rfl : j = 3 := by omega
          go_wp2_with fail
          have e1 : tl.take 3 = tl := by rw [List.take_of_length_le (by rw [HTL.out]; exact Nat.le_refl _)]
          rw [e1] at hall ⊢
          have HG := hid (tail_good (r := r0) HTA.out HTL.out hall.out)
          clear e1
          refine (put_any _ _).mono ?_
          rintro e w2 ⟨rfl, hm⟩
          have HM2 := hid (HM1.out.trans hm)
          clear hm
          generalize accL r0 tl = acc at *
          have hz : (⟨(putL acc).toArray⟩ : ByteArray).size = (putL acc).length := by simp [ByteArray.size]
          unfold Str
          generalize (⟨(putL acc).toArray⟩ : ByteArray) = bs at *
          by_cases hn : (putL acc).length = 4
          · have HN := hid hn
            rw [hn] at hz
            clear hn
            go_wp2_with fail
            go_ret2
            rw [HG.out, if_pos HN.out]
            exact ⟨rfl, HM2.out⟩
          · have HN := hid hn
            have hz' : ¬ (bs.size : Int) = 4 := by omega
            clear hz hn
            go_wp2_with fail
            go_ret2
            rw [HG.out, if_neg HN.out]
            exact ⟨rfl, HM2.out⟩
end Go.Proofs.Ytmafdlabbgpacaa
