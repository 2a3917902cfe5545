/- The document's Next. -/
import Derived.Deep.RegionHeld3
import Derived.Lib.BufferRead
import Derived.Test.YtmafdlabbgpacaaC4
import Derived.Test.YtmafdlabbgpacaaP1
namespace Go.Proofs.Ytmafdlabbgpacaa
open Go.RowKit

/-- what the inner loop has behind i rounds -/
def rI (n : Nat) (l : List UInt8) (i : Nat) : Int := match i with
  | 0 => 0
  | i + 1 => rN n (l.take (i + 1))
theorem wrap_small (n : Nat) (h : n < 2147483648) : wrap32 (n : Int) = n := by unfold wrap32; omega
theorem tmod_nat (a b : Nat) : ((a : Int)).tmod (b : Int) = ((a % b : Nat) : Int) := by rw [Int.tmod_eq_emod_of_nonneg (by omega)]; rfl
theorem ri_one {l : List UInt8} {c : UInt8} (h : l[0]? = some c) : wrap32 (c.toNat : Int) = rI 1 l 1 := by
  have := c.toNat_lt
  cases l with
  | nil => cases h
  | cons a m =>
    obtain rfl : a = c := by simpa using h
    rw [wrap_small _ (by omega)]; rfl
theorem ri_zero {l : List UInt8} {c : UInt8} (h : l[0]? = some c) (n q : Nat) (hn : 2 ≤ n) (hq : q = 2 ^ (7 - n)) : (wrap32 (c.toNat : Int)).tmod q = rI n l 1 := by
  have := c.toNat_lt
  cases l with
  | nil => cases h
  | cons a m =>
    obtain rfl : a = c := by simpa using h
    rw [wrap_small _ (by omega), tmod_nat]
    show _ = (if n = 1 then (a.toNat : Int) else accL ((a.toNat : Int) % 2 ^ (7 - n)) (([] : List UInt8).take (n - 1)))
    rw [if_neg (by omega), hq, List.take_nil]
    show _ = (a.toNat : Int) % 2 ^ (7 - n)
    rw [Int.natCast_emod, Int.natCast_pow]; rfl
theorem ri_step {l : List UInt8} {d : UInt8} {n j : Nat} (hn : 2 ≤ n ∧ n ≤ 4) (hj : 1 ≤ j ∧ j < n) (h : l[j]? = some d) :
    wrap32 (wrap32 (rI n l j * 64) + (wrap32 (d.toNat : Int)).tmod 64) = rI n l (j + 1) := by
  have hd := d.toNat_lt
  obtain ⟨i, rfl⟩ : ∃ i, j = i + 1 := ⟨j - 1, by omega⟩
  cases l with
  | nil => cases h
  | cons c m =>
    have h' : m[i]? = some d := by simpa using h
    have e : ∀ i, i ≤ n - 1 → rI n (c :: m) (i + 1) = accL ((c.toNat : Int) % 2 ^ (7 - n)) (m.take i) := fun i hi => by
      show rN n ((c :: m).take (i + 1)) = _
      rw [List.take_succ_cons]
      show (if n = 1 then (c.toNat : Int) else accL ((c.toNat : Int) % 2 ^ (7 - n)) ((m.take i).take (n - 1))) = _
      rw [if_neg (by omega), List.take_of_length_le (by rw [List.length_take]; omega)]
    rw [e i (by omega), e (i + 1) (by omega), take_snoc h', acc_snoc]
    have hb : 0 ≤ (c.toNat : Int) % 2 ^ (7 - n) ∧ (c.toNat : Int) % 2 ^ (7 - n) < 32 := by
      obtain rfl | rfl | rfl : n = 2 ∨ n = 3 ∨ n = 4 := by omega
      · simp; omega
      · simp; omega
      · simp; omega
    have ha := acc_bound _ hb.1 hb.2 (m.take i) (by rw [List.length_take]; omega)
    have ha2 := ha.2.2 (by rw [List.length_take]; omega)
    generalize accL _ (m.take i) = x at *
    rw [wrap_small d.toNat (by omega), show (64 : Int) = ((64 : Nat) : Int) from rfl, tmod_nat]
    unfold wrap32
    omega
theorem ri_end {l : List UInt8} {n : Nat} (hn : 1 ≤ n) (hl : n ≤ l.length) : rI n l n = rN n l := by
  obtain ⟨i, rfl⟩ : ∃ i, n = i + 1 := ⟨n - 1, by omega⟩
  cases l with
  | nil => simp at hl
  | cons c m =>
    show rN (i + 1) ((c :: m).take (i + 1)) = rN (i + 1) (c :: m)
    rw [List.take_succ_cons]
    show (if i + 1 = 1 then (c.toNat : Int) else accL ((c.toNat : Int) % 2 ^ (7 - (i + 1))) ((m.take i).take (i + 1 - 1))) = (if i + 1 = 1 then (c.toNat : Int) else accL ((c.toNat : Int) % 2 ^ (7 - (i + 1))) (m.take (i + 1 - 1)))
    rw [List.take_take]; simp
def nxRel (l : List UInt8) (w wr : World) (n : Nat) : Prop := refF (6 - n) n l = refReadL l ∧ Mod None w wr
theorem wrap_i64 (n : Int) (h0 : 0 ≤ n) (h : n < 9223372036854775808) : IntKind.i64.wrap n = n := by
  simp [IntKind.wrap, IntKind.bits, IntKind.signed]; omega
theorem nx_hit {l : List UInt8} {w wr : World} {n : Nat} (h : nxRel l w wr n) (h4 : n ≤ 4) (hl : n ≤ l.length) (hp : putL (rN n l) = l.take n) : refReadL l = (rN n l, (n : Int)) := by
  rw [← h.1, show 6 - n = (5 - n) + 1 by omega]
  show (if n ≤ 4 ∧ n ≤ l.length then _ else _) = _
  rw [if_pos ⟨h4, hl⟩, if_pos hp]
theorem nx_miss {l : List UInt8} {w wr w2 : World} {n : Nat} (h : nxRel l w wr n) (h4 : n ≤ 4) (hl : n ≤ l.length) (hp : ¬ putL (rN n l) = l.take n) (hm : Mod None wr w2) : nxRel l w w2 (n + 1) := by
  refine ⟨?_, h.2.trans hm⟩
  rw [← h.1, show 6 - n = (6 - (n + 1)) + 1 by omega]
  show _ = (if n ≤ 4 ∧ n ≤ l.length then _ else _)
  rw [if_pos ⟨h4, hl⟩, if_neg hp]
theorem nx_end {l : List UInt8} {w wr : World} {n : Nat} (h : nxRel l w wr n) (h5 : n ≤ 5) (hn : ¬ (n ≤ 4 ∧ n ≤ l.length)) : refReadL l = (0, 0) := by
  rw [← h.1, show 6 - n = (5 - n) + 1 by omega]
  show (if n ≤ 4 ∧ n ≤ l.length then _ else _) = _
  rw [if_neg hn]
/-- string(b) -/
theorem str_rd {w : World} {a : Option Addr} {l : List UInt8} (h : Rd w a l) (n c : Nat) (hn : n = l.length) : (convert 28 9 (.slice a n c)).run Try.prog w = .ok (Str l) w := by
  subst hn
  by_cases h0 : l = []
  · subst h0
    cases a with
    | none => exact Lib.run_convert_nil_bytes w 28 9 5 c und28 und5 und9
    | some x => exact run_convert_bytes_back w 28 9 5 x c [] und28 und5 und9 (fun j hj => by simp at hj)
  · rcases h with h | ⟨b, o, rfl, hc⟩
    · exact absurd (by simpa using h) h0
    · exact run_convert_bytes_back w 28 9 5 ⟨b, o, none⟩ c l und28 und5 und9 (fun j hj => by rw [add_mk']; exact Rd.at hc j hj)
/-- a piece of a string -/
theorem piece (s : ByteArray) (k n : Nat) (z : Int) (hz : z = (k : Int) + n) (hk : k + n ≤ s.size) (l : List UInt8) (hl : s.data.toList.drop k = l) : ∃ t : ByteArray,
    (∀ w, (Instr.slice 9 (.string s) (some (.int .i64 (k : Int))) (some (.int .i64 z)) none).run Try.prog w = .ok (.string t) w) ∧ t = ⟨(l.take n).toArray⟩ := by
  subst hz hl
  refine ⟨s.extract k (k + n), fun w => ?_, ?_⟩
  · have := run_slice_string (P := Try.prog) w 9 s .i64 .i64 (k : Int) ((k : Int) + n) und9 (by omega) (by omega) (by omega)
    have e2 : ((k : Int) + n).toNat = k + n := by omega
    rw [Int.toNat_natCast, e2] at this; exact this
  · have : s = ⟨s.data.toList.toArray⟩ := by cases s; simp
    conv => lhs; rw [this, ByteArray.extract_mk]
    rw [show k + n - k = n by omega]
theorem tl_of (l : List UInt8) : (⟨l.toArray⟩ : ByteArray).toList = l := by simp
theorem arr_inj {a b : List UInt8} (h : ¬ a = b) : ¬ (⟨a.toArray⟩ : ByteArray) = ⟨b.toArray⟩ := by
  intro e
  have := congrArg (fun x => x.data.toList) e
  exact h (by simpa using this)
set_option maxRecDepth 100000 in
set_option maxHeartbeats 1600000 in
theorem refnext_any (w : World) (s : ByteArray) (at' : Int) (hs : s.size ≤ 140737488351232) : Calls Try.prog 9 #[.string s, .int .i64 at'] w (RPost (nextL s.data.toList at') w) := by
  by_cases hneg : at' < 0
  · have hn : nextL s.data.toList at' = (0, 0) := by unfold nextL; rw [if_pos hneg]
    rw [hn]
    clear hn
    go_enter Try.func9, Try.ntmps9
    go_wp2
    go_ret2
    exact ⟨rfl, Mod.refl _ _⟩
  obtain ⟨k, rfl⟩ : ∃ k : Nat, at' = k := ⟨at'.toNat, by omega⟩
  have hn : nextL s.data.toList k = refReadL (s.data.toList.drop k) := by unfold nextL; rw [if_neg hneg, Int.toNat_natCast, ref_reads]
  rw [hn]
  clear hn hneg
  by_cases hge : s.size ≤ k
  · have hn : s.data.toList.drop k = [] := by rw [List.drop_eq_nil_iff]; simpa using hge
    rw [hn]
    clear hn
    go_enter Try.func9, Try.ntmps9
    go_wp2
    go_ret2
    exact ⟨rfl, Mod.refl _ _⟩
  have hk : k < s.size := by omega
  have hk' : (k : Int) < (s.size : Int) := by omega
  have hl : (s.data.toList.drop k).length = s.size - k := by rw [List.length_drop, Array.length_toList]; rfl
  have hget : ∀ i (h : k + i < s.size), (s.data.toList.drop k)[i]? = some s[k + i] := by
    intro i h
    rw [List.getElem?_drop, List.getElem?_eq_getElem (by simpa using h)]; rfl
  have HGET := hid hget
  have HLEN := hid hl
  clear hge hget hl
  obtain ⟨l, hld⟩ : ∃ l, s.data.toList.drop k = l := ⟨_, rfl⟩
  rw [hld] at HGET HLEN ⊢
  have HLD := hid hld
  clear hld
  have hb1 : ¬ (k : Int) < 0 := by omega
  have hb2 : ¬ s.size ≤ k := by omega
  go_enter Try.func9, Try.ntmps9
  go_wp2_with fail
  go_loopw [6] (fun x wr => ∃ n : Nat, ∃ z : Int, (1 ≤ n ∧ n ≤ 5) ∧ z = n ∧ x = .int .i64 z ∧ Hid (nxRel l w wr n)) (fun x _ => 6 - (intOf x).toNat)
  case atStart => exact ⟨1, 1, by omega, rfl, rfl, rfl, Mod.refl _ _⟩
  case round =>
    obtain ⟨n, z, hn, hz, rfl, hr⟩ := hrel
    by_cases h4 : n ≤ 4 ∧ n ≤ s.size - k
    · have hz4 : z ≤ 4 := by omega
      have hz5 : z ≤ (s.size : Int) - (k : Int) := by omega
      obtain rfl | rfl | rfl | rfl : n = 1 ∨ n = 2 ∨ n = 3 ∨ n = 4 := by omega
      · obtain rfl : z = 1 := by omega
        have hkn : k + 1 ≤ s.size := by omega
        have HLN := hid (show 1 ≤ l.length by rw [HLEN.out]; omega)
        clear hz hn h4
        go_wp2_with fail
        go_loopw [7, 8] (fun y i wq => ∃ j : Nat, j ≤ 1 ∧ i = .int .i64 j ∧ y = .int .i32 (rI 1 l j) ∧ wq = wr) (fun _ i _ => 1 - (intOf i).toNat)
        case atStart => exact ⟨0, by omega, rfl, rfl, rfl⟩
        case round =>
          obtain ⟨j, hj, rfl, rfl, rfl⟩ := hrel
          obtain rfl | rfl : j = 0 ∨ j = 1 := by omega
          · have hst := hid (ri_one (HGET.out 0 (by omega)))
            go_wp2_with fail
            go_roundw
            case rel => exact ⟨1, by omega, rfl, congrArg (Value.int .i32) hst.out, trivial⟩
            case measure => simp [intOf]
          · rw [ri_end (by omega) HLN.out]
            obtain ⟨t, hsl, ht⟩ := piece s k 1 ((k : Int) + 1) rfl hkn l HLD.out
            have HTL := hid (show t.toList = l.take 1 by rw [ht, tl_of])
            have hwr := wrap_i64 ((k : Int) + 1) (by omega) (by omega)
            clear ht
            go_wp2_with fail
            refine wp_region_held_drew (S := fun _ => True) (by kernel_rfl) ?_ (fun hHeld => ?_)
            · trivial
            refine wpAnyH_take (i := 0) (oi := { dst := some 57, op := Op.move (Operand.tmp 7), type := 21, pos := "ref.go:48", after := #[], guard := none }) (v := ?v1_0) rfl (by kernel_rfl) (by kernel_rfl) (by kernel_rfl) (fun _ _ _ h => h) (Or.inl ⟨by rfl, ?y1_0⟩) (by assumption) ?r1_0
            case y1_0 => (intro w hSw; (try dsimp only at hSw); go_simp; (try with_reducible rfl))
            try simp only [Act.put, List.setIfInBounds_toArray, List.set_cons_zero, List.set_cons_succ]
            refine wpAnyH_take (i := 3) (oi := { dst := some 60, op := Op.move (Operand.tmp 0), type := 9, pos := "ref.go:48", after := #[], guard := none }) (v := ?v1_3) rfl (by kernel_rfl) (by kernel_rfl) (by kernel_rfl) (fun _ _ _ h => h) (Or.inl ⟨by rfl, ?y1_3⟩) (by assumption) ?r1_3
            case y1_3 => (intro w hSw; (try dsimp only at hSw); go_simp; (try with_reducible rfl))
            try simp only [Act.put, List.setIfInBounds_toArray, List.set_cons_zero, List.set_cons_succ]
            refine wpAnyH_take (i := 4) (oi := { dst := some 61, op := Op.move (Operand.tmp 1), type := 3, pos := "ref.go:48", after := #[], guard := none }) (v := ?v1_4) rfl (by kernel_rfl) (by kernel_rfl) (by kernel_rfl) (fun _ _ _ h => h) (Or.inl ⟨by rfl, ?y1_4⟩) (by assumption) ?r1_4
            case y1_4 => (intro w hSw; (try dsimp only at hSw); go_simp; (try with_reducible rfl))
            try simp only [Act.put, List.setIfInBounds_toArray, List.set_cons_zero, List.set_cons_succ]
            refine wpAnyH_take (i := 5) (oi := { dst := some 62, op := Op.move (Operand.tmp 1), type := 3, pos := "ref.go:48", after := #[], guard := none }) (v := ?v1_5) rfl (by kernel_rfl) (by kernel_rfl) (by kernel_rfl) (fun _ _ _ h => h) (Or.inl ⟨by rfl, ?y1_5⟩) (by assumption) ?r1_5
            case y1_5 => (intro w hSw; (try dsimp only at hSw); go_simp; (try with_reducible rfl))
            try simp only [Act.put, List.setIfInBounds_toArray, List.set_cons_zero, List.set_cons_succ]
            refine wpAnyH_take (i := 6) (oi := { dst := some 63, op := Op.move (Operand.tmp 6), type := 3, pos := "ref.go:48", after := #[], guard := none }) (v := ?v1_6) rfl (by kernel_rfl) (by kernel_rfl) (by kernel_rfl) (fun _ _ _ h => h) (Or.inl ⟨by rfl, ?y1_6⟩) (by assumption) ?r1_6
            case y1_6 => (intro w hSw; (try dsimp only at hSw); go_simp; (try with_reducible rfl))
            try simp only [Act.put, List.setIfInBounds_toArray, List.set_cons_zero, List.set_cons_succ]
            refine wpAnyH_take (i := 7) (oi := { dst := some 64, op := Op.binOp BinOp.add 3 (Operand.tmp 62) (Operand.tmp 63) 3, type := 3, pos := "ref.go:48", after := #[{ on := 5, ground := Ground.data }, { on := 6, ground := Ground.data }], guard := none }) (v := ?v1_7) rfl (by kernel_rfl) (by kernel_rfl) (by kernel_rfl) (fun _ _ _ h => h) (Or.inl ⟨by rfl, ?y1_7⟩) (by assumption) ?r1_7
            case y1_7 => (intro w hSw; (try dsimp only at hSw); go_simp; (try with_reducible rfl))
            try simp only [Act.put, List.setIfInBounds_toArray, List.set_cons_zero, List.set_cons_succ]
            refine wpAnyH_take (i := 8) (oi := { dst := some 65, op := Op.slice 9 (Operand.tmp 60) (some (Operand.tmp 61)) (some (Operand.tmp 64)) none, type := 9, pos := "ref.go:48", after := #[{ on := 3, ground := Ground.data }, { on := 4, ground := Ground.data }, { on := 7, ground := Ground.data }], guard := none }) (v := ?v1_8) rfl (by kernel_rfl) (by kernel_rfl) (by kernel_rfl) (fun _ _ _ h => h) (Or.inl ⟨by rfl, ?y1_8⟩) (by assumption) ?r1_8
            case y1_8 => (intro w hSw; (try dsimp only at hSw); go_simp; (try with_reducible rfl))
            try simp only [Act.put, List.setIfInBounds_toArray, List.set_cons_zero, List.set_cons_succ]
            refine wpAnyH_ready (rs := [1]) (by kernel_rfl) (by simp) ?_
            refine AllReadyH.cons (o := { dst := some 58, op := Op.call { callee := Callee.value (Operand.func 17), args := #[Operand.tmp 57], argTypes := #[21] }, type := 28, pos := "ref.go:48", after := #[{ on := 0, ground := Ground.data }], guard := none }) rfl (fun K hK => ?_) AllReadyH.nil
            go_simp; refine (refput_any wr.drew _).mono ?_; rintro e w2 ⟨a2, c2, rfl, hrd, hm⟩; have hcv : (convert 28 9 (.slice a2 (putL (rN 1 l)).length c2)).run Try.prog w2 = .ok (.string ⟨(putL (rN 1 l)).toArray⟩) w2 := str_rd hrd _ c2 rfl; have HM2 := hid hm; clear hrd hm; go_wp2_with fail
            refine hK.out _ _ ?_ (fun hHeld => ?_)
            · trivial
            clear hK K
            try simp only [Act.put, List.setIfInBounds_toArray, List.set_cons_zero, List.set_cons_succ]
            refine wpAnyH_ready (rs := [2]) (by kernel_rfl) (by simp) ?_
            refine AllReadyH.cons (o := { dst := some 59, op := Op.convert 28 9 (Operand.tmp 58), type := 9, pos := "ref.go:48", after := #[{ on := 1, ground := Ground.data }], guard := none }) rfl (fun K hK => ?_) AllReadyH.nil
            go_simp
            refine hK.out _ _ ?_ (fun hHeld => ?_)
            · trivial
            clear hK K
            try simp only [Act.put, List.setIfInBounds_toArray, List.set_cons_zero, List.set_cons_succ]
            refine wpAnyH_take (i := 9) (oi := { dst := some 66, op := Op.binOp BinOp.eql 9 (Operand.tmp 59) (Operand.tmp 65) 9, type := 4, pos := "ref.go:48", after := #[{ on := 2, ground := Ground.data }, { on := 8, ground := Ground.data }], guard := none }) (v := ?v1_9) rfl (by kernel_rfl) (by kernel_rfl) (by kernel_rfl) (fun _ _ _ h => h) (Or.inl ⟨by rfl, ?y1_9⟩) (by assumption) ?r1_9
            case y1_9 => (intro w hSw; (try dsimp only at hSw); go_simp; (try with_reducible rfl))
            try simp only [Act.put, List.setIfInBounds_toArray, List.set_cons_zero, List.set_cons_succ]
            refine wpAnyH_done (by kernel_rfl) ?_ _
            by_cases hp : putL (rN 1 l) = l.take 1
            · have HH := hid (nx_hit hr.out (by omega) HLN.out hp)
              have he : (putL (rN 1 l) == t.toList) = true := by rw [HTL.out, hp]; simp
              have he2 : ((⟨(putL (rN 1 l)).toArray⟩ : ByteArray).toList == t.toList) = true := by rw [tl_of]; exact he
              clear hp hcv hsl
              first | rw [he] | rw [he2]
              clear he he2
              generalize rN 1 l = x at *
              go_wp2_with fail
              go_ret2
              rw [HH.out]
              exact ⟨rfl, hr.out.2.trans ((Mod.refl _ _).drew.trans HM2.out)⟩
            · have HH := hid (nx_miss hr.out (by omega) HLN.out hp ((Mod.refl _ _).drew.trans HM2.out))
              have he : (putL (rN 1 l) == t.toList) = false := by rw [HTL.out, beq_eq_false_iff_ne]; exact hp
              have he2 : ((⟨(putL (rN 1 l)).toArray⟩ : ByteArray).toList == t.toList) = false := by rw [tl_of]; exact he
              clear hp hcv hsl
              first | rw [he] | rw [he2]
              clear he he2
              generalize rN 1 l = x at *
              go_wp2_with fail
              go_roundw
              case rel => exact ⟨2, 2, by omega, rfl, rfl, HH.out⟩
              case measure => simp [intOf]
      · obtain rfl : z = 2 := by omega
        have hkn : k + 2 ≤ s.size := by omega
        have HLN := hid (show 2 ≤ l.length by rw [HLEN.out]; omega)
        clear hz hn h4
        go_wp2_with fail
        go_loopw [7, 8] (fun y i wq => ∃ j : Nat, j ≤ 2 ∧ i = .int .i64 j ∧ y = .int .i32 (rI 2 l j) ∧ wq = wr) (fun _ i _ => 2 - (intOf i).toNat)
        case atStart => exact ⟨0, by omega, rfl, rfl, rfl⟩
        case round =>
          obtain ⟨j, hj, rfl, rfl, rfl⟩ := hrel
          obtain rfl | rfl | rfl : j = 0 ∨ j = 1 ∨ j = 2 := by omega
          · have hst := hid (ri_zero (HGET.out 0 (by omega)) 2 32 (by omega) rfl)
            go_wp2_with fail
            go_roundw
            case rel => exact ⟨1, by omega, rfl, congrArg (Value.int .i32) hst.out, trivial⟩
            case measure => simp [intOf]
          · have hst := hid (ri_step (n := 2) (j := 1) (by omega) (by omega) (HGET.out 1 (by omega)))
            go_wp2_with fail
            go_roundw
            case rel => exact ⟨2, by omega, rfl, congrArg (Value.int .i32) hst.out, trivial⟩
            case measure => simp [intOf]
          · rw [ri_end (by omega) HLN.out]
            obtain ⟨t, hsl, ht⟩ := piece s k 2 ((k : Int) + 2) rfl hkn l HLD.out
            have HTL := hid (show t.toList = l.take 2 by rw [ht, tl_of])
            have hwr := wrap_i64 ((k : Int) + 2) (by omega) (by omega)
            clear ht
            go_wp2_with fail
            refine wp_region_held_drew (S := fun _ => True) (by kernel_rfl) ?_ (fun hHeld => ?_)
            · trivial
            refine wpAnyH_take (i := 0) (oi := { dst := some 57, op := Op.move (Operand.tmp 7), type := 21, pos := "ref.go:48", after := #[], guard := none }) (v := ?v2_0) rfl (by kernel_rfl) (by kernel_rfl) (by kernel_rfl) (fun _ _ _ h => h) (Or.inl ⟨by rfl, ?y2_0⟩) (by assumption) ?r2_0
            case y2_0 => (intro w hSw; (try dsimp only at hSw); go_simp; (try with_reducible rfl))
            try simp only [Act.put, List.setIfInBounds_toArray, List.set_cons_zero, List.set_cons_succ]
            refine wpAnyH_take (i := 3) (oi := { dst := some 60, op := Op.move (Operand.tmp 0), type := 9, pos := "ref.go:48", after := #[], guard := none }) (v := ?v2_3) rfl (by kernel_rfl) (by kernel_rfl) (by kernel_rfl) (fun _ _ _ h => h) (Or.inl ⟨by rfl, ?y2_3⟩) (by assumption) ?r2_3
            case y2_3 => (intro w hSw; (try dsimp only at hSw); go_simp; (try with_reducible rfl))
            try simp only [Act.put, List.setIfInBounds_toArray, List.set_cons_zero, List.set_cons_succ]
            refine wpAnyH_take (i := 4) (oi := { dst := some 61, op := Op.move (Operand.tmp 1), type := 3, pos := "ref.go:48", after := #[], guard := none }) (v := ?v2_4) rfl (by kernel_rfl) (by kernel_rfl) (by kernel_rfl) (fun _ _ _ h => h) (Or.inl ⟨by rfl, ?y2_4⟩) (by assumption) ?r2_4
            case y2_4 => (intro w hSw; (try dsimp only at hSw); go_simp; (try with_reducible rfl))
            try simp only [Act.put, List.setIfInBounds_toArray, List.set_cons_zero, List.set_cons_succ]
            refine wpAnyH_take (i := 5) (oi := { dst := some 62, op := Op.move (Operand.tmp 1), type := 3, pos := "ref.go:48", after := #[], guard := none }) (v := ?v2_5) rfl (by kernel_rfl) (by kernel_rfl) (by kernel_rfl) (fun _ _ _ h => h) (Or.inl ⟨by rfl, ?y2_5⟩) (by assumption) ?r2_5
            case y2_5 => (intro w hSw; (try dsimp only at hSw); go_simp; (try with_reducible rfl))
            try simp only [Act.put, List.setIfInBounds_toArray, List.set_cons_zero, List.set_cons_succ]
            refine wpAnyH_take (i := 6) (oi := { dst := some 63, op := Op.move (Operand.tmp 6), type := 3, pos := "ref.go:48", after := #[], guard := none }) (v := ?v2_6) rfl (by kernel_rfl) (by kernel_rfl) (by kernel_rfl) (fun _ _ _ h => h) (Or.inl ⟨by rfl, ?y2_6⟩) (by assumption) ?r2_6
            case y2_6 => (intro w hSw; (try dsimp only at hSw); go_simp; (try with_reducible rfl))
            try simp only [Act.put, List.setIfInBounds_toArray, List.set_cons_zero, List.set_cons_succ]
            refine wpAnyH_take (i := 7) (oi := { dst := some 64, op := Op.binOp BinOp.add 3 (Operand.tmp 62) (Operand.tmp 63) 3, type := 3, pos := "ref.go:48", after := #[{ on := 5, ground := Ground.data }, { on := 6, ground := Ground.data }], guard := none }) (v := ?v2_7) rfl (by kernel_rfl) (by kernel_rfl) (by kernel_rfl) (fun _ _ _ h => h) (Or.inl ⟨by rfl, ?y2_7⟩) (by assumption) ?r2_7
            case y2_7 => (intro w hSw; (try dsimp only at hSw); go_simp; (try with_reducible rfl))
            try simp only [Act.put, List.setIfInBounds_toArray, List.set_cons_zero, List.set_cons_succ]
            refine wpAnyH_take (i := 8) (oi := { dst := some 65, op := Op.slice 9 (Operand.tmp 60) (some (Operand.tmp 61)) (some (Operand.tmp 64)) none, type := 9, pos := "ref.go:48", after := #[{ on := 3, ground := Ground.data }, { on := 4, ground := Ground.data }, { on := 7, ground := Ground.data }], guard := none }) (v := ?v2_8) rfl (by kernel_rfl) (by kernel_rfl) (by kernel_rfl) (fun _ _ _ h => h) (Or.inl ⟨by rfl, ?y2_8⟩) (by assumption) ?r2_8
            case y2_8 => (intro w hSw; (try dsimp only at hSw); go_simp; (try with_reducible rfl))
            try simp only [Act.put, List.setIfInBounds_toArray, List.set_cons_zero, List.set_cons_succ]
            refine wpAnyH_ready (rs := [1]) (by kernel_rfl) (by simp) ?_
            refine AllReadyH.cons (o := { dst := some 58, op := Op.call { callee := Callee.value (Operand.func 17), args := #[Operand.tmp 57], argTypes := #[21] }, type := 28, pos := "ref.go:48", after := #[{ on := 0, ground := Ground.data }], guard := none }) rfl (fun K hK => ?_) AllReadyH.nil
            go_simp; refine (refput_any wr.drew _).mono ?_; rintro e w2 ⟨a2, c2, rfl, hrd, hm⟩; have hcv : (convert 28 9 (.slice a2 (putL (rN 2 l)).length c2)).run Try.prog w2 = .ok (.string ⟨(putL (rN 2 l)).toArray⟩) w2 := str_rd hrd _ c2 rfl; have HM2 := hid hm; clear hrd hm; go_wp2_with fail
            refine hK.out _ _ ?_ (fun hHeld => ?_)
            · trivial
            clear hK K
            try simp only [Act.put, List.setIfInBounds_toArray, List.set_cons_zero, List.set_cons_succ]
            refine wpAnyH_ready (rs := [2]) (by kernel_rfl) (by simp) ?_
            refine AllReadyH.cons (o := { dst := some 59, op := Op.convert 28 9 (Operand.tmp 58), type := 9, pos := "ref.go:48", after := #[{ on := 1, ground := Ground.data }], guard := none }) rfl (fun K hK => ?_) AllReadyH.nil
            go_simp
            refine hK.out _ _ ?_ (fun hHeld => ?_)
            · trivial
            clear hK K
            try simp only [Act.put, List.setIfInBounds_toArray, List.set_cons_zero, List.set_cons_succ]
            refine wpAnyH_take (i := 9) (oi := { dst := some 66, op := Op.binOp BinOp.eql 9 (Operand.tmp 59) (Operand.tmp 65) 9, type := 4, pos := "ref.go:48", after := #[{ on := 2, ground := Ground.data }, { on := 8, ground := Ground.data }], guard := none }) (v := ?v2_9) rfl (by kernel_rfl) (by kernel_rfl) (by kernel_rfl) (fun _ _ _ h => h) (Or.inl ⟨by rfl, ?y2_9⟩) (by assumption) ?r2_9
            case y2_9 => (intro w hSw; (try dsimp only at hSw); go_simp; (try with_reducible rfl))
            try simp only [Act.put, List.setIfInBounds_toArray, List.set_cons_zero, List.set_cons_succ]
            refine wpAnyH_done (by kernel_rfl) ?_ _
            by_cases hp : putL (rN 2 l) = l.take 2
            · have HH := hid (nx_hit hr.out (by omega) HLN.out hp)
              have he : (putL (rN 2 l) == t.toList) = true := by rw [HTL.out, hp]; simp
              have he2 : ((⟨(putL (rN 2 l)).toArray⟩ : ByteArray).toList == t.toList) = true := by rw [tl_of]; exact he
              clear hp hcv hsl
              first | rw [he] | rw [he2]
              clear he he2
              generalize rN 2 l = x at *
              go_wp2_with fail
              go_ret2
              rw [HH.out]
              exact ⟨rfl, hr.out.2.trans ((Mod.refl _ _).drew.trans HM2.out)⟩
            · have HH := hid (nx_miss hr.out (by omega) HLN.out hp ((Mod.refl _ _).drew.trans HM2.out))
              have he : (putL (rN 2 l) == t.toList) = false := by rw [HTL.out, beq_eq_false_iff_ne]; exact hp
              have he2 : ((⟨(putL (rN 2 l)).toArray⟩ : ByteArray).toList == t.toList) = false := by rw [tl_of]; exact he
              clear hp hcv hsl
              first | rw [he] | rw [he2]
              clear he he2
              generalize rN 2 l = x at *
              go_wp2_with fail
              go_roundw
              case rel => exact ⟨3, 3, by omega, rfl, rfl, HH.out⟩
              case measure => simp [intOf]
      · obtain rfl : z = 3 := by omega
        have hkn : k + 3 ≤ s.size := by omega
        have HLN := hid (show 3 ≤ l.length by rw [HLEN.out]; omega)
        clear hz hn h4
        go_wp2_with fail
        go_loopw [7, 8] (fun y i wq => ∃ j : Nat, j ≤ 3 ∧ i = .int .i64 j ∧ y = .int .i32 (rI 3 l j) ∧ wq = wr) (fun _ i _ => 3 - (intOf i).toNat)
        case atStart => exact ⟨0, by omega, rfl, rfl, rfl⟩
        case round =>
          obtain ⟨j, hj, rfl, rfl, rfl⟩ := hrel
          obtain rfl | rfl | rfl | rfl : j = 0 ∨ j = 1 ∨ j = 2 ∨ j = 3 := by omega
          · have hst := hid (ri_zero (HGET.out 0 (by omega)) 3 16 (by omega) rfl)
            go_wp2_with fail
            go_roundw
            case rel => exact ⟨1, by omega, rfl, congrArg (Value.int .i32) hst.out, trivial⟩
            case measure => simp [intOf]
          · have hst := hid (ri_step (n := 3) (j := 1) (by omega) (by omega) (HGET.out 1 (by omega)))
            go_wp2_with fail
            go_roundw
            case rel => exact ⟨2, by omega, rfl, congrArg (Value.int .i32) hst.out, trivial⟩
            case measure => simp [intOf]
          · have hst := hid (ri_step (n := 3) (j := 2) (by omega) (by omega) (HGET.out 2 (by omega)))
            go_wp2_with fail
            go_roundw
            case rel => exact ⟨3, by omega, rfl, congrArg (Value.int .i32) hst.out, trivial⟩
            case measure => simp [intOf]
          · rw [ri_end (by omega) HLN.out]
            obtain ⟨t, hsl, ht⟩ := piece s k 3 ((k : Int) + 3) rfl hkn l HLD.out
            have HTL := hid (show t.toList = l.take 3 by rw [ht, tl_of])
            have hwr := wrap_i64 ((k : Int) + 3) (by omega) (by omega)
            clear ht
            go_wp2_with fail
            refine wp_region_held_drew (S := fun _ => True) (by kernel_rfl) ?_ (fun hHeld => ?_)
            · trivial
            refine wpAnyH_take (i := 0) (oi := { dst := some 57, op := Op.move (Operand.tmp 7), type := 21, pos := "ref.go:48", after := #[], guard := none }) (v := ?v3_0) rfl (by kernel_rfl) (by kernel_rfl) (by kernel_rfl) (fun _ _ _ h => h) (Or.inl ⟨by rfl, ?y3_0⟩) (by assumption) ?r3_0
            case y3_0 => (intro w hSw; (try dsimp only at hSw); go_simp; (try with_reducible rfl))
            try simp only [Act.put, List.setIfInBounds_toArray, List.set_cons_zero, List.set_cons_succ]
            refine wpAnyH_take (i := 3) (oi := { dst := some 60, op := Op.move (Operand.tmp 0), type := 9, pos := "ref.go:48", after := #[], guard := none }) (v := ?v3_3) rfl (by kernel_rfl) (by kernel_rfl) (by kernel_rfl) (fun _ _ _ h => h) (Or.inl ⟨by rfl, ?y3_3⟩) (by assumption) ?r3_3
            case y3_3 => (intro w hSw; (try dsimp only at hSw); go_simp; (try with_reducible rfl))
            try simp only [Act.put, List.setIfInBounds_toArray, List.set_cons_zero, List.set_cons_succ]
            refine wpAnyH_take (i := 4) (oi := { dst := some 61, op := Op.move (Operand.tmp 1), type := 3, pos := "ref.go:48", after := #[], guard := none }) (v := ?v3_4) rfl (by kernel_rfl) (by kernel_rfl) (by kernel_rfl) (fun _ _ _ h => h) (Or.inl ⟨by rfl, ?y3_4⟩) (by assumption) ?r3_4
            case y3_4 => (intro w hSw; (try dsimp only at hSw); go_simp; (try with_reducible rfl))
            try simp only [Act.put, List.setIfInBounds_toArray, List.set_cons_zero, List.set_cons_succ]
            refine wpAnyH_take (i := 5) (oi := { dst := some 62, op := Op.move (Operand.tmp 1), type := 3, pos := "ref.go:48", after := #[], guard := none }) (v := ?v3_5) rfl (by kernel_rfl) (by kernel_rfl) (by kernel_rfl) (fun _ _ _ h => h) (Or.inl ⟨by rfl, ?y3_5⟩) (by assumption) ?r3_5
            case y3_5 => (intro w hSw; (try dsimp only at hSw); go_simp; (try with_reducible rfl))
            try simp only [Act.put, List.setIfInBounds_toArray, List.set_cons_zero, List.set_cons_succ]
            refine wpAnyH_take (i := 6) (oi := { dst := some 63, op := Op.move (Operand.tmp 6), type := 3, pos := "ref.go:48", after := #[], guard := none }) (v := ?v3_6) rfl (by kernel_rfl) (by kernel_rfl) (by kernel_rfl) (fun _ _ _ h => h) (Or.inl ⟨by rfl, ?y3_6⟩) (by assumption) ?r3_6
            case y3_6 => (intro w hSw; (try dsimp only at hSw); go_simp; (try with_reducible rfl))
            try simp only [Act.put, List.setIfInBounds_toArray, List.set_cons_zero, List.set_cons_succ]
            refine wpAnyH_take (i := 7) (oi := { dst := some 64, op := Op.binOp BinOp.add 3 (Operand.tmp 62) (Operand.tmp 63) 3, type := 3, pos := "ref.go:48", after := #[{ on := 5, ground := Ground.data }, { on := 6, ground := Ground.data }], guard := none }) (v := ?v3_7) rfl (by kernel_rfl) (by kernel_rfl) (by kernel_rfl) (fun _ _ _ h => h) (Or.inl ⟨by rfl, ?y3_7⟩) (by assumption) ?r3_7
            case y3_7 => (intro w hSw; (try dsimp only at hSw); go_simp; (try with_reducible rfl))
            try simp only [Act.put, List.setIfInBounds_toArray, List.set_cons_zero, List.set_cons_succ]
            refine wpAnyH_take (i := 8) (oi := { dst := some 65, op := Op.slice 9 (Operand.tmp 60) (some (Operand.tmp 61)) (some (Operand.tmp 64)) none, type := 9, pos := "ref.go:48", after := #[{ on := 3, ground := Ground.data }, { on := 4, ground := Ground.data }, { on := 7, ground := Ground.data }], guard := none }) (v := ?v3_8) rfl (by kernel_rfl) (by kernel_rfl) (by kernel_rfl) (fun _ _ _ h => h) (Or.inl ⟨by rfl, ?y3_8⟩) (by assumption) ?r3_8
            case y3_8 => (intro w hSw; (try dsimp only at hSw); go_simp; (try with_reducible rfl))
            try simp only [Act.put, List.setIfInBounds_toArray, List.set_cons_zero, List.set_cons_succ]
            refine wpAnyH_ready (rs := [1]) (by kernel_rfl) (by simp) ?_
            refine AllReadyH.cons (o := { dst := some 58, op := Op.call { callee := Callee.value (Operand.func 17), args := #[Operand.tmp 57], argTypes := #[21] }, type := 28, pos := "ref.go:48", after := #[{ on := 0, ground := Ground.data }], guard := none }) rfl (fun K hK => ?_) AllReadyH.nil
            go_simp; refine (refput_any wr.drew _).mono ?_; rintro e w2 ⟨a2, c2, rfl, hrd, hm⟩; have hcv : (convert 28 9 (.slice a2 (putL (rN 3 l)).length c2)).run Try.prog w2 = .ok (.string ⟨(putL (rN 3 l)).toArray⟩) w2 := str_rd hrd _ c2 rfl; have HM2 := hid hm; clear hrd hm; go_wp2_with fail
            refine hK.out _ _ ?_ (fun hHeld => ?_)
            · trivial
            clear hK K
            try simp only [Act.put, List.setIfInBounds_toArray, List.set_cons_zero, List.set_cons_succ]
            refine wpAnyH_ready (rs := [2]) (by kernel_rfl) (by simp) ?_
            refine AllReadyH.cons (o := { dst := some 59, op := Op.convert 28 9 (Operand.tmp 58), type := 9, pos := "ref.go:48", after := #[{ on := 1, ground := Ground.data }], guard := none }) rfl (fun K hK => ?_) AllReadyH.nil
            go_simp
            refine hK.out _ _ ?_ (fun hHeld => ?_)
            · trivial
            clear hK K
            try simp only [Act.put, List.setIfInBounds_toArray, List.set_cons_zero, List.set_cons_succ]
            refine wpAnyH_take (i := 9) (oi := { dst := some 66, op := Op.binOp BinOp.eql 9 (Operand.tmp 59) (Operand.tmp 65) 9, type := 4, pos := "ref.go:48", after := #[{ on := 2, ground := Ground.data }, { on := 8, ground := Ground.data }], guard := none }) (v := ?v3_9) rfl (by kernel_rfl) (by kernel_rfl) (by kernel_rfl) (fun _ _ _ h => h) (Or.inl ⟨by rfl, ?y3_9⟩) (by assumption) ?r3_9
            case y3_9 => (intro w hSw; (try dsimp only at hSw); go_simp; (try with_reducible rfl))
            try simp only [Act.put, List.setIfInBounds_toArray, List.set_cons_zero, List.set_cons_succ]
            refine wpAnyH_done (by kernel_rfl) ?_ _
            by_cases hp : putL (rN 3 l) = l.take 3
            · have HH := hid (nx_hit hr.out (by omega) HLN.out hp)
              have he : (putL (rN 3 l) == t.toList) = true := by rw [HTL.out, hp]; simp
              have he2 : ((⟨(putL (rN 3 l)).toArray⟩ : ByteArray).toList == t.toList) = true := by rw [tl_of]; exact he
              clear hp hcv hsl
              first | rw [he] | rw [he2]
              clear he he2
              generalize rN 3 l = x at *
              go_wp2_with fail
              go_ret2
              rw [HH.out]
              exact ⟨rfl, hr.out.2.trans ((Mod.refl _ _).drew.trans HM2.out)⟩
            · have HH := hid (nx_miss hr.out (by omega) HLN.out hp ((Mod.refl _ _).drew.trans HM2.out))
              have he : (putL (rN 3 l) == t.toList) = false := by rw [HTL.out, beq_eq_false_iff_ne]; exact hp
              have he2 : ((⟨(putL (rN 3 l)).toArray⟩ : ByteArray).toList == t.toList) = false := by rw [tl_of]; exact he
              clear hp hcv hsl
              first | rw [he] | rw [he2]
              clear he he2
              generalize rN 3 l = x at *
              go_wp2_with fail
              go_roundw
              case rel => exact ⟨4, 4, by omega, rfl, rfl, HH.out⟩
              case measure => simp [intOf]
      · obtain rfl : z = 4 := by omega
        have hkn : k + 4 ≤ s.size := by omega
        have HLN := hid (show 4 ≤ l.length by rw [HLEN.out]; omega)
        clear hz hn h4
        go_wp2_with fail
        go_loopw [7, 8] (fun y i wq => ∃ j : Nat, j ≤ 4 ∧ i = .int .i64 j ∧ y = .int .i32 (rI 4 l j) ∧ wq = wr) (fun _ i _ => 4 - (intOf i).toNat)
        case atStart => exact ⟨0, by omega, rfl, rfl, rfl⟩
        case round =>
          obtain ⟨j, hj, rfl, rfl, rfl⟩ := hrel
          obtain rfl | rfl | rfl | rfl | rfl : j = 0 ∨ j = 1 ∨ j = 2 ∨ j = 3 ∨ j = 4 := by omega
          · have hst := hid (ri_zero (HGET.out 0 (by omega)) 4 8 (by omega) rfl)
            go_wp2_with fail
            go_roundw
            case rel => exact ⟨1, by omega, rfl, congrArg (Value.int .i32) hst.out, trivial⟩
            case measure => simp [intOf]
          · have hst := hid (ri_step (n := 4) (j := 1) (by omega) (by omega) (HGET.out 1 (by omega)))
            go_wp2_with fail
            go_roundw
            case rel => exact ⟨2, by omega, rfl, congrArg (Value.int .i32) hst.out, trivial⟩
            case measure => simp [intOf]
          · have hst := hid (ri_step (n := 4) (j := 2) (by omega) (by omega) (HGET.out 2 (by omega)))
            go_wp2_with fail
            go_roundw
            case rel => exact ⟨3, by omega, rfl, congrArg (Value.int .i32) hst.out, trivial⟩
            case measure => simp [intOf]
          · have hst := hid (ri_step (n := 4) (j := 3) (by omega) (by omega) (HGET.out 3 (by omega)))
            go_wp2_with fail
            go_roundw
            case rel => exact ⟨4, by omega, rfl, congrArg (Value.int .i32) hst.out, trivial⟩
            case measure => simp [intOf]
          · rw [ri_end (by omega) HLN.out]
            obtain ⟨t, hsl, ht⟩ := piece s k 4 ((k : Int) + 4) rfl hkn l HLD.out
            have HTL := hid (show t.toList = l.take 4 by rw [ht, tl_of])
            have hwr := wrap_i64 ((k : Int) + 4) (by omega) (by omega)
            clear ht
            go_wp2_with fail
            refine wp_region_held_drew (S := fun _ => True) (by kernel_rfl) ?_ (fun hHeld => ?_)
            · trivial
            refine wpAnyH_take (i := 0) (oi := { dst := some 57, op := Op.move (Operand.tmp 7), type := 21, pos := "ref.go:48", after := #[], guard := none }) (v := ?v4_0) rfl (by kernel_rfl) (by kernel_rfl) (by kernel_rfl) (fun _ _ _ h => h) (Or.inl ⟨by rfl, ?y4_0⟩) (by assumption) ?r4_0
            case y4_0 => (intro w hSw; (try dsimp only at hSw); go_simp; (try with_reducible rfl))
            try simp only [Act.put, List.setIfInBounds_toArray, List.set_cons_zero, List.set_cons_succ]
            refine wpAnyH_take (i := 3) (oi := { dst := some 60, op := Op.move (Operand.tmp 0), type := 9, pos := "ref.go:48", after := #[], guard := none }) (v := ?v4_3) rfl (by kernel_rfl) (by kernel_rfl) (by kernel_rfl) (fun _ _ _ h => h) (Or.inl ⟨by rfl, ?y4_3⟩) (by assumption) ?r4_3
            case y4_3 => (intro w hSw; (try dsimp only at hSw); go_simp; (try with_reducible rfl))
            try simp only [Act.put, List.setIfInBounds_toArray, List.set_cons_zero, List.set_cons_succ]
            refine wpAnyH_take (i := 4) (oi := { dst := some 61, op := Op.move (Operand.tmp 1), type := 3, pos := "ref.go:48", after := #[], guard := none }) (v := ?v4_4) rfl (by kernel_rfl) (by kernel_rfl) (by kernel_rfl) (fun _ _ _ h => h) (Or.inl ⟨by rfl, ?y4_4⟩) (by assumption) ?r4_4
            case y4_4 => (intro w hSw; (try dsimp only at hSw); go_simp; (try with_reducible rfl))
            try simp only [Act.put, List.setIfInBounds_toArray, List.set_cons_zero, List.set_cons_succ]
            refine wpAnyH_take (i := 5) (oi := { dst := some 62, op := Op.move (Operand.tmp 1), type := 3, pos := "ref.go:48", after := #[], guard := none }) (v := ?v4_5) rfl (by kernel_rfl) (by kernel_rfl) (by kernel_rfl) (fun _ _ _ h => h) (Or.inl ⟨by rfl, ?y4_5⟩) (by assumption) ?r4_5
            case y4_5 => (intro w hSw; (try dsimp only at hSw); go_simp; (try with_reducible rfl))
            try simp only [Act.put, List.setIfInBounds_toArray, List.set_cons_zero, List.set_cons_succ]
            refine wpAnyH_take (i := 6) (oi := { dst := some 63, op := Op.move (Operand.tmp 6), type := 3, pos := "ref.go:48", after := #[], guard := none }) (v := ?v4_6) rfl (by kernel_rfl) (by kernel_rfl) (by kernel_rfl) (fun _ _ _ h => h) (Or.inl ⟨by rfl, ?y4_6⟩) (by assumption) ?r4_6
            case y4_6 => (intro w hSw; (try dsimp only at hSw); go_simp; (try with_reducible rfl))
            try simp only [Act.put, List.setIfInBounds_toArray, List.set_cons_zero, List.set_cons_succ]
            refine wpAnyH_take (i := 7) (oi := { dst := some 64, op := Op.binOp BinOp.add 3 (Operand.tmp 62) (Operand.tmp 63) 3, type := 3, pos := "ref.go:48", after := #[{ on := 5, ground := Ground.data }, { on := 6, ground := Ground.data }], guard := none }) (v := ?v4_7) rfl (by kernel_rfl) (by kernel_rfl) (by kernel_rfl) (fun _ _ _ h => h) (Or.inl ⟨by rfl, ?y4_7⟩) (by assumption) ?r4_7
            case y4_7 => (intro w hSw; (try dsimp only at hSw); go_simp; (try with_reducible rfl))
            try simp only [Act.put, List.setIfInBounds_toArray, List.set_cons_zero, List.set_cons_succ]
            refine wpAnyH_take (i := 8) (oi := { dst := some 65, op := Op.slice 9 (Operand.tmp 60) (some (Operand.tmp 61)) (some (Operand.tmp 64)) none, type := 9, pos := "ref.go:48", after := #[{ on := 3, ground := Ground.data }, { on := 4, ground := Ground.data }, { on := 7, ground := Ground.data }], guard := none }) (v := ?v4_8) rfl (by kernel_rfl) (by kernel_rfl) (by kernel_rfl) (fun _ _ _ h => h) (Or.inl ⟨by rfl, ?y4_8⟩) (by assumption) ?r4_8
            case y4_8 => (intro w hSw; (try dsimp only at hSw); go_simp; (try with_reducible rfl))
            try simp only [Act.put, List.setIfInBounds_toArray, List.set_cons_zero, List.set_cons_succ]
            refine wpAnyH_ready (rs := [1]) (by kernel_rfl) (by simp) ?_
            refine AllReadyH.cons (o := { dst := some 58, op := Op.call { callee := Callee.value (Operand.func 17), args := #[Operand.tmp 57], argTypes := #[21] }, type := 28, pos := "ref.go:48", after := #[{ on := 0, ground := Ground.data }], guard := none }) rfl (fun K hK => ?_) AllReadyH.nil
            go_simp; refine (refput_any wr.drew _).mono ?_; rintro e w2 ⟨a2, c2, rfl, hrd, hm⟩; have hcv : (convert 28 9 (.slice a2 (putL (rN 4 l)).length c2)).run Try.prog w2 = .ok (.string ⟨(putL (rN 4 l)).toArray⟩) w2 := str_rd hrd _ c2 rfl; have HM2 := hid hm; clear hrd hm; go_wp2_with fail
            refine hK.out _ _ ?_ (fun hHeld => ?_)
            · trivial
            clear hK K
            try simp only [Act.put, List.setIfInBounds_toArray, List.set_cons_zero, List.set_cons_succ]
            refine wpAnyH_ready (rs := [2]) (by kernel_rfl) (by simp) ?_
            refine AllReadyH.cons (o := { dst := some 59, op := Op.convert 28 9 (Operand.tmp 58), type := 9, pos := "ref.go:48", after := #[{ on := 1, ground := Ground.data }], guard := none }) rfl (fun K hK => ?_) AllReadyH.nil
            go_simp
            refine hK.out _ _ ?_ (fun hHeld => ?_)
            · trivial
            clear hK K
            try simp only [Act.put, List.setIfInBounds_toArray, List.set_cons_zero, List.set_cons_succ]
            refine wpAnyH_take (i := 9) (oi := { dst := some 66, op := Op.binOp BinOp.eql 9 (Operand.tmp 59) (Operand.tmp 65) 9, type := 4, pos := "ref.go:48", after := #[{ on := 2, ground := Ground.data }, { on := 8, ground := Ground.data }], guard := none }) (v := ?v4_9) rfl (by kernel_rfl) (by kernel_rfl) (by kernel_rfl) (fun _ _ _ h => h) (Or.inl ⟨by rfl, ?y4_9⟩) (by assumption) ?r4_9
            case y4_9 => (intro w hSw; (try dsimp only at hSw); go_simp; (try with_reducible rfl))
            try simp only [Act.put, List.setIfInBounds_toArray, List.set_cons_zero, List.set_cons_succ]
            refine wpAnyH_done (by kernel_rfl) ?_ _
            by_cases hp : putL (rN 4 l) = l.take 4
            · have HH := hid (nx_hit hr.out (by omega) HLN.out hp)
              have he : (putL (rN 4 l) == t.toList) = true := by rw [HTL.out, hp]; simp
              have he2 : ((⟨(putL (rN 4 l)).toArray⟩ : ByteArray).toList == t.toList) = true := by rw [tl_of]; exact he
              clear hp hcv hsl
              first | rw [he] | rw [he2]
              clear he he2
              generalize rN 4 l = x at *
              go_wp2_with fail
              go_ret2
              rw [HH.out]
              exact ⟨rfl, hr.out.2.trans ((Mod.refl _ _).drew.trans HM2.out)⟩
            · have HH := hid (nx_miss hr.out (by omega) HLN.out hp ((Mod.refl _ _).drew.trans HM2.out))
              have he : (putL (rN 4 l) == t.toList) = false := by rw [HTL.out, beq_eq_false_iff_ne]; exact hp
              have he2 : ((⟨(putL (rN 4 l)).toArray⟩ : ByteArray).toList == t.toList) = false := by rw [tl_of]; exact he
              clear hp hcv hsl
              first | rw [he] | rw [he2]
              clear he he2
              generalize rN 4 l = x at *
              go_wp2_with fail
              go_roundw
              case rel => exact ⟨5, 5, by omega, rfl, rfl, HH.out⟩
              case measure => simp [intOf]
    · have HE := hid (nx_end hr.out (by omega) (by rw [HLEN.out]; exact h4))
      by_cases h4a : n ≤ 4
      · have hz1 : z ≤ 4 := by omega
        have hz2 : ¬ z ≤ (s.size : Int) - (k : Int) := by omega
        clear hn hz h4 h4a
        go_wp2_with fail
        go_ret2
        rw [HE.out]
        exact ⟨rfl, hr.out.2⟩
      · have hz1 : ¬ z ≤ 4 := by omega
        clear hn hz h4 h4a
        go_wp2_with fail
        go_ret2
        rw [HE.out]
        exact ⟨rfl, hr.out.2⟩
end Go.Proofs.Ytmafdlabbgpacaa
