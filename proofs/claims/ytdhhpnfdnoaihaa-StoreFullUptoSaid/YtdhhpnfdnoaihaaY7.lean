import Derived.Lib.AppendStr
import Derived.Deep.QuietTactic
import Derived.Laws.ResultCell
import Derived.BigQuiet
import Derived.Laws.Rows
import Derived.Test.YtdhhpnfdnoaihaaY6
/-! Q12 -/
/- append of a text's bytes; octet.PutText, PutBool; what encode's closure does. -/
namespace Go.Proofs.Ytdhhpnfdnoaihaa
open Go.RowKit

section
variable {P : Program} {w : World}
theorem run_append_S (t u ty e : TypeId) (i : TypeInfo) (ht : P.underlying t = some (.slice e)) (hu : P.underlying u = some .string) (hi : P.info? e = some i) (hz : i.zero = some (.int .u8 0))
    (hsize : i.size = 1) (hby : i.bytes = 1)
    (v : Value) (n : Nat) (xs : List Value) (hown : w.ownsRow 0 e 1 v n xs) (s : ByteArray)
    (h63 : n + s.size ≤ maxLen) (hbytes : (n + s.size) + (n + s.size) / 4 + 256 ≤ 281474976710656) :
    ∃ v' w', (Builtin.append_ #[t, u] ty #[v, .string s]).run P w = .ok v' w' ∧ w'.ownsRow 0 e 1 v' (n + s.size) (xs ++ Lib.strCells s) ∧ Mod (fun k => v.ownBlock = some k) w w' ∧
      ∀ g, v'.ownBlock = some g → v.ownBlock = some g ∨ (w.heap.size ≤ g ∧ g < w'.heap.size) := by
  have hsmall : n + s.size ≤ 9223372036854775807 := by simp only [maxLen] at h63; omega
  have hxl : xs.length = n := by simpa using hown.1
  have hlen : (xs ++ Lib.strCells s).length = (n + s.size) * 1 := by rw [List.length_append, hxl, Lib.strCells_length, Nat.mul_one]
  have grown : ∀ (old : Nat),
      (w.drew.alloc (.cells (xs.toArray ++ (Lib.strCells s).toArray ++ Builtin.zeroCells (Value.int .u8 0).cells (grownCap w (n + s.size) old e - (n + s.size))) e)).ownsRow 0 e 1
        (.slice (some ⟨w.heap.size, 0, none⟩) (n + s.size) (grownCap w (n + s.size) old e)) (n + s.size) (xs ++ Lib.strCells s) := by
    intro old
    have hge := grownCap_ge w (n + s.size) old e
    refine ownsRow_at hlen (heap_alloc_new w.drew _) hge (grownCap_le_maxLen w (n + s.size) old e h63) ?_ ?_
    · simp only [Array.size_append, List.size_toArray, size_zeroCells, hxl, Lib.strCells_length, Value.cells]
      simp
      omega
    · simp only [Array.toList_append, List.append_assoc]
      rw [← List.append_assoc, ← hlen]
      exact List.take_left
  have hmod : ∀ (T : Nat → Prop) (o : Obj), Mod T w (w.drew.alloc o) := fun T o => ((Mod.refl T w).drew).alloc o
  rcases hown.2 with ⟨rfl, rfl⟩ | ⟨g, cap, cur, rfl, _, hg, hnc, hcm, hcs, htake⟩
  · have hx : xs = [] := List.eq_nil_of_length_eq_zero hxl
    subst hx
    by_cases hm : s.size = 0
    · have hn : Lib.strCells s = [] := List.eq_nil_of_length_eq_zero (by rw [Lib.strCells_length, hm])
      refine ⟨.slice none 0 0, w, ?_, by rw [hn, hm]; exact World.ownsRow_nil w 0 e 1, Mod.refl _ _, fun g hg => .inl hg⟩
      simp [Builtin.append_, run_underlying ht, run_underlying hu, sizeOf, typeInfo, hi, Builtin.lenOf, Builtin.firstCells, hm]
    · have hr' := run_append_nil_string (P := P) w t u ty e i _ ht hu hi hz s (by omega) (by omega) (by rw [hby, Nat.mul_one]; omega)
      have hgr := grown 0
      simp only [Nat.zero_add, List.nil_append, Array.empty_append] at hgr ⊢
      have he : (Lib.strCells s).toArray = s.data.map (fun b => Value.int .u8 b.toNat) := by apply Array.ext'; simp [Lib.strCells]
      rw [he] at hgr
      exact ⟨_, _, hr', hgr, hmod _ _, fun g hg => .inr (by simp [Value.ownBlock] at hg; subst hg; simp)⟩
  · by_cases hroom : n + s.size ≤ cap
    · have hr' := Lib.run_append_room_string (P := P) w t u ty e i ht hu hi hsize g n cap cur hg s hroom (by omega)
      refine ⟨_, _, hr', ownsRow_at hlen (setRow_heap w g cur _ e _ hg) hroom hcm ?_ ?_, (Mod.row (S := fun k => (Value.slice (some ⟨g, 0, none⟩) n cap).ownBlock = some k) (Mod.refl _ _) (.inl rfl) _), fun g' hg' => .inl (by simpa [Value.ownBlock] using hg')⟩
      · simp only [List.size_toArray, List.length_append, List.length_take, List.length_drop, Array.length_toList, Lib.strCells_length]
        omega
      · have ht' : cur.toList.take n = xs := by simpa using htake
        rw [ht', ← hlen]
        exact List.take_left
    · have holds : ∀ j u, xs[j]? = some u → w.cell? ((⟨g, 0, none⟩ : Addr).add j) = some u := hown.cells (g := g) rfl
      have hfit : Builtin.nextslicecap (n + s.size) cap * i.bytes ≤ 281474976710656 := by
        rw [hby, Nat.mul_one]
        exact Nat.le_trans (nextslicecap_bound (by omega)) hbytes
      have hr' := Lib.run_append_grow_string (P := P) w t u ty e i _ ht hu hi hz ⟨g, 0, none⟩ n cap xs (by rw [hsize]; exact hown.1) holds s (by omega) (by omega) hfit
      exact ⟨_, _, hr', grown cap, hmod _ _, fun g hg => .inr (by simp [Value.ownBlock] at hg; subst hg; simp)⟩
end
/-- append of a string's bytes at whatever place of a walk -/
theorem wp_append_S {P : Program} {w : World} {o : Oper} {a : Act} {K : Act → World → Prop} {Q : Exit → Act → World → Prop} (sl x : Operand) (t u : TypeId)
    (ho : o.op = .call { callee := .builtin .append, args := #[sl, x], argTypes := #[t, u] })
    (e : TypeId) (i : TypeInfo) (ht : P.underlying t = some (.slice e)) (hu : P.underlying u = some .string) (hi : P.info? e = some i) (hz : i.zero = some (.int .u8 0))
    (hsize : i.size = 1) (hby : i.bytes = 1)
    (v : Value) (n : Nat) (xs : List Value) (hs : a.eval sl = v) (hown : w.ownsRow 0 e 1 v n xs) (s : ByteArray) (hx : a.eval x = .string s)
    (h63 : n + s.size ≤ maxLen) (hbytes : (n + s.size) + (n + s.size) / 4 + 256 ≤ 281474976710656)
    (h : ∀ va vc w', Hid (w'.ownsRow 0 e 1 (.slice va (n + s.size) vc) (n + s.size) (xs ++ Lib.strCells s)) → Hid (Mod (fun k => v.ownBlock = some k) w w') →
      Hid (∀ g, (Value.slice va (n + s.size) vc).ownBlock = some g → v.ownBlock = some g ∨ (w.heap.size ≤ g ∧ g < w'.heap.size)) → K (a.put o.dst (.slice va (n + s.size) vc)) w') : o.wp P a w K Q := by
  obtain ⟨v', w', hr, h2, h3, h4⟩ := run_append_S (P := P) t u o.type e i ht hu hi hz hsize hby v n xs hown s h63 hbytes
  have hsh : ∃ va vc, v' = .slice va (n + s.size) vc := by
    rcases h2.2 with ⟨rfl, h⟩ | ⟨g, cap, cur, rfl, _⟩
    · exact ⟨none, 0, by rw [h]⟩
    · exact ⟨_, _, rfl⟩
  obtain ⟨va, vc, rfl⟩ := hsh
  unfold Oper.wp execOp
  simp only [ho, resolve, invoke, builtin, Sem.run_bind, Sem.run_pure, Result.andThen_ok, List.map_toArray, List.map_cons, List.map_nil, hs, hx, hr]
  exact h va vc w' h2 h3 h4
theorem strCells_B (l : List UInt8) : Lib.strCells ⟨l.toArray⟩ = l.map B := by simp [Lib.strCells, B]
theorem str_size (l : List UInt8) : (⟨l.toArray⟩ : ByteArray).size = l.length := by simp [ByteArray.size]
theorem ownb_of {w w' : World} {va : Option Addr} {vc n : Nat} {l m lm : List UInt8} (h : w'.ownsRow 0 5 1 (.slice va (n + m.length) vc) (n + m.length) (l.map B ++ m.map B)) (hn : n = l.length) (hlm : lm = l ++ m) (hnew : ∀ g, (Value.slice va (n + m.length) vc).ownBlock = some g → w.heap.size ≤ g) : OwnB w' w.heap.size (.slice va lm.length vc) lm := by
  subst hn hlm
  have e : (l ++ m).length = l.length + m.length := List.length_append
  refine own_of_row ?_ (by rw [e]; exact hnew)
  rw [e, List.map_append]
  exact h
set_option maxRecDepth 100000 in
set_option maxHeartbeats 1600000 in
theorem puttext_any (w : World) (s : List UInt8) (hs : s.length ≤ 100000000) : Calls Try.prog 110 #[.slice none 0 0, Str s] w (RowPost (be8 s.length ++ s) w) := by
  have HP := hid (putint_any w none 0 [] (.inl rfl) (by simp) s.length (by omega))
  have HS := hid (str_size s)
  have HSC := hid (strCells_B s)
  obtain ⟨i, hi, hz, hsz, hby⟩ := info_parts l_info5
  unfold Str
  have hls : ((⟨s.toArray⟩ : ByteArray).size : Int) = (s.length : Int) := by rw [HS.out]
  have HIX := hid (And.intro hi (And.intro hz (And.intro hsz hby)))
  clear hi hz hsz hby
  go_enter Try.func110, Try.ntmps110
  go_wp2_with fail
  refine HP.out.mono ?_
  rintro e w1 ⟨a1, c1, rfl, ho1, hm1⟩
  rw [List.nil_append] at ho1
  have H1 := hid ho1
  have HM1 := hid hm1
  have HL := hid (be8_len (s.length : Int))
  have HL8 := hid (show (([] : List UInt8) ++ be8 (s.length : Int)).length = 8 by simp [be8_len])
  rw [HL8.out]
  have hO : Hid (w1.ownsRow 0 5 1 (.slice a1 8 c1) 8 ((be8 (s.length : Int)).map B)) := by
    have := ho1.base (Nat.zero_le _)
    exact this
  clear ho1 hm1 HP
  generalize be8 (s.length : Int) = h8 at *
  go_wp2_with (at_builtin; go_loud (refine wpList_plain rfl (fun K hK => wp_append_S (.tmp 8) (.tmp 9) 27 9 rfl 5 i und27 und9 HIX.out.1 HIX.out.2.1 HIX.out.2.2.1 HIX.out.2.2.2 _ 8 _ rfl hO.out _ rfl (by rw [HS.out]; unfold maxLen; omega) (by rw [HS.out]; omega) (fun va vc w' h2 h3 h4 => hK _ _ ?_))))
  go_ret
  rw [HS.out, HSC.out] at h2
  rw [HS.out] at h4
  have e : (h8 ++ s).length = 8 + s.length := by rw [List.length_append, HL.out]
  have H9 : OwnB w1 w.heap.size (.slice a1 8 c1) h8 := by have := H1.out; rw [HL.out] at this; exact this
  refine ⟨va, vc, by rw [e]; rfl, ?_, HM1.out.then h3.out (fun k hk hg => ?_)⟩
  · have hh : ∀ g, (Value.slice va (8 + s.length) vc).ownBlock = some g → w.heap.size ≤ g := fun g hg => by
      rcases h4.out g hg with h | h
      · exact (H9.lt g h).1
      · exact Nat.le_trans HM1.out.size h.1
    exact ownb_of h2.out HL.out.symm rfl hh
  · have := (H9.lt k hg).1; omega
theorem bool_lit (w : World) (C : Array Value) (u : UInt8) (hC : C = #[.int .u8 (u.toNat : Int)]) (C2 : Array Value) (q : Nat) (hq : q = w.heap.size) (hC2 : C2 = #[.slice none 0 0, .slice (some ⟨q, 0, none⟩) 1 1]) (q2 : Nat) (hq2 : q2 = (w.alloc (.cells C 5)).heap.size) :
    RdSS ((w.alloc (.cells C 5)).alloc (.cells C2 27)) (some ⟨q2, 0, none⟩) [[], [u]] :=
  parts2 _ _ _ _ hC2 [] [u] ⟨none, 0, rfl, .inl rfl, by simp⟩ ⟨_, 1, rfl, rd_lit w C [u] (by rw [hC]; rfl) _ _ hq, by simp⟩ _ hq2
set_option maxRecDepth 100000 in
set_option maxHeartbeats 1600000 in
theorem putbool_any (w : World) (x : Bool) : Calls Try.prog 111 #[.slice none 0 0, .bool x] w (RowPost [if x then 1 else 0] w) := by
  cases x with
  | true =>
    go_enter Try.func111, Try.ntmps111
    go_wp2_with fail
    refine (concat_any _ _ 2 [[], [1]] (bool_lit w _ 1 rfl _ _ rfl rfl _ (by simp)) (by simp) (by simp) (by simp)).mono ?_
    rintro e w2 hp
    have HQ := hid (rowpost_back hp (show [[], [(1 : UInt8)]].flatten = [1] by simp) (((Mod.refl _ w).alloc _).alloc _))
    clear hp
    obtain ⟨xa, xc, rfl, hx⟩ := HQ.out
    go_wp2_with fail
    go_ret
    exact ⟨xa, xc, rfl, hx⟩
  | false =>
    go_enter Try.func111, Try.ntmps111
    go_wp2_with fail
    refine (concat_any _ _ 2 [[], [0]] (bool_lit w _ 0 rfl _ _ rfl rfl _ (by simp)) (by simp) (by simp) (by simp)).mono ?_
    rintro e w2 hp
    have HQ := hid (rowpost_back hp (show [[], [(0 : UInt8)]].flatten = [0] by simp) (((Mod.refl _ w).alloc _).alloc _))
    clear hp
    obtain ⟨xa, xc, rfl, hx⟩ := HQ.out
    go_wp2_with fail
    go_ret
    exact ⟨xa, xc, rfl, hx⟩
end Go.Proofs.Ytdhhpnfdnoaihaa

/-! Q13 -/
/- encode's closure, and encode. -/
namespace Go.Proofs.Ytdhhpnfdnoaihaa
open Go.RowKit

/-- the bytes that are told so far, in the variable at q -/
def OutS (w0 w : World) (q : Nat) (out : List UInt8) : Prop :=
  ∃ va vc, Blk w q 27 [.slice va out.length vc] ∧ OwnB w w0.heap.size (.slice va out.length vc) out ∧ (Value.slice va out.length vc).ownBlock ≠ some q ∧ Mod None w0 w ∧ w0.heap.size ≤ q
theorem OutS.keep {w0 w w' : World} {q : Nat} {out : List UInt8} (h : OutS w0 w q out) (hm : Mod None w w') : OutS w0 w' q out := by
  obtain ⟨va, vc, h1, h2, h3, h4, h5⟩ := h
  exact ⟨va, vc, hm.blk h1 (fun e => e), h2.kept hm (fun _ _ e => e), h3, h4.trans hm, h5⟩
theorem OutS.lt {w0 w : World} {q : Nat} {out : List UInt8} (h : OutS w0 w q out) : q < w.heap.size := by
  obtain ⟨va, vc, h1, _⟩ := h; exact h1.lt
/-- changes that lie in blocks of their own stay -/
def Kept89 (w w' : World) : Prop := ∀ b cs, Blk w b 89 cs → Blk w' b 89 cs
theorem put_end {w0 w w2 : World} {q n : Nat} {out m : List UInt8} {va va2 : Option Addr} {vc vc2 : Nat} (h2 : OwnB w w0.heap.size (.slice va out.length vc) out) (h3 : (Value.slice va out.length vc).ownBlock ≠ some q) (h4 : Mod None w0 w) (h1 : Blk w q 27 [.slice va out.length vc]) (hq : q < w.heap.size) (h5 : w0.heap.size ≤ q)
    (hm : Mod (fun k => (Value.slice va out.length vc).ownBlock = some k) w w2) (b2 : Blk w2 q 27 [.slice va out.length vc]) (hn : n = m.length)
    (g2 : w2.ownsRow 0 5 1 (.slice va2 (out.length + n) vc2) (out.length + n) (out.map B ++ m.map B)) (g4 : ∀ g, (Value.slice va2 (out.length + n) vc2).ownBlock = some g → (Value.slice va out.length vc).ownBlock = some g ∨ (w.heap.size ≤ g ∧ g < w2.heap.size)) :
    OutS w0 (w2.setCell ⟨q, 0, none⟩ (.slice va2 (out.length + n) vc2)) q (out ++ m) ∧ Kept89 w (w2.setCell ⟨q, 0, none⟩ (.slice va2 (out.length + n) vc2)) := by
  subst hn
  have e : (out ++ m).length = out.length + m.length := List.length_append
  have hne : (Value.slice va2 (out.length + m.length) vc2).ownBlock ≠ some q := fun hg => by
    rcases g4 q hg with h | h
    · exact h3 h
    · omega
  have hm2 : Mod None w0 w2 := h4.then hm (fun k hk hg => by have := (h2.lt k hg).1; omega)
  have ho : OwnB w2 w0.heap.size (.slice va2 (out ++ m).length vc2) (out ++ m) := by
    refine own_of_row (w := w0) ?_ (fun g hg => ?_)
    · rw [e, List.map_append]; exact g2
    · rw [e] at hg
      rcases g4 g hg with h | h
      · exact (h2.lt g h).1
      · exact Nat.le_trans h4.size h.1
  have hs : Mod (fun k => k = q) w2 (w2.setCell ⟨q, 0, none⟩ (.slice va2 (out.length + m.length) vc2)) := Mod.set (S := fun k => k = q) (Mod.refl _ w2) (p := ⟨q, 0, none⟩) (.inl rfl) _
  refine ⟨?_, fun b cs hb => ?_⟩
  rotate_left
  · have hq' : b ≠ q := fun e => by subst e; exact absurd (hb.uniq h1).1 (by decide)
    have hg' : ¬ (Value.slice va out.length vc).ownBlock = some b := fun e => by
      rcases h2.2 with ⟨e1, _⟩ | ⟨g, cap, cur, e1, _, hg, _⟩
      · rw [e1] at e; cases e
      · rw [e1] at e
        have e2 : g = b := by simpa [Value.ownBlock] using e
        subst e2
        have := (hb.uniq (show Blk w g 5 cur.toList from by unfold Blk; rw [hg])).1
        exact absurd this (by decide)
    exact hs.blk (hm.blk hb hg') hq'
  refine ⟨va2, vc2, ?_, ?_, by rw [e]; exact hne, hm2.then hs (fun k hk e => by subst e; omega), h5⟩
  · rw [e]; exact b2.set 0 _
  · exact ho.kept hs (fun g hg e' => hne (by subst e'; rw [e] at hg; exact hg))
set_option maxRecDepth 100000 in
set_option maxHeartbeats 1600000 in
theorem put109_any (w0 w : World) (q : Nat) (out m : List UInt8) (h : OutS w0 w q out) (a : Option Addr) (n c : Nat) (hn : n = m.length) (hr : Rd w a m) (hb : out.length + m.length ≤ 200000000) :
    Calls Try.prog 109 #[.slice a n c, .pointer (some ⟨q, 0, none⟩)] w fun e w' => e = .returned (.tuple #[]) ∧ OutS w0 w' q (out ++ m) ∧ Kept89 w w' := by
  obtain ⟨va, vc, h1, h2, h3, h4, h5⟩ := h
  obtain ⟨i, hi, hz, hsz, hby⟩ := info_parts l_info5
  have hq := h1.lt
  have c0 : w.cell? ⟨q, 0, none⟩ = some (.slice va out.length vc) := h1.is rfl
  have H1 := hid h1
  have H2 := hid h2
  have H3 := hid h3
  have H4 := hid h4
  have HR := hid hr
  have HN := hid hn
  have HO : Hid (w.ownsRow 0 5 1 (.slice va out.length vc) out.length (out.map B)) := h2.base (Nat.zero_le _)
  have HIX := hid (And.intro hi (And.intro hz (And.intro hsz hby)))
  clear h1 h2 h3 h4 hr hn hi hz hsz hby
  have hb' := hb
  rw [← HN.out] at hb'
  go_enter Try.func109, Try.ntmps109
  go_wp2_with (at_builtin; go_loud (refine wpList_plain rfl (fun K hK => wp_append_R (.tmp 3) (.tmp 4) 27 rfl 5 i (.int .u8 0) 1 1 und27 HIX.out.1 HIX.out.2.1 HIX.out.2.2.1 HIX.out.2.2.2 rfl (by decide) _ out.length _ rfl HO.out a n c (m.map B) rfl (by rw [List.length_map, HN.out, Nat.mul_one]) HR.out (B_one m) (by unfold maxLen; omega) (by omega) (fun va2 vc2 w2 g2 g3 g4 => hK _ _ ?_))); have hm3 : Mod (fun k => (Value.slice va out.length vc).ownBlock = some k) w w2 := g3.out; have b2 := hm3.blk H1.out (fun e => H3.out e); have c2 := b2.is (i := 0) rfl; have f2 := b2.free 0; have HM3 := hid hm3; have HB2 := hid b2; have HG2 := hid (put_end H2.out H3.out H4.out H1.out hq h5 hm3 b2 HN.out g2.out g4.out); clear hm3 b2 g2 g3 g4)
  go_end0
  exact ⟨rfl, HG2.out⟩
end Go.Proofs.Ytdhhpnfdnoaihaa

/-! Q14 -/
/- The store's encode. -/
namespace Go.Proofs.Ytdhhpnfdnoaihaa
open Go.RowKit

/-- a change's bytes; a batch's -/
def encC (c : Ch) : List UInt8 := be8 c.key.length ++ c.key ++ [if c.gone then 1 else 0] ++ (if c.gone then [] else be8 c.val.length ++ c.val)
def encL (l : List Ch) : List UInt8 := be8 l.length ++ l.flatMap encC
def wtC (c : Ch) : Nat := 17 + c.key.length + c.val.length
def wtL (l : List Ch) : Nat := 8 + (l.map wtC).sum
theorem encC_len (c : Ch) : (encC c).length ≤ wtC c := by
  unfold encC wtC
  cases c.gone <;> simp [be8_len] <;> omega
theorem encL_len (l : List Ch) : (encL l).length ≤ wtL l := by
  unfold encL wtL
  rw [List.length_append, be8_len, List.length_flatMap]
  have : (l.map (fun c => (encC c).length)).sum ≤ (l.map wtC).sum := by
    induction l with
    | nil => simp
    | cons x l ih => simp only [List.map_cons, List.sum_cons]; have := encC_len x; omega
  omega
theorem wtL_take (l : List Ch) (k : Nat) : wtL (l.take k) ≤ wtL l := by
  unfold wtL
  have : ((l.take k).map wtC).sum + ((l.drop k).map wtC).sum = (l.map wtC).sum := by
    rw [← List.sum_append, ← List.map_append, List.take_append_drop]
  omega
theorem wtL_succ {l : List Ch} {k : Nat} (hk : k < l.length) : wtL (l.take (k + 1)) = wtL (l.take k) + wtC (nth l k) := by
  unfold wtL
  rw [List.take_add_one, List.getElem?_eq_getElem hk, nth_at hk]
  simp only [Option.toList_some, List.map_append, List.sum_append, List.map_cons, List.map_nil, List.sum_cons, List.sum_nil]; omega
theorem len_wt (l : List Ch) : l.length ≤ wtL l := by
  unfold wtL
  induction l with
  | nil => simp
  | cons x l ih => simp only [List.map_cons, List.sum_cons, List.length_cons]; have : 1 ≤ wtC x := by unfold wtC; omega
                   omega
theorem at_wt {l : List Ch} {k : Nat} (hk : k < l.length) : wtC (nth l k) ≤ wtL l := by
  have h1 := wtL_succ hk
  have h2 := wtL_take l (k + 1)
  omega
theorem make0_at (w : World) (n : Nat) (hn : n ≤ 140737488355328) : ∃ w', (Instr.makeSlice 27 (.int .i64 0) (.int .i64 (n : Int))).run Try.prog w = .ok (.slice (some ⟨w.heap.size, 0, none⟩) 0 n) w' ∧ OwnB w' w.heap.size (.slice (some ⟨w.heap.size, 0, none⟩) 0 n) [] ∧ Mod None w w' := by
  obtain ⟨i, hi, hz, hsz, hby⟩ := info_parts l_info5
  obtain ⟨w', h1, h2, h3⟩ := run_make_own (P := Try.prog) w w.heap.size 27 5 i (.int .u8 0) 1 und27 hi hz hsz .i64 .i64 n (by rw [hby]; omega) (by unfold maxLen; omega) (Nat.le_refl _)
  exact ⟨w', h1, h2, grown_mod h3 (fun _ h => by cases h)⟩
theorem out_new {w w1 : World} {q0 W : Nat} (ho : OwnB w1 q0 (.slice (some ⟨q0, 0, none⟩) 0 W) []) (hm : Mod None w w1) (hq : w.heap.size ≤ q0) :
    OutS w (w1.alloc (.cells #[.slice (some ⟨q0, 0, none⟩) 0 W] 27)) w1.heap.size [] := by
  have hlt := (ho.lt q0 rfl).2
  refine ⟨some ⟨q0, 0, none⟩, W, Blk.new w1 27 #[.slice (some ⟨q0, 0, none⟩) 0 W], ?_, ?_, hm.alloc _, hm.size⟩
  · exact (ho.base hq).kept ((Mod.refl None w1).alloc _) (fun _ _ h => h)
  · intro e
    have e' : q0 = w1.heap.size := by simpa [Value.ownBlock] using e
    omega
def PutPost (w0 : World) (q : Nat) (out : List UInt8) (w : World) (e : Ending) (w' : World) : Prop := e = .returned (.tuple #[]) ∧ OutS w0 w' q out ∧ Kept89 w w'
theorem row_put {w0 w w2 : World} {q : Nat} {out m : List UInt8} (h : OutS w0 w q out) {a : Option Addr} {n c : Nat} (hn : n = m.length) (ho : OwnB w2 w.heap.size (.slice a m.length c) m) (hm : Mod None w w2) (hb : out.length + m.length ≤ 200000000) :
    Calls Try.prog 109 #[.slice a n c, .pointer (some ⟨q, 0, none⟩)] w2 (PutPost w0 q (out ++ m) w2) := by
  obtain ⟨a', c', e, hr⟩ := ho.rd
  obtain ⟨rfl, rfl⟩ : a = a' ∧ c = c' := by simpa using e
  exact put109_any w0 w2 q out m (h.keep hm) a n c hn hr hb
/-- .. and the change that is told, at p -/
def EncS (w0 w : World) (q : Nat) (out : List UInt8) (p : Nat) (x : Ch) : Prop := OutS w0 w q out ∧ Blk w p 89 (chC x)
theorem EncS.keep {w0 w w' : World} {q p : Nat} {out : List UInt8} {x : Ch} (h : EncS w0 w q out p x) (hm : Mod None w w') : EncS w0 w' q out p x := ⟨h.1.keep hm, hm.blk h.2 (fun e => e)⟩
theorem EncS.new {w0 w : World} {q : Nat} {out : List UInt8} {x : Ch} (h : OutS w0 w q out) : EncS w0 (w.alloc (.cells #[.string ⟨x.key.toArray⟩, .string ⟨x.val.toArray⟩, .bool x.gone] 89)) q out w.heap.size x :=
  ⟨h.keep ((Mod.refl None w).alloc _), ch_new x⟩
theorem EncS.cells {w0 w : World} {q p : Nat} {out : List UInt8} {x : Ch} (h : EncS w0 w q out p x) : w.cell? ⟨p, 0, none⟩ = some (.string ⟨x.key.toArray⟩) ∧ w.cell? ⟨p, 1, none⟩ = some (.string ⟨x.val.toArray⟩) ∧ w.cell? ⟨p, 2, none⟩ = some (.bool x.gone) := ⟨h.2.is rfl, h.2.is rfl, h.2.is rfl⟩
theorem row_putx {w0 w w2 : World} {q p : Nat} {out m : List UInt8} {x : Ch} (h : EncS w0 w q out p x) {a : Option Addr} {c n : Nat} (hn : n = m.length) (ho : OwnB w2 w.heap.size (.slice a m.length c) m) (hm : Mod None w w2) (hb : out.length + m.length ≤ 200000000) :
    Calls Try.prog 109 #[.slice a n c, .pointer (some ⟨q, 0, none⟩)] w2 fun e w' => e = .returned (.tuple #[]) ∧ EncS w0 w' q (out ++ m) p x :=
  (row_put h.1 hn ho hm hb).mono fun _ _ ⟨he, h1, h2⟩ => ⟨he, h1, h2 _ _ (h.keep hm).2⟩
theorem flat_succ {l : List Ch} {k : Nat} (hk : k < l.length) : (l.take (k + 1)).flatMap encC = (l.take k).flatMap encC ++ encC (nth l k) := by
  rw [List.take_add_one, List.getElem?_eq_getElem hk, nth_at hk, List.flatMap_append]
  simp only [Option.toList_some, List.flatMap_cons, List.flatMap_nil, List.append_nil]
theorem flatE_len (l : List Ch) (k : Nat) : ((l.take k).flatMap encC).length + 8 ≤ wtL l := by
  have h1 := encL_len (l.take k)
  have h2 := wtL_take l k
  unfold encL at h1
  rw [List.length_append, be8_len] at h1
  omega
set_option maxRecDepth 100000 in
set_option maxHeartbeats 3200000 in
theorem encode_any (w : World) (a : Option Addr) (n c : Nat) (l : List Ch) (hn : n = l.length) (hr : RdV w a (rowC l)) (hb : wtL l ≤ 100000000) : Calls Try.prog 89 #[.slice a n c] w (RowPost (encL l) w) := by
  have HR := hid hr
  have HN := hid hn
  have HB := hid hb
  have hnb : n ≤ 100000000 := by have := len_wt l; omega
  have HW := hid (fun k (hk : k < l.length) => wtL_succ hk)
  have HT := hid (fun k => wtL_take l k)
  clear hr hn hb
  go_enter Try.func89, Try.ntmps89
  go_wp2_with fail
  go_loopw [3, 12] (fun x i wr => ∃ k : Nat, k ≤ n ∧ i = .int .i64 k ∧ x = .int .i64 ((wtL (l.take k) : Nat) : Int) ∧ Hid (Mod None w wr)) (fun _ i _ => n - (intOf i).toNat)
  case atStart => exact ⟨0, by omega, rfl, by simp [wtL], Mod.refl _ _⟩
  case round =>
    obtain ⟨k, hk, rfl, rfl, hm⟩ := hrel
    by_cases hlt : k < n
    · have hlt' : (k : Int) < (n : Int) := by omega
      have hkl : k < l.length := by have := HN.out; omega
      obtain ⟨b, o, rfl, e1, e2, e3⟩ := rd_ch HR.out hkl
      have d1 := hm.out.cell0 e1
      have d2 := hm.out.cell0 e2
      have d3 := hm.out.cell0 e3
      have hw1 := HW.out k hkl
      have HW1 := hid (show wtL (l.take (k + 1)) = wtL (l.take k) + (17 + (nth l k).key.length + (nth l k).val.length) from hw1)
      have hle := HT.out (k + 1)
      have hB := HB.out
      have HX : Hid (wtC (nth l k) = 17 + (nth l k).key.length + (nth l k).val.length) := rfl
      have hX := HX.out
      have HSK := hid (str_size (nth l k).key)
      have HSV := hid (str_size (nth l k).val)
      unfold Str at d1 d2
      generalize nth l k = x at *
      have hs1 : ((⟨x.key.toArray⟩ : ByteArray).size : Int) = (x.key.length : Int) := by rw [HSK.out]
      have hs2 : ((⟨x.val.toArray⟩ : ByteArray).size : Int) = (x.val.length : Int) := by rw [HSV.out]
      generalize wtL (l.take k) = W at *
      generalize wtC x = wx at *
      have hw4 : IntKind.i64.wrap (17 + (x.key.length : Int)) = 17 + (x.key.length : Int) := by rw [IntKind.wrap_i64]; omega
      have hw2 : IntKind.i64.wrap (17 + (x.key.length : Int) + (x.val.length : Int)) = 17 + (x.key.length : Int) + (x.val.length : Int) := by rw [IntKind.wrap_i64]; omega
      have hw3 : IntKind.i64.wrap ((W : Int) + (17 + (x.key.length : Int) + (x.val.length : Int))) = (W : Int) + (17 + (x.key.length : Int) + (x.val.length : Int)) := by rw [IntKind.wrap_i64]; omega
      clear hw1 hle hX
      go_wp2_with fail
      go_roundw
      case rel => exact ⟨k + 1, by omega, by go_num, by rw [HW1.out]; go_num, (hm.out.alloc _)⟩
      case measure => simp [intOf]; omega
    · obtain rfl : n = k := by omega
      have hall : l.take n = l := by rw [HN.out, List.take_length]
      rw [hall]
      have hB := HB.out
      obtain ⟨w1, hmk, ho1, hm1⟩ := make0_at wr (wtL l) (by omega)
      have HO1 := hid ho1
      have HM1 := hid (hm.out.trans hm1)
      have HMS := hid hm.out.size
      have HMS1 := hid hm1.size
      generalize wr.heap.size = q0 at *
      clear ho1 hm1 hall
      have HFL := hid (fun j => flatE_len l j)
      have HAT := hid (fun j (hj : j < l.length) => at_wt hj)
      have HFS := hid (fun j (hj : j < l.length) => flat_succ hj)
      generalize hWW : wtL l = W at *
      have HOS := hid (out_new HO1.out HM1.out HMS.out)
      have HW8 := hid (be8_len (n : Int))
      have hq1 : q0 < w1.heap.size := (HO1.out.lt q0 rfl).2
      clear hWW
      go_wp2_with fail
      refine (putint_any _ none 0 [] (.inl rfl) (by simp) n (by omega)).mono ?_
      rintro e w2 ⟨a2, c2, rfl, ho2, hm2⟩
      rw [List.nil_append] at ho2
      have H2 := hid ho2
      have HM2 := hid hm2
      have HL2 := hid (show (([] : List UInt8) ++ be8 (n : Int)).length = 8 by simp [be8_len])
      rw [HL2.out]
      clear ho2 hm2 hmk
      generalize w1.heap.size = q at *
      go_wp2_with fail
      refine (row_put HOS.out HW8.out.symm H2.out HM2.out (by simp [be8_len])).mono ?_
      rintro e w3 ⟨rfl, h3, _⟩
      rw [List.nil_append] at h3
      have H3 := hid h3
      clear h3
      go_wp2_with fail
      go_loopw [37] (fun i wr => ∃ j : Nat, j ≤ n ∧ i = .int .i64 j ∧ Hid (OutS w wr q (be8 (n : Int) ++ (l.take j).flatMap encC))) (fun i _ => n - (intOf i).toNat)
      case atStart => exact ⟨0, by omega, rfl, by rw [List.take_zero, List.flatMap_nil, List.append_nil]; exact H3⟩
      case round =>
        obtain ⟨j, hj, rfl, h4⟩ := hrel
        by_cases hlt : j < n
        · have hlt' : (j : Int) < (n : Int) := by omega
          have hkl : j < l.length := by have := HN.out; omega
          obtain ⟨b, o, rfl, e1, e2, e3⟩ := rd_ch HR.out hkl
          have HM4 := hid (show Mod None w wr from by obtain ⟨_, _, _, _, _, h, _⟩ := h4.out; exact h)
          have d1 := HM4.out.cell0 e1
          have d2 := HM4.out.cell0 e2
          have d3 := HM4.out.cell0 e3
          have hfl := HFL.out j
          have HS := hid (HFS.out j hkl)
          have hat := HAT.out j hkl
          have HX := hid (show wtC (nth l j) = 17 + (nth l j).key.length + (nth l j).val.length from rfl)
          have hX := HX.out
          have HEC := hid (show encC (nth l j) = be8 (nth l j).key.length ++ (nth l j).key ++ [if (nth l j).gone then 1 else 0] ++ (if (nth l j).gone then [] else be8 (nth l j).val.length ++ (nth l j).val) from rfl)
          have HEN := hid (encC_len (nth l j))
          have HTOT := hid (show (be8 (n : Int) ++ (l.take j).flatMap encC).length + (be8 (nth l j).key.length ++ (nth l j).key).length + 1 + (if (nth l j).gone then [] else be8 (nth l j).val.length ++ (nth l j).val).length ≤ 100000000 by
            have := HFL.out (j + 1)
            rw [HS.out, HEC.out] at this
            simp only [List.length_append, List.length_cons, List.length_nil] at this ⊢
            have := HW8.out
            omega)
          unfold Str at d1 d2
          generalize (l.take j).flatMap encC = F at *
          generalize nth l j = x at *
          generalize wtC x = wx at *
          clear e1 e2 e3
          have HE4 := hid (EncS.new (x := x) h4.out)
          have hkx : x.key.length ≤ 100000000 := by omega
          have hvx : x.val.length ≤ 100000000 := by omega
          have HPT := hid (fun w => puttext_any w x.key hkx)
          have HPV := hid (fun w => puttext_any w x.val hvx)
          generalize hout : be8 (n : Int) ++ F = out at *
          have HOUT := hid hout
          clear hout
          generalize be8 (x.key.length : Int) ++ x.key = m5 at *
          generalize be8 (x.val.length : Int) ++ x.val = m9 at *
          clear h4 HM4 hfl hat hX
          go_wp2_with fail
          refine (HPT.out _).mono ?_
          rintro e w5 ⟨a5, c5, rfl, ho5, hm5⟩
          generalize wr.heap.size = p9 at *
          have HP5 := hid (row_putx HE4.out rfl ho5 hm5 (by have := HTOT.out; omega))
          clear ho5 hm5 HE4 d1 d2 d3
          go_wp2_with fail
          refine HP5.out.mono ?_
          rintro e w6 ⟨rfl, h6⟩
          have HE6 := hid h6
          obtain ⟨f0, f1, f2⟩ := h6.cells
          clear h6 HP5
          go_wp2_with fail
          refine (putbool_any _ x.gone).mono ?_
          rintro e w7 ⟨a7, c7, rfl, ho7, hm7⟩
          have HP7 := hid (row_putx HE6.out rfl ho7 hm7 (by have := HTOT.out; rw [List.length_append]; simp only [List.length_cons, List.length_nil]; omega))
          clear ho7 hm7 HE6 f0 f1 f2
          go_wp2_with fail
          refine HP7.out.mono ?_
          rintro e w8 ⟨rfl, h8⟩
          have HE8 := hid h8
          obtain ⟨f0, f1, f2⟩ := h8.cells
          clear h8 HP7
          cases hg : x.gone with
          | true =>
            rw [hg] at f2 HEC HE8
            go_wp2_with fail
            go_roundw
            case rel => exact ⟨j + 1, by omega, by go_num, by rw [HS.out, HEC.out]; refine hid ?_; have := HE8.out.1; rw [← HOUT.out] at this; simpa using this⟩
            case measure => simp [intOf]; omega
          | false =>
            rw [hg, if_neg (by simp)] at HTOT
            rw [hg] at f2 HEC HE8
            go_wp2_with fail
            refine (HPV.out _).mono ?_
            rintro e w9 ⟨a9, c9, rfl, ho9, hm9⟩
            have HP9 := hid (row_putx HE8.out rfl ho9 hm9 (by have := HTOT.out; rw [List.length_append, List.length_append]; simp only [List.length_cons, List.length_nil]; omega))
            clear ho9 hm9 HE8 f0 f1 f2
            go_wp2_with fail
            refine HP9.out.mono ?_
            rintro e w10 ⟨rfl, h10⟩
            have HE10 := hid h10
            clear h10 HP9
            go_wp2_with fail
            go_roundw
            case rel => exact ⟨j + 1, by omega, by go_num, by rw [HS.out, HEC.out]; refine hid ?_; have := HE10.out.1; rw [← HOUT.out] at this; simpa using this⟩
            case measure => simp [intOf]; omega
        · obtain rfl : n = j := by omega
          obtain ⟨va, vc, hb4, ho4, _, hm4, _⟩ := h4.out
          have hc4 : wr.cell? ⟨q, 0, none⟩ = some (.slice va (be8 (n : Int) ++ (l.take n).flatMap encC).length vc) := hb4.is rfl
          have HE : Hid (be8 (n : Int) ++ (l.take n).flatMap encC = encL l) := by unfold encL; rw [HN.out, List.take_length]; rfl
          rw [HE.out] at hc4 ho4
          have HO4 := hid ho4
          have HM4 := hid hm4
          clear hb4 ho4 hm4
          go_wp2_with fail
          go_ret
          exact ⟨_, _, rfl, HO4.out, HM4.out⟩
end Go.Proofs.Ytdhhpnfdnoaihaa

/-! S1 -/
/- A cell's half as bytes. -/
namespace Go.Proofs.Ytdhhpnfdnoaihaa
open Go.RowKit

/-- a number that is laid as it is -/
def Nat63 (n : Int) : Prop := 0 ≤ n ∧ n < 9223372036854775808
/-- a half's numbers -/
structure Hf where
  t : Int
  a : Int
  b : Int
  c : Int
deriving DecidableEq
def Hf.l (h : Hf) : List Int := [h.t, h.a, h.b, h.c]
def Hf.v (h : Hf) : Value := .agg #[.int .i64 h.t, .int .i64 h.a, .int .i64 h.b, .int .i64 h.c]
def Hf.bytes (h : Hf) : List UInt8 := h.l.flatMap be8
structure Hf.Ok (h : Hf) : Prop where
  t : Nat63 h.t
  a : Nat63 h.a
  b : Nat63 h.b
  c : Nat63 h.c
theorem Hf.len (h : Hf) : h.bytes.length = 32 := rfl
theorem Hf.len4 (h : Hf) : h.l.length = 4 := rfl
theorem bytes_succ (l : List Int) (k : Nat) (n : Int) (h : l[k]? = some n) : (l.take (k + 1)).flatMap be8 = (l.take k).flatMap be8 ++ be8 n := by
  rw [List.take_add_one, h, List.flatMap_append]
  simp
theorem bytes_len (l : List Int) (k : Nat) (h : k ≤ l.length) : ((l.take k).flatMap be8).length = 8 * k := by
  rw [List.length_flatMap]
  have : ∀ m : List Int, (m.map (fun n => (be8 n).length)).sum = 8 * m.length := by
    intro m
    induction m with
    | nil => rfl
    | cons x m ih => rw [List.map_cons, List.sum_cons, ih, be8_len, List.length_cons]; omega
  rw [this, List.length_take]; omega
section
variable (w : World) (a b c d : Int)
@[go_sem] theorem index156_0 : (Instr.index 156 (.agg #[.int .i64 a, .int .i64 b, .int .i64 c, .int .i64 d]) (.int .i64 0)).run Try.prog w = .ok (.int .i64 a) w := by kernel_rfl
@[go_sem] theorem index156_1 : (Instr.index 156 (.agg #[.int .i64 a, .int .i64 b, .int .i64 c, .int .i64 d]) (.int .i64 1)).run Try.prog w = .ok (.int .i64 b) w := by kernel_rfl
@[go_sem] theorem index156_2 : (Instr.index 156 (.agg #[.int .i64 a, .int .i64 b, .int .i64 c, .int .i64 d]) (.int .i64 2)).run Try.prog w = .ok (.int .i64 c) w := by kernel_rfl
@[go_sem] theorem index156_3 : (Instr.index 156 (.agg #[.int .i64 a, .int .i64 b, .int .i64 c, .int .i64 d]) (.int .i64 3)).run Try.prog w = .ok (.int .i64 d) w := by kernel_rfl
end
set_option maxRecDepth 100000 in
set_option maxHeartbeats 800000 in
theorem bytes112_any (w : World) (h : Hf) (hk : h.Ok) : Calls Try.prog 112 #[h.v] w (RowPost h.bytes w) := by
  have HL := hid (bytes_len h.l)
  have HS := hid (bytes_succ h.l)
  have HN := hid (show ∀ n ∈ h.l, 0 ≤ n ∧ n < 9223372036854775808 from fun n hn => by
    simp only [Hf.l, List.mem_cons, List.not_mem_nil, or_false] at hn
    rcases hn with rfl | rfl | rfl | rfl
    · exact hk.t
    · exact hk.a
    · exact hk.b
    · exact hk.c)
  have HD := hid (show h.bytes = h.l.flatMap be8 from rfl)
  have HLD := hid (show h.l = [h.t, h.a, h.b, h.c] from rfl)
  unfold Hf.v
  generalize h.t = nt at *
  generalize h.a = na at *
  generalize h.b = nb at *
  generalize h.c = nc at *
  generalize h.bytes = B at *
  generalize h.l = l at *
  clear hk
  go_enter Try.func112, Try.ntmps112
  go_wp2_with fail
  go_loopw [3, 7] (fun v i wr => ∃ (k : Nat) (a : Option Addr) (c : Nat), k ≤ 4 ∧ i = .int .i64 k ∧ v = .slice a (8 * k) c ∧ Hid (OwnB wr w.heap.size (.slice a (8 * k) c) ((l.take k).flatMap be8)) ∧ Hid (Mod None w wr)) (fun _ i _ => 4 - (intOf i).toNat)
  case atStart => exact ⟨0, none, 0, by omega, rfl, rfl, OwnB.nil _ _, (Mod.refl _ _).alloc _⟩
  case round =>
    obtain ⟨k, a, c, hk, rfl, rfl, ho, hm⟩ := hrel
    by_cases hlt : k < 4
    · have hlt' : (k : Int) < 4 := by omega
      have hl4 : l.length = 4 := by rw [HLD.out]; rfl
      obtain ⟨n, hn⟩ : ∃ n, l[k]? = some n := ⟨_, List.getElem?_eq_getElem (by omega)⟩
      have HSN := hid (HS.out k n hn)
      have hlk := HL.out k (by omega)
      have hn0 := HN.out n (List.mem_of_getElem? hn)
      obtain ⟨a', c', e, hr⟩ := ho.out.rd
      obtain ⟨rfl, rfl⟩ : a = a' ∧ c = c' := by
        injection e with e1 e2 e3
        exact ⟨e1, e3⟩
      have HP := hid (putint_any wr a c ((l.take k).flatMap be8) hr (by omega) n hn0)
      rw [hlk] at HP
      have HLK := hid (HL.out (k + 1) (by omega))
      have HBW := hid hm.out.size
      rw [← HSN.out] at HP
      clear e hr hlk
      have hag : (Value.agg #[.int .i64 nt, .int .i64 na, .int .i64 nb, .int .i64 nc]) = Value.agg #[.int .i64 nt, .int .i64 na, .int .i64 nb, .int .i64 nc] := rfl
      have hnk : (k = 0 ∧ n = nt) ∨ (k = 1 ∧ n = na) ∨ (k = 2 ∧ n = nb) ∨ (k = 3 ∧ n = nc) := by
        rw [HLD.out] at hn
        rcases (show k = 0 ∨ k = 1 ∨ k = 2 ∨ k = 3 by omega) with rfl | rfl | rfl | rfl <;> simp at hn <;> simp [hn]
      clear hag hn
      rcases hnk with ⟨rfl, rfl⟩ | ⟨rfl, rfl⟩ | ⟨rfl, rfl⟩ | ⟨rfl, rfl⟩
      all_goals
        go_wp2_with fail
        refine HP.out.mono ?_
        rintro e w2 ⟨a2, c2, rfl, ho2, hm2⟩
        rw [HLK.out] at ho2 ⊢
        have H2 := hid (ho2.base HBW.out)
        have HM2 := hid (hm.out.trans hm2)
        clear ho2 hm2 HP
        go_wp2_with fail
        go_roundw
        case rel => exact ⟨_, _, _, by omega, by go_num, rfl, H2.out, HM2.out⟩
        case measure => simp [intOf]
    · obtain rfl : k = 4 := by omega
      have hlt' : ¬ ((4 : Nat) : Int) < 4 := by omega
      have HE := hid (show l.take 4 = l by rw [HLD.out]; rfl)
      rw [HE.out, ← HD.out] at ho
      have hlB := HL.out 4 (by rw [HLD.out]; simp)
      rw [HE.out, ← HD.out] at hlB
      have HLB := hid (show B.length = 32 by omega)
      clear hlB
      rw [show 8 * 4 = 32 from rfl] at *
      go_wp2_with fail
      go_ret
      exact ⟨a, c, by rw [HLB.out]; rfl, by rw [HLB.out]; exact ho.out, hm.out⟩
end Go.Proofs.Ytdhhpnfdnoaihaa

/-! X1 -/
/- '==' between arrays of four numbers. -/
namespace Go.Proofs.Ytdhhpnfdnoaihaa
section
variable {P : Program} (w : World)
theorem run_equalIn_arr4 (d : Nat) (t e : TypeId) (k : IntKind) (a0 a1 a2 a3 b0 b1 b2 b3 : Int) (ht : P.underlying t = some (.array 4 e)) (he : P.underlying e = some (.int k)) (hs : (P.info? e).map (·.size) = some 1) :
    (Op.equalIn (d + 2) t (.agg #[.int k a0, .int k a1, .int k a2, .int k a3]) (.agg #[.int k b0, .int k b1, .int k b2, .int k b3])).run P w = .ok ((a0 == b0) && ((a1 == b1) && ((a2 == b2) && (a3 == b3)))) w := by
  obtain ⟨i, hi, hsz⟩ : ∃ i, P.info? e = some i ∧ i.size = 1 := by
    cases hq : P.info? e with
    | none => simp [hq] at hs
    | some i => exact ⟨i, rfl, by simpa [hq] using hs⟩
  rw [Op.equalIn]
  simp only [Sem.run_bind, run_underlying ht, Result.andThen_ok]
  simp [sizeOf, typeInfo, hi, hsz, Std.Legacy.Range.forIn_eq_forIn_range', List.range', part, isAgg, run_underlying he, Op.equalIn]
  by_cases h0 : a0 = b0
  · by_cases h1 : a1 = b1
    · by_cases h2 : a2 = b2
      · by_cases h3 : a3 = b3
        · simp [h0, h1, h2, h3]
        · simp [h0, h1, h2, h3]
      · simp [h0, h1, h2]
    · simp [h0, h1]
  · simp [h0]
end
end Go.Proofs.Ytdhhpnfdnoaihaa

/-! S2 -/
/- What a cell's sector tells. -/
namespace Go.Proofs.Ytdhhpnfdnoaihaa
open Go.RowKit

/-- the j-th number of a sector -/
def num (b : List UInt8) (j : Nat) : Int := i64 (beN ((b.drop (8 * j)).take 8))
def halfOf (b : List UInt8) (j : Nat) : Hf := ⟨num b (4 * j), num b (4 * j + 1), num b (4 * j + 2), num b (4 * j + 3)⟩
/-- is it whole? -/
def whole (b : List UInt8) : Bool := decide (halfOf b 0 = halfOf b 1) && decide (0 < (halfOf b 0).t)
def numsC (f : Nat → Int) (q : Nat) : List Value := (List.range 8).map fun j => .int .i64 (if j < q then f j else 0)
theorem numsC_len (f : Nat → Int) (q : Nat) : (numsC f q).length = 8 := by simp [numsC]
theorem numsC_set (f : Nat → Int) {q : Nat} (hq : q < 8) : (numsC f q).set q (.int .i64 (f q)) = numsC f (q + 1) := by
  rcases (show q = 0 ∨ q = 1 ∨ q = 2 ∨ q = 3 ∨ q = 4 ∨ q = 5 ∨ q = 6 ∨ q = 7 by omega) with rfl | rfl | rfl | rfl | rfl | rfl | rfl | rfl <;> rfl
section
variable (w : World)
theorem s_und156 : Try.prog.underlying 156 = some (.array 4 2) := by kernel_rfl
theorem s_und2 : Try.prog.underlying 2 = some (.int .i64) := by kernel_rfl
theorem s_size2 : (Try.prog.info? 2).map (·.size) = some 1 := by kernel_rfl
theorem eqH (h g : Hf) : (Op.equalIn 10000 156 (.agg #[.int .i64 h.t, .int .i64 h.a, .int .i64 h.b, .int .i64 h.c]) (.agg #[.int .i64 g.t, .int .i64 g.a, .int .i64 g.b, .int .i64 g.c])).run Try.prog w = .ok (decide (h = g)) w := by
  rw [run_equalIn_arr4 w 9998 156 2 .i64 _ _ _ _ _ _ _ _ s_und156 s_und2 s_size2]
  congr 1
  obtain ⟨a, b, c, d⟩ := h
  obtain ⟨e, f, i, j⟩ := g
  rw [Bool.eq_iff_iff]
  simp
end
theorem load156 (w : World) (q : Nat) (h : Hf) (h0 : w.cell? ⟨q, 0, none⟩ = some (.int .i64 h.t)) (h1 : w.cell? ⟨q, 1, none⟩ = some (.int .i64 h.a)) (h2 : w.cell? ⟨q, 2, none⟩ = some (.int .i64 h.b)) (h3 : w.cell? ⟨q, 3, none⟩ = some (.int .i64 h.c)) : (loadVar 156 ⟨q, 0, none⟩).run Try.prog w = .ok h.v w := by
  have ha : (isAgg 156).run Try.prog w = .ok true w := by kernel_rfl
  have hl := run_loadCells_list (P := Try.prog) w ⟨q, 0, none⟩ [.int .i64 h.t, .int .i64 h.a, .int .i64 h.b, .int .i64 h.c] (fun j v hv => by
    rw [addr_add]
    match j, hv with
    | 0, hv => simp at hv; subst hv; simpa using h0
    | 1, hv => simp at hv; subst hv; simpa using h1
    | 2, hv => simp at hv; subst hv; simpa using h2
    | 3, hv => simp at hv; subst hv; simpa using h3
    | j + 4, hv => simp at hv)
  have hl' : (loadCells ⟨q, 0, none⟩ 4).run Try.prog w = .ok #[.int .i64 h.t, .int .i64 h.a, .int .i64 h.b, .int .i64 h.c] w := hl
  simp [loadVar, Sem.run_bind, ha, hl', Hf.v]
theorem ret156 {fn : Func} {R : Ending → World → Prop} {c u : Tmp} (tmps : Array Value) (w : World) (q : Nat) (x : Hf) (v : Value) (hres : fn.results = #[.cell c 156, .tmp u]) (hc : tmps.getD c undef = .pointer (some ⟨q, 0, none⟩)) (hu : tmps.getD u undef = v)
    (h0 : w.cell? ⟨q, 0, none⟩ = some (.int .i64 x.t)) (h1 : w.cell? ⟨q, 1, none⟩ = some (.int .i64 x.a)) (h2 : w.cell? ⟨q, 2, none⟩ = some (.int .i64 x.b)) (h3 : w.cell? ⟨q, 3, none⟩ = some (.int .i64 x.c)) (h : R (.returned (.tuple #[x.v, v])) w) : bodyPost Try.prog fn R Exit.ret { tmps := tmps, defers := [] } w := by
  refine bodyPost_ret (v := .tuple #[x.v, v]) ?_ rfl h
  rw [results_cell_tmp hres, hc, hu]
  have : (asAddr (.pointer (some ⟨q, 0, none⟩))).run Try.prog w = .ok ⟨q, 0, none⟩ w := rfl
  rw [this]
  simp [load156 w q x h0 h1 h2 h3]
def Read102 (b : List UInt8) (w : World) (e : Ending) (w' : World) : Prop := e = .returned (.tuple #[(halfOf b 0).v, .bool (whole b)]) ∧ Mod None w w'
def readRel (w wr : World) (r two res : Nat) (b : List UInt8) (q : Nat) : Prop :=
  Rdr wr r b ((8 * q : Nat) : Int) false ∧ Blk wr two 172 (numsC (num b) q) ∧ Blk wr res 156 [.int .i64 0, .int .i64 0, .int .i64 0, .int .i64 0] ∧ Mod None w wr ∧ w.heap.size ≤ r ∧ w.heap.size ≤ two ∧ w.heap.size ≤ res ∧ two ≠ r ∧ res ≠ r
/-- .. with a number told that isn't stored yet -/
def readMid (w wr : World) (r two res : Nat) (b : List UInt8) (q : Nat) : Prop :=
  Rdr wr r b ((8 * (q + 1) : Nat) : Int) false ∧ Blk wr two 172 (numsC (num b) q) ∧ Blk wr res 156 [.int .i64 0, .int .i64 0, .int .i64 0, .int .i64 0] ∧ Mod None w wr ∧ w.heap.size ≤ r ∧ w.heap.size ≤ two ∧ w.heap.size ≤ res ∧ two ≠ r ∧ res ≠ r
section
variable {w wr : World} {r two res q : Nat} {b : List UInt8}
theorem readRel.drew (h : readRel w wr r two res b q) : readRel w wr.drew r two res b q := by
  obtain ⟨h1, h2, h3, h4, h5⟩ := h
  exact ⟨h1.keep (T := None) (Mod.refl _ _).drew (fun _ h => h), h2, h3, h4.drew, h5⟩
theorem readRel.int (h : readRel w wr r two res b q) (hq : q < 8) (hb : b.length = 64) : Calls Try.prog 77 #[.pointer (some ⟨r, 0, none⟩)] wr fun e w' => e = .returned (.int .i64 (num b q)) ∧ readMid w w' r two res b q := by
  obtain ⟨h1, h2, h3, h4, h5, h6, h7, h8, h9⟩ := h
  refine (int_any wr r b (8 * q) false h1 (by omega) (by omega)).mono ?_
  rintro e w' ⟨hm, ⟨_, _, rfl, hR⟩ | ⟨hn, _⟩⟩
  · exact ⟨rfl, hR, hm.blk h2 h8, hm.blk h3 h9, h4.then hm (fun k hk e => by omega), h5, h6, h7, h8, h9⟩
  · exact absurd ⟨rfl, by omega⟩ hn
theorem readMid.cell (h : readMid w wr r two res b q) (hq : q < 8) : (∃ v, wr.cell? ⟨two, q, none⟩ = some v) ∧ wr.frozen? ⟨two, q, none⟩ = false :=
  ⟨⟨_, h.2.1.cellAt q (by rw [numsC_len]; exact hq)⟩, h.2.1.free q⟩
theorem readMid.store (h : readMid w wr r two res b q) (hq : q < 8) : readRel w (wr.setCell ⟨two, q, none⟩ (.int .i64 (num b q))) r two res b (q + 1) := by
  obtain ⟨h1, h2, h3, h4, h5, h6, h7, h8, h9⟩ := h
  have hne : res ≠ two := fun e => by subst e; exact absurd (h2.uniq h3).1 (by decide)
  have hm : Mod (fun k => k = two) wr (wr.setCell ⟨two, q, none⟩ (.int .i64 (num b q))) := Mod.set (S := fun k => k = two) (Mod.refl _ _) (.inl rfl) _
  refine ⟨?_, ?_, hm.blk h3 hne, h4.then hm (fun k hk e => by omega), h5, h6, h7, h8, h9⟩
  · obtain ⟨a, c, hb, ho⟩ := h1
    exact ⟨a, c, hm.blk hb (fun e => h8 e.symm), ho.kept hm (fun g hg => OwnR.far (S := fun _ => True) ⟨ho, fun _ _ => trivial⟩ h2 (by decide) g hg)⟩
  · rw [← numsC_set _ hq]
    exact h2.set q _
end
theorem readRel.fin {w wr : World} {r two res q : Nat} {b : List UInt8} (h : readRel w wr r two res b q) (x : Hf) : Blk (((((wr.setCell ⟨res, 0, none⟩ (.int .i64 x.t)).setCell ⟨res, 1, none⟩ (.int .i64 x.a)).setCell ⟨res, 2, none⟩ (.int .i64 x.b)).setCell ⟨res, 3, none⟩ (.int .i64 x.c)).drew) res 156 [.int .i64 x.t, .int .i64 x.a, .int .i64 x.b, .int .i64 x.c]
    ∧ Mod None w (((((wr.setCell ⟨res, 0, none⟩ (.int .i64 x.t)).setCell ⟨res, 1, none⟩ (.int .i64 x.a)).setCell ⟨res, 2, none⟩ (.int .i64 x.b)).setCell ⟨res, 3, none⟩ (.int .i64 x.c)).drew) := by
  obtain ⟨h1, h2, h3, h4, h5, h6, h7, h8, h9⟩ := h
  exact ⟨(((h3.set 0 _).set 1 _).set 2 _).set 3 _, ((((h4.set (.inr h7) _).set (.inr h7) _).set (.inr h7) _).set (.inr h7) _).drew⟩
set_option maxRecDepth 100000 in
set_option maxHeartbeats 1600000 in
theorem read102_any (w : World) (a : Option Addr) (c : Nat) (b : List UInt8) (hb : b.length = 64) (hr : Rd w a b) : Calls Try.prog 102 #[.slice a 64 c] w (Read102 b w) := by
  have HR := hid hr
  have HB := hid hb
  clear hr hb
  go_enter Try.func102, Try.ntmps102
  go_wp2_with fail
  have hm1 : Mod None w (w.alloc (.cells #[.int .i64 0, .int .i64 0, .int .i64 0, .int .i64 0] 156)) := (Mod.refl None w).alloc _
  have HRN := hid (readnew_any (w.alloc (.cells #[.int .i64 0, .int .i64 0, .int .i64 0, .int .i64 0] 156)) a c b (hm1.rd HR.out (fun _ _ h => h)) (by rw [HB.out]; omega))
  rw [HB.out] at HRN
  refine HRN.out.mono ?_
  rintro e w1 ⟨r, rfl, hR, hrn, hm⟩
  have HX := hid (show readRel w (w1.alloc (.cells #[.int .i64 0, .int .i64 0, .int .i64 0, .int .i64 0, .int .i64 0, .int .i64 0, .int .i64 0, .int .i64 0] 172)) r w1.heap.size w.heap.size b 0 from
    ⟨hR.keep (T := None) ((Mod.refl _ _).alloc _) (fun _ h => h), Blk.new w1 172 _, (hm.blk (Blk.new w 156 _) (fun h => h)).alloc _, (hm1.trans hm).alloc _, by simp at hrn; omega, by have := hm.size; simp at this; omega, Nat.le_refl _, by
      obtain ⟨_, _, hb', _⟩ := hR
      have := hb'.lt; omega, by simp at hrn; omega⟩)
  clear hR hrn hm hm1 HRN
  go_wp2_with fail
  generalize w1.alloc (.cells #[.int .i64 0, .int .i64 0, .int .i64 0, .int .i64 0, .int .i64 0, .int .i64 0, .int .i64 0, .int .i64 0] 172) = w2 at *
  generalize w1.heap.size = two at *
  generalize hres : w.heap.size = res at *
  go_loopw [10] (fun i wr => ∃ k : Nat, k ≤ 2 ∧ i = .int .i64 k ∧ Hid (readRel w wr r two res b (k * 4))) (fun i _ => 2 - (intOf i).toNat)
  case atStart => exact ⟨0, by omega, rfl, HX.out⟩
  case round =>
    obtain ⟨k, hk, rfl, h1⟩ := hrel
    by_cases hlt : k < 2
    · have hlt' : (k : Int) < 2 := by omega
      go_wp2_with fail
      go_loopw [13] (fun i wr => ∃ j : Nat, j ≤ 4 ∧ i = .int .i64 j ∧ Hid (readRel w wr r two res b (k * 4 + j))) (fun i _ => 4 - (intOf i).toNat)
      case atStart => exact ⟨0, by omega, rfl, h1.out⟩
      case round =>
        obtain ⟨j, hj, rfl, h2⟩ := hrel
        by_cases hjt : j < 4
        · have hjt' : (j : Int) < 4 := by omega
          have hq : k * 4 + j < 8 := by omega
          have HI := hid (h2.out.drew.int hq HB.out)
          go_wp2_with fail
          refine wp_region_held_drew (S := fun _ => True) (by kernel_rfl) ?_ (fun hHeld => ?_)
          · exact trivial
          refine wpAnyH_take (i := 0) (oi := { dst := some 16, op := Op.move (Operand.tmp 6), type := 3, pos := "cell.go:37", after := #[], guard := none }) (v := ?vo1_0) rfl (by kernel_rfl) (by kernel_rfl) (by kernel_rfl) (fun _ _ _ h => h) (Or.inl ⟨by rfl, ?yo1_0⟩) (by assumption) ?ro1_0
          case yo1_0 => (intro w hSw; (try dsimp only at hSw); go_simp; (try with_reducible rfl))
          try simp only [Act.put, List.setIfInBounds_toArray, List.set_cons_zero, List.set_cons_succ]
          refine wpAnyH_take (i := 1) (oi := { dst := some 17, op := Op.move (Operand.tmp 7), type := 3, pos := "cell.go:37", after := #[], guard := none }) (v := ?vo2_1) rfl (by kernel_rfl) (by kernel_rfl) (by kernel_rfl) (fun _ _ _ h => h) (Or.inl ⟨by rfl, ?yo2_1⟩) (by assumption) ?ro2_1
          case yo2_1 => (intro w hSw; (try dsimp only at hSw); go_simp; (try with_reducible rfl))
          try simp only [Act.put, List.setIfInBounds_toArray, List.set_cons_zero, List.set_cons_succ]
          refine wpAnyH_take (i := 2) (oi := { dst := some 18, op := Op.move (Operand.tmp 4), type := 120, pos := "cell.go:37", after := #[], guard := none }) (v := ?vo3_2) rfl (by kernel_rfl) (by kernel_rfl) (by kernel_rfl) (fun _ _ _ h => h) (Or.inl ⟨by rfl, ?yo3_2⟩) (by assumption) ?ro3_2
          case yo3_2 => (intro w hSw; (try dsimp only at hSw); go_simp; (try with_reducible rfl))
          try simp only [Act.put, List.setIfInBounds_toArray, List.set_cons_zero, List.set_cons_succ]
          refine wpAnyH_take (i := 4) (oi := { dst := some 20, op := Op.indexAddr 172 (Operand.tmp 5) (Operand.tmp 16), type := 0, pos := "cell.go:37", after := #[{ on := 0, ground := Ground.data }], guard := none }) (v := ?vo4_4) rfl (by kernel_rfl) (by kernel_rfl) (by kernel_rfl) (fun _ _ _ h => h) (Or.inl ⟨by rfl, ?yo4_4⟩) (by assumption) ?ro4_4
          case yo4_4 => (intro w hSw; (try dsimp only at hSw); go_simp; (try with_reducible rfl))
          try simp only [Act.put, List.setIfInBounds_toArray, List.set_cons_zero, List.set_cons_succ]
          refine wpAnyH_ready (rs := [3]) (by kernel_rfl) (by simp) ?_
          refine AllReadyH.cons (o := { dst := some 19, op := Op.call { callee := Callee.value (Operand.func 77), args := #[Operand.tmp 18], argTypes := #[120] }, type := 2, pos := "cell.go:37", after := #[{ on := 2, ground := Ground.data }], guard := none }) rfl (fun K hK => ?_) AllReadyH.nil
          go_simp; refine HI.out.mono ?_; rintro e W2 ⟨rfl, hM⟩; have HMID := hid hM; obtain ⟨⟨cv, hcell⟩, hfr⟩ := hM.cell hq; clear hM
          refine hK.out _ _ ?_ (fun hHeld => ?_)
          · exact trivial
          clear hK K
          try simp only [Act.put, List.setIfInBounds_toArray, List.set_cons_zero, List.set_cons_succ]
          refine wpAnyH_take (i := 5) (oi := { dst := some 21, op := Op.indexAddr 156 (Operand.tmp 20) (Operand.tmp 17), type := 0, pos := "cell.go:37", after := #[{ on := 4, ground := Ground.data }, { on := 1, ground := Ground.data }, { on := 0, ground := Ground.phase }, { on := 1, ground := Ground.phase }, { on := 2, ground := Ground.phase }, { on := 3, ground := Ground.phase }], guard := none }) (v := ?vo5_5) rfl (by kernel_rfl) (by kernel_rfl) (by kernel_rfl) (fun _ _ _ h => h) (Or.inl ⟨by rfl, ?yo5_5⟩) (by assumption) ?ro5_5
          case yo5_5 => (intro w hSw; (try dsimp only at hSw); go_simp; (try with_reducible rfl))
          try simp only [Act.put, List.setIfInBounds_toArray, List.set_cons_zero, List.set_cons_succ]
          refine wpAnyH_ready (rs := [6]) (by kernel_rfl) (by simp) ?_
          refine AllReadyH.cons (o := { dst := none, op := Op.store 2 (Operand.tmp 21) (Operand.tmp 19), type := 0, pos := "cell.go:37", after := #[{ on := 5, ground := Ground.data }, { on := 3, ground := Ground.data }, { on := 3, ground := Ground.chain }, { on := 0, ground := Ground.phase }, { on := 1, ground := Ground.phase }, { on := 2, ground := Ground.phase }, { on := 3, ground := Ground.phase }], guard := none }) rfl (fun K hK => ?_) AllReadyH.nil
          have HN := hid (HMID.out.store hq); go_simp
          refine hK.out _ _ ?_ (fun hHeld => ?_)
          · exact trivial
          clear hK K
          try simp only [Act.put, List.setIfInBounds_toArray, List.set_cons_zero, List.set_cons_succ]
          refine wpAnyH_done (by kernel_rfl) ?_ _
          go_wp2_with fail
          go_roundw
          case rel => exact ⟨j + 1, by omega, by go_num, HN.out⟩
          case measure => simp [intOf]; omega
        · obtain rfl : j = 4 := by omega
          have hjt' : ¬ ((4 : Nat) : Int) < 4 := by omega
          go_wp2_with fail
          go_roundw
          case rel => exact ⟨k + 1, by omega, by go_num, by rw [show (k + 1) * 4 = k * 4 + 4 by omega]; exact h2⟩
          case measure => simp [intOf]; omega
    · obtain rfl : k = 2 := by omega
      have hlt' : ¬ ((2 : Nat) : Int) < 2 := by omega
      have hC : ∀ i, i < 8 → wr.cell? ⟨two, i, none⟩ = some (.int .i64 (num b i)) := fun i hi => by
        have h := h1.out.2.1
        refine h.is ?_
        rcases (show i = 0 ∨ i = 1 ∨ i = 2 ∨ i = 3 ∨ i = 4 ∨ i = 5 ∨ i = 6 ∨ i = 7 by omega) with rfl | rfl | rfl | rfl | rfl | rfl | rfl | rfl <;> rfl
      have c0 : wr.cell? ⟨two, 0, none⟩ = some (.int .i64 (halfOf b 0).t) := hC 0 (by omega)
      have c1 : wr.cell? ⟨two, 1, none⟩ = some (.int .i64 (halfOf b 0).a) := hC 1 (by omega)
      have c2 : wr.cell? ⟨two, 2, none⟩ = some (.int .i64 (halfOf b 0).b) := hC 2 (by omega)
      have c3 : wr.cell? ⟨two, 3, none⟩ = some (.int .i64 (halfOf b 0).c) := hC 3 (by omega)
      have c4 : wr.cell? ⟨two, 4, none⟩ = some (.int .i64 (halfOf b 1).t) := hC 4 (by omega)
      have c5 : wr.cell? ⟨two, 5, none⟩ = some (.int .i64 (halfOf b 1).a) := hC 5 (by omega)
      have c6 : wr.cell? ⟨two, 6, none⟩ = some (.int .i64 (halfOf b 1).b) := hC 6 (by omega)
      have c7 : wr.cell? ⟨two, 7, none⟩ = some (.int .i64 (halfOf b 1).c) := hC 7 (by omega)
      have hE := fun w => eqH w (halfOf b 0) (halfOf b 1)
      have HW := hid (show whole b = (decide (halfOf b 0 = halfOf b 1) && decide (0 < (halfOf b 0).t)) from rfl)
      clear hC
      have hne : two ≠ res := h1.out.2.1.types h1.out.2.2.1 (by decide)
      have hne' : res ≠ two := hne.symm
      generalize hx0 : halfOf b 0 = x at *
      have HX0 := hid hx0
      clear hx0
      generalize halfOf b 1 = y at *
      generalize decide (x = y) = e at *
      have f0 := h1.out.2.2.1.free
      have r0 : wr.cell? ⟨res, 0, none⟩ = some (.int .i64 0) := h1.out.2.2.1.is rfl
      have r1 : wr.cell? ⟨res, 1, none⟩ = some (.int .i64 0) := h1.out.2.2.1.is rfl
      have r2 : wr.cell? ⟨res, 2, none⟩ = some (.int .i64 0) := h1.out.2.2.1.is rfl
      have r3 : wr.cell? ⟨res, 3, none⟩ = some (.int .i64 0) := h1.out.2.2.1.is rfl
      have HX1 := hid h1
      clear h1
      have HF := hid (HX1.out.fin x)
      cases e with
      | true =>
        by_cases hp : 0 < x.t
        · have HWT := hid (show whole b = true by rw [HW.out]; simp [hp])
          go_wp2_with fail
          go_region
          all_goals
            go_wp2_with fail
            exact ret156 _ _ res x (.bool true) rfl rfl rfl (HF.out.1.is rfl) (HF.out.1.is rfl) (HF.out.1.is rfl) (HF.out.1.is rfl) ⟨by rw [HWT.out, HX0.out], HF.out.2⟩
        · have HWT := hid (show whole b = false by rw [HW.out]; simp [hp])
          have HDE := hid (decide_eq_false hp)
          go_wp2_with fail
          go_region
          all_goals
            go_wp2_with fail
            exact ret156 _ _ res x (.bool false) rfl rfl (by rw [← HDE.out]; rfl) (HF.out.1.is rfl) (HF.out.1.is rfl) (HF.out.1.is rfl) (HF.out.1.is rfl) ⟨by rw [HWT.out, HX0.out], HF.out.2⟩
      | false =>
        have HWT := hid (show whole b = false by rw [HW.out]; simp)
        go_wp2_with fail
        go_region
        all_goals
          go_wp2_with fail
          exact ret156 _ _ res x (.bool false) rfl rfl rfl (HF.out.1.is rfl) (HF.out.1.is rfl) (HF.out.1.is rfl) (HF.out.1.is rfl) ⟨by rw [HWT.out, HX0.out], HF.out.2⟩
end Go.Proofs.Ytdhhpnfdnoaihaa

/-! S3 -/
/- A cell is opened on a disk at rest; what it tells. -/
namespace Go.Proofs.Ytdhhpnfdnoaihaa
open Go.RowKit

/-- the cell at c -/
def IsCell (w : World) (c p : Nat) (first : Int) (h : Hf) : Prop := Blk w c 158 [.pointer (some ⟨p, 0, none⟩), .int .i64 first, .int .i64 h.t, .int .i64 h.a, .int .i64 h.b, .int .i64 h.c]
theorem IsCell.cells {w : World} {c p : Nat} {first : Int} {h : Hf} (hc : IsCell w c p first h) : w.cell? ⟨c, 0, none⟩ = some (.pointer (some ⟨p, 0, none⟩)) ∧ w.cell? ⟨c, 1, none⟩ = some (.int .i64 first) ∧ w.cell? ⟨c, 2, none⟩ = some (.int .i64 h.t) ∧ w.cell? ⟨c, 3, none⟩ = some (.int .i64 h.a) ∧ w.cell? ⟨c, 4, none⟩ = some (.int .i64 h.b) ∧ w.cell? ⟨c, 5, none⟩ = some (.int .i64 h.c) :=
  ⟨Blk.is hc rfl, Blk.is hc rfl, Blk.is hc rfl, Blk.is hc rfl, Blk.is hc rfl, Blk.is hc rfl⟩
theorem IsCell.put {w : World} {c p : Nat} {first : Int} {h : Hf} (hc : IsCell w c p first h) (x : Hf) : IsCell ((((w.setCell ⟨c, 2, none⟩ (.int .i64 x.t)).setCell ⟨c, 3, none⟩ (.int .i64 x.a)).setCell ⟨c, 4, none⟩ (.int .i64 x.b)).setCell ⟨c, 5, none⟩ (.int .i64 x.c)) c p first x :=
  (((Blk.set hc 2 _).set 3 _).set 4 _).set 5 _
def sect (st : DSt) (i : Nat) : List UInt8 := st.last.getD i []
def pickH (h : Hf) (b : List UInt8) : Hf := if whole b = true ∧ h.t < (halfOf b 0).t then halfOf b 0 else h
def cellK (st : DSt) : Nat → Hf
  | 0 => ⟨0, 0, 0, 0⟩
  | k + 1 => pickH (cellK st k) (sect st k)
def cellL (st : DSt) : Hf := cellK st 2
theorem Rest.sect {st : DSt} (h : Rest st) {i : Nat} (hi : i < st.last.length) : st.read (i : Int) = (sect st i, 0) ∧ (sect st i).length = 64 := by
  have e : Proofs.Ytdhhpnfdnoaihaa.sect st i = st.last[i] := by
    unfold Proofs.Ytdhhpnfdnoaihaa.sect
    rw [List.getD_eq_getElem?_getD, List.getElem?_eq_getElem hi]; rfl
  rw [e]
  exact ⟨h.read hi, h.sec _ (List.getElem_mem _)⟩
theorem sect_read {w0 w : World} {S : Nat → Prop} {p : Nat} {st : DSt} (h : Live w0 w S p st) (hR : Rest st) {i : Nat} (hi : i < st.last.length) :
    Calls Try.prog 33 #[.pointer (some ⟨p, 0, none⟩), .int .i64 (i : Int)] w fun e w' => ∃ a, e = .returned (.tuple #[.slice a 64 64, .int .i64 0]) ∧ Rd w' a (sect st i) ∧ Mod None w w' := by
  have hl := live_read h (i : Int)
  rw [(hR.sect hi).1] at hl
  refine hl.mono ?_
  rintro e w' ⟨a, rfl, ht, _, _, hm⟩
  exact ⟨a, by simp only [(hR.sect hi).2], ht.rd, hm⟩
def COpen (w : World) (p : Nat) (h : Hf) (e : Ending) (w' : World) : Prop := ∃ c, e = .returned (.tuple #[.pointer (some ⟨c, 0, none⟩), .int .i64 0]) ∧ IsCell w' c p 0 h ∧ w.heap.size ≤ c ∧ Mod None w w'
set_option maxRecDepth 100000 in
set_option maxHeartbeats 1600000 in
theorem copen_any (w0 w : World) (S : Nat → Prop) (p : Nat) (st : DSt) (h : Live w0 w S p st) (hR : Rest st) (h2 : 2 ≤ st.last.length) : Calls Try.prog 84 #[.pointer (some ⟨p, 0, none⟩), .int .i64 0] w (COpen w p (cellL st)) := by
  have HS := hid (fun (W : World) (hm : Mod None w W) (i : Nat) (hi : i < 2) => sect_read (h.step hm) hR (i := i) (by omega))
  have HL := hid (fun (i : Nat) (hi : i < 2) => (hR.sect (i := i) (by omega)).2)
  have HK := hid (fun k => show cellK st (k + 1) = pickH (cellK st k) (sect st k) from rfl)
  have HC := hid (show cellL st = cellK st 2 from rfl)
  have H0 := hid (show cellK st 0 = ⟨0, 0, 0, 0⟩ from rfl)
  generalize cellL st = hl at *
  clear h hR h2
  go_enter Try.func84, Try.ntmps84
  go_wp2_with fail
  have hc0 : IsCell (w.alloc (.cells #[.pointer (some ⟨p, 0, none⟩), .int .i64 0, .int .i64 0, .int .i64 0, .int .i64 0, .int .i64 0] 158)) w.heap.size p 0 ⟨0, 0, 0, 0⟩ := Blk.new w 158 _
  have HC0 := hid hc0
  have HM0 := hid ((Mod.refl None w).alloc (.cells #[.pointer (some ⟨p, 0, none⟩), .int .i64 0, .int .i64 0, .int .i64 0, .int .i64 0, .int .i64 0] 158))
  clear hc0
  generalize w.alloc (.cells #[.pointer (some ⟨p, 0, none⟩), .int .i64 0, .int .i64 0, .int .i64 0, .int .i64 0, .int .i64 0] 158) = w1 at *
  generalize hcb : w.heap.size = cb at *
  go_loopw [16] (fun i wr => ∃ k : Nat, k ≤ 2 ∧ i = .int .i64 k ∧ Hid (IsCell wr cb p 0 (cellK st k)) ∧ Hid (Mod None w wr)) (fun i _ => 2 - (intOf i).toNat)
  case atStart => exact ⟨0, by omega, rfl, by rw [H0.out]; exact HC0, HM0.out⟩
  case round =>
    obtain ⟨k, hk, rfl, h1, hm1⟩ := hrel
    by_cases hlt : k < 2
    · have hlt' : (k : Int) < 2 := by omega
      have HRD := hid (HS.out wr hm1.out k hlt)
      have HLK := hid (HL.out k hlt)
      have HKK := hid (HK.out k)
      generalize cellK st k = x at *
      generalize sect st k = b at *
      have hw1 : IntKind.i64.wrap (0 + (k : Int)) = (k : Int) := by rw [IntKind.wrap_i64]; omega
      have hz : (0 : Int) + (k : Int) = (k : Int) := by omega
      go_wp2_with fail
      refine HRD.out.mono ?_
      rintro e w2 ⟨a, rfl, hrd, hm2⟩
      have HR2 := hid hrd
      have HI2 := hid (show IsCell w2 cb p 0 x from hm2.blk h1.out (fun h => h))
      have HM2 := hid (hm1.out.trans hm2)
      clear hrd hm2 h1 hm1 HRD
      go_wp2_with fail
      refine (read102_any w2 a 64 b HLK.out HR2.out).mono ?_
      rintro e w3 ⟨rfl, hm3⟩
      have HI3 := hid (show IsCell w3 cb p 0 x from hm3.blk HI2.out (fun h => h))
      have HM3 := hid (HM2.out.trans hm3)
      have HPK := hid (show pickH x b = if whole b = true ∧ x.t < (halfOf b 0).t then halfOf b 0 else x from rfl)
      clear hm3 HI2 HM2 HR2
      unfold Hf.v
      generalize halfOf b 0 = y at *
      generalize whole b = e at *
      obtain ⟨_, _, i2, i3, i4, i5⟩ := HI3.out.cells
      have hcl := Blk.lt HI3.out
      have hfr := Blk.free HI3.out
      have HP3 := hid (fun o => IsCell.put (Blk.alloc HI3.out o) y)
      have HM4 := hid (fun o => HM3.out.alloc o)
      have HCN := hid (show w.heap.size ≤ cb by omega)
      cases e with
      | true =>
        by_cases hlt2 : x.t < y.t
        · rw [if_pos ⟨rfl, hlt2⟩] at HPK
          go_wp2_with fail
          go_quiet (fail)
          go_wp2_with fail
          go_roundw
          case rel => exact ⟨k + 1, by omega, by go_num, by rw [HKK.out, HPK.out]; exact HP3.out _, ((((HM4.out _).trans (mod_drewN _ _)).set (.inr HCN.out) _ |>.set (.inr HCN.out) _).set (.inr HCN.out) _).set (.inr HCN.out) _⟩
          case measure => simp [intOf]; omega
        · rw [if_neg (fun h => hlt2 h.2)] at HPK
          go_wp2_with fail
          go_quiet (fail)
          go_wp2_with fail
          go_roundw
          case rel => exact ⟨k + 1, by omega, by go_num, by rw [HKK.out, HPK.out]; exact Blk.alloc HI3.out _, (HM4.out _).trans (mod_drewN _ _)⟩
          case measure => simp [intOf]; omega
      | false =>
        rw [if_neg (by simp)] at HPK
        go_wp2_with fail
        go_quiet (fail)
        go_wp2_with fail
        go_roundw
        case rel => exact ⟨k + 1, by omega, by go_num, by rw [HKK.out, HPK.out]; exact Blk.alloc HI3.out _, (HM4.out _).trans (mod_drewN _ _)⟩
        case measure => simp [intOf]; omega
    · obtain rfl : k = 2 := by omega
      have hlt' : ¬ ((2 : Nat) : Int) < 2 := by omega
      go_wp2_with fail
      go_ret2
      exact ⟨cb, rfl, by rw [HC.out]; exact h1.out, by omega, hm1.out⟩
/-! Get -/
@[go_sem] theorem array129 (w : World) (x : Addr) : (Instr.arrayAt 129 (.slice (some x) 3 3)).run Try.prog w = .ok (.pointer (some x)) w := by kernel_rfl
def V3 (a b c : Int) : Value := .agg #[.int .i64 a, .int .i64 b, .int .i64 c]
theorem ret129 {fn : Func} {R : Ending → World → Prop} {c : Tmp} (tmps : Array Value) (w : World) (q : Nat) (x y z : Int) (hres : fn.results = #[.cell c 129]) (hc : tmps.getD c undef = .pointer (some ⟨q, 0, none⟩))
    (hb : Blk w q 129 [.int .i64 x, .int .i64 y, .int .i64 z]) (h : R (.returned (V3 x y z)) w) : bodyPost Try.prog fn R Exit.ret { tmps := tmps, defers := [] } w := by
  refine bodyPost_ret (v := V3 x y z) ?_ rfl h
  exact results_cell_row hres tmps w q 129 _ (0, 0) _ hc hb (by kernel_rfl : Try.prog.underlying 129 = some (.array 3 2)) rfl (by kernel_rfl)
set_option maxRecDepth 100000 in
theorem cget_any (w : World) (c p : Nat) (first : Int) (h : Hf) (hc : IsCell w c p first h) : Calls Try.prog 85 #[.pointer (some ⟨c, 0, none⟩)] w fun e w' => e = .returned (V3 h.a h.b h.c) ∧ Mod None w w' := by
  obtain ⟨_, _, c2, c3, c4, c5⟩ := hc.cells
  have hlt := Blk.lt hc
  clear hc
  have HB := hid (fun C => Blk.new w 129 C)
  have HM := hid (fun o => (Mod.refl None w).alloc o)
  go_enter Try.func85, Try.ntmps85
  go_wp2_with fail
  exact ret129 _ _ w.heap.size _ _ _ rfl rfl (HB.out _) ⟨rfl, HM.out _⟩
end Go.Proofs.Ytdhhpnfdnoaihaa

/-! S4 -/
/- A cell is set. -/
namespace Go.Proofs.Ytdhhpnfdnoaihaa
open Go.RowKit

/-- the disk behind a Set -/
def DSt.cset (st : DSt) (i : Nat) (x : Hf) : DSt := { st with last := st.last.set i (x.bytes ++ x.bytes) }
theorem Rest.cset {st : DSt} (h : Rest st) (i : Nat) (hi : i < st.last.length) (x : Hf) :
    (st.write (i : Int) (x.bytes ++ x.bytes)).2 = 0 ∧ (st.write (i : Int) (x.bytes ++ x.bytes)).1.flush = (st.cset i x, 0) ∧ Rest (st.cset i x) := by
  have hl : (x.bytes ++ x.bytes).length = 64 := by rw [List.length_append, Hf.len]
  have hw := h.calm.write i (x.bytes ++ x.bytes) hi (by omega)
  rw [pad64_id hl] at hw
  have hc : Calm (st.cset i x) := ⟨h.calm.down, h.calm.armed⟩
  refine ⟨by rw [hw], ?_, ⟨hc, h.waits, sec_set h.sec i hl⟩⟩
  rw [hw]
  unfold DSt.flush
  have hd : ¬ (st.put i (x.bytes ++ x.bytes)).down = true := by show ¬ st.down = true; rw [h.calm.down]; simp
  rw [if_neg hd]
  have e : ({ (st.put i (x.bytes ++ x.bytes)).settle (st.put i (x.bytes ++ x.bytes)).waits.length with waits := [] } : DSt) = st.cset i x := by
    unfold DSt.settle DSt.put DSt.cset
    rw [h.waits]
    simp [setAll]
  rw [e, hc.changed]
theorem cset_len (st : DSt) (i : Nat) (x : Hf) : (st.cset i x).last.length = st.last.length := List.length_set
def SetPost (w0 w : World) (S : Nat → Prop) (p c first : Nat) (x : Hf) (st : DSt) (e : Ending) (w' : World) : Prop :=
  ∃ S', e = .returned (.int .i64 0) ∧ Live w0 w' S' p st ∧ IsCell w' c p first x ∧ Mod (fun k => S k ∨ k = c) w w' ∧ ∀ k, k < w.heap.size → S' k → S k
theorem sheld_keep {w w' : World} {c p q : Nat} {y0 y1 y2 y3 : Int} (hm : Mod None w w') (h : w.cell? ⟨c, 0, none⟩ = some (.pointer (some ⟨p, 0, none⟩)) ∧ w.cell? ⟨q, 0, none⟩ = some (.int .i64 y0) ∧ w.cell? ⟨q, 1, none⟩ = some (.int .i64 y1) ∧ w.cell? ⟨q, 2, none⟩ = some (.int .i64 y2) ∧ w.cell? ⟨q, 3, none⟩ = some (.int .i64 y3)) :
    w'.cell? ⟨c, 0, none⟩ = some (.pointer (some ⟨p, 0, none⟩)) ∧ w'.cell? ⟨q, 0, none⟩ = some (.int .i64 y0) ∧ w'.cell? ⟨q, 1, none⟩ = some (.int .i64 y1) ∧ w'.cell? ⟨q, 2, none⟩ = some (.int .i64 y2) ∧ w'.cell? ⟨q, 3, none⟩ = some (.int .i64 y3) :=
  ⟨hm.cell0 h.1, hm.cell0 h.2.1, hm.cell0 h.2.2.1, hm.cell0 h.2.2.2.1, hm.cell0 h.2.2.2.2⟩
theorem sheld_keepS {w w' : World} {S : Nat → Prop} {c p q : Nat} {y0 y1 y2 y3 : Int} (hm : Mod S w w') (hc : ¬ S c) (hq : ¬ S q) (h : w.cell? ⟨c, 0, none⟩ = some (.pointer (some ⟨p, 0, none⟩)) ∧ w.cell? ⟨q, 0, none⟩ = some (.int .i64 y0) ∧ w.cell? ⟨q, 1, none⟩ = some (.int .i64 y1) ∧ w.cell? ⟨q, 2, none⟩ = some (.int .i64 y2) ∧ w.cell? ⟨q, 3, none⟩ = some (.int .i64 y3)) :
    w'.cell? ⟨c, 0, none⟩ = some (.pointer (some ⟨p, 0, none⟩)) ∧ w'.cell? ⟨q, 0, none⟩ = some (.int .i64 y0) ∧ w'.cell? ⟨q, 1, none⟩ = some (.int .i64 y1) ∧ w'.cell? ⟨q, 2, none⟩ = some (.int .i64 y2) ∧ w'.cell? ⟨q, 3, none⟩ = some (.int .i64 y3) := by
  obtain ⟨h0, h1, h2, h3, h4⟩ := h
  have k := World.block_lt_of_cell? w _ h0
  have k' := World.block_lt_of_cell? w _ h1
  exact ⟨(hm.cell (p := ⟨c, 0, none⟩) k hc).trans h0, (hm.cell (p := ⟨q, 0, none⟩) k' hq).trans h1, (hm.cell (p := ⟨q, 1, none⟩) k' hq).trans h2, (hm.cell (p := ⟨q, 2, none⟩) k' hq).trans h3, (hm.cell (p := ⟨q, 3, none⟩) k' hq).trans h4⟩
theorem cell_kept_S {w wb wc : World} {S S' : Nat → Prop} {c p : Nat} {first : Int} {x : Hf} (h : IsCell w c p first x) (hm : Mod None w wb) (ht : Turn S S' wb wc) (hc : ¬ S c) : IsCell wc c p first x :=
  ht.mod.blk (hm.blk h (fun h => h)) hc
theorem own_part {w : World} {base n c : Nat} {a : Option Addr} {l : List UInt8} (h : OwnB w base (.slice a n c) l) (hn : n = l.length) (hl : l.length ≤ 140737488351232) : Part w (.slice a n c) l := by
  subst hn
  obtain ⟨a', c', e, hr⟩ := h.rd
  obtain ⟨rfl, rfl⟩ : a = a' ∧ c = c' := by injection e with e1 e2 e3; exact ⟨e1, e3⟩
  exact ⟨a, c, rfl, hr, hl⟩
theorem two_parts {w : World} {b1 b2 c1 c2 : Nat} {a1 a2 : Option Addr} {l : List UInt8} (h1 : OwnB w b1 (.slice a1 32 c1) l) (h2 : OwnB w b2 (.slice a2 32 c2) l) (hl : l.length = 32) : RdSS (w.alloc (.cells #[.slice a1 32 c1, .slice a2 32 c2] 27)) (some ⟨w.heap.size, 0, none⟩) [l, l] :=
  parts2 w _ _ _ rfl l l (own_part h1 hl.symm (by omega)) (own_part h2 hl.symm (by omega)) _ rfl
theorem cat_two {w : World} {b : Nat} {a : Option Addr} {c : Nat} {l : List UInt8} (h : OwnB w b (.slice a ([l, l] : List (List UInt8)).flatten.length c) ([l, l] : List (List UInt8)).flatten) : OwnB w b (.slice a (l ++ l).length c) (l ++ l) := by
  have e : ([l, l] : List (List UInt8)).flatten = l ++ l := by simp
  rw [e] at h; exact h
theorem cset_write {w0 w : World} {S : Nat → Prop} {p i b c : Nat} {a : Option Addr} {st : DSt} {l : List UInt8} {X : Prop} (h : Live w0 w S p st) (hw : (st.write (i : Int) (l ++ l)).2 = 0 ∧ X) (ho : OwnB w b (.slice a (l ++ l).length c) (l ++ l)) (hl : l.length = 32) (hR : Rest st) :
    Calls Try.prog 30 #[.pointer (some ⟨p, 0, none⟩), .int .i64 (i : Int), .slice a 64 c] w (LPost w0 w S p (.int .i64 0) (st.write (i : Int) (l ++ l)).1) := by
  obtain ⟨a', c', e, hr⟩ := ho.rd
  obtain ⟨rfl, rfl⟩ : a = a' ∧ c = c' := by injection e with e1 e2 e3; exact ⟨e1, e3⟩
  have := live_write h (i : Int) a c 64 (l ++ l) (by simp [hl]) hr (by simp [hl]) (by rw [hR.waits]; simp)
  rw [hw.1] at this
  exact this
theorem not_after {S S' : Nat → Prop} {w w' : World} {k : Nat} (t : Turn S S' w w') (hk : k < w.heap.size) (h : ¬ S k) : ¬ S' k := fun h' => h (t.old k hk h')
theorem set_end {w0 w W10 W11 W12 : World} {S S11 S12 : Nat → Prop} {p c first : Nat} {st2 : DSt} {x : Hf} (hlt : c < w.heap.size) (hm10 : Mod None w W10) (t11 : Turn S S11 W10 W11) (t12 : Turn S11 S12 W11 W12) (hl : Live w0 W12 S12 p st2) (hc : IsCell W12 c p first x) (hcS : ¬ S c) (hc0 : w0.heap.size ≤ c) (y : Hf) :
    SetPost w0 w S p c first y st2 (.returned (.int .i64 0)) ((((W12.setCell ⟨c, 2, none⟩ (.int .i64 y.t)).setCell ⟨c, 3, none⟩ (.int .i64 y.a)).setCell ⟨c, 4, none⟩ (.int .i64 y.b)).setCell ⟨c, 5, none⟩ (.int .i64 y.c)) := by
  have h10 := hm10.size
  have h11 := t11.mod.size
  have hc12 : ¬ S12 c := not_after t12 (by omega) (not_after t11 (by omega) hcS)
  have hs : Mod (fun k => k = c) W12 ((((W12.setCell ⟨c, 2, none⟩ (.int .i64 y.t)).setCell ⟨c, 3, none⟩ (.int .i64 y.a)).setCell ⟨c, 4, none⟩ (.int .i64 y.b)).setCell ⟨c, 5, none⟩ (.int .i64 y.c)) :=
    Mod.set (S := fun k => k = c) (Mod.set (S := fun k => k = c) (Mod.set (S := fun k => k = c) (Mod.set (S := fun k => k = c) (Mod.refl _ _) (.inl rfl) _) (.inl rfl) _) (.inl rfl) _) (.inl rfl) _
  refine ⟨S12, rfl, (hl.turn (T := fun k => k = c) (T' := fun k => k = c) (.same hs) (fun k hk e => by subst e; exact hc12 hk) (fun k e => by subst e; exact hc0)).1, hc.put y, ?_, fun k hk h => t11.old k (by omega) (t12.old k (by omega) h)⟩
  refine (((hm10.mono (fun _ _ h => h.elim)).then t11.mod (fun k _ h => .inl h)).then t12.mod (fun k hk h => .inl (t11.old k (by omega) h))).then hs (fun k _ h => .inr h)
set_option maxRecDepth 100000 in
set_option maxHeartbeats 1600000 in
theorem cset_any (w0 w : World) (S : Nat → Prop) (p c first : Nat) (st : DSt) (h : Live w0 w S p st) (hR : Rest st) (hf : first + 1 < st.last.length) (x : Hf) (hc : IsCell w c p first x) (hcS : ¬ S c) (hc0 : w0.heap.size ≤ c) (ht : 0 ≤ x.t ∧ x.t < 4611686018427387904) (a b d : Int) (ha : Nat63 a) (hb : Nat63 b) (hd : Nat63 d) :
    Calls Try.prog 90 #[.pointer (some ⟨c, 0, none⟩), V3 a b d] w (SetPost w0 w S p c first ⟨x.t + 1, a, b, d⟩ (st.cset (first + (x.t + 2).toNat % 2) ⟨x.t + 1, a, b, d⟩)) := by
  have HL := hid h
  have HC := hid hc
  have HR := hid hR
  have hmost := h.ok.most
  have HF := hid hf
  obtain ⟨c0, c1, c2, _, _, _⟩ := hc.cells
  have hlt := Blk.lt hc
  have hwt : IntKind.i64.wrap (x.t + 1) = x.t + 1 := by rw [IntKind.wrap_i64]; omega
  have hwt2 : IntKind.i64.wrap (x.t + 1 + 1) = x.t + 1 + 1 := by rw [IntKind.wrap_i64]; omega
  have hnb : ¬ (4611686018427387904 : Int) ≤ x.t := by omega
  clear h hc hR hf
  unfold V3
  go_enter Try.func90, Try.ntmps90
  go_wp2_with fail
  go_region
  go_wp2_with fail
  go_region
  go_wp2_with fail
  have HOK := hid (show (⟨x.t + 1, a, b, d⟩ : Hf).Ok from ⟨⟨by show 0 ≤ x.t + 1; omega, by show x.t + 1 < _; omega⟩, ha, hb, hd⟩)
  have HBY := hid (fun w => bytes112_any w _ HOK.out)
  have HLB := hid (Hf.len ⟨x.t + 1, a, b, d⟩)
  unfold Hf.v at HBY
  dsimp only at HBY
  have HY := hid (show (⟨x.t + 1, a, b, d⟩ : Hf).bytes ++ (⟨x.t + 1, a, b, d⟩ : Hf).bytes = (⟨x.t + 1, a, b, d⟩ : Hf).bytes ++ (⟨x.t + 1, a, b, d⟩ : Hf).bytes from rfl)
  have hwi : wrap64 ((first : Int) + (x.t + 1 + 1) % 2) = ((first + (x.t + 2).toNat % 2 : Nat) : Int) := by have := HF.out; unfold wrap64; omega
  have hit : first + (x.t + 2).toNat % 2 < st.last.length := by have := HF.out; omega
  generalize first + (x.t + 2).toNat % 2 = it at *
  have HCS := hid (HR.out.cset it hit ⟨x.t + 1, a, b, d⟩)
  generalize (⟨x.t + 1, a, b, d⟩ : Hf).bytes = ys at *
  rw [hwi]
  obtain ⟨W, hW⟩ : ∃ W, W = ((w.alloc (.cells #[.int .i64 a, .int .i64 b, .int .i64 d] 129)).alloc (.cells #[.int .i64 (x.t + 1), .int .i64 a, .int .i64 b, .int .i64 d] 156)).drew.drew := ⟨_, rfl⟩
  rw [← hW]
  have hmW : Mod None w W := by rw [hW]; exact (((Mod.refl None w).alloc _).alloc _).drew.drew
  have hbW : Blk W (w.heap.size + 1) 156 [.int .i64 (x.t + 1), .int .i64 a, .int .i64 b, .int .i64 d] := by
    rw [hW]
    have := Blk.new (w.alloc (.cells #[.int .i64 a, .int .i64 b, .int .i64 d] 129)) 156 #[.int .i64 (x.t + 1), .int .i64 a, .int .i64 b, .int .i64 d]
    rw [show (w.alloc (.cells #[.int .i64 a, .int .i64 b, .int .i64 d] 129)).heap.size = w.heap.size + 1 by simp] at this
    exact this.drew.drew
  have HH := hid (show W.drew.cell? ⟨c, 0, none⟩ = some (.pointer (some ⟨p, 0, none⟩)) ∧ W.drew.cell? ⟨w.heap.size + 1, 0, none⟩ = some (.int .i64 (x.t + 1)) ∧ W.drew.cell? ⟨w.heap.size + 1, 1, none⟩ = some (.int .i64 a) ∧ W.drew.cell? ⟨w.heap.size + 1, 2, none⟩ = some (.int .i64 b) ∧ W.drew.cell? ⟨w.heap.size + 1, 3, none⟩ = some (.int .i64 d) from ⟨hmW.drew.cell0 c0, hbW.is rfl, hbW.is rfl, hbW.is rfl, hbW.is rfl⟩)
  have HMD := hid hmW.drew
  have HQN := hid (show w.heap.size ≤ w.heap.size + 1 from Nat.le_succ _)
  have HFL := hid (show ([ys, ys] : List (List UInt8)).flatten.length = 64 by simp [HLB.out])
  clear hmW hbW c0 c1 c2 hwt hwt2 hnb hwi hW
  generalize w.heap.size + 1 = q at *
  refine wp_region_held_drew (S := fun w' => w'.cell? ⟨c, 0, none⟩ = some (.pointer (some ⟨p, 0, none⟩)) ∧ w'.cell? ⟨q, 0, none⟩ = some (.int .i64 (x.t + 1)) ∧ w'.cell? ⟨q, 1, none⟩ = some (.int .i64 a) ∧ w'.cell? ⟨q, 2, none⟩ = some (.int .i64 b) ∧ w'.cell? ⟨q, 3, none⟩ = some (.int .i64 d)) (by kernel_rfl) ?_ (fun hHeld => ?_)
  · exact HH.out
  refine wpAnyH_take (i := 0) (oi := { dst := some 37, op := Op.move (Operand.tmp 0), type := 126, pos := "cell.go:71", after := #[], guard := none }) (v := ?vo1_0) rfl (by kernel_rfl) (by kernel_rfl) (by kernel_rfl) (fun _ _ _ h => h) (Or.inl ⟨by rfl, ?yo1_0⟩) (by assumption) ?ro1_0
  case yo1_0 => (intro w hSw; (try dsimp only at hSw); go_simp; (try with_reducible rfl))
  try simp only [Act.put, List.setIfInBounds_toArray, List.set_cons_zero, List.set_cons_succ]
  refine wpAnyH_take (i := 1) (oi := { dst := some 38, op := Op.nilCheck (Operand.tmp 37), type := 0, pos := "cell.go:71", after := #[{ on := 0, ground := Ground.data }], guard := none }) (v := ?vo2_1) rfl (by kernel_rfl) (by kernel_rfl) (by kernel_rfl) (fun _ _ _ h => h) (Or.inl ⟨by rfl, ?yo2_1⟩) (by assumption) ?ro2_1
  case yo2_1 => (intro w hSw; (try dsimp only at hSw); go_simp; (try with_reducible rfl))
  try simp only [Act.put, List.setIfInBounds_toArray, List.set_cons_zero, List.set_cons_succ]
  refine wpAnyH_take (i := 2) (oi := { dst := some 39, op := Op.fieldAddr 158 (Operand.tmp 38) 0, type := 0, pos := "cell.go:71", after := #[{ on := 1, ground := Ground.data }], guard := none }) (v := ?vo3_2) rfl (by kernel_rfl) (by kernel_rfl) (by kernel_rfl) (fun _ _ _ h => h) (Or.inl ⟨by rfl, ?yo3_2⟩) (by assumption) ?ro3_2
  case yo3_2 => (intro w hSw; (try dsimp only at hSw); go_simp; (try with_reducible rfl))
  try simp only [Act.put, List.setIfInBounds_toArray, List.set_cons_zero, List.set_cons_succ]
  refine wpAnyH_take (i := 3) (oi := { dst := some 40, op := Op.load 37 (Operand.tmp 39), type := 37, pos := "cell.go:71", after := #[{ on := 2, ground := Ground.data }], guard := none }) (v := ?vo4_3) rfl (by kernel_rfl) (by kernel_rfl) (by kernel_rfl) (fun _ _ _ h => h) (Or.inl ⟨by rfl, ?yo4_3⟩) (by assumption) ?ro4_3
  case yo4_3 => (intro w hSw; (try dsimp only at hSw); go_simp; (try with_reducible rfl))
  try simp only [Act.put, List.setIfInBounds_toArray, List.set_cons_zero, List.set_cons_succ]
  refine wpAnyH_take (i := 4) (oi := { dst := some 41, op := Op.move (Operand.tmp 6), type := 3, pos := "cell.go:71", after := #[], guard := none }) (v := ?vo5_4) rfl (by kernel_rfl) (by kernel_rfl) (by kernel_rfl) (fun _ _ _ h => h) (Or.inl ⟨by rfl, ?yo5_4⟩) (by assumption) ?ro5_4
  case yo5_4 => (intro w hSw; (try dsimp only at hSw); go_simp; (try with_reducible rfl))
  try simp only [Act.put, List.setIfInBounds_toArray, List.set_cons_zero, List.set_cons_succ]
  refine wpAnyH_take (i := 5) (oi := { dst := some 42, op := Op.load 156 (Operand.tmp 5), type := 156, pos := "cell.go:71", after := #[], guard := none }) (v := ?vo6_5) rfl (by kernel_rfl) (by kernel_rfl) (by kernel_rfl) (fun _ _ _ h => h) (Or.inl ⟨by rfl, ?yo6_5⟩) (by assumption) ?ro6_5
  case yo6_5 => (intro w hSw; (try dsimp only at hSw); go_simp; (try with_reducible rfl))
  try simp only [Act.put, List.setIfInBounds_toArray, List.set_cons_zero, List.set_cons_succ]
  refine wpAnyH_take (i := 7) (oi := { dst := some 44, op := Op.load 156 (Operand.tmp 5), type := 156, pos := "cell.go:71", after := #[], guard := none }) (v := ?vo7_7) rfl (by kernel_rfl) (by kernel_rfl) (by kernel_rfl) (fun _ _ _ h => h) (Or.inl ⟨by rfl, ?yo7_7⟩) (by assumption) ?ro7_7
  case yo7_7 => (intro w hSw; (try dsimp only at hSw); go_simp; (try with_reducible rfl))
  try simp only [Act.put, List.setIfInBounds_toArray, List.set_cons_zero, List.set_cons_succ]
  refine wpAnyH_ready (rs := [6]) (by kernel_rfl) (by simp) ?_
  refine AllReadyH.cons (o := { dst := some 43, op := Op.call { callee := Callee.value (Operand.func 112), args := #[Operand.tmp 42], argTypes := #[156] }, type := 27, pos := "cell.go:71", after := #[{ on := 5, ground := Ground.data }], guard := none }) rfl (fun K hK => ?_) AllReadyH.nil
  go_simp; refine (HBY.out _).mono ?_; rintro e W6 ⟨a6, c6, rfl, ho6, hm6⟩; have HH := hid (sheld_keep hm6 HH.out); have HO6 := hid ho6; have HM6 := hid (HMD.out.trans hm6); clear ho6 hm6; rw [HLB.out] at HO6 ⊢
  refine hK.out _ _ ?_ (fun hHeld => ?_)
  · exact HH.out
  clear hK K
  try simp only [Act.put, List.setIfInBounds_toArray, List.set_cons_zero, List.set_cons_succ]
  refine wpAnyH_ready (rs := [8]) (by kernel_rfl) (by simp) ?_
  refine AllReadyH.cons (o := { dst := some 45, op := Op.call { callee := Callee.value (Operand.func 112), args := #[Operand.tmp 44], argTypes := #[156] }, type := 27, pos := "cell.go:71", after := #[{ on := 7, ground := Ground.data }, { on := 6, ground := Ground.chain }], guard := none }) rfl (fun K hK => ?_) AllReadyH.nil
  go_simp; refine (HBY.out _).mono ?_; rintro e W8 ⟨a8, c8, rfl, ho8, hm8⟩; have HH := hid (sheld_keep hm8 HH.out); have HO6 := hid (HO6.out.kept hm8 (fun _ _ h => h)); have HO8 := hid ho8; have HM8 := hid (HM6.out.trans hm8); clear ho8 hm8 HM6; rw [HLB.out] at HO8 ⊢
  refine hK.out _ _ ?_ (fun hHeld => ?_)
  · exact HH.out
  clear hK K
  try simp only [Act.put, List.setIfInBounds_toArray, List.set_cons_zero, List.set_cons_succ]
  refine wpAnyH_ready (rs := [9]) (by kernel_rfl) (by simp) ?_
  refine AllReadyH.cons (o := { dst := some 46, op := Op.buildSlice 26 2 #[(0, Operand.tmp 43), (1, Operand.tmp 45)], type := 26, pos := "cell.go:71", after := #[{ on := 6, ground := Ground.data }, { on := 8, ground := Ground.data }], guard := none }) rfl (fun K hK => ?_) AllReadyH.nil
  go_simp; have HH := hid (sheld_keep ((Mod.refl None W8).alloc (.cells #[.slice a6 32 c6, .slice a8 32 c8] 27)) HH.out); have HM9 := hid (HM8.out.alloc (.cells #[.slice a6 32 c6, .slice a8 32 c8] 27))
  refine hK.out _ _ ?_ (fun hHeld => ?_)
  · exact HH.out
  clear hK K
  try simp only [Act.put, List.setIfInBounds_toArray, List.set_cons_zero, List.set_cons_succ]
  refine wpAnyH_ready (rs := [10]) (by kernel_rfl) (by simp) ?_
  refine AllReadyH.cons (o := { dst := some 47, op := Op.call { callee := Callee.value (Operand.func 82), args := #[Operand.tmp 46], argTypes := #[26] }, type := 27, pos := "cell.go:71", after := #[{ on := 9, ground := Ground.data }, { on := 8, ground := Ground.chain }], guard := none }) rfl (fun K hK => ?_) AllReadyH.nil
  go_simp; have HPT := hid (two_parts HO6.out HO8.out HLB.out); refine (concat_any _ _ 2 _ HPT.out (by simp) (by simp [HLB.out]) (by simp [HLB.out])).mono ?_; rintro e W10 ⟨a10, c10, rfl, ho10, hm10⟩; have HH := hid (sheld_keep hm10 HH.out); have HM10 := hid (HM9.out.trans hm10); have HO10 := hid (cat_two ho10); have HLL := hid (HL.out.step HM10.out); have HWR := hid (cset_write HLL.out HCS.out HO10.out HLB.out HR.out); clear ho10 hm10 HPT HM9 HM8; rw [HFL.out]
  refine hK.out _ _ ?_ (fun hHeld => ?_)
  · exact HH.out
  clear hK K
  try simp only [Act.put, List.setIfInBounds_toArray, List.set_cons_zero, List.set_cons_succ]
  refine wpAnyH_ready (rs := [11]) (by kernel_rfl) (by simp) ?_
  refine AllReadyH.cons (o := { dst := some 48, op := Op.call { callee := Callee.value (Operand.func 30), args := #[Operand.tmp 40, Operand.tmp 41, Operand.tmp 47], argTypes := #[37, 3, 27] }, type := 40, pos := "cell.go:71", after := #[{ on := 3, ground := Ground.data }, { on := 4, ground := Ground.data }, { on := 10, ground := Ground.data }, { on := 10, ground := Ground.chain }], guard := none }) rfl (fun K hK => ?_) AllReadyH.nil
  go_simp; refine HWR.out.mono ?_; rintro e W11 ⟨S11, rfl, hl11, ht11⟩; have HQS := hid (show ¬ S q from fun hs => by have := HL.out.lt q hs; have := HQN.out; omega); have HH10 := hid HH.out; have HH := hid (sheld_keepS ht11.mod hcS HQS.out HH.out); have HQ10 := hid (World.block_lt_of_cell? W10 _ HH10.out.2.1); have HL11 := hid hl11; have HT11 := hid ht11; clear hl11 ht11 HWR HLL
  refine hK.out _ _ ?_ (fun hHeld => ?_)
  · exact HH.out
  clear hK K
  try simp only [Act.put, List.setIfInBounds_toArray, List.set_cons_zero, List.set_cons_succ]
  refine wpAnyH_take (i := 12) (oi := { dst := some 7, op := Op.assign (Operand.tmp 48), type := 40, pos := "cell.go:71", after := #[{ on := 11, ground := Ground.data }, { on := 11, ground := Ground.chain }, { on := 0, ground := Ground.phase }, { on := 1, ground := Ground.phase }, { on := 2, ground := Ground.phase }, { on := 3, ground := Ground.phase }, { on := 4, ground := Ground.phase }, { on := 5, ground := Ground.phase }, { on := 6, ground := Ground.phase }, { on := 7, ground := Ground.phase }, { on := 8, ground := Ground.phase }, { on := 9, ground := Ground.phase }, { on := 10, ground := Ground.phase }, { on := 11, ground := Ground.phase }], guard := none }) (v := ?vo8_12) rfl (by kernel_rfl) (by kernel_rfl) (by kernel_rfl) (fun _ _ _ h => h) (Or.inl ⟨by rfl, ?yo8_12⟩) (by assumption) ?ro8_12
  case yo8_12 => (intro w hSw; (try dsimp only at hSw); go_simp; (try with_reducible rfl))
  try simp only [Act.put, List.setIfInBounds_toArray, List.set_cons_zero, List.set_cons_succ]
  refine wpAnyH_done (by kernel_rfl) ?_ _
  have HFS := hid (live_flush HL11.out)
  rw [HCS.out.2.1] at HFS
  have HKK := hid HH.out
  obtain ⟨k0, k1, k2, k3, k4⟩ := HH.out
  clear HH HO6 HO8 HO10
  have HCX := hid (cell_kept_S HC.out HM10.out HT11.out hcS)
  have HQL := hid (World.block_lt_of_cell? W11 _ k1)
  go_wp2_with fail
  refine HFS.out.mono ?_
  rintro e W12 ⟨S12, rfl, hl12, ht12⟩
  have hc11 : ¬ S11 c := not_after HT11.out (by have := HM10.out.size; omega) hcS
  have hq11 : ¬ S11 q := fun h => by
    have h1 : q < W10.heap.size := by
      rcases Nat.lt_or_ge q W10.heap.size with h2 | h2
      · exact h2
      · exact absurd HQ10.out (by omega)
    exact HQS.out (HT11.out.old q h1 h)
  have HK12 := hid (sheld_keepS ht12.mod hc11 hq11 HKK.out)
  have HC12 := hid (show IsCell W12 c p first x from ht12.mod.blk HCX.out hc11)
  have HEND := hid (set_end hlt HM10.out HT11.out ht12 hl12 HC12.out hcS hc0 ⟨x.t + 1, a, b, d⟩)
  clear k0 k1 k2 k3 k4 hl12 ht12 hc11 hq11 HCX HKK
  obtain ⟨k0, k1, k2, k3, k4⟩ := HK12.out
  obtain ⟨_, _, u2, u3, u4, u5⟩ := HC12.out.cells
  have hfr := Blk.free HC12.out
  dsimp only at HEND
  go_wp2_with fail
  go_ret
  exact HEND.out
end Go.Proofs.Ytdhhpnfdnoaihaa
