/- The document's disk: a write waits. -/
import Derived.Deep.RegionHeld3
import Derived.Test.YtdhhpnfdnoaihaaE5
namespace Go.Proofs.Ytdhhpnfdnoaihaa
open Go.RowKit

def RWPost (S : Nat → Prop) (p N : Nat) (r : DSt × Int) (w : World) (e : Ending) (w' : World) : Prop :=
  e = .returned (.int .i64 r.2) ∧ IsRef w' (Grow S w w') p N r.1 ∧ Mod S w w'
theorem IsRef.grow {w : World} {S : Nat → Prop} {p N : Nat} {st : DSt} (h : IsRef w S p N st) (M : Nat) (hM : N ≤ M) : IsRef w (Grow S w w) p M st := by
  obtain ⟨b, n, f, qs, bv, h, hn⟩ := h
  exact ⟨b, n, f, qs, bv, h.keep (Mod.refl None w) (fun _ _ h => h) (fun _ h => .inl h) (fun k hk => by
    rcases hk with hk | hk
    · exact h.lt k hk
    · omega), by omega⟩
theorem IsRef.mono {w : World} {S S' : Nat → Prop} {p N : Nat} {st : DSt} (h : IsRef w S p N st) (hS : ∀ k, S k → S' k) (hlt : ∀ k, S' k → k < w.heap.size) : IsRef w S' p N st := by
  obtain ⟨b, n, f, qs, bv, h, hn⟩ := h
  exact ⟨b, n, f, qs, bv, h.keep (Mod.refl None w) (fun _ _ h => h) hS hlt, hn⟩
theorem IsRef.lt {w : World} {S : Nat → Prop} {p N : Nat} {st : DSt} (h : IsRef w S p N st) : ∀ k, S k → k < w.heap.size := by
  obtain ⟨b, n, f, qs, bv, h, hn⟩ := h; exact h.lt
theorem rwrite_fin {w w4 w5 : World} {S : Nat → Prop} {p N : Nat} {st : DSt} (h : IsRef w5 (Grow S w w4) p N st) (hs : w4.heap.size ≤ w5.heap.size) : IsRef w5 (Grow S w w5) p N st :=
  h.mono (fun k hk => hk.imp id (fun h => ⟨h.1, by omega⟩)) (fun k hk => by
    rcases hk with hk | hk
    · exact h.lt k (.inl hk)
    · exact hk.2)
theorem e_und111 : Try.prog.underlying 111 = some (.slice 115) := by kernel_rfl
theorem e_info115 : (Try.prog.info? 115).map (fun i => (i.zero, i.size, i.bytes)) = some (some (.agg #[.int .i64 0, .slice none 0 0]), 2, 32) := by kernel_rfl
theorem zip_snoc {α β : Type} (l : List α) (m : List β) (x : α) (y : β) (h : m.length = l.length) : (l ++ [x]).zip (m ++ [y]) = l.zip m ++ [(x, y)] := by
  rw [List.zip_append h.symm]; rfl
theorem bufC_snoc (ws : List (Nat × List UInt8)) (qs : List Nat) (x : Nat × List UInt8) (q : Nat) (h : qs.length = ws.length) : bufC (ws ++ [x]) (qs ++ [q]) = bufC ws qs ++ [.int .i64 (x.1 : Int), .slice (some ⟨q, 0, none⟩) 64 64] := by
  unfold bufC
  rw [zip_snoc _ _ _ _ h]; simp
/-- what stands behind the append and the store -/
theorem rwrite_end {w w1 w3 : World} {S : Nat → Prop} {p b n N : Nat} {f : Int → List UInt8} {qs : List Nat} {bv : Value} {st : DSt} {k : Nat} {d : List UInt8} {q : Nat} {va : Option Addr} {vc : Nat} (h : RefAt w S p b n f qs bv st)
    (hm1 : Mod None w w1) (hq : w.heap.size ≤ q) (hqb : Blk w1 q 5 (d.map B)) (hd : d.length = 64) (hk : k < st.last.length) (hn : n + st.waits.length ≤ N)
    (h2 : w3.ownsRow 0 115 2 (.slice va (st.waits.length + 1) vc) (st.waits.length + 1) (bufC st.waits qs ++ [.int .i64 (k : Int), .slice (some ⟨q, 0, none⟩) 64 64]))
    (h3 : Mod (fun k => bv.ownBlock = some k) w1 w3)
    (h4 : ∀ g, (Value.slice va (st.waits.length + 1) vc).ownBlock = some g → bv.ownBlock = some g ∨ (w1.heap.size ≤ g ∧ g < w3.heap.size)) :
    let w4 := w3.setCell ⟨p, 2, none⟩ (.slice va (st.waits.length + 1) vc)
    w3.cell? ⟨p, 2, none⟩ = some bv ∧ w3.frozen? ⟨p, 2, none⟩ = false ∧ IsRef w4 (Grow S w w4) p (N + 1) (st.put k d) ∧ Mod S w w4 := by
  have hfar : bv.ownBlock ≠ some p := fun e => h.buf.far h.obj (by decide) p e rfl
  have hobj3 : Blk w3 p 113 [.int .i64 (st.last.length : Int), .map (some b), bv, .int .i64 st.armed, .bool st.down] := h3.blk (hm1.blk h.obj (fun h => h)) hfar
  have m4 : Mod (fun k => k = p) w3 (w3.setCell ⟨p, 2, none⟩ (.slice va (st.waits.length + 1) vc)) := Mod.set (S := fun k => k = p) (Mod.refl _ _) (.inl rfl) _
  have hm3 : Mod S w w3 := (hm1.mono (S' := S) (fun _ _ h => h.elim)).then h3 (fun i hi e => h.buf.2 i e)
  have hmap3 : IsMap w3 b n f := (h.map.keep hm1 (fun h => h)).keep h3 (fun e => h.buf.map h.map b e rfl)
  have hlen : (st.waits ++ [(k, d)]).length = st.waits.length + 1 := by simp
  have hb4 := hobj3.set 2 (.slice va (st.waits.length + 1) vc)
  refine ⟨hobj3.is rfl, hobj3.free 2, ⟨b, n, f, qs ++ [q], .slice va (st.waits.length + 1) vc, ?_, by show n + (st.waits ++ [(k, d)]).length ≤ N + 1; omega⟩, hm3.then m4 (fun k _ e => by subst e; exact h.own)⟩
  have hs3 : w.heap.size ≤ w3.heap.size := hm3.size
  have hs4 : (w3.setCell ⟨p, 2, none⟩ (.slice va (st.waits.length + 1) vc)).heap.size = w3.heap.size := by simp
  have howner : ∀ g, (Value.slice va (st.waits.length + 1) vc).ownBlock = some g → g ≠ p := fun g hg e => by
    rcases h4 g hg with h5 | h5
    · exact hfar (by rw [h5, e])
    · have := (hm1.blk h.obj (fun h => h)).lt; omega
  refine ⟨hb4, .inl h.own, .inl h.ownb, hmap3.keep m4 (fun e => hmap3.ne hobj3 e.symm), h.last, ?_, ?_, ?_, ?_, ?_⟩
  · refine OwnR.kept (S := fun k => Grow S w (w3.setCell ⟨p, 2, none⟩ (.slice va (st.waits.length + 1) vc)) k) ?_ m4 howner (fun _ h => h)
    refine ⟨?_, fun g hg => ?_⟩
    · show w3.ownsRow 0 115 2 _ (st.waits ++ [(k, d)]).length (bufC (st.waits ++ [(k, d)]) (qs ++ [q]))
      rw [hlen, bufC_snoc _ _ _ _ h.len]; exact h2
    · rcases h4 g hg with h5 | h5
      · exact .inl (h.buf.2 g h5)
      · refine .inr ⟨Nat.le_trans hm1.size h5.1, ?_⟩
        rw [hs4]; exact h5.2
  · intro j x q' hx hq'
    have hfar5 : ∀ (q0 : Nat) (l : List UInt8), Blk w1 q0 5 (l.map B) → Blk (w3.setCell ⟨p, 2, none⟩ (.slice va (st.waits.length + 1) vc)) q0 5 (l.map B) := fun q0 l hb => by
      have hb1 : OwnR w1 (fun _ => True) 115 2 bv st.waits.length (bufC st.waits qs) := h.buf.kept hm1 (fun _ _ h => h) (fun _ _ => trivial)
      have hb3 := h3.blk hb (fun e => hb1.far hb (by decide) q0 e rfl)
      exact m4.blk hb3 (Blk.types hb3 hobj3 (by decide))
    have hx' : (st.waits ++ [(k, d)])[j]? = some x := hx
    by_cases hj : j < st.waits.length
    · rw [List.getElem?_append_left hj] at hx'
      rw [List.getElem?_append_left (by rw [h.len]; exact hj)] at hq'
      obtain ⟨a1, a2⟩ := h.dat j x q' hx' hq'
      exact ⟨.inl a1, hfar5 _ _ (hm1.blk a2 (fun h => h))⟩
    · have hj2 : j = st.waits.length := by
        have := (List.getElem?_eq_some_iff.1 hx').1
        rw [hlen] at this; omega
      subst hj2
      rw [List.getElem?_append_right (Nat.le_refl _), Nat.sub_self] at hx'
      rw [← h.len, List.getElem?_append_right (Nat.le_refl _), Nat.sub_self] at hq'
      obtain rfl : (k, d) = x := by simpa using hx'
      obtain rfl : q = q' := by simpa using hq'
      refine ⟨.inr ⟨hq, ?_⟩, hfar5 _ _ hqb⟩
      have := hqb.lt
      have := h3.size
      rw [hs4]; omega
  · rw [List.length_append, h.len]; show _ = (st.waits ++ [(k, d)]).length; rw [hlen]; rfl
  · refine ⟨h.ok.one, h.ok.most, h.ok.sec, fun x hx => ?_, h.ok.arm⟩
    rcases List.mem_append.1 (show x ∈ st.waits ++ [(k, d)] from hx) with hx | hx
    · exact h.ok.wait x hx
    · obtain rfl : x = (k, d) := by simpa using hx
      exact ⟨hk, hd⟩
  · intro j hj
    rcases hj with hj | hj
    · have := h.lt j hj
      rw [hs4]; omega
    · exact hj.2
theorem owns_keep {w w' : World} {base e size : Nat} {v : Value} {n : Nat} {xs : List Value} (h : w.ownsRow base e size v n xs) (hm : Mod None w w') : w'.ownsRow base e size v n xs := by
  obtain ⟨h1, h2⟩ := h
  refine ⟨h1, ?_⟩
  rcases h2 with h2 | ⟨g, cap, cur, rfl, hb, hg, r⟩
  · exact .inl h2
  · exact .inr ⟨g, cap, cur, rfl, hb, by rw [hm.block g (Array.getElem?_eq_some_iff.1 hg).1 (fun h => h)]; exact hg, r⟩
theorem rw_src (w : World) (k q : Nat) : RdV (w.alloc (.cells #[.int .i64 (k : Int), .slice (some ⟨q, 0, none⟩) 64 64] 115)) (some ⟨w.heap.size, 0, none⟩) [.int .i64 (k : Int), .slice (some ⟨q, 0, none⟩) 64 64] :=
  (Blk.new w 115 #[.int .i64 (k : Int), .slice (some ⟨q, 0, none⟩) 64 64]).rdv 0 (fun i _ => by rw [Nat.zero_add])
theorem rw_ones (k q : Nat) : Ones [.int .i64 (k : Int), .slice (some ⟨q, 0, none⟩) 64 64] := by
  intro v hv
  rcases List.mem_cons.1 hv with rfl | hv
  · rfl
  · obtain rfl := List.mem_singleton.1 hv; rfl
set_option maxRecDepth 100000 in
set_option maxHeartbeats 1600000 in
theorem rwrite_any (w : World) (S : Nat → Prop) (p N : Nat) (st : DSt) (h : IsRef w S p N st) (hN : N < 4000000000000) (i : Int) (a : Option Addr) (c : Nat) (d : List UInt8) (hr : Rd w a d) (hd : d.length ≤ 140737488351232) :
    Calls Try.prog 38 #[.pointer (some ⟨p, 0, none⟩), .int .i64 i, .slice a d.length c] w (RWPost S p (N + 1) (st.write i d) w) := by
  have HI := hid h
  obtain ⟨b, n, f, qs, bv, h, hn⟩ := h
  obtain ⟨h0, _, h2, _, h4⟩ := h.cells
  by_cases hdn : st.down = true
  · have HS := hid (show st.write i d = (st, 32) by unfold DSt.write DSt.may; simp [hdn])
    have H := hid h
    rw [hdn] at h4
    clear h hdn hN hd hr
    go_enter Try.func38, Try.ntmps38
    go_wp2
    go_ret
    rw [HS.out]
    exact ⟨rfl, HI.out.grow _ (by omega), Mod.refl _ _⟩
  rw [Bool.not_eq_true] at hdn
  rw [hdn] at h4
  by_cases hi : i < 0
  · have HS := hid (show st.write i d = (st, 31) by unfold DSt.write DSt.may; simp [hdn, hi])
    have H := hid h
    clear h hdn hN hd hr
    go_enter Try.func38, Try.ntmps38
    go_wp2
    go_ret
    rw [HS.out]
    exact ⟨rfl, HI.out.grow _ (by omega), Mod.refl _ _⟩
  by_cases hi2 : (st.last.length : Int) ≤ i
  · have HS := hid (show st.write i d = (st, 31) by unfold DSt.write DSt.may; simp [hdn, hi, hi2])
    have H := hid h
    clear h hdn hN hd hr
    go_enter Try.func38, Try.ntmps38
    go_wp2
    go_ret
    rw [HS.out]
    exact ⟨rfl, HI.out.grow _ (by omega), Mod.refl _ _⟩
  have hmay : st.may i = 0 := by unfold DSt.may; simp [hdn, hi, hi2]
  by_cases hl : 64 < d.length
  · have HS := hid (show st.write i d = (st, 3) by unfold DSt.write; simp [hmay, hl])
    have H := hid h
    have hl' : (64 : Int) < (d.length : Int) := by omega
    clear h hdn hN hd hr hmay
    go_enter Try.func38, Try.ntmps38
    go_wp2
    go_ret
    rw [HS.out]
    exact ⟨rfl, HI.out.grow _ (by omega), Mod.refl _ _⟩
  · obtain ⟨k, rfl⟩ : ∃ k : Nat, i = (k : Int) := ⟨i.toNat, by omega⟩
    have HS := hid (show st.write k d = ((st.put k (pad64 d)).changed, 0) by unfold DSt.write; simp [hmay, hl])
    have hl' : ¬ (64 : Int) < (d.length : Int) := by omega
    have HL := hid (show d.length ≤ 64 by omega)
    have HK := hid (show k < st.last.length by omega)
    have H := hid h
    have HR := hid hr
    have HN := hid (And.intro hn hN)
    have HD := hid hdn
    obtain ⟨ba, bc, rfl, hbc, hbm⟩ := h.shape
    obtain ⟨it, hit, hz, hsz, hby⟩ := info_parts e_info115
    have HEND := hid (fun w1 w3 q va vc hm1 hq hqb h2 h3 h4 => rwrite_end (w1 := w1) (w3 := w3) (k := k) (d := pad64 d) (q := q) (va := va) (vc := vc) h hm1 hq hqb (pad64_length d (by omega)) (by omega) hn h2 h3 h4)
    have HOWN := hid (fun w' (hm : Mod None w w') => owns_keep h.buf.1 hm)
    have HWL := hid (show st.waits.length ≤ 4000000000000 by omega)
    clear h hr hn hN hdn hmay hd hl hi hbc hbm
    generalize hwl : st.waits.length = wl at *
    go_enter Try.func38, Try.ntmps38
    go_wp2_with fail
    refine wp_region_held_drew (S := fun _ => True) (by kernel_rfl) trivial (fun hHeld => ?_)
    refine wpAnyH_take (i := 0) (oi := { dst := some 24, op := Op.move (Operand.tmp 0), type := 55, pos := "ref.go:76", after := #[], guard := none }) (v := ?vo1_0) rfl (by kernel_rfl) (by kernel_rfl) (by kernel_rfl) (fun _ _ _ h => h) (Or.inl ⟨by rfl, ?yo1_0⟩) (by assumption) ?ro1_0
    case yo1_0 => (intro w hSw; (try dsimp only at hSw); go_simp; (try with_reducible rfl))
    try simp only [Act.put, List.setIfInBounds_toArray, List.set_cons_zero, List.set_cons_succ]
    refine wpAnyH_take (i := 1) (oi := { dst := some 25, op := Op.move (Operand.tmp 0), type := 55, pos := "ref.go:76", after := #[], guard := none }) (v := ?vo2_1) rfl (by kernel_rfl) (by kernel_rfl) (by kernel_rfl) (fun _ _ _ h => h) (Or.inl ⟨by rfl, ?yo2_1⟩) (by assumption) ?ro2_1
    case yo2_1 => (intro w hSw; (try dsimp only at hSw); go_simp; (try with_reducible rfl))
    try simp only [Act.put, List.setIfInBounds_toArray, List.set_cons_zero, List.set_cons_succ]
    refine wpAnyH_take (i := 2) (oi := { dst := some 26, op := Op.nilCheck (Operand.tmp 25), type := 0, pos := "ref.go:76", after := #[{ on := 1, ground := Ground.data }], guard := none }) (v := ?vo3_2) rfl (by kernel_rfl) (by kernel_rfl) (by kernel_rfl) (fun _ _ _ h => h) (Or.inl ⟨by rfl, ?yo3_2⟩) (by assumption) ?ro3_2
    case yo3_2 => (intro w hSw; (try dsimp only at hSw); go_simp; (try with_reducible rfl))
    try simp only [Act.put, List.setIfInBounds_toArray, List.set_cons_zero, List.set_cons_succ]
    refine wpAnyH_take (i := 3) (oi := { dst := some 27, op := Op.fieldAddr 113 (Operand.tmp 26) 2, type := 0, pos := "ref.go:76", after := #[{ on := 2, ground := Ground.data }], guard := none }) (v := ?vo4_3) rfl (by kernel_rfl) (by kernel_rfl) (by kernel_rfl) (fun _ _ _ h => h) (Or.inl ⟨by rfl, ?yo4_3⟩) (by assumption) ?ro4_3
    case yo4_3 => (intro w hSw; (try dsimp only at hSw); go_simp; (try with_reducible rfl))
    try simp only [Act.put, List.setIfInBounds_toArray, List.set_cons_zero, List.set_cons_succ]
    refine wpAnyH_take (i := 5) (oi := { dst := some 29, op := Op.move (Operand.tmp 1), type := 3, pos := "ref.go:76", after := #[], guard := none }) (v := ?vo5_5) rfl (by kernel_rfl) (by kernel_rfl) (by kernel_rfl) (fun _ _ _ h => h) (Or.inl ⟨by rfl, ?yo5_5⟩) (by assumption) ?ro5_5
    case yo5_5 => (intro w hSw; (try dsimp only at hSw); go_simp; (try with_reducible rfl))
    try simp only [Act.put, List.setIfInBounds_toArray, List.set_cons_zero, List.set_cons_succ]
    refine wpAnyH_take (i := 6) (oi := { dst := some 30, op := Op.move (Operand.tmp 2), type := 27, pos := "ref.go:76", after := #[], guard := none }) (v := ?vo6_6) rfl (by kernel_rfl) (by kernel_rfl) (by kernel_rfl) (fun _ _ _ h => h) (Or.inl ⟨by rfl, ?yo6_6⟩) (by assumption) ?ro6_6
    case yo6_6 => (intro w hSw; (try dsimp only at hSw); go_simp; (try with_reducible rfl))
    try simp only [Act.put, List.setIfInBounds_toArray, List.set_cons_zero, List.set_cons_succ]
    refine wpAnyH_ready (rs := [4, 7]) (by kernel_rfl) (by simp) ?_
    refine AllReadyH.cons (o := { dst := some 28, op := Op.load 111 (Operand.tmp 27), type := 111, pos := "ref.go:76", after := #[{ on := 3, ground := Ground.data }], guard := none }) rfl (fun K hK => ?_) ?_
    · go_simp
      refine hK.out _ _ trivial (fun hHeld => ?_)
      clear hK K
      try simp only [Act.put, List.setIfInBounds_toArray, List.set_cons_zero, List.set_cons_succ]
      refine wpAnyH_ready (rs := [7]) (by kernel_rfl) (by simp) ?_
      refine AllReadyH.cons (o := { dst := some 31, op := Op.call { callee := Callee.value (Operand.func 34), args := #[Operand.tmp 30], argTypes := #[27] }, type := 27, pos := "ref.go:76", after := #[{ on := 6, ground := Ground.data }], guard := none }) rfl (fun K hK => ?_) AllReadyH.nil
      go_simp; refine (whole_any w.drew a c d HR.out HL.out).mono ?_; rintro e w1 ⟨q0, rfl, hf, hm⟩; obtain ⟨q, rfl, hq, hqb⟩ := hf; have hp2 := (hm.cell (p := ⟨p, 2, none⟩) (World.block_lt_of_cell? w _ h2) (fun h => h)).trans h2; have hp3 := fun o => ((Mod.refl None w1).alloc o).cell (p := ⟨p, 2, none⟩) (World.block_lt_of_cell? w1 _ hp2) (fun h => h) |>.trans hp2; have HM1 := hid ((Mod.refl None w).drew.trans hm); have HQ := hid (And.intro hq hqb); clear hm hq hqb; go_wp2_with fail
      refine hK.out _ _ trivial (fun hHeld => ?_)
      clear hK K
      try simp only [Act.put, List.setIfInBounds_toArray, List.set_cons_zero, List.set_cons_succ]
      refine wpAnyH_take (i := 8) (oi := { dst := some 32, op := Op.build 115 #[(0, Operand.tmp 29), (1, Operand.tmp 31)], type := 115, pos := "ref.go:76", after := #[{ on := 5, ground := Ground.data }, { on := 7, ground := Ground.data }], guard := none }) (v := ?vo7_8) rfl (by kernel_rfl) (by kernel_rfl) (by kernel_rfl) (fun _ _ _ h => h) (Or.inl ⟨by rfl, ?yo7_8⟩) (by assumption) ?ro7_8
      case yo7_8 => (intro w hSw; (try dsimp only at hSw); go_simp; (try with_reducible rfl))
      try simp only [Act.put, List.setIfInBounds_toArray, List.set_cons_zero, List.set_cons_succ]
      refine wpAnyH_ready (rs := [9]) (by kernel_rfl) (by simp) ?_
      refine AllReadyH.cons (o := { dst := some 33, op := Op.buildSlice 111 1 #[(0, Operand.tmp 32)], type := 111, pos := "ref.go:76", after := #[{ on := 8, ground := Ground.data }], guard := none }) rfl (fun K hK => ?_) AllReadyH.nil
      go_simp
      refine hK.out _ _ trivial (fun hHeld => ?_)
      clear hK K
      try simp only [Act.put, List.setIfInBounds_toArray, List.set_cons_zero, List.set_cons_succ]
      refine wpAnyH_ready (rs := [10]) (by kernel_rfl) (by simp) ?_
      refine AllReadyH.cons (o := { dst := some 34, op := Op.call { callee := Callee.builtin Builtin.append, args := #[Operand.tmp 28, Operand.tmp 33], argTypes := #[111, 111] }, type := 111, pos := "ref.go:76", after := #[{ on := 4, ground := Ground.data }, { on := 9, ground := Ground.data }, { on := 7, ground := Ground.chain }], guard := none }) rfl (fun K hK => ?_) AllReadyH.nil
      refine wp_append_R (.tmp 28) (.tmp 33) 111 rfl 115 it (.agg #[.int .i64 0, .slice none 0 0]) 2 32 e_und111 hit hz hsz hby rfl (by decide) (.slice ba wl bc) wl (bufC st.waits qs) rfl (HOWN.out _ (HM1.out.alloc _)) _ 1 1 [.int .i64 (k : Int), .slice (some ⟨q, 0, none⟩) 64 64] rfl rfl (rw_src w1 k q) (rw_ones k q) (by have := HWL.out; unfold maxLen; omega) (by have := HWL.out; omega) ?_; intro va vc w3 g2 g3 g4; have hend := HEND.out _ w3 q va vc (HM1.out.alloc _) HQ.out.1 (HQ.out.2.alloc _) g2.out g3.out g4.out; obtain ⟨e1, e2, e3, e4⟩ := hend; have E3 := hid e3; have E4 := hid e4; clear g2 g3 g4 e3 e4
      refine hK.out _ _ trivial (fun hHeld => ?_)
      clear hK K
      try simp only [Act.put, List.setIfInBounds_toArray, List.set_cons_zero, List.set_cons_succ]
      refine wpAnyH_take (i := 11) (oi := { dst := some 35, op := Op.nilCheck (Operand.tmp 24), type := 0, pos := "ref.go:76", after := #[{ on := 0, ground := Ground.data }, { on := 0, ground := Ground.phase }, { on := 1, ground := Ground.phase }, { on := 2, ground := Ground.phase }, { on := 3, ground := Ground.phase }, { on := 4, ground := Ground.phase }, { on := 5, ground := Ground.phase }, { on := 6, ground := Ground.phase }, { on := 7, ground := Ground.phase }, { on := 8, ground := Ground.phase }, { on := 9, ground := Ground.phase }, { on := 10, ground := Ground.phase }], guard := none }) (v := ?vo8_11) rfl (by kernel_rfl) (by kernel_rfl) (by kernel_rfl) (fun _ _ _ h => h) (Or.inl ⟨by rfl, ?yo8_11⟩) (by assumption) ?ro8_11
      case yo8_11 => (intro w hSw; (try dsimp only at hSw); go_simp; (try with_reducible rfl))
      try simp only [Act.put, List.setIfInBounds_toArray, List.set_cons_zero, List.set_cons_succ]
      refine wpAnyH_take (i := 12) (oi := { dst := some 36, op := Op.fieldAddr 113 (Operand.tmp 35) 2, type := 0, pos := "ref.go:76", after := #[{ on := 11, ground := Ground.data }, { on := 0, ground := Ground.phase }, { on := 1, ground := Ground.phase }, { on := 2, ground := Ground.phase }, { on := 3, ground := Ground.phase }, { on := 4, ground := Ground.phase }, { on := 5, ground := Ground.phase }, { on := 6, ground := Ground.phase }, { on := 7, ground := Ground.phase }, { on := 8, ground := Ground.phase }, { on := 9, ground := Ground.phase }, { on := 10, ground := Ground.phase }], guard := none }) (v := ?vo9_12) rfl (by kernel_rfl) (by kernel_rfl) (by kernel_rfl) (fun _ _ _ h => h) (Or.inl ⟨by rfl, ?yo9_12⟩) (by assumption) ?ro9_12
      case yo9_12 => (intro w hSw; (try dsimp only at hSw); go_simp; (try with_reducible rfl))
      try simp only [Act.put, List.setIfInBounds_toArray, List.set_cons_zero, List.set_cons_succ]
      refine wpAnyH_ready (rs := [13]) (by kernel_rfl) (by simp) ?_
      refine AllReadyH.cons (o := { dst := none, op := Op.store 111 (Operand.tmp 36) (Operand.tmp 34), type := 0, pos := "ref.go:76", after := #[{ on := 12, ground := Ground.data }, { on := 10, ground := Ground.data }, { on := 10, ground := Ground.chain }, { on := 0, ground := Ground.phase }, { on := 1, ground := Ground.phase }, { on := 2, ground := Ground.phase }, { on := 3, ground := Ground.phase }, { on := 4, ground := Ground.phase }, { on := 5, ground := Ground.phase }, { on := 6, ground := Ground.phase }, { on := 7, ground := Ground.phase }, { on := 8, ground := Ground.phase }, { on := 9, ground := Ground.phase }, { on := 10, ground := Ground.phase }], guard := none }) rfl (fun K hK => ?_) AllReadyH.nil
      go_simp
      refine hK.out _ _ trivial (fun hHeld => ?_)
      clear hK K
      try simp only [Act.put, List.setIfInBounds_toArray, List.set_cons_zero, List.set_cons_succ]
      refine wpAnyH_done (by kernel_rfl) ?_ _
      go_wp2_with fail
      refine (change_any _ _ p (N + 1) _ E3.out HD.out).mono ?_
      rintro e w5 ⟨rfl, hd5, hm5⟩
      have HD5 := hid hd5
      have HM5 := hid hm5
      clear hd5 hm5
      go_wp2_with fail
      go_ret
      rw [HS.out]
      exact ⟨rfl, rwrite_fin HD5.out HM5.out.size, E4.out.then HM5.out (fun j _ e => by subst e; exact H.out.own)⟩
    refine AllReadyH.cons (o := { dst := some 31, op := Op.call { callee := Callee.value (Operand.func 34), args := #[Operand.tmp 30], argTypes := #[27] }, type := 27, pos := "ref.go:76", after := #[{ on := 6, ground := Ground.data }], guard := none }) rfl (fun K hK => ?_) AllReadyH.nil
    · go_simp; refine (whole_any w.drew a c d HR.out HL.out).mono ?_; rintro e w1 ⟨q0, rfl, hf, hm⟩; obtain ⟨q, rfl, hq, hqb⟩ := hf; have hp2 := (hm.cell (p := ⟨p, 2, none⟩) (World.block_lt_of_cell? w _ h2) (fun h => h)).trans h2; have hp3 := fun o => ((Mod.refl None w1).alloc o).cell (p := ⟨p, 2, none⟩) (World.block_lt_of_cell? w1 _ hp2) (fun h => h) |>.trans hp2; have HM1 := hid ((Mod.refl None w).drew.trans hm); have HQ := hid (And.intro hq hqb); clear hm hq hqb; go_wp2_with fail
      refine hK.out _ _ trivial (fun hHeld => ?_)
      clear hK K
      try simp only [Act.put, List.setIfInBounds_toArray, List.set_cons_zero, List.set_cons_succ]
      refine wpAnyH_take (i := 8) (oi := { dst := some 32, op := Op.build 115 #[(0, Operand.tmp 29), (1, Operand.tmp 31)], type := 115, pos := "ref.go:76", after := #[{ on := 5, ground := Ground.data }, { on := 7, ground := Ground.data }], guard := none }) (v := ?vo10_8) rfl (by kernel_rfl) (by kernel_rfl) (by kernel_rfl) (fun _ _ _ h => h) (Or.inl ⟨by rfl, ?yo10_8⟩) (by assumption) ?ro10_8
      case yo10_8 => (intro w hSw; (try dsimp only at hSw); go_simp; (try with_reducible rfl))
      try simp only [Act.put, List.setIfInBounds_toArray, List.set_cons_zero, List.set_cons_succ]
      refine wpAnyH_ready (rs := [4, 9]) (by kernel_rfl) (by simp) ?_
      refine AllReadyH.cons (o := { dst := some 28, op := Op.load 111 (Operand.tmp 27), type := 111, pos := "ref.go:76", after := #[{ on := 3, ground := Ground.data }], guard := none }) rfl (fun K hK => ?_) ?_
      · go_simp
        refine hK.out _ _ trivial (fun hHeld => ?_)
        clear hK K
        try simp only [Act.put, List.setIfInBounds_toArray, List.set_cons_zero, List.set_cons_succ]
        refine wpAnyH_ready (rs := [9]) (by kernel_rfl) (by simp) ?_
        refine AllReadyH.cons (o := { dst := some 33, op := Op.buildSlice 111 1 #[(0, Operand.tmp 32)], type := 111, pos := "ref.go:76", after := #[{ on := 8, ground := Ground.data }], guard := none }) rfl (fun K hK => ?_) AllReadyH.nil
        go_simp
        refine hK.out _ _ trivial (fun hHeld => ?_)
        clear hK K
        try simp only [Act.put, List.setIfInBounds_toArray, List.set_cons_zero, List.set_cons_succ]
        refine wpAnyH_ready (rs := [10]) (by kernel_rfl) (by simp) ?_
        refine AllReadyH.cons (o := { dst := some 34, op := Op.call { callee := Callee.builtin Builtin.append, args := #[Operand.tmp 28, Operand.tmp 33], argTypes := #[111, 111] }, type := 111, pos := "ref.go:76", after := #[{ on := 4, ground := Ground.data }, { on := 9, ground := Ground.data }, { on := 7, ground := Ground.chain }], guard := none }) rfl (fun K hK => ?_) AllReadyH.nil
        refine wp_append_R (.tmp 28) (.tmp 33) 111 rfl 115 it (.agg #[.int .i64 0, .slice none 0 0]) 2 32 e_und111 hit hz hsz hby rfl (by decide) (.slice ba wl bc) wl (bufC st.waits qs) rfl (HOWN.out _ (HM1.out.alloc _)) _ 1 1 [.int .i64 (k : Int), .slice (some ⟨q, 0, none⟩) 64 64] rfl rfl (rw_src w1 k q) (rw_ones k q) (by have := HWL.out; unfold maxLen; omega) (by have := HWL.out; omega) ?_; intro va vc w3 g2 g3 g4; have hend := HEND.out _ w3 q va vc (HM1.out.alloc _) HQ.out.1 (HQ.out.2.alloc _) g2.out g3.out g4.out; obtain ⟨e1, e2, e3, e4⟩ := hend; have E3 := hid e3; have E4 := hid e4; clear g2 g3 g4 e3 e4
        refine hK.out _ _ trivial (fun hHeld => ?_)
        clear hK K
        try simp only [Act.put, List.setIfInBounds_toArray, List.set_cons_zero, List.set_cons_succ]
        refine wpAnyH_take (i := 11) (oi := { dst := some 35, op := Op.nilCheck (Operand.tmp 24), type := 0, pos := "ref.go:76", after := #[{ on := 0, ground := Ground.data }, { on := 0, ground := Ground.phase }, { on := 1, ground := Ground.phase }, { on := 2, ground := Ground.phase }, { on := 3, ground := Ground.phase }, { on := 4, ground := Ground.phase }, { on := 5, ground := Ground.phase }, { on := 6, ground := Ground.phase }, { on := 7, ground := Ground.phase }, { on := 8, ground := Ground.phase }, { on := 9, ground := Ground.phase }, { on := 10, ground := Ground.phase }], guard := none }) (v := ?vo11_11) rfl (by kernel_rfl) (by kernel_rfl) (by kernel_rfl) (fun _ _ _ h => h) (Or.inl ⟨by rfl, ?yo11_11⟩) (by assumption) ?ro11_11
        case yo11_11 => (intro w hSw; (try dsimp only at hSw); go_simp; (try with_reducible rfl))
        try simp only [Act.put, List.setIfInBounds_toArray, List.set_cons_zero, List.set_cons_succ]
        refine wpAnyH_take (i := 12) (oi := { dst := some 36, op := Op.fieldAddr 113 (Operand.tmp 35) 2, type := 0, pos := "ref.go:76", after := #[{ on := 11, ground := Ground.data }, { on := 0, ground := Ground.phase }, { on := 1, ground := Ground.phase }, { on := 2, ground := Ground.phase }, { on := 3, ground := Ground.phase }, { on := 4, ground := Ground.phase }, { on := 5, ground := Ground.phase }, { on := 6, ground := Ground.phase }, { on := 7, ground := Ground.phase }, { on := 8, ground := Ground.phase }, { on := 9, ground := Ground.phase }, { on := 10, ground := Ground.phase }], guard := none }) (v := ?vo12_12) rfl (by kernel_rfl) (by kernel_rfl) (by kernel_rfl) (fun _ _ _ h => h) (Or.inl ⟨by rfl, ?yo12_12⟩) (by assumption) ?ro12_12
        case yo12_12 => (intro w hSw; (try dsimp only at hSw); go_simp; (try with_reducible rfl))
        try simp only [Act.put, List.setIfInBounds_toArray, List.set_cons_zero, List.set_cons_succ]
        refine wpAnyH_ready (rs := [13]) (by kernel_rfl) (by simp) ?_
        refine AllReadyH.cons (o := { dst := none, op := Op.store 111 (Operand.tmp 36) (Operand.tmp 34), type := 0, pos := "ref.go:76", after := #[{ on := 12, ground := Ground.data }, { on := 10, ground := Ground.data }, { on := 10, ground := Ground.chain }, { on := 0, ground := Ground.phase }, { on := 1, ground := Ground.phase }, { on := 2, ground := Ground.phase }, { on := 3, ground := Ground.phase }, { on := 4, ground := Ground.phase }, { on := 5, ground := Ground.phase }, { on := 6, ground := Ground.phase }, { on := 7, ground := Ground.phase }, { on := 8, ground := Ground.phase }, { on := 9, ground := Ground.phase }, { on := 10, ground := Ground.phase }], guard := none }) rfl (fun K hK => ?_) AllReadyH.nil
        go_simp
        refine hK.out _ _ trivial (fun hHeld => ?_)
        clear hK K
        try simp only [Act.put, List.setIfInBounds_toArray, List.set_cons_zero, List.set_cons_succ]
        refine wpAnyH_done (by kernel_rfl) ?_ _
        go_wp2_with fail
        refine (change_any _ _ p (N + 1) _ E3.out HD.out).mono ?_
        rintro e w5 ⟨rfl, hd5, hm5⟩
        have HD5 := hid hd5
        have HM5 := hid hm5
        clear hd5 hm5
        go_wp2_with fail
        go_ret
        rw [HS.out]
        exact ⟨rfl, rwrite_fin HD5.out HM5.out.size, E4.out.then HM5.out (fun j _ e => by subst e; exact H.out.own)⟩
      refine AllReadyH.cons (o := { dst := some 33, op := Op.buildSlice 111 1 #[(0, Operand.tmp 32)], type := 111, pos := "ref.go:76", after := #[{ on := 8, ground := Ground.data }], guard := none }) rfl (fun K hK => ?_) AllReadyH.nil
      · go_simp
        refine hK.out _ _ trivial (fun hHeld => ?_)
        clear hK K
        try simp only [Act.put, List.setIfInBounds_toArray, List.set_cons_zero, List.set_cons_succ]
        refine wpAnyH_ready (rs := [4]) (by kernel_rfl) (by simp) ?_
        refine AllReadyH.cons (o := { dst := some 28, op := Op.load 111 (Operand.tmp 27), type := 111, pos := "ref.go:76", after := #[{ on := 3, ground := Ground.data }], guard := none }) rfl (fun K hK => ?_) AllReadyH.nil
        go_simp
        refine hK.out _ _ trivial (fun hHeld => ?_)
        clear hK K
        try simp only [Act.put, List.setIfInBounds_toArray, List.set_cons_zero, List.set_cons_succ]
        refine wpAnyH_ready (rs := [10]) (by kernel_rfl) (by simp) ?_
        refine AllReadyH.cons (o := { dst := some 34, op := Op.call { callee := Callee.builtin Builtin.append, args := #[Operand.tmp 28, Operand.tmp 33], argTypes := #[111, 111] }, type := 111, pos := "ref.go:76", after := #[{ on := 4, ground := Ground.data }, { on := 9, ground := Ground.data }, { on := 7, ground := Ground.chain }], guard := none }) rfl (fun K hK => ?_) AllReadyH.nil
        refine wp_append_R (.tmp 28) (.tmp 33) 111 rfl 115 it (.agg #[.int .i64 0, .slice none 0 0]) 2 32 e_und111 hit hz hsz hby rfl (by decide) (.slice ba wl bc) wl (bufC st.waits qs) rfl (HOWN.out _ (HM1.out.alloc _)) _ 1 1 [.int .i64 (k : Int), .slice (some ⟨q, 0, none⟩) 64 64] rfl rfl (rw_src w1 k q) (rw_ones k q) (by have := HWL.out; unfold maxLen; omega) (by have := HWL.out; omega) ?_; intro va vc w3 g2 g3 g4; have hend := HEND.out _ w3 q va vc (HM1.out.alloc _) HQ.out.1 (HQ.out.2.alloc _) g2.out g3.out g4.out; obtain ⟨e1, e2, e3, e4⟩ := hend; have E3 := hid e3; have E4 := hid e4; clear g2 g3 g4 e3 e4
        refine hK.out _ _ trivial (fun hHeld => ?_)
        clear hK K
        try simp only [Act.put, List.setIfInBounds_toArray, List.set_cons_zero, List.set_cons_succ]
        refine wpAnyH_take (i := 11) (oi := { dst := some 35, op := Op.nilCheck (Operand.tmp 24), type := 0, pos := "ref.go:76", after := #[{ on := 0, ground := Ground.data }, { on := 0, ground := Ground.phase }, { on := 1, ground := Ground.phase }, { on := 2, ground := Ground.phase }, { on := 3, ground := Ground.phase }, { on := 4, ground := Ground.phase }, { on := 5, ground := Ground.phase }, { on := 6, ground := Ground.phase }, { on := 7, ground := Ground.phase }, { on := 8, ground := Ground.phase }, { on := 9, ground := Ground.phase }, { on := 10, ground := Ground.phase }], guard := none }) (v := ?vo13_11) rfl (by kernel_rfl) (by kernel_rfl) (by kernel_rfl) (fun _ _ _ h => h) (Or.inl ⟨by rfl, ?yo13_11⟩) (by assumption) ?ro13_11
        case yo13_11 => (intro w hSw; (try dsimp only at hSw); go_simp; (try with_reducible rfl))
        try simp only [Act.put, List.setIfInBounds_toArray, List.set_cons_zero, List.set_cons_succ]
        refine wpAnyH_take (i := 12) (oi := { dst := some 36, op := Op.fieldAddr 113 (Operand.tmp 35) 2, type := 0, pos := "ref.go:76", after := #[{ on := 11, ground := Ground.data }, { on := 0, ground := Ground.phase }, { on := 1, ground := Ground.phase }, { on := 2, ground := Ground.phase }, { on := 3, ground := Ground.phase }, { on := 4, ground := Ground.phase }, { on := 5, ground := Ground.phase }, { on := 6, ground := Ground.phase }, { on := 7, ground := Ground.phase }, { on := 8, ground := Ground.phase }, { on := 9, ground := Ground.phase }, { on := 10, ground := Ground.phase }], guard := none }) (v := ?vo14_12) rfl (by kernel_rfl) (by kernel_rfl) (by kernel_rfl) (fun _ _ _ h => h) (Or.inl ⟨by rfl, ?yo14_12⟩) (by assumption) ?ro14_12
        case yo14_12 => (intro w hSw; (try dsimp only at hSw); go_simp; (try with_reducible rfl))
        try simp only [Act.put, List.setIfInBounds_toArray, List.set_cons_zero, List.set_cons_succ]
        refine wpAnyH_ready (rs := [13]) (by kernel_rfl) (by simp) ?_
        refine AllReadyH.cons (o := { dst := none, op := Op.store 111 (Operand.tmp 36) (Operand.tmp 34), type := 0, pos := "ref.go:76", after := #[{ on := 12, ground := Ground.data }, { on := 10, ground := Ground.data }, { on := 10, ground := Ground.chain }, { on := 0, ground := Ground.phase }, { on := 1, ground := Ground.phase }, { on := 2, ground := Ground.phase }, { on := 3, ground := Ground.phase }, { on := 4, ground := Ground.phase }, { on := 5, ground := Ground.phase }, { on := 6, ground := Ground.phase }, { on := 7, ground := Ground.phase }, { on := 8, ground := Ground.phase }, { on := 9, ground := Ground.phase }, { on := 10, ground := Ground.phase }], guard := none }) rfl (fun K hK => ?_) AllReadyH.nil
        go_simp
        refine hK.out _ _ trivial (fun hHeld => ?_)
        clear hK K
        try simp only [Act.put, List.setIfInBounds_toArray, List.set_cons_zero, List.set_cons_succ]
        refine wpAnyH_done (by kernel_rfl) ?_ _
        go_wp2_with fail
        refine (change_any _ _ p (N + 1) _ E3.out HD.out).mono ?_
        rintro e w5 ⟨rfl, hd5, hm5⟩
        have HD5 := hid hd5
        have HM5 := hid hm5
        clear hd5 hm5
        go_wp2_with fail
        go_ret
        rw [HS.out]
        exact ⟨rfl, rwrite_fin HD5.out HM5.out.size, E4.out.then HM5.out (fun j _ e => by subst e; exact H.out.own)⟩
end Go.Proofs.Ytdhhpnfdnoaihaa
