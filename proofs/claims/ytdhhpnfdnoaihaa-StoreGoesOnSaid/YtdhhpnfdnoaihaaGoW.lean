import Derived.Test.YtdhhpnfdnoaihaaY8
/-! S11 -/
/- The plain law of a store of four short pairs. -/
namespace Go.Proofs.Ytdhhpnfdnoaihaa
open Go.RowKit

theorem SSt.commits2 {σ : SSt} (h : σ.Ok) {l : List Ch} (hf : fits σ.st 0 (encL (allL σ.has l)).length) : (σ.commit l).2 = 0 ∧ (σ.commit l).1.Ok ∧ (σ.commit l).1.has = allL σ.has l ∧ (σ.commit l).1.turn = σ.turn + 1 ∧ halfN (σ.commit l).1.st = halfN σ.st := by
  obtain ⟨h1, h2⟩ := SSt.commit_ok h l
  have e : halfN (σ.commit l).1.st = halfN σ.st := by unfold halfN; rw [h2]
  by_cases hc : fits σ.st σ.en (encL l).length
  · rw [SSt.commit_fits hc] at *
    exact ⟨rfl, h1, rfl, rfl, e⟩
  · rw [SSt.commit_turns hc hf] at *
    exact ⟨rfl, h1, rfl, rfl, e⟩
def one (k : UInt8) (x : List UInt8) : List Ch := if x = [] then [] else [⟨[k], x, false⟩]
/-- the pairs of four texts; an empty one was never put -/
def goL : List (List UInt8) → List Ch
  | [a, b, c, d] => one 97 a ++ (one 98 b ++ (one 99 c ++ one 100 d))
  | _ => []
def letter (k : Nat) : UInt8 := 97 + UInt8.ofNat k
theorem four {L : List (List UInt8)} (h : L.length = 4) : ∃ a b c d, L = [a, b, c, d] := by
  match L, h with
  | [a, b, c, d], _ => exact ⟨a, b, c, d, rfl⟩
theorem one_nil (k : UInt8) : one k [] = [] := rfl
theorem one_cons (k : UInt8) {x : List UInt8} (h : x ≠ []) : one k x = [⟨[k], x, false⟩] := by unfold one; rw [if_neg h]
theorem go_put (L : List (List UInt8)) (h : L.length = 4) (k : Nat) (hk : k < 4) (x : List UInt8) (hx : x ≠ []) : allL (goL L) [⟨[letter k], x, false⟩] = goL (L.set k x) := by
  obtain ⟨a, b, c, d, rfl⟩ := four h
  have e : ∀ y : List UInt8, y = [] ∨ (∀ k, one k y = [⟨[k], y, false⟩]) := fun y => (Classical.em (y = [])).imp id (fun h k => one_cons k h)
  rcases e a with ha | ha <;> rcases e b with hb | hb <;> rcases e c with hc | hc <;> rcases e d with hd | hd <;>
    rcases (show k = 0 ∨ k = 1 ∨ k = 2 ∨ k = 3 by omega) with rfl | rfl | rfl | rfl <;>
    simp only [goL, List.set_cons_zero, List.set_cons_succ, ha, hb, hc, hd, one_nil, one_cons _ hx, List.nil_append, List.cons_append] <;> rfl
theorem go_get (L : List (List UInt8)) (h : L.length = 4) (k : Nat) (hk : k < 4) : (getL (goL L) [letter k]).1 = L.getD k [] := by
  obtain ⟨a, b, c, d, rfl⟩ := four h
  have e : ∀ y : List UInt8, y = [] ∨ (∀ k, one k y = [⟨[k], y, false⟩]) := fun y => (Classical.em (y = [])).imp id (fun h k => one_cons k h)
  rcases e a with ha | ha <;> rcases e b with hb | hb <;> rcases e c with hc | hc <;> rcases e d with hd | hd <;>
    rcases (show k = 0 ∨ k = 1 ∨ k = 2 ∨ k = 3 by omega) with rfl | rfl | rfl | rfl <;>
    simp only [goL, ha, hb, hc, hd, one_nil, List.nil_append, List.cons_append] <;> rfl
theorem one_wt (k : UInt8) (x : List UInt8) (h : x.length ≤ 3) : ((one k x).map wtC).sum ≤ 21 ∧ (one k x).length ≤ 1 := by
  by_cases hx : x = []
  · subst hx; simp [one_nil]
  · rw [one_cons k hx]; simp [wtC]; omega
theorem go_wt (L : List (List UInt8)) (h : L.length = 4) (hl : ∀ x ∈ L, x.length ≤ 3) : wtL (goL L) ≤ 92 ∧ (goL L).length ≤ 4 := by
  obtain ⟨a, b, c, d, rfl⟩ := four h
  have h1 := one_wt 97 a (hl a (by simp))
  have h2 := one_wt 98 b (hl b (by simp))
  have h3 := one_wt 99 c (hl c (by simp))
  have h4 := one_wt 100 d (hl d (by simp))
  unfold wtL goL
  simp only [List.map_append, List.sum_append, List.length_append]
  omega
/-- what the law keeps -/
structure GoOn (σ : SSt) (L : List (List UInt8)) (i : Nat) : Prop where
  ok : σ.Ok
  half : halfN σ.st = 4
  turn : σ.turn ≤ i
  four : L.length = 4
  short : ∀ x ∈ L, x.length ≤ 3
  has : σ.has = goL L
theorem GoOn.new : GoOn (SSt.new (DSt.new 10)) [[], [], [], []] 0 :=
  ⟨SSt.new_ok 10 (by omega) (by omega), by show halfN (DSt.new 10) = 4; unfold halfN; rw [new_len], Nat.le_refl _, rfl, by simp, rfl⟩
theorem GoOn.put {σ : SSt} {L : List (List UInt8)} {i : Nat} (h : GoOn σ L i) {k : Nat} (hk : k < 4) {x : List UInt8} (hx : x.length = 3) :
    (σ.commit [⟨[letter k], x, false⟩]).2 = 0 ∧ GoOn (σ.commit [⟨[letter k], x, false⟩]).1 (L.set k x) (i + 1) ∧ wtL (allL σ.has [⟨[letter k], x, false⟩]) ≤ 92 := by
  have hne : x ≠ [] := fun e => by rw [e] at hx; simp at hx
  have hall : allL σ.has [⟨[letter k], x, false⟩] = goL (L.set k x) := by rw [h.has]; exact go_put L h.four k hk x hne
  have h4 : (L.set k x).length = 4 := by rw [List.length_set]; exact h.four
  have hs : ∀ y ∈ L.set k x, y.length ≤ 3 := fun y hy => by
    rcases List.mem_or_eq_of_mem_set hy with hy | rfl
    · exact h.short y hy
    · omega
  have hwt := go_wt (L.set k x) h4 hs
  have hel := encL_len (goL (L.set k x))
  obtain ⟨g1, g2, g3, g4, g5⟩ := SSt.commits2 h.ok (l := [⟨[letter k], x, false⟩]) (by rw [hall]; exact ⟨by omega, by rw [h.half]; omega⟩)
  exact ⟨g1, ⟨g2, g5.trans h.half, by rw [g4]; have := h.turn; omega, h4, hs, g3.trans hall⟩, by rw [hall]; exact hwt.1⟩
theorem GoOn.get {σ : SSt} {L : List (List UInt8)} {i : Nat} (h : GoOn σ L i) {k : Nat} (hk : k < 4) : (getL σ.has [letter k]).1 = L.getD k [] := by rw [h.has]; exact go_get L h.four k hk
theorem GoOn.few {σ : SSt} {L : List (List UInt8)} {i : Nat} (h : GoOn σ L i) : σ.has.length ≤ 4 := by rw [h.has]; exact (go_wt L h.four h.short).2
end Go.Proofs.Ytdhhpnfdnoaihaa

/-! S12 -/
/- The walk of StoreGoesOn. -/
namespace Go.Proofs.Ytdhhpnfdnoaihaa
open Go.RowKit

def dg (x : UInt8) : UInt8 := UInt8.ofNat (48 + x.toNat % 10)
def lt (x : UInt8) : UInt8 := UInt8.ofNat (97 + x.toNat % 26)
def v3 (x : UInt8) : List UInt8 := [118, dg x, lt x]
theorem tmod_nat (n m : Nat) : ((n : Int)).tmod (m : Int) = ((n % m : Nat) : Int) := by rw [Int.tmod_eq_emod_of_nonneg (by omega)]; omega
theorem dg_is (x : UInt8) : IntKind.u8.wrap (48 + ((x.toNat : Nat) : Int).tmod 10) = ((dg x).toNat : Int) := by
  rw [show (10 : Int) = ((10 : Nat) : Int) from rfl, tmod_nat]
  unfold dg
  rw [UInt8.toNat_ofNat']
  simp [IntKind.wrap, IntKind.bits, IntKind.signed]
theorem lt_is (x : UInt8) : IntKind.u8.wrap (97 + ((x.toNat : Nat) : Int).tmod 26) = ((lt x).toNat : Int) := by
  rw [show (26 : Int) = ((26 : Nat) : Int) from rfl, tmod_nat]
  unfold lt
  rw [UInt8.toNat_ofNat']
  simp [IntKind.wrap, IntKind.bits, IntKind.signed]
theorem letter_is (k : Nat) (hk : k < 4) : IntKind.u8.wrap (97 + (k : Int)) = ((letter k).toNat : Int) := by
  rcases (show k = 0 ∨ k = 1 ∨ k = 2 ∨ k = 3 by omega) with rfl | rfl | rfl | rfl <;> rfl
/-- the walk's state: the store, and the four texts at hb -/
def goRel (w wr : World) (s p hb i : Nat) (σ : SSt) (L : List (List UInt8)) : Prop :=
  ∃ T, IsStore w wr T s p σ ∧ GoOn σ L i ∧ Blk wr hb 91 (L.map Str) ∧ ¬ T hb ∧ w.heap.size ≤ hb
theorem IsStore.other {w0 w w' : World} {T : Nat → Prop} {s p : Nat} {σ : SSt} {U : Nat → Prop} (h : IsStore w0 w T s p σ) (hm : Mod U w w') (hU : ∀ k, U k → ¬ T k ∧ w0.heap.size ≤ k) : IsStore w0 w' T s p σ := by
  obtain ⟨S, c, j, v, h, h1, h2⟩ := h
  have hn : ∀ k, T k → ¬ U k := fun k hk hu => (hU k hu).1 hk
  refine ⟨S, c, j, v, ?_, h1, fun k hk => ⟨Nat.lt_of_lt_of_le (h2 k hk).1 hm.size, (h2 k hk).2⟩⟩
  exact {
    live := (h.live.turn (T := U) (T' := U) (.same hm) (fun k hk => hn k (h1 k (.inl hk))) (fun k hu => (hU k hu).2)).1
    obj := hm.blk h.obj (hn s (h1 s (.inr (.inl rfl))))
    cell := hm.blk h.cell (hn c (h1 c (.inr (.inr (.inl rfl)))))
    log := hm.blk h.log (hn j (h1 j (.inr (.inr (.inr (.inl rfl))))))
    row := row_kept h.row hm (fun g hg => hn g (h1 g (.inr (.inr (.inr (.inr hg))))))
    sS := h.sS
    cS := h.cS
    jS := h.jS
    vS := h.vS
    s0 := h.s0
    c0 := h.c0
    j0 := h.j0
    v0 := h.v0
    ok := h.ok }
theorem go_set {w wr W : World} {T : Nat → Prop} {s p hb : Nat} {σ : SSt} {cs : List Value} (h : IsStore w wr T s p σ) (_ : Blk wr hb 91 cs) (ht : ¬ T hb) (hn : w.heap.size ≤ hb) (hm : Mod (fun z => z = hb) wr W) : IsStore w W T s p σ :=
  h.other hm (fun k e => by subst e; exact ⟨ht, hn⟩)
theorem goRel.step {w wr wq : World} {s p hb i : Nat} {σ : SSt} {L : List (List UInt8)} (h : goRel w wr s p hb i σ L) (hm : Mod None wr wq) : goRel w wq s p hb i σ L := by
  obtain ⟨T, k1, k2, k3, k4, k5⟩ := h
  exact ⟨T, k1.step hm, k2, hm.blk k3 (fun h => h), k4, k5⟩
theorem go_commit {w W : World} {T : Nat → Prop} {s p hb i k : Nat} {σ : SSt} {L : List (List UInt8)} {vx : List UInt8} {cs : List Value} (h : IsStore w W T s p σ) (hg : GoOn σ L i) (hi : i ≤ 300) (hk : k < 4) (hx : vx.length = 3) (hb' : Blk W hb 91 cs) (ht : ¬ T hb) :
    Calls Try.prog 53 #[.pointer (some ⟨s, 0, none⟩), .slice (some ⟨W.heap.size + 1, 0, none⟩) 1 1] ((W.alloc (.cells #[.int .u8 ((letter k).toNat : Int)] 5)).alloc (.cells #[.string { data := #[letter k] }, .string { data := vx.toArray }, .bool false] 89)).drew
      fun e w' => e = .returned (.int .i64 0) ∧ ∃ T', IsStore w w' T' s p (σ.commit [⟨[letter k], vx, false⟩]).1 ∧ Blk w' hb 91 cs ∧ ¬ T' hb := by
  obtain ⟨p1, p2, p3⟩ := hg.put hk hx
  have hm1 := (Mod.refl None W).alloc (.cells #[.int .u8 ((letter k).toNat : Int)] 5)
  have hm := (hm1.alloc (.cells #[.string { data := #[letter k] }, .string { data := vx.toArray }, .bool false] 89)).drew
  have hsz : (W.alloc (.cells #[.int .u8 ((letter k).toNat : Int)] 5)).heap.size = W.heap.size + 1 := by simp
  have hr := rows2 (W.alloc (.cells #[.int .u8 ((letter k).toNat : Int)] 5)) #[.string { data := #[letter k] }, .string { data := vx.toArray }, .bool false] [⟨[letter k], vx, false⟩] rfl _ rfl
  rw [hsz] at hr
  have hf := hg.few
  have ht2 := hg.turn
  refine (is_commit (h.step hm) (by omega) [⟨[letter k], vx, false⟩] _ 1 1 rfl hr (by simp; omega) (by simp [wtL, wtC]; omega) (by omega)).mono ?_
  rintro e w' ⟨T', rfl, hs', t'⟩
  refine ⟨by rw [p1], T', hs', t'.mod.blk (hm.blk hb' (fun h => h)) ht, not_after t' ?_ ht⟩
  exact Nat.lt_of_lt_of_le hb'.lt hm.size
set_option maxRecDepth 100000 in
set_option maxHeartbeats 1600000 in
theorem StoreGoesOn_walk (w : World) (v0 : Value) (b : List UInt8) (w0 : VBytes w v0 b) :
    Calls Try.prog 17 #[v0] w fun e w' => e = .returned (.bool true) ∧ Below w.heap.size w w' := by
  obtain ⟨a, cap, rfl, hlen, hrd⟩ := w0
  have HRD := hid hrd
  clear hrd
  go_enter Try.func17, Try.ntmps17
  go_wp2_with fail
  refine (live_new w w (Mod.refl _ _) 10 10 (by omega)).mono ?_
  rintro e w1 ⟨p, S, rfl, hl, _, _⟩
  have HL := hid hl
  clear hl
  go_wp2_with fail
  refine (is_open HL.out (by omega) (by omega)).mono ?_
  rintro e w2 ⟨s, T, rfl, hs, _⟩
  have HS := hid hs
  clear hs HL
  go_wp2_with fail
  refine (awake6_any w2).mono ?_
  rintro e w3 ⟨rfl, hm3⟩
  have HS3 := hid (HS.out.step hm3)
  clear hm3 HS
  go_wp2_with fail
  have HREL := hid (show goRel w (w3.alloc (.cells #[.string { data := #[] }, .string { data := #[] }, .string { data := #[] }, .string { data := #[] }] 91)) s p w3.heap.size 0 (SSt.new (DSt.new 10)) [[], [], [], []] from
    ⟨T, HS3.out.step ((Mod.refl None w3).alloc _), GoOn.new, Blk.new w3 91 _, fun ht => by
      obtain ⟨_, _, _, _, _, _, h⟩ := HS3.out
      have := (h _ ht).1; omega, HS3.out.mod.size⟩)
  generalize w3.alloc (.cells #[.string { data := #[] }, .string { data := #[] }, .string { data := #[] }, .string { data := #[] }] 91) = w4 at *
  generalize w3.heap.size = hb at *
  go_loopw [6] (fun vi wr => ∃ (i : Nat) (σ : SSt) (L : List (List UInt8)), i ≤ b.length ∧ i ≤ 300 ∧ vi = .int .i64 i ∧ Hid (goRel w wr s p hb i σ L)) (fun vi _ => b.length - (intOf vi).toNat)
  case atStart => exact ⟨0, _, _, by omega, by omega, rfl, HREL.out⟩
  case round =>
    obtain ⟨i, σ, L, hi, hi3, rfl, hr⟩ := hrel
    clear HREL HS3
    by_cases hlt : i < b.length
    · have hlt' : (i : Int) < (b.length : Int) := by omega
      by_cases h300 : i < 300
      · have h300' : (i : Int) < 300 := by omega
        obtain ⟨x, hx⟩ : ∃ x, b[i]? = some x := ⟨_, List.getElem?_eq_getElem hlt⟩
        obtain ⟨T4, g1, g2, g3, g4, g5⟩ := hr.out
        obtain ⟨bb, o, rfl, hcell⟩ : ∃ bb o, a = some ⟨bb, o, none⟩ ∧ wr.cell? ⟨bb, o + i, none⟩ = some (.int .u8 (x.toNat : Int)) := by
          rcases g1.mod.rd HRD.out (fun _ _ h => h) with h | ⟨bb, o, rfl, hc⟩
          · have : b = [] := by simpa using h
            rw [this] at hlt; simp at hlt
          · exact ⟨bb, o, rfl, by rw [hc i (by simpa using hlt), List.getElem?_map, hx]; rfl⟩
        have HIS := hid g1
        have HGO := hid g2
        have HB := hid g3
        have HTB := hid g4
        have HBN := hid g5
        clear g1 g2 g3 g4 g5 hr
        go_wp2_with fail
        have hk4 : ((x.toNat : Int) % 4) = ((x.toNat % 4 : Nat) : Int) := by omega
        rw [hk4]
        have hkk : x.toNat % 4 < 4 := Nat.mod_lt _ (by omega)
        generalize x.toNat % 4 = k at *
        have hkI : (k : Int) < 4 := by omega
        have hcb : wr.cell? ⟨hb, k, none⟩ = some (Str (L.getD k [])) := by
          rw [HB.out.cell, List.getElem?_map, List.getD_eq_getElem?_getD, List.getElem?_eq_getElem (by rw [HGO.out.four]; exact hkk)]; rfl
        have hfb := HB.out.free k
        have HQ := hid (show (∃ u, (wr.alloc (.cells #[.int .u8 ((dg x).toNat : Int), .int .u8 ((lt x).toNat : Int)] 5)).cell? ⟨hb, k, none⟩ = some u) ∧ (wr.alloc (.cells #[.int .u8 ((dg x).toNat : Int), .int .u8 ((lt x).toNat : Int)] 5)).frozen? ⟨hb, k, none⟩ = false from ⟨⟨_, ((Mod.refl None wr).alloc _).cell0 hcb⟩, (HB.out.alloc _).free k⟩)
        have HBB := hid (show bb ≠ hb from fun e => by
          subst e
          have h := HB.out.cell (o + i)
          rw [hcell] at h
          rw [List.getElem?_map] at h
          cases hq : L[o + i]? with
          | none => rw [hq] at h; simp at h
          | some y => rw [hq] at h; simp [Str] at h)
        unfold Str at hcb
        have hd : IntKind.u8.wrap (48 + ((x.toNat : Nat) : Int).tmod 10) = ((dg x).toNat : Int) := dg_is x
        have he : IntKind.u8.wrap (97 + ((x.toNat : Nat) : Int).tmod 26) = ((lt x).toNat : Int) := lt_is x
        have HCV := hid (show (convert 27 9 (.slice (some ⟨wr.heap.size, 0, none⟩) 2 2)).run Try.prog (wr.alloc (.cells #[.int .u8 ((dg x).toNat : Int), .int .u8 ((lt x).toNat : Int)] 5)).drew = .ok (Str [dg x, lt x]) (wr.alloc (.cells #[.int .u8 ((dg x).toNat : Int), .int .u8 ((lt x).toNat : Int)] 5)).drew from str_rd (show Rd (wr.alloc (.cells #[.int .u8 ((dg x).toNat : Int), .int .u8 ((lt x).toNat : Int)] 5)).drew _ _ from rd_lit wr _ [dg x, lt x] rfl (0, 0) _ rfl) 2 2 rfl)
        unfold Str at HCV
        have HX1 := hid (show wr.drew.cell? ⟨bb, o + i, none⟩ = some (.int .u8 (x.toNat : Int)) from hcell)
        refine wp_region_held_drew (S := fun w' => w'.cell? ⟨bb, o + i, none⟩ = some (.int .u8 (x.toNat : Int))) (by kernel_rfl) ?_ (fun hHeld => ?_)
        · exact HX1.out
        refine wpAnyH_take (i := 0) (oi := { dst := some 42, op := Op.move (Operand.tmp 7), type := 3, pos := "law.go:186", after := #[], guard := none }) (v := ?vo1_0) rfl (by kernel_rfl) (by kernel_rfl) (by kernel_rfl) (fun _ _ _ h => h) (Or.inl ⟨by rfl, ?yo1_0⟩) (by assumption) ?ro1_0
        case yo1_0 => (intro w hSw; (try dsimp only at hSw); go_simp; (try with_reducible rfl))
        try simp only [Act.put, List.setIfInBounds_toArray, List.set_cons_zero, List.set_cons_succ]
        refine wpAnyH_take (i := 1) (oi := { dst := some 43, op := Op.move (Operand.tmp 0), type := 27, pos := "law.go:186", after := #[], guard := none }) (v := ?vo2_1) rfl (by kernel_rfl) (by kernel_rfl) (by kernel_rfl) (fun _ _ _ h => h) (Or.inl ⟨by rfl, ?yo2_1⟩) (by assumption) ?ro2_1
        case yo2_1 => (intro w hSw; (try dsimp only at hSw); go_simp; (try with_reducible rfl))
        try simp only [Act.put, List.setIfInBounds_toArray, List.set_cons_zero, List.set_cons_succ]
        refine wpAnyH_take (i := 2) (oi := { dst := some 44, op := Op.move (Operand.tmp 6), type := 3, pos := "law.go:186", after := #[], guard := none }) (v := ?vo3_2) rfl (by kernel_rfl) (by kernel_rfl) (by kernel_rfl) (fun _ _ _ h => h) (Or.inl ⟨by rfl, ?yo3_2⟩) (by assumption) ?ro3_2
        case yo3_2 => (intro w hSw; (try dsimp only at hSw); go_simp; (try with_reducible rfl))
        try simp only [Act.put, List.setIfInBounds_toArray, List.set_cons_zero, List.set_cons_succ]
        refine wpAnyH_take (i := 3) (oi := { dst := some 45, op := Op.indexAddr 27 (Operand.tmp 43) (Operand.tmp 44), type := 0, pos := "law.go:186", after := #[{ on := 1, ground := Ground.data }, { on := 2, ground := Ground.data }], guard := none }) (v := ?vo4_3) rfl (by kernel_rfl) (by kernel_rfl) (by kernel_rfl) (fun _ _ _ h => h) (Or.inl ⟨by rfl, ?yo4_3⟩) (by assumption) ?ro4_3
        case yo4_3 => (intro w hSw; (try dsimp only at hSw); go_simp; (try with_reducible rfl))
        try simp only [Act.put, List.setIfInBounds_toArray, List.set_cons_zero, List.set_cons_succ]
        refine wpAnyH_take (i := 4) (oi := { dst := some 46, op := Op.load 5 (Operand.tmp 45), type := 5, pos := "law.go:186", after := #[{ on := 3, ground := Ground.data }], guard := none }) (v := ?vo5_4) rfl (by kernel_rfl) (by kernel_rfl) (by kernel_rfl) (fun _ _ _ h => h) (Or.inl ⟨by rfl, ?yo5_4⟩) (by assumption) ?ro5_4
        case yo5_4 => (intro w hSw; (try dsimp only at hSw); go_simp; (try with_reducible rfl))
        try simp only [Act.put, List.setIfInBounds_toArray, List.set_cons_zero, List.set_cons_succ]
        refine wpAnyH_take (i := 5) (oi := { dst := some 47, op := Op.binOp BinOp.rem 5 (Operand.tmp 46) (Operand.const (Value.int IntKind.u8 10)) 5, type := 5, pos := "law.go:186", after := #[{ on := 4, ground := Ground.data }], guard := none }) (v := ?vo6_5) rfl (by kernel_rfl) (by kernel_rfl) (by kernel_rfl) (fun _ _ _ h => h) (Or.inl ⟨by rfl, ?yo6_5⟩) (by assumption) ?ro6_5
        case yo6_5 => (intro w hSw; (try dsimp only at hSw); go_simp; (try with_reducible rfl))
        try simp only [Act.put, List.setIfInBounds_toArray, List.set_cons_zero, List.set_cons_succ]
        refine wpAnyH_take (i := 6) (oi := { dst := some 48, op := Op.binOp BinOp.add 5 (Operand.const (Value.int IntKind.u8 48)) (Operand.tmp 47) 5, type := 5, pos := "law.go:186", after := #[{ on := 5, ground := Ground.data }], guard := none }) (v := ?vo7_6) rfl (by kernel_rfl) (by kernel_rfl) (by kernel_rfl) (fun _ _ _ h => h) (Or.inl ⟨by rfl, ?yo7_6⟩) (by assumption) ?ro7_6
        case yo7_6 => (intro w hSw; (try dsimp only at hSw); go_simp; (try with_reducible rfl))
        try simp only [Act.put, List.setIfInBounds_toArray, List.set_cons_zero, List.set_cons_succ]
        refine wpAnyH_take (i := 7) (oi := { dst := some 49, op := Op.move (Operand.tmp 0), type := 27, pos := "law.go:186", after := #[], guard := none }) (v := ?vo8_7) rfl (by kernel_rfl) (by kernel_rfl) (by kernel_rfl) (fun _ _ _ h => h) (Or.inl ⟨by rfl, ?yo8_7⟩) (by assumption) ?ro8_7
        case yo8_7 => (intro w hSw; (try dsimp only at hSw); go_simp; (try with_reducible rfl))
        try simp only [Act.put, List.setIfInBounds_toArray, List.set_cons_zero, List.set_cons_succ]
        refine wpAnyH_take (i := 8) (oi := { dst := some 50, op := Op.move (Operand.tmp 6), type := 3, pos := "law.go:186", after := #[], guard := none }) (v := ?vo9_8) rfl (by kernel_rfl) (by kernel_rfl) (by kernel_rfl) (fun _ _ _ h => h) (Or.inl ⟨by rfl, ?yo9_8⟩) (by assumption) ?ro9_8
        case yo9_8 => (intro w hSw; (try dsimp only at hSw); go_simp; (try with_reducible rfl))
        try simp only [Act.put, List.setIfInBounds_toArray, List.set_cons_zero, List.set_cons_succ]
        refine wpAnyH_take (i := 9) (oi := { dst := some 51, op := Op.indexAddr 27 (Operand.tmp 49) (Operand.tmp 50), type := 0, pos := "law.go:186", after := #[{ on := 7, ground := Ground.data }, { on := 8, ground := Ground.data }], guard := none }) (v := ?vo10_9) rfl (by kernel_rfl) (by kernel_rfl) (by kernel_rfl) (fun _ _ _ h => h) (Or.inl ⟨by rfl, ?yo10_9⟩) (by assumption) ?ro10_9
        case yo10_9 => (intro w hSw; (try dsimp only at hSw); go_simp; (try with_reducible rfl))
        try simp only [Act.put, List.setIfInBounds_toArray, List.set_cons_zero, List.set_cons_succ]
        refine wpAnyH_take (i := 10) (oi := { dst := some 52, op := Op.load 5 (Operand.tmp 51), type := 5, pos := "law.go:186", after := #[{ on := 9, ground := Ground.data }], guard := none }) (v := ?vo11_10) rfl (by kernel_rfl) (by kernel_rfl) (by kernel_rfl) (fun _ _ _ h => h) (Or.inl ⟨by rfl, ?yo11_10⟩) (by assumption) ?ro11_10
        case yo11_10 => (intro w hSw; (try dsimp only at hSw); go_simp; (try with_reducible rfl))
        try simp only [Act.put, List.setIfInBounds_toArray, List.set_cons_zero, List.set_cons_succ]
        refine wpAnyH_take (i := 11) (oi := { dst := some 53, op := Op.binOp BinOp.rem 5 (Operand.tmp 52) (Operand.const (Value.int IntKind.u8 26)) 5, type := 5, pos := "law.go:186", after := #[{ on := 10, ground := Ground.data }], guard := none }) (v := ?vo12_11) rfl (by kernel_rfl) (by kernel_rfl) (by kernel_rfl) (fun _ _ _ h => h) (Or.inl ⟨by rfl, ?yo12_11⟩) (by assumption) ?ro12_11
        case yo12_11 => (intro w hSw; (try dsimp only at hSw); go_simp; (try with_reducible rfl))
        try simp only [Act.put, List.setIfInBounds_toArray, List.set_cons_zero, List.set_cons_succ]
        refine wpAnyH_take (i := 12) (oi := { dst := some 54, op := Op.binOp BinOp.add 5 (Operand.const (Value.int IntKind.u8 97)) (Operand.tmp 53) 5, type := 5, pos := "law.go:186", after := #[{ on := 11, ground := Ground.data }], guard := none }) (v := ?vo13_12) rfl (by kernel_rfl) (by kernel_rfl) (by kernel_rfl) (fun _ _ _ h => h) (Or.inl ⟨by rfl, ?yo13_12⟩) (by assumption) ?ro13_12
        case yo13_12 => (intro w hSw; (try dsimp only at hSw); go_simp; (try with_reducible rfl))
        try simp only [Act.put, List.setIfInBounds_toArray, List.set_cons_zero, List.set_cons_succ]
        refine wpAnyH_ready (rs := [13]) (by kernel_rfl) (by simp) ?_
        refine AllReadyH.cons (o := { dst := some 55, op := Op.buildSlice 27 2 #[(0, Operand.tmp 48), (1, Operand.tmp 54)], type := 27, pos := "law.go:186", after := #[{ on := 6, ground := Ground.data }, { on := 12, ground := Ground.data }], guard := none }) rfl (fun K hK => ?_) AllReadyH.nil
        go_simp; have HX1 := hid (show (wr.alloc (.cells #[.int .u8 ((dg x).toNat : Int), .int .u8 ((lt x).toNat : Int)] 5)).drew.cell? ⟨bb, o + i, none⟩ = some (.int .u8 (x.toNat : Int)) from ((Mod.refl None wr).alloc _).cell0 hcell)
        refine hK.out _ _ ?_ (fun hHeld => ?_)
        · exact HX1.out
        clear hK K
        try simp only [Act.put, List.setIfInBounds_toArray, List.set_cons_zero, List.set_cons_succ]
        refine wpAnyH_ready (rs := [14]) (by kernel_rfl) (by simp) ?_
        refine AllReadyH.cons (o := { dst := some 56, op := Op.convert 27 9 (Operand.tmp 55), type := 9, pos := "law.go:186", after := #[{ on := 13, ground := Ground.data }], guard := none }) rfl (fun K hK => ?_) AllReadyH.nil
        have hcv := HCV.out; go_simp
        refine hK.out _ _ ?_ (fun hHeld => ?_)
        · exact HX1.out
        clear hK K
        try simp only [Act.put, List.setIfInBounds_toArray, List.set_cons_zero, List.set_cons_succ]
        refine wpAnyH_take (i := 15) (oi := { dst := some 57, op := Op.binOp BinOp.add 9 (Operand.const (Value.string { data := #[118] })) (Operand.tmp 56) 9, type := 9, pos := "law.go:186", after := #[{ on := 14, ground := Ground.data }], guard := none }) (v := ?vo14_15) rfl (by kernel_rfl) (by kernel_rfl) (by kernel_rfl) (fun _ _ _ h => h) (Or.inl ⟨by rfl, ?yo14_15⟩) (by assumption) ?ro14_15
        case yo14_15 => (intro w hSw; (try dsimp only at hSw); go_simp; (try with_reducible rfl))
        try simp only [Act.put, List.setIfInBounds_toArray, List.set_cons_zero, List.set_cons_succ]
        refine wpAnyH_take (i := 16) (oi := { dst := some 58, op := Op.indexAddr 91 (Operand.tmp 5) (Operand.tmp 42), type := 0, pos := "law.go:186", after := #[{ on := 0, ground := Ground.data }, { on := 0, ground := Ground.phase }, { on := 1, ground := Ground.phase }, { on := 2, ground := Ground.phase }, { on := 3, ground := Ground.phase }, { on := 4, ground := Ground.phase }, { on := 5, ground := Ground.phase }, { on := 6, ground := Ground.phase }, { on := 7, ground := Ground.phase }, { on := 8, ground := Ground.phase }, { on := 9, ground := Ground.phase }, { on := 10, ground := Ground.phase }, { on := 11, ground := Ground.phase }, { on := 12, ground := Ground.phase }, { on := 13, ground := Ground.phase }, { on := 14, ground := Ground.phase }, { on := 15, ground := Ground.phase }], guard := none }) (v := ?vo15_16) rfl (by kernel_rfl) (by kernel_rfl) (by kernel_rfl) (fun _ _ _ h => h) (Or.inl ⟨by rfl, ?yo15_16⟩) (by assumption) ?ro15_16
        case yo15_16 => (intro w hSw; (try dsimp only at hSw); go_simp; (try with_reducible rfl))
        try simp only [Act.put, List.setIfInBounds_toArray, List.set_cons_zero, List.set_cons_succ]
        refine wpAnyH_ready (rs := [17]) (by kernel_rfl) (by simp) ?_
        refine AllReadyH.cons (o := { dst := none, op := Op.store 9 (Operand.tmp 58) (Operand.tmp 57), type := 0, pos := "law.go:186", after := #[{ on := 16, ground := Ground.data }, { on := 15, ground := Ground.data }, { on := 0, ground := Ground.phase }, { on := 1, ground := Ground.phase }, { on := 2, ground := Ground.phase }, { on := 3, ground := Ground.phase }, { on := 4, ground := Ground.phase }, { on := 5, ground := Ground.phase }, { on := 6, ground := Ground.phase }, { on := 7, ground := Ground.phase }, { on := 8, ground := Ground.phase }, { on := 9, ground := Ground.phase }, { on := 10, ground := Ground.phase }, { on := 11, ground := Ground.phase }, { on := 12, ground := Ground.phase }, { on := 13, ground := Ground.phase }, { on := 14, ground := Ground.phase }, { on := 15, ground := Ground.phase }], guard := none }) rfl (fun K hK => ?_) AllReadyH.nil
        obtain ⟨⟨uq, q1⟩, q2⟩ := HQ.out; go_simp; (try rw [q1]); (try dsimp only [Result.andThen]); have HX1 := hid (show (((wr.alloc (.cells #[.int .u8 ((dg x).toNat : Int), .int .u8 ((lt x).toNat : Int)] 5)).setCell ⟨hb, k, none⟩ (Str (v3 x))).drew.cell? ⟨bb, o + i, none⟩ = some (.int .u8 (x.toNat : Int))) from (World.cell?_setCell_other _ _ _ _ (fun e => HBB.out (by injection e with e1 e2 e3; exact e1.symm))).trans HX1.out)
        refine hK.out _ _ ?_ (fun hHeld => ?_)
        · exact HX1.out
        clear hK K
        try simp only [Act.put, List.setIfInBounds_toArray, List.set_cons_zero, List.set_cons_succ]
        refine wpAnyH_done (by kernel_rfl) ?_ _
        have hWM : Mod (fun z => z = hb) wr ((wr.alloc (.cells #[.int .u8 ((dg x).toNat : Int), .int .u8 ((lt x).toNat : Int)] 5)).setCell ⟨hb, k, none⟩ (Str (v3 x))).drew := ((Mod.set (S := fun z => z = hb) ((Mod.refl _ wr).alloc _) (p := ⟨hb, k, none⟩) (.inl rfl) _)).drew
        have HG10 := hid (go_set HIS.out HB.out HTB.out HBN.out hWM)
        have HB10 := hid (show Blk ((wr.alloc (.cells #[.int .u8 ((dg x).toNat : Int), .int .u8 ((lt x).toNat : Int)] 5)).setCell ⟨hb, k, none⟩ (Str (v3 x))).drew hb 91 ((L.set k (v3 x)).map Str) from by rw [List.map_set]; exact (HB.out.alloc _).set k _)
        clear hWM HX1 HQ HCV hcb hfb hcell
        rw [show (Value.string ({ data := #[118] } ++ { data := #[dg x, lt x] })) = Str (v3 x) from rfl]
        generalize ((wr.alloc (.cells #[.int .u8 ((dg x).toNat : Int), .int .u8 ((lt x).toNat : Int)] 5)).setCell ⟨hb, k, none⟩ (Str (v3 x))).drew = W at *
        have hkw : IntKind.u8.wrap (k : Int) = (k : Int) := by simp [IntKind.wrap, IntKind.bits, IntKind.signed]; omega
        have hlk : IntKind.u8.wrap (97 + (k : Int)) = ((letter k).toNat : Int) := letter_is k hkk
        have HX2 := hid (show W.drew.cell? ⟨hb, k, none⟩ = some (Str (v3 x)) from by rw [show W.drew.cell? = W.cell? from rfl, HB10.out.cell, List.getElem?_map, List.getElem?_set_self (by rw [HGO.out.four]; exact hkk)]; rfl)
        have HCV := hid (show (convert 27 9 (.slice (some ⟨W.heap.size, 0, none⟩) 1 1)).run Try.prog (W.alloc (.cells #[.int .u8 ((letter k).toNat : Int)] 5)).drew = .ok (Str [letter k]) (W.alloc (.cells #[.int .u8 ((letter k).toNat : Int)] 5)).drew from str_rd (show Rd (W.alloc (.cells #[.int .u8 ((letter k).toNat : Int)] 5)).drew _ _ from rd_lit W _ [letter k] rfl (0, 0) _ rfl) 1 1 rfl)
        have HPUT := hid (HGO.out.put hkk (x := v3 x) rfl)
        have HFEW := hid HGO.out.few
        have HTU := hid HGO.out.turn
        have HCC := hid (go_commit HG10.out HGO.out hi3 hkk (vx := v3 x) rfl HB10.out HTB.out)
        generalize hvx : v3 x = vx at *
        clear hvx
        unfold Str at HCV HX2
        go_wp2_with fail
        refine wp_region_held_drew (S := fun w' => w'.cell? ⟨hb, k, none⟩ = some (.string { data := vx.toArray })) (by kernel_rfl) ?_ (fun hHeld => ?_)
        · exact HX2.out
        refine wpAnyH_take (i := 0) (oi := { dst := some 59, op := Op.move (Operand.tmp 3), type := 74, pos := "law.go:187", after := #[], guard := none }) (v := ?vq1_0) rfl (by kernel_rfl) (by kernel_rfl) (by kernel_rfl) (fun _ _ _ h => h) (Or.inl ⟨by rfl, ?yq1_0⟩) (by assumption) ?rq1_0
        case yq1_0 => (intro w hSw; (try dsimp only at hSw); go_simp; (try with_reducible rfl))
        try simp only [Act.put, List.setIfInBounds_toArray, List.set_cons_zero, List.set_cons_succ]
        refine wpAnyH_take (i := 1) (oi := { dst := some 60, op := Op.move (Operand.tmp 7), type := 3, pos := "law.go:187", after := #[], guard := none }) (v := ?vq2_1) rfl (by kernel_rfl) (by kernel_rfl) (by kernel_rfl) (fun _ _ _ h => h) (Or.inl ⟨by rfl, ?yq2_1⟩) (by assumption) ?rq2_1
        case yq2_1 => (intro w hSw; (try dsimp only at hSw); go_simp; (try with_reducible rfl))
        try simp only [Act.put, List.setIfInBounds_toArray, List.set_cons_zero, List.set_cons_succ]
        refine wpAnyH_take (i := 2) (oi := { dst := some 61, op := Op.convert 3 5 (Operand.tmp 60), type := 5, pos := "law.go:187", after := #[{ on := 1, ground := Ground.data }], guard := none }) (v := ?vq3_2) rfl (by kernel_rfl) (by kernel_rfl) (by kernel_rfl) (fun _ _ _ h => h) (Or.inl ⟨by rfl, ?yq3_2⟩) (by assumption) ?rq3_2
        case yq3_2 => (intro w hSw; (try dsimp only at hSw); go_simp; (try with_reducible rfl))
        try simp only [Act.put, List.setIfInBounds_toArray, List.set_cons_zero, List.set_cons_succ]
        refine wpAnyH_take (i := 3) (oi := { dst := some 62, op := Op.binOp BinOp.add 5 (Operand.const (Value.int IntKind.u8 97)) (Operand.tmp 61) 5, type := 5, pos := "law.go:187", after := #[{ on := 2, ground := Ground.data }], guard := none }) (v := ?vq4_3) rfl (by kernel_rfl) (by kernel_rfl) (by kernel_rfl) (fun _ _ _ h => h) (Or.inl ⟨by rfl, ?yq4_3⟩) (by assumption) ?rq4_3
        case yq4_3 => (intro w hSw; (try dsimp only at hSw); go_simp; (try with_reducible rfl))
        try simp only [Act.put, List.setIfInBounds_toArray, List.set_cons_zero, List.set_cons_succ]
        refine wpAnyH_take (i := 6) (oi := { dst := some 65, op := Op.move (Operand.tmp 7), type := 3, pos := "law.go:187", after := #[], guard := none }) (v := ?vq5_6) rfl (by kernel_rfl) (by kernel_rfl) (by kernel_rfl) (fun _ _ _ h => h) (Or.inl ⟨by rfl, ?yq5_6⟩) (by assumption) ?rq5_6
        case yq5_6 => (intro w hSw; (try dsimp only at hSw); go_simp; (try with_reducible rfl))
        try simp only [Act.put, List.setIfInBounds_toArray, List.set_cons_zero, List.set_cons_succ]
        refine wpAnyH_take (i := 7) (oi := { dst := some 66, op := Op.indexAddr 91 (Operand.tmp 5) (Operand.tmp 65), type := 0, pos := "law.go:187", after := #[{ on := 6, ground := Ground.data }], guard := none }) (v := ?vq6_7) rfl (by kernel_rfl) (by kernel_rfl) (by kernel_rfl) (fun _ _ _ h => h) (Or.inl ⟨by rfl, ?yq6_7⟩) (by assumption) ?rq6_7
        case yq6_7 => (intro w hSw; (try dsimp only at hSw); go_simp; (try with_reducible rfl))
        try simp only [Act.put, List.setIfInBounds_toArray, List.set_cons_zero, List.set_cons_succ]
        refine wpAnyH_take (i := 8) (oi := { dst := some 67, op := Op.load 9 (Operand.tmp 66), type := 9, pos := "law.go:187", after := #[{ on := 7, ground := Ground.data }], guard := none }) (v := ?vq7_8) rfl (by kernel_rfl) (by kernel_rfl) (by kernel_rfl) (fun _ _ _ h => h) (Or.inl ⟨by rfl, ?yq7_8⟩) (by assumption) ?rq7_8
        case yq7_8 => (intro w hSw; (try dsimp only at hSw); go_simp; (try with_reducible rfl))
        try simp only [Act.put, List.setIfInBounds_toArray, List.set_cons_zero, List.set_cons_succ]
        refine wpAnyH_ready (rs := [4]) (by kernel_rfl) (by simp) ?_
        refine AllReadyH.cons (o := { dst := some 63, op := Op.buildSlice 27 1 #[(0, Operand.tmp 62)], type := 27, pos := "law.go:187", after := #[{ on := 3, ground := Ground.data }], guard := none }) rfl (fun K hK => ?_) AllReadyH.nil
        go_simp; have HX2 := hid (((Mod.refl None W).alloc (.cells #[.int .u8 ((letter k).toNat : Int)] 5)).drew.cell0 HX2.out)
        refine hK.out _ _ ?_ (fun hHeld => ?_)
        · exact HX2.out
        clear hK K
        try simp only [Act.put, List.setIfInBounds_toArray, List.set_cons_zero, List.set_cons_succ]
        refine wpAnyH_ready (rs := [5]) (by kernel_rfl) (by simp) ?_
        refine AllReadyH.cons (o := { dst := some 64, op := Op.convert 27 9 (Operand.tmp 63), type := 9, pos := "law.go:187", after := #[{ on := 4, ground := Ground.data }], guard := none }) rfl (fun K hK => ?_) AllReadyH.nil
        have hcv := HCV.out; go_simp
        refine hK.out _ _ ?_ (fun hHeld => ?_)
        · exact HX2.out
        clear hK K
        try simp only [Act.put, List.setIfInBounds_toArray, List.set_cons_zero, List.set_cons_succ]
        refine wpAnyH_take (i := 9) (oi := { dst := some 68, op := Op.build 89 #[(0, Operand.tmp 64), (1, Operand.tmp 67)], type := 89, pos := "law.go:187", after := #[{ on := 5, ground := Ground.data }, { on := 8, ground := Ground.data }], guard := none }) (v := ?vq8_9) rfl (by kernel_rfl) (by kernel_rfl) (by kernel_rfl) (fun _ _ _ h => h) (Or.inl ⟨by rfl, ?yq8_9⟩) (by assumption) ?rq8_9
        case yq8_9 => (intro w hSw; (try dsimp only at hSw); go_simp; (try with_reducible rfl))
        try simp only [Act.put, List.setIfInBounds_toArray, List.set_cons_zero, List.set_cons_succ]
        refine wpAnyH_ready (rs := [10]) (by kernel_rfl) (by simp) ?_
        refine AllReadyH.cons (o := { dst := some 69, op := Op.buildSlice 79 1 #[(0, Operand.tmp 68)], type := 79, pos := "law.go:187", after := #[{ on := 9, ground := Ground.data }], guard := none }) rfl (fun K hK => ?_) AllReadyH.nil
        go_simp; have HX3 := hid (((Mod.refl None (W.alloc (.cells #[.int .u8 ((letter k).toNat : Int)] 5))).alloc (.cells #[.string { data := #[letter k] }, .string { data := vx.toArray }, .bool false] 89)).drew.cell0 HX2.out); have HX2 := HX3
        refine hK.out _ _ ?_ (fun hHeld => ?_)
        · exact HX2.out
        clear hK K
        try simp only [Act.put, List.setIfInBounds_toArray, List.set_cons_zero, List.set_cons_succ]
        refine wpAnyH_ready (rs := [11]) (by kernel_rfl) (by simp) ?_
        refine AllReadyH.cons (o := { dst := some 70, op := Op.call { callee := Callee.value (Operand.func 53), args := #[Operand.tmp 59, Operand.tmp 69], argTypes := #[74, 79] }, type := 40, pos := "law.go:187", after := #[{ on := 0, ground := Ground.data }, { on := 10, ground := Ground.data }], guard := none }) rfl (fun K hK => ?_) AllReadyH.nil
        go_simp; refine HCC.out.mono ?_; rintro e W11 ⟨rfl, T11, hs11, hb11, ht11⟩; have HX2 := hid (show W11.cell? ⟨hb, k, none⟩ = some (.string { data := vx.toArray }) from by rw [hb11.cell, List.getElem?_map, List.getElem?_set_self (by rw [HGO.out.four]; exact hkk)]; rfl); have HR11 := hid (show goRel w W11 s p hb (i + 1) (σ.commit [⟨[letter k], vx, false⟩]).1 (L.set k vx) from ⟨T11, hs11, HPUT.out.2.1, hb11, ht11, HBN.out⟩); clear hs11 hb11 ht11 HCC
        refine hK.out _ _ ?_ (fun hHeld => ?_)
        · exact HX2.out
        clear hK K
        try simp only [Act.put, List.setIfInBounds_toArray, List.set_cons_zero, List.set_cons_succ]
        refine wpAnyH_take (i := 12) (oi := { dst := some 71, op := Op.binOp BinOp.neq 40 (Operand.tmp 70) (Operand.const (Value.int IntKind.i64 0)) 40, type := 4, pos := "law.go:187", after := #[{ on := 11, ground := Ground.data }], guard := none }) (v := ?vq9_12) rfl (by kernel_rfl) (by kernel_rfl) (by kernel_rfl) (fun _ _ _ h => h) (Or.inl ⟨by rfl, ?yq9_12⟩) (by assumption) ?rq9_12
        case yq9_12 => (intro w hSw; (try dsimp only at hSw); go_simp; (try with_reducible rfl))
        try simp only [Act.put, List.setIfInBounds_toArray, List.set_cons_zero, List.set_cons_succ]
        refine wpAnyH_done (by kernel_rfl) ?_ _
        clear HX2 HPUT HGO HB HTB HIS HB10 HG10 hcv HCV
        generalize (σ.commit [⟨[letter k], vx, false⟩]).1 = σ2 at *
        generalize L.set k vx = L2 at *
        go_wp2_with fail
        go_loopw [8] (fun vn wr => ∃ n : Nat, n ≤ 4 ∧ vn = .int .i64 n ∧ Hid (goRel w wr s p hb (i + 1) σ2 L2)) (fun vn _ => 4 - (intOf vn).toNat)
        case atStart => exact ⟨0, by omega, rfl, HR11.out⟩
        case round =>
          obtain ⟨n, hn, rfl, hr2⟩ := hrel
          clear HR11
          by_cases hlt4 : n < 4
          · have hlt4' : (n : Int) < 4 := by omega
            obtain ⟨T5, k1, k2, k3, k4, k5⟩ := hr2.out
            have hnw : IntKind.u8.wrap (n : Int) = (n : Int) := by simp [IntKind.wrap, IntKind.bits, IntKind.signed]; omega
            have hln : IntKind.u8.wrap (97 + (n : Int)) = ((letter n).toNat : Int) := letter_is n hlt4
            have hcv : (convert 27 9 (.slice (some ⟨wr.heap.size, 0, none⟩) 1 1)).run Try.prog (wr.alloc (.cells #[.int .u8 ((letter n).toNat : Int)] 5)) = .ok (Str [letter n]) (wr.alloc (.cells #[.int .u8 ((letter n).toNat : Int)] 5)) := str_rd (rd_lit wr _ [letter n] rfl (0, 0) _ rfl) 1 1 rfl
            have HGT := hid (is_get (k1.step ((Mod.refl None wr).alloc (.cells #[.int .u8 ((letter n).toNat : Int)] 5))) [letter n] (by have := k2.few; omega))
            have HGE := hid (k2.get hlt4)
            have HB5 := hid k3
            have HL4 := hid k2.four
            clear k1 k2 k3 k4 k5
            have hcn : wr.cell? ⟨hb, n, none⟩ = some (Str (L2.getD n [])) := by
              rw [HB5.out.cell, List.getElem?_map, List.getD_eq_getElem?_getD, List.getElem?_eq_getElem (by rw [HL4.out]; exact hlt4)]; rfl
            rw [HGE.out] at HGT
            clear HGE
            generalize getL σ2.has [letter n] = g at *
            generalize L2.getD n [] = gv at *
            unfold Str at hcv HGT hcn
            have hw1 : IntKind.i64.wrap ((n : Int) + 1) = (n : Int) + 1 := by rw [IntKind.wrap_i64]; omega
            go_wp2_with fail
            refine HGT.out.mono ?_
            rintro e W6 ⟨rfl, hm6⟩
            have hm7 := ((Mod.refl None wr).alloc (.cells #[.int .u8 ((letter n).toNat : Int)] 5)).trans hm6
            have hcn6 := hm7.cell0 hcn
            have HR6 := hid (goRel.step hr2.out hm7)
            clear hm6 hm7 hcn HGT hr2 hcv
            go_wp2_with fail
            go_roundw
            case rel => exact ⟨n + 1, by omega, by go_num, HR6.out⟩
            case measure => simp [intOf]; omega
          · obtain rfl : n = 4 := by omega
            have hlt4' : ¬ ((4 : Nat) : Int) < 4 := by omega
            have hw1 : IntKind.i64.wrap ((i : Int) + 1) = (i : Int) + 1 := by rw [IntKind.wrap_i64]; omega
            go_wp2_with fail
            go_roundw
            case rel => exact ⟨i + 1, σ2, L2, by omega, by omega, by go_num, hr2.out⟩
            case measure => simp [intOf]; omega
      · have h300' : ¬ (i : Int) < 300 := by omega
        go_wp2_with fail
        go_ret
        obtain ⟨_, g1, _⟩ := hr.out
        exact ⟨rfl, g1.mod.below _ (Nat.le_refl _) (fun _ h => h.elim)⟩
    · obtain rfl : i = b.length := by omega
      have hlt' : ¬ (b.length : Int) < (b.length : Int) := by omega
      go_wp2_with fail
      go_ret
      obtain ⟨_, g1, _⟩ := hr.out
      exact ⟨rfl, g1.mod.below _ (Nat.le_refl _) (fun _ h => h.elim)⟩
end Go.Proofs.Ytdhhpnfdnoaihaa
