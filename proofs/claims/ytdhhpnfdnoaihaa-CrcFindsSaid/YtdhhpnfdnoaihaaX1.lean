/- '==' between arrays of four numbers. -/
import Derived.Test.YtdhhpnfdnoaihaaL1
namespace Go.Proofs.Ytdhhpnfdnoaihaa
section
variable {P : Program} (w : World)
theorem run_equalIn_arr4 (d : Nat) (t e : TypeId) (k : IntKind) (a0 a1 a2 a3 b0 b1 b2 b3 : Int) (ht : P.underlying t = some (.array 4 e)) (he : P.underlying e = some (.int k)) (hs : (P.info? e).map (·.size) = some 1) :
    (Op.equalIn (d + 2) t (.agg #[.int k a0, .int k a1, .int k a2, .int k a3]) (.agg #[.int k b0, .int k b1, .int k b2, .int k b3])).run P w = .ok ((a0 == b0) && ((a1 == b1) && ((a2 == b2) && (a3 == b3)))) w := by
  obtain ⟨i, hi, hsz⟩ : ∃ i, P.info? e = some i ∧ i.size = 1 := by
    cases hq : P.info? e with
    | none => simp [hq] at hs
    | some i => exact ⟨i, rfl, by simpa [hq] using hs⟩
  rw [Op.equalIn]
  simp only [Sem.run_bind, run_underlying ht, Result.andThen_ok]
  simp [sizeOf, typeInfo, hi, hsz, Std.Legacy.Range.forIn_eq_forIn_range', List.range', part, isAgg, run_underlying he, Op.equalIn]
  by_cases h0 : a0 = b0
  · by_cases h1 : a1 = b1
    · by_cases h2 : a2 = b2
      · by_cases h3 : a3 = b3
        · simp [h0, h1, h2, h3]
        · simp [h0, h1, h2, h3]
      · simp [h0, h1, h2]
    · simp [h0, h1]
  · simp [h0]
end
end Go.Proofs.Ytdhhpnfdnoaihaa
