/- The document's set of gauges: a name's place, a new name laid in. -/
import Derived.Test.YtkbbpjknakajeaaPAtA
import Derived.Test.YtkbbpjknakajeaaPAtB
namespace Go.Proofs.Ytkbbpjknakajeaa
open Go Go.AE Go.RowKit
theorem at_any (rb : Nat) (L : List (ByteArray × Int)) (v : Value) (B : Nat) (w : World) (hc : w.cell? ⟨rb, 0, none⟩ = some v) (hf : w.frozen? ⟨rb, 0, none⟩ = false) (hown : w.ownsRow B 52 2 v L.length (flatG L)) (hL : L.length ≤ 64)
    (s : ByteArray) (hs : s.size ≤ 300) :
    Calls Try.prog 22 #[.pointer (some ⟨rb, 0, none⟩), .string s] w fun x w' => AtRes w rb L s x w' := by
  by_cases h : Ahead L s L.length
  · exact at_end rb L v B w hc hf hown hL s hs h
  · have h1 : ¬ ∀ j x, j < L.length → L[j]? = some x → lessB x.1 s = true := h
    simp only [Classical.not_forall] at h1
    obtain ⟨j, x, hj, hx, hb⟩ := h1
    refine at_mid j rb L v B w hc hf hown hL s hs hj fun y hy => ?_
    rw [hx] at hy
    obtain rfl := Option.some.inj hy
    simpa using hb
end Go.Proofs.Ytkbbpjknakajeaa
