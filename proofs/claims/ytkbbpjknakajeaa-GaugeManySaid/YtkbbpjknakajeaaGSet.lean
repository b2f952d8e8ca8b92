/- What a set of counters holds, of every world: read off the memory that the kernel has reckoned. -/
import Derived.Test.YtkbbpjknakajeaaGAll
import Derived.Test.YtkbbpjknakajeaaGMany0
import Derived.Laws.BytesString
import Derived.Deep.WholeRow
namespace Go.Proofs.Ytkbbpjknakajeaa
open Go Go.AE Go.RowKit
theorem conv3 (w : World) (x y z : Int) : (convert 33 9 (.slice (some ⟨w.heap.size, 0, none⟩) 3 3)).run Try.prog (w.alloc (.cells #[.int .u8 x, .int .u8 y, .int .u8 z] 5)) =
    .ok (.string ⟨#[UInt8.ofNat x.toNat, UInt8.ofNat y.toNat, UInt8.ofNat z.toNat]⟩) (w.alloc (.cells #[.int .u8 x, .int .u8 y, .int .u8 z] 5)) := by
  rw [run_convert_bytes_string _ 33 9 5 _ _ _ Try.underlying33 Try.underlying5 Try.underlying9, run_bytesToString _ _ 3 3 [x, y, z] ?_]
  · rfl
  · exact run_loadCellsFrom_new w 5 #[.int .u8 x, .int .u8 y, .int .u8 z] 3 rfl
noncomputable section
def cntOK (m : Mem) (v : Value) : Bool :=
  match v with
  | .pointer (some ⟨b, o, none⟩) => match cellA ⟨b, o, none⟩ m, cellA ⟨b, o + 3, none⟩ m with
    | some (.int .u32 1), some (.pointer (some ⟨yb, yo, none⟩)) => match cellA ⟨yb, yo, none⟩ m with
      | some (.int .i64 _) => true
      | _ => false
    | _, _ => false
  | _ => false
def esOK (m : Mem) : List MapEntry → Nat → Bool
  | [], _ => true
  | e :: l, i => cond (Nat.beq e.born i) (match e.key with
    | .string _ => cond (cntOK m e.val) (esOK m l (i + 1)) false
    | _ => false) false
def setOK (m : Mem) (r : Value) (k : Nat) : Bool :=
  match r with
  | .pointer (some ⟨b, o, none⟩) => match cellA ⟨b, o, none⟩ m with
    | some (.map (some r)) => match m.t.get r with
      | some (.map es clock) => cond (Nat.beq es.length k) (cond (Nat.beq clock k) (esOK m es 0) false) false
      | _ => false
    | _ => false
  | _ => false
end
theorem cnt_at {w1 w : World} {σ : Sg} {m : Mem} (hM : MR EG w1 σ m w) {v v' : Value} (h : cntOK m v = true) (hv : VR σ v v') : ∃ z, CntAt w v' z := by
  unfold cntOK at h
  split at h
  · rename_i b o
    split at h
    · rename_i yb yo h0 h3
      split at h
      · rename_i z hz
        obtain ⟨b', o', u0, _, _, _, rfl, _, q0, _, r0⟩ := cellA_sound hM h0 hv
        obtain rfl := r0.simple_inv rfl
        have hv' := hv
        cases hv with
        | refl hs => simp [simple] at hs
        | ptr hx =>
          rename_i x
          obtain ⟨b3, o3, u3, _, _, _, he, _, q3, _, r3⟩ := cellA_sound hM h3 (.ptr hx)
          cases he
          cases r3 with
          | refl hs => simp [simple] at hs
          | ptr hy =>
            obtain ⟨b4, o4, u4, _, _, _, he, _, q4, _, r4⟩ := cellA_sound hM hz (.ptr hy)
            cases he
            obtain rfl := r4.simple_inv rfl
            exact ⟨z, ⟨_, _, _, _, rfl, q0, by rw [Nat.add_assoc]; exact q3, q4⟩⟩
      · cases h
    · cases h
  · cases h
theorem esOK_at {m : Mem} : ∀ (l : List MapEntry) (i : Nat), esOK m l i = true → ∀ j a, l[j]? = some a → a.born = i + j ∧ (∃ s, a.key = .string s) ∧ cntOK m a.val = true := by
  intro l
  induction l with
  | nil => intro i _ j a h; simp at h
  | cons e l ih =>
    intro i h j a hj
    simp only [esOK] at h
    cases h1 : Nat.beq e.born i with
    | false => rw [h1] at h; cases h
    | true =>
      simp only [h1, cond_true] at h
      split at h
      · rename_i s hs
        cases h2 : cntOK m e.val with
        | false => rw [h2] at h; cases h
        | true =>
          simp only [h2, cond_true] at h
          cases j with
          | zero =>
            simp at hj
            subst hj
            exact ⟨Nat.eq_of_beq_eq_true h1, ⟨s, hs⟩, h2⟩
          | succ j =>
            obtain ⟨g1, g2, g3⟩ := ih (i + 1) h j a (by simpa using hj)
            exact ⟨by omega, g2, g3⟩
      · cases h
theorem set_at {w1 w : World} {σ : Sg} {m : Mem} (hM : MR EG w1 σ m w) {r p : Value} {k : Nat} (hp : VR σ r p) (h : setOK m r k = true) :
    ∃ sb so mb es clock, p = .pointer (some ⟨sb, so, none⟩) ∧ w.cell? ⟨sb, so, none⟩ = some (.map (some mb)) ∧ w.heap[mb]? = some (.map es clock) ∧ es.size = k ∧ (∀ x ∈ es.toList, x.born < clock) ∧ (es.toList.map (·.born)).Nodup ∧
      ∀ e ∈ es.toList, ∃ s z, e.key = .string s ∧ CntAt w e.val z := by
  unfold setOK at h
  split at h
  · rename_i b o
    split at h
    · rename_i r hc
      split at h
      · rename_i es clock hr
        cases h1 : Nat.beq es.length k with
        | false => rw [h1] at h; cases h
        | true =>
          cases h2 : Nat.beq clock k with
          | false => rw [h1, h2] at h; cases h
          | true =>
            simp only [h1, h2, cond_true] at h
            obtain rfl := Nat.eq_of_beq_eq_true h1
            obtain rfl := Nat.eq_of_beq_eq_true h2
            obtain ⟨sb, so, u, _, _, _, rfl, _, q0, _, r0⟩ := cellA_sound hM hc hp
            obtain ⟨x, ob, hx, _, hob, hor⟩ := hM.obj r _ hr rfl
            have hu : u = .map (some x.b) := by
              cases r0 with
              | refl hs => simp [simple] at hs
              | map hy => rw [hx] at hy; cases hy; rfl
            subst hu
            cases ob with
            | map es' clock' =>
              obtain ⟨e1, e2, e3⟩ := hor
              have hat := esOK_at es 0 h
              have hall : ∀ i (hi : i < es'.size), ∃ a, es[i]? = some a ∧ a.born = es'[i].born ∧ VR σ a.key es'[i].key ∧ VR σ a.val es'[i].val := fun i hi => by
                have hl : i < es.length := by omega
                obtain ⟨g1, g2, g3⟩ := e3 i _ _ (List.getElem?_eq_getElem hl) (Array.getElem?_eq_getElem hi)
                exact ⟨_, List.getElem?_eq_getElem hl, g1, g2, g3⟩
              have hborn : ∀ i (hi : i < es'.size), es'[i].born = i := fun i hi => by
                obtain ⟨a, ha, hb, _⟩ := hall i hi
                have := (hat i a ha).1
                omega
              refine ⟨sb, so, x.b, es', clock', rfl, q0, hob, by omega, fun y hy => ?_, ?_, fun y hy => ?_⟩
              · obtain ⟨i, hi, rfl⟩ := List.getElem_of_mem hy
                have hi' : i < es'.size := by simpa using hi
                have := hborn i hi'
                simp only [Array.getElem_toList]
                omega
              · have : es'.toList.map (·.born) = List.range es'.size := by
                  apply List.ext_getElem
                  · simp
                  · intro i h3 h4
                    simp only [List.getElem_map, Array.getElem_toList, List.getElem_range]
                    exact hborn i (by simpa using h3)
                rw [this]
                exact List.nodup_range
              · obtain ⟨i, hi, rfl⟩ := List.getElem_of_mem hy
                have hi' : i < es'.size := by simpa using hi
                obtain ⟨a, ha, _, hk, hv⟩ := hall i hi'
                obtain ⟨_, ⟨s, hs⟩, hc'⟩ := hat i a ha
                simp only [Array.getElem_toList]
                rw [hs] at hk
                obtain ⟨z, hz⟩ := cnt_at hM hc' hv
                exact ⟨s, z, hk.simple_inv rfl, hz⟩
            | _ => exact hor.elim
      · cases h
    · cases h
  · cases h
set_option maxRecDepth 1000000 in
theorem setsG : allG 80 (fun N => setOK (gseq N) rG (cond (Nat.blt N 64) N 64)) = true := by kernel_rfl
end Go.Proofs.Ytkbbpjknakajeaa
