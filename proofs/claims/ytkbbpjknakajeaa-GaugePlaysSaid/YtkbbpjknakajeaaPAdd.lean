/- A counter counts on, counts up, tells: for the first time or not. -/
import Derived.Test.YtkbbpjknakajeaaPVal
namespace Go.Proofs.Ytkbbpjknakajeaa
open Go Go.AE Go.RowKit
/-- a counter that counts at a place of its own -/
structure Used (w : World) (b yb yo : Nat) (z : Int) : Prop where
  c0 : w.cell? ⟨b, 0, none⟩ = some (.int .u32 1)
  c3 : w.cell? ⟨b, 3, none⟩ = some (.pointer (some ⟨yb, yo, none⟩))
  cz : w.cell? ⟨yb, yo, none⟩ = some (.int .i64 z)
  fz : w.frozen? ⟨yb, yo, none⟩ = false
  ne : b ≠ yb
/-- a world that has grown, and turned at most in two blocks -/
structure Turned (w w' : World) (a b : Nat) : Prop where
  os : w'.os = w.os
  tape : w'.tape = w.tape
  output : w'.output = w.output
  size : w.heap.size ≤ w'.heap.size
  block : ∀ k, k < w.heap.size → k ≠ a → k ≠ b → w'.heap[k]? = w.heap[k]?
theorem Used.lt {w : World} {b yb yo : Nat} {z : Int} (h : Used w b yb yo z) : b < w.heap.size ∧ yb < w.heap.size :=
  ⟨by have := World.block_lt_of_cell? w ⟨b, 0, none⟩ h.c0; simpa using this, by have := World.block_lt_of_cell? w ⟨yb, yo, none⟩ h.cz; simpa using this⟩
theorem Used.same {w w' : World} {b yb yo : Nat} {z : Int} (h : Used w b yb yo z) (h1 : w'.heap[b]? = w.heap[b]?) (h2 : w'.heap[yb]? = w.heap[yb]?) : Used w' b yb yo z :=
  ⟨(World.cell?_of_block (a := ⟨b, 0, none⟩) h1).trans h.c0, (World.cell?_of_block (a := ⟨b, 3, none⟩) h1).trans h.c3, (World.cell?_of_block (a := ⟨yb, yo, none⟩) h2).trans h.cz, (World.frozen?_of_block (a := ⟨yb, yo, none⟩) h2).trans h.fz, h.ne⟩
theorem Used.alloc {w : World} {b yb yo : Nat} {z : Int} (h : Used w b yb yo z) (o : Obj) : Used (w.alloc o) b yb yo z :=
  h.same (Below.heap_alloc _ _ _ h.lt.1) (Below.heap_alloc _ _ _ h.lt.2)
theorem Used.set {w : World} {b yb yo : Nat} {z : Int} (h : Used w b yb yo z) (n : Int) : Used (w.setCell ⟨yb, yo, none⟩ (.int .i64 n)) b yb yo n := by
  have hb : (w.setCell ⟨yb, yo, none⟩ (.int .i64 n)).heap[b]? = w.heap[b]? := by
    have := h.ne
    simp [World.setCell, Array.getElem?_modify, show ¬ yb = b from fun e => this e.symm]
  refine ⟨(World.cell?_of_block (a := ⟨b, 0, none⟩) hb).trans h.c0, (World.cell?_of_block (a := ⟨b, 3, none⟩) hb).trans h.c3, ?_, ?_, h.ne⟩
  · exact World.cell?_setCell_same _ _ _ h.cz
  · rw [World.frozen?_setCell]; exact h.fz
theorem Turned.set {w w1 : World} {a b yb yo : Nat} {z : Int} (h : Turned w w1 a b) (_hu : Used w1 a yb yo z) (hb : b = yb) (n : Int) : Turned w (w1.setCell ⟨yb, yo, none⟩ (.int .i64 n)) a b :=
  ⟨h.os, h.tape, h.output, by simpa [World.setCell] using h.size, fun k hk ha hkb => by
    rw [← h.block k hk ha hkb]
    simp [World.setCell, Array.getElem?_modify, show ¬ yb = k from fun e => hkb (by rw [hb, e])]⟩
/-- a counter: one that has counted, or none has asked for -/
def Cst (w : World) (b yb yo : Nat) (z : Int) : Prop := Used w b yb yo z ∨ (w.heap[b]? = some freshC ∧ z = 0)
/-- where it counts: the place it had, or a new one -/
def At1 (w : World) (b yb yo yb' yo' : Nat) (z : Int) : Prop := (Used w b yb yo z ∧ yb' = yb ∧ yo' = yo) ∨ w.heap.size ≤ yb'
theorem value_c {w : World} {b yb yo : Nat} {z : Int} (h : Cst w b yb yo z) : Calls Try.prog 37 #[.pointer (some ⟨b, 0, none⟩)] w fun x w' => ∃ yb' yo', x = .returned (.pointer (some ⟨yb', yo', none⟩)) ∧ Used w' b yb' yo' z ∧ At1 w b yb yo yb' yo' z ∧ Turned w w' b yb' := by
  rcases h with h | ⟨h, rfl⟩
  · have hmf : ∀ (fn : Fn) (first cap : Array Value) (w : World), (Instr.makeFunc fn first cap).run Try.prog w = .ok (.func fn first cap) w := fun _ _ _ _ => rfl
    have a0 := (h.alloc (.cells #[.pointer (some ⟨b, 0, none⟩)] 34)).c0
    have a3 := (h.alloc (.cells #[.pointer (some ⟨b, 0, none⟩)] 34)).c3
    have HU := Lib.hid h
    clear h
    go_enter Try.func37, Try.ntmps37
    go_wp2_with (go_at_call 50; refine (do_done _ _ _ a0).mono ?_; rintro e w' ⟨rfl, rfl⟩)
    go_ret
    exact ⟨yb, yo, rfl, HU.out.alloc _, .inl ⟨HU.out, rfl, rfl⟩, rfl, rfl, rfl, by simp, fun k hk _ _ => Below.heap_alloc _ _ _ hk⟩
  · refine (value_first w b h).mono ?_
    rintro x w' ⟨yb', yo', rfl, hge, q0, q3, qz, qf, hfr, h1, h2, h3, h4⟩
    have hb : b < w.heap.size := (Array.getElem?_eq_some_iff.1 h).1
    exact ⟨yb', yo', rfl, ⟨q0, q3, qz, qf, by omega⟩, .inr hge, h1, h2, h3, h4, fun k hk hka _ => hfr k hk hka⟩
theorem add38 {w : World} {b yb yo : Nat} {z n : Int} (h : Used w b yb yo z) : Calls Try.prog 38 #[.pointer (some ⟨yb, yo, none⟩), .int .i64 n] w fun x w' => x = .returned (.int .i64 (IntKind.i64.wrap (z + n))) ∧ w' = w.setCell ⟨yb, yo, none⟩ (.int .i64 (IntKind.i64.wrap (z + n))) := by
  have hl := run_call_add (P := Try.prog) Try.func52 (by kernel_rfl) (by kernel_rfl) (by kernel_rfl) .i64 (by kernel_rfl) h.cz h.fz (y := n) (s := IntKind.i64.wrap (z + n)) rfl
  clear h
  generalize IntKind.i64.wrap (z + n) = s at hl ⊢
  go_enter Try.func38, Try.ntmps38
  go_wp2
  go_ret
  exact ⟨rfl, rfl⟩
theorem cas43 {w : World} {b yb yo : Nat} {z n : Int} (h : Used w b yb yo z) : Calls Try.prog 43 #[.pointer (some ⟨yb, yo, none⟩), .int .i64 z, .int .i64 n] w fun x w' => x = .returned (.bool true) ∧ w' = w.setCell ⟨yb, yo, none⟩ (.int .i64 n) := by
  have hl := run_call_cas_hit (P := Try.prog) Try.func57 (by kernel_rfl) (by kernel_rfl) (by kernel_rfl) .i64 (by kernel_rfl) h.cz h.fz (y := n)
  clear h
  go_enter Try.func43, Try.ntmps43
  go_wp2
  go_ret
  exact ⟨rfl, rfl⟩
/-- what is left when a counter has counted -/
def Counted (w : World) (b yb yo : Nat) (z v : Int) (x : Ending) (w' : World) : Prop := x = .returned (.int .i64 v) ∧ ∃ yb' yo', Used w' b yb' yo' v ∧ At1 w b yb yo yb' yo' z ∧ Turned w w' b yb'
theorem add_q {w : World} {b yb yo : Nat} {z : Int} (h : Cst w b yb yo z) (n : Int) : Calls Try.prog 19 #[.pointer (some ⟨b, 0, none⟩), .int .i64 n] w fun x w' => Counted w b yb yo z (IntKind.i64.wrap (z + n)) x w' := by
  have hv := value_c h
  obtain ⟨v, hv1⟩ : ∃ v, IntKind.i64.wrap (z + n) = v := ⟨_, rfl⟩
  rw [hv1]
  have HV := Lib.hid hv1
  clear hv1
  clear h
  go_enter Try.func19, Try.ntmps19
  go_wp2_with (first
    | (go_at_call 37; refine hv.mono ?_; clear hv; rintro e w1 ⟨yb', yo', rfl, hu, ha, ht⟩; have hadd := add38 (n := n) hu; rw [HV.out] at hadd; have HU := Lib.hid (And.intro hu (And.intro ha ht)); clear hu ha ht)
    | (go_at_call 38; refine hadd.mono ?_; clear hadd; rintro e w2 ⟨rfl, rfl⟩))
  go_ret
  exact ⟨rfl, yb', yo', HU.out.1.set _, HU.out.2.1, HU.out.2.2.set HU.out.1 rfl _⟩
theorem max_q {w : World} {b yb yo : Nat} {z : Int} (h : Cst w b yb yo z) (n : Int) : Calls Try.prog 23 #[.pointer (some ⟨b, 0, none⟩), .int .i64 n] w fun x w' => Counted w b yb yo z (max z n) x w' := by
  have hv := value_c h
  clear h
  go_enter Try.func23, Try.ntmps23
  by_cases hzn : z ≥ n
  · rw [show max z n = z by omega]
    go_wp2_with (go_at_call 37; refine hv.mono ?_; clear hv; rintro e w1 ⟨yb', yo', rfl, hu, ha, ht⟩; have hld := load_any _ _ _ hu.cz; have HU := Lib.hid (And.intro hu (And.intro ha ht)); clear hu ha ht)
    go_loopw [6] (fun c wr => wr = w1) (fun _ _ => 0)
    case atStart => rfl
    case round =>
      obtain rfl := hrel
      go_wp2_with (go_at_call 39; refine hld.mono ?_; rintro e w2 ⟨rfl, rfl⟩)
      go_ret
      exact ⟨rfl, yb', yo', HU.out.1, HU.out.2.1, HU.out.2.2⟩
  · rw [show max z n = n by omega]
    go_wp2_with (go_at_call 37; refine hv.mono ?_; clear hv; rintro e w1 ⟨yb', yo', rfl, hu, ha, ht⟩; have hld := load_any _ _ _ hu.cz; have hcas := cas43 (n := n) hu; have HU := Lib.hid (And.intro hu (And.intro ha ht)); clear hu ha ht)
    go_loopw [6] (fun c wr => wr = w1) (fun _ _ => 0)
    case atStart => rfl
    case round =>
      obtain rfl := hrel
      go_wp2_with (first
        | (go_at_call 39; refine hld.mono ?_; rintro e w2 ⟨rfl, rfl⟩)
        | (go_at_call 43; refine hcas.mono ?_; clear hcas; rintro e w2 ⟨rfl, rfl⟩))
      go_ret
      exact ⟨rfl, yb', yo', HU.out.1.set _, HU.out.2.1, HU.out.2.2.set HU.out.1 rfl _⟩
theorem val_q {w : World} {b yb yo : Nat} {z : Int} (h : Used w b yb yo z) : Calls Try.prog 20 #[.pointer (some ⟨b, 0, none⟩)] w fun x w' => x = .returned (.int .i64 z) ∧ ∃ ob, w' = w.alloc ob :=
  value_any b 0 yb yo z w h.c0 h.c3 h.cz h.lt.1 h.lt.2
end Go.Proofs.Ytkbbpjknakajeaa
