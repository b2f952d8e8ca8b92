/- GaugePlays answers true, for every list of acts. -/
import Derived.Test.YtkbbpjknakajeaaPBoth
import Derived.Deep.RegionLaw
namespace Go.Proofs.Ytkbbpjknakajeaa
open Go Go.AE Go.RowKit
theorem set_perm {α : Type} : ∀ {l : List α} {k : Nat} {a : α} (b : α), l[k]? = some a → (l.set k b).Perm (b :: l.eraseIdx k)
  | [], _, _, _, h => by simp at h
  | x :: l, 0, a, b, h => by simp
  | x :: l, k + 1, a, b, h => by
    simp only [List.set_cons_succ, List.eraseIdx_cons_succ]
    exact ((set_perm b (l := l) (k := k) (a := a) (by simpa using h)).cons x).trans (List.Perm.swap b x _)
theorem perm_set {α : Type} {l m : List α} {i j : Nat} {a : α} (b : α) (h : l.Perm m) (hi : l[i]? = some a) (hj : m[j]? = some a) : (l.set i b).Perm (m.set j b) := by
  have h1 := set_perm a hi
  rw [set_self hi] at h1
  have h2 := set_perm a hj
  rw [set_self hj] at h2
  have h3 := (h1.symm.trans (h.trans h2)).cons_inv
  exact (set_perm b hi).trans ((h3.cons b).trans (set_perm b hj).symm)
theorem Pair.fin {w0 w w1 w4 w5 : World} {sb mb rb A k j g cap yb yo : Nat} {s : ByteArray} {q : Value} {e : Ent} {es : List Ent} {L : List (ByteArray × Int)} (h : Pair w0 w w1 sb mb rb A s q k j e g cap es L) (z' : Int)
    (hB : RowKit.Below (w.setCell ⟨g, k * 2 + 1, none⟩ (.int .i64 z')).heap.size (w.setCell ⟨g, k * 2 + 1, none⟩ (.int .i64 z')) w4) (hu : Used w5 e.b yb yo z') (ha : At1 w4 e.b e.yb e.yo yb yo e.z) (ht : Turned w4 w5 e.b yb) :
    Rest w0 w5 sb mb rb (.slice (some ⟨g, 0, none⟩) L.length cap) (es.set j { e with yb := yb, yo := yo, z := z', u := true }) (L.set k (s, z')) := by
  refine ⟨((h.st.val h.hk z').grow hB).cnt h.hj hu ha ht, fun x hx => ?_, ?_, h.srt.set h.hk z', by rw [List.length_set]; exact h.len, fun x hx => ?_⟩
  · obtain ⟨i, hi⟩ := List.getElem?_of_mem hx
    rw [List.getElem?_set] at hi
    split at hi
    · split at hi
      · cases hi; rfl
      · cases hi
    · rename_i hne
      exact h.used i x (fun e1 => hne e1.symm) hi
  · rw [List.map_set]
    refine (perm_set (s, z') h.perm h.hk (j := j) ?_).trans ?_
    · rw [List.getElem?_map, h.hj]
      show some e.nz = _
      rw [← h.en]; rfl
    · rw [← h.en]; exact List.Perm.refl _
  · rcases List.mem_or_eq_of_mem_set hx with hx | rfl
    · exact h.nm x hx
    · exact h.nm (s, e.z) (List.mem_of_getElem? h.hk)
theorem Pair.keep {w0 w w1 w4 w5 : World} {sb mb rb A k j g cap yb yo : Nat} {s : ByteArray} {q : Value} {e : Ent} {es : List Ent} {L : List (ByteArray × Int)} (h : Pair w0 w w1 sb mb rb A s q k j e g cap es L) {z' : Int}
    (hB : RowKit.Below (w.setCell ⟨g, k * 2 + 1, none⟩ (.int .i64 z')).heap.size (w.setCell ⟨g, k * 2 + 1, none⟩ (.int .i64 z')) w4) (ha : At1 w4 e.b e.yb e.yo yb yo e.z) (ht : Turned w4 w5 e.b yb) : w5.heap[A]? = w4.heap[A]? := by
  have h4 := (h.st.val h.hk z').grow hB
  have hsz : A < w4.heap.size := by have := h.szA; have := hB.size; simp [World.setCell] at this; omega
  have hem : e ∈ es := List.mem_of_getElem? h.hj
  have hbA : A ≠ e.b := fun e1 => h.fA (e1 ▸ List.mem_flatMap.2 ⟨e, hem, by unfold Ent.fp; split <;> simp⟩)
  refine ht.block A hsz hbA (fun e1 => ?_)
  rcases ha with ⟨hu0, h1, _⟩ | h1
  · cases hc : e.u with
    | true => exact h.fA (e1 ▸ h1 ▸ List.mem_flatMap.2 ⟨e, hem, by unfold Ent.fp; rw [hc]; simp⟩)
    | false =>
      have := h4.ents e hem
      unfold Ent.at_ at this
      rw [hc] at this
      simp only [Bool.false_eq_true, if_false] at this
      have c0 := hu0.c0
      have hcc : w4.cell? ⟨e.b, 0, none⟩ = some (.int .u32 0) := by
        unfold World.cell?
        simp [this.1, freshC]
      rw [hcc] at c0
      cases c0
  · omega
/-- what may be asked of a counter while both stand -/
theorem Pair.cells {w0 w w1 : World} {sb mb rb A k j g cap : Nat} {s : ByteArray} {q : Value} {e : Ent} {es : List Ent} {L : List (ByteArray × Int)} (h : Pair w0 w w1 sb mb rb A s q k j e g cap es L) :
    w.cell? ⟨rb, 0, none⟩ = some (.slice (some ⟨g, 0, none⟩) L.length cap) ∧ w.cell? ⟨g, k * 2 + 1, none⟩ = some (.int .i64 e.z) ∧ w.frozen? ⟨g, k * 2 + 1, none⟩ = false ∧ k < L.length ∧ rb ≠ g ∧ g < w.heap.size :=
  ⟨h.st.rcell, (cells_of2 h.st.row h.hk).2, h.st.row.frozenAt _, (List.getElem?_eq_some_iff.1 h.hk).1, (h.st.ow g rfl).2.2.1.symm, (h.st.row.lt g rfl).2⟩
theorem fin_cell {w0 w : World} {sb mb rb g cap k : Nat} {s : ByteArray} {z z' : Int} {es : List Ent} {L : List (ByteArray × Int)} (h : Rest w0 w sb mb rb (.slice (some ⟨g, 0, none⟩) L.length cap) es (L.set k (s, z'))) (hk : L[k]? = some (s, z)) : w.cell? ⟨g, k * 2 + 1, none⟩ = some (.int .i64 z') ∧ g < w.heap.size := by
  have hr := h.st.row
  rw [List.length_set] at hr
  have hkl := (List.getElem?_eq_some_iff.1 hk).1
  have h1 := hr.cellAt (k * 2 + 1) (by omega)
  rw [(flatG_name2 (L.set k (s, z')) k (s, z') (by rw [List.getElem?_set_self hkl])).2] at h1
  exact ⟨h1, (hr.lt g rfl).2⟩
/-- an act that came in -/
def InAct (w : World) (blk off i : Nat) : Prop := ∃ (kd : Nat) (s : ByteArray) (n : Int), kd < 256 ∧ w.cell? ⟨blk, off + i * 3, none⟩ = some (.int .u8 kd) ∧ w.cell? ⟨blk, off + i * 3 + 1, none⟩ = some (.string s) ∧ w.cell? ⟨blk, off + i * 3 + 2, none⟩ = some (.int .i64 n)
theorem rest0 {w0 w : World} {sb mb rb : Nat} (hB : RowKit.Below w0.heap.size w0 w) (hs : w.cell? ⟨sb, 0, none⟩ = some (.map (some mb))) (hm : w.heap[mb]? = some (.map #[] 0)) (hr : w.cell? ⟨rb, 0, none⟩ = some (.slice none 0 0)) (hf : w.frozen? ⟨rb, 0, none⟩ = false)
    (h1 : sb ≠ mb) (h2 : sb ≠ rb) (h3 : mb ≠ rb) (k1 : w0.heap.size ≤ sb) (k2 : w0.heap.size ≤ mb) (k3 : w0.heap.size ≤ rb) : Rest w0 w sb mb rb (.slice none 0 0) [] [] :=
  ⟨⟨hB, hs, hm, hr, hf, World.ownsRow_nil _ _ _ _, (fun e he => by cases he), (by simp), (fun x hx => by simp at hx), h1, h2, h3, k1, k2, k3, (by simp), (by simp), (by simp), (fun g hg => by cases hg)⟩, (fun e he => by cases he), List.Perm.refl _, List.Pairwise.nil, (by simp), (fun x hx => by cases hx)⟩
set_option maxRecDepth 1000000 in
set_option maxHeartbeats 6400000 in
theorem plays_law (al : Option Addr) (n cl : Nat) (w : World) (hin : ∀ i, i < n → ∃ blk off, al = some ⟨blk, off, none⟩ ∧ blk < w.heap.size ∧ InAct w blk off i) (h200 : n ≤ 200) :
    Calls Try.prog 6 #[.slice al n cl] w fun e w' => e = .returned (.bool true) ∧ RowKit.Below w.heap.size w w' := by
  have h0 : ¬ (n : Int) > 200 := by omega
  have HIN := Lib.hid hin
  clear hin
  go_enter Try.func6, Try.ntmps6
  go_wp2_with (first
    | (go_at_call 16; refine (gauge_fixed _).mono ?_; rintro e w1 ⟨rfl, hB1⟩; have HB1 := Lib.hid hB1; clear hB1)
    | (go_at_call 17; refine (new_c _).mono ?_; rintro e w2 ⟨sb, mb, rfl, n1, n2, n3, n4, n5, n6, n7, n8⟩; have HN := Lib.hid (And.intro n1 (And.intro n2 (And.intro n3 (And.intro n4 (And.intro n5 (And.intro n6 (And.intro n7 n8))))))); clear n1 n2 n3 n4 n5 n6 n7 n8))
  have hR0 : Rest w (w2.alloc (.cells #[.slice none 0 0] 45)) sb mb w2.heap.size (.slice none 0 0) [] [] := by
    obtain ⟨n1, n2, n3, n4, n5, n6, n7, n8⟩ := HN.out
    have hs1 := HB1.out.size
    refine rest0 ((HB1.out.trans (n8.mono hs1)).alloc (Nat.le_trans hs1 n8.size) _) ?_ ?_ (by simp) (by simp) n3 (by omega) (by omega) (by omega) (by omega) (Nat.le_trans hs1 n8.size)
    · rw [World.cell?_alloc_lt _ _ _ n4]; exact n6
    · rw [Below.heap_alloc _ _ _ n5]; exact n7
  have HR0 := Lib.hid hR0
  obtain ⟨rb, hrb⟩ : ∃ rb, w2.heap.size = rb := ⟨_, rfl⟩
  rw [hrb] at HR0 ⊢
  clear hR0 HN
  go_loopw [22] (fun v wr => ∃ i : Nat, v = .int .i64 i ∧ i ≤ n ∧ Hid (∃ v es L, Rest w wr sb mb rb v es L)) (fun v _ => n - (intOf v).toNat)
  case atStart => exact ⟨0, rfl, Nat.zero_le _, Lib.hid ⟨_, _, _, HR0.out⟩⟩
  case round =>
    obtain ⟨i, rfl, hi, hX⟩ := hrel
    obtain ⟨v, es, L, hR⟩ := hX.out
    clear hX
    have HR := Lib.hid hR
    by_cases hlt : i < n
    · obtain ⟨blk, off, rfl, hblk, kd, s, N, hkd, i0, i1, i2⟩ := HIN.out i hlt
      have h1 : (i : Int) < (n : Int) := by omega
      have h2 : (0 : Int) ≤ (i : Int) := by omega
      have hwr : w.heap.size ≤ wr.heap.size := hR.st.hB.size
      have i0 := (hR.st.hB.cell (p := ⟨blk, off + i * 3, none⟩) hblk).trans i0
      have i1 := (hR.st.hB.cell (p := ⟨blk, off + i * 3 + 1, none⟩) hblk).trans i1
      have i2 := (hR.st.hB.cell (p := ⟨blk, off + i * 3 + 2, none⟩) hblk).trans i2
      clear hR
      by_cases h100 : (s.size : Int) > 100
      · go_wp2
        go_ret
        exact ⟨rfl, HR.out.st.hB.alloc hwr _⟩
      · have hR1 := HR.out.grow ((Below.refl wr.heap.size wr).alloc (Nat.le_refl _) (.cells #[.int .u8 kd, .string s, .int .i64 N] 47))
        have c18 := counter_any sb 0 mb (es.map Ent.nb) _ hR1.st.set (by have := hR1.st.map; simpa using this) s
        have HR1 := Lib.hid hR1
        clear hR1
        have hsz1 : (wr.alloc (.cells #[.int .u8 kd, .string s, .int .i64 N] 47)).heap.size = wr.heap.size + 1 := by simp
        obtain ⟨W1, hW1⟩ : ∃ W1, wr.alloc (.cells #[.int .u8 kd, .string s, .int .i64 N] 47) = W1 := ⟨_, rfl⟩
        have hAb : W1.heap[wr.heap.size]? = some (.cells #[.int .u8 kd, .string s, .int .i64 N] 47) := by
          rw [← hW1]
          show (wr.heap.push _)[wr.heap.size]? = _
          rw [Array.getElem?_push_size]
        have a0 : W1.cell? ⟨wr.heap.size, 1, none⟩ = some (.string s) := by unfold World.cell?; simp [hAb]
        have hWB : RowKit.Below w.heap.size w W1 := by rw [← hW1]; exact HR.out.st.hB.alloc hwr _
        rw [hW1] at c18 HR1 hsz1
        obtain ⟨A, hA0⟩ : ∃ A, wr.heap.size = A := ⟨_, rfl⟩
        have hfree : A < W1.heap.size ∧ A ≠ mb ∧ A ≠ rb ∧ (∀ g, v.ownBlock = some g → g ≠ A) ∧ A ∉ es.flatMap Ent.fp := by
          obtain ⟨l1, l2, l3, l4, l5⟩ := HR.out.st.lts
          exact ⟨by omega, by omega, by omega, fun g hg => by have := l4 g hg; omega, fun hx => by have := l5 A hx; omega⟩
        have HF := Lib.hid hfree
        rw [hA0] at hAb a0 hsz1
        have HAb := Lib.hid hAb
        have HWB := Lib.hid hWB
        have HS1 := Lib.hid hsz1
        clear hAb hfree hWB hsz1
        go_wp2_with (go_at_call 18; refine c18.mono ?_; clear c18; rintro e w3 hA; obtain ⟨q, err, rfl⟩ := asked_form hA; have b0 := (asked_frame hA).2 A HF.out.1 HF.out.2.1; rw [HAb.out] at b0; have b1 : w3.cell? ⟨A, 1, none⟩ = some (.string s) := (by unfold World.cell?; simp [b0]); have HA := Lib.hid hA; have HB0 := Lib.hid b0; clear hA b0)

        obtain ⟨es2, hst3⟩ := asked_stt HR1.out.st HA.out
        refine (at_any rb L v w.heap.size w3 hst3.rcell hst3.rfro hst3.row HR1.out.len s (by omega)).mono ?_
        rintro x w4 hT
        rcases both HR1.out HA.out hT HF.out.1 HF.out.2.1 HF.out.2.2.1 HF.out.2.2.2.1 HF.out.2.2.2.2 with ⟨herr, rfl, hR4⟩ | ⟨rfl, k, j, e, g, cap, es3, L3, rfl, hP⟩
        · have HR4 := Lib.hid hR4
          clear hR4 hT hst3 b1 a0 hW1 hA0
          rcases herr with rfl | rfl
          all_goals go_wp2
          all_goals go_roundw
          all_goals first
            | exact ⟨i + 1, by go_num, by omega, Lib.hid ⟨_, _, _, HR4.out⟩⟩
            | (simp [intOf]; omega)
        · have hAb := hP.hA.trans HAb.out
          have a1 : w4.cell? ⟨A, 0, none⟩ = some (.int .u8 kd) := by unfold World.cell?; simp [hAb]
          have a2 : w4.cell? ⟨A, 2, none⟩ = some (.int .i64 N) := by unfold World.cell?; simp [hAb]
          obtain ⟨p1, p2, p3, p4, p5, p6⟩ := hP.cells
          have hk1 : (k : Int) < (L3.length : Int) := by omega
          have hk2 : (0 : Int) ≤ (k : Int) := by omega
          have hgA := hP.gA
          obtain ⟨z, hz⟩ : ∃ z, e.z = z := ⟨_, rfl⟩
          rw [hz] at p2
          have HP := Lib.hid (And.intro hP hz)
          clear hAb hT hst3 b1 a0 hW1 hA0 hP hz
          have hq := HP.out.1.hq
          subst hq
          by_cases hk0 : kd % 2 = 0
          · have hr : (kd : Int).tmod 2 = 0 := by rw [Int.tmod_eq_emod_of_nonneg (by omega)]; omega
            obtain ⟨z', hz'⟩ : ∃ z', IntKind.i64.wrap (z + N) = z' := ⟨_, rfl⟩
            go_wp2_with fail
            go_region
            all_goals
              obtain ⟨W5, hW5⟩ : ∃ W5, (w4.setCell ⟨g, k * 2 + 1, none⟩ (.int .i64 z')).drew = W5 := ⟨_, rfl⟩
              have b2 : W5.cell? ⟨A, 2, none⟩ = some (.int .i64 N) := by rw [← hW5]; exact (World.cell?_setCell_far w4 _ _ _ hgA).trans a2
              have b1 : W5.cell? ⟨g, k * 2 + 1, none⟩ = some (.int .i64 z') := by rw [← hW5]; exact World.cell?_setCell_same _ _ _ p2
              have hB5 : RowKit.Below (w4.setCell ⟨g, k * 2 + 1, none⟩ (.int .i64 z')).heap.size (w4.setCell ⟨g, k * 2 + 1, none⟩ (.int .i64 z')) W5.drew := by rw [← hW5]; exact (Below.refl _ _).drew.drew
              have hcst := (((HP.out.1.st.val HP.out.1.hk z').grow hB5).ents e (List.mem_of_getElem? HP.out.1.hj)).cst
              have c19 := add_q hcst N
              rw [HP.out.2, hz'] at c19
              have HB5 := Lib.hid hB5
              simp only [hW5]
              clear hB5 hcst a1 a2 p1 p2 p3 hz'
              go_wp2_with fail
              go_region_held3 (fun W => W.cell? ⟨g, k * 2 + 1, none⟩ = some (.int .i64 z') ∧ W.cell? ⟨A, 2, none⟩ = some (.int .i64 N)) (first | exact ⟨b1, b2⟩ | exact ⟨g6, b6⟩)
                ((go_at_call 19; refine c19.mono ?_; clear c19; rintro x6 w6 ⟨rfl, yb', yo', hu, ha, ht⟩; have b6 := (World.cell?_of_block (a := ⟨A, 2, none⟩) (HP.out.1.keep HB5.out (by rw [HP.out.2]; exact ha) ht)).trans b2; have hfin := HP.out.1.fin z' HB5.out hu (by rw [HP.out.2]; exact ha) ht; have g6 := (fin_cell hfin HP.out.1.hk).1; have g7 := (fin_cell hfin HP.out.1.hk).2; have HFIN := Lib.hid hfin; have hud : Used w6.drew e.b yb' yo' z' := hu.same rfl rfl; have c20 := val_q hud; clear hu hud ha ht hfin))
              clear b1 b2 hgA
              go_wp2_with fail
              go_region_held3 (fun W => W.cell? ⟨g, k * 2 + 1, none⟩ = some (.int .i64 z')) (first | exact g6 | exact (World.cell?_alloc_lt _ _ _ g7).trans g6)
                ((go_at_call 20; refine c20.mono ?_; clear c20; rintro x7 w7 ⟨rfl, ob, rfl⟩))
              go_wp2
              go_roundw
              case rel => exact ⟨i + 1, by go_num, by omega, Lib.hid ⟨_, _, _, HFIN.out.grow ((Below.refl _ _).drew.alloc (Nat.le_refl _) _)⟩⟩
              case measure => simp [intOf]; omega
          · have hr : (kd : Int).tmod 2 = 1 := by rw [Int.tmod_eq_emod_of_nonneg (by omega)]; omega
            obtain ⟨z', hz'⟩ : ∃ z', max z N = z' := ⟨_, rfl⟩
            go_wp2_with fail
            go_region
            all_goals
              obtain ⟨W5, hW5⟩ : ∃ W5, (w4.setCell ⟨g, k * 2 + 1, none⟩ (.int .i64 z')).drew = W5 := ⟨_, rfl⟩
              have b2 : W5.cell? ⟨A, 2, none⟩ = some (.int .i64 N) := by rw [← hW5]; exact (World.cell?_setCell_far w4 _ _ _ hgA).trans a2
              have b1 : W5.cell? ⟨g, k * 2 + 1, none⟩ = some (.int .i64 z') := by rw [← hW5]; exact World.cell?_setCell_same _ _ _ p2
              have hB5 : RowKit.Below (w4.setCell ⟨g, k * 2 + 1, none⟩ (.int .i64 z')).heap.size (w4.setCell ⟨g, k * 2 + 1, none⟩ (.int .i64 z')) W5.drew := by rw [← hW5]; exact (Below.refl _ _).drew.drew
              have hcst := (((HP.out.1.st.val HP.out.1.hk z').grow hB5).ents e (List.mem_of_getElem? HP.out.1.hj)).cst
              have c23 := max_q hcst N
              rw [HP.out.2, hz'] at c23
              have HB5 := Lib.hid hB5
              simp only [hW5]
              clear hB5 hcst a1 a2 p1 p2 p3 hz'
              go_wp2_with fail
              go_region_held3 (fun W => W.cell? ⟨g, k * 2 + 1, none⟩ = some (.int .i64 z') ∧ W.cell? ⟨A, 2, none⟩ = some (.int .i64 N)) (first | exact ⟨b1, b2⟩ | exact ⟨g6, b6⟩)
                ((go_at_call 23; refine c23.mono ?_; clear c23; rintro x6 w6 ⟨rfl, yb', yo', hu, ha, ht⟩; have b6 := (World.cell?_of_block (a := ⟨A, 2, none⟩) (HP.out.1.keep HB5.out (by rw [HP.out.2]; exact ha) ht)).trans b2; have hfin := HP.out.1.fin z' HB5.out hu (by rw [HP.out.2]; exact ha) ht; have g6 := (fin_cell hfin HP.out.1.hk).1; have g7 := (fin_cell hfin HP.out.1.hk).2; have HFIN := Lib.hid hfin; have hud : Used w6.drew e.b yb' yo' z' := hu.same rfl rfl; have c20 := val_q hud; clear hu hud ha ht hfin))
              clear b1 b2 hgA
              go_wp2_with fail
              go_region_held3 (fun W => W.cell? ⟨g, k * 2 + 1, none⟩ = some (.int .i64 z')) (first | exact g6 | exact (World.cell?_alloc_lt _ _ _ g7).trans g6)
                ((go_at_call 20; refine c20.mono ?_; clear c20; rintro x7 w7 ⟨rfl, ob, rfl⟩))
              go_wp2
              go_roundw
              case rel => exact ⟨i + 1, by go_num, by omega, Lib.hid ⟨_, _, _, HFIN.out.grow ((Below.refl _ _).drew.alloc (Nat.le_refl _) _)⟩⟩
              case measure => simp [intOf]; omega
    · obtain rfl : i = n := by omega
      have hlen := HR.out.length
      have hle : es.length ≤ 1000 := by have := HR.out.len; omega
      have hLe : L.length ≤ 1000 := by omega
      have hD := HR.out.grow ((Below.refl wr.heap.size wr).drew)
      have c21 := all_L hD.st hD.used hD.perm hD.srt hle
      have r0 := hD.st.rcell
      have HD := Lib.hid hD
      clear hD hR
      go_wp2_with fail
      go_region_held3 (fun W => W.cell? ⟨rb, 0, none⟩ = some v) (first | exact r0 | exact r6 | exact r7 | exact r8 | exact r9)
        ((first
          | (go_at_call 21; refine c21.mono ?_; clear c21; rintro x6 w6 ⟨a, rfl, hra, hB6⟩; have hR6 := HD.out.grow hB6; have r6 := hR6.st.rcell; have c24 := same_any a v L w6 hra (rd_of_own hR6.st.row) hLe; have HR6 := Lib.hid hR6; clear hR6 hra hB6)
          | (go_at_call 24; refine c24.mono ?_; clear c24; rintro x7 w7 ⟨rfl, hB7⟩; have hR7 := HR6.out.grow hB7; have r7 := hR7.st.rcell; have c25 := sumS_any hR7.st hR7.used hR7.perm hR7.srt hle; have HR7 := Lib.hid hR7; clear hR7 hB7)
          | (go_at_call 25; refine c25.mono ?_; clear c25; rintro x8 w8 ⟨rfl, hB8⟩; have hR8 := HR7.out.grow hB8; have r8 := hR8.st.rcell; have c26 := sumR_any rb v L w8 r8 (rd_of_own hR8.st.row) hLe; have HR8 := Lib.hid hR8; clear hR8 hB8)
          | (go_at_call 26; refine c26.mono ?_; clear c26; rintro x9 w9 ⟨rfl, hB9⟩; have hR9 := HR8.out.grow hB9; have r9 := hR9.st.rcell; have HR9 := Lib.hid hR9; clear hR9 hB9)))
      go_wp2
      go_ret
      exact ⟨by simp, HR9.out.st.hB⟩
theorem plays_long (al : Option Addr) (n cl : Nat) (w : World) (h200 : 200 < n) : Calls Try.prog 6 #[.slice al n cl] w fun e w' => e = .returned (.bool true) ∧ RowKit.Below w.heap.size w w' := by
  have h0 : (n : Int) > 200 := by omega
  go_enter Try.func6, Try.ntmps6
  go_wp2_with (go_at_call 16; refine (gauge_fixed _).mono ?_; rintro e w1 ⟨rfl, hB1⟩; have HB1 := Lib.hid hB1; clear hB1)
  go_ret
  exact ⟨rfl, HB1.out⟩
end Go.Proofs.Ytkbbpjknakajeaa
