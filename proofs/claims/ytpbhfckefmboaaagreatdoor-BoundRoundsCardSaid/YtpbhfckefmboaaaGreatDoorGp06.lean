/- ScA, ScB, MbE, ScC, StA: in one text. -/
import Derived.Test.YtpbhfckefmboaaaGreatDoorGp05
set_option linter.unusedVariables false
set_option linter.unusedSimpArgs false
set_option linter.unusedSectionVars false
namespace Go.Proofs.YtpbhfckefmboaaaGreatDoor.Ba
open Go Go.RowKit Go.Lib Go.Base
theorem info_pact : (Tryz.prog.info? 119).map (fun i => (i.zero, i.size, i.bytes)) = some (some (.pointer none), 1, 8) := by kernel_rfl
/-- a pointer to a block -/
def ptrV (a : Nat) : Value := .pointer (some ⟨a, 0, none⟩)
/-- the scheduler's world: its buffer, its actors, its clock and its trace -/
def WldR (w : World) (S P : Nat) (clock : Int) (tr : Value) (As : List Nat) : Prop := ∃ v, w.heap[S]? = some (.cells #[.pointer (some ⟨P, 0, none⟩), v, .int .i64 clock, tr] 116) ∧ w.ownsRow (S + 1) 119 1 v As.length (As.map ptrV)
/-- actors, each over its machine, none killed -/
def ActsR (w : World) (S : Nat) (As : List Nat) (Ms : List (TypeId × Value)) : Prop := As.length = Ms.length ∧ ∀ (j a : Nat) (m : TypeId × Value), As[j]? = some a → Ms[j]? = some m → S < a ∧ ActR w a (.iface m.1 m.2) false
theorem ActsR.below {w w' : World} {S n : Nat} {As : List Nat} {Ms : List (TypeId × Value)} (h : ActsR w S As Ms) (hb : Below n w w') (hn : w.heap.size ≤ n) : ActsR w' S As Ms := by
  refine ⟨h.1, fun j a m h1 h2 => ?_⟩
  obtain ⟨h3, h4⟩ := h.2 j a m h1 h2
  exact ⟨h3, (hb.block a (Nat.lt_of_lt_of_le (Array.getElem?_eq_some_iff.1 h4).1 hn)).trans h4⟩
theorem own_act {w : World} {a n0 n : Nat} {v m : Value} {d : Bool} {xs : List Value} (h : w.ownsRow n0 119 1 v n xs) (ht : ActR w a m d) : v.ownBlock ≠ some a := by
  rcases h.2 with ⟨rfl, -⟩ | ⟨g, cap, cur, rfl, hg, ho, -⟩
  · intro e; cases e
  · intro e
    have : g = a := by simpa [Value.ownBlock] using e
    subst this
    unfold ActR at ht
    rw [ht] at ho
    injection ho with ho
    injection ho with _ h2 _
    revert h2
    decide
/-- what a round of New leaves -/
theorem act_add {w V W1 W2 w3 : World} {n0 S P A : Nat} {v v' : Value} {As : List Nat} {Ms : List (TypeId × Value)} {m : TypeId × Value} (hA : V.heap.size = A) (hS : n0 ≤ S) (hb : Below n0 w V) (r : V.heap[S]? = some (.cells #[.pointer (some ⟨P, 0, none⟩), v, .int .i64 0, .slice none 0 0] 116)) (ho : V.ownsRow (S + 1) 119 1 v As.length (As.map ptrV)) (ha : ActsR V S As Ms) (h1 : V.alloc (.cells #[.iface m.1 m.2, .bool false] 121) = W1) (h2 : W1.alloc (.cells #[.pointer (some ⟨A, 0, none⟩)] 119) = W2)
    (hg : W2.grownBy w3 v.ownBlock) (ho' : w3.ownsRow (S + 1) 119 1 v' (As.length + 1) (As.map ptrV ++ [.pointer (some ⟨A, 0, none⟩)])) :
    Below n0 w (w3.setCell ⟨S, 1, none⟩ v') ∧ WldR (w3.setCell ⟨S, 1, none⟩ v') S P 0 (.slice none 0 0) (As ++ [A]) ∧ ActsR (w3.setCell ⟨S, 1, none⟩ v') S (As ++ [A]) (Ms ++ [m]) ∧ w3.heap[S]? = some (.cells #[.pointer (some ⟨P, 0, none⟩), v, .int .i64 0, .slice none 0 0] 116) := by
  obtain ⟨b1, r1, s1⟩ := at_new h1
  obtain ⟨b2, r2, s2⟩ := at_new h2
  rw [hA] at b1 r1 s1
  rw [s1] at b2 r2 s2
  have hSA : S < A := hA ▸ (Array.getElem?_eq_some_iff.1 r).1
  have e2 : ∀ k, k < A → W2.heap[k]? = V.heap[k]? := fun k hk => (b2.block k (by omega)).trans (b1.block k hk)
  have e2A : W2.heap[A]? = some (.cells #[.iface m.1 m.2, .bool false] 121) := (b2.block A (by omega)).trans r1
  have hvS : v.ownBlock ≠ some S := fun e => by have := (ho.lt S e).1; omega
  have hvA : v.ownBlock ≠ some A := fun e => by have := (ho.lt A e).2; omega
  have k3 : w3.heap[S]? = _ := (hg.block S (by omega) (fun e => hvS e.symm)).trans ((e2 S hSA).trans r)
  have k3A : w3.heap[A]? = _ := (hg.block A (by omega) (fun e => hvA e.symm)).trans e2A
  have hbg : Below n0 w w3 := (hb.trans ((b1.mono (by have := hb.size; omega)).trans (b2.mono (by have := hb.size; omega)))).grown hg (by have := hb.size; omega) (fun g hgo => by have := (ho.lt g hgo).1; omega)
  have hl3 : ∀ e, v'.ownBlock = some e → S < e := fun e he => by have := (ho'.lt e he).1; omega
  refine ⟨below_set hbg hS, ⟨v', ?_, ?_⟩, ⟨by simp [ha.1], fun j a m' hj hm => ?_⟩, k3⟩
  · exact set7 k3 1 _
  · rw [List.map_append, List.length_append]
    exact own_at ho' fun g hgo => set_other (by have := hl3 g hgo; omega)
  · by_cases hlt : j < As.length
    · rw [List.getElem?_append_left hlt] at hj
      rw [List.getElem?_append_left (by rw [← ha.1]; exact hlt)] at hm
      obtain ⟨q1, q2⟩ := ha.2 j a m' hj hm
      refine ⟨q1, ?_⟩
      have hal : a < A := hA ▸ (Array.getElem?_eq_some_iff.1 (show V.heap[a]? = _ from q2)).1
      have hva := own_act ho q2
      exact (set_other (by omega)).trans ((hg.block a (by omega) (fun e => hva e.symm)).trans ((e2 a hal).trans q2))
    · have hj2 := (List.getElem?_eq_some_iff.1 hj).1
      simp at hj2
      obtain rfl : j = As.length := by omega
      rw [List.getElem?_append_right (Nat.le_refl _), Nat.sub_self] at hj
      rw [ha.1, List.getElem?_append_right (Nat.le_refl _), Nat.sub_self] at hm
      injection hj with hj
      injection hm with hm
      subst hj hm
      exact ⟨hSA, (set_other (by omega)).trans k3A⟩
end Go.Proofs.YtpbhfckefmboaaaGreatDoor.Ba
namespace Go.Proofs.YtpbhfckefmboaaaGreatDoor.Ba
open Go Go.RowKit Go.Lib Go.Base
set_option maxRecDepth 100000 in
set_option maxHeartbeats 3200000 in
theorem snew_any {w : World} {P : Nat} {ga : Option Addr} {cap : Nat} {Ms : List (TypeId × Value)} (hM : Ms.length ≤ 1000) (hm : ∀ j m, Ms[j]? = some m → ∃ gb go, ga = some ⟨gb, go, none⟩ ∧ gb < w.heap.size ∧ w.cell? ⟨gb, go + j, none⟩ = some (.iface m.1 m.2)) :
    Calls Tryz.prog 29 #[.pointer (some ⟨P, 0, none⟩), .slice ga Ms.length cap] w fun e w' => ∃ S As, e = .returned (.pointer (some ⟨S, 0, none⟩)) ∧ Below w.heap.size w w' ∧ w.heap.size ≤ S ∧ WldR w' S P 0 (.slice none 0 0) As ∧ ActsR w' S As Ms := by
  obtain ⟨i0, hi, hz0, hz1, hz2⟩ := info_parts info_pact
  obtain ⟨S, hS⟩ : ∃ S, w.heap.size = S := ⟨_, rfl⟩
  obtain ⟨W0, hW0⟩ : ∃ V, w.alloc (.cells #[.pointer (some ⟨P, 0, none⟩), .slice none 0 0, .int .i64 0, .slice none 0 0] 116) = V := ⟨_, rfl⟩
  obtain ⟨b0, r0, s0⟩ := at_new hW0
  have H0 := Lib.hid (And.intro hm (show Below S w W0 ∧ WldR W0 S P 0 (.slice none 0 0) [] ∧ ActsR W0 S [] (Ms.take 0) from ⟨hS ▸ b0, ⟨_, hS ▸ r0, ⟨rfl, .inl ⟨rfl, rfl⟩⟩⟩, ⟨rfl, fun j a m h => by simp at h⟩⟩))
  have hM2 : (Ms.length : Int) ≤ 1000 := by omega
  clear hm b0 r0 s0
  go_enter Tryz.func29, Tryz.ntmps29
  go_wp2_with fail
  go_loopw [13] (fun ii wr => ∃ i : Nat, ii = .int .i64 (i : Int) ∧ i ≤ Ms.length ∧ ∃ As, Hid (Below S w wr ∧ WldR wr S P 0 (.slice none 0 0) As ∧ ActsR wr S As (Ms.take i))) (fun ii _ => ((2000 : Int) - intOf ii).toNat)
  case atStart => exact ⟨0, rfl, Nat.zero_le _, [], Lib.hid H0.out.2⟩
  case round =>
    obtain ⟨i, rfl, hi2, As, HS⟩ := hrel
    by_cases hlt : i < Ms.length
    · obtain ⟨⟨t, x⟩, hmi⟩ : ∃ m, Ms[i]? = some m := ⟨Ms[i], List.getElem?_eq_getElem hlt⟩
      obtain ⟨gb, go, rfl, hgb, cm⟩ := H0.out.1 i _ hmi
      have k1 : wr.cell? ⟨gb, go + i, none⟩ = some (.iface t x) := (HS.out.1.cell (p := ⟨gb, go + i, none⟩) (hS ▸ hgb)).trans cm
      obtain ⟨v, hr, ho⟩ := HS.out.2.1
      obtain ⟨va, vn, vc, rfl⟩ := own_slc ho
      have k2 : wr.cell? ⟨S, 1, none⟩ = some (.slice va vn vc) := by simp [World.cell?, hr]
      have z2 : wr.frozen? ⟨S, 1, none⟩ = false := by simp [World.frozen?, hr]
      obtain ⟨A, hA⟩ : ∃ A, wr.heap.size = A := ⟨_, rfl⟩
      obtain ⟨W1, hW1⟩ : ∃ V, wr.alloc (.cells #[.iface t x, .bool false] 121) = V := ⟨_, rfl⟩
      obtain ⟨W2, hW2⟩ : ∃ V, W1.alloc (.cells #[.pointer (some ⟨A, 0, none⟩)] 119) = V := ⟨_, rfl⟩
      have s1 : W1.heap.size = A + 1 := hA ▸ (at_new hW1).2.2
      have r2 := (at_new hW2).2.1
      rw [s1] at r2
      have ho2 : W2.ownsRow (S + 1) 119 1 (.slice va vn vc) As.length (As.map ptrV) := hW2 ▸ ((hW1 ▸ ho.alloc _ : W1.ownsRow _ _ _ _ _ _).alloc _)
      have hlen : As.length = i := by rw [HS.out.2.2.1, List.length_take]; omega
      have h0 : (0 : Int) ≤ (i : Int) := by omega
      have h1 : (i : Int) < (Ms.length : Int) := by omega
      have qi : IntKind.i64.wrap ((i : Int) + 1) = (i : Int) + 1 := wrap_small _ (by omega) (by omega)
      have HH := Lib.hid (And.intro hr (And.intro ho (And.intro hW1 (And.intro hW2 (And.intro r2 (And.intro ho2 (And.intro hmi (And.intro hA hlen))))))))
      clear hr ho r2 ho2 hmi cm hgb
      go_wp2_with (first
        | (at_builtin; refine wpList_append_own _ rfl _ _ 114 rfl (S + 1) 119 i0 _ 1 8 Tryz.underlying114 hi hz0 hz1 hz2 rfl (by decide) _ As.length _ rfl HH.out.2.2.2.2.2.1 ⟨A + 1, 0, none⟩ 1 1 [.pointer (some ⟨A, 0, none⟩)] rfl rfl ?k1 ?k2 ?k3 ?k4 ?k5 ?_))
      case k1 =>
        intro j u hj
        rw [Addr.add_lit, Nat.zero_add]
        have hjl := (List.getElem?_eq_some_iff.1 hj).1
        obtain rfl : j = 0 := by simpa using hjl
        simp only [World.cell?, HH.out.2.2.2.2.1]
        exact hj
      case k2 => intro u hu; cases List.mem_singleton.1 hu; rfl
      case k3 => have := HH.out.2.2.2.2.2.2.2.2; unfold maxLen; omega
      case k4 => have := HH.out.2.2.2.2.2.2.2.2; omega
      case k5 => have := (at_new hW2).2.2; have := (Array.getElem?_eq_some_iff.1 HH.out.1).1; omega
      intro v' w3 hown' hgrow _
      obtain ⟨va', vn', vc', rfl⟩ := own_slc hown'
      rw [show i + 1 = As.length + 1 by rw [HH.out.2.2.2.2.2.2.2.2]] at hown'
      obtain ⟨f1, f2, f3, f4⟩ := act_add (m := (t, x)) HH.out.2.2.2.2.2.2.2.1 (Nat.le_refl S) HS.out.1 HH.out.1 HH.out.2.1 HS.out.2.2 hW1 hW2 hgrow hown'
      have k4 : w3.cell? ⟨S, 1, none⟩ = some (.slice va vn vc) := by simp [World.cell?, f4]
      have z4 : w3.frozen? ⟨S, 1, none⟩ = false := by simp [World.frozen?, f4]
      have HF := Lib.hid (And.intro f1 (And.intro f2 (show ActsR (w3.setCell ⟨S, 1, none⟩ (.slice va' vn' vc')) S (As ++ [A]) (Ms.take (i + 1)) by rw [List.take_add_one, HH.out.2.2.2.2.2.2.1]; exact f3)))
      clear f1 f2 f3 f4 hown' hgrow k1 k2 z2
      go_wp2
      exact ⟨⟨i + 1, by simp, by omega, As ++ [A], HF⟩, by simp [intOf]; omega⟩
    · obtain rfl : i = Ms.length := by omega
      go_wp2
      go_ret
      have h := HS.out
      rw [List.take_length] at h
      exact ⟨S, As, rfl, hS ▸ h.1, by omega, h.2⟩
end Go.Proofs.YtpbhfckefmboaaaGreatDoor.Ba
namespace Go.Proofs.YtpbhfckefmboaaaGreatDoor.Ba
open Go Go.RowKit Go.Lib Go.Base
theorem info_au : (Tryz.prog.info? 294).map (fun i => (i.zero, i.size, i.bytes)) = some (some (.agg #[.int .u64 0]), 1, 8) := by kernel_rfl
theorem au_cells : (Value.agg #[.int .u64 0]).cells = #[.int .u64 0] := by kernel_rfl
theorem made_row {w w1 : World} {n : Nat} {e : TypeId} {z : Value} (hz : z.cells = #[.int .u64 0]) (h : w1.ownsRow w.heap.size e 1 (.slice (some ⟨w.heap.size, 0, none⟩) n n) n (madeCells z.cells (n * 1)).toList) (hg : w.grownBy w1 none) : Below w.heap.size w w1 ∧ ∃ cur, w1.heap[w.heap.size]? = some (.cells cur e (0, 0)) ∧ ∀ j, j < n → cur[j]? = some (.int .u64 0) := by
  refine ⟨(Below.refl _ w).grown hg (Nat.le_refl _) (fun j hj => by cases hj), ?_⟩
  obtain ⟨hl, h2⟩ := h
  rcases h2 with ⟨h3, -⟩ | ⟨g, cap, cur, h3, hb, hg2, hn, hm, hs, ht⟩
  · cases h3
  · injection h3 with h3 _ h4
    injection h3 with h3
    injection h3 with h3
    subst h3 h4
    refine ⟨cur, hg2, fun j hj => ?_⟩
    have h5 : (cur.toList.take (n * 1))[j]? = (madeCells z.cells (n * 1)).toList[j]? := by rw [ht]
    rw [List.getElem?_take, if_pos (by omega), Array.getElem?_toList] at h5
    rw [h5, hz]
    simp [madeCells, hj, Nat.mod_one]
set_option maxRecDepth 100000 in
set_option maxHeartbeats 3200000 in
theorem bnew_any {n : Nat} (h1 : 1 ≤ n) (h2 : n ≤ 16384) (w : World) :
    Calls Tryz.prog 27 #[.int .i64 (8 * (n : Int))] w fun e w' => ∃ P Wb, e = .returned (.tuple #[.pointer (some ⟨P, 0, none⟩), .int .i64 0]) ∧ Below w.heap.size w w' ∧ w.heap.size ≤ P ∧ w.heap.size ≤ Wb ∧ Bufw w' P Wb n (fun _ => 0) 0 := by
  obtain ⟨i0, hi, hz0, hz1, hz2⟩ := info_parts info_au
  obtain ⟨s, hs⟩ : ∃ s : Int, 8 * (n : Int) = s := ⟨_, rfl⟩
  have q0 : ¬ s < 8 := by omega
  have q1 : ¬ s > 131072 := by omega
  have q2 : Int.tmod s 8 = 0 := by rw [Int.tmod_eq_emod_of_nonneg (by omega)]; omega
  have q3 : Int.tdiv s 8 = (n : Int) := by rw [Int.tdiv_eq_ediv_of_nonneg (by omega)]; omega
  have qn : IntKind.i64.wrap (n : Int) = (n : Int) := wrap_small _ (by omega) (by omega)
  rw [hs]
  go_enter Tryz.func27, Tryz.ntmps27
  go_wp2_with (first
    | (at_make; refine wpList_make_full _ rfl _ _ 105 rfl w.heap.size 294 i0 _ 1 Tryz.underlying105 hi hz0 hz1 .i64 .i64 _ _ n rfl rfl rfl rfl (by rw [hz2]; omega) (by unfold maxLen; omega) (Nat.le_refl _) ?_; intro w1 hown1 hgrow1; have HO := Lib.hid (And.intro hown1 hgrow1); clear hown1 hgrow1))
  obtain ⟨hb, hr⟩ := made_row au_cells HO.out.1 HO.out.2
  obtain ⟨W2, hW2⟩ : ∃ V, w1.alloc (.cells #[.slice (some ⟨w.heap.size, 0, none⟩) n n, .int .i64 0] 112) = V := ⟨_, rfl⟩
  obtain ⟨b2, r2, s2⟩ := at_new hW2
  rw [hW2]
  have hlt : w.heap.size < w1.heap.size := (HO.out.1.lt _ rfl).2
  have hr2 := (b2.block _ hlt)
  have HF : Below w.heap.size w W2 ∧ Bufw W2 w1.heap.size w.heap.size n (fun _ => 0) 0 := ⟨hb.trans (b2.mono hb.size), ⟨by simp [World.cell?, r2], by simp [World.cell?, r2], by simp [World.frozen?, r2], fun j hj => by
      obtain ⟨cur, e1, e2⟩ := hr
      simp only [World.cell?, hr2, e1]
      exact e2 j hj, fun j hj => by
      obtain ⟨cur, e1, e2⟩ := hr
      simp [World.frozen?, hr2, e1], fun j _ => ⟨by decide, by decide⟩, by omega, by omega, by omega, by omega⟩⟩
  have HG := Lib.hid HF
  have hle := hb.size
  clear HF hb hr HO b2 r2 s2 hr2 hW2
  exact bodyPost_ret (by simp [results, Tryz.results27, go_sem]) rfl ⟨_, rfl, HG.out.1, hle, _, Nat.le_refl _, HG.out.2⟩
end Go.Proofs.YtpbhfckefmboaaaGreatDoor.Ba
namespace Go.Proofs.YtpbhfckefmboaaaGreatDoor.Ba
open Go Go.RowKit Go.Lib Go.Base
theorem WldR.row {w : World} {S P : Nat} {clock : Int} {tr : Value} {As : List Nat} (h : WldR w S P clock tr As) {i a : Nat} (ha : As[i]? = some a) : ∃ g cap, w.cell? ⟨S, 0, none⟩ = some (.pointer (some ⟨P, 0, none⟩)) ∧ w.cell? ⟨S, 1, none⟩ = some (.slice (some ⟨g, 0, none⟩) As.length cap) ∧ w.cell? ⟨g, 0 + i, none⟩ = some (.pointer (some ⟨a, 0, none⟩)) := by
  obtain ⟨v, h1, hl, h2⟩ := h
  have hi := (List.getElem?_eq_some_iff.1 ha).1
  rcases h2 with ⟨rfl, h3⟩ | ⟨g, cap, cur, rfl, hb, hg2, hn, hm, hs, ht⟩
  · omega
  · refine ⟨g, cap, by simp [World.cell?, h1], by simp [World.cell?, h1], ?_⟩
    have h5 : (cur.toList.take (As.length * 1))[i]? = (As.map ptrV)[i]? := by rw [ht]
    rw [List.getElem?_take, if_pos (by omega), Array.getElem?_toList, List.getElem?_map, ha] at h5
    simp only [World.cell?, hg2, Nat.zero_add]
    exact h5
set_option maxRecDepth 100000 in
set_option maxHeartbeats 3200000 in
theorem sat_any {w : World} {S P : Nat} {clock : Int} {tr : Value} {As : List Nat} (h : WldR w S P clock tr As) (hA : As.length ≤ 1000) {i a : Nat} (ha : As[i]? = some a) :
    Calls Tryz.prog 82 #[.pointer (some ⟨S, 0, none⟩), .int .i64 (i : Int)] w fun e w' => e = .returned (.pointer (some ⟨a, 0, none⟩)) ∧ w' = w := by
  obtain ⟨g, cap, c0, c1, c2⟩ := h.row ha
  have hi := (List.getElem?_eq_some_iff.1 ha).1
  have q0 : ¬ (i : Int) < 0 := by omega
  have q1 : ¬ (i : Int) ≥ (As.length : Int) := by omega
  have q2 : (0 : Int) ≤ (i : Int) := by omega
  have q3 : (i : Int) < (As.length : Int) := by omega
  rw [Nat.zero_add] at c2
  clear h ha
  go_enter Tryz.func82, Tryz.ntmps82
  go_wp2
  go_ret
  exact ⟨rfl, rfl⟩
end Go.Proofs.YtpbhfckefmboaaaGreatDoor.Ba
namespace Go.Proofs.YtpbhfckefmboaaaGreatDoor.Ba
open Go Go.RowKit Go.Lib Go.Base
/-- a machine's cells: it wants an access -/
def WantC (C : Array Value) : Prop := ∃ k p n v u : Int, ∃ (ba : Option Addr) (bn bc : Nat) (g : FuncId) (ff cf : Array Value), C[0]? = some (.int .i64 k) ∧ C[1]? = some (.int .i64 p) ∧ C[2]? = some (.int .i64 n) ∧ C[3]? = some (.int .u64 v) ∧ C[4]? = some (.int .u64 u) ∧ C[5]? = some (.slice ba bn bc) ∧ C[6]? = some (.func (.func g) ff cf)
/-- the first seven cells are set -/
def set7C (C : Array Value) (k p n v u : Int) (b f : Value) : Array Value := ((((((C.setIfInBounds 0 (.int .i64 k)).setIfInBounds 1 (.int .i64 p)).setIfInBounds 2 (.int .i64 n)).setIfInBounds 3 (.int .u64 v)).setIfInBounds 4 (.int .u64 u)).setIfInBounds 5 b).setIfInBounds 6 f
theorem set7C_size (C : Array Value) (k p n v u : Int) (b f : Value) : (set7C C k p n v u b f).size = C.size := by simp [set7C]
theorem set7C_tail (C : Array Value) (k p n v u : Int) (b f : Value) {j : Nat} (hj : 7 ≤ j) : (set7C C k p n v u b f)[j]? = C[j]? := by
  unfold set7C
  rw [Array.getElem?_setIfInBounds_ne (by omega), Array.getElem?_setIfInBounds_ne (by omega), Array.getElem?_setIfInBounds_ne (by omega), Array.getElem?_setIfInBounds_ne (by omega), Array.getElem?_setIfInBounds_ne (by omega), Array.getElem?_setIfInBounds_ne (by omega), Array.getElem?_setIfInBounds_ne (by omega)]
theorem set7C_want (C : Array Value) (hC : 7 ≤ C.size) (k p n v u : Int) (ba : Option Addr) (bn bc : Nat) (g : FuncId) (ff cf : Array Value) : WantC (set7C C k p n v u (.slice ba bn bc) (.func (.func g) ff cf)) := by
  refine ⟨k, p, n, v, u, ba, bn, bc, g, ff, cf, ?_, ?_, ?_, ?_, ?_, ?_, ?_⟩ <;> (simp only [set7C, Array.getElem?_setIfInBounds, Array.size_setIfInBounds]; simp; first | done | omega | (rintro rfl; simp at hC))
theorem cells_at {w : World} {b o : Nat} {t : TypeId} {C : Array Value} {v : Value} (h : w.heap[b]? = some (.cells C t (0, 0))) (hv : C[o]? = some v) : w.cell? ⟨b, o, none⟩ = some v := by simp [World.cell?, h, hv]
theorem cells_fr {w : World} {b o : Nat} {t : TypeId} {C : Array Value} (h : w.heap[b]? = some (.cells C t (0, 0))) (ho : o < C.size) : w.frozen? ⟨b, o, none⟩ = false := by simp [World.frozen?, h]
theorem arr_some {C : Array Value} {o : Nat} (ho : o < C.size) : ∃ v, C[o]? = some v := ⟨C[o], by simp [ho]⟩
set_option maxHeartbeats 3200000 in
theorem cont_doG {w : World} {I : Nat} {t : TypeId} {k p n v u : Int} {ff cf C : Array Value} {g : FuncId} (h : w.heap[I]? = some (.cells C t (0, 0))) (hC : 7 ≤ C.size) :
    Calls Tryz.prog 91 #[.pointer (some ⟨I, 0, none⟩), .agg #[.int .i64 k, .int .i64 p, .int .i64 n, .int .u64 v, .int .u64 u, .slice none 0 0], .func (.func g) ff cf] w fun e w' => e = .returned (.tuple #[]) ∧ Turn2 I I w w' ∧ w'.heap[I]? = some (.cells (set7C C k p n v u (.slice none 0 0) (.func (.func g) ff cf)) t (0, 0)) := by
  obtain ⟨V, hV⟩ : ∃ V, w.alloc (.cells #[.int .i64 k, .int .i64 p, .int .i64 n, .int .u64 v, .int .u64 u, .slice none 0 0] 40) = V := ⟨_, rfl⟩
  have bV : Below w.heap.size w V := by rw [← hV]; exact (Below.refl _ _).alloc (Nat.le_refl _) _
  obtain ⟨X, hX⟩ : ∃ X, w.heap.size = X := ⟨_, rfl⟩
  have hst : ∀ (a : Addr) (g : FuncId) (u v : Array Value) (m : Mode) (w : World), (store a (.func (.func g) u v) m).run Tryz.prog w = stored Tryz.prog w a (.func (.func g) u v) m := fun _ _ _ _ _ _ => rfl
  have rV : V.heap[X]? = some (.cells #[.int .i64 k, .int .i64 p, .int .i64 n, .int .u64 v, .int .u64 u, .slice none 0 0] 40) := by rw [← hV, ← hX]; exact heap_new _ _
  obtain ⟨d0, d1, d2, d3, d4, d5⟩ := blk6 rV
  have hv := (bV.block I (Array.getElem?_eq_some_iff.1 h).1).trans h
  obtain ⟨v0, e0⟩ := arr_some (C := C) (o := 0) (by omega)
  obtain ⟨v1, e1⟩ := arr_some (C := C) (o := 1) (by omega)
  obtain ⟨v2, e2⟩ := arr_some (C := C) (o := 2) (by omega)
  obtain ⟨v3, e3⟩ := arr_some (C := C) (o := 3) (by omega)
  obtain ⟨v4, e4⟩ := arr_some (C := C) (o := 4) (by omega)
  obtain ⟨v5, e5⟩ := arr_some (C := C) (o := 5) (by omega)
  obtain ⟨v6, e6⟩ := arr_some (C := C) (o := 6) (by omega)
  have c0 := cells_at hv e0
  have c1 := cells_at hv e1
  have c2 := cells_at hv e2
  have c3 := cells_at hv e3
  have c4 := cells_at hv e4
  have c5 := cells_at hv e5
  have c6 := cells_at hv e6
  have z0 := cells_fr hv (o := 0) (by omega)
  have z1 := cells_fr hv (o := 1) (by omega)
  have z2 := cells_fr hv (o := 2) (by omega)
  have z3 := cells_fr hv (o := 3) (by omega)
  have z4 := cells_fr hv (o := 4) (by omega)
  have z5 := cells_fr hv (o := 5) (by omega)
  have z6 := cells_fr hv (o := 6) (by omega)
  have H := Lib.hid (And.intro bV hv)
  clear h bV hv rV e0 e1 e2 e3 e4 e5 e6 hC
  go_enter Tryz.func91, Tryz.ntmps91
  go_wp2
  go_end0
  refine ⟨rfl, (Turn2.of H.out.1).trans ((((((Turn2.setP.trans .setP).trans .setP).trans .setP).trans .setP).trans .setP).trans .setP), ?_⟩
  exact set7 (set7 (set7 (set7 (set7 (set7 (set7 H.out.2 0 (.int .i64 k)) 1 (.int .i64 p)) 2 (.int .i64 n)) 3 (.int .u64 v)) 4 (.int .u64 u)) 5 (.slice none 0 0)) 6 (.func (.func g) ff cf)
/-- a load is wanted -/
theorem cont_load {w : World} {I : Nat} {t : TypeId} {p n : Int} {ff cf C : Array Value} {g : FuncId} (h : w.heap[I]? = some (.cells C t (0, 0))) (hC : 7 ≤ C.size) :
    Calls Tryz.prog 117 #[.pointer (some ⟨I, 0, none⟩), .int .i64 p, .int .i64 n, .func (.func g) ff cf] w fun e w' => e = .returned (.tuple #[]) ∧ Turn2 I I w w' ∧ ∃ C', w'.heap[I]? = some (.cells C' t (0, 0)) ∧ C'.size = C.size ∧ (∀ j, 7 ≤ j → C'[j]? = C[j]?) ∧ WantC C' := by
  obtain ⟨X, hX⟩ : ∃ X, w.heap.size = X := ⟨_, rfl⟩
  obtain ⟨V, hV⟩ : ∃ V, w.alloc (.cells #[.func (.func g) ff cf] 234) = V := ⟨_, rfl⟩
  obtain ⟨bV, rV, sV⟩ := at_new hV
  have hv := (bV.block I (Array.getElem?_eq_some_iff.1 h).1).trans h
  have cD := cont_doG (k := 1) (p := p) (n := n) (v := 0) (u := 0) (g := 152) (ff := #[]) (cf := #[.pointer (some ⟨X, 0, none⟩)]) hv hC
  have H := Lib.hid (And.intro bV hC)
  clear h bV rV sV hv hC
  go_enter Tryz.func117, Tryz.ntmps117
  go_wp2_with (go_at_call 91; refine cD.mono ?_; rintro e w1 ⟨rfl, hT, hh⟩; have H1 := Lib.hid (And.intro hT hh); clear hT hh)
  go_end0
  exact ⟨rfl, (Turn2.of H.out.1).trans H1.out.1, _, H1.out.2, set7C_size _ _ _ _ _ _ _ _, fun j hj => set7C_tail _ _ _ _ _ _ _ _ hj, set7C_want _ H.out.2 _ _ _ _ _ _ _ _ _ _ _⟩
set_option maxHeartbeats 3200000 in
set_option maxRecDepth 100000 in
theorem cnext_g {w : World} {I : Nat} {t : TypeId} {C : Array Value} (h : w.heap[I]? = some (.cells C t (0, 0))) (hW : WantC C) :
    Calls Tryz.prog 228 #[.pointer (some ⟨I, 0, none⟩)] w fun e w' => (∃ k p n v u : Int, ∃ (ba : Option Addr) (bn bc : Nat), e = .returned (.tuple #[accM k p n v u ba bn bc, .bool true])) ∧ Below w.heap.size w w' := by
  obtain ⟨k, p, n, v, u, ba, bn, bc, g, ff, cf, e0, e1, e2, e3, e4, e5, e6⟩ := hW
  obtain ⟨X, hX⟩ : ∃ X, w.heap.size = X := ⟨_, rfl⟩
  obtain ⟨V, hV⟩ : ∃ V, w.alloc (.cells #[.int .i64 0, .int .i64 0, .int .i64 0, .int .u64 0, .int .u64 0, .slice none 0 0] 40) = V := ⟨_, rfl⟩
  obtain ⟨bV, rV, sV⟩ := at_new hV
  rw [hX] at rV
  obtain ⟨d0, d1, d2, d3, d4, d5⟩ := blk6 rV
  have hv := (bV.block I (Array.getElem?_eq_some_iff.1 h).1).trans h
  have c0 := cells_at hv e0
  have c1 := cells_at hv e1
  have c2 := cells_at hv e2
  have c3 := cells_at hv e3
  have c4 := cells_at hv e4
  have c5 := cells_at hv e5
  have c6 := cells_at hv e6
  have y0 := froz6 rV 0
  have y1 := froz6 rV 1
  have y2 := froz6 rV 2
  have y3 := froz6 rV 3
  have y4 := froz6 rV 4
  have y5 := froz6 rV 5
  obtain ⟨q1, q2⟩ := putA_new (k := k) (p := p) (n := n) (v := v) (u := u) (s := .slice ba bn bc) hX bV rV
  obtain ⟨k0, k1, k2, k3, k4, k5⟩ := blk6 q2
  have hI : I < X := hX ▸ (Array.getElem?_eq_some_iff.1 h).1
  have ne1 : ¬ I = X := by omega
  have ne2 : ¬ X = I := by omega
  have HQ := Lib.hid q1
  have HK := Lib.hid (And.intro k0 (And.intro k1 (And.intro k2 (And.intro k3 (And.intro k4 k5)))))
  unfold accM
  clear h hv bV rV q1 q2 k0 k1 k2 k3 k4 k5 e0 e1 e2 e3 e4 e5 e6
  go_enter Tryz.func228, Tryz.ntmps228
  go_wp2_with (fail)
  simp only [func_nil, Result.andThen]
  go_wp2
  obtain ⟨k0, k1, k2, k3, k4, k5⟩ := HK.out
  unfold putA at k0 k1 k2 k3 k4 k5
  refine bodyPost_ret (by simp [results, Tryz.results228, go_sem, k0, k1, k2, k3, k4, k5]) rfl ⟨⟨k, p, n, v, u, ba, bn, bc, rfl⟩, ?_⟩
  have hq := HQ.out
  unfold putA at hq
  rw [← hX]
  rw [← hX] at hq
  exact hq
end Go.Proofs.YtpbhfckefmboaaaGreatDoor.Ba
