/- All counters, and their sum, as they stand. -/
import Derived.Test.YtkbbpjknakajeaaPStt
namespace Go.Proofs.Ytkbbpjknakajeaa
open Go Go.AE Go.RowKit Go.Lib Go.Sort Go.Shelf
theorem mkL_born : ∀ (l : List (ByteArray × Nat)) (i : Nat), (mkL l i).map (·.born) = List.range' i l.length
  | [], _ => rfl
  | x :: l, i => by simp only [mkL, List.map_cons, mkL_born l (i + 1), List.length_cons, List.range'_succ]
def fE (es : List Ent) (m : MapEntry) : ByteArray × Int := match es[m.born]? with | some e => e.nz | none => (⟨#[]⟩, 0)
theorem fE_map (es : List Ent) : (mkL (es.map Ent.nb) 0).map (fE es) = es.map Ent.nz := by
  apply List.ext_getElem?
  intro i
  rw [List.getElem?_map, List.getElem?_map]
  cases h : es[i]? with
  | none =>
    have h1 : es.length ≤ i := List.getElem?_eq_none_iff.1 h
    rw [List.getElem?_eq_none (by rw [mkL_len]; simpa using h1)]
    rfl
  | some e =>
    have h1 : (es.map Ent.nb)[i]? = some e.nb := by rw [List.getElem?_map, h]; rfl
    rw [mkL_get _ 0 i _ h1]
    simp [fE, h]
theorem rd_of_holds {w : World} {g cap : Nat} {d : Array (ByteArray × Int)} {L : List (ByteArray × Int)} (hg : g < w.heap.size) (h : HoldsK encG 2 w g 0 d) (hd : d.toList = L) : Rd w (.slice (some ⟨g, 0, none⟩) L.length cap) L := by
  refine ⟨_, cap, rfl, fun k x hk => ⟨g, rfl, hg, ?_, ?_⟩⟩
  all_goals
    have hkl : k < L.length := (List.getElem?_eq_some_iff.1 hk).1
    have hds : d.size = L.length := by rw [← hd]; simp
    have hdk : d[k]! = x := by
      rw [getElem!_pos d k (by omega)]
      have : d.toList[k]? = some x := by rw [hd]; exact hk
      rw [List.getElem?_eq_getElem (by simpa using (by omega : k < d.size))] at this
      simpa using this
  · have h1 := (h (k * 2) (by simpa using (by omega : k * 2 < d.size * 2))).1
    rw [get_flatK encG 2 d (k * 2) (by omega), show k * 2 / 2 = k by omega, show k * 2 % 2 = 0 by omega, hdk] at h1
    simpa [encG] using h1
  · have h1 := (h (k * 2 + 1) (by simpa using (by omega : k * 2 + 1 < d.size * 2))).1
    rw [get_flatK encG 2 d (k * 2 + 1) (by omega), show (k * 2 + 1) / 2 = k by omega, show (k * 2 + 1) % 2 = 1 by omega, hdk] at h1
    simpa [encG] using h1
theorem flatG_name2 : ∀ (l : List (ByteArray × Int)) (k : Nat) (x : ByteArray × Int), l[k]? = some x → (flatG l)[k * 2]? = some (.string x.1) ∧ (flatG l)[k * 2 + 1]? = some (.int .i64 x.2)
  | [], k, x, h => by simp at h
  | y :: l, 0, x, h => by simp at h; subst h; exact ⟨rfl, rfl⟩
  | y :: l, k + 1, x, h => by
    have := flatG_name2 l k x (by simpa using h)
    rw [show (k + 1) * 2 = k * 2 + 1 + 1 by omega]
    exact this
theorem cells_of2 {w : World} {g cap : Nat} {L : List (ByteArray × Int)} {B : Nat} (h : w.ownsRow B 52 2 (.slice (some ⟨g, 0, none⟩) L.length cap) L.length (flatG L)) {k : Nat} {x : ByteArray × Int} (hk : L[k]? = some x) :
    w.cell? ⟨g, k * 2, none⟩ = some (.string x.1) ∧ w.cell? ⟨g, k * 2 + 1, none⟩ = some (.int .i64 x.2) := by
  obtain ⟨h1, h2⟩ := flatG_name2 L k x hk
  have hlt : k < L.length := (List.getElem?_eq_some_iff.1 hk).1
  have a1 := h.cellAt (k * 2) (by omega)
  have a2 := h.cellAt (k * 2 + 1) (by omega)
  rw [h1] at a1
  rw [h2] at a2
  exact ⟨by simpa using a1, by simpa using a2⟩
theorem rd_of_own {w : World} {B : Nat} {v : Value} {L : List (ByteArray × Int)} (h : w.ownsRow B 52 2 v L.length (flatG L)) : Rd w v L := by
  rcases h.2 with ⟨rfl, h0⟩ | ⟨g, cap, cur, rfl, hb, hg, rest⟩
  · exact ⟨none, 0, by rw [h0], fun k x hk => absurd (List.getElem?_eq_some_iff.1 hk).1 (by omega)⟩
  · exact ⟨_, cap, rfl, fun k x hk => ⟨g, rfl, (Array.getElem?_eq_some_iff.1 hg).1, cells_of2 h hk⟩⟩
theorem all_L {w0 w : World} {sb mb rb : Nat} {v : Value} {es : List Ent} {L : List (ByteArray × Int)} (h : Stt w0 w sb mb rb v es L) (hu : ∀ e ∈ es, e.u = true) (hp : L.Perm (es.map Ent.nz)) (hs : Srt L) (hL : es.length ≤ 1000) :
    Calls Try.prog 21 #[.pointer (some ⟨sb, 0, none⟩)] w fun x w' => ∃ a, x = .returned a ∧ Rd w' a L ∧ RowKit.Below w.heap.size w w' := by
  have hlen : (mkL (es.map Ent.nb) 0).length = es.length := by rw [mkL_len]; simp
  have hLl : L.length = es.length := by rw [hp.length_eq]; simp
  have key := all_rows (fE es) sb 0 mb (mkL (es.map Ent.nb) 0).toArray es.length w h.set h.map (fun x hx => by
      have hx' : x ∈ mkL (es.map Ent.nb) 0 := by simpa using hx
      have : x.born ∈ (mkL (es.map Ent.nb) 0).map (·.born) := List.mem_map.2 ⟨x, hx', rfl⟩
      rw [mkL_born] at this
      simpa using this) (by
      show ((mkL (es.map Ent.nb) 0).map (·.born)).Nodup
      rw [mkL_born]
      exact List.nodup_range') (fun m hm => by
      have hm' : m ∈ mkL (es.map Ent.nb) 0 := by simpa using hm
      obtain ⟨i, hi⟩ := List.getElem?_of_mem hm'
      have hil : i < es.length := by have := (List.getElem?_eq_some_iff.1 hi).1; omega
      obtain ⟨e, he⟩ : ∃ e, es[i]? = some e := ⟨es[i], List.getElem?_eq_getElem hil⟩
      have h1 : (es.map Ent.nb)[i]? = some e.nb := by rw [List.getElem?_map, he]; rfl
      rw [mkL_get _ 0 i _ h1] at hi
      obtain rfl := (Option.some.inj hi).symm
      have hem := List.mem_of_getElem? he
      have ha := h.ents e hem
      unfold Ent.at_ at ha
      rw [hu e hem] at ha
      simp only [if_true] at ha
      have hf : fE es ⟨.string e.nb.1, .pointer (some ⟨e.nb.2, 0, none⟩), 0 + i⟩ = e.nz := by simp [fE, he]
      rw [hf]
      exact ⟨rfl, ⟨e.b, 0, e.yb, e.yo, rfl, ha.c0, ha.c3, ha.cz⟩⟩) (by simp [hlen]; omega)
  refine key.mono ?_
  rintro x w' ⟨⟨a, cap, rfl, hc⟩, hB⟩
  refine ⟨_, rfl, ?_, hB⟩
  have hsz : (mkL (es.map Ent.nb) 0).toArray.size = L.length := by rw [hLl]; simpa using hlen
  rw [hsz] at hc ⊢
  rcases hc with h0 | ⟨g, d, rfl, hg, hd, hpd, hso, hH⟩
  · exact ⟨a, cap, rfl, fun k x hk => absurd (List.getElem?_eq_some_iff.1 hk).1 (by omega)⟩
  · refine rd_of_holds hg hH (srt_eq hs d hso ?_)
    have : (mkL (es.map Ent.nb) 0).toArray.toList.map (fE es) = es.map Ent.nz := fE_map es
    rw [this] at hpd
    exact hpd.trans hp.symm
set_option maxHeartbeats 1600000 in
theorem sumS_any {w0 w : World} {sb mb rb : Nat} {v : Value} {es : List Ent} {L : List (ByteArray × Int)} (h : Stt w0 w sb mb rb v es L) (hu : ∀ e ∈ es, e.u = true) (hp : L.Perm (es.map Ent.nz)) (hs : Srt L) (hL : es.length ≤ 1000) :
    Calls Try.prog 25 #[.pointer (some ⟨sb, 0, none⟩)] w fun e w' => e = .returned (.int .i64 (sumG L 0)) ∧ RowKit.Below w.heap.size w w' := by
  have hLl : L.length ≤ 1000 := by rw [hp.length_eq]; simpa using hL
  have c21 := all_L h hu hp hs hL
  clear h hu hp hs hL
  go_enter Try.func25, Try.ntmps25
  go_wp2_with (go_at_call 21; refine c21.mono ?_; clear c21; rintro e w1 ⟨a, rfl, ⟨ao, ca, rfl, fa⟩, hB1⟩; have HA := Lib.hid fa; have HB1 := Lib.hid hB1; clear fa hB1)
  go_loopw [3, 9] (fun s v wr => ∃ (k : Nat) (n : Int), v = .int .i64 k ∧ s = .int .i64 n ∧ k ≤ L.length ∧ Hid (sumG (L.drop k) n = sumG L 0) ∧ Hid (RowKit.Below w1.heap.size w1 wr)) (fun _ v _ => L.length - (intOf v).toNat)
  case atStart => exact ⟨0, 0, rfl, rfl, Nat.zero_le _, Lib.hid rfl, Lib.hid (Below.refl _ _)⟩
  case round =>
    obtain ⟨k, n, rfl, rfl, hk, hS, hB⟩ := hrel
    by_cases hlt : k < L.length
    · obtain ⟨x, hx⟩ : ∃ x, L[k]? = some x := ⟨L[k], List.getElem?_eq_getElem hlt⟩
      obtain ⟨ga, rfl, ga1, ca1, ca2⟩ := HA.out k x hx
      have h1 : (k : Int) < (L.length : Int) := by omega
      have h2 : (0 : Int) ≤ (k : Int) := by omega
      have ca1 := (hB.out.cell (p := ⟨ga, k * 2, none⟩) ga1).trans ca1
      have ca2 := (hB.out.cell (p := ⟨ga, k * 2 + 1, none⟩) ga1).trans ca2
      have hs1 := sumG_drop L k x hx n
      rw [hS.out] at hs1
      obtain ⟨m, hm⟩ : ∃ m, IntKind.i64.wrap (n + x.2) = m := ⟨_, rfl⟩
      rw [hm] at hs1
      have HS := Lib.hid hs1.symm
      clear hx hs1
      go_wp2
      go_roundw
      case rel => exact ⟨k + 1, m, by go_num, by rw [← hm], by omega, HS, Lib.hid (hB.out.alloc hB.out.size _)⟩
      case measure => simp [intOf]; omega
    · obtain rfl : k = L.length := by omega
      have HS := hS.out
      rw [List.drop_length] at HS
      have hn : n = sumG L 0 := HS
      clear HS
      clear hS
      subst hn
      go_wp2
      go_ret
      exact ⟨by first | rfl | rw [hn], HB1.out.trans (hB.out.mono HB1.out.size)⟩
end Go.Proofs.Ytkbbpjknakajeaa
