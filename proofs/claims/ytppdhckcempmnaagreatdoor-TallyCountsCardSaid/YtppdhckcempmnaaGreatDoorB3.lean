/- YtppdhckcempmnaaGreatDoorShelf; YtppdhckcempmnaaGreatDoorKeys; YtppdhckcempmnaaGreatDoorCells; YtppdhckcempmnaaGreatDoorCRow; YtppdhckcempmnaaGreatDoorHot; YtppdhckcempmnaaGreatDoorSame; YtppdhckcempmnaaGreatDoorPApp: in one text. -/
import Derived.Shelf.SlGeneric
import Derived.Shelf.SlIterI.Nil
import Derived.Shelf.SortM.Plain
import Derived.Shelf.SortM.SortNone
import Derived.Ground.GgzProg
import Derived.Ground.SlgmProg
import Derived.Test.YtppdhckcempmnaaGreatDoorProg
import Derived.Test.YtppdhckcempmnaaGreatDoorB1
import Derived.Test.YtppdhckcempmnaaGreatDoorB2
import Derived.Deep.LoopGhost
import Derived.Maps.AppendAt
import Derived.Maps.RangeRun
import Derived.Deep.AppendLies
import Derived.Deep.DrawnRows
import Derived.Deep.RegionLawGrows
import Derived.Deep.RegionWith
import Derived.Deep.QuietTactic
import Derived.BigQuiet
import Derived.Deep.RegionHeld3
import Derived.OwnWalk
/-
  DERIVED: THE SHELF's CONTRACTS AT THIS DUMP, IN PLAIN WORDS (tools/lay-plain.mjs out of 'YtppdhckcempmnaaGreatDoorShelf.lean', which tools/lay-shelf.mjs wrote): THE SAME DECLARATIONS UNDER THE SAME NAMES: 'import', 'namespace', 'open', 'def', 'theorem' AND NOTHING ELSE: no command of the shelf's: FOR A HAND-IN. Each laying: the table of numbers ('.._ren') and one theorem, a field a fact of the dump's own or the kernel's comparison; each contract: ONE APPLICATION.
-/
namespace Go.Proofs.YtppdhckcempmnaaGreatDoor
open Go.Shelf
def Tryz.keysA_ren : Go.Shelf.Ren := ⟨fun | 7 => 22 | 10 => 50 | n => n, fun | 23 => 68 | 26 => 3 | 3 => 77 | 28 => 75 | 0 => 0 | 27 => 74 | 33 => 107 | 4 => 4 | n => n, fun | n => n⟩
theorem Tryz.keysA : Go.Proofs.SlLaysZI.n7 Tryz.prog Tryz.keysA_ren := {
  mixed := by kernel_rfl
  f7 := ⟨Tryz.f22.name, by decide, Tryz.func22.trans (congrArg some (by kernel_rfl))⟩
  f10 := ⟨Tryz.f50.name, by decide, Tryz.func50.trans (congrArg some (by kernel_rfl))⟩
  t0 := Tryz.underlying0
  a0 := Tryz.isAgg0
  z0 := Tryz.sizeOf0
  v0 := Tryz.zeroValue0
  t4 := Tryz.underlying4
  a4 := Tryz.isAgg4
  z4 := Tryz.sizeOf4
  v4 := Tryz.zeroValue4
  t23 := Tryz.underlying68
  a23 := Tryz.isAgg68
  z23 := Tryz.sizeOf68
  v23 := Tryz.zeroValue68
  t26 := Tryz.underlying3
  a26 := Tryz.isAgg3
  z26 := Tryz.sizeOf3
  v26 := Tryz.zeroValue3
  t27 := Tryz.underlying74
  a27 := Tryz.isAgg74
  z27 := Tryz.sizeOf74
  v27 := Tryz.zeroValue74
  t28 := Tryz.underlying75
  a28 := Tryz.isAgg75
  z28 := Tryz.sizeOf75
  v28 := Tryz.zeroValue75
  t33 := Tryz.underlying107
  a33 := Tryz.isAgg107
  z33 := Tryz.sizeOf107
  v33 := Tryz.zeroValue107 }
def Tryz.sortedA_ren : Go.Shelf.Ren := ⟨fun | 6 => 21 | 8 => 48 | 9 => 49 | 11 => 94 | 13 => 96 | 12 => 95 | 23 => 134 | 24 => 135 | 14 => 125 | 15 => 126 | 16 => 127 | 17 => 128 | 18 => 129 | 19 => 130 | 20 => 131 | 21 => 132 | 22 => 133 | 25 => 170 | 26 => 171 | 27 => 172 | 28 => 173 | 29 => 174 | 30 => 55 | 31 => 218 | n => n, fun | 26 => 3 | 28 => 75 | 24 => 72 | 0 => 0 | 3 => 3 | 37 => 205 | 48 => 152 | 50 => 61 | 4 => 4 | 40 => 257 | 39 => 256 | 45 => 196 | 5 => 5 | 9 => 9 | 51 => 305 | 55 => 308 | 57 => 345 | 58 => 346 | 33 => 107 | n => n, fun | n => n⟩
theorem Tryz.sortedA : Go.Proofs.SlLaysZI.n6 Tryz.prog Tryz.sortedA_ren := {
  mixed := by kernel_rfl
  f6 := ⟨Tryz.f21.name, by decide, Tryz.func21.trans (congrArg some (by kernel_rfl))⟩
  f8 := ⟨Tryz.f48.name, by decide, Tryz.func48.trans (congrArg some (by kernel_rfl))⟩
  f11 := ⟨Tryz.f94.name, by decide, Tryz.func94.trans (congrArg some (by kernel_rfl))⟩
  t0 := Tryz.underlying0
  a0 := Tryz.isAgg0
  z0 := Tryz.sizeOf0
  v0 := Tryz.zeroValue0
  t24 := Tryz.underlying72
  a24 := Tryz.isAgg72
  z24 := Tryz.sizeOf72
  v24 := Tryz.zeroValue72
  t26 := Tryz.underlying3
  a26 := Tryz.isAgg3
  z26 := Tryz.sizeOf3
  v26 := Tryz.zeroValue3
  t28 := Tryz.underlying75
  a28 := Tryz.isAgg75
  z28 := Tryz.sizeOf75
  v28 := Tryz.zeroValue75
  i26 := by kernel_rfl }
def Tryz.sortA_ren : Go.Shelf.Ren := ⟨fun | 5 => 49 | 8 => 96 | 7 => 95 | 19 => 134 | 20 => 135 | 10 => 125 | 11 => 126 | 12 => 127 | 13 => 128 | 14 => 129 | 15 => 130 | 16 => 131 | 17 => 132 | 18 => 133 | 30 => 170 | 31 => 171 | 32 => 172 | 33 => 173 | 34 => 174 | 35 => 55 | 40 => 218 | n => n, fun | 23 => 72 | 25 => 3 | 3 => 3 | 32 => 205 | 22 => 72 | 0 => 0 | 44 => 152 | 46 => 61 | 4 => 4 | 36 => 257 | 35 => 256 | 41 => 196 | 5 => 5 | 9 => 9 | 53 => 305 | 57 => 308 | 63 => 345 | 64 => 346 | n => n, fun | n => n⟩
theorem Tryz.sortA : Go.Proofs.SlLaysM.n5 Tryz.prog Tryz.sortA_ren := {
  mixed := by kernel_rfl
  f5 := ⟨Tryz.f49.name, by decide, Tryz.func49.trans (congrArg some (by kernel_rfl))⟩
  f7 := ⟨Tryz.f95.name, by decide, Tryz.func95.trans (congrArg some (by kernel_rfl))⟩
  f8 := Tryz.func96.trans (congrArg some (by kernel_rfl))
  f10 := ⟨Tryz.f125.name, by decide, Tryz.func125.trans (congrArg some (by kernel_rfl))⟩
  f11 := ⟨Tryz.f126.name, by decide, Tryz.func126.trans (congrArg some (by kernel_rfl))⟩
  f12 := ⟨Tryz.f127.name, by decide, Tryz.func127.trans (congrArg some (by kernel_rfl))⟩
  f13 := ⟨Tryz.f128.name, by decide, Tryz.func128.trans (congrArg some (by kernel_rfl))⟩
  f14 := ⟨Tryz.f129.name, by decide, Tryz.func129.trans (congrArg some (by kernel_rfl))⟩
  f15 := ⟨Tryz.f130.name, by decide, Tryz.func130.trans (congrArg some (by kernel_rfl))⟩
  f16 := ⟨Tryz.f131.name, by decide, Tryz.func131.trans (congrArg some (by kernel_rfl))⟩
  f17 := ⟨Tryz.f132.name, by decide, Tryz.func132.trans (congrArg some (by kernel_rfl))⟩
  f18 := ⟨Tryz.f133.name, by decide, Tryz.func133.trans (congrArg some (by kernel_rfl))⟩
  f19 := Tryz.func134.trans (congrArg some (by kernel_rfl))
  f20 := Tryz.func135.trans (congrArg some (by kernel_rfl))
  f30 := ⟨Tryz.f170.name, by decide, Tryz.func170.trans (congrArg some (by kernel_rfl))⟩
  f31 := Tryz.func171.trans (congrArg some (by kernel_rfl))
  f32 := Tryz.func172.trans (congrArg some (by kernel_rfl))
  f33 := ⟨Tryz.f173.name, by decide, Tryz.func173.trans (congrArg some (by kernel_rfl))⟩
  f34 := ⟨Tryz.f174.name, by decide, Tryz.func174.trans (congrArg some (by kernel_rfl))⟩
  f35 := ⟨Tryz.f55.name, by decide, Tryz.func55.trans (congrArg some (by kernel_rfl))⟩
  f40 := ⟨Tryz.f218.name, by decide, Tryz.func218.trans (congrArg some (by kernel_rfl))⟩
  t0 := Tryz.underlying0
  a0 := Tryz.isAgg0
  z0 := Tryz.sizeOf0
  v0 := Tryz.zeroValue0
  t3 := Tryz.underlying3
  a3 := Tryz.isAgg3
  z3 := Tryz.sizeOf3
  v3 := Tryz.zeroValue3
  t4 := Tryz.underlying4
  a4 := Tryz.isAgg4
  z4 := Tryz.sizeOf4
  v4 := Tryz.zeroValue4
  t5 := Tryz.underlying5
  a5 := Tryz.isAgg5
  z5 := Tryz.sizeOf5
  v5 := Tryz.zeroValue5
  t9 := Tryz.underlying9
  a9 := Tryz.isAgg9
  z9 := Tryz.sizeOf9
  v9 := Tryz.zeroValue9
  t22 := Tryz.underlying72
  a22 := Tryz.isAgg72
  z22 := Tryz.sizeOf72
  v22 := Tryz.zeroValue72
  t23 := Tryz.underlying72
  a23 := Tryz.isAgg72
  z23 := Tryz.sizeOf72
  v23 := Tryz.zeroValue72
  t25 := Tryz.underlying3
  a25 := Tryz.isAgg3
  z25 := Tryz.sizeOf3
  v25 := Tryz.zeroValue3
  t32 := Tryz.underlying205
  a32 := Tryz.isAgg205
  z32 := Tryz.sizeOf205
  v32 := Tryz.zeroValue205
  t35 := Tryz.underlying256
  a35 := Tryz.isAgg256
  z35 := Tryz.sizeOf256
  v35 := Tryz.zeroValue256
  t36 := Tryz.underlying257
  a36 := Tryz.isAgg257
  z36 := Tryz.sizeOf257
  v36 := Tryz.zeroValue257
  t41 := Tryz.underlying196
  a41 := Tryz.isAgg196
  z41 := Tryz.sizeOf196
  v41 := Tryz.zeroValue196
  t44 := Tryz.underlying152
  a44 := Tryz.isAgg152
  z44 := Tryz.sizeOf152
  v44 := Tryz.zeroValue152
  t46 := Tryz.underlying61
  a46 := Tryz.isAgg61
  z46 := Tryz.sizeOf61
  v46 := Tryz.zeroValue61
  t53 := Tryz.underlying305
  a53 := Tryz.isAgg305
  z53 := Tryz.sizeOf305
  v53 := Tryz.zeroValue305
  t57 := Tryz.underlying308
  a57 := Tryz.isAgg308
  z57 := Tryz.sizeOf308
  v57 := Tryz.zeroValue308
  t63 := Tryz.underlying345
  a63 := Tryz.isAgg345
  z63 := Tryz.sizeOf345
  v63 := Tryz.zeroValue345
  t64 := Tryz.underlying346
  a64 := Tryz.isAgg346
  z64 := Tryz.sizeOf346
  v64 := Tryz.zeroValue346 }
end Go.Proofs.YtppdhckcempmnaaGreatDoor

/- The keys of the program's map, sorted: the kit's contracts of the library at this translation. -/
namespace Go.Proofs.YtppdhckcempmnaaGreatDoor.Ce
open Go Go.RowKit Go.Maps Go.Sort Go.Shelf Go.Proofs
/-- slices.Sort's two contracts. -/
theorem sortsA (m : Nat) : AnyZI.SortsIn Tryz.prog Tryz.sortedA_ren Fence.wide m :=
  ⟨fun blk off cap ss W hH hblk hsz => callsIn_wide.2 (AnyM.slices_Sort_int Tryz.sortA blk off cap ss W hH hblk hsz),
   fun p cap W => callsIn_wide.2 (AnyM.slices_Sort_int_none Tryz.sortA p cap W)⟩
theorem keys_c (mb : Nat) (W : World) : Calls Tryz.prog 22 #[.map (some mb)] W fun e w' => e = .returned (.func (.func 50) #[] #[.pointer (some ⟨W.heap.size, 0, none⟩)]) ∧ w' = W.alloc (.cells #[.map (some mb)] 68) :=
  (callsIn_wide (n := 5)).1 (AnyZI.keys_in Tryz.keysA Fence.wide 5 trivial rfl (some mb) W)
theorem sorted_c (b : Nat) (l : List (Int × Nat)) (w : World) (hm : w.heap[b]? = some (.map (mkI l 0).toArray l.length)) (h : (l.map (·.1)).Nodup) (hp : ∀ e ∈ l, InP e.1) (hn : l.length ≤ 100000) :
    Calls Tryz.prog 21 #[.func (.func 50) #[] #[.pointer (some ⟨w.heap.size, 0, none⟩)]] (w.alloc (.cells #[.map (some b)] 68)) fun e w' => ∃ (v : Value) (ks : List Int), e = .returned v ∧ ks.Perm (l.map (·.1)) ∧ ks.Pairwise (· ≤ ·) ∧
      w'.ownsRow w.heap.size 3 1 v ks.length (ks.map encZ) ∧ (v = .slice none 0 0 ↔ ks = []) ∧ Below w.heap.size w w' := by
  obtain ⟨D0, hown, hsz, hperm⟩ := owns_I w b l hm h hp hn
  have hbl := hown.lt
  have hmax : Maps.size D0 ≤ maxLen := by rw [hsz]; exact Nat.le_trans hn (by decide)
  have hbytes : Maps.size D0 * 8 ≤ 140737488355328 := by rw [hsz]; omega
  have hseq : SeqGives Fence.wide 2 Tryz.prog 50 #[.pointer (some ⟨w.heap.size, 0, none⟩)] encZ (fun ss => ss.Perm (intKeys D0)) (Maps.size D0) (w.alloc (.cells #[.map (some b)] 68)) :=
    AnyZI.keys_gives (ρ := Tryz.keysA_ren) { Tryz.keysA with } Fence.wide _ trivial rfl (by omega) w.heap.size b l.length D0 _ (by simp) (by simp) (by
      obtain ⟨es, clock, hb, Ft, hs, hD⟩ := hown
      exact ⟨es, clock, (Below.heap_alloc _ _ b hbl).trans hb, Ft, hs, hD⟩)
  have cS := AnyZI.sorted_in Tryz.sortedA Fence.wide 5 trivial trivial trivial trivial rfl (by omega) (sortsA _) (enters_of Tryz.func49 (by kernel_rfl) rfl) 50 #[.pointer (some ⟨w.heap.size, 0, none⟩)] trivial (enters_of Tryz.func50 (by kernel_rfl) rfl) _ _ hmax hbytes _ hseq
  change CallsIn _ _ Tryz.prog 21 _ _ _ at cS
  refine ((callsIn_wide (n := 5)).1 cS).mono ?_
  rintro e w' ⟨v, ss, rfl, hS, hrow, hnil, hb⟩
  refine ⟨v, ss.mergeSort (fun x y => decide (x ≤ y)), rfl, ((List.mergeSort_perm _ _).trans hS).trans hperm, ?_, ?_, ?_, ?_⟩
  · have := List.pairwise_mergeSort (le := fun x y : Int => decide (x ≤ y)) (fun a b c h1 h2 => by simp only [decide_eq_true_eq] at *; omega) (fun a b => by simp only [Bool.or_eq_true, decide_eq_true_eq]; omega) ss
    exact this.imp fun h => by simpa using h
  · rw [List.length_mergeSort]; exact ownsRow_base_a hrow (by simp)
  · rw [hnil]
    constructor
    · rintro rfl; simp
    · intro h
      have := congrArg List.length h
      rw [List.length_mergeSort] at this
      exact List.eq_nil_of_length_eq_zero (by simpa using this)
  · exact ((Below.refl _ w).alloc (Nat.le_refl _) _).trans (hb.mono (by simp))
end Go.Proofs.YtppdhckcempmnaaGreatDoor.Ce

/- The program's cells: those that were touched, in order. -/
namespace Go.Proofs.YtppdhckcempmnaaGreatDoor.Ce
open Go Go.RowKit Go.Lib Go.Maps
/-- the cells, one behind the other, as a row has them -/
def flatC : List Cl → List Value
  | [] => []
  | c :: L => .int .i64 c.p :: .int .i64 c.lk :: .int .i64 c.wr :: flatC L
theorem flatC_len : ∀ L, (flatC L).length = L.length * 3
  | [] => rfl
  | c :: L => by simp only [flatC, List.length_cons, flatC_len L]; omega
theorem flatC_app : ∀ L M, flatC (L ++ M) = flatC L ++ flatC M
  | [], _ => rfl
  | c :: L, M => by simp only [flatC, List.cons_append, flatC_app L M]
theorem flatC_get : ∀ (L : List Cl) (k : Nat) (c : Cl), L[k]? = some c → (flatC L)[k * 3]? = some (.int .i64 c.p) ∧ (flatC L)[k * 3 + 1]? = some (.int .i64 c.lk) ∧ (flatC L)[k * 3 + 2]? = some (.int .i64 c.wr)
  | [], k, x, h => by simp at h
  | y :: L, 0, x, h => by simp at h; subst h; exact ⟨rfl, rfl, rfl⟩
  | y :: L, k + 1, x, h => by
    have := flatC_get L k x (by simpa using h)
    rw [show (k + 1) * 3 = k * 3 + 1 + 1 + 1 by omega]
    exact this
theorem info34 : (Tryz.prog.info? 34).map (fun i => (i.zero, i.size, i.bytes)) = some (some (.agg #[.int .i64 0, .int .i64 0, .int .i64 0]), 3, 24) := by kernel_rfl
theorem cell_three (w : World) (a b c : Value) (t : TypeId) : ∀ j u, [a, b, c][j]? = some u → (w.alloc (.cells #[a, b, c] t)).cell? ((⟨w.heap.size, 0, none⟩ : Addr).add j) = some u := by
  intro j u hj
  match j, hj with
  | 0, hj => simp at hj; subst hj; simp [Addr.add]
  | 1, hj => simp at hj; subst hj; simp [Addr.add]
  | 2, hj => simp at hj; subst hj; simp [Addr.add]
set_option maxRecDepth 1000000 in
set_option maxHeartbeats 6400000 in
theorem cells_any (al : Option Addr) (cl : Nat) (l : Array Ev) (w : World) (hT : Tr w al l) (hn : l.size ≤ 600) :
    Calls Tryz.prog 6 #[.slice al l.size cl] w fun e w' => ∃ v, e = .returned v ∧ w'.ownsRow w.heap.size 34 3 v (cellsL l l.size).length (flatC (cellsL l l.size)) ∧ Below w.heap.size w w' := by
  obtain ⟨i0, hi, hz0, hz1, hz2⟩ := info_parts info34
  obtain ⟨mb, hmb⟩ : ∃ mb, w.heap.size = mb := ⟨_, rfl⟩
  have hC0 : CS w (w.alloc (.map #[] 0)) mb [] :=
    ⟨(Below.refl _ _).alloc (Nat.le_refl _) _, by omega, by rw [← hmb]; exact heap_new _ _, (fun e he => by cases he), List.nodup_nil, (fun e he => by cases he), (fun e he => by cases he), List.nodup_nil, (fun e he => by cases he)⟩
  have c18 := foldM_any al cl l mb w _ hT hC0 hn
  have hlen := cellsL_len l l.size
  obtain ⟨hsrt, hperm⟩ := cells_both l l.size
  obtain ⟨L, hL⟩ : ∃ L, cellsL l l.size = L := ⟨_, rfl⟩
  rw [hL] at hlen hsrt hperm
  have HL := Lib.hid (And.intro hL (And.intro hsrt hperm))
  have HI := Lib.hid (And.intro hi (And.intro hz0 (And.intro hz1 hz2)))
  clear hT hC0 hL hsrt hperm hi hz0 hz1 hz2
  have hmk : (Instr.makeMap 68 none).run Tryz.prog w = .ok (.map (some mb)) (w.alloc (.map #[] 0)) := by
    rw [← hmb]
    rfl
  go_enter Tryz.func6, Tryz.ntmps6
  go_wp2_with (first
    | (go_at_call 18
       refine c18.mono ?_
       clear c18
       rintro e w1 ⟨rfl, es, hC, hM⟩
       have hml := cellsM_len l l.size
       have hkeys := hC.keys
       have hks : (es.map pb).map (·.1) = es.map (·.1.p) := by simp [List.map_map, Function.comp_def, pb]
       have hl2 : (es.map pb).length ≤ 100000 := by rw [← hM, List.length_map] at hml; rw [List.length_map]; omega
       have c21 := sorted_c mb (es.map pb) w1 hkeys.2.2 hkeys.1 hkeys.2.1 hl2
       have HC := Lib.hid (And.intro hC (And.intro hM (And.intro hkeys (And.intro hks hl2))))
       clear hC hM hml hkeys hks hl2)
    | (go_at_call 22
       refine (keys_c mb _).mono ?_
       rintro e w2 ⟨rfl, rfl⟩)
    | (go_at_call 21
       refine c21.mono ?_
       clear c21
       rintro e w2 ⟨kv, ks, rfl, hkp, hkso, hkrow, hknil, hkB⟩
       have hkL : ks = L.map Cl.p := keys_sorted HL.out.2.1 HL.out.2.2 (by rw [← HC.out.2.1, List.map_map]; rw [HC.out.2.2.2.1] at hkp; exact hkp) hkso
       subst hkL
       have hkrow2 : w2.ownsRow w1.heap.size 3 1 kv L.length ((L.map Cl.p).map encZ) := by
         rw [show (L.map Cl.p).length = L.length from List.length_map ..] at hkrow
         exact hkrow
       have hcase : (kv = .slice none 0 0 ∧ L = []) ∨ ∃ g cap, kv = .slice (some ⟨g, 0, none⟩) L.length cap ∧ g < w2.heap.size := by
         rcases hkrow.2 with ⟨rfl, h0⟩ | ⟨g, cap, cur, rfl, _, hg, _⟩
         · exact .inl ⟨rfl, List.eq_nil_of_length_eq_zero (by simpa using h0)⟩
         · exact .inr ⟨g, cap, by rw [List.length_map], (Array.getElem?_eq_some_iff.1 hg).1⟩
       have HK := Lib.hid (And.intro hkrow2 (And.intro (HC.out.1.grow hkB) hkB))
       clear hkp hkso hkrow hkrow2 hknil hkB
       rcases hcase with ⟨rfl, rfl⟩ | ⟨g, cap, rfl, hg⟩))
  · refine wp_loop_rounds 1 ?_
    rw [rounds_succ]
    go_wp2
    go_ret
    refine ⟨_, rfl, ?_, ?_⟩
    · rw [HL.out.1]; exact World.ownsRow_nil _ _ _ _
    · exact HC.out.1.hB.trans (HK.out.2.2.mono HC.out.1.hB.size)
  · obtain ⟨B2, hB2⟩ : ∃ B2, w2.heap.size = B2 := ⟨_, rfl⟩
    rw [hB2] at hg
    go_loopw [4, 14] (fun v s wr => ∃ k : Nat, k ≤ L.length ∧ s = .int .i64 k ∧ Hid (wr.ownsRow B2 34 3 v k (flatC (L.take k)) ∧ Below B2 w2 wr)) (fun _ s _ => L.length - (RowKit.intOf s).toNat)
    case atStart => exact ⟨0, Nat.zero_le _, rfl, Lib.hid ⟨World.ownsRow_nil _ _ _ _, Below.refl _ _⟩⟩
    case round =>
      obtain ⟨k, hk, rfl, HR⟩ := hrel
      by_cases hlt : k < L.length
      · obtain ⟨c, hc⟩ : ∃ c, L[k]? = some c := ⟨L[k], List.getElem?_eq_getElem hlt⟩
        have hsz : B2 ≤ wr.heap.size := by have := HR.out.2.size; omega
        have hkey : wr.cell? ⟨g, k, none⟩ = some (.int .i64 c.p) := by
          refine (HR.out.2.cell (p := ⟨g, k, none⟩) hg).trans ?_
          have h1 := HK.out.1.cellAt k (by omega)
          rw [h1, List.getElem?_map, List.getElem?_map, hc]
          rfl
        have hCr : CS w wr mb es := HK.out.2.1.grow (by rw [hB2]; exact HR.out.2)
        have hcM : c ∈ es.map (·.1) := by
          rw [HC.out.2.1]; exact HL.out.2.2.mem_iff.1 (List.mem_of_getElem? hc)
        obtain ⟨⟨c', b⟩, hmem, rfl⟩ := List.mem_map.1 hcM
        dsimp only at hc hkey
        have hip : InP c'.p := hCr.inp _ hmem
        obtain ⟨kn, ki, km⟩ := hCr.keys
        obtain ⟨b2, hl, hbb⟩ : ∃ b2, (Instr.lookup 68 (.map (some mb)) (.int .i64 c'.p) false).run Tryz.prog wr = .ok (.pointer (some ⟨b2, 0, none⟩)) wr ∧ b2 = b := by
          rcases look_I wr mb (es.map pb) km kn ki HC.out.2.2.2.2 hip false with ⟨_, hnone⟩ | ⟨j, b2, hj, hl⟩
          · exact absurd rfl (hnone (pb (c', b)) (List.mem_map_of_mem hmem))
          · refine ⟨b2, hl, ?_⟩
            have h1 : (c'.p, b2) ∈ es.map pb := List.mem_of_getElem? hj
            have h2 : (c'.p, b) ∈ es.map pb := List.mem_map_of_mem (f := pb) hmem
            have key : ∀ (l : List (Int × Nat)), (l.map (·.1)).Nodup → ∀ x ∈ l, ∀ y ∈ l, x.1 = y.1 → x = y := by
              intro l
              induction l with
              | nil => intro _ x hx; cases hx
              | cons z l ih =>
                intro hnd x hx y hy e
                have hnd' : z.1 ∉ l.map (·.1) ∧ (l.map (·.1)).Nodup := List.nodup_cons.1 hnd
                rcases List.mem_cons.1 hx with hx1 | hx1
                · rcases List.mem_cons.1 hy with hy1 | hy1
                  · rw [hx1, hy1]
                  · exact absurd (List.mem_map.2 ⟨y, hy1, by rw [← e, hx1]⟩) hnd'.1
                · rcases List.mem_cons.1 hy with hy1 | hy1
                  · exact absurd (List.mem_map.2 ⟨x, hx1, by rw [e, hy1]⟩) hnd'.1
                  · exact ih hnd'.2 x hx1 y hy1 e
            have := key _ kn _ h1 _ h2 rfl
            simpa using this
        subst hbb
        obtain ⟨x0, x1, x2, _, _⟩ := cell_obj (hCr.cells _ hmem)
        have hbl := hCr.lt.2 _ hmem
        have htk : L.take (k + 1) = L.take k ++ [c'] := by rw [List.take_add_one, hc]; rfl
        have hown := HR.out.1
        have HX := Lib.hid (And.intro htk hsz)
        have h1 : (k : Int) < (L.length : Int) := by omega
        have h2 : (0 : Int) ≤ (k : Int) := by omega
        have h3 : k + 1 ≤ 1300 := by omega
        clear hCr hcM hmem kn ki km hc htk hip hsz
        obtain ⟨p, lk, wt⟩ := c'
        dsimp only at hkey hl x0 x1 x2
        dsimp only at hbl
        have hbl2 := Below.heap_alloc wr (.cells #[.int .i64 p, .int .i64 lk, .int .i64 wt] 34) b2 hbl
        clear hbl2
        go_wp2_with (at_builtin
                     refine wpList_append_own_at _ rfl _ _ 25 rfl B2 34 i0 (.agg #[.int .i64 0, .int .i64 0, .int .i64 0]) 3 24 Tryz.underlying25 HI.out.1 HI.out.2.1 HI.out.2.2.1 HI.out.2.2.2 rfl (by decide) _ _ _ rfl (hown.alloc _) ⟨wr.heap.size, 0, none⟩ 1 1 [.int .i64 p, .int .i64 lk, .int .i64 wt] rfl rfl (cell_three _ _ _ _ _) (by intro u hu; simp at hu; rcases hu with rfl | rfl | rfl <;> rfl) (Nat.le_trans h3 (by decide)) (by omega) (by have := HX.out.2; simp; omega) ?_
                     intro v' w3 hown' hgrow3 hnil3 hat3
                     have X := Lib.hid (show w3.ownsRow B2 34 3 v' (k + 1) (flatC (L.take k) ++ [.int .i64 p, .int .i64 lk, .int .i64 wt]) ∧ Below B2 w2 w3 from
                       ⟨hown', Below.grown (HR.out.2.alloc HX.out.2 _) hgrow3 (by have := HX.out.2; simp; omega) (fun j hj => (hown.lt _ hj).1)⟩)
                     clear hown' hgrow3 hnil3 hat3)
        go_roundw
        case rel =>
          refine ⟨k + 1, by omega, by go_num, Lib.hid ⟨?_, X.out.2⟩⟩
          rw [HX.out.1, flatC_app]
          exact X.out.1
        case measure => simp [RowKit.intOf]; omega
      · obtain rfl : k = L.length := by omega
        have hown := HR.out.1
        rw [List.take_length] at hown
        have HO := Lib.hid hown
        clear hown
        go_wp2
        go_ret
        refine ⟨_, rfl, ?_, ?_⟩
        · rw [HL.out.1]
          have hbase : w.heap.size ≤ B2 := by have := HK.out.2.1.hB.size; omega
          obtain ⟨q1, q2⟩ := HO.out
          refine ⟨q1, ?_⟩
          rcases q2 with q2 | ⟨g2, cap2, cur, e1, e2, e3⟩
          · exact .inl q2
          · exact .inr ⟨g2, cap2, cur, e1, Nat.le_trans hbase e2, e3⟩
        · exact HK.out.2.1.hB.trans (HR.out.2.mono (by have := HK.out.2.1.hB.size; omega))
end Go.Proofs.YtppdhckcempmnaaGreatDoor.Ce

/- The document's row of cells, kept in order: how each step turns it. -/
namespace Go.Proofs.YtppdhckcempmnaaGreatDoor.Ce
open Go Go.RowKit Go.Lib Go.Maps
theorem flatC_set1 : ∀ (L : List Cl) (k : Nat) (c : Cl) (u : Int), L[k]? = some c → (flatC L).set (k * 3 + 1) (.int .i64 u) = flatC (L.set k ⟨c.p, u, c.wr⟩)
  | [], k, c, u, h => by simp at h
  | x :: L, 0, c, u, h => by simp at h; subst h; rfl
  | x :: L, k + 1, c, u, h => by
    have := flatC_set1 L k c u (by simpa using h)
    rw [show (k + 1) * 3 + 1 = (k * 3 + 1) + 1 + 1 + 1 by omega]
    simp only [flatC, List.set_cons_succ, this]
theorem flatC_set2 : ∀ (L : List Cl) (k : Nat) (c : Cl) (u : Int), L[k]? = some c → (flatC L).set (k * 3 + 2) (.int .i64 u) = flatC (L.set k ⟨c.p, c.lk, u⟩)
  | [], k, c, u, h => by simp at h
  | x :: L, 0, c, u, h => by simp at h; subst h; rfl
  | x :: L, k + 1, c, u, h => by
    have := flatC_set2 L k c u (by simpa using h)
    rw [show (k + 1) * 3 + 2 = (k * 3 + 2) + 1 + 1 + 1 by omega]
    simp only [flatC, List.set_cons_succ, this]
theorem flatC_take : ∀ (L : List Cl) (k : Nat), (flatC L).take (k * 3) = flatC (L.take k)
  | [], k => by simp [flatC]
  | x :: L, 0 => by simp [flatC]
  | x :: L, k + 1 => by
    rw [show (k + 1) * 3 = k * 3 + 1 + 1 + 1 by omega]
    simp only [flatC, List.take_succ_cons, flatC_take L k]
theorem flatC_drop : ∀ (L : List Cl) (k : Nat), (flatC L).drop (k * 3) = flatC (L.drop k)
  | [], k => by simp [flatC]
  | x :: L, 0 => by simp [flatC]
  | x :: L, k + 1 => by
    rw [show (k + 1) * 3 = k * 3 + 1 + 1 + 1 by omega]
    simp only [flatC, List.drop_succ_cons, flatC_drop L k]
theorem flatC_one : ∀ (L : List Cl), ∀ u ∈ flatC L, u.oneCell' = true
  | [], u, h => by cases h
  | x :: L, u, h => by
    simp only [flatC, List.mem_cons] at h
    rcases h with rfl | rfl | rfl | h
    · rfl
    · rfl
    · rfl
    · exact flatC_one L u h
structure RowS (w0 w : World) (v : Value) (L : List Cl) : Prop where
  own : w.ownsRow w0.heap.size 34 3 v L.length (flatC L)
  b : Below w0.heap.size w0 w
theorem own_same {w w' : World} {base : Nat} {e : TypeId} {size n : Nat} {v : Value} {xs : List Value} (h : w.ownsRow base e size v n xs) (hs : ∀ g, v.ownBlock = some g → w'.heap[g]? = w.heap[g]?) : w'.ownsRow base e size v n xs := by
  refine ⟨h.1, ?_⟩
  rcases h.2 with hn | ⟨g, cap, cur, hv, hb, hg, rest⟩
  · exact .inl hn
  · exact .inr ⟨g, cap, cur, hv, hb, (hs g (by rw [hv]; rfl)).trans hg, rest⟩
theorem own_mono {w : World} {base base' : Nat} {e : TypeId} {size n : Nat} {v : Value} {xs : List Value} (h : w.ownsRow base e size v n xs) (hb : base' ≤ base) : w.ownsRow base' e size v n xs := by
  refine ⟨h.1, ?_⟩
  rcases h.2 with hn | ⟨g, cap, cur, hv, hb2, rest⟩
  · exact .inl hn
  · exact .inr ⟨g, cap, cur, hv, Nat.le_trans hb hb2, rest⟩
theorem RowS.grow {w0 w w' : World} {v : Value} {L : List Cl} (h : RowS w0 w v L) (k : Below w.heap.size w w') : RowS w0 w' v L :=
  ⟨own_same h.own fun g hg => k.block g (h.own.lt g hg).2, h.b.trans (k.mono h.b.size)⟩
theorem RowS.form {w0 w : World} {v : Value} {L : List Cl} (h : RowS w0 w v L) : ∃ ao cap, v = .slice ao L.length cap ∧ L.length ≤ cap ∧ (∀ (k : Nat) (c : Cl), L[k]? = some c → ∃ g, ao = some ⟨g, 0, none⟩) := by
  rcases h.own.2 with ⟨rfl, h0⟩ | ⟨g, cap, cur, rfl, hb, hg, hn, _⟩
  · exact ⟨none, 0, by rw [h0], by omega, fun k x h => absurd (List.getElem?_eq_some_iff.1 h).1 (by omega)⟩
  · exact ⟨_, cap, rfl, hn, fun k x h => ⟨g, rfl⟩⟩
theorem RowS.cells {w0 w : World} {g cap : Nat} {L : List Cl} (h : RowS w0 w (.slice (some ⟨g, 0, none⟩) L.length cap) L) {k : Nat} {c : Cl} (hk : L[k]? = some c) :
    w.cell? ⟨g, k * 3, none⟩ = some (.int .i64 c.p) ∧ w.cell? ⟨g, k * 3 + 1, none⟩ = some (.int .i64 c.lk) ∧ w.cell? ⟨g, k * 3 + 2, none⟩ = some (.int .i64 c.wr) ∧ w.frozen? ⟨g, k * 3 + 1, none⟩ = false ∧ w.frozen? ⟨g, k * 3 + 2, none⟩ = false ∧ g < w.heap.size ∧ w0.heap.size ≤ g := by
  obtain ⟨h1, h2, h3⟩ := flatC_get L k c hk
  have hlt : k < L.length := (List.getElem?_eq_some_iff.1 hk).1
  have a1 := h.own.cellAt (k * 3) (by omega)
  have a2 := h.own.cellAt (k * 3 + 1) (by omega)
  have a3 := h.own.cellAt (k * 3 + 2) (by omega)
  rw [h1] at a1
  rw [h2] at a2
  rw [h3] at a3
  exact ⟨a1, a2, a3, h.own.frozenAt _, h.own.frozenAt _, (h.own.lt g rfl).2, (h.own.lt g rfl).1⟩
theorem RowS.look {w0 w : World} {g cap : Nat} {L : List Cl} (h : RowS w0 w (.slice (some ⟨g, 0, none⟩) L.length cap) L) {k : Nat} {c : Cl} (hk : L[k]? = some c) (u : Int) :
    RowS w0 (w.setCell ⟨g, k * 3 + 1, none⟩ (.int .i64 u)) (.slice (some ⟨g, 0, none⟩) L.length cap) (L.set k ⟨c.p, u, c.wr⟩) := by
  have hst := h.own.stored (k * 3 + 1) (.int .i64 u)
  rw [flatC_set1 L k c u hk] at hst
  exact ⟨by rw [List.length_set]; exact hst.1, h.b.setCell (h.own.lt g rfl).1 _⟩
theorem RowS.write {w0 w : World} {g cap : Nat} {L : List Cl} (h : RowS w0 w (.slice (some ⟨g, 0, none⟩) L.length cap) L) {k : Nat} {c : Cl} (hk : L[k]? = some c) (u : Int) :
    RowS w0 (w.setCell ⟨g, k * 3 + 2, none⟩ (.int .i64 u)) (.slice (some ⟨g, 0, none⟩) L.length cap) (L.set k ⟨c.p, c.lk, u⟩) := by
  have hst := h.own.stored (k * 3 + 2) (.int .i64 u)
  rw [flatC_set2 L k c u hk] at hst
  exact ⟨by rw [List.length_set]; exact hst.1, h.b.setCell (h.own.lt g rfl).1 _⟩
theorem RowS.both {w0 w : World} {g cap : Nat} {L : List Cl} (h : RowS w0 w (.slice (some ⟨g, 0, none⟩) L.length cap) L) {k : Nat} {c : Cl} (hk : L[k]? = some c) (u v : Int) :
    RowS w0 ((w.setCell ⟨g, k * 3 + 1, none⟩ (.int .i64 u)).setCell ⟨g, k * 3 + 2, none⟩ (.int .i64 v)) (.slice (some ⟨g, 0, none⟩) L.length cap) (L.set k ⟨c.p, u, v⟩) := by
  have h1 := h.look hk u
  rw [show L.length = (L.set k ⟨c.p, u, c.wr⟩).length from (List.length_set ..).symm] at h1 ⊢
  have h2 := h1.write (k := k) (c := ⟨c.p, u, c.wr⟩) (List.getElem?_set_self (List.getElem?_eq_some_iff.1 hk).1) v
  rw [List.set_set] at h2
  exact h2
theorem RowS.same {w0 w : World} {v : Value} {L : List Cl} (h : RowS w0 w v L) {k : Nat} {c : Cl} (hk : L[k]? = some c) : RowS w0 w v (L.set k ⟨c.p, c.lk, c.wr⟩) := by
  have e : L.set k ⟨c.p, c.lk, c.wr⟩ = L := set_self hk
  rw [e]; exact h
theorem own_new (w : World) {base g : Nat} (h : base ≤ w.heap.size) (hg : w.heap.size = g) : (w.alloc (.cells #[] 34)).ownsRow base 34 3 (.slice (some ⟨g, 0, none⟩) 0 0) 0 [] := by
  subst hg
  refine ⟨rfl, .inr ⟨w.heap.size, 0, #[], rfl, h, ?_, Nat.le_refl _, by decide, rfl, rfl⟩⟩
  exact heap_new _ _
theorem three_new (w : World) {g : Nat} (hg : w.heap.size = g) (p q r : Int) : ∀ j u, [Value.int .i64 p, .int .i64 q, .int .i64 r][j]? = some u → (w.alloc (.cells #[.int .i64 p, .int .i64 q, .int .i64 r] 34)).cell? ((⟨g, 0, none⟩ : Addr).add j) = some u := by
  subst hg
  exact cell_three w _ _ _ 34
theorem news_grown {w w' : World} {row : Option Nat} {ad : Addr} {l : List Value} (hg : w.grownBy w' row) (hr : some ad.block ≠ row) (h : ∀ j u, l[j]? = some u → w.cell? (ad.add j) = some u) : ∀ j u, l[j]? = some u → w'.cell? (ad.add j) = some u := fun j u hj => hg.cell (h j u hj) (by unfold Addr.add; split <;> exact hr)
theorem news_alloc {w : World} {ad : Addr} {l : List Value} (o : Obj) (h : ∀ j u, l[j]? = some u → w.cell? (ad.add j) = some u) : ∀ j u, l[j]? = some u → (w.alloc o).cell? (ad.add j) = some u := fun j u hj => by
  have := h j u hj
  rw [World.cell?_alloc_some _ _ _ (by rw [this]; rfl)]
  exact this
/-- the cells of a row that stood are what they were -/
theorem news_old {w0 w w' : World} {g k cap : Nat} {L : List Cl} (h : RowS w0 w (.slice (some ⟨g, 0, none⟩) L.length cap) L) (hb : Below w.heap.size w w') (l : List Value) (hl : ∀ j u, l[j]? = some u → (flatC L)[k + j]? = some u) :
    ∀ j u, l[j]? = some u → w'.cell? ((⟨g, k, none⟩ : Addr).add j) = some u := fun j u hj => by
  have h1 := hl j u hj
  have h2 : k + j < (flatC L).length := (List.getElem?_eq_some_iff.1 h1).1
  rw [flatC_len] at h2
  have h3 := h.own.cellAt (k + j) h2
  have h4 : w.cell? ⟨g, k + j, none⟩ = some u := by rw [h3, h1]
  have h5 := World.block_lt_of_cell? w ⟨g, k + j, none⟩ h4
  have h6 := hb.cell (p := ⟨g, k + j, none⟩) (by simpa using h5)
  have h7 := h6.trans h4
  unfold Addr.add
  split
  · rename_i h0
    have h0 : j = 0 := by simpa using h0
    rw [h0, Nat.add_zero] at h7
    exact h7
  · exact h7
theorem fin_own0 {w : World} {base : Nat} {v : Value} {L : List Cl} {p : Int} (h : w.ownsRow base 34 3 v (0 + L.length + 1 + 0) ([] ++ flatC (L.take L.length) ++ [.int .i64 p, .int .i64 0, .int .i64 0] ++ [])) : w.ownsRow base 34 3 v (L.take L.length ++ (⟨p, 0, 0⟩ : Cl) :: L.drop L.length).length (flatC (L.take L.length ++ ⟨p, 0, 0⟩ :: L.drop L.length)) := by
  rw [flatC_app]
  simpa [flatC] using h
theorem fin_own {w : World} {base : Nat} {v : Value} {L : List Cl} {p : Int} {k : Nat} (hk : k ≤ L.length) (h : w.ownsRow base 34 3 v (0 + k + 1 + (L.length - k)) ([] ++ flatC (L.take k) ++ [.int .i64 p, .int .i64 0, .int .i64 0] ++ flatC (L.drop k))) : w.ownsRow base 34 3 v (L.take k ++ (⟨p, 0, 0⟩ : Cl) :: L.drop k).length (flatC (L.take k ++ ⟨p, 0, 0⟩ :: L.drop k)) := by
  rw [flatC_app]
  have e : (L.take k ++ (⟨p, 0, 0⟩ : Cl) :: L.drop k).length = 0 + k + 1 + (L.length - k) := by simp; omega
  rw [e]
  simpa [flatC] using h
theorem ht_of {w0 w : World} {ao : Option Addr} {cap : Nat} {L : List Cl} (h : RowS w0 w (.slice ao L.length cap) L) {k : Nat} (hk : k ≤ L.length) (hL : L.length ≤ 1300) :
    (flatC (L.take k)).length = k * 3 ∧ (ao = none → k = 0) ∧ (∀ W : World, Below w.heap.size w W → ∀ ad, ao = some ad → ∀ j u, (flatC (L.take k))[j]? = some u → W.cell? (ad.add j) = some u) ∧ 0 + k ≤ maxLen ∧ (0 + k) * 24 ≤ 140737488355328 := by
  refine ⟨by rw [flatC_len]; simp; omega, fun h0 => ?_, fun W hb ad h0 => ?_, Nat.le_trans (by omega : 0 + k ≤ 1300) (by decide), by omega⟩
  · rcases h.own.2 with ⟨_, h1⟩ | ⟨g, c, cur, hv, _⟩
    · omega
    · rw [h0] at hv; cases hv
  · rcases h.own.2 with ⟨hv, h1⟩ | ⟨g, c, cur, hv, _⟩
    · rw [h0] at hv; cases hv
    · rw [h0] at hv
      cases hv
      subst h0
      refine news_old (k := 0) h hb _ fun j u hj => ?_
      rw [← flatC_take] at hj
      rw [List.getElem?_take] at hj
      split at hj
      · simpa using hj
      · cases hj
end Go.Proofs.YtppdhckcempmnaaGreatDoor.Ce

/- The cell that was touched most; two rows of cells held together. -/
namespace Go.Proofs.YtppdhckcempmnaaGreatDoor.Ce
open Go Go.RowKit Go.Lib Go.Maps
def Cl.val (c : Cl) : Value := .agg #[.int .i64 c.p, .int .i64 c.lk, .int .i64 c.wr]
set_option maxHeartbeats 1600000 in
theorem compare_any (a b : Int) (w : World) : Calls Tryz.prog 28 #[.int .i64 a, .int .i64 b] w fun e w' => (∃ z : Int, e = .returned (.int .i64 z) ∧ (0 < z ↔ b < a)) ∧ w' = w := by
  rcases Int.lt_trichotomy a b with h | h | h
  · have h1 : ¬ a > b := by omega
    go_enter Tryz.func28, Tryz.ntmps28
    go_wp2
    go_ret
    exact ⟨⟨-1, rfl, by omega⟩, rfl⟩
  · subst h
    go_enter Tryz.func28, Tryz.ntmps28
    go_wp2
    go_ret
    exact ⟨⟨0, rfl, by omega⟩, rfl⟩
  · have h1 : ¬ a < b := by omega
    go_enter Tryz.func28, Tryz.ntmps28
    go_wp2
    go_ret
    exact ⟨⟨1, rfl, by omega⟩, rfl⟩
set_option maxHeartbeats 1600000 in
theorem hot1_any (a b : Cl) (w : World) : Calls Tryz.prog 27 #[a.val, b.val] w fun e w' => (∃ z : Int, e = .returned (.int .i64 z) ∧ (0 < z ↔ b.sm < a.sm)) ∧ Below w.heap.size w w' := by
  have c28 := fun W => compare_any a.sm b.sm W
  unfold Cl.sm W64 at c28
  unfold Cl.sm W64
  obtain ⟨ap, al, aw⟩ := a
  obtain ⟨bp, bl, bw⟩ := b
  unfold Cl.val
  dsimp only at c28 ⊢
  go_enter Tryz.func27, Tryz.ntmps27
  go_wp2_with (go_at_call 28; refine (c28 _).mono ?_; clear c28; rintro e w1 ⟨⟨z, rfl, hz⟩, rfl⟩; have HZ := Lib.hid hz; clear hz)
  go_ret
  exact ⟨⟨z, rfl, HZ.out⟩, ((Below.refl _ _).alloc (Nat.le_refl _) _).alloc (by simp) _⟩
theorem blk3 {w : World} {b : Nat} {t : TypeId} {v0 v1 v2 : Value} (h : w.heap[b]? = some (.cells #[v0, v1, v2] t (0, 0))) : w.cell? ⟨b, 0, none⟩ = some v0 ∧ w.cell? ⟨b, 1, none⟩ = some v1 ∧ w.cell? ⟨b, 2, none⟩ = some v2 ∧ w.frozen? ⟨b, 0, none⟩ = false ∧ w.frozen? ⟨b, 1, none⟩ = false ∧ w.frozen? ⟨b, 2, none⟩ = false := by
  refine ⟨?_, ?_, ?_, ?_, ?_, ?_⟩ <;> simp [World.cell?, World.frozen?, h]
theorem set3 {w : World} {b : Nat} {t : TypeId} {v0 v1 v2 : Value} (h : w.heap[b]? = some (.cells #[v0, v1, v2] t (0, 0))) (r0 r1 r2 : Value) :
    ∃ W, (((w.setCell ⟨b, 0, none⟩ r0).setCell ⟨b, 1, none⟩ r1).setCell ⟨b, 2, none⟩ r2) = W ∧ W.heap[b]? = some (.cells #[r0, r1, r2] t (0, 0)) ∧ W.heap.size = w.heap.size ∧ (∀ k, k ≠ b → W.heap[k]? = w.heap[k]?) ∧ ∀ (B : Nat) (a : World), Below B a w → B ≤ b → Below B a W := by
  have h1 := heap_setAt 0 r0 h
  simp only [Array.set!_eq_setIfInBounds, List.setIfInBounds_toArray, List.set_cons_zero] at h1
  have h2 := heap_setAt 1 r1 h1
  simp only [Array.set!_eq_setIfInBounds, List.setIfInBounds_toArray, List.set_cons_zero, List.set_cons_succ] at h2
  have h3 := heap_setAt 2 r2 h2
  simp only [Array.set!_eq_setIfInBounds, List.setIfInBounds_toArray, List.set_cons_zero, List.set_cons_succ] at h3
  refine ⟨_, rfl, h3, by simp [World.setCell], fun k hk => ?_, fun B a hB hb => ?_⟩
  · repeat rw [Below.heap_setCell _ _ _ k (by simpa using hk)]
  · exact (((hB.setCell (p := ⟨b, 0, none⟩) hb _).setCell (p := ⟨b, 1, none⟩) hb _).setCell (p := ⟨b, 2, none⟩) hb _)
def mx (b x : Cl) : Cl := if b.sm < x.sm then x else b
set_option maxRecDepth 1000000 in
set_option maxHeartbeats 6400000 in
theorem max_any (g cap : Nat) (c0 : Cl) (rest : List Cl) (w0 w : World) (h : RowS w0 w (.slice (some ⟨g, 0, none⟩) (c0 :: rest).length cap) (c0 :: rest)) (hn : rest.length ≤ 1300) :
    Calls Tryz.prog 26 #[.slice (some ⟨g, 0, none⟩) (c0 :: rest).length cap, .func (.func 27) #[] #[]] w fun e w' => e = .returned (rest.foldl mx c0).val ∧ Below w.heap.size w w' := by
  obtain ⟨q0, q1, q2, _, _, hg, _⟩ := h.cells (k := 0) (c := c0) rfl
  have hrow := fun (k : Nat) (c : Cl) (hk : (c0 :: rest)[k]? = some c) => h.cells hk
  have HR := Lib.hid hrow
  clear hrow h
  obtain ⟨N, hN⟩ : ∃ N, (c0 :: rest).length = N := ⟨_, rfl⟩
  have hN1 : N = rest.length + 1 := by rw [← hN]; simp
  rw [hN]
  have h0 : ¬ (N : Int) < 1 := by omega
  have hb0 : (0 : Int) < (N : Int) := by omega
  simp only [Nat.zero_mul, Nat.zero_add] at q0 q1 q2
  have HNN := Lib.hid (And.intro hN hN1)
  clear hN hN1
  obtain ⟨p0, l0, r0⟩ := c0
  dsimp only at q0 q1 q2
  go_enter Tryz.func26, Tryz.ntmps26
  go_wp2_with fail
  obtain ⟨B, hBB⟩ : ∃ B, w.heap.size = B := ⟨_, rfl⟩
  have s1 : (w.alloc (.cells #[.int .i64 0, .int .i64 0, .int .i64 0] 34)).heap.size = B + 1 := by simp [hBB]
  have u0 : ((w.alloc (.cells #[.int .i64 0, .int .i64 0, .int .i64 0] 34)).alloc (.cells #[.int .i64 p0, .int .i64 l0, .int .i64 r0] 34)).heap[B]? = some (.cells #[.int .i64 0, .int .i64 0, .int .i64 0] 34 (0, 0)) := by
    rw [Below.heap_alloc _ _ _ (by omega), ← hBB]; exact heap_new _ _
  have u1 : ((w.alloc (.cells #[.int .i64 0, .int .i64 0, .int .i64 0] 34)).alloc (.cells #[.int .i64 p0, .int .i64 l0, .int .i64 r0] 34)).heap[B + 1]? = some (.cells #[.int .i64 p0, .int .i64 l0, .int .i64 r0] 34 (0, 0)) := by
    rw [← s1]; exact heap_new _ _
  have u2 : Below B w ((w.alloc (.cells #[.int .i64 0, .int .i64 0, .int .i64 0] 34)).alloc (.cells #[.int .i64 p0, .int .i64 l0, .int .i64 r0] 34)) := by
    rw [← hBB]; exact ((Below.refl _ _).alloc (Nat.le_refl _) _).alloc (by omega) _
  have HI := Lib.hid (And.intro u0 (And.intro u1 u2))
  clear u0 u1 u2 s1 q0 q1 q2
  simp only [hBB]
  rw [hBB] at hg
  go_loopw [6] (fun s wr => ∃ j : Nat, s = .int .i64 ((j : Int) + 1) ∧ j ≤ rest.length ∧ Hid (wr.heap[B]? = some (.cells #[.int .i64 0, .int .i64 0, .int .i64 0] 34 (0, 0)) ∧ wr.heap[B + 1]? = some (Cl.obj ((rest.take j).foldl mx ⟨p0, l0, r0⟩)) ∧ Below B w wr)) (fun s _ => N - (RowKit.intOf s).toNat)
  case atStart => exact ⟨0, rfl, Nat.zero_le _, HI⟩
  case round =>
    obtain ⟨j, rfl, hj, HW⟩ := hrel
    clear HI
    obtain ⟨m, hm⟩ : ∃ m, (rest.take j).foldl mx ⟨p0, l0, r0⟩ = m := ⟨_, rfl⟩
    rw [hm] at HW
    have hN1 := HNN.out.2
    by_cases hlt : j < rest.length
    · obtain ⟨c, hc⟩ : ∃ c, rest[j]? = some c := ⟨rest[j], List.getElem?_eq_getElem hlt⟩
      obtain ⟨x0, x1, x2, _, _, _, _⟩ := HR.out (j + 1) c (by simpa using hc)
      have y0 := (HW.out.2.2.cell (p := ⟨g, (j + 1) * 3, none⟩) hg).trans x0
      have y1 := (HW.out.2.2.cell (p := ⟨g, (j + 1) * 3 + 1, none⟩) hg).trans x1
      have y2 := (HW.out.2.2.cell (p := ⟨g, (j + 1) * 3 + 2, none⟩) hg).trans x2
      have hstep : (rest.take (j + 1)).foldl mx ⟨p0, l0, r0⟩ = mx m c := by
        rw [List.take_add_one, hc, List.foldl_append, hm]; rfl
      have HS := Lib.hid hstep
      have c27 := fun W => hot1_any c m W
      have HC := Lib.hid hc
      clear hstep hm hc x0 x1 x2
      obtain ⟨z0, z1, z2, zf0, zf1, zf2⟩ := blk3 HW.out.2.1
      have h1 : ((j : Int) + 1) < (N : Int) := by omega
      have h2 : (0 : Int) ≤ (j : Int) + 1 := by omega
      have htn : ((j : Int) + 1).toNat = j + 1 := by omega
      have hBg : g < B := hg
      have hlen : j + 1 ≤ 1300 := by omega
      obtain ⟨cp, cl, cw⟩ := c
      obtain ⟨mp, ml, mw⟩ := m
      unfold Cl.val at c27
      dsimp only at c27 y0 y1 y2 z0 z1 z2
      have HNN2 := Lib.hid hN1
      have HLT := Lib.hid hlt
      clear hN1 hlt
      have hi64 : IntKind.i64.wrap ((j : Int) + 1) = (j : Int) + 1 := by rw [IntKind.wrap_i64]; omega
      go_wp2_with fail
      go_region_with
        (go_at_call 27
         refine (c27 _).mono ?_
         clear c27
         rintro e w1 ⟨⟨z, rfl, hz⟩, hB1⟩
         have v0 := (hB1.block B (by first | exact (Array.getElem?_eq_some_iff.1 HW.out.1).1 | (have := (Array.getElem?_eq_some_iff.1 HW.out.1).1; simpa using this))).trans HW.out.1
         have v1 := (hB1.block (B + 1) (by first | exact (Array.getElem?_eq_some_iff.1 HW.out.2.1).1 | (have := (Array.getElem?_eq_some_iff.1 HW.out.2.1).1; simpa using this))).trans HW.out.2.1
         have hBs : B ≤ wr.heap.size := Nat.le_of_lt (Array.getElem?_eq_some_iff.1 HW.out.1).1
         have v2 : Below B w w1 := HW.out.2.2.drew.trans (hB1.mono hBs)
         obtain ⟨x0, x1, x2, _, _, _, _⟩ := HR.out (j + 1) _ (by simpa using HC.out)
         have y0 := (v2.cell (p := ⟨g, (j + 1) * 3, none⟩) hBg).trans x0
         have y1 := (v2.cell (p := ⟨g, (j + 1) * 3 + 1, none⟩) hBg).trans x1
         have y2 := (v2.cell (p := ⟨g, (j + 1) * 3 + 2, none⟩) hBg).trans x2
         dsimp only at y0 y1 y2
         obtain ⟨z0, z1, z2, zf0, zf1, zf2⟩ := blk3 v1
         have HV := Lib.hid (And.intro v0 (And.intro v1 (And.intro v2 hz)))
         clear hB1 v0 v1 v2 hz hBs x0 x1 x2)
      all_goals (by_cases hzz : z > 0)
      all_goals go_wp2_with fail
      all_goals first
        | (obtain ⟨W5, hW5, g1, g2, g3, g4⟩ := set3 HV.out.2.1 (.int .i64 cp) (.int .i64 cl) (.int .i64 cw)
           rw [hW5]
           clear hW5
           go_roundw
           case rel =>
             refine ⟨j + 1, by simp, by have := HLT.out; omega, Lib.hid ⟨(g3 B (by omega)).trans HV.out.1, ?_, g4 B w HV.out.2.2.1 (by omega)⟩⟩
             rw [HS.out, mx, if_pos (HV.out.2.2.2.1 hzz)]
             exact g1
           case measure =>
             simp only [RowKit.intOf]
             have := HNN2.out
             omega)
        | (go_roundw
           case rel =>
             refine ⟨j + 1, by simp, by have := HLT.out; omega, Lib.hid ⟨HV.out.1, ?_, HV.out.2.2.1⟩⟩
             rw [HS.out, mx, if_neg (fun h => hzz (HV.out.2.2.2.2 h))]
             exact HV.out.2.1
           case measure =>
             simp only [RowKit.intOf]
             have := HNN2.out
             omega)
    · obtain rfl : j = rest.length := by omega
      rw [List.take_length] at hm
      have HM := Lib.hid hm
      obtain ⟨z0, z1, z2, _, _, _⟩ := blk3 HW.out.2.1
      obtain ⟨y0, y1, y2, f0, f1, f2⟩ := blk3 HW.out.1
      have hex : ¬ ((rest.length : Int) + 1 < (N : Int)) := by omega
      clear hm hlt
      obtain ⟨mp, ml, mw⟩ := m
      dsimp only at z0 z1 z2
      go_wp2_with fail
      obtain ⟨W5, hW5, g1, g2, g3, g4⟩ := set3 HW.out.1 (.int .i64 mp) (.int .i64 ml) (.int .i64 mw)
      rw [hW5]
      clear hW5
      obtain ⟨e0, e1, e2, _, _, _⟩ := blk3 g1
      have HZ := Lib.hid (g4 B w HW.out.2.2 (Nat.le_refl _))
      clear g1 g2 g3 g4
      refine bodyPost_ret (v := .agg #[.int .i64 mp, .int .i64 ml, .int .i64 mw]) (by simp [results, Tryz.results26, go_sem, e0, e1, e2]) rfl ⟨by rw [HM.out]; rfl, ?_⟩
      first | exact HZ.out | (rw [hBB]; exact HZ.out)
end Go.Proofs.YtppdhckcempmnaaGreatDoor.Ce

/- The hottest cell; two rows that hold the same. -/
namespace Go.Proofs.YtppdhckcempmnaaGreatDoor.Ce
open Go Go.RowKit Go.Lib Go.Maps
set_option maxHeartbeats 1600000 in
theorem hot_none (a : Option Addr) (cap : Nat) (w : World) : Calls Tryz.prog 12 #[.slice a 0 cap] w fun e w' => e = .returned (.tuple #[.agg #[.int .i64 0, .int .i64 0, .int .i64 0], .bool false]) ∧ Below w.heap.size w w' := by
  have h0 : (w.alloc (.cells #[.int .i64 0, .int .i64 0, .int .i64 0] 34)).heap[w.heap.size]? = some (.cells #[.int .i64 0, .int .i64 0, .int .i64 0] 34 (0, 0)) := heap_new _ _
  have hB : Below w.heap.size w (w.alloc (.cells #[.int .i64 0, .int .i64 0, .int .i64 0] 34)) := (Below.refl _ _).alloc (Nat.le_refl _) _
  have H := Lib.hid (And.intro h0 hB)
  clear h0 hB
  go_enter Tryz.func12, Tryz.ntmps12
  go_wp2_with fail
  refine bodyPost_ret (v := .tuple #[.agg #[.int .i64 0, .int .i64 0, .int .i64 0], .bool false]) (by simp [results, Tryz.results12, go_sem]) rfl ⟨rfl, ?_⟩
  exact H.out.2
set_option maxHeartbeats 1600000 in
theorem hot_any (g cap : Nat) (c0 : Cl) (rest : List Cl) (w0 w : World) (h : RowS w0 w (.slice (some ⟨g, 0, none⟩) (c0 :: rest).length cap) (c0 :: rest)) (hn : rest.length ≤ 1300) :
    Calls Tryz.prog 12 #[.slice (some ⟨g, 0, none⟩) (c0 :: rest).length cap] w fun e w' => e = .returned (.tuple #[(rest.foldl mx c0).val, .bool true]) ∧ Below w.heap.size w w' := by
  have h0 : (w.alloc (.cells #[.int .i64 0, .int .i64 0, .int .i64 0] 34)).heap[w.heap.size]? = some (.cells #[.int .i64 0, .int .i64 0, .int .i64 0] 34 (0, 0)) := heap_new _ _
  have hB : Below w.heap.size w (w.alloc (.cells #[.int .i64 0, .int .i64 0, .int .i64 0] 34)) := (Below.refl _ _).alloc (Nat.le_refl _) _
  have c26 := max_any g cap c0 rest w0 _ (h.grow hB) hn
  have hsz : (w.alloc (.cells #[.int .i64 0, .int .i64 0, .int .i64 0] 34)).heap.size = w.heap.size + 1 := by simp
  have H := Lib.hid (And.intro h0 (And.intro hB hsz))
  obtain ⟨N, hN⟩ : ∃ N, (c0 :: rest).length = N := ⟨_, rfl⟩
  have hN0 : ¬ ((N : Int) = 0) := by
    have : N = rest.length + 1 := by rw [← hN]; simp
    omega
  have hN1 : ((N : Int) == 0) = false := by simpa using hN0
  rw [hN] at c26 ⊢
  obtain ⟨m, hm⟩ : ∃ m, rest.foldl mx c0 = m := ⟨_, rfl⟩
  rw [hm] at c26 ⊢
  clear h0 hB h hN hm hsz
  obtain ⟨mp, ml, mw⟩ := m
  unfold Cl.val at c26 ⊢
  dsimp only at c26 ⊢
  go_enter Tryz.func12, Tryz.ntmps12
  go_wp2_with (go_at_call 26; refine c26.mono ?_; clear c26; rintro e w2 ⟨rfl, hB2⟩
               have v1 := (hB2.block w.heap.size (by have := H.out.2.2; omega)).trans H.out.1
               obtain ⟨y0, y1, y2, f0, f1, f2⟩ := blk3 v1
               have HV := Lib.hid (And.intro v1 (H.out.2.1.trans (hB2.mono (by have := H.out.2.2; omega))))
               clear hB2 v1)
  obtain ⟨W5, hW5, g1, g2, g3, g4⟩ := set3 HV.out.1 (.int .i64 mp) (.int .i64 ml) (.int .i64 mw)
  rw [hW5]
  clear hW5
  obtain ⟨e0, e1, e2, _, _, _⟩ := blk3 g1
  have HZ := Lib.hid (g4 w.heap.size w HV.out.2 (Nat.le_refl _))
  clear g1 g2 g3 g4
  refine bodyPost_ret (v := .tuple #[.agg #[.int .i64 mp, .int .i64 ml, .int .i64 mw], .bool true]) (by simp [results, Tryz.results12, go_sem, e0, e1, e2]) rfl ⟨rfl, ?_⟩
  exact HZ.out
set_option maxHeartbeats 3200000 in
theorem same_any (a a' : Option Addr) (c c' : Nat) (L : List Cl) (w0 w0' w : World) (h : RowS w0 w (.slice a L.length c) L) (h' : RowS w0' w (.slice a' L.length c') L) (hn : L.length ≤ 1300) :
    Calls Tryz.prog 10 #[.slice a L.length c, .slice a' L.length c'] w fun e w' => e = .returned (.bool true) ∧ Below w.heap.size w w' := by
  have hrd : ∀ k x, L[k]? = some x → ∃ g g', a = some ⟨g, 0, none⟩ ∧ a' = some ⟨g', 0, none⟩ ∧ g < w.heap.size ∧ g' < w.heap.size ∧ (w.cell? ⟨g, k * 3, none⟩ = some (.int .i64 x.p) ∧ w.cell? ⟨g, k * 3 + 1, none⟩ = some (.int .i64 x.lk) ∧ w.cell? ⟨g, k * 3 + 2, none⟩ = some (.int .i64 x.wr)) ∧ (w.cell? ⟨g', k * 3, none⟩ = some (.int .i64 x.p) ∧ w.cell? ⟨g', k * 3 + 1, none⟩ = some (.int .i64 x.lk) ∧ w.cell? ⟨g', k * 3 + 2, none⟩ = some (.int .i64 x.wr)) := fun k x hk => by
    obtain ⟨ao, cap, e1, _, hao⟩ := h.form
    obtain ⟨ao', cap', e1', _, hao'⟩ := h'.form
    obtain ⟨g, rfl⟩ := hao k x hk
    obtain ⟨g', rfl⟩ := hao' k x hk
    cases e1
    cases e1'
    obtain ⟨x0, x1, x2, _, _, x5, _⟩ := h.cells hk
    obtain ⟨y0, y1, y2, _, _, y5, _⟩ := h'.cells hk
    exact ⟨g, g', rfl, rfl, x5, y5, ⟨x0, x1, x2⟩, ⟨y0, y1, y2⟩⟩
  have HR := Lib.hid hrd
  clear hrd h h'
  go_enter Tryz.func10, Tryz.ntmps10
  go_wp2_with fail
  go_loopw [13] (fun s wr => ∃ k : Nat, k ≤ L.length ∧ s = .int .i64 k ∧ Hid (Below w.heap.size w wr)) (fun s _ => L.length - (RowKit.intOf s).toNat)
  case atStart => exact ⟨0, Nat.zero_le _, rfl, Lib.hid (Below.refl _ _)⟩
  case round =>
    obtain ⟨k, hk, rfl, hB⟩ := hrel
    by_cases hlt : k < L.length
    · obtain ⟨x, hx⟩ : ∃ x, L[k]? = some x := ⟨L[k], List.getElem?_eq_getElem hlt⟩
      obtain ⟨g, g', rfl, rfl, hg, hg', ⟨x0, x1, x2⟩, ⟨y0, y1, y2⟩⟩ := HR.out k x hx
      have x0 := (hB.out.cell (p := ⟨g, k * 3, none⟩) hg).trans x0
      have x1 := (hB.out.cell (p := ⟨g, k * 3 + 1, none⟩) hg).trans x1
      have x2 := (hB.out.cell (p := ⟨g, k * 3 + 2, none⟩) hg).trans x2
      have y0 := (hB.out.cell (p := ⟨g', k * 3, none⟩) hg').trans y0
      have y1 := (hB.out.cell (p := ⟨g', k * 3 + 1, none⟩) hg').trans y1
      have y2 := (hB.out.cell (p := ⟨g', k * 3 + 2, none⟩) hg').trans y2
      have h1 : (k : Int) < (L.length : Int) := by omega
      have h2 : (0 : Int) ≤ (k : Int) := by omega
      clear hx HR
      obtain ⟨p, lk, wt⟩ := x
      dsimp only at x0 x1 x2 y0 y1 y2
      go_wp2_with fail
      go_quiet (fail)
      all_goals go_wp2_with fail
      all_goals go_roundw
      all_goals first
        | (simp only [RowKit.intOf]; omega)
        | exact ⟨k + 1, by omega, by go_num, Lib.hid hB.out.drew⟩
        | exact ⟨k + 1, by omega, by go_num, Lib.hid ⟨hB.out.os, hB.out.tape, hB.out.output, hB.out.size, hB.out.block⟩⟩
    · obtain rfl : k = L.length := by omega
      go_wp2_with fail
      go_ret
      exact ⟨rfl, hB.out⟩
end Go.Proofs.YtppdhckcempmnaaGreatDoor.Ce

/- What is appended to a row of one's own, nothing or more, at a step of a region that draws. -/
namespace Go.Proofs.YtppdhckcempmnaaGreatDoor.Ce
open Go Go.RowKit
section
variable {P : Program} (w : World)
theorem run_app (t ty : TypeId) (base : Nat) (e : TypeId) (i : TypeInfo) (z : Value) (size bytes : Nat) (ht : P.underlying t = some (.slice e)) (hi : P.info? e = some i) (hz : i.zero = some z)
    (hsize : i.size = size) (hby : i.bytes = bytes) (hzs : z.cells.size = size) (hsz : 0 < size)
    (v : Value) (n : Nat) (xs : List Value) (hown : w.ownsRow base e size v n xs)
    (ao : Option Addr) (m c : Nat) (news : List Value) (hl : news.length = m * size) (hno : ao = none → m = 0) (hnews : ∀ ad, ao = some ad → ∀ j u, news[j]? = some u → w.cell? (ad.add j) = some u) (h1 : ∀ u ∈ news, u.oneCell' = true)
    (h63 : n + m ≤ maxLen) (hbytes : (n + m) * bytes ≤ 140737488355328) (hbase : base ≤ w.heap.size) :
    ∃ v' w', (Builtin.append_ #[t, t] ty #[v, .slice ao m c]).run P w = .ok v' w' ∧
      w'.ownsRow base e size v' (n + m) (xs ++ news) ∧ w.grownBy w' v.ownBlock ∧ (v'.ownBlock = v.ownBlock ∨ v'.ownBlock = some w.heap.size) := by
  cases ao with
  | some ad =>
    obtain ⟨v', w', hr, h2, h3, _, h5⟩ := run_append_own_at (P := P) w base t ty e i z size bytes ht hi hz hsize hby hzs hsz v n xs hown ad m c news hl (hnews ad rfl) h1 h63 hbytes hbase
    exact ⟨v', w', hr, h2, h3, h5⟩
  | none =>
    obtain rfl := hno rfl
    have hn : news = [] := List.eq_nil_of_length_eq_zero (by simpa using hl)
    subst hn
    subst hsize
    refine ⟨v, w, ?_, by simpa using hown, ⟨rfl, rfl, rfl, Nat.le_refl _, fun _ _ _ => rfl⟩, .inl rfl⟩
    rcases hown.2 with ⟨rfl, rfl⟩ | ⟨g, cap, cur, rfl, hbg, hg, hnc, hcm, hcs, htake⟩
    · simp [Builtin.append_, run_underlying ht, sizeOf, typeInfo, hi, Builtin.lenOf, Builtin.firstCells]
    · have := hnc
      simp only [Nat.add_zero] at h63
      simp [Builtin.append_, run_underlying ht, sizeOf, typeInfo, hi, Builtin.lenOf, Builtin.firstCells, hnc]
      rfl
theorem wp_app {o : Oper} {a : Act} {K : Act → World → Prop} {Q : Exit → Act → World → Prop} (s x : Operand) (t : TypeId)
    (ho : o.op = .call { callee := .builtin .append, args := #[s, x], argTypes := #[t, t] })
    (base : Nat) (e : TypeId) (i : TypeInfo) (z : Value) (size bytes : Nat) (ht : P.underlying t = some (.slice e)) (hi : P.info? e = some i) (hz : i.zero = some z)
    (hsize : i.size = size) (hby : i.bytes = bytes) (hzs : z.cells.size = size) (hsz : 0 < size)
    (v : Value) (n : Nat) (xs : List Value) (hs : a.eval s = v) (hown : w.ownsRow base e size v n xs)
    (ao : Option Addr) (m c : Nat) (news : List Value) (hx : a.eval x = .slice ao m c) (hl : news.length = m * size) (hno : ao = none → m = 0) (hnews : ∀ ad, ao = some ad → ∀ j u, news[j]? = some u → w.cell? (ad.add j) = some u) (h1 : ∀ u ∈ news, u.oneCell' = true)
    (h63 : n + m ≤ maxLen) (hbytes : (n + m) * bytes ≤ 140737488355328) (hbase : base ≤ w.heap.size)
    (h : ∀ v' w', w'.ownsRow base e size v' (n + m) (xs ++ news) → w.grownBy w' v.ownBlock → (v'.ownBlock = v.ownBlock ∨ v'.ownBlock = some w.heap.size) → K (a.put o.dst v') w') : o.wp P a w K Q := by
  obtain ⟨v', w', hr, h2, h3, h4⟩ := run_app (P := P) w t o.type base e i z size bytes ht hi hz hsize hby hzs hsz v n xs hown ao m c news hl hno hnews h1 h63 hbytes hbase
  unfold Oper.wp execOp
  simp only [ho, resolve, invoke, builtin, Sem.run_bind, Sem.run_pure, Result.andThen_ok, List.map_toArray, List.map_cons, List.map_nil, hs, hx, hr]
  exact h v' w' h2 h3 h4
theorem step_app {ops : Array Oper} {o : Oper} {a : Act} {K : Act → World → Prop} {Q : Exit → Act → World → Prop} {E : Prop} (hgd : o.guard = none) (s x : Operand) (t : TypeId)
    (ho : o.op = .call { callee := .builtin .append, args := #[s, x], argTypes := #[t, t] })
    (base : Nat) (e : TypeId) (i : TypeInfo) (z : Value) (size bytes : Nat) (ht : P.underlying t = some (.slice e)) (hi : P.info? e = some i) (hz : i.zero = some z)
    (hsize : i.size = size) (hby : i.bytes = bytes) (hzs : z.cells.size = size) (hsz : 0 < size)
    (v : Value) (n : Nat) (xs : List Value) (hs : a.eval s = v) (hown : w.ownsRow base e size v n xs)
    (ao : Option Addr) (m c : Nat) (news : List Value) (hx : a.eval x = .slice ao m c) (hl : news.length = m * size) (hno : ao = none → m = 0) (hnews : ∀ ad, ao = some ad → ∀ j u, news[j]? = some u → w.cell? (ad.add j) = some u) (h1 : ∀ u ∈ news, u.oneCell' = true)
    (h63 : n + m ≤ maxLen) (hbytes : (n + m) * bytes ≤ 140737488355328) (hbase : base ≤ w.heap.size)
    (h : ∀ v' w', w'.ownsRow base e size v' (n + m) (xs ++ news) → w.grownBy w' v.ownBlock → (v'.ownBlock = v.ownBlock ∨ v'.ownBlock = some w.heap.size) → K (a.put o.dst v') w') :
    if Region.wanted o (yielded ops a.tmps) = true then Oper.wp P o a w K Q else E := by
  have hw : Region.wanted o (yielded ops a.tmps) = true := by simp [Region.wanted, hgd]
  rw [if_pos hw]
  exact wp_app w s x t ho base e i z size bytes ht hi hz hsize hby hzs hsz v n xs hs hown ao m c news hx hl hno hnews h1 h63 hbytes hbase h
end
end Go.Proofs.YtppdhckcempmnaaGreatDoor.Ce
