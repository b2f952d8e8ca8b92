/- The document's Unstick, path by path: up to the tail. -/
import Derived.Test.YtlaogoehmndcjaaGreatDoorTpF
set_option linter.unusedVariables false
namespace Go.Proofs.YtlaogoehmndcjaaGreatDoor.Sy
open Go Go.RowKit Go.Lib Go.Base Go.Pr Go.Proofs.YtlaogoehmndcjaaGreatDoor.Ba
set_option maxRecDepth 1000000 in
set_option maxHeartbeats 3200000 in
theorem uns_low (base term mtu subs ini ses str : Int) (hl : LogOk base term mtu subs) (hni : -2147483648 ≤ ini ∧ ini < 2147483648) (hns : -2147483648 ≤ ses ∧ ses < 2147483648) (hnt : -2147483648 ≤ str ∧ str < 2147483648) (pos : Int)  (w : World) (tb : Nat) (ga : Option Addr) (cap : Nat) (L : List Tld) (a : Nat) (h : TpS w tb ga cap L a none) (hpos : pos < 0) : Calls Tryz.prog 41 #[.pointer (some ⟨tb, 0, none⟩), .agg #[.int .i64 base, .int .i64 term, .int .i64 mtu, .int .i64 subs, .int .i32 ini, .int .i32 ses, .int .i32 str], .int .i64 pos] w fun e w' => e = .returned (.tuple #[.int .i64 (0), .int .i64 (0), .int .i64 (1)]) ∧ TpK w w' tb ga cap L (a) (none) := by
  have hb : 256 ≤ term ∧ term ≤ 8192 ∧ 0 ≤ base ∧ base ≤ 131072 := by obtain ⟨h1, h2⟩ := hl; rcases h1 with h1 | h1 | h1 | h1 | h1 | h1 <;> omega
  have hb2 : 0 ≤ mtu ∧ mtu ≤ 100000 ∧ 0 ≤ subs ∧ subs ≤ 8 := by obtain ⟨h1, h2⟩ := hl; omega
  have c38 := fun W => rightR_any ⟨base, term, mtu, subs, ini, ses, str⟩ ⟨by show _ ≤ base; omega, by show base ≤ _; omega, by show _ ≤ term; omega, by show term ≤ _; omega, by show _ ≤ mtu; omega, by show mtu ≤ _; omega, by show _ ≤ subs; omega, by show subs ≤ _; omega⟩ W
  have c67 := fun W => maxPosR term hl.1 W
  unfold Lg.val at c38
  dsimp only at c38
  rw [decide_eq_true (show Lg.ok ⟨base, term, mtu, subs, ini, ses, str⟩ from hl)] at c38
  have r9 : pos < 0 := hpos
  obtain ⟨X, hX⟩ : ∃ X, w.heap.size = X := ⟨_, rfl⟩
  obtain ⟨W1, hW1⟩ : ∃ W1, w.alloc (.cells #[.int .i64 base, .int .i64 term, .int .i64 mtu, .int .i64 subs, .int .i32 ini, .int .i32 ses, .int .i32 str] 23) = W1 := ⟨_, rfl⟩
  have HX := Lib.hid (hW1 ▸ UB.new (base := base) (term := term) (mtu := mtu) (subs := subs) (ini := ini) (ses := ses) (str := str) h hX)
  obtain ⟨m0, m1, m2, m3, m4, m5, m6⟩ := HX.out.cells
  have hs1 : W1.heap.size = X + 1 := by rw [← hW1, ← hX]; simp
  go_enter Tryz.func41, Tryz.ntmps41
  go_wp2_with (first | (go_at_call 38; refine (c38 _).mono ?_; clear c38; rintro e v38 ⟨rfl, hB⟩; replace HX := Lib.hid (HX.out.below hB); clear hB; clear m0 m1 m2 m3 m4 m5 m6; obtain ⟨m0, m1, m2, m3, m4, m5, m6⟩ := HX.out.cells) | (go_at_call 67; refine (c67 _).mono ?_; clear c67; rintro e v67 ⟨rfl, hw⟩; subst v67))
  refine bodyPost_ret (v := .tuple #[.int .i64 (0), .int .i64 (0), .int .i64 (1)]) (by simp [results, Tryz.results41, go_sem]) rfl ⟨rfl, HX.out.tp⟩
set_option maxRecDepth 1000000 in
set_option maxHeartbeats 3200000 in
theorem uns_high (base term mtu subs ini ses str : Int) (hl : LogOk base term mtu subs) (hni : -2147483648 ≤ ini ∧ ini < 2147483648) (hns : -2147483648 ≤ ses ∧ ses < 2147483648) (hnt : -2147483648 ≤ str ∧ str < 2147483648) (pos : Int)  (w : World) (tb : Nat) (ga : Option Addr) (cap : Nat) (L : List Tld) (a : Nat) (h : TpS w tb ga cap L a none) (hpos : 0 ≤ pos ∧ pos ≥ term * 2147483648) : Calls Tryz.prog 41 #[.pointer (some ⟨tb, 0, none⟩), .agg #[.int .i64 base, .int .i64 term, .int .i64 mtu, .int .i64 subs, .int .i32 ini, .int .i32 ses, .int .i32 str], .int .i64 pos] w fun e w' => e = .returned (.tuple #[.int .i64 (0), .int .i64 (0), .int .i64 (1)]) ∧ TpK w w' tb ga cap L (a) (none) := by
  have hb : 256 ≤ term ∧ term ≤ 8192 ∧ 0 ≤ base ∧ base ≤ 131072 := by obtain ⟨h1, h2⟩ := hl; rcases h1 with h1 | h1 | h1 | h1 | h1 | h1 <;> omega
  have hb2 : 0 ≤ mtu ∧ mtu ≤ 100000 ∧ 0 ≤ subs ∧ subs ≤ 8 := by obtain ⟨h1, h2⟩ := hl; omega
  have c38 := fun W => rightR_any ⟨base, term, mtu, subs, ini, ses, str⟩ ⟨by show _ ≤ base; omega, by show base ≤ _; omega, by show _ ≤ term; omega, by show term ≤ _; omega, by show _ ≤ mtu; omega, by show mtu ≤ _; omega, by show _ ≤ subs; omega, by show subs ≤ _; omega⟩ W
  have c67 := fun W => maxPosR term hl.1 W
  unfold Lg.val at c38
  dsimp only at c38
  rw [decide_eq_true (show Lg.ok ⟨base, term, mtu, subs, ini, ses, str⟩ from hl)] at c38
  have r9 : ¬ pos < 0 := by omega
  have r10 : pos ≥ term * 2147483648 := hpos.2
  obtain ⟨X, hX⟩ : ∃ X, w.heap.size = X := ⟨_, rfl⟩
  obtain ⟨W1, hW1⟩ : ∃ W1, w.alloc (.cells #[.int .i64 base, .int .i64 term, .int .i64 mtu, .int .i64 subs, .int .i32 ini, .int .i32 ses, .int .i32 str] 23) = W1 := ⟨_, rfl⟩
  have HX := Lib.hid (hW1 ▸ UB.new (base := base) (term := term) (mtu := mtu) (subs := subs) (ini := ini) (ses := ses) (str := str) h hX)
  obtain ⟨m0, m1, m2, m3, m4, m5, m6⟩ := HX.out.cells
  have hs1 : W1.heap.size = X + 1 := by rw [← hW1, ← hX]; simp
  go_enter Tryz.func41, Tryz.ntmps41
  go_wp2_with (first | (go_at_call 38; refine (c38 _).mono ?_; clear c38; rintro e v38 ⟨rfl, hB⟩; replace HX := Lib.hid (HX.out.below hB); clear hB; clear m0 m1 m2 m3 m4 m5 m6; obtain ⟨m0, m1, m2, m3, m4, m5, m6⟩ := HX.out.cells) | (go_at_call 67; refine (c67 _).mono ?_; clear c67; rintro e v67 ⟨rfl, hw⟩; subst v67))
  refine bodyPost_ret (v := .tuple #[.int .i64 (0), .int .i64 (0), .int .i64 (1)]) (by simp [results, Tryz.results41, go_sem]) rfl ⟨rfl, HX.out.tp⟩
set_option maxRecDepth 1000000 in
set_option maxHeartbeats 3200000 in
theorem uns_n1 (base term mtu subs ini ses str : Int) (hl : LogOk base term mtu subs) (hni : -2147483648 ≤ ini ∧ ini < 2147483648) (hns : -2147483648 ≤ ses ∧ ses < 2147483648) (hnt : -2147483648 ≤ str ∧ str < 2147483648) (pos : Int) (q off p3 trm part tat : Int) (hq : pos / term = q) (ho : pos % term = off) (h3 : q % 3 = p3) (htr : s32 (ini + q) = trm) (hpa : base + term * p3 = part) (hta : base + 3 * term + 8 * p3 = tat) (w : World) (tb : Nat) (ga : Option Addr) (cap : Nat) (L : List Tld) (a : Nat) (h : TpS w tb ga cap L a none) (hpos : 0 ≤ pos ∧ pos < term * 2147483648) (hd : L.drop a = []) : Calls Tryz.prog 41 #[.pointer (some ⟨tb, 0, none⟩), .agg #[.int .i64 base, .int .i64 term, .int .i64 mtu, .int .i64 subs, .int .i32 ini, .int .i32 ses, .int .i32 str], .int .i64 pos] w fun e w' => e = .returned (.tuple #[.int .i64 (0), .int .i64 (0), .int .i64 (10)]) ∧ TpK w w' tb ga cap L (a) (some (Base.load tat 8)) := by
  have hb : 256 ≤ term ∧ term ≤ 8192 ∧ 0 ≤ base ∧ base ≤ 131072 := by obtain ⟨h1, h2⟩ := hl; rcases h1 with h1 | h1 | h1 | h1 | h1 | h1 <;> omega
  have hb2 : 0 ≤ mtu ∧ mtu ≤ 100000 ∧ 0 ≤ subs ∧ subs ≤ 8 := by obtain ⟨h1, h2⟩ := hl; omega
  have c38 := fun W => rightR_any ⟨base, term, mtu, subs, ini, ses, str⟩ ⟨by show _ ≤ base; omega, by show base ≤ _; omega, by show _ ≤ term; omega, by show term ≤ _; omega, by show _ ≤ mtu; omega, by show mtu ≤ _; omega, by show _ ≤ subs; omega, by show subs ≤ _; omega⟩ W
  have c67 := fun W => maxPosR term hl.1 W
  unfold Lg.val at c38
  dsimp only at c38
  rw [decide_eq_true (show Lg.ok ⟨base, term, mtu, subs, ini, ses, str⟩ from hl)] at c38
  obtain ⟨hq1, ho1, h31, hpos2, hpa1, hta1, htr1, c68, c69, c70, r1, r2, r1', r2', r3, r4, r5, r6, r7, r8, r9, r10⟩ := uns_nums base term mtu subs ini ses str hl hni pos hpos q off p3 trm part tat hq ho h3 htr hpa hta
  have c39 : ∀ W, TpS W tb ga cap L a none → _ := fun W hW => load_nil tat 8 hW hd
  obtain ⟨X, hX⟩ : ∃ X, w.heap.size = X := ⟨_, rfl⟩
  obtain ⟨W1, hW1⟩ : ∃ W1, w.alloc (.cells #[.int .i64 base, .int .i64 term, .int .i64 mtu, .int .i64 subs, .int .i32 ini, .int .i32 ses, .int .i32 str] 23) = W1 := ⟨_, rfl⟩
  have HX := Lib.hid (hW1 ▸ UB.new (base := base) (term := term) (mtu := mtu) (subs := subs) (ini := ini) (ses := ses) (str := str) h hX)
  obtain ⟨m0, m1, m2, m3, m4, m5, m6⟩ := HX.out.cells
  have hs1 : W1.heap.size = X + 1 := by rw [← hW1, ← hX]; simp
  clear hl h hq ho h3 htr hpa hta
  go_enter Tryz.func41, Tryz.ntmps41
  go_wp2_with (first | (go_at_call 38; refine (c38 _).mono ?_; clear c38; rintro e v38 ⟨rfl, hB⟩; replace HX := Lib.hid (HX.out.below hB); clear hB; clear m0 m1 m2 m3 m4 m5 m6; obtain ⟨m0, m1, m2, m3, m4, m5, m6⟩ := HX.out.cells) | (go_at_call 67; refine (c67 _).mono ?_; clear c67; rintro e v67 ⟨rfl, hw⟩; subst v67))
  go_quiet (fail)
  replace HX := Lib.hid (HX.out.drew nq)
  clear m0 m1 m2 m3 m4 m5 m6
  obtain ⟨m0, m1, m2, m3, m4, m5, m6⟩ := HX.out.cells
  obtain ⟨V, hV⟩ : ∃ V, v38.drewN nq = V := ⟨_, rfl⟩
  rw [hV] at HX m0 m1 m2 m3 m4 m5 m6 ⊢
  go_wp2_with (first | (go_at_call 69; refine (c69 _).mono ?_; clear c69; rintro e v69 ⟨rfl, hB⟩; replace HX := Lib.hid (HX.out.below hB); clear hB; clear m0 m1 m2 m3 m4 m5 m6; obtain ⟨m0, m1, m2, m3, m4, m5, m6⟩ := HX.out.cells) | (go_at_call 70; refine (c70 _).mono ?_; clear c70; rintro e v70 ⟨rfl, hB⟩; replace HX := Lib.hid (HX.out.below hB); clear hB; clear m0 m1 m2 m3 m4 m5 m6; obtain ⟨m0, m1, m2, m3, m4, m5, m6⟩ := HX.out.cells) | (go_at_call 68; refine (c68 _).mono ?_; clear c68; rintro e v68 ⟨rfl, hw⟩; subst v68) | (go_at_call 39; refine (c39 _ HX.out.tp.1).mono ?_; clear c39; rintro e vc39 ⟨rfl, hK⟩; replace HX := Lib.hid (HX.out.step hK); clear hK; clear m0 m1 m2 m3 m4 m5 m6; obtain ⟨m0, m1, m2, m3, m4, m5, m6⟩ := HX.out.cells))
  refine bodyPost_ret (v := .tuple #[.int .i64 (0), .int .i64 (0), .int .i64 (10)]) (by simp [results, Tryz.results41, go_sem]) rfl ⟨rfl, HX.out.tp⟩
set_option maxRecDepth 1000000 in
set_option maxHeartbeats 3200000 in
theorem uns_t1 (base term mtu subs ini ses str : Int) (hl : LogOk base term mtu subs) (hni : -2147483648 ≤ ini ∧ ini < 2147483648) (hns : -2147483648 ≤ ses ∧ ses < 2147483648) (hnt : -2147483648 ≤ str ∧ str < 2147483648) (pos : Int) (q off p3 trm part tat : Int) (hq : pos / term = q) (ho : pos % term = off) (h3 : q % 3 = p3) (htr : s32 (ini + q) = trm) (hpa : base + term * p3 = part) (hta : base + 3 * term + 8 * p3 = tat) (w : World) (tb : Nat) (ga : Option Addr) (cap : Nat) (L : List Tld) (a : Nat) (h : TpS w tb ga cap L a none) (hpos : 0 ≤ pos ∧ pos < term * 2147483648) (x : Tld) (m : List Tld) (hd : L.drop a = x :: m) (xv sv tl fin : Int) (hxv : x.v = xv) (hsv : s32 (xv / 4294967296) = sv) (htl : xv % 4294967296 = tl) (hfin : min tl term = fin) (hne : sv ≠ trm) : Calls Tryz.prog 41 #[.pointer (some ⟨tb, 0, none⟩), .agg #[.int .i64 base, .int .i64 term, .int .i64 mtu, .int .i64 subs, .int .i32 ini, .int .i32 ses, .int .i32 str], .int .i64 pos] w fun e w' => e = .returned (.tuple #[.int .i64 (0), .int .i64 (0), .int .i64 (0)]) ∧ TpK w w' tb ga cap L (a + 1) (none) := by
  have hb : 256 ≤ term ∧ term ≤ 8192 ∧ 0 ≤ base ∧ base ≤ 131072 := by obtain ⟨h1, h2⟩ := hl; rcases h1 with h1 | h1 | h1 | h1 | h1 | h1 <;> omega
  have hb2 : 0 ≤ mtu ∧ mtu ≤ 100000 ∧ 0 ≤ subs ∧ subs ≤ 8 := by obtain ⟨h1, h2⟩ := hl; omega
  have c38 := fun W => rightR_any ⟨base, term, mtu, subs, ini, ses, str⟩ ⟨by show _ ≤ base; omega, by show base ≤ _; omega, by show _ ≤ term; omega, by show term ≤ _; omega, by show _ ≤ mtu; omega, by show mtu ≤ _; omega, by show _ ≤ subs; omega, by show subs ≤ _; omega⟩ W
  have c67 := fun W => maxPosR term hl.1 W
  unfold Lg.val at c38
  dsimp only at c38
  rw [decide_eq_true (show Lg.ok ⟨base, term, mtu, subs, ini, ses, str⟩ from hl)] at c38
  obtain ⟨hq1, ho1, h31, hpos2, hpa1, hta1, htr1, c68, c69, c70, r1, r2, r1', r2', r3, r4, r5, r6, r7, r8, r9, r10⟩ := uns_nums base term mtu subs ini ses str hl hni pos hpos q off p3 trm part tat hq ho h3 htr hpa hta
  have c39 : ∀ W, TpS W tb ga cap L a none → _ := fun W hW => load_cons tat 8 hW hd
  have hxb := (h.row a x (drop_cons hd).1).1
  rw [hxv] at c39 hxb
  have c71 := fun W => unpackR xv hxb W
  rw [hsv, htl] at c71
  have htl1 : 0 ≤ tl ∧ tl < 4294967296 := by omega
  have hmin : (if term < tl then term else tl) = fin := by rw [← hfin]; split <;> omega
  have hfin1 : 0 ≤ fin ∧ fin ≤ term := by omega
  have w1 : IntKind.i64.wrap tl = tl := by rw [IntKind.wrap_i64]; omega
  have w2 : IntKind.i64.wrap fin = fin := by rw [IntKind.wrap_i64]; omega
  clear hxv hd hsv htl hfin hxb
  obtain ⟨X, hX⟩ : ∃ X, w.heap.size = X := ⟨_, rfl⟩
  obtain ⟨W1, hW1⟩ : ∃ W1, w.alloc (.cells #[.int .i64 base, .int .i64 term, .int .i64 mtu, .int .i64 subs, .int .i32 ini, .int .i32 ses, .int .i32 str] 23) = W1 := ⟨_, rfl⟩
  have HX := Lib.hid (hW1 ▸ UB.new (base := base) (term := term) (mtu := mtu) (subs := subs) (ini := ini) (ses := ses) (str := str) h hX)
  obtain ⟨m0, m1, m2, m3, m4, m5, m6⟩ := HX.out.cells
  have hs1 : W1.heap.size = X + 1 := by rw [← hW1, ← hX]; simp
  clear hl h hq ho h3 htr hpa hta
  go_enter Tryz.func41, Tryz.ntmps41
  go_wp2_with (first | (go_at_call 38; refine (c38 _).mono ?_; clear c38; rintro e v38 ⟨rfl, hB⟩; replace HX := Lib.hid (HX.out.below hB); clear hB; clear m0 m1 m2 m3 m4 m5 m6; obtain ⟨m0, m1, m2, m3, m4, m5, m6⟩ := HX.out.cells) | (go_at_call 67; refine (c67 _).mono ?_; clear c67; rintro e v67 ⟨rfl, hw⟩; subst v67))
  go_quiet (fail)
  replace HX := Lib.hid (HX.out.drew nq)
  clear m0 m1 m2 m3 m4 m5 m6
  obtain ⟨m0, m1, m2, m3, m4, m5, m6⟩ := HX.out.cells
  obtain ⟨V, hV⟩ : ∃ V, v38.drewN nq = V := ⟨_, rfl⟩
  rw [hV] at HX m0 m1 m2 m3 m4 m5 m6 ⊢
  go_wp2_with (first | (go_at_call 69; refine (c69 _).mono ?_; clear c69; rintro e v69 ⟨rfl, hB⟩; replace HX := Lib.hid (HX.out.below hB); clear hB; clear m0 m1 m2 m3 m4 m5 m6; obtain ⟨m0, m1, m2, m3, m4, m5, m6⟩ := HX.out.cells) | (go_at_call 70; refine (c70 _).mono ?_; clear c70; rintro e v70 ⟨rfl, hB⟩; replace HX := Lib.hid (HX.out.below hB); clear hB; clear m0 m1 m2 m3 m4 m5 m6; obtain ⟨m0, m1, m2, m3, m4, m5, m6⟩ := HX.out.cells) | (go_at_call 68; refine (c68 _).mono ?_; clear c68; rintro e v68 ⟨rfl, hw⟩; subst v68) | (go_at_call 39; refine (c39 _ HX.out.tp.1).mono ?_; clear c39; rintro e vc39 ⟨rfl, hK⟩; replace HX := Lib.hid (HX.out.step hK); clear hK; clear m0 m1 m2 m3 m4 m5 m6; obtain ⟨m0, m1, m2, m3, m4, m5, m6⟩ := HX.out.cells) | (go_at_call 71; refine (c71 _).mono ?_; clear c71; rintro e v71 ⟨rfl, hw⟩; subst v71))
  refine bodyPost_ret (v := .tuple #[.int .i64 (0), .int .i64 (0), .int .i64 (0)]) (by simp [results, Tryz.results41, go_sem]) rfl ⟨rfl, HX.out.tp⟩
set_option maxRecDepth 1000000 in
set_option maxHeartbeats 3200000 in
theorem uns_t2 (base term mtu subs ini ses str : Int) (hl : LogOk base term mtu subs) (hni : -2147483648 ≤ ini ∧ ini < 2147483648) (hns : -2147483648 ≤ ses ∧ ses < 2147483648) (hnt : -2147483648 ≤ str ∧ str < 2147483648) (pos : Int) (q off p3 trm part tat : Int) (hq : pos / term = q) (ho : pos % term = off) (h3 : q % 3 = p3) (htr : s32 (ini + q) = trm) (hpa : base + term * p3 = part) (hta : base + 3 * term + 8 * p3 = tat) (w : World) (tb : Nat) (ga : Option Addr) (cap : Nat) (L : List Tld) (a : Nat) (h : TpS w tb ga cap L a none) (hpos : 0 ≤ pos ∧ pos < term * 2147483648) (x : Tld) (m : List Tld) (hd : L.drop a = x :: m) (xv tl fin : Int) (hxv : x.v = xv) (hsv : s32 (xv / 4294967296) = trm) (htl : xv % 4294967296 = tl) (hfin : min tl term = fin) (hge : off ≥ fin) : Calls Tryz.prog 41 #[.pointer (some ⟨tb, 0, none⟩), .agg #[.int .i64 base, .int .i64 term, .int .i64 mtu, .int .i64 subs, .int .i32 ini, .int .i32 ses, .int .i32 str], .int .i64 pos] w fun e w' => e = .returned (.tuple #[.int .i64 (0), .int .i64 (0), .int .i64 (0)]) ∧ TpK w w' tb ga cap L (a + 1) (none) := by
  have hb : 256 ≤ term ∧ term ≤ 8192 ∧ 0 ≤ base ∧ base ≤ 131072 := by obtain ⟨h1, h2⟩ := hl; rcases h1 with h1 | h1 | h1 | h1 | h1 | h1 <;> omega
  have hb2 : 0 ≤ mtu ∧ mtu ≤ 100000 ∧ 0 ≤ subs ∧ subs ≤ 8 := by obtain ⟨h1, h2⟩ := hl; omega
  have c38 := fun W => rightR_any ⟨base, term, mtu, subs, ini, ses, str⟩ ⟨by show _ ≤ base; omega, by show base ≤ _; omega, by show _ ≤ term; omega, by show term ≤ _; omega, by show _ ≤ mtu; omega, by show mtu ≤ _; omega, by show _ ≤ subs; omega, by show subs ≤ _; omega⟩ W
  have c67 := fun W => maxPosR term hl.1 W
  unfold Lg.val at c38
  dsimp only at c38
  rw [decide_eq_true (show Lg.ok ⟨base, term, mtu, subs, ini, ses, str⟩ from hl)] at c38
  obtain ⟨hq1, ho1, h31, hpos2, hpa1, hta1, htr1, c68, c69, c70, r1, r2, r1', r2', r3, r4, r5, r6, r7, r8, r9, r10⟩ := uns_nums base term mtu subs ini ses str hl hni pos hpos q off p3 trm part tat hq ho h3 htr hpa hta
  have c39 : ∀ W, TpS W tb ga cap L a none → _ := fun W hW => load_cons tat 8 hW hd
  have hxb := (h.row a x (drop_cons hd).1).1
  rw [hxv] at c39 hxb
  have c71 := fun W => unpackR xv hxb W
  rw [hsv, htl] at c71
  have htl1 : 0 ≤ tl ∧ tl < 4294967296 := by omega
  have hmin : (if term < tl then term else tl) = fin := by rw [← hfin]; split <;> omega
  have hfin1 : 0 ≤ fin ∧ fin ≤ term := by omega
  have w1 : IntKind.i64.wrap tl = tl := by rw [IntKind.wrap_i64]; omega
  have w2 : IntKind.i64.wrap fin = fin := by rw [IntKind.wrap_i64]; omega
  clear hxv hd hsv htl hfin hxb
  obtain ⟨X, hX⟩ : ∃ X, w.heap.size = X := ⟨_, rfl⟩
  obtain ⟨W1, hW1⟩ : ∃ W1, w.alloc (.cells #[.int .i64 base, .int .i64 term, .int .i64 mtu, .int .i64 subs, .int .i32 ini, .int .i32 ses, .int .i32 str] 23) = W1 := ⟨_, rfl⟩
  have HX := Lib.hid (hW1 ▸ UB.new (base := base) (term := term) (mtu := mtu) (subs := subs) (ini := ini) (ses := ses) (str := str) h hX)
  obtain ⟨m0, m1, m2, m3, m4, m5, m6⟩ := HX.out.cells
  have hs1 : W1.heap.size = X + 1 := by rw [← hW1, ← hX]; simp
  clear hl h hq ho h3 htr hpa hta
  go_enter Tryz.func41, Tryz.ntmps41
  go_wp2_with (first | (go_at_call 38; refine (c38 _).mono ?_; clear c38; rintro e v38 ⟨rfl, hB⟩; replace HX := Lib.hid (HX.out.below hB); clear hB; clear m0 m1 m2 m3 m4 m5 m6; obtain ⟨m0, m1, m2, m3, m4, m5, m6⟩ := HX.out.cells) | (go_at_call 67; refine (c67 _).mono ?_; clear c67; rintro e v67 ⟨rfl, hw⟩; subst v67))
  go_quiet (fail)
  replace HX := Lib.hid (HX.out.drew nq)
  clear m0 m1 m2 m3 m4 m5 m6
  obtain ⟨m0, m1, m2, m3, m4, m5, m6⟩ := HX.out.cells
  obtain ⟨V, hV⟩ : ∃ V, v38.drewN nq = V := ⟨_, rfl⟩
  rw [hV] at HX m0 m1 m2 m3 m4 m5 m6 ⊢
  go_wp2_with (first | (go_at_call 69; refine (c69 _).mono ?_; clear c69; rintro e v69 ⟨rfl, hB⟩; replace HX := Lib.hid (HX.out.below hB); clear hB; clear m0 m1 m2 m3 m4 m5 m6; obtain ⟨m0, m1, m2, m3, m4, m5, m6⟩ := HX.out.cells) | (go_at_call 70; refine (c70 _).mono ?_; clear c70; rintro e v70 ⟨rfl, hB⟩; replace HX := Lib.hid (HX.out.below hB); clear hB; clear m0 m1 m2 m3 m4 m5 m6; obtain ⟨m0, m1, m2, m3, m4, m5, m6⟩ := HX.out.cells) | (go_at_call 68; refine (c68 _).mono ?_; clear c68; rintro e v68 ⟨rfl, hw⟩; subst v68) | (go_at_call 39; refine (c39 _ HX.out.tp.1).mono ?_; clear c39; rintro e vc39 ⟨rfl, hK⟩; replace HX := Lib.hid (HX.out.step hK); clear hK; clear m0 m1 m2 m3 m4 m5 m6; obtain ⟨m0, m1, m2, m3, m4, m5, m6⟩ := HX.out.cells) | (go_at_call 71; refine (c71 _).mono ?_; clear c71; rintro e v71 ⟨rfl, hw⟩; subst v71))
  refine bodyPost_ret (v := .tuple #[.int .i64 (0), .int .i64 (0), .int .i64 (0)]) (by simp [results, Tryz.results41, go_sem]) rfl ⟨rfl, HX.out.tp⟩
end Go.Proofs.YtlaogoehmndcjaaGreatDoor.Sy
