/- Headers compared; the sort of slots. -/
import Derived.Test.YtofjbbfnkefoaaaSxSort1
import Derived.Test.YtofjbbfnkefoaaaShelf
import Derived.Test.YtofjbbfnkefoaaaHaAb
import Derived.Test.YtofjbbfnkefoaaaSxCut
namespace Go.Proofs.Ytofjbbfnkefoaaa.Fs
open Go Go.RowKit Go.Sort Go.Proofs.Ytofjbbfnkefoaaa.Sx
set_option linter.unusedVariables false
set_option linter.unusedSimpArgs false
set_option maxRecDepth 10000
def cmp3 (x y : Int) : Int := if x < y then -1 else if x > y then 1 else 0
theorem cmpU16_s (x y : Int) {h : Hp} {K : Value → Hp → Prop} (H : K (.int .i64 (cmp3 x y)) h) : CallsH Try.prog 71 #[.int .u16 x, .int .u16 y] h K := by
  refine cmp_Compare_uint16_ok _ _ ?_
  unfold cmp_Compare_uint16
  have nan : ∀ z : Int, ∀ K : Value → Hp → Prop, K (.bool false) h → CallsH Try.prog 89 #[.int .u16 z] h K := fun z K H => by
    refine cmp_isNaN_uint16_ok _ ?_
    unfold cmp_isNaN_uint16
    simpa using H
  refine nan x _ ⟨_, rfl, nan y _ ⟨_, rfl, br_f rfl (br_f rfl (br_i (fun p => ?_) (fun p => br_i (fun q => ?_) (fun q => ?_))))⟩⟩
  · rw [cmp3, if_pos (by simpa using p)] at H; exact H
  · rw [cmp3, if_neg (by simpa using p), if_pos (by simpa using q)] at H; exact H
  · rw [cmp3, if_neg (by simpa using p), if_neg (by simpa using q)] at H; exact H
theorem cmpU32_s (x y : Int) {h : Hp} {K : Value → Hp → Prop} (H : K (.int .i64 (cmp3 x y)) h) : CallsH Try.prog 70 #[.int .u32 x, .int .u32 y] h K := by
  refine cmp_Compare_uint32_ok _ _ ?_
  unfold cmp_Compare_uint32
  have nan : ∀ z : Int, ∀ K : Value → Hp → Prop, K (.bool false) h → CallsH Try.prog 88 #[.int .u32 z] h K := fun z K H => by
    refine cmp_isNaN_uint32_ok _ ?_
    unfold cmp_isNaN_uint32
    simpa using H
  refine nan x _ ⟨_, rfl, nan y _ ⟨_, rfl, br_f rfl (br_f rfl (br_i (fun p => ?_) (fun p => br_i (fun q => ?_) (fun q => ?_))))⟩⟩
  · rw [cmp3, if_pos (by simpa using p)] at H; exact H
  · rw [cmp3, if_neg (by simpa using p), if_pos (by simpa using q)] at H; exact H
  · rw [cmp3, if_neg (by simpa using p), if_neg (by simpa using q)] at H; exact H
theorem cmpU8_s (x y : Int) {h : Hp} {K : Value → Hp → Prop} (H : K (.int .i64 (cmp3 x y)) h) : CallsH Try.prog 72 #[.int .u8 x, .int .u8 y] h K := by
  refine cmp_Compare_uint8_ok _ _ ?_
  unfold cmp_Compare_uint8
  have nan : ∀ z : Int, ∀ K : Value → Hp → Prop, K (.bool false) h → CallsH Try.prog 90 #[.int .u8 z] h K := fun z K H => by
    refine cmp_isNaN_uint8_ok _ ?_
    unfold cmp_isNaN_uint8
    simpa using H
  refine nan x _ ⟨_, rfl, nan y _ ⟨_, rfl, br_f rfl (br_f rfl (br_i (fun p => ?_) (fun p => br_i (fun q => ?_) (fun q => ?_))))⟩⟩
  · rw [cmp3, if_pos (by simpa using p)] at H; exact H
  · rw [cmp3, if_neg (by simpa using p), if_pos (by simpa using q)] at H; exact H
  · rw [cmp3, if_neg (by simpa using p), if_neg (by simpa using q)] at H; exact H
theorem und_ints : Try.prog.underlying 146 = some (.slice 3) := by kernel_rfl
theorem size_int : (Try.prog.info? 3).map (·.size) = some 1 := by kernel_rfl
def orL : List Int → Int
  | [] => 0
  | x :: l => if x ≠ 0 then x else orL l
theorem or_l1 {a : Addr} {l c : Nat} {h : Hp} {K : Value → Hp → Prop} {xs : List Int} (hl : xs.length = l) (hl2 : l < 2 ^ 60) (cl : Cl h a (xs.map fun x => .int .i64 x)) (ha : a.spot = none) : ∀ (rest done : List Int), xs = done ++ rest → K (.int .i64 (orL rest)) h →
    cmp_Or_int_l1 0 (some a) l c (l : Int) (fun x h => K (.int .i64 x) h) (fun x h => K (.int .i64 x) h) (rest.length + 1) (done.length : Int) h := by
  intro rest
  induction rest with
  | nil =>
    intro done he H
    unfold cmp_Or_int_l1
    have : done.length = l := by rw [← hl, he]; simp
    exact br_f (by simp; omega) H
  | cons x rest ih =>
    intro done he H
    unfold cmp_Or_int_l1
    have hlen : l = done.length + (rest.length + 1) := by rw [← hl, he]; simp
    have hx : xs[done.length]? = some x := by rw [he]; simp
    refine br_t (by simp; omega) ?_
    have i0 := ix (P := Try.prog) (T := 146) (E := 3) (a := a) (l := l) (c := c) (sz := 1) (k := .i64) (i := (done.length : Int)) (by omega) (by omega) und_ints size_int
    rw [Int.toNat_natCast, Nat.mul_one] at i0
    refine ⟨_, i0, x, ld (cl.at_ done.length _ (by simp [hx])) (by kernel_rfl), br_i (fun p => ?_) (fun p => ?_)⟩
    · rw [orL, if_pos (by simpa using p)] at H; exact H
    · have e : IntKind.i64.wrap ((done.length : Int) + 1) = ((done ++ [x]).length : Int) := by rw [wrap_in (by omega) (by omega)]; simp
      rw [e]
      refine ih (done ++ [x]) (by rw [he]; simp) ?_
      rw [orL, if_neg (by simpa using p)] at H; exact H
theorem or_s {a : Addr} {l c : Nat} {h : Hp} {K : Value → Hp → Prop} {xs : List Int} (hl : xs.length = l) (hl2 : l < 2 ^ 60) (cl : Cl h a (xs.map fun x => .int .i64 x)) (ha : a.spot = none) (H : K (.int .i64 (orL xs)) h) : CallsH Try.prog 69 #[.slice (some a) l c] h K := by
  refine cmp_Or_int_ok _ _ _ ?_
  unfold cmp_Or_int
  exact ⟨xs.length + 1, or_l1 hl hl2 cl ha xs [] rfl H⟩
/-- Which comes first. -/
def cmpH (a b : Hdr) : Int := orL [cmp3 a.src b.src, cmp3 a.dst b.dst, cmp3 a.sp b.sp, cmp3 a.dp b.dp, cmp3 a.pr b.pr]
theorem orL_cmp (x y : Int) (l : List Int) : orL (cmp3 x y :: l) = if x < y then -1 else if x > y then 1 else orL l := by
  unfold cmp3
  rw [orL]
  split
  · simp
  · split <;> simp
def ltH (a b : Hdr) : Prop := a.src < b.src ∨ (a.src = b.src ∧ (a.dst < b.dst ∨ (a.dst = b.dst ∧ (a.sp < b.sp ∨ (a.sp = b.sp ∧ (a.dp < b.dp ∨ (a.dp = b.dp ∧ a.pr < b.pr)))))))
instance (a b : Hdr) : Decidable (ltH a b) := by unfold ltH; infer_instance
theorem cmpH_eq0 (a b : Hdr) : cmpH a b = if a.src < b.src then -1 else if a.src > b.src then 1 else if a.dst < b.dst then -1 else if a.dst > b.dst then 1 else if a.sp < b.sp then -1 else if a.sp > b.sp then 1 else if a.dp < b.dp then -1 else if a.dp > b.dp then 1 else if a.pr < b.pr then -1 else if a.pr > b.pr then 1 else 0 := by
  unfold cmpH
  rw [orL_cmp, orL_cmp, orL_cmp, orL_cmp, orL_cmp]
  rfl
theorem cmpH_lt (a b : Hdr) : cmpH a b < 0 ↔ ltH a b := by
  rw [cmpH_eq0]
  unfold ltH
  repeat' split
  all_goals omega
theorem cmpH_eq (a b : Hdr) : cmpH a b = 0 ↔ a = b := by
  rw [cmpH_eq0]
  obtain ⟨a1, a2, a3, a4, a5⟩ := a
  obtain ⟨b1, b2, b3, b4, b5⟩ := b
  simp only [Hdr.mk.injEq]
  repeat' split
  all_goals omega
theorem ltH_irr (a : Hdr) : ¬ ltH a a := by unfold ltH; omega
theorem ltH_trans {a b c : Hdr} (h1 : ltH a b) (h2 : ltH b c) : ltH a c := by unfold ltH at *; omega
theorem ltH_tri (a b : Hdr) : ltH a b ∨ a = b ∨ ltH b a := by
  obtain ⟨a1, a2, a3, a4, a5⟩ := a
  obtain ⟨b1, b2, b3, b4, b5⟩ := b
  unfold ltH
  simp only [Hdr.mk.injEq]
  omega
theorem hcmp_s (a b : Hdr) {h : Hp} {K : Value → Hp → Prop} (H : ∀ h', Ext h h' → K (.int .i64 (cmpH a b)) h') : CallsH Try.prog 49 #[a.val, b.val] h K := by
  refine header_Compare_ok _ _ _ _ _ _ _ _ _ _ ?_
  unfold header_Compare
  refine newC_i fun h1 e1 c1 b1 z1 => newC_i fun h2 e2 c2 b2 z2 => ?_
  have k1 := c1.ext e2
  have l1 : ∀ {n v t}, (a.enc)[n]? = some v → scB Try.prog t = true → HV Try.prog (Instr.loadAt t (.pointer (some ((⟨h.size, 0, none⟩ : Addr).add n)))) h2 v := fun hn ht => ld (k1.at_ _ _ hn) ht
  have l2 : ∀ {n v t}, (b.enc)[n]? = some v → scB Try.prog t = true → HV Try.prog (Instr.loadAt t (.pointer (some ((⟨h1.size, 0, none⟩ : Addr).add n)))) h2 v := fun hn ht => ld (c2.at_ _ _ hn) ht
  have x0 := l1 (n := 0) (t := 33) rfl (by kernel_rfl)
  have y0 := l2 (n := 0) (t := 33) rfl (by kernel_rfl)
  refine ⟨_, x0, _, y0, cmpU32_s _ _ ⟨_, rfl, ?_⟩⟩
  have x1 := l1 (n := 1) (t := 33) rfl (by kernel_rfl)
  have y1 := l2 (n := 1) (t := 33) rfl (by kernel_rfl)
  refine ⟨_, x1, x1, _, y1, y1, cmpU32_s _ _ ⟨_, rfl, ?_⟩⟩
  have x2 := l1 (n := 2) (t := 34) rfl (by kernel_rfl)
  have y2 := l2 (n := 2) (t := 34) rfl (by kernel_rfl)
  refine ⟨_, x2, x2, x2, _, y2, y2, y2, cmpU16_s _ _ ⟨_, rfl, ?_⟩⟩
  have x3 := l1 (n := 3) (t := 34) rfl (by kernel_rfl)
  have y3 := l2 (n := 3) (t := 34) rfl (by kernel_rfl)
  refine ⟨_, x3, x3, x3, x3, _, y3, y3, y3, y3, cmpU16_s _ _ ⟨_, rfl, ?_⟩⟩
  have x4 := l1 (n := 4) (t := 5) rfl (by kernel_rfl)
  have y4 := l2 (n := 4) (t := 5) rfl (by kernel_rfl)
  refine ⟨_, x4, x4, x4, x4, x4, _, y4, y4, y4, y4, y4, cmpU8_s _ _ ⟨_, rfl, ?_⟩⟩
  refine newC_i fun h3 e3 c3 b3 z3 => ?_
  exact or_s (xs := [cmp3 a.src b.src, cmp3 a.dst b.dst, cmp3 a.sp b.sp, cmp3 a.dp b.dp, cmp3 a.pr b.pr]) rfl (by decide) c3 rfl ⟨_, rfl, H h3 ((e1.trans e2).trans e3)⟩
/-! ### the document's -/
def Hdr.wf (a : Hdr) : Prop := 0 ≤ a.src ∧ a.src < 4294967296 ∧ 0 ≤ a.dst ∧ a.dst < 4294967296 ∧ 0 ≤ a.sp ∧ a.sp < 65536 ∧ 0 ≤ a.dp ∧ a.dp < 65536 ∧ 0 ≤ a.pr ∧ a.pr < 256
theorem und_u32s : Try.prog.underlying 136 = some (.slice 33) := by kernel_rfl
theorem size_u32 : (Try.prog.info? 33).map (·.size) = some 1 := by kernel_rfl
theorem w32 {x : Int} (h : 0 ≤ x) (h' : x < 4294967296) : IntKind.u32.wrap x = x := by simp [IntKind.wrap, IntKind.bits, IntKind.signed]; omega
theorem rcmp_l1 {a b : Addr} {h : Hp} {K0 : Int → Hp → Prop} {K1 : Hp → Prop} {xs ys : List Int} (hx : xs.length = 5) (hy : ys.length = 5) (ca : Cl h a (xs.map fun x => .int .u32 x)) (cb : Cl h b (ys.map fun x => .int .u32 x)) {i : Nat} (hi : i < 5) {x y : Int} (hxi : xs[i]? = some x) (hyi : ys[i]? = some y) {k : Nat}
    (H0 : x < y → K0 (-1) h) (H1 : y < x → K0 1 h) (H2 : x = y → quintetref06_Compare_l1 (some a) 5 5 (some b) 5 5 K0 K1 k ((i + 1 : Nat) : Int) h) : quintetref06_Compare_l1 (some a) 5 5 (some b) 5 5 K0 K1 (k + 1) (i : Int) h := by
  unfold quintetref06_Compare_l1
  have i0 := ix (P := Try.prog) (T := 136) (E := 33) (a := a) (l := 5) (c := 5) (sz := 1) (k := .i64) (i := (i : Int)) (by omega) (by omega) und_u32s size_u32
  have i1 := ix (P := Try.prog) (T := 136) (E := 33) (a := b) (l := 5) (c := 5) (sz := 1) (k := .i64) (i := (i : Int)) (by omega) (by omega) und_u32s size_u32
  rw [Int.toNat_natCast, Nat.mul_one] at i0 i1
  have la := ld (P := Try.prog) (t := 33) (ca.at_ i (.int .u32 x) (by simp [hxi])) (by kernel_rfl)
  have lb := ld (P := Try.prog) (t := 33) (cb.at_ i (.int .u32 y) (by simp [hyi])) (by kernel_rfl)
  refine br_t (by simp; omega) ⟨_, i0, _, la, _, i1, _, lb, br_i (fun p => H0 (by simpa using p)) (fun p => ⟨_, i0, _, la, _, i1, _, lb, br_i (fun q => H1 (by simpa using q)) (fun q => ?_)⟩)⟩
  rw [wrap_in (by omega) (by omega)]
  exact H2 (by simp at p q; omega)
theorem rcmp_s (a b : Hdr) (ha : a.wf) (hb : b.wf) {h : Hp} {K : Value → Hp → Prop} (H : ∀ h', Ext h h' → K (.int .i64 (cmpH a b)) h') : CallsH Try.prog 66 #[a.val, b.val] h K := by
  refine quintetref06_Compare_ok _ _ _ _ _ _ _ _ _ _ ?_
  unfold quintetref06_Compare
  refine newC_i fun h1 e1 c1 b1 z1 => newC_i fun h2 e2 c2 b2 z2 => ?_
  have k1 := c1.ext e2
  refine ⟨_, ld k1.head (by kernel_rfl), _, ld (k1.at_ 1 _ rfl) (by kernel_rfl), _, ld (k1.at_ 2 _ rfl) (by kernel_rfl), _, ld (k1.at_ 3 _ rfl) (by kernel_rfl), _, ld (k1.at_ 4 _ rfl) (by kernel_rfl), ?_⟩
  refine newC_i fun h3 e3 c3 b3 z3 => ?_
  have k2 := c2.ext e3
  refine ⟨_, ld k2.head (by kernel_rfl), _, ld (k2.at_ 1 _ rfl) (by kernel_rfl), _, ld (k2.at_ 2 _ rfl) (by kernel_rfl), _, ld (k2.at_ 3 _ rfl) (by kernel_rfl), _, ld (k2.at_ 4 _ rfl) (by kernel_rfl), ?_⟩
  refine newC_i fun h4 e4 c4 b4 z4 => ⟨6, ?_⟩
  obtain ⟨p1, p2, p3, p4, p5, p6, p7, p8, p9, p10⟩ := ha
  obtain ⟨q1, q2, q3, q4, q5, q6, q7, q8, q9, q10⟩ := hb
  have c3' := c3.ext e4
  rw [w32 (by omega) (by omega), w32 (by omega) (by omega), w32 (by omega) (by omega)] at c3' c4
  have G := H h4 (((e1.trans e2).trans e3).trans e4)
  rw [cmpH_eq0] at G
  refine rcmp_l1 (i := 0) (k := 5) (xs := [a.src, a.dst, a.sp, a.dp, a.pr]) (ys := [b.src, b.dst, b.sp, b.dp, b.pr]) rfl rfl c3' c4 (by decide) rfl rfl (fun u => by rw [if_pos u] at G; exact G) (fun u => by rw [if_neg (by omega), if_pos u] at G; exact G) fun u1 => ?_
  rw [if_neg (by omega), if_neg (by omega)] at G
  refine rcmp_l1 (i := 1) (k := 4) (xs := [a.src, a.dst, a.sp, a.dp, a.pr]) (ys := [b.src, b.dst, b.sp, b.dp, b.pr]) rfl rfl c3' c4 (by decide) rfl rfl (fun u => by rw [if_pos u] at G; exact G) (fun u => by rw [if_neg (by omega), if_pos u] at G; exact G) fun u2 => ?_
  rw [if_neg (by omega), if_neg (by omega)] at G
  refine rcmp_l1 (i := 2) (k := 3) (xs := [a.src, a.dst, a.sp, a.dp, a.pr]) (ys := [b.src, b.dst, b.sp, b.dp, b.pr]) rfl rfl c3' c4 (by decide) rfl rfl (fun u => by rw [if_pos u] at G; exact G) (fun u => by rw [if_neg (by omega), if_pos u] at G; exact G) fun u3 => ?_
  rw [if_neg (by omega), if_neg (by omega)] at G
  refine rcmp_l1 (i := 3) (k := 2) (xs := [a.src, a.dst, a.sp, a.dp, a.pr]) (ys := [b.src, b.dst, b.sp, b.dp, b.pr]) rfl rfl c3' c4 (by decide) rfl rfl (fun u => by rw [if_pos u] at G; exact G) (fun u => by rw [if_neg (by omega), if_pos u] at G; exact G) fun u4 => ?_
  rw [if_neg (by omega), if_neg (by omega)] at G
  refine rcmp_l1 (i := 4) (k := 1) (xs := [a.src, a.dst, a.sp, a.dp, a.pr]) (ys := [b.src, b.dst, b.sp, b.dp, b.pr]) rfl rfl c3' c4 (by decide) rfl rfl (fun u => by rw [if_pos u] at G; exact G) (fun u => by rw [if_neg (by omega), if_pos u] at G; exact G) fun u5 => ?_
  rw [if_neg (by omega), if_neg (by omega)] at G
  unfold quintetref06_Compare_l1
  exact br_f rfl G
/-! ### the sort of slots -/
abbrev RowSC (h : Hp) (A : Option Addr) (c : Nat) (l : List Slot) : Prop := RowC h 104 Slot.enc 7 A c l
def cmpS (a b : Slot) : Int := cmpH a.k b.k
theorem ltS (p q : Slot) : ltOf cmpS p q = decide (ltH p.k q.k) := by
  show decide (cmpS p q < 0) = _
  rw [decide_eq_decide]
  exact cmpH_lt p.k q.k
theorem enters_calls {g : Nat} {fn : Func} (hf : Try.prog.funcs[g]? = some fn) (hb : fn.body.isSome = true) (hn : (fn.name == "runtime.NumGoroutine") = false) : ∀ args w, (callFunc g args).run Try.prog w = .ok (.enter g args) w := by
  intro args w
  have h4 : fn.body ≠ none := by intro e; rw [e] at hb; cases hb
  have h5 : fn.name ≠ "runtime.NumGoroutine" := by simpa using hn
  unfold callFunc
  simp [go_sem, hf, h5, h4]
theorem all11_s (x y : Slot) {h : Hp} {K : Value → Hp → Prop} (H : ∀ h', Ext h h' → K (.int .i64 (cmpS x y)) h') : CallsH Try.prog 48 #[.agg x.enc.toArray, .agg y.enc.toArray] h K := by
  refine hash_Table_All_1_1_ok _ _ _ _ _ _ _ _ _ _ _ _ _ _ ?_
  unfold hash_Table_All_1_1
  refine newC_i fun h1 e1 c1 b1 z1 => newC_i fun h2 e2 c2 b2 z2 => ?_
  refine ⟨_, _, _, _, _, ldS (Cl.sl (c1.ext e2) (n := 1) (us := x.k.enc) rfl) (by kernel_rfl), _, _, _, _, _, ldS (Cl.sl c2 (n := 1) (us := y.k.enc) rfl) (by kernel_rfl), ?_⟩
  exact hcmp_s x.k y.k fun h3 e3 => ⟨_, rfl, H h3 ((e1.trans e2).trans e3)⟩
theorem sort_sl {h : Hp} {A : Option Addr} {c : Nat} {l : List Slot} (r : RowSC h A c l) (hl : l.length < 2 ^ 62) {K : Value → Hp → Prop}
    (H : ∀ h' ys, ys.Perm l → ys.Pairwise (fun a b => ¬ ltH b.k a.k) → RowSC h' A c ys → Fr (blk A) h h' → K (.tuple #[]) h') :
    CallsH Try.prog 47 #[.slice A l.length c, .func (.func 48) #[] #[]] h K := by
  rcases Nat.eq_zero_or_pos l.length with h0 | h0
  · have e : l = [] := List.eq_nil_of_length_eq_zero h0
    subst e
    intro w hw
    subst hw
    refine (Try.slices_SortFunc_none (α := Int) A c (.func (.func 48) #[] #[]) w).mono ?_
    rintro e w' ⟨rfl, rfl⟩
    exact ⟨_, rfl, Same.refl _, H _ [] (List.Perm.refl _) List.Pairwise.nil r (Fr.refl _ _)⟩
  · letI : Inhabited Slot := ⟨zSl⟩
    obtain ⟨g, rfl⟩ := r.blk0 Slot.len h0
    refine sort_rowK (P := Try.prog) (enc := Slot.enc) (sz := 7) (lt := ltOf cmpS) Slot.len (by decide) r.row (fun w hw hlt hH => ?_) fun h' ys hp hs r' f => H h' ys hp (hs.imp fun h => by rw [ltS, decide_eq_false_iff_not] at h; exact h) ⟨r', r.cap⟩ (f.mono fun k hk => ⟨_, rfl, hk.symm⟩)
    refine Try.slices_SortFunc (α := Slot) 7 Try.isAgg104 Try.sizeOf104 Slot.enc Slot.len (by intro x v hv; simp [Slot.enc] at hv; rcases hv with rfl | rfl | rfl | rfl | rfl | rfl | rfl <;> rfl) cmpS ⟨fun x => ?_, fun x y z h1 h2 => ?_, fun x y z h1 h2 => ?_⟩ 48 #[] g 0 c l.toArray w
      (enters_calls Try.func48 (by kernel_rfl) (by kernel_rfl)) (cmp_lays fun h' _ x y => all11_s x y fun h'' e => ⟨rfl, e⟩) hH hlt (by rw [List.size_toArray]; exact hl)
    · rw [ltS, decide_eq_false_iff_not]; exact ltH_irr _
    · rw [ltS, decide_eq_true_eq] at h1 h2 ⊢; exact ltH_trans h1 h2
    · rw [ltS, decide_eq_false_iff_not] at h1 h2 ⊢
      intro h3
      unfold ltH at *
      omega
end Go.Proofs.Ytofjbbfnkefoaaa.Fs
