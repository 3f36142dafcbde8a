/- slices.SortFunc and Compact of prefixes; nest.unlike, holders. -/
import Derived.Test.YtgahbkbmolfpnaaGreatNeRul
import Derived.Test.YtgahbkbmolfpnaaGreatNeLev
namespace Go.Proofs.YtgahbkbmolfpnaaGreat.Fs
open Go Go.RowKit Go.Sort Go.Proofs.YtgahbkbmolfpnaaGreat.Sx Go.Proofs.YtgahbkbmolfpnaaGreat.Sp Go.Proofs.YtgahbkbmolfpnaaGreat.Uq
set_option linter.unusedVariables false
set_option linter.unusedSimpArgs false
set_option maxRecDepth 10000
theorem cfP_lt (p q : Pf) : cfP p q < 0 ↔ (p.addr < q.addr ∨ p.addr = q.addr ∧ p.len < q.len) := by
  unfold cfP or2 cmp3
  repeat' split
  all_goals omega
theorem ltP (p q : Pf) : ltOf cfP p q = decide (p.addr < q.addr ∨ p.addr = q.addr ∧ p.len < q.len) := by
  show decide (cfP p q < 0) = _
  rw [decide_eq_decide]
  exact cfP_lt p q
theorem totP (a b : Pf) (h1 : ltOf cfP a b = false) (h2 : ltOf cfP b a = false) : a = b := by
  rw [ltP, decide_eq_false_iff_not] at h1 h2
  obtain ⟨p, q⟩ := a
  obtain ⟨r, s⟩ := b
  simp only at h1 h2
  have e1 : p = r := by omega
  have e2 : q = s := by omega
  rw [e1, e2]
theorem sort_pf {h : Hp} {A : Option Addr} {c : Nat} {l : List Pf} (r : RowF h A c l) (hl : l.length < 2 ^ 62) {K : Value → Hp → Prop}
    (H : ∀ h' ys, ys.Perm l → ys.Pairwise (fun a b => ltOf cfP b a = false) → RowF h' A c ys → Fr (blk A) h h' → K (.tuple #[]) h') :
    CallsH Tryz.prog 42 #[.slice A l.length c, .func (.func 43) #[] #[]] h K := by
  rcases Nat.eq_zero_or_pos l.length with h0 | h0
  · have e : l = [] := List.eq_nil_of_length_eq_zero h0
    subst e
    intro w hw
    subst hw
    refine (Tryz.slices_SortFunc_none_f42 (α := Int) A c (.func (.func 43) #[] #[]) w).mono ?_
    rintro e w' ⟨rfl, rfl⟩
    exact ⟨_, rfl, Same.refl _, H _ [] (List.Perm.refl _) List.Pairwise.nil r (Fr.refl _ _)⟩
  · letI : Inhabited Pf := ⟨⟨0, 0⟩⟩
    obtain ⟨g, rfl⟩ := r.blk0 Pf.leng h0
    refine sort_rowK (P := Tryz.prog) (enc := Pf.enc) (sz := 2) (lt := ltOf cfP) Pf.leng (by decide) r.row (fun w hw hlt hH => ?_) fun h' ys hp hs r' f => H h' ys hp hs ⟨r', r.cap⟩ (f.mono fun k hk => ⟨_, rfl, hk.symm⟩)
    refine Tryz.slices_SortFunc (α := Pf) 2 Tryz.isAgg45 Tryz.sizeOf45 Pf.enc Pf.leng (by intro x v hv; simp [Pf.enc] at hv; rcases hv with rfl | rfl <;> rfl) cfP ⟨fun x => ?_, fun x y z h1 h2 => ?_, fun x y z h1 h2 => ?_⟩ 43 #[] g 0 c l.toArray w
      (enters_calls Tryz.func43 (by kernel_rfl) (by kernel_rfl)) (cmp_lays fun h' _ x y => Compare_s x y fun h'' e => ⟨rfl, e⟩) hH hlt (by rw [List.size_toArray]; exact hl)
    · rw [ltP, decide_eq_false_iff_not]; omega
    · rw [ltP, decide_eq_true_eq] at *; omega
    · rw [ltP, decide_eq_false_iff_not] at *; omega
/-! ### Compact -/
theorem st_pf {h : Hp} {g c : Nat} {xs : List Pf} {j : Nat} (x : Pf) {K : Hp → Prop} (r : RowF h (some ⟨g, 0, none⟩) c xs) (hj : j < xs.length) (H : ∀ h', RowF h' (some ⟨g, 0, none⟩) c (xs.set j x) → Fr (fun k => k = g) h h' → h'.size = h.size → K h') :
    HU Tryz.prog (Instr.storeAt 45 (.pointer (some ⟨g, j * 2, none⟩)) (.agg #[.int .u32 x.addr, .int .i64 x.len])) h K :=
  HU_elem (x := x) Pf.leng Pf.flat r.row hj rfl size_pf fun h' r' f z => H h' ⟨r', r.cap⟩ f z
theorem ixP0 {g l c i : Nat} (h1 : i < l) : PV Tryz.prog (Instr.indexAt 53 (.slice (some ⟨g, 0, none⟩) l c) (.int .i64 (i : Int))) (.pointer (some ⟨g, i * 2, none⟩)) := ix0 h1 und_pfs size_pf
theorem ixPo {g o l c i : Nat} (h1 : i < l) : PV Tryz.prog (Instr.indexAt 53 (.slice (some ⟨g, o * 2, none⟩) l c) (.int .i64 (i : Int))) (.pointer (some ⟨g, (o + i) * 2, none⟩)) := by
  have := ix (P := Tryz.prog) (T := 53) (E := 45) (a := ⟨g, o * 2, none⟩) (l := l) (c := c) (sz := 2) (k := .i64) (i := (i : Int)) (by omega) (by omega) und_pfs size_pf
  rw [Int.toNat_natCast, add_off rfl] at this
  rw [show (o + i) * 2 = o * 2 + i * 2 by omega]
  exact this
theorem ldP {h : Hp} {g c : Nat} {xs : List Pf} (r : RowF h (some ⟨g, 0, none⟩) c xs) {i : Nat} {x : Pf} (hi : xs[i]? = some x) : HV Tryz.prog (Instr.loadAt 45 (.pointer (some ⟨g, i * 2, none⟩))) h (.agg #[.int .u32 x.addr, .int .i64 x.len]) := ldS (r.elem0 Pf.leng hi) (by kernel_rfl)
theorem compact_l3 {g c d k0 : Nat} {xs : List Pf} {hb : Hp} (hk : 0 < k0) (hkn : k0 < xs.length) (hl : xs.length ≤ 1000000000) {K0 : (Option Addr) → Nat → Nat → Int → Hp → Prop}
    (H : ∀ h' ws, Fr (fun q => q = g) hb h' → RowF h' (some ⟨g, 0, none⟩) c ws → ws.length = xs.length → ws.take (cpt xs).length = cpt xs → (cpt xs).length < xs.length → K0 (some ⟨g, 0, none⟩) xs.length c ((cpt xs).length : Int) h') :
    ∀ (k j : Nat) (h : Hp) (ws : List Pf), xs.length - (k0 + j) < k → 1 ≤ j → k0 + j ≤ xs.length → Fr (fun q => q = g) hb h → RowF h (some ⟨g, 0, none⟩) c ws → ws.length = xs.length → (cpt (xs.take (k0 + j))).length < k0 + j → ws.take (cpt (xs.take (k0 + j))).length = cpt (xs.take (k0 + j)) → ws.drop (cpt (xs.take (k0 + j))).length = xs.drop (cpt (xs.take (k0 + j))).length →
      slices_Compact_api_Prefix_l3 (some ⟨g, 0, none⟩) xs.length c (some ⟨g, k0 * 2, none⟩) (xs.length - k0) d K0 k ((cpt (xs.take (k0 + j))).length : Int) (j : Int) h := by
  intro k
  induction k with
  | zero => intro j h ws hk; omega
  | succ k ih =>
    intro j h ws hk hj hle f r hw hlt ht hd
    unfold slices_Compact_api_Prefix_l3
    have dget : ∀ p, (cpt (xs.take (k0 + j))).length ≤ p → ws[p]? = xs[p]? := fun p hp => by
      have := congrArg (fun L => L[p - (cpt (xs.take (k0 + j))).length]?) hd
      simp only [List.getElem?_drop] at this
      rwa [show (cpt (xs.take (k0 + j))).length + (p - (cpt (xs.take (k0 + j))).length) = p by omega] at this
    refine br_i (fun u => ?_) (fun u => ?_)
    · have hjl : k0 + j < xs.length := by simp at u; omega
      have hb1 := List.getElem?_eq_getElem hjl
      generalize xs[k0 + j] = b at hb1
      have ha1 : xs[k0 + j - 1]? = some xs[k0 + j - 1] := List.getElem?_eq_getElem (by omega)
      generalize xs[k0 + j - 1] = a at ha1
      have step := cpt_step (xs := xs) (m := k0 + j) (by omega) ha1 hb1
      have hw1 : IntKind.i64.wrap ((j : Int) - 1) = ((j - 1 : Nat) : Int) := by rw [wrap_in (by omega) (by omega)]; omega
      rw [hw1]
      have wb : ws[k0 + j]? = some b := by rw [dget _ (by omega)]; exact hb1
      have wa : ws[k0 + (j - 1)]? = some a := by rw [show k0 + (j - 1) = k0 + j - 1 by omega, dget _ (by omega)]; exact ha1
      refine ⟨_, ixPo (by omega), _, _, ldP r wb, _, ixPo (by omega), _, _, ldP r wa, _, ne_pf b a, br_i (fun v => ?_) (fun v => ?_)⟩
      · have v : ¬ b = a := by simpa using v
        rw [if_neg (fun e => v e.symm)] at step
        refine ⟨_, ixPo (by omega), _, _, ldP r wb, _, ixP0 (by omega), st_pf b r (by omega) fun h2 r2 f2 z2 => ?_⟩
        rw [wrapN (by omega), wrapN (by omega)]
        have hlen : (cpt (xs.take (k0 + (j + 1)))).length = (cpt (xs.take (k0 + j))).length + 1 := by
          rw [show k0 + (j + 1) = k0 + j + 1 by omega, step]; simp
        have := ih (j + 1) h2 (ws.set (cpt (xs.take (k0 + j))).length b) (by omega) (by omega) (by omega) (f.trans f2) r2 (by simpa using hw) (by rw [hlen]; omega)
          (by
            rw [hlen, show k0 + (j + 1) = k0 + j + 1 by omega, step, List.take_succ_eq_append_getElem (by simp; omega)]
            congr 1
            · rw [List.take_set_of_le (Nat.le_refl _)]; exact ht
            · simp)
          (by
            rw [hlen]
            refine List.ext_getElem? fun p => ?_
            rw [List.getElem?_drop, List.getElem?_drop, List.getElem?_set_ne (by omega)]
            exact dget _ (by omega))
        rw [hlen] at this
        exact this
      · have v : b = a := by simpa using v
        rw [if_pos v.symm] at step
        rw [wrapN (by omega)]
        have := ih (j + 1) h ws (by omega) (by omega) (by omega) f r hw
        rw [show k0 + (j + 1) = k0 + j + 1 by omega, step] at this
        exact this (by omega) ht hd
    · have hje : k0 + j = xs.length := by simp at u; omega
      rw [hje, List.take_length] at hlt ht ⊢
      exact H h ws f r hw ht hlt
theorem compact_s {h : Hp} {A : Option Addr} {c : Nat} {xs : List Pf} (r : RowF h A c xs) (hl : xs.length ≤ 1000000000) {K : Value → Hp → Prop}
    (H : ∀ h', RowF h' A c (cpt xs) → Fr (blk A) h h' → K (.slice A (cpt xs).length c) h') : CallsH Tryz.prog 44 #[.slice A xs.length c] h K := by
  refine slices_Compact_api_Prefix_ok _ _ _ ?_
  unfold slices_Compact_api_Prefix
  refine br_i (fun u => ?_) (fun u => ?_)
  · have : xs.length < 2 := by simp at u; omega
    have e : cpt xs = xs := by
      match xs, this with
      | [], _ => rfl
      | [x], _ => rfl
    have := H h (by rw [e]; exact r) (Fr.refl _ _)
    rw [e] at this
    exact this
  · have hn : 2 ≤ xs.length := by simp at u; omega
    obtain ⟨g, rfl⟩ := r.blk0 Pf.leng (by omega)
    have key : ∀ (k i : Nat), xs.length - i < k → 1 ≤ i → i ≤ xs.length → cpt (xs.take i) = xs.take i → slices_Compact_api_Prefix_l2 (some ⟨g, 0, none⟩) xs.length c (fun A98 l98 c98 h99 => K (.slice A98 l98 c98) h99) (fun A100 l100 c100 h101 => K (.slice A100 l100 c100) h101) k (i : Int) h := by
      intro k
      induction k with
      | zero => intro i hk; omega
      | succ k ih =>
        intro i hk hi hin hc
        unfold slices_Compact_api_Prefix_l2
        refine br_i (fun v => ?_) (fun v => ?_)
        · have hil : i < xs.length := by simpa using v
          have hb1 := List.getElem?_eq_getElem hil
          generalize xs[i] = b at hb1
          have ha1 : xs[i - 1]? = some xs[i - 1] := List.getElem?_eq_getElem (by omega)
          generalize xs[i - 1] = a at ha1
          have step := cpt_step (xs := xs) (m := i) (by omega) ha1 hb1
          have hw1 : IntKind.i64.wrap ((i : Int) - 1) = ((i - 1 : Nat) : Int) := by rw [wrap_in (by omega) (by omega)]; omega
          rw [hw1]
          refine ⟨_, ixP0 hil, _, _, ldP r hb1, _, ixP0 (by omega), _, _, ldP r ha1, _, eq_pf b a, br_i (fun w => ?_) (fun w => ?_)⟩
          · have w : b = a := by simpa using w
            rw [if_pos w.symm, hc] at step
            obtain ⟨inf, z, hi', hs, hb, hz, hcz⟩ := info_pf
            have hle := r.le
            have s1 := slLo (P := Tryz.prog) (A := some ⟨g, 0, none⟩) (l := xs.length) (c := c) (x := (i : Int)) und_pfs hi' (by omega) (by omega)
            rw [Int.toNat_natCast, if_neg (by omega), hs] at s1
            simp only [Option.map_some, add_eq0] at s1
            have hlt1 : (xs.take i).length = i := by rw [List.length_take]; omega
            refine ⟨_, _, _, s1, xs.length + 1, ?_⟩
            have := compact_l3 (g := g) (c := c) (d := c - i) (k0 := i) (xs := xs) (hb := h) (by omega) hil hl (K0 := fun (A90 : Option Addr) (l90 : Nat) (c90 : Nat) (x91 : Int) (h92 : Hp) =>
              ∃ A93 : Option Addr, ∃ l93 : Nat, ∃ c93 : Nat, PV Tryz.prog (Instr.sliceAt 53 (.slice A90 l90 c90) (some (.int .i64 x91)) none none) (.slice A93 l93 c93) ∧
              HW Tryz.prog (Builtin.clear_ #[53] 0 #[(.slice A93 l93 c93)]) h92 fun r95 h94 =>
              r95 = (.tuple #[]) ∧
              ∃ A96 : Option Addr, ∃ l96 : Nat, ∃ c96 : Nat, PV Tryz.prog (Instr.sliceAt 53 (.slice A90 l90 c90) none (some (.int .i64 x91)) none) (.slice A96 l96 c96) ∧
              K (.slice A96 l96 c96) h94) (fun h2 ws f2 r2 hwl htk hcl => by
                have s2 := slLo (P := Tryz.prog) (A := some ⟨g, 0, none⟩) (l := xs.length) (c := c) (x := (((cpt xs).length : Nat) : Int)) und_pfs hi' (by omega) (by omega)
                rw [Int.toNat_natCast, if_neg (by omega), hs] at s2
                simp only [Option.map_some, add_eq0] at s2
                refine ⟨_, _, _, s2, ?_⟩
                have cr := HW_clearRow (P := Tryz.prog) (T := 53) (ty := 0) (dc := c - (cpt xs).length) (k := (cpt xs).length) (K := fun r95 h94 => r95 = (.tuple #[]) ∧
                  ∃ A96 : Option Addr, ∃ l96 : Nat, ∃ c96 : Nat, PV Tryz.prog (Instr.sliceAt 53 (.slice (some ⟨g, 0, none⟩) xs.length c) none (some (.int .i64 (((cpt xs).length : Nat) : Int))) none) (.slice A96 l96 c96) ∧
                  K (.slice A96 l96 c96) h94) Pf.leng und_pfs hi' hz (by rw [hcz]; rfl) (by rw [hcz]; rfl) (by decide) r2.row (by omega) (fun h3 r3 f3 => by
                    have s3 := slHi (P := Tryz.prog) (A := some ⟨g, 0, none⟩) (l := xs.length) (c := c) (x := (((cpt xs).length : Nat) : Int)) und_pfs hi' (by omega) (by omega)
                    rw [Int.toNat_natCast] at s3
                    rw [htk] at r3
                    exact ⟨rfl, _, _, _, s3, H h3 ⟨r3, r.cap⟩ ((f2.trans f3).mono fun k hk => ⟨_, rfl, hk.symm⟩)⟩)
                rw [hwl] at cr
                exact cr) (xs.length + 1) 1 h xs (by omega) (by omega) (by omega) (Fr.refl _ _) r rfl (by rw [step, hlt1]; omega) (by rw [step, hlt1]) rfl
            rw [step, hlt1] at this
            exact this
          · have w : ¬ b = a := by simpa using w
            rw [if_neg (fun e => w e.symm), hc] at step
            rw [wrapN (by omega)]
            refine ih (i + 1) (by omega) (by omega) (by omega) ?_
            rw [step]
            obtain ⟨h1, h2⟩ := List.getElem?_eq_some_iff.1 hb1
            rw [List.take_succ_eq_append_getElem h1, h2]
        · have : i = xs.length := by simp at v; omega
          subst this
          rw [List.take_length] at hc
          have := H h (by rw [hc]; exact r) (Fr.refl _ _)
          rw [hc] at this
          exact this
    have h1 : cpt (xs.take 1) = xs.take 1 := by
      match xs, hn with
      | x :: L, _ => rfl
    exact ⟨xs.length + 1, key _ 1 (by omega) (by omega) (by omega) h1⟩
/-! ### unlike, holders -/
theorem app_pF {h0 h : Hp} {A : Option Addr} {c cx : Nat} {ax : Addr} {l : List Pf} {x : Pf} {K : Value → Hp → Prop} (e : Ext h0 h) (r : RowF h A c l) (hF : Fresh h0 A) (hx : Cl h ax x.enc) (hl : l.length ≤ 1000000000)
    (H : ∀ h' A' c', Ext h0 h' → RowF h' A' c' (l ++ [x]) → Fresh h0 A' → Fr (blk A) h h' → K (.slice A' (l ++ [x]).length c') h') :
    HW Tryz.prog (Builtin.append_ #[53, 53] 53 #[.slice A l.length c, .slice (some ax) 1 cx]) h K := by
  obtain ⟨i, z, hi, hs, hb, hz, hc⟩ := info_pf
  exact appF (z := z) Pf.leng Pf.flat und_pfs hi hz (by rw [hc]; rfl) hs (by omega) (by omega) e r hF hx hl H
theorem app_rF {h0 h : Hp} {A : Option Addr} {c cx : Nat} {ax : Addr} {l : List Rul} {x : Rul} {K : Value → Hp → Prop} (e : Ext h0 h) (r : RowR h A c l) (hF : Fresh h0 A) (hx : Cl h ax x.enc) (hl : l.length ≤ 1000000000)
    (H : ∀ h' A' c', Ext h0 h' → RowR h' A' c' (l ++ [x]) → Fresh h0 A' → Fr (blk A) h h' → K (.slice A' (l ++ [x]).length c') h') :
    HW Tryz.prog (Builtin.append_ #[22, 22] 22 #[.slice A l.length c, .slice (some ax) 1 cx]) h K := by
  obtain ⟨i, z, hi, hs, hb, hz, hc⟩ := info_ru
  exact appF (z := z) Rul.enc_len Rul.flat und_rus hi hz (by rw [hc]; rfl) hs (by omega) (by omega) e r hF hx hl H
theorem unlikeR_s {h0 : Hp} {A : Option Addr} {c : Nat} {l : List Rul} (r : RSl h0 A l.length 12 (l.flatMap Rul.enc)) (hl : l.length ≤ 1000000000) {f : FuncId} {of : Rul → Pf} (hen : enters Tryz.prog f = true)
    (hf : ∀ (x : Rul) (h : Hp) (K : Value → Hp → Prop), (∀ h', Ext h h' → K (of x).val h') → CallsH Tryz.prog f #[x.val] h K) {K : Value → Hp → Prop}
    (H : ∀ h' B d us, Ext h0 h' → us.Nodup → (∀ z, z ∈ us ↔ z ∈ l.map of) → us.length ≤ l.length → RowF h' B d us → Fresh h0 B → K (.slice B us.length d) h') : CallsH Tryz.prog 21 #[.slice A l.length c, .func (.func f) #[] #[]] h0 K := by
  refine nest_unlike_ok _ _ _ _ _ _ ?_
  unfold nest_unlike
  have key : ∀ (K0 : (Option Addr) → Nat → Nat → Hp → Prop), (∀ h' B d, Ext h0 h' → RowF h' B d (l.map of) → Fresh h0 B → K0 B l.length d h') → ∀ (k i : Nat) (h : Hp) (B : Option Addr) (d : Nat), l.length - i < k → i ≤ l.length → Ext h0 h → RowF h B d ((l.take i).map of) → Fresh h0 B →
      nest_unlike_l1 (.func (.func f) #[] #[]) A l.length c (l.length : Int) K0 k B i d (i : Int) h := by
    intro K0 HK k
    induction k with
    | zero => intro i h B d hk; omega
    | succ k ih =>
      intro i h B d hk hi e rB hF
      unfold nest_unlike_l1
      refine br_i (fun q => ?_) (fun q => ?_)
      · have hlt : i < l.length := by simpa using q
        have hx := List.getElem?_eq_getElem hlt
        generalize l[i] = x at hx
        obtain ⟨a, hix, hcl⟩ := ixRu (c := c) (r.ext e) hx
        refine ⟨_, hix, _, _, _, _, _, _, _, _, _, _, _, _, ldS (vs := x.enc) hcl (by kernel_rfl), newV (us := x.enc) rfl rfl size_ru rfl fun h1 e1 c1 b1 z1 => ⟨_, _, _, _, _, _, _, _, _, _, _, _, ldS (vs := x.enc) c1 (by kernel_rfl), callF hen ?_⟩⟩
        refine hf x h1 _ fun h2 e2 => ⟨_, _, rfl, newC_i (cs := (of x).enc) fun h3 e3 c3 b3 z3 => ?_⟩
        have e03 := ((e.trans e1).trans e2).trans e3
        have hlen : ((l.take i).map of).length = i := by rw [List.length_map, List.length_take]; omega
        have := app_pF (cx := 1) (K := fun r81 h80 => ∃ A82 : Option Addr, ∃ l82 : Nat, ∃ c82 : Nat, r81 = (.slice A82 l82 c82) ∧ nest_unlike_l1 (.func (.func f) #[] #[]) A l.length c (l.length : Int) K0 k A82 l82 c82 (IntKind.i64.wrap ((i : Int) + 1)) h80) e03 (((rB.ext e1).ext e2).ext e3) hF c3 (by omega) (fun h4 B' d' e4 r4 hF4 f4 => ⟨_, _, _, rfl, by
          rw [wrapN (by omega)]
          have hst : (l.take (i + 1)).map of = (l.take i).map of ++ [of x] := by
            obtain ⟨h1, h2⟩ := List.getElem?_eq_some_iff.1 hx
            rw [List.take_succ_eq_append_getElem h1, h2]; simp
          have hl2 : ((l.take i).map of ++ [of x]).length = i + 1 := by rw [List.length_append, hlen]; rfl
          rw [hl2]
          exact ih (i + 1) h4 B' d' (by omega) (by omega) e4 (by rw [hst]; exact r4) hF4⟩)
        rw [hlen] at this
        exact this
      · have hi' : i = l.length := by simp at q; omega
        subst hi'
        rw [List.take_length] at rB
        exact HK h B d e rB hF
  refine ⟨l.length + 1, key _ (fun h1 B d e1 r1 hF1 => ?_) (l.length + 1) 0 h0 none 0 (by omega) (by omega) (Ext.refl _) RowC.nil (Fresh.none _)⟩
  have hlm : (l.map of).length = l.length := List.length_map _
  rw [← hlm]
  refine sort_pf r1 (by omega) fun h2 ys hp hs r2 f2 => ⟨rfl, ?_⟩
  have hly := hp.length_eq
  rw [← hly]
  refine compact_s r2 (by omega) fun h3 r3 f3 => ⟨_, _, _, rfl, ?_⟩
  have e3 : Ext h0 h3 := extOwn (extOwn e1 f2 (fun k hk => hF1 k hk)) f3 (fun k hk => hF1 k hk)
  refine H h3 B d (cpt ys) e3 (cpt_nodup totP (fun a => by rw [ltP, decide_eq_false_iff_not]; omega) hs) (fun z => (cpt_mem ys z).trans hp.mem_iff) ?_ r3 hF1
  have : (cpt ys).length ≤ ys.length := by
    cases ys with
    | nil => simp [cpt]
    | cons x L => unfold cpt; have := cpt_len_le L x; simp; omega
  omega
def held (l : List Rul) (s : Pf) : List Rul := l.filter fun r => withinB s r.src
theorem holders_s {h0 : Hp} {A : Option Addr} {c : Nat} {l : List Rul} (s : Pf) (r : RSl h0 A l.length 12 (l.flatMap Rul.enc)) (hl : l.length ≤ 1000000000) {K : Value → Hp → Prop}
    (H : ∀ h' B d, Ext h0 h' → RowR h' B d (held l s) → Fresh h0 B → K (.slice B (held l s).length d) h') : CallsH Tryz.prog 23 #[.slice A l.length c, s.val] h0 K := by
  refine nest_holders_ok _ _ _ _ _ ?_
  unfold nest_holders
  refine newC_i (cs := s.enc) fun hb eb cb bb zb => ?_
  have key : ∀ (k i : Nat) (h : Hp) (B : Option Addr) (d : Nat), l.length - i < k → i ≤ l.length → Ext hb h → RowR h B d (held (l.take i) s) → Fresh hb B →
      nest_holders_l1 ⟨h0.size, 0, none⟩ A l.length c (l.length : Int) (fun A92 l92 c92 h93 => K (.slice A92 l92 c92) h93) k B (held (l.take i) s).length d (i : Int) h := by
    intro k
    induction k with
    | zero => intro i h B d hk; omega
    | succ k ih =>
      intro i h B d hk hi e rB hF
      unfold nest_holders_l1
      refine br_i (fun q => ?_) (fun q => ?_)
      · have hlt : i < l.length := by simpa using q
        have hx := List.getElem?_eq_getElem hlt
        generalize l[i] = x at hx
        have e0 := eb.trans e
        obtain ⟨a, hix, hcl⟩ := ixRu (c := c) (r.ext e0) hx
        have hst : held (l.take (i + 1)) s = held (l.take i) s ++ (if withinB s x.src = true then [x] else []) := by
          obtain ⟨h1, h2⟩ := List.getElem?_eq_some_iff.1 hx
          rw [List.take_succ_eq_append_getElem h1, h2]
          unfold held
          rw [List.filter_append]
          congr 1
          cases hb : withinB s x.src <;> simp [hb]
        have hlh : (held (l.take i) s).length ≤ i := by
          unfold held
          have := List.length_filter_le (fun r => withinB s r.src) (l.take i)
          rw [List.length_take] at this
          omega
        refine ⟨_, hix, _, _, _, _, _, _, _, _, _, _, _, _, ldS (vs := x.enc) hcl (by kernel_rfl), newV (us := x.enc) rfl rfl size_ru rfl fun h1 e1 c1 b1 z1 => ⟨_, _, ldS ((cb.ext e).ext e1) (by kernel_rfl), _, _, ldS (Rul.cl_src c1) (by kernel_rfl), Within_s s x.src fun h2 e2 => ⟨_, rfl, ?_⟩⟩⟩
        have e02 := (e.trans e1).trans e2
        cases hw : withinB s x.src
        · rw [hw] at hst
          simp only [Bool.false_eq_true, if_false, List.append_nil] at hst
          refine br_f rfl ?_
          rw [wrapN (by omega)]
          have := ih (i + 1) h2 B d (by omega) (by omega) e02 (by rw [hst]; exact (rB.ext e1).ext e2) hF
          rw [hst] at this
          exact this
        · rw [hw] at hst
          simp only [if_true] at hst
          refine br_t rfl ⟨_, _, _, _, _, _, _, _, _, _, _, _, ldS (vs := x.enc) (c1.ext e2) (by kernel_rfl), newC_i (cs := x.enc) fun h3 e3 c3 b3 z3 => ?_⟩
          refine app_rF (e02.trans e3) (((rB.ext e1).ext e2).ext e3) hF c3 (by omega) fun h4 B' d' e4 r4 hF4 f4 => ⟨_, _, _, rfl, ?_⟩
          rw [wrapN (by omega), ← hst]
          rw [← hst] at r4
          exact ih (i + 1) h4 B' d' (by omega) (by omega) e4 r4 hF4
      · have hi' : i = l.length := by simp at q; omega
        subst hi'
        rw [List.take_length] at rB ⊢
        exact H h B d (eb.trans e) rB (hF.sub eb)
  exact ⟨l.length + 1, key _ 0 hb none 0 (by omega) (by omega) (Ext.refl _) RowC.nil (Fresh.none _)⟩
end Go.Proofs.YtgahbkbmolfpnaaGreat.Fs
