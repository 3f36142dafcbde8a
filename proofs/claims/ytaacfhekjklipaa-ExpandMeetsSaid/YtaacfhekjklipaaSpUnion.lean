/- span.Union and span.Gaps. -/
import Derived.Test.YtaacfhekjklipaaSpSort
namespace Go.Proofs.Ytaacfhekjklipaa.Fs
open Go Go.RowKit Go.Proofs.Ytaacfhekjklipaa.Sx Go.Proofs.Ytaacfhekjklipaa.Sp
set_option linter.unusedVariables false
set_option linter.unusedSimpArgs false
set_option maxRecDepth 10000
theorem size_u16 : (Try.prog.info? 22).map (·.size) = some 1 := by kernel_rfl
theorem make_sp {h : Hp} {n : Nat} (hn : n ≤ 1000000000) {K : Value → Hp → Prop} (H : ∀ h', Ext h h' → RowP h' (some ⟨h.size, 0, none⟩) n (List.replicate n ⟨0, 0⟩) → K (.slice (some ⟨h.size, 0, none⟩) n n) h') : HW Try.prog (Instr.makeSlice 25 (.int .i64 (n : Int)) (.int .i64 (n : Int))) h K := by
  obtain ⟨i, z, hi, hs, hb, hz, hc⟩ := info_sp
  exact HW_makeRow und_sps hi hz hs (by decide) hc Sp.len (by rw [hb]; omega) (by omega) fun h' e r => H h' e ⟨r, by omega⟩
theorem copy_sp {h : Hp} {A sA : Option Addr} {c sc n : Nat} {zs xs : List Sp} {K : Value → Hp → Prop} (r : RowP h A c zs) (hn : zs.length = n) (hl : xs.length = n) (rs : RSl h sA xs.length 2 (xs.flatMap Sp.enc))
    (H : ∀ h', RowP h' A c xs → Fr (blk A) h h' → h'.size = h.size → K (.int .i64 (xs.length : Int)) h') : HW Try.prog (Builtin.copy_ #[25, 25] 3 #[.slice A n c, .slice sA xs.length sc]) h K := by
  obtain ⟨i, z, hi, hs, hb, hz, hc⟩ := info_sp
  exact HW_copyFrom' Sp.len Sp.flat und_sps hi hs r.row hn hl rs fun h' r' f z => H h' ⟨r', r.cap⟩ f z
def stU (out rest : List Sp) : List Sp := match out.getLast? with
  | none => un0 rest
  | some t => out.dropLast ++ un t rest
theorem stU_nil (rest : List Sp) : stU [] rest = un0 rest := rfl
theorem stU_snoc (ini : List Sp) (t : Sp) (rest : List Sp) : stU (ini ++ [t]) rest = ini ++ un t rest := by simp [stU]
theorem stU_end (out : List Sp) : stU out [] = out := by
  rcases List.eq_nil_or_concat out with rfl | ⟨ini, t, rfl⟩
  · rfl
  · rw [List.concat_eq_append, stU_snoc]; rfl
theorem stU_skip (out : List Sp) (s : Sp) (rest : List Sp) (h : ¬ s.lo ≤ s.hi) : stU out (s :: rest) = stU out rest := by
  rcases List.eq_nil_or_concat out with rfl | ⟨ini, t, rfl⟩
  · rw [stU_nil, stU_nil, un0, if_neg h]
  · rw [List.concat_eq_append, stU_snoc, stU_snoc, un, if_neg h]
theorem fN {x y : Hp} (e : Ext x y) : Fr (fun _ => False) x y := e.fr _
theorem union_j3 {h0 : Hp} {K0 : Option Addr → Nat → Nat → Option Addr → Nat → Nat → Int → Int → Hp → Prop} {ini : List Sp} {t s : Sp} {a : Addr} {A : Option Addr} {co : Nat} {h : Hp} {i : Int} {c1 l1 : Nat} {A1 : Option Addr} (b : Bool) {out : List Sp}
    (e : Ext h0 h) (r : RowP h A co out) (hF : Fresh h0 A) (cs : Cl h a s.enc) (hl : out.length ≤ 10000000) (n1 : Int) (hb : b = true → out = ini ++ [t])
    (H : ∀ h' A' c', Ext h0 h' → RowP h' A' c' (if b = true then ini ++ [⟨t.lo, mx t.hi s.hi⟩] else out ++ [s]) → Fresh h0 A' → K0 A' (if b = true then ini ++ [⟨t.lo, mx t.hi s.hi⟩] else out ++ [s]).length c' A1 l1 c1 n1 i h') :
    span_Union_j3 K0 A out.length co a (out.length : Int) A1 l1 c1 n1 i b h := by
  unfold span_Union_j3
  refine br_i (fun hbt => ?_) (fun hbf => ?_)
  · rw [hb hbt]
    rw [hb hbt] at r hl
    simp only [hbt, if_true] at H
    have hlen : (ini ++ [t]).length = ini.length + 1 := by simp
    obtain ⟨g, rfl⟩ := r.blk0 Sp.len (by simp)
    have hi : (ini ++ [t])[ini.length]? = some t := by simp
    have w1 : IntKind.i64.wrap (((ini ++ [t]).length : Int) - 1) = (ini.length : Int) := by rw [hlen, wrap_in (by omega) (by omega)]; omega
    have hix := ix0 (P := Try.prog) (T := 25) (E := 24) (sz := 2) (g := g) (l := (ini ++ [t]).length) (c := co) (k := .i64) (i := ini.length) (by rw [hlen]; omega) und_sps size_sp
    rw [w1]
    have ct := r.elem0 Sp.len hi
    refine ⟨_, hix, _, ld (ct.at_ 1 _ rfl) (by kernel_rfl), _, ld (cs.at_ 1 _ rfl) (by kernel_rfl), _, max16 _ _, _, hix, ?_⟩
    rw [add_off rfl]
    refine HU_part (us := [.int .u16 (mx t.hi s.hi)]) (x' := ⟨t.lo, mx t.hi s.hi⟩) (o := 1) Sp.len r.row hi rfl size_u16 rfl (by simp) rfl fun h' r' f z => ?_
    have e1 : (ini ++ [t]).set ini.length ⟨t.lo, mx t.hi s.hi⟩ = ini ++ [⟨t.lo, mx t.hi s.hi⟩] := by simp
    rw [e1] at r'
    have := H h' _ co (extOwn e f (fun k hk => hF k ⟨_, rfl, hk.symm⟩)) ⟨r', r.cap⟩ hF
    have e2 : (ini ++ [(⟨t.lo, mx t.hi s.hi⟩ : Sp)]).length = (ini ++ [t]).length := by simp
    rw [e2] at this
    exact this
  · simp only [hbf] at H
    refine ⟨_, _, ldS cs (by kernel_rfl), newC_i (cs := s.enc) fun h1 e1 c1 b1 z1 => ?_⟩
    have r1 := r.ext e1
    refine app_spF (e.trans e1) r1 hF c1 (by omega) ?_
    intro h2 A2 c2 e2 r2 F2 f2
    exact ⟨_, _, _, rfl, H h2 A2 c2 e2 r2 F2⟩
theorem union_l2 {h0 : Hp} {g c : Nat} {xs : List Sp} (r0 : RowP h0 (some ⟨g, 0, none⟩) c xs) (ok : ∀ s ∈ xs, Ok s) (hl : xs.length ≤ 4194304) {K0 : Option Addr → Nat → Nat → Hp → Prop} :
    ∀ (k i : Nat) (out : List Sp) (A : Option Addr) (co : Nat) (h : Hp), Ext h0 h → RowP h A co out → Fresh h0 A → (∀ s ∈ out, Ok s) → xs.length - i < k → i ≤ xs.length → out.length ≤ i →
      (∀ h' A' c', Ext h0 h' → RowP h' A' c' (stU out (xs.drop i)) → Fresh h0 A' → K0 A' (stU out (xs.drop i)).length c' h') →
      span_Union_l2 (some ⟨g, 0, none⟩) xs.length c (xs.length : Int) K0 k A out.length co i h
  | 0, i, out, A, co, h, _, _, _, _, hk, _, _, _ => by omega
  | k + 1, i, out, A, co, h, e, r, hF, oko, hk, hi, ho, H => by
    unfold span_Union_l2
    refine br_i (fun hc => ?_) (fun hc => ?_)
    · have hlt : i < xs.length := by simpa using hc
      have hg : xs[i]? = some xs[i] := List.getElem?_eq_getElem hlt
      have oks := ok xs[i] (List.getElem_mem hlt)
      rw [List.drop_eq_getElem_cons hlt] at H
      revert hg oks H
      generalize xs[i] = s
      intro H hg oks
      refine ⟨_, ix0 hlt und_sps size_sp, _, _, ldS ((r0.ext e).elem0 Sp.len hg) (by kernel_rfl), ?_⟩
      refine newV (us := s.enc) rfl rfl size_sp rfl fun h1 e1 c1 b1 z1 => ⟨_, _, ldS c1 (by kernel_rfl), ?_⟩
      refine span_may_s s fun h2 e2 => ⟨_, rfl, br_i (fun p => ?_) (fun p => ?_)⟩
      · have hs : ¬ s.lo ≤ s.hi := by simpa using p
        rw [stU_skip _ _ _ hs] at H
        rw [wrap_in (n := (i : Int) + 1) (by omega) (by omega)]
        exact union_l2 r0 ok hl k (i + 1) out A co h2 ((e.trans e1).trans e2) ((r.ext e1).ext e2) hF oko (by omega) (by omega) (by omega) H
      · have hs : s.lo ≤ s.hi := by simpa using p
        have cs := c1.ext e2
        have r2 := (r.ext e1).ext e2
        have e02 := (e.trans e1).trans e2
        have wi : IntKind.i64.wrap ((i : Int) + 1) = ((i + 1 : Nat) : Int) := by rw [wrap_in (by omega) (by omega)]; omega
        rcases List.eq_nil_or_concat out with rfl | ⟨ini, t, rfl⟩
        · refine br_f (by simp) ?_
          refine union_j3 (ini := []) (t := ⟨0, 0⟩) (out := []) (h0 := h0) false e02 r2 hF cs (by simp) _ (by simp) fun h' A' c' e' r' F' => ?_
          simp only [Bool.false_eq_true, if_false, List.nil_append] at r' ⊢
          rw [wi]
          rw [stU_nil, un0, if_pos hs, ← List.nil_append (un s _), ← stU_snoc] at H
          exact union_l2 r0 ok hl k (i + 1) [s] A' c' h' e' r' F' (by simpa using oks) (by omega) (by omega) (by simp) H
        · rw [List.concat_eq_append] at *
          have okt := oko t (by simp)
          obtain ⟨k1, k2, k3, k4⟩ := oks
          obtain ⟨j1, j2, j3, j4⟩ := okt
          obtain ⟨go, rfl⟩ := r2.blk0 Sp.len (by simp)
          refine br_t (by simp) ?_
          have w1 : IntKind.i64.wrap (((ini ++ [t]).length : Int) - 1) = (ini.length : Int) := by
            have : (ini ++ [t]).length = ini.length + 1 := by simp
            rw [this, wrap_in (by omega) (by omega)]; omega
          have ct := r2.elem0 Sp.len (i := ini.length) (x := t) (by simp)
          rw [w1]
          refine ⟨_, ld cs.head (by kernel_rfl), _, ix0 (by simp) und_sps size_sp, _, ld (ct.at_ 1 _ rfl) (by kernel_rfl), ?_⟩
          rw [wrap_in (n := s.lo) (by omega) (by omega), wrap_in (n := t.hi) (by omega) (by omega), wrap_in (n := t.hi + 1) (by omega) (by omega)]
          rw [stU_snoc, un, if_pos hs] at H
          refine union_j3 (ini := ini) (t := t) (out := ini ++ [t]) (h0 := h0) (decide (s.lo ≤ t.hi + 1)) e02 r2 hF cs (by omega) _ (fun _ => rfl) fun h' A' c' e' r' F' => ?_
          rw [wi]
          by_cases hd : s.lo ≤ t.hi + 1
          · rw [if_pos hd, ← stU_snoc] at H
            simp only [hd, decide_true, if_true] at r' ⊢
            refine union_l2 r0 ok hl k (i + 1) _ A' c' h' e' r' F' ?_ (by omega) (by omega) (by simp at ho ⊢; omega) H
            intro x hx
            rcases List.mem_append.1 hx with hx | hx
            · exact oko x (List.mem_append_left _ hx)
            · simp at hx; subst hx; unfold Ok mx; dsimp only; split <;> omega
          · rw [if_neg hd] at H
            have e3 : ini ++ t :: un s (List.drop (i + 1) xs) = stU ((ini ++ [t]) ++ [s]) (List.drop (i + 1) xs) := by rw [stU_snoc]; simp
            rw [e3] at H
            simp only [hd, decide_false, Bool.false_eq_true, if_false] at r' ⊢
            refine union_l2 r0 ok hl k (i + 1) _ A' c' h' e' r' F' ?_ (by omega) (by omega) (by simp at ho ⊢; omega) H
            intro x hx
            rcases List.mem_append.1 hx with hx | hx
            · exact oko x hx
            · simp at hx; subst hx; exact ⟨k1, k2, k3, k4⟩
    · have hi' : i = xs.length := by simp at hc; omega
      rw [hi', List.drop_length, stU_end] at H
      exact H h A co e r hF
theorem span_Union_s {h : Hp} {A : Option Addr} {c : Nat} {l : List Sp} (rs : RSl h A l.length 2 (l.flatMap Sp.enc)) (ok : ∀ s ∈ l, Ok s) (hl : l.length ≤ 4194304) {K : Value → Hp → Prop}
    (H : ∀ h' A' c', Ext h h' → RowP h' A' c' (uni l) → Fresh h A' → K (.slice A' (uni l).length c') h') : CallsH Try.prog 19 #[.slice A l.length c] h K := by
  refine span_Union_ok _ _ _ ?_
  unfold span_Union
  refine make_sp (by omega) fun h1 e1 r1 => ⟨_, _, _, rfl, ?_⟩
  refine copy_sp r1 (by simp) rfl (rs.ext e1) fun h2 r2 f2 z2 => ⟨_, rfl, ?_⟩
  refine sort_sp r2 (by omega) fun h3 r3 f3 => ⟨rfl, l.length + 1, ?_⟩
  have E3 : Ext h h3 := extOwn (extOwn e1 f2 (Fresh.some (Nat.le_refl _))) f3 (fun k hk => by omega)
  have hsl := sort_length l
  have := union_l2 r3 (fun s hs => ok s ((sort_perm l).mem_iff.1 hs)) (by omega) (K0 := fun A l c h => K (.slice A l c) h) (l.length + 1) 0 [] none 0 h3 (Ext.refl _) (RowP.nil _) (Fresh.none _) (by simp) (by omega) (by omega) (by simp)
    (fun h' A' c' e' r' F' => by
      rw [List.drop_zero, stU_nil] at r' ⊢
      exact H h' A' c' (E3.trans e') r' (F'.sub E3))
  rw [hsl] at this
  exact this
/-! ### gaps -/
theorem gaps_l1 {h0 : Hp} {A0 : Option Addr} {c : Nat} {xs : List Sp} (r0 : RowP h0 A0 c xs) (ok : ∀ s ∈ xs, Ok s) (hl : xs.length ≤ 4194304) {K0 : Option Addr → Nat → Nat → Int → Hp → Prop} {fin : List Sp} :
    ∀ (k i : Nat) (out : List Sp) (x : Int) (A : Option Addr) (co : Nat) (h : Hp), Ext h0 h → RowP h A co out → Fresh h0 A → xs.length - i < k → i ≤ xs.length → out.length ≤ i → 0 ≤ x → x ≤ 65536 → out ++ gp x (xs.drop i) = fin →
      (∀ h' A' c' out' x', Ext h0 h' → RowP h' A' c' out' → Fresh h0 A' → out'.length ≤ xs.length → 0 ≤ x' → x' ≤ 65536 → out' ++ gp x' [] = fin → K0 A' out'.length c' x' h') →
      span_Gaps_l1 A0 xs.length c (xs.length : Int) K0 k A out.length co x i h
  | 0, i, out, x, A, co, h, _, _, _, hk, _, _, _, _, _, _ => by omega
  | k + 1, i, out, x, A, co, h, e, r, hF, hk, hi, ho, x0, x1, hfin, H => by
    unfold span_Gaps_l1
    refine br_i (fun hc => ?_) (fun hc => ?_)
    · have hlt : i < xs.length := by simpa using hc
      have hg : xs[i]? = some xs[i] := List.getElem?_eq_getElem hlt
      have oks := ok xs[i] (List.getElem_mem hlt)
      rw [List.drop_eq_getElem_cons hlt] at hfin
      revert hg oks hfin
      generalize xs[i] = s
      intro hfin hg oks
      obtain ⟨k1, k2, k3, k4⟩ := oks
      obtain ⟨g, rfl⟩ := r0.blk0 Sp.len (by omega)
      refine ⟨_, ix0 hlt und_sps size_sp, _, _, ldS ((r0.ext e).elem0 Sp.len hg) (by kernel_rfl), ?_⟩
      refine newV (us := s.enc) rfl rfl size_sp rfl fun h1 e1 c1 b1 z1 => ⟨_, ld c1.head (by kernel_rfl), ?_⟩
      have wi : IntKind.i64.wrap ((i : Int) + 1) = ((i + 1 : Nat) : Int) := by rw [wrap_in (by omega) (by omega)]; omega
      rw [wrap_in (n := s.lo) (by omega) (by omega), wi]
      unfold gp at hfin
      refine br_i (fun p => ?_) (fun p => ?_)
      · have hx : x < s.lo := by simpa using p
        rw [if_pos hx] at hfin
        refine ⟨_, ld c1.head (by kernel_rfl), ?_⟩
        rw [w16 (x := x) (by omega) (by omega), w16 (x := s.lo - 1) (by omega) (by omega)]
        refine newC_i (cs := Sp.enc ⟨x, s.lo - 1⟩) fun h2 e2 c2 b2 z2 => ?_
        have r2 := (r.ext e1).ext e2
        refine app_spF ((e.trans e1).trans e2) r2 hF c2 (by omega) ?_
        intro h3 A3 c3 e3 r3 F3 f3
        have c13 : Cl h3 ⟨h.size, 0, none⟩ s.enc := f3.cl (c1.ext e2) (fun hb => by have h1 : h.size < h.size := r.old _ hb; omega)
        refine ⟨_, _, _, rfl, _, ld (c13.at_ 1 _ rfl) (by kernel_rfl), ?_⟩
        rw [wrap_in (n := s.hi) (by omega) (by omega), wrap_in (n := s.hi + 1) (by omega) (by omega)]
        exact gaps_l1 r0 ok hl k (i + 1) _ (s.hi + 1) A3 c3 h3 e3 r3 F3 (by omega) (by omega) (by simp; omega) (by omega) (by omega) (by rw [← hfin]; simp) H
      · have hx : ¬ x < s.lo := by simpa using p
        rw [if_neg hx] at hfin
        refine ⟨_, ld (c1.at_ 1 _ rfl) (by kernel_rfl), ?_⟩
        rw [wrap_in (n := s.hi) (by omega) (by omega), wrap_in (n := s.hi + 1) (by omega) (by omega)]
        exact gaps_l1 r0 ok hl k (i + 1) out (s.hi + 1) A co h1 (e.trans e1) (r.ext e1) hF (by omega) (by omega) (by omega) (by omega) (by omega) hfin H
    · have hi' : i = xs.length := by simp at hc; omega
      rw [hi', List.drop_length] at hfin
      exact H h A co out x e r hF (by omega) x0 x1 hfin
theorem span_Gaps_s {h : Hp} {A : Option Addr} {c : Nat} {l : List Sp} (rs : RSl h A l.length 2 (l.flatMap Sp.enc)) (ok : ∀ s ∈ l, Ok s) (hl : l.length ≤ 4194304) {K : Value → Hp → Prop}
    (H : ∀ h' A' c', Ext h h' → RowP h' A' c' (gp 0 (uni l)) → Fresh h A' → K (.slice A' (gp 0 (uni l)).length c') h') : CallsH Try.prog 22 #[.slice A l.length c] h K := by
  refine span_Gaps_ok _ _ _ ?_
  unfold span_Gaps
  have ul := uni_len l
  have uok := Nm.ok (Int.le_refl 0) (uni_nm l ok)
  refine span_Union_s rs ok hl fun h1 A1 c1 e1 r1 F1 => ⟨_, _, _, rfl, (uni l).length + 1, ?_⟩
  refine gaps_l1 (h0 := h1) (out := []) (fin := gp 0 (uni l)) r1 uok (by omega) _ 0 0 none 0 h1 (Ext.refl _) (RowP.nil _) (Fresh.none _) (by omega) (by omega) (by simp) (by omega) (by omega) (by simp) ?_
  intro h2 A2 c2 out x e2 r2 F2 hl2 x0 x1 hfin
  have hgx : gp x [] = if x < 65536 then [⟨x, 65535⟩] else [] := by simp only [gp]
  rw [hgx] at hfin
  refine br_i (fun p => ?_) (fun p => ?_)
  · rw [if_pos (by simpa using p)] at hfin
    have px : x < 65536 := by simpa using p
    rw [w16 (x := x) (by omega) (by omega)]
    refine newC_i (cs := Sp.enc ⟨x, 65535⟩) fun h3 e3 c3 b3 z3 => ?_
    have r3 := r2.ext e3
    refine app_spF (e2.trans e3) r3 F2 c3 (by omega) ?_
    intro h4 A4 c4 e4 r4 F4 f4
    rw [hfin] at r4 ⊢
    exact ⟨_, _, _, rfl, H h4 A4 c4 (e1.trans e4) r4 (F4.sub e1)⟩
  · rw [if_neg (by simpa using p), List.append_nil] at hfin
    rw [hfin] at r2 ⊢
    exact H h2 A2 c2 (e1.trans e2) r2 (F2.sub e1)
end Go.Proofs.Ytaacfhekjklipaa.Fs
