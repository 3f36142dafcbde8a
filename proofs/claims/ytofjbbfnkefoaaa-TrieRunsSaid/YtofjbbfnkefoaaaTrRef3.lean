/- The document's trie: with, Above, Longest. -/
import Derived.Test.YtofjbbfnkefoaaaTrRef2
namespace Go.Proofs.Ytofjbbfnkefoaaa.Fs
open Go Go.RowKit Go.Proofs.Ytofjbbfnkefoaaa.Sx Go.Proofs.Ytofjbbfnkefoaaa.Tp
set_option linter.unusedVariables false
set_option linter.unusedSimpArgs false
set_option maxRecDepth 10000
/-- A copy of an entry is put behind a row. -/
theorem app_e {h g0 : Hp} {A : Option Addr} {c : Nat} {es : List En} {e : En} (hr : RowE h A c es) (hb : ∀ k, blk A k → g0.size ≤ k) (e0 : Ext g0 h) (hl : es.length ≤ 1100000) {K : Option Addr → Nat → Nat → Hp → Prop}
    (H : ∀ h' A' c', Ext g0 h' → RowE h' A' c' (es ++ [e]) → (∀ k, blk A' k → g0.size ≤ k) → K A' (es ++ [e]).length c' h') :
    newC h (.cells #[(.int .u32 e.1), (.int .i64 e.2.1), (.int .i64 e.2.2)] 66 (0, 0)) fun a92 h91 => 
    HW Try.prog (Builtin.append_ #[79, 79] 79 #[(.slice A es.length c), (.slice (some a92) 1 1)]) h91 fun r94 h93 =>
    ∃ A95 : Option Addr, ∃ l95 : Nat, ∃ c95 : Nat, r94 = (.slice A95 l95 c95) ∧ K A95 l95 c95 h93 := by
  refine newC_i (cs := En.enc e) fun g4 e4 c4 b4 z4 => ?_
  obtain ⟨i', z, hi', hisz, hiby, hiby0, hiz, hzc⟩ := infoE
  have hrow4 := hr.keep (e4.fr (fun _ => False)) (fun _ _ h => h)
  refine HW_append1 (enc := En.enc) (xs := es) (x := e) En.len En.flat undE hi' hiz (by rw [hzc]; rfl) hisz hiby0 hrow4 c4 ?_ ?_
  · have : (2 * (es.length + 1) + 768) * i'.bytes ≤ (2 * (es.length + 1) + 768) * 100 := Nat.mul_le_mul_left _ hiby
    omega
  intro g5 g c5 hr5 hg f5
  refine ⟨_, _, _, rfl, ?_⟩
  have hbg : ∀ k, blk (some ⟨g, 0, none⟩ : Option Addr) k → k = g := by rintro k ⟨a', ha', rfl⟩; injection ha' with ha'; subst ha'; rfl
  have s0 := e0.size
  have s4 := e4.size
  have := H g5 (some ⟨g, 0, none⟩) c5 ⟨by have := f5.size; omega, fun k hk => by rw [f5.keep k (by omega) (fun hb' => by have := hb k hb'; omega), e4.old k (by omega), e0.old k hk]⟩ hr5 (fun k hk => by
    have := hbg k hk
    rcases hg with hg | hg
    · rw [this]; exact hb g hg
    · omega)
  simpa using this
theorem ltE_int {w : Nat} {a b : Ent} : ltE w a b = (decide (((kv w a.1 : Nat) : Int) < ((kv w b.1 : Nat) : Int)) || (decide (((kv w a.1 : Nat) : Int) = ((kv w b.1 : Nat) : Int)) && decide (((a.1.length : Nat) : Int) < ((b.1.length : Nat) : Int)))) := by
  unfold ltE
  congr 1
  · simp
  · congr 1
    · simp [Int.ofNat_inj]
    · simp
theorem with_l1 {w : Nat} {g0 : Hp} {A : Option Addr} {c : Nat} {L : List Ent} (r : RSl g0 A L.length 3 ((L.map (enW w)).flatMap En.enc)) (hbd : L.length ≤ 1048576) {ax : Addr} {e : Ent} (cx : Cl g0 ax (enW w e).enc) {K0 : Addr → Option Addr → Nat → Nat → Bool → Hp → Prop}
    (H : ∀ h' A' c' (b : Bool) (acc : List Ent), Ext g0 h' → RowE h' A' c' (acc.map (enW w)) → (∀ k, blk A' k → g0.size ≤ k) → acc.length ≤ 1100000 → (if b = true then acc else acc ++ [e]) = insE w e L → K0 ax A' (acc.map (enW w)).length c' b h') :
    ∀ (d i f : Nat) (h : Hp) (A' : Option Addr) (c' : Nat) (b : Bool) (acc : List Ent), i + d = L.length → d < f → Ext g0 h → RowE h A' c' (acc.map (enW w)) → (∀ k, blk A' k → g0.size ≤ k) → acc.length ≤ i + (if b = true then 1 else 0) → (if b = true then acc ++ L.drop i else acc ++ insE w e (L.drop i)) = insE w e L →
      quintetref12_with_l1 A L.length c ax K0 f A' (acc.map (enW w)).length c' b i h := by
  intro d
  induction d with
  | zero =>
    intro i f h A' c' b acc hi hf e0 rw_ hb hal hacc
    obtain ⟨f, rfl⟩ : ∃ f', f = f' + 1 := ⟨f - 1, by omega⟩
    unfold quintetref12_with_l1
    have hal' : acc.length ≤ i + 1 := by cases b <;> simp at hal <;> omega
    refine br_f (by simp; omega) (H h A' c' b acc e0 rw_ hb (by omega) ?_)
    rw [List.drop_of_length_le (by omega)] at hacc
    rw [← hacc]
    cases b <;> simp [insE]
  | succ d ih =>
    intro i f h A' c' b acc hi hf e0 rw_ hb hal hacc
    obtain ⟨f, rfl⟩ : ∃ f', f = f' + 1 := ⟨f - 1, by omega⟩
    unfold quintetref12_with_l1
    have hlt : i < L.length := by omega
    have ho : L[i]? = some L[i] := List.getElem?_eq_getElem hlt
    have hdrop : L.drop i = L[i] :: L.drop (i + 1) := List.drop_eq_getElem_cons hlt
    revert ho hdrop
    generalize L[i] = x
    intro ho hdrop
    have hcast : (i : Int) + 1 = ((i + 1 : Nat) : Int) := by omega
    have rdx : ∀ h', Ext g0 h' → ∃ a : Addr, PV Try.prog (Instr.indexAt 79 (.slice A L.length c) (.int .i64 (i : Int))) (.pointer (some (a.add (i * 3)))) ∧ Cl h' (a.add (i * 3)) (enW w x).enc := fun h' e' =>
      rd_e (r.ext e') (by rw [List.length_map]) (by rw [List.getElem?_map, ho]; rfl)
    have hal' : acc.length ≤ i + 1 := by cases b <;> simp at hal <;> omega
    have hml : (acc.map (enW w)).length ≤ 1100000 := by rw [List.length_map]; omega
    -- the list's own entry, put behind what there is
    have own : ∀ (acc' : List Ent) (b' : Bool) (h' : Hp) (A1 : Option Addr) (c1 : Nat), Ext g0 h' → RowE h' A1 c1 (acc'.map (enW w)) → (∀ k, blk A1 k → g0.size ≤ k) → acc'.length ≤ i + 1 → (acc' ++ [x]).length ≤ i + 1 + (if b' = true then 1 else 0) → (if b' = true then (acc' ++ [x]) ++ L.drop (i + 1) else (acc' ++ [x]) ++ insE w e (L.drop (i + 1))) = insE w e L →
        ∃ a96 : Addr, PV Try.prog (Instr.indexAt 79 (.slice A L.length c) (.int .i64 (i : Int))) (.pointer (some a96)) ∧
    ∃ x97 : Int, ∃ x98 : Int, ∃ x99 : Int, HV Try.prog (Instr.loadAt 66 (.pointer (some a96))) h' (.agg #[(.int .u32 x97), (.int .i64 x98), (.int .i64 x99)]) ∧ 
    newC h' (.cells #[(.int .u32 x97), (.int .i64 x98), (.int .i64 x99)] 66 (0, 0)) fun a101 h100 => 
    HW Try.prog (Builtin.append_ #[79, 79] 79 #[(.slice A1 (acc'.map (enW w)).length c1), (.slice (some a101) 1 1)]) h100 fun r103 h102 =>
    ∃ A104 : Option Addr, ∃ l104 : Nat, ∃ c104 : Nat, r103 = (.slice A104 l104 c104) ∧ 
    quintetref12_with_l1 A L.length c ax K0 f A104 l104 c104 b' (IntKind.i64.wrap ((i : Int) + 1)) h102 := by
      intro acc' b' h' A1 c1 e1 r1 hb1 hl0 hl1 hacc'
      obtain ⟨a, hp, hcl⟩ := rdx h' e1
      refine ⟨_, hp, _, _, _, ldS hcl (by kernel_rfl), ?_⟩
      refine app_e (e := enW w x) r1 hb1 e1 (by rw [List.length_map]; omega) fun h2 A2 c2 e2 r2 hb2 => ?_
      rw [wrap_in (by omega) (by omega), hcast]
      have hm : acc'.map (enW w) ++ [enW w x] = (acc' ++ [x]).map (enW w) := by simp
      rw [hm] at r2 ⊢
      exact ih (i + 1) f h2 A2 c2 b' (acc' ++ [x]) (by omega) (by omega) e2 r2 hb2 hl1 hacc'
    refine br_t (by simp; omega) ?_
    cases b with
    | true =>
      rw [if_pos rfl] at hacc
      refine br_f rfl ?_
      rw [if_pos rfl] at hal
      refine own acc true h A' c' e0 rw_ hb hal' (by rw [List.length_append, List.length_singleton, if_pos rfl]; omega) ?_
      rw [if_pos rfl, ← hacc, hdrop]
      simp
    | false =>
      rw [if_neg (by decide), hdrop, insE] at hacc
      have hlt_int := ltE_int (w := w) (a := e) (b := x)
      obtain ⟨a, hp, hcl⟩ := rdx h e0
      -- it goes here
      have here : ltE w e x = true → ∃ x88 : Int, ∃ x89 : Int, ∃ x90 : Int, HV Try.prog (Instr.loadAt 66 (.pointer (some ax))) h (.agg #[(.int .u32 x88), (.int .i64 x89), (.int .i64 x90)]) ∧ 
    newC h (.cells #[(.int .u32 x88), (.int .i64 x89), (.int .i64 x90)] 66 (0, 0)) fun a92 h91 => 
    HW Try.prog (Builtin.append_ #[79, 79] 79 #[(.slice A' (acc.map (enW w)).length c'), (.slice (some a92) 1 1)]) h91 fun r94 h93 =>
    ∃ A95 : Option Addr, ∃ l95 : Nat, ∃ c95 : Nat, r94 = (.slice A95 l95 c95) ∧ 
    ∃ a96 : Addr, PV Try.prog (Instr.indexAt 79 (.slice A L.length c) (.int .i64 (i : Int))) (.pointer (some a96)) ∧
    ∃ x97 : Int, ∃ x98 : Int, ∃ x99 : Int, HV Try.prog (Instr.loadAt 66 (.pointer (some a96))) h93 (.agg #[(.int .u32 x97), (.int .i64 x98), (.int .i64 x99)]) ∧ 
    newC h93 (.cells #[(.int .u32 x97), (.int .i64 x98), (.int .i64 x99)] 66 (0, 0)) fun a101 h100 => 
    HW Try.prog (Builtin.append_ #[79, 79] 79 #[(.slice A95 l95 c95), (.slice (some a101) 1 1)]) h100 fun r103 h102 =>
    ∃ A104 : Option Addr, ∃ l104 : Nat, ∃ c104 : Nat, r103 = (.slice A104 l104 c104) ∧ 
    quintetref12_with_l1 A L.length c ax K0 f A104 l104 c104 true (IntKind.i64.wrap ((i : Int) + 1)) h102 := by
        intro hlt'
        rw [if_pos hlt'] at hacc
        refine ⟨_, _, _, ldS (cx.ext e0) (by kernel_rfl), ?_⟩
        refine app_e (e := enW w e) rw_ hb e0 hml fun h2 A2 c2 e2 r2 hb2 => ?_
        have hm : acc.map (enW w) ++ [enW w e] = (acc ++ [e]).map (enW w) := by simp
        rw [hm] at r2 ⊢
        obtain ⟨a, hp, hcl⟩ := rdx h2 e2
        refine ⟨_, hp, _, _, _, ldS hcl (by kernel_rfl), ?_⟩
        refine app_e (e := enW w x) r2 hb2 e2 (by rw [List.length_map, List.length_append, List.length_singleton]; omega) fun h3 A3 c3 e3 r3 hb3 => ?_
        rw [wrap_in (by omega) (by omega), hcast]
        have hm : (acc ++ [e]).map (enW w) ++ [enW w x] = (acc ++ [e] ++ [x]).map (enW w) := by simp
        rw [hm] at r3 ⊢
        refine ih (i + 1) f h3 A3 c3 true (acc ++ [e] ++ [x]) (by omega) (by omega) e3 r3 hb3 ?_ ?_
        · rw [if_neg (by decide)] at hal
          rw [if_pos rfl, List.length_append, List.length_append, List.length_singleton, List.length_singleton]
          omega
        · rw [if_pos rfl, ← hacc]; simp
      have later : ltE w e x = false → ∃ a96 : Addr, PV Try.prog (Instr.indexAt 79 (.slice A L.length c) (.int .i64 (i : Int))) (.pointer (some a96)) ∧
    ∃ x97 : Int, ∃ x98 : Int, ∃ x99 : Int, HV Try.prog (Instr.loadAt 66 (.pointer (some a96))) h (.agg #[(.int .u32 x97), (.int .i64 x98), (.int .i64 x99)]) ∧ 
    newC h (.cells #[(.int .u32 x97), (.int .i64 x98), (.int .i64 x99)] 66 (0, 0)) fun a101 h100 => 
    HW Try.prog (Builtin.append_ #[79, 79] 79 #[(.slice A' (acc.map (enW w)).length c'), (.slice (some a101) 1 1)]) h100 fun r103 h102 =>
    ∃ A104 : Option Addr, ∃ l104 : Nat, ∃ c104 : Nat, r103 = (.slice A104 l104 c104) ∧ 
    quintetref12_with_l1 A L.length c ax K0 f A104 l104 c104 false (IntKind.i64.wrap ((i : Int) + 1)) h102 := by
        intro hlt'
        rw [if_neg (by rw [hlt']; decide)] at hacc
        rw [if_neg (by decide)] at hal
        refine own acc false h A' c' e0 rw_ hb hal' (by rw [List.length_append, List.length_singleton, if_neg (by decide)]; omega) ?_
        rw [if_neg (by decide), ← hacc]
        simp
      refine br_t rfl ⟨_, ld ((cx.ext e0).at_ 0 _ rfl) (by kernel_rfl), _, hp, _, ld (hcl.at_ 0 _ rfl) (by kernel_rfl), br_i (fun h1 => here ?_) (fun h1 => ?_)⟩
      · have h1' : decide (((kv w e.1 : Nat) : Int) < ((kv w x.1 : Nat) : Int)) = true := h1
        rw [hlt_int, h1']; rfl
      have h1' : decide (((kv w e.1 : Nat) : Int) < ((kv w x.1 : Nat) : Int)) = false := h1
      refine ⟨_, ld ((cx.ext e0).at_ 0 _ rfl) (by kernel_rfl), _, hp, _, ld (hcl.at_ 0 _ rfl) (by kernel_rfl), br_i (fun h2 => ?_) (fun h2 => later ?_)⟩
      · have h2' : decide (((kv w e.1 : Nat) : Int) = ((kv w x.1 : Nat) : Int)) = true := by
          have : (((kv w e.1 : Nat) : Int) == ((kv w x.1 : Nat) : Int)) = true := h2
          rw [decide_eq_true_eq]; exact beq_iff_eq.1 this
        refine ⟨_, ld ((cx.ext e0).at_ 1 _ rfl) (by kernel_rfl), _, hp, _, ld (hcl.at_ 1 _ rfl) (by kernel_rfl), br_i (fun h3 => here ?_) (fun h3 => later ?_)⟩
        · have h3' : decide (((e.1.length : Nat) : Int) < ((x.1.length : Nat) : Int)) = true := h3
          rw [hlt_int, h1', h2', h3']; rfl
        · have h3' : decide (((e.1.length : Nat) : Int) < ((x.1.length : Nat) : Int)) = false := h3
          rw [hlt_int, h1', h2', h3']; rfl
      · have h2' : decide (((kv w e.1 : Nat) : Int) = ((kv w x.1 : Nat) : Int)) = false := by
          have : (((kv w e.1 : Nat) : Int) == ((kv w x.1 : Nat) : Int)) = false := h2
          rw [decide_eq_false_iff_not]; exact beq_eq_false_iff_ne.1 this
        rw [hlt_int, h1', h2']; rfl
end Go.Proofs.Ytofjbbfnkefoaaa.Fs
