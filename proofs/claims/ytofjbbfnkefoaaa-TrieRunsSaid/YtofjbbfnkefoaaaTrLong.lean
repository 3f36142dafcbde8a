/- told, played. -/
import Derived.Test.YtofjbbfnkefoaaaTrAb
namespace Go.Proofs.Ytofjbbfnkefoaaa.Fs
open Go Go.RowKit Go.Proofs.Ytofjbbfnkefoaaa.Sx Go.Proofs.Ytofjbbfnkefoaaa.Tp
set_option linter.unusedVariables false
set_option linter.unusedSimpArgs false
set_option maxRecDepth 10000
theorem told_s' {h : Hp} {g : FuncId} {lb : Array Value} {L : List En} (s : SeqAt h g lb L) (hL : L.length ≤ 1100000) {K : Value → Hp → Prop} (H : ∀ h' A c, Ext h h' → RowE h' A c L → (∀ k, blk A k → h.size ≤ k) → K (.slice A L.length c) h') :
    CallsH Try.prog 41 #[.func (.func g) #[] lb] h K := by
  refine quintetlaw12_told_ok _ _ _ ?_
  unfold quintetlaw12_told
  refine newC_i (cs := [Value.slice none ([] : List En).length 0]) fun h1 e1 c1 b1 z1 => ?_
  refine ⟨false, fun w => pureRun_run Try.prog _ _ (by kernel_rfl) w, br_f rfl ?_⟩
  refine ⟨g, lb, rfl, s.enters, fun r ok => ?_⟩
  show CallsH Try.prog g (#[yieldV (h1.size + 1)] ++ lb) _ _
  have e2 : Ext h1 ((h1.push (.deferred (some []))).push (.loop r)) := (Ext.push h1 _).trans (Ext.push _ _)
  have hD : ((h1.push (.deferred (some []))).push (.loop r))[h1.size]? = some (.deferred (some [])) := by
    rw [Array.getElem?_push, if_neg (by simp), Array.getElem?_push, if_pos rfl]
  have hR : ((h1.push (.deferred (some []))).push (.loop r))[h1.size + 1]? = some (.loop r) := by rw [Array.getElem?_push, if_pos (by simp)]
  revert e2 hD hR
  generalize (h1.push (.deferred (some []))).push (.loop r) = g1
  intro e2 hD hR
  have s1 := e1.size
  have hlr := lt_of_get hR
  have fN := fun (x y : Hp) (e : Ext x y) => e.fr (fun _ => False)
  have extI : ∀ h', Fr (fun k => k = h.size ∨ k = h1.size + 1) g1 h' → Ext h h' := fun h' f => ⟨by have := f.size; have := e2.size; omega, fun k hk => by rw [f.keep k (by have := e2.size; omega) (by rintro (e | e) <;> omega), e2.old k (by omega), e1.old k hk]⟩
  refine s.run (told_round (h0 := h) (g1 := g1) (by omega) (by omega) hlr ok hL) (fun done Y h' hj => ?_) (Y := fun k => k = h.size ∨ k = h1.size + 1 ∨ blk none k) ⟨none, 0, rfl, Fr.refl _ _, (fN _ _ e2).get b1 (fun h => h), hR, .inl ⟨rfl, rfl, rfl, rfl⟩, (by rintro k ⟨a, ha, _⟩; cases ha)⟩ (fun h' Y hj => ?_) (fun h' hf => hf.elim)
  · obtain ⟨A, c, _, f, _⟩ := hj
    exact extI h' f
  · obtain ⟨A, c, _, f, ha, hr, hrow, hbl⟩ := hj
    refine ⟨r, hr, by rw [ok.state]; decide, ?_⟩
    rw [ok.pending]
    have fl : ∀ o, Fr (fun k => k = h1.size + 1) h' (h'.setIfInBounds (h1.size + 1) o) := fun o => set_fr rfl
    have ha' : ∀ o, (h'.setIfInBounds (h1.size + 1) o)[h.size]? = some (.cells [Value.slice A L.length c].toArray 79 (0, 0)) := fun o => (fl o).get ha (by omega)
    have hD' : ∀ o, (h'.setIfInBounds (h1.size + 1) o)[h1.size]? = some (.deferred (some [])) := fun o => (fl o).get (f.get hD (by omega)) (by omega)
    have hf' : ∀ o, Fr (fun k => k = h.size ∨ k = h1.size + 1) g1 (h'.setIfInBounds (h1.size + 1) o) := fun o => f.trans ((fl o).mono fun k hk => .inr hk)
    have hrow' : ∀ o, RowE (h'.setIfInBounds (h1.size + 1) o) A c L := fun o => hrow.keep (fl o) (fun k hk e => by have := hbl k hk; omega)
    refine ⟨_, _, _, ld (Cl.of_block (cs := [Value.slice A L.length c]) (vs := [Value.slice A L.length c]) (ha' _) fun j v hj => by rw [Nat.zero_add]; exact hj).head (by kernel_rfl), hD' _, ?_⟩
    have f9 : ∀ x : Hp, Fr (fun k => k = h1.size) x (x.setIfInBounds h1.size (.deferred none)) := fun x => set_fr rfl
    refine H _ A c ⟨?_, fun k hk => ?_⟩ ((hrow' _).keep (f9 _) (fun k hk e => by have := hbl k hk; omega)) (fun k hk => by have := hbl k hk; have := e2.size; omega)
    · exact Nat.le_trans (extI _ (hf' _)).size (f9 _).size
    · rw [(f9 _).keep k (Nat.lt_of_lt_of_le hk (extI _ (hf' _)).size) (by omega)]
      exact (extI _ (hf' _)).old k hk
theorem told_s {h : Hp} {g : FuncId} {lb : Array Value} {L : List En} (s : SeqAt h g lb L) (hL : L.length ≤ 1100000) {K : Value → Hp → Prop} (H : ∀ h' A c, Ext h h' → RowE h' A c L → K (.slice A L.length c) h') :
    CallsH Try.prog 41 #[.func (.func g) #[] lb] h K := told_s' s hL fun h' A c e r _ => H h' A c e r
/-! ### played -/
structure OpR where
  kind : Int
  second : Bool
  key : Nat
  n : Int
  v : Int
def OpR.enc (o : OpR) : List Value := [.int .i64 o.kind, .bool o.second, .int .u32 (o.key : Int), .int .i64 o.n, .int .i64 o.v]
theorem OpR.len (o : OpR) : o.enc.length = 5 := rfl
theorem OpR.flat (o : OpR) : o.enc.all flatV = true := rfl
def playA (w : Nat) (most : Int) (s : Ab) (o : OpR) : Ab := if o.kind = 1 then (cutA w s o.key o.n).2 else (putA w most s o.key o.n o.v).2
theorem undO : Try.prog.underlying 77 = some (.slice 83) := by kernel_rfl
theorem sizeO : (Try.prog.info? 83).map (·.size) = some 5 := by kernel_rfl
theorem rd_op {h : Hp} {A : Option Addr} {l c : Nat} {os : List OpR} (r : RSl h A l 5 (os.flatMap OpR.enc)) (hl : os.length = l) {i : Nat} {o : OpR} (hi : os[i]? = some o) :
    ∃ a : Addr, PV Try.prog (Instr.indexAt 77 (.slice A l c) (.int .i64 (i : Int))) (.pointer (some (a.add (i * 5)))) ∧ Cl h (a.add (i * 5)) o.enc := by
  have hlt := (List.getElem?_eq_some_iff.1 hi).1
  obtain ⟨a, rfl, hcl⟩ := r.some (by omega)
  refine ⟨a, ?_, r.elem OpR.len hi hl⟩
  have := ix (P := Try.prog) (T := 77) (E := 83) (a := a) (l := l) (c := c) (sz := 5) (k := .i64) (i := (i : Int)) (by omega) (by omega) undO sizeO
  rw [Int.toNat_natCast] at this
  exact this
theorem played_l3 {h0 : Hp} {A : Option Addr} {l c b w : Nat} {most : Int} {os : List OpR} (r : RSl h0 A l 5 (os.flatMap OpR.enc)) (hl : os.length = l) (hlen : l ≤ 16777216) (hk : ∀ o, o ∈ os → o.key < 4294967296) {K0 : Option Addr → Hp → Prop} (H : ∀ h' S, Ext h0 h' → TrG h' b S w most (os.foldl (playA w most) ⟨.nil, 0⟩) → (∀ k, S k → h0.size ≤ k) → K0 (some ⟨b, 0, none⟩) h') :
    ∀ (d n f : Nat) (h : Hp) (S : Nat → Prop), n + d = l → d < f → Ext h0 h → TrG h b S w most ((os.take n).foldl (playA w most) ⟨.nil, 0⟩) → (∀ k, S k → h0.size ≤ k) → quintetlaw12_played_l3 A l c (some ⟨b, 0, none⟩) K0 f (n : Int) h := by
  intro d
  induction d with
  | zero =>
    intro n f h S hn hf e q hS
    obtain ⟨f, rfl⟩ : ∃ f', f = f' + 1 := ⟨f - 1, by omega⟩
    unfold quintetlaw12_played_l3
    rw [List.take_of_length_le (by omega)] at q
    exact br_f (by simp; omega) (H h S e q hS)
  | succ d ih =>
    intro n f h S hn hf e q hS
    obtain ⟨f, rfl⟩ : ∃ f', f = f' + 1 := ⟨f - 1, by omega⟩
    unfold quintetlaw12_played_l3
    have hlt : n < os.length := by omega
    have ho : os[n]? = some os[n] := List.getElem?_eq_getElem hlt
    have hko := hk os[n] (List.getElem_mem hlt)
    obtain ⟨a, hp, hc⟩ := rd_op (c := c) (r.ext e) hl ho
    have htk : (os.take (n + 1)).foldl (playA w most) ⟨.nil, 0⟩ = playA w most ((os.take n).foldl (playA w most) ⟨.nil, 0⟩) os[n] := by
      have : os.take (n + 1) = os.take n ++ [os[n]] := by rw [List.take_add_one, ho]; rfl
      rw [this, List.foldl_append]
      rfl
    refine br_t (by simp; omega) ⟨_, hp, _, ld (hc.at_ 0 _ rfl) (by kernel_rfl), br_i (fun h1 => ?_) (fun h1 => ?_)⟩
    · refine ⟨_, hp, _, ld (hc.at_ 2 _ rfl) (by kernel_rfl), _, hp, _, ld (hc.at_ 3 _ rfl) (by kernel_rfl), ?_⟩
      refine tcut_a q hko _ fun h2 q2 f2 => ⟨_, rfl, ?_⟩
      rw [wrap_in (by omega) (by omega)]
      refine ih (n + 1) f h2 S (by omega) (by omega) ⟨Nat.le_trans e.size f2.size, fun k hk' => by rw [f2.keep k (by have := e.size; omega) (fun hs => by have := hS k hs; omega), e.old k hk']⟩ ?_ hS
      rw [htk, playA, if_pos (by simpa using h1)]
      exact q2
    · refine ⟨_, hp, _, ld (hc.at_ 2 _ rfl) (by kernel_rfl), _, hp, _, ld (hc.at_ 3 _ rfl) (by kernel_rfl), _, hp, _, ld (hc.at_ 4 _ rfl) (by kernel_rfl), ?_⟩
      refine tput_a q hko _ _ fun h2 S2 q2 s2 f2 => ⟨_, rfl, ?_⟩
      rw [wrap_in (by omega) (by omega)]
      refine ih (n + 1) f h2 S2 (by omega) (by omega) ⟨Nat.le_trans e.size f2.size, fun k hk' => by rw [f2.keep k (by have := e.size; omega) (fun hs => by have := hS k hs; omega), e.old k hk']⟩ ?_ (fun k hk' => ?_)
      · rw [htk, playA, if_neg (by simpa using h1)]
        exact q2
      · rcases s2 k hk' with h | h
        · exact hS k h
        · have := e.size; omega
theorem played_s {h : Hp} {A : Option Addr} {l c w : Nat} (hw : W3 w) {os : List OpR} (r : RSl h A l 5 (os.flatMap OpR.enc)) (hl : os.length = l) (hlen : l ≤ 16777216) (hk : ∀ o, o ∈ os → o.key < 4294967296) {K : Value → Hp → Prop} (H : ∀ h' b S, Ext h h' → TrG h' b S w 1048576 (os.foldl (playA w 1048576) ⟨.nil, 0⟩) → (∀ k, S k → h.size ≤ k) → K (.pointer (some ⟨b, 0, none⟩)) h') :
    CallsH Try.prog 40 #[.int .i64 (w : Int), .slice A l c] h K := by
  refine quintetlaw12_played_ok _ _ _ _ ?_
  unfold quintetlaw12_played
  have hw' : ((w : Int) = 8 ∨ (w : Int) = 16 ∨ (w : Int) = 32) ∧ (0 : Int) ≤ 1048576 ∧ (1048576 : Int) ≤ 1048576 := ⟨by rcases hw with h | h | h <;> omega, by decide, by decide⟩
  refine tnew_s w 1048576 (fun hn => absurd hw' hn) fun _ h1 b e1 hb q0 => ⟨_, _, rfl, br_f rfl ⟨_, eqNil eq32, br_f rfl ?_⟩⟩
  unfold quintetlaw12_played_j2
  refine ⟨l + 1, ?_⟩
  exact played_l3 r hl hlen hk (fun h' S e q hS => H h' b S e q hS) l 0 (l + 1) h1 (fun k => k = b) (by omega) (by omega) e1 ⟨_, q0, TGd.new hw (by decide)⟩ (fun k hk => by have : k = b := hk; omega)
end Go.Proofs.Ytofjbbfnkefoaaa.Fs
