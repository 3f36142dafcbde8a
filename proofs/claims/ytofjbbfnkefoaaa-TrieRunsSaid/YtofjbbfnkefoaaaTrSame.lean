/- same: an iterator tells just a list, left early, and again, and within itself. -/
import Derived.Test.YtofjbbfnkefoaaaTrLong3
import Derived.Test.YtofjbbfnkefoaaaSxNest
namespace Go.Proofs.Ytofjbbfnkefoaaa.Fs
open Go Go.RowKit Go.Proofs.Ytofjbbfnkefoaaa.Sx Go.Proofs.Ytofjbbfnkefoaaa.Tp
set_option linter.unusedVariables false
set_option linter.unusedSimpArgs false
set_option maxRecDepth 10000
/-- The rest of same: the second range. -/
def sameE (a5 a7 a11 a25 : Addr) (dl : List Nat) (K : Value → Hp → Prop) (h : Hp) : Prop :=
  HU Try.prog (Instr.storeAt 3 (.pointer (some a25)) (.int .i64 0)) h fun h73 => 
  ∃ v74 : Value, HV Try.prog (Instr.loadAt 73 (.pointer (some a5))) h73 v74 ∧ 
  RangeW Try.prog 92 v74 #[51] (sub (bodyOf Try.f33) [true, true, true, true, true, true, true, true, false, true, false, false]) (sub (bodyOf Try.f33) [true, true, true, true, true, true, true, true, false, true, false, true]) (mkTm [(3, some (.pointer (some a5))), (4, some (.pointer (some a7))), (6, some (.pointer (some a11))), (7, some (.pointer (some a25)))]) h73
  (fun (D75 : Nat) (h76 : Hp) =>
  ∃ x80 : Int, HV Try.prog (Instr.loadAt 3 (.pointer (some a25))) h76 (.int .i64 x80) ∧ 
  ∃ A81 : Option Addr, ∃ l81 : Nat, ∃ c81 : Nat, HV Try.prog (Instr.loadAt 79 (.pointer (some a7))) h76 (.slice A81 l81 c81) ∧ 
  HU Try.prog (Instr.storeAt 4 (.pointer (some a11)) (.bool (x80 == (l81 : Int)))) h76 fun h82 => 
  shut (D75 :: dl) h82 fun h83 =>
  ∃ b84 : Bool, HV Try.prog (Instr.loadAt 4 (.pointer (some a11))) h83 (.bool b84) ∧ K (.bool b84) h83)
  (fun (c79 : Code) (D77 : Nat) (h78 : Hp) =>
  jmpQ c79
  (shut (D77 :: dl) h78 fun h85 =>
  ∃ b86 : Bool, HV Try.prog (Instr.loadAt 4 (.pointer (some a11))) h85 (.bool b86) ∧ K (.bool b86) h85)
  [])
/-- same behind the turn of early. -/
def sameT (a5 a7 a9 a11 : Addr) (K : Value → Hp → Prop) (h : Hp) : Prop :=
  ∃ x103 : Int, HV Try.prog (Instr.loadAt 3 (.pointer (some a9))) h (.int .i64 x103) ∧ 
  ∃ A104 : Option Addr, ∃ l104 : Nat, ∃ c104 : Nat, HV Try.prog (Instr.loadAt 79 (.pointer (some a7))) h (.slice A104 l104 c104) ∧ 
  ∃ x105 : Int, PV Try.prog (binOp .rem 3 (.int .i64 x103) (.int .i64 (IntKind.i64.wrap ((l104 : Int) + 1)))) (.int .i64 x105) ∧
  HU Try.prog (Instr.storeAt 3 (.pointer (some a9)) (.int .i64 x105)) h fun h106 => 
  newC h106 (.cells #[(.int .i64 0)] 3 (0, 0)) fun a108 h107 => 
  HU Try.prog (Instr.storeAt 3 (.pointer (some a108)) (.int .i64 0)) h107 fun h109 => 
  ∃ v110 : Value, HV Try.prog (Instr.loadAt 73 (.pointer (some a5))) h109 v110 ∧ 
  RangeW Try.prog 92 v110 #[25] (sub (bodyOf Try.f33) [true, true, true, true, true, false, true, false, false]) (sub (bodyOf Try.f33) [true, true, true, true, true, false, true, false, true]) (mkTm [(4, some (.pointer (some a7))), (5, some (.pointer (some a9))), (6, some (.pointer (some a11))), (7, some (.pointer (some a108)))]) h109
  (fun (D111 : Nat) (h112 : Hp) =>
  ∃ x150 : Int, HV Try.prog (Instr.loadAt 3 (.pointer (some a9))) h112 (.int .i64 x150) ∧ 
  br (decide (x150 > 0))
  (∃ x151 : Int, HV Try.prog (Instr.loadAt 3 (.pointer (some a108))) h112 (.int .i64 x151) ∧ 
  ∃ x152 : Int, HV Try.prog (Instr.loadAt 3 (.pointer (some a9))) h112 (.int .i64 x152) ∧ 
  br (x151 != x152)
  (HU Try.prog (Instr.storeAt 4 (.pointer (some a11)) (.bool false)) h112 fun h153 => 
  shut (D111 :: []) h153 fun h154 =>
  ∃ b155 : Bool, HV Try.prog (Instr.loadAt 4 (.pointer (some a11))) h154 (.bool b155) ∧ K (.bool b155) h154)
  (HU Try.prog (Instr.storeAt 3 (.pointer (some a108)) (.int .i64 0)) h112 fun h156 => 
  ∃ v157 : Value, HV Try.prog (Instr.loadAt 73 (.pointer (some a5))) h156 v157 ∧ 
  RangeW Try.prog 92 v157 #[51] (sub (bodyOf Try.f33) [true, true, true, true, true, true, true, true, false, true, false, false]) (sub (bodyOf Try.f33) [true, true, true, true, true, true, true, true, false, true, false, true]) (mkTm [(3, some (.pointer (some a5))), (4, some (.pointer (some a7))), (6, some (.pointer (some a11))), (7, some (.pointer (some a108)))]) h156
  (fun (D158 : Nat) (h159 : Hp) =>
  ∃ x163 : Int, HV Try.prog (Instr.loadAt 3 (.pointer (some a108))) h159 (.int .i64 x163) ∧ 
  ∃ A164 : Option Addr, ∃ l164 : Nat, ∃ c164 : Nat, HV Try.prog (Instr.loadAt 79 (.pointer (some a7))) h159 (.slice A164 l164 c164) ∧ 
  HU Try.prog (Instr.storeAt 4 (.pointer (some a11)) (.bool (x163 == (l164 : Int)))) h159 fun h165 => 
  shut (D158 :: (D111 :: [])) h165 fun h166 =>
  ∃ b167 : Bool, HV Try.prog (Instr.loadAt 4 (.pointer (some a11))) h166 (.bool b167) ∧ K (.bool b167) h166)
  (fun (c162 : Code) (D160 : Nat) (h161 : Hp) =>
  jmpQ c162
  (shut (D160 :: (D111 :: [])) h161 fun h168 =>
  ∃ b169 : Bool, HV Try.prog (Instr.loadAt 4 (.pointer (some a11))) h168 (.bool b169) ∧ K (.bool b169) h168)
  [])))
  (HU Try.prog (Instr.storeAt 3 (.pointer (some a108)) (.int .i64 0)) h112 fun h170 => 
  ∃ v171 : Value, HV Try.prog (Instr.loadAt 73 (.pointer (some a5))) h170 v171 ∧ 
  RangeW Try.prog 92 v171 #[51] (sub (bodyOf Try.f33) [true, true, true, true, true, true, true, true, false, true, false, false]) (sub (bodyOf Try.f33) [true, true, true, true, true, true, true, true, false, true, false, true]) (mkTm [(3, some (.pointer (some a5))), (4, some (.pointer (some a7))), (6, some (.pointer (some a11))), (7, some (.pointer (some a108)))]) h170
  (fun (D172 : Nat) (h173 : Hp) =>
  ∃ x177 : Int, HV Try.prog (Instr.loadAt 3 (.pointer (some a108))) h173 (.int .i64 x177) ∧ 
  ∃ A178 : Option Addr, ∃ l178 : Nat, ∃ c178 : Nat, HV Try.prog (Instr.loadAt 79 (.pointer (some a7))) h173 (.slice A178 l178 c178) ∧ 
  HU Try.prog (Instr.storeAt 4 (.pointer (some a11)) (.bool (x177 == (l178 : Int)))) h173 fun h179 => 
  shut (D172 :: (D111 :: [])) h179 fun h180 =>
  ∃ b181 : Bool, HV Try.prog (Instr.loadAt 4 (.pointer (some a11))) h180 (.bool b181) ∧ K (.bool b181) h180)
  (fun (c176 : Code) (D174 : Nat) (h175 : Hp) =>
  jmpQ c176
  (shut (D174 :: (D111 :: [])) h175 fun h182 =>
  ∃ b183 : Bool, HV Try.prog (Instr.loadAt 4 (.pointer (some a11))) h182 (.bool b183) ∧ K (.bool b183) h182)
  [])))
  (fun (c115 : Code) (D113 : Nat) (h114 : Hp) =>
  jmpQ c115
  (shut (D113 :: []) h114 fun h184 =>
  ∃ b185 : Bool, HV Try.prog (Instr.loadAt 4 (.pointer (some a11))) h184 (.bool b185) ∧ K (.bool b185) h184)
  [(0, ∃ x116 : Int, HV Try.prog (Instr.loadAt 3 (.pointer (some a9))) h114 (.int .i64 x116) ∧ 
  br (decide (x116 > 0))
  (∃ x117 : Int, HV Try.prog (Instr.loadAt 3 (.pointer (some a108))) h114 (.int .i64 x117) ∧ 
  ∃ x118 : Int, HV Try.prog (Instr.loadAt 3 (.pointer (some a9))) h114 (.int .i64 x118) ∧ 
  br (x117 != x118)
  (HU Try.prog (Instr.storeAt 4 (.pointer (some a11)) (.bool false)) h114 fun h119 => 
  shut (D113 :: []) h119 fun h120 =>
  ∃ b121 : Bool, HV Try.prog (Instr.loadAt 4 (.pointer (some a11))) h120 (.bool b121) ∧ K (.bool b121) h120)
  (HU Try.prog (Instr.storeAt 3 (.pointer (some a108)) (.int .i64 0)) h114 fun h122 => 
  ∃ v123 : Value, HV Try.prog (Instr.loadAt 73 (.pointer (some a5))) h122 v123 ∧ 
  RangeW Try.prog 92 v123 #[51] (sub (bodyOf Try.f33) [true, true, true, true, true, true, true, true, false, true, false, false]) (sub (bodyOf Try.f33) [true, true, true, true, true, true, true, true, false, true, false, true]) (mkTm [(3, some (.pointer (some a5))), (4, some (.pointer (some a7))), (6, some (.pointer (some a11))), (7, some (.pointer (some a108)))]) h122
  (fun (D124 : Nat) (h125 : Hp) =>
  ∃ x129 : Int, HV Try.prog (Instr.loadAt 3 (.pointer (some a108))) h125 (.int .i64 x129) ∧ 
  ∃ A130 : Option Addr, ∃ l130 : Nat, ∃ c130 : Nat, HV Try.prog (Instr.loadAt 79 (.pointer (some a7))) h125 (.slice A130 l130 c130) ∧ 
  HU Try.prog (Instr.storeAt 4 (.pointer (some a11)) (.bool (x129 == (l130 : Int)))) h125 fun h131 => 
  shut (D124 :: (D113 :: [])) h131 fun h132 =>
  ∃ b133 : Bool, HV Try.prog (Instr.loadAt 4 (.pointer (some a11))) h132 (.bool b133) ∧ K (.bool b133) h132)
  (fun (c128 : Code) (D126 : Nat) (h127 : Hp) =>
  jmpQ c128
  (shut (D126 :: (D113 :: [])) h127 fun h134 =>
  ∃ b135 : Bool, HV Try.prog (Instr.loadAt 4 (.pointer (some a11))) h134 (.bool b135) ∧ K (.bool b135) h134)
  [])))
  (HU Try.prog (Instr.storeAt 3 (.pointer (some a108)) (.int .i64 0)) h114 fun h136 => 
  ∃ v137 : Value, HV Try.prog (Instr.loadAt 73 (.pointer (some a5))) h136 v137 ∧ 
  RangeW Try.prog 92 v137 #[51] (sub (bodyOf Try.f33) [true, true, true, true, true, true, true, true, false, true, false, false]) (sub (bodyOf Try.f33) [true, true, true, true, true, true, true, true, false, true, false, true]) (mkTm [(3, some (.pointer (some a5))), (4, some (.pointer (some a7))), (6, some (.pointer (some a11))), (7, some (.pointer (some a108)))]) h136
  (fun (D138 : Nat) (h139 : Hp) =>
  ∃ x143 : Int, HV Try.prog (Instr.loadAt 3 (.pointer (some a108))) h139 (.int .i64 x143) ∧ 
  ∃ A144 : Option Addr, ∃ l144 : Nat, ∃ c144 : Nat, HV Try.prog (Instr.loadAt 79 (.pointer (some a7))) h139 (.slice A144 l144 c144) ∧ 
  HU Try.prog (Instr.storeAt 4 (.pointer (some a11)) (.bool (x143 == (l144 : Int)))) h139 fun h145 => 
  shut (D138 :: (D113 :: [])) h145 fun h146 =>
  ∃ b147 : Bool, HV Try.prog (Instr.loadAt 4 (.pointer (some a11))) h146 (.bool b147) ∧ K (.bool b147) h146)
  (fun (c142 : Code) (D140 : Nat) (h141 : Hp) =>
  jmpQ c142
  (shut (D140 :: (D113 :: [])) h141 fun h148 =>
  ∃ b149 : Bool, HV Try.prog (Instr.loadAt 4 (.pointer (some a11))) h148 (.bool b149) ∧ K (.bool b149) h148)
  [])))])
theorem intSz : (Try.prog.info? 3).map (·.size) = some 1 := by kernel_rfl
theorem chk {h : Hp} {ak : Nat} {a7 ax : Addr} {A : Option Addr} {l c : Nat} {L : List En} {k : Nat} {e : En} (hb : h[ak]? = some (.cells [Value.int .i64 (k : Int)].toArray 3 (0, 0))) (c7 : Cl h a7 [.slice A l c]) (cx : Cl h ax e.enc) (r : RSl h A l 3 (L.flatMap En.enc)) (hl : L.length = l) (he : L[k]? = some e) (hbd : l ≤ 1100000) {F0 F1 : Prop} {G : Hp → Prop}
    (H : ∀ h', h'[ak]? = some (.cells [Value.int .i64 ((k + 1 : Nat) : Int)].toArray 3 (0, 0)) → Fr (fun m => m = ak) h h' → h'.size = h.size → G h') :
    ∃ x198 : Int, HV Try.prog (Instr.loadAt 3 (.pointer (some ⟨ak, 0, none⟩))) h (.int .i64 x198) ∧ 
  ∃ A199 : Option Addr, ∃ l199 : Nat, ∃ c199 : Nat, HV Try.prog (Instr.loadAt 79 (.pointer (some a7))) h (.slice A199 l199 c199) ∧ 
  br (decide (x198 ≥ (l199 : Int))) F0
  (∃ x202 : Int, ∃ x203 : Int, ∃ x204 : Int, HV Try.prog (Instr.loadAt 66 (.pointer (some ax))) h (.agg #[(.int .u32 x202), (.int .i64 x203), (.int .i64 x204)]) ∧ 
  ∃ A205 : Option Addr, ∃ l205 : Nat, ∃ c205 : Nat, HV Try.prog (Instr.loadAt 79 (.pointer (some a7))) h (.slice A205 l205 c205) ∧ 
  ∃ x206 : Int, HV Try.prog (Instr.loadAt 3 (.pointer (some ⟨ak, 0, none⟩))) h (.int .i64 x206) ∧ 
  ∃ a207 : Addr, PV Try.prog (Instr.indexAt 79 (.slice A205 l205 c205) (.int .i64 x206)) (.pointer (some a207)) ∧
  ∃ x208 : Int, ∃ x209 : Int, ∃ x210 : Int, HV Try.prog (Instr.loadAt 66 (.pointer (some a207))) h (.agg #[(.int .u32 x208), (.int .i64 x209), (.int .i64 x210)]) ∧ 
  ∃ b211 : Bool, PV Try.prog (binOp .neq 66 (.agg #[(.int .u32 x202), (.int .i64 x203), (.int .i64 x204)]) (.agg #[(.int .u32 x208), (.int .i64 x209), (.int .i64 x210)])) (.bool b211) ∧
  br b211 F1
  (∃ x214 : Int, HV Try.prog (Instr.loadAt 3 (.pointer (some ⟨ak, 0, none⟩))) h (.int .i64 x214) ∧ 
  HU Try.prog (Instr.storeAt 3 (.pointer (some ⟨ak, 0, none⟩)) (.int .i64 (IntKind.i64.wrap (x214 + 1)))) h fun h215 => G h215)) := by
  have hlt := (List.getElem?_eq_some_iff.1 he).1
  have ck : Cl h ⟨ak, 0, none⟩ [Value.int .i64 (k : Int)] := Cl.of_block hb fun j v hj => by rw [Nat.zero_add]; exact hj
  obtain ⟨a, hp, hcl⟩ := rd_e (c := c) r hl he
  refine ⟨_, ld ck.head (by kernel_rfl), _, _, _, ld c7.head (by kernel_rfl), br_f (by simp; omega) ?_⟩
  refine ⟨_, _, _, ldS cx (by kernel_rfl), _, _, _, ld c7.head (by kernel_rfl), _, ld ck.head (by kernel_rfl), _, hp, _, _, _, ldS hcl (by kernel_rfl), _, neE _ _ _ _ _ _, br_f (by simp) ?_⟩
  refine ⟨_, ld ck.head (by kernel_rfl), ?_⟩
  rw [wrap_in (by omega) (by omega)]
  refine HU_box (us := [Value.int .i64 ((k : Int) + 1)]) (cs := [Value.int .i64 (k : Int)]) hb rfl rfl intSz rfl fun h' c' b' f' z' => ?_
  refine H h' ?_ f' z'
  have : ((k + 1 : Nat) : Int) = (k : Int) + 1 := by omega
  rw [this]
  simpa using b'
/-- The heap in a range of same: its counter, its record. -/
def KJ (g1 : Hp) (ak lr : Nat) (r : Loop) (done : List En) (Y : Nat → Prop) (h : Hp) : Prop :=
  Y = (fun k => k = ak ∨ k = lr) ∧ Fr (fun k => k = ak ∨ k = lr) g1 h ∧ h[ak]? = some (.cells [Value.int .i64 (done.length : Int)].toArray 3 (0, 0)) ∧ h[lr]? = some (.loop r)
theorem KJ.ext {g1 : Hp} {ak lr : Nat} {r : Loop} {done : List En} {Y : Nat → Prop} {h h' : Hp} (q : KJ g1 ak lr r done Y h) (e : Ext h h') : KJ g1 ak lr r done Y h' :=
  ⟨q.1, q.2.1.trans (e.fr _), (e.fr (fun _ => False)).get q.2.2.1 (fun h => h), (e.fr (fun _ => False)).get q.2.2.2 (fun h => h)⟩
theorem KJ.lt {g1 : Hp} {ak lr : Nat} {r : Loop} {done : List En} {Y : Nat → Prop} {h : Hp} (q : KJ g1 ak lr r done Y h) : ∀ k, Y k → k < h.size := by
  obtain ⟨rfl, _, h1, h2⟩ := q
  rintro k (rfl | rfl)
  · exact lt_of_get h1
  · exact lt_of_get h2
theorem get_mid {L done rest : List En} {e : En} (h : L = done ++ e :: rest) : L[done.length]? = some e ∧ done.length < L.length := by
  subst h
  simp
theorem loop_back2 {r : Loop} (h1 : r.state = .ready) (h2 : r.pending = none) : ({ ({ r with state := .busy } : Loop) with state := if (none : Option Code).isNone = true then .ready else .done, pending := none } : Loop) = r := loop_back r h1 h2
/-- The inner range's round. -/
theorem round3 {h0 g1 : Hp} {a7 : Addr} {a11 ak lr D : Nat} {r : Loop} {A : Option Addr} {c : Nat} {L : List En} (rs : RSl h0 A L.length 3 (L.flatMap En.enc)) (hL : L.length ≤ 1100000) (c7 : Cl g1 a7 [.slice A L.length c]) (e0 : Ext h0 g1) (hne : ak ≠ lr) (h7 : a7.block < ak ∧ a7.block < lr) (hk0 : h0.size ≤ ak ∧ h0.size ≤ lr) (ok : RecOK 92 #[69] (sub (bodyOf Try.f33) [true, true, true, true, true, true, true, true, false, true, false, true, false, true, true, true, true, false, true, false, false]) (sub (bodyOf Try.f33) [true, true, true, true, true, true, true, true, false, true, false, true, false, true, true, true, true, false, true, false, true]) (mkTm [(4, some (.pointer (some a7))), (6, some (.pointer (some ⟨a11, 0, none⟩))), (10, some (.pointer (some ⟨ak, 0, none⟩)))]) D r) :
    ItY (KJ g1 ak lr r) (fun _ => False) L (yieldV lr) := by
  refine ⟨fun done Y h h' q e => q.ext e, fun done Y h q => q.lt, ?_⟩
  rintro done e rest Y h K hLe ⟨rfl, f, h1, h2⟩ H1 _
  obtain ⟨hgm, hgl⟩ := get_mid hLe
  refine quintetlaw12_same_r3_ok a7 ⟨a11, 0, none⟩ ⟨ak, 0, none⟩ _ _ _ h2 ok ?_
  unfold quintetlaw12_same_r3
  refine newV (us := En.enc e) rfl rfl size39 rfl fun g2 e2 c2 b2 z2 => ?_
  have fN := fun (x y : Hp) (e : Ext x y) => e.fr (fun _ => False)
  refine ⟨r, (fN _ _ e2).get h2 (fun h => h), ok.state, ?_⟩
  have f3 : Fr (fun k => k = lr) g2 (g2.setIfInBounds lr (.loop { r with state := .busy })) := set_fr rfl
  have hr3 : (g2.setIfInBounds lr (.loop { r with state := .busy }))[lr]? = some (.loop { r with state := .busy }) := set_get (by have := lt_of_get h2; have := e2.size; omega)
  revert f3 hr3
  generalize g2.setIfInBounds lr (.loop { r with state := .busy }) = g3
  intro f3 hr3
  have F3 : Fr (fun k => k = ak ∨ k = lr) g1 g3 := (f.trans (e2.fr _)).trans (f3.mono fun k hk => .inr hk)
  have E3 : Ext h0 g3 := ⟨Nat.le_trans e0.size F3.size, fun k hk => by rw [F3.keep k (Nat.lt_of_lt_of_le hk e0.size) (by omega), e0.old k hk]⟩
  have hb3 := f3.get ((fN _ _ e2).get h1 (fun h => h)) hne
  have c73 := F3.cl c7 (by omega)
  have cx3 := f3.cl c2 (by intro e; simp at e; have := lt_of_get h2; omega)
  refine chk hb3 c73 cx3 (rs.ext E3) rfl hgm hL fun g4 b4 f4 z4 => ?_
  have hr4 := f4.get hr3 (fun e => hne e.symm)
  refine ⟨_, hr4, ?_⟩
  have f5 : ∀ o, Fr (fun k => k = lr) g4 (g4.setIfInBounds lr o) := fun o => set_fr rfl
  have Fy : ∀ o, Fr (fun k => k = ak ∨ k = lr) h (g4.setIfInBounds lr o) := fun o => (((e2.fr _).trans (f3.mono fun k hk => .inr hk)).trans (f4.mono fun k hk => .inl hk)).trans ((f5 o).mono fun k hk => .inr hk)
  refine H1 _ (fun k => k = ak ∨ k = lr) ⟨rfl, f.trans (Fy _), ?_, ?_⟩ (Fy _) (fun k hk => .inl hk)
  · rw [List.length_append, List.length_singleton]
    exact (f5 _).get b4 hne
  · rw [set_get (lt_of_get hr4), loop_back r ok.state ok.pending]
/-- The second range's round: with a range of its own. -/
theorem round2 {h0 g1 : Hp} {g : FuncId} {lb : Array Value} {L : List En} (s : SeqAt h0 g lb L) {a5 a7 : Addr} {a11 ak lr D : Nat} {r : Loop} {A : Option Addr} {c : Nat} (rs : RSl h0 A L.length 3 (L.flatMap En.enc)) (hL : L.length ≤ 1100000) (c5 : Cl g1 a5 [.func (.func g) #[] lb]) (c7 : Cl g1 a7 [.slice A L.length c]) (e0 : Ext h0 g1) (hne : ak ≠ lr) (h5 : a5.block < ak ∧ a5.block < lr) (h7 : a7.block < ak ∧ a7.block < lr) (hk0 : h0.size ≤ ak ∧ h0.size ≤ lr) (ok : RecOK 92 #[51] (sub (bodyOf Try.f33) [true, true, true, true, true, true, true, true, false, true, false, false]) (sub (bodyOf Try.f33) [true, true, true, true, true, true, true, true, false, true, false, true]) (mkTm [(3, some (.pointer (some a5))), (4, some (.pointer (some a7))), (6, some (.pointer (some ⟨a11, 0, none⟩))), (7, some (.pointer (some ⟨ak, 0, none⟩)))]) D r) :
    ItY (KJ g1 ak lr r) (fun _ => False) L (yieldV lr) := by
  refine ⟨fun done Y h h' q e => q.ext e, fun done Y h q => q.lt, ?_⟩
  rintro done e rest Y h K hLe ⟨rfl, f, h1, h2⟩ H1 _
  obtain ⟨hgm, hgl⟩ := get_mid hLe
  refine quintetlaw12_same_r2_ok a5 a7 ⟨a11, 0, none⟩ ⟨ak, 0, none⟩ _ _ _ h2 ok ?_
  unfold quintetlaw12_same_r2
  refine newV (us := En.enc e) rfl rfl size39 rfl fun g2 e2 c2 b2 z2 => ?_
  have fN := fun (x y : Hp) (e : Ext x y) => e.fr (fun _ => False)
  refine ⟨r, (fN _ _ e2).get h2 (fun h => h), ok.state, ?_⟩
  have f3 : Fr (fun k => k = lr) g2 (g2.setIfInBounds lr (.loop { r with state := .busy })) := set_fr rfl
  have hr3 : (g2.setIfInBounds lr (.loop { r with state := .busy }))[lr]? = some (.loop { r with state := .busy }) := set_get (by have := lt_of_get h2; have := e2.size; omega)
  revert f3 hr3
  generalize g2.setIfInBounds lr (.loop { r with state := .busy }) = g3
  intro f3 hr3
  have F3 : Fr (fun k => k = ak ∨ k = lr) g1 g3 := (f.trans (e2.fr _)).trans (f3.mono fun k hk => .inr hk)
  have extOf : ∀ h', Fr (fun k => k = ak ∨ k = lr) g1 h' → Ext h0 h' := fun h' F => ⟨Nat.le_trans e0.size F.size, fun k hk => by rw [F.keep k (Nat.lt_of_lt_of_le hk e0.size) (by omega), e0.old k hk]⟩
  have E3 := extOf _ F3
  have hb3 := f3.get ((fN _ _ e2).get h1 (fun h => h)) hne
  have c73 := F3.cl c7 (by omega)
  have cx3 := f3.cl c2 (by intro e; simp at e; have := lt_of_get h2; omega)
  refine chk hb3 c73 cx3 (rs.ext E3) rfl hgm hL fun g4 b4 f4 z4 => ?_
  have hr4 := f4.get hr3 (fun e => hne e.symm)
  have F4 : Fr (fun k => k = ak ∨ k = lr) g1 g4 := F3.trans (f4.mono fun k hk => .inl hk)
  have E4 := extOf _ F4
  have ck4 : Cl g4 ⟨ak, 0, none⟩ [Value.int .i64 ((done.length + 1 : Nat) : Int)] := Cl.of_block b4 fun j v hj => by rw [Nat.zero_add]; exact hj
  have Fh4 : Fr (fun k => k = ak ∨ k = lr) h g4 := ((e2.fr _).trans (f3.mono fun k hk => .inr hk)).trans (f4.mono fun k hk => .inl hk)
  have fin : ∀ g5, Ext g4 g5 → rend lr none g5 fun h' => K (.bool true) h' := by
    intro g5 e5
    have hr5 := (fN _ _ e5).get hr4 (fun h => h)
    refine ⟨_, hr5, ?_⟩
    have f6 : ∀ o, Fr (fun k => k = lr) g5 (g5.setIfInBounds lr o) := fun o => set_fr rfl
    have Fy : ∀ o, Fr (fun k => k = ak ∨ k = lr) h (g5.setIfInBounds lr o) := fun o => (Fh4.trans (e5.fr _)).trans ((f6 o).mono fun k hk => .inr hk)
    refine H1 _ (fun k => k = ak ∨ k = lr) ⟨rfl, f.trans (Fy _), ?_, ?_⟩ (Fy _) (fun k hk => .inl hk)
    · rw [List.length_append, List.length_singleton]
      exact (f6 _).get ((fN _ _ e5).get b4 (fun h => h)) hne
    · rw [set_get (lt_of_get hr5), loop_back r ok.state ok.pending]
  refine ⟨_, ld ck4.head (by kernel_rfl), br_i (fun _ => fin g4 (Ext.refl _)) (fun _ => ?_)⟩
  refine newV (us := [.int .i64 0]) (cs := [.int .i64 0]) rfl rfl intSz rfl fun g5 e5 c5' b5 z5 => ?_
  have F5 := F4.trans (e5.fr _)
  have E5 := extOf _ F5
  refine ⟨_, ld (F5.cl c5 (by omega)).head (by kernel_rfl), ?_⟩
  refine ⟨g, lb, _, rfl, s.enters, (fN _ _ e5).get hr4 (fun h => h), fun r3 ok3 => ?_⟩
  have e6 : Ext g5 (g5.push (.loop r3)) := Ext.push _ _
  have hL6 : (g5.push (.loop r3))[g5.size]? = some (.loop r3) := by rw [Array.getElem?_push, if_pos rfl]
  revert e6 hL6
  generalize g5.push (.loop r3) = g6
  intro e6 hL6
  have s5 := e5.size
  have s4 := F4.size
  have F6 := F5.trans (e6.fr _)
  have E6 := extOf _ F6
  have b6 := (fN _ _ e6).get b5 (fun h => h)
  have hg1 : ak < g1.size ∨ g1.size ≤ ak := by omega
  have hlrlt := lt_of_get hr4
  have haklt := lt_of_get b4
  refine s.run (round3 (h0 := h0) (a7 := a7) (a11 := a11) (ak := g4.size) (lr := g5.size) rs hL (F6.cl c7 (by omega)) E6 (by omega) (by omega) (by have := E4.size; omega) ok3) (fun done' Y' h' q => ?_) (Y := fun k => k = g4.size ∨ k = g5.size) ⟨rfl, Fr.refl _ _, b6, hL6⟩ (fun h' Y' q => ?_) (fun h' hf => hf.elim)
  · have E4s := E4.size
    have E6s := E6.size
    exact ⟨Nat.le_trans E6.size q.2.1.size, fun k hk => by rw [q.2.1.keep k (by omega) (by omega), E6.old k hk]⟩
  · obtain ⟨_, f7, h71, h72⟩ := q
    refine ⟨_, h72, by rw [ok3.state]; decide, ?_⟩
    rw [ok3.pending]
    have f8 : ∀ o, Fr (fun k => k = g5.size) h' (h'.setIfInBounds g5.size o) := fun o => set_fr rfl
    have e48 : ∀ o, Ext g4 (h'.setIfInBounds g5.size o) := fun o => by
      have s6 := e6.size
      have s7 := f7.size
      have s8 := (f8 o).size
      exact ⟨by omega, fun k hk => by rw [(f8 o).keep k (by omega) (by omega), f7.keep k (by omega) (by omega), e6.old k (by omega), e5.old k hk]⟩
    have cj : ∀ o, Cl (h'.setIfInBounds g5.size o) ⟨g4.size, 0, none⟩ [Value.int .i64 (L.length : Int)] := fun o => Cl.of_block (cs := [Value.int .i64 (L.length : Int)]) ((f8 o).get h71 (by omega)) fun j v hj => by rw [Nat.zero_add]; exact hj
    have c78 : ∀ o, Cl (h'.setIfInBounds g5.size o) a7 [.slice A L.length c] := fun o => (F4.cl c7 (by omega)).ext (e48 o)
    exact ⟨_, ld (cj _).head (by kernel_rfl), _, _, _, ld (c78 _).head (by kernel_rfl), br_f (by simp) (fin _ (e48 _))⟩
theorem sameE_s {h0 h : Hp} {g : FuncId} {lb : Array Value} {L : List En} (s : SeqAt h0 g lb L) {a5 a7 : Addr} {a11 ak : Nat} {A : Option Addr} {c : Nat} (rs : RSl h0 A L.length 3 (L.flatMap En.enc)) (hL : L.length ≤ 1100000) (c5 : Cl h a5 [.func (.func g) #[] lb]) (c7 : Cl h a7 [.slice A L.length c]) (c11 : h[a11]? = some (.cells [Value.bool false].toArray 4 (0, 0))) (e0 : Ext h0 h) (h5 : a5.block < ak) (h7 : a7.block < ak) (h11 : a11 < ak ∧ h0.size ≤ a11) {kv : Int} (hk : h[ak]? = some (.cells [Value.int .i64 kv].toArray 3 (0, 0))) {D1 : Nat} (hD : h[D1]? = some (.deferred (some []))) (hD0 : h0.size ≤ D1)
    {K : Value → Hp → Prop} (H : ∀ h', Ext h0 h' → K (.bool true) h') : sameE a5 a7 ⟨a11, 0, none⟩ ⟨ak, 0, none⟩ [D1] K h := by
  unfold sameE
  have fN := fun (x y : Hp) (e : Ext x y) => e.fr (fun _ => False)
  have hne11 : D1 ≠ a11 := fun e => by rw [e, c11] at hD; cases hD
  have hnek : D1 ≠ ak := fun e => by rw [e, hk] at hD; cases hD
  refine HU_box (us := [Value.int .i64 0]) (cs := [Value.int .i64 kv]) hk rfl rfl intSz rfl fun h1 c1 b1 f1 z1 => ?_
  have hkl := lt_of_get hk
  have hDl := lt_of_get hD
  refine ⟨_, ld (f1.cl c5 (by omega)).head (by kernel_rfl), ?_⟩
  refine ⟨g, lb, rfl, s.enters, fun r ok => ?_⟩
  show CallsH Try.prog g (#[yieldV (h1.size + 1)] ++ lb) _ _
  have e2 : Ext h1 ((h1.push (.deferred (some []))).push (.loop r)) := (Ext.push h1 _).trans (Ext.push _ _)
  have hD2 : ((h1.push (.deferred (some []))).push (.loop r))[h1.size]? = some (.deferred (some [])) := by
    rw [Array.getElem?_push, if_neg (by simp), Array.getElem?_push, if_pos rfl]
  have hR : ((h1.push (.deferred (some []))).push (.loop r))[h1.size + 1]? = some (.loop r) := by rw [Array.getElem?_push, if_pos (by simp)]
  revert e2 hD2 hR
  generalize (h1.push (.deferred (some []))).push (.loop r) = g1
  intro e2 hD2 hR
  have E1 : Ext h0 h1 := ⟨by have := e0.size; omega, fun k hk => by rw [f1.keep k (by have := e0.size; omega) (by omega), e0.old k hk]⟩
  have eg1 := E1.trans e2
  have s1 := e2.size
  have s0 := e0.size
  have c5' := (f1.cl c5 (by omega)).ext e2
  have c7' := (f1.cl c7 (by omega)).ext e2
  refine s.run (round2 s (a11 := a11) (ak := ak) (lr := h1.size + 1) rs hL c5' c7' eg1 (by omega) (by omega) (by omega) (by omega) ok) (fun done Y h' q => ?_) (Y := fun k => k = ak ∨ k = h1.size + 1) ⟨rfl, Fr.refl _ _, (fN _ _ e2).get b1 (fun h => h), hR⟩ (fun h' Y q => ?_) (fun h' hf => hf.elim)
  · exact ⟨Nat.le_trans eg1.size q.2.1.size, fun k hk => by rw [q.2.1.keep k (by omega) (by omega), eg1.old k hk]⟩
  · obtain ⟨_, f7, h71, h72⟩ := q
    refine ⟨_, h72, by rw [ok.state]; decide, ?_⟩
    rw [ok.pending]
    have f8 : ∀ o, Fr (fun k => k = h1.size + 1) h' (h'.setIfInBounds (h1.size + 1) o) := fun o => set_fr rfl
    have F8 : ∀ o, Fr (fun k => k = ak ∨ k = h1.size + 1) g1 (h'.setIfInBounds (h1.size + 1) o) := fun o => f7.trans ((f8 o).mono fun k hk => .inr hk)
    have ck8 : ∀ o, Cl (h'.setIfInBounds (h1.size + 1) o) ⟨ak, 0, none⟩ [Value.int .i64 (L.length : Int)] := fun o => Cl.of_block (cs := [Value.int .i64 (L.length : Int)]) ((f8 o).get h71 (by omega)) fun j v hj => by rw [Nat.zero_add]; exact hj
    refine ⟨_, ld (ck8 _).head (by kernel_rfl), _, _, _, ld ((F8 _).cl c7' (by omega)).head (by kernel_rfl), ?_⟩
    have b11 := (F8 (.loop { r with state := .exhausted })).get ((fN _ _ e2).get (f1.get c11 (by omega)) (fun h => h)) (by omega)
    have hb : (((L.length : Nat) : Int) == ((L.length : Nat) : Int)) = true := by simp
    rw [hb]
    have hDd := (F8 (.loop { r with state := .exhausted })).get hD2 (by omega)
    have hDd1 := (F8 (.loop { r with state := .exhausted })).get ((fN _ _ e2).get (f1.get hD (by omega)) (fun h => h)) (by omega)
    have eA : Ext h0 (h'.setIfInBounds (h1.size + 1) (.loop { r with state := .exhausted })) := ⟨Nat.le_trans eg1.size (F8 _).size, fun k hk => by rw [(F8 _).keep k (by omega) (by omega), eg1.old k hk]⟩
    have hr9 : r.state = .ready := ok.state
    have hX : ({ state := LoopState.exhausted, pending := none, fn := r.fn, tmps := r.tmps, params := r.params, assign := r.assign, body := r.body, defers := r.defers } : Loop) = { r with state := .exhausted } := by
      have := ok.pending
      cases r; simp_all
    revert b11 hDd hDd1 eA
    first
      | rw [hX]
      | skip
    generalize h'.setIfInBounds (h1.size + 1) (.loop { r with state := .exhausted }) = h8
    intro b11 hDd hDd1 eA
    refine HU_box (us := [Value.bool true]) (cs := [Value.bool false]) b11 rfl rfl size4 rfl fun h9 c9 b9 f9 z9 => ?_
    have hDd9 := f9.get hDd (by omega)
    have hDd19 := f9.get hDd1 hne11
    refine ⟨hDd9, ?_, ?_⟩
    · rw [Array.getElem?_setIfInBounds_ne (by omega)]
      exact hDd19
    have f10 : Fr (fun k => k = h1.size ∨ k = D1) h9 ((h9.setIfInBounds h1.size (.deferred none)).setIfInBounds D1 (.deferred none)) := (set_fr (S := fun k => k = h1.size ∨ k = D1) (.inl rfl)).trans (set_fr (S := fun k => k = h1.size ∨ k = D1) (.inr rfl))
    refine ⟨_, ld (f10.cl c9 (by rintro (e | e) <;> simp at e <;> omega)).head (by kernel_rfl), H _ ⟨?_, fun k hk => ?_⟩⟩
    · have := eA.size; have := f9.size; have := f10.size; omega
    · have := eA.size; have := f9.size
      rw [f10.keep k (by omega) (by omega), f9.keep k (by omega) (by omega), eA.old k hk]
end Go.Proofs.Ytofjbbfnkefoaaa.Fs
