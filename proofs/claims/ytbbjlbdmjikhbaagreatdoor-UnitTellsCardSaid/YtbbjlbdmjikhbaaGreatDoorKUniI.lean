/- From the machine to the program. -/
import Derived.Test.YtbbjlbdmjikhbaaGreatDoorRows
import Derived.Test.YtbbjlbdmjikhbaaGreatDoorKUniH
import Derived.Deep.Strs
import Derived.Lib.Bytealg
set_option linter.unusedSimpArgs false
set_option linter.unusedVariables false
namespace Go.Proofs.YtbbjlbdmjikhbaaGreatDoor.AA
open Go Go.RowKit Go.Proofs.YtbbjlbdmjikhbaaGreatDoor
set_option maxRecDepth 100000
theorem ckAll : Tr.allT (fun f fn => ckFunc Tryz.prog f fn) id tbl = true := by kernel_rfl
theorem hfsT (f : Nat) (fn : AFunc) (h : fsT f = some fn) : ckFunc Tryz.prog f fn = true := Tr.allT_get (k := id) ckAll h
theorem mixed : Tryz.prog.follows .mixedOrders = true := by kernel_rfl
set_option maxHeartbeats 1000000 in
theorem count_walk (s : ByteArray) (c : UInt8) (w : World) : Calls Tryz.prog 100 #[.string s, .string ⟨#[c]⟩] w fun e w' => e = .returned (.int .i64 (Lib.countByte s.data.toList c)) ∧ w' = w := by
  go_enter Tryz.func100, Tryz.ntmps100
  go_wp2
  rw [run_callFunc_extern Tryz.func119 (by kernel_rfl) (by kernel_rfl) (by kernel_rfl) (e := Extern.BytealgCount.count) (by kernel_rfl), Lib.run_countString]
  simp only [Result.andThen]
  rw [Oper.upon_value]
  go_wp2
  go_ret
  exact ⟨rfl, rfl⟩
theorem count_map_inj {α β : Type} [BEq α] [LawfulBEq α] [BEq β] [LawfulBEq β] {f : α → β} (hf : ∀ a b, f a = f b → a = b) (l : List α) (x : α) : (l.map f).count (f x) = l.count x := by
  induction l with
  | nil => rfl
  | cons a l ih =>
    rw [List.map_cons, List.count_cons, List.count_cons, ih]
    by_cases h : a = x
    · subst h; simp
    · have h1 : (a == x) = false := by simpa using h
      have h2 : (f a == f x) = false := by simp; exact fun e => h (hf _ _ e)
      rw [h1, h2]
theorem cnt_ok {args : List AV} {H H' : AHeap} {v : AV} (he : cntO args H = some (v, H')) {Z : Nat → Prop} {ρ : Rho} {w : World} {vs : Array Value} (h : HS Z ρ H w) (hr : RL ρ args vs.toList) :
    Calls Tryz.prog 100 vs w fun e w' => ∃ ρ' u, e = .returned u ∧ Ext ρ ρ' ∧ HS Z ρ' H' w' ∧ Kp Z w w' ∧ R ρ' v u := by
  unfold cntO at he
  split at he
  · rename_i s c
    split at he
    · rename_i hc
      cases he
      simp only [RL, R] at hr
      obtain ⟨u, us, hvs, ⟨b, rfl, rfl⟩, u2, us2, rfl, ⟨b2, rfl, hb2⟩, rfl⟩ := hr
      obtain rfl : vs = #[.string b, .string b2] := by cases vs; simp_all
      obtain ⟨⟨x⟩, rfl⟩ : ∃ x : UInt8, b2 = ⟨#[x]⟩ := by
        obtain ⟨⟨l⟩⟩ := b2
        match l, hb2 with
        | [x], _ => exact ⟨x, rfl⟩
      have hx : UInt8.toNat ⟨x⟩ = c := by simpa using hb2
      refine (count_walk b ⟨x⟩ w).mono ?_
      rintro e w' ⟨rfl, rfl⟩
      refine ⟨ρ, _, rfl, Ext.refl _, h, Kp.refl _ _, ?_⟩
      simp only [R, Lib.countByte]
      congr 1
      rw [← hx, count_map_inj (fun a b h => UInt8.toNat_inj.1 h)]
    · cases he
  · cases he
theorem oraN_ok : CallOK Tryz.prog oraN := by
  intro f args H v H' he
  unfold oraN at he
  rw [Bool.cond_eq_ite] at he
  split at he
  · rename_i hf
    have : f = 100 := by simpa using hf
    subst this
    exact ⟨⟨_, Tryz.func100, by kernel_rfl, by kernel_rfl⟩, fun Z ρ w vs h hr => cnt_ok he h hr⟩
  · cases he
theorem Adds.map {α β : Type} {w : World} {p : List Value → Prop} {E : Rep α} {F : Rep β} (h : Adds w p E) (k : ∀ H a l, E H a l → ∃ b, F H b l) : Adds w p F := fun cs hc Z ρ H hs ro => by
  obtain ⟨ρ', H', a, l, q1, q2, q3, q4, q5, q6, q7⟩ := h cs hc Z ρ H hs ro
  obtain ⟨b, hb⟩ := k _ _ _ q7
  exact ⟨ρ', H', b, l, q1, q2, q3, q4, q5, q6, hb⟩
theorem wf64 {n : Int} (h : (Lit.int .i64 n).wf = true) : I64 n := by
  simp [Lit.wf] at h
  have m0 : IntKind.i64.min = -9223372036854775808 := by decide
  have m1 : IntKind.i64.max = 9223372036854775807 := by decide
  unfold I64
  omega
section
variable {T : Type} {enc : TypeId × Value → T} {f : Nat} {W : World}
theorem N_call {args : List AV} {vs : Array Value} {H : AHeap} {ρ : Rho} (h : CW MN f args H fun u H' => u = .bool true ∧ Sm H H') (hs : HS (fun k => k < W.heap.size) ρ H W) (hr : RL ρ args vs.toList) : Calls Tryz.prog f vs W fun e W' => e = .returned (.bool true) ∧ Kp (fun k => k < W.heap.size) W W' :=
  law_true_of mixed oraN_ok hfsT (fun t n f o h => by cases h) (h.mono fun u H' ⟨e, _⟩ => e) hs hr
theorem adds_in : Adds W (TP enc Tryz.prog W 3 1) InE := (adds_int (k := .i64) Tryz.underlying3).map fun H n l ⟨e, h⟩ => ⟨n, e, wf64 h⟩
theorem adds_ins : Adds W (TP enc Tryz.prog W 29 1) (SlE InE 1) := adds_slice Tryz.underlying29 (by kernel_rfl) (by omega) MonoE.enc adds_in
theorem RL.one {ρ : Rho} {l : List AV} {v : Value} (h : RL ρ l [v]) : ∃ a, l = [a] ∧ R ρ a v := by
  cases l with
  | nil => simp [RL] at h
  | cons a l =>
    simp only [RL] at h
    obtain ⟨u, us, e, h1, h2⟩ := h
    cases e
    cases l with
    | nil => exact ⟨a, rfl, h1⟩
    | cons b l => simp [RL] at h2
end
section
variable {α : Type} {E F : Rep α} {s : Nat} {H : AHeap} {xs : List α} {l : List AV}
theorem SlE.imp (h : SlE E s H xs l) (k : ∀ a l, E H a l → F H a l) : SlE F s H xs l := by
  obtain ⟨a, s0, cl, e, h1, h2, h3⟩ := h
  exact ⟨a, s0, cl, e, h1, h2, fun h0 => by
    obtain ⟨x, o, cs, e1, e2, e3, e4⟩ := h3 h0
    exact ⟨x, o, cs, e1, e2, e3, fun j hj => k _ _ (e4 j hj)⟩⟩
theorem SlE.allOf {p : α → Prop} (h : SlE E s H xs l) (k : ∀ a l, E H a l → p a) : ∀ a, a ∈ xs → p a := fun a ha => by
  obtain ⟨b, s0, cl, e, h1, h2, h3⟩ := h
  obtain ⟨j, hj, rfl⟩ := List.getElem_of_mem ha
  obtain ⟨x, o, cs, e1, e2, e3, e4⟩ := h3 (by omega)
  exact k _ _ (e4 j hj)
end
def ClW : Rep UClass := fun H c l => ClE H c l ∧ c.binds.length * 16 ≤ 140737488351232
def MeW : Rep UMethod := fun H m l => MeE H m l ∧ m.lits.length * 16 ≤ 140737488351232 ∧ m.code.length * 1 ≤ 140737488351232
def ObW : Rep UObj := fun H o l => ObE H o l ∧ o.fields.length * 16 ≤ 140737488351232
theorem MonoE.clw : MonoE ClW := fun H H' c l ⟨a, b⟩ hs => ⟨MonoE.cl _ _ _ _ a hs, b⟩
theorem MonoE.mew : MonoE MeW := fun H H' c l ⟨a, b⟩ hs => ⟨MonoE.me _ _ _ _ a hs, b⟩
theorem MonoE.obw : MonoE ObW := fun H H' c l ⟨a, b⟩ hs => ⟨MonoE.ob _ _ _ _ a hs, b⟩
section
variable {T : Type} {enc : TypeId × Value → T} {W : World}
theorem addw_int : Adds W (TW enc Tryz.prog W 3 1) (IntE .i64) := (adds_int Tryz.underlying3).of_tp
theorem addw_str : Adds W (TW enc Tryz.prog W 9 1) StE := (adds_str Tryz.underlying9).of_tp.map fun H n l ⟨e, h, h'⟩ => ⟨n, e, h, h'⟩
theorem addw_by : Adds W (TW enc Tryz.prog W 5 1) ByE := (adds_int Tryz.underlying5).of_tp.map fun H n l ⟨e, h⟩ => by
  simp [Lit.wf] at h
  have m0 : IntKind.u8.min = 0 := by decide
  have m1 : IntKind.u8.max = 255 := by decide
  refine ⟨n.toNat, ?_, by show n.toNat < 256; omega⟩
  rw [e]
  show [AV.int .u8 n] = [AV.int .u8 ((n.toNat : Nat) : Int)]
  rw [Int.toNat_of_nonneg (by omega)]
theorem pair2 {H : AHeap} {x : Int × Int × Unit} {l : List AV} (h : PairE (IntE .i64) 1 (PairE (IntE .i64) 1 NilE) H x l) : PrE H (x.1, x.2.1) l := by
  obtain ⟨l1, l2, rfl, -, ⟨rfl, h1⟩, l3, l4, rfl, -, ⟨rfl, h2⟩, rfl⟩ := h
  exact ⟨rfl, wf64 h1, wf64 h2⟩
theorem addw_val : Adds W (TW enc Tryz.prog W 55 2) PrE := (adds_structW (l := [(3, 1), (3, 1)]) Tryz.underlying55 (by kernel_rfl) rfl (adds_consW MonoE.int addw_int (adds_consW MonoE.int addw_int adds_nilW))).map fun H x l h => ⟨_, pair2 h⟩
theorem addw_bind : Adds W (TW enc Tryz.prog W 48 2) PrE := (adds_structW (l := [(3, 1), (3, 1)]) Tryz.underlying48 (by kernel_rfl) rfl (adds_consW MonoE.int addw_int (adds_consW MonoE.int addw_int adds_nilW))).map fun H x l h => ⟨_, pair2 h⟩
theorem addw_vals : Adds W (TW enc Tryz.prog W 50 1) (SlW PrE 2 16) := adds_sliceW Tryz.underlying50 (by kernel_rfl) (by kernel_rfl) (by omega) MonoE.enc addw_val
theorem addw_binds : Adds W (TW enc Tryz.prog W 44 1) (SlW PrE 2 16) := adds_sliceW Tryz.underlying44 (by kernel_rfl) (by kernel_rfl) (by omega) MonoE.enc addw_bind
theorem addw_code : Adds W (TW enc Tryz.prog W 51 1) (SlW ByE 1 1) := adds_sliceW Tryz.underlying51 (by kernel_rfl) (by kernel_rfl) (by omega) MonoE.enc addw_by
theorem addw_names : Adds W (TW enc Tryz.prog W 22 1) (SlW StE 1 16) := adds_sliceW Tryz.underlying22 (by kernel_rfl) (by kernel_rfl) (by omega) MonoE.enc addw_str
theorem addw_class : Adds W (TW enc Tryz.prog W 46 4) ClW := (adds_structW (l := [(9, 1), (3, 1), (3, 1), (44, 1)]) Tryz.underlying46 (by kernel_rfl) rfl (adds_consW MonoE.enc addw_str (adds_consW MonoE.int addw_int (adds_consW MonoE.int addw_int (adds_consW MonoE.enc.slw addw_binds adds_nilW))))).map fun H x l h => by
  obtain ⟨-, -, rfl, -, ⟨rfl, h1⟩, -, -, rfl, -, ⟨rfl, h2⟩, -, -, rfl, -, ⟨rfl, h3⟩, l7, -, rfl, h0, h4, rfl⟩ := h
  match l7, h0 with
  | [v], _ => exact ⟨⟨x.1, x.2.1, x.2.2.1, x.2.2.2.1⟩, ⟨v, rfl, h1, wf64 h2, wf64 h3, h4.1⟩, h4.2⟩
theorem addw_method : Adds W (TW enc Tryz.prog W 53 4) MeW := (adds_structW (l := [(3, 1), (3, 1), (50, 1), (51, 1)]) Tryz.underlying53 (by kernel_rfl) rfl (adds_consW MonoE.int addw_int (adds_consW MonoE.int addw_int (adds_consW MonoE.enc.slw addw_vals (adds_consW MonoE.enc.slw addw_code adds_nilW))))).map fun H x l h => by
  obtain ⟨-, -, rfl, -, ⟨rfl, h1⟩, -, -, rfl, -, ⟨rfl, h2⟩, l5, -, rfl, h0, h3, l7, -, rfl, h0', h4, rfl⟩ := h
  match l5, h0, l7, h0' with
  | [v], _, [u], _ => exact ⟨⟨x.1, x.2.1, x.2.2.1, x.2.2.2.1⟩, ⟨v, u, rfl, wf64 h1, wf64 h2, h3.1, h4.1⟩, h3.2, h4.2⟩
theorem addw_obj : Adds W (TW enc Tryz.prog W 57 2) ObW := (adds_structW (l := [(3, 1), (50, 1)]) Tryz.underlying57 (by kernel_rfl) rfl (adds_consW MonoE.int addw_int (adds_consW MonoE.enc.slw addw_vals adds_nilW))).map fun H x l h => by
  obtain ⟨-, -, rfl, -, ⟨rfl, h1⟩, l7, -, rfl, h0, h4, rfl⟩ := h
  match l7, h0 with
  | [v], _ => exact ⟨⟨x.1, x.2.1⟩, ⟨v, rfl, wf64 h1, h4.1⟩, h4.2⟩
def UnW : Rep UUnit := fun H u l => UnE H u l ∧ BndU u
theorem addw_unit : Adds W (TW enc Tryz.prog W 27 5) UnW := (adds_structW (l := [(22, 1), (23, 1), (24, 1), (25, 1), (3, 1)]) Tryz.underlying27 (by kernel_rfl) rfl (adds_consW MonoE.enc.slw addw_names
    (adds_consW MonoE.clw.slw (adds_sliceW (b := 56) Tryz.underlying23 (by kernel_rfl) (by kernel_rfl) (by omega) MonoE.clw addw_class)
    (adds_consW MonoE.mew.slw (adds_sliceW (b := 64) Tryz.underlying24 (by kernel_rfl) (by kernel_rfl) (by omega) MonoE.mew addw_method)
    (adds_consW MonoE.obw.slw (adds_sliceW (b := 32) Tryz.underlying25 (by kernel_rfl) (by kernel_rfl) (by omega) MonoE.obw addw_obj)
    (adds_consW MonoE.int addw_int adds_nilW)))))).map fun H x l h => by
  obtain ⟨l1, -, rfl, g1, h1, l3, -, rfl, g3, h3, l5, -, rfl, g5, h5, l7, -, rfl, g7, h7, -, -, rfl, -, ⟨rfl, h9⟩, rfl⟩ := h
  match l1, g1, l3, g3, l5, g5, l7, g7 with
  | [v1], _, [v2], _, [v3], _, [v4], _ =>
    refine ⟨⟨x.1, x.2.1, x.2.2.1, x.2.2.2.1, x.2.2.2.2.1⟩, ⟨v1, v2, v3, v4, rfl, wf64 h9, h1.1, SlE.imp h3.1 fun a l h => h.1, SlE.imp h5.1 fun a l h => h.1, SlE.imp h7.1 fun a l h => h.1⟩, ?_⟩
    exact ⟨Nat.le_trans h1.2 (by decide), Nat.le_trans h3.2 (by decide), Nat.le_trans h5.2 (by decide), Nat.le_trans h7.2 (by decide), SlE.allOf h3.1 (fun a l h => Nat.le_trans h.2 (by decide)), SlE.allOf h5.1 (fun a l h => Nat.le_trans h.2.1 (by decide)), SlE.allOf h5.1 (fun a l h => Nat.le_trans h.2.2 (by decide)), SlE.allOf h7.1 (fun a l h => Nat.le_trans h.2 (by decide))⟩
theorem len_take {α : Type} (l : List α) (k b : Nat) (h : l.length * b ≤ 140737488355328) : (l.take k).length * b ≤ 140737488355328 := Nat.le_trans (Nat.mul_le_mul_right b (by simp; omega)) h
theorem BndU.few {u : UUnit} (h : BndU u) : BndU (fewU u) :=
  ⟨len_take _ _ _ h.n, len_take _ _ _ h.c, len_take _ _ _ h.m, len_take _ _ _ h.o, fun c hc => h.cb c (List.mem_of_mem_take hc), fun m hm => h.ml m (List.mem_of_mem_take hm), fun m hm => h.mc m (List.mem_of_mem_take hm), fun o ho => h.of o (List.mem_of_mem_take ho)⟩
theorem tells_call (W : World) {v y : Value} {a b c d e : Int} (hv : TP enc Tryz.prog W 29 1 [v]) (_ : (Lit.int .i64 a).wf = true) (wb : (Lit.int .i64 b).wf = true) (wc : (Lit.int .i64 c).wf = true) (hx : TW enc Tryz.prog W 27 5 y.cells.toList) (wd : (Lit.int .i64 d).wf = true) (_ : (Lit.int .i64 e).wf = true) : Calls Tryz.prog 4 #[v, .int .i64 a, .int .i64 b, .int .i64 c, y, .int .i64 d, .int .i64 e] W fun e W' => e = .returned (.bool true) ∧ Kp (fun k => k < W.heap.size) W W' := by
  obtain ⟨z, rfl⟩ : ∃ z, y = .agg z := by
    have h := hx.1
    cases y with
    | agg z => exact ⟨z, rfl⟩
    | _ => simp [Value.cells] at h
  obtain ⟨ρ1, H1, ys, l1, q1, q2, q3, q4, q5, -, q7⟩ := adds_ins (enc := enc) _ hv _ _ _ (HS.empty W) RO.empty
  obtain ⟨x, rfl, hx1⟩ := q5.one
  obtain ⟨ρ2, H2, u, cx, p1, p2, p3, p4, p5, p6, p7, p8⟩ := addw_unit (enc := enc) _ hx _ _ _ q1 q2
  refine N_call (c_UnitTells (MonoE.enc.sl _ _ _ _ q7 p4) p7 p8.few (what := a) (at' := b) (n := c) (cls := d) (sel := e) (wf64 wb) (wf64 wc) (wf64 wd)) p1 ?_
  simp only [RL, R]
  exact ⟨_, _, rfl, hx1.mono' p3, _, _, rfl, rfl, _, _, rfl, rfl, _, _, rfl, rfl, _, _, rfl, ⟨z, rfl, p5, p6⟩, _, _, rfl, rfl, _, _, rfl, rfl, rfl⟩
end
end Go.Proofs.YtbbjlbdmjikhbaaGreatDoor.AA
