/- Functions follow the machine. -/
import Derived.Test.YtbbjlbdmjikhbaaDoorKMachC
import Derived.Orders
import Derived.LoopN
set_option linter.unusedSimpArgs false
set_option linter.unusedVariables false
namespace Go.Proofs.YtbbjlbdmjikhbaaDoor.AA
open Go Go.RowKit
section
variable {Z : Nat → Prop} {ρ : Rho} {H H' : AHeap} {w w' : World} {P : Program}
/-! The walk as a whole: regions, branches, loops, calls. -/
def ckCall (c : Call) (ao : AOp) : Bool := match c.callee with
  | .value f => (match ao with
    | .call g xs => (match f with | .func h => h == g | _ => false) && ckOs c.args.toList xs
    | .callV f' xs => ckO f f' && ckOs c.args.toList xs
    | _ => false)
  | .invoke r n => (match ao with
    | .invoke r' n' xs => ckO r r' && n == n' && ckOs c.args.toList xs
    | _ => false)
  | _ => false
def ckOp2 (P : Program) (op : Op) (ao : AOp) : Bool := ckOp P op ao || (match op with | .call c => ckCall c ao | _ => false)
def ckGuard (ops : Array Oper) : Option (Nat × Bool) → Option (Nat × Bool) → Bool
  | none, none => true
  | some (j, b), some (t, b') => b == b' && (ops[j]?).bind (·.dst) == some t
  | _, _ => false
def ckOper (P : Program) (nt : Nat) (ops : Array Oper) (o : Oper) (ao : AOper) : Bool :=
  o.dst == ao.dst && o.dst.all (fun d => decide (d < nt)) && ckOp2 P o.op ao.op && ckGuard ops o.guard ao.guard
def ckOpers (P : Program) (nt : Nat) (ops : Array Oper) : List Oper → List AOper → Bool
  | [], [] => true
  | o :: os, ao :: aos => ckOper P nt ops o ao && ckOpers P nt ops os aos
  | _, _ => false
def ckRes (P : Program) : List ResultVar → List (Nat ⊕ (Nat × Nat × Bool)) → Bool
  | [], [] => true
  | .tmp t :: l, .inl t' :: l' => t == t' && ckRes P l l'
  | .cell a t :: l, .inr (a', n, agg) :: l' => a == a' && ckSz P t n && ckAg P t agg && ckRes P l l'
  | _, _ => false
/-- How methods are found. -/
def ckMeth (P : Program) (ms : Meth) : Prop := ∀ t n f o, ms t n = some (f, o) → ∀ (v : AV) (V : Value) (Z : Nat → Prop) (ρ : Rho) (H : AHeap) (w : World), HS Z ρ H w → R ρ v V →
  (o = none → (method (P.types.size + Made.depth) t V n).run P w = .ok (f, V) w) ∧
  (∀ off b i p, o = some off → v = .ptr (some (b, i)) → loadA H b (i + off) 1 = some [p] → ∃ p', (method (P.types.size + Made.depth) t V n).run P w = .ok (f, p') w ∧ R ρ p p')
def CallOK (P : Program) (call : Rec) : Prop := ∀ f args H v H', call f args H = some (v, H') → (∃ g, P.funcs[f]? = some g ∧ (g.name == "runtime.NumGoroutine") = false ∧ g.body.isNone = false) ∧
  ∀ Z ρ w (vs : Array Value), HS Z ρ H w → RL ρ args vs.toList → Calls P f vs w (fun e w' => ∃ ρ' u, e = .returned u ∧ Ext ρ ρ' ∧ HS Z ρ' H' w' ∧ Kp Z w w' ∧ R ρ' v u)
theorem run_callFunc {f : Nat} {g : Func} (hg : P.funcs[f]? = some g) (hn : (g.name == "runtime.NumGoroutine") = false) (hb : g.body.isNone = false) (vs : Array Value) (w : World) : (callFunc f vs).run P w = .ok (.enter f vs) w := by
  simp only [callFunc, Sem.run_bind, run_program, Result.andThen_ok, hg, hn, hb, Bool.false_eq_true, if_false, Sem.run_pure]
/-- What an operation comes to, calls too. -/
theorem oper_sim {call : Rec} {ms : Meth} (hcall : CallOK P call) (hms : ckMeth P ms) {o : Oper} {ao : AOp} (hc : ckOp2 P o.op ao = true) (h : HS Z ρ H w) {fr : AFr} {a : Act} (hf : RF ρ fr a) {v : AV} (he : exA call ms ao fr H = some (v, H')) {K : Act → World → Prop} {Q : Exit → Act → World → Prop}
    (hK : ∀ ρ' u w', Ext ρ ρ' → HS Z ρ' H' w' → Kp Z w w' → R ρ' v u → K (a.put o.dst u) w') : o.wp P a w K Q := by
  simp only [ckOp2, Bool.or_eq_true] at hc
  rcases hc with hc | hc
  · obtain ⟨ρ', w', nx, u, q1, q2, q3, q4, q5, q6⟩ := op_sim hc h hf he
    unfold Oper.wp
    rw [q1]
    rcases q2 with rfl | ⟨rfl, rfl⟩
    · exact hK ρ' u w' q3 q4 q5 q6
    · exact hK ρ' undef w' q3 q4 q5 q6
  · have key : ∀ (f : Nat) (args : List AV) (vs : Array Value), call f args H = some (v, H') → RL ρ args vs.toList → (execOp a.eval o).run P w = (callFunc f vs).run P w → o.wp P a w K Q := by
      intro f args vs h1 h2 h3
      obtain ⟨⟨g, g1, g2, g3⟩, hC⟩ := hcall f args H v H' h1
      unfold Oper.wp
      rw [h3, run_callFunc g1 g2 g3]
      refine (hC Z ρ w vs h h2).mono ?_
      rintro e w' ⟨ρ', u, rfl, q1, q2, q3, q4⟩
      exact hK ρ' u w' q1 q2 q3 q4
    split at hc
    · rename_i c ho
      unfold ckCall at hc
      split at hc
      · rename_i fo hcal
        split at hc
        · rename_i g xs
          simp only [Bool.and_eq_true] at hc
          obtain ⟨hc1, hc2⟩ := hc
          split at hc1
          · rename_i f
            have : f = g := by simpa using hc1
            subst this
            simp only [exA] at he
            split at he
            · rename_i l hl
              have hargs := ckOs_R hc2 hf hl
              refine key f l (c.args.map a.eval) he (by simpa using hargs) ?_
              unfold execOp
              simp only [ho, resolve, hcal, Deferred.ofValue, Act.eval, invoke]
              simp
            · cases he
          · cases hc1
        · rename_i f' xs
          simp only [Bool.and_eq_true] at hc
          simp only [exA] at he
          split at he
          · rename_i f x y l hfv hl
            have hargs := ckOs_R hc.2 hf hl
            have hF := ckO_R hc.1 hf hfv
            simp only [R] at hF
            obtain ⟨x', y', hF, hx, hy⟩ := hF
            refine key f (x ++ l ++ y) (x' ++ c.args.map a.eval ++ y') he ?_ ?_
            · simp only [Array.toList_append, Array.toList_map]
              exact (hx.append hargs).append hy
            · unfold execOp
              simp only [ho, resolve, hcal, hF, Deferred.ofValue, invoke]
              simp
          · cases he
        · cases hc
      · rename_i r n hcal
        split at hc
        · rename_i r' n' xs
          simp only [Bool.and_eq_true, beq_iff_eq] at hc
          obtain ⟨⟨hr, rfl⟩, hx⟩ := hc
          simp only [exA] at he
          split at he
          · rename_i t v0 l hrv hl
            have hargs := ckOs_R hx hf hl
            have hR := ckO_R hr hf hrv
            simp only [R] at hR
            obtain ⟨V, hV, hVR⟩ := hR
            have hexec : (execOp a.eval o).run P w = ((method (P.types.size + Made.depth) t V n).run P w).andThen fun p w' => (callFunc p.1 (#[p.2] ++ c.args.map a.eval)).run P w' := by
              unfold execOp
              have h0 : (#[Value.iface t V] ++ Array.map a.eval c.args)[0]? = some (Value.iface t V) := by
                rw [Array.getElem?_append_left (by simp)]; rfl
              have h1 : (Array.map a.eval c.args).extract 0 c.args.size = Array.map a.eval c.args := by
                have : c.args.size = (Array.map a.eval c.args).size := by simp
                rw [this, Array.extract_size]
              simp only [ho, resolve, hcal, invoke]
              simp [hV, callMethod]
              rw [h0]
              simp only [Sem.run_bind, run_program, Result.andThen_ok, h1]
            split at he
            · rename_i f hm
              obtain ⟨m1, -⟩ := hms t n f none hm v0 V Z ρ H w h hVR
              refine key f (v0 :: l) (#[V] ++ c.args.map a.eval) he ?_ ?_
              · simp only [Array.toList_append, Array.toList_map, RL]
                exact ⟨V, _, rfl, hVR, hargs⟩
              · rw [hexec, m1 rfl]; rfl
            · rename_i f off hm
              split at he
              · rename_i b i
                split at he
                · rename_i p hp
                  obtain ⟨-, m2⟩ := hms t n f (some off) hm (.ptr (some (b, i))) V Z ρ H w h hVR
                  obtain ⟨p', q1, q2⟩ := m2 off b i p rfl rfl hp
                  refine key f (p :: l) (#[p'] ++ c.args.map a.eval) he ?_ ?_
                  · simp only [Array.toList_append, Array.toList_map, RL]
                    exact ⟨p', _, rfl, q2, hargs⟩
                  · rw [hexec, q1]; rfl
                · cases he
              · cases he
            · cases he
          · cases he
        · cases hc
      · cases hc
    · cases hc
end
end Go.Proofs.YtbbjlbdmjikhbaaDoor.AA
namespace Go.Proofs.YtbbjlbdmjikhbaaDoor.AA
open Go Go.RowKit
section
variable {Z : Nat → Prop} {ρ : Rho} {H H' : AHeap} {w w' : World} {P : Program}
theorem put_size (a : Act) (d : Option Tmp) (u : Value) : (a.put d u).tmps.size = a.tmps.size := by
  cases d <;> simp [Act.put]
theorem put_defers (a : Act) (d : Option Tmp) (u : Value) : (a.put d u).defers = a.defers := by
  cases d <;> simp [Act.put]
theorem want_sim {ops : Array Oper} {o : Oper} {ao : AOper} (hg : ckGuard ops o.guard ao.guard = true) {fr : AFr} {a : Act} (hf : RF ρ fr a) {b : Bool} (hw : wantA fr ao.guard = some b) : Region.wanted o (yielded ops a.tmps) = b := by
  unfold ckGuard at hg
  split at hg
  · rename_i h1 h2
    rw [h2] at hw
    simp only [wantA, Option.some.injEq] at hw
    subst hw
    simp [Region.wanted, h1]
  · rename_i j c t c' h1 h2
    simp only [Bool.and_eq_true, beq_iff_eq] at hg
    obtain ⟨rfl, hd⟩ := hg
    rw [h2] at hw
    simp only [wantA] at hw
    simp only [Region.wanted, h1, yielded, hd, Option.bind_some]
    split at hw
    · rename_i d ht
      obtain ⟨u, hu, hr⟩ := hf _ _ ht
      simp only [R] at hr; subst hr
      simp only [Option.some.injEq] at hw
      rw [hu, ← hw]
      cases d <;> cases c <;> rfl
    · rename_i v hne ht
      obtain ⟨u, hu, hr⟩ := hf _ _ ht
      simp only [Option.some.injEq] at hw
      subst hw
      rw [hu]
      have : ∀ d, u ≠ .bool d := fun d e => by
        subst e
        cases v with
        | bool d' => exact hne d' rfl
        | ptr p => cases p <;> simp [R] at hr
        | slice p _ _ _ => cases p <;> simp [R] at hr
        | map p => cases p <;> simp [R] at hr
        | _ => simp [R] at hr
      cases u <;> first | rfl | exact absurd rfl (this _)
    · cases hw
  · cases hg
/-- What holds of a frame. -/
structure Fr (nt : Nat) (ρ : Rho) (fr : AFr) (a : Act) : Prop where
  rf : RF ρ fr a
  size : nt ≤ a.tmps.size
  defers : a.defers = []
theorem Fr.put {nt : Nat} {fr : AFr} {a : Act} (h : Fr nt ρ fr a) {d : Option Nat} {v : AV} {u : Value} (hr : R ρ v u) (hd : ∀ t, d = some t → t < nt) : Fr nt ρ (putA fr d v) (a.put d u) :=
  ⟨h.rf.put hr (fun t ht => Nat.lt_of_lt_of_le (hd t ht) h.size), by rw [put_size]; exact h.size, by rw [put_defers]; exact h.defers⟩
theorem Fr.mono {nt : Nat} {fr : AFr} {a : Act} {ρ' : Rho} (h : Fr nt ρ fr a) (hx : Ext ρ ρ') : Fr nt ρ' fr a := ⟨h.rf.mono hx, h.size, h.defers⟩
theorem undef_R : R ρ (.tuple []) undef := by simp only [R]; exact ⟨#[], rfl, rfl⟩
theorem ops_sim {nt : Nat} {call : Rec} {ms : Meth} (hcall : CallOK P call) (hms : ckMeth P ms) {ops : Array Oper} {Q : Exit → Act → World → Prop} : ∀ (k : Nat) (l : List AOper) {ρ : Rho} {H : AHeap} {w : World} {fr fr' : AFr} {H' : AHeap} {a : Act}, ckOpers P nt ops (ops.toList.drop k) l = true → HS Z ρ H w → Fr nt ρ fr a → opsA call ms l fr H = some (fr', H') →
    (∀ ρ' a' w', Ext ρ ρ' → HS Z ρ' H' w' → Kp Z w w' → Fr nt ρ' fr' a' → Q .normal a' w') → wpOps P ops Q (List.range' k (ops.size - k)) a w
  | k, [], ρ, H, w, fr, fr', H', a, hc, h, hf, he, hQ => by
    have hk : ops.size ≤ k := by
      cases hd : ops.toList.drop k with
      | nil => simpa using hd
      | cons _ _ => rw [hd] at hc; simp [ckOpers] at hc
    rw [show ops.size - k = 0 by omega]
    simp only [opsA, Option.some.injEq, Prod.mk.injEq] at he
    obtain ⟨rfl, rfl⟩ := he
    exact hQ ρ a w (Ext.refl _) h (Kp.refl _ _) hf
  | k, ao :: l, ρ, H, w, fr, fr', H', a, hc, h, hf, he, hQ => by
    cases hd : ops.toList.drop k with
    | nil => rw [hd] at hc; simp [ckOpers] at hc
    | cons o os =>
      rw [hd] at hc
      simp only [ckOpers, Bool.and_eq_true] at hc
      obtain ⟨hco, hcr⟩ := hc
      have hk : k < ops.size := by
        rcases Nat.lt_or_ge k ops.size with h | h
        · exact h
        · rw [List.drop_of_length_le (by simpa using h)] at hd; cases hd
      have hok : ops[k]? = some o := by
        have : ops.toList[k]? = some o := by
          have := congrArg (fun l => l[0]?) hd
          simpa [List.getElem?_drop] using this
        simpa using this
      have hos : os = ops.toList.drop (k + 1) := by
        have := congrArg List.tail hd
        simpa [List.tail_drop] using this.symm
      rw [hos] at hcr
      simp only [ckOper, Bool.and_eq_true, beq_iff_eq] at hco
      obtain ⟨⟨⟨hdst, hnt⟩, hop⟩, hg⟩ := hco
      have hnt' : ∀ t, o.dst = some t → t < nt := fun t ht => by rw [ht] at hnt; simpa using hnt
      rw [show ops.size - k = (ops.size - (k + 1)) + 1 by omega, List.range'_succ]
      simp only [wpOps, hok]
      simp only [opsA] at he
      split at he
      · rename_i hw
        rw [want_sim hg hf.rf hw]
        simp only [if_true]
        split at he
        · rename_i v H1 hex
          refine .inl (oper_sim hcall hms hop h hf.rf hex fun ρ' u w' q1 q2 q3 q4 => ?_)
          rw [← hdst] at he
          exact ops_sim hcall hms (k + 1) l hcr q2 ((hf.mono q1).put q4 hnt') he fun ρ2 a2 w2 p1 p2 p3 p4 => hQ ρ2 a2 w2 (q1.trans p1) p2 (q3.trans p3) p4
        · cases he
      · rename_i hw
        rw [want_sim hg hf.rf hw]
        simp only [Bool.false_eq_true, if_false]
        rw [← hdst] at he
        exact ops_sim hcall hms (k + 1) l hcr h (hf.put undef_R hnt') he hQ
      · cases he
end
end Go.Proofs.YtbbjlbdmjikhbaaDoor.AA
namespace Go.Proofs.YtbbjlbdmjikhbaaDoor.AA
open Go Go.RowKit
/-! What an operation looks at, and what it leaves alone. -/
def AOpnd.tm : AOpnd → List Nat
  | .t i => [i]
  | .c _ => []
def tmL (xs : List AOpnd) : List Nat := xs.flatMap AOpnd.tm
def tmO : Option AOpnd → List Nat
  | none => []
  | some x => x.tm
def tmP (ps : List (Nat × Nat × AOpnd)) : List Nat := ps.flatMap fun p => p.2.2.tm
def AOp.tm : AOp → List Nat
  | .mv x => x.tm
  | .pick c a b => c.tm ++ (a.tm ++ b.tm)
  | .alloc _ => []
  | .box x => x.tm
  | .build _ ps => tmP ps
  | .bslice _ _ _ ps => tmP ps
  | .load _ _ x => x.tm
  | .store _ x v => x.tm ++ v.tm
  | .chk x => x.tm
  | .bin _ _ x y => x.tm ++ y.tm
  | .un _ x => x.tm
  | .conv _ x => x.tm
  | .mkIface _ x => x.tm
  | .mkFunc _ a b => tmL a ++ tmL b
  | .mkMap => []
  | .mkSlice _ _ _ l c => l.tm ++ c.tm
  | .slSlice _ x lo hi mx => x.tm ++ (tmO lo ++ (tmO hi ++ tmO mx))
  | .slStr x lo hi => x.tm ++ (tmO lo ++ tmO hi)
  | .slArr _ _ x lo hi mx => x.tm ++ (tmO lo ++ (tmO hi ++ tmO mx))
  | .faddr _ x => x.tm
  | .field _ _ _ x => x.tm
  | .iaddrA _ _ x i => x.tm ++ i.tm
  | .iaddrS _ x i => x.tm ++ i.tm
  | .idxA _ _ _ x i => x.tm ++ i.tm
  | .idxS x i => x.tm ++ i.tm
  | .lookup _ _ _ m k => m.tm ++ k.tm
  | .mapUpd _ m k v => m.tm ++ (k.tm ++ v.tm)
  | .mapEnt _ _ m k => m.tm ++ k.tm
  | .entSt m st v => m.tm ++ (st.tm ++ v.tm)
  | .delete _ m k => m.tm ++ k.tm
  | .extract _ x => x.tm
  | .lenS _ x => x.tm
  | .lenA _ => []
  | .lenM x => x.tm
  | .capS x => x.tm
  | .mnmx _ xs => tmL xs
  | .append _ _ _ x y => x.tm ++ y.tm
  | .copy _ _ x y => x.tm ++ y.tm
  | .call _ xs => tmL xs
  | .callV f xs => f.tm ++ tmL xs
  | .invoke x _ xs => x.tm ++ tmL xs
  | .bad _ => []
def AOper.tm (o : AOper) : List Nat := (match o.guard with | some (t, _) => [t] | none => []) ++ o.op.tm
section
variable {fr fr' : AFr}
theorem ev_congr : ∀ {x : AOpnd}, (∀ t ∈ x.tm, fr.get t = fr'.get t) → fr.ev x = fr'.ev x
  | .t i, h => by simpa [AFr.ev, AOpnd.tm] using h i (by simp [AOpnd.tm])
  | .c _, _ => rfl
theorem evs_congr : ∀ {xs : List AOpnd}, (∀ t ∈ tmL xs, fr.get t = fr'.get t) → evs fr xs = evs fr' xs
  | [], _ => rfl
  | x :: xs, h => by
    have h1 := ev_congr (x := x) fun t ht => h t (by simp [tmL]; exact .inl ht)
    have h2 := evs_congr (xs := xs) fun t ht => h t (by simp [tmL] at ht ⊢; exact .inr ht)
    simp only [evs, h1, h2]
theorem evo_congr : ∀ {x : Option AOpnd}, (∀ t ∈ tmO x, fr.get t = fr'.get t) → evo fr x = evo fr' x
  | none, _ => rfl
  | some x, h => by simp only [evo, ev_congr (x := x) h]
theorem fillA_congr : ∀ {ps : List (Nat × Nat × AOpnd)} {zs : List AV}, (∀ t ∈ tmP ps, fr.get t = fr'.get t) → fillA fr zs ps = fillA fr' zs ps
  | [], _, _ => rfl
  | (a, b, x) :: ps, zs, h => by
    have h1 := ev_congr (x := x) fun t ht => h t (by simp [tmP]; exact .inl ht)
    have h2 : ∀ zs, fillA fr zs ps = fillA fr' zs ps := fun zs => fillA_congr (ps := ps) fun t ht => h t (by simp [tmP] at ht ⊢; exact .inr ht)
    simp only [fillA, h1, h2]
theorem exA_congr {call : Rec} {ms : Meth} {op : AOp} {H : AHeap} (h : ∀ t ∈ op.tm, fr.get t = fr'.get t) : exA call ms op fr H = exA call ms op fr' H := by
  have e1 : ∀ x : AOpnd, (∀ t ∈ x.tm, t ∈ op.tm) → fr.ev x = fr'.ev x := fun x hx => ev_congr fun t ht => h t (hx t ht)
  have e2 : ∀ x, (∀ t ∈ tmL x, t ∈ op.tm) → evs fr x = evs fr' x := fun x hx => evs_congr fun t ht => h t (hx t ht)
  have e3 : ∀ x, (∀ t ∈ tmO x, t ∈ op.tm) → evo fr x = evo fr' x := fun x hx => evo_congr fun t ht => h t (hx t ht)
  have e4 : ∀ x zs, (∀ t ∈ tmP x, t ∈ op.tm) → fillA fr zs x = fillA fr' zs x := fun x zs hx => fillA_congr fun t ht => h t (hx t ht)
  clear h
  cases op <;> simp only [AOp.tm, List.mem_append] at e1 e2 e3 e4 <;> simp +contextual only [exA, e1, e2, e3, e4, true_or, or_true, implies_true]
theorem wantA_congr {g : Option (Nat × Bool)} (h : ∀ t, (∃ b, g = some (t, b)) → fr.get t = fr'.get t) : wantA fr g = wantA fr' g := by
  cases g with
  | none => rfl
  | some p => obtain ⟨t, b⟩ := p; simp only [wantA, h t ⟨b, rfl⟩]
theorem stepA_congr {call : Rec} {ms : Meth} {o : AOper} {H : AHeap} (h : ∀ t ∈ o.tm, fr.get t = fr'.get t) : stepA call ms o fr H = stepA call ms o fr' H := by
  have h1 := exA_congr (call := call) (ms := ms) (op := o.op) (H := H) fun t ht => h t (by simp only [AOper.tm, List.mem_append]; exact .inr ht)
  have h2 := wantA_congr (g := o.guard) fun t ⟨b, hb⟩ => h t (by simp only [AOper.tm, hb]; simp)
  simp only [stepA, h1, h2]
end
end Go.Proofs.YtbbjlbdmjikhbaaDoor.AA
namespace Go.Proofs.YtbbjlbdmjikhbaaDoor.AA
open Go Go.RowKit
/-! Operations that leave the heap alone. -/
section
variable {call : Rec} {ms : Meth} {fr fr' : AFr} {H H2 : AHeap}
theorem convA_pure {k : CK} {v : AV} {x : AOpnd} (h : (AOp.conv k x).cl = 0) : convA k v H2 = (convA k v H).map fun p => (p.1, H2) := by
  cases k <;> (try (simp only [AOp.cl, reduceCtorEq, Nat.succ_ne_self, Nat.reduceEqDiff] at h; done)) <;> cases v <;> simp only [convA, vl] <;> (repeat' (first | rfl | split))
theorem exA_pure {op : AOp} (h : op.cl = 0) : exA call ms op fr H2 = (exA call ms op fr H).map fun p => (p.1, H2) := by
  cases op <;> (try (simp only [AOp.cl, reduceCtorEq, Nat.succ_ne_self, Nat.reduceEqDiff] at h; done)) <;> simp only [exA, vl] <;>
    (repeat' (first | rfl | exact convA_pure h | split | (simp only [Bool.cond_eq_ite])))
theorem convA_stay {k : CK} {v u : AV} {x : AOpnd} (h : (AOp.conv k x).cl = 1) (he : convA k v H = some (u, H2)) : H2 = H := by
  cases k with
  | toStr =>
    cases v with
    | slice a s n c =>
      cases a with
      | none => simp only [convA, vl, Option.some.injEq, Prod.mk.injEq] at he; exact he.2.symm
      | some p =>
        obtain ⟨b, i⟩ := p
        simp only [convA, vl, Bool.cond_eq_ite] at he
        (repeat' split at he) <;> simp only [Option.some.injEq, Prod.mk.injEq, reduceCtorEq] at he
        all_goals exact he.2.symm
    | _ => simp [convA] at he
  | toBytes => exact absurd (show (2 : Nat) = 1 from h) (by decide)
  | _ => exact absurd (show (0 : Nat) = 1 from h) (by decide)
theorem exA_stay {op : AOp} (h : op.cl ≤ 1) {v : AV} (he : exA call ms op fr H = some (v, H2)) : H2 = H := by
  rcases Nat.lt_or_ge op.cl 1 with h0 | h1
  · rw [exA_pure (H := H) (by omega)] at he
    cases hx : exA call ms op fr H with
    | none => rw [hx] at he; cases he
    | some p =>
      have h3 := exA_pure (call := call) (ms := ms) (fr := fr) (H2 := H) (H := H) (op := op) (by omega)
      rw [hx] at h3 he
      simp only [Option.map_some, Option.some.injEq, Prod.mk.injEq] at he h3
      rw [h3] at he
      exact he.2.symm
  · have h2 : op.cl = 1 := by omega
    clear h h1
    cases op <;> (try (simp [AOp.cl] at h2; done)) <;> simp only [exA, vl, Bool.cond_eq_ite] at he <;>
      (repeat' split at he) <;> first | (cases he; done) | (simp only [Option.some.injEq, Prod.mk.injEq] at he; exact he.2.symm) | exact convA_stay h2 he | skip
theorem stepA_pure {o : AOper} (h : o.op.cl = 0) : stepA call ms o fr H2 = (stepA call ms o fr H).map fun p => (p.1, H2) := by
  simp only [stepA, exA_pure (H := H) (H2 := H2) h]
  split <;> rfl
theorem stepA_stay {o : AOper} (h : o.op.cl ≤ 1) {v : AV} (he : stepA call ms o fr H = some (v, H2)) : H2 = H := by
  simp only [stepA] at he
  split at he
  · exact exA_stay h he
  · simp only [Option.some.injEq, Prod.mk.injEq] at he; exact he.2.symm
  · cases he
mutual
theorem eqAV_eq : ∀ (a b : AV), eqAV a b = true → a = b
  | .bool a, y, h => by cases y <;> simp_all [eqAV]
  | .int k n, y, h => by cases y <;> simp_all [eqAV]
  | .str a, y, h => by cases y <;> simp_all [eqAV]
  | .ptr a, y, h => by cases y <;> simp_all [eqAV]
  | .slice a s n c, y, h => by cases y <;> simp_all [eqAV]
  | .map a, y, h => by cases y <;> simp_all [eqAV]
  | .nilFunc, y, h => by cases y <;> simp_all [eqAV]
  | .nilIface, y, h => by cases y <;> simp_all [eqAV]
  | .iface t v, y, h => by
    cases y <;> simp only [eqAV, Bool.and_eq_true, beq_iff_eq, Bool.false_eq_true] at h
    rw [h.1, eqAV_eq v _ h.2]
  | .agg l, y, h => by
    cases y <;> simp only [eqAV, Bool.false_eq_true] at h
    rw [eqAVL_eq l _ h]
  | .tuple l, y, h => by
    cases y <;> simp only [eqAV, Bool.false_eq_true] at h
    rw [eqAVL_eq l _ h]
  | .func _ _ _, y, h => by simp [eqAV] at h
theorem eqAVL_eq : ∀ (a b : List AV), eqAVL a b = true → a = b
  | [], [], _ => rfl
  | a :: as, b :: bs, h => by
    simp only [eqAVL, Bool.and_eq_true] at h
    rw [eqAV_eq a b h.1, eqAVL_eq as bs h.2]
  | [], _ :: _, h => by simp [eqAVL] at h
  | _ :: _, [], h => by simp [eqAVL] at h
end
theorem chkAt_all {o : AOper} {v : AV} : ∀ {hs : List AHeap}, chkAt call ms o fr v hs = true → ∀ H ∈ hs, ∃ H', stepA call ms o fr H = some (v, H')
  | [], _, _, h => by cases h
  | H :: hs, hc, H1, h1 => by
    simp only [chkAt, Bool.and_eq_true] at hc
    rcases List.mem_cons.1 h1 with rfl | h1
    · obtain ⟨hc, -⟩ := hc
      split at hc
      · rename_i v' H' hv
        rw [hv, eqAV_eq _ _ hc]
        exact ⟨H', rfl⟩
      · cases hc
    · exact chkAt_all hc.2 H1 h1
end
end Go.Proofs.YtbbjlbdmjikhbaaDoor.AA
namespace Go.Proofs.YtbbjlbdmjikhbaaDoor.AA
open Go Go.RowKit
/-! Regions whose order is drawn: every order does what the listed one does. -/
def AOper.mv (o : AOper) : Bool := o.op.cl.beq 2
def AOper.mn (o : AOper) : Nat := bif o.mv then 1 else 0
def apartA (a i : AOper) : Bool :=
  (match a.dst with | some d => !i.tm.contains d && i.dst != some d | none => true) && (match i.dst with | some d => !a.tm.contains d | none => true)
theorem putA_get (fr : AFr) (d : Option Nat) (v : AV) (t : Nat) : (putA fr d v).get t = if d = some t then some v else fr.get t := by
  cases d with
  | none => simp [putA]
  | some d => simp [putA, Tr.get_set]
section
variable {P : Program} {call : Rec} {ms : Meth} {hs : Nat → Option AHeap} {lo hi : Nat → Nat} {l : List AOper}
def StepC (call : Rec) (ms : Meth) (hs : Nat → Option AHeap) (lo hi : Nat → Nat) (o : AOper) (i k : Nat) (fr : AFr) (v : AV) : Prop :=
  if o.mv = true then ∃ H H', hs k = some H ∧ hs (k + 1) = some H' ∧ stepA call ms o fr H = some (v, H')
  else ∀ j H, lo i ≤ j → j ≤ hi i → hs j = some H → stepA call ms o fr H = some (v, H)
def RunC (call : Rec) (ms : Meth) (hs : Nat → Option AHeap) (lo hi : Nat → Nat) (l : List AOper) : List Nat → Nat → AFr → AFr → Prop
  | [], _, fr, fr' => ∀ t, fr.get t = fr'.get t
  | i :: R, k, fr, fr' => ∃ o v, l[i]? = some o ∧ StepC call ms hs lo hi o i k fr v ∧ RunC call ms hs lo hi l R (k + o.mn) (putA fr o.dst v) fr'
theorem StepC.congr {o : AOper} {i k k' : Nat} {fr fr2 : AFr} {v : AV} (h : StepC call ms hs lo hi o i k fr v) (hf : ∀ t ∈ o.tm, fr.get t = fr2.get t) (hk : o.mv = true → k = k') : StepC call ms hs lo hi o i k' fr2 v := by
  unfold StepC at *
  split
  · rename_i hm
    rw [if_pos hm] at h
    obtain ⟨H, H', h1, h2, h3⟩ := h
    rw [← hk hm]
    exact ⟨H, H', h1, h2, by rw [← stepA_congr hf]; exact h3⟩
  · rename_i hm
    rw [if_neg hm] at h
    intro j H h1 h2 h3
    rw [← stepA_congr hf]
    exact h j H h1 h2 h3
theorem RunC.congr : ∀ {R : List Nat} {k : Nat} {fr fr2 fr' : AFr}, RunC call ms hs lo hi l R k fr fr' → (∀ t, fr.get t = fr2.get t) → RunC call ms hs lo hi l R k fr2 fr'
  | [], _, _, _, _, h, hf => fun t => by rw [← hf t]; exact h t
  | i :: R, k, fr, fr2, fr', h, hf => by
    obtain ⟨o, v, h1, h2, h3⟩ := h
    exact ⟨o, v, h1, h2.congr (fun t _ => hf t) (fun _ => rfl), RunC.congr h3 fun t => by rw [putA_get, putA_get, hf t]⟩
theorem apartA_spec {a i : AOper} (h : apartA a i = true) : (∀ d, a.dst = some d → d ∉ i.tm) ∧ (∀ d, a.dst = some d → i.dst ≠ some d) ∧ (∀ d, i.dst = some d → d ∉ a.tm) := by
  unfold apartA at h
  refine ⟨fun d hd => ?_, fun d hd => ?_, fun d hd => ?_⟩ <;> simp [hd] at h
  · exact h.1.1
  · exact h.1.2
  · exact h.2
theorem RunC.swap {a i : Nat} {oa oi : AOper} {R : List Nat} {k : Nat} {fr fr' : AFr} (h : RunC call ms hs lo hi l (a :: i :: R) k fr fr') (ha : l[a]? = some oa) (hi' : l[i]? = some oi) (hap : apartA oa oi = true) (hm : (oa.mv && oi.mv) = false) : RunC call ms hs lo hi l (i :: a :: R) k fr fr' := by
  obtain ⟨oa', va, h1, h2, oi', vi, h3, h4, h5⟩ := h
  obtain rfl : oa = oa' := by rw [ha] at h1; exact Option.some.inj h1
  obtain rfl : oi = oi' := by rw [hi'] at h3; exact Option.some.inj h3
  obtain ⟨a1, a2, a3⟩ := apartA_spec hap
  refine ⟨oi, vi, h3, h4.congr (fun t ht => ?_) (fun hmi => ?_), oa, va, h1, h2.congr (fun t ht => ?_) (fun hma => ?_), ?_⟩
  · rw [putA_get, if_neg (fun e => a1 t e ht)]
  · have : oa.mv = false := by simpa [hmi] using hm
    simp [AOper.mn, this]
  · rw [putA_get, if_neg (fun e => a3 t e ht)]
  · have : oi.mv = false := by simpa [hma] using hm
    simp [AOper.mn, this]
  · rw [Nat.add_right_comm]
    refine h5.congr fun t => ?_
    simp only [putA_get]
    by_cases e1 : oi.dst = some t
    · by_cases e2 : oa.dst = some t
      · exact absurd e1 (a2 t e2)
      · rw [if_pos e1, if_neg e2, if_pos e1]
    · rw [if_neg e1, if_neg e1]
theorem RunC.move {i : Nat} {oi : AOper} {B : List Nat} {fr' : AFr} (hi' : l[i]? = some oi) : ∀ {A : List Nat} {k : Nat} {fr : AFr}, (∀ a ∈ A, ∃ oa, l[a]? = some oa ∧ apartA oa oi = true ∧ (oa.mv && oi.mv) = false) → RunC call ms hs lo hi l (A ++ i :: B) k fr fr' → RunC call ms hs lo hi l (i :: (A ++ B)) k fr fr'
  | [], _, _, _, h => h
  | a :: A, k, fr, hA, h => by
    obtain ⟨o, v, h1, h2, h3⟩ := h
    obtain ⟨oa, q1, q2, q3⟩ := hA a (by simp)
    have h4 := RunC.move hi' (fun a' ha' => hA a' (by simp [ha'])) h3
    exact RunC.swap (a := a) ⟨o, v, h1, h2, h4⟩ q1 hi' q2 q3
theorem wpOp_sim {Z : Nat → Prop} {ρ : Rho} {H H' : AHeap} {w : World} {nt : Nat} (hcall : CallOK P call) (hms : ckMeth P ms) {ops : Array Oper} {Q : Exit → Act → World → Prop} {i : Nat} {o : Oper} {ao : AOper} (ho : ops[i]? = some o) (hc : ckOper P nt ops o ao = true) (h : HS Z ρ H w) {fr : AFr} {a : Act} (hf : Fr nt ρ fr a) {v : AV} (he : stepA call ms ao fr H = some (v, H')) {K : Act → World → Prop}
    (hK : ∀ ρ' a' w', Ext ρ ρ' → HS Z ρ' H' w' → Kp Z w w' → Fr nt ρ' (putA fr ao.dst v) a' → K a' w') : wpOp P ops Q i K a w := by
  simp only [ckOper, Bool.and_eq_true, beq_iff_eq] at hc
  obtain ⟨⟨⟨hdst, hnt⟩, hop⟩, hg⟩ := hc
  have hnt' : ∀ t, o.dst = some t → t < nt := fun t ht => by rw [ht] at hnt; simpa using hnt
  unfold wpOp
  simp only [ho]
  unfold stepA at he
  split at he
  · rename_i hw
    rw [want_sim hg hf.rf hw]
    simp only [if_true]
    refine .inl (oper_sim hcall hms hop h hf.rf he fun ρ' u w' q1 q2 q3 q4 => ?_)
    refine hK ρ' _ w' q1 q2 q3 ?_
    rw [← hdst]
    exact (hf.mono q1).put q4 hnt'
  · rename_i hw
    rw [want_sim hg hf.rf hw]
    simp only [Bool.false_eq_true, if_false]
    simp only [Option.some.injEq, Prod.mk.injEq] at he
    obtain ⟨rfl, rfl⟩ := he
    refine hK ρ _ w (Ext.refl _) h (Kp.refl _ _) ?_
    rw [← hdst]
    exact hf.put undef_R hnt'
  · cases he
end
/-! The check that is made of a region once. -/
def ancAt (ws : List (Nat × Nat × List Nat)) (i : Nat) : List Nat := match ws[i]? with | some (_, _, a) => a | none => []
def loAt (ws : List (Nat × Nat × List Nat)) (i : Nat) : Nat := match ws[i]? with | some (a, _, _) => a | none => 0
def hiAt (ws : List (Nat × Nat × List Nat)) (i : Nat) : Nat := match ws[i]? with | some (_, b, _) => b | none => 0
def mvAt (l : List AOper) (i : Nat) : Bool := match l[i]? with | some o => o.mv | none => false
def befAt (ws : List (Nat × Nat × List Nat)) (j i : Nat) : Bool := (ancAt ws i).contains j
def ckD1 (l : List AOper) (ws : List (Nat × Nat × List Nat)) (o : Oper) (i : Nat) : Bool :=
  o.after.all (fun e => !Region.binds .any e || decide (e.on < i)) &&
  (ancAt ws i).all (fun a => o.after.any fun e => Region.binds .any e && (e.on == a || befAt ws a e.on))
def ckD2 (l : List AOper) (ws : List (Nat × Nat × List Nat)) (ao : AOper) (i : Nat) : Bool :=
  (List.range i).all (fun j => befAt ws j i || (match l[j]? with | some aj => apartA aj ao && !(aj.mv && ao.mv) | none => false))
def ckD3 (l : List AOper) (ws : List (Nat × Nat × List Nat)) (n m i : Nat) : Bool :=
  decide (loAt ws i + (List.range n).countP (fun j => mvAt l j && !befAt ws j i) ≤ m) && decide (m ≤ hiAt ws i + (List.range n).countP (fun j => mvAt l j && befAt ws i j))
def ckD (ops : Array Oper) (l : List AOper) (ws : List (Nat × Nat × List Nat)) : Bool :=
  (List.range ops.size).all fun i => match ops[i]?, l[i]? with
    | some o, some ao => ckD1 l ws o i && ckD2 l ws ao i && (ao.mv || ckD3 l ws ops.size ((List.range ops.size).countP (mvAt l)) i)
    | _, _ => false
theorem ckD_spec {ops : Array Oper} {l : List AOper} {ws : List (Nat × Nat × List Nat)} (h : ckD ops l ws = true) {i : Nat} {o : Oper} (ho : ops[i]? = some o) : ∃ ao, l[i]? = some ao ∧
    (∀ e ∈ o.after, Region.binds .any e = true → e.on < i) ∧ (∀ a, befAt ws a i = true → ∃ e ∈ o.after, Region.binds .any e = true ∧ (e.on = a ∨ befAt ws a e.on = true)) ∧
    (∀ j, j < i → befAt ws j i = true ∨ ∃ aj, l[j]? = some aj ∧ apartA aj ao = true ∧ (aj.mv && ao.mv) = false) ∧
    (ao.mv = false → loAt ws i + (List.range ops.size).countP (fun j => mvAt l j && !befAt ws j i) ≤ (List.range ops.size).countP (mvAt l) ∧ (List.range ops.size).countP (mvAt l) ≤ hiAt ws i + (List.range ops.size).countP (fun j => mvAt l j && befAt ws i j)) := by
  have hi : i < ops.size := (Array.getElem?_eq_some_iff.1 ho).1
  simp only [ckD, List.all_eq_true, List.mem_range] at h
  have h1 := h i hi
  rw [ho] at h1
  cases hl : l[i]? with
  | none => rw [hl] at h1; cases h1
  | some ao =>
    rw [hl] at h1
    simp only [Bool.and_eq_true, ckD1, ckD2, Array.all_eq_true_iff_forall_mem, List.all_eq_true, List.mem_range, Bool.or_eq_true, Bool.not_eq_true', decide_eq_true_eq] at h1
    obtain ⟨⟨⟨q1, q2⟩, q3⟩, q4⟩ := h1
    refine ⟨ao, rfl, fun e he hb => (q1 e he).resolve_left (by simp [hb]), fun a ha => ?_, fun j hj => ?_, fun hm => ?_⟩
    · have := q2 a (by simpa [befAt] using ha)
      obtain ⟨e, he, hb⟩ := Array.any_eq_true'.1 this
      simp only [Bool.and_eq_true, Bool.or_eq_true, beq_iff_eq] at hb
      exact ⟨e, he, hb.1, hb.2⟩
    · rcases q3 j hj with h3 | h3
      · exact .inl h3
      · right
        split at h3
        · rename_i aj haj
          simp only [Bool.and_eq_true, Bool.not_eq_true'] at h3
          exact ⟨aj, haj, h3.1, h3.2⟩
        · cases h3
    · rcases q4 with h4 | h4
      · rw [hm] at h4; cases h4
      · simpa [ckD3] using h4
end Go.Proofs.YtbbjlbdmjikhbaaDoor.AA
namespace Go.Proofs.YtbbjlbdmjikhbaaDoor.AA
open Go Go.RowKit
section
variable {P : Program} {call : Rec} {ms : Meth} {Z : Nat → Prop} {nt : Nat} {ops : Array Oper} {l : List AOper} {ws : List (Nat × Nat × List Nat)}
def unl (n : Nat) (listed : Array Bool) : List Nat := (List.range n).filter fun j => !listed.getD j true
def Closed (ops : Array Oper) (listed : Array Bool) : Prop := ∀ j o, ops[j]? = some o → listed.getD j false = true → ∀ e ∈ o.after, Region.binds .any e = true → listed.getD e.on false = true
theorem getD_tf {listed : Array Bool} {j : Nat} (hj : j < listed.size) : listed.getD j true = listed.getD j false := by
  simp [Array.getD_eq_getD_getElem?, hj]
theorem bef_listed (hck : ckD ops l ws = true) {listed : Array Bool} (hcl : Closed ops listed) (hsz : listed.size = ops.size) : ∀ (n i : Nat) (o : Oper) (a : Nat), i ≤ n → ops[i]? = some o → befAt ws a i = true → (∀ e ∈ o.after, Region.binds .any e = true → listed.getD e.on false = true) → listed.getD a false = true := by
  intro n
  induction n with
  | zero =>
    intro i o a hi ho ha he
    obtain ⟨ao, -, h1, h2, -⟩ := ckD_spec hck ho
    obtain ⟨e, q1, q2, q3⟩ := h2 a ha
    exact absurd (h1 e q1 q2) (by omega)
  | succ n ih =>
    intro i o a hi ho ha he
    obtain ⟨ao, -, h1, h2, -⟩ := ckD_spec hck ho
    obtain ⟨e, q1, q2, q3⟩ := h2 a ha
    have hl := he e q1 q2
    rcases q3 with rfl | q3
    · exact hl
    · have hlt := h1 e q1 q2
      have hin : i < ops.size := (Array.getElem?_eq_some_iff.1 ho).1
      obtain ⟨o', ho'⟩ : ∃ o', ops[e.on]? = some o' := ⟨ops[e.on], Array.getElem?_eq_some_iff.2 ⟨by omega, rfl⟩⟩
      exact ih e.on o' a (by omega) ho' q3 (hcl e.on o' ho' hl)
theorem mem_unl {n : Nat} {listed : Array Bool} {j : Nat} : j ∈ unl n listed ↔ j < n ∧ listed.getD j true = false := by
  simp [unl, List.mem_filter, List.mem_range]
theorem unl_set {n : Nat} {listed : Array Bool} {i : Nat} {A B : List Nat} (hsz : listed.size = n) (h : unl n listed = A ++ i :: B) : unl n (listed.setIfInBounds i true) = A ++ B := by
  have hnd : (unl n listed).Nodup := List.Pairwise.filter _ List.nodup_range
  have h1 : unl n (listed.setIfInBounds i true) = (unl n listed).filter fun j => j != i := by
    unfold unl
    rw [List.filter_filter]
    refine List.filter_congr fun j hj => ?_
    by_cases hij : i = j
    · subst hij
      have hlt : i < listed.size := by rw [hsz]; simpa using hj
      simp [hlt]
    · rw [getD_set_ne true hij]
      simp [Ne.symm hij]
  rw [h1, h]
  rw [h] at hnd
  have h2 := List.nodup_append.1 hnd
  have h3 := List.nodup_cons.1 h2.2.1
  rw [List.filter_append, List.filter_cons]
  simp only [bne_self_eq_false, Bool.false_eq_true, if_false]
  rw [List.filter_eq_self.2, List.filter_eq_self.2]
  · intro a ha; simp only [bne_iff_ne, ne_eq]; rintro rfl; exact h3.1 ha
  · intro a ha; simp only [bne_iff_ne, ne_eq]; rintro rfl; exact h2.2.2 a ha a (by simp) rfl
theorem any_sim (hcall : CallOK P call) (hms : ckMeth P ms) (hck : ckD ops l ws = true) (hops : ∀ (i : Nat) o ao, ops[i]? = some o → l[i]? = some ao → ckOper P nt ops o ao = true) {hs : Nat → Option AHeap} {Hl : AHeap} (hHl : hs ((List.range ops.size).countP (mvAt l)) = some Hl) {fr' : AFr} {Q : Exit → Act → World → Prop} :
    ∀ (fuel : Nat) (listed : Array Bool) (k : Nat) (fr : AFr) (ρ : Rho) (H : AHeap) (w : World) (a : Act), listed.size = ops.size → Closed ops listed → (unl ops.size listed).length = fuel → k + (unl ops.size listed).countP (mvAt l) = (List.range ops.size).countP (mvAt l) →
      RunC call ms hs (loAt ws) (hiAt ws) l (unl ops.size listed) k fr fr' → hs k = some H → HS Z ρ H w → Fr nt ρ fr a → (∀ ρ' a' w', Ext ρ ρ' → HS Z ρ' Hl w' → Kp Z w w' → Fr nt ρ' fr' a' → Q .normal a' w') →
      wpAny P .any ops Q fuel listed a w := by
  intro fuel
  induction fuel with
  | zero =>
    intro listed k fr ρ H w a hsz hcl hlen hk hrun hH h hf hQ
    have hnil : unl ops.size listed = [] := List.length_eq_zero_iff.1 hlen
    rw [hnil] at hrun hk
    simp only [List.countP_nil, Nat.add_zero] at hk
    rw [hk] at hH
    obtain rfl : H = Hl := by rw [hH] at hHl; exact Option.some.inj hHl
    refine ⟨?_, hQ ρ a w (Ext.refl _) h (Kp.refl _ _) ⟨fun t v ht => hf.rf t v (by rw [hrun t]; exact ht), hf.size, hf.defers⟩⟩
    cases hr : Region.ready .any ops listed with
    | nil => rfl
    | cons i is =>
      obtain ⟨h0, o, ho, -⟩ := mem_ready.1 (show i ∈ Region.ready .any ops listed by rw [hr]; simp)
      have : i ∈ unl ops.size listed := mem_unl.2 ⟨(Array.getElem?_eq_some_iff.1 ho).1, h0⟩
      rw [hnil] at this; cases this
  | succ fuel ih =>
    intro listed k fr ρ H w a hsz hcl hlen hk hrun hH h hf hQ
    have hpw : (unl ops.size listed).Pairwise (· < ·) := List.Pairwise.filter _ List.pairwise_lt_range
    refine ⟨fun hr => ?_, fun i hi => ?_⟩
    · exfalso
      cases hu : unl ops.size listed with
      | nil => rw [hu] at hlen; cases hlen
      | cons i0 R =>
        obtain ⟨hlt, h0⟩ := mem_unl.1 (show i0 ∈ unl ops.size listed by rw [hu]; simp)
        have ho : ops[i0]? = some ops[i0] := Array.getElem?_eq_some_iff.2 ⟨hlt, rfl⟩
        obtain ⟨ao, -, h1, -⟩ := ckD_spec hck ho
        have : i0 ∈ Region.ready .any ops listed := mem_ready.2 ⟨h0, ops[i0], ho, fun e he hb => by
          have hlt' := h1 e he hb
          rcases hb' : listed.getD e.on false with _ | _
          · have : e.on ∈ unl ops.size listed := mem_unl.2 ⟨by omega, by rw [getD_tf (by omega)]; exact hb'⟩
            rw [hu] at this hpw
            rcases List.mem_cons.1 this with h3 | h3
            · omega
            · have := (List.pairwise_cons.1 hpw).1 e.on h3
              omega
          · rfl⟩
        rw [hr] at this; cases this
    · obtain ⟨h0, o, ho, hed⟩ := mem_ready.1 hi
      have hin : i < ops.size := (Array.getElem?_eq_some_iff.1 ho).1
      obtain ⟨ao, hao, s1, s2, s3, s4⟩ := ckD_spec hck ho
      have hbl : ∀ a, befAt ws a i = true → listed.getD a false = true := fun a ha => bef_listed hck hcl hsz i i o a (Nat.le_refl _) ho ha hed
      have hlb : ∀ j, j < ops.size → befAt ws i j = true → listed.getD j true = false := fun j hj hb => by
        rw [getD_tf (by omega)]
        rcases hb' : listed.getD j false with _ | _
        · rfl
        · have hoj : ops[j]? = some ops[j] := Array.getElem?_eq_some_iff.2 ⟨hj, rfl⟩
          have := bef_listed hck hcl hsz j j _ i (Nat.le_refl _) hoj hb (hcl j _ hoj hb')
          rw [getD_tf (by omega), this] at h0
          cases h0
      obtain ⟨A, B, hAB⟩ := List.append_of_mem (mem_unl.2 ⟨hin, h0⟩ : i ∈ unl ops.size listed)
      rw [hAB] at hrun
      have hmove : RunC call ms hs (loAt ws) (hiAt ws) l (i :: (A ++ B)) k fr fr' := by
        refine RunC.move hao (fun a' ha' => ?_) hrun
        rw [hAB] at hpw
        have hlt : a' < i := (List.pairwise_append.1 hpw).2.2 a' ha' i (by simp)
        rcases s3 a' hlt with hb | hb
        · have h4 := hbl a' hb
          have h5 := (mem_unl.1 (show a' ∈ unl ops.size listed by rw [hAB]; simp [ha'])).2
          rw [getD_tf (by omega), h4] at h5
          cases h5
        · exact hb
      obtain ⟨ao', v, e1, e2, e3⟩ := hmove
      obtain rfl : ao = ao' := by rw [hao] at e1; exact Option.some.inj e1
      have hmvi : mvAt l i = ao.mv := by simp [mvAt, hao]
      have hcnt : ∀ q : Nat → Bool, (unl ops.size listed).countP q = (List.range ops.size).countP (fun j => q j && !listed.getD j true) := fun q => by
        unfold unl; rw [List.countP_filter]
      obtain ⟨H1, hstep, hH1⟩ : ∃ H1, stepA call ms ao fr H = some (v, H1) ∧ hs (k + ao.mn) = some H1 := by
        unfold StepC at e2
        split at e2
        · rename_i hm
          obtain ⟨H0, H1, q1, q2, q3⟩ := e2
          obtain rfl : H = H0 := by rw [hH] at q1; exact Option.some.inj q1
          exact ⟨H1, q3, by simpa [AOper.mn, hm] using q2⟩
        · rename_i hm
          have hm' : ao.mv = false := by simpa using hm
          obtain ⟨b1, b2⟩ := s4 hm'
          have c1 : (unl ops.size listed).countP (mvAt l) ≤ (List.range ops.size).countP (fun j => mvAt l j && !befAt ws j i) := by
            rw [hcnt]
            refine List.countP_mono_left fun j hj hb => ?_
            have hj' : j < ops.size := by simpa using hj
            simp only [Bool.and_eq_true, Bool.not_eq_true'] at hb ⊢
            refine ⟨hb.1, ?_⟩
            rcases hx : befAt ws j i with _ | _
            · rfl
            · have := hbl j hx
              rw [getD_tf (by omega), this] at hb
              cases hb.2
          have c2 : (List.range ops.size).countP (fun j => mvAt l j && befAt ws i j) ≤ (unl ops.size listed).countP (mvAt l) := by
            rw [hcnt]
            refine List.countP_mono_left fun j hj hb => ?_
            have hj' : j < ops.size := by simpa using hj
            simp only [Bool.and_eq_true, Bool.not_eq_true'] at hb ⊢
            exact ⟨hb.1, hlb j hj' hb.2⟩
          exact ⟨H, e2 k H (by omega) (by omega) hH, by simpa [AOper.mn, hm'] using hH⟩
      refine wpOp_sim hcall hms ho (hops i o ao ho hao) h hf hstep fun ρ1 a1 w1 q1 q2 q3 q4 => ?_
      have hset := unl_set hsz hAB
      refine ih (listed.setIfInBounds i true) (k + ao.mn) _ ρ1 H1 w1 a1 (by simpa using hsz) ?_ ?_ ?_ ?_ hH1 q2 q4 fun ρ2 a2 w2 p1 p2 p3 p4 => hQ ρ2 a2 w2 (q1.trans p1) p2 (q3.trans p3) p4
      · intro j oj hoj hj e he hb
        by_cases hij : i = j
        · subst hij
          obtain rfl : o = oj := by rw [ho] at hoj; exact Option.some.inj hoj
          exact getD_set_true (hed e he hb)
        · rw [getD_set_ne false hij] at hj
          exact getD_set_true (hcl j oj hoj hj e he hb)
      · rw [hset]; rw [hAB] at hlen; simp at hlen ⊢; omega
      · rw [hset]; rw [hAB] at hk
        simp only [List.countP_append, List.countP_cons, hmvi] at hk ⊢
        cases hm : ao.mv <;> simp [AOper.mn, hm] at hk ⊢ <;> omega
      · rw [hset]; exact e3
end
end Go.Proofs.YtbbjlbdmjikhbaaDoor.AA
namespace Go.Proofs.YtbbjlbdmjikhbaaDoor.AA
open Go Go.RowKit
section
variable {P : Program} {call : Rec} {ms : Meth} {Z : Nat → Prop} {ρ : Rho} {H : AHeap} {w : World} {nt : Nat} {ops : Array Oper} {l : List AOper} {ws : List (Nat × Nat × List Nat)}
theorem cl_le (op : AOp) : op.cl ≤ 2 := by
  unfold AOp.cl; split <;> decide
theorem drun_head : ∀ {os : List AOper} {fr : AFr} {H : AHeap} {rs : List (AFr × AV)} {hs : List AHeap} {fr' : AFr} {Hl : AHeap}, drun call ms os fr H = some (rs, hs, fr', Hl) → hs[0]? = some H
  | [], fr, H, rs, hs, fr', Hl, h => by
    simp only [drun, Option.some.injEq, Prod.mk.injEq] at h
    rw [← h.2.1]; rfl
  | o :: os, fr, H, rs, hs, fr', Hl, h => by
    simp only [drun] at h
    split at h
    · rename_i v H' hv
      split at h
      · rename_i rs1 hs1 fr1 Hl1 h1
        have ih := drun_head h1
        simp only [Option.some.injEq, Prod.mk.injEq] at h
        obtain ⟨-, h2, -, -⟩ := h
        cases hm : o.op.cl.beq 2
        · rw [hm] at h2
          have hle : o.op.cl ≤ 1 := by
            have := cl_le o.op
            have h3 : o.op.cl ≠ 2 := fun e => by rw [e] at hm; cases hm
            omega
          have := stepA_stay hle hv
          rw [← h2, ← this]; exact ih
        · rw [hm] at h2
          rw [← h2]; rfl
      · cases h
    · cases h
theorem drun_spec {hA : List AHeap} : ∀ {os : List AOper} {s k : Nat} {fr : AFr} {H : AHeap} {rs : List (AFr × AV)} {hs : List AHeap} {fr' : AFr} {Hl : AHeap}, l.drop s = os → drun call ms os fr H = some (rs, hs, fr', Hl) → hA.drop k = hs → dchk call ms hA os rs (ws.drop s) = true →
    RunC call ms (fun j => hA[j]?) (loAt ws) (hiAt ws) l (List.range' s os.length) k fr fr' ∧ hA[k + os.countP AOper.mv]? = some Hl
  | [], s, k, fr, H, rs, hs, fr', Hl, hl, h, hh, hd => by
    simp only [drun, Option.some.injEq, Prod.mk.injEq] at h
    obtain ⟨rfl, rfl, rfl, rfl⟩ := h
    refine ⟨fun t => rfl, ?_⟩
    have := congrArg (fun l => l[0]?) hh
    simpa [List.getElem?_drop] using this
  | o :: os, s, k, fr, H, rs, hs, fr', Hl, hl, h, hh, hd => by
    have hls : l[s]? = some o := by
      have := congrArg (fun l => l[0]?) hl
      simpa [List.getElem?_drop] using this
    have hl' : l.drop (s + 1) = os := by
      have := congrArg List.tail hl
      simpa [List.tail_drop] using this
    simp only [drun] at h
    split at h
    · rename_i v H' hv
      split at h
      · rename_i rs1 hs1 fr1 Hl1 h1
        simp only [Option.some.injEq, Prod.mk.injEq] at h
        obtain ⟨rfl, h2, rfl, rfl⟩ := h
        cases hws : ws.drop s with
        | nil => rw [hws] at hd; simp [dchk] at hd
        | cons w0 ws1 =>
        obtain ⟨lo, hi, an⟩ := w0
        rw [hws] at hd
        simp only [dchk, Bool.and_eq_true] at hd
        obtain ⟨hd1, hd2⟩ := hd
        have hws0 : ws[s]? = some (lo, hi, an) := by
          have := congrArg (fun l => l[0]?) hws
          simpa [List.getElem?_drop] using this
        have hws' : ws1 = ws.drop (s + 1) := by
          have := congrArg List.tail hws
          simpa [List.tail_drop] using this.symm
        rw [hws'] at hd2
        have hlo : loAt ws s = lo := by simp [loAt, hws0]
        have hhi : hiAt ws s = hi := by simp [hiAt, hws0]
        cases hm : o.op.cl.beq 2
        · rw [hm] at h2
          simp only [cond_false] at h2
          have hle : o.op.cl ≤ 1 := by
            have := cl_le o.op
            have h3 : o.op.cl ≠ 2 := fun e => by rw [e] at hm; cases hm
            omega
          have hst := stepA_stay hle hv
          subst hst
          obtain ⟨i1, i2⟩ := drun_spec (s := s + 1) (k := k) hl' h1 (by rw [hh, h2]) hd2
          have hmv : o.mv = false := hm
          refine ⟨⟨o, v, hls, ?_, ?_⟩, ?_⟩
          · unfold StepC
            rw [if_neg (by rw [hmv]; simp)]
            intro j H2 q1 q2 q3
            rcases Nat.lt_or_ge o.op.cl 1 with c0 | c1
            · rw [stepA_pure (H := H') (by omega), hv]; rfl
            · have hcl : o.op.cl.beq 1 = true := by rw [show o.op.cl = 1 by omega]; rfl
              rw [hcl] at hd1
              simp only [cond_true] at hd1
              obtain ⟨H3, q4⟩ := chkAt_all hd1 H2 (by
                rw [List.mem_iff_getElem?]
                refine ⟨j - lo, ?_⟩
                rw [List.getElem?_drop, List.getElem?_take, if_pos (by omega), show lo + (j - lo) = j by omega]
                exact q3)
              have := stepA_stay hle q4
              subst this; exact q4
          · simpa [AOper.mn, hmv] using i1
          · simpa [List.countP_cons, hmv] using i2
        · rw [hm] at h2
          simp only [cond_true] at h2
          have hmv : o.mv = true := hm
          have hh0 : hA[k]? = some H := by
            have := congrArg (fun l => l[0]?) hh
            rw [← h2] at this
            simpa [List.getElem?_drop] using this
          have hh1 : hA.drop (k + 1) = hs1 := by
            have := congrArg List.tail hh
            rw [← h2] at this
            simpa [List.tail_drop] using this
          have hh2 : hA[k + 1]? = some H' := by
            have := drun_head h1
            rw [← hh1] at this
            simpa [List.getElem?_drop] using this
          obtain ⟨i1, i2⟩ := drun_spec (s := s + 1) (k := k + 1) hl' h1 hh1 hd2
          refine ⟨⟨o, v, hls, ?_, ?_⟩, ?_⟩
          · unfold StepC
            rw [if_pos hmv]
            exact ⟨H, H', hh0, hh2, hv⟩
          · simpa [AOper.mn, hmv] using i1
          · simp only [List.countP_cons, hmv, if_true]
            rw [show k + (List.countP AOper.mv os + 1) = k + 1 + List.countP AOper.mv os by omega]
            exact i2
      · cases h
    · cases h
theorem ckOpers_length {P : Program} {nt : Nat} {ops : Array Oper} : ∀ {os : List Oper} {aos : List AOper}, ckOpers P nt ops os aos = true → os.length = aos.length ∧ ∀ (i : Nat) o ao, os[i]? = some o → aos[i]? = some ao → ckOper P nt ops o ao = true
  | [], [], _ => ⟨rfl, fun i o ao h => by simp at h⟩
  | o :: os, ao :: aos, h => by
    simp only [ckOpers, Bool.and_eq_true] at h
    obtain ⟨h1, h2⟩ := ckOpers_length h.2
    refine ⟨by simp [h1], fun i o' ao' ho ha => ?_⟩
    cases i with
    | zero => simp at ho ha; subst ho; subst ha; exact h.1
    | succ i => exact h2 i o' ao' (by simpa using ho) (by simpa using ha)
  | [], _ :: _, h => by simp [ckOpers] at h
  | _ :: _, [], h => by simp [ckOpers] at h
theorem count_mvAt : ∀ (l : List AOper), (List.range l.length).countP (mvAt l) = l.countP AOper.mv := by
  intro l
  have : l.countP AOper.mv = (List.map (mvAt l) (List.range l.length)).countP id := by
    have h1 : List.map (mvAt l) (List.range l.length) = l.map AOper.mv := by
      apply List.ext_getElem
      · simp
      · intro i h1 h2
        simp at h1
        simp [mvAt, h1]
    rw [h1, List.countP_map]; rfl
  rw [this, List.countP_map]; rfl
theorem dregion_sim (hcall : CallOK P call) (hms : ckMeth P ms) (hmx : P.follows .mixedOrders = true) {id : Nat} {fr fr' : AFr} {a : Act} {H' : AHeap} {rs : List (AFr × AV)} {hs : List AHeap} {Q : Exit → Act → World → Prop}
    (hc : ckOpers P nt ops ops.toList l = true) (hcd : ckD ops l ws = true) (hrun : drun call ms l fr H = some (rs, hs, fr', H')) (hdc : dchk call ms hs l rs ws = true) (h : HS Z ρ H w) (hf : Fr nt ρ fr a)
    (hQ : ∀ ρ' a' w', Ext ρ ρ' → HS Z ρ' H' w' → Kp Z w w' → Fr nt ρ' fr' a' → Q .normal a' w') : (Code.region id ops true).wp P Q a w := by
  obtain ⟨hlen, hops⟩ := ckOpers_length hc
  have hlen' : ops.size = l.length := by simpa using hlen
  obtain ⟨r1, r2⟩ := drun_spec (hA := hs) (ws := ws) (s := 0) (k := 0) (l := l) rfl hrun rfl (by simpa using hdc)
  refine wp_region_any hmx ?_
  have hrep : ∀ j, (Array.replicate ops.size false).getD j false = false := fun j => by
    simp only [Array.getD_eq_getD_getElem?, Array.getElem?_replicate]; split <;> rfl
  have hunl : unl ops.size (Array.replicate ops.size false) = List.range ops.size := by
    unfold unl
    refine List.filter_eq_self.2 fun j hj => ?_
    have : j < ops.size := by simpa using hj
    simp [this]
  refine any_sim hcall hms hcd (fun i o ao ho hao => hops i o ao (by simpa using ho) hao) (hs := fun j => hs[j]?) (Hl := H') (fr' := fr') ?_ ops.size _ 0 fr ρ H _ a (by simp) (fun j o ho hj => by rw [hrep] at hj; cases hj) (by rw [hunl]; simp) (by rw [hunl]; simp) ?_ (drun_head hrun) (h.draw rfl) hf fun ρ' a' w' q1 q2 q3 q4 => hQ ρ' a' w' q1 q2 ⟨q3.os, q3.tape, q3.output, q3.size, q3.block⟩ q4
  · rw [hlen', count_mvAt]; simpa using r2
  · rw [hunl, List.range_eq_range', hlen']; exact r1
end
end Go.Proofs.YtbbjlbdmjikhbaaDoor.AA
namespace Go.Proofs.YtbbjlbdmjikhbaaDoor.AA
open Go Go.RowKit
section
variable {Z : Nat → Prop} {ρ : Rho} {H H' : AHeap} {w w' : World} {P : Program}
def ckCode (P : Program) (nt : Nat) : Code → ACode → Bool
  | .skip, .skip => true
  | .region _ ops d, ac => (match ac with | .region l => !d && ckOpers P nt ops ops.toList l | .dregion l ws => d && ckOpers P nt ops ops.toList l && ckD ops l ws | _ => false)
  | .seq x y, ac => (match ac with | .seq x' y' => ckCode P nt x x' && ckCode P nt y y' | _ => false)
  | .cond c x y, ac => (match ac with | .cond c' x' y' => ckO c c' && ckCode P nt x x' && ckCode P nt y y' | _ => false)
  | .block i c, ac => (match ac with | .block i' c' => i == i' && ckCode P nt c c' | _ => false)
  | .loop c, ac => (match ac with | .loop c' => ckCode P nt c c' | _ => false)
  | .exit i, ac => (match ac with | .exit i' => i == i' | _ => false)
  | .ret, ac => (match ac with | .ret => true | _ => false)
  | _, _ => false
def ckFunc (P : Program) (f : Nat) (fn : AFunc) : Bool := match P.funcs[f]? with
  | some g => g.name != "runtime.NumGoroutine" && (match g.body with | some c => ckCode P g.ntmps c fn.body | none => false) && ckRes P g.results.toList fn.results
  | none => false
def toEx : AEx → Exit
  | .normal => .normal
  | .exit i => .exit i
  | .ret => .ret
theorem get_initA (l : List AV) : ∀ (i : Nat) (t : AFr) (j : Nat), (initA i t l).get j = if i ≤ j ∧ j < i + l.length then l[j - i]? else t.get j := by
  induction l with
  | nil => intro i t j; simp [initA]; intro h1 h2; omega
  | cons v l ih =>
    intro i t j
    simp only [initA, ih, Tr.get_set]
    by_cases h : i ≤ j ∧ j < i + (v :: l).length
    · rw [if_pos h]
      by_cases he : i = j
      · subst he
        rw [if_neg (by omega), if_pos rfl]
        simp
      · simp at h
        rw [if_pos (by omega), show j - i = (j - (i + 1)) + 1 by omega]
        simp
    · rw [if_neg h]
      simp at h
      rw [if_neg (by omega), if_neg (by omega)]
theorem init_fr {args : List AV} {vs : Array Value} (hr : RL ρ args vs.toList) (nt : Nat) : Fr nt ρ (initA 0 .nil args) { tmps := vs ++ Array.replicate (nt - vs.size) undef, defers := [] } := by
  refine ⟨fun t v ht => ?_, by simp; omega, rfl⟩
  rw [get_initA] at ht
  split at ht
  · rw [Nat.sub_zero] at ht
    obtain ⟨u, hu, hru⟩ := hr.get ht
    have hu' : vs[t]? = some u := by simpa using hu
    refine ⟨u, ?_, hru⟩
    show (vs ++ _)[t]? = _
    rw [Array.getElem?_append_left (Array.getElem?_eq_some_iff.1 hu').1]
    exact hu'
  · simp [Tr.get] at ht
def resOf (tmps : Array Value) : ResultVar → Sem Value
  | .tmp t => pure (tmps.getD t undef)
  | .cell a t => do loadVar t (← asAddr (tmps.getD a undef))
theorem res_sim (h : HS Z ρ H w) {fr : AFr} {a : Act} (hf : RF ρ fr a) : ∀ {rs : List ResultVar} {rs' : List (Nat ⊕ (Nat × Nat × Bool))} {l : List AV}, ckRes P rs rs' = true → resA fr H rs' = some l → ∃ L, (rs.mapM (resOf a.tmps)).run P w = .ok L w ∧ RL ρ l L
  | [], [], l, _, hl => by simp [resA] at hl; subst hl; exact ⟨[], rfl, by simp only [RL]⟩
  | .tmp t :: rs, .inl t' :: rs', l, hc, hl => by
    simp only [ckRes, Bool.and_eq_true, beq_iff_eq] at hc
    obtain ⟨rfl, hc⟩ := hc
    simp only [resA] at hl
    split at hl
    · rename_i v hv
      split at hl
      · rename_i vs hvs
        cases hl
        obtain ⟨u, hu, hr⟩ := hf _ _ hv
        obtain ⟨L, q1, q2⟩ := res_sim h hf hc hvs
        refine ⟨u :: L, ?_, by simp only [RL]; exact ⟨u, L, rfl, hr, q2⟩⟩
        have : a.tmps.getD t undef = u := by simp [hu]
        simp only [List.mapM_cons, resOf, Sem.run_bind, Sem.run_pure, Result.andThen_ok, this, q1]
      · cases hl
    · cases hl
  | .cell b t :: rs, .inr (b', n, agg) :: rs', l, hc, hl => by
    simp only [ckRes, Bool.and_eq_true, beq_iff_eq] at hc
    obtain ⟨⟨⟨rfl, hs⟩, ha⟩, hc⟩ := hc
    simp only [resA] at hl
    split at hl
    · rename_i bb i hv
      split at hl
      · rename_i c hcl
        split at hl
        · rename_i v hva
          split at hl
          · rename_i vs hvs
            cases hl
            obtain ⟨u, hu, hr⟩ := hf _ _ hv
            obtain ⟨L, q1, q2⟩ := res_sim h hf hc hvs
            obtain ⟨x, p1, p2⟩ := load_sim hs ha h hr hcl hva
            simp only [R] at hr
            obtain ⟨g, o, N, -, rfl⟩ := hr
            refine ⟨x :: L, ?_, by simp only [RL]; exact ⟨x, L, rfl, p2, q2⟩⟩
            have : a.tmps.getD b undef = .pointer (some ⟨g, o + i, none⟩) := by simp [hu]
            have p1' : (loadVar t ⟨g, o + i, none⟩).run P w = .ok x w := p1
            simp only [List.mapM_cons, resOf, Sem.run_bind, Sem.run_pure, Result.andThen_ok, this, asAddr, p1', q1]
          · cases hl
        · cases hl
      · cases hl
    · cases hl
  | [], _ :: _, _, hc, _ => by simp [ckRes] at hc
  | .tmp _ :: _, [], _, hc, _ => by simp [ckRes] at hc
  | .cell _ _ :: _, [], _, hc, _ => by simp [ckRes] at hc
  | .tmp _ :: _, .inr _ :: _, _, hc, _ => by simp [ckRes] at hc
  | .cell _ _ :: _, .inl _ :: _, _, hc, _ => by simp [ckRes] at hc
theorem results_run {g : Func} {tmps : Array Value} {L : List Value} (h : (g.results.toList.mapM (resOf tmps)).run P w = .ok L w) : (results g tmps).run P w = .ok (if hs : L.toArray.size = 1 then L.toArray[0] else .tuple L.toArray) w := by
  unfold results
  rw [Array.mapM_eq_mapM_toList]
  have key : ∀ F : ResultVar → Sem Value, (∀ r, F r = resOf tmps r) → (List.mapM F g.results.toList).run P w = .ok L w := fun F hF => by rw [funext hF]; exact h
  simp only [Sem.run_bind, Sem.run_map]
  rw [key _ (fun r => by cases r <;> rfl)]
  rfl
theorem call_rec_ok {fs : Nat → Option AFunc} {ms : Meth} {ora : Rec} (hora : CallOK P ora) (hfs : ∀ f fn, fs f = some fn → ckFunc P f fn = true) {n : Nat}
    (ih : ∀ (nt : Nat) (c : Code) (ac : ACode) (fr : AFr) (H : AHeap) (ex : AEx) (fr' : AFr) (H' : AHeap), ckCode P nt c ac = true → runA fs ms ora n ac fr H = some (ex, fr', H') → ∀ (Z : Nat → Prop) (ρ : Rho) (w : World) (a : Act) (Q : Exit → Act → World → Prop), HS Z ρ H w → Fr nt ρ fr a →
      (∀ ρ' a' w', Ext ρ ρ' → HS Z ρ' H' w' → Kp Z w w' → Fr nt ρ' fr' a' → Q (toEx ex) a' w') → c.wp P Q a w) :
    CallOK P (fun f args H => match fs f with
      | none => ora f args H
      | some fn => match runA fs ms ora n fn.body (initA 0 .nil args) H with
        | some (.exit _, _, _) => none
        | some (_, fr, H) => (match resA fr H fn.results with
          | some [v] => some (v, H)
          | some vs => some (.tuple vs, H)
          | none => none)
        | none => none) := by
  intro f args H v H' he
  simp only at he
  split at he
  · exact hora f args H v H' he
  · rename_i fn hfn
    have hck := hfs f fn hfn
    unfold ckFunc at hck
    split at hck
    · rename_i g hg
      simp only [Bool.and_eq_true] at hck
      obtain ⟨⟨hn, hb⟩, hr⟩ := hck
      split at hb
      · rename_i c hbody
        refine ⟨⟨g, hg, by simpa using hn, by rw [hbody]; rfl⟩, fun Z ρ w vs h hvs => ?_⟩
        have fin : ∀ (ex : AEx) (fr : AFr), (∀ i, ex ≠ .exit i) → runA fs ms ora n fn.body (initA 0 .nil args) H = some (ex, fr, H') → (match resA fr H' fn.results with
            | some [v] => some (v, H')
            | some vs => some (.tuple vs, H')
            | none => none) = some (v, H') → Calls P f vs w (fun e w' => ∃ ρ' u, e = .returned u ∧ Ext ρ ρ' ∧ HS Z ρ' H' w' ∧ Kp Z w w' ∧ R ρ' v u) := by
          intro ex fr hex hrun hres
          refine calls_of_wp hg hbody ?_
          refine ih g.ntmps c fn.body _ H ex fr H' hb hrun Z ρ w _ _ h (init_fr hvs _) fun ρ' a' w' q1 q2 q3 q4 => ?_
          have hpost : a'.defers = [] ∧ ∃ u, (results g a'.tmps).run P w' = .ok u w' ∧ ∃ ρ' u', Ending.returned u = .returned u' ∧ Ext ρ ρ' ∧ HS Z ρ' H' w' ∧ Kp Z w w' ∧ R ρ' v u' := by
            refine ⟨q4.defers, ?_⟩
            split at hres
            · rename_i x hx
              simp only [Option.some.injEq, Prod.mk.injEq] at hres
              obtain ⟨rfl, -⟩ := hres
              obtain ⟨L, p1, p2⟩ := res_sim (P := P) q2 q4.rf hr hx
              simp only [RL] at p2
              obtain ⟨u, L', rfl, p3, rfl⟩ := p2
              exact ⟨_, results_run p1, ρ', u, rfl, q1, q2, q3, p3⟩
            · rename_i l hne hx
              simp only [Option.some.injEq, Prod.mk.injEq] at hres
              obtain ⟨rfl, -⟩ := hres
              obtain ⟨L, p1, p2⟩ := res_sim (P := P) q2 q4.rf hr hx
              refine ⟨_, results_run p1, ρ', .tuple L.toArray, ?_, q1, q2, q3, by simp only [R]; exact ⟨_, rfl, by simpa using p2⟩⟩
              have hl := p2.length
              rw [dif_neg]
              intro h1
              have : l.length = 1 := by simp at h1; omega
              match l, this with
              | [x], _ => exact hne x rfl
            · cases hres
          cases ex with
          | normal => exact hpost
          | ret => exact hpost
          | exit i => exact absurd rfl (hex i)
        split at he
        · cases he
        · rename_i ex fr H2 hne hrun
          have : H2 = H' := by
            split at he <;> first | (simp only [Option.some.injEq, Prod.mk.injEq] at he; exact he.2) | cases he
          subst this
          exact fin ex fr (fun i e => by subst e; exact hne i rfl) hrun he
        · cases he
      · cases hb
    · cases hck
theorem code_sim (hmx : P.follows .mixedOrders = true) {fs : Nat → Option AFunc} {ms : Meth} {ora : Rec} (hora : CallOK P ora) (hfs : ∀ f fn, fs f = some fn → ckFunc P f fn = true) (hms : ckMeth P ms) : ∀ (n nt : Nat) (c : Code) (ac : ACode) (fr : AFr) (H : AHeap) (ex : AEx) (fr' : AFr) (H' : AHeap), ckCode P nt c ac = true → runA fs ms ora n ac fr H = some (ex, fr', H') → ∀ (Z : Nat → Prop) (ρ : Rho) (w : World) (a : Act) (Q : Exit → Act → World → Prop), HS Z ρ H w → Fr nt ρ fr a →
      (∀ ρ' a' w', Ext ρ ρ' → HS Z ρ' H' w' → Kp Z w w' → Fr nt ρ' fr' a' → Q (toEx ex) a' w') → c.wp P Q a w := by
  intro n
  induction n using Nat.strongRecOn with
  | ind n ihs =>
    intro nt c ac fr H ex fr' H' hc he Z ρ w a Q h hf hQ
    cases n with
    | zero => simp [runA] at he
    | succ n =>
    have ih := ihs n (Nat.lt_succ_self n)
    have hcall := call_rec_ok hora hfs ih
    unfold runA at he
    unfold ckCode at hc
    split at hc
    · simp only [Option.some.injEq, Prod.mk.injEq] at he
      obtain ⟨rfl, rfl, rfl⟩ := he
      exact wp_skip (hQ ρ a w (Ext.refl _) h (Kp.refl _ _) hf)
    · rename_i id ops d
      split at hc
      · rename_i l
        simp only [Bool.and_eq_true, Bool.not_eq_true'] at hc
        obtain ⟨rfl, hc⟩ := hc
        simp only at he
        split at he
        · rename_i fr1 H1 hops
          simp only [Option.some.injEq, Prod.mk.injEq] at he
          obtain ⟨rfl, rfl, rfl⟩ := he
          refine wp_region ?_
          rw [List.range_eq_range']
          have := ops_sim hcall hms (Q := Q) 0 l (by simpa using hc) h hf hops hQ
          simpa using this
        · cases he
      · rename_i l ws
        simp only [Bool.and_eq_true] at hc
        obtain ⟨⟨rfl, hc⟩, hcd⟩ := hc
        simp only at he
        split at he
        · rename_i rs hs fr1 H1 hrun
          rw [Bool.cond_eq_ite] at he
          split at he
          case isFalse => cases he
          rename_i hdc
          simp only [Option.some.injEq, Prod.mk.injEq] at he
          obtain ⟨rfl, rfl, rfl⟩ := he
          exact dregion_sim hcall hms hmx hc hcd hrun hdc h hf hQ
        · cases he
      · cases hc
    · rename_i x y
      split at hc
      · rename_i x' y'
        simp only [Bool.and_eq_true] at hc
        simp only at he
        refine wp_seq ?_
        split at he
        · rename_i fr1 H1 h1
          refine ih nt x x' fr H .normal fr1 H1 hc.1 h1 Z ρ w a _ h hf fun ρ1 a1 w1 q1 q2 q3 q4 => ?_
          exact ih nt y y' fr1 H1 ex fr' H' hc.2 he Z ρ1 w1 a1 Q q2 q4 fun ρ2 a2 w2 p1 p2 p3 p4 => hQ ρ2 a2 w2 (q1.trans p1) p2 (q3.trans p3) p4
        · rename_i r hne
          refine ih nt x x' fr H ex fr' H' hc.1 he Z ρ w a _ h hf fun ρ1 a1 w1 q1 q2 q3 q4 => ?_
          cases ex with
          | normal => exact absurd he (hne _ _)
          | exit i => exact hQ ρ1 a1 w1 q1 q2 q3 q4
          | ret => exact hQ ρ1 a1 w1 q1 q2 q3 q4
      · cases hc
    · rename_i c x y
      split at hc
      · rename_i c' x' y'
        simp only [Bool.and_eq_true] at hc
        simp only at he
        split at he
        · rename_i hcv
          have := ckO_R hc.1.1 hf.rf hcv
          simp only [R] at this
          exact wp_cond_true this (ih nt x x' fr H ex fr' H' hc.1.2 he Z ρ w a Q h hf hQ)
        · rename_i hcv
          have := ckO_R hc.1.1 hf.rf hcv
          simp only [R] at this
          exact wp_cond_false this (ih nt y y' fr H ex fr' H' hc.2 he Z ρ w a Q h hf hQ)
        · cases he
      · cases hc
    · rename_i id c
      split at hc
      · rename_i i' c'
        simp only [Bool.and_eq_true, beq_iff_eq] at hc
        obtain ⟨rfl, hc⟩ := hc
        simp only at he
        refine wp_block ?_
        split at he
        · rename_i j fr1 H1 h1
          refine ih nt c c' fr H (.exit j) fr1 H1 hc h1 Z ρ w a _ h hf fun ρ1 a1 w1 q1 q2 q3 q4 => ?_
          show (if j = id then Q .normal a1 w1 else Q (.exit j) a1 w1)
          by_cases hj : j = id
          · rw [if_pos hj]
            rw [nbt hj] at he
            simp only [cond_true, Option.some.injEq, Prod.mk.injEq] at he
            obtain ⟨rfl, rfl, rfl⟩ := he
            exact hQ ρ1 a1 w1 q1 q2 q3 q4
          · rw [if_neg hj]
            rw [nbf hj] at he
            simp only [cond_false, Option.some.injEq, Prod.mk.injEq] at he
            obtain ⟨rfl, rfl, rfl⟩ := he
            exact hQ ρ1 a1 w1 q1 q2 q3 q4
        · rename_i r hne
          refine ih nt c c' fr H ex fr' H' hc he Z ρ w a _ h hf fun ρ1 a1 w1 q1 q2 q3 q4 => ?_
          cases ex with
          | normal => exact hQ ρ1 a1 w1 q1 q2 q3 q4
          | exit i => exact absurd he (hne _ _ _)
          | ret => exact hQ ρ1 a1 w1 q1 q2 q3 q4
      · cases hc
    · rename_i c
      split at hc
      · rename_i c'
        simp only at he
        have key : ∀ (m : Nat) (fr : AFr) (H : AHeap) (ρ : Rho) (w : World) (a : Act) (Q : Exit → Act → World → Prop), m ≤ n + 1 → runA fs ms ora m (.loop c') fr H = some (ex, fr', H') → HS Z ρ H w → Fr nt ρ fr a → (∀ ρ' a' w', Ext ρ ρ' → HS Z ρ' H' w' → Kp Z w w' → Fr nt ρ' fr' a' → Q (toEx ex) a' w') →
            Code.rounds P c Q m a w := by
          intro m
          induction m with
          | zero => intro fr H ρ w a Q hm he; simp [runA] at he
          | succ m ihm =>
            intro fr H ρ w a Q hm he h hf hQ
            rw [rounds_succ]
            unfold runA at he
            simp only at he
            split at he
            · rename_i fr1 H1 h1
              refine ihs m (by omega) nt c c' fr H .normal fr1 H1 hc h1 Z ρ w a _ h hf fun ρ1 a1 w1 q1 q2 q3 q4 => ?_
              exact ihm fr1 H1 ρ1 w1 a1 Q (by omega) he q2 q4 fun ρ2 a2 w2 p1 p2 p3 p4 => hQ ρ2 a2 w2 (q1.trans p1) p2 (q3.trans p3) p4
            · rename_i r hne
              refine ihs m (by omega) nt c c' fr H ex fr' H' hc he Z ρ w a _ h hf fun ρ1 a1 w1 q1 q2 q3 q4 => ?_
              cases ex with
              | normal => exact absurd he (hne _ _)
              | exit i => exact hQ ρ1 a1 w1 q1 q2 q3 q4
              | ret => exact hQ ρ1 a1 w1 q1 q2 q3 q4
        refine wp_loop_rounds (n + 1) (key (n + 1) fr H ρ w a Q (Nat.le_refl _) ?_ h hf hQ)
        rw [← he]; conv => lhs; unfold runA
      · cases hc
    · split at hc
      · rename_i i _ i'
        have : i = i' := by simpa using hc
        subst this
        simp only [Option.some.injEq, Prod.mk.injEq] at he
        obtain ⟨rfl, rfl, rfl⟩ := he
        exact wp_exit (hQ ρ a w (Ext.refl _) h (Kp.refl _ _) hf)
      · cases hc
    · split at hc
      · simp only [Option.some.injEq, Prod.mk.injEq] at he
        obtain ⟨rfl, rfl, rfl⟩ := he
        exact wp_ret (hQ ρ a w (Ext.refl _) h (Kp.refl _ _) hf)
      · cases hc
    · cases hc
end
end Go.Proofs.YtbbjlbdmjikhbaaDoor.AA
namespace Go.Proofs.YtbbjlbdmjikhbaaDoor.AA
open Go Go.RowKit
/-! From a run of the machine to a call. -/
def noOra : Rec := fun _ _ _ => none
def noM : Meth := fun _ _ => none
theorem noOra_ok {P : Program} : CallOK P noOra := fun _ _ _ _ _ h => by cases h
theorem noM_ok {P : Program} : ckMeth P noM := fun _ _ _ _ h => by cases h
def Tr.allT {α : Type} (p : Nat → α → Bool) : (Nat → Nat) → Tr α → Bool
  | _, .nil => true
  | k, .node l v r => (match v with | some x => p (k 0) x | none => true) && Tr.allT p (fun i => k (2 * i + 1)) l && Tr.allT p (fun i => k (2 * i + 2)) r
theorem Tr.allT_get {α : Type} {p : Nat → α → Bool} : ∀ {t : Tr α} {k : Nat → Nat} {i : Nat} {v : α}, Tr.allT p k t = true → t.get i = some v → p (k i) v = true
  | .nil, _, _, _, _, h => by simp [Tr.get] at h
  | .node l x r, k, i, v, ha, h => by
    simp only [Tr.allT, Bool.and_eq_true] at ha
    obtain ⟨⟨h1, h2⟩, h3⟩ := ha
    unfold Tr.get at h
    rw [Bool.cond_eq_ite, Bool.cond_eq_ite] at h
    split at h
    · rename_i h0
      have : i = 0 := by simpa using h0
      subst this; subst h; exact h1
    · rename_i h0
      have h0' : i ≠ 0 := by simpa using h0
      split at h
      · rename_i hb
        have hb' : i % 2 = 1 := by simpa using hb
        have := Tr.allT_get h2 h
        rwa [show 2 * (i / 2) + 1 = i by omega] at this
      · rename_i hb
        have hb' : i % 2 ≠ 1 := by simpa using hb
        have := Tr.allT_get h3 h
        rwa [show 2 * (i / 2 - 1) + 2 = i by omega] at this
section
variable {Z : Nat → Prop} {ρ : Rho} {H H' : AHeap} {w w' : World} {P : Program} {fs : Nat → Option AFunc} {ms : Meth} {ora : Rec}
theorem Fr.sub {nt : Nat} {fr fr2 : AFr} {a : Act} (h : Fr nt ρ fr a) (hs : ∀ t v, fr2.get t = some v → fr.get t = some v) : Fr nt ρ fr2 a :=
  ⟨fun t v ht => h.rf t v (hs t v ht), h.size, h.defers⟩
theorem ckCode_seq {nt : Nat} {c : Code} {A B : ACode} (h : ckCode P nt c (.seq A B) = true) : ∃ x y, c = .seq x y ∧ ckCode P nt x A = true ∧ ckCode P nt y B = true := by
  cases c with
  | seq x y =>
    simp only [ckCode, Bool.and_eq_true] at h
    exact ⟨x, y, rfl, h.1, h.2⟩
  | _ => simp [ckCode] at h
theorem step_sim (hmx : P.follows .mixedOrders = true) (hora : CallOK P ora) (hfs : ∀ f fn, fs f = some fn → ckFunc P f fn = true) (hms : ckMeth P ms) {n nt : Nat} {A B : ACode} {c : Code} {fr fr1 : AFr} {H1 : AHeap} {a : Act} {Q : Exit → Act → World → Prop}
    (hc : ckCode P nt c (.seq A B) = true) (he : runA fs ms ora n A fr H = some (.normal, fr1, H1)) (h : HS Z ρ H w) (hf : Fr nt ρ fr a)
    (K : ∀ y ρ1 w1 a1, ckCode P nt y B = true → Ext ρ ρ1 → HS Z ρ1 H1 w1 → Kp Z w w1 → Fr nt ρ1 fr1 a1 → y.wp P Q a1 w1) : c.wp P Q a w := by
  obtain ⟨x, y, rfl, h1, h2⟩ := ckCode_seq hc
  refine wp_seq ?_
  exact code_sim hmx hora hfs hms n nt x A fr H .normal fr1 H1 h1 he Z ρ w a _ h hf fun ρ1 a1 w1 q1 q2 q3 q4 => K y ρ1 w1 a1 h2 q1 q2 q3 q4
theorem calls_of_code {f : Nat} {fn : AFunc} (hck : ckFunc P f fn = true) {args : List AV} {vs : Array Value} (hargs : RL ρ args vs.toList) (post : Value → World → Prop)
    (hb : ∀ c nt a Q, ckCode P nt c fn.body = true → Fr nt ρ (initA 0 .nil args) a → (∀ ex a' w' ρ' fr' H' v, (ex = .ret ∨ ex = .normal) → HS Z ρ' H' w' → Fr nt ρ' fr' a' → resA fr' H' fn.results = some [v] → (∀ u, R ρ' v u → post u w') → Q ex a' w') → c.wp P Q a w) :
    Calls P f vs w fun e w' => ∃ u, e = .returned u ∧ post u w' := by
  unfold ckFunc at hck
  split at hck
  · rename_i g hg
    simp only [Bool.and_eq_true] at hck
    obtain ⟨⟨hn, hbd⟩, hr⟩ := hck
    split at hbd
    · rename_i c hbody
      refine calls_of_wp hg hbody ?_
      refine hb c g.ntmps _ _ hbd (init_fr hargs _) fun ex a' w' ρ' fr' H' v hex q2 q4 hres hpost => ?_
      have hfin : a'.defers = [] ∧ ∃ u, (results g a'.tmps).run P w' = .ok u w' ∧ ∃ u', Ending.returned u = .returned u' ∧ post u' w' := by
        refine ⟨q4.defers, ?_⟩
        obtain ⟨L, p1, p2⟩ := res_sim (P := P) q2 q4.rf hr hres
        simp only [RL] at p2
        obtain ⟨u, L', rfl, p3, rfl⟩ := p2
        exact ⟨_, results_run p1, u, rfl, hpost u p3⟩
      rcases hex with rfl | rfl
      · exact hfin
      · exact hfin
    · cases hbd
  · cases hck
theorem HS.empty (w : World) : HS (fun k => k < w.heap.size) (fun _ => none) ⟨0, .nil⟩ w := by
  have hg : ∀ b, (⟨0, .nil⟩ : AHeap).get b = .dead := fun b => by simp [AHeap.get, Tr.get]
  exact ⟨fun b x h => (by cases h), fun b c n own par h => (by rw [hg] at h; cases h), fun b es k h => (by rw [hg] at h; cases h), fun b c n par h => (by rw [hg] at h; cases h), fun b es k h => (by rw [hg] at h; cases h), fun k h => h⟩
/-- A call that leaves every block that stood leaves the simulation. -/
theorem HS.keep (h : HS Z ρ H w) (k : Kp (fun k => k < w.heap.size) w w') : HS Z ρ H w' := by
  have hb : ∀ g x, w.heap[g]? = some x → w'.heap[g]? = some x := fun g x hg => by
    have hl : g < w.heap.size := (Array.getElem?_eq_some_iff.1 hg).1
    rw [k.block g hl hl]; exact hg
  refine ⟨fun b x hx => ⟨(h.dom b x hx).1, trivial⟩, fun b c n own par hc => ?_, fun b es c hc => ?_, h.own, h.mapown, fun j hj => Nat.lt_of_lt_of_le (h.zb j hj) k.size⟩
  · obtain ⟨g, o, N, h1, h2, h3, C, e, fz, h4, h5⟩ := h.cells b c n own par hc
    exact ⟨g, o, N, h1, h2, h3, C, e, fz, hb _ _ h4, h5⟩
  · obtain ⟨g, o, N, h1, h2, E, h3, h4⟩ := h.maps b es c hc
    exact ⟨g, o, N, h1, h2, E, hb _ _ h3, h4⟩
theorem Kp.sub {Z' : Nat → Prop} (k : Kp Z w w') (hz : ∀ j, Z' j → Z j) : Kp Z' w w' := ⟨k.os, k.tape, k.output, k.size, fun j hj hz' => k.block j hj (hz j hz')⟩
/-- A closed function's answer, from any world. -/
theorem closed_call (hmx : P.follows .mixedOrders = true) (hora : CallOK P ora) (hfs : ∀ f fn, fs f = some fn → ckFunc P f fn = true) (hms : ckMeth P ms) {f : Nat} {fn : AFunc} (hck : ckFunc P f fn = true) {n : Nat} {b : Bool}
    (he : (match runA fs ms ora n fn.body .nil ⟨0, .nil⟩ with
      | some (.exit _, _, _) => false
      | some (_, fr, H) => (match resA fr H fn.results with | some [.bool c] => c == b | _ => false)
      | none => false) = true) (w : World) :
    Calls P f #[] w fun e w' => e = .returned (.bool b) ∧ Kp (fun k => k < w.heap.size) w w' := by
  have key := calls_of_code (Z := fun k => k < w.heap.size) (ρ := fun _ => none) hck (args := []) (vs := #[]) (w := w) (by simp only [RL])
    (fun u w' => u = .bool b ∧ Kp (fun k => k < w.heap.size) w w') (fun c nt a Q hc hf hQ => by
      split at he
      · cases he
      · rename_i ex fr H' hne hr
        refine code_sim hmx hora hfs hms n nt c fn.body _ _ ex fr H' hc hr (fun k => k < w.heap.size) (fun _ => none) w a Q (HS.empty w) hf fun ρ' a' w' q1 q2 q3 q4 => ?_
        split at he
        · rename_i c' hres
          have : c' = b := by simpa using he
          subst this
          refine hQ (toEx ex) a' w' ρ' fr H' _ ?_ q2 q4 hres fun u hu => ⟨by simpa only [R] using hu, q3⟩
          cases ex with
          | normal => exact .inr rfl
          | ret => exact .inl rfl
          | exit i => exact absurd rfl (hne i)
        · cases he
      · cases he)
  refine key.mono ?_
  rintro e w' ⟨u, rfl, rfl, k⟩
  exact ⟨rfl, k⟩
/-- The answer of a closed function, to be used by others. -/
theorem closed_ok {f : Nat} {g : Func} (hg : P.funcs[f]? = some g) (hn : (g.name == "runtime.NumGoroutine") = false) (hb : g.body.isNone = false) {b : Bool} (hc : ∀ w, Calls P f #[] w fun e w' => e = .returned (.bool b) ∧ Kp (fun k => k < w.heap.size) w w')
    {args : List AV} {v : AV} {H' : AHeap} (ha : args = []) (hv : v = .bool b) (hH : H' = H) : (∃ g, P.funcs[f]? = some g ∧ (g.name == "runtime.NumGoroutine") = false ∧ g.body.isNone = false) ∧
  ∀ Z ρ w (vs : Array Value), HS Z ρ H w → RL ρ args vs.toList → Calls P f vs w (fun e w' => ∃ ρ' u, e = .returned u ∧ Ext ρ ρ' ∧ HS Z ρ' H' w' ∧ Kp Z w w' ∧ R ρ' v u) := by
  subst ha; subst hv; subst hH
  refine ⟨⟨g, hg, hn, hb⟩, fun Z ρ w vs h hr => ?_⟩
  simp only [RL] at hr
  obtain rfl : vs = #[] := by cases vs; simp_all
  refine (hc w).mono ?_
  rintro e w' ⟨rfl, k⟩
  exact ⟨ρ, _, rfl, Ext.refl _, h.keep k, k.sub h.zb, by simp only [R]⟩
end
end Go.Proofs.YtbbjlbdmjikhbaaDoor.AA
namespace Go.Proofs.YtbbjlbdmjikhbaaDoor.AA
open Go Go.RowKit
/-! A loop cut at its rounds: each round starts from a frame of few numbers and an empty heap. -/
def frOf : List (Nat × AV) → AFr
  | [] => .nil
  | (t, v) :: l => (frOf l).set t (some v)
def scalB : AV → Bool
  | .bool _ => true
  | .int _ _ => true
  | _ => false
def hasAll (fr : AFr) : List (Nat × AV) → Bool
  | [] => true
  | (t, v) :: l => (match fr.get t with | some u => scalB v && eqAV v u | none => false) && hasAll fr l
def roundOK (fs : Nat → Option AFunc) (ms : Meth) (ora : Rec) (n : Nat) (B : ACode) (l l' : List (Nat × AV)) : Bool := match runA fs ms ora n B (frOf l) ⟨0, .nil⟩ with
  | some (.normal, fr, _) => hasAll fr l'
  | _ => false
def lastOK (fs : Nat → Option AFunc) (ms : Meth) (ora : Rec) (n : Nat) (B : ACode) (i : Nat) (l l' : List (Nat × AV)) : Bool := match runA fs ms ora n B (frOf l) ⟨0, .nil⟩ with
  | some (.exit j, fr, _) => j.beq i && hasAll fr l'
  | _ => false
theorem hasAll_get {fr : AFr} : ∀ {l : List (Nat × AV)}, hasAll fr l = true → ∀ t v, (frOf l).get t = some v → fr.get t = some v ∧ scalB v = true
  | [], _, t, v, h => by simp [frOf, Tr.get] at h
  | (s, u) :: l, ha, t, v, h => by
    simp only [hasAll, Bool.and_eq_true] at ha
    simp only [frOf, Tr.get_set] at h
    split at h
    · rename_i e
      subst e
      obtain rfl : u = v := Option.some.inj h
      obtain ⟨h1, -⟩ := ha
      split at h1
      · rename_i x hx
        simp only [Bool.and_eq_true] at h1
        rw [eqAV_eq _ _ h1.2]
        rw [eqAV_eq _ _ h1.2] at h1
        exact ⟨hx, h1.1⟩
      · cases h1
    · exact hasAll_get ha.2 t v h
theorem scal_R {ρ ρ' : Rho} {v : AV} {u : Value} (h : scalB v = true) (hr : R ρ v u) : R ρ' v u := by
  cases v <;> simp only [scalB, Bool.false_eq_true] at h <;> simpa only [R] using hr
section
variable {Z : Nat → Prop} {ρ : Rho} {H H' : AHeap} {w w' : World} {P : Program} {fs : Nat → Option AFunc} {ms : Meth} {ora : Rec}
def rho0 : Rho := fun _ => none
/-- A frame of numbers is a frame of numbers anywhere. -/
theorem Fr.nums {nt : Nat} {fr : AFr} {l : List (Nat × AV)} {a : Act} (h : Fr nt ρ fr a) (hl : hasAll fr l = true) : Fr nt rho0 (frOf l) a := by
  refine ⟨fun t v ht => ?_, h.size, h.defers⟩
  obtain ⟨h1, h2⟩ := hasAll_get hl t v ht
  obtain ⟨u, hu, hr⟩ := h.rf t v h1
  exact ⟨u, hu, scal_R h2 hr⟩
theorem loop_cut (hmx : P.follows .mixedOrders = true) (hora : CallOK P ora) (hfs : ∀ f fn, fs f = some fn → ckFunc P f fn = true) (hms : ckMeth P ms) {n nt i N : Nat} {B : ACode} {c : Code} {a : Act} {Q : Exit → Act → World → Prop} {L : Nat → List (Nat × AV)} {L' : List (Nat × AV)}
    (hc : ckCode P nt c (.loop B) = true) (hr : ∀ j, j < N → roundOK fs ms ora n B (L j) (L (j + 1)) = true) (hl : lastOK fs ms ora n B i (L N) L' = true) (hf : Fr nt rho0 (frOf (L 0)) a)
    (hQ : ∀ a' w', Kp (fun k => k < w.heap.size) w w' → Fr nt rho0 (frOf L') a' → Q (.exit i) a' w') : c.wp P Q a w := by
  cases c with
  | loop c =>
    simp only [ckCode] at hc
    have key : ∀ m j a w1, j + m = N → Fr nt rho0 (frOf (L j)) a → Kp (fun k => k < w.heap.size) w w1 → Code.rounds P c Q (m + 1) a w1 := by
      intro m
      induction m with
      | zero =>
        intro j a w1 hj hf hk
        obtain rfl : j = N := by omega
        rw [rounds_succ]
        unfold lastOK at hl
        split at hl
        · rename_i i' fr H' hrun
          simp only [Bool.and_eq_true] at hl
          have : i' = i := by simpa using hl.1
          subst this
          exact code_sim hmx hora hfs hms n nt c B (frOf (L j)) ⟨0, .nil⟩ (.exit i') fr H' hc hrun (fun k => k < w1.heap.size) rho0 w1 a _ (HS.empty w1) hf fun ρ' a' w' q1 q2 q3 q4 =>
            hQ a' w' (hk.trans (q3.sub fun k hk' => Nat.lt_of_lt_of_le hk' hk.size)) (q4.nums hl.2)
        · cases hl
      | succ m ih =>
        intro j a w1 hj hf hk
        rw [rounds_succ]
        have h1 := hr j (by omega)
        unfold roundOK at h1
        split at h1
        · rename_i fr H' hrun
          exact code_sim hmx hora hfs hms n nt c B (frOf (L j)) ⟨0, .nil⟩ .normal fr H' hc hrun (fun k => k < w1.heap.size) rho0 w1 a _ (HS.empty w1) hf fun ρ' a' w' q1 q2 q3 q4 =>
            ih (j + 1) a' w' (by omega) (q4.nums h1) (hk.trans (q3.sub fun k hk' => Nat.lt_of_lt_of_le hk' hk.size))
        · cases h1
    exact wp_loop_rounds (N + 1) (key N 0 a w (by omega) hf (Kp.refl _ _))
  | _ => simp [ckCode] at hc
end
end Go.Proofs.YtbbjlbdmjikhbaaDoor.AA
