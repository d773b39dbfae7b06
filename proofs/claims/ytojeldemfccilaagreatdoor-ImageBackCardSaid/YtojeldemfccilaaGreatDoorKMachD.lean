/- Functions follow the machine. -/
import Derived.Test.YtojeldemfccilaaGreatDoorKMachC
import Derived.Orders
import Derived.LoopN
set_option linter.unusedSimpArgs false
set_option linter.unusedVariables false
namespace Go.Proofs.YtojeldemfccilaaGreatDoor.AA
open Go Go.RowKit
section
variable {Z : Nat → Prop} {ρ : Rho} {H H' : AHeap} {w w' : World} {P : Program}
def ckCall (c : Call) (ao : AOp) : Bool := match c.callee with
  | .value f => (match ao with
    | .call g xs => (match f with | .func h => h == g | _ => false) && ckOs c.args.toList xs
    | .callV f' xs => ckO f f' && ckOs c.args.toList xs
    | _ => false)
  | .invoke r n => (match ao with
    | .invoke r' n' xs => ckO r r' && n == n' && ckOs c.args.toList xs
    | _ => false)
  | _ => false
def ckOp2 (P : Program) (op : Op) (ao : AOp) : Bool := ckOp P op ao || (match op with | .call c => ckCall c ao | _ => false)
def ckGuard (ops : Array Oper) : Option (Nat × Bool) → Option (Nat × Bool) → Bool
  | none, none => true
  | some (j, b), some (t, b') => b == b' && (ops[j]?).bind (·.dst) == some t
  | _, _ => false
def ckOper (P : Program) (nt : Nat) (ops : Array Oper) (o : Oper) (ao : AOper) : Bool :=
  o.dst == ao.dst && o.dst.all (fun d => decide (d < nt)) && ckOp2 P o.op ao.op && ckGuard ops o.guard ao.guard
def ckOpers (P : Program) (nt : Nat) (ops : Array Oper) : List Oper → List AOper → Bool
  | [], [] => true
  | o :: os, ao :: aos => ckOper P nt ops o ao && ckOpers P nt ops os aos
  | _, _ => false
def ckRes (P : Program) : List ResultVar → List (Nat ⊕ (Nat × Nat × Bool)) → Bool
  | [], [] => true
  | .tmp t :: l, .inl t' :: l' => t == t' && ckRes P l l'
  | .cell a t :: l, .inr (a', n, agg) :: l' => a == a' && ckSz P t n && ckAg P t agg && ckRes P l l'
  | _, _ => false
def ckMeth (P : Program) (ms : Meth) : Prop := ∀ t n f o, ms t n = some (f, o) → ∀ (v : AV) (V : Value) (Z : Nat → Prop) (ρ : Rho) (H : AHeap) (w : World), HS Z ρ H w → R ρ v V →
  (o = none → (method (P.types.size + Made.depth) t V n).run P w = .ok (f, V) w) ∧
  (∀ off b i p, o = some off → v = .ptr (some (b, i)) → loadA H b (i + off) 1 = some [p] → ∃ p', (method (P.types.size + Made.depth) t V n).run P w = .ok (f, p') w ∧ R ρ p p')
def CallOK (P : Program) (call : Rec) : Prop := ∀ f args H v H', call f args H = some (v, H') → (∃ g, P.funcs[f]? = some g ∧ (g.name == "runtime.NumGoroutine") = false ∧ g.body.isNone = false) ∧
  ∀ Z ρ w (vs : Array Value), HS Z ρ H w → RL ρ args vs.toList → Calls P f vs w (fun e w' => ∃ ρ' u, e = .returned u ∧ Ext ρ ρ' ∧ HS Z ρ' H' w' ∧ Kp Z w w' ∧ R ρ' v u)
theorem run_callFunc {f : Nat} {g : Func} (hg : P.funcs[f]? = some g) (hn : (g.name == "runtime.NumGoroutine") = false) (hb : g.body.isNone = false) (vs : Array Value) (w : World) : (callFunc f vs).run P w = .ok (.enter f vs) w := by
  simp only [callFunc, Sem.run_bind, run_program, Result.andThen_ok, hg, hn, hb, Bool.false_eq_true, if_false, Sem.run_pure]
theorem oper_sim {call : Rec} {ms : Meth} (hcall : CallOK P call) (hms : ckMeth P ms) {o : Oper} {ao : AOp} (hc : ckOp2 P o.op ao = true) (h : HS Z ρ H w) {fr : AFr} {a : Act} (hf : RF ρ fr a) {v : AV} (he : exA call ms ao fr H = some (v, H')) {K : Act → World → Prop} {Q : Exit → Act → World → Prop}
    (hK : ∀ ρ' u w', Ext ρ ρ' → HS Z ρ' H' w' → Kp Z w w' → R ρ' v u → K (a.put o.dst u) w') : o.wp P a w K Q := by
  simp only [ckOp2, Bool.or_eq_true] at hc
  rcases hc with hc | hc
  · obtain ⟨ρ', w', nx, u, q1, q2, q3, q4, q5, q6⟩ := op_sim hc h hf he
    unfold Oper.wp
    rw [q1]
    rcases q2 with rfl | ⟨rfl, rfl⟩
    · exact hK ρ' u w' q3 q4 q5 q6
    · exact hK ρ' undef w' q3 q4 q5 q6
  · have key : ∀ (f : Nat) (args : List AV) (vs : Array Value), call f args H = some (v, H') → RL ρ args vs.toList → (execOp a.eval o).run P w = (callFunc f vs).run P w → o.wp P a w K Q := by
      intro f args vs h1 h2 h3
      obtain ⟨⟨g, g1, g2, g3⟩, hC⟩ := hcall f args H v H' h1
      unfold Oper.wp
      rw [h3, run_callFunc g1 g2 g3]
      refine (hC Z ρ w vs h h2).mono ?_
      rintro e w' ⟨ρ', u, rfl, q1, q2, q3, q4⟩
      exact hK ρ' u w' q1 q2 q3 q4
    split at hc
    · rename_i c ho
      unfold ckCall at hc
      split at hc
      · rename_i fo hcal
        split at hc
        · rename_i g xs
          simp only [Bool.and_eq_true] at hc
          obtain ⟨hc1, hc2⟩ := hc
          split at hc1
          · rename_i f
            have : f = g := by simpa using hc1
            subst this
            simp only [exA] at he
            split at he
            · rename_i l hl
              have hargs := ckOs_R hc2 hf hl
              refine key f l (c.args.map a.eval) he (by simpa using hargs) ?_
              unfold execOp
              simp only [ho, resolve, hcal, Deferred.ofValue, Act.eval, invoke]
              simp
            · cases he
          · cases hc1
        · rename_i f' xs
          simp only [Bool.and_eq_true] at hc
          simp only [exA] at he
          split at he
          · rename_i f x y l hfv hl
            have hargs := ckOs_R hc.2 hf hl
            have hF := ckO_R hc.1 hf hfv
            simp only [R] at hF
            obtain ⟨x', y', hF, hx, hy⟩ := hF
            refine key f (x ++ l ++ y) (x' ++ c.args.map a.eval ++ y') he ?_ ?_
            · simp only [Array.toList_append, Array.toList_map]
              exact (hx.append hargs).append hy
            · unfold execOp
              simp only [ho, resolve, hcal, hF, Deferred.ofValue, invoke]
              simp
          · cases he
        · cases hc
      · rename_i r n hcal
        split at hc
        · rename_i r' n' xs
          simp only [Bool.and_eq_true, beq_iff_eq] at hc
          obtain ⟨⟨hr, rfl⟩, hx⟩ := hc
          simp only [exA] at he
          split at he
          · rename_i t v0 l hrv hl
            have hargs := ckOs_R hx hf hl
            have hR := ckO_R hr hf hrv
            simp only [R] at hR
            obtain ⟨V, hV, hVR⟩ := hR
            have hexec : (execOp a.eval o).run P w = ((method (P.types.size + Made.depth) t V n).run P w).andThen fun p w' => (callFunc p.1 (#[p.2] ++ c.args.map a.eval)).run P w' := by
              unfold execOp
              have h0 : (#[Value.iface t V] ++ Array.map a.eval c.args)[0]? = some (Value.iface t V) := by
                rw [Array.getElem?_append_left (by simp)]; rfl
              have h1 : (Array.map a.eval c.args).extract 0 c.args.size = Array.map a.eval c.args := by
                have : c.args.size = (Array.map a.eval c.args).size := by simp
                rw [this, Array.extract_size]
              simp only [ho, resolve, hcal, invoke]
              simp [hV, callMethod]
              rw [h0]
              simp only [Sem.run_bind, run_program, Result.andThen_ok, h1]
            split at he
            · rename_i f hm
              obtain ⟨m1, -⟩ := hms t n f none hm v0 V Z ρ H w h hVR
              refine key f (v0 :: l) (#[V] ++ c.args.map a.eval) he ?_ ?_
              · simp only [Array.toList_append, Array.toList_map, RL]
                exact ⟨V, _, rfl, hVR, hargs⟩
              · rw [hexec, m1 rfl]; rfl
            · rename_i f off hm
              split at he
              · rename_i b i
                split at he
                · rename_i p hp
                  obtain ⟨-, m2⟩ := hms t n f (some off) hm (.ptr (some (b, i))) V Z ρ H w h hVR
                  obtain ⟨p', q1, q2⟩ := m2 off b i p rfl rfl hp
                  refine key f (p :: l) (#[p'] ++ c.args.map a.eval) he ?_ ?_
                  · simp only [Array.toList_append, Array.toList_map, RL]
                    exact ⟨p', _, rfl, q2, hargs⟩
                  · rw [hexec, q1]; rfl
                · cases he
              · cases he
            · cases he
          · cases he
        · cases hc
      · cases hc
    · cases hc
end
mutual
theorem R.two {ρ1 ρ2 ρ3 : Rho} (hx : ∀ b y1 y2, ρ1 b = some y1 → ρ2 b = some y2 → ρ3 b = some y1) : ∀ (a : AV) (v v' : Value), R ρ1 a v → R ρ2 a v' → R ρ3 a v
  | .bool b, v, v', h, _ => by simpa only [R] using h
  | .int k n, v, v', h, _ => by simpa only [R] using h
  | .str s, v, v', h, _ => by simpa only [R] using h
  | .ptr none, v, v', h, _ => by simpa only [R] using h
  | .ptr (some (b, i)), v, v', h, h' => by
    simp only [R] at h h' ⊢
    obtain ⟨g, o, N, h1, h2⟩ := h
    obtain ⟨g', o', N', h1', -⟩ := h'
    exact ⟨g, o, N, hx _ _ _ h1 h1', h2⟩
  | .slice none _ n _, v, v', h, _ => by simpa only [R] using h
  | .slice (some (b, i)) s n clip, v, v', h, h' => by
    simp only [R] at h h' ⊢
    obtain ⟨g, o, N, ad, cap, h1, h2⟩ := h
    obtain ⟨g', o', N', ad', cap', h1', -⟩ := h'
    exact ⟨g, o, N, ad, cap, hx _ _ _ h1 h1', h2⟩
  | .map none, v, v', h, _ => by simpa only [R] using h
  | .map (some r), v, v', h, h' => by
    simp only [R] at h h' ⊢
    obtain ⟨g, o, N, h1, h2⟩ := h
    obtain ⟨g', o', N', h1', -⟩ := h'
    exact ⟨g, o, N, hx _ _ _ h1 h1', h2⟩
  | .func fn a b, v, v', h, h' => by
    simp only [R] at h h' ⊢
    obtain ⟨x, y, h1, h2, h3⟩ := h
    obtain ⟨x', y', -, h2', h3'⟩ := h'
    exact ⟨x, y, h1, RL.two hx a _ _ h2 h2', RL.two hx b _ _ h3 h3'⟩
  | .nilFunc, v, v', h, _ => by simpa only [R] using h
  | .iface t x, v, v', h, h' => by
    simp only [R] at h h' ⊢
    obtain ⟨y, h1, h2⟩ := h
    obtain ⟨y', -, h2'⟩ := h'
    exact ⟨y, h1, R.two hx x _ _ h2 h2'⟩
  | .nilIface, v, v', h, _ => by simpa only [R] using h
  | .agg cs, v, v', h, h' => by
    simp only [R] at h h' ⊢
    obtain ⟨x, h1, h2, h3⟩ := h
    obtain ⟨x', -, h2', -⟩ := h'
    exact ⟨x, h1, RL.two hx cs _ _ h2 h2', h3⟩
  | .tuple cs, v, v', h, h' => by
    simp only [R] at h h' ⊢
    obtain ⟨x, h1, h2⟩ := h
    obtain ⟨x', -, h2'⟩ := h'
    exact ⟨x, h1, RL.two hx cs _ _ h2 h2'⟩
theorem RL.two {ρ1 ρ2 ρ3 : Rho} (hx : ∀ b y1 y2, ρ1 b = some y1 → ρ2 b = some y2 → ρ3 b = some y1) : ∀ (l : List AV) (vs vs' : List Value), RL ρ1 l vs → RL ρ2 l vs' → RL ρ3 l vs
  | [], vs, vs', h, _ => by simpa only [RL] using h
  | a :: as, vs, vs', h, h' => by
    simp only [RL] at h h' ⊢
    obtain ⟨v, us, h1, h2, h3⟩ := h
    obtain ⟨v', us', -, h2', h3'⟩ := h'
    exact ⟨v, us, h1, R.two hx a _ _ h2 h2', RL.two hx as _ _ h3 h3'⟩
end
theorem RE.two {ρ1 ρ2 ρ3 : Rho} (hx : ∀ b y1 y2, ρ1 b = some y1 → ρ2 b = some y2 → ρ3 b = some y1) : ∀ {es : List (AV × AV × Nat)} {l l' : List MapEntry}, RE ρ1 es l → RE ρ2 es l' → RE ρ3 es l
  | [], _, _, h, _ => h
  | (k, v, b) :: es, l, l', h, h' => by
    simp only [RE] at h h' ⊢
    obtain ⟨e, m, h1, h2, h3, h4, h5⟩ := h
    obtain ⟨e', m', -, h2', h3', -, h5'⟩ := h'
    exact ⟨e, m, h1, R.two hx _ _ _ h2 h2', R.two hx _ _ _ h3 h3', h4, RE.two hx h5 h5'⟩
def Rho.ghost (ρ : Rho) (b : Nat) (l : List AV) : Rho := ⟨ρ.f, fun x => if x = b then some l else ρ.gh x⟩
section
variable {P : Program} {Z : Nat → Prop} {ρ : Rho} {H : AHeap} {w : World}
theorem ghost_F (ρ : Rho) (b : Nat) (l : List AV) : ExtF ρ (ρ.ghost b l) := fun _ _ h => h
theorem HS.ghost (h : HS Z ρ H w) (l : List AV) : HS Z (ρ.ghost H.next l) (H.newRow l) w ∧ Ext ρ (ρ.ghost H.next l) := by
  have hget : ∀ b, (H.newRow l).get b = if H.next = b then .cells (ofL l 0 .nil) l.length true [] else H.get b := fun b => AHeap.get_new _ _ _
  have hno : ∀ x, ρ H.next ≠ some x := fun x e => by have := (h.dom _ _ e).1; omega
  have hne : ∀ b x, ρ b = some x → b ≠ H.next := fun b x hb e => by subst e; exact hno _ hb
  refine ⟨⟨fun b x hb => ⟨by have := (h.dom b x hb).1; show b < H.next + 1; omega, trivial⟩, fun b c n own par hng hb => ?_, fun b es k hb => ?_, fun b c n par hb b' c' n' own' par' hbb hb' g o N o' N' r1 r2 => ?_, fun b es k hb b' es' k' hbb hb' g o N o' N' r1 r2 => ?_, h.zb, fun b l' hb => ?_, fun b c n own par hb x hx => ?_⟩, ghost_F _ _ _, fun b l' hb => ?_⟩
  · have hng' : (if b = H.next then some l else ρ.gh b) = none := hng
    split at hng'
    · cases hng'
    · rename_i hbn
      rw [hget, if_neg (Ne.symm hbn)] at hb
      obtain ⟨g, o, N, h1, h2, h3, C, e, fz, h4, h5, h6, h7⟩ := h.cells b c n own par hng' hb
      exact ⟨g, o, N, h1, h2, h3, C, e, fz, h4, h5, h6, fun i hi => by
        obtain ⟨a, v, e1, e2, e3, e4⟩ := h7 i hi
        exact ⟨a, v, e1, e2, R.monoF (ghost_F _ _ _) _ _ e3, e4⟩⟩
  · rw [hget] at hb
    split at hb
    · cases hb
    · obtain ⟨g, o, N, h1, h2, E, h3, h4⟩ := h.maps b es k hb
      exact ⟨g, o, N, h1, h2, E, h3, RE.two (ρ1 := ρ) (ρ2 := ρ) (ρ3 := ρ.ghost H.next l) (fun b y1 y2 q _ => q) h4 h4⟩
  · have r1' : ρ b = some (g, o, N) := r1
    have r2' : ρ b' = some (g, o', N') := r2
    rw [hget, if_neg (Ne.symm (hne _ _ r1'))] at hb
    rw [hget, if_neg (Ne.symm (hne _ _ r2'))] at hb'
    exact h.own b c n par hb b' c' n' own' par' hbb hb' g o N o' N' r1' r2'
  · have r1' : ρ b = some (g, o, N) := r1
    have r2' : ρ b' = some (g, o', N') := r2
    rw [hget, if_neg (Ne.symm (hne _ _ r1'))] at hb
    rw [hget, if_neg (Ne.symm (hne _ _ r2'))] at hb'
    exact h.mapown b es k hb b' es' k' hbb hb' g o N o' N' r1' r2'
  · have hb' : (if b = H.next then some l else ρ.gh b) = some l' := hb
    by_cases e : b = H.next
    · subst e
      rw [if_pos rfl] at hb'; cases hb'
      refine ⟨?_, by show H.next < H.next + 1; omega, ofL l 0 .nil, true, [], by rw [hget, if_pos rfl], fun i hi => ?_⟩
      · show ρ H.next = none
        cases hx : ρ H.next with
        | none => rfl
        | some x => exact absurd hx (hno x)
      · rw [get_ofL, if_pos (by omega), Nat.sub_zero, List.getElem?_eq_getElem hi]
    · rw [if_neg e] at hb'
      obtain ⟨q1, q2, q3⟩ := h.gh b l' hb'
      exact ⟨q1, by show b < H.next + 1; omega, q3.get (by rw [hget, if_neg (Ne.symm e)])⟩
  · rw [hget] at hb
    split at hb
    · cases hb; cases hx
    · exact h.pm b c n own par hb x hx
  · show (if b = H.next then some l else ρ.gh b) = some l'
    rw [if_neg (by have := (h.gh b l' hb).2.1; omega)]
    exact hb
def Rho.real (ρ ρ' : Rho) (b β : Nat) : Rho := ⟨fun x => if x = b then ρ' β else if x = β then none else ρ' x, fun x => if x = b ∨ x = β then none else ρ'.gh x⟩
theorem HS.real {ρ' : Rho} {w' : World} (h : HS Z ρ H w) (hx : Ext ρ ρ') {l : List AV} (h' : HS Z ρ' (H.newRow l) w') {b : Nat} (hg : ρ.gh b = some l) {x : Nat × Nat × Nat} (hβ : ρ' H.next = some x) (hl : ∀ i (hi : i < l.length) v, R ρ' l[i] v → R (ρ.real ρ' b H.next) l[i] v) : HS Z (ρ.real ρ' b H.next) H w' ∧ ExtF ρ (ρ.real ρ' b H.next) ∧ ∀ b' l', b' ≠ b → ρ.gh b' = some l' → (ρ.real ρ' b H.next).gh b' = some l' := by
  have hget : ∀ b, (H.newRow l).get b = if H.next = b then .cells (ofL l 0 .nil) l.length true [] else H.get b := fun b => AHeap.get_new _ _ _
  obtain ⟨gb, blt, c0, own0, par0, gc, gcell⟩ := h.gh b l hg
  have hbn : b ≠ H.next := by omega
  have hr : ∀ y, (ρ.real ρ' b H.next) y = if y = b then ρ' H.next else if y = H.next then none else ρ' y := fun _ => rfl
  have hold : ∀ y z, ρ y = some z → (ρ.real ρ' b H.next) y = some z := fun y z hy => by
    have h1 : y ≠ b := fun e => by subst e; rw [gb] at hy; cases hy
    have h2 : y ≠ H.next := fun e => by subst e; have := (h.dom _ _ hy).1; omega
    rw [hr, if_neg h1, if_neg h2]; exact hx.1 _ _ hy
  have hgb' : ρ' b = none := (h'.gh b l (hx.2 b l hg)).1
  have two : ∀ (a : AV) (v v' : Value), R ρ' a v → R ρ a v' → R (ρ.real ρ' b H.next) a v := R.two fun y y1 y2 q1 q2 => by
    have := hold y y2 q2
    have q3 := hx.1 _ _ q2
    rw [q1] at q3; cases q3
    exact this
  -- the cells of the block behind
  obtain ⟨g, o, N, k1, k2, k3, C, e, fz, k4, k5, k6, k7⟩ := h'.cells H.next (ofL l 0 .nil) l.length true [] (h'.ng hβ) (by rw [hget, if_pos rfl])
  refine ⟨⟨fun y z hy => ⟨?_, trivial⟩, fun y c n own par hng hy => ?_, fun y es k hy => ?_, fun y c n par hy y' c' n' own' par' hne hy' g1 o1 N1 o2 N2 r1 r2 => ?_, fun y es k hy y' es' k' hne hy' g1 o1 N1 o2 N2 r1 r2 => ?_, h'.zb, fun y l' hy => ?_, fun y c n own par hy z hz => ?_⟩, hold, fun b' l' hne hb' => ?_⟩
  · rw [hr] at hy
    by_cases e1 : y = b
    · subst e1; exact blt
    · rw [if_neg e1] at hy
      by_cases e2 : y = H.next
      · rw [if_pos e2] at hy; cases hy
      · rw [if_neg e2] at hy
        have := (h'.dom y z hy).1
        have : y < H.next + 1 := this
        omega
  · by_cases e1 : y = b
    · subst e1
      rw [gc] at hy; cases hy
      refine ⟨g, o, N, by rw [hr, if_pos rfl]; exact k1, k2, fun _ => k3 rfl, C, e, fz, k4, k5, fun _ => k6 rfl, fun i hi => ?_⟩
      obtain ⟨a, v, q1, q2, q3, q4⟩ := k7 i hi
      rw [get_ofL, if_pos (by omega), Nat.sub_zero, List.getElem?_eq_getElem hi] at q1
      cases q1
      exact ⟨l[i], v, gcell i hi, q2, hl i hi v q3, q4⟩
    · have hyn : y ≠ H.next := fun e2 => by
        subst e2
        cases hq : ρ.gh H.next with
        | some l' => have := (h.gh _ _ hq).2.1; omega
        | none =>
          obtain ⟨g', o', N', p1, -⟩ := h.cells H.next c n own par hq hy
          have := (h.dom _ _ p1).1; omega
      have hng' : ρ'.gh y = none := by
        have : (if y = b ∨ y = H.next then none else ρ'.gh y) = none := hng
        rwa [if_neg (by simp [e1, hyn])] at this
      have hng0 : ρ.gh y = none := by
        cases hq : ρ.gh y with
        | none => rfl
        | some l' => rw [hx.2 _ _ hq] at hng'; cases hng'
      obtain ⟨g1, o1, N1, p1, p2, p3, C1, e1', fz1, p4, p5, p6, p7⟩ := h.cells y c n own par hng0 hy
      obtain ⟨g2, o2, N2, q1, q2, q3, C2, e2', fz2, q4, q5, q6, q7⟩ := h'.cells y c n own par hng' (by rw [hget, if_neg (Ne.symm hyn)]; exact hy)
      refine ⟨g2, o2, N2, by rw [hr, if_neg e1, if_neg hyn]; exact q1, q2, q3, C2, e2', fz2, q4, q5, q6, fun i hi => ?_⟩
      obtain ⟨a, v, s1, s2, s3, s4⟩ := q7 i hi
      obtain ⟨a', v', t1, t2, t3, t4⟩ := p7 i hi
      rw [s1] at t1; cases t1
      exact ⟨a, v, s1, s2, two _ _ _ s3 t3, s4⟩
  · obtain ⟨g1, o1, N1, p1, p2, E1, p3, p4⟩ := h.maps y es k hy
    have e1 : y ≠ b := fun e => by subst e; rw [gb] at p1; cases p1
    have e2 : y ≠ H.next := fun e => by subst e; have := (h.dom _ _ p1).1; omega
    obtain ⟨g2, o2, N2, q1, q2, E2, q3, q4⟩ := h'.maps y es k (by rw [hget, if_neg (Ne.symm e2)]; exact hy)
    refine ⟨g2, o2, N2, by rw [hr, if_neg e1, if_neg e2]; exact q1, q2, E2, q3, RE.two (fun z y1 y2 s1 s2 => ?_) q4 p4⟩
    have := hold z y2 s2
    have s3 := hx.1 _ _ s2
    rw [s1] at s3; cases s3
    exact this
  · rw [hr] at r1 r2
    have hy2 : ∀ y c n own par, H.get y = .cells c n own par → y ≠ b → y ≠ H.next → (H.newRow l).get y = .cells c n own par := fun y c n own par h1 _ h3 => by rw [hget, if_neg (Ne.symm h3)]; exact h1
    by_cases e1 : y = b
    · subst e1
      rw [if_pos rfl] at r1
      rw [if_neg hne] at r2
      by_cases e2 : y' = H.next
      · rw [if_pos e2] at r2; cases r2
      · rw [if_neg e2] at r2
        have := (h'.own H.next (ofL l 0 .nil) l.length [] (by rw [hget, if_pos rfl]) y' c' n' own' par' e2 (hy2 _ _ _ _ _ hy' hne e2) g1 o1 N1 o2 N2 r1 r2).2.1
        cases this
    · rw [if_neg e1] at r1
      by_cases e2 : y = H.next
      · rw [if_pos e2] at r1; cases r1
      · rw [if_neg e2] at r1
        by_cases e3 : y' = b
        · subst e3
          rw [if_pos rfl] at r2
          have := (h'.own y c n par (hy2 _ _ _ _ _ hy e1 e2) H.next (ofL l 0 .nil) l.length true [] (Ne.symm e2) (by rw [hget, if_pos rfl]) g1 o1 N1 o2 N2 r1 r2).1
          cases this
        · rw [if_neg e3] at r2
          by_cases e4 : y' = H.next
          · rw [if_pos e4] at r2; cases r2
          · rw [if_neg e4] at r2
            exact h'.own y c n par (hy2 _ _ _ _ _ hy e1 e2) y' c' n' own' par' hne (hy2 _ _ _ _ _ hy' e3 e4) g1 o1 N1 o2 N2 r1 r2
  · obtain ⟨g3, o3, N3, p1, -⟩ := h.maps y es k hy
    obtain ⟨g4, o4, N4, p2, -⟩ := h.maps y' es' k' hy'
    have e1 : y ≠ H.next := fun e => by subst e; have := (h.dom _ _ p1).1; omega
    have e2 : y' ≠ H.next := fun e => by subst e; have := (h.dom _ _ p2).1; omega
    rw [hold _ _ p1] at r1
    rw [hold _ _ p2] at r2
    exact h'.mapown y es k (by rw [hget, if_neg (Ne.symm e1)]; exact hy) y' es' k' hne (by rw [hget, if_neg (Ne.symm e2)]; exact hy') g1 o1 N1 o2 N2 (by rw [hx.1 _ _ p1]; exact r1) (by rw [hx.1 _ _ p2]; exact r2)
  · have hy' : (if y = b ∨ y = H.next then none else ρ'.gh y) = some l' := hy
    split at hy'
    · cases hy'
    · rename_i hn
      have e1 : y ≠ b := fun e => hn (.inl e)
      have e2 : y ≠ H.next := fun e => hn (.inr e)
      obtain ⟨q1, q2, q3⟩ := h'.gh y l' hy'
      have : y < H.next + 1 := q2
      exact ⟨by rw [hr, if_neg e1, if_neg e2]; exact q1, by omega, q3.get (by rw [hget, if_neg (Ne.symm e2)])⟩
  · obtain ⟨t, ht⟩ := h.pm y c n own par hy z hz
    exact ⟨t, hold _ _ ht⟩
  · have : b' ≠ H.next := by have := (h.gh b' l' hb').2.1; omega
    show (if b' = b ∨ b' = H.next then none else ρ'.gh b') = some l'
    rw [if_neg (by simp [hne, this])]
    exact hx.2 _ _ hb'
end
def AOp.ghk : AOp → Bool
  | .alloc _ | .box _ | .bslice .. | .mkSlice .. => true
  | _ => false
theorem ghk_shape {op : AOp} (hk : op.ghk = true) {call : Rec} {ms : Meth} {fr : AFr} {H H' : AHeap} {v : AV} (he : exA call ms op fr H = some (v, H')) : ∃ (mk : Nat → AV) (l : List AV), v = mk H.next ∧ H' = H.newRow l ∧ (∀ call2 H2, exA call2 ms op fr H2 = some (mk H2.next, H2.newRow l)) ∧ ((∀ b, mk b = .ptr (some (b, 0))) ∨ ∃ s n cl, ∀ b, mk b = .slice (some (b, 0)) s n cl) := by
  cases op <;> simp only [AOp.ghk, Bool.false_eq_true] at hk
  · simp only [exA, Option.some.injEq, Prod.mk.injEq] at he
    exact ⟨fun b => .ptr (some (b, 0)), _, he.1.symm, he.2.symm, fun _ _ => rfl, .inl fun _ => rfl⟩
  · rename_i x
    simp only [exA, Bool.cond_eq_ite] at he
    split at he
    · rename_i u hu
      split at he
      · rename_i hb
        simp only [Option.some.injEq, Prod.mk.injEq] at he
        exact ⟨fun b => .ptr (some (b, 0)), _, he.1.symm, he.2.symm, fun _ _ => by simp only [exA, hu, hb, cond_true], .inl fun _ => rfl⟩
      · cases he
    · cases he
  · rename_i s len zs ps
    simp only [exA] at he
    split at he
    · rename_i l hl
      simp only [Option.some.injEq, Prod.mk.injEq] at he
      exact ⟨fun b => .slice (some (b, 0)) s len true, _, he.1.symm, he.2.symm, fun _ _ => by simp only [exA, hl], .inr ⟨_, _, _, fun _ => rfl⟩⟩
    · cases he
  · rename_i s bytes zs lx cx
    simp only [exA] at he
    split at he
    · rename_i k1 n1 k2 n2 h1 h2
      split at he
      · rename_i hc
        simp only [Option.some.injEq, Prod.mk.injEq] at he
        exact ⟨fun b => .slice (some (b, 0)) s n1.toNat (n1 == n2), _, he.1.symm, he.2.symm, fun _ _ => by simp only [exA, h1, h2, if_pos hc], .inr ⟨_, _, _, fun _ => rfl⟩⟩
      · cases he
    · cases he
section
variable {P : Program} {Z : Nat → Prop} {ρ : Rho} {H : AHeap} {w : World}
theorem ghk_real {call : Rec} {ms : Meth} {o : Oper} {ao : AOp} (hc : ckOp2 P o.op ao = true) (hk : ao.ghk = true) (h : HS Z ρ H w) {fr : AFr} {a : Act} (hf : RF ρ fr a) {Hi : AHeap} {v : AV} {l : List AV} (he : exA call ms ao fr Hi = some (v, Hi.newRow l)) (hg : ρ.gh Hi.next = some l) {K : Act → World → Prop} {Q : Exit → Act → World → Prop}
    (hK : ∀ ρ' u w', ExtF ρ ρ' → (∀ b l', b ≠ Hi.next → ρ.gh b = some l' → ρ'.gh b = some l') → HS Z ρ' H w' → Kp Z w w' → R ρ' v u → K (a.put o.dst u) w') : o.wp P a w K Q := by
  have hc1 : ckOp P o.op ao = true := by
    simp only [ckOp2, Bool.or_eq_true] at hc
    rcases hc with hc | hc
    · exact hc
    · exfalso
      revert hc
      cases ao <;> simp only [AOp.ghk, Bool.false_eq_true] at hk <;> (split <;> (try simp) <;> (unfold ckCall; split <;> simp))
  obtain ⟨mk, l0, e1, e2, e3, e4⟩ := ghk_shape hk he
  have el : l = l0 := by
    have e5 : (Hi.newRow l).get Hi.next = (Hi.newRow l0).get Hi.next := by rw [e2]
    simp only [AHeap.newRow, AHeap.get_new, if_pos rfl] at e5
    have e6 : l.length = l0.length := by injection e5
    have e7 : ofL l 0 .nil = ofL l0 0 .nil := by injection e5
    refine List.ext_getElem e6 fun i h1 h2 => ?_
    have e8 : (ofL l 0 .nil).get i = (ofL l0 0 .nil).get i := by rw [e7]
    rw [get_ofL, get_ofL, if_pos (by omega), if_pos (by omega), Nat.sub_zero, List.getElem?_eq_getElem h1, List.getElem?_eq_getElem h2] at e8
    exact Option.some.inj e8
  subst el
  subst e1
  obtain ⟨ρ1, w1, nx, u, q1, q2, q3, q4, q5, q6⟩ := op_sim hc1 h hf (e3 call H)
  obtain ⟨g1, g2⟩ := h.ghost []
  obtain ⟨ρ2, w2, nx2, u2, r1, r2, r3, r4, r5, r6⟩ := op_sim hc1 g1 (hf.mono g2) (e3 call (H.newRow []))
  have hβ : ∃ x, ρ1 H.next = some x := by
    rcases e4 with e4 | ⟨s, n, cl, e4⟩
    · rw [e4] at q6; simp only [R] at q6
      obtain ⟨g, o', N, q, -⟩ := q6
      exact ⟨_, q⟩
    · rw [e4] at q6; simp only [R] at q6
      obtain ⟨g, o', N, ad, cap, q, -⟩ := q6
      exact ⟨_, q⟩
  obtain ⟨x, hβ⟩ := hβ
  have hβ2 : ρ2 H.next = none := by
    have : (ρ.ghost H.next []).gh H.next = some [] := by show (if H.next = H.next then some [] else ρ.gh H.next) = some []; rw [if_pos rfl]
    exact (r4.gh _ _ (r3.2 _ _ this)).1
  have hγ : ∃ y, ρ2 (H.next + 1) = some y := by
    rcases e4 with e4 | ⟨s, n, cl, e4⟩
    · rw [e4] at r6; simp only [R] at r6
      obtain ⟨g, o', N, q, -⟩ := r6
      exact ⟨_, q⟩
    · rw [e4] at r6; simp only [R] at r6
      obtain ⟨g, o', N, ad, cap, q, -⟩ := r6
      exact ⟨_, q⟩
  obtain ⟨y, hγ⟩ := hγ
  have hbi : ρ1 Hi.next = none := (q4.gh _ _ (q3.2 _ _ hg)).1
  have hcell2 : ∀ i (hi : i < l.length), ∃ v2, R ρ2 l[i] v2 := fun i hi => by
    obtain ⟨g, o', N, k1, k2, k3, C, e, fz, k4, k5, k6, k7⟩ := r4.cells (H.next + 1) (ofL l 0 .nil) l.length true [] (r4.ng hγ) (by
      show ((H.newRow []).newRow l).get (H.newRow []).next = _
      unfold AHeap.newRow
      rw [AHeap.get_new, if_pos rfl])
    obtain ⟨a', v', s1, s2, s3, s4⟩ := k7 i hi
    rw [get_ofL, if_pos (by omega), Nat.sub_zero, List.getElem?_eq_getElem hi] at s1
    cases s1
    exact ⟨v', s3⟩
  have hlR : ∀ i (hi : i < l.length) v, R ρ1 l[i] v → R (ρ.real ρ1 Hi.next H.next) l[i] v := fun i hi v hv => by
    obtain ⟨v2, hv2⟩ := hcell2 i hi
    refine R.two (fun b y1 y2 p1 p2 => ?_) _ _ _ hv hv2
    show (if b = Hi.next then ρ1 H.next else if b = H.next then none else ρ1 b) = some y1
    rw [if_neg (fun e => by subst e; rw [hbi] at p1; cases p1), if_neg (fun e => by subst e; rw [hβ2] at p2; cases p2)]
    exact p1
  obtain ⟨s1, s2, s3⟩ := h.real q3 q4 hg hβ hlR
  have hR : R (ρ.real ρ1 Hi.next H.next) (mk Hi.next) u := by
    have hm : (ρ.real ρ1 Hi.next H.next) Hi.next = ρ1 H.next := by
      show (if Hi.next = Hi.next then ρ1 H.next else _) = _
      rw [if_pos rfl]
    rcases e4 with e4 | ⟨s, n, cl, e4⟩
    · rw [e4] at q6 ⊢; simp only [R] at q6 ⊢
      rw [hm]; exact q6
    · rw [e4] at q6 ⊢; simp only [R] at q6 ⊢
      rw [hm]; exact q6
  unfold Oper.wp
  rw [q1]
  rcases q2 with rfl | ⟨rfl, rfl⟩
  · exact hK _ u w1 s2 s3 s1 q5 hR
  · exact hK _ undef w1 s2 s3 s1 q5 hR
end
section
variable {Z : Nat → Prop} {ρ : Rho} {H H' : AHeap} {w w' : World} {P : Program}
theorem put_size (a : Act) (d : Option Tmp) (u : Value) : (a.put d u).tmps.size = a.tmps.size := by
  cases d <;> simp [Act.put]
theorem put_defers (a : Act) (d : Option Tmp) (u : Value) : (a.put d u).defers = a.defers := by
  cases d <;> simp [Act.put]
theorem want_sim {ops : Array Oper} {o : Oper} {ao : AOper} (hg : ckGuard ops o.guard ao.guard = true) {fr : AFr} {a : Act} (hf : RF ρ fr a) {b : Bool} (hw : wantA fr ao.guard = some b) : Region.wanted o (yielded ops a.tmps) = b := by
  unfold ckGuard at hg
  split at hg
  · rename_i h1 h2
    rw [h2] at hw
    simp only [wantA, Option.some.injEq] at hw
    subst hw
    simp [Region.wanted, h1]
  · rename_i j c t c' h1 h2
    simp only [Bool.and_eq_true, beq_iff_eq] at hg
    obtain ⟨rfl, hd⟩ := hg
    rw [h2] at hw
    simp only [wantA] at hw
    simp only [Region.wanted, h1, yielded, hd, Option.bind_some]
    split at hw
    · rename_i d ht
      obtain ⟨u, hu, hr⟩ := hf _ _ ht
      simp only [R] at hr; subst hr
      simp only [Option.some.injEq] at hw
      rw [hu, ← hw]
      cases d <;> cases c <;> rfl
    · rename_i v hne ht
      obtain ⟨u, hu, hr⟩ := hf _ _ ht
      simp only [Option.some.injEq] at hw
      subst hw
      rw [hu]
      have : ∀ d, u ≠ .bool d := fun d e => by
        subst e
        cases v with
        | bool d' => exact hne d' rfl
        | ptr p => cases p <;> simp [R] at hr
        | slice p _ _ _ => cases p <;> simp [R] at hr
        | map p => cases p <;> simp [R] at hr
        | _ => simp [R] at hr
      cases u <;> first | rfl | exact absurd rfl (this _)
    · cases hw
  · cases hg
structure Fr (nt : Nat) (ρ : Rho) (fr : AFr) (a : Act) : Prop where
  rf : RF ρ fr a
  size : nt ≤ a.tmps.size
  defers : a.defers = []
theorem Fr.put {nt : Nat} {fr : AFr} {a : Act} (h : Fr nt ρ fr a) {d : Option Nat} {v : AV} {u : Value} (hr : R ρ v u) (hd : ∀ t, d = some t → t < nt) : Fr nt ρ (putA fr d v) (a.put d u) :=
  ⟨h.rf.put hr (fun t ht => Nat.lt_of_lt_of_le (hd t ht) h.size), by rw [put_size]; exact h.size, by rw [put_defers]; exact h.defers⟩
theorem Fr.mono {nt : Nat} {fr : AFr} {a : Act} {ρ' : Rho} (h : Fr nt ρ fr a) (hx : Ext ρ ρ') : Fr nt ρ' fr a := ⟨h.rf.mono hx, h.size, h.defers⟩
theorem undef_R : R ρ (.tuple []) undef := by simp only [R]; exact ⟨#[], rfl, rfl⟩
theorem ops_sim {nt : Nat} {call : Rec} {ms : Meth} (hcall : CallOK P call) (hms : ckMeth P ms) {ops : Array Oper} {Q : Exit → Act → World → Prop} : ∀ (k : Nat) (l : List AOper) {ρ : Rho} {H : AHeap} {w : World} {fr fr' : AFr} {H' : AHeap} {a : Act}, ckOpers P nt ops (ops.toList.drop k) l = true → HS Z ρ H w → Fr nt ρ fr a → opsA call ms l fr H = some (fr', H') →
    (∀ ρ' a' w', Ext ρ ρ' → HS Z ρ' H' w' → Kp Z w w' → Fr nt ρ' fr' a' → Q .normal a' w') → wpOps P ops Q (List.range' k (ops.size - k)) a w
  | k, [], ρ, H, w, fr, fr', H', a, hc, h, hf, he, hQ => by
    have hk : ops.size ≤ k := by
      cases hd : ops.toList.drop k with
      | nil => simpa using hd
      | cons _ _ => rw [hd] at hc; simp [ckOpers] at hc
    rw [show ops.size - k = 0 by omega]
    simp only [opsA, Option.some.injEq, Prod.mk.injEq] at he
    obtain ⟨rfl, rfl⟩ := he
    exact hQ ρ a w (Ext.refl _) h (Kp.refl _ _) hf
  | k, ao :: l, ρ, H, w, fr, fr', H', a, hc, h, hf, he, hQ => by
    cases hd : ops.toList.drop k with
    | nil => rw [hd] at hc; simp [ckOpers] at hc
    | cons o os =>
      rw [hd] at hc
      simp only [ckOpers, Bool.and_eq_true] at hc
      obtain ⟨hco, hcr⟩ := hc
      have hk : k < ops.size := by
        rcases Nat.lt_or_ge k ops.size with h | h
        · exact h
        · rw [List.drop_of_length_le (by simpa using h)] at hd; cases hd
      have hok : ops[k]? = some o := by
        have : ops.toList[k]? = some o := by
          have := congrArg (fun l => l[0]?) hd
          simpa [List.getElem?_drop] using this
        simpa using this
      have hos : os = ops.toList.drop (k + 1) := by
        have := congrArg List.tail hd
        simpa [List.tail_drop] using this.symm
      rw [hos] at hcr
      simp only [ckOper, Bool.and_eq_true, beq_iff_eq] at hco
      obtain ⟨⟨⟨hdst, hnt⟩, hop⟩, hg⟩ := hco
      have hnt' : ∀ t, o.dst = some t → t < nt := fun t ht => by rw [ht] at hnt; simpa using hnt
      rw [show ops.size - k = (ops.size - (k + 1)) + 1 by omega, List.range'_succ]
      simp only [wpOps, hok]
      simp only [opsA] at he
      split at he
      · rename_i hw
        rw [want_sim hg hf.rf hw]
        simp only [if_true]
        split at he
        · rename_i v H1 hex
          refine .inl (oper_sim hcall hms hop h hf.rf hex fun ρ' u w' q1 q2 q3 q4 => ?_)
          rw [← hdst] at he
          exact ops_sim hcall hms (k + 1) l hcr q2 ((hf.mono q1).put q4 hnt') he fun ρ2 a2 w2 p1 p2 p3 p4 => hQ ρ2 a2 w2 (q1.trans p1) p2 (q3.trans p3) p4
        · cases he
      · rename_i hw
        rw [want_sim hg hf.rf hw]
        simp only [Bool.false_eq_true, if_false]
        rw [← hdst] at he
        exact ops_sim hcall hms (k + 1) l hcr h (hf.put undef_R hnt') he hQ
      · cases he
end
def AOpnd.tm : AOpnd → List Nat
  | .t i => [i]
  | .c _ => []
def tmL (xs : List AOpnd) : List Nat := xs.flatMap AOpnd.tm
def tmO : Option AOpnd → List Nat
  | none => []
  | some x => x.tm
def tmP (ps : List (Nat × Nat × AOpnd)) : List Nat := ps.flatMap fun p => p.2.2.tm
def AOp.tm : AOp → List Nat
  | .mv x => x.tm
  | .pick c a b => c.tm ++ (a.tm ++ b.tm)
  | .alloc _ => []
  | .box x => x.tm
  | .build _ ps => tmP ps
  | .bslice _ _ _ ps => tmP ps
  | .load _ _ x => x.tm
  | .store _ x v => x.tm ++ v.tm
  | .chk x => x.tm
  | .bin _ _ x y => x.tm ++ y.tm
  | .un _ x => x.tm
  | .conv _ x => x.tm
  | .mkIface _ x => x.tm
  | .mkFunc _ a b => tmL a ++ tmL b
  | .mkMap => []
  | .mkSlice _ _ _ l c => l.tm ++ c.tm
  | .slSlice _ x lo hi mx => x.tm ++ (tmO lo ++ (tmO hi ++ tmO mx))
  | .slStr x lo hi => x.tm ++ (tmO lo ++ tmO hi)
  | .slArr _ _ x lo hi mx => x.tm ++ (tmO lo ++ (tmO hi ++ tmO mx))
  | .faddr _ x => x.tm
  | .field _ _ _ x => x.tm
  | .iaddrA _ _ x i => x.tm ++ i.tm
  | .iaddrS _ x i => x.tm ++ i.tm
  | .idxA _ _ _ x i => x.tm ++ i.tm
  | .idxS x i => x.tm ++ i.tm
  | .lookup _ _ _ m k => m.tm ++ k.tm
  | .mapUpd _ m k v => m.tm ++ (k.tm ++ v.tm)
  | .mapEnt _ _ m k => m.tm ++ k.tm
  | .entSt m st v => m.tm ++ (st.tm ++ v.tm)
  | .delete _ m k => m.tm ++ k.tm
  | .extract _ x => x.tm
  | .lenS _ x => x.tm
  | .lenA _ => []
  | .lenM x => x.tm
  | .capS x => x.tm
  | .mnmx _ xs => tmL xs
  | .append _ _ _ x y => x.tm ++ y.tm
  | .copy _ _ x y => x.tm ++ y.tm
  | .call _ xs => tmL xs
  | .callV f xs => f.tm ++ tmL xs
  | .invoke x _ xs => x.tm ++ tmL xs
  | .bad _ => []
def AOper.tm (o : AOper) : List Nat := (match o.guard with | some (t, _) => [t] | none => []) ++ o.op.tm
section
variable {fr fr' : AFr}
theorem ev_congr : ∀ {x : AOpnd}, (∀ t ∈ x.tm, fr.get t = fr'.get t) → fr.ev x = fr'.ev x
  | .t i, h => by simpa [AFr.ev, AOpnd.tm] using h i (by simp [AOpnd.tm])
  | .c _, _ => rfl
theorem evs_congr : ∀ {xs : List AOpnd}, (∀ t ∈ tmL xs, fr.get t = fr'.get t) → evs fr xs = evs fr' xs
  | [], _ => rfl
  | x :: xs, h => by
    have h1 := ev_congr (x := x) fun t ht => h t (by simp [tmL]; exact .inl ht)
    have h2 := evs_congr (xs := xs) fun t ht => h t (by simp [tmL] at ht ⊢; exact .inr ht)
    simp only [evs, h1, h2]
theorem evo_congr : ∀ {x : Option AOpnd}, (∀ t ∈ tmO x, fr.get t = fr'.get t) → evo fr x = evo fr' x
  | none, _ => rfl
  | some x, h => by simp only [evo, ev_congr (x := x) h]
theorem fillA_congr : ∀ {ps : List (Nat × Nat × AOpnd)} {zs : List AV}, (∀ t ∈ tmP ps, fr.get t = fr'.get t) → fillA fr zs ps = fillA fr' zs ps
  | [], _, _ => rfl
  | (a, b, x) :: ps, zs, h => by
    have h1 := ev_congr (x := x) fun t ht => h t (by simp [tmP]; exact .inl ht)
    have h2 : ∀ zs, fillA fr zs ps = fillA fr' zs ps := fun zs => fillA_congr (ps := ps) fun t ht => h t (by simp [tmP] at ht ⊢; exact .inr ht)
    simp only [fillA, h1, h2]
theorem exA_congr {call : Rec} {ms : Meth} {op : AOp} {H : AHeap} (h : ∀ t ∈ op.tm, fr.get t = fr'.get t) : exA call ms op fr H = exA call ms op fr' H := by
  have e1 : ∀ x : AOpnd, (∀ t ∈ x.tm, t ∈ op.tm) → fr.ev x = fr'.ev x := fun x hx => ev_congr fun t ht => h t (hx t ht)
  have e2 : ∀ x, (∀ t ∈ tmL x, t ∈ op.tm) → evs fr x = evs fr' x := fun x hx => evs_congr fun t ht => h t (hx t ht)
  have e3 : ∀ x, (∀ t ∈ tmO x, t ∈ op.tm) → evo fr x = evo fr' x := fun x hx => evo_congr fun t ht => h t (hx t ht)
  have e4 : ∀ x zs, (∀ t ∈ tmP x, t ∈ op.tm) → fillA fr zs x = fillA fr' zs x := fun x zs hx => fillA_congr fun t ht => h t (hx t ht)
  clear h
  cases op <;> simp only [AOp.tm, List.mem_append] at e1 e2 e3 e4 <;> simp +contextual only [exA, e1, e2, e3, e4, true_or, or_true, implies_true]
theorem wantA_congr {g : Option (Nat × Bool)} (h : ∀ t, (∃ b, g = some (t, b)) → fr.get t = fr'.get t) : wantA fr g = wantA fr' g := by
  cases g with
  | none => rfl
  | some p => obtain ⟨t, b⟩ := p; simp only [wantA, h t ⟨b, rfl⟩]
theorem stepA_congr {call : Rec} {ms : Meth} {o : AOper} {H : AHeap} (h : ∀ t ∈ o.tm, fr.get t = fr'.get t) : stepA call ms o fr H = stepA call ms o fr' H := by
  have h1 := exA_congr (call := call) (ms := ms) (op := o.op) (H := H) fun t ht => h t (by simp only [AOper.tm, List.mem_append]; exact .inr ht)
  have h2 := wantA_congr (g := o.guard) fun t ⟨b, hb⟩ => h t (by simp only [AOper.tm, hb]; simp)
  simp only [stepA, h1, h2]
end
section
variable {call : Rec} {ms : Meth} {fr fr' : AFr} {H H2 : AHeap}
theorem convA_pure {k : CK} {v : AV} {x : AOpnd} (h : (AOp.conv k x).cl = 0) : convA k v H2 = (convA k v H).map fun p => (p.1, H2) := by
  cases k <;> (try (simp only [AOp.cl, reduceCtorEq, Nat.succ_ne_self, Nat.reduceEqDiff] at h; done)) <;> cases v <;> simp only [convA, vl] <;> (repeat' (first | rfl | split))
theorem exA_pure {op : AOp} (h : op.cl = 0) : exA call ms op fr H2 = (exA call ms op fr H).map fun p => (p.1, H2) := by
  cases op <;> (try (simp only [AOp.cl, reduceCtorEq, Nat.succ_ne_self, Nat.reduceEqDiff] at h; done)) <;> simp only [exA, vl] <;>
    (repeat' (first | rfl | exact convA_pure h | split | (simp only [Bool.cond_eq_ite])))
theorem convA_stay {k : CK} {v u : AV} {x : AOpnd} (h : (AOp.conv k x).cl = 1) (he : convA k v H = some (u, H2)) : H2 = H := by
  cases k with
  | toStr =>
    cases v with
    | slice a s n c =>
      cases a with
      | none => simp only [convA, vl, Option.some.injEq, Prod.mk.injEq] at he; exact he.2.symm
      | some p =>
        obtain ⟨b, i⟩ := p
        simp only [convA, vl, Bool.cond_eq_ite] at he
        (repeat' split at he) <;> simp only [Option.some.injEq, Prod.mk.injEq, reduceCtorEq] at he
        all_goals exact he.2.symm
    | _ => simp [convA] at he
  | toBytes => exact absurd (show (2 : Nat) = 1 from h) (by decide)
  | bytes => exact absurd (show (2 : Nat) = 1 from h) (by decide)
  | _ => exact absurd (show (0 : Nat) = 1 from h) (by decide)
theorem exA_stay {op : AOp} (h : op.cl ≤ 1) {v : AV} (he : exA call ms op fr H = some (v, H2)) : H2 = H := by
  rcases Nat.lt_or_ge op.cl 1 with h0 | h1
  · rw [exA_pure (H := H) (by omega)] at he
    cases hx : exA call ms op fr H with
    | none => rw [hx] at he; cases he
    | some p =>
      have h3 := exA_pure (call := call) (ms := ms) (fr := fr) (H2 := H) (H := H) (op := op) (by omega)
      rw [hx] at h3 he
      simp only [Option.map_some, Option.some.injEq, Prod.mk.injEq] at he h3
      rw [h3] at he
      exact he.2.symm
  · have h2 : op.cl = 1 := by omega
    clear h h1
    cases op <;> (try (simp [AOp.cl] at h2; done)) <;> simp only [exA, vl, Bool.cond_eq_ite] at he <;>
      (repeat' split at he) <;> first | (cases he; done) | (simp only [Option.some.injEq, Prod.mk.injEq] at he; exact he.2.symm) | exact convA_stay h2 he | skip
theorem stepA_pure {o : AOper} (h : o.op.cl = 0) : stepA call ms o fr H2 = (stepA call ms o fr H).map fun p => (p.1, H2) := by
  simp only [stepA, exA_pure (H := H) (H2 := H2) h]
  split <;> rfl
theorem stepA_stay {o : AOper} (h : o.op.cl ≤ 1) {v : AV} (he : stepA call ms o fr H = some (v, H2)) : H2 = H := by
  simp only [stepA] at he
  split at he
  · exact exA_stay h he
  · simp only [Option.some.injEq, Prod.mk.injEq] at he; exact he.2.symm
  · cases he
mutual
theorem eqAV_eq : ∀ (a b : AV), eqAV a b = true → a = b
  | .bool a, y, h => by cases y <;> simp_all [eqAV]
  | .int k n, y, h => by cases y <;> simp_all [eqAV]
  | .str a, y, h => by cases y <;> simp_all [eqAV]
  | .ptr a, y, h => by cases y <;> simp_all [eqAV]
  | .slice a s n c, y, h => by cases y <;> simp_all [eqAV]
  | .map a, y, h => by cases y <;> simp_all [eqAV]
  | .nilFunc, y, h => by cases y <;> simp_all [eqAV]
  | .nilIface, y, h => by cases y <;> simp_all [eqAV]
  | .iface t v, y, h => by
    cases y <;> simp only [eqAV, Bool.and_eq_true, beq_iff_eq, Bool.false_eq_true] at h
    rw [h.1, eqAV_eq v _ h.2]
  | .agg l, y, h => by
    cases y <;> simp only [eqAV, Bool.false_eq_true] at h
    rw [eqAVL_eq l _ h]
  | .tuple l, y, h => by
    cases y <;> simp only [eqAV, Bool.false_eq_true] at h
    rw [eqAVL_eq l _ h]
  | .func _ _ _, y, h => by simp [eqAV] at h
theorem eqAVL_eq : ∀ (a b : List AV), eqAVL a b = true → a = b
  | [], [], _ => rfl
  | a :: as, b :: bs, h => by
    simp only [eqAVL, Bool.and_eq_true] at h
    rw [eqAV_eq a b h.1, eqAVL_eq as bs h.2]
  | [], _ :: _, h => by simp [eqAVL] at h
  | _ :: _, [], h => by simp [eqAVL] at h
end
theorem chkAt_all {o : AOper} {v : AV} : ∀ {hs : List AHeap}, chkAt call ms o fr v hs = true → ∀ H ∈ hs, ∃ H', stepA call ms o fr H = some (v, H')
  | [], _, _, h => by cases h
  | H :: hs, hc, H1, h1 => by
    simp only [chkAt, Bool.and_eq_true] at hc
    rcases List.mem_cons.1 h1 with rfl | h1
    · obtain ⟨hc, -⟩ := hc
      split at hc
      · rename_i v' H' hv
        rw [hv, eqAV_eq _ _ hc]
        exact ⟨H', rfl⟩
      · cases hc
    · exact chkAt_all hc.2 H1 h1
end
def AOper.mv (o : AOper) : Bool := o.op.cl.beq 2
def AOper.mn (o : AOper) : Nat := bif o.mv then 1 else 0
def apartA (a i : AOper) : Bool :=
  (match a.dst with | some d => !i.tm.contains d && i.dst != some d | none => true) && (match i.dst with | some d => !a.tm.contains d | none => true)
theorem putA_get (fr : AFr) (d : Option Nat) (v : AV) (t : Nat) : (putA fr d v).get t = if d = some t then some v else fr.get t := by
  cases d with
  | none => simp [putA]
  | some d => simp [putA, Tr.get_set]
section
variable {P : Program} {call : Rec} {ms : Meth} {hs : Nat → Option AHeap} {lo hi : Nat → Nat} {l : List AOper}
def StepC (call : Rec) (ms : Meth) (hs : Nat → Option AHeap) (lo hi : Nat → Nat) (o : AOper) (i k : Nat) (fr : AFr) (v : AV) : Prop :=
  if o.mv = true then ∃ H H', hs k = some H ∧ hs (k + 1) = some H' ∧ stepA call ms o fr H = some (v, H')
  else ∀ j H, lo i ≤ j → j ≤ hi i → hs j = some H → stepA call ms o fr H = some (v, H)
def GhC (call : Rec) (ms : Meth) (γ : Nat → Option (List AV)) (b : Option Nat) (o : AOper) (fr : AFr) (v : AV) : Prop :=
  ∃ Hi Hi', stepA call ms o fr Hi = some (v, Hi') ∧ (wantA fr o.guard = some true → b = some Hi.next ∧ ∃ l, Hi' = Hi.newRow l ∧ γ Hi.next = some l)
structure Gs where
  g : Nat → Bool
  b : Nat → Option Nat
def RunC (call : Rec) (ms : Meth) (γ : Nat → Option (List AV)) (G : Gs) (hs : Nat → Option AHeap) (lo hi : Nat → Nat) (l : List AOper) : List Nat → Nat → AFr → AFr → Prop
  | [], _, fr, fr' => ∀ t, fr.get t = fr'.get t
  | i :: R, k, fr, fr' => ∃ o v, l[i]? = some o ∧ (if G.g i = true then GhC call ms γ (G.b i) o fr v else StepC call ms hs lo hi o i k fr v) ∧ RunC call ms γ G hs lo hi l R (k + if G.g i = true then 0 else o.mn) (putA fr o.dst v) fr'
variable {γ : Nat → Option (List AV)} {G : Gs}
theorem StepC.congr {o : AOper} {i k k' : Nat} {fr fr2 : AFr} {v : AV} (h : StepC call ms hs lo hi o i k fr v) (hf : ∀ t ∈ o.tm, fr.get t = fr2.get t) (hk : o.mv = true → k = k') : StepC call ms hs lo hi o i k' fr2 v := by
  unfold StepC at *
  split
  · rename_i hm
    rw [if_pos hm] at h
    obtain ⟨H, H', h1, h2, h3⟩ := h
    rw [← hk hm]
    exact ⟨H, H', h1, h2, by rw [← stepA_congr hf]; exact h3⟩
  · rename_i hm
    rw [if_neg hm] at h
    intro j H h1 h2 h3
    rw [← stepA_congr hf]
    exact h j H h1 h2 h3
theorem GhC.congr {b : Option Nat} {o : AOper} {fr fr2 : AFr} {v : AV} (h : GhC call ms γ b o fr v) (hf : ∀ t ∈ o.tm, fr.get t = fr2.get t) : GhC call ms γ b o fr2 v := by
  obtain ⟨Hi, Hi', h1, h2⟩ := h
  have hw : wantA fr o.guard = wantA fr2 o.guard := wantA_congr fun t ⟨x, hx⟩ => hf t (by simp only [AOper.tm, hx]; simp)
  exact ⟨Hi, Hi', by rw [← stepA_congr hf]; exact h1, by rw [← hw]; exact h2⟩
theorem RunC.congr : ∀ {R : List Nat} {k : Nat} {fr fr2 fr' : AFr}, RunC call ms γ G hs lo hi l R k fr fr' → (∀ t, fr.get t = fr2.get t) → RunC call ms γ G hs lo hi l R k fr2 fr'
  | [], _, _, _, _, h, hf => fun t => by rw [← hf t]; exact h t
  | i :: R, k, fr, fr2, fr', h, hf => by
    obtain ⟨o, v, h1, h2, h3⟩ := h
    refine ⟨o, v, h1, ?_, RunC.congr h3 fun t => by rw [putA_get, putA_get, hf t]⟩
    split
    · rename_i hg
      rw [if_pos hg] at h2
      exact h2.congr fun t _ => hf t
    · rename_i hg
      rw [if_neg hg] at h2
      exact h2.congr (fun t _ => hf t) (fun _ => rfl)
theorem apartA_spec {a i : AOper} (h : apartA a i = true) : (∀ d, a.dst = some d → d ∉ i.tm) ∧ (∀ d, a.dst = some d → i.dst ≠ some d) ∧ (∀ d, i.dst = some d → d ∉ a.tm) := by
  unfold apartA at h
  refine ⟨fun d hd => ?_, fun d hd => ?_, fun d hd => ?_⟩ <;> simp [hd] at h
  · exact h.1.1
  · exact h.1.2
  · exact h.2
theorem RunC.swap {a i : Nat} {oa oi : AOper} {R : List Nat} {k : Nat} {fr fr' : AFr} (h : RunC call ms γ G hs lo hi l (a :: i :: R) k fr fr') (ha : l[a]? = some oa) (hi' : l[i]? = some oi) (hap : apartA oa oi = true) (hm : ((oa.mv && !G.g a) && (oi.mv && !G.g i)) = false) : RunC call ms γ G hs lo hi l (i :: a :: R) k fr fr' := by
  obtain ⟨oa', va, h1, h2, oi', vi, h3, h4, h5⟩ := h
  obtain rfl : oa = oa' := by rw [ha] at h1; exact Option.some.inj h1
  obtain rfl : oi = oi' := by rw [hi'] at h3; exact Option.some.inj h3
  obtain ⟨a1, a2, a3⟩ := apartA_spec hap
  refine ⟨oi, vi, h3, ?_, oa, va, h1, ?_, ?_⟩
  · split
    · rename_i hg
      rw [if_pos hg] at h4
      exact h4.congr fun t ht => by rw [putA_get, if_neg (fun e => a1 t e ht)]
    · rename_i hg
      rw [if_neg hg] at h4
      refine h4.congr (fun t ht => ?_) (fun hmi => ?_)
      · rw [putA_get, if_neg (fun e => a1 t e ht)]
      · by_cases hga : G.g a = true
        · rw [if_pos hga]; rfl
        · rw [if_neg hga]
          have : oa.mv = false := by
            have hgi : G.g i = false := by simpa using hg
            have hga' : G.g a = false := by simpa using hga
            simpa [hmi, hgi, hga'] using hm
          simp [AOper.mn, this]
  · split
    · rename_i hg
      rw [if_pos hg] at h2
      exact h2.congr fun t ht => by rw [putA_get, if_neg (fun e => a3 t e ht)]
    · rename_i hg
      rw [if_neg hg] at h2
      refine h2.congr (fun t ht => ?_) (fun hma => ?_)
      · rw [putA_get, if_neg (fun e => a3 t e ht)]
      · by_cases hgi : G.g i = true
        · rw [if_pos hgi]; rfl
        · rw [if_neg hgi]
          have : oi.mv = false := by
            have hga : G.g a = false := by simpa using hg
            have hgi' : G.g i = false := by simpa using hgi
            simpa [hma, hga, hgi'] using hm
          simp [AOper.mn, this]
  · rw [Nat.add_right_comm]
    refine h5.congr fun t => ?_
    simp only [putA_get]
    by_cases e1 : oi.dst = some t
    · by_cases e2 : oa.dst = some t
      · exact absurd e1 (a2 t e2)
      · rw [if_pos e1, if_neg e2, if_pos e1]
    · rw [if_neg e1, if_neg e1]
theorem RunC.move {i : Nat} {oi : AOper} {B : List Nat} {fr' : AFr} (hi' : l[i]? = some oi) : ∀ {A : List Nat} {k : Nat} {fr : AFr}, (∀ a ∈ A, ∃ oa, l[a]? = some oa ∧ apartA oa oi = true ∧ ((oa.mv && !G.g a) && (oi.mv && !G.g i)) = false) → RunC call ms γ G hs lo hi l (A ++ i :: B) k fr fr' → RunC call ms γ G hs lo hi l (i :: (A ++ B)) k fr fr'
  | [], _, _, _, h => h
  | a :: A, k, fr, hA, h => by
    obtain ⟨o, v, h1, h2, h3⟩ := h
    obtain ⟨oa, q1, q2, q3⟩ := hA a (by simp)
    have h4 := RunC.move hi' (fun a' ha' => hA a' (by simp [ha'])) h3
    exact RunC.swap (a := a) ⟨o, v, h1, h2, h4⟩ q1 hi' q2 q3
theorem RunC.other {γ' : Nat → Option (List AV)} {G' : Gs} : ∀ {R : List Nat} {k : Nat} {fr fr' : AFr}, RunC call ms γ G hs lo hi l R k fr fr' → (∀ j, j ∈ R → G'.g j = G.g j) → (∀ j b x, j ∈ R → G.g j = true → G.b j = some b → γ b = some x → G'.b j = some b ∧ γ' b = some x) → RunC call ms γ' G' hs lo hi l R k fr fr'
  | [], _, _, _, h, _, _ => h
  | i :: R, k, fr, fr', h, hg, hb => by
    obtain ⟨o, v, h1, h2, h3⟩ := h
    have e := hg i (by simp)
    refine ⟨o, v, h1, ?_, ?_⟩
    · rw [e]
      split
      · rename_i hgi
        rw [if_pos hgi] at h2
        obtain ⟨Hi, Hi', q1, q2⟩ := h2
        refine ⟨Hi, Hi', q1, fun hw => ?_⟩
        obtain ⟨p1, x, p2, p3⟩ := q2 hw
        obtain ⟨r1, r2⟩ := hb i _ x (by simp) hgi p1 p3
        exact ⟨r1, x, p2, r2⟩
      · rename_i hgi
        rw [if_neg hgi] at h2
        exact h2
    · rw [e]
      exact h3.other (fun j hj => hg j (by simp [hj])) fun j b x hj => hb j b x (by simp [hj])
theorem RunC.ahead {i : Nat} {oi : AOper} {B : List Nat} {fr' : AFr} (hi' : l[i]? = some oi) (hmv : oi.mv = true) (hgi : G.g i = false) : ∀ {A : List Nat} {k : Nat} {fr : AFr}, i ∉ A → i ∉ B → (∀ a ∈ A, ∃ oa, l[a]? = some oa ∧ (oa.mv && !G.g a) = false) → RunC call ms γ G hs lo hi l (A ++ i :: B) k fr fr' →
    ∃ H H' v fri, hs k = some H ∧ hs (k + 1) = some H' ∧ stepA call ms oi fri H = some (v, H') ∧ ∀ (γ' : Nat → Option (List AV)) (G' : Gs), G'.g i = true → (∀ j, j ≠ i → G'.g j = G.g j ∧ G'.b j = G.b j) → (∀ b x, γ b = some x → γ' b = some x) → (wantA fri oi.guard = some true → G'.b i = some H.next ∧ ∃ l, H' = H.newRow l ∧ γ' H.next = some l) → RunC call ms γ' G' hs lo hi l (A ++ i :: B) (k + 1) fr fr'
  | [], k, fr, _, hB, _, h => by
    obtain ⟨o, v, h1, h2, h3⟩ := h
    obtain rfl : oi = o := by rw [hi'] at h1; exact Option.some.inj h1
    rw [if_neg (by simp [hgi])] at h2
    unfold StepC at h2
    rw [if_pos hmv] at h2
    obtain ⟨H, H', q1, q2, q3⟩ := h2
    refine ⟨H, H', v, fr, q1, q2, q3, fun γ' G' g1 g2 g3 g4 => ⟨oi, v, h1, ?_, ?_⟩⟩
    · rw [if_pos g1]
      exact ⟨H, H', q3, g4⟩
    · rw [if_pos g1]
      rw [if_neg (by simp [hgi])] at h3
      have e : oi.mn = 1 := by simp [AOper.mn, hmv]
      rw [e] at h3
      refine h3.other (fun j hj => (g2 j fun e => hB (by rw [← e]; exact hj)).1) fun j b x hj _ hb hx => ⟨by rw [(g2 j fun e => hB (by rw [← e]; exact hj)).2]; exact hb, g3 b x hx⟩
  | a :: A, k, fr, hA, hB, hAA, h => by
    obtain ⟨o, v, h1, h2, h3⟩ := h
    obtain ⟨oa, q1, q2⟩ := hAA a (by simp)
    obtain rfl : oa = o := by rw [q1] at h1; exact Option.some.inj h1
    have hai : a ≠ i := fun e => hA (by simp [e])
    have e0 : (if G.g a = true then 0 else oa.mn) = 0 := by
      split
      · rfl
      · rename_i hg
        have : oa.mv = false := by simpa [show G.g a = false by simpa using hg] using q2
        simp [AOper.mn, this]
    rw [e0] at h3
    obtain ⟨H, H', vi, fri, p1, p2, p3, p4⟩ := RunC.ahead hi' hmv hgi (fun hm => hA (by simp [hm])) hB (fun a' ha' => hAA a' (by simp [ha'])) h3
    refine ⟨H, H', vi, fri, p1, p2, p3, fun γ' G' g1 g2 g3 g4 => ⟨oa, v, h1, ?_, ?_⟩⟩
    · rw [(g2 a hai).1]
      split
      · rename_i hg
        rw [if_pos hg] at h2
        obtain ⟨Hi, Hi', r1, r2⟩ := h2
        refine ⟨Hi, Hi', r1, fun hw => ?_⟩
        obtain ⟨t1, x, t2, t3⟩ := r2 hw
        exact ⟨by rw [(g2 a hai).2]; exact t1, x, t2, g3 _ _ t3⟩
      · rename_i hg
        rw [if_neg hg] at h2
        have : oa.mv = false := by simpa [show G.g a = false by simpa using hg] using q2
        exact h2.congr (fun _ _ => rfl) (fun hm => by rw [this] at hm; cases hm)
    · rw [(g2 a hai).1, e0]
      exact p4 γ' G' g1 g2 g3 g4
theorem wpOp_sim {Z : Nat → Prop} {ρ : Rho} {H H' : AHeap} {w : World} {nt : Nat} (hcall : CallOK P call) (hms : ckMeth P ms) {ops : Array Oper} {Q : Exit → Act → World → Prop} {i : Nat} {o : Oper} {ao : AOper} (ho : ops[i]? = some o) (hc : ckOper P nt ops o ao = true) (h : HS Z ρ H w) {fr : AFr} {a : Act} (hf : Fr nt ρ fr a) {v : AV} (he : stepA call ms ao fr H = some (v, H')) {K : Act → World → Prop}
    (hK : ∀ ρ' a' w', Ext ρ ρ' → HS Z ρ' H' w' → Kp Z w w' → Fr nt ρ' (putA fr ao.dst v) a' → K a' w') : wpOp P ops Q i K a w := by
  simp only [ckOper, Bool.and_eq_true, beq_iff_eq] at hc
  obtain ⟨⟨⟨hdst, hnt⟩, hop⟩, hg⟩ := hc
  have hnt' : ∀ t, o.dst = some t → t < nt := fun t ht => by rw [ht] at hnt; simpa using hnt
  unfold wpOp
  simp only [ho]
  unfold stepA at he
  split at he
  · rename_i hw
    rw [want_sim hg hf.rf hw]
    simp only [if_true]
    refine .inl (oper_sim hcall hms hop h hf.rf he fun ρ' u w' q1 q2 q3 q4 => ?_)
    refine hK ρ' _ w' q1 q2 q3 ?_
    rw [← hdst]
    exact (hf.mono q1).put q4 hnt'
  · rename_i hw
    rw [want_sim hg hf.rf hw]
    simp only [Bool.false_eq_true, if_false]
    simp only [Option.some.injEq, Prod.mk.injEq] at he
    obtain ⟨rfl, rfl⟩ := he
    refine hK ρ _ w (Ext.refl _) h (Kp.refl _ _) ?_
    rw [← hdst]
    exact hf.put undef_R hnt'
  · cases he
end
def ancAt (ws : List (Nat × Nat × List Nat)) (i : Nat) : List Nat := match ws[i]? with | some (_, _, a) => a | none => []
def loAt (ws : List (Nat × Nat × List Nat)) (i : Nat) : Nat := match ws[i]? with | some (a, _, _) => a | none => 0
def hiAt (ws : List (Nat × Nat × List Nat)) (i : Nat) : Nat := match ws[i]? with | some (_, b, _) => b | none => 0
def mvAt (l : List AOper) (i : Nat) : Bool := match l[i]? with | some o => o.mv | none => false
def befAt (ws : List (Nat × Nat × List Nat)) (j i : Nat) : Bool := (ancAt ws i).contains j
def ckD1 (l : List AOper) (ws : List (Nat × Nat × List Nat)) (o : Oper) (i : Nat) : Bool :=
  o.after.all (fun e => !Region.binds .any e || decide (e.on < i)) &&
  (ancAt ws i).all (fun a => o.after.any fun e => Region.binds .any e && (e.on == a || befAt ws a e.on))
def ckD2 (l : List AOper) (ws : List (Nat × Nat × List Nat)) (ao : AOper) (i : Nat) : Bool :=
  (List.range i).all (fun j => befAt ws j i || (match l[j]? with | some aj => apartA aj ao && (!(aj.mv && ao.mv) || aj.op.ghk) | none => false))
def ghAt (l : List AOper) (ws : List (Nat × Nat × List Nat)) (n i : Nat) : Bool := (match l[i]? with | some o => o.op.ghk | none => false) && (List.range n).any fun j => decide (i < j) && mvAt l j && !befAt ws i j
def latAt (l : List AOper) (ws : List (Nat × Nat × List Nat)) (n j i : Nat) : Bool := (List.range n).any fun x => decide (j < x) && mvAt l x && befAt ws x i
def ckD3 (l : List AOper) (ws : List (Nat × Nat × List Nat)) (n m i : Nat) : Bool :=
  decide (loAt ws i + (List.range n).countP (fun j => mvAt l j && !befAt ws j i && !latAt l ws n j i) ≤ m) && decide (m ≤ hiAt ws i + (List.range n).countP (fun j => mvAt l j && befAt ws i j && !ghAt l ws n j))
def ckD (ops : Array Oper) (l : List AOper) (ws : List (Nat × Nat × List Nat)) : Bool :=
  (List.range ops.size).all fun i => match ops[i]?, l[i]? with
    | some o, some ao => ckD1 l ws o i && ckD2 l ws ao i && (ao.mv || ckD3 l ws ops.size ((List.range ops.size).countP (mvAt l)) i)
    | _, _ => false
theorem ckD_spec {ops : Array Oper} {l : List AOper} {ws : List (Nat × Nat × List Nat)} (h : ckD ops l ws = true) {i : Nat} {o : Oper} (ho : ops[i]? = some o) : ∃ ao, l[i]? = some ao ∧
    (∀ e ∈ o.after, Region.binds .any e = true → e.on < i) ∧ (∀ a, befAt ws a i = true → ∃ e ∈ o.after, Region.binds .any e = true ∧ (e.on = a ∨ befAt ws a e.on = true)) ∧
    (∀ j, j < i → befAt ws j i = true ∨ ∃ aj, l[j]? = some aj ∧ apartA aj ao = true ∧ ((aj.mv && ao.mv) = false ∨ aj.op.ghk = true)) ∧
    (ao.mv = false → loAt ws i + (List.range ops.size).countP (fun j => mvAt l j && !befAt ws j i && !latAt l ws ops.size j i) ≤ (List.range ops.size).countP (mvAt l) ∧ (List.range ops.size).countP (mvAt l) ≤ hiAt ws i + (List.range ops.size).countP (fun j => mvAt l j && befAt ws i j && !ghAt l ws ops.size j)) := by
  have hi : i < ops.size := (Array.getElem?_eq_some_iff.1 ho).1
  simp only [ckD, List.all_eq_true, List.mem_range] at h
  have h1 := h i hi
  rw [ho] at h1
  cases hl : l[i]? with
  | none => rw [hl] at h1; cases h1
  | some ao =>
    rw [hl] at h1
    simp only [Bool.and_eq_true, ckD1, ckD2, Array.all_eq_true_iff_forall_mem, List.all_eq_true, List.mem_range, Bool.or_eq_true, Bool.not_eq_true', decide_eq_true_eq] at h1
    obtain ⟨⟨⟨q1, q2⟩, q3⟩, q4⟩ := h1
    refine ⟨ao, rfl, fun e he hb => (q1 e he).resolve_left (by simp [hb]), fun a ha => ?_, fun j hj => ?_, fun hm => ?_⟩
    · have := q2 a (by simpa [befAt] using ha)
      obtain ⟨e, he, hb⟩ := Array.any_eq_true'.1 this
      simp only [Bool.and_eq_true, Bool.or_eq_true, beq_iff_eq] at hb
      exact ⟨e, he, hb.1, hb.2⟩
    · rcases q3 j hj with h3 | h3
      · exact .inl h3
      · right
        split at h3
        · rename_i aj haj
          simp only [Bool.and_eq_true, Bool.or_eq_true, Bool.not_eq_true'] at h3
          exact ⟨aj, haj, h3.1, h3.2⟩
        · cases h3
    · rcases q4 with h4 | h4
      · rw [hm] at h4; cases h4
      · simpa [ckD3] using h4
section
variable {P : Program} {call : Rec} {ms : Meth} {Z : Nat → Prop} {nt : Nat} {ops : Array Oper} {l : List AOper} {ws : List (Nat × Nat × List Nat)}
def unl (n : Nat) (listed : Array Bool) : List Nat := (List.range n).filter fun j => !listed.getD j true
def Closed (ops : Array Oper) (listed : Array Bool) : Prop := ∀ j o, ops[j]? = some o → listed.getD j false = true → ∀ e ∈ o.after, Region.binds .any e = true → listed.getD e.on false = true
theorem getD_tf {listed : Array Bool} {j : Nat} (hj : j < listed.size) : listed.getD j true = listed.getD j false := by
  simp [Array.getD_eq_getD_getElem?, hj]
theorem bef_listed (hck : ckD ops l ws = true) {listed : Array Bool} (hcl : Closed ops listed) (hsz : listed.size = ops.size) : ∀ (n i : Nat) (o : Oper) (a : Nat), i ≤ n → ops[i]? = some o → befAt ws a i = true → (∀ e ∈ o.after, Region.binds .any e = true → listed.getD e.on false = true) → listed.getD a false = true := by
  intro n
  induction n with
  | zero =>
    intro i o a hi ho ha he
    obtain ⟨ao, -, h1, h2, -⟩ := ckD_spec hck ho
    obtain ⟨e, q1, q2, q3⟩ := h2 a ha
    exact absurd (h1 e q1 q2) (by omega)
  | succ n ih =>
    intro i o a hi ho ha he
    obtain ⟨ao, -, h1, h2, -⟩ := ckD_spec hck ho
    obtain ⟨e, q1, q2, q3⟩ := h2 a ha
    have hl := he e q1 q2
    rcases q3 with rfl | q3
    · exact hl
    · have hlt := h1 e q1 q2
      have hin : i < ops.size := (Array.getElem?_eq_some_iff.1 ho).1
      obtain ⟨o', ho'⟩ : ∃ o', ops[e.on]? = some o' := ⟨ops[e.on], Array.getElem?_eq_some_iff.2 ⟨by omega, rfl⟩⟩
      exact ih e.on o' a (by omega) ho' q3 (hcl e.on o' ho' hl)
theorem mem_unl {n : Nat} {listed : Array Bool} {j : Nat} : j ∈ unl n listed ↔ j < n ∧ listed.getD j true = false := by
  simp [unl, List.mem_filter, List.mem_range]
theorem unl_nodup (n : Nat) (listed : Array Bool) : (unl n listed).Nodup := List.Pairwise.filter _ List.nodup_range
theorem unl_set {n : Nat} {listed : Array Bool} {i : Nat} {A B : List Nat} (hsz : listed.size = n) (h : unl n listed = A ++ i :: B) : unl n (listed.setIfInBounds i true) = A ++ B := by
  have hnd : (unl n listed).Nodup := List.Pairwise.filter _ List.nodup_range
  have h1 : unl n (listed.setIfInBounds i true) = (unl n listed).filter fun j => j != i := by
    unfold unl
    rw [List.filter_filter]
    refine List.filter_congr fun j hj => ?_
    by_cases hij : i = j
    · subst hij
      have hlt : i < listed.size := by rw [hsz]; simpa using hj
      simp [hlt]
    · rw [getD_set_ne true hij]
      simp [Ne.symm hij]
  rw [h1, h]
  rw [h] at hnd
  have h2 := List.nodup_append.1 hnd
  have h3 := List.nodup_cons.1 h2.2.1
  rw [List.filter_append, List.filter_cons]
  simp only [bne_self_eq_false, Bool.false_eq_true, if_false]
  rw [List.filter_eq_self.2, List.filter_eq_self.2]
  · intro a ha; simp only [bne_iff_ne, ne_eq]; rintro rfl; exact h3.1 ha
  · intro a ha; simp only [bne_iff_ne, ne_eq]; rintro rfl; exact h2.2.2 a ha a (by simp) rfl
structure Inv (call : Rec) (ms : Meth) (Z : Nat → Prop) (nt : Nat) (l : List AOper) (ws : List (Nat × Nat × List Nat)) (n : Nat) (hs : Nat → Option AHeap) (fr' : AFr) (ρ0 : Rho) (w0 : World) (U : List Nat) (k : Nat) (fr : AFr) (ρ : Rho) (H : AHeap) (w : World) (a : Act) (G : Gs) : Prop where
  cnt : k + U.countP (fun j => mvAt l j && !G.g j) = (List.range n).countP (mvAt l)
  run : RunC call ms ρ.gh G hs (loAt ws) (hiAt ws) l U k fr fr'
  hH : hs k = some H
  h : HS Z ρ H w
  hf : Fr nt ρ fr a
  hG : ∀ j, G.g j = true → j ∈ U ∧ ghAt l ws n j = true
  hb : ∀ j b, G.g j = true → G.b j = some b → ∃ x, ρ.gh b = some x
  hi : ∀ j j' b, G.g j = true → G.g j' = true → G.b j = some b → G.b j' = some b → j = j'
  e0 : ExtF ρ0 ρ
  e1 : ∀ b x, ρ0.gh b = some x → ρ.gh b = some x
  e2 : ∀ j b, G.g j = true → G.b j = some b → ρ0.gh b = none
  kp : Kp Z w0 w
  pre : ∀ j x, j ∈ U → mvAt l j = true → G.g j = false → j < x → x < n → mvAt l x = true → x ∈ U ∧ G.g x = false
theorem wantA_cases (fr : AFr) (g : Option (Nat × Bool)) : wantA fr g = some true ∨ wantA fr g = some false ∨ wantA fr g = none := by
  cases wantA fr g with
  | none => exact .inr (.inr rfl)
  | some b => cases b <;> simp
theorem Inv.one {n : Nat} {hs : Nat → Option AHeap} {fr' : AFr} {ρ0 : Rho} {w0 : World} {A B : List Nat} {i k : Nat} {fr : AFr} {ρ : Rho} {H : AHeap} {w : World} {a : Act} {G : Gs} (V : Inv call ms Z nt l ws n hs fr' ρ0 w0 (A ++ i :: B) k fr ρ H w a G) (hnd : (A ++ i :: B).Nodup) (hpw : (A ++ i :: B).Pairwise (· < ·)) {oi : AOper} (hoi : l[i]? = some oi) (hmv : oi.mv = true) (hgk : oi.op.ghk = true) (hgi : G.g i = false) (hga : ghAt l ws n i = true) (hA : ∀ x ∈ A, ∃ oa, l[x]? = some oa ∧ (oa.mv && !G.g x) = false) :
    ∃ ρ' H' G', Inv call ms Z nt l ws n hs fr' ρ0 w0 (A ++ i :: B) (k + 1) fr ρ' H' w a G' ∧ G'.g i = true ∧ ∀ j, j ≠ i → G'.g j = G.g j := by
  have h2 := List.nodup_append.1 hnd
  have h3 := List.nodup_cons.1 h2.2.1
  have hiA : i ∉ A := fun hm => h2.2.2 i hm i (by simp) rfl
  obtain ⟨H0, H', v, fri, p1, p2, p3, p4⟩ := RunC.ahead hoi hmv hgi hiA h3.1 hA V.run
  obtain rfl : H = H0 := by rw [V.hH] at p1; exact Option.some.inj p1
  have hmvi : mvAt l i = true := by simp [mvAt, hoi, hmv]
  have hcnt : ∀ G' : Gs, G'.g i = true → (∀ j, j ≠ i → G'.g j = G.g j) → k + 1 + (A ++ i :: B).countP (fun j => mvAt l j && !G'.g j) = (List.range n).countP (mvAt l) := fun G' g1 g2 => by
    have h0 := V.cnt
    rw [List.countP_append, List.countP_cons] at h0 ⊢
    have c1 : A.countP (fun j => mvAt l j && !G'.g j) = A.countP (fun j => mvAt l j && !G.g j) := List.countP_congr fun j hj => by rw [g2 j fun e => hiA (by rw [← e]; exact hj)]
    have c2 : B.countP (fun j => mvAt l j && !G'.g j) = B.countP (fun j => mvAt l j && !G.g j) := List.countP_congr fun j hj => by rw [g2 j fun e => h3.1 (by rw [← e]; exact hj)]
    rw [c1, c2]
    simp only [hmvi, g1, hgi, Bool.not_true, Bool.not_false, Bool.and_true, Bool.and_false, Bool.false_eq_true, if_true, if_false] at h0 ⊢
    omega
  have hmem : i ∈ A ++ i :: B := by simp
  have hpre : ∀ G' : Gs, G'.g i = true → (∀ j, j ≠ i → G'.g j = G.g j) → ∀ j x, j ∈ A ++ i :: B → mvAt l j = true → G'.g j = false → j < x → x < n → mvAt l x = true → x ∈ A ++ i :: B ∧ G'.g x = false := fun G' g1 g2 j x hj hm hg hlt hx hmx => by
    have hji : j ≠ i := fun e => by rw [e, g1] at hg; cases hg
    rw [g2 j hji] at hg
    obtain ⟨r1, r2⟩ := V.pre j x hj hm hg hlt hx hmx
    have hxi : x ≠ i := fun e => by
      subst e
      rcases List.mem_append.1 hj with hj | hj
      · obtain ⟨oa, t1, t2⟩ := hA j hj
        have : oa.mv = true := by simpa [mvAt, t1] using hm
        rw [this, hg] at t2
        cases t2
      · rcases List.mem_cons.1 hj with hj | hj
        · exact hji hj
        · have := (List.pairwise_cons.1 (List.pairwise_append.1 hpw).2.1).1 j hj
          omega
    exact ⟨r1, by rw [g2 x hxi]; exact r2⟩
  rcases wantA_cases fri oi.guard with hw | hw | hw
  · have p5 : exA call ms oi.op fri H = some (v, H') := by simpa only [stepA, hw] using p3
    obtain ⟨mk, cs, q1, q2, q3, q4⟩ := ghk_shape hgk p5
    subst q2
    obtain ⟨g1, g2⟩ := V.h.ghost cs
    have hself : (ρ.ghost H.next cs).gh H.next = some cs := by show (if H.next = H.next then some cs else _) = _; rw [if_pos rfl]
    have hno0 : ρ.gh H.next = none := by
      cases hq : ρ.gh H.next with
      | none => rfl
      | some x => have := (V.h.gh _ _ hq).2.1; omega
    refine ⟨ρ.ghost H.next cs, H.newRow cs, ⟨fun j => if j = i then true else G.g j, fun j => if j = i then some H.next else G.b j⟩, ⟨?_, ?_, p2, g1, V.hf.mono g2, fun j hj => ?_, fun j b hj hb => ?_, fun j j' b hj hj' hb hb' => ?_, fun b x hx => g2.1 _ _ (V.e0 b x hx), fun b x hx => g2.2 _ _ (V.e1 b x hx), fun j b hj hb => ?_, V.kp, hpre _ (by simp) fun j hj => by simp [hj]⟩, by simp, fun j hj => by simp [hj]⟩
    · exact hcnt _ (by simp) fun j hj => by simp [hj]
    · exact p4 _ _ (by simp) (fun j hj => by simp [hj]) (fun b x hx => g2.2 b x hx) fun _ => ⟨by simp, cs, rfl, hself⟩
    · by_cases e : j = i
      · subst e; exact ⟨hmem, hga⟩
      · exact V.hG j (by simpa [e] using hj)
    · by_cases e : j = i
      · subst e
        have : H.next = b := by simpa using hb
        subst this; exact ⟨cs, hself⟩
      · obtain ⟨x, hx⟩ := V.hb j b (by simpa [e] using hj) (by simpa [e] using hb)
        exact ⟨x, g2.2 _ _ hx⟩
    · by_cases e : j = i
      · by_cases e' : j' = i
        · rw [e, e']
        · have hbn : H.next = b := by simpa [e] using hb
          obtain ⟨x, hx⟩ := V.hb j' b (by simpa [e'] using hj') (by simpa [e'] using hb')
          have := (V.h.gh _ _ hx).2.1
          omega
      · by_cases e' : j' = i
        · have hbn : H.next = b := by simpa [e'] using hb'
          obtain ⟨x, hx⟩ := V.hb j b (by simpa [e] using hj) (by simpa [e] using hb)
          have := (V.h.gh _ _ hx).2.1
          omega
        · exact V.hi j j' b (by simpa [e] using hj) (by simpa [e'] using hj') (by simpa [e] using hb) (by simpa [e'] using hb')
    · by_cases e : j = i
      · have hbn : H.next = b := by simpa [e] using hb
        subst hbn
        cases hq : ρ0.gh H.next with
        | none => rfl
        | some x => rw [V.e1 _ _ hq] at hno0; cases hno0
      · exact V.e2 j b (by simpa [e] using hj) (by simpa [e] using hb)
  · have p5 : H' = H := by
      simp only [stepA, hw, Option.some.injEq, Prod.mk.injEq] at p3
      exact p3.2.symm
    subst p5
    refine ⟨ρ, H', ⟨fun j => if j = i then true else G.g j, fun j => if j = i then none else G.b j⟩, ⟨?_, ?_, p2, V.h, V.hf, fun j hj => ?_, fun j b hj hb => ?_, fun j j' b hj hj' hb hb' => ?_, V.e0, V.e1, fun j b hj hb => ?_, V.kp, hpre _ (by simp) fun j hj => by simp [hj]⟩, by simp, fun j hj => by simp [hj]⟩
    · exact hcnt _ (by simp) fun j hj => by simp [hj]
    · exact p4 _ _ (by simp) (fun j hj => by simp [hj]) (fun b x hx => hx) fun hw' => by rw [hw] at hw'; cases hw'
    · by_cases e : j = i
      · subst e; exact ⟨hmem, hga⟩
      · exact V.hG j (by simpa [e] using hj)
    · by_cases e : j = i
      · simp [e] at hb
      · exact V.hb j b (by simpa [e] using hj) (by simpa [e] using hb)
    · by_cases e : j = i
      · simp [e] at hb
      · by_cases e' : j' = i
        · simp [e'] at hb'
        · exact V.hi j j' b (by simpa [e] using hj) (by simpa [e'] using hj') (by simpa [e] using hb) (by simpa [e'] using hb')
    · by_cases e : j = i
      · simp [e] at hb
      · exact V.e2 j b (by simpa [e] using hj) (by simpa [e] using hb)
  · simp only [stepA, hw] at p3; cases p3
theorem Inv.all {n : Nat} {hs : Nat → Option AHeap} {fr' : AFr} {ρ0 : Rho} {w0 : World} {fr : AFr} {w : World} {a : Act} {C : List Nat} : ∀ (A2 A1 : List Nat) (k : Nat) (ρ : Rho) (H : AHeap) (G : Gs), Inv call ms Z nt l ws n hs fr' ρ0 w0 (A1 ++ (A2 ++ C)) k fr ρ H w a G → (A1 ++ (A2 ++ C)).Nodup → (A1 ++ (A2 ++ C)).Pairwise (· < ·) → (∀ x ∈ A1, ∃ oa, l[x]? = some oa ∧ (oa.mv && !G.g x) = false) → (∀ x ∈ A2, ∃ oa, l[x]? = some oa ∧ (oa.mv = true → oa.op.ghk = true ∧ ghAt l ws n x = true)) →
    ∃ k' ρ' H' G', Inv call ms Z nt l ws n hs fr' ρ0 w0 (A1 ++ (A2 ++ C)) k' fr ρ' H' w a G' ∧ (∀ x ∈ A1 ++ A2, ∃ oa, l[x]? = some oa ∧ (oa.mv && !G'.g x) = false) ∧ ∀ j, j ∉ A2 → G'.g j = G.g j
  | [], A1, k, ρ, H, G, V, _, _, h1, _ => ⟨k, ρ, H, G, V, by simpa using h1, fun _ _ => rfl⟩
  | x :: A2, A1, k, ρ, H, G, V, hnd, hpw, h1, h2 => by
    obtain ⟨ox, o1, o2⟩ := h2 x (by simp)
    have ea : A1 ++ (x :: A2 ++ C) = (A1 ++ [x]) ++ (A2 ++ C) := by simp
    have eb : A1 ++ (x :: A2 ++ C) = A1 ++ x :: (A2 ++ C) := by simp
    have hnd2 := hnd
    rw [eb] at hnd2
    have hpw2 := hpw
    rw [eb] at hpw2
    have hd := List.nodup_append.1 hnd2
    have hxA : x ∉ A1 := fun hm => hd.2.2 x hm x (by simp) rfl
    have hx2 : x ∉ A2 := fun hm => (List.nodup_cons.1 hd.2.1).1 (by simp [hm])
    by_cases hm : (ox.mv && !G.g x) = false
    · rw [ea] at V hnd hpw ⊢
      obtain ⟨k', ρ', H', G', q1, q2, q3⟩ := Inv.all A2 (A1 ++ [x]) k ρ H G V hnd hpw (fun y hy => by
        rcases List.mem_append.1 hy with hy | hy
        · exact h1 y hy
        · obtain rfl : y = x := by simpa using hy
          exact ⟨ox, o1, hm⟩) fun y hy => h2 y (by simp [hy])
      exact ⟨k', ρ', H', G', q1, by simpa using q2, fun j hj => q3 j fun e => hj (by simp [e])⟩
    · have hm' : ox.mv = true ∧ G.g x = false := by simpa using hm
      obtain ⟨o3, o4⟩ := o2 hm'.1
      have V' := V
      rw [eb] at V'
      obtain ⟨ρ1, H1, G1, V1, g1, g2⟩ := V'.one hnd2 hpw2 o1 hm'.1 o3 hm'.2 o4 h1
      rw [← eb, ea] at V1
      rw [ea] at hnd hpw ⊢
      obtain ⟨k', ρ', H', G', q1, q2, q3⟩ := Inv.all A2 (A1 ++ [x]) (k + 1) ρ1 H1 G1 V1 hnd hpw (fun y hy => by
        rcases List.mem_append.1 hy with hy | hy
        · obtain ⟨oa, r1, r2⟩ := h1 y hy
          exact ⟨oa, r1, by rw [g2 y fun e => hxA (by rw [← e]; exact hy)]; exact r2⟩
        · obtain rfl : y = x := by simpa using hy
          exact ⟨ox, o1, by rw [g1]; simp⟩) fun y hy => h2 y (by simp [hy])
      exact ⟨k', ρ', H', G', q1, by simpa using q2, fun j hj => by
        rw [q3 j fun e => hj (by simp [e]), g2 j fun e => hj (by simp [e])]⟩
theorem ghk_cl {op : AOp} (h : op.ghk = true) : op.cl = 2 := by
  cases op <;> simp only [AOp.ghk, Bool.false_eq_true] at h <;> rfl
theorem RF.monoF {ρ ρ' : Rho} {fr : AFr} {a : Act} (h : RF ρ fr a) (hx : ExtF ρ ρ') : RF ρ' fr a := fun t v ht => by
  obtain ⟨u, hu, hr⟩ := h t v ht
  exact ⟨u, hu, R.monoF hx _ _ hr⟩
theorem Fr.monoF {fr : AFr} {a : Act} {ρ ρ' : Rho} (h : Fr nt ρ fr a) (hx : ExtF ρ ρ') : Fr nt ρ' fr a := ⟨h.rf.monoF hx, h.size, h.defers⟩
theorem wpOp_real {ρ : Rho} {H : AHeap} {w : World} {Q : Exit → Act → World → Prop} {i : Nat} {o : Oper} {ao : AOper} (ho : ops[i]? = some o) (hc : ckOper P nt ops o ao = true) (hgk : ao.op.ghk = true) (h : HS Z ρ H w) {fr : AFr} {a : Act} (hf : Fr nt ρ fr a) {b : Option Nat} {v : AV} (hg : GhC call ms ρ.gh b ao fr v) {K : Act → World → Prop}
    (hK : ∀ ρ' a' w', ExtF ρ ρ' → (∀ x l', b ≠ some x → ρ.gh x = some l' → ρ'.gh x = some l') → HS Z ρ' H w' → Kp Z w w' → Fr nt ρ' (putA fr ao.dst v) a' → K a' w') : wpOp P ops Q i K a w := by
  simp only [ckOper, Bool.and_eq_true, beq_iff_eq] at hc
  obtain ⟨⟨⟨hdst, hnt⟩, hop⟩, hgd⟩ := hc
  have hnt' : ∀ t, o.dst = some t → t < nt := fun t ht => by rw [ht] at hnt; simpa using hnt
  obtain ⟨Hi, Hi', he, hw0⟩ := hg
  unfold wpOp
  simp only [ho]
  unfold stepA at he
  split at he
  · rename_i hw
    obtain ⟨hb, cs, rfl, hgh⟩ := hw0 hw
    rw [want_sim hgd hf.rf hw]
    simp only [if_true]
    refine .inl (ghk_real hop hgk h hf.rf he hgh fun ρ' u w' q1 q2 q3 q4 q5 => ?_)
    refine hK ρ' _ w' q1 (fun x l' hx hl => q2 x l' (fun e => hx (by rw [hb, e])) hl) q3 q4 ?_
    rw [← hdst]
    exact (hf.monoF q1).put q5 hnt'
  · rename_i hw
    rw [want_sim hgd hf.rf hw]
    simp only [Bool.false_eq_true, if_false]
    simp only [Option.some.injEq, Prod.mk.injEq] at he
    obtain ⟨rfl, rfl⟩ := he
    refine hK ρ _ w (fun _ _ hx => hx) (fun _ _ _ hl => hl) h (Kp.refl _ _) ?_
    rw [← hdst]
    exact hf.put undef_R hnt'
  · cases he
theorem any_sim (hcall : CallOK P call) (hms : ckMeth P ms) (hck : ckD ops l ws = true) (hops : ∀ (i : Nat) o ao, ops[i]? = some o → l[i]? = some ao → ckOper P nt ops o ao = true) {hs : Nat → Option AHeap} {Hl : AHeap} (hHl : hs ((List.range ops.size).countP (mvAt l)) = some Hl) {fr' : AFr} {Q : Exit → Act → World → Prop} {ρ0 : Rho} {w0 : World}
    (hQ : ∀ ρ' a' w', Ext ρ0 ρ' → HS Z ρ' Hl w' → Kp Z w0 w' → Fr nt ρ' fr' a' → Q .normal a' w') :
    ∀ (fuel : Nat) (listed : Array Bool) (k : Nat) (fr : AFr) (ρ : Rho) (H : AHeap) (w : World) (a : Act) (G : Gs), listed.size = ops.size → Closed ops listed → (unl ops.size listed).length = fuel → Inv call ms Z nt l ws ops.size hs fr' ρ0 w0 (unl ops.size listed) k fr ρ H w a G →
      wpAny P .any ops Q fuel listed a w := by
  intro fuel
  induction fuel with
  | zero =>
    intro listed k fr ρ H w a G hsz hcl hlen V
    have hnil : unl ops.size listed = [] := List.length_eq_zero_iff.1 hlen
    rw [hnil] at V
    have hk := V.cnt
    simp only [List.countP_nil, Nat.add_zero] at hk
    have hH := V.hH
    rw [hk] at hH
    obtain rfl : H = Hl := by rw [hH] at hHl; exact Option.some.inj hHl
    have hrun : ∀ t, fr.get t = fr'.get t := V.run
    refine ⟨?_, hQ ρ a w ⟨V.e0, V.e1⟩ V.h V.kp ⟨fun t v ht => V.hf.rf t v (by rw [hrun t]; exact ht), V.hf.size, V.hf.defers⟩⟩
    cases hr : Region.ready .any ops listed with
    | nil => rfl
    | cons i is =>
      obtain ⟨h0, o, ho, -⟩ := mem_ready.1 (show i ∈ Region.ready .any ops listed by rw [hr]; simp)
      have : i ∈ unl ops.size listed := mem_unl.2 ⟨(Array.getElem?_eq_some_iff.1 ho).1, h0⟩
      rw [hnil] at this; cases this
  | succ fuel ih =>
    intro listed k fr ρ H w a G hsz hcl hlen V
    have hpw : (unl ops.size listed).Pairwise (· < ·) := List.Pairwise.filter _ List.pairwise_lt_range
    refine ⟨fun hr => ?_, fun i hi => ?_⟩
    · exfalso
      cases hu : unl ops.size listed with
      | nil => rw [hu] at hlen; cases hlen
      | cons i0 R =>
        obtain ⟨hlt, h0⟩ := mem_unl.1 (show i0 ∈ unl ops.size listed by rw [hu]; simp)
        have ho : ops[i0]? = some ops[i0] := Array.getElem?_eq_some_iff.2 ⟨hlt, rfl⟩
        obtain ⟨ao, -, h1, -⟩ := ckD_spec hck ho
        have : i0 ∈ Region.ready .any ops listed := mem_ready.2 ⟨h0, ops[i0], ho, fun e he hb => by
          have hlt' := h1 e he hb
          rcases hb' : listed.getD e.on false with _ | _
          · have : e.on ∈ unl ops.size listed := mem_unl.2 ⟨by omega, by rw [getD_tf (by omega)]; exact hb'⟩
            rw [hu] at this hpw
            rcases List.mem_cons.1 this with h3 | h3
            · omega
            · have := (List.pairwise_cons.1 hpw).1 e.on h3
              omega
          · rfl⟩
        rw [hr] at this; cases this
    · obtain ⟨h0, o, ho, hed⟩ := mem_ready.1 hi
      have hin : i < ops.size := (Array.getElem?_eq_some_iff.1 ho).1
      obtain ⟨ao, hao, s1, s2, s3, s4⟩ := ckD_spec hck ho
      have hbl : ∀ a, befAt ws a i = true → listed.getD a false = true := fun a ha => bef_listed hck hcl hsz i i o a (Nat.le_refl _) ho ha hed
      have hlb : ∀ j, j < ops.size → befAt ws i j = true → listed.getD j true = false := fun j hj hb => by
        rw [getD_tf (by omega)]
        rcases hb' : listed.getD j false with _ | _
        · rfl
        · have hoj : ops[j]? = some ops[j] := Array.getElem?_eq_some_iff.2 ⟨hj, rfl⟩
          have := bef_listed hck hcl hsz j j _ i (Nat.le_refl _) hoj hb (hcl j _ hoj hb')
          rw [getD_tf (by omega), this] at h0
          cases h0
      obtain ⟨A, B, hAB⟩ := List.append_of_mem (mem_unl.2 ⟨hin, h0⟩ : i ∈ unl ops.size listed)
      have hnd := unl_nodup ops.size listed
      rw [hAB] at V hnd
      have hpwU := hpw
      rw [hAB] at hpwU
      have hd := List.nodup_append.1 hnd
      have hiA : i ∉ A := fun hm => hd.2.2 i hm i (by simp) rfl
      have hiB : i ∉ B := (List.nodup_cons.1 hd.2.1).1
      have hmvi : mvAt l i = ao.mv := by simp [mvAt, hao]
      have hAs : ∀ x ∈ A, x < i ∧ befAt ws x i = false ∧ ∃ aj, l[x]? = some aj ∧ apartA aj ao = true ∧ ((aj.mv && ao.mv) = false ∨ aj.op.ghk = true) := fun x hx => by
        have hpw' := hpw
        rw [hAB] at hpw'
        have hlt : x < i := (List.pairwise_append.1 hpw').2.2 x hx i (by simp)
        have hnb : befAt ws x i = false := by
          rcases hb : befAt ws x i with _ | _
          · rfl
          · have h4 := hbl x hb
            have h5 := (mem_unl.1 (show x ∈ unl ops.size listed by rw [hAB]; simp [hx])).2
            rw [getD_tf (by omega), h4] at h5
            cases h5
        rcases s3 x hlt with hb | hb
        · rw [hnb] at hb; cases hb
        · exact ⟨hlt, hnb, hb⟩
      have hset := unl_set hsz hAB
      have hsz' : (listed.setIfInBounds i true).size = ops.size := by simpa using hsz
      have hcl' : Closed ops (listed.setIfInBounds i true) := by
        intro j oj hoj hj e he hb
        by_cases hij : i = j
        · subst hij
          obtain rfl : o = oj := by rw [ho] at hoj; exact Option.some.inj hoj
          exact getD_set_true (hed e he hb)
        · rw [getD_set_ne false hij] at hj
          exact getD_set_true (hcl j oj hoj hj e he hb)
      have hlen' : (unl ops.size (listed.setIfInBounds i true)).length = fuel := by
        rw [hset]; rw [hAB] at hlen; simp at hlen ⊢; omega
      -- what is done now, stood at the head
      have next : ∀ (k : Nat) (ρ : Rho) (H : AHeap) (G : Gs), Inv call ms Z nt l ws ops.size hs fr' ρ0 w0 (A ++ i :: B) k fr ρ H w a G → (∀ x ∈ A, ∃ oa, l[x]? = some oa ∧ ((oa.mv && !G.g x) && (ao.mv && !G.g i)) = false) → (ao.mv = false → G.g i = false) → wpOp P ops Q i (wpAny P .any ops Q fuel (listed.setIfInBounds i true)) a w := by
        intro k ρ H G V hA hmg
        have hmove : RunC call ms ρ.gh G hs (loAt ws) (hiAt ws) l (i :: (A ++ B)) k fr fr' := RunC.move hao (fun x hx => by
          obtain ⟨-, -, aj, r1, r2, -⟩ := hAs x hx
          obtain ⟨oa, r3, r4⟩ := hA x hx
          rw [r1] at r3; cases r3
          exact ⟨aj, r1, r2, r4⟩) V.run
        obtain ⟨ao', v, e1, e2, e3⟩ := hmove
        obtain rfl : ao = ao' := by rw [hao] at e1; exact Option.some.inj e1
        by_cases hgi : G.g i = true
        · -- done ahead
          rw [if_pos hgi] at e2 e3
          have hgk : ao.op.ghk = true := by
            have := (V.hG i hgi).2
            unfold ghAt at this
            rw [hao] at this
            exact (Bool.and_eq_true _ _ ▸ this).1
          refine wpOp_real ho (hops i o ao ho hao) hgk V.h V.hf e2 fun ρ1 a1 w1 q1 q2 q3 q4 q5 => ?_
          refine ih (listed.setIfInBounds i true) k (putA fr ao.dst v) ρ1 H w1 a1 ⟨fun j => if j = i then false else G.g j, G.b⟩ hsz' hcl' hlen' ?_
          rw [hset]
          have hne : ∀ j, j ∈ A ++ B → j ≠ i := fun j hj e => by
            subst e
            rcases List.mem_append.1 hj with hj | hj
            · exact hiA hj
            · exact hiB hj
          have hgj : ∀ j, (if j = i then false else G.g j) = true → j ≠ i ∧ G.g j = true := fun j hj => by
            by_cases e : j = i
            · rw [if_pos e] at hj; cases hj
            · rw [if_neg e] at hj; exact ⟨e, hj⟩
          have keep : ∀ j b, j ≠ i → G.g j = true → G.b j = some b → ∀ x, ρ.gh b = some x → ρ1.gh b = some x := fun j b hj hg hb x hx => q2 b x (fun e => hj (V.hi j i b hg hgi hb e)) hx
          refine ⟨?_, ?_, V.hH, q3, q5, fun j hj => ?_, fun j b hj hb => ?_, fun j j' b hj hj' hb hb' => V.hi j j' b (hgj j hj).2 (hgj j' hj').2 hb hb', fun b x hx => q1 b x (V.e0 b x hx), fun b x hx => q2 b x (fun e => by rw [V.e2 i b hgi e] at hx; cases hx) (V.e1 b x hx), fun j b hj hb => V.e2 j b (hgj j hj).2 hb, V.kp.trans q4, fun j x hj hm hg hlt hx hmx => ?_⟩
          · have h1 := V.cnt
            rw [List.countP_append, List.countP_cons] at h1
            rw [List.countP_append]
            have c1 : A.countP (fun j => mvAt l j && !(if j = i then false else G.g j)) = A.countP (fun j => mvAt l j && !G.g j) := List.countP_congr fun j hj => by rw [if_neg (hne j (by simp [hj]))]
            have c2 : B.countP (fun j => mvAt l j && !(if j = i then false else G.g j)) = B.countP (fun j => mvAt l j && !G.g j) := List.countP_congr fun j hj => by rw [if_neg (hne j (by simp [hj]))]
            rw [c1, c2]
            simp only [hgi, Bool.not_true, Bool.and_false, Bool.false_eq_true, if_false] at h1
            omega
          · rw [Nat.add_zero] at e3
            exact e3.other (fun j hj => by show (if j = i then false else G.g j) = G.g j; rw [if_neg (hne j hj)]) fun j b x hj hg hb hx => ⟨hb, keep j b (hne j hj) hg hb x hx⟩
          · obtain ⟨h1, h2⟩ := hgj j hj
            obtain ⟨h3, h4⟩ := V.hG j h2
            refine ⟨?_, h4⟩
            simp only [List.mem_append, List.mem_cons] at h3 ⊢
            rcases h3 with h3 | h3 | h3
            · exact .inl h3
            · exact absurd h3 h1
            · exact .inr h3
          · obtain ⟨h1, h2⟩ := hgj j hj
            obtain ⟨x, hx⟩ := V.hb j b h2 hb
            exact ⟨x, keep j b h1 h2 hb x hx⟩
          · have hji : j ≠ i := hne j hj
            have hgj' : G.g j = false := by simpa [hji] using hg
            obtain ⟨r1, r2⟩ := V.pre j x (by
              rcases List.mem_append.1 hj with hj | hj
              · simp [hj]
              · simp [hj]) hm hgj' hlt hx hmx
            have hxi : x ≠ i := fun e => by rw [e, hgi] at r2; cases r2
            refine ⟨?_, by show (if x = i then false else G.g x) = false; rw [if_neg hxi]; exact r2⟩
            simp only [List.mem_append, List.mem_cons] at r1 ⊢
            rcases r1 with r1 | r1 | r1
            · exact .inl r1
            · exact absurd r1 hxi
            · exact .inr r1
        · -- done now
          rw [if_neg hgi] at e2 e3
          have hgi' : G.g i = false := by simpa using hgi
          have hcnt : ∀ q : Nat → Bool, (unl ops.size listed).countP q = (List.range ops.size).countP (fun j => q j && !listed.getD j true) := fun q => by
            unfold unl; rw [List.countP_filter]
          have hcl2 := V.cnt
          rw [← hAB] at hcl2
          obtain ⟨H1, hstep, hH1⟩ : ∃ H1, stepA call ms ao fr H = some (v, H1) ∧ hs (k + ao.mn) = some H1 := by
            unfold StepC at e2
            split at e2
            · rename_i hm
              obtain ⟨H0, H1, q1, q2, q3⟩ := e2
              obtain rfl : H = H0 := by have := V.hH; rw [this] at q1; exact Option.some.inj q1
              exact ⟨H1, q3, by simpa [AOper.mn, hm] using q2⟩
            · rename_i hm
              have hm' : ao.mv = false := by simpa using hm
              obtain ⟨b1, b2⟩ := s4 hm'
              have c1 : (unl ops.size listed).countP (fun j => mvAt l j && !G.g j) ≤ (List.range ops.size).countP (fun j => mvAt l j && !befAt ws j i && !latAt l ws ops.size j i) := by
                rw [hcnt]
                refine List.countP_mono_left fun j hj hb => ?_
                have hj' : j < ops.size := by simpa using hj
                simp only [Bool.and_eq_true, Bool.not_eq_true'] at hb ⊢
                refine ⟨⟨hb.1.1, ?_⟩, ?_⟩
                · rcases hx : befAt ws j i with _ | _
                  · rfl
                  · have := hbl j hx
                    rw [getD_tf (by omega), this] at hb
                    cases hb.2
                · rcases hx : latAt l ws ops.size j i with _ | _
                  · rfl
                  · unfold latAt at hx
                    simp only [List.any_eq_true, List.mem_range, Bool.and_eq_true, decide_eq_true_eq] at hx
                    obtain ⟨x, x1, ⟨x2, x3⟩, x4⟩ := hx
                    have hjU : j ∈ A ++ i :: B := by rw [← hAB]; exact mem_unl.2 ⟨hj', hb.2⟩
                    obtain ⟨r1, -⟩ := V.pre j x hjU hb.1.1 hb.1.2 x2 x1 x3
                    rw [← hAB] at r1
                    have h7 := (mem_unl.1 r1).2
                    rw [getD_tf (by omega), hbl x x4] at h7
                    cases h7
              have c2 : (List.range ops.size).countP (fun j => mvAt l j && befAt ws i j && !ghAt l ws ops.size j) ≤ (unl ops.size listed).countP (fun j => mvAt l j && !G.g j) := by
                rw [hcnt]
                refine List.countP_mono_left fun j hj hb => ?_
                have hj' : j < ops.size := by simpa using hj
                simp only [Bool.and_eq_true, Bool.not_eq_true'] at hb ⊢
                refine ⟨⟨hb.1.1, ?_⟩, hlb j hj' hb.1.2⟩
                rcases hx : G.g j with _ | _
                · rfl
                · have := (V.hG j hx).2
                  rw [this] at hb; cases hb.2
              exact ⟨H, e2 k H (by omega) (by omega) V.hH, by simpa [AOper.mn, hm'] using V.hH⟩
          refine wpOp_sim hcall hms ho (hops i o ao ho hao) V.h V.hf hstep fun ρ1 a1 w1 q1 q2 q3 q4 => ?_
          refine ih (listed.setIfInBounds i true) (k + ao.mn) (putA fr ao.dst v) ρ1 H1 w1 a1 G hsz' hcl' hlen' ?_
          rw [hset]
          refine ⟨?_, ?_, hH1, q2, q4, fun j hj => ?_, fun j b hj hb => ?_, V.hi, fun b x hx => q1.1 b x (V.e0 b x hx), fun b x hx => q1.2 b x (V.e1 b x hx), V.e2, V.kp.trans q3, fun j x hj hm hg hlt hx hmx => ?_⟩
          · have h1 := V.cnt
            rw [List.countP_append, List.countP_cons] at h1
            rw [List.countP_append]
            simp only [hmvi, hgi', Bool.not_false, Bool.and_true] at h1
            cases hm : ao.mv <;> simp [AOper.mn, hm] at h1 ⊢ <;> omega
          · exact e3.other (fun j hj => rfl) fun j b x hj hg hb hx => ⟨hb, q1.2 b x hx⟩
          · obtain ⟨h3, h4⟩ := V.hG j hj
            refine ⟨?_, h4⟩
            simp only [List.mem_append, List.mem_cons] at h3 ⊢
            rcases h3 with h3 | h3 | h3
            · exact .inl h3
            · subst h3; rw [hgi'] at hj; cases hj
            · exact .inr h3
          · obtain ⟨x, hx⟩ := V.hb j b hj hb
            exact ⟨x, q1.2 _ _ hx⟩
          · have hjU : j ∈ A ++ i :: B := by
              rcases List.mem_append.1 hj with hj | hj
              · simp [hj]
              · simp [hj]
            obtain ⟨r1, r2⟩ := V.pre j x hjU hm hg hlt hx hmx
            have hxi : x ≠ i := fun e => by
              subst e
              rcases List.mem_append.1 hj with hj | hj
              · obtain ⟨oa, t1, t2⟩ := hA j hj
                have h5 : oa.mv = true := by simpa [mvAt, t1] using hm
                have h6 : ao.mv = true := by rw [← hmvi]; exact hmx
                rw [h5, hg, h6, r2] at t2
                cases t2
              · have := (List.pairwise_cons.1 (List.pairwise_append.1 hpwU).2.1).1 j hj
                omega
            refine ⟨?_, r2⟩
            simp only [List.mem_append, List.mem_cons] at r1 ⊢
            rcases r1 with r1 | r1 | r1
            · exact .inl r1
            · exact absurd r1 hxi
            · exact .inr r1
      have hmgG : ∀ G : Gs, (G.g i = true → ghAt l ws ops.size i = true) → ao.mv = false → G.g i = false := fun G hG hm => by
        rcases hx : G.g i with _ | _
        · rfl
        · have := hG hx
          unfold ghAt at this
          rw [hao] at this
          have h2 := ghk_cl (Bool.and_eq_true _ _ ▸ this).1
          unfold AOper.mv at hm
          rw [h2] at hm; cases hm
      by_cases hm : (ao.mv && !G.g i) = true
      · -- a call, a store, or such: all allocations that stand ahead are made first
        have hm' : ao.mv = true ∧ G.g i = false := by simpa using hm
        obtain ⟨k', ρ', H', G', q1, q2, q3⟩ := Inv.all (C := i :: B) A [] k ρ H G (by simpa using V) (by simpa using hnd) (by simpa using hpwU) (fun x hx => by cases hx) fun x hx => by
          obtain ⟨r1, r2, aj, r3, r4, r5⟩ := hAs x hx
          refine ⟨aj, r3, fun hmv => ?_⟩
          have hgk : aj.op.ghk = true := by
            rcases r5 with r5 | r5
            · rw [hmv, hm'.1] at r5; cases r5
            · exact r5
          refine ⟨hgk, ?_⟩
          unfold ghAt
          rw [r3]
          simp only [hgk, Bool.true_and, List.any_eq_true, List.mem_range]
          exact ⟨i, hin, by rw [decide_eq_true r1, hmvi, hm'.1, r2]; rfl⟩
        have q1' : Inv call ms Z nt l ws ops.size hs fr' ρ0 w0 (A ++ i :: B) k' fr ρ' H' w a G' := by simpa using q1
        refine next k' ρ' H' G' q1' (fun x hx => ?_) (hmgG G' fun h => (q1'.hG i h).2)
        obtain ⟨oa, t1, t2⟩ := q2 x (by simpa using hx)
        exact ⟨oa, t1, by rw [t2]; rfl⟩
      · refine next k ρ H G V (fun x hx => ?_) (hmgG G fun h => (V.hG i h).2)
        obtain ⟨-, -, aj, r3, -⟩ := hAs x hx
        exact ⟨aj, r3, by rw [show (ao.mv && !G.g i) = false by simpa using hm, Bool.and_false]⟩
end
section
variable {P : Program} {call : Rec} {ms : Meth} {Z : Nat → Prop} {ρ : Rho} {H : AHeap} {w : World} {nt : Nat} {ops : Array Oper} {l : List AOper} {ws : List (Nat × Nat × List Nat)}
theorem cl_le (op : AOp) : op.cl ≤ 2 := by
  unfold AOp.cl; split <;> decide
theorem drun_head : ∀ {os : List AOper} {fr : AFr} {H : AHeap} {rs : List (AFr × AV)} {hs : List AHeap} {fr' : AFr} {Hl : AHeap}, drun call ms os fr H = some (rs, hs, fr', Hl) → hs[0]? = some H
  | [], fr, H, rs, hs, fr', Hl, h => by
    simp only [drun, Option.some.injEq, Prod.mk.injEq] at h
    rw [← h.2.1]; rfl
  | o :: os, fr, H, rs, hs, fr', Hl, h => by
    simp only [drun] at h
    split at h
    · rename_i v H' hv
      split at h
      · rename_i rs1 hs1 fr1 Hl1 h1
        have ih := drun_head h1
        simp only [Option.some.injEq, Prod.mk.injEq] at h
        obtain ⟨-, h2, -, -⟩ := h
        cases hm : o.op.cl.beq 2
        · rw [hm] at h2
          have hle : o.op.cl ≤ 1 := by
            have := cl_le o.op
            have h3 : o.op.cl ≠ 2 := fun e => by rw [e] at hm; cases hm
            omega
          have := stepA_stay hle hv
          rw [← h2, ← this]; exact ih
        · rw [hm] at h2
          rw [← h2]; rfl
      · cases h
    · cases h
theorem drun_spec {hA : List AHeap} : ∀ {os : List AOper} {s k : Nat} {fr : AFr} {H : AHeap} {rs : List (AFr × AV)} {hs : List AHeap} {fr' : AFr} {Hl : AHeap}, l.drop s = os → drun call ms os fr H = some (rs, hs, fr', Hl) → hA.drop k = hs → dchk call ms hA os rs (ws.drop s) = true →
    RunC call ms (fun _ => none) ⟨fun _ => false, fun _ => none⟩ (fun j => hA[j]?) (loAt ws) (hiAt ws) l (List.range' s os.length) k fr fr' ∧ hA[k + os.countP AOper.mv]? = some Hl
  | [], s, k, fr, H, rs, hs, fr', Hl, hl, h, hh, hd => by
    simp only [drun, Option.some.injEq, Prod.mk.injEq] at h
    obtain ⟨rfl, rfl, rfl, rfl⟩ := h
    refine ⟨fun t => rfl, ?_⟩
    have := congrArg (fun l => l[0]?) hh
    simpa [List.getElem?_drop] using this
  | o :: os, s, k, fr, H, rs, hs, fr', Hl, hl, h, hh, hd => by
    have hls : l[s]? = some o := by
      have := congrArg (fun l => l[0]?) hl
      simpa [List.getElem?_drop] using this
    have hl' : l.drop (s + 1) = os := by
      have := congrArg List.tail hl
      simpa [List.tail_drop] using this
    simp only [drun] at h
    split at h
    · rename_i v H' hv
      split at h
      · rename_i rs1 hs1 fr1 Hl1 h1
        simp only [Option.some.injEq, Prod.mk.injEq] at h
        obtain ⟨rfl, h2, rfl, rfl⟩ := h
        cases hws : ws.drop s with
        | nil => rw [hws] at hd; simp [dchk] at hd
        | cons w0 ws1 =>
        obtain ⟨lo, hi, an⟩ := w0
        rw [hws] at hd
        simp only [dchk, Bool.and_eq_true] at hd
        obtain ⟨hd1, hd2⟩ := hd
        have hws0 : ws[s]? = some (lo, hi, an) := by
          have := congrArg (fun l => l[0]?) hws
          simpa [List.getElem?_drop] using this
        have hws' : ws1 = ws.drop (s + 1) := by
          have := congrArg List.tail hws
          simpa [List.tail_drop] using this.symm
        rw [hws'] at hd2
        have hlo : loAt ws s = lo := by simp [loAt, hws0]
        have hhi : hiAt ws s = hi := by simp [hiAt, hws0]
        cases hm : o.op.cl.beq 2
        · rw [hm] at h2
          simp only [cond_false] at h2
          have hle : o.op.cl ≤ 1 := by
            have := cl_le o.op
            have h3 : o.op.cl ≠ 2 := fun e => by rw [e] at hm; cases hm
            omega
          have hst := stepA_stay hle hv
          subst hst
          obtain ⟨i1, i2⟩ := drun_spec (s := s + 1) (k := k) hl' h1 (by rw [hh, h2]) hd2
          have hmv : o.mv = false := hm
          refine ⟨⟨o, v, hls, ?_, ?_⟩, ?_⟩
          · rw [if_neg (by simp)]
            unfold StepC
            rw [if_neg (by rw [hmv]; simp)]
            intro j H2 q1 q2 q3
            rcases Nat.lt_or_ge o.op.cl 1 with c0 | c1
            · rw [stepA_pure (H := H') (by omega), hv]; rfl
            · have hcl : o.op.cl.beq 1 = true := by rw [show o.op.cl = 1 by omega]; rfl
              rw [hcl] at hd1
              simp only [cond_true] at hd1
              obtain ⟨H3, q4⟩ := chkAt_all hd1 H2 (by
                rw [List.mem_iff_getElem?]
                refine ⟨j - lo, ?_⟩
                rw [List.getElem?_drop, List.getElem?_take, if_pos (by omega), show lo + (j - lo) = j by omega]
                exact q3)
              have := stepA_stay hle q4
              subst this; exact q4
          · simpa [AOper.mn, hmv] using i1
          · simpa [List.countP_cons, hmv] using i2
        · rw [hm] at h2
          simp only [cond_true] at h2
          have hmv : o.mv = true := hm
          have hh0 : hA[k]? = some H := by
            have := congrArg (fun l => l[0]?) hh
            rw [← h2] at this
            simpa [List.getElem?_drop] using this
          have hh1 : hA.drop (k + 1) = hs1 := by
            have := congrArg List.tail hh
            rw [← h2] at this
            simpa [List.tail_drop] using this
          have hh2 : hA[k + 1]? = some H' := by
            have := drun_head h1
            rw [← hh1] at this
            simpa [List.getElem?_drop] using this
          obtain ⟨i1, i2⟩ := drun_spec (s := s + 1) (k := k + 1) hl' h1 hh1 hd2
          refine ⟨⟨o, v, hls, ?_, ?_⟩, ?_⟩
          · rw [if_neg (by simp)]
            unfold StepC
            rw [if_pos hmv]
            exact ⟨H, H', hh0, hh2, hv⟩
          · simpa [AOper.mn, hmv] using i1
          · simp only [List.countP_cons, hmv, if_true]
            rw [show k + (List.countP AOper.mv os + 1) = k + 1 + List.countP AOper.mv os by omega]
            exact i2
      · cases h
    · cases h
theorem ckOpers_length {P : Program} {nt : Nat} {ops : Array Oper} : ∀ {os : List Oper} {aos : List AOper}, ckOpers P nt ops os aos = true → os.length = aos.length ∧ ∀ (i : Nat) o ao, os[i]? = some o → aos[i]? = some ao → ckOper P nt ops o ao = true
  | [], [], _ => ⟨rfl, fun i o ao h => by simp at h⟩
  | o :: os, ao :: aos, h => by
    simp only [ckOpers, Bool.and_eq_true] at h
    obtain ⟨h1, h2⟩ := ckOpers_length h.2
    refine ⟨by simp [h1], fun i o' ao' ho ha => ?_⟩
    cases i with
    | zero => simp at ho ha; subst ho; subst ha; exact h.1
    | succ i => exact h2 i o' ao' (by simpa using ho) (by simpa using ha)
  | [], _ :: _, h => by simp [ckOpers] at h
  | _ :: _, [], h => by simp [ckOpers] at h
theorem count_mvAt : ∀ (l : List AOper), (List.range l.length).countP (mvAt l) = l.countP AOper.mv := by
  intro l
  have : l.countP AOper.mv = (List.map (mvAt l) (List.range l.length)).countP id := by
    have h1 : List.map (mvAt l) (List.range l.length) = l.map AOper.mv := by
      apply List.ext_getElem
      · simp
      · intro i h1 h2
        simp at h1
        simp [mvAt, h1]
    rw [h1, List.countP_map]; rfl
  rw [this, List.countP_map]; rfl
theorem dregion_any (hcall : CallOK P call) (hms : ckMeth P ms) {fr fr' : AFr} {a : Act} {H' : AHeap} {rs : List (AFr × AV)} {hs : List AHeap} {Q : Exit → Act → World → Prop}
    (hc : ckOpers P nt ops ops.toList l = true) (hcd : ckD ops l ws = true) (hrun : drun call ms l fr H = some (rs, hs, fr', H')) (hdc : dchk call ms hs l rs ws = true) (h : HS Z ρ H w) (hf : Fr nt ρ fr a)
    (hQ : ∀ ρ' a' w', Ext ρ ρ' → HS Z ρ' H' w' → Kp Z w w' → Fr nt ρ' fr' a' → Q .normal a' w') : wpAny P .any ops Q ops.size (Array.replicate ops.size false) a { w with drawn := w.drawn + 1 } := by
  obtain ⟨hlen, hops⟩ := ckOpers_length hc
  have hlen' : ops.size = l.length := by simpa using hlen
  obtain ⟨r1, r2⟩ := drun_spec (hA := hs) (ws := ws) (s := 0) (k := 0) (l := l) rfl hrun rfl (by simpa using hdc)
  have hrep : ∀ j, (Array.replicate ops.size false).getD j false = false := fun j => by
    simp only [Array.getD_eq_getD_getElem?, Array.getElem?_replicate]; split <;> rfl
  have hunl : unl ops.size (Array.replicate ops.size false) = List.range ops.size := by
    unfold unl
    refine List.filter_eq_self.2 fun j hj => ?_
    have : j < ops.size := by simpa using hj
    simp [this]
  refine any_sim hcall hms hcd (fun i o ao ho hao => hops i o ao (by simpa using ho) hao) (hs := fun j => hs[j]?) (Hl := H') (fr' := fr') (ρ0 := ρ) (w0 := w) ?_ (fun ρ' a' w' q1 q2 q3 q4 => hQ ρ' a' w' q1 q2 q3 q4) ops.size _ 0 fr ρ H _ a ⟨fun _ => false, fun _ => none⟩ (by simp) (fun j o ho hj => by rw [hrep] at hj; cases hj) (by rw [hunl]; simp) ⟨?_, ?_, drun_head hrun, h.draw rfl, hf, fun j hj => (by cases hj), fun j b hj => (by cases hj), fun j j' b hj => (by cases hj), fun b x hx => hx, fun b x hx => hx, fun j b hj => (by cases hj), ⟨rfl, rfl, rfl, Nat.le_refl _, fun _ _ _ => rfl⟩, fun j x _ _ _ _ hx _ => ⟨by rw [hunl]; simpa using hx, rfl⟩⟩
  · rw [hlen', count_mvAt]; simpa using r2
  · rw [hunl]; simp
  · rw [hunl, List.range_eq_range', hlen']
    exact r1.other (fun j hj => rfl) fun j b x hj hg => by cases hg
theorem dregion_sim (hcall : CallOK P call) (hms : ckMeth P ms) (hmx : P.follows .mixedOrders = true) {id : Nat} {fr fr' : AFr} {a : Act} {H' : AHeap} {rs : List (AFr × AV)} {hs : List AHeap} {Q : Exit → Act → World → Prop}
    (hc : ckOpers P nt ops ops.toList l = true) (hcd : ckD ops l ws = true) (hrun : drun call ms l fr H = some (rs, hs, fr', H')) (hdc : dchk call ms hs l rs ws = true) (h : HS Z ρ H w) (hf : Fr nt ρ fr a)
    (hQ : ∀ ρ' a' w', Ext ρ ρ' → HS Z ρ' H' w' → Kp Z w w' → Fr nt ρ' fr' a' → Q .normal a' w') : (Code.region id ops true).wp P Q a w :=
  wp_region_any hmx (dregion_any hcall hms hc hcd hrun hdc h hf hQ)
end
def posIn (pm : List Nat) (n x : Nat) : Nat := match pm.idxOf? x with
  | some q => q
  | none => n + x
def relab (pm : List Nat) (n : Nat) (o : Oper) : Oper := { o with after := o.after.map (fun e => { e with on := posIn pm n e.on }), guard := o.guard.map fun g => (posIn pm n g.1, g.2) }
def permOps (ops : Array Oper) (pm : List Nat) : Array Oper := ((pm.map fun j => match ops[j]? with | some o => relab pm ops.size o | none => default).toArray)
def permOk (n : Nat) (pm : List Nat) : Bool := pm.length == n && ((List.range n).all fun x => match pm.idxOf? x with | some q => decide (q < n) && (pm[q]? == some x) | none => false) && (List.range n).all fun q => match pm[q]? with | some x => decide (x < n) && (pm.idxOf? x == some q) | none => false
def permOf (l : List AOper) (ws : List (Nat × Nat × List Nat)) : Option (List Nat) := match ws[l.length]? with
  | some (_, _, pm) => some pm
  | none => none
section
variable {P : Program} {ops : Array Oper} {Q : Exit → Act → World → Prop} {pm : List Nat}
theorem permOk_spec (h : permOk ops.size pm = true) : pm.length = ops.size ∧ (∀ x, x < ops.size → ∃ q, posIn pm ops.size x = q ∧ q < ops.size ∧ pm[q]? = some x) ∧ (∀ x, ops.size ≤ x → ops.size ≤ posIn pm ops.size x) ∧ ∀ q x, pm[q]? = some x → x < ops.size ∧ posIn pm ops.size x = q := by
  unfold permOk at h
  simp only [Bool.and_eq_true, beq_iff_eq, List.all_eq_true, List.mem_range] at h
  obtain ⟨⟨h1, h2⟩, h4⟩ := h
  have h5 : ∀ q x, pm[q]? = some x → x < ops.size ∧ pm.idxOf? x = some q := fun q x hq => by
    have hl := (List.getElem?_eq_some_iff.1 hq).1
    have := h4 q (by omega)
    rw [hq] at this
    simpa using this
  have key : ∀ x, x < ops.size → ∃ q, pm.idxOf? x = some q ∧ q < ops.size ∧ pm[q]? = some x := fun x hx => by
    have := h2 x hx
    cases hq : pm.idxOf? x with
    | none => rw [hq] at this; cases this
    | some q =>
      rw [hq] at this
      simp only [Bool.and_eq_true, decide_eq_true_eq, beq_iff_eq] at this
      exact ⟨q, rfl, this⟩
  refine ⟨h1, fun x hx => ?_, fun x hx => ?_, fun q x hq => ?_⟩
  · obtain ⟨q, q1, q2, q3⟩ := key x hx
    exact ⟨q, by unfold posIn; rw [q1], q2, q3⟩
  · unfold posIn
    cases hq : pm.idxOf? x with
    | none => dsimp only; omega
    | some q =>
      exfalso
      rw [List.idxOf?_eq_some_iff] at hq
      obtain ⟨hlt, he, -⟩ := hq
      have e2 : pm[q] = x := by simpa using he
      have := (h5 q x (by rw [List.getElem?_eq_getElem hlt, e2])).1
      omega
  · obtain ⟨a1, a2⟩ := h5 q x hq
    exact ⟨a1, by unfold posIn; rw [a2]⟩
theorem perm_get (h : permOk ops.size pm = true) {q j : Nat} (hq : pm[q]? = some j) {o : Oper} (ho : ops[j]? = some o) : (permOps ops pm)[q]? = some (relab pm ops.size o) := by
  unfold permOps
  simp only [List.getElem?_toArray, List.getElem?_map, hq, Option.map_some, ho]
theorem perm_size (h : permOk ops.size pm = true) : (permOps ops pm).size = ops.size := by
  unfold permOps
  simp [(permOk_spec h).1]
def Sames (pm : List Nat) (n : Nat) (l l' : Array Bool) : Prop := l.size = n ∧ l'.size = n ∧ ∀ q j, pm[q]? = some j → j < n → l'.getD q false = l.getD j false
theorem relab_wp {n : Nat} {o : Oper} {a : Act} {w : World} {K : Act → World → Prop} : (relab pm n o).wp P a w K Q = o.wp P a w K Q := rfl
theorem relab_asks {n : Nat} {o : Oper} {a : Act} {w : World} : (relab pm n o).asks P a w = o.asks P a w := rfl
theorem yielded_perm (h : permOk ops.size pm = true) (tm : Array Value) (j : Nat) : yielded (permOps ops pm) tm (posIn pm ops.size j) = yielded ops tm j := by
  obtain ⟨h1, h2, h3, h5⟩ := permOk_spec h
  unfold yielded
  by_cases hj : j < ops.size
  · obtain ⟨q, q1, q2, q3⟩ := h2 j hj
    have ho : ops[j]? = some ops[j] := Array.getElem?_eq_some_iff.2 ⟨hj, rfl⟩
    rw [q1, perm_get h q3 ho, ho]
    rfl
  · have := h3 j (by omega)
    rw [Array.getElem?_eq_none (by rw [perm_size h]; exact this), Array.getElem?_eq_none (by omega)]
theorem wanted_perm (h : permOk ops.size pm = true) (o : Oper) (tm : Array Value) : Region.wanted (relab pm ops.size o) (yielded (permOps ops pm) tm) = Region.wanted o (yielded ops tm) := by
  unfold Region.wanted relab
  cases o.guard with
  | none => rfl
  | some g =>
    obtain ⟨j, b⟩ := g
    simp only [Option.map_some]
    rw [yielded_perm h]
theorem ready_perm (h : permOk ops.size pm = true) {l l' : Array Bool} (hs : Sames pm ops.size l l') {j : Nat} (hj : j ∈ Region.ready .any ops l) : ∃ q, pm[q]? = some j ∧ q < ops.size ∧ j < ops.size ∧ q ∈ Region.ready .any (permOps ops pm) l' := by
  obtain ⟨h1, h2, h3, h5⟩ := permOk_spec h
  obtain ⟨s1, s2, s3⟩ := hs
  obtain ⟨r0, o, ho, re⟩ := mem_ready.1 hj
  have hjn : j < ops.size := (Array.getElem?_eq_some_iff.1 ho).1
  obtain ⟨q, q1, q2, q3⟩ := h2 j hjn
  refine ⟨q, q3, q2, hjn, mem_ready.2 ⟨?_, _, perm_get h q3 ho, fun e he hb => ?_⟩⟩
  · rw [getD_tf (by omega), s3 q j q3 hjn, ← getD_tf (by omega)]; exact r0
  · have he' : e ∈ o.after.map (fun e => { e with on := posIn pm ops.size e.on }) := he
    obtain ⟨e0, he0, rfl⟩ := Array.mem_map.1 he'
    have hl := re e0 he0 hb
    have hen : e0.on < ops.size := by
      rcases Nat.lt_or_ge e0.on ops.size with hh | hh
      · exact hh
      · rw [Array.getD_eq_getD_getElem?, Array.getElem?_eq_none (by omega)] at hl; cases hl
    obtain ⟨p, p1, p2, p3⟩ := h2 e0.on hen
    show l'.getD (posIn pm ops.size e0.on) false = true
    rw [p1, s3 p e0.on p3 hen]; exact hl
theorem wpAny_perm (h : permOk ops.size pm = true) : ∀ (fuel : Nat) (l l' : Array Bool) (a : Act) (w : World), Sames pm ops.size l l' → wpAny P .any (permOps ops pm) Q fuel l' a w → wpAny P .any ops Q fuel l a w := by
  obtain ⟨h1, h2, h3, h5⟩ := permOk_spec h
  intro fuel
  induction fuel with
  | zero =>
    intro l l' a w hs hw
    obtain ⟨w1, w2⟩ := hw
    refine ⟨?_, w2⟩
    cases hr : Region.ready .any ops l with
    | nil => rfl
    | cons j js =>
      obtain ⟨q, -, -, -, hq⟩ := ready_perm h hs (j := j) (by rw [hr]; simp)
      rw [w1] at hq; cases hq
  | succ fuel ih =>
    intro l l' a w hs hw
    obtain ⟨w1, w2⟩ := hw
    refine ⟨fun hr => w1 ?_, fun j hj => ?_⟩
    · -- nothing is ready there: nothing is ready here
      cases hr' : Region.ready .any (permOps ops pm) l' with
      | nil => rfl
      | cons q qs =>
        exfalso
        obtain ⟨r0, o', ho', re⟩ := mem_ready.1 (show q ∈ Region.ready .any (permOps ops pm) l' by rw [hr']; simp)
        have hqn : q < ops.size := by have := (Array.getElem?_eq_some_iff.1 ho').1; rwa [perm_size h] at this
        have hpq : pm[q]? = some pm[q] := List.getElem?_eq_getElem (by omega)
        obtain ⟨s1, s2, s3⟩ := hs
        generalize pm[q] = j at hpq
        have hjn : j < ops.size := (h5 q j hpq).1
        have ho : ops[j]? = some ops[j] := Array.getElem?_eq_some_iff.2 ⟨hjn, rfl⟩
        have e1 := perm_get h hpq ho
        rw [e1] at ho'
        cases ho'
        have : j ∈ Region.ready .any ops l := mem_ready.2 ⟨by rw [getD_tf (by omega), ← s3 q j hpq hjn, ← getD_tf (by omega)]; exact r0, _, ho, fun e he hb => by
          have hl := re { e with on := posIn pm ops.size e.on } (Array.mem_map.2 ⟨e, he, rfl⟩) hb
          have hl' : l'.getD (posIn pm ops.size e.on) false = true := hl
          rcases Nat.lt_or_ge e.on ops.size with hh | hh
          · obtain ⟨p, p1, p2, p3⟩ := h2 e.on hh
            rw [p1, s3 p e.on p3 hh] at hl'; exact hl'
          · rw [Array.getD_eq_getD_getElem?, Array.getElem?_eq_none (by have := h3 e.on hh; omega)] at hl'; cases hl'⟩
        rw [hr] at this; cases this
    · obtain ⟨q, hq, hqn, hjn, hr⟩ := ready_perm h hs hj
      have w3 := w2 q hr
      have ho : ops[j]? = some ops[j] := Array.getElem?_eq_some_iff.2 ⟨hjn, rfl⟩
      have hs' : Sames pm ops.size (l.setIfInBounds j true) (l'.setIfInBounds q true) := by
        obtain ⟨s1, s2, s3⟩ := hs
        refine ⟨by simpa using s1, by simpa using s2, fun p i hp hi => ?_⟩
        by_cases e : p = q
        · subst e
          rw [hq] at hp; cases hp
          rw [Array.getD_eq_getD_getElem?, Array.getD_eq_getD_getElem?, Array.getElem?_setIfInBounds_self_of_lt (by omega), Array.getElem?_setIfInBounds_self_of_lt (by omega)]
        · have hij : i ≠ j := fun e2 => by
            subst e2
            exact e ((h5 p i hp).2.symm.trans (h5 q i hq).2)
          rw [getD_set_ne false (Ne.symm e), getD_set_ne false (Ne.symm hij)]
          exact s3 p i hp hi
      unfold wpOp at w3 ⊢
      rw [perm_get h hq ho] at w3
      rw [ho]
      dsimp only at w3 ⊢
      rw [wanted_perm h, relab_wp, relab_asks] at w3
      split
      · rename_i hw
        rw [if_pos hw] at w3
        exact w3.imp (Oper.wp_mono fun a w hh => ih _ _ a w hs' hh) id
      · rename_i hw
        rw [if_neg hw] at w3
        exact ih _ _ _ _ hs' w3
theorem dregion_perm {call : Rec} {ms : Meth} {Z : Nat → Prop} {ρ : Rho} {H : AHeap} {w : World} {nt : Nat} {l : List AOper} {ws : List (Nat × Nat × List Nat)} (hcall : CallOK P call) (hms : ckMeth P ms) (hmx : P.follows .mixedOrders = true) {id : Nat} {fr fr' : AFr} {a : Act} {H' : AHeap} {rs : List (AFr × AV)} {hs : List AHeap} (hp : permOk ops.size pm = true)
    (hc : ckOpers P nt (permOps ops pm) (permOps ops pm).toList l = true) (hcd : ckD (permOps ops pm) l ws = true) (hrun : drun call ms l fr H = some (rs, hs, fr', H')) (hdc : dchk call ms hs l rs ws = true) (h : HS Z ρ H w) (hf : Fr nt ρ fr a)
    (hQ : ∀ ρ' a' w', Ext ρ ρ' → HS Z ρ' H' w' → Kp Z w w' → Fr nt ρ' fr' a' → Q .normal a' w') : (Code.region id ops true).wp P Q a w := by
  refine wp_region_any hmx ?_
  have h1 := dregion_any (Q := Q) hcall hms hc hcd hrun hdc h hf hQ
  rw [perm_size hp] at h1
  refine wpAny_perm hp _ _ _ _ _ ⟨by simp, by simp, fun q j hq hj => ?_⟩ h1
  simp only [Array.getD_eq_getD_getElem?, Array.getElem?_replicate]
  repeat' split
  all_goals rfl
end
section
variable {Z : Nat → Prop} {ρ : Rho} {H H' : AHeap} {w w' : World} {P : Program}
def ckCode (P : Program) (nt : Nat) : Code → ACode → Bool
  | .skip, .skip => true
  | .region _ ops d, ac => (match ac with | .region l => !d && ckOpers P nt ops ops.toList l | .dregion l ws => d && (match permOf l ws with | none => ckOpers P nt ops ops.toList l && ckD ops l ws | some pm => permOk ops.size pm && ckOpers P nt (permOps ops pm) (permOps ops pm).toList l && ckD (permOps ops pm) l ws) | _ => false)
  | .seq x y, ac => (match ac with | .seq x' y' => ckCode P nt x x' && ckCode P nt y y' | _ => false)
  | .cond c x y, ac => (match ac with | .cond c' x' y' => ckO c c' && ckCode P nt x x' && ckCode P nt y y' | _ => false)
  | .block i c, ac => (match ac with | .block i' c' => i == i' && ckCode P nt c c' | _ => false)
  | .loop c, ac => (match ac with | .loop c' => ckCode P nt c c' | _ => false)
  | .exit i, ac => (match ac with | .exit i' => i == i' | _ => false)
  | .ret, ac => (match ac with | .ret => true | _ => false)
  | _, _ => false
def ckFunc (P : Program) (f : Nat) (fn : AFunc) : Bool := match P.funcs[f]? with
  | some g => g.name != "runtime.NumGoroutine" && (match g.body with | some c => ckCode P g.ntmps c fn.body | none => false) && ckRes P g.results.toList fn.results
  | none => false
def toEx : AEx → Exit
  | .normal => .normal
  | .exit i => .exit i
  | .ret => .ret
theorem get_initA (l : List AV) : ∀ (i : Nat) (t : AFr) (j : Nat), (initA i t l).get j = if i ≤ j ∧ j < i + l.length then l[j - i]? else t.get j := by
  induction l with
  | nil => intro i t j; simp [initA]; intro h1 h2; omega
  | cons v l ih =>
    intro i t j
    simp only [initA, ih, Tr.get_set]
    by_cases h : i ≤ j ∧ j < i + (v :: l).length
    · rw [if_pos h]
      by_cases he : i = j
      · subst he
        rw [if_neg (by omega), if_pos rfl]
        simp
      · simp at h
        rw [if_pos (by omega), show j - i = (j - (i + 1)) + 1 by omega]
        simp
    · rw [if_neg h]
      simp at h
      rw [if_neg (by omega), if_neg (by omega)]
theorem init_fr {args : List AV} {vs : Array Value} (hr : RL ρ args vs.toList) (nt : Nat) : Fr nt ρ (initA 0 .nil args) { tmps := vs ++ Array.replicate (nt - vs.size) undef, defers := [] } := by
  refine ⟨fun t v ht => ?_, by simp; omega, rfl⟩
  rw [get_initA] at ht
  split at ht
  · rw [Nat.sub_zero] at ht
    obtain ⟨u, hu, hru⟩ := hr.get ht
    have hu' : vs[t]? = some u := by simpa using hu
    refine ⟨u, ?_, hru⟩
    show (vs ++ _)[t]? = _
    rw [Array.getElem?_append_left (Array.getElem?_eq_some_iff.1 hu').1]
    exact hu'
  · simp [Tr.get] at ht
def resOf (tmps : Array Value) : ResultVar → Sem Value
  | .tmp t => pure (tmps.getD t undef)
  | .cell a t => do loadVar t (← asAddr (tmps.getD a undef))
theorem res_sim (h : HS Z ρ H w) {fr : AFr} {a : Act} (hf : RF ρ fr a) : ∀ {rs : List ResultVar} {rs' : List (Nat ⊕ (Nat × Nat × Bool))} {l : List AV}, ckRes P rs rs' = true → resA fr H rs' = some l → ∃ L, (rs.mapM (resOf a.tmps)).run P w = .ok L w ∧ RL ρ l L
  | [], [], l, _, hl => by simp [resA] at hl; subst hl; exact ⟨[], rfl, by simp only [RL]⟩
  | .tmp t :: rs, .inl t' :: rs', l, hc, hl => by
    simp only [ckRes, Bool.and_eq_true, beq_iff_eq] at hc
    obtain ⟨rfl, hc⟩ := hc
    simp only [resA] at hl
    split at hl
    · rename_i v hv
      split at hl
      · rename_i vs hvs
        cases hl
        obtain ⟨u, hu, hr⟩ := hf _ _ hv
        obtain ⟨L, q1, q2⟩ := res_sim h hf hc hvs
        refine ⟨u :: L, ?_, by simp only [RL]; exact ⟨u, L, rfl, hr, q2⟩⟩
        have : a.tmps.getD t undef = u := by simp [hu]
        simp only [List.mapM_cons, resOf, Sem.run_bind, Sem.run_pure, Result.andThen_ok, this, q1]
      · cases hl
    · cases hl
  | .cell b t :: rs, .inr (b', n, agg) :: rs', l, hc, hl => by
    simp only [ckRes, Bool.and_eq_true, beq_iff_eq] at hc
    obtain ⟨⟨⟨rfl, hs⟩, ha⟩, hc⟩ := hc
    simp only [resA] at hl
    split at hl
    · rename_i bb i hv
      split at hl
      · rename_i c hcl
        split at hl
        · rename_i v hva
          split at hl
          · rename_i vs hvs
            cases hl
            obtain ⟨u, hu, hr⟩ := hf _ _ hv
            obtain ⟨L, q1, q2⟩ := res_sim h hf hc hvs
            obtain ⟨x, p1, p2⟩ := load_sim hs ha h hr hcl hva
            simp only [R] at hr
            obtain ⟨g, o, N, -, rfl⟩ := hr
            refine ⟨x :: L, ?_, by simp only [RL]; exact ⟨x, L, rfl, p2, q2⟩⟩
            have : a.tmps.getD b undef = .pointer (some ⟨g, o + i, none⟩) := by simp [hu]
            have p1' : (loadVar t ⟨g, o + i, none⟩).run P w = .ok x w := p1
            simp only [List.mapM_cons, resOf, Sem.run_bind, Sem.run_pure, Result.andThen_ok, this, asAddr, p1', q1]
          · cases hl
        · cases hl
      · cases hl
    · cases hl
  | [], _ :: _, _, hc, _ => by simp [ckRes] at hc
  | .tmp _ :: _, [], _, hc, _ => by simp [ckRes] at hc
  | .cell _ _ :: _, [], _, hc, _ => by simp [ckRes] at hc
  | .tmp _ :: _, .inr _ :: _, _, hc, _ => by simp [ckRes] at hc
  | .cell _ _ :: _, .inl _ :: _, _, hc, _ => by simp [ckRes] at hc
theorem results_run {g : Func} {tmps : Array Value} {L : List Value} (h : (g.results.toList.mapM (resOf tmps)).run P w = .ok L w) : (results g tmps).run P w = .ok (if hs : L.toArray.size = 1 then L.toArray[0] else .tuple L.toArray) w := by
  unfold results
  rw [Array.mapM_eq_mapM_toList]
  have key : ∀ F : ResultVar → Sem Value, (∀ r, F r = resOf tmps r) → (List.mapM F g.results.toList).run P w = .ok L w := fun F hF => by rw [funext hF]; exact h
  simp only [Sem.run_bind, Sem.run_map]
  rw [key _ (fun r => by cases r <;> rfl)]
  rfl
theorem call_rec_ok {fs : Nat → Option AFunc} {ms : Meth} {ora : Rec} (hora : CallOK P ora) (hfs : ∀ f fn, fs f = some fn → ckFunc P f fn = true) {n : Nat}
    (ih : ∀ (nt : Nat) (c : Code) (ac : ACode) (fr : AFr) (H : AHeap) (ex : AEx) (fr' : AFr) (H' : AHeap), ckCode P nt c ac = true → runA fs ms ora n ac fr H = some (ex, fr', H') → ∀ (Z : Nat → Prop) (ρ : Rho) (w : World) (a : Act) (Q : Exit → Act → World → Prop), HS Z ρ H w → Fr nt ρ fr a →
      (∀ ρ' a' w', Ext ρ ρ' → HS Z ρ' H' w' → Kp Z w w' → Fr nt ρ' fr' a' → Q (toEx ex) a' w') → c.wp P Q a w) :
    CallOK P (fun f args H => match fs f with
      | none => ora f args H
      | some fn => match runA fs ms ora n fn.body (initA 0 .nil args) H with
        | some (.exit _, _, _) => none
        | some (_, fr, H) => (match resA fr H fn.results with
          | some [v] => some (v, H)
          | some vs => some (.tuple vs, H)
          | none => none)
        | none => none) := by
  intro f args H v H' he
  simp only at he
  split at he
  · exact hora f args H v H' he
  · rename_i fn hfn
    have hck := hfs f fn hfn
    unfold ckFunc at hck
    split at hck
    · rename_i g hg
      simp only [Bool.and_eq_true] at hck
      obtain ⟨⟨hn, hb⟩, hr⟩ := hck
      split at hb
      · rename_i c hbody
        refine ⟨⟨g, hg, by simpa using hn, by rw [hbody]; rfl⟩, fun Z ρ w vs h hvs => ?_⟩
        have fin : ∀ (ex : AEx) (fr : AFr), (∀ i, ex ≠ .exit i) → runA fs ms ora n fn.body (initA 0 .nil args) H = some (ex, fr, H') → (match resA fr H' fn.results with
            | some [v] => some (v, H')
            | some vs => some (.tuple vs, H')
            | none => none) = some (v, H') → Calls P f vs w (fun e w' => ∃ ρ' u, e = .returned u ∧ Ext ρ ρ' ∧ HS Z ρ' H' w' ∧ Kp Z w w' ∧ R ρ' v u) := by
          intro ex fr hex hrun hres
          refine calls_of_wp hg hbody ?_
          refine ih g.ntmps c fn.body _ H ex fr H' hb hrun Z ρ w _ _ h (init_fr hvs _) fun ρ' a' w' q1 q2 q3 q4 => ?_
          have hpost : a'.defers = [] ∧ ∃ u, (results g a'.tmps).run P w' = .ok u w' ∧ ∃ ρ' u', Ending.returned u = .returned u' ∧ Ext ρ ρ' ∧ HS Z ρ' H' w' ∧ Kp Z w w' ∧ R ρ' v u' := by
            refine ⟨q4.defers, ?_⟩
            split at hres
            · rename_i x hx
              simp only [Option.some.injEq, Prod.mk.injEq] at hres
              obtain ⟨rfl, -⟩ := hres
              obtain ⟨L, p1, p2⟩ := res_sim (P := P) q2 q4.rf hr hx
              simp only [RL] at p2
              obtain ⟨u, L', rfl, p3, rfl⟩ := p2
              exact ⟨_, results_run p1, ρ', u, rfl, q1, q2, q3, p3⟩
            · rename_i l hne hx
              simp only [Option.some.injEq, Prod.mk.injEq] at hres
              obtain ⟨rfl, -⟩ := hres
              obtain ⟨L, p1, p2⟩ := res_sim (P := P) q2 q4.rf hr hx
              refine ⟨_, results_run p1, ρ', .tuple L.toArray, ?_, q1, q2, q3, by simp only [R]; exact ⟨_, rfl, by simpa using p2⟩⟩
              have hl := p2.length
              rw [dif_neg]
              intro h1
              have : l.length = 1 := by simp at h1; omega
              match l, this with
              | [x], _ => exact hne x rfl
            · cases hres
          cases ex with
          | normal => exact hpost
          | ret => exact hpost
          | exit i => exact absurd rfl (hex i)
        split at he
        · cases he
        · rename_i ex fr H2 hne hrun
          have : H2 = H' := by
            split at he <;> first | (simp only [Option.some.injEq, Prod.mk.injEq] at he; exact he.2) | cases he
          subst this
          exact fin ex fr (fun i e => by subst e; exact hne i rfl) hrun he
        · cases he
      · cases hb
    · cases hck
theorem code_sim (hmx : P.follows .mixedOrders = true) {fs : Nat → Option AFunc} {ms : Meth} {ora : Rec} (hora : CallOK P ora) (hfs : ∀ f fn, fs f = some fn → ckFunc P f fn = true) (hms : ckMeth P ms) : ∀ (n nt : Nat) (c : Code) (ac : ACode) (fr : AFr) (H : AHeap) (ex : AEx) (fr' : AFr) (H' : AHeap), ckCode P nt c ac = true → runA fs ms ora n ac fr H = some (ex, fr', H') → ∀ (Z : Nat → Prop) (ρ : Rho) (w : World) (a : Act) (Q : Exit → Act → World → Prop), HS Z ρ H w → Fr nt ρ fr a →
      (∀ ρ' a' w', Ext ρ ρ' → HS Z ρ' H' w' → Kp Z w w' → Fr nt ρ' fr' a' → Q (toEx ex) a' w') → c.wp P Q a w := by
  intro n
  induction n using Nat.strongRecOn with
  | ind n ihs =>
    intro nt c ac fr H ex fr' H' hc he Z ρ w a Q h hf hQ
    cases n with
    | zero => simp [runA] at he
    | succ n =>
    have ih := ihs n (Nat.lt_succ_self n)
    have hcall := call_rec_ok hora hfs ih
    unfold runA at he
    unfold ckCode at hc
    split at hc
    · simp only [Option.some.injEq, Prod.mk.injEq] at he
      obtain ⟨rfl, rfl, rfl⟩ := he
      exact wp_skip (hQ ρ a w (Ext.refl _) h (Kp.refl _ _) hf)
    · rename_i id ops d
      split at hc
      · rename_i l
        simp only [Bool.and_eq_true, Bool.not_eq_true'] at hc
        obtain ⟨rfl, hc⟩ := hc
        simp only at he
        split at he
        · rename_i fr1 H1 hops
          simp only [Option.some.injEq, Prod.mk.injEq] at he
          obtain ⟨rfl, rfl, rfl⟩ := he
          refine wp_region ?_
          rw [List.range_eq_range']
          have := ops_sim hcall hms (Q := Q) 0 l (by simpa using hc) h hf hops hQ
          simpa using this
        · cases he
      · rename_i l ws
        simp only [Bool.and_eq_true] at hc
        obtain ⟨rfl, hc⟩ := hc
        simp only at he
        split at he
        · rename_i rs hs fr1 H1 hrun
          rw [Bool.cond_eq_ite] at he
          split at he
          case isFalse => cases he
          rename_i hdc
          simp only [Option.some.injEq, Prod.mk.injEq] at he
          obtain ⟨rfl, rfl, rfl⟩ := he
          split at hc
          · simp only [Bool.and_eq_true] at hc
            exact dregion_sim hcall hms hmx hc.1 hc.2 hrun hdc h hf hQ
          · simp only [Bool.and_eq_true] at hc
            exact dregion_perm hcall hms hmx hc.1.1 hc.1.2 hc.2 hrun hdc h hf hQ
        · cases he
      · cases hc
    · rename_i x y
      split at hc
      · rename_i x' y'
        simp only [Bool.and_eq_true] at hc
        simp only at he
        refine wp_seq ?_
        split at he
        · rename_i fr1 H1 h1
          refine ih nt x x' fr H .normal fr1 H1 hc.1 h1 Z ρ w a _ h hf fun ρ1 a1 w1 q1 q2 q3 q4 => ?_
          exact ih nt y y' fr1 H1 ex fr' H' hc.2 he Z ρ1 w1 a1 Q q2 q4 fun ρ2 a2 w2 p1 p2 p3 p4 => hQ ρ2 a2 w2 (q1.trans p1) p2 (q3.trans p3) p4
        · rename_i r hne
          refine ih nt x x' fr H ex fr' H' hc.1 he Z ρ w a _ h hf fun ρ1 a1 w1 q1 q2 q3 q4 => ?_
          cases ex with
          | normal => exact absurd he (hne _ _)
          | exit i => exact hQ ρ1 a1 w1 q1 q2 q3 q4
          | ret => exact hQ ρ1 a1 w1 q1 q2 q3 q4
      · cases hc
    · rename_i c x y
      split at hc
      · rename_i c' x' y'
        simp only [Bool.and_eq_true] at hc
        simp only at he
        split at he
        · rename_i hcv
          have := ckO_R hc.1.1 hf.rf hcv
          simp only [R] at this
          exact wp_cond_true this (ih nt x x' fr H ex fr' H' hc.1.2 he Z ρ w a Q h hf hQ)
        · rename_i hcv
          have := ckO_R hc.1.1 hf.rf hcv
          simp only [R] at this
          exact wp_cond_false this (ih nt y y' fr H ex fr' H' hc.2 he Z ρ w a Q h hf hQ)
        · cases he
      · cases hc
    · rename_i id c
      split at hc
      · rename_i i' c'
        simp only [Bool.and_eq_true, beq_iff_eq] at hc
        obtain ⟨rfl, hc⟩ := hc
        simp only at he
        refine wp_block ?_
        split at he
        · rename_i j fr1 H1 h1
          refine ih nt c c' fr H (.exit j) fr1 H1 hc h1 Z ρ w a _ h hf fun ρ1 a1 w1 q1 q2 q3 q4 => ?_
          show (if j = id then Q .normal a1 w1 else Q (.exit j) a1 w1)
          by_cases hj : j = id
          · rw [if_pos hj]
            rw [nbt hj] at he
            simp only [cond_true, Option.some.injEq, Prod.mk.injEq] at he
            obtain ⟨rfl, rfl, rfl⟩ := he
            exact hQ ρ1 a1 w1 q1 q2 q3 q4
          · rw [if_neg hj]
            rw [nbf hj] at he
            simp only [cond_false, Option.some.injEq, Prod.mk.injEq] at he
            obtain ⟨rfl, rfl, rfl⟩ := he
            exact hQ ρ1 a1 w1 q1 q2 q3 q4
        · rename_i r hne
          refine ih nt c c' fr H ex fr' H' hc he Z ρ w a _ h hf fun ρ1 a1 w1 q1 q2 q3 q4 => ?_
          cases ex with
          | normal => exact hQ ρ1 a1 w1 q1 q2 q3 q4
          | exit i => exact absurd he (hne _ _ _)
          | ret => exact hQ ρ1 a1 w1 q1 q2 q3 q4
      · cases hc
    · rename_i c
      split at hc
      · rename_i c'
        simp only at he
        have key : ∀ (m : Nat) (fr : AFr) (H : AHeap) (ρ : Rho) (w : World) (a : Act) (Q : Exit → Act → World → Prop), m ≤ n + 1 → runA fs ms ora m (.loop c') fr H = some (ex, fr', H') → HS Z ρ H w → Fr nt ρ fr a → (∀ ρ' a' w', Ext ρ ρ' → HS Z ρ' H' w' → Kp Z w w' → Fr nt ρ' fr' a' → Q (toEx ex) a' w') →
            Code.rounds P c Q m a w := by
          intro m
          induction m with
          | zero => intro fr H ρ w a Q hm he; simp [runA] at he
          | succ m ihm =>
            intro fr H ρ w a Q hm he h hf hQ
            rw [rounds_succ]
            unfold runA at he
            simp only at he
            split at he
            · rename_i fr1 H1 h1
              refine ihs m (by omega) nt c c' fr H .normal fr1 H1 hc h1 Z ρ w a _ h hf fun ρ1 a1 w1 q1 q2 q3 q4 => ?_
              exact ihm fr1 H1 ρ1 w1 a1 Q (by omega) he q2 q4 fun ρ2 a2 w2 p1 p2 p3 p4 => hQ ρ2 a2 w2 (q1.trans p1) p2 (q3.trans p3) p4
            · rename_i r hne
              refine ihs m (by omega) nt c c' fr H ex fr' H' hc he Z ρ w a _ h hf fun ρ1 a1 w1 q1 q2 q3 q4 => ?_
              cases ex with
              | normal => exact absurd he (hne _ _)
              | exit i => exact hQ ρ1 a1 w1 q1 q2 q3 q4
              | ret => exact hQ ρ1 a1 w1 q1 q2 q3 q4
        refine wp_loop_rounds (n + 1) (key (n + 1) fr H ρ w a Q (Nat.le_refl _) ?_ h hf hQ)
        rw [← he]; conv => lhs; unfold runA
      · cases hc
    · split at hc
      · rename_i i _ i'
        have : i = i' := by simpa using hc
        subst this
        simp only [Option.some.injEq, Prod.mk.injEq] at he
        obtain ⟨rfl, rfl, rfl⟩ := he
        exact wp_exit (hQ ρ a w (Ext.refl _) h (Kp.refl _ _) hf)
      · cases hc
    · split at hc
      · simp only [Option.some.injEq, Prod.mk.injEq] at he
        obtain ⟨rfl, rfl, rfl⟩ := he
        exact wp_ret (hQ ρ a w (Ext.refl _) h (Kp.refl _ _) hf)
      · cases hc
    · cases hc
end
def noOra : Rec := fun _ _ _ => none
def noM : Meth := fun _ _ => none
def Tr.allT {α : Type} (p : Nat → α → Bool) : (Nat → Nat) → Tr α → Bool
  | _, .nil => true
  | k, .node l v r => (match v with | some x => p (k 0) x | none => true) && Tr.allT p (fun i => k (2 * i + 1)) l && Tr.allT p (fun i => k (2 * i + 2)) r
theorem Tr.allT_get {α : Type} {p : Nat → α → Bool} : ∀ {t : Tr α} {k : Nat → Nat} {i : Nat} {v : α}, Tr.allT p k t = true → t.get i = some v → p (k i) v = true
  | .nil, _, _, _, _, h => by simp [Tr.get] at h
  | .node l x r, k, i, v, ha, h => by
    simp only [Tr.allT, Bool.and_eq_true] at ha
    obtain ⟨⟨h1, h2⟩, h3⟩ := ha
    unfold Tr.get at h
    rw [Bool.cond_eq_ite, Bool.cond_eq_ite] at h
    split at h
    · rename_i h0
      have : i = 0 := by simpa using h0
      subst this; subst h; exact h1
    · rename_i h0
      have h0' : i ≠ 0 := by simpa using h0
      split at h
      · rename_i hb
        have hb' : i % 2 = 1 := by simpa using hb
        have := Tr.allT_get h2 h
        rwa [show 2 * (i / 2) + 1 = i by omega] at this
      · rename_i hb
        have hb' : i % 2 ≠ 1 := by simpa using hb
        have := Tr.allT_get h3 h
        rwa [show 2 * (i / 2 - 1) + 2 = i by omega] at this
section
variable {Z : Nat → Prop} {ρ : Rho} {H H' : AHeap} {w w' : World} {P : Program} {fs : Nat → Option AFunc} {ms : Meth} {ora : Rec}
theorem Fr.sub {nt : Nat} {fr fr2 : AFr} {a : Act} (h : Fr nt ρ fr a) (hs : ∀ t v, fr2.get t = some v → fr.get t = some v) : Fr nt ρ fr2 a :=
  ⟨fun t v ht => h.rf t v (hs t v ht), h.size, h.defers⟩
theorem HS.empty (w : World) : HS (fun k => k < w.heap.size) ⟨fun _ => none, fun _ => none⟩ ⟨0, .nil⟩ w := by
  have hg : ∀ b, (⟨0, .nil⟩ : AHeap).get b = .dead := fun b => by simp [AHeap.get, Tr.get]
  exact ⟨fun b x h => (by cases h), fun b c n own par _ h => (by rw [hg] at h; cases h), fun b es k h => (by rw [hg] at h; cases h), fun b c n par h => (by rw [hg] at h; cases h), fun b es k h => (by rw [hg] at h; cases h), fun k h => h, fun b l h => (by cases h), fun b c n own par h => (by rw [hg] at h; cases h)⟩
theorem HS.keep (h : HS Z ρ H w) (k : Kp (fun k => k < w.heap.size) w w') : HS Z ρ H w' := by
  have hb : ∀ g x, w.heap[g]? = some x → w'.heap[g]? = some x := fun g x hg => by
    have hl : g < w.heap.size := (Array.getElem?_eq_some_iff.1 hg).1
    rw [k.block g hl hl]; exact hg
  refine ⟨fun b x hx => ⟨(h.dom b x hx).1, trivial⟩, fun b c n own par hng hc => ?_, fun b es c hc => ?_, h.own, h.mapown, fun j hj => Nat.lt_of_lt_of_le (h.zb j hj) k.size, h.gh, h.pm⟩
  · obtain ⟨g, o, N, h1, h2, h3, C, e, fz, h4, h5⟩ := h.cells b c n own par hng hc
    exact ⟨g, o, N, h1, h2, h3, C, e, fz, hb _ _ h4, h5⟩
  · obtain ⟨g, o, N, h1, h2, E, h3, h4⟩ := h.maps b es c hc
    exact ⟨g, o, N, h1, h2, E, hb _ _ h3, h4⟩
theorem Kp.sub {Z' : Nat → Prop} (k : Kp Z w w') (hz : ∀ j, Z' j → Z j) : Kp Z' w w' := ⟨k.os, k.tape, k.output, k.size, fun j hj hz' => k.block j hj (hz j hz')⟩
end
section
variable {Z : Nat → Prop} {ρ : Rho} {H H' : AHeap} {w w' : World} {P : Program} {fs : Nat → Option AFunc} {ms : Meth} {ora : Rec}
end
end Go.Proofs.YtojeldemfccilaaGreatDoor.AA
