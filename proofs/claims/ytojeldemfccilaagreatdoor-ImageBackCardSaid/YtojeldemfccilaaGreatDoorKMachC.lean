/- Operations follow the machine: the second half. -/
import Derived.Test.YtojeldemfccilaaGreatDoorKMachB
import Derived.Deep.AppendSrc
import Derived.Laws.MakeOwn
import Derived.Laws.BytesString
set_option linter.unusedSimpArgs false
set_option linter.unusedVariables false
namespace Go.Proofs.YtojeldemfccilaaGreatDoor.AA
open Go Go.RowKit
section
variable {Z : Nat → Prop} {ρ : Rho} {H H' : AHeap} {w w' : World} {P : Program}
def ckM (P : Program) (t : TypeId) (sh : ESh) : Bool := match P.underlying t with
  | some (.map k _) => ckE P 6 k sh && keyD 6 sh && (P.underlying k).isSome
  | _ => false
def ckMz (P : Program) (t : TypeId) (z : AV) : Bool := match P.underlying t with
  | some (.map _ e) => (match P.info? e with | some i => (match i.zero with | some v => ckV v z | none => false) | none => false)
  | _ => false
theorem run_zeroMz {t k e : TypeId} {z : AV} (hu : P.underlying t = some (.map k e)) (h : ckMz P t z = true) : ∃ v, (∀ w, (zeroValue e).run P w = .ok v w) ∧ R ρ z v := by
  unfold ckMz at h
  simp only [hu] at h
  split at h
  · rename_i i hi
    split at h
    · rename_i v hv
      exact ⟨v, fun w => by simp [zeroValue, typeInfo, hi, hv], ckV_R h⟩
    · cases h
  · cases h
theorem checkKey_sim {k : TypeId} {sh : ESh} {x : AV} {X : Value} (hc : ckE P 6 k sh = true) (hd : keyD 6 sh = true) (hx : R ρ x X) (h : fitA sh x = true ∨ ∃ c, eqA sh x c = some true) (empty : Bool) (w : World) : (Instr.checkKey empty 10000 k X).run P w = .ok () w := by
  rcases h with h | ⟨c, h⟩
  · unfold fitA at h
    split at h
    · rename_i q
      exact key_sim 6 k (.sc q) x x X true hc hd hx (.inr ⟨q, rfl⟩) empty 9994 w rfl
    · split at h
      · rename_i heq
        exact key_sim 6 k sh x x X true hc hd hx (.inl heq) empty 9994 w rfl
      · cases h
  · exact key_sim 6 k sh x c X true hc hd hx (.inl h) empty 9994 w rfl
theorem modify_toList (E : Array MapEntry) (i : Nat) (f : MapEntry → MapEntry) {e : MapEntry} (h : E.toList[i]? = some e) : (E.modify i f).toList = E.toList.set i (f e) := by
  apply List.ext_getElem?
  intro j
  rw [Array.getElem?_toList, Array.getElem?_modify, List.getElem?_set]
  have hl := (List.getElem?_eq_some_iff.1 h).1
  by_cases hij : i = j
  · subst hij
    have h' : E[i]? = some e := by simpa using h
    have hl' : i < E.size := by simpa using hl
    have h2 := (Array.getElem?_eq_some_iff.1 h').2
    simp [hl', h2]
  · simp [hij]
theorem lookup_sim (h : HS Z ρ H w) {t : TypeId} {sh : ESh} {zero : AV} (hc : ckM P t sh = true) (hz : ckMz P t zero = true) {r : Option Nat} {x : AV} {M X : Value} (hM : R ρ (.map r) M) (hX : R ρ x X) {es : List (AV × AV × Nat)} {c : Nat}
    (hes : (match (generalizing := false) r with | none => some ([], 0) | some r => (match H.get r with | .map es c => some (es, c) | _ => none)) = some (es, c)) {f : Option (Nat × AV × Nat)} (hf : findA sh x es 0 = some f) (ok : Bool) :
    ∃ u, (Instr.lookup t M X ok).run P w = .ok u w ∧ R ρ (match f with | some (_, v, _) => bif ok then .tuple [v, .bool true] else v | none => bif ok then .tuple [zero, .bool false] else zero) u := by
  unfold ckM at hc
  split at hc
  · rename_i k e hu
    simp only [Bool.and_eq_true] at hc
    obtain ⟨⟨h1, h2⟩, h3⟩ := hc
    obtain ⟨z, hz1, hz2⟩ := run_zeroMz (ρ := ρ) hu hz
    -- the entries
    have hE : ∃ E : Array MapEntry, RE ρ es E.toList ∧ (Instr.lookup t M X ok).run P w = ((Instr.checkKey E.isEmpty 10000 k X).run P w).andThen fun _ w => ((Instr.findKey k X E.toList).run P w).andThen fun r w => (match r with
        | some (_, v) => .ok (if ok then .tuple #[v, .bool true] else v) w
        | none => ((zeroValue e).run P w).andThen fun z w => .ok (if ok then .tuple #[z, .bool false] else z) w) := by
      cases r with
      | none =>
        simp only [R] at hM; subst hM
        simp only [Option.some.injEq, Prod.mk.injEq] at hes
        obtain ⟨rfl, -⟩ := hes
        refine ⟨#[], by simp only [RE], ?_⟩
        simp only [Instr.lookup, Sem.run_bind, run_underlying hu, Result.andThen_ok, Sem.run_pure]
        congr 1
        funext _ w1
        congr 1
        funext r w2
        rcases r with _ | ⟨_, v⟩ <;> simp
      | some r =>
        simp only [R] at hM
        obtain ⟨g, o, N, hr, rfl⟩ := hM
        simp only at hes
        split at hes
        · rename_i es' c' hH
          cases hes
          obtain ⟨g', o', N', q1, -, E, q2, q3⟩ := h.maps r es c hH
          rw [hr] at q1; cases q1
          refine ⟨E, q3, ?_⟩
          simp only [Instr.lookup, Sem.run_bind, run_underlying hu, Result.andThen_ok, run_getMap q2, Sem.run_pure]
          congr 1
          funext _ w1
          congr 1
          funext r w2
          rcases r with _ | ⟨_, v⟩ <;> simp
        · cases hes
    obtain ⟨E, hE1, hE2⟩ := hE
    obtain ⟨q1, q2⟩ := find_sim (P := P) (w := w) h1 hX hE1 hf h3
    have hk : fitA sh x = true ∨ ∃ c, eqA sh x c = some true := by
      rcases q1 with ⟨rfl, -⟩ | ⟨j, v, b, k', e', -, -, -, -, -, -, hc, -⟩
      · exact .inl (q2 rfl)
      · exact .inr hc
    have hck := checkKey_sim (P := P) h1 h2 hX hk E.isEmpty w
    rw [hE2, hck]
    simp only [Result.andThen_ok]
    rcases q1 with ⟨rfl, q⟩ | ⟨j, v, b, k', e', rfl, -, -, hv, -, -, -, q⟩
    · refine ⟨if ok then .tuple #[z, .bool false] else z, ?_, ?_⟩
      · simp only [q, Result.andThen_ok, hz1]
      · cases ok
        · exact hz2
        · simp only [cond_true, if_true, R, RL]
          exact ⟨_, rfl, z, [.bool false], rfl, hz2, .bool false, [], rfl, rfl, rfl⟩
    · refine ⟨if ok then .tuple #[e'.val, .bool true] else e'.val, ?_, ?_⟩
      · simp only [q, Result.andThen_ok]
      · cases ok
        · exact hv
        · simp only [cond_true, if_true, R, RL]
          exact ⟨_, rfl, e'.val, [.bool true], rfl, hv, .bool true, [], rfl, rfl, rfl⟩
  · cases hc
theorem found_sim (h : HS Z ρ H w) {t : TypeId} {sh : ESh} (hc : ckM P t sh = true) {r : Nat} {x : AV} {M X : Value} (hM : R ρ (.map (some r)) M) (hX : R ρ x X) {es : List (AV × AV × Nat)} {c : Nat} (hH : H.get r = .map es c) {f : Option (Nat × AV × Nat)} (hf : findA sh x es 0 = some f) :
    ∃ g o N kt et E, M = .map (some g) ∧ ρ r = some (g, o, N) ∧ P.underlying t = some (.map kt et) ∧ w.heap[g]? = some (.map E c) ∧ RE ρ es E.toList ∧ (∀ em, (Instr.checkKey em 10000 kt X).run P w = .ok () w) ∧
      ((f = none ∧ (Instr.findKey kt X E.toList).run P w = .ok none w) ∨ ∃ j v b e, f = some (j, v, b) ∧ E.toList[j]? = some e ∧ E[j]? = some e ∧ R ρ v e.val ∧ e.born = b ∧ (Instr.findKey kt X E.toList).run P w = .ok (some (j, e.val)) w ∧ ∀ w, (Instr.keyThatStays e.key X).run P w = .ok X w) := by
  unfold ckM at hc
  split at hc
  · rename_i k e hu
    simp only [Bool.and_eq_true] at hc
    obtain ⟨⟨h1, h2⟩, h3⟩ := hc
    simp only [R] at hM
    obtain ⟨g, o, N, hr, rfl⟩ := hM
    obtain ⟨g', o', N', q1, -, E, q2, q3⟩ := h.maps r es c hH
    rw [hr] at q1; cases q1
    obtain ⟨p1, p2⟩ := find_sim (P := P) (w := w) h1 hX q3 hf h3
    have hk : fitA sh x = true ∨ ∃ c, eqA sh x c = some true := by
      rcases p1 with ⟨rfl, -⟩ | ⟨j, v, b, k', e', -, -, -, -, -, -, hc, -⟩
      · exact .inl (p2 rfl)
      · exact .inr hc
    refine ⟨g, o, N, k, e, E, rfl, hr, hu, q2, q3, fun em => checkKey_sim h1 h2 hX hk em w, ?_⟩
    rcases p1 with ⟨rfl, q⟩ | ⟨j, v, b, k', e', rfl, -, he, hv, hb, hs, -, q⟩
    · exact .inl ⟨rfl, q⟩
    · exact .inr ⟨j, v, b, e', rfl, he, by simpa using he, hv, hb, q, fun w => by simp [Instr.keyThatStays, hs]⟩
  · cases hc
theorem mapUpd_sim (h : HS Z ρ H w) {t : TypeId} {sh : ESh} (hc : ckM P t sh = true) {r : Nat} {x v : AV} {M X V : Value} (hM : R ρ (.map (some r)) M) (hX : R ρ x X) (hV : R ρ v V) {es : List (AV × AV × Nat)} {c : Nat} (hH : H.get r = .map es c) {f : Option (Nat × AV × Nat)} (hf : findA sh x es 0 = some f) :
    ∃ w', (Instr.mapUpdate t M X V).run P w = .ok () w' ∧ HS Z ρ (match f with | some (i, _, b) => H.put r (.map (es.set i (x, v, b)) c) | none => H.put r (.map (es ++ [(x, v, c)]) (c + 1))) w' ∧ Kp Z w w' := by
  obtain ⟨g, o, N, kt, et, E, rfl, hr, hu, hw, hE, hck, hfd⟩ := found_sim (P := P) h hc hM hX hH hf
  rcases hfd with ⟨rfl, q⟩ | ⟨j, v', b, e, rfl, he, he', hv, hb, q, hs⟩
  · obtain ⟨w', s1, s2⟩ := run_setMap (P := P) hw (.map (E.push { key := X, val := V, born := c }) (c + 1))
    obtain ⟨p1, p2⟩ := h.putMap hH hr (es' := es ++ [(x, v, c)]) (E' := E.push { key := X, val := V, born := c }) (by rw [Array.toList_push]; exact hE.push hX hV rfl) s2
    exact ⟨w', by simp only [Instr.mapUpdate, Sem.run_bind, run_underlying hu, Result.andThen_ok, run_getMap hw, hck, q, s1], p1, p2⟩
  · obtain ⟨w', s1, s2⟩ := run_setMap (P := P) hw (.map (E.modify j fun e => { e with key := X, val := V }) c)
    obtain ⟨p1, p2⟩ := h.putMap hH hr (es' := es.set j (x, v, b)) (E' := E.modify j fun e => { e with key := X, val := V }) (by rw [modify_toList _ _ _ he]; exact hE.set hX hV hb) s2
    refine ⟨w', ?_, p1, p2⟩
    simp only [Instr.mapUpdate, Sem.run_bind, run_underlying hu, Result.andThen_ok, run_getMap hw, hck, q, he', Option.map_some, Option.getD_some, hs, s1]
theorem mapEnt_sim (h : HS Z ρ H w) {t : TypeId} {sh : ESh} {zero : AV} (hc : ckM P t sh = true) (hz : ckMz P t zero = true) {r : Nat} {x : AV} {M X : Value} (hM : R ρ (.map (some r)) M) (hX : R ρ x X) {es : List (AV × AV × Nat)} {c : Nat} (hH : H.get r = .map es c) {f : Option (Nat × AV × Nat)} (hf : findA sh x es 0 = some f) :
    ∃ w' u, (Instr.mapEntry t M X).run P w = .ok u w' ∧ HS Z ρ (match f with | some (i, v, b) => H.put r (.map (es.set i (x, v, b)) c) | none => H.put r (.map (es ++ [(x, zero, c)]) (c + 1))) w' ∧ Kp Z w w' ∧ R ρ (match f with | some (_, v, b) => .tuple [v, pInt b] | none => .tuple [zero, pInt c]) u := by
  obtain ⟨g, o, N, kt, et, E, rfl, hr, hu, hw, hE, hck, hfd⟩ := found_sim (P := P) h hc hM hX hH hf
  obtain ⟨z, hz1, hz2⟩ := run_zeroMz (ρ := ρ) hu hz
  rcases hfd with ⟨rfl, q⟩ | ⟨j, v', b, e, rfl, he, he', hv, hb, q, hs⟩
  · obtain ⟨w', s1, s2⟩ := run_setMap (P := P) hw (.map (E.push { key := X, val := z, born := c }) (c + 1))
    obtain ⟨p1, p2⟩ := h.putMap hH hr (es' := es ++ [(x, zero, c)]) (E' := E.push { key := X, val := z, born := c }) (by rw [Array.toList_push]; exact hE.push hX hz2 rfl) s2
    refine ⟨w', .tuple #[z, goInt c], by simp only [Instr.mapEntry, Sem.run_bind, run_underlying hu, Result.andThen_ok, run_getMap hw, hck, q, hz1, s1, Sem.run_pure], p1, p2, ?_⟩
    simp only [R, RL]
    exact ⟨_, rfl, z, [goInt c], rfl, hz2, goInt c, [], rfl, by simp only [pInt, R]; rfl, rfl⟩
  · obtain ⟨w', s1, s2⟩ := run_setMap (P := P) hw (.map (E.modify j fun e => { e with key := X }) c)
    obtain ⟨p1, p2⟩ := h.putMap hH hr (es' := es.set j (x, v', b)) (E' := E.modify j fun e => { e with key := X }) (by rw [modify_toList _ _ _ he]; exact hE.set hX hv hb) s2
    refine ⟨w', .tuple #[e.val, goInt b], ?_, p1, p2, ?_⟩
    · simp only [Instr.mapEntry, Sem.run_bind, run_underlying hu, Result.andThen_ok, run_getMap hw, hck, q, he', Option.map_some, Option.getD_some, hs, s1, Sem.run_pure, hb]
    · simp only [R, RL]
      exact ⟨_, rfl, e.val, [goInt b], rfl, hv, goInt b, [], rfl, by simp only [pInt, R]; rfl, rfl⟩
theorem findIdx_RE {n : Int} : ∀ {es : List (AV × AV × Nat)} {E : List MapEntry}, RE ρ es E → E.findIdx? (fun e => (e.born : Int) == n) = es.findIdx? (fun e => (e.2.2 : Int) == n)
  | [], E, h => by simp only [RE] at h; subst h; rfl
  | (k, v, b) :: es, E, h => by
    simp only [RE] at h
    obtain ⟨e, E', rfl, -, -, rfl, h5⟩ := h
    simp only [List.findIdx?_cons, findIdx_RE h5]
theorem entSt_sim (h : HS Z ρ H w) {t : TypeId} {r : Nat} {k : IntKind} {n : Int} {v : AV} {M N' V : Value} (hM : R ρ (.map (some r)) M) (hN : R ρ (.int k n) N') (hV : R ρ v V) {es : List (AV × AV × Nat)} {c : Nat} (hH : H.get r = .map es c) {i : Nat} (hi : es.findIdx? (fun e => (e.2.2 : Int) == n) = some i) {x y : AV} {b : Nat} (hx : es[i]? = some (x, y, b)) :
    ∃ w', (Instr.entryStore t M N' V).run P w = .ok () w' ∧ HS Z ρ (H.put r (.map (es.set i (x, v, b)) c)) w' ∧ Kp Z w w' := by
  simp only [R] at hM hN
  obtain ⟨g, o, N, hr, rfl⟩ := hM
  subst hN
  obtain ⟨g', o', N', q1, -, E, q2, q3⟩ := h.maps r es c hH
  rw [hr] at q1; cases q1
  obtain ⟨e, e1, e2, e3, e4⟩ := q3.get hx
  obtain ⟨w', s1, s2⟩ := run_setMap (P := P) q2 (.map (E.modify i fun e => { e with val := V }) c)
  obtain ⟨p1, p2⟩ := h.putMap hH hr (es' := es.set i (x, v, b)) (E' := E.modify i fun e => { e with val := V }) (by rw [modify_toList _ _ _ e1]; exact q3.set e2 hV e4) s2
  have hfi : E.findIdx? (fun e => (e.born : Int) == n) = some i := by
    rw [← hi, ← findIdx_RE q3]
    have := List.findIdx?_toArray (fun e : MapEntry => (e.born : Int) == n) E.toList
    simpa using this
  refine ⟨w', ?_, p1, p2⟩
  simp only [Instr.entryStore, Sem.run_bind, run_getMap q2, Result.andThen_ok, asInt, asIntOf, Sem.run_pure, hfi, s1]
theorem delete_sim (h : HS Z ρ H w) {t : TypeId} {sh : ESh} (hc : ckM P t sh = true) {r : Nat} {x : AV} {M X : Value} (hM : R ρ (.map (some r)) M) (hX : R ρ x X) {es : List (AV × AV × Nat)} {c : Nat} (hH : H.get r = .map es c) {f : Option (Nat × AV × Nat)} (hf : findA sh x es 0 = some f) (ats : Array TypeId) (ty : TypeId) (h0 : ats[0]? = some t) :
    ∃ w', (Builtin.delete_ ats ty #[M, X]).run P w = .ok (.tuple #[]) w' ∧ HS Z ρ (match f with | some (i, _, _) => H.put r (.map (es.eraseIdx i) c) | none => H.put r (.map es c)) w' ∧ Kp Z w w' := by
  obtain ⟨g, o, N, kt, et, E, rfl, hr, hu, hw, hE, hck, hfd⟩ := found_sim (P := P) h hc hM hX hH hf
  rcases hfd with ⟨rfl, q⟩ | ⟨j, v', b, e, rfl, he, he', hv, hb, q, hs⟩
  · obtain ⟨w', s1, s2⟩ := run_setMap (P := P) hw (.map E c)
    obtain ⟨p1, p2⟩ := h.putMap hH hr (es' := es) hE s2
    exact ⟨w', by simp [Builtin.delete_, h0, run_underlying hu, run_getMap hw, hck, q, s1], p1, p2⟩
  · obtain ⟨w', s1, s2⟩ := run_setMap (P := P) hw (.map (E.eraseIdxIfInBounds j) c)
    have hj : j < E.size := by have := (List.getElem?_eq_some_iff.1 he).1; simpa using this
    obtain ⟨p1, p2⟩ := h.putMap hH hr (es' := es.eraseIdx j) (E' := E.eraseIdxIfInBounds j) (by rw [Array.eraseIdxIfInBounds, dif_pos hj, Array.toList_eraseIdx]; exact hE.erase j) s2
    exact ⟨w', by simp [Builtin.delete_, h0, run_underlying hu, run_getMap hw, hck, q, s1], p1, p2⟩
theorem lenM_sim (h : HS Z ρ H w) {t kt et : TypeId} (hu : P.underlying t = some (.map kt et)) {r : Option Nat} {M : Value} (hM : R ρ (.map r) M) {n : Nat} (hn : (match (generalizing := false) r with | none => some 0 | some r => (match H.get r with | .map es _ => some es.length | _ => none)) = some n) (ats : Array TypeId) (ty : TypeId) (h0 : ats[0]? = some t) :
    (Builtin.len_ ats ty #[M]).run P w = .ok (.int .i64 n) w := by
  cases r with
  | none =>
    simp only [R] at hM; subst hM
    simp at hn; subst hn
    simp [Builtin.len_, h0, run_underlying hu, goInt]
  | some r =>
    simp only [R] at hM
    obtain ⟨g, o, N, hr, rfl⟩ := hM
    simp only at hn
    split at hn
    · rename_i es c hH
      cases hn
      obtain ⟨g', o', N', q1, -, E, q2, q3⟩ := h.maps r es c hH
      rw [hr] at q1; cases q1
      have hl : E.size = es.length := by have := q3.len; simpa using this
      simp [Builtin.len_, h0, run_underlying hu, run_getMap q2, goInt, hl]
    · cases hn
end
section
variable {Z : Nat → Prop} {ρ : Rho} {H H' : AHeap} {w w' : World} {P : Program}
def oneEq : Value → Value → Bool
  | .int .., .int .. | .float .., .float .. | .complex .., .complex .. | .string .., .string .. => false
  | _, _ => true
theorem binOp_eql {t : TypeId} {X Y : Value} (h : oneEq X Y = true) : binOp .eql t X Y = (do pure (.bool (← Op.equal t X Y))) := by
  cases X <;> cases Y <;> first | rfl | simp [oneEq] at h
theorem binOp_neq {t : TypeId} {X Y : Value} (h : oneEq X Y = true) : binOp .neq t X Y = (do pure (.bool (!(← Op.equal t X Y)))) := by
  cases X <;> cases Y <;> first | rfl | simp [oneEq] at h
theorem R.tag {x : AV} {X : Value} (h : R ρ x X) : (∀ k n, X = .int k n → x = .int k n) ∧ (∀ s, X = .string s → ∃ l, x = .str l) ∧ (∀ k n, X ≠ .float k n) ∧ (∀ k a b, X ≠ .complex k a b) ∧ (X = .nilIface → x = .nilIface) ∧ (∀ c, X = .agg c → ∃ l, x = .agg l) := by
  cases x with
  | bool b => simp only [R] at h; subst h; simp
  | int k n => simp only [R] at h; subst h; simp
  | str s => simp only [R] at h; obtain ⟨b, rfl, -⟩ := h; simp
  | ptr a => cases a <;> simp only [R] at h <;> first | (subst h; simp; done) | (obtain ⟨_, _, _, _, rfl⟩ := h; simp)
  | slice a s n c => cases a <;> simp only [R] at h <;> first | (obtain ⟨_, rfl⟩ := h; simp; done) | (obtain ⟨_, _, _, _, _, _, rfl, _⟩ := h; simp)
  | map a => cases a <;> simp only [R] at h <;> first | (subst h; simp; done) | (obtain ⟨_, _, _, _, rfl⟩ := h; simp)
  | func fn a b => simp only [R] at h; obtain ⟨_, _, rfl, _⟩ := h; simp
  | nilFunc => simp only [R] at h; subst h; simp
  | iface t v => simp only [R] at h; obtain ⟨_, rfl, _⟩ := h; simp
  | nilIface => simp only [R] at h; subst h; simp
  | agg cs => simp only [R] at h; obtain ⟨_, rfl, _⟩ := h; simp
  | tuple cs => simp only [R] at h; obtain ⟨_, rfl, _⟩ := h; simp
theorem oneEq_of {x y : AV} {X Y : Value} (hx : R ρ x X) (hy : R ρ y Y) (hi : ∀ k a k' b, x = .int k a → y = .int k' b → False) (hs : ∀ a b, x = .str a → y = .str b → False) : oneEq X Y = true := by
  obtain ⟨x1, x2, x3, x4, -⟩ := hx.tag
  obtain ⟨y1, y2, y3, y4, -⟩ := hy.tag
  unfold oneEq
  split
  · exact (hi _ _ _ _ (x1 _ _ rfl) (y1 _ _ rfl)).elim
  · exact absurd rfl (x3 _ _)
  · exact absurd rfl (x4 _ _ _)
  · obtain ⟨a, ha⟩ := x2 _ rfl
    obtain ⟨b, hb⟩ := y2 _ rfl
    exact (hs _ _ ha hb).elim
  · rfl
def isCo : Operand → Bool
  | .const _ => true
  | _ => false
def guardB (P : Program) (t : TypeId) (x y : Operand) : ESh → Bool
  | .sc .iface => isCo x || isCo y
  | .parts _ => !P.eqGuardType P.depth t
  | _ => true
def ckBin (P : Program) (op : BinOp) (t : TypeId) (x y : Operand) (sh : ESh) : Bool := match op with
  | .eql | .neq => ckE P 6 t sh && guardB P t x y sh
  | _ => true
theorem guard_int {op : BinOp} (t : TypeId) (x y : Operand) (k k' : IntKind) (a b : Int) (w : World) : (eqGuard op t x y (.int k a) (.int k' b)).run P w = .ok () w := by
  cases op <;> rfl
theorem guard_str {op : BinOp} (t : TypeId) (x y : Operand) (a b : ByteArray) (w : World) : (eqGuard op t x y (.string a) (.string b)).run P w = .ok () w := by
  cases op <;> rfl
theorem sameS_nil {k : SK} {y : AV} {b : Bool} (h : sameS k .nilIface y = some b) : k = .iface := by
  cases k <;> cases y <;> simp [sameS] at h <;> rfl
theorem sameS_agg {k : SK} {l : List AV} {y : AV} {b : Bool} (h : sameS k (.agg l) y = some b) : False := by
  cases k <;> cases y <;> simp [sameS] at h
theorem guard_eq {op : BinOp} {t : TypeId} {xo yo : Operand} {sh : ESh} (hop : op = .eql ∨ op = .neq) (hc : ckBin P op t xo yo sh = true) {x y : AV} {X Y : Value} (hx : R ρ x X) (hy : R ρ y Y) {b : Bool} (h : eqA sh x y = some b) (w : World) : (eqGuard op t xo yo X Y).run P w = .ok () w ∧ ckE P 6 t sh = true := by
  have hc' : ckE P 6 t sh = true ∧ guardB P t xo yo sh = true := by rcases hop with rfl | rfl <;> simpa [ckBin] using hc
  refine ⟨?_, hc'.1⟩
  have hc2 := hc'.2
  clear hc hc'
  unfold eqA eqD at h
  cases sh with
  | no => cases h
  | parts l =>
    simp only [guardB] at h hc2
    split at h
    · simp only [R] at hx hy
      obtain ⟨X', rfl, -⟩ := hx
      obtain ⟨Y', rfl, -⟩ := hy
      exact run_eqGuard_agg w op t xo yo X' Y' (by simpa using hc2)
    · cases h
  | sc k =>
    simp only at h
    obtain ⟨-, -, -, -, x5, x6⟩ := hx.tag
    have hg : eqGuard op t xo yo X Y = eqGuard .eql t xo yo X Y := by rcases hop with rfl | rfl <;> rfl
    rw [hg]
    clear hg hop
    unfold eqGuard
    simp only [Bool.not_true, Bool.false_eq_true, if_false]
    split
    · have := x5 rfl
      subst this
      have := sameS_nil h
      subst this
      simp only [guardB, Bool.or_eq_true] at hc2
      rcases hc2 with hq | hq
      · cases xo <;> simp [isCo] at hq
        simp
      · cases yo <;> simp [isCo] at hq
        simp
    · obtain ⟨l, rfl⟩ := x6 _ rfl
      exact (sameS_agg h).elim
    · rfl
def litV : AV → Value
  | .int k n => .int k n
  | .bool b => .bool b
  | _ => .nilFunc
theorem bin_sim {op : BinOp} {t : TypeId} {xo yo : Operand} {sh : ESh} (hc : ckBin P op t xo yo sh = true) {x y v : AV} {X Y : Value} (hx : R ρ x X) (hy : R ρ y Y) (h : binA op sh x y = some v) (w : World) :
    ∃ u, (do eqGuard op t xo yo X Y; binOp op t X Y : Sem Value).run P w = .ok u w ∧ R ρ v u := by
  unfold binA at h
  split at h
  · -- shl
    simp only [R] at hx hy; subst hx hy
    split at h
    · cases h
    · rename_i hb
      cases h
      refine ⟨_, ?_, by simp only [R]; rfl⟩
      simp only [Sem.run_bind, guard_int, Result.andThen_ok, binOp, Op.shift, hb, if_false, Sem.run_pure]
  · simp only [R] at hx hy; subst hx hy
    split at h
    · cases h
    · rename_i hb
      cases h
      refine ⟨_, ?_, by simp only [R]; rfl⟩
      simp only [Sem.run_bind, guard_int, Result.andThen_ok, binOp, Op.shift, hb, if_false, Sem.run_pure]
  · rename_i k a k' b hn1 hn2
    simp only [R] at hx hy; subst hx hy
    split at h
    · rename_i hk
      subst hk
      simp only [Sem.run_bind, guard_int, Result.andThen_ok]
      refine ⟨litV v, ?_⟩
      cases op <;> simp only at h <;> first
        | (exact (hn1 rfl).elim)
        | (exact (hn2 rfl).elim)
        | (cases h; done)
        | (cases h; exact ⟨by simp [binOp, Op.intArith, Op.intBits, Op.intCmp, litV], by simp only [R, litV]⟩)
        | (split at h
           · cases h
           · rename_i hb; cases h; exact ⟨by simp [binOp, Op.intDiv, hb, litV], by simp only [R, litV]⟩)
    · cases h
  · simp only [R] at hx hy
    obtain ⟨a, rfl, rfl⟩ := hx
    obtain ⟨b, rfl, rfl⟩ := hy
    split at h
    · rename_i hl
      cases h
      refine ⟨.string (a ++ b), ?_, by simp only [R]; exact ⟨a ++ b, rfl, by simp⟩⟩
      have hl' : ¬ (((a.size + b.size : Nat) : Int) > IntKind.i64.max) := by
        have h1 : a.data.toList.length = a.size := rfl
        have h2 : b.data.toList.length = b.size := rfl
        have : IntKind.i64.max = 9223372036854775807 := by decide
        rw [this]
        simp only [List.length_map, h1, h2] at hl
        omega
      simp only [Sem.run_bind, guard_str, Result.andThen_ok, binOp, Op.stringOp]
      rw [if_neg hl']
      rfl
    · cases h
  · simp only [R] at hx hy
    obtain ⟨a, rfl, rfl⟩ := hx
    obtain ⟨b, rfl, rfl⟩ := hy
    cases h
    refine ⟨.bool (a == b), ?_, by simp only [R]; rw [strs_eq]⟩
    simp only [Sem.run_bind, guard_str, Result.andThen_ok, binOp, Op.stringOp, Sem.run_pure, beq_toListBytes]
  · simp only [R] at hx hy
    obtain ⟨a, rfl, rfl⟩ := hx
    obtain ⟨b, rfl, rfl⟩ := hy
    cases h
    refine ⟨.bool (!(a == b)), ?_, by simp only [R]; rw [show (∀ l m : List Nat, (l != m) = !(l == m)) from fun _ _ => rfl, strs_eq]⟩
    simp only [Sem.run_bind, guard_str, Result.andThen_ok, binOp, Op.stringOp, Sem.run_pure, beq_toListBytes]
  · rename_i h1 h2
    cases he : eqA sh x y with
    | none => rw [he] at h; cases h
    | some b =>
      rw [he] at h
      simp at h; subst h
      obtain ⟨g1, g2⟩ := guard_eq (.inl rfl) hc hx hy he w
      have ho := oneEq_of hx hy (fun k a k' b e1 e2 => h1 k a k' b e1 e2) (fun a b e1 e2 => h2 a b e1 e2)
      refine ⟨.bool b, ?_, by simp only [R]⟩
      simp only [Sem.run_bind, g1, Result.andThen_ok, binOp_eql ho, equal_sim g2 hx hy he w, Sem.run_pure]
  · rename_i h1 h2
    cases he : eqA sh x y with
    | none => rw [he] at h; cases h
    | some b =>
      rw [he] at h
      simp at h; subst h
      obtain ⟨g1, g2⟩ := guard_eq (.inr rfl) hc hx hy he w
      have ho := oneEq_of hx hy (fun k a k' b e1 e2 => h1 k a k' b e1 e2) (fun a b e1 e2 => h2 a b e1 e2)
      refine ⟨.bool (!b), ?_, by simp only [R]⟩
      simp only [Sem.run_bind, g1, Result.andThen_ok, binOp_neq ho, equal_sim g2 hx hy he w, Sem.run_pure]
  · cases h
theorem un_sim {op : UnOp} {x v : AV} {X : Value} (hx : R ρ x X) (h : unA op x = some v) (w : World) : ∃ u, (Op.unary op X).run P w = .ok u w ∧ R ρ v u := by
  unfold unA at h
  split at h
  · simp only [R] at hx; subst hx; cases h
    exact ⟨_, rfl, by simp only [R]⟩
  · simp only [R] at hx; subst hx; cases h
    exact ⟨_, rfl, by simp only [R]⟩
  · simp only [R] at hx; subst hx; cases h
    exact ⟨_, rfl, by simp only [R]⟩
  · cases h
end
section
variable {Z : Nat → Prop} {ρ : Rho} {H H' : AHeap} {w w' : World} {P : Program}
def oR (ρ : Rho) : Option AV → Option Value → Prop
  | none, none => True
  | some a, some b => R ρ a b
  | _, _ => False
theorem oR_bound {x : Option AV} {X : Option Value} (hx : oR ρ x X) {hi m d : Nat} (h : boundA x 0 hi d = some m) :
    (x = none ∧ X = none ∧ m = d) ∨ ∃ a b, x = some a ∧ X = some b ∧ m ≤ hi ∧ ∀ (P : Program) (w : World) (code : BoundsCode) (hi' : Nat), m ≤ hi' → (Instr.sliceBound b hi' code).run P w = .ok m w := by
  cases x with
  | none =>
    cases X with
    | none => simp [boundA] at h; exact .inl ⟨rfl, rfl, h.symm⟩
    | some b => exact hx.elim
  | some a =>
    cases X with
    | none => exact hx.elim
    | some b =>
      right
      have hx : R ρ a b := hx
      refine ⟨a, b, rfl, rfl, ?_⟩
      unfold boundA at h
      split at h
      · rename_i heq; cases heq
      · rename_i k i heq
        cases heq
        simp only [R] at hx
        subst hx
        split at h
        · rename_i hc
          cases h
          have h1 : 0 ≤ i := by simpa using hc.1
          refine ⟨by omega, fun P w code hi' hle => ?_⟩
          simp only [Instr.sliceBound, asIntOf, Sem.run_bind, Sem.run_pure, Result.andThen_ok]
          rw [if_pos ⟨h1, by omega⟩]
          rfl
        · cases h
      · cases h
theorem bounds_sim {b i s len cap : Nat} {clip : Bool} {lo hi mx : Option AV} {LO HI MX : Option Value} (h1 : oR ρ lo LO) (h2 : oR ρ hi HI) (h3 : oR ρ mx MX) {v : AV} (h : slA b i s len clip lo hi mx = some v) (hcap : len ≤ cap) (hclip : clip = true → cap = len) (sl : Bool) :
    ∃ l h' m c, v = .slice (some (b, i + l * s)) s (h' - l) c ∧ (Instr.sliceBounds sl len cap LO HI MX).run P w = .ok (l, h', m) w ∧ l ≤ h' ∧ h' ≤ m ∧ m ≤ cap ∧ (c = true → m = h') ∧ h' ≤ len := by
  unfold slA at h
  split at h
  · cases h
  · rename_i m hm
    split at h
    · cases h
    · rename_i h' hh
      split at h
      · cases h
      · rename_i l hl
        cases hg : (mx.isSome && hi.isNone)
        · rw [hg] at h
          simp only [cond_false, Option.some.injEq] at h
          subst h
          rcases oR_bound h3 hm with ⟨rfl, rfl, rfl⟩ | ⟨ma, mb, rfl, rfl, hm1, hm2⟩
          · -- no max
            have hl' : ∃ hb : h' ≤ m, (Instr.sliceBounds sl m cap LO HI none).run P w = .ok (l, h', cap) w ∧ l ≤ h' := by
              rcases oR_bound h2 hh with ⟨rfl, rfl, rfl⟩ | ⟨ha, hb, rfl, rfl, q1, q2⟩
              · refine ⟨Nat.le_refl _, ?_⟩
                rcases oR_bound h1 hl with ⟨rfl, rfl, rfl⟩ | ⟨la, lb, rfl, rfl, p1, p2⟩
                · exact ⟨by simp [Instr.sliceBounds], by omega⟩
                · exact ⟨by simp [Instr.sliceBounds, p2 P w _ _ p1], p1⟩
              · refine ⟨q1, ?_⟩
                rcases oR_bound h1 hl with ⟨rfl, rfl, rfl⟩ | ⟨la, lb, rfl, rfl, p1, p2⟩
                · exact ⟨by simp [Instr.sliceBounds, q2 P w _ cap (by omega)], by omega⟩
                · exact ⟨by simp [Instr.sliceBounds, q2 P w _ cap (by omega), p2 P w _ _ p1], p1⟩
            obtain ⟨hb, hr, hle⟩ := hl'
            refine ⟨l, h', cap, _, rfl, hr, hle, by omega, Nat.le_refl _, fun hc => ?_, hb⟩
            simp only [Option.isSome_none, cond_false, Bool.and_eq_true] at hc
            have := Nat.eq_of_beq_eq_true hc.2
            rw [hclip hc.1]; omega
          · rcases oR_bound h2 hh with ⟨rfl, rfl, rfl⟩ | ⟨ha, hb, rfl, rfl, q1, q2⟩
            · simp at hg
            · have hr : (Instr.sliceBounds sl len cap LO (some hb) (some mb)).run P w = .ok (l, h', m) w ∧ l ≤ h' := by
                rcases oR_bound h1 hl with ⟨rfl, rfl, rfl⟩ | ⟨la, lb, rfl, rfl, p1, p2⟩
                · exact ⟨by simp [Instr.sliceBounds, hm2 P w _ cap (by omega), q2 P w _ m q1], by omega⟩
                · exact ⟨by simp [Instr.sliceBounds, hm2 P w _ cap (by omega), q2 P w _ m q1, p2 P w _ _ p1], p1⟩
              refine ⟨l, h', m, _, rfl, hr.1, hr.2, q1, by omega, fun hc => ?_, by omega⟩
              simp only [Option.isSome_some, cond_true] at hc
              exact (Nat.eq_of_beq_eq_true hc).symm
        · rw [hg] at h; cases h
theorem slSlice_sim {t : TypeId} {s : Nat} (hc : ckSl P t s = true) {a : Option (Nat × Nat)} {s' len : Nat} {clip : Bool} {X : Value} (hX : R ρ (.slice a s' len clip) X) (hs' : a ≠ none → s' = s) {lo hi mx : Option AV} {LO HI MX : Option Value} (h1 : oR ρ lo LO) (h2 : oR ρ hi HI) (h3 : oR ρ mx MX) {v : AV}
    (h : (match a with
      | some (b, i) => slA b i s len clip lo hi mx
      | none => (match slA 0 0 s len clip lo hi mx with | some (.slice _ _ n _) => some (.slice none s n true) | _ => none)) = some v) :
    ∃ u, (Instr.sliceAt t X LO HI MX).run P w = .ok u w ∧ R ρ v u := by
  unfold ckSl at hc
  split at hc
  · rename_i e hu
    cases a with
    | none =>
      simp only [R] at hX
      obtain ⟨rfl, rfl⟩ := hX
      simp only at h
      split at h
      · rename_i v' _ _ n _ heq
        cases h
        obtain ⟨l, h', m, c, q1, q2, q3, q4, q5, -, q7⟩ := bounds_sim (P := P) (w := w) h1 h2 h3 heq (Nat.le_refl _) (fun _ => rfl) true
        cases q1
        have : m = 0 := by omega
        have : l = 0 := by omega
        have : h' = 0 := by omega
        subst_vars
        refine ⟨.slice none 0 0, ?_, by simp [R]⟩
        simp only [Instr.sliceAt, Instr.slice, Sem.run_bind, run_underlying hu, Result.andThen_ok, q2, run_size hc, Sem.run_pure]
        simp
      · cases h
    | some bi =>
      obtain ⟨b, i⟩ := bi
      have := hs' (by simp); subst this
      simp only [R] at hX
      obtain ⟨g, o, N, ad, cap, hb, rfl, hcap, hclip, hN, had⟩ := hX
      obtain ⟨l, h', m, c, rfl, q2, q3, q4, q5, q6, q7⟩ := bounds_sim (P := P) (w := w) h1 h2 h3 h hcap hclip true
      refine ⟨.slice (if m = l then some ad else some (ad.add (l * s'))) (h' - l) (m - l), ?_, ?_⟩
      · simp only [Instr.sliceAt, Instr.slice, Sem.run_bind, run_underlying hu, Result.andThen_ok, q2, run_size hc, Sem.run_pure, Option.map_some]
      · simp only [R]
        have hmul : l * s' + (m - l) * s' = m * s' := by rw [← Nat.add_mul]; congr 1; omega
        have hmc : m * s' ≤ cap * s' := Nat.mul_le_mul_right _ q5
        by_cases hml : m = l
        · rw [if_pos hml]
          refine ⟨g, o, N, ad, m - l, hb, rfl, by omega, fun hc => by have := q6 hc; omega, by omega, fun h0 => absurd (by omega) h0⟩
        · rw [if_neg hml]
          refine ⟨g, o, N, _, m - l, hb, rfl, by omega, fun hc => by have := q6 hc; omega, by omega, fun h0 => ?_⟩
          rw [had (by omega), add_at, Nat.add_assoc]
  · cases hc
theorem slArr_sim (hH : HS Z ρ H w) {t : TypeId} {n s : Nat} (hc : ckArr P t n s = true) {b i : Nat} {X : Value} (hX : R ρ (.ptr (some (b, i))) X) {c : Tr AV} {k : Nat} {own : Bool} {par : List Nat} (hb : H.get b = .cells c k own par) (hk : i + n * s ≤ k) {lo hi mx : Option AV} {LO HI MX : Option Value} (h1 : oR ρ lo LO) (h2 : oR ρ hi HI) (h3 : oR ρ mx MX) {v : AV}
    (h : slA b i s n true lo hi mx = some v) :
    ∃ u, (Instr.sliceAt t X LO HI MX).run P w = .ok u w ∧ R ρ v u := by
  unfold ckArr at hc
  split at hc
  · rename_i m' e hu
    simp only [Bool.and_eq_true, beq_iff_eq] at hc
    obtain ⟨rfl, hs⟩ := hc
    simp only [R] at hX
    obtain ⟨g, o, N, hρ, rfl⟩ := hX
    obtain ⟨g', o', N', p1, p2, -⟩ := hH.cells b c k own par (hH.ng hρ) hb
    rw [hρ] at p1; cases p1
    obtain ⟨l, h', m, cl, rfl, q2, q3, q4, q5, q6, q7⟩ := bounds_sim (P := P) (w := w) h1 h2 h3 h (Nat.le_refl _) (fun _ => rfl) false
    refine ⟨.slice (some (if m = l then ⟨g, o + i, none⟩ else (⟨g, o + i, none⟩ : Addr).add (l * s))) (h' - l) (m - l), ?_, ?_⟩
    · simp only [Instr.sliceAt, Instr.sureAddr, Sem.run_bind, run_underlying hu, Result.andThen_ok, Sem.run_pure, q2, run_size hs]
    · simp only [R]
      have hmul : l * s + (m - l) * s = m * s := by rw [← Nat.add_mul]; congr 1; omega
      have hmc : m * s ≤ m' * s := Nat.mul_le_mul_right _ q5
      refine ⟨g, o, N, _, m - l, hρ, rfl, by omega, fun hc => by have := q6 hc; omega, by omega, fun h0 => ?_⟩
      rw [if_neg (by omega), add_at, Nat.add_assoc]
  · cases hc
theorem slStr_sim {t : TypeId} (hu : P.underlying t = some .string) {l : List Nat} {X : Value} (hX : R ρ (.str l) X) {lo hi : Option AV} {LO HI : Option Value} (h1 : oR ρ lo LO) (h2 : oR ρ hi HI) {h' o : Nat} (hh : boundA hi 0 l.length l.length = some h') (hl : boundA lo 0 h' 0 = some o) :
    ∃ u, (Instr.sliceAt t X LO HI none).run P w = .ok u w ∧ R ρ (.str ((l.drop o).take (h' - o))) u := by
  simp only [R] at hX
  obtain ⟨s, rfl, hs⟩ := hX
  have hlen := str_len hs
  have hb : ∀ (isSl : Bool), (Instr.sliceBounds isSl s.size s.size LO HI none).run P w = .ok (o, h', s.size) w := by
    intro isSl
    rcases oR_bound h2 hh with ⟨rfl, rfl, rfl⟩ | ⟨ha, hb, rfl, rfl, q1, q2⟩
    · rcases oR_bound h1 hl with ⟨rfl, rfl, rfl⟩ | ⟨la, lb, rfl, rfl, p1, p2⟩
      · simp [Instr.sliceBounds, hlen]
      · simp [Instr.sliceBounds, hlen, p2 P w _ _ p1]
    · rcases oR_bound h1 hl with ⟨rfl, rfl, rfl⟩ | ⟨la, lb, rfl, rfl, p1, p2⟩
      · simp [Instr.sliceBounds, q2 P w _ s.size (by omega)]
      · simp [Instr.sliceBounds, q2 P w _ s.size (by omega), p2 P w _ _ p1]
  refine ⟨.string (s.extract o h'), ?_, ?_⟩
  · simp only [Instr.sliceAt, Instr.slice, Sem.run_bind, run_underlying hu, Result.andThen_ok, hb, Option.isSome_none, Bool.false_eq_true, if_false, Sem.run_pure]
  · simp only [R]
    refine ⟨_, rfl, ?_⟩
    rw [← hs]
    simp [List.map_take, List.map_drop]
end
section
variable {Z : Nat → Prop} {ρ : Rho} {H H' : AHeap} {w w' : World} {P : Program}
theorem HS.drew (h : HS Z ρ H w) : HS Z ρ H w.drew := h.draw rfl
theorem Kp.drew (h : Kp Z w w') : Kp Z w w'.drew := ⟨h.os, h.tape, h.output, h.size, h.block⟩
def ckSrc (P : Program) (tx : TypeId) (s : Nat) (str : Bool) : Bool := match P.underlying tx with
  | some (.slice _) => !str
  | some .string => str && s == 1
  | _ => false
def ckApp (P : Program) (ats : Array TypeId) (s bytes : Nat) (str : Bool) : Bool := match ats with
  | ⟨[t, tx]⟩ => (match P.underlying t with
    | some (.slice e) => (match P.info? e with | some i => i.size == s && i.bytes == bytes && (match i.zero with | some z => z.cells.size == i.size | none => false) | none => false)
    | _ => false) && ckSrc P tx s str
  | _ => false
theorem RL.ones {l : List AV} {vs : List Value} (hr : RL ρ l vs) (hf : l.all AV.flat = true) : ∀ v ∈ vs, v.oneCell' = true := fun v hv => by
  obtain ⟨j, hj, rfl⟩ := List.getElem_of_mem hv
  have hjl : j < l.length := by rw [← hr.length]; exact hj
  obtain ⟨u, hu, hru⟩ := hr.get (List.getElem?_eq_getElem hjl)
  rw [List.getElem?_eq_getElem hj] at hu; cases hu
  exact hru.one (List.all_eq_true.1 hf _ (List.getElem_mem hjl))
theorem bytes_RL (s : ByteArray) : RL ρ ((s.data.toList.map UInt8.toNat).map fun (n : Nat) => AV.int .u8 (n : Int)) (byteCells s) ∧ (((s.data.toList.map UInt8.toNat).map fun (n : Nat) => AV.int .u8 (n : Int)).all AV.flat = true) := by
  refine ⟨RL.of_get (by simp [byteCells]) fun i a ha => ?_, by rw [List.all_eq_true]; intro x hx; obtain ⟨n, -, rfl⟩ := List.mem_map.1 hx; rfl⟩
  rw [List.map_map, List.getElem?_map] at ha
  cases hx : s.data.toList[i]? with
  | none => rw [hx] at ha; cases ha
  | some x =>
    rw [hx] at ha
    simp at ha
    subst ha
    exact ⟨.int .u8 x.toNat, by simp only [byteCells, List.getElem?_map, hx]; rfl, by simp only [R]⟩
theorem src_sim (h : HS Z ρ H w) {s m : Nat} {str : Bool} {y : AV} {Y : Value} (hy : R ρ y Y) {ys : List AV} (hs : srcA H s str y = some (ys, m)) {tx : TypeId} (hk : ckSrc P tx s str = true) :
    ∃ vs, Src P s tx Y m vs w ∧ RL ρ ys vs ∧ ys.all AV.flat = true ∧ ys.length = m * s := by
  unfold ckSrc at hk
  unfold srcA at hs
  split at hk
  · rename_i e he
    have hstr : str = false := by simpa using hk
    subst hstr
    split at hs
    · cases hs
      simp only [R] at hy
      obtain ⟨rfl, rfl⟩ := hy
      exact ⟨[], Src.ofNil w he 0, by simp only [RL], rfl, by simp⟩
    · rename_i b i s' len c
      simp only [cond_false] at hs
      cases hz : len.beq 0 with
      | true =>
        rw [hz] at hs
        simp only [cond_true] at hs
        cases hs
        obtain rfl := Nat.eq_of_beq_eq_true hz
        simp only [R] at hy
        obtain ⟨g, o, N, ad, cap, hb, rfl, hc, -, -, had⟩ := hy
        exact ⟨[], Src.ofSlice w he ad 0 cap [] (by simp) (fun j u hu => by simp at hu) (fun u hu => by simp at hu), by simp only [RL], rfl, by simp⟩
      | false =>
      rw [hz] at hs
      simp only [cond_false] at hs
      split at hs
      · rename_i l hl
        cases hs
        simp only [R] at hy
        obtain ⟨g, o, N, ad, cap, hb, rfl, hc, -, -, had⟩ := hy
        obtain ⟨vs, v1, v2, v3, v4, v5, v6⟩ := h.load hl hb
        refine ⟨vs, ?_, v3, v4, v5⟩
        by_cases h0 : cap = 0
        · have : m = 0 := by omega
          subst this
          have : vs = [] := by cases vs with | nil => rfl | cons _ _ => simp at v1
          subst this
          exact Src.ofSlice w he ad 0 cap [] (by simp) (fun j u hu => by simp at hu) (fun u hu => by simp at hu)
        · rw [had h0]
          exact Src.ofSlice w he _ m cap vs v1 (fun j u hu => by rw [add_at]; exact v2 j u hu) (v3.ones v4)
      · cases hs
    · cases hs
    · cases hs
  · rename_i hu
    simp only [Bool.and_eq_true, beq_iff_eq] at hk
    obtain ⟨rfl, rfl⟩ := hk
    split at hs
    · cases hs
    · cases hs
    · rename_i l
      cases hs
      simp only [R] at hy
      obtain ⟨b, rfl, rfl⟩ := hy
      obtain ⟨q1, q2⟩ := bytes_RL (ρ := ρ) b
      have hlen : (b.data.toList.map UInt8.toNat).length = b.size := by rw [List.length_map]; rfl
      refine ⟨byteCells b, ?_, q1, q2, by simp⟩
      rw [hlen]
      exact Src.ofString w hu b
    · cases hs
  · cases hk
theorem setCells_turn {g o : Nat} {C : Array Value} {e : TypeId} {fz : Nat × Nat} {vs : List Value} (P : Program) (hg : w.heap[g]? = some (.cells C e fz)) (hz : okFz fz C.size) (hle : o + vs.length ≤ C.size) (h1 : ∀ v ∈ vs, v.oneCell' = true) :
    Turn w (w.setCells g o vs) g (.cells (wr C o vs) e fz) ∧ (∀ j, j < vs.length → (w.cell? ⟨g, o + j, none⟩).isSome = true) ∧ (∀ j, j < vs.length → w.frozen? ⟨g, o + j, none⟩ = false) := by
  have hc : ∀ j, j < vs.length → (w.cell? ⟨g, o + j, none⟩).isSome = true := fun j hj => by
    have : o + j < C.size := by omega
    simp [World.cell?, hg, this]
  have hf : ∀ j, j < vs.length → w.frozen? ⟨g, o + j, none⟩ = false := fun j hj => by
    simp only [World.frozen?, hg]
    have := hz.lt (o + j) (by omega)
    simp only [Bool.and_eq_false_iff, decide_eq_false_iff_not]
    by_cases h : fz.1 ≤ o + j
    · exact .inr fun h' => this ⟨h, h'⟩
    · exact .inl h
  obtain ⟨w', q1, q2⟩ := run_stores P (o := o) (i := 0) vs C w hg hz (by omega) h1
  have := run_storeCells_cells (P := P) g o vs 0 w (by simpa using hc) (by simpa using hf) h1
  simp only [Nat.add_zero] at this q2
  rw [q1] at this
  cases this
  exact ⟨q2, hc, hf⟩
theorem grow_sim {t tx ty e : TypeId} {i : TypeInfo} {z : Value} (ht : P.underlying t = some (.slice e)) (hi : P.info? e = some i) (hz : i.zero = some z) (hzs : z.cells.size = i.size) {base : Option Addr} {n cap m : Nat} {us vs : List Value} {Y : Value}
    (hold : (Builtin.firstCells i.size n (.slice base n cap)).run P w.drew = .ok us.toArray w.drew) (hs : Src P i.size tx Y m vs w) (hu : us.length = n * i.size) (hg : cap < n + m) (hb : (n + m) * i.bytes ≤ 140737488355328) (hb2 : n + m ≤ 140737488355328) :
    ∃ C : Array Value, (Builtin.append_ #[t, tx] ty #[.slice base n cap, Y]).run P w = .ok (.slice (some ⟨w.heap.size, 0, none⟩) (n + m) (grownCap w (n + m) cap e)) (w.drew.alloc (.cells C e)) ∧ (∀ (j : Nat) (u : Value), (us ++ vs)[j]? = some u → C[j]? = some u) ∧ n + m ≤ grownCap w (n + m) cap e ∧ grownCap w (n + m) cap e * i.size ≤ C.size := by
  have hge := grownCap_ge w (n + m) cap e
  refine ⟨_, run_append_grow_src w t tx ty e i z ht hi hz base n cap us hold Y m vs hs hg (by omega) (growslice_fits hg hb), fun j u hj => ?_, hge, ?_⟩
  · have hl := (List.getElem?_eq_some_iff.1 hj).1
    rw [Array.getElem?_append_left (by simpa using hl)]
    simpa using hj
  · simp only [Array.size_append, List.size_toArray, List.length_append, size_zeroCells, hzs, hu, hs.newsLen]
    rw [← Nat.add_mul, ← Nat.add_mul]
    exact Nat.mul_le_mul_right _ (by omega)
theorem append_sim (h : HS Z ρ H w) {s bytes : Nat} {str : Bool} {ats : Array TypeId} (hc : ckApp P ats s bytes str = true) {x y v : AV} {X Y : Value} (hx : R ρ x X) (hy : R ρ y Y) (ha : appendA H s bytes str x y = some (v, H')) (ty : TypeId) :
    ∃ ρ' w' u, (Builtin.append_ ats ty #[X, Y]).run P w = .ok u w' ∧ Ext ρ ρ' ∧ HS Z ρ' H' w' ∧ Kp Z w w' ∧ R ρ' v u := by
  unfold ckApp at hc
  split at hc
  · rename_i t tx
    simp only [Bool.and_eq_true] at hc
    obtain ⟨hc1, hk⟩ := hc
    split at hc1
    · rename_i e ht
      split at hc1
      · rename_i it hi
        simp only [Bool.and_eq_true, beq_iff_eq] at hc1
        obtain ⟨⟨rfl, rfl⟩, hz⟩ := hc1
        obtain ⟨z, hz, hzs⟩ : ∃ z, it.zero = some z ∧ z.cells.size = it.size := by
          split at hz
          · rename_i z hz'; exact ⟨z, hz', by simpa using hz⟩
          · cases hz
        unfold appendA at ha
        split at ha
        · rename_i a s' n clip
          split at ha
          · cases ha
          · rename_i ys m hsrc
            obtain ⟨vs, v1, v2, v3, v4⟩ := src_sim (P := P) h hy hsrc hk
            have hvl := v2.length
            by_cases hm : m = 0
            · -- nothing is appended
              subst hm
              simp only [Nat.beq_refl, cond_true, Option.some.injEq, Prod.mk.injEq] at ha
              obtain ⟨rfl, rfl⟩ := ha
              have hvs : vs = [] := by cases vs with | nil => rfl | cons _ _ => simp at hvl; omega
              subst hvs
              refine ⟨ρ, w, X, ?_, Ext.refl _, h, Kp.refl _ _, hx⟩
              have hX : ∃ base cap, X = .slice base n cap ∧ n ≤ cap := by
                cases a with
                | none => simp only [R] at hx; obtain ⟨rfl, rfl⟩ := hx; exact ⟨none, 0, rfl, Nat.le_refl _⟩
                | some bi => simp only [R] at hx; obtain ⟨g, o, N, ad, cap, -, rfl, q, -⟩ := hx; exact ⟨some ad, cap, rfl, q⟩
              obtain ⟨base, cap, rfl, hcap⟩ := hX
              rcases v1.kind with ⟨e', hk'⟩ | hk' <;>
                (simp [Builtin.append_, run_underlying ht, run_underlying hk', sizeOf, typeInfo, hi, v1.len, hcap, v1.cells]
                 cases base <;> simp [storeCells])
            · rw [nbf hm] at ha
              simp only [cond_false] at ha
              cases hb : (((n + m) * it.bytes).ble 140737488355328 && (n + m).ble 140737488355328)
              · rw [hb] at ha; cases ha
              · rw [hb] at ha
                simp only [cond_true] at ha
                simp only [Bool.and_eq_true] at hb
                have hbytes := Nat.le_of_ble_eq_true hb.1
                have hnm := Nat.le_of_ble_eq_true hb.2
                -- a new row
                have fresh : ∀ {base : Option Addr} {cap : Nat} {xs : List AV} {us : List Value} (H1 : AHeap), HS Z ρ H1 w → X = .slice base n cap → (Builtin.firstCells it.size n (.slice base n cap)).run P w.drew = .ok us.toArray w.drew → RL ρ xs us → xs.all AV.flat = true → xs.length = n * it.size → cap < n + m →
                    ∃ C : Array Value, ∃ c, (Builtin.append_ #[t, tx] ty #[X, Y]).run P w = .ok (.slice (some ⟨w.heap.size, 0, none⟩) (n + m) c) (w.drew.alloc (.cells C e)) ∧ (∀ (j : Nat) (u : Value), (us ++ vs)[j]? = some u → C[j]? = some u) ∧ RL ρ (xs ++ ys) (us ++ vs) ∧ ((xs ++ ys).all AV.flat = true) ∧
                      (∀ (ρ' : Rho) (b' : Nat), ρ' b' = some (w.heap.size, 0, C.size) → R ρ' (.slice (some (b', 0)) it.size (n + m) false) (.slice (some ⟨w.heap.size, 0, none⟩) (n + m) c)) := by
                  intro base cap xs us H1 hH1 hX hold hxu hxf hxl hlt
                  subst hX
                  obtain ⟨C, q1, q2, q3, q4⟩ := grow_sim (ty := ty) ht hi hz hzs hold v1 (by rw [hxu.length]; exact hxl) hlt hbytes hnm
                  refine ⟨C, _, q1, q2, hxu.append v2, by simp [List.all_append, hxf, v3], fun ρ' b' hb' => ?_⟩
                  simp only [R]
                  exact ⟨_, _, _, _, _, hb', rfl, q3, (fun h => by cases h), by omega, fun _ => rfl⟩
                cases a with
                | none =>
                  simp only [R] at hx
                  obtain ⟨rfl, hX⟩ := hx
                  simp only [Option.some.injEq, Prod.mk.injEq] at ha
                  obtain ⟨rfl, rfl⟩ := ha
                  obtain ⟨C, c, q1, q2, q3, q4, q5⟩ := fresh (us := []) (xs := []) H h hX (by rw [run_firstCells_none]) (by simp only [RL]) rfl (by simp) (by omega)
                  obtain ⟨p1, p2, p3⟩ := h.drew.newCells (C := C) (e := e) (fz := (0, 0)) q3 q4 q2 (fun j _ ⟨_, h⟩ => by simp at h)
                  refine ⟨_, _, _, q1, p2, p1, (Kp.refl Z w).drew.trans p3, ?_⟩
                  have := q5 (bump ρ H.next (w.heap.size, 0, C.size)) H.next (by simp [bump])
                  rw [Nat.zero_add] at this ⊢
                  exact this
                | some bi =>
                  obtain ⟨b, i⟩ := bi
                  simp only at ha
                  cases hss : s'.beq it.size
                  · rw [hss] at ha; cases ha
                  · rw [hss] at ha
                    have hse := Nat.eq_of_beq_eq_true hss
                    subst hse
                    simp only [cond_true] at ha
                    split at ha
                    · cases ha
                    · rename_i xs hxs
                      simp only [R] at hx
                      obtain ⟨g, o, N, ad, cap, hρ, rfl, hcap, hclip, hN, had⟩ := hx
                      obtain ⟨us, u1, u2, u3, u4, u5, u6⟩ := h.load hxs hρ
                      have hold : (Builtin.firstCells it.size n (.slice (some ad) n cap)).run P w.drew = .ok us.toArray w.drew := by
                        refine run_firstCells_some w.drew it.size n ad n cap us u1 fun j u hu => ?_
                        have hn0 : n ≠ 0 := by intro e0; subst e0; simp at u1; subst u1; simp at hu
                        rw [had (by omega), add_at]
                        exact u2 j u hu
                      by_cases hroom : n + m ≤ cap
                      · -- there is room
                        cases hcl : clip
                        · rw [hcl] at ha
                          simp only [cond_false] at ha
                          split at ha
                          · rename_i c k par hH
                            have had' := had (by omega)
                            subst had'
                            have hmul : (n + m) * it.size ≤ cap * it.size := Nat.mul_le_mul_right _ hroom
                            rw [Nat.add_mul] at hmul
                            have key : ∀ (H1 : AHeap) (c1 : Tr AV) (k1 : Nat) (par1 : List Nat), HS Z ρ H1 w → H1.get b = .cells c1 k1 true par1 → loadA H1 b i (n * it.size) = some xs → i + n * it.size = k1 → H1.next = H.next →
                                ∃ w', (Builtin.append_ #[t, tx] ty #[.slice (some ⟨g, o + i, none⟩) n cap, Y]).run P w = .ok (.slice (some ⟨g, o + i, none⟩) (n + m) cap) w' ∧ HS Z (bump ρ H.next (g, o + i, N)) ((H1.put b (.cells c1 k1 false par1)).new (.cells (ofL (xs ++ ys) 0 .nil) (xs ++ ys).length true (b :: par1))) w' ∧ Ext ρ (bump ρ H.next (g, o + i, N)) ∧ Kp Z w w' := by
                              intro H1 c1 k1 par1 hH1 hg1 hx1 hk1 hn1
                              obtain ⟨C, e', fz, r1, r2, r3, r4, r5⟩ := hH1.grow hg1 hx1 hk1 v2 v3 hρ (by omega)
                              obtain ⟨s1, s2, s3⟩ := setCells_turn (o := o + i + n * it.size) P r2 r4 (by omega) (v2.ones v3)
                              obtain ⟨s4, s5⟩ := r5 _ s1
                              rw [hn1] at s4 s5
                              exact ⟨_, run_append_room_src w t tx ty e it ht hi g (o + i) n cap Y m vs v1 hroom s2 s3, s4, s5, s1.kp r1⟩
                            have hRR : R (bump ρ H.next (g, o + i, N)) (.slice (some (H.next, 0)) it.size (n + m) false) (.slice (some ⟨g, o + i, none⟩) (n + m) cap) := by
                              simp only [R]
                              exact ⟨g, o + i, N, _, cap, by simp [bump], rfl, hroom, (fun h => by cases h), by omega, fun _ => rfl⟩
                            cases hkk : (i + n * it.size).beq k
                            · rw [hkk] at ha
                              simp only [cond_false, Option.some.injEq, Prod.mk.injEq] at ha
                              obtain ⟨rfl, rfl⟩ := ha
                              have hle : i + n * it.size ≤ k := by
                                unfold loadA at hxs
                                rw [hH] at hxs
                                simp only at hxs
                                cases hb' : (i + n * it.size).ble k
                                · rw [hb'] at hxs; cases hxs
                                · exact Nat.le_of_ble_eq_true hb'
                              have h1 := h.shrink (h.ng hρ) hH hle
                              have hg1 : ((killAll H par).put b (.cells c (i + n * it.size) true [])).get b = .cells c (i + n * it.size) true [] := by rw [AHeap.get_put, if_pos rfl]
                              obtain ⟨w', k1, k2, k3, k4⟩ := key _ c _ [] h1 hg1 (by
                                unfold loadA at hxs ⊢
                                rw [hH] at hxs
                                rw [hg1]
                                simp only at hxs ⊢
                                cases hb' : (i + n * it.size).ble k
                                · rw [hb'] at hxs; cases hxs
                                · rw [hb'] at hxs
                                  simp only [cond_true] at hxs
                                  rw [hxs, Nat.ble_eq_true_of_le (Nat.le_refl _)]
                                  rfl) rfl (by show (killAll H par).next = _; rw [killAll_next])
                              refine ⟨_, w', _, k1, k3, ?_, k4, hRR⟩
                              have hbn : b ≠ H.next := by have := (h.dom b _ hρ).1; omega
                              -- b is forgotten
                              have k5 : HS Z (bump ρ H.next (g, o + i, N)) (((((killAll H par).put b (.cells c (i + n * it.size) true [])).put b (.cells c (i + n * it.size) false [])).new (.cells (ofL (xs ++ ys) 0 .nil) (xs ++ ys).length true [b])).put b .dead) w' :=
                                k2.sub (Nat.le_refl _) (fun b' => by
                                  rw [AHeap.get_put]
                                  by_cases e1 : b = b'
                                  · rw [if_pos e1]; exact .inr rfl
                                  · rw [if_neg e1]; exact .inl rfl) fun b' l' hb' => by
                                  rw [AHeap.get_put, if_neg]
                                  rintro rfl
                                  rw [(h.gh _ l' hb').1] at hρ; cases hρ
                              refine k5.unpar (b := H.next) (par := [b]) (n := (xs ++ ys).length) (c := ofL (xs ++ ys) 0 .nil) ?_ ?_ ?_ fun b' => ?_
                              · rw [AHeap.get_put, if_neg hbn, AHeap.get_new]
                                simp [killAll_next]
                              · intro x hx
                                have : x = b := by simpa using hx
                                subst this
                                rw [AHeap.get_put, if_pos rfl]
                              · simp [AHeap.newRow, killAll_next]
                              · simp only [AHeap.newRow, AHeap.get_put, AHeap.get_new, AHeap.next_put, AHeap.next_new, killAll_next, killAll_get]
                                by_cases e1 : H.next = b'
                                · simp [e1]
                                · simp only [e1, if_false]
                                  by_cases e2 : b = b'
                                  · subst e2; simp
                                  · simp [e2]
                            · rw [hkk] at ha
                              simp only [cond_true, Option.some.injEq, Prod.mk.injEq] at ha
                              obtain ⟨rfl, rfl⟩ := ha
                              obtain ⟨w', k1, k2, k3, k4⟩ := key H c k par h hH hxs (Nat.eq_of_beq_eq_true hkk) rfl
                              exact ⟨_, w', _, k1, k3, k2, k4, hRR⟩
                          · cases ha
                        · have := hclip hcl
                          omega
                      · -- there is none
                        obtain ⟨C, c', q1, q2, q3, q4, q5⟩ := fresh (us := us) (xs := xs) H h rfl hold u3 u4 u5 (by omega)
                        cases hcl : clip
                        · rw [hcl] at ha
                          simp only [cond_false] at ha
                          split at ha
                          · rename_i c k par hH
                            cases hkk : (i + n * it.size).beq k
                            · rw [hkk] at ha
                              simp only [cond_false, Option.some.injEq, Prod.mk.injEq] at ha
                              obtain ⟨rfl, rfl⟩ := ha
                              have h1 : HS Z ρ (killAll (H.put b .dead) par) w := h.sub (by rw [killAll_next]; exact Nat.le_refl _) (fun b' => by
                                rw [killAll_get, AHeap.get_put]
                                by_cases e1 : b' ∈ par
                                · rw [if_pos e1]; exact .inr rfl
                                · rw [if_neg e1]
                                  by_cases e2 : b = b'
                                  · rw [if_pos e2]; exact .inr rfl
                                  · rw [if_neg e2]; exact .inl rfl) fun b' l' hb' => by
                                rw [killAll_get, AHeap.get_put, if_neg, if_neg]
                                · rintro rfl
                                  rw [(h.gh _ l' hb').1] at hρ; cases hρ
                                · intro hp
                                  obtain ⟨y, hy⟩ := h.pm b c k true par hH b' hp
                                  rw [(h.gh b' l' hb').1] at hy; cases hy
                              have hn1 : (killAll (H.put b .dead) par).next = H.next := by rw [killAll_next]; rfl
                              obtain ⟨p1, p2, p3⟩ := h1.drew.newCells (C := C) (e := e) (fz := (0, 0)) q3 q4 q2 (fun j _ ⟨_, h⟩ => by simp at h)
                              rw [hn1] at p1 p2
                              exact ⟨_, _, _, q1, p2, p1, (Kp.refl Z w).drew.trans p3, q5 _ _ (by simp [bump])⟩
                            · rw [hkk] at ha
                              simp only [cond_true, Option.some.injEq, Prod.mk.injEq] at ha
                              obtain ⟨rfl, rfl⟩ := ha
                              obtain ⟨p1, p2, p3⟩ := h.drew.newFrom (h.ng hρ) hH (C := C) (e := e) q3 q4 q2
                              exact ⟨_, _, _, q1, p2, p1, (Kp.refl Z w).drew.trans p3, q5 _ _ (by simp [bump])⟩
                          · cases ha
                        · rw [hcl] at ha
                          simp only [cond_true, Option.some.injEq, Prod.mk.injEq] at ha
                          obtain ⟨rfl, rfl⟩ := ha
                          obtain ⟨p1, p2, p3⟩ := h.drew.newCells (C := C) (e := e) (fz := (0, 0)) q3 q4 q2 (fun j _ ⟨_, h⟩ => by simp at h)
                          exact ⟨_, _, _, q1, p2, p1, (Kp.refl Z w).drew.trans p3, q5 _ _ (by simp [bump])⟩
        · cases ha
      · cases hc1
    · cases hc1
  · cases hc
end
section
variable {Z : Nat → Prop} {ρ : Rho} {H H' : AHeap} {w w' : World} {P : Program}
def HEq2 (H H2 : AHeap) : Prop := H.next = H2.next ∧ ∀ b, H.get b = H2.get b ∨ ∃ c c2 n own par, H.get b = .cells c n own par ∧ H2.get b = .cells c2 n own par ∧ ∀ i, i < n → c.get i = c2.get i
theorem HS.congr {H2 : AHeap} (h : HS Z ρ H w) (he : HEq2 H H2) : HS Z ρ H2 w := by
  obtain ⟨hn, hg⟩ := he
  have cells : ∀ b c2 n own par, H2.get b = .cells c2 n own par → ∃ c, H.get b = .cells c n own par ∧ ∀ i, i < n → c.get i = c2.get i := fun b c2 n own par h2 => by
    rcases hg b with e | ⟨c, c2', n', own', par', e1, e2, e3⟩
    · exact ⟨c2, e.trans h2, fun _ _ => rfl⟩
    · rw [h2] at e2
      simp only [ABlk.cells.injEq] at e2
      obtain ⟨rfl, rfl, rfl, rfl⟩ := e2
      exact ⟨c, e1, e3⟩
  have maps : ∀ b es k, H2.get b = .map es k → H.get b = .map es k := fun b es k h2 => by
    rcases hg b with e | ⟨c, c2', n', own', par', e1, e2, e3⟩
    · exact e.trans h2
    · rw [h2] at e2; cases e2
  refine ⟨fun b x hb => by rw [← hn]; exact h.dom b x hb, fun b c2 n own par hng h2 => ?_, fun b es k h2 => h.maps b es k (maps b es k h2), fun b c2 n par h2 b' c2' n' own' par' hne h2' => ?_, fun b es k h2 b' es' k' hne h2' => h.mapown b es k (maps _ _ _ h2) b' es' k' hne (maps _ _ _ h2'), h.zb, fun b l hb => ?_, fun b c2 n own par h2 => ?_⟩
  · obtain ⟨c, h1, h3⟩ := cells b c2 n own par h2
    obtain ⟨g, o, N, q1, q2, q3, C, e, fz, q4, q5, q6, q7⟩ := h.cells b c n own par hng h1
    exact ⟨g, o, N, q1, q2, q3, C, e, fz, q4, q5, q6, fun i hi => by rw [← h3 i hi]; exact q7 i hi⟩
  · obtain ⟨c, h1, -⟩ := cells b c2 n true par h2
    obtain ⟨c', h1', -⟩ := cells b' c2' n' own' par' h2'
    exact h.own b c n par h1 b' c' n' own' par' hne h1'
  · obtain ⟨p1, p2, c, own, par, p3, p4⟩ := h.gh b l hb
    refine ⟨p1, by rw [← hn]; exact p2, ?_⟩
    rcases hg b with e | ⟨c1, c2, n', own', par', e1, e2, e3⟩
    · exact ⟨c, own, par, by rw [← e]; exact p3, p4⟩
    · rw [p3] at e1
      simp only [ABlk.cells.injEq] at e1
      obtain ⟨rfl, rfl, rfl, rfl⟩ := e1
      exact ⟨c2, own, par, e2, fun i hi => by rw [← e3 i hi]; exact p4 i hi⟩
  · obtain ⟨c, h1, -⟩ := cells b c2 n own par h2
    exact h.pm b c n own par h1
theorem getN_total {c : Tr AV} : ∀ (n i : Nat), (∀ j, j < n → ∃ a, c.get (i + j) = some a) → ∃ l, getN c i n = some l
  | 0, i, _ => ⟨[], rfl⟩
  | n + 1, i, h => by
    obtain ⟨a, ha⟩ := h 0 (by omega)
    obtain ⟨l, hl⟩ := getN_total n (i + 1) fun j hj => by
      obtain ⟨a, ha⟩ := h (j + 1) (by omega)
      exact ⟨a, by rw [show i + 1 + j = i + (j + 1) by omega]; exact ha⟩
    exact ⟨a :: l, by simp only [getN]; rw [show c.get i = some a from ha, hl]⟩
theorem HEq2.refl (H : AHeap) : HEq2 H H := ⟨rfl, fun _ => .inl rfl⟩
theorem appendF_A (h : HS Z ρ H w) {s bytes : Nat} {str : Bool} {x y v : AV} {H2 : AHeap} {X : Value} (hX : R ρ x X) (ha : appendF H s bytes str x y = some (v, H2)) : ∃ H', appendA H s bytes str x y = some (v, H') ∧ HEq2 H' H2 := by
  have same : appendA H s bytes str x y = some (v, H2) → ∃ H', appendA H s bytes str x y = some (v, H') ∧ HEq2 H' H2 := fun h => ⟨H2, h, HEq2.refl _⟩
  unfold appendF at ha
  split at ha
  · rename_i b s' n
    split at ha
    · rename_i c k par hH
      rw [Bool.cond_eq_ite] at ha
      split at ha
      · rename_i hk
        simp only [Bool.and_eq_true] at hk
        obtain ⟨hk, hs⟩ := hk
        have hk' := Nat.eq_of_beq_eq_true hk
        have hs' := Nat.eq_of_beq_eq_true hs
        subst hs'
        obtain ⟨g, o, N, q1, q2, q3, C, e, fz, q4, q5, q6, q7⟩ := h.cells b c k true par (by simp only [R] at hX; obtain ⟨g, o, N, ad, cap, q, -⟩ := hX; exact h.ng q) hH
        obtain ⟨xs, hxs⟩ := getN_total (c := c) k 0 fun j hj => by
          obtain ⟨a, u, ha, -⟩ := q7 j hj
          exact ⟨a, by rw [Nat.zero_add]; exact ha⟩
        have hload : loadA H b 0 k = some xs := by
          unfold loadA
          rw [hH]
          simp only [Nat.zero_add, Nat.ble_eq_true_of_le (Nat.le_refl k), cond_true]
          exact hxs
        obtain ⟨x1, x2⟩ := getN_spec c k 0 xs hxs
        unfold appendA
        simp only
        split at ha
        · cases ha
        · rename_i ys m hsrc
          try rw [hsrc]
          try simp only
          cases hm : m.beq 0
          · rw [hm] at ha
            simp only [cond_false] at ha ⊢
            cases hb : (((n + m) * bytes).ble 140737488355328 && (n + m).ble 140737488355328)
            · rw [hb] at ha; cases ha
            · rw [hb] at ha
              simp only [cond_true, Option.some.injEq, Prod.mk.injEq] at ha
              obtain ⟨rfl, rfl⟩ := ha
              simp only [cond_true, Nat.beq_refl, hH, cond_false, Nat.zero_add, hk', hload]
              refine ⟨_, rfl, rfl, fun b' => ?_⟩
              simp only [AHeap.get_new, AHeap.next_put]
              by_cases e1 : H.next = b'
              · right
                refine ⟨ofL (xs ++ ys) 0 .nil, ofL ys k c, (xs ++ ys).length, true, b :: par, by simp [e1], by simp [e1, x1], fun i hi => ?_⟩
                rw [get_ofL, get_ofL]
                simp only [List.length_append, x1] at hi
                rw [if_pos ⟨by omega, by simp [x1]; omega⟩, Nat.sub_zero]
                by_cases hik : k ≤ i
                · rw [if_pos ⟨hik, by omega⟩, List.getElem?_append_right (by omega), x1]
                · rw [if_neg (by omega), List.getElem?_append_left (by omega)]
                  have := x2 i (by omega)
                  rw [Nat.zero_add] at this
                  exact this.symm
              · left
                simp [e1]
          · rw [hm] at ha
            simp only [cond_true, Option.some.injEq, Prod.mk.injEq] at ha ⊢
            obtain ⟨rfl, rfl⟩ := ha
            exact ⟨_, ⟨rfl, rfl⟩, HEq2.refl _⟩
      · exact same ha
    · exact same ha
  · exact same ha
end
section
variable {Z : Nat → Prop} {ρ : Rho} {H H' : AHeap} {w w' : World} {P : Program}
def ckCp (P : Program) (ats : Array TypeId) (s : Nat) (str : Bool) : Bool := match ats with
  | ⟨[t, tx]⟩ => ckSl P t s && ckSrc P tx s str
  | _ => false
theorem srcTake_sim (h : HS Z ρ H w) {s m : Nat} {str : Bool} {y : AV} {Y : Value} (hy : R ρ y Y) {ys : List AV} (hs : srcA H s str y = some (ys, m)) {tx : TypeId} (hk : ckSrc P tx s str = true) :
    ∃ vs, (Builtin.lenOf Y).run P w = .ok m w ∧ RL ρ ys vs ∧ ys.all AV.flat = true ∧ ys.length = m * s ∧ ∀ k, k ≤ m → (Builtin.firstCells s k Y).run P w = .ok (vs.take (k * s)).toArray w := by
  unfold ckSrc at hk
  unfold srcA at hs
  split at hk
  · rename_i e he
    have hstr : str = false := by simpa using hk
    subst hstr
    split at hs
    · cases hs
      simp only [R] at hy
      obtain ⟨rfl, rfl⟩ := hy
      exact ⟨[], rfl, by simp only [RL], rfl, by simp, fun k hk => by simp [Builtin.firstCells]⟩
    · rename_i b i s' len c
      simp only [cond_false] at hs
      cases hz : len.beq 0 with
      | true =>
        rw [hz] at hs
        simp only [cond_true] at hs
        cases hs
        obtain rfl := Nat.eq_of_beq_eq_true hz
        simp only [R] at hy
        obtain ⟨g, o, N, ad, cap, hb, rfl, hc, -, -, had⟩ := hy
        refine ⟨[], rfl, by simp only [RL], rfl, by simp, fun k hk => ?_⟩
        obtain rfl : k = 0 := by omega
        rw [Nat.zero_mul, List.take_zero]
        exact run_firstCells_some w s 0 ad 0 cap [] (by simp) fun j u hu => by simp at hu
      | false =>
      rw [hz] at hs
      simp only [cond_false] at hs
      split at hs
      · rename_i l hl
        cases hs
        simp only [R] at hy
        obtain ⟨g, o, N, ad, cap, hb, rfl, hc, -, -, had⟩ := hy
        obtain ⟨vs, v1, v2, v3, v4, v5, v6⟩ := h.load hl hb
        refine ⟨vs, rfl, v3, v4, v5, fun k hk => ?_⟩
        have hks : k * s ≤ m * s := Nat.mul_le_mul_right _ hk
        refine run_firstCells_some w s k ad m cap (vs.take (k * s)) (by simp; omega) fun j u hu => ?_
        rw [List.getElem?_take] at hu
        split at hu
        · have := v2 j u hu
          have hj := (List.getElem?_eq_some_iff.1 hu).1
          have h0 : cap ≠ 0 := by intro e0; have : m = 0 := by omega
                                  subst this; simp at v1; subst v1; simp at hj
          rw [had h0, add_at]
          exact this
        · cases hu
      · cases hs
    · cases hs
    · cases hs
  · rename_i hu
    simp only [Bool.and_eq_true, beq_iff_eq] at hk
    obtain ⟨rfl, rfl⟩ := hk
    split at hs
    · cases hs
    · cases hs
    · rename_i l
      cases hs
      simp only [R] at hy
      obtain ⟨b, rfl, rfl⟩ := hy
      obtain ⟨q1, q2⟩ := bytes_RL (ρ := ρ) b
      have hlen : (b.data.toList.map UInt8.toNat).length = b.size := by rw [List.length_map]; rfl
      refine ⟨byteCells b, by rw [hlen]; rfl, q1, q2, by simp, fun k hk => ?_⟩
      simp only [Builtin.firstCells, Sem.run_pure, Nat.mul_one]
      congr 1
      apply Array.ext'
      simp [byteCells, List.map_take]
    · cases hs
  · cases hk
theorem copy_sim (h : HS Z ρ H w) {s : Nat} {str : Bool} {ats : Array TypeId} (hc : ckCp P ats s str = true) {a : Option (Nat × Nat)} {s' n : Nat} {clip : Bool} {y : AV} {X Y : Value} (hx : R ρ (.slice a s' n clip) X) (hy : R ρ y Y) {ys : List AV} {m : Nat} (hs : srcA H s str y = some (ys, m)) (ty : TypeId)
    (hH : (match (generalizing := false) a with | none => some H | some (b, i) => bif (min m n).beq 0 then some H else storeA H b i (ys.take (min m n * s))) = some H') :
    ∃ w', (Builtin.copy_ ats ty #[X, Y]).run P w = .ok (.int .i64 (match (generalizing := false) a with | none => 0 | some _ => (min m n : Nat))) w' ∧ HS Z ρ H' w' ∧ Kp Z w w' := by
  unfold ckCp at hc
  split at hc
  · rename_i t tx
    simp only [Bool.and_eq_true] at hc
    obtain ⟨hc1, hk⟩ := hc
    unfold ckSl at hc1
    split at hc1
    · rename_i e ht
      obtain ⟨vs, v1, v2, v3, v4, v5⟩ := srcTake_sim (P := P) h hy hs hk
      rcases a with _ | ⟨b, i⟩
      · simp only [R] at hx
        obtain ⟨rfl, rfl⟩ := hx
        simp only [Option.some.injEq] at hH
        subst hH
        refine ⟨w, ?_, h, Kp.refl _ _⟩
        have := v5 0 (Nat.zero_le _)
        simp [Builtin.copy_, run_underlying ht, v1, run_size hc1, this, goInt]
      · simp only [R] at hx
        obtain ⟨g, o, N, ad, cap, hρ, rfl, hcap, -, hN, had⟩ := hx
        have hv := v5 (min m n) (Nat.min_le_left _ _)
        have hm : Nat.min m n = min m n := rfl
        by_cases h0 : min m n = 0
        · simp only [h0, Nat.beq_refl, cond_true, Option.some.injEq] at hH
          subst hH
          refine ⟨w, ?_, h, Kp.refl _ _⟩
          rw [h0] at hv
          simp [Builtin.copy_, run_underlying ht, v1, run_size hc1, hm, h0, hv, goInt, storeCells]
        · simp only [nbf h0, cond_false] at hH
          have hn0 : n ≠ 0 := by omega
          have had' := had (by omega)
          subst had'
          have hle : min m n * s ≤ m * s := Nat.mul_le_mul_right _ (Nat.min_le_left _ _)
          obtain ⟨w', q1, q2, q3⟩ := stores_sim (P := P) h (v2.take (min m n * s)) (by rw [List.all_eq_true] at v3 ⊢; exact fun x hx => v3 x (List.mem_of_mem_take hx)) hH hρ
          refine ⟨w', ?_, q2, q3⟩
          simp only [Builtin.copy_, List.getElem?_toArray, List.getElem?_cons_zero, List.getElem?_cons_succ, Sem.run_bind, run_underlying ht, Result.andThen_ok, v1, run_size hc1, hm, hv, q1, Sem.run_pure]
          rfl
    · cases hc1
  · cases hc
def ckMk (P : Program) (t : TypeId) (s bytes : Nat) (zs : List AV) : Bool := match P.underlying t with
  | some (.slice e) => (match P.info? e with
    | some i => i.size == s && i.bytes == bytes && (match i.zero with | some z => z.cells.size == s && ckVL z.cells.toList zs | none => false)
    | none => false)
  | _ => false
theorem made_RL {zs : List AV} {z : Array Value} (h : RL ρ zs z.toList) : ∀ c, RL ρ (List.replicate c zs).flatten (madeCells z (c * z.size)).toList := by
  intro c
  have hl := h.length
  simp only [Array.length_toList] at hl
  have hlen : ∀ c, (List.replicate c zs).flatten.length = c * z.size := by
    intro c; simp [hl]
  refine RL.of_get (by rw [hlen, Array.length_toList, size_madeCells]) fun j a ha => ?_
  have hj : j < c * z.size := by rw [← hlen]; exact (List.getElem?_eq_some_iff.1 ha).1
  have hz0 : 0 < z.size := by rcases Nat.eq_zero_or_pos z.size with e | e; · rw [e, Nat.mul_zero] at hj; omega
                              · exact e
  have hget : (List.replicate c zs).flatten[j]? = zs[j % z.size]? := by
    clear ha
    induction c generalizing j with
    | zero => simp at hj
    | succ c ih =>
      rw [List.replicate_succ, List.flatten_cons]
      by_cases hjl : j < z.size
      · rw [List.getElem?_append_left (by omega), Nat.mod_eq_of_lt hjl]
      · rw [List.getElem?_append_right (by omega), ← hl, ih _ (by rw [Nat.add_mul] at hj; omega)]
        congr 1
        conv => rhs; rw [show j = (j - z.size) + z.size by omega, Nat.add_mod_right]
  rw [hget] at ha
  obtain ⟨v, hv, hr⟩ := h.get ha
  refine ⟨v, ?_, hr⟩
  have hm : j % z.size < z.size := Nat.mod_lt _ hz0
  have hv' : z[j % z.size]? = some v := by simpa using hv
  have h2 := (Array.getElem?_eq_some_iff.1 hv').2
  rw [Array.getElem?_toList]
  simp only [madeCells, Array.getElem?_map, Array.getElem?_range, hj, if_true, Option.map_some]
  simp [hm, h2]
theorem makeSlice_sim (h : HS Z ρ H w) {t : TypeId} {s bytes : Nat} {zs : List AV} (hc : ckMk P t s bytes zs = true) {kl kc : IntKind} {l c : Int} {L C : Value} (hL : R ρ (.int kl l) L) (hC : R ρ (.int kc c) C) (hb : 0 ≤ l ∧ l ≤ c ∧ c * bytes ≤ 140737488355328 ∧ c ≤ 9223372036854775807) :
    ∃ ρ' w' u, (Instr.makeSlice t L C).run P w = .ok u w' ∧ Ext ρ ρ' ∧ HS Z ρ' (H.newRow ((List.replicate c.toNat zs).flatten)) w' ∧ Kp Z w w' ∧ R ρ' (.slice (some (H.next, 0)) s l.toNat (l == c)) u := by
  simp only [R] at hL hC
  subst hL hC
  obtain ⟨h0, h1, h2, h3⟩ := hb
  unfold ckMk at hc
  split at hc
  · rename_i e ht
    split at hc
    · rename_i i hi
      simp only [Bool.and_eq_true, beq_iff_eq] at hc
      obtain ⟨⟨rfl, rfl⟩, hz⟩ := hc
      split at hz
      · rename_i z hzz
        simp only [Bool.and_eq_true, beq_iff_eq] at hz
        obtain ⟨hzs, hzv⟩ := hz
        obtain ⟨r1, r2⟩ := ckVL_R (ρ := ρ) hzv
        have hr := run_make (P := P) w t e i z ht hi hzz kl kc l c h0 h1 (by rw [Int.mul_comm]; omega) h3
        rw [← hzs] at hr
        obtain ⟨p1, p2, p3⟩ := h.newCells (C := madeCells z.cells (c.toNat * z.cells.size)) (e := e) (fz := (0, 0)) (made_RL r1 c.toNat) (by
          rw [List.all_eq_true] at r2 ⊢
          intro x hx
          obtain ⟨l', hl', hx'⟩ := List.mem_flatten.1 hx
          rw [List.eq_of_mem_replicate hl'] at hx'
          exact r2 x hx') (fun j u hu => by simpa using hu) (fun j _ ⟨_, h⟩ => by simp at h)
        refine ⟨_, _, _, hr, p2, p1, p3, ?_⟩
        simp only [R]
        refine ⟨_, _, _, _, _, by simp [bump]; rfl, rfl, by omega, fun hlc => ?_, ?_, fun _ => rfl⟩
        · have : l = c := by simpa using hlc
          rw [this]
        · simp [size_madeCells, hzs]
      · cases hz
    · cases hc
  · cases hc
end
section
variable {Z : Nat → Prop} {ρ : Rho} {H H' : AHeap} {w w' : World} {P : Program}
def isInt (P : Program) (t : TypeId) : Bool := match P.underlying t with | some (.int _) => true | _ => false
def isStr (P : Program) (t : TypeId) : Bool := match P.underlying t with | some .string => true | _ => false
def isByteSl (P : Program) (t : TypeId) : Bool := match P.underlying t with | some (.slice e) => (match P.underlying e with | some (.int .u8) => true | _ => false) | _ => false
def ckConv (P : Program) (src dst : TypeId) : CK → Bool
  | .int k => (P.underlying src).isSome && (match P.underlying dst with | some (.int j) => j == k | _ => false)
  | .same => isStr P src && isStr P dst
  | .toBytes => isStr P src && isByteSl P dst
  | .toStr => isByteSl P src && isStr P dst
  | .intStr => isInt P src && isStr P dst
  | .bytes => decide (src = dst) && isByteSl P dst
theorem isStr_s {t : TypeId} (h : isStr P t = true) : P.underlying t = some .string := by
  unfold isStr at h; split at h <;> first | assumption | cases h
theorem isInt_s {t : TypeId} (h : isInt P t = true) : ∃ k, P.underlying t = some (.int k) := by
  unfold isInt at h; split at h
  · rename_i k hk; exact ⟨k, hk⟩
  · cases h
theorem isByteSl_s {t : TypeId} (h : isByteSl P t = true) : ∃ e, P.underlying t = some (.slice e) ∧ P.underlying e = some (.int .u8) := by
  unfold isByteSl at h; split at h
  · rename_i e he
    split at h
    · rename_i h2; exact ⟨e, he, h2⟩
    · cases h
  · cases h
theorem toInts_s : ∀ {l : List AV} {ns : List Nat}, toInts l = some ns → ∀ {vs : List Value}, RL ρ l vs → vs = (ns.map fun (n : Nat) => (n : Int)).map (Value.int .u8) ∧ ∀ n ∈ ns, n < 256
  | [], ns, h, vs, hr => by simp [toInts] at h; subst h; simp only [RL] at hr; subst hr; simp
  | a :: l, ns, h, vs, hr => by
    cases a <;> (try (simp [toInts] at h; done))
    rename_i k n
    cases k <;> (try (simp [toInts] at h; done))
    simp only [toInts] at h
    split at h
    · rename_i hn
      split at h
      · rename_i r hr'
        cases h
        simp only [RL, R] at hr
        obtain ⟨v, vs', rfl, rfl, h3⟩ := hr
        obtain ⟨q1, q2⟩ := toInts_s hr' h3
        refine ⟨?_, ?_⟩
        · simp only [List.map_cons, ← q1]
          congr 2
          omega
        · intro m hm
          rcases List.mem_cons.1 hm with rfl | hm
          · omega
          · exact q2 m hm
      · cases h
    · cases h
theorem foldl_bytes : ∀ (ns : List Nat) (b : ByteArray), (∀ n ∈ ns, n < 256) → ((ns.map fun (n : Nat) => (n : Int)).foldl (fun r n => r.push (UInt8.ofNat n.toNat)) b).data.toList.map UInt8.toNat = b.data.toList.map UInt8.toNat ++ ns
  | [], b, _ => by simp
  | n :: ns, b, h => by
    simp only [List.map_cons, List.foldl_cons]
    rw [foldl_bytes ns _ (fun m hm => h m (List.mem_cons_of_mem _ hm))]
    have hn := h n (by simp)
    have : (UInt8.ofNat (n : Int).toNat).toNat = n := by
      simp only [Int.toNat_natCast, UInt8.toNat_ofNat']
      omega
    simp [ByteArray.push]
    exact hn
theorem encode_small (n : Nat) (h : n < 128) : (Utf8.encode (n : Int)).data.toList.map UInt8.toNat = [n] := by
  have hv : Utf8.valid (n : Int) = true := by simp [Utf8.valid]; omega
  unfold Utf8.encode
  simp only [hv, if_true, Int.toNat_natCast]
  rw [if_pos h]
  simp
  omega
theorem freeze_new (w : World) (C : Array Value) (e : TypeId) (k : Nat) : (w.alloc (.cells C e)).freeze ⟨w.heap.size, k, none⟩ 1 = w.alloc (.cells C e (k, k + 1)) := by
  have hm : ∀ (a : Array Obj) (x : Obj) (f : Obj → Obj), (a.push x).modify a.size f = a.push (f x) := by
    intro a x f
    apply Array.ext
    · simp
    · intro i h1 h2
      simp only [Array.getElem_modify, Array.getElem_push]
      by_cases h : a.size = i
      · subst h; simp
      · have hi : i < a.size := by simp at h1; omega
        simp [h, hi]
  unfold World.freeze
  rw [if_neg (by decide)]
  show ({ w.alloc (.cells C e) with heap := (w.heap.push (.cells C e)).modify w.heap.size _ } : World) = _
  rw [hm]
  rfl
theorem toBytes_sim (h : HS Z ρ H w) (e : TypeId) (s : ByteArray) :
    ∃ ρ' w' u, (Conv.stringToBytes e s).run P w = .ok u w' ∧ Ext ρ ρ' ∧ HS Z ρ' (H.newRow ((s.data.toList.map UInt8.toNat).map fun (n : Nat) => AV.int .u8 (n : Int))) w' ∧ Kp Z w w' ∧ R ρ' (.slice (some (H.next, 0)) 1 s.size false) u := by
  obtain ⟨q1, q2⟩ := bytes_RL (ρ := ρ) s
  obtain ⟨cap, hcd⟩ : ∃ c, c = (Question.appendCap s.size 0 e).cut (w.tape w.drawn (.appendCap s.size 0 e)) := ⟨_, rfl⟩
  have hcap : s.size ≤ cap := by rw [hcd]; simp only [Question.cut]; omega
  obtain ⟨C, hC⟩ : ∃ C : Array Value, C = (s.data.map fun b => Value.int .u8 b.toNat) ++ Array.replicate (cap - s.size) (.int .u8 0) := ⟨_, rfl⟩
  have hCs : C.size = cap := by
    have : s.data.size = s.size := rfl
    rw [hC]
    simp only [Array.size_append, Array.size_map, Array.size_replicate, this]; omega
  have hv : ∀ (j : Nat) (u : Value), (byteCells s)[j]? = some u → C[j]? = some u := fun j u hu => by
    have hl := (List.getElem?_eq_some_iff.1 hu).1
    have hl' : j < s.data.size := by simpa [byteCells] using hl
    rw [hC, Array.getElem?_append_left (by simpa using hl')]
    simpa [byteCells] using hu
  obtain ⟨p1, p2, p3⟩ := h.drew.newCells (C := C) (e := e) (fz := (C.size, C.size + 1)) q1 q2 hv (fun j hj ⟨h1, _⟩ => by omega)
  refine ⟨_, _, .slice (some ⟨w.heap.size, 0, none⟩) s.size cap, ?_, p2, p1, (Kp.refl Z w).drew.trans p3, ?_⟩
  · have hsh : (w.drew.alloc (.cells C e)).shape? w.heap.size = some (e, C.size) := by
      have : (w.drew.alloc (.cells C e)).heap[w.heap.size]? = some (.cells C e) := heap_alloc_new w.drew _
      unfold World.shape?
      rw [this]
    have hfr : (w.drew.alloc (.cells C e)).freeze ⟨w.heap.size, C.size, none⟩ 1 = w.drew.alloc (.cells C e (C.size, C.size + 1)) := freeze_new w.drew C e C.size
    have hch : (choose (.appendCap s.size 0 e)).run P w = .ok cap w.drew := by rw [hcd]; rfl
    have hnew : (newRow e C).run P w.drew = .ok ⟨w.heap.size, 0, none⟩ (w.drew.alloc (.cells C e)) := rfl
    have hmk : (markStringish ⟨w.heap.size, 0, none⟩).run P (w.drew.alloc (.cells C e)) = .ok () (w.drew.alloc (.cells C e (C.size, C.size + 1))) := by
      rw [← hfr]
      simp only [markStringish, Sem.run_bind]
      have : (shape w.heap.size).run P (w.drew.alloc (.cells C e)) = .ok (some (e, C.size)) (w.drew.alloc (.cells C e)) := by
        show (Sem.pure ((w.drew.alloc (.cells C e)).shape? w.heap.size)).run P _ = _
        rw [hsh]
        rfl
      rw [this]
      rfl
    simp only [Conv.stringToBytes, Sem.run_bind, hch, Result.andThen_ok, ← hC, hnew, hmk, Sem.run_pure]
  · simp only [R]
    exact ⟨_, _, _, _, cap, by simp [bump]; rfl, rfl, hcap, (fun h => by cases h), by rw [hCs]; omega, fun _ => rfl⟩
theorem ckOo_R {x : Option Operand} {y : Option AOpnd} {fr : AFr} {a : Act} {v : Option AV} (h : ckOo x y = true) (hf : RF ρ fr a) (hv : evo fr y = some v) : oR ρ v (x.map a.eval) := by
  cases x <;> cases y <;> simp [ckOo] at h
  · simp [evo] at hv; subst hv; trivial
  · simp only [evo] at hv
    split at hv
    · cases hv
    · rename_i u hu
      cases hv
      exact ckO_R h hf hu
theorem HS.fz (h : HS Z ρ H w) {g : Nat} {C : Array Value} {e : TypeId} {fz fz' : Nat × Nat} (hg : w.heap[g]? = some (.cells C e fz)) (hk : okFz fz C.size → okFz fz' C.size) {w' : World} (h1 : ∀ k, k ≠ g → w'.heap[k]? = w.heap[k]?) (h2 : w'.heap[g]? = some (.cells C e fz')) (hs : w'.heap.size = w.heap.size) : HS Z ρ H w' := by
  refine ⟨h.dom, fun b c n own par hgh hb => ?_, fun b es k hb => ?_, h.own, h.mapown, fun k hk => by rw [hs]; exact h.zb k hk, h.gh, h.pm⟩
  · obtain ⟨g', o, N, q1, q2, q3, C', e', fz2, q4, q5, q6, q7⟩ := h.cells b c n own par hgh hb
    by_cases e1 : g' = g
    · subst e1
      rw [hg] at q4
      cases q4
      exact ⟨g', o, N, q1, q2, q3, C, e, fz', h2, q5, fun ho => by have := hk (by rw [q5]; exact q6 ho); rwa [q5] at this, q7⟩
    · exact ⟨g', o, N, q1, q2, q3, C', e', fz2, by rw [h1 g' e1]; exact q4, q5, q6, q7⟩
  · obtain ⟨g', o, N, q1, q2, E, q3, q4⟩ := h.maps b es k hb
    have e1 : g' ≠ g := fun e1 => by subst e1; rw [hg] at q3; cases q3
    exact ⟨g', o, N, q1, q2, E, by rw [h1 g' e1]; exact q3, q4⟩
theorem okFz_mark {lo hi N : Nat} (h : okFz (lo, hi) N) : okFz (if (lo == hi) = true then (N, N + 1) else (min lo N, max hi (N + 1))) N := by
  intro j hj
  split
  · rintro ⟨h1, -⟩
    simp only at h1
    omega
  · rename_i hne
    rintro ⟨h1, -⟩
    simp only at h1
    have : lo ≠ hi := fun e => hne (by simp [e])
    have hlo : lo ≤ j := by omega
    exact h j hj ⟨hlo, this⟩
theorem conv_sim (h : HS Z ρ H w) {src dst : TypeId} {k : CK} (hc : ckConv P src dst k = true) {x v : AV} {X : Value} (hx : R ρ x X)
    (hv : convA k x H = some (v, H')) :
    ∃ ρ' w' u, (convert src dst X).run P w = .ok u w' ∧ Ext ρ ρ' ∧ HS Z ρ' H' w' ∧ Kp Z w w' ∧ R ρ' v u := by
  unfold convA at hv
  split at hv
  · rename_i k j n
    cases hv
    simp only [R] at hx; subst hx
    simp only [ckConv, Bool.and_eq_true] at hc
    obtain ⟨d, hd⟩ := Option.isSome_iff_exists.1 hc.1
    have hc2 := hc.2
    split at hc2
    · rename_i j' hj
      have : j' = k := by simpa using hc2
      subst this
      refine ⟨ρ, w, .int j' (j'.wrap n), ?_, Ext.refl _, h, Kp.refl _ _, by simp only [R]⟩
      simp only [convert, Sem.run_bind, run_underlying hd, run_underlying hj, Result.andThen_ok]
      rfl
    · cases hc2
  · cases hv
    simp only [R] at hx
    obtain ⟨b, rfl, hb⟩ := hx
    simp only [ckConv, Bool.and_eq_true] at hc
    refine ⟨ρ, w, .string b, ?_, Ext.refl _, h, Kp.refl _ _, by simp only [R]; exact ⟨b, rfl, hb⟩⟩
    simp only [convert, Sem.run_bind, run_underlying (isStr_s hc.1), run_underlying (isStr_s hc.2), Result.andThen_ok]
    rfl
  · cases hv
    simp only [R] at hx
    obtain ⟨b, rfl, rfl⟩ := hx
    simp only [ckConv, Bool.and_eq_true] at hc
    obtain ⟨e, he1, he2⟩ := isByteSl_s hc.2
    obtain ⟨ρ', w', u, q1, q2, q3, q4, q5⟩ := toBytes_sim (P := P) h e b
    have hlen : (b.data.toList.map UInt8.toNat).length = b.size := by rw [List.length_map]; rfl
    rw [hlen]
    refine ⟨ρ', w', u, ?_, q2, q3, q4, q5⟩
    simp only [convert, Sem.run_bind, run_underlying (isStr_s hc.1), run_underlying he1, Result.andThen_ok, run_underlying he2]
    exact q1
  · cases hv
    simp only [R] at hx
    obtain ⟨rfl, rfl⟩ := hx
    simp only [ckConv, Bool.and_eq_true] at hc
    obtain ⟨e, he1, he2⟩ := isByteSl_s hc.1
    refine ⟨ρ, w, .string .empty, ?_, Ext.refl _, h, Kp.refl _ _, by simp only [R]; exact ⟨_, rfl, rfl⟩⟩
    simp only [convert, Sem.run_bind, run_underlying (isStr_s hc.2), run_underlying he1, Result.andThen_ok, run_underlying he2]
    rfl
  · rename_i b i s' len clip
    cases hz : len.beq 0 with
    | true =>
      rw [hz] at hv
      simp only [cond_true] at hv
      cases hv
      obtain rfl := Nat.eq_of_beq_eq_true hz
      simp only [R] at hx
      obtain ⟨g, o, N, ad, cap, hρ, rfl, hcap, -, -, had⟩ := hx
      simp only [ckConv, Bool.and_eq_true] at hc
      obtain ⟨e, he1, he2⟩ := isByteSl_s hc.1
      refine ⟨ρ, w, .string .empty, ?_, Ext.refl _, h, Kp.refl _ _, by simp only [R]; exact ⟨_, rfl, rfl⟩⟩
      simp only [convert, Sem.run_bind, run_underlying (isStr_s hc.2), run_underlying he1, Result.andThen_ok, run_underlying he2]
      rfl
    | false =>
    rw [hz] at hv
    simp only [cond_false] at hv
    split at hv
    · rename_i l hl
      split at hv
      · rename_i ns hns
        cases hv
        simp only [R] at hx
        obtain ⟨g, o, N, ad, cap, hρ, rfl, hcap, -, -, had⟩ := hx
        simp only [ckConv, Bool.and_eq_true] at hc
        obtain ⟨e, he1, he2⟩ := isByteSl_s hc.1
        obtain ⟨vs, v1, v2, v3, v4, v5, v6⟩ := h.load hl hρ
        obtain ⟨t1, t2⟩ := toInts_s hns v3
        have hld : (loadCells ad len).run P w = .ok (((ns.map fun (n : Nat) => (n : Int))).map (Value.int .u8)).toArray w := by
          rw [← t1]
          by_cases h0 : cap = 0
          · have : len = 0 := by omega
            subst this
            have : vs = [] := by cases vs with | nil => rfl | cons _ _ => simp at v1
            subst this
            rfl
          · rw [had h0, ← v1]
            exact run_loads P vs v2
        refine ⟨ρ, w, .string ((ns.map fun (n : Nat) => (n : Int)).foldl (fun r n => r.push (UInt8.ofNat n.toNat)) ByteArray.empty), ?_, Ext.refl _, h, Kp.refl _ _, ?_⟩
        · simp only [convert, Sem.run_bind, run_underlying (isStr_s hc.2), run_underlying he1, Result.andThen_ok, run_underlying he2]
          exact run_bytesToString w ad len cap _ hld
        · simp only [R]
          refine ⟨_, rfl, ?_⟩
          rw [foldl_bytes _ _ t2]
          rfl
      · cases hv
    · cases hv
  · rename_i k n
    split at hv
    · rename_i hn
      cases hv
      simp only [R] at hx; subst hx
      simp only [ckConv, Bool.and_eq_true] at hc
      obtain ⟨j, hj⟩ := isInt_s hc.1
      refine ⟨ρ, w, .string (Utf8.encode n), ?_, Ext.refl _, h, Kp.refl _ _, ?_⟩
      · simp only [convert, Sem.run_bind, run_underlying hj, run_underlying (isStr_s hc.2), Result.andThen_ok]
        rfl
      · simp only [R]
        refine ⟨_, rfl, ?_⟩
        have := encode_small n.toNat (by omega)
        rwa [Int.toNat_of_nonneg hn.1] at this
    · cases hv
  · rename_i b i s' len clip
    cases hz : len.beq 0 with
    | true => rw [hz] at hv; cases hv
    | false =>
      rw [hz] at hv
      simp only [cond_false] at hv
      split at hv
      · rename_i c k par hb
        cases hv
        simp only [R] at hx
        obtain ⟨g, o, N, ad, cap, hρ, rfl, hcap, hcl, hle, had⟩ := hx
        simp only [ckConv, Bool.and_eq_true] at hc
        obtain ⟨e', he1, he2⟩ := isByteSl_s hc.2
        have hst : src = dst := of_decide_eq_true hc.1
        subst hst
        obtain ⟨g', o', N', hρ', hon, hzg, C, e, ⟨lo, hi⟩, hw, hC, hfz, -⟩ := h.cells b c k true par (h.ng hρ) hb
        rw [hρ] at hρ'
        cases hρ'
        have hlen : len ≠ 0 := fun e0 => by subst e0; cases hz
        obtain rfl := had (by omega)
        have hsz : g < w.heap.size := (Array.getElem?_eq_some_iff.1 hw).1
        have hsh : w.shape? g = some (e, C.size) := by unfold World.shape?; rw [hw]
        have hfr : (w.freeze ⟨g, C.size, none⟩ 1).heap = w.heap.modify g fun
            | .cells c elem (lo, hi) => .cells c elem (if lo == hi then (C.size, C.size + 1) else (min lo C.size, max hi (C.size + 1)))
            | o => o := rfl
        refine ⟨ρ, w.freeze ⟨g, C.size, none⟩ 1, .slice (some ⟨g, o + i, none⟩) len cap, ?_, Ext.refl _, h.fz hw (fz' := if (lo == hi) = true then (C.size, C.size + 1) else (min lo C.size, max hi (C.size + 1))) okFz_mark (fun k hk => ?_) ?_ ?_, ⟨rfl, rfl, rfl, ?_, fun k hk hZ => ?_⟩, ?_⟩
        · simp [convert, run_underlying he1, run_underlying he2, markStringish, hsh]
        · rw [hfr, Array.getElem?_modify, if_neg (fun e => hk e.symm)]
        · rw [hfr, Array.getElem?_modify, if_pos rfl, hw]
          rfl
        · rw [hfr, Array.size_modify]
        · rw [hfr, Array.size_modify]; exact Nat.le_refl _
        · rw [hfr, Array.getElem?_modify, if_neg (fun e => by subst e; exact hzg rfl hZ)]
        · simp only [R]
          exact ⟨g, o, N, ⟨g, o + i, none⟩, cap, hρ, rfl, hcap, hcl, hle, fun _ => rfl⟩
      · cases hv
  · cases hv
theorem mnA_sim {mx : Bool} {x y v : AV} {X Y : Value} (hx : R ρ x X) (hy : R ρ y Y) (h : mnA mx x y = some v) : (if mx then Builtin.max2 X Y else Builtin.min2 X Y).run P w = .ok (litV v) w ∧ R ρ v (litV v) := by
  unfold mnA at h
  split at h
  · cases h
    simp only [R] at hx hy
    subst hx hy
    cases mx <;> simp [Builtin.max2, Builtin.min2, litV, R]
  · cases h
theorem mnL_sim {mx : Bool} : ∀ {l : List AV} {x v : AV} {X : Value} {L : List Value}, R ρ x X → RL ρ l L → mnL mx x l = some v → ∃ u, (L.foldlM (if mx then Builtin.max2 else Builtin.min2) X).run P w = .ok u w ∧ R ρ v u
  | [], x, v, X, L, hx, hl, h => by
    simp only [RL] at hl; subst hl
    simp [mnL] at h; subst h
    exact ⟨X, rfl, hx⟩
  | y :: l, x, v, X, L, hx, hl, h => by
    simp only [RL] at hl
    obtain ⟨Y, L', rfl, hy, hl'⟩ := hl
    simp only [mnL] at h
    split at h
    · rename_i z hz
      obtain ⟨q1, q2⟩ := mnA_sim (P := P) (w := w) hx hy hz
      obtain ⟨u, p1, p2⟩ := mnL_sim q2 hl' h
      refine ⟨u, ?_, p2⟩
      simp only [List.foldlM_cons, Sem.run_bind]
      have : ((if mx then Builtin.max2 else Builtin.min2) X Y).run P w = .ok (litV z) w := by
        cases mx
        · simpa using q1
        · simpa using q1
      rw [this]
      exact p1
    · cases h
end
section
variable {Z : Nat → Prop} {ρ : Rho} {H H' : AHeap} {w w' : World} {P : Program}
def ckMapT (P : Program) (t : TypeId) : Bool := match P.underlying t with | some (.map ..) => true | _ => false
def ckIf (P : Program) (t : TypeId) : Bool := match P.underlying t with | some (.interface _) => false | some _ => true | none => false
def ckLenA (P : Program) (t : TypeId) (n : Nat) : Bool := match P.underlying t with
  | some (.array m _) => m == n
  | some (.pointer a) => (match P.underlying a with | some (.array m _) => m == n | _ => false)
  | _ => false
def isSl (P : Program) (t : TypeId) : Bool := match P.underlying t with | some (.slice _) => true | _ => false
def ckBu (P : Program) (b : Builtin) (args : List Operand) (ats : Array TypeId) (ao : AOp) : Bool :=
  match b, ao with
  | .len, .lenS str y => (match args, ats[0]? with | [x], some t => ckO x y && (if str then isStr P t else isSl P t) | _, _ => false)
  | .len, .lenA n => (match args, ats[0]? with | [_], some t => ckLenA P t n | _, _ => false)
  | .len, .lenM y => (match args, ats[0]? with | [x], some t => ckO x y && ckMapT P t | _, _ => false)
  | .cap, .capS y => (match args, ats[0]? with | [x], some t => ckO x y && isSl P t | _, _ => false)
  | .min, .mnmx mx ys => !mx && ckOs args ys
  | .max, .mnmx mx ys => mx && ckOs args ys
  | .append, .append s bytes str x' y' => (match args with | [x, y] => ckO x x' && ckO y y' && ckApp P ats s bytes str | _ => false)
  | .copy, .copy s str x' y' => (match args with | [x, y] => ckO x x' && ckO y y' && ckCp P ats s str | _ => false)
  | .delete, .delete sh m' k' => (match args, ats[0]? with | [m, k], some t => ckO m m' && ckO k k' && ckM P t sh | _, _ => false)
  | _, _ => false
theorem fill_len {fr : AFr} : ∀ {l : List (Nat × Nat × AOpnd)} {zs cs : List AV}, fillA fr zs l = some cs → cs.length = zs.length
  | [], zs, cs, h => by simp [fillA] at h; subst h; rfl
  | (off, size, x) :: l, zs, cs, h => by
    simp only [fillA] at h
    split at h
    · cases h
    · rename_i v hv
      cases hc1 : (v.boxy && v.cells.length.beq size)
      · rw [hc1] at h; cases h
      · rw [hc1] at h
        simp only [cond_true] at h
        cases hc2 : (off + size).ble zs.length
        · rw [hc2] at h; cases h
        · rw [hc2] at h
          simp only [cond_true] at h
          rw [fill_len h]
          simp only [Bool.and_eq_true] at hc1
          have := Nat.eq_of_beq_eq_true hc1.2
          have := Nat.le_of_ble_eq_true hc2
          simp [setAt]
          omega
theorem bu_run {b : Builtin} {o : Oper} {c : Call} (ho : o.op = .call c) (hb : c.callee = .builtin b) (a : Act) {s : Sem Value} (hs : builtin b c.argTypes o.type (c.args.map fun | .const _ => true | _ => false) (c.args.map a.eval) = (do pure (.value (← s)))) : execOp a.eval o = (do pure (.value (← s))) := by
  unfold execOp
  simp only [ho]
  simp only [resolve, hb]
  show (do let d ← (pure { target := Target.builtin b c.argTypes o.type _, args := c.args.map a.eval } : Sem Deferred); invoke d.target d.args) = _
  exact hs
theorem oo_of {x : Option Operand} {y : Option AOpnd} {fr : AFr} {a : Act} {v : Option AV} (h : ckOo x y = true) (hf : RF ρ fr a) (hv : evo fr y = some v) : oR ρ v (x.map a.eval) := ckOo_R h hf hv
set_option maxHeartbeats 1000000 in
theorem bu_sim {call : Rec} {ms : Meth} {b : Builtin} {o : Oper} {c : Call} (ho : o.op = .call c) (hb : c.callee = .builtin b) {ao : AOp} (hc : ckBu P b c.args.toList c.argTypes ao = true) (h : HS Z ρ H w) {fr : AFr} {a : Act} (hf : RF ρ fr a) {v : AV} (he : exA call ms ao fr H = some (v, H')) : Dn P Z ρ w v H' (execOp a.eval o) := by
  obtain ⟨callee, ⟨args⟩, ats⟩ := c
  simp only at hb hc
  subst hb
  unfold ckBu at hc
  split at hc
  · -- len of a slice, a string
    rename_i str y
    split at hc
    · rename_i x t ht
      simp only [Bool.and_eq_true] at hc
      rw [bu_run ho rfl a (s := Builtin.len_ ats o.type #[a.eval x]) (by simp [builtin])]
      simp only [exA] at he
      split at he
      · rename_i ad s n cl hev
        have hR := ckO_R hc.1 hf hev
        cases str
        · simp only [cond_false, vl, Option.some.injEq, Prod.mk.injEq] at he
          obtain ⟨rfl, rfl⟩ := he
          have hX : ∃ base cap, a.eval x = .slice base n cap := by
            cases ad with
            | none => simp only [R] at hR; obtain ⟨rfl, e⟩ := hR; exact ⟨none, 0, e⟩
            | some bi => simp only [R] at hR; obtain ⟨g, p, N, ad, cap, -, e, -⟩ := hR; exact ⟨some ad, cap, e⟩
          obtain ⟨base, cap, e⟩ := hX
          have hc2 := hc.2
          simp only [Bool.false_eq_true, if_false] at hc2
          unfold isSl at hc2
          split at hc2
          · rename_i el hu
            refine Dn.pure h (u := .int .i64 n) ?_ (by simp only [pInt, R])
            simp [Builtin.len_, ht, run_underlying hu, e, goInt]
          · cases hc2
        · cases he
      · rename_i l hev
        have hR := ckO_R hc.1 hf hev
        cases str
        · cases he
        · simp only [cond_true, vl, Option.some.injEq, Prod.mk.injEq] at he
          obtain ⟨rfl, rfl⟩ := he
          simp only [R] at hR
          obtain ⟨s, e, hs⟩ := hR
          refine Dn.pure h (u := .int .i64 l.length) ?_ (by simp only [pInt, R])
          have hu := isStr_s (by simpa using hc.2)
          simp [Builtin.len_, ht, run_underlying hu, e, goInt, str_len hs]
      · cases he
    · cases hc
  · rename_i n
    split at hc
    · rename_i x t ht
      rw [bu_run ho rfl a (s := Builtin.len_ ats o.type #[a.eval x]) (by simp [builtin])]
      simp only [exA, vl, Option.some.injEq, Prod.mk.injEq] at he
      obtain ⟨rfl, rfl⟩ := he
      refine Dn.pure h (u := .int .i64 n) ?_ (by simp only [pInt, R])
      unfold ckLenA at hc
      split at hc
      · rename_i m e hu
        have : m = n := by simpa using hc
        subst this
        simp [Builtin.len_, ht, run_underlying hu, goInt]
      · rename_i ar hu
        split at hc
        · rename_i m e hu2
          have : m = n := by simpa using hc
          subst this
          simp [Builtin.len_, ht, run_underlying hu, run_underlying hu2, goInt]
        · cases hc
      · cases hc
    · cases hc
  · rename_i y
    split at hc
    · rename_i x t ht
      simp only [Bool.and_eq_true] at hc
      rw [bu_run ho rfl a (s := Builtin.len_ ats o.type #[a.eval x]) (by simp [builtin])]
      have hc2 := hc.2
      unfold ckMapT at hc2
      split at hc2
      · rename_i kt et hu
        simp only [exA] at he
        split at he
        · rename_i hev
          simp only [vl, Option.some.injEq, Prod.mk.injEq] at he
          obtain ⟨rfl, rfl⟩ := he
          exact Dn.pure h (lenM_sim h hu (r := none) (ckO_R hc.1 hf hev) rfl ats o.type ht) (by simp [pInt, R])
        · rename_i r hev
          split at he
          · rename_i es c hH
            simp only [vl, Option.some.injEq, Prod.mk.injEq] at he
            obtain ⟨rfl, rfl⟩ := he
            exact Dn.pure h (lenM_sim h hu (r := some r) (n := es.length) (ckO_R hc.1 hf hev) (by simp only [hH]) ats o.type ht) (by simp only [pInt, R])
          · cases he
        · cases he
      · cases hc2
    · cases hc
  · rename_i y
    split at hc
    · rename_i x t ht
      simp only [Bool.and_eq_true] at hc
      rw [bu_run ho rfl a (s := Builtin.cap_ ats o.type #[a.eval x]) (by simp [builtin])]
      have hc2 := hc.2
      unfold isSl at hc2
      split at hc2
      · rename_i el hu
        simp only [exA] at he
        split at he
        · rename_i s n cl hev
          simp only [vl, Option.some.injEq, Prod.mk.injEq] at he
          obtain ⟨rfl, rfl⟩ := he
          have hR := ckO_R hc.1 hf hev
          simp only [R] at hR
          obtain ⟨-, e⟩ := hR
          refine Dn.pure h (u := .int .i64 (0 : Nat)) ?_ (by simp only [pInt, R])
          simp [Builtin.cap_, ht, run_underlying hu, e, goInt]
        · rename_i ad s n hne hev
          simp only [vl, Option.some.injEq, Prod.mk.injEq] at he
          obtain ⟨rfl, rfl⟩ := he
          have hR := ckO_R hc.1 hf hev
          cases ad with
          | none => exact (hne rfl).elim
          | some bi =>
            simp only [R] at hR
            obtain ⟨g, p, N, ad, cap, -, e, -, q, -⟩ := hR
            have := q (by trivial)
            subst this
            refine Dn.pure h (u := .int .i64 cap) ?_ (by simp only [pInt, R])
            simp [Builtin.cap_, ht, run_underlying hu, e, goInt]
        · cases he
      · cases hc2
    · cases hc
  · rename_i mx ys
    simp only [Bool.and_eq_true, Bool.not_eq_true'] at hc
    obtain ⟨rfl, hc⟩ := hc
    rw [bu_run ho rfl a (s := Builtin.min_ ats o.type (args.map a.eval).toArray) (by simp [builtin])]
    simp only [exA] at he
    split at he
    · rename_i x l hev
      split at he
      · rename_i u hu
        simp only [vl, Option.some.injEq, Prod.mk.injEq] at he
        obtain ⟨rfl, rfl⟩ := he
        have hl := ckOs_R hc hf hev
        simp only [RL] at hl
        obtain ⟨X, L, e, hX, hL⟩ := hl
        obtain ⟨q, q1, q2⟩ := mnL_sim (P := P) (w := w) hX hL hu
        refine Dn.pure h ?_ q2
        simp only [Builtin.min_, e]
        exact q1
      · cases he
    · cases he
  · rename_i mx ys
    simp only [Bool.and_eq_true] at hc
    obtain ⟨rfl, hc⟩ := hc
    rw [bu_run ho rfl a (s := Builtin.max_ ats o.type (args.map a.eval).toArray) (by simp [builtin])]
    simp only [exA] at he
    split at he
    · rename_i x l hev
      split at he
      · rename_i u hu
        simp only [vl, Option.some.injEq, Prod.mk.injEq] at he
        obtain ⟨rfl, rfl⟩ := he
        have hl := ckOs_R hc hf hev
        simp only [RL] at hl
        obtain ⟨X, L, e, hX, hL⟩ := hl
        obtain ⟨q, q1, q2⟩ := mnL_sim (P := P) (w := w) hX hL hu
        refine Dn.pure h ?_ q2
        simp only [Builtin.max_, e]
        exact q1
      · cases he
    · cases he
  · rename_i s bytes str x' y'
    split at hc
    · rename_i x y
      simp only [Bool.and_eq_true] at hc
      rw [bu_run ho rfl a (s := Builtin.append_ ats o.type #[a.eval x, a.eval y]) (by simp [builtin])]
      simp only [exA] at he
      split at he
      · rename_i xv yv hx hy
        obtain ⟨H0, he0, heq⟩ := appendF_A h (ckO_R hc.1.1 hf hx) he
        obtain ⟨ρ', w', u, q1, q2, q3', q4, q5⟩ := append_sim h hc.2 (ckO_R hc.1.1 hf hx) (ckO_R hc.1.2 hf hy) he0 o.type
        have q3 := q3'.congr heq
        exact Dn.val q1 q2 q3 q4 q5
      · cases he
    · cases hc
  · rename_i s str x' y'
    split at hc
    · rename_i x y
      simp only [Bool.and_eq_true] at hc
      rw [bu_run ho rfl a (s := Builtin.copy_ ats o.type #[a.eval x, a.eval y]) (by simp [builtin])]
      simp only [exA] at he
      split at he
      · rename_i ad s' n cl yv hx hy
        split at he
        · rename_i ys m hs
          have hX := ckO_R hc.1.1 hf hx
          have hY := ckO_R hc.1.2 hf hy
          cases ad with
          | none =>
            simp only [vl, Option.some.injEq, Prod.mk.injEq] at he
            obtain ⟨rfl, rfl⟩ := he
            obtain ⟨w', q1, q2, q3⟩ := copy_sim (P := P) h hc.2 hX hY hs o.type (H' := H) rfl
            exact Dn.val q1 (Ext.refl _) q2 q3 (by simp only [pInt, R]; rfl)
          | some bi =>
            obtain ⟨b, i⟩ := bi
            simp only at he
            by_cases h0 : min m n = 0
            · rw [h0] at he
              simp only [Nat.beq_refl, cond_true, vl, Option.some.injEq, Prod.mk.injEq] at he
              obtain ⟨rfl, rfl⟩ := he
              obtain ⟨w', q1, q2, q3⟩ := copy_sim (P := P) h hc.2 hX hY hs o.type (H' := H) (by simp [h0])
              exact Dn.val q1 (Ext.refl _) q2 q3 (by simp [pInt, R, h0])
            · rw [nbf h0] at he
              simp only [cond_false] at he
              split at he
              · rename_i H2 hH2
                simp only [Option.some.injEq, Prod.mk.injEq] at he
                obtain ⟨rfl, rfl⟩ := he
                obtain ⟨w', q1, q2, q3⟩ := copy_sim (P := P) h hc.2 hX hY hs o.type (H' := H2) (by simp [nbf h0, hH2])
                exact Dn.val q1 (Ext.refl _) q2 q3 (by simp only [pInt, R])
              · cases he
        · cases he
      · cases he
    · cases hc
  · rename_i sh m' k'
    split at hc
    · rename_i m k t ht
      simp only [Bool.and_eq_true] at hc
      rw [bu_run ho rfl a (s := Builtin.delete_ ats o.type #[a.eval m, a.eval k]) (by simp [builtin])]
      simp only [exA] at he
      split at he
      · rename_i r kv hm hk
        split at he
        · rename_i es c hH
          have hM := ckO_R hc.1.1 hf hm
          have hK := ckO_R hc.1.2 hf hk
          split at he
          · rename_i i v' b hfd
            simp only [Option.some.injEq, Prod.mk.injEq] at he
            obtain ⟨rfl, rfl⟩ := he
            obtain ⟨w', q1, q2, q3⟩ := delete_sim (P := P) h hc.2 hM hK hH hfd ats o.type ht
            exact Dn.val q1 (Ext.refl _) q2 q3 (by simp only [R]; exact ⟨#[], rfl, rfl⟩)
          · rename_i hfd
            simp only [Option.some.injEq, Prod.mk.injEq] at he
            obtain ⟨rfl, rfl⟩ := he
            obtain ⟨w', q1, q2, q3⟩ := delete_sim (P := P) h hc.2 hM hK hH hfd ats o.type ht
            exact Dn.val q1 (Ext.refl _) q2 q3 (by simp only [R]; exact ⟨#[], rfl, rfl⟩)
          · cases he
        · cases he
      · cases he
    · cases hc
  · cases hc
end
section
variable {Z : Nat → Prop} {ρ : Rho} {H H' : AHeap} {w w' : World} {P : Program}
theorem Dn.now {v : AV} {u : Value} {s : Sem Next} (hs : HS Z ρ H w) (h : s.run P w = .ok (.value u) w) (hr : R ρ v u) : Dn P Z ρ w v H s :=
  ⟨ρ, w, .value u, u, h, .inl rfl, Ext.refl _, hs, Kp.refl _ _, hr⟩
theorem R.tag2 {x : AV} {X : Value} (h : R ρ x X) : (X = .pointer none → x = .ptr none) ∧ (X = .nilFunc → x = .nilFunc) ∧ (∀ n f c, X = .func (.method n) f c → ∃ p q, x = .func (.method n) p q) := by
  cases x with
  | bool b => simp only [R] at h; subst h; simp
  | int k n => simp only [R] at h; subst h; simp
  | str s => simp only [R] at h; obtain ⟨b, rfl, -⟩ := h; simp
  | ptr a => cases a <;> simp only [R] at h <;> first | (subst h; simp; done) | (obtain ⟨_, _, _, _, rfl⟩ := h; simp)
  | slice a s n c => cases a <;> simp only [R] at h <;> first | (obtain ⟨_, rfl⟩ := h; simp; done) | (obtain ⟨_, _, _, _, _, _, rfl, _⟩ := h; simp)
  | map a => cases a <;> simp only [R] at h <;> first | (subst h; simp; done) | (obtain ⟨_, _, _, _, rfl⟩ := h; simp)
  | func fn a b => simp only [R] at h; obtain ⟨_, _, rfl, _⟩ := h; refine ⟨by simp, by simp, fun n f c e => ?_⟩; cases e; exact ⟨_, _, rfl⟩
  | nilFunc => simp only [R] at h; subst h; simp
  | iface t v => simp only [R] at h; obtain ⟨_, rfl, _⟩ := h; simp
  | nilIface => simp only [R] at h; subst h; simp
  | agg cs => simp only [R] at h; obtain ⟨_, rfl, _⟩ := h; simp
  | tuple cs => simp only [R] at h; obtain ⟨_, rfl, _⟩ := h; simp
theorem chk_run {x : AV} {dst : Option Tmp} {o : Operand} {ty : TypeId} {pos : String} {after : Array Edge} {guard : Option (Nat × Bool)} {a : Act} (h : R ρ x (a.eval o)) (hok : chkOk x = true) : (execOp a.eval ⟨dst, .nilCheck o, ty, pos, after, guard⟩).run P w = .ok (.value (a.eval o)) w := by
  simp only [execOp]
  generalize a.eval o = X at h
  obtain ⟨t1, t2, t3⟩ := h.tag2
  split
  · rw [t1 rfl] at hok; cases hok
  · rw [h.tag.2.2.2.2.1 rfl] at hok; cases hok
  · rw [t2 rfl] at hok; cases hok
  · obtain ⟨p, q, e⟩ := t3 _ _ _ rfl
    rw [e] at hok; cases hok
  · rfl
def ckOp (P : Program) (op : Op) (ao : AOp) : Bool :=
  match op with
  | .move x => (match ao with | .mv y => ckO x y | _ => false)
  | .assign x => (match ao with | .mv y => ckO x y | _ => false)
  | .pick c x y => (match ao with | .pick c' x' y' => ckO c c' && ckO x x' && ckO y y' | _ => false)
  | .alloc e => (match ao with | .alloc zs => ckZ P e zs | _ => false)
  | .box e x => (match ao with | .box y => ckO x y | _ => false)
  | .build t ps => (match ao with | .build zs l => ckBuild P t ps.toList zs l | _ => false)
  | .buildSlice t n ps => (match ao with | .bslice s n' zs l => n == n' && zs.length == n * s && ckBS P t s n ps.toList zs l | _ => false)
  | .load t x => (match ao with | .load n agg y => ckSz P t n && ckAg P t agg && ckO x y | _ => false)
  | .store t x u => (match ao with | .store n y u' => ckSz P t n && ckO x y && ckO u u' | _ => false)
  | .nilCheck x => (match ao with | .chk y => ckO x y | _ => false)
  | .binOp op t x y _ => (match ao with | .bin op' sh x' y' => decide (op = op') && ckBin P op t x y sh && ckO x x' && ckO y y' | _ => false)
  | .unOp op _ x => (match ao with | .un op' x' => decide (op = op') && ckO x x' | _ => false)
  | .convert src dt x => (match ao with | .conv k y => ckConv P src dt k && ckO x y | _ => false)
  | .makeInterface t x => (match ao with | .mkIface t' y => t == t' && ckIf P t && ckO x y | _ => false)
  | .makeFunc fn xs ys => (match ao with | .mkFunc fn' xs' ys' => decide (fn = fn') && ckOs xs.toList xs' && ckOs ys.toList ys' | _ => false)
  | .makeMap t r => (match ao with | .mkMap => (match r with | none => true | some (.const (.int _ _)) => ckMapT P t | _ => false) | _ => false)
  | .makeSlice t l c => (match ao with | .mkSlice s b zs l' c' => ckMk P t s b zs && ckO l l' && ckO c c' | _ => false)
  | .slice t x lo hi mx => (match ao with
    | .slSlice s x' lo' hi' mx' => ckSl P t s && ckO x x' && ckOo lo lo' && ckOo hi hi' && ckOo mx mx'
    | .slStr x' lo' hi' => isStr P t && mx.isNone && ckO x x' && ckOo lo lo' && ckOo hi hi'
    | .slArr n s x' lo' hi' mx' => ckArr P t n s && ckO x x' && ckOo lo lo' && ckOo hi hi' && ckOo mx mx'
    | _ => false)
  | .fieldAddr t x f => (match ao with | .faddr off y => ckFA P t f off && ckO x y | _ => false)
  | .field t x f => (match ao with | .field off n agg y => ckFd P t f off n agg && ckO x y | _ => false)
  | .indexAddr t x i => (match ao with
    | .iaddrA len s x' i' => ckArr P t len s && ckO x x' && ckO i i'
    | .iaddrS s x' i' => ckSl P t s && ckO x x' && ckO i i'
    | _ => false)
  | .index t x i => (match ao with
    | .idxA len s agg x' i' => ckIx P t len s agg && ckO x x' && ckO i i'
    | .idxS x' i' => isStr P t && ckO x x' && ckO i i'
    | _ => false)
  | .lookup t m k ok => (match ao with | .lookup sh z ok' m' k' => ok == ok' && ckM P t sh && ckMz P t z && ckO m m' && ckO k k' | _ => false)
  | .mapUpdate t m k u => (match ao with | .mapUpd sh m' k' u' => ckM P t sh && ckO m m' && ckO k k' && ckO u u' | _ => false)
  | .insert t m k u => (match ao with | .mapUpd sh m' k' u' => ckM P t sh && ckO m m' && ckO k k' && ckO u u' | _ => false)
  | .mapEntry t m k => (match ao with | .mapEnt sh z m' k' => ckM P t sh && ckMz P t z && ckO m m' && ckO k k' | _ => false)
  | .entryStore t m st u => (match ao with | .entSt m' st' u' => ckO m m' && ckO st st' && ckO u u' | _ => false)
  | .extract x i => (match ao with | .extract i' y => i == i' && ckO x y | _ => false)
  | .call c => (match c.callee with | .builtin b => ckBu P b c.args.toList c.argTypes ao | _ => false)
  | _ => false
set_option maxHeartbeats 1000000 in
theorem os_move {x : Operand} {call : Rec} {ms : Meth} {dst : Option Tmp} {ty : TypeId} {pos : String} {after : Array Edge} {guard : Option (Nat × Bool)} {ao : AOp} (hc : ckOp P (.move x) ao = true) (h : HS Z ρ H w) {fr : AFr} {a : Act} (hf : RF ρ fr a) {v : AV} (he : exA call ms ao fr H = some (v, H')) : Dn P Z ρ w v H' (execOp a.eval ⟨dst, .move x, ty, pos, after, guard⟩) := by
  simp only [ckOp] at hc
  split at hc
  · rename_i y
    simp only [exA] at he
    split at he
    · rename_i u hu
      simp only [vl, Option.some.injEq, Prod.mk.injEq] at he
      obtain ⟨rfl, rfl⟩ := he
      exact Dn.now h (u := a.eval x) rfl (ckO_R hc hf hu)
    · cases he
  · cases hc
set_option maxHeartbeats 1000000 in
theorem os_assign {x : Operand} {call : Rec} {ms : Meth} {dst : Option Tmp} {ty : TypeId} {pos : String} {after : Array Edge} {guard : Option (Nat × Bool)} {ao : AOp} (hc : ckOp P (.assign x) ao = true) (h : HS Z ρ H w) {fr : AFr} {a : Act} (hf : RF ρ fr a) {v : AV} (he : exA call ms ao fr H = some (v, H')) : Dn P Z ρ w v H' (execOp a.eval ⟨dst, .assign x, ty, pos, after, guard⟩) := by
  simp only [ckOp] at hc
  split at hc
  · rename_i y
    simp only [exA] at he
    split at he
    · rename_i u hu
      simp only [vl, Option.some.injEq, Prod.mk.injEq] at he
      obtain ⟨rfl, rfl⟩ := he
      exact Dn.now h (u := a.eval x) rfl (ckO_R hc hf hu)
    · cases he
  · cases hc
set_option maxHeartbeats 1000000 in
theorem os_pick {c : Operand} {x : Operand} {y : Operand} {call : Rec} {ms : Meth} {dst : Option Tmp} {ty : TypeId} {pos : String} {after : Array Edge} {guard : Option (Nat × Bool)} {ao : AOp} (hc : ckOp P (.pick c x y) ao = true) (h : HS Z ρ H w) {fr : AFr} {a : Act} (hf : RF ρ fr a) {v : AV} (he : exA call ms ao fr H = some (v, H')) : Dn P Z ρ w v H' (execOp a.eval ⟨dst, .pick c x y, ty, pos, after, guard⟩) := by
  simp only [ckOp] at hc
  split at hc
  · rename_i c' x' y'
    simp only [Bool.and_eq_true] at hc
    simp only [exA] at he
    split at he
    · rename_i hcv
      have hC := ckO_R hc.1.1 hf hcv
      simp only [R] at hC
      split at he
      · rename_i u hu
        simp only [vl, Option.some.injEq, Prod.mk.injEq] at he
        obtain ⟨rfl, rfl⟩ := he
        exact Dn.now h (u := a.eval x) (by simp [execOp, hC, asBool]) (ckO_R hc.1.2 hf hu)
      · cases he
    · rename_i hcv
      have hC := ckO_R hc.1.1 hf hcv
      simp only [R] at hC
      split at he
      · rename_i u hu
        simp only [vl, Option.some.injEq, Prod.mk.injEq] at he
        obtain ⟨rfl, rfl⟩ := he
        exact Dn.now h (u := a.eval y) (by simp [execOp, hC, asBool]) (ckO_R hc.2 hf hu)
      · cases he
    · cases he
  · cases hc
set_option maxHeartbeats 1000000 in
theorem os_alloc {e : TypeId} {call : Rec} {ms : Meth} {dst : Option Tmp} {ty : TypeId} {pos : String} {after : Array Edge} {guard : Option (Nat × Bool)} {ao : AOp} (hc : ckOp P (.alloc e) ao = true) (h : HS Z ρ H w) {fr : AFr} {a : Act} (hf : RF ρ fr a) {v : AV} (he : exA call ms ao fr H = some (v, H')) : Dn P Z ρ w v H' (execOp a.eval ⟨dst, .alloc e, ty, pos, after, guard⟩) := by
  simp only [ckOp] at hc
  split at hc
  · rename_i zs
    simp only [exA, Option.some.injEq, Prod.mk.injEq] at he
    obtain ⟨rfl, rfl⟩ := he
    obtain ⟨ρ', w', u, q1, q2, q3, q4, q5⟩ := alloc_sim (P := P) h hc (.tuple #[])
    exact Dn.val (s := Instr.alloc e true (.tuple #[])) q1 q2 q3 q4 q5
  · cases hc
set_option maxHeartbeats 1000000 in
theorem os_box {e : TypeId} {x : Operand} {call : Rec} {ms : Meth} {dst : Option Tmp} {ty : TypeId} {pos : String} {after : Array Edge} {guard : Option (Nat × Bool)} {ao : AOp} (hc : ckOp P (.box e x) ao = true) (h : HS Z ρ H w) {fr : AFr} {a : Act} (hf : RF ρ fr a) {v : AV} (he : exA call ms ao fr H = some (v, H')) : Dn P Z ρ w v H' (execOp a.eval ⟨dst, .box e x, ty, pos, after, guard⟩) := by
  simp only [ckOp] at hc
  split at hc
  · rename_i y
    simp only [exA] at he
    split at he
    · rename_i u hu
      cases hb : u.boxy
      · rw [hb] at he; cases he
      · rw [hb] at he
        simp only [cond_true, Option.some.injEq, Prod.mk.injEq] at he
        obtain ⟨rfl, rfl⟩ := he
        obtain ⟨ρ', w', q, q1, q2, q3, q4, q5⟩ := box_sim (P := P) h (ckO_R hc hf hu) hb e
        exact Dn.val (s := Instr.box e (a.eval x)) q1 q2 q3 q4 q5
    · cases he
  · cases hc
set_option maxHeartbeats 1000000 in
theorem os_build {t : TypeId} {ps : Array (Nat × Operand)} {call : Rec} {ms : Meth} {dst : Option Tmp} {ty : TypeId} {pos : String} {after : Array Edge} {guard : Option (Nat × Bool)} {ao : AOp} (hc : ckOp P (.build t ps) ao = true) (h : HS Z ρ H w) {fr : AFr} {a : Act} (hf : RF ρ fr a) {v : AV} (he : exA call ms ao fr H = some (v, H')) : Dn P Z ρ w v H' (execOp a.eval ⟨dst, .build t ps, ty, pos, after, guard⟩) := by
  simp only [ckOp] at hc
  split at hc
  · rename_i zs l
    simp only [exA] at he
    split at he
    · rename_i cs hcs
      simp only [vl, Option.some.injEq, Prod.mk.injEq] at he
      obtain ⟨rfl, rfl⟩ := he
      obtain ⟨u, q1, q2⟩ := build_sim (P := P) (w := w) hc hf hcs
      exact Dn.pure (s := Instr.build t (ps.map fun (i, x) => (i, a.eval x))) h q1 q2
    · cases he
  · cases hc
set_option maxHeartbeats 1000000 in
theorem os_buildSlice {t : TypeId} {n : Nat} {ps : Array (Nat × Operand)} {call : Rec} {ms : Meth} {dst : Option Tmp} {ty : TypeId} {pos : String} {after : Array Edge} {guard : Option (Nat × Bool)} {ao : AOp} (hc : ckOp P (.buildSlice t n ps) ao = true) (h : HS Z ρ H w) {fr : AFr} {a : Act} (hf : RF ρ fr a) {v : AV} (he : exA call ms ao fr H = some (v, H')) : Dn P Z ρ w v H' (execOp a.eval ⟨dst, .buildSlice t n ps, ty, pos, after, guard⟩) := by
  simp only [ckOp] at hc
  split at hc
  · rename_i s n' zs l
    simp only [Bool.and_eq_true, beq_iff_eq] at hc
    obtain ⟨⟨rfl, hl⟩, hc⟩ := hc
    simp only [exA] at he
    split at he
    · rename_i cs hcs
      simp only [Option.some.injEq, Prod.mk.injEq] at he
      obtain ⟨rfl, rfl⟩ := he
      have hll := fill_len hcs
      rw [hl] at hll
      obtain ⟨ρ', w', u, q1, q2, q3, q4, q5⟩ := bslice_sim (P := P) (t := t) (s := s) (len := n) (parts := ps) (zs := zs) (ps := l) (l := cs) h hc hf hcs hll
      rw [show execOp a.eval ⟨dst, .buildSlice t n ps, ty, pos, after, guard⟩ = (do Pure.pure (Next.value (← Instr.buildSlice t n (ps.map fun (i, x) => (i, a.eval x))))) from rfl]
      exact Dn.val q1 q2 q3 q4 q5
    · cases he
  · cases hc
set_option maxHeartbeats 1000000 in
theorem os_load {t : TypeId} {x : Operand} {call : Rec} {ms : Meth} {dst : Option Tmp} {ty : TypeId} {pos : String} {after : Array Edge} {guard : Option (Nat × Bool)} {ao : AOp} (hc : ckOp P (.load t x) ao = true) (h : HS Z ρ H w) {fr : AFr} {a : Act} (hf : RF ρ fr a) {v : AV} (he : exA call ms ao fr H = some (v, H')) : Dn P Z ρ w v H' (execOp a.eval ⟨dst, .load t x, ty, pos, after, guard⟩) := by
  simp only [ckOp] at hc
  split at hc
  · rename_i n agg y
    simp only [Bool.and_eq_true] at hc
    simp only [exA] at he
    split at he
    · rename_i b i hx
      split at he
      · rename_i l hl
        split at he
        · rename_i u hu
          simp only [vl, Option.some.injEq, Prod.mk.injEq] at he
          obtain ⟨rfl, rfl⟩ := he
          obtain ⟨q, q1, q2⟩ := load_sim hc.1.1 hc.1.2 h (ckO_R hc.2 hf hx) hl hu
          exact Dn.pure (s := Instr.loadAt t (a.eval x)) h q1 q2
        · cases he
      · cases he
    · cases he
  · cases hc
set_option maxHeartbeats 1000000 in
theorem os_store {t : TypeId} {x : Operand} {u : Operand} {call : Rec} {ms : Meth} {dst : Option Tmp} {ty : TypeId} {pos : String} {after : Array Edge} {guard : Option (Nat × Bool)} {ao : AOp} (hc : ckOp P (.store t x u) ao = true) (h : HS Z ρ H w) {fr : AFr} {a : Act} (hf : RF ρ fr a) {v : AV} (he : exA call ms ao fr H = some (v, H')) : Dn P Z ρ w v H' (execOp a.eval ⟨dst, .store t x u, ty, pos, after, guard⟩) := by
  simp only [ckOp] at hc
  split at hc
  · rename_i n y u'
    simp only [Bool.and_eq_true] at hc
    simp only [exA] at he
    split at he
    · rename_i b i hx
      split at he
      · rename_i vv hv
        cases hb : (vv.boxy && vv.cells.length.beq n)
        · rw [hb] at he; cases he
        · rw [hb] at he
          simp only [cond_true] at he
          simp only [Bool.and_eq_true] at hb
          split at he
          · rename_i H2 hH2
            simp only [Option.some.injEq, Prod.mk.injEq] at he
            obtain ⟨rfl, rfl⟩ := he
            obtain ⟨w', q1, q2, q3⟩ := store_sim (P := P) hc.1.1 h (ckO_R hc.1.2 hf hx) (ckO_R hc.2 hf hv) hb.1 (Nat.eq_of_beq_eq_true hb.2) hH2
            exact Dn.unit (s := Instr.storeAt t (a.eval x) (a.eval u)) q1 (Ext.refl _) q2 q3
          · cases he
      · cases he
    · cases he
  · cases hc
set_option maxHeartbeats 1000000 in
theorem os_nilCheck {x : Operand} {call : Rec} {ms : Meth} {dst : Option Tmp} {ty : TypeId} {pos : String} {after : Array Edge} {guard : Option (Nat × Bool)} {ao : AOp} (hc : ckOp P (.nilCheck x) ao = true) (h : HS Z ρ H w) {fr : AFr} {a : Act} (hf : RF ρ fr a) {v : AV} (he : exA call ms ao fr H = some (v, H')) : Dn P Z ρ w v H' (execOp a.eval ⟨dst, .nilCheck x, ty, pos, after, guard⟩) := by
  simp only [ckOp] at hc
  split at hc
  · rename_i y
    simp only [exA] at he
    split at he
    · rename_i u hu
      cases hok : chkOk u
      · rw [hok] at he; cases he
      · rw [hok] at he
        simp only [cond_true, vl, Option.some.injEq, Prod.mk.injEq] at he
        obtain ⟨rfl, rfl⟩ := he
        have hR := ckO_R hc hf hu
        refine Dn.now h (u := a.eval x) ?_ hR
        exact chk_run hR hok
    · cases he
  · cases hc
set_option maxHeartbeats 1000000 in
theorem os_binOp {op : BinOp} {t : TypeId} {x : Operand} {y : Operand} {ty' : TypeId} {call : Rec} {ms : Meth} {dst : Option Tmp} {ty : TypeId} {pos : String} {after : Array Edge} {guard : Option (Nat × Bool)} {ao : AOp} (hc : ckOp P (.binOp op t x y ty') ao = true) (h : HS Z ρ H w) {fr : AFr} {a : Act} (hf : RF ρ fr a) {v : AV} (he : exA call ms ao fr H = some (v, H')) : Dn P Z ρ w v H' (execOp a.eval ⟨dst, .binOp op t x y ty', ty, pos, after, guard⟩) := by
  simp only [ckOp] at hc
  split at hc
  · rename_i op' sh x' y'
    simp only [Bool.and_eq_true, decide_eq_true_eq] at hc
    obtain ⟨⟨⟨rfl, hb⟩, hx⟩, hy⟩ := hc
    simp only [exA] at he
    split at he
    · rename_i av hxv
      split at he
      · rename_i bv hyv
        split at he
        · rename_i u hu
          simp only [vl, Option.some.injEq, Prod.mk.injEq] at he
          obtain ⟨rfl, rfl⟩ := he
          obtain ⟨q, q1, q2⟩ := bin_sim hb (ckO_R hx hf hxv) (ckO_R hy hf hyv) hu w
          exact Dn.pure (s := do eqGuard op t x y (a.eval x) (a.eval y); binOp op t (a.eval x) (a.eval y)) h q1 q2
        · cases he
      · cases he
    · cases he
  · cases hc
set_option maxHeartbeats 1000000 in
theorem os_unOp {op : UnOp} {t : TypeId} {x : Operand} {call : Rec} {ms : Meth} {dst : Option Tmp} {ty : TypeId} {pos : String} {after : Array Edge} {guard : Option (Nat × Bool)} {ao : AOp} (hc : ckOp P (.unOp op t x) ao = true) (h : HS Z ρ H w) {fr : AFr} {a : Act} (hf : RF ρ fr a) {v : AV} (he : exA call ms ao fr H = some (v, H')) : Dn P Z ρ w v H' (execOp a.eval ⟨dst, .unOp op t x, ty, pos, after, guard⟩) := by
  simp only [ckOp] at hc
  split at hc
  · rename_i op' x'
    simp only [Bool.and_eq_true, decide_eq_true_eq] at hc
    obtain ⟨rfl, hx⟩ := hc
    simp only [exA] at he
    split at he
    · rename_i av hxv
      split at he
      · rename_i u hu
        simp only [vl, Option.some.injEq, Prod.mk.injEq] at he
        obtain ⟨rfl, rfl⟩ := he
        obtain ⟨q, q1, q2⟩ := un_sim (P := P) (ckO_R hx hf hxv) hu w
        exact Dn.pure (s := Op.unary op (a.eval x)) h q1 q2
      · cases he
    · cases he
  · cases hc
set_option maxHeartbeats 1000000 in
theorem os_convert {src : TypeId} {dt : TypeId} {x : Operand} {call : Rec} {ms : Meth} {dst : Option Tmp} {ty : TypeId} {pos : String} {after : Array Edge} {guard : Option (Nat × Bool)} {ao : AOp} (hc : ckOp P (.convert src dt x) ao = true) (h : HS Z ρ H w) {fr : AFr} {a : Act} (hf : RF ρ fr a) {v : AV} (he : exA call ms ao fr H = some (v, H')) : Dn P Z ρ w v H' (execOp a.eval ⟨dst, .convert src dt x, ty, pos, after, guard⟩) := by
  simp only [ckOp] at hc
  split at hc
  · rename_i k y
    simp only [Bool.and_eq_true] at hc
    simp only [exA] at he
    split at he
    · rename_i xv hxv
      obtain ⟨ρ', w', u, q1, q2, q3, q4, q5⟩ := conv_sim h hc.1 (ckO_R hc.2 hf hxv) he
      exact Dn.val (s := convert src dt (a.eval x)) q1 q2 q3 q4 q5
    · cases he
  · cases hc
set_option maxHeartbeats 1000000 in
theorem os_makeInterface {t : TypeId} {x : Operand} {call : Rec} {ms : Meth} {dst : Option Tmp} {ty : TypeId} {pos : String} {after : Array Edge} {guard : Option (Nat × Bool)} {ao : AOp} (hc : ckOp P (.makeInterface t x) ao = true) (h : HS Z ρ H w) {fr : AFr} {a : Act} (hf : RF ρ fr a) {v : AV} (he : exA call ms ao fr H = some (v, H')) : Dn P Z ρ w v H' (execOp a.eval ⟨dst, .makeInterface t x, ty, pos, after, guard⟩) := by
  simp only [ckOp] at hc
  split at hc
  · rename_i t' y
    simp only [Bool.and_eq_true, beq_iff_eq] at hc
    obtain ⟨⟨rfl, hi⟩, hx⟩ := hc
    simp only [exA] at he
    split at he
    · rename_i xv hxv
      simp only [vl, Option.some.injEq, Prod.mk.injEq] at he
      obtain ⟨rfl, rfl⟩ := he
      refine Dn.pure (s := Instr.makeInterface t (a.eval x)) h (u := .iface t (a.eval x)) ?_ (by simp only [R]; exact ⟨_, rfl, ckO_R hx hf hxv⟩)
      unfold ckIf at hi
      split at hi
      · cases hi
      · rename_i d hni hd
        simp only [Instr.makeInterface, Sem.run_bind, run_underlying hd, Result.andThen_ok]
        cases d <;> first | rfl | exact (hni _ rfl).elim
      · cases hi
    · cases he
  · cases hc
set_option maxHeartbeats 1000000 in
theorem os_makeFunc {fn : Fn} {xs : Array Operand} {ys : Array Operand} {call : Rec} {ms : Meth} {dst : Option Tmp} {ty : TypeId} {pos : String} {after : Array Edge} {guard : Option (Nat × Bool)} {ao : AOp} (hc : ckOp P (.makeFunc fn xs ys) ao = true) (h : HS Z ρ H w) {fr : AFr} {a : Act} (hf : RF ρ fr a) {v : AV} (he : exA call ms ao fr H = some (v, H')) : Dn P Z ρ w v H' (execOp a.eval ⟨dst, .makeFunc fn xs ys, ty, pos, after, guard⟩) := by
  simp only [ckOp] at hc
  split at hc
  · rename_i fn' xs' ys'
    simp only [Bool.and_eq_true, decide_eq_true_eq] at hc
    obtain ⟨⟨rfl, h1⟩, h2⟩ := hc
    simp only [exA] at he
    split at he
    · rename_i l1 e1
      split at he
      · rename_i l2 e2
        simp only [vl, Option.some.injEq, Prod.mk.injEq] at he
        obtain ⟨rfl, rfl⟩ := he
        refine Dn.pure (s := Instr.makeFunc fn (xs.map a.eval) (ys.map a.eval)) h (u := .func fn (xs.map a.eval) (ys.map a.eval)) rfl ?_
        simp only [R]
        exact ⟨_, _, rfl, by simpa using ckOs_R h1 hf e1, by simpa using ckOs_R h2 hf e2⟩
      · cases he
    · cases he
  · cases hc
set_option maxHeartbeats 1000000 in
theorem os_makeMap {t : TypeId} {r : Option Operand} {call : Rec} {ms : Meth} {dst : Option Tmp} {ty : TypeId} {pos : String} {after : Array Edge} {guard : Option (Nat × Bool)} {ao : AOp} (hc : ckOp P (.makeMap t r) ao = true) (h : HS Z ρ H w) {fr : AFr} {a : Act} (hf : RF ρ fr a) {v : AV} (he : exA call ms ao fr H = some (v, H')) : Dn P Z ρ w v H' (execOp a.eval ⟨dst, .makeMap t r, ty, pos, after, guard⟩) := by
  simp only [ckOp] at hc
  split at hc
  · simp only [exA, Option.some.injEq, Prod.mk.injEq] at he
    obtain ⟨rfl, rfl⟩ := he
    obtain ⟨q1, q2, q3⟩ := h.newMap
    refine Dn.val (s := Instr.makeMap t (r.map a.eval)) (u := .map (some w.heap.size)) ?_ q2 q1 q3 (by simp only [R]; exact ⟨_, _, _, by simp [bump]; exact ⟨rfl, rfl⟩, rfl⟩)
    split at hc
    · rfl
    · rename_i k n
      unfold ckMapT at hc
      split at hc
      · rename_i kt et hu
        simp only [Instr.makeMap, Option.map_some, Sem.run_bind, run_underlying hu, Result.andThen_ok]
        rfl
      · cases hc
    · cases hc
  · cases hc
set_option maxHeartbeats 1000000 in
theorem os_makeSlice {t : TypeId} {l : Operand} {c : Operand} {call : Rec} {ms : Meth} {dst : Option Tmp} {ty : TypeId} {pos : String} {after : Array Edge} {guard : Option (Nat × Bool)} {ao : AOp} (hc : ckOp P (.makeSlice t l c) ao = true) (h : HS Z ρ H w) {fr : AFr} {a : Act} (hf : RF ρ fr a) {v : AV} (he : exA call ms ao fr H = some (v, H')) : Dn P Z ρ w v H' (execOp a.eval ⟨dst, .makeSlice t l c, ty, pos, after, guard⟩) := by
  simp only [ckOp] at hc
  split at hc
  · rename_i s b zs l' c'
    simp only [Bool.and_eq_true] at hc
    simp only [exA] at he
    split at he
    · rename_i kl lv kc cv hl hcv
      split at he
      · rename_i hb
        simp only [Option.some.injEq, Prod.mk.injEq] at he
        obtain ⟨rfl, rfl⟩ := he
        obtain ⟨ρ', w', u, q1, q2, q3, q4, q5⟩ := makeSlice_sim (P := P) h hc.1.1 (ckO_R hc.1.2 hf hl) (ckO_R hc.2 hf hcv) hb
        exact Dn.val (s := Instr.makeSlice t (a.eval l) (a.eval c)) q1 q2 q3 q4 q5
      · cases he
    · cases he
  · cases hc
set_option maxHeartbeats 1000000 in
theorem os_slice {t : TypeId} {x : Operand} {lo : Option Operand} {hi : Option Operand} {mx : Option Operand} {call : Rec} {ms : Meth} {dst : Option Tmp} {ty : TypeId} {pos : String} {after : Array Edge} {guard : Option (Nat × Bool)} {ao : AOp} (hc : ckOp P (.slice t x lo hi mx) ao = true) (h : HS Z ρ H w) {fr : AFr} {a : Act} (hf : RF ρ fr a) {v : AV} (he : exA call ms ao fr H = some (v, H')) : Dn P Z ρ w v H' (execOp a.eval ⟨dst, .slice t x lo hi mx, ty, pos, after, guard⟩) := by
  simp only [ckOp] at hc
  split at hc
  · rename_i s x' lo' hi' mx'
    simp only [Bool.and_eq_true] at hc
    obtain ⟨⟨⟨⟨c1, c2⟩, c3⟩, c4⟩, c5⟩ := hc
    simp only [exA] at he
    split at he
    · rename_i ad s' len clip lv hv mv hx hlo hhi hmx
      have hX := ckO_R c2 hf hx
      have o1 := oo_of c3 hf hlo
      have o2 := oo_of c4 hf hhi
      have o3 := oo_of c5 hf hmx
      cases ad with
      | some bi =>
        obtain ⟨b, i⟩ := bi
        simp only at he
        cases hs : s'.beq s
        · rw [hs] at he; cases he
        · rw [hs] at he
          simp only [cond_true] at he
          split at he
          · rename_i u hu
            simp only [vl, Option.some.injEq, Prod.mk.injEq] at he
            obtain ⟨rfl, rfl⟩ := he
            obtain ⟨q, q1, q2⟩ := slSlice_sim (P := P) (w := w) c1 hX (fun _ => Nat.eq_of_beq_eq_true hs) o1 o2 o3 (v := u) hu
            exact Dn.pure (s := Instr.sliceAt t (a.eval x) (lo.map a.eval) (hi.map a.eval) (mx.map a.eval)) h q1 q2
          · cases he
      | none =>
        simp only at he
        split at he
        · rename_i _ _ n _ heq
          simp only [vl, Option.some.injEq, Prod.mk.injEq] at he
          obtain ⟨rfl, rfl⟩ := he
          obtain ⟨q, q1, q2⟩ := slSlice_sim (P := P) (w := w) c1 hX (fun h => (h rfl).elim) o1 o2 o3 (v := .slice none s n true) (by rw [heq])
          exact Dn.pure (s := Instr.sliceAt t (a.eval x) (lo.map a.eval) (hi.map a.eval) (mx.map a.eval)) h q1 q2
        · cases he
    · cases he
  · rename_i x' lo' hi'
    simp only [Bool.and_eq_true] at hc
    obtain ⟨⟨⟨⟨c1, c2⟩, c3⟩, c4⟩, c5⟩ := hc
    have hmx : mx = none := by simpa using c2
    subst hmx
    simp only [exA] at he
    split at he
    · rename_i l lv hv hx hlo hhi
      split at he
      · rename_i h' hh
        split at he
        · rename_i o hl
          simp only [vl, Option.some.injEq, Prod.mk.injEq] at he
          obtain ⟨rfl, rfl⟩ := he
          obtain ⟨q, q1, q2⟩ := slStr_sim (P := P) (w := w) (isStr_s c1) (ckO_R c3 hf hx) (oo_of c4 hf hlo) (oo_of c5 hf hhi) hh hl
          exact Dn.pure (s := Instr.sliceAt t (a.eval x) (lo.map a.eval) (hi.map a.eval) none) h q1 q2
        · cases he
      · cases he
    · cases he
  · rename_i n s x' lo' hi' mx'
    simp only [Bool.and_eq_true] at hc
    obtain ⟨⟨⟨⟨c1, c2⟩, c3⟩, c4⟩, c5⟩ := hc
    simp only [exA] at he
    split at he
    · rename_i b i lv hv mv hx hlo hhi hmx
      split at he
      · rename_i c k own par hH
        cases hk : (i + n * s).ble k
        · rw [hk] at he; cases he
        · rw [hk] at he
          simp only [cond_true] at he
          split at he
          · rename_i u hu
            simp only [vl, Option.some.injEq, Prod.mk.injEq] at he
            obtain ⟨rfl, rfl⟩ := he
            obtain ⟨q, q1, q2⟩ := slArr_sim (P := P) h c1 (ckO_R c2 hf hx) hH (Nat.le_of_ble_eq_true hk) (oo_of c3 hf hlo) (oo_of c4 hf hhi) (oo_of c5 hf hmx) hu
            exact Dn.pure (s := Instr.sliceAt t (a.eval x) (lo.map a.eval) (hi.map a.eval) (mx.map a.eval)) h q1 q2
          · cases he
      · cases he
    · cases he
  · cases hc
set_option maxHeartbeats 1000000 in
theorem os_fieldAddr {t : TypeId} {x : Operand} {f : Nat} {call : Rec} {ms : Meth} {dst : Option Tmp} {ty : TypeId} {pos : String} {after : Array Edge} {guard : Option (Nat × Bool)} {ao : AOp} (hc : ckOp P (.fieldAddr t x f) ao = true) (h : HS Z ρ H w) {fr : AFr} {a : Act} (hf : RF ρ fr a) {v : AV} (he : exA call ms ao fr H = some (v, H')) : Dn P Z ρ w v H' (execOp a.eval ⟨dst, .fieldAddr t x f, ty, pos, after, guard⟩) := by
  simp only [ckOp] at hc
  split at hc
  · rename_i off y
    simp only [Bool.and_eq_true] at hc
    simp only [exA] at he
    split at he
    · rename_i b i hx
      simp only [vl, Option.some.injEq, Prod.mk.injEq] at he
      obtain ⟨rfl, rfl⟩ := he
      obtain ⟨q, q1, q2⟩ := faddr_sim (P := P) (w := w) hc.1 (ckO_R hc.2 hf hx)
      exact Dn.pure (s := Instr.fieldAt t (a.eval x) f) h q1 q2
    · cases he
  · cases hc
set_option maxHeartbeats 1000000 in
theorem os_field {t : TypeId} {x : Operand} {f : Nat} {call : Rec} {ms : Meth} {dst : Option Tmp} {ty : TypeId} {pos : String} {after : Array Edge} {guard : Option (Nat × Bool)} {ao : AOp} (hc : ckOp P (.field t x f) ao = true) (h : HS Z ρ H w) {fr : AFr} {a : Act} (hf : RF ρ fr a) {v : AV} (he : exA call ms ao fr H = some (v, H')) : Dn P Z ρ w v H' (execOp a.eval ⟨dst, .field t x f, ty, pos, after, guard⟩) := by
  simp only [ckOp] at hc
  split at hc
  · rename_i off n agg y
    simp only [Bool.and_eq_true] at hc
    simp only [exA] at he
    split at he
    · rename_i l hx
      split at he
      · rename_i u hu
        simp only [vl, Option.some.injEq, Prod.mk.injEq] at he
        obtain ⟨rfl, rfl⟩ := he
        obtain ⟨q, q1, q2⟩ := field_sim (P := P) (w := w) hc.1 (ckO_R hc.2 hf hx) hu
        exact Dn.pure (s := Instr.field t (a.eval x) f) h q1 q2
      · cases he
    · cases he
  · cases hc
set_option maxHeartbeats 1000000 in
theorem os_indexAddr {t : TypeId} {x : Operand} {i : Operand} {call : Rec} {ms : Meth} {dst : Option Tmp} {ty : TypeId} {pos : String} {after : Array Edge} {guard : Option (Nat × Bool)} {ao : AOp} (hc : ckOp P (.indexAddr t x i) ao = true) (h : HS Z ρ H w) {fr : AFr} {a : Act} (hf : RF ρ fr a) {v : AV} (he : exA call ms ao fr H = some (v, H')) : Dn P Z ρ w v H' (execOp a.eval ⟨dst, .indexAddr t x i, ty, pos, after, guard⟩) := by
  simp only [ckOp] at hc
  split at hc
  · rename_i len s x' i'
    simp only [Bool.and_eq_true] at hc
    simp only [exA] at he
    split at he
    · rename_i b o k n hx hi
      split at he
      · rename_i hb
        simp only [vl, Option.some.injEq, Prod.mk.injEq] at he
        obtain ⟨rfl, rfl⟩ := he
        obtain ⟨q, q1, q2⟩ := iaddrA_sim (P := P) (w := w) hc.1.1 (ckO_R hc.1.2 hf hx) (ckO_R hc.2 hf hi) hb.1 hb.2
        exact Dn.pure (s := Instr.indexAt t (a.eval x) (a.eval i)) h q1 q2
      · cases he
    · cases he
  · rename_i s x' i'
    simp only [Bool.and_eq_true] at hc
    simp only [exA] at he
    split at he
    · rename_i b o s' len clip k n hx hi
      split at he
      · rename_i hb
        simp only [vl, Option.some.injEq, Prod.mk.injEq] at he
        obtain ⟨rfl, rfl⟩ := he
        obtain ⟨q, q1, q2⟩ := iaddrS_sim (P := P) (w := w) hc.1.1 (ckO_R hc.1.2 hf hx) (ckO_R hc.2 hf hi) hb.1 hb.2
        exact Dn.pure (s := Instr.indexAt t (a.eval x) (a.eval i)) h q1 q2
      · cases he
    · cases he
  · cases hc
set_option maxHeartbeats 1000000 in
theorem os_index {t : TypeId} {x : Operand} {i : Operand} {call : Rec} {ms : Meth} {dst : Option Tmp} {ty : TypeId} {pos : String} {after : Array Edge} {guard : Option (Nat × Bool)} {ao : AOp} (hc : ckOp P (.index t x i) ao = true) (h : HS Z ρ H w) {fr : AFr} {a : Act} (hf : RF ρ fr a) {v : AV} (he : exA call ms ao fr H = some (v, H')) : Dn P Z ρ w v H' (execOp a.eval ⟨dst, .index t x i, ty, pos, after, guard⟩) := by
  simp only [ckOp] at hc
  split at hc
  · rename_i len s agg x' i'
    simp only [Bool.and_eq_true] at hc
    simp only [exA] at he
    split at he
    · rename_i l k n hx hi
      split at he
      · rename_i hb
        split at he
        · rename_i u hu
          simp only [vl, Option.some.injEq, Prod.mk.injEq] at he
          obtain ⟨rfl, rfl⟩ := he
          obtain ⟨q, q1, q2⟩ := idxA_sim (P := P) (w := w) hc.1.1 (ckO_R hc.1.2 hf hx) (ckO_R hc.2 hf hi) hb.1 hb.2 hu
          exact Dn.pure (s := Instr.index t (a.eval x) (a.eval i)) h q1 q2
        · cases he
      · cases he
    · cases he
  · rename_i x' i'
    simp only [Bool.and_eq_true] at hc
    simp only [exA] at he
    split at he
    · rename_i l k n hx hi
      split at he
      · rename_i hb
        split at he
        · rename_i m hm
          simp only [vl, Option.some.injEq, Prod.mk.injEq] at he
          obtain ⟨rfl, rfl⟩ := he
          obtain ⟨q, q1, q2⟩ := idxS_sim (P := P) (w := w) (isStr_s hc.1.1) (ckO_R hc.1.2 hf hx) (ckO_R hc.2 hf hi) hb hm
          exact Dn.pure (s := Instr.index t (a.eval x) (a.eval i)) h q1 q2
        · cases he
      · cases he
    · cases he
  · cases hc
set_option maxHeartbeats 1000000 in
theorem os_lookup {t : TypeId} {m : Operand} {k : Operand} {ok : Bool} {call : Rec} {ms : Meth} {dst : Option Tmp} {ty : TypeId} {pos : String} {after : Array Edge} {guard : Option (Nat × Bool)} {ao : AOp} (hc : ckOp P (.lookup t m k ok) ao = true) (h : HS Z ρ H w) {fr : AFr} {a : Act} (hf : RF ρ fr a) {v : AV} (he : exA call ms ao fr H = some (v, H')) : Dn P Z ρ w v H' (execOp a.eval ⟨dst, .lookup t m k ok, ty, pos, after, guard⟩) := by
  simp only [ckOp] at hc
  split at hc
  · rename_i sh z ok' m' k'
    simp only [Bool.and_eq_true, beq_iff_eq] at hc
    obtain ⟨⟨⟨⟨rfl, c1⟩, c2⟩, c3⟩, c4⟩ := hc
    simp only [exA] at he
    split at he
    · rename_i r kv hm hk
      split at he
      · rename_i es c hes
        split at he
        · rename_i i u b hfd
          simp only [vl, Option.some.injEq, Prod.mk.injEq] at he
          obtain ⟨rfl, rfl⟩ := he
          obtain ⟨q, q1, q2⟩ := lookup_sim (P := P) h c1 c2 (ckO_R c3 hf hm) (ckO_R c4 hf hk) hes hfd ok
          exact Dn.pure (s := Instr.lookup t (a.eval m) (a.eval k) ok) h q1 q2
        · rename_i hfd
          simp only [vl, Option.some.injEq, Prod.mk.injEq] at he
          obtain ⟨rfl, rfl⟩ := he
          obtain ⟨q, q1, q2⟩ := lookup_sim (P := P) h c1 c2 (ckO_R c3 hf hm) (ckO_R c4 hf hk) hes hfd ok
          exact Dn.pure (s := Instr.lookup t (a.eval m) (a.eval k) ok) h q1 q2
        · cases he
      · cases he
    · cases he
  · cases hc
set_option maxHeartbeats 1000000 in
theorem os_mapUpdate {t : TypeId} {m : Operand} {k : Operand} {u : Operand} {call : Rec} {ms : Meth} {dst : Option Tmp} {ty : TypeId} {pos : String} {after : Array Edge} {guard : Option (Nat × Bool)} {ao : AOp} (hc : ckOp P (.mapUpdate t m k u) ao = true) (h : HS Z ρ H w) {fr : AFr} {a : Act} (hf : RF ρ fr a) {v : AV} (he : exA call ms ao fr H = some (v, H')) : Dn P Z ρ w v H' (execOp a.eval ⟨dst, .mapUpdate t m k u, ty, pos, after, guard⟩) := by
  simp only [ckOp] at hc
  split at hc
  · rename_i sh m' k' u'
    simp only [Bool.and_eq_true] at hc
    simp only [exA] at he
    split at he
    · rename_i r kv uv hm hk hu
      split at he
      · rename_i es c hH
        split at he
        · rename_i i v' b hfd
          simp only [Option.some.injEq, Prod.mk.injEq] at he
          obtain ⟨rfl, rfl⟩ := he
          obtain ⟨w', q1, q2, q3⟩ := mapUpd_sim (P := P) h hc.1.1.1 (ckO_R hc.1.1.2 hf hm) (ckO_R hc.1.2 hf hk) (ckO_R hc.2 hf hu) hH hfd
          exact Dn.unit (s := Instr.mapUpdate t (a.eval m) (a.eval k) (a.eval u)) q1 (Ext.refl _) q2 q3
        · rename_i hfd
          simp only [Option.some.injEq, Prod.mk.injEq] at he
          obtain ⟨rfl, rfl⟩ := he
          obtain ⟨w', q1, q2, q3⟩ := mapUpd_sim (P := P) h hc.1.1.1 (ckO_R hc.1.1.2 hf hm) (ckO_R hc.1.2 hf hk) (ckO_R hc.2 hf hu) hH hfd
          exact Dn.unit (s := Instr.mapUpdate t (a.eval m) (a.eval k) (a.eval u)) q1 (Ext.refl _) q2 q3
        · cases he
      · cases he
    · cases he
  · cases hc
set_option maxHeartbeats 1000000 in
theorem os_insert {t : TypeId} {m : Operand} {k : Operand} {u : Operand} {call : Rec} {ms : Meth} {dst : Option Tmp} {ty : TypeId} {pos : String} {after : Array Edge} {guard : Option (Nat × Bool)} {ao : AOp} (hc : ckOp P (.insert t m k u) ao = true) (h : HS Z ρ H w) {fr : AFr} {a : Act} (hf : RF ρ fr a) {v : AV} (he : exA call ms ao fr H = some (v, H')) : Dn P Z ρ w v H' (execOp a.eval ⟨dst, .insert t m k u, ty, pos, after, guard⟩) := by
  simp only [ckOp] at hc
  split at hc
  · rename_i sh m' k' u'
    simp only [Bool.and_eq_true] at hc
    simp only [exA] at he
    split at he
    · rename_i r kv uv hm hk hu
      split at he
      · rename_i es c hH
        split at he
        · rename_i i v' b hfd
          simp only [Option.some.injEq, Prod.mk.injEq] at he
          obtain ⟨rfl, rfl⟩ := he
          obtain ⟨w', q1, q2, q3⟩ := mapUpd_sim (P := P) h hc.1.1.1 (ckO_R hc.1.1.2 hf hm) (ckO_R hc.1.2 hf hk) (ckO_R hc.2 hf hu) hH hfd
          exact Dn.unit (s := Instr.mapUpdate t (a.eval m) (a.eval k) (a.eval u)) q1 (Ext.refl _) q2 q3
        · rename_i hfd
          simp only [Option.some.injEq, Prod.mk.injEq] at he
          obtain ⟨rfl, rfl⟩ := he
          obtain ⟨w', q1, q2, q3⟩ := mapUpd_sim (P := P) h hc.1.1.1 (ckO_R hc.1.1.2 hf hm) (ckO_R hc.1.2 hf hk) (ckO_R hc.2 hf hu) hH hfd
          exact Dn.unit (s := Instr.mapUpdate t (a.eval m) (a.eval k) (a.eval u)) q1 (Ext.refl _) q2 q3
        · cases he
      · cases he
    · cases he
  · cases hc
set_option maxHeartbeats 1000000 in
theorem os_mapEntry {t : TypeId} {m : Operand} {k : Operand} {call : Rec} {ms : Meth} {dst : Option Tmp} {ty : TypeId} {pos : String} {after : Array Edge} {guard : Option (Nat × Bool)} {ao : AOp} (hc : ckOp P (.mapEntry t m k) ao = true) (h : HS Z ρ H w) {fr : AFr} {a : Act} (hf : RF ρ fr a) {v : AV} (he : exA call ms ao fr H = some (v, H')) : Dn P Z ρ w v H' (execOp a.eval ⟨dst, .mapEntry t m k, ty, pos, after, guard⟩) := by
  simp only [ckOp] at hc
  split at hc
  · rename_i sh z m' k'
    simp only [Bool.and_eq_true] at hc
    simp only [exA] at he
    split at he
    · rename_i r kv hm hk
      split at he
      · rename_i es c hH
        split at he
        · rename_i i v' b hfd
          simp only [Option.some.injEq, Prod.mk.injEq] at he
          obtain ⟨rfl, rfl⟩ := he
          obtain ⟨w', q, q1, q2, q3, q4⟩ := mapEnt_sim (P := P) h hc.1.1.1 hc.1.1.2 (ckO_R hc.1.2 hf hm) (ckO_R hc.2 hf hk) hH hfd
          exact Dn.val (s := Instr.mapEntry t (a.eval m) (a.eval k)) q1 (Ext.refl _) q2 q3 q4
        · rename_i hfd
          simp only [Option.some.injEq, Prod.mk.injEq] at he
          obtain ⟨rfl, rfl⟩ := he
          obtain ⟨w', q, q1, q2, q3, q4⟩ := mapEnt_sim (P := P) h hc.1.1.1 hc.1.1.2 (ckO_R hc.1.2 hf hm) (ckO_R hc.2 hf hk) hH hfd
          exact Dn.val (s := Instr.mapEntry t (a.eval m) (a.eval k)) q1 (Ext.refl _) q2 q3 q4
        · cases he
      · cases he
    · cases he
  · cases hc
set_option maxHeartbeats 1000000 in
theorem os_entryStore {t : TypeId} {m : Operand} {st : Operand} {u : Operand} {call : Rec} {ms : Meth} {dst : Option Tmp} {ty : TypeId} {pos : String} {after : Array Edge} {guard : Option (Nat × Bool)} {ao : AOp} (hc : ckOp P (.entryStore t m st u) ao = true) (h : HS Z ρ H w) {fr : AFr} {a : Act} (hf : RF ρ fr a) {v : AV} (he : exA call ms ao fr H = some (v, H')) : Dn P Z ρ w v H' (execOp a.eval ⟨dst, .entryStore t m st u, ty, pos, after, guard⟩) := by
  simp only [ckOp] at hc
  split at hc
  · rename_i m' st' u'
    simp only [Bool.and_eq_true] at hc
    simp only [exA] at he
    split at he
    · rename_i r k n uv hm hst hu
      split at he
      · rename_i es c hH
        split at he
        · rename_i i hi
          split at he
          · rename_i x y b hx
            simp only [Option.some.injEq, Prod.mk.injEq] at he
            obtain ⟨rfl, rfl⟩ := he
            obtain ⟨w', q1, q2, q3⟩ := entSt_sim (P := P) (t := t) h (ckO_R hc.1.1 hf hm) (ckO_R hc.1.2 hf hst) (ckO_R hc.2 hf hu) hH hi hx
            exact Dn.unit (s := Instr.entryStore t (a.eval m) (a.eval st) (a.eval u)) q1 (Ext.refl _) q2 q3
          · cases he
        · cases he
      · cases he
    · cases he
  · cases hc
set_option maxHeartbeats 1000000 in
theorem os_extract {x : Operand} {i : Nat} {call : Rec} {ms : Meth} {dst : Option Tmp} {ty : TypeId} {pos : String} {after : Array Edge} {guard : Option (Nat × Bool)} {ao : AOp} (hc : ckOp P (.extract x i) ao = true) (h : HS Z ρ H w) {fr : AFr} {a : Act} (hf : RF ρ fr a) {v : AV} (he : exA call ms ao fr H = some (v, H')) : Dn P Z ρ w v H' (execOp a.eval ⟨dst, .extract x i, ty, pos, after, guard⟩) := by
  simp only [ckOp] at hc
  split at hc
  · rename_i i' y
    simp only [Bool.and_eq_true, beq_iff_eq] at hc
    obtain ⟨rfl, hx⟩ := hc
    simp only [exA] at he
    split at he
    · rename_i l hxv
      split at he
      · rename_i u hu
        simp only [vl, Option.some.injEq, Prod.mk.injEq] at he
        obtain ⟨rfl, rfl⟩ := he
        obtain ⟨q, q1, q2⟩ := extract_sim (P := P) (w := w) (ckO_R hx hf hxv) hu
        exact Dn.pure (s := Instr.extract (a.eval x) i) h q1 q2
      · cases he
    · cases he
  · cases hc
theorem op_sim {call : Rec} {ms : Meth} {o : Oper} {ao : AOp} (hc : ckOp P o.op ao = true) (h : HS Z ρ H w) {fr : AFr} {a : Act} (hf : RF ρ fr a) {v : AV} (he : exA call ms ao fr H = some (v, H')) : Dn P Z ρ w v H' (execOp a.eval o) := by
  obtain ⟨dst, op, type, pos, after, guard⟩ := o
  simp only at hc
  cases op with
  | move => exact os_move hc h hf he
  | assign => exact os_assign hc h hf he
  | pick => exact os_pick hc h hf he
  | alloc => exact os_alloc hc h hf he
  | box => exact os_box hc h hf he
  | build => exact os_build hc h hf he
  | buildSlice => exact os_buildSlice hc h hf he
  | load => exact os_load hc h hf he
  | store => exact os_store hc h hf he
  | nilCheck => exact os_nilCheck hc h hf he
  | binOp => exact os_binOp hc h hf he
  | unOp => exact os_unOp hc h hf he
  | convert => exact os_convert hc h hf he
  | makeInterface => exact os_makeInterface hc h hf he
  | makeFunc => exact os_makeFunc hc h hf he
  | makeMap => exact os_makeMap hc h hf he
  | makeSlice => exact os_makeSlice hc h hf he
  | slice => exact os_slice hc h hf he
  | fieldAddr => exact os_fieldAddr hc h hf he
  | field => exact os_field hc h hf he
  | indexAddr => exact os_indexAddr hc h hf he
  | index => exact os_index hc h hf he
  | lookup => exact os_lookup hc h hf he
  | mapUpdate => exact os_mapUpdate hc h hf he
  | insert => exact os_insert hc h hf he
  | mapEntry => exact os_mapEntry hc h hf he
  | entryStore => exact os_entryStore hc h hf he
  | extract => exact os_extract hc h hf he
  | call c =>
    simp only [ckOp] at hc
    split at hc
    · rename_i b hb
      exact bu_sim rfl hb hc h hf he
    · cases hc
  | _ => all_goals (simp [ckOp] at hc)
end
end Go.Proofs.YtojeldemfccilaaGreatDoor.AA
