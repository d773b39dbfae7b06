/- Law 23's stores: made of asks. -/
import Derived.Test.YtldlolpbnfgdeaaKReach
namespace Go.Proofs.Ytldlolpbnfgdeaa
open Go Go.RowKit

structure Ask where
  K : Int
  I : Int
  J : Int
  N : Int
def askV (a : Ask) : List Value := [.int .i64 a.K, .int .i64 a.I, .int .i64 a.J, .int .i64 a.N]
structure AskOk (a : Ask) : Prop where
  K : isI64 a.K
  I : isI64 a.I
  J : isI64 a.J
  N : isI64 a.N
def putP (L : List SObj) (id i : Int) (x : Nat) : List SObj := if (fldO L id i).isSome then putO L id i x else L
def stepP (L : List SObj) (a : Ask) : List SObj :=
  if a.K % 2 = 0 then L ++ [(1 + a.I % 2, List.replicate (a.J % 4).toNat 2)]
  else if L.length = 0 then L else putP L (4 + within a.I 0 (L.length - 1)) (a.J % 4) (wordP a.N L.length)
def madeP (l : List Ask) : List SObj := (l.take 60).foldl stepP []

theorem wordP_lt (k n : Int) (h1 : 1 ≤ n) (h2 : n ≤ 1073741824) : 1 ≤ wordP k n ∧ wordP k n < 4294967296 := by
  have hr := within_range k 0 (n - 1) (by omega)
  unfold wordP
  split
  · omega
  · split <;> omega
theorem putO_mem {L : List SObj} {id i : Int} {x : Nat} {o : SObj} (h : o ∈ putO L id i x) : ∃ o' ∈ L, o.1 = o'.1 ∧ o.2.length = o'.2.length ∧ ∀ f ∈ o.2, f ∈ o'.2 ∨ f = x := by
  unfold putO at h
  obtain ⟨j, hj⟩ := List.mem_iff_getElem?.1 h
  rw [List.getElem?_modify] at hj
  cases hL : L[j]? with
  | none => simp [hL] at hj
  | some q =>
    rw [hL] at hj
    simp only [Option.map_eq_map, Option.map_some, Option.some.injEq] at hj
    refine ⟨q, List.mem_of_getElem? hL, ?_⟩
    subst hj
    split
    · refine ⟨rfl, by simp, fun f hf => ?_⟩
      exact (List.mem_or_eq_of_mem_set hf)
    · exact ⟨rfl, rfl, fun f hf => .inl hf⟩
theorem Fit.put {L : List SObj} (h : Fit L) (id i : Int) {x : Nat} (hx : x < 4294967296) : Fit (putP L id i x) := by
  unfold putP
  split
  · refine ⟨by rw [putO_length]; exact h.len, fun o ho => ?_, fun o ho => ?_⟩
    · obtain ⟨o', ho', h1, h2, h3⟩ := putO_mem ho
      have := h.wd o' ho'
      exact ⟨by omega, fun f hf => (h3 f hf).elim (this.2 f) (fun e => e ▸ hx)⟩
    · obtain ⟨o', ho', h1, -, -⟩ := putO_mem ho
      rw [h1]; exact h.cls o' ho'
  · exact h
theorem Fit.step {L : List SObj} (h : Fit L) (hL : L.length ≤ 999) (a : Ask) : Fit (stepP L a) := by
  unfold stepP
  split
  · refine ⟨by simp; omega, fun o ho => ?_, fun o ho => ?_⟩
    · rcases List.mem_append.1 ho with ho | ho
      · exact h.wd o ho
      · simp at ho; subst ho
        refine ⟨by simp; omega, fun f hf => ?_⟩
        rw [List.eq_of_mem_replicate hf]; omega
    · rcases List.mem_append.1 ho with ho | ho
      · exact h.cls o ho
      · simp at ho; subst ho; simp; omega
  · split
    · exact h
    · refine h.put _ _ (wordP_lt _ _ (by omega) (by omega)).2
theorem stepP_len (L : List SObj) (a : Ask) : (stepP L a).length ≤ L.length + 1 := by
  unfold stepP putP
  split
  · simp
  · split
    · omega
    · split
      · rw [putO_length]; omega
      · omega
theorem fold_fit : ∀ (l : List Ask) (L : List SObj), Fit L → L.length + l.length ≤ 999 → Fit (l.foldl stepP L) ∧ (l.foldl stepP L).length ≤ L.length + l.length
  | [], L, h, hl => ⟨h, by simp⟩
  | a :: l, L, h, hl => by
    simp only [List.length_cons] at hl
    have hs := stepP_len L a
    have := fold_fit l (stepP L a) (h.step (by omega) a) (by omega)
    simp only [List.foldl_cons, List.length_cons]
    exact ⟨this.1, by omega⟩
theorem fit_nil : Fit [] := ⟨by simp, by simp, by simp⟩
theorem made_fit (l : List Ask) : Fit (madeP l) ∧ (madeP l).length ≤ 60 := by
  have := fold_fit (l.take 60) [] fit_nil (by simp; omega)
  simp only [List.length_nil, List.length_take] at this
  exact ⟨this.1, by unfold madeP; omega⟩

theorem flatMap_get4 (f : Ask → List Value) (hf : ∀ a, (f a).length = 4) : ∀ (l : List Ask) (k j : Nat) (a : Ask), l[k]? = some a → j < 4 → (l.flatMap f)[k * 4 + j]? = (f a)[j]?
  | [], k, j, a, h, _ => by simp at h
  | b :: l, 0, j, a, h, hj => by
    simp at h; subst h
    rw [List.flatMap_cons, List.getElem?_append_left (by rw [hf]; omega)]
    simp
  | b :: l, k + 1, j, a, h, hj => by
    rw [List.flatMap_cons, List.getElem?_append_right (by rw [hf]; omega), hf, show (k + 1) * 4 + j - 4 = k * 4 + j by omega]
    exact flatMap_get4 f hf l k j a (by simpa using h) hj
/-- One ask's cells. -/
theorem Rd.ask {w : World} {a : Option Addr} {cap : Nat} {l : List Ask} (h : Rd w 4 l.length (.slice a l.length cap) (l.flatMap askV)) {k : Nat} (hk : k < l.length) :
    ∃ b off, a = some ⟨b, off, none⟩ ∧ b < w.heap.size ∧ w.cell? ⟨b, off + k * 4, none⟩ = some (.int .i64 l[k].K) ∧ w.cell? ⟨b, off + k * 4 + 1, none⟩ = some (.int .i64 l[k].I) ∧
      w.cell? ⟨b, off + k * 4 + 2, none⟩ = some (.int .i64 l[k].J) ∧ w.cell? ⟨b, off + k * 4 + 3, none⟩ = some (.int .i64 l[k].N) := by
  obtain ⟨-, a', cap', hv, -, h2⟩ := h
  cases hv
  obtain ⟨b, off, rfl, hb, hc⟩ := h2 (by omega)
  have hg := fun j (hj : j < 4) => flatMap_get4 askV (fun _ => rfl) l k j l[k] (List.getElem?_eq_getElem hk) hj
  refine ⟨b, off, rfl, hb, ?_, ?_, ?_, ?_⟩
  · have := hc (k * 4 + 0) _ ((hg 0 (by omega)).trans rfl); simpa using this
  · have := hc (k * 4 + 1) _ ((hg 1 (by omega)).trans rfl); simpa [Nat.add_assoc] using this
  · have := hc (k * 4 + 2) _ ((hg 2 (by omega)).trans rfl); simpa [Nat.add_assoc] using this
  · have := hc (k * 4 + 3) _ ((hg 3 (by omega)).trans rfl); simpa [Nat.add_assoc] using this

theorem store_new (w : World) : Calls Try.prog 48 #[] w fun e w' => e = .returned (.pointer (some ⟨w.heap.size, 0, none⟩)) ∧ w' = w.alloc (.cells #[.slice none 0 0] 138) := by
  go_enter Try.func48, Try.ntmps48
  go_wp2
  go_ret
  exact ⟨rfl, rfl⟩

/-- Two stores side by side. -/
structure Two (w0 w : World) (p r : Nat) (L : List SObj) (F G : List Nat) : Prop where
  s : SRep w p L F
  r : RRep w r L G
  m : Mod [] w0 w
  f : ∀ b ∈ F, w0.heap.size ≤ b
  g : ∀ b ∈ G, w0.heap.size ≤ b
  d : ∀ b ∈ F, b ∉ G
theorem Two.alloc {w0 w : World} {p r : Nat} {L : List SObj} {F G : List Nat} (h : Two w0 w p r L F G) (o : Obj) : Two w0 (w.alloc o) p r L F G :=
  ⟨h.s.frame fun b hb => Below.heap_alloc _ _ _ (h.s.lt b hb), h.r.frame fun b hb => Below.heap_alloc _ _ _ (h.r.lt b hb), h.m.step _, h.f, h.g, h.d⟩
theorem Two.mod {w0 w w' : World} {p r : Nat} {L : List SObj} {F G : List Nat} (h : Two w0 w p r L F G) (hm : Mod [] w w') : Two w0 w' p r L F G :=
  ⟨h.s.mod hm (by simp), h.r.mod hm (by simp), h.m.trans hm (by simp), h.f, h.g, h.d⟩

theorem ask_cells {w : World} {O : Nat} {K I J N : Int} {t : TypeId} (h : w.heap[O]? = some (.cells #[.int .i64 K, .int .i64 I, .int .i64 J, .int .i64 N] t (0, 0))) :
    w.cell? ⟨O, 0, none⟩ = some (.int .i64 K) ∧ w.cell? ⟨O, 1, none⟩ = some (.int .i64 I) ∧ w.cell? ⟨O, 2, none⟩ = some (.int .i64 J) ∧ w.cell? ⟨O, 3, none⟩ = some (.int .i64 N) := by
  refine ⟨?_, ?_, ?_, ?_⟩ <;> (rw [cell_of_blk h]; rfl)
theorem Two.both {w0 w w1 w2 : World} {p r : Nat} {L L' : List SObj} {F G F' G' : List Nat} (h : Two w0 w p r L F G) (hs : SRep w1 p L' F') (hm1 : Mod F w w1) (hF : ∀ b ∈ F', b ∈ F ∨ w.heap.size ≤ b) (hr : RRep w2 r L' G') (hm2 : Mod G w1 w2) (hG : ∀ b ∈ G', b ∈ G ∨ w1.heap.size ≤ b) :
    Two w0 w2 p r L' F' G' := by
  have hz := h.m.size
  have hz1 := hm1.size
  refine ⟨hs.mod hm2 (fun b hb hg => (hF b hb).elim (fun h' => h.d b h' hg) (fun h' => by have := h.r.lt b hg; omega)), hr, ?_, ?_, ?_, ?_⟩
  · refine (h.m.trans hm1 (fun b hb => .inr (h.f b hb))).trans hm2 (fun b hb => .inr (h.g b hb))
  · intro b hb; exact (hF b hb).elim (h.f b) (fun h => by omega)
  · intro b hb; exact (hG b hb).elim (h.g b) (fun h => by omega)
  · intro b hb hb'
    have hlt := hs.lt b hb
    rcases hG b hb' with h1 | h1
    · rcases hF b hb with h2 | h2
      · exact h.d b h2 h1
      · have := h.r.lt b h1; omega
    · omega

set_option maxHeartbeats 2000000 in
set_option maxRecDepth 100000 in
theorem l_made (v : Value) (l : List Ask) (w : World) (hv : Rd w 4 l.length v (l.flatMap askV)) (hl : ∀ a ∈ l, AskOk a) (hlen : l.length ≤ 9223372036854775807) :
    Calls Try.prog 15 #[v] w fun e w' => ∃ p r, e = .returned (.tuple #[.pointer (some ⟨p, 0, none⟩), .pointer (some ⟨r, 0, none⟩)]) ∧ ∃ F G, Two w w' p r (madeP l) F G := by
  obtain ⟨a, cap, rfl, hcap⟩ := hv.val
  go_enter Try.func15, Try.ntmps15
  go_wp2_with (go_at_call 48; refine (store_new _).mono ?_; rintro e w' ⟨rfl, rfl⟩)
  have h0 : ∃ W0 p r F G, W0 = (w.alloc (.cells #[.slice none 0 0] 138)).alloc (.cells #[.slice none 0 0] 33) ∧ p = w.heap.size ∧ r = w.heap.size + 1 ∧ Two w W0 p r [] F G := by
    refine ⟨_, _, _, [w.heap.size], [w.heap.size + 1], rfl, rfl, rfl, ⟨?_, ?_, ((Mod.refl _ _).step _).step _, by simp, by simp, by simp⟩⟩
    · refine ⟨.slice none 0 0, [], ⟨?_, Own.nil _ _ _, rfl, by simp, by simp [ob, Value.ownBlock]⟩, by simp [irF, ob, Value.ownBlock]⟩
      exact blk_alloc (heap_alloc_new w _) _
    · refine ⟨.slice none 0 0, [], ⟨?_, Own.nil _ _ _, rfl, by simp, by simp [ob, Value.ownBlock]⟩, by simp [irF, ob, Value.ownBlock]⟩
      have := heap_alloc_new (w.alloc (.cells #[.slice none 0 0] 138)) (.cells #[.slice none 0 0] 33)
      simpa using this
  obtain ⟨W0, p, r, F0, G0, hW0, hp, hr, hT0⟩ := h0
  rw [← hW0, ← hr, ← hp]
  clear hW0 hp hr
  go_loopw [6] (fun i wr => ∃ (k : Nat) (F G : List Nat), k ≤ l.length ∧ k ≤ 60 ∧ i = .int .i64 k ∧ Hid (Two w wr p r ((l.take k).foldl stepP []) F G)) (fun i _ => 60 - (intOf i).toNat)
  case atStart => exact ⟨0, F0, G0, by omega, by omega, rfl, hT0⟩
  case round =>
    obtain ⟨k, F, G, hk, hk60, rfl, hT⟩ := hrel
    have hfit := fold_fit (l.take k) [] fit_nil (by simp; omega)
    have hlen' : ((l.take k).foldl stepP []).length ≤ 60 := by have := hfit.2; simp at this; omega
    have hfit := hfit.1
    by_cases hlt : k < l.length ∧ k < 60
    · obtain ⟨hlt, hlt60⟩ := hlt
      have hlt' : (k : Int) < l.length := by omega
      have hlt60' : (k : Int) < 60 := by omega
      have hk0 : (0 : Int) ≤ k := by omega
      obtain ⟨b, off, rfl, hb, hc0, hc1, hc2, hc3⟩ := (hv.mod0 hT.out.m).ask hlt
      have hok := hl _ (List.getElem_mem hlt)
      have hst : (l.take (k + 1)).foldl stepP [] = stepP ((l.take k).foldl stepP []) l[k] := by
        rw [List.take_succ_eq_append_getElem hlt, List.foldl_append]; rfl
      generalize (l.take k).foldl stepP [] = L at *
      generalize l[k] = x at *
      obtain ⟨K, I, J, N⟩ := x
      have hK := i64_and1 K
      have hI := i64_and1 I
      have hJ := i64_and3 J
      obtain ⟨cj, hcj⟩ := Int.eq_ofNat_of_zero_le (show 0 ≤ J % 4 by omega)
      have hcj3 : cj ≤ 3 := by omega
      have hcj0 : (0 : Int) ≤ cj := by omega
      have hcj3' : (cj : Int) ≤ 3 := by omega
      rw [hcj] at hJ
      have hkl : L.length ≤ 60 := hlen'
      by_cases hpar : K % 2 = 0
      · rw [hpar] at hK
        have hst2 : (l.take (k + 1)).foldl stepP [] = L ++ [(1 + I % 2, List.replicate cj 2)] := by
          rw [hst]; unfold stepP; simp only; rw [if_pos hpar, hcj]; simp
        have hci0 : 0 ≤ I % 2 := by omega
        have hci1 : I % 2 ≤ 1 := by omega
        generalize I % 2 = ci at *
        have HST := Lib.hid hst2
        clear hst hst2 hpar hcj hok
        have hT1 := hT.out.alloc (.cells #[.int .i64 K, .int .i64 I, .int .i64 J, .int .i64 N] 24)
        have hs1 := s_alloc (w := wr.alloc (.cells #[.int .i64 K, .int .i64 I, .int .i64 J, .int .i64 N] 24)) (1 + ci) cj hT1.s (by omega) (by omega) (by omega) (by omega)
        have hO := heap_alloc_new wr (.cells #[.int .i64 K, .int .i64 I, .int .i64 J, .int .i64 N] 24)
        have hOF : wr.heap.size ∉ F := fun h => by have := hT.out.s.lt _ h; omega
        have HT1 := Lib.hid hT1
        clear hT1
        have hrm := fun w2 (hm2 : Mod F (wr.alloc (.cells #[.int .i64 K, .int .i64 I, .int .i64 J, .int .i64 N] 24)) w2) =>
          r_alloc (w := w2) (1 + ci) cj (HT1.out.r.mod hm2 (fun b hb hf => HT1.out.d b hf hb)) (by omega) (by omega) (by omega) (by omega)
        go_wp2_with (first | (go_at_call 49; refine hs1.mono ?_; rintro e w2 ⟨F2, rfl, hs2, hm2, hF2⟩; obtain ⟨hq0, hq1, hq2, hq3⟩ := ask_cells (blk_mod hO hm2 hOF)) | (go_at_call 50; refine (hrm _ hm2).mono ?_; rintro e w3 ⟨G3, rfl, hr3, hm3, hG3⟩))
        have hR : Hid (Two w w3 p r ((l.take (k + 1)).foldl stepP []) F2 G3) := by
          show Two _ _ _ _ _ _ _
          rw [HST.out]
          exact HT1.out.both hs2 hm2 hF2 hr3 hm3 hG3
        clear hrm hs1 hs2 hm2 hF2 hr3 hm3 hG3
        go_roundw
        case rel => exact ⟨k + 1, F2, G3, by omega, by omega, by go_num, hR⟩
        case measure => simp [intOf]; omega
      · have hpar1 : K % 2 = 1 := by omega
        rw [hpar1] at hK
        have hT1 := hT.out.alloc (.cells #[.int .i64 K, .int .i64 I, .int .i64 J, .int .i64 N] 24)
        have hO := heap_alloc_new wr (.cells #[.int .i64 K, .int .i64 I, .int .i64 J, .int .i64 N] 24)
        have hOF : wr.heap.size ∉ F := fun h => by have := hT.out.s.lt _ h; omega
        obtain ⟨lv, vs, hIR, hG⟩ := hT1.r
        obtain ⟨ra, rcap, hlv, hrc⟩ := hIR.slice
        obtain ⟨hq0, hq1, hq2, hq3⟩ := ask_cells hO
        clear hIR hlv hG
        by_cases hL0 : L.length = 0
        · have hst2 : (l.take (k + 1)).foldl stepP [] = L := by
            rw [hst]; unfold stepP; simp only; rw [if_neg hpar, if_pos hL0]
          have HST := Lib.hid hst2
          have hL0' : ((L.length : Int) == 0) = true := by simp [hL0]
          have HT1 := Lib.hid hT1
          clear hst hst2 hpar hpar1 hcj hok hT1 hL0
          go_wp2
          go_roundw
          case rel =>
            refine ⟨k + 1, F, G, by omega, by omega, by go_num, ?_⟩
            show Two _ _ _ _ _ _ _
            rw [HST.out]
            exact HT1.out
          case measure => simp [intOf]; omega
        · have hL0' : ((L.length : Int) == 0) = false := by simp [hL0]
          have hL1 : (1 : Int) ≤ L.length := by omega
          have hst2 : (l.take (k + 1)).foldl stepP [] = putP L (4 + within I 0 (L.length - 1)) (J % 4) (wordP N L.length) := by
            rw [hst]; unfold stepP; simp only; rw [if_neg hpar, if_neg hL0]
          have hwr := within_range I 0 (L.length - 1) (by omega)
          have hwi := fun w => b_within I 0 (L.length - 1) hok.I.1 hok.I.2 (by omega) (by omega) (by omega) w
          have hww := fun w => l_word N L.length hok.N.1 hok.N.2 hL1 (by omega) w
          have hwl := wordP_lt N L.length hL1 (by omega)
          rw [hcj] at hst2
          generalize within I 0 (L.length - 1) = wi at *
          generalize wordP N L.length = wx at *
          obtain ⟨hwi0, hwi1⟩ := hwr
          obtain ⟨hwx0, hwx1⟩ := hwl
          have HST := Lib.hid hst2
          have HT1 := Lib.hid hT1
          clear hst hst2 hpar hpar1 hcj hok hT1 hL0
          go_wp2_with fail
          go_quiet ((first | (go_at_call 29; exact Calls.quiet_of_same ((hwi _).mono fun e w' h => ⟨h.1, h.2.symm⟩)) | (go_at_call 51; exact Calls.quiet_of_same ((hww _).mono fun e w' h => ⟨h.1, h.2.symm⟩))))
          have hT2 := HT1.out.mod (w' := (wr.alloc (.cells #[.int .i64 K, .int .i64 I, .int .i64 J, .int .i64 N] 24)).drewN nq) (Mod.of_below ⟨rfl, rfl, rfl, Nat.le_refl _, fun _ _ => rfl⟩)
          have hO2 : ((wr.alloc (.cells #[.int .i64 K, .int .i64 I, .int .i64 J, .int .i64 N] 24)).drewN nq).heap[wr.heap.size]? = some (.cells #[.int .i64 K, .int .i64 I, .int .i64 J, .int .i64 N] 24 (0, 0)) := hO
          clear hq0 hq1 hq2 hq3 hO hwi hww
          generalize (wr.alloc (.cells #[.int .i64 K, .int .i64 I, .int .i64 J, .int .i64 N] 24)).drewN nq = w2 at *
          obtain ⟨hq0, hq1, hq2, hq3⟩ := ask_cells hO2
          have hwd := fun o ho => (hfit.wd o ho).1
          cases hfl : fldO L (4 + wi) cj with
          | none =>
            have hs2 := s_put_no (w := w2) (4 + wi) cj wx hT2.s (by omega) (by omega) (by omega) hwd (.inl hfl)
            have hr2 := r_put_no (w := w2) (4 + wi) cj wx hT2.r (by omega) (by omega) (by omega) hwd (.inl hfl)
            have hst3 : (l.take (k + 1)).foldl stepP [] = L := by
              rw [HST.out]; unfold putP; simp [hfl]
            have HST3 := Lib.hid hst3
            have HT2 := Lib.hid hT2
            clear hst3 hT2 hfl HST HT1 hO2
            go_wp2_with (first | (go_at_call 52; refine hs2.mono ?_; rintro e w2 ⟨rfl, rfl⟩) | (go_at_call 53; refine hr2.mono ?_; rintro e w3 ⟨rfl, rfl⟩))
            go_roundw
            case rel =>
              refine ⟨k + 1, F, G, by omega, by omega, by go_num, ?_⟩
              show Two _ _ _ _ _ _ _
              rw [HST3.out]
              exact HT2.out
            case measure => simp [intOf]; omega
          | some y =>
            have hs2 := s_put (w := w2) (4 + wi) cj wx y hT2.s (by omega) (by omega) (by omega) hwd hfl (by omega)
            have hr2 := fun w3 (hm : Mod F w2 w3) => r_put (w := w3) (4 + wi) cj wx y (hT2.r.mod hm (fun b hb hf => hT2.d b hf hb)) (by omega) (by omega) (by omega) hwd hfl (by omega)
            have hst3 : (l.take (k + 1)).foldl stepP [] = putO L (4 + wi) cj wx := by
              rw [HST.out]; unfold putP; simp [hfl]
            have HST3 := Lib.hid hst3
            have HT2 := Lib.hid hT2
            have hOF2 : wr.heap.size ∉ F := hOF
            clear hst3 hT2 hfl HST HT1
            go_wp2_with (first | (go_at_call 52; refine hs2.mono ?_; rintro e w3 ⟨rfl, hs3, hm3⟩; obtain ⟨hp0, hp1, hp2, hp3⟩ := ask_cells (blk_mod hO2 hm3 hOF2)) | (go_at_call 53; refine (hr2 _ hm3).mono ?_; rintro e w4 ⟨rfl, hr4, hm4⟩))
            have hR : Hid (Two w w4 p r ((l.take (k + 1)).foldl stepP []) F G) := by
              show Two _ _ _ _ _ _ _
              rw [HST3.out]
              exact HT2.out.both hs3 hm3 (fun b hb => .inl hb) hr4 hm4 (fun b hb => .inl hb)
            clear hs2 hr2 hs3 hm3 hr4 hm4
            go_roundw
            case rel => exact ⟨k + 1, F, G, by omega, by omega, by go_num, hR⟩
            case measure => simp [intOf]; omega
    · have hfin : madeP l = (l.take k).foldl stepP [] := by
        unfold madeP
        congr 1
        have hk' : k = min l.length 60 := by omega
        rw [hk']
        rcases Nat.le_total l.length 60 with h | h
        · rw [Nat.min_eq_left h, List.take_of_length_le h, List.take_of_length_le (Nat.le_refl _)]
        · rw [Nat.min_eq_right h]
      have HF := Lib.hid hfin
      clear hfin hfit
      by_cases hlt1 : k < l.length
      · have hlt' : (k : Int) < l.length := by omega
        have hlt60' : ¬ (k : Int) < 60 := by omega
        go_wp2
        go_ret2
        rw [HF.out]
        exact ⟨p, r, rfl, F, G, hT.out⟩
      · have hlt' : ¬ (k : Int) < l.length := by omega
        go_wp2
        go_ret2
        rw [HF.out]
        exact ⟨p, r, rfl, F, G, hT.out⟩
end Go.Proofs.Ytldlolpbnfgdeaa
