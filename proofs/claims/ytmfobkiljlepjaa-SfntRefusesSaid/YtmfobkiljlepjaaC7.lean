/- AM: tally.Sum: a range over the iterator of slices.Chunk. -/
import Derived.Test.YtmfobkiljlepjaaD1
import Derived.Test.YtmfobkiljlepjaaK2
import Derived.Test.YtmfobkiljlepjaaC6
import Derived.Test.YtmfobkiljlepjaaM2
import Derived.Lib.Hide
set_option maxRecDepth 100000
set_option maxHeartbeats 8000000
set_option linter.unusedSimpArgs false
set_option linter.unusedVariables false
namespace Go.AM
open Go Go.RowKit Go.Proofs
attribute [local go_sem] Oper.semAt_some


theorem WOK.cells1 {w : World} {old : Nat → Prop} {b Et : Nat} {cs : List AV} {vs : List Value} (hb : w.heap[b]? = some (.cells vs.toArray Et (0, 0))) (hv : AV.VL (entryCx w old (some (.cells Et cs)) [.ptr b]) cs vs) (h1 : ∀ u ∈ vs, u.oneCell' = true) :
    WOK w [.ptr b] (entryCx w old (some (.cells Et cs)) [.ptr b]) where
  b0 := rfl
  os := rfl
  tape := rfl
  output := rfl
  size := Nat.le_refl _
  len := rfl
  frame := fun _ _ _ => rfl
  objs := fun n o h e1 e2 => by
    cases n with
    | zero => simp [entryCx] at e1 e2; subst e1; subst e2; exact ⟨vs, hb, hv, h1⟩
    | succ n => simp [entryCx] at e1
  dist := fun n m h k hnm ⟨o1, h1⟩ ⟨o2, h2⟩ => by
    have h1' : n < 1 := by have := (List.getElem?_eq_some_iff.1 h1).1; simpa [entryCx] using this
    have h2' : m < 1 := by have := (List.getElem?_eq_some_iff.1 h2).1; simpa [entryCx] using this
    omega
  new := fun n h ⟨o, e1⟩ e2 => by
    cases n with
    | zero => simp [entryCx] at e2; subst e2; intro b hb; exact .inr ⟨by simp, _, by simp, hb⟩
    | succ n => simp [entryCx] at e1
  plen := Nat.le_refl _
  parP := fun i b e => e
  parB := fun i b u e => ⟨u, e⟩
  parR := fun i v E sz fr xs e _ => e

/-! ### tally.Sum -/
theorem padB_len (l : List Int) : (padB l).length = 4 * ((padB l).length / 4) := by
  simp only [padB, List.length_append, List.length_replicate]
  omega
theorem padB_byt {l : List Int} (h : Byt l) : Byt (padB l) := h.append (Byt.replicate _ (by decide) (by decide))
theorem pad_calls (l : List Int) (hb : Byt l) (hl : l.length ≤ 1000000000000) (w : World) (old : Nat → Prop) (v : Value) (hv : DV w ((entryCx w old none []).Sh false) (.sl 1 (ints .u8 l)) v) (w1 : World) (h1 : Below w.heap.size w w1) :
    Calls Try.prog 33 #[v] w1 fun e w' => ∃ A c, e = .returned (.slice A (4 * ((padB l).length / 4)) c) ∧ Below w1.heap.size w1 w' ∧ 4 * ((padB l).length / 4) ≤ c ∧
      DV w' (fun b => w1.heap.size ≤ b ∧ b < w'.heap.size) (.sl 1 (ints .u8 (padB l))) (.slice A (4 * ((padB l).length / 4)) c) := by
  refine (s33 l hb hl w1 (fun _ => True) [] [v] (WOK.none1 _ _) ?_ trivial).mono ?_
  · unfold AV.VL
    refine ⟨v, [], rfl, ?_, by unfold AV.VL; rfl⟩
    unfold AV.VR
    refine hv.stable fun b hb => ⟨⟨Nat.lt_of_lt_of_le hb.1 h1.size, fun n h ⟨o, e⟩ => by simp [entryCx] at e, .inr ⟨rfl, trivial⟩⟩, h1.block b hb.1⟩
  · rintro e w' ⟨v', obs', hs', rfl, hw, hr, -⟩
    unfold AV.VR at hr
    have hr2 : DV w' (fun b => w1.heap.size ≤ b ∧ b < w'.heap.size) (.sl 1 (ints .u8 (padB l))) v' := hr.stable fun b hb => ⟨⟨hb.2.2.resolve_right (fun x => by cases x.1), hb.1⟩, rfl⟩
    obtain ⟨A, c, rfl, h3, _⟩ := hr2.slice
    rw [ints_length] at h3 hr2 ⊢
    rw [← padB_len]
    exact ⟨A, c, rfl, hw.below, h3, hr2⟩

/-- The k-th four bytes. -/
def chunk (l : List Int) (k : Nat) : List Int := (l.drop (4 * k)).take 4
theorem chunk_byt {l : List Int} (h : Byt l) (k : Nat) : Byt (chunk l k) := (h.drop _).take _
theorem chunk_len {l : List Int} {m k : Nat} (h : l.length = 4 * m) (hk : k < m) : (chunk l k).length = 4 := by
  simp only [chunk, List.length_take, List.length_drop]; omega
def sumC (l : List Int) (ks : List Nat) : Int := (ks.map fun k => be (chunk l k)).sum
theorem be4 {c : List Int} (h : c.length = 4) : be c = refSum 0 c := by
  match c, h with
  | [a, b, c, d], _ => simp [be, refSum, wt]; omega
theorem refSum_mod4 : ∀ (l : List Int) (i j : Nat), i % 4 = j % 4 → refSum i l = refSum j l
  | [], _, _, _ => rfl
  | b :: l, i, j, h => by
    have e : wt i = wt j := by unfold wt; rw [h]
    simp only [refSum, e, refSum_mod4 l (i + 1) (j + 1) (by omega)]
theorem refSum_zeros : ∀ (n i : Nat), refSum i (List.replicate n 0) = 0
  | 0, i => rfl
  | n + 1, i => by simp [List.replicate_succ, refSum, refSum_zeros n (i + 1)]
theorem refSum_pad (l : List Int) : refSum 0 (padB l) = refSum 0 l := by
  unfold padB
  rw [refSum_append, refSum_zeros]; omega
theorem sumC_range (l : List Int) (m : Nat) (hl : l.length = 4 * m) : ∀ k, k ≤ m → sumC l (List.range k) = refSum 0 (l.take (4 * k))
  | 0, _ => by simp [sumC, refSum]
  | k + 1, hk => by
    have ih := sumC_range l m hl k (by omega)
    have e : l.take (4 * (k + 1)) = l.take (4 * k) ++ chunk l k := by
      unfold chunk
      rw [show 4 * (k + 1) = 4 * k + 4 by omega, List.take_add]
    rw [e, refSum_append, ← ih, List.range_succ]
    simp only [sumC, List.map_append, List.map_cons, List.map_nil, List.sum_append, List.sum_cons, List.sum_nil, Int.add_zero]
    congr 1
    rw [be4 (chunk_len hl (by omega))]
    exact refSum_mod4 _ _ _ (by simp only [List.length_take, hl]; omega)
theorem chunk_dv {w : World} {B : Nat → Prop} {l : List Int} {m k b off c : Nat} (hl : l.length = 4 * m) (hk : k < m) (h : DV w B (.sl 1 (ints .u8 l)) (.slice (some ⟨b, off, none⟩) (4 * m) c)) : DV w B (.sl 1 (ints .u8 (chunk l k))) (chV b off k) := by
  obtain ⟨A, c', e, h2, h3, h4, h5⟩ := h.slice
  simp only [Value.slice.injEq] at e
  obtain ⟨rfl, _, rfl⟩ := e
  rcases h5 with h5 | ⟨b', o', fl, e, hB, hR, hc⟩
  · have h6 : (ints .u8 l).length = 0 := by rw [h5]; rfl
    rw [ints_length] at h6; omega
  · cases e
    show Dat.R _ _ _ _
    unfold Dat.R
    have hlen := chunk_len hl hk
    refine ⟨some ⟨b, off + 4 * k, none⟩, 4, by rw [ints_length, hlen]; rfl, by rw [ints_length, hlen]; exact Nat.le_refl _, by simp [maxLen], fun x hx => ?_, .inr ⟨b, off + 4 * k, (fl.drop (4 * k)).take 4, rfl, hB, ?_, fun j u hu => ?_⟩⟩
    · simp only [ints, List.mem_map] at hx
      obtain ⟨n, _, rfl⟩ := hx
      rfl
    · have := hR.part h4 (4 * k) 4 (by rw [ints_length]; omega)
      simpa [chunk, ints, List.map_take, List.map_drop] using this
    · rw [List.getElem?_take] at hu
      split at hu
      · rw [List.getElem?_drop] at hu
        have := hc (4 * k + j) u hu
        rw [← this, show off + 4 * k + j = off + (4 * k + j) by omega]
      · cases hu

/-- What lay when the loop began, but for the sum. -/
structure Iw (w3 : World) (bs : Nat) (W : World) : Prop where
  blk : ∀ k, k < w3.heap.size → k ≠ bs → W.heap[k]? = w3.heap[k]?
  size : w3.heap.size ≤ W.heap.size
  os : W.os = w3.os
  tape : W.tape = w3.tape
  out : W.output = w3.output
def Is (l : List Int) (w3 : World) (bs : Nat) {m : Nat} (pre : List (Fin m)) (W : World) : Prop := Iw w3 bs W ∧ W.heap[bs]? = some (.cells #[.int .u32 (sumC l (pre.map Fin.val) % 4294967296)] 25 (0, 0))
theorem Is.own (l : List Int) (w3 : World) (bs m : Nat) (hbs : bs < w3.heap.size) : OwnFrom w3.heap.size (Is l w3 bs (m := m)) := by
  rintro s W W' row ⟨h, hs⟩ hg hr
  have key : ∀ k, k < w3.heap.size → W'.heap[k]? = W.heap[k]? := fun k hk => hg.block k (Nat.lt_of_lt_of_le hk h.size) (fun e => by
    have := (hr k e.symm).1; omega)
  exact ⟨⟨fun k hk hne => (key k hk).trans (h.blk k hk hne), Nat.le_trans h.size hg.size, hg.os.trans h.os, hg.tape.trans h.tape, hg.output.trans h.out⟩, (key bs hbs).trans hs⟩

theorem s34 (l : List Int) (hb : Byt l) (hl : l.length ≤ 1000000000000) : Spec Try.prog 34 [.d false (.sl 1 (ints .u8 l))] none ⟨True, .d true (.v (.int .u32 (refSum 0 l % 4294967296))), none⟩ := by
  intro w old hs vals wok hvl _
  obtain rfl : hs = [] := by
    have := wok.len
    simp [entryCx] at this
    exact List.eq_nil_of_length_eq_zero this.symm
  unfold AV.VL at hvl
  obtain ⟨v, rest, rfl, hv, hr⟩ := hvl
  unfold AV.VL at hr
  subst hr
  clear wok
  unfold AV.VR at hv
  have H33 := pad_calls l hb hl w old v hv
  have hm : Hid ((padB l).length = 4 * ((padB l).length / 4)) := Lib.hid (padB_len l)
  have hm2 : Hid ((padB l).length / 4 ≤ 1000000000000) := Lib.hid (by simp only [padB, List.length_append, List.length_replicate]; omega)
  generalize (padB l).length / 4 = m at H33 hm hm2
  refine (callsIn_wide (n := 9)).1 ?_
  refine callsIn_of_wp_marks Try.func34 rfl trivial ?_
  simp only [Try.ntmps34, List.size_toArray, List.length_cons, List.length_nil, Nat.reduceAdd, Nat.reduceSub, Array.replicate_succ, Array.replicate_zero, List.push_toArray, List.append_toArray, List.nil_append, List.cons_append]
  have f33 : Fence.wide.fn 33 := trivial
  have f86 : Fence.wide.fn 86 := trivial
  gi_wp2_with (first | (gi_at_call 33; refine (callsIn_wide.2 (H33 _ ((Below.refl _ _).alloc (Nat.le_refl _) _))).mono ?_; rintro e w2 ⟨A, c, rfl, hb2, hc, hdv⟩) | (gi_at_call 86; refine (callsIn_wide.2 (chunk_calls _ _ _ _)).mono ?_; rintro e w3 ⟨rfl, rfl⟩))
  obtain ⟨b, off, hA⟩ : ∃ b off, m = 0 ∨ A = some ⟨b, off, none⟩ := by
    obtain ⟨A', c', e, _, _, _, h5⟩ := hdv.slice
    simp only [Value.slice.injEq] at e
    obtain ⟨rfl, _, rfl⟩ := e
    rcases h5 with h5 | ⟨b, o, fl, e, _⟩
    · refine ⟨0, 0, .inl ?_⟩
      have h6 : (ints .u8 (padB l)).length = 0 := by rw [h5]; rfl
      rw [ints_length, hm.out] at h6
      omega
    · exact ⟨b, o, .inr e⟩
  have hsz2 : w.heap.size + 1 ≤ w2.heap.size := by have := hb2.size; simpa using this
  have hcb1 : ((w2.alloc (.cells #[.slice A (4 * m) c] 24)).alloc (.cells #[.int .i64 4] 3)).cell? ⟨w2.heap.size, 0, none⟩ = some (.slice A (4 * m) c) := by
    have h1 : ((w2.alloc (.cells #[.slice A (4 * m) c] 24)).alloc (.cells #[.int .i64 4] 3)).heap[w2.heap.size]? = some (.cells #[.slice A (4 * m) c] 24 (0, 0)) := (Below.heap_alloc _ _ _ (by simp)).trans (World.alloc_heap_new w2 _)
    simp [World.cell?, h1]
  have hcb2 : ((w2.alloc (.cells #[.slice A (4 * m) c] 24)).alloc (.cells #[.int .i64 4] 3)).cell? ⟨w2.heap.size + 1, 0, none⟩ = some (.int .i64 4) := by
    have h1 := World.alloc_heap_new (w2.alloc (.cells #[.slice A (4 * m) c] 24)) (.cells #[.int .i64 4] 3)
    rw [World.size_alloc] at h1
    unfold World.cell?
    simp only [h1]
    rfl
  have hbs0 : ((w2.alloc (.cells #[.slice A (4 * m) c] 24)).alloc (.cells #[.int .i64 4] 3)).heap[w.heap.size]? = some (.cells #[.int .u32 0] 25 (0, 0)) := by
    rw [Below.heap_alloc _ _ _ (by simp; omega), Below.heap_alloc _ _ _ (by omega), hb2.block _ (by simp)]
    exact World.alloc_heap_new w _
  have hb3 : Below w.heap.size w ((w2.alloc (.cells #[.slice A (4 * m) c] 24)).alloc (.cells #[.int .i64 4] 3)) :=
    ((((Below.refl _ _).alloc (Nat.le_refl _) _).trans (hb2.mono (by simp))).alloc (by omega) _).alloc (by simp; omega) _
  have hdv3 : DV ((w2.alloc (.cells #[.slice A (4 * m) c] 24)).alloc (.cells #[.int .i64 4] 3)) (fun x => w.heap.size < x ∧ x < w2.heap.size) (.sl 1 (ints .u8 (padB l))) (.slice A (4 * m) c) :=
    hdv.stable fun x hx => ⟨⟨by have := hx.1; simp at this; omega, hx.2⟩, by rw [Below.heap_alloc _ _ _ (by simp; omega), Below.heap_alloc _ _ _ hx.2]⟩
  have hw3 : ((w2.alloc (.cells #[.slice A (4 * m) c] 24)).alloc (.cells #[.int .i64 4] 3)).heap.size = w2.heap.size + 2 := by simp
  clear hdv f33 f86 H33
  generalize (w2.alloc (.cells #[.slice A (4 * m) c] 24)).alloc (.cells #[.int .i64 4] 3) = w3 at hcb1 hcb2 hbs0 hb3 hdv3 hw3 ⊢
  refine wpIn_rangeFunc_ownF rfl (by decide) (gf := 123) (lb := #[.pointer (some ⟨w2.heap.size, 0, none⟩), .pointer (some ⟨w2.heap.size + 1, 0, none⟩)]) rfl trivial (enters_of Try.func123 (by kernel_rfl) rfl)
    (chunk_stops 8 (by decide) w2.heap.size (w2.heap.size + 1) A b off m c hA hc hm2.out w3 (by omega) (by omega) hcb1 hcb2) Kp2.trans ?kb (Below.refl _ _) (fun _ => rfl)
    (Is (padB l) w3 w.heap.size) (fun _ _ _ => False) (Is.own _ _ _ _ (by omega)) (fun _ _ _ _ _ hs _ _ => hs) ?h0
    (fun x => { tmps := #[v, undef, .int .u32 0, .pointer (some ⟨w.heap.size, 0, none⟩), chV b off x, v, .slice A (4 * m) c, .func (.func 123) #[] #[.pointer (some ⟨w2.heap.size, 0, none⟩), .pointer (some ⟨w2.heap.size + 1, 0, none⟩)], chV b off x, undef, undef, undef, undef, undef, undef], defers := [] }) ?assign ?body ?done ?stop
  case kb =>
    intro W l' o o' hle hl' _ _
    exact ⟨World.putObj_heap_other (by omega), World.putObj_heap_other (by omega)⟩
  case h0 =>
    exact ⟨⟨fun _ _ _ => rfl, Nat.le_refl _, rfl, rfl, rfl⟩, hbs0⟩
  case assign =>
    intro l' x W K hK
    gi_wp2
    exact hK
  case body =>
    rintro l' pre x W ⟨hI, hsum⟩ _
    have hA2 : A = some ⟨b, off, none⟩ := hA.resolve_left (by have := x.2; omega)
    subst hA2
    have hcv := chunk_dv hm.out x.2 hdv3
    have hcb := chunk_byt (padB_byt hb) (x : Nat)
    have hcl := chunk_len hm.out x.2
    have hsx : sumC (padB l) ((pre ++ [x]).map Fin.val) = sumC (padB l) (pre.map Fin.val) + be (chunk (padB l) x) := by
      simp [sumC]
    have hbeb := be_bound _ hcb
    rw [hcl] at hbeb
    generalize sumC (padB l) (pre.map Fin.val) = S at hsum hsx
    have hcvW : DV W (fun y => y < W.heap.size ∧ y ≠ w.heap.size) (.sl 1 (ints .u8 (chunk (padB l) x))) (chV b off x) := hcv.stable fun y hy => ⟨⟨by have := hI.size; omega, by omega⟩, hI.blk y (by omega) (by omega)⟩
    generalize chunk (padB l) x = ck at hcb hcl hbeb hcvW hsx
    refine wpIn_block ?_
    have hrel : Rel ⟨W, fun _ => True, [.ptr w.heap.size], 15⟩ ⟨[(3, .ptr 0 0), (4, .d false (.sl 1 (ints .u8 ck)))], [some (.cells 25 [.d true (.v (.int .u32 (S % 4294967296)))])]⟩
        { tmps := #[v, undef, .int .u32 0, .pointer (some ⟨w.heap.size, 0, none⟩), chV b off x, v, .slice (some ⟨b, off, none⟩) (4 * m) c, .func (.func 123) #[] #[.pointer (some ⟨w2.heap.size, 0, none⟩), .pointer (some ⟨w2.heap.size + 1, 0, none⟩)], chV b off x, undef, undef, undef, undef, undef, undef], defers := [] } W [.ptr w.heap.size] := by
      have hwok : WOK W [.ptr w.heap.size] (entryCx W (fun _ => True) (some (.cells 25 [.d true (.v (.int .u32 (S % 4294967296)))])) [.ptr w.heap.size]) := WOK.cells1 (vs := [.int .u32 (S % 4294967296)]) hsum (by
        unfold AV.VL
        exact ⟨_, _, rfl, vr_v rfl, by unfold AV.VL; rfl⟩) (by simp [Value.oneCell'])
      refine ⟨hwok, rfl, rfl, fun t => ?_⟩
      simp only [look]
      split
      · rename_i e; subst e
        unfold AV.VR
        exact ⟨by simp [St.cx], fun o _ => ⟨w.heap.size, .inl rfl, rfl⟩⟩
      split
      · rename_i e; subst e
        unfold AV.VR
        refine hcvW.stable fun y hy => ⟨⟨hy.1, fun n h ha hh => ?_, .inr ⟨rfl, trivial⟩⟩, rfl⟩
        have hh' : ([.ptr w.heap.size] : List Hd)[n]? = some h := hh
        cases n with
        | zero => simp at hh'; subst hh'; simp [Hd.blks]; exact hy.2
        | succ n => simp at hh'
      · unfold AV.VR; trivial
    refine wpIn_mono (round_draw (Q := fun e st => e = .normal ∧ st.obs[0]? = some (some (.cells 25 [.d true (.v (.int .u32 ((S + be ck) % 4294967296)))]))) (Gf_ok F16_ok) [] Try.mixed (by kernel_rfl) (by kernel_rfl) (fun st h => by cases h.1) (fun K hK => ?ev) hrel) ?_
    case ev =>
      have hf33 : F16 33 = e33 := rfl
      have hf87 : F16 87 = e87 := rfl
      have hf88 : F16 88 = e88 := rfl
      have hG := (Gf_ok F16_ok)
      have hfs := And.intro @hf33 (And.intro @e33.eq_1 (And.intro @hf87 (And.intro @e87.eq_1 (And.intro @hf88 @e88.eq_1))))
      have hxs := @Nat.add_zero
      repeat first | ((with_reducible refine shD ?_); refine sD ?_) | ((with_reducible refine shDG ?_); refine sDG ?_)
      refine evalD_done (by kernel_rfl) (hK _ ?_)
      refine ⟨rfl, ?_⟩
      have e1 : nxOK ck.length 0 false 4 = true := by simp [nxOK, hcl]
      have e2 : ck.take 4 = ck := List.take_of_length_le (by omega)
      simp only [e1, e2, if_true]
      show some (some (Ob.cells 25 [AV.d true (Dat.v (Value.int .u32 ((S % 4294967296 + be ck) % 4294967296)))])) = _
      have e3 : (S % 4294967296 + be ck) % 4294967296 = (S + be ck) % 4294967296 := by omega
      rw [e3]
    rintro e a' W' ⟨st, hs', hrel', rfl, hob⟩
    have hfr : ∀ y, y < W.heap.size → y ≠ w.heap.size → W'.heap[y]? = W.heap[y]? := fun y hy hne => hrel'.wok.frame y hy (by simpa [Hd.blks] using hne)
    have hbs' : W'.heap[w.heap.size]? = some (.cells #[.int .u32 ((S + be ck) % 4294967296)] 25 (0, 0)) := by
      have h1 := hrel'.wok.parP 0 w.heap.size rfl
      have h2 := hrel'.wok.objs 0 _ _ hob h1
      obtain ⟨b2, e2, vs, h3, h4, h5⟩ := OR.cells_val h2
      cases e2
      unfold AV.VL at h4
      obtain ⟨y, rest, rfl, h6, h7⟩ := h4
      unfold AV.VL at h7
      subst h7
      rw [vr_int h6] at h3
      exact h3
    have hWs := hrel'.wok.size
    show KeepsOthers W W' ∧ Kp2 _ _ W W' ∧ Is (padB l) w3 w.heap.size (pre ++ [x]) W'
    unfold Is
    rw [hsx]
    exact ⟨⟨hWs, fun k o hk ho => by
      have hlt := (Array.getElem?_eq_some_iff.1 hk).1
      by_cases hne : k = w.heap.size
      · subst hne; rw [hsum] at hk; cases hk; cases ho
      · rw [hfr k hlt hne]; exact hk⟩, ⟨hfr _ (by have := hI.size; omega) (by omega), hfr _ (by have := hI.size; omega) (by omega)⟩,
      ⟨fun k hk hne => (hfr k (by have := hI.size; omega) hne).trans (hI.blk k hk hne), Nat.le_trans hI.size hWs, hrel'.wok.os.trans hI.os, hrel'.wok.tape.trans hI.tape, hrel'.wok.output.trans hI.out⟩, hbs'⟩
  case done =>
    rintro D ys W hD hys ⟨hI, hsum⟩ hK
    have hfin : sumC (padB l) (ys.map Fin.val) = refSum 0 l := by
      rw [hys, sumC_range (padB l) m hm.out m (Nat.le_refl _), ← refSum_pad l, List.take_of_length_le (by rw [hm.out]; exact Nat.le_refl _)]
    rw [hfin] at hsum
    have hcs : W.cell? ⟨w.heap.size, 0, none⟩ = some (.int .u32 (refSum 0 l % 4294967296)) := by
      unfold World.cell?
      simp only [hsum]
      rfl
    have hfinal : Below w.heap.size w (W.putObj D (.deferred none)) :=
      ⟨hI.os.trans hb3.os, hI.tape.trans hb3.tape, hI.out.trans hb3.output, by simp; have := hI.size; omega, fun k hk => by
        rw [World.putObj_heap_other (by omega), hI.blk k (by omega) (by omega), hb3.block k hk]⟩
    have HF := Lib.hid hfinal
    clear hfinal hfin hsum hI hb3 hcb1 hcb2 hbs0 hdv3 hv
    gi_wp2
    refine ⟨by simp, .inl ⟨_, _, rfl, run_takeDeferred hK, ?_⟩⟩
    refine ⟨_, results_tmp rfl _ _ _, ?_⟩
    have hf := HF.out
    exact ⟨_, [], [], rfl, ⟨rfl, hf.os, hf.tape, hf.output, hf.size, rfl, fun k hk _ => hf.block k hk, fun n o h e => by simp at e, fun n m h k _ ⟨o, e⟩ => by simp at e, fun n h ⟨o, e⟩ => by simp at e, Nat.le_refl _, fun i b e => by simp at e, fun i b u e => by simp at e, fun i v E sz fr xs e => by simp at e⟩, vr_v rfl, fun ob e => by cases e⟩
  case stop =>
    rintro D c pre W _ _ h _
    exact h.elim
def e34 : List AV → Option Ob → Option Res := fun args i => match args, i with
  | [.d false (.sl 1 xs)], none => some ⟨IsB xs ∧ (toInts xs).length ≤ 1000000000000, .d true (.v (.int .u32 (refSum 0 (toInts xs) % 4294967296))), none⟩
  | _, _ => none
def F17 : FT := F16.upd 34 e34
theorem F17_ok : FOK Try.prog F17 := FOK.upd F16_ok Try.func34 (by kernel_rfl) rfl fun args i R h => by
  unfold e34 at h
  split at h
  · cases h
    refine Spec.pre fun h => ?_
    obtain ⟨l, rfl, hb⟩ := h.1.elim
    rw [toInts_ints] at h ⊢
    exact s34 l hb h.2
  · cases h
end Go.AM

