/- AM, part 10: slice literals, make, append, store. -/
import Derived.Test.YtmfobkiljlepjaaA9
import Derived.Great.BuildSlice
set_option linter.unusedVariables false
set_option linter.unusedSimpArgs false
namespace Go.AM
open Go Go.RowKit
section
variable {P : Program} {S : SpecEqT} {E : En} {st : St} {a : Act} {w : World} {hs : List Hd} {o : Oper} {v : AV} {u : List (Nat × Ob)} {n : List Ob} {T : Nat → TI}

theorem grown_below {w w' : World} (h : w.grownBy w' none) : Below w.heap.size w w' := ⟨h.os, h.tape, h.output, h.size, fun k hk => h.block k hk (by simp)⟩

/-- nil as a slice of its type. -/
def normD (T : Nat → TI) (e : Nat) : Dat → Dat
  | .v (.slice none n c) => (match (T e).desc, n with
    | .slice e', 0 => .sl (T e').size []
    | _, _ => .v (.slice none n c))
  | x => x

theorem normD_sound {w : World} {B : Nat → Prop} {e : Nat} {x : Dat} {v : Value} (h : DV w B x v) (hc : ∀ n c, x = .v (.slice none n c) → c ≤ maxLen) : DV w B (normD T e x) v := by
  unfold normD
  split
  · rename_i m c
    split
    · obtain ⟨rfl, _⟩ := DV.v_iff.1 h
      show Dat.R _ _ _ _
      unfold Dat.R
      exact ⟨none, c, rfl, Nat.zero_le _, hc _ _ rfl, by simp, .inl rfl⟩
    · exact h
  · exact h

/-! ### the elements of a slice literal -/
def smallNil : Dat → Bool
  | .v (.slice none _ c) => c = 0
  | _ => true

def Q.elems (T : Nat → TI) (e : Nat) : List (Nat × Operand) → Nat → (Bool → List Dat → Q) → Q
  | [], _, k => k true []
  | (j, x) :: ps, i, k => if j = i then Q.opnd x fun a => (match a with
    | .d fr x => if smallNil x = true then Q.elems T e ps (i + 1) fun g xs => k (fr && g) (normD T e x :: xs) else .bad
    | _ => .bad) else .bad

theorem elems_sound (h : Rel E st a w hs) {e : Nat} : ∀ {ps : List (Nat × Operand)} {i : Nat} {k : Bool → List Dat → Q}, (Q.elems T e ps i k).Runs S st v u n →
    ∃ (fr : Bool) (xs : List Dat) (vs : List Value), (k fr xs).Runs S st v u n ∧ (ps.map fun p => (p.1, a.eval p.2)) = ((vs.zipIdx i).map fun x => (x.2, x.1)) ∧ xs.length = vs.length ∧
      (Dat.RL w ((st.cx E w hs).Sh fr) xs (vs.flatMap fun v => v.cells.toList)) ∧ ∀ q ∈ vs.zip xs, q.1.cells.size = q.2.wd
  | [], i, k, hr => ⟨true, [], [], hr, rfl, rfl, by unfold Dat.RL; rfl, by simp⟩
  | (j, x) :: ps, i, k, hr => by
    unfold Q.elems at hr
    split at hr
    · rename_i ej
      subst ej
      replace hr := opnd_sound h hr; obtain ⟨av, hav, hr⟩ := hr
      split at hr
      · rename_i g y
        split at hr
        · rename_i hsm
          obtain ⟨fr, xs, vs, hr, h1, h2, h3, h4⟩ := elems_sound h hr
          unfold AV.VR at hav
          have hn : DV w ((st.cx E w hs).Sh g) (normD T e y) (a.eval x) := normD_sound hav fun m c e => by subst e; simp [smallNil] at hsm; subst hsm; simp [maxLen]
          have hc := hn.cells
          refine ⟨_, _, a.eval x :: vs, hr, by simp [List.zipIdx_cons, h1], by simp [h2], ?_, ?_⟩
          · simp only [List.flatMap_cons]
            unfold Dat.RL
            exact ⟨_, _, rfl, hc.stable (fun b hb => ⟨by cases g <;> cases fr <;> first | exact hb | exact hb.any, rfl⟩), Dat.RL.weak' (C := st.cx E w hs) h3⟩
          · intro q hq
            simp only [List.zip_cons_cons, List.mem_cons] at hq
            rcases hq with rfl | hq
            · simpa using hc.len
            · exact h4 q hq
        · unfold Q.Runs at hr; exact hr.elim
      · unfold Q.Runs at hr; exact hr.elim
    · unfold Q.Runs at hr; exact hr.elim

def opBuildSlice (T : Nat → TI) (g : Bool) (t len : Nat) (parts : Array (Nat × Operand)) : Q := match (T t).desc with
  | .slice e => if (T e).desc.known = true ∧ 0 < (T e).size ∧ len = parts.size ∧ len * (T e).size ≤ 16777216 then Q.elems T e parts.toList 0 fun fr xs =>
      if xs.all (fun x => x.wd == (T e).size) = true then (if g = true then .fin (.d fr (.sl (T e).size xs)) [] [] else .fresh fun m => .fin (.own m 0) [] [.row e (T e).size 0 fr xs]) else .bad
    else .bad
  | _ => .bad

theorem run_buildSlice_any (hT : TabOK P T) {t e len : Nat} {parts : Array (Nat × Value)} (e1 : (T t).desc = .slice e) (hk : (T e).desc.known = true) (h0 : 0 < (T e).size) (hlen : len = parts.size) (hsmall : len * (T e).size ≤ 16777216)
    {vs : List Value} (hp : parts.toList = ((vs.zipIdx 0).map fun x => (x.2, x.1))) (hw : ∀ x ∈ vs, x.cells.size = (T e).size) :
    (Instr.buildSlice t len parts).run P w = .ok (.slice (some ⟨w.heap.size, 0, none⟩) len len) (w.alloc (.cells (vs.flatMap fun v => v.cells.toList).toArray e)) := by
  obtain ⟨g1, _⟩ := hT t (by rw [e1]; simp)
  rw [e1] at g1
  obtain ⟨_, ⟨info, i1, i2, i3, z, i4, i5⟩, i6⟩ := hT e (KD.known_ne hk)
  have hl : vs.length = len := by
    rw [hlen, ← Array.length_toList, hp]; simp
  by_cases hz : len = 0
  · subst hz
    have : vs = [] := List.length_eq_zero_iff.1 hl
    subst this
    have hp' : parts = #[] := by
      apply Array.toList_inj.1
      simpa using hp
    subst hp'
    have hr0 : Array.range 0 = #[] := rfl
    simp [Instr.buildSlice, run_underlying g1, sizeOf, typeInfo, i1, Instr.fill, newRow, hr0]
  · refine run_buildSlice w t e len parts _ info z g1 i1 i4 (by rw [i2]; omega) (by rw [i2]; exact Nat.ne_of_gt (Nat.mul_pos (by omega) h0)) ?_
    rw [hp, i2]
    exact Great.fill_whole h0 vs _ hw (by simp [hl])

theorem OpOK.grow (h : Rel E st a w hs) (hd : ∀ t, o.dst = some t → t < E.N) {w' : World} {val : Value} {av : AV} (hrun : (execOp a.eval o).run P w = .ok (.value val) w')
    (hb : Below w.heap.size w w') (hv : av.VR (st.cx E w' hs) val) : OpOK P E o st a w hs av [] [] := by
  intro Kp Q hK
  unfold Oper.wp
  rw [hrun, Oper.upon_value]
  have hr : Rel E ⟨st.env, st.obs⟩ a w' hs := h.le (Cx.Le.grow (C := st.cx E w hs) hb) (h.wok.grow hb)
  refine hK _ _ hs ?_
  rw [St.upd_nil]
  exact hr.put hv o.dst hd

theorem wds_of {xs : List Dat} {vs : List Value} {sz : Nat} (hl : xs.length = vs.length) (h : ∀ q ∈ vs.zip xs, q.1.cells.size = q.2.wd) (hs : ∀ x ∈ xs, x.wd = sz) : ∀ x ∈ vs, x.cells.size = sz := by
  induction vs generalizing xs with
  | nil => simp
  | cons y vs ih =>
    cases xs with
    | nil => simp at hl
    | cons x xs =>
      intro z hz
      simp only [List.zip_cons_cons, List.mem_cons, forall_eq_or_imp] at h hs
      rcases List.mem_cons.1 hz with rfl | hz
      · rw [h.1]; exact hs.1
      · exact ih (by simpa using hl) h.2 hs.2 z hz

theorem opBuildSlice_sound (hT : TabOK P T) (h : Rel E st a w hs) (hd : ∀ t, o.dst = some t → t < E.N) {g : Bool} {t len : Nat} {parts : Array (Nat × Operand)} (ho : o.op = .buildSlice t len parts) (hr : (opBuildSlice T g t len parts).Runs S st v u n) : OpOK P E o st a w hs v u n := by
  unfold opBuildSlice at hr
  split at hr
  · rename_i e e1
    split at hr
    · rename_i hc
      obtain ⟨hk, h0, hlen, hsmall⟩ := hc
      obtain ⟨fr, xs, vs, hr, h1, h2, h3, h4⟩ := elems_sound h hr
      split at hr
      · rename_i hall
        have hws : ∀ x ∈ xs, x.wd = (T e).size := by simpa using hall
        have hwv := wds_of h2 h4 hws
        have hlv : vs.length = len := by
          have := congrArg List.length h1
          simp at this
          omega
        have hrun : (execOp a.eval o).run P w = .ok (.value (.slice (some ⟨w.heap.size, 0, none⟩) len len)) (w.alloc (.cells (vs.flatMap fun v => v.cells.toList).toArray e)) := by
          have := run_buildSlice_any (P := P) (w := w) (parts := parts.map fun (i, x) => (i, a.eval x)) hT e1 hk h0 (by simpa using hlen) hsmall (vs := vs) (by simpa using h1) hwv
          simp only [execOp, ho, Sem.run_bind, this, Result.andThen_ok, Sem.run_pure]
        have hb := below_alloc1 w (.cells (vs.flatMap fun v => v.cells.toList).toArray e)
        have hfl : (vs.flatMap fun v => v.cells.toList).length = len * (T e).size := by
          have := Dat.RL.len h3 hws
          rw [this, h2, hlv]
        have hlm : len ≤ maxLen := by
          have := Nat.le_mul_of_pos_right len h0
          simp only [maxLen]; omega
        split at hr
        · unfold Q.Runs at hr
          obtain ⟨rfl, rfl, rfl⟩ := hr
          refine OpOK.grow h hd hrun hb ?_
          have le := Cx.Le.grow (C := st.cx E w hs) hb
          unfold AV.VR
          show Dat.R _ _ _ _
          unfold Dat.R
          refine ⟨_, len, by rw [h2, hlv], by omega, hlm, hws, .inr ⟨w.heap.size, 0, _, rfl, ?_, Dat.RL.stable (le.sh fr) _ _ h3, fun j q hq => ?_⟩⟩
          · refine ⟨by simp [St.cx], fun m k ⟨ob, hob⟩ hkk hbk => ?_, .inl h.wok.size⟩
            have := (h.wok.objs m ob k hob hkk).lt _ hbk
            exact absurd this (Nat.lt_irrefl _)
          · simpa [St.cx] using hq
        · unfold Q.Runs at hr
          unfold Q.Runs at hr
          obtain ⟨rfl, rfl, rfl⟩ := hr
          have le := Cx.Le.add (C := st.cx E w hs) (o := .row e (T e).size 0 fr xs) (h := .row (.slice (some ⟨w.heap.size, 0, none⟩) len len)) h.wok.len hb (by simp [Hd.blks, Value.ownBlock, St.cx])
          refine OpOK.add h hd hrun hb (k := .row (.slice (some ⟨w.heap.size, 0, none⟩) len len)) (by simp [Hd.blks, Value.ownBlock]) ?_ ?_
          · refine ⟨h0, hws, _, Dat.RL.stable (le.sh fr) _ _ h3, ?_⟩
            rw [h2, hlv]
            refine ⟨by rw [hfl], .inr ⟨w.heap.size, len, _, rfl, Nat.zero_le _, heap_alloc_new w _, Nat.le_refl _, hlm, by simpa using hfl, ?_⟩⟩
            exact List.take_of_length_le (by rw [← hfl]; simp)
          · unfold AV.VR
            refine ⟨by simp [Cx.add, St.cx], fun E' sz' γ0 fr' xs' he => ⟨Nat.zero_le _, fun _ => ?_⟩⟩
            have : st.obs.length = hs.length := h.wok.len
            simp [Cx.add, St.cx, this]
      · unfold Q.Runs at hr; exact hr.elim
    · unfold Q.Runs at hr; exact hr.elim
  · unfold Q.Runs at hr; exact hr.elim

/-! ### make([]T, n), T of one cell -/
def opMakeSlice (T : Nat → TI) (g : Bool) (t : Nat) (x y : Operand) : Q := match (T t).desc with
  | .slice e => (match (T e).zero with
    | [z] => if (T e).desc.known = true ∧ (T e).desc.agg = false ∧ (T e).size = 1 then Q.opnd x fun a => Q.opnd y fun b => (match intOf? a, intOf? b with
      | some m, some m' => .side (m = m' ∧ 0 ≤ m ∧ m * ((T e).bytes : Int) ≤ 281474976710656 ∧ m ≤ 9223372036854775807)
        (if g = true then .fin (.d true (.sl 1 (List.replicate m.toNat (.v z)))) [] [] else .fresh fun k => .fin (.own k 0) [] [.row e 1 0 true (List.replicate m.toNat (.v z))])
      | _, _ => .bad) else .bad
    | _ => .bad)
  | _ => .bad

theorem madeCells_one (z : Value) (m : Nat) : (madeCells #[z] m).toList = List.replicate m z := by
  apply List.ext_getElem
  · simp [madeCells]
  · intro i h1 h2
    simp [madeCells, Nat.mod_one]

theorem RL_replicate {w : World} {B : Nat → Prop} {z : Value} (h : z.oneCell' = true) : ∀ m, Dat.RL w B (List.replicate m (.v z)) (List.replicate m z)
  | 0 => by unfold Dat.RL; rfl
  | m + 1 => by
    simp only [List.replicate_succ]
    unfold Dat.RL
    exact ⟨[z], _, rfl, by unfold Dat.R; exact ⟨rfl, h⟩, RL_replicate h m⟩

theorem opMakeSlice_sound (hT : TabOK P T) (h : Rel E st a w hs) (hd : ∀ t, o.dst = some t → t < E.N) {g : Bool} {t : Nat} {x y : Operand} (ho : o.op = .makeSlice t x y) (hr : (opMakeSlice T g t x y).Runs S st v u n) : OpOK P E o st a w hs v u n := by
  unfold opMakeSlice at hr
  split at hr
  · rename_i e e1
    split at hr
    · rename_i z ez
      split at hr
      · rename_i hc
        obtain ⟨hk, hag, hsz⟩ := hc
        replace hr := opnd_sound h hr; obtain ⟨av, hav, hr⟩ := hr
        replace hr := opnd_sound h hr; obtain ⟨bv, hbv, hr⟩ := hr
        split at hr
        · rename_i m m' em em'
          unfold Q.Runs at hr
          obtain ⟨⟨rfl, h0, hbytes, h63⟩, hr⟩ := hr
          obtain ⟨g1, _⟩ := hT t (by rw [e1]; simp)
          rw [e1] at g1
          obtain ⟨_, ⟨info, i1, i2, i3, z0, i4, i5⟩, i6⟩ := hT e (KD.known_ne hk)
          have hz1 : z.oneCell' = true := i6 z (by rw [ez]; simp)
          obtain ⟨k1, q1⟩ := intOf_sound hav em
          obtain ⟨k2, q2⟩ := intOf_sound hbv em'
          obtain ⟨j, rfl⟩ := Int.eq_ofNat_of_zero_le h0
          have hz0 : z0.cells = #[z] := by
            apply Array.toList_inj.1
            rw [i5, ez]
          have hrun : (execOp a.eval o).run P w = .ok (.value (.slice (some ⟨w.heap.size, 0, none⟩) j j)) (w.alloc (.cells (madeCells #[z] j) e)) := by
            have hz2 : z0 = z ∨ z0 = .agg #[z] ∨ True := .inr (.inr trivial)
            have key : (Instr.makeSlice t (.int k1 (j : Int)) (.int k2 (j : Int))).run P w = .ok (.slice (some ⟨w.heap.size, 0, none⟩) j j) (w.alloc (.cells (madeCells #[z] j) e)) := by
              have hw1 : IntKind.i64.wrap (j : Int) = j := IntWalk.i64_in _ (by omega)
              have hnb : ¬ ((info.bytes : Int) * j > 281474976710656) := by rw [i3]; rw [Int.mul_comm] at hbytes; omega
              have hnn : ¬ ((j : Int) < 0) := by omega
              by_cases hj : j = 0
              · subst hj
                have hw0 : IntKind.i64.wrap 0 = 0 := IntWalk.i64_in _ (by omega)
                simp [hw0, Instr.makeSlice, run_underlying g1, asInt, asIntOf, typeInfo, i1, hw1, sizeOf, newRow, madeCells, show Array.range 0 = #[] from rfl]
              · simp [Instr.makeSlice, run_underlying g1, asInt, asIntOf, typeInfo, i1, hw1, sizeOf, newRow, madeCells, hnb, hnn, i2, hsz, hj, zeroValue, i4, hz0]
            simp only [execOp, ho, q1, q2, Sem.run_bind, key, Result.andThen_ok, Sem.run_pure]
          have hb := below_alloc1 w (.cells (madeCells #[z] j) e)
          have hl := madeCells_one z j
          split at hr
          · unfold Q.Runs at hr
            obtain ⟨rfl, rfl, rfl⟩ := hr
            refine OpOK.grow h hd hrun hb ?_
            unfold AV.VR
            show Dat.R _ _ _ _
            unfold Dat.R
            refine ⟨_, j, by simp, by simp, by simp only [maxLen]; omega, fun q hq => by rw [List.eq_of_mem_replicate hq]; rfl, .inr ⟨w.heap.size, 0, List.replicate j z, rfl, ?_, by simpa using RL_replicate hz1 j, fun i q hq => ?_⟩⟩
            · refine ⟨by simp [St.cx], fun m k ⟨ob, hob⟩ hkk hbk => ?_, .inl h.wok.size⟩
              have := (h.wok.objs m ob k hob hkk).lt _ hbk
              exact absurd this (Nat.lt_irrefl _)
            · rw [← hl] at hq
              simpa [St.cx] using hq
          · unfold Q.Runs at hr
            unfold Q.Runs at hr
            obtain ⟨rfl, rfl, rfl⟩ := hr
            refine OpOK.add h hd hrun hb (k := .row (.slice (some ⟨w.heap.size, 0, none⟩) j j)) (by simp [Hd.blks, Value.ownBlock]) ?_ ?_
            · refine ⟨by omega, fun q hq => by rw [List.eq_of_mem_replicate hq]; rfl, List.replicate j z, by simpa using RL_replicate hz1 j, ?_⟩
              simp only [List.length_replicate, Int.toNat_natCast, Int.ofNat_eq_natCast]
              refine ⟨by simp, .inr ⟨w.heap.size, j, _, rfl, Nat.zero_le _, heap_alloc_new w _, Nat.le_refl _, by simp only [maxLen]; omega, by simp [size_madeCells], ?_⟩⟩
              rw [hl]; simp
            · unfold AV.VR
              refine ⟨by simp [Cx.add, St.cx], fun E' sz' γ0 fr' xs' he => ⟨Nat.zero_le _, fun _ => ?_⟩⟩
              have : st.obs.length = hs.length := h.wok.len
              simp [Cx.add, St.cx, this]
        · unfold Q.Runs at hr; exact hr.elim
      · unfold Q.Runs at hr; exact hr.elim
    · unfold Q.Runs at hr; exact hr.elim
  · unfold Q.Runs at hr; exact hr.elim

end
end Go.AM
