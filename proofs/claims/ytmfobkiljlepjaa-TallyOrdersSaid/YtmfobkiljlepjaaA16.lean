/- AM, part 16: regions that draw their order: evaluation. -/
import Derived.Test.YtmfobkiljlepjaaA15
set_option linter.unusedVariables false
set_option linter.unusedSimpArgs false
namespace Go.AM
open Go Go.RowKit

def gslot (all : List Oper) (j : Nat) : Option Nat := (all[j]?).bind (·.dst)

def backOK (all : List Oper) : Bool := all.zipIdx.all fun p => p.1.after.toList.all fun e => !Region.binds .any e || decide (e.on < p.2)
def pairsOK (b : List Nat) (L : List LE) (n : Nat) : Bool := (List.range n).all fun j => (List.range j).all fun i =>
  !((L.getD i ⟨[], [], none, [], false⟩).conf (L.getD j ⟨[], [], none, [], false⟩)) || (b.getD j 0).testBit i
def ordOK (all : List Oper) (log : List LE) : Bool := backOK all && pairsOK (befs all) log.reverse all.length

/-- What an operation writes. -/
def wrs (st : St) (u : List (Nat × Ob)) (n : List Ob) : List Nat := u.map (·.1) ++ (List.range n.length).map (fun k => st.obs.length + k)

def evalD (G : Cfg) (own : List Nat) (all : List Oper) (K : St → Prop) : List Oper → Nat → St → List LE → Prop
  | [], _, st, log => ordOK all log = true ∧ K st
  | o :: os, i, st, log => match o.guard with
    | none => match (opQ G (!own.contains i) o).evalR true st with
      | .bad => False
      | .ok p v u n rs ro fr => p ∧ Stp.wf ⟨⟨rs, ro, o.dst, wrs st u n, fr⟩, v, u, n⟩ st = true ∧ evalD G own all K os (i + 1) (st.upd o.dst v u n) (⟨rs, ro, o.dst, wrs st u n, fr⟩ :: log)
    | some (j, want) => match gslot all j, gcond all st j want with
      | some t, some c => if Oper.ef G o = true then (match c with
          | true => (match (opQ G (!own.contains i) o).evalR true st with
            | .bad => False
            | .ok p v u n rs ro fr => p ∧ Stp.wf ⟨⟨t :: rs, ro, o.dst, wrs st u n, fr⟩, v, u, n⟩ st = true ∧ evalD G own all K os (i + 1) (st.upd o.dst v u n) (⟨t :: rs, ro, o.dst, wrs st u n, fr⟩ :: log))
          | false => evalD G own all K os (i + 1) (st.put o.dst (.when false .junk)) (⟨[t], [], o.dst, [], false⟩ :: log))
        else match (opQ G true o).evalR c st with
          | .bad => False
          | .ok p v u n rs ro fr => (c = true → p) ∧ u = [] ∧ n = [] ∧ evalD G own all K os (i + 1) (st.put o.dst (.when c v)) (⟨t :: rs, ro, o.dst, [], fr⟩ :: log)
      | _, _ => False

def stepD (G : Cfg) (own : List Nat) (all : List Oper) (K : St → Prop) (os : List Oper) (i : Nat) (d : Option Nat) (ts : List Nat) (log : List LE) : OutR → St → Prop
  | .bad, _ => False
  | .ok p v u n rs ro fr, st => p ∧ Stp.wf ⟨⟨ts ++ rs, ro, d, wrs st u n, fr⟩, v, u, n⟩ st = true ∧ evalD G own all K os (i + 1) (st.upd d v u n) (⟨ts ++ rs, ro, d, wrs st u n, fr⟩ :: log)
def stepDG (G : Cfg) (own : List Nat) (all : List Oper) (K : St → Prop) (os : List Oper) (i : Nat) (d : Option Nat) (t : Nat) (c : Bool) (log : List LE) : OutR → St → Prop
  | .bad, _ => False
  | .ok p v u n rs ro fr, st => (c = true → p) ∧ u = [] ∧ n = [] ∧ evalD G own all K os (i + 1) (st.put d (.when c v)) (⟨t :: rs, ro, d, [], fr⟩ :: log)
def guardD (G : Cfg) (own : List Nat) (all : List Oper) (K : St → Prop) (os : List Oper) (i : Nat) (o : Oper) (log : List LE) (st : St) : Option Nat → Option Bool → Prop
  | some t, some c => if Oper.ef G o = true then (match c with
      | true => stepD G own all K os i o.dst [t] log ((opQ G (!own.contains i) o).evalR true st) st
      | false => evalD G own all K os (i + 1) (st.put o.dst (.when false .junk)) (⟨[t], [], o.dst, [], false⟩ :: log))
    else stepDG G own all K os i o.dst t c log ((opQ G true o).evalR c st) st
  | _, _ => False

section
variable {P : Program} {G : Cfg} {E : En} {st : St} {a : Act} {w : World} {hs : List Hd} {all : List Oper} {K : St → Prop} {own : List Nat} {i : Nat} {log : List LE}

theorem evalD_nil : evalD G own all K [] i st log = (ordOK all log = true ∧ K st) := rfl
theorem evalD_plain {d : Option Tmp} {op : Op} {ty : TypeId} {ps : String} {af : Array Edge} {os : List Oper} :
    evalD G own all K (⟨d, op, ty, ps, af, none⟩ :: os) i st log = stepD G own all K os i d [] log ((opQ G (!own.contains i) ⟨d, op, ty, ps, af, none⟩).evalR true st) st := by
  unfold evalD stepD
  dsimp only
  split <;> (rename_i h; rw [h]) <;> try rfl
theorem evalD_guard {d : Option Tmp} {op : Op} {ty : TypeId} {ps : String} {af : Array Edge} {j : Nat} {want : Bool} {os : List Oper} :
    evalD G own all K (⟨d, op, ty, ps, af, some (j, want)⟩ :: os) i st log = guardD G own all K os i ⟨d, op, ty, ps, af, some (j, want)⟩ log st (gslot all j) (gcond all st j want) := by
  unfold evalD guardD stepD stepDG
  dsimp only
  split
  · rename_i t c e1 e2
    try simp only [e1, e2]
    split
    · cases c
      · rfl
      · dsimp only
        split <;> (rename_i h; rw [h]) <;> try rfl
    · split <;> (rename_i h; rw [h])
  · first
    | rfl
    | (rename_i hn
       split
       · rename_i t c e1 e2
         exact absurd e2 (hn t c e1)
       · rfl)

theorem wanted_of (h : Rel E st a w hs) {ops : Array Oper} {o : Oper} {j : Nat} {want : Bool} {c : Bool} (hg : o.guard = some (j, want)) (e : gcond ops.toList st j want = some c)
    (hd2 : ∀ o ∈ ops.toList, ∀ t, o.dst = some t → t < E.N) : Region.wanted o (yielded ops a.tmps) = c := by
  simp only [Region.wanted, hg, yielded]
  unfold gcond at e
  have hl : ops.toList[j]? = ops[j]? := by simp
  rw [hl] at e
  split at e
  · rename_i t ht
    obtain ⟨⟨c1, b⟩, e1, rfl⟩ := Option.map_eq_some_iff.1 e
    rw [ht]
    have hv := h.env t
    have htN : t < a.tmps.size := by
      rw [h.size]
      obtain ⟨o', ho', h3⟩ := Option.bind_eq_some_iff.1 ht
      exact hd2 o' (by rw [← hl] at ho'; exact List.mem_of_getElem? ho') t h3
    have hget : a.tmps[t]? = some (a.tmps.getD t undef) := by simp [htN]
    simp only [Option.bind_some, hget]
    cases c1 with
    | true =>
      rw [boolOf_sound hv e1 rfl]
      cases want <;> cases b <;> rfl
    | false =>
      have : a.tmps.getD t undef = undef := by
        unfold boolOf at e1
        split at e1
        · cases e1
        · rename_i e5
          rw [e5] at hv
          unfold AV.VR at hv
          simp only [Option.some.injEq, Prod.mk.injEq] at e1
          exact hv.2 e1.1
        · cases e1
      rw [this]
      cases want <;> rfl
  · cases e

theorem gcond_agree {ops : List Oper} {st st' : St} {j t : Nat} {want : Bool} (ht : gslot ops j = some t) (e : look t st'.env = look t st.env) : gcond ops st' j want = gcond ops st j want := by
  unfold gcond
  unfold gslot at ht
  rw [ht]
  dsimp only
  rw [e]

theorem Rel.when {o : Oper} {v : AV} (hrel : Rel E (st.put o.dst v) a w hs) : Rel E (st.put o.dst (.when true v)) a w hs := by
  refine ⟨?_, hrel.df, hrel.size, fun t => ?_⟩
  · have := hrel.wok
    cases hdst : o.dst <;> rw [hdst] at this <;> exact this
  · have := hrel.env t
    cases hdst : o.dst with
    | none => rw [hdst] at this; exact this
    | some d =>
      rw [hdst] at this
      simp only [St.put, look] at this ⊢
      split at this
      · rename_i etd
        rw [if_pos etd]
        unfold AV.VR
        exact ⟨fun _ => this, by simp⟩
      · rename_i etd
        rw [if_neg etd]
        exact this

theorem wf_empty {L : LE} {v : AV} (st : St) (h : L.wo = []) : Stp.wf ⟨L, v, [], []⟩ st = true := by
  simp [Stp.wf, h]

/-- The text's own order, told as steps. -/
def Told (P : Program) (E : En) (ops : Array Oper) (Q : Exit → Act → World → Prop) (st0 : St) (k : Nat) (st : St) (log : List LE) : Prop :=
  ∃ (step : Nat → Stp) (S : Nat → St), S 0 = st0 ∧ S k = st ∧ log.reverse = (List.range k).map (fun i => (step i).L) ∧
    ∀ i, i < k → S (i + 1) = (step i).app ((ops[i]?).bind (·.dst)) (S i) ∧ (step i).L.ws = (ops[i]?).bind (·.dst) ∧ StepOK P E ops Q i (step i) (S i) ∧ (step i).wf (S i) = true

theorem Told.step {ops : Array Oper} {Q : Exit → Act → World → Prop} {st0 : St} {k : Nat} (h : Told P E ops Q st0 k st log) {o : Oper} (ho : ops[k]? = some o) (s : Stp) (hws : s.L.ws = o.dst) (hok : StepOK P E ops Q k s st) (hwf : s.wf st = true) :
    Told P E ops Q st0 (k + 1) (s.app o.dst st) (s.L :: log) := by
  obtain ⟨step, S, h0, h1, h2, h3⟩ := h
  refine ⟨fun i => if i = k then s else step i, fun i => if i = k + 1 then s.app o.dst st else S i, by simp [h0], by simp, ?_, fun i hi => ?_⟩
  · rw [List.reverse_cons, h2, List.range_succ, List.map_append]
    congr 1
    · refine List.map_congr_left fun i hi => ?_
      have : i ≠ k := by simp at hi; omega
      simp [this]
    · simp
  · by_cases e : i = k
    · subst e
      simp only [if_true, if_neg (show ¬ i = i + 1 by omega), ho, Option.bind_some, h1]
      exact ⟨trivial, hws, hok, hwf⟩
    · have h4 := h3 i (by omega)
      simp only [if_neg e, if_neg (show ¬ i = k + 1 by omega), if_neg (show ¬ i + 1 = k + 1 by omega)]
      exact h4

theorem stepOK_plain (hG : G.OK P) {ops : Array Oper} {Q : Exit → Act → World → Prop} (hd2 : ∀ o ∈ ops.toList, ∀ t, o.dst = some t → t < E.N) {k : Nat} {o : Oper} (ho : ops[k]? = some o) {g : Bool} {p : Prop} {v : AV} {u : List (Nat × Ob)} {n : List Ob} {rs ro ts wo : List Nat} {fr : Bool}
    (e : (opQ G g o).evalR true st = .ok p v u n rs ro fr) (hp : p) (hg : ∀ st' a w hs, Rel E st' a w hs → (∀ t ∈ ts, look t st'.env = look t st.env) → Region.wanted o (yielded ops a.tmps) = true) :
    StepOK P E ops Q k ⟨⟨ts ++ rs, ro, o.dst, wo, fr⟩, v, u, n⟩ st := by
  intro d hd hws st' a w hs hr hag K hK
  rw [ho] at hd
  simp only [Option.bind_some] at hd
  subst hd
  have hdo : ∀ t, o.dst = some t → t < E.N := hd2 o (by
    have : ops.toList[k]? = some o := by simpa using ho
    exact List.mem_of_getElem? this)
  unfold wpOp
  simp only [ho]
  rw [if_pos (hg st' a w hs hr fun t ht => hag.1 t (by simp [ht]))]
  have hruns : (opQ G g o).Runs (fun _ _ _ => False) st' v u n := evalR_runs rfl e hp ⟨fun t ht => hag.1 t (by simp [ht]), hag.2⟩
  exact .inl (opQ_sound hG hr hdo hruns K Q hK)

theorem evalD_told (hG : G.OK P) {ops : Array Oper} {Q : Exit → Act → World → Prop} {st0 : St} (hd2 : ∀ o ∈ ops.toList, ∀ t, o.dst = some t → t < E.N) :
    ∀ {os : List Oper} {k : Nat} {st : St} {log : List LE}, k ≤ ops.size → ops.toList.drop k = os → Told P E ops Q st0 k st log → evalD G own ops.toList K os k st log →
      ∃ st' log', Told P E ops Q st0 ops.size st' log' ∧ ordOK ops.toList log' = true ∧ K st'
  | [], k, st, log, hk, hdrop, ht, he => by
    unfold evalD at he
    have hk2 : ops.size ≤ k := by
      have := congrArg List.length hdrop
      simp at this
      omega
    have e : k = ops.size := by omega
    subst e
    exact ⟨st, log, ht, he.1, he.2⟩
  | o :: os, k, st, log, hk, hdrop, ht, he => by
    have hkl : k < ops.size := by
      rcases Nat.lt_or_ge k ops.size with h | h
      · exact h
      · have : ops.toList.drop k = [] := List.drop_eq_nil_of_le (by simpa using h)
        rw [this] at hdrop; cases hdrop
    have ho' : ops.toList[k]? = some o := by
      have := congrArg (fun l => l[0]?) hdrop
      simpa using this
    have ho : ops[k]? = some o := by simpa using ho'
    have hdrop' : ops.toList.drop (k + 1) = os := by
      have := congrArg (fun l => l.drop 1) hdrop
      simpa [List.drop_drop] using this
    have go : ∀ (s : Stp), s.L.ws = o.dst → StepOK P E ops Q k s st → s.wf st = true → evalD G own ops.toList K os (k + 1) (s.app o.dst st) (s.L :: log) → ∃ st' log', Told P E ops Q st0 ops.size st' log' ∧ ordOK ops.toList log' = true ∧ K st' :=
      fun s h1 h2 h3 h4 => evalD_told hG hd2 hkl hdrop' (ht.step ho s h1 h2 h3) h4
    have hput : ∀ v, (⟨⟨[], [], none, [], false⟩, v, [], []⟩ : Stp).app o.dst st = st.put o.dst v := fun v => St.upd_nil st o.dst v
    unfold evalD at he
    split at he
    · rename_i hg
      split at he
      · exact he.elim
      · rename_i p v u n rs ro fr e
        obtain ⟨hp, hwf, hrest⟩ := he
        exact go ⟨⟨[] ++ rs, ro, o.dst, wrs st u n, fr⟩, v, u, n⟩ rfl (stepOK_plain hG hd2 ho e hp fun st' a w hs _ _ => by simp [Region.wanted, hg]) hwf hrest
    · rename_i j want hg
      split at he
      · rename_i t c et ec
        have hw : ∀ st' a w hs, Rel E st' a w hs → (∀ t' ∈ [t], look t' st'.env = look t' st.env) → Region.wanted o (yielded ops a.tmps) = c := fun st' a w hs hr hl =>
          wanted_of hr hg ((gcond_agree et (hl t (by simp))).trans ec) hd2
        have hdo : ∀ t, o.dst = some t → t < E.N := hd2 o (List.mem_of_getElem? ho')
        have skip : c = false → ∀ (L : LE) (v : AV), L.ws = o.dst → t ∈ L.rs → (∀ C : Cx, v.VR C undef) → StepOK P E ops Q k ⟨L, v, [], []⟩ st := by
          intro hc L v hL hm hv d hd hws st' a w hs hr hag K' hK'
          rw [ho] at hd
          simp only [Option.bind_some] at hd
          subst hd
          unfold wpOp
          simp only [ho]
          rw [hw st' a w hs hr (fun t' ht' => by have : t' = t := by simpa using ht'
                                                 subst this; exact hag.1 t' hm), hc]
          simp only [Bool.false_eq_true, if_false]
          refine hK' _ _ hs ?_
          show Rel E (st'.upd o.dst v [] []) _ _ _
          rw [St.upd_nil]
          exact hr.put (hv _) o.dst hdo
        split at he
        · cases c with
          | true =>
            dsimp only at he
            split at he
            · exact he.elim
            · rename_i p v u n rs ro fr e
              obtain ⟨hp, hwf, hrest⟩ := he
              exact go ⟨⟨[t] ++ rs, ro, o.dst, wrs st u n, fr⟩, v, u, n⟩ rfl (stepOK_plain hG hd2 ho e hp hw) hwf hrest
          | false =>
            dsimp only at he
            refine go ⟨⟨[t], [], o.dst, [], false⟩, .when false .junk, [], []⟩ rfl (skip rfl _ _ rfl (by simp) fun C => by unfold AV.VR; exact ⟨by simp, fun _ => rfl⟩) (wf_empty st rfl) ?_
            show evalD G own ops.toList K os (k + 1) (st.upd o.dst _ [] []) _
            rw [St.upd_nil]
            exact he
        · split at he
          · exact he.elim
          · rename_i p v u n rs ro fr e
            obtain ⟨hp, rfl, rfl, hrest⟩ := he
            refine go ⟨⟨t :: rs, ro, o.dst, [], fr⟩, .when c v, [], []⟩ rfl ?_ (wf_empty st rfl) ?_
            · cases c with
              | false => exact skip rfl _ _ rfl (by simp) fun C => by unfold AV.VR; exact ⟨by simp, fun _ => rfl⟩
              | true =>
                intro d hd hws st' a w hs hr hag K' hK'
                rw [ho] at hd
                simp only [Option.bind_some] at hd
                subst hd
                unfold wpOp
                simp only [ho]
                rw [if_pos (hw st' a w hs hr (fun t' ht' => by have : t' = t := by simpa using ht'
                                                               subst this; exact hag.1 t' (by simp)))]
                have hruns : (opQ G true o).Runs (fun _ _ _ => False) st' v [] [] := evalR_runs rfl e (hp rfl) ⟨fun t ht => hag.1 t (by simp [ht]), hag.2⟩
                refine .inl (opQ_sound hG hr hdo hruns K' Q fun a' w' hs' hrel => hK' _ _ hs' ?_)
                rw [St.upd_nil] at hrel
                show Rel E (st'.upd o.dst _ [] []) _ _ _
                rw [St.upd_nil]
                exact hrel.when
            · show evalD G own ops.toList K os (k + 1) (st.upd o.dst _ [] []) _
              rw [St.upd_nil]
              exact hrest
      · exact he.elim

theorem val_ext {st st' : St} (h : ∀ x, st.val x = st'.val x) : (∀ t, look t st.env = look t st'.env) ∧ st.obs = st'.obs := by
  refine ⟨fun t => by simpa [St.val] using h (.slot t), ?_⟩
  have hl : st.obs.length = st'.obs.length := by simpa [St.val] using h .len
  refine List.ext_getElem hl fun m h1 h2 => ?_
  have := h (.obj m)
  simp only [St.val, Val.o.injEq] at this
  simpa [List.getD_eq_getElem?_getD, h1, h2] using this

theorem draw_any {Q : Exit → St → Prop} (hG : G.OK P) (own : List Nat) {ops : List Oper} (hd : dstOK E.N ops = true)
    (h : ∀ K : St → Prop, (∀ st, Q .normal st → K st) → evalD G own ops K ops 0 st []) (hr : Rel E st a w hs) :
    wpAny P .any ops.toArray (Lift E Q) ops.toArray.size (Array.replicate ops.toArray.size false) a { w with drawn := w.drawn + 1 } := by
  have hd2 : ∀ o ∈ ops.toArray.toList, ∀ t, o.dst = some t → t < E.N := by simpa using dstOK_spec hd
  obtain ⟨st', log', ⟨step, S, h0, h1, h2, h3⟩, hord, hK⟩ := evalD_told (Q := Lift E Q) (own := own) (ops := ops.toArray) (K := Q .normal) (st0 := st) hG hd2 (os := ops) (k := 0) (st := st) (log := []) (Nat.zero_le _) (by simp)
    ⟨fun _ => ⟨⟨[], [], none, [], false⟩, .junk, [], []⟩, fun _ => st, rfl, rfl, by simp, fun i hi => absurd hi (Nat.not_lt_zero _)⟩ (by simpa using h _ fun _ h => h)
  unfold ordOK at hord
  simp only [Bool.and_eq_true] at hord
  obtain ⟨hb, hp⟩ := hord
  have hsz : ops.toArray.size = ops.length := by simp
  have hlen : log'.reverse = (List.range ops.length).map (fun i => (step i).L) := by rw [← hsz]; exact h2
  refine any_sound (Q := Lift E Q) (step := step) (S := S) (fun i hi => (h3 i hi).1) (fun i hi => (h3 i hi).2.1) (fun i hi => (h3 i hi).2.2.1) (fun i hi => (h3 i hi).2.2.2) ?_ ?_ ?_ _ _ st a _ hs (by simp) ?_ ?_ ?_ ?_
  · intro i o ho e he hbd
    have ho' : ops[i]? = some o := by simpa using ho
    have hmem : (o, i) ∈ ops.zipIdx := by
      rw [List.mem_zipIdx_iff_getElem?]
      exact ho'
    have h4 := List.all_eq_true.1 hb (o, i) (by simpa using hmem)
    have h5 := List.all_eq_true.1 h4 e (by simpa using he)
    simpa [hbd] using h5
  · intro i j hij hj hc
    have hj' : j < ops.length := by simpa using hj
    have h4 := List.all_eq_true.1 hp j (by simpa using hj')
    have h5 := List.all_eq_true.1 h4 i (by simpa using hij)
    have e1 : log'.reverse.getD i ⟨[], [], none, [], false⟩ = (step i).L := by
      rw [hlen, List.getD_eq_getElem?_getD, List.getElem?_map, List.getElem?_range (by omega)]; rfl
    have e2 : log'.reverse.getD j ⟨[], [], none, [], false⟩ = (step j).L := by
      rw [hlen, List.getD_eq_getElem?_getD, List.getElem?_map, List.getElem?_range hj']; rfl
    rw [e1, e2, hc] at h5
    simpa using h5
  · intro st2 a2 w2 hs2 hr2 hx
    rw [h1] at hx
    obtain ⟨g1, g2⟩ := val_ext hx
    refine ⟨st', hs2, ⟨?_, hr2.df, hr2.size, fun t => ?_⟩, hK⟩
    · have := hr2.wok
      have e : st2.cx E w2 hs2 = st'.cx E w2 hs2 := by simp [St.cx, g2]
      rw [← e]; exact this
    · have := hr2.env t
      have e : st2.cx E w2 hs2 = st'.cx E w2 hs2 := by simp [St.cx, g2]
      rw [← e, ← g1]; exact this
  · have : ((List.replicate ops.length false).filter fun b => !b) = List.replicate ops.length false := by
      rw [List.filter_eq_self]; intro b hb; rw [(List.mem_replicate.1 hb).2]; rfl
    simp [this]
  · intro j o ho hl e he hbd
    exfalso
    have : (Array.replicate ops.toArray.size false).getD j false = false := by
      rw [Array.getD_eq_getD_getElem?, Array.getElem?_replicate]
      split <;> rfl
    have hl : (Array.replicate ops.toArray.size false).getD j false = true := hl
    rw [this] at hl
    cases hl
  · have hb2 : Below w.heap.size w { w with drawn := w.drawn + 1 } := ⟨rfl, rfl, rfl, Nat.le_refl _, fun _ _ => rfl⟩
    exact hr.le (Cx.Le.grow (C := st.cx E w hs) hb2) (hr.wok.grow hb2)
  · intro x
    have : ∀ k, seen step S (fun i => (Array.replicate ops.toArray.size false).getD i false) x k = (S 0).val x := by
      intro k
      induction k with
      | zero => rfl
      | succ k ih =>
        rw [seen, if_neg, ih]
        rintro ⟨hl, _⟩
        have : (Array.replicate ops.toArray.size false).getD k false = false := by
          rw [Array.getD_eq_getD_getElem?, Array.getElem?_replicate]
          split <;> rfl
        have hl : (Array.replicate ops.toArray.size false).getD k false = true := hl
        rw [this] at hl
        cases hl
    rw [this, h0]
end

theorem AWP.draw {P : Program} {G : Cfg} {E : En} {st : St} {Q : Exit → St → Prop} (hG : G.OK P) (own : List Nat) (hm : P.follows .mixedOrders = true) {id : Nat} {ops : List Oper} (hd : dstOK E.N ops = true)
    (h : ∀ K : St → Prop, (∀ st, Q .normal st → K st) → evalD G own ops K ops 0 st []) : AWP P E (.region id ops.toArray true) Q st := fun a w hs hr =>
  wp_region_any hm (draw_any hG own hd h hr)

end Go.AM
