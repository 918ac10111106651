/- AM, part 15: regions that draw their order. -/
import Derived.Test.YtmfobkiljlepjaaA14
import Derived.Orders
set_option linter.unusedVariables false
set_option linter.unusedSimpArgs false
namespace Go.AM
open Go Go.RowKit

inductive Loc where
  | slot (t : Nat)
  | obj (m : Nat)
  | len

inductive Val where
  | a (v : AV)
  | o (x : Option Ob)
  | n (k : Nat)

def St.val (st : St) : Loc → Val
  | .slot t => .a (look t st.env)
  | .obj m => .o (st.obs.getD m none)
  | .len => .n st.obs.length

structure LE where
  rs : List Nat
  ro : List Nat
  ws : Option Nat
  wo : List Nat
  fr : Bool

def LE.R (e : LE) : Loc → Bool
  | .slot t => e.rs.contains t
  | .obj m => e.ro.contains m
  | .len => e.fr
def LE.W (e : LE) : Loc → Bool
  | .slot t => e.ws == some t
  | .obj m => e.wo.contains m
  | .len => e.fr

def LE.conf (a b : LE) : Bool :=
  (match a.ws with | some t => b.rs.contains t || b.ws == some t | none => false) || (match b.ws with | some t => a.rs.contains t | none => false)
  || a.wo.any (fun m => b.ro.contains m || b.wo.contains m) || b.wo.any (fun m => a.ro.contains m) || (a.fr && b.fr)

theorem LE.conf_spec {a b : LE} (h : a.conf b = false) (x : Loc) : (a.W x = true → b.R x = false ∧ b.W x = false) ∧ (a.R x = true → b.W x = false) := by
  unfold LE.conf at h
  simp only [Bool.or_eq_false_iff] at h
  obtain ⟨⟨⟨⟨h1, h2⟩, h3⟩, h4⟩, h5⟩ := h
  cases x with
  | slot t =>
    constructor
    · intro hw
      have hw : a.ws = some t := by simpa [LE.W] using hw
      rw [hw] at h1
      simp only [Bool.or_eq_false_iff] at h1
      exact ⟨h1.1, h1.2⟩
    · intro hr
      have hr : a.rs.contains t = true := hr
      show (b.ws == some t) = false
      cases hb : b.ws with
      | none => rfl
      | some q =>
        rw [hb] at h2
        dsimp only at h2
        by_cases e : q = t
        · subst e; rw [hr] at h2; cases h2
        · simpa using e
  | obj m =>
    constructor
    · intro hw
      have hw : m ∈ a.wo := by simpa [LE.W] using hw
      have := List.any_eq_false.1 h3 m hw
      simp only [Bool.or_eq_true, not_or, Bool.not_eq_true] at this
      exact this
    · intro hr
      have hr : a.ro.contains m = true := hr
      cases hb : b.wo.contains m with
      | false => exact hb
      | true =>
        have := List.any_eq_false.1 h4 m (by simpa using hb)
        rw [hr] at this
        exact absurd rfl this
  | len =>
    constructor
    · intro hw
      have hw : a.fr = true := hw
      rw [hw] at h5
      simp only [Bool.true_and] at h5
      exact ⟨h5, h5⟩
    · intro hr
      have hr : a.fr = true := hr
      rw [hr] at h5
      show b.fr = false
      simpa using h5

/-! ### evaluation that tells what it reads -/
inductive OutR where
  | bad
  | ok (p : Prop) (v : AV) (u : List (Nat × Ob)) (n : List Ob) (rs ro : List Nat) (fr : Bool)

def OutR.and (q : Prop) : OutR → OutR
  | .bad => .bad
  | .ok p v u n rs ro fr => .ok (q ∧ p) v u n rs ro fr
def OutR.rd (t : Nat) : OutR → OutR
  | .bad => .bad
  | .ok p v u n rs ro fr => .ok p v u n (t :: rs) ro fr
def OutR.ob (m : Nat) : OutR → OutR
  | .bad => .bad
  | .ok p v u n rs ro fr => .ok p v u n rs (m :: ro) fr
def OutR.new : OutR → OutR
  | .bad => .bad
  | .ok p v u n rs ro fr => .ok p v u n rs ro true

def Q.evalR (c : Bool) : Q → St → OutR
  | .slot t k, st => (match look t st.env with
    | .when c' a => ((k a).evalR c st).and (c = true → c' = true)
    | a => (k a).evalR c st).rd t
  | .slotW t k, st => ((k (look t st.env)).evalR c st).rd t
  | .obj m k, st => (match st.obs.getD m none with
    | some o => (k o).evalR c st
    | none => .bad).ob m
  | .fresh k, st => ((k st.obs.length).evalR c st).new
  | .side p k, st => (k.evalR c st).and p
  | .call _ _ _, _ => .bad
  | .fin v u n, _ => .ok True v u n [] [] false
  | .bad, _ => .bad

def Agree (st st' : St) (rs ro : List Nat) (fr : Bool) : Prop :=
  (∀ t ∈ rs, look t st'.env = look t st.env) ∧ (∀ m ∈ ro, st'.obs.getD m none = st.obs.getD m none) ∧ (fr = true → st'.obs.length = st.obs.length)

theorem OutR.and_ok {q : Prop} {r : OutR} {p v u n rs ro fr} (h : r.and q = .ok p v u n rs ro fr) : ∃ p', r = .ok p' v u n rs ro fr ∧ (p → q ∧ p') := by
  cases r with
  | bad => simp [OutR.and] at h
  | ok =>
    simp only [OutR.and, OutR.ok.injEq] at h
    obtain ⟨rfl, rfl, rfl, rfl, rfl, rfl, rfl⟩ := h
    exact ⟨_, rfl, fun x => x⟩
theorem OutR.rd_ok {t : Nat} {r : OutR} {p v u n rs ro fr} (h : r.rd t = .ok p v u n rs ro fr) : ∃ rs', r = .ok p v u n rs' ro fr ∧ rs = t :: rs' := by
  cases r with
  | bad => simp [OutR.rd] at h
  | ok =>
    simp only [OutR.rd, OutR.ok.injEq] at h
    obtain ⟨rfl, rfl, rfl, rfl, rfl, rfl, rfl⟩ := h
    exact ⟨_, rfl, rfl⟩
theorem OutR.ob_ok {t : Nat} {r : OutR} {p v u n rs ro fr} (h : r.ob t = .ok p v u n rs ro fr) : ∃ ro', r = .ok p v u n rs ro' fr ∧ ro = t :: ro' := by
  cases r with
  | bad => simp [OutR.ob] at h
  | ok =>
    simp only [OutR.ob, OutR.ok.injEq] at h
    obtain ⟨rfl, rfl, rfl, rfl, rfl, rfl, rfl⟩ := h
    exact ⟨_, rfl, rfl⟩
theorem OutR.new_ok {r : OutR} {p v u n rs ro fr} (h : r.new = .ok p v u n rs ro fr) : ∃ fr', r = .ok p v u n rs ro fr' ∧ fr = true := by
  cases r with
  | bad => simp [OutR.new] at h
  | ok =>
    simp only [OutR.new, OutR.ok.injEq] at h
    obtain ⟨rfl, rfl, rfl, rfl, rfl, rfl, rfl⟩ := h
    exact ⟨_, rfl, rfl⟩

theorem evalR_runs {S : SpecEqT} {c : Bool} (hc : c = true) {st st' : St} : ∀ {q : Q} {p : Prop} {v : AV} {u : List (Nat × Ob)} {n : List Ob} {rs ro : List Nat} {fr : Bool}, q.evalR c st = .ok p v u n rs ro fr → p → Agree st st' rs ro fr → q.Runs S st' v u n
  | .slot t k, p, v, u, n, rs, ro, fr, h, hp, hag => by
    unfold Q.evalR at h
    obtain ⟨rs', h0, e0⟩ := OutR.rd_ok h
    subst e0
    clear h
    have h := h0
    clear h0
    have hag' : Agree st st' rs' ro fr := ⟨fun x hx => hag.1 x (by simp [hx]), hag.2⟩
    have et := hag.1 t (by simp)
    split at h
    · rename_i c' a e
      obtain ⟨p', h1, h2⟩ := OutR.and_ok h
      unfold Q.Runs
      exact ⟨a, .inr ⟨c', et.trans e, (h2 hp).1 hc⟩, evalR_runs hc h1 (h2 hp).2 hag'⟩
    · unfold Q.Runs
      exact ⟨_, .inl et, evalR_runs hc h hp hag'⟩
  | .slotW t k, p, v, u, n, rs, ro, fr, h, hp, hag => by
    unfold Q.evalR at h
    obtain ⟨rs', h0, e0⟩ := OutR.rd_ok h
    subst e0
    clear h
    have h := h0
    clear h0
    have hag' : Agree st st' rs' ro fr := ⟨fun x hx => hag.1 x (by simp [hx]), hag.2⟩
    unfold Q.Runs
    rw [hag.1 t (by simp)]
    exact evalR_runs hc h hp hag'
  | .obj m k, p, v, u, n, rs, ro, fr, h, hp, hag => by
    unfold Q.evalR at h
    obtain ⟨ro', h0, e0⟩ := OutR.ob_ok h
    subst e0
    clear h
    have h := h0
    clear h0
    have hag' : Agree st st' rs ro' fr := ⟨hag.1, fun x hx => hag.2.1 x (by simp [hx]), hag.2.2⟩
    have em := hag.2.1 m (by simp)
    split at h
    · rename_i o e
      unfold Q.Runs
      refine ⟨o, ?_, evalR_runs hc h hp hag'⟩
      rw [e, List.getD_eq_getElem?_getD] at em
      cases hq : st'.obs[m]? with
      | none => simp [hq] at em
      | some x => simp [hq] at em; rw [em]
    · cases h
  | .fresh k, p, v, u, n, rs, ro, fr, h, hp, hag => by
    unfold Q.evalR at h
    obtain ⟨fr', h0, e0⟩ := OutR.new_ok h
    subst e0
    clear h
    have h := h0
    clear h0
    unfold Q.Runs
    rw [hag.2.2 rfl]
    exact evalR_runs hc h hp ⟨hag.1, hag.2.1, fun _ => hag.2.2 rfl⟩
  | .side q k, p, v, u, n, rs, ro, fr, h, hp, hag => by
    unfold Q.evalR at h
    obtain ⟨p', h1, h2⟩ := OutR.and_ok h
    unfold Q.Runs
    exact ⟨(h2 hp).1, evalR_runs hc h1 (h2 hp).2 hag⟩
  | .call _ _ _, p, v, u, n, rs, ro, fr, h, hp, hag => by unfold Q.evalR at h; cases h
  | .fin v' u' n', p, v, u, n, rs, ro, fr, h, hp, hag => by
    unfold Q.evalR at h
    simp only [OutR.ok.injEq] at h
    obtain ⟨_, rfl, rfl, rfl, _⟩ := h
    unfold Q.Runs
    exact ⟨rfl, rfl, rfl⟩
  | .bad, p, v, u, n, rs, ro, fr, h, hp, hag => by unfold Q.evalR at h; cases h

/-! ### one step of a region in any order -/
structure Stp where
  L : LE
  v : AV
  u : List (Nat × Ob)
  n : List Ob

def Stp.app (s : Stp) (d : Option Nat) (st : St) : St := st.upd d s.v s.u s.n

/-- It does in every state that agrees what it does in this one. -/
def StepOK (P : Program) (E : En) (ops : Array Oper) (Q : Exit → Act → World → Prop) (i : Nat) (s : Stp) (st0 : St) : Prop :=
  ∀ (d : Option Nat), (ops[i]?).bind (·.dst) = d → s.L.ws = d → ∀ st a w hs, Rel E st a w hs → Agree st0 st s.L.rs s.L.ro s.L.fr → ∀ K : Act → World → Prop, (∀ a' w' hs', Rel E (s.app d st) a' w' hs' → K a' w') → wpOp P ops Q i K a w

/-- What it writes is what it says. -/
def Stp.wf (s : Stp) (st : St) : Bool :=
  s.u.all (fun p => s.L.ro.contains p.1 && s.L.wo.contains p.1 && (st.obs.getD p.1 none).isSome) && (s.n.isEmpty || s.L.fr) && (List.range s.n.length).all (fun k => s.L.wo.contains (st.obs.length + k))
    && s.L.wo.all (fun m => (s.u.any fun p => p.1 == m) || (decide (st.obs.length ≤ m) && decide (m < st.obs.length + s.n.length)))

theorem foldl_set_len : ∀ (u : List (Nat × Ob)) (os : List (Option Ob)), (u.foldl (fun os p => os.set p.1 (some p.2)) os).length = os.length
  | [], os => rfl
  | p :: u, os => by simp only [List.foldl_cons]; rw [foldl_set_len u]; simp
theorem foldl_set_not {m : Nat} : ∀ (u : List (Nat × Ob)) (os : List (Option Ob)), (∀ p ∈ u, p.1 ≠ m) → (u.foldl (fun os p => os.set p.1 (some p.2)) os).getD m none = os.getD m none
  | [], os, _ => rfl
  | p :: u, os, h => by
    simp only [List.foldl_cons]
    rw [foldl_set_not u _ fun q hq => h q (by simp [hq])]
    simp [List.getD_eq_getElem?_getD, List.getElem?_set, h p (by simp)]
theorem foldl_set_same {m : Nat} : ∀ (u : List (Nat × Ob)) (os os' : List (Option Ob)), m < os.length → m < os'.length → os.getD m none = os'.getD m none →
    (u.foldl (fun os p => os.set p.1 (some p.2)) os).getD m none = (u.foldl (fun os p => os.set p.1 (some p.2)) os').getD m none
  | [], os, os', _, _, h => h
  | p :: u, os, os', h1, h2, h => by
    simp only [List.foldl_cons]
    refine foldl_set_same u _ _ (by simpa using h1) (by simpa using h2) ?_
    by_cases e : p.1 = m
    · subst e; simp [List.getD_eq_getElem?_getD, List.getElem?_set, h1, h2]
    · simpa [List.getD_eq_getElem?_getD, List.getElem?_set, e] using h
theorem getD_some_lt {os : List (Option Ob)} {m : Nat} (h : (os.getD m none).isSome = true) : m < os.length := by
  rcases Nat.lt_or_ge m os.length with h1 | h1
  · exact h1
  · rw [List.getD_eq_getElem?_getD, List.getElem?_eq_none h1] at h; cases h
theorem getD_app {A B : List (Option Ob)} {m : Nat} : (A ++ B).getD m none = if m < A.length then A.getD m none else B.getD (m - A.length) none := by
  simp only [List.getD_eq_getElem?_getD]
  split
  · rename_i h; rw [List.getElem?_append_left h]
  · rename_i h; rw [List.getElem?_append_right (by omega)]

theorem Stp.eff {s : Stp} {d : Option Nat} {st0 st : St} (hws : s.L.ws = d) (hwf : s.wf st0 = true) (ha : Agree st0 st s.L.rs s.L.ro s.L.fr) (x : Loc) :
    (s.app d st).val x = if s.L.W x = true then (s.app d st0).val x else st.val x := by
  unfold Stp.wf at hwf
  simp only [Bool.and_eq_true] at hwf
  obtain ⟨⟨⟨h1, h2⟩, h3⟩, h4⟩ := hwf
  have hlen : s.n ≠ [] → st.obs.length = st0.obs.length := fun hn => ha.2.2 (by
    rcases (by simpa only [Bool.or_eq_true] using h2 : s.n.isEmpty = true ∨ s.L.fr = true) with h | h
    · exact absurd (by simpa using h) hn
    · exact h)
  cases x with
  | slot t =>
    simp only [St.val, Stp.app, St.upd, LE.W, hws]
    cases d with
    | none => simp [St.put]
    | some d =>
      simp only [St.put, look]
      by_cases e : t = d
      · subst e; simp
      · simp [e, Ne.symm e]
  | len =>
    simp only [St.val, Stp.app, St.upd, LE.W, List.length_append, List.length_map, foldl_set_len]
    split
    · rename_i hfr; rw [ha.2.2 hfr]
    · rename_i hfr
      have : s.n = [] := by
        rcases (by simpa only [Bool.or_eq_true] using h2 : s.n.isEmpty = true ∨ s.L.fr = true) with h | h
        · simpa using h
        · exact absurd h hfr
      simp [this]
  | obj m =>
    simp only [St.val, Stp.app, St.upd]
    by_cases hu : ∃ p ∈ s.u, p.1 = m
    · obtain ⟨p, hp, rfl⟩ := hu
      have h5 := List.all_eq_true.1 h1 p hp
      simp only [Bool.and_eq_true] at h5
      obtain ⟨⟨h6, h7⟩, h8⟩ := h5
      have h6' : p.1 ∈ s.L.ro := by simpa using h6
      have he := ha.2.1 p.1 h6'
      have l0 : p.1 < st0.obs.length := getD_some_lt h8
      have l1 : p.1 < st.obs.length := getD_some_lt (by rw [he]; exact h8)
      rw [if_pos (show s.L.W (.obj p.1) = true from h7), getD_app, getD_app, foldl_set_len, foldl_set_len, if_pos l0, if_pos l1, foldl_set_same s.u st.obs st0.obs l1 l0 he]
    · have hu' : ∀ p ∈ s.u, p.1 ≠ m := fun p hp e => hu ⟨p, hp, e⟩
      by_cases hW : s.L.wo.contains m = true
      · rw [if_pos (show s.L.W (.obj m) = true from hW)]
        have hm : m ∈ s.L.wo := by simpa using hW
        have h5 := List.all_eq_true.1 h4 m hm
        have hany : (s.u.any fun p => p.1 == m) = false := by
          rw [List.any_eq_false]; intro p hp; simpa using hu' p hp
        rw [hany] at h5
        simp only [Bool.false_or, Bool.and_eq_true, decide_eq_true_eq] at h5
        have hn : s.n ≠ [] := by intro e; rw [e] at h5; simp at h5; omega
        rw [getD_app, getD_app, foldl_set_len, foldl_set_len, hlen hn, if_neg (by omega), if_neg (by omega)]
      · rw [if_neg (show ¬ s.L.W (.obj m) = true from hW), getD_app, foldl_set_len]
        split
        · rw [foldl_set_not s.u _ hu']
        · rename_i hge
          by_cases hn : s.n = []
          · simp [hn, List.getD_eq_getElem?_getD, List.getElem?_eq_none (Nat.le_of_not_lt hge)]
          · have e1 := hlen hn
            have : s.n.length ≤ m - st.obs.length := by
              rcases Nat.lt_or_ge (m - st.obs.length) s.n.length with hlt | hge'
              · exfalso
                have h5 := List.all_eq_true.1 h3 (m - st.obs.length) (by simpa using hlt)
                rw [← e1] at h5
                have : st.obs.length + (m - st.obs.length) = m := by omega
                rw [this] at h5
                exact hW h5
              · exact hge'
            simp [List.getD_eq_getElem?_getD, List.getElem?_eq_none (Nat.le_of_not_lt hge), List.getElem?_eq_none (l := s.n) this]

/-! ### any order -/
def Closed (ops : Array Oper) (listed : Nat → Bool) : Prop := ∀ j o, ops[j]? = some o → listed j = true → ∀ e ∈ o.after, Region.binds .any e = true → listed e.on = true

def bstep (acc : List Nat) (o : Oper) : List Nat :=
  acc ++ [o.after.toList.foldl (fun s e => if Region.binds .any e = true then s ||| 2 ^ e.on ||| acc.getD e.on 0 else s) 0]
def befs (ops : List Oper) : List Nat := ops.foldl bstep []

theorem fold_bits {acc : List Nat} {i : Nat} : ∀ (es : List Edge) (s0 : Nat), (es.foldl (fun s e => if Region.binds .any e = true then s ||| 2 ^ e.on ||| acc.getD e.on 0 else s) s0).testBit i = true →
    s0.testBit i = true ∨ ∃ e ∈ es, Region.binds .any e = true ∧ (e.on = i ∨ (acc.getD e.on 0).testBit i = true)
  | [], s0, h => .inl h
  | e :: es, s0, h => by
    simp only [List.foldl_cons] at h
    rcases fold_bits es _ h with h1 | ⟨e', he', h1⟩
    · split at h1
      · rename_i hb
        simp only [Nat.testBit_or, Bool.or_eq_true] at h1
        rcases h1 with (h1 | h1) | h1
        · exact .inl h1
        · exact .inr ⟨e, by simp, hb, .inl (by simpa [Nat.testBit_two_pow] using h1)⟩
        · exact .inr ⟨e, by simp, hb, .inr h1⟩
      · exact .inl h1
    · exact .inr ⟨e', by simp [he'], h1⟩

theorem befs_spec (ops : Array Oper) : ∀ (l : List Oper) (k : Nat) (acc : List Nat), acc.length = k → (∀ j o, l[j]? = some o → ops[k + j]? = some o) →
    (∀ listed, Closed ops listed → ∀ j, j < k → ∀ i, (acc.getD j 0).testBit i = true → (∀ o, ops[j]? = some o → ∀ e ∈ o.after, Region.binds .any e = true → listed e.on = true) → listed i = true) →
    ∀ listed, Closed ops listed → ∀ j, j < k + l.length → ∀ i, ((l.foldl bstep acc).getD j 0).testBit i = true → (∀ o, ops[j]? = some o → ∀ e ∈ o.after, Region.binds .any e = true → listed e.on = true) → listed i = true
  | [], k, acc, _, _, h, listed, hc, j, hj, i, hb, hp => h listed hc j (by simpa using hj) i hb hp
  | o :: l, k, acc, hk, hl, h, listed, hc, j, hj, i, hb, hp => by
    simp only [List.foldl_cons] at hb
    refine befs_spec ops l (k + 1) (bstep acc o) (by simp [bstep, hk]) (fun j o' ho' => ?_) ?_ listed hc j (by simp at hj; omega) i hb hp
    · have := hl (j + 1) o' (by simpa using ho')
      rw [show k + 1 + j = k + (j + 1) by omega]; exact this
    · intro listed hc j hj i hb hp
      by_cases e : j < k
      · refine h listed hc j e i ?_ hp
        have : (bstep acc o).getD j 0 = acc.getD j 0 := by
          simp only [bstep, List.getD_eq_getElem?_getD]
          rw [List.getElem?_append_left (by omega)]
        rwa [this] at hb
      · have ej : j = k := by omega
        subst ej
        have : (bstep acc o).getD j 0 = o.after.toList.foldl (fun s e => if Region.binds .any e = true then s ||| 2 ^ e.on ||| acc.getD e.on 0 else s) 0 := by
          simp only [bstep, List.getD_eq_getElem?_getD]
          rw [List.getElem?_append_right (by omega)]
          simp [hk]
        rw [this] at hb
        have ho : ops[j]? = some o := by simpa using hl 0 o (by simp)
        rcases fold_bits _ _ hb with h1 | ⟨e, he, hbd, h1⟩
        · simp at h1
        · have hle : listed e.on = true := hp o ho e (by simpa using he) hbd
          rcases h1 with rfl | h1
          · exact hle
          · by_cases e2 : e.on < j
            · exact h listed hc e.on e2 i h1 fun o' ho' e' he' hb' => hc e.on o' ho' hle e' he' hb'
            · rw [List.getD_eq_getElem?_getD, List.getElem?_eq_none (by omega)] at h1
              simp at h1

section any
variable {P : Program} {E : En} {ops : Array Oper} {Q : Exit → Act → World → Prop} {step : Nat → Stp} {S : Nat → St}

def seen (step : Nat → Stp) (S : Nat → St) (listed : Nat → Bool) (x : Loc) : Nat → Val
  | 0 => (S 0).val x
  | k + 1 => if listed k = true ∧ (step k).L.W x = true then (S (k + 1)).val x else seen step S listed x k

theorem seen_all {listed : Nat → Bool} {x : Loc} (hS : ∀ i, i < ops.size → (S (i + 1)).val x = if (step i).L.W x = true then (S (i + 1)).val x else (S i).val x) :
    ∀ k, k ≤ ops.size → (∀ i, i < k → (step i).L.W x = true → listed i = true) → seen step S listed x k = (S k).val x
  | 0, _, _ => rfl
  | k + 1, hk, h => by
    unfold seen
    split
    · rfl
    · rename_i hn
      rw [seen_all hS k (by omega) fun i hi hw => h i (by omega) hw]
      have := hS k (by omega)
      have hw : ¬ (step k).L.W x = true := fun hw => hn ⟨h k (by omega) hw, hw⟩
      rw [if_neg hw] at this
      exact this.symm

theorem seen_none {listed : Nat → Bool} {x : Loc} {j : Nat} : ∀ k, j ≤ k → (∀ i, j ≤ i → i < k → (step i).L.W x = true → listed i = false) → seen step S listed x k = seen step S listed x j
  | k, hk, h => by
    by_cases e : j = k
    · subst e; rfl
    · obtain ⟨k', rfl⟩ : ∃ k', k = k' + 1 := ⟨k - 1, by omega⟩
      rw [seen, if_neg, seen_none k' (by omega) fun i h1 h2 => h i h1 (by omega)]
      rintro ⟨h1, h2⟩
      rw [h k' (by omega) (by omega) h2] at h1
      cases h1

theorem seen_congr {l l' : Nat → Bool} {x : Loc} : ∀ k, (∀ i, i < k → (step i).L.W x = true → l i = l' i) → seen step S l x k = seen step S l' x k
  | 0, _ => rfl
  | k + 1, h => by
    unfold seen
    rw [seen_congr k fun i hi => h i (by omega)]
    by_cases hw : (step k).L.W x = true
    · rw [h k (by omega) hw]
    · simp [hw]

theorem any_sound (hS : ∀ i, i < ops.size → S (i + 1) = (step i).app ((ops[i]?).bind (·.dst)) (S i)) (hws : ∀ i, i < ops.size → (step i).L.ws = (ops[i]?).bind (·.dst)) (hstep : ∀ i, i < ops.size → StepOK P E ops Q i (step i) (S i))
    (hwf : ∀ i, i < ops.size → (step i).wf (S i) = true) (hback : ∀ i o, ops[i]? = some o → ∀ e ∈ o.after, Region.binds .any e = true → e.on < i)
    (hconf : ∀ i j, i < j → j < ops.size → (step i).L.conf (step j).L = true → ((befs ops.toList).getD j 0).testBit i = true)
    (hK : ∀ st a w hs, Rel E st a w hs → (∀ x, st.val x = (S ops.size).val x) → Q .normal a w) :
    ∀ (fuel : Nat) (listed : Array Bool) (st : St) (a : Act) (w : World) (hs : List Hd), listed.size = ops.size → (listed.toList.filter fun b => !b).length ≤ fuel → Closed ops (fun i => listed.getD i false) → Rel E st a w hs →
      (∀ x, st.val x = seen step S (fun i => listed.getD i false) x ops.size) → wpAny P .any ops Q fuel listed a w := by
  have heff : ∀ i, i < ops.size → ∀ x, (S (i + 1)).val x = if (step i).L.W x = true then (S (i + 1)).val x else (S i).val x := fun i hi x => by
    have := Stp.eff (st0 := S i) (st := S i) (hws i hi) (hwf i hi) ⟨fun _ _ => rfl, fun _ _ => rfl, fun _ => rfl⟩ x
    rw [← hS i hi] at this
    exact this
  have hbef : ∀ listed, Closed ops listed → ∀ j, j < ops.size → ∀ i, ((befs ops.toList).getD j 0).testBit i = true → (∀ o, ops[j]? = some o → ∀ e ∈ o.after, Region.binds .any e = true → listed e.on = true) → listed i = true := fun listed hc j hj =>
    befs_spec ops ops.toList 0 [] rfl (fun j o ho => by simpa using ho) (fun _ _ j hj => absurd hj (Nat.not_lt_zero _)) listed hc j (by simpa using hj)
  have hend : ∀ (listed : Array Bool) (st : St) (a : Act) (w : World) (hs : List Hd), listed.size = ops.size → Closed ops (fun i => listed.getD i false) → Region.ready .any ops listed = [] → Rel E st a w hs → (∀ x, st.val x = seen step S (fun i => listed.getD i false) x ops.size) → Q .normal a w := by
    intro listed st a w hs hsz hc hr hrel hinv
    have hall : ∀ i, i < ops.size → listed.getD i false = true := by
      intro i
      induction i using Nat.strongRecOn with
      | _ i ih =>
        intro hi
        rcases hb : listed.getD i false with _ | _
        · exfalso
          have hmem : i ∈ Region.ready .any ops listed := by
            rw [mem_ready]
            refine ⟨?_, ops[i], by simp [hi], fun e he hbd => ?_⟩
            · have hi' : i < listed.size := hsz ▸ hi
              simp only [Array.getD_eq_getD_getElem?, Array.getElem?_eq_getElem hi', Option.getD_some] at hb ⊢
              exact hb
            · have := hback i ops[i] (by simp [hi]) e he hbd
              exact ih e.on this (by omega)
          rw [hr] at hmem
          cases hmem
        · rfl
    exact hK st a w hs hrel fun x => (hinv x).trans (seen_all (ops := ops) (fun i hi => heff i hi x) ops.size (Nat.le_refl _) fun i hi _ => hall i hi)
  have hone : ∀ (listed : Array Bool) (st : St) (a : Act) (w : World) (hs : List Hd) (j : Nat), listed.size = ops.size → Closed ops (fun i => listed.getD i false) → j ∈ Region.ready .any ops listed → Rel E st a w hs →
      (∀ x, st.val x = seen step S (fun i => listed.getD i false) x ops.size) → ∀ K : Act → World → Prop,
      (∀ st' a' w' hs', Rel E st' a' w' hs' → (listed.setIfInBounds j true).size = ops.size → Closed ops (fun i => (listed.setIfInBounds j true).getD i false) → (∀ x, st'.val x = seen step S (fun i => (listed.setIfInBounds j true).getD i false) x ops.size) → K a' w') →
      wpOp P ops Q j K a w := by
    intro listed st a w hs j hsz hc hj hrel hinv K hKK
    obtain ⟨hun, o, ho, hpre⟩ := mem_ready.1 hj
    have hjn : j < ops.size := (Array.getElem?_eq_some_iff.1 ho).1
    have hjl : j < listed.size := hsz ▸ hjn
    have hun' : listed.getD j false = false := by
      simp only [Array.getD_eq_getD_getElem?, Array.getElem?_eq_getElem hjl, Option.getD_some] at hun ⊢
      exact hun
    have hpre' : ∀ o', ops[j]? = some o' → ∀ e ∈ o'.after, Region.binds .any e = true → listed.getD e.on false = true := fun o' ho' => by
      rw [ho] at ho'; cases ho'; exact hpre
    -- conflicts
    have before : ∀ i, i < j → (step i).L.conf (step j).L = true → listed.getD i false = true := fun i hi hcf => hbef (fun i => listed.getD i false) hc j hjn i (hconf i j hi hjn hcf) hpre'
    have after : ∀ i, j < i → i < ops.size → (step j).L.conf (step i).L = true → listed.getD i false = false := fun i hi hin hcf => by
      rcases hb : listed.getD i false with _ | _
      · rfl
      · have := hbef (fun i => listed.getD i false) hc i hin j (hconf j i hi hin hcf) fun o' ho' e he hbd => hc i o' ho' hb e he hbd
        rw [hun'] at this
        cases this
    have rd : ∀ x, (step j).L.R x = true → st.val x = (S j).val x := fun x hx => by
      rw [hinv x, seen_none (j := j) ops.size (by omega) fun i h1 h2 hw => ?_]
      · exact seen_all (ops := ops) (fun i hi => heff i hi x) j (by omega) fun i hi hw => before i hi (by
          rcases hb : (step i).L.conf (step j).L with _ | _
          · have := ((LE.conf_spec hb x).1 hw).1
            rw [hx] at this; cases this
          · rfl)
      · by_cases e : i = j
        · subst e; exact hun'
        · refine after i (by omega) h2 ?_
          rcases hb : (step j).L.conf (step i).L with _ | _
          · have := (LE.conf_spec hb x).2 hx
            rw [hw] at this; cases this
          · rfl
    have hag : Agree (S j) st (step j).L.rs (step j).L.ro (step j).L.fr := by
      refine ⟨fun t ht => ?_, fun m hm => ?_, fun hfr => ?_⟩
      · have := rd (.slot t) (by simpa [LE.R] using ht)
        simpa [St.val] using this
      · have := rd (.obj m) (by simpa [LE.R] using hm)
        simp only [St.val, Val.o.injEq] at this
        exact this
      · have := rd .len hfr
        simpa [St.val] using this
    refine hstep j hjn _ rfl (hws j hjn) st a w hs hrel hag K fun a' w' hs' hrel' => hKK _ a' w' hs' hrel' (by simpa using hsz) ?_ fun x => ?_
    · intro i o' ho' hi e he hbd
      by_cases eij : i = j
      · subst eij
        exact getD_set_true (hpre' o' ho' e he hbd)
      · have hi0 : (listed.setIfInBounds j true).getD i false = true := hi
        have hi' : listed.getD i false = true := by rw [getD_set_ne false (Ne.symm eij)] at hi0; exact hi0
        exact getD_set_true (hc i o' ho' hi' e he hbd)
    · rw [Stp.eff (hws j hjn) (hwf j hjn) hag x, ← hS j hjn]
      have hset : (listed.setIfInBounds j true).getD j false = true := by simp [hjl]
      split
      · rename_i hw
        rw [seen_none (j := j + 1) ops.size (by omega) fun i h1 h2 hwi => ?_]
        · simp only [seen]
          rw [if_pos ⟨hset, hw⟩]
        · show (listed.setIfInBounds j true).getD i false = false
          rw [getD_set_ne false (by omega : j ≠ i)]
          refine after i (by omega) h2 ?_
          rcases hb : (step j).L.conf (step i).L with _ | _
          · have := ((LE.conf_spec hb x).1 hw).2
            rw [hwi] at this; cases this
          · rfl
      · rename_i hw
        rw [hinv x]
        refine seen_congr ops.size fun i _ hwi => ?_
        by_cases eij : j = i
        · subst eij; exact absurd hwi hw
        · show listed.getD i false = (listed.setIfInBounds j true).getD i false
          rw [getD_set_ne false eij]
  intro fuel
  induction fuel with
  | zero =>
    intro listed st a w hs hsz hf hc hrel hinv
    have hr : Region.ready .any ops listed = [] := by
      rw [List.eq_nil_iff_forall_not_mem]
      intro j hj
      obtain ⟨hun, o, ho, _⟩ := mem_ready.1 hj
      have hjl : j < listed.size := hsz ▸ (Array.getElem?_eq_some_iff.1 ho).1
      have h0 : listed.toList.filter (fun b => !b) = [] := List.length_eq_zero_iff.1 (by omega)
      have hmem : false ∈ listed.toList.filter (fun b => !b) := by
        rw [List.mem_filter]
        refine ⟨?_, rfl⟩
        simp only [Array.getD_eq_getD_getElem?, Array.getElem?_eq_getElem hjl, Option.getD_some] at hun
        rw [← hun]
        simp
      rw [h0] at hmem
      cases hmem
    exact ⟨hr, hend listed st a w hs hsz hc hr hrel hinv⟩
  | succ fuel ih =>
    intro listed st a w hs hsz hf hc hrel hinv
    refine ⟨fun hr => hend listed st a w hs hsz hc hr hrel hinv, fun j hj => ?_⟩
    refine hone listed st a w hs j hsz hc hj hrel hinv _ fun st' a' w' hs' hrel' h1 h2 h3 => ih _ st' a' w' hs' h1 ?_ h2 hrel' h3
    obtain ⟨hun, o, ho, _⟩ := mem_ready.1 hj
    have hjl : j < listed.size := hsz ▸ (Array.getElem?_eq_some_iff.1 ho).1
    have hget : listed.toList[j]'(by simpa using hjl) = false := by
      simp only [Array.getD_eq_getD_getElem?, Array.getElem?_eq_getElem hjl, Option.getD_some] at hun
      simpa using hun
    have key : ∀ (l : List Bool) (j : Nat) (h : j < l.length), l[j] = false → ((l.set j true).filter fun b => !b).length + 1 = (l.filter fun b => !b).length := by
      intro l
      induction l with
      | nil => intro j h; simp at h
      | cons b l ih =>
        intro j h e
        cases j with
        | zero => simp at e; subst e; simp
        | succ j =>
          have := ih j (by simpa using h) (by simpa using e)
          cases b <;> simp <;> omega
    have := key listed.toList j (by simpa using hjl) hget
    rw [Array.toList_setIfInBounds]
    omega
end any

end Go.AM
