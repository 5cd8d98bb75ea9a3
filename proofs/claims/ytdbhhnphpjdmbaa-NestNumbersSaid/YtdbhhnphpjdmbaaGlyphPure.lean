/- Codes and tokens, in plain words: the machine that both the program and the reference are; tokens written and read again. No program text. -/
import Derived.Test.YtdbhhnphpjdmbaaBase
namespace Go.Proofs.Ytdbhhnphpjdmbaa
set_option maxRecDepth 100000
set_option linter.unusedVariables false
set_option linter.unusedSimpArgs false
structure Tk where
  sign : Int
  n : Int
  name : Int
deriving DecidableEq
def isName (r : Int) : Bool := (decide (97 ≤ r) && decide (r ≤ 122)) || (decide (255 < r) && (decide (r ≠ 65533) && (decide (r ≤ 1114111) && (decide (r < 55296) || decide (57343 < r)))))
def theSigns : List Int := [43, 45, 42, 47, 37, 38, 124, 94, 60, 61, 33, 46, 44, 64, 36, 35, 63, 58, 59, 91, 93, 126, 171, 187, 169, 174, 164, 161, 955, 960]
def isKnown (r : Int) : Bool := (decide (97 ≤ r) && decide (r ≤ 122)) || ((decide (65 ≤ r) && decide (r ≤ 90)) || theSigns.contains r)
def isNamed (r : Int) : Bool := decide (r = 955) || decide (r = 960)
def isDigit (r : Int) : Bool := decide (48 ≤ r) && decide (r ≤ 57)
/-- where a reader stands -/
inductive Mode where
  | idle
  | num (n : Int)
  | pend (s : Int)
def bigMax : Int := 9223372036854775807
def Tk.ofNum (n : Int) : Tk := ⟨48, n, 0⟩
def idleStep (acc : List Tk) (r : Int) : Option (Mode × List Tk) :=
  if r = 32 then some (.idle, acc) else if isDigit r then some (.num (r - 48), acc) else if isNamed r then some (.pend r, acc) else if isKnown r then some (.idle, acc ++ [⟨r, 0, 0⟩]) else none
def machStep : Mode → List Tk → Int → Option (Mode × List Tk)
  | .idle, acc, r => idleStep acc r
  | .num n, acc, r => if isDigit r then (if n * 10 + (r - 48) > bigMax then none else some (.num (n * 10 + (r - 48)), acc)) else idleStep (acc ++ [Tk.ofNum n]) r
  | .pend s, acc, r => if isName r then some (.idle, acc ++ [⟨s, 0, r⟩]) else none
def machEnd : Mode → List Tk → Option (List Tk)
  | .idle, acc => some acc
  | .num n, acc => some (acc ++ [Tk.ofNum n])
  | .pend _, _ => none
def mach : Mode → List Tk → List Int → Option (List Tk)
  | m, acc, [] => machEnd m acc
  | m, acc, r :: t => (machStep m acc r).bind fun x => mach x.1 x.2 t
def tokOf (l : List Int) : Option (List Tk) := mach .idle [] l

/-! the program's reader -/
structure Rdr where
  out : List Tk
  dig : List Int
def dval (ds : List Int) : Int := ds.foldl (fun n d => n * 10 + d) 0
theorem dval_snoc (ds : List Int) (d : Int) : dval (ds ++ [d]) = dval ds * 10 + d := by simp [dval]
def Rdr.number (r : Rdr) : Option Rdr := if r.dig = [] then some r else if dval r.dig > bigMax then none else some ⟨r.out ++ [Tk.ofNum (dval r.dig)], []⟩
def Rdr.waits (r : Rdr) : Bool := decide (r.dig = []) && (match r.out.getLast? with | some t => isNamed t.sign && decide (t.name = 0) | none => false)
def Rdr.step (r : Rdr) (x : Int) : Option Rdr :=
  if r.waits then (if isName x then some ⟨r.out.dropLast ++ (match r.out.getLast? with | some t => [⟨t.sign, t.n, x⟩] | none => []), r.dig⟩ else none)
  else if isDigit x then some ⟨r.out, r.dig ++ [x - 48]⟩
  else r.number.bind fun q => if x = 32 then some q else if isKnown x then some ⟨q.out ++ [⟨x, 0, 0⟩], q.dig⟩ else none
def Rdr.end (r : Rdr) : Option (List Tk) := r.number.bind fun q => if q.waits then none else some q.out
def Rdr.run (r : Rdr) : List Int → Option (List Tk)
  | [] => r.end
  | x :: t => (r.step x).bind fun q => q.run t
/-- tokens that a reader may have made -/
def Tk.fine (t : Tk) : Prop := (t.sign = 48 ∧ 0 ≤ t.n ∧ t.n ≤ bigMax ∧ t.name = 0) ∨ (isNamed t.sign = true ∧ t.n = 0 ∧ isName t.name = true) ∨ (t.sign ≠ 48 ∧ isNamed t.sign = false ∧ isKnown t.sign = true ∧ t.n = 0 ∧ t.name = 0)
theorem name_nz {r : Int} (h : isName r = true) : r ≠ 0 := by
  rintro rfl
  exact absurd h (by decide)
theorem fine_waits {t : Tk} (h : t.fine) : (isNamed t.sign && decide (t.name = 0)) = false := by
  rcases h with ⟨h1, _⟩ | ⟨_, _, h⟩ | ⟨_, h, _⟩
  · rw [h1]; rfl
  · have := name_nz h
    simp [this]
  · rw [h]; rfl
theorem waits_fine {l : List Tk} (h : ∀ t ∈ l, t.fine) (ds : List Int) : (⟨l, ds⟩ : Rdr).waits = false := by
  unfold Rdr.waits
  show (_ && match l.getLast? with | some t => _ | none => false) = false
  cases hl : l.getLast? with
  | none => simp
  | some t =>
    have := fine_waits (h t (List.mem_of_getLast? hl))
    simp only [this, Bool.and_false]
theorem named_not (r : Int) (h : isNamed r = true) : isDigit r = false ∧ r ≠ 32 ∧ isKnown r = true ∧ r ≠ 48 := by
  unfold isNamed at h
  simp at h
  rcases h with rfl | rfl <;> decide
theorem digit_not (r : Int) (h : isDigit r = true) : r ≠ 32 ∧ isNamed r = false := by
  unfold isDigit at h
  simp at h
  refine ⟨by omega, ?_⟩
  unfold isNamed
  simp
  omega
theorem known_48 : isKnown 48 = false := by decide
/-- the program's reader is the machine -/
theorem run_over : ∀ (t : List Int) (out : List Tk) (ds : List Int), ds ≠ [] → (∀ d ∈ ds, 0 ≤ d) → dval ds > bigMax → (⟨out, ds⟩ : Rdr).run t = none
  | [], out, ds, h1, _, h2 => by
    unfold Rdr.run Rdr.end Rdr.number
    rw [if_neg h1, if_pos h2]
    rfl
  | x :: t, out, ds, h1, h0, h2 => by
    unfold Rdr.run Rdr.step
    have hw : (⟨out, ds⟩ : Rdr).waits = false := by unfold Rdr.waits; simp [h1]
    rw [if_neg (by simp [hw])]
    by_cases hd : isDigit x = true
    · rw [if_pos hd]
      have hx : 0 ≤ x - 48 := by unfold isDigit at hd; simp at hd; omega
      refine run_over t out (ds ++ [x - 48]) (by simp) (fun d hm => ?_) ?_
      · rcases List.mem_append.1 hm with h | h
        · exact h0 d h
        · simp at h; omega
      · rw [dval_snoc]
        unfold bigMax at *
        omega
    · rw [if_neg hd]
      unfold Rdr.number
      rw [if_neg h1, if_pos h2]
      rfl
def MRel (m : Mode) (acc : List Tk) (r : Rdr) : Prop := (∀ t ∈ acc, t.fine) ∧ match m with
  | .idle => r = ⟨acc, []⟩
  | .num n => r.out = acc ∧ r.dig ≠ [] ∧ (∀ d ∈ r.dig, 0 ≤ d) ∧ dval r.dig = n ∧ n ≤ bigMax
  | .pend s => isNamed s = true ∧ r = ⟨acc ++ [⟨s, 0, 0⟩], []⟩
theorem dval_nonneg : ∀ (ds : List Int) (n : Int), 0 ≤ n → (∀ d ∈ ds, 0 ≤ d) → 0 ≤ ds.foldl (fun n d => n * 10 + d) n
  | [], n, h, _ => h
  | d :: ds, n, h, hd => dval_nonneg ds (n * 10 + d) (by have := hd d (List.mem_cons_self ..); omega) (fun x hx => hd x (List.mem_cons_of_mem _ hx))
theorem idle_rel (acc : List Tk) (hf : ∀ t ∈ acc, t.fine) (x : Int) (hd : isDigit x = false) :
    (idleStep acc x = none ∧ (if x = 32 then some (⟨acc, []⟩ : Rdr) else if isKnown x then some ⟨acc ++ [⟨x, 0, 0⟩], []⟩ else none) = none) ∨
    ∃ m' acc' q, idleStep acc x = some (m', acc') ∧ (if x = 32 then some (⟨acc, []⟩ : Rdr) else if isKnown x then some ⟨acc ++ [⟨x, 0, 0⟩], []⟩ else none) = some q ∧ MRel m' acc' q := by
  unfold idleStep
  by_cases h32 : x = 32
  · rw [if_pos h32, if_pos h32]
    exact .inr ⟨_, _, _, rfl, rfl, hf, rfl⟩
  rw [if_neg h32, if_neg h32, if_neg (by simp [hd])]
  by_cases hn : isNamed x = true
  · rw [if_pos hn, if_pos (named_not x hn).2.2.1]
    exact .inr ⟨_, _, _, rfl, rfl, hf, hn, rfl⟩
  rw [if_neg hn]
  by_cases hk : isKnown x = true
  · rw [if_pos hk, if_pos hk]
    refine .inr ⟨_, _, _, rfl, rfl, fun t ht => ?_, rfl⟩
    rcases List.mem_append.1 ht with h | h
    · exact hf t h
    · simp at h
      subst h
      refine .inr (.inr ⟨fun e => ?_, by simpa using hn, hk, rfl, rfl⟩)
      rw [show x = 48 from e] at hk
      exact absurd hk (by decide)
  · rw [if_neg hk, if_neg hk]
    exact .inl ⟨rfl, rfl⟩
theorem run_mach : ∀ (t : List Int) (m : Mode) (acc : List Tk) (r : Rdr), MRel m acc r → r.run t = mach m acc t
  | [], m, acc, r, h => by
    obtain ⟨hf, h⟩ := h
    unfold Rdr.run mach
    cases m with
    | idle =>
      simp only at h
      subst h
      unfold Rdr.end Rdr.number
      rw [if_pos rfl]
      simp only [Option.bind_some]
      rw [if_neg (by simp [waits_fine hf])]
      rfl
    | num n =>
      obtain ⟨rfl, h1, h2, rfl, h3⟩ := h
      unfold Rdr.end Rdr.number
      rw [if_neg h1, if_neg (by omega)]
      simp only [Option.bind_some]
      have : ∀ t ∈ r.out ++ [Tk.ofNum (dval r.dig)], t.fine := fun t ht => by
        rcases List.mem_append.1 ht with h | h
        · exact hf t h
        · simp at h
          subst h
          exact .inl ⟨rfl, dval_nonneg _ 0 (by omega) h2, h3, rfl⟩
      rw [if_neg (by simp [waits_fine this])]
      rfl
    | pend s =>
      obtain ⟨h1, rfl⟩ := h
      unfold Rdr.end Rdr.number
      rw [if_pos rfl]
      simp only [Option.bind_some]
      rw [if_pos (by unfold Rdr.waits; simp [h1])]
      rfl
  | x :: t, m, acc, r, h => by
    obtain ⟨hf, h⟩ := h
    unfold Rdr.run mach
    cases m with
    | idle =>
      simp only at h
      subst h
      unfold Rdr.step
      rw [if_neg (by simp [waits_fine hf])]
      show _ = (idleStep acc x).bind _
      by_cases hd : isDigit x = true
      · rw [if_pos hd]
        have hx : 0 ≤ x - 48 ∧ x - 48 ≤ 9 := by unfold isDigit at hd; simp at hd; omega
        have : idleStep acc x = some (.num (x - 48), acc) := by unfold idleStep; rw [if_neg (digit_not x hd).1, if_pos hd]
        rw [this]
        refine run_mach t (.num (x - 48)) acc _ ⟨hf, rfl, by simp, ?_, ?_, ?_⟩
        · intro d hm
          simp at hm
          omega
        · simp [dval]
        · unfold bigMax; omega
      · rw [if_neg hd]
        unfold Rdr.number
        rw [if_pos rfl]
        simp only [Option.bind_some]
        rcases idle_rel acc hf x (by simpa using hd) with ⟨h1, h2⟩ | ⟨m', acc', q, h1, h2, h3⟩
        · rw [h1, h2]
          rfl
        · rw [h1, h2]
          exact run_mach t m' acc' q h3
    | num n =>
      obtain ⟨rfl, h1, h2, rfl, h3⟩ := h
      unfold Rdr.step
      have hw : r.waits = false := by unfold Rdr.waits; simp [h1]
      rw [if_neg (by simp [hw])]
      simp only [machStep]
      by_cases hd : isDigit x = true
      · rw [if_pos hd, if_pos hd]
        have hx : 0 ≤ x - 48 ∧ x - 48 ≤ 9 := by unfold isDigit at hd; simp at hd; omega
        have h0 : ∀ d ∈ r.dig ++ [x - 48], 0 ≤ d := fun d hm => by
          rcases List.mem_append.1 hm with h | h
          · exact h2 d h
          · simp at h; omega
        by_cases ho : dval r.dig * 10 + (x - 48) > bigMax
        · rw [if_pos ho]
          exact run_over t r.out _ (by simp) h0 (by rw [dval_snoc]; exact ho)
        · rw [if_neg ho]
          exact run_mach t _ r.out _ ⟨hf, rfl, by simp, h0, dval_snoc _ _, by omega⟩
      · rw [if_neg hd, if_neg hd]
        unfold Rdr.number
        rw [if_neg h1, if_neg (by omega)]
        simp only [Option.bind_some]
        have hf' : ∀ t ∈ r.out ++ [Tk.ofNum (dval r.dig)], t.fine := fun t ht => by
          rcases List.mem_append.1 ht with h | h
          · exact hf t h
          · simp at h
            subst h
            exact .inl ⟨rfl, dval_nonneg _ 0 (by omega) h2, h3, rfl⟩
        rcases idle_rel _ hf' x (by simpa using hd) with ⟨h4, h5⟩ | ⟨m', acc', q, h4, h5, h6⟩
        · rw [h4, h5]
          rfl
        · rw [h4, h5]
          exact run_mach t m' acc' q h6
    | pend s =>
      obtain ⟨h1, rfl⟩ := h
      unfold Rdr.step
      rw [if_pos (by unfold Rdr.waits; simp [h1])]
      simp only [machStep]
      by_cases hn : isName x = true
      · rw [if_pos hn, if_pos hn]
        simp only [List.dropLast_concat, List.getLast?_concat, Option.bind_some]
        refine run_mach t .idle (acc ++ [⟨s, 0, x⟩]) _ ⟨fun t ht => ?_, rfl⟩
        rcases List.mem_append.1 ht with h | h
        · exact hf t h
        · simp at h
          subst h
          exact .inr (.inl ⟨h1, rfl, hn⟩)
      · rw [if_neg hn, if_neg hn]
        rfl
theorem tok_prog (l : List Int) : (⟨[], []⟩ : Rdr).run l = tokOf l := run_mach l .idle [] _ ⟨by simp, rfl⟩

theorem mach_fine : ∀ (t : List Int) (m : Mode) (acc l : List Tk), (∀ x ∈ acc, x.fine) → (match m with | .idle => True | .num n => 0 ≤ n ∧ n ≤ bigMax | .pend s => isNamed s = true) → mach m acc t = some l → ∀ x ∈ l, x.fine
  | [], m, acc, l, hf, hm, h => by
    unfold mach at h
    cases m with
    | idle => simp only [machEnd, Option.some.injEq] at h; subst h; exact hf
    | num n =>
      simp only [machEnd, Option.some.injEq] at h
      subst h
      intro x hx
      rcases List.mem_append.1 hx with h | h
      · exact hf x h
      · simp at h
        subst h
        exact .inl ⟨rfl, hm.1, hm.2, rfl⟩
    | pend s => simp [machEnd] at h
  | r :: t, m, acc, l, hf, hm, h => by
    unfold mach at h
    have hidle : ∀ (a : List Tk), (∀ x ∈ a, x.fine) → ((idleStep a r).bind fun x => mach x.1 x.2 t) = some l → ∀ x ∈ l, x.fine := fun a ha h => by
      unfold idleStep at h
      split at h
      · exact mach_fine t .idle a l ha trivial h
      · split at h
        · rename_i hd
          refine mach_fine t (.num (r - 48)) a l ha ?_ h
          unfold isDigit at hd
          simp at hd
          unfold bigMax
          constructor <;> omega
        · split at h
          · rename_i hn
            exact mach_fine t (.pend r) a l ha hn h
          · rename_i hn
            split at h
            · rename_i hk
              refine mach_fine t .idle _ l (fun x hx => ?_) trivial h
              rcases List.mem_append.1 hx with h | h
              · exact ha x h
              · simp at h
                subst h
                refine .inr (.inr ⟨fun e => ?_, by simpa using hn, hk, rfl, rfl⟩)
                rw [show r = 48 from e] at hk
                exact absurd hk (by decide)
            · cases h
    cases m with
    | idle => exact hidle acc hf h
    | num n =>
      simp only [machStep] at h
      split at h
      · rename_i hd
        split at h
        · cases h
        · refine mach_fine t _ acc l hf ?_ h
          unfold isDigit at hd
          simp at hd hm
          show 0 ≤ n * 10 + (r - 48) ∧ n * 10 + (r - 48) ≤ bigMax
          omega
      · refine hidle _ (fun x hx => ?_) h
        rcases List.mem_append.1 hx with h | h
        · exact hf x h
        · simp at h
          subst h
          exact .inl ⟨rfl, hm.1, hm.2, rfl⟩
    | pend s =>
      simp only [machStep] at h
      split at h
      · rename_i hn
        refine mach_fine t .idle _ l (fun x hx => ?_) trivial h
        rcases List.mem_append.1 hx with h | h
        · exact hf x h
        · simp at h
          subst h
          exact .inr (.inl ⟨hm, rfl, hn⟩)
      · cases h
theorem tok_fine {r : List Int} {l : List Tk} (h : tokOf r = some l) : ∀ x ∈ l, x.fine := mach_fine r .idle [] l (by simp) trivial h
/-! tokens as text -/
def digs (n : Nat) : List Int := if h : n < 10 then [48 + (n : Int)] else digs (n / 10) ++ [48 + ((n % 10 : Nat) : Int)]
termination_by n
decreasing_by omega
def tkText (t : Tk) : List Int := if t.sign = 48 then digs t.n.toNat else if isNamed t.sign then (if isName t.name then [t.sign, t.name] else []) else if isKnown t.sign then [t.sign] else []
def tkSkip (t : Tk) : Bool := !decide (t.sign = 48) && (if isNamed t.sign then !isName t.name else !isKnown t.sign)
def txt : List Tk → Bool → List Int
  | [], _ => []
  | t :: l, b => if t.sign = 48 then (if b then [32] else []) ++ digs t.n.toNat ++ txt l true else if tkSkip t then txt l b else tkText t ++ txt l false
theorem mach_append : ∀ (a b : List Int) (m : Mode) (acc : List Tk), (∃ m' acc', (∀ b, mach m acc (a ++ b) = mach m' acc' b)) ∨ (∀ b, mach m acc (a ++ b) = none)
  | [], b, m, acc => .inl ⟨m, acc, fun _ => rfl⟩
  | x :: a, b, m, acc => by
    have e : ∀ c, mach m acc (x :: a ++ c) = (machStep m acc x).bind fun y => mach y.1 y.2 (a ++ c) := fun c => by
      rw [List.cons_append]
      conv => lhs; unfold mach
    cases hs : machStep m acc x with
    | none => exact .inr fun c => by rw [e, hs]; rfl
    | some y =>
      rcases mach_append a b y.1 y.2 with ⟨m', acc', h⟩ | h
      · exact .inl ⟨m', acc', fun c => by rw [e, hs]; exact h c⟩
      · exact .inr fun c => by rw [e, hs]; exact h c
theorem digs_digit (n : Nat) : ∀ d ∈ digs n, isDigit d = true := by
  induction n using Nat.strongRecOn with
  | ind n ih =>
    intro d hd
    unfold digs at hd
    split at hd
    · simp at hd
      subst hd
      unfold isDigit
      simp
      omega
    · rcases List.mem_append.1 hd with h | h
      · exact ih (n / 10) (by omega) d h
      · simp at h
        subst h
        unfold isDigit
        simp
        omega
/-- digits are read as their number -/
theorem mach_digs (n : Nat) (hn : (n : Int) ≤ bigMax) (acc : List Tk) (rest : List Int) : mach .idle acc (digs n ++ rest) = mach (.num n) acc rest := by
  induction n using Nat.strongRecOn generalizing rest with
  | ind n ih =>
    unfold digs
    split
    · rename_i h
      show (idleStep acc (48 + (n : Int))).bind _ = _
      have hd : isDigit (48 + (n : Int)) = true := by unfold isDigit; simp; omega
      unfold idleStep
      rw [if_neg (by omega), if_pos hd]
      simp only [Option.bind_some]
      congr 2
      omega
    · rename_i h
      rw [List.append_assoc, ih (n / 10) (by omega) (by unfold bigMax at *; omega)]
      have hd : isDigit (48 + ((n % 10 : Nat) : Int)) = true := by unfold isDigit; simp; omega
      show (machStep (.num ((n / 10 : Nat) : Int)) acc (48 + ((n % 10 : Nat) : Int))).bind _ = _
      simp only [machStep]
      rw [if_pos hd, if_neg (by omega)]
      simp only [Option.bind_some]
      have e : ((n / 10 : Nat) : Int) * 10 + (48 + ((n % 10 : Nat) : Int) - 48) = n := by omega
      rw [e]
      rfl
theorem mach_blank (n : Int) (acc : List Tk) (rest : List Int) : mach (.num n) acc (32 :: rest) = mach .idle (acc ++ [Tk.ofNum n]) rest := rfl
theorem mach_nonDigit (n : Int) (acc : List Tk) (x : Int) (rest : List Int) (h : isDigit x = false) : mach (.num n) acc (x :: rest) = mach .idle (acc ++ [Tk.ofNum n]) (x :: rest) := by
  show (machStep (.num n) acc x).bind _ = (machStep .idle _ x).bind _
  simp only [machStep]
  rw [if_neg (by simp [h])]
/-- what is behind text: the reader in a number, or idle -/
def after (acc : List Tk) (l : List Tk) : Mode × List Tk := match l.getLast? with
  | some t => if t.sign = 48 then (.num t.n, acc ++ l.dropLast) else (.idle, acc ++ l)
  | none => (.idle, acc ++ l)
theorem after_cons (acc : List Tk) (t u : Tk) (l : List Tk) : after acc (t :: u :: l) = after (acc ++ [t]) (u :: l) := by
  unfold after
  rw [List.getLast?_cons_cons]
  cases h : (u :: l).getLast? with
  | none => simp at h
  | some v =>
    simp only
    split <;> simp
theorem tk_ofNum {t : Tk} (h : t.fine) (hs : t.sign = 48) : Tk.ofNum t.n = t ∧ 0 ≤ t.n ∧ t.n ≤ bigMax := by
  rcases h with ⟨h1, h2, h3, h4⟩ | ⟨h1, _⟩ | ⟨h1, _⟩
  · refine ⟨?_, h2, h3⟩
    cases t
    simp at h1 h4
    simp [Tk.ofNum, h1, h4]
  · rw [hs] at h1
    exact absurd h1 (by decide)
  · exact absurd hs h1
/-- one sign that is no number, read from idle -/
theorem mach_sign {t : Tk} (h : t.fine) (hs : t.sign ≠ 48) (acc : List Tk) (rest : List Int) : tkSkip t = false ∧ ∃ x y, tkText t = x :: y ∧ isDigit x = false ∧ mach .idle acc (x :: y ++ rest) = mach .idle (acc ++ [t]) rest := by
  rcases h with ⟨h1, _⟩ | ⟨h1, h2, h3⟩ | ⟨_, h2, h3, h4, h5⟩
  · exact absurd h1 hs
  · have hn := named_not _ h1
    refine ⟨by unfold tkSkip; simp [hs, h1, h3], t.sign, [t.name], by unfold tkText; rw [if_neg hs, if_pos h1, if_pos h3], hn.1, ?_⟩
    show (idleStep acc t.sign).bind _ = _
    unfold idleStep
    rw [if_neg hn.2.1, if_neg (by simp [hn.1]), if_pos h1]
    show (machStep (.pend t.sign) acc t.name).bind _ = _
    simp only [machStep]
    rw [if_pos h3]
    simp only [Option.bind_some]
    have : (⟨t.sign, 0, t.name⟩ : Tk) = t := by cases t; simp at h2; simp [h2]
    rw [this]
    rfl
  · have hd : isDigit t.sign = false := by
      cases hb : isDigit t.sign with
      | false => rfl
      | true =>
        exfalso
        have : 48 ≤ t.sign ∧ t.sign ≤ 57 := by unfold isDigit at hb; simp at hb; exact hb
        have h7 : isKnown t.sign = false := by
          unfold isKnown theSigns
          simp
          omega
        rw [h3] at h7
        cases h7
    have h32 : t.sign ≠ 32 := fun e => by rw [e] at h3; exact absurd h3 (by decide)
    refine ⟨by unfold tkSkip; simp [hs, h2, h3], t.sign, [], by unfold tkText; rw [if_neg hs, if_neg (by simp [h2]), if_pos h3], hd, ?_⟩
    show (idleStep acc t.sign).bind _ = _
    unfold idleStep
    rw [if_neg h32, if_neg (by simp [hd]), if_neg (by simp [h2]), if_pos h3]
    have : (⟨t.sign, 0, 0⟩ : Tk) = t := by cases t; simp at h4 h5; simp [h4, h5]
    rw [this]
    rfl
theorem txt_read : ∀ (l : List Tk) (acc : List Tk) (rest : List Int), (∀ t ∈ l, t.fine) →
    mach .idle acc (txt l false ++ rest) = mach (after acc l).1 (after acc l).2 rest ∧ ∀ n, l ≠ [] → mach (.num n) acc (txt l true ++ rest) = mach (after (acc ++ [Tk.ofNum n]) l).1 (after (acc ++ [Tk.ofNum n]) l).2 rest
  | [], acc, rest, _ => ⟨by simp [txt, after], fun n h => absurd rfl h⟩
  | t :: l, acc, rest, hf => by
    have ht := hf t (List.mem_cons_self ..)
    have hl := fun x hx => hf x (List.mem_cons_of_mem _ hx)
    by_cases hs : t.sign = 48
    · obtain ⟨h1, h2, h3⟩ := tk_ofNum ht hs
      have key : ∀ a, mach .idle a (digs t.n.toNat ++ (txt l true ++ rest)) = mach (after a (t :: l)).1 (after a (t :: l)).2 rest := fun a => by
        rw [mach_digs _ (by omega), show ((t.n.toNat : Nat) : Int) = t.n by omega]
        cases l with
        | nil => simp [txt, after, hs]
        | cons u l => rw [(txt_read (u :: l) a rest hl).2 t.n (by simp), h1, after_cons]
      constructor
      · simp only [txt, if_pos hs]
        rw [List.append_assoc, List.append_assoc]
        exact key acc
      · intro n _
        simp only [txt, if_pos hs, if_true]
        rw [List.append_assoc, List.append_assoc]
        show mach (.num n) acc (32 :: (digs t.n.toNat ++ (txt l true ++ rest))) = _
        rw [mach_blank]
        exact key _
    · obtain ⟨h1, x, y, h2, h3, _⟩ := mach_sign ht hs acc rest
      have key : ∀ a, mach .idle a (x :: y ++ (txt l false ++ rest)) = mach (after a (t :: l)).1 (after a (t :: l)).2 rest := fun a => by
        obtain ⟨_, x', y', h2', _, h4⟩ := mach_sign ht hs a (txt l false ++ rest)
        rw [h2] at h2'
        injection h2' with e1 e2
        subst e1 e2
        rw [h4, (txt_read l (a ++ [t]) rest hl).1]
        cases l with
        | nil => simp [after, hs]
        | cons u l => rw [after_cons]
      constructor
      · simp only [txt, if_neg hs, h1, h2]
        rw [if_neg (by simp), List.append_assoc]
        exact key acc
      · intro n _
        simp only [txt, if_neg hs, h1, h2]
        rw [if_neg (by simp), List.append_assoc]
        show mach (.num n) acc (x :: (y ++ (txt l false ++ rest))) = _
        rw [mach_nonDigit _ _ _ _ h3]
        exact key _
theorem drop_last {l : List Tk} {t : Tk} (h : l.getLast? = some t) : l.dropLast ++ [t] = l := by
  rcases List.eq_nil_or_concat l with rfl | ⟨a, b, rfl⟩
  · simp at h
  · simp at h
    subst h
    simp
theorem after_end (acc l : List Tk) (h : ∀ t ∈ l, t.fine) : machEnd (after acc l).1 (after acc l).2 = some (acc ++ l) := by
  unfold after
  cases hl : l.getLast? with
  | none => rfl
  | some t =>
    have hm := List.mem_of_getLast? hl
    simp only
    split
    · rename_i hs
      simp only [machEnd]
      rw [(tk_ofNum (h t hm) hs).1, List.append_assoc, drop_last hl]
    · rfl
theorem after_blank (acc l : List Tk) (h : ∀ t ∈ l, t.fine) (rest : List Int) : mach (after acc l).1 (after acc l).2 (32 :: rest) = mach .idle (acc ++ l) rest := by
  unfold after
  cases hl : l.getLast? with
  | none => rfl
  | some t =>
    have hm := List.mem_of_getLast? hl
    simp only
    split
    · rename_i hs
      rw [mach_blank, (tk_ofNum (h t hm) hs).1, List.append_assoc, drop_last hl]
    · rfl
theorem tok_txt (l : List Tk) (h : ∀ t ∈ l, t.fine) : tokOf (txt l false) = some l := by
  have := (txt_read l [] [] h).1
  rw [List.append_nil] at this
  unfold tokOf
  rw [this]
  show machEnd _ _ = _
  rw [after_end [] l h]
  rfl
theorem tok_blanks (a b : List Tk) (ha : ∀ t ∈ a, t.fine) (hb : ∀ t ∈ b, t.fine) : tokOf (txt a false ++ ([32, 32] ++ (txt b false ++ [32]))) = some (a ++ b) := by
  unfold tokOf
  rw [(txt_read a [] _ ha).1]
  show mach _ _ (32 :: (32 :: (txt b false ++ [32]))) = _
  rw [after_blank [] a ha]
  show mach .idle ([] ++ a) (txt b false ++ [32]) = _
  rw [(txt_read b _ _ hb).1, after_blank _ b hb]
  rfl
/-! a text is no longer than the code that its tokens came from -/
def rlen (r : Int) : Nat := if r < 128 then 1 else if r < 2048 then 2 else if r < 65536 then 3 else 4
def blen (l : List Int) : Nat := l.foldl (fun n r => n + rlen r) 0
theorem blen_cons (r : Int) (l : List Int) : blen (r :: l) = rlen r + blen l := by
  have h : ∀ (l : List Int) (n : Nat), l.foldl (fun n r => n + rlen r) n = n + l.foldl (fun n r => n + rlen r) 0 := fun l => by
    induction l with
    | nil => intro n; rfl
    | cons a l ih => intro n; rw [List.foldl_cons, ih, List.foldl_cons, ih (0 + rlen a)]; omega
  unfold blen
  rw [List.foldl_cons, h]
  omega
theorem blen_append (a b : List Int) : blen (a ++ b) = blen a + blen b := by
  induction a with
  | nil => simp [blen]
  | cons x a ih => rw [List.cons_append, blen_cons, blen_cons, ih]; omega
theorem rlen_digit {r : Int} (h : isDigit r = true) : rlen r = 1 := by
  unfold isDigit at h
  simp at h
  unfold rlen
  rw [if_pos (by omega)]
theorem blen_digs (n : Nat) : blen (digs n) = (digs n).length := by
  have h : ∀ l : List Int, (∀ d ∈ l, isDigit d = true) → blen l = l.length := fun l => by
    induction l with
    | nil => intro _; rfl
    | cons a l ih => intro hd; rw [blen_cons, rlen_digit (hd a (List.mem_cons_self ..)), ih (fun d hm => hd d (List.mem_cons_of_mem _ hm)), List.length_cons]; omega
  exact h _ (digs_digit n)
theorem digs_length (n d : Nat) (hd : d ≤ 9) : (digs (n * 10 + d)).length ≤ (digs n).length + 1 := by
  conv => lhs; unfold digs
  split
  · have : 1 ≤ (digs n).length := by unfold digs; split <;> simp
    simp
  · rw [List.length_append, show (n * 10 + d) / 10 = n by omega]
    simp
def endsNum (l : List Tk) (b : Bool) : Bool := match l.getLast? with
  | some u => decide (u.sign = 48)
  | none => b
theorem endsNum_cons (t : Tk) (l : List Tk) (b : Bool) : endsNum (t :: l) b = endsNum l (decide (t.sign = 48)) := by
  unfold endsNum
  cases l with
  | nil => rfl
  | cons u l =>
    rw [List.getLast?_cons_cons]
    cases h : (u :: l).getLast? with
    | none => simp at h
    | some v => rfl
theorem skip_fine {t : Tk} (h : t.fine) : tkSkip t = false := by
  rcases h with ⟨h1, _⟩ | ⟨h1, h2, h3⟩ | ⟨h1, h2, h3, _⟩
  · unfold tkSkip; simp [h1]
  · have := (named_not _ h1).2.2.2
    unfold tkSkip; simp [h1, h3]
  · unfold tkSkip; simp [h1, h2, h3]
theorem txt_snoc (t : Tk) (ht : t.fine) : ∀ (a : List Tk) (b : Bool), (∀ u ∈ a, u.fine) → txt (a ++ [t]) b = txt a b ++ (if t.sign = 48 then (if endsNum a b then [32] else []) ++ digs t.n.toNat else tkText t)
  | [], b, _ => by
    show txt [t] b = _
    unfold txt
    by_cases hs : t.sign = 48
    · rw [if_pos hs, if_pos hs]
      simp only [txt, endsNum, List.getLast?_nil, List.append_nil, List.nil_append]
      rfl
    · rw [if_neg hs, if_neg hs, skip_fine ht]
      simp [txt]
  | u :: a, b, h => by
    have hu := h u (List.mem_cons_self ..)
    have ih := fun b => txt_snoc t ht a b (fun x hx => h x (List.mem_cons_of_mem _ hx))
    rw [List.cons_append, endsNum_cons]
    unfold txt
    by_cases hs : u.sign = 48
    · rw [if_pos hs, if_pos hs, ih, List.append_assoc]
      simp [hs]
    · rw [if_neg hs, if_neg hs, skip_fine hu]
      rw [if_neg (by simp), if_neg (by simp), ih, List.append_assoc]
      simp only [hs, decide_false]
def costs (m : Mode) (acc : List Tk) (c : Nat) : Prop := (∀ t ∈ acc, t.fine) ∧ match m with
  | .idle => blen (txt acc false) + (if endsNum acc false then 1 else 0) ≤ c
  | .num n => 0 ≤ n ∧ n ≤ bigMax ∧ blen (txt acc false) + (if endsNum acc false then 1 else 0) + (digs n.toNat).length ≤ c
  | .pend s => isNamed s = true ∧ blen (txt acc false) + rlen s ≤ c
theorem blen_one (r : Int) : blen [r] = rlen r := by rw [blen_cons]; rfl
theorem ofNum_cost (acc : List Tk) (n : Int) (c : Nat) (hf : ∀ t ∈ acc, t.fine) (h0 : 0 ≤ n) (h1 : n ≤ bigMax) (h : blen (txt acc false) + (if endsNum acc false then 1 else 0) + (digs n.toNat).length ≤ c) :
    (∀ t ∈ acc ++ [Tk.ofNum n], t.fine) ∧ blen (txt (acc ++ [Tk.ofNum n]) false) ≤ c ∧ endsNum (acc ++ [Tk.ofNum n]) false = true := by
  have ht : (Tk.ofNum n).fine := .inl ⟨rfl, h0, h1, rfl⟩
  refine ⟨fun t hm => ?_, ?_, ?_⟩
  · rcases List.mem_append.1 hm with h | h
    · exact hf t h
    · simp at h; subst h; exact ht
  · have e1 : (Tk.ofNum n).sign = 48 := rfl
    have e : (Tk.ofNum n).n = n := rfl
    rw [txt_snoc _ ht acc false hf, if_pos e1, blen_append, blen_append, blen_digs, e]
    split
    · rename_i he
      rw [if_pos he] at h
      rw [blen_one]
      have : rlen 32 = 1 := rfl
      omega
    · rename_i he
      rw [if_neg he] at h
      have : blen [] = 0 := rfl
      omega
  · unfold endsNum
    rw [List.getLast?_concat]
    rfl
theorem named_rlen {r : Int} : 1 ≤ rlen r := by
  unfold rlen
  split
  · omega
  · split
    · omega
    · split <;> omega
theorem sign_cost (acc : List Tk) (t : Tk) (c : Nat) (hf : ∀ u ∈ acc, u.fine) (ht : t.fine) (hs : t.sign ≠ 48) (h : blen (txt acc false) + blen (tkText t) ≤ c) : costs .idle (acc ++ [t]) c := by
  refine ⟨fun u hm => ?_, ?_⟩
  · rcases List.mem_append.1 hm with h | h
    · exact hf u h
    · simp at h; subst h; exact ht
  · show blen _ + (if endsNum _ _ then 1 else 0) ≤ c
    rw [txt_snoc _ ht acc false hf, if_neg hs, blen_append]
    have : endsNum (acc ++ [t]) false = false := by
      unfold endsNum
      rw [List.getLast?_concat]
      simp [hs]
    rw [this]
    simp
    exact h
theorem idle_cost {acc : List Tk} {c : Nat} {r : Int} {m' : Mode} {acc' : List Tk} (hf : ∀ t ∈ acc, t.fine) (h : blen (txt acc false) ≤ c) (h32 : r ≠ 32 → isDigit r = true → blen (txt acc false) + (if endsNum acc false then 1 else 0) ≤ c) (hs : idleStep acc r = some (m', acc')) : costs m' acc' (c + rlen r) := by
  unfold idleStep at hs
  split at hs
  · rename_i e
    simp only [Option.some.injEq, Prod.mk.injEq] at hs
    obtain ⟨rfl, rfl⟩ := hs
    refine ⟨hf, ?_⟩
    show _ + _ ≤ _
    have := @named_rlen r
    split <;> omega
  · rename_i e
    split at hs
    · rename_i hd
      simp only [Option.some.injEq, Prod.mk.injEq] at hs
      obtain ⟨rfl, rfl⟩ := hs
      have := h32 e hd
      have h1 := rlen_digit hd
      unfold isDigit at hd
      simp at hd
      refine ⟨hf, by omega, by unfold bigMax; omega, ?_⟩
      have h2 : (digs (r - 48).toNat).length = 1 := by
        unfold digs
        rw [dif_pos (by omega)]
        rfl
      rw [h2]
      omega
    · split at hs
      · rename_i hn
        simp only [Option.some.injEq, Prod.mk.injEq] at hs
        obtain ⟨rfl, rfl⟩ := hs
        exact ⟨hf, hn, by show _ ≤ _; omega⟩
      · rename_i hn
        split at hs
        · rename_i hk
          simp only [Option.some.injEq, Prod.mk.injEq] at hs
          obtain ⟨rfl, rfl⟩ := hs
          have h48 : r ≠ 48 := fun e => by rw [e] at hk; exact absurd hk (by decide)
          refine sign_cost acc _ _ hf (.inr (.inr ⟨h48, by simpa using hn, hk, rfl, rfl⟩)) h48 ?_
          have : tkText ⟨r, 0, 0⟩ = [r] := by unfold tkText; simp only; rw [if_neg h48, if_neg hn, if_pos hk]
          rw [this, blen_one]
          omega
        · cases hs
theorem mach_cost : ∀ (t : List Int) (m : Mode) (acc l : List Tk) (c : Nat), costs m acc c → mach m acc t = some l → blen (txt l false) ≤ c + blen t
  | [], m, acc, l, c, ⟨hf, h⟩, hs => by
    unfold mach at hs
    cases m with
    | idle => simp only [machEnd, Option.some.injEq] at hs; subst hs; simp only at h; omega
    | num n =>
      simp only [machEnd, Option.some.injEq] at hs
      subst hs
      have := (ofNum_cost acc n c hf h.1 h.2.1 h.2.2).2.1
      omega
    | pend s => simp [machEnd] at hs
  | r :: t, m, acc, l, c, ⟨hf, h⟩, hs => by
    unfold mach at hs
    rw [blen_cons]
    have key : ∀ m' acc', machStep m acc r = some (m', acc') → costs m' acc' (c + rlen r) := fun m' acc' hst => by
      cases m with
      | idle => exact idle_cost hf (by simp only at h; omega) (fun _ _ => h) hst
      | num n =>
        simp only [machStep] at hst
        obtain ⟨h0, h1, h2⟩ := h
        split at hst
        · rename_i hd
          split at hst
          · cases hst
          · rename_i ho
            simp only [Option.some.injEq, Prod.mk.injEq] at hst
            obtain ⟨rfl, rfl⟩ := hst
            have hr := rlen_digit hd
            unfold isDigit at hd
            simp at hd
            refine ⟨hf, by omega, by omega, ?_⟩
            have := digs_length n.toNat (r - 48).toNat (by omega)
            rw [show n.toNat * 10 + (r - 48).toNat = (n * 10 + (r - 48)).toNat by omega] at this
            omega
        · rename_i hd
          obtain ⟨g1, g2, g3⟩ := ofNum_cost acc n c hf h0 h1 h2
          exact idle_cost g1 g2 (fun _ hd' => absurd hd' hd) hst
      | pend s =>
        simp only [machStep] at hst
        split at hst
        · rename_i hn
          simp only [Option.some.injEq, Prod.mk.injEq] at hst
          obtain ⟨rfl, rfl⟩ := hst
          have hs48 := (named_not s h.1).2.2.2
          refine sign_cost acc _ _ hf (.inr (.inl ⟨h.1, rfl, hn⟩)) hs48 ?_
          have : tkText ⟨s, 0, r⟩ = [s, r] := by unfold tkText; simp only; rw [if_neg hs48, if_pos h.1, if_pos hn]
          rw [this, blen_cons, blen_one]
          have := h.2
          omega
        · cases hst
    cases hst : machStep m acc r with
    | none => rw [hst] at hs; cases hs
    | some x =>
      rw [hst] at hs
      have := mach_cost t x.1 x.2 l _ (key x.1 x.2 hst) hs
      omega
theorem tok_cost {r : List Int} {l : List Tk} (h : tokOf r = some l) : blen (txt l false) ≤ blen r := by
  have := mach_cost r .idle [] l 0 ⟨by simp, by simp [txt, blen, endsNum]⟩ h
  omega
theorem txt_split (a b : List Tk) (ha : ∀ t ∈ a, t.fine) (hb : ∀ t ∈ b, t.fine) : blen (txt a false) + blen (txt b false) ≤ blen (txt (a ++ b) false) := by
  have hm : ∀ (l : List Tk), blen (txt l false) ≤ blen (txt l true) := fun l => by
    induction l with
    | nil => exact Nat.le_refl _
    | cons t l ih =>
      simp only [txt]
      split
      · rw [blen_append, blen_append, blen_append, blen_append, if_neg (by simp)]
        have : blen [] = 0 := rfl
        omega
      · split
        · exact ih
        · exact Nat.le_refl _
  have key : ∀ (a : List Tk) (f : Bool), blen (txt a f) + blen (txt b false) ≤ blen (txt (a ++ b) f) := fun a => by
    induction a with
    | nil =>
      intro f
      cases f with
      | true => have := hm b; have e : blen (txt [] true) = 0 := rfl; rw [e]; show _ ≤ blen (txt b true); omega
      | false => have e : blen (txt [] false) = 0 := rfl; rw [e]; show _ ≤ blen (txt b false); omega
    | cons t a ih =>
      intro f
      rw [List.cons_append]
      simp only [txt]
      split
      · rw [blen_append, blen_append, blen_append, blen_append]
        have := ih true
        omega
      · split
        · exact ih f
        · rw [blen_append, blen_append]
          have := ih false
          omega
  exact key a false
end Go.Proofs.Ytdbhhnphpjdmbaa
