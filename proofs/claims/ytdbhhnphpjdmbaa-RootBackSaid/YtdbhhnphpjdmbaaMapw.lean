/- Maps from numbers to rows: runs of lookup and update at a map's block, and the words of a disk (lasting bytes, sectors that wait). -/
import Derived.Test.YtdbhhnphpjdmbaaSum
import Derived.Maps.RangeRun
namespace Go.Proofs.Ytdbhhnphpjdmbaa
open Go.RowKit
open Go.ChangeMaps (setBlock)
open Go.MapKept
set_option maxRecDepth 100000
set_option linter.unusedVariables false
set_option linter.unusedSimpArgs false
/-- bytes that last; sectors that wait, in the order in which the map got them -/
structure Dk where
  img : List UInt8
  wait : List (Int × List UInt8)
def Dk.len (D : Dk) : Nat := D.img.length / 64
def waitAt (l : List (Int × List UInt8)) (i : Int) : Option (List UInt8) := (l.find? (fun p => p.1 == i)).map (·.2)
def waitPut : List (Int × List UInt8) → Int → List UInt8 → List (Int × List UInt8)
  | [], i, b => [(i, b)]
  | p :: l, i, b => if p.1 = i then (i, b) :: l else p :: waitPut l i b
def sectorOf (img : List UInt8) (i : Int) : List UInt8 := (img.drop (i.toNat * 64)).take 64
def Dk.there (D : Dk) (i : Int) : Bool := decide (0 ≤ i) && decide (i < (D.len : Int))
def Dk.get (D : Dk) (i : Int) : List UInt8 := (waitAt D.wait i).getD (sectorOf D.img i)
def Dk.read (D : Dk) (i : Int) : Option (List UInt8) := if D.there i then some (D.get i) else none
def Dk.write (D : Dk) (i : Int) (b : List UInt8) : Dk := if D.there i = true ∧ b.length = 64 then ⟨D.img, waitPut D.wait i b⟩ else D
structure Dk.ok (D : Dk) : Prop where
  long : 64 ≤ D.img.length
  most : D.img.length ≤ 10240
  whole : D.img.length % 64 = 0
  keys : ∀ p ∈ D.wait, 0 ≤ p.1 ∧ p.1 < (D.len : Int)
  nodup : (D.wait.map (·.1)).Nodup
  rows : ∀ p ∈ D.wait, p.2.length = 64
theorem Dk.len_eq {D : Dk} (h : D.ok) : D.len * 64 = D.img.length := by
  have := h.whole
  unfold Dk.len
  omega
theorem Dk.there_iff (D : Dk) (i : Int) : D.there i = true ↔ 0 ≤ i ∧ i < (D.len : Int) := by simp [Dk.there]
theorem sectorOf_length {D : Dk} (h : D.ok) (i : Int) (hi : D.there i = true) : (sectorOf D.img i).length = 64 := by
  have h1 := (D.there_iff i).1 hi
  have h2 := D.len_eq h
  unfold sectorOf
  rw [List.length_take, List.length_drop]
  omega
theorem waitAt_mem {l : List (Int × List UInt8)} {i : Int} {b : List UInt8} (h : waitAt l i = some b) : (i, b) ∈ l := by
  unfold waitAt at h
  cases h1 : l.find? (fun p => p.1 == i) with
  | none => simp [h1] at h
  | some p =>
    rw [h1] at h
    have h2 := List.find?_some h1
    have h3 := List.mem_of_find?_eq_some h1
    simp at h h2
    obtain ⟨p1, p2⟩ := p
    simp_all
theorem get_length {D : Dk} (h : D.ok) (i : Int) (hi : D.there i = true) : (D.get i).length = 64 := by
  unfold Dk.get
  cases h1 : waitAt D.wait i with
  | none => exact sectorOf_length h i hi
  | some b => exact h.rows _ (waitAt_mem h1)
theorem mem_waitPut {l : List (Int × List UInt8)} {i : Int} {b : List UInt8} {p : Int × List UInt8} (h : p ∈ waitPut l i b) : p = (i, b) ∨ p ∈ l := by
  induction l with
  | nil => simp [waitPut] at h; exact .inl h
  | cons q l ih =>
    unfold waitPut at h
    split at h
    · rcases List.mem_cons.1 h with h | h
      · exact .inl h
      · exact .inr (List.mem_cons_of_mem _ h)
    · rcases List.mem_cons.1 h with h | h
      · exact .inr (h ▸ List.mem_cons_self ..)
      · rcases ih h with h | h
        · exact .inl h
        · exact .inr (List.mem_cons_of_mem _ h)
theorem keys_waitPut (l : List (Int × List UInt8)) (i : Int) (b : List UInt8) : (waitPut l i b).map (·.1) = if i ∈ l.map (·.1) then l.map (·.1) else l.map (·.1) ++ [i] := by
  induction l with
  | nil => simp [waitPut]
  | cons q l ih =>
    unfold waitPut
    split
    · rename_i h
      simp [h]
    · rename_i h
      rw [List.map_cons, ih]
      by_cases hm : i ∈ l.map (·.1)
      · simp only [hm, if_true, List.map_cons, List.mem_cons, or_true]
      · simp only [hm, if_false, List.map_cons, List.mem_cons, or_false, Ne.symm h, List.cons_append]
theorem waitAt_put (l : List (Int × List UInt8)) (i j : Int) (b : List UInt8) : waitAt (waitPut l i b) j = if j = i then some b else waitAt l j := by
  induction l with
  | nil =>
    unfold waitPut waitAt
    by_cases h : j = i
    · simp [h]
    · have h' : ¬ i = j := fun e => h e.symm
      simp [h, h']
  | cons q l ih =>
    unfold waitPut
    split
    · rename_i h
      unfold waitAt
      by_cases hj : j = i
      · simp [hj]
      · have h' : ¬ i = j := fun e => hj e.symm
        simp [hj, h', h]
    · rename_i h
      unfold waitAt at ih ⊢
      by_cases hq : q.1 = j
      · have hj : ¬ j = i := fun e => h (hq.trans e)
        simp [hq, hj]
      · have hq' : (q.1 == j) = false := by simpa using hq
        rw [List.find?_cons, hq', List.find?_cons, hq']
        exact ih
theorem Dk.write_ok {D : Dk} (h : D.ok) (i : Int) (b : List UInt8) : (D.write i b).ok := by
  unfold Dk.write
  split
  · rename_i hc
    have hi := (D.there_iff i).1 hc.1
    refine ⟨h.long, h.most, h.whole, fun p hp => ?_, ?_, fun p hp => ?_⟩
    · rcases mem_waitPut hp with rfl | hp
      · exact hi
      · exact h.keys p hp
    · show ((waitPut D.wait i b).map (·.1)).Nodup
      rw [keys_waitPut]
      split
      · exact h.nodup
      · rename_i hm
        rw [List.nodup_append]
        exact ⟨h.nodup, by simp, fun a ha c hc e => hm (by simp at hc; rw [← hc, ← e]; exact ha)⟩
    · rcases mem_waitPut hp with rfl | hp
      · exact hc.2
      · exact h.rows p hp
  · exact h
/-- one entry of the map's block, and what it stands for -/
def EntAt (w : World) (S : Nat → Prop) (lb : Nat) (e : MapEntry) (p : Int × List UInt8) : Prop :=
  e.key = .int .i64 p.1 ∧ ∃ vb c, e.val = .slice (some ⟨vb, 0, none⟩) 64 c ∧ 64 ≤ c ∧ S vb ∧ vb ≠ lb ∧ vb < w.heap.size ∧ Rd w (some ⟨vb, 0, none⟩) (bcells p.2)
def EntsAt (w : World) (S : Nat → Prop) (lb : Nat) : List MapEntry → List (Int × List UInt8) → Prop
  | [], [] => True
  | e :: es, p :: ps => EntAt w S lb e p ∧ EntsAt w S lb es ps
  | _, _ => False
theorem EntsAt.length {w : World} {S : Nat → Prop} {lb : Nat} : ∀ {es : List MapEntry} {ps : List (Int × List UInt8)}, EntsAt w S lb es ps → es.length = ps.length
  | [], [], _ => rfl
  | [], _ :: _, h => h.elim
  | _ :: _, [], h => h.elim
  | _ :: es, _ :: ps, h => by simp [EntsAt.length h.2]
theorem EntsAt.get {w : World} {S : Nat → Prop} {lb : Nat} : ∀ {es : List MapEntry} {ps : List (Int × List UInt8)}, EntsAt w S lb es ps → ∀ (k : Nat) (e : MapEntry), es[k]? = some e → ∃ p, ps[k]? = some p ∧ EntAt w S lb e p
  | [], [], _, k, e, h => by simp at h
  | [], _ :: _, h, _, _, _ => h.elim
  | _ :: _, [], h, _, _, _ => h.elim
  | x :: es, p :: ps, h, 0, e, hk => by
    simp at hk
    subst hk
    exact ⟨p, rfl, h.1⟩
  | x :: es, p :: ps, h, k + 1, e, hk => by simpa using EntsAt.get h.2 k e (by simpa using hk)
theorem EntsAt.mono {w w' : World} {S S' : Nat → Prop} {lb : Nat} : ∀ {es : List MapEntry} {ps : List (Int × List UInt8)}, EntsAt w S lb es ps → (∀ e p, EntAt w S lb e p → EntAt w' S' lb e p) → EntsAt w' S' lb es ps
  | [], [], _, _ => trivial
  | [], _ :: _, h, _ => h.elim
  | _ :: _, [], h, _ => h.elim
  | _ :: es, _ :: ps, h, hf => ⟨hf _ _ h.1, EntsAt.mono h.2 hf⟩
theorem EntsAt.push {w : World} {S : Nat → Prop} {lb : Nat} {x : MapEntry} {q : Int × List UInt8} (hx : EntAt w S lb x q) : ∀ {es : List MapEntry} {ps : List (Int × List UInt8)}, EntsAt w S lb es ps → EntsAt w S lb (es ++ [x]) (ps ++ [q])
  | [], [], _ => ⟨hx, trivial⟩
  | [], _ :: _, h => h.elim
  | _ :: _, [], h => h.elim
  | _ :: es, _ :: ps, h => ⟨h.1, EntsAt.push hx h.2⟩
/-- the key's place among the entries -/
theorem ents_find {w : World} {S : Nat → Prop} {lb : Nat} (i : Int) : ∀ {es : List MapEntry} {ps : List (Int × List UInt8)} (j : Nat), EntsAt w S lb es ps →
    (waitAt ps i = none ∧ Instr.findNow (.int .i64) (.int .i64 i) es j = some none ∧ ∀ b, waitPut ps i b = ps ++ [(i, b)]) ∨
    ∃ k e b, waitAt ps i = some b ∧ es[k]? = some e ∧ EntAt w S lb e (i, b) ∧ Instr.findNow (.int .i64) (.int .i64 i) es j = some (some (j + k, e.val)) ∧
      ∀ b' x, EntAt w S lb x (i, b') → EntsAt w S lb (es.set k x) (waitPut ps i b')
  | [], [], j, _ => .inl ⟨rfl, rfl, fun _ => rfl⟩
  | [], _ :: _, _, h => h.elim
  | _ :: _, [], _, h => h.elim
  | e :: es, p :: ps, j, h => by
    have hk := h.1.1
    by_cases hi : p.1 = i
    · refine .inr ⟨0, e, p.2, ?_, rfl, ?_, ?_, ?_⟩
      · simp [waitAt, hi]
      · rw [← hi]
        exact h.1
      · unfold Instr.findNow
        simp [hk, Instr.sameNow, hi]
      · intro b' x hx
        unfold waitPut
        rw [if_pos hi]
        exact ⟨hx, h.2⟩
    · have hi' : (p.1 == i) = false := by simpa using hi
      have hi2 : (i == p.1) = false := by simpa using fun e => hi e.symm
      have hw : waitAt (p :: ps) i = waitAt ps i := by
        unfold waitAt
        rw [List.find?_cons, hi']
      have hf : Instr.findNow (.int .i64) (.int .i64 i) (e :: es) j = Instr.findNow (.int .i64) (.int .i64 i) es (j + 1) := by
        conv => lhs; unfold Instr.findNow
        simp [hk, Instr.sameNow, hi2]
      rcases ents_find i (j + 1) h.2 with ⟨h1, h2, h3⟩ | ⟨k, x, b, h1, h2, h3, h4, h5⟩
      · refine .inl ⟨hw.trans h1, hf.trans h2, fun b => ?_⟩
        unfold waitPut
        rw [if_neg hi, h3]
        rfl
      · refine .inr ⟨k + 1, x, b, hw.trans h1, by simpa using h2, h3, ?_, fun b' y hy => ?_⟩
        · rw [hf, h4]
          simp
          omega
        · unfold waitPut
          rw [if_neg hi]
          exact ⟨h.1, h5 b' y hy⟩
section
variable {P : Program}
theorem run_lookup_int (w : World) (T K E : TypeId) (hT : P.underlying T = some (.map K E)) (hK : P.underlying K = some (.int .i64)) (hz : ∀ W, (zeroValue E).run P W = .ok (.slice none 0 0) W) (mb : Nat) (es : Array MapEntry) (clock : Nat) (hb : w.heap[mb]? = some (.map es clock)) (i : Int) (r : Option (Nat × Value)) (hf : Instr.findNow (.int .i64) (.int .i64 i) es.toList 0 = some r) :
    (Instr.lookup T (.map (some mb)) (.int .i64 i) true).run P w = .ok (.tuple #[(r.map (·.2)).getD (.slice none 0 0), .bool r.isSome]) w := by
  unfold Instr.lookup
  simp only [Sem.run_bind, run_underlying hT, Result.andThen, MapKept.run_getObj_map hb, Sem.run_pure]
  rw [run_checkKey hK (by simp [IsKey])]
  simp only [Result.andThen, run_findKey hK hf]
  cases r with
  | none => simp [Sem.run_bind, hz, Result.andThen, Sem.run_pure]
  | some x => simp [Sem.run_pure]
theorem run_update_old (w : World) (T K E : TypeId) (hT : P.underlying T = some (.map K E)) (hK : P.underlying K = some (.int .i64)) (mb : Nat) (es : Array MapEntry) (clock : Nat) (hb : w.heap[mb]? = some (.map es clock)) (i : Int) (v : Value) (k : Nat) (e : MapEntry) (he : es[k]? = some e) (hk : e.key = .int .i64 i) (ov : Value) (hf : Instr.findNow (.int .i64) (.int .i64 i) es.toList 0 = some (some (k, ov))) :
    (Instr.mapUpdate T (.map (some mb)) (.int .i64 i) v).run P w = .ok () (setBlock w mb (.map (es.modify k fun e => { e with key := .int .i64 i, val := v }) clock)) := by
  unfold Instr.mapUpdate
  simp only [Sem.run_bind, run_underlying hT, Result.andThen, MapKept.run_getObj_map hb, Sem.run_pure]
  rw [run_checkKey hK (by simp [IsKey])]
  simp only [Result.andThen, run_findKey hK hf, he, Option.map_some, Option.getD_some, hk]
  have h1 : (Instr.keyThatStays (.int .i64 i) (.int .i64 i)).run P w = .ok (.int .i64 i) w := by
    simp [Instr.keyThatStays, Instr.sameBits, Sem.run_pure]
  simp only [Sem.run_bind, h1, Result.andThen]
  exact run_setObj_map _ hb
theorem run_update_new (w : World) (T K E : TypeId) (hT : P.underlying T = some (.map K E)) (hK : P.underlying K = some (.int .i64)) (mb : Nat) (es : Array MapEntry) (clock : Nat) (hb : w.heap[mb]? = some (.map es clock)) (i : Int) (v : Value) (hf : Instr.findNow (.int .i64) (.int .i64 i) es.toList 0 = some none) :
    (Instr.mapUpdate T (.map (some mb)) (.int .i64 i) v).run P w = .ok () (setBlock w mb (.map (es.push { key := .int .i64 i, val := v, born := clock }) (clock + 1))) := by
  unfold Instr.mapUpdate
  simp only [Sem.run_bind, run_underlying hT, Result.andThen, MapKept.run_getObj_map hb, Sem.run_pure]
  rw [run_checkKey hK (by simp [IsKey])]
  simp only [Result.andThen, run_findKey hK hf]
  exact run_setObj_map _ hb
end
/-- a disk in memory: a its block, S all blocks that are its own -/
def DkAt (w : World) (S : Nat → Prop) (a : Nat) (D : Dk) : Prop :=
  ∃ lb c mb es clock, S a ∧ S lb ∧ S mb ∧ (∀ i, S i → i < w.heap.size) ∧
    w.heap[a]? = some (.cells #[.slice (some ⟨lb, 0, none⟩) D.img.length c, .map (some mb)] 128) ∧
    w.ownsRow 0 5 1 (.slice (some ⟨lb, 0, none⟩) D.img.length c) D.img.length (bcells D.img) ∧
    w.heap[mb]? = some (.map es clock) ∧ EntsAt w S lb es.toList D.wait ∧ (es.toList.map (·.born)).Nodup ∧ (∀ e ∈ es.toList, e.born < clock) ∧ D.ok
theorem EntAt.keep {w w' : World} {S : Nat → Prop} {lb : Nat} {e : MapEntry} {p : Int × List UInt8} (h : EntAt w S lb e p) (hs : w.heap.size ≤ w'.heap.size) (hS : ∀ i, S i → i ≠ lb → i < w.heap.size → (∀ es c, w.heap[i]? ≠ some (.map es c)) → w'.heap[i]? = w.heap[i]?) : EntAt w' S lb e p := by
  obtain ⟨hk, vb, c, hv, hc, hSv, hl, hlt, hr⟩ := h
  refine ⟨hk, vb, c, hv, hc, hSv, hl, by omega, fun hne => ?_⟩
  obtain ⟨ad, h1, h2⟩ := hr hne
  cases h1
  refine ⟨_, rfl, fun j v hj => ?_⟩
  have h3 := h2 j v hj
  rw [← h3]
  refine World.cell?_of_block (by
    rw [add_block]
    refine hS vb hSv hl hlt (fun es c he => ?_)
    rw [add_at] at h3
    unfold World.cell? at h3
    rw [he] at h3
    simp at h3)
/-- what is no block of a disk's own does not touch it -/
theorem DkAt.keep {w w' : World} {S T : Nat → Prop} {a : Nat} {D : Dk} (h : DkAt w S a D) (hk : Keeps T w w') (hd : ∀ i, S i → ¬ T i) : DkAt w' S a D := by
  obtain ⟨lb, c, mb, es, clock, ha, hl, hm, hlt, h1, h2, h3, h4, h5, h6, h7⟩ := h
  have hb : ∀ i, S i → w'.heap[i]? = w.heap[i]? := fun i hi => hk.block i (hlt i hi) (hd i hi)
  refine ⟨lb, c, mb, es, clock, ha, hl, hm, fun i hi => Nat.lt_of_lt_of_le (hlt i hi) hk.size, by rw [hb a ha]; exact h1, own_move' h2 (fun k hkk => by
    have : lb = k := by simpa [Value.ownBlock] using hkk
    exact this ▸ hb lb hl), by rw [hb mb hm]; exact h3, h4.mono fun e p he => he.keep hk.size (fun i hi _ _ _ => hb i hi), h5, h6, h7⟩
theorem DkAt.below {w w' : World} {S : Nat → Prop} {a : Nat} {D : Dk} (h : DkAt w S a D) (hb : Below w.heap.size w w') : DkAt w' S a D :=
  h.keep (T := fun _ => False) (Keeps.of_below hb) (fun _ _ h => h)
theorem DkAt.lt {w : World} {S : Nat → Prop} {a : Nat} {D : Dk} (h : DkAt w S a D) : ∀ i, S i → i < w.heap.size := by
  obtain ⟨lb, c, mb, es, clock, ha, hl, hm, hlt, _⟩ := h
  exact hlt
theorem DkAt.okD {w : World} {S : Nat → Prop} {a : Nat} {D : Dk} (h : DkAt w S a D) : D.ok := by
  obtain ⟨lb, c, mb, es, clock, ha, hl, hm, hlt, h1, h2, h3, h4, h5, h6, h7⟩ := h
  exact h7
theorem DkAt.mem {w : World} {S : Nat → Prop} {a : Nat} {D : Dk} (h : DkAt w S a D) : S a := by
  obtain ⟨lb, c, mb, es, clock, ha, _⟩ := h
  exact ha
end Go.Proofs.Ytdbhhnphpjdmbaa
