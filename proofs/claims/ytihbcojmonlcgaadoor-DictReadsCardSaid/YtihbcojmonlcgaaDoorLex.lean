/- A region's lexical order, shown by a cheap walk over its list. -/
import Derived.Test.YtihbcojmonlcgaaDoorBase
import Derived.BigQuiet
namespace Go.Proofs.YtihbcojmonlcgaaDoor
open Go.RowKit

def lexTail (ops : Array Oper) (oi : Oper) (k : Nat) : List Oper → Bool
  | [] => true
  | oj :: l => (oj.after.toList.any (fun e => Region.binds .any e && e.on == k) || oi.apart ops oj) && lexTail ops oi k l
def lexGo (ops : Array Oper) : List Oper → Nat → Bool
  | [], _ => true
  | o :: l, k => (o.after.toList.all fun e => !Region.binds .any e || decide (e.on < k)) && lexTail ops o k l && lexGo ops l (k + 1)
def selGo : List Oper → Bool
  | [] => true
  | o :: l => (match o.op with | .select .. => false | _ => true) && selGo l
theorem selGo_all (l : List Oper) (h : selGo l = true) : Region.noSelect l.toArray = true := by
  unfold Region.noSelect
  rw [Array.all_eq_true_iff_forall_mem]
  intro o ho
  have ho' : o ∈ l := by simpa using ho
  induction l with
  | nil => cases ho'
  | cons x l ih =>
    unfold selGo at h
    rw [Bool.and_eq_true] at h
    rcases List.mem_cons.1 ho' with rfl | hm
    · exact h.1
    · exact ih h.2 (by simpa using hm) hm
theorem lexTail_get {ops : Array Oper} {oi : Oper} {k : Nat} : ∀ {l : List Oper}, lexTail ops oi k l = true → ∀ (j : Nat) (oj : Oper), l[j]? = some oj → (oj.after.any (fun e => Region.binds .any e && e.on == k) || oi.apart ops oj) = true
  | [], _, _, _, h => by simp at h
  | x :: l, h, 0, oj, hj => by
    unfold lexTail at h
    rw [Bool.and_eq_true] at h
    have : x = oj := by simpa using hj
    subst this
    simpa using h.1
  | x :: l, h, j + 1, oj, hj => by
    unfold lexTail at h
    rw [Bool.and_eq_true] at h
    exact lexTail_get h.2 j oj (by simpa using hj)
theorem lexFrom_of (ops : Array Oper) : ∀ (l : List Oper) (k : Nat) (listed : Array Bool), lexGo ops l k = true → ops.size = k + l.length → (∀ j : Nat, l[j]? = ops[k + j]?) →
    listed.size = ops.size → (∀ j : Nat, j < ops.size → listed[j]? = some (decide (j < k))) → Region.lexFrom .any ops l.length k listed = true
  | [], k, listed, _, hn, _, hs, hl => by
    have hn' : ops.size = k := by simpa using hn
    simp only [List.length_nil, Region.lexFrom]
    rw [List.isEmpty_iff, List.eq_nil_iff_forall_not_mem]
    intro j hj
    obtain ⟨h0, o, ho, _⟩ := mem_ready.1 hj
    have hlt : j < ops.size := (Array.getElem?_eq_some_iff.1 ho).1
    have := hl j hlt
    rw [Array.getD_eq_getD_getElem?, this] at h0
    simp at h0
    omega
  | o :: l, k, listed, hg, hn, hl, hs, hb => by
    unfold lexGo at hg
    rw [Bool.and_eq_true, Bool.and_eq_true] at hg
    obtain ⟨⟨h1, h2⟩, h3⟩ := hg
    have hn' : ops.size = k + (l.length + 1) := by simpa using hn
    have hk : k < ops.size := by omega
    have ho : ops[k]? = some o := by simpa using (hl 0).symm
    simp only [List.length_cons, Region.lexFrom, Bool.and_eq_true]
    refine ⟨⟨?_, ?_⟩, ?_⟩
    · rw [List.contains_iff_mem]
      refine mem_ready.2 ⟨?_, o, ho, fun e he hbe => ?_⟩
      · rw [Array.getD_eq_getD_getElem?, hb k hk]
        simp
      · have := List.all_eq_true.1 h1 e (by simpa using he)
        rw [hbe] at this
        have hlt : e.on < k := by simpa using this
        rw [Array.getD_eq_getD_getElem?, hb e.on (by omega)]
        simpa using hlt
    · unfold Region.free
      rw [ho]
      simp only [List.all_eq_true, List.mem_range]
      intro j hj
      by_cases hjk : j < k
      · rw [Array.getD_eq_getD_getElem?, hb j hj]
        simp [hjk]
      · by_cases hje : j = k
        · simp [hje]
        · obtain ⟨i, rfl⟩ : ∃ i, j = k + (i + 1) := ⟨j - k - 1, by omega⟩
          have hi := hl (i + 1)
          rw [List.getElem?_cons_succ] at hi
          cases hoj : ops[k + (i + 1)]? with
          | none => simp
          | some oj =>
            have := lexTail_get h2 i oj (by rw [hi]; exact hoj)
            simp only [this, Bool.or_true]
    · refine lexFrom_of ops l (k + 1) _ h3 (by omega) (fun j => ?_) (by simp [hs]) (fun j hj => ?_)
      · have := hl (j + 1)
        rw [List.getElem?_cons_succ] at this
        rw [this]
        congr 1
        omega
      · rw [Array.getElem?_setIfInBounds]
        by_cases e : k = j
        · subst e
          simp [hs, hj]
        · rw [if_neg e, hb j hj]
          congr 1
          rw [decide_eq_decide]
          omega
theorem lexB_of (l : List Oper) (h1 : selGo l = true) (h2 : lexGo l.toArray l 0 = true) : Region.lexB .any l.toArray = true := by
  unfold Region.lexB
  rw [Bool.and_eq_true]
  refine ⟨selGo_all l h1, ?_⟩
  have := lexFrom_of l.toArray l 0 (Array.replicate l.toArray.size false) h2 (by simp) (fun j => by simp) (by simp) (fun j hj => by
    rw [Array.getElem?_replicate]; simp at hj; simp [hj])
  simpa using this
/-- A region that only reads, however large. -/
theorem wp_region_quiet_big {P : Program} {id : Nat} {Q : Exit → Act → World → Prop} {a : Act} {w : World} {l : List Oper} (hm : P.follows .mixedOrders = true) (h1 : selGo l = true) (h2 : lexGo l.toArray l 0 = true)
    (h : wpQuiet P l.toArray (fun w' => ∃ n, w' = w.drewN n) (fun a' => ∀ w', (∃ n, w' = w.drewN n) → Q .normal a' w') l a) : (Code.region id l.toArray true).wp P Q a w :=
  wp_region_quiet_lit hm (lexB_of l h1 h2) h
end Go.Proofs.YtihbcojmonlcgaaDoor
