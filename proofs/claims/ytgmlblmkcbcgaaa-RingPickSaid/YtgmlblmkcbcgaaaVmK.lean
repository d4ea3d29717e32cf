/-
  An abstract walk over Go's code: regions in whatever order, branches, loops, whole functions.
-/
import Derived.Test.YtgmlblmkcbcgaaaVmJ
namespace Go.Vm
set_option linter.unusedVariables false
set_option linter.unusedSimpArgs false
open Go Go.RowKit

/-! ### regions in whatever order -/

theorem length_befs : ∀ (os : List Oper) (acc : List Nat), (befs os acc).length = acc.length + os.length
  | [], acc => by simp [befs]
  | o :: os, acc => by simp [befs, length_befs os]; omega

theorem befs_acc : ∀ (os : List Oper) (acc : List Nat) (i : Nat), i < acc.length → (befs os acc)[i]? = acc[i]?
  | [], _, _, _ => rfl
  | o :: os, acc, i, h => by
    rw [befs, befs_acc os _ i (by simp; omega), List.getElem?_append, if_pos h]

theorem testBit_befMask (acc : List Nat) (l : List Edge) (p : Nat) : ∀ (s : Nat), (l.foldl (fun s e => bif Region.binds .any e then s ||| 2 ^ e.on ||| acc.getD e.on 0 else s) s).testBit p = true →
    s.testBit p = true ∨ ∃ e ∈ l, Region.binds .any e = true ∧ (p = e.on ∨ (acc.getD e.on 0).testBit p = true) := by
  induction l with
  | nil => intro s h; exact .inl h
  | cons e l ih =>
    intro s h
    simp only [List.foldl_cons] at h
    rcases ih _ h with h1 | ⟨e', he', h2⟩
    · cases hb : Region.binds .any e with
      | false => rw [hb] at h1; exact .inl h1
      | true =>
        rw [hb] at h1
        simp only [cond_true, Nat.testBit_or, Bool.or_eq_true] at h1
        rcases h1 with (h1 | h1) | h1
        · exact .inl h1
        · right
          refine ⟨e, by simp, hb, .inl ?_⟩
          rw [Nat.testBit_two_pow] at h1
          have : e.on = p := by simpa using h1
          exact this.symm
        · exact .inr ⟨e, by simp, hb, .inr h1⟩
    · exact .inr ⟨e', by simp [he'], h2⟩

/-- What an operation's mask names, the edges name: in steps. -/
theorem befs_closed {ops : List Oper} (S : Nat → Prop) (hS : ∀ i (o : Oper), ops[i]? = some o → S i → ∀ e ∈ o.after.toList, Region.binds .any e = true → S e.on) :
    ∀ (n : Nat) (done rest : List Oper) (acc : List Nat), rest.length = n → ops = done ++ rest → acc.length = done.length →
      (∀ i (o : Oper), i < done.length → ops[i]? = some o → (∀ e ∈ o.after.toList, Region.binds .any e = true → S e.on) → ∀ p, (acc.getD i 0).testBit p = true → S p) →
      ∀ i (o : Oper), ops[i]? = some o → (∀ e ∈ o.after.toList, Region.binds .any e = true → S e.on) → ∀ p, ((befs rest acc).getD i 0).testBit p = true → S p := by
  intro n
  induction n with
  | zero =>
    intro done rest acc hn ho hl hacc i o hi he p hp
    have : rest = [] := List.eq_nil_of_length_eq_zero hn
    subst this
    rw [befs] at hp
    refine hacc i o ?_ hi he p hp
    have := (List.getElem?_eq_some_iff.1 hi).1
    rw [ho] at this
    simpa using this
  | succ n ih =>
    intro done rest acc hn ho hl hacc
    match rest, hn with
    | o0 :: rest, hn =>
      rw [befs]
      refine ih (done ++ [o0]) rest (acc ++ [befMask acc o0]) (by simpa using hn) (by simp [ho]) (by simp [hl]) ?_
      intro i o hlt hi he p hp
      by_cases hid : i < done.length
      · have : (acc ++ [befMask acc o0]).getD i 0 = acc.getD i 0 := by
          simp [List.getD, List.getElem?_append, show i < acc.length by omega]
        rw [this] at hp
        exact hacc i o hid hi he p hp
      · have hie : i = done.length := by simp at hlt; omega
        subst hie
        have e1 : (acc ++ [befMask acc o0]).getD done.length 0 = befMask acc o0 := by
          simp [List.getD, ← hl]
        rw [e1] at hp
        have e2 : o = o0 := by
          rw [ho] at hi
          simp at hi
          exact hi.symm
        subst e2
        rcases testBit_befMask acc o.after.toList p 0 hp with h0 | ⟨e, he1, he2, he3⟩
        · simp at h0
        · have hse := he e he1 he2
          rcases he3 with rfl | he3
          · exact hse
          · -- the mask of the operation that the edge names
            have hlt : e.on < done.length := by
              rcases Nat.lt_or_ge e.on acc.length with h | h
              · omega
              · simp [List.getD, List.getElem?_eq_none h] at he3
            have hoe : ∃ oe, ops[e.on]? = some oe := ⟨_, List.getElem?_eq_getElem (by rw [ho]; simp; omega)⟩
            obtain ⟨oe, hoe⟩ := hoe
            exact hacc e.on oe hlt hoe (hS e.on oe hoe hse) p he3

theorem mem_ready {md : Region.Mode} {ops : Array Oper} {listed : Array Bool} {i : Nat} : i ∈ Region.ready md ops listed ↔ i < ops.size ∧ listed.getD i true = false ∧ ∀ o, ops[i]? = some o → ∀ e ∈ o.after.toList, Region.binds md e = true → listed.getD e.on false = true := by
  unfold Region.ready
  simp only [List.mem_filter, List.mem_range, Bool.and_eq_true, Bool.not_eq_true']
  constructor
  · rintro ⟨h1, h2, h3⟩
    refine ⟨h1, h2, fun o ho e he hb => ?_⟩
    rw [ho] at h3
    simp only [Option.map_some, Option.getD_some, Array.all_eq_true_iff_forall_mem] at h3
    have := h3 e (Array.mem_toList_iff.1 he)
    simpa [hb] using this
  · rintro ⟨h1, h2, h3⟩
    refine ⟨h1, h2, ?_⟩
    have ho : ops[i]? = some ops[i] := by simp [h1]
    rw [ho]
    simp only [Option.map_some, Option.getD_some, Array.all_eq_true_iff_forall_mem]
    intro e he
    cases hb : Region.binds md e with
    | false => rfl
    | true => simpa [hb] using h3 ops[i] ho e (Array.mem_toList_iff.2 he) hb

/-- How many are yet to be done. -/
def leftN (n : Nat) (listed : Array Bool) : Nat := ((List.range n).filter fun i => !listed.getD i true).length

theorem leftN_step {n : Nat} {listed : Array Bool} (hs : listed.size = n) {i : Nat} (hi : i < n) (hl : listed.getD i true = false) : leftN n (listed.setIfInBounds i true) + 1 = leftN n listed := by
  unfold leftN
  have hset : ∀ j, (listed.setIfInBounds i true).getD j true = if j = i then true else listed.getD j true := by
    intro j
    simp only [Array.getD_eq_getD_getElem?, Array.getElem?_setIfInBounds]
    by_cases h : i = j
    · subst h; simp [hs, hi]
    · have : j ≠ i := fun e => h e.symm
      simp [h, this]
  have key : ∀ (l : List Nat), l.Nodup → ((l.filter fun j => !(listed.setIfInBounds i true).getD j true).length + if i ∈ l then 1 else 0) = (l.filter fun j => !listed.getD j true).length := by
    intro l
    induction l with
    | nil => intro _; rfl
    | cons x l ih =>
      intro hnd
      have hnd' := List.nodup_cons.1 hnd
      have h0 := ih hnd'.2
      by_cases hx : x = i
      · subst hx
        have hni : x ∉ l := hnd'.1
        rw [if_neg hni] at h0
        have e1 : (!(listed.setIfInBounds x true).getD x true) = false := by rw [hset]; simp
        have e2 : (!listed.getD x true) = true := by rw [hl]; rfl
        simp only [List.filter_cons, e1, e2, if_true, List.length_cons, List.mem_cons, true_or]
        simp only [Bool.false_eq_true, if_false]
        omega
      · have e1 : (!(listed.setIfInBounds i true).getD x true) = (!listed.getD x true) := by rw [hset, if_neg hx]
        simp only [List.filter_cons, e1]
        have e3 : (i ∈ x :: l) ↔ i ∈ l := by
          rw [List.mem_cons]
          exact ⟨fun h => h.resolve_left (fun e => hx e.symm), .inr⟩
        simp only [e3]
        cases hb : (!listed.getD x true) with
        | true => simp only [if_true, List.length_cons]; omega
        | false => simp only [Bool.false_eq_true, if_false]; exact h0
  have := key (List.range n) List.nodup_range
  rw [if_pos (by simpa using hi)] at this
  exact this

theorem leftN_zero {n : Nat} {listed : Array Bool} (h : leftN n listed = 0) (i : Nat) (hi : i < n) : listed.getD i true = true := by
  unfold leftN at h
  have h0 := List.eq_nil_of_length_eq_zero h
  have h1 := List.filter_eq_nil_iff.1 h0 i (by simpa using hi)
  cases hb : listed.getD i true with
  | true => rfl
  | false => rw [hb] at h1; simp at h1

/-- A REGION IN WHATEVER ORDER ITS EDGES ALLOW: what it leaves is what the order of the text leaves. -/
theorem ents_any {P : Program} {N : Nat} {ops : Array Oper} {es : List Ent} {t t' : Nat → TV} {m m' : Id → Mem} (h : Ents P N ops ops.toList es t m t' m') (hc : chk ops.toList (es.map Ent.mask) = true)
    {E : Env} (hP : E.P = P) (hN : E.N = N) {Q : Exit → Act → World → Prop} (hQ : ∀ ρ' a' w', Rel E ρ' t' m' a' w' → Q .normal a' w') :
    ∀ (fuel : Nat) (listed : Array Bool) (ρ : Id → Option (Nat × Nat)) (a : Act) (w : World), listed.size = ops.size → leftN ops.size listed = fuel →
      (∀ i (o : Oper), ops.toList[i]? = some o → listed.getD i false = true → ∀ e ∈ o.after.toList, Region.binds .any e = true → listed.getD e.on false = true) →
      Rel E ρ (fT es (fun i => listed.getD i false) 0 t) (fM es (fun i => listed.getD i false) 0 m) a w → wpAny P .any ops Q fuel listed a w := by
  have hel : es.length = ops.size := by rw [h.length]; simp
  -- what the check has held
  have hc' : ∀ j, j < ops.size → (∀ o, ops.toList[j]? = some o → ∀ e ∈ o.after.toList, Region.binds .any e = true → e.on < j) ∧
      ∀ i, i < j → ∀ ei ej, es[i]? = some ei → es[j]? = some ej → conf ei.mask ej.mask = true → ((befs ops.toList []).getD j 0).testBit i = true := by
    intro j hj
    unfold chk at hc
    simp only [List.all_eq_true, List.mem_range, Bool.and_eq_true] at hc
    obtain ⟨c1, c2⟩ := hc j (by simpa using hj)
    refine ⟨fun o ho e he hb => ?_, fun i hi ei ej h1 h2 hcf => ?_⟩
    · rw [ho] at c1
      simp only [Option.map_some, Option.getD_some, List.all_eq_true] at c1
      have := c1 e he
      rw [hb] at this
      exact lt_of_blt (by simpa using this)
    · have := c2 i hi
      have e1 : (es.map Ent.mask).getD i (0, 0) = ei.mask := by simp [List.getD, h1]
      have e2 : (es.map Ent.mask).getD j (0, 0) = ej.mask := by simp [List.getD, h2]
      rw [e1, e2, hcf] at this
      simpa using this
  intro fuel
  induction fuel with
  | zero =>
    intro listed ρ a w hs hleft hclo hR
    have hall : ∀ i, i < ops.size → listed.getD i true = true := leftN_zero hleft
    refine ⟨?_, ?_⟩
    · rw [List.eq_nil_iff_forall_not_mem]
      intro i hi
      have := mem_ready.1 hi
      rw [hall i this.1] at this
      simp at this
    · have hf := h.final (fun i => listed.getD i false) 0 (fun i hi => by
        rw [Nat.zero_add]
        have := hall i (by omega)
        have hlt : i < listed.size := by omega
        simp only [Array.getD_eq_getD_getElem?, Array.getElem?_eq_getElem hlt, Option.getD_some] at this ⊢
        exact this)
      rw [hf.1, hf.2] at hR
      exact hQ ρ a w hR
  | succ fuel ih =>
    intro listed ρ a w hs hleft hclo hR
    have hgd : ∀ i, i < ops.size → listed.getD i false = listed.getD i true := fun i hi => by
      have hlt : i < listed.size := by omega
      simp [Array.getD_eq_getD_getElem?, Array.getElem?_eq_getElem hlt]
    refine ⟨fun hr => ?_, fun i hi => ?_⟩
    · -- some one is ready while any is left
      exfalso
      have hex : ∃ i, i < ops.size ∧ listed.getD i true = false := by
        refine Classical.byContradiction fun hn => ?_
        have hz : leftN ops.size listed = 0 := by
          unfold leftN
          rw [List.length_eq_zero_iff, List.filter_eq_nil_iff]
          intro i hi
          cases hb : listed.getD i true with
          | true => simp
          | false => exact absurd ⟨i, by simpa using hi, hb⟩ hn
        omega
      have hmin : ∀ n, (∃ i, i ≤ n ∧ i < ops.size ∧ listed.getD i true = false) → ∃ i, i < ops.size ∧ listed.getD i true = false ∧ ∀ j, j < i → listed.getD j true = true := by
        intro n
        induction n with
        | zero => rintro ⟨i, h1, h2, h3⟩; exact ⟨i, h2, h3, fun j hj => by omega⟩
        | succ n ihn =>
          rintro ⟨i, h1, h2, h3⟩
          by_cases hp : ∃ i, i ≤ n ∧ i < ops.size ∧ listed.getD i true = false
          · exact ihn hp
          · refine ⟨i, h2, h3, fun j hj => ?_⟩
            cases hb : listed.getD j true with
            | true => rfl
            | false => exact absurd ⟨j, by omega, by omega, hb⟩ hp
      obtain ⟨i0, hi0, hl0⟩ := hex
      obtain ⟨i, hi, hl, hm⟩ := hmin i0 ⟨i0, Nat.le_refl _, hi0, hl0⟩
      have : i ∈ Region.ready .any ops listed := mem_ready.2 ⟨hi, hl, fun o ho e he hb => by
        have hlt := (hc' i hi).1 o (by simpa using ho) e he hb
        rw [hgd _ (by omega)]
        exact hm _ hlt⟩
      rw [hr] at this
      simp at this
    · obtain ⟨hin, hl, hdeps⟩ := mem_ready.1 hi
      have hlf : listed.getD i false = false := by rw [hgd i hin]; exact hl
      have hoi : ops[i]? = some ops[i] := by simp [hin]
      have hoi' : ops.toList[i]? = some ops[i] := by simp [hin]
      have hei : es[i]? = some es[i] := by simp [show i < es.length by omega]
      -- what stands before i is done; what is done behind i does not meet it
      have hbef : ∀ p, ((befs ops.toList []).getD i 0).testBit p = true → listed.getD p false = true :=
        befs_closed (fun j => listed.getD j false = true) (fun j o ho hj e he hb => hclo j o ho hj e he hb) _ [] ops.toList [] rfl rfl rfl (fun _ _ h => absurd h (Nat.not_lt_zero _)) i ops[i] hoi' (fun e he hb => hdeps ops[i] hoi e he hb)
      have hbefS : ∀ j, j < ops.size → listed.getD j false = true → ∀ p, ((befs ops.toList []).getD j 0).testBit p = true → listed.getD p false = true := by
        intro j hj hlj
        have hoj' : ops.toList[j]? = some ops[j] := by simp [hj]
        exact befs_closed (fun j => listed.getD j false = true) (fun j o ho hj e he hb => hclo j o ho hj e he hb) _ [] ops.toList [] rfl rfl rfl (fun _ _ h => absurd h (Nat.not_lt_zero _)) j ops[j] hoj' (fun e he hb => hclo j ops[j] hoj' hlj e he hb)
      have hlow : ∀ j ej, j < i → es[j]? = some ej → conf ej.mask es[i].mask = true → listed.getD j false = true := fun j ej hji hej hcf => hbef j ((hc' i hin).2 j hji ej es[i] hej hei hcf)
      have hhigh : ∀ j ej, i < j → es[j]? = some ej → conf es[i].mask ej.mask = true → listed.getD j false = false := fun j ej hij hej hcf => by
        have hj : j < ops.size := by have := (List.getElem?_eq_some_iff.1 hej).1; omega
        cases hb : listed.getD j false with
        | false => rfl
        | true =>
          have := hbefS j hj hb i ((hc' j hj).2 i hij es[i] ej hei hej hcf)
          rw [hlf] at this
          simp at this
      have hat := h.at 0 i ops[i] es[i] hoi' hei
      rw [Nat.zero_add] at hat
      have hagS : ∀ s ∈ es[i].rdS, fT es (fun i => listed.getD i false) 0 t s = fT es (fun j => decide (j < i)) 0 t s := fun s hs =>
        fT_agree es _ _ 0 t t s rfl (fun j ej hej hws => by
          rw [Nat.zero_add]
          rcases Nat.lt_trichotomy j i with hji | hji | hji
          · rw [hlow j ej hji hej (conf_slot (s := s) (.inl ⟨hws, .inl hs⟩))]; simp [hji]
          · subst hji; rw [hlf]; simp
          · rw [hhigh j ej hji hej (conf_slot (s := s) (.inr ⟨hs, hws⟩))]; simp; omega)
      have hagM : ∀ b : Id, b.key ∈ es[i].rdM → fM es (fun i => listed.getD i false) 0 m b = fM es (fun j => decide (j < i)) 0 m b := fun b hb =>
        fM_agree es _ _ 0 m m b rfl (fun j ej hej hws => by
          rw [Nat.zero_add]
          rcases Nat.lt_trichotomy j i with hji | hji | hji
          · rw [hlow j ej hji hej (conf_obj (s := b) (.inl ⟨hws, .inl hb⟩))]; simp [hji]
          · subst hji; rw [hlf]; simp
          · rw [hhigh j ej hji hej (conf_obj (s := b) (.inr ⟨hb, hws⟩))]; simp; omega)
      have hset : ∀ j, (listed.setIfInBounds i true).getD j false = if j = i then true else listed.getD j false := by
        intro j
        simp only [Array.getD_eq_getD_getElem?, Array.getElem?_setIfInBounds]
        by_cases h : i = j
        · subst h; simp [hs, hin]
        · have : j ≠ i := fun e => h e.symm
          simp [h, this]
      have hnewT : fT es (fun j => (listed.setIfInBounds i true).getD j false) 0 t = putT (fT es (fun i => listed.getD i false) 0 t) es[i].dst es[i].x := by
        funext s
        by_cases hws : wS es[i] s
        · rw [putT_eq hws]
          refine fT_last es _ 0 t s i es[i] hei hws (by rw [Nat.zero_add, hset]; simp) (fun j ej hej hij hwj => ?_)
          rw [Nat.zero_add, hset, if_neg (by omega)]
          exact hhigh j ej hij hej (conf_slot (s := s) (.inl ⟨hws, .inr hwj⟩))
        · rw [putT_ne hws]
          refine fT_agree es _ _ 0 t t s rfl (fun j ej hej hwj => ?_)
          rw [Nat.zero_add, hset]
          by_cases hji : j = i
          · subst hji
            rw [hei] at hej
            simp at hej
            subst hej
            exact absurd hwj hws
          · rw [if_neg hji]
      have hnewM : fM es (fun j => (listed.setIfInBounds i true).getD j false) 0 m = putM (fM es (fun i => listed.getD i false) 0 m) es[i].mo := by
        funext s
        by_cases hws : wM es[i] s
        · refine fM_last es _ 0 m _ s i es[i] hei hws (by rw [Nat.zero_add, hset]; simp) (fun j ej hej hij hwj => ?_)
          rw [Nat.zero_add, hset, if_neg (by omega)]
          exact hhigh j ej hij hej (conf_obj (s := s) (.inl ⟨hws, .inr hwj⟩))
        · rw [putM_ne hws]
          refine fM_agree es _ _ 0 m m s rfl (fun j ej hej hwj => ?_)
          rw [Nat.zero_add, hset]
          by_cases hji : j = i
          · subst hji
            rw [hei] at hej
            simp at hej
            subst hej
            exact absurd hwj hws
          · rw [if_neg hji]
      have hgo := hat E ρ _ _ a w hP hN hagS hagM hR (wpAny P .any ops Q fuel (listed.setIfInBounds i true)) Q (fun ρ' a' w' hR' => by
        refine ih _ ρ' a' w' (by simp [hs]) (by have := leftN_step hs hin hl; omega) ?_ (by rw [hnewT, hnewM]; exact hR')
        intro j o ho hlj e he hb
        rw [hset] at hlj ⊢
        by_cases hej : e.on = i
        · rw [if_pos hej]
        · rw [if_neg hej]
          by_cases hji : j = i
          · subst hji
            rw [hoi'] at ho
            simp at ho
            subst ho
            exact hdeps ops[j] hoi e he hb
          · rw [if_neg hji] at hlj
            exact hclo j o ho hlj e he hb)
      unfold wpOp
      rw [hoi]
      simp only
      split
      · rename_i hw; rw [if_pos hw] at hgo; exact .inl hgo
      · rename_i hw; rw [if_neg hw] at hgo; exact hgo
end Go.Vm
