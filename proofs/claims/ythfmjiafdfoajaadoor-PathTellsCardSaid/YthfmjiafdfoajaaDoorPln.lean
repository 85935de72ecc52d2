/- path: the plain model of paths over lists of bytes, and its laws. -/
import Derived.Test.YthfmjiafdfoajaaDoorPrn
import Derived.Lib.IndexMore
set_option linter.unusedVariables false
set_option linter.unusedSimpArgs false
namespace Go.Proofs.YthfmjiafdfoajaaDoor
open Go.RowKit

/-- A text of atoms. -/
def goodAL (p : List UInt8) : Bool := !p.isEmpty && p.all atB
def atomsL (l : List UInt8) : Bool := (spl l).all goodAL
/-- A label that is no domain's. -/
def badLL (p : List UInt8) : Bool := p.isEmpty || decide (63 < p.length) || (p[0]? == some 45) || (p[p.length - 1]? == some 45) || p.any fun b => !letP b && !(b == 45)
def labelsL (l : List UInt8) : Bool := (spl l).all fun p => !badLL p
def domL (l : List UInt8) : List UInt8 × Nat := if 255 < l.length then ([], 3) else if labelsL l then (Lib.toLowerA l, 0) else ([], 2)
def shapedL (l : List UInt8) : Bool := (spl l).all fun p => (domL p).2 == 0
def postL : List UInt8 := [112, 111, 115, 116, 109, 97, 115, 116, 101, 114]
def rightL (lo d : List UInt8) : Nat :=
  if 64 < lo.length ∨ 255 < d.length then 3
  else if d = [] ∧ (lo = [] ∨ lo = postL) then 0
  else if (domL d).2 ≠ 0 ∨ (domL d).1 ≠ d ∨ lo = [] then 2
  else if lo.any outP then 2 else 0
def printT (lo d : List UInt8) : List UInt8 := if d = [] then 60 :: (lo ++ [62]) else 60 :: ((if atomsL lo then lo else quoteL lo) ++ 64 :: (d ++ [62]))
structure PR where
  lo : List UInt8
  dom : List UInt8
  rest : List UInt8
  e : Nat
def PR.no : PR := ⟨[], [], [], 2⟩
/-- What stands between two quotes, and what is behind. -/
def qtL : List UInt8 → Option (List UInt8 × List UInt8)
  | [] => none
  | b :: r => if b = 34 then some ([], r) else if b = 92 then match r with
      | [] => none
      | c :: r' => if outP c then none else (qtL r').map fun x => (c :: x.1, x.2)
    else if outP b then none else (qtL r).map fun x => (b :: x.1, x.2)
/-- The domain's part: rest begins at the sign ahead of it. -/
def tailL (lo rest : List UInt8) : PR :=
  match rest.dropWhile (fun b => !(b == 62)) with
  | [] => .no
  | _ :: behind => match rest.takeWhile (fun b => !(b == 62)) with
    | [] => .no
    | a :: d => if a = 64 then (if ((domL d).2 = 3 ∧ shapedL d = true) ∨ ((domL d).2 = 0 ∧ 64 < lo.length) then ⟨[], [], [], 3⟩ else if (domL d).2 ≠ 0 then .no else ⟨lo, (domL d).1, behind, 0⟩) else .no
def stopB (b : UInt8) : Bool := b == 64 || b == 62
/-- Without a quote. -/
def bareL (s : List UInt8) : PR :=
  match s.dropWhile (fun b => !stopB b) with
  | [] => .no
  | a :: behind => if atomsL (s.takeWhile (fun b => !stopB b)) then (if a = 62 then (if Lib.toLowerA (s.takeWhile (fun b => !stopB b)) = postL then ⟨postL, [], behind, 0⟩ else .no) else tailL (s.takeWhile (fun b => !stopB b)) (a :: behind)) else .no
def parseL : List UInt8 → PR
  | [] => .no
  | a :: s => if a = 60 then (match s with
    | [] => .no
    | b :: r => if b = 62 then ⟨[], [], r, 0⟩ else if b = 34 then (match qtL r with
        | none => .no
        | some (lo, rest) => if lo = [] then .no else tailL lo rest)
      else bareL (b :: r)) else .no
theorem bareL_nil : bareL [] = .no := rfl

theorem qt_esc (lo rest : List UInt8) (h : lo.any outP = false) : qtL (lo.flatMap escB ++ 34 :: rest) = some (lo, rest) := by
  induction lo with
  | nil => rw [List.flatMap_nil, List.nil_append]; unfold qtL; rw [if_pos rfl]
  | cons b r ih =>
    simp only [List.any_cons, Bool.or_eq_false_iff] at h
    have ih := ih h.2
    by_cases hq : b = 34 ∨ b = 92
    · have e : (b :: r).flatMap escB ++ 34 :: rest = 92 :: b :: (r.flatMap escB ++ 34 :: rest) := by simp [escB, hq]
      rw [e]
      simp [qtL, h.1, ih]
    · have e : (b :: r).flatMap escB ++ 34 :: rest = b :: (r.flatMap escB ++ 34 :: rest) := by simp [escB, hq]
      have h1 : ¬ b = 34 := fun h => hq (.inl h)
      have h2 : ¬ b = 92 := fun h => hq (.inr h)
      rw [e]
      unfold qtL
      rw [if_neg h1, if_neg h2, h.1, ih]
      rfl
/-- Each byte with a backslash ahead of it. -/
def bsL (lo : List UInt8) : List UInt8 := lo.flatMap fun b => [92, b]
theorem qt_bs (lo rest : List UInt8) (h : lo.any outP = false) : qtL (bsL lo ++ 34 :: rest) = some (lo, rest) := by
  induction lo with
  | nil => rw [bsL, List.flatMap_nil, List.nil_append]; unfold qtL; rw [if_pos rfl]
  | cons b r ih =>
    simp only [List.any_cons, Bool.or_eq_false_iff] at h
    have ih := ih h.2
    have e : bsL (b :: r) ++ 34 :: rest = 92 :: b :: (bsL r ++ 34 :: rest) := by simp [bsL]
    rw [e]
    simp [qtL, h.1, ih]
theorem qt_sound (l lo rest : List UInt8) (h : qtL l = some (lo, rest)) : lo.any outP = false ∧ ∃ pre, l = pre ++ rest := by
  fun_induction qtL l generalizing lo with
  | case1 => cases h
  | case2 => cases h; exact ⟨rfl, ⟨[34], rfl⟩⟩
  | case3 => cases h
  | case4 => cases h
  | case5 c r' ho _ ih =>
    obtain ⟨x, hx, e⟩ := Option.map_eq_some_iff.1 h
    injection e with e1 e2
    obtain ⟨h1, pre, h2⟩ := ih x.1 (by rw [hx, ← e2])
    refine ⟨?_, 92 :: c :: pre, by simp [h2]⟩
    rw [← e1]; simp only [List.any_cons, h1, Bool.or_false]; exact Bool.eq_false_iff.2 ho
  | case6 => cases h
  | case7 b r h1 h2 ho ih =>
    obtain ⟨x, hx, e⟩ := Option.map_eq_some_iff.1 h
    injection e with e1 e2
    obtain ⟨h1, pre, h2⟩ := ih x.1 (by rw [hx, ← e2])
    refine ⟨?_, b :: pre, by simp [h2]⟩
    rw [← e1]; simp only [List.any_cons, h1, Bool.or_false]; exact Bool.eq_false_iff.2 ho
theorem spl_mem' {l : List UInt8} {b : UInt8} (h : b ∈ l) : b = 46 ∨ ∃ p ∈ spl l, b ∈ p := by
  induction l with
  | nil => cases h
  | cons c r ih =>
    unfold spl
    rcases List.mem_cons.1 h with rfl | h
    · split
      · left; assumption
      · right
        split
        · exact ⟨[b], by simp, by simp⟩
        · rename_i q ps e
          exact ⟨b :: q, by simp, by simp⟩
    · rcases ih h with e | ⟨p, hp, hb⟩
      · exact .inl e
      · right
        split
        · exact ⟨p, List.mem_cons_of_mem _ hp, hb⟩
        · split
          · rename_i e; exact absurd e (spl_ne r)
          · rename_i q ps e
            rw [e] at hp
            rcases List.mem_cons.1 hp with rfl | hp
            · exact ⟨c :: p, by simp, List.mem_cons_of_mem _ hb⟩
            · exact ⟨p, List.mem_cons_of_mem _ hp, hb⟩
def hd1 (c : UInt8) : List (List UInt8) → List (List UInt8)
  | [] => [[c]]
  | p :: ps => (c :: p) :: ps
theorem spl_cons {c : UInt8} {r : List UInt8} (h : ¬ c = 46) : spl (c :: r) = hd1 c (spl r) := by
  have e : spl (c :: r) = if c = 46 then [] :: spl r else match spl r with
    | [] => [[c]]
    | p :: ps => (c :: p) :: ps := rfl
  rw [e, if_neg h]
  cases spl r <;> rfl
theorem spl_dot (r : List UInt8) : spl (46 :: r) = [] :: spl r := rfl
theorem spl_append (a b : List UInt8) : spl (a ++ 46 :: b) = spl a ++ spl b := by
  induction a with
  | nil => simp [spl]
  | cons c r ih =>
    rw [List.cons_append]
    by_cases hc : c = 46
    · subst hc
      have e1 : spl (46 :: (r ++ 46 :: b)) = [] :: spl (r ++ 46 :: b) := rfl
      have e2 : spl (46 :: r) = [] :: spl r := rfl
      rw [e1, e2, ih]; rfl
    · rw [spl_cons hc, spl_cons hc, ih]
      cases h : spl r with
      | nil => exact absurd h (spl_ne r)
      | cons p ps => rfl
/-- Two maps of bytes that leave dots alone go through the pieces. -/
theorem spl_map (f : UInt8 → UInt8) (hf : ∀ b, f b = 46 ↔ b = 46) (l : List UInt8) : spl (l.map f) = (spl l).map (List.map f) := by
  induction l with
  | nil => rfl
  | cons c r ih =>
    rw [List.map_cons]
    by_cases hc : c = 46
    · unfold spl; rw [if_pos hc, if_pos ((hf c).2 hc), ih]; rfl
    · have hc' : ¬ f c = 46 := fun h => hc ((hf c).1 h)
      rw [spl_cons hc', spl_cons hc, ih]
      cases h : spl r with
      | nil => exact absurd h (spl_ne r)
      | cons p ps => rfl
theorem labels_ok {l : List UInt8} (h : labelsL l = true) : ∀ b ∈ l, b = 46 ∨ b = 45 ∨ letP b = true := by
  intro b hb
  rcases spl_mem' hb with e | ⟨p, hp, hbp⟩
  · exact .inl e
  · right
    have hg := List.all_eq_true.1 h p hp
    simp only [badLL, Bool.not_eq_true', Bool.or_eq_false_iff] at hg
    have hx := List.any_eq_false.1 hg.2 b hbp
    cases hl : letP b with
    | true => exact .inr rfl
    | false => rw [hl] at hx; exact .inl (by simpa using hx)
theorem atoms_ok {l : List UInt8} (h : atomsL l = true) : ∀ b ∈ l, b = 46 ∨ atB b = true := by
  intro b hb
  rcases spl_mem' hb with e | ⟨p, hp, hbp⟩
  · exact .inl e
  · right
    have hg := List.all_eq_true.1 h p hp
    simp only [goodAL, Bool.and_eq_true] at hg
    exact List.all_eq_true.1 hg.2 b hbp
theorem u8_all (P : UInt8 → Bool) (h : (List.range 256).all (fun n => P (UInt8.ofNat n)) = true) (b : UInt8) : P b = true := by
  have := List.all_eq_true.1 h b.toNat (List.mem_range.2 b.toNat_lt)
  simpa using this
theorem at_in (b : UInt8) (h : atB b = true) : outP b = false ∧ b ≠ 62 ∧ b ≠ 64 ∧ b ≠ 34 := by
  have := u8_all (fun b => !atB b || (!outP b && !(b == 62) && !(b == 64) && !(b == 34))) (by decide +kernel) b
  rw [h] at this
  simpa [and_assoc] using this
theorem let_in (b : UInt8) (h : b = 46 ∨ b = 45 ∨ letP b = true) : b ≠ 62 ∧ b ≠ 64 ∧ b ≠ 34 := by
  have := u8_all (fun b => !(b == 46 || b == 45 || letP b) || (!(b == 62) && !(b == 64) && !(b == 34))) (by decide +kernel) b
  have h' : (b == 46 || b == 45 || letP b) = true := by
    rcases h with h | h | h <;> simp [h]
  rw [h'] at this
  simpa [and_assoc] using this
theorem atoms_ne {l : List UInt8} (h : atomsL l = true) : l ≠ [] := by
  rintro rfl
  exact absurd h (by decide)
theorem labels_ne {l : List UInt8} (h : labelsL l = true) : l ≠ [] := by
  rintro rfl
  exact absurd h (by decide)
theorem tw_append {p : UInt8 → Bool} {a : List UInt8} (h : ∀ b ∈ a, p b = true) (c : UInt8) (r : List UInt8) (hc : p c = false) : (a ++ c :: r).takeWhile p = a ∧ (a ++ c :: r).dropWhile p = c :: r := by
  induction a with
  | nil => simp [hc]
  | cons x a ih =>
    have hx := h x (by simp)
    obtain ⟨h1, h2⟩ := ih (fun b hb => h b (by simp [hb]))
    exact ⟨by simp [hx, h1], by simp [hx, h2]⟩
theorem domL_ok {d : List UInt8} (h : (domL d).2 = 0) : d.length ≤ 255 ∧ labelsL d = true ∧ (domL d).1 = Lib.toLowerA d := by
  unfold domL at *
  by_cases h1 : 255 < d.length
  · rw [if_pos h1] at h; cases h
  · rw [if_neg h1] at *
    cases h2 : labelsL d with
    | false => rw [h2] at h; cases h
    | true => exact ⟨by omega, rfl, rfl⟩
theorem lower_dot (b : UInt8) : Lib.lowerB b = 46 ↔ b = 46 := by
  have := u8_all (fun b => (Lib.lowerB b == 46) == (b == 46)) (by decide +kernel) b
  rw [beq_iff_eq, Bool.eq_iff_iff] at this
  simpa using this
theorem lower_two (b : UInt8) : Lib.lowerB (Lib.lowerB b) = Lib.lowerB b := by
  have := u8_all (fun b => Lib.lowerB (Lib.lowerB b) == Lib.lowerB b) (by decide +kernel) b
  simpa using this
theorem lower_lower (l : List UInt8) : Lib.toLowerA (Lib.toLowerA l) = Lib.toLowerA l := by
  simp [Lib.toLowerA, Function.comp_def, lower_two]
/-- Such maps keep what is a label. -/
theorem bad_map (f : UInt8 → UInt8) (hf : ∀ b, (f b = 45 ↔ b = 45) ∧ letP (f b) = letP b) (p : List UInt8) : badLL (p.map f) = badLL p := by
  have e : ∀ i : Nat, ((p.map f)[i]? == some 45) = (p[i]? == some 45) := by
    intro i
    rw [List.getElem?_map]
    cases p[i]? with
    | none => rfl
    | some b =>
      simp only [Option.map_some]
      rw [Bool.eq_iff_iff]
      simp [(hf b).1]
  unfold badLL
  rw [e, List.length_map, e, List.any_map]
  have e2 : ((fun b => !letP b && !(b == 45)) ∘ f) = fun b => !letP b && !(b == 45) := by
    funext b
    have : (f b == 45) = (b == 45) := by rw [Bool.eq_iff_iff]; simp [(hf b).1]
    simp [(hf b).2, this]
  rw [e2]
  simp
theorem labels_map (f : UInt8 → UInt8) (hd : ∀ b, f b = 46 ↔ b = 46) (hf : ∀ b, (f b = 45 ↔ b = 45) ∧ letP (f b) = letP b) (l : List UInt8) : labelsL (l.map f) = labelsL l := by
  unfold labelsL
  rw [spl_map f hd, List.all_map]
  congr 1
  funext p
  simp [bad_map f hf]
theorem lower_lab (b : UInt8) : (Lib.lowerB b = 45 ↔ b = 45) ∧ letP (Lib.lowerB b) = letP b := by
  have := u8_all (fun b => ((Lib.lowerB b == 45) == (b == 45)) && (letP (Lib.lowerB b) == letP b)) (by decide +kernel) b
  rw [Bool.and_eq_true, beq_iff_eq, beq_iff_eq, Bool.eq_iff_iff] at this
  simpa using this
theorem labels_lower (l : List UInt8) : labelsL (Lib.toLowerA l) = labelsL l := labels_map _ lower_dot lower_lab l
theorem domL_lower {d : List UInt8} (h : (domL d).2 = 0) : domL (domL d).1 = ((domL d).1, 0) := by
  obtain ⟨h1, h2, h3⟩ := domL_ok h
  rw [h3]
  unfold domL
  rw [if_neg (by simp [Lib.toLowerA]; omega), labels_lower, h2, lower_lower]
  rfl
theorem domL_eq {d : List UInt8} (h : (domL d).2 = 0) : domL d = ((domL d).1, 0) := by rw [← h]
theorem tail_ok {lo d behind : List UInt8} (hl : lo.length ≤ 64) (hd : (domL d).2 = 0) : tailL lo (64 :: (d ++ 62 :: behind)) = ⟨lo, (domL d).1, behind, 0⟩ := by
  obtain ⟨h1, h2, h3⟩ := domL_ok hd
  have h62 : ∀ b ∈ (64 :: d), (!(b == 62)) = true := by
    intro b hb
    rcases List.mem_cons.1 hb with rfl | hb
    · rfl
    · simpa using (let_in b (labels_ok h2 b hb)).1
  obtain ⟨t1, t2⟩ := tw_append h62 62 behind (by decide)
  rw [List.cons_append] at t1 t2
  unfold tailL
  rw [t1, t2]
  dsimp only
  rw [if_pos rfl, if_neg (by rw [hd]; omega), if_neg (by simp [hd])]
theorem right_cases {lo d : List UInt8} (h : rightL lo d = 0) : (d = [] ∧ (lo = [] ∨ lo = postL)) ∨ (d ≠ [] ∧ lo ≠ [] ∧ lo.length ≤ 64 ∧ domL d = (d, 0) ∧ lo.any outP = false) := by
  unfold rightL at h
  by_cases h1 : 64 < lo.length ∨ 255 < d.length
  · rw [if_pos h1] at h; cases h
  · rw [if_neg h1] at h
    by_cases h2 : d = [] ∧ (lo = [] ∨ lo = postL)
    · exact .inl h2
    · rw [if_neg h2] at h
      by_cases h3 : (domL d).2 ≠ 0 ∨ (domL d).1 ≠ d ∨ lo = []
      · rw [if_pos h3] at h; cases h
      · rw [if_neg h3] at h
        right
        have h4 : (domL d).2 = 0 := Decidable.byContradiction fun h => h3 (.inl h)
        have h5 : (domL d).1 = d := Decidable.byContradiction fun h => h3 (.inr (.inl h))
        have h6 : lo ≠ [] := fun h => h3 (.inr (.inr h))
        refine ⟨labels_ne (domL_ok h4).2.1, h6, by omega, by rw [domL_eq h4, h5], ?_⟩
        cases ho : lo.any outP with
        | false => rfl
        | true => rw [ho] at h; cases h
theorem right_mk {lo d : List UInt8} (h : d ≠ [] ∧ lo ≠ [] ∧ lo.length ≤ 64 ∧ domL d = (d, 0) ∧ lo.any outP = false) : rightL lo d = 0 := by
  obtain ⟨h1, h2, h3, h4, h5⟩ := h
  have h6 := (domL_ok (d := d) (by rw [h4])).1
  unfold rightL
  rw [if_neg (by omega), if_neg (fun h => h1 h.1), if_neg (by rw [h4]; simp [h2]), h5]
  rfl
/-- What was printed is read. -/
theorem parse_print {lo d : List UInt8} (h : rightL lo d = 0) (behind : List UInt8) : parseL (printT lo d ++ behind) = ⟨lo, d, behind, 0⟩ := by
  rcases right_cases h with ⟨rfl, rfl | rfl⟩ | ⟨h1, h2, h3, h4, h5⟩
  · rfl
  · show bareL (postL ++ 62 :: behind) = _
    obtain ⟨t1, t2⟩ := tw_append (p := fun b => !stopB b) (a := postL) (by decide) 62 behind (by decide)
    unfold bareL
    rw [t1, t2]
    dsimp only
    rw [if_pos (by decide +kernel), if_pos rfl, if_pos (by decide +kernel)]
  · have hd0 : (domL d).2 = 0 := by rw [h4]
    have ht := tail_ok (lo := lo) (d := d) (behind := behind) h3 hd0
    have hd1 : (domL d).1 = d := by rw [h4]
    rw [hd1] at ht
    unfold printT
    rw [if_neg h1]
    cases ha : atomsL lo with
    | true =>
      obtain ⟨b, r, rfl⟩ := List.exists_cons_of_ne_nil h2
      have hok : ∀ x ∈ b :: r, x ≠ 62 ∧ x ≠ 64 ∧ x ≠ 34 := by
        intro x hx
        rcases atoms_ok ha x hx with rfl | hx
        · decide
        · exact (at_in x hx).2
      have hs : ∀ x ∈ b :: r, (!stopB x) = true := fun x hx => by simp [stopB, (hok x hx).1, (hok x hx).2.1]
      obtain ⟨t1, t2⟩ := tw_append hs 64 (d ++ 62 :: behind) (by decide)
      have hb := hok b (by simp)
      have e : (60 :: ((if true = true then b :: r else quoteL (b :: r)) ++ 64 :: (d ++ [62])) ++ behind) = 60 :: b :: (r ++ 64 :: (d ++ 62 :: behind)) := by simp
      rw [e]
      unfold parseL
      dsimp only
      rw [if_pos rfl, if_neg hb.1, if_neg hb.2.2]
      rw [List.cons_append] at t1 t2
      unfold bareL
      rw [t1, t2]
      dsimp only
      rw [if_pos ha, if_neg (by decide), ht]
    | false =>
      have e : (60 :: ((if false = true then lo else quoteL lo) ++ 64 :: (d ++ [62])) ++ behind) = 60 :: 34 :: (lo.flatMap escB ++ 34 :: (64 :: (d ++ 62 :: behind))) := by simp [quoteL]
      rw [e]
      unfold parseL
      dsimp only
      rw [if_pos rfl, if_neg (by decide), if_pos rfl, qt_esc _ _ h5]
      dsimp only
      rw [if_neg h2, ht]
theorem tail_sound {lo rest : List UInt8} (h : (tailL lo rest).e = 0) (hlo : lo ≠ []) (ho : lo.any outP = false) : rightL (tailL lo rest).lo (tailL lo rest).dom = 0 ∧ ∃ pre, pre ≠ [] ∧ rest = pre ++ (tailL lo rest).rest := by
  have htd := (List.takeWhile_append_dropWhile (p := fun b => !(b == 62)) (l := rest)).symm
  unfold tailL at *
  split at h
  · cases h
  · rename_i c behind hd
    rw [hd] at htd
    split at h
    · cases h
    · rename_i a d ht
      rw [ht] at htd
      by_cases ha : a = 64
      · rw [if_pos ha] at h ⊢
        by_cases h1 : ((domL d).2 = 3 ∧ shapedL d = true) ∨ ((domL d).2 = 0 ∧ 64 < lo.length)
        · rw [if_pos h1] at h; cases h
        · rw [if_neg h1] at h ⊢
          by_cases h2 : (domL d).2 ≠ 0
          · rw [if_pos h2] at h; cases h
          · rw [if_neg h2]
            have h3 : (domL d).2 = 0 := Decidable.byContradiction h2
            have hl := domL_lower h3
            have hne : (domL d).1 ≠ [] := by
              rw [(domL_ok h3).2.2]
              have := labels_ne (domL_ok h3).2.1
              simpa [Lib.toLowerA] using this
            exact ⟨right_mk (lo := lo) ⟨hne, hlo, by omega, hl, ho⟩, (a :: d) ++ [c], by simp, by rw [htd]; simp⟩
      · rw [if_neg ha] at h; cases h
theorem bare_sound {s : List UInt8} (h : (bareL s).e = 0) : rightL (bareL s).lo (bareL s).dom = 0 ∧ ∃ pre, pre ≠ [] ∧ s = pre ++ (bareL s).rest := by
  have htd := (List.takeWhile_append_dropWhile (p := fun b => !stopB b) (l := s)).symm
  unfold bareL at *
  split at h
  · cases h
  · rename_i a behind hd
    rw [hd] at htd
    generalize s.takeWhile (fun b => !stopB b) = lo at *
    cases ha : atomsL lo with
    | false => rw [ha] at h; cases h
    | true =>
      rw [ha] at h
      simp only [if_true] at h ⊢
      by_cases h62 : a = 62
      · rw [if_pos h62] at h ⊢
        by_cases hp : Lib.toLowerA lo = postL
        · rw [if_pos hp]
          exact ⟨show rightL postL [] = 0 by decide +kernel, lo ++ [a], by simp, by rw [htd]; simp⟩
        · rw [if_neg hp] at h; cases h
      · rw [if_neg h62] at h ⊢
        have ho : lo.any outP = false := by
          rw [List.any_eq_false]
          intro x hx
          rcases atoms_ok ha x hx with rfl | hx
          · decide
          · simpa using (at_in x hx).1
        obtain ⟨h1, pre, h2, h3⟩ := tail_sound h (atoms_ne ha) ho
        exact ⟨h1, lo ++ pre, by simp [h2], by rw [htd, List.append_assoc, ← h3]⟩
/-- What is read of any bytes is right, and what is behind is their end. -/
theorem parse_sound {s : List UInt8} (h : (parseL s).e = 0) : rightL (parseL s).lo (parseL s).dom = 0 ∧ ∃ pre, pre ≠ [] ∧ s = pre ++ (parseL s).rest := by
  unfold parseL at *
  split at h
  · cases h
  · rename_i a s
    by_cases ha : a = 60
    · rw [if_pos ha] at h ⊢
      split at h
      · cases h
      · rename_i b r
        by_cases h62 : b = 62
        · simp only [if_pos h62]
          exact ⟨by decide, [a, b], by simp, rfl⟩
        · simp only [if_neg h62] at h ⊢
          by_cases h34 : b = 34
          · simp only [if_pos h34] at h ⊢
            cases hq : qtL r with
            | none => rw [hq] at h; cases h
            | some x =>
              obtain ⟨lo, rest⟩ := x
              rw [hq] at h
              dsimp only at h ⊢
              by_cases hlo : lo = []
              · rw [if_pos hlo] at h; cases h
              · rw [if_neg hlo] at h ⊢
                obtain ⟨ho, p1, hp1⟩ := qt_sound _ _ _ hq
                obtain ⟨h1, pre, h2, h3⟩ := tail_sound h hlo ho
                exact ⟨h1, a :: b :: (p1 ++ pre), by simp, by rw [hp1]; simp [← h3]⟩
          · simp only [if_neg h34] at h ⊢
            obtain ⟨h1, pre, h2, h3⟩ := bare_sound h
            exact ⟨h1, a :: pre, by simp, by rw [List.cons_append, ← h3]⟩
    · rw [if_neg ha] at h; cases h
theorem print_inj {lo d lo' d' : List UInt8} (h : rightL lo d = 0) (h' : rightL lo' d' = 0) (he : printT lo d = printT lo' d') : lo = lo' ∧ d = d' := by
  have a := parse_print h []
  have b := parse_print h' []
  rw [he, b] at a
  injection a with a1 a2
  exact ⟨a1.symm, a2.symm⟩

theorem pcs_data (s : ByteArray) : (pcs s).map (·.data.toList) = spl s.data.toList := by
  unfold pcs
  rw [List.map_map]
  exact List.map_id _
theorem all_pcs {s : ByteArray} (f : ByteArray → Bool) (g : List UInt8 → Bool) (h : ∀ x, f x = g x.data.toList) : (pcs s).all f = (spl s.data.toList).all g := by
  rw [← pcs_data, List.all_map]
  congr 1
  funext x
  exact h x
theorem any_pcs {s : ByteArray} (f : ByteArray → Bool) (g : List UInt8 → Bool) (h : ∀ x, f x = g x.data.toList) : (pcs s).any f = (spl s.data.toList).any g := by
  rw [← pcs_data, List.any_map]
  congr 1
  funext x
  exact h x
theorem size_len (s : ByteArray) : s.size = s.data.toList.length := rfl
theorem emp_len (l : List UInt8) : decide (l.length = 0) = l.isEmpty := by cases l <;> simp
theorem atomsB_eq (s : ByteArray) : atomsB s = atomsL s.data.toList := all_pcs _ _ fun x => by unfold goodA goodAL; rw [size_len, emp_len]
theorem badL_ll (x : ByteArray) : badL x = badLL x.data.toList := by unfold badL badLL; rw [size_len, emp_len]
theorem domR_eq (s : ByteArray) : domR s = (⟨(domL s.data.toList).1.toArray⟩, (domL s.data.toList).2) := by
  unfold domR domL
  rw [size_len, any_pcs badL badLL badL_ll]
  unfold labelsL
  rw [List.all_eq_not_any_not]
  by_cases h : 255 < s.data.toList.length
  · rw [if_pos h, if_pos h]
  · rw [if_neg h, if_neg h]
    simp only [Bool.not_not]
    cases (spl s.data.toList).any badLL <;> rfl
theorem shapedB_eq (s : ByteArray) : shapedB s = shapedL s.data.toList := all_pcs _ _ fun x => by unfold domOk; rw [domR_eq]
theorem nil_iff (s : ByteArray) : s.toList = [] ↔ s.data.toList = [] := by rw [ByteArray.toList_eq]
theorem rightN_eq (lo d : ByteArray) : rightN lo d = rightL lo.data.toList d.data.toList := by
  unfold rightN rightD rightL
  rw [domR_eq]
  simp only [ByteArray.toList_eq, size_len]
  rfl
theorem printL_eq (lo d : ByteArray) : printL lo d = printT lo.data.toList d.data.toList := by
  unfold printL printT locL
  simp only [ByteArray.toList_eq, atomsB_eq]
end Go.Proofs.YthfmjiafdfoajaaDoor
