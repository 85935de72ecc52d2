/- Data. -/
import Derived.Test.YtomfblnflobonaaSmall
set_option linter.unusedVariables false
set_option linter.unusedSimpArgs false
namespace Go.Proofs.Ytomfblnflobonaa
open Go.RowKit

/-- The texts' bytes. -/
def LL (l : List ByteArray) : List (List UInt8) := l.map (·.data.toList)
theorem LL_take (l : List ByteArray) (k : Nat) (h : k < l.length) : LL (l.take (k + 1)) = LL (l.take k) ++ [(l[k]'h).data.toList] := by
  unfold LL
  rw [List.take_succ_eq_append_getElem h, List.map_append]
  rfl
theorem dataL_snoc (l : List (List UInt8)) (t : List UInt8) : dataL (l ++ [t]) = dataL l ++ (dotted t ++ [13, 10]) := by simp [dataL]
theorem LL_len (l : List ByteArray) : (LL l).flatten = bytesOf l := rfl
theorem dataL_len (l : List (List UInt8)) : (dataL l).length ≤ l.flatten.length + 3 * l.length := by
  induction l with
  | nil => simp [dataL]
  | cons t l ih =>
    have h := dotted_len t
    have e : dataL (t :: l) = (dotted t ++ [13, 10]) ++ dataL l := by simp [dataL]
    rw [e]
    simp only [List.length_append, List.length_cons, List.length_nil, List.flatten_cons]
    omega
def dataRet (l : List (List UInt8)) : Value := .tuple #[.string ⟨(data l).1.toArray⟩, .int .i64 ((data l).2 : Int)]
def longs (l : List (List UInt8)) : Bool := l.any (fun t => decide (998 < t.length))
theorem longs_snoc (l : List (List UInt8)) (t : List UInt8) : longs (l ++ [t]) = (longs l || decide (998 < t.length)) := by simp [longs]
theorem plains_no {l : List (List UInt8)} {t : List UInt8} (ht : t ∈ l) (h : plainL t = false) : data l = ([], 2) := by
  unfold data
  rw [if_neg]
  intro ha
  rw [List.all_eq_true.1 ha t ht] at h
  cases h
theorem has_dot (t : List UInt8) : Lib.hasPrefix t [46] = decide (t.head? = some 46) := by
  cases t with
  | nil => rfl
  | cons a t =>
    show ((46 == a) && List.isPrefixOf [] t) = _
    by_cases h : a = 46
    · subst h; simp [List.isPrefixOf]
    · have : (46 == a) = false := by simp; exact fun e => h e.symm
      simp [this, h]
theorem dotted_yes {t : List UInt8} (h : Lib.hasPrefix t [46] = true) : dotted t = [46] ++ t := by
  rw [has_dot] at h
  simp at h
  simp [dotted, h]
theorem dotted_no {t : List UInt8} (h : Lib.hasPrefix t [46] = false) : dotted t = t := by
  rw [has_dot] at h
  simp at h
  simp [dotted, h]
theorem cat_crlf (r : ByteArray) : (r ++ ⟨#[13, 10]⟩).data.toList = r.data.toList ++ [13, 10] := by simp
theorem cat_crlf_size (r : ByteArray) : (r ++ ⟨#[13, 10]⟩).size = r.size + 2 := by simp [ByteArray.size_append]; rfl

set_option maxHeartbeats 4000000 in
theorem data_any (A : Option Addr) (c : Nat) (l : List ByteArray) (w : World) (hr : Rd1 Value.string w A l) (hl : l.length ≤ 100000) (ht : total l ≤ 100000) :
    Calls Try.prog 16 #[.slice A l.length c] w fun e w' => e = .returned (dataRet (LL l)) ∧ Upd w w' Nope := by
  go_enter Try.func16, Try.ntmps16
  go_wp2_with fail
  have hb0 := Bld.new w w.heap.size (Nat.le_refl _)
  have hu0 : Upd w (w.alloc (.cells #[.pointer none, .slice none 0 0] 62)) Nope := (Upd.refl _ _).alloc _
  obtain ⟨g, hg⟩ : ∃ g, g = w.heap.size := ⟨_, rfl⟩
  generalize w.alloc (.cells #[.pointer none, .slice none 0 0] 62) = w1 at hb0 hu0 ⊢
  rw [← hg] at hb0 ⊢
  have HG := Lib.hid hg
  clear hg
  go_loopg [5, 10] (l.length + 1) (fun gk lg i wr => ∃ (k : Nat) (v : Value), k ≤ l.length ∧ l.length < k + gk ∧ i = .int .i64 k ∧ lg = .bool (longs (LL (l.take k))) ∧ Bld wr g g v (dataL (LL (l.take k))) ∧ (LL (l.take k)).all plainL = true ∧ Upd w wr Nope)
  case atStart => exact ⟨0, _, Nat.zero_le _, by omega, rfl, by simp [LL, longs], by simpa [LL, dataL] using hb0, by simp [LL], hu0⟩
  case round =>
    clear hb0 hu0
    obtain ⟨k, v, hk, hkg, rfl, rfl, hb, hf, hu⟩ := hrel
    by_cases hlt : k < l.length
    · obtain ⟨gq, rfl⟩ : ∃ gq, gk = gq + 1 := ⟨gk - 1, by omega⟩
      obtain ⟨ad, rfl, hx⟩ := (hr.upd hu (fun _ h => h.elim)) k hlt
      have hsn := LL_take l k hlt
      have hmem : (l[k]'hlt).data.toList ∈ LL l := List.mem_map.2 ⟨_, List.getElem_mem hlt, rfl⟩
      have hsz : (l[k]'hlt).size ≤ 100000 := by
        have := total_take_succ l k hlt
        have := total_take l (k + 1)
        omega
      have hdl := dataL_len (LL (l.take k))
      have hdl2 : (dataL (LL (l.take k))).length ≤ 400000 := by
        rw [LL_len, bytesOf_len] at hdl
        have := total_take l k
        have e : (LL (l.take k)).length = k := by simp [LL]; omega
        rw [e] at hdl
        omega
      generalize l[k] = r at hx hsn hmem hsz
      have hp := fun w => plain_any r w (by omega)
      cases hpl : plainL r.data.toList
      · have hno := plains_no hmem hpl
        rw [hpl] at hp
        have HP := Lib.hid hp
        have HN := Lib.hid hno
        clear hp hno hsn hmem hdl hdl2 hf hpl
        have hlt2 := hb.lt
        go_wp2_with fail
        refine (HP.out _).mono ?_
        rintro e w2 ⟨rfl, hu2⟩
        go_wp2_with fail
        go_ret2
        exact ⟨ret_eq (by unfold dataRet; rw [HN.out]; rfl), hu.nn hu2⟩
      · rw [hpl] at hp
        have HP := Lib.hid hp
        have hlongs := longs_snoc (LL (l.take k)) r.data.toList
        have hdata := dataL_snoc (LL (l.take k)) r.data.toList
        have hall : (LL (l.take (k + 1))).all plainL = true := by rw [hsn]; simp [hf, hpl]
        have hH := fun w => Try.strings_HasPrefix r ⟨#[46]⟩ w
        rw [show (⟨#[46]⟩ : ByteArray).data.toList = [46] from rfl] at hH
        obtain ⟨dl, hdd⟩ : ∃ dl, decide ((998 : Int) < (r.size : Int)) = dl := ⟨_, rfl⟩
        have hdd2 : decide (998 < r.data.toList.length) = dl := by
          rw [← hdd, decide_eq_decide, show r.data.toList.length = r.size by simp]
          omega
        rw [hdd2] at hlongs
        rw [← hsn] at hlongs hdata
        generalize longs (LL (l.take k)) = lb at hlongs ⊢
        generalize dataL (LL (l.take k)) = da at hb hdata hdl2
        have hcs := cat_crlf_size r
        have hcc := Lib.hid (cat_crlf r)
        cases hdt : Lib.hasPrefix r.data.toList [46]
        · rw [hdt] at hH
          have hdot := dotted_no hdt
          rw [hdot] at hdata
          have HH := Lib.hid hH
          have H1 := Lib.hid hlongs
          have H2 := Lib.hid hdata
          have H3 := Lib.hid hall
          have HCS := Lib.hid hcs
          clear hp hpl hf hmem hsn hdl hH hdt hlongs hdata hall hdd2 hdot hcs
          have hlt2 := hb.lt
          cases lb <;> cases dl
          all_goals
            go_wp2_with fail
            refine (HP.out _).mono ?_
            rintro e w2 ⟨rfl, hu2⟩
            have hb2 := hb.nope hu2
            have hu2' := hu.nn hu2
            clear hb hu hu2
            go_wp2_with fail
            refine (HH.out _).mono ?_
            rintro e w3 ⟨rfl, hw3⟩
            obtain rfl : w2 = w3 := hw3.symm
            have hlt3 := hb2.lt
            go_wp2_with fail
            generalize (r ++ ⟨#[13, 10]⟩ : ByteArray) = fr at hcc HCS ⊢
            refine (bld_writeString w2 g g v _ hb2 fr (by rw [HCS.out]; omega) (by omega)).mono ?_
            rintro e w7 ⟨rfl, v', hb7, hu7, hl7⟩
            have hu7' := hu2'.trans hu7 (H := Nope) (fun _ _ h => h) (fun i hi h => by
              have := HG.out
              rcases h with h | h
              · omega
              · have := hb2.rowlt i h; omega)
            go_wp2_with fail
            go_roundg gq
            case measure => omega
            case rel => exact ⟨k + 1, v', by omega, by omega, by go_num, by rw [H1.out]; rfl, by rw [H2.out, ← hcc.out]; exact hb7, H3.out, hu7'⟩
        · rw [hdt] at hH
          have hdot := dotted_yes hdt
          rw [hdot] at hdata
          have HH := Lib.hid hH
          have H1 := Lib.hid hlongs
          have H2 := Lib.hid hdata
          have H3 := Lib.hid hall
          have HCS := Lib.hid hcs
          clear hp hpl hf hmem hsn hdl hH hdt hlongs hdata hall hdd2 hdot hcs
          have hlt2 := hb.lt
          cases lb <;> cases dl
          all_goals
            go_wp2_with fail
            refine (HP.out _).mono ?_
            rintro e w2 ⟨rfl, hu2⟩
            have hb2 := hb.nope hu2
            have hu2' := hu.nn hu2
            clear hb hu hu2
            go_wp2_with fail
            refine (HH.out _).mono ?_
            rintro e w3 ⟨rfl, hw3⟩
            obtain rfl : w2 = w3 := hw3.symm
            have hlt3 := hb2.lt
            go_wp2_with fail
            refine (bld_writeString w2 g g v _ hb2 ⟨#[46]⟩ (by rw [show (⟨#[46]⟩ : ByteArray).size = 1 from rfl]; omega) (by omega)).mono ?_
            rintro e w6 ⟨rfl, v6, hb6, hu6, hl6⟩
            have hu6' := hu2'.trans hu6 (H := Nope) (fun _ _ h => h) (fun i hi h => by
              have := HG.out
              rcases h with h | h
              · omega
              · have := hb2.rowlt i h; omega)
            have hlt6 := hb6.lt
            rw [show (⟨#[46]⟩ : ByteArray).data.toList = [46] from rfl] at hb6
            have hdl6 : (da ++ [46]).length ≤ 400001 := by simp; omega
            clear hb2 hu2' hu6 hl6 hdl2
            go_wp2_with fail
            generalize (r ++ ⟨#[13, 10]⟩ : ByteArray) = fr at hcc HCS ⊢
            refine (bld_writeString w6 g g v6 _ hb6 fr (by rw [HCS.out]; omega) (by omega)).mono ?_
            rintro e w7 ⟨rfl, v', hb7, hu7, hl7⟩
            have hu7' := hu6'.trans hu7 (H := Nope) (fun _ _ h => h) (fun i hi h => by
              have := HG.out
              rcases h with h | h
              · omega
              · have := hb6.rowlt i h; omega)
            go_wp2_with fail
            go_roundg gq
            case measure => omega
            case rel => exact ⟨k + 1, v', by omega, by omega, by go_num, by rw [H1.out]; rfl, by rw [H2.out, List.append_assoc, ← hcc.out, ← List.append_assoc]; exact hb7, H3.out, hu7'⟩
    · obtain rfl : k = l.length := by omega
      rw [List.take_length] at hb hf ⊢
      have hlt2 := hb.lt
      cases hlo : longs (LL l)
      · have hdr : data (LL l) = (dataL (LL l) ++ [46, 13, 10], 0) := by
          unfold data
          rw [if_pos hf, if_neg (by unfold longs at hlo; rw [hlo]; decide)]
        have HD := Lib.hid hdr
        clear hdr hf hlo
        go_wp2_with fail
        refine (bld_string wr g g v _ hb (by omega)).mono ?_
        rintro e w2 ⟨rfl, hd2⟩
        have hdl := dataL_len (LL l)
        rw [LL_len, bytesOf_len, show (LL l).length = l.length by simp [LL]] at hdl
        have hsz : (⟨(dataL (LL l)).toArray⟩ : ByteArray).size = (dataL (LL l)).length := by simp [ByteArray.size]
        have hct : ((⟨(dataL (LL l)).toArray⟩ : ByteArray) ++ ⟨#[46]⟩) ++ ⟨#[13, 10]⟩ = ⟨(dataL (LL l) ++ [46, 13, 10]).toArray⟩ := by
          apply ByteArray.ext
          simp
        generalize (⟨(dataL (LL l)).toArray⟩ : ByteArray) = x at hct hsz ⊢
        have HT := Lib.hid hct
        have h46 : (⟨#[46]⟩ : ByteArray).size = 1 := rfl
        have hcr : (⟨#[13, 10]⟩ : ByteArray).size = 2 := rfl
        have hx1 : (x ++ ⟨#[46]⟩).size ≤ 500000 := by rw [ByteArray.size_append, h46]; omega
        clear hct
        go_wp2_with fail
        go_ret2
        have h2 : Upd w w2 Nope := Upd.of_below ((hu.below (fun _ h => h.elim)).trans (hd2.mono (by have := HG.out; omega))) Nope
        exact ⟨ret_eq (by unfold dataRet; rw [HD.out]; simp only [← HT.out]; rfl), h2⟩
      · have hdr : data (LL l) = ([], 3) := by
          unfold data
          rw [if_pos hf, if_pos (by unfold longs at hlo; exact hlo)]
        have HD := Lib.hid hdr
        clear hdr hf hlo
        go_wp2_with fail
        go_ret2
        exact ⟨ret_eq (by unfold dataRet; rw [HD.out]; rfl), hu⟩
end Go.Proofs.Ytomfblnflobonaa
