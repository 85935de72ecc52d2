/- The reference's Data. -/
import Derived.Test.YtomfblnflobonaaRefc
set_option linter.unusedVariables false
set_option linter.unusedSimpArgs false
namespace Go.Proofs.Ytomfblnflobonaa
open Go.RowKit

theorem index0 (s : ByteArray) (W : World) (h : 0 < s.size) : (Instr.index 9 (.string s) (.int .i64 0)).run Try.prog W = .ok (.int .u8 (s.data.toList.getD 0 0).toNat) W := index_str Try.underlying9 s 0 0 rfl h W
theorem dotted_eq (t : List UInt8) : dotted t = if (t.getD 0 0 == 46 && decide (0 < t.length)) then [46] ++ t else t := by
  cases t with
  | nil => rfl
  | cons a t =>
    simp only [dotted, List.head?_cons, Option.some.injEq, List.getD_cons_zero, List.length_cons]
    by_cases h : a = 46
    · simp [h]
    · simp [h]

set_option maxHeartbeats 4000000 in
theorem refdata_any (A : Option Addr) (c : Nat) (l : List ByteArray) (w : World) (hr : Rd1 Value.string w A l) (hl : l.length ≤ 100000) (ht : total l ≤ 100000) :
    Calls Try.prog 17 #[.slice A l.length c] w fun e w' => e = .returned (dataRet (LL l)) ∧ Upd w w' Nope := by
  go_enter Try.func17, Try.ntmps17
  go_wp2_with fail
  go_loopg [4, 5, 6] (l.length + 1) (fun gk sv lg i wr => ∃ (k : Nat) (sb : ByteArray), k ≤ l.length ∧ l.length < k + gk ∧ i = .int .i64 k ∧ lg = .bool (longs (LL (l.take k))) ∧ sv = .string sb ∧ sb.data.toList = dataL (LL (l.take k)) ∧ (LL (l.take k)).all plainL = true ∧ Upd w wr Nope)
  case atStart => exact ⟨0, ⟨#[]⟩, Nat.zero_le _, by omega, rfl, by simp [LL, longs], rfl, by simp [LL, dataL], by simp [LL], Upd.refl _ _⟩
  case round =>
    obtain ⟨k, sb, hk, hkg, rfl, rfl, rfl, hsb, hf, hu⟩ := hrel
    by_cases hlt : k < l.length
    · obtain ⟨gq, rfl⟩ : ∃ gq, gk = gq + 1 := ⟨gk - 1, by omega⟩
      obtain ⟨ad, rfl, hx⟩ := (hr.upd hu (fun _ h => h.elim)) k hlt
      have hsn := LL_take l k hlt
      have hmem : (l[k]'hlt).data.toList ∈ LL l := List.mem_map.2 ⟨_, List.getElem_mem hlt, rfl⟩
      have hsz : (l[k]'hlt).size ≤ 100000 := by
        have := total_take_succ l k hlt
        have := total_take l (k + 1)
        omega
      have hdl := dataL_len (LL (l.take k))
      have hdl2 : (dataL (LL (l.take k))).length ≤ 400000 := by
        rw [LL_len, bytesOf_len] at hdl
        have := total_take l k
        have e : (LL (l.take k)).length = k := by simp [LL]; omega
        rw [e] at hdl
        omega
      have hsbz : sb.size ≤ 400000 := by have : sb.data.toList.length = sb.size := (by simp); rw [hsb] at this; omega
      generalize l[k] = r at hx hsn hmem hsz
      have hp := fun w => refplain_any r w (by omega)
      cases hpl : plainL r.data.toList
      · have hno := plains_no hmem hpl
        rw [hpl] at hp
        have HP := Lib.hid hp
        have HN := Lib.hid hno
        clear hp hno hsn hmem hdl hdl2 hf hpl hsb
        go_wp2_with fail
        refine (HP.out _).mono ?_
        rintro e w2 ⟨rfl, hu2⟩
        go_wp2_with fail
        go_ret2
        exact ⟨ret_eq (by unfold dataRet; rw [HN.out]; rfl), hu.nn hu2⟩
      · rw [hpl] at hp
        have HP := Lib.hid hp
        have hlongs := longs_snoc (LL (l.take k)) r.data.toList
        have hdata := dataL_snoc (LL (l.take k)) r.data.toList
        have hall : (LL (l.take (k + 1))).all plainL = true := by rw [hsn]; simp [hf, hpl]
        have hrl : r.data.toList.length = r.size := by simp
        have hde := dotted_eq r.data.toList
        rw [hrl] at hde
        obtain ⟨dl, hdd⟩ : ∃ dl, decide ((998 : Int) < (r.size : Int)) = dl := ⟨_, rfl⟩
        have hdd2 : decide (998 < r.data.toList.length) = dl := by
          rw [← hdd, decide_eq_decide, hrl]
          omega
        rw [hdd2] at hlongs
        rw [← hsn] at hlongs hdata
        generalize longs (LL (l.take k)) = lb at hlongs ⊢
        have hix := fun W (h : 0 < r.size) => index0 r W h
        generalize r.data.toList.getD 0 0 = x0 at hix hde
        have e46 : (((x0.toNat : Int)) == 46) = (x0 == 46) := u8_eq' x0 46 (by decide) 46 rfl
        rw [hsb.symm] at hdata
        have hcat1 : (sb ++ ⟨#[46]⟩ ++ r ++ ⟨#[13, 10]⟩).data.toList = sb.data.toList ++ ([46] ++ r.data.toList ++ [13, 10]) := by simp
        have hcat0 : (sb ++ r ++ ⟨#[13, 10]⟩).data.toList = sb.data.toList ++ (r.data.toList ++ [13, 10]) := by simp
        have h46 : (⟨#[46]⟩ : ByteArray).size = 1 := rfl
        have hcr : (⟨#[13, 10]⟩ : ByteArray).size = 2 := rfl
        have hz1 : (sb ++ ⟨#[46]⟩).size = sb.size + 1 := by rw [ByteArray.size_append, h46]
        have hz2 : (sb ++ ⟨#[46]⟩ ++ r).size = sb.size + 1 + r.size := by rw [ByteArray.size_append, hz1]
        have hz3 : (sb ++ r).size = sb.size + r.size := by rw [ByteArray.size_append]
        have H1 := Lib.hid hlongs
        have H3 := Lib.hid hall
        have hway : (r.size = 0 ∧ dotted r.data.toList = r.data.toList) ∨ (0 < r.size ∧ (x0 == 46) = false ∧ dotted r.data.toList = r.data.toList) ∨ (0 < r.size ∧ (x0 == 46) = true ∧ dotted r.data.toList = [46] ++ r.data.toList) := by
          by_cases h0 : r.size = 0
          · exact .inl ⟨h0, by rw [hde]; simp [h0]⟩
          · cases hq : x0 == 46
            · exact .inr (.inl ⟨by omega, rfl, by rw [hde, hq]; simp⟩)
            · exact .inr (.inr ⟨by omega, rfl, by rw [hde, hq]; have h1 : 0 < r.size := (by omega); simp [h1]⟩)
        clear hde hp hpl hf hmem hsn hdl hlongs hall hdd2 hdl2 hsb
        rcases hway with ⟨h0, hdo⟩ | ⟨h0, hq, hdo⟩ | ⟨h0, hq, hdo⟩
        · rw [hdo, ← hcat0] at hdata
          have H2 := Lib.hid hdata
          clear hdata hdo hcat0 hcat1 hix e46 hz1 hz2
          obtain rfl : dl = false := by rw [← hdd, h0]; rfl
          cases lb
          all_goals
            go_wp2_with fail
            refine (HP.out _).mono ?_
            rintro e w2 ⟨rfl, hu2⟩
            have hu2' := hu.nn hu2
            have hx2 := hu2.cell hx id
            clear hu hu2 hx
            go_wp2_with fail
            go_roundg gq
            case measure => omega
            case rel => exact ⟨k + 1, _, by omega, by omega, by go_num, by rw [H1.out]; rfl, rfl, by rw [H2.out], H3.out, hu2'⟩
        · rw [hdo, ← hcat0] at hdata
          rw [hq] at e46
          have H2 := Lib.hid hdata
          have hix0 := fun W => hix W h0
          clear hdata hdo hcat0 hcat1 hix hq hz1 hz2
          cases lb <;> cases dl
          all_goals
            go_wp2_with fail
            refine (HP.out _).mono ?_
            rintro e w2 ⟨rfl, hu2⟩
            have hu2' := hu.nn hu2
            have hx2 := hu2.cell hx id
            clear hu hu2 hx
            go_wp2_with fail
            go_roundg gq
            case measure => omega
            case rel => exact ⟨k + 1, _, by omega, by omega, by go_num, by rw [H1.out]; rfl, rfl, by rw [H2.out], H3.out, hu2'⟩
        · rw [hdo, ← hcat1] at hdata
          rw [hq] at e46
          have H2 := Lib.hid hdata
          have hix0 := fun W => hix W h0
          clear hdata hdo hcat0 hcat1 hix hq hz3
          cases lb <;> cases dl
          all_goals
            go_wp2_with fail
            refine (HP.out _).mono ?_
            rintro e w2 ⟨rfl, hu2⟩
            have hu2' := hu.nn hu2
            have hx2 := hu2.cell hx id
            clear hu hu2 hx
            go_wp2_with fail
            go_roundg gq
            case measure => omega
            case rel => exact ⟨k + 1, _, by omega, by omega, by go_num, by rw [H1.out]; rfl, rfl, by rw [H2.out], H3.out, hu2'⟩
    · obtain rfl : k = l.length := by omega
      rw [List.take_length] at hsb hf ⊢
      have hdl := dataL_len (LL l)
      rw [LL_len, bytesOf_len, show (LL l).length = l.length by simp [LL]] at hdl
      have hsbz : sb.size ≤ 400000 := by have : sb.data.toList.length = sb.size := (by simp); rw [hsb] at this; omega
      cases hlo : longs (LL l)
      · have hdr : data (LL l) = (dataL (LL l) ++ [46, 13, 10], 0) := by
          unfold data
          rw [if_pos hf, if_neg (by unfold longs at hlo; rw [hlo]; decide)]
        have hct : sb ++ ⟨#[46, 13, 10]⟩ = ⟨(dataL (LL l) ++ [46, 13, 10]).toArray⟩ := by
          apply ByteArray.ext
          apply Array.toList_inj.1
          simp [← hsb]
        have HD := Lib.hid hdr
        have HT := Lib.hid hct
        have h3 : (⟨#[46, 13, 10]⟩ : ByteArray).size = 3 := rfl
        clear hdr hf hlo hct hsb
        go_wp2_with fail
        go_ret2
        exact ⟨ret_eq (by unfold dataRet; rw [HD.out]; simp only [← HT.out]; rfl), hu⟩
      · have hdr : data (LL l) = ([], 3) := by
          unfold data
          rw [if_pos hf, if_pos (by unfold longs at hlo; exact hlo)]
        have HD := Lib.hid hdr
        clear hdr hf hlo hsb
        go_wp2_with fail
        go_ret2
        exact ⟨ret_eq (by unfold dataRet; rw [HD.out]; rfl), hu⟩
end Go.Proofs.Ytomfblnflobonaa
