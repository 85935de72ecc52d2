/- Append. -/
import Derived.Test.YtkglcgekpgcdpaaClo
set_option linter.unusedVariables false
set_option linter.unusedSimpArgs false
namespace Go.Proofs.Ytkglcgekpgcdpaa
open Go.RowKit

/-- What fits. -/
structure Dk.fit (d : Dk) : Prop where
  ok : d.ok
  r0 : 1 ≤ d.room
  r1 : d.room ≤ 1048576
  sum : sumL d.L ≤ d.room
  len : d.L.length ≤ 128
def fullB (d : Dk) (name s : ByteArray) : Bool := decide (d.room - sumL d.L < s.size) || ((look name d.L).isNone && decide (128 ≤ d.L.length))
def appendR (d : Dk) (name s : ByteArray) : Dk × Int :=
  if mayE d.off [name] = 0 then (if fullB d name s then (d, 6) else changeR d true (put name ⟨(fileOf name d.L).s ++ s, (fileOf name d.L).n⟩ d.L)) else (d, mayE d.off [name])
theorem fileOf_ok {d : Dk} (h : ∀ p ∈ d.L, p.2.ok) (name : ByteArray) : (fileOf name d.L).ok := by
  unfold fileOf
  cases hl : look name d.L with
  | none => exact ⟨Int.le_refl _, Int.le_refl _, by decide⟩
  | some f => exact h _ (look_mem hl)
theorem fileOf_le (L : List (ByteArray × Fl)) (name : ByteArray) : ((fileOf name L).s.size : Int) ≤ sumL L := by
  unfold fileOf
  cases hl : look name L with
  | none => exact sumL_nn L
  | some f => exact sumL_mem (look_mem hl)
theorem rd_one {w : World} {q : Nat} {T : TypeId} {s : ByteArray} (h : Blk w q #[.string s] T) : Rd1 .string w (some ⟨q, 0, none⟩) [s] := rd1_blk h rfl

theorem quiet_lenF {C : World → Prop} {K : Act → Prop} {a : Act} {o : Oper} {b : Nat} {L : List (ByteArray × Fl)} (hC : ∀ w, C w → Mp MF w b L) (m : Operand) (hop : o.op = Op.call { callee := Callee.builtin Builtin.len, args := #[m], argTypes := #[49] })
    (hm : a.eval m = .map (some b)) (hk : K (a.put o.dst (.int .i64 (L.length : Int)))) : o.quiet Try.prog a C K :=
  ⟨_, fun w hw => by
    have e : (Builtin.len_ #[49] o.type #[.map (some b)]).run Try.prog w = .ok (.int .i64 (L.length : Int)) w := (hC w hw).len o.type
    unfold Oper.quietAt
    simp [execOp, hop, resolve, invoke, builtin, hm, e, Oper.quietUpon, Result.andThen], hk⟩

set_option maxHeartbeats 4000000 in
theorem append_any {w : World} {g b : Nat} {d : Dk} (h : DK w g b d) (hd : d.fit) (name s : ByteArray) (hs : s.size ≤ 1000000000) :
    Calls Try.prog 16 #[.pointer (some ⟨g, 0, none⟩), .string name, .string s] w fun e w' => e = .returned (.int .i64 (appendR d name s).2) ∧ DK w' g b (appendR d name s).1 ∧ Upd w w' (fun i => i = g ∨ i = b) := by
  have hlg := h.blk.lt
  have hlb := h.mp.lt
  have s1 : (w.alloc (.cells #[.pointer (some ⟨g, 0, none⟩)] 25)).heap.size = w.heap.size + 1 := by simp
  have s2 : ((w.alloc (.cells #[.pointer (some ⟨g, 0, none⟩)] 25)).alloc (.cells #[.string name] 9)).heap.size = w.heap.size + 2 := by simp
  have s3 : (((w.alloc (.cells #[.pointer (some ⟨g, 0, none⟩)] 25)).alloc (.cells #[.string name] 9)).alloc (.cells #[.string s] 9)).heap.size = w.heap.size + 3 := by simp
  have bd := Blk.new w #[.pointer (some ⟨g, 0, none⟩)] 25
  have bn := Blk.new (w.alloc (.cells #[.pointer (some ⟨g, 0, none⟩)] 25)) #[.string name] 9
  rw [s1] at bn
  have bs := Blk.new ((w.alloc (.cells #[.pointer (some ⟨g, 0, none⟩)] 25)).alloc (.cells #[.string name] 9)) #[.string s] 9
  rw [s2] at bs
  have bl := Blk.new (((w.alloc (.cells #[.pointer (some ⟨g, 0, none⟩)] 25)).alloc (.cells #[.string name] 9)).alloc (.cells #[.string s] 9)) #[.string name] 9
  rw [s3] at bl
  have bd := ((bd.alloc (.cells #[.string name] 9)).alloc (.cells #[.string s] 9)).alloc (.cells #[.string name] 9)
  have bn := (bn.alloc (.cells #[.string s] 9)).alloc (.cells #[.string name] 9)
  have bs := bs.alloc (.cells #[.string name] 9)
  have u0 : Upd w ((((w.alloc (.cells #[.pointer (some ⟨g, 0, none⟩)] 25)).alloc (.cells #[.string name] 9)).alloc (.cells #[.string s] 9)).alloc (.cells #[.string name] 9)) Nope := ((((Upd.refl w _).alloc _).alloc _).alloc _).alloc _
  have h0 := h.nn u0
  have hM := may_any h0 _ 1 [name] (rd_one bl) (by simp)
  have hz : mayE d.off [name] = 0 → nameOk name = true := fun e => (may_zero e).2 name (by simp)
  have e1 : mayE d.off [name] ≠ 0 → appendR d name s = (d, mayE d.off [name]) := fun e => by unfold appendR; rw [if_neg e]
  have e2 : mayE d.off [name] = 0 → fullB d name s = true → appendR d name s = (d, 6) := fun e e' => by unfold appendR; rw [if_pos e, if_pos e']
  have e3 : mayE d.off [name] = 0 → fullB d name s = false → appendR d name s = changeR d true (put name ⟨(fileOf name d.L).s ++ s, (fileOf name d.L).n⟩ d.L) := fun e e' => by unfold appendR; rw [if_pos e, if_neg (by rw [e']; decide)]
  generalize appendR d name s = R at e1 e2 e3 ⊢
  generalize mayE d.off [name] = E at hM hz e1 e2 e3
  have HM := Lib.hid hM
  have H0 := Lib.hid h0
  have E1 := Lib.hid e1
  have E2 := Lib.hid e2
  have E3 := Lib.hid e3
  have HZ := Lib.hid hz
  have HF := Lib.hid hd
  have HBD := Lib.hid bd
  have HBN := Lib.hid bn
  have HBS := Lib.hid bs
  have HBL := Lib.hid bl
  have c0 : ((((w.alloc (.cells #[.pointer (some ⟨g, 0, none⟩)] 25)).alloc (.cells #[.string name] 9)).alloc (.cells #[.string s] 9)).alloc (.cells #[.string name] 9)).heap.size = w.heap.size + 4 := by simp
  clear hM h0 e1 e2 e3 hz hd bd bn bs bl h s1 s2 s3
  go_enter Try.func16, Try.ntmps16
  go_upto_region 2 with (go_at_call 27; refine HM.out.mono ?_; rintro e w3 ⟨rfl, hu3⟩)
  have hd3 := H0.out.nn hu3
  have u3 := u0.nn hu3
  have xd : w3.cell? ⟨w.heap.size, 0, none⟩ = some (.pointer (some ⟨g, 0, none⟩)) := ((HBD.out.upd hu3 id).cell 0).trans rfl
  have xn : w3.cell? ⟨w.heap.size + 1, 0, none⟩ = some (.string name) := ((HBN.out.upd hu3 id).cell 0).trans rfl
  have xs : w3.cell? ⟨w.heap.size + 1 + 1, 0, none⟩ = some (.string s) := ((HBS.out.upd hu3 id).cell 0).trans rfl
  have l3 : w.heap.size + 4 ≤ w3.heap.size := by have := hu3.size; omega
  clear HBD HBN HBS HBL H0 HM hu3 u0 bd bn bs c0
  have nd : w.heap.size ≠ b := by omega
  have nn : w.heap.size + 1 ≠ b := by omega
  have ns : w.heap.size + 1 + 1 ≠ b := by omega
  have nsg : w.heap.size + 1 + 1 ≠ g := by omega
  have nng : w.heap.size + 1 ≠ g := by omega
  have ndg : w.heap.size ≠ g := by omega
  have ld : w.heap.size < w3.heap.size := by omega
  have ln : w.heap.size + 1 < w3.heap.size := by omega
  have ls : w.heap.size + 1 + 1 < w3.heap.size := by omega
  have l4 : w.heap.size ≤ w3.heap.size := by omega
  clear l3
  generalize w.heap.size + 1 + 1 = qs at xs ns nsg ls ⊢
  generalize w.heap.size + 1 = qn at xn nn nng ln ⊢
  generalize hqd : w.heap.size = qd at xd nd ndg ld hlg hlb l4 ⊢
  by_cases hE : E = 0
  · have hn := nameOk_max (HZ.out hE)
    subst hE
    have hm3 := hd3.mp
    have c1 := hd3.c1
    have g3 := hd3.blk.lt
    have hlk := lookF2_run (hd3.nn (Upd.refl w3 _).drew).mp name hn
    have hlk2 := lookF2_run (hd3.nn ((Upd.refl w3 _).alloc (.cells #[.string ⟨#[]⟩, .int .i64 0] 57)).drew).mp name hn
    have HD3 := Lib.hid hd3
    clear hd3
    have fok := fileOf_ok HF.out.ok.fs name
    have fle := fileOf_le d.L name
    have hsum := HF.out.sum
    have hroom := HF.out.r1
    have hnn := sumL_nn d.L
    generalize hfo : fileOf name d.L = fo at hlk hlk2 fok fle
    go_upto_region 4 with fail
    go_big_region
    all_goals
      go_upto_region 5 with fail
      have hb4 := (Blk.new w3 #[.string fo.s, .int .i64 fo.n] 57).drew
      have hd4 : DK (w3.alloc (.cells #[.string fo.s, .int .i64 fo.n] 57)).drew g b d := HD3.out.nn ((Upd.refl w3 _).alloc _).drew
      have u4 : Upd w3 (w3.alloc (.cells #[.string fo.s, .int .i64 fo.n] 57)).drew Nope := ((Upd.refl w3 _).alloc _).drew
      generalize (w3.alloc (.cells #[.string fo.s, .int .i64 fo.n] 57)).drew = w4 at hb4 hd4 u4 ⊢
      have nf : w3.heap.size ≠ b := by omega
      have lf : qd ≤ w3.heap.size := l4
      generalize w3.heap.size = qf at hb4 nf lf ⊢
      have hds : ∀ x : UW w4, DK x.val g b d := fun x => hd4.nn x.ok
      have HU := fun x : UW w4 => used_any (hds x) (by omega)
      have C0 := fun x : UW w4 => (hds x).c0
      have C1 := fun x : UW w4 => (hds x).c1
      have XD := fun x : UW w4 => x.cell (u4.cell xd id)
      have XS := fun x : UW w4 => x.cell (u4.cell xs id)
      have HMx : ∀ w', (∃ x : UW w4, w' = x.val) → Mp MF w' b d.L := fun w' ⟨x, e⟩ => by rw [e]; exact (hds x).mp
      have HUh := Lib.hid HU
      have HMh := Lib.hid HMx
      have HD4 := Lib.hid hd4
      clear HU HMx hd4 hds hlk hlk2 hm3
      have v1 : wrap64 (d.room - sumL d.L) = d.room - sumL d.L := wrap64_in (by omega) (by omega)
      have hfull : fullB d name s = (decide (d.room - sumL d.L < s.size) || (!(look name d.L).isSome && decide (128 ≤ (d.L.length : Int)))) := by
        unfold fullB
        congr 2
        · cases look name d.L <;> rfl
        · simp
          omega
      have FB := Lib.hid hfull
      clear hfull
      generalize hbA : decide (d.room - sumL d.L < (s.size : Int)) = bA at FB
      generalize (look name d.L).isSome = bI at FB ⊢
      generalize hbC : decide (128 ≤ (d.L.length : Int)) = bC at FB
      cases bA <;> cases bI <;> cases bC
      all_goals
        refine region_uw (by kernel_rfl) (by kernel_rfl) ?_
        repeat (first
          | go_big_quiet_skip
          | (go_big_quiet_want; first
            | (refine quiet_lenF HMh.out _ rfl rfl ?_; go_frame; go_big_quiet_on)
            | (go_big_quiet_op; first | go_big_quiet_on | go_big_quiet_call (first | (go_at_call 17; exact UW.call (HUh.out _))))))
        refine wpQuiet_nil ?_
        rintro _ ⟨x, rfl⟩
        have hdx := HD4.out.nn x.ok
        have ux : Upd w x.val Nope := (u3.nn u4).nn x.ok
        have HDX := Lib.hid hdx
        first
        | (have hF : fullB d name s = true := FB.out.trans (by decide)
           have HFB := Lib.hid hF
           clear hdx hF FB HD4 HUh HMh
           go_wp2
           go_returns
           exact ⟨by rw [E2.out (by simp) HFB.out]; rfl, by rw [E2.out (by simp) HFB.out]; exact HDX.out, ux.mono (fun _ _ h => h.elim)⟩)
        | (have hF : fullB d name s = false := FB.out.trans (by decide)
           have hbx := hb4.upd x.ok id
           have y0 : x.val.cell? ⟨qf, 0, none⟩ = some (.string fo.s) := (hbx.cell 0).trans rfl
           have y1 : x.val.cell? ⟨qf, 1, none⟩ = some (.int .i64 fo.n) := (hbx.cell 1).trans rfl
           have y2 : x.val.cell? ⟨qs, 0, none⟩ = some (.string s) := XS x
           have y3 : x.val.cell? ⟨qd, 0, none⟩ = some (.pointer (some ⟨g, 0, none⟩)) := XD x
           have y4 : x.val.cell? ⟨qn, 0, none⟩ = some (.string name) := x.cell (u4.cell xn id)
           have nfg : qf ≠ g := by omega
           have hroomy : (fo.s.size : Int) + s.size ≤ 4611686018427387904 := by omega
           have okL : ∀ p ∈ put name ⟨fo.s ++ s, fo.n⟩ d.L, p.2.ok := fun p hp => by
             rcases mem_put hp with rfl | h | h
             · refine ⟨fok.n0, ?_, ?_⟩
               · have := fok.n1; simp; omega
               · simp; omega
             · exact HF.out.ok.fs p h.1
             · exact HF.out.ok.fs p h
           have hC := change_any HDX.out true (put name ⟨fo.s ++ s, fo.n⟩ d.L) HF.out.ok okL 29 #[.pointer (some ⟨qf, 0, none⟩), .pointer (some ⟨qs, 0, none⟩), .pointer (some ⟨qd, 0, none⟩), .pointer (some ⟨qn, 0, none⟩)] (fun w => by rfl)
             (fun w1 h1 hu1 => clo_append h1 (hu1.cell y3 ndg) (hu1.cell y4 nng) hn (hu1.cell y0 nfg) (hu1.cell y1 nfg) (hu1.cell y2 nsg) (by omega))
           have HC := Lib.hid hC
           have HFB := Lib.hid hF
           clear hC hF hdx hbx y0 y1 y2 y4 FB HD4 HUh HMh
           go_wp2_with fail
           refine HC.out.mono ?_
           rintro e w6 ⟨rfl, hd6, hu6⟩
           have H6 := Lib.hid hd6
           clear hd6
           have he := E3.out (by simp) HFB.out
           rw [hfo] at he
           have HE := Lib.hid he
           clear he
           go_wp2
           go_ret
           exact ⟨by rw [HE.out]; rfl, by rw [HE.out]; exact H6.out, (ux.mono (fun _ _ h => h.elim)).then_ hu6⟩)
  · have hE' : (E == 0) = false := by simpa using hE
    have HD3 := Lib.hid hd3
    clear hd3
    go_wp2
    go_returns
    exact ⟨by rw [E1.out hE]; rfl, by rw [E1.out hE]; exact HD3.out, u3.mono (fun _ _ h => h.elim)⟩
end Go.Proofs.Ytkglcgekpgcdpaa
