/- Events as bytes: what the printed functions of layer 19 come to; numbers as bytes, readers. Events as bytes: what an event's bytes are, what is read of bytes. Events as bytes: an event's bytes, and what is read of them; the law of events. The law of events' bytes. The law of events' bytes. Conditions: none but those that each theorem states. -/
import Derived.Test.YtklmhllelgjglaaGreatScriptS
import Derived.Test.YtklmhllelgjglaaGreatCodec1D
namespace Go.Tr
open Go
set_option linter.unusedVariables false
set_option linter.unusedSimpArgs false
set_option maxRecDepth 100000
set_option maxHeartbeats 4000000
def be (n : Int) : Nat → List Int
  | 0 => []
  | k + 1 => n / 2 ^ (8 * k) % 256 :: be n k
theorem be_len (n : Int) : ∀ k, (be n k).length = k
  | 0 => rfl
  | k + 1 => by simp [be, be_len n k]
theorem be_by8 (n : Int) : ∀ k, by8s (be n k)
  | 0 => fun c hc => by simp [be] at hc
  | k + 1 => fun c hc => by
    simp only [be, List.mem_cons] at hc
    rcases hc with rfl | hc
    · exact ⟨by omega, by omega⟩
    · exact be_by8 n k c hc
theorem lay_loop (n : Int) : ∀ (k : Nat) (b : List Int), k ≤ 8 → b.length + k ≤ 100000000000000 → codec_lay_l0 (n, (k : Int) - 1, b, ()) = some (.inl (b ++ be n k, ()))
  | 0, b, _, hb => by
    unfold codec_lay_l0
    rw [loopM_last (y := .inl (b, ()))]
    · simp [be]
    · show codec_lay_b0 n (((0 : Nat) : Int) - 1) b = _
      unfold codec_lay_b0
      rw [decide_eq_false (by omega)]; rfl
  | k + 1, b, hk, hb => by
    have ih := lay_loop n k (b ++ [n / 2 ^ (8 * k) % 256]) (by omega) (by simp; omega)
    unfold codec_lay_l0 at ih ⊢
    rw [loopM_next (s' := (n, (k : Int) - 1, b ++ [n / 2 ^ (8 * k) % 256], ())), ih]
    · simp [be]
    · show codec_lay_b0 n (((k + 1 : Nat) : Int) - 1) b = _
      unfold codec_lay_b0
      have e : ((k + 1 : Nat) : Int) - 1 = (k : Int) := by omega
      have w : IntKind.i64.wrap (8 * (k : Int)) = ((8 * k : Nat) : Int) := by rw [w64 (by omega) (by omega)]; omega
      simp only [ltO_def, e]
      rw [decide_eq_true (by omega), cnd_true, w, chk_pos (by omega), shr_eq (8 * k) (by show 8 * k ≤ 64; omega), u8_wrap, chk_pos (by simp only [room1, List.length_cons, List.length_nil]; omega), w64 (by omega) (by omega)]
theorem lay_eq (n : Int) (k : Nat) (hk : k ≤ 8) (b : List Int) (hb : b.length ≤ 90000000000000) : codec_lay n (k : Int) b = some (b ++ be n k, ()) := by
  unfold codec_lay
  rw [ltO_def, w64 (by omega) (by omega), lay_loop n k b hk (by omega)]
  rfl
theorem num_eq (n : Int) (b : List Int) (hb : b.length ≤ 90000000000000) : codec_num n b = some (b ++ be n 8, ()) := by
  unfold codec_num
  rw [show codec_lay n 8 b = _ from lay_eq n 8 (by omega) b hb]; rfl
theorem small_eq (n : Int) (b : List Int) (hb : b.length ≤ 90000000000000) : codec_small n b = some (b ++ be n 2, ()) := by
  unfold codec_small
  rw [show codec_lay n 2 b = _ from lay_eq n 2 (by omega) b hb]; rfl
theorem ip_eq {n : Int} (hn : in32 n) (b : List Int) (hb : b.length ≤ 90000000000000) : codec_ip n b = some (b ++ be n 4, ()) := by
  unfold codec_ip
  have h0 := hn.1
  have h1 := hn.2
  rw [ltO_def, w64 (by omega) (by omega), show codec_lay n 4 b = _ from lay_eq n 4 (by omega) b hb]; rfl
theorem toBytes_of (l : List UInt8) : toBytes (ofBytes l) = l := by
  unfold toBytes ofBytes
  rw [List.map_map]
  have : (fun z : Int => UInt8.ofNat z.toNat) ∘ (fun b : UInt8 => ((b.toNat : Nat) : Int)) = id := by
    funext b; simp
  rw [this]; simp
theorem ofBytes_to {l : List Int} (h : by8s l) : ofBytes (toBytes l) = l := by
  unfold toBytes ofBytes
  rw [List.map_map]
  conv => rhs; rw [← List.map_id l]
  apply List.map_congr_left
  intro c hc
  have := h c hc
  have h0 := this.1
  have h1 := this.2
  simp only [Function.comp, id]
  rw [UInt8.toNat_ofNat_of_lt' (by show c.toNat < 256; omega)]
  omega
theorem ofBytes_by8 (l : List UInt8) : by8s (ofBytes l) := by
  intro c hc
  simp only [ofBytes, List.mem_map] at hc
  obtain ⟨b, _, rfl⟩ := hc
  exact ⟨by omega, by have := b.toNat_lt; omega⟩
theorem toBytes_len (l : List Int) : (toBytes l).length = l.length := by simp [toBytes]
theorem ofBytes_len (l : List UInt8) : (ofBytes l).length = l.length := by simp [ofBytes]
abbrev Rd8 : Type := List Int × Bool
def takeS (n : Nat) (r : Rd8) : List Int × Rd8 := if r.2 = true ∨ r.1.length < n then (List.replicate n 0, (r.1, true)) else (r.1.take n, (r.1.drop n, false))
theorem take_eq (n : Nat) (hn : n ≤ 1000) (r : Rd8) : codec_reader_take (n : Int) r = some ((takeS n r).1, (takeS n r).2, ()) := by
  unfold codec_reader_take takeS
  simp only [chk_same, chk_nn, ltO_def, cnd_ite, Bool.or_eq_true, decide_eq_true_eq, Int.toNat_natCast]
  by_cases h : r.2 = true ∨ r.1.length < n
  · rw [if_pos (h.imp_right fun h => by omega), if_pos h, chk_pos (by simp only [room1]; omega)]
    have : (r.2 || decide ((n : Int) > (r.1.length : Int))) = true := by simp; omega
    rw [this]
  · have h2 : ¬ (r.1.length < n) := fun hh => h (.inr hh)
    rw [if_neg (fun hh => h (hh.imp_right fun hh => by omega)), if_neg h, chk_pos (by omega), chk_pos (by omega)]
    have : (r.2 || decide ((n : Int) > (r.1.length : Int))) = false := by simp; exact ⟨by simpa using fun hh => h (.inl hh), by omega⟩
    rw [this]
    simp [sliceA, List.take_of_length_le]
theorem takeS_len (n : Nat) (r : Rd8) : (takeS n r).1.length = n := by
  unfold takeS
  split
  · simp
  · rename_i h; rw [List.length_take]; omega
theorem takeS_by8 {n : Nat} {r : Rd8} (h : by8s r.1) : by8s (takeS n r).1 ∧ by8s (takeS n r).2.1 := by
  unfold takeS
  split
  · exact ⟨fun c hc => by rw [List.eq_of_mem_replicate hc]; exact by8_0, h⟩
  · exact ⟨by8s_take h n, by8s_drop h n⟩
def de (l : List Int) : Int := l.foldl (fun a c => a * 256 + c) 0
theorem de_snoc (l : List Int) (c : Int) : de (l ++ [c]) = de l * 256 + c := by simp [de]
theorem bor_mod (a b : Int) : borI .i64 a b = borI .i64 (a % 18446744073709551616) b := by
  unfold borI
  have : BitVec.ofInt IntKind.i64.bits a = BitVec.ofInt IntKind.i64.bits (a % 18446744073709551616) := by
    apply BitVec.eq_of_toNat_eq
    rw [BitVec.toNat_ofInt, BitVec.toNat_ofInt]
    show (a % 18446744073709551616).toNat = (a % 18446744073709551616 % 18446744073709551616).toNat
    rw [Int.emod_emod_of_dvd _ (Int.dvd_refl _)]
  rw [this]
theorem acc_eq {m c : Int} (hc : by8 c) : IntKind.i64.wrap (borI .i64 (shlI .i64 (IntKind.i64.wrap m) 8) (IntKind.i64.wrap c)) = IntKind.i64.wrap (m * 256 + c) := by
  have h0 := hc.1
  have h1 := hc.2
  rw [show (8 : Int) = ((8 : Nat) : Int) from rfl, shl_eq 8 (by show 8 ≤ 64; omega), w64 (n := c) (by omega) (by omega), bor_mod]
  have hb := bor_add (k := .i64) (a := IntKind.i64.wrap (IntKind.i64.wrap m * 2 ^ 8) % 18446744073709551616) (b := c) 8 (by omega) h0 (by omega) (by rw [i64_wrap, i64_wrap]; omega)
    (by show _ < (2 : Int) ^ 64; rw [i64_wrap, i64_wrap]; omega)
  rw [hb, i64_wrap, i64_wrap, i64_wrap, i64_wrap]
  omega
def numS (k : Nat) (r : Rd8) : Int := IntKind.i64.wrap (de (takeS k r).1)
theorem number_loop {l : List Int} (hl : by8s l) (hlen : l.length ≤ 1000) (u : List Int) (v : Bool) : codec_reader_number_l0 (0, l, ((l.length : Nat) : Int), 0, u, v, ()) = some (.inl (IntKind.i64.wrap (de l), u, v, ())) := by
  unfold codec_reader_number_l0
  have := loopM_steps (f := fun s : Int × (List Int) × Int × Int × (List Int) × Bool × Unit => codec_reader_number_b0 s.1 s.2.1 s.2.2.1 s.2.2.2.1 s.2.2.2.2.1 s.2.2.2.2.2.1)
    (fun i => (IntKind.i64.wrap (de (l.take i)), l, ((l.length : Nat) : Int), (i : Int), u, v, ())) (a := 0) (n := l.length) (by omega)
    (fun i _ hi => by
      show codec_reader_number_b0 (IntKind.i64.wrap (de (l.take i))) l ((l.length : Nat) : Int) (i : Int) u v = _
      unfold codec_reader_number_b0
      simp only [ltO_def]
      have hg : l.getD (i : Int).toNat 0 = l[i] := by simp [List.getD_eq_getElem?_getD, hi]
      rw [decide_eq_true (by omega), cnd_true, chk_pos (by omega), chk_pos (by omega), hg, acc_eq (hl _ (List.getElem_mem hi)), w64 (n := (i : Int) + 1) (by omega) (by omega), ← de_snoc, List.take_append_getElem]
      rfl)
  have this' : loopM (fun s : Int × (List Int) × Int × Int × (List Int) × Bool × Unit => codec_reader_number_b0 s.1 s.2.1 s.2.2.1 s.2.2.2.1 s.2.2.2.2.1 s.2.2.2.2.2.1) (0, l, ((l.length : Nat) : Int), 0, u, v, ()) = _ := this
  rw [this', loopM_last (y := .inl (IntKind.i64.wrap (de l), u, v, ()))]
  show codec_reader_number_b0 (IntKind.i64.wrap (de (l.take l.length))) l ((l.length : Nat) : Int) ((l.length : Nat) : Int) u v = _
  unfold codec_reader_number_b0
  rw [decide_eq_false (by omega), List.take_length]; rfl
theorem rdn_eq (k : Nat) (hk : k ≤ 8) {r : Rd8} (hr : by8s r.1) : codec_reader_number (k : Int) r = some (numS k r, (takeS k r).2, ()) := by
  unfold codec_reader_number
  rw [take_eq k (by omega) r]
  simp only [bnd_val]
  rw [number_loop (takeS_by8 hr).1 (by rw [takeS_len]; omega)]
  rfl
theorem one_eq' {r : Rd8} (hr : by8s r.1) : codec_reader_one r = some (numS 1 r, (takeS 1 r).2, ()) := by
  unfold codec_reader_one
  rw [show codec_reader_number 1 r = _ from rdn_eq 1 (by omega) hr]; rfl
theorem rnum_eq {r : Rd8} (hr : by8s r.1) : codec_reader_num r = some (numS 8 r, (takeS 8 r).2, ()) := by
  unfold codec_reader_num
  rw [show codec_reader_number 8 r = _ from rdn_eq 8 (by omega) hr]; rfl
theorem rsmall_eq {r : Rd8} (hr : by8s r.1) : codec_reader_small r = some (numS 2 r, (takeS 2 r).2, ()) := by
  unfold codec_reader_small
  rw [show codec_reader_number 2 r = _ from rdn_eq 2 (by omega) hr]; rfl
theorem de_bd : ∀ (l : List Int), by8s l → ∀ a : Int, 0 ≤ a → 0 ≤ l.foldl (fun a c => a * 256 + c) a ∧ l.foldl (fun a c => a * 256 + c) a < (a + 1) * 256 ^ l.length
  | [], _, a, ha => by simp; omega
  | c :: l, h, a, ha => by
    have hc := h c (by simp)
    have h0 := hc.1
    have h1 := hc.2
    obtain ⟨i1, i2⟩ := de_bd l (fun x hx => h x (by simp [hx])) (a * 256 + c) (by omega)
    refine ⟨i1, Int.lt_of_lt_of_le i2 ?_⟩
    rw [List.length_cons, Int.pow_succ, Int.mul_comm (256 ^ l.length) 256, ← Int.mul_assoc]
    exact Int.mul_le_mul_of_nonneg_right (by omega) (Int.le_of_lt (Int.pow_pos (by decide)))
theorem num4 {r : Rd8} (hr : by8s r.1) : in32 (numS 4 r) ∧ numS 4 r = de (takeS 4 r).1 := by
  have := de_bd (takeS 4 r).1 (takeS_by8 hr).1 0 (by omega)
  rw [takeS_len] at this
  have h1 : 0 ≤ de (takeS 4 r).1 := this.1
  have h2 : de (takeS 4 r).1 < (0 + 1) * 256 ^ 4 := this.2
  have e : numS 4 r = de (takeS 4 r).1 := w64 (by omega) (by omega)
  exact ⟨by rw [e]; exact ⟨h1, by omega⟩, e⟩
theorem num1 {r : Rd8} (hr : by8s r.1) : by8 (numS 1 r) ∧ numS 1 r = de (takeS 1 r).1 := by
  have := de_bd (takeS 1 r).1 (takeS_by8 hr).1 0 (by omega)
  rw [takeS_len] at this
  have h1 : 0 ≤ de (takeS 1 r).1 := this.1
  have h2 : de (takeS 1 r).1 < (0 + 1) * 256 ^ 1 := this.2
  have e : numS 1 r = de (takeS 1 r).1 := w64 (by omega) (by omega)
  exact ⟨by rw [e]; exact ⟨h1, by omega⟩, e⟩
theorem rip_eq {r : Rd8} (hr : by8s r.1) : codec_reader_ip r = some (numS 4 r, (takeS 4 r).2, ()) := by
  unfold codec_reader_ip
  have := (num4 hr).1
  have h0 := this.1
  have h1 := this.2
  rw [show codec_reader_number 4 r = _ from rdn_eq 4 (by omega) hr]
  simp only [bnd_val, ltO_def]
  rw [wu32 (by omega) (by omega)]
def macL (l : List Int) : TMac := (l.getD 0 0, l.getD 1 0, l.getD 2 0, l.getD 3 0, l.getD 4 0, l.getD 5 0)
def m6l (m : TMac) : List Int := [m.1, m.2.1, m.2.2.1, m.2.2.2.1, m.2.2.2.2.1, m.2.2.2.2.2]
theorem rmac_eq (r : Rd8) : codec_reader_mac r = some (macL (takeS 6 r).1, (takeS 6 r).2, ()) := by
  unfold codec_reader_mac
  rw [show codec_reader_take 6 r = _ from take_eq 6 (by omega) r]
  simp only [bnd_val]
  rw [chk_pos (by rw [takeS_len]; omega)]
  rfl
end Go.Tr
namespace Go.Tr
open Go
set_option linter.unusedVariables false
set_option linter.unusedSimpArgs false
set_option maxRecDepth 100000
set_option maxHeartbeats 4000000
def okC (c : UInt8) : Bool := (decide (97 ≤ c.toNat) && decide (c.toNat ≤ 122)) || (decide (48 ≤ c.toNat) && decide (c.toNat ≤ 57))
def mayS (o : List UInt8) : Bool := o.all okC && (o != [] && decide (o.length ≤ 8))
theorem okC_not (c : UInt8) : ((decide (((c.toNat : Nat) : Int) < 97) || decide (((c.toNat : Nat) : Int) > 122)) && (decide (((c.toNat : Nat) : Int) < 48) || decide (((c.toNat : Nat) : Int) > 57))) = !okC c := by
  unfold okC
  rw [Bool.eq_iff_iff]
  simp
  omega
theorem may_body {o : List UInt8} (ho : o.length ≤ 140737488355328) (i : Nat) (hi : i < o.length) :
    held_May_b0 o ((o.length : Nat) : Int) (i : Int) = if okC (o.getD i 0) = true then some (.inl (o, ((o.length : Nat) : Int), ((i + 1 : Nat) : Int), ())) else some (.inr (.inr (false, ()))) := by
  unfold held_May_b0
  simp only [chk_same, chk_nn, ltO_def]
  rw [decide_eq_true (by omega), cnd_true, chk_pos (by omega), w64 (by omega) (by omega)]
  simp only [Int.toNat_natCast]
  rw [chk_pos (by intro h1 h2; rw [h1, h2]; rfl), okC_not, cnd_ite]
  cases okC (o.getD i 0) with
  | true => rfl
  | false => rfl
theorem May_eq {o : List UInt8} (ho : o.length ≤ 140737488355328) : held_May o = some (mayS o, ()) := by
  unfold held_May
  have L : held_May_l0 (o, ((o.length : Nat) : Int), 0, ()) = some (if (List.range' 0 o.length).all (fun i => okC (o.getD i 0)) = true then .inl (o, ()) else .inr (false, ())) := by
    unfold held_May_l0
    exact loopM_all (f := fun s : (List UInt8) × Int × Int × Unit => held_May_b0 s.1 s.2.1 s.2.2.1) (fun i => (o, ((o.length : Nat) : Int), (i : Int), ())) (fun i => okC (o.getD i 0)) (.inr (false, ())) (.inl (o, ())) o.length
      (fun i hi => by
        have := may_body ho i hi
        simp only at this ⊢
        rw [this])
      (by
        show held_May_b0 o ((o.length : Nat) : Int) ((o.length : Nat) : Int) = _
        unfold held_May_b0
        rw [decide_eq_false (by omega)]; rfl) o.length 0 (by omega)
  rw [L]
  have hall : (List.range' 0 o.length).all (fun i => okC (o.getD i 0)) = o.all okC := by
    rw [Bool.eq_iff_iff, List.all_eq_true, List.all_eq_true]
    constructor
    · intro h c hc
      obtain ⟨i, hi, rfl⟩ := List.mem_iff_getElem.1 hc
      have := h i (by simp [List.mem_range']; exact hi)
      simpa [List.getD_eq_getElem?_getD, hi] using this
    · intro h i hi
      have hi' : i < o.length := by simpa [List.mem_range'] using hi
      have := h o[i] (List.getElem_mem hi')
      simpa [List.getD_eq_getElem?_getD, hi'] using this
  rw [hall]
  unfold mayS
  cases h : o.all okC with
  | false => rfl
  | true =>
    simp only [if_true, bnd_val, sumO_inl, chk_same, ltO_def, Bool.true_and]
    congr 2
    rw [show decide (((o.length : Nat) : Int) ≤ 8) = decide (o.length ≤ 8) from by simp; omega]
    rfl
def fitS (e : TEv) : Bool :=
  if e.1 = 1 then mayS e.2.1.2.1 && !(e.2.1.2.2.1 % 2 == 1) else if e.1 = 5 then decide (0 ≤ e.2.2.2.1) && decide (e.2.2.2.1 < 4) else decide (0 ≤ e.1) && decide (e.1 < 8)
theorem group_eq' {m : TMac} (hm : by8 m.1) : mac_Group m = some (m.1 % 2 == 1, ()) := by
  unfold mac_Group bandI
  rw [chk_pos (by decide), and1 _ hm.1]; rfl
theorem fits_eq {e : TEv} (ho : e.2.1.2.1.length ≤ 140737488355328) (hm : by8 e.2.1.2.2.1) : codec_fits e = some (fitS e, ()) := by
  unfold codec_fits fitS
  simp only [chk_same, ltO_def, cnd_ite, beq_iff_eq, ge_iff_le]
  by_cases h1 : e.1 = 1
  · rw [if_pos h1, if_pos h1, May_eq ho]
    simp only [bnd_val]
    rw [group_eq' hm]
    simp
  · rw [if_neg h1, if_neg h1]
    by_cases h5 : e.1 = 5
    · rw [if_pos h5, if_pos h5]
    · rw [if_neg h5, if_neg h5]
def holdR (r : Rd8) : THold × Rd8 :=
  let r1 := (takeS 4 r).2
  let r2 := (takeS 1 r1).2
  let t := takeS (numS 1 r1).toNat r2
  ((numS 4 r, toBytes t.1, macL (takeS 6 t.2).1), (takeS 6 t.2).2)
def blockR (r : Rd8) : (Int × Int) × Rd8 := ((numS 4 r, numS 1 (takeS 4 r).2), (takeS 1 (takeS 4 r).2).2)
theorem rholder_eq {r : Rd8} (hr : by8s r.1) : codec_reader_holder r = some ((holdR r).1, (holdR r).2, ()) := by
  unfold codec_reader_holder holdR
  have h1 := (takeS_by8 (n := 4) hr).2
  have h2 := (takeS_by8 (n := 1) h1).2
  have hn := (num1 h1).1
  have h0 := hn.1
  have h9 := hn.2
  rw [rip_eq hr]
  simp only [bnd_val]
  rw [one_eq' h1]
  simp only [bnd_val, ltO_def]
  have ht := take_eq (numS 1 (takeS 4 r).2).toNat (by omega) (takeS 1 (takeS 4 r).2).2
  rw [Int.toNat_of_nonneg h0] at ht
  rw [ht]
  simp only [bnd_val]
  rw [rmac_eq]
  rfl
theorem rblock_eq {r : Rd8} (hr : by8s r.1) : codec_reader_block r = some ((blockR r).1, (blockR r).2, ()) := by
  unfold codec_reader_block blockR
  rw [rip_eq hr]
  simp only [bnd_val]
  rw [one_eq' (takeS_by8 (n := 4) hr).2]
  rfl
def finR (e : TEv) (r : Rd8) : TEv × Bool := if r.2 = false ∧ r.1 = [] ∧ fitS e = true then (e, true) else (zEv, false)
def rdE (b : List Int) : TEv × Bool :=
  let w := numS 1 (b, false)
  let r := (takeS 1 (b, false)).2
  if w = 1 then finR (w, (holdR r).1, (0, 0), 0, zMac, 0) (holdR r).2
  else if w = 3 ∨ w = 4 then finR (w, zHold, (blockR r).1, 0, zMac, 0) (blockR r).2
  else if w = 5 then finR (w, (numS 4 r, [], zMac), (0, 0), numS 1 (takeS 4 r).2, macL (takeS 6 (takeS 1 (takeS 4 r).2).2).1, 0) (takeS 6 (takeS 1 (takeS 4 r).2).2).2
  else if w = 2 ∨ w = 6 ∨ w = 7 then finR (w, (numS 4 r, [], zMac), (0, 0), 0, zMac, 0) (takeS 4 r).2
  else finR (w, zHold, (0, 0), 0, zMac, 0) r
theorem getD_by8 {l : List Int} (h : by8s l) (i : Nat) : by8 (l.getD i 0) := by
  rw [List.getD_eq_getElem?_getD]
  cases hh : l[i]? with
  | none => exact by8_0
  | some c => exact h c (List.mem_of_getElem? hh)
theorem fin_eq {e : TEv} {r : Rd8} (ho : e.2.1.2.1.length ≤ 140737488355328) (hm : by8 e.2.1.2.2.1) :
    (ltO (r.2 || decide (((r.1.length : Nat) : Int) > 0)) fun v3 => chk ((!v3) = true → (!v3) = true) (bndG (!v3) (codec_fits e) (false, ()) fun y4 => chk ((!v3) = true → (!v3) = true) (chk (v3 = false → (!v3) = true)
      (ltO (v3 || !y4.fst) fun v5 => cnd v5 (some (zEv, false, ())) (some (e, true, ())))))) = some ((finR e r).1, (finR e r).2, ()) := by
  rw [fits_eq ho hm]
  simp only [chk_same, chk_nn, ltO_def, bndG_val]
  unfold finR
  by_cases h : r.2 = false ∧ r.1 = [] ∧ fitS e = true
  · rw [if_pos h, h.1, h.2.1, h.2.2]; rfl
  · rw [if_neg h]
    have : ((r.2 || decide (((r.1.length : Nat) : Int) > 0)) || !fitS e) = true := by
      cases h2 : r.2 with
      | true => rfl
      | false =>
        cases h3 : r.1 with
        | cons a l => simp
        | nil =>
          cases h4 : fitS e with
          | false => rfl
          | true => exact absurd ⟨h2, h3, h4⟩ h
    rw [this]; rfl
theorem ReadEvent_eq {b : List Int} (hb : by8s b) : codec_ReadEvent b = some ((rdE b).1, (rdE b).2, ()) := by
  unfold codec_ReadEvent rdE
  have h1 := (takeS_by8 (n := 1) (r := (b, false)) hb).2
  rw [one_eq' (r := (b, false)) hb]
  simp only [bnd_val]
  generalize hw : numS 1 (b, false) = w
  generalize (takeS 1 (b, false)).2 = r at h1
  have h4 := (takeS_by8 (n := 4) h1).2
  have h5 := (takeS_by8 (n := 1) h4).2
  have hn := (num1 h4).1
  have z : zHold.2.1.length ≤ 140737488355328 := by show 0 ≤ _; omega
  have z8 : by8 zHold.2.2.1 := by8_0
  have zo : ([] : List UInt8).length ≤ 140737488355328 := by show 0 ≤ _; omega
  have F := fun (e : TEv) (r : Rd8) ho hm => fin_eq (e := e) (r := r) ho hm
  rw [ltO_def]
  by_cases e1 : w = 1
  · subst e1
    rw [if_pos rfl, rholder_eq h1]
    simp only [beq_self_eq_true, cnd_true, bnd_val, chk_same, chk_nn]
    have hlen : (holdR r).1.2.1.length ≤ 140737488355328 := by
      show (toBytes (takeS (numS 1 (takeS 4 r).2).toNat _).1).length ≤ _
      rw [toBytes_len, takeS_len]
      have := hn.2; omega
    have hm : by8 (holdR r).1.2.2.1 := by
      show by8 ((takeS 6 _).1.getD 0 0)
      exact getD_by8 (takeS_by8 (takeS_by8 h5).2).1 0
    simpa only [chk_same, chk_nn] using F (1, (holdR r).1, (0, 0), 0, zMac, 0) (holdR r).2 hlen hm
  rw [if_neg e1, show (w == 1) = false from by simpa using e1, cnd_false, ltO_def]
  by_cases e3 : w = 3
  · subst e3
    rw [if_pos (.inl rfl), rblock_eq h1]
    simp only [beq_self_eq_true, cnd_true, bnd_val, chk_same, chk_nn]
    simpa only [chk_same, chk_nn] using F (3, zHold, (blockR r).1, 0, zMac, 0) (blockR r).2 z z8
  rw [show (w == 3) = false from by simpa using e3, cnd_false, ltO_def]
  by_cases e4 : w = 4
  · subst e4
    rw [if_pos (.inr rfl), rblock_eq h1]
    simp only [beq_self_eq_true, cnd_true, bnd_val, chk_same, chk_nn]
    simpa only [chk_same, chk_nn] using F (4, zHold, (blockR r).1, 0, zMac, 0) (blockR r).2 z z8
  rw [show (w == 4) = false from by simpa using e4, cnd_false, ltO_def, if_neg (by omega)]
  by_cases e5 : w = 5
  · subst e5
    rw [if_pos rfl, rip_eq h1]
    simp only [beq_self_eq_true, cnd_true, bnd_val]
    rw [one_eq' h4]
    simp only [bnd_val]
    rw [rmac_eq]
    simp only [bnd_val, chk_same, chk_nn]
    simpa only [chk_same, chk_nn] using F (5, (numS 4 r, [], zMac), (0, 0), numS 1 (takeS 4 r).2, macL (takeS 6 (takeS 1 (takeS 4 r).2).2).1, 0) (takeS 6 (takeS 1 (takeS 4 r).2).2).2 zo by8_0
  rw [show (w == 5) = false from by simpa using e5, cnd_false, ltO_def, if_neg e5]
  by_cases e2 : w = 2
  · subst e2
    rw [if_pos (by omega), rip_eq h1]
    simp only [beq_self_eq_true, cnd_true, bnd_val, chk_same, chk_nn]
    simpa only [chk_same, chk_nn] using F (2, (numS 4 r, [], zMac), (0, 0), 0, zMac, 0) (takeS 4 r).2 zo by8_0
  rw [show (w == 2) = false from by simpa using e2, cnd_false, ltO_def]
  by_cases e6 : w = 6
  · subst e6
    rw [if_pos (by omega), rip_eq h1]
    simp only [beq_self_eq_true, cnd_true, bnd_val, chk_same, chk_nn]
    simpa only [chk_same, chk_nn] using F (6, (numS 4 r, [], zMac), (0, 0), 0, zMac, 0) (takeS 4 r).2 zo by8_0
  rw [show (w == 6) = false from by simpa using e6, cnd_false, ltO_def]
  by_cases e7 : w = 7
  · subst e7
    rw [if_pos (by omega), rip_eq h1]
    simp only [beq_self_eq_true, cnd_true, bnd_val, chk_same, chk_nn]
    simpa only [chk_same, chk_nn] using F (7, (numS 4 r, [], zMac), (0, 0), 0, zMac, 0) (takeS 4 r).2 zo by8_0
  rw [show (w == 7) = false from by simpa using e7, cnd_false, if_neg (by omega)]
  simp only [chk_same, chk_nn]
  simpa only [chk_same, chk_nn] using F (w, zHold, (0, 0), 0, zMac, 0) r z z8
end Go.Tr
namespace Go.Tr
open Go
set_option linter.unusedVariables false
set_option linter.unusedSimpArgs false
set_option maxRecDepth 100000
set_option maxHeartbeats 4000000
def hoB (h : THold) : List Int := be h.1 4 ++ [(h.2.1.length : Int) % 256] ++ ofBytes h.2.1 ++ m6l h.2.2
def evB (e : TEv) : List Int :=
  [e.1 % 256] ++ (if e.1 = 1 then hoB e.2.1 else if e.1 = 3 ∨ e.1 = 4 then be e.2.2.1.1 4 ++ [e.2.2.1.2 % 256] else if e.1 = 5 then be e.2.1.1 4 ++ [e.2.2.2.1 % 256] ++ m6l e.2.2.2.2.1
    else if e.1 = 2 ∨ e.1 = 6 ∨ e.1 = 7 then be e.2.1.1 4 else [])
structure EvWf (e : TEv) : Prop where
  a : in32 e.2.1.1
  o : e.2.1.2.1.length ≤ 1000000
  m : M6ok e.2.1.2.2
  b : in32 e.2.2.1.1
  s : M6ok e.2.2.2.2.1
  w : -9223372036854775808 ≤ e.1 ∧ e.1 ≤ 9223372036854775807
theorem m6l_by8 {m : TMac} (h : M6ok m) : by8s (m6l m) := by
  intro c hc
  simp only [m6l, List.mem_cons, List.not_mem_nil, or_false] at hc
  rcases hc with rfl | rfl | rfl | rfl | rfl | rfl
  · exact h.h0
  · exact h.h1
  · exact h.h2
  · exact h.h3
  · exact h.h4
  · exact h.h5
theorem holder_eq {h : THold} (ha : in32 h.1) (ho : h.2.1.length ≤ 1000000) (b : List Int) (hb : b.length ≤ 80000000000000) : codec_holder h b = some (b ++ hoB h, ()) := by
  unfold codec_holder hoB
  rw [ip_eq ha b (by omega)]
  simp only [bnd_val, ltO_def]
  have l4 := be_len h.1 4
  have lo := ofBytes_len h.2.1
  rw [chk_pos (by simp only [room1, List.length_append, List.length_cons, List.length_nil, l4]; omega), chk_pos (by simp only [room1, List.length_append, List.length_cons, List.length_nil, l4, lo]; omega), chk_pos (by decide),
    chk_pos (by simp only [room1, List.length_append, List.length_cons, List.length_nil, l4, lo]; omega), u8_wrap]
  simp [m6l]
theorem block_eq {x : Int × Int} (ha : in32 x.1) (b : List Int) (hb : b.length ≤ 80000000000000) : codec_block x b = some (b ++ (be x.1 4 ++ [x.2 % 256]), ()) := by
  unfold codec_block
  rw [ip_eq ha b (by omega)]
  have l4 := be_len x.1 4
  simp only [bnd_val, ltO_def]
  rw [chk_pos (by simp only [room1, List.length_append, List.length_cons, List.length_nil, l4]; omega), u8_wrap]
  simp
theorem Event_eq {e : TEv} (h : EvWf e) : codec_Event e = some (evB e, ()) := by
  unfold codec_Event evB
  have l4 := be_len e.2.1.1 4
  have s1 : ∀ c : Int, ([c] : List Int).length ≤ 80000000000000 := fun c => by simp
  rw [ltO_def, u8_wrap, holder_eq h.a h.o [e.1 % 256] (s1 _), block_eq h.b [e.1 % 256] (s1 _), ip_eq h.a [e.1 % 256] (by have := s1 (e.1 % 256); omega)]
  simp only [bnd_val, ltO_def, cnd_ite, beq_iff_eq]
  rw [chk_pos (by simp only [room1, List.length_append, List.length_cons, List.length_nil, l4]; omega), chk_pos (by decide), chk_pos (by simp only [room1, List.length_append, List.length_cons, List.length_nil, l4]; omega), u8_wrap]
  by_cases e1 : e.1 = 1
  · simp [e1]
  by_cases e3 : e.1 = 3
  · simp [e3]
  by_cases e4 : e.1 = 4
  · simp [e4]
  by_cases e5 : e.1 = 5
  · simp [e5, m6l]
  by_cases e2 : e.1 = 2
  · simp [e2]
  by_cases e6 : e.1 = 6
  · simp [e6]
  by_cases e7 : e.1 = 7
  · simp [e7]
  simp [e1, e2, e3, e4, e5, e6, e7]
theorem take_app {n : Nat} {x y : List Int} (h : x.length = n) : takeS n (x ++ y, false) = (x, (y, false)) := by
  unfold takeS
  have hn : ¬ ((x ++ y, false).2 = true ∨ (x ++ y, false).1.length < n) := by
    rintro (hh | hh)
    · cases hh
    · have : (x ++ y).length < n := hh
      rw [List.length_append] at this; omega
  rw [if_neg hn]
  simp [← h]
theorem de4 {a : Int} (h : in32 a) : de (be a 4) = a := by
  have h0 := h.1
  have h1 := h.2
  simp only [be, de, List.foldl_cons, List.foldl_nil]
  omega
theorem num_app4 {a : Int} (h : in32 a) (y : List Int) : numS 4 (be a 4 ++ y, false) = a := by
  have h0 := h.1
  have h1 := h.2
  unfold numS
  rw [take_app (be_len a 4)]
  simp only
  rw [de4 h, w64 (by omega) (by omega)]
theorem num_app1 {c : Int} (h : by8 c) (y : List Int) : numS 1 (c :: y, false) = c := by
  have h0 := h.1
  have h1 := h.2
  unfold numS
  rw [show (c :: y) = [c] ++ y from rfl, take_app (by rfl)]
  simp only [de, List.foldl_cons, List.foldl_nil]
  rw [w64 (by omega) (by omega)]; omega
theorem macL_m6l (m : TMac) : macL (m6l m) = m := rfl
end Go.Tr
namespace Go.Tr
open Go
set_option linter.unusedVariables false
set_option linter.unusedSimpArgs false
set_option maxRecDepth 100000
set_option maxHeartbeats 4000000
theorem rows0 (b : List Int) (hb : b.length ≤ 1000) : codec_rows [] b = some (b ++ be 0 2, ()) ∧ codec_rows_v1 [] b = some (b ++ be 0 2, ()) ∧ codec_rows_v3 [] b = some (b ++ be 0 2, ()) ∧ codec_rows_v4 [] b = some (b ++ be 0 2, ()) ∧ codec_rows_v5 [] b = some (b ++ be 0 2, ()) := by
  have e0 : ((([] : List Int).length : Nat) : Int) = 0 := rfl
  refine ⟨?_, ?_, ?_, ?_, ?_⟩
  · unfold codec_rows
    rw [show (((List.length ([] : List THold)) : Nat) : Int) = 0 from rfl, small_eq 0 b (by omega)]
    simp only [bnd_val]
    unfold codec_rows_l0
    rw [loopM_last (y := .inl (b ++ be 0 2, ()))]
    · rfl
    · show codec_rows_b0 [] 0 0 (b ++ be 0 2) = _
      unfold codec_rows_b0
      rw [decide_eq_false (by omega)]; rfl
  · unfold codec_rows_v1
    rw [show (((List.length ([] : List TSweep)) : Nat) : Int) = 0 from rfl, small_eq 0 b (by omega)]
    simp only [bnd_val]
    unfold codec_rows_v1_l0
    rw [loopM_last (y := .inl (b ++ be 0 2, ()))]
    · rfl
    · show codec_rows_v1_b0 [] 0 0 (b ++ be 0 2) = _
      unfold codec_rows_v1_b0
      rw [decide_eq_false (by omega)]; rfl
  · unfold codec_rows_v3
    rw [show (((List.length ([] : List TKnown)) : Nat) : Int) = 0 from rfl, small_eq 0 b (by omega)]
    simp only [bnd_val]
    unfold codec_rows_v3_l0
    rw [loopM_last (y := .inl (b ++ be 0 2, ()))]
    · rfl
    · show codec_rows_v3_b0 [] 0 0 (b ++ be 0 2) = _
      unfold codec_rows_v3_b0
      rw [decide_eq_false (by omega)]; rfl
  · unfold codec_rows_v4
    rw [show (((List.length ([] : List TProbe)) : Nat) : Int) = 0 from rfl, small_eq 0 b (by omega)]
    simp only [bnd_val]
    unfold codec_rows_v4_l0
    rw [loopM_last (y := .inl (b ++ be 0 2, ()))]
    · rfl
    · show codec_rows_v4_b0 [] 0 0 (b ++ be 0 2) = _
      unfold codec_rows_v4_b0
      rw [decide_eq_false (by omega)]; rfl
  · unfold codec_rows_v5
    rw [show (((List.length ([] : List TCase)) : Nat) : Int) = 0 from rfl, small_eq 0 b (by omega)]
    simp only [bnd_val]
    unfold codec_rows_v5_l0
    rw [loopM_last (y := .inl (b ++ be 0 2, ()))]
    · rfl
    · show codec_rows_v5_b0 [] 0 0 (b ++ be 0 2) = _
      unfold codec_rows_v5_b0
      rw [decide_eq_false (by omega)]; rfl
theorem num2_app {c : Int} (h : 0 ≤ c ∧ c < 65536) (y : List Int) : numS 2 (be c 2 ++ y, false) = c := by
  have h0 := h.1
  have h1 := h.2
  unfold numS
  rw [take_app (be_len c 2)]
  simp only [be, de, List.foldl_cons, List.foldl_nil]
  rw [w64 (by omega) (by omega)]; omega
theorem num8_app {c : Int} (h : -9223372036854775808 ≤ c ∧ c ≤ 9223372036854775807) (y : List Int) : numS 8 (be c 8 ++ y, false) = c := by
  have h0 := h.1
  have h1 := h.2
  unfold numS
  rw [take_app (be_len c 8)]
  simp only [be, de, List.foldl_cons, List.foldl_nil]
  rw [i64_wrap]; omega
theorem read0 {y : List Int} (hy : by8s y) : codec_read (be 0 2 ++ y, false) = some ((y, false), [], ()) ∧ codec_read_v1 (be 0 2 ++ y, false) = some ((y, false), [], ()) ∧ codec_read_v3 (be 0 2 ++ y, false) = some ((y, false), [], ()) ∧
    codec_read_v4 (be 0 2 ++ y, false) = some ((y, false), [], ()) ∧ codec_read_v5 (be 0 2 ++ y, false) = some ((y, false), [], ()) := by
  have hb : by8s (be 0 2 ++ y) := by
    intro c hc
    rcases List.mem_append.1 hc with h | h
    · exact be_by8 0 2 c h
    · exact hy c h
  have hs := rsmall_eq (r := (be 0 2 ++ y, false)) hb
  rw [num2_app ⟨by omega, by omega⟩, take_app (be_len 0 2)] at hs
  refine ⟨?_, ?_, ?_, ?_, ?_⟩
  · unfold codec_read
    rw [hs]
    simp only [bnd_val]
    unfold codec_read_l0
    rw [loopM_last (y := .inl (y, false, [], ()))]
    · rfl
    · show codec_read_b0 0 [] (y, false) = _
      unfold codec_read_b0
      simp only [chk_same, ltO_def]
      rw [decide_eq_false (by omega)]; rfl
  · unfold codec_read_v1
    rw [hs]
    simp only [bnd_val]
    unfold codec_read_v1_l0
    rw [loopM_last (y := .inl (y, false, [], ()))]
    · rfl
    · show codec_read_v1_b0 0 [] (y, false) = _
      unfold codec_read_v1_b0
      simp only [chk_same, ltO_def]
      rw [decide_eq_false (by omega)]; rfl
  · unfold codec_read_v3
    rw [hs]
    simp only [bnd_val]
    unfold codec_read_v3_l0
    rw [loopM_last (y := .inl (y, false, [], ()))]
    · rfl
    · show codec_read_v3_b0 0 [] (y, false) = _
      unfold codec_read_v3_b0
      simp only [chk_same, ltO_def]
      rw [decide_eq_false (by omega)]; rfl
  · unfold codec_read_v4
    rw [hs]
    simp only [bnd_val]
    unfold codec_read_v4_l0
    rw [loopM_last (y := .inl (y, false, [], ()))]
    · rfl
    · show codec_read_v4_b0 0 [] (y, false) = _
      unfold codec_read_v4_b0
      simp only [chk_same, ltO_def]
      rw [decide_eq_false (by omega)]; rfl
  · unfold codec_read_v5
    rw [hs]
    simp only [bnd_val]
    unfold codec_read_v5_l0
    rw [loopM_last (y := .inl (y, false, [], ()))]
    · rfl
    · show codec_read_v5_b0 0 [] (y, false) = _
      unfold codec_read_v5_b0
      simp only [chk_same, ltO_def]
      rw [decide_eq_false (by omega)]; rfl
theorem right0 : held_Right [] = some (true, ()) ∧ sweep_Right [] = some (true, ()) ∧ seen_Right [] = some (true, ()) ∧ probe_Right [] = some (true, ()) ∧ cases_Right [] = some (true, ()) := by
  refine ⟨?_, ?_, ?_, ?_, ?_⟩
  · unfold held_Right held_Right_l0
    rw [loopM_last (y := .inl ([], ()))]
    · rfl
    · rfl
  · unfold sweep_Right sweep_Right_l0
    rw [loopM_last (y := .inl ([], ()))]
    · rfl
    · rfl
  · unfold seen_Right seen_Right_l0
    rw [loopM_last (y := .inl ([], ()))]
    · rfl
    · rfl
  · unfold probe_Right probe_Right_l0
    rw [loopM_last (y := .inl ([], ()))]
    · rfl
    · rfl
  · unfold cases_Right cases_Right_l0
    rw [loopM_last (y := .inl ([], ()))]
    · rfl
    · rfl
end Go.Tr
namespace Go.Tr
open Go
set_option linter.unusedVariables false
set_option linter.unusedSimpArgs false
set_option maxRecDepth 100000
set_option maxHeartbeats 4000000
theorem clamp_eq {n : Int} : clock_Clamp n = some (if n < 0 then 0 else if n > 1099511627776 then 1099511627776 else n, ()) := by
  unfold clock_Clamp
  congr 2
  split <;> (try split) <;> (try split) <;> omega
theorem state7 : codec_State (7, 0, [], [], [], [], []) = some (be 7 8 ++ (be 0 2 ++ (be 0 2 ++ (be 0 2 ++ (be 0 2 ++ (be 0 2 ++ be 0 2))))), ()) := by
  unfold codec_State
  have l8 := be_len 7 8
  have l2 := be_len 0 2
  simp only
  rw [num_eq 7 [] (by simp)]
  simp only [bnd_val, List.nil_append]
  rw [small_eq 0 _ (by omega)]
  simp only [bnd_val]
  rw [(rows0 (be 7 8 ++ be 0 2) (by simp [l8, l2])).1]
  simp only [bnd_val]
  rw [(rows0 _ (by simp [l8, l2])).2.1]
  simp only [bnd_val]
  rw [(rows0 _ (by simp [l8, l2])).2.2.1]
  simp only [bnd_val]
  rw [(rows0 _ (by simp [l8, l2])).2.2.2.1]
  simp only [bnd_val]
  rw [(rows0 _ (by simp [l8, l2])).2.2.2.2]
  simp only [bnd_val, List.append_assoc]
theorem by8s_app {a b : List Int} (ha : by8s a) (hb : by8s b) : by8s (a ++ b) := by
  intro c hc
  rcases List.mem_append.1 hc with h | h
  · exact ha c h
  · exact hb c h
theorem by8s_nil : by8s [] := fun c hc => by simp at hc
theorem readState7 : codec_ReadState (be 7 8 ++ (be 0 2 ++ (be 0 2 ++ (be 0 2 ++ (be 0 2 ++ (be 0 2 ++ be 0 2)))))) = some ((7, 0, [], [], [], [], []), true, ()) := by
  have z2 := be_by8 0 2
  have h1 : by8s (be 0 2) := z2
  have h2 := by8s_app z2 h1
  have h3 := by8s_app z2 h2
  have h4 := by8s_app z2 h3
  have h5 := by8s_app z2 h4
  have h6 := by8s_app z2 h5
  have h7 := by8s_app (be_by8 7 8) h6
  unfold codec_ReadState
  rw [rnum_eq (r := (_, false)) h7, num8_app ⟨by omega, by omega⟩, take_app (be_len 7 8)]
  simp only [bnd_val]
  rw [rsmall_eq (r := (_, false)) h6, num2_app ⟨by omega, by omega⟩, take_app (be_len 0 2)]
  simp only [bnd_val]
  rw [(read0 h4).1]
  simp only [bnd_val]
  rw [(read0 h3).2.1]
  simp only [bnd_val]
  rw [(read0 h2).2.2.1]
  simp only [bnd_val]
  rw [(read0 h1).2.2.2.1]
  simp only [bnd_val]
  have := (read0 by8s_nil).2.2.2.2
  rw [List.append_nil] at this
  rw [this]
  have hr : codec_Right (7, 0, [], [], [], [], []) = some (true, ()) := by
    unfold codec_Right
    obtain ⟨r1, r2, r3, r4, r5⟩ := right0
    simp only
    rw [clamp_eq, r1, r2, r3, r4, r5]
    simp [ltO_def]
  simp only [bnd_val, hr]
  simp [ltO_def]
theorem awakeC_eq : terrierlaw19_awake = some (true, ()) := by
  unfold terrierlaw19_awake
  have hb : by8s [2, 10, 0, 0, 1] := by
    intro c hc
    simp only [List.mem_cons, List.not_mem_nil, or_false] at hc
    rcases hc with rfl | rfl | rfl | rfl | rfl <;> exact ⟨by decide, by decide⟩
  have hz : EvWf zEv := ⟨zero_in, by show 0 ≤ _; omega, M6z, zero_in, M6z, by decide, by decide⟩
  rw [ReadEvent_eq hb, state7]
  simp only [bnd_val]
  rw [readState7, Event_eq hz]
  have e1 : (rdE [2, 10, 0, 0, 1]).2 = true ∧ (rdE [2, 10, 0, 0, 1]).1.1 = 2 ∧ (rdE [2, 10, 0, 0, 1]).1.2.1.1 = 167772161 := by decide
  have e2 : (evB zEv).length = 1 := by decide
  simp [ltO_def, e2, e1.1, e1.2.1, e1.2.2]
end Go.Tr
