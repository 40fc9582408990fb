import Derived.Test.YtiebkbmnepgacaaGreatDoorWy1
/-
  Walk of the reference's Say.
-/
namespace Go.Proofs.YtiebkbmnepgacaaGreatDoor
open Go.RowKit
set_option linter.unusedVariables false
set_option maxRecDepth 100000

structure Bk where
  rule : Int
  path : List Int
  pa : Option Addr
  pc : Nat
  old' : ByteArray
  new' : ByteArray
def bkC (b : Bk) : List Value := [.int .i64 b.rule, .slice b.pa b.path.length b.pc, .string b.old', .string b.new']
abbrev bkV (b : Bk) : Value := .agg (bkC b).toArray
def BkOk (w : World) (b : Bk) : Prop := Cells w b.pa (ints b.path) ∧ Okn b.path ∧ b.path.length ≤ 1048576 ∧ b.old'.size ≤ 1048576 ∧ b.new'.size ≤ 1048576
theorem BkOk.ext {w w' : World} {b : Bk} (h : BkOk w b) (hx : Ext w w') : BkOk w' b := ⟨h.1.ext hx, h.2⟩
def atB (l : List Int) : ByteArray := if l = [] then bytes [116, 111, 112] else bytes (pathL l)
def wordsB (k : Nat) : ByteArray := bytes (saysD.getD k [])
def longB (b : Bk) (p wds : ByteArray) : ByteArray := (((((b.old' ++ bytes [32, 45, 62, 32]) ++ b.new') ++ bytes [32, 97, 116, 32]) ++ p) ++ bytes [58, 32]) ++ wds
def sayB (b : Bk) : ByteArray := if b.rule = 0 then bytes [102, 105, 110, 101] else if b.rule < 0 ∨ 7 ≤ b.rule then bytes [110, 111, 32, 114, 117, 108, 101] else longB b (atB b.path) (wordsB b.rule.toNat)
theorem atB_size {l : List Int} (h : Okn l) (hl : l.length ≤ 1048576) : (atB l).size ≤ 23068672 := by
  unfold atB
  split
  · simp [bytes_size]
  · rw [bytes_size]; have := pathL_len h; omega
theorem wordsB_size : ∀ k, k < 7 → (wordsB k).size ≤ 40 := by decide +kernel
theorem szb (l : List UInt8) : (bytes l).size = l.length := bytes_size l
theorem refSay_w (b : Bk) (w : World) (h : BkOk w b) (ht : TabOk w) (hte : ∀ w', Ext w w' → TabOk w') : Rt Tryz.prog 10 [bkV b] w fun v _ => v = .string (sayB b) := by
  obtain ⟨hp, hok, hn, hs1, hs2⟩ := h
  refine Rt.of Tryz.func10 rfl Tryz.ntmps10 (by rfl) ?_
  refine CD.rs FW.wide rfl ?_
  refine PL.box FW.wide rfl rfl rfl rfl ?_
  intro b1 w1 new1
  refine PL.q rfl rfl (OQ.assign rfl) rfl ?_
  refine PL.to ?_
  refine CD.rs FW.wide rfl ?_
  refine PL.q rfl rfl (OQ.assign rfl) rfl ?_
  refine PL.to ?_
  have p0 : w1.cell? ⟨b1, 0, none⟩ = some (.int .i64 b.rule) := new1.cell rfl
  have p1 : w1.cell? ⟨b1, 1, none⟩ = some (.slice b.pa b.path.length b.pc) := new1.cell rfl
  have p2 : w1.cell? ⟨b1, 2, none⟩ = some (.string b.old') := new1.cell rfl
  have p3 : w1.cell? ⟨b1, 3, none⟩ = some (.string b.new') := new1.cell rfl
  have x1 : Ext w w1 := new1.ext
  refine CD.cut (α := Nat) (fun k => [(1, .pointer (some ⟨b1, 0, none⟩)), (3, .string (wordsB k))]) (fun k w' => w1 = w' ∧ b.rule = k ∧ 1 ≤ k ∧ k ≤ 6) ?_ ?_
  · refine CD.rs FW.wide rfl ?_
    refine PL.q rfl rfl ((by first | exact OQ.field0 rfl | exact OQ.field rfl)) rfl ?_
    refine PL.q rfl rfl (OQ.loadS rfl (by assumption)) rfl ?_
    refine PL.to ?_
    refine CD.block ?_
    refine CD.rs FW.wide rfl ?_
    refine PL.q rfl rfl (OQ.eql rfl rfl) rfl ?_
    refine PL.q rfl rfl (OQ.assign rfl) rfl ?_
    refine PL.to ?_
    refine CD.condD rfl (fun h0 => ?_) (fun h0 => ?_)
    · refine CD.rs FW.wide rfl ?_
      refine PL.q rfl rfl (OQ.assign rfl) rfl ?_
      refine PL.to ?_
      exact CD.ret (post1 rfl rfl ⟨_, rfl, x1, by simp only [sayB, if_pos h0]; rfl⟩)
    refine CD.rs FW.wide rfl ?_
    refine PL.q rfl rfl (OQ.eql rfl rfl) rfl ?_
    refine PL.q rfl rfl (OQ.assign rfl) rfl ?_
    refine PL.to ?_
    refine CD.condD rfl (fun k1 => ?_) (fun k1 => ?_)
    · refine CD.r FW.wide rfl ?_
      refine PL.q rfl rfl (OQ.assign rfl) rfl ?_
      exact PL.nil fun a ha => ⟨1, ha.sub ⟨rfl, rfl, trivial⟩, rfl, k1, by omega, by omega⟩
    refine CD.rs FW.wide rfl ?_
    refine PL.q rfl rfl (OQ.eql rfl rfl) rfl ?_
    refine PL.q rfl rfl (OQ.assign rfl) rfl ?_
    refine PL.to ?_
    refine CD.condD rfl (fun k2 => ?_) (fun k2 => ?_)
    · refine CD.r FW.wide rfl ?_
      refine PL.q rfl rfl (OQ.assign rfl) rfl ?_
      exact PL.nil fun a ha => ⟨2, ha.sub ⟨rfl, rfl, trivial⟩, rfl, k2, by omega, by omega⟩
    refine CD.rs FW.wide rfl ?_
    refine PL.q rfl rfl (OQ.eql rfl rfl) rfl ?_
    refine PL.q rfl rfl (OQ.assign rfl) rfl ?_
    refine PL.to ?_
    refine CD.condD rfl (fun k3 => ?_) (fun k3 => ?_)
    · refine CD.r FW.wide rfl ?_
      refine PL.q rfl rfl (OQ.assign rfl) rfl ?_
      exact PL.nil fun a ha => ⟨3, ha.sub ⟨rfl, rfl, trivial⟩, rfl, k3, by omega, by omega⟩
    refine CD.rs FW.wide rfl ?_
    refine PL.q rfl rfl (OQ.eql rfl rfl) rfl ?_
    refine PL.q rfl rfl (OQ.assign rfl) rfl ?_
    refine PL.to ?_
    refine CD.condD rfl (fun k4 => ?_) (fun k4 => ?_)
    · refine CD.r FW.wide rfl ?_
      refine PL.q rfl rfl (OQ.assign rfl) rfl ?_
      exact PL.nil fun a ha => ⟨4, ha.sub ⟨rfl, rfl, trivial⟩, rfl, k4, by omega, by omega⟩
    refine CD.rs FW.wide rfl ?_
    refine PL.q rfl rfl (OQ.eql rfl rfl) rfl ?_
    refine PL.q rfl rfl (OQ.assign rfl) rfl ?_
    refine PL.to ?_
    refine CD.condD rfl (fun k5 => ?_) (fun k5 => ?_)
    · refine CD.r FW.wide rfl ?_
      refine PL.q rfl rfl (OQ.assign rfl) rfl ?_
      exact PL.nil fun a ha => ⟨5, ha.sub ⟨rfl, rfl, trivial⟩, rfl, k5, by omega, by omega⟩
    refine CD.rs FW.wide rfl ?_
    refine PL.q rfl rfl (OQ.eql rfl rfl) rfl ?_
    refine PL.q rfl rfl (OQ.assign rfl) rfl ?_
    refine PL.to ?_
    refine CD.condD rfl (fun k6 => ?_) (fun k6 => ?_)
    · refine CD.r FW.wide rfl ?_
      refine PL.q rfl rfl (OQ.assign rfl) rfl ?_
      exact PL.nil fun a ha => ⟨6, ha.sub ⟨rfl, rfl, trivial⟩, rfl, k6, by omega, by omega⟩
    refine CD.rs FW.wide rfl ?_
    refine PL.q rfl rfl (OQ.assign rfl) rfl ?_
    refine PL.to ?_
    have hr : b.rule < 0 ∨ 7 ≤ b.rule := by omega
    exact CD.ret (post1 rfl rfl ⟨_, rfl, x1, by simp only [sayB, if_neg h0, if_pos hr]; rfl⟩)
  rintro k _ ⟨rfl, hk, hk1, hk6⟩
  have hsay : sayB b = longB b (atB b.path) (wordsB k) := by
    have h0 : ¬ b.rule = 0 := by omega
    have hr : ¬ (b.rule < 0 ∨ 7 ≤ b.rule) := by omega
    simp only [sayB, if_neg h0, if_neg hr]
    rw [hk]; rfl
  refine CD.rs FW.wide rfl ?_
  refine PL.q rfl rfl (OQ.assign rfl) rfl ?_
  refine PL.to ?_
  refine CD.seq ?_
  refine CD.rs FW.wide rfl ?_
  refine PL.q rfl rfl (OQ.assign rfl) rfl ?_
  refine PL.to ?_
  refine CD.block ?_
  refine CD.loop (α := Nat) (fun i => [(1, .pointer (some ⟨b1, 0, none⟩)), (3, .string (wordsB k)), (4, .string (atB (b.path.take i))), (5, .int .i64 i)]) (fun i w' => Ext w1 w' ∧ i ≤ b.path.length) (fun i => b.path.length - i) 0 ⟨rfl, rfl, rfl, rfl, trivial⟩ ⟨Ext.refl _, by omega⟩ ?_
  rintro i w2 ⟨hx2, hi⟩
  have q1 : w2.cell? ⟨b1, 1, none⟩ = some (.slice b.pa b.path.length b.pc) := hx2.cell p1
  refine CD.seq ?_
  refine CD.rs FW.wide rfl ?_
  refine PL.q rfl rfl (OQ.move rfl) rfl ?_
  refine PL.q rfl rfl ((by first | exact OQ.field0 rfl | exact OQ.field rfl)) rfl ?_
  refine PL.q rfl rfl (OQ.loadS rfl (by assumption)) rfl ?_
  refine PL.q rfl rfl (OQ.lenS rfl) rfl ?_
  refine PL.q rfl rfl (OQ.lss rfl rfl) rfl ?_
  refine PL.to ?_
  refine CD.condD rfl (fun h20 => ?_) (fun h20 => ?_)
  · have hil : i < b.path.length := by omega
    obtain ⟨pb, po, hpa, hc⟩ := (hp.ext (x1.trans hx2)) i (.int .i64 b.path[i]) (by simp [ints, hil])
    have hpi := hok b.path[i] (List.getElem_mem hil)
    have htake : b.path.take (i + 1) = b.path.take i ++ [b.path[i]] := (List.take_append_getElem hil).symm
    rw [hpa] at q1
    refine CD.skip ?_
    refine CD.cut (α := Unit) (fun _ => [(1, .pointer (some ⟨b1, 0, none⟩)), (3, .string (wordsB k)), (4, .string (atB (b.path.take (i + 1)))), (5, .int .i64 i)]) (fun _ w' => Ext w1 w') ?_ ?_
    · refine CD.block ?_
      refine CD.rs FW.wide rfl ?_
      refine PL.q rfl rfl (OQ.move rfl) rfl ?_
      refine PL.q rfl rfl (OQ.eql rfl rfl) rfl ?_
      refine PL.to ?_
      refine CD.condD rfl (fun h22 => ?_) (fun h22 => ?_)
      · obtain rfl : i = 0 := by omega
        refine CD.r FW.wide rfl ?_
        refine PL.q rfl rfl ((by first | exact OQ.field0 rfl | exact OQ.field rfl)) rfl ?_
        refine PL.q rfl rfl (OQ.loadS rfl (by assumption)) rfl ?_
        refine PL.q rfl rfl (OQ.indexAddr (i := 0) rfl rfl hil) rfl ?_
        refine PL.q rfl rfl (OQ.loadS rfl (by assumption)) rfl ?_
        refine PL.call FW.wide rfl rfl rfl rfl (itoa_w _ hpi w2 (hte _ (x1.trans hx2))) ?_
        rintro _ w35 hx35 rfl
        refine PL.q rfl rfl (OQ.assign rfl) rfl ?_
        refine PL.nil fun a ha => ⟨(), ha.sub ⟨rfl, rfl, ?_, rfl, trivial⟩, hx2.trans hx35⟩
        rw [htake]
        simp only [List.take_zero, List.nil_append]
        have : atB [b.path[0]] = bytes (Lib.itoa b.path[0]) := by unfold atB; rw [if_neg (by simp), pathL_one]
        rw [this]; rfl
      · refine CD.r FW.wide rfl ?_
        have hsz := atB_size (l := b.path.take i) (fun x hx => hok x (List.mem_of_mem_take hx)) (by simp; omega)
        have hlen := Lib.itoa_length_le _ hpi.1 hpi.2
        refine PL.q rfl rfl (OQ.move rfl) rfl ?_
        refine PL.q rfl rfl (OQ.sadd (b := bytes [46]) rfl rfl (by rw [szb]; simp only [List.length_cons, List.length_nil]; omega)) rfl ?_
        refine PL.q rfl rfl ((by first | exact OQ.field0 rfl | exact OQ.field rfl)) rfl ?_
        refine PL.q rfl rfl (OQ.loadS rfl (by assumption)) rfl ?_
        refine PL.q rfl rfl (OQ.move rfl) rfl ?_
        refine PL.q rfl rfl (OQ.indexAddr rfl rfl (by first | assumption | omega)) rfl ?_
        refine PL.q rfl rfl (OQ.loadS rfl (by assumption)) rfl ?_
        refine PL.call FW.wide rfl rfl rfl rfl (itoa_w _ hpi w2 (hte _ (x1.trans hx2))) ?_
        rintro _ w35 hx35 rfl
        refine PL.q rfl rfl (OQ.sadd (a := atB (b.path.take i) ++ bytes [46]) (b := bytes (Lib.itoa b.path[i])) rfl rfl (by rw [ByteArray.size_append, szb, szb]; simp only [List.length_cons, List.length_nil]; omega)) rfl ?_
        refine PL.q rfl rfl (OQ.assign rfl) rfl ?_
        refine PL.nil fun a ha => ⟨(), ha.sub ⟨rfl, rfl, ?_, rfl, trivial⟩, hx2.trans hx35⟩
        have hne : ∃ x l, b.path.take i = x :: l := by
          cases hc : b.path.take i with
          | nil => have := congrArg List.length hc; rw [List.length_take, List.length_nil] at this; omega
          | cons x l => exact ⟨x, l, rfl⟩
        obtain ⟨x, l, hxl⟩ := hne
        have e1 : atB (b.path.take i) = bytes (pathL (x :: l)) := by unfold atB; rw [if_neg (by rw [hxl]; simp), hxl]
        have e2 : atB (b.path.take (i + 1)) = bytes (pathL (x :: l)) ++ bytes [46] ++ bytes (Lib.itoa b.path[i]) := by
          unfold atB; rw [htake, hxl, if_neg (by simp), pathL_snoc, bytes_add, bytes_add]
        rw [e2, ← e1]; rfl
    rintro _ w3 hx3
    refine CD.r FW.wide rfl ?_
    refine PL.q rfl rfl (OQ.move rfl) rfl ?_
    refine PL.q rfl rfl (OQ.addW (r := ((i + 1 : Nat) : Int)) rfl rfl (wrap_succ (by omega))) rfl ?_
    refine PL.q rfl rfl (OQ.assign rfl) rfl ?_
    refine PL.nil ?_
    exact fun a ha => ⟨i + 1, ha.sub ⟨rfl, rfl, rfl, rfl, trivial⟩, ⟨hx3, by omega⟩, by omega⟩
  · have hi' : i = b.path.length := by omega
    subst hi'
    refine CD.exit ?_
    refine CD.rs FW.wide rfl ?_
    have q2 : w2.cell? ⟨b1, 2, none⟩ = some (.string b.old') := hx2.cell p2
    have q3 : w2.cell? ⟨b1, 3, none⟩ = some (.string b.new') := hx2.cell p3
    have hsz := atB_size hok hn
    have hw := wordsB_size k (by omega)
    have htl : b.path.take b.path.length = b.path := List.take_length
    rw [htl]
    refine PL.q rfl rfl ((by first | exact OQ.field0 rfl | exact OQ.field rfl)) rfl ?_
    refine PL.q rfl rfl (OQ.loadS rfl (by assumption)) rfl ?_
    refine PL.q rfl rfl (OQ.sadd (b := bytes [32, 45, 62, 32]) rfl rfl (by rw [szb]; simp only [List.length_cons, List.length_nil]; omega)) rfl ?_
    refine PL.q rfl rfl ((by first | exact OQ.field0 rfl | exact OQ.field rfl)) rfl ?_
    refine PL.q rfl rfl (OQ.loadS rfl (by assumption)) rfl ?_
    refine PL.q rfl rfl (OQ.sadd rfl rfl (by rw [ByteArray.size_append, szb]; simp only [List.length_cons, List.length_nil]; omega)) rfl ?_
    refine PL.q rfl rfl (OQ.sadd (b := bytes [32, 97, 116, 32]) rfl rfl (by rw [ByteArray.size_append, ByteArray.size_append, szb, szb]; simp only [List.length_cons, List.length_nil]; omega)) rfl ?_
    refine PL.q rfl rfl (OQ.move rfl) rfl ?_
    refine PL.q rfl rfl (OQ.sadd rfl rfl (by rw [ByteArray.size_append, ByteArray.size_append, ByteArray.size_append, szb, szb]; simp only [List.length_cons, List.length_nil]; omega)) rfl ?_
    refine PL.q rfl rfl (OQ.sadd (b := bytes [58, 32]) rfl rfl (by rw [ByteArray.size_append, ByteArray.size_append, ByteArray.size_append, ByteArray.size_append, szb, szb, szb]; simp only [List.length_cons, List.length_nil]; omega)) rfl ?_
    refine PL.q rfl rfl (OQ.move rfl) rfl ?_
    refine PL.q rfl rfl (OQ.sadd rfl rfl (by rw [ByteArray.size_append, ByteArray.size_append, ByteArray.size_append, ByteArray.size_append, ByteArray.size_append, szb, szb, szb]; simp only [List.length_cons, List.length_nil]; omega)) rfl ?_
    refine PL.q rfl rfl (OQ.assign rfl) rfl ?_
    refine PL.to ?_
    exact CD.ret (post1 rfl rfl ⟨_, rfl, x1.trans hx2, by rw [hsay]; rfl⟩)
end Go.Proofs.YtiebkbmnepgacaaGreatDoor
