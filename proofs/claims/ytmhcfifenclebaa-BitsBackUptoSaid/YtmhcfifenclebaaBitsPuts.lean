/- The law's puts: the number behind these bytes, in all widths. -/
import Derived.Test.YtmhcfifenclebaaSame
import Derived.Test.YtmhcfifenclebaaBitsPut
import Derived.Test.YtmhcfifenclebaaBitsRefPut
namespace Go.Proofs.Ytmhcfifenclebaa
open Go.RowKit
theorem be8 (x : BitVec 64) : be ((x.setWidth 8).setWidth 64) 1 = be x 1 := be_narrow _ _ _ fun i hi => by simp [show i < 64 by omega, show i < 8 by omega]
theorem be16 (x : BitVec 64) : be ((x.setWidth 16).setWidth 64) 2 = be x 2 := be_narrow _ _ _ fun i hi => by simp [show i < 64 by omega, show i < 16 by omega]
theorem be32 (x : BitVec 64) : be ((x.setWidth 32).setWidth 64) 4 = be x 4 := be_narrow _ _ _ fun i hi => by simp [show i < 64 by omega, show i < 32 by omega]
theorem putsOf (ao : Option Addr) (l : List (BitVec 8)) (cap : Nat) (x : BitVec 64) (w : World) (hl : l.length ≤ 65536) (hr : Rd w ao l) :
   Calls Try.prog 10 #[.slice ao l.length cap, .int .u64 (n64 x)] w fun e w' => e = .returned (.bool true) ∧ Below w.heap.size w w' := by
  have hB0 := Below.refl w.heap.size w
  have hr0 := hr
  go_enter Try.func10, Try.ntmps10
  go_wp2_with fail
  refine (put8 ao l cap (x.setWidth 8) w (by omega) hr0).mono ?_
  rintro e w1 ⟨ga, rfl, h1, ha, hb⟩
  rw [be8] at ha
  have hr1 := hr0.on hb
  have hB1 := hB0.trans (hb.mono hB0.size)
  clear h1 hb hr0 hB0
  go_wp2_with fail
  refine (put16 ao l cap (x.setWidth 16) w1 (by omega) hr1).mono ?_
  rintro e w2 ⟨gc, rfl, h1, hc, hb⟩
  rw [be16] at hc
  replace ha := ha.below hb ha.lt
  have hr2 := hr1.on hb
  have hB2 := hB1.trans (hb.mono hB1.size)
  clear h1 hb hr1 hB1
  go_wp2_with fail
  refine (put32 ao l cap (x.setWidth 32) w2 (by omega) hr2).mono ?_
  rintro e w3 ⟨gd, rfl, h1, hd, hb⟩
  rw [be32] at hd
  replace ha := ha.below hb ha.lt
  replace hc := hc.below hb hc.lt
  have hr3 := hr2.on hb
  have hB3 := hB2.trans (hb.mono hB2.size)
  clear h1 hb hr2 hB2
  go_wp2_with fail
  refine (put64 ao l cap (x) w3 (by omega) hr3).mono ?_
  rintro e w4 ⟨ge, rfl, h1, he, hb⟩
  replace ha := ha.below hb ha.lt
  replace hc := hc.below hb hc.lt
  replace hd := hd.below hb hd.lt
  have hr4 := hr3.on hb
  have hB4 := hB3.trans (hb.mono hB3.size)
  clear h1 hb hr3 hB3
  go_wp2_with fail
  refine (putWord ao l cap (x.setWidth 16) w4 (by omega) hr4).mono ?_
  rintro e w5 ⟨gf, rfl, h1, hf, hb⟩
  rw [be16] at hf
  replace ha := ha.below hb ha.lt
  replace hc := hc.below hb hc.lt
  replace hd := hd.below hb hd.lt
  replace he := he.below hb he.lt
  have hr5 := hr4.on hb
  have hB5 := hB4.trans (hb.mono hB4.size)
  clear h1 hb hr4 hB4
  go_wp2_with fail
  refine (putLong ao l cap (x) w5 (by omega) hr5).mono ?_
  rintro e w6 ⟨gh, rfl, h1, hh, hb⟩
  replace ha := ha.below hb ha.lt
  replace hc := hc.below hb hc.lt
  replace hd := hd.below hb hd.lt
  replace he := he.below hb he.lt
  replace hf := hf.below hb hf.lt
  have hr6 := hr5.on hb
  have hB6 := hB5.trans (hb.mono hB5.size)
  clear h1 hb hr5 hB5
  go_wp2_with fail
  refine (refPut ao l cap 1 x w6 (by omega) hr6 (by omega)).mono ?_
  rintro e w7 ⟨v, rfl, ho, hb⟩
  obtain ⟨hlen, ar, cr, rfl, hrr, -, -, -, -⟩ := owns_rdn ho
  replace ha := ha.below hb ha.lt
  replace hc := hc.below hb hc.lt
  replace hd := hd.below hb hd.lt
  replace he := he.below hb he.lt
  replace hf := hf.below hb hf.lt
  replace hh := hh.below hb hh.lt
  have hr7 := hr6.on hb
  have hB7 := hB6.trans (hb.mono hB6.size)
  clear ho hb hr6 hB6
  go_wp2_with fail
  refine (sameTrue (some ⟨ga, 0, none⟩) ar (l ++ be x 1) (l.length + 1) (l.length + 1) _ cr w7 (by simp [be_length]) (by simp [be_length]) (by omega) ha.rd hrr).mono ?_
  rintro e w8 ⟨rfl, hst⟩
  replace ha := ha.still hst
  replace hc := hc.still hst
  replace hd := hd.still hst
  replace he := he.still hst
  replace hf := hf.still hst
  replace hh := hh.still hst
  have hr8 := hr7.on (hst.below _)
  have hB8 := hB7.trans ((hst.below _).mono hB7.size)
  clear hst hr7 hB7 hrr hlen
  go_wp2_with fail
  refine (refPut ao l cap 2 x w8 (by omega) hr8 (by omega)).mono ?_
  rintro e w9 ⟨v, rfl, ho, hb⟩
  obtain ⟨hlen, ar, cr, rfl, hrr, -, -, -, -⟩ := owns_rdn ho
  replace ha := ha.below hb ha.lt
  replace hc := hc.below hb hc.lt
  replace hd := hd.below hb hd.lt
  replace he := he.below hb he.lt
  replace hf := hf.below hb hf.lt
  replace hh := hh.below hb hh.lt
  have hr9 := hr8.on hb
  have hB9 := hB8.trans (hb.mono hB8.size)
  clear ho hb hr8 hB8
  go_wp2_with fail
  refine (sameTrue (some ⟨gc, 0, none⟩) ar (l ++ be x 2) (l.length + 2) (l.length + 2) _ cr w9 (by simp [be_length]) (by simp [be_length]) (by omega) hc.rd hrr).mono ?_
  rintro e w10 ⟨rfl, hst⟩
  replace ha := ha.still hst
  replace hc := hc.still hst
  replace hd := hd.still hst
  replace he := he.still hst
  replace hf := hf.still hst
  replace hh := hh.still hst
  have hr10 := hr9.on (hst.below _)
  have hB10 := hB9.trans ((hst.below _).mono hB9.size)
  clear hst hr9 hB9 hrr hlen
  go_wp2_with fail
  refine (sameTrue (some ⟨gf, 0, none⟩) (some ⟨gc, 0, none⟩) (l ++ be x 2) (l.length + 2) (l.length + 2) _ _ w10 (by simp [be_length]) (by simp [be_length]) (by omega) hf.rd hc.rd).mono ?_
  rintro e w11 ⟨rfl, hst⟩
  replace ha := ha.still hst
  replace hc := hc.still hst
  replace hd := hd.still hst
  replace he := he.still hst
  replace hf := hf.still hst
  replace hh := hh.still hst
  have hr11 := hr10.on (hst.below _)
  have hB11 := hB10.trans ((hst.below _).mono hB10.size)
  clear hst hr10 hB10
  go_wp2_with fail
  refine (refPut ao l cap 4 x w11 (by omega) hr11 (by omega)).mono ?_
  rintro e w12 ⟨v, rfl, ho, hb⟩
  obtain ⟨hlen, ar, cr, rfl, hrr, -, -, -, -⟩ := owns_rdn ho
  replace ha := ha.below hb ha.lt
  replace hc := hc.below hb hc.lt
  replace hd := hd.below hb hd.lt
  replace he := he.below hb he.lt
  replace hf := hf.below hb hf.lt
  replace hh := hh.below hb hh.lt
  have hr12 := hr11.on hb
  have hB12 := hB11.trans (hb.mono hB11.size)
  clear ho hb hr11 hB11
  go_wp2_with fail
  refine (sameTrue (some ⟨gd, 0, none⟩) ar (l ++ be x 4) (l.length + 4) (l.length + 4) _ cr w12 (by simp [be_length]) (by simp [be_length]) (by omega) hd.rd hrr).mono ?_
  rintro e w13 ⟨rfl, hst⟩
  replace ha := ha.still hst
  replace hc := hc.still hst
  replace hd := hd.still hst
  replace he := he.still hst
  replace hf := hf.still hst
  replace hh := hh.still hst
  have hr13 := hr12.on (hst.below _)
  have hB13 := hB12.trans ((hst.below _).mono hB12.size)
  clear hst hr12 hB12 hrr hlen
  go_wp2_with fail
  refine (refPut ao l cap 8 x w13 (by omega) hr13 (by omega)).mono ?_
  rintro e w14 ⟨v, rfl, ho, hb⟩
  obtain ⟨hlen, ar, cr, rfl, hrr, -, -, -, -⟩ := owns_rdn ho
  replace ha := ha.below hb ha.lt
  replace hc := hc.below hb hc.lt
  replace hd := hd.below hb hd.lt
  replace he := he.below hb he.lt
  replace hf := hf.below hb hf.lt
  replace hh := hh.below hb hh.lt
  have hr14 := hr13.on hb
  have hB14 := hB13.trans (hb.mono hB13.size)
  clear ho hb hr13 hB13
  go_wp2_with fail
  refine (sameTrue (some ⟨ge, 0, none⟩) ar (l ++ be x 8) (l.length + 8) (l.length + 8) _ cr w14 (by simp [be_length]) (by simp [be_length]) (by omega) he.rd hrr).mono ?_
  rintro e w15 ⟨rfl, hst⟩
  replace ha := ha.still hst
  replace hc := hc.still hst
  replace hd := hd.still hst
  replace he := he.still hst
  replace hf := hf.still hst
  replace hh := hh.still hst
  have hr15 := hr14.on (hst.below _)
  have hB15 := hB14.trans ((hst.below _).mono hB14.size)
  clear hst hr14 hB14 hrr hlen
  go_wp2_with fail
  refine (sameTrue (some ⟨gh, 0, none⟩) (some ⟨ge, 0, none⟩) (l ++ be x 8) (l.length + 8) (l.length + 8) _ _ w15 (by simp [be_length]) (by simp [be_length]) (by omega) hh.rd he.rd).mono ?_
  rintro e w16 ⟨rfl, hst⟩
  replace ha := ha.still hst
  replace hc := hc.still hst
  replace hd := hd.still hst
  replace he := he.still hst
  replace hf := hf.still hst
  replace hh := hh.still hst
  have hr16 := hr15.on (hst.below _)
  have hB16 := hB15.trans ((hst.below _).mono hB15.size)
  clear hst hr15 hB15
  go_wp2
  go_ret
  exact ⟨rfl, hB16⟩
end Go.Proofs.Ytmhcfifenclebaa
