/-
  Trees, Nest, AskW, put together.
-/
import Derived.Test.YtnkefclbchpafaaZ31Deep5
import Derived.Test.YtnkefclbchpafaaZ32ParR
import Derived.Test.YtnkefclbchpafaaZ36SpSet
import Derived.Test.YtnkefclbchpafaaZ41Same
import Derived.Deep.QuietTactic
import Derived.Test.YtnkefclbchpafaaZ00Unf
import Derived.Deep.Slices
import Derived.Deep.Fields
import Derived.ChangeSame
import Derived.Test.YtnkefclbchpafaaZ05RefLook

/-
  The walk of heronlaw11.PikeTrees. Printed by gen_trees.py.
-/
namespace Go.Proofs.Ytnkefclbchpafaa
set_option maxRecDepth 100000
set_option maxHeartbeats 16000000
open Go.RowKit
set_option linter.unusedVariables false
theorem comp_shape {t:Tree} {w:World} {e:Ending} {w':World} (h:CompAns t w e w'):∃(A:Option Addr) (n c:Nat) (ci er:Int),e=.returned (.tuple #[.agg #[.slice A n c,.int .i64 0,.int .i64 ci],.int .i64 er])∧Upd Nob w w' ∧
  (er=3∨(er=0∧n=(bZ (aH t)).length∧ci=2+2*dF t∧dH w' (fun b=>w.heap.size≤b) A (bZ (aH t)).length (bZ (aH t)))):=by
 rcases h with⟨rfl,hU⟩ | ⟨A,c,rfl,hI,hU⟩
 ·exact⟨none,0,0,0,3,rfl,hU,.inl rfl⟩
 ·exact⟨A,_,c,_,0,rfl,hU,.inr ⟨rfl,rfl,rfl,hI⟩⟩
theorem ansF_in9 {is:List av} {start caps:Int} {text:List Int} (hc:fu is start caps=true) (hl:text.length≤4194304) {i:Nat} (hi:i≤text.length) (b:Bool):ansF is start caps text (i:Int) b=(jv is start.toNat caps.toNat text i b,0):=by
 unfold ansF
 rw[if_neg (by omega),if_neg (by rw[hc];exact Bool.noConfusion),if_neg (by omega)]
 rfl
theorem drewN_two (w:World) (q1 q2:Nat):∃m,(w.drewN q1).drewN q2=w.drewN m:=⟨_,World.drewN_drewN _ _ _⟩
theorem out_head {w:World} {base:Nat} {OA:Option Addr} {oc p:Nat} {c:List Int} {rest:List (Nat × List Int)} (h:OutR w base OA oc ((p,c)::rest)) :
  ∃go g k,OA=some ⟨go,0,none⟩∧go < w.heap.size∧w.cell? ⟨go,1,none⟩=some (.slice (some ⟨g,0,none⟩) c.length k)∧Reads w (fun _=>True) 1 (some ⟨g,0,none⟩) c.length (bn c):=by
 obtain⟨gs,h1,h2,h3⟩:=h
 match gs,h1 with
 | (g,k)::gs,h1 =>
  rcases h2.2 with⟨-,h0⟩ | ⟨go,cap,cur,hv,hb,hg,-⟩
  ·simp at h0
  ·injection hv with hv
   subst hv
   obtain⟨ad,e,hlt,-,hc⟩:=(Reads.eU h2).2 (by simp)
   injection e with e
   subst e
   have hcell:=hc 1 (.slice (some ⟨g,0,none⟩) c.length k) rfl
   rw[bX,Nat.zero_add] at hcell
   exact⟨go,g,k,rfl,hlt,hcell,(Reads.eU (h3 0 p c g k rfl rfl)).weaken (fun _ _=>trivial)⟩
theorem pikeTrees_any (w:World) (S:Nat→Prop) (cs:Array Value) (t:Tree) (T:Option Addr) (tc:Nat) (xs:List Int) (a:Int) (an:Bool) (h1:aB w S cs t) (ht:dB w S T xs.length xs) (ha:In64 a) :
  Calls Try.prog 5 #[.agg cs,.agg #[.slice T xs.length tc,.int .i64 a,.bool an]] w fun e w'=>e=.returned (.bool true)∧Upd Nob w w':=by
 obtain⟨RA,rc,SA,sc,rfl,-⟩:=h1.top
 generalize hP:(fun e w'=>e=.returned (.bool true)∧Upd Nob w w':Ending→World→Prop)=P
 have HP:=ah (show ∀w',Upd Nob w w'→P (.returned (.bool true)) w' from fun w' a=>by rw[←hP];exact⟨rfl,a⟩)
 clear hP
 have C0:=(Cells.new w 47 (au t RA rc SA sc)).alloc (.cells #[.slice T xs.length tc,.int .i64 a,.bool an] 30)
 have sX:(w.alloc (.cells (au t RA rc SA sc) 47)).heap.size=w.heap.size+1:=by simp
 have C1:=Cells.new (w.alloc (.cells (au t RA rc SA sc) 47)) 30 #[.slice T xs.length tc,.int .i64 a,.bool an]
 rw[sX] at C1
 have hU:=((Upd.refl Nob w).alloc (.cells (au t RA rc SA sc) 47)).alloc (.cells #[.slice T xs.length tc,.int .i64 a,.bool an] 30)
 have HN0:=ah h1
 have HT0:=ah ht
 have h64:=ht.n
 obtain⟨ha1,ha2⟩:=ha
 clear h1 ht sX
 unfold au at C0 C1 hU HN0
 unfold au
 go_enter Try.func5,Try.ntmps5
 go_upto_region 1 with fail
 generalize (w.alloc (.cells #[.int .i64 t.kind,.slice RA t.rs.length rc,.int .i64 t.am,.slice SA t.subs.length sc,.int .i64 t.mn,.int .i64 t.mx,.bool t.lz,.int .i64 t.ix,.string t.nm] 47)).alloc (.cells #[.slice T xs.length tc,.int .i64 a,.bool an] 30)=w1 at *
 obtain⟨xb,hxb⟩:∃xb,w.heap.size+1=xb:=⟨_,rfl⟩
 simp only[hxb] at C1 ⊢
 clear hxb
 have HT:=ah C0
 have HX:=ah C1
 have HU:=ah hU
 obtain⟨e0,e1,e2,e3,e4,e5,e6,e7,e8⟩:=aI C0
 obtain⟨x0,x1,x2⟩:=bK C1
 clear C0 C1 hU
 have h64i:(xs.length:Int)≤17592186044416:=by omega
 go_upto_region 2 with(go_at_call 19;refine(deep_any t _ _ _ (HN0.out.bA HU.out (fun _ _=>aj))).mono ?_;rintro e w2 ⟨b1,rfl,hU2⟩;clear e0 e1 e2 e3 e4 e5 e6 e7 e8 x0 x1 x2;have HT:=ah (HT.out.upd hU2 aj);have HX:=ah (HX.out.upd hU2 aj);have HU:=ah (HU.out.trans hU2 (fun _ _ h=>h));obtain⟨e0,e1,e2,e3,e4,e5,e6,e7,e8⟩:=aI HT.out;obtain⟨x0,x1,x2⟩:=bK HX.out;clear hU2)
 rcases b1 with _ | _
 rotate_left
 ·go_wp2_with fail
  try go_ret
  exact HP.out _ HU.out
 go_upto_region 5 with(go_at_call 20;refine(much_any t _ _ _ (HN0.out.bA HU.out (fun _ _=>aj)) T xs.length tc).mono ?_;rintro e w3 ⟨b2,rfl,hU2⟩;clear e0 e1 e2 e3 e4 e5 e6 e7 e8 x0 x1 x2;have HT:=ah (HT.out.upd hU2 aj);have HX:=ah (HX.out.upd hU2 aj);have HU:=ah (HU.out.trans hU2 (fun _ _ h=>h));obtain⟨e0,e1,e2,e3,e4,e5,e6,e7,e8⟩:=aI HT.out;obtain⟨x0,x1,x2⟩:=bK HX.out;clear hU2)
 go_upto_region 6 with(go_at_call 21;refine(heavy_any t _ _ _ (HN0.out.bA HU.out (fun _ _=>aj))).mono ?_;rintro e w4 ⟨b3,rfl,hU2⟩;clear e0 e1 e2 e3 e4 e5 e6 e7 e8 x0 x1 x2;have HT:=ah (HT.out.upd hU2 aj);have HX:=ah (HX.out.upd hU2 aj);have HU:=ah (HU.out.trans hU2 (fun _ _ h=>h));obtain⟨e0,e1,e2,e3,e4,e5,e6,e7,e8⟩:=aI HT.out;obtain⟨x0,x1,x2⟩:=bK HX.out;clear hU2)
 by_cases hb:(b2 || b3)=true
 ·rcases b2 with _ | _ <;> rcases b3 with _ | _
  ·cases hb
  all_goals
   clear hb
   go_wp2_with fail
   try go_ret
   exact HP.out _ HU.out
 obtain⟨rfl,rfl⟩:b2=false∧b3=false:=by cases b2 <;> cases b3 <;> simp at hb ⊢
 clear hb
 go_upto_region 9 with(go_at_call 8;refine(awake_any _).mono ?_;rintro e w5 ⟨rfl,hU2⟩;clear e0 e1 e2 e3 e4 e5 e6 e7 e8 x0 x1 x2;have HT:=ah (HT.out.upd hU2 aj);have HX:=ah (HX.out.upd hU2 aj);have HU:=ah (HU.out.trans hU2 (fun _ _ h=>h));obtain⟨e0,e1,e2,e3,e4,e5,e6,e7,e8⟩:=aI HT.out;obtain⟨x0,x1,x2⟩:=bK HX.out;clear hU2)
 go_upto_region 10 with(go_at_call 22;refine(iI t _ _ _ (HN0.out.bA HU.out (fun _ _=>aj))).mono ?_;rintro e w6 ⟨r,rfl,hr,-,hU2⟩;have HRS:=ah hr;clear e0 e1 e2 e3 e4 e5 e6 e7 e8 x0 x1 x2 hr;have HT:=ah (HT.out.upd hU2 aj);have HX:=ah (HX.out.upd hU2 aj);have HU:=ah (HU.out.trans hU2 (fun _ _ h=>h));obtain⟨e0,e1,e2,e3,e4,e5,e6,e7,e8⟩:=aI HT.out;obtain⟨x0,x1,x2⟩:=bK HX.out;clear hU2)
 by_cases hall:r=true∧xs.length≤64∧0≤a∧a≤xs.length
 rotate_left
 ·rcases r with _ | _
  ·simp only[Bool.false_eq_true,if_false]
   clear hall
   go_wp2_with fail
   try go_ret
   exact HP.out _ HU.out
  ·simp only[if_true]
   by_cases q1:xs.length≤64
   ·have q1i:¬(64:Int) < (xs.length:Int):=by omega
    by_cases q2:0≤a
    ·have q2i:¬a < 0:=by omega
     have q3i:(xs.length:Int) < a:=by
      have h:=hall
      simp only[true_and] at h
      omega
     clear hall q1 q2
     go_wp2_with fail
     try go_ret
     exact HP.out _ HU.out
    ·have q2i:a < 0:=by omega
     clear hall q1 q2
     go_wp2_with fail
     try go_ret
     exact HP.out _ HU.out
   ·have q1i:(64:Int) < (xs.length:Int):=by omega
    clear hall q1
    go_wp2_with fail
    try go_ret
    exact HP.out _ HU.out
 obtain⟨rfl,q1,q2,q3⟩:=hall
 have HSF:=ah (HRS.out rfl)
 simp only[if_true]
 obtain⟨a0,rfl⟩:∃k:Nat,a=(k:Int):=Int.eq_ofNat_of_zero_le q2
 have q1i:¬(64:Int) < (xs.length:Int):=by omega
 have q2i:¬(a0:Int) < 0:=by omega
 have q3i:¬(xs.length:Int) < (a0:Int):=by omega
 have Q1:=ah q1
 have Q3:=ah (show a0≤xs.length by omega)
 have HV:=ah (okV_of _ t 1 (Nat.le_refl _) HSF.out.1)
 clear HRS q1 q2 q3
 go_upto_region 13 with(go_at_call 23;refine(size_go _ t _ _ _ (Nat.le_refl _) HV.out (HN0.out.bA HU.out (fun _ _=>aj))).mono ?_;rintro e w7 ⟨rfl,hsz,hU2⟩;have HSZ:=ah hsz;clear e0 e1 e2 e3 e4 e5 e6 e7 e8 x0 x1 x2 hsz;have HT:=ah (HT.out.upd hU2 aj);have HX:=ah (HX.out.upd hU2 aj);have HU:=ah (HU.out.trans hU2 (fun _ _ h=>h));obtain⟨e0,e1,e2,e3,e4,e5,e6,e7,e8⟩:=aI HT.out;obtain⟨x0,x1,x2⟩:=bK HX.out;clear hU2)
 obtain⟨sz,hsz⟩:∃sz,szT t=sz:=⟨_,rfl⟩
 rw[hsz]
 have HZ:=ah hsz
 clear hsz q1i q2i q3i
 by_cases hbig:2000 < sz
 ·go_wp2_with fail
  try go_ret
  exact HP.out _ HU.out
 have HTB:=ah (tab_ok HSF.out (by rw[HZ.out];omega))
 have HSM:=ah (show szT t≤2000 by rw[HZ.out];omega)
 go_upto_region 16 with(go_at_call 24;refine(compile9_any t _ _ _ (HN0.out.bA HU.out (fun _ _=>aj)) HSF.out HTB.out (by have:=HSM.out;omega)).mono ?_;rintro e w8 hc8;obtain⟨PA,pn,pc,ci,er,rfl,hU2,hcc⟩:=comp_shape hc8;have HCC:=ah hcc;clear e0 e1 e2 e3 e4 e5 e6 e7 e8 x0 x1 x2 hcc hc8;have HT:=ah (HT.out.upd hU2 aj);have HX:=ah (HX.out.upd hU2 aj);have HU:=ah (HU.out.trans hU2 (fun _ _ h=>h));obtain⟨e0,e1,e2,e3,e4,e5,e6,e7,e8⟩:=aI HT.out;obtain⟨x0,x1,x2⟩:=bK HX.out;have HW8:=ah hU2.size;clear hU2)
 have hPA:=(Upd.refl Nob w8).alloc (.cells #[.slice PA pn pc,.int .i64 0,.int .i64 ci] 27)
 have HPB:=ah (Cells.new w8 27 #[.slice PA pn pc,.int .i64 0,.int .i64 ci])
 clear e0 e1 e2 e3 e4 e5 e6 e7 e8 x0 x1 x2
 have HT:=ah (HT.out.upd hPA aj)
 have HX:=ah (HX.out.upd hPA aj)
 have HU:=ah (HU.out.trans hPA (fun _ _ h=>h))
 obtain⟨e0,e1,e2,e3,e4,e5,e6,e7,e8⟩:=aI HT.out
 obtain⟨x0,x1,x2⟩:=bK HX.out
 have HPA:=ah hPA
 clear hPA
 generalize w8.alloc (.cells #[.slice PA pn pc,.int .i64 0,.int .i64 ci] 27)=w9 at *
 generalize w8.heap.size=pb at *
 by_cases her:er=3
 ·subst her
  go_wp2_with fail
  try go_ret
  exact HP.out _ HU.out
 obtain⟨rfl,rfl,rfl,hIR⟩:=HCC.out.resolve_left her
 have HIR:=ah ((hIR.upd HPA.out (fun _ _=>aj)).mono_ (S':=fun _=>True) (fun _ _=>trivial))
 have HG0:=ah HTB.out.g0
 have HG1:=ah HTB.out.g1
 have HCK:=ah (tree_check HSF.out HTB.out)
 have HFW:=ah (progT_few HSF.out HTB.out)
 clear HCC hIR her
 obtain⟨is,his⟩:∃is,bZ (aH t)=is:=⟨_,rfl⟩
 rw[his] at HPB HIR HCK ⊢
 have HIS:=ah his
 have HLI:=ah (show is.length=aL (aH t)+3 by rw[←his];exact progT_len _)
 obtain⟨G,hG⟩:∃G,dF t=G:=⟨_,rfl⟩
 rw[hG] at HPB HCK HG0 HG1 ⊢
 have HGG:=ah hG
 clear his hG
 obtain⟨fo,steps,hrun⟩:∃fo steps,jv is (0:Int).toNat (2+2*G).toNat xs a0 an=(fo,steps):=⟨_,_,rfl⟩
 have HRUN:=ah (show(jv (bZ (aH t)) 0 (2+2*G).toNat xs a0 an).1=fo by rw[HIS.out];exact congrArg (·.1) hrun)
 have HRN:=ah hrun
 clear hrun
 obtain⟨g0,g1,g2⟩:=bK HPB.out
 go_upto_region 19 with(go_at_call 11;refine(pk_run w9 (fun _=>True) PA is.length pc is 0 (2+2*G) T xs.length tc xs (a0:Int) an HIR.out (bI (by omega) (by omega)) (bI (by have:=HG0.out;omega) (by have:=HG1.out;omega)) (by have:=HLI.out;have:=HFW.out;omega) ⟨(HT0.out.upd HU.out (fun _ _=>aj)).r.weaken (fun _ _=>trivial),HT0.out.i,HT0.out.n⟩ ⟨by omega,by omega⟩).mono ?_;rw[ansF_in9 HCK.out (by have:=Q1.out;omega) Q3.out,HRN.out];rintro e wa ⟨FA,fn,fc,rfl,rfl,hfn,hfo,hU2⟩;have HFO:=ah ((Reads.eU hfo).weaken (S':=fun _=>True) (fun _ _=>trivial));have HFN:=ah hfn;have HPB:=ah (HPB.out.upd hU2 aj);clear e0 e1 e2 e3 e4 e5 e6 e7 e8 x0 x1 x2 g0 g1 g2 hfo hfn;have HT:=ah (HT.out.upd hU2 aj);have HX:=ah (HX.out.upd hU2 aj);have HU:=ah (HU.out.trans hU2 (fun _ _ h=>h));obtain⟨e0,e1,e2,e3,e4,e5,e6,e7,e8⟩:=aI HT.out;obtain⟨x0,x1,x2⟩:=bK HX.out;clear hU2)
 have hFA:=(Upd.refl Nob wa).alloc (.cells #[.bool fo.isSome,.slice FA (aC fo).length fc,.int .i64 (fU fo),.int .i64 (steps:Int)] 33)
 have HFB:=ah (Cells.new wa 33 #[.bool fo.isSome,.slice FA (aC fo).length fc,.int .i64 (fU fo),.int .i64 (steps:Int)])
 clear e0 e1 e2 e3 e4 e5 e6 e7 e8 x0 x1 x2
 have HT:=ah (HT.out.upd hFA aj)
 have HX:=ah (HX.out.upd hFA aj)
 have HU:=ah (HU.out.trans hFA (fun _ _ h=>h))
 obtain⟨e0,e1,e2,e3,e4,e5,e6,e7,e8⟩:=aI HT.out
 obtain⟨x0,x1,x2⟩:=bK HX.out
 have HFO:=ah (HFO.out.upd hFA (fun _ _=>aj))
 clear hFA
 generalize wa.alloc (.cells #[.bool fo.isSome,.slice FA (aC fo).length fc,.int .i64 (fU fo),.int .i64 (steps:Int)] 33)=wb at *
 generalize wa.heap.size=fb at *
 have HMM:=ah (show(2+2*G).toNat=(2*dF t+2).toNat by rw[HGG.out];omega)
 obtain⟨m,hm⟩:∃m,(2+2*G).toNat=m:=⟨_,rfl⟩
 rw[hm] at HMM HRUN
 clear hm
 have hxl:(xs.length:Int)≤64:=by have:=Q1.out;omega
 go_wp2_with fail
 clear e0 e1 e2 e3 e4 e5 e6 e7 e8 x0 x1 x2
 go_loopg [15,16,17,18] (xs.length+1 - a0) (fun gk v15 v16 v17 v18 wr=>∃i:Nat,i+gk=xs.length+1∧a0≤i∧v15=.int .i64 (i:Int)∧Upd Nob wb wr∧(∀k,a0≤k→k < i→Outs t xs m k [])∧(an=true→i=a0))
 case atStart=>exact⟨a0,by have:=Q3.out;omega,Nat.le_refl _,rfl,Upd.refl _ _,fun k h1 h2=>absurd h1 (by omega),fun _=>rfl⟩
 case round =>
  obtain⟨i,hi,hai,rfl,hUr,hno,han⟩:=hrel
  have HI:=ah hi
  have HAI:=ah hai
  have HNO:=ah hno
  have HAN:=ah han
  have HT:=ah (HT.out.upd hUr aj)
  have HX:=ah (HX.out.upd hUr aj)
  have HFBr:=ah (HFB.out.upd hUr aj)
  have HFOr:=ah (HFO.out.upd hUr (fun _ _=>aj))
  have HU:=ah (HU.out.trans hUr (fun _ _ h=>h))
  have HUr:=ah hUr
  clear hi hai hno han hUr
  obtain⟨e0,e1,e2,e3,e4,e5,e6,e7,e8⟩:=aI HT.out
  obtain⟨x0,x1,x2⟩:=bK HX.out
  by_cases hle:i≤xs.length
  rotate_left
  ·have g1:¬(i:Int)≤(xs.length:Int):=by omega
   have HNF:=ah (run_nothing (m:=m) (an:=an) HSF.out HTB.out HFW.out Q3.out (fun k h1 h2 h3=>HNO.out k h1 (by omega)))
   obtain rfl:fo=none:=by rw[←HRUN.out];exact HNF.out
   have f0:wr.cell? ⟨fb,0,none⟩=some (.bool false):=HFBr.out.ak rfl
   have f1:wr.cell? ⟨fb,0+1,none⟩=some (.slice FA 0 fc):=HFBr.out.ak rfl
   go_wp2_with fail
   try go_ret
   exact HP.out _ HU.out
  have g1:(i:Int)≤(xs.length:Int):=by omega
  go_upto_region 25 with(go_at_call 25;refine(parses_any t _ _ _ _ xs T tc (i:Int) (HN0.out.bA HU.out (fun _ _=>aj)) (HT0.out.upd HU.out (fun _ _=>aj)) ⟨by omega,by omega⟩).mono ?_;rintro e wc ⟨er,OA,oc,out,rfl,hUc,hok,hyes⟩;obtain rfl:=hyes ⟨Q1.out,HSF.out,HSM.out,by omega,by omega⟩;have HOK:=ah (hok rfl);have HUc:=ah hUc;clear hUc hok hyes)
  have hUc:=HUc.out
  clear e0 e1 e2 e3 e4 e5 e6 e7 e8 x0 x1 x2
  have HT:=ah (HT.out.upd hUc aj)
  have HX:=ah (HX.out.upd hUc aj)
  have HFBr:=ah (HFBr.out.upd hUc aj)
  have HFOr:=ah (HFOr.out.upd hUc (fun _ _=>aj))
  have HU:=ah (HU.out.trans hUc (fun _ _ h=>h))
  have HUr:=ah (HUr.out.trans hUc (fun _ _ h=>h))
  clear hUc HUc
  have hrn:Outs t xs m i out:=by
   obtain⟨s',h1,h2⟩:=HOK.out.run
   rw[Int.toNat_natCast,←HMM.out] at h1
   exact⟨s',h1,h2⟩
  have HRR:=ah hrn
  clear hrn
  obtain⟨x0,x1,x2⟩:=bK HX.out
  match out,HOK,HRR with
  | [],HOK,HRR =>
   have hno2:∀k,a0≤k→k < i+1→Outs t xs m k []:=fun k h1 h2=>if e:k=i then by rw[e];exact HRR.out else HNO.out k h1 (by omega)
   have HNO2:=ah hno2
   clear hno2
   rcases an with _ | _
   ·go_wp2_with fail
    go_roundg (xs.length - i)
    case measure=>have:=HI.out;omega
    case rel=>exact⟨i+1,by have:=HI.out;omega,by have:=HAI.out;omega,by go_num,HUr.out,HNO2.out,fun h=>by cases h⟩
   ·have hia:=HAN.out rfl
    have HNF:=ah (run_nothing (m:=m) (an:=true) HSF.out HTB.out HFW.out Q3.out (fun k h1 h2 h3=>HNO2.out k h1 (by have:=h3 rfl;omega)))
    obtain rfl:fo=none:=by rw[←HRUN.out];exact HNF.out
    have f0:wc.cell? ⟨fb,0,none⟩=some (.bool false):=HFBr.out.ak rfl
    have f1:wc.cell? ⟨fb,0+1,none⟩=some (.slice FA 0 fc):=HFBr.out.ak rfl
    clear hia
    go_wp2_with fail
    try go_ret
    exact HP.out _ HU.out
  | (p,c)::rest,HOK,HRR =>
   have HFD:=ah (run_found (m:=m) (an:=an) HSF.out HTB.out HFW.out HAI.out hle HAN.out HNO.out HRR.out)
   obtain rfl:fo=some (c,0):=by rw[←HRUN.out];exact HFD.out
   obtain⟨go,g,k,rfl,hgo,hcell,hrd⟩:=out_head HOK.out.mem
   have f0:wc.cell? ⟨fb,0,none⟩=some (.bool true):=HFBr.out.ak rfl
   have f1:wc.cell? ⟨fb,0+1,none⟩=some (.slice FA c.length fc):=HFBr.out.ak rfl
   have f2:wc.cell? ⟨fb,0+2,none⟩=some (.int .i64 0):=HFBr.out.ak rfl
   have HRD:=ah hrd
   have hcl:c.length≤140737488355328:=by have:=HFN.out;have e:(aC (some (c,(0:Int)))).length=c.length:=rfl;omega
   have HQ:=ah (show ∀q,Calls Try.prog 15 #[.slice FA c.length fc,.slice (some ⟨g,0,none⟩) c.length k] (wc.drewN q) fun e w''=>e=.returned (.bool true)∧∃m,w''=wc.drewN m from fun q =>
    (same_any (wc.drewN q) _ _ FA (some ⟨g,0,none⟩) c.length c.length fc k c c (HFOr.out.upd ((Upd.refl Nob wc).drewN q) (fun _ _=>aj)) (HRD.out.upd ((Upd.refl Nob wc).drewN q) (fun _ _=>aj)) hcl).mono (by
     rintro e w'' ⟨he,q2,rfl⟩
     exact⟨by rw[he,decide_eq_true rfl],drewN_two _ _ _⟩))
   have hl0:0 < ((p,c)::rest).length:=by simp
   clear hrd hcl
   go_upto_region 28 with fail
   go_quiet ((go_at_call 15;exact HQ.out _))
   have f0:(wc.drewN nq).cell? ⟨fb,0,none⟩=some (.bool true):=HFBr.out.ak rfl
   have f2:(wc.drewN nq).cell? ⟨fb,0+2,none⟩=some (.int .i64 0):=HFBr.out.ak rfl
   go_wp2_with fail
   try go_ret
   exact HP.out _ (HU.out.drewN _)
theorem pikeTrees_row (w:World) (S S2:Nat→Prop) (cs:Array Value) (t:Tree) (T:Option Addr) (n tc:Nat) (xs:List Int) (a:Int) (an:Bool) (h1:aB w S cs t) (ht:dB w S2 T n xs) (ha:In64 a) :
  Calls Try.prog 5 #[.agg cs,.agg #[.slice T n tc,.int .i64 a,.bool an]] w fun e w'=>e=.returned (.bool true)∧Upd Nob w w':=by
 obtain rfl:xs.length=n:=ht.len
 exact pikeTrees_any w (fun _=>True) cs t T tc xs a an (h1.weaken (fun _ _=>trivial)) ⟨ht.r.weaken (fun _ _=>trivial),ht.i,ht.n⟩ ha
end Go.Proofs.Ytnkefclbchpafaa

/-
  From the row's reading of an argument to memory: slices of structs whose fields are one cell each, slices among them.
-/
namespace Go.Proofs.Ytnkefclbchpafaa
open Go.ChangeShapes Go.WideShapes Go.ChangeAt Go.RowKit Go.Deep
set_option linter.unusedVariables false
section
variable {H : Type} {P : Program}
def Light (P:Program) (t:TypeId) (d:DataW H):Prop:=∀x∈d.weights P t,x≤reachBytes
theorem light_arg {ts:List TypeId} {ds:List (DataW H)} (h:(DataW.weightsEach P ts ds).all (·≤reachBytes)=true) {j:Nat} {t:TypeId} {d:DataW H} (ht:ts[j]?=some t) (hd:ds[j]?=some d):Light P t d:=fun x hx=>by
 have:=List.all_eq_true.1 h x (DataW.weights_mem_each ht hd x hx)
 simpa using this
theorem wt_elem {e:TypeId} {d:DataW H} {x:Nat} (hx:x∈d.weights P e):∀ {es:List (DataW H)},d∈es→x∈DataW.weightsAll P e es
 | y::r,h=>by
  simp only[DataW.weightsAll,List.mem_append]
  rcases List.mem_cons.1 h with rfl | h
  ·exact .inl hx
  ·exact .inr (wt_elem hx h)
theorem light_len {t e:TypeId} {es sp:List (DataW H)} (ht:P.underlying t=some (.slice e)) (h:Light P t (.slice es sp)):(es.length+sp.length)*P.bytesOf e≤reachBytes :=
 h _ (by simp[DataW.weights,ht])
theorem light_elem {t e:TypeId} {es sp:List (DataW H)} (ht:P.underlying t=some (.slice e)) (h:Light P t (.slice es sp)) {d:DataW H} (hd:d∈es):Light P e d:=fun x hx =>
 h x (by simp only[DataW.weights,ht,List.mem_cons,List.mem_append];exact .inr (.inl (wt_elem hx hd)))
theorem light_part {e:TypeId} {fs:Array Field} {parts:List (DataW H)} (he:P.underlying e=some (.struct fs)) (h:Light P e (.agg parts)) {j:Nat} {f:Field} {y:DataW H} (hf:fs[j]?=some f) (hy:parts[j]?=some y):Light P f.type y:=fun x hx =>
 h x (by simp only[DataW.weights,he];exact DataW.weights_mem_each (j:=j) (by simp[hf]) hy x hx)
end
section
variable {H : Type} {enc : TypeId × Value → H} {P : Program} {W : World}
theorem kJ {e:TypeId} {fs:Array Field} {b n:Nat} {sp:Nat→Bool} {held:Bool} {cs:List Value} {x:DataW H × List MemPlace} (he:P.underlying e=some (.struct fs)) (hone:oneCellFields P fs=true) (hC:P.cellsOf e=fs.size)
  (h:DataW.trod enc P W b sp held n e cs=some x) :
  ∃(m:Nat) (parts:List (DataW H × List MemPlace)),cs.length=fs.size∧x.1=.agg (parts.map (·.1))∧∀(j:Nat) (f:Field),fs[j]?=some f→∃v y,cs[j]?=some v∧parts[j]?=some y∧DataW.trod enc P W b sp held m f.type [v]=some y:=by
 obtain⟨ys,m,_,rfl,hl,hyl,hff⟩:=DataW.trod_struct he h
 refine⟨m,ys,by rw[hl,hC],rfl,fun j f hj=>?_⟩
 obtain⟨ho,hs⟩:=hone_of hone j f hj
 have hjf:j < fs.size:=(Array.getElem?_eq_some_iff.1 hj).1
 have hjc:j < cs.length:=by rw[hl,hC];exact hjf
 have hjy:j < ys.length:=by rw[hyl];exact hjf
 have h1:=(hff j f hj).trans (List.getElem?_eq_getElem hjy)
 have e1:(cs.drop f.offset).take (P.cellsOf f.type)=[cs[j]]:=by
  rw[ho,hs,List.drop_eq_getElem_cons hjc]
  rfl
 rw[e1] at h1
 exact⟨cs[j],ys[j],List.getElem?_eq_getElem hjc,List.getElem?_eq_getElem hjy,h1⟩
theorem open_structs {t e:TypeId} {fs:Array Field} {A:Option Addr} {n c:Nat} {d:DataW H} {p:List MemPlace} (ht:P.underlying t=some (.slice e)) (he:P.underlying e=some (.struct fs)) (hone:oneCellFields P fs=true) (hC:P.cellsOf e=fs.size)
  (h:DataW.Trod enc P W 0 (fun _=>true) true t (.slice A n c) d p) :
  (A=none∧n=0∧c=0∧d=.nil)∨∃(a:Addr) (es sp:List (DataW H)),A=some a∧n≤c∧d=.slice es sp∧es.length+sp.length=c ∧
   ∀i,i < n→∃parts,(.agg parts)∈es∧∀(j:Nat) (f:Field),fs[j]?=some f→∃v y q,W.cell? (a.add (i*fs.size+j))=some v∧parts[j]?=some y∧∃m,DataW.trod enc P W 0 (fun _=>true) true m f.type [v]=some (y,q):=by
 obtain⟨fuel,hf⟩:=h
 rcases open_slice ht hf with⟨hcs,hx⟩ | ⟨a,len,cap,m,nn,D,Pl,hcs,hb,hl,hm,hmm,hx,hi⟩
 ·simp only[Value.cells,List.cons.injEq,and_true,Value.slice.injEq] at hcs
  obtain⟨rfl,rfl,rfl⟩:=hcs
  injection hx with hx _
  exact .inl ⟨rfl,rfl,rfl,hx⟩
 ·simp only[Value.cells,List.cons.injEq,and_true,Value.slice.injEq] at hcs
  obtain⟨rfl,rfl,rfl⟩:=hcs
  injection hx with hx _
  subst hx
  simp only[if_true] at hmm
  subst hmm
  refine .inr ⟨a,_,_,rfl,hl,rfl,by simp;omega,fun i hin=>?_⟩
  obtain⟨cs',hc,ht'⟩:=hi i (by omega)
  rw[hC] at hc
  obtain⟨k,parts,hcl,hD,hff⟩:=kJ he hone hC ht'
  obtain⟨_,_,hat⟩:=World.cells?_some hc
  refine⟨parts.map (·.1),?_,fun j f hj=>?_⟩
  ·rw[←hD]
   exact List.mem_map.2 ⟨i,List.mem_range.2 hin,rfl⟩
  ·obtain⟨v,y,hv,hy,hty⟩:=hff j f hj
   have hjf:j < fs.size:=(Array.getElem?_eq_some_iff.1 hj).1
   exact⟨v,y.1,y.2,by rw[←add_add_,hat j hjf];exact hv,by simp[hy],k,hty⟩
theorem trod_of_one {t:TypeId} {b m:Nat} {sp:Nat→Bool} {held:Bool} {v:Value} {y:DataW H} {q:List MemPlace} (h1:v.cells=#[v]) (h:DataW.trod enc P W b sp held m t [v]=some (y,q)):DataW.Trod enc P W b sp held t v y q :=
 ⟨m,by rw[h1];exact h⟩
theorem eH {t:TypeId} {b m:Nat} {sp:Nat→Bool} {held:Bool} {v:Value} {x:DataW H × List MemPlace} (ht:P.underlying t=some (.int .i64)) (h:DataW.trod enc P W b sp held m t [v]=some x):∃i,v=.int .i64 i∧In64 i:=by
 obtain⟨i,e,_,hw⟩:=DataW.trod_int ht h
 injection e with e
 exact⟨i,e,in64_of_wf hw⟩
theorem trod_bool_one {t:TypeId} {b m:Nat} {sp:Nat→Bool} {held:Bool} {v:Value} {x:DataW H × List MemPlace} (ht:P.underlying t=some .bool) (h:DataW.trod enc P W b sp held m t [v]=some x):∃i,v=.bool i:=by
 obtain⟨i,e,_⟩:=DataW.trod_bool ht h
 injection e with e
 exact⟨i,e⟩
theorem jQ {t e:TypeId} {b m:Nat} {sp:Nat→Bool} {held:Bool} {v:Value} {x:DataW H × List MemPlace} (ht:P.underlying t=some (.slice e)) (h:DataW.trod enc P W b sp held m t [v]=some x):∃A n c,v=.slice A n c:=by
 rcases open_slice ht h with⟨e,_⟩ | ⟨a,len,cap,_,_,_,_,e,_⟩
 ·injection e with e;exact⟨_,_,_,e⟩
 ·injection e with e;exact⟨_,_,_,e⟩
end
end Go.Proofs.Ytnkefclbchpafaa

/-
  A text, a place, anchored or not, handed in as one struct; the bound on its bytes.
-/
namespace Go.Proofs.Ytnkefclbchpafaa
open Go.ChangeShapes Go.WideShapes Go.ChangeAt Go.RowKit Go.Deep
set_option linter.unusedVariables false
section
variable {H : Type} {enc : TypeId × Value → H} {P : Program} {W : World}
theorem view_asked8 {t ti:TypeId} {f0 f1 f2:Field} {cs:Array Value} {d:DataW H} {p:List MemPlace} (ht:P.underlying t=some (.struct #[f0,f1,f2])) (hone:oneCellFields P #[f0,f1,f2]=true) (hC:P.cellsOf t=3)
  (k0:P.underlying f0.type=some (.slice ti)) (ki:P.underlying ti=some (.int .i64)) (kc:P.cellsOf ti=1) (kb:P.bytesOf ti=8) (k1:P.underlying f1.type=some (.int .i64)) (k2:P.underlying f2.type=some .bool)
  (h:DataW.Trod enc P W 0 (fun _=>true) true t (.agg cs) d p) (hL:Light P t d) :
  ∃B m cc xs a b,cs=#[.slice B m cc,.int .i64 a,.bool b]∧dB W (· < W.heap.size) B m xs∧In64 a∧m*8≤140737488351232:=by
 obtain⟨fuel,hf⟩:=h
 obtain⟨k,parts,hl,hd,hff⟩:=kJ ht hone hC hf
 obtain⟨v0,y0,c0,hy0,t0⟩:=hff 0 f0 rfl
 obtain⟨v1,y1,c1,hy1,t1⟩:=hff 1 f1 rfl
 obtain⟨v2,y2,c2,hy2,t2⟩:=hff 2 f2 rfl
 obtain⟨x1,rfl,hx1⟩:=eH k1 t1
 obtain⟨x2,rfl⟩:=trod_bool_one k2 t2
 obtain⟨B,m,cc,rfl⟩:=jQ k0 t0
 have hd':d=.agg (parts.map (·.1)):=hd
 subst hd'
 have hl0:=light_part ht hL (j:=0) (f:=f0) (y:=y0.1) rfl (by simp[hy0])
 obtain⟨xs,vr,vi,vn,vp,vd⟩:=view_ints k0 ki kc (trod_of_one (y:=y0.1) (q:=y0.2) rfl t0)
 have hm:m*8≤140737488351232:=by
  rcases vd with e | ⟨es,sp,e⟩
  ·rw[e] at vp
   simp[places] at vp;omega
  ·rw[e] at vp hl0
   have:=light_len k0 hl0
   rw[kb] at this
   simp only[reachBytes] at this
   simp only[places] at vp
   omega
 refine⟨B,m,cc,xs,x1,x2,?_,⟨vr,vi,by omega⟩,hx1,hm⟩
 have hc:(Value.agg cs).cells=cs:=rfl
 rw[hc] at c0 c1 c2 hl
 have hl3:cs.toList.length=3:=hl
 apply Array.ext'
 refine List.ext_getElem? fun j=>?_
 match j with
 | 0=>exact c0
 | 1=>exact c1
 | 2=>exact c2
 | j+3=>rw[List.getElem?_eq_none (by omega),List.getElem?_eq_none (by simp)]
end
end Go.Proofs.Ytnkefclbchpafaa
