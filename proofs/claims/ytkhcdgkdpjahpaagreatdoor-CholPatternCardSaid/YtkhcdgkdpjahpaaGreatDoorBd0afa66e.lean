/-
  Parts of the proof: Pa29, Pm1, Pm2, G24, Pm3, Pm4, Pm5, Pm6, Pm7, Pm8, Pm9, Pm10, Pm11, Pm12, Pl13, Th2, Pl16, Pl18, Th3, Pl29, Pl30, Pl40, Pl41, Pl42, Pl43, Pm13, Pl46, Pl48, Pl50, Pl51, Pl54, Pm14, Pm15, Pm16, Pm17, Pm18, Pm19, Pm20, Pm21, Pm23, Pm24, Pm25, Pm26, Pm27, Pm29: the framework (Fw), pure forms (Dn), plain laws (Pl, Th), calls of functions (Ok).
-/
import Derived.Test.YtkhcdgkdpjahpaaGreatDoorRows
import Derived.ProofKit
import Derived.Lib.LaidTab
import Derived.LaidMore
import Derived.KernelRfl
import Derived.Test.YtkhcdgkdpjahpaaGreatDoorB3f550e8c

set_option linter.all false
noncomputable section
namespace Go.lP
theorem as7 {f:Int} (aF:eD f):J8 (f,())=some (ck (gM f),()):=by
 obtain⟨cq,dv,a3⟩:=Ub aF;have ao:=OT f;have aE:=KC f;unfold J8 gM;refine aP (Ss aF) ?_;dsimp only;by_cases J:dD f=2047
 ·rw[bc J,if_pos J];rfl
 rw[a5 J,if_neg J,show(!!false)=false from rfl,cond_false,cq,br,dv,a3,cp (x:=dD f) (by omega) (by omega)];obtain⟨m,e,PT,R,ae,aI,aX,bI⟩:∃m e,(bif decide (dD f>0) then some (fr IntKind.u64 (g9 f) 4503599627370496,aY (dD f-1075),((false,((false,([],())),((0:Int),()))):d7),()) else some (g9 f,(-1074:Int),(false,((false,([],())),((0:Int),()))),()))=some (m,e,(false,((false,([],())),((0:Int),()))),())/\0<=m/\m<9007199254740992/\-1074<=e/\e<=972/\(m=(if dD f=0 then g9 f else g9 f+4503599627370496)/\e=(if dD f=0 then-1074 else dD f-1075)):=by
  by_cases g:dD f=0
  ·refine⟨g9 f,-1074,?_,by omega,by omega,by omega,by omega,by rw[if_pos g],by rw[if_pos g]⟩;rw[a5 (show¬dD f>0 by omega)];rfl
  ·refine⟨g9 f+4503599627370496,dD f-1075,?_,by omega,by omega,by omega,by omega,by rw[if_neg g],by rw[if_neg g]⟩;rw[bc (show dD f>0 by omega),cp (by omega) (by omega),o5 52 (by omega) (by omega) (by omega) (by omega) (by omega) (by decide)];rfl
 rw[<-bI.1,<-bI.2];refine aP PT ?_;dsimp only;refine aP (as5 aF) ?_;rw[qY,Option.bind_some];dsimp only;rw[wk m,nK (x:=m/4294967296) (by omega) (by omega)];have aa:a7 m.natAbs<=53:=eo.2 (by omega);refine aP (aaS (b:=(decide (9223372036854775808<=f),[m %4294967296,m/4294967296],())) (m:=if f<9223372036854775808 then m else-m) (bp.cons.2 ⟨⟨by omega,by omega⟩,bp.cons.2 ⟨⟨by omega,by omega⟩,bp.nil⟩⟩) (by simp) ?_ ?_ (by omega) (by omega)) rfl
 ·unfold gj;simp only[ak];by_cases g:f<9223372036854775808
  ·rw[a5 (show¬(9223372036854775808<=f) by omega),if_pos g,if_neg (by simp)];omega
  ·rw[bc (show 9223372036854775808<=f by omega),if_neg g,if_pos rfl];omega
 ·split
  ·omega
  ·rw[Int.natAbs_neg];omega
def tQ (d:Option Int) (mode:Int):Int:=match d with
 |none=>9221120237041090560
 |some v=>Hv v mode
theorem aa2 {d:Option Int} {mode:Int} (aN:gU d):E5 (ck d,mode,())=some (tQ d mode,()):=by
 unfold E5;refine aP (Sl aN) ?_;dsimp only;rw[Kx];cases d with
 |none=>rfl
 |some v=>
  have hr:=aN v rfl;have J:=pV hr;have ae:=pU hr;rw[ln];refine aP (Hw (by omega)) ?_;dsimp only;rw[ss];unfold tQ Hv;by_cases z:v=0
  ·subst z;rw[bc (show b6 0=0 from rfl)];rfl
  ·rw[a5 (sg z)];simp only;rw[if_neg z,cond_false];have mV:0<(b6 v).natAbs:=(by have:=sg z;omega);refine aP (Sj (by omega)) ?_;dsimp only;rw[Rs];refine aP (atg (by omega) mV (by omega) (by omega) (fun h=>by cases h)) ?_;unfold dH;rw[if_neg z]
theorem XW (n:Int):gU (tx n):=Q9 n 0
theorem MG {n mode:Int} (J:-9223372036854775808<=n) (R:n<=9223372036854775807):zp (n,mode,())=some (tQ (tx n) mode,()):=by unfold zp;exact aP (aaE J R) (aP (aa2 (XW n)) rfl)
def xT (a:Int) (n:Nat):Nat:=((a %18446744073709551616) %(n:Int)).toNat
theorem L3 (a:Int) {n:Nat} (h:0<n):xT a n<n:=by unfold xT;have J:=uf (a %18446744073709551616) (show(n:Int)≠0 by omega);have R:=wy (a %18446744073709551616) (show(0:Int)<(n:Int) by omega);omega
theorem GZ (a:Int) {n:Nat} (h:0<n) (R:n<=9223372036854775807):w1 (a,(n:Int),())=some ((xT a n:Int),()):=by unfold w1;have J:=L3 a h;have e:(a %18446744073709551616) %(n:Int)=(xT a n:Int):=(by unfold xT;have:=Int.emod_nonneg (a %18446744073709551616) (show(n:Int)≠0 by omega);omega);dsimp only;rw[o9 a,dT (x:=(n:Int)) (by omega) (by omega),(R8 (x:=a %18446744073709551616) (y:=(n:Int)) ⟨by omega,by omega⟩ (by omega)).2,e];show some (aY (xT a n:Int),())=_;rw[HT (by omega)]
theorem avg (x y:Int):eD (yv IntKind.u64 x y):=by unfold yv eD;rw[HU];omega
theorem ab9 (k8:List Int) (ah:k8.length<=9223372036854775807) (k:Int):U (EW (k8,k,())) (fun y=>eD y.1):=by
 have dg:∀x y:Int,0<=y->∃z,ec IntKind.u64 x y=some z:=fun x y h=>(by unfold ec;rw[if_pos h];exact⟨_,rfl⟩);unfold EW;dsimp only;refine U.bP (P:=fun _=>True) ?_ ?_
 ·rw[cB];refine U.ite (fun h=>?_) fun h=>U.au.2 trivial;have h:0<k8.length:=(by simp only[bQ] at h;omega);have ao:=L3 k h;refine U.bs (GZ k h ah) (U.bs (dO ao) (U.au.2 trivial))
 ·rintro⟨x,_⟩ _;dsimp only;obtain⟨z,aZ⟩:=dg x 31 (by decide);refine U.bs aZ ?_;obtain⟨yy,Qk⟩:=dg (bo (yv IntKind.u64 x z*13787848793156543929)) 29 (by decide);exact U.bs Qk (U.au.2 (avg _ _))
theorem MQ {neg:Bool} {f:Int} (J:0<=f) (R:f<9223372036854775808):eD (ox neg f):=by unfold ox eD;cases neg<;>simp<;>omega
theorem Z9 (neg:Bool) (mode:Int):eD (tI neg mode):=by unfold tI;split<;>exact MQ (by decide) (by decide)
theorem arU {neg:Bool} {n:Nat} {u mode:Int} (ag:n<=9007199254740992) (aQ:-1074<=u):eD (sj neg n u mode):=by
 unfold sj;split
 ·exact MQ (by omega) (by omega)
 ·split
  ·split
   ·exact Z9 _ _
   ·exact MQ (by omega) (by omega)
  ·split
   ·exact Z9 _ _
   ·exact MQ (by omega) (by omega)
theorem St {neg more:Bool} {M:Nat} {e mode:Int} (mO:0<M):eD (ot neg M e more mode):=by have fb:=S8 (neg:=neg) (more:=more) (mode:=mode) (e:=e) mO;have tn:-1074<=cQ M e:=(by unfold cQ;omega);have CJ:ot neg M e more mode=sj neg (if cQ M e<=e then M*2^(e-cQ M e).toNat else jW neg M (cQ M e-e).toNat more mode) (cQ M e) mode:=(by unfold ot;split<;>rfl);rw[CJ];exact arU fb tn
theorem L5:eD 9221120237041090560:=⟨by decide,by decide⟩
theorem aaT (d:Option Int) (mode:Int):eD (tQ d mode):=by
 unfold tQ;cases d with
 |none=>exact L5
 |some v=>
  simp only;unfold Hv;by_cases h:v=0
  ·rw[if_pos h];exact⟨by decide,by decide⟩
  ·rw[if_neg h];exact St (by have:=sg h;omega)
theorem ass {a b:Option Int} (mode:Int):eD (vU a b mode):=by
 unfold vU;cases a with
 |none=>exact L5
 |some x=>
  cases b with
  |none=>exact L5
  |some y=>
   simp only;by_cases g4:y=0
   ·rw[if_pos g4];exact⟨by decide,by decide⟩
   by_cases na:x=0
   ·rw[if_neg g4,if_pos na];exact⟨by decide,by decide⟩
   rw[if_neg g4,if_neg na];unfold Ds Mw;have eS:0<(b6 x).natAbs:=(by have:=sg na;omega);have eP:0<(b6 y).natAbs:=(by have:=sg g4;omega);have Aa:58<=a7 ((b6 x).natAbs*2^vT (b6 x).natAbs (b6 y).natAbs/(b6 y).natAbs):=aav eS eP (by unfold vT;omega);refine St ?_;rcases rk ((b6 x).natAbs*2^vT (b6 x).natAbs (b6 y).natAbs/(b6 y).natAbs) with g|g
   ·rw[g] at Aa;exact absurd Aa (by decide)
   ·exact g
theorem as9 {d:Option Int} (mode:Int):eD (tR d mode):=by
 unfold tR;cases d with
 |none=>exact L5
 |some v=>
  simp only;by_cases aU:v<0
  ·rw[if_pos aU];exact⟨by decide,by decide⟩
  by_cases z:v=0
  ·rw[if_neg aU,if_pos z];exact⟨by decide,by decide⟩
  rw[if_neg aU,if_neg z];unfold Dw MJ;have ns:0<(b6 v).natAbs:=(by have:=sg z;omega);have F6:58<=a7 (eW ((b6 v).natAbs*2^so (b6 v).natAbs (i7 v))):=XZ (by rw[y5 ns];unfold so;split<;>omega);refine St ?_;rcases rk (eW ((b6 v).natAbs*2^so (b6 v).natAbs (i7 v))) with g|g
  ·rw[g] at F6;exact absurd F6 (by decide)
  ·exact g
theorem Z4 (x y:Int):eD (fr IntKind.u64 x y):=by unfold fr eD;rw[HU];omega
theorem apu {x:Int} (ab:eD x) (oz:Int):U (JT (x,oz,())) (fun y=>eD y.1):=by
 have J:=ab.1;have R:=ab.2;unfold JT;dsimp only;refine U.bs (GZ oz (n:=4) (by decide) (by decide)) ?_;dsimp only;rw[e5,e5,e5,cB];refine U.ite (fun _=>?_) fun _=>?_
 ·rw[yi (by decide) (by decide),br,p2 (by decide) (by decide),br];exact U.au.2 (Z4 _ _)
 rw[cB];refine U.ite (fun _=>?_) fun _=>?_
 ·rw[yi (by decide) (by decide),br];unfold jB;rw[if_pos (by decide),br,p2 (by decide) (by decide),br];exact U.au.2 (Z4 _ _)
 rw[cB];refine U.ite (fun _=>?_) fun _=>?_
 ·refine U.bs (Ss ab) ?_;dsimp only;cases decide (dD x=2047)
  ·exact U.au.2 ab
  ·exact U.au.2 ⟨by decide,by decide⟩
 ·unfold Om;refine U.bs (y:=(tQ (tx (x %19-9)) 0,())) ?_ (U.au.2 ?_)
  ·refine aP (y:=x %19) ?_ ?_
   ·unfold jB;rw[if_pos (by decide),Ii J]
   dsimp only;rw[cp (x:=x %19) (by omega) (by omega),cp (by omega) (by omega)];exact aP (MG (by omega) (by omega)) rfl
  ·exact aaT _ _
structure e1 (rows cols:Nat) (st aA aJ:List Int):Prop where
 len:st.length=cols+1
 first:st.getD 0 0=0
 mono:∀j,j<cols->st.getD j 0<=st.getD (j+1) 0
 last:st.getD cols 0=(aA.length:Int)
 val:aJ.length=aA.length
 rng:∀j k:Nat,j<cols->st.getD j 0<=(k:Int)->(k:Int)<st.getD (j+1) 0->0<=aA.getD k 0/\aA.getD k 0<(rows:Int)
 asc:∀j k:Nat,j<cols->st.getD j 0<(k:Int)->(k:Int)<st.getD (j+1) 0->aA.getD (k-1) 0<aA.getD k 0
theorem gY {l:List Int} {i:Nat} (h:i<l.length):bb l (i:Int)=some (l.getD i 0):=by rw[dO h,mN h]
theorem at0 {l:List Int} (ag:l.length<=1000000):JO (l,())=some (open Classical in decide (∀i,i+1<l.length->l.getD i 0<=l.getD (i+1) 0),()):=by
 classical
 unfold JO;dsimp only;refine U.eq_iff.1 (U.bP (P:=fun q=>match q with|.inl _=>(∀i,i+1<l.length->l.getD i 0<=l.getD (i+1) 0)|.inr r=>r=(false,())/\¬(∀i,i+1<l.length->l.getD i 0<=l.getD (i+1) 0)) ?_ ?_)
 ·refine U.loop (fun s=>∃n:Nat,(s.1=(n:Int)\/(s.1=-1/\n=0))/\n<=l.length/\(n<l.length\/l.length=0)/\(∀i,n<=i->i+1<l.length->l.getD i 0<=l.getD (i+1) 0)) (fun s=>s.1.toNat) ⟨l.length-1,?_,by omega,by omega,fun i J R=>by omega⟩ ?_
  ·simp only[bQ];rw[cp (by omega) (by omega)];omega
  ·rintro⟨x,_⟩ ⟨n,J,R,ae,aI⟩;dsimp only at J|-;rw[cB];refine U.ite (fun g=>?_) fun g=>?_
   ·obtain rfl:x=(n:Int):=(by omega);obtain⟨m,rfl⟩:∃m,n=m+1:=⟨n-1,by omega⟩;have aC:aY (((m+1:Nat):Int)-1)=(m:Int):=(by rw[cp (by omega) (by omega)];omega);rw[aC];refine U.bs (gY (by omega)) (U.bs (gY (by omega)) ?_);refine U.bs (y:=(decide (l.getD (m+1) 0<l.getD m 0),())) (by unfold zf wW;simp only[bne_self_eq_false,Option.bind_some];rfl) ?_;dsimp only;rw[cB];refine U.ite (fun k=>?_) fun k=>?_
    ·refine U.au.2 ⟨rfl,fun h=>?_⟩;have:=h m (by omega);omega
    ·refine U.au.2 ⟨⟨m,.inl rfl,by omega,by omega,fun i i1 i2=>?_⟩,?_⟩
     ·rcases ch m i with i3|i3
      ·exact aI i (by omega) i2
      ·obtain rfl:i=m:=(by omega);omega
     ·show(m:Int).toNat<((m+1:Nat):Int).toNat;omega
   ·refine U.au.2 ?_;intro i hi;exact aI i (by omega) hi
 ·rintro(q|q) ai
  ·have ai:(∀i,i+1<l.length->l.getD i 0<=l.getD (i+1) 0):=ai;rw[decide_eq_true ai];exact U.au.2 rfl
  ·obtain⟨J,R⟩:q=(false,())/\¬(∀i,i+1<l.length->l.getD i 0<=l.getD (i+1) 0):=ai;rw[J,decide_eq_false R];exact U.au.2 rfl
def jH (rows:Int) (st aA:List Int) (j:Nat):Prop:=∀k:Nat,st.getD j 0<=(k:Int)->(k:Int)<st.getD (j+1) 0->(if(k:Int)=st.getD j 0 then-1 else aA.getD (k-1) 0)<aA.getD k 0/\aA.getD k 0<rows
theorem jH.pos {rows:Int} {st aA:List Int} {j:Nat} (h:jH rows st aA j) (aU:0<=st.getD j 0):∀k:Nat,st.getD j 0<=(k:Int)->(k:Int)<st.getD (j+1) 0->0<=aA.getD k 0:=by
 intro k
 induction k with
 |zero=>
  intro J R;have:=(h 0 J R).1;rw[if_pos (by omega)] at this;omega
 |succ k aT=>
  intro J R;have ae:=(h (k+1) J R).1;by_cases g:((k+1:Nat):Int)=st.getD j 0
  ·rw[if_pos g] at ae;omega
  ·rw[if_neg g,Ee] at ae;have:=aT (by omega) (by omega);omega
theorem jH.rng {rows:Int} {st aA:List Int} {j:Nat} (aU:0<=st.getD j 0):jH rows st aA j↔(∀k:Nat,st.getD j 0<=(k:Int)->(k:Int)<st.getD (j+1) 0->0<=aA.getD k 0/\aA.getD k 0<rows)/\(∀k:Nat,st.getD j 0<(k:Int)->(k:Int)<st.getD (j+1) 0->aA.getD (k-1) 0<aA.getD k 0):=by
 constructor
 ·intro h;refine⟨fun k J R=>⟨h.pos aU k J R,(h k J R).2⟩,fun k J R=>?_⟩;have:=(h k (by omega) R).1;rwa[if_neg (by omega)] at this
 ·rintro⟨J,R⟩ k bu bE;refine⟨?_,(J k bu bE).2⟩;split
  ·have:=(J k bu bE).1;omega
  ·exact R k (by omega) bE
theorem atU {l:List Int} {lo hi t:Nat} (h:hi<=l.length) (af:lo+t<hi):((l.take hi).drop lo).length=hi-lo/\((l.take hi).drop lo)[t]?=some (l.getD (lo+t) 0):=by refine⟨by simp;omega,?_⟩;rw[ng,yL,if_pos (by omega),ct (by omega),mN (by omega)]
theorem atV {l:List Int} {lo hi:Nat} (h:hi<=l.length):((l.take hi).drop lo).length=hi-lo:=by simp;omega
theorem e1.iff {rows cols:Nat} {st aA aJ:List Int}:e1 rows cols st aA aJ↔st.length=cols+1/\st.getD 0 0=0/\(∀j,j<cols->st.getD j 0<=st.getD (j+1) 0)/\st.getD cols 0=(aA.length:Int)/\aJ.length=aA.length/\∀j,j<cols->jH (rows:Int) st aA j:=by
 have ay:(∀j,j<cols->st.getD j 0<=st.getD (j+1) 0)->st.getD 0 0=0->∀j,j<=cols->0<=st.getD j 0:=fun ao aU j=>by
  induction j with
  |zero=>intro _;omega
  |succ j aT=>intro al;have:=aT (by omega);have:=ao j (by omega);omega
 constructor
 ·rintro⟨J,R,ae,aI,aX,bI,eO⟩;exact⟨J,R,ae,aI,aX,fun j al=>(jH.rng (ay ae R j (by omega))).2 ⟨fun k=>bI j k al,fun k=>eO j k al⟩⟩
 ·rintro⟨J,R,ae,aI,aX,bI⟩;exact⟨J,R,ae,aI,aX,fun j k al=>((jH.rng (ay ae R j (by omega))).1 (bI j al)).1 k,fun j k al=>((jH.rng (ay ae R j (by omega))).1 (bI j al)).2 k⟩
section
open Go.Proofs
def HJ:List (String×DataW Unit):=[("math/bits.deBruijn32tab",Lib.tabData .u8 sY)]
theorem aup (os:Os) (args:Array Value):laidMetH Tryz.prog HJ ((World.doorLaid Tryz.prog 400 os).forCall (fun _ _=>0) ⟨#[],args,[]⟩).memory:=
 laidMetH_of_parts3 (fuel:=8) (laidMet_of_run' 8 (by kernel_rfl) (by kernel_rfl)) (by kernel_rfl) (by kernel_rfl)
theorem auo {W:World} (h:laidMetH Tryz.prog HJ W):mu E (fun b=>b<W.heap.size) W:=by
 rw[MakeChecks.laidMetH_plain _ _ _ (by kernel_rfl)] at h;have aD:Tryz.prog.globalNamed "math/bits.deBruijn32tab"=some 0:=(by kernel_rfl);have bd:=Lib.tabIs_of_head (g:=0) (t:=266) (e:=5) (n:=32) aD (by kernel_rfl) (by kernel_rfl) (by kernel_rfl) (by kernel_rfl) (by kernel_rfl) h;intro g PJ;have PJ:g∈[(⟨0,266,.u8,sY⟩:yV)]:=PJ;obtain rfl:=fv.1 PJ;have aa:0<W.heap.size:=by
  have aU:=bd.cell aD 0 (by decide);unfold World.cell? at aU;split at aU
  ·rename_i c t O2 ai;exact(qa.1 ai).1
  ·cases aU
 refine⟨rfl,_,_,rfl,bS _,(fun h=>by cases h),.inr ⟨0,0,rfl,aa,fun i x ab=>?_⟩⟩;obtain⟨hi,ab⟩:=e9.1 ab;refine⟨[.int .u8 x],rfl,fun j v hv=>?_,rfl,rfl⟩;have hc:=bd.cell aD i hi;have aN:(sY.getD i 0:Int)=x:=(by rw[mN hi];exact ab);rw[aN] at hc;cases j with
 |zero=>
  obtain rfl:=ff hv;have:(⟨0,0+i*aq.size (.int .u8)+0,none⟩:Addr)=⟨0,i,none⟩:=(by show(⟨0,0+i*1+0,none⟩:Addr)=_;congr 1;omega);rw[this];exact hc
 |succ j=>cases hv
end
section
theorem ahC {rows cols:Nat} {st aA aJ:List Int} (hr:rows<=200) (hc:cols<=200) (hi:aA.length<=10000) (hs:st.length<=1000000) (hv:aJ.length<=1000000):JG (((rows:Int),(cols:Int),st,aA,aJ,()),())=some (open Classical in decide (e1 rows cols st aA aJ),()):=by
 classical
 unfold JG;refine U.eq_iff.1 ?_;dsimp only;have pJ:bR (cols:Int)=((cols+1:Nat):Int):=cY (by omega);have bad:∀(h:¬e1 rows cols st aA aJ),(false,())=(decide (e1 rows cols st aA aJ),()):=fun h=>(by rw[decide_eq_false h]);refine U.bP (P:=fun q=>match q with
  |.inl _=>st.length=cols+1/\st.getD 0 0=0/\(∀j,j<cols->st.getD j 0<=st.getD (j+1) 0)/\st.getD cols 0=(aA.length:Int)/\aJ.length=aA.length
  |.inr r=>r=(false,())/\¬e1 rows cols st aA aJ) ?_ ?_
 ·rw[pJ,ew];by_cases c4:st.length=cols+1
  ·rw[bc (show aW st=((cols+1:Nat):Int) by simp only[bQ];omega)];refine U.bs (y:=st.getD 0 0) (gY (i:=0) (by omega)) ?_;rw[ew];by_cases cd:st.getD 0 0=0
   ·rw[bc cd];refine U.bs (at0 hs) ?_;dsimp only;by_cases i5:∀i,i+1<st.length->st.getD i 0<=st.getD (i+1) 0
    ·rw[decide_eq_true i5];refine U.bs (y:=st.getD cols 0) (gY (by omega)) ?_;rw[ew];by_cases lW:st.getD cols 0=(aA.length:Int)
     ·rw[bc (show st.getD cols 0=aW aA from lW),ew];by_cases ry:aA.length=aJ.length
      ·rw[bc (show aW aA=aW aJ by simp only[bQ];omega)];exact U.au.2 ⟨c4,cd,fun j al=>i5 j (by omega),lW,by omega⟩
      ·rw[a5 (show¬aW aA=aW aJ by simp only[bQ];omega)];exact U.au.2 ⟨rfl,fun h=>ry h.val.symm⟩
     ·rw[a5 (show¬st.getD cols 0=aW aA from lW)];exact U.au.2 ⟨rfl,fun h=>lW h.last⟩
    ·rw[decide_eq_false i5];exact U.au.2 ⟨rfl,fun h=>i5 fun i hi=>h.mono i (by have:=h.len;omega)⟩
   ·rw[a5 cd];exact U.au.2 ⟨rfl,fun h=>cd h.first⟩
  ·rw[a5 (show¬aW st=((cols+1:Nat):Int) by simp only[bQ];omega)];exact U.au.2 ⟨rfl,fun h=>c4 h.len⟩
 ·rintro(q|q) ai
  rotate_left
  ·obtain⟨rfl,h⟩:q=(false,())/\¬e1 rows cols st aA aJ:=ai;exact U.au.2 (bad h)
  obtain⟨c4,cd,i5,lW,ry⟩:st.length=cols+1/\st.getD 0 0=0/\(∀j,j<cols->st.getD j 0<=st.getD (j+1) 0)/\st.getD cols 0=(aA.length:Int)/\aJ.length=aA.length:=ai;have ay:∀j,j<=cols->0<=st.getD j 0:=fun j=>by
   induction j with
   |zero=>intro _;omega
   |succ j aT=>intro al;have:=aT (by omega);have:=i5 j (by omega);omega
  have ai:∀d j,j+d=cols->st.getD j 0<=(aA.length:Int):=fun d=>by
   induction d with
   |zero=>intro j al;obtain rfl:j=cols:=al;omega
   |succ d aT=>intro j al;have:=aT (j+1) (by omega);have:=i5 j (by omega);omega
  dsimp only;refine U.bP (P:=fun q=>match q with
   |.inl _=>(∀j,j<cols->jH (rows:Int) st aA j)
   |.inr r=>r=(false,())/\¬(∀j,j<cols->jH (rows:Int) st aA j)) ?_ ?_
  ·refine U.steps cols (fun i s=>s=((i:Int),())/\∀j,j<i->jH (rows:Int) st aA j) ⟨rfl,fun j al=>by omega⟩ ?_ ?_
   ·rintro j _ al ⟨rfl,J⟩;dsimp only;rw[dh (bc (show(j:Int)<(cols:Int) by omega)),cY (by omega)];obtain⟨lo,fR⟩:=Int.eq_ofNat_of_zero_le (ay j (by omega));obtain⟨dP,j3⟩:=Int.eq_ofNat_of_zero_le (ay (j+1) (by omega));have fb:dP<=aA.length:=(by have:=ai (cols-(j+1)) (j+1) (by omega);omega);have FW:lo<=dP:=(by have:=i5 j al;omega);refine U.bs (y:=(lo:Int)) (by rw[gY (by omega),fR]) (U.bs (y:=(dP:Int)) (by rw[gY (by omega),j3]) (U.bs (y:=(lo,dP)) (by rw[G5,Option.bind_some,G5,Option.bind_some,LP ⟨FW,fb⟩];rfl) ?_));dsimp only;have dR:=atV (l:=aA) (lo:=lo) fb;refine U.bP (P:=fun q=>match q with
     |.inl _=>jH (rows:Int) st aA j
     |.inr r=>r=.inr (.inr (false,()))/\¬jH (rows:Int) st aA j) ?_ ?_
    ·refine U.steps (dP-lo) (fun t s=>s=((if t=0 then-1 else aA.getD (lo+t-1) 0),(t:Int),())/\∀k:Nat,lo<=k->k<lo+t->(if(k:Int)=st.getD j 0 then-1 else aA.getD (k-1) 0)<aA.getD k 0/\aA.getD k 0<(rows:Int)) ⟨rfl,fun k J R=>by omega⟩ ?_ ?_
     ·rintro t _ af ⟨rfl,R⟩;have aD:=(atU (l:=aA) (lo:=lo) (hi:=dP) (t:=t) fb (by omega)).2;have CD:(if t=0 then-1 else aA.getD (lo+t-1) 0)=(if((lo+t:Nat):Int)=st.getD j 0 then-1 else aA.getD (lo+t-1) 0):=by
       rw[fR];by_cases t0:t=0
       ·subst t0;rw[if_pos rfl,if_pos (by omega)]
       ·rw[if_neg t0,if_neg (by omega)]
      dsimp only;rw[dh (bc (show(t:Int)<aW ((aA.take dP).drop lo) by simp only[bQ];omega)),CD];refine U.bP (P:=fun q=>match q with
       |.inl r=>r=(aA.getD (lo+t) 0,())/\((if((lo+t:Nat):Int)=st.getD j 0 then-1 else aA.getD (lo+t-1) 0)<aA.getD (lo+t) 0/\aA.getD (lo+t) 0<(rows:Int))
       |.inr r=>r=.inr (.inr (.inr (.inr (false,()))))/\¬((if((lo+t:Nat):Int)=st.getD j 0 then-1 else aA.getD (lo+t-1) 0)<aA.getD (lo+t) 0/\aA.getD (lo+t) 0<(rows:Int))) ?_ ?_
      ·refine U.bs (y:=aA.getD (lo+t) 0) (l1 aD) ?_;generalize(if((lo+t:Nat):Int)=st.getD j 0 then-1 else aA.getD (lo+t-1) 0)=aso;generalize aA.getD (lo+t) 0=y;by_cases dn:y<=aso
       ·rw[bc dn];exact U.au.2 ⟨rfl,fun h=>by omega⟩
       ·rw[a5 dn];by_cases dM:y>=(rows:Int)
        ·rw[bc dM];exact U.au.2 ⟨rfl,fun h=>by omega⟩
        ·rw[a5 dM];exact U.au.2 ⟨rfl,by omega,by omega⟩
      ·rintro(q|q) hP
       ·obtain⟨rfl,ae⟩:=hP;refine U.au.2 ⟨?_,?_⟩
        ·rw[cY (by omega),if_neg (by omega)];rfl
        ·intro k bu bE;rcases ch k (lo+t) with cl|cl
         ·exact R k bu cl
         ·obtain rfl:k=lo+t:=(by omega);exact ae
       ·obtain⟨rfl,ae⟩:=hP;refine U.au.2 ⟨rfl,fun h=>ae ?_⟩;exact h (lo+t) (by omega) (by omega)
     ·rintro _ ⟨rfl,R⟩;dsimp only;rw[df (a5 (show¬(((dP-lo:Nat):Int)<aW ((aA.take dP).drop lo)) by simp only[bQ];omega))];refine U.au.2 ?_;intro k bu bE;exact R k (by omega) (by omega)
    ·rintro(q|q) hP
     ·have hP:jH (rows:Int) st aA j:=hP;refine U.au.2 ⟨rfl,fun k ac=>?_⟩;rcases ch k j with bu|bu
      ·exact J k bu
      ·obtain rfl:k=j:=(by omega);exact hP
     ·obtain⟨rfl,ae⟩:=hP;exact U.au.2 ⟨rfl,fun h=>ae (h j al)⟩
   ·rintro _ ⟨rfl,J⟩;dsimp only;rw[df (a5 (show¬((cols:Int)<(cols:Int)) by omega))];exact U.au.2 J
  ·rintro(q|q) hP
   ·have hP:(∀j,j<cols->jH (rows:Int) st aA j):=hP;refine U.au.2 ?_;show(true,())=_;rw[decide_eq_true (e1.iff.2 ⟨c4,cd,i5,lW,ry,hP⟩)]
   ·obtain⟨rfl,ae⟩:q=(false,())/\¬(∀j,j<cols->jH (rows:Int) st aA j):=hP;exact U.au.2 (bad fun h=>ae (e1.iff.1 h).2.2.2.2.2)
def ms (aJ:List Int):Prop:=∀i,i<aJ.length->dD (aJ.getD i 0)≠2047
open Classical in
def iM (rows cols:Nat) (st aA aJ:List Int):Int:=if e1 rows cols st aA aJ then if ms aJ then 0 else 4 else 1
theorem TW.getD {l:List Int} (h:∀v∈l,eD v) (i:Nat):eD (l.getD i 0):=by
 rcases ch i l.length with g|g
 ·rw[mN g];exact h _ (dt g)
 ·rw[s6 g];exact⟨by decide,by decide⟩
theorem apt {aJ:List Int} (hw:∀v∈aJ,eD v) (hv:aJ.length<=1000000):JM (aJ,(),())=some (open Classical in decide (¬ms aJ),()):=by
 classical
 unfold JM;refine U.eq_iff.1 ?_;refine U.bP (P:=fun r=>∃x,r=(x,())/\(0<=x↔¬ms aJ)) ?_ ?_
 ·unfold Oh;dsimp only;refine U.bP (P:=fun q=>match q with|.inl _=>ms aJ|.inr r=>0<=r.1/\¬ms aJ) ?_ ?_
  ·refine U.steps aJ.length (fun i s=>s=((i:Int),())/\∀k,k<i->dD (aJ.getD k 0)≠2047) ⟨rfl,fun k ac=>by omega⟩ ?_ ?_
   ·rintro i _ hi ⟨rfl,J⟩;dsimp only;rw[dh (bc (show(i:Int)<aW aJ by simp only[bQ];omega))];refine U.bs (gY hi) ?_;unfold Of;refine U.bs (y:=(decide (dD (aJ.getD i 0)=2047),())) (aP (Qt (TW.getD hw i)) (by dsimp only;rw[Bool.not_not])) ?_;dsimp only;rw[cB];refine U.ite (fun g=>?_) fun g=>?_
    ·exact U.au.2 ⟨by show(0:Int)<=(i:Int);omega,fun h=>h i hi g⟩
    ·refine U.au.2 ⟨by rw[cY (by omega)],fun k ac=>?_⟩;rcases ch k i with bu|bu
     ·exact J k bu
     ·obtain rfl:k=i:=(by omega);exact g
   ·rintro _ ⟨rfl,J⟩;dsimp only;rw[df (a5 (show¬((aJ.length:Int)<aW aJ) by simp only[bQ];omega))];exact U.au.2 J
  ·rintro(q|q) ai
   ·have ai:ms aJ:=ai;exact U.au.2 ⟨_,rfl,⟨fun h=>absurd h (by decide),fun h=>absurd ai h⟩⟩
   ·obtain⟨J,R⟩:0<=q.1/\¬ms aJ:=ai;exact U.au.2 ⟨q.1,rfl,fun _=>R,fun _=>J⟩
 ·rintro _ ⟨x,rfl,ab⟩;refine U.au.2 ?_;show(decide (x>=0),())=_;congr 1;rw[decide_eq_decide];exact ab
theorem aoz {rows cols:Nat} {st aA aJ:List Int} (hr:rows<=200) (hc:cols<=200) (hi:aA.length<=10000) (hs:st.length<=1000000) (hv:aJ.length<=1000000) (hw:∀v∈aJ,eD v):wZ (((rows:Int),(cols:Int),st,aA,aJ,()),())=some (iM rows cols st aA aJ,()):=by
 classical
 unfold wZ iM;dsimp only;refine aP (y:=(false,())) ?_ ?_
 ·unfold JJ;dsimp only;rw[bc (show(rows:Int)>=0 by omega),bc (show(rows:Int)<=200 by omega),bc (show(cols:Int)>=0 by omega),bc (show(cols:Int)<=200 by omega),a5 (show¬(aW aA>10000) by simp only[bQ];omega)];rfl
 dsimp only;rw[cond_false];refine aP (ahC hr hc hi hs hv) ?_;dsimp only;by_cases J:e1 rows cols st aA aJ
 ·rw[decide_eq_true J,if_pos J];refine aP (apt hw hv) ?_;dsimp only;by_cases R:ms aJ
  ·rw[decide_eq_false (fun h=>h R),if_pos R];rfl
  ·rw[decide_eq_true R,if_neg R];rfl
 ·rw[decide_eq_false J,if_neg J];rfl
end
theorem as2 {aJ:List Int} (hw:∀v∈aJ,eD v) (hv:aJ.length<=1000000):Ka (aJ,())=some (open Classical in decide (ms aJ),()):=by
 classical
 unfold Ka;refine U.eq_iff.1 ?_;dsimp only;refine U.bP (P:=fun q=>match q with|.inl _=>ms aJ|.inr r=>r=(false,())/\¬ms aJ) ?_ ?_
 ·refine U.steps aJ.length (fun i s=>s=((i:Int),())/\∀k,k<i->dD (aJ.getD k 0)≠2047) ⟨rfl,fun k ac=>by omega⟩ ?_ ?_
  ·rintro i _ hi ⟨rfl,J⟩;dsimp only;rw[dh (bc (show(i:Int)<aW aJ by simp only[bQ];omega))];refine U.bs (gY hi) (U.bs (Ss (TW.getD hw i)) ?_);dsimp only;rw[Bool.not_not,cB];refine U.ite (fun g=>?_) fun g=>?_
   ·exact U.au.2 ⟨rfl,fun h=>h i hi g⟩
   ·refine U.au.2 ⟨by rw[cY (by omega)],fun k ac=>?_⟩;rcases ch k i with bu|bu
    ·exact J k bu
    ·obtain rfl:k=i:=(by omega);exact g
  ·rintro _ ⟨rfl,J⟩;dsimp only;rw[df (a5 (show¬((aJ.length:Int)<aW aJ) by simp only[bQ];omega))];exact U.au.2 J
 ·rintro(q|q) ai
  ·have ai:ms aJ:=ai;rw[decide_eq_true ai];exact U.au.2 rfl
  ·obtain⟨J,R⟩:q=(false,())/\¬ms aJ:=ai;rw[J,decide_eq_false R];exact U.au.2 rfl
theorem asO {rows cols:Nat} {st aA aJ:List Int} (hr:rows<=200) (hc:cols<=200) (hi:aA.length<=10000) (hs:st.length<=1000000) (hv:aJ.length<=1000000) (hw:∀v∈aJ,eD v):w4 (((rows:Int),(cols:Int),st,aA,aJ,()),())=some (iM rows cols st aA aJ,()):=by
 classical
 unfold w4;refine U.eq_iff.1 ?_;dsimp only;have pJ:bR (cols:Int)=((cols+1:Nat):Int):=cY (by omega);have bad:∀(h:¬e1 rows cols st aA aJ),((1:Int),())=(iM rows cols st aA aJ,()):=fun h=>(by unfold iM;rw[if_neg h]);refine U.bs (y:=.inl ()) ?_ ?_
 ·rw[a5 (show¬(rows:Int)<0 by omega),a5 (show¬(rows:Int)>200 by omega),a5 (show¬(cols:Int)<0 by omega),a5 (show¬(cols:Int)>200 by omega),a5 (show¬(aW aA>10000) by simp only[bQ];omega)];rfl
 dsimp only;refine U.bP (P:=fun q=>match q with
  |.inl _=>st.length=cols+1/\st.getD 0 0=0/\st.getD cols 0=(aA.length:Int)/\aJ.length=aA.length
  |.inr r=>r=((1:Int),())/\¬e1 rows cols st aA aJ) ?_ ?_
 ·rw[pJ,ew,ew];by_cases ry:aJ.length=aA.length
  ·rw[bc (show aW aJ=aW aA by simp only[bQ];omega)];by_cases c4:st.length=cols+1
   ·rw[bc (show aW st=((cols+1:Nat):Int) by simp only[bQ];omega)];refine U.bs (y:=st.getD 0 0) (gY (i:=0) (by omega)) ?_;rw[ew];by_cases cd:st.getD 0 0=0
    ·rw[bc cd];refine U.bs (y:=st.getD cols 0) (gY (by omega)) ?_;rw[ew];by_cases lW:st.getD cols 0=(aA.length:Int)
     ·rw[bc (show st.getD cols 0=aW aA from lW)];exact U.au.2 ⟨c4,cd,lW,ry⟩
     ·rw[a5 (show¬st.getD cols 0=aW aA from lW)];exact U.au.2 ⟨rfl,fun h=>lW h.last⟩
    ·rw[a5 cd];exact U.au.2 ⟨rfl,fun h=>cd h.first⟩
   ·rw[a5 (show¬aW st=((cols+1:Nat):Int) by simp only[bQ];omega)];exact U.au.2 ⟨rfl,fun h=>c4 h.len⟩
  ·rw[a5 (show¬aW aJ=aW aA by simp only[bQ];omega)];exact U.au.2 ⟨rfl,fun h=>ry h.val⟩
 rintro(q|q) ai
 rotate_left
 ·obtain⟨rfl,h⟩:q=((1:Int),())/\¬e1 rows cols st aA aJ:=ai;exact U.au.2 (bad h)
 obtain⟨c4,cd,lW,ry⟩:st.length=cols+1/\st.getD 0 0=0/\st.getD cols 0=(aA.length:Int)/\aJ.length=aA.length:=ai;dsimp only;refine U.bP (P:=fun q=>match q with
  |.inl _=>(∀j,j<cols->st.getD j 0<=st.getD (j+1) 0)
  |.inr r=>r=((1:Int),())/\¬e1 rows cols st aA aJ) ?_ ?_
 ·refine U.steps cols (fun i s=>s=((i:Int),())/\∀j,j<i->st.getD j 0<=st.getD (j+1) 0) ⟨rfl,fun j al=>by omega⟩ ?_ ?_
  ·rintro j _ al ⟨rfl,J⟩;dsimp only;rw[dh (bc (show(j:Int)<(cols:Int) by omega)),cY (by omega)];refine U.bs (gY (by omega)) (U.bs (gY (by omega)) ?_);rw[cB];refine U.ite (fun g=>?_) fun g=>?_
   ·exact U.au.2 ⟨rfl,fun h=>by have:=h.mono j al;omega⟩
   ·refine U.au.2 ⟨rfl,fun k ac=>?_⟩;rcases ch k j with bu|bu
    ·exact J k bu
    ·obtain rfl:k=j:=(by omega);omega
  ·rintro _ ⟨rfl,J⟩;dsimp only;rw[df (a5 (show¬((cols:Int)<(cols:Int)) by omega))];exact U.au.2 J
 rintro(q|q) ai
 rotate_left
 ·obtain⟨rfl,h⟩:q=((1:Int),())/\¬e1 rows cols st aA aJ:=ai;exact U.au.2 (bad h)
 have i5:∀j,j<cols->st.getD j 0<=st.getD (j+1) 0:=ai;have ay:∀j,j<=cols->0<=st.getD j 0:=fun j=>by
  induction j with
  |zero=>intro _;omega
  |succ j aT=>intro al;have:=aT (by omega);have:=i5 j (by omega);omega
 have ai:∀d j,j+d=cols->st.getD j 0<=(aA.length:Int):=fun d=>by
  induction d with
  |zero=>intro j al;obtain rfl:j=cols:=al;omega
  |succ d aT=>intro j al;have:=aT (j+1) (by omega);have:=i5 j (by omega);omega
 dsimp only;refine U.bP (P:=fun q=>match q with
  |.inl _=>(∀j,j<cols->jH (rows:Int) st aA j)
  |.inr r=>r=((1:Int),())/\¬(∀j,j<cols->jH (rows:Int) st aA j)) ?_ ?_
 ·refine U.steps cols (fun i s=>s=((i:Int),())/\∀j,j<i->jH (rows:Int) st aA j) ⟨rfl,fun j al=>by omega⟩ ?_ ?_
  ·rintro j _ al ⟨rfl,J⟩;dsimp only;rw[dh (bc (show(j:Int)<(cols:Int) by omega)),cY (by omega)];obtain⟨lo,fR⟩:=Int.eq_ofNat_of_zero_le (ay j (by omega));obtain⟨dP,j3⟩:=Int.eq_ofNat_of_zero_le (ay (j+1) (by omega));have fb:dP<=aA.length:=(by have:=ai (cols-(j+1)) (j+1) (by omega);omega);have FW:lo<=dP:=(by have:=i5 j al;omega);have bT:bb st (j:Int)=some (lo:Int):=(by rw[gY (by omega),fR]);have bz:bb st ((j+1:Nat):Int)=some (dP:Int):=(by rw[gY (by omega),j3]);refine U.bs bT ?_;refine U.bP (P:=fun q=>match q with
    |.inl _=>jH (rows:Int) st aA j
    |.inr r=>r=.inr (.inr ((1:Int),()))/\¬jH (rows:Int) st aA j) ?_ ?_
   ·refine U.steps (dP-lo) (fun t s=>s=(((lo+t:Nat):Int),())/\∀k:Nat,lo<=k->k<lo+t->(if(k:Int)=st.getD j 0 then-1 else aA.getD (k-1) 0)<aA.getD k 0/\aA.getD k 0<(rows:Int)) ⟨rfl,fun k J R=>by omega⟩ ?_ ?_
    ·rintro t _ af ⟨rfl,R⟩;dsimp only;refine U.bs bz ?_;rw[dh (bc (show((lo+t:Nat):Int)<(dP:Int) by omega))];have Cq:bb aA ((lo+t:Nat):Int)=some (aA.getD (lo+t) 0):=gY (by omega);have mV:t≠0->0<=aA.getD (lo+t-1) 0:=fun t0=>by
      have key:∀k:Nat,lo<=k->k<lo+t->0<=aA.getD k 0:=by
       intro k
       induction k with
       |zero=>
        intro bu bE;have:=(R 0 bu bE).1;rw[if_pos (by omega)] at this;omega
       |succ k aT=>
        intro bu bE;have ae:=(R (k+1) bu bE).1;by_cases g:((k+1:Nat):Int)=st.getD j 0
        ·rw[if_pos g] at ae;omega
        ·rw[if_neg g,Ee] at ae;have:=aT (by omega) (by omega);omega
      exact key _ (by omega) (by omega)
     refine U.bP (P:=fun q=>match q with
      |.inl _=>((if((lo+t:Nat):Int)=st.getD j 0 then-1 else aA.getD (lo+t-1) 0)<aA.getD (lo+t) 0/\aA.getD (lo+t) 0<(rows:Int))
      |.inr r=>r=.inr (.inr (.inr (.inr ((1:Int),()))))/\¬((if((lo+t:Nat):Int)=st.getD j 0 then-1 else aA.getD (lo+t-1) 0)<aA.getD (lo+t) 0/\aA.getD (lo+t) 0<(rows:Int))) ?_ ?_
     ·refine U.bs Cq ?_;by_cases sX:aA.getD (lo+t) 0<0
      ·rw[bc sX];refine U.au.2 ⟨rfl,fun h=>?_⟩;have ae:=h.1;by_cases t0:t=0
       ·rw[if_pos (by omega)] at ae;omega
       ·rw[if_neg (by omega)] at ae;have:=mV t0;omega
      rw[a5 sX];refine U.bs Cq ?_;by_cases dM:aA.getD (lo+t) 0>=(rows:Int)
      ·rw[bc dM];exact U.au.2 ⟨rfl,fun h=>by omega⟩
      rw[a5 dM];refine U.bs bT ?_;by_cases t0:t=0
      ·rw[a5 (show¬((lo+t:Nat):Int)>(lo:Int) by omega)];refine U.au.2 ⟨?_,by omega⟩;rw[if_pos (by omega)];omega
      ·rw[bc (show((lo+t:Nat):Int)>(lo:Int) by omega)];have aC:aY (((lo+t:Nat):Int)-1)=((lo+t-1:Nat):Int):=(by rw[cp (by omega) (by omega)];omega);refine U.bs Cq (U.bs (y:=aA.getD (lo+t-1) 0) (by rw[aC];exact gY (by omega)) ?_);rw[cB];refine U.ite (fun g=>?_) fun g=>?_
       ·refine U.au.2 ⟨rfl,fun h=>?_⟩;have ae:=h.1;rw[if_neg (by omega)] at ae;omega
       ·refine U.au.2 ⟨?_,by omega⟩;rw[if_neg (by omega)];omega
     ·rintro(q|q) hP
      ·refine U.au.2 ⟨by rw[cY (by omega)];rfl,?_⟩;intro k bu bE;rcases ch k (lo+t) with cl|cl
       ·exact R k bu cl
       ·obtain rfl:k=lo+t:=(by omega);exact hP
      ·obtain⟨rfl,ae⟩:=hP;exact U.au.2 ⟨rfl,fun h=>ae (h (lo+t) (by omega) (by omega))⟩
    ·rintro _ ⟨rfl,R⟩;dsimp only;refine U.bs bz ?_;rw[df (a5 (show¬(((lo+(dP-lo):Nat):Int)<(dP:Int)) by omega))];refine U.au.2 ?_;intro k bu bE;exact R k (by omega) (by omega)
   ·rintro(q|q) hP
    ·have hP:jH (rows:Int) st aA j:=hP;refine U.au.2 ⟨rfl,fun k ac=>?_⟩;rcases ch k j with bu|bu
     ·exact J k bu
     ·obtain rfl:k=j:=(by omega);exact hP
    ·obtain⟨rfl,ae⟩:=hP;exact U.au.2 ⟨rfl,fun h=>ae (h j al)⟩
  ·rintro _ ⟨rfl,J⟩;dsimp only;rw[df (a5 (show¬((cols:Int)<(cols:Int)) by omega))];exact U.au.2 J
 ·rintro(q|q) hP
  ·have hP:(∀j,j<cols->jH (rows:Int) st aA j):=hP;have bB:e1 rows cols st aA aJ:=e1.iff.2 ⟨c4,cd,i5,lW,ry,hP⟩;refine U.bs (as2 hw hv) ?_;unfold iM;rw[if_pos bB];by_cases R:ms aJ
   ·rw[decide_eq_true R,if_pos R];exact U.au.2 rfl
   ·rw[decide_eq_false R,if_neg R];exact U.au.2 rfl
  ·obtain⟨rfl,ae⟩:q=((1:Int),())/\¬(∀j,j<cols->jH (rows:Int) st aA j):=hP;exact U.au.2 (bad fun h=>ae (e1.iff.1 h).2.2.2.2.2)
abbrev cr:=Int×Int×Int×Unit
def jt (aA aJ:List Int) (j:Int) (lo:Nat):Nat->List cr
 |0=>[]
 |n+1=>jt aA aJ j lo n++[(aA.getD (lo+n) 0,j,aJ.getD (lo+n) 0,())]
def di (st aA aJ:List Int):Nat->List cr
 |0=>[]
 |j+1=>di st aA aJ j++jt aA aJ (j:Int) (st.getD j 0).toNat ((st.getD (j+1) 0).toNat-(st.getD j 0).toNat)
theorem VJ (aA aJ:List Int) (j:Int) (lo n:Nat):(jt aA aJ j lo n).length=n:=by
 induction n with
 |zero=>rfl
 |succ n aT=>simp[jt,aT]
theorem e1.pos {rows cols:Nat} {st aA aJ:List Int} (h:e1 rows cols st aA aJ):∀j,j<=cols->0<=st.getD j 0:=fun j=>by
 have:=h.first
 induction j with
 |zero=>intro _;omega
 |succ j aT=>intro al;have:=aT (by omega);have:=h.mono j (by omega);omega
theorem e1.tD {rows cols:Nat} {st aA aJ:List Int} (h:e1 rows cols st aA aJ):∀j,j<=cols->st.getD j 0<=(aA.length:Int):=by
 have key:∀d j,j+d=cols->st.getD j 0<=(aA.length:Int):=fun d=>by
  have:=h.last
  induction d with
  |zero=>intro j al;obtain rfl:j=cols:=al;omega
  |succ d aT=>intro j al;have:=aT (j+1) (by omega);have:=h.mono j (by omega);omega
 exact fun j al=>key (cols-j) j (by omega)
theorem Fs {rows cols:Nat} {st aA aJ:List Int} (h:e1 rows cols st aA aJ):∀j,j<=cols->(di st aA aJ j).length=(st.getD j 0).toNat:=fun j=>by
 induction j with
 |zero=>intro _;have:=h.first;show 0=(st.getD 0 0).toNat;omega
 |succ j aT=>
  intro al;have J:=aT (by omega);have R:=h.mono j (by omega);have ae:=h.pos j (by omega);simp only[di,qi,VJ,J];omega
theorem OJ {rows cols:Nat} {st aA aJ:List Int} (h:e1 rows cols st aA aJ) (hc:cols<=200) (hi:aA.length<=10000):B8 (((rows:Int),(cols:Int),st,aA,aJ,()),())=some (di st aA aJ cols,()):=by
 unfold B8;refine U.eq_iff.1 ?_;dsimp only;refine U.bP (P:=fun r=>r=(di st aA aJ cols,())) ?_ (by rintro _ rfl;exact U.au.2 rfl);refine U.steps cols (fun j s=>s=((j:Int),di st aA aJ j,())) rfl ?_ ?_
 ·rintro j _ al rfl;have ah:=h.len;obtain⟨lo,fR⟩:=Int.eq_ofNat_of_zero_le (h.pos j (by omega));obtain⟨dP,j3⟩:=Int.eq_ofNat_of_zero_le (h.pos (j+1) (by omega));have fb:dP<=aA.length:=(by have:=h.tD (j+1) (by omega);omega);have FW:lo<=dP:=(by have:=h.mono j al;omega);have mQ:=Fs h j (by omega);have hv:=h.val;dsimp only;rw[dh (bc (show(j:Int)<(cols:Int) by omega)),cY (by omega)];refine U.bs (y:=(lo:Int)) (by rw[gY (by omega),fR]) ?_;refine U.bP (P:=fun r=>r=(di st aA aJ (j+1),())) ?_ (by rintro _ rfl;exact U.au.2 rfl);refine U.steps (dP-lo) (fun t s=>s=(((lo+t:Nat):Int),di st aA aJ j++jt aA aJ (j:Int) lo t,())) (by simp[jt]) ?_ ?_
  ·rintro t _ af rfl;dsimp only;refine U.bs (y:=(dP:Int)) (by rw[gY (by omega),j3]) ?_;rw[dh (bc (show((lo+t:Nat):Int)<(dP:Int) by omega))];refine U.bs (gY (by omega)) (U.bs (gY (by omega)) ?_);rw[fD (by simp[VJ];omega)];refine U.au.2 ?_;rw[cY (by omega),List.append_assoc];rfl
  ·rintro _ rfl;dsimp only;refine U.bs (y:=(dP:Int)) (by rw[gY (by omega),j3]) ?_;rw[df (a5 (show¬((lo+(dP-lo):Nat):Int)<(dP:Int) by omega))];refine U.au.2 ?_;show(_,())=(di st aA aJ j++jt aA aJ (j:Int) (st.getD j 0).toNat ((st.getD (j+1) 0).toNat-(st.getD j 0).toNat),());rw[fR,j3];rfl
 ·rintro _ rfl;dsimp only;rw[df (a5 (show¬((cols:Int)<(cols:Int)) by omega))];exact U.au.2 rfl
structure ku (rows cols:Nat) (st aA aJ:List Int):Prop where
 hr:rows<=200
 hc:cols<=200
 hi:aA.length<=10000
 hs:st.length<=1000000
 hv:aJ.length<=1000000
 hw:∀v∈aJ,eD v
theorem ku.check {rows cols:Nat} {st aA aJ:List Int} (h:ku rows cols st aA aJ):wZ (((rows:Int),(cols:Int),st,aA,aJ,()),())=some (iM rows cols st aA aJ,()):=aoz h.hr h.hc h.hi h.hs h.hv h.hw
theorem ku.Hq {rows cols:Nat} {st aA aJ:List Int} (h:ku rows cols st aA aJ):w4 (((rows:Int),(cols:Int),st,aA,aJ,()),())=some (iM rows cols st aA aJ,()):=asO h.hr h.hc h.hi h.hs h.hv h.hw
theorem nX {rows cols:Nat} {st aA aJ:List Int}:iM rows cols st aA aJ=0↔e1 rows cols st aA aJ/\ms aJ:=by
 unfold iM;constructor
 ·intro h;split at h
  ·split at h
   ·exact⟨by assumption,by assumption⟩
   ·omega
  ·omega
 ·rintro⟨J,R⟩;rw[if_pos J,if_pos R]
theorem acA {rows cols:Nat} {st aA aJ:List Int} (ao:ku rows cols st aA aJ) (h:iM rows cols st aA aJ=0):JD (((rows:Int),(cols:Int),st,aA,aJ,()),())=some (di st aA aJ cols,()):=by unfold JD;refine aP ao.check ?_;dsimp only;rw[h,ew,bc rfl];exact aP (OJ (nX.1 h).1 ao.hc ao.hi) rfl
theorem aaC {rows cols:Nat} {st aA aJ:List Int} (ao:ku rows cols st aA aJ) (ac:iM rows cols st aA aJ=0):E7 (((rows:Int),(cols:Int),st,aA,aJ,()),())=some (di st aA aJ cols,()):=by have h:=(nX.1 ac).1;have R:=OJ h ao.hc ao.hi;unfold B8 at R;unfold E7;refine aP ao.Hq ?_;dsimp only at R|-;rw[ac,ew,bc rfl];exact R
def g5 (a b:cr):Prop:=a.2.1<b.2.1\/(a.2.1=b.2.1/\a.1<b.1)
theorem AC {aA aJ:List Int} {j:Int} {lo n:Nat} {x:cr}:x∈jt aA aJ j lo n↔∃t,t<n/\x=(aA.getD (lo+t) 0,j,aJ.getD (lo+t) 0,()):=by
 induction n with
 |zero=>simp[jt]
 |succ n aT=>
  simp only[jt,fe,aT,fv];constructor
  ·rintro(⟨t,J,R⟩|h)
   ·exact⟨t,by omega,R⟩
   ·exact⟨n,by omega,h⟩
  ·rintro⟨t,J,R⟩;rcases ch t n with g|g
   ·exact .inl ⟨t,g,R⟩
   ·obtain rfl:t=n:=(by omega);exact .inr R
theorem aiL {aA aJ:List Int} {j:Int} {lo n:Nat} (h:∀s t,s<t->t<n->aA.getD (lo+s) 0<aA.getD (lo+t) 0):(jt aA aJ j lo n).Pairwise g5:=by
 induction n with
 |zero=>exact List.Pairwise.nil
 |succ n aT=>
  refine List.pairwise_append.2 ⟨aT fun s t J R=>h s t J (by omega),List.pairwise_singleton _ _,?_⟩;intro a aG b aa;obtain⟨t,af,rfl⟩:=AC.1 aG;rw[fv.1 aa];exact .inr ⟨rfl,h t n af (by omega)⟩
theorem GX {st aA aJ:List Int} {j:Nat} {x:cr}:x∈di st aA aJ j↔∃c,c<j/\x∈jt aA aJ (c:Int) (st.getD c 0).toNat ((st.getD (c+1) 0).toNat-(st.getD c 0).toNat):=by
 induction j with
 |zero=>simp[di]
 |succ j aT=>
  simp only[di,fe,aT];constructor
  ·rintro(⟨c,J,R⟩|h)
   ·exact⟨c,by omega,R⟩
   ·exact⟨j,by omega,h⟩
  ·rintro⟨c,J,R⟩;rcases ch c j with g|g
   ·exact .inl ⟨c,g,R⟩
   ·obtain rfl:c=j:=(by omega);exact .inr R
theorem zH {rows cols:Nat} {st aA aJ:List Int} (h:e1 rows cols st aA aJ):∀j,j<=cols->(di st aA aJ j).Pairwise g5:=by
 intro j
 induction j with
 |zero=>intro _;exact List.Pairwise.nil
 |succ j aT=>
  intro al;have tJ:=h.pos j (by omega);have g2:=h.pos (j+1) al;refine List.pairwise_append.2 ⟨aT (by omega),aiL ?_,?_⟩
  ·intro s t J R;have step:∀d,s+d<(st.getD (j+1) 0).toNat-(st.getD j 0).toNat->0<d->aA.getD ((st.getD j 0).toNat+s) 0<aA.getD ((st.getD j 0).toNat+(s+d)) 0:=by
    intro d
    induction d with
    |zero=>intro _ aI;omega
    |succ d Gi=>
     intro ae _;have aX:=h.asc j ((st.getD j 0).toNat+(s+(d+1))) (by omega) (by omega) (by omega);rw[show(st.getD j 0).toNat+(s+(d+1))-1=(st.getD j 0).toNat+(s+d) by omega] at aX;rcases rk d with g|g
     ·subst g;exact aX
     ·have:=Gi (by omega) g;omega
   have:=step (t-s) (by omega) (by omega);rwa[show s+(t-s)=t by omega] at this
  ·intro a aG b aa;obtain⟨c,hc,aG⟩:=GX.1 aG;obtain⟨t,af,rfl⟩:=AC.1 aG;obtain⟨t2,kA,rfl⟩:=AC.1 aa;exact .inl (by show(c:Int)<(j:Int);omega)
theorem arC (a b:Int):I6 ([a,b],())=some (if a≠0 then a else b,()):=by
 unfold I6;refine U.eq_iff.1 ?_;dsimp only;refine U.bP (P:=fun q=>match q with|.inl _=>a=0/\b=0|.inr r=>r=(if a≠0 then a else b,())) ?_ ?_
 ·refine U.steps 2 (fun i s=>s=((i:Int),())/\(1<=i->a=0)/\(2<=i->b=0)) ⟨rfl,fun h=>by omega,fun h=>by omega⟩ ?_ ?_
  ·rintro i _ hi ⟨rfl,J,R⟩;rcases(show i=0\/i=1 by omega) with rfl|rfl
   ·show U (bif a !=0 then _ else _) _;rw[ew];by_cases g:a=0
    ·rw[bc g];exact U.au.2 ⟨rfl,fun _=>g,fun h=>by omega⟩
    ·rw[a5 g];refine U.au.2 ?_;rw[if_pos g]
   ·show U (bif b !=0 then _ else _) _;have aG:=J (by decide);rw[ew];by_cases g:b=0
    ·rw[bc g];exact U.au.2 ⟨rfl,fun _=>aG,fun _=>g⟩
    ·rw[a5 g];refine U.au.2 ?_;rw[if_neg (by simpa using aG)]
  ·rintro _ ⟨rfl,J,R⟩;exact U.au.2 ⟨J (by decide),R (by decide)⟩
 ·rintro(q|q) ai
  ·obtain⟨rfl,rfl⟩:a=0/\b=0:=ai;exact U.au.2 rfl
  ·have ai:q=_:=ai;rw[ai];exact U.au.2 rfl
theorem aiC {a b:cr} (h:g5 a b):JI (b,a,())=some (1,()):=by
 unfold JI;refine aP (N7 _ _) (aP (N7 _ _) (aP (arC _ _) ?_));dsimp only;congr 2;unfold fm;rcases h with h|⟨J,R⟩
 ·rw[if_neg (show¬b.2.1<a.2.1 by omega),if_pos h];rfl
 ·rw[if_neg (show¬b.2.1<a.2.1 by omega),if_neg (show¬a.2.1<b.2.1 by omega),if_neg (by simp),if_neg (show¬b.1<a.1 by omega),if_pos R]
theorem amU {l:List cr} (ah:l.length<=1000) (hs:l.Pairwise g5) {lo hi:Nat} (J:lo<=hi) (R:hi<=l.length):ET (l,(lo:Int),(hi:Int),(),())=some (l,()):=by
 unfold ET;refine U.eq_iff.1 ?_;dsimp only;refine U.bP (P:=fun r=>r=(l,())) ?_ (by rintro _ rfl;exact U.au.2 rfl);refine U.steps (hi-lo-1) (fun i s=>s=(((lo+1+i:Nat):Int),l,())) (by rw[cY (by omega)]) ?_ ?_
 ·rintro i _ j4 rfl;dsimp only;rw[dh (bc (show((lo+1+i:Nat):Int)<(hi:Int) by omega))];refine U.bP (P:=fun r=>r=(l,())) ?_ (by rintro _ rfl;refine U.au.2 ?_;dsimp only;rw[cY (by omega)];rfl);refine U.steps 0 (fun _ s=>s=(((lo+1+i:Nat):Int),l,())) rfl (fun i s hi=>by omega) ?_;rintro _ rfl;dsimp only;refine U.bs (y:=.inr (.inr (l,()))) ?_ (U.au.2 rfl);rw[bc (show((lo+1+i:Nat):Int)>(lo:Int) by omega)];have aC:aY (((lo+1+i:Nat):Int)-1)=((lo+i:Nat):Int):=(by rw[cp (by omega) (by omega)];omega);rw[beq_self_eq_true,cond_true,qU (by omega),aC,qU (by omega)];have alW:g5 l[lo+i] l[lo+1+i]:=List.pairwise_iff_getElem.1 hs _ _ (by omega) (by omega) (by omega);exact aP (aiC alW) rfl
 ·rintro _ rfl;dsimp only;rw[df (a5 (show¬((lo+1+(hi-lo-1):Nat):Int)<(hi:Int) by omega))];exact U.au.2 rfl
theorem atX {l:List cr} (ah:l.length<=19) (hs:l.Pairwise g5):JH (l,())=some (l,()):=by
 unfold JH;refine aP (y:=(l,())) ?_ ?_
 ·unfold Og;have e:((dA (([]:List cr).length+l.length)).bind fun _=>some (([]++l:List cr),()))=some (l,()):=by
   rw[fD (by simp;omega)];rfl
  show qP l.length (some ([],())) ((dA (([]:List cr).length+l.length)).bind fun _=>some (([]++l:List cr),()))=_;unfold qP;rw[e];split
  ·rename_i h;obtain rfl:=pb h;rw[if_pos rfl]
  ·rfl
 refine aP (y:=(l,())) ?_ rfl;unfold Ok;refine aP (y:=(l,())) ?_ rfl;unfold Ol;refine U.eq_iff.1 ?_;dsimp only;refine U.bP (P:=fun r=>r=(0,l,())) ?_ ?_
 ·refine U.steps 0 (fun _ s=>s=(0,20,l,())) rfl (fun i s hi=>by omega) ?_;rintro _ rfl;dsimp only;rw[df (a5 (show¬((20:Int)<=aW l) by simp only[bQ];omega))];exact U.au.2 rfl
 rintro _ rfl;refine U.bs (amU (lo:=0) (by omega) hs (Nat.zero_le _) (Nat.le_refl _)) ?_;refine U.bP (P:=fun r=>r=(l,())) ?_ (by rintro _ rfl;exact U.au.2 rfl);refine U.steps 0 (fun _ s=>s=(20,l,())) rfl (fun i s hi=>by omega) ?_;rintro _ rfl;dsimp only;rw[df (a5 (show¬((20:Int)<aW l) by simp only[bQ];omega))];exact U.au.2 rfl
def jV (E:List cr) (c:Int):Nat:=(E.filter fun x=>decide (x.2.1=c)).length
def f9 (E:List cr) (j:Int):Nat:=(E.filter fun x=>decide (x.2.1<j)).length
def vA (rows cols:Nat) (E:List cr):cR:=((rows:Int),(cols:Int),bA (cols+1) (fun j=>(f9 E (j:Int):Int)),E.map (fun x=>x.1),E.map (fun x=>x.2.2.1),())
theorem N1 (E:List cr) (j:Int):f9 E (j+1)=f9 E j+jV E j:=by
 unfold f9 jV
 induction E with
 |nil=>rfl
 |cons x E aT=>
  simp only[mA];rcases Int.lt_trichotomy x.2.1 j with g|g|g
  ·rw[if_pos (by simpa using(by omega:x.2.1<j+1)),if_pos (by simpa using g),if_neg (by simpa using(by omega:¬x.2.1=j))];simp only[kc];omega
  ·rw[if_pos (by simpa using(by omega:x.2.1<j+1)),if_neg (by simpa using(by omega:¬x.2.1<j)),if_pos (by simpa using g)];simp only[kc];omega
  ·rw[if_neg (by simpa using(by omega:¬x.2.1<j+1)),if_neg (by simpa using(by omega:¬x.2.1<j)),if_neg (by simpa using(by omega:¬x.2.1=j))];omega
def mw (rows cols:Nat) (E:List cr):Prop:=∀x∈E,0<=x.1/\x.1<(rows:Int)/\0<=x.2.1/\x.2.1<(cols:Int)
theorem Vb (E:List cr) (x:cr) (c:Int):jV (E++[x]) c=jV E c+if x.2.1=c then 1 else 0:=by
 unfold jV;rw[qg,qi];congr 1;by_cases g:x.2.1=c
 ·rw[if_pos g,Ik (by simpa using g)];rfl
 ·rw[if_neg g,D8 (by simpa using g)];rfl
theorem ag1 {rows cols:Nat} {E:List cr} (hr:rows<=200) (hc:cols<=200) (ah:E.length<=19) (hs:E.Pairwise g5) (hi:mw rows cols E):JF ((rows:Int),(cols:Int),E,())=some (vA rows cols E,()):=by
 unfold JF;refine U.eq_iff.1 ?_;dsimp only;rw[cY (by omega)];refine U.bs (lE (by omega)) (U.bs (atX ah hs) ?_);dsimp only;refine U.bP (P:=fun r=>r=(((0:Int),((0:Int),([],([],([],()))))),((rows:Int),(cols:Int),bA (cols+1) (fun j=>if j=0 then(0:Int) else(jV E ((j:Int)-1):Int)),E.map (fun x=>x.1),E.map (fun x=>x.2.2.1),()),())) ?_ ?_
 ·refine U.steps E.length (fun i s=>s=((i:Int),((0:Int),((0:Int),([],([],([],()))))),((rows:Int),(cols:Int),bA (cols+1) (fun j=>if j=0 then(0:Int) else(jV (E.take i) ((j:Int)-1):Int)),(E.take i).map (fun x=>x.1),(E.take i).map (fun x=>x.2.2.1),()),E,())) ?_ ?_ ?_
  ·have aU:(bA (cols+1) fun _=>(0:Int))=bA (cols+1) fun j=>if j=0 then(0:Int) else(jV (E.take 0) ((j:Int)-1):Int):=gB fun j al=>by split<;>rfl
   rw[px,aU];rfl
  ·rintro i _ j4 rfl;have ab:=hi E[i] (List.getElem_mem j4);obtain⟨c,K3⟩:=Int.eq_ofNat_of_zero_le ab.2.2.1;dsimp only;rw[dh (bc (show(i:Int)<aW E by simp only[bQ];omega)),qU j4];have aC:bR E[i].2.1=((c+1:Nat):Int):=(by rw[K3,cY (by omega)]);have af:E.take (i+1)=E.take i++[E[i]]:=(by rw[List.take_add_one,List.getElem?_eq_getElem j4];rfl);rw[fD (by simp;omega),Option.bind_some,fD (by simp;omega),Option.bind_some,aC];refine U.bs (iR (by rw[d0];omega)) (U.bs (kj (by omega)) (U.bs (iR (by rw[d0];omega)) ?_));rw[kj (by omega)];refine U.au.2 ?_;have pL:(bA (cols+1) (fun j=>if j=0 then(0:Int) else(jV (E.take i) ((j:Int)-1):Int))).set (c+1) (bR (if c+1=0 then(0:Int) else(jV (E.take i) (((c+1:Nat):Int)-1):Int)))=bA (cols+1) (fun j=>if j=0 then(0:Int) else(jV (E.take (i+1)) ((j:Int)-1):Int)):=by
    rw[ls];refine gB fun j al=>?_;have mP:∀k,jV (E.take i) k<=19:=fun k=>eu (kM _ _) (by rw[fl];omega);by_cases g:j=c+1
    ·subst g;rw[p6,if_neg (by omega),if_neg (by omega),cY (by have:=mP (((c+1:Nat):Int)-1);omega),af,Vb,if_pos (by omega)]
    ·rw[p5 _ _ g];by_cases qw:j=0
     ·rw[if_pos qw,if_pos qw]
     ·rw[if_neg qw,if_neg qw,af,Vb,if_neg (by omega),pg]
   dsimp only[Option.map_some];rw[cY (by omega),pL,af,List.map_append,List.map_append];rfl
  ·rintro _ rfl;dsimp only;rw[df (a5 (show¬((E.length:Int)<aW E) by simp only[bQ];omega)),List.take_of_length_le (Nat.le_refl _)];exact U.au.2 rfl
 ·rintro _ rfl;dsimp only;refine U.bP (P:=fun r=>r=(((0:Int),((0:Int),([],([],([],()))))),vA rows cols E,())) ?_ (by rintro _ rfl;exact U.au.2 rfl);have Pz:∀k,f9 E k<=19:=fun k=>Nat.le_trans (List.length_filter_le _ _) ah;have mP:∀k,jV E k<=19:=fun k=>Nat.le_trans (List.length_filter_le _ _) ah;have n7:f9 E 0=0:=by
   unfold f9;rw[List.filter_eq_nil_iff.2]
   ·rfl
   ·intro x ab;have:=hi x ab;simpa using this.2.2.1
  refine U.steps cols (fun i s=>s=((i:Int),((0:Int),((0:Int),([],([],([],()))))),((rows:Int),(cols:Int),bA (cols+1) (fun j=>if j<=i then(f9 E (j:Int):Int) else(jV E ((j:Int)-1):Int)),E.map (fun x=>x.1),E.map (fun x=>x.2.2.1),()),())) ?_ ?_ ?_
  ·have aU:(bA (cols+1) fun j=>if j=0 then(0:Int) else(jV E ((j:Int)-1):Int))=bA (cols+1) (fun j=>if j<=0 then(f9 E (j:Int):Int) else(jV E ((j:Int)-1):Int)):=gB fun j al=>by
    by_cases g:j=0
    ·subst g;rw[if_pos rfl,if_pos (bS _)];show(0:Int)=((f9 E 0:Nat):Int);rw[n7];rfl
    ·rw[if_neg g,if_neg (by omega)]
   rw[aU];rfl
  ·rintro i _ j4 rfl;dsimp only;rw[dh (bc (show(i:Int)<(cols:Int) by omega)),cY (by omega),qU (by rw[d0];omega),qU (by rw[d0];omega),l0,l0];refine U.bs (iR (by rw[d0];omega)) ?_;rw[kj (by omega)];refine U.au.2 ?_;have pL:(bA (cols+1) (fun j=>if j<=i then(f9 E (j:Int):Int) else(jV E ((j:Int)-1):Int))).set (i+1) (aY ((if i+1<=i then(f9 E ((i+1:Nat):Int):Int) else(jV E (((i+1:Nat):Int)-1):Int))+(if i<=i then(f9 E (i:Int):Int) else(jV E ((i:Int)-1):Int))))=bA (cols+1) (fun j=>if j<=i+1 then(f9 E (j:Int):Int) else(jV E ((j:Int)-1):Int)):=by
    rw[ls];refine gB fun j al=>?_;by_cases g:j=i+1
    ·subst g;have J:=N1 E (i:Int);have R:=mP (i:Int);have ae:=Pz (i:Int);rw[p6,if_neg (by omega),if_pos (bS _),if_pos (bS _),show(((i+1:Nat):Int)-1)=(i:Int) by omega,cp (by omega) (by omega),show((i+1:Nat):Int)=(i:Int)+1 by omega,J];omega
    ·rw[p5 _ _ g];by_cases qw:j<=i
     ·rw[if_pos qw,if_pos (by omega)]
     ·rw[if_neg qw,if_neg (by omega)]
   dsimp only[Option.map_some];rw[pL]
  ·rintro _ rfl;dsimp only;rw[df (a5 (show¬((cols:Int)<(cols:Int)) by omega))];have aU:bA (cols+1) (fun j=>if j<=cols then(f9 E (j:Int):Int) else(jV E ((j:Int)-1):Int))=bA (cols+1) (fun j=>(f9 E (j:Int):Int)):=gB fun j al=>(by rw[if_pos (by omega)]);rw[aU];exact U.au.2 rfl
def fM (j i:Int) (x:cr):Bool:=decide (x.2.1<j)||(decide (x.2.1=j)&&decide (x.1<i))
theorem UC {j i:Int} {a b:cr} (h:g5 a b) (aa:fM j i b=true):fM j i a=true:=by
 unfold fM at*;simp only[hJ,bM,decide_eq_true_eq] at*;rcases h with h|⟨J,R⟩
 ·omega
 ·omega
theorem VU {j i:Int}:∀{E:List cr},E.Pairwise g5->E.filter (fM j i)=E.take (E.filter (fM j i)).length
 |[],_=>rfl
 |x::E,h=>by
  obtain⟨J,R⟩:=ri.1 h;by_cases g:fM j i x=true
  ·rw[Ik g,kc,List.take_succ_cons];exact congrArg _ (VU R)
  ·have ae:E.filter (fM j i)=[]:=by
    refine List.filter_eq_nil_iff.2 fun y aB aa=>?_;exact g (UC (J y aB) aa)
   rw[D8 g,ae];rfl
theorem NN {rows cols:Nat} {E:List cr} (hi:mw rows cols E):E.filter (fM 0 0)=[]:=by refine List.filter_eq_nil_iff.2 fun x ab aa=>?_;have:=hi x ab;unfold fM at aa;simp only[hJ,bM,decide_eq_true_eq] at aa;omega
theorem agD {rows cols:Nat} {E:List cr} (hi:mw rows cols E) (j:Int):E.filter (fM j (rows:Int))=E.filter (fM (j+1) 0):=by refine D7 fun x ab=>?_;have:=hi x ab;unfold fM;rw[qb];simp only[hJ,bM,decide_eq_true_eq];omega
theorem IM {rows cols:Nat} {E:List cr} (hi:mw rows cols E) (j:Int):(E.filter (fM j 0)).length=f9 E j:=by unfold f9;congr 1;refine D7 fun x ab=>?_;have:=hi x ab;unfold fM;rw[qb];simp only[hJ,bM,decide_eq_true_eq];omega
theorem NO {j i:Int} {E:List cr} (hs:E.Pairwise g5) {k:Nat} (ac:k<E.length):fM j i E[k]=true↔k<(E.filter (fM j i)).length:=by
 constructor
 ·intro h;have fQ:∀x∈E.take (k+1),fM j i x=true:=by
   intro x ab;obtain⟨s,P9,rfl⟩:=List.mem_take_iff_getElem.1 ab;rcases ch s k with g|g
   ·exact UC (iX.1 hs s k (by omega) ac g) h
   ·obtain rfl:s=k:=(by omega);exact h
  have J:(E.take (k+1)).filter (fM j i)=E.take (k+1):=qh.2 fQ;have R:=(List.Sublist.filter (fM j i) (List.take_sublist (k+1) E)).length_le;rw[J,fl] at R;omega
 ·intro h;have J:=VU (j:=j) (i:=i) hs;have R:E[k]∈E.filter (fM j i):=by
   rw[J];exact List.mem_take_iff_getElem.2 ⟨k,by omega,rfl⟩
  exact(hX.1 R).2
theorem agE {j i:Int} {E:List cr} (hs:E.Pairwise g5):(∃h:(E.filter (fM j i)).length<E.length,E[(E.filter (fM j i)).length].1=i/\E[(E.filter (fM j i)).length].2.1=j/\(E.filter (fM j (i+1))).length=(E.filter (fM j i)).length+1)\/((∀t,(h:t<E.length)->¬(E[t].1=i/\E[t].2.1=j))/\(E.filter (fM j (i+1))).length=(E.filter (fM j i)).length):=by
 have key:∀x:cr,fM j (i+1) x=true↔fM j i x=true\/(x.1=i/\x.2.1=j):=fun x=>(by unfold fM;simp only[hJ,bM,decide_eq_true_eq];omega);have gd:∀x:cr,x.1=i/\x.2.1=j->¬fM j i x=true:=fun x ab h=>(by unfold fM at h;simp only[hJ,bM,decide_eq_true_eq] at h;omega);generalize ao:(E.filter (fM j i)).length=m;generalize mT:(E.filter (fM j (i+1))).length=fc;have c4:∀k,(ac:k<E.length)->(fM j i E[k]=true↔k<m):=fun k ac=>(by rw[<-ao];exact NO hs ac);have cd:∀k,(ac:k<E.length)->(fM j (i+1) E[k]=true↔k<fc):=fun k ac=>(by rw[<-mT];exact NO hs ac);have da:m<=E.length:=(by rw[<-ao];exact kM _ _);have l2:fc<=E.length:=(by rw[<-mT];exact kM _ _);by_cases oU:∃t,∃h:t<E.length,E[t].1=i/\E[t].2.1=j
 ·obtain⟨t,af,ab⟩:=oU;have cJ:¬t<m:=fun h=>gd _ ab ((c4 t af).2 h);have cz:t<fc:=(cd t af).1 ((key _).2 (.inr ab));have cX:∀k,(ac:k<E.length)->m<=k->k<fc->k=t:=fun k ac ae aI=>by
   have aX:=(key _).1 ((cd k ac).2 aI);have bI:E[k].1=i/\E[k].2.1=j:=aX.resolve_left fun h=>(by have:=(c4 k ac).1 h;omega);rcases rl k t with g|g|g
   ·have:=iX.1 hs k t ac af g;rcases this with h|⟨h,a2⟩<;>omega
   ·exact g
   ·have:=iX.1 hs t k af ac g;rcases this with h|⟨h,a2⟩<;>omega
  have alK:m=t:=cX m (by omega) (bS _) (by omega);subst alK;refine .inl ⟨af,ab.1,ab.2,?_⟩;rcases ch (m+1) fc with g|g
  ·have:=cX (m+1) (by omega) (by omega) g;omega
  ·omega
 ·refine .inr ⟨fun t af ab=>oU ⟨t,af,ab⟩,?_⟩;have e:∀k,k<E.length->(k<fc↔k<m):=fun k ac=>by
   rw[<-c4 k ac,<-cd k ac,key];exact⟨fun h=>h.resolve_right fun ab=>oU ⟨k,ac,ab⟩,.inl⟩
  rcases rl fc m with g|g|g
  ·have:=(e fc (by omega)).2 g;omega
  ·exact g
  ·have:=(e m (by omega)).1 g;omega
def qT (rows:Nat) (x:cr):Nat:=x.2.1.toNat*rows+x.1.toNat
theorem asa {rows cols:Nat} {E:List cr} (hi:mw rows cols E) {x:cr} (ab:x∈E):qT rows x<rows*cols:=by have h:=hi x ab;unfold qT;have J:(x.2.1.toNat+1)*rows<=cols*rows:=jT _ (by omega);rw[iJ,kP] at J;rw[oI rows cols];omega
theorem ar9 {rows:Nat} {a b:Int×Int} (aG:0<=a.1/\a.1<(rows:Int)/\0<=a.2) (aa:0<=b.1/\b.1<(rows:Int)/\0<=b.2) (h:a.2.toNat*rows+a.1.toNat=b.2.toNat*rows+b.1.toNat):a.1=b.1/\a.2=b.2:=by have J:(a.2.toNat*rows+a.1.toNat)/rows=a.2.toNat:=(by rw[oI,Nat.mul_add_div (by omega),Nat.div_eq_of_lt (by omega),pg]);have R:(b.2.toNat*rows+b.1.toNat)/rows=b.2.toNat:=(by rw[oI,Nat.mul_add_div (by omega),Nat.div_eq_of_lt (by omega),pg]);rw[h,R] at J;rw[J] at h;omega
def qt (rows:Nat) (E:List cr):Nat->Nat->Int
 |0,_=>0
 |i+1,p=>if p=qT rows (E.getD i (0,0,0,())) then((i+1:Nat):Int) else qt rows E i p
theorem UV (rows:Nat) (E:List cr) (p:Nat):∀i,(qt rows E i p=0/\∀k,k<i->qT rows (E.getD k (0,0,0,()))≠p)\/∃k,k<i/\qT rows (E.getD k (0,0,0,()))=p/\qt rows E i p=((k+1:Nat):Int)
 |0=>.inl ⟨rfl,fun k h=>absurd h (by omega)⟩
 |i+1=>by
  unfold qt;by_cases g:p=qT rows (E.getD i (0,0,0,()))
  ·exact .inr ⟨i,by omega,g.symm,if_pos g⟩
  ·rw[if_neg g];rcases UV rows E p i with⟨J,R⟩|⟨k,J,R,ae⟩
   ·refine .inl ⟨J,fun k ac=>?_⟩;rcases ch k i with h|h
    ·exact R k h
    ·obtain rfl:k=i:=(by omega);exact fun h=>g h.symm
   ·exact .inr ⟨k,by omega,R,ae⟩
theorem ahh (rows:Nat) (E:List cr) (i:Nat):fZ (qt rows E i) (qT rows (E.getD i (0,0,0,()))) ((i+1:Nat):Int)=qt rows E (i+1):=by funext p;unfold fZ;rw[qt]
theorem aal {rows a c:Nat} (hr:rows<=200) (hc:c<=200) (aG:a<=200):aY (aY ((c:Int)*(rows:Int))+(a:Int))=((c*rows+a:Nat):Int):=by have h:c*rows<=200*200:=oJ hc hr;have e:(c:Int)*(rows:Int)=((c*rows:Nat):Int):=(by rw[qe]);rw[e,HT (by omega),<-Int.natCast_add,HT (by omega)]
theorem O9 {E:List cr} {i:Nat} (h:i<E.length):E.getD i (0,0,0,())=E[i]:=by rw[lc,ct h];rfl
def kp (E:List cr) (j i:Int):Nat:=(E.filter (fM j i)).length
theorem aaj (E:List cr) (j i:Int):kp E j i<=E.length:=kM _ _
def sk (rows cols:Nat) (E:List cr) (j:Nat) (k:Nat):cR:=((rows:Int),(cols:Int),bA (j+1) (fun j=>(f9 E (j:Int):Int)),(E.take k).map (fun x=>x.1),(E.take k).map (fun x=>x.2.2.1),())
theorem arV {rows cols:Nat} {E:List cr} (hr:rows<=200) (hc:cols<=200) (ah:E.length<=10000) (hs:E.Pairwise g5) (hi:mw rows cols E):Kc ((rows:Int),(cols:Int),E,())=some (vA rows cols E,()):=by
 unfold Kc;refine U.eq_iff.1 ?_;dsimp only;have Xo:rows*cols<=200*200:=Nat.mul_le_mul hr hc;have ep:aY ((rows:Int)*(cols:Int))=((rows*cols:Nat):Int):=(by rw[<-Int.natCast_mul,HT (by omega)]);rw[ep];refine U.bs (lE (by omega)) ?_;have jU:f9 E 0=0:=(by rw[<-IM hi,NN hi];rfl);refine U.bP (P:=fun r=>r=(((0:Int),((0:Int),([],([],([],()))))),sk rows cols E 0 0,bA (rows*cols) (qt rows E E.length),())) ?_ ?_
 ·refine U.steps E.length (fun i s=>s=((i:Int),((0:Int),((0:Int),([],([],([],()))))),sk rows cols E 0 0,bA (rows*cols) (qt rows E i),())) ?_ ?_ ?_
  ·have:sk rows cols E 0 0=((rows:Int),((cols:Int),([0],(([]:bO),(([]:bO),()))))):=by
    unfold sk;rw[zL,VR];show(_,_,[((f9 E 0:Nat):Int)],_)=_;rw[jU];rfl
   rw[px,this];rfl
  ·rintro i _ j4 rfl;have ab:=hi E[i] (List.getElem_mem j4);obtain⟨a,aG⟩:=Int.eq_ofNat_of_zero_le ab.1;obtain⟨c,K3⟩:=Int.eq_ofNat_of_zero_le ab.2.2.1;dsimp only;rw[dh (bc (show(i:Int)<aW E by simp only[bQ];omega))];refine U.bs (dO j4) (U.bs (dO j4) ?_);have ay:aY (aY (E[i].2.1*(rows:Int))+E[i].1)=((qT rows E[i]:Nat):Int):=by
    unfold qT;rw[aG,K3,aal hr (by omega) (by omega),d4,d4]
   have cg:=asa hi (dt j4);rw[ay,sC (by rw[d0];exact cg),ls,cY (by omega),<-O9 j4,ahh];exact U.au.2 rfl
  ·rintro _ rfl;dsimp only;rw[df (a5 (show¬((E.length:Int)<aW E) by simp only[bQ];omega))];exact U.au.2 rfl
 ·rintro _ rfl;dsimp only;refine U.bP (P:=fun r=>r=(((0:Int),((0:Int),([],([],([],()))))),vA rows cols E,())) ?_ (by rintro _ rfl;exact U.au.2 rfl);refine U.steps cols (fun j s=>s=((j:Int),((0:Int),((0:Int),([],([],([],()))))),sk rows cols E j (kp E (j:Int) 0),bA (rows*cols) (qt rows E E.length),())) ?_ ?_ ?_
  ·have:kp E ((0:Nat):Int) 0=0:=by
    unfold kp;rw[show((0:Nat):Int)=0 from rfl,NN hi];rfl
   rw[this];rfl
  ·rintro j _ al rfl;dsimp only;rw[dh (bc (show(j:Int)<(cols:Int) by omega))];refine U.bP (P:=fun r=>r=(((0:Int),((0:Int),([],([],([],()))))),sk rows cols E j (kp E (j:Int) (rows:Int)),bA (rows*cols) (qt rows E E.length),())) ?_ ?_
   ·refine U.steps rows (fun i s=>s=((i:Int),((0:Int),((0:Int),([],([],([],()))))),sk rows cols E j (kp E (j:Int) (i:Int)),bA (rows*cols) (qt rows E E.length),())) rfl ?_ ?_
    ·rintro i _ j4 rfl;dsimp only;rw[dh (bc (show(i:Int)<(rows:Int) by omega)),aal hr (by omega) (by omega)];have ay:j*rows+i<rows*cols:=by
      have J:(j+1)*rows<=cols*rows:=jT _ al;rw[iJ,kP] at J;rw[oI rows cols];omega
     rw[qU (by rw[d0];exact ay),l0];have Xj:=aaj E (j:Int) (i:Int);have nB:=agE (j:=(j:Int)) (i:=(i:Int)) hs;change(∃h:kp E (j:Int) (i:Int)<E.length,E[kp E (j:Int) (i:Int)].1=(i:Int)/\E[kp E (j:Int) (i:Int)].2.1=(j:Int)/\kp E (j:Int) ((i:Int)+1)=kp E (j:Int) (i:Int)+1)\/((∀t,(h:t<E.length)->¬(E[t].1=(i:Int)/\E[t].2.1=(j:Int)))/\kp E (j:Int) ((i:Int)+1)=kp E (j:Int) (i:Int)) at nB;rw[show(i:Int)+1=((i+1:Nat):Int) from by omega] at nB;generalize kp E (j:Int) (i:Int)=m at*;rw[cY (by omega)];have ac:∀k,(h:k<E.length)->qT rows E[k]=j*rows+i->E[k].1=(i:Int)/\E[k].2.1=(j:Int):=(by intro k h alY;have ab:=hi E[k] (List.getElem_mem h);exact ar9 (rows:=rows) (a:=(E[k].1,E[k].2.1)) (b:=((i:Int),(j:Int))) ⟨ab.1,ab.2.1,ab.2.2.1⟩ ⟨by omega,by dsimp only;omega,by dsimp only;omega⟩ (by simpa[qT] using alY));rcases UV rows E (j*rows+i) E.length with⟨Bi,yy⟩|⟨k,bu,bE,cl⟩
     ·rw[Bi];rcases nB with⟨J,R,ae,aI⟩|⟨J,R⟩
      ·refine absurd ?_ (yy m J);rw[O9 J];unfold qT;rw[R,ae,d4,d4]
      ·rw[df (a5 (by omega))];refine U.bs rfl ?_;rw[R];exact U.au.2 rfl
     ·rw[cl];rw[O9 bu] at bE;obtain⟨aK,aL⟩:=ac k bu bE;rcases nB with⟨J,R,ae,aI⟩|⟨J,R⟩
      ·have alv:k=m:=by
        rcases rl k m with g|g|g
        ·have:=iX.1 hs k m bu J g;unfold g5 at this;omega
        ·exact g
        ·have:=iX.1 hs m k J bu g;unfold g5 at this;omega
       subst alv;rw[dh (bc (by omega)),show((k+1:Nat):Int)-1=(k:Int) by omega,HT (by omega)];unfold sk;dsimp only;rw[fD (by simp;omega),Option.bind_some];have af:E.take (k+1)=E.take k++[E[k]]:=(by rw[List.take_add_one,List.getElem?_eq_getElem bu];rfl);rw[dO bu,Option.bind_some,fD (by simp;omega),Option.bind_some,Option.bind_some];rw[aI,af,List.map_append,List.map_append,<-R];exact U.au.2 rfl
      ·exact absurd ⟨aK,aL⟩ (J k bu)
    ·rintro _ rfl;dsimp only;rw[df (a5 (show¬((rows:Int)<(rows:Int)) by omega))];exact U.au.2 rfl
   ·rintro _ rfl;have Xj:=aaj E (j:Int) (rows:Int);have aC:kp E (j:Int) (rows:Int)=kp E ((j+1:Nat):Int) 0:=by
     unfold kp;rw[agD hi,show((j+1:Nat):Int)=(j:Int)+1 by omega]
    have aV:kp E ((j+1:Nat):Int) 0=f9 E ((j+1:Nat):Int):=IM hi _;rw[aC] at Xj|-;unfold sk;dsimp only;have alD:aW ((E.take (kp E ((j+1:Nat):Int) 0)).map fun x=>x.1)=(f9 E ((j+1:Nat):Int):Int):=(by rw[bQ,List.length_map,List.length_take,<-aV];omega);rw[fD (by rw[d0];simp;omega),Option.bind_some,alD,zL (j+1),cY (by omega)];exact U.au.2 rfl
  ·rintro _ rfl;dsimp only;rw[df (a5 (show¬((cols:Int)<(cols:Int)) by omega))];have aC:kp E (cols:Int) 0=E.length:=by
    unfold kp;rw[qh.2];intro x ab;have:=hi x ab;unfold fM;simp only[hJ,bM,decide_eq_true_eq];omega
   have:sk rows cols E cols (kp E (cols:Int) 0)=vA rows cols E:=(by unfold sk vA;rw[aC,eC (bS _)]);rw[this];exact U.au.2 rfl
theorem BO {rows cols:Nat} {E:List cr} (hs:E.Pairwise g5) (hi:mw rows cols E) {k:Nat} (ac:k<E.length) (j:Int):E[k].2.1<j↔k<f9 E j:=by have h:=NO (j:=j) (i:=0) hs ac;rw[IM hi] at h;rw[<-h];have:=hi E[k] (dt ac);unfold fM;simp only[hJ,bM,decide_eq_true_eq];omega
theorem U6 {rows cols:Nat} {E:List cr} (hi:mw rows cols E):f9 E 0=0:=by rw[<-IM hi,NN hi];rfl
theorem U5 {rows cols:Nat} {E:List cr} (hi:mw rows cols E):f9 E (cols:Int)=E.length:=by unfold f9;rw[qh.2];intro x ab;have:=hi x ab;simpa using this.2.2.2
theorem ajt {n:Nat} {f:Nat->Int} {i:Nat} (h:i<n):(bA n f).getD i 0=f i:=by rw[lc,Ck h];rfl
theorem KS {E:List cr} {k:Nat} (h:k<E.length):(E.map fun x=>x.1).getD k 0=E[k].1:=by rw[lc,f5,ct h];rfl
theorem Wc {E:List cr} {k:Nat} (h:k<E.length):(E.map fun x=>x.2.2.1).getD k 0=E[k].2.2.1:=by rw[lc,f5,ct h];rfl
def A7 (cols:Nat) (E:List cr):List Int:=bA (cols+1) (fun j=>(f9 E (j:Int):Int))
theorem yk {cols:Nat} {E:List cr} {j:Nat} (h:j<=cols):(A7 cols E).getD j 0=(f9 E (j:Int):Int):=ajt (by omega)
theorem N0 (E:List cr) (j:Int):f9 E j<=E.length:=kM _ _
theorem auc {rows cols:Nat} {E:List cr} (hs:E.Pairwise g5) (hi:mw rows cols E):e1 rows cols (A7 cols E) (E.map fun x=>x.1) (E.map fun x=>x.2.2.1) where
 len:=d0 _ _
 first:=by rw[yk (eL _)];show((f9 E 0:Nat):Int)=0;rw[U6 hi];rfl
 mono:=fun j al=>by rw[yk (by omega),yk (by omega),show((j+1:Nat):Int)=(j:Int)+1 from by omega,N1];omega
 last:=by rw[yk (bS _),U5 hi,iI]
 val:=by simp
 rng:=fun j k al J R=>by rw[yk (by omega)] at J R;have ac:k<E.length:=(by have:=N0 E ((j+1:Nat):Int);omega);rw[KS ac];have:=hi E[k] (dt ac);exact⟨this.1,this.2.1⟩
 asc:=fun j k al J R=>by rw[yk (by omega)] at J R;have ac:k<E.length:=(by have:=N0 E ((j+1:Nat):Int);omega);rw[KS ac,KS (by omega)];have cq:=BO hs hi ac (j:Int);have dv:=BO hs hi ac ((j+1:Nat):Int);have a3:=BO hs hi (show k-1<E.length by omega) (j:Int);have a4:=BO hs hi (show k-1<E.length by omega) ((j+1:Nat):Int);have:=iX.1 hs (k-1) k (by omega) ac (by omega);unfold g5 at this;omega
theorem abo {rows cols:Nat} {E:List cr} (hr:rows<=200) (hc:cols<=200) (ah:E.length<=10000) (hw:∀x∈E,eD x.2.2.1):ku rows cols (A7 cols E) (E.map fun x=>x.1) (E.map fun x=>x.2.2.1) where
 hr:=hr
 hc:=hc
 hi:=by simp;omega
 hs:=by unfold A7;rw[d0];omega
 hv:=by simp;omega
 hw:=fun v hv=>by obtain⟨x,ab,rfl⟩:=dj.1 hv;exact hw x ab
theorem OI (aA aJ:List Int) (j:Int) (lo n:Nat):jt aA aJ j lo n=bA n fun t=>(aA.getD (lo+t) 0,j,aJ.getD (lo+t) 0,()):=by
 induction n with
 |zero=>rfl
 |succ n aT=>rw[jt,aT,zL]
theorem aiM {rows cols:Nat} {E:List cr} (hs:E.Pairwise g5) (hi:mw rows cols E):∀j,j<=cols->di (A7 cols E) (E.map fun x=>x.1) (E.map fun x=>x.2.2.1) j=E.take (f9 E (j:Int)):=by
 intro j
 induction j with
 |zero=>
  intro _;show[]=E.take (f9 E 0);rw[U6 hi];rfl
 |succ j aT=>
  intro al;rw[di,aT (by omega),yk (by omega),yk (by omega),OI,d4,d4];have J:f9 E ((j+1:Nat):Int)=f9 E (j:Int)+jV E (j:Int):=(by rw[show((j+1:Nat):Int)=(j:Int)+1 from by omega,N1]);have fb:=N0 E ((j+1:Nat):Int);have a:∀k,(ac:k<E.length)->f9 E (j:Int)<=k->k<f9 E ((j+1:Nat):Int)->E[k].2.1=(j:Int):=fun k ac bT bz=>(by have cq:=BO hs hi ac (j:Int);have dv:=BO hs hi ac ((j+1:Nat):Int);omega);rw[J] at a fb|-;generalize f9 E (j:Int)=c at*;generalize jV E (j:Int)=d at*;rw[sO,List.take_add];congr 1;have dR:((E.drop c).take d).length=d:=(by rw[fl,pe];omega);refine List.ext_getElem (by rw[d0,dR]) fun t bT bz=>?_;rw[d0] at bT;rw[l0,KS (by omega),Wc (by omega),D9,List.getElem_drop,<-a (c+t) (by omega) (by omega) (by omega)]
theorem VK {rows cols:Nat} {E:List cr} (hs:E.Pairwise g5) (hi:mw rows cols E):di (A7 cols E) (E.map fun x=>x.1) (E.map fun x=>x.2.2.1) cols=E:=by rw[aiM hs hi cols (bS _),U5 hi,eC (bS _)]
theorem ajD {E:List cr} (h:∀x∈E,dD x.2.2.1≠2047):ms (E.map fun x=>x.2.2.1):=by intro i hi;rw[iI] at hi;rw[Wc hi];exact h _ (dt hi)
theorem UZ {rows cols:Nat} {E:List cr} (hs:E.Pairwise g5) (hi:mw rows cols E) (h:∀x∈E,dD x.2.2.1≠2047):iM rows cols (A7 cols E) (E.map fun x=>x.1) (E.map fun x=>x.2.2.1)=0:=
 nX.2 ⟨auc hs hi,ajD h⟩
theorem zG {rows cols:Nat} {st aA aJ:List Int} (h:e1 rows cols st aA aJ):mw rows cols (di st aA aJ cols):=by intro x ab;obtain⟨c,hc,ab⟩:=GX.1 ab;obtain⟨t,af,rfl⟩:=AC.1 ab;have tJ:=h.pos c (by omega);have g2:=h.pos (c+1) (by omega);have:=h.rng c ((st.getD c 0).toNat+t) hc (by omega) (by omega);exact⟨this.1,this.2,by dsimp only;omega,by dsimp only;omega⟩
theorem Cj {rows cols:Nat} {st aA aJ:List Int} (h:e1 rows cols st aA aJ) {P:Int->Prop} (ay:∀v∈aJ,P v):∀x∈di st aA aJ cols,P x.2.2.1:=by intro x ab;obtain⟨c,hc,ab⟩:=GX.1 ab;obtain⟨t,af,rfl⟩:=AC.1 ab;have tJ:=h.pos c (by omega);have g2:=h.pos (c+1) (by omega);have da:=h.tD (c+1) (by omega);have l2:=h.val;dsimp only;rw[mN (show(st.getD c 0).toNat+t<aJ.length by omega)];exact ay _ (List.getElem_mem _)
theorem VY {aJ:List Int} (h:ms aJ):∀v∈aJ,dD v≠2047:=by intro v hv;obtain⟨i,hi,rfl⟩:=jk.1 hv;have:=h i hi;rwa[mN hi] at this
def xO (x:cr):Bool:=decide (x.1>=x.2.1)
def hE (E:List cr):List cr:=E.filter xO
theorem xQ {E:List cr} (h:E.Pairwise g5):(hE E).Pairwise g5:=List.Pairwise.sublist List.filter_sublist h
theorem xP {rows cols:Nat} {E:List cr} (h:mw rows cols E):mw rows cols (hE E):=fun x ab=>h x (hX.1 ab).1
theorem LU {E:List cr}:∀x∈hE E,x.2.1<=x.1:=fun x ab=>by have:=(hX.1 ab).2;unfold xO at this;simpa using this
theorem SY {α:Type} {p:α->Bool} {E:List α} {i:Nat} (h:i<E.length):(E.take (i+1)).filter p=(E.take i).filter p++(if p E[i]=true then[E[i]] else[]):=by
 rw[nR,ct h,qg];congr 1;show[E[i]].filter p=_;by_cases g:p E[i]=true
 ·rw[if_pos g,Ik g];rfl
 ·rw[if_neg g,D8 g];rfl
theorem Zd:∀(l:List Nat) (N:Nat),l.Pairwise (· < ·)->(∀x∈l,x<N)->l.length<=N
 |[],_,_,_=>eL _
 |x::l,N,h,aa=>by
  obtain⟨J,R⟩:=ri.1 h;have ab:=aa x (by simp);have:=Zd (l.map fun y=>y-(x+1)) (N-(x+1)) (by
   rw[BC];refine List.Pairwise.imp_of_mem ?_ R;intro a b aG cM n6;have:=J a aG;omega) (by
   intro y aB;obtain⟨z,aZ,rfl⟩:=dj.1 aB;have:=J z aZ;have:=aa z (by simp[aZ]);omega)
  rw[iI] at this;rw[kc];omega
def Ru (j:Int):Int:=if j=0 then 0 else if j=1 then 4 else if j=2 then 7 else if j=3 then 9 else 10
theorem LV {n:Nat} (ag:n<=5) {E:List cr} (hs:E.Pairwise g5) (hi:mw n n E) (af:∀x∈E,x.2.1<=x.1):E.length<=15:=by
 have h:=Zd (E.map fun x=>(Ru x.2.1+x.1).toNat) 15 (by
  rw[BC];refine List.Pairwise.imp_of_mem ?_ hs;intro a b aG aa n6;have cq:=hi a aG;have dv:=hi b aa;have a3:=af a aG;have a4:=af b aa;unfold g5 at n6;unfold Ru;split<;>split<;>(try split)<;>(try split)<;>(try split)<;>(try split)<;>(try split)<;>(try split)<;>omega) (by
  intro y aB;obtain⟨z,aZ,rfl⟩:=dj.1 aB;have cq:=hi z aZ;have a3:=af z aZ;unfold Ru;split
  ·omega
  split
  ·omega
  split
  ·omega
  split<;>omega)
 rwa[iI] at h
theorem afO {n:Nat} {st aA aJ:List Int} (ag:n<=5) (ao:ku n n st aA aJ) (ac:iM n n st aA aJ=0):JE (((n:Int),(n:Int),st,aA,aJ,()),())=some (vA n n (hE (di st aA aJ n)),0,()):=by
 have bB:=(nX.1 ac).1;have hn:=zH bB n (Nat.le_refl _);have cK:=zG bB;have xu:=LV ag (xQ hn) (xP cK) LU;have dR:(di st aA aJ n).length<=10000:=(by rw[Fs bB n (Nat.le_refl _)];have:=bB.tD n (Nat.le_refl _);have:=ao.hi;omega);unfold JE;refine aP ao.check ?_;dsimp only;rw[ac,ew,bc rfl];refine aP (OJ bB ao.hc ao.hi) ?_;dsimp only;generalize di st aA aJ n=E at*;refine U.eq_iff.1 ?_;refine U.bP (P:=fun r=>r=(((0:Int),((0:Int),([],([],([],()))))),hE E,())) ?_ ?_
 ·refine U.steps E.length (fun i s=>s=((i:Int),((0:Int),((0:Int),([],([],([],()))))),hE (E.take i),E,())) rfl ?_ ?_
  ·rintro i _ hi rfl;dsimp only;rw[dh (bc (show(i:Int)<aW E by simp only[bQ];omega)),qU hi,cY (by omega)];have fb:(hE (E.take i)).length<=10000:=Nat.le_trans (List.length_filter_le _ _) (by rw[List.length_take];omega);unfold hE at*;rw[SY hi];by_cases g:xO E[i]=true
   ·have bz:=g;unfold xO at bz;rw[dh bz,if_pos g,fD (by simp only[kc,us];omega)];exact U.au.2 rfl
   ·have bz:=g;unfold xO at bz;rw[df (by simpa using bz),if_neg g,sK];exact U.au.2 rfl
  ·rintro _ rfl;dsimp only;rw[df (a5 (show¬((E.length:Int)<aW E) by simp only[bQ];omega)),List.take_of_length_le (Nat.le_refl _)];exact U.au.2 rfl
 ·rintro _ rfl;dsimp only;exact U.bs (ag1 ao.hr ao.hc (by omega) (xQ hn) (xP cK)) (U.au.2 rfl)
theorem asK {n:Nat} {st aA aJ:List Int} (ag:n<=5) (ao:ku n n st aA aJ) (ac:iM n n st aA aJ=0):Kb (((n:Int),(n:Int),st,aA,aJ,()),())=some (vA n n (hE (di st aA aJ n)),0,()):=by
 have bB:=(nX.1 ac).1;have hn:=zH bB n (Nat.le_refl _);have cK:=zG bB;have xu:=LV ag (xQ hn) (xP cK) LU;have dR:(di st aA aJ n).length<=10000:=(by rw[Fs bB n (Nat.le_refl _)];have:=bB.tD n (Nat.le_refl _);have:=ao.hi;omega);unfold Kb;refine aP ao.Hq ?_;dsimp only;rw[ac,ew,bc rfl];refine aP (aaC ao ac) ?_;dsimp only;generalize di st aA aJ n=E at*;refine U.eq_iff.1 ?_;refine U.bP (P:=fun r=>r=(((0:Int),((0:Int),([],([],([],()))))),hE E,())) ?_ ?_
 ·refine U.steps E.length (fun i s=>s=((i:Int),((0:Int),((0:Int),([],([],([],()))))),hE (E.take i),())) rfl ?_ ?_
  ·rintro i _ hi rfl;dsimp only;rw[dh (bc (show(i:Int)<aW E by simp only[bQ];omega)),dO hi,cY (by omega)];have fb:(hE (E.take i)).length<=10000:=Nat.le_trans (List.length_filter_le _ _) (by rw[List.length_take];omega);unfold hE at*;rw[SY hi];by_cases g:xO E[i]=true
   ·have bz:=g;unfold xO at bz;rw[br,br,dh bz,if_pos g,br,fD (by simp only[kc,us];omega)];exact U.au.2 rfl
   ·have bz:=g;unfold xO at bz;rw[br,br,df (by simpa using bz),if_neg g,sK];exact U.au.2 rfl
  ·rintro _ rfl;dsimp only;rw[df (a5 (show¬((E.length:Int)<aW E) by simp only[bQ];omega)),List.take_of_length_le (Nat.le_refl _)];exact U.au.2 rfl
 ·rintro _ rfl;dsimp only;exact U.bs (arV ao.hr ao.hc (by omega) (xQ hn) (xP cK)) (U.au.2 rfl)
def km (aj:List (List Int)) (l:List Int):List (List Bool):=(List.range l.length).map fun(i:Nat)=>(List.range l.length).map fun(j:Nat)=>decide (l.getD j 0∈aj.getD (l.getD i 0).toNat [])
theorem CU (aj:List (List Int)) (l:List Int):(km aj l).length=l.length:=by simp[km]
theorem IP {aj:List (List Int)} {l:List Int} {i j:Nat} (hi:i<l.length) (al:j<l.length):gA (km aj l) i j=decide (l.getD j 0∈aj.getD (l.getD i 0).toNat []):=by unfold gA km;simp[List.getD,hi,al]
theorem aun {aj:List (List Int)} {x y:Int} (ab:0<=x/\x<aj.length) (aB:0<=y/\y<aj.length):∃r,bb (q0 aj) x=some r/\bb r y=some (decide (y∈aj.getD x.toNat [])):=by
 have J:x.toNat<aj.length:=(by omega);have R:y.toNat<aj.length:=(by omega);refine⟨(List.range aj.length).map fun(w:Nat)=>decide ((w:Int)∈aj[x.toNat]),?_,?_⟩
 ·unfold bb;rw[if_pos ab.1,abz J]
 ·unfold bb;rw[if_pos aB.1,f5,ur R,List.getD,ct J];simp only[g6,wH,Int.toNat_of_nonneg aB.1]
theorem afK {aj:List (List Int)} {l:List Int} (c6:fK aj) (hc:∀l∈aj,l.length<4611686018427387904) (ag:aj.length<=200) (ah:∀x∈l,0<=x/\x<(aj.length:Int)) (aN:l.Nodup) (xu:l.length<=400):Kg ((aj,()),l,())=some ((kl (km aj l),()),0,()):=by
 classical
 rw[<-U.eq_iff];unfold Kg;have FN:jJ aj=0:=(by unfold jJ;rw[if_neg (by omega),if_pos c6]);have aC:decide (∀x∈l,0<=x/\x<(aj.length:Int))=true:=decide_eq_true ah;have aV:decide (¬l.Nodup)=false:=decide_eq_false (fun h=>h aN);simp only[Sp aj hc,FN,afU l _ (by omega),aC,af0 l (by omega),aV,TQ hc ag (fun v hv=>(c6.asc v hv).2),VD l.length (by omega),br,bne_self_eq_false,cond_false,lN];simp only[U.c8];refine U.mono (P:=fun q=>q.2.1=km aj l) ?_ ?_
 ·refine U.for (i0:=0) l.length (fun i t=>t.2.1=(List.range l.length).map fun(v:Nat)=>if v<i then(km aj l).getD v [] else List.replicate l.length false) rfl ?_ (eL _) ?_ ?_
  ·apply jj;intro k;simp[pc];split<;>simp_all
  ·rintro i ⟨s,out,_⟩ _ hi aH;simp only at aH;simp only[U.c7,U.c8];refine⟨fun _=>?_,fun aF=>by simp at aF;omega⟩;refine U.mono (P:=fun q=>q.2.1=(List.range l.length).map fun(v:Nat)=>if v<i+1 then(km aj l).getD v [] else List.replicate l.length false) ?_ (by rintro⟨s,o,_⟩ h;simp only[U.au];exact⟨gR (by omega),h⟩);refine U.for (i0:=0) l.length (fun j t=>t.2.1=out.set i ((List.range l.length).map fun(w:Nat)=>if w<j then gA (km aj l) i w else false)) rfl ?_ (eL _) ?_ ?_
   ·show out=_;apply jj;intro u;rw[wD];by_cases aQ:i=u
    ·subst aQ;rw[if_pos rfl,aH];simp[hi,List.map_const']
    ·rw[if_neg aQ]
   ·rintro j ⟨s',o,_⟩ _ al jx;simp only at jx;have amE:=ah _ (dt hi);have amF:=ah _ (dt al);obtain⟨r,lx,e2⟩:=aun amE amF;have F2:o.length=l.length:=(by rw[jx,aH];simp);have Lb:i<o.length:=(by omega);have oa:o[i]=(List.range l.length).map fun(w:Nat)=>if w<j then gA (km aj l) i w else false:=by
     have:o[i]?=some ((List.range l.length).map fun(w:Nat)=>if w<j then gA (km aj l) i w else false):=(by rw[jx,nP (by rw[aH];simpa using hi)]);rw[ct Lb] at this;exact ff this
    have alg:bb l (i:Int)=some l[i]:=l1 (ct hi);have K8:bb l (j:Int)=some l[j]:=l1 (ct al);simp only[U.c7,U.c8,U.tv,alg,K8,lx,e2,U.au,U.sW,U.GW,d4];refine⟨fun _=>⟨⟨by omega,Lb⟩,Lb,⟨by omega,by rw[oa];simpa using al⟩,Lb,by rw[oa];simpa using al,gR (by omega),?_⟩,fun aF=>by simp at aF;omega⟩;rw[oa,jx,List.set_set];congr 1;apply jj;intro u;rw[wD,f5,f5];rcases ch u l.length with h|h
    ·rw[ur h];simp only[g6,iI,yM];by_cases aQ:j=u
     ·subst aQ;have cJ:l.getD j 0=l[j]:=(by simp[List.getD,al]);have cz:l.getD i 0=l[i]:=(by simp[List.getD,hi]);rw[if_pos rfl,if_pos h,if_pos (by omega),IP hi al,cJ,cz]
     ·rw[if_neg aQ];by_cases R:u<j
      ·rw[if_pos R,if_pos (by omega)]
      ·rw[if_neg R,if_neg (by omega)]
    ·rw[if_neg (by omega),gy (by simpa using h)];rfl
   ·rintro⟨s',o,_⟩ jx;simp only at jx;simp only[U.c7,U.au];refine⟨fun aF=>by simp at aF,fun _=>?_⟩;rw[jx,aH];apply jj;intro u;rw[wD,f5,f5];rcases ch u l.length with h|h
    ·rw[ur h];simp only[g6,iI,yM];by_cases aQ:i=u
     ·subst aQ;rw[if_pos rfl,if_pos h,if_pos (by omega)];congr 1;have:(km aj l).getD i []=(List.range l.length).map fun(w:Nat)=>gA (km aj l) i w:=by
       have J:(km aj l).getD i []=(List.range l.length).map fun(j:Nat)=>decide (l.getD j 0∈aj.getD (l.getD i 0).toNat []):=(by simp[km,List.getD,hi]);rw[J];refine ke fun w hw=>?_;rw[IP hi (jl.1 hw)]
      rw[this];refine ke fun w hw=>?_;rw[if_pos (jl.1 hw)]
     ·rw[if_neg aQ];by_cases R:u<i
      ·rw[if_pos R,if_pos (by omega)]
      ·rw[if_neg R,if_neg (by omega)]
    ·rw[if_neg (by omega),gy (by simpa using h)];rfl
  ·rintro⟨s,out,_⟩ aH;simp only at aH;simp only[U.c7,U.au];refine⟨fun aF=>by simp at aF,fun _=>?_⟩;rw[aH];apply jj;intro u;rw[f5];rcases ch u l.length with h|h
   ·rw[ur h];simp only[g6];rw[if_pos h,List.getD,ct (by rw[CU];exact h)];rfl
   ·rw[gy (by simpa using h),gy (by rw[CU];exact h)];rfl
 ·rintro⟨s,out,_⟩ aH;simp only at aH;subst aH;rw[Ty]
  ·simp only[U.au]
  ·intro r hr;unfold km at hr;simp only[dj] at hr;obtain⟨i,_,rfl⟩:=hr;simp[km]
  ·rw[CU];omega
section
inductive iZ (A:Nat->Nat->Prop) (P:Nat->Prop):Nat->Nat->Prop
 |one {i j:Nat}:A i j->iZ A P i j
 |step {i m j:Nat}:A i m->P m->iZ A P m j->iZ A P i j
section
variable {A:Nat->Nat->Prop} {P:Nat->Prop}
theorem iZ.trans {i m j:Nat} (h:iZ A P i m) (ao:P m) (R:iZ A P m j):iZ A P i j:=by
 induction h with
 |one h=>exact .step h ao R
 |step h ac _ aT=>exact .step h ac (aT ao R)
theorem iZ.symm (eS:∀a b,A a b->A b a) {i j:Nat} (h:iZ A P i j):iZ A P j i:=by
 induction h with
 |one h=>exact .one (eS _ _ h)
 |step h ac _ aT=>exact aT.trans ac (.one (eS _ _ h))
theorem iZ.mono {P':Nat->Prop} (gZ:∀x,P x->P' x) {i j:Nat} (h:iZ A P i j):iZ A P' i j:=by
 induction h with
 |one h=>exact .one h
 |step h R _ aT=>exact .step h (gZ _ R) aT
theorem iZ.insert_iff {v i j:Nat}:iZ A (fun x=>P x\/x=v) i j↔iZ A P i j\/(iZ A P i v/\iZ A P v j):=by
 constructor
 ·intro h
  induction h with
  |one h=>exact .inl (.one h)
  |@step i m j h ao _ aT=>
   rcases ao with ao|rfl
   ·rcases aT with aT|⟨amR,Gi⟩
    ·exact .inl (.step h ao aT)
    ·exact .inr ⟨.step h ao amR,Gi⟩
   ·rcases aT with aT|⟨_,Gi⟩
    ·exact .inr ⟨.one h,aT⟩
    ·exact .inr ⟨.one h,Gi⟩
 ·rintro(h|⟨J,R⟩)
  ·exact h.mono fun x ab=>.inl ab
  ·exact(J.mono fun x ab=>.inl ab).trans (.inr rfl) (R.mono fun x ab=>.inl ab)
theorem iZ.none {i j:Nat}:iZ A (fun _=>False) i j↔A i j:=by
 constructor
 ·intro h;cases h with
  |one h=>exact h
  |step _ h _=>exact h.elim
 ·exact .one
theorem ab7 {k i j:Nat}:fx A k i j↔iZ A (fun x=>x<k) i j:=by
 constructor
 ·intro h
  induction h with
  |one h=>exact .one h
  |step h R _ aT=>exact .step h R aT
 ·intro h
  induction h with
  |one h=>exact .one h
  |step h R _ aT=>exact .step h R aT
end
end
section
theorem atY:∀{a b:List Int},a.Pairwise (· < ·)->b.Pairwise (· < ·)->(∀x,x∈a↔x∈b)->a=b:=by
 intro a
 induction a with
 |nil=>
  intro b _ _ h;cases b with
  |nil=>rfl
  |cons y b=>exact absurd ((h y).2 (mB ..)) (by simp)
 |cons x a aT=>
  intro b aG aa h;cases b with
  |nil=>exact absurd ((h x).1 (mB ..)) (by simp)
  |cons y b=>
   rw[ri] at aG aa;have xC:x=y:=by
    have J:=(h x).1 (mB ..);have R:=(h y).2 (mB ..);rcases dV.1 J with J|J
    ·exact J
    ·rcases dV.1 R with R|R
     ·exact R.symm
     ·have:=aa.1 _ J;have:=aG.1 _ R;omega
   subst xC;rw[aT aG.2 aa.2];intro z;have:=h z;simp only[dV] at this;constructor
   ·intro aZ;have J:=aG.1 _ aZ;rcases this.1 (.inr aZ) with R|R
    ·omega
    ·exact R
   ·intro aZ;have J:=aa.1 _ aZ;rcases this.2 (.inr aZ) with R|R
    ·omega
    ·exact R
structure D2 (aj:List (List Int)) (S:Nat->Prop) (T:List (List Bool)) (gone:List Bool):Prop where
 MX:T.length=aj.length
 rows:∀v,(h:v<T.length)->T[v].length=aj.length
 s7:gone.length=aj.length
 Cq:∀v,(h:v<gone.length)->(gone[v]=true↔S v)
 ym:∀u w,(aQ:u<T.length)->(hw:w<T[u].length)->¬S u->¬S w->(T[u][w]=true↔u≠w/\iZ (e0 aj) S u w)
def m2 (T:List (List Bool)) (gone:List Bool) (v k:Nat):List Int:=((List.range k).filter fun w=>gA T v w&&!gone.getD w false).map fun(w:Nat)=>(w:Int)
theorem Q6 {aj:List (List Int)} {S:Nat->Prop} {T:List (List Bool)} {gone:List Bool} (h:D2 aj S T gone) {v w:Nat} (hv:v<aj.length) (bB:¬S v):(w:Int)∈m2 T gone v aj.length↔w<aj.length/\¬S w/\v≠w/\iZ (e0 aj) S v w:=by
 unfold m2;simp only[dj,hX,jl,bM,DX];have key:∀w,w<aj.length->((gA T v w=true/\gone.getD w false=false)↔¬S w/\v≠w/\iZ (e0 aj) S v w):=by
  intro w hw;have J:v<T.length:=(by rw[h.MX];exact hv);have R:w<T[v].length:=(by rw[h.rows v J];exact hw);have ae:w<gone.length:=(by rw[h.s7];exact hw);have aI:gone.getD w false=gone[w]:=(by simp[List.getD,ae]);rw[BR J R,aI,Bool.eq_false_iff,ne_eq,h.Cq w ae];constructor
  ·rintro⟨bT,bz⟩;exact⟨bz,(h.ym v w J R bB bz).1 bT⟩
  ·rintro⟨bT,bz⟩;exact⟨(h.ym v w J R bB bT).2 bz,bT⟩
 constructor
 ·rintro⟨a,⟨J,R⟩,ae⟩;obtain rfl:a=w:=(by omega);exact⟨J,(key a J).1 R⟩
 ·exact fun⟨J,R⟩=>⟨w,⟨J,(key w J).2 R⟩,rfl⟩
theorem Rm (T:List (List Bool)) (gone:List Bool) (v k:Nat):(m2 T gone v k).length<=k:=by unfold m2;rw[iI];exact eu (kM _ _) (by simp)
theorem Rn {T:List (List Bool)} {gone:List Bool} {v k:Nat} {x:Int} (h:x∈m2 T gone v k):∃w:Nat,x=(w:Int)/\w<k:=by unfold m2 at h;simp only[dj,hX,jl] at h;obtain⟨a,⟨J,_⟩,ae⟩:=h;exact⟨a,ae.symm,J⟩
theorem TH {n:Nat} {T:List (List Bool)} {gone:List Bool} (bd:T.length=n) (hr:∀v,(h:v<T.length)->T[v].length=n) (aD:gone.length=n) (ag:n<=4294967296) {v:Nat} (hv:v<n):Ff (some (T,gone,()),(v:Int),())=some (m2 T gone v n,()):=by
 rw[<-U.eq_iff];unfold Ff;have gK:gv=4294967296:=rfl;simp only[U.c8,U.au];refine U.mono (P:=fun q=>q.1=m2 T gone v n) ?_ (by rintro⟨o,_⟩ h;simp only at h;rw[h]);refine U.for (i0:=0) n (fun k t=>t.1=m2 T gone v k) rfl rfl (eL _) ?_ ?_
 ·rintro w ⟨o,_⟩ _ hw aH;simp only at aH;have F2:=Rm T gone v w;simp only[br];rw[U.c7];refine⟨fun _=>?_,fun aF=>by simp at aF;omega⟩;rw[U.c8,U.c8];have Qf:v<T.length:=(by omega);have XG:w<T[v].length:=(by rw[hr v Qf];exact hw);have xp:bb T (v:Int)=some T[v]:=l1 (ct Qf);have h5:bb T[v] (w:Int)=some T[v][w]:=l1 (ct XG);have PH:bb gone (w:Int)=some (gone.getD w false):=l1 (by rw[ct (by omega)];simp[List.getD,show w<gone.length by omega]);refine U.mono (P:=fun q=>q=((gA T v w&&!gone.getD w false),o,())) ?_ ?_
  ·simp only[xp,h5,PH,U.c8,U.c7,U.au,BR Qf XG];refine⟨fun h=>?_,fun h=>?_⟩
   ·have h:T[v][w]=true:=(by simpa using h);rw[h];rfl
   ·have h:T[v][w]=false:=(by simpa using h);rw[h];rfl
  ·rintro _ rfl;simp only[U.c7,U.c8,U.au,U.xK];refine⟨fun h=>⟨by rw[aH];simp;omega,gR (by omega),?_⟩,fun h=>⟨gR (by omega),?_⟩⟩
   ·unfold m2 at aH|-;rw[rj,qg,jS,<-aH];simp only[mA,List.filter_nil];rw[if_pos h];rfl
   ·unfold m2 at aH|-;rw[rj,qg,jS,<-aH];simp only[mA,List.filter_nil];rw[if_neg (by rw[h];simp)];simp
 ·rintro⟨o,_⟩ aH;simp only at aH;simp only[br,U.c7,U.au];exact⟨fun aF=>by simp at aF;omega,fun _=>aH⟩
theorem agI {T:List (List Bool)} {k bE:Nat} (h:k<T.length) (R:bE<T[k].length) (u w:Nat):gA (T.set k (T[k].set bE true)) u w=(gA T u w||(u==k&&w==bE)):=by
 unfold gA;simp only[List.getD,wD];by_cases aQ:k=u
 ·subst aQ;rw[if_pos rfl,if_pos h,ct h];simp only[wH,wD];by_cases hw:bE=w
  ·subst hw;rw[if_pos rfl,if_pos R];simp
  ·rw[if_neg hw];have:(w==bE)=false:=(by rw[beq_eq_false_iff_ne];omega);simp[this]
 ·rw[if_neg aQ];have:(u==k)=false:=(by rw[beq_eq_false_iff_ne];omega);simp[this]
theorem Ze (T:List (List Bool)) (gone:List Bool) (v k:Nat):(m2 T gone v k).Pairwise (· < ·):=MS _ _
theorem acz {n:Nat} {T:List (List Bool)} {gone:List Bool} (bd:T.length=n) (hr:∀v,(h:v<T.length)->T[v].length=n) (aD:gone.length=n) (ag:n<=4294967296) {v:Nat} (hv:v<n):U (Fe ((T,gone,()),(v:Int),())) (fun r=>r.1.2.1=gone.set v true/\r.1.1.length=n/\(∀v,(h:v<r.1.1.length)->r.1.1[v].length=n)/\∀u w,u<n->w<n->(gA r.1.1 u w=true↔gA T u w=true\/((u:Int)∈m2 T gone v n/\(w:Int)∈m2 T gone v n/\u≠w))):=by
 unfold Fe;simp only[TH bd hr aD ag hv,br];have Wu:=Rm T gone v n;have Pk:∀x∈m2 T gone v n,∃w:Nat,x=(w:Int)/\w<n:=fun x ab=>Rn ab;have Pl:=Ze T gone v n;generalize m2 T gone v n=L at Wu Pk Pl;have auJ:∀k cN:Nat,(h:k<L.length)->(a2:cN<L.length)->L[k]=L[cN]->k=cN:=fun k cN h a2 e=>by
  rcases rl k cN with g|g|g
  ·have:=(iX.1 Pl) k cN h a2 g;omega
  ·exact g
  ·have:=(iX.1 Pl) cN k a2 h g;omega
 simp only[U.c8];refine U.mono (P:=fun q:axp×Unit=>q.1.2.1=gone/\q.1.1.length=n/\(∀v,(h:v<q.1.1.length)->q.1.1[v].length=n)/\∀u w,u<n->w<n->(gA q.1.1 u w=true↔gA T u w=true\/((u:Int)∈L/\(w:Int)∈L/\u≠w))) ?_ ?_
 ·refine U.for (i0:=0) L.length (fun i q=>q.1.2.1=gone/\q.1.1.length=n/\(∀v,(h:v<q.1.1.length)->q.1.1[v].length=n)/\∀u w,u<n->w<n->(gA q.1.1 u w=true↔gA T u w=true\/((u:Int)∈L.take i/\(w:Int)∈L/\u≠w))) rfl ⟨rfl,bd,hr,fun u w _ _=>by simp⟩ (eL _) ?_ ?_
  ·rintro i ⟨⟨Iu,bT,_⟩,_⟩ _ hi ⟨J,R,ae,aI⟩;simp only at J R ae aI;simp only[U.c7,U.c8];refine⟨fun _=>?_,fun aF=>by simp at aF;omega⟩;refine U.mono (P:=fun q:axp×Unit=>q.1.2.1=gone/\q.1.1.length=n/\(∀v,(h:v<q.1.1.length)->q.1.1[v].length=n)/\∀u w,u<n->w<n->(gA q.1.1 u w=true↔gA T u w=true\/((u:Int)∈L.take (i+1)/\(w:Int)∈L/\u≠w))) ?_ (by rintro⟨e,_⟩ h;simp only[U.au];exact⟨gR (by omega),h⟩);obtain⟨a,aG,nu⟩:=Pk _ (dt hi);refine U.for (i0:=0) L.length (fun j q=>q.1.2.1=gone/\q.1.1.length=n/\(∀v,(h:v<q.1.1.length)->q.1.1[v].length=n)/\∀u w,u<n->w<n->(gA q.1.1 u w=true↔gA T u w=true\/((u:Int)∈L.take i/\(w:Int)∈L/\u≠w)\/(u=a/\(w:Int)∈L.take j/\u≠w))) rfl ⟨J,R,ae,fun u w aQ hw=>by rw[aI u w aQ hw];simp⟩ (eL _) ?_ ?_
   ·rintro j ⟨⟨sR,bz,_⟩,_⟩ _ al ⟨bu,bE,cl,gu⟩;simp only at bu bE cl gu;obtain⟨b,aa,FK⟩:=Pk _ (dt al);have aj2:bb L (i:Int)=some (a:Int):=l1 (by rw[ct hi,aG]);have aj3:bb L (j:Int)=some (b:Int):=l1 (by rw[ct al,aa]);have Cs:a<sR.length:=(by omega);have Pw:b<sR[a].length:=(by rw[cl a Cs];exact FK);simp only[U.c7,U.c8,aj2,aj3,U.au,U.tv,U.sW,U.GW,d4];refine⟨fun _=>⟨fun cL=>⟨⟨by omega,Cs⟩,Cs,⟨by omega,Pw⟩,Cs,Pw,gR (by omega),bu,by simpa using bE,fun x ab=>?_,fun u w aQ hw=>?_⟩,fun heq=>⟨gR (by omega),bu,bE,cl,fun u w aQ hw=>?_⟩⟩,fun aF=>by simp at aF;omega⟩
    ·rw[List.getElem_set];split
     ·rw[Ea];exact cl a Cs
     ·exact cl x (by simpa using ab)
    ·have cL:i≠j:=(by simp at cL;omega);have n6:a≠b:=fun e=>cL (auJ i j hi al (by rw[aG,aa,e]));rw[agI Cs Pw,hJ,gu u w aQ hw,<-q1 al,aa,fe,fv];simp only[bM,beq_iff_eq];constructor
     ·rintro((h|h|⟨h,a2,oR⟩)|⟨h,a2⟩)
      ·exact .inl h
      ·exact .inr (.inl h)
      ·exact .inr (.inr ⟨h,.inl a2,oR⟩)
      ·exact .inr (.inr ⟨h,.inr (by omega),by omega⟩)
     ·rintro(h|h|⟨h,a2|a2,oR⟩)
      ·exact .inl (.inl h)
      ·exact .inl (.inr (.inl h))
      ·exact .inl (.inr (.inr ⟨h,a2,oR⟩))
      ·exact .inr ⟨h,by omega⟩
    ·have dz:i=j:=(by simp at heq;omega);have n6:a=b:=by
      subst dz;rw[aG] at aa;omega
     rw[gu u w aQ hw,<-q1 al,aa,fe,fv];constructor
     ·rintro(h|h|⟨h,a2,oR⟩)
      ·exact .inl h
      ·exact .inr (.inl h)
      ·exact .inr (.inr ⟨h,.inl a2,oR⟩)
     ·rintro(h|h|⟨h,a2|a2,oR⟩)
      ·exact .inl h
      ·exact .inr (.inl h)
      ·exact .inr (.inr ⟨h,a2,oR⟩)
      ·omega
   ·rintro⟨⟨sR,bz,_⟩,_⟩ ⟨bu,bE,cl,gu⟩;simp only at bu bE cl gu;simp only[U.c7,U.au];refine⟨fun aF=>by simp at aF,fun _=>⟨bu,bE,cl,fun u w aQ hw=>?_⟩⟩;rw[gu u w aQ hw,uv,<-q1 hi,aG,fe,fv];constructor
    ·rintro(h|⟨h,a2,oR⟩|⟨h,a2,oR⟩)
     ·exact .inl h
     ·exact .inr ⟨.inl h,a2,oR⟩
     ·exact .inr ⟨.inr (by omega),a2,oR⟩
    ·rintro(h|⟨h|h,a2,oR⟩)
     ·exact .inl h
     ·exact .inr (.inl ⟨h,a2,oR⟩)
     ·exact .inr (.inr ⟨by omega,a2,oR⟩)
  ·rintro⟨⟨Iu,bT,_⟩,_⟩ ⟨J,R,ae,aI⟩;simp only at J R ae aI;simp only[U.c7,U.au];refine⟨fun aF=>by simp at aF,fun _=>⟨J,R,ae,fun u w aQ hw=>?_⟩⟩;rw[aI u w aQ hw,uv]
 ·rintro⟨⟨Iu,bT,_⟩,_⟩ ⟨J,R,ae,aI⟩;simp only at J R ae aI;subst J;simp only[U.c8,U.tv,U.sW,U.au,U.GW,d4];exact⟨⟨by omega,by omega⟩,by omega,trivial,R,ae,aI⟩
theorem acy {aj:List (List Int)} (c6:fK aj) (ag:aj.length<=4294967296) {S:Nat->Prop} {T:List (List Bool)} {gone:List Bool} (h:D2 aj S T gone) {v:Nat} (hv:v<aj.length) (bB:¬S v):U (Fe ((T,gone,()),(v:Int),())) (fun r=>D2 aj (fun x=>S x\/x=v) r.1.1 r.1.2.1):=by
 refine(acz h.MX h.rows h.s7 ag hv).mono ?_;rintro⟨⟨Iu,bT,_⟩,_⟩ ⟨J,R,ae,aI⟩;simp only at J R ae aI|-;subst J;have hs:=e0.symm c6;refine⟨R,ae,by rw[Ea];exact h.s7,fun x ab=>?_,fun u w aQ hw Wz WA=>?_⟩
 ·rw[List.getElem_set];by_cases ix:v=x
  ·rw[if_pos ix];simp[ix]
  ·rw[if_neg ix,h.Cq];constructor
   ·exact .inl
   ·rintro(g|g)
    ·exact g
    ·exact absurd g.symm ix
 ·have ob:u<aj.length:=(by omega);have r5:w<aj.length:=(by rw[ae u aQ] at hw;exact hw);have:=aI u w ob r5;rw[BR aQ hw] at this;have Qd:u<T.length:=(by rw[h.MX];exact ob);have XE:w<T[u].length:=(by rw[h.rows u Qd];exact r5);have Zj:¬S u:=fun g=>Wz (.inl g);have Zk:¬S w:=fun g=>WA (.inl g);have auT:v≠u:=fun g=>Wz (.inr g.symm);have avb:v≠w:=fun g=>WA (.inr g.symm);rw[this,BR Qd XE,h.ym u w Qd XE Zj Zk,Q6 h hv bB,Q6 h hv bB,iZ.insert_iff];constructor
  ·rintro(⟨bT,bz⟩|⟨⟨_,_,_,bz⟩,⟨_,_,_,cU⟩,gD⟩)
   ·exact⟨bT,.inl bz⟩
   ·exact⟨gD,.inr ⟨bz.symm hs,cU⟩⟩
  ·rintro⟨bT,bz|⟨bz,cZ⟩⟩
   ·exact .inl ⟨bT,bz⟩
   ·exact .inr ⟨⟨ob,Zj,auT,bz.symm hs⟩,⟨r5,Zk,avb,cZ⟩,bT⟩
theorem acs {aj:List (List Int)} (c6:fK aj) (hc:∀l∈aj,l.length<4611686018427387904) (ag:aj.length<=200):U (Kh ((aj,()),())) (fun r=>D2 aj (fun _=>False) r.1.1 r.1.2.1):=by
 unfold Kh;have gK:gv=4294967296:=rfl;simp only[TQ hc ag (fun v hv=>(c6.asc v hv).2),br,U.c8,U.Da,U.au,d4];refine⟨⟨by omega,by omega,by omega⟩,SX aj,fun v h=>?_,by simp,fun v h=>by simp,fun u w aQ hw _ _=>?_⟩
 ·simp[q0]
 ·rw[iZ.none];have ob:u<aj.length:=(by rw[SX] at aQ;exact aQ);have r5:w<aj.length:=(by simp[q0] at hw;exact hw);have e:(q0 aj)[u][w]=decide ((w:Int)∈aj[u]):=(by simp[q0,List.getD,ob]);rw[e,decide_eq_true_eq];constructor
  ·exact fun ao=>⟨e0.ne c6 ⟨ob,ao⟩,ob,ao⟩
  ·exact fun ao=>ao.2.2
open Classical in
theorem asT {aj:List (List Int)} (c6:fK aj) (hc:∀l∈aj,l.length<4611686018427387904) (ag:aj.length<=200):Ki ((aj,()),())=some ((List.range aj.length).map (cT aj),0,()):=by
 rw[<-U.eq_iff];unfold Ki;have gK:gv=4294967296:=rfl;have FN:jJ aj=0:=(by unfold jJ;rw[if_neg (by omega),if_pos c6]);simp only[Sp aj hc,FN,br,bne_self_eq_false,cond_false];simp only[U.c8];refine(acs c6 hc ag).mono ?_;rintro⟨⟨T,gone,_⟩,_⟩ hn;simp only at hn;simp only[U.c8];refine U.mono (P:=fun q=>q.1=(List.range aj.length).map (cT aj)) ?_ (by rintro⟨o,_⟩ h;simp only at h;simp only[U.au,h]);refine U.for (i0:=0) aj.length (fun j t=>t.2.1=(List.range j).map (cT aj)/\D2 aj (fun x=>x<j) t.1.1 t.1.2.1) rfl ⟨rfl,?_⟩ (eL _) ?_ ?_
 ·have:(fun x:Nat=>x<0)=fun _=>False:=(by funext x;simp);rw[this];exact hn
 ·rintro j ⟨⟨T,gone,_⟩,out,_⟩ _ al ⟨aH,hn⟩;simp only at aH hn;have xu:=Rm T gone j aj.length;have akR:[(j:Int)]++m2 T gone j aj.length=cT aj j:=by
   have kz:=fun w=>Q6 hn (v:=j) (w:=w) al (Nat.lt_irrefl j);refine atY ?_ (N3 aj j) ?_
   ·rw[Im,ri];refine⟨fun x ab=>?_,Ze _ _ _ _⟩;obtain⟨w,rfl,_⟩:=Rn ab;have:=(kz w).1 ab;omega
   ·intro x;constructor
    ·intro ab;rw[Im,dV] at ab;rcases ab with rfl|ab
     ·exact Db.2 ⟨al,.inl rfl⟩
     ·obtain⟨w,rfl,_⟩:=Rn ab;have:=(kz w).1 ab;exact Db.2 ⟨this.1,.inr ⟨by omega,ab7.2 this.2.2.2⟩⟩
    ·intro ab;rw[Im,dV];have vg:=ab;unfold cT mH at ab;simp only[dj] at ab;obtain⟨w,_,rfl⟩:=ab;obtain⟨J,R|⟨R,ae⟩⟩:=Db.1 vg
     ·exact .inl (by omega)
     ·exact .inr ((kz w).2 ⟨J,by omega,by omega,ab7.1 ae⟩)
  rw[U.c7];refine⟨fun _=>?_,fun aF=>by simp at aF;omega⟩;simp only[TH hn.MX hn.rows hn.s7 (show aj.length<=4294967296 by omega) al,br,U.c8,U.xK];refine⟨by simp;omega,by rw[aH];simp;omega,?_⟩;refine(acy c6 (by omega) hn al (Nat.lt_irrefl j)).mono ?_;rintro⟨⟨Iu,bT,_⟩,_⟩ Wq;simp only at Wq;simp only[U.au];refine⟨gR (by omega),?_,?_⟩
  ·rw[aH,akR,rj,jS];rfl
  ·have:(fun x:Nat=>x<j+1)=fun x=>x<j\/x=j:=(by funext x;apply propext;omega);rw[this];exact Wq
 ·rintro⟨⟨T,gone,_⟩,out,_⟩ ⟨aH,_⟩;simp only at aH;simp only[U.c7,U.au];exact⟨fun aF=>by simp at aF,fun _=>aH⟩
end
theorem IX {aj:List (List Int)}:jJ aj=0↔aj.length<=200/\fK aj:=by
 unfold jJ;by_cases h:200<aj.length
 ·rw[if_pos h];constructor
  ·intro h;omega
  ·intro h;omega
 ·rw[if_neg h];by_cases R:fK aj
  ·rw[if_pos R];exact⟨fun _=>⟨by omega,R⟩,fun _=>rfl⟩
  ·rw[if_neg R];exact⟨fun h=>by omega,fun h=>absurd h.2 R⟩
section
section
variable {P Q:Nat->Prop} {k:Nat}
end
def TL (n:Nat) (f:Nat->Int):Prop:=∀j,j<n->f j=-1\/((j:Int)<f j/\f j<n)
section
variable {n:Nat} {f:Nat->Int} (aF:TL n f)
include aF
end
end
section
def ih (l:List Nat):List Int:=l.map fun(x:Nat)=>(x:Int)
theorem Zb (a b:List Nat):ih (a++b)=ih a++ih b:=by simp[ih]
theorem Dg (a:List Nat):(ih a).length=a.length:=by simp[ih]
section
variable {n:Nat} {f:Nat->Int} (aF:TL n f) (ag:n<=200)
include aF ag
end
end
section
theorem rO {α:Type} {l:List α} {i:Nat} (h:i<l.length) (d:α):l.getD i d=l[i]:=by simp only[List.getD,ct h,wH]
section
variable {aj:List (List Int)} (c6:fK aj) (ag:aj.length<=200)
include c6 ag
end
end
structure yS {α:Type} (lt:α->α->Bool):Prop where
 agy:∀a b,lt a b=true->lt b a=false
 trans:∀a b c,lt b a=false->lt c b=false->lt c a=false
theorem yS.int:yS (fun a b:Int=>decide (a<b)):=⟨fun a b h=>by simp at h|-;omega,fun a b c J R=>by simp at J R|-;omega⟩
def Bv {α:Type} (lt:α->α->Bool) (g:Nat->α) (i j:Nat):Prop:=∀p q,p<q->q<=i->q≠j->lt (g q) (g p)=false
def yU {α:Type} (lt:α->α->Bool) (g:Nat->α) (k:Nat):Prop:=∀p q,p<q->q<k->lt (g q) (g p)=false
def swp {α:Type} (g:Nat->α) (j:Nat):Nat->α:=fZ (fZ g j (g (j-1))) (j-1) (g j)
theorem abx {α:Type} (g:Nat->α) {j:Nat} (k:Nat):swp g j k=if k=j-1 then g j else if k=j then g (j-1) else g k:=rfl
theorem Bv.swp {α:Type} {lt:α->α->Bool} (h:yS lt) {g:Nat->α} {i j:Nat} (cK:Bv lt g i j) (al:0<j) (oV:j<=i) (ah:lt (g j) (g (j-1))=true):Bv lt (swp g j) i (j-1):=by
 intro p q jc ai cL;rw[abx,abx,if_neg cL];by_cases J:q=j
 ·subst J;rw[if_pos rfl];by_cases R:p=q-1
  ·rw[if_pos R];exact h.agy _ _ ah
  ·rw[if_neg R,if_neg (by omega)];exact cK p (q-1) (by omega) (by omega) (by omega)
 ·rw[if_neg J];by_cases R:p=j-1
  ·rw[if_pos R];exact cK j q (by omega) ai J
  ·rw[if_neg R];by_cases ae:p=j
   ·rw[if_pos ae];exact cK (j-1) q (by omega) ai J
   ·rw[if_neg ae];exact cK p q jc ai J
theorem Bv.done {α:Type} {lt:α->α->Bool} (h:yS lt) {g:Nat->α} {i j:Nat} (cK:Bv lt g i j) (oV:j<=i) (ah:j=0\/lt (g j) (g (j-1))=false):yU lt g (i+1):=by
 intro p q jc ai;by_cases J:q=j
 ·subst J;rcases ah with ah|ah
  ·omega
  ·by_cases R:p=q-1
   ·subst R;exact ah
   ·exact h.trans _ _ _ (cK p (q-1) (by omega) (by omega) (by omega)) ah
 ·exact cK p q jc (by omega) J
theorem aui {α:Type} {n:Nat} {g:Nat->α} {j:Nat} (al:0<j) (ag:j<n):(bA n (swp g j)).Perm (bA n g):=by have J:j<(bA n g).length:=(by rw[d0];exact ag);have R:j-1<(bA n g).length:=(by rw[d0];omega);have:=List.set_set_perm J R;rw[l0,l0,ls,ls] at this;exact this
theorem VQ {α:Type} [Inhabited α] (l:List α):l=bA l.length (fun i=>l[i]?.getD default):=aju l _ (fun i hi=>by simp[hi])
theorem amV (l:List Int) (ah:l.length<=1000):U (JP (l,0,(l.length:Int),())) (fun r=>∃g,r.1=bA l.length g/\yU (fun a b=>decide (a<b)) g l.length/\r.1.Perm l):=by
 unfold JP;simp only[];generalize ag:l.length=n at*;have aU:IntKind.i64.wrap (0+1)=((1:Nat):Int):=(by rw[wrap64]<;>omega);rw[aU];rcases rk n with aZ|mV
 ·subst aZ;refine U.bP (P:=fun r=>r.1=l) ?_ ?_
  ·refine U.loop (fun s=>s=(((1:Nat):Int),l,())) (fun _=>0) rfl ?_;rintro _ rfl;simp only[cB];rw[if_neg (by omega)];exact U.au.2 rfl
  ·rintro⟨r,_⟩ rfl;refine U.au.2 ⟨fun _=>0,?_,fun p q J R=>by omega,List.Perm.refl _⟩;show r=[];exact pb ag
 refine U.bP (P:=fun r=>∃g,r.1=bA n g/\yU (fun a b=>decide (a<b)) g n/\r.1.Perm l) ?_ (fun r hr=>U.au.2 hr);refine U.for n (fun i t=>∃g,t=(bA n g,())/\yU (fun a b=>decide (a<b)) g i/\(bA n g).Perm l) rfl ⟨fun i=>l[i]?.getD default,?_,fun p q J R=>by omega,?_⟩ mV ?_ ?_
 ·rw[<-ag,<-VQ]
 ·rw[<-ag,<-VQ]
 ·rintro i _ J R ⟨g,rfl,bB,gZ⟩;simp only[cB];rw[if_pos (by omega)];refine U.bP (P:=fun r=>∃g,r=(bA n g,())/\yU (fun a b=>decide (a<b)) g (i+1)/\(bA n g).Perm l) ?_ ?_
  ·refine U.loop (fun s=>∃(j:Nat) (g:Nat->Int),s=((j:Int),bA n g,())/\j<=i/\Bv (fun a b=>decide (a<b)) g i j/\(bA n g).Perm l) (fun s=>s.1.toNat) ⟨i,g,rfl,bS _,fun p q jc ai cL=>bB p q jc (by omega),gZ⟩ ?_;rintro _ ⟨j,g,rfl,al,cK,gZ⟩;simp only[Ve];by_cases Lc:0<j
   ·have awA:j-1<n:=(by omega);have Ld:j<n:=(by omega);simp(disch:=omega) only[if_pos,d0,acb,iR,kj,br,TG,cB];by_cases cg:g j<g (j-1)
    ·rw[if_pos cg];simp(disch:=omega) only[br,d0,acb,iR,kj,ls];refine U.au.2 ⟨⟨j-1,swp g j,rfl,by omega,cK.swp yS.int Lc al (by simpa using cg),(aui Lc Ld).trans gZ⟩,?_⟩;show((j-1:Nat):Int).toNat<((j:Nat):Int).toNat;omega
    ·rw[if_neg cg];exact U.au.2 ⟨g,rfl,cK.done yS.int al (.inr (by simpa using cg)),gZ⟩
   ·rw[if_neg (by omega)];exact U.au.2 ⟨g,rfl,cK.done yS.int al (.inl (by omega)),gZ⟩
  ·rintro _ ⟨g,rfl,bB,gZ⟩;simp(disch:=omega) only[yt];exact U.au.2 ⟨rfl,g,rfl,bB,gZ⟩
 ·rintro _ ⟨g,rfl,bB,gZ⟩;simp only[cB];rw[if_neg (by omega)];exact U.au.2 ⟨g,rfl,bB,gZ⟩
theorem yU.pairwise {g:Nat->Int} {n:Nat} (h:yU (fun a b=>decide (a<b)) g n):(bA n g).Pairwise (· <= ·):=by rw[iX];intro i j hi al dz;rw[l0,l0];have:=h i j dz (by simpa[d0] using al);simpa using this
theorem afM (n:Nat) (ag:n<=12):∃b,Oe ((n:Int),())=some (b,()):=by
 have:n=0\/n=1\/n=2\/n=3\/n=4\/n=5\/n=6\/n=7\/n=8\/n=9\/n=10\/n=11\/n=12:=(by omega);rcases this with rfl|rfl|rfl|rfl|rfl|rfl|rfl|rfl|rfl|rfl|rfl|rfl|rfl
 ·exact⟨0,by kernel_rfl⟩
 ·exact⟨1,by kernel_rfl⟩
 ·exact⟨2,by kernel_rfl⟩
 ·exact⟨2,by kernel_rfl⟩
 ·exact⟨3,by kernel_rfl⟩
 ·exact⟨3,by kernel_rfl⟩
 ·exact⟨3,by kernel_rfl⟩
 ·exact⟨3,by kernel_rfl⟩
 ·exact⟨4,by kernel_rfl⟩
 ·exact⟨4,by kernel_rfl⟩
 ·exact⟨4,by kernel_rfl⟩
 ·exact⟨4,by kernel_rfl⟩
 ·exact⟨4,by kernel_rfl⟩
theorem ar0 (l:List Int) (b:Int) (ah:l.length<=12):U (JR (l,0,(l.length:Int),b,())) (fun r=>r.1.Pairwise (· <= ·)/\r.1.Perm l):=by obtain⟨r,hr,g,aD,bB,gZ⟩:=amV l (by omega);refine⟨r,?_,by rw[aD];exact bB.pairwise,gZ⟩;unfold JR;dsimp only;rw[anQ];dsimp only;have hw:IntKind.i64.wrap ((l.length:Int)-0)=((l.length:Nat):Int):=(by rw[Int.sub_zero];exact au9 (by omega));simp only[hw,cB];rw[if_pos (by omega),hr];rfl
theorem afY (l:List Int) (ah:l.length<=12):U (ES (l,())) (fun r=>r.1.Pairwise (· <= ·)/\r.1.Perm l):=by unfold ES;simp only[];rw[aca _ (by omega) (by omega)];obtain⟨b,aa⟩:=afM l.length ah;rw[aa];simp only[br];exact U.bP (ar0 l b ah) (fun r hr=>U.au.2 hr)
section
open Go
theorem ahF {aS:List Int} (hs:aS.Pairwise (· <= ·)):(Lib.compact aS).length<aS.length↔¬aS.Nodup:=by
 have dR:(Lib.compact aS).length=((List.range aS.length).filter (Lib.keeps aS.toArray)).length:=(by simp[Lib.compact,Lib.compactUpTo]);have akH:(∀j,j<aS.length->Lib.keeps aS.toArray j=true)↔aS.Nodup:=by
  have ac:∀j,(h:j<aS.length)->(Lib.keeps aS.toArray j=true↔j=0\/aS[j]≠aS[j-1]):=fun j h=>(by have R:j-1<aS.length:=(by omega);simp[Lib.keeps,h,R]);constructor
  ·intro h;have cg:aS.Pairwise (· < ·):=by
    rw[RZ];intro k ga;have J:=(ac (k+1) ga).1 (h _ ga);have R:=iX.1 hs k (k+1) (by omega) ga (by omega);have ae:aS[k+1]≠aS[k]:=by rcases J with J|J;omega;exact J
    omega
   exact cg.imp (fun h=>by omega)
  ·intro h j al;rw[ac j al];by_cases aU:j=0
   ·exact .inl aU
   ·refine .inr fun e=>?_;have:=(List.getElem_inj h).1 e;omega
 rw[<-akH,dR];have fb:=kM (Lib.keeps aS.toArray) (List.range aS.length);rw[yM] at fb;constructor
 ·intro h R;rw[qh.2 (fun j al=>R j (jl.1 al)),yM] at h;omega
 ·intro h;rcases ch ((List.range aS.length).filter (Lib.keeps aS.toArray)).length aS.length with J|J
  ·exact J
  ·refine absurd (fun j al=>?_) h;have e:((List.range aS.length).filter (Lib.keeps aS.toArray)).length=(List.range aS.length).length:=(by rw[yM];omega);exact List.length_filter_eq_length_iff.1 e j (jl.2 al)
theorem auA (l:List Int) (ah:l.length<=12):Js (l,())=some (decide (¬l.Nodup),()):=by obtain⟨r,hr,hs,ay⟩:=afY l ah;have dR:=ay.length_eq;unfold Js HL;simp only[hr,g6,br];rw[show Nat.ble l.length 1000000=true from Nat.ble_eq_true_of_le (by omega)];simp only[cond_true];rw[show Nat.ble r.1.length 1000000=true from Nat.ble_eq_true_of_le (by omega)];simp only[cond_true,g6];have e:decide ((Lib.compact r.1).length<l.length)=decide (¬l.Nodup):=(by rw[decide_eq_decide,<-dR,ahF hs,ay.nodup_iff]);rw[e]
def ig (n:Nat) (B:Nat->Nat->Bool):List (List Bool):=bA n fun v=>bA n (B v)
theorem GR (n:Nat) (B:Nat->Nat->Bool):(ig n B).length=n:=d0 n _
theorem C9 {n:Nat} {B B':Nat->Nat->Bool} (h:∀v w,v<n->w<n->B v w=B' v w):ig n B=ig n B':=gB fun v hv=>gB fun w hw=>h v w hv hw
theorem TI (n:Nat) (ag:n<=4294967296):EI ((n:Int),())=some (ig n fun _ _=>false,()):=by
 unfold EI;simp only[];rw[lE ag];simp only[br];refine aP (y:=(ig n fun _ _=>false,())) (GO n (fun i=>(bA n (fun v=>if v<i then List.replicate n false else[]),())) 0 rfl ?_ (eL _) ?_ ?_) rfl
 ·rw[px];simp
 ·intro i _ hi;simp(disch:=omega) only[d0,uu,cB,if_pos,br,iR,kj,ls,yt];congr 4;refine gB fun v hv=>?_;simp only[fZ];by_cases h:v=i
  ·subst h;rw[if_pos rfl,if_pos (by omega)]
  ·rw[if_neg h];by_cases R:v<i
   ·rw[if_pos R,if_pos (by omega)]
   ·rw[if_neg R,if_neg (by omega)]
 ·simp only[uu,cB];rw[if_neg (by omega)];congr 2;refine congrArg (·,()) (gB fun v hv=>?_);rw[if_pos hv,px]
theorem TD {n:Nat} {B:Nat->Nat->Bool} {i j:Nat} (hi:i<n) (al:j<n):EL (ig n B,(i:Int),(j:Int),())=some (ig n (fun a b=>B a b||(decide (i≠j)&&((decide (a=i)&&decide (b=j))||(decide (a=j)&&decide (b=i))))),()):=by
 unfold EL;simp only[ew];by_cases h:i=j
 ·subst h;simp only[decide_true,lN,cond_false];congr 2;exact C9 fun a b _ _=>by simp
 ·rw[a5 (show¬((i:Int)=(j:Int)) by omega)];unfold ig;simp(disch:=omega) only[nN,cond_true,d0,iR,br,kj,g6,ls];rw[show fZ (fun v=>bA n (B v)) i (bA n (fZ (B i) j true)) j=bA n (B j) from p5 _ _ (fun e=>h e.symm)];simp(disch:=omega) only[d0,iR,br,kj,g6,ls];congr 2;refine gB fun a aG=>?_;simp only[fZ];by_cases J:a=j
  ·rw[if_pos J,J];refine gB fun b aa=>?_;simp only[fZ];have a2:¬j=i:=fun e=>h e.symm;by_cases R:b=i
   ·simp[R,a2,h]
   ·simp[R,a2,h]
  ·rw[if_neg J];by_cases ae:a=i
   ·subst ae;rw[if_pos rfl];refine gB fun b aa=>?_;simp only[fZ];by_cases R:b=j
    ·simp[R,h]
    ·simp[R,J]
   ·rw[if_neg ae];refine gB fun b aa=>?_;simp[J,ae]
theorem afN {n:Nat} (ag:n<=4294967296) {B:Nat->Nat->Bool} {v:Nat} (hv:v<n):Jp (ig n B,(v:Int),())=some (ih ((List.range n).filter (B v)),()):=by
 unfold Jp;simp only[];rw[show bb (ig n B) (v:Int)=some (bA n (B v)) from Wd hv];simp only[br];refine aP (y:=(ih ((List.range n).filter (B v)),())) (GO n (fun i=>(ih ((List.range i).filter (B v)),())) 0 rfl rfl (eL _) ?_ ?_) rfl
 ·intro i _ hi;have dR:(ih ((List.range i).filter (B v))).length<=i:=(by rw[Dg];have:=kM (B v) (List.range i);simpa using this);have hs:ih ((List.range (i+1)).filter (B v))=if B v i=true then ih ((List.range i).filter (B v))++[(i:Int)] else ih ((List.range i).filter (B v)):=by
   rw[rj,qg,Zb];by_cases h:B v i=true<;>simp[h,ih]
  simp(disch:=omega) only[d0,cB,if_pos,Wd,br,yt];rw[hs];by_cases h:B v i=true
  ·rw[if_pos h,h,fD (by simp only[List.length_singleton];omega)];rfl
  ·rw[if_neg h,Bool.eq_false_iff.2 h];rfl
 ·simp only[d0,cB];rw[if_neg (by omega)]
def kU (n:Nat) (B:Nat->Nat->Bool):List (List Int):=bA n fun v=>ih ((List.range n).filter (B v))
theorem TA {n:Nat} (ag:n<=4294967296) {B:Nat->Nat->Bool}:EK (ig n B,())=some ((kU n B,()),()):=by
 unfold EK;simp only[GR];rw[lE ag];simp only[br];refine aP (y:=(([],()),(kU n B,()),())) (GO n (fun i=>(([],()),(bA n (fun v=>if v<i then ih ((List.range n).filter (B v)) else[]),()),())) 0 rfl ?_ (eL _) ?_ ?_) rfl
 ·rw[px];simp
 ·intro i _ hi;simp(disch:=omega) only[cB,if_pos,afN,br,d0,iR,kj,g6,ls,yt];congr 6;refine gB fun v hv=>?_;simp only[fZ];by_cases h:v=i
  ·subst h;rw[if_pos rfl,if_pos (by omega)]
  ·rw[if_neg h];by_cases R:v<i
   ·rw[if_pos R,if_pos (by omega)]
   ·rw[if_neg R,if_neg (by omega)]
 ·simp only[cB];rw[if_neg (by omega)];have:(bA n fun v=>if v<n then ih ((List.range n).filter (B v)) else[])=kU n B:=gB fun v hv=>(by rw[if_pos hv]);rw[this]
end
section
open Go
def gJ (l:List Int) (n:Nat):Prop:=l.length=n/\(∀x∈l,0<=x/\x<(n:Int))/\l.Nodup
open Classical in
theorem afS (l:List Int) (n:Nat) (ag:n<=4294967296):JV (l,(n:Int),())=some (decide (gJ l n),()):=by
 unfold JV;simp only[ew];by_cases ah:l.length=n
 ·rw[bc (show(((l.length:Nat):Int)=(n:Int)) by omega)];simp only[lN,cond_false,lE ag,br,px];rw[<-U.eq_iff];refine U.bP (P:=fun q=>match q with|.inl _=>gJ l n|.inr r=>r=(false,())/\¬gJ l n) ?_ ?_
  ·refine U.for n (fun i t=>t=(bA n (fun v=>decide ((v:Int)∈l.take i)),())/\(∀k,(h:k<l.length)->k<i->0<=l[k]/\l[k]<(n:Int))/\(l.take i).Nodup) (i0:=0) rfl ⟨by simp,fun k _ h=>by omega,by simp⟩ (eL _) ?_ ?_
   ·rintro i _ _ hi ⟨rfl,hr,aN⟩;have j5:i<l.length:=(by omega);have aD:bb l (i:Int)=some l[i]:=l1 (ct j5);have kz:l[i]∈l:=dt j5;simp(disch:=omega) only[cB,if_pos,aD,br,ahI];by_cases c4:l[i]<0
    ·rw[if_pos c4];exact U.au.2 ⟨rfl,fun h=>by have:=h.2.1 _ kz;omega⟩
    rw[if_neg c4];by_cases cd:l[i]>=(n:Int)
    ·rw[if_pos cd];exact U.au.2 ⟨rfl,fun h=>by have:=h.2.1 _ kz;omega⟩
    rw[if_neg cd];obtain⟨x,ab⟩:∃x:Nat,l[i]=(x:Int):=⟨l[i].toNat,by omega⟩;have Gc:x<n:=(by omega);rw[ab];simp(disch:=omega) only[d0,iR,br,kj,cB];by_cases i5:(x:Int)∈l.take i
    ·rw[if_pos i5];refine U.au.2 ⟨rfl,fun h=>?_⟩;obtain⟨m,tj,mT⟩:=jk.1 i5;simp only[fl] at tj;simp only[D9] at mT;have:=(List.getElem_inj h.2.2).1 (mT.trans ab.symm);omega
    rw[if_neg i5];simp(disch:=omega) only[br,aD,ab,d0,iR,kj,ls,yt];have af:l.take (i+1)=l.take i++[(x:Int)]:=(by rw[<-q1 j5,ab]);refine U.au.2 ⟨rfl,?_,fun k ac oW=>?_,?_⟩
    ·show((_,()):_×Unit)=_;refine congrArg (·,()) (gB fun v _=>?_);simp only[fZ];rw[af];by_cases h:v=x
     ·subst h;rw[if_pos rfl,bc (oH _ (List.mem_singleton_self _))]
     ·rw[if_neg h,decide_eq_decide,fe,fv];exact⟨.inl,fun a2=>a2.resolve_right (by omega)⟩
    ·by_cases h:k=i
     ·subst h;omega
     ·exact hr k ac (by omega)
    ·rw[af,kO];refine⟨aN,by simp,fun a aG b aa e=>?_⟩;rw[fv] at aa;rw[e,aa] at aG;exact i5 aG
   ·rintro _ ⟨rfl,hr,aN⟩;simp(disch:=omega) only[cB,if_neg];refine U.au.2 ⟨ah,fun y aB=>?_,?_⟩
    ·obtain⟨m,ao,rfl⟩:=jk.1 aB;exact hr m ao (by omega)
    ·rw[eC (by omega)] at aN;exact aN
  ·rintro(q|q) ai
   ·exact U.au.2 (by rw[bc (show gJ l n from ai)])
   ·exact U.au.2 (by rw[ai.1,a5 ai.2])
 ·rw[a5 (show¬(((l.length:Nat):Int)=(n:Int)) by omega)];simp only[nN,cond_true];rw[a5 (fun h=>ah h.1)]
def qS (aj:List (List Int)) (o:List Int):Int:=open Classical in if jJ aj≠0 then jJ aj else if o.length≠aj.length then 2 else if gJ o aj.length then 0 else 90
theorem asU {aj:List (List Int)} (hc:∀l∈aj,l.length<4611686018427387904) (o:List Int):Fa ((aj,()),o,())=some (if qS aj o=0 then((kl (km aj o),()),0,()) else(([],()),qS aj o,())):=by
 classical
 unfold Fa qS;simp only[Sp aj hc,br,ew];by_cases aU:jJ aj=0
 ·obtain⟨ag,c6⟩:=IX.1 aU;rw[bc aU];simp only[lN,cond_false,aU,ne_eq,not_true_eq_false,if_false];by_cases ah:o.length=aj.length
  ·rw[bc (show(((o.length:Nat):Int)=((aj.length:Nat):Int)) by omega)];simp only[lN,cond_false,ah,not_true_eq_false,if_false];rw[afS o aj.length (by omega)];simp only[br];by_cases ay:gJ o aj.length
   ·rw[bc ay];simp only[lN,cond_false,if_pos ay,if_true];rw[afK c6 hc ag ay.2.1 ay.2.2 (by omega)];rfl
   ·rw[a5 ay];simp only[nN,cond_true,if_neg ay];rw[if_neg (by omega)]
  ·rw[a5 (show¬(((o.length:Nat):Int)=((aj.length:Nat):Int)) by omega)];simp only[nN,cond_true,ah,not_false_eq_true,if_true];rw[if_neg (by omega)]
 ·rw[a5 aU];simp only[nN,cond_true,aU,ne_eq,not_false_eq_true,if_true,if_false]
theorem au2 (aj:List (List Int)) (v:Int):Jt ((aj,()),v,())=some (decide (0<=v/\v<(aj.length:Int)),()):=by
 unfold Jt;simp only[Ve];by_cases h:v>=0
 ·rw[if_pos h];congr 2;exact decide_eq_decide.2 ⟨fun R=>⟨h,R⟩,fun R=>R.2⟩
 ·rw[if_neg h,a5 (fun R=>h R.1)]
theorem arR (aj:List (List Int)) (o:List Int) (aH:o.length<4611686018427387904):JN (o,(some (aj,()),()),())=some (decide (¬∀x∈o,0<=x/\x<(aj.length:Int)),()):=by
 classical
 unfold JN Oi;simp only[];rw[<-U.eq_iff];have fQ:(∀x∈o,0<=x/\x<(aj.length:Int))↔∀i,i<o.length->∀h:i<o.length,0<=o[i]/\o[i]<(aj.length:Int):=
  ⟨fun h i _ hi=>h _ (dt hi),fun h x ab=>by obtain⟨i,hi,rfl⟩:=jk.1 ab;exact h i hi hi⟩
 refine U.bP (P:=fun r=>decide (r.1>=0)=decide (¬∀x∈o,0<=x/\x<(aj.length:Int))) ?_ (fun r hr=>U.au.2 (by rw[hr]));refine U.bP (anP o.length (fun i=>∀h:i<o.length,0<=o[i]/\o[i]<(aj.length:Int)) ?_ ?_) ?_
 ·intro i hi;simp(disch:=omega) only[cB,if_pos,l1 (ct hi),br,yt];unfold Oc;simp only[br,au2];by_cases h:0<=o[i]/\o[i]<(aj.length:Int)
  ·rw[bc h,if_pos (fun _=>h)];rfl
  ·rw[a5 h,if_neg (fun R=>h (R hi))];rfl
 ·simp(disch:=omega) only[cB,if_neg]
 ·rintro(q|q) ai
  ·refine U.au.2 ?_;rw[a5 (by decide),a5 (fun h=>h (fQ.2 ai))]
  ·refine U.au.2 ?_;rw[bc (show q.1>=0 from ai.1),bc (show¬∀x∈o,0<=x/\x<(aj.length:Int) from fun h=>ai.2 (fQ.1 h))]
theorem afT {aj:List (List Int)} (hc:∀l∈aj,l.length<4611686018427387904) (o:List Int) (aH:aj.length<=200->fK aj->aj.length<=12) (FZ:o.length<4611686018427387904):Jo ((aj,()),o,())=some (qS aj o,()):=by
 classical
 unfold Jo qS;simp only[Tv aj hc,br,ew];by_cases aU:jJ aj=0
 ·obtain⟨ag,c6⟩:=IX.1 aU;have awc:=aH ag c6;rw[bc aU];simp only[lN,cond_false,aU,ne_eq,not_true_eq_false,if_false];by_cases ah:o.length=aj.length
  ·rw[bc (show(((o.length:Nat):Int)=((aj.length:Nat):Int)) by omega)];simp only[lN,cond_false,ah,not_true_eq_false,if_false];rw[arR aj o FZ];simp only[br];by_cases J:∀x∈o,0<=x/\x<(aj.length:Int)
   ·rw[a5 (not_not_intro J)];simp only[beq_self_eq_true,cond_true];rw[auA o (by omega)];simp only[br,cB];by_cases R:o.Nodup
    ·rw[if_neg (not_not_intro R),if_pos ⟨ah,J,R⟩]
    ·rw[if_pos R,if_neg (fun h=>R h.2.2)]
   ·rw[bc J,if_neg (fun h=>J h.2.1)];rfl
  ·rw[a5 (show¬(((o.length:Nat):Int)=((aj.length:Nat):Int)) by omega)];simp only[nN,cond_true,ah,not_false_eq_true,if_true]
 ·rw[a5 aU];simp only[nN,cond_true,aU,ne_eq,not_false_eq_true,if_true]
end
section
open Go
def tw (aj:List (List Int)) (l:List Int) (a b:Nat):Bool:=decide (l.getD b 0∈aj.getD (l.getD a 0).toNat [])
theorem XV {aj:List (List Int)} (c6:fK aj) {l:List Int} (ah:∀x∈l,0<=x/\x<(aj.length:Int)) {a b:Nat} (aG:a<l.length) (aa:b<l.length):tw aj l a b=tw aj l b a:=by have J:=ah _ (dt aG);have R:=ah _ (dt aa);have one:∀x y:Int,0<=x/\x<(aj.length:Int)->0<=y/\y<(aj.length:Int)->y∈aj.getD x.toNat []->x∈aj.getD y.toNat []:=fun x y ab aB h=>(by obtain⟨u,rfl⟩:∃u:Nat,x=(u:Int):=⟨x.toNat,by omega⟩;obtain⟨v,rfl⟩:∃v:Nat,y=(v:Int):=⟨y.toNat,by omega⟩;simp only[d4] at h|-;have aQ:u<aj.length:=(by omega);have hv:v<aj.length:=(by omega);rw[rO aQ] at h;obtain⟨_,ae⟩:=e0.symm c6 u v ⟨aQ,h⟩;rw[rO hv];exact ae);unfold tw;rw[rO aG,rO aa];exact decide_eq_decide.2 ⟨one _ _ J R,one _ _ R J⟩
theorem ajU {aj:List (List Int)} (c6:fK aj) {l:List Int} (ah:∀x∈l,0<=x/\x<(aj.length:Int)):kU l.length (fun a b=>decide (a≠b)&&tw aj l a b)=kl (km aj l):=by unfold kU kl;rw[CU];refine ke fun v hv=>?_;have hv:=jl.1 hv;unfold ih oi;refine congrArg _ (D7 fun w hw=>?_);have hw:=jl.1 hw;rw[IP hv hw,IP hw hv];have:=XV c6 ah hv hw;unfold tw at this|-;rw[<-this,Bool.or_self];by_cases h:v=w<;>simp[h]
theorem amS {aj:List (List Int)} (c6:fK aj) (hc:∀l∈aj,l.length<4611686018427387904) {l:List Int} (ah:∀x∈l,0<=x/\x<(aj.length:Int)) (xu:l.length<=400):Jr ((aj,()),l,())=some ((kl (km aj l),()),()):=by
 generalize ag:l.length=n at*
 let B:Nat->Nat->Nat->Nat->Bool:=fun i j a b=>decide (a≠b)&&(tw aj l a b&&((decide (a<i)&&decide (b<i))||((decide (a=i)&&decide (b<j))||(decide (b=i)&&decide (a<j)))))
 unfold Jr;simp only[ag];rw[TI n (by omega)];simp only[br];refine aP (y:=(([],()),ig n (B n 0),())) (GO n (fun i=>(([],()),ig n (B i 0),())) 0 rfl ?_ (eL _) ?_ ?_) ?_
 ·refine congrArg (fun t=>(([],()),t,())) (C9 fun a b _ _=>?_);simp[B]
 ·intro i _ hi;have j5:i<l.length:=(by omega);have aD:bb l (i:Int)=some l[i]:=l1 (ct j5);have J:=ah _ (dt j5);obtain⟨v,hv⟩:∃v:Nat,l[i]=(v:Int):=⟨l[i].toNat,by omega⟩;have oc:v<aj.length:=(by omega);simp(disch:=omega) only[cB,if_pos,aD,br,G5,ag,LP,g6,hv,rf];have dR:(l.take i).length=i:=(by rw[fl];omega);refine aP (y:=(([],()),ig n (B i i),())) (GO i (fun j=>(([],()),ig n (B i j),())) 0 rfl rfl (eL _) ?_ ?_) ?_
  ·intro j _ al;have kX:j<l.length:=(by omega);have h5:bb (l.take i) (j:Int)=some l[j]:=l1 (by rw[oG al];exact ct kX);simp(disch:=omega) only[dR,cB,if_pos,h5,br,yt];rw[Qy aj v l[j] oc (hc _ (dt oc)) ((Ns aj).1 c6 v oc).1];simp only[br,cB];have FH:tw aj l i j=decide (l[j]∈aj[v]):=by
    unfold tw;rw[rO j5,rO kX,hv,d4,rO oc]
   have KV:tw aj l j i=decide (l[j]∈aj[v]):=(by rw[<-FH];exact XV c6 (by simpa[ag] using ah) kX j5);by_cases h:l[j]∈aj[v]
   ·rw[if_pos h,TD hi (by omega)];simp only[br];refine congrArg (fun t=>some (Sum.inl (((j+1:Nat):Int),([],()),t,()))) (C9 fun a b _ _=>?_);rw[bc h] at FH KV;simp only[B];rw[qb];simp only[hJ,bM,decide_eq_true_eq];constructor
    ·rintro(⟨J,R,ae⟩|⟨J,⟨rfl,rfl⟩|⟨rfl,rfl⟩⟩)
     ·exact⟨J,R,by omega⟩
     ·exact⟨by omega,FH,by omega⟩
     ·exact⟨by omega,KV,by omega⟩
    ·rintro⟨J,R,ae⟩;by_cases c:(a=i/\b=j)\/(a=j/\b=i)
     ·exact .inr ⟨by omega,c⟩
     ·exact .inl ⟨J,R,by omega⟩
   ·rw[if_neg h];simp only[br];refine congrArg (fun t=>some (Sum.inl (((j+1:Nat):Int),([],()),t,()))) (C9 fun a b _ _=>?_);rw[a5 h] at FH KV;simp only[B];rw[qb];simp only[hJ,bM,decide_eq_true_eq];constructor
    ·rintro⟨J,R,ae⟩;exact⟨J,R,by omega⟩
    ·rintro⟨J,R,ae⟩;refine⟨J,R,?_⟩;by_cases c4:a=i/\b=j
     ·rw[c4.1,c4.2,FH] at R;cases R
     ·by_cases cd:a=j/\b=i
      ·rw[cd.1,cd.2,KV] at R;cases R
      ·omega
  ·simp(disch:=omega) only[dR,cB,if_neg]
  ·simp(disch:=omega) only[yt];refine congrArg (fun t=>some (Sum.inl (((i+1:Nat):Int),([],()),t,()))) (C9 fun a b _ _=>?_);simp only[B];rw[qb];simp only[hJ,bM,decide_eq_true_eq];constructor
   ·rintro⟨J,R,ae⟩;exact⟨J,R,by omega⟩
   ·rintro⟨J,R,ae⟩;exact⟨J,R,by omega⟩
 ·simp(disch:=omega) only[cB,if_neg]
 ·rw[TA (by omega)];simp only[br];have e:kU n (B n 0)=kU n (fun a b=>decide (a≠b)&&tw aj l a b):=by
   refine gB fun v hv=>congrArg ih (D7 fun w hw=>?_);have hw:=jl.1 hw;simp[B,hv,hw]
  rw[e,<-ag,ajU c6 (by simpa[ag] using ah)]
theorem afV {aj:List (List Int)} (hc:∀l∈aj,l.length<4611686018427387904) (o:List Int) (aH:aj.length<=200->fK aj->aj.length<=12) (FZ:o.length<4611686018427387904):EJ ((aj,()),o,())=some (if qS aj o=0 then((kl (km aj o),()),0,()) else(([],()),qS aj o,())):=by
 classical
 unfold EJ;simp only[afT hc o aH FZ,br,ew];by_cases h:qS aj o=0
 ·rw[bc h,if_pos h];simp only[lN,cond_false];have aU:jJ aj=0:=by
   by_cases aZ:jJ aj=0
   ·exact aZ
   ·unfold qS at h;rw[if_pos aZ] at h;exact absurd h aZ
  obtain⟨ag,c6⟩:=IX.1 aU;have ay:gJ o aj.length:=by
   unfold qS at h;rw[if_neg (not_not_intro aU)] at h;by_cases ah:o.length=aj.length
   ·rw[if_neg (not_not_intro ah)] at h;by_cases ay:gJ o aj.length
    ·exact ay
    ·rw[if_neg ay] at h;omega
   ·rw[if_pos ah] at h;omega
  rw[amS c6 hc ay.2.1 (by have:=ay.1;omega)];rfl
 ·rw[a5 h,if_neg h];rfl
end
def kZ (E:List cr) (a b:Nat):Bool:=E.any fun x=>decide (x.1≠x.2.1)&&((decide ((a:Int)=x.1)&&decide ((b:Int)=x.2.1))||(decide ((a:Int)=x.2.1)&&decide ((b:Int)=x.1)))
def m9 (E:List cr) (a b:Nat):Bool:=E.any fun x=>decide ((a:Int)=x.1)&&decide ((b:Int)=x.2.1)
theorem NE {α:Type} {p:α->Bool} {E:List α} {i:Nat} (h:i<E.length):(E.take (i+1)).any p=((E.take i).any p||p E[i]):=by rw[nR,ct h,List.any_append];simp
theorem aoa (n:Nat) (B:Nat->Nat->Bool) (h:∀v w,B v w=false):(List.replicate n (List.replicate n false))=ig n B:=by unfold ig;rw[px];refine gB fun v _=>?_;rw[px];exact gB fun w _=>(h v w).symm
theorem UH {n:Nat} {B:Nat->Nat->Bool} {v w:Nat} (hv:v<n) (hw:w<n):gA (ig n B) v w=B v w:=by unfold gA ig;rw[lc,lc,Ck hv];show(bA n (B v))[w]?.getD false=_;rw[Ck hw];rfl
theorem V5 (n:Nat) (B:Nat->Nat->Bool):kl (ig n B)=kU n fun v w=>v !=w&&(B v w||B w v):=by unfold kl;rw[GR];refine gB fun v hv=>?_;unfold oi ih;congr 1;refine D7 fun w hw=>?_;have hw:=jl.1 hw;rw[UH hv hw,UH hw hv]
theorem X1 {E:List cr} (v w:Nat):(v !=w&&(m9 E v w||m9 E w v))=kZ E v w:=by
 induction E with
 |nil=>simp[m9,kZ]
 |cons x E aT=>
  unfold m9 kZ at*;simp only[List.any_cons];rw[<-aT,qb];simp only[bM,hJ,bne_iff_ne,decide_eq_true_eq];constructor
  ·rintro⟨aU,(⟨J,R⟩|h)|(⟨J,R⟩|h)⟩
   ·exact .inl ⟨by omega,.inl ⟨J,R⟩⟩
   ·exact .inr ⟨aU,.inl h⟩
   ·exact .inl ⟨by omega,.inr ⟨R,J⟩⟩
   ·exact .inr ⟨aU,.inr h⟩
  ·rintro(⟨aU,⟨J,R⟩|⟨J,R⟩⟩|⟨aU,h|h⟩)
   ·exact⟨by omega,.inl (.inl ⟨J,R⟩)⟩
   ·exact⟨by omega,.inr (.inl ⟨R,J⟩)⟩
   ·exact⟨aU,.inl (.inr h)⟩
   ·exact⟨aU,.inr (.inr h)⟩
theorem afI {n:Nat} {st aA aJ:List Int} (ao:ku n n st aA aJ) (ac:iM n n st aA aJ=0):EH (((n:Int),(n:Int),st,aA,aJ,()),())=some ((kU n (kZ (di st aA aJ n)),()),0,()):=by
 have bB:=(nX.1 ac).1;have cK:=zG bB;have dR:(di st aA aJ n).length<=10000:=(by rw[Fs bB n (Nat.le_refl _)];have:=bB.tD n (Nat.le_refl _);have:=ao.hi;omega);unfold EH;refine aP ao.check ?_;dsimp only;rw[ac,ew,bc rfl,ew,bc rfl];have hc:=ao.hc;refine aP (TI n (by omega)) (aP (acA ao ac) ?_);dsimp only;generalize di st aA aJ n=E at*;refine U.eq_iff.1 ?_;refine U.bP (P:=fun r=>r=(([],()),ig n (kZ E),())) ?_ ?_
 ·refine U.steps E.length (fun i s=>s=((i:Int),([],()),ig n (kZ (E.take i)),E,())) rfl ?_ ?_
  ·rintro i _ hi rfl;dsimp only;rw[dh (bc (show(i:Int)<aW E by simp only[bQ];omega)),qU hi,cY (by omega)];have ab:=cK E[i] (List.getElem_mem hi);obtain⟨a,aG⟩:=Int.eq_ofNat_of_zero_le ab.1;obtain⟨b,aa⟩:=Int.eq_ofNat_of_zero_le ab.2.2.1;have al:=TD (n:=n) (B:=kZ (E.take i)) (i:=a) (j:=b) (by omega) (by omega);rw[<-aG,<-aa] at al;refine U.bs al (U.au.2 ?_);dsimp only;have:ig n (fun bt NL=>kZ (E.take i) bt NL||(decide (a≠b)&&((decide (bt=a)&&decide (NL=b))||(decide (bt=b)&&decide (NL=a)))))=ig n (kZ (E.take (i+1))):=by
    refine C9 fun v w _ _=>?_;unfold kZ;rw[NE hi,aG,aa];congr 1;rw[qb];simp only[bM,hJ,decide_eq_true_eq];omega
   rw[this]
  ·rintro _ rfl;dsimp only;rw[df (a5 (show¬((E.length:Int)<aW E) by simp only[bQ];omega)),List.take_of_length_le (Nat.le_refl _)];exact U.au.2 rfl
 ·rintro _ rfl;dsimp only;exact U.bs (TA (by omega)) (U.au.2 rfl)
theorem asJ {n:Nat} {st aA aJ:List Int} (ao:ku n n st aA aJ) (ac:iM n n st aA aJ=0):Kf (((n:Int),(n:Int),st,aA,aJ,()),())=some ((kU n (kZ (di st aA aJ n)),()),0,()):=by
 have bB:=(nX.1 ac).1;have cK:=zG bB;have dR:(di st aA aJ n).length<=10000:=(by rw[Fs bB n (Nat.le_refl _)];have:=bB.tD n (Nat.le_refl _);have:=ao.hi;omega);unfold Kf;refine aP ao.Hq ?_;dsimp only;rw[ac,ew,bc rfl,ew,bc rfl];have hc:=ao.hc;refine aP (VD n (by omega)) (aP (aaC ao ac) ?_);dsimp only;generalize di st aA aJ n=E at*;refine U.eq_iff.1 ?_;refine U.bP (P:=fun r=>r=(([],()),ig n (m9 E),())) ?_ ?_
 ·refine U.steps E.length (fun i s=>s=((i:Int),([],()),ig n (m9 (E.take i)),())) ?_ ?_ ?_
  ·rw[aoa n (m9 (E.take 0)) fun v w=>rfl];rfl
  ·rintro i _ hi rfl;dsimp only;rw[dh (bc (show(i:Int)<aW E by simp only[bQ];omega)),cY (by omega)];have ab:=cK E[i] (List.getElem_mem hi);obtain⟨a,aG⟩:=Int.eq_ofNat_of_zero_le ab.1;obtain⟨b,aa⟩:=Int.eq_ofNat_of_zero_le ab.2.2.1;have nu:a<n:=(by omega);have FK:b<n:=(by omega);refine U.bs (dO hi) ?_;rw[aG];refine U.bs (iR (by rw[GR];omega)) (U.bs (dO hi) ?_);rw[aa];unfold ig;rw[kj nu,Option.bind_some];refine U.bs (iR (by rw[d0];omega)) ?_;rw[kj nu,kj FK,ls,Option.map_some,Option.bind_some,ls];refine U.au.2 ?_;have:bA n (fZ (fun v=>bA n (m9 (E.take i) v)) a (bA n (fZ (m9 (E.take i) a) b true)))=bA n fun v=>bA n (m9 (E.take (i+1)) v):=by
    refine gB fun v hv=>?_;by_cases g:v=a
    ·subst g;rw[p6];refine gB fun w hw=>?_;unfold m9;rw[NE hi,aG,aa];by_cases bz:w=b
     ·subst bz;rw[p6];simp
     ·rw[p5 _ _ bz,a5 (show¬((w:Int)=(b:Int)) by omega)];simp
    ·rw[p5 _ _ g];refine gB fun w hw=>?_;unfold m9;rw[NE hi,aG,aa,a5 (show¬((v:Int)=(a:Int)) by omega)];simp
   rw[this]
  ·rintro _ rfl;dsimp only;rw[df (a5 (show¬((E.length:Int)<aW E) by simp only[bQ];omega)),List.take_of_length_le (Nat.le_refl _)];exact U.au.2 rfl
 ·rintro _ rfl;dsimp only;refine U.bs (Ty _ (fun l ah=>?_) (by rw[GR];omega)) (U.au.2 ?_)
  ·rw[GR];unfold ig bA at ah;obtain⟨v,_,rfl⟩:=dj.1 ah;simp
  ·dsimp only;rw[V5];have:(fun v w=>v !=w&&(m9 E v w||m9 E w v))=kZ E:=(by funext v w;exact X1 v w);rw[this]
section
open Go
def m4 (o:List Int) (k:Nat):Nat:=(o.getD k 0).toNat
theorem gJ.get {o:List Int} {n:Nat} (h:gJ o n) {k:Nat} (ac:k<n):bb o (k:Int)=some ((m4 o k:Nat):Int)/\m4 o k<n:=by have ah:k<o.length:=(by rw[h.1];exact ac);have J:=h.2.1 _ (dt ah);have R:m4 o k=o[k].toNat:=(by unfold m4;rw[rO ah]);exact⟨by rw[l1 (ct ah),R];congr 1;omega,by omega⟩
theorem gJ.inj {o:List Int} {n:Nat} (h:gJ o n) {j k:Nat} (al:j<n) (ac:k<n) (e:m4 o j=m4 o k):j=k:=by have kX:j<o.length:=(by rw[h.1];exact al);have pE:k<o.length:=(by rw[h.1];exact ac);have J:=h.2.1 _ (dt kX);have R:=h.2.1 _ (dt pE);unfold m4 at e;rw[rO kX,rO pE] at e;exact(List.getElem_inj h.2.2).1 (by omega)
end
section
open Go
theorem apq:∀{n:Nat} {l:List Nat},l.Nodup->(∀x∈l,x<n)->l.length<=n:=by
 intro n
 induction n with
 |zero=>intro l _ h;cases l with
  |nil=>exact bS _
  |cons a l=>exact absurd (h a (mB ..)) (by omega)
 |succ n aT=>
  intro l aN h;have J:(l.erase n).Nodup:=aN.erase n;have R:∀x∈l.erase n,x<n:=fun x ab=>(by have ae:=h x (List.mem_of_mem_erase ab);have aI:x≠n:=fun e=>(by subst e;exact(aN.mem_erase_iff.1 ab).1 rfl);omega);have ae:=aT J R;by_cases ao:n∈l
  ·rw[List.length_erase_of_mem ao] at ae;omega
  ·rw[List.erase_of_not_mem ao] at ae;omega
theorem aoE {l:List Nat} {x:Nat}:(x:Int)∈ih l↔x∈l:=by
 unfold ih;rw[dj];constructor
 ·rintro⟨y,J,R⟩;obtain rfl:y=x:=(by omega);exact J
 ·exact fun h=>⟨x,h,rfl⟩
section
variable {aj:List (List Int)} (c6:fK aj)
include c6
end
end
section
open Go
def Kn (aj:List (List Int)) (x:Int):Nat:=(aj.getD x.toNat []).length
section
variable {aj:List (List Int)} (c6:fK aj) (ag:aj.length<=200)
include c6 ag
end
end
section
open Go
def Yu (aj:List (List Int)) (x y:Int):Prop:=Kn aj x<Kn aj y\/(Kn aj x=Kn aj y/\x<y)
instance(aj:List (List Int)) (x y:Int):Decidable (Yu aj x y):=by unfold Yu;exact inferInstance
end
section
open Go
def gN (o:List Int) (x:Nat):Nat:=o.idxOf (x:Int)
section
variable {o:List Int} {n:Nat} (ay:gJ o n)
include ay
theorem gJ.mem {x:Nat} (ab:x<n):(x:Int)∈o:=by
 apply Classical.byContradiction;intro l8;obtain⟨J,R,ae⟩:=ay;have e:o=ih (o.map Int.toNat):=by
  unfold ih;rw[wE]
  conv=>lhs;rw[<-List.map_id o]
  refine ke fun y h=>?_;have:=R y h;simp only[id,Function.comp];omega
 have aN:(o.map Int.toNat).Nodup:=(by rw[List.nodup_iff_pairwise_ne,BC];refine(iX.2 fun i j hi al dz=>?_);have a:=R _ (dt hi);have b:=R _ (dt al);have:=iX.1 (List.nodup_iff_pairwise_ne.1 ae) i j hi al dz;omega);have cL:x∉o.map Int.toNat:=fun h=>l8 (by rw[e];exact aoE.2 h);have:=apq (n:=n) (lQ.2 ⟨cL,aN⟩) (fun y aB=>by
  rcases dV.1 aB with rfl|aB
  ·exact ab
  ·obtain⟨z,aZ,rfl⟩:=dj.1 aB;have:=R z aZ;omega)
 rw[kc,iI] at this;omega
theorem gJ.pos {x:Nat} (ab:x<n):gN o x<n/\m4 o (gN o x)=x:=by have h:=ay.mem ab;have J:gN o x<o.length:=List.idxOf_lt_length_iff.2 h;refine⟨by rw[<-ay.1];exact J,?_⟩;unfold m4;rw[rO J,show o[gN o x]=(x:Int) from List.getElem_idxOf J];simp
theorem gJ.aak {k:Nat} (ac:k<n):gN o (m4 o k)=k:=by have J:=(ay.get ac).2;obtain⟨R,ae⟩:=ay.pos J;exact ay.inj R ac ae
end
section
variable {aj:List (List Int)} (c6:fK aj) {o:List Int} (ay:gJ o aj.length)
include c6 ay
end
end
def sB (E:List cr) (i j:Int):Int:=match E.find? fun x=>decide (x.1=i)&&decide (x.2.1=j) with
 |some x=>x.2.2.1
 |none=>0
theorem aiP {E:List cr} (hs:E.Pairwise g5) {x y:cr} (ab:x∈E) (aB:y∈E) (J:x.1=y.1) (R:x.2.1=y.2.1):x=y:=by
 obtain⟨s,P9,rfl⟩:=jk.1 ab;obtain⟨t,Lo,rfl⟩:=jk.1 aB;rcases rl s t with g|g|g
 ·have:=iX.1 hs s t P9 Lo g;unfold g5 at this;omega
 ·subst g;rfl
 ·have:=iX.1 hs t s Lo P9 g;unfold g5 at this;omega
theorem abY {E:List cr} (hs:E.Pairwise g5) {x:cr} (ab:x∈E):sB E x.1 x.2.1=x.2.2.1:=by
 unfold sB;cases h:E.find? fun y=>decide (y.1=x.1)&&decide (y.2.1=x.2.1) with
 |none=>
  have:=Il.1 h x ab;simp at this
 |some y=>
  have J:=List.find?_some h;have R:=List.mem_of_find?_eq_some h;simp only[Bool.and_eq_true,decide_eq_true_eq] at J;dsimp only;rw[aiP hs R ab J.1 J.2]
theorem auX {E:List cr} {i j:Int} (h:∀x∈E,¬(x.1=i/\x.2.1=j)):sB E i j=0:=by unfold sB;rw[Il.2];intro x ab;have:=h x ab;simpa using this
theorem abZ {E:List cr} {x:cr} (hs:(E++[x]).Pairwise g5) (i j:Int):sB (E++[x]) i j=if x.1=i/\x.2.1=j then x.2.2.1 else sB E i j:=by
 by_cases g:x.1=i/\x.2.1=j
 ·rw[if_pos g,<-g.1,<-g.2,abY hs (by simp)]
 ·rw[if_neg g];unfold sB;have J:List.find? (fun y:cr=>decide (y.1=i)&&decide (y.2.1=j)) [x]=none:=by
   refine Il.2 fun y aB=>?_;obtain rfl:=fv.1 aB;simpa using g
  rw[List.find?_append,J,Option.or_none]
theorem auW {E:List cr} (h:∀x∈E,eD x.2.2.1) (i j:Int):eD (sB E i j):=by
 unfold sB;cases g:E.find? fun y=>decide (y.1=i)&&decide (y.2.1=j) with
 |none=>exact⟨by decide,by decide⟩
 |some y=>exact h y (List.mem_of_find?_eq_some g)
theorem YM {rows cols:Nat} {st aA aJ:List Int} (h:e1 rows cols st aA aJ) {j:Nat} (al:j<cols) {x:cr}:x∈di st aA aJ cols/\x.2.1=(j:Int)↔∃k:Nat,st.getD j 0<=(k:Int)/\(k:Int)<st.getD (j+1) 0/\x=(aA.getD k 0,(j:Int),aJ.getD k 0,()):=by
 have tJ:=h.pos j (by omega);have g2:=h.pos (j+1) (by omega);constructor
 ·rintro⟨ab,e⟩;obtain⟨c,hc,ab⟩:=GX.1 ab;obtain⟨t,af,rfl⟩:=AC.1 ab;have akQ:c=j:=(by dsimp only at e;omega);subst akQ;exact⟨(st.getD c 0).toNat+t,by omega,by omega,rfl⟩
 ·rintro⟨k,J,R,rfl⟩;refine⟨GX.2 ⟨j,al,AC.2 ⟨k-(st.getD j 0).toNat,by omega,?_⟩⟩,rfl⟩;rw[show(st.getD j 0).toNat+(k-(st.getD j 0).toNat)=k by omega]
theorem asI {rows cols:Nat} {st aA aJ:List Int} (ao:ku rows cols st aA aJ) (ac:iM rows cols st aA aJ=0) (i:Int) {j:Nat} (al:j<cols):zq (((rows:Int),(cols:Int),st,aA,aJ,()),i,(j:Int),())=some (sB (di st aA aJ cols) i (j:Int),()):=by
 have h:=(nX.1 ac).1;have tJ:=h.pos j (by omega);have g2:=h.pos (j+1) (by omega);have da:=h.tD (j+1) (by omega);have l2:=h.val;have alI:=h.mono j al;have dR:=h.len;have j4:=ao.hi;have hn:=zH h cols (bS _);have hc:=ao.hc;unfold zq;refine aP (y:=.inl ()) ?_ ?_
 ·refine aP ao.Hq ?_;dsimp only;rw[ac,ew,bc rfl,a5 (show¬((j:Int)<0) by omega),a5 (show¬((j:Int)>=(cols:Int)) by omega)];rfl
 ·dsimp only;rw[gY (show j<st.length by omega),Option.bind_some];refine U.eq_iff.1 ?_;obtain⟨lo,fR⟩:=Int.eq_ofNat_of_zero_le tJ;obtain⟨hi,j3⟩:=Int.eq_ofNat_of_zero_le g2;have bz:bb st (bR (j:Int))=some (hi:Int):=(by rw[cY (by omega),gY (by omega),j3]);rw[bz,fR];refine U.bP (P:=fun r=>(r=.inl ()/\∀k:Nat,lo<=k->k<hi->aA.getD k 0≠i)\/∃k:Nat,lo<=k/\k<hi/\aA.getD k 0=i/\r=.inr (aJ.getD k 0,())) ?_ ?_
  ·refine U.steps (hi-lo) (fun t s=>s=(((lo+t:Nat):Int),())/\∀k:Nat,lo<=k->k<lo+t->aA.getD k 0≠i) ⟨rfl,fun k a b=>absurd b (by omega)⟩ ?_ ?_
   ·rintro t _ af ⟨rfl,l8⟩;dsimp only;rw[Option.bind_some,dh (bc (show((lo+t:Nat):Int)<(hi:Int) by omega))];refine U.bs (gY (by omega)) ?_;by_cases g:aA.getD (lo+t) 0=i
    ·rw[dh (by rw[g];simp)];refine U.bs (gY (by omega)) (U.au.2 ?_);exact .inr ⟨lo+t,by omega,by omega,g,rfl⟩
    ·rw[df (by simpa using g),cY (by omega)];refine U.au.2 ⟨rfl,fun k a b=>?_⟩;rcases ch k (lo+t) with c|c
     ·exact l8 k a c
     ·obtain rfl:k=lo+t:=(by omega);exact g
   ·rintro _ ⟨rfl,l8⟩;dsimp only;rw[Option.bind_some,df (a5 (show¬(((lo+(hi-lo):Nat):Int)<(hi:Int)) by omega))];exact U.au.2 (.inl ⟨rfl,fun k a b=>l8 k a (by omega)⟩)
  ·rintro r (⟨rfl,l8⟩|⟨k,a,b,g,rfl⟩)
   ·refine U.au.2 ?_;rw[auX];intro x ab ay;obtain⟨k,a,b,rfl⟩:=(YM h al).1 ⟨ab,ay.2⟩;exact l8 k (by omega) (by omega) ay.1
   ·refine U.au.2 ?_;have ab:=((YM h al).2 ⟨k,by omega,by omega,rfl⟩).1;have:=abY hn ab;dsimp only at this;rw[g] at this;rw[this]
theorem asb {o:List Int} {i w:Nat} (hi:i<o.length) (hw:o[i]=(w:Int)) (l8:(w:Int)∉o.take i):gN o w=i:=by unfold gN;have e:o=o.take i++(o[i]::o.drop (i+1)):=(by rw[List.getElem_cons_drop,pf]);rw[e,List.idxOf_append,if_neg l8,hw,List.idxOf_cons_self,fl];omega
theorem aai {o:List Int} {n:Nat} (ag:n<=10000) (aH:o.length<=1000000):Km (o,(n:Int),())=some (open Classical in if gJ o n then(bA n (fun v=>(gN o v:Int)),true,()) else([],false,())):=by
 classical
 unfold Km;dsimp only;by_cases ah:o.length=n
 ·rw[df (by rw[ew,bc (show aW o=(n:Int) by rw[bQ,ah])];rfl)];refine aP (lE (by omega)) (aP (lE (by omega)) ?_);refine U.eq_iff.1 ?_;refine U.bP (P:=fun r=>(r=.inl (bA n (fun v=>(gN o v:Int)),())/\gJ o n)\/(r=.inr ([],false,())/\¬gJ o n)) ?_ ?_
  ·refine U.steps n (fun i s=>s=((i:Int),bA n (fun v=>if(v:Int)∈o.take i then(gN o v:Int) else 0),bA n (fun v=>decide ((v:Int)∈o.take i)),())/\(∀x∈o.take i,0<=x/\x<(n:Int))/\(o.take i).Nodup) ?_ ?_ ?_
   ·refine⟨?_,by simp,by simp⟩;rw[px,px];simp
   ·rintro i _ hi ⟨rfl,J,R⟩;dsimp only;rw[dh (bc (show(i:Int)<aW o by rw[bQ];omega)),dO (show i<o.length by omega)];have kz:o[i]'(by omega)∈o:=List.getElem_mem _
    have af:o.take (i+1)=o.take i++[o[i]'(by omega)]:=by rw[nR,ct (by omega)];rfl
    have aN:∀x,x∈o.take (i+1)↔x∈o.take i\/x=o[i]'(by omega):=fun x=>by rw[af,fe,fv]
    have fh:(o.take (i+1)).Sublist o:=List.take_sublist _ _;have mV:∀w:Nat,o[i]'(by omega)=(w:Int)->(w:Int)∉o.take i->gN o w=i:=fun w=>asb (by omega)
    generalize hv:o[i]'(by omega)=v at*
    simp only[br];by_cases qw:v<0
    ·rw[df (show(decide (v<0)==false)=false by rw[bc qw];rfl)];refine U.au.2 (.inr ⟨rfl,fun ay=>?_⟩);have:=ay.2.1 v kz;omega
    ·rw[dh (show(decide (v<0)==false)=true by rw[a5 qw];rfl)];by_cases bT:v>=(n:Int)
     ·rw[df (show(decide (v>=(n:Int))==false)=false by rw[bc bT];rfl)];refine U.au.2 (.inr ⟨rfl,fun ay=>?_⟩);have:=ay.2.1 v kz;omega
     ·rw[dh (show(decide (v>=(n:Int))==false)=true by rw[a5 bT];rfl)];obtain⟨w,rfl⟩:=gn (show 0<=v by omega);rw[qU (by rw[d0];omega),l0];by_cases bz:(w:Int)∈o.take i
      ·simp only[br];rw[dh (bc bz)];refine U.au.2 (.inr ⟨rfl,fun ay=>?_⟩);have:=List.Nodup.sublist fh ay.2.2;rw[af,kO] at this;exact this.2.2 _ bz _ (fv.2 rfl) rfl
      ·simp only[br];rw[df (a5 bz)];simp only[br];rw[sC (by rw[d0];omega),ls,sC (by rw[d0];omega),ls];refine U.au.2 ⟨?_,?_,?_⟩
       ·rw[cY (by omega)];have:bA n (fZ (fun v=>decide ((v:Int)∈o.take i)) w true)=bA n (fun v=>decide ((v:Int)∈o.take (i+1))):=by
         refine gB fun u aQ=>?_;by_cases cZ:u=w
         ·subst cZ;rw[p6,bc ((aN _).2 (.inr rfl))]
         ·rw[p5 _ _ cZ];refine decide_eq_decide.2 ⟨fun h=>(aN _).2 (.inl h),fun h=>((aN _).1 h).resolve_right fun h=>cZ (by omega)⟩
        rw[this];have:bA n (fZ (fun v=>if(v:Int)∈o.take i then(gN o v:Int) else 0) w (i:Int))=bA n (fun v=>if(v:Int)∈o.take (i+1) then(gN o v:Int) else 0):=by
         refine gB fun u aQ=>?_;by_cases cZ:u=w
         ·subst cZ;rw[p6,if_pos ((aN _).2 (.inr rfl)),mV u rfl bz]
         ·rw[p5 _ _ cZ];have:(u:Int)∈o.take (i+1)↔(u:Int)∈o.take i:=⟨fun h=>((aN _).1 h).resolve_right fun h=>cZ (by omega),fun h=>(aN _).2 (.inl h)⟩;by_cases cU:(u:Int)∈o.take i
          ·rw[if_pos cU,if_pos (this.2 cU)]
          ·rw[if_neg cU,if_neg fun h=>cU (this.1 h)]
        rw[this]
       ·intro x ab;rcases(aN x).1 ab with h|h
        ·exact J x h
        ·subst h;omega
       ·rw[af,kO];refine⟨R,by simp,fun a aG b aa e=>?_⟩;obtain rfl:=fv.1 aa;exact bz (e▸aG)
   ·rintro _ ⟨rfl,J,R⟩;dsimp only;rw[df (a5 (show¬((n:Int)<aW o) by rw[bQ];omega))];rw[List.take_of_length_le (by omega)] at J R|-;have ay:gJ o n:=⟨ah,J,R⟩;refine U.au.2 (.inl ⟨?_,ay⟩);have:bA n (fun v=>if(v:Int)∈o then(gN o v:Int) else 0)=bA n (fun v=>(gN o v:Int)):=gB fun v hv=>if_pos (ay.mem hv);rw[this]
  ·rintro r (⟨rfl,h⟩|⟨rfl,h⟩)
   ·refine U.au.2 ?_;rw[if_pos h]
   ·refine U.au.2 ?_;rw[if_neg h]
 ·rw[dh (by rw[ew,a5 (show¬(aW o=(n:Int)) by rw[bQ];omega)];rfl),if_neg (fun h=>ah h.1)]
def yj (rows cols:Nat) (st aA aJ o:List Int):Int:=open Classical in if iM rows cols st aA aJ≠0 then iM rows cols st aA aJ else if rows≠cols then 5 else if gJ o rows then 0 else 90
theorem at2 {rows cols:Nat} {st aA aJ o:List Int} (h:yj rows cols st aA aJ o=0):iM rows cols st aA aJ=0/\rows=cols/\gJ o rows:=by
 unfold yj at h;split at h
 ·contradiction
 ·rename_i bT;split at h
  ·cases h
  ·rename_i bz;split at h
   ·rename_i cZ;exact⟨Classical.not_not.1 bT,Classical.not_not.1 bz,cZ⟩
   ·cases h
theorem afP {rows cols:Nat} {st aA aJ:List Int} (ao:ku rows cols st aA aJ) {o:List Int} (aH:o.length<=1000000) (h:yj rows cols st aA aJ o≠0):zr (((rows:Int),(cols:Int),st,aA,aJ,()),o,())=some (none,yj rows cols st aA aJ o,()):=by
 classical
 unfold zr;unfold yj at h|-;refine aP ao.check ?_;dsimp only;have hr:=ao.hr;by_cases J:iM rows cols st aA aJ=0
 ·rw[if_neg (not_not_intro J)] at h|-;rw[df (by rw[J];rfl)];by_cases R:rows=cols
  ·subst R;rw[if_neg (not_not_intro rfl)] at h|-;rw[df (by rw[ew,bc rfl];rfl)];refine aP (aai (by omega) aH) ?_;by_cases ae:gJ o rows
   ·exact absurd (if_pos ae) h
   ·rw[if_neg ae,if_neg ae];rfl
  ·rw[if_pos R,dh (by rw[ew,a5 (show¬((rows:Int)=(cols:Int)) by omega)];rfl)]
 ·rw[if_pos J,dh (by rw[ew,a5 J];rfl)]
def oQ (n:Nat) (E:List cr) (o:List Int):List (List Int):=kl (km (kU n (kZ E)) o)
theorem Wb (n:Nat) (B:Nat->Nat->Bool):∀l∈kU n B,l.length<=n:=by intro l ah;unfold kU bA at ah;obtain⟨v,_,rfl⟩:=dj.1 ah;rw[Dg];have:=kM (B v) (List.range n);simpa using this
theorem KN (n:Nat) (B:Nat->Nat->Bool):(kU n B).length=n:=d0 _ _
theorem ajV (n:Nat) (E:List cr):kU n (kZ E)=kl (ig n (m9 E)):=by rw[V5];have:(fun v w=>v !=w&&(m9 E v w||m9 E w v))=kZ E:=(by funext v w;exact X1 v w);rw[this]
theorem aaf {n:Nat} (ag:n<=5) {E:List cr} {o:List Int} (ay:gJ o n):qS (kU n (kZ E)) o=0:=by unfold qS;have hc:jJ (kU n (kZ E))=0:=IX.2 ⟨by rw[KN];omega,by rw[ajV];exact V6 _⟩;rw[if_neg (not_not_intro hc),if_neg (not_not_intro (by rw[KN];exact ay.1)),KN,if_pos ay]
theorem afW {n:Nat} (ag:n<=5) {E:List cr} {o:List Int} (ay:gJ o n):EJ ((kU n (kZ E),()),o,())=some ((oQ n E o,()),0,()):=by rw[afV (fun l ah=>by have:=Wb n _ l ah;omega) o (fun _ _=>by rw[KN];omega) (by rw[ay.1];omega),if_pos (aaf ag ay)];rfl
theorem asL {n:Nat} (ag:n<=5) {E:List cr} {o:List Int} (ay:gJ o n):Fa ((kU n (kZ E),()),o,())=some ((oQ n E o,()),0,()):=by rw[asU (fun l ah=>by have:=Wb n _ l ah;omega) o,if_pos (aaf ag ay)];rfl
theorem Wi {n:Nat} {E:List cr} {o:List Int} (ay:gJ o n):(oQ n E o).length=n:=by unfold oQ;rw[ajN,CU,ay.1]
theorem Wk (n:Nat) (E:List cr) (o:List Int):fK (oQ n E o):=V6 _
theorem Wj {n:Nat} (ag:n<=5) {E:List cr} {o:List Int} (ay:gJ o n):∀l∈oQ n E o,l.length<4611686018427387904:=fun l ah=>by have:=ajO _ l ah;rw[CU,ay.1] at this;omega
theorem afJ {n:Nat} {st aA aJ:List Int} (ag:n<=5) (ao:ku n n st aA aJ) (ac:iM n n st aA aJ=0):EH (vA n n (hE (di st aA aJ n)),())=some ((kU n (kZ (hE (di st aA aJ n))),()),0,()):=by have bB:=(nX.1 ac).1;have c9:=(nX.1 ac).2;have hn:=zH bB n (bS _);have cK:=zG bB;have xu:=LV ag (xQ hn) (xP cK) LU;have lv:=Cj bB ao.hw;have pD:=Cj bB (VY c9);have hD:=xQ hn;have j4:=xP cK;have mT:=abo (rows:=n) (cols:=n) (E:=hE (di st aA aJ n)) (by omega) (by omega) (by omega) (fun x ab=>lv x (hX.1 ab).1);have ga:=UZ hD j4 (fun x ab=>pD x (hX.1 ab).1);have:=afI mT ga;rw[VK hD j4] at this;exact this
def Cg:d7:=(false,((false,([],())),((0:Int),())))
theorem aid:Cg=ck (some 0):=by rw[ln];rfl
theorem L7:gM 0=some 0:=by decide
theorem GQ {α:Type}:∀(l:List (Int×α)) (k:Int) (v:α) (cN:Int),eU (jg l k v) cN=if cN=k then some v else eU l cN
 |[],k,v,cN=>by
  show(if k=cN then some v else none)=_;by_cases g:cN=k
  ·rw[if_pos g,if_pos g.symm]
  ·rw[if_neg g,if_neg (fun h=>g h.symm)];rfl
 |(a,u)::r,k,v,cN=>by
  unfold jg;by_cases bT:k<a
  ·rw[if_pos bT];show(if k=cN then some v else eU ((a,u)::r) cN)=_;by_cases g:cN=k
   ·rw[if_pos g,if_pos g.symm]
   ·rw[if_neg g,if_neg (fun h=>g h.symm)]
  ·rw[if_neg bT];by_cases bz:k=a
   ·rw[if_pos bz];show(if k=cN then some v else eU r cN)=_;by_cases g:cN=k
    ·rw[if_pos g,if_pos g.symm]
    ·rw[if_neg g,if_neg (fun h=>g h.symm)];show _=(if a=cN then some u else eU r cN);rw[if_neg (by omega)]
   ·rw[if_neg bz];show(if a=cN then some u else eU (jg r k v) cN)=_;rw[GQ r k v cN];show _=if cN=k then some v else(if a=cN then some u else eU r cN)
    by_cases cZ:a=cN
    ·rw[if_pos cZ,if_neg (by omega),if_pos cZ]
    ·rw[if_neg cZ,if_neg cZ]
abbrev jm:=Option (List (Int×d7)×Nat)
def mX (a b:Int):Int:=if b>a then b else a
def mY (a b:Int):Int:=if b<a then b else a
def b7 (E:List cr) (o:List Int) (p q:Nat):Option Int:=gM (sB E (mX (o.getD p 0) (o.getD q 0)) (mY (o.getD p 0) (o.getD q 0)))
theorem aiO (E:List cr) (o:List Int) (p q:Nat):b7 E o p q=b7 E o q p:=by unfold b7;rw[show mX (o.getD p 0) (o.getD q 0)=mX (o.getD q 0) (o.getD p 0) by unfold mX;split<;>split<;>omega,show mY (o.getD p 0) (o.getD q 0)=mY (o.getD q 0) (o.getD p 0) by unfold mY;split<;>split<;>omega]
structure lg (n:Nat) (o:List Int) (D:List cr) (M:List jm):Prop where
 len:M.length=n
 get:∀p,p<n->∃l c,M[p]?=some (some (l,c))/\∀q,q<n->p<=q->(eU l (q:Int)).getD Cg=ck (b7 D o p q)
theorem lg.nil {n:Nat} {o:List Int}:lg n o [] (bA n fun _=>some ([],0)) where
 len:=d0 _ _
 get:=fun p ay=>⟨[],0,Ck ay,fun q _ _=>by
  show Cg=ck (gM 0);rw[L7,aid]⟩
theorem aag {o:List Int} {n:Nat} (ay:gJ o n) {p:Nat} (h:p<n):o.getD p 0=(m4 o p:Int)/\m4 o p<n:=by have ah:p<o.length:=(by rw[ay.1];exact h);have:=ay.2.1 o[p] (dt ah);unfold m4;rw[mN ah];omega
theorem ase {o:List Int} {n:Nat} (ay:gJ o n) {r c p q:Nat} (hr:r<n) (hc:c<n) (WP:c<=r) (z8:p<n) (Xn:q<n) (jc:p<=q):(mY (gN o r:Int) (gN o c:Int)=(p:Int)/\mX (gN o r:Int) (gN o c:Int)=(q:Int))↔(r:Int)=mX (o.getD p 0) (o.getD q 0)/\(c:Int)=mY (o.getD p 0) (o.getD q 0):=by
 obtain⟨g2,eF⟩:=aag ay z8;obtain⟨aK,aL⟩:=aag ay Xn;obtain⟨bX,bn⟩:=ay.pos hr;obtain⟨c4,cd⟩:=ay.pos hc;have aan:=ay.aak z8;have aau:=ay.aak Xn;rw[g2,aK];constructor
 ·rintro⟨J,R⟩;have:(gN o r=p/\gN o c=q)\/(gN o r=q/\gN o c=p):=by
   unfold mY at J;unfold mX at R;split at J<;>split at R<;>omega
  rcases this with⟨aC,aV⟩|⟨aC,aV⟩
  ·rw[aC] at bn;rw[aV] at cd;unfold mX mY;split<;>split<;>omega
  ·rw[aC] at bn;rw[aV] at cd;unfold mX mY;split<;>split<;>omega
 ·rintro⟨J,R⟩;have:(r=m4 o p/\c=m4 o q)\/(r=m4 o q/\c=m4 o p):=by
   unfold mY at R;unfold mX at J;split at J<;>split at R<;>omega
  rcases this with⟨aC,aV⟩|⟨aC,aV⟩
  ·rw[aC,aV,aan,aau];unfold mX mY;split<;>split<;>omega
  ·rw[aC,aV,aan,aau];unfold mX mY;split<;>split<;>omega
theorem lg.skip {n:Nat} {o:List Int} {D:List cr} {M:List jm} (h:lg n o D M) {x:cr} (hs:(D++[x]).Pairwise g5) (ab:x.1<x.2.1):lg n o (D++[x]) M where
 len:=h.len
 get:=fun p ay=>by obtain⟨l,c,J,R⟩:=h.get p ay;refine⟨l,c,J,fun q ai jc=>?_⟩;rw[R q ai jc];unfold b7;rw[abZ hs,if_neg];rintro⟨ae,aI⟩;unfold mX at ae;unfold mY at aI;split at ae<;>split at aI<;>omega
theorem lg.add {n:Nat} {o:List Int} (ay:gJ o n) {D:List cr} {M:List jm} (h:lg n o D M) {r c lo hi:Nat} {v:Int} (hs:(D++[((r:Int),(c:Int),v,())]).Pairwise g5) (hr:r<n) (hc:c<n) (WP:c<=r) (fR:(lo:Int)=mY (gN o r:Int) (gN o c:Int)) (j3:(hi:Int)=mX (gN o r:Int) (gN o c:Int)) {l:List (Int×d7)} {k bE:Nat} (ah:M[lo]?=some (some (l,k))):lg n o (D++[((r:Int),(c:Int),v,())]) (M.set lo (some (jg l (hi:Int) (ck (gM v)),bE))) where
 len:=by rw[Ea,h.len]
 get:=fun p z8=>by
  have cg:lo<M.length:=(e9.1 ah).1;have key:∀q,q<n->p<=q->ck (b7 (D++[((r:Int),(c:Int),v,())]) o p q)=if lo=p/\hi=q then ck (gM v) else ck (b7 D o p q):=by
   intro q ai jc;have:=ase ay hr hc WP z8 ai jc;unfold b7;rw[abZ hs];rw[<-fR,<-j3] at this;by_cases g:lo=p/\hi=q
   ·rw[if_pos g,if_pos (this.1 ⟨by omega,by omega⟩)]
   ·rw[if_neg g,if_neg (fun h=>g (by have:=this.2 h;omega))]
  by_cases g:p=lo
  ·subst g;refine⟨_,_,nP cg,fun q ai jc=>?_⟩;rw[GQ,key q ai jc];by_cases bz:hi=q
   ·subst bz;rw[if_pos rfl,if_pos ⟨rfl,rfl⟩];rfl
   ·rw[if_neg (by omega),if_neg (fun h=>bz h.2)];obtain⟨l',c',J,R⟩:=h.get p z8;rw[ah] at J;cases J;exact R q ai jc
  ·obtain⟨l',c',J,R⟩:=h.get p z8;refine⟨l',c',?_,fun q ai jc=>?_⟩
   ·rw[pd (fun h=>g h.symm),J]
   ·rw[key q ai jc,if_neg (fun h=>g h.1.symm),R q ai jc]
theorem afQ {n:Nat} {st aA aJ:List Int} (ag:n<=5) (ao:ku n n st aA aJ) (ac:iM n n st aA aJ=0) {o:List Int} (ay:gJ o n):∃M,lg n o (di st aA aJ n) M/\zr (((n:Int),(n:Int),st,aA,aJ,()),o,())=some (some ((n:Int),(oQ n (hE (di st aA aJ n)) o,()),M,()),0,()):=by
 have bB:=(nX.1 ac).1;have hn:=zH bB n (bS _);have cK:=zG bB;have nz:=ay.1;have lv:=Cj bB ao.hw;suffices h:U (zr (((n:Int),(n:Int),st,aA,aJ,()),o,())) fun r=>∃M,lg n o (di st aA aJ n) M/\r=(some ((n:Int),(oQ n (hE (di st aA aJ n)) o,()),M,()),0,()) by obtain⟨r,J,M,R,rfl⟩:=h;exact⟨M,R,J⟩
 unfold zr;refine U.bs ao.check ?_;dsimp only;rw[df (by rw[ac];rfl),df (by rw[ew,bc rfl];rfl)];refine U.bs (aai (by omega) (by omega)) ?_;rw[if_pos ay];dsimp only;rw[Bool.not_true,cond_false];refine U.bs (afO ag ao ac) (U.bs (afJ ag ao ac) (U.bs (afW ag ay) ?_));dsimp only;generalize nt:oQ n (hE (di st aA aJ n)) o=G;refine U.bs (lE (by omega)) ?_;generalize jw:(((n:Int),(n:Int),st,aA,aJ,()):cR)=vv;refine U.bP (P:=fun r=>r=(vv,((n:Int),(G,()),bA n (fun _=>(some ([],0):jm)),()),())) ?_ ?_
 ·refine U.steps n (fun i s=>s=((i:Int),vv,((n:Int),(G,()),bA n (fun v=>if v<i then(some ([],0):jm) else none),()),())) ?_ ?_ ?_
  ·rw[px];rfl
  ·rintro i _ hi rfl;dsimp only;rw[dh (bc (show(i:Int)<aW (List.replicate n (none:jm)) by rw[bQ,List.length_replicate];omega)),cY (by omega)];refine U.bs (iR (by rw[d0];omega)) ?_;rw[kj hi,ls];refine U.au.2 ?_;have:bA n (fZ (fun v=>if v<i then(some ([],0):jm) else none) i (some ([],0)))=bA n (fun v=>if v<i+1 then(some ([],0):jm) else none):=by
    refine gB fun v hv=>?_;by_cases g:v=i
    ·subst g;rw[p6,if_pos (by omega)]
    ·rw[p5 _ _ g];by_cases bz:v<i
     ·rw[if_pos bz,if_pos (by omega)]
     ·rw[if_neg bz,if_neg (by omega)]
   dsimp only[Option.map_some];rw[this]
  ·rintro _ rfl;dsimp only;rw[df (a5 (show¬((n:Int)<aW (List.replicate n (none:jm))) by rw[bQ,List.length_replicate];omega))];have:bA n (fun v=>if v<n then(some ([],0):jm) else none)=bA n (fun _=>(some ([],0):jm)):=gB fun v hv=>if_pos hv;rw[this];exact U.au.2 rfl
 ·rintro _ rfl;dsimp only;refine U.bP (P:=fun r=>∃M,lg n o (di st aA aJ n) M/\r=(((n:Int),(G,()),M,()),())) ?_ (by rintro _ ⟨M,h,rfl⟩;exact U.au.2 ⟨M,h,rfl⟩);subst jw;refine U.steps n (fun j s=>∃M,lg n o (di st aA aJ j) M/\s=((j:Int),((n:Int),(n:Int),st,aA,aJ,()),((n:Int),(G,()),M,()),())) ⟨_,lg.nil,rfl⟩ ?_ ?_
  ·rintro j _ al ⟨M,bC,rfl⟩;have ah:=bB.len;obtain⟨lo,fR⟩:=Int.eq_ofNat_of_zero_le (bB.pos j (by omega));obtain⟨dP,j3⟩:=Int.eq_ofNat_of_zero_le (bB.pos (j+1) (by omega));have fb:dP<=aA.length:=(by have:=bB.tD (j+1) (by omega);omega);have FW:lo<=dP:=(by have:=bB.mono j al;omega);have hv:=bB.val;have j4:=ao.hi;dsimp only;rw[dh (bc (show(j:Int)<(n:Int) by omega)),cY (by omega)];refine U.bs (y:=(lo:Int)) (by rw[gY (by omega),fR]) ?_;have eb:di st aA aJ (j+1)=di st aA aJ j++jt aA aJ (j:Int) lo (dP-lo):=by
    rw[di,fR,j3];rfl
   have amj:(di st aA aJ (j+1)).Pairwise g5:=zH bB (j+1) (by omega);refine U.bP (P:=fun r=>∃M,lg n o (di st aA aJ (j+1)) M/\r=(((n:Int),(n:Int),st,aA,aJ,()),((n:Int),(G,()),M,()),())) ?_ (by rintro _ ⟨M,h,rfl⟩;exact U.au.2 ⟨M,h,rfl⟩);refine U.steps (dP-lo) (fun t s=>∃M,lg n o (di st aA aJ j++jt aA aJ (j:Int) lo t) M/\s=(((lo+t:Nat):Int),((n:Int),(n:Int),st,aA,aJ,()),((n:Int),(G,()),M,()),())) ⟨M,by simpa[jt] using bC,rfl⟩ ?_ ?_
   ·rintro t _ af ⟨M,bC,rfl⟩;dsimp only;refine U.bs (y:=(dP:Int)) (by rw[gY (by omega),j3]) ?_;rw[dh (bc (show((lo+t:Nat):Int)<(dP:Int) by omega))];have amb:=bB.rng j (lo+t) al (by omega) (by omega);obtain⟨r,hr⟩:=Int.eq_ofNat_of_zero_le amb.1;have Xs:(di st aA aJ j++jt aA aJ (j:Int) lo t++[((r:Int),(j:Int),aJ.getD (lo+t) 0,())]).Pairwise g5:=by
     refine List.Pairwise.sublist ?_ amj;rw[eb,ui];refine List.Sublist.append (List.Sublist.refl _) ?_;have:jt aA aJ (j:Int) lo t++[((r:Int),(j:Int),aJ.getD (lo+t) 0,())]=jt aA aJ (j:Int) lo (t+1):=(by rw[jt,hr]);rw[this,OI,OI,<-ajv (dP-lo) (t+1) _ (by omega)];exact List.take_sublist _ _
    have ak1:di st aA aJ j++jt aA aJ (j:Int) lo (t+1)=di st aA aJ j++jt aA aJ (j:Int) lo t++[((r:Int),(j:Int),aJ.getD (lo+t) 0,())]:=(by rw[ui,jt,hr]);rw[ak1];refine U.bP (P:=fun q=>∃M,lg n o (di st aA aJ j++jt aA aJ (j:Int) lo t++[((r:Int),(j:Int),aJ.getD (lo+t) 0,())]) M/\q=(((n:Int),(n:Int),st,aA,aJ,()),((n:Int),(G,()),M,()),())) ?_ ?_
    ·refine U.bs (y:=(r:Int)) (by rw[gY (by omega),hr]) ?_;rw[cB];refine U.ite (fun g=>?_) (fun g=>?_)
     ·have CI:r<n:=(by omega);refine U.bs (by rw[dO (by rw[d0];omega),l0]) (U.bs (by rw[dO (by rw[d0];omega),l0]) ?_);obtain⟨a,aG,nu⟩:∃a:Nat,(a:Int)=mY (gN o r:Int) (gN o j:Int)/\a<n:=by
       have:=(ay.pos CI).1;have:=(ay.pos al).1;unfold mY;split
       ·exact⟨_,rfl,by omega⟩
       ·exact⟨_,rfl,by omega⟩
      obtain⟨b,aa⟩:∃b:Nat,(b:Int)=mX (gN o r:Int) (gN o j:Int):=by
       unfold mX;split
       ·exact⟨_,rfl⟩
       ·exact⟨_,rfl⟩
      change U ((cV M.length (mY (gN o r:Int) (gN o j:Int))).bind _) _;rw[<-aG];refine U.bs (iR (by rw[bC.len];exact nu)) ?_;refine U.bs (gY (by omega)) ?_;refine U.bs (L8 (ao.hw _ (by rw[mN (by omega)];exact List.getElem_mem _))) ?_;dsimp only;obtain⟨l,k,ah,_⟩:=bC.get a nu;refine U.bs (uB ah) ?_;change U ((vw (some (l,k)) (mX (gN o r:Int) (gN o j:Int)) _).bind _) _;rw[<-aa];refine U.bs rfl ?_;rw[uB ah];exact U.au.2 ⟨_,bC.add ay Xs CI al (by omega) aG aa ah,rfl⟩
     ·exact U.au.2 ⟨M,bC.skip Xs (by dsimp only;omega),rfl⟩
    ·rintro _ ⟨M,h,rfl⟩;dsimp only;rw[cY (by omega)];exact U.au.2 ⟨M,h,rfl⟩
   ·rintro _ ⟨M,bC,rfl⟩;dsimp only;refine U.bs (y:=(dP:Int)) (by rw[gY (by omega),j3]) ?_;rw[df (a5 (show¬((lo+(dP-lo):Nat):Int)<(dP:Int) by omega))];exact U.au.2 ⟨M,by rw[eb];exact bC,rfl⟩
  ·rintro _ ⟨M,bC,rfl⟩;dsimp only;rw[df (a5 (show¬((n:Int)<(n:Int)) by omega))];exact U.au.2 ⟨M,bC,rfl⟩
theorem aty {n:Nat} {o:List Int} {E:List cr} {M:List jm} (h:lg n o E M) {G:List (List Int)} {i j:Nat} (hi:i<n) (al:j<n):Kl (some ((n:Int),(G,()),M,()),(i:Int),(j:Int),())=some (ck (b7 E o i j),()):=by
 unfold Kl;dsimp only;rw[Option.bind_some];have key:∀a b:Nat,a<n->b<n->a<=b->((bb M (a:Int)).bind fun e8=>some (((k2 (α:=d7) e8 (b:Int)).getD (false,((false,([],())),((0:Int),())))),()))=some (ck (b7 E o a b),()):=(by intro a b aG aa n6;obtain⟨l,c,J,R⟩:=h.get a aG;refine aP (l1 J) ?_;have:=R b aa n6;rw[<-this];rfl);by_cases g:(j:Int)<(i:Int)
 ·rw[if_pos g,if_neg (by omega),aiO];exact key j i al hi (by omega)
 ·rw[if_neg g];by_cases bz:(j:Int)>(i:Int)
  ·rw[if_pos bz];exact key i j hi al (by omega)
  ·rw[if_neg bz];obtain rfl:i=j:=(by omega);exact key i i hi hi (bS _)
theorem apD {f:Int} (h:dD f≠2047):∃v,gM f=some v:=by
 have aC:=KC f;have ie:=OT f;unfold gM;rw[if_neg h];unfold ho;generalize ao:(if f<9223372036854775808 then if dD f=0 then g9 f else g9 f+4503599627370496 else-(if dD f=0 then g9 f else g9 f+4503599627370496))=m;have aa:a7 m.natAbs<=53:=eo.2 (by
  have:(2:Nat)^53=9007199254740992:=(by decide);rw[this];split at ao<;>split at ao<;>omega)
 split
 ·exact⟨_,rfl⟩
 ·rw[if_neg (by split<;>omega)];exact⟨_,rfl⟩
theorem aoY {y:Int}:vE (some 0) (some y)=some 0:=by show ho (b6 0*b6 y) _=some 0;rw[Rr,Int.zero_mul];rfl
theorem aoZ {y:Int}:vE (some y) (some 0)=some 0:=by show ho (b6 y*b6 0) _=some 0;rw[Rr,Int.mul_zero];rfl
def DI (l:Nat->Nat->Int) (i j m:Nat):Option Int:=G6 (vE (gM (l m i)) (gM (l m j)))
def nG (A:Nat->Nat->Option Int) (l:Nat->Nat->Int) (j i:Nat):Option Int:=jD (A i j::(List.range j).map (DI l i j))
def rz (A:Nat->Nat->Option Int) (jP:Nat->Nat->Bool) (l:Nat->Nat->Int) (j i:Nat):Int:=
 if i=j then tR (nG A l j j) 0 else if jP j i=true then vU (nG A l j i) (gM (tR (nG A l j j) 0)) 0 else 0
def C7 (A:Nat->Nat->Option Int) (jP:Nat->Nat->Bool):Nat->Nat->Nat->Int
 |0=>fun _ _=>0
 |j+1=>fun m i=>if m=j then rz A jP (C7 A jP j) j i else C7 A jP j m i
def de (A:Nat->Nat->Option Int) (jP:Nat->Nat->Bool) (j i:Nat):Int:=C7 A jP (j+1) j i
theorem QW {A:Nat->Nat->Option Int} {jP:Nat->Nat->Bool} {m i:Nat}:∀{j},m<j->C7 A jP j m i=de A jP m i
 |0,h=>absurd h (by omega)
 |j+1,h=>by
  by_cases g:m=j
  ·subst g;rfl
  ·rw[<-QW (j:=j) (by omega)];show(if m=j then _ else _)=_;rw[if_neg g]
theorem abc {A:Nat->Nat->Option Int} {l l':Nat->Nat->Int} {j i:Nat} (h:∀m,m<j->∀i,l m i=l' m i):nG A l j i=nG A l' j i:=by unfold nG;congr 2;refine ke fun m ao=>?_;have ao:=jl.1 ao;unfold DI;rw[h m ao,h m ao]
theorem Ax (A:Nat->Nat->Option Int) (jP:Nat->Nat->Bool) (j i:Nat):de A jP j i=rz A jP (de A jP) j i:=by show(if j=j then rz A jP (C7 A jP j) j i else C7 A jP j j i)=_;rw[if_pos rfl];unfold rz;rw[abc (l':=de A jP) (fun m ao i=>QW ao),abc (i:=i) (l':=de A jP) (fun m ao i=>QW ao)]
theorem YD (A:Nat->Nat->Option Int) (jP:Nat->Nat->Bool) (j i:Nat):eD (de A jP j i):=by
 rw[Ax];unfold rz;split
 ·exact as9 0
 ·split
  ·exact ass 0
  ·exact⟨by decide,by decide⟩
theorem QX {A:Nat->Nat->Option Int} {jP:Nat->Nat->Bool} {j i:Nat} (h:jP j i=false) (R:i≠j):de A jP j i=0:=by rw[Ax];unfold rz;rw[if_neg R,if_neg (by rw[h];decide)]
theorem abs {α:Type} {f:α->Option Int} {p:α->Bool}:∀{L:List α},(∀m∈L,p m=false->f m=some 0)->gQ ((L.filter p).map f)=gQ (L.map f)/\hK ((L.filter p).map f)=hK (L.map f)
 |[],_=>⟨rfl,rfl⟩
 |m::L,h=>by
  obtain⟨J,R⟩:=abs (L:=L) fun x ab=>h x (by simp[ab]);by_cases g:p m=true
  ·rw[Ik g,eY,eY];have aC:∀a r,gQ (a::r)=gQ [a]+gQ r:=fun a r=>MZ [a] r;have aV:∀a r,hK (a::r)=(hK [a]&&hK r):=fun a r=>IG [a] r;rw[aC,aC _ (L.map f),aV,aV _ (L.map f),J,R];exact⟨rfl,rfl⟩
  ·rw[D8 g,eY,h m (by simp) (by simpa using g)];have aC:∀a r,gQ (a::r)=gQ [a]+gQ r:=fun a r=>MZ [a] r;have aV:∀a r,hK (a::r)=(hK [a]&&hK r):=fun a r=>IG [a] r;rw[aC,aV,J,R];refine⟨?_,?_⟩
   ·show _=(0:Int)+0+_;omega
   ·show _=(true&&true&&_);simp
theorem abt {α:Type} {f:α->Option Int} {p:α->Bool} {L:List α} {a:Option Int} (h:∀m∈L,p m=false->f m=some 0):jD (a::(L.filter p).map f)=jD (a::L.map f):=by obtain⟨J,R⟩:=abs h;have aC:∀a r,gQ (a::r)=gQ [a]+gQ r:=fun a r=>MZ [a] r;have aV:∀a r,hK (a::r)=(hK [a]&&hK r):=fun a r=>IG [a] r;unfold jD;rw[aC,aC _ (L.map f),aV,aV _ (L.map f),J,R]
def cm (G:List (List Int)) (j i:Nat):Bool:=decide ((i:Int)∈cT G j)
theorem aap {G:List (List Int)} {j i:Nat}:cm G j i=true↔i<G.length/\mv G j i:=by unfold cm;rw[decide_eq_true_eq,Db]
theorem asm {G:List (List Int)} {j:Nat} (h:j<G.length):cm G j j=true:=aap.2 ⟨h,.inl rfl⟩
theorem N4 {G:List (List Int)} {j:Nat} {x:Int} (h:x∈cT G j):∃i:Nat,x=(i:Int)/\i<G.length/\j<=i/\cm G j i=true:=by have aU:=h;unfold cT mH at h;obtain⟨i,hi,rfl⟩:=dj.1 h;have J:=Db.1 aU;exact⟨i,rfl,J.1,J.2.le,aap.2 J⟩
theorem ahA {G:List (List Int)} {j:Nat} (al:j<G.length):∃r,cT G j=(j:Int)::r/\∀x∈r,(j:Int)<x:=by
 have ao:(j:Int)∈cT G j:=Db.2 ⟨al,.inl rfl⟩;have aG:=N3 G j;cases h:cT G j with
 |nil=>rw[h] at ao;cases ao
 |cons a r=>
  rw[h] at ao aG;obtain⟨J,R⟩:=ri.1 aG;rcases dV.1 ao with e|e
  ·subst e;exact⟨r,rfl,J⟩
  ·have:=J _ e;obtain⟨i,rfl,_,hi,_⟩:=N4 (G:=G) (j:=j) (x:=a) (by rw[h];simp);omega
theorem IY {G:List (List Int)} (j:Nat):(cT G j).length<=G.length:=Vc _ _ _
def ik (G:List (List Int)) (s i:Nat):List Int:=ih ((List.range (min s i)).filter fun m=>cm G m i)
theorem agF {n:Nat} (ag:n<=5) {G:List (List Int)} (nt:G.length=n) (c6:fK G) (hc:∀l∈G,l.length<4611686018427387904) (M:List jm):I2 (some ((n:Int),(G,()),M,()),())=some ((bA n (cT G),(bA n fun _=>[]),(bA n fun _=>none),(bA n fun i=>ik G n i),()),()):=by
 unfold I2;dsimp only;rw[Option.bind_some];refine aP (acv c6 hc (by omega)) ?_;rw[nt];refine aP rfl (aP (lE (by omega)) (aP rfl (aP (lE (by omega)) (aP rfl (aP (lE (by omega)) ?_)))));refine U.eq_iff.1 ?_;dsimp only;have PA:(List.range n).map (cT G)=bA n (cT G):=rfl;rw[PA];refine U.bP (P:=fun r=>r=((bA n (cT G),(bA n fun _=>[]),(bA n fun _=>none),(bA n fun i=>ik G n i),()),())) ?_ (by rintro _ rfl;exact U.au.2 rfl);refine U.steps n (fun s t=>t=((s:Int),(bA n (cT G),(bA n fun _=>[]),(bA n fun _=>none),(bA n fun i=>ik G s i),()),())) ?_ ?_ ?_
 ·rw[px,px];have:(bA n fun _=>([]:List Int))=bA n fun i=>ik G 0 i:=gB fun i _=>by
   unfold ik;rw[Nat.zero_min];rfl
  rw[<-this];rfl
 ·rintro s _ hs rfl;dsimp only;rw[dh (bc (show(s:Int)<aW (bA n (cT G)) by rw[bQ,d0];omega)),cY (by omega)];refine U.bs (by rw[dO (by rw[d0];omega),l0]) ?_;have mP:=IY (G:=G) s;have qG:∀s i,(ik G s i).length<=i:=fun s i=>by
   unfold ik;rw[Dg];refine eu (kM _ _) ?_;rw[yM];omega
  refine U.bP (P:=fun r=>r=((bA n (cT G),(bA n fun _=>[]),(bA n fun _=>none),(bA n fun i=>ik G (s+1) i),()),())) ?_ (by rintro _ rfl;exact U.au.2 rfl);refine U.steps (cT G s).length (fun t q=>q=((t:Int),(bA n (cT G),(bA n fun _=>[]),(bA n fun _=>none),(bA n fun i=>ik G s i++if(i:Int)∈(cT G s).take t/\s<i then[(s:Int)] else[]),()),())) ?_ ?_ ?_
  ·have:(bA n fun i=>ik G s i)=bA n fun i=>ik G s i++if(i:Int)∈(cT G s).take 0/\s<i then[(s:Int)] else[]:=gB fun i _=>by simp
   rw[<-this];rfl
  ·rintro t _ af rfl;dsimp only;rw[dh (bc (show(t:Int)<aW (cT G s) by rw[bQ];omega)),cY (by omega)];obtain⟨w,hw,CQ,awP,Xk⟩:=N4 (List.getElem_mem af);have CP:(cT G s).take (t+1)=(cT G s).take t++[(w:Int)]:=(by rw[List.take_add_one,List.getElem?_eq_getElem af,hw];rfl);have CG:(w:Int)∉(cT G s).take t:=fun h=>by
    obtain⟨u,aQ,e⟩:=List.mem_take_iff_getElem.1 h;have:=iX.1 (N3 G s) u t (by omega) af (by omega);omega
   refine U.bP (P:=fun r=>r=((bA n (cT G),(bA n fun _=>[]),(bA n fun _=>none),(bA n fun i=>ik G s i++if(i:Int)∈(cT G s).take (t+1)/\s<i then[(s:Int)] else[]),()),())) ?_ (by rintro _ rfl;exact U.au.2 rfl);refine U.bs (y:=(w:Int)) (by rw[dO af,hw]) ?_;have Lm:∀i:Nat,i≠w->((i:Int)∈(cT G s).take (t+1)↔(i:Int)∈(cT G s).take t):=fun i hi=>(by rw[CP,fe,fv];exact⟨fun h=>h.resolve_right fun h=>hi (by omega),.inl⟩);rw[cB];refine U.ite (fun g=>?_) (fun g=>?_)
   ·refine U.bs (iR (by rw[d0];omega)) ?_;rw[kj (by omega),br,if_neg (fun h=>CG h.1),sK];have:=qG s w;rw[fD (by simp;omega),br];refine U.bs (iR (by rw[d0];omega)) ?_;rw[dh (by simp)];rw[kj (by omega),br,if_neg (fun h=>CG h.1),sK,kj (by omega),ls];refine U.au.2 ?_;have:bA n (fZ (fun i=>ik G s i++if(i:Int)∈(cT G s).take t/\s<i then[(s:Int)] else[]) w (ik G s w++[(s:Int)]))=bA n fun i=>ik G s i++if(i:Int)∈(cT G s).take (t+1)/\s<i then[(s:Int)] else[]:=by
     refine gB fun i hi=>?_;by_cases e:i=w
     ·subst e;rw[p6,if_pos ⟨by rw[CP];simp,by omega⟩]
     ·rw[p5 _ _ e];have:=Lm i e;by_cases aV:(i:Int)∈(cT G s).take t/\s<i
      ·rw[if_pos aV,if_pos ⟨this.2 aV.1,aV.2⟩]
      ·rw[if_neg aV,if_neg fun h=>aV ⟨this.1 h.1,h.2⟩]
    rw[<-this]
   ·refine U.au.2 ?_;have:(bA n fun i=>ik G s i++if(i:Int)∈(cT G s).take t/\s<i then[(s:Int)] else[])=bA n fun i=>ik G s i++if(i:Int)∈(cT G s).take (t+1)/\s<i then[(s:Int)] else[]:=by
     refine gB fun i hi=>?_;by_cases e:i=w
     ·subst e;rw[if_neg (by omega),if_neg (by omega)]
     ·have:=Lm i e;by_cases aV:(i:Int)∈(cT G s).take t/\s<i
      ·rw[if_pos aV,if_pos ⟨this.2 aV.1,aV.2⟩]
      ·rw[if_neg aV,if_neg fun h=>aV ⟨this.1 h.1,h.2⟩]
    rw[<-this]
  ·rintro _ rfl;dsimp only;rw[df (a5 (show¬(((cT G s).length:Nat):Int)<aW (cT G s) by rw[bQ];omega)),List.take_of_length_le (Nat.le_refl _)];refine U.au.2 ?_;have:(bA n fun i=>ik G s i++if(i:Int)∈cT G s/\s<i then[(s:Int)] else[])=bA n fun i=>ik G (s+1) i:=by
    refine gB fun i hi=>?_;unfold ik;by_cases g:s<i
    ·rw[iY (by omega),iY (by omega),rj,qg,Zb];congr 1;by_cases bz:(i:Int)∈cT G s
     ·rw[if_pos ⟨bz,g⟩,Ik (by unfold cm;exact bc bz)];rfl
     ·rw[if_neg (fun h=>bz h.1),D8 (by unfold cm;simpa using bz)];rfl
    ·rw[Nat.min_eq_right (by omega),Nat.min_eq_right (by omega),if_neg (fun h=>g h.2),sK]
   rw[this]
 ·rintro _ rfl;dsimp only;rw[df (a5 (show¬((n:Int)<aW (bA n (cT G))) by rw[bQ,d0];omega))];exact U.au.2 rfl
def Bu (A:Nat->Nat->Option Int) (G:List (List Int)) (j:Nat):Prop:=∀m,m<j->∀i,cm G m i=true->dD (de A (cm G) m i)≠2047
theorem Bu.of {A:Nat->Nat->Option Int} {G:List (List Int)} {j:Nat} (h:Bu A G j) {m i:Nat} (ao:m<j) (hi:m<i):∃v,gM (de A (cm G) m i)=some v:=by
 by_cases g:cm G m i=true
 ·exact apD (h m ao i g)
 ·rw[QX (by simpa using g) (by omega),L7];exact⟨0,rfl⟩
theorem abC {A:Nat->Nat->Option Int} {G:List (List Int)} {j:Nat} (h:Bu A G j) {m i:Nat} (ao:m<j) (hi:j<=i) (aZ:cm G m i=false\/cm G m j=false):DI (de A (cm G)) i j m=some 0:=by
 unfold DI;obtain⟨a,aG⟩:=h.of ao (i:=i) (by omega);obtain⟨b,aa⟩:=h.of ao (i:=j) (by omega);rcases aZ with aZ|aZ
 ·rw[QX aZ (by omega),L7,aa,aoY];rfl
 ·rw[QX aZ (by omega),L7,aG,aoZ];rfl
structure oD (A:Nat->Nat->Option Int) (G:List (List Int)) (n j:Nat) (X:List jm):Prop where
 len:X.length=n
 get:∀m,m<j->∃l c,X[m]?=some (some (l,c))/\∀i,i<n->eU l (i:Int)=if cm G m i=true then some (ck (gM (de A (cm G) m i))) else none
theorem aus (l:Nat->Nat->Int) (i j m:Nat):gU (DI l i j m):=apb (Y1 _ _)
theorem SG (A:Nat->Nat->Option Int) (l:Nat->Nat->Int) (j i:Nat):gU (nG A l j i):=abu _
theorem abd {n:Nat} (ag:n<=5) {o:List Int} {E:List cr} {M:List jm} (bC:lg n o E M) {G If:List (List Int)} {j:Nat} (al:j<n) (FT:Bu (b7 E o) G j) {X:List jm} (h3:oD (b7 E o) G n j X) (aJ:List (List Int)) (cs:List (List Int)) {i:Nat} (hi:i<n) (oV:j<=i):EB (some (cs,aJ,X,(bA n fun i=>ik G n i),()),some ((n:Int),(If,()),M,()),(i:Int),(j:Int),())=some (ck (nG (b7 E o) (de (b7 E o) (cm G)) j i),()):=by
 unfold EB;refine aP (aty bC hi al) ?_;refine aP rfl ?_;refine aP (by rw[dO (by rw[d0];omega),l0]) ?_;dsimp only;have amd:ik G n j=ih ((List.range j).filter fun m=>cm G m j):=(by unfold ik;rw[Nat.min_eq_right (by omega)]);rw[amd];generalize eQ:(List.range j).filter (fun m=>cm G m j)=L;have Wv:∀m∈L,m<j/\cm G m j=true:=fun m ao=>(by rw[<-eQ] at ao;exact⟨List.mem_range.1 (List.mem_filter.1 ao).1,(List.mem_filter.1 ao).2⟩);have Wu:L.length<=5:=by rw[<-eQ];refine Nat.le_trans (List.length_filter_le _ _) ?_;rw[List.length_range];omega
 let A:=b7 E o
 let bY:=DI (de (b7 E o) (cm G)) i j
 refine U.eq_iff.1 ?_;refine U.bP (P:=fun r=>r=(Cg,(b7 E o i j::(L.filter fun m=>cm G m i).map bY).map ck,())) ?_ ?_
 ·refine U.steps L.length (fun t s=>s=((t:Int),Cg,(b7 E o i j::((L.take t).filter fun m=>cm G m i).map bY).map ck,())) rfl ?_ ?_
  ·rintro t _ af rfl;dsimp only;rw[dh (bc (show(t:Int)<aW (ih L) by rw[bQ,Dg];omega)),cY (by omega)];refine U.bP (P:=fun r=>r=(Cg,(b7 E o i j::((L.take (t+1)).filter fun m=>cm G m i).map bY).map ck,())) ?_ (by rintro _ rfl;exact U.au.2 rfl);obtain⟨tj,mT⟩:=Wv L[t] (List.getElem_mem af);refine U.bs (y:=((L[t]:Nat):Int)) (by rw[dO (by rw[Dg];exact af)];simp[ih]) ?_;rw[SY af];generalize L[t]=m at*;obtain⟨l,c,J,R⟩:=h3.get m tj;refine U.bs rfl (U.bs (l1 J) ?_);have th:∀k:Nat,k2 (α:=d7) (some (l,c)) (k:Int)=eU l (k:Int):=fun _=>rfl;rw[th i,R i hi];by_cases g:cm G m i=true
   ·rw[if_pos g,if_pos g,Iq,cond_true];refine U.bs rfl (U.bs (l1 J) ?_);rw[th j,R j al,if_pos mT];refine U.bs (aia (vI _) (vI _)) (U.bs (aib (Y1 _ _)) ?_);have:((L.take t).filter fun m=>cm G m i).length<=5:=by
     refine eu (kM _ _) ?_;rw[fl];omega
    rw[fD (by simp;omega)];refine U.au.2 ?_;rw[jS,<-mz,jS];rfl
   ·rw[if_neg g,if_neg g,Option.isSome_none,cond_false,sK];exact U.au.2 rfl
  ·rintro _ rfl;dsimp only;rw[df (a5 (show¬((L.length:Int)<aW (ih L)) by rw[bQ,Dg];omega)),List.take_of_length_le (Nat.le_refl _)];exact U.au.2 rfl
 ·rintro _ rfl;dsimp only;refine U.bs (aic ?_ ?_) (U.au.2 ?_)
  ·intro d aN;rcases dV.1 aN with rfl|aN
   ·exact vI _
   ·obtain⟨m,_,rfl⟩:=dj.1 aN;exact aus _ _ _ _
  ·have:=kM (fun m=>cm G m i) L;simp only[kc,iI];omega
  ·have aC:jD (b7 E o i j::(L.filter fun m=>cm G m i).map bY)=jD (b7 E o i j::L.map bY):=abt fun m ao aZ=>abC FT (Wv m ao).1 oV (.inl aZ);have aV:jD (b7 E o i j::L.map bY)=jD (b7 E o i j::(List.range j).map bY):=by
    rw[<-eQ];exact abt fun m ao aZ=>abC FT (jl.1 ao) oV (.inr aZ)
   rw[aC,aV];rfl
def jF (A:Nat->Nat->Option Int) (G:List (List Int)) (m:Nat):List Int:=(cT G m).map fun i=>de A (cm G) m i.toNat
def iN (A:Nat->Nat->Option Int) (G:List (List Int)) (j:Nat):Int:=open Classical in if v5 (nG A (de A (cm G)) j j)<=0\/LL (de A (cm G) j j)=0 then 231 else if∀i,cm G j i=true->dD (de A (cm G) j i)≠2047 then 0 else 233
def ph (A:Nat->Nat->Option Int) (G:List (List Int)) (n j:Nat) (S:List Int) (X:List jm):Prop:=∃l c,X[j]?=some (some (l,c))/\∀i,i<n->eU l ((i:Nat):Int)=if((i:Nat):Int)∈S then some (ck (gM (de A (cm G) j i))) else none
theorem oD.set {A:Nat->Nat->Option Int} {G:List (List Int)} {n j:Nat} {X:List jm} (h:oD A G n j X) (x:jm):oD A G n j (X.set j x) where
 len:=by rw[Ea,h.len]
 get:=fun m ao=>by obtain⟨l,c,J,R⟩:=h.get m ao;exact⟨l,c,by rw[pd (by omega),J],R⟩
theorem oD.next {A:Nat->Nat->Option Int} {G:List (List Int)} {n j:Nat} {X:List jm} (h:oD A G n j X) (ay:ph A G n j (cT G j) X):oD A G n (j+1) X where
 len:=h.len
 get:=fun m ao=>by
  rcases ch m j with g|g
  ·exact h.get m g
  ·obtain rfl:m=j:=(by omega);obtain⟨l,c,J,R⟩:=ay;refine⟨l,c,J,fun i hi=>?_⟩;rw[R i hi];unfold cm;by_cases bz:(i:Int)∈cT G m
   ·rw[if_pos bz,if_pos (bc bz)]
   ·rw[if_neg bz,if_neg (by simpa using bz)]
theorem ph.one {A:Nat->Nat->Option Int} {G:List (List Int)} {n j:Nat} {X:List jm} (al:j<X.length) (c:Nat):ph A G n j [(j:Int)] (X.set j (some (jg [] (j:Int) (ck (gM (de A (cm G) j j))),c))):=by
 refine⟨_,_,nP al,fun i hi=>?_⟩;rw[GQ];by_cases g:i=j
 ·subst g;rw[if_pos rfl,if_pos (by simp)]
 ·rw[if_neg (by omega),if_neg (by simp;omega)];rfl
theorem ph.add {A:Nat->Nat->Option Int} {G:List (List Int)} {n j:Nat} {S:List Int} {X:List jm} {l:List (Int×d7)} {c:Nat} (ah:X[j]?=some (some (l,c))) (h:ph A G n j S X) (w:Nat) (v0:d7) (cd:Nat):ph A G n j (S++[(w:Int)]) (X.set j (some (jg (jg l (w:Int) v0) (w:Int) (ck (gM (de A (cm G) j w))),cd))):=by
 have cg:j<X.length:=(e9.1 ah).1;obtain⟨l',c',J,R⟩:=h;rw[ah] at J;cases J;refine⟨_,_,nP cg,fun i hi=>?_⟩;rw[GQ,GQ,R i hi];by_cases g:i=w
 ·subst g;rw[if_pos rfl,if_pos (by simp)]
 ·rw[if_neg (by omega),if_neg (by omega)];by_cases bz:(i:Int)∈S
  ·rw[if_pos bz,if_pos (by simp[bz])]
  ·rw[if_neg bz,if_neg (by simp[bz];omega)]
theorem ahH {n:Nat} (ag:n<=5) {o:List Int} {E:List cr} {M:List jm} (bC:lg n o E M) {G If:List (List Int)} (nt:G.length=n) {j:Nat} (al:j<n) (FT:Bu (b7 E o) G j) {X:List jm} (h3:oD (b7 E o) G n j X):U (I3 ((bA n (cT G),(bA n fun m=>if m<j then jF (b7 E o) G m else[]),X,(bA n fun i=>ik G n i),()),some ((n:Int),(If,()),M,()),(j:Int),())) fun r=>r.2.1=iN (b7 E o) G j/\(iN (b7 E o) G j=0->∃lU,oD (b7 E o) G n (j+1) lU/\r.1=(bA n (cT G),(bA n fun m=>if m<j+1 then jF (b7 E o) G m else[]),lU,(bA n fun i=>ik G n i),())):=by
 classical
 unfold I3;refine U.bs (abd ag bC al FT h3 _ _ al (Nat.le_refl _)) ?_;dsimp only;refine U.bs (rI (SG _ _ _ _)) ?_;dsimp only;have xA:de (b7 E o) (cm G) j j=tR (nG (b7 E o) (de (b7 E o) (cm G)) j j) 0:=(by rw[Ax];unfold rz;rw[if_pos rfl]);rw[cB];refine U.ite (fun g=>?_) (fun g=>?_)
 ·refine U.au.2 ?_;have aE:iN (b7 E o) G j=231:=(by unfold iN;rw[if_pos (.inl g)]);exact⟨aE.symm,fun h=>by rw[aE] at h;cases h⟩
 refine U.bs (ajP (SG _ _ _ _)) ?_;dsimp only;rw[<-xA];have hw:=YD (b7 E o) (cm G) j j;refine U.bs (anh hw) ?_;dsimp only;rw[e5,cB];refine U.ite (fun bz=>?_) (fun bz=>?_)
 ·refine U.au.2 ?_;have aE:iN (b7 E o) G j=231:=(by unfold iN;rw[if_pos (.inr bz)]);exact⟨aE.symm,fun h=>by rw[aE] at h;cases h⟩
 have aE:iN (b7 E o) G j=if∀i,cm G j i=true->dD (de (b7 E o) (cm G) j i)≠2047 then 0 else 233:=by unfold iN;rw[if_neg (fun h=>h.elim g bz)]
 have al5:∀i,i≠j->cm G j i=true->de (b7 E o) (cm G) j i=vU (nG (b7 E o) (de (b7 E o) (cm G)) j i) (gM (de (b7 E o) (cm G) j j)) 0:=fun i J R=>(by rw[Ax];unfold rz;rw[if_neg J,if_pos R,<-xA]);have xy:∀i,gU (nG (b7 E o) (de (b7 E o) (cm G)) j i):=fun i=>SG _ _ _ _;have amf:=@abd n ag o E M bC G If j al FT;have Xb:=YD (b7 E o) (cm G);obtain⟨r,hr,Ab⟩:=ahA (G:=G) (j:=j) (by omega);have kz:∀x∈r,∃i:Nat,x=(i:Int)/\i<n/\j<i/\cm G j i=true:=fun x ab=>(by obtain⟨i,rfl,J,R,ae⟩:=N4 (G:=G) (j:=j) (x:=x) (by rw[hr];simp[ab]);exact⟨i,rfl,by omega,by have:=Ab _ ab;omega,ae⟩);have fQ:(∀i,cm G j i=true->dD (de (b7 E o) (cm G) j i)≠2047)↔dD (de (b7 E o) (cm G) j j)≠2047/\∀x∈r,dD (de (b7 E o) (cm G) j x.toNat)≠2047:=by
  constructor
  ·intro h;refine⟨h j (asm (by omega)),fun x ab=>?_⟩;obtain⟨i,rfl,_,_,ae⟩:=kz x ab;exact h i ae
  ·rintro⟨J,R⟩ i hi;have:(i:Int)∈cT G j:=(by unfold cm at hi;exact of_decide_eq_true hi);rw[hr] at this;rcases dV.1 this with e|e
   ·obtain rfl:i=j:=(by omega);exact J
   ·exact R _ e
 have qH:jF (b7 E o) G j=de (b7 E o) (cm G) j j::r.map fun i=>de (b7 E o) (cm G) j i.toNat:=(by unfold jF;rw[hr,List.map_cons,Int.toNat_natCast]);have qG:r.length<=5:=(by have:=IY (G:=G) j;rw[hr,List.length_cons] at this;omega);have eb:ph (b7 E o) G n j (cT G j)=ph (b7 E o) G n j ((j:Int)::r):=(by rw[hr]);refine U.bs (L8 hw) ?_;dsimp only;refine U.bs rfl ?_;refine U.bs (iR (by rw[d0];omega)) ?_;rw[kj al,ls];refine U.bs rfl ?_;dsimp only;have awk:=h3.len;refine U.bs (iR (by omega)) ?_;rw[uB (List.getElem?_eq_getElem (show j<X.length by omega))];refine U.bs rfl ?_;dsimp only;have td:oD (b7 E o) G n j (X.set j (some (jg [] (j:Int) (ck (gM (de (b7 E o) (cm G) j j))),1))):=h3.set _;have Wx:ph (b7 E o) G n j [(j:Int)] (X.set j (some (jg [] (j:Int) (ck (gM (de (b7 E o) (cm G) j j))),1))):=ph.one (by omega) 1;change U ((zg (de (b7 E o) (cm G) j j,())).bind _) _;change oD (b7 E o) G n j (X.set j (some (jg [] (j:Int) (ck (gM (de (b7 E o) (cm G) j j))),1))) at td;generalize akD:X.set j (some (jg [] (j:Int) (ck (gM (de (b7 E o) (cm G) j j))),1))=af4 at td Wx;refine U.bs (Qt hw) ?_;dsimp only;rw[Bool.not_not,cB];refine U.ite (fun cZ=>?_) (fun cZ=>?_)
 ·refine U.au.2 ?_;rw[aE,if_neg (fun h=>(fQ.1 h).1 cZ)];exact⟨rfl,fun h=>by cases h⟩
 refine U.bs (by rw[dO (by rw[d0];omega),l0]) ?_;have Ag:((hp 1).bind fun GC=>(some ((cT G j).length)).bind fun GD=>(ia GC GD (cT G j).length).map fun _=>(GC,GD))=some (1,(cT G j).length):=(by rw[hr];show((ia 1 (r.length+1) (r.length+1)).map fun _=>(1,r.length+1))=_;unfold ia;rw[if_pos ⟨by omega,by omega⟩];rfl);refine U.bs Ag ?_;dsimp only;have WR:((cT G j).take (cT G j).length).drop 1=r:=(by rw[List.take_length,hr];rfl);rw[WR];clear Ag WR;refine U.bP (P:=fun q=>(∃lU,oD (b7 E o) G n j lU/\ph (b7 E o) G n j ((j:Int)::r) lU/\(∀x∈r,dD (de (b7 E o) (cm G) j x.toNat)≠2047)/\q=.inl ((bA n (cT G),(bA n fun m=>if m<j+1 then jF (b7 E o) G m else[]),lU,(bA n fun i=>ik G n i),()),()))\/∃c',q=.inr (c',233,())/\∃x∈r,dD (de (b7 E o) (cm G) j x.toNat)=2047) ?_ ?_
 ·refine U.steps r.length (fun t s=>∃lU,oD (b7 E o) G n j lU/\ph (b7 E o) G n j ((j:Int)::r.take t) lU/\(∀x∈r.take t,dD (de (b7 E o) (cm G) j x.toNat)≠2047)/\s=((t:Int),(bA n (cT G),bA n (fZ (fun m=>if m<j then jF (b7 E o) G m else[]) j (de (b7 E o) (cm G) j j::(r.take t).map fun i=>de (b7 E o) (cm G) j i.toNat)),lU,(bA n fun i=>ik G n i),()),())) ?_ ?_ ?_
  ·exact⟨af4,td,Wx,by simp,by rw[<-akD];rfl⟩
  ·rintro t _ af ⟨lU,xj,Cr,aF,rfl⟩;dsimp only;rw[dh (bc (show(t:Int)<aW r by rw[bQ];omega))];obtain⟨w,r4,CQ,awC,Xk⟩:=kz r[t] (List.getElem_mem af);have CP:r.take (t+1)=r.take t++[(w:Int)]:=(by rw[List.take_add_one,List.getElem?_eq_getElem af,r4];rfl);refine U.bs (y:=(w:Int)) (by rw[dO af,r4]) ?_;refine U.bs (amf xj _ _ CQ (by omega)) ?_;dsimp only;refine U.bs (L8 hw) ?_;dsimp only;refine U.bs (ajL (xy w) (vI _)) ?_;dsimp only;rw[<-al5 w (by omega) Xk];refine U.bs (Qt (Xb j w)) ?_;dsimp only;rw[Bool.not_not,cB];refine U.ite (fun cU=>?_) (fun cU=>?_)
   ·exact U.au.2 (.inr ⟨_,rfl,(w:Int),by rw[<-r4];exact dt af,cU⟩)
   obtain⟨l,c,ah,alA⟩:=Cr;have dR:j<lU.length:=(List.getElem?_eq_some_iff.1 ah).1;refine U.bs (iR dR) (U.bs (iR (by rw[d0];omega)) ?_);rw[kj al,p6];refine U.bs rfl ?_;rw[fD (by simp;omega)];refine U.bs rfl ?_;refine U.bs (L8 (Xb j w)) ?_;dsimp only;refine U.bs (iR (by rw[d0];omega)) ?_;rw[dh (by simp),kj al,p6];refine U.bs rfl ?_;rw[kj al,ls];refine U.bs rfl ?_;dsimp only;refine U.bs (uB ah) ?_;refine U.bs rfl ?_;rw[uB ah];refine U.bs rfl ?_;dsimp only;rw[dh (by simp)];refine U.bs (uB (List.getElem?_set_self dR)) ?_;refine U.bs rfl ?_;rw[uB (List.getElem?_set_self dR)];refine U.bs rfl ?_;dsimp only;rw[cY (by omega),List.set_set];have aC:bA n (fZ (fZ (fun m=>if m<j then jF (b7 E o) G m else[]) j (de (b7 E o) (cm G) j j::(r.take t).map fun i=>de (b7 E o) (cm G) j i.toNat)) j (de (b7 E o) (cm G) j j::((r.take t).map fun i=>de (b7 E o) (cm G) j i.toNat)++[de (b7 E o) (cm G) j w]))=bA n (fZ (fun m=>if m<j then jF (b7 E o) G m else[]) j (de (b7 E o) (cm G) j j::(r.take (t+1)).map fun i=>de (b7 E o) (cm G) j i.toNat)):=by
    refine gB fun v hv=>?_;by_cases zS:v=j
    ·subst zS;rw[p6,p6,CP,jS];rfl
    ·rw[p5 _ _ zS,p5 _ _ zS,p5 _ _ zS]
   rw[aC];refine U.au.2 ⟨_,xj.set _,?_,?_,rfl⟩
   ·rw[CP,<-mz];exact ph.add ah ⟨l,c,ah,alA⟩ w _ _
   ·intro x ab;rw[CP,fe,fv] at ab;rcases ab with ab|rfl
    ·exact aF x ab
    ·exact cU
  ·rintro _ ⟨lU,xj,Cr,aF,rfl⟩;dsimp only;rw[List.take_of_length_le (Nat.le_refl _)] at Cr aF|-;rw[df (a5 (show¬((r.length:Int)<aW r) by rw[bQ];omega))];refine U.au.2 (.inl ⟨lU,xj,Cr,aF,?_⟩);have aC:bA n (fZ (fun m=>if m<j then jF (b7 E o) G m else[]) j (de (b7 E o) (cm G) j j::r.map fun i=>de (b7 E o) (cm G) j i.toNat))=bA n fun m=>if m<j+1 then jF (b7 E o) G m else[]:=by
    refine gB fun v hv=>?_;by_cases zS:v=j
    ·subst zS;rw[p6,if_pos (by omega),qH]
    ·rw[p5 _ _ zS];by_cases s7:v<j
     ·rw[if_pos s7,if_pos (by omega)]
     ·rw[if_neg s7,if_neg (by omega)]
   rw[aC]
 ·rintro q (⟨lU,xj,Cr,aF,rfl⟩|⟨c',rfl,x,ab,amD⟩)
  ·dsimp only;refine U.au.2 ?_;rw[aE,if_pos (fQ.2 ⟨cZ,aF⟩)];exact⟨rfl,fun _=>⟨lU,xj.next (by rw[eb];exact Cr),rfl⟩⟩
  ·dsimp only;refine U.au.2 ?_;rw[aE,if_neg (fun h=>(fQ.1 h).2 x ab amD)];exact⟨rfl,fun h=>by cases h⟩
def g1 (G:List (List Int)):Nat->List Int
 |0=>[]
 |j+1=>g1 G j++cT G j
def DL (A:Nat->Nat->Option Int) (G:List (List Int)):Nat->List Int
 |0=>[]
 |j+1=>DL A G j++jF A G j
def rL (A:Nat->Nat->Option Int) (G:List (List Int)) (o:List Int) (n:Nat):pk:=(o,(bA (n+1) (fun k=>((g1 G k).length:Int)),(g1 G n,(DL A G n,()))))
def tH:pk:=(([]:bO),(([]:bO),(([]:bO),(([]:bO),()))))
def tE (A:Nat->Nat->Option Int) (G:List (List Int)) (o:List Int) (n:Nat):Nt:=match(List.range n).find? fun j=>decide (iN A G j≠0) with
 |some j=>if iN A G j=231 then(tH,(j:Int),231,()) else(tH,0,iN A G j,())
 |none=>(rL A G o n,(n:Int),0,())
theorem anA {A:Nat->Nat->Option Int} {G:List (List Int)} {o:List Int} {n j:Nat} (h:∀m,m<j->iN A G m=0) (al:j<n) (aE:iN A G j≠0):tE A G o n=if iN A G j=231 then(tH,(j:Int),231,()) else(tH,0,iN A G j,()):=by have:(List.range n).find? (fun j=>decide (iN A G j≠0))=some j:=(by rw[List.find?_eq_some_iff_getElem];refine⟨bc aE,j,by simpa using al,by simp,fun m ao=>?_⟩;simp only[List.getElem_range];simpa using h m ao);unfold tE;rw[this]
theorem Yq {A:Nat->Nat->Option Int} {G:List (List Int)} {o:List Int} {n:Nat} (h:∀m,m<n->iN A G m=0):tE A G o n=(rL A G o n,(n:Int),0,()):=by have:(List.range n).find? (fun j=>decide (iN A G j≠0))=none:=(by rw[Il];intro m ao;simpa using h m (jl.1 ao));unfold tE;rw[this]
theorem aiT {A:Nat->Nat->Option Int} {G:List (List Int)} {j:Nat} (h:iN A G j=0):∀i,cm G j i=true->dD (de A (cm G) j i)≠2047:=by
 unfold iN at h;split at h
 ·cases h
 ·split at h
  ·assumption
  ·cases h
theorem aj9 {A:Nat->Nat->Option Int} {G:List (List Int)} {j:Nat} (h:∀m,m<j->iN A G m=0):Bu A G j:=fun m ao=>aiT (h m ao)
theorem Qo (G:List (List Int)):∀j,(g1 G j).length<=j*G.length
 |0=>eL _
 |j+1=>by rw[g1,qi,iJ,kP];have:=Qo G j;have:=IY (G:=G) j;omega
theorem ab2 (A:Nat->Nat->Option Int) (G:List (List Int)):∀j,(DL A G j).length=(g1 G j).length
 |0=>rfl
 |j+1=>by rw[g1,DL,qi,qi,ab2 A G j];unfold jF;rw[iI]
theorem ahw {l:List Int} (ag:l.length<=100000000):JL (l,())=some (l,()):=by
 unfold JL;have e:((dA (([]:List Int).length+l.length)).bind fun _=>some (([]++l:List Int),()))=some (l,()):=(by rw[fD (by simp;omega)];rfl);show qP l.length (some ([],())) ((dA (([]:List Int).length+l.length)).bind fun _=>some (([]++l:List Int),()))=_;unfold qP;rw[e];split
 ·rename_i h;obtain rfl:=pb h;rw[if_pos rfl]
 ·rfl
theorem ajC {n:Nat} (ag:n<=5) {A:Nat->Nat->Option Int} {G:List (List Int)} (nt:G.length=n) {o:List Int} (aH:o.length<=1000000) (X:List jm) (ats:List (List Int)):I4 (some (bA n (cT G),bA n (jF A G),X,ats,()),o,())=some (rL A G o n,()):=by
 unfold I4;refine aP (ahw (by omega)) ?_;refine aP rfl ?_;refine U.eq_iff.1 ?_;dsimp only;refine U.bP (P:=fun r=>r=(tH,rL A G o n,())) ?_ (by rintro _ rfl;exact U.au.2 rfl);refine U.steps n (fun j s=>s=((j:Int),tH,(o,(bA (j+1) (fun k=>((g1 G k).length:Int)),(g1 G j,(DL A G j,())))),())) ?_ ?_ ?_
 ·rfl
 ·rintro j _ al rfl;dsimp only;rw[dh (bc (show(j:Int)<aW (bA n (cT G)) by rw[bQ,d0];omega)),cY (by omega)];refine U.bs rfl ?_;refine U.bs (by rw[dO (by rw[d0];omega),l0]) ?_;have J:=Qo G j;have R:=IY (G:=G) j;have ae:=ab2 A G j;have aI:j*G.length<=5*5:=Nat.mul_le_mul (by omega) (by omega);have aX:(jF A G j).length=(cT G j).length:=(by unfold jF;rw[List.length_map]);rw[fD (by omega)];refine U.bs rfl (U.bs rfl ?_);refine U.bs (by rw[dO (by rw[d0];omega),l0]) ?_;rw[fD (by omega)];refine U.bs rfl ?_;rw[fD (by rw[d0];simp;omega)];refine U.bs rfl (U.au.2 ?_);rw[zL (j+1)];rfl
 ·rintro _ rfl;dsimp only;rw[df (a5 (show¬((n:Int)<aW (bA n (cT G))) by rw[bQ,d0];omega))];exact U.au.2 rfl
theorem TF {n:Nat} {st aA aJ:List Int} (ag:n<=5) (ao:ku n n st aA aJ) (ac:iM n n st aA aJ=0) {o:List Int} (ay:gJ o n):wV (((n:Int),(n:Int),st,aA,aJ,()),o,())=some (tE (b7 (di st aA aJ n) o) (oQ n (hE (di st aA aJ n)) o) o n):=by
 obtain⟨M,bC,xi⟩:=afQ ag ao ac ay;have FG:=Wi (E:=hE (di st aA aJ n)) ay;have Pf:=Wk n (hE (di st aA aJ n)) o;have Pe:=Wj (E:=hE (di st aA aJ n)) ag ay;have nz:=ay.1;unfold wV;refine aP xi ?_;dsimp only;rw[df (show((0:Int)!=0)=false from rfl)];generalize oQ n (hE (di st aA aJ n)) o=G at*;generalize di st aA aJ n=E at*;refine aP (agF ag FG Pf Pe M) (aP rfl ?_);refine U.eq_iff.1 ?_;dsimp only;refine U.bP (P:=fun q=>(q=.inr (tE (b7 E o) G o n))\/(∃X,q=.inl (tH,(bA n (cT G),bA n (jF (b7 E o) G),X,(bA n fun i=>ik G n i),()),()))/\tE (b7 E o) G o n=(rL (b7 E o) G o n,(n:Int),0,())) ?_ ?_
 ·refine U.steps n (fun j s=>(∀m,m<j->iN (b7 E o) G m=0)/\∃X,oD (b7 E o) G n j X/\s=((j:Int),tH,(bA n (cT G),(bA n fun m=>if m<j then jF (b7 E o) G m else[]),X,(bA n fun i=>ik G n i),()),())) ?_ ?_ ?_
  ·exact⟨fun m ao=>absurd ao (by omega),bA n (fun _=>none),⟨d0 _ _,fun m ao=>absurd ao (by omega)⟩,rfl⟩
  ·rintro j _ al ⟨z9,X,h3,rfl⟩;dsimp only;rw[dh (bc (show(j:Int)<(n:Int) by omega)),cY (by omega)];refine U.bP (ahH ag bC FG al (aj9 z9) h3) ?_;rintro⟨c',e,_⟩ ⟨aE,qA⟩;dsimp only at aE qA|-;subst aE;rw[e5,cB];refine U.ite (fun g=>?_) (fun g=>?_)
   ·obtain⟨lU,xj,rfl⟩:=qA g;refine U.au.2 ⟨fun m ao=>?_,lU,xj,rfl⟩;rcases ch m j with h|h
    ·exact z9 m h
    ·obtain rfl:m=j:=(by omega);exact g
   ·rw[e5,cB];have eQ:=anA (o:=o) z9 al g;refine U.ite (fun bz=>?_) (fun bz=>?_)
    ·refine U.au.2 (.inl ?_);rw[eQ,if_pos bz,bz];rfl
    ·refine U.au.2 (.inl ?_);rw[eQ,if_neg bz];rfl
  ·rintro _ ⟨z9,X,h3,rfl⟩;dsimp only;rw[df (a5 (show¬((n:Int)<(n:Int)) by omega))];refine U.au.2 (.inr ⟨⟨X,?_⟩,Yq z9⟩);have:(bA n fun m=>if m<n then jF (b7 E o) G m else[])=bA n (jF (b7 E o) G):=gB fun m ao=>if_pos ao;rw[this]
 ·rintro q (rfl|⟨⟨X,rfl⟩,h⟩)
  ·exact U.au.2 rfl
  ·dsimp only;refine U.bs (ajC ag FG (by omega) X _) ?_;rw[h];exact U.au.2 rfl
theorem afL {rows cols:Nat} {st aA aJ:List Int} (ao:ku rows cols st aA aJ) {o:List Int} (aH:o.length<=1000000) (h:yj rows cols st aA aJ o≠0):wV (((rows:Int),(cols:Int),st,aA,aJ,()),o,())=some (tH,0,yj rows cols st aA aJ o,()):=by unfold wV;refine aP (afP ao aH h) ?_;dsimp only;rw[ew,a5 h];rfl
def Ir (A:Nat->Nat->Option Int) (G:List (List Int)) (j:Nat):Prop:=v5 (nG A (de A (cm G)) j j)<=0\/LL (de A (cm G) j j)=0
theorem VL {A:Nat->Nat->Option Int} {G:List (List Int)} {j:Nat} (h:¬Ir A G j) (aF:∀x∈cT G j,dD (de A (cm G) j x.toNat)≠2047):iN A G j=0:=by unfold Ir at h;unfold iN;rw[if_neg h,if_pos];intro i hi;exact aF (i:Int) (by unfold cm at hi;exact of_decide_eq_true hi)
theorem Ha {m:Int} {a k:Nat} (h:m.natAbs=2*a+1):b6 (m*2^k)=m/\i7 (m*2^k)=(k:Int)-65536:=by have J:(m*2^k).natAbs=(2*a+1)*2^k:=(by rw[vG,h]);have R:=HM J;unfold b6 i7;rw[R];exact⟨Int.mul_ediv_cancel _ (by have:(0:Int)<2^k:=uh (by decide);omega),rfl⟩
theorem R3 {m:Int} (h:m≠0) (k:Nat):m*2^k≠0:=Int.mul_ne_zero h (by have:(0:Int)<2^k:=uh (by decide);omega)
theorem Q8 {m:Int} {a:Nat} (h:m.natAbs=2*a+1) {t:Nat} {e:Int} {k:Nat} (ac:e+t+65536=(k:Int)) (J:-65536<=e) (R:e+t+a7 m.natAbs<=65536):ho (m*2^t) e=some (m*2^k):=by have ao:m≠0:=(by omega);have ae:(m*2^t).natAbs=(2*a+1)*2^t:=(by rw[vG,h]);have aI:=HM ae;have aX:a7 (m*2^t).natAbs=a7 m.natAbs+t:=(by rw[vG,y5 (by omega)]);unfold ho;rw[if_neg (R3 ao t),aI,aX,if_neg (by omega)];obtain⟨d,aN⟩:=gn (show 0<=e+65536 by omega);rw[aN];show some (su (m*2^t) (d:Int))=_;rw[v7,ug,<-qf,show t+d=k by omega]
theorem ON {z m:Int} {a t k:Nat} (aZ:z=m*2^t) (h:m.natAbs=2*a+1) (ac:(t:Int)+65536=(k:Int)) (R:t+a7 m.natAbs<=65536):tx z=some (m*2^k):=by unfold tx;rw[aZ];exact Q8 h (by omega) (by decide) (by omega)
theorem OR {m:Int} {a k:Nat} (h:m.natAbs=2*a+1) (aU:0<m) (mode:Int):tQ (some (m*2^k)) mode=ot false m.natAbs ((k:Int)-65536) false mode:=by obtain⟨J,R⟩:=Ha (k:=k) h;show Hv (m*2^k) mode=_;unfold Hv;rw[if_neg (R3 (by omega) k),J,R,a5];have:(0:Int)<m*2^k:=wA aU (uh (by decide));omega
theorem ajk {m:Int} {a k:Nat} (h:m.natAbs=2*a+1) (aU:0<m):tR (some (m*2^k)) 0=MJ (so m.natAbs ((k:Int)-65536)) m.natAbs ((k:Int)-65536) 0:=by obtain⟨J,R⟩:=Ha (k:=k) h;have:(0:Int)<m*2^k:=wA aU (uh (by decide));show(if m*2^k<0 then(9221120237041090560:Int) else if m*2^k=0 then 0 else Dw (m*2^k) 0)=_;rw[if_neg (by omega),if_neg (by omega)];unfold Dw;rw[J,R]
theorem ajj {m fc:Int} {a b k bE:Nat} (h:m.natAbs=2*a+1) (aU:0<m) (g:fc.natAbs=2*b+1) (qw:0<fc):vU (some (m*2^k)) (some (fc*2^bE)) 0=Mw (vT m.natAbs fc.natAbs) m.natAbs fc.natAbs false ((k:Int)-65536-((bE:Int)-65536)) 0:=by obtain⟨J,R⟩:=Ha (k:=k) h;obtain⟨ae,aI⟩:=Ha (k:=bE) g;have g2:(0:Int)<m*2^k:=wA aU (uh (by decide));have eF:(0:Int)<fc*2^bE:=wA qw (uh (by decide));show(if fc*2^bE=0 then(9221120237041090560:Int) else if m*2^k=0 then 0 else Ds (m*2^k) (fc*2^bE) 0)=_;rw[if_neg (by omega),if_neg (by omega)];unfold Ds;rw[J,R,ae,aI,a5 (by omega),a5 (by omega)];rfl
theorem Kz {f m:Int} {a t k:Nat} (h:m.natAbs=2*a+1) (aF:(if f<9223372036854775808 then if dD f=0 then g9 f else g9 f+4503599627370496 else-(if dD f=0 then g9 f else g9 f+4503599627370496))=m*2^t) (aE:dD f≠2047) (ac:(if dD f=0 then-1074 else dD f-1075)+(t:Int)+65536=(k:Int)) (R:(if dD f=0 then-1074 else dD f-1075)+(t:Int)+a7 m.natAbs<=65536):gM f=some (m*2^k):=by unfold gM;rw[if_neg aE,aF];refine Q8 h ac ?_ R;have:=KC f;split<;>omega
theorem n0:tQ (tx 4) 0=4616189618054758400:=by rw[ON (m:=1) (a:=0) (t:=2) (k:=65538) (by decide) (by decide) (by decide) (by decide),OR (a:=0) (by decide) (by decide)];decide
theorem cC:tQ (tx 2) 0=4611686018427387904:=by rw[ON (m:=1) (a:=0) (t:=1) (k:=65537) (by decide) (by decide) (by decide) (by decide),OR (a:=0) (by decide) (by decide)];decide
theorem uV:tQ (tx 5) 0=4617315517961601024:=by rw[ON (m:=5) (a:=2) (t:=0) (k:=65536) (by decide) (by decide) (by decide) (by decide),OR (a:=2) (by decide) (by decide)];decide
theorem v4:gM 4616189618054758400=some (1*2^65538):=Kz (a:=0) (t:=52) (by decide) (by decide) (by decide) (by decide) (by decide)
theorem f0:gM 4611686018427387904=some (1*2^65537):=Kz (a:=0) (t:=52) (by decide) (by decide) (by decide) (by decide) (by decide)
theorem M7:gM 4617315517961601024=some (5*2^65536):=Kz (a:=2) (t:=50) (by decide) (by decide) (by decide) (by decide) (by decide)
theorem v1:gM 4607182418800017408=some (1*2^65536):=Kz (a:=0) (t:=52) (by decide) (by decide) (by decide) (by decide) (by decide)
theorem bD:tR (some (1*2^65538)) 0=4611686018427387904:=by rw[ajk (a:=0) (by decide) (by decide)];decide+kernel
theorem aK:vU (some (1*2^65537)) (some (1*2^65537)) 0=4607182418800017408:=by rw[ajj (a:=0) (b:=0) (by decide) (by decide) (by decide) (by decide)];decide
def Fv:List Int:=[0,1,1]
def Fw:List Int:=[0,2,3]
def zJ:List Int:=[4616189618054758400,4611686018427387904,4617315517961601024]
theorem ajm:ku 2 2 Fw Fv zJ where
 hr:=by decide
 hc:=by decide
 hi:=by decide
 hs:=by decide
 hv:=by decide
 hw:=fun v hv=>by unfold zJ at hv;simp only[dV,List.not_mem_nil,or_false] at hv;rcases hv with rfl|rfl|rfl<;>exact⟨by decide,by decide⟩
theorem ajn:e1 2 2 Fw Fv zJ where
 len:=rfl
 first:=rfl
 mono:=fun j al=>by have:j=0\/j=1:=(by omega);rcases this with rfl|rfl<;>decide
 last:=rfl
 val:=rfl
 rng:=fun j k al J R=>by
  have:j=0\/j=1:=(by omega);rcases this with rfl|rfl
  ·change(0:Int)<=k at J;change(k:Int)<2 at R;have:k=0\/k=1:=(by omega);rcases this with rfl|rfl<;>exact⟨by decide,by decide⟩
  ·change(2:Int)<=k at J;change(k:Int)<3 at R;have:k=2:=(by omega);subst this;exact⟨by decide,by decide⟩
 asc:=fun j k al J R=>by
  have:j=0\/j=1:=(by omega);rcases this with rfl|rfl
  ·change(0:Int)<k at J;change(k:Int)<2 at R;have:k=1:=(by omega);subst this;decide
  ·change(2:Int)<k at J;change(k:Int)<3 at R;omega
theorem ai9:iM 2 2 Fw Fv zJ=0:=by refine nX.2 ⟨ajn,fun i hi=>?_⟩;have:i=0\/i=1\/i=2:=(by have:zJ.length=3:=rfl;omega);rcases this with rfl|rfl|rfl<;>decide
theorem ajh:gJ [0,1] 2:=⟨rfl,fun x ab=>by
 simp only[dV,List.not_mem_nil,or_false] at ab;rcases ab with rfl|rfl<;>exact⟨by decide,by decide⟩,by decide⟩
def uU:List cr:=[(0,0,4616189618054758400,()),(1,0,4611686018427387904,()),(1,1,4617315517961601024,())]
theorem ajc:di Fw Fv zJ 2=uU:=rfl
def gW:List (List Int):=[[1],[0]]
theorem ajd:oQ 2 (hE uU) [0,1]=gW:=by decide
theorem Ky:cT gW 0=[0,1]:=by have aU:mv gW 0 0:=.inl rfl;have J:mv gW 0 1:=.inr ⟨by decide,.one ⟨by decide,by decide⟩⟩;unfold cT mH;show((List.filter _ [0,1]).map _)=_;simp[mA,aU,J]
theorem OM:cT gW 1=[1]:=by have J:mv gW 1 1:=.inl rfl;unfold cT mH;show((List.filter _ [0,1]).map _)=_;simp[mA,J]
theorem ai4:b7 uU [0,1] 0 0=some (1*2^65538):=v4
theorem ai5:b7 uU [0,1] 1 0=some (1*2^65537):=f0
theorem ai6:b7 uU [0,1] 1 1=some (5*2^65536):=M7
theorem abv {d:Option Int} (h:gU d):jD [d]=d:=by
 cases d with
 |none=>rfl
 |some v=>
  have hr:=h v rfl;show(if(true&&true)=true then uF (v+0) else none)=_;rw[if_pos (show(true&&true)=true from rfl),Int.add_zero];unfold uF;rw[if_pos hr]
theorem ajg {K:Nat} (cn:(K:Int)-65536=0):vE (some (1*2^K)) (some (1*2^K))=some (1*2^K):=by obtain⟨J,R⟩:=Ha (m:=1) (a:=0) (k:=K) (by decide);have ae:dH (1*2^K)=0:=(by unfold dH;rw[if_neg (R3 (by decide) _),R,cn]);show ho (b6 (1*2^K)*b6 (1*2^K)) (dH (1*2^K)+dH (1*2^K))=_;rw[J,ae];exact Q8 (m:=1) (a:=0) (t:=0) (by decide) (by omega) (by decide) (by decide)
theorem ajf:vE (some (1*2^65536)) (some (1*2^65536))=some (1*2^65536):=ajg (by decide)
theorem ai7 (K:Nat):(5:Int)*2^K+(-(1*2^K)+0)=1*2^(K+2):=by rw[Int.pow_succ,Int.pow_succ];generalize(2:Int)^K=x;omega
theorem ai8 {K L:Nat} (h:K+2=L) (hr:gU (some (1*2^L))):jD [some ((5:Int)*2^K),G6 (some (1*2^K))]=some (1*2^L):=by show(if(true&&(true&&true))=true then uF (5*2^K+(-(1*2^K)+0)) else none)=_;rw[if_pos (show(true&&(true&&true))=true from rfl),ai7,h];unfold uF;rw[if_pos (hr _ rfl)]
abbrev jK:Nat->Nat->Option Int:=b7 uU [0,1]
theorem OS:nG jK (de jK (cm gW)) 0 0=some (1*2^65538):=by show jD [b7 uU [0,1] 0 0]=_;rw[ai4,<-v4];exact abv (vI _)
theorem ajl:nG jK (de jK (cm gW)) 0 1=some (1*2^65537):=by show jD [b7 uU [0,1] 1 0]=_;rw[ai5,<-f0];exact abv (vI _)
theorem OO:de jK (cm gW) 0 0=4611686018427387904:=by rw[Ax];unfold rz;rw[if_pos rfl,OS,bD]
theorem aji:cm gW 0 1=true:=by unfold cm;rw[Ky];decide
theorem OP:de jK (cm gW) 0 1=4607182418800017408:=by rw[Ax];unfold rz;rw[if_neg (by decide),if_pos aji,ajl,OS,bD,f0,aK]
theorem VN:nG jK (de jK (cm gW)) 1 1=some (1*2^65538):=by show jD [b7 uU [0,1] 1 1,G6 (vE (gM (de jK (cm gW) 0 1)) (gM (de jK (cm gW) 0 1)))]=_;rw[ai6,OP,v1,ajf];exact ai8 rfl (by rw[<-v4];exact vI _)
theorem OQ:de jK (cm gW) 1 1=4611686018427387904:=by rw[Ax];unfold rz;rw[if_pos rfl,VN,bD]
theorem abi {z:Int} (h:0<z):fY z=1:=by unfold fY;rw[if_neg (by omega),if_neg (by omega)]
theorem aam (k:Nat):(0:Int)<1*2^k:=wA (by decide) (uh (by decide))
theorem aja:iN jK gW 0=0:=by
 refine VL ?_ ?_
 ·unfold Ir;rw[OS,OO];rintro(h|h)
  ·have:v5 (some (1*2^65538))=1:=abi (aam _);omega
  ·revert h;decide
 ·intro x ab;rw[Ky] at ab;simp only[dV,List.not_mem_nil,or_false] at ab;rcases ab with rfl|rfl
  ·show dD (de jK (cm gW) 0 0)≠2047;rw[OO];decide
  ·show dD (de jK (cm gW) 0 1)≠2047;rw[OP];decide
theorem ajb:iN jK gW 1=0:=by
 refine VL ?_ ?_
 ·unfold Ir;rw[VN,OQ];rintro(h|h)
  ·have:v5 (some (1*2^65538))=1:=abi (aam _);omega
  ·revert h;decide
 ·intro x ab;rw[OM] at ab;simp only[dV,List.not_mem_nil,or_false] at ab;subst ab;show dD (de jK (cm gW) 1 1)≠2047;rw[OQ];decide
theorem aje:wV ((2,(2,(Fw,(Fv,(zJ,()))))),[0,1],())=some (([0,1],([0,2,3],([0,1,1],([4611686018427387904,4607182418800017408,4611686018427387904],())))),2,0,()):=by
 have h:=TF (n:=2) (by decide) ajm ai9 ajh;rw[ajc,ajd,Yq (fun m ao=>by
  have:m=0\/m=1:=(by omega);rcases this with rfl|rfl
  ·exact aja
  ·exact ajb)] at h
 refine h.trans ?_;have ep:jF jK gW 0=[4611686018427387904,4607182418800017408]:=(by unfold jF;rw[Ky,eY,eY,List.map_nil];show[de jK (cm gW) 0 0,de jK (cm gW) 0 1]=_;rw[OO,OP]);have aC:jF jK gW 1=[4611686018427387904]:=(by unfold jF;rw[OM,eY,List.map_nil];show[de jK (cm gW) 1 1]=_;rw[OQ]);have i0:g1 gW 0=[]:=rfl;have i1:g1 gW 1=[0,1]:=(by show[]++cT gW 0=_;rw[Ky];rfl);have i2:g1 gW 2=[0,1,1]:=(by show g1 gW 1++cT gW 1=_;rw[i1,OM];rfl);have e7:DL jK gW 2=[4611686018427387904,4607182418800017408,4611686018427387904]:=(by show([]++jF jK gW 0)++jF jK gW 1=_;rw[ep,aC];rfl);unfold rL;rw[zL,zL,zL,VR,i0,i1,i2,e7];rfl
theorem afH (a b:List Int) (aG:a.length<4611686018427387904):On (a,b,())=some (a==b,()):=Nl a b aG
theorem NJ:EZ ()=some (true,()):=by unfold EZ;refine aP (MG (by decide) (by decide)) (aP (MG (by decide) (by decide)) (aP (MG (by decide) (by decide)) ?_));dsimp only;rw[n0,cC,uV];refine aP aje ?_;dsimp only;rw[dh (by decide),dh (by decide)];refine aP (Nl _ _ (by decide)) ?_;dsimp only;rw[dh (by decide)];refine aP (afH _ _ (by decide)) ?_;rfl
def nS (rows j i:Nat) (st aA aJ:List Int):Prop:=∃k,k<=aA.length/\e1 rows j st (aA.take k) (aJ.take k)/\aJ.length=aA.length/\(∀t,k<=t->t<aA.length->0<=aA.getD t 0/\aA.getD t 0<(i:Int))/\(∀t,k<t->t<aA.length->aA.getD (t-1) 0<aA.getD t 0)
theorem e1.open {rows j:Nat} {st aA aJ:List Int} (h:e1 rows j st aA aJ):nS rows j 0 st aA aJ:=
 ⟨aA.length,bS _,by rw[eC (bS _),eC (Nat.le_of_eq h.val)];exact h,h.val,fun t J R=>absurd R (by omega),fun t J R=>absurd R (by omega)⟩
theorem nS.skip {rows j i:Nat} {st aA aJ:List Int} (h:nS rows j i st aA aJ):nS rows j (i+1) st aA aJ:=by obtain⟨k,J,R,ae,aI,aX⟩:=h;exact⟨k,J,R,ae,fun t a b=>by have:=aI t a b;omega,aX⟩
theorem FD {l:List Int} {x:Int} {t:Nat} (h:t<l.length):(l++[x]).getD t 0=l.getD t 0:=by rw[lc,sL h,<-lc]
theorem O7 {l:List Int} {x:Int}:(l++[x]).getD l.length 0=x:=by rw[lc,uo (bS _)];simp
theorem nS.add {rows j i:Nat} {st aA aJ:List Int} (h:nS rows j i st aA aJ) (v:Int):nS rows j (i+1) st (aA++[(i:Int)]) (aJ++[v]):=by
 obtain⟨k,J,R,ae,aI,aX⟩:=h;refine⟨k,by simp;omega,?_,by simp;omega,fun t a b=>?_,fun t a b=>?_⟩
 ·rw[yO J,yO (by omega)];exact R
 ·rw[qi,List.length_singleton] at b;rcases ch t aA.length with g|g
  ·rw[FD g];have:=aI t a g;omega
  ·obtain rfl:t=aA.length:=(by omega);rw[O7];omega
 ·rw[qi,List.length_singleton] at b;rcases ch t aA.length with g|g
  ·rw[FD g,FD (by omega)];exact aX t a g
  ·obtain rfl:t=aA.length:=(by omega);rw[O7,FD (by omega)];exact(aI (aA.length-1) (by omega) (by omega)).2
theorem O8 {l:List Int} {k t:Nat} (h:t<k):(l.take k).getD t 0=l.getD t 0:=by rw[lc,oG h,<-lc]
theorem nS.close {rows j:Nat} {st aA aJ:List Int} (h:nS rows j rows st aA aJ):e1 rows (j+1) (st++[(aA.length:Int)]) aA aJ:=by
 obtain⟨k,J,R,ae,aI,aX⟩:=h;have ah:=R.len;have CD:=R.last;rw[fl,iY J] at CD;have n8:(st++[(aA.length:Int)]).getD (j+1) 0=(aA.length:Int):=(by rw[<-ah];exact O7);have oX:∀c,c<=j->(st++[(aA.length:Int)]).getD c 0=st.getD c 0:=fun c hc=>FD (by omega);have fb:∀c,c<=j->st.getD c 0<=(k:Int):=fun c hc=>(by have:=R.tD c hc;rw[fl,iY J] at this;exact this);refine⟨by simp[ah],by rw[oX 0 (by omega)];exact R.first,fun c hc=>?_,n8,ae,fun c t hc a b=>?_,fun c t hc a b=>?_⟩
 ·rcases ch c j with g|g
  ·rw[oX c (by omega),oX (c+1) (by omega)];exact R.mono c g
  ·obtain rfl:c=j:=(by omega);rw[oX c (by omega),n8,CD];omega
 ·rcases ch c j with g|g
  ·rw[oX c (by omega)] at a;rw[oX (c+1) (by omega)] at b;have aa:=fb (c+1) (by omega);have:=R.rng c t g a b;rw[O8 (by omega)] at this;exact this
  ·obtain rfl:c=j:=(by omega);rw[oX c (by omega)] at a;rw[n8] at b;exact aI t (by omega) (by omega)
 ·rcases ch c j with g|g
  ·rw[oX c (by omega)] at a;rw[oX (c+1) (by omega)] at b;have aa:=fb (c+1) (by omega);have:=R.asc c t g a b;rw[O8 (by omega),O8 (by omega)] at this;exact this
  ·obtain rfl:c=j:=(by omega);rw[oX c (by omega)] at a;rw[n8] at b;exact aX t (by omega) (by omega)
theorem e1.empty (rows:Nat):e1 rows 0 [0] [] []:=⟨rfl,rfl,fun j al=>absurd al (by omega),rfl,rfl,fun j k al=>absurd al (by omega),fun j k al=>absurd al (by omega)⟩
structure wx (rows cols:Nat) (m:cR):Prop where
 ex:∃st aA aJ,m=((rows:Int),(cols:Int),st,aA,aJ,())/\e1 rows cols st aA aJ/\(∀v∈aJ,eD v)/\aA.length<=cols*rows
theorem wx.small {rows cols:Nat} (hr:rows<=5) (hc:cols<=5) {st aA aJ:List Int} (J:e1 rows cols st aA aJ) (R:∀v∈aJ,eD v) (ae:aA.length<=cols*rows):ku rows cols st aA aJ:=by have aI:cols*rows<=5*5:=oJ hc hr;exact⟨by omega,by omega,by omega,by rw[J.len];omega,by rw[J.val];omega,R⟩
theorem Tz {k8:List Int} (ah:k8.length<=9223372036854775807) {rows cols:Nat} (hr:rows<=5) (hc:cols<=5) (oz:Int):U (EU (k8,(rows:Int),(cols:Int),oz,())) fun r=>wx rows cols r.1:=by
 have Xo:cols*rows<=5*5:=Nat.mul_le_mul hc hr;unfold EU;dsimp only;refine U.bP (P:=fun r=>wx rows cols r.2.1) ?_ (by rintro⟨a,b,_⟩ h;exact U.au.2 h);refine U.steps cols (fun j s=>∃st aA aJ,s=((j:Int),((0:Int),((0:Int),([],([],([],()))))),((rows:Int),(cols:Int),st,aA,aJ,()),())/\e1 rows j st aA aJ/\(∀v∈aJ,eD v)/\aA.length<=j*rows) ?_ ?_ ?_
 ·exact⟨[0],[],[],rfl,e1.empty rows,by simp,by simp⟩
 ·rintro j _ al ⟨st,aA,aJ,rfl,J,R,ae⟩;have als:j*rows+rows<=5*5:=by
   have:(j+1)*rows<=cols*rows:=jT _ al;rw[iJ,kP] at this;omega
  dsimp only;rw[dh (bc (show(j:Int)<(cols:Int) by omega)),cY (by omega)];refine U.bP (P:=fun r=>∃aA aJ,r=(((0:Int),((0:Int),([],([],([],()))))),((rows:Int),(cols:Int),st,aA,aJ,()),())/\nS rows j rows st aA aJ/\(∀v∈aJ,eD v)/\aA.length<=j*rows+rows) ?_ ?_
  ·refine U.steps rows (fun i s=>∃aA aJ,s=((i:Int),((0:Int),((0:Int),([],([],([],()))))),((rows:Int),(cols:Int),st,aA,aJ,()),())/\nS rows j i st aA aJ/\(∀v∈aJ,eD v)/\aA.length<=j*rows+i) ?_ ?_ ?_
   ·exact⟨aA,aJ,rfl,J.open,R,by omega⟩
   ·rintro i _ hi ⟨aA,aJ,rfl,bT,bz,cZ⟩;have qH:aJ.length=aA.length:=by
     obtain⟨k,_,_,h,_⟩:=bT;exact h
    dsimp only;rw[dh (bc (show(i:Int)<(rows:Int) by omega)),cY (by omega)];refine U.bP (P:=fun r=>∃aA aJ,r=(((0:Int),((0:Int),([],([],([],()))))),((rows:Int),(cols:Int),st,aA,aJ,()),())/\nS rows j (i+1) st aA aJ/\(∀v∈aJ,eD v)/\aA.length<=j*rows+(i+1)) ?_ ?_
    ·refine U.bP (ab9 k8 ah _) ?_;rintro⟨w,_⟩ hw;dsimp only at hw|-;rw[yi (by decide) (by decide),Option.bind_some];unfold jB;rw[if_pos (by decide),Option.bind_some,cB];refine U.ite (fun g=>?_) (fun g=>?_)
     ·rw[fD (by simp;omega),Option.bind_some];refine U.bP (apu hw oz) ?_;rintro⟨v,_⟩ hv;dsimp only at hv|-;rw[fD (by simp;omega),Option.bind_some];refine U.au.2 ⟨_,_,rfl,bT.add v,fun x ab=>?_,by simp;omega⟩;rcases List.mem_append.1 ab with ab|ab
      ·exact bz x ab
      ·obtain rfl:=fv.1 ab;exact hv
     ·exact U.au.2 ⟨_,_,rfl,bT.skip,bz,by omega⟩
    ·rintro _ ⟨aA,aJ,rfl,aK,aL,a8⟩;exact U.au.2 ⟨aA,aJ,rfl,aK,aL,a8⟩
   ·rintro _ ⟨aA,aJ,rfl,aK,aL,a8⟩;dsimp only;rw[df (a5 (show¬((rows:Int)<(rows:Int)) by omega))];exact U.au.2 ⟨aA,aJ,rfl,aK,aL,a8⟩
  ·rintro _ ⟨aA,aJ,rfl,aK,aL,a8⟩;dsimp only;rw[fD (by rw[J.len];simp;omega),Option.bind_some];refine U.au.2 ⟨_,_,_,rfl,aK.close,aL,by rw[Nat.add_mul,Nat.one_mul];omega⟩
 ·rintro _ ⟨st,aA,aJ,rfl,aK,aL,a8⟩;dsimp only;rw[df (a5 (show¬((cols:Int)<(cols:Int)) by omega))];exact U.au.2 ⟨st,aA,aJ,rfl,aK,aL,a8⟩
theorem acp {rows cols:Nat} {st aA aJ:List Int} (ao:ku rows cols st aA aJ) (i:Int) {j:Nat} (al:j<cols):∃v,eD v/\zq (((rows:Int),(cols:Int),st,aA,aJ,()),i,(j:Int),())=some (v,()):=by
 by_cases h:iM rows cols st aA aJ=0
 ·exact⟨_,auW (Cj (nX.1 h).1 ao.hw) _ _,asI ao h i al⟩
 ·refine⟨0,⟨by decide,by decide⟩,?_⟩;unfold zq;refine aP (y:=.inr (0,())) ?_ rfl;refine aP ao.Hq ?_;dsimp only;rw[ew,a5 h];rfl
theorem afZ {rows cols:Nat} {st aA aJ:List Int} (ao:ku rows cols st aA aJ) (bB:e1 rows cols st aA aJ) {i:Nat} (hi:i<rows) {j:Nat} (al:j<cols):∃b,E8 (((rows:Int),(cols:Int),st,aA,aJ,()),(i:Int),(j:Int),())=some (b,()):=by
 have tJ:=bB.pos j (by omega);have g2:=bB.pos (j+1) (by omega);have da:=bB.tD (j+1) (by omega);have alI:=bB.mono j al;have dR:=bB.len;have j4:=ao.hi;have hc:=ao.hc;suffices h:U (E8 (((rows:Int),(cols:Int),st,aA,aJ,()),(i:Int),(j:Int),())) fun r=>True by obtain⟨⟨b,_⟩,h,_⟩:=h;exact⟨b,h⟩
 unfold E8;dsimp only;rw[a5 (show¬((i:Int)<0) by omega),a5 (show¬((i:Int)>=(rows:Int)) by omega),a5 (show¬((j:Int)<0) by omega),a5 (show¬((j:Int)>=(cols:Int)) by omega)];refine U.bs (y:=.inl ()) rfl ?_;dsimp only;obtain⟨lo,fR⟩:=Int.eq_ofNat_of_zero_le tJ;obtain⟨hi,j3⟩:=Int.eq_ofNat_of_zero_le g2;refine U.bs (y:=(lo:Int)) (by rw[gY (by omega),fR]) ?_;refine U.bP (P:=fun r=>True) ?_ ?_
 ·refine U.steps (hi-lo) (fun t s=>s=(((lo+t:Nat):Int),())) rfl ?_ ?_
  ·rintro t _ af rfl;dsimp only;refine U.bs (y:=(hi:Int)) (by rw[cY (by omega),gY (by omega),j3]) ?_;rw[dh (bc (show((lo+t:Nat):Int)<(hi:Int) by omega))];refine U.bs (gY (by omega)) ?_;rw[e5,cB];refine U.ite (fun _=>U.au.2 trivial) (fun _=>?_);rw[cY (by omega)];exact U.au.2 rfl
  ·rintro _ rfl;dsimp only;refine U.bs (y:=(hi:Int)) (by rw[cY (by omega),gY (by omega),j3]) ?_;rw[df (a5 (show¬(((lo+(hi-lo):Nat):Int)<(hi:Int)) by omega))];exact U.au.2 trivial
 ·rintro(_|r) _
  ·exact U.au.2 trivial
  ·exact U.au.2 trivial
theorem acw {k8:List Int} (ah:k8.length<=9223372036854775807) {n:Nat} (ag:n<=5) (oz:Int):U (JS (k8,(n:Int),oz,())) fun r=>wx n n r.1:=by
 have Xo:n*n<=5*5:=Nat.mul_le_mul ag ag;unfold JS;refine U.bs (GZ oz (n:=3) (by decide) (by decide)) ?_;refine U.bP (Tz ah ag ag _) ?_;rintro⟨g,_⟩ aD;dsimp only at aD|-;obtain⟨akb,aj7,akd,rfl,xp,h5,PH⟩:=aD.ex;have W1:=wx.small ag ag xp h5 PH;have Wo:=fun(i:Int) (j:Nat) (al:j<n)=>acp W1 i al;have akA:=fun(i j:Nat) (hi:i<n) (al:j<n)=>afZ W1 xp hi al;generalize(((n:Int),(n:Int),akb,aj7,akd,()):cR)=g at*;refine U.bP (P:=fun r=>wx n n r.2.1) ?_ (by rintro⟨a,b,_⟩ h;exact U.au.2 h);refine U.steps n (fun j s=>∃st aA aJ,s=((j:Int),((0:Int),((0:Int),([],([],([],()))))),g,((n:Int),(n:Int),st,aA,aJ,()),())/\e1 n j st aA aJ/\(∀v∈aJ,eD v)/\aA.length<=j*n) ?_ ?_ ?_
 ·exact⟨[0],[],[],rfl,e1.empty n,by simp,by simp⟩
 ·rintro j _ al ⟨st,aA,aJ,rfl,J,R,ae⟩;have als:j*n+n<=5*5:=by
   have:(j+1)*n<=n*n:=jT _ al;rw[iJ,kP] at this;omega
  dsimp only;rw[dh (bc (show(j:Int)<(n:Int) by omega)),cY (by omega)];refine U.bP (P:=fun r=>∃aA aJ,r=(((0:Int),((0:Int),([],([],([],()))))),g,((n:Int),(n:Int),st,aA,aJ,()),())/\nS n j n st aA aJ/\(∀v∈aJ,eD v)/\aA.length<=j*n+n) ?_ ?_
  ·refine U.steps n (fun i s=>∃aA aJ,s=((i:Int),((0:Int),((0:Int),([],([],([],()))))),g,((n:Int),(n:Int),st,aA,aJ,()),())/\nS n j i st aA aJ/\(∀v∈aJ,eD v)/\aA.length<=j*n+i) ?_ ?_ ?_
   ·exact⟨aA,aJ,rfl,J.open,R,by omega⟩
   ·rintro i _ hi ⟨aA,aJ,rfl,bT,bz,cZ⟩;have qH:aJ.length=aA.length:=by
     obtain⟨k,_,_,h,_⟩:=bT;exact h
    dsimp only;rw[dh (bc (show(i:Int)<(n:Int) by omega)),cY (by omega)];refine U.bP (P:=fun r=>∃aA aJ,r=(((0:Int),((0:Int),([],([],([],()))))),g,((n:Int),(n:Int),st,aA,aJ,()),())/\nS n j (i+1) st aA aJ/\(∀v∈aJ,eD v)/\aA.length<=j*n+(i+1)) ?_ ?_
    ·have kz:∀(x:Int),eD x->∀v∈aJ++[x],eD v:=fun x ab v hv=>by
      rcases fe.1 hv with hv|hv
      ·exact bz v hv
      ·obtain rfl:=fv.1 hv;exact ab
     rw[e5,cB];refine U.ite (fun e=>?_) (fun e=>?_)
     ·refine U.bs (aaE (by decide) (by decide)) ?_;dsimp only;refine U.bP (P:=fun r=>∃L:List (Option Int),r=(((0:Int),((0:Int),([],([],([],()))))),g,((n:Int),(n:Int),st,aA,aJ,()),L.map ck,())/\(∀d∈L,gU d)/\L.length<=n+1) ?_ ?_
      ·refine U.steps n (fun k s=>∃L:List (Option Int),s=((k:Int),((0:Int),((0:Int),([],([],([],()))))),g,((n:Int),(n:Int),st,aA,aJ,()),L.map ck,())/\(∀d∈L,gU d)/\L.length<=k+1) ?_ ?_ ?_
       ·exact⟨[tx 1],rfl,by intro d aN;obtain rfl:=fv.1 aN;exact XW 1,by simp⟩
       ·rintro k _ ac ⟨L,rfl,da,l2⟩;dsimp only;rw[dh (bc (show(k:Int)<(n:Int) by omega)),cY (by omega)];refine U.bP (P:=fun r=>∃L:List (Option Int),r=(((0:Int),((0:Int),([],([],([],()))))),g,((n:Int),(n:Int),st,aA,aJ,()),L.map ck,())/\(∀d∈L,gU d)/\L.length<=(k+1)+1) ?_ ?_
        ·rw[ew,<-decide_not,cB];refine U.ite (fun aV=>?_) (fun aV=>?_)
         ·obtain⟨c,hc,Pz⟩:∃c:Nat,(if(k:Int)<(i:Int) then(k:Int) else(i:Int))=(c:Int)/\c<n:=by
           split
           ·exact⟨k,rfl,by omega⟩
           ·exact⟨i,rfl,by omega⟩
          rw[hc];obtain⟨v,hv,Qh⟩:=Wo (if(k:Int)>(i:Int) then(k:Int) else(i:Int)) c Pz;refine U.bs Qh (U.bs (as7 hv) (U.bs (asR (vI _)) ?_));rw[fD (by simp;omega)];refine U.au.2 ⟨L++[Nx (gM v)],by simp,fun d aN=>?_,by simp;omega⟩;rcases fe.1 aN with aN|aN
          ·exact da d aN
          ·obtain rfl:=fv.1 aN;exact aga (vI _)
         ·exact U.au.2 ⟨L,rfl,da,by omega⟩
        ·rintro _ ⟨L,rfl,da,l2⟩;exact U.au.2 ⟨L,rfl,da,l2⟩
       ·rintro _ ⟨L,rfl,da,l2⟩;dsimp only;rw[df (a5 (show¬((n:Int)<(n:Int)) by omega))];exact U.au.2 ⟨L,rfl,da,l2⟩
      ·rintro _ ⟨L,rfl,da,l2⟩;dsimp only;rw[fD (by simp;omega),Option.bind_some];refine U.bs (asS da (by omega)) ?_;refine U.bs (aa2 (abu _)) ?_;dsimp only;rw[fD (by simp;omega),Option.bind_some];exact U.au.2 ⟨_,_,rfl,bT.add _,kz _ (aaT _ _),by simp;omega⟩
     ·obtain⟨b,aa⟩:=akA i j hi al;refine U.bs aa ?_;dsimp only;cases b with
      |true=>
       rw[cond_true,fD (by simp;omega),Option.bind_some];obtain⟨v,hv,Qh⟩:=Wo (i:Int) j al;refine U.bs Qh ?_;dsimp only;rw[fD (by simp;omega),Option.bind_some];exact U.au.2 ⟨_,_,rfl,bT.add _,kz _ hv,by simp;omega⟩
      |false=>
       rw[cond_false];exact U.au.2 ⟨_,_,rfl,bT.skip,bz,by omega⟩
    ·rintro _ ⟨aA,aJ,rfl,aK,aL,a8⟩;exact U.au.2 ⟨aA,aJ,rfl,aK,aL,a8⟩
   ·rintro _ ⟨aA,aJ,rfl,aK,aL,a8⟩;dsimp only;rw[df (a5 (show¬((n:Int)<(n:Int)) by omega))];exact U.au.2 ⟨aA,aJ,rfl,aK,aL,a8⟩
  ·rintro _ ⟨aA,aJ,rfl,aK,aL,a8⟩;dsimp only;rw[fD (by rw[J.len];simp;omega),Option.bind_some];refine U.au.2 ⟨_,_,_,rfl,aK.close,aL,by rw[Nat.add_mul,Nat.one_mul];omega⟩
 ·rintro _ ⟨st,aA,aJ,rfl,aK,aL,a8⟩;dsimp only;rw[df (a5 (show¬((n:Int)<(n:Int)) by omega))];exact U.au.2 ⟨st,aA,aJ,rfl,aK,aL,a8⟩
theorem TK {k8:List Int} (ah:k8.length<=9223372036854775807) {n:Nat} (ag:n<=5):U (EV (k8,(n:Int),())) fun r=>r.1.length=n:=by
 unfold EV;dsimp only;refine U.bP (P:=fun r=>r.1.length=n) ?_ (by rintro⟨a,_⟩ h;exact U.au.2 h);refine U.steps n (fun i s=>∃out,s=(out,(i:Int),())/\out.length=i) ⟨[],rfl,rfl⟩ ?_ ?_
 ·rintro i _ hi ⟨out,rfl,aH⟩;dsimp only;rw[dh (bc (show(i:Int)<(n:Int) by omega)),cY (by omega)];refine U.bP (ab9 k8 ah _) ?_;rintro⟨w,_⟩ hw;dsimp only at hw|-;rw[yi (by decide) (by decide),Option.bind_some];refine U.bs (GZ _ (n:=i+1) (by omega) (by omega)) ?_;have hr:=L3 (aY (w/2^(1:Int).toNat)) (n:=i+1) (by omega);dsimp only;generalize xT (aY (w/2^(1:Int).toNat)) (i+1)=r at*;refine U.bs (MR (by omega)) ?_;dsimp only;rw[fD (by simp;omega),Option.bind_some,fD (by simp;omega),Option.bind_some];have Ag:((hp (r:Int)).bind fun GA=>(some out.length).bind fun GB=>(ia GA GB out.length).map fun _=>(GA,GB))=some (r,out.length):=by
   have:hp (r:Int)=some r:=(by unfold hp;rw[if_pos (by omega),d4]);rw[this];show(ia r out.length out.length).map _=_;unfold ia;rw[if_pos ⟨by omega,bS _⟩];rfl
  refine U.bs Ag ?_;dsimp only;rw[fD (by simp;omega),Option.bind_some];exact U.au.2 ⟨_,rfl,by simp;omega⟩
 ·rintro _ ⟨out,rfl,aH⟩;dsimp only;rw[df (a5 (show¬((n:Int)<(n:Int)) by omega))];exact U.au.2 aH
theorem ar3 {k8:List Int} (ah:k8.length<=9223372036854775807) (n oz:Int) (d:Bool):U (JW (k8,n,oz,d,())) fun r=>∃k,k<=5/\wx k k r.1/\r.2.1.length=k:=by
 unfold JW;refine U.bs (GZ n (n:=6) (by decide) (by decide)) ?_;have ac:=L3 n (n:=6) (by decide);dsimp only;generalize xT n 6=k at*;cases d with
 |true=>
  rw[cond_true];refine U.bP (acw ah (n:=k) (by omega) oz) ?_;rintro⟨m,_⟩ ao;refine U.bP (TK ah (n:=k) (by omega)) ?_;rintro⟨o,_⟩ aH;exact U.au.2 ⟨k,by omega,ao,aH⟩
 |false=>
  rw[cond_false];refine U.bP (Tz ah (rows:=k) (cols:=k) (by omega) (by omega) oz) ?_;rintro⟨m,_⟩ ao;refine U.bP (TK ah (n:=k) (by omega)) ?_;rintro⟨o,_⟩ aH;exact U.au.2 ⟨k,by omega,ao,aH⟩
theorem anB (A:Nat->Nat->Option Int) (G:List (List Int)) (o:List Int) (n:Nat):(tE A G o n=(rL A G o n,(n:Int),0,())/\∀m,m<n->iN A G m=0)\/∃j e,tE A G o n=(tH,j,e,())/\e≠0:=by
 unfold tE;split
 ·rename_i j al;have h:=List.find?_some al;rw[decide_eq_true_eq] at h;split
  ·exact .inr ⟨_,_,rfl,by decide⟩
  ·exact .inr ⟨_,_,rfl,h⟩
 ·rename_i al;refine .inl ⟨rfl,fun m ao=>?_⟩;simpa using Il.1 al m (jl.2 ao)
theorem XQ (G:List (List Int)) {j:Nat}:∀{n},j<=n->∃r,g1 G n=g1 G j++r
 |0,h=>by obtain rfl:j=0:=(by omega);exact⟨[],by simp⟩
 |n+1,h=>by
  rcases ch n j with g|g
  ·obtain rfl:j=n+1:=(by omega);exact⟨[],by simp⟩
  ·obtain⟨r,hr⟩:=XQ G g;exact⟨r++cT G n,by rw[g1,hr,ui]⟩
theorem amN (G:List (List Int)) {j n:Nat} (h:j<n):(g1 G (j+1)).length<=(g1 G n).length/\((g1 G n).take (g1 G (j+1)).length).drop (g1 G j).length=cT G j:=by obtain⟨r,hr⟩:=XQ G (show j+1<=n from h);rw[hr];refine⟨by rw[qi];omega,?_⟩;rw[List.take_left,g1,List.drop_left]
theorem amO (G:List (List Int)) (j:Nat):(g1 G (j+1)).length=(g1 G j).length+(cT G j).length:=by rw[g1,qi]
theorem Zc (n:Nat):hp (n:Int)=some n:=by unfold hp;rw[if_pos (by omega),d4]
theorem atW {a b l:Nat} (J:a<=b) (R:b<=l):((hp (a:Int)).bind fun x=>(hp (b:Int)).bind fun y=>(ia x y l).map fun _=>(x,y))=some (a,b):=by rw[Zc,Zc];show(ia a b l).map _=_;unfold ia;rw[if_pos ⟨J,R⟩];rfl
theorem acu (k8:List Int) (n oz:Int) (ah:k8.length<=9223372036854775807):Oo (k8,n,oz,())=some (true,()):=by
 unfold Oo;refine U.eq_iff.1 ?_;refine U.bP (ar3 ah n oz true) ?_;rintro⟨m,o,_⟩ ⟨k,ac,ao,F2⟩;dsimp only at ao F2|-;obtain⟨st,aA,aJ,rfl,aK,aL,a8⟩:=ao.ex;have hs:=wx.small ac ac aK aL a8;by_cases ai:yj k k st aA aJ o=0
 ·obtain⟨J,_,ay⟩:=at2 ai;have bB:=(nX.1 J).1;have c9:=(nX.1 J).2;have hn:=zH bB k (bS _);have cK:=zG bB;have xu:=LV ac (xQ hn) (xP cK) LU;have lv:=Cj bB hs.hw;have pD:=Cj bB (VY c9);have hD:=xQ hn;have j4:=xP cK;have mT:=abo (rows:=k) (cols:=k) (E:=hE (di st aA aJ k)) (by omega) (by omega) (by omega) (fun x ab=>lv x (hX.1 ab).1);have ga:=UZ hD j4 (fun x ab=>pD x (hX.1 ab).1);have WW:=asJ mT ga;rw[VK hD j4] at WW;have FG:=Wi (E:=hE (di st aA aJ k)) ay;have Pf:=Wk k (hE (di st aA aJ k)) o;have Pe:=Wj (E:=hE (di st aA aJ k)) ac ay;refine U.bs (TF ac hs J ay) ?_;rcases anB (b7 (di st aA aJ k) o) (oQ k (hE (di st aA aJ k)) o) o k with⟨e,_⟩|⟨j,e,aE,aU⟩
  ·rw[e];dsimp only;rw[df (show((0:Int)!=0)=false from rfl)];refine U.bs (asK ac hs J) ?_;refine U.bs WW ?_;refine U.bs (asL ac ay) ?_;refine U.bs (asT Pf Pe (by omega)) ?_;dsimp only;rw[FG];generalize oQ k (hE (di st aA aJ k)) o=G at*;generalize b7 (di st aA aJ k) o=A at*;have PA:(List.range k).map (cT G)=bA k (cT G):=rfl;have nB:∀j,j<=k->bb (rL A G o k).2.1 (j:Int)=some ((g1 G j).length:Int):=fun j al=>by
    show bb (bA (k+1) fun k=>((g1 G k).length:Int)) _=_;rw[dO (by rw[d0];omega),l0]
   have j5:=Qo G k;have awz:k*G.length<=5*5:=oJ ac (by omega);rw[PA,bQ,bQ];rw[df (by
    rw[d0];show(((bA (k+1) fun k=>((g1 G k).length:Int)).length:Int)!=_)=false;rw[d0,cY (by omega),ew,bc rfl];rfl)]
   refine U.bP (P:=fun q=>q=.inl ()) ?_ ?_
   ·refine U.steps k (fun j s=>s=((j:Int),rL A G o k,())) rfl ?_ ?_
    ·rintro j _ al rfl;dsimp only;rw[d0,dh (bc (show(j:Int)<(k:Int) by omega)),cY (by omega)];obtain⟨c4,cd⟩:=amN G al;have i5:=amO G j;refine U.bP (P:=fun q=>q=.inl (rL A G o k,())) ?_ (by rintro _ rfl;exact U.au.2 rfl);refine U.bs (nB j (by omega)) ?_;rw[dh (by rw[a5 (show¬((g1 G j).length:Int)<0 by omega)];rfl)];refine U.bs (nB j (by omega)) (U.bs (nB (j+1) (by omega)) ?_);rw[dh (by rw[a5 (show¬((g1 G j).length:Int)>((g1 G (j+1)).length:Int) by omega)];rfl)];refine U.bs (nB (j+1) (by omega)) ?_;have ab:(rL A G o k).2.2.1=g1 G k:=rfl;rw[ab,bQ,dh (by rw[a5 (show¬((g1 G (j+1)).length:Int)>((g1 G k).length:Int) by omega)];rfl)];refine U.bs (nB j (by omega)) (U.bs (nB (j+1) (by omega)) ?_);refine U.bs (atW (by omega) c4) ?_;refine U.bs (by rw[dO (by rw[d0];omega),l0]) ?_;dsimp only;rw[cd];refine U.bs (Nl _ _ (by omega)) ?_;dsimp only;rw[df (by simp)];exact U.au.2 rfl
    ·rintro _ rfl;dsimp only;rw[d0,df (a5 (show¬((k:Int)<(k:Int)) by omega))];exact U.au.2 rfl
   ·rintro _ rfl;exact U.bs NJ (U.au.2 rfl)
  ·rw[aE];dsimp only;rw[dh (by rw[ew,a5 aU];rfl)];exact U.bs NJ (U.au.2 rfl)
 ·refine U.bs (afL hs (by omega) ai) ?_;dsimp only;rw[dh (by rw[ew,a5 ai];rfl)];exact U.bs NJ (U.au.2 rfl)
end Go.lP
end
