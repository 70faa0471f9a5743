/-
  Parts of the proof: Pa29, Pa30, Pm1, Pm2, G24, Pm3, Pm4, Pm5, Pm6, Pm7, Pm8, Pm9, Pm10, Pm11, Pm12, Pl13, Th2, Pl16, Pl18, Th3, Pl20, Pl23, Pl24, Pl25, Pl26, Pl27, Pl29, Pl30, Pl40, Pl41, Pl42, Pl43, Pm13, Pl46, Pl48, Pl50, Pl51, Pl54, Pm14, Pm15, Pm16, Pm17, Pm18, Pm19, Pm20, Pm21, Pm22, Pm23, Pm24, Pm25, Pm26, Pm27, Pm28, Pm29, Pm30, Pm31, Pm32, Pm33: the framework (Fw), pure forms (Dn), plain laws (Pl, Th), calls of functions (Ok).
-/
import Derived.Test.YtkhcdgkdpjahpaaGreatDoorRows
import Derived.ProofKit
import Derived.Lib.LaidTab
import Derived.LaidMore
import Derived.KernelRfl
import Derived.Test.YtkhcdgkdpjahpaaGreatDoorBaedba9b7

set_option linter.all false
set_option maxHeartbeats 1000000
noncomputable section
namespace Go.ia
variable{a b i q:Nat}{c g h m:ac8}{d:Nat->Nat->ac2}{e:acX}{f j:Int}{k:Nat->Nat->Bool}{l x:ac2}{o:Type}{t:acV}{u:Nat->Prop}{v:ac4}{w:List (Int×bw)}{y:Bool}
def yg (g:dU f):qv (f,())=some (aT (dJ f),()):=by
 obtain⟨i,j,k⟩:=HC g;have t:=xf f;have s:=xe f;unfold qv dJ;refine ak (yc g) ?_;dsimp only;by_cases e:bE f=2047
 ·rw[aA e,aj e];rfl
 rw[ay e,ag e,show(!!false)=false from rfl,cond_false,i,aG,j,k,be (x:=bE f) U U];obtain⟨a,d,l,n,o,p,q,h⟩:∃a d,(bif decide (bE f>0) then some (eB IntKind.u64 (eW f) 4503599627370496,aq (bE f-1075),((false,((false,([],())),((0:Int),()))):bw),()) else some (eW f,(-1074:Int),(false,((false,([],())),((0:Int),()))),()))=some (a,d,(false,((false,([],())),((0:Int),()))),())/\0<=a/\a<9007199254740992/\-1074<=d/\d<=972/\(a=(if bE f=0 then eW f else eW f+4503599627370496)/\d=(if bE f=0 then-1074 else bE f-1075)):=by
  by_cases c:bE f=0
  ·refine⟨eW f,-1074,?_,U,U,U,U,by rw[aj c],by rw[aj c]⟩;rw[ay (U:¬bE f>0)];rfl
  refine⟨eW f+4503599627370496,bE f-1075,?_,U,U,U,U,by rw[ag c],by rw[ag c]⟩;rw[aA (U:bE f>0),be U U,k9 52 U U U U U aa];rfl
 rw[<-h.1,<-h.2];refine ak l ?_;dsimp only;refine ak (Xm g) ?_;rw[lh,Option.bind_some];dsimp only;rw[nE a,jv (x:=a/4294967296) U U];have r:az a.natAbs<=53:=de.2 U;refine ak (MD (b:=(decide (9223372036854775808<=f),[a %4294967296,a/4294967296],())) (m:=if f<9223372036854775808 then a else-a) (aN.cons.2 ⟨⟨U,U⟩,aN.cons.2 ⟨⟨U,U⟩,aN.nil⟩⟩) ab ?_ ?_ U U) rfl
 ·unfold e5;simp only[ae];by_cases c:f<9223372036854775808
  ·rw[ay (U:¬(9223372036854775808<=f)),aj c,ag ab];omega
  rw[aA (U:9223372036854775808<=f),ag c,aj rfl];omega
 split
 ·omega
 rw[p0];omega
def ox (a:ac2) (b:Int):Int:=match a with
 |none=>9221120237041090560
 |some c=>yf c b
def XE (c:dm l):AN (aT l,f,())=some (ox l f,()):=by
 unfold AN;refine ak (kl c) ?_;dsimp only;rw[m5];cases l with
 |none=>rfl
 |some b=>
  have d:=c b rfl;have h:=hA d;have i:=hQ d;rw[eK];refine ak (hR U) ?_;dsimp only;rw[h9];unfold ox yf;by_cases a:b=0
  ·subst a;rw[aA (show aZ 0=0 from rfl)];rfl
  rw[ay (gH a)];simp only;rw[if_neg a,cond_false];have g:0<(aZ b).natAbs:=(by have:=gH a;omega);refine ak (x6 U) ?_;dsimp only;rw[xP];refine ak (Gj U g U U (λe=>by cases e)) ?_;unfold bh;rw[if_neg a]
def RZ (a:Int):dm (ni a):=Fj a 0
def Ct (a:-9223372036854775808<=f) (b:f<=9223372036854775807):r7 (f,j,())=some (ox (ni f) j,()):=by unfold r7;exact ak (W7 a b) (ak (XE (RZ f)) rfl)
def XC (j:0<a) (k:0<b) (h:az a<=131072) (i:az b<=131072):∃c,lc a b<=c/\c<=140000/\AG (aL (a:Int),aL (b:Int),60,())=some (aL ((a*2^c/b:Nat):Int),-(c:Int),decide (a*2^c %b≠0),()):=by
 obtain⟨c,l⟩:∃c,c=62+az b-az a:=⟨_,rfl⟩;have o:c<=131134:=U;have p:az (a*2^c)<=262206:=(by have:=qg (m:=a) (n:=c);omega);refine⟨c,by unfold lc;omega,U,?_⟩;unfold AG;refine ak (s1 (z:=(b:Int)) (by rw[dt];omega)) (ak (s1 (z:=(a:Int)) (by rw[dt];omega)) ?_);rw[dt,dt];dsimp only;have al:(if 0>aq (aq (aq (60+2)+(az b:Int))-(az a:Int)) then 0 else aq (aq (aq (60+2)+(az b:Int))-(az a:Int)))=(c:Int):=(by rw[be (x:=60+2) aa aa,be (x:=60+2+(az b:Int)) U U,be U U];split<;>omega);rw[al];refine ak (yi (z:=(a:Int)) (n:=c) (by rw[dt];omega) U) ?_;have e:(a:Int)*2^c=((a*2^c:Nat):Int):=(by rw[<-iD,<-Int.natCast_mul]);rw[e];refine ak (Mp (x:=((a*2^c:Nat):Int)) (y:=(b:Int)) (by rw[dt];omega) (by rw[dt];omega) U U) ?_;rw[<-Int.natCast_ediv,<-Int.natCast_emod];have q:az (a*2^c %b)<=900000:=Nat.le_trans (hJ (Nat.mod_le _ _)) U;refine ak (hR (by rw[dt];omega)) ?_;dsimp only;rw[be U U,Int.zero_sub];have f:(dE ((a*2^c %b:Nat):Int)!=0)=decide (a*2^c %b≠0):=by
  show(!(dE ((a*2^c %b:Nat):Int)==0))=_;rw[h9];by_cases d:a*2^c %b=0
  ·rw[aA U,ay (λg=>g d)];rfl
  rw[ay U,aA d];rfl
 rw[f]
def Xj {g:ac2} (i:dm g) (j:dm l):AL (aT g,aT l,f,())=some (ld g l f,()):=by
 unfold AL;refine ak (kl i) (ak (kl j) ?_);dsimp only;rw[m5,m5];cases g with
 |none=>cases l<;>rfl
 |some a=>
  cases l with
  |none=>rfl
  |some b=>
   have s:=hA (i a rfl);have t:=hA (j b rfl);have B:=hQ (i a rfl);have C:=hQ (j b rfl);rw[eK,eK];by_cases e:b=0
   ·subst e;refine ak (y:=.inr (9221120237041090560,())) ?_ rfl;exact ak (hR (z:=aZ 0) aa) rfl
   refine ak (y:=.inl ((false,aL (aZ a),bh a,()),(false,aL (aZ b),bh b,()),())) ?_ ?_
   ·refine ak (hR (z:=aZ b) U) ?_;dsimp only;rw[h9,ay (gH e)];rfl
   dsimp only;refine ak (hR (z:=aZ a) U) ?_;dsimp only;rw[h9];unfold ld;simp only;rw[if_neg e];by_cases d:a=0
   ·subst d;rw[aA (show aZ 0=0 from rfl)];rfl
   rw[ay (gH d),if_neg d,cond_false];have k:0<(aZ a).natAbs:=(by have:=gH d;omega);have o:0<(aZ b).natAbs:=(by have:=gH e;omega);refine ak (x6 U) (ak (x6 U) ?_);obtain⟨c,q,D,A⟩:=XC k o s t;refine ak A ?_;dsimp only;rw[be (x:=bh a-bh b) U U,be U U,xP,xP];have p:58<=az ((aZ a).natAbs*2^c/(aZ b).natAbs):=Ck k o (by unfold lc at q;omega);have v:0<(aZ a).natAbs*2^c/(aZ b).natAbs:=by
    rcases h0 ((aZ a).natAbs*2^c/(aZ b).natAbs) with h|h
    ·rw[h] at p;exact absurd p aa
    exact h
   have w:az ((aZ a).natAbs*2^c/(aZ b).natAbs)<=800000:=Nat.le_trans (hJ (Nat.div_le_self _ _)) (by have:=qg (m:=(aZ a).natAbs) (n:=c);omega);refine ak (Gj w v U U (λ_=>by omega)) ?_;have u:=WF (ki:=f) d e q;dsimp only;rw[<-u];unfold pG;have r:bh a-bh b+-(c:Int)=ei a-ei b-c:=(by unfold bh;rw[if_neg d,if_neg e];omega);rw[r];rfl
def XD {B:Nat} {ex:Int} (w:0<B) (v:az B<=131072) (E:-70000<=ex) (F:ex<=70000):∃c:Nat,118<=az B+c/\c<=127/\(ex-c) %2=0/\AH (aL (B:Int),ex,60,())=some (aL ((bz (B*2^c):Nat):Int),(ex-c)/2,decide (bz (B*2^c)*bz (B*2^c)≠B*2^c),()):=by
 obtain⟨a,e⟩:∃a:Nat,a=if(ex-((126-az B:Nat):Int)) %2=0 then 126-az B else 126-az B+1:=⟨_,rfl⟩
 have p:a<=127:=(by rw[e];split<;>omega);have q:118<=az B+a:=(by rw[e];split<;>omega);have r:(ex-a) %2=0:=(by rw[e];split<;>omega);have A:az (B*2^a)<=131199:=(by have:=qg (m:=B) (n:=a);omega);have s:bz (B*2^a)<=B*2^a:=by
  obtain⟨u,G⟩:=pt (B*2^a);rcases h0 (bz (B*2^a)) with b|b
  ·omega
  exact db (Nat.le_mul_of_pos_left _ b) u
 have C:=hJ s;refine⟨a,q,p,r,?_⟩;unfold AH;refine ak (s1 (z:=(B:Int)) (by rw[dt];omega)) ?_;rw[dt];dsimp only;have al:(if 0>aq (aq (aq (2*60)+6)-(az B:Int)) then 0 else aq (aq (aq (2*60)+6)-(az B:Int)))=((126-az B:Nat):Int):=(by rw[be (x:=2*60) aa aa,be (x:=2*60+6) aa aa,be U U];split<;>omega);rw[al];refine ak (y:=((a:Int),(false,([],())),())) ?_ ?_
 ·rw[be U U];refine ak (y:=(ex-((126-az B:Nat):Int)).tmod 2) (by unfold fS;rw[aj aa]) ?_;rw[bH];have h:((ex-((126-az B:Nat):Int)).tmod 2=0)↔((ex-((126-az B:Nat):Int)) %2=0):=by
   constructor
   ·intro d;have:=Int.dvd_of_tmod_eq_zero d;omega
   intro d;exact Int.tmod_eq_zero_of_dvd (Int.dvd_of_emod_eq_zero d)
  by_cases b:(ex-((126-az B:Nat):Int)) %2=0
  ·rw[aA (h.2 b)];show some (((126-az B:Nat):Int),_,())=_;rw[e,aj b]
  rw[ay (λd=>b (h.1 d))];show some (aQ ((126-az B:Nat):Int),_,())=_;rw[bi U,e,ag b]
 dsimp only;refine ak (yi (z:=(B:Int)) (n:=a) (by rw[dt];omega) U) ?_;have i:(B:Int)*2^a=((B*2^a:Nat):Int):=(by rw[<-iD,<-Int.natCast_mul]);rw[i];refine ak (XG (x:=((B*2^a:Nat):Int)) (by rw[dt];omega) U) ?_;rw[Int.toNat_natCast];dsimp only;rw[be U U];refine ak (y:=(ex-a)/2) ?_ ?_
 ·unfold gk;have:(ex-(a:Int)).tdiv 2=(ex-(a:Int))/2:=by
   obtain⟨g,o⟩:∃g,ex-(a:Int)=2*g:=⟨(ex-(a:Int))/2,U⟩;rw[o,Int.mul_tdiv_cancel_left _ aa,C2 _ aa]
  rw[aj aa,this,wrap64 U U]
 refine ak (ME (x:=(bz (B*2^a):Int)) (y:=(bz (B*2^a):Int)) (by rw[dt];omega) (by rw[dt];omega)) ?_;rw[<-Int.natCast_mul];have D:az (bz (B*2^a)*bz (B*2^a))<=900000:=(by have:=n7 (k:=131199) (l:=131199) (U:az (bz (B*2^a))<=131199) (U:az (bz (B*2^a))<=131199);omega);refine ak (F9 (x:=((bz (B*2^a)*bz (B*2^a):Nat):Int)) (y:=((B*2^a:Nat):Int)) (by rw[dt];omega) (by rw[dt];omega)) ?_;dsimp only;have j:(dx ((bz (B*2^a)*bz (B*2^a):Nat):Int) ((B*2^a:Nat):Int)!=0)=decide (bz (B*2^a)*bz (B*2^a)≠B*2^a):=by
  rw[bH];generalize bz (B*2^a)*bz (B*2^a)=f;generalize B*2^a=t;by_cases b:f=t
  ·subst b;rw[ay (show¬(f≠f) fromλd=>d rfl),aA (by unfold dx;rw[ag U,ag U])];rfl
  rw[aA b,ay (by unfold dx;split;omega;split<;>omega)];rfl
 rw[j]
def Xk (o:dm l):AM (aT l,f,())=some (jt l f,()):=by
 unfold AM;refine ak (kl o) ?_;dsimp only;rw[m5];cases l with
 |none=>rfl
 |some a=>
  have q:=o a rfl;have i:=hA q;have F:=hQ q;rw[eK];have r:=Gs a;by_cases g:a<0
  ·refine ak (y:=.inr (9221120237041090560,())) ?_ ?_
   ·refine ak (hR (z:=aZ a) U) ?_;dsimp only;rw[r,aA (show dE a<0 by unfold dE;rw[if_neg U,if_pos g];decide)];rfl
   unfold jt;simp only;rw[aj g]
  have x:decide (dE a<0)=false:=ay (by unfold dE;split;omega;first|decide|(split<;>omega));refine ak (y:=.inl ((false,aL (aZ a),bh a,()),())) ?_ ?_
  ·refine ak (hR (z:=aZ a) U) ?_;dsimp only;rw[r,x];rfl
  dsimp only;refine ak (hR (z:=aZ a) U) ?_;dsimp only;rw[h9];unfold jt;simp only;rw[if_neg g];by_cases d:a=0
  ·subst d;rw[aA (show aZ 0=0 from rfl)];rfl
  rw[ay (gH d),ag d,cond_false];have H:0<aZ a:=(by have:=u9 (v:=a);have:=gH d;omega);obtain⟨b,u⟩:∃b:Nat,aZ a=b:=⟨(aZ a).toNat,U⟩;have h:(aZ a).natAbs=b:=U;rw[h] at i;have j:0<b:=U;have p:bh a=ei a:=(by unfold bh;rw[ag d]);obtain⟨c,J,K,C,D⟩:=XD (B:=b) (ex:=bh a) j i U U;have t:58<=az (bz (b*2^c)):=xw (by rw[k1 j];omega);have s:0<bz (b*2^c):=by
   rcases h0 (bz (b*2^c)) with e|e
   ·rw[e] at t;exact absurd t aa
   exact e
  have A:bz (b*2^c)<=b*2^c:=(by obtain⟨E,L⟩:=pt (b*2^c);exact Nat.le_trans (Nat.le_mul_of_pos_left _ s) E);have I:=hJ A;have G:az (b*2^c)<=131199:=(by have:=qg (m:=b) (n:=c);omega);rw[u];refine ak D ?_;dsimp only;refine ak (Gj U s U U (λ_=>by omega)) ?_;have w:=Xv (v:=a) (ki:=f) (k:=c) U (by rw[h];omega) (by rw[<-p];exact C);dsimp only;rw[<-w];unfold oy;rw[h,p]
def nl (a:Int) (b:Nat):Nat:=((a %18446744073709551616) %(b:Int)).toNat
def sL (a:Int) {n:Nat} (b:0<n):nl a n<n:=by unfold nl;have c:=l1 (a %18446744073709551616) (U:(n:Int)≠0);have d:=nI (a %18446744073709551616) (U:(0:Int)<(n:Int));omega
def pB (a:Int) {n:Nat} (c:0<n) (e:n<=9223372036854775807):mj (a,(n:Int),())=some ((nl a n:Int),()):=by unfold mj;have d:=sL a c;have b:(a %18446744073709551616) %(n:Int)=(nl a n:Int):=(by unfold nl;have:=Int.emod_nonneg (a %18446744073709551616) (U:(n:Int)≠0);omega);dsimp only;rw[j6 a,bV (x:=(n:Int)) U U,(Cl (x:=a %18446744073709551616) (y:=(n:Int)) ⟨U,U⟩ U).2,b];show some (aq (nl a n:Int),())=_;rw[yy U]
def Zw (a b:Int):dU (rm IntKind.u64 a b):=by unfold rm dU;rw[yA];omega
def GQ (e:ac8) (h:e.length<=9223372036854775807) (d:Int):ac (us (e,d,())) (λc=>dU c.1):=by
 have g:∀b c:Int,0<=c->∃f,da IntKind.u64 b c=some f:=λb c a=>(by unfold da;rw[if_pos a];exact⟨_,rfl⟩);unfold us;dsimp only;refine ac.aU (P:=λ_=>True) ?_ ?_
 ·rw[bj];refine ac.ite (λa=>?_) λa=>ac.af.2 trivial;have a:0<e.length:=(by simp only[aV] at a;omega);have i:=sL d a;refine ac.bs (pB d a h) (ac.bs (bL i) (ac.af.2 trivial))
 rintro⟨b,_⟩ _;dsimp only;obtain⟨f,j⟩:=g b 31 aa;refine ac.bs j ?_;obtain⟨l,k⟩:=g (aJ (rm IntKind.u64 b f*13787848793156543929)) 29 aa;exact ac.bs k (ac.af.2 (Zw _ _))
def Cz (a:0<=f) (b:f<9223372036854775808):dU (km y f):=by unfold km dU;cases y<;>simp<;>omega
def LY (b:Bool) (a:Int):dU (mE b a):=by unfold mE;split<;>exact Cz aa aa
def Wf (b:a<=9007199254740992) (c:-1074<=f):dU (kI y a f j):=by
 unfold kI;split
 ·exact Cz U U
 split
 ·split
  ·exact LY _ _
  exact Cz U U
 split
 ·exact LY _ _
 exact Cz U U
def Gg {b:Bool} (c:0<a):dU (h8 y a f b j):=by have d:=CO (neg:=y) (qY:=b) (ki:=j) (e:=f) c;have h:-1074<=bv a f:=(by unfold bv;omega);have g:h8 y a f b j=kI y (if bv a f<=f then a*2^(f-bv a f).toNat else gS y a (bv a f-f).toNat b j) (bv a f) j:=(by unfold h8;split<;>rfl);rw[g];exact Wf d h
def B0:dU 9221120237041090560:=⟨aa,aa⟩
def Xo (b:ac2) (c:Int):dU (ox b c):=by
 unfold ox;cases b with
 |none=>exact B0
 |some d=>
  simp only;unfold yf;by_cases a:d=0
  ·rw[aj a];exact⟨aa,aa⟩
  rw[ag a];exact Gg (by have:=gH a;omega)
def WD (i:Int):dU (ld l x i):=by
 unfold ld;cases l with
 |none=>exact B0
 |some a=>
  cases x with
  |none=>exact B0
  |some b=>
   simp only;by_cases c:b=0
   ·rw[aj c];exact⟨aa,aa⟩
   by_cases e:a=0
   ·rw[ag c,aj e];exact⟨aa,aa⟩
   rw[ag c,ag e];unfold sY pG;have g:0<(aZ a).natAbs:=(by have:=gH e;omega);have h:0<(aZ b).natAbs:=(by have:=gH c;omega);have f:58<=az ((aZ a).natAbs*2^lc (aZ a).natAbs (aZ b).natAbs/(aZ b).natAbs):=Ck g h (by unfold lc;omega);refine Gg ?_;rcases h0 ((aZ a).natAbs*2^lc (aZ a).natAbs (aZ b).natAbs/(aZ b).natAbs) with d|d
   ·rw[d] at f;exact absurd f aa
   exact d
def Xs (g:Int):dU (jt l g):=by
 unfold jt;cases l with
 |none=>exact B0
 |some a=>
  simp only;by_cases c:a<0
  ·rw[aj c];exact⟨aa,aa⟩
  by_cases d:a=0
  ·rw[ag c,aj d];exact⟨aa,aa⟩
  rw[ag c,ag d];unfold nw oy;have f:0<(aZ a).natAbs:=(by have:=gH d;omega);have e:58<=az (bz ((aZ a).natAbs*2^ip (aZ a).natAbs (ei a))):=xw (by rw[k1 f];unfold ip;split<;>omega);refine Gg ?_;rcases h0 (bz ((aZ a).natAbs*2^ip (aZ a).natAbs (ei a))) with b|b
  ·rw[b] at e;exact absurd e aa
  exact b
def LU (a b:Int):dU (eB IntKind.u64 a b):=by unfold eB dU;rw[yA];omega
def Tt (a:dU f) (b:Int):ac (Aq (f,b,())) (λc=>dU c.1):=by
 have d:=a.1;have e:=a.2;unfold Aq;dsimp only;refine ac.bs (pB b (n:=4) aa aa) ?_;dsimp only;rw[dO,dO,dO,bj];refine ac.ite (λ_=>?_) λ_=>?_
 ·rw[rc aa aa,aG,lW aa aa,aG];exact ac.af.2 (LU _ _)
 rw[bj];refine ac.ite (λ_=>?_) λ_=>?_
 ·rw[rc aa aa,aG];unfold fS;rw[aj aa,aG,lW aa aa,aG];exact ac.af.2 (LU _ _)
 rw[bj];refine ac.ite (λ_=>?_) λ_=>?_
 ·refine ac.bs (yc a) ?_;dsimp only;cases decide (bE f=2047)
  ·exact ac.af.2 a
  exact ac.af.2 ⟨aa,aa⟩
 unfold D1;refine ac.bs (y:=(ox (ni (f %19-9)) 0,())) ?_ (ac.af.2 ?_)
 ·refine ak (y:=f %19) ?_ ?_
  ·unfold fS;rw[aj aa,yN d]
  dsimp only;rw[be (x:=f %19) U U,be U U];exact ak (Ct U U) rfl
 exact Xo _ _
structure eF (rows fF:Nat) (st mx rj:ac8):Prop where
 len:st.length=fF+1
 first:st.getD 0 0=0
 mono:∀j,j<fF->st.getD j 0<=st.getD (j+1) 0
 last:st.getD fF 0=(mx.length:Int)
 val:rj.length=mx.length
 rng:∀j k:Nat,j<fF->st.getD j 0<=(k:Int)->(k:Int)<st.getD (j+1) 0->0<=mx.getD k 0/\mx.getD k 0<(rows:Int)
 asc:∀j k:Nat,j<fF->st.getD j 0<(k:Int)->(k:Int)<st.getD (j+1) 0->mx.getD (k-1) 0<mx.getD k 0
def fN {i:Nat} (a:i<c.length):ax c (i:Int)=some (c.getD i 0):=by rw[bL a,jj a]
def Yb (t:c.length<=1000000):Ak (c,())=some (open Classical in decide (∀a,a+1<c.length->c.getD a 0<=c.getD (a+1) 0),()):=by
 classical
 unfold Ak;dsimp only;refine ac.eq_iff.1 (ac.aU (P:=λg=>match g with|.inl _=>(∀a,a+1<c.length->c.getD a 0<=c.getD (a+1) 0)|.inr q=>q=(false,())/\¬(∀a,a+1<c.length->c.getD a 0<=c.getD (a+1) 0)) ?_ ?_)
 ·refine ac.loop (λh=>∃d:Nat,(h.1=(d:Int)\/(h.1=-1/\d=0))/\d<=c.length/\(d<c.length\/c.length=0)/\(∀a,d<=a->a+1<c.length->c.getD a 0<=c.getD (a+1) 0)) (λh=>h.1.toNat) ⟨c.length-1,?_,U,U,λa e i=>by omega⟩ ?_
  ·simp only[aV];rw[be U U];omega
  rintro⟨r,_⟩ ⟨d,e,i,s,j⟩;dsimp only at e|-;rw[bj];refine ac.ite (λk=>?_) λk=>?_
  ·obtain rfl:r=(d:Int):=U;obtain⟨b,rfl⟩:∃b,d=b+1:=⟨d-1,U⟩;have al:aq (((b+1:Nat):Int)-1)=(b:Int):=(by rw[be U U];omega);rw[al];refine ac.bs (fN U) (ac.bs (fN U) ?_);refine ac.bs (y:=(decide (c.getD (b+1) 0<c.getD b 0),())) (by unfold rV qm;simp only[bne_self_eq_false,Option.bind_some];rfl) ?_;dsimp only;rw[bj];refine ac.ite (λp=>?_) λp=>?_
   ·refine ac.af.2 ⟨rfl,λl=>?_⟩;have:=l b U;omega
   refine ac.af.2 ⟨⟨b,.inl rfl,U,U,λa i1 n=>?_⟩,?_⟩
   ·rcases bn b a with o|o
    ·exact j a U n
    obtain rfl:a=b:=U;omega
   show(b:Int).toNat<((b+1:Nat):Int).toNat;omega
  refine ac.af.2 ?_;intro a m;exact j a U m
 rintro(g|g) f
 ·have f:(∀a,a+1<c.length->c.getD a 0<=c.getD (a+1) 0):=f;rw[decide_eq_true f];exact ac.af.2 rfl
 obtain⟨e,i⟩:g=(false,())/\¬(∀a,a+1<c.length->c.getD a 0<=c.getD (a+1) 0):=f;rw[e,decide_eq_false i];exact ac.af.2 rfl
def ho (e:Int) (d b:ac8) (c:Nat):Prop:=∀a:Nat,d.getD c 0<=(a:Int)->(a:Int)<d.getD (c+1) 0->(if(a:Int)=d.getD c 0 then-1 else b.getD (a-1) 0)<b.getD a 0/\b.getD a 0<e
def ho.pos (i:ho f c g a) (l:0<=c.getD a 0):∀b:Nat,c.getD a 0<=(b:Int)->(b:Int)<c.getD (a+1) 0->0<=g.getD b 0:=by
 intro b
 induction b with
 |zero=>
  intro d e;have:=(i 0 d e).1;rw[aj U] at this;omega
 |succ b k=>
  intro d e;have j:=(i (b+1) d e).1;by_cases h:((b+1:Nat):Int)=c.getD a 0
  ·rw[aj h] at j;omega
  rw[ag h,tE] at j;have:=k U U;omega
def ho.rng (k:0<=c.getD a 0):ho f c g a↔(∀b:Nat,c.getD a 0<=(b:Int)->(b:Int)<c.getD (a+1) 0->0<=g.getD b 0/\g.getD b 0<f)/\(∀b:Nat,c.getD a 0<(b:Int)->(b:Int)<c.getD (a+1) 0->g.getD (b-1) 0<g.getD b 0):=by
 constructor
 ·intro h;refine⟨λb d e=>⟨h.pos k b d e,(h b d e).2⟩,λb d e=>?_⟩;have:=(h b U e).1;rwa[ag U] at this
 rintro⟨d,e⟩ b j i;refine⟨?_,(d b j i).2⟩;split
 ·have:=(d b j i).1;omega
 exact e b U i
def X4 {l:ac8} {lo hi t:Nat} (a:hi<=l.length) (b:lo+t<hi):((l.take hi).drop lo).length=hi-lo/\((l.take hi).drop lo)[t]?=some (l.getD (lo+t) 0):=by refine⟨by simp;omega,?_⟩;rw[iJ,rx,aj U,a9 U,jj U]
def X5 {l:ac8} {lo:Nat} (b:a<=l.length):((l.take a).drop lo).length=a-lo:=by simp;omega
def eF.iff:eF b a c g h↔c.length=a+1/\c.getD 0 0=0/\(∀d,d<a->c.getD d 0<=c.getD (d+1) 0)/\c.getD a 0=(g.length:Int)/\h.length=g.length/\∀d,d<a->ho (b:Int) c g d:=by
 have o:(∀d,d<a->c.getD d 0<=c.getD (d+1) 0)->c.getD 0 0=0->∀d,d<=a->0<=c.getD d 0:=λq s d=>by
  induction d with
  |zero=>intro _;omega
  |succ d r=>intro e;have:=r U;have:=q d U;omega
 constructor
 ·rintro⟨l,i,j,m,n,k,p⟩;exact⟨l,i,j,m,n,λd e=>(ho.rng (o j i d U)).2 ⟨λf=>k d f e,λf=>p d f e⟩⟩
 rintro⟨l,i,j,m,n,k⟩;exact⟨l,i,j,m,n,λd f e=>((ho.rng (o j i d U)).1 (k d e)).1 f,λd f e=>((ho.rng (o j i d U)).1 (k d e)).2 f⟩
section
open Go.Proofs
def yu:List (String×DataW Unit):=[("math/bits.deBruijn32tab",Lib.tabData .u8 n9)]
def Yx (b:Os) (a:acZ):laidMetH Tryz.prog yu ((World.doorLaid Tryz.prog 400 b).forCall (λ_ _=>0) ⟨#[],a,[]⟩).memory:=
 laidMetH_of_parts3 (fuel:=8) (laidMet_of_run' 8 (by kernel_rfl) (by kernel_rfl)) (by kernel_rfl) (by kernel_rfl)
def Yw {b:World} (c:laidMetH Tryz.prog yu b):jy E (λr=>r<b.heap.size) b:=by
 rw[MakeChecks.laidMetH_plain _ _ _ (by kernel_rfl)] at c;have f:Tryz.prog.globalNamed "math/bits.deBruijn32tab"=some 0:=(by kernel_rfl);have j:=Lib.tabIs_of_head (g:=0) (t:=266) (e:=5) (n:=32) f (by kernel_rfl) (by kernel_rfl) (by kernel_rfl) (by kernel_rfl) (by kernel_rfl) c;intro q h;have h:q∈[(⟨0,266,.u8,n9⟩:rH)]:=h;obtain rfl:=ed.1 h;have s:0<b.heap.size:=by
  have d:=j.cell f 0 aa;unfold World.cell? at d;split at d
  ·rename_i x w y v;exact(lY.1 v).1
  cases d
 refine⟨rfl,_,_,rfl,a6 _,(λc=>by cases c),.inr ⟨0,0,rfl,s,λa p i=>?_⟩⟩;obtain⟨l,i⟩:=ec.1 i;refine⟨[.int .u8 p],rfl,λo z m=>?_,rfl,rfl⟩;have k:=j.cell f a l;have u:(n9.getD a 0:Int)=p:=(by rw[jj l];exact i);rw[u] at k;cases o with
 |zero=>
  obtain rfl:=ee m;have:(⟨0,0+a*ai.size (.int .u8)+0,none⟩:Addr)=⟨0,a,none⟩:=(by show(⟨0,0+a*1+0,none⟩:Addr)=_;congr 1;omega);rw[this];exact k
 |succ o=>cases m
end
section
def P2 (av:b<=200) (am:a<=200) (R:c.length<=10000) (Y:g.length<=1000000) (a3:h.length<=1000000):Ab (((b:Int),(a:Int),g,c,h,()),())=some (open Classical in decide (eF b a g c h),()):=by
 classical
 unfold Ab;refine ac.eq_iff.1 ?_;dsimp only;have X:aQ (a:Int)=((a+1:Nat):Int):=bi U;have L:∀(j:¬eF b a g c h),(false,())=(decide (eF b a g c h),()):=λj=>(by rw[decide_eq_false j]);refine ac.aU (P:=λm=>match m with
  |.inl _=>g.length=a+1/\g.getD 0 0=0/\(∀d,d<a->g.getD d 0<=g.getD (d+1) 0)/\g.getD a 0=(c.length:Int)/\h.length=c.length
  |.inr q=>q=(false,())/\¬eF b a g c h) ?_ ?_
 ·rw[X,bH];by_cases z:g.length=a+1
  ·rw[aA (show ar g=((a+1:Nat):Int) by simp only[aV];omega)];refine ac.bs (y:=g.getD 0 0) (fN (i:=0) U) ?_;rw[bH];by_cases v:g.getD 0 0=0
   ·rw[aA v];refine ac.bs (Yb Y) ?_;dsimp only;by_cases o:∀r,r+1<g.length->g.getD r 0<=g.getD (r+1) 0
    ·rw[decide_eq_true o];refine ac.bs (y:=g.getD a 0) (fN U) ?_;rw[bH];by_cases w:g.getD a 0=(c.length:Int)
     ·rw[aA (show g.getD a 0=ar c from w),bH];by_cases E:c.length=h.length
      ·rw[aA (show ar c=ar h by simp only[aV];omega)];exact ac.af.2 ⟨z,v,λd s=>o d U,w,U⟩
      rw[ay (show¬ar c=ar h by simp only[aV];omega)];exact ac.af.2 ⟨rfl,λj=>E j.val.symm⟩
     rw[ay (show¬g.getD a 0=ar c from w)];exact ac.af.2 ⟨rfl,λj=>w j.last⟩
    rw[decide_eq_false o];exact ac.af.2 ⟨rfl,λj=>o λr R=>j.mono r (by have:=j.len;omega)⟩
   rw[ay v];exact ac.af.2 ⟨rfl,λj=>v j.first⟩
  rw[ay (show¬ar g=((a+1:Nat):Int) by simp only[aV];omega)];exact ac.af.2 ⟨rfl,λj=>z j.len⟩
 rintro(m|m) D
 rotate_left
 ·obtain⟨rfl,j⟩:m=(false,())/\¬eF b a g c h:=D;exact ac.af.2 (L j)
 obtain⟨z,v,o,w,E⟩:g.length=a+1/\g.getD 0 0=0/\(∀d,d<a->g.getD d 0<=g.getD (d+1) 0)/\g.getD a 0=(c.length:Int)/\h.length=c.length:=D;have N:∀d,d<=a->0<=g.getD d 0:=λd=>by
  induction d with
  |zero=>intro _;omega
  |succ d G=>intro s;have:=G U;have:=o d U;omega
 have D:∀A d,d+A=a->g.getD d 0<=(c.length:Int):=λA=>by
  induction A with
  |zero=>intro d s;obtain rfl:d=a:=s;omega
  |succ A G=>intro d s;have:=G (d+1) U;have:=o d U;omega
 dsimp only;refine ac.aU (P:=λm=>match m with
  |.inl _=>(∀d,d<a->ho (b:Int) g c d)
  |.inr q=>q=(false,())/\¬(∀d,d<a->ho (b:Int) g c d)) ?_ ?_
 ·refine ac.steps a (λr H=>H=((r:Int),())/\∀d,d<r->ho (b:Int) g c d) ⟨rfl,λd s=>by omega⟩ ?_ ?_
  ·rintro d _ s ⟨rfl,B⟩;dsimp only;rw[bb (aA (U:(d:Int)<(a:Int))),bi U];obtain⟨e,M⟩:=Int.eq_ofNat_of_zero_le (N d U);obtain⟨p,T⟩:=Int.eq_ofNat_of_zero_le (N (d+1) U);have F:p<=c.length:=(by have:=D (a-(d+1)) (d+1) U;omega);have W:e<=p:=(by have:=o d s;omega);refine ac.bs (y:=(e:Int)) (by rw[fN U,M]) (ac.bs (y:=(p:Int)) (by rw[fN U,T]) (ac.bs (y:=(e,p)) (by rw[q0,Option.bind_some,q0,Option.bind_some,sA ⟨W,F⟩];rfl) ?_));dsimp only;have ap:=X5 (l:=c) (lo:=e) F;refine ac.aU (P:=λm=>match m with
    |.inl _=>ho (b:Int) g c d
    |.inr q=>q=.inr (.inr (false,()))/\¬ho (b:Int) g c d) ?_ ?_
   ·refine ac.steps (p-e) (λf H=>H=((if f=0 then-1 else c.getD (e+f-1) 0),(f:Int),())/\∀k:Nat,e<=k->k<e+f->(if(k:Int)=g.getD d 0 then-1 else c.getD (k-1) 0)<c.getD k 0/\c.getD k 0<(b:Int)) ⟨rfl,λk B C=>by omega⟩ ?_ ?_
    ·rintro f _ a0 ⟨rfl,C⟩;have S:=(X4 (l:=c) (lo:=e) (hi:=p) (t:=f) F U).2;have V:(if f=0 then-1 else c.getD (e+f-1) 0)=(if((e+f:Nat):Int)=g.getD d 0 then-1 else c.getD (e+f-1) 0):=by
      rw[M];by_cases Q:f=0
      ·subst Q;rw[aj rfl,aj U]
      rw[ag Q,ag U]
     dsimp only;rw[bb (aA (show(f:Int)<ar ((c.take p).drop e) by simp only[aV];omega)),V];refine ac.aU (P:=λm=>match m with
      |.inl q=>q=(c.getD (e+f) 0,())/\((if((e+f:Nat):Int)=g.getD d 0 then-1 else c.getD (e+f-1) 0)<c.getD (e+f) 0/\c.getD (e+f) 0<(b:Int))
      |.inr q=>q=.inr (.inr (.inr (.inr (false,()))))/\¬((if((e+f:Nat):Int)=g.getD d 0 then-1 else c.getD (e+f-1) 0)<c.getD (e+f) 0/\c.getD (e+f) 0<(b:Int))) ?_ ?_
     ·refine ac.bs (y:=c.getD (e+f) 0) (dW S) ?_;generalize(if((e+f:Nat):Int)=g.getD d 0 then-1 else c.getD (e+f-1) 0)=ad;generalize c.getD (e+f) 0=I;by_cases J:I<=ad
      ·rw[aA J];exact ac.af.2 ⟨rfl,λj=>by omega⟩
      rw[ay J];by_cases K:I>=(b:Int)
      ·rw[aA K];exact ac.af.2 ⟨rfl,λj=>by omega⟩
      rw[ay K];exact ac.af.2 ⟨rfl,U,U⟩
     rintro(m|m) n
     ·obtain⟨rfl,u⟩:=n;refine ac.af.2 ⟨?_,?_⟩
      ·rw[bi U,ag U];rfl
      intro k x Z;rcases bn k (e+f) with O|O
      ·exact C k x O
      obtain rfl:k=e+f:=U;exact u
     obtain⟨rfl,u⟩:=n;refine ac.af.2 ⟨rfl,λj=>u ?_⟩;exact j (e+f) U U
    rintro _ ⟨rfl,C⟩;dsimp only;rw[a2 (ay (show¬(((p-e:Nat):Int)<ar ((c.take p).drop e)) by simp only[aV];omega))];refine ac.af.2 ?_;intro k x Z;exact C k U U
   rintro(m|m) n
   ·have n:ho (b:Int) g c d:=n;refine ac.af.2 ⟨rfl,λk an=>?_⟩;rcases bn k d with x|x
    ·exact B k x
    obtain rfl:k=d:=U;exact n
   obtain⟨rfl,u⟩:=n;exact ac.af.2 ⟨rfl,λj=>u (j d s)⟩
  rintro _ ⟨rfl,B⟩;dsimp only;rw[a2 (ay (U:¬((a:Int)<(a:Int))))];exact ac.af.2 B
 rintro(m|m) n
 ·have n:(∀d,d<a->ho (b:Int) g c d):=n;refine ac.af.2 ?_;show(true,())=_;rw[decide_eq_true (eF.iff.2 ⟨z,v,o,w,E,n⟩)]
 obtain⟨rfl,u⟩:m=(false,())/\¬(∀d,d<a->ho (b:Int) g c d):=n;exact ac.af.2 (L λj=>u (eF.iff.1 j).2.2.2.2.2)
def jx (b:ac8):Prop:=∀a,a<b.length->bE (b.getD a 0)≠2047
open Classical in
def eA (d b:Nat) (e c a:ac8):Int:=if eF d b e c a then if jx a then 0 else 4 else 1
def Hr.getD {b:ac8} (d:∀e∈b,dU e) (c:Nat):dU (b.getD c 0):=by
 rcases bn c b.length with a|a
 ·rw[jj a];exact d _ (bD a)
 rw[ms a];exact⟨aa,aa⟩
def Ts (o:∀r∈c,dU r) (s:c.length<=1000000):Ag (c,(),())=some (open Classical in decide (¬jx c),()):=by
 classical
 unfold Ag;refine ac.eq_iff.1 ?_;refine ac.aU (P:=λj=>∃h,j=(h,())/\(0<=h↔¬jx c)) ?_ ?_
 ·unfold DT;dsimp only;refine ac.aU (P:=λf=>match f with|.inl _=>jx c|.inr j=>0<=j.1/\¬jx c) ?_ ?_
  ·refine ac.steps c.length (λa q=>q=((a:Int),())/\∀b,b<a->bE (c.getD b 0)≠2047) ⟨rfl,λb n=>by omega⟩ ?_ ?_
   ·rintro a _ k ⟨rfl,e⟩;dsimp only;rw[bb (aA (show(a:Int)<ar c by simp only[aV];omega))];refine ac.bs (fN k) ?_;unfold DR;refine ac.bs (y:=(decide (bE (c.getD a 0)=2047),())) (ak (BG (Hr.getD o a)) (by dsimp only;rw[Bool.not_not])) ?_;dsimp only;rw[bj];refine ac.ite (λi=>?_) λi=>?_
    ·exact ac.af.2 ⟨by show(0:Int)<=(a:Int);omega,λd=>d a k i⟩
    refine ac.af.2 ⟨by rw[bi U],λb n=>?_⟩;rcases bn b a with l|l
    ·exact e b l
    obtain rfl:b=a:=U;exact i
   rintro _ ⟨rfl,e⟩;dsimp only;rw[a2 (ay (show¬((c.length:Int)<ar c) by simp only[aV];omega))];exact ac.af.2 e
  rintro(f|f) g
  ·have g:jx c:=g;exact ac.af.2 ⟨_,rfl,⟨λd=>absurd d aa,λd=>absurd g d⟩⟩
  obtain⟨e,m⟩:0<=f.1/\¬jx c:=g;exact ac.af.2 ⟨f.1,rfl,λ_=>m,λ_=>e⟩
 rintro _ ⟨h,rfl,p⟩;refine ac.af.2 ?_;show(decide (h>=0),())=_;congr 1;rw[decide_eq_decide];exact p
def SO (l:b<=200) (j:a<=200) (k:g.length<=10000) (m:h.length<=1000000) (f:c.length<=1000000) (n:∀o∈c,dU o):qq (((b:Int),(a:Int),h,g,c,()),())=some (eA b a h g c,()):=by
 classical
 unfold qq eA;dsimp only;refine ak (y:=(false,())) ?_ ?_
 ·unfold Ae;dsimp only;rw[aA (U:(b:Int)>=0),aA (U:(b:Int)<=200),aA (U:(a:Int)>=0),aA (U:(a:Int)<=200),ay (show¬(ar g>10000) by simp only[aV];omega)];rfl
 dsimp only;rw[cond_false];refine ak (P2 l j k m f) ?_;dsimp only;by_cases d:eF b a h g c
 ·rw[decide_eq_true d,if_pos d];refine ak (Ts n f) ?_;dsimp only;by_cases e:jx c
  ·rw[decide_eq_false (λi=>i e),aj e];rfl
  rw[decide_eq_true e,ag e];rfl
 rw[decide_eq_false d,ag d];rfl
end
def Xi (m:∀p∈c,dU p) (q:c.length<=1000000):AO (c,())=some (open Classical in decide (jx c),()):=by
 classical
 unfold AO;refine ac.eq_iff.1 ?_;dsimp only;refine ac.aU (P:=λf=>match f with|.inl _=>jx c|.inr n=>n=(false,())/\¬jx c) ?_ ?_
 ·refine ac.steps c.length (λa o=>o=((a:Int),())/\∀b,b<a->bE (c.getD b 0)≠2047) ⟨rfl,λb l=>by omega⟩ ?_ ?_
  ·rintro a _ h ⟨rfl,d⟩;dsimp only;rw[bb (aA (show(a:Int)<ar c by simp only[aV];omega))];refine ac.bs (fN h) (ac.bs (yc (Hr.getD m a)) ?_);dsimp only;rw[Bool.not_not,bj];refine ac.ite (λg=>?_) λg=>?_
   ·exact ac.af.2 ⟨rfl,λj=>j a h g⟩
   refine ac.af.2 ⟨by rw[bi U],λb l=>?_⟩;rcases bn b a with i|i
   ·exact d b i
   obtain rfl:b=a:=U;exact g
  rintro _ ⟨rfl,d⟩;dsimp only;rw[a2 (ay (show¬((c.length:Int)<ar c) by simp only[aV];omega))];exact ac.af.2 d
 rintro(f|f) e
 ·have e:jx c:=e;rw[decide_eq_true e];exact ac.af.2 rfl
 obtain⟨d,k⟩:f=(false,())/\¬jx c:=e;rw[d,decide_eq_false k];exact ac.af.2 rfl
def WX (a3:b<=200) (an:a<=200) (ap:c.length<=10000) (a4:g.length<=1000000) (Y:h.length<=1000000) (Z:∀am∈h,dU am):pf (((b:Int),(a:Int),g,c,h,()),())=some (eA b a g c h,()):=by
 classical
 unfold pf;refine ac.eq_iff.1 ?_;dsimp only;have W:aQ (a:Int)=((a+1:Nat):Int):=bi U;have H:∀(k:¬eF b a g c h),((1:Int),())=(eA b a g c h,()):=λk=>(by unfold eA;rw[if_neg k]);refine ac.bs (y:=.inl ()) ?_ ?_
 ·rw[ay (U:¬(b:Int)<0),ay (U:¬(b:Int)>200),ay (U:¬(a:Int)<0),ay (U:¬(a:Int)>200),ay (show¬(ar c>10000) by simp only[aV];omega)];rfl
 dsimp only;refine ac.aU (P:=λl=>match l with
  |.inl _=>g.length=a+1/\g.getD 0 0=0/\g.getD a 0=(c.length:Int)/\h.length=c.length
  |.inr r=>r=((1:Int),())/\¬eF b a g c h) ?_ ?_
 ·rw[W,bH,bH];by_cases F:h.length=c.length
  ·rw[aA (show ar h=ar c by simp only[aV];omega)];by_cases D:g.length=a+1
   ·rw[aA (show ar g=((a+1:Nat):Int) by simp only[aV];omega)];refine ac.bs (y:=g.getD 0 0) (fN (i:=0) U) ?_;rw[bH];by_cases v:g.getD 0 0=0
    ·rw[aA v];refine ac.bs (y:=g.getD a 0) (fN U) ?_;rw[bH];by_cases w:g.getD a 0=(c.length:Int)
     ·rw[aA (show g.getD a 0=ar c from w)];exact ac.af.2 ⟨D,v,w,F⟩
     rw[ay (show¬g.getD a 0=ar c from w)];exact ac.af.2 ⟨rfl,λk=>w k.last⟩
    rw[ay v];exact ac.af.2 ⟨rfl,λk=>v k.first⟩
   rw[ay (show¬ar g=((a+1:Nat):Int) by simp only[aV];omega)];exact ac.af.2 ⟨rfl,λk=>D k.len⟩
  rw[ay (show¬ar h=ar c by simp only[aV];omega)];exact ac.af.2 ⟨rfl,λk=>F k.val⟩
 rintro(l|l) u
 rotate_left
 ·obtain⟨rfl,k⟩:l=((1:Int),())/\¬eF b a g c h:=u;exact ac.af.2 (H k)
 obtain⟨D,v,w,F⟩:g.length=a+1/\g.getD 0 0=0/\g.getD a 0=(c.length:Int)/\h.length=c.length:=u;dsimp only;refine ac.aU (P:=λl=>match l with
  |.inl _=>(∀d,d<a->g.getD d 0<=g.getD (d+1) 0)
  |.inr r=>r=((1:Int),())/\¬eF b a g c h) ?_ ?_
 ·refine ac.steps a (λz C=>C=((z:Int),())/\∀d,d<z->g.getD d 0<=g.getD (d+1) 0) ⟨rfl,λd q=>by omega⟩ ?_ ?_
  ·rintro d _ q ⟨rfl,s⟩;dsimp only;rw[bb (aA (U:(d:Int)<(a:Int))),bi U];refine ac.bs (fN U) (ac.bs (fN U) ?_);rw[bj];refine ac.ite (λx=>?_) λx=>?_
   ·exact ac.af.2 ⟨rfl,λk=>by have:=k.mono d q;omega⟩
   refine ac.af.2 ⟨rfl,λf T=>?_⟩;rcases bn f d with o|o
   ·exact s f o
   obtain rfl:f=d:=U;omega
  rintro _ ⟨rfl,s⟩;dsimp only;rw[a2 (ay (U:¬((a:Int)<(a:Int))))];exact ac.af.2 s
 rintro(l|l) u
 rotate_left
 ·obtain⟨rfl,k⟩:l=((1:Int),())/\¬eF b a g c h:=u;exact ac.af.2 (H k)
 have E:∀d,d<a->g.getD d 0<=g.getD (d+1) 0:=u;have O:∀d,d<=a->0<=g.getD d 0:=λd=>by
  induction d with
  |zero=>intro _;omega
  |succ d A=>intro q;have:=A U;have:=E d U;omega
 have u:∀G d,d+G=a->g.getD d 0<=(c.length:Int):=λG=>by
  induction G with
  |zero=>intro d q;obtain rfl:d=a:=q;omega
  |succ G A=>intro d q;have:=A (d+1) U;have:=E d U;omega
 dsimp only;refine ac.aU (P:=λl=>match l with
  |.inl _=>(∀d,d<a->ho (b:Int) g c d)
  |.inr r=>r=((1:Int),())/\¬(∀d,d<a->ho (b:Int) g c d)) ?_ ?_
 ·refine ac.steps a (λz C=>C=((z:Int),())/\∀d,d<z->ho (b:Int) g c d) ⟨rfl,λd q=>by omega⟩ ?_ ?_
  ·rintro d _ q ⟨rfl,s⟩;dsimp only;rw[bb (aA (U:(d:Int)<(a:Int))),bi U];obtain⟨e,V⟩:=Int.eq_ofNat_of_zero_le (O d U);obtain⟨t,S⟩:=Int.eq_ofNat_of_zero_le (O (d+1) U);have av:t<=c.length:=(by have:=u (a-(d+1)) (d+1) U;omega);have a0:e<=t:=(by have:=E d q;omega);have M:ax g (d:Int)=some (e:Int):=(by rw[fN U,V]);have N:ax g ((d+1:Nat):Int)=some (t:Int):=(by rw[fN U,S]);refine ac.bs M ?_;refine ac.aU (P:=λl=>match l with
    |.inl _=>ho (b:Int) g c d
    |.inr r=>r=.inr (.inr ((1:Int),()))/\¬ho (b:Int) g c d) ?_ ?_
   ·refine ac.steps (t-e) (λj C=>C=(((e+j:Nat):Int),())/\∀f:Nat,e<=f->f<e+j->(if(f:Int)=g.getD d 0 then-1 else c.getD (f-1) 0)<c.getD f 0/\c.getD f 0<(b:Int)) ⟨rfl,λf s p=>by omega⟩ ?_ ?_
    ·rintro j _ bl ⟨rfl,p⟩;dsimp only;refine ac.bs N ?_;rw[bb (aA (U:((e+j:Nat):Int)<(t:Int)))];have I:ax c ((e+j:Nat):Int)=some (c.getD (e+j) 0):=fN U;have X:j≠0->0<=c.getD (e+j-1) 0:=λJ=>by
      have ad:∀f:Nat,e<=f->f<e+j->0<=c.getD f 0:=by
       intro f
       induction f with
       |zero=>
        intro o B;have:=(p 0 o B).1;rw[aj U] at this;omega
       |succ f A=>
        intro o B;have m:=(p (f+1) o B).1;by_cases x:((f+1:Nat):Int)=g.getD d 0
        ·rw[aj x] at m;omega
        rw[ag x,tE] at m;have:=A U U;omega
      exact ad _ U U
     refine ac.aU (P:=λl=>match l with
      |.inl _=>((if((e+j:Nat):Int)=g.getD d 0 then-1 else c.getD (e+j-1) 0)<c.getD (e+j) 0/\c.getD (e+j) 0<(b:Int))
      |.inr r=>r=.inr (.inr (.inr (.inr ((1:Int),()))))/\¬((if((e+j:Nat):Int)=g.getD d 0 then-1 else c.getD (e+j-1) 0)<c.getD (e+j) 0/\c.getD (e+j) 0<(b:Int))) ?_ ?_
     ·refine ac.bs I ?_;by_cases K:c.getD (e+j) 0<0
      ·rw[aA K];refine ac.af.2 ⟨rfl,λk=>?_⟩;have m:=k.1;by_cases J:j=0
       ·rw[aj U] at m;omega
       rw[ag U] at m;have:=X J;omega
      rw[ay K];refine ac.bs I ?_;by_cases L:c.getD (e+j) 0>=(b:Int)
      ·rw[aA L];exact ac.af.2 ⟨rfl,λk=>by omega⟩
      rw[ay L];refine ac.bs M ?_;by_cases J:j=0
      ·rw[ay (U:¬((e+j:Nat):Int)>(e:Int))];refine ac.af.2 ⟨?_,U⟩;rw[aj U];omega
      rw[aA (U:((e+j:Nat):Int)>(e:Int))];have al:aq (((e+j:Nat):Int)-1)=((e+j-1:Nat):Int):=(by rw[be U U];omega);refine ac.bs I (ac.bs (y:=c.getD (e+j-1) 0) (by rw[al];exact fN U) ?_);rw[bj];refine ac.ite (λx=>?_) λx=>?_
      ·refine ac.af.2 ⟨rfl,λk=>?_⟩;have m:=k.1;rw[ag U] at m;omega
      refine ac.af.2 ⟨?_,U⟩;rw[ag U];omega
     rintro(l|l) n
     ·refine ac.af.2 ⟨by rw[bi U];rfl,?_⟩;intro f o B;rcases bn f (e+j) with Q|Q
      ·exact p f o Q
      obtain rfl:f=e+j:=U;exact n
     obtain⟨rfl,m⟩:=n;exact ac.af.2 ⟨rfl,λk=>m (k (e+j) U U)⟩
    rintro _ ⟨rfl,p⟩;dsimp only;refine ac.bs N ?_;rw[a2 (ay (U:¬(((e+(t-e):Nat):Int)<(t:Int))))];refine ac.af.2 ?_;intro f o B;exact p f U U
   rintro(l|l) n
   ·have n:ho (b:Int) g c d:=n;refine ac.af.2 ⟨rfl,λf T=>?_⟩;rcases bn f d with o|o
    ·exact s f o
    obtain rfl:f=d:=U;exact n
   obtain⟨rfl,m⟩:=n;exact ac.af.2 ⟨rfl,λk=>m (k d q)⟩
  rintro _ ⟨rfl,s⟩;dsimp only;rw[a2 (ay (U:¬((a:Int)<(a:Int))))];exact ac.af.2 s
 rintro(l|l) n
 ·have n:(∀d,d<a->ho (b:Int) g c d):=n;have R:eF b a g c h:=eF.iff.2 ⟨D,v,E,w,F,n⟩;refine ac.bs (Xi Z Y) ?_;unfold eA;rw[aj R];by_cases p:jx h
  ·rw[decide_eq_true p,aj p];exact ac.af.2 rfl
  rw[decide_eq_false p,ag p];exact ac.af.2 rfl
 obtain⟨rfl,m⟩:l=((1:Int),())/\¬(∀d,d<a->ho (b:Int) g c d):=n;exact ac.af.2 (H λk=>m (eF.iff.1 k).2.2.2.2.2)
abbrev bu:=Int×Int×Int×Unit
variable{r:bu}{s:List bu}
def hf (b d:ac8) (c:Int) (a:Nat):Nat->List bu
 |0=>[]
 |n+1=>hf b d c a n++[(b.getD (a+n) 0,c,d.getD (a+n) 0,())]
def bt (a b c:ac8):Nat->List bu
 |0=>[]
 |j+1=>bt a b c j++hf b c (j:Int) (a.getD j 0).toNat ((a.getD (j+1) 0).toNat-(a.getD j 0).toNat)
def I3 (c f:ac8) (d:Int) (e a:Nat):(hf c f d e a).length=a:=by
 induction a with
 |zero=>rfl
 |succ a b=>simp[hf,b]
def eF.pos (e:eF b a c g h):∀d,d<=a->0<=c.getD d 0:=λd=>by
 have:=e.first
 induction d with
 |zero=>intro _;omega
 |succ d f=>intro i;have:=f U;have:=e.mono d U;omega
def eF.pu (i:eF b a g c h):∀d,d<=a->g.getD d 0<=(c.length:Int):=by
 have k:∀e d,d+e=a->g.getD d 0<=(c.length:Int):=λe=>by
  have:=i.last
  induction e with
  |zero=>intro d f;obtain rfl:d=a:=f;omega
  |succ e j=>intro d f;have:=j (d+1) U;have:=i.mono d U;omega
 exactλd f=>k (a-d) d U
def xb (e:eF b a c g h):∀d,d<=a->(bt c g h d).length=(c.getD d 0).toNat:=λd=>by
 induction d with
 |zero=>intro _;have:=e.first;show 0=(c.getD 0 0).toNat;omega
 |succ d i=>
  intro l;have f:=i U;have j:=e.mono d U;have k:=e.pos d U;simp only[bt,lu,I3,f];omega
def Ek (i:eF b a g c h) (p:a<=200) (r:c.length<=10000):uq (((b:Int),(a:Int),g,c,h,()),())=some (bt g c h a,()):=by
 unfold uq;refine ac.eq_iff.1 ?_;dsimp only;refine ac.aU (P:=λl=>l=(bt g c h a,())) ?_ (by rintro _ rfl;exact ac.af.2 rfl);refine ac.steps a (λd m=>m=((d:Int),bt g c h d,())) rfl ?_ ?_
 ·rintro d _ o rfl;have s:=i.len;obtain⟨f,n⟩:=Int.eq_ofNat_of_zero_le (i.pos d U);obtain⟨e,k⟩:=Int.eq_ofNat_of_zero_le (i.pos (d+1) U);have t:e<=c.length:=(by have:=i.pu (d+1) U;omega);have u:f<=e:=(by have:=i.mono d o;omega);have q:=xb i d U;have w:=i.val;dsimp only;rw[bb (aA (U:(d:Int)<(a:Int))),bi U];refine ac.bs (y:=(f:Int)) (by rw[fN U,n]) ?_;refine ac.aU (P:=λl=>l=(bt g c h (d+1),())) ?_ (by rintro _ rfl;exact ac.af.2 rfl);refine ac.steps (e-f) (λj m=>m=(((f+j:Nat):Int),bt g c h d++hf c h (d:Int) f j,())) (by simp[hf]) ?_ ?_
  ·rintro j _ v rfl;dsimp only;refine ac.bs (y:=(e:Int)) (by rw[fN U,k]) ?_;rw[bb (aA (U:((f+j:Nat):Int)<(e:Int)))];refine ac.bs (fN U) (ac.bs (fN U) ?_);rw[er (by simp[I3];omega)];refine ac.af.2 ?_;rw[bi U,List.append_assoc];rfl
  rintro _ rfl;dsimp only;refine ac.bs (y:=(e:Int)) (by rw[fN U,k]) ?_;rw[a2 (ay (U:¬((f+(e-f):Nat):Int)<(e:Int)))];refine ac.af.2 ?_;show(_,())=(bt g c h d++hf c h (d:Int) (g.getD d 0).toNat ((g.getD (d+1) 0).toNat-(g.getD d 0).toNat),());rw[n,k];rfl
 rintro _ rfl;dsimp only;rw[a2 (ay (U:¬((a:Int)<(a:Int))))];exact ac.af.2 rfl
structure ev (rows fF:Nat) (st mx rj:ac8):Prop where
 hr:rows<=200
 hc:fF<=200
 hi:mx.length<=10000
 hs:st.length<=1000000
 hv:rj.length<=1000000
 hw:∀v∈rj,dU v
def ev.check (d:ev b a g c h):qq (((b:Int),(a:Int),g,c,h,()),())=some (eA b a g c h,()):=SO d.hr d.hc d.hi d.hs d.hv d.hw
def ev.x7 (d:ev b a g c h):pf (((b:Int),(a:Int),g,c,h,()),())=some (eA b a g c h,()):=WX d.hr d.hc d.hi d.hs d.hv d.hw
def jL:eA b a h g c=0↔eF b a h g c/\jx c:=by
 unfold eA;constructor
 ·intro d;split at d
  ·split at d
   ·exact⟨by assumption,by assumption⟩
   omega
  omega
 rintro⟨e,f⟩;rw[aj e,aj f]
def N4 (d:ev b a g c h) (e:eA b a g c h=0):z8 (((b:Int),(a:Int),g,c,h,()),())=some (bt g c h a,()):=by unfold z8;refine ak d.check ?_;dsimp only;rw[e,bH,aA rfl];exact ak (Ek (jL.1 e).1 d.hc d.hi) rfl
def Mj (e:ev b a g c h) (f:eA b a g c h=0):wV (((b:Int),(a:Int),g,c,h,()),())=some (bt g c h a,()):=by have i:=(jL.1 f).1;have d:=Ek i e.hc e.hi;unfold uq at d;unfold wV;refine ak e.x7 ?_;dsimp only at d|-;rw[f,bH,aA rfl];exact d
def fE (a b:bu):Prop:=a.2.1<b.2.1\/(a.2.1=b.2.1/\a.1<b.1)
def sJ:r∈hf c g f b a↔∃d,d<a/\r=(c.getD (b+d) 0,f,g.getD (b+d) 0,()):=by
 induction a with
 |zero=>simp[hf]
 |succ a k=>
  simp only[hf,dX,k,ed];constructor
  ·rintro(⟨d,j,e⟩|i)
   ·exact⟨d,U,e⟩
   exact⟨a,U,i⟩
  rintro⟨d,j,e⟩;rcases bn d a with h|h
  ·exact .inl ⟨d,h,e⟩
  obtain rfl:d=a:=U;exact .inr e
def QC (h:∀e d,e<d->d<a->c.getD (b+e) 0<c.getD (b+d) 0):(hf c g f b a).Pairwise fE:=by
 induction a with
 |zero=>exact List.Pairwise.nil
 |succ a m=>
  refine List.pairwise_append.2 ⟨m λe d i p=>h e d i U,List.pairwise_singleton _ _,?_⟩;intro n j o k;obtain⟨d,l,rfl⟩:=sJ.1 j;rw[ed.1 k];exact .inr ⟨rfl,h d a l U⟩
def xJ:r∈bt c g h a↔∃b,b<a/\r∈hf g h (b:Int) (c.getD b 0).toNat ((c.getD (b+1) 0).toNat-(c.getD b 0).toNat):=by
 induction a with
 |zero=>simp[bt]
 |succ a j=>
  simp only[bt,dX,j];constructor
  ·rintro(⟨b,i,d⟩|f)
   ·exact⟨b,U,d⟩
   exact⟨a,U,f⟩
  rintro⟨b,i,d⟩;rcases bn b a with e|e
  ·exact .inl ⟨b,e,d⟩
  obtain rfl:b=a:=U;exact .inr d
def sn (k:eF b a c g h):∀d,d<=a->(bt c g h d).Pairwise fE:=by
 intro d
 induction d with
 |zero=>intro _;exact List.Pairwise.nil
 |succ d q=>
  intro p;have C:=k.pos d U;have D:=k.pos (d+1) p;refine List.pairwise_append.2 ⟨q U,QC ?_,?_⟩
  ·intro f i v w;have s:∀e,f+e<(c.getD (d+1) 0).toNat-(c.getD d 0).toNat->0<e->g.getD ((c.getD d 0).toNat+f) 0<g.getD ((c.getD d 0).toNat+(f+e)) 0:=by
    intro e
    induction e with
    |zero=>intro _ y;omega
    |succ e r=>
     intro x _;have m:=k.asc d ((c.getD d 0).toNat+(f+(e+1))) U U U;rw[(U:(c.getD d 0).toNat+(f+(e+1))-1=(c.getD d 0).toNat+(f+e))] at m;rcases h0 e with j|j
     ·subst j;exact m
     have:=r U j;omega
   have:=s (i-f) U U;rwa[(U:f+(i-f)=i)] at this
  intro t l u o;obtain⟨n,z,l⟩:=xJ.1 l;obtain⟨i,A,rfl⟩:=sJ.1 l;obtain⟨E,B,rfl⟩:=sJ.1 o;exact .inl (by show(n:Int)<(d:Int);omega)
def V9 (a b:Int):zA ([a,b],())=some (if a≠0 then a else b,()):=by
 unfold zA;refine ac.eq_iff.1 ?_;dsimp only;refine ac.aU (P:=λf=>match f with|.inl _=>a=0/\b=0|.inr k=>k=(if a≠0 then a else b,())) ?_ ?_
 ·refine ac.steps 2 (λd l=>l=((d:Int),())/\(1<=d->a=0)/\(2<=d->b=0)) ⟨rfl,λh=>by omega,λh=>by omega⟩ ?_ ?_
  ·rintro d _ m ⟨rfl,g,i⟩;rcases(U:d=0\/d=1) with rfl|rfl
   ·show ac (bif a !=0 then _ else _) _;rw[bH];by_cases c:a=0
    ·rw[aA c];exact ac.af.2 ⟨rfl,λ_=>c,λh=>by omega⟩
    rw[ay c];refine ac.af.2 ?_;rw[aj c]
   show ac (bif b !=0 then _ else _) _;have j:=g aa;rw[bH];by_cases c:b=0
   ·rw[aA c];exact ac.af.2 ⟨rfl,λ_=>j,λ_=>c⟩
   rw[ay c];refine ac.af.2 ?_;rw[ag (by simpa using j)]
  rintro _ ⟨rfl,g,i⟩;exact ac.af.2 ⟨g aa,i aa⟩
 rintro(f|f) e
 ·obtain⟨rfl,rfl⟩:a=0/\b=0:=e;exact ac.af.2 rfl
 have e:f=_:=e;rw[e];exact ac.af.2 rfl
def Qw {a:bu} (b:fE r a):Ad (a,r,())=some (1,()):=by
 unfold Ad;refine ak (DJ _ _) (ak (DJ _ _) (ak (V9 _ _) ?_));dsimp only;congr 2;unfold dx;rcases b with b|⟨d,c⟩
 ·rw[ag (U:¬a.2.1<r.2.1),aj b];rfl
 rw[ag (U:¬a.2.1<r.2.1),ag (U:¬r.2.1<a.2.1),ag ab,ag (U:¬a.1<r.1),aj c]
def RX (j:s.length<=1000) (f:s.Pairwise fE) {lo:Nat} (g:lo<=a) (h:a<=s.length):wI (s,(lo:Int),(a:Int),(),())=some (s,()):=by
 unfold wI;refine ac.eq_iff.1 ?_;dsimp only;refine ac.aU (P:=λd=>d=(s,())) ?_ (by rintro _ rfl;exact ac.af.2 rfl);refine ac.steps (a-lo-1) (λb c=>c=(((lo+1+b:Nat):Int),s,())) (by rw[bi U]) ?_ ?_
 ·rintro b _ i rfl;dsimp only;rw[bb (aA (U:((lo+1+b:Nat):Int)<(a:Int)))];refine ac.aU (P:=λd=>d=(s,())) ?_ (by rintro _ rfl;refine ac.af.2 ?_;dsimp only;rw[bi U];rfl);refine ac.steps 0 (λ_ c=>c=(((lo+1+b:Nat):Int),s,())) rfl (λb c a=>by omega) ?_;rintro _ rfl;dsimp only;refine ac.bs (y:=.inr (.inr (s,()))) ?_ (ac.af.2 rfl);rw[aA (U:((lo+1+b:Nat):Int)>(lo:Int))];have al:aq (((lo+1+b:Nat):Int)-1)=((lo+b:Nat):Int):=(by rw[be U U];omega);rw[beq_self_eq_true,cond_true,iZ U,al,iZ U];have e:fE s[lo+b] s[lo+1+b]:=List.pairwise_iff_getElem.1 f _ _ U U U;exact ak (Qw e) rfl
 rintro _ rfl;dsimp only;rw[a2 (ay (U:¬((lo+1+(a-lo-1):Nat):Int)<(a:Int)))];exact ac.af.2 rfl
def X8 (h:s.length<=19) (f:s.Pairwise fE):Ac (s,())=some (s,()):=by
 unfold Ac;refine ak (y:=(s,())) ?_ ?_
 ·unfold DS;have c:((bJ (([]:List bu).length+s.length)).bind λ_=>some (([]++s:List bu),()))=some (s,()):=by
   rw[er (by simp;omega)];rfl
  show mC s.length (some ([],())) ((bJ (([]:List bu).length+s.length)).bind λ_=>some (([]++s:List bu),()))=_;unfold mC;rw[c];split
  ·rename_i d;obtain rfl:=lm d;rw[aj rfl]
  rfl
 refine ak (y:=(s,())) ?_ rfl;unfold DZ;refine ak (y:=(s,())) ?_ rfl;unfold D0;refine ac.eq_iff.1 ?_;dsimp only;refine ac.aU (P:=λb=>b=(0,s,())) ?_ ?_
 ·refine ac.steps 0 (λ_ a=>a=(0,20,s,())) rfl (λg a e=>by omega) ?_;rintro _ rfl;dsimp only;rw[a2 (ay (show¬((20:Int)<=ar s) by simp only[aV];omega))];exact ac.af.2 rfl
 rintro _ rfl;refine ac.bs (RX (lo:=0) U f (Nat.zero_le _) (Nat.le_refl _)) ?_;refine ac.aU (P:=λb=>b=(s,())) ?_ (by rintro _ rfl;exact ac.af.2 rfl);refine ac.steps 0 (λ_ a=>a=(20,s,())) rfl (λg a e=>by omega) ?_;rintro _ rfl;dsimp only;rw[a2 (ay (show¬((20:Int)<ar s) by simp only[aV];omega))];exact ac.af.2 rfl
def hK (E:List bu) (a:Int):Nat:=(E.filter λb=>decide (b.2.1=a)).length
def e4 (E:List bu) (a:Int):Nat:=(E.filter λb=>decide (b.2.1<a)).length
def py (d b:Nat) (E:List bu):b0:=((d:Int),(b:Int),aF (b+1) (λc=>(e4 E (c:Int):Int)),E.map (λa=>a.1),E.map (λa=>a.2.2.1),())
def DF (E:List bu) (a:Int):e4 E (a+1)=e4 E a+hK E a:=by
 unfold e4 hK
 induction E with
 |nil=>rfl
 |cons b E d=>
  simp only[jD];rcases Int.lt_trichotomy b.2.1 a with c|c|c
  ·rw[aj (by simpa using(by omega:b.2.1<a+1)),aj (by simpa using c),ag (by simpa using(by omega:¬b.2.1=a))];simp only[hX];omega
  ·rw[aj (by simpa using(by omega:b.2.1<a+1)),ag (by simpa using(by omega:¬b.2.1<a)),aj (by simpa using c)];simp only[hX];omega
  rw[ag (by simpa using(by omega:¬b.2.1<a+1)),ag (by simpa using(by omega:¬b.2.1<a)),ag (by simpa using(by omega:¬b.2.1=a))];omega
def jA (c b:Nat) (E:List bu):Prop:=∀a∈E,0<=a.1/\a.1<(c:Int)/\0<=a.2.1/\a.2.1<(b:Int)
def Is (E:List bu) (c:bu) (a:Int):hK (E++[c]) a=hK E a+if c.2.1=a then 1 else 0:=by
 unfold hK;rw[ln,lu];congr 1;by_cases b:c.2.1=a
 ·rw[aj b,vM (by simpa using b)];rfl
 rw[ag b,tz (by simpa using b)];rfl
def PD {E:List bu} (C:b<=200) (B:a<=200) (n:E.length<=19) (y:E.Pairwise fE) (t:jA b a E):Aa ((b:Int),(a:Int),E,())=some (py b a E,()):=by
 unfold Aa;refine ac.eq_iff.1 ?_;dsimp only;rw[bi U];refine ac.bs (gA U) (ac.bs (X8 n y) ?_);dsimp only;refine ac.aU (P:=λr=>r=(((0:Int),((0:Int),([],([],([],()))))),((b:Int),(a:Int),aF (a+1) (λc=>if c=0 then(0:Int) else(hK E ((c:Int)-1):Int)),E.map (λe=>e.1),E.map (λe=>e.2.2.1),()),())) ?_ ?_
 ·refine ac.steps E.length (λd s=>s=((d:Int),((0:Int),((0:Int),([],([],([],()))))),((b:Int),(a:Int),aF (a+1) (λc=>if c=0 then(0:Int) else(hK (E.take d) ((c:Int)-1):Int)),(E.take d).map (λe=>e.1),(E.take d).map (λe=>e.2.2.1),()),E,())) ?_ ?_ ?_
  ·have j:(aF (a+1) λ_=>(0:Int))=aF (a+1) λc=>if c=0 then(0:Int) else(hK (E.take 0) ((c:Int)-1):Int):=dy λc l=>by split<;>rfl
   rw[hu,j];rfl
  ·rintro d _ k rfl;have q:=t E[d] (List.getElem_mem k);obtain⟨i,w⟩:=Int.eq_ofNat_of_zero_le q.2.2.1;dsimp only;rw[bb (aA (show(d:Int)<ar E by simp only[aV];omega)),iZ k];have al:aQ E[d].2.1=((i+1:Nat):Int):=(by rw[w,bi U]);have p:E.take (d+1)=E.take d++[E[d]]:=(by rw[List.take_add_one,List.getElem?_eq_getElem k];rfl);rw[er (by simp;omega),Option.bind_some,er (by simp;omega),Option.bind_some,al];refine ac.bs (eL (by rw[bp];omega)) (ac.bs (fv U) (ac.bs (eL (by rw[bp];omega)) ?_));rw[fv U];refine ac.af.2 ?_;have o:(aF (a+1) (λc=>if c=0 then(0:Int) else(hK (E.take d) ((c:Int)-1):Int))).set (i+1) (aQ (if i+1=0 then(0:Int) else(hK (E.take d) (((i+1:Nat):Int)-1):Int)))=aF (a+1) (λc=>if c=0 then(0:Int) else(hK (E.take (d+1)) ((c:Int)-1):Int)):=by
    rw[g3];refine dy λc l=>?_;have m:∀g,hK (E.take d) g<=19:=λg=>db (hY _ _) (by rw[dS];omega);by_cases f:c=i+1
    ·subst f;rw[iF,ag U,ag U,bi (by have:=m (((i+1:Nat):Int)-1);omega),p,Is,aj U]
    rw[iE _ _ f];by_cases h:c=0
    ·rw[aj h,aj h]
    rw[ag h,ag h,p,Is,ag U,kv]
   dsimp only[Option.map_some];rw[bi U,o,p,List.map_append,List.map_append];rfl
  rintro _ rfl;dsimp only;rw[a2 (ay (show¬((E.length:Int)<ar E) by simp only[aV];omega)),List.take_of_length_le (Nat.le_refl _)];exact ac.af.2 rfl
 rintro _ rfl;dsimp only;refine ac.aU (P:=λr=>r=(((0:Int),((0:Int),([],([],([],()))))),py b a E,())) ?_ (by rintro _ rfl;exact ac.af.2 rfl);have x:∀g,e4 E g<=19:=λg=>Nat.le_trans (List.length_filter_le _ _) n;have m:∀g,hK E g<=19:=λg=>Nat.le_trans (List.length_filter_le _ _) n;have v:e4 E 0=0:=by
  unfold e4;rw[List.filter_eq_nil_iff.2]
  ·rfl
  intro e q;have:=t e q;simpa using this.2.2.1
 refine ac.steps a (λd s=>s=((d:Int),((0:Int),((0:Int),([],([],([],()))))),((b:Int),(a:Int),aF (a+1) (λc=>if c<=d then(e4 E (c:Int):Int) else(hK E ((c:Int)-1):Int)),E.map (λe=>e.1),E.map (λe=>e.2.2.1),()),())) ?_ ?_ ?_
 ·have j:(aF (a+1) λc=>if c=0 then(0:Int) else(hK E ((c:Int)-1):Int))=aF (a+1) (λc=>if c<=0 then(e4 E (c:Int):Int) else(hK E ((c:Int)-1):Int)):=dy λc l=>by
   by_cases f:c=0
   ·subst f;rw[aj rfl,aj (a6 _)];show(0:Int)=((e4 E 0:Nat):Int);rw[v];rfl
   rw[ag f,ag U]
  rw[j];rfl
 ·rintro d _ k rfl;dsimp only;rw[bb (aA (U:(d:Int)<(a:Int))),bi U,iZ (by rw[bp];omega),iZ (by rw[bp];omega),gx,gx];refine ac.bs (eL (by rw[bp];omega)) ?_;rw[fv U];refine ac.af.2 ?_;have o:(aF (a+1) (λc=>if c<=d then(e4 E (c:Int):Int) else(hK E ((c:Int)-1):Int))).set (d+1) (aq ((if d+1<=d then(e4 E ((d+1:Nat):Int):Int) else(hK E (((d+1:Nat):Int)-1):Int))+(if d<=d then(e4 E (d:Int):Int) else(hK E ((d:Int)-1):Int))))=aF (a+1) (λc=>if c<=d+1 then(e4 E (c:Int):Int) else(hK E ((c:Int)-1):Int)):=by
   rw[g3];refine dy λc l=>?_;by_cases f:c=d+1
   ·subst f;have u:=DF E (d:Int);have z:=m (d:Int);have A:=x (d:Int);rw[iF,ag U,aj (a6 _),aj (a6 _),(U:(((d+1:Nat):Int)-1)=(d:Int)),be U U,(U:((d+1:Nat):Int)=(d:Int)+1),u];omega
   rw[iE _ _ f];by_cases h:c<=d
   ·rw[aj h,aj U]
   rw[ag h,ag U]
  dsimp only[Option.map_some];rw[o]
 rintro _ rfl;dsimp only;rw[a2 (ay (U:¬((a:Int)<(a:Int))))];have j:aF (a+1) (λc=>if c<=a then(e4 E (c:Int):Int) else(hK E ((c:Int)-1):Int))=aF (a+1) (λc=>(e4 E (c:Int):Int)):=dy λc l=>(by rw[if_pos U]);rw[j];exact ac.af.2 rfl
def eV (b c:Int) (a:bu):Bool:=decide (a.2.1<b)||(decide (a.2.1=b)&&decide (a.1<c))
def HZ {a:bu} (b:fE r a) (e:eV j f a=true):eV j f r=true:=by
 unfold eV at*;simp only[fX,bc,decide_eq_true_eq] at*;rcases b with b|⟨c,d⟩
 ·omega
 omega
def Jc {j i:Int}:∀{E:List bu},E.Pairwise fE->E.filter (eV j i)=E.take (E.filter (eV j i)).length
 |[],_=>rfl
 |x::E,b=>by
  obtain⟨c,d⟩:=mT.1 b;by_cases a:eV j i x=true
  ·rw[vM a,hX,List.take_succ_cons];exact congrArg _ (Jc d)
  have e:E.filter (eV j i)=[]:=(by refine List.filter_eq_nil_iff.2 λh g f=>?_;exact a (HZ (c h g) f));rw[tz a,e];rfl
def Dv {E:List bu} (d:jA b a E):E.filter (eV 0 0)=[]:=by refine List.filter_eq_nil_iff.2 λf e c=>?_;have:=d f e;unfold eV at c;simp only[fX,bc,decide_eq_true_eq] at c;omega
def Pn {E:List bu} (d:jA a b E) (c:Int):E.filter (eV c (a:Int))=E.filter (eV (c+1) 0):=by refine vL λf e=>?_;have:=d f e;unfold eV;rw[lZ];simp only[fX,bc,decide_eq_true_eq];omega
def zg {E:List bu} (d:jA b a E) (c:Int):(E.filter (eV c 0)).length=e4 E c:=by unfold e4;congr 1;refine vL λf e=>?_;have:=d f e;unfold eV;rw[lZ];simp only[fX,bc,decide_eq_true_eq];omega
def Dw {j i:Int} {E:List bu} (g:E.Pairwise fE) (l:a<E.length):eV j i E[a]=true↔a<(E.filter (eV j i)).length:=by
 constructor
 ·intro b;have k:∀h∈E.take (a+1),eV j i h=true:=by
   intro h m;obtain⟨e,n,rfl⟩:=C9.1 m;rcases bn e a with f|f
   ·exact HZ (ga.1 g e a U l f) b
   obtain rfl:e=a:=U;exact b
  have c:(E.take (a+1)).filter (eV j i)=E.take (a+1):=l4.2 k;have d:=(List.Sublist.filter (eV j i) (List.take_sublist (a+1) E)).length_le;rw[c,dS] at d;omega
 intro b;have c:=Jc (j:=j) (i:=i) g;have d:E[a]∈E.filter (eV j i):=(by rw[c];exact C9.2 ⟨a,U,rfl⟩);exact(gr.1 d).2
def Po {j i:Int} {E:List bu} (m:E.Pairwise fE):(∃c:(E.filter (eV j i)).length<E.length,E[(E.filter (eV j i)).length].1=i/\E[(E.filter (eV j i)).length].2.1=j/\(E.filter (eV j (i+1))).length=(E.filter (eV j i)).length+1)\/((∀b,(c:b<E.length)->¬(E[b].1=i/\E[b].2.1=j))/\(E.filter (eV j (i+1))).length=(E.filter (eV j i)).length):=by
 have q:∀g:bu,eV j (i+1) g=true↔eV j i g=true\/(g.1=i/\g.2.1=j):=λg=>(by unfold eV;simp only[fX,bc,decide_eq_true_eq];omega);have z:∀g:bu,g.1=i/\g.2.1=j->¬eV j i g=true:=λg h c=>(by unfold eV at c;simp only[fX,bc,decide_eq_true_eq] at c;omega);generalize t:(E.filter (eV j i)).length=f;generalize u:(E.filter (eV j (i+1))).length=k;have n:∀a,(d:a<E.length)->(eV j i E[a]=true↔a<f):=λa d=>(by rw[<-t];exact Dw m d);have o:∀a,(d:a<E.length)->(eV j (i+1) E[a]=true↔a<k):=λa d=>(by rw[<-u];exact Dw m d);have F:f<=E.length:=(by rw[<-t];exact hY _ _);have G:k<=E.length:=(by rw[<-u];exact hY _ _);by_cases p:∃b,∃c:b<E.length,E[b].1=i/\E[b].2.1=j
 ·obtain⟨b,l,h⟩:=p;have A:¬b<f:=λc=>z _ h ((n b l).2 c);have B:b<k:=(o b l).1 ((q _).2 (.inr h));have r:∀a,(d:a<E.length)->f<=a->a<k->a=b:=λa d C w=>by
   have x:=(q _).1 ((o a d).2 w);have D:E[a].1=i/\E[a].2.1=j:=x.resolve_left λc=>(by have:=(n a d).1 c;omega);rcases l6 a b with e|e|e
   ·have:=ga.1 m a b d l e;rcases this with c|⟨c,v⟩<;>omega
   ·exact e
   have:=ga.1 m b a l d e;rcases this with c|⟨c,v⟩<;>omega
  have y:f=b:=r f U (a6 _) U;subst y;refine .inl ⟨l,h.1,h.2,?_⟩;rcases bn (f+1) k with e|e
  ·have:=r (f+1) U U e;omega
  omega
 refine .inr ⟨λb l h=>p ⟨b,l,h⟩,?_⟩;have s:∀a,a<E.length->(a<k↔a<f):=λa d=>(by rw[<-n a d,<-o a d,q];exact⟨λc=>c.resolve_right λh=>p ⟨a,d,h⟩,.inl⟩);rcases l6 k f with e|e|e
 ·have:=(s k U).2 e;omega
 ·exact e
 have:=(s f U).1 e;omega
def mG (b:Nat) (a:bu):Nat:=a.2.1.toNat*b+a.1.toNat
def Wu {E:List bu} (d:jA a b E) (e:r∈E):mG a r<a*b:=by have f:=d r e;unfold mG;have c:(r.2.1.toNat+1)*a<=b*a:=gE _ U;rw[e2,gN] at c;rw[jF a b];omega
def Wt {rows:Nat} {a b:Int×Int} (f:0<=a.1/\a.1<(rows:Int)/\0<=a.2) (g:0<=b.1/\b.1<(rows:Int)/\0<=b.2) (c:a.2.toNat*rows+a.1.toNat=b.2.toNat*rows+b.1.toNat):a.1=b.1/\a.2=b.2:=by have d:(a.2.toNat*rows+a.1.toNat)/rows=a.2.toNat:=(by rw[jF,Nat.mul_add_div U,Nat.div_eq_of_lt U,kv]);have e:(b.2.toNat*rows+b.1.toNat)/rows=b.2.toNat:=(by rw[jF,Nat.mul_add_div U,Nat.div_eq_of_lt U,kv]);rw[c,e] at d;rw[d] at c;omega
def mh (b:Nat) (E:List bu):Nat->Nat->Int
 |0,_=>0
 |i+1,a=>if a=mG b (E.getD i (0,0,0,())) then((i+1:Nat):Int) else mh b E i a
def Ie (d:Nat) (E:List bu) (c:Nat):∀i,(mh d E i c=0/\∀a,a<i->mG d (E.getD a (0,0,0,()))≠c)\/∃a,a<i/\mG d (E.getD a (0,0,0,()))=c/\mh d E i c=((a+1:Nat):Int)
 |0=>.inl ⟨rfl,λa b=>absurd b U⟩
 |i+1=>by
  unfold mh;by_cases e:c=mG d (E.getD i (0,0,0,()))
  ·exact .inr ⟨i,U,e.symm,aj e⟩
  rw[ag e];rcases Ie d E c i with⟨g,f⟩|⟨a,g,f,h⟩
  ·refine .inl ⟨g,λa j=>?_⟩;rcases bn a i with b|b
   ·exact f a b
   obtain rfl:a=i:=U;exactλb=>e b.symm
  exact .inr ⟨a,U,f,h⟩
def PL (b:Nat) (E:List bu) (a:Nat):eI (mh b E a) (mG b (E.getD a (0,0,0,()))) ((a+1:Nat):Int)=mh b E (a+1):=by funext p;unfold eI;rw[mh]
def L9 (e:b<=200) (d:a<=200) (g:i<=200):aq (aq ((a:Int)*(b:Int))+(i:Int))=((a*b+i:Nat):Int):=by have f:a*b<=200*200:=iu d e;have c:(a:Int)*(b:Int)=((a*b:Nat):Int):=(by rw[jB]);rw[c,yy U,<-Int.natCast_add,yy U]
def EJ {E:List bu} (b:a<E.length):E.getD a (0,0,0,())=E[a]:=by rw[iH,a9 b];rfl
def h6 (E:List bu) (b a:Int):Nat:=(E.filter (eV b a)).length
def L7 (E:List bu) (b a:Int):h6 E b a<=E.length:=hY _ _
def nt (e d:Nat) (E:List bu) (a:Nat) (c:Nat):b0:=((e:Int),(d:Int),aF (a+1) (λa=>(e4 E (a:Int):Int)),(E.take c).map (λb=>b.1),(E.take c).map (λb=>b.2.2.1),())
def Wg {e:Nat} {E:List bu} (w:q<=200) (J:e<=200) (ad:E.length<=10000) (x:E.Pairwise fE) (h:jA q e E):AR ((q:Int),(e:Int),E,())=some (py q e E,()):=by
 unfold AR;refine ac.eq_iff.1 ?_;dsimp only;have am:q*e<=200*200:=Nat.mul_le_mul w J;have G:aq ((q:Int)*(e:Int))=((q*e:Nat):Int):=(by rw[<-Int.natCast_mul,yy U]);rw[G];refine ac.bs (gA U) ?_;have F:e4 E 0=0:=(by rw[<-zg h,Dv h];rfl);refine ac.aU (P:=λr=>r=(((0:Int),((0:Int),([],([],([],()))))),nt q e E 0 0,aF (q*e) (mh q E E.length),())) ?_ ?_
 ·refine ac.steps E.length (λd s=>s=((d:Int),((0:Int),((0:Int),([],([],([],()))))),nt q e E 0 0,aF (q*e) (mh q E d),())) ?_ ?_ ?_
  ·have:nt q e E 0 0=((q:Int),((e:Int),([0],(([]:aM),(([]:aM),()))))):=by
    unfold nt;rw[m8,I9];show(_,_,[((e4 E 0:Nat):Int)],_)=_;rw[F];rfl
   rw[hu,this];rfl
  ·rintro d _ n rfl;have k:=h E[d] (List.getElem_mem n);obtain⟨Y,I⟩:=Int.eq_ofNat_of_zero_le k.1;obtain⟨Z,K⟩:=Int.eq_ofNat_of_zero_le k.2.2.1;dsimp only;rw[bb (aA (show(d:Int)<ar E by simp only[aV];omega))];refine ac.bs (bL n) (ac.bs (bL n) ?_);have v:aq (aq (E[d].2.1*(q:Int))+E[d].1)=((mG q E[d]:Nat):Int):=by
    unfold mG;rw[I,K,L9 w U U,bY,bY]
   have Q:=Wu h (bD n);rw[v,i6 (by rw[bp];exact Q),g3,bi U,<-EJ n,PL];exact ac.af.2 rfl
  rintro _ rfl;dsimp only;rw[a2 (ay (show¬((E.length:Int)<ar E) by simp only[aV];omega))];exact ac.af.2 rfl
 rintro _ rfl;dsimp only;refine ac.aU (P:=λr=>r=(((0:Int),((0:Int),([],([],([],()))))),py q e E,())) ?_ (by rintro _ rfl;exact ac.af.2 rfl);refine ac.steps e (λc s=>s=((c:Int),((0:Int),((0:Int),([],([],([],()))))),nt q e E c (h6 E (c:Int) 0),aF (q*e) (mh q E E.length),())) ?_ ?_ ?_
 ·have:h6 E ((0:Nat):Int) 0=0:=by
   unfold h6;rw[show((0:Nat):Int)=0 from rfl,Dv h];rfl
  rw[this];rfl
 ·rintro c _ L rfl;dsimp only;rw[bb (aA (U:(c:Int)<(e:Int)))];refine ac.aU (P:=λr=>r=(((0:Int),((0:Int),([],([],([],()))))),nt q e E c (h6 E (c:Int) (q:Int)),aF (q*e) (mh q E E.length),())) ?_ ?_
  ·refine ac.steps q (λd s=>s=((d:Int),((0:Int),((0:Int),([],([],([],()))))),nt q e E c (h6 E (c:Int) (d:Int)),aF (q*e) (mh q E E.length),())) rfl ?_ ?_
   ·rintro d _ n rfl;dsimp only;rw[bb (aA (U:(d:Int)<(q:Int))),L9 w U U];have v:c*q+d<q*e:=by
     have g:(c+1)*q<=e*q:=gE _ L;rw[e2,gN] at g;rw[jF q e];omega
    rw[iZ (by rw[bp];exact v),gx];have C:=L7 E (c:Int) (d:Int);have u:=Po (j:=(c:Int)) (i:=(d:Int)) x;change(∃t:h6 E (c:Int) (d:Int)<E.length,E[h6 E (c:Int) (d:Int)].1=(d:Int)/\E[h6 E (c:Int) (d:Int)].2.1=(c:Int)/\h6 E (c:Int) ((d:Int)+1)=h6 E (c:Int) (d:Int)+1)\/((∀y,(t:y<E.length)->¬(E[y].1=(d:Int)/\E[y].2.1=(c:Int)))/\h6 E (c:Int) ((d:Int)+1)=h6 E (c:Int) (d:Int)) at u;rw[show(d:Int)+1=((d+1:Nat):Int) from by omega] at u;generalize h6 E (c:Int) (d:Int)=p at*;rw[bi U];have M:∀f,(t:f<E.length)->mG q E[f]=c*q+d->E[f].1=(d:Int)/\E[f].2.1=(c:Int):=(by intro f t R;have k:=h E[f] (List.getElem_mem t);exact Wt (rows:=q) (a:=(E[f].1,E[f].2.1)) (b:=((d:Int),(c:Int))) ⟨k.1,k.2.1,k.2.2.1⟩ ⟨U,by dsimp only;omega,by dsimp only;omega⟩ (by simpa[mG] using R));rcases Ie q E (c*q+d) E.length with⟨W,X⟩|⟨f,l,D,T⟩
    ·rw[W];rcases u with⟨g,m,A,B⟩|⟨g,m⟩
     ·refine absurd ?_ (X p g);rw[EJ g];unfold mG;rw[m,A,bY,bY]
     rw[a2 (ay U)];refine ac.bs rfl ?_;rw[m];exact ac.af.2 rfl
    rw[T];rw[EJ l] at D;obtain⟨aw,V⟩:=M f l D;rcases u with⟨g,m,A,B⟩|⟨g,m⟩
    ·have N:f=p:=by
      rcases l6 f p with o|o|o
      ·have:=ga.1 x f p l g o;unfold fE at this;omega
      ·exact o
      have:=ga.1 x p f g l o;unfold fE at this;omega
     subst N;rw[bb (aA U),(U:((f+1:Nat):Int)-1=(f:Int)),yy U];unfold nt;dsimp only;rw[er (by simp;omega),Option.bind_some];have S:E.take (f+1)=E.take f++[E[f]]:=(by rw[List.take_add_one,List.getElem?_eq_getElem l];rfl);rw[bL l,Option.bind_some,er (by simp;omega),Option.bind_some,Option.bind_some];rw[B,S,List.map_append,List.map_append,<-m];exact ac.af.2 rfl
    exact absurd ⟨aw,V⟩ (g f l)
   rintro _ rfl;dsimp only;rw[a2 (ay (U:¬((q:Int)<(q:Int))))];exact ac.af.2 rfl
  rintro _ rfl;have C:=L7 E (c:Int) (q:Int);have al:h6 E (c:Int) (q:Int)=h6 E ((c+1:Nat):Int) 0:=(by unfold h6;rw[Pn h,(U:((c+1:Nat):Int)=(c:Int)+1)]);have H:h6 E ((c+1:Nat):Int) 0=e4 E ((c+1:Nat):Int):=zg h _;rw[al] at C|-;unfold nt;dsimp only;have O:ar ((E.take (h6 E ((c+1:Nat):Int) 0)).map λz=>z.1)=(e4 E ((c+1:Nat):Int):Int):=(by rw[aV,List.length_map,List.length_take,<-H];omega);rw[er (by rw[bp];simp;omega),Option.bind_some,O,m8 (c+1),bi U];exact ac.af.2 rfl
 rintro _ rfl;dsimp only;rw[a2 (ay (U:¬((e:Int)<(e:Int))))];have al:h6 E (e:Int) 0=E.length:=(by unfold h6;rw[List.filter_eq_self.2];intro z k;have:=h z k;unfold eV;simp only[Bool.or_eq_true,Bool.and_eq_true,decide_eq_true_eq];omega);have:nt q e E e (h6 E (e:Int) 0)=py q e E:=(by unfold nt py;rw[al,List.take_of_length_le (Nat.le_refl _)]);rw[this];exact ac.af.2 rfl
def tN {E:List bu} (g:E.Pairwise fE) (e:jA q b E) (f:a<E.length) (c:Int):E[a].2.1<c↔a<e4 E c:=by have d:=Dw (j:=c) (i:=0) g f;rw[zg e] at d;rw[<-d];have:=e E[a] (bD f);unfold eV;simp only[fX,bc,decide_eq_true_eq];omega
def In {E:List bu} (c:jA b a E):e4 E 0=0:=by rw[<-zg c,Dv c];rfl
def Im {E:List bu} (c:jA b a E):e4 E (a:Int)=E.length:=by unfold e4;rw[l4.2];intro e d;have:=c e d;simpa using this.2.2.2
def Rf {c:Nat->Int} (d:a<b):(aF b c).getD a 0=c a:=by rw[iH,uH d];rfl
def BB {E:List bu} (b:a<E.length):(E.map λc=>c.1).getD a 0=E[a].1:=by rw[iH,eT,a9 b];rfl
def Jt {E:List bu} (b:a<E.length):(E.map λc=>c.2.2.1).getD a 0=E[a].2.2.1:=by rw[iH,eT,a9 b];rfl
def ta (a:Nat) (E:List bu):ac8:=aF (a+1) (λb=>(e4 E (b:Int):Int))
def re {E:List bu} (c:a<=b):(ta b E).getD a 0=(e4 E (a:Int):Int):=Rf U
def DE (E:List bu) (a:Int):e4 E a<=E.length:=hY _ _
def Yn {E:List bu} (g:E.Pairwise fE) (e:jA b a E):eF b a (ta a E) (E.map λj=>j.1) (E.map λj=>j.2.2.1) where
 len:=bp _ _
 first:=by rw[re (bM _)];show((e4 E 0:Nat):Int)=0;rw[In e];rfl
 mono:=λc k=>by rw[re U,re U,show((c+1:Nat):Int)=(c:Int)+1 from by omega,DF];omega
 last:=by rw[re (a6 _),Im e,fK]
 val:=by simp
 rng:=λc d k h i=>by rw[re U] at h i;have f:d<E.length:=(by have:=DE E ((c+1:Nat):Int);omega);rw[BB f];have:=e E[d] (bD f);exact⟨this.1,this.2.1⟩
 asc:=λc d k h i=>by rw[re U] at h i;have f:d<E.length:=(by have:=DE E ((c+1:Nat):Int);omega);rw[BB f,BB U];have l:=tN g e f (c:Int);have m:=tN g e f ((c+1:Nat):Int);have n:=tN g e (U:d-1<E.length) (c:Int);have o:=tN g e (U:d-1<E.length) ((c+1:Nat):Int);have:=ga.1 g (d-1) d U f U;unfold fE at this;omega
def M7 {rows fF:Nat} {E:List bu} (c:rows<=200) (b:fF<=200) (g:E.length<=10000) (e:∀a∈E,dU a.2.2.1):ev rows fF (ta fF E) (E.map λa=>a.1) (E.map λa=>a.2.2.1) where
 hr:=c
 hc:=b
 hi:=by simp;omega
 hs:=by unfold ta;rw[bp];omega
 hv:=by simp;omega
 hw:=λh d=>by obtain⟨a,f,rfl⟩:=bR.1 d;exact e a f
def Ej (c f:ac8) (d:Int) (b a:Nat):hf c f d b a=aF a λe=>(c.getD (b+e) 0,d,f.getD (b+e) 0,()):=by
 induction a with
 |zero=>rfl
 |succ a g=>rw[hf,g,m8]
def QD {E:List bu} (l:E.Pairwise fE) (e:jA b a E):∀c,c<=a->bt (ta a E) (E.map λg=>g.1) (E.map λg=>g.2.2.1) c=E.take (e4 E (c:Int)):=by
 intro c
 induction c with
 |zero=>
  intro _;show[]=E.take (e4 E 0);rw[In e];rfl
 |succ c q=>
  intro u;rw[bt,q U,re U,re U,Ej,bY,bY];have n:e4 E ((c+1:Nat):Int)=e4 E (c:Int)+hK E (c:Int):=(by rw[show((c+1:Nat):Int)=(c:Int)+1 from by omega,DF]);have o:=DE E ((c+1:Nat):Int);have h:∀d,(f:d<E.length)->e4 E (c:Int)<=d->d<e4 E ((c+1:Nat):Int)->E[d].2.1=(c:Int):=λd f k m=>(by have s:=tN l e f (c:Int);have t:=tN l e f ((c+1:Nat):Int);omega);rw[n] at h o|-;generalize e4 E (c:Int)=i at*;generalize hK E (c:Int)=j at*;rw[lv,List.take_add];congr 1;have p:((E.drop i).take j).length=j:=(by rw[dS,ka];omega);refine List.ext_getElem (by rw[bp,p]) λr k m=>?_;rw[bp] at k;rw[gx,BB U,Jt U,vN,List.getElem_drop,<-h (i+r) U U U]
def I4 {E:List bu} (e:E.Pairwise fE) (d:jA b a E):bt (ta a E) (E.map λc=>c.1) (E.map λc=>c.2.2.1) a=E:=by rw[QD e d a (a6 _),Im d,c8 (a6 _)]
def Rk {E:List bu} (c:∀b∈E,bE b.2.2.1≠2047):jx (E.map λb=>b.2.2.1):=by intro d a;rw[fK] at a;rw[Jt a];exact c _ (bD a)
def Ig {E:List bu} (f:E.Pairwise fE) (e:jA b a E) (d:∀c∈E,bE c.2.2.1≠2047):eA b a (ta a E) (E.map λc=>c.1) (E.map λc=>c.2.2.1)=0:=
 jL.2 ⟨Yn f e,Rk d⟩
def sm (e:eF b a c g h):jA b a (bt c g h a):=by intro n f;obtain⟨d,i,f⟩:=xJ.1 f;obtain⟨j,k,rfl⟩:=sJ.1 f;have l:=e.pos d U;have m:=e.pos (d+1) U;have:=e.rng d ((c.getD d 0).toNat+j) i U U;exact⟨this.1,this.2,by dsimp only;omega,by dsimp only;omega⟩
def so (e:eF b a g h c) {i:Int->Prop} (k:∀m∈c,i m):∀j∈bt g h c a,i j.2.2.1:=by intro j f;obtain⟨d,n,f⟩:=xJ.1 f;obtain⟨l,o,rfl⟩:=sJ.1 f;have r:=e.pos d U;have s:=e.pos (d+1) U;have p:=e.pu (d+1) U;have q:=e.val;dsimp only;rw[jj (U:(g.getD d 0).toNat+l<c.length)];exact k _ (List.getElem_mem _)
def Ex (d:jx c):∀b∈c,bE b≠2047:=by intro b e;obtain⟨f,a,rfl⟩:=gD.1 e;have:=d f a;rwa[jj a] at this
def qS (a:bu):Bool:=decide (a.1>=a.2.1)
def eb (E:List bu):List bu:=E.filter qS
def qU {E:List bu} (a:E.Pairwise fE):(eb E).Pairwise fE:=List.Pairwise.sublist List.filter_sublist a
def qT {E:List bu} (c:jA b a E):jA b a (eb E):=λe d=>c e (gr.1 d).1
def BP {E:List bu}:∀a∈eb E,a.2.1<=a.1:=λa b=>by have:=(gr.1 b).2;unfold qS at this;simpa using this
def GB {b:o->Bool} {E:List o} (d:a<E.length):(E.take (a+1)).filter b=(E.take a).filter b++(if b E[a]=true then[E[a]] else[]):=by
 rw[hD,a9 d,ln];congr 1;show[E[a]].filter b=_;by_cases c:b E[a]=true
 ·rw[aj c,vM c];rfl
 rw[ag c,tz c];rfl
def KF:∀(a:ac7) (b:Nat),a.Pairwise (· < ·)->(∀x∈a,x<b)->a.length<=b
 |[],_,_,_=>bM _
 |x::a,b,i,d=>by
  obtain⟨c,j⟩:=mT.1 i;have p:=d x ab;have:=KF (a.map λf=>f-(x+1)) (b-(x+1)) (by
   rw[tC];refine List.Pairwise.imp_of_mem ?_ j;intro h m k o n;have:=c h k;omega) (by
   intro f l;obtain⟨g,e,rfl⟩:=bR.1 l;have:=c g e;have:=d g (by simp[e]);omega)
  rw[fK] at this;rw[hX];omega
def Fy (a:Int):Int:=if a=0 then 0 else if a=1 then 4 else if a=2 then 7 else if a=3 then 9 else 10
def BQ (s:a<=5) {E:List bu} (o:E.Pairwise fE) (c:jA a a E) (d:∀b∈E,b.2.1<=b.1):E.length<=15:=by
 have m:=KF (E.map λb=>(Fy b.2.1+b.1).toNat) 15 (by
  rw[tC];refine List.Pairwise.imp_of_mem ?_ o;intro e f g h n;have k:=c e g;have q:=c f h;have l:=d e g;have r:=d f h;unfold fE at n;unfold Fy;split<;>split<;>(try split)<;>(try split)<;>(try split)<;>(try split)<;>(try split)<;>(try split)<;>omega) (by
  intro t p;obtain⟨j,i,rfl⟩:=bR.1 p;have k:=c j i;have l:=d j i;unfold Fy;split
  ·omega
  split
  ·omega
  split
  ·omega
  split<;>omega)
 rwa[fK] at m
def Oq (n:a<=5) (b:ev a a g c h) (m:eA a a g c h=0):z9 (((a:Int),(a:Int),g,c,h,()),())=some (py a a (eb (bt g c h a)),0,()):=by
 have f:=(jL.1 m).1;have j:=sn f a (Nat.le_refl _);have k:=sm f;have s:=BQ n (qU j) (qT k) BP;have r:(bt g c h a).length<=10000:=(by rw[xb f a (Nat.le_refl _)];have:=f.pu a (Nat.le_refl _);have:=b.hi;omega);unfold z9;refine ak b.check ?_;dsimp only;rw[m,bH,aA rfl];refine ak (Ek f b.hc b.hi) ?_;dsimp only;generalize bt g c h a=E at*;refine ac.eq_iff.1 ?_;refine ac.aU (P:=λo=>o=(((0:Int),((0:Int),([],([],([],()))))),eb E,())) ?_ ?_
 ·refine ac.steps E.length (λd p=>p=((d:Int),((0:Int),((0:Int),([],([],([],()))))),eb (E.take d),E,())) rfl ?_ ?_
  ·rintro d _ l rfl;dsimp only;rw[bb (aA (show(d:Int)<ar E by simp only[aV];omega)),iZ l,bi U];have q:(eb (E.take d)).length<=10000:=Nat.le_trans (List.length_filter_le _ _) (by rw[List.length_take];omega);unfold eb at*;rw[GB l];by_cases i:qS E[d]=true
   ·have e:=i;unfold qS at e;rw[bb e,aj i,er (by simp only[hX,oS];omega)];exact ac.af.2 rfl
   have e:=i;unfold qS at e;rw[a2 (by simpa using e),ag i,jb];exact ac.af.2 rfl
  rintro _ rfl;dsimp only;rw[a2 (ay (show¬((E.length:Int)<ar E) by simp only[aV];omega)),List.take_of_length_le (Nat.le_refl _)];exact ac.af.2 rfl
 rintro _ rfl;dsimp only;exact ac.bs (PD b.hr b.hc U (qU j) (qT k)) (ac.af.2 rfl)
def WO (n:a<=5) (e:ev a a g c h) (j:eA a a g c h=0):AQ (((a:Int),(a:Int),g,c,h,()),())=some (py a a (eb (bt g c h a)),0,()):=by
 have i:=(jL.1 j).1;have k:=sn i a (Nat.le_refl _);have l:=sm i;have s:=BQ n (qU k) (qT l) BP;have r:(bt g c h a).length<=10000:=(by rw[xb i a (Nat.le_refl _)];have:=i.pu a (Nat.le_refl _);have:=e.hi;omega);unfold AQ;refine ak e.x7 ?_;dsimp only;rw[j,bH,aA rfl];refine ak (Mj e j) ?_;dsimp only;generalize bt g c h a=E at*;refine ac.eq_iff.1 ?_;refine ac.aU (P:=λo=>o=(((0:Int),((0:Int),([],([],([],()))))),eb E,())) ?_ ?_
 ·refine ac.steps E.length (λb p=>p=((b:Int),((0:Int),((0:Int),([],([],([],()))))),eb (E.take b),())) rfl ?_ ?_
  ·rintro b _ m rfl;dsimp only;rw[bb (aA (show(b:Int)<ar E by simp only[aV];omega)),bL m,bi U];have q:(eb (E.take b)).length<=10000:=Nat.le_trans (List.length_filter_le _ _) (by rw[List.length_take];omega);unfold eb at*;rw[GB m];by_cases f:qS E[b]=true
   ·have d:=f;unfold qS at d;rw[aG,aG,bb d,aj f,aG,er (by simp only[hX,oS];omega)];exact ac.af.2 rfl
   have d:=f;unfold qS at d;rw[aG,aG,a2 (by simpa using d),ag f,jb];exact ac.af.2 rfl
  rintro _ rfl;dsimp only;rw[a2 (ay (show¬((E.length:Int)<ar E) by simp only[aV];omega)),List.take_of_length_le (Nat.le_refl _)];exact ac.af.2 rfl
 rintro _ rfl;dsimp only;exact ac.bs (Wg e.hr e.hc U (qU k) (qT l)) (ac.af.2 rfl)
def h5 (b:acX) (a:ac8):acV:=(List.range a.length).map λ(c:Nat)=>(List.range a.length).map λ(d:Nat)=>decide (a.getD d 0∈b.getD (a.getD c 0).toNat [])
def uN (b:acX) (a:ac8):(h5 b a).length=a.length:=by simp[h5]
def zi (d:a<c.length) (f:b<c.length):ff (h5 e c) a b=decide (c.getD b 0∈e.getD (c.getD a 0).toNat []):=by unfold ff h5;simp[List.getD,d,f]
def Yv (g:0<=f/\f<e.length) (b:0<=j/\j<e.length):∃c,ax (mI e) f=some c/\ax c j=some (decide (j∈e.getD f.toNat [])):=by
 have a:f.toNat<e.length:=U;have d:j.toNat<e.length:=U;refine⟨(List.range e.length).map λ(h:Nat)=>decide ((h:Int)∈e[f.toNat]),?_,?_⟩
 ·unfold ax;rw[aj g.1,Nf a]
 unfold ax;rw[aj b.1,eT,oR d,List.getD,a9 a];simp only[fd,ig,Int.toNat_of_nonneg b.1]
def Oj (A:dZ e) (B:∀c∈e,c.length<4611686018427387904) (K:e.length<=200) (t:∀q∈c,0<=q/\q<(e.length:Int)) (H:c.Nodup) (T:c.length<=400):AV ((e,()),c,())=some ((h4 (h5 e c),()),0,()):=by
 classical
 rw[<-ac.eq_iff];unfold AV;have G:gw e=0:=(by unfold gw;rw[ag U,aj A]);have al:decide (∀q∈c,0<=q/\q<(e.length:Int))=true:=decide_eq_true t;have E:decide (¬c.Nodup)=false:=decide_eq_false (λb=>b H);simp only[x9 e B,G,OB c _ U,al,OI c U,E,Hk B K (λm N=>(A.asc m N).2),IW c.length U,aG,bne_self_eq_false,cond_false,eS];simp only[ac.bT];refine ac.mono (P:=λx=>x.2.1=h5 e c) ?_ ?_
 ·refine ac.for (i0:=0) c.length (λa z=>z.2.1=(List.range c.length).map λ(m:Nat)=>if m<a then(h5 e c).getD m [] else List.replicate c.length false) rfl ?_ (bM _) ?_ ?_
  ·apply gK;intro W;simp[lr];split<;>simp_all
  ·rintro a ⟨y,s,_⟩ _ i g;simp only at g;simp only[ac.bS,ac.bT];refine⟨λ_=>?_,λk=>by simp at k;omega⟩;refine ac.mono (P:=λx=>x.2.1=(List.range c.length).map λ(m:Nat)=>if m<a+1 then(h5 e c).getD m [] else List.replicate c.length false) ?_ (by rintro⟨y,o,_⟩ b;simp only[ac.af];exact⟨fm U,b⟩);refine ac.for (i0:=0) c.length (λd z=>z.2.1=s.set a ((List.range c.length).map λ(f:Nat)=>if f<d then ff (h5 e c) a f else false)) rfl ?_ (bM _) ?_ ?_
   ·show s=_;apply gK;intro h;rw[p3];by_cases j:a=h
    ·subst j;rw[aj rfl,g];simp[i,List.map_const']
    rw[ag j]
   ·rintro d ⟨S,o,_⟩ _ n l;simp only at l;have O:=t _ (bD i);have Q:=t _ (bD n);obtain⟨R,L,M⟩:=Yv O Q;have V:o.length=c.length:=(by rw[l,g];simp);have r:a<o.length:=U;have v:o[a]=(List.range c.length).map λ(f:Nat)=>if f<d then ff (h5 e c) a f else false:=by
     have:o[a]?=some ((List.range c.length).map λ(f:Nat)=>if f<d then ff (h5 e c) a f else false):=(by rw[l,ks (by rw[g];simpa using i)]);rw[a9 r] at this;exact ee this
    have I:ax c (a:Int)=some c[a]:=dW (a9 i);have J:ax c (d:Int)=some c[d]:=dW (a9 n);simp only[ac.bS,ac.bT,ac.oh,I,J,L,M,ac.af,ac.n6,ac.xI,bY];refine⟨λ_=>⟨⟨U,r⟩,r,⟨U,by rw[v];simpa using n⟩,r,by rw[v];simpa using n,fm U,?_⟩,λk=>by simp at k;omega⟩;rw[v,l,List.set_set];congr 1;apply gK;intro h;rw[p3,eT,eT];rcases bn h c.length with b|b
    ·rw[oR b];simp only[fd,fK,nP];by_cases j:d=h
     ·subst j;have C:c.getD d 0=c[d]:=(by simp[List.getD,n]);have D:c.getD a 0=c[a]:=(by simp[List.getD,i]);rw[aj rfl,aj b,aj U,zi i n,C,D]
     rw[ag j];by_cases p:h<d
     ·rw[aj p,aj U]
     rw[ag p,ag U]
    rw[ag U,fc (by simpa using b)];rfl
   rintro⟨S,o,_⟩ l;simp only at l;simp only[ac.bS,ac.af];refine⟨λk=>by simp at k,λ_=>?_⟩;rw[l,g];apply gK;intro h;rw[p3,eT,eT];rcases bn h c.length with b|b
   ·rw[oR b];simp only[fd,fK,nP];by_cases j:a=h
    ·subst j;rw[aj rfl,aj b,aj U];congr 1;have:(h5 e c).getD a []=(List.range c.length).map λ(f:Nat)=>ff (h5 e c) a f:=by
      have F:(h5 e c).getD a []=(List.range c.length).map λ(d:Nat)=>decide (c.getD d 0∈e.getD (c.getD a 0).toNat []):=(by simp[h5,List.getD,i]);rw[F];refine hZ λf w=>?_;rw[zi i (gL.1 w)]
     rw[this];refine hZ λf w=>?_;rw[aj (gL.1 w)]
    rw[ag j];by_cases p:h<a
    ·rw[aj p,aj U]
    rw[ag p,ag U]
   rw[ag U,fc (by simpa using b)];rfl
  rintro⟨y,s,_⟩ g;simp only at g;simp only[ac.bS,ac.af];refine⟨λk=>by simp at k,λ_=>?_⟩;rw[g];apply gK;intro h;rw[eT];rcases bn h c.length with b|b
  ·rw[oR b];simp only[fd];rw[aj b,List.getD,a9 (by rw[uN];exact b)];rfl
  rw[fc (by simpa using b),fc (by rw[uN];exact b)];rfl
 rintro⟨y,s,_⟩ g;simp only at g;subst g;rw[G6]
 ·simp only[ac.af]
 ·intro R u;unfold h5 at u;simp only[bR] at u;obtain⟨a,_,rfl⟩:=u;simp[h5]
 rw[uN];omega
section
inductive gY (A:Nat->Nat->Prop) (P:Nat->Prop):Nat->Nat->Prop
 |one {i j:Nat}:A i j->gY A P i j
 |step {i m j:Nat}:A i m->P m->gY A P m j->gY A P i j
section
variable {A:Nat->Nat->Prop} {P:Nat->Prop}
def gY.trans (c:gY A P b a) (e:P a) (d:gY A P a i):gY A P b i:=by
 induction c with
 |one c=>exact .step c e d
 |step c f _ g=>exact .step c f (g e d)
def gY.symm (f:∀d e,A d e->A e d) (c:gY A P a b):gY A P b a:=by
 induction c with
 |one c=>exact .one (f _ _ c)
 |step c g _ h=>exact h.trans g (.one (f _ _ c))
def gY.mono (f:∀d,P d->u d) (c:gY A P a b):gY A u a b:=by
 induction c with
 |one c=>exact .one c
 |step c e _ g=>exact .step c (f _ e) g
def gY.insert_iff:gY A (λf=>P f\/f=i) a b↔gY A P a b\/(gY A P a i/\gY A P i b):=by
 constructor
 ·intro c
  induction c with
  |one c=>exact .inl (.one c)
  |@step a m b c g _ d=>
   rcases g with g|rfl
   ·rcases d with d|⟨l,h⟩
    ·exact .inl (.step c g d)
    exact .inr ⟨.step c g l,h⟩
   rcases d with d|⟨_,h⟩
   ·exact .inr ⟨.one c,d⟩
   exact .inr ⟨.one c,h⟩
 rintro(c|⟨j,k⟩)
 ·exact c.mono λf e=>.inl e
 exact(j.mono λf e=>.inl e).trans (.inr rfl) (k.mono λf e=>.inl e)
def gY.none:gY A (λ_=>False) a b↔A a b:=by
 constructor
 ·intro c;cases c with
  |one c=>exact c
  |step _ c _=>exact c.elim
 exact .one
def NL:eN A i a b↔gY A (λf=>f<i) a b:=by
 constructor
 ·intro c
  induction c with
  |one c=>exact .one c
  |step c d _ e=>exact .step c d e
 intro c
 induction c with
 |one c=>exact .one c
 |step c d _ e=>exact .step c d e
end
end
section
def X9:∀{d b:ac8},d.Pairwise (· < ·)->b.Pairwise (· < ·)->(∀f,f∈d↔f∈b)->d=b:=by
 intro d
 induction d with
 |nil=>
  intro b _ _ e;cases b with
  |nil=>rfl
  |cons j b=>exact absurd ((e j).2 (jE ..)) ab
 |cons f d l=>
  intro b h i e;cases b with
  |nil=>exact absurd ((e f).1 (jE ..)) ab
  |cons j b=>
   rw[mT] at h i;have k:f=j:=by
    have c:=(e f).1 (jE ..);have a:=(e j).2 (jE ..);rcases dg.1 c with c|c
    ·exact c
    rcases dg.1 a with a|a
    ·exact a.symm
    have:=i.1 _ c;have:=h.1 _ a;omega
   subst k;rw[l h.2 i.2];intro m;have:=e m;simp only[dg] at this;constructor
   ·intro g;have c:=h.1 _ g;rcases this.1 (.inr g) with a|a
    ·omega
    exact a
   intro g;have c:=i.1 _ g;rcases this.2 (.inr g) with a|a
   ·omega
   exact a
structure vH (bP:acX) (S:Nat->Prop) (T:acV) (gone:ac4):Prop where
 CH:T.length=bP.length
 rows:∀v,(h:v<T.length)->T[v].length=bP.length
 kh:gone.length=bP.length
 Jy:∀v,(h:v<gone.length)->(gone[v]=true↔S v)
 GD:∀u w,(ZK:u<T.length)->(hw:w<T[u].length)->¬S u->¬S w->(T[u][w]=true↔u≠w/\gY (dT bP) S u w)
def jW (b:acV) (c:ac4) (e d:Nat):ac8:=((List.range d).filter λa=>ff b e a&&!c.getD a false).map λ(a:Nat)=>(a:Int)
def Fh {c:ac4} (d:vH e u t c) {v w:Nat} (n:v<e.length) (j:¬u v):(w:Int)∈jW t c v e.length↔w<e.length/\¬u w/\v≠w/\gY (dT e) u v w:=by
 unfold jW;simp only[bR,gr,gL,bc,vD];have l:∀w,w<e.length->((ff t v w=true/\c.getD w false=false)↔¬u w/\v≠w/\gY (dT e) u v w):=by
  intro w k;have a:v<t.length:=(by rw[d.CH];exact n);have b:w<t[v].length:=(by rw[d.rows v a];exact k);have h:w<c.length:=(by rw[d.kh];exact k);have m:c.getD w false=c[w]:=(by simp[List.getD,h]);rw[tQ a b,m,Bool.eq_false_iff,ne_eq,d.Jy w h];constructor
  ·rintro⟨f,g⟩;exact⟨g,(d.GD v w a b j g).1 f⟩
  rintro⟨f,g⟩;exact⟨(d.GD v w a b j f).2 g,f⟩
 constructor
 ·rintro⟨i,⟨a,b⟩,h⟩;obtain rfl:i=w:=U;exact⟨a,(l i a).1 b⟩
 exactλ⟨a,b⟩=>⟨w,⟨a,(l w a).2 b⟩,rfl⟩
def Fq (b:acV) (c:ac4) (d a:Nat):(jW b c d a).length<=a:=by unfold jW;rw[fK];exact db (hY _ _) ab
def Fr (c:f∈jW t v b a):∃d:Nat,f=(d:Int)/\d<a:=by unfold jW at c;simp only[bR,gr,gL] at c;obtain⟨e,⟨g,_⟩,h⟩:=c;exact⟨e,h.symm,g⟩
def Hc (r:t.length=b) (n:∀a,(c:a<t.length)->t[a].length=b) (s:v.length=b) (w:b<=4294967296) (y:a<b):w2 (some (t,v,()),(a:Int),())=some (jW t v a b,()):=by
 rw[<-ac.eq_iff];unfold w2;have u:e7=4294967296:=rfl;simp only[ac.bT,ac.af];refine ac.mono (P:=λi=>i.1=jW t v a b) ?_ (by rintro⟨h,_⟩ c;simp only at c;rw[c]);refine ac.for (i0:=0) b (λp q=>q.1=jW t v a p) rfl rfl (bM _) ?_ ?_
 ·rintro d ⟨h,_⟩ _ o e;simp only at e;have x:=Fq t v a d;simp only[aG];rw[ac.bS];refine⟨λ_=>?_,λf=>by simp at f;omega⟩;rw[ac.bT,ac.bT];have g:a<t.length:=U;have j:d<t[a].length:=(by rw[n a g];exact o);have k:ax t (a:Int)=some t[a]:=dW (a9 g);have l:ax t[a] (d:Int)=some t[a][d]:=dW (a9 j);have m:ax v (d:Int)=some (v.getD d false):=dW (by rw[a9 U];simp[List.getD,(U:d<v.length)]);refine ac.mono (P:=λi=>i=((ff t a d&&!v.getD d false),h,())) ?_ ?_
  ·simp only[k,l,m,ac.bT,ac.bS,ac.af,tQ g j];refine⟨λc=>?_,λc=>?_⟩
   ·have c:t[a][d]=true:=(by simpa using c);rw[c];rfl
   have c:t[a][d]=false:=(by simpa using c);rw[c];rfl
  rintro _ rfl;simp only[ac.bS,ac.bT,ac.af,ac.qN];refine⟨λc=>⟨by rw[e];simp;omega,fm U,?_⟩,λc=>⟨fm U,?_⟩⟩
  ·unfold jW at e|-;rw[kV,ln,fZ,<-e];simp only[jD,tA];rw[aj c];rfl
  unfold jW at e|-;rw[kV,ln,fZ,<-e];simp only[jD,tA];rw[ag (by rw[c];simp)];simp
 rintro⟨h,_⟩ e;simp only at e;simp only[aG,ac.bS,ac.af];exact⟨λf=>by simp at f;omega,λ_=>e⟩
def Pq (e:a<t.length) (h:b<t[a].length) (c d:Nat):ff (t.set a (t[a].set b true)) c d=(ff t c d||(c==a&&d==b)):=by
 unfold ff;simp only[List.getD,p3];by_cases f:a=c
 ·subst f;rw[aj rfl,aj e,a9 e];simp only[ig,p3];by_cases g:b=d
  ·subst g;rw[aj rfl,aj h];simp
  rw[ag g];have:(d==b)=false:=(by rw[beq_eq_false_iff_ne];omega);simp[this]
 rw[ag f];have:(c==a)=false:=(by rw[beq_eq_false_iff_ne];omega);simp[this]
def KG (a:acV) (b:ac4) (d c:Nat):(jW a b d c).Pairwise (· < ·):=CB _ _
def N3 (V:t.length=a) (W:∀b,(c:b<t.length)->t[b].length=a) (av:v.length=a) (a3:a<=4294967296) (a4:b<a):ac (w1 ((t,v,()),(b:Int),())) (λF=>F.1.2.1=v.set b true/\F.1.1.length=a/\(∀b,(c:b<F.1.1.length)->F.1.1[b].length=a)/\∀e d,e<a->d<a->(ff F.1.1 e d=true↔ff t e d=true\/((e:Int)∈jW t v b a/\(d:Int)∈jW t v b a/\e≠d))):=by
 unfold w1;simp only[Hc V W av a3 a4,aG];have ad:=Fq t v b a;have M:∀J∈jW t v b a,∃d:Nat,J=(d:Int)/\d<a:=λJ R=>Fr R;have N:=KG t v b a;generalize jW t v b a=h at ad M N;have bl:∀u w:Nat,(c:u<h.length)->(g:w<h.length)->h[u]=h[w]->u=w:=λu w c g L=>by
  rcases l6 u w with C|C|C
  ·have:=(ga.1 N) u w c g C;omega
  ·exact C
  have:=(ga.1 N) w u g c C;omega
 simp only[ac.bT];refine ac.mono (P:=λf:cy×Unit=>f.1.2.1=v/\f.1.1.length=a/\(∀b,(c:b<f.1.1.length)->f.1.1[b].length=a)/\∀e d,e<a->d<a->(ff f.1.1 e d=true↔ff t e d=true\/((e:Int)∈h/\(d:Int)∈h/\e≠d))) ?_ ?_
 ·refine ac.for (i0:=0) h.length (λq f=>f.1.2.1=v/\f.1.1.length=a/\(∀b,(c:b<f.1.1.length)->f.1.1[b].length=a)/\∀e d,e<a->d<a->(ff f.1.1 e d=true↔ff t e d=true\/((e:Int)∈h.take q/\(d:Int)∈h/\e≠d))) rfl ⟨rfl,V,W,λe d _ _=>by simp⟩ (bM _) ?_ ?_
  ·rintro q ⟨⟨S,T,_⟩,_⟩ _ I ⟨m,n,o,p⟩;simp only at m n o p;simp only[ac.bS,ac.bT];refine⟨λ_=>?_,λs=>by simp at s;omega⟩;refine ac.mono (P:=λf:cy×Unit=>f.1.2.1=v/\f.1.1.length=a/\(∀b,(c:b<f.1.1.length)->f.1.1[b].length=a)/\∀e d,e<a->d<a->(ff f.1.1 e d=true↔ff t e d=true\/((e:Int)∈h.take (q+1)/\(d:Int)∈h/\e≠d))) ?_ (by rintro⟨L,_⟩ c;simp only[ac.af];exact⟨fm U,c⟩);obtain⟨l,H,bs⟩:=M _ (bD I);refine ac.for (i0:=0) h.length (λy f=>f.1.2.1=v/\f.1.1.length=a/\(∀b,(c:b<f.1.1.length)->f.1.1[b].length=a)/\∀e d,e<a->d<a->(ff f.1.1 e d=true↔ff t e d=true\/((e:Int)∈h.take q/\(d:Int)∈h/\e≠d)\/(e=l/\(d:Int)∈h.take y/\e≠d))) rfl ⟨m,n,o,λe d j k=>by rw[p e d j k];simp⟩ (bM _) ?_ ?_
   ·rintro y ⟨⟨K,X,_⟩,_⟩ _ E ⟨z,A,r,B⟩;simp only at z A r B;obtain⟨G,D,an⟩:=M _ (bD E);have Y:ax h (q:Int)=some (l:Int):=dW (by rw[a9 I,H]);have Z:ax h (y:Int)=some (G:Int):=dW (by rw[a9 E,D]);have x:l<K.length:=U;have O:G<K[l].length:=(by rw[r l x];exact an);simp only[ac.bS,ac.bT,Y,Z,ac.af,ac.oh,ac.n6,ac.xI,bY];refine⟨λ_=>⟨λQ=>⟨⟨U,x⟩,x,⟨U,O⟩,x,O,fm U,z,by simpa using A,λJ R=>?_,λe d j k=>?_⟩,λap=>⟨fm U,z,A,r,λe d j k=>?_⟩⟩,λs=>by simp at s;omega⟩
    ·rw[List.getElem_set];split
     ·rw[rz];exact r l x
     exact r J (by simpa using R)
    ·have Q:q≠y:=(by simp at Q;omega);have am:l≠G:=λL=>Q (bl q y I E (by rw[H,D,L]));rw[Pq x O,fX,B e d j k,<-mJ E,D,dX,ed];simp only[bc,beq_iff_eq];constructor
     ·rintro((c|c|⟨c,g,i⟩)|⟨c,g⟩)
      ·exact .inl c
      ·exact .inr (.inl c)
      ·exact .inr (.inr ⟨c,.inl g,i⟩)
      exact .inr (.inr ⟨c,.inr U,U⟩)
     rintro(c|c|⟨c,g|g,i⟩)
     ·exact .inl (.inl c)
     ·exact .inl (.inr (.inl c))
     ·exact .inl (.inr (.inr ⟨c,g,i⟩))
     exact .inr ⟨c,U⟩
    have a0:q=y:=(by simp at ap;omega);have am:l=G:=(by subst a0;rw[H] at D;omega);rw[B e d j k,<-mJ E,D,dX,ed];constructor
    ·rintro(c|c|⟨c,g,i⟩)
     ·exact .inl c
     ·exact .inr (.inl c)
     exact .inr (.inr ⟨c,.inl g,i⟩)
    rintro(c|c|⟨c,g|g,i⟩)
    ·exact .inl c
    ·exact .inr (.inl c)
    ·exact .inr (.inr ⟨c,g,i⟩)
    omega
   rintro⟨⟨K,X,_⟩,_⟩ ⟨z,A,r,B⟩;simp only at z A r B;simp only[ac.bS,ac.af];refine⟨λs=>by simp at s,λ_=>⟨z,A,r,λe d j k=>?_⟩⟩;rw[B e d j k,nQ,<-mJ I,H,dX,ed];constructor
   ·rintro(c|⟨c,g,i⟩|⟨c,g,i⟩)
    ·exact .inl c
    ·exact .inr ⟨.inl c,g,i⟩
    exact .inr ⟨.inr U,g,i⟩
   rintro(c|⟨c|c,g,i⟩)
   ·exact .inl c
   ·exact .inr (.inl ⟨c,g,i⟩)
   exact .inr (.inr ⟨U,g,i⟩)
  rintro⟨⟨S,T,_⟩,_⟩ ⟨m,n,o,p⟩;simp only at m n o p;simp only[ac.bS,ac.af];refine⟨λs=>by simp at s,λ_=>⟨m,n,o,λe d j k=>?_⟩⟩;rw[p e d j k,nQ]
 rintro⟨⟨S,T,_⟩,_⟩ ⟨m,n,o,p⟩;simp only at m n o p;subst m;simp only[ac.bT,ac.oh,ac.n6,ac.af,ac.xI,bY];exact⟨⟨U,U⟩,U,trivial,n,o,p⟩
def N2 (I:dZ e) (J:e.length<=4294967296) (c:vH e u t v) (n:a<e.length) (w:¬u a):ac (w1 ((t,v,()),(a:Int),())) (λE=>vH e (λj=>u j\/j=a) E.1.1 E.1.2.1):=by
 refine(N3 c.CH c.rows c.kh J n).mono ?_;rintro⟨⟨M,h,_⟩,_⟩ ⟨q,r,k,s⟩;simp only at q r k s|-;subst q;have z:=dT.symm I;refine⟨r,k,by rw[rz];exact c.kh,λj N=>?_,λd g A o x y=>?_⟩
 ·rw[List.getElem_set];by_cases i:a=j
  ·rw[aj i];simp[i]
  rw[ag i,c.Jy];constructor
  ·exact .inl
  rintro(b|b)
  ·exact b
  exact absurd b.symm i
 have m:d<e.length:=U;have p:g<e.length:=(by rw[k d A] at o;exact o);have:=s d g m p;rw[tQ A o] at this;have l:d<t.length:=(by rw[c.CH];exact m);have B:g<t[d].length:=(by rw[c.rows d l];exact p);have C:¬u d:=λb=>x (.inl b);have D:¬u g:=λb=>y (.inl b);have K:a≠d:=λb=>x (.inr b.symm);have L:a≠g:=λb=>y (.inr b.symm);rw[this,tQ l B,c.GD d g l B C D,Fh c n w,Fh c n w,gY.insert_iff];constructor
 ·rintro(⟨h,f⟩|⟨⟨_,_,_,f⟩,⟨_,_,_,G⟩,H⟩)
  ·exact⟨h,.inl f⟩
  exact⟨H,.inr ⟨f.symm z,G⟩⟩
 rintro⟨h,f|⟨f,F⟩⟩
 ·exact .inl ⟨h,f⟩
 exact .inr ⟨⟨m,C,K,f.symm z⟩,⟨p,D,L,F⟩,h⟩
def NW (g:dZ e) (m:∀p∈e,p.length<4611686018427387904) (n:e.length<=200):ac (AW ((e,()),())) (λj=>vH e (λ_=>False) j.1.1 j.1.2.1):=by
 unfold AW;have q:e7=4294967296:=rfl;simp only[Hk m n (λd o=>(g.asc d o).2),aG,ac.bT,ac.u0,ac.af,bY];refine⟨⟨U,U,U⟩,GA e,λd l=>?_,ab,λd l=>by simp,λc f h i _ _=>?_⟩
 ·simp[mI]
 rw[gY.none];have b:c<e.length:=(by rw[GA] at h;exact h);have r:f<e.length:=(by simp[mI] at i;exact i);have k:(mI e)[c][f]=decide ((f:Int)∈e[c]):=(by simp[mI,List.getD,b]);rw[k,decide_eq_true_eq];constructor
 ·exactλa=>⟨dT.ne g ⟨b,a⟩,b,a⟩
 exactλa=>a.2.2
open Classical in
def Xc (k:dZ e) (q:∀A∈e,A.length<4611686018427387904) (y:e.length<=200):AX ((e,()),())=some ((List.range e.length).map (aY e),0,()):=by
 rw[<-ac.eq_iff];unfold AX;have F:e7=4294967296:=rfl;have u:gw e=0:=(by unfold gw;rw[ag U,aj k]);simp only[x9 e q,u,aG,bne_self_eq_false,cond_false];simp only[ac.bT];refine(NW k q y).mono ?_;rintro⟨⟨h,i,_⟩,_⟩ d;simp only at d;simp only[ac.bT];refine ac.mono (P:=λC=>C.1=(List.range e.length).map (aY e)) ?_ (by rintro⟨H,_⟩ o;simp only at o;simp only[ac.af,o]);refine ac.for (i0:=0) e.length (λa n=>n.2.1=(List.range a).map (aY e)/\vH e (λc=>c<a) n.1.1 n.1.2.1) rfl ⟨rfl,?_⟩ (bM _) ?_ ?_
 ·have:(λc:Nat=>c<0)=λ_=>False:=(by funext c;simp);rw[this];exact d
 ·rintro a ⟨⟨h,i,_⟩,B,_⟩ _ j ⟨g,d⟩;simp only at g d;have G:=Fq h i a e.length;have x:[(a:Int)]++jW h i a e.length=aY e a:=by
   have m:=λf=>Fh d (v:=a) (w:=f) j (Nat.lt_irrefl a);refine X9 ?_ (tV e a) ?_
   ·rw[yS,mT];refine⟨λc b=>?_,KG _ _ _ _⟩;obtain⟨f,rfl,_⟩:=Fr b;have:=(m f).1 b;omega
   intro c;constructor
   ·intro b;rw[yS,dg] at b;rcases b with rfl|b
    ·exact sI.2 ⟨j,.inl rfl⟩
    obtain⟨f,rfl,_⟩:=Fr b;have:=(m f).1 b;exact sI.2 ⟨this.1,.inr ⟨U,NL.2 this.2.2.2⟩⟩
   intro b;rw[yS,dg];have z:=b;unfold aY jM at b;simp only[bR] at b;obtain⟨f,_,rfl⟩:=b;obtain⟨r,s|⟨s,t⟩⟩:=sI.1 z
   ·exact .inl U
   exact .inr ((m f).2 ⟨r,U,U,NL.1 t⟩)
  rw[ac.bS];refine⟨λ_=>?_,λl=>by simp at l;omega⟩;simp only[Hc d.CH d.rows d.kh (U:e.length<=4294967296) j,aG,ac.bT,ac.qN];refine⟨by simp;omega,by rw[g];simp;omega,?_⟩;refine(N2 k U d j (Nat.lt_irrefl a)).mono ?_;rintro⟨⟨D,E,_⟩,_⟩ p;simp only at p;simp only[ac.af];refine⟨fm U,?_,?_⟩
  ·rw[g,x,kV,fZ];rfl
  have:(λc:Nat=>c<a+1)=λc=>c<a\/c=a:=(by funext c;apply propext;omega);rw[this];exact p
 rintro⟨⟨h,i,_⟩,B,_⟩ ⟨g,_⟩;simp only at g;simp only[ac.bS,ac.af];exact⟨λl=>by simp at l,λ_=>g⟩
end
def Pg (d:c.Pairwise (· < ·)) (e:∀g∈c,0<=g):∀a,(b:a<c.length)->(a:Int)<=c[a]:=by
 intro a
 induction a with
 |zero=>intro b;exact e _ (bD b)
 |succ a f=>
  intro b;have h:=f U;have i:=x3.1 d a b;omega
def oK.length {a:ac8} {c:Nat} (b:oK a c):a.length<=c:=by
 rcases h0 a.length with d|d
 ·omega
 have g:=Pg b.1 (λf e=>(b.2 f e).1) (a.length-1) U;have h:=(b.2 _ (bD (U:a.length-1<a.length))).2;omega
def dZ.rows (b:dZ e):∀a∈e,a.length<=e.length:=by intro a c;obtain⟨f,d,rfl⟩:=gD.1 c;exact(b.asc f d).length
def dZ.hc (b:dZ e) (d:e.length<=200):∀a∈e,a.length<4611686018427387904:=λa c=>by have:=b.rows a c;omega
def qk:gw e=0↔e.length<=200/\dZ e:=by
 unfold gw;by_cases a:200<e.length
 ·rw[aj a];constructor
  ·intro a;omega
  intro a;omega
 rw[ag a];by_cases b:dZ e
 ·rw[aj b];exact⟨λ_=>⟨U,b⟩,λ_=>rfl⟩
 rw[ag b];exact⟨λa=>by omega,λa=>absurd a.2 b⟩
section
def Il (P:Nat->Prop):Nat->Nat
 |0=>0
 |k+1=>Il P k+(open Classical in if P k then 1 else 0)
section
variable {P Q:Nat->Prop} {k:Nat}
end
def Dc (n:Nat) (f:Nat->Int):Prop:=∀a,a<n->f a=-1\/((a:Int)<f a/\f a<n)
def OC (n:Nat) (f:Nat->Int) (a b:Nat):Prop:=a<n/\f a=(b:Int)
def Sub (n:Nat) (f:Nat->Int) (a b:Nat):Prop:=gb (OC n f) a b
section
variable {n:Nat} {f:Nat->Int} (A:Dc n f)
include A
def Yt (n:Nat) (f:Nat->Int) (b:Nat):Nat:=Il (λa=>Sub n f a b) n
end
end
section
section
variable {B:acX} (C:dZ B) (A:B.length<=200)
include C A
end
def Tu (b:ac8) (n a:Nat):Int:=(b[a+1]?).getD n
section
variable {n:Nat} {f:Nat->Int} (D:Dc n f) (A:n<=200)
include D A
end
end
section
structure Ov (n:Nat) (f:Nat->Int) (Gw:ac8) (m:Nat) (s e:Nat->Nat):Prop where
 len:Gw.length=m
 st:Gw=aF m λk=>(s k:Int)
 ZM:0<n->0<m/\s 0=0
 ZL:n=0->m=0
 ok:∀k,k<m->s k<e k/\e k<=n/\e k<=s k+Yt n f (e k-1)
 aQ:∀k,k<m->Tu Gw n k=(e k:Int)
 ZA:∀k,k+1<m->e k=s (k+1)
 el:∀k,k+1=m->e k=n
section
variable {A:acX} (B:dZ A) (C:A.length<=200)
include B C
end
end
section
def fG (s:Nat->Nat) (a:Nat):Nat->Int
 |0=>-1
 |k+1=>if s k<=a then(k:Int) else fG s a k
abbrev fI:=Int×cG
section
variable {n:Nat} {f:Nat->Int} {B:ac8} {m:Nat} {s e:Nat->Nat} (C:Ov n f B m s e)
include C
end
section
variable {A:acX} (D:dZ A) (F:A.length<=200)
include D F
end
end
def Ot:∀a:Nat,a<201->z7 (1,(a:Int),())=some (0,(a:Int),()):=by unfold z7;decide+kernel
def OF (c:Int) (t:0<a) (u:a<=200):Al ([c],(a:Int),())=some (List.replicate a c,()):=by
 unfold Al;have al:IntKind.u64.wrap (a:Int)=(a:Int):=(by rw[NN];omega);have m:IntKind.u64.wrap ((1:Nat):Int)=1:=(by rw[NN];rfl);have r:¬((a:Int)<0):=U;have p:¬((a:Int)>9223372036854775807):=U;simp only[bj,ag r,aG,DQ,al,m,Ot a U,rS,(U:¬((0:Int)>0)),if_false,ay p,cond_false,yz (U:a<9223372036854775808),gA (U:a<=4294967296),mR,yR,Nat.sub_zero];rw[<-ac.eq_iff];refine ac.aU (P:=λl=>l.1=List.replicate a c) ?_ (by rintro⟨l,⟨⟩⟩ g;simp only at g;subst g;exact ac.af.2 rfl);have s:∀b:Nat,b<=a->List.replicate b c++List.replicate (a-b) 0=aF a (λd=>if d<b then c else 0):=λb i=>(by rw[hu,hu,xg];have:b+(a-b)=a:=U;rw[this]);refine ac.loop (λf=>∃b:Nat,f.1=(b:Int)/\0<b/\b<=a/\f.2.1=aF a (λd=>if d<b then c else 0)) (λf=>a-f.1.toNat) ⟨1,?_,U,U,?_⟩ ?_
 ·show((min 1 a:Nat):Int)=1;rw[fr U];rfl
 ·show hL (List.replicate a 0) [c] 0 a=_;unfold hL;rw[fr (show[c].length<=a-0 by simp;omega),List.take_zero,c8 (show[c].length<=a-0 by simp;omega),fi,List.drop_replicate,hu];show[c]++aF (a-1) (λ_=>0)=_;have:[c]=aF 1 (λ_=>c):=rfl;rw[this,xg];have:1+(a-1)=a:=U;rw[this]
 rintro⟨f,w,⟨⟩⟩ ⟨b,i,v,q,k⟩;simp only at i k;subst i k;simp only[bp];by_cases g:b<a
 ·simp(disch:=omega) only[aj,q0,sA,F2,aG,fd,kS,Bn,bp];refine ac.af.2 ⟨⟨b+min b (a-b),NP U,U,U,?_⟩,?_⟩
  ·show hL (aF a λd=>if d<b then c else 0) (aF b λd=>if d<b then c else 0) b a=_;unfold hL;have n:(aF b λd=>if d<b then c else 0)=aF b λ_=>c:=dy λd h=>(by rw[aj h]);have o:(aF b λ(_:Nat)=>c).take (a-b)=aF (min b (a-b)) λ_=>c:=by
    rcases Nat.le_total (a-b) b with e|e
    ·rw[Bn _ _ _ e,Nat.min_eq_right e]
    rw[c8 (by rw[bp];exact e),fr e]
   rw[Bn _ _ _ q,bp,n,o,Re,xg,xg];have:b+(min b (a-b)+(a-(b+min b (a-b))))=a:=U;rw[this];refine dy λd h=>?_;by_cases e:d<b
   ·rw[aj e,aj U]
   rw[ag e];by_cases j:d-b<min b (a-b)
   ·rw[aj j,aj U]
   rw[ag j,ag U,ag U]
  show a-(IntKind.i64.wrap ((b:Int)+((min b (a-b):Nat):Int))).toNat<a-(b:Int).toNat;rw[NP U];omega
 simp(disch:=omega) only[ag];refine ac.af.2 ?_;show _=_;rw[hu];exact dy λd h=>by rw[aj U]
def bI (a:List fI):Nat->Nat
 |0=>0
 |k+1=>((a[k]?).map λ(b:fI)=>b.2.1.toNat).getD 0
def l0 (d:Nat) (c:List fI) (b:Nat):Prop:=∃a:fI,c[b]?=some a/\a.1=(bI c b:Int)/\(bI c b:Int)<a.2.1/\a.2.1<=(d:Int)
def kP (c:Nat) (a:List fI):Prop:=(∀b,b<a.length->l0 c a b)/\bI a a.length=c
def PF {b:List fI} (c:a<b.length) (d:0<=b[a].2.1):(bI b (a+1):Int)=b[a].2.1:=by simp only[bI,a9 c,fd,ig];omega
def l0.at {e:Nat} {b:List fI} {a:Nat} (d:a<b.length) (f:l0 e b a):b[a].1=(bI b a:Int)/\b[a].2.1=(bI b (a+1):Int)/\bI b a<bI b (a+1)/\bI b (a+1)<=e:=by obtain⟨j,c,g,h,i⟩:=f;rw[a9 d] at c;simp only[bF] at c;subst c;have:=PF d U;omega
def Ic {d:List fI} {m:Nat} (f:∀e,e<m->e<d.length/\l0 a d e):∀c b,c<=b->b<=m->bI d c<=bI d b:=by
 intro c b l
 induction b with
 |zero=>
  intro _;obtain rfl:c=0:=by omega
  exact a6 _
 |succ b j=>
  intro n;rcases bn c (b+1) with g|g
  ·have k:=j U U;obtain⟨h,i⟩:=f b U;have:=i.at h;omega
  obtain rfl:c=b+1:=U;exact a6 _
def zo {c:List fI} {m:Nat} (f:∀a,a<m->a<c.length/\l0 i c a) (o:a<m) (h:bI c a<=b) (k:b<bI c (a+1)):∀d,a<d->d<=m->fG (bI c) b d=(a:Int):=by
 intro d
 induction d with
 |zero=>intro f;omega
 |succ e j=>
  intro l n;rcases bn a e with g|g
  ·have:=Ic f (a+1) e U U;simp only[ia.fG];rw[ag U];exact j g U
  obtain rfl:e=a:=U;simp only[ia.fG];rw[aj h]
def zn {d:List fI} (f:kP b d) (j:a<b):∃c,c<d.length/\bI d c<=a/\a<bI d (c+1):=by
 have m:∀e,e<=d.length->a<bI d e->∃c,c<e/\bI d c<=a/\a<bI d (c+1):=by
  intro e
  induction e with
  |zero=>intro _ f;exact absurd f (Nat.not_lt_zero _)
  |succ e l=>
   intro n k;rcases bn a (bI d e) with g|g
   ·obtain⟨c,i,h⟩:=l U g;exact⟨c,U,h⟩
   exact⟨e,U,g,k⟩
 obtain⟨c,i,h⟩:=m d.length (a6 _) (by rw[f.2];exact j);exact⟨c,i,h⟩
def P1 (b:List fI) (E:a<=200) (D:b.length<4611686018427387904):ac (A4 (b,(a:Int),())) (λk=>(k.2.1=true↔kP a b)/\(kP a b->k.1=aF a (λg=>fG (bI b) g b.length))):=by
 classical
 unfold A4;refine ac.aU (P:=λx=>match x with|.inl k=>(∀c,c<b.length->l0 a b c)/\k.1=aF (bI b b.length) (λg=>fG (bI b) g b.length)|.inr k=>¬kP a b/\k=([],false,())) ?_ ?_
 ·refine ac.for b.length (λc y=>(∀e,e<c->e<b.length->l0 a b e)/\y.1=aF (bI b c) (λg=>fG (bI b) g c)) (i0:=0) rfl ⟨λe d=>by omega,rfl⟩ (bM _) ?_ ?_
  ·rintro c ⟨t,⟨⟩⟩ _ h ⟨m,i⟩;simp only at i;subst i;have u:∀e,e<c->e<b.length/\l0 a b e:=λe s=>⟨U,m e s U⟩;have C:bI b c<=a:=by
    cases c with
    |zero=>exact bM _
    |succ c=>exact((u c U).2.at U).2.2.2
   have v:=dW (a9 h);simp(disch:=omega) only[bj,aj,v,aG,bp,bH];have o:¬(b[c].1=(bI b c:Int)/\(bI b c:Int)<b[c].2.1/\b[c].2.1<=(a:Int))->¬kP a b:=λd p=>(by obtain⟨G,f,n⟩:=p.1 c h;rw[a9 h] at f;simp only[bF] at f;subst f;exact d n);by_cases j:b[c].1=(bI b c:Int)
   ·by_cases z:b[c].2.1<=b[c].1
    ·simp only[j,decide_true,eS,show(false==false)=true from rfl,cond_true,aA (U:b[c].2.1<=(bI b c:Int)),show(true==false)=false from rfl,cond_false,aG];exact ac.af.2 ⟨o (λd=>by omega),rfl⟩
    by_cases q:b[c].2.1>(a:Int)
    ·simp only[j,decide_true,eS,show(false==false)=true from rfl,cond_true,ay (U:¬b[c].2.1<=(bI b c:Int)),aA q,aG];exact ac.af.2 ⟨o (λd=>by omega),rfl⟩
    have r:l0 a b c:=⟨b[c],a9 h,j,U,U⟩;obtain⟨f,n,A,B⟩:=r.at h;have w:IntKind.i64.wrap (b[c].2.1-b[c].1)=((bI b (c+1)-bI b c:Nat):Int):=(by rw[f,n,Zk U U]);simp only[j,decide_true,eS,show(false==false)=true from rfl,cond_true,ay (U:¬b[c].2.1<=(bI b c:Int)),ay q,cond_false,aG];rw[<-j];rw[w,OF _ U U];simp(disch:=omega) only[aG,mR,er,hn,bp];refine ac.af.2 ⟨rfl,λe s d=>?_,?_⟩
    ·rcases bn e c with l|l
     ·exact m e l d
     obtain rfl:e=c:=U;exact r
    show aF (bI b c) (λg=>fG (bI b) g c)++List.replicate (bI b (c+1)-bI b c) (c:Int)=_;rw[hu,xg];have al:bI b c+(bI b (c+1)-bI b c)=bI b (c+1):=U;rw[al];refine dy λg F=>?_;simp only[ia.fG];by_cases l:g<bI b c
    ·rw[aj l,ag U]
    rw[ag l,aj U]
   simp only[ay j,fW,show(true==false)=false from rfl,cond_false,cond_true,aG];exact ac.af.2 ⟨o (λd=>j d.1),rfl⟩
  rintro⟨t,⟨⟩⟩ ⟨m,i⟩;simp only at i;subst i;simp(disch:=omega) only[bj,ag];exact ac.af.2 ⟨λc h=>m c h h,rfl⟩
 rintro(⟨t,⟨⟩⟩|k) d
 ·obtain⟨f,i⟩:=d;simp only at i;subst i;simp only[bp];refine ac.af.2 ⟨?_,λp=>?_⟩
  ·show(((bI b b.length:Nat):Int)==(a:Int))=true↔_;rw[beq_iff_eq];exact⟨λd=>⟨f,U⟩,λd=>by have:=d.2;omega⟩
  show aF (bI b b.length) _=_;rw[p.2]
 obtain⟨f,rfl⟩:=d;exact ac.af.2 ⟨⟨λd=>(by cases d),λd=>absurd d f⟩,λd=>absurd d f⟩
def oV (c:Nat) (a:fI) (b:Nat):Prop:=∀d:b<a.2.2.1.length,(b<(a.2.1-a.1).toNat->a.2.2.1[b]=a.1+(b:Int))/\((a.2.1-a.1).toNat<=b->a.2.1<=a.2.2.1[b]/\a.2.2.1[b]<(c:Int)/\a.2.2.1[b-1]<a.2.2.1[b])
def gP (c:Nat) (a:fI):Prop:=(a.2.1-a.1).toNat<=a.2.2.1.length/\∀b,0<=b->b<a.2.2.1.length->oV c a b
def XX {n:Nat} {x:fI} (o:0<=x.1) (p:x.1<x.2.1) (q:x.2.1<=(n:Int)) (s:n<=200) (r:x.2.2.1.length<4611686018427387904):A6 (x,(n:Int),())=some ((open Classical in decide (gP n x)),()):=by
 classical
 obtain⟨d,j⟩:∃d:Nat,x.2.1-x.1=(d:Int):=⟨(x.2.1-x.1).toNat,U⟩;have t:(x.2.1-x.1).toNat=d:=U;unfold A6;simp only[j,yz (U:d<9223372036854775808),bj];by_cases l:d<=x.2.2.1.length
 ·rw[ag U];refine ak (qR (τ:=Unit) x.2.2.1.length (oV n x) () (.inl ()) (.inr (false,())) 0 rfl (bM _) ?_ ?_) ?_
  ·intro a _ e _;have i:=dW (a9 e);rw[aj U,i];simp only[aG,wd,bH];by_cases m:a<d
   ·rw[aj U,wrap64 U U];simp only[aG];by_cases c:x.2.2.1[a]=x.1+(a:Int)
    ·have:oV n x a:=λ_=>⟨λ_=>c,λb=>by omega⟩;rw[aj this,aA c];simp(disch:=omega) only[eS,cond_false,ag,aG,hn]
    have:¬oV n x a:=λb=>c ((b e).1 U);rw[ag this,ay c];rfl
   rw[ag U];simp only[aG,cond_false];rw[aj U];simp only[rS];have k:ax x.2.2.1 (IntKind.i64.wrap ((a:Int)-1))=some (x.2.2.1[a-1]'(by omega)):=by rw[yB U U];exact dW (a9 U)
   by_cases c:x.2.2.1[a]<x.2.1
   ·have:¬oV n x a:=λb=>(by have:=((b e).2 U).1;omega);rw[ag this,aj c];rfl
   rw[ag c];by_cases g:x.2.2.1[a]>=(n:Int)
   ·have:¬oV n x a:=λb=>(by have:=((b e).2 U).2.1;omega);rw[ag this,aj g];rfl
   rw[ag g,k];simp only[aG];by_cases h:x.2.2.1[a]<=x.2.2.1[a-1]
   ·have:¬oV n x a:=λb=>(by have:=((b e).2 U).2.2;omega);rw[ag this,aj h];rfl
   have:oV n x a:=λ_=>⟨λb=>by omega,λ_=>⟨U,U,U⟩⟩;rw[aj this,ag h];simp(disch:=omega) only[aG,hn]
  ·intro _;rw[ag U]
  by_cases f:∀a,0<=a->a<x.2.2.1.length->oV n x a
  ·rw[aj f,aA (show gP n x from⟨U,f⟩)]
  rw[ag f,ay (show¬gP n x fromλb=>f b.2)]
 rw[aj U,ay (show¬gP n x fromλb=>by have:=b.1;omega)]
def j2 (a:List fI) (b:Int):ac8:=((a[b.toNat]?).map λ(c:fI)=>c.2.2.1).getD []
def fQ (c:List fI) (a:fI):Prop:=
 (a.2.2.1.length=(a.2.1-a.1).toNat/\a.2.2.2.1=-1)\/
 (∃d:(a.2.1-a.1).toNat<a.2.2.1.length,a.2.2.2.1=fG (bI c) (a.2.2.1[(a.2.1-a.1).toNat]).toNat c.length/\∀b,(a.2.1-a.1).toNat<=b->(e:b<a.2.2.1.length)->a.2.2.1[b]∈j2 c a.2.2.2.1)
def gP.asc {b:fI} (h:0<=b.1) (i:b.1<b.2.1) (e:gP a b):b.2.2.1.Pairwise (· < ·):=by
 rw[x3];intro d f;have aw:=e.2 d (bM _) U U;have g:=e.2 (d+1) (bM _) f f;rcases bn (d+1) (b.2.1-b.1).toNat with c|c
 ·have:=aw.1 U;have:=g.1 c;omega
 have:=(g.2 c).2.2;simpa using this
def vk {b:List fI} (c:a<b.length):j2 b (a:Int)=b[a].2.2.1:=by unfold j2;rw[bY,a9 c];rfl
def G0 {v:Int} (e:c.length<4611686018427387904) (f:c.Pairwise (· < ·)):∃a,r3 (c,v,())=some (a,decide (v∈c),()):=by obtain⟨⟨a,g,⟨⟩⟩,d,b⟩:=G1 c v e f;simp only at b;exact⟨a,by rw[d,b]⟩
def Sw {e:List fI} (Z:b<=200) (r:kP b e) (B:∀S∈e,S.2.2.1.length<4611686018427387904) (A:∀a,(h:a<e.length)->gP b e[a]) (l:a<e.length):A5 (e,aF b (λD=>fG (bI e) D e.length),e[a],())=some ((open Classical in decide (fQ e e[a])),()):=by
 classical
 have z:=(r.1 a l).at l;have u:=A a l;have L:=B _ (bD l);generalize am:e[a]=c at z u L;obtain⟨V,W,X,Y⟩:=z;obtain⟨d,M⟩:∃d:Nat,c.2.1-c.1=(d:Int):=⟨(c.2.1-c.1).toNat,U⟩;have x:(c.2.1-c.1).toNat=d:=U;have N:=u.1;rw[x] at N;unfold A5;simp(disch:=omega) only[M,yz (U:d<9223372036854775808),q0,aG,sA,fd,nQ,ka,bj,dO,bH];by_cases G:c.2.2.1.length=d
 ·rw[aj U];have:decide (c.2.2.2.1=-1)=decide (fQ e c):=by
   rw[decide_eq_decide];unfold fQ;rw[x];constructor
   ·intro h;exact .inl ⟨G,h⟩
   rintro(h|⟨h,_⟩)
   ·exact h.2
   omega
  rw[this]
 have q:d<c.2.2.1.length:=U;have ad:=(u.2 d (bM _) q q).2 U;obtain⟨n,y⟩:∃n:Nat,c.2.2.1[d]=(n:Int):=⟨(c.2.2.1[d]).toNat,U⟩;have R:n<b:=U;have F:ax (c.2.2.1.drop d) 0=some (n:Int):=(by have:(c.2.2.1.drop d)[0]?=some (n:Int):=(by rw[iJ,kv,a9 q,y]);exact dW (i:=0) this);rw[ag U];simp(disch:=omega) only[F,aG,BC];obtain⟨g,j,O,P⟩:=zn r R;have w:fG (bI e) n e.length=(g:Int):=zo (m:=e.length) (λa l=>⟨l,r.1 a l⟩) j O P e.length j (a6 _);rw[w];have t:fQ e c↔c.2.2.2.1=(g:Int)/\∀f,0<=f->f<c.2.2.1.length-d->c.2.2.1.getD (d+f) 0∈e[g].2.2.1:=by
  unfold fQ;rw[x];constructor
  ·rintro(h|⟨h,k,o⟩)
   ·omega
   rw[y,bY,w] at k;refine⟨k,λf _ K=>?_⟩;have:=o (d+f) U U;rw[k,vk j] at this;simp only[List.getD,a9 (U:d+f<c.2.2.1.length),ig];exact this
  rintro⟨k,o⟩;refine .inr ⟨q,by rw[y,bY,w,k],λf p H=>?_⟩;rw[k,vk j];have:=o (f-d) (bM _) U;have E:d+(f-d)=f:=U;rw[E] at this;simp only[List.getD,a9 H,ig] at this;exact this
 by_cases p:c.2.2.2.1=(g:Int)
 ·simp only[p,decide_true,eS,cond_false];have I:e[g].2.2.1.Pairwise (· < ·):=by
   have:=(r.1 g j).at j;exact(A g j).asc U U
  have Q:=B _ (bD j);refine ak (qR (τ:=Unit) (c.2.2.1.length-d) (λf=>c.2.2.1.getD (d+f) 0∈e[g].2.2.1) () (.inl ()) (.inr (false,())) 0 rfl (bM _) ?_ ?_) ?_
  ·intro f _ K _;have k:ax (c.2.2.1.drop d) (f:Int)=some (c.2.2.1.getD (d+f) 0):=by
    refine dW ?_;rw[iJ];simp only[List.getD,a9 (U:d+f<c.2.2.1.length),ig]
   have o:ax e (g:Int)=some e[g]:=dW (a9 j);obtain⟨T,J⟩:=G0 (v:=c.2.2.1.getD (d+f) 0) Q I;rw[aj U,k,o];simp only[aG,J];by_cases C:c.2.2.1.getD (d+f) 0∈e[g].2.2.1
   ·simp(disch:=omega) only[C,decide_true,eS,cond_false,if_true,hn]
   simp only[C,decide_false,fW,cond_true,if_false]
  ·intro _;rw[ag U]
  by_cases s:∀f,0<=f->f<c.2.2.1.length-d->c.2.2.1.getD (d+f) 0∈e[g].2.2.1
  ·rw[aj s,aA (t.2 ⟨p,s⟩)]
  rw[ag s,ay (λh=>s (t.1 h).2)]
 simp only[ay p,fW,cond_true,ay (show¬fQ e c fromλh=>p (t.1 h).1)]
section
def P8 {l:List fI} (F:a<=200) (B:l.length<4611686018427387904) (f:kP a l) (C:∀o∈l,o.2.2.1.length<4611686018427387904):Ah (l,(some (a:Int),()),())=some ((open Classical in decide (¬∀b,(c:b<l.length)->gP a l[b])),()):=by
 classical
 rw[<-ac.eq_iff];unfold Ah;refine ac.aU (P:=λk=>0<=k.1↔¬∀b,(c:b<l.length)->gP a l[b]) ?_ ?_
 ·unfold DU;refine ac.aU (Fa l.length (λb=>∀c:b<l.length,gP a l[b]) ?_ ?_) ?_
  ·intro b d;have g:=dW (a9 d);obtain⟨p,q,r,s⟩:=(f.1 b d).at d;have i:=XX (n:=a) (x:=l[b]) U U U F (C _ (bD d));simp(disch:=omega) only[bj,aj,g,aG,D7,i];by_cases c:gP a l[b]
   ·simp(disch:=omega) only[c,decide_true,eS,cond_false,d,forall_const,if_true,hn]
   simp only[c,decide_false,fW,cond_true,d,forall_const,if_false]
  ·simp(disch:=omega) only[bj,ag]
  rintro(⟨⟩|⟨m,⟨⟩⟩) c
  ·exact ac.af.2 ⟨λe=>by omega,λe=>absurd (λb d=>c b d d) e⟩
  exact ac.af.2 ⟨λ_ e=>c.2 (λj _ h=>e j h),λ_=>c.1⟩
 rintro⟨m,⟨⟩⟩ c;simp only at c;refine ac.af.2 ?_;simp only[ge_iff_le,c]
def P9 {l:List fI} (F:a<=200) (B:l.length<4611686018427387904) (f:kP a l) (C:∀p∈l,p.2.2.1.length<4611686018427387904) (g:∀b,(c:b<l.length)->gP a l[b]):Ai (l,(some l,some (aF a (λo=>fG (bI l) o l.length)),()),())=some ((open Classical in decide (¬∀b,(c:b<l.length)->fQ l l[b])),()):=by
 classical
 rw[<-ac.eq_iff];unfold Ai;refine ac.aU (P:=λm=>0<=m.1↔¬∀b,(c:b<l.length)->fQ l l[b]) ?_ ?_
 ·unfold DV;refine ac.aU (Fa l.length (λb=>∀c:b<l.length,fQ l l[b]) ?_ ?_) ?_
  ·intro b d;have h:=dW (a9 d);have j:=Sw F f C g d;simp(disch:=omega) only[bj,aj,h,aG,D8,j];by_cases c:fQ l l[b]
   ·simp(disch:=omega) only[c,decide_true,eS,cond_false,d,forall_const,if_true,hn]
   simp only[c,decide_false,fW,cond_true,d,forall_const,if_false]
  ·simp(disch:=omega) only[bj,ag]
  rintro(⟨⟩|⟨n,⟨⟩⟩) c
  ·exact ac.af.2 ⟨λe=>by omega,λe=>absurd (λb d=>c b d d) e⟩
  exact ac.af.2 ⟨λ_ e=>c.2 (λk _ i=>e k i),λ_=>c.1⟩
 rintro⟨n,⟨⟩⟩ c;simp only at c;refine ac.af.2 ?_;simp only[ge_iff_le,c]
def N1 (A:acX) (l:List fI) (b a:Nat):Prop:=b<a->(a:Int)∈j2 l (fG (bI l) b l.length)
def lj (A:acX) (l:List fI):Prop:=kP A.length l/\(∀a,(d:a<l.length)->gP A.length l[a])/\(∀a,(d:a<l.length)->fQ l l[a])/\∀c b,dT A c b->N1 A l c b
def k4 (A:acX) (l:List fI):Int:=if gw A≠0 then gw A else(open Classical in if lj A l then 0 else 211)
section
variable {A:acX} (D:dZ A) (F:A.length<=200) {l:List fI} (B:l.length<4611686018427387904) (C:∀y∈l,y.2.2.1.length<4611686018427387904)
include D F B C
theorem Rj:sc ((A,()),l,())=some ((open Classical in if lj A l then 0 else 211),()):=by
 classical
 have O:=D.hc F;unfold sc;simp only[yG A O,qk.2 ⟨F,D⟩,aG,bH,decide_true,eS,cond_false];obtain⟨⟨am,I,⟨⟩⟩,K,t,z⟩:=P1 l F B;simp only at t z;simp only[K,aG,rS];by_cases f:kP A.length l
 ·have w:=t.2 f;have S:=z f;subst w S;simp only[eS,show(false==false)=true from rfl,cond_true,P8 F B f C,aG];by_cases i:∀b,(c:b<l.length)->gP A.length l[b]
  ·simp only[i,implies_true,not_true_eq_false,decide_false,cond_false,aG,P9 F B f C i];by_cases n:∀b,(c:b<l.length)->fQ l l[b]
   ·simp only[n,implies_true,not_true_eq_false,decide_false,cond_false];have u:lj A l↔∀a,0<=a->a<A.length->∀c:a<A.length,∀b,0<=b->b<A[a].length->∀d:b<A[a].length,A[a][b]<=(a:Int)->(a:Int)∈j2 l (fG (bI l) A[a][b].toNat l.length):=by
     constructor
     ·rintro⟨_,_,_,L⟩ a _ _ c b _ _ d E;have W:=(D.asc a c).2 _ (bD d);obtain⟨e,p⟩:∃e:Nat,A[a][b]=(e:Int):=⟨A[a][b].toNat,U⟩;have q:dT A a e:=⟨c,p▸bD d⟩;have Z:=q.ne D;rw[p,bY];exact L e a (dT.symm D _ _ q) U
     intro c;refine⟨f,i,n,λe a q Y=>?_⟩;have x:=dT.symm D _ _ q;obtain⟨b,d,k⟩:=gD.1 x.2;have:=c a (bM _) x.1 x.1 b (bM _) d d U;rw[k,bY] at this;exact this
    rw[show(if lj A l then(0:Int) else 211)=if(∀a,0<=a->a<A.length->∀c:a<A.length,∀b,0<=b->b<A[a].length->∀d:b<A[a].length,A[a][b]<=(a:Int)->(a:Int)∈j2 l (fG (bI l) A[a][b].toNat l.length)) then 0 else 211 from by simp only[u]];refine ak (qR (τ:=ac8×Unit) A.length (λa=>∀c:a<A.length,∀b,0<=b->b<A[a].length->∀d:b<A[a].length,A[a][b]<=(a:Int)->(a:Int)∈j2 l (fG (bI l) A[a][b].toNat l.length)) (aF A.length (λj=>fG (bI l) j l.length),()) (.inl ()) (.inr (211,())) 0 rfl (bM _) ?_ ?_) ?_
    ·intro a _ o _;have P:=dW (a9 o);have ad:=D.rows _ (bD o);simp(disch:=omega) only[bj,aj,P,aG];refine ak (qR (τ:=ac8×Unit) A[a].length (λb=>∀d:b<A[a].length,A[a][b]<=(a:Int)->(a:Int)∈j2 l (fG (bI l) A[a][b].toNat l.length)) (aF A.length (λj=>fG (bI l) j l.length),()) (.inl (aF A.length (λj=>fG (bI l) j l.length),())) (.inr (.inr (.inr (211,())))) 0 rfl (bM _) ?_ ?_) ?_
     ·intro b _ d _;have Q:=dW (a9 d);have W:=(D.asc a o).2 _ (bD d);obtain⟨e,p⟩:∃e:Nat,A[a][b]=(e:Int):=⟨A[a][b].toNat,U⟩;simp(disch:=omega) only[aj,Q,aG,p,d,forall_const,bY];by_cases y:(e:Int)>(a:Int)
      ·have:(e:Int)<=(a:Int)->(a:Int)∈j2 l (fG (bI l) e l.length):=λc=>U;rw[aj y,aj this];simp(disch:=omega) only[aG,hn]
      obtain⟨h,g,T,V⟩:=zn f (U:e<A.length);have R:fG (bI l) e l.length=(h:Int):=zo (m:=l.length) (λb d=>⟨d,f.1 b d⟩) g T V l.length g (a6 _);have J:ax l (h:Int)=some l[h]:=dW (a9 g);have M:l[h].2.2.1.Pairwise (· < ·):=(by have:=(f.1 h g).at g;exact(i h g).asc U U);obtain⟨X,N⟩:=G0 (v:=(a:Int)) (C _ (bD g)) M;rw[ag y];simp(disch:=omega) only[BC,aG,R,J,N,vk g];have E:(e:Int)<=(a:Int):=U;by_cases G:(a:Int)∈l[h].2.2.1
      ·simp(disch:=omega) only[G,decide_true,eS,cond_false,aG,implies_true,if_true,hn]
      simp(disch:=omega) only[G,E,decide_false,fW,cond_true,aG,forall_const,if_false]
     ·intro _;simp(disch:=omega) only[ag]
     have k:(∀c:a<A.length,∀b,0<=b->b<A[a].length->∀d:b<A[a].length,A[a][b]<=(a:Int)->(a:Int)∈j2 l (fG (bI l) A[a][b].toNat l.length))↔(∀b,0<=b->b<A[a].length->∀d:b<A[a].length,A[a][b]<=(a:Int)->(a:Int)∈j2 l (fG (bI l) A[a][b].toNat l.length)):=⟨λs=>s o,λs _=>s⟩;by_cases r:∀b,0<=b->b<A[a].length->∀d:b<A[a].length,A[a][b]<=(a:Int)->(a:Int)∈j2 l (fG (bI l) A[a][b].toNat l.length)
     ·simp(disch:=omega) only[aj r,aj (k.2 r),hn]
     simp only[ag r,ag (λc=>r (k.1 c))]
    ·intro _;simp(disch:=omega) only[bj,ag]
    by_cases H:lj A l
    ·simp only[aj (u.1 H)]
    simp only[ag (λc=>H (u.2 c))]
   have:¬lj A l:=λc=>n c.2.2.1;simp only[n,not_false_eq_true,decide_true,cond_true,ag this]
  have:¬lj A l:=λc=>i c.2.1;simp only[i,not_false_eq_true,decide_true,cond_true,ag this,aG]
 have w:I=false:=by
  cases I
  ·rfl
  exact absurd (t.1 rfl) f
 have:¬lj A l:=λc=>f c.1;simp only[w,fW,show(true==false)=false from rfl,cond_false,ag this,aG]
end
def XW {n:Nat} {x:fI} (p:0<=x.1) (q:x.1<x.2.1) (C:x.2.1<=(n:Int)):gP n x↔x.2.2.1.Pairwise (· < ·)/\∃(b:(x.2.1-x.1).toNat<=x.2.2.1.length),x.2.2.1[0]'(by omega)=x.1/\x.2.2.1[(x.2.1-x.1).toNat-1]'(by omega)=x.2.1-1/\x.2.2.1[x.2.2.1.length-1]'(by omega)<(n:Int):=by
 obtain⟨i,z⟩:∃i:Nat,x.2.1-x.1=(i:Int):=⟨(x.2.1-x.1).toNat,U⟩;have A:(x.2.1-x.1).toNat=i:=U;constructor
 ·intro b;refine⟨b.asc p q,b.1,?_,?_,?_⟩
  ·have:=(b.2 0 (bM _) (by have:=b.1;omega) (by have:=b.1;omega)).1 U;omega
  ·have:=(b.2 ((x.2.1-x.1).toNat-1) (bM _) (by have:=b.1;omega) (by have:=b.1;omega)).1 U;omega
  have B:=b.1;have l:=b.2 (x.2.2.1.length-1) (bM _) U U;rcases bn (x.2.2.1.length-1) (x.2.1-x.1).toNat with e|e
  ·have v:=l.1 e;omega
  exact(l.2 e).2.1
 rintro⟨t,B,w,y,r⟩;have g:∀a f,(c:a<x.2.2.1.length)->(k:f<x.2.2.1.length)->a<f->x.2.2.1[a]<x.2.2.1[f]:=λa f c k s=>(ga.1 t) a f c k s;have m:∀d a,(c:a+d<x.2.2.1.length)->x.2.2.1[a]+(d:Int)<=x.2.2.1[a+d]:=by
  intro d
  induction d with
  |zero=>intro a c;simp
  |succ d u=>
   intro a c;have aw:=u a U;have o:=g (a+d) (a+(d+1)) U c U;omega
 refine⟨B,λa _ _ c=>⟨λe=>?_,λe=>⟨?_,?_,?_⟩⟩⟩
 ·have aw:=m a 0 U;have o:=m ((x.2.1-x.1).toNat-1-a) a U;have h:a+((x.2.1-x.1).toNat-1-a)=(x.2.1-x.1).toNat-1:=U;simp only[h,hE] at aw o;omega
 ·have v:=g ((x.2.1-x.1).toNat-1) a U c U;omega
 ·rcases bn a (x.2.2.1.length-1) with j|j
  ·have:=g a (x.2.2.1.length-1) c U j;omega
  have h:a=x.2.2.1.length-1:=U;subst h;exact r
 exact g (a-1) a U c U
section
variable {A:acX} (D:dZ A) (F:A.length<=200) {l:List fI} (B:l.length<4611686018427387904) (C:∀y∈l,y.2.2.1.length<4611686018427387904)
theorem JF (g:kP i l) (B:l.length<4611686018427387904) (s:a<l.length) (q:bI l a<=b) (r:b<bI l (a+1)):w3 (l,(b:Int),())=some ((a:Int),()):=by
 unfold w3;rw[<-ac.eq_iff];refine ac.aU (P:=λj=>j=.inr ((a:Int),())) ?_ (by rintro _ rfl;exact ac.af.2 rfl);refine ac.for (a+1) (λc _=>c<=a) (i0:=0) rfl (bM _) (bM _) ?_ ?_
 ·rintro c ⟨⟩ _ d _;have e:c<l.length:=U;have h:=dW (a9 e);obtain⟨k,n,o,p⟩:=(g.1 c e).at e;simp(disch:=omega) only[bj,aj,h,aG,wd];rcases bn c a with f|f
  ·have:=Ic (m:=l.length) (λc d=>⟨d,g.1 c d⟩) (c+1) a U U;rw[aj U,ay U];simp only[aG,cond_false];exact ac.af.2 ⟨hn U,U⟩
  obtain rfl:c=a:=U;rw[aj U,aA U];exact ac.af.2 rfl
 rintro⟨⟩ f;omega
include D F B C
theorem Xd:r9 ((A,()),l,())=some ((open Classical in if lj A l then 0 else 211),()):=by
 classical
 have an:=D.hc F;unfold r9;simp only[x9 A an,qk.2 ⟨F,D⟩,aG,bH,decide_true,eS,cond_false];rw[<-ac.eq_iff];refine ac.aU (P:=λu=>match u with|.inl G=>(∀a,a<l.length->l0 A.length l a)/\G.1=(bI l l.length:Int)|.inr G=>¬kP A.length l/\G=(211,())) ?_ ?_
 ·refine ac.count (λa4=>a4.2.1) l.length (λa a4=>(∀d,d<a->d<l.length->l0 A.length l d)/\a4.1=(bI l a:Int)) (i0:=0) rfl ⟨λd b=>by omega,rfl⟩ (bM _) ?_ ?_
  ·rintro a ⟨ce,ex,⟨⟩⟩ _ e v ⟨L,p⟩;simp only at v p;subst v p;have N:=dW (a9 e);have am:¬(l[a].1=(bI l a:Int)/\(bI l a:Int)<l[a].2.1/\l[a].2.1<=(A.length:Int))->¬kP A.length l:=λb an=>by
    obtain⟨fz,q,r⟩:=an.1 a e;rw[a9 e] at q;simp only[bF] at q;subst q;exact b r
   simp(disch:=omega) only[bj,aj,N,aG];by_cases o:l[a].1=(bI l a:Int)
   ·simp only[aA o,eS,show(false==false)=true from rfl,cond_true,rS];by_cases X:l[a].2.1<=(bI l a:Int)
    ·rw[aj X];exact ac.af.2 ⟨am (λb=>by omega),rfl⟩
    rw[ag X];by_cases Y:l[a].2.1>(A.length:Int)
    ·rw[aj Y];exact ac.af.2 ⟨am (λb=>by omega),rfl⟩
    rw[ag Y];have co:l0 A.length l a:=⟨l[a],a9 e,o,U,U⟩;obtain⟨q,r,J,s⟩:=co.at e;refine ac.af.2 ⟨hn U,λd H b=>?_,r⟩;rcases bn d a with ci|ci
    ·exact L d ci b
    obtain rfl:d=a:=U;exact co
   simp only[ay o,fW,show(true==false)=false from rfl,cond_false,aG];exact ac.af.2 ⟨am (λb=>o b.1),rfl⟩
  rintro⟨ce,ex,⟨⟩⟩ v ⟨L,p⟩;simp only at v p;subst v p;simp(disch:=omega) only[bj,ag];exact ac.af.2 ⟨λa e=>L a e e,rfl⟩
 rintro(⟨ce,⟨⟩⟩|G) b
 rotate_left
 ·obtain⟨q,rfl⟩:=b;exact ac.af.2 (by rw[ag (λb=>q b.1)])
 obtain⟨L,p⟩:=b;simp only at p;subst p;simp only;by_cases ad:bI l l.length=A.length
 rotate_left
 ·have:¬((bI l l.length:Int)=(A.length:Int)):=U;simp only[ay this,fW,cond_true];exact ac.af.2 (by rw[ag (λb=>ad b.1.2)])
 have t:kP A.length l:=⟨L,ad⟩;simp only[ad,decide_true,eS,cond_false];refine ac.aU (P:=λu=>match u with|.inl _=>(∀a,(b:a<l.length)->gP A.length l[a])/\(∀a,(b:a<l.length)->fQ l l[a])|.inr G=>¬((∀a,(b:a<l.length)->gP A.length l[a])/\(∀a,(b:a<l.length)->fQ l l[a]))/\G=(211,())) ?_ ?_
 ·refine ac.of_eq (qR (τ:=Unit) l.length (λa=>∀b:a<l.length,gP A.length l[a]/\fQ l l[a]) () (.inl ()) (.inr (211,())) 0 rfl (bM _) ?_ ?_) ?_
  ·intro a _ e _;have N:=dW (a9 e);obtain⟨o,X,Y,fT⟩:=(t.1 a e).at e;have d9:=C _ (bD e);have I:=XW (n:=A.length) (x:=l[a]) U U U;have el:(∀b:a<l.length,gP A.length l[a]/\fQ l l[a])↔(gP A.length l[a]/\fQ l l[a]):=⟨λb=>b e,λb _=>b⟩;simp(disch:=omega) only[bj,aj,N,aG];simp only[el];obtain⟨f,p⟩:∃f:Nat,l[a].2.1-l[a].1=(f:Int):=⟨(l[a].2.1-l[a].1).toNat,U⟩;have av:(l[a].2.1-l[a].1).toNat=f:=U;have em:IntKind.i64.wrap (l[a].2.1-1)=l[a].2.1-1:=wrap64 U U;simp(disch:=omega) only[p,yz,GY _ d9,aG,rS,em];by_cases T:l[a].2.2.1.Pairwise (· < ·)
   rotate_left
   ·have:¬(gP A.length l[a]/\fQ l l[a]):=λb=>T (I.1 b.1).1;rw[ag this,ay T];rfl
   rw[aA T];simp only[eS,show(false==false)=true from rfl,cond_true];by_cases bl:f<=l[a].2.2.1.length
   rotate_left
   ·have:¬(gP A.length l[a]/\fQ l l[a]):=λb=>bl (by have:=b.1.1;omega);rw[ag this,aj U];rfl
   rw[ag U];have d2:ax l[a].2.2.1 0=some (l[a].2.2.1[0]'(by omega)):=dW (i:=0) (a9 U)
   have d3:ax l[a].2.2.1 (IntKind.i64.wrap ((f:Int)-1))=some (l[a].2.2.1[f-1]'(by omega)):=by rw[yB U U];exact dW (a9 U)
   have d4:ax l[a].2.2.1 (IntKind.i64.wrap ((l[a].2.2.1.length:Int)-1))=some (l[a].2.2.1[l[a].2.2.1.length-1]'(by omega)):=by rw[yB U U];exact dW (a9 U)
   simp only[av] at I;simp only[d2,d3,d4,aG];by_cases V:l[a].2.2.1[0]'(by omega)=l[a].1
   rotate_left
   ·have:¬(gP A.length l[a]/\fQ l l[a]):=λb=>(by obtain⟨_,_,u,_⟩:=I.1 b.1;exact V u);rw[ag this,ay V];rfl
   rw[aA V];simp only[eS,show(false==false)=true from rfl,cond_true];by_cases W:l[a].2.2.1[f-1]'(by omega)=l[a].2.1-1
   rotate_left
   ·have:¬(gP A.length l[a]/\fQ l l[a]):=λb=>(by obtain⟨_,_,_,u,_⟩:=I.1 b.1;exact W u);rw[ag this,ay W];rfl
   rw[aA W];simp only[eS,show(false==false)=true from rfl,cond_true];by_cases d0:l[a].2.2.1[l[a].2.2.1.length-1]'(by omega)>=(A.length:Int)
   ·have:¬(gP A.length l[a]/\fQ l l[a]):=λb=>(by obtain⟨_,_,_,_,u⟩:=I.1 b.1;omega);rw[ag this,aj d0];rfl
   have M:gP A.length l[a]:=I.2 ⟨T,bl,V,W,U⟩;rw[ag d0];simp only[aG];by_cases q:l[a].2.2.1.length=f
   ·rw[ag U];simp only[aG];by_cases k:l[a].2.2.2.1=-1
    ·have w:fQ l l[a]:=.inl ⟨U,k⟩;simp only[aA k,eS,cond_false];rw[aj ⟨M,w⟩];have:loop (σ:=c1) (ρ:=ch) (λbs=>if bs.1<(l[a].2.2.1.length:Int) then(ax l (-1)).bind λfp=>(ax l[a].2.2.1 bs.1).bind λfs=>(qr (fp.2.2.1,fs,())).bind λft=>bif !ft.1 then some (.inr (.inr (.inr (.inr (.inr (211,())))))) else some (.inl (IntKind.i64.wrap (bs.1+1),())) else some (.inr (.inl ()))) ((f:Int),())=some (.inl ()):=by
      rw[uW];exact⟨1,by simp only[hN];rw[ag U]⟩
     rw[this];simp(disch:=omega) only[aG,hn]
    have w:¬fQ l l[a]:=λb=>by
     rcases b with b|⟨b,_⟩
     ·exact k b.2
     omega
    simp only[ay k,fW,cond_true];rw[ag (λb=>w b.2)];rfl
   have r:f<l[a].2.2.1.length:=U;have f3:=(M.2 f (bM _) r r).2 U;obtain⟨R,a3⟩:∃R:Nat,l[a].2.2.1[f]=(R:Int):=⟨(l[a].2.2.1[f]).toNat,U⟩;have eq:R<A.length:=U;have d5:ax l[a].2.2.1 (f:Int)=some (R:Int):=(by rw[<-a3];exact dW (a9 r));obtain⟨j,g,O,Q⟩:=zn t eq;have S:fG (bI l) R l.length=(j:Int):=zo (m:=l.length) (λa e=>⟨e,t.1 a e⟩) g O Q l.length g (a6 _);have Z:ax l (j:Int)=some l[j]:=dW (a9 g);rw[aj U];simp only[d5,aG,JF t B g O Q];have a0:=C _ (bD g);by_cases k:l[a].2.2.2.1=(j:Int)
   ·have cs:fQ l l[a]↔∀d,f<=d->d<l[a].2.2.1.length->l[a].2.2.1.getD d 0∈l[j].2.2.1:=by
     unfold fQ;rw[av];constructor
     ·rintro(b|⟨b,aw,fn⟩)
      ·omega
      intro d J s;have:=fn d J s;rw[k,vk g] at this;simp only[List.getD,a9 s,ig];exact this
     intro b;refine .inr ⟨r,by rw[a3,bY,S,k],λd J s=>?_⟩;rw[k,vk g];have:=b d J s;simp only[List.getD,a9 s,ig] at this;exact this
    simp only[aA k,eS,cond_false];refine ak (y:=if fQ l l[a] then .inl () else .inr (.inr (.inr (211,())))) ?_ ?_
    ·refine ak (qR (τ:=Unit) l[a].2.2.1.length (λd=>l[a].2.2.1.getD d 0∈l[j].2.2.1) () (.inl ()) (.inr (.inr (.inr (.inr (211,()))))) f rfl bl ?_ ?_) ?_
     ·intro d J s _;have d6:ax l[a].2.2.1 (d:Int)=some (l[a].2.2.1.getD d 0):=by
       refine dW ?_;simp only[List.getD,a9 s,ig]
      rw[aj U,Z,d6];simp only[aG,yK _ _ a0];by_cases E:l[a].2.2.1.getD d 0∈l[j].2.2.1
      ·simp(disch:=omega) only[E,decide_true,eS,cond_false,if_true,hn]
      simp only[E,decide_false,fW,cond_true,if_false]
     ·intro _;rw[ag U]
     by_cases h:fQ l l[a]
     ·simp only[aj h,aj (cs.1 h)]
     simp only[ag h,ag (λb=>h (cs.2 b))]
    by_cases h:fQ l l[a]
    ·rw[aj h,aj ⟨M,h⟩];simp(disch:=omega) only[hn]
    rw[ag h,ag (λb=>h b.2)]
   have w:¬fQ l l[a]:=λb=>by
    rcases b with b|⟨b,aw,_⟩
    ·omega
    simp only[av] at aw;rw[a3,bY,S] at aw;exact k aw
   simp only[ay k,fW,cond_true];rw[ag (λb=>w b.2)];rfl
  ·intro _;simp(disch:=omega) only[bj,ag]
  by_cases K:∀d,0<=d->d<l.length->∀b:d<l.length,gP A.length l[d]/\fQ l l[d]
  ·rw[aj K];exact⟨λa b=>(K a (bM _) b b).1,λa b=>(K a (bM _) b b).2⟩
  rw[ag K];exact⟨λb=>K (λd _ _ H=>⟨b.1 d H,b.2 d H⟩),rfl⟩
 rintro(⟨⟩|G) b
 rotate_left
 ·obtain⟨q,rfl⟩:=b;exact ac.af.2 (by rw[ag (λb=>q ⟨b.2.1,b.2.2.1⟩)])
 obtain⟨M,w⟩:=b;simp only;have dl:lj A l↔∀c,0<=c->c<A.length->∀a,0<=a->a<(A.getD c []).length->(c:Int)<(A.getD c []).getD a 0->(A.getD c []).getD a 0∈j2 l (fG (bI l) c l.length):=by
  constructor
  ·rintro⟨_,_,_,d7⟩ c _ b a _ e ap;simp only[List.getD,a9 b,ig] at e ap|-;simp only[a9 e,ig] at ap|-;have f1:=(D.asc c b).2 _ (bD e);obtain⟨d,H⟩:∃d:Nat,A[c][a]=(d:Int):=⟨A[c][a].toNat,U⟩;rw[H] at ap|-;exact d7 c d ⟨b,H▸bD e⟩ U
  intro b;refine⟨t,M,w,λc d ek f0=>?_⟩;obtain⟨z,E⟩:=ek;obtain⟨a,e,v⟩:=gD.1 E;have:=b c (bM _) z a (bM _);simp only[List.getD,a9 z,ig] at this;have:=this e;simp only[a9 e,ig,v] at this;exact this U
 refine ac.of_eq (y:=(if lj A l then(0:Int) else 211,())) ?_ rfl;refine ak (qR (τ:=Unit) A.length (λc=>∀a,0<=a->a<(A.getD c []).length->(c:Int)<(A.getD c []).getD a 0->(A.getD c []).getD a 0∈j2 l (fG (bI l) c l.length)) () (.inl ()) (.inr (211,())) 0 rfl (bM _) ?_ ?_) ?_
 ·intro c _ z _;have cv:=dW (a9 z);have f2:=D.rows _ (bD z);have d8:A.getD c []=A[c]:=(by simp only[List.getD,a9 z,ig]);simp(disch:=omega) only[bj,aj,d8];obtain⟨j,g,O,Q⟩:=zn t z;have S:fG (bI l) c l.length=(j:Int):=zo (m:=l.length) (λa e=>⟨e,t.1 a e⟩) g O Q l.length g (a6 _);have Z:ax l (j:Int)=some l[j]:=dW (a9 g);have a0:=C _ (bD g);refine ak (qR (τ:=Unit) A[c].length (λa=>(c:Int)<A[c].getD a 0->A[c].getD a 0∈j2 l (fG (bI l) c l.length)) () (.inl ()) (.inr (.inr (.inr (211,())))) 0 rfl (bM _) ?_ ?_) ?_
  ·intro a _ e _;have N:ax A[c] (a:Int)=some (A[c].getD a 0):=by
    refine dW ?_;simp only[List.getD,a9 e,ig]
   simp(disch:=omega) only[cv,aG,aj,N,wd];by_cases o:A[c].getD a 0>(c:Int)
   ·have d1:(c:Int)<A[c].getD a 0:=o;rw[aj o];simp only[JF t B g O Q,aG,Z,yK _ _ a0,S,vk g,d1,forall_const];by_cases E:A[c].getD a 0∈l[j].2.2.1
    ·simp(disch:=omega) only[E,decide_true,eS,cond_false,aG,if_true,hn]
    simp only[E,decide_false,fW,cond_true,aG,if_false]
   have:(c:Int)<A[c].getD a 0->A[c].getD a 0∈j2 l (fG (bI l) c l.length):=λb=>absurd b o;rw[ag o,aj this];simp(disch:=omega) only[aG,hn]
  ·intro _;simp(disch:=omega) only[cv,aG,ag]
  by_cases ds:∀a,0<=a->a<A[c].length->(c:Int)<A[c].getD a 0->A[c].getD a 0∈j2 l (fG (bI l) c l.length)
  ·simp(disch:=omega) only[aj ds,hn]
  simp only[ag ds]
 ·intro _;simp(disch:=omega) only[bj,ag]
 by_cases h:lj A l
 ·simp only[aj h,aj (dl.1 h)]
 simp only[ag h,ag (λb=>h (dl.2 b))]
end
def N8 {A:acX} (b:∀l∈A,l.length<4611686018427387904) {l:List fI} (B:l.length<4611686018427387904) (C:∀c∈l,c.2.2.1.length<4611686018427387904):sc ((A,()),l,())=some (k4 A l,()):=by
 unfold k4;by_cases a:gw A=0
 ·obtain⟨F,D⟩:=qk.1 a;rw[ag (by simpa using a)];exact Rj D F B C
 rw[aj a];unfold sc;simp only[yG A b,aG,bH,ay a,fW,cond_true]
def N9 {A:acX} (b:∀l∈A,l.length<4611686018427387904) {l:List fI} (B:l.length<4611686018427387904) (C:∀c∈l,c.2.2.1.length<4611686018427387904):r9 ((A,()),l,())=some (k4 A l,()):=by
 unfold k4;by_cases a:gw A=0
 ·obtain⟨F,D⟩:=qk.1 a;rw[ag (by simpa using a)];exact Xd D F B C
 rw[aj a];unfold r9;simp only[x9 A b,aG,bH,ay a,fW,cond_true]
def G2 {A:acX} (a:∀l∈A,l.length<4611686018427387904) {l:List fI} (B:l.length<4611686018427387904) (C:∀b∈l,b.2.2.1.length<4611686018427387904):sc ((A,()),l,())=some (k4 A l,())/\r9 ((A,()),l,())=some (k4 A l,()):=
 ⟨N8 a B C,N9 a B C⟩
end
section
def gB (a:ac7):ac8:=a.map λ(b:Nat)=>(b:Int)
def KD (a b:ac7):gB (a++b)=gB a++gB b:=by simp[gB]
def u5 (a:ac7):(gB a).length=a.length:=by simp[gB]
section
variable {n:Nat} {f:Nat->Int} (A:Dc n f) (B:n<=200)
include A B
end
end
section
def nb {b:List o} (d:a<b.length) (c:o):b.getD a c=b[a]:=by simp only[List.getD,a9 d,ig]
section
variable {A:acX} (B:dZ A) (C:A.length<=200)
include B C
end
end
structure rE {α:Type} (lt:α->α->Bool):Prop where
 Pl:∀a b,lt a b=true->lt b a=false
 trans:∀a b c,lt b a=false->lt c b=false->lt c a=false
def rE.int:rE (λa b:Int=>decide (a<b)):=⟨λa b c=>by simp at c|-;omega,λa b f d e=>by simp at d e|-;omega⟩
def ts {b:Type} (g:b->b->Bool) (c:Nat->b) (e f:Nat):Prop:=∀d a,d<a->a<=e->a≠f->g (c a) (c d)=false
def rG {b:Type} (f:b->b->Bool) (c:Nat->b) (e:Nat):Prop:=∀d a,d<a->a<e->f (c a) (c d)=false
def swp {c:Type} (b:Nat->c) (a:Nat):Nat->c:=eI (eI b a (b (a-1))) (a-1) (b a)
def Nd (b:Nat->o) (c:Nat):swp b a c=if c=a-1 then b a else if c=a then b (a-1) else b c:=rfl
def ts.swp {k:Type} {h:k->k->Bool} (m:rE h) {f:Nat->k} {j a:Nat} (g:ts h f j a) (q:0<a) (r:a<=j) (n:h (f a) (f (a-1))=true):ts h (swp f a) j (a-1):=by
 intro e b p i o;rw[Nd,Nd,ag o];by_cases c:b=a
 ·subst c;rw[aj rfl];by_cases d:e=b-1
  ·rw[aj d];exact m.Pl _ _ n
  rw[ag d,ag U];exact g e (b-1) U U U
 rw[ag c];by_cases d:e=a-1
 ·rw[aj d];exact g a b U i c
 rw[ag d];by_cases l:e=a
 ·rw[aj l];exact g (a-1) b U i c
 rw[ag l];exact g e b p i c
def ts.done {e:o->o->Bool} (j:rE e) {d:Nat->o} (i:ts e d b a) (m:a<=b) (c:a=0\/e (d a) (d (a-1))=false):rG e d (b+1):=by
 intro g f l n;by_cases h:f=a
 ·subst h;rcases c with c|c
  ·omega
  by_cases k:g=f-1
  ·subst k;exact c
  exact j.trans _ _ _ (i g (f-1) U U U) c
 exact i g f l U h
def Ys {c:Nat->o} (g:0<a) (f:a<b):(aF b (swp c a)).Perm (aF b c):=by have d:a<(aF b c).length:=(by rw[bp];exact f);have e:a-1<(aF b c).length:=(by rw[bp];omega);have:=List.set_set_perm d e;rw[gx,gx,g3,g3] at this;exact this
def I8 [Inhabited o] (a:List o):a=aF a.length (λb=>a[b]?.getD default):=Rg a _ (λb c=>by simp[c])
def RY (b:ac8) (C:b.length<=1000):ac (Am (b,0,(b.length:Int),())) (λe=>∃a,e.1=aF b.length a/\rG (λf g=>decide (f<g)) a b.length/\e.1.Perm b):=by
 unfold Am;simp only[];generalize o:b.length=d at*;have u:IntKind.i64.wrap (0+1)=((1:Nat):Int):=(by rw[wrap64]<;>omega);rw[u];rcases h0 d with z|w
 ·subst z;refine ac.aU (P:=λe=>e.1=b) ?_ ?_
  ·refine ac.loop (λk=>k=(((1:Nat):Int),b,())) (λ_=>0) rfl ?_;rintro _ rfl;simp only[bj];rw[ag U];exact ac.af.2 rfl
  rintro⟨e,_⟩ rfl;refine ac.af.2 ⟨λ_=>0,?_,λp q r s=>by omega,List.Perm.refl _⟩;show e=[];exact lm o
 refine ac.aU (P:=λe=>∃a,e.1=aF d a/\rG (λf g=>decide (f<g)) a d/\e.1.Perm b) ?_ (λe y=>ac.af.2 y);refine ac.for d (λi A=>∃a,A=(aF d a,())/\rG (λf g=>decide (f<g)) a i/\(aF d a).Perm b) rfl ⟨λi=>b[i]?.getD default,?_,λp q r s=>by omega,?_⟩ w ?_ ?_
 ·rw[<-o,<-I8]
 ·rw[<-o,<-I8]
 ·rintro i _ r s ⟨a,rfl,j,h⟩;simp only[bj];rw[aj U];refine ac.aU (P:=λe=>∃a,e=(aF d a,())/\rG (λf g=>decide (f<g)) a (i+1)/\(aF d a).Perm b) ?_ ?_
  ·refine ac.loop (λk=>∃(c:Nat) (a:Nat->Int),k=((c:Int),aF d a,())/\c<=i/\ts (λf g=>decide (f<g)) a i c/\(aF d a).Perm b) (λk=>k.1.toNat) ⟨i,a,rfl,a6 _,λp q x E D=>j p q x U,h⟩ ?_;rintro _ ⟨c,a,rfl,n,m,h⟩;simp only[wd];by_cases t:0<c
   ·have B:c-1<d:=U;have v:c<d:=U;simp(disch:=omega) only[aj,bp,yB,eL,fv,aG,Hb,bj];by_cases l:a c<a (c-1)
    ·rw[aj l];simp(disch:=omega) only[aG,bp,yB,eL,fv,g3];refine ac.af.2 ⟨⟨c-1,swp a c,rfl,U,m.swp rE.int t n (by simpa using l),(Ys t v).trans h⟩,?_⟩;show((c-1:Nat):Int).toNat<((c:Nat):Int).toNat;omega
    rw[ag l];exact ac.af.2 ⟨a,rfl,m.done rE.int n (.inr (by simpa using l)),h⟩
   rw[ag U];exact ac.af.2 ⟨a,rfl,m.done rE.int n (.inl U),h⟩
  rintro _ ⟨a,rfl,j,h⟩;simp(disch:=omega) only[hn];exact ac.af.2 ⟨rfl,a,rfl,j,h⟩
 rintro _ ⟨a,rfl,j,h⟩;simp only[bj];rw[ag U];exact ac.af.2 ⟨a,rfl,j,h⟩
def rG.pairwise {b:Nat->Int} (e:rG (λc d=>decide (c<d)) b a):(aF a b).Pairwise (· <= ·):=by rw[ga];intro h i j g f;rw[gx,gx];have:=e h i f (by simpa[bp] using g);simpa using this
def Om (a:Nat) (c:a<=12):∃b,DP ((a:Int),())=some (b,()):=by
 have:a=0\/a=1\/a=2\/a=3\/a=4\/a=5\/a=6\/a=7\/a=8\/a=9\/a=10\/a=11\/a=12:=U;rcases this with rfl|rfl|rfl|rfl|rfl|rfl|rfl|rfl|rfl|rfl|rfl|rfl|rfl
 ·exact⟨0,by kernel_rfl⟩
 ·exact⟨1,by kernel_rfl⟩
 ·exact⟨2,by kernel_rfl⟩
 ·exact⟨2,by kernel_rfl⟩
 ·exact⟨3,by kernel_rfl⟩
 ·exact⟨3,by kernel_rfl⟩
 ·exact⟨3,by kernel_rfl⟩
 ·exact⟨3,by kernel_rfl⟩
 ·exact⟨4,by kernel_rfl⟩
 ·exact⟨4,by kernel_rfl⟩
 ·exact⟨4,by kernel_rfl⟩
 ·exact⟨4,by kernel_rfl⟩
 exact⟨4,by kernel_rfl⟩
def Wl (a:ac8) (c:Int) (j:a.length<=12):ac (Ao (a,0,(a.length:Int),c,())) (λb=>b.1.Pairwise (· <= ·)/\b.1.Perm a):=by obtain⟨b,g,i,f,e,d⟩:=RY a U;refine⟨b,?_,by rw[f];exact e.pairwise,d⟩;unfold Ao;dsimp only;rw[BO];dsimp only;have h:IntKind.i64.wrap ((a.length:Int)-0)=((a.length:Nat):Int):=(by rw[Int.sub_zero];exact yz U);simp only[h,bj];rw[if_pos U,g];rfl
def OH (a:ac8) (c:a.length<=12):ac (wH (a,())) (λb=>b.1.Pairwise (· <= ·)/\b.1.Perm a):=by unfold wH;simp only[];rw[NO _ U U];obtain⟨d,e⟩:=Om a.length c;rw[e];simp only[aG];exact ac.aU (Wl a d c) (λb f=>ac.af.2 f)
section
open Go
def P5 (p:c.Pairwise (· <= ·)):(Lib.compact c).length<c.length↔¬c.Nodup:=by
 have n:(Lib.compact c).length=((List.range c.length).filter (Lib.keeps c.toArray)).length:=(by simp[Lib.compact,Lib.compactUpTo]);have l:(∀a,a<c.length->Lib.keeps c.toArray a=true)↔c.Nodup:=by
  have j:∀a,(b:a<c.length)->(Lib.keeps c.toArray a=true↔a=0\/c[a]≠c[a-1]):=λa b=>(by have g:a-1<c.length:=U;simp[Lib.keeps,b,g]);constructor
  ·intro b;have o:c.Pairwise (· < ·):=by
    rw[x3];intro f i;have d:=(j (f+1) i).1 (b _ i);have g:=ga.1 p f (f+1) U i U;have q:c[f+1]≠c[f]:=by rcases d with d|d;omega;exact d
    omega
   exact o.imp (λb=>by omega)
  intro b a e;rw[j a e];by_cases k:a=0
  ·exact .inl k
  refine .inr λh=>?_;have:=(List.getElem_inj b).1 h;omega
 rw[<-l,n];have m:=hY (Lib.keeps c.toArray) (List.range c.length);rw[nP] at m;constructor
 ·intro b g;rw[l4.2 (λa e=>g a (gL.1 e)),nP] at b;omega
 intro b;rcases bn ((List.range c.length).filter (Lib.keeps c.toArray)).length c.length with d|d
 ·exact d
 refine absurd (λa e=>?_) b;have h:((List.range c.length).filter (Lib.keeps c.toArray)).length=(List.range c.length).length:=(by rw[nP];omega);exact List.length_filter_eq_length_iff.1 h a (gL.2 e)
def YN (a:ac8) (e:a.length<=12):zU (a,())=some (decide (¬a.Nodup),()):=by obtain⟨c,g,h,b⟩:=OH a e;have f:=b.length_eq;unfold zU yv;simp only[g,fd,aG];rw[show Nat.ble a.length 1000000=true from Nat.ble_eq_true_of_le U];simp only[cond_true];rw[show Nat.ble c.1.length 1000000=true from Nat.ble_eq_true_of_le U];simp only[cond_true,fd];have d:decide ((Lib.compact c.1).length<a.length)=decide (¬a.Nodup):=(by rw[decide_eq_decide,<-f,P5 h,b.nodup_iff]);rw[d]
def gz (a:Nat) (b:Nat->Nat->Bool):acV:=aF a λc=>aF a (b c)
def xF (a:Nat) (b:Nat->Nat->Bool):(gz a b).length=a:=bp a _
def uZ {d:Nat->Nat->Bool} (e:∀b c,b<a->c<a->k b c=d b c):gz a k=gz a d:=dy λb f=>dy λc g=>e b c f g
def Hd (a:Nat) (g:a<=4294967296):wy ((a:Int),())=some (gz a λ_ _=>false,()):=by
 unfold wy;simp only[];rw[gA g];simp only[aG];refine ak (y:=(gz a λ_ _=>false,())) (xD a (λc=>(aF a (λb=>if b<c then List.replicate a false else[]),())) 0 rfl ?_ (bM _) ?_ ?_) rfl
 ·rw[hu];simp
 ·intro c _ h;simp(disch:=omega) only[bp,mR,bj,aj,aG,eL,fv,g3,hn];congr 4;refine dy λb f=>?_;simp only[eI];by_cases d:b=c
  ·subst d;rw[aj rfl,aj U]
  rw[ag d];by_cases e:b<c
  ·rw[aj e,aj U]
  rw[ag e,ag U]
 simp only[mR,bj];rw[ag U];congr 2;refine congrArg (·,()) (dy λb f=>?_);rw[aj f,hu]
def G9 {n:Nat} {B:Nat->Nat->Bool} {i j:Nat} (o:i<n) (p:j<n):wB (gz n B,(i:Int),(j:Int),())=some (gz n (λb a=>B b a||(decide (i≠j)&&((decide (b=i)&&decide (a=j))||(decide (b=j)&&decide (a=i))))),()):=by
 unfold wB;simp only[bH];by_cases c:i=j
 ·subst c;simp only[decide_true,eS,cond_false];congr 2;exact uZ λb a _ _=>by simp
 rw[ay (U:¬((i:Int)=(j:Int)))];unfold gz;simp(disch:=omega) only[fW,cond_true,bp,eL,aG,fv,fd,g3];rw[show eI (λl=>aF n (B l)) i (aF n (eI (B i) j true)) j=aF n (B j) from iE _ _ (λf=>c f.symm)];simp(disch:=omega) only[bp,eL,aG,fv,fd,g3];congr 2;refine dy λb m=>?_;simp only[eI];by_cases d:b=j
 ·rw[aj d,d];refine dy λa k=>?_;simp only[eI];have h:¬j=i:=λf=>c f.symm;by_cases e:a=i
  ·simp[e,h,c]
  simp[e,h,c]
 rw[ag d];by_cases g:b=i
 ·subst g;rw[aj rfl];refine dy λa k=>?_;simp only[eI];by_cases e:a=j
  ·simp[e,c]
  simp[e,d]
 rw[ag g];refine dy λa k=>?_;simp[d,g]
def Oo (i:b<=4294967296) (f:a<b):zR (gz b k,(a:Int),())=some (gB ((List.range b).filter (k a)),()):=by
 unfold zR;simp only[];rw[show ax (gz b k) (a:Int)=some (aF b (k a)) from BC f];simp only[aG];refine ak (y:=(gB ((List.range b).filter (k a)),())) (xD b (λc=>(gB ((List.range c).filter (k a)),())) 0 rfl rfl (bM _) ?_ ?_) rfl
 ·intro c _ g;have h:(gB ((List.range c).filter (k a))).length<=c:=(by rw[u5];have:=hY (k a) (List.range c);simpa using this);have e:gB ((List.range (c+1)).filter (k a))=if k a c=true then gB ((List.range c).filter (k a))++[(c:Int)] else gB ((List.range c).filter (k a)):=by
   rw[kV,ln,KD];by_cases d:k a c=true<;>simp[d,gB]
  simp(disch:=omega) only[bp,bj,aj,BC,aG,hn];rw[e];by_cases d:k a c=true
  ·rw[aj d,d,er (by simp only[yR];omega)];rfl
  rw[ag d,Bool.eq_false_iff.2 d];rfl
 simp only[bp,bj];rw[ag U]
def iy (a:Nat) (b:Nat->Nat->Bool):acX:=aF a λc=>gB ((List.range a).filter (b c))
def G8 (g:a<=4294967296):wA (gz a k,())=some ((iy a k,()),()):=by
 unfold wA;simp only[xF];rw[gA g];simp only[aG];refine ak (y:=(([],()),(iy a k,()),())) (xD a (λc=>(([],()),(aF a (λb=>if b<c then gB ((List.range a).filter (k b)) else[]),()),())) 0 rfl ?_ (bM _) ?_ ?_) rfl
 ·rw[hu];simp
 ·intro c _ h;simp(disch:=omega) only[bj,aj,Oo,aG,bp,eL,fv,fd,g3,hn];congr 6;refine dy λb f=>?_;simp only[eI];by_cases d:b=c
  ·subst d;rw[aj rfl,aj U]
  rw[ag d];by_cases e:b<c
  ·rw[aj e,aj U]
  rw[ag e,ag U]
 simp only[bj];rw[ag U];have:(aF a λb=>if b<a then gB ((List.range a).filter (k b)) else[])=iy a k:=dy λb f=>(by rw[aj f]);rw[this]
end
section
open Go
def dG (a:ac8) (b:Nat):Prop:=a.length=b/\(∀c∈a,0<=c/\c<(b:Int))/\a.Nodup
open Classical in
def Ox (a:ac8) (d:Nat) (D:d<=4294967296):At (a,(d:Int),())=some (decide (dG a d),()):=by
 unfold At;simp only[bH];by_cases t:a.length=d
 ·rw[aA (U:(((a.length:Nat):Int)=(d:Int)))];simp only[eS,cond_false,gA D,aG,hu];rw[<-ac.eq_iff];refine ac.aU (P:=λm=>match m with|.inl _=>dG a d|.inr F=>F=(false,())/\¬dG a d) ?_ ?_
  ·refine ac.for d (λb G=>G=(aF d (λn=>decide ((n:Int)∈a.take b)),())/\(∀e,(c:e<a.length)->e<b->0<=a[e]/\a[e]<(d:Int))/\(a.take b).Nodup) (i0:=0) rfl ⟨ab,λe _ c=>by omega,ab⟩ (bM _) ?_ ?_
   ·rintro b _ _ J ⟨rfl,l,h⟩;have j:b<a.length:=U;have s:ax a (b:Int)=some a[b]:=dW (a9 j);have v:a[b]∈a:=bD j;simp(disch:=omega) only[bj,aj,s,aG,rS];by_cases o:a[b]<0
    ·rw[aj o];exact ac.af.2 ⟨rfl,λc=>by have:=c.2.1 _ v;omega⟩
    rw[ag o];by_cases p:a[b]>=(d:Int)
    ·rw[aj p];exact ac.af.2 ⟨rfl,λc=>by have:=c.2.1 _ v;omega⟩
    rw[ag p];obtain⟨f,i⟩:∃f:Nat,a[b]=(f:Int):=⟨a[b].toNat,U⟩;have L:f<d:=U;rw[i];simp(disch:=omega) only[bp,eL,aG,fv,bj];by_cases g:(f:Int)∈a.take b
    ·rw[aj g];refine ac.af.2 ⟨rfl,λc=>?_⟩;obtain⟨x,C,u⟩:=gD.1 g;simp only[dS] at C;simp only[vN] at u;have:=(List.getElem_inj c.2.2).1 (u.trans i.symm);omega
    rw[ag g];simp(disch:=omega) only[aG,s,i,bp,eL,fv,g3,hn];have w:a.take (b+1)=a.take b++[(f:Int)]:=(by rw[<-mJ j,i]);refine ac.af.2 ⟨rfl,?_,λe A K=>?_,?_⟩
    ·show((_,()):_×Unit)=_;refine congrArg (·,()) (dy λn _=>?_);simp only[eI];rw[w];by_cases c:n=f
     ·subst c;rw[aj rfl,aA (kU _ (List.mem_singleton_self _))]
     rw[ag c,decide_eq_decide,dX,ed];exact⟨.inl,λz=>z.resolve_right U⟩
    ·by_cases c:e=b
     ·subst c;omega
     exact l e A U
    rw[w,hC];refine⟨h,ab,λH q I r y=>?_⟩;rw[ed] at r;rw[y,r] at q;exact g q
   rintro _ ⟨rfl,l,h⟩;simp(disch:=omega) only[bj,ag];refine ac.af.2 ⟨t,λM E=>?_,?_⟩
   ·obtain⟨x,B,rfl⟩:=gD.1 E;exact l x B U
   rw[c8 U] at h;exact h
  rintro(m|m) k
  ·exact ac.af.2 (by rw[aA (show dG a d from k)])
  exact ac.af.2 (by rw[k.1,ay k.2])
 rw[ay (U:¬(((a.length:Nat):Int)=(d:Int)))];simp only[fW,cond_true];rw[ay (λc=>t c.1)]
def mF (a:acX) (b:ac8):Int:=open Classical in if gw a≠0 then gw a else if b.length≠a.length then 2 else if dG b a.length then 0 else 90
def Xe (d:∀i∈e,i.length<4611686018427387904) (a:ac8):wX ((e,()),a,())=some (if mF e a=0 then((h4 (h5 e a),()),0,()) else(([],()),mF e a,())):=by
 classical
 unfold wX mF;simp only[x9 e d,aG,bH];by_cases c:gw e=0
 ·obtain⟨h,g⟩:=qk.1 c;rw[aA c];simp only[eS,cond_false,c,ne_eq,not_true_eq_false,if_false];by_cases f:a.length=e.length
  ·rw[aA (U:(((a.length:Nat):Int)=((e.length:Nat):Int)))];simp only[eS,cond_false,f,not_true_eq_false,if_false];rw[Ox a e.length U];simp only[aG];by_cases b:dG a e.length
   ·rw[aA b];simp only[eS,cond_false,aj b,if_true];rw[Oj g d h b.2.1 b.2.2 U];rfl
   rw[ay b];simp only[fW,cond_true,ag b];rw[ag U]
  rw[ay (U:¬(((a.length:Nat):Int)=((e.length:Nat):Int)))];simp only[fW,cond_true,f,not_false_eq_true,if_true];rw[ag U]
 rw[ay c];simp only[fW,cond_true,c,ne_eq,not_false_eq_true,if_true,if_false]
def Zd (d:acX) (c:Int):zV ((d,()),c,())=some (decide (0<=c/\c<(d.length:Int)),()):=by
 unfold zV;simp only[wd];by_cases b:c>=0
 ·rw[aj b];congr 2;exact decide_eq_decide.2 ⟨λa=>⟨b,a⟩,λa=>a.2⟩
 rw[ag b,ay (λa=>b a.1)]
def Wd (e:acX) (a:ac8) (n:a.length<4611686018427387904):Aj (a,(some (e,()),()),())=some (decide (¬∀d∈a,0<=d/\d<(e.length:Int)),()):=by
 classical
 unfold Aj DW;simp only[];rw[<-ac.eq_iff];have h:(∀d∈a,0<=d/\d<(e.length:Int))↔∀c,c<a.length->∀b:c<a.length,0<=a[c]/\a[c]<(e.length:Int):=
  ⟨λb c _ f=>b _ (bD f),λb d m=>by obtain⟨c,f,rfl⟩:=gD.1 m;exact b c f f⟩
 refine ac.aU (P:=λj=>decide (j.1>=0)=decide (¬∀d∈a,0<=d/\d<(e.length:Int))) ?_ (λj l=>ac.af.2 (by rw[l]));refine ac.aU (Fa a.length (λc=>∀b:c<a.length,0<=a[c]/\a[c]<(e.length:Int)) ?_ ?_) ?_
 ·intro c f;simp(disch:=omega) only[bj,aj,dW (a9 f),aG,hn];unfold DN;simp only[aG,Zd];by_cases b:0<=a[c]/\a[c]<(e.length:Int)
  ·rw[aA b,aj (λ_=>b)];rfl
  rw[ay b,ag (λk=>b (k f))];rfl
 ·simp(disch:=omega) only[bj,ag]
 rintro(i|i) g
 ·refine ac.af.2 ?_;rw[ay aa,ay (λb=>b (h.2 g))]
 refine ac.af.2 ?_;rw[aA (show i.1>=0 from g.1),aA (show¬∀d∈a,0<=d/\d<(e.length:Int) fromλb=>g.2 (h.1 b))]
def Oz (j:∀n∈e,n.length<4611686018427387904) (a:ac8) (l:e.length<=200->dZ e->e.length<=12) (m:a.length<4611686018427387904):zQ ((e,()),a,())=some (mF e a,()):=by
 classical
 unfold zQ mF;simp only[yG e j,aG,bH];by_cases b:gw e=0
 ·obtain⟨k,i⟩:=qk.1 b;have o:=l k i;rw[aA b];simp only[eS,cond_false,b,ne_eq,not_true_eq_false,if_false];by_cases g:a.length=e.length
  ·rw[aA (U:(((a.length:Nat):Int)=((e.length:Nat):Int)))];simp only[eS,cond_false,g,not_true_eq_false,if_false];rw[Wd e a m];simp only[aG];by_cases c:∀h∈a,0<=h/\h<(e.length:Int)
   ·rw[ay (not_not_intro c)];simp only[beq_self_eq_true,cond_true];rw[YN a U];simp only[aG,bj];by_cases d:a.Nodup
    ·rw[ag (not_not_intro d),aj ⟨g,c,d⟩]
    rw[aj d,ag (λf=>d f.2.2)]
   rw[aA c,ag (λf=>c f.2.1)];rfl
  rw[ay (U:¬(((a.length:Nat):Int)=((e.length:Nat):Int)))];simp only[fW,cond_true,g,not_false_eq_true,if_true]
 rw[ay b];simp only[fW,cond_true,b,ne_eq,not_false_eq_true,if_true]
end
section
open Go
def oi (c:acX) (a:ac8) (b d:Nat):Bool:=decide (a.getD d 0∈c.getD (a.getD b 0).toNat [])
def JL (r:dZ e) (n:∀d∈c,0<=d/\d<(e.length:Int)) (l:a<c.length) (m:b<c.length):oi e c a b=oi e c b a:=by have j:=n _ (bD l);have k:=n _ (bD m);have p:∀d f:Int,0<=d/\d<(e.length:Int)->0<=f/\f<(e.length:Int)->f∈e.getD d.toNat []->d∈e.getD f.toNat []:=λd f t u i=>(by obtain⟨g,rfl⟩:∃g:Nat,d=(g:Int):=⟨d.toNat,U⟩;obtain⟨h,rfl⟩:∃h:Nat,f=(h:Int):=⟨f.toNat,U⟩;simp only[bY] at i|-;have o:g<e.length:=U;have s:h<e.length:=U;rw[nb o] at i;obtain⟨_,q⟩:=dT.symm r g h ⟨o,i⟩;rw[nb s];exact q);unfold oi;rw[nb l,nb m];exact decide_eq_decide.2 ⟨p _ _ j k,p _ _ k j⟩
def Ry (i:dZ e) (j:∀g∈c,0<=g/\g<(e.length:Int)):iy c.length (λd f=>decide (d≠f)&&oi e c d f)=h4 (h5 e c):=by unfold iy h4;rw[uN];refine hZ λk a=>?_;have a:=gL.1 a;unfold gB kH;refine congrArg _ (vL λl b=>?_);have b:=gL.1 b;rw[zi a b,zi b a];have:=JL i j a b;unfold oi at this|-;rw[<-this,Bool.or_self];by_cases h:k=l<;>simp[h]
def RV (u:dZ e) (F:∀c∈e,c.length<4611686018427387904) (w:∀C∈c,0<=C/\C<(e.length:Int)) (K:c.length<=400):zT ((e,()),c,())=some ((h4 (h5 e c),()),()):=by
 generalize o:c.length=j at*
 let i:Nat->Nat->Nat->Nat->Bool:=λa b d f=>decide (d≠f)&&(oi e c d f&&((decide (d<a)&&decide (f<a))||((decide (d=a)&&decide (f<b))||(decide (f=a)&&decide (d<b)))))
 unfold zT;simp only[o];rw[Hd j U];simp only[aG];refine ak (y:=(([],()),gz j (i j 0),())) (xD j (λa=>(([],()),gz j (i a 0),())) 0 rfl ?_ (bM _) ?_ ?_) ?_
 ·refine congrArg (λl=>(([],()),l,())) (uZ λd f _ _=>?_);simp[i]
 ·intro a _ I;have r:a<c.length:=U;have G:ax c (a:Int)=some c[a]:=dW (a9 r);have h:=w _ (bD r);obtain⟨k,s⟩:∃k:Nat,c[a]=(k:Int):=⟨c[a].toNat,U⟩;have t:k<e.length:=U;simp(disch:=omega) only[bj,aj,G,aG,q0,o,sA,fd,s,kS];have B:(c.take a).length=a:=(by rw[dS];omega);refine ak (y:=(([],()),gz j (i a a),())) (xD a (λb=>(([],()),gz j (i a b),())) 0 rfl rfl (bM _) ?_ ?_) ?_
  ·intro b _ J;have v:b<c.length:=U;have H:ax (c.take a) (b:Int)=some c[b]:=dW (by rw[kT J];exact a9 v);simp(disch:=omega) only[B,bj,aj,H,aG,hn];rw[ET e k c[b] t (F _ (bD t)) ((Dj e).1 u k t).1];simp only[aG,bj];have n:oi e c a b=decide (c[b]∈e[k]):=by
    unfold oi;rw[nb r,nb v,s,bY,nb t]
   have q:oi e c b a=decide (c[b]∈e[k]):=(by rw[<-n];exact JL u (by simpa[o] using w) v r);by_cases p:c[b]∈e[k]
   ·rw[aj p,G9 I U];simp only[aG];refine congrArg (λl=>some (Sum.inl (((b+1:Nat):Int),([],()),l,()))) (uZ λd f _ _=>?_);rw[aA p] at n q;simp only[i];rw[lZ];simp only[fX,bc,decide_eq_true_eq];constructor
    ·rintro(⟨h,g,m⟩|⟨h,⟨rfl,rfl⟩|⟨rfl,rfl⟩⟩)
     ·exact⟨h,g,U⟩
     ·exact⟨U,n,U⟩
     exact⟨U,q,U⟩
    rintro⟨h,g,m⟩;by_cases D:(d=a/\f=b)\/(d=b/\f=a)
    ·exact .inr ⟨U,D⟩
    exact .inl ⟨h,g,U⟩
   rw[ag p];simp only[aG];refine congrArg (λl=>some (Sum.inl (((b+1:Nat):Int),([],()),l,()))) (uZ λd f _ _=>?_);rw[ay p] at n q;simp only[i];rw[lZ];simp only[fX,bc,decide_eq_true_eq];constructor
   ·rintro⟨h,g,m⟩;exact⟨h,g,U⟩
   rintro⟨h,g,m⟩;refine⟨h,g,?_⟩;by_cases z:d=a/\f=b
   ·rw[z.1,z.2,n] at g;cases g
   by_cases A:d=b/\f=a
   ·rw[A.1,A.2,q] at g;cases g
   omega
  ·simp(disch:=omega) only[B,bj,ag]
  simp(disch:=omega) only[hn];refine congrArg (λl=>some (Sum.inl (((a+1:Nat):Int),([],()),l,()))) (uZ λd f _ _=>?_);simp only[i];rw[lZ];simp only[fX,bc,decide_eq_true_eq];constructor
  ·rintro⟨h,g,m⟩;exact⟨h,g,U⟩
  rintro⟨h,g,m⟩;exact⟨h,g,U⟩
 ·simp(disch:=omega) only[bj,ag]
 rw[G8 U];simp only[aG];have E:iy j (i j 0)=iy j (λd f=>decide (d≠f)&&oi e c d f):=(by refine dy λk s=>congrArg gB (vL λL x=>?_);have x:=gL.1 x;simp[i,s,x]);rw[E,<-o,Ry u (by simpa[o] using w)]
def OD (g:∀l∈e,l.length<4611686018427387904) (b:ac8) (j:e.length<=200->dZ e->e.length<=12) (k:b.length<4611686018427387904):wz ((e,()),b,())=some (if mF e b=0 then((h4 (h5 e b),()),0,()) else(([],()),mF e b,())):=by
 classical
 unfold wz;simp only[Oz g b j k,aG,bH];by_cases a:mF e b=0
 ·rw[aA a,aj a];simp only[eS,cond_false];have f:gw e=0:=by
   by_cases d:gw e=0
   ·exact d
   unfold mF at a;rw[aj d] at a;exact absurd a d
  obtain⟨m,i⟩:=qk.1 f;have c:dG b e.length:=by
   unfold mF at a;rw[ag (not_not_intro f)] at a;by_cases h:b.length=e.length
   ·rw[ag (not_not_intro h)] at a;by_cases c:dG b e.length
    ·exact c
    rw[ag c] at a;omega
   rw[aj h] at a;omega
  rw[RV i g c.2.1 (by have:=c.1;omega)];rfl
 rw[ay a,ag a];rfl
end
def iA (E:List bu) (b c:Nat):Bool:=E.any λa=>decide (a.1≠a.2.1)&&((decide ((b:Int)=a.1)&&decide ((c:Int)=a.2.1))||(decide ((b:Int)=a.2.1)&&decide ((c:Int)=a.1)))
def j3 (E:List bu) (b c:Nat):Bool:=E.any λa=>decide ((b:Int)=a.1)&&decide ((c:Int)=a.2.1)
def Dr {b:o->Bool} {E:List o} (c:a<E.length):(E.take (a+1)).any b=((E.take a).any b||b E[a]):=by rw[hD,a9 c,List.any_append];simp
def SJ (a:Nat) (d:Nat->Nat->Bool) (e:∀b c,d b c=false):(List.replicate a (List.replicate a false))=gz a d:=by unfold gz;rw[hu];refine dy λb _=>?_;rw[hu];exact dy λc _=>(e b c).symm
def H5 (c:b<a) (d:i<a):ff (gz a k) b i=k b i:=by unfold ff gz;rw[iH,iH,uH c];show(aF a (k b))[i]?.getD false=_;rw[uH d];rfl
def Jm (f:Nat) (d:Nat->Nat->Bool):h4 (gz f d)=iy f λb c=>b !=c&&(d b c||d c b):=by unfold h4;rw[xF];refine dy λb e=>?_;unfold kH gB;congr 1;refine vL λc a=>?_;have a:=gL.1 a;rw[H5 e a,H5 a e]
def JR {E:List bu} (e f:Nat):(e !=f&&(j3 E e f||j3 E f e))=iA E e f:=by
 induction E with
 |nil=>simp[j3,iA]
 |cons h E g=>
  unfold j3 iA at*;simp only[List.any_cons];rw[<-g,lZ];simp only[bc,fX,bne_iff_ne,decide_eq_true_eq];constructor
  ·rintro⟨d,(⟨b,c⟩|a)|(⟨b,c⟩|a)⟩
   ·exact .inl ⟨U,.inl ⟨b,c⟩⟩
   ·exact .inr ⟨d,.inl a⟩
   ·exact .inl ⟨U,.inr ⟨c,b⟩⟩
   exact .inr ⟨d,.inr a⟩
  rintro(⟨d,⟨b,c⟩|⟨b,c⟩⟩|⟨d,a|a⟩)
  ·exact⟨U,.inl (.inl ⟨b,c⟩)⟩
  ·exact⟨U,.inr (.inl ⟨c,b⟩)⟩
  ·exact⟨d,.inl (.inr a)⟩
  exact⟨d,.inr (.inr a)⟩
def Oa (f:ev a a g c h) (p:eA a a g c h=0):wx (((a:Int),(a:Int),g,c,h,()),())=some ((iy a (iA (bt g c h a)),()),0,()):=by
 have m:=(jL.1 p).1;have u:=sm m;have y:(bt g c h a).length<=10000:=(by rw[xb m a (Nat.le_refl _)];have:=m.pu a (Nat.le_refl _);have:=f.hi;omega);unfold wx;refine ak f.check ?_;dsimp only;rw[p,bH,aA rfl,bH,aA rfl];have x:=f.hc;refine ak (Hd a U) (ak (N4 f p) ?_);dsimp only;generalize bt g c h a=E at*;refine ac.eq_iff.1 ?_;refine ac.aU (P:=λv=>v=(([],()),gz a (iA E),())) ?_ ?_
 ·refine ac.steps E.length (λb w=>w=((b:Int),([],()),gz a (iA (E.take b)),E,())) rfl ?_ ?_
  ·rintro b _ o rfl;dsimp only;rw[bb (aA (show(b:Int)<ar E by simp only[aV];omega)),iZ o,bi U];have t:=u E[b] (List.getElem_mem o);obtain⟨d,q⟩:=Int.eq_ofNat_of_zero_le t.1;obtain⟨e,r⟩:=Int.eq_ofNat_of_zero_le t.2.2.1;have s:=G9 (n:=a) (B:=iA (E.take b)) (i:=d) (j:=e) U U;rw[<-q,<-r] at s;refine ac.bs s (ac.af.2 ?_);dsimp only;have:gz a (λk l=>iA (E.take b) k l||(decide (d≠e)&&((decide (k=d)&&decide (l=e))||(decide (k=e)&&decide (l=d)))))=gz a (iA (E.take (b+1))):=by
    refine uZ λz A _ _=>?_;unfold iA;rw[Dr o,q,r];congr 1;rw[lZ];simp only[bc,fX,decide_eq_true_eq];omega
   rw[this]
  rintro _ rfl;dsimp only;rw[a2 (ay (show¬((E.length:Int)<ar E) by simp only[aV];omega)),List.take_of_length_le (Nat.le_refl _)];exact ac.af.2 rfl
 rintro _ rfl;dsimp only;exact ac.bs (G8 U) (ac.af.2 rfl)
def WK (k:ev a a g c h) (o:eA a a g c h=0):AU (((a:Int),(a:Int),g,c,h,()),())=some ((iy a (iA (bt g c h a)),()),0,()):=by
 have l:=(jL.1 o).1;have u:=sm l;have A:(bt g c h a).length<=10000:=(by rw[xb l a (Nat.le_refl _)];have:=l.pu a (Nat.le_refl _);have:=k.hi;omega);unfold AU;refine ak k.x7 ?_;dsimp only;rw[o,bH,aA rfl,bH,aA rfl];have z:=k.hc;refine ak (IW a U) (ak (Mj k o) ?_);dsimp only;generalize bt g c h a=E at*;refine ac.eq_iff.1 ?_;refine ac.aU (P:=λx=>x=(([],()),gz a (j3 E),())) ?_ ?_
 ·refine ac.steps E.length (λe y=>y=((e:Int),([],()),gz a (j3 (E.take e)),())) ?_ ?_ ?_
  ·rw[SJ a (j3 (E.take 0)) λb d=>rfl];rfl
  ·rintro e _ i rfl;dsimp only;rw[bb (aA (show(e:Int)<ar E by simp only[aV];omega)),bi U];have t:=u E[e] (List.getElem_mem i);obtain⟨f,m⟩:=Int.eq_ofNat_of_zero_le t.1;obtain⟨j,n⟩:=Int.eq_ofNat_of_zero_le t.2.2.1;have r:f<a:=U;have v:j<a:=U;refine ac.bs (bL i) ?_;rw[m];refine ac.bs (eL (by rw[xF];omega)) (ac.bs (bL i) ?_);rw[n];unfold gz;rw[fv r,Option.bind_some];refine ac.bs (eL (by rw[bp];omega)) ?_;rw[fv r,fv v,g3,Option.map_some,Option.bind_some,g3];refine ac.af.2 ?_;have:aF a (eI (λb=>aF a (j3 (E.take e) b)) f (aF a (eI (j3 (E.take e) f) j true)))=aF a λb=>aF a (j3 (E.take (e+1)) b):=by
    refine dy λb B=>?_;by_cases p:b=f
    ·subst p;rw[iF];refine dy λd w=>?_;unfold j3;rw[Dr i,m,n];by_cases q:d=j
     ·subst q;rw[iF];simp
     rw[iE _ _ q,ay (U:¬((d:Int)=(j:Int)))];simp
    rw[iE _ _ p];refine dy λd w=>?_;unfold j3;rw[Dr i,m,n,ay (U:¬((b:Int)=(f:Int)))];simp
   rw[this]
  rintro _ rfl;dsimp only;rw[a2 (ay (show¬((E.length:Int)<ar E) by simp only[aV];omega)),List.take_of_length_le (Nat.le_refl _)];exact ac.af.2 rfl
 rintro _ rfl;dsimp only;refine ac.bs (G6 _ (λC s=>?_) (by rw[xF];omega)) (ac.af.2 ?_)
 ·rw[xF];unfold gz aF at s;obtain⟨b,_,rfl⟩:=bR.1 s;simp
 dsimp only;rw[Jm];have:(λb d=>b !=d&&(j3 E b d||j3 E d b))=iA E:=(by funext b d;exact JR b d);rw[this]
section
open Go
def jY (b:ac8) (a:Nat):Nat:=(b.getD a 0).toNat
def dG.get {n:Nat} (d:dG c n) (f:a<n):ax c (a:Int)=some ((jY c a:Nat):Int)/\jY c a<n:=by have b:a<c.length:=(by rw[d.1];exact f);have g:=d.2.1 _ (bD b);have e:jY c a=c[a].toNat:=(by unfold jY;rw[nb b]);exact⟨by rw[dW (a9 b),e];congr 1;omega,U⟩
def dG.inj (d:dG c i) (h:a<i) (j:b<i) (e:jY c a=jY c b):a=b:=by have f:a<c.length:=(by rw[d.1];exact h);have g:b<c.length:=(by rw[d.1];exact j);have k:=d.2.1 _ (bD f);have l:=d.2.1 _ (bD g);unfold jY at e;rw[nb f,nb g] at e;exact(List.getElem_inj d.2.2).1 U
end
section
open Go
def To:∀{n:Nat} {a:ac7},a.Nodup->(∀b∈a,b<n)->a.length<=n:=by
 intro n
 induction n with
 |zero=>intro a _ c;cases a with
  |nil=>exact a6 _
  |cons h a=>exact absurd (c h (jE ..)) U
 |succ n l=>
  intro a e c;have j:(a.erase n).Nodup:=e.erase n;have k:∀b∈a.erase n,b<n:=λb g=>(by have d:=c b (List.mem_of_mem_erase g);have m:b≠n:=λi=>(by subst i;exact(e.mem_erase_iff.1 g).1 rfl);omega);have d:=l j k;by_cases f:n∈a
  ·rw[List.length_erase_of_mem f] at d;omega
  rw[List.erase_of_not_mem f] at d;omega
def SS {b:ac7}:(a:Int)∈gB b↔a∈b:=by
 unfold gB;rw[bR];constructor
 ·rintro⟨e,d,f⟩;obtain rfl:e=a:=U;exact d
 exactλc=>⟨a,c,rfl⟩
section
variable {A:acX} (B:dZ A)
include B
end
end
section
open Go
def Ba (A:acX) (a:Int):Nat:=(A.getD a.toNat []).length
section
variable {A:acX} (B:dZ A) (C:A.length<=200)
include B C
end
end
section
open Go
def J6 (a:acX) (b c:Int):Prop:=Ba a b<Ba a c\/(Ba a b=Ba a c/\b<c)
instance(a:acX) (b c:Int):Decidable (J6 a b c):=by unfold J6;exact inferInstance
end
section
open Go
def fk (o:ac8) (a:Nat):Nat:=o.idxOf (a:Int)
section
variable {o:ac8} {n:Nat} (A:dG o n)
include A
theorem dG.mem (p:a<n):(a:Int)∈o:=by
 apply Classical.byContradiction;intro m;obtain⟨w,b,i⟩:=A;have h:o=gB (o.map Int.toNat):=by
  unfold gB;rw[p4]
  conv=>lhs;rw[<-List.map_id o]
  refine hZ λg c=>?_;have:=b g c;simp only[id,Function.comp];omega
 have j:(o.map Int.toNat).Nodup:=(by rw[List.nodup_iff_pairwise_ne,tC];refine(ga.2 λr s e f k=>?_);have u:=b _ (bD e);have v:=b _ (bD f);have:=ga.1 (List.nodup_iff_pairwise_ne.1 i) r s e f k;omega);have l:a∉o.map Int.toNat:=λc=>m (by rw[h];exact SS.2 c);have:=To (n:=n) (jd.2 ⟨l,j⟩) (λg d=>by
  rcases dg.1 d with rfl|d
  ·exact p
  obtain⟨t,q,rfl⟩:=bR.1 d;have:=b t q;omega)
 rw[hX,fK] at this;omega
theorem dG.pos (d:a<n):fk o a<n/\jY o (fk o a)=a:=by have c:=A.mem d;have b:fk o a<o.length:=List.idxOf_lt_length_iff.2 c;refine⟨by rw[<-A.1];exact b,?_⟩;unfold jY;rw[nb b,show o[fk o a]=(a:Int) from List.getElem_idxOf b];simp
theorem dG.L8 (b:a<n):fk o (jY o a)=a:=by have c:=(A.get b).2;obtain⟨d,e⟩:=A.pos c;exact A.inj d b e
end
section
variable {B:acX} (C:dZ B) {o:ac8} (A:dG o B.length)
include C A
end
end
def lX (E:List bu) (b c:Int):Int:=match E.find? λa=>decide (a.1=b)&&decide (a.2.1=c) with
 |some a=>a.2.2.1
 |none=>0
def QG {E:List bu} (e:E.Pairwise fE) {b:bu} (h:r∈E) (i:b∈E) (j:r.1=b.1) (k:r.2.1=b.2.1):r=b:=by
 obtain⟨c,f,rfl⟩:=gD.1 h;obtain⟨d,g,rfl⟩:=gD.1 i;rcases l6 c d with a|a|a
 ·have:=ga.1 e c d f g a;unfold fE at this;omega
 ·subst a;rfl
 have:=ga.1 e d c g f a;unfold fE at this;omega
def ND {E:List bu} (f:E.Pairwise fE) (d:r∈E):lX E r.1 r.2.1=r.2.2.1:=by
 unfold lX;cases a:E.find? λc=>decide (c.1=r.1)&&decide (c.2.1=r.2.1) with
 |none=>
  have:=yO.1 a r d;simp at this
 |some c=>
  have b:=List.find?_some a;have e:=List.mem_of_find?_eq_some a;simp only[Bool.and_eq_true,decide_eq_true_eq] at b;dsimp only;rw[QG f e d b.1 b.2]
def Y8 {E:List bu} (b:∀a∈E,¬(a.1=f/\a.2.1=j)):lX E f j=0:=by unfold lX;rw[yO.2];intro a c;have:=b a c;simpa using this
def NE {E:List bu} (f:(E++[r]).Pairwise fE) (b c:Int):lX (E++[r]) b c=if r.1=b/\r.2.1=c then r.2.2.1 else lX E b c:=by
 by_cases a:r.1=b/\r.2.1=c
 ·rw[aj a,<-a.1,<-a.2,ND f ab]
 rw[ag a];unfold lX;have e:List.find? (λd:bu=>decide (d.1=b)&&decide (d.2.1=c)) [r]=none:=(by refine yO.2 λd g=>?_;obtain rfl:=ed.1 g;simpa using a);rw[List.find?_append,e,Option.or_none]
def Y6 {E:List bu} (e:∀f∈E,dU f.2.2.1) (b c:Int):dU (lX E b c):=by
 unfold lX;cases d:E.find? λa=>decide (a.1=b)&&decide (a.2.1=c) with
 |none=>exact⟨aa,aa⟩
 |some a=>exact e a (C8 d)
def Y7 {E:List bu} (e:∀f∈E,bE f.2.2.1≠2047) (b c:Int):bE (lX E b c)≠2047:=by
 unfold lX;cases d:E.find? λa=>decide (a.1=b)&&decide (a.2.1=c) with
 |none=>show bE 0≠2047;decide
 |some a=>exact e a (C8 d)
def Kh (j:eF i b c g h) (m:a<b):r∈bt c g h b/\r.2.1=(a:Int)↔∃d:Nat,c.getD a 0<=(d:Int)/\(d:Int)<c.getD (a+1) 0/\r=(g.getD d 0,(a:Int),h.getD d 0,()):=by
 have t:=j.pos a U;have u:=j.pos (a+1) U;constructor
 ·rintro⟨e,k⟩;obtain⟨f,q,e⟩:=xJ.1 e;obtain⟨n,s,rfl⟩:=sJ.1 e;have l:f=a:=(by dsimp only at k;omega);subst l;exact⟨(c.getD f 0).toNat+n,U,U,rfl⟩
 rintro⟨d,o,p,rfl⟩;refine⟨xJ.2 ⟨a,m,sJ.2 ⟨d-(c.getD a 0).toNat,U,?_⟩⟩,rfl⟩;rw[(U:(c.getD a 0).toNat+(d-(c.getD a 0).toNat)=d)]
def WH (r:ev i b g c h) (v:eA i b g c h=0) (n:Int) (q:a<b):AP (((i:Int),(b:Int),g,c,h,()),n,(a:Int),())=some (lX (bt g c h b) n (a:Int),()):=by
 have f:=(jL.1 v).1;have C:=f.pos a U;have D:=f.pos (a+1) U;have K:=f.pu (a+1) U;have L:=f.val;have I:=f.mono a q;have H:=f.len;have G:=r.hi;have z:=sn f b (a6 _);have F:=r.hc;unfold AP;refine ak (y:=.inl ()) ?_ ?_
 ·refine ak r.x7 ?_;dsimp only;rw[v,bH,aA rfl,ay (U:¬((a:Int)<0)),ay (U:¬((a:Int)>=(b:Int)))];rfl
 dsimp only;rw[fN (U:a<g.length),Option.bind_some];refine ac.eq_iff.1 ?_;obtain⟨e,B⟩:=Int.eq_ofNat_of_zero_le C;obtain⟨k,A⟩:=Int.eq_ofNat_of_zero_le D;have x:ax g (aQ (a:Int))=some (k:Int):=(by rw[bi U,fN U,A]);rw[x,B];refine ac.aU (P:=λt=>(t=.inl ()/\∀d:Nat,e<=d->d<k->c.getD d 0≠n)\/∃d:Nat,e<=d/\d<k/\c.getD d 0=n/\t=.inr (h.getD d 0,())) ?_ ?_
 ·refine ac.steps (k-e) (λj E=>E=(((e+j:Nat):Int),())/\∀d:Nat,e<=d->d<e+j->c.getD d 0≠n) ⟨rfl,λd l o=>absurd o U⟩ ?_ ?_
  ·rintro j _ J ⟨rfl,p⟩;dsimp only;rw[Option.bind_some,bb (aA (U:((e+j:Nat):Int)<(k:Int)))];refine ac.bs (fN U) ?_;by_cases m:c.getD (e+j) 0=n
   ·rw[bb (by rw[m];simp)];refine ac.bs (fN U) (ac.af.2 ?_);exact .inr ⟨e+j,U,U,m,rfl⟩
   rw[a2 (by simpa using m),bi U];refine ac.af.2 ⟨rfl,λd l o=>?_⟩;rcases bn d (e+j) with u|u
   ·exact p d l u
   obtain rfl:d=e+j:=U;exact m
  rintro _ ⟨rfl,p⟩;dsimp only;rw[Option.bind_some,a2 (ay (U:¬(((e+(k-e):Nat):Int)<(k:Int))))];exact ac.af.2 (.inl ⟨rfl,λd l o=>p d l U⟩)
 rintro t (⟨rfl,p⟩|⟨d,l,o,m,rfl⟩)
 ·refine ac.af.2 ?_;rw[Y8];intro M s w;obtain⟨d,l,o,rfl⟩:=(Kh f q).1 ⟨s,w.2⟩;exact p d U U w.1
 refine ac.af.2 ?_;have s:=((Kh f q).2 ⟨d,U,U,rfl⟩).1;have:=ND z s;dsimp only at this;rw[m] at this;rw[this]
def F8 {o:ac8} {n:Nat} (D:n<=10000) (E:o.length<=1000000):w9 (o,(n:Int),())=some (open Classical in decide (dG o n),()):=by
 classical
 unfold w9;dsimp only;by_cases k:o.length=n
 ·rw[a2 (by rw[bH,aA (show ar o=(n:Int) by rw[aV,k])];rfl)];refine ak (gA U) ?_;refine ac.eq_iff.1 ?_;refine ac.aU (P:=λm=>(m=.inl ()/\dG o n)\/(m=.inr (false,())/\¬dG o n)) ?_ ?_
  ·refine ac.steps n (λa y=>y=((a:Int),aF n (λb=>decide ((b:Int)∈o.take a)),())/\(∀d∈o.take a,0<=d/\d<(n:Int))/\(o.take a).Nodup) ?_ ?_ ?_
   ·refine⟨?_,ab,ab⟩;rw[hu];simp
   ·rintro a _ C ⟨rfl,g,h⟩;dsimp only;rw[bb (aA (U:(a:Int)<(n:Int))),bL (U:a<o.length)];have s:o[a]'(by omega)∈o:=List.getElem_mem _
    have l:o.take (a+1)=o.take a++[o[a]'(by omega)]:=by rw[hD,a9 U];rfl
    have i:∀d,d∈o.take (a+1)↔d∈o.take a\/d=o[a]'(by omega):=λd=>by rw[l,dX,ed]
    have w:(o.take (a+1)).Sublist o:=List.take_sublist _ _;generalize G:o[a]'(by omega)=b at*
    simp only[aG];by_cases q:b<0
    ·rw[a2 (show(decide (b<0)==false)=false by rw[aA q];rfl)];refine ac.af.2 (.inr ⟨rfl,λe=>?_⟩);have:=e.2.1 b s;omega
    rw[bb (show(decide (b<0)==false)=true by rw[ay q];rfl)];by_cases r:b>=(n:Int)
    ·rw[a2 (show(decide (b>=(n:Int))==false)=false by rw[aA r];rfl)];refine ac.af.2 (.inr ⟨rfl,λe=>?_⟩);have:=e.2.1 b s;omega
    rw[bb (show(decide (b>=(n:Int))==false)=true by rw[ay r];rfl)];obtain⟨p,rfl⟩:=eE (U:0<=b);rw[iZ (by rw[bp];omega),gx];by_cases f:(p:Int)∈o.take a
    ·rw[bb (aA f)];refine ac.af.2 (.inr ⟨rfl,λe=>?_⟩);have:=List.Nodup.sublist w e.2.2;rw[l,hC] at this;exact this.2.2 _ f _ (ed.2 rfl) rfl
    rw[a2 (ay f)];simp only[aG];rw[i6 (by rw[bp];omega),g3];refine ac.af.2 ⟨?_,?_,?_⟩
    ·rw[bi U];have:aF n (eI (λb=>decide ((b:Int)∈o.take a)) p true)=aF n (λb=>decide ((b:Int)∈o.take (a+1))):=by
      refine dy λz F=>?_;by_cases j:z=p
      ·subst j;rw[iF,aA ((i _).2 (.inr rfl))]
      rw[iE _ _ j];refine decide_eq_decide.2 ⟨λc=>(i _).2 (.inl c),λc=>((i _).1 c).resolve_right λc=>j U⟩
     rw[this]
    ·intro d x;rcases(i d).1 x with c|c
     ·exact g d c
     subst c;omega
    rw[l,hC];refine⟨h,ab,λA u B v t=>?_⟩;obtain rfl:=ed.1 v;exact f (t▸u)
   rintro _ ⟨rfl,g,h⟩;dsimp only;rw[a2 (ay (U:¬((n:Int)<(n:Int))))];rw[List.take_of_length_le U] at g h;exact ac.af.2 (.inl ⟨rfl,k,g,h⟩)
  rintro m (⟨rfl,c⟩|⟨rfl,c⟩)
  ·refine ac.af.2 ?_;rw[aA c]
  refine ac.af.2 ?_;rw[ay c]
 rw[bb (by rw[bH,ay (show¬(ar o=(n:Int)) by rw[aV];omega)];rfl),ay (λc=>k c.1)]
def sZ (i:ev a b g c h) (j:m.length<=1000000):uD (((a:Int),(b:Int),g,c,h,()),m,())=some (open Classical in if eA a b g c h≠0 then eA a b g c h else if a≠b then 5 else if dG m a then 0 else 90,()):=by
 classical
 unfold uD;refine ak i.x7 ?_;dsimp only;have k:=i.hr;by_cases e:eA a b g c h=0
 ·rw[e,bH,aA rfl,ag (not_not_intro rfl)];by_cases f:a=b
  ·subst f;rw[bH,aA rfl,if_neg (not_not_intro rfl)];refine ak (F8 U j) ?_;dsimp only;by_cases d:dG m a
   ·rw[aA d,aj d];rfl
   rw[ay d,ag d];rfl
  rw[bH,ay (U:¬((a:Int)=(b:Int))),aj f];rfl
 rw[bH,ay e,aj e];rfl
def Wv (g:a<c.length) (f:c[a]=(b:Int)) (e:(b:Int)∉c.take a):fk c b=a:=by unfold fk;have d:c=c.take a++(c[a]::c.drop (a+1)):=(by rw[List.getElem_cons_drop,ku]);rw[d,List.idxOf_append,ag e,f,List.idxOf_cons_self,dS];omega
def L6 (H:a<=10000) (I:c.length<=1000000):A9 (c,(a:Int),())=some (open Classical in if dG c a then(aF a (λb=>(fk c b:Int)),true,()) else([],false,())):=by
 classical
 unfold A9;dsimp only;by_cases p:c.length=a
 ·rw[a2 (by rw[bH,aA (show ar c=(a:Int) by rw[aV,p])];rfl)];refine ak (gA U) (ak (gA U) ?_);refine ac.eq_iff.1 ?_;refine ac.aU (P:=λr=>(r=.inl (aF a (λb=>(fk c b:Int)),())/\dG c a)\/(r=.inr ([],false,())/\¬dG c a)) ?_ ?_
  ·refine ac.steps a (λd D=>D=((d:Int),aF a (λb=>if(b:Int)∈c.take d then(fk c b:Int) else 0),aF a (λb=>decide ((b:Int)∈c.take d)),())/\(∀g∈c.take d,0<=g/\g<(a:Int))/\(c.take d).Nodup) ?_ ?_ ?_
   ·refine⟨?_,ab,ab⟩;rw[hu,hu];simp
   ·rintro d _ G ⟨rfl,n,o⟩;dsimp only;rw[bb (aA (show(d:Int)<ar c by rw[aV];omega)),bL (U:d<c.length)];have u:c[d]'(by omega)∈c:=List.getElem_mem _
    have q:c.take (d+1)=c.take d++[c[d]'(by omega)]:=by rw[hD,a9 U];rfl
    have j:∀g,g∈c.take (d+1)↔g∈c.take d\/g=c[d]'(by omega):=λg=>by rw[q,dX,ed]
    have A:(c.take (d+1)).Sublist c:=List.take_sublist _ _;have z:∀f:Nat,c[d]'(by omega)=(f:Int)->(f:Int)∉c.take d->fk c f=d:=λf=>Wv U
    generalize v:c[d]'(by omega)=b at*
    simp only[aG];by_cases s:b<0
    ·rw[a2 (show(decide (b<0)==false)=false by rw[aA s];rfl)];refine ac.af.2 (.inr ⟨rfl,λh=>?_⟩);have:=h.2.1 b u;omega
    rw[bb (show(decide (b<0)==false)=true by rw[ay s];rfl)];by_cases t:b>=(a:Int)
    ·rw[a2 (show(decide (b>=(a:Int))==false)=false by rw[aA t];rfl)];refine ac.af.2 (.inr ⟨rfl,λh=>?_⟩);have:=h.2.1 b u;omega
    rw[bb (show(decide (b>=(a:Int))==false)=true by rw[ay t];rfl)];obtain⟨f,rfl⟩:=eE (U:0<=b);rw[iZ (by rw[bp];omega),gx];by_cases l:(f:Int)∈c.take d
    ·simp only[aG];rw[bb (aA l)];refine ac.af.2 (.inr ⟨rfl,λh=>?_⟩);have:=List.Nodup.sublist A h.2.2;rw[q,hC] at this;exact this.2.2 _ l _ (ed.2 rfl) rfl
    simp only[aG];rw[a2 (ay l)];simp only[aG];rw[i6 (by rw[bp];omega),g3,i6 (by rw[bp];omega),g3];refine ac.af.2 ⟨?_,?_,?_⟩
    ·rw[bi U];have:aF a (eI (λb=>decide ((b:Int)∈c.take d)) f true)=aF a (λb=>decide ((b:Int)∈c.take (d+1))):=by
      refine dy λk B=>?_;by_cases i:k=f
      ·subst i;rw[iF,aA ((j _).2 (.inr rfl))]
      rw[iE _ _ i];refine decide_eq_decide.2 ⟨λe=>(j _).2 (.inl e),λe=>((j _).1 e).resolve_right λe=>i U⟩
     rw[this];have:aF a (eI (λb=>if(b:Int)∈c.take d then(fk c b:Int) else 0) f (d:Int))=aF a (λb=>if(b:Int)∈c.take (d+1) then(fk c b:Int) else 0):=by
      refine dy λk B=>?_;by_cases i:k=f
      ·subst i;rw[iF,aj ((j _).2 (.inr rfl)),z k rfl l]
      rw[iE _ _ i];have:(k:Int)∈c.take (d+1)↔(k:Int)∈c.take d:=⟨λe=>((j _).1 e).resolve_right λe=>i U,λe=>(j _).2 (.inl e)⟩;by_cases m:(k:Int)∈c.take d
      ·rw[aj m,aj (this.2 m)]
      rw[ag m,ag λe=>m (this.1 e)]
     rw[this]
    ·intro g C;rcases(j g).1 C with e|e
     ·exact n g e
     subst e;omega
    rw[q,hC];refine⟨o,ab,λE x F y w=>?_⟩;obtain rfl:=ed.1 y;exact l (w▸x)
   rintro _ ⟨rfl,n,o⟩;dsimp only;rw[a2 (ay (show¬((a:Int)<ar c) by rw[aV];omega))];rw[List.take_of_length_le U] at n o|-;have h:dG c a:=⟨p,n,o⟩;refine ac.af.2 (.inl ⟨?_,h⟩);have:aF a (λb=>if(b:Int)∈c then(fk c b:Int) else 0)=aF a (λb=>(fk c b:Int)):=dy λb v=>if_pos (h.mem v);rw[this]
  rintro r (⟨rfl,e⟩|⟨rfl,e⟩)
  ·refine ac.af.2 ?_;rw[aj e]
  refine ac.af.2 ?_;rw[ag e]
 rw[bb (by rw[bH,ay (show¬(ar c=(a:Int)) by rw[aV];omega)];rfl),ag (λe=>p e.1)]
def fl (a b:Nat) (d c e f:ac8):Int:=open Classical in if eA a b d c e≠0 then eA a b d c e else if a≠b then 5 else if dG f a then 0 else 90
def CC (d:fl a b h c m g=0):eA a b h c m=0/\a=b/\dG g a:=by
 unfold fl at d;split at d
 ·contradiction
 rename_i e;split at d
 ·cases d
 rename_i f;split at d
 ·rename_i i;exact⟨Classical.not_not.1 e,Classical.not_not.1 f,i⟩
 cases d
def Da (j:ev a b h c m) (k:g.length<=1000000) (d:fl a b h c m g≠0):ph (((a:Int),(b:Int),h,c,m,()),g,())=some (none,fl a b h c m g,()):=by
 classical
 unfold ph;unfold fl at d|-;refine ak j.check ?_;dsimp only;have l:=j.hr;by_cases e:eA a b h c m=0
 ·rw[ag (not_not_intro e)] at d|-;rw[a2 (by rw[e];rfl)];by_cases i:a=b
  ·subst i;rw[ag (not_not_intro rfl)] at d|-;rw[a2 (by rw[bH,aA rfl];rfl)];refine ak (L6 U k) ?_;by_cases f:dG g a
   ·exact absurd (aj f) d
   rw[ag f,ag f];rfl
  rw[aj i,bb (by rw[bH,ay (U:¬((a:Int)=(b:Int)))];rfl)]
 rw[aj e,bb (by rw[bH,ay e];rfl)]
def g6 (a:Nat) (E:List bu) (b:ac8):acX:=h4 (h5 (iy a (iA E)) b)
def Js (a:Nat) (b:Nat->Nat->Bool):∀d∈iy a b,d.length<=a:=by intro d c;unfold iy aF at c;obtain⟨e,_,rfl⟩:=bR.1 c;rw[u5];have:=hY (b e) (List.range a);simpa using this
def BA (a:Nat) (b:Nat->Nat->Bool):(iy a b).length=a:=bp _ _
def Rz (c:Nat) (E:List bu):iy c (iA E)=h4 (gz c (j3 E)):=by rw[Jm];have:(λa b=>a !=b&&(j3 E a b||j3 E b a))=iA E:=(by funext a b;exact JR a b);rw[this]
def L4 (e:a<=5) {E:List bu} (b:dG c a):mF (iy a (iA E)) c=0:=by unfold mF;have d:gw (iy a (iA E))=0:=qk.2 ⟨by rw[BA];omega,by rw[Rz];exact Jn _⟩;rw[ag (not_not_intro d),ag (not_not_intro (by rw[BA];exact b.1)),BA,aj b]
def OE (e:a<=5) {E:List bu} (b:dG c a):wz ((iy a (iA E),()),c,())=some ((g6 a E c,()),0,()):=by rw[OD (λf d=>by have:=Js a _ f d;omega) c (λ_ _=>by rw[BA];omega) (by rw[b.1];omega),aj (L4 e b)];rfl
def WR (d:a<=5) {E:List bu} (e:dG c a):wX ((iy a (iA E),()),c,())=some ((g6 a E c,()),0,()):=by rw[Xe (λf b=>by have:=Js a _ f b;omega) c,aj (L4 d e)];rfl
def xm {E:List bu} (b:dG c a):(g6 a E c).length=a:=by unfold g6;rw[Rr,uN,b.1]
def EK (a:Nat) (E:List bu) (b:ac8):dZ (g6 a E b):=Jn _
def BD (f:a<=5) {E:List bu} (e:dG c a):∀b∈g6 a E c,b.length<4611686018427387904:=λb d=>by have:=Rs _ b d;rw[uN,e.1] at this;omega
def F7 (e:a<=5) (n:ev a a g c h) (d:eA a a g c h=0) (u:dG m a):w8 (((a:Int),(a:Int),g,c,h,()),m,())=some ((g6 a (eb (bt g c h a)) m,()),()):=by have b:=(jL.1 d).1;have p:=(jL.1 d).2;have j:=sn b a (a6 _);have k:=sm b;have v:=BQ e (qU j) (qT k) BP;have q:=so b n.hw;have r:=so b (Ex p);unfold w8;refine ak (WO e n d) ?_;have o:=qU j;have l:=qT k;have t:=M7 (rows:=a) (fF:=a) (E:=eb (bt g c h a)) U U U (λi f=>q i (gr.1 f).1);have s:=Ig o l (λi f=>r i (gr.1 f).1);have:=WK t s;rw[I4 o l] at this;refine ak this ?_;exact ak (WR e u) rfl
def Oi (s:a<=5) (q:ev a a g c h) (k:eA a a g c h=0):wx (py a a (eb (bt g c h a)),())=some ((iy a (iA (eb (bt g c h a))),()),0,()):=by have b:=(jL.1 k).1;have m:=(jL.1 k).2;have f:=sn b a (a6 _);have i:=sm b;have t:=BQ s (qU f) (qT i) BP;have n:=so b q.hw;have o:=so b (Ex m);have l:=qU f;have j:=qT i;have r:=M7 (rows:=a) (fF:=a) (E:=eb (bt g c h a)) U U U (λe d=>n e (gr.1 d).1);have p:=Ig l j (λe d=>o e (gr.1 d).1);have:=Oa r p;rw[I4 l j] at this;exact this
def jg:bw:=(false,((false,([],())),((0:Int),())))
def Ee:jg=aT (some 0):=by rw[eK];rfl
def sP:dJ 0=some 0:=by decide
def xE {k:Type}:∀(j:List (Int×k)) (c:Int) (e:k) (b:Int),eg (g8 j c e) b=if b=c then some e else eg j b
 |[],c,e,b=>by
  show(if c=b then some e else none)=_;by_cases d:b=c
  ·rw[aj d,aj d.symm]
  rw[ag d,ag (λf=>d f.symm)];rfl
 |(a,u)::r,c,e,b=>by
  unfold g8;by_cases h:c<a
  ·rw[aj h];show(if c=b then some e else eg ((a,u)::r) b)=_;by_cases d:b=c
   ·rw[aj d,aj d.symm]
   rw[ag d,ag (λf=>d f.symm)]
  rw[ag h];by_cases i:c=a
  ·rw[aj i];show(if c=b then some e else eg r b)=_;by_cases d:b=c
   ·rw[aj d,aj d.symm]
   rw[ag d,ag (λf=>d f.symm)];show _=(if a=b then some u else eg r b);rw[ag U]
  rw[ag i];show(if a=b then some u else eg (g8 r c e) b)=_;rw[xE r c e b];show _=if b=c then some e else(if a=b then some u else eg r b)
  by_cases g:a=b
  ·rw[aj g,ag U,aj g]
  rw[ag g,ag g]
abbrev hd:=Option (List (Int×bw)×Nat)
variable{p:List hd}
def jm (a b:Int):Int:=if b>a then b else a
def iX (a b:Int):Int:=if b<a then b else a
def bg (E:List bu) (a:ac8) (b c:Nat):ac2:=dJ (lX E (jm (a.getD b 0) (a.getD c 0)) (iX (a.getD b 0) (a.getD c 0)))
def QF (E:List bu) (a:ac8) (b c:Nat):bg E a b c=bg E a c b:=by unfold bg;rw[show jm (a.getD b 0) (a.getD c 0)=jm (a.getD c 0) (a.getD b 0) by unfold jm;split<;>split<;>omega,show iX (a.getD b 0) (a.getD c 0)=iX (a.getD c 0) (a.getD b 0) by unfold iX;split<;>split<;>omega]
structure iL (n:Nat) (o:ac8) (D:List bu) (M:List hd):Prop where
 len:M.length=n
 get:∀p,p<n->∃l c,M[p]?=some (some (l,c))/\∀q,q<n->p<=q->(eg l (q:Int)).getD jg=aT (bg D o p q)
def iL.nil:iL a c [] (aF a λ_=>some ([],0)) where
 len:=bp _ _
 get:=λd b=>⟨[],0,uH b,λe _ _=>by
  show jg=aT (dJ 0);rw[sP,Ee]⟩
def Cg (e:dG c b) (f:a<b):c.getD a 0=(jY c a:Int)/\jY c a<b:=by have d:a<c.length:=(by rw[e.1];exact f);have:=e.2.1 c[a] (bD d);unfold jY;rw[jj d];omega
def Ww {h:Nat} (e:dG c h) (r:q<h) (p:a<h) (u:a<=q) (k:b<h) (l:i<h) (v:b<=i):(iX (fk c q:Int) (fk c a:Int)=(b:Int)/\jm (fk c q:Int) (fk c a:Int)=(i:Int))↔(q:Int)=jm (c.getD b 0) (c.getD i 0)/\(a:Int)=iX (c.getD b 0) (c.getD i 0):=by
 obtain⟨s,w⟩:=Cg e k;obtain⟨aw,x⟩:=Cg e l;obtain⟨y,o⟩:=e.pos r;obtain⟨t,j⟩:=e.pos p;have m:=e.L8 k;have n:=e.L8 l;rw[s,aw];constructor
 ·rintro⟨f,g⟩;have:(fk c q=b/\fk c a=i)\/(fk c q=i/\fk c a=b):=by
   unfold iX at f;unfold jm at g;split at f<;>split at g<;>omega
  rcases this with⟨al,d⟩|⟨al,d⟩
  ·rw[al] at o;rw[d] at j;unfold jm iX;split<;>split<;>omega
  rw[al] at o;rw[d] at j;unfold jm iX;split<;>split<;>omega
 rintro⟨f,g⟩;have:(q=jY c b/\a=jY c i)\/(q=jY c i/\a=jY c b):=(by unfold iX at g;unfold jm at f;split at f<;>split at g<;>omega);rcases this with⟨al,d⟩|⟨al,d⟩
 ·rw[al,d,m,n];unfold jm iX;split<;>split<;>omega
 rw[al,d,m,n];unfold jm iX;split<;>split<;>omega
def iL.skip (b:iL a c s p) (l:(s++[r]).Pairwise fE) (q:r.1<r.2.1):iL a c (s++[r]) p where
 len:=b.len
 get:=λn i=>by obtain⟨m,f,g,h⟩:=b.get n i;refine⟨m,f,g,λo k j=>?_⟩;rw[h o k j];unfold bg;rw[NE l,ag];rintro⟨d,e⟩;unfold jm at d;unfold iX at e;split at d<;>split at e<;>omega
def iL.add (D:dG c q) (e:iL q c s p) {l:Nat} (F:(s++[((i:Int),(a:Int),f,())]).Pairwise fE) (E:i<q) (y:a<q) (z:a<=i) (B:(b:Int)=iX (fk c i:Int) (fk c a:Int)) (A:(l:Int)=jm (fk c i:Int) (fk c a:Int)) {G H:Nat} (u:p[b]?=some (some (w,G))):iL q c (s++[((i:Int),(a:Int),f,())]) (p.set b (some (g8 w (l:Int) (aT (dJ f)),H))) where
 len:=by rw[rz,e.len]
 get:=λg o=>by
  have C:b<p.length:=(ec.1 u).1;have v:∀d,d<q->g<=d->aT (bg (s++[((i:Int),(a:Int),f,())]) c g d)=if b=g/\l=d then aT (dJ f) else aT (bg s c g d):=by
   intro d k j;have:=Ww D E y z o k j;unfold bg;rw[NE F];rw[<-B,<-A] at this;by_cases h:b=g/\l=d
   ·rw[aj h,aj (this.1 ⟨U,U⟩)]
   rw[ag h,ag (λe=>h (by have:=this.2 e;omega))]
  by_cases h:g=b
  ·subst h;refine⟨_,_,ks C,λd k j=>?_⟩;rw[xE,v d k j];by_cases t:l=d
   ·subst t;rw[aj rfl,aj ⟨rfl,rfl⟩];rfl
   rw[ag U,ag (λe=>t e.2)];obtain⟨x,r,m,n⟩:=e.get g o;rw[u] at m;cases m;exact n d k j
  obtain⟨x,r,m,n⟩:=e.get g o;refine⟨x,r,?_,λd k j=>?_⟩
  ·rw[ls (λe=>h e.symm),m]
  rw[v d k j,ag (λe=>h e.1.symm),n d k j]
def Mi (k:ev a a h g m) (j:eA a a h g m=0) (e:dG c a) (p:b<a) (q:i<a):w7 (((a:Int),(a:Int),h,g,m,()),c,(b:Int),(i:Int),())=some (aT (bg (bt h g m a) c b i),()):=by
 obtain⟨r,s⟩:=Cg e p;obtain⟨aw,t⟩:=Cg e q;have u:=e.1;have l:=so (jL.1 j).1 k.hw;unfold w7;refine ak (fN U) (ak (fN U) ?_);obtain⟨d,n,o⟩:∃d:Nat,iX (c.getD b 0) (c.getD i 0)=(d:Int)/\d<a:=by
  unfold iX;split
  ·exact⟨_,aw,t⟩
  exact⟨_,r,s⟩
 have f:=WH k j (jm (c.getD b 0) (c.getD i 0)) o;rw[<-n] at f;refine ak f ?_;dsimp only;refine ak (yg (Y6 l _ _)) rfl
def yV (B:a<=5) (r:ev a a h g c) (x:eA a a h g c=0) (s:dG m a):∃b,iL a m (bt h g c a) b/\ph (((a:Int),(a:Int),h,g,c,()),m,())=some (some ((a:Int),(g6 a (eb (bt h g c a)) m,()),b,()),0,()):=by
 have j:=(jL.1 x).1;have ad:=sn j a (a6 _);have an:=sm j;have a4:=s.1;have ap:=so j r.hw;suffices q:ac (ph (((a:Int),(a:Int),h,g,c,()),m,())) λf=>∃b,iL a m (bt h g c a) b/\f=(some ((a:Int),(g6 a (eb (bt h g c a)) m,()),b,()),0,()) by obtain⟨f,O,b,Q,rfl⟩:=q;exact⟨b,Q,O⟩
 unfold ph;refine ac.bs r.check ?_;dsimp only;rw[a2 (by rw[x];rfl),a2 (by rw[bH,aA rfl];rfl)];refine ac.bs (L6 U U) ?_;rw[if_pos s];dsimp only;rw[Bool.not_true,cond_false];refine ac.bs (Oq B r x) (ac.bs (Oi B r x) (ac.bs (OE B s) ?_));dsimp only;generalize am:g6 a (eb (bt h g c a)) m=p;refine ac.bs (gA U) ?_;generalize T:(((a:Int),(a:Int),h,g,c,()):b0)=N;refine ac.aU (P:=λf=>f=(N,((a:Int),(p,()),aF a (λ_=>(some ([],0):hd)),()),())) ?_ ?_
 ·refine ac.steps a (λo t=>t=((o:Int),N,((a:Int),(p,()),aF a (λk=>if k<o then(some ([],0):hd) else none),()),())) ?_ ?_ ?_
  ·rw[hu];rfl
  ·rintro o _ S rfl;dsimp only;rw[bb (aA (show(o:Int)<ar (List.replicate a (none:hd)) by rw[aV,List.length_replicate];omega)),bi U];refine ac.bs (eL (by rw[bp];omega)) ?_;rw[fv S,g3];refine ac.af.2 ?_;have:aF a (eI (λk=>if k<o then(some ([],0):hd) else none) o (some ([],0)))=aF a (λk=>if k<o+1 then(some ([],0):hd) else none):=by
    refine dy λk D=>?_;by_cases v:k=o
    ·subst v;rw[iF,aj U]
    rw[iE _ _ v];by_cases F:k<o
    ·rw[aj F,aj U]
    rw[ag F,ag U]
   dsimp only[Option.map_some];rw[this]
  rintro _ rfl;dsimp only;rw[a2 (ay (show¬((a:Int)<ar (List.replicate a (none:hd))) by rw[aV,List.length_replicate];omega))];have:aF a (λk=>if k<a then(some ([],0):hd) else none)=aF a (λ_=>(some ([],0):hd)):=dy λk D=>if_pos D;rw[this];exact ac.af.2 rfl
 rintro _ rfl;dsimp only;refine ac.aU (P:=λf=>∃b,iL a m (bt h g c a) b/\f=(((a:Int),(p,()),b,()),())) ?_ (by rintro _ ⟨b,q,rfl⟩;exact ac.af.2 ⟨b,q,rfl⟩);subst T;refine ac.steps a (λd t=>∃b,iL a m (bt h g c d) b/\t=((d:Int),((a:Int),(a:Int),h,g,c,()),((a:Int),(p,()),b,()),())) ⟨_,iL.nil,rfl⟩ ?_ ?_
 ·rintro d _ w ⟨b,l,rfl⟩;have z:=j.len;obtain⟨e,J⟩:=Int.eq_ofNat_of_zero_le (j.pos d U);obtain⟨n,A⟩:=Int.eq_ofNat_of_zero_le (j.pos (d+1) U);have a0:n<=g.length:=(by have:=j.pu (d+1) U;omega);have a3:e<=n:=(by have:=j.mono d w;omega);have D:=j.val;have av:=r.hi;dsimp only;rw[bb (aA (U:(d:Int)<(a:Int))),bi U];refine ac.bs (y:=(e:Int)) (by rw[fN U,J]) ?_;have K:bt h g c (d+1)=bt h g c d++hf g c (d:Int) e (n-e):=by
   rw[bt,J,A];rfl
  have W:(bt h g c (d+1)).Pairwise fE:=sn j (d+1) U;refine ac.aU (P:=λf=>∃b,iL a m (bt h g c (d+1)) b/\f=(((a:Int),(a:Int),h,g,c,()),((a:Int),(p,()),b,()),())) ?_ (by rintro _ ⟨b,q,rfl⟩;exact ac.af.2 ⟨b,q,rfl⟩);refine ac.steps (n-e) (λi t=>∃b,iL a m (bt h g c d++hf g c (d:Int) e i) b/\t=(((e+i:Nat):Int),((a:Int),(a:Int),h,g,c,()),((a:Int),(p,()),b,()),())) ⟨b,by simpa[hf] using l,rfl⟩ ?_ ?_
  ·rintro i _ bl ⟨b,l,rfl⟩;dsimp only;refine ac.bs (y:=(n:Int)) (by rw[fN U,A]) ?_;rw[bb (aA (U:((e+i:Nat):Int)<(n:Int)))];have V:=j.rng d (e+i) w U U;obtain⟨f,C⟩:=Int.eq_ofNat_of_zero_le V.1;have M:(bt h g c d++hf g c (d:Int) e i++[((f:Int),(d:Int),c.getD (e+i) 0,())]).Pairwise fE:=by
    refine List.Pairwise.sublist ?_ W;rw[K,kr];refine List.Sublist.append (List.Sublist.refl _) ?_;have:hf g c (d:Int) e i++[((f:Int),(d:Int),c.getD (e+i) 0,())]=hf g c (d:Int) e (i+1):=(by rw[hf,C]);rw[this,Ej,Ej,<-Bn (n-e) (i+1) _ U];exact List.take_sublist _ _
   have R:bt h g c d++hf g c (d:Int) e (i+1)=bt h g c d++hf g c (d:Int) e i++[((f:Int),(d:Int),c.getD (e+i) 0,())]:=(by rw[kr,hf,C]);rw[R];refine ac.aU (P:=λZ=>∃b,iL a m (bt h g c d++hf g c (d:Int) e i++[((f:Int),(d:Int),c.getD (e+i) 0,())]) b/\Z=(((a:Int),(a:Int),h,g,c,()),((a:Int),(p,()),b,()),())) ?_ ?_
   ·refine ac.bs (y:=(f:Int)) (by rw[fN U,C]) ?_;rw[bj];refine ac.ite (λv=>?_) (λv=>?_)
    ·have L:f<a:=U;refine ac.bs (by rw[bL (by rw[bp];omega),gx]) (ac.bs (by rw[bL (by rw[bp];omega),gx]) ?_);obtain⟨u,G,H⟩:∃u:Nat,(u:Int)=iX (fk m f:Int) (fk m d:Int)/\u<a:=by
      have:=(s.pos L).1;have:=(s.pos w).1;unfold iX;split
      ·exact⟨_,rfl,U⟩
      exact⟨_,rfl,U⟩
     obtain⟨E,I⟩:∃E:Nat,(E:Int)=jm (fk m f:Int) (fk m d:Int):=by
      unfold jm;split
      ·exact⟨_,rfl⟩
      exact⟨_,rfl⟩
     change ac ((bk b.length (iX (fk m f:Int) (fk m d:Int))).bind _) _;rw[<-G];refine ac.bs (eL (by rw[l.len];exact H)) ?_;refine ac.bs (fN U) ?_;refine ac.bs (sQ (r.hw _ (by rw[jj U];exact List.getElem_mem _))) ?_;dsimp only;obtain⟨Y,X,z,_⟩:=l.get u H;refine ac.bs (mZ z) ?_;change ac ((px (some (Y,X)) (jm (fk m f:Int) (fk m d:Int)) _).bind _) _;rw[<-I];refine ac.bs rfl ?_;rw[mZ z];exact ac.af.2 ⟨_,l.add s M L w U G I z,rfl⟩
    exact ac.af.2 ⟨b,l.skip M (by dsimp only;omega),rfl⟩
   rintro _ ⟨b,q,rfl⟩;dsimp only;rw[bi U];exact ac.af.2 ⟨b,q,rfl⟩
  rintro _ ⟨b,l,rfl⟩;dsimp only;refine ac.bs (y:=(n:Int)) (by rw[fN U,A]) ?_;rw[a2 (ay (U:¬((e+(n-e):Nat):Int)<(n:Int)))];exact ac.af.2 ⟨b,by rw[K];exact l,rfl⟩
 rintro _ ⟨b,l,rfl⟩;dsimp only;rw[a2 (ay (U:¬((a:Int)<(a:Int))))];exact ac.af.2 ⟨b,l,rfl⟩
def MT {E:List bu} (m:iL i c E p) (g:a<i) (l:b<i):uE (some ((i:Int),(e,()),p,()),(a:Int),(b:Int),())=some (aT (bg E c a b),()):=by
 unfold uE;dsimp only;rw[Option.bind_some];have h:∀d f:Nat,d<i->f<i->d<=f->((ax p (d:Int)).bind λt=>some (((iC (α:=bw) t (f:Int)).getD (false,((false,([],())),((0:Int),())))),()))=some (aT (bg E c d f),()):=(by intro d f q s r;obtain⟨v,u,n,o⟩:=m.get d q;refine ak (dW n) ?_;have:=o f s r;rw[<-this];rfl);by_cases j:(b:Int)<(a:Int)
 ·rw[aj j,ag U,QF];exact h b a l g U
 rw[ag j];by_cases k:(b:Int)>(a:Int)
 ·rw[aj k];exact h a b g l U
 rw[ag k];obtain rfl:a=b:=U;exact h a a g g (a6 _)
def Fx (b:bE f≠2047):∃d,dJ f=some d:=by
 have al:=xe f;have g:=xf f;unfold dJ;rw[ag b];unfold e8;generalize a:(if f<9223372036854775808 then if bE f=0 then eW f else eW f+4503599627370496 else-(if bE f=0 then eW f else eW f+4503599627370496))=c;have e:az c.natAbs<=53:=de.2 (by
  have:(2:Nat)^53=9007199254740992:=aa;rw[this];split at a<;>split at a<;>omega)
 split
 ·exact⟨_,rfl⟩
 rw[ag (by split<;>omega)];exact⟨_,rfl⟩
def Kw:jU (some 0) (some f)=some 0:=by show e8 (aZ 0*aZ f) _=some 0;rw[va,p2];rfl
def Kx:jU (some f) (some 0)=some 0:=by show e8 (aZ f*aZ 0) _=some 0;rw[va,Int.mul_zero];rfl
def pP (a:Nat->Nat->Int) (c d b:Nat):ac2:=ot (jU (dJ (a b c)) (dJ (a b d)))
def hS (c:Nat->Nat->ac2) (d:Nat->Nat->Int) (a b:Nat):ac2:=fO (c b a::(List.range a).map (pP d b a))
def k3 (b:Nat->Nat->ac2) (e:Nat->Nat->Bool) (d:Nat->Nat->Int) (a c:Nat):Int:=
 if c=a then jt (hS b d a a) 0 else if e a c=true then ld (hS b d a c) (dJ (jt (hS b d a a) 0)) 0 else 0
def uX (a:Nat->Nat->ac2) (b:Nat->Nat->Bool):Nat->Nat->Nat->Int
 |0=>λ_ _=>0
 |j+1=>λd c=>if d=j then k3 a b (uX a b j) j c else uX a b j d c
def bf (b:Nat->Nat->ac2) (d:Nat->Nat->Bool) (a c:Nat):Int:=uX b d (a+1) a c
def Fb {b:Nat->Nat->ac2} {f:Nat->Nat->Bool} {a e:Nat}:∀{j},a<j->uX b f j a e=bf b f a e
 |0,d=>absurd d U
 |j+1,d=>by
  by_cases c:a=j
  ·subst c;rfl
  rw[<-Fb (j:=j) U];show(if a=j then _ else _)=_;rw[ag c]
def MW {f l':Nat->Nat->Int} {i:Nat} (e:∀b,b<a->∀i,f b i=l' b i):hS d f a i=hS d l' a i:=by unfold hS;congr 2;refine hZ λb c=>?_;have c:=gL.1 c;unfold pP;rw[e b c,e b c]
def oo (a:Nat->Nat->ac2) (c:Nat->Nat->Bool) (b d:Nat):bf a c b d=k3 a c (bf a c) b d:=by show(if b=b then k3 a c (uX a c b) b d else uX a c b b d)=_;rw[aj rfl];unfold k3;rw[MW (l':=bf a c) (λf e d=>Fb e),MW (i:=d) (l':=bf a c) (λf e d=>Fb e)]
def my (a:Nat->Nat->ac2) (d:Nat->Nat->Bool) (c b:Nat):dU (bf a d c b):=by
 rw[oo];unfold k3;split
 ·exact Xs 0
 split
 ·exact WD 0
 exact⟨aa,aa⟩
def sG (c:k b a=false) (e:a≠b):bf d k b a=0:=by rw[oo];unfold k3;rw[ag e,ag (by rw[c];decide)]
def Gy {e:Type} {f:e->ac2} {p:e->Bool}:∀{L:List e},(∀m∈L,p m=false->f m=some 0)->eZ ((L.filter p).map f)=eZ (L.map f)/\fL ((L.filter p).map f)=fL (L.map f)
 |[],_=>⟨rfl,rfl⟩
 |m::L,g=>by
  obtain⟨h,i⟩:=Gy (L:=L) λk j=>g k (by simp[j]);by_cases d:p m=true
  ·rw[vM d,eo,eo];have al:∀a b,eZ (a::b)=eZ [a]+eZ b:=λa b=>CJ [a] b;have c:∀a b,fL (a::b)=(fL [a]&&fL b):=λa b=>zc [a] b;rw[al,al _ (L.map f),c,c _ (L.map f),h,i];exact⟨rfl,rfl⟩
  rw[tz d,eo,g m ab (by simpa using d)];have al:∀a b,eZ (a::b)=eZ [a]+eZ b:=λa b=>CJ [a] b;have c:∀a b,fL (a::b)=(fL [a]&&fL b):=λa b=>zc [a] b;rw[al,c,h,i];refine⟨?_,?_⟩
  ·show _=(0:Int)+0+_;omega
  show _=(true&&true&&_);simp
def Na {c:o->ac2} {f:o->Bool} {b:List o} (g:∀e∈b,f e=false->c e=some 0):fO (l::(b.filter f).map c)=fO (l::b.map c):=by obtain⟨h,i⟩:=Gy g;have al:∀l a,eZ (l::a)=eZ [l]+eZ a:=λl a=>CJ [l] a;have d:∀l a,fL (l::a)=(fL [l]&&fL a):=λl a=>zc [l] a;unfold fO;rw[al,al _ (b.map c),d,d _ (b.map c),h,i]
def aX (a:acX) (c b:Nat):Bool:=decide ((b:Int)∈aY a c)
def Mf:aX e b a=true↔a<e.length/\jz e b a:=by unfold aX;rw[decide_eq_true_eq,sI]
def Cj (b:a<e.length):aX e a a=true:=Mf.2 ⟨b,.inl rfl⟩
def tX {G:acX} {j:Nat} {x:Int} (b:x∈aY G j):∃a:Nat,x=(a:Int)/\a<G.length/\j<=a/\aX G j a=true:=by have d:=b;unfold aY jM at b;obtain⟨a,e,rfl⟩:=bR.1 b;have c:=sI.1 d;exact⟨a,rfl,c.1,c.2.le,Mf.2 c⟩
def DH {G:acX} {j:Nat} (i:j<G.length):∃b,aY G j=(j:Int)::b/\∀g∈b,(j:Int)<g:=by
 have a:(j:Int)∈aY G j:=sI.2 ⟨i,.inl rfl⟩;have f:=tV G j;cases d:aY G j with
 |nil=>rw[d] at a;cases a
 |cons h b=>
  rw[d] at a f;obtain⟨e,k⟩:=mT.1 f;rcases dg.1 a with c|c
  ·subst c;exact⟨b,rfl,e⟩
  have:=e _ c;obtain⟨m,rfl,_,l,_⟩:=tX (G:=G) (j:=j) (x:=h) (by rw[d];simp);omega
def tW {G:acX} (a:Nat):(aY G a).length<=G.length:=It _ _ _
def gm (b:acX) (d a:Nat):ac8:=gB ((List.range (min d a)).filter λc=>aX b c a)
def H0 (D:a<=5) (t:e.length=a) (u:dZ e) (v:∀z∈e,z.length<4611686018427387904) (s:List hd):wg (some ((a:Int),(e,()),s,()),())=some ((aF a (aY e),(aF a λ_=>[]),(aF a λ_=>none),(aF a λb=>gm e a b),()),()):=by
 unfold wg;dsimp only;rw[Option.bind_some];refine ak (NZ u v U) ?_;rw[t];refine ak rfl (ak (gA U) (ak rfl (ak (gA U) (ak rfl (ak (gA U) ?_)))));refine ac.eq_iff.1 ?_;dsimp only;have w:(List.range a).map (aY e)=aF a (aY e):=rfl;rw[w];refine ac.aU (P:=λj=>j=((aF a (aY e),(aF a λ_=>[]),(aF a λ_=>none),(aF a λb=>gm e a b),()),())) ?_ (by rintro _ rfl;exact ac.af.2 rfl);refine ac.steps a (λc d=>d=((c:Int),(aF a (aY e),(aF a λ_=>[]),(aF a λ_=>none),(aF a λb=>gm e c b),()),())) ?_ ?_ ?_
 ·rw[hu,hu];have:(aF a λ_=>([]:ac8))=aF a λb=>gm e 0 b:=dy λb _=>by
   unfold gm;rw[Nat.zero_min];rfl
  rw[<-this];rfl
 ·rintro c _ F rfl;dsimp only;rw[bb (aA (show(c:Int)<ar (aF a (aY e)) by rw[aV,bp];omega)),bi U];refine ac.bs (by rw[bL (by rw[bp];omega),gx]) ?_;have C:=tW (G:=e) c;have x:∀c b,(gm e c b).length<=b:=λc b=>by
   unfold gm;rw[u5];refine db (hY _ _) ?_;rw[nP];omega
  refine ac.aU (P:=λj=>j=((aF a (aY e),(aF a λ_=>[]),(aF a λ_=>none),(aF a λb=>gm e (c+1) b),()),())) ?_ (by rintro _ rfl;exact ac.af.2 rfl);refine ac.steps (aY e c).length (λd A=>A=((d:Int),(aF a (aY e),(aF a λ_=>[]),(aF a λ_=>none),(aF a λb=>gm e c b++if(b:Int)∈(aY e c).take d/\c<b then[(c:Int)] else[]),()),())) ?_ ?_ ?_
  ·have:(aF a λb=>gm e c b)=aF a λb=>gm e c b++if(b:Int)∈(aY e c).take 0/\c<b then[(c:Int)] else[]:=dy λb _=>by simp
   rw[<-this];rfl
  ·rintro d _ n rfl;dsimp only;rw[bb (aA (show(d:Int)<ar (aY e c) by rw[aV];omega)),bi U];obtain⟨h,r,J,H,E⟩:=tX (List.getElem_mem n);have q:(aY e c).take (d+1)=(aY e c).take d++[(h:Int)]:=(by rw[List.take_add_one,List.getElem?_eq_getElem n,r];rfl);have o:(h:Int)∉(aY e c).take d:=λf=>by
    obtain⟨B,I,i⟩:=C9.1 f;have:=ga.1 (tV e c) B d U n U;omega
   refine ac.aU (P:=λj=>j=((aF a (aY e),(aF a λ_=>[]),(aF a λ_=>none),(aF a λb=>gm e c b++if(b:Int)∈(aY e c).take (d+1)/\c<b then[(c:Int)] else[]),()),())) ?_ (by rintro _ rfl;exact ac.af.2 rfl);refine ac.bs (y:=(h:Int)) (by rw[bL n,r]) ?_;have p:∀b:Nat,b≠h->((b:Int)∈(aY e c).take (d+1)↔(b:Int)∈(aY e c).take d):=λb m=>(by rw[q,dX,ed];exact⟨λf=>f.resolve_right λf=>m U,.inl⟩);rw[bj];refine ac.ite (λk=>?_) (λk=>?_)
   ·refine ac.bs (eL (by rw[bp];omega)) ?_;rw[fv U,aG,ag (λf=>o f.1),jb];have:=x c h;rw[er (by simp;omega),aG];refine ac.bs (eL (by rw[bp];omega)) ?_;rw[bb ab];rw[fv U,aG,ag (λf=>o f.1),jb,fv U,g3];refine ac.af.2 ?_;have:aF a (eI (λb=>gm e c b++if(b:Int)∈(aY e c).take d/\c<b then[(c:Int)] else[]) h (gm e c h++[(c:Int)]))=aF a λb=>gm e c b++if(b:Int)∈(aY e c).take (d+1)/\c<b then[(c:Int)] else[]:=by
     refine dy λb m=>?_;by_cases i:b=h
     ·subst i;rw[iF,aj ⟨by rw[q];simp,U⟩]
     rw[iE _ _ i];have:=p b i;by_cases g:(b:Int)∈(aY e c).take d/\c<b
     ·rw[aj g,aj ⟨this.2 g.1,g.2⟩]
     rw[ag g,ag λf=>g ⟨this.1 f.1,f.2⟩]
    rw[<-this]
   refine ac.af.2 ?_;have:(aF a λb=>gm e c b++if(b:Int)∈(aY e c).take d/\c<b then[(c:Int)] else[])=aF a λb=>gm e c b++if(b:Int)∈(aY e c).take (d+1)/\c<b then[(c:Int)] else[]:=by
    refine dy λb m=>?_;by_cases i:b=h
    ·subst i;rw[ag U,ag U]
    have:=p b i;by_cases g:(b:Int)∈(aY e c).take d/\c<b
    ·rw[aj g,aj ⟨this.2 g.1,g.2⟩]
    rw[ag g,ag λf=>g ⟨this.1 f.1,f.2⟩]
   rw[<-this]
  rintro _ rfl;dsimp only;rw[a2 (ay (show¬(((aY e c).length:Nat):Int)<ar (aY e c) by rw[aV];omega)),List.take_of_length_le (Nat.le_refl _)];refine ac.af.2 ?_;have:(aF a λb=>gm e c b++if(b:Int)∈aY e c/\c<b then[(c:Int)] else[])=aF a λb=>gm e (c+1) b:=by
   refine dy λb m=>?_;unfold gm;by_cases k:c<b
   ·rw[fr U,fr U,kV,ln,KD];congr 1;by_cases l:(b:Int)∈aY e c
    ·rw[aj ⟨l,k⟩,vM (by unfold aX;exact aA l)];rfl
    rw[ag (λf=>l f.1),tz (by unfold aX;simpa using l)];rfl
   rw[Nat.min_eq_right U,Nat.min_eq_right U,ag (λf=>k f.2),jb]
  rw[this]
 rintro _ rfl;dsimp only;rw[a2 (ay (show¬((a:Int)<ar (aF a (aY e))) by rw[aV,bp];omega))];exact ac.af.2 rfl
def tr (d:Nat->Nat->ac2) (b:acX) (e:Nat):Prop:=∀a,a<e->∀c,aX b a c=true->bE (bf d (aX b) a c)≠2047
def tr.of (f:tr d e b) {i:Nat} (g:a<b) (j:a<i):∃h,dJ (bf d (aX e) a i)=some h:=by
 by_cases c:aX e a i=true
 ·exact Fx (f a g i c)
 rw[sG (by simpa using c) U,sP];exact⟨0,rfl⟩
def Nk (f:tr d e a) {i:Nat} (g:b<a) (m:a<=i) (c:aX e b i=false\/aX e b a=false):pP (bf d (aX e)) i a b=some 0:=by
 unfold pP;obtain⟨k,h⟩:=f.of g (i:=i) U;obtain⟨l,j⟩:=f.of g (i:=a) U;rcases c with c|c
 ·rw[sG c U,sP,j,Kw];rfl
 rw[sG c U,sP,h,Kx];rfl
structure kQ (A:Nat->Nat->ac2) (G:acX) (n j:Nat) (X:List hd):Prop where
 len:X.length=n
 get:∀m,m<j->∃l c,X[m]?=some (some (l,c))/\∀i,i<n->eg l (i:Int)=if aX G m i=true then some (aT (dJ (bf A (aX G) m i))) else none
def Nj (c:Nat->Nat->Int) (a b d:Nat):dm (pP c a b d):=Fs (BY _ _)
def vl (a:Nat->Nat->ac2) (d:Nat->Nat->Int) (c b:Nat):dm (hS a d c b):=Nb _
def MX {g:Nat} (T:g<=5) {f:ac8} {E:List bu} {q:List hd} (I:iL g f E q) {e D:acX} {b:Nat} (x:b<g) (v:tr (bg E f) e b) {r:List hd} (J:kQ (bg E f) e g b r) (O:acX) (G:acX) {c:Nat} (w:c<g) (z:b<=c):wi (some (G,O,r,(aF g λc=>gm e g c),()),some ((g:Int),(D,()),q,()),(c:Int),(b:Int),())=some (aT (hS (bg E f) (bf (bg E f) (aX e)) b c),()):=by
 unfold wi;refine ak (MT I w x) ?_;refine ak rfl ?_;refine ak (by rw[bL (by rw[bp];omega),gx]) ?_;dsimp only;have M:gm e g b=gB ((List.range b).filter λa=>aX e a b):=(by unfold gm;rw[Nat.min_eq_right U]);rw[M];generalize l:(List.range b).filter (λa=>aX e a b)=d;have u:∀a∈d,a<b/\aX e a b=true:=λa i=>(by rw[<-l] at i;exact⟨List.mem_range.1 (List.mem_filter.1 i).1,(List.mem_filter.1 i).2⟩);have S:d.length<=5:=by rw[<-l];refine Nat.le_trans (List.length_filter_le _ _) ?_;rw[List.length_range];omega
 let Q:=bg E f
 let j:=pP (bf (bg E f) (aX e)) c b
 refine ac.eq_iff.1 ?_;refine ac.aU (P:=λp=>p=(jg,(bg E f c b::(d.filter λa=>aX e a c).map j).map aT,())) ?_ ?_
 ·refine ac.steps d.length (λh N=>N=((h:Int),jg,(bg E f c b::((d.take h).filter λa=>aX e a c).map j).map aT,())) rfl ?_ ?_
  ·rintro h _ n rfl;dsimp only;rw[bb (aA (show(h:Int)<ar (gB d) by rw[aV,u5];omega)),bi U];refine ac.aU (P:=λp=>p=(jg,(bg E f c b::((d.take (h+1)).filter λa=>aX e a c).map j).map aT,())) ?_ (by rintro _ rfl;exact ac.af.2 rfl);obtain⟨K,L⟩:=u d[h] (List.getElem_mem n);refine ac.bs (y:=((d[h]:Nat):Int)) (by rw[bL (by rw[u5];exact n)];simp[gB]) ?_;rw[GB n];generalize d[h]=a at*;obtain⟨C,F,s,t⟩:=J.get a K;refine ac.bs rfl (ac.bs (dW s) ?_);have A:∀B:Nat,iC (α:=bw) (some (C,F)) (B:Int)=eg C (B:Int):=λ_=>rfl;rw[A c,t c w];by_cases k:aX e a c=true
   ·rw[aj k,aj k,yX,cond_true];refine ac.bs rfl (ac.bs (dW s) ?_);rw[A b,t b x,aj L];refine ac.bs (IL (jq _) (jq _)) (ac.bs (IM (BY _ _)) ?_);have:((d.take h).filter λa=>aX e a c).length<=5:=by
     refine db (hY _ _) ?_;rw[dS];omega
    rw[er (by simp;omega)];refine ac.af.2 ?_;rw[fZ,<-jc,fZ];rfl
   rw[ag k,ag k,Option.isSome_none,cond_false,jb];exact ac.af.2 rfl
  rintro _ rfl;dsimp only;rw[a2 (ay (show¬((d.length:Int)<ar (gB d)) by rw[aV,u5];omega)),List.take_of_length_le (Nat.le_refl _)];exact ac.af.2 rfl
 rintro _ rfl;dsimp only;refine ac.bs (IN ?_ ?_) (ac.af.2 ?_)
 ·intro R m;rcases dg.1 m with rfl|m
  ·exact jq _
  obtain⟨a,_,rfl⟩:=bR.1 m;exact Nj _ _ _ _
 ·have:=hY (λa=>aX e a c) d;simp only[hX,fK];omega
 have al:fO (bg E f c b::(d.filter λa=>aX e a c).map j)=fO (bg E f c b::d.map j):=Na λa i o=>Nk v (u a i).1 z (.inl o);have H:fO (bg E f c b::d.map j)=fO (bg E f c b::(List.range b).map j):=(by rw[<-l];exact Na λa i o=>Nk v (gL.1 i) z (.inr o));rw[al,H];rfl
def fP (c:Nat->Nat->ac2) (a:acX) (b:Nat):ac8:=(aY a b).map λd=>bf c (aX a) b d.toNat
def fw (b:Nat->Nat->ac2) (c:acX) (a:Nat):Int:=open Classical in if lU (hS b (bf b (aX c)) a a)<=0\/nj (bf b (aX c) a a)=0 then 231 else if∀d,aX c a d=true->bE (bf b (aX c) a d)≠2047 then 0 else 233
def lw (d:Nat->Nat->ac2) (e:acX) (i b:Nat) (f:ac8) (g:List hd):Prop:=∃c h,g[b]?=some (some (c,h))/\∀a,a<i->eg c ((a:Nat):Int)=if((a:Nat):Int)∈f then some (aT (dJ (bf d (aX e) b a))) else none
def kQ.set {b:Nat->Nat->ac2} {c:acX} {f a:Nat} {d:List hd} (e:kQ b c f a d) (m:hd):kQ b c f a (d.set a m) where
 len:=by rw[rz,e.len]
 get:=λl j=>by obtain⟨k,g,h,i⟩:=e.get l j;exact⟨k,g,by rw[ls U,h],i⟩
def kQ.next (h:kQ d e b a p) (n:lw d e b a (aY e a) p):kQ d e b (a+1) p where
 len:=h.len
 get:=λf q=>by
  rcases bn f a with g|g
  ·exact h.get f g
  obtain rfl:f=a:=U;obtain⟨o,j,k,l⟩:=n;refine⟨o,j,k,λi m=>?_⟩;rw[l i m];unfold aX;by_cases c:(i:Int)∈aY e f
  ·rw[aj c,aj (aA c)]
  rw[ag c,ag (by simpa using c)]
def lw.one {b:Nat->Nat->ac2} {c:acX} {i a:Nat} {d:List hd} (g:a<d.length) (e:Nat):lw b c i a [(a:Int)] (d.set a (some (g8 [] (a:Int) (aT (dJ (bf b (aX c) a a))),e))):=by
 refine⟨_,_,ks g,λh j=>?_⟩;rw[xE];by_cases f:h=a
 ·subst f;rw[aj rfl,aj ab]
 rw[ag U,ag (by simp;omega)];rfl
def lw.add (k:p[a]?=some (some (w,i))) (n:lw d e b a c p) (f:Nat) (s:bw) (l:Nat):lw d e b a (c++[(f:Int)]) (p.set a (some (g8 (g8 w (f:Int) s) (f:Int) (aT (dJ (bf d (aX e) a f))),l))):=by
 have r:a<p.length:=(ec.1 k).1;obtain⟨u,t,j,o⟩:=n;rw[k] at j;cases j;refine⟨_,_,ks r,λh q=>?_⟩;rw[xE,xE,o h q];by_cases m:h=f
 ·subst m;rw[aj rfl,aj ab]
 rw[ag U,ag U];by_cases g:(h:Int)∈c
 ·rw[aj g,aj (by simp[g])]
 rw[ag g,ag (by simp[g];omega)]
def P7 (a3:b<=5) {E:List bu} {F:List hd} (Z:iL b c E F) {V:acX} (el:e.length=b) (r:a<b) (an:tr (bg E c) e a) (M:kQ (bg E c) e b a p):ac (zv ((aF b (aY e),(aF b λg=>if g<a then fP (bg E c) e g else[]),p,(aF b λd=>gm e b d),()),some ((b:Int),(V,()),F,()),(a:Int),())) λf=>f.2.1=fw (bg E c) e a/\(fw (bg E c) e a=0->∃k,kQ (bg E c) e b (a+1) k/\f.1=(aF b (aY e),(aF b λg=>if g<a+1 then fP (bg E c) e g else[]),k,(aF b λd=>gm e b d),())):=by
 classical
 unfold zv;refine ac.bs (MX a3 Z r an M _ _ r (Nat.le_refl _)) ?_;dsimp only;refine ac.bs (mm (vl _ _ _ _)) ?_;dsimp only;have a4:bf (bg E c) (aX e) a a=jt (hS (bg E c) (bf (bg E c) (aX e)) a a) 0:=(by rw[oo];unfold k3;rw[if_pos rfl]);rw[bj];refine ac.ite (λH=>?_) (λH=>?_)
 ·refine ac.af.2 ?_;have n:fw (bg E c) e a=231:=(by unfold fw;rw[aj (.inl H)]);exact⟨n.symm,λh=>by rw[n] at h;cases h⟩
 refine ac.bs (Rt (vl _ _ _ _)) ?_;dsimp only;rw[<-a4];have C:=my (bg E c) (aX e) a a;refine ac.bs (Sf C) ?_;dsimp only;rw[dO,bj];refine ac.ite (λI=>?_) (λI=>?_)
 ·refine ac.af.2 ?_;have n:fw (bg E c) e a=231:=(by unfold fw;rw[aj (.inr I)]);exact⟨n.symm,λh=>by rw[n] at h;cases h⟩
 have n:fw (bg E c) e a=if∀d,aX e a d=true->bE (bf (bg E c) (aX e) a d)≠2047 then 0 else 233:=by unfold fw;rw[ag (λh=>h.elim H I)]
 have d2:∀d,d≠a->aX e a d=true->bf (bg E c) (aX e) a d=ld (hS (bg E c) (bf (bg E c) (aX e)) a d) (dJ (bf (bg E c) (aX e) a a)) 0:=λd z A=>(by rw[oo];unfold k3;rw[ag z,aj A,<-a4]);have d0:∀d,dm (hS (bg E c) (bf (bg E c) (aX e)) a d):=λd=>vl _ _ _ _;have d4:=@MX b a3 c E F Z e V a r an;have av:=my (bg E c) (aX e);obtain⟨f,s,d3⟩:=DH (G:=e) (j:=a) U;have a0:∀i∈f,∃d:Nat,i=(d:Int)/\d<b/\a<d/\aX e a d=true:=λi m=>(by obtain⟨d,rfl,z,A,L⟩:=tX (G:=e) (j:=a) (x:=i) (by rw[s];simp[m]);exact⟨d,rfl,U,by have:=d3 _ m;omega,L⟩);have O:(∀d,aX e a d=true->bE (bf (bg E c) (aX e) a d)≠2047)↔bE (bf (bg E c) (aX e) a a)≠2047/\∀i∈f,bE (bf (bg E c) (aX e) a i.toNat)≠2047:=by
  constructor
  ·intro h;refine⟨h a (Cj U),λi m=>?_⟩;obtain⟨d,rfl,_,_,L⟩:=a0 i m;exact h d L
  rintro⟨z,A⟩ d ap;have:(d:Int)∈aY e a:=(by unfold aX at ap;exact of_decide_eq_true ap);rw[s] at this;rcases dg.1 this with X|X
  ·obtain rfl:d=a:=U;exact z
  exact A _ X
 have d6:fP (bg E c) e a=bf (bg E c) (aX e) a a::f.map λd=>bf (bg E c) (aX e) a d.toNat:=(by unfold fP;rw[s,List.map_cons,Int.toNat_natCast]);have ex:f.length<=5:=(by have:=tW (G:=e) a;rw[s,List.length_cons] at this;omega);have ds:lw (bg E c) e b a (aY e a)=lw (bg E c) e b a ((a:Int)::f):=(by rw[s]);refine ac.bs (sQ C) ?_;dsimp only;refine ac.bs rfl ?_;refine ac.bs (eL (by rw[bp];omega)) ?_;rw[fv r,g3];refine ac.bs rfl ?_;dsimp only;have em:=M.len;refine ac.bs (eL U) ?_;rw[mZ (List.getElem?_eq_getElem (U:a<p.length))];refine ac.bs rfl ?_;dsimp only;have N:kQ (bg E c) e b a (p.set a (some (g8 [] (a:Int) (aT (dJ (bf (bg E c) (aX e) a a))),1))):=M.set _;have ad:lw (bg E c) e b a [(a:Int)] (p.set a (some (g8 [] (a:Int) (aT (dJ (bf (bg E c) (aX e) a a))),1))):=lw.one U 1;change ac ((o7 (bf (bg E c) (aX e) a a,())).bind _) _;change kQ (bg E c) e b a (p.set a (some (g8 [] (a:Int) (aT (dJ (bf (bg E c) (aX e) a a))),1))) at N;generalize cv:p.set a (some (g8 [] (a:Int) (aT (dJ (bf (bg E c) (aX e) a a))),1))=co at N ad;refine ac.bs (BG C) ?_;dsimp only;rw[Bool.not_not,bj];refine ac.ite (λJ=>?_) (λJ=>?_)
 ·refine ac.af.2 ?_;rw[n,ag (λh=>(O.1 h).1 J)];exact⟨rfl,λh=>by cases h⟩
 refine ac.bs (by rw[bL (by rw[bp];omega),gx]) ?_;have bl:((e9 1).bind λce=>(some ((aY e a).length)).bind λci=>(fy ce ci (aY e a).length).map λ_=>(ce,ci))=some (1,(aY e a).length):=(by rw[s];show((fy 1 (f.length+1) (f.length+1)).map λ_=>(1,f.length+1))=_;unfold fy;rw[if_pos ⟨U,U⟩];rfl);refine ac.bs bl ?_;dsimp only;have am:((aY e a).take (aY e a).length).drop 1=f:=(by rw[List.take_length,s];rfl);rw[am];clear bl am;refine ac.aU (P:=λT=>(∃k,kQ (bg E c) e b a k/\lw (bg E c) e b a ((a:Int)::f) k/\(∀i∈f,bE (bf (bg E c) (aX e) a i.toNat)≠2047)/\T=.inl ((aF b (aY e),(aF b λg=>if g<a+1 then fP (bg E c) e g else[]),k,(aF b λd=>gm e b d),()),()))\/∃W,T=.inr (W,233,())/\∃i∈f,bE (bf (bg E c) (aX e) a i.toNat)=2047) ?_ ?_
 ·refine ac.steps f.length (λl ek=>∃k,kQ (bg E c) e b a k/\lw (bg E c) e b a ((a:Int)::f.take l) k/\(∀i∈f.take l,bE (bf (bg E c) (aX e) a i.toNat)≠2047)/\ek=((l:Int),(aF b (aY e),aF b (eI (λg=>if g<a then fP (bg E c) e g else[]) a (bf (bg E c) (aX e) a a::(f.take l).map λd=>bf (bg E c) (aX e) a d.toNat)),k,(aF b λd=>gm e b d),()),())) ?_ ?_ ?_
  ·exact⟨co,N,ad,ab,by rw[<-cv];rfl⟩
  ·rintro l _ B ⟨k,u,t,v,rfl⟩;dsimp only;rw[bb (aA (show(l:Int)<ar f by rw[aV];omega))];obtain⟨o,S,d7,eq,d1⟩:=a0 f[l] (List.getElem_mem B);have R:f.take (l+1)=f.take l++[(o:Int)]:=(by rw[List.take_add_one,List.getElem?_eq_getElem B,S];rfl);refine ac.bs (y:=(o:Int)) (by rw[bL B,S]) ?_;refine ac.bs (d4 u _ _ d7 U) ?_;dsimp only;refine ac.bs (sQ C) ?_;dsimp only;refine ac.bs (Rq (d0 o) (jq _)) ?_;dsimp only;rw[<-d2 o U d1];refine ac.bs (BG (av a o)) ?_;dsimp only;rw[Bool.not_not,bj];refine ac.ite (λK=>?_) (λK=>?_)
   ·exact ac.af.2 (.inr ⟨_,rfl,(o:Int),by rw[<-S];exact bD B,K⟩)
   obtain⟨d9,cs,w,dl⟩:=t;have Q:a<k.length:=(List.getElem?_eq_some_iff.1 w).1;refine ac.bs (eL Q) (ac.bs (eL (by rw[bp];omega)) ?_);rw[fv r,iF];refine ac.bs rfl ?_;rw[er (by simp;omega)];refine ac.bs rfl ?_;refine ac.bs (sQ (av a o)) ?_;dsimp only;refine ac.bs (eL (by rw[bp];omega)) ?_;rw[bb ab,fv r,iF];refine ac.bs rfl ?_;rw[fv r,g3];refine ac.bs rfl ?_;dsimp only;refine ac.bs (mZ w) ?_;refine ac.bs rfl ?_;rw[mZ w];refine ac.bs rfl ?_;dsimp only;rw[bb ab];refine ac.bs (mZ (List.getElem?_set_self Q)) ?_;refine ac.bs rfl ?_;rw[mZ (List.getElem?_set_self Q)];refine ac.bs rfl ?_;dsimp only;rw[bi U,List.set_set];have al:aF b (eI (eI (λg=>if g<a then fP (bg E c) e g else[]) a (bf (bg E c) (aX e) a a::(f.take l).map λd=>bf (bg E c) (aX e) a d.toNat)) a (bf (bg E c) (aX e) a a::((f.take l).map λd=>bf (bg E c) (aX e) a d.toNat)++[bf (bg E c) (aX e) a o]))=aF b (eI (λg=>if g<a then fP (bg E c) e g else[]) a (bf (bg E c) (aX e) a a::(f.take (l+1)).map λd=>bf (bg E c) (aX e) a d.toNat)):=by
    refine dy λD d5=>?_;by_cases q:D=a
    ·subst q;rw[iF,iF,R,fZ];rfl
    rw[iE _ _ q,iE _ _ q,iE _ _ q]
   rw[al];refine ac.af.2 ⟨_,u.set _,?_,?_,rfl⟩
   ·rw[R,<-jc];exact lw.add w ⟨d9,cs,w,dl⟩ o _ _
   intro i m;rw[R,dX,ed] at m;rcases m with m|rfl
   ·exact v i m
   exact K
  rintro _ ⟨k,u,t,v,rfl⟩;dsimp only;rw[List.take_of_length_le (Nat.le_refl _)] at t v|-;rw[a2 (ay (show¬((f.length:Int)<ar f) by rw[aV];omega))];refine ac.af.2 (.inl ⟨k,u,t,v,?_⟩);have al:aF b (eI (λg=>if g<a then fP (bg E c) e g else[]) a (bf (bg E c) (aX e) a a::f.map λd=>bf (bg E c) (aX e) a d.toNat))=aF b λg=>if g<a+1 then fP (bg E c) e g else[]:=by
   refine dy λD d5=>?_;by_cases q:D=a
   ·subst q;rw[iF,aj U,d6]
   rw[iE _ _ q];by_cases Y:D<a
   ·rw[aj Y,aj U]
   rw[ag Y,ag U]
  rw[al]
 rintro T (⟨k,u,t,v,rfl⟩|⟨W,rfl,i,m,d8⟩)
 ·dsimp only;refine ac.af.2 ?_;rw[n,if_pos (O.2 ⟨J,v⟩)];exact⟨rfl,λ_=>⟨k,u.next (by rw[ds];exact t),rfl⟩⟩
 dsimp only;refine ac.af.2 ?_;rw[n,if_neg (λh=>(O.1 h).2 i m d8)];exact⟨rfl,λh=>by cases h⟩
def bA (a:acX):Nat->ac8
 |0=>[]
 |j+1=>bA a j++aY a j
def iq (a:Nat->Nat->ac2) (b:acX):Nat->ac8
 |0=>[]
 |j+1=>iq a b j++fP a b j
def ey (c:Nat->Nat->ac2) (a:acX) (e:ac8) (b:Nat):dq:=(e,(aF (b+1) (λd=>((bA a d).length:Int)),(bA a b,(iq c a b,()))))
def fA:dq:=(([]:aM),(([]:aM),(([]:aM),(([]:aM),()))))
def iY (b:Nat->Nat->ac2) (c:acX) (e:ac8) (d:Nat):md:=match(List.range d).find? λa=>decide (fw b c a≠0) with
 |some a=>if fw b c a=231 then(fA,(a:Int),231,()) else(fA,0,fw b c a,())
 |none=>(ey b c e d,(d:Int),0,())
def J2 {o:ac8} (f:∀c,c<a->fw d e c=0) (h:a<b) (g:fw d e a≠0):iY d e o b=if fw d e a=231 then(fA,(a:Int),231,()) else(fA,0,fw d e a,()):=by have:(List.range b).find? (λa=>decide (fw d e a≠0))=some a:=(by rw[List.find?_eq_some_iff_getElem];refine⟨aA g,a,by simpa using h,ab,λc i=>?_⟩;simp only[List.getElem_range];simpa using f c i);unfold iY;rw[this]
def xA (f:∀b,b<a->fw d e b=0):iY d e c a=(ey d e c a,(a:Int),0,()):=by have:(List.range a).find? (λh=>decide (fw d e h≠0))=none:=(by rw[yO];intro b g;simpa using f b (gL.1 g));unfold iY;rw[this]
def I5 (b:fw d e a=0):∀c,aX e a c=true->bE (bf d (aX e) a c)≠2047:=by
 unfold fw at b;split at b
 ·cases b
 split at b
 ·assumption
 cases b
def Jz (c:∀b,b<a->fw d e b=0):tr d e a:=λb f=>I5 (c b f)
def xq (a:acX):∀j,(bA a j).length<=j*a.length
 |0=>bM _
 |j+1=>by rw[bA,lu,e2,gN];have:=xq a j;have:=tW (G:=a) j;omega
def pS (b:Nat->Nat->ac2) (a:acX):∀j,(iq b a j).length=(bA a j).length
 |0=>rfl
 |j+1=>by rw[bA,iq,lu,lu,pS b a j];unfold fP;rw[fK]
def PV (d:c.length<=100000000):Af (c,())=some (c,()):=by
 unfold Af;have a:((bJ (([]:ac8).length+c.length)).bind λ_=>some (([]++c:ac8),()))=some (c,()):=(by rw[er (by simp;omega)];rfl);show mC c.length (some ([],())) ((bJ (([]:ac8).length+c.length)).bind λ_=>some (([]++c:ac8),()))=_;unfold mC;rw[a];split
 ·rename_i b;obtain rfl:=lm b;rw[aj rfl]
 rfl
def Ja (r:a<=5) (p:e.length=a) (s:c.length<=1000000) (f:List hd) (i:acX):wh (some (aF a (aY e),aF a (fP d e),f,i,()),c,())=some (ey d e c a,()):=by
 unfold wh;refine ak (PV U) ?_;refine ak rfl ?_;refine ac.eq_iff.1 ?_;dsimp only;refine ac.aU (P:=λh=>h=(fA,ey d e c a,())) ?_ (by rintro _ rfl;exact ac.af.2 rfl);refine ac.steps a (λb j=>j=((b:Int),fA,(c,(aF (b+1) (λg=>((bA e g).length:Int)),(bA e b,(iq d e b,())))),())) ?_ ?_ ?_
 ·rfl
 ·rintro b _ q rfl;dsimp only;rw[bb (aA (show(b:Int)<ar (aF a (aY e)) by rw[aV,bp];omega)),bi U];refine ac.bs rfl ?_;refine ac.bs (by rw[bL (by rw[bp];omega),gx]) ?_;have k:=xq e b;have l:=tW (G:=e) b;have m:=pS d e b;have n:b*e.length<=5*5:=Nat.mul_le_mul U U;have o:(fP d e b).length=(aY e b).length:=(by unfold fP;rw[List.length_map]);rw[er U];refine ac.bs rfl (ac.bs rfl ?_);refine ac.bs (by rw[bL (by rw[bp];omega),gx]) ?_;rw[er U];refine ac.bs rfl ?_;rw[er (by rw[bp];simp;omega)];refine ac.bs rfl (ac.af.2 ?_);rw[m8 (b+1)];rfl
 rintro _ rfl;dsimp only;rw[a2 (ay (show¬((a:Int)<ar (aF a (aY e))) by rw[aV,bp];omega))];exact ac.af.2 rfl
def Ha {n:Nat} (i:n<=5) (e:ev n n h g m) (H:eA n n h g m=0) (q:dG c n):o4 (((n:Int),(n:Int),h,g,m,()),c,())=some (iY (bg (bt h g m n) c) (g6 n (eb (bt h g m n)) c) c n):=by
 obtain⟨z,D,F⟩:=yV i e H q;have r:=xm (E:=eb (bt h g m n)) q;have C:=EK n (eb (bt h g m n)) c;have B:=BD (E:=eb (bt h g m n)) i q;have L:=q.1;unfold o4;refine ak F ?_;dsimp only;rw[a2 (show((0:Int)!=0)=false from rfl)];generalize g6 n (eb (bt h g m n)) c=b at*;generalize bt h g m n=E at*;refine ak (H0 i r C B z) (ak rfl ?_);refine ac.eq_iff.1 ?_;dsimp only;refine ac.aU (P:=λt=>(t=.inr (iY (bg E c) b c n))\/(∃d,t=.inl (fA,(aF n (aY b),aF n (fP (bg E c) b),d,(aF n λs=>gm b n s),()),()))/\iY (bg E c) b c n=(ey (bg E c) b c n,(n:Int),0,())) ?_ ?_
 ·refine ac.steps n (λf I=>(∀a,a<f->fw (bg E c) b a=0)/\∃d,kQ (bg E c) b n f d/\I=((f:Int),fA,(aF n (aY b),(aF n λa=>if a<f then fP (bg E c) b a else[]),d,(aF n λs=>gm b n s),()),())) ?_ ?_ ?_
  ·exact⟨λa e=>absurd e U,aF n (λ_=>none),⟨bp _ _,λa e=>absurd e U⟩,rfl⟩
  ·rintro f _ y ⟨j,d,v,rfl⟩;dsimp only;rw[bb (aA (U:(f:Int)<(n:Int))),bi U];refine ac.aU (P7 i D r y (Jz j) v) ?_;rintro⟨J,K,_⟩ ⟨x,w⟩;dsimp only at x w|-;subst x;rw[dO,bj];refine ac.ite (λk=>?_) (λk=>?_)
   ·obtain⟨A,G,rfl⟩:=w k;refine ac.af.2 ⟨λa e=>?_,A,G,rfl⟩;rcases bn a f with p|p
    ·exact j a p
    obtain rfl:a=f:=U;exact k
   rw[dO,bj];have u:=J2 (o:=c) j y k;refine ac.ite (λl=>?_) (λl=>?_)
   ·refine ac.af.2 (.inl ?_);rw[u,aj l,l];rfl
   refine ac.af.2 (.inl ?_);rw[u,ag l];rfl
  rintro _ ⟨j,d,v,rfl⟩;dsimp only;rw[a2 (ay (U:¬((n:Int)<(n:Int))))];refine ac.af.2 (.inr ⟨⟨d,?_⟩,xA j⟩);have:(aF n λa=>if a<n then fP (bg E c) b a else[])=aF n (fP (bg E c) b):=dy λa e=>if_pos e;rw[this]
 rintro t (rfl|⟨⟨d,rfl⟩,p⟩)
 ·exact ac.af.2 rfl
 dsimp only;refine ac.bs (Ja i r U d _) ?_;rw[p];exact ac.af.2 rfl
def Ol (e:ev b a h c m) (f:g.length<=1000000) (d:fl b a h c m g≠0):o4 (((b:Int),(a:Int),h,c,m,()),g,())=some (fA,0,fl b a h c m g,()):=by unfold o4;refine ak (Da e f d) ?_;dsimp only;rw[bH,ay d];rfl
def R3 (e:dU f):AY (f,())=some (decide (nj f=0),()):=by
 unfold AY;have d:nj f=0↔f=0\/f=9223372036854775808:=by
  unfold nj bE eW;obtain⟨g,h⟩:=e;constructor
  ·intro a;split at a
   ·split at a<;>cases a
   split at a
   ·omega
   cases a
  intro a;rw[ag U,aj U]
 dsimp only;rw[dO,dO];by_cases b:f=0
 ·rw[aA b,aA (d.2 (.inl b))];rfl
 rw[ay b];by_cases c:f=9223372036854775808
 ·rw[aA c,aA (d.2 (.inr c))];rfl
 rw[ay c,ay (λa=>(d.1 a).elim b c)];rfl
def Md (a:dU f) (b:dU j):uB (f,j,())=some (aT (jU (dJ f) (dJ j)),()):=by unfold uB;refine ak (yg a) (ak (yg b) ?_);exact ak (Xa (jq _) (jq _)) rfl
def Xq (a:dm l):w6 (aT l,())=some (jt l 0,()):=by unfold w6;exact ak (Xk a) rfl
def WC (a:dm l) (b:dm x):AZ (aT l,aT x,())=some (ld l x 0,()):=by unfold AZ;exact ak (Xj a b) rfl
def eH (e:Nat->Nat->ac2) (b:acX) (d f a c:Nat):Int:=if(a<d/\aX b a c=true)\/(a=d/\(c:Int)∈(aY b d).take f) then bf e (aX b) a c else 0
def Nh (h:a<i) (g:b≠a):eH d e i q a b=bf d (aX e) a b:=by
 unfold eH;by_cases c:aX e a b=true
 ·rw[aj (.inl ⟨h,c⟩)]
 rw[ag (by rintro(⟨_,f⟩|⟨f,_⟩);exact c f;omega),sG (by simpa using c) g]
def YD:eH d e 0 0 b a=0:=by unfold eH;rw[ag ab]
def YB:eH d e b (aY e b).length a i=eH d e (b+1) 0 a i:=by
 have h:(a<b/\aX e a i=true\/a=b/\(i:Int)∈aY e b)↔a<b+1/\aX e a i=true:=by
  constructor
  ·rintro(⟨j,f⟩|⟨rfl,f⟩)
   ·exact⟨U,f⟩
   exact⟨U,by unfold aX;exact aA f⟩
  rintro⟨j,f⟩;rcases bn a b with c|c
  ·exact .inl ⟨c,f⟩
  obtain rfl:a=b:=U;exact .inr ⟨rfl,by unfold aX at f;exact of_decide_eq_true f⟩
 unfold eH;rw[c8 (a6 _)];by_cases g:a<b+1/\aX e a i=true
 ·rw[aj (h.2 g),aj (.inl g)]
 rw[ag (λc=>g (h.1 c)),ag (by rintro(c|⟨_,c⟩);exact g c;simp at c)]
def hU (a:Nat) (b:Nat->Nat->Int):acX:=aF a λc=>aF a (b c)
def WT (S:i<=5) (Q:∀b a,dm (d b a)) (H:a<i) (G:b<i) (R:a<=b) (n k:dq):ac (loop (σ:=(Int×dq×List aM×dq×ew×Unit)) (ρ:=(dq×List aM×dq×ew×Unit)) (λ(j,v,c,o,m,_)=>
 bif decide (j<(a:Int)) then
 (bk c.length j).bind λs=>
 ((bd c s λx=>some x).bind λz=>bk z.length (b:Int)).bind λJ=>
 (bd c s λA=>bd A J λB=>some B).bind λO=>
 (bk c.length j).bind λt=>
 ((bd c t λC=>some C).bind λD=>bk D.length (a:Int)).bind λK=>
 (bd c t λE=>bd E K λF=>some F).bind λP=>
 (uB (O,P,())).bind λ(M,_)=>
 (uy (M,())).bind λ(u,_)=>
 (bJ (m.length+([u]).length)).bind λ_=>
 some (.inl (aQ j,v,c,o,(m++[u]),())) else
 some (.inr (v,c,o,m,()))) (0,n,hU i (eH d e a q),k,[aT (d b a)],())) λL=>L=(n,hU i (eH d e a q),k,(d b a::(List.range a).map (pP (bf d (aX e)) b a)).map aT,()):=by
 refine ac.steps a (λf N=>N=((f:Int),n,hU i (eH d e a q),k,(d b a::(List.range f).map (pP (bf d (aX e)) b a)).map aT,())) rfl ?_ ?_
 ·rintro f _ r rfl;dsimp only;rw[bb (aA (U:(f:Int)<(a:Int))),bi U];have p:(hU i (eH d e a q)).length=i:=bp _ _;have g:∀h,h<i->∀{w:Type} (l:ac8->Option w),bd (hU i (eH d e a q)) h l=l (aF i (eH d e a q h)):=λh I w l=>fv I;refine ac.bs (eL (by rw[p];omega)) ?_;rw[g f U];refine ac.bs (y:=b) ?_ ?_
  ·rw[aG,eL (by rw[bp];omega)]
  rw[g f U,fv G];refine ac.bs rfl ?_;refine ac.bs (eL (by rw[p];omega)) ?_;rw[g f U];refine ac.bs (y:=a) ?_ ?_
  ·rw[aG,eL (by rw[bp];omega)]
  rw[g f U,fv H];refine ac.bs rfl ?_;rw[Nh r U,Nh r U];refine ac.bs (Md (my _ _ _ _) (my _ _ _ _)) ?_;dsimp only;refine ac.bs (Mq (BY _ _)) ?_;dsimp only;rw[er (by simp;omega)];refine ac.af.2 ?_;rw[List.range_succ,List.map_append,<-List.cons_append,List.map_append];rfl
 rintro _ rfl;dsimp only;rw[a2 (ay (U:¬((a:Int)<(a:Int))))];exact ac.af.2 rfl
def kw (b:Nat->Nat->ac2) (c:acX) (a:Nat):Prop:=lU (hS b (bf b (aX c)) a a)<=0\/nj (bf b (aX c) a a)=0
def Em (b:kw d e a):fw d e a=231:=by unfold fw;exact aj b
def QK (c:¬kw d e a) (g:aX e a b=true) (f:bE (bf d (aX e) a b)=2047):fw d e a=233:=by unfold kw at c;unfold fw;rw[ag c,ag (λc=>c b g f)]
def El (b:¬kw d e a) (f:∀h∈aY e a,bE (bf d (aX e) a h.toNat)≠2047):fw d e a=0:=by unfold kw at b;unfold fw;rw[ag b,aj];intro g c;exact f (g:Int) (by unfold aX at c;exact of_decide_eq_true c)
def m9 (c:Nat->Nat->ac2) (a:acX) (g:ac8) (b d:Nat):dq:=(g,(aF (b+1) (λf=>((bA a f).length:Int)),(bA a b++(aY a b).take d,(iq c a b++((aY a b).take d).map (λe=>bf c (aX a) b e.toNat),()))))
def YC (l:b<(aY e a).length) (n:(aY e a)[b]=(i:Int)) (o:a<q) (r:i<q):(hU q (eH d e a b)).set a ((aF q (eH d e a b a)).set i (bf d (aX e) a i))=hU q (eH d e a (b+1)):=by
 have k:(aY e a).take (b+1)=(aY e a).take b++[(i:Int)]:=(by rw[hD,a9 l,n];rfl);unfold hU;rw[g3,g3];refine dy λf p=>?_;by_cases g:f=a
 ·subst g;rw[iF];refine dy λc m=>?_;by_cases j:c=i
  ·subst j;rw[iF];unfold eH;rw[aj (.inr ⟨rfl,by rw[k];simp⟩)]
  rw[iE _ _ j];unfold eH;have:(c:Int)∈(aY e f).take (b+1)↔(c:Int)∈(aY e f).take b:=(by rw[k,dX,ed];exact⟨λh=>h.resolve_right U,.inl⟩);simp only[this]
 rw[iE _ _ g];refine dy λc m=>?_;unfold eH;have:(f=a/\(c:Int)∈(aY e a).take (b+1))↔(f=a/\(c:Int)∈(aY e a).take b):=(by constructor<;>(rintro⟨h,_⟩;exact absurd h g));simp only[this]
def Mk (O:a<=5) (v:ev a a h g m) (L:eA a a h g m=0) (w:dG c a):qx (((a:Int),(a:Int),h,g,m,()),c,())=some (iY (bg (bt h g m a) c) (g6 a (eb (bt h g m a)) c) c a):=by
 classical
 have co:=xm (E:=eb (bt h g m a)) w;have cs:=EK a (eb (bt h g m a)) c;have ci:=BD (E:=eb (bt h g m a)) O w;have eq:=w.1;have ce:=λq b (d1:q<a) (t:b<a)=>Mi v L w d1 t;unfold qx;refine ak (sZ v U) ?_;have d7:(if eA a a h g m≠0 then eA a a h g m else if a≠a then 5 else if dG c a then 0 else 90)=0:=(by rw[if_neg (not_not_intro L),if_neg (not_not_intro rfl),if_pos w]);rw[d7];dsimp only;rw[a2 (show((0:Int)!=0)=false from rfl)];refine ak (F7 O v L w) ?_;dsimp only;generalize g6 a (eb (bt h g m a)) c=d at*;generalize bt h g m a=E at*;refine ak (Xc cs ci U) ?_;dsimp only;rw[co];have dl:(List.range a).map (aY d)=aF a (aY d):=rfl;rw[dl];generalize bl:bg E c=e at*;have Y:∀q b,dm (e q b):=λq b=>(by rw[<-bl];exact jq _);refine ac.eq_iff.1 ?_;refine ac.bs (gA U) ?_;refine ac.aU (P:=λav=>av=(fA,hU a (eH e d 0 0),())) ?_ ?_
 ·refine ac.steps a (λb B=>B=((b:Int),fA,aF a (λk=>if k<b then aF a (eH e d 0 0 k) else[]),())) ?_ ?_ ?_
  ·rw[hu];rfl
  ·rintro b _ t rfl;dsimp only;rw[bb (aA (U:(b:Int)<(a:Int))),bi U];refine ac.bs (gA U) ?_;rw[i6 (by rw[bp];omega),g3,hu];refine ac.af.2 ?_;have:aF a (eI (λk=>if k<b then aF a (eH e d 0 0 k) else[]) b (aF a λ_=>0))=aF a (λk=>if k<b+1 then aF a (eH e d 0 0 k) else[]):=by
    refine dy λS ap=>?_;by_cases l:S=b
    ·subst l;rw[iF,aj U];exact dy λq _=>YD.symm
    rw[iE _ _ l];by_cases s:S<b
    ·rw[aj s,aj U]
    rw[ag s,ag U]
   rw[this]
  rintro _ rfl;dsimp only;rw[a2 (ay (U:¬((a:Int)<(a:Int))))];have:aF a (λk=>if k<a then aF a (eH e d 0 0 k) else[])=hU a (eH e d 0 0):=dy λS ap=>if_pos ap;rw[this];exact ac.af.2 rfl
 rintro _ rfl;dsimp only;rw[er (by simp;omega),Option.bind_some];refine ac.aU (P:=λp=>(p=.inr (iY e d c a))\/(p=.inl (fA,ey e d c a,())/\iY e d c a=(ey e d c a,(a:Int),0,()))) ?_ ?_
 ·refine ac.steps a (λb B=>(∀k,k<b->fw e d k=0)/\B=((b:Int),fA,hU a (eH e d b 0),m9 e d c b 0,())) ?_ ?_ ?_
  ·exact⟨λk v=>absurd v U,rfl⟩
  ·rintro b _ t ⟨z,rfl⟩;dsimp only;rw[bb (aA (U:(b:Int)<(a:Int))),bi U];have el:=Jz z;have Z:=λn=>J2 (o:=c) z t n;obtain⟨av,H,ex⟩:=DH (G:=d) (j:=b) U;have ek:=tW (G:=d) b;have N:=my e (aX d);have am:bf e (aX d) b b=jt (hS e (bf e (aX d)) b b) 0:=by
    rw[oo];unfold k3;rw[aj rfl]
   have d5:∀q,q≠b->aX d b q=true->bf e (aX d) b q=ld (hS e (bf e (aX d)) b q) (dJ (bf e (aX d) b b)) 0:=λq a3 X=>(by rw[oo];unfold k3;rw[ag a3,aj X,<-am]);have d6:∀q,∀W∈(e q b::(List.range b).map (pP (bf e (aX d)) q b)),dm W:=λq W K=>by
    rcases dg.1 K with rfl|K
    ·exact Y _ _
    obtain⟨k,_,rfl⟩:=bR.1 K;exact Nj _ _ _ _
   have em:=xq d b;have fn:=pS e d b;have d9:b*d.length<=5*5:=iu U U;refine ac.aU (P:=λp=>(∃r,p=.inr (.inr (.inr r))/\r=iY e d c a)\/(p=.inl (fA,hU a (eH e d b (aY d b).length),m9 e d c b (aY d b).length,())/\fw e d b=0)) ?_ ?_
   ·refine ac.steps (aY d b).length (λf B=>(0<f->¬kw e d b)/\(∀T∈(aY d b).take f,bE (bf e (aX d) b T.toNat)≠2047)/\B=((f:Int),fA,hU a (eH e d b f),m9 e d c b f,())) ?_ ?_ ?_
    ·exact⟨λn=>absurd n U,ab,rfl⟩
    ·rintro f _ x ⟨Q,C,rfl⟩;dsimp only;have D:ax (aF a (aY d)) (b:Int)=some (aY d b):=(by rw[bL (by rw[bp];omega),gx]);refine ac.bs D ?_;rw[bb (aA (show(f:Int)<ar (aY d b) by rw[aV];omega)),bi U];obtain⟨i,R,fp,d4,ad⟩:=tX (G:=d) (j:=b) (List.getElem_mem x);have I:i<a:=U;have an:(aY d b).take (f+1)=(aY d b).take f++[(i:Int)]:=(by rw[List.take_add_one,List.getElem?_eq_getElem x,R];rfl);have d8:i=b↔f=0:=by
      constructor
      ·intro n;rcases h0 f with l|l
       ·exact l
       have X:=ga.1 (tV d b) 0 f U x l;have a4:(aY d b)[0]'(by omega)=(b:Int):=by simp only[H,List.getElem_cons_zero]
       omega
      rintro rfl;have a4:(aY d b)[0]'(by omega)=(b:Int):=by simp only[H,List.getElem_cons_zero]
      omega
     refine ac.aU (P:=λp=>(∃r,p=.inr (.inr (.inr (.inr (.inr r))))/\r=iY e d c a)\/(p=.inl (fA,hU a (eH e d b (f+1)),m9 e d c b (f+1),())/\¬kw e d b/\bE (bf e (aX d) b i)≠2047)) ?_ ?_
     ·refine ac.bs D (ac.bs (y:=(i:Int)) (by rw[bL x,R]) ?_);refine ac.bs (ce i b I t) ?_;dsimp only;refine ac.aU (WT O Y t I d4 fA (m9 e d c b f)) ?_;rintro _ rfl;dsimp only;refine ac.bs (Ms (d6 i) (by simp;omega)) ?_;dsimp only;change ac (Option.bind (bif (i:Int)==(b:Int) then(w6 (aT (hS e (bf e (aX d)) b i),())).bind _ else _) _) _;rw[dO];refine ac.aU (P:=λp=>(∃r,p=.inr (.inr (.inr (.inr (.inr (.inr r)))))/\r=iY e d c a)\/(p=.inl (bf e (aX d) b i,fA,hU a (eH e d b f),m9 e d c b f,())/\¬kw e d b)) ?_ ?_
      ·rw[bj];refine ac.ite (λl=>?_) (λl=>?_)
       ·obtain rfl:i=b:=U;have cv:kw e d i->iY e d c a=(fA,(i:Int),231,()):=λn=>by
         rw[Z (by rw[Em n];decide),aj (Em n)]
        refine ac.bs (Xq (vl _ _ _ _)) ?_;dsimp only;rw[<-am];refine ac.aU (P:=λp=>p=(decide (kw e d i),fA,hU a (eH e d i f),m9 e d c i f,())) ?_ ?_
        ·refine ac.bs (Mr (vl _ _ _ _)) ?_;dsimp only;rw[rS];refine ac.ite (λs=>?_) (λs=>?_)
         ·refine ac.af.2 ?_;rw[aA (show kw e d i from .inl s)]
         refine ac.bs (R3 (N i i)) (ac.af.2 ?_);have:kw e d i↔nj (bf e (aX d) i i)=0:=⟨λn=>n.resolve_left s,.inr⟩;rw[decide_eq_decide.2 this]
        rintro _ rfl;dsimp only;rw[bj];refine ac.ite (λs=>?_) (λs=>?_)
        ·exact ac.af.2 (.inl ⟨_,rfl,(cv s).symm⟩)
        exact ac.af.2 (.inr ⟨rfl,s⟩)
       have ds:0<f:=by
        rcases h0 f with n|n
        ·exact absurd (d8.2 n) U
        exact n
       have M:(hU a (eH e d b f)).length=a:=bp _ _;have A:∀{V:Type} (l:ac8->Option V),bd (hU a (eH e d b f)) b l=l (aF a (eH e d b f b)):=λl=>fv t;refine ac.bs (eL (by rw[M];omega)) ?_;refine ac.bs (y:=b) ?_ ?_
       ·rw[A,aG,eL (by rw[bp];omega)]
       rw[A,fv t];refine ac.bs rfl ?_;have d3:(b:Int)∈(aY d b).take f:=by
        rw[H];cases f with
        |zero=>omega
        |succ f=>simp
       have d2:eH e d b f b b=bf e (aX d) b b:=(by unfold eH;exact if_pos (.inr ⟨rfl,d3⟩));rw[d2];refine ac.bs (yg (N b b)) ?_;dsimp only;refine ac.bs (WC (vl _ _ _ _) (jq _)) ?_;change ac (some (Sum.inl (ld (hS e (bf e (aX d)) b i) (dJ (bf e (aX d) b b)) 0,fA,hU a (eH e d b f),m9 e d c b f,()))) _;rw[<-d5 i U ad];exact ac.af.2 (.inr ⟨rfl,Q ds⟩)
      rintro p (⟨r,rfl,u⟩|⟨rfl,F⟩)
      ·exact ac.af.2 (.inl ⟨r,rfl,u⟩)
      dsimp only;refine ac.bs (yc (N b i)) ?_;dsimp only;rw[Bool.not_not,bj];refine ac.ite (λl=>?_) (λl=>?_)
      ·refine ac.af.2 (.inl ⟨_,rfl,?_⟩);have u:=QK F ad l;rw[Z (by rw[u];decide),u,ag aa];rfl
      have M:(hU a (eH e d b f)).length=a:=bp _ _;have A:∀{V:Type} (l:ac8->Option V),bd (hU a (eH e d b f)) b l=l (aF a (eH e d b f b)):=λl=>fv t;refine ac.bs (eL (by rw[M];omega)) ?_;refine ac.bs (y:=i) ?_ ?_
      ·rw[A,aG,eL (by rw[bp];omega)]
      rw[A,fv I];refine ac.bs rfl ?_;dsimp only;rw[YC x R t I];unfold m9;dsimp only;rw[er (by simp;omega),Option.bind_some,er (by simp;omega),Option.bind_some];refine ac.af.2 (.inr ⟨?_,F,l⟩);rw[an,List.map_append,List.append_assoc,List.append_assoc];rfl
     rintro p (⟨r,rfl,u⟩|⟨rfl,F,d0⟩)
     ·exact ac.af.2 (.inl ⟨r,rfl,u⟩)
     refine ac.af.2 ⟨λ_=>F,λT J=>?_,rfl⟩;rw[an,dX,ed] at J;rcases J with J|rfl
     ·exact C T J
     exact d0
    rintro _ ⟨Q,C,rfl⟩;dsimp only;have D:ax (aF a (aY d)) (b:Int)=some (aY d b):=(by rw[bL (by rw[bp];omega),gx]);refine ac.bs D ?_;rw[a2 (ay (show¬(((aY d b).length:Nat):Int)<ar (aY d b) by rw[aV];omega))];rw[List.take_of_length_le (Nat.le_refl _)] at C;exact ac.af.2 (.inr ⟨rfl,El (Q (by rw[H];simp)) C⟩)
   rintro p (⟨r,rfl,u⟩|⟨rfl,a0⟩)
   ·exact ac.af.2 (.inl (by rw[u]))
   dsimp only;unfold m9;dsimp only;rw[List.take_of_length_le (Nat.le_refl _)];rw[er (by rw[bp];simp;omega),Option.bind_some];refine ac.af.2 ⟨λk v=>?_,?_⟩
   ·rcases bn k b with n|n
    ·exact z k n
    obtain rfl:k=b:=U;exact a0
   have al:hU a (eH e d b (aY d b).length)=hU a (eH e d (b+1) 0):=dy λk _=>dy λq _=>YB;rw[al,m8 (b+1),List.take_zero,jb,p5,jb];rfl
  rintro _ ⟨z,rfl⟩;dsimp only;rw[a2 (ay (U:¬((a:Int)<(a:Int))))];refine ac.af.2 (.inr ⟨?_,xA z⟩);unfold m9 ey;rw[List.take_zero,List.append_nil,List.map_nil,List.append_nil]
 rintro p (rfl|⟨rfl,n⟩)
 ·exact ac.af.2 rfl
 rw[n];exact ac.af.2 rfl
def WN (e:ev b a h c m) (f:g.length<=1000000) (d:fl b a h c m g≠0):qx (((b:Int),(a:Int),h,c,m,()),g,())=some (fA,0,fl b a h c m g,()):=by unfold qx;refine ak (sZ e f) ?_;dsimp only;change(bif fl b a h c m g !=0 then _ else _)=_;rw[bH,ay d];rfl
def xO {m:Int} {a k:Nat} (b:m.natAbs=2*a+1):aZ (m*2^k)=m/\ei (m*2^k)=(k:Int)-65536:=by have c:(m*2^k).natAbs=(2*a+1)*2^k:=(by rw[k8,b]);have d:=vv c;unfold aZ ei;rw[d];exact⟨Int.mul_ediv_cancel _ (by have:(0:Int)<2^k:=mQ aa;omega),rfl⟩
def F3 (b:f≠0) (a:Nat):f*2^a≠0:=Int.mul_ne_zero b (by have:(0:Int)<2^a:=mQ aa;omega)
def Fi {m:Int} {a:Nat} (d:m.natAbs=2*a+1) {t:Nat} (n:f+t+65536=(b:Int)) (k:-65536<=f) (l:f+t+az m.natAbs<=65536):e8 (m*2^t) f=some (m*2^b):=by have j:m≠0:=U;have e:(m*2^t).natAbs=(2*a+1)*2^t:=(by rw[k8,d]);have g:=vv e;have h:az (m*2^t).natAbs=az m.natAbs+t:=(by rw[k8,k1 U]);unfold e8;rw[ag (F3 j t),g,h,ag U];obtain⟨c,i⟩:=eE (U:0<=f+65536);rw[i];show some (nz (m*2^t) (c:Int))=_;rw[lV,i9,<-ja,(U:t+c=b)]
def Er {m:Int} {a t k:Nat} (c:f=m*2^t) (b:m.natAbs=2*a+1) (e:(t:Int)+65536=(k:Int)) (d:t+az m.natAbs<=65536):ni f=some (m*2^k):=by unfold ni;rw[c];exact Fi b U aa U
def Ev {a:Nat} (d:f.natAbs=2*a+1) (e:0<f) (c:Int):ox (some (f*2^b)) c=h8 false f.natAbs ((b:Int)-65536) false c:=by obtain⟨g,h⟩:=xO (k:=b) d;show yf (f*2^b) c=_;unfold yf;rw[ag (F3 U b),g,h,ay];have:(0:Int)<f*2^b:=nJ e (mQ aa);omega
def Q9 {a:Nat} (c:f.natAbs=2*a+1) (d:0<f):jt (some (f*2^b)) 0=oy (ip f.natAbs ((b:Int)-65536)) f.natAbs ((b:Int)-65536) 0:=by obtain⟨e,g⟩:=xO (k:=b) c;have:(0:Int)<f*2^b:=nJ d (mQ aa);show(if f*2^b<0 then(9221120237041090560:Int) else if f*2^b=0 then 0 else nw (f*2^b) 0)=_;rw[ag U,ag U];unfold nw;rw[e,g]
def Q8 {a b:Nat} (e:f.natAbs=2*a+1) (g:0<f) (c:j.natAbs=2*b+1) (d:0<j):ld (some (f*2^i)) (some (j*2^q)) 0=pG (lc f.natAbs j.natAbs) f.natAbs j.natAbs false ((i:Int)-65536-((q:Int)-65536)) 0:=by obtain⟨h,l⟩:=xO (k:=i) e;obtain⟨m,n⟩:=xO (k:=q) c;have o:(0:Int)<f*2^i:=nJ g (mQ aa);have p:(0:Int)<j*2^q:=nJ d (mQ aa);show(if j*2^q=0 then(9221120237041090560:Int) else if f*2^i=0 then 0 else sY (f*2^i) (j*2^q) 0)=_;rw[ag U,ag U];unfold sY;rw[h,l,m,n,ay U,ay U];rfl
def Bl {a t:Nat} (c:j.natAbs=2*a+1) (g:(if f<9223372036854775808 then if bE f=0 then eW f else eW f+4503599627370496 else-(if bE f=0 then eW f else eW f+4503599627370496))=j*2^t) (e:bE f≠2047) (h:(if bE f=0 then-1074 else bE f-1075)+(t:Int)+65536=(b:Int)) (d:(if bE f=0 then-1074 else bE f-1075)+(t:Int)+az j.natAbs<=65536):dJ f=some (j*2^b):=by unfold dJ;rw[ag e,g];refine Fi c h ?_ d;have:=xe f;split<;>omega
def f4:ox (ni 4) 0=4616189618054758400:=by rw[Er (m:=1) (a:=0) (t:=2) (k:=65538) aa aa aa aa,Ev (a:=0) aa aa];decide
def f2:ox (ni 2) 0=4611686018427387904:=by rw[Er (m:=1) (a:=0) (t:=1) (k:=65537) aa aa aa aa,Ev (a:=0) aa aa];decide
def f5:ox (ni 5) 0=4617315517961601024:=by rw[Er (m:=5) (a:=2) (t:=0) (k:=65536) aa aa aa aa,Ev (a:=2) aa aa];decide
def v4:dJ 4616189618054758400=some (1*2^65538):=Bl (a:=0) (t:=52) aa aa aa aa aa
def e0:dJ 4611686018427387904=some (1*2^65537):=Bl (a:=0) (t:=52) aa aa aa aa aa
def CS:dJ 4617315517961601024=some (5*2^65536):=Bl (a:=2) (t:=50) aa aa aa aa aa
def v1:dJ 4607182418800017408=some (1*2^65536):=Bl (a:=0) (t:=52) aa aa aa aa aa
def aK:jt (some (1*2^65538)) 0=4611686018427387904:=by rw[Q9 (a:=0) aa aa];decide+kernel
def aw:ld (some (1*2^65537)) (some (1*2^65537)) 0=4607182418800017408:=by rw[Q8 (a:=0) (b:=0) aa aa aa aa];decide
def xc:ac8:=[0,1,1]
def xd:ac8:=[0,2,3]
def sp:ac8:=[4616189618054758400,4611686018427387904,4617315517961601024]
def Rb:ev 2 2 xd xc sp where
 hr:=by decide
 hc:=by decide
 hi:=by decide
 hs:=by decide
 hv:=by decide
 hw:=λb a=>by unfold sp at a;simp only[dg,List.not_mem_nil,or_false] at a;rcases a with rfl|rfl|rfl<;>exact⟨aa,aa⟩
def Rc:eF 2 2 xd xc sp where
 len:=rfl
 first:=rfl
 mono:=λb e=>by have:b=0\/b=1:=U;rcases this with rfl|rfl<;>decide
 last:=rfl
 val:=rfl
 rng:=λb a e c d=>by
  have:b=0\/b=1:=U;rcases this with rfl|rfl
  ·change(0:Int)<=a at c;change(a:Int)<2 at d;have:a=0\/a=1:=U;rcases this with rfl|rfl<;>exact⟨aa,aa⟩
  change(2:Int)<=a at c;change(a:Int)<3 at d;have:a=2:=U;subst this;exact⟨aa,aa⟩
 asc:=λb a e c d=>by
  have:b=0\/b=1:=U;rcases this with rfl|rfl
  ·change(0:Int)<a at c;change(a:Int)<2 at d;have:a=1:=U;subst this;decide
  change(2:Int)<a at c;change(a:Int)<3 at d;omega
def QY:eA 2 2 xd xc sp=0:=by refine jL.2 ⟨Rc,λa b=>?_⟩;have:a=0\/a=1\/a=2:=(by have:sp.length=3:=rfl;omega);rcases this with rfl|rfl|rfl<;>decide
def Q6:dG [0,1] 2:=⟨rfl,λb a=>by
 simp only[dg,List.not_mem_nil,or_false] at a;rcases a with rfl|rfl<;>exact⟨aa,aa⟩,aa⟩
def pn:List bu:=[(0,0,4616189618054758400,()),(1,0,4611686018427387904,()),(1,1,4617315517961601024,())]
def Q1:bt xd xc sp 2=pn:=rfl
def fx:acX:=[[1],[0]]
def Q2:g6 2 (eb pn) [0,1]=fx:=by decide
def Bk:aY fx 0=[0,1]:=by have a:jz fx 0 0:=.inl rfl;have b:jz fx 0 1:=.inr ⟨aa,.one ⟨aa,aa⟩⟩;unfold aY jM;show((List.filter _ [0,1]).map _)=_;simp[jD,a,b]
def Ep:aY fx 1=[1]:=by have a:jz fx 1 1:=.inl rfl;unfold aY jM;show((List.filter _ [0,1]).map _)=_;simp[jD,a]
def QT:bg pn [0,1] 0 0=some (1*2^65538):=v4
def QU:bg pn [0,1] 1 0=some (1*2^65537):=e0
def QV:bg pn [0,1] 1 1=some (5*2^65536):=CS
def Nc (b:dm l):fO [l]=l:=by
 cases l with
 |none=>rfl
 |some a=>
  have c:=b a rfl;show(if(true&&true)=true then k2 (a+0) else none)=_;rw[aj (show(true&&true)=true from rfl),Int.add_zero];unfold k2;rw[aj c]
def Q5 (f:(b:Int)-65536=0):jU (some (1*2^b)) (some (1*2^b))=some (1*2^b):=by obtain⟨c,d⟩:=xO (m:=1) (a:=0) (k:=b) aa;have e:bh (1*2^b)=0:=(by unfold bh;rw[ag (F3 aa _),d,f]);show e8 (aZ (1*2^b)*aZ (1*2^b)) (bh (1*2^b)+bh (1*2^b))=_;rw[c,e];exact Fi (m:=1) (a:=0) (t:=0) aa U aa aa
def Q4:jU (some (1*2^65536)) (some (1*2^65536))=some (1*2^65536):=Q5 aa
def QW (a:Nat):(5:Int)*2^a+(-(1*2^a)+0)=1*2^(a+2):=by rw[Int.pow_succ,Int.pow_succ];generalize(2:Int)^a=b;omega
def QX (c:a+2=b) (d:dm (some (1*2^b))):fO [some ((5:Int)*2^a),ot (some (1*2^a))]=some (1*2^b):=by show(if(true&&(true&&true))=true then k2 (5*2^a+(-(1*2^a)+0)) else none)=_;rw[aj (show(true&&(true&&true))=true from rfl),QW,c];unfold k2;rw[aj (d _ rfl)]
abbrev ht:Nat->Nat->ac2:=bg pn [0,1]
def Ew:hS ht (bf ht (aX fx)) 0 0=some (1*2^65538):=by show fO [bg pn [0,1] 0 0]=_;rw[QT,<-v4];exact Nc (jq _)
def Ra:hS ht (bf ht (aX fx)) 0 1=some (1*2^65537):=by show fO [bg pn [0,1] 1 0]=_;rw[QU,<-e0];exact Nc (jq _)
def Es:bf ht (aX fx) 0 0=4611686018427387904:=by rw[oo];unfold k3;rw[aj rfl,Ew,aK]
def Q7:aX fx 0 1=true:=by unfold aX;rw[Bk];decide
def Et:bf ht (aX fx) 0 1=4607182418800017408:=by rw[oo];unfold k3;rw[ag aa,aj Q7,Ra,Ew,aK,e0,aw]
def I7:hS ht (bf ht (aX fx)) 1 1=some (1*2^65538):=by show fO [bg pn [0,1] 1 1,ot (jU (dJ (bf ht (aX fx) 0 1)) (dJ (bf ht (aX fx) 0 1)))]=_;rw[QV,Et,v1,Q4];exact QX rfl (by rw[<-v4];exact jq _)
def Eu:bf ht (aX fx) 1 1=4611686018427387904:=by rw[oo];unfold k3;rw[aj rfl,I7,aK]
def Cy (a:0<f):dE f=1:=by unfold dE;rw[ag U,ag U]
def Mb (a:Nat):(0:Int)<1*2^a:=nJ aa (mQ aa)
def QZ:fw ht fx 0=0:=by
 refine El ?_ ?_
 ·unfold kw;rw[Ew,Es];rintro(b|b)
  ·have:lU (some (1*2^65538))=1:=Cy (Mb _);omega
  revert b;decide
 intro c a;rw[Bk] at a;simp only[dg,List.not_mem_nil,or_false] at a;rcases a with rfl|rfl
 ·show bE (bf ht (aX fx) 0 0)≠2047;rw[Es];decide
 show bE (bf ht (aX fx) 0 1)≠2047;rw[Et];decide
def Q0:fw ht fx 1=0:=by
 refine El ?_ ?_
 ·unfold kw;rw[I7,Eu];rintro(b|b)
  ·have:lU (some (1*2^65538))=1:=Cy (Mb _);omega
  revert b;decide
 intro c a;rw[Ep] at a;simp only[dg,List.not_mem_nil,or_false] at a;subst a;show bE (bf ht (aX fx) 1 1)≠2047;rw[Eu];decide
def Q3:o4 ((2,(2,(xd,(xc,(sp,()))))),[0,1],())=some (([0,1],([0,2,3],([0,1,1],([4611686018427387904,4607182418800017408,4611686018427387904],())))),2,0,()):=by
 have a:=Ha (n:=2) aa Rb QY Q6;rw[Q1,Q2,xA (λb g=>by
  have:b=0\/b=1:=U;rcases this with rfl|rfl
  ·exact QZ
  exact Q0)] at a
 refine a.trans ?_;have c:fP ht fx 0=[4611686018427387904,4607182418800017408]:=(by unfold fP;rw[Bk,eo,eo,p5];show[bf ht (aX fx) 0 0,bf ht (aX fx) 0 1]=_;rw[Es,Et]);have al:fP ht fx 1=[4611686018427387904]:=(by unfold fP;rw[Ep,eo,p5];show[bf ht (aX fx) 1 1]=_;rw[Eu]);have d:bA fx 0=[]:=rfl;have i1:bA fx 1=[0,1]:=(by show[]++aY fx 0=_;rw[Bk];rfl);have e:bA fx 2=[0,1,1]:=(by show bA fx 1++aY fx 1=_;rw[i1,Ep];rfl);have f:iq ht fx 2=[4611686018427387904,4607182418800017408,4611686018427387904]:=(by show([]++fP ht fx 0)++fP ht fx 1=_;rw[c,al];rfl);unfold ey;rw[m8,m8,m8,I9,d,i1,e,f];rfl
def G3 (a b:ac8) (c:a.length<4611686018427387904):As (a,b,())=some (a==b,()):=tv a b c
def Pm:Au ()=some (true,()):=by unfold Au;refine ak (Ct aa aa) (ak (Ct aa aa) (ak (Ct aa aa) ?_));dsimp only;rw[f4,f2,f5];refine ak Q3 ?_;dsimp only;rw[bb aa,bb aa];refine ak (tv _ _ aa) ?_;dsimp only;rw[bb aa];refine ak (G3 _ _ aa) ?_;rfl
def l7 (g f e:Nat) (h a d:ac8):Prop:=∃c,c<=a.length/\eF g f h (a.take c) (d.take c)/\d.length=a.length/\(∀b,c<=b->b<a.length->0<=a.getD b 0/\a.getD b 0<(e:Int))/\(∀b,c<b->b<a.length->a.getD (b-1) 0<a.getD b 0)
def eF.open (d:eF b a g c h):l7 b a 0 g c h:=
 ⟨c.length,a6 _,by rw[c8 (a6 _),c8 (Nat.le_of_eq d.val)];exact d,d.val,λi f e=>absurd e U,λi f e=>absurd e U⟩
def l7.skip (f:l7 i b a g c h):l7 i b (a+1) g c h:=by obtain⟨o,j,k,l,m,n⟩:=f;exact⟨o,j,k,l,λp d e=>by have:=m p d e;omega,n⟩
def xl (b:a<c.length):(c++[f]).getD a 0=c.getD a 0:=by rw[iH,lq b,<-iH]
def EH:(c++[f]).getD c.length 0=f:=by rw[iH,l5 (a6 _)];simp
def l7.add (l:l7 i b a g c h) (q:Int):l7 i b (a+1) g (c++[(a:Int)]) (h++[q]):=by
 obtain⟨p,m,n,r,k,o⟩:=l;refine⟨p,by simp;omega,?_,by simp;omega,λe f j=>?_,λe f j=>?_⟩
 ·rw[rB m,rB U];exact n
 ·rw[lu,yR] at j;rcases bn e c.length with d|d
  ·rw[xl d];have:=k e f d;omega
  obtain rfl:e=c.length:=U;rw[EH];omega
 rw[lu,yR] at j;rcases bn e c.length with d|d
 ·rw[xl d,xl U];exact o e f d
 obtain rfl:e=c.length:=U;rw[EH,xl U];exact(k (c.length-1) U U).2
def EI (d:a<b):(c.take b).getD a 0=c.getD a 0:=by rw[iH,kT d,<-iH]
def l7.close (s:l7 b a b g c h):eF b (a+1) (g++[(c.length:Int)]) c h:=by
 obtain⟨x,o,k,t,u,v⟩:=s;have p:=k.len;have q:=k.last;rw[dS,fr o] at q;have n:(g++[(c.length:Int)]).getD (a+1) 0=(c.length:Int):=(by rw[<-p];exact EH);have e:∀d,d<=a->(g++[(c.length:Int)]).getD d 0=g.getD d 0:=λd l=>xl U;have r:∀d,d<=a->g.getD d 0<=(x:Int):=λd l=>(by have:=k.pu d l;rw[dS,fr o] at this;exact this);refine⟨by simp[p],by rw[e 0 U];exact k.first,λd l=>?_,n,t,λd m l i j=>?_,λd m l i j=>?_⟩
 ·rcases bn d a with f|f
  ·rw[e d U,e (d+1) U];exact k.mono d f
  obtain rfl:d=a:=U;rw[e d U,n,q];omega
 ·rcases bn d a with f|f
  ·rw[e d U] at i;rw[e (d+1) U] at j;have w:=r (d+1) U;have:=k.rng d m f i j;rw[EI U] at this;exact this
  obtain rfl:d=a:=U;rw[e d U] at i;rw[n] at j;exact u m U U
 rcases bn d a with f|f
 ·rw[e d U] at i;rw[e (d+1) U] at j;have w:=r (d+1) U;have:=k.asc d m f i j;rw[EI U,EI U] at this;exact this
 obtain rfl:d=a:=U;rw[e d U] at i;rw[n] at j;exact v m U U
def eF.empty (d:Nat):eF d 0 [0] [] []:=⟨rfl,rfl,λb a=>absurd a U,rfl,rfl,λb c a=>absurd a U,λb c a=>absurd a U⟩
structure yJ (rows fF:Nat) (m:b0):Prop where
 ex:∃st mx rj,m=((rows:Int),(fF:Int),st,mx,rj,())/\eF rows fF st mx rj/\(∀v∈rj,dU v)/\mx.length<=fF*rows
def yJ.small (i:b<=5) (f:a<=5) (d:eF b a h c g) (e:∀j∈g,dU j) (k:c.length<=a*b):ev b a h c g:=by have l:a*b<=5*5:=iu f i;exact⟨U,U,U,by rw[d.len];omega,by rw[d.val];omega,e⟩
def Oh (x:c.length<=9223372036854775807) {rows fF:Nat} (y:rows<=5) (v:fF<=5) (s:Int):ac (Ap (c,(rows:Int),(fF:Int),s,())) λi=>yJ rows fF i.1:=by
 have G:fF*rows<=5*5:=Nat.mul_le_mul v y;unfold Ap;dsimp only;refine ac.aU (P:=λi=>yJ rows fF i.2.1) ?_ (by rintro⟨A,B,_⟩ m;exact ac.af.2 m);refine ac.steps fF (λd n=>∃e a b,n=((d:Int),((0:Int),((0:Int),([],([],([],()))))),((rows:Int),(fF:Int),e,a,b,()),())/\eF rows d e a b/\(∀f∈b,dU f)/\a.length<=d*rows) ?_ ?_ ?_
 ·exact⟨[0],[],[],rfl,eF.empty rows,ab,ab⟩
 ·rintro d _ w ⟨e,a,b,rfl,p,u,D⟩;have F:d*rows+rows<=5*5:=by
   have:(d+1)*rows<=fF*rows:=gE _ w;rw[e2,gN] at this;omega
  dsimp only;rw[bb (aA (U:(d:Int)<(fF:Int))),bi U];refine ac.aU (P:=λi=>∃a b,i=(((0:Int),((0:Int),([],([],([],()))))),((rows:Int),(fF:Int),e,a,b,()),())/\l7 rows d rows e a b/\(∀f∈b,dU f)/\a.length<=d*rows+rows) ?_ ?_
  ·refine ac.steps rows (λg n=>∃a b,n=((g:Int),((0:Int),((0:Int),([],([],([],()))))),((rows:Int),(fF:Int),e,a,b,()),())/\l7 rows d g e a b/\(∀f∈b,dU f)/\a.length<=d*rows+g) ?_ ?_ ?_
   ·exact⟨a,b,rfl,p.open,u,U⟩
   ·rintro g _ E ⟨a,b,rfl,l,o,C⟩;have H:b.length=a.length:=by
     obtain⟨I,_,_,m,_⟩:=l;exact m
    dsimp only;rw[bb (aA (U:(g:Int)<(rows:Int))),bi U];refine ac.aU (P:=λi=>∃a b,i=(((0:Int),((0:Int),([],([],([],()))))),((rows:Int),(fF:Int),e,a,b,()),())/\l7 rows d (g+1) e a b/\(∀f∈b,dU f)/\a.length<=d*rows+(g+1)) ?_ ?_
    ·refine ac.aU (GQ c x _) ?_;rintro⟨J,_⟩ r;dsimp only at r|-;rw[rc aa aa,Option.bind_some];unfold fS;rw[if_pos aa,Option.bind_some,bj];refine ac.ite (λt=>?_) (λt=>?_)
     ·rw[er (by simp;omega),Option.bind_some];refine ac.aU (Tt r s) ?_;rintro⟨f,_⟩ q;dsimp only at q|-;rw[er (by simp;omega),Option.bind_some];refine ac.af.2 ⟨_,_,rfl,l.add f,λz k=>?_,by simp;omega⟩;rcases List.mem_append.1 k with k|k
      ·exact o z k
      obtain rfl:=ed.1 k;exact q
     exact ac.af.2 ⟨_,_,rfl,l.skip,o,U⟩
    rintro _ ⟨a,b,rfl,aw,h,j⟩;exact ac.af.2 ⟨a,b,rfl,aw,h,j⟩
   rintro _ ⟨a,b,rfl,aw,h,j⟩;dsimp only;rw[a2 (ay (U:¬((rows:Int)<(rows:Int))))];exact ac.af.2 ⟨a,b,rfl,aw,h,j⟩
  rintro _ ⟨a,b,rfl,aw,h,j⟩;dsimp only;rw[er (by rw[p.len];simp;omega),Option.bind_some];refine ac.af.2 ⟨_,_,_,rfl,aw.close,h,by rw[Nat.add_mul,Nat.one_mul];omega⟩
 rintro _ ⟨e,a,b,rfl,aw,h,j⟩;dsimp only;rw[a2 (ay (U:¬((fF:Int)<(fF:Int))))];exact ac.af.2 ⟨e,a,b,rfl,aw,h,j⟩
def Ou (j:c.length<=9223372036854775807) {n:Nat} (q:n<=5):ac (Ar (c,(n:Int),())) λb=>b.1.length=n:=by
 unfold Ar;dsimp only;refine ac.aU (P:=λb=>b.1.length=n) ?_ (by rintro⟨o,_⟩ i;exact ac.af.2 i);refine ac.steps n (λd m=>∃a,m=(a,(d:Int),())/\a.length=d) ⟨[],rfl,rfl⟩ ?_ ?_
 ·rintro d _ p ⟨a,rfl,e⟩;dsimp only;rw[bb (aA (U:(d:Int)<(n:Int))),bi U];refine ac.aU (GQ c j _) ?_;rintro⟨h,_⟩ l;dsimp only at l|-;rw[rc aa aa,Option.bind_some];refine ac.bs (pB _ (n:=d+1) U U) ?_;have r:=sL (aq (h/2^(1:Int).toNat)) (n:=d+1) U;dsimp only;generalize nl (aq (h/2^(1:Int).toNat)) (d+1)=b at*;refine ac.bs (CA U) ?_;dsimp only;rw[er (by simp;omega),Option.bind_some,er (by simp;omega),Option.bind_some];have k:((e9 (b:Int)).bind λf=>(some a.length).bind λg=>(fy f g a.length).map λ_=>(f,g))=some (b,a.length):=by
   have:e9 (b:Int)=some b:=(by unfold e9;rw[aj U,bY]);rw[this];show(fy b a.length a.length).map _=_;unfold fy;rw[aj ⟨U,a6 _⟩];rfl
  refine ac.bs k ?_;dsimp only;rw[er (by simp;omega),Option.bind_some];exact ac.af.2 ⟨_,rfl,by simp;omega⟩
 rintro _ ⟨a,rfl,e⟩;dsimp only;rw[a2 (ay (U:¬((n:Int)<(n:Int))))];exact ac.af.2 e
def vT (a:dq):Prop:=a.1.length<1000000/\a.2.1.length<1000000/\a.2.2.1.length<1000000/\a.2.2.2.1.length<1000000
def MV {a:dq} (b:vT a):wJ (a,a,())=some (true,()):=by obtain⟨c,d,e,f⟩:=b;unfold wJ;refine ak (tv _ _ U) ?_;dsimp only;rw[bb ab];refine ak (tv _ _ U) ?_;dsimp only;rw[bb ab];refine ak (tv _ _ U) ?_;dsimp only;rw[bb ab];refine ak (G3 _ _ U) ?_;dsimp only;simp
def u7:vT fA:=⟨aa,aa,aa,aa⟩
def J3 {A:Nat->Nat->ac2} {o:ac8} (b:a<=5) (h:e.length=a) (i:o.length<=5):vT (iY A e o a).1:=by
 unfold iY;split
 ·split
  ·exact u7
  exact u7
 have d:=xq e a;have f:=pS A e a;have g:a*e.length<=5*5:=iu b U;refine⟨?_,?_,?_,?_⟩
 ·show o.length<1000000;omega
 ·show(aF (a+1) (λc=>((bA e c).length:Int))).length<1000000;rw[bp];omega
 ·show(bA e a).length<1000000;omega
 show(iq A e a).length<1000000;omega
def Sr (b:Nat->Nat->ac2) (c:acX) (f:ac8) (a:Nat):(iY b c f a=(ey b c f a,(a:Int),0,())/\∀d,d<a->fw b c d=0)\/∃i g,iY b c f a=(fA,i,g,())/\g≠0:=by
 unfold iY;split
 ·rename_i i e;have h:=List.find?_some e;rw[decide_eq_true_eq] at h;split
  ·exact .inr ⟨_,_,rfl,aa⟩
  exact .inr ⟨_,_,rfl,h⟩
 rename_i e;refine .inl ⟨rfl,λd j=>?_⟩;simpa using yO.1 e d (gL.2 j)
def EN (b:acX) {a:Nat}:∀{n},a<=n->∃c,bA b n=bA b a++c
 |0,e=>by obtain rfl:a=0:=U;exact⟨[],ab⟩
 |n+1,e=>by
  rcases bn n a with d|d
  ·obtain rfl:a=n+1:=U;exact⟨[],ab⟩
  obtain⟨c,f⟩:=EN b d;exact⟨c++aY b n,by rw[bA,f,kr]⟩
def NG (b:Nat->Nat->ac2) (c:acX) {a:Nat}:∀{n},a<=n->∃d,iq b c n=iq b c a++d
 |0,f=>by obtain rfl:a=0:=U;exact⟨[],ab⟩
 |n+1,f=>by
  rcases bn n a with e|e
  ·obtain rfl:a=n+1:=U;exact⟨[],ab⟩
  obtain⟨d,g⟩:=NG b c e;exact⟨d++fP b c n,by rw[iq,g,kr]⟩
def Y5 (c:Nat->Nat->ac2) (a:acX) (b:Nat):(fP c a b).length=(aY a b).length:=by unfold fP;rw[fK]
def RS (c:acX) (d:a<b):(bA c (a+1)).length<=(bA c b).length/\((bA c b).take (bA c (a+1)).length).drop (bA c a).length=aY c a:=by obtain⟨f,e⟩:=EN c (show a+1<=b from d);rw[e];refine⟨by rw[lu];omega,?_⟩;rw[List.take_left,bA,List.drop_left]
def xu (a:acX) (b:Nat):(bA a (b+1)).length=(bA a b).length+(aY a b).length:=by rw[bA,lu]
def Rh (d:Nat->Nat->ac2) (c:acX) (e:a<i) (j:b<(aY c a).length):(bA c i)[(bA c a).length+b]?=(aY c a)[b]?/\(iq d c i)[(bA c a).length+b]?=(fP d c a)[b]?:=by
 obtain⟨k,f⟩:=EN c (show a+1<=i from e);obtain⟨l,g⟩:=NG d c (show a+1<=i from e);have al:=pS d c a;have h:=Y5 d c a;rw[f,g,bA,iq];constructor
 ·rw[kr,l5 U,lq U,lv]
 rw[kr,l5 U,al,lq U,lv]
def KE (a:Nat):e9 (a:Int)=some a:=by unfold e9;rw[aj U,bY]
def X6 {l:Nat} (e:b<=a) (f:a<=l):((e9 (b:Int)).bind λc=>(e9 (a:Int)).bind λd=>(fy c d l).map λ_=>(c,d))=some (b,a):=by rw[KE,KE];show(fy b a l).map _=_;unfold fy;rw[aj ⟨e,f⟩];rfl
def YS (e:a*2^i=b*2^q) (g:0<a) (f:0<b):bq a+i=bq b+q/\az a+i=az b+q:=by have c:=congrArg bq e;have d:=congrArg az e;rw[GL U,GL f] at c;rw[k1 U,k1 f] at d;exact⟨c,d⟩
def S7 {a:Int} (b:j*f=a*2^65536) (r:eR a):jU (some j) (some f)=some a:=by
 show e8 (aZ j*aZ f) (bh j+bh f)=some a;have g:∀h:Nat,(2:Int)^h≠0:=λh=>(by have:(0:Int)<2^h:=mQ aa;omega);by_cases c:j=0
 ·rw[c,p2] at b;rw[c,va,p2,(Int.mul_eq_zero.1 b.symm).resolve_right (g _)];rfl
 by_cases d:f=0
 ·rw[d,Int.mul_zero] at b;rw[d,va,Int.mul_zero,(Int.mul_eq_zero.1 b.symm).resolve_right (g _)];rfl
 have u:=q3 j;have v:=q3 f;have aQ:=gH c;have t:=gH d;have x:=xQ.1 ⟨U,KQ c⟩;have y:=xQ.1 ⟨U,KQ d⟩;have p:aZ j*aZ f≠0:=Int.mul_ne_zero aQ t;have l:bq (aZ j*aZ f).natAbs=0:=(by refine(xQ.2 ?_).2;rw[Int.natAbs_mul,Nat.mul_mod,x,y]);have al:aZ j*aZ f*2^(bq j.natAbs+bq f.natAbs)=a*2^65536:=by
  rw[<-b,ja]
  conv=>rhs;rw[<-u,<-v]
  rw[i9,i9,Int.mul_left_comm (aZ f)]
 have n:bh j=(bq j.natAbs:Int)-65536:=(by rw[bh,ag c];rfl);have o:bh f=(bq f.natAbs:Int)-65536:=(by rw[bh,ag d];rfl);rw[n,o];generalize bq j.natAbs=i at*;generalize bq f.natAbs=k at*;generalize aZ j*aZ f=B at*;have e:=congrArg Int.natAbs al;rw[k8,k8] at e;have s:0<a.natAbs:=Wx e U;obtain⟨m,z⟩:=YS e U s;rw[l] at m;have A:az a.natAbs<=131072:=r;unfold e8;rw[ag p,l,ag U];obtain⟨w,q⟩:=eE (U:0<=(i:Int)-65536+((k:Int)-65536)+65536);rw[q,lV];congr 1;have:i+k=w+65536:=U;rw[this,ja,<-i9] at al;exact Int.mul_eq_mul_right_iff (g _)|>.1 al
def mA (a:Int):Int:=if a<9223372036854775808 then if bE a=0 then eW a else eW a+4503599627370496 else-(if bE a=0 then eW a else eW a+4503599627370496)
def ji (a:Int):Int:=if bE a=0 then-1074 else bE a-1075
def uG (a:bE f≠2047):-1074<=ji f/\ji f<=971:=by have:=xe f;unfold ji;split<;>omega
def u4 (a:Int):az (mA a).natAbs<=53:=de.2 (by
 have b:=xf a;have:(2:Nat)^53=9007199254740992:=aa;rw[this];unfold mA;split<;>split<;>omega)
def B1 (b:bE f≠2047):dJ f=some (mA f*2^(ji f+65536).toNat):=by
 have h:=uG b;have g:=u4 f;unfold dJ;rw[ag b];change e8 (mA f) (ji f)=_;generalize mA f=e at*;generalize ji f=c at*;unfold e8;by_cases a:e=0
 ·rw[aj a,a,p2]
 rw[ag a,ag U];obtain⟨i,d⟩:=eE (U:0<=c+65536);rw[d,lV,bY]
def S8 (c:bE f≠2047) (d:bE j≠2047):jU (dJ f) (dJ j)=some (mA f*mA j*2^(ji f+ji j+65536).toNat):=by
 rw[B1 c,B1 d];have l:=uG c;have m:=uG d;have g:=u4 f;have h:=u4 j;refine S7 ?_ ?_
 ·generalize mA f=a;generalize mA j=e;have:(ji f+65536).toNat+(ji j+65536).toNat=(ji f+ji j+65536).toNat+65536:=U;have al:a*2^(ji f+65536).toNat*(e*2^(ji j+65536).toNat)=a*e*(2^(ji f+65536).toNat*2^(ji j+65536).toNat):=by
   generalize(2:Int)^(ji f+65536).toNat=k;generalize(2:Int)^(ji j+65536).toNat=n;rw[i9,i9,Int.mul_left_comm k]
  rw[al,<-ja,this,ja,<-i9]
 have i:=n7 g h;rw[<-Int.natAbs_mul] at i;generalize mA f*mA j=a at*;unfold eR;rw[k8];rcases h0 a.natAbs with b|b
 ·rw[b,p8];decide
 rw[k1 b];omega
def nF:Nat:=2^67600
def GZ:nF=2^67600:=by rw[nF]
def fh (c:Nat) (b:ac2):Prop:=∃a,b=some a/\a.natAbs<=c*nF
def pI (b:f.natAbs<=a*nF) (e:a<1048576):eR f:=by refine db (hJ b) ?_;have c:az a<=20:=de.2 U;have d:az nF<=67601:=(by rw[GZ];exact de.2 (x2 67600 67601 aa));have:=n7 c d;omega
def fh.mono (c:fh a l) (d:a<=b):fh b l:=by obtain⟨f,rfl,e⟩:=c;exact⟨f,rfl,db e (gE _ d)⟩
def Ma (d:az a+b<=67600):a*2^b<=1*nF:=by
 rw[gN,GZ];refine Nat.le_of_lt ((de (k:=67600)).1 ?_);rcases h0 a with c|c
 ·rw[c,p8,show az 0=0 from rfl];omega
 rw[k1 c];omega
def fh.Rp (a:bE f≠2047):fh 1 (dJ f):=by have c:=uG a;have b:=u4 f;refine⟨_,B1 a,?_⟩;rw[k8];exact Ma U
def fh.mul (a:bE f≠2047) (b:bE j≠2047):fh 1 (jU (dJ f) (dJ j)):=by have d:=uG a;have e:=uG b;have c:=n7 (u4 f) (u4 j);rw[<-Int.natAbs_mul] at c;refine⟨_,S8 a b,?_⟩;rw[k8];exact Ma U
def fh.neg (b:fh a l):fh a (ot l):=by obtain⟨d,rfl,c⟩:=b;exact⟨-d,rfl,by rw[p0];exact c⟩
def fh.abs (b:fh a l):fh a (y6 l):=by obtain⟨d,rfl,c⟩:=b;exact⟨_,rfl,by rw[rr];exact c⟩
def fh.add (h:fh a l) (i:fh b x) (g:a+b<1048576):fh (a+b) (n3 l x)/\n3 l x=some (l.getD 0+x.getD 0):=by obtain⟨c,rfl,j⟩:=h;obtain⟨d,rfl,k⟩:=i;have e:(c+d).natAbs<=(a+b)*nF:=(by rw[e2];omega);have f:n3 (some c) (some d)=some (c+d):=(by show k2 (c+d)=_;unfold k2;rw[aj (pI e g)]);exact⟨⟨_,f,e⟩,f⟩
def fh.sum {a:Nat}:∀{l:acU},(∀d∈l,fh a d)->fL l=true/\(eZ l).natAbs<=l.length*a*nF
 |[],_=>⟨rfl,bM _⟩
 |d::l,b=>by
  obtain⟨c,h⟩:=fh.sum (l:=l) λg e=>b g (by simp[e]);obtain⟨f,rfl,i⟩:=b d ab;constructor
  ·show(true&&fL l)=true;rw[c];rfl
  show(f+eZ l).natAbs<=(l.length+1)*a*nF;rw[e2,e2,gN];omega
def Yr {k:Nat} {l:acU} (c:∀b∈l,fh k b) (e:l.length*k<1048576):fO l=some (eZ l)/\fh (l.length*k) (fO l):=by obtain⟨d,a⟩:=fh.sum c;have:fO l=some (eZ l):=(by unfold fO k2;rw[aj d,aj (pI a e)]);exact⟨this,_,this,a⟩
def Wh (e:a<=9007199254740992) (g:-1074<=f):0<=kI false a f 0/\kI false a f 0<9223372036854775808:=by
 have d:0<=mE false 0/\mE false 0<9223372036854775808:=aa;unfold kI;have b:∀c,km false c=c:=λc=>rfl;rw[b,b,b];split
 ·omega
 split
 ·split
  ·exact d
  omega
 split
 ·exact d
 omega
def Xp (b:0<a):0<=h8 false a f y 0/\h8 false a f y 0<9223372036854775808:=by have c:=CO (neg:=false) (qY:=y) (ki:=0) (e:=f) b;have g:-1074<=bv a f:=(by unfold bv;omega);have d:h8 false a f y 0=kI false (if bv a f<=f then a*2^(f-bv a f).toNat else gS false a (bv a f-f).toNat y 0) (bv a f) 0:=(by unfold h8;split<;>rfl);rw[d];exact Wh c g
def Xt (e:0<=f):0<=jt (some f) 0/\jt (some f) 0<9223372036854775808:=by
 show 0<=(if f<0 then(9221120237041090560:Int) else if f=0 then 0 else nw f 0)/\(if f<0 then(9221120237041090560:Int) else if f=0 then 0 else nw f 0)<9223372036854775808;rw[ag U];by_cases b:f=0
 ·rw[aj b];decide
 rw[ag b];unfold nw oy;have d:0<(aZ f).natAbs:=(by have:=gH b;omega);have c:58<=az (bz ((aZ f).natAbs*2^ip (aZ f).natAbs (ei f))):=xw (by rw[k1 d];unfold ip;split<;>omega);refine Xp ?_;rcases h0 (bz ((aZ f).natAbs*2^ip (aZ f).natAbs (ei f))) with a|a
 ·rw[a] at c;exact absurd c aa
 exact a
def Ty (h:0<=f) (e:f<9223372036854775808) (b:bE f≠2047) (a:nj f≠0):∃c,dJ f=some c/\0<c:=by
 refine⟨_,B1 b,nJ ?_ (mQ aa)⟩;have i:=xf f;unfold nj at a;rw[ag b] at a;unfold mA;rw[aj e];split
 ·rename_i d;by_cases g:eW f=0
  ·rw[aj ⟨d,g⟩] at a;exact absurd rfl a
  omega
 omega
section
structure eD (A:Nat->Nat->ac2) (G:acX) (o:ac8) (n:Nat):Prop where
 k7:n<=5
 kh:G.length=n
 op:dG o n
 ok:∀m,m<n->fw A G m=0
section
variable {A:Nat->Nat->ac2} {G:acX} {o:ac8} {n:Nat}
def eD.fin (c:eD A G o n) (e:a<n) (d:aX G a b=true):bE (bf A (aX G) a b)≠2047:=I5 (c.ok a e) b d
def eD.Bo (b:eD A G o n) {m i:Nat} (c:m<n):bE (bf A (aX G) m i)≠2047:=by
 by_cases a:aX G m i=true
 ·exact b.fin c a
 rw[sG (by simpa using a)]
 ·decide
 rintro rfl;exact a (Cj (by rw[b.kh];exact c))
def eD.diag (e:eD A G o n) (f:a<n):∃d,dJ (bf A (aX G) a a)=some d/\0<d:=by
 have g:=e.ok a f;have i:¬kw A G a:=λc=>(by rw[Em c] at g;cases g);have l:bf A (aX G) a a=jt (hS A (bf A (aX G)) a a) 0:=(by rw[oo];unfold k3;rw[aj rfl]);have b:¬lU (hS A (bf A (aX G)) a a)<=0:=λc=>i (.inl c);have k:nj (bf A (aX G) a a)≠0:=λc=>i (.inr c);have h:0<=bf A (aX G) a a/\bf A (aX G) a a<9223372036854775808:=by
  rw[l];cases j:hS A (bf A (aX G)) a a with
  |none=>
   rw[j] at b;exact absurd (aa:lU none<=0) b
  |some d=>
   refine Xt ?_;rw[j] at b;have:lU (some d)=dE d:=rfl;rw[this] at b;unfold dE at b;split at b
   ·exact absurd aa b
   omega
 exact Ty h.1 h.2 (e.fin f (Cj (by rw[e.kh];exact f))) k
def eD.uM (b:eD A G o n) (c:a<=n):(bA G a).length<=25:=by have d:=xq G a;have e:a*G.length<=5*5:=iu (db c b.k7) (by have:=b.kh;have:=b.k7;omega);omega
def eD.zq (b:eD A G o n) (a:Nat):(aY G a).length<=n:=by have:=tW (G:=G) a;rw[b.kh] at this;exact this
def eD.st (b:eD A G o n) {j:Nat} (c:j<=n):ax (ey A G o n).2.1 (j:Int)=some ((bA G j).length:Int):=by show ax (aF (n+1) λa=>((bA G a).length:Int)) _=_;rw[bL (by rw[bp];omega),gx]
def eD.at (g:eD A G o n) {a d:Nat} (k:a<n) (c:d<(aY G a).length):∃b:Nat,b<n/\a<=b/\aX G a b=true/\(aY G a)[d]?=some (b:Int)/\ax (ey A G o n).2.2.1 (((bA G a).length+d:Nat):Int)=some (b:Int)/\ax (ey A G o n).2.2.2.1 (((bA G a).length+d:Nat):Int)=some (bf A (aX G) a b):=by
 obtain⟨b,e,f,l,m⟩:=tX (G:=G) (j:=a) (bD c);obtain⟨h,i⟩:=Rh A G k c;refine⟨b,by rw[g.kh] at f;exact f,l,m,by rw[a9 c,e],?_,?_⟩
 ·refine dW ?_;show(bA G n)[_]?=_;rw[h,a9 c,e]
 refine dW ?_;show(iq A G n)[_]?=_;rw[i];unfold fP;rw[eT,a9 c,e];rfl
def eD.asc (g:eD A G o n) (c:(aY G b)[a]?=some (i:Int)) (d:(aY G b)[a+1]?=some (q:Int)):i<q:=by obtain⟨aw,al⟩:=ec.1 c;obtain⟨e,f⟩:=ec.1 d;have:=ga.1 (tV G b) a (a+1) aw e U;omega
def eD.first (b:eD A G o n) (c:a<n):0<(aY G a).length/\(aY G a)[0]?=some (a:Int):=by obtain⟨e,d,_⟩:=DH (G:=G) (j:=a) (by rw[b.kh];exact c);rw[d];exact⟨ab,rfl⟩
def eD.NH (d:eD A G o n):∀b∈iq A G n,dU b/\bE b≠2047:=by
 suffices e:∀c,c<=n->∀b∈iq A G c,dU b/\bE b≠2047 from e n (a6 _);intro c
 induction c with
 |zero=>intro _ b a;cases a
 |succ c h=>
  intro j b a;rw[iq] at a;rcases dX.1 a with a|a
  ·exact h U b a
  unfold fP at a;obtain⟨m,g,rfl⟩:=bR.1 a;obtain⟨l,rfl,i,k,f⟩:=tX g;rw[bY];exact⟨my _ _ _ _,d.fin U f⟩
def JO (u:n<=200) (h:dG o n):zw (o,())=some (true,()):=by
 have l:=h.1;unfold zw;dsimp only;rw[show ar o=(n:Int) by rw[aV,l]];refine ak (gA U) ?_;refine ac.eq_iff.1 ?_;refine ac.aU (P:=λq=>q=.inl ()) ?_ (by rintro _ rfl;exact ac.af.2 rfl);refine ac.steps n (λa r=>r=((a:Int),aF n (λb=>decide ((b:Int)∈o.take a)),())) ?_ ?_ ?_
 ·rw[hu];simp
 ·rintro a _ t rfl;dsimp only;rw[bb (aA (U:(a:Int)<(n:Int))),bL (U:a<o.length)];have j:o.take (a+1)=o.take a++[o[a]'(by omega)]:=by rw[List.take_add_one,List.getElem?_eq_getElem U];rfl
  have p:=h.2.1 _ (bD (U:a<o.length));have i:=List.Nodup.sublist (List.take_sublist (a+1) o) h.2.2;rw[j,hC] at i;have m:o[a]'(by omega)∉o.take a:=λk=>i.2.2 _ k _ (ed.2 rfl) rfl
  have g:∀e,e∈o.take (a+1)↔e∈o.take a\/e=o[a]'(by omega):=λe=>by rw[j,dX,ed]
  clear i j;generalize w:o[a]'(by omega)=b at*
  obtain⟨d,rfl⟩:=eE p.1;simp only[aG];rw[bb (show(decide ((d:Int)<0)==false)=true by rw[ay U];rfl),bb (show(decide ((d:Int)>=(n:Int))==false)=true by rw[ay U];rfl)];rw[iZ (by rw[bp];omega),gx,a2 (ay m)];simp only[aG];rw[i6 (by rw[bp];omega),g3];refine ac.af.2 ?_;rw[bi U];have:aF n (eI (λb=>decide ((b:Int)∈o.take a)) d true)=aF n (λb=>decide ((b:Int)∈o.take (a+1))):=by
   refine dy λs v=>?_;by_cases f:s=d
   ·subst f;rw[iF,aA ((g _).2 (.inr rfl))]
   rw[iE _ _ f];exact decide_eq_decide.2 ⟨λc=>(g _).2 (.inl c),λc=>((g _).1 c).resolve_right λc=>f U⟩
  rw[this]
 rintro _ rfl;dsimp only;rw[a2 (ay (U:¬((n:Int)<(n:Int))))];exact ac.af.2 rfl
def Yo (a:eD A G o n):zy (ey A G o n,())=some (true,()):=by
 have D:=a.k7;have q:ar (ey A G o n).1=(n:Int):=(by rw[aV];exact congrArg _ a.op.1);have p:ar (ey A G o n).2.2.1=((bA G n).length:Int):=aV _;unfold zy;dsimp only;rw[q,p];refine ak (y:=.inl ()) ?_ ?_
 ·refine ak (a.st (j:=0) U) ?_;rw[bb (by rfl)];refine ak (a.st (a6 n)) ?_;rw[a2 (by rw[bH,aA rfl];rfl)]
 dsimp only;refine ac.eq_iff.1 ?_;refine ac.aU (P:=λe=>e=.inl ()) ?_ (by rintro _ rfl;exact ac.af.2 rfl);refine ac.steps n (λd f=>f=((d:Int),())) rfl ?_ ?_
 ·rintro j _ c rfl;dsimp only;rw[bb (aA (U:(j:Int)<(n:Int))),bi U];obtain⟨h,i⟩:=RS G c;have v:=xu G j;have C:=a.uM (Nat.le_refl n);have w:=a.zq j;obtain⟨x,k⟩:=a.first c;refine ac.aU (P:=λt=>t=.inl ()) ?_ (by rintro _ rfl;exact ac.af.2 rfl);refine ac.bs (y:=.inl ()) ?_ ?_
  ·refine ak (a.st U) (ak (a.st (show j+1<=n from c)) ?_);rw[bb (by rw[ay (U:¬((bA G j).length:Int)>((bA G (j+1)).length:Int))];rfl)];refine ak (a.st (show j+1<=n from c)) ?_;rw[a2 (ay (U:¬((bA G (j+1)).length:Int)>((bA G n).length:Int)))]
  dsimp only;refine ac.bs (a.st U) (ac.bs (a.st (show j+1<=n from c)) ?_);refine ac.bs (X6 (l:=(bA G n).length) U h) ?_;dsimp only;have s:List.drop (bA G j).length (List.take (bA G (j+1)).length (ey A G o n).2.2.1)=aY G j:=i;rw[s,aV];refine ac.bs (y:=.inl ()) ?_ ?_
  ·rw[bb (by rw[dO,ay (U:¬((aY G j).length:Int)=0)];rfl)];refine ak (dW k) ?_;rw[bb (by rw[bH,aA rfl];rfl)];have r:(aY G j).length-1<(aY G j).length:=U;obtain⟨d,z,_,_,m,_⟩:=a.at c r;have:aq ((((aY G j).length:Nat):Int)-1)=(((aY G j).length-1:Nat):Int):=by
    rw[(U:(((aY G j).length:Nat):Int)-1=(((aY G j).length-1:Nat):Int)),be U U]
   rw[this];refine ak (dW m) ?_;rw[a2 (ay (U:¬(d:Int)>=(n:Int)))]
  dsimp only;refine ac.aU (P:=λe=>e=.inl ()) ?_ (by rintro _ rfl;exact ac.af.2 rfl);refine ac.steps ((aY G j).length-1) (λb f=>f=(((b+1:Nat):Int),())) rfl ?_ ?_
  ·rintro b _ B rfl;dsimp only;rw[bb (aA (U:((b+1:Nat):Int)<((aY G j).length:Int))),bi U];have:aq (((b+1:Nat):Int)-1)=(b:Int):=by
    rw[(U:((b+1:Nat):Int)-1=(b:Int)),be U U]
   rw[this];obtain⟨d,_,_,_,al,_⟩:=a.at c (U:b<(aY G j).length);obtain⟨u,_,_,_,g,_⟩:=a.at c (U:b+1<(aY G j).length);have:=a.asc al g;refine ac.bs (dW al) (ac.bs (dW g) ?_);rw[a2 (ay (U:¬(d:Int)>=(u:Int)))];exact ac.af.2 rfl
  rintro _ rfl;dsimp only;rw[a2 (ay (U:¬(((aY G j).length-1+1:Nat):Int)<((aY G j).length:Int)))];exact ac.af.2 rfl
 rintro _ rfl;dsimp only;rw[a2 (ay (U:¬((n:Int)<(n:Int))))];exact ac.af.2 rfl
def CZ (a:eD A G o n):rT (ey A G o n,())=some (0,()):=by
 have v:=a.k7;have q:ar (ey A G o n).1=(n:Int):=(by rw[aV];exact congrArg _ a.op.1);have d:ar (ey A G o n).2.2.1=((bA G n).length:Int):=aV _;have f:ar (ey A G o n).2.2.2.1=((bA G n).length:Int):=(by rw[aV];exact congrArg _ (pS A G n));have r:ar (ey A G o n).2.1=((n+1:Nat):Int):=(by rw[aV];exact congrArg _ (bp _ _));have u:=a.uM (Nat.le_refl n);unfold rT;dsimp only;rw[q,d,f,r];refine ak (y:=.inl ()) ?_ ?_
 ·rw[a2 (ay (U:¬(n:Int)>200))];refine ak (JO U a.op) ?_;dsimp only;rw[a2 (by rfl),bi U];refine ak (y:=(false,())) ?_ ?_
  ·rw[bb (by rw[bH,aA rfl];rfl),bH,aA rfl];rfl
  dsimp only;rw[a2 rfl];refine ak (Yo a) ?_;dsimp only;rw[a2 (by rfl)]
 dsimp only;refine ac.eq_iff.1 ?_;refine ac.aU (P:=λg=>g=.inl ()) ?_ ?_
 ·refine ac.steps (bA G n).length (λb h=>h=((b:Int),())) rfl ?_ ?_
  ·rintro b _ d rfl;dsimp only;have i:b<(iq A G n).length:=(by rw[pS];exact d);rw[bb (aA (U:(b:Int)<((bA G n).length:Int))),bi U];obtain⟨m,p⟩:=a.NH _ (List.getElem_mem i);refine ac.bs (y:=(iq A G n)[b]) (dW (List.getElem?_eq_getElem i)) ?_;refine ac.bs (BG m) ?_;dsimp only;rw[a2 (by rw[ay p];rfl)];exact ac.af.2 rfl
  rintro _ rfl;dsimp only;rw[a2 (ay (U:¬(((bA G n).length:Int)<((bA G n).length:Int))))];exact ac.af.2 rfl
 rintro _ rfl;dsimp only;refine ac.aU (P:=λg=>g=.inl ()) ?_ (by rintro _ rfl;exact ac.af.2 rfl);refine ac.steps n (λb h=>h=((b:Int),())) rfl ?_ ?_
 ·rintro c _ e rfl;dsimp only;rw[bb (aA (U:(c:Int)<(n:Int))),bi U];obtain⟨k,l⟩:=a.first e;obtain⟨b,_,_,_,al,_,j⟩:=a.at e k;rw[l] at al;obtain rfl:c=b:=(by have:=Option.some.inj al;omega);obtain⟨t,f,s⟩:=a.diag e;refine ac.bs (a.st U) (ac.bs (y:=bf A (aX G) c c) j ?_);refine ac.bs (sQ (my _ _ _ _)) (ac.bs (mm (jq _)) ?_);dsimp only;rw[a2 (ay (by rw[f];show¬dE t<=0;rw[Cy s];decide))];exact ac.af.2 rfl
 rintro _ rfl;dsimp only;rw[a2 (ay (U:¬((n:Int)<(n:Int))))];exact ac.af.2 rfl
def JN:dG [] 0:=⟨rfl,ab,ab⟩
def NX:rT (fA,())=some (2,()):=by unfold rT;refine ak (y:=.inr (2,())) ?_ rfl;rw[a2 aa];refine ak (JO U JN) ?_;rfl
def WP (a:eD A G o n):A1 ((ey A G o n).2.1,(n:Int),((bA G n).length:Int),())=some (true,()):=by
 have h:=a.k7;have c:ar (ey A G o n).2.1=((n+1:Nat):Int):=(by rw[aV];exact congrArg _ (bp _ _));unfold A1;dsimp only;rw[c,bi U];refine ak (y:=.inl ()) ?_ ?_
 ·rw[bb (by rw[bH,aA rfl];rfl)];refine ak (a.st (j:=0) U) ?_;rw[bb (by rfl)];refine ak (a.st (a6 n)) ?_;rw[a2 (by rw[bH,aA rfl];rfl)]
 dsimp only;refine ac.eq_iff.1 ?_;refine ac.aU (P:=λe=>e=.inl ()) ?_ (by rintro _ rfl;exact ac.af.2 rfl);refine ac.steps n (λd f=>f=((d:Int),())) rfl ?_ ?_
 ·rintro j _ b rfl;dsimp only;have g:=xu G j;rw[bb (aA (U:(j:Int)<(n:Int))),bi U];refine ac.bs (a.st U) (ac.bs (a.st (show j+1<=n from b)) ?_);rw[a2 (ay (U:¬((bA G j).length:Int)>((bA G (j+1)).length:Int)))];exact ac.af.2 rfl
 rintro _ rfl;dsimp only;rw[a2 (ay (U:¬((n:Int)<(n:Int))))];exact ac.af.2 rfl
def F6 (b:eD A G o n):sa (ey A G o n,())=some (0,()):=by
 classical
 have K:=b.k7;have u:ar (ey A G o n).1=(n:Int):=(by rw[aV];exact congrArg _ b.op.1);have k:ar (ey A G o n).2.2.1=((bA G n).length:Int):=aV _;have l:ar (ey A G o n).2.2.2.1=((bA G n).length:Int):=(by rw[aV];exact congrArg _ (pS A G n));have v:ar (ey A G o n).2.1=((n+1:Nat):Int):=(by rw[aV];exact congrArg _ (bp _ _));have I:=b.uM (Nat.le_refl n);have H:=b.op.1;unfold sa;dsimp only;rw[u,k,l,v];refine ak (y:=.inl ()) ?_ ?_
 ·rw[a2 (ay (U:¬(n:Int)>200))];refine ak (F8 (o:=o) (n:=n) U U) ?_;rw[aA b.op];dsimp only;rw[a2 (by rfl),bi U];refine ak (y:=(false,())) ?_ ?_
  ·rw[bb (by rw[bH,aA rfl];rfl),bH,aA rfl];rfl
  dsimp only;rw[a2 rfl];refine ak (WP b) ?_;dsimp only;rw[a2 (by rfl)]
 dsimp only;refine ac.eq_iff.1 ?_;refine ac.aU (P:=λh=>h=.inl ()) ?_ ?_
 ·refine ac.steps n (λc f=>f=((c:Int),())) rfl ?_ ?_
  ·rintro a _ d rfl;dsimp only;rw[bb (aA (U:(a:Int)<(n:Int))),bi U];have D:=xu G a;have E:=b.zq a;have J:=b.uM (U:a<=n);obtain⟨i,j⟩:=b.first d;refine ac.aU (P:=λm=>m=.inl ()) ?_ (by rintro _ rfl;exact ac.af.2 rfl);refine ac.bs (b.st U) ?_;refine ac.aU (P:=λm=>m=.inl ()) ?_ ?_
   ·refine ac.steps (aY G a).length (λe f=>f=((((bA G a).length+e:Nat):Int),())) rfl ?_ ?_
    ·rintro e _ w rfl;dsimp only;refine ac.bs (b.st (show a+1<=n from d)) ?_;rw[bb (aA (U:(((bA G a).length+e:Nat):Int)<((bA G (a+1)).length:Int))),bi U];obtain⟨c,F,_,_,al,g,_⟩:=b.at d w;refine ac.bs (y:=.inl ()) ?_ (ac.af.2 rfl);refine ak g ?_;rw[bb (by rw[ay (U:¬(c:Int)>=(n:Int))];rfl)];refine ak (b.st U) ?_;cases e with
     |zero=>
      rw[a2 (by rw[ay (U:¬(((bA G a).length+0:Nat):Int)>((bA G a).length:Int))];rfl)]
     |succ e=>
      rw[bb (by rw[aA (U:(((bA G a).length+(e+1):Nat):Int)>((bA G a).length:Int))];rfl)];obtain⟨C,_,_,_,q,r,_⟩:=b.at d (U:e<(aY G a).length);have:=b.asc q al;refine ak g ?_;have z:aq ((((bA G a).length+(e+1):Nat):Int)-1)=(((bA G a).length+e:Nat):Int):=(by rw[(U:(((bA G a).length+(e+1):Nat):Int)-1=(((bA G a).length+e:Nat):Int)),be U U]);rw[z];refine ak r ?_;rw[a2 (ay (U:¬(c:Int)<=(C:Int)))]
    rintro _ rfl;dsimp only;refine ac.bs (b.st (show a+1<=n from d)) ?_;rw[a2 (ay (U:¬(((bA G a).length+(aY G a).length:Nat):Int)<((bA G (a+1)).length:Int)))];exact ac.af.2 rfl
   rintro _ rfl;dsimp only;refine ac.bs (b.st U) (ac.bs (b.st (show a+1<=n from d)) ?_);rw[bb (by rw[dO,ay (U:¬((bA G a).length:Int)=((bA G (a+1)).length:Int))];rfl)];obtain⟨c,_,_,_,al,g,_⟩:=b.at d i;rw[j] at al;obtain rfl:a=c:=(by have:=Option.some.inj al;omega);refine ac.bs (b.st U) (ac.bs (y:=(a:Int)) g ?_);rw[a2 (by rw[bH,aA rfl];rfl)];exact ac.af.2 rfl
  rintro _ rfl;dsimp only;rw[a2 (ay (U:¬((n:Int)<(n:Int))))];exact ac.af.2 rfl
 rintro _ rfl;dsimp only;refine ac.aU (P:=λh=>h=.inl ()) ?_ ?_
 ·refine ac.steps (bA G n).length (λc f=>f=((c:Int),())) rfl ?_ ?_
  ·rintro c _ k rfl;dsimp only;have p:c<(iq A G n).length:=(by rw[pS];exact k);rw[bb (aA (U:(c:Int)<((bA G n).length:Int))),bi U];obtain⟨s,t⟩:=b.NH _ (List.getElem_mem p);refine ac.bs (y:=(iq A G n)[c]) (dW (List.getElem?_eq_getElem p)) ?_;refine ac.bs (yc s) ?_;dsimp only;rw[a2 (by rw[ay t];rfl)];exact ac.af.2 rfl
  rintro _ rfl;dsimp only;rw[a2 (ay (U:¬(((bA G n).length:Int)<((bA G n).length:Int))))];exact ac.af.2 rfl
 rintro _ rfl;dsimp only;refine ac.aU (P:=λh=>h=.inl ()) ?_ (by rintro _ rfl;exact ac.af.2 rfl);refine ac.steps n (λc f=>f=((c:Int),())) rfl ?_ ?_
 ·rintro a _ d rfl;dsimp only;rw[bb (aA (U:(a:Int)<(n:Int))),bi U];obtain⟨i,j⟩:=b.first d;obtain⟨c,_,_,_,al,_,g⟩:=b.at d i;rw[j] at al;obtain rfl:a=c:=(by have:=Option.some.inj al;omega);obtain⟨B,l,x⟩:=b.diag d;refine ac.bs (b.st U) (ac.bs (y:=bf A (aX G) a a) g ?_);refine ac.bs (yg (my _ _ _ _)) (ac.bs (Mr (jq _)) ?_);dsimp only;rw[a2 (ay (by rw[l];show¬dE B<=0;rw[Cy x];decide))];exact ac.af.2 rfl
 rintro _ rfl;dsimp only;rw[a2 (ay (U:¬((n:Int)<(n:Int))))];exact ac.af.2 rfl
def WI:sa (fA,())=some (2,()):=by
 classical
 unfold sa;refine ak (y:=.inr (2,())) ?_ rfl;rw[a2 aa];refine ak (F8 (o:=[]) (n:=0) U ab) ?_;rw[aA JN];rfl
end
end
section
section
variable {A:Nat->Nat->ac2} {G:acX} {o:ac8} {n:Nat}
def ns (A:Nat->Nat->ac2) (G:acX) (n:Nat):ac8:=aF (n*n) λa=>bf A (aX G) (a/n) (a %n)
def sg {n j:Nat} (b:a<n):(j*n+a)/n=j/\(j*n+a) %n=a:=by
 constructor
 ·rw[jF,Nat.mul_add_div U,Nat.div_eq_of_lt b,kv]
 rw[jF,Nat.mul_add_mod,Nat.mod_eq_of_lt b]
def tM {n:Nat} (c:a<n) (d:b<n):a*n+b<n*n:=by have:(a+1)*n<=n*n:=gE _ c;rw[e2,gN] at this;omega
def nB {n:Nat} (a:n<=5):n*n<=25:=iu a a
def yx {n:Nat} (f:n<=5) (e:a<n) (d:b<n):aq (aq ((a:Int)*(n:Int))+(b:Int))=((a*n+b:Nat):Int):=by have h:=tM e d;have i:=nB f;have c:(a:Int)*(n:Int)=((a*n:Nat):Int):=(by rw[jB]);rw[c];generalize a*n=g at*;generalize n*n=j at*;rw[be (x:=(g:Int)) U U,be U U];omega
def NK {n:Nat} (b:n<=5):aq ((n:Int)*(n:Int))=((n*n:Nat):Int):=by have c:=nB b;have a:(n:Int)*(n:Int)=((n*n:Nat):Int):=(by rw[jB]);rw[a];generalize n*n=d at*;rw[be U U]
def X7 (a:eD A G o n):zx (ey A G o n,())=some (0,()):=by have c:=a.k7;have b:ar (ey A G o n).1=(n:Int):=(by rw[aV];exact congrArg _ a.op.1);unfold zx;refine ak (CZ a) ?_;dsimp only;rw[b,a2 (by rfl),a2 (ay (U:¬(n:Int)>64))]
def WU (c:eD A G o n) (f:a<n) (t:b<n):A3 (ey A G o n,(b:Int),(a:Int),())=some (bf A (aX G) a b,()):=by
 have z:=c.k7;have r:=xu G a;have x:=c.uM (U:a<=n);have s:=c.zq a;unfold A3;refine ak (c.st U) ?_;refine ac.eq_iff.1 ?_;refine ac.aU (P:=λh=>(h=.inl ()/\(b:Int)∉aY G a)\/h=.inr (bf A (aX G) a b,())) ?_ ?_
 ·refine ac.steps (aY G a).length (λe q=>q=((((bA G a).length+e:Nat):Int),())/\(b:Int)∉(aY G a).take e) ⟨rfl,ab⟩ ?_ ?_
  ·rintro e _ l ⟨rfl,d⟩;dsimp only;rw[bi U];refine ac.bs (c.st (show a+1<=n from f)) ?_;rw[bb (aA (U:(((bA G a).length+e:Nat):Int)<((bA G (a+1)).length:Int)))];obtain⟨g,w,u,v,p,al,j⟩:=c.at f l;have m:(aY G a).take (e+1)=(aY G a).take e++[(g:Int)]:=(by rw[List.take_add_one,p];rfl);refine ac.bs (y:=(g:Int)) al ?_;rw[dO,bj];refine ac.ite (λk=>?_) (λk=>?_)
   ·obtain rfl:g=b:=U;refine ac.bs (y:=bf A (aX G) a g) j ?_;exact ac.af.2 (.inr rfl)
   rw[bi U];refine ac.af.2 ⟨rfl,λi=>?_⟩;rw[m,dX,ed] at i;exact i.elim d U
  rintro _ ⟨rfl,d⟩;dsimp only;rw[bi U];refine ac.bs (c.st (show a+1<=n from f)) ?_;rw[a2 (ay (U:¬(((bA G a).length+(aY G a).length:Nat):Int)<((bA G (a+1)).length:Int)))];rw[List.take_of_length_le (Nat.le_refl _)] at d;exact ac.af.2 (.inl ⟨rfl,d⟩)
 rintro h (⟨rfl,d⟩|rfl)
 ·refine ac.af.2 ?_;rw[sG]
  ·unfold aX;exact ay d
  rintro rfl;exact d (sI.2 ⟨by rw[c.kh];exact f,.inl rfl⟩)
 exact ac.af.2 rfl
def WJ (d:eD A G o n):A0 (ey A G o n,())=some (((n:Int),(n:Int),ns A G n,()),0,()):=by
 have m:=d.k7;have q:=nB m;have l:ar (ey A G o n).1=(n:Int):=(by rw[aV];exact congrArg _ d.op.1);unfold A0;refine ak (F6 d) ?_;dsimp only;rw[l,a2 (by rfl),a2 (ay (U:¬(n:Int)>64))];refine ac.eq_iff.1 ?_;refine ac.aU (P:=λe=>e=(((0:Int),(0:Int),[],()),((n:Int),(n:Int),ns A G n,()),())) ?_ (by rintro _ rfl;exact ac.af.2 rfl);refine ac.steps n (λa f=>f=((a:Int),((0:Int),(0:Int),[],()),((n:Int),(n:Int),aF (a*n) (λb=>bf A (aX G) (b/n) (b %n)),()),())) ?_ ?_ ?_
 ·rw[p8];rfl
 ·rintro a _ h rfl;dsimp only;rw[bb (aA (U:(a:Int)<(n:Int))),bi U];have p:a*n+n<=n*n:=by
   have:(a+1)*n<=n*n:=gE _ h;rw[e2,gN] at this;omega
  refine ac.aU (P:=λe=>e=(((0:Int),(0:Int),[],()),((n:Int),(n:Int),aF (a*n+n) (λb=>bf A (aX G) (b/n) (b %n)),()),())) ?_ (by rintro _ rfl;exact ac.af.2 (by rw[e2,gN]));refine ac.steps n (λc f=>f=((c:Int),((0:Int),(0:Int),[],()),((n:Int),(n:Int),aF (a*n+c) (λb=>bf A (aX G) (b/n) (b %n)),()),())) rfl ?_ ?_
  ·rintro c _ g rfl;dsimp only;rw[bb (aA (U:(c:Int)<(n:Int))),bi U];refine ac.bs (WU d h g) ?_;dsimp only;rw[er (by rw[bp];simp;omega),Option.bind_some];refine ac.af.2 ?_;obtain⟨i,k⟩:=sg (n:=n) (j:=a) g;rw[<-Nat.add_assoc,m8 (a*n+c),i,k]
  rintro _ rfl;dsimp only;rw[a2 (ay (U:¬((n:Int)<(n:Int))))];exact ac.af.2 rfl
 rintro _ rfl;dsimp only;rw[a2 (ay (U:¬((n:Int)<(n:Int))))];exact ac.af.2 rfl
end
end
section
section
variable {A:Nat->Nat->ac2} {G:acX} {o:ac8} {n:Nat}
def jV (A:Nat->Nat->ac2) (G:acX) (n b a:Nat):ac2:=jU (dJ (bf A (aX G) a (b %n))) (dJ (bf A (aX G) a (b/n)))
def nh (G:acX) (n b a:Nat):Bool:=aX G a (b %n)&&aX G a (b/n)
def kk (A:Nat->Nat->ac2) (G:acX) (n a:Nat):ac2:=fO ((List.range n).map (jV A G n a))
def lN (A:Nat->Nat->ac2) (G:acX) (n:Nat):List bw:=aF (n*n) λa=>aT (kk A G n a)
def Kz (b a:Nat):dm (jV A G n b a):=BY _ _
def S9 (c:eD A G o n) (d:a<n):fh 1 (jV A G n b a):=fh.mul (c.Bo d) (c.Bo d)
def Ta (c:eD A G o n) {m:Nat} (e:m<n) (b:nh G n a m=false):jV A G n a m=some 0:=by
 unfold jV;have f:∀i,aX G m i=false->bf A (aX G) m i=0:=λi d=>sG d (λg=>by
  rw[g,Cj (by rw[c.kh];exact e)] at d;cases d)
 obtain⟨k,h⟩:=Fx (c.Bo (m:=m) (i:=a %n) e);obtain⟨l,j⟩:=Fx (c.Bo (m:=m) (i:=a/n) e);unfold nh at b;rw[Bool.and_eq_false_iff] at b;rcases b with b|b
 ·rw[f _ b,sP,j,Kw]
 rw[f _ b,sP,h,Kx]
def WA (b:eD A G o n) (a:Nat):fO (((List.range n).filter (nh G n a)).map (jV A G n a))=kk A G n a:=by obtain⟨c,d⟩:=Gy (f:=jV A G n a) (p:=nh G n a) (L:=List.range n) λh e g=>Ta b (gL.1 e) g;unfold kk fO;rw[c,d]
def Wz (b:eD A G o n) (a:Nat):fh 5 (kk A G n a):=by have h:=b.k7;have c:((List.range n).map (jV A G n a)).length=n:=ab;refine((Yr (k:=1) (l:=(List.range n).map (jV A G n a)) (λf d=>?_) (by rw[c];omega)).2).mono (by rw[c];omega);obtain⟨g,e,rfl⟩:=bR.1 d;exact S9 b (gL.1 e)
def Mc (a:Nat):dm (kk A G n a):=Nb _
def jK (G:acX) (n a c d b:Nat):Prop:=(((b %n:Nat):Int)∈(aY G a).take c/\((b/n:Nat):Int)∈aY G a)\/((aY G a)[c]?=some ((b %n:Nat):Int)/\((b/n:Nat):Int)∈(aY G a).take d)
def fU (A:Nat->Nat->ac2) (G:acX) (n b c d a:Nat):List bw:=open Classical in((((List.range b).filter (nh G n a)).map (jV A G n a))++if jK G n b c d a then[jV A G n a b] else[]).map aT
def YI (a c d b:Nat):(fU A G n a c d b).length<=a+1:=by unfold fU;rw[fK,lu,fK];have e:=hY (nh G n b) (List.range a);rw[nP] at e;split<;>simp<;>omega
def YH (a:Nat):fU A G n 0 0 0 a=[]:=by unfold fU;rw[ag (by unfold jK;simp)];rfl
def YJ (h:eD A G o n) (f:(aY G a)[b]?=some (q:Int)):fU A G n a b (aY G a).length i=fU A G n a (b+1) 0 i:=by
 have:jK G n a b (aY G a).length i↔jK G n a (b+1) 0 i:=by
  unfold jK;rw[c8 (a6 _),hD,f,Option.toList,dX,ed];constructor
  ·rintro(⟨c,d⟩|⟨c,d⟩)
   ·exact .inl ⟨.inl c,d⟩
   exact .inl ⟨.inr (ee c).symm,d⟩
  rintro(⟨c|c,d⟩|⟨c,d⟩)
  ·exact .inl ⟨c,d⟩
  ·exact .inr ⟨by rw[c],d⟩
  simp at d
 unfold fU;by_cases e:jK G n a b (aY G a).length i
 ·rw[aj e,aj (this.1 e)]
 rw[ag e,ag (λg=>e (this.2 g))]
def YG (g:eD A G o n):fU A G n a (aY G a).length 0 b=fU A G n (a+1) 0 0 b:=by
 have c:jK G n a (aY G a).length 0 b↔nh G n b a=true:=by
  unfold jK nh aX;rw[c8 (a6 _),bc,decide_eq_true_eq,decide_eq_true_eq];constructor
  ·rintro(c|⟨c,e⟩)
   ·exact c
   simp at e
  exact .inl
 have e:¬jK G n (a+1) 0 0 b:=(by unfold jK;simp);unfold fU;rw[ag e,jb,kV,ln];simp only[fZ];by_cases d:nh G n b a=true
 ·rw[aj (c.2 d),vM d,tA];rfl
 rw[ag (λf=>d (c.1 f)),tz d,tA];rfl
def Iu (d:(aY G b)[a]?=some f):f∉(aY G b).take a:=λe=>by obtain⟨c,i⟩:=ec.1 d;obtain⟨g,j,h⟩:=C9.1 e;have:=ga.1 (tV G b) g a U c U;omega
def YF (v:eD A G o n) {d:Nat} (r:d<n) (w:b<n) (k:(aY G a)[q]?=some (d:Int)) (m:(aY G a)[i]?=some (b:Int)):(aF (n*n) (fU A G n a q i)).set (b*n+d) (fU A G n a q i (b*n+d)++[aT (jU (dJ (bf A (aX G) a d)) (dJ (bf A (aX G) a b)))])=aF (n*n) (fU A G n a q (i+1)):=by
 rw[g3];refine dy λe x=>?_;obtain⟨g,h⟩:=sg (n:=n) (j:=b) r;have s:=Iu k;have t:=Iu m;have p:(aY G a).take (i+1)=(aY G a).take i++[(b:Int)]:=(by rw[hD,m];rfl);by_cases l:e=b*n+d
 ·subst l;rw[iF];unfold fU;rw[ag (by
   unfold jK;rw[g,h];rintro(⟨c,_⟩|⟨_,c⟩)
   ·exact s c
   ·exact t c),aj (by
   unfold jK;rw[g,h];exact .inr ⟨k,by rw[p];simp⟩),jb,fZ]
  unfold jV;rw[g,h];rfl
 rw[iE _ _ l];have:jK G n a q (i+1) e↔jK G n a q i e:=by
  unfold jK;rw[p,dX,ed,k];constructor
  ·rintro(c|⟨aw,f|f⟩)
   ·exact .inl c
   ·exact .inr ⟨aw,f⟩
   have y:=ee aw;have:=nU e n;rw[(U:e/n=b),jF] at this;omega
  rintro(c|⟨aw,f⟩)
  ·exact .inl c
  exact .inr ⟨aw,.inl f⟩
 unfold fU;by_cases c:jK G n a q i e
 ·rw[aj c,aj (this.2 c)]
 rw[ag c,ag (λu=>c (this.1 u))]
def OA (b:eD A G o n):zu (ey A G o n,())=some (((n:Int),(n:Int),lN A G n,()),0,()):=by
 have q:=b.k7;have K:=nB q;have B:ar (ey A G o n).1=(n:Int):=(by rw[aV];exact congrArg _ b.op.1);unfold zu;refine ak (X7 b) ?_;dsimp only;rw[B,a2 (by rfl),NK q];refine ak (gA U) ?_;refine ac.eq_iff.1 ?_;generalize M:(((0:Int),(0:Int),[],()):dh)=e;refine ac.aU (P:=λf=>f=(e,aF (n*n) (fU A G n n 0 0),())) ?_ ?_
 ·refine ac.steps n (λa g=>g=((a:Int),e,aF (n*n) (fU A G n a 0 0),())) ?_ ?_ ?_
  ·rw[hu];have:(aF (n*n) λ_=>([]:List bw))=aF (n*n) (fU A G n 0 0 0):=dy λc _=>(YH c).symm;rw[this];rfl
  ·rintro a _ h rfl;dsimp only;rw[bb (aA (U:(a:Int)<(n:Int))),bi U];have H:=xu G a;have N:=b.uM (U:a<=n);have I:=b.zq a;refine ac.bs (b.st U) ?_;refine ac.aU (P:=λf=>f=(e,aF (n*n) (fU A G n (a+1) 0 0),())) ?_ (by rintro _ rfl;exact ac.af.2 rfl);refine ac.steps (aY G a).length (λd g=>g=((((bA G a).length+d:Nat):Int),e,aF (n*n) (fU A G n a d 0),())) rfl ?_ ?_
   ·rintro d _ u rfl;dsimp only;refine ac.bs (b.st (show a+1<=n from h)) ?_;rw[bb (aA (U:(((bA G a).length+d:Nat):Int)<((bA G (a+1)).length:Int))),bi U];obtain⟨m,k,_,_,r,s,E⟩:=b.at h u;refine ac.bs (b.st U) ?_;refine ac.aU (P:=λf=>f=(e,aF (n*n) (fU A G n a (d+1) 0),())) ?_ (by rintro _ rfl;exact ac.af.2 rfl);refine ac.steps (aY G a).length (λi g=>g=((((bA G a).length+i:Nat):Int),e,aF (n*n) (fU A G n a d i),())) rfl ?_ ?_
    ·rintro i _ v rfl;dsimp only;refine ac.bs (b.st (show a+1<=n from h)) ?_;rw[bb (aA (U:(((bA G a).length+i:Nat):Int)<((bA G (a+1)).length:Int))),bi U];obtain⟨p,l,_,_,z,t,F⟩:=b.at h v;refine ac.bs (y:=(p:Int)) t (ac.bs (y:=(m:Int)) s ?_);rw[yx q l k];have j:=tM l k;refine ac.bs (eL (by rw[bp];exact j)) ?_;refine ac.bs (y:=bf A (aX G) a m) E ?_;refine ac.bs (sQ (my _ _ _ _)) ?_;dsimp only;refine ac.bs (y:=bf A (aX G) a p) F ?_;refine ac.bs (sQ (my _ _ _ _)) ?_;dsimp only;refine ac.bs (IL (jq _) (jq _)) ?_;dsimp only;have L:=YI (A:=A) (G:=G) (n:=n) a d i (p*n+m);rw[fv j];refine ac.bs rfl ?_;rw[er (by simp;omega),Option.bind_some];refine ac.bs (eL (by rw[bp];exact j)) ?_;rw[bb ab,fv j,Option.bind_some,fv j,YF b k l r z];exact ac.af.2 rfl
    rintro _ rfl;dsimp only;refine ac.bs (b.st (show a+1<=n from h)) ?_;rw[a2 (ay (U:¬(((bA G a).length+(aY G a).length:Nat):Int)<((bA G (a+1)).length:Int)))];have:aF (n*n) (fU A G n a d (aY G a).length)=aF (n*n) (fU A G n a (d+1) 0):=dy λc _=>YJ b r;rw[this];exact ac.af.2 rfl
   rintro _ rfl;dsimp only;refine ac.bs (b.st (show a+1<=n from h)) ?_;rw[a2 (ay (U:¬(((bA G a).length+(aY G a).length:Nat):Int)<((bA G (a+1)).length:Int)))];have:aF (n*n) (fU A G n a (aY G a).length 0)=aF (n*n) (fU A G n (a+1) 0 0):=dy λc _=>YG b;rw[this];exact ac.af.2 rfl
  rintro _ rfl;dsimp only;rw[a2 (ay (U:¬((n:Int)<(n:Int))))];exact ac.af.2 rfl
 rintro _ rfl;dsimp only;refine ac.aU (P:=λf=>f=(e,((n:Int),(n:Int),lN A G n,()),())) ?_ (by rintro _ rfl;exact ac.af.2 rfl);refine ac.steps (n*n) (λc g=>g=((c:Int),e,aF (n*n) (fU A G n n 0 0),((n:Int),(n:Int),aF c (λc=>aT (kk A G n c)),()),())) rfl ?_ ?_
 ·rintro c _ D rfl;dsimp only;rw[bb (aA (show(c:Int)<ar (aF (n*n) (fU A G n n 0 0)) by rw[aV,bp];omega)),bi U];rw[iZ (by rw[bp];exact D),gx];have x:fU A G n n 0 0 c=(((List.range n).filter (nh G n c)).map (jV A G n c)).map aT:=by
   unfold fU;rw[ag (by unfold jK;simp),jb]
  have C:=hY (nh G n c) (List.range n);rw[nP] at C;rw[x];refine ac.bs (IN (λJ w=>?_) (by rw[fK];omega)) ?_
  ·obtain⟨O,_,rfl⟩:=bR.1 w;exact Kz _ _
  dsimp only;rw[WA b,er (by rw[bp];simp;omega),Option.bind_some];refine ac.af.2 ?_;rw[m8]
 rintro _ rfl;dsimp only;rw[a2 (ay (show¬((n*n:Nat):Int)<ar (aF (n*n) (fU A G n n 0 0)) by rw[aV,bp];omega))];exact ac.af.2 rfl
def Ml (a:n<=5):w5 ((n:Int),(n:Int),())=some (((n:Int),(n:Int),aF (n*n) (λ_=>jg),()),()):=by have b:=nB a;unfold w5;dsimp only;rw[NK a];refine ak (gA U) ?_;rw[hu];rfl
def li (b:Nat->bw) (c a:Nat):bw:=if a<c then b a else jg
def Nz (a:Nat->bw) {N p:Nat}:(aF N (li a p)).set p (a p)=aF N (li a (p+1)):=by
 rw[g3];refine dy λd _=>?_;by_cases b:d=p
 ·subst b;rw[iF];unfold li;rw[aj U]
 rw[iE _ _ b];unfold li;by_cases c:d<p
 ·rw[aj c,aj U]
 rw[ag c,ag U]
def WQ (m:eD A G o n):A2 (ey A G o n,())=some (((n:Int),(n:Int),lN A G n,()),0,()):=by
 have h:=m.k7;have C:=nB h;unfold A2;refine ak (WJ m) ?_;dsimp only;rw[a2 (by rfl)];refine ak (Ml h) ?_;dsimp only;refine ac.eq_iff.1 ?_;generalize D:(((0:Int),(0:Int),[],()):dh)=f;refine ac.aU (P:=λi=>i=(f,((n:Int),(n:Int),lN A G n,()),())) ?_ (by rintro _ rfl;exact ac.af.2 rfl);refine ac.steps n (λa k=>k=((a:Int),f,((n:Int),(n:Int),ns A G n,()),((n:Int),(n:Int),aF (n*n) (li (λc=>aT (kk A G n c)) (a*n)),()),())) ?_ ?_ ?_
 ·rw[p8];rfl
 ·rintro a _ g rfl;dsimp only;rw[bb (aA (U:(a:Int)<(n:Int))),bi U];refine ac.aU (P:=λi=>i=(f,((n:Int),(n:Int),ns A G n,()),((n:Int),(n:Int),aF (n*n) (li (λc=>aT (kk A G n c)) (a*n+n)),()),())) ?_ (by rintro _ rfl;exact ac.af.2 (by rw[Nat.add_mul,Nat.one_mul]));refine ac.steps n (λd k=>k=((d:Int),f,((n:Int),(n:Int),ns A G n,()),((n:Int),(n:Int),aF (n*n) (li (λc=>aT (kk A G n c)) (a*n+d)),()),())) rfl ?_ ?_
  ·rintro d _ e rfl;dsimp only;rw[bb (aA (U:(d:Int)<(n:Int))),bi U];obtain⟨v,w⟩:=sg (n:=n) (j:=a) e;refine ac.aU (P:=λi=>i=(f,((n:Int),(n:Int),ns A G n,()),((n:Int),(n:Int),aF (n*n) (li (λc=>aT (kk A G n c)) (a*n+d)),()),((List.range n).map (jV A G n (a*n+d))).map aT,())) ?_ ?_
   ·refine ac.steps n (λb k=>k=((b:Int),f,((n:Int),(n:Int),ns A G n,()),((n:Int),(n:Int),aF (n*n) (li (λc=>aT (kk A G n c)) (a*n+d)),()),((List.range b).map (jV A G n (a*n+d))).map aT,())) rfl ?_ ?_
    ·rintro b _ l rfl;dsimp only;rw[bb (aA (U:(b:Int)<(n:Int))),bi U,yx h l e,yx h l g];obtain⟨r,s⟩:=sg (n:=n) (j:=b) e;obtain⟨t,u⟩:=sg (n:=n) (j:=b) g;have al:ax (ns A G n) ((b*n+d:Nat):Int)=some (bf A (aX G) b d):=by
      unfold ns;rw[bL (by rw[bp];exact tM l e),gx,r,s]
     have x:ax (ns A G n) ((b*n+a:Nat):Int)=some (bf A (aX G) b a):=(by unfold ns;rw[bL (by rw[bp];exact tM l g),gx,t,u]);refine ac.bs al (ac.bs x ?_);refine ac.bs (Md (my _ _ _ _) (my _ _ _ _)) ?_;dsimp only;rw[er (by simp;omega),Option.bind_some];refine ac.af.2 ?_;rw[List.range_succ,List.map_append,List.map_append];have:jV A G n (a*n+d) b=jU (dJ (bf A (aX G) b d)) (dJ (bf A (aX G) b a)):=(by unfold jV;rw[v,w]);rw[<-this];rfl
    rintro _ rfl;dsimp only;rw[a2 (ay (U:¬((n:Int)<(n:Int))))];exact ac.af.2 rfl
   rintro _ rfl;dsimp only;refine ac.bs (Ms (λB y=>?_) (by rw[List.length_map,List.length_range];omega)) ?_
   ·obtain⟨b,_,rfl⟩:=bR.1 y;exact Kz _ _
   dsimp only;have q:=tM g e;rw[yx h g e];refine ac.bs (eL (by rw[bp];exact q)) ?_;rw[fv q];refine ac.af.2 ?_;have:=Nz (λc=>aT (kk A G n c)) (N:=n*n) (p:=a*n+d);rw[<-Nat.add_assoc,<-this];rfl
  rintro _ rfl;dsimp only;rw[a2 (ay (U:¬((n:Int)<(n:Int))))];exact ac.af.2 rfl
 rintro _ rfl;dsimp only;rw[a2 (ay (U:¬((n:Int)<(n:Int))))];refine ac.af.2 ?_;have:aF (n*n) (li (λc=>aT (kk A G n c)) (n*n))=lN A G n:=dy λc z=>if_pos z;rw[this]
end
end
end Go.ia
end
