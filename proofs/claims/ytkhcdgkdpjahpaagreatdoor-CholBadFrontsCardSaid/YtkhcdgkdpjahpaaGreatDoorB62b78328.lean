/-
  Parts of the proof: G24, Pm3, Pm4, Pm5, Pm6, Pm7, Pm8, Pm9, Pm10, Pm11, Pm12, Pl13, Th2, Pl16, Pl18, Th3, Pl20, Pl21, Pl22, Pl23, Pl24, Pl25, Pl26, Pl27, Pl29, Pl30, Pl32, Pl36, Pl40, Pl41, Pl42, Pl43, Pm13, Pl46, Pl47, Pl48, Pl50, Pl51, Pl54, Pm14, Pm15, Pm16, Pm17, Pm18, Pm19, Pm20, Pm21, Pm22, Pm23, Pm24, Pm25, Pm26, Pm27, Pm28, Pm29, Pm30, Pm32, Pm33, Pm36, Pm37, Pm38, Pm39, Pm40, Pm41: the framework (Fw), pure forms (Dn), plain laws (Pl, Th), calls of functions (Ok).
-/
import Derived.Test.YtkhcdgkdpjahpaaGreatDoorRows
import Derived.ProofKit
import Derived.Lib.LaidTab
import Derived.LaidMore
import Derived.KernelRfl
import Derived.Test.YtkhcdgkdpjahpaaGreatDoorB3e78b2dc

set_option linter.all false
set_option maxHeartbeats 1000000
noncomputable section
namespace Go.h2
variable{a b g o:Nat}{c h i r:ad5}{d:Nat->Nat->adZ}{e:adU}{f p:Int}{k:Nat->Nat->Bool}{l:Nat->Int}{m:Int->Prop}{n:Type}{u:adS}{v:Nat->Prop}{w:ad1}{x:List (Int×bX)}{y:adZ}
section
open Go.Proofs
def zy:List (String×DataW Unit):=[("math/bits.deBruijn32tab",Lib.tabData .u8 oI)]
def ZM (b:Os) (a:adW):laidMetH Tryz.prog zy ((World.doorLaid Tryz.prog 400 b).forCall (λ_ _=>0) ⟨#[],a,[]⟩).memory:=
 laidMetH_of_parts3 (fuel:=8) (laidMet_of_run' 8 (by kernel_rfl) (by kernel_rfl)) (by kernel_rfl) (by kernel_rfl)
def ZL {b:World} (c:laidMetH Tryz.prog zy b):j2 E (λr=>r<b.heap.size) b:=by
 rw[MakeChecks.laidMetH_plain _ _ _ (by kernel_rfl)] at c;have f:Tryz.prog.globalNamed "math/bits.deBruijn32tab"=some 0:=(by kernel_rfl);have j:=Lib.tabIs_of_head (g:=0) (t:=266) (e:=5) (n:=32) f (by kernel_rfl) (by kernel_rfl) (by kernel_rfl) (by kernel_rfl) (by kernel_rfl) c;intro q h;have h:q∈[(⟨0,266,.u8,oI⟩:sI)]:=h;obtain rfl:=eI.1 h;have s:0<b.heap.size:=by
  have d:=j.cell f 0 aa;unfold World.cell? at d;split at d
  ·rename_i x w y v;exact(nm.1 v).1
  cases d
 refine⟨rfl,_,_,rfl,a2 _,(λc=>by cases c),.inr ⟨0,0,rfl,s,λa p i=>?_⟩⟩;obtain⟨l,i⟩:=eT.1 i;refine⟨[.int .u8 p],rfl,λo z m=>?_,rfl,rfl⟩;have k:=j.cell f a l;have u:(oI.getD a 0:Int)=p:=(by rw[jN l];exact i);rw[u] at k;cases o with
 |zero=>
  obtain rfl:=ee m;have:(⟨0,0+a*aj.size (.int .u8)+0,none⟩:Addr)=⟨0,a,none⟩:=(by show(⟨0,0+a*1+0,none⟩:Addr)=_;congr 1;omega);rw[this];exact k
 |succ o=>cases m
end
section
def Ro (ap:b<=200) (ad:a<=200) (R:c.length<=10000) (Y:h.length<=1000000) (a0:r.length<=1000000):Be (((b:Int),(a:Int),h,c,r,()),())=some (open Classical in decide (eB b a h c r),()):=by
 classical
 unfold Be;refine ae.eq_iff.1 ?_;dsimp only;have X:aY (a:Int)=((a+1:Nat):Int):=bt U;have L:∀(g:¬eB b a h c r),(false,())=(decide (eB b a h c r),()):=λg=>(by rw[decide_eq_false g]);refine ae.aU (P:=λk=>match k with
  |.inl _=>h.length=a+1/\h.getD 0 0=0/\(∀d,d<a->h.getD d 0<=h.getD (d+1) 0)/\h.getD a 0=(c.length:Int)/\r.length=c.length
  |.inr p=>p=(false,())/\¬eB b a h c r) ?_ ?_
 ·rw[X,b0];by_cases z:h.length=a+1
  ·rw[aB (show ay h=((a+1:Nat):Int) by simp only[a1];omega)];refine ae.bs (y:=h.getD 0 0) (fA (i:=0) U) ?_;rw[b0];by_cases v:h.getD 0 0=0
   ·rw[aB v];refine ae.bs (Zq Y) ?_;dsimp only;by_cases n:∀q,q+1<h.length->h.getD q 0<=h.getD (q+1) 0
    ·rw[decide_eq_true n];refine ae.bs (y:=h.getD a 0) (fA U) ?_;rw[b0];by_cases w:h.getD a 0=(c.length:Int)
     ·rw[aB (show h.getD a 0=ay c from w),b0];by_cases E:c.length=r.length
      ·rw[aB (show ay c=ay r by simp only[a1];omega)];exact ae.ag.2 ⟨z,v,λd s=>n d U,w,U⟩
      rw[az (show¬ay c=ay r by simp only[a1];omega)];exact ae.ag.2 ⟨rfl,λg=>E g.val.symm⟩
     rw[az (show¬h.getD a 0=ay c from w)];exact ae.ag.2 ⟨rfl,λg=>w g.last⟩
    rw[decide_eq_false n];exact ae.ag.2 ⟨rfl,λg=>n λq R=>g.mono q (by have:=g.len;omega)⟩
   rw[az v];exact ae.ag.2 ⟨rfl,λg=>v g.first⟩
  rw[az (show¬ay h=((a+1:Nat):Int) by simp only[a1];omega)];exact ae.ag.2 ⟨rfl,λg=>z g.len⟩
 rintro(k|k) D
 rotate_left
 ·obtain⟨rfl,g⟩:k=(false,())/\¬eB b a h c r:=D;exact ae.ag.2 (L g)
 obtain⟨z,v,n,w,E⟩:h.length=a+1/\h.getD 0 0=0/\(∀d,d<a->h.getD d 0<=h.getD (d+1) 0)/\h.getD a 0=(c.length:Int)/\r.length=c.length:=D;have N:∀d,d<=a->0<=h.getD d 0:=λd=>by
  induction d with
  |zero=>intro _;omega
  |succ d G=>intro s;have:=G U;have:=n d U;omega
 have D:∀A d,d+A=a->h.getD d 0<=(c.length:Int):=λA=>by
  induction A with
  |zero=>intro d s;obtain rfl:d=a:=s;omega
  |succ A G=>intro d s;have:=G (d+1) U;have:=n d U;omega
 dsimp only;refine ae.aU (P:=λk=>match k with
  |.inl _=>(∀d,d<a->hQ (b:Int) h c d)
  |.inr p=>p=(false,())/\¬(∀d,d<a->hQ (b:Int) h c d)) ?_ ?_
 ·refine ae.steps a (λq H=>H=((q:Int),())/\∀d,d<q->hQ (b:Int) h c d) ⟨rfl,λd s=>by omega⟩ ?_ ?_
  ·rintro d _ s ⟨rfl,B⟩;dsimp only;rw[bo (aB (U:(d:Int)<(a:Int))),bt U];obtain⟨e,M⟩:=Int.eq_ofNat_of_zero_le (N d U);obtain⟨o,T⟩:=Int.eq_ofNat_of_zero_le (N (d+1) U);have F:o<=c.length:=(by have:=D (a-(d+1)) (d+1) U;omega);have W:e<=o:=(by have:=n d s;omega);refine ae.bs (y:=(e:Int)) (by rw[fA U,M]) (ae.bs (y:=(o:Int)) (by rw[fA U,T]) (ae.bs (y:=(e,o)) (by rw[rR,Option.bind_some,rR,Option.bind_some,tJ ⟨W,F⟩];rfl) ?_));dsimp only;have an:=Zm (l:=c) (lo:=e) F;refine ae.aU (P:=λk=>match k with
    |.inl _=>hQ (b:Int) h c d
    |.inr p=>p=.inr (.inr (false,()))/\¬hQ (b:Int) h c d) ?_ ?_
   ·refine ae.steps (o-e) (λf H=>H=((if f=0 then-1 else c.getD (e+f-1) 0),(f:Int),())/\∀j:Nat,e<=j->j<e+f->(if(j:Int)=h.getD d 0 then-1 else c.getD (j-1) 0)<c.getD j 0/\c.getD j 0<(b:Int)) ⟨rfl,λj B C=>by omega⟩ ?_ ?_
    ·rintro f _ av ⟨rfl,C⟩;have S:=(Zl (l:=c) (lo:=e) (hi:=o) (t:=f) F U).2;have V:(if f=0 then-1 else c.getD (e+f-1) 0)=(if((e+f:Nat):Int)=h.getD d 0 then-1 else c.getD (e+f-1) 0):=by
      rw[M];by_cases Q:f=0
      ·subst Q;rw[ai rfl,ai U]
      rw[ah Q,ah U]
     dsimp only;rw[bo (aB (show(f:Int)<ay ((c.take o).drop e) by simp only[a1];omega)),V];refine ae.aU (P:=λk=>match k with
      |.inl p=>p=(c.getD (e+f) 0,())/\((if((e+f:Nat):Int)=h.getD d 0 then-1 else c.getD (e+f-1) 0)<c.getD (e+f) 0/\c.getD (e+f) 0<(b:Int))
      |.inr p=>p=.inr (.inr (.inr (.inr (false,()))))/\¬((if((e+f:Nat):Int)=h.getD d 0 then-1 else c.getD (e+f-1) 0)<c.getD (e+f) 0/\c.getD (e+f) 0<(b:Int))) ?_ ?_
     ·refine ae.bs (y:=c.getD (e+f) 0) (eC S) ?_;generalize(if((e+f:Nat):Int)=h.getD d 0 then-1 else c.getD (e+f-1) 0)=ab;generalize c.getD (e+f) 0=I;by_cases J:I<=ab
      ·rw[aB J];exact ae.ag.2 ⟨rfl,λg=>by omega⟩
      rw[az J];by_cases K:I>=(b:Int)
      ·rw[aB K];exact ae.ag.2 ⟨rfl,λg=>by omega⟩
      rw[az K];exact ae.ag.2 ⟨rfl,U,U⟩
     rintro(k|k) m
     ·obtain⟨rfl,u⟩:=m;refine ae.ag.2 ⟨?_,?_⟩
      ·rw[bt U,ah U];rfl
      intro j x Z;rcases bg j (e+f) with O|O
      ·exact C j x O
      obtain rfl:j=e+f:=U;exact u
     obtain⟨rfl,u⟩:=m;refine ae.ag.2 ⟨rfl,λg=>u ?_⟩;exact g (e+f) U U
    rintro _ ⟨rfl,C⟩;dsimp only;rw[bi (az (show¬(((o-e:Nat):Int)<ay ((c.take o).drop e)) by simp only[a1];omega))];refine ae.ag.2 ?_;intro j x Z;exact C j U U
   rintro(k|k) m
   ·have m:hQ (b:Int) h c d:=m;refine ae.ag.2 ⟨rfl,λj am=>?_⟩;rcases bg j d with x|x
    ·exact B j x
    obtain rfl:j=d:=U;exact m
   obtain⟨rfl,u⟩:=m;exact ae.ag.2 ⟨rfl,λg=>u (g d s)⟩
  rintro _ ⟨rfl,B⟩;dsimp only;rw[bi (az (U:¬((a:Int)<(a:Int))))];exact ae.ag.2 B
 rintro(k|k) m
 ·have m:(∀d,d<a->hQ (b:Int) h c d):=m;refine ae.ag.2 ?_;show(true,())=_;rw[decide_eq_true (eB.iff.2 ⟨z,v,n,w,E,m⟩)]
 obtain⟨rfl,u⟩:k=(false,())/\¬(∀d,d<a->hQ (b:Int) h c d):=m;exact ae.ag.2 (L λg=>u (eB.iff.1 g).2.2.2.2.2)
def j1 (b:ad5):Prop:=∀a,a<b.length->bG (b.getD a 0)≠2047
open Classical in
def eG (d b:Nat) (e c a:ad5):Int:=if eB d b e c a then if j1 a then 0 else 4 else 1
def Iy.getD {b:ad5} (d:∀e∈b,ez e) (c:Nat):ez (b.getD c 0):=by
 rcases bg c b.length with a|a
 ·rw[jN a];exact d _ (bA a)
 rw[mY a];exact⟨aa,aa⟩
def UZ (o:∀r∈c,ez r) (s:c.length<=1000000):Bj (c,(),())=some (open Classical in decide (¬j1 c),()):=by
 classical
 unfold Bj;refine ae.eq_iff.1 ?_;refine ae.aU (P:=λj=>∃h,j=(h,())/\(0<=h↔¬j1 c)) ?_ ?_
 ·unfold EW;dsimp only;refine ae.aU (P:=λf=>match f with|.inl _=>j1 c|.inr j=>0<=j.1/\¬j1 c) ?_ ?_
  ·refine ae.steps c.length (λa q=>q=((a:Int),())/\∀b,b<a->bG (c.getD b 0)≠2047) ⟨rfl,λb n=>by omega⟩ ?_ ?_
   ·rintro a _ k ⟨rfl,e⟩;dsimp only;rw[bo (aB (show(a:Int)<ay c by simp only[a1];omega))];refine ae.bs (fA k) ?_;unfold EU;refine ae.bs (y:=(decide (bG (c.getD a 0)=2047),())) (aq (Cv (Iy.getD o a)) (by dsimp only;rw[Bool.not_not])) ?_;dsimp only;rw[br];refine ae.ite (λi=>?_) λi=>?_
    ·exact ae.ag.2 ⟨by show(0:Int)<=(a:Int);omega,λd=>d a k i⟩
    refine ae.ag.2 ⟨by rw[bt U],λb n=>?_⟩;rcases bg b a with l|l
    ·exact e b l
    obtain rfl:b=a:=U;exact i
   rintro _ ⟨rfl,e⟩;dsimp only;rw[bi (az (show¬((c.length:Int)<ay c) by simp only[a1];omega))];exact ae.ag.2 e
  rintro(f|f) g
  ·have g:j1 c:=g;exact ae.ag.2 ⟨_,rfl,⟨λd=>absurd d aa,λd=>absurd g d⟩⟩
  obtain⟨e,m⟩:0<=f.1/\¬j1 c:=g;exact ae.ag.2 ⟨f.1,rfl,λ_=>m,λ_=>e⟩
 rintro _ ⟨h,rfl,p⟩;refine ae.ag.2 ?_;show(decide (h>=0),())=_;congr 1;rw[decide_eq_decide];exact p
def Ui (l:b<=200) (j:a<=200) (k:h.length<=10000) (m:i.length<=1000000) (f:c.length<=1000000) (n:∀o∈c,ez o):q8 (((b:Int),(a:Int),i,h,c,()),())=some (eG b a i h c,()):=by
 classical
 unfold q8 eG;dsimp only;refine aq (y:=(false,())) ?_ ?_
 ·unfold Bh;dsimp only;rw[aB (U:(b:Int)>=0),aB (U:(b:Int)<=200),aB (U:(a:Int)>=0),aB (U:(a:Int)<=200),az (show¬(ay h>10000) by simp only[a1];omega)];rfl
 dsimp only;rw[cond_false];refine aq (Ro l j k m f) ?_;dsimp only;by_cases d:eB b a i h c
 ·rw[decide_eq_true d,if_pos d];refine aq (UZ n f) ?_;dsimp only;by_cases e:j1 c
  ·rw[decide_eq_false (λg=>g e),ai e];rfl
  rw[decide_eq_true e,ah e];rfl
 rw[decide_eq_false d,ah d];rfl
end
def Yx (m:∀p∈c,ez p) (q:c.length<=1000000):BL (c,())=some (open Classical in decide (j1 c),()):=by
 classical
 unfold BL;refine ae.eq_iff.1 ?_;dsimp only;refine ae.aU (P:=λf=>match f with|.inl _=>j1 c|.inr n=>n=(false,())/\¬j1 c) ?_ ?_
 ·refine ae.steps c.length (λa o=>o=((a:Int),())/\∀b,b<a->bG (c.getD b 0)≠2047) ⟨rfl,λb l=>by omega⟩ ?_ ?_
  ·rintro a _ h ⟨rfl,d⟩;dsimp only;rw[bo (aB (show(a:Int)<ay c by simp only[a1];omega))];refine ae.bs (fA h) (ae.bs (Ds (Iy.getD m a)) ?_);dsimp only;rw[Bool.not_not,br];refine ae.ite (λg=>?_) λg=>?_
   ·exact ae.ag.2 ⟨rfl,λj=>j a h g⟩
   refine ae.ag.2 ⟨by rw[bt U],λb l=>?_⟩;rcases bg b a with i|i
   ·exact d b i
   obtain rfl:b=a:=U;exact g
  rintro _ ⟨rfl,d⟩;dsimp only;rw[bi (az (show¬((c.length:Int)<ay c) by simp only[a1];omega))];exact ae.ag.2 d
 rintro(f|f) e
 ·have e:j1 c:=e;rw[decide_eq_true e];exact ae.ag.2 rfl
 obtain⟨d,k⟩:f=(false,())/\¬j1 c:=e;rw[d,decide_eq_false k];exact ae.ag.2 rfl
def Yf (a0:b<=200) (am:a<=200) (an:c.length<=10000) (a3:h.length<=1000000) (Y:r.length<=1000000) (Z:∀ad∈r,ez ad):pZ (((b:Int),(a:Int),h,c,r,()),())=some (eG b a h c r,()):=by
 classical
 unfold pZ;refine ae.eq_iff.1 ?_;dsimp only;have W:aY (a:Int)=((a+1:Nat):Int):=bt U;have H:∀(j:¬eB b a h c r),((1:Int),())=(eG b a h c r,()):=λj=>(by unfold eG;rw[if_neg j]);refine ae.bs (y:=.inl ()) ?_ ?_
 ·rw[az (U:¬(b:Int)<0),az (U:¬(b:Int)>200),az (U:¬(a:Int)<0),az (U:¬(a:Int)>200),az (show¬(ay c>10000) by simp only[a1];omega)];rfl
 dsimp only;refine ae.aU (P:=λk=>match k with
  |.inl _=>h.length=a+1/\h.getD 0 0=0/\h.getD a 0=(c.length:Int)/\r.length=c.length
  |.inr q=>q=((1:Int),())/\¬eB b a h c r) ?_ ?_
 ·rw[W,b0,b0];by_cases F:r.length=c.length
  ·rw[aB (show ay r=ay c by simp only[a1];omega)];by_cases D:h.length=a+1
   ·rw[aB (show ay h=((a+1:Nat):Int) by simp only[a1];omega)];refine ae.bs (y:=h.getD 0 0) (fA (i:=0) U) ?_;rw[b0];by_cases v:h.getD 0 0=0
    ·rw[aB v];refine ae.bs (y:=h.getD a 0) (fA U) ?_;rw[b0];by_cases w:h.getD a 0=(c.length:Int)
     ·rw[aB (show h.getD a 0=ay c from w)];exact ae.ag.2 ⟨D,v,w,F⟩
     rw[az (show¬h.getD a 0=ay c from w)];exact ae.ag.2 ⟨rfl,λj=>w j.last⟩
    rw[az v];exact ae.ag.2 ⟨rfl,λj=>v j.first⟩
   rw[az (show¬ay h=((a+1:Nat):Int) by simp only[a1];omega)];exact ae.ag.2 ⟨rfl,λj=>D j.len⟩
  rw[az (show¬ay r=ay c by simp only[a1];omega)];exact ae.ag.2 ⟨rfl,λj=>F j.val⟩
 rintro(k|k) u
 rotate_left
 ·obtain⟨rfl,j⟩:k=((1:Int),())/\¬eB b a h c r:=u;exact ae.ag.2 (H j)
 obtain⟨D,v,w,F⟩:h.length=a+1/\h.getD 0 0=0/\h.getD a 0=(c.length:Int)/\r.length=c.length:=u;dsimp only;refine ae.aU (P:=λk=>match k with
  |.inl _=>(∀d,d<a->h.getD d 0<=h.getD (d+1) 0)
  |.inr q=>q=((1:Int),())/\¬eB b a h c r) ?_ ?_
 ·refine ae.steps a (λz C=>C=((z:Int),())/\∀d,d<z->h.getD d 0<=h.getD (d+1) 0) ⟨rfl,λd p=>by omega⟩ ?_ ?_
  ·rintro d _ p ⟨rfl,s⟩;dsimp only;rw[bo (aB (U:(d:Int)<(a:Int))),bt U];refine ae.bs (fA U) (ae.bs (fA U) ?_);rw[br];refine ae.ite (λx=>?_) λx=>?_
   ·exact ae.ag.2 ⟨rfl,λj=>by have:=j.mono d p;omega⟩
   refine ae.ag.2 ⟨rfl,λf T=>?_⟩;rcases bg f d with n|n
   ·exact s f n
   obtain rfl:f=d:=U;omega
  rintro _ ⟨rfl,s⟩;dsimp only;rw[bi (az (U:¬((a:Int)<(a:Int))))];exact ae.ag.2 s
 rintro(k|k) u
 rotate_left
 ·obtain⟨rfl,j⟩:k=((1:Int),())/\¬eB b a h c r:=u;exact ae.ag.2 (H j)
 have E:∀d,d<a->h.getD d 0<=h.getD (d+1) 0:=u;have O:∀d,d<=a->0<=h.getD d 0:=λd=>by
  induction d with
  |zero=>intro _;omega
  |succ d A=>intro p;have:=A U;have:=E d U;omega
 have u:∀G d,d+G=a->h.getD d 0<=(c.length:Int):=λG=>by
  induction G with
  |zero=>intro d p;obtain rfl:d=a:=p;omega
  |succ G A=>intro d p;have:=A (d+1) U;have:=E d U;omega
 dsimp only;refine ae.aU (P:=λk=>match k with
  |.inl _=>(∀d,d<a->hQ (b:Int) h c d)
  |.inr q=>q=((1:Int),())/\¬(∀d,d<a->hQ (b:Int) h c d)) ?_ ?_
 ·refine ae.steps a (λz C=>C=((z:Int),())/\∀d,d<z->hQ (b:Int) h c d) ⟨rfl,λd p=>by omega⟩ ?_ ?_
  ·rintro d _ p ⟨rfl,s⟩;dsimp only;rw[bo (aB (U:(d:Int)<(a:Int))),bt U];obtain⟨e,V⟩:=Int.eq_ofNat_of_zero_le (O d U);obtain⟨t,S⟩:=Int.eq_ofNat_of_zero_le (O (d+1) U);have ap:t<=c.length:=(by have:=u (a-(d+1)) (d+1) U;omega);have av:e<=t:=(by have:=E d p;omega);have M:aC h (d:Int)=some (e:Int):=(by rw[fA U,V]);have N:aC h ((d+1:Nat):Int)=some (t:Int):=(by rw[fA U,S]);refine ae.bs M ?_;refine ae.aU (P:=λk=>match k with
    |.inl _=>hQ (b:Int) h c d
    |.inr q=>q=.inr (.inr ((1:Int),()))/\¬hQ (b:Int) h c d) ?_ ?_
   ·refine ae.steps (t-e) (λg C=>C=(((e+g:Nat):Int),())/\∀f:Nat,e<=f->f<e+g->(if(f:Int)=h.getD d 0 then-1 else c.getD (f-1) 0)<c.getD f 0/\c.getD f 0<(b:Int)) ⟨rfl,λf s o=>by omega⟩ ?_ ?_
    ·rintro g _ a4 ⟨rfl,o⟩;dsimp only;refine ae.bs N ?_;rw[bo (aB (U:((e+g:Nat):Int)<(t:Int)))];have I:aC c ((e+g:Nat):Int)=some (c.getD (e+g) 0):=fA U;have X:g≠0->0<=c.getD (e+g-1) 0:=λJ=>by
      have ab:∀f:Nat,e<=f->f<e+g->0<=c.getD f 0:=by
       intro f
       induction f with
       |zero=>
        intro n B;have:=(o 0 n B).1;rw[ai U] at this;omega
       |succ f A=>
        intro n B;have l:=(o (f+1) n B).1;by_cases x:((f+1:Nat):Int)=h.getD d 0
        ·rw[ai x] at l;omega
        rw[ah x,uQ] at l;have:=A U U;omega
      exact ab _ U U
     refine ae.aU (P:=λk=>match k with
      |.inl _=>((if((e+g:Nat):Int)=h.getD d 0 then-1 else c.getD (e+g-1) 0)<c.getD (e+g) 0/\c.getD (e+g) 0<(b:Int))
      |.inr q=>q=.inr (.inr (.inr (.inr ((1:Int),()))))/\¬((if((e+g:Nat):Int)=h.getD d 0 then-1 else c.getD (e+g-1) 0)<c.getD (e+g) 0/\c.getD (e+g) 0<(b:Int))) ?_ ?_
     ·refine ae.bs I ?_;by_cases K:c.getD (e+g) 0<0
      ·rw[aB K];refine ae.ag.2 ⟨rfl,λj=>?_⟩;have l:=j.1;by_cases J:g=0
       ·rw[ai U] at l;omega
       rw[ah U] at l;have:=X J;omega
      rw[az K];refine ae.bs I ?_;by_cases L:c.getD (e+g) 0>=(b:Int)
      ·rw[aB L];exact ae.ag.2 ⟨rfl,λj=>by omega⟩
      rw[az L];refine ae.bs M ?_;by_cases J:g=0
      ·rw[az (U:¬((e+g:Nat):Int)>(e:Int))];refine ae.ag.2 ⟨?_,U⟩;rw[ai U];omega
      rw[aB (U:((e+g:Nat):Int)>(e:Int))];have al:ar (((e+g:Nat):Int)-1)=((e+g-1:Nat):Int):=(by rw[bm U U];omega);refine ae.bs I (ae.bs (y:=c.getD (e+g-1) 0) (by rw[al];exact fA U) ?_);rw[br];refine ae.ite (λx=>?_) λx=>?_
      ·refine ae.ag.2 ⟨rfl,λj=>?_⟩;have l:=j.1;rw[ah U] at l;omega
      refine ae.ag.2 ⟨?_,U⟩;rw[ah U];omega
     rintro(k|k) m
     ·refine ae.ag.2 ⟨by rw[bt U];rfl,?_⟩;intro f n B;rcases bg f (e+g) with Q|Q
      ·exact o f n Q
      obtain rfl:f=e+g:=U;exact m
     obtain⟨rfl,l⟩:=m;exact ae.ag.2 ⟨rfl,λj=>l (j (e+g) U U)⟩
    rintro _ ⟨rfl,o⟩;dsimp only;refine ae.bs N ?_;rw[bi (az (U:¬(((e+(t-e):Nat):Int)<(t:Int))))];refine ae.ag.2 ?_;intro f n B;exact o f U U
   rintro(k|k) m
   ·have m:hQ (b:Int) h c d:=m;refine ae.ag.2 ⟨rfl,λf T=>?_⟩;rcases bg f d with n|n
    ·exact s f n
    obtain rfl:f=d:=U;exact m
   obtain⟨rfl,l⟩:=m;exact ae.ag.2 ⟨rfl,λj=>l (j d p)⟩
  rintro _ ⟨rfl,s⟩;dsimp only;rw[bi (az (U:¬((a:Int)<(a:Int))))];exact ae.ag.2 s
 rintro(k|k) m
 ·have m:(∀d,d<a->hQ (b:Int) h c d):=m;have R:eB b a h c r:=eB.iff.2 ⟨D,v,E,w,F,m⟩;refine ae.bs (Yx Z Y) ?_;unfold eG;rw[ai R];by_cases o:j1 r
  ·rw[decide_eq_true o,ai o];exact ae.ag.2 rfl
  rw[decide_eq_false o,ah o];exact ae.ag.2 rfl
 obtain⟨rfl,l⟩:k=((1:Int),())/\¬(∀d,d<a->hQ (b:Int) h c d):=m;exact ae.ag.2 (H λj=>l (eB.iff.1 j).2.2.2.2.2)
abbrev bD:=Int×Int×Int×Unit
variable{s:bD}{t:List bD}
def hH (b d:ad5) (c:Int) (a:Nat):Nat->List bD
 |0=>[]
 |n+1=>hH b d c a n++[(b.getD (a+n) 0,c,d.getD (a+n) 0,())]
def bv (a b c:ad5):Nat->List bD
 |0=>[]
 |j+1=>bv a b c j++hH b c (j:Int) (a.getD j 0).toNat ((a.getD (j+1) 0).toNat-(a.getD j 0).toNat)
def J3 (c f:ad5) (d:Int) (e a:Nat):(hH c f d e a).length=a:=by
 induction a with
 |zero=>rfl
 |succ a b=>simp[hH,b]
def eB.pos (e:eB b a c h i):∀d,d<=a->0<=c.getD d 0:=λd=>by
 have:=e.first
 induction d with
 |zero=>intro _;omega
 |succ d f=>intro g;have:=f U;have:=e.mono d U;omega
def eB.oZ (g:eB b a h c i):∀d,d<=a->h.getD d 0<=(c.length:Int):=by
 have k:∀e d,d+e=a->h.getD d 0<=(c.length:Int):=λe=>by
  have:=g.last
  induction e with
  |zero=>intro d f;obtain rfl:d=a:=f;omega
  |succ e j=>intro d f;have:=j (d+1) U;have:=g.mono d U;omega
 exactλd f=>k (a-d) d U
def yl (e:eB b a c h i):∀d,d<=a->(bv c h i d).length=(c.getD d 0).toNat:=λd=>by
 induction d with
 |zero=>intro _;have:=e.first;show 0=(c.getD 0 0).toNat;omega
 |succ d g=>
  intro l;have f:=g U;have j:=e.mono d U;have k:=e.pos d U;simp only[bv,oi,J3,f];omega
def Fk (g:eB b a h c i) (p:a<=200) (r:c.length<=10000):vx (((b:Int),(a:Int),h,c,i,()),())=some (bv h c i a,()):=by
 unfold vx;refine ae.eq_iff.1 ?_;dsimp only;refine ae.aU (P:=λl=>l=(bv h c i a,())) ?_ (by rintro _ rfl;exact ae.ag.2 rfl);refine ae.steps a (λd m=>m=((d:Int),bv h c i d,())) rfl ?_ ?_
 ·rintro d _ o rfl;have s:=g.len;obtain⟨f,n⟩:=Int.eq_ofNat_of_zero_le (g.pos d U);obtain⟨e,k⟩:=Int.eq_ofNat_of_zero_le (g.pos (d+1) U);have t:e<=c.length:=(by have:=g.oZ (d+1) U;omega);have u:f<=e:=(by have:=g.mono d o;omega);have q:=yl g d U;have w:=g.val;dsimp only;rw[bo (aB (U:(d:Int)<(a:Int))),bt U];refine ae.bs (y:=(f:Int)) (by rw[fA U,n]) ?_;refine ae.aU (P:=λl=>l=(bv h c i (d+1),())) ?_ (by rintro _ rfl;exact ae.ag.2 rfl);refine ae.steps (e-f) (λj m=>m=(((f+j:Nat):Int),bv h c i d++hH c i (d:Int) f j,())) (by simp[hH]) ?_ ?_
  ·rintro j _ v rfl;dsimp only;refine ae.bs (y:=(e:Int)) (by rw[fA U,k]) ?_;rw[bo (aB (U:((f+j:Nat):Int)<(e:Int)))];refine ae.bs (fA U) (ae.bs (fA U) ?_);rw[dQ (by simp[J3];omega)];refine ae.ag.2 ?_;rw[bt U,List.append_assoc];rfl
  rintro _ rfl;dsimp only;refine ae.bs (y:=(e:Int)) (by rw[fA U,k]) ?_;rw[bi (az (U:¬((f+(e-f):Nat):Int)<(e:Int)))];refine ae.ag.2 ?_;show(_,())=(bv h c i d++hH c i (d:Int) (h.getD d 0).toNat ((h.getD (d+1) 0).toNat-(h.getD d 0).toNat),());rw[n,k];rfl
 rintro _ rfl;dsimp only;rw[bi (az (U:¬((a:Int)<(a:Int))))];exact ae.ag.2 rfl
structure gn (rows jI:Nat) (st m2 sd:ad5):Prop where
 hr:rows<=200
 hc:jI<=200
 hi:m2.length<=10000
 hs:st.length<=1000000
 hv:sd.length<=1000000
 hw:∀v∈sd,ez v
def gn.check (d:gn b a h c i):q8 (((b:Int),(a:Int),h,c,i,()),())=some (eG b a h c i,()):=Ui d.hr d.hc d.hi d.hs d.hv d.hw
def gn.uh (d:gn b a h c i):pZ (((b:Int),(a:Int),h,c,i,()),())=some (eG b a h c i,()):=Yf d.hr d.hc d.hi d.hs d.hv d.hw
def iU:eG b a i h c=0↔eB b a i h c/\j1 c:=by
 unfold eG;constructor
 ·intro d;split at d
  ·split at d
   ·exact⟨by assumption,by assumption⟩
   omega
  omega
 rintro⟨e,f⟩;rw[ai e,ai f]
def Pq (d:gn b a h c i) (e:eG b a h c i=0):Bb (((b:Int),(a:Int),h,c,i,()),())=some (bv h c i a,()):=by unfold Bb;refine aq d.check ?_;dsimp only;rw[e,b0,aB rfl];exact aq (Fk (iU.1 e).1 d.hc d.hi) rfl
def Nm (e:gn b a h c i) (f:eG b a h c i=0):x5 (((b:Int),(a:Int),h,c,i,()),())=some (bv h c i a,()):=by have g:=(iU.1 f).1;have d:=Fk g e.hc e.hi;unfold vx at d;unfold x5;refine aq e.uh ?_;dsimp only at d|-;rw[f,b0,aB rfl];exact d
def fL (a b:bD):Prop:=a.2.1<b.2.1\/(a.2.1=b.2.1/\a.1<b.1)
def tR:s∈hH c h f b a↔∃d,d<a/\s=(c.getD (b+d) 0,f,h.getD (b+d) 0,()):=by
 induction a with
 |zero=>simp[hH]
 |succ a k=>
  simp only[hH,eN,k,eI];constructor
  ·rintro(⟨d,j,e⟩|i)
   ·exact⟨d,U,e⟩
   exact⟨a,U,i⟩
  rintro⟨d,j,e⟩;rcases bg d a with g|g
  ·exact .inl ⟨d,g,e⟩
  obtain rfl:d=a:=U;exact .inr e
def R2 (g:∀e d,e<d->d<a->c.getD (b+e) 0<c.getD (b+d) 0):(hH c h f b a).Pairwise fL:=by
 induction a with
 |zero=>exact List.Pairwise.nil
 |succ a m=>
  refine List.pairwise_append.2 ⟨m λe d i p=>g e d i U,List.pairwise_singleton _ _,?_⟩;intro n j o k;obtain⟨d,l,rfl⟩:=tR.1 j;rw[eI.1 k];exact .inr ⟨rfl,g d a l U⟩
def yO:s∈bv c h i a↔∃b,b<a/\s∈hH h i (b:Int) (c.getD b 0).toNat ((c.getD (b+1) 0).toNat-(c.getD b 0).toNat):=by
 induction a with
 |zero=>simp[bv]
 |succ a j=>
  simp only[bv,eN,j];constructor
  ·rintro(⟨b,g,d⟩|f)
   ·exact⟨b,U,d⟩
   exact⟨a,U,f⟩
  rintro⟨b,g,d⟩;rcases bg b a with e|e
  ·exact .inl ⟨b,e,d⟩
  obtain rfl:b=a:=U;exact .inr d
def p4 (k:eB b a c h i):∀d,d<=a->(bv c h i d).Pairwise fL:=by
 intro d
 induction d with
 |zero=>intro _;exact List.Pairwise.nil
 |succ d q=>
  intro p;have C:=k.pos d U;have D:=k.pos (d+1) p;refine List.pairwise_append.2 ⟨q U,R2 ?_,?_⟩
  ·intro f g v w;have s:∀e,f+e<(c.getD (d+1) 0).toNat-(c.getD d 0).toNat->0<e->h.getD ((c.getD d 0).toNat+f) 0<h.getD ((c.getD d 0).toNat+(f+e)) 0:=by
    intro e
    induction e with
    |zero=>intro _ y;omega
    |succ e r=>
     intro x _;have m:=k.asc d ((c.getD d 0).toNat+(f+(e+1))) U U U;rw[(U:(c.getD d 0).toNat+(f+(e+1))-1=(c.getD d 0).toNat+(f+e))] at m;rcases gk e with j|j
     ·subst j;exact m
     have:=r U j;omega
   have:=s (g-f) U U;rwa[(U:f+(g-f)=g)] at this
  intro t l u o;obtain⟨n,z,l⟩:=yO.1 l;obtain⟨g,A,rfl⟩:=tR.1 l;obtain⟨E,B,rfl⟩:=tR.1 o;exact .inl (by show(n:Int)<(d:Int);omega)
def Xp (a b:Int):AC ([a,b],())=some (if a≠0 then a else b,()):=by
 unfold AC;refine ae.eq_iff.1 ?_;dsimp only;refine ae.aU (P:=λf=>match f with|.inl _=>a=0/\b=0|.inr k=>k=(if a≠0 then a else b,())) ?_ ?_
 ·refine ae.steps 2 (λd l=>l=((d:Int),())/\(1<=d->a=0)/\(2<=d->b=0)) ⟨rfl,λh=>by omega,λh=>by omega⟩ ?_ ?_
  ·rintro d _ m ⟨rfl,g,i⟩;rcases(U:d=0\/d=1) with rfl|rfl
   ·show ae (bif a !=0 then _ else _) _;rw[b0];by_cases c:a=0
    ·rw[aB c];exact ae.ag.2 ⟨rfl,λ_=>c,λh=>by omega⟩
    rw[az c];refine ae.ag.2 ?_;rw[ai c]
   show ae (bif b !=0 then _ else _) _;have j:=g aa;rw[b0];by_cases c:b=0
   ·rw[aB c];exact ae.ag.2 ⟨rfl,λ_=>j,λ_=>c⟩
   rw[az c];refine ae.ag.2 ?_;rw[ah (by simpa using j)]
  rintro _ ⟨rfl,g,i⟩;exact ae.ag.2 ⟨g aa,i aa⟩
 rintro(f|f) e
 ·obtain⟨rfl,rfl⟩:a=0/\b=0:=e;exact ae.ag.2 rfl
 have e:f=_:=e;rw[e];exact ae.ag.2 rfl
def RT {a:bD} (b:fL s a):Bg (a,s,())=some (1,()):=by
 unfold Bg;refine aq (EN _ _) (aq (EN _ _) (aq (Xp _ _) ?_));dsimp only;congr 2;unfold eo;rcases b with b|⟨d,c⟩
 ·rw[ah (U:¬a.2.1<s.2.1),ai b];rfl
 rw[ah (U:¬a.2.1<s.2.1),ah (U:¬s.2.1<a.2.1),ah ac,ah (U:¬a.1<s.1),ai c]
def Ts (j:t.length<=1000) (f:t.Pairwise fL) {lo:Nat} (g:lo<=a) (h:a<=t.length):xN (t,(lo:Int),(a:Int),(),())=some (t,()):=by
 unfold xN;refine ae.eq_iff.1 ?_;dsimp only;refine ae.aU (P:=λd=>d=(t,())) ?_ (by rintro _ rfl;exact ae.ag.2 rfl);refine ae.steps (a-lo-1) (λb c=>c=(((lo+1+b:Nat):Int),t,())) (by rw[bt U]) ?_ ?_
 ·rintro b _ i rfl;dsimp only;rw[bo (aB (U:((lo+1+b:Nat):Int)<(a:Int)))];refine ae.aU (P:=λd=>d=(t,())) ?_ (by rintro _ rfl;refine ae.ag.2 ?_;dsimp only;rw[bt U];rfl);refine ae.steps 0 (λ_ c=>c=(((lo+1+b:Nat):Int),t,())) rfl (λb c a=>by omega) ?_;rintro _ rfl;dsimp only;refine ae.bs (y:=.inr (.inr (t,()))) ?_ (ae.ag.2 rfl);rw[aB (U:((lo+1+b:Nat):Int)>(lo:Int))];have al:ar (((lo+1+b:Nat):Int)-1)=((lo+b:Nat):Int):=(by rw[bm U U];omega);rw[beq_self_eq_true,cond_true,jU U,al,jU U];have e:fL t[lo+b] t[lo+1+b]:=List.pairwise_iff_getElem.1 f _ _ U U U;exact aq (RT e) rfl
 rintro _ rfl;dsimp only;rw[bi (az (U:¬((lo+1+(a-lo-1):Nat):Int)<(a:Int)))];exact ae.ag.2 rfl
def Zn (h:t.length<=19) (f:t.Pairwise fL):Bf (t,())=some (t,()):=by
 unfold Bf;refine aq (y:=(t,())) ?_ ?_
 ·unfold EV;have c:((bN (([]:List bD).length+t.length)).bind λ_=>some (([]++t:List bD),()))=some (t,()):=by
   rw[dQ (by simp;omega)];rfl
  show m7 t.length (some ([],())) ((bN (([]:List bD).length+t.length)).bind λ_=>some (([]++t:List bD),()))=_;unfold m7;rw[c];split
  ·rename_i d;obtain rfl:=lX d;rw[ai rfl]
  rfl
 refine aq (y:=(t,())) ?_ rfl;unfold E1;refine aq (y:=(t,())) ?_ rfl;unfold E2;refine ae.eq_iff.1 ?_;dsimp only;refine ae.aU (P:=λb=>b=(0,t,())) ?_ ?_
 ·refine ae.steps 0 (λ_ a=>a=(0,20,t,())) rfl (λg a e=>by omega) ?_;rintro _ rfl;dsimp only;rw[bi (az (show¬((20:Int)<=ay t) by simp only[a1];omega))];exact ae.ag.2 rfl
 rintro _ rfl;refine ae.bs (Ts (lo:=0) U f (Nat.zero_le _) (Nat.le_refl _)) ?_;refine ae.aU (P:=λb=>b=(t,())) ?_ (by rintro _ rfl;exact ae.ag.2 rfl);refine ae.steps 0 (λ_ a=>a=(20,t,())) rfl (λg a e=>by omega) ?_;rintro _ rfl;dsimp only;rw[bi (az (show¬((20:Int)<ay t) by simp only[a1];omega))];exact ae.ag.2 rfl
def h5 (E:List bD) (a:Int):Nat:=(E.filter λb=>decide (b.2.1=a)).length
def fg (E:List bD) (a:Int):Nat:=(E.filter λb=>decide (b.2.1<a)).length
def qi (d b:Nat) (E:List bD):bJ:=((d:Int),(b:Int),aw (b+1) (λc=>(fg E (c:Int):Int)),E.map (λa=>a.1),E.map (λa=>a.2.2.1),())
def EI (E:List bD) (a:Int):fg E (a+1)=fg E a+h5 E a:=by
 unfold fg h5
 induction E with
 |nil=>rfl
 |cons b E d=>
  simp only[jd];rcases Int.lt_trichotomy b.2.1 a with c|c|c
  ·rw[ai (by simpa using(by omega:b.2.1<a+1)),ai (by simpa using c),ah (by simpa using(by omega:¬b.2.1=a))];simp only[im];omega
  ·rw[ai (by simpa using(by omega:b.2.1<a+1)),ah (by simpa using(by omega:¬b.2.1<a)),ai (by simpa using c)];simp only[im];omega
  rw[ah (by simpa using(by omega:¬b.2.1<a+1)),ah (by simpa using(by omega:¬b.2.1<a)),ah (by simpa using(by omega:¬b.2.1=a))];omega
def jx (c b:Nat) (E:List bD):Prop:=∀a∈E,0<=a.1/\a.1<(c:Int)/\0<=a.2.1/\a.2.1<(b:Int)
def JB (E:List bD) (c:bD) (a:Int):h5 (E++[c]) a=h5 E a+if c.2.1=a then 1 else 0:=by
 unfold h5;rw[jc,oi];congr 1;by_cases b:c.2.1=a
 ·rw[ai b,pw (by simpa using b)];rfl
 rw[ah b,pv (by simpa using b)];rfl
def QR {E:List bD} (C:b<=200) (B:a<=200) (n:E.length<=19) (y:E.Pairwise fL) (t:jx b a E):Bd ((b:Int),(a:Int),E,())=some (qi b a E,()):=by
 unfold Bd;refine ae.eq_iff.1 ?_;dsimp only;rw[bt U];refine ae.bs (fU U) (ae.bs (Zn n y) ?_);dsimp only;refine ae.aU (P:=λr=>r=(((0:Int),((0:Int),([],([],([],()))))),((b:Int),(a:Int),aw (a+1) (λc=>if c=0 then(0:Int) else(h5 E ((c:Int)-1):Int)),E.map (λe=>e.1),E.map (λe=>e.2.2.1),()),())) ?_ ?_
 ·refine ae.steps E.length (λd s=>s=((d:Int),((0:Int),((0:Int),([],([],([],()))))),((b:Int),(a:Int),aw (a+1) (λc=>if c=0 then(0:Int) else(h5 (E.take d) ((c:Int)-1):Int)),(E.take d).map (λe=>e.1),(E.take d).map (λe=>e.2.2.1),()),E,())) ?_ ?_ ?_
  ·have j:(aw (a+1) λ_=>(0:Int))=aw (a+1) λc=>if c=0 then(0:Int) else(h5 (E.take 0) ((c:Int)-1):Int):=bI λc l=>by split<;>rfl
   rw[gU,j];rfl
  ·rintro d _ k rfl;have q:=t E[d] (List.getElem_mem k);obtain⟨i,w⟩:=Int.eq_ofNat_of_zero_le q.2.2.1;dsimp only;rw[bo (aB (show(d:Int)<ay E by simp only[a1];omega)),jU k];have al:aY E[d].2.1=((i+1:Nat):Int):=(by rw[w,bt U]);have p:E.take (d+1)=E.take d++[E[d]]:=(by rw[List.take_add_one,List.getElem?_eq_getElem k];rfl);rw[dQ (by simp;omega),Option.bind_some,dQ (by simp;omega),Option.bind_some,al];refine ae.bs (dd (by rw[bk];omega)) (ae.bs (dn U) (ae.bs (dd (by rw[bk];omega)) ?_));rw[dn U];refine ae.ag.2 ?_;have o:(aw (a+1) (λc=>if c=0 then(0:Int) else(h5 (E.take d) ((c:Int)-1):Int))).set (i+1) (aY (if i+1=0 then(0:Int) else(h5 (E.take d) (((i+1:Nat):Int)-1):Int)))=aw (a+1) (λc=>if c=0 then(0:Int) else(h5 (E.take (d+1)) ((c:Int)-1):Int)):=by
    rw[e9];refine bI λc l=>?_;have m:∀g,h5 (E.take d) g<=19:=λg=>dh (ip _ _) (by rw[dZ];omega);by_cases f:c=i+1
    ·subst f;rw[ei,ah U,ah U,bt (by have:=m (((i+1:Nat):Int)-1);omega),p,JB,ai U]
    rw[ew _ _ f];by_cases h:c=0
    ·rw[ai h,ai h]
    rw[ah h,ah h,p,JB,ah U,j6]
   dsimp only[Option.map_some];rw[bt U,o,p,List.map_append,List.map_append];rfl
  rintro _ rfl;dsimp only;rw[bi (az (show¬((E.length:Int)<ay E) by simp only[a1];omega)),List.take_of_length_le (Nat.le_refl _)];exact ae.ag.2 rfl
 rintro _ rfl;dsimp only;refine ae.aU (P:=λr=>r=(((0:Int),((0:Int),([],([],([],()))))),qi b a E,())) ?_ (by rintro _ rfl;exact ae.ag.2 rfl);have x:∀g,fg E g<=19:=λg=>Nat.le_trans (List.length_filter_le _ _) n;have m:∀g,h5 E g<=19:=λg=>Nat.le_trans (List.length_filter_le _ _) n;have v:fg E 0=0:=by
  unfold fg;rw[wU.2]
  ·rfl
  intro e q;have:=t e q;simpa using this.2.2.1
 refine ae.steps a (λd s=>s=((d:Int),((0:Int),((0:Int),([],([],([],()))))),((b:Int),(a:Int),aw (a+1) (λc=>if c<=d then(fg E (c:Int):Int) else(h5 E ((c:Int)-1):Int)),E.map (λe=>e.1),E.map (λe=>e.2.2.1),()),())) ?_ ?_ ?_
 ·have j:(aw (a+1) λc=>if c=0 then(0:Int) else(h5 E ((c:Int)-1):Int))=aw (a+1) (λc=>if c<=0 then(fg E (c:Int):Int) else(h5 E ((c:Int)-1):Int)):=bI λc l=>by
   by_cases f:c=0
   ·subst f;rw[ai rfl,ai (a2 _)];show(0:Int)=((fg E 0:Nat):Int);rw[v];rfl
   rw[ah f,ah U]
  rw[j];rfl
 ·rintro d _ k rfl;dsimp only;rw[bo (aB (U:(d:Int)<(a:Int))),bt U,jU (by rw[bk];omega),jU (by rw[bk];omega),fD,fD];refine ae.bs (dd (by rw[bk];omega)) ?_;rw[dn U];refine ae.ag.2 ?_;have o:(aw (a+1) (λc=>if c<=d then(fg E (c:Int):Int) else(h5 E ((c:Int)-1):Int))).set (d+1) (ar ((if d+1<=d then(fg E ((d+1:Nat):Int):Int) else(h5 E (((d+1:Nat):Int)-1):Int))+(if d<=d then(fg E (d:Int):Int) else(h5 E ((d:Int)-1):Int))))=aw (a+1) (λc=>if c<=d+1 then(fg E (c:Int):Int) else(h5 E ((c:Int)-1):Int)):=by
   rw[e9];refine bI λc l=>?_;by_cases f:c=d+1
   ·subst f;have u:=EI E (d:Int);have z:=m (d:Int);have A:=x (d:Int);rw[ei,ah U,ai (a2 _),ai (a2 _),(U:(((d+1:Nat):Int)-1)=(d:Int)),bm U U,(U:((d+1:Nat):Int)=(d:Int)+1),u];omega
   rw[ew _ _ f];by_cases h:c<=d
   ·rw[ai h,ai U]
   rw[ah h,ah U]
  dsimp only[Option.map_some];rw[o]
 rintro _ rfl;dsimp only;rw[bi (az (U:¬((a:Int)<(a:Int))))];have j:aw (a+1) (λc=>if c<=a then(fg E (c:Int):Int) else(h5 E ((c:Int)-1):Int))=aw (a+1) (λc=>(fg E (c:Int):Int)):=bI λc l=>(by rw[if_pos U]);rw[j];exact ae.ag.2 rfl
def e7 (b c:Int) (a:bD):Bool:=decide (a.2.1<b)||(decide (a.2.1=b)&&decide (a.1<c))
def I6 {a:bD} (b:fL s a) (e:e7 p f a=true):e7 p f s=true:=by
 unfold e7 at*;simp only[fK,bp,decide_eq_true_eq] at*;rcases b with b|⟨c,d⟩
 ·omega
 omega
def Ke {j i:Int}:∀{E:List bD},E.Pairwise fL->E.filter (e7 j i)=E.take (E.filter (e7 j i)).length
 |[],_=>rfl
 |x::E,b=>by
  obtain⟨c,d⟩:=mI.1 b;by_cases a:e7 j i x=true
  ·rw[pw a,im,List.take_succ_cons];exact congrArg _ (Ke d)
  have e:E.filter (e7 j i)=[]:=(by refine wU.2 λh g f=>?_;exact a (I6 (c h g) f));rw[pv a,e];rfl
def Ew {E:List bD} (d:jx b a E):E.filter (e7 0 0)=[]:=by refine wU.2 λf e c=>?_;have:=d f e;unfold e7 at c;simp only[fK,bp,decide_eq_true_eq] at c;omega
def QB {E:List bD} (d:jx a b E) (c:Int):E.filter (e7 c (a:Int))=E.filter (e7 (c+1) 0):=by refine sv λf e=>?_;have:=d f e;unfold e7;rw[n9];simp only[fK,bp,decide_eq_true_eq];omega
def Ao {E:List bD} (d:jx b a E) (c:Int):(E.filter (e7 c 0)).length=fg E c:=by unfold fg;congr 1;refine sv λf e=>?_;have:=d f e;unfold e7;rw[n9];simp only[fK,bp,decide_eq_true_eq];omega
def Ex {j i:Int} {E:List bD} (g:E.Pairwise fL) (l:a<E.length):e7 j i E[a]=true↔a<(E.filter (e7 j i)).length:=by
 constructor
 ·intro b;have k:∀h∈E.take (a+1),e7 j i h=true:=by
   intro h m;obtain⟨e,n,rfl⟩:=List.mem_take_iff_getElem.1 m;rcases bg e a with f|f
   ·exact I6 (gj.1 g e a U l f) b
   obtain rfl:e=a:=U;exact b
  have c:(E.take (a+1)).filter (e7 j i)=E.take (a+1):=mH.2 k;have d:=(List.Sublist.filter (e7 j i) (List.take_sublist (a+1) E)).length_le;rw[c,dZ] at d;omega
 intro b;have c:=Ke (j:=j) (i:=i) g;have d:E[a]∈E.filter (e7 j i):=(by rw[c];exact List.mem_take_iff_getElem.2 ⟨a,U,rfl⟩);exact(eY.1 d).2
def QC {j i:Int} {E:List bD} (m:E.Pairwise fL):(∃c:(E.filter (e7 j i)).length<E.length,E[(E.filter (e7 j i)).length].1=i/\E[(E.filter (e7 j i)).length].2.1=j/\(E.filter (e7 j (i+1))).length=(E.filter (e7 j i)).length+1)\/((∀b,(c:b<E.length)->¬(E[b].1=i/\E[b].2.1=j))/\(E.filter (e7 j (i+1))).length=(E.filter (e7 j i)).length):=by
 have q:∀g:bD,e7 j (i+1) g=true↔e7 j i g=true\/(g.1=i/\g.2.1=j):=λg=>(by unfold e7;simp only[fK,bp,decide_eq_true_eq];omega);have z:∀g:bD,g.1=i/\g.2.1=j->¬e7 j i g=true:=λg h c=>(by unfold e7 at c;simp only[fK,bp,decide_eq_true_eq] at c;omega);generalize t:(E.filter (e7 j i)).length=f;generalize u:(E.filter (e7 j (i+1))).length=k;have n:∀a,(d:a<E.length)->(e7 j i E[a]=true↔a<f):=λa d=>(by rw[<-t];exact Ex m d);have o:∀a,(d:a<E.length)->(e7 j (i+1) E[a]=true↔a<k):=λa d=>(by rw[<-u];exact Ex m d);have F:f<=E.length:=(by rw[<-t];exact ip _ _);have G:k<=E.length:=(by rw[<-u];exact ip _ _);by_cases p:∃b,∃c:b<E.length,E[b].1=i/\E[b].2.1=j
 ·obtain⟨b,l,h⟩:=p;have A:¬b<f:=λc=>z _ h ((n b l).2 c);have B:b<k:=(o b l).1 ((q _).2 (.inr h));have r:∀a,(d:a<E.length)->f<=a->a<k->a=b:=λa d C w=>by
   have x:=(q _).1 ((o a d).2 w);have D:E[a].1=i/\E[a].2.1=j:=x.resolve_left λc=>(by have:=(n a d).1 c;omega);rcases kX a b with e|e|e
   ·have:=gj.1 m a b d l e;rcases this with c|⟨c,v⟩<;>omega
   ·exact e
   have:=gj.1 m b a l d e;rcases this with c|⟨c,v⟩<;>omega
  have y:f=b:=r f U (a2 _) U;subst y;refine .inl ⟨l,h.1,h.2,?_⟩;rcases bg (f+1) k with e|e
  ·have:=r (f+1) U U e;omega
  omega
 refine .inr ⟨λb l h=>p ⟨b,l,h⟩,?_⟩;have s:∀a,a<E.length->(a<k↔a<f):=λa d=>(by rw[<-n a d,<-o a d,q];exact⟨λc=>c.resolve_right λh=>p ⟨a,d,h⟩,.inl⟩);rcases kX k f with e|e|e
 ·have:=(s k U).2 e;omega
 ·exact e
 have:=(s f U).1 e;omega
def na (b:Nat) (a:bD):Nat:=a.2.1.toNat*b+a.1.toNat
def XP {E:List bD} (d:jx a b E) (e:s∈E):na a s<a*b:=by have f:=d s e;unfold na;have c:(s.2.1.toNat+1)*a<=b*a:=fP _ U;rw[eO,hD] at c;rw[iB a b];omega
def XO {rows:Nat} {a b:Int×Int} (f:0<=a.1/\a.1<(rows:Int)/\0<=a.2) (g:0<=b.1/\b.1<(rows:Int)/\0<=b.2) (c:a.2.toNat*rows+a.1.toNat=b.2.toNat*rows+b.1.toNat):a.1=b.1/\a.2=b.2:=by have d:(a.2.toNat*rows+a.1.toNat)/rows=a.2.toNat:=(by rw[iB,Nat.mul_add_div U,Nat.div_eq_of_lt U,j6]);have e:(b.2.toNat*rows+b.1.toNat)/rows=b.2.toNat:=(by rw[iB,Nat.mul_add_div U,Nat.div_eq_of_lt U,j6]);rw[c,e] at d;rw[d] at c;omega
def mS (b:Nat) (E:List bD):Nat->Nat->Int
 |0,_=>0
 |i+1,a=>if a=na b (E.getD i (0,0,0,())) then((i+1:Nat):Int) else mS b E i a
def Jm (d:Nat) (E:List bD) (c:Nat):∀i,(mS d E i c=0/\∀a,a<i->na d (E.getD a (0,0,0,()))≠c)\/∃a,a<i/\na d (E.getD a (0,0,0,()))=c/\mS d E i c=((a+1:Nat):Int)
 |0=>.inl ⟨rfl,λa b=>absurd b U⟩
 |i+1=>by
  unfold mS;by_cases e:c=na d (E.getD i (0,0,0,()))
  ·exact .inr ⟨i,U,e.symm,ai e⟩
  rw[ah e];rcases Jm d E c i with⟨g,f⟩|⟨a,g,f,h⟩
  ·refine .inl ⟨g,λa j=>?_⟩;rcases bg a i with b|b
   ·exact f a b
   obtain rfl:a=i:=U;exactλb=>e b.symm
  exact .inr ⟨a,U,f,h⟩
def Q0 (b:Nat) (E:List bD) (a:Nat):bU (mS b E a) (na b (E.getD a (0,0,0,()))) ((a+1:Nat):Int)=mS b E (a+1):=by funext p;unfold bU;rw[mS]
def Nf (e:b<=200) (d:a<=200) (h:g<=200):ar (ar ((a:Int)*(b:Int))+(g:Int))=((a*b+g:Nat):Int):=by have f:a*b<=200*200:=it d e;have c:(a:Int)*(b:Int)=((a*b:Nat):Int):=(by rw[ja]);rw[c,zD U,<-Int.natCast_add,zD U]
def FN {E:List bD} (b:a<E.length):E.getD a (0,0,0,())=E[a]:=by rw[iO,a9 b];rfl
def iz (E:List bD) (b a:Int):Nat:=(E.filter (e7 b a)).length
def Nd (E:List bD) (b a:Int):iz E b a<=E.length:=ip _ _
def nU (e d:Nat) (E:List bD) (a:Nat) (c:Nat):bJ:=((e:Int),(d:Int),aw (a+1) (λa=>(fg E (a:Int):Int)),(E.take c).map (λb=>b.1),(E.take c).map (λb=>b.2.2.1),())
def Xw {E:List bD} (w:g<=200) (J:o<=200) (ab:E.length<=10000) (x:E.Pairwise fL) (h:jx g o E):BM ((g:Int),(o:Int),E,())=some (qi g o E,()):=by
 unfold BM;refine ae.eq_iff.1 ?_;dsimp only;have ad:g*o<=200*200:=Nat.mul_le_mul w J;have G:ar ((g:Int)*(o:Int))=((g*o:Nat):Int):=(by rw[<-Int.natCast_mul,zD U]);rw[G];refine ae.bs (fU U) ?_;have F:fg E 0=0:=(by rw[<-Ao h,Ew h];rfl);refine ae.aU (P:=λr=>r=(((0:Int),((0:Int),([],([],([],()))))),nU g o E 0 0,aw (g*o) (mS g E E.length),())) ?_ ?_
 ·refine ae.steps E.length (λd s=>s=((d:Int),((0:Int),((0:Int),([],([],([],()))))),nU g o E 0 0,aw (g*o) (mS g E d),())) ?_ ?_ ?_
  ·have:nU g o E 0 0=((g:Int),((o:Int),([0],(([]:aN),(([]:aN),()))))):=by
    unfold nU;rw[nL,Kb];show(_,_,[((fg E 0:Nat):Int)],_)=_;rw[F];rfl
   rw[gU,this];rfl
  ·rintro d _ n rfl;have k:=h E[d] (List.getElem_mem n);obtain⟨Y,I⟩:=Int.eq_ofNat_of_zero_le k.1;obtain⟨Z,K⟩:=Int.eq_ofNat_of_zero_le k.2.2.1;dsimp only;rw[bo (aB (show(d:Int)<ay E by simp only[a1];omega))];refine ae.bs (bQ n) (ae.bs (bQ n) ?_);have v:ar (ar (E[d].2.1*(g:Int))+E[d].1)=((na g E[d]:Nat):Int):=by
    unfold na;rw[I,K,Nf w U U,db,db]
   have Q:=XP h (bA n);rw[v,jZ (by rw[bk];exact Q),e9,bt U,<-FN n,Q0];exact ae.ag.2 rfl
  rintro _ rfl;dsimp only;rw[bi (az (show¬((E.length:Int)<ay E) by simp only[a1];omega))];exact ae.ag.2 rfl
 rintro _ rfl;dsimp only;refine ae.aU (P:=λr=>r=(((0:Int),((0:Int),([],([],([],()))))),qi g o E,())) ?_ (by rintro _ rfl;exact ae.ag.2 rfl);refine ae.steps o (λc s=>s=((c:Int),((0:Int),((0:Int),([],([],([],()))))),nU g o E c (iz E (c:Int) 0),aw (g*o) (mS g E E.length),())) ?_ ?_ ?_
 ·have:iz E ((0:Nat):Int) 0=0:=by
   unfold iz;rw[show((0:Nat):Int)=0 from rfl,Ew h];rfl
  rw[this];rfl
 ·rintro c _ L rfl;dsimp only;rw[bo (aB (U:(c:Int)<(o:Int)))];refine ae.aU (P:=λr=>r=(((0:Int),((0:Int),([],([],([],()))))),nU g o E c (iz E (c:Int) (g:Int)),aw (g*o) (mS g E E.length),())) ?_ ?_
  ·refine ae.steps g (λd s=>s=((d:Int),((0:Int),((0:Int),([],([],([],()))))),nU g o E c (iz E (c:Int) (d:Int)),aw (g*o) (mS g E E.length),())) rfl ?_ ?_
   ·rintro d _ n rfl;dsimp only;rw[bo (aB (U:(d:Int)<(g:Int))),Nf w U U];have v:c*g+d<g*o:=by
     have f:(c+1)*g<=o*g:=fP _ L;rw[eO,hD] at f;rw[iB g o];omega
    rw[jU (by rw[bk];exact v),fD];have C:=Nd E (c:Int) (d:Int);have u:=QC (j:=(c:Int)) (i:=(d:Int)) x;change(∃t:iz E (c:Int) (d:Int)<E.length,E[iz E (c:Int) (d:Int)].1=(d:Int)/\E[iz E (c:Int) (d:Int)].2.1=(c:Int)/\iz E (c:Int) ((d:Int)+1)=iz E (c:Int) (d:Int)+1)\/((∀y,(t:y<E.length)->¬(E[y].1=(d:Int)/\E[y].2.1=(c:Int)))/\iz E (c:Int) ((d:Int)+1)=iz E (c:Int) (d:Int)) at u;rw[show(d:Int)+1=((d+1:Nat):Int) from by omega] at u;generalize iz E (c:Int) (d:Int)=q at*;rw[bt U];have M:∀e,(t:e<E.length)->na g E[e]=c*g+d->E[e].1=(d:Int)/\E[e].2.1=(c:Int):=(by intro e t R;have k:=h E[e] (List.getElem_mem t);exact XO (rows:=g) (a:=(E[e].1,E[e].2.1)) (b:=((d:Int),(c:Int))) ⟨k.1,k.2.1,k.2.2.1⟩ ⟨U,by dsimp only;omega,by dsimp only;omega⟩ (by simpa[na] using R));rcases Jm g E (c*g+d) E.length with⟨W,X⟩|⟨e,l,D,T⟩
    ·rw[W];rcases u with⟨f,m,A,B⟩|⟨f,m⟩
     ·refine absurd ?_ (X q f);rw[FN f];unfold na;rw[m,A,db,db]
     rw[bi (az U)];refine ae.bs rfl ?_;rw[m];exact ae.ag.2 rfl
    rw[T];rw[FN l] at D;obtain⟨ax,V⟩:=M e l D;rcases u with⟨f,m,A,B⟩|⟨f,m⟩
    ·have N:e=q:=by
      rcases kX e q with p|p|p
      ·have:=gj.1 x e q l f p;unfold fL at this;omega
      ·exact p
      have:=gj.1 x q e f l p;unfold fL at this;omega
     subst N;rw[bo (aB U),(U:((e+1:Nat):Int)-1=(e:Int)),zD U];unfold nU;dsimp only;rw[dQ (by simp;omega),Option.bind_some];have S:E.take (e+1)=E.take e++[E[e]]:=(by rw[List.take_add_one,List.getElem?_eq_getElem l];rfl);rw[bQ l,Option.bind_some,dQ (by simp;omega),Option.bind_some,Option.bind_some];rw[B,S,List.map_append,List.map_append,<-m];exact ae.ag.2 rfl
    exact absurd ⟨ax,V⟩ (f e l)
   rintro _ rfl;dsimp only;rw[bi (az (U:¬((g:Int)<(g:Int))))];exact ae.ag.2 rfl
  rintro _ rfl;have C:=Nd E (c:Int) (g:Int);have al:iz E (c:Int) (g:Int)=iz E ((c+1:Nat):Int) 0:=(by unfold iz;rw[QB h,(U:((c+1:Nat):Int)=(c:Int)+1)]);have H:iz E ((c+1:Nat):Int) 0=fg E ((c+1:Nat):Int):=Ao h _;rw[al] at C|-;unfold nU;dsimp only;have O:ay ((E.take (iz E ((c+1:Nat):Int) 0)).map λz=>z.1)=(fg E ((c+1:Nat):Int):Int):=(by rw[a1,List.length_map,List.length_take,<-H];omega);rw[dQ (by rw[bk];simp;omega),Option.bind_some,O,nL (c+1),bt U];exact ae.ag.2 rfl
 rintro _ rfl;dsimp only;rw[bi (az (U:¬((o:Int)<(o:Int))))];have al:iz E (o:Int) 0=E.length:=(by unfold iz;rw[List.filter_eq_self.2];intro z k;have:=h z k;unfold e7;simp only[Bool.or_eq_true,Bool.and_eq_true,decide_eq_true_eq];omega);have:nU g o E o (iz E (o:Int) 0)=qi g o E:=(by unfold nU qi;rw[al,List.take_of_length_le (Nat.le_refl _)]);rw[this];exact ae.ag.2 rfl
def u4 {E:List bD} (h:E.Pairwise fL) (e:jx g b E) (f:a<E.length) (c:Int):E[a].2.1<c↔a<fg E c:=by have d:=Ex (j:=c) (i:=0) h f;rw[Ao e] at d;rw[<-d];have:=e E[a] (bA f);unfold e7;simp only[fK,bp,decide_eq_true_eq];omega
def Jv {E:List bD} (c:jx b a E):fg E 0=0:=by rw[<-Ao c,Ew c];rfl
def Ju {E:List bD} (c:jx b a E):fg E (a:Int)=E.length:=by unfold fg;rw[mH.2];intro e d;have:=c e d;simpa using this.2.2.2
def SJ (c:a<b):(aw b l).getD a 0=l a:=by rw[iO,rr c];rfl
def Cr {E:List bD} (b:a<E.length):(E.map λc=>c.1).getD a 0=E[a].1:=by rw[iO,fB,a9 b];rfl
def Kx {E:List bD} (b:a<E.length):(E.map λc=>c.2.2.1).getD a 0=E[a].2.2.1:=by rw[iO,fB,a9 b];rfl
def us (a:Nat) (E:List bD):ad5:=aw (a+1) (λb=>(fg E (b:Int):Int))
def r9 {E:List bD} (c:a<=b):(us b E).getD a 0=(fg E (a:Int):Int):=SJ U
def EH (E:List bD) (a:Int):fg E a<=E.length:=ip _ _
def ZE {E:List bD} (g:E.Pairwise fL) (e:jx b a E):eB b a (us a E) (E.map λj=>j.1) (E.map λj=>j.2.2.1) where
 len:=bk _ _
 first:=by rw[r9 (bE _)];show((fg E 0:Nat):Int)=0;rw[Jv e];rfl
 mono:=λc k=>by rw[r9 U,r9 U,show((c+1:Nat):Int)=(c:Int)+1 from by omega,EI];omega
 last:=by rw[r9 (a2 _),Ju e,gE]
 val:=by simp
 rng:=λc d k h i=>by rw[r9 U] at h i;have f:d<E.length:=(by have:=EH E ((c+1:Nat):Int);omega);rw[Cr f];have:=e E[d] (bA f);exact⟨this.1,this.2.1⟩
 asc:=λc d k h i=>by rw[r9 U] at h i;have f:d<E.length:=(by have:=EH E ((c+1:Nat):Int);omega);rw[Cr f,Cr U];have l:=u4 g e f (c:Int);have m:=u4 g e f ((c+1:Nat):Int);have n:=u4 g e (U:d-1<E.length) (c:Int);have o:=u4 g e (U:d-1<E.length) ((c+1:Nat):Int);have:=gj.1 g (d-1) d U f U;unfold fL at this;omega
def Hy {rows jI:Nat} {E:List bD} (c:rows<=200) (b:jI<=200) (g:E.length<=10000) (e:∀a∈E,ez a.2.2.1):gn rows jI (us jI E) (E.map λa=>a.1) (E.map λa=>a.2.2.1) where
 hr:=c
 hc:=b
 hi:=by simp;omega
 hs:=by unfold us;rw[bk];omega
 hv:=by simp;omega
 hw:=λh d=>by obtain⟨a,f,rfl⟩:=de.1 d;exact e a f
def Fi (c f:ad5) (d:Int) (b a:Nat):hH c f d b a=aw a λe=>(c.getD (b+e) 0,d,f.getD (b+e) 0,()):=by
 induction a with
 |zero=>rfl
 |succ a g=>rw[hH,g,nL]
def R3 {E:List bD} (l:E.Pairwise fL) (e:jx b a E):∀c,c<=a->bv (us a E) (E.map λg=>g.1) (E.map λg=>g.2.2.1) c=E.take (fg E (c:Int)):=by
 intro c
 induction c with
 |zero=>
  intro _;show[]=E.take (fg E 0);rw[Jv e];rfl
 |succ c q=>
  intro u;rw[bv,q U,r9 U,r9 U,Fi,db,db];have n:fg E ((c+1:Nat):Int)=fg E (c:Int)+h5 E (c:Int):=(by rw[show((c+1:Nat):Int)=(c:Int)+1 from by omega,EI]);have o:=EH E ((c+1:Nat):Int);have h:∀d,(f:d<E.length)->fg E (c:Int)<=d->d<fg E ((c+1:Nat):Int)->E[d].2.1=(c:Int):=λd f k m=>(by have s:=u4 l e f (c:Int);have t:=u4 l e f ((c+1:Nat):Int);omega);rw[n] at h o|-;generalize fg E (c:Int)=i at*;generalize h5 E (c:Int)=j at*;rw[oq,List.take_add];congr 1;have p:((E.drop i).take j).length=j:=(by rw[dZ,j5];omega);refine List.ext_getElem (by rw[bk,p]) λr k m=>?_;rw[bk] at k;rw[fD,Cr U,Kx U,wV,List.getElem_drop,<-h (i+r) U U U]
def Fj {E:List bD} (e:E.Pairwise fL) (d:jx b a E):bv (us a E) (E.map λc=>c.1) (E.map λc=>c.2.2.1) a=E:=by rw[R3 e d a (a2 _),Ju d,dm (a2 _)]
def SM {E:List bD} (c:∀b∈E,bG b.2.2.1≠2047):j1 (E.map λb=>b.2.2.1):=by intro d a;rw[gE] at a;rw[Kx a];exact c _ (bA a)
def EG {E:List bD} (f:E.Pairwise fL) (e:jx b a E) (d:∀c∈E,bG c.2.2.1≠2047):eG b a (us a E) (E.map λc=>c.1) (E.map λc=>c.2.2.1)=0:=
 iU.2 ⟨ZE f e,SM d⟩
def p3 (e:eB b a c h i):jx b a (bv c h i a):=by intro n f;obtain⟨d,g,f⟩:=yO.1 f;obtain⟨j,k,rfl⟩:=tR.1 f;have l:=e.pos d U;have m:=e.pos (d+1) U;have:=e.rng d ((c.getD d 0).toNat+j) g U U;exact⟨this.1,this.2,by dsimp only;omega,by dsimp only;omega⟩
def oQ (e:eB b a h i c) (j:∀l∈c,m l):∀g∈bv h i c a,m g.2.2.1:=by intro g f;obtain⟨d,n,f⟩:=yO.1 f;obtain⟨k,o,rfl⟩:=tR.1 f;have r:=e.pos d U;have s:=e.pos (d+1) U;have p:=e.oZ (d+1) U;have q:=e.val;dsimp only;rw[jN (U:(h.getD d 0).toNat+k<c.length)];exact j _ (List.getElem_mem _)
def Ch (d:j1 c):∀b∈c,bG b≠2047:=by intro b e;obtain⟨f,a,rfl⟩:=fC.1 e;have:=d f a;rwa[jN a] at this
def qf (a:bD):Bool:=decide (a.1>=a.2.1)
def dq (E:List bD):List bD:=E.filter qf
def o1 {E:List bD} (a:E.Pairwise fL):(dq E).Pairwise fL:=List.Pairwise.sublist List.filter_sublist a
def o0 {E:List bD} (c:jx b a E):jx b a (dq E):=λe d=>c e (eY.1 d).1
def yI {E:List bD}:∀a∈dq E,a.2.1<=a.1:=λa b=>by have:=(eY.1 b).2;unfold qf at this;simpa using this
def HG {b:n->Bool} {E:List n} (d:a<E.length):(E.take (a+1)).filter b=(E.take a).filter b++(if b E[a]=true then[E[a]] else[]):=by
 rw[ir,a9 d,jc];congr 1;show[E[a]].filter b=_;by_cases c:b E[a]=true
 ·rw[ai c,pw c];rfl
 rw[ah c,pv c];rfl
def Gu:∀(a:ad4) (b:Nat),a.Pairwise (· < ·)->(∀x∈a,x<b)->a.length<=b
 |[],_,_,_=>bE _
 |x::a,b,i,d=>by
  obtain⟨c,j⟩:=mI.1 i;have p:=d x ac;have:=Gu (a.map λf=>f-(x+1)) (b-(x+1)) (by
   rw[sz];refine List.Pairwise.imp_of_mem ?_ j;intro h m k o n;have:=c h k;omega) (by
   intro f l;obtain⟨g,e,rfl⟩:=de.1 l;have:=c g e;have:=d g (by simp[e]);omega)
  rw[gE] at this;rw[im];omega
def GC (a:Int):Int:=if a=0 then 0 else if a=1 then 4 else if a=2 then 7 else if a=3 then 9 else 10
def yJ (s:a<=5) {E:List bD} (o:E.Pairwise fL) (c:jx a a E) (d:∀b∈E,b.2.1<=b.1):E.length<=15:=by
 have m:=Gu (E.map λb=>(GC b.2.1+b.1).toNat) 15 (by
  rw[sz];refine List.Pairwise.imp_of_mem ?_ o;intro e f g h n;have k:=c e g;have q:=c f h;have l:=d e g;have r:=d f h;unfold fL at n;unfold GC;split<;>split<;>(try split)<;>(try split)<;>(try split)<;>(try split)<;>(try split)<;>(try split)<;>omega) (by
  intro t p;obtain⟨j,i,rfl⟩:=de.1 p;have k:=c j i;have l:=d j i;unfold GC;split
  ·omega
  split
  ·omega
  split
  ·omega
  split<;>omega)
 rwa[gE] at m
def PG (n:a<=5) (b:gn a a h c i) (m:eG a a h c i=0):Bc (((a:Int),(a:Int),h,c,i,()),())=some (qi a a (dq (bv h c i a)),0,()):=by
 have f:=(iU.1 m).1;have j:=p4 f a (Nat.le_refl _);have k:=p3 f;have s:=yJ n (o1 j) (o0 k) yI;have r:(bv h c i a).length<=10000:=(by rw[yl f a (Nat.le_refl _)];have:=f.oZ a (Nat.le_refl _);have:=b.hi;omega);unfold Bc;refine aq b.check ?_;dsimp only;rw[m,b0,aB rfl];refine aq (Fk f b.hc b.hi) ?_;dsimp only;generalize bv h c i a=E at*;refine ae.eq_iff.1 ?_;refine ae.aU (P:=λo=>o=(((0:Int),((0:Int),([],([],([],()))))),dq E,())) ?_ ?_
 ·refine ae.steps E.length (λd p=>p=((d:Int),((0:Int),((0:Int),([],([],([],()))))),dq (E.take d),E,())) rfl ?_ ?_
  ·rintro d _ l rfl;dsimp only;rw[bo (aB (show(d:Int)<ay E by simp only[a1];omega)),jU l,bt U];have q:(dq (E.take d)).length<=10000:=Nat.le_trans (List.length_filter_le _ _) (by rw[List.length_take];omega);unfold dq at*;rw[HG l];by_cases g:qf E[d]=true
   ·have e:=g;unfold qf at e;rw[bo e,ai g,dQ (by simp only[im,pB];omega)];exact ae.ag.2 rfl
   have e:=g;unfold qf at e;rw[bi (by simpa using e),ah g,kB];exact ae.ag.2 rfl
  rintro _ rfl;dsimp only;rw[bi (az (show¬((E.length:Int)<ay E) by simp only[a1];omega)),List.take_of_length_le (Nat.le_refl _)];exact ae.ag.2 rfl
 rintro _ rfl;dsimp only;exact ae.bs (QR b.hr b.hc U (o1 j) (o0 k)) (ae.ag.2 rfl)
def G8 (n:a<=5) (e:gn a a h c i) (j:eG a a h c i=0):rf (((a:Int),(a:Int),h,c,i,()),())=some (qi a a (dq (bv h c i a)),0,()):=by
 have g:=(iU.1 j).1;have k:=p4 g a (Nat.le_refl _);have l:=p3 g;have s:=yJ n (o1 k) (o0 l) yI;have r:(bv h c i a).length<=10000:=(by rw[yl g a (Nat.le_refl _)];have:=g.oZ a (Nat.le_refl _);have:=e.hi;omega);unfold rf;refine aq e.uh ?_;dsimp only;rw[j,b0,aB rfl];refine aq (Nm e j) ?_;dsimp only;generalize bv h c i a=E at*;refine ae.eq_iff.1 ?_;refine ae.aU (P:=λo=>o=(((0:Int),((0:Int),([],([],([],()))))),dq E,())) ?_ ?_
 ·refine ae.steps E.length (λb p=>p=((b:Int),((0:Int),((0:Int),([],([],([],()))))),dq (E.take b),())) rfl ?_ ?_
  ·rintro b _ m rfl;dsimp only;rw[bo (aB (show(b:Int)<ay E by simp only[a1];omega)),bQ m,bt U];have q:(dq (E.take b)).length<=10000:=Nat.le_trans (List.length_filter_le _ _) (by rw[List.length_take];omega);unfold dq at*;rw[HG m];by_cases f:qf E[b]=true
   ·have d:=f;unfold qf at d;rw[aG,aG,bo d,ai f,aG,dQ (by simp only[im,pB];omega)];exact ae.ag.2 rfl
   have d:=f;unfold qf at d;rw[aG,aG,bi (by simpa using d),ah f,kB];exact ae.ag.2 rfl
  rintro _ rfl;dsimp only;rw[bi (az (show¬((E.length:Int)<ay E) by simp only[a1];omega)),List.take_of_length_le (Nat.le_refl _)];exact ae.ag.2 rfl
 rintro _ rfl;dsimp only;exact ae.bs (Xw e.hr e.hc U (o1 k) (o0 l)) (ae.ag.2 rfl)
def hX (b:adU) (a:ad5):adS:=(List.range a.length).map λ(c:Nat)=>(List.range a.length).map λ(d:Nat)=>decide (a.getD d 0∈b.getD (a.getD c 0).toNat [])
def oW (b:adU) (a:ad5):(hX b a).length=a.length:=by simp[hX]
def sO (d:a<c.length) (f:b<c.length):fx (hX e c) a b=decide (c.getD b 0∈e.getD (c.getD a 0).toNat []):=by unfold fx hX;simp[List.getD,d,f]
def ZK (g:0<=f/\f<e.length) (b:0<=p/\p<e.length):∃c,aC (nc e) f=some c/\aC c p=some (decide (p∈e.getD f.toNat [])):=by
 have a:f.toNat<e.length:=U;have d:p.toNat<e.length:=U;refine⟨(List.range e.length).map λ(h:Nat)=>decide ((h:Int)∈e[f.toNat]),?_,?_⟩
 ·unfold aC;rw[ai g.1,Ow a]
 unfold aC;rw[ai b.1,fB,pA d,List.getD,a9 a];simp only[ga,jE,qJ b.1]
theorem PC (A:da e) (B:∀c∈e,c.length<4611686018427387904) (K:e.length<=200) (t:∀q∈c,0<=q/\q<(e.length:Int)) (H:c.Nodup) (T:c.length<=400):BP ((e,()),c,())=some ((hm (hX e c),()),0,()):=by
 classical
 rw[<-ae.eq_iff];unfold BP;have G:gG e=0:=(by unfold gG;rw[ah U,ai A]);have al:decide (∀q∈c,0<=q/\q<(e.length:Int))=true:=decide_eq_true t;have E:decide (¬c.Nodup)=false:=decide_eq_false (λb=>b H);simp only[ze e B,G,PM c _ U,al,PT c U,E,Iq B K (λm N=>(A.asc m N).2),JY c.length U,aG,bne_self_eq_false,cond_false,e3];simp only[ae.bZ];refine ae.mono (P:=λx=>x.2.1=hX e c) ?_ ?_
 ·refine ae.for (i0:=0) c.length (λa z=>z.2.1=(List.range c.length).map λ(m:Nat)=>if m<a then(hX e c).getD m [] else List.replicate c.length false) rfl ?_ (bE _) ?_ ?_
  ·apply g4;intro W;simp[lY];split<;>simp_all
  ·rintro a ⟨y,s,_⟩ _ i g;simp only at g;simp only[ae.bY,ae.bZ];refine⟨λ_=>?_,λk=>by simp at k;omega⟩;refine ae.mono (P:=λx=>x.2.1=(List.range c.length).map λ(m:Nat)=>if m<a+1 then(hX e c).getD m [] else List.replicate c.length false) ?_ (by rintro⟨y,o,_⟩ b;simp only[ae.ag];exact⟨fJ U,b⟩);refine ae.for (i0:=0) c.length (λd z=>z.2.1=s.set a ((List.range c.length).map λ(f:Nat)=>if f<d then fx (hX e c) a f else false)) rfl ?_ (bE _) ?_ ?_
   ·show s=_;apply g4;intro h;rw[qM];by_cases j:a=h
    ·subst j;rw[ai rfl,g];simp[i,List.map_const']
    rw[ah j]
   ·rintro d ⟨S,o,_⟩ _ n l;simp only at l;have O:=t _ (bA i);have Q:=t _ (bA n);obtain⟨R,L,M⟩:=ZK O Q;have V:o.length=c.length:=(by rw[l,g];simp);have r:a<o.length:=U;have v:o[a]=(List.range c.length).map λ(f:Nat)=>if f<d then fx (hX e c) a f else false:=by
     have:o[a]?=some ((List.range c.length).map λ(f:Nat)=>if f<d then fx (hX e c) a f else false):=(by rw[l,kV (by rw[g];simpa using i)]);rw[a9 r] at this;exact ee this
    have I:aC c (a:Int)=some c[a]:=eC (a9 i);have J:aC c (d:Int)=some c[d]:=eC (a9 n);simp only[ae.bY,ae.bZ,ae.oU,I,J,L,M,ae.ag,ae.oE,ae.yN,db];refine⟨λ_=>⟨⟨U,r⟩,r,⟨U,by rw[v];simpa using n⟩,r,by rw[v];simpa using n,fJ U,?_⟩,λk=>by simp at k;omega⟩;rw[v,l,List.set_set];congr 1;apply g4;intro h;rw[qM,fB,fB];rcases bg h c.length with b|b
    ·rw[pA b];simp only[ga,gE,qN];by_cases j:d=h
     ·subst j;have C:c.getD d 0=c[d]:=(by simp[List.getD,n]);have D:c.getD a 0=c[a]:=(by simp[List.getD,i]);rw[ai rfl,ai b,ai U,sO i n,C,D]
     rw[ah j];by_cases p:h<d
     ·rw[ai p,ai U]
     rw[ah p,ah U]
    rw[ah U,hR (by simpa using b)];rfl
   rintro⟨S,o,_⟩ l;simp only at l;simp only[ae.bY,ae.ag];refine⟨λk=>by simp at k,λ_=>?_⟩;rw[l,g];apply g4;intro h;rw[qM,fB,fB];rcases bg h c.length with b|b
   ·rw[pA b];simp only[ga,gE,qN];by_cases j:a=h
    ·subst j;rw[ai rfl,ai b,ai U];congr 1;have:(hX e c).getD a []=(List.range c.length).map λ(f:Nat)=>fx (hX e c) a f:=by
      have F:(hX e c).getD a []=(List.range c.length).map λ(d:Nat)=>decide (c.getD d 0∈e.getD (c.getD a 0).toNat []):=(by simp[hX,List.getD,i]);rw[F];refine h3 λf w=>?_;rw[sO i (fe.1 w)]
     rw[this];refine h3 λf w=>?_;rw[ai (fe.1 w)]
    rw[ah j];by_cases p:h<a
    ·rw[ai p,ai U]
    rw[ah p,ah U]
   rw[ah U,hR (by simpa using b)];rfl
  rintro⟨y,s,_⟩ g;simp only at g;simp only[ae.bY,ae.ag];refine⟨λk=>by simp at k,λ_=>?_⟩;rw[g];apply g4;intro h;rw[fB];rcases bg h c.length with b|b
  ·rw[pA b];simp only[ga];rw[ai b,List.getD,a9 (by rw[oW];exact b)];rfl
  rw[hR (by simpa using b),hR (by rw[oW];exact b)];rfl
 rintro⟨y,s,_⟩ g;simp only at g;subst g;rw[Ib]
 ·simp only[ae.ag]
 ·intro R u;unfold hX at u;simp only[de] at u;obtain⟨a,_,rfl⟩:=u;simp[hX]
 rw[oW];omega
def PI (o:da e) (j:∀p∈c,0<=p/\p<(e.length:Int)) (r:c.Nodup):c9 (hm (hX e c)) a b↔∃(i:a<c.length) (d:b<c.length),c9 e (c[a]).toNat (c[b]).toNat:=by
 unfold c9;constructor
 ·rintro⟨f,h⟩;rw[FF,oW] at f;simp only[hm,sw,List.getElem_range,yQ,oW] at h;obtain⟨d,s,g⟩:=h;refine⟨f,d,?_⟩;have l:=j _ (bA f);have k:=j _ (bA d);have m:e.getD (c[a]).toNat []=e[(c[a]).toNat]'(by omega):=by rw[List.getD,a9 U];rfl
  have n:e.getD (c[b]).toNat []=e[(c[b]).toNat]'(by omega):=by rw[List.getD,a9 U];rfl
  refine⟨U,?_⟩;rw[qJ k.1];rw[fK,sO f d,sO d f] at g;simp only[List.getD,a9 f,a9 d,jE,decide_eq_true_eq] at g;simp only[List.getD] at m n;rcases g with g|g
  ·rw[m] at g;exact g
  rw[n] at g;have:=o.sym (c[b]).toNat U (c[a]).toNat U (by rw[qJ l.1];exact g);rw[qJ k.1] at this;exact this
 rintro⟨i,d,f,h⟩;refine⟨by rw[FF,oW];exact i,?_⟩;simp only[hm,sw,List.getElem_range,yQ,oW];have l:=j _ (bA i);have k:=j _ (bA d);rw[qJ k.1] at h;refine⟨d,λq=>?_,?_⟩
 ·subst q;have:=o.FU (c[a]).toNat f;rw[qJ l.1] at this;exact this h
 rw[fK,sO i d];left;simp only[List.getD,a9 i,a9 d,jE,decide_eq_true_eq,a9 f];exact h
section
inductive hg (A:Nat->Nat->Prop) (P:Nat->Prop):Nat->Nat->Prop
 |one {i j:Nat}:A i j->hg A P i j
 |step {i m j:Nat}:A i m->P m->hg A P m j->hg A P i j
section
variable {A:Nat->Nat->Prop} {P:Nat->Prop}
def hg.trans (c:hg A P b a) (e:P a) (d:hg A P a g):hg A P b g:=by
 induction c with
 |one c=>exact .step c e d
 |step c f _ h=>exact .step c f (h e d)
def hg.symm (f:∀d e,A d e->A e d) (c:hg A P a b):hg A P b a:=by
 induction c with
 |one c=>exact .one (f _ _ c)
 |step c g _ h=>exact h.trans g (.one (f _ _ c))
def hg.mono (f:∀d,P d->v d) (c:hg A P a b):hg A v a b:=by
 induction c with
 |one c=>exact .one c
 |step c e _ g=>exact .step c (f _ e) g
def hg.insert_iff:hg A (λf=>P f\/f=g) a b↔hg A P a b\/(hg A P a g/\hg A P g b):=by
 constructor
 ·intro c
  induction c with
  |one c=>exact .inl (.one c)
  |@step a m b c h _ d=>
   rcases h with h|rfl
   ·rcases d with d|⟨l,i⟩
    ·exact .inl (.step c h d)
    exact .inr ⟨.step c h l,i⟩
   rcases d with d|⟨_,i⟩
   ·exact .inr ⟨.one c,d⟩
   exact .inr ⟨.one c,i⟩
 rintro(c|⟨j,k⟩)
 ·exact c.mono λf e=>.inl e
 exact(j.mono λf e=>.inl e).trans (.inr rfl) (k.mono λf e=>.inl e)
def hg.none:hg A (λ_=>False) a b↔A a b:=by
 constructor
 ·intro c;cases c with
  |one c=>exact c
  |step _ c _=>exact c.elim
 exact .one
def O3:eP A g a b↔hg A (λf=>f<g) a b:=by
 constructor
 ·intro c
  induction c with
  |one c=>exact .one c
  |step c d _ e=>exact .step c d e
 intro c
 induction c with
 |one c=>exact .one c
 |step c d _ e=>exact .step c d e
end
end
section
def Zo:∀{d b:ad5},d.Pairwise (· < ·)->b.Pairwise (· < ·)->(∀f,f∈d↔f∈b)->d=b:=by
 intro d
 induction d with
 |nil=>
  intro b _ _ e;cases b with
  |nil=>rfl
  |cons j b=>exact absurd ((e j).2 (jB ..)) ac
 |cons f d l=>
  intro b h i e;cases b with
  |nil=>exact absurd ((e f).1 (jB ..)) ac
  |cons j b=>
   rw[mI] at h i;have k:f=j:=by
    have c:=(e f).1 (jB ..);have a:=(e j).2 (jB ..);rcases dx.1 c with c|c
    ·exact c
    rcases dx.1 a with a|a
    ·exact a.symm
    have:=i.1 _ c;have:=h.1 _ a;omega
   subst k;rw[l h.2 i.2];intro m;have:=e m;simp only[dx] at this;constructor
   ·intro g;have c:=h.1 _ g;rcases this.1 (.inr g) with a|a
    ·omega
    exact a
   intro g;have c:=i.1 _ g;rcases this.2 (.inr g) with a|a
   ·omega
   exact a
structure wO (aD:adU) (S:Nat->Prop) (T:adS) (gone:ad1):Prop where
 DG:T.length=aD.length
 rows:∀v,(h:v<T.length)->T[v].length=aD.length
 hW:gone.length=aD.length
 KC:∀v,(h:v<gone.length)->(gone[v]=true↔S v)
 HI:∀u w,(aaY:u<T.length)->(hw:w<T[u].length)->¬S u->¬S w->(T[u][w]=true↔u≠w/\hg (c9 aD) S u w)
def ko (b:adS) (c:ad1) (e d:Nat):ad5:=((List.range d).filter λa=>fx b e a&&!c.getD a false).map λ(a:Nat)=>(a:Int)
def Gk {c:Nat->Prop} {d:ad1} (f:wO e c u d) {v w:Nat} (o:v<e.length) (k:¬c v):(w:Int)∈ko u d v e.length↔w<e.length/\¬c w/\v≠w/\hg (c9 e) c v w:=by
 unfold ko;simp only[de,eY,fe,bp,wK];have m:∀w,w<e.length->((fx u v w=true/\d.getD w false=false)↔¬c w/\v≠w/\hg (c9 e) c v w):=by
  intro w l;have a:v<u.length:=(by rw[f.DG];exact o);have b:w<u[v].length:=(by rw[f.rows v a];exact l);have i:w<d.length:=(by rw[f.hW];exact l);have n:d.getD w false=d[w]:=(by simp[List.getD,i]);rw[u7 a b,n,Bool.eq_false_iff,ne_eq,f.KC w i];constructor
  ·rintro⟨g,h⟩;exact⟨h,(f.HI v w a b k h).1 g⟩
  rintro⟨g,h⟩;exact⟨(f.HI v w a b k g).2 h,g⟩
 constructor
 ·rintro⟨j,⟨a,b⟩,i⟩;obtain rfl:j=w:=U;exact⟨a,(m j a).1 b⟩
 exactλ⟨a,b⟩=>⟨w,⟨a,(m w a).2 b⟩,rfl⟩
def Gv (b:adS) (c:ad1) (d a:Nat):(ko b c d a).length<=a:=by unfold ko;rw[gE];exact dh (ip _ _) ac
def Gw (c:f∈ko u w b a):∃d:Nat,f=(d:Int)/\d<a:=by unfold ko at c;simp only[de,eY,fe] at c;obtain⟨e,⟨g,_⟩,h⟩:=c;exact⟨e,h.symm,g⟩
def Ih (r:u.length=b) (n:∀a,(c:a<u.length)->u[a].length=b) (s:w.length=b) (v:b<=4294967296) (y:a<b):yb (some (u,w,()),(a:Int),())=some (ko u w a b,()):=by
 rw[<-ae.eq_iff];unfold yb;have t:fm=4294967296:=rfl;simp only[ae.bZ,ae.ag];refine ae.mono (P:=λi=>i.1=ko u w a b) ?_ (by rintro⟨h,_⟩ c;simp only at c;rw[c]);refine ae.for (i0:=0) b (λp q=>q.1=ko u w a p) rfl rfl (bE _) ?_ ?_
 ·rintro d ⟨h,_⟩ _ o e;simp only at e;have x:=Gv u w a d;simp only[aG];rw[ae.bY];refine⟨λ_=>?_,λf=>by simp at f;omega⟩;rw[ae.bZ,ae.bZ];have g:a<u.length:=U;have j:d<u[a].length:=(by rw[n a g];exact o);have k:aC u (a:Int)=some u[a]:=eC (a9 g);have l:aC u[a] (d:Int)=some u[a][d]:=eC (a9 j);have m:aC w (d:Int)=some (w.getD d false):=eC (by rw[a9 U];simp[List.getD,(U:d<w.length)]);refine ae.mono (P:=λi=>i=((fx u a d&&!w.getD d false),h,())) ?_ ?_
  ·simp only[k,l,m,ae.bZ,ae.bY,ae.ag,u7 g j];refine⟨λc=>?_,λc=>?_⟩
   ·have c:u[a][d]=true:=(by simpa using c);rw[c];rfl
   have c:u[a][d]=false:=(by simpa using c);rw[c];rfl
  rintro _ rfl;simp only[ae.bY,ae.bZ,ae.ag,ae.rG];refine⟨λc=>⟨by rw[e];simp;omega,fJ U,?_⟩,λc=>⟨fJ U,?_⟩⟩
  ·unfold ko at e|-;rw[iP,jc,fN,<-e];simp only[jd,px];rw[ai c];rfl
  unfold ko at e|-;rw[iP,jc,fN,<-e];simp only[jd,px];rw[ah (by rw[c];simp)];simp
 rintro⟨h,_⟩ e;simp only at e;simp only[aG,ae.bY,ae.ag];exact⟨λf=>by simp at f;omega,λ_=>e⟩
def QE (e:a<u.length) (h:b<u[a].length) (c d:Nat):fx (u.set a (u[a].set b true)) c d=(fx u c d||(c==a&&d==b)):=by
 unfold fx;simp only[List.getD,qM];by_cases f:a=c
 ·subst f;rw[ai rfl,ai e,a9 e];simp only[jE,qM];by_cases g:b=d
  ·subst g;rw[ai rfl,ai h];simp
  rw[ah g];have:(d==b)=false:=(by rw[beq_eq_false_iff_ne];omega);simp[this]
 rw[ah f];have:(c==a)=false:=(by rw[beq_eq_false_iff_ne];omega);simp[this]
def LM (a:adS) (b:ad1) (d c:Nat):(ko a b d c).Pairwise (· < ·):=DA _ _
def Pp (V:u.length=a) (W:∀b,(c:b<u.length)->u[b].length=a) (ap:w.length=a) (a0:a<=4294967296) (a3:b<a):ae (ya ((u,w,()),(b:Int),())) (λF=>F.1.2.1=w.set b true/\F.1.1.length=a/\(∀b,(c:b<F.1.1.length)->F.1.1[b].length=a)/\∀e d,e<a->d<a->(fx F.1.1 e d=true↔fx u e d=true\/((e:Int)∈ko u w b a/\(d:Int)∈ko u w b a/\e≠d))):=by
 unfold ya;simp only[Ih V W ap a0 a3,aG];have ab:=Gv u w b a;have M:∀J∈ko u w b a,∃d:Nat,J=(d:Int)/\d<a:=λJ R=>Gw R;have N:=LM u w b a;generalize ko u w b a=h at ab M N;have a4:∀t v:Nat,(c:t<h.length)->(g:v<h.length)->h[t]=h[v]->t=v:=λt v c g L=>by
  rcases kX t v with C|C|C
  ·have:=(gj.1 N) t v c g C;omega
  ·exact C
  have:=(gj.1 N) v t g c C;omega
 simp only[ae.bZ];refine ae.mono (P:=λf:cB×Unit=>f.1.2.1=w/\f.1.1.length=a/\(∀b,(c:b<f.1.1.length)->f.1.1[b].length=a)/\∀e d,e<a->d<a->(fx f.1.1 e d=true↔fx u e d=true\/((e:Int)∈h/\(d:Int)∈h/\e≠d))) ?_ ?_
 ·refine ae.for (i0:=0) h.length (λq f=>f.1.2.1=w/\f.1.1.length=a/\(∀b,(c:b<f.1.1.length)->f.1.1[b].length=a)/\∀e d,e<a->d<a->(fx f.1.1 e d=true↔fx u e d=true\/((e:Int)∈h.take q/\(d:Int)∈h/\e≠d))) rfl ⟨rfl,V,W,λe d _ _=>by simp⟩ (bE _) ?_ ?_
  ·rintro q ⟨⟨S,T,_⟩,_⟩ _ I ⟨m,n,o,p⟩;simp only at m n o p;simp only[ae.bY,ae.bZ];refine⟨λ_=>?_,λs=>by simp at s;omega⟩;refine ae.mono (P:=λf:cB×Unit=>f.1.2.1=w/\f.1.1.length=a/\(∀b,(c:b<f.1.1.length)->f.1.1[b].length=a)/\∀e d,e<a->d<a->(fx f.1.1 e d=true↔fx u e d=true\/((e:Int)∈h.take (q+1)/\(d:Int)∈h/\e≠d))) ?_ (by rintro⟨L,_⟩ c;simp only[ae.ag];exact⟨fJ U,c⟩);obtain⟨l,H,bd⟩:=M _ (bA I);refine ae.for (i0:=0) h.length (λy f=>f.1.2.1=w/\f.1.1.length=a/\(∀b,(c:b<f.1.1.length)->f.1.1[b].length=a)/\∀e d,e<a->d<a->(fx f.1.1 e d=true↔fx u e d=true\/((e:Int)∈h.take q/\(d:Int)∈h/\e≠d)\/(e=l/\(d:Int)∈h.take y/\e≠d))) rfl ⟨m,n,o,λe d j k=>by rw[p e d j k];simp⟩ (bE _) ?_ ?_
   ·rintro y ⟨⟨K,X,_⟩,_⟩ _ E ⟨z,A,r,B⟩;simp only at z A r B;obtain⟨G,D,am⟩:=M _ (bA E);have Y:aC h (q:Int)=some (l:Int):=eC (by rw[a9 I,H]);have Z:aC h (y:Int)=some (G:Int):=eC (by rw[a9 E,D]);have x:l<K.length:=U;have O:G<K[l].length:=(by rw[r l x];exact am);simp only[ae.bY,ae.bZ,Y,Z,ae.ag,ae.oU,ae.oE,ae.yN,db];refine⟨λ_=>⟨λQ=>⟨⟨U,x⟩,x,⟨U,O⟩,x,O,fJ U,z,by simpa using A,λJ R=>?_,λe d j k=>?_⟩,λan=>⟨fJ U,z,A,r,λe d j k=>?_⟩⟩,λs=>by simp at s;omega⟩
    ·rw[List.getElem_set];split
     ·rw[nv];exact r l x
     exact r J (by simpa using R)
    ·have Q:q≠y:=(by simp at Q;omega);have ad:l≠G:=λL=>Q (a4 q y I E (by rw[H,D,L]));rw[QE x O,fK,B e d j k,<-nf E,D,eN,eI];simp only[bp,beq_iff_eq];constructor
     ·rintro((c|c|⟨c,g,i⟩)|⟨c,g⟩)
      ·exact .inl c
      ·exact .inr (.inl c)
      ·exact .inr (.inr ⟨c,.inl g,i⟩)
      exact .inr (.inr ⟨c,.inr U,U⟩)
     rintro(c|c|⟨c,g|g,i⟩)
     ·exact .inl (.inl c)
     ·exact .inl (.inr (.inl c))
     ·exact .inl (.inr (.inr ⟨c,g,i⟩))
     exact .inr ⟨c,U⟩
    have av:q=y:=(by simp at an;omega);have ad:l=G:=(by subst av;rw[H] at D;omega);rw[B e d j k,<-nf E,D,eN,eI];constructor
    ·rintro(c|c|⟨c,g,i⟩)
     ·exact .inl c
     ·exact .inr (.inl c)
     exact .inr (.inr ⟨c,.inl g,i⟩)
    rintro(c|c|⟨c,g|g,i⟩)
    ·exact .inl c
    ·exact .inr (.inl c)
    ·exact .inr (.inr ⟨c,g,i⟩)
    omega
   rintro⟨⟨K,X,_⟩,_⟩ ⟨z,A,r,B⟩;simp only at z A r B;simp only[ae.bY,ae.ag];refine⟨λs=>by simp at s,λ_=>⟨z,A,r,λe d j k=>?_⟩⟩;rw[B e d j k,ny,<-nf I,H,eN,eI];constructor
   ·rintro(c|⟨c,g,i⟩|⟨c,g,i⟩)
    ·exact .inl c
    ·exact .inr ⟨.inl c,g,i⟩
    exact .inr ⟨.inr U,g,i⟩
   rintro(c|⟨c|c,g,i⟩)
   ·exact .inl c
   ·exact .inr (.inl ⟨c,g,i⟩)
   exact .inr (.inr ⟨U,g,i⟩)
  rintro⟨⟨S,T,_⟩,_⟩ ⟨m,n,o,p⟩;simp only at m n o p;simp only[ae.bY,ae.ag];refine⟨λs=>by simp at s,λ_=>⟨m,n,o,λe d j k=>?_⟩⟩;rw[p e d j k,ny]
 rintro⟨⟨S,T,_⟩,_⟩ ⟨m,n,o,p⟩;simp only at m n o p;subst m;simp only[ae.bZ,ae.oU,ae.oE,ae.ag,ae.yN,db];exact⟨⟨U,U⟩,U,trivial,n,o,p⟩
def Pn (I:da e) (J:e.length<=4294967296) (c:wO e v u w) (n:a<e.length) (t:¬v a):ae (ya ((u,w,()),(a:Int),())) (λE=>wO e (λj=>v j\/j=a) E.1.1 E.1.2.1):=by
 refine(Pp c.DG c.rows c.hW J n).mono ?_;rintro⟨⟨M,h,_⟩,_⟩ ⟨q,r,k,s⟩;simp only at q r k s|-;subst q;have z:=c9.symm I;refine⟨r,k,by rw[nv];exact c.hW,λj N=>?_,λd g A o x y=>?_⟩
 ·rw[List.getElem_set];by_cases i:a=j
  ·rw[ai i];simp[i]
  rw[ah i,c.KC];constructor
  ·exact .inl
  rintro(b|b)
  ·exact b
  exact absurd b.symm i
 have m:d<e.length:=U;have p:g<e.length:=(by rw[k d A] at o;exact o);have:=s d g m p;rw[u7 A o] at this;have l:d<u.length:=(by rw[c.DG];exact m);have B:g<u[d].length:=(by rw[c.rows d l];exact p);have C:¬v d:=λb=>x (.inl b);have D:¬v g:=λb=>y (.inl b);have K:a≠d:=λb=>x (.inr b.symm);have L:a≠g:=λb=>y (.inr b.symm);rw[this,u7 l B,c.HI d g l B C D,Gk c n t,Gk c n t,hg.insert_iff];constructor
 ·rintro(⟨h,f⟩|⟨⟨_,_,_,f⟩,⟨_,_,_,G⟩,H⟩)
  ·exact⟨h,.inl f⟩
  exact⟨H,.inr ⟨f.symm z,G⟩⟩
 rintro⟨h,f|⟨f,F⟩⟩
 ·exact .inl ⟨h,f⟩
 exact .inr ⟨⟨m,C,K,f.symm z⟩,⟨p,D,L,F⟩,h⟩
def Pd (g:da e) (m:∀p∈e,p.length<4611686018427387904) (n:e.length<=200):ae (BQ ((e,()),())) (λj=>wO e (λ_=>False) j.1.1 j.1.2.1):=by
 unfold BQ;have q:fm=4294967296:=rfl;simp only[Iq m n (λd o=>(g.asc d o).2),aG,ae.bZ,ae.v5,ae.ag,db];refine⟨⟨U,U,U⟩,HF e,λd l=>?_,ac,λd l=>by simp,λc f h i _ _=>?_⟩
 ·simp[nc]
 rw[hg.none];have b:c<e.length:=(by rw[HF] at h;exact h);have r:f<e.length:=(by simp[nc] at i;exact i);have k:(nc e)[c][f]=decide ((f:Int)∈e[c]):=(by simp[nc,List.getD,b]);rw[k,decide_eq_true_eq];constructor
 ·exactλa=>⟨c9.ne g ⟨b,a⟩,b,a⟩
 exactλa=>a.2.2
open Classical in
def Nv (k:da e) (q:∀A∈e,A.length<4611686018427387904) (y:e.length<=200):vG ((e,()),())=some ((List.range e.length).map (bc e),0,()):=by
 rw[<-ae.eq_iff];unfold vG;have F:fm=4294967296:=rfl;have u:gG e=0:=(by unfold gG;rw[ah U,ai k]);simp only[ze e q,u,aG,bne_self_eq_false,cond_false];simp only[ae.bZ];refine(Pd k q y).mono ?_;rintro⟨⟨h,i,_⟩,_⟩ d;simp only at d;simp only[ae.bZ];refine ae.mono (P:=λC=>C.1=(List.range e.length).map (bc e)) ?_ (by rintro⟨H,_⟩ o;simp only at o;simp only[ae.ag,o]);refine ae.for (i0:=0) e.length (λa n=>n.2.1=(List.range a).map (bc e)/\wO e (λc=>c<a) n.1.1 n.1.2.1) rfl ⟨rfl,?_⟩ (bE _) ?_ ?_
 ·have:(λc:Nat=>c<0)=λ_=>False:=(by funext c;simp);rw[this];exact d
 ·rintro a ⟨⟨h,i,_⟩,B,_⟩ _ j ⟨g,d⟩;simp only at g d;have G:=Gv h i a e.length;have x:[(a:Int)]++ko h i a e.length=bc e a:=by
   have m:=λf=>Gk d (v:=a) (w:=f) j (Nat.lt_irrefl a);refine Zo ?_ (xf e a) ?_
   ·rw[zX,mI];refine⟨λc b=>?_,LM _ _ _ _⟩;obtain⟨f,rfl,_⟩:=Gw b;have:=(m f).1 b;omega
   intro c;constructor
   ·intro b;rw[zX,dx] at b;rcases b with rfl|b
    ·exact m4.2 ⟨j,.inl rfl⟩
    obtain⟨f,rfl,_⟩:=Gw b;have:=(m f).1 b;exact m4.2 ⟨this.1,.inr ⟨U,O3.2 this.2.2.2⟩⟩
   intro b;rw[zX,dx];have z:=b;unfold bc jl at b;simp only[de] at b;obtain⟨f,_,rfl⟩:=b;obtain⟨r,s|⟨s,t⟩⟩:=m4.1 z
   ·exact .inl U
   exact .inr ((m f).2 ⟨r,U,U,O3.1 t⟩)
  rw[ae.bY];refine⟨λ_=>?_,λl=>by simp at l;omega⟩;simp only[Ih d.DG d.rows d.hW (U:e.length<=4294967296) j,aG,ae.bZ,ae.rG];refine⟨by simp;omega,by rw[g];simp;omega,?_⟩;refine(Pn k U d j (Nat.lt_irrefl a)).mono ?_;rintro⟨⟨D,E,_⟩,_⟩ p;simp only at p;simp only[ae.ag];refine⟨fJ U,?_,?_⟩
  ·rw[g,x,iP,fN];rfl
  have:(λc:Nat=>c<a+1)=λc=>c<a\/c=a:=(by funext c;apply propext;omega);rw[this];exact p
 rintro⟨⟨h,i,_⟩,B,_⟩ ⟨g,_⟩;simp only at g;simp only[ae.bY,ae.ag];exact⟨λl=>by simp at l,λ_=>g⟩
end
def Qt (d:c.Pairwise (· < ·)) (e:∀g∈c,0<=g):∀a,(b:a<c.length)->(a:Int)<=c[a]:=by
 intro a
 induction a with
 |zero=>intro b;exact e _ (bA b)
 |succ a f=>
  intro b;have h:=f U;have i:=y8.1 d a b;omega
def pn.length {a:ad5} {c:Nat} (b:pn a c):a.length<=c:=by
 rcases gk a.length with d|d
 ·omega
 have g:=Qt b.1 (λf e=>(b.2 f e).1) (a.length-1) U;have h:=(b.2 _ (bA (U:a.length-1<a.length))).2;omega
def da.rows (b:da e):∀a∈e,a.length<=e.length:=by intro a c;obtain⟨f,d,rfl⟩:=fC.1 c;exact(b.asc f d).length
def da.hc (b:da e) (d:e.length<=200):∀a∈e,a.length<4611686018427387904:=λa c=>by have:=b.rows a c;omega
def nE:gG e=0↔e.length<=200/\da e:=by
 unfold gG;by_cases a:200<e.length
 ·rw[ai a];constructor
  ·intro a;omega
  intro a;omega
 rw[ah a];by_cases b:da e
 ·rw[ai b];exact⟨λ_=>⟨U,b⟩,λ_=>rfl⟩
 rw[ah b];exact⟨λa=>by omega,λa=>absurd a.2 b⟩
def qp (a:adU) (b:Nat):Int:=((bc a b)[1]?).getD (-1)
def sk.eq (g:da e) (d:sk e c):c=aw e.length (qp e):=by
 rw[<-d.len];refine J8 c _ (λi f=>?_);have h:i<e.length:=(by rw[<-d.len];exact f);rcases XB g d h with⟨b,a⟩|⟨j,k,b,a,_⟩
 ·rw[a9 f] at a;simp only[bS] at a;rw[a,qp,b];rfl
 rw[a9 f] at a;simp only[bS] at a;rw[a,qp,b];rfl
def SR (a:da e) (c:e.length<=200):sk e (aw e.length (qp e)):=by obtain⟨d,_,_,b⟩:=Im e (a.hc c) c a;rw[<-b.eq a];exact b
section
def Jt (P:Nat->Prop):Nat->Nat
 |0=>0
 |k+1=>Jt P k+(open Classical in if P k then 1 else 0)
section
variable {P Q:Nat->Prop} {k:Nat}
end
def D7 (n:Nat) (f:Nat->Int):Prop:=∀a,a<n->f a=-1\/((a:Int)<f a/\f a<n)
def D9 (n:Nat) (f:Nat->Int) (a b:Nat):Prop:=a<n/\f a=(b:Int)
def Sub (n:Nat) (f:Nat->Int) (a b:Nat):Prop:=gw (D9 n f) a b
section
variable {n:Nat} {f:Nat->Int} (A:D7 n f)
include A
omit A in
theorem Sub.TQ:Sub n f a b↔a=b\/∃d,Sub n f a d/\D9 n f d b:=by
 constructor
 ·intro c
  induction c with
  |refl=>exact .inl rfl
  |@step a j b c e i=>
   rcases i with rfl|⟨d,g,h⟩
   ·exact .inr ⟨a,.refl _,c⟩
   exact .inr ⟨d,.step c g,h⟩
 rintro(rfl|⟨d,c,e⟩)
 ·exact .refl _
 exact gw.trans c (.step e (.refl _))
def Ov (n:Nat) (f:Nat->Int) (b:Nat):Nat:=Jt (λa=>Sub n f a b) n
def Pg (n:Nat) (f:Nat->Int):Prop:=∀a,a<n->∀b,Sub n f b a->a<b+Ov n f a
end
end
section
section
variable {aD:adU} (B:da aD) (A:aD.length<=200)
include B A
theorem GW:D9 aD.length (qp aD) b a↔iN (c9 aD) b a:=by
 have f:=SR B A;rw[<-f.i4,mh];constructor
 ·rintro⟨d,e⟩;rw[ai d,e]
 intro c;split at c
 ·rename_i d;exact⟨d,by simpa using c⟩
 cases c
theorem Ol:Sub aD.length (qp aD) a b↔gP (c9 aD) a b:=by
 constructor
 ·intro c
  induction c with
  |refl=>exact .refl _
  |step c _ d=>exact .up ((GW B A).1 c) d
 intro c
 induction c with
 |refl=>exact .refl _
 |up c _ d=>exact .step ((GW B A).2 c) d
end
def U0 (b:ad5) (n a:Nat):Int:=(b[a+1]?).getD n
section
variable {n:Nat} {f:Nat->Int} (C:D7 n f) (A:n<=200)
include C A
end
end
section
def Rj (aD:adU) (a:Nat):(bc aD a).length<=aD.length:=EK aD a aD.length
section
variable {aD:adU} (A:da aD) (B:aD.length<=200)
include A B
end
end
section
section
variable {aD:adU} (A:da aD) (B:aD.length<=200)
include A B
theorem Ys:vG ((aD,()),())=some (aw aD.length (bc aD),0,()):=Nv A (A.hc B) B
end
end
section
structure Il (n:Nat) (f:Nat->Int) (HC:ad5) (m:Nat) (s e:Nat->Nat):Prop where
 len:HC.length=m
 st:HC=aw m λk=>(s k:Int)
 aa0:0<n->0<m/\s 0=0
 aaZ:n=0->m=0
 ok:∀k,k<m->s k<e k/\e k<=n/\e k<=s k+Ov n f (e k-1)
 aY:∀k,k<m->U0 HC n k=(e k:Int)
 aaO:∀k,k+1<m->e k=s (k+1)
 el:∀k,k+1=m->e k=n
section
variable {aD:adU} (A:da aD) (B:aD.length<=200)
include A B
end
end
section
def fF (s:Nat->Nat) (a:Nat):Nat->Int
 |0=>-1
 |k+1=>if s k<=a then(k:Int) else fF s a k
abbrev bW:=Int×cJ
section
variable {n:Nat} {f:Nat->Int} {A:ad5} {m:Nat} {s e:Nat->Nat} (B:Il n f A m s e)
include B
end
section
variable {aD:adU} (C:da aD) (D:aD.length<=200)
include C D
end
end
def PH:∀a:Nat,a<201->Ba (1,(a:Int),())=some (0,(a:Int),()):=by unfold Ba;decide+kernel
def PP (c:Int) (t:0<a) (u:a<=200):Bo ([c],(a:Int),())=some (List.replicate a c,()):=by
 unfold Bo;have al:IntKind.u64.wrap (a:Int)=(a:Int):=(by rw[O5];omega);have m:IntKind.u64.wrap ((1:Nat):Int)=1:=(by rw[O5];rfl);have r:¬((a:Int)<0):=U;have p:¬((a:Int)>9223372036854775807):=U;simp only[br,ah r,aG,ET,al,m,PH a U,sX,(U:¬((0:Int)>0)),if_false,az p,cond_false,zE (U:a<9223372036854775808),fU (U:a<=4294967296),nu,zV,Nat.sub_zero];rw[<-ae.eq_iff];refine ae.aU (P:=λl=>l.1=List.replicate a c) ?_ (by rintro⟨l,⟨⟩⟩ g;simp only at g;subst g;exact ae.ag.2 rfl);have s:∀b:Nat,b<=a->List.replicate b c++List.replicate (a-b) 0=aw a (λd=>if d<b then c else 0):=λb i=>(by rw[gU,gU,yq];have:b+(a-b)=a:=U;rw[this]);refine ae.loop (λf=>∃b:Nat,f.1=(b:Int)/\0<b/\b<=a/\f.2.1=aw a (λd=>if d<b then c else 0)) (λf=>a-f.1.toNat) ⟨1,?_,U,U,?_⟩ ?_
 ·show((min 1 a:Nat):Int)=1;rw[fu U];rfl
 ·show h6 (List.replicate a 0) [c] 0 a=_;unfold h6;rw[fu (show[c].length<=a-0 by simp;omega),List.take_zero,dm (show[c].length<=a-0 by simp;omega),hC,List.drop_replicate,gU];show[c]++aw (a-1) (λ_=>0)=_;have:[c]=aw 1 (λ_=>c):=rfl;rw[this,yq];have:1+(a-1)=a:=U;rw[this]
 rintro⟨f,w,⟨⟩⟩ ⟨b,i,v,q,k⟩;simp only at i k;subst i k;simp only[bk];by_cases g:b<a
 ·simp(disch:=omega) only[ai,rR,tJ,G2,aG,ga,lv,Cf,bk];refine ae.ag.2 ⟨⟨b+min b (a-b),O7 U,U,U,?_⟩,?_⟩
  ·show h6 (aw a λd=>if d<b then c else 0) (aw b λd=>if d<b then c else 0) b a=_;unfold h6;have n:(aw b λd=>if d<b then c else 0)=aw b λ_=>c:=bI λd h=>(by rw[ai h]);have o:(aw b λ(_:Nat)=>c).take (a-b)=aw (min b (a-b)) λ_=>c:=by
    rcases Nat.le_total (a-b) b with e|e
    ·rw[Cf _ _ _ e,uS e]
    rw[dm (by rw[bk];exact e),fu e]
   rw[Cf _ _ _ q,bk,n,o,SI,yq,yq];have:b+(min b (a-b)+(a-(b+min b (a-b))))=a:=U;rw[this];refine bI λd h=>?_;by_cases e:d<b
   ·rw[ai e,ai U]
   rw[ah e];by_cases j:d-b<min b (a-b)
   ·rw[ai j,ai U]
   rw[ah j,ah U,ah U]
  show a-(IntKind.i64.wrap ((b:Int)+((min b (a-b):Nat):Int))).toNat<a-(b:Int).toNat;rw[O7 U];omega
 simp(disch:=omega) only[ah];refine ae.ag.2 ?_;show _=_;rw[gU];exact bI λd h=>by rw[ai U]
def aO (a:List bW):Nat->Nat
 |0=>0
 |k+1=>((a[k]?).map λ(b:bW)=>b.2.1.toNat).getD 0
def mD (d:Nat) (c:List bW) (b:Nat):Prop:=∃a:bW,c[b]?=some a/\a.1=(aO c b:Int)/\(aO c b:Int)<a.2.1/\a.2.1<=(d:Int)
def kz (c:Nat) (a:List bW):Prop:=(∀b,b<a.length->mD c a b)/\aO a a.length=c
def QT {b:List bW} (c:a<b.length) (d:0<=b[a].2.1):(aO b (a+1):Int)=b[a].2.1:=by simp only[aO,a9 c,ga,jE];omega
def mD.at {e:Nat} {b:List bW} {a:Nat} (d:a<b.length) (f:mD e b a):b[a].1=(aO b a:Int)/\b[a].2.1=(aO b (a+1):Int)/\aO b a<aO b (a+1)/\aO b (a+1)<=e:=by obtain⟨j,c,g,h,i⟩:=f;rw[a9 d] at c;simp only[bS] at c;subst c;have:=QT d U;omega
def ve {d:List bW} {m:Nat} (f:∀e,e<m->e<d.length/\mD a d e):∀c b,c<=b->b<=m->aO d c<=aO d b:=by
 intro c b l
 induction b with
 |zero=>
  intro _;obtain rfl:c=0:=by omega
  exact a2 _
 |succ b j=>
  intro n;rcases bg c (b+1) with g|g
  ·have k:=j U U;obtain⟨h,i⟩:=f b U;have:=i.at h;omega
  obtain rfl:c=b+1:=U;exact a2 _
def vd {c:List bW} {m:Nat} (f:∀a,a<m->a<c.length/\mD g c a) (o:a<m) (i:aO c a<=b) (k:b<aO c (a+1)):∀d,a<d->d<=m->fF (aO c) b d=(a:Int):=by
 intro d
 induction d with
 |zero=>intro f;omega
 |succ e j=>
  intro l n;rcases bg a e with h|h
  ·have:=ve f (a+1) e U U;simp only[h2.fF];rw[ah U];exact j h U
  obtain rfl:e=a:=U;simp only[h2.fF];rw[ai i]
def q1 {d:List bW} (f:kz b d) (j:a<b):∃c,c<d.length/\aO d c<=a/\a<aO d (c+1):=by
 have m:∀e,e<=d.length->a<aO d e->∃c,c<e/\aO d c<=a/\a<aO d (c+1):=by
  intro e
  induction e with
  |zero=>intro _ f;exact absurd f (uT _)
  |succ e l=>
   intro n k;rcases bg a (aO d e) with g|g
   ·obtain⟨c,i,h⟩:=l U g;exact⟨c,U,h⟩
   exact⟨e,U,g,k⟩
 obtain⟨c,i,h⟩:=m d.length (a2 _) (by rw[f.2];exact j);exact⟨c,i,h⟩
def Rn (b:List bW) (E:a<=200) (D:b.length<4611686018427387904):ae (BW (b,(a:Int),())) (λk=>(k.2.1=true↔kz a b)/\(kz a b->k.1=aw a (λg=>fF (aO b) g b.length))):=by
 classical
 unfold BW;refine ae.aU (P:=λx=>match x with|.inl k=>(∀c,c<b.length->mD a b c)/\k.1=aw (aO b b.length) (λg=>fF (aO b) g b.length)|.inr k=>¬kz a b/\k=([],false,())) ?_ ?_
 ·refine ae.for b.length (λc y=>(∀e,e<c->e<b.length->mD a b e)/\y.1=aw (aO b c) (λg=>fF (aO b) g c)) (i0:=0) rfl ⟨λe d=>by omega,rfl⟩ (bE _) ?_ ?_
  ·rintro c ⟨t,⟨⟩⟩ _ h ⟨m,i⟩;simp only at i;subst i;have u:∀e,e<c->e<b.length/\mD a b e:=λe s=>⟨U,m e s U⟩;have C:aO b c<=a:=by
    cases c with
    |zero=>exact bE _
    |succ c=>exact((u c U).2.at U).2.2.2
   have v:=eC (a9 h);simp(disch:=omega) only[br,ai,v,aG,bk,b0];have o:¬(b[c].1=(aO b c:Int)/\(aO b c:Int)<b[c].2.1/\b[c].2.1<=(a:Int))->¬kz a b:=λd p=>(by obtain⟨G,f,n⟩:=p.1 c h;rw[a9 h] at f;simp only[bS] at f;subst f;exact d n);by_cases j:b[c].1=(aO b c:Int)
   ·by_cases z:b[c].2.1<=b[c].1
    ·simp only[j,decide_true,e3,show(false==false)=true from rfl,cond_true,aB (U:b[c].2.1<=(aO b c:Int)),show(true==false)=false from rfl,cond_false,aG];exact ae.ag.2 ⟨o (λd=>by omega),rfl⟩
    by_cases q:b[c].2.1>(a:Int)
    ·simp only[j,decide_true,e3,show(false==false)=true from rfl,cond_true,az (U:¬b[c].2.1<=(aO b c:Int)),aB q,aG];exact ae.ag.2 ⟨o (λd=>by omega),rfl⟩
    have r:mD a b c:=⟨b[c],a9 h,j,U,U⟩;obtain⟨f,n,A,B⟩:=r.at h;have w:IntKind.i64.wrap (b[c].2.1-b[c].1)=((aO b (c+1)-aO b c:Nat):Int):=(by rw[f,n,aax U U]);simp only[j,decide_true,e3,show(false==false)=true from rfl,cond_true,az (U:¬b[c].2.1<=(aO b c:Int)),az q,cond_false,aG];rw[<-j];rw[w,PP _ U U];simp(disch:=omega) only[aG,nu,dQ,hP,bk];refine ae.ag.2 ⟨rfl,λe s d=>?_,?_⟩
    ·rcases bg e c with l|l
     ·exact m e l d
     obtain rfl:e=c:=U;exact r
    show aw (aO b c) (λg=>fF (aO b) g c)++List.replicate (aO b (c+1)-aO b c) (c:Int)=_;rw[gU,yq];have al:aO b c+(aO b (c+1)-aO b c)=aO b (c+1):=U;rw[al];refine bI λg F=>?_;simp only[h2.fF];by_cases l:g<aO b c
    ·rw[ai l,ah U]
    rw[ah l,ai U]
   simp only[az j,ij,show(true==false)=false from rfl,cond_false,cond_true,aG];exact ae.ag.2 ⟨o (λd=>j d.1),rfl⟩
  rintro⟨t,⟨⟩⟩ ⟨m,i⟩;simp only at i;subst i;simp(disch:=omega) only[br,ah];exact ae.ag.2 ⟨λc h=>m c h h,rfl⟩
 rintro(⟨t,⟨⟩⟩|k) d
 ·obtain⟨f,i⟩:=d;simp only at i;subst i;simp only[bk];refine ae.ag.2 ⟨?_,λp=>?_⟩
  ·show(((aO b b.length:Nat):Int)==(a:Int))=true↔_;rw[beq_iff_eq];exact⟨λd=>⟨f,U⟩,λd=>by have:=d.2;omega⟩
  show aw (aO b b.length) _=_;rw[p.2]
 obtain⟨f,rfl⟩:=d;exact ae.ag.2 ⟨⟨λd=>(by cases d),λd=>absurd d f⟩,λd=>absurd d f⟩
def pG (c:Nat) (a:bW) (b:Nat):Prop:=∀d:b<a.2.2.1.length,(b<(a.2.1-a.1).toNat->a.2.2.1[b]=a.1+(b:Int))/\((a.2.1-a.1).toNat<=b->a.2.1<=a.2.2.1[b]/\a.2.2.1[b]<(c:Int)/\a.2.2.1[b-1]<a.2.2.1[b])
def iu (c:Nat) (a:bW):Prop:=(a.2.1-a.1).toNat<=a.2.2.1.length/\∀b,0<=b->b<a.2.2.1.length->pG c a b
def Zd {n:Nat} {x:bW} (o:0<=x.1) (p:x.1<x.2.1) (q:x.2.1<=(n:Int)) (s:n<=200) (r:x.2.2.1.length<4611686018427387904):BY (x,(n:Int),())=some ((open Classical in decide (iu n x)),()):=by
 classical
 obtain⟨d,j⟩:∃d:Nat,x.2.1-x.1=(d:Int):=⟨(x.2.1-x.1).toNat,U⟩;have t:(x.2.1-x.1).toNat=d:=U;unfold BY;simp only[j,zE (U:d<9223372036854775808),br];by_cases l:d<=x.2.2.1.length
 ·rw[ah U];refine aq (rK (τ:=Unit) x.2.2.1.length (pG n x) () (.inl ()) (.inr (false,())) 0 rfl (bE _) ?_ ?_) ?_
  ·intro a _ e _;have i:=eC (a9 e);rw[ai U,i];simp only[aG,xh,b0];by_cases m:a<d
   ·rw[ai U,wrap64 U U];simp only[aG];by_cases c:x.2.2.1[a]=x.1+(a:Int)
    ·have:pG n x a:=λ_=>⟨λ_=>c,λb=>by omega⟩;rw[ai this,aB c];simp(disch:=omega) only[e3,cond_false,ah,aG,hP]
    have:¬pG n x a:=λb=>c ((b e).1 U);rw[ah this,az c];rfl
   rw[ah U];simp only[aG,cond_false];rw[ai U];simp only[sX];have k:aC x.2.2.1 (IntKind.i64.wrap ((a:Int)-1))=some (x.2.2.1[a-1]'(by omega)):=by rw[zG U U];exact eC (a9 U)
   by_cases c:x.2.2.1[a]<x.2.1
   ·have:¬pG n x a:=λb=>(by have:=((b e).2 U).1;omega);rw[ah this,ai c];rfl
   rw[ah c];by_cases g:x.2.2.1[a]>=(n:Int)
   ·have:¬pG n x a:=λb=>(by have:=((b e).2 U).2.1;omega);rw[ah this,ai g];rfl
   rw[ah g,k];simp only[aG];by_cases h:x.2.2.1[a]<=x.2.2.1[a-1]
   ·have:¬pG n x a:=λb=>(by have:=((b e).2 U).2.2;omega);rw[ah this,ai h];rfl
   have:pG n x a:=λ_=>⟨λb=>by omega,λ_=>⟨U,U,U⟩⟩;rw[ai this,ah h];simp(disch:=omega) only[aG,hP]
  ·intro _;rw[ah U]
  by_cases f:∀a,0<=a->a<x.2.2.1.length->pG n x a
  ·rw[ai f,aB (show iu n x from⟨U,f⟩)]
  rw[ah f,az (show¬iu n x fromλb=>f b.2)]
 rw[ai U,az (show¬iu n x fromλb=>by have:=b.1;omega)]
def dT (a:List bW) (b:Int):ad5:=((a[b.toNat]?).map λ(c:bW)=>c.2.2.1).getD []
def hB (c:List bW) (a:bW):Prop:=
 (a.2.2.1.length=(a.2.1-a.1).toNat/\a.2.2.2.1=-1)\/
 (∃d:(a.2.1-a.1).toNat<a.2.2.1.length,a.2.2.2.1=fF (aO c) (a.2.2.1[(a.2.1-a.1).toNat]).toNat c.length/\∀b,(a.2.1-a.1).toNat<=b->(e:b<a.2.2.1.length)->a.2.2.1[b]∈dT c a.2.2.2.1)
def iu.asc {b:bW} (h:0<=b.1) (i:b.1<b.2.1) (e:iu a b):b.2.2.1.Pairwise (· < ·):=by
 rw[y8];intro d f;have ax:=e.2 d (bE _) U U;have g:=e.2 (d+1) (bE _) f f;rcases bg (d+1) (b.2.1-b.1).toNat with c|c
 ·have:=ax.1 U;have:=g.1 c;omega
 have:=(g.2 c).2.2;simpa using this
def pa {b:List bW} (c:a<b.length):dT b (a:Int)=b[a].2.2.1:=by unfold dT;rw[db,a9 c];rfl
def H4 {v:Int} (e:c.length<4611686018427387904) (f:c.Pairwise (· < ·)):∃a,s7 (c,v,())=some (a,decide (v∈c),()):=by obtain⟨⟨a,g,⟨⟩⟩,d,b⟩:=H5 c v e f;simp only at b;exact⟨a,by rw[d,b]⟩
def TZ {e:List bW} (Z:b<=200) (r:kz b e) (B:∀S∈e,S.2.2.1.length<4611686018427387904) (A:∀a,(h:a<e.length)->iu b e[a]) (l:a<e.length):BX (e,aw b (λD=>fF (aO e) D e.length),e[a],())=some ((open Classical in decide (hB e e[a])),()):=by
 classical
 have z:=(r.1 a l).at l;have u:=A a l;have L:=B _ (bA l);generalize ad:e[a]=c at z u L;obtain⟨V,W,X,Y⟩:=z;obtain⟨d,M⟩:∃d:Nat,c.2.1-c.1=(d:Int):=⟨(c.2.1-c.1).toNat,U⟩;have x:(c.2.1-c.1).toNat=d:=U;have N:=u.1;rw[x] at N;unfold BX;simp(disch:=omega) only[M,zE (U:d<9223372036854775808),rR,aG,tJ,ga,ny,j5,br,dB,b0];by_cases G:c.2.2.1.length=d
 ·rw[ai U];have:decide (c.2.2.2.1=-1)=decide (hB e c):=by
   rw[decide_eq_decide];unfold hB;rw[x];constructor
   ·intro h;exact .inl ⟨G,h⟩
   rintro(h|⟨h,_⟩)
   ·exact h.2
   omega
  rw[this]
 have q:d<c.2.2.1.length:=U;have ab:=(u.2 d (bE _) q q).2 U;obtain⟨n,y⟩:∃n:Nat,c.2.2.1[d]=(n:Int):=⟨(c.2.2.1[d]).toNat,U⟩;have R:n<b:=U;have F:aC (c.2.2.1.drop d) 0=some (n:Int):=(by have:(c.2.2.1.drop d)[0]?=some (n:Int):=(by rw[jA,j6,a9 q,y]);exact eC (i:=0) this);rw[ah U];simp(disch:=omega) only[F,aG,tC];obtain⟨g,j,O,P⟩:=q1 r R;have w:fF (aO e) n e.length=(g:Int):=vd (m:=e.length) (λa l=>⟨l,r.1 a l⟩) j O P e.length j (a2 _);rw[w];have t:hB e c↔c.2.2.2.1=(g:Int)/\∀f,0<=f->f<c.2.2.1.length-d->c.2.2.1.getD (d+f) 0∈e[g].2.2.1:=by
  unfold hB;rw[x];constructor
  ·rintro(h|⟨h,k,o⟩)
   ·omega
   rw[y,db,w] at k;refine⟨k,λf _ K=>?_⟩;have:=o (d+f) U U;rw[k,pa j] at this;simp only[List.getD,a9 (U:d+f<c.2.2.1.length),jE];exact this
  rintro⟨k,o⟩;refine .inr ⟨q,by rw[y,db,w,k],λf p H=>?_⟩;rw[k,pa j];have:=o (f-d) (bE _) U;have E:d+(f-d)=f:=U;rw[E] at this;simp only[List.getD,a9 H,jE] at this;exact this
 by_cases p:c.2.2.2.1=(g:Int)
 ·simp only[p,decide_true,e3,cond_false];have I:e[g].2.2.1.Pairwise (· < ·):=by
   have:=(r.1 g j).at j;exact(A g j).asc U U
  have Q:=B _ (bA j);refine aq (rK (τ:=Unit) (c.2.2.1.length-d) (λf=>c.2.2.1.getD (d+f) 0∈e[g].2.2.1) () (.inl ()) (.inr (false,())) 0 rfl (bE _) ?_ ?_) ?_
  ·intro f _ K _;have k:aC (c.2.2.1.drop d) (f:Int)=some (c.2.2.1.getD (d+f) 0):=by
    refine eC ?_;rw[jA];simp only[List.getD,a9 (U:d+f<c.2.2.1.length),jE]
   have o:aC e (g:Int)=some e[g]:=eC (a9 j);obtain⟨T,J⟩:=H4 (v:=c.2.2.1.getD (d+f) 0) Q I;rw[ai U,k,o];simp only[aG,J];by_cases C:c.2.2.1.getD (d+f) 0∈e[g].2.2.1
   ·simp(disch:=omega) only[C,decide_true,e3,cond_false,if_true,hP]
   simp only[C,decide_false,ij,cond_true,if_false]
  ·intro _;rw[ah U]
  by_cases s:∀f,0<=f->f<c.2.2.1.length-d->c.2.2.1.getD (d+f) 0∈e[g].2.2.1
  ·rw[ai s,aB (t.2 ⟨p,s⟩)]
  rw[ah s,az (λh=>s (t.1 h).2)]
 simp only[az p,ij,cond_true,az (show¬hB e c fromλh=>p (t.1 h).1)]
section
theorem Ru {l:List bW} (D:a<=200) (A:l.length<4611686018427387904) (e:kz a l) (B:∀i∈l,i.2.2.1.length<4611686018427387904):Bk (l,(some (a:Int),()),())=some ((open Classical in decide (¬∀b,(d:b<l.length)->iu a l[b])),()):=by
 classical
 rw[<-ae.eq_iff];unfold Bk;refine ae.aU (P:=λh=>0<=h.1↔¬∀b,(d:b<l.length)->iu a l[b]) ?_ ?_
 ·unfold EX;refine ae.aU (Gg l.length (λb=>∀d:b<l.length,iu a l[b]) ?_ ?_) ?_
  ·intro b c;have f:=eC (a9 c);obtain⟨j,k,m,o⟩:=(e.1 b c).at c;have g:=Zd (n:=a) (x:=l[b]) U U U D (B _ (bA c));simp(disch:=omega) only[br,ai,f,aG,E5,g];by_cases d:iu a l[b]
   ·simp(disch:=omega) only[d,decide_true,e3,cond_false,c,forall_const,if_true,hP]
   grind
  ·grind
  grind [ae.ag]
 grind [ae.ag,ge_iff_le]
theorem Rv {l:List bW} (D:a<=200) (A:l.length<4611686018427387904) (e:kz a l) (B:∀k∈l,k.2.2.1.length<4611686018427387904) (f:∀b,(c:b<l.length)->iu a l[b]):Bl (l,(some l,some (aw a (λj=>fF (aO l) j l.length)),()),())=some ((open Classical in decide (¬∀b,(c:b<l.length)->hB l l[b])),()):=by
 classical
 rw[<-ae.eq_iff];unfold Bl;refine ae.aU (P:=λi=>0<=i.1↔¬∀b,(c:b<l.length)->hB l l[b]) ?_ ?_
 ·unfold EY;refine ae.aU (Gg l.length (λb=>∀c:b<l.length,hB l l[b]) ?_ ?_) ?_
  ·intro b d;have g:=eC (a9 d);have h:=TZ D e B f d;simp(disch:=omega) only[br,ai,g,aG,E6,h];by_cases c:hB l l[b]
   ·simp(disch:=omega) only[c,decide_true,e3,cond_false,d,forall_const,if_true,hP]
   grind
  ·grind
  grind [ae.ag]
 grind [ae.ag,ge_iff_le]
def Pm (aD:adU) (l:List bW) (b a:Nat):Prop:=b<a->(a:Int)∈dT l (fF (aO l) b l.length)
def gY (aD:adU) (l:List bW):Prop:=kz aD.length l/\(∀a,(d:a<l.length)->iu aD.length l[a])/\(∀a,(d:a<l.length)->hB l l[a])/\∀c b,c9 aD c b->Pm aD l c b
def k5 (aD:adU) (l:List bW):Int:=if gG aD≠0 then gG aD else(open Classical in if gY aD l then 0 else 211)
section
variable {aD:adU} (C:da aD) (D:aD.length<=200) {l:List bW} (A:l.length<4611686018427387904) (B:∀y∈l,y.2.2.1.length<4611686018427387904)
include C D A B
theorem SK:tj ((aD,()),l,())=some ((open Classical in if gY aD l then 0 else 211),()):=by
 classical
 have H:=C.hc D;unfold tj;simp only[zL aD H,nE.2 ⟨D,C⟩,aG,b0,decide_true,e3,cond_false];obtain⟨⟨Z,S,⟨⟩⟩,z,t,u⟩:=Rn l D A;simp only at t u;simp only[z,aG,sX];by_cases f:kz aD.length l
 ·have w:=t.2 f;have N:=u f;subst w N;simp only[e3,show(false==false)=true from rfl,cond_true,Ru D A f B,aG];by_cases j:∀b,(d:b<l.length)->iu aD.length l[b]
  ·simp only[j,implies_true,not_true_eq_false,decide_false,cond_false,aG,Rv D A f B j];by_cases q:∀b,(d:b<l.length)->hB l l[b]
   ·simp only[q,implies_true,not_true_eq_false,decide_false,cond_false];have V:gY aD l↔∀a,0<=a->a<aD.length->∀d:a<aD.length,∀b,0<=b->b<aD[a].length->∀c:b<aD[a].length,aD[a][b]<=(a:Int)->(a:Int)∈dT l (fF (aO l) aD[a][b].toNat l.length):=by
     constructor
     ·rintro⟨_,_,_,E⟩ a _ _ d b _ _ c L;have Q:=(C.asc a d).2 _ (bA c);obtain⟨e,n⟩:∃e:Nat,aD[a][b]=(e:Int):=⟨aD[a][b].toNat,U⟩;have o:c9 aD a e:=⟨d,n▸bA c⟩;have X:=o.ne C;rw[n,db];exact E e a (c9.symm C _ _ o) U
     intro d;refine⟨f,j,q,λe a o W=>?_⟩;have R:=c9.symm C _ _ o;obtain⟨b,c,s⟩:=fC.1 R.2;grind
    rw[show(if gY aD l then(0:Int) else 211)=if(∀a,0<=a->a<aD.length->∀d:a<aD.length,∀b,0<=b->b<aD[a].length->∀c:b<aD[a].length,aD[a][b]<=(a:Int)->(a:Int)∈dT l (fF (aO l) aD[a][b].toNat l.length)) then 0 else 211 from by grind];refine aq (rK (τ:=ad5×Unit) aD.length (λa=>∀d:a<aD.length,∀b,0<=b->b<aD[a].length->∀c:b<aD[a].length,aD[a][b]<=(a:Int)->(a:Int)∈dT l (fF (aO l) aD[a][b].toNat l.length)) (aw aD.length (λi=>fF (aO l) i l.length),()) (.inl ()) (.inr (211,())) 0 rfl (bE _) ?_ ?_) ?_
    ·intro a _ k _;have I:=eC (a9 k);have Y:=C.rows _ (bA k);simp(disch:=omega) only[br,ai,I,aG];refine aq (rK (τ:=ad5×Unit) aD[a].length (λb=>∀c:b<aD[a].length,aD[a][b]<=(a:Int)->(a:Int)∈dT l (fF (aO l) aD[a][b].toNat l.length)) (aw aD.length (λi=>fF (aO l) i l.length),()) (.inl (aw aD.length (λi=>fF (aO l) i l.length),())) (.inr (.inr (.inr (211,())))) 0 rfl (bE _) ?_ ?_) ?_
     ·intro b _ c _;have J:=eC (a9 c);have Q:=(C.asc a k).2 _ (bA c);obtain⟨e,n⟩:∃e:Nat,aD[a][b]=(e:Int):=⟨aD[a][b].toNat,U⟩;simp(disch:=omega) only[ai,J,aG,n,c,forall_const,db];by_cases r:(e:Int)>(a:Int)
      ·have:(e:Int)<=(a:Int)->(a:Int)∈dT l (fF (aO l) e l.length):=λd=>U;rw[ai r,ai this];grind [hP]
      obtain⟨h,g,O,P⟩:=q1 f (U:e<aD.length);have K:fF (aO l) e l.length=(h:Int):=vd (m:=l.length) (λb c=>⟨c,f.1 b c⟩) g O P l.length g (a2 _);have y:aC l (h:Int)=some l[h]:=eC (a9 g);have F:l[h].2.2.1.Pairwise (· < ·):=(by have:=(f.1 h g).at g;exact(j h g).asc U U);obtain⟨T,G⟩:=H4 (v:=(a:Int)) (B _ (bA g)) F;rw[ah r];simp(disch:=omega) only[tC,aG,K,y,G,pa g];have L:(e:Int)<=(a:Int):=U;by_cases M:(a:Int)∈l[h].2.2.1
      ·simp(disch:=omega) only[M,decide_true,e3,cond_false,aG,implies_true,if_true,hP]
      grind
     ·grind
     have s:(∀d:a<aD.length,∀b,0<=b->b<aD[a].length->∀c:b<aD[a].length,aD[a][b]<=(a:Int)->(a:Int)∈dT l (fF (aO l) aD[a][b].toNat l.length))↔(∀b,0<=b->b<aD[a].length->∀c:b<aD[a].length,aD[a][b]<=(a:Int)->(a:Int)∈dT l (fF (aO l) aD[a][b].toNat l.length)):=⟨λp=>p k,λp _=>p⟩;by_cases x:∀b,0<=b->b<aD[a].length->∀c:b<aD[a].length,aD[a][b]<=(a:Int)->(a:Int)∈dT l (fF (aO l) aD[a][b].toNat l.length)
     ·simp(disch:=omega) only[ai x,ai (s.2 x),hP]
     grind
    ·grind
    grind
   have:¬gY aD l:=λd=>q d.2.2.1;grind
  have:¬gY aD l:=λd=>j d.2.1;grind
 have w:S=false:=(by grind);have:¬gY aD l:=λd=>f d.1;grind
end
theorem Zc {n:Nat} {x:bW} (l:0<=x.1) (m:x.1<x.2.1) (w:x.2.1<=(n:Int)):iu n x↔x.2.2.1.Pairwise (· < ·)/\∃(b:(x.2.1-x.1).toNat<=x.2.2.1.length),x.2.2.1[0]'(by omega)=x.1/\x.2.2.1[(x.2.1-x.1).toNat-1]'(by omega)=x.2.1-1/\x.2.2.1[x.2.2.1.length-1]'(by omega)<(n:Int):=by
 obtain⟨f,u⟩:∃f:Nat,x.2.1-x.1=(f:Int):=⟨(x.2.1-x.1).toNat,U⟩;have v:(x.2.1-x.1).toNat=f:=U;constructor
 ·intro b;refine⟨b.asc l m,b.1,?_,?_,?_⟩
  ·have:=(b.2 0 (bE _) (by have:=b.1;omega) (by have:=b.1;omega)).1 U;omega
  ·have:=(b.2 ((x.2.1-x.1).toNat-1) (bE _) (by have:=b.1;omega) (by have:=b.1;omega)).1 U;omega
  have A:=b.1;have t:=b.2 (x.2.2.1.length-1) (bE _) U U;omega
 rintro⟨p,A,q,r,s⟩;have h:∀a e,(d:a<x.2.2.1.length)->(g:e<x.2.2.1.length)->a<e->x.2.2.1[a]<x.2.2.1[e]:=λa e d g o=>(gj.1 p) a e d g o;have i:∀c a,(d:a+c<x.2.2.1.length)->x.2.2.1[a]+(c:Int)<=x.2.2.1[a+c]:=by
  intro c
  induction c with
  |zero=>grind
  |succ c y=>
   grind
 refine⟨A,λa _ _ d=>⟨λj=>?_,λj=>⟨?_,?_,?_⟩⟩⟩
 ·have ax:=i a 0 U;have B:=i ((x.2.1-x.1).toNat-1-a) a U;grind
 ·have z:=h ((x.2.1-x.1).toNat-1) a U d U;omega
 ·rcases bg a (x.2.2.1.length-1) with k|k
  ·grind
  grind
 exact h (a-1) a U d U
section
variable {aD:adU} (C:da aD) (D:aD.length<=200) {l:List bW} (A:l.length<4611686018427387904) (B:∀y∈l,y.2.2.1.length<4611686018427387904)
theorem KI (f:kz g l) (A:l.length<4611686018427387904) (s:a<l.length) (q:aO l a<=b) (r:b<aO l (a+1)):yc (l,(b:Int),())=some ((a:Int),()):=by
 unfold yc;rw[<-ae.eq_iff];refine ae.aU (P:=λj=>j=.inr ((a:Int),())) ?_ (by grind [ae.ag]);refine ae.for (a+1) (λc _=>c<=a) (i0:=0) rfl (bE _) (bE _) ?_ ?_
 ·rintro c ⟨⟩ _ d _;have e:c<l.length:=U;have i:=eC (a9 e);obtain⟨k,n,o,p⟩:=(f.1 c e).at e;simp(disch:=omega) only[br,ai,i,aG,xh];rcases bg c a with h|h
  ·have:=ve (m:=l.length) (λc d=>⟨d,f.1 c d⟩) (c+1) a U U;rw[ai U,az U];simp only[aG,cond_false];grind [ae.ag,hP]
  obtain rfl:c=a:=U;rw[ai U,aB U];grind [ae.ag]
 omega
include C D A B
theorem Yt:th ((aD,()),l,())=some ((open Classical in if gY aD l then 0 else 211),()):=by
 classical
 have N:=C.hc D;unfold th;simp only[ze aD N,nE.2 ⟨D,C⟩,aG,b0,decide_true,e3,cond_false];rw[<-ae.eq_iff];refine ae.aU (P:=λR=>match R with|.inl p=>(∀a,a<l.length->mD aD.length l a)/\p.1=(aO l l.length:Int)|.inr p=>¬kz aD.length l/\p=(211,())) ?_ ?_
 ·refine ae.count (λS=>S.2.1) l.length (λa S=>(∀e,e<a->e<l.length->mD aD.length l e)/\S.1=(aO l a:Int)) (i0:=0) rfl ⟨λe c=>by omega,rfl⟩ (bE _) ?_ ?_
  ·rintro a ⟨V,d1,⟨⟩⟩ _ d q ⟨L,j⟩;simp only at q j;subst q j;have u:=eC (a9 d);have d9:¬(l[a].1=(aO l a:Int)/\(aO l a:Int)<l[a].2.1/\l[a].2.1<=(aD.length:Int))->¬kz aD.length l:=λc N=>by
    obtain⟨d6,r,G⟩:=N.1 a d;grind
   simp(disch:=omega) only[br,ai,u,aG];by_cases k:l[a].1=(aO l a:Int)
   ·simp only[aB k,e3,show(false==false)=true from rfl,cond_true,sX];by_cases I:l[a].2.1<=(aO l a:Int)
    ·rw[ai I];grind [ae.ag]
    rw[ah I];by_cases J:l[a].2.1>(aD.length:Int)
    ·rw[ai J];grind [ae.ag]
    rw[ah J];have ci:mD aD.length l a:=⟨l[a],a9 d,k,U,U⟩;obtain⟨r,G,bs,bB⟩:=ci.at d;grind [Nat.lt_or_ge,ae.ag,hP]
   simp only[az k,ij,show(true==false)=false from rfl,cond_false,aG];grind [ae.ag]
  rintro⟨V,d1,⟨⟩⟩ q ⟨L,j⟩;simp only at q j;subst q j;simp(disch:=omega) only[br,ah];grind [ae.ag]
 rintro(⟨V,⟨⟩⟩|p) c
 rotate_left
 ·obtain⟨r,rfl⟩:=c;exact ae.ag.2 (by rw[ah (λc=>r c.1)])
 obtain⟨L,j⟩:=c;simp only at j;subst j;simp only;by_cases M:aO l l.length=aD.length
 rotate_left
 ·have:¬((aO l l.length:Int)=(aD.length:Int)):=U;simp only[az this,ij,cond_true];exact ae.ag.2 (by rw[ah (λc=>M c.1.2)])
 have o:kz aD.length l:=⟨L,M⟩;simp only[M,decide_true,e3,cond_false];refine ae.aU (P:=λR=>match R with|.inl _=>(∀a,(c:a<l.length)->iu aD.length l[a])/\(∀a,(c:a<l.length)->hB l l[a])|.inr p=>¬((∀a,(c:a<l.length)->iu aD.length l[a])/\(∀a,(c:a<l.length)->hB l l[a]))/\p=(211,())) ?_ ?_
 ·refine ae.of_eq (rK (τ:=Unit) l.length (λa=>∀c:a<l.length,iu aD.length l[a]/\hB l l[a]) () (.inl ()) (.inr (211,())) 0 rfl (bE _) ?_ ?_) ?_
  ·intro a _ d _;have u:=eC (a9 d);obtain⟨k,I,J,d7⟩:=(o.1 a d).at d;have cv:=B _ (bA d);have ab:=Zc (n:=aD.length) (x:=l[a]) U U U;have dl:(∀c:a<l.length,iu aD.length l[a]/\hB l l[a])↔(iu aD.length l[a]/\hB l l[a]):=⟨λc=>c d,λc _=>c⟩;simp(disch:=omega) only[br,ai,u,aG];simp only[dl];obtain⟨f,j⟩:∃f:Nat,l[a].2.1-l[a].1=(f:Int):=⟨(l[a].2.1-l[a].1).toNat,U⟩;have Y:(l[a].2.1-l[a].1).toNat=f:=U;have ds:IntKind.i64.wrap (l[a].2.1-1)=l[a].2.1-1:=wrap64 U U;simp(disch:=omega) only[j,zE,H2 _ cv,aG,sX,ds];by_cases ad:l[a].2.2.1.Pairwise (· < ·)
   rotate_left
   ·grind
   rw[aB ad];simp only[e3,show(false==false)=true from rfl,cond_true];by_cases am:f<=l[a].2.2.1.length
   rotate_left
   ·grind
   rw[ah U];have a0:aC l[a].2.2.1 0=some (l[a].2.2.1[0]'(by omega)):=eC (i:=0) (a9 U)
   have a3:aC l[a].2.2.1 (IntKind.i64.wrap ((f:Int)-1))=some (l[a].2.2.1[f-1]'(by omega)):=by grind [eC,List.getElem?_eq_getElem,zG]
   have a4:aC l[a].2.2.1 (IntKind.i64.wrap ((l[a].2.2.1.length:Int)-1))=some (l[a].2.2.1[l[a].2.2.1.length-1]'(by omega)):=by grind [eC,List.getElem?_eq_getElem,zG]
   simp only[Y] at ab;simp only[a0,a3,a4,aG];by_cases an:l[a].2.2.1[0]'(by omega)=l[a].1
   rotate_left
   ·grind
   rw[aB an];simp only[e3,show(false==false)=true from rfl,cond_true];by_cases ap:l[a].2.2.1[f-1]'(by omega)=l[a].2.1-1
   rotate_left
   ·grind
   rw[aB ap];simp only[e3,show(false==false)=true from rfl,cond_true];by_cases d2:l[a].2.2.1[l[a].2.2.1.length-1]'(by omega)>=(aD.length:Int)
   ·grind
   have t:iu aD.length l[a]:=ab.2 ⟨ad,am,an,ap,U⟩;rw[ah d2];simp only[aG];by_cases r:l[a].2.2.1.length=f
   ·rw[ah U];simp only[aG];by_cases H:l[a].2.2.2.1=-1
    ·have s:hB l l[a]:=.inl ⟨U,H⟩;simp only[aB H,e3,cond_false];rw[ai ⟨t,s⟩];have:loop (σ:=c6) (ρ:=cl) (λT=>if T.1<(l[a].2.2.1.length:Int) then(aC l (-1)).bind λd3=>(aC l[a].2.2.1 T.1).bind λd4=>(q9 (d3.2.2.1,d4,())).bind λd5=>bif !d5.1 then some (.inr (.inr (.inr (.inr (.inr (211,())))))) else some (.inl (IntKind.i64.wrap (T.1+1),())) else some (.inr (.inl ()))) ((f:Int),())=some (.inl ()):=by
      rw[vX];exact⟨1,by simp_all [ah,h8]⟩
     grind [hP]
    have s:¬hB l l[a]:=λc=>by
     rcases c with c|⟨c,_⟩
     ·omega
     omega
    grind
   have G:f<l[a].2.2.1.length:=U;have eq:=(t.2 f (bE _) G G).2 U;obtain⟨F,ex⟩:∃F:Nat,l[a].2.2.1[f]=(F:Int):=⟨(l[a].2.2.1[f]).toNat,U⟩;have d0:F<aD.length:=U;have bd:aC l[a].2.2.1 (f:Int)=some (F:Int):=(by grind [eC,List.getElem?_eq_getElem]);obtain⟨h,g,z,E⟩:=q1 o d0;have X:fF (aO l) F l.length=(h:Int):=vd (m:=l.length) (λa d=>⟨d,o.1 a d⟩) g z E l.length g (a2 _);have K:aC l (h:Int)=some l[h]:=eC (a9 g);rw[ai U];simp only[bd,aG,KI o A g z E];have Q:=B _ (bA g);by_cases H:l[a].2.2.2.1=(h:Int)
   ·have d8:hB l l[a]↔∀e,f<=e->e<l[a].2.2.1.length->l[a].2.2.1.getD e 0∈l[h].2.2.1:=by
     unfold hB;rw[Y];simp_all [db,pa,a9,jE,List.getD]
    simp only[aB H,e3,cond_false];refine aq (y:=if hB l l[a] then .inl () else .inr (.inr (.inr (211,())))) ?_ ?_
    ·refine aq (rK (τ:=Unit) l[a].2.2.1.length (λe=>l[a].2.2.1.getD e 0∈l[h].2.2.1) () (.inl ()) (.inr (.inr (.inr (.inr (211,()))))) f rfl am ?_ ?_) ?_
     ·intro e bs bB _;have bl:aC l[a].2.2.1 (e:Int)=some (l[a].2.2.1.getD e 0):=by
       grind [List.getElem?_eq_getElem,eC]
      rw[ai U,K,bl];simp only[aG,zP _ _ Q];by_cases w:l[a].2.2.1.getD e 0∈l[h].2.2.1
      ·simp(disch:=omega) only[w,decide_true,e3,cond_false,if_true,hP]
      grind
     ·grind
     grind
    by_cases Z:hB l l[a]
    ·rw[ai Z,ai ⟨t,Z⟩];grind [hP]
    grind
   have s:¬hB l l[a]:=λc=>by
    rcases c with c|⟨c,ax,_⟩
    ·omega
    grind
   grind
  ·grind
  grind
 rintro(⟨⟩|p) c
 rotate_left
 ·obtain⟨r,rfl⟩:=c;exact ae.ag.2 (by rw[ah (λc=>r ⟨c.2.1,c.2.2.1⟩)])
 obtain⟨t,s⟩:=c;simp only;have ed:gY aD l↔∀b,0<=b->b<aD.length->∀a,0<=a->a<(aD.getD b []).length->(b:Int)<(aD.getD b []).getD a 0->(aD.getD b []).getD a 0∈dT l (fF (aO l) b l.length):=by
  constructor
  ·rintro⟨_,_,_,ce⟩ b _ c a _ d O;simp only[List.getD,a9 c,jE] at d O|-;simp only[a9 d,jE] at O|-;have el:=(C.asc b c).2 _ (bA d);obtain⟨e,W⟩:∃e:Nat,aD[b][a]=(e:Int):=⟨aD[b][a].toNat,U⟩;rw[W] at O|-;exact ce b e ⟨c,W▸bA d⟩ U
  intro c;refine⟨o,t,s,λb e c1 ek=>?_⟩;obtain⟨v,w⟩:=c1;obtain⟨a,d,q⟩:=fC.1 w;have:=c b (bE _) v a (bE _);grind
 refine ae.of_eq (y:=(if gY aD l then(0:Int) else 211,())) ?_ rfl;refine aq (rK (τ:=Unit) aD.length (λb=>∀a,0<=a->a<(aD.getD b []).length->(b:Int)<(aD.getD b []).getD a 0->(aD.getD b []).getD a 0∈dT l (fF (aO l) b l.length)) () (.inl ()) (.inr (211,())) 0 rfl (bE _) ?_ ?_) ?_
 ·intro b _ v _;have co:=eC (a9 v);have em:=C.rows _ (bA v);have cs:aD.getD b []=aD[b]:=(by grind);simp(disch:=omega) only[br,ai,cs];obtain⟨h,g,z,E⟩:=q1 o v;have X:fF (aO l) b l.length=(h:Int):=vd (m:=l.length) (λa d=>⟨d,o.1 a d⟩) g z E l.length g (a2 _);have K:aC l (h:Int)=some l[h]:=eC (a9 g);have Q:=B _ (bA g);refine aq (rK (τ:=Unit) aD[b].length (λa=>(b:Int)<aD[b].getD a 0->aD[b].getD a 0∈dT l (fF (aO l) b l.length)) () (.inl ()) (.inr (.inr (.inr (211,())))) 0 rfl (bE _) ?_ ?_) ?_
  ·intro a _ d _;have u:aC aD[b] (a:Int)=some (aD[b].getD a 0):=by
    grind [List.getElem?_eq_getElem,eC]
   simp(disch:=omega) only[co,aG,ai,u,xh];by_cases k:aD[b].getD a 0>(b:Int)
   ·have av:(b:Int)<aD[b].getD a 0:=k;rw[ai k];simp only[KI o A g z E,aG,K,zP _ _ Q,X,pa g,av,forall_const];by_cases w:aD[b].getD a 0∈l[h].2.2.1
    ·simp(disch:=omega) only[w,decide_true,e3,cond_false,aG,if_true,hP]
    grind
   have:(b:Int)<aD[b].getD a 0->aD[b].getD a 0∈dT l (fF (aO l) b l.length):=λc=>absurd c k;rw[ah k,ai this];grind [hP]
  ·grind
  by_cases c2:∀a,0<=a->a<aD[b].length->(b:Int)<aD[b].getD a 0->aD[b].getD a 0∈dT l (fF (aO l) b l.length)
  ·simp(disch:=omega) only[ai c2,hP]
  grind
 ·grind
 grind
end
theorem H6 {aD:adU} (c:∀l∈aD,l.length<4611686018427387904) {l:List bW} (A:l.length<4611686018427387904) (B:∀b∈l,b.2.2.1.length<4611686018427387904):tj ((aD,()),l,())=some (k5 aD l,()):=by
 unfold k5;by_cases a:gG aD=0
 ·obtain⟨D,C⟩:=nE.1 a;rw[ah U];grind [SK]
 simp_all [ai,zL,aG,b0,az,ij,cond_true,tj]
theorem H7 {aD:adU} (b:∀l∈aD,l.length<4611686018427387904) {l:List bW} (A:l.length<4611686018427387904) (B:∀c∈l,c.2.2.1.length<4611686018427387904):th ((aD,()),l,())=some (k5 aD l,()):=by
 unfold k5;by_cases a:gG aD=0
 ·obtain⟨D,C⟩:=nE.1 a;rw[ah U];grind [Yt]
 rw[ai a];unfold th;simp only[ze aD b,aG,b0,az a,ij,cond_true]
def Pu {aD:adU} (a:∀l∈aD,l.length<4611686018427387904) {l:List bW} (A:l.length<4611686018427387904) (B:∀b∈l,b.2.2.1.length<4611686018427387904):tj ((aD,()),l,())=some (k5 aD l,())/\th ((aD,()),l,())=some (k5 aD l,()):=
 ⟨H6 a A B,H7 a A B⟩
end
section
def gK (a:ad4):ad5:=a.map λ(b:Nat)=>(b:Int)
def LL (a b:ad4):gK (a++b)=gK a++gK b:=by simp[gK]
def wc (a:ad4):(gK a).length=a.length:=by simp[gK]
section
variable {n:Nat} {f:Nat->Int} (A:D7 n f) (B:n<=200)
include A B
end
end
section
def mi {b:List n} (d:a<b.length) (c:n):b.getD a c=b[a]:=by simp only[List.getD,a9 d,jE]
section
variable {aD:adU} (A:da aD) (B:aD.length<=200)
include A B
end
end
section
def EL {aD:adU} (A:da aD) (c:f∈bc aD a):∃b:Nat,f=(b:Int)/\b<aD.length/\a<=b:=by have d:=c;unfold bc jl at c;simp only[de] at c;obtain⟨b,_,rfl⟩:=c;have:=m4.1 d;exact⟨b,rfl,this.1,this.2.le⟩
section
variable {aD:adU} (A:da aD) (B:aD.length<=200)
include A B
section
variable {C:ad5} {m:Nat} {s e:Nat->Nat} (D:Pg aD.length (qp aD)) (G:Il aD.length (qp aD) C m s e)
include D G
end
def lV (a:List bW) (c b:Nat):Prop:=b<a.length/\aO a b<=c/\c<aO a (b+1)
omit A B in
theorem lV.last {c:List bW} (f:kz g c) (d:lV c b a):fF (aO c) b c.length=(a:Int):=
 vd (m:=c.length) (λh e=>⟨e,f.1 h e⟩) d.1 d.2.1 d.2.2 c.length d.1 (a2 _)
theorem YS {e:List bW} (N:gY aD e) (w:lV e b a) (bB:b<=g):∀n d,d+n=a->d<e.length->aO e d<=b->(b:Int)∈dT e (d:Int)->(g:Int)∈dT e (d:Int)->(g:Int)∈dT e (a:Int):=by
 obtain⟨k,O,L,_⟩:=N;intro n
 induction n using Nat.strongRecOn with
 |ind n Y=>
  intro d a4 o bl H z;rcases gk n with C|C
  ·subst C;have:d=a:=U;rw[<-this];exact z
  obtain⟨Z,A,ab,ad⟩:=(k.1 d o).at o;have av:=ve (m:=e.length) (λq j=>⟨j,k.1 q j⟩) (d+1) a U (by have:=w.1;omega);have ap:aO e (d+1)<=b:=(by have:=w.2.1;omega);rw[pa o] at H z;have v:=O d o;have M:=L d o;have P:=v.asc U U;have R:=gj.1 P;generalize am:e[d]=c at*;have a0:(c.2.1-c.1).toNat=aO e (d+1)-aO e d:=U;obtain⟨p,y,s⟩:=fC.1 H;obtain⟨I,F,B⟩:=fC.1 z;have E:∀l,(x:l<c.2.2.1.length)->c.2.1<=c.2.2.1[l]->(c.2.1-c.1).toNat<=l:=λl x an=>by
   rcases bg l (c.2.1-c.1).toNat with h|h
   ·have:=(v.2 l (bE _) x x).1 h;omega
   exact h
  have W:=E p y (by rw[s,A];omega);have X:=E I F (by rw[B,A];omega);rcases M with⟨h,_⟩|⟨h,u,D⟩
  ·omega
  have V:=(v.2 _ (bE _) h h).2 (a2 _);obtain⟨r,t⟩:∃r:Nat,c.2.2.1[(c.2.1-c.1).toNat]=(r:Int):=⟨(c.2.2.1[(c.2.1-c.1).toNat]).toNat,U⟩;rw[t] at V;obtain⟨f,G,S,T⟩:=q1 k (U:r<aD.length);have Q:=lV.last k (⟨G,S,T⟩:lV e r f);rw[t,db,Q] at u;have bs:r<=b:=by
   rcases bg (c.2.1-c.1).toNat p with i|i
   ·have:=R _ p h y i;rw[t,s] at this;omega
   have K:p=(c.2.1-c.1).toNat:=U;subst K;rw[t] at s;omega
  have bd:d<f:=by
   rcases bg d f with i|i
   ·exact i
   have:=ve (m:=e.length) (λq j=>⟨j,k.1 q j⟩) (f+1) (d+1) U U;omega
  have a3:f<=a:=by
   rcases bg a f with i|i
   ·have:=ve (m:=e.length) (λq j=>⟨j,k.1 q j⟩) (a+1) f U U;have:=w.2.2;omega
   exact i
  have ax:=D p W y;have J:=D I X F;rw[u,s] at ax;rw[u,B] at J;exact Y (a-f) U f U G U ax J
theorem SU {i:List bW} (v:gY aD i):∀a b,lV i a b->∀c,a<c->(c:Int)∈bc aD a->(c:Int)∈dT i (b:Int):=by
 have q:=c9.symm A;obtain⟨l,O,N,H⟩:=id v;have M:∀a b,lV i a b->∀c,a<c->(∃h,c9 aD c h/\gP (c9 aD) h a)->(c:Int)∈dT i (b:Int):=by
  intro a
  induction a using Nat.strongRecOn with
  |ind a z=>
   rintro b d c p ⟨h,j,w⟩;have R:a<aD.length:=(by have t:=(l.1 b d.1).at d.1;have:=d.2.2;omega);have P:=w.le;rcases(Sub.TQ (n:=aD.length) (f:=qp aD)).1 ((Ol A B).2 w) with e|⟨k,t,E⟩
   ·subst e;have:=H h c (q _ _ j) p;rw[d.last l] at this;exact this
   have x:=(GW A B).1 E;have o:=x.1;obtain⟨g,r,C,D⟩:=q1 l (U:k<aD.length);have y:lV i k g:=⟨r,C,D⟩;have F:=z k o g y c U ⟨h,j,(Ol A B).1 t⟩;obtain⟨L,K,I⟩:=(Du q o).1 (x.fill.mono (a2 _));have G:=z k o g y a o ⟨L,K,I⟩;have Q:g<=b:=by
    rcases bg b g with u|u
    ·have:=ve (m:=i.length) (λh j=>⟨j,l.1 h j⟩) (b+1) g U U;have:=d.2.2;omega
    exact u
   exact YS A B v d U (b-g) g U r U G F
 intro a b d c p J;rcases(m4.1 J).2 with s|⟨_,s⟩
 ·omega
 exact M a b d c p ((Du q p).1 s)
theorem SV {b:List bW} (i:gY aD b) {v q:Nat} (a:lV b v q) (k:f∈bc aD v):f∈dT b (q:Int):=by
 obtain⟨c,rfl,s,t⟩:=EL A k;rcases bg v c with h|h
 ·exact SU A B i v q a c h k
 obtain rfl:c=v:=U;obtain⟨l,m,_⟩:=i;have u:=a.1;obtain⟨n,o,p,r⟩:=(l.1 q a.1).at a.1;have j:=m q a.1;rw[pa a.1];have g:c-aO b q<b[q].2.2.1.length:=(by have:=j.1;have:=a.2.2;have:=a.2.1;omega);have:=(j.2 (c-aO b q) (bE _) g g).1 (by have:=a.2.2;have:=a.2.1;omega);have d:=bA g;rw[this] at d;have e:b[q].1+((c-aO b q:Nat):Int)=(c:Int):=(by have:=a.2.1;omega);rw[e] at d;exact d
end
end
def gY.parent {b:List bW} (r:gY e b) (h:a<b.length):(b[a].2.2.2.1=-1\/∃d:Nat,b[a].2.2.2.1=(d:Int)/\d<b.length)/\∀c,(f:c<b[a].2.2.1.length)->b[a].2.1<=b[a].2.2.1[c]->∃d:Nat,b[a].2.2.2.1=(d:Int)/\d<b.length/\b[a].2.2.1[c]∈dT b (d:Int):=by
 obtain⟨l,s,q,_⟩:=r;obtain⟨z,A,B,C⟩:=(l.1 a h).at h;have m:=s a h;rcases q a h with⟨j,g⟩|⟨j,g,p⟩
 ·refine⟨.inl g,λc f v=>?_⟩;have:=(m.2 c (bE _) f f).1 U;omega
 have y:=(m.2 _ (bE _) j j).2 (a2 _);obtain⟨i,o⟩:∃i:Nat,b[a].2.2.1[(b[a].2.1-b[a].1).toNat]=(i:Int):=⟨(b[a].2.2.1[(b[a].2.1-b[a].1).toNat]).toNat,U⟩;rw[o] at y;obtain⟨d,n,w,x⟩:=q1 l (U:i<e.length);have u:=lV.last l (⟨n,w,x⟩:lV b i d);rw[o,db,u] at g;refine⟨.inr ⟨d,g,n⟩,λc f v=>?_⟩;refine⟨d,g,n,?_⟩;have t:(b[a].2.1-b[a].1).toNat<=c:=by
  rcases bg c (b[a].2.1-b[a].1).toNat with k|k
  ·have:=(m.2 c (bE _) f f).1 k;omega
  exact k
 have:=p c t f;rw[g] at this;exact this
structure sF {α:Type} (lt:α->α->Bool):Prop where
 Qx:∀a b,lt a b=true->lt b a=false
 trans:∀a b c,lt b a=false->lt c b=false->lt c a=false
def sF.int:sF (λa b:Int=>decide (a<b)):=⟨λa b c=>by simp at c|-;omega,λa b f d e=>by simp at d e|-;omega⟩
def uI {b:Type} (g:b->b->Bool) (c:Nat->b) (e f:Nat):Prop:=∀d a,d<a->a<=e->a≠f->g (c a) (c d)=false
def sH {b:Type} (f:b->b->Bool) (c:Nat->b) (e:Nat):Prop:=∀d a,d<a->a<e->f (c a) (c d)=false
def swp {c:Type} (b:Nat->c) (a:Nat):Nat->c:=bU (bU b a (b (a-1))) (a-1) (b a)
def Ou (b:Nat->n) (c:Nat):swp b a c=if c=a-1 then b a else if c=a then b (a-1) else b c:=rfl
def uI.swp {k:Type} {h:k->k->Bool} (m:sF h) {f:Nat->k} {j a:Nat} (g:uI h f j a) (q:0<a) (r:a<=j) (n:h (f a) (f (a-1))=true):uI h (swp f a) j (a-1):=by
 intro e b p i o;rw[Ou,Ou,ah o];by_cases c:b=a
 ·subst c;rw[ai rfl];by_cases d:e=b-1
  ·rw[ai d];exact m.Qx _ _ n
  rw[ah d,ah U];exact g e (b-1) U U U
 rw[ah c];by_cases d:e=a-1
 ·rw[ai d];exact g a b U i c
 rw[ah d];by_cases l:e=a
 ·rw[ai l];exact g (a-1) b U i c
 rw[ah l];exact g e b p i c
def uI.done {e:n->n->Bool} (j:sF e) {d:Nat->n} (i:uI e d b a) (m:a<=b) (c:a=0\/e (d a) (d (a-1))=false):sH e d (b+1):=by
 intro g f l o;by_cases h:f=a
 ·subst h;rcases c with c|c
  ·omega
  by_cases k:g=f-1
  ·subst k;exact c
  exact j.trans _ _ _ (i g (f-1) U U U) c
 exact i g f l U h
def ZI {c:Nat->n} (g:0<a) (f:a<b):(aw b (swp c a)).Perm (aw b c):=by have d:a<(aw b c).length:=(by rw[bk];exact f);have e:a-1<(aw b c).length:=(by rw[bk];omega);have:=List.set_set_perm d e;rw[fD,fD,e9,e9] at this;exact this
def Ka [Inhabited n] (a:List n):a=aw a.length (λb=>a[b]?.getD default):=J8 a _ (λb c=>by simp[c])
def Tt (b:ad5) (C:b.length<=1000):ae (Bp (b,0,(b.length:Int),())) (λe=>∃a,e.1=aw b.length a/\sH (λf g=>decide (f<g)) a b.length/\e.1.Perm b):=by
 unfold Bp;simp only[];generalize o:b.length=d at*;have u:IntKind.i64.wrap (0+1)=((1:Nat):Int):=(by rw[wrap64]<;>omega);rw[u];rcases gk d with z|w
 ·subst z;refine ae.aU (P:=λe=>e.1=b) ?_ ?_
  ·refine ae.loop (λk=>k=(((1:Nat):Int),b,())) (λ_=>0) rfl ?_;rintro _ rfl;simp only[br];rw[ah U];exact ae.ag.2 rfl
  rintro⟨e,_⟩ rfl;refine ae.ag.2 ⟨λ_=>0,?_,λp q r s=>by omega,List.Perm.refl _⟩;show e=[];exact lX o
 refine ae.aU (P:=λe=>∃a,e.1=aw d a/\sH (λf g=>decide (f<g)) a d/\e.1.Perm b) ?_ (λe y=>ae.ag.2 y);refine ae.for d (λi A=>∃a,A=(aw d a,())/\sH (λf g=>decide (f<g)) a i/\(aw d a).Perm b) rfl ⟨λi=>b[i]?.getD default,?_,λp q r s=>by omega,?_⟩ w ?_ ?_
 ·rw[<-o,<-Ka]
 ·rw[<-o,<-Ka]
 ·rintro i _ r s ⟨a,rfl,j,h⟩;simp only[br];rw[ai U];refine ae.aU (P:=λe=>∃a,e=(aw d a,())/\sH (λf g=>decide (f<g)) a (i+1)/\(aw d a).Perm b) ?_ ?_
  ·refine ae.loop (λk=>∃(c:Nat) (a:Nat->Int),k=((c:Int),aw d a,())/\c<=i/\uI (λf g=>decide (f<g)) a i c/\(aw d a).Perm b) (λk=>k.1.toNat) ⟨i,a,rfl,a2 _,λp q x E D=>j p q x U,h⟩ ?_;rintro _ ⟨c,a,rfl,n,m,h⟩;simp only[xh];by_cases t:0<c
   ·have B:c-1<d:=U;have v:c<d:=U;simp(disch:=omega) only[ai,bk,zG,dd,dn,aG,Ig,br];by_cases l:a c<a (c-1)
    ·rw[ai l];simp(disch:=omega) only[aG,bk,zG,dd,dn,e9];refine ae.ag.2 ⟨⟨c-1,swp a c,rfl,U,m.swp sF.int t n (by simpa using l),(ZI t v).trans h⟩,?_⟩;show((c-1:Nat):Int).toNat<((c:Nat):Int).toNat;omega
    rw[ah l];exact ae.ag.2 ⟨a,rfl,m.done sF.int n (.inr (by simpa using l)),h⟩
   rw[ah U];exact ae.ag.2 ⟨a,rfl,m.done sF.int n (.inl U),h⟩
  rintro _ ⟨a,rfl,j,h⟩;simp(disch:=omega) only[hP];exact ae.ag.2 ⟨rfl,a,rfl,j,h⟩
 rintro _ ⟨a,rfl,j,h⟩;simp only[br];rw[ah U];exact ae.ag.2 ⟨a,rfl,j,h⟩
def sH.pairwise (d:sH (λb c=>decide (b<c)) l a):(aw a l).Pairwise (· <= ·):=by rw[gj];intro g h i f e;rw[fD,fD];have:=d g h e (by simpa[bk] using f);simpa using this
def PE (a:Nat) (c:a<=12):∃b,ES ((a:Int),())=some (b,()):=by
 have:a=0\/a=1\/a=2\/a=3\/a=4\/a=5\/a=6\/a=7\/a=8\/a=9\/a=10\/a=11\/a=12:=U;rcases this with rfl|rfl|rfl|rfl|rfl|rfl|rfl|rfl|rfl|rfl|rfl|rfl|rfl
 ·exact⟨0,by kernel_rfl⟩
 ·exact⟨1,by kernel_rfl⟩
 ·exact⟨2,by kernel_rfl⟩
 ·exact⟨2,by kernel_rfl⟩
 ·exact⟨3,by kernel_rfl⟩
 ·exact⟨3,by kernel_rfl⟩
 ·exact⟨3,by kernel_rfl⟩
 ·exact⟨3,by kernel_rfl⟩
 ·exact⟨4,by kernel_rfl⟩
 ·exact⟨4,by kernel_rfl⟩
 ·exact⟨4,by kernel_rfl⟩
 ·exact⟨4,by kernel_rfl⟩
 exact⟨4,by kernel_rfl⟩
def XE (a:ad5) (c:Int) (j:a.length<=12):ae (Br (a,0,(a.length:Int),c,())) (λb=>b.1.Pairwise (· <= ·)/\b.1.Perm a):=by obtain⟨b,g,i,f,e,d⟩:=Tt a U;refine⟨b,?_,by rw[f];exact e.pairwise,d⟩;unfold Br;dsimp only;rw[T6];dsimp only;have h:IntKind.i64.wrap ((a.length:Int)-0)=((a.length:Nat):Int):=(by rw[Int.sub_zero];exact zE U);simp only[h,br];rw[if_pos U,g];rfl
def PR (a:ad5) (c:a.length<=12):ae (xM (a,())) (λb=>b.1.Pairwise (· <= ·)/\b.1.Perm a):=by unfold xM;simp only[];rw[O6 _ U U];obtain⟨d,e⟩:=PE a.length c;rw[e];simp only[aG];exact ae.aU (XE a d c) (λb f=>ae.ag.2 f)
section
open Go
def Rr (p:c.Pairwise (· <= ·)):(Lib.compact c).length<c.length↔¬c.Nodup:=by
 have n:(Lib.compact c).length=((List.range c.length).filter (Lib.keeps c.toArray)).length:=(by simp[Lib.compact,Lib.compactUpTo]);have l:(∀a,a<c.length->Lib.keeps c.toArray a=true)↔c.Nodup:=by
  have j:∀a,(b:a<c.length)->(Lib.keeps c.toArray a=true↔a=0\/c[a]≠c[a-1]):=λa b=>(by have g:a-1<c.length:=U;simp[Lib.keeps,b,g]);constructor
  ·intro b;have o:c.Pairwise (· < ·):=by
    rw[y8];intro f i;have d:=(j (f+1) i).1 (b _ i);have g:=gj.1 p f (f+1) U i U;have q:c[f+1]≠c[f]:=by rcases d with d|d;omega;exact d
    omega
   exact o.imp (λb=>by omega)
  intro b a e;rw[j a e];by_cases k:a=0
  ·exact .inl k
  refine .inr λh=>?_;have:=(List.getElem_inj b).1 h;omega
 rw[<-l,n];have m:=ip (Lib.keeps c.toArray) (List.range c.length);rw[qN] at m;constructor
 ·intro b g;rw[mH.2 (λa e=>g a (fe.1 e)),qN] at b;omega
 intro b;rcases bg ((List.range c.length).filter (Lib.keeps c.toArray)).length c.length with d|d
 ·exact d
 refine absurd (λa e=>?_) b;have h:((List.range c.length).filter (Lib.keeps c.toArray)).length=(List.range c.length).length:=(by rw[qN];omega);exact List.length_filter_eq_length_iff.1 h a (fe.2 e)
def ZX (a:ad5) (e:a.length<=12):A0 (a,())=some (decide (¬a.Nodup),()):=by obtain⟨c,g,h,b⟩:=PR a e;have f:=b.length_eq;unfold A0 zA;simp only[g,ga,aG];rw[show Nat.ble a.length 1000000=true from Nat.ble_eq_true_of_le U];simp only[cond_true];rw[show Nat.ble c.1.length 1000000=true from Nat.ble_eq_true_of_le U];simp only[cond_true,ga];have d:decide ((Lib.compact c.1).length<a.length)=decide (¬a.Nodup):=(by rw[decide_eq_decide,<-f,Rr h,b.nodup_iff]);rw[d]
def gX (a:Nat) (b:Nat->Nat->Bool):adS:=aw a λc=>aw a (b c)
def yL (a:Nat) (b:Nat->Nat->Bool):(gX a b).length=a:=bk a _
def v2 {d:Nat->Nat->Bool} (e:∀b c,b<a->c<a->k b c=d b c):gX a k=gX a d:=bI λb f=>bI λc g=>e b c f g
def Ii (a:Nat) (g:a<=4294967296):xC ((a:Int),())=some (gX a λ_ _=>false,()):=by
 unfold xC;simp only[];rw[fU g];simp only[aG];refine aq (y:=(gX a λ_ _=>false,())) (yH a (λc=>(aw a (λb=>if b<c then List.replicate a false else[]),())) 0 rfl ?_ (bE _) ?_ ?_) rfl
 ·rw[gU];simp
 ·intro c _ h;simp(disch:=omega) only[bk,nu,br,ai,aG,dd,dn,e9,hP];congr 4;refine bI λb f=>?_;simp only[bU];by_cases d:b=c
  ·subst d;rw[ai rfl,ai U]
  rw[ah d];by_cases e:b<c
  ·rw[ai e,ai U]
  rw[ah e,ah U]
 simp only[nu,br];rw[ah U];congr 2;refine congrArg (·,()) (bI λb f=>?_);rw[ai f,gU]
def If {n:Nat} {B:Nat->Nat->Bool} {i j:Nat} (o:i<n) (p:j<n):xF (gX n B,(i:Int),(j:Int),())=some (gX n (λb a=>B b a||(decide (i≠j)&&((decide (b=i)&&decide (a=j))||(decide (b=j)&&decide (a=i))))),()):=by
 unfold xF;simp only[b0];by_cases c:i=j
 ·subst c;simp only[decide_true,e3,cond_false];congr 2;exact v2 λb a _ _=>by simp
 rw[az (U:¬((i:Int)=(j:Int)))];unfold gX;simp(disch:=omega) only[ij,cond_true,bk,dd,aG,dn,ga,e9];rw[show bU (λl=>aw n (B l)) i (aw n (bU (B i) j true)) j=aw n (B j) from ew _ _ (λf=>c f.symm)];simp(disch:=omega) only[bk,dd,aG,dn,ga,e9];congr 2;refine bI λb m=>?_;simp only[bU];by_cases d:b=j
 ·rw[ai d,d];refine bI λa k=>?_;simp only[bU];have h:¬j=i:=λf=>c f.symm;by_cases e:a=i
  ·simp[e,h,c]
  simp[e,h,c]
 rw[ah d];by_cases g:b=i
 ·subst g;rw[ai rfl];refine bI λa k=>?_;simp only[bU];by_cases e:a=j
  ·simp[e,c]
  simp[e,d]
 rw[ah g];refine bI λa k=>?_;simp[d,g]
def PF (i:b<=4294967296) (f:a<b):AX (gX b k,(a:Int),())=some (gK ((List.range b).filter (k a)),()):=by
 unfold AX;simp only[];rw[show aC (gX b k) (a:Int)=some (aw b (k a)) from tC f];simp only[aG];refine aq (y:=(gK ((List.range b).filter (k a)),())) (yH b (λc=>(gK ((List.range c).filter (k a)),())) 0 rfl rfl (bE _) ?_ ?_) rfl
 ·intro c _ g;have h:(gK ((List.range c).filter (k a))).length<=c:=(by rw[wc];have:=ip (k a) (List.range c);simpa using this);have e:gK ((List.range (c+1)).filter (k a))=if k a c=true then gK ((List.range c).filter (k a))++[(c:Int)] else gK ((List.range c).filter (k a)):=by
   rw[iP,jc,LL];by_cases d:k a c=true<;>simp[d,gK]
  simp(disch:=omega) only[bk,br,ai,tC,aG,hP];rw[e];by_cases d:k a c=true
  ·rw[ai d,d,dQ (by simp only[zV];omega)];rfl
  rw[ah d,Bool.eq_false_iff.2 d];rfl
 simp only[bk,br];rw[ah U]
def ha (a:Nat) (b:Nat->Nat->Bool):adU:=aw a λc=>gK ((List.range a).filter (b c))
def Ie (g:a<=4294967296):xE (gX a k,())=some ((ha a k,()),()):=by
 unfold xE;simp only[yL];rw[fU g];simp only[aG];refine aq (y:=(([],()),(ha a k,()),())) (yH a (λc=>(([],()),(aw a (λb=>if b<c then gK ((List.range a).filter (k b)) else[]),()),())) 0 rfl ?_ (bE _) ?_ ?_) rfl
 ·rw[gU];simp
 ·intro c _ h;simp(disch:=omega) only[br,ai,PF,aG,bk,dd,dn,ga,e9,hP];congr 6;refine bI λb f=>?_;simp only[bU];by_cases d:b=c
  ·subst d;rw[ai rfl,ai U]
  rw[ah d];by_cases e:b<c
  ·rw[ai e,ai U]
  rw[ah e,ah U]
 simp only[br];rw[ah U];have:(aw a λb=>if b<a then gK ((List.range a).filter (k b)) else[])=ha a k:=bI λb f=>(by rw[ai f]);rw[this]
end
section
open Go
def dY (a:ad5) (b:Nat):Prop:=a.length=b/\(∀c∈a,0<=c/\c<(b:Int))/\a.Nodup
open Classical in
def PK (a:ad5) (d:Nat) (D:d<=4294967296):Bu (a,(d:Int),())=some (decide (dY a d),()):=by
 unfold Bu;simp only[b0];by_cases t:a.length=d
 ·rw[aB (U:(((a.length:Nat):Int)=(d:Int)))];simp only[e3,cond_false,fU D,aG,gU];rw[<-ae.eq_iff];refine ae.aU (P:=λm=>match m with|.inl _=>dY a d|.inr F=>F=(false,())/\¬dY a d) ?_ ?_
  ·refine ae.for d (λb G=>G=(aw d (λn=>decide ((n:Int)∈a.take b)),())/\(∀e,(c:e<a.length)->e<b->0<=a[e]/\a[e]<(d:Int))/\(a.take b).Nodup) (i0:=0) rfl ⟨ac,λe _ c=>by omega,ac⟩ (bE _) ?_ ?_
   ·rintro b _ _ J ⟨rfl,l,h⟩;have j:b<a.length:=U;have s:aC a (b:Int)=some a[b]:=eC (a9 j);have v:a[b]∈a:=bA j;simp(disch:=omega) only[br,ai,s,aG,sX];by_cases o:a[b]<0
    ·rw[ai o];exact ae.ag.2 ⟨rfl,λc=>by have:=c.2.1 _ v;omega⟩
    rw[ah o];by_cases p:a[b]>=(d:Int)
    ·rw[ai p];exact ae.ag.2 ⟨rfl,λc=>by have:=c.2.1 _ v;omega⟩
    rw[ah p];obtain⟨f,i⟩:∃f:Nat,a[b]=(f:Int):=⟨a[b].toNat,U⟩;have L:f<d:=U;rw[i];simp(disch:=omega) only[bk,dd,aG,dn,br];by_cases g:(f:Int)∈a.take b
    ·rw[ai g];refine ae.ag.2 ⟨rfl,λc=>?_⟩;obtain⟨x,C,u⟩:=fC.1 g;simp only[dZ] at C;simp only[wV] at u;have:=(List.getElem_inj c.2.2).1 (u.trans i.symm);omega
    rw[ah g];simp(disch:=omega) only[aG,s,i,bk,dd,dn,e9,hP];have w:a.take (b+1)=a.take b++[(f:Int)]:=(by rw[<-nf j,i]);refine ae.ag.2 ⟨rfl,?_,λe A K=>?_,?_⟩
    ·show((_,()):_×Unit)=_;refine congrArg (·,()) (bI λn _=>?_);simp only[bU];rw[w];by_cases c:n=f
     ·subst c;rw[ai rfl,aB (lw _ (List.mem_singleton_self _))]
     rw[ah c,decide_eq_decide,eN,eI];exact⟨.inl,λz=>z.resolve_right U⟩
    ·by_cases c:e=b
     ·subst c;omega
     exact l e A U
    rw[w,iq];refine⟨h,ac,λH q I r y=>?_⟩;rw[eI] at r;rw[y,r] at q;exact g q
   rintro _ ⟨rfl,l,h⟩;simp(disch:=omega) only[br,ah];refine ae.ag.2 ⟨t,λM E=>?_,?_⟩
   ·obtain⟨x,B,rfl⟩:=fC.1 E;exact l x B U
   rw[dm U] at h;exact h
  rintro(m|m) k
  ·exact ae.ag.2 (by rw[aB (show dY a d from k)])
  exact ae.ag.2 (by rw[k.1,az k.2])
 rw[az (U:¬(((a.length:Nat):Int)=(d:Int)))];simp only[ij,cond_true];rw[az (λc=>t c.1)]
def lg (a:adU) (b:ad5):Int:=open Classical in if gG a≠0 then gG a else if b.length≠a.length then 2 else if dY b a.length then 0 else 90
def Hg (d:∀i∈e,i.length<4611686018427387904) (a:ad5):p0 ((e,()),a,())=some (if lg e a=0 then((hm (hX e a),()),0,()) else(([],()),lg e a,())):=by
 classical
 unfold p0 lg;simp only[ze e d,aG,b0];by_cases c:gG e=0
 ·obtain⟨h,g⟩:=nE.1 c;rw[aB c];simp only[e3,cond_false,c,ne_eq,not_true_eq_false,if_false];by_cases f:a.length=e.length
  ·rw[aB (U:(((a.length:Nat):Int)=((e.length:Nat):Int)))];simp only[e3,cond_false,f,not_true_eq_false,if_false];rw[PK a e.length U];simp only[aG];by_cases b:dY a e.length
   ·rw[aB b];simp only[e3,cond_false,ai b,if_true];rw[PC g d h b.2.1 b.2.2 U];rfl
   rw[az b];simp only[ij,cond_true,ah b];rw[ah U]
  rw[az (U:¬(((a.length:Nat):Int)=((e.length:Nat):Int)))];simp only[ij,cond_true,f,not_false_eq_true,if_true];rw[ah U]
 rw[az c];simp only[ij,cond_true,c,ne_eq,not_false_eq_true,if_true,if_false]
def aap (d:adU) (c:Int):A1 ((d,()),c,())=some (decide (0<=c/\c<(d.length:Int)),()):=by
 unfold A1;simp only[xh];by_cases b:c>=0
 ·rw[ai b];congr 2;exact decide_eq_decide.2 ⟨λa=>⟨b,a⟩,λa=>a.2⟩
 rw[ah b,az (λa=>b a.1)]
def Xt (e:adU) (a:ad5) (n:a.length<4611686018427387904):Bm (a,(some (e,()),()),())=some (decide (¬∀d∈a,0<=d/\d<(e.length:Int)),()):=by
 classical
 unfold Bm EZ;simp only[];rw[<-ae.eq_iff];have h:(∀d∈a,0<=d/\d<(e.length:Int))↔∀c,c<a.length->∀b:c<a.length,0<=a[c]/\a[c]<(e.length:Int):=
  ⟨λb c _ f=>b _ (bA f),λb d m=>by obtain⟨c,f,rfl⟩:=fC.1 m;exact b c f f⟩
 refine ae.aU (P:=λj=>decide (j.1>=0)=decide (¬∀d∈a,0<=d/\d<(e.length:Int))) ?_ (λj l=>ae.ag.2 (by rw[l]));refine ae.aU (Gg a.length (λc=>∀b:c<a.length,0<=a[c]/\a[c]<(e.length:Int)) ?_ ?_) ?_
 ·intro c f;simp(disch:=omega) only[br,ai,eC (a9 f),aG,hP];unfold EQ;simp only[aG,aap];by_cases b:0<=a[c]/\a[c]<(e.length:Int)
  ·rw[aB b,ai (λ_=>b)];rfl
  rw[az b,ah (λk=>b (k f))];rfl
 ·simp(disch:=omega) only[br,ah]
 rintro(i|i) g
 ·refine ae.ag.2 ?_;rw[az aa,az (λb=>b (h.2 g))]
 refine ae.ag.2 ?_;rw[aB (show i.1>=0 from g.1),aB (show¬∀d∈a,0<=d/\d<(e.length:Int) fromλb=>g.2 (h.1 b))]
def PL (j:∀n∈e,n.length<4611686018427387904) (a:ad5) (l:e.length<=200->da e->e.length<=12) (m:a.length<4611686018427387904):AW ((e,()),a,())=some (lg e a,()):=by
 classical
 unfold AW lg;simp only[zL e j,aG,b0];by_cases b:gG e=0
 ·obtain⟨k,i⟩:=nE.1 b;have o:=l k i;rw[aB b];simp only[e3,cond_false,b,ne_eq,not_true_eq_false,if_false];by_cases g:a.length=e.length
  ·rw[aB (U:(((a.length:Nat):Int)=((e.length:Nat):Int)))];simp only[e3,cond_false,g,not_true_eq_false,if_false];rw[Xt e a m];simp only[aG];by_cases c:∀h∈a,0<=h/\h<(e.length:Int)
   ·rw[az (not_not_intro c)];simp only[beq_self_eq_true,cond_true];rw[ZX a U];simp only[aG,br];by_cases d:a.Nodup
    ·rw[ah (not_not_intro d),ai ⟨g,c,d⟩]
    rw[ai d,ah (λf=>d f.2.2)]
   rw[aB c,ah (λf=>c f.2.1)];rfl
  rw[az (U:¬(((a.length:Nat):Int)=((e.length:Nat):Int)))];simp only[ij,cond_true,g,not_false_eq_true,if_true]
 rw[az b];simp only[ij,cond_true,b,ne_eq,not_false_eq_true,if_true]
end
section
open Go
def oV (c:adU) (a:ad5) (b d:Nat):Bool:=decide (a.getD d 0∈c.getD (a.getD b 0).toNat [])
def KO (r:da e) (n:∀d∈c,0<=d/\d<(e.length:Int)) (l:a<c.length) (m:b<c.length):oV e c a b=oV e c b a:=by have j:=n _ (bA l);have k:=n _ (bA m);have p:∀d f:Int,0<=d/\d<(e.length:Int)->0<=f/\f<(e.length:Int)->f∈e.getD d.toNat []->d∈e.getD f.toNat []:=λd f t u i=>(by obtain⟨g,rfl⟩:∃g:Nat,d=(g:Int):=⟨d.toNat,U⟩;obtain⟨h,rfl⟩:∃h:Nat,f=(h:Int):=⟨f.toNat,U⟩;simp only[db] at i|-;have o:g<e.length:=U;have s:h<e.length:=U;rw[mi o] at i;obtain⟨_,q⟩:=c9.symm r g h ⟨o,i⟩;rw[mi s];exact q);unfold oV;rw[mi l,mi m];exact decide_eq_decide.2 ⟨p _ _ j k,p _ _ k j⟩
def S5 (i:da e) (j:∀g∈c,0<=g/\g<(e.length:Int)):ha c.length (λd f=>decide (d≠f)&&oV e c d f)=hm (hX e c):=by unfold ha hm;rw[oW];refine h3 λk a=>?_;have a:=fe.1 a;unfold gK ld;refine congrArg _ (sv λl b=>?_);have b:=fe.1 b;rw[sO a b,sO b a];have:=KO i j a b;unfold oV at this|-;rw[<-this,Bool.or_self];by_cases h:k=l<;>simp[h]
def Tq (u:da e) (F:∀c∈e,c.length<4611686018427387904) (w:∀C∈c,0<=C/\C<(e.length:Int)) (K:c.length<=400):AZ ((e,()),c,())=some ((hm (hX e c),()),()):=by
 generalize o:c.length=j at*
 let i:Nat->Nat->Nat->Nat->Bool:=λa b d f=>decide (d≠f)&&(oV e c d f&&((decide (d<a)&&decide (f<a))||((decide (d=a)&&decide (f<b))||(decide (f=a)&&decide (d<b)))))
 unfold AZ;simp only[o];rw[Ii j U];simp only[aG];refine aq (y:=(([],()),gX j (i j 0),())) (yH j (λa=>(([],()),gX j (i a 0),())) 0 rfl ?_ (bE _) ?_ ?_) ?_
 ·refine congrArg (λl=>(([],()),l,())) (v2 λd f _ _=>?_);simp[i]
 ·intro a _ I;have r:a<c.length:=U;have G:aC c (a:Int)=some c[a]:=eC (a9 r);have h:=w _ (bA r);obtain⟨k,s⟩:∃k:Nat,c[a]=(k:Int):=⟨c[a].toNat,U⟩;have t:k<e.length:=U;simp(disch:=omega) only[br,ai,G,aG,rR,o,tJ,ga,s,lv];have B:(c.take a).length=a:=(by rw[dZ];omega);refine aq (y:=(([],()),gX j (i a a),())) (yH a (λb=>(([],()),gX j (i a b),())) 0 rfl rfl (bE _) ?_ ?_) ?_
  ·intro b _ J;have v:b<c.length:=U;have H:aC (c.take a) (b:Int)=some c[b]:=eC (by rw[l0 J];exact a9 v);simp(disch:=omega) only[B,br,ai,H,aG,hP];rw[FW e k c[b] t (F _ (bA t)) ((Eg e).1 u k t).1];simp only[aG,br];have n:oV e c a b=decide (c[b]∈e[k]):=by
    unfold oV;rw[mi r,mi v,s,db,mi t]
   have q:oV e c b a=decide (c[b]∈e[k]):=(by rw[<-n];exact KO u (by simpa[o] using w) v r);by_cases p:c[b]∈e[k]
   ·rw[ai p,If I U];simp only[aG];refine congrArg (λl=>some (Sum.inl (((b+1:Nat):Int),([],()),l,()))) (v2 λd f _ _=>?_);rw[aB p] at n q;simp only[i];rw[n9];simp only[fK,bp,decide_eq_true_eq];constructor
    ·rintro(⟨h,g,m⟩|⟨h,⟨rfl,rfl⟩|⟨rfl,rfl⟩⟩)
     ·exact⟨h,g,U⟩
     ·exact⟨U,n,U⟩
     exact⟨U,q,U⟩
    rintro⟨h,g,m⟩;by_cases D:(d=a/\f=b)\/(d=b/\f=a)
    ·exact .inr ⟨U,D⟩
    exact .inl ⟨h,g,U⟩
   rw[ah p];simp only[aG];refine congrArg (λl=>some (Sum.inl (((b+1:Nat):Int),([],()),l,()))) (v2 λd f _ _=>?_);rw[az p] at n q;simp only[i];rw[n9];simp only[fK,bp,decide_eq_true_eq];constructor
   ·rintro⟨h,g,m⟩;exact⟨h,g,U⟩
   rintro⟨h,g,m⟩;refine⟨h,g,?_⟩;by_cases z:d=a/\f=b
   ·rw[z.1,z.2,n] at g;cases g
   by_cases A:d=b/\f=a
   ·rw[A.1,A.2,q] at g;cases g
   omega
  ·simp(disch:=omega) only[B,br,ah]
  simp(disch:=omega) only[hP];refine congrArg (λl=>some (Sum.inl (((a+1:Nat):Int),([],()),l,()))) (v2 λd f _ _=>?_);simp only[i];rw[n9];simp only[fK,bp,decide_eq_true_eq];constructor
  ·rintro⟨h,g,m⟩;exact⟨h,g,U⟩
  rintro⟨h,g,m⟩;exact⟨h,g,U⟩
 ·simp(disch:=omega) only[br,ah]
 rw[Ie U];simp only[aG];have E:ha j (i j 0)=ha j (λd f=>decide (d≠f)&&oV e c d f):=(by refine bI λk s=>congrArg gK (sv λL x=>?_);have x:=fe.1 x;simp[i,s,x]);rw[E,<-o,S5 u (by simpa[o] using w)]
def PN (g:∀l∈e,l.length<4611686018427387904) (b:ad5) (j:e.length<=200->da e->e.length<=12) (k:b.length<4611686018427387904):xD ((e,()),b,())=some (if lg e b=0 then((hm (hX e b),()),0,()) else(([],()),lg e b,())):=by
 classical
 unfold xD;simp only[PL g b j k,aG,b0];by_cases a:lg e b=0
 ·rw[aB a,ai a];simp only[e3,cond_false];have f:gG e=0:=by
   by_cases d:gG e=0
   ·exact d
   unfold lg at a;rw[ai d] at a;exact absurd a d
  obtain⟨m,i⟩:=nE.1 f;have c:dY b e.length:=by
   unfold lg at a;rw[ah (not_not_intro f)] at a;by_cases h:b.length=e.length
   ·rw[ah (not_not_intro h)] at a;by_cases c:dY b e.length
    ·exact c
    rw[ah c] at a;omega
   rw[ai h] at a;omega
  rw[Tq i g c.2.1 (by have:=c.1;omega)];rfl
 rw[az a,ah a];rfl
end
def hb (E:List bD) (b c:Nat):Bool:=E.any λa=>decide (a.1≠a.2.1)&&((decide ((b:Int)=a.1)&&decide ((c:Int)=a.2.1))||(decide ((b:Int)=a.2.1)&&decide ((c:Int)=a.1)))
def ks (E:List bD) (b c:Nat):Bool:=E.any λa=>decide ((b:Int)=a.1)&&decide ((c:Int)=a.2.1)
def Ep {b:n->Bool} {E:List n} (c:a<E.length):(E.take (a+1)).any b=((E.take a).any b||b E[a]):=by rw[ir,a9 c,List.any_append];simp
def Ud (a:Nat) (d:Nat->Nat->Bool) (e:∀b c,d b c=false):(List.replicate a (List.replicate a false))=gX a d:=by unfold gX;rw[gU];refine bI λb _=>?_;rw[gU];exact bI λc _=>(e b c).symm
def Jc (c:b<a) (d:g<a):fx (gX a k) b g=k b g:=by unfold fx gX;rw[iO,iO,rr c];show(aw a (k b))[g]?.getD false=_;rw[rr d];rfl
def Kq (f:Nat) (d:Nat->Nat->Bool):hm (gX f d)=ha f λb c=>b !=c&&(d b c||d c b):=by unfold hm;rw[yL];refine bI λb e=>?_;unfold ld gK;congr 1;refine sv λc a=>?_;have a:=fe.1 a;rw[Jc e a,Jc a e]
def KT {E:List bD} (e f:Nat):(e !=f&&(ks E e f||ks E f e))=hb E e f:=by
 induction E with
 |nil=>simp[ks,hb]
 |cons h E g=>
  unfold ks hb at*;simp only[List.any_cons];rw[<-g,n9];simp only[bp,fK,bne_iff_ne,decide_eq_true_eq];constructor
  ·rintro⟨d,(⟨b,c⟩|a)|(⟨b,c⟩|a)⟩
   ·exact .inl ⟨U,.inl ⟨b,c⟩⟩
   ·exact .inr ⟨d,.inl a⟩
   ·exact .inl ⟨U,.inr ⟨c,b⟩⟩
   exact .inr ⟨d,.inr a⟩
  rintro(⟨d,⟨b,c⟩|⟨b,c⟩⟩|⟨d,a|a⟩)
  ·exact⟨U,.inl (.inl ⟨b,c⟩)⟩
  ·exact⟨U,.inr (.inl ⟨c,b⟩)⟩
  ·exact⟨d,.inl (.inr a)⟩
  exact⟨d,.inr (.inr a)⟩
def Pv (f:gn a a h c r) (o:eG a a h c r=0):xB (((a:Int),(a:Int),h,c,r,()),())=some ((ha a (hb (bv h c r a)),()),0,()):=by
 have l:=(iU.1 o).1;have u:=p3 l;have y:(bv h c r a).length<=10000:=(by rw[yl l a (Nat.le_refl _)];have:=l.oZ a (Nat.le_refl _);have:=f.hi;omega);unfold xB;refine aq f.check ?_;dsimp only;rw[o,b0,aB rfl,b0,aB rfl];have x:=f.hc;refine aq (Ii a U) (aq (Pq f o) ?_);dsimp only;generalize bv h c r a=E at*;refine ae.eq_iff.1 ?_;refine ae.aU (P:=λv=>v=(([],()),gX a (hb E),())) ?_ ?_
 ·refine ae.steps E.length (λb w=>w=((b:Int),([],()),gX a (hb (E.take b)),E,())) rfl ?_ ?_
  ·rintro b _ m rfl;dsimp only;rw[bo (aB (show(b:Int)<ay E by simp only[a1];omega)),jU m,bt U];have t:=u E[b] (List.getElem_mem m);obtain⟨d,p⟩:=Int.eq_ofNat_of_zero_le t.1;obtain⟨e,q⟩:=Int.eq_ofNat_of_zero_le t.2.2.1;have s:=If (n:=a) (B:=hb (E.take b)) (i:=d) (j:=e) U U;rw[<-p,<-q] at s;refine ae.bs s (ae.ag.2 ?_);dsimp only;have:gX a (λg k=>hb (E.take b) g k||(decide (d≠e)&&((decide (g=d)&&decide (k=e))||(decide (g=e)&&decide (k=d)))))=gX a (hb (E.take (b+1))):=by
    refine v2 λz A _ _=>?_;unfold hb;rw[Ep m,p,q];congr 1;rw[n9];simp only[bp,fK,decide_eq_true_eq];omega
   rw[this]
  rintro _ rfl;dsimp only;rw[bi (az (show¬((E.length:Int)<ay E) by simp only[a1];omega)),List.take_of_length_le (Nat.le_refl _)];exact ae.ag.2 rfl
 rintro _ rfl;dsimp only;exact ae.bs (Ie U) (ae.ag.2 rfl)
def No (k:gn a a h c i) (o:eG a a h c i=0):rh (((a:Int),(a:Int),h,c,i,()),())=some ((ha a (hb (bv h c i a)),()),0,()):=by
 have l:=(iU.1 o).1;have u:=p3 l;have A:(bv h c i a).length<=10000:=(by rw[yl l a (Nat.le_refl _)];have:=l.oZ a (Nat.le_refl _);have:=k.hi;omega);unfold rh;refine aq k.uh ?_;dsimp only;rw[o,b0,aB rfl,b0,aB rfl];have z:=k.hc;refine aq (JY a U) (aq (Nm k o) ?_);dsimp only;generalize bv h c i a=E at*;refine ae.eq_iff.1 ?_;refine ae.aU (P:=λx=>x=(([],()),gX a (ks E),())) ?_ ?_
 ·refine ae.steps E.length (λe y=>y=((e:Int),([],()),gX a (ks (E.take e)),())) ?_ ?_ ?_
  ·rw[Ud a (ks (E.take 0)) λb d=>rfl];rfl
  ·rintro e _ g rfl;dsimp only;rw[bo (aB (show(e:Int)<ay E by simp only[a1];omega)),bt U];have t:=u E[e] (List.getElem_mem g);obtain⟨f,m⟩:=Int.eq_ofNat_of_zero_le t.1;obtain⟨j,n⟩:=Int.eq_ofNat_of_zero_le t.2.2.1;have r:f<a:=U;have v:j<a:=U;refine ae.bs (bQ g) ?_;rw[m];refine ae.bs (dd (by rw[yL];omega)) (ae.bs (bQ g) ?_);rw[n];unfold gX;rw[dn r,Option.bind_some];refine ae.bs (dd (by rw[bk];omega)) ?_;rw[dn r,dn v,e9,Option.map_some,Option.bind_some,e9];refine ae.ag.2 ?_;have:aw a (bU (λb=>aw a (ks (E.take e) b)) f (aw a (bU (ks (E.take e) f) j true)))=aw a λb=>aw a (ks (E.take (e+1)) b):=by
    refine bI λb B=>?_;by_cases p:b=f
    ·subst p;rw[ei];refine bI λd w=>?_;unfold ks;rw[Ep g,m,n];by_cases q:d=j
     ·subst q;rw[ei];simp
     rw[ew _ _ q,az (U:¬((d:Int)=(j:Int)))];simp
    rw[ew _ _ p];refine bI λd w=>?_;unfold ks;rw[Ep g,m,n,az (U:¬((b:Int)=(f:Int)))];simp
   rw[this]
  rintro _ rfl;dsimp only;rw[bi (az (show¬((E.length:Int)<ay E) by simp only[a1];omega)),List.take_of_length_le (Nat.le_refl _)];exact ae.ag.2 rfl
 rintro _ rfl;dsimp only;refine ae.bs (Ib _ (λC s=>?_) (by rw[yL];omega)) (ae.ag.2 ?_)
 ·rw[yL];unfold gX aw at s;obtain⟨b,_,rfl⟩:=de.1 s;simp
 dsimp only;rw[Kq];have:(λb d=>b !=d&&(ks E b d||ks E d b))=hb E:=(by funext b d;exact KT b d);rw[this]
section
open Go
def hu (b:ad5) (a:Nat):Nat:=(b.getD a 0).toNat
def dY.get {n:Nat} (d:dY c n) (f:a<n):aC c (a:Int)=some ((hu c a:Nat):Int)/\hu c a<n:=by have b:a<c.length:=(by rw[d.1];exact f);have g:=d.2.1 _ (bA b);have e:hu c a=c[a].toNat:=(by unfold hu;rw[mi b]);exact⟨by rw[eC (a9 b),e];congr 1;omega,U⟩
theorem dY.inj (d:dY c g) (i:a<g) (j:b<g) (e:hu c a=hu c b):a=b:=by have f:a<c.length:=(by rw[d.1];exact i);have h:b<c.length:=(by rw[d.1];exact j);have k:=d.2.1 _ (bA f);have l:=d.2.1 _ (bA h);unfold hu at e;rw[mi f,mi h] at e;exact(List.getElem_inj d.2.2).1 U
end
section
open Go
section
variable {aD:adU} (B:da aD) {o:ad5} (A:dY o aD.length)
include B A
theorem UJ (f:a<aD.length) (g:b<aD.length):c9 (hm (hX aD o)) a b↔c9 aD (hu o a) (hu o b):=by have d:a<o.length:=(by rw[A.1];exact f);have e:b<o.length:=(by rw[A.1];exact g);rw[PI B A.2.1 A.2.2];unfold hu;rw[mi d,mi e];exact⟨λ⟨_,_,c⟩=>c,λc=>⟨d,e,c⟩⟩
end
end
section
open Go
def UV:∀{n:Nat} {a:ad4},a.Nodup->(∀b∈a,b<n)->a.length<=n:=by
 intro n
 induction n with
 |zero=>intro a _ c;cases a with
  |nil=>exact a2 _
  |cons h a=>exact absurd (c h (jB ..)) U
 |succ n l=>
  intro a e c;have j:(a.erase n).Nodup:=e.erase n;have k:∀b∈a.erase n,b<n:=λb g=>(by have d:=c b (List.mem_of_mem_erase g);have m:b≠n:=λi=>(by subst i;exact(e.mem_erase_iff.1 g).1 rfl);omega);have d:=l j k;by_cases f:n∈a
  ·rw[List.length_erase_of_mem f] at d;omega
  rw[List.erase_of_not_mem f] at d;omega
def Uo {b:ad4}:(a:Int)∈gK b↔a∈b:=by
 unfold gK;rw[de];constructor
 ·rintro⟨e,d,f⟩;obtain rfl:e=a:=U;exact d
 exactλc=>⟨a,c,rfl⟩
section
variable {aD:adU} (A:da aD)
include A
end
end
section
open Go
def B2 (aD:adU) (a:Int):Nat:=(aD.getD a.toNat []).length
section
variable {aD:adU} (A:da aD) (B:aD.length<=200)
include A B
end
end
section
open Go
def Lf (a:adU) (b c:Int):Prop:=B2 a b<B2 a c\/(B2 a b=B2 a c/\b<c)
instance(a:adU) (b c:Int):Decidable (Lf a b c):=by unfold Lf;exact inferInstance
end
section
open Go
def fI (o:ad5) (a:Nat):Nat:=o.idxOf (a:Int)
section
variable {o:ad5} {n:Nat} (A:dY o n)
include A
theorem dY.mem (p:a<n):(a:Int)∈o:=by
 apply DX;intro m;obtain⟨w,b,i⟩:=A;have h:o=gK (o.map Int.toNat):=by
  unfold gK;rw[sy]
  conv=>lhs;rw[<-List.map_id o]
  refine h3 λg c=>?_;have:=b g c;simp only[id,Function.comp];omega
 have j:(o.map Int.toNat).Nodup:=(by rw[List.nodup_iff_pairwise_ne,sz];refine(gj.2 λr s e f k=>?_);have u:=b _ (bA e);have v:=b _ (bA f);have:=gj.1 (List.nodup_iff_pairwise_ne.1 i) r s e f k;omega);have l:a∉o.map Int.toNat:=λc=>m (by rw[h];exact Uo.2 c);have:=UV (n:=n) (jC.2 ⟨l,j⟩) (λg d=>by
  rcases dx.1 d with rfl|d
  ·exact p
  obtain⟨t,q,rfl⟩:=de.1 d;have:=b t q;omega)
 rw[im,gE] at this;omega
theorem dY.pos (d:a<n):fI o a<n/\hu o (fI o a)=a:=by have c:=A.mem d;have b:fI o a<o.length:=List.idxOf_lt_length_iff.2 c;refine⟨by rw[<-A.1];exact b,?_⟩;unfold hu;rw[mi b,show o[fI o a]=(a:Int) from List.getElem_idxOf b];simp
theorem dY.Dd (b:a<n):fI o (hu o a)=a:=by have c:=(A.get b).2;obtain⟨d,e⟩:=A.pos c;exact A.inj d b e
end
section
variable {aD:adU} (B:da aD) {o:ad5} (A:dY o aD.length)
include B A
end
end
def kQ (E:List bD) (b c:Int):Int:=match E.find? λa=>decide (a.1=b)&&decide (a.2.1=c) with
 |some a=>a.2.2.1
 |none=>0
def R6 {E:List bD} (e:E.Pairwise fL) {b:bD} (h:s∈E) (i:b∈E) (j:s.1=b.1) (k:s.2.1=b.2.1):s=b:=by
 obtain⟨c,f,rfl⟩:=fC.1 h;obtain⟨d,g,rfl⟩:=fC.1 i;rcases kX c d with a|a|a
 ·have:=gj.1 e c d f g a;unfold fL at this;omega
 ·subst a;rfl
 have:=gj.1 e d c g f a;unfold fL at this;omega
def OX {E:List bD} (f:E.Pairwise fL) (d:s∈E):kQ E s.1 s.2.1=s.2.2.1:=by
 unfold kQ;cases a:E.find? λc=>decide (c.1=s.1)&&decide (c.2.1=s.2.1) with
 |none=>
  have:=List.find?_eq_none.1 a s d;simp at this
 |some c=>
  have b:=List.find?_some a;have e:=List.mem_of_find?_eq_some a;simp only[Bool.and_eq_true,decide_eq_true_eq] at b;dsimp only;rw[R6 f e d b.1 b.2]
def OY {E:List bD} (b:∀a∈E,¬(a.1=f/\a.2.1=p)):kQ E f p=0:=by unfold kQ;rw[List.find?_eq_none.2];intro a c;have:=b a c;simpa using this
def OZ {E:List bD} (f:(E++[s]).Pairwise fL) (b c:Int):kQ (E++[s]) b c=if s.1=b/\s.2.1=c then s.2.2.1 else kQ E b c:=by
 by_cases a:s.1=b/\s.2.1=c
 ·rw[ai a,<-a.1,<-a.2,OX f ac]
 rw[ah a];unfold kQ;have e:List.find? (λd:bD=>decide (d.1=b)&&decide (d.2.1=c)) [s]=none:=(by refine List.find?_eq_none.2 λd g=>?_;obtain rfl:=eI.1 g;simpa using a);rw[List.find?_append,e,Option.or_none]
def aaj {E:List bD} (e:∀f∈E,ez f.2.2.1) (b c:Int):ez (kQ E b c):=by
 unfold kQ;cases d:E.find? λa=>decide (a.1=b)&&decide (a.2.1=c) with
 |none=>exact⟨aa,aa⟩
 |some a=>exact e a (zW d)
def aak {E:List bD} (e:∀f∈E,bG f.2.2.1≠2047) (b c:Int):bG (kQ E b c)≠2047:=by
 unfold kQ;cases d:E.find? λa=>decide (a.1=b)&&decide (a.2.1=c) with
 |none=>show bG 0≠2047;decide
 |some a=>exact e a (zW d)
def Lq (j:eB g b c h i) (m:a<b):s∈bv c h i b/\s.2.1=(a:Int)↔∃d:Nat,c.getD a 0<=(d:Int)/\(d:Int)<c.getD (a+1) 0/\s=(h.getD d 0,(a:Int),i.getD d 0,()):=by
 have t:=j.pos a U;have u:=j.pos (a+1) U;constructor
 ·rintro⟨e,k⟩;obtain⟨f,q,e⟩:=yO.1 e;obtain⟨n,r,rfl⟩:=tR.1 e;have l:f=a:=(by dsimp only at k;omega);subst l;exact⟨(c.getD f 0).toNat+n,U,U,rfl⟩
 rintro⟨d,o,p,rfl⟩;refine⟨yO.2 ⟨a,m,tR.2 ⟨d-(c.getD a 0).toNat,U,?_⟩⟩,rfl⟩;rw[(U:(c.getD a 0).toNat+(d-(c.getD a 0).toNat)=d)]
def Nl (r:gn g b h c i) (v:eG g b h c i=0) (n:Int) (q:a<b):re (((g:Int),(b:Int),h,c,i,()),n,(a:Int),())=some (kQ (bv h c i b) n (a:Int),()):=by
 have f:=(iU.1 v).1;have C:=f.pos a U;have D:=f.pos (a+1) U;have K:=f.oZ (a+1) U;have L:=f.val;have I:=f.mono a q;have H:=f.len;have G:=r.hi;have z:=p4 f b (a2 _);have F:=r.hc;unfold re;refine aq (y:=.inl ()) ?_ ?_
 ·refine aq r.uh ?_;dsimp only;rw[v,b0,aB rfl,az (U:¬((a:Int)<0)),az (U:¬((a:Int)>=(b:Int)))];rfl
 dsimp only;rw[fA (U:a<h.length),Option.bind_some];refine ae.eq_iff.1 ?_;obtain⟨e,B⟩:=Int.eq_ofNat_of_zero_le C;obtain⟨k,A⟩:=Int.eq_ofNat_of_zero_le D;have x:aC h (aY (a:Int))=some (k:Int):=(by rw[bt U,fA U,A]);rw[x,B];refine ae.aU (P:=λt=>(t=.inl ()/\∀d:Nat,e<=d->d<k->c.getD d 0≠n)\/∃d:Nat,e<=d/\d<k/\c.getD d 0=n/\t=.inr (i.getD d 0,())) ?_ ?_
 ·refine ae.steps (k-e) (λj E=>E=(((e+j:Nat):Int),())/\∀d:Nat,e<=d->d<e+j->c.getD d 0≠n) ⟨rfl,λd l o=>absurd o U⟩ ?_ ?_
  ·rintro j _ J ⟨rfl,p⟩;dsimp only;rw[Option.bind_some,bo (aB (U:((e+j:Nat):Int)<(k:Int)))];refine ae.bs (fA U) ?_;by_cases m:c.getD (e+j) 0=n
   ·rw[bo (by rw[m];simp)];refine ae.bs (fA U) (ae.ag.2 ?_);exact .inr ⟨e+j,U,U,m,rfl⟩
   rw[bi (by simpa using m),bt U];refine ae.ag.2 ⟨rfl,λd l o=>?_⟩;rcases bg d (e+j) with u|u
   ·exact p d l u
   obtain rfl:d=e+j:=U;exact m
  rintro _ ⟨rfl,p⟩;dsimp only;rw[Option.bind_some,bi (az (U:¬(((e+(k-e):Nat):Int)<(k:Int))))];exact ae.ag.2 (.inl ⟨rfl,λd l o=>p d l U⟩)
 rintro t (⟨rfl,p⟩|⟨d,l,o,m,rfl⟩)
 ·refine ae.ag.2 ?_;rw[OY];intro M s w;obtain⟨d,l,o,rfl⟩:=(Lq f q).1 ⟨s,w.2⟩;exact p d U U w.1
 refine ae.ag.2 ?_;have s:=((Lq f q).2 ⟨d,U,U,rfl⟩).1;have:=OX z s;dsimp only at this;rw[m] at this;rw[this]
def X9 (D:a<=10000) (E:c.length<=1000000):BV (c,(a:Int),())=some (open Classical in decide (dY c a),()):=by
 classical
 unfold BV;dsimp only;by_cases m:c.length=a
 ·rw[bi (by rw[b0,aB (show ay c=(a:Int) by rw[a1,m])];rfl)];refine aq (fU U) ?_;refine ae.eq_iff.1 ?_;refine ae.aU (P:=λo=>(o=.inl ()/\dY c a)\/(o=.inr (false,())/\¬dY c a)) ?_ ?_
  ·refine ae.steps a (λb y=>y=((b:Int),aw a (λd=>decide ((d:Int)∈c.take b)),())/\(∀f∈c.take b,0<=f/\f<(a:Int))/\(c.take b).Nodup) ?_ ?_ ?_
   ·refine⟨?_,ac,ac⟩;rw[gU];simp
   ·rintro b _ C ⟨rfl,i,j⟩;dsimp only;rw[bo (aB (U:(b:Int)<(a:Int))),bQ (U:b<c.length)];have s:c[b]'(by omega)∈c:=List.getElem_mem _
    have n:c.take (b+1)=c.take b++[c[b]'(by omega)]:=by rw[ir,a9 U];rfl
    have k:∀f,f∈c.take (b+1)↔f∈c.take b\/f=c[b]'(by omega):=λf=>by rw[n,eN,eI]
    have w:(c.take (b+1)).Sublist c:=List.take_sublist _ _;generalize G:c[b]'(by omega)=d at*
    simp only[aG];by_cases q:d<0
    ·rw[bi (show(decide (d<0)==false)=false by rw[aB q];rfl)];refine ae.ag.2 (.inr ⟨rfl,λg=>?_⟩);have:=g.2.1 d s;omega
    rw[bo (show(decide (d<0)==false)=true by rw[az q];rfl)];by_cases r:d>=(a:Int)
    ·rw[bi (show(decide (d>=(a:Int))==false)=false by rw[aB r];rfl)];refine ae.ag.2 (.inr ⟨rfl,λg=>?_⟩);have:=g.2.1 d s;omega
    rw[bo (show(decide (d>=(a:Int))==false)=true by rw[az r];rfl)];obtain⟨p,rfl⟩:=eH (U:0<=d);rw[jU (by rw[bk];omega),fD];by_cases h:(p:Int)∈c.take b
    ·rw[bo (aB h)];refine ae.ag.2 (.inr ⟨rfl,λg=>?_⟩);have:=List.Nodup.sublist w g.2.2;rw[n,iq] at this;exact this.2.2 _ h _ (eI.2 rfl) rfl
    rw[bi (az h)];simp only[aG];rw[jZ (by rw[bk];omega),e9];refine ae.ag.2 ⟨?_,?_,?_⟩
    ·rw[bt U];have:aw a (bU (λd=>decide ((d:Int)∈c.take b)) p true)=aw a (λd=>decide ((d:Int)∈c.take (b+1))):=by
      refine bI λz F=>?_;by_cases l:z=p
      ·subst l;rw[ei,aB ((k _).2 (.inr rfl))]
      rw[ew _ _ l];refine decide_eq_decide.2 ⟨λe=>(k _).2 (.inl e),λe=>((k _).1 e).resolve_right λe=>l U⟩
     rw[this]
    ·intro f x;rcases(k f).1 x with e|e
     ·exact i f e
     subst e;omega
    rw[n,iq];refine⟨j,ac,λA u B v t=>?_⟩;obtain rfl:=eI.1 v;exact h (t▸u)
   rintro _ ⟨rfl,i,j⟩;dsimp only;rw[bi (az (U:¬((a:Int)<(a:Int))))];rw[List.take_of_length_le U] at i j;exact ae.ag.2 (.inl ⟨rfl,m,i,j⟩)
  rintro o (⟨rfl,e⟩|⟨rfl,e⟩)
  ·refine ae.ag.2 ?_;rw[aB e]
  refine ae.ag.2 ?_;rw[az e]
 rw[bo (by rw[b0,az (show¬(ay c=(a:Int)) by rw[a1];omega)];rfl),az (λe=>m e.1)]
def Dj (g:gn a b h c i) (j:r.length<=1000000):yh (((a:Int),(b:Int),h,c,i,()),r,())=some (open Classical in if eG a b h c i≠0 then eG a b h c i else if a≠b then 5 else if dY r a then 0 else 90,()):=by
 classical
 unfold yh;refine aq g.uh ?_;dsimp only;have k:=g.hr;by_cases e:eG a b h c i=0
 ·rw[e,b0,aB rfl,ah (not_not_intro rfl)];by_cases f:a=b
  ·subst f;rw[b0,aB rfl,if_neg (not_not_intro rfl)];refine aq (X9 U j) ?_;dsimp only;by_cases d:dY r a
   ·rw[aB d,ai d];rfl
   rw[az d,ah d];rfl
  rw[b0,az (U:¬((a:Int)=(b:Int))),ai f];rfl
 rw[b0,az e,ai e];rfl
def XQ (g:a<c.length) (f:c[a]=(b:Int)) (e:(b:Int)∉c.take a):fI c b=a:=by unfold fI;have d:c=c.take a++(c[a]::c.drop (a+1)):=(by rw[List.getElem_cons_drop,kW]);rw[d,List.idxOf_append,ah e,f,List.idxOf_cons_self,dZ];omega
def Nc (H:a<=10000) (I:c.length<=1000000):B1 (c,(a:Int),())=some (open Classical in if dY c a then(aw a (λb=>(fI c b:Int)),true,()) else([],false,())):=by
 classical
 unfold B1;dsimp only;by_cases p:c.length=a
 ·rw[bi (by rw[b0,aB (show ay c=(a:Int) by rw[a1,p])];rfl)];refine aq (fU U) (aq (fU U) ?_);refine ae.eq_iff.1 ?_;refine ae.aU (P:=λr=>(r=.inl (aw a (λb=>(fI c b:Int)),())/\dY c a)\/(r=.inr ([],false,())/\¬dY c a)) ?_ ?_
  ·refine ae.steps a (λd D=>D=((d:Int),aw a (λb=>if(b:Int)∈c.take d then(fI c b:Int) else 0),aw a (λb=>decide ((b:Int)∈c.take d)),())/\(∀g∈c.take d,0<=g/\g<(a:Int))/\(c.take d).Nodup) ?_ ?_ ?_
   ·refine⟨?_,ac,ac⟩;rw[gU,gU];simp
   ·rintro d _ G ⟨rfl,n,o⟩;dsimp only;rw[bo (aB (show(d:Int)<ay c by rw[a1];omega)),bQ (U:d<c.length)];have u:c[d]'(by omega)∈c:=List.getElem_mem _
    have q:c.take (d+1)=c.take d++[c[d]'(by omega)]:=by rw[ir,a9 U];rfl
    have j:∀g,g∈c.take (d+1)↔g∈c.take d\/g=c[d]'(by omega):=λg=>by rw[q,eN,eI]
    have A:(c.take (d+1)).Sublist c:=List.take_sublist _ _;have z:∀f:Nat,c[d]'(by omega)=(f:Int)->(f:Int)∉c.take d->fI c f=d:=λf=>XQ U
    generalize v:c[d]'(by omega)=b at*
    simp only[aG];by_cases s:b<0
    ·rw[bi (show(decide (b<0)==false)=false by rw[aB s];rfl)];refine ae.ag.2 (.inr ⟨rfl,λh=>?_⟩);have:=h.2.1 b u;omega
    rw[bo (show(decide (b<0)==false)=true by rw[az s];rfl)];by_cases t:b>=(a:Int)
    ·rw[bi (show(decide (b>=(a:Int))==false)=false by rw[aB t];rfl)];refine ae.ag.2 (.inr ⟨rfl,λh=>?_⟩);have:=h.2.1 b u;omega
    rw[bo (show(decide (b>=(a:Int))==false)=true by rw[az t];rfl)];obtain⟨f,rfl⟩:=eH (U:0<=b);rw[jU (by rw[bk];omega),fD];by_cases l:(f:Int)∈c.take d
    ·simp only[aG];rw[bo (aB l)];refine ae.ag.2 (.inr ⟨rfl,λh=>?_⟩);have:=List.Nodup.sublist A h.2.2;rw[q,iq] at this;exact this.2.2 _ l _ (eI.2 rfl) rfl
    simp only[aG];rw[bi (az l)];simp only[aG];rw[jZ (by rw[bk];omega),e9,jZ (by rw[bk];omega),e9];refine ae.ag.2 ⟨?_,?_,?_⟩
    ·rw[bt U];have:aw a (bU (λb=>decide ((b:Int)∈c.take d)) f true)=aw a (λb=>decide ((b:Int)∈c.take (d+1))):=by
      refine bI λk B=>?_;by_cases i:k=f
      ·subst i;rw[ei,aB ((j _).2 (.inr rfl))]
      rw[ew _ _ i];refine decide_eq_decide.2 ⟨λe=>(j _).2 (.inl e),λe=>((j _).1 e).resolve_right λe=>i U⟩
     rw[this];have:aw a (bU (λb=>if(b:Int)∈c.take d then(fI c b:Int) else 0) f (d:Int))=aw a (λb=>if(b:Int)∈c.take (d+1) then(fI c b:Int) else 0):=by
      refine bI λk B=>?_;by_cases i:k=f
      ·subst i;rw[ei,ai ((j _).2 (.inr rfl)),z k rfl l]
      rw[ew _ _ i];have:(k:Int)∈c.take (d+1)↔(k:Int)∈c.take d:=⟨λe=>((j _).1 e).resolve_right λe=>i U,λe=>(j _).2 (.inl e)⟩;by_cases m:(k:Int)∈c.take d
      ·rw[ai m,ai (this.2 m)]
      rw[ah m,ah λe=>m (this.1 e)]
     rw[this]
    ·intro g C;rcases(j g).1 C with e|e
     ·exact n g e
     subst e;omega
    rw[q,iq];refine⟨o,ac,λE x F y w=>?_⟩;obtain rfl:=eI.1 y;exact l (w▸x)
   rintro _ ⟨rfl,n,o⟩;dsimp only;rw[bi (az (show¬((a:Int)<ay c) by rw[a1];omega))];rw[List.take_of_length_le U] at n o|-;have h:dY c a:=⟨p,n,o⟩;refine ae.ag.2 (.inl ⟨?_,h⟩);have:aw a (λb=>if(b:Int)∈c then(fI c b:Int) else 0)=aw a (λb=>(fI c b:Int)):=bI λb v=>if_pos (h.mem v);rw[this]
  rintro r (⟨rfl,e⟩|⟨rfl,e⟩)
  ·refine ae.ag.2 ?_;rw[ai e]
  refine ae.ag.2 ?_;rw[ah e]
 rw[bo (by rw[b0,az (show¬(ay c=(a:Int)) by rw[a1];omega)];rfl),ah (λe=>p e.1)]
def jX (a b:Nat) (d c e f:ad5):Int:=open Classical in if eG a b d c e≠0 then eG a b d c e else if a≠b then 5 else if dY f a then 0 else 90
def Hz (d:jX a b i c r h=0):eG a b i c r=0/\a=b/\dY h a:=by
 unfold jX at d;split at d
 ·contradiction
 rename_i e;split at d
 ·cases d
 rename_i f;split at d
 ·rename_i g;exact⟨Classical.not_not.1 e,Classical.not_not.1 f,g⟩
 cases d
def PJ (j:gn a b i c r) (k:h.length<=1000000) (d:jX a b i c r h≠0):rj (((a:Int),(b:Int),i,c,r,()),h,())=some (none,jX a b i c r h,()):=by
 classical
 unfold rj;unfold jX at d|-;refine aq j.check ?_;dsimp only;have l:=j.hr;by_cases e:eG a b i c r=0
 ·rw[ah (not_not_intro e)] at d|-;rw[bi (by rw[e];rfl)];by_cases g:a=b
  ·subst g;rw[ah (not_not_intro rfl)] at d|-;rw[bi (by rw[b0,aB rfl];rfl)];refine aq (Nc U k) ?_;by_cases f:dY h a
   ·exact absurd (ai f) d
   rw[ah f,ah f];rfl
  rw[ai g,bo (by rw[b0,az (U:¬((a:Int)=(b:Int)))];rfl)]
 rw[ai e,bo (by rw[b0,az e];rfl)]
def gb (a:Nat) (E:List bD) (b:ad5):adU:=hm (hX (ha a (hb E)) b)
def FK (a:Nat) (b:Nat->Nat->Bool):∀d∈ha a b,d.length<=a:=by intro d c;unfold ha aw at c;obtain⟨e,_,rfl⟩:=de.1 c;rw[wc];have:=ip (b e) (List.range a);simpa using this
def tB (a:Nat) (b:Nat->Nat->Bool):(ha a b).length=a:=bk _ _
def Kw (c:Nat) (E:List bD):ha c (hb E)=hm (gX c (ks E)):=by rw[Kq];have:(λa b=>a !=b&&(ks E a b||ks E b a))=hb E:=(by funext a b;exact KT a b);rw[this]
def Na (e:a<=5) {E:List bD} (b:dY c a):lg (ha a (hb E)) c=0:=by unfold lg;have d:gG (ha a (hb E))=0:=nE.2 ⟨by rw[tB];omega,by rw[Kw];exact Cl _⟩;rw[ah (not_not_intro d),ah (not_not_intro (by rw[tB];exact b.1)),tB,ai b]
def PO (e:a<=5) {E:List bD} (b:dY c a):xD ((ha a (hb E),()),c,())=some ((gb a E c,()),0,()):=by rw[PN (λf d=>by have:=FK a _ f d;omega) c (λ_ _=>by rw[tB];omega) (by rw[b.1];omega),ai (Na e b)];rfl
def Np (d:a<=5) {E:List bD} (e:dY c a):p0 ((ha a (hb E),()),c,())=some ((gb a E c,()),0,()):=by rw[Hg (λf b=>by have:=FK a _ f b;omega) c,ai (Na d e)];rfl
def rA {E:List bD} (b:dY c a):(gb a E c).length=a:=by unfold gb;rw[FF,oW,b.1]
def tD (a:Nat) (E:List bD) (b:ad5):da (gb a E b):=Cl _
def yx (f:a<=5) {E:List bD} (e:dY c a):∀b∈gb a E c,b.length<4611686018427387904:=λb d=>by have:=SW _ b d;rw[oW,e.1] at this;omega
def G7 (e:a<=5) (m:gn a a h c i) (d:eG a a h c i=0) (u:dY r a):yg (((a:Int),(a:Int),h,c,i,()),r,())=some ((gb a (dq (bv h c i a)) r,()),()):=by have b:=(iU.1 d).1;have o:=(iU.1 d).2;have j:=p4 b a (a2 _);have k:=p3 b;have v:=yJ e (o1 j) (o0 k) yI;have p:=oQ b m.hw;have q:=oQ b (Ch o);unfold yg;refine aq (G8 e m d) ?_;have n:=o1 j;have l:=o0 k;have t:=Hy (rows:=a) (jI:=a) (E:=dq (bv h c i a)) U U U (λg f=>p g (eY.1 f).1);have s:=EG n l (λg f=>q g (eY.1 f).1);have:=No t s;rw[Fj n l] at this;refine aq this ?_;exact aq (Np e u) rfl
def PB (s:a<=5) (q:gn a a h c i) (k:eG a a h c i=0):xB (qi a a (dq (bv h c i a)),())=some ((ha a (hb (dq (bv h c i a))),()),0,()):=by have b:=(iU.1 k).1;have m:=(iU.1 k).2;have f:=p4 b a (a2 _);have g:=p3 b;have t:=yJ s (o1 f) (o0 g) yI;have n:=oQ b q.hw;have o:=oQ b (Ch m);have l:=o1 f;have j:=o0 g;have r:=Hy (rows:=a) (jI:=a) (E:=dq (bv h c i a)) U U U (λe d=>n e (eY.1 d).1);have p:=EG l j (λe d=>o e (eY.1 d).1);have:=Pv r p;rw[Fj l j] at this;exact this
def lH:bX:=(false,((false,([],())),((0:Int),())))
def JQ:lH=a8 (some 0):=by rw[gT];rfl
def rV:dJ 0=some 0:=by decide
def yK {k:Type}:∀(j:List (Int×k)) (c:Int) (e:k) (b:Int),ev (ht j c e) b=if b=c then some e else ev j b
 |[],c,e,b=>by
  show(if c=b then some e else none)=_;by_cases d:b=c
  ·rw[ai d,ai d.symm]
  rw[ah d,ah (λf=>d f.symm)];rfl
 |(a,u)::r,c,e,b=>by
  unfold ht;by_cases h:c<a
  ·rw[ai h];show(if c=b then some e else ev ((a,u)::r) b)=_;by_cases d:b=c
   ·rw[ai d,ai d.symm]
   rw[ah d,ah (λf=>d f.symm)]
  rw[ah h];by_cases i:c=a
  ·rw[ai i];show(if c=b then some e else ev r b)=_;by_cases d:b=c
   ·rw[ai d,ai d.symm]
   rw[ah d,ah (λf=>d f.symm)];show _=(if a=b then some u else ev r b);rw[ah U]
  rw[ah i];show(if a=b then some u else ev (ht r c e) b)=_;rw[yK r c e b];show _=if b=c then some e else(if a=b then some u else ev r b)
  by_cases g:a=b
  ·rw[ai g,ah U,ai g]
  rw[ah g,ah g]
abbrev g5:=Option (List (Int×bX)×Nat)
variable{q:List g5}
def hK (a b:Int):Int:=if b>a then b else a
def hp (a b:Int):Int:=if b<a then b else a
def be (E:List bD) (a:ad5) (b c:Nat):adZ:=dJ (kQ E (hK (a.getD b 0) (a.getD c 0)) (hp (a.getD b 0) (a.getD c 0)))
def J4 (E:List bD) (a:ad5) (b c:Nat):be E a b c=be E a c b:=by unfold be;rw[show hK (a.getD b 0) (a.getD c 0)=hK (a.getD c 0) (a.getD b 0) by unfold hK;split<;>split<;>omega,show hp (a.getD b 0) (a.getD c 0)=hp (a.getD c 0) (a.getD b 0) by unfold hp;split<;>split<;>omega]
structure iQ (n:Nat) (o:ad5) (D:List bD) (M:List g5):Prop where
 len:M.length=n
 get:∀p,p<n->∃l c,M[p]?=some (some (l,c))/\∀q,q<n->p<=q->(ev l (q:Int)).getD lH=a8 (be D o p q)
def iQ.nil:iQ a c [] (aw a λ_=>some ([],0)) where
 len:=bk _ _
 get:=λd b=>⟨[],0,rr b,λe _ _=>by
  show lH=a8 (dJ 0);rw[rV,JQ]⟩
def r0 (e:dY c b) (f:a<b):c.getD a 0=(hu c a:Int)/\hu c a<b:=by have d:a<c.length:=(by rw[e.1];exact f);have:=e.2.1 c[a] (bA d);unfold hu;rw[jN d];omega
def XR {i:Nat} (e:dY c i) (r:o<i) (q:a<i) (u:a<=o) (k:b<i) (l:g<i) (v:b<=g):(hp (fI c o:Int) (fI c a:Int)=(b:Int)/\hK (fI c o:Int) (fI c a:Int)=(g:Int))↔(o:Int)=hK (c.getD b 0) (c.getD g 0)/\(a:Int)=hp (c.getD b 0) (c.getD g 0):=by
 obtain⟨s,w⟩:=r0 e k;obtain⟨ax,x⟩:=r0 e l;obtain⟨y,p⟩:=e.pos r;obtain⟨t,j⟩:=e.pos q;have m:=e.Dd k;have n:=e.Dd l;rw[s,ax];constructor
 ·rintro⟨f,h⟩;have:(fI c o=b/\fI c a=g)\/(fI c o=g/\fI c a=b):=by
   unfold hp at f;unfold hK at h;split at f<;>split at h<;>omega
  rcases this with⟨al,d⟩|⟨al,d⟩
  ·rw[al] at p;rw[d] at j;unfold hK hp;split<;>split<;>omega
  rw[al] at p;rw[d] at j;unfold hK hp;split<;>split<;>omega
 rintro⟨f,h⟩;have:(o=hu c b/\a=hu c g)\/(o=hu c g/\a=hu c b):=(by unfold hp at h;unfold hK at f;split at f<;>split at h<;>omega);rcases this with⟨al,d⟩|⟨al,d⟩
 ·rw[al,d,m,n];unfold hK hp;split<;>split<;>omega
 rw[al,d,m,n];unfold hK hp;split<;>split<;>omega
def iQ.skip (b:iQ a c t q) (l:(t++[s]).Pairwise fL) (p:s.1<s.2.1):iQ a c (t++[s]) q where
 len:=b.len
 get:=λn i=>by obtain⟨m,f,g,h⟩:=b.get n i;refine⟨m,f,g,λo k j=>?_⟩;rw[h o k j];unfold be;rw[OZ l,ah];rintro⟨d,e⟩;unfold hK at d;unfold hp at e;split at d<;>split at e<;>omega
def iQ.add (D:dY c o) (e:iQ o c t q) {l:Nat} (F:(t++[((g:Int),(a:Int),f,())]).Pairwise fL) (E:g<o) (y:a<o) (z:a<=g) (B:(b:Int)=hp (fI c g:Int) (fI c a:Int)) (A:(l:Int)=hK (fI c g:Int) (fI c a:Int)) {G H:Nat} (u:q[b]?=some (some (x,G))):iQ o c (t++[((g:Int),(a:Int),f,())]) (q.set b (some (ht x (l:Int) (a8 (dJ f)),H))) where
 len:=by rw[nv,e.len]
 get:=λh p=>by
  have C:b<q.length:=(eT.1 u).1;have v:∀d,d<o->h<=d->a8 (be (t++[((g:Int),(a:Int),f,())]) c h d)=if b=h/\l=d then a8 (dJ f) else a8 (be t c h d):=by
   intro d k j;have:=XR D E y z p k j;unfold be;rw[OZ F];rw[<-B,<-A] at this;by_cases i:b=h/\l=d
   ·rw[ai i,ai (this.1 ⟨U,U⟩)]
   rw[ah i,ah (λe=>i (by have:=this.2 e;omega))]
  by_cases i:h=b
  ·subst i;refine⟨_,_,kV C,λd k j=>?_⟩;rw[yK,v d k j];by_cases s:l=d
   ·subst s;rw[ai rfl,ai ⟨rfl,rfl⟩];rfl
   rw[ah U,ah (λe=>s e.2)];obtain⟨w,r,m,n⟩:=e.get h p;rw[u] at m;cases m;exact n d k j
  obtain⟨w,r,m,n⟩:=e.get h p;refine⟨w,r,?_,λd k j=>?_⟩
  ·rw[lZ (λe=>i e.symm),m]
  rw[v d k j,ah (λe=>i e.1.symm),n d k j]
def X4 (k:gn a a i h r) (j:eG a a i h r=0) (e:dY c a) (o:b<a) (p:g<a):BT (((a:Int),(a:Int),i,h,r,()),c,(b:Int),(g:Int),())=some (a8 (be (bv i h r a) c b g),()):=by
 obtain⟨q,s⟩:=r0 e o;obtain⟨ax,t⟩:=r0 e p;have u:=e.1;have l:=oQ (iU.1 j).1 k.hw;unfold BT;refine aq (fA U) (aq (fA U) ?_);obtain⟨d,m,n⟩:∃d:Nat,hp (c.getD b 0) (c.getD g 0)=(d:Int)/\d<a:=by
  unfold hp;split
  ·exact⟨_,ax,t⟩
  exact⟨_,q,s⟩
 have f:=Nl k j (hK (c.getD b 0) (c.getD g 0)) n;rw[<-m] at f;refine aq f ?_;dsimp only;refine aq (zj (aaj l _ _)) rfl
def D5 (B:a<=5) (q:gn a a i h c) (x:eG a a i h c=0) (s:dY r a):∃b,iQ a r (bv i h c a) b/\rj (((a:Int),(a:Int),i,h,c,()),r,())=some (some ((a:Int),(gb a (dq (bv i h c a)) r,()),b,()),0,()):=by
 have j:=(iU.1 x).1;have ab:=p4 j a (a2 _);have am:=p3 j;have a3:=s.1;have an:=oQ j q.hw;suffices p:ae (rj (((a:Int),(a:Int),i,h,c,()),r,())) λf=>∃b,iQ a r (bv i h c a) b/\f=(some ((a:Int),(gb a (dq (bv i h c a)) r,()),b,()),0,()) by obtain⟨f,O,b,Q,rfl⟩:=p;exact⟨b,Q,O⟩
 unfold rj;refine ae.bs q.check ?_;dsimp only;rw[bi (by rw[x];rfl),bi (by rw[b0,aB rfl];rfl)];refine ae.bs (Nc U U) ?_;rw[if_pos s];dsimp only;rw[Bool.not_true,cond_false];refine ae.bs (PG B q x) (ae.bs (PB B q x) (ae.bs (PO B s) ?_));dsimp only;generalize ad:gb a (dq (bv i h c a)) r=o;refine ae.bs (fU U) ?_;generalize T:(((a:Int),(a:Int),i,h,c,()):bJ)=N;refine ae.aU (P:=λf=>f=(N,((a:Int),(o,()),aw a (λ_=>(some ([],0):g5)),()),())) ?_ ?_
 ·refine ae.steps a (λn t=>t=((n:Int),N,((a:Int),(o,()),aw a (λk=>if k<n then(some ([],0):g5) else none),()),())) ?_ ?_ ?_
  ·rw[gU];rfl
  ·rintro n _ S rfl;dsimp only;rw[bo (aB (show(n:Int)<ay (List.replicate a (none:g5)) by rw[a1,List.length_replicate];omega)),bt U];refine ae.bs (dd (by rw[bk];omega)) ?_;rw[dn S,e9];refine ae.ag.2 ?_;have:aw a (bU (λk=>if k<n then(some ([],0):g5) else none) n (some ([],0)))=aw a (λk=>if k<n+1 then(some ([],0):g5) else none):=by
    refine bI λk D=>?_;by_cases v:k=n
    ·subst v;rw[ei,ai U]
    rw[ew _ _ v];by_cases F:k<n
    ·rw[ai F,ai U]
    rw[ah F,ah U]
   dsimp only[Option.map_some];rw[this]
  rintro _ rfl;dsimp only;rw[bi (az (show¬((a:Int)<ay (List.replicate a (none:g5))) by rw[a1,List.length_replicate];omega))];have:aw a (λk=>if k<a then(some ([],0):g5) else none)=aw a (λ_=>(some ([],0):g5)):=bI λk D=>if_pos D;rw[this];exact ae.ag.2 rfl
 rintro _ rfl;dsimp only;refine ae.aU (P:=λf=>∃b,iQ a r (bv i h c a) b/\f=(((a:Int),(o,()),b,()),())) ?_ (by rintro _ ⟨b,p,rfl⟩;exact ae.ag.2 ⟨b,p,rfl⟩);subst T;refine ae.steps a (λd t=>∃b,iQ a r (bv i h c d) b/\t=((d:Int),((a:Int),(a:Int),i,h,c,()),((a:Int),(o,()),b,()),())) ⟨_,iQ.nil,rfl⟩ ?_ ?_
 ·rintro d _ w ⟨b,l,rfl⟩;have z:=j.len;obtain⟨e,J⟩:=Int.eq_ofNat_of_zero_le (j.pos d U);obtain⟨m,A⟩:=Int.eq_ofNat_of_zero_le (j.pos (d+1) U);have av:m<=h.length:=(by have:=j.oZ (d+1) U;omega);have a0:e<=m:=(by have:=j.mono d w;omega);have D:=j.val;have ap:=q.hi;dsimp only;rw[bo (aB (U:(d:Int)<(a:Int))),bt U];refine ae.bs (y:=(e:Int)) (by rw[fA U,J]) ?_;have K:bv i h c (d+1)=bv i h c d++hH h c (d:Int) e (m-e):=by
   rw[bv,J,A];rfl
  have W:(bv i h c (d+1)).Pairwise fL:=p4 j (d+1) U;refine ae.aU (P:=λf=>∃b,iQ a r (bv i h c (d+1)) b/\f=(((a:Int),(a:Int),i,h,c,()),((a:Int),(o,()),b,()),())) ?_ (by rintro _ ⟨b,p,rfl⟩;exact ae.ag.2 ⟨b,p,rfl⟩);refine ae.steps (m-e) (λg t=>∃b,iQ a r (bv i h c d++hH h c (d:Int) e g) b/\t=(((e+g:Nat):Int),((a:Int),(a:Int),i,h,c,()),((a:Int),(o,()),b,()),())) ⟨b,by simpa[hH] using l,rfl⟩ ?_ ?_
  ·rintro g _ a4 ⟨b,l,rfl⟩;dsimp only;refine ae.bs (y:=(m:Int)) (by rw[fA U,A]) ?_;rw[bo (aB (U:((e+g:Nat):Int)<(m:Int)))];have V:=j.rng d (e+g) w U U;obtain⟨f,C⟩:=Int.eq_ofNat_of_zero_le V.1;have M:(bv i h c d++hH h c (d:Int) e g++[((f:Int),(d:Int),c.getD (e+g) 0,())]).Pairwise fL:=by
    refine List.Pairwise.sublist ?_ W;rw[K,mG];refine List.Sublist.append (List.Sublist.refl _) ?_;have:hH h c (d:Int) e g++[((f:Int),(d:Int),c.getD (e+g) 0,())]=hH h c (d:Int) e (g+1):=(by rw[hH,C]);rw[this,Fi,Fi,<-Cf (m-e) (g+1) _ U];exact List.take_sublist _ _
   have R:bv i h c d++hH h c (d:Int) e (g+1)=bv i h c d++hH h c (d:Int) e g++[((f:Int),(d:Int),c.getD (e+g) 0,())]:=(by rw[mG,hH,C]);rw[R];refine ae.aU (P:=λZ=>∃b,iQ a r (bv i h c d++hH h c (d:Int) e g++[((f:Int),(d:Int),c.getD (e+g) 0,())]) b/\Z=(((a:Int),(a:Int),i,h,c,()),((a:Int),(o,()),b,()),())) ?_ ?_
   ·refine ae.bs (y:=(f:Int)) (by rw[fA U,C]) ?_;rw[br];refine ae.ite (λv=>?_) (λv=>?_)
    ·have L:f<a:=U;refine ae.bs (by rw[bQ (by rw[bk];omega),fD]) (ae.bs (by rw[bQ (by rw[bk];omega),fD]) ?_);obtain⟨u,G,H⟩:∃u:Nat,(u:Int)=hp (fI r f:Int) (fI r d:Int)/\u<a:=by
      have:=(s.pos L).1;have:=(s.pos w).1;unfold hp;split
      ·exact⟨_,rfl,U⟩
      exact⟨_,rfl,U⟩
     obtain⟨E,I⟩:∃E:Nat,(E:Int)=hK (fI r f:Int) (fI r d:Int):=by
      unfold hK;split
      ·exact⟨_,rfl⟩
      exact⟨_,rfl⟩
     change ae ((bh b.length (hp (fI r f:Int) (fI r d:Int))).bind _) _;rw[<-G];refine ae.bs (dd (by rw[l.len];exact H)) ?_;refine ae.bs (fA U) ?_;refine ae.bs (wg (q.hw _ (by rw[jN U];exact List.getElem_mem _))) ?_;dsimp only;obtain⟨Y,X,z,_⟩:=l.get u H;refine ae.bs (ix z) ?_;change ae ((qh (some (Y,X)) (hK (fI r f:Int) (fI r d:Int)) _).bind _) _;rw[<-I];refine ae.bs rfl ?_;rw[ix z];exact ae.ag.2 ⟨_,l.add s M L w U G I z,rfl⟩
    exact ae.ag.2 ⟨b,l.skip M (by dsimp only;omega),rfl⟩
   rintro _ ⟨b,p,rfl⟩;dsimp only;rw[bt U];exact ae.ag.2 ⟨b,p,rfl⟩
  rintro _ ⟨b,l,rfl⟩;dsimp only;refine ae.bs (y:=(m:Int)) (by rw[fA U,A]) ?_;rw[bi (az (U:¬((e+(m-e):Nat):Int)<(m:Int)))];exact ae.ag.2 ⟨b,by rw[K];exact l,rfl⟩
 rintro _ ⟨b,l,rfl⟩;dsimp only;rw[bi (az (U:¬((a:Int)<(a:Int))))];exact ae.ag.2 ⟨b,l,rfl⟩
def N1 {E:List bD} (m:iQ g c E q) (h:a<g) (l:b<g):yi (some ((g:Int),(e,()),q,()),(a:Int),(b:Int),())=some (a8 (be E c a b),()):=by
 unfold yi;dsimp only;rw[Option.bind_some];have i:∀d f:Nat,d<g->f<g->d<=f->((aC q (d:Int)).bind λt=>some (((iZ (α:=bX) t (f:Int)).getD (false,((false,([],())),((0:Int),())))),()))=some (a8 (be E c d f),()):=(by intro d f p s r;obtain⟨v,u,n,o⟩:=m.get d p;refine aq (eC n) ?_;have:=o f s r;rw[<-this];rfl);by_cases j:(b:Int)<(a:Int)
 ·rw[ai j,ah U,J4];exact i b a l h U
 rw[ah j];by_cases k:(b:Int)>(a:Int)
 ·rw[ai k];exact i a b h l U
 rw[ah k];obtain rfl:a=b:=U;exact i a a h h (a2 _)
def GB (b:bG f≠2047):∃d,dJ f=some d:=by
 have al:=yo f;have g:=yp f;unfold dJ;rw[ah b];unfold fa;generalize a:(if f<9223372036854775808 then if bG f=0 then e8 f else e8 f+4503599627370496 else-(if bG f=0 then e8 f else e8 f+4503599627370496))=c;have e:aA c.natAbs<=53:=dy.2 (by
  have:(2:Nat)^53=9007199254740992:=aa;rw[this];split at a<;>split at a<;>omega)
 split
 ·exact⟨_,rfl⟩
 rw[ah (by split<;>omega)];exact⟨_,rfl⟩
def LF:kK (some 0) (some f)=some 0:=by show fa (a7 0*a7 f) _=some 0;rw[yU,sr];rfl
def LG:kK (some f) (some 0)=some 0:=by show fa (a7 f*a7 0) _=some 0;rw[yU,Int.mul_zero];rfl
def ih (a:Nat->Nat->Int) (c d b:Nat):adZ:=tT (kK (dJ (a b c)) (dJ (a b d)))
def hd (c:Nat->Nat->adZ) (d:Nat->Nat->Int) (a b:Nat):adZ:=gB (c b a::(List.range a).map (ih d b a))
def kG (b:Nat->Nat->adZ) (e:Nat->Nat->Bool) (d:Nat->Nat->Int) (a c:Nat):Int:=
 if c=a then js (hd b d a a) 0 else if e a c=true then lh (hd b d a c) (dJ (js (hd b d a a) 0)) 0 else 0
def vY (a:Nat->Nat->adZ) (b:Nat->Nat->Bool):Nat->Nat->Nat->Int
 |0=>λ_ _=>0
 |j+1=>λd c=>if d=j then kG a b (vY a b j) j c else vY a b j d c
def bn (b:Nat->Nat->adZ) (d:Nat->Nat->Bool) (a c:Nat):Int:=vY b d (a+1) a c
def Gh {b:Nat->Nat->adZ} {f:Nat->Nat->Bool} {a e:Nat}:∀{j},a<j->vY b f j a e=bn b f a e
 |0,d=>absurd d U
 |j+1,d=>by
  by_cases c:a=j
  ·subst c;rfl
  rw[<-Gh (j:=j) U];show(if a=j then _ else _)=_;rw[ah c]
def N3 {f l':Nat->Nat->Int} {i:Nat} (e:∀b,b<a->∀i,f b i=l' b i):hd d f a i=hd d l' a i:=by unfold hd;congr 2;refine h3 λb c=>?_;have c:=fe.1 c;unfold ih;rw[e b c,e b c]
def m3 (a:Nat->Nat->adZ) (c:Nat->Nat->Bool) (b d:Nat):bn a c b d=kG a c (bn a c) b d:=by show(if b=b then kG a c (vY a c b) b d else vY a c b b d)=_;rw[ai rfl];unfold kG;rw[N3 (l':=bn a c) (λf e d=>Gh e),N3 (i:=d) (l':=bn a c) (λf e d=>Gh e)]
def tP (a:Nat->Nat->adZ) (d:Nat->Nat->Bool) (c b:Nat):ez (bn a d c b):=by
 rw[m3];unfold kG;split
 ·exact YG 0
 split
 ·exact X0 0
 exact⟨aa,aa⟩
def rL (c:k b a=false) (e:a≠b):bn d k b a=0:=by rw[m3];unfold kG;rw[ah e,ah (by rw[c];decide)]
def Om {g:Type} {c:g->adZ} {e:g->Bool}:∀{L:List g},(∀m∈L,e m=false->c m=some 0)->eS ((L.filter e).map c)=eS (L.map c)/\gp ((L.filter e).map c)=gp (L.map c)
 |[],_=>⟨rfl,rfl⟩
 |m::L,h=>by
  obtain⟨i,j⟩:=Om (L:=L) λl k=>h l (by simp[k]);by_cases f:e m=true
  ·rw[pw f,fr,fr];have al:∀a b,eS (a::b)=eS [a]+eS b:=λa b=>zz [a] b;have d:∀a b,gp (a::b)=(gp [a]&&gp b):=λa b=>Ak [a] b;rw[al,al _ (L.map c),d,d _ (L.map c),i,j];exact⟨rfl,rfl⟩
  rw[pv f,fr,h m ac (by simpa using f)];have al:∀a b,eS (a::b)=eS [a]+eS b:=λa b=>zz [a] b;have d:∀a b,gp (a::b)=(gp [a]&&gp b):=λa b=>Ak [a] b;rw[al,d,i,j];refine⟨?_,?_⟩
  ·show _=(0:Int)+0+_;omega
  show _=(true&&true&&_);simp
def On {c:n->adZ} {f:n->Bool} {b:List n} (g:∀e∈b,f e=false->c e=some 0):gB (y::(b.filter f).map c)=gB (y::b.map c):=by obtain⟨h,i⟩:=Om g;have al:∀y a,eS (y::a)=eS [y]+eS a:=λy a=>zz [y] a;have d:∀y a,gp (y::a)=(gp [y]&&gp a):=λy a=>Ak [y] a;unfold gB;rw[al,al _ (b.map c),d,d _ (b.map c),h,i]
def aX (a:adU) (c b:Nat):Bool:=decide ((b:Int)∈bc a c)
def uf:aX e b a=true↔a<e.length/\jw e b a:=by unfold aX;rw[decide_eq_true_eq,m4]
def XV (c:aX e b a=true):b<=a:=(uf.1 c).2.le
def Df (b:a<e.length):aX e a a=true:=uf.2 ⟨b,.inl rfl⟩
def xg {G:adU} {j:Nat} {x:Int} (b:x∈bc G j):∃a:Nat,x=(a:Int)/\a<G.length/\j<=a/\aX G j a=true:=by have d:=b;unfold bc jl at b;obtain⟨a,e,rfl⟩:=de.1 b;have c:=m4.1 d;exact⟨a,rfl,c.1,c.2.le,uf.2 c⟩
def JD {G:adU} {j:Nat} (i:j<G.length):∃b,bc G j=(j:Int)::b/\∀g∈b,(j:Int)<g:=by
 have a:(j:Int)∈bc G j:=m4.2 ⟨i,.inl rfl⟩;have f:=xf G j;cases d:bc G j with
 |nil=>rw[d] at a;cases a
 |cons h b=>
  rw[d] at a f;obtain⟨e,k⟩:=mI.1 f;rcases dx.1 a with c|c
  ·subst c;exact⟨b,rfl,e⟩
  have:=e _ c;obtain⟨m,rfl,_,l,_⟩:=xg (G:=G) (j:=j) (x:=h) (by rw[d];simp);omega
def vf {G:adU} (a:Nat):(bc G a).length<=G.length:=EK _ _ _
def gr (b:adU) (d a:Nat):ad5:=gK ((List.range (min d a)).filter λc=>aX b c a)
def I7 (D:a<=5) (t:e.length=a) (u:da e) (v:∀z∈e,z.length<4611686018427387904) (s:List g5):xk (some ((a:Int),(e,()),s,()),())=some ((aw a (bc e),(aw a λ_=>[]),(aw a λ_=>none),(aw a λb=>gr e a b),()),()):=by
 unfold xk;dsimp only;rw[Option.bind_some];refine aq (Pf u v U) ?_;rw[t];refine aq rfl (aq (fU U) (aq rfl (aq (fU U) (aq rfl (aq (fU U) ?_)))));refine ae.eq_iff.1 ?_;dsimp only;have w:(List.range a).map (bc e)=aw a (bc e):=rfl;rw[w];refine ae.aU (P:=λj=>j=((aw a (bc e),(aw a λ_=>[]),(aw a λ_=>none),(aw a λb=>gr e a b),()),())) ?_ (by rintro _ rfl;exact ae.ag.2 rfl);refine ae.steps a (λc d=>d=((c:Int),(aw a (bc e),(aw a λ_=>[]),(aw a λ_=>none),(aw a λb=>gr e c b),()),())) ?_ ?_ ?_
 ·rw[gU,gU];have:(aw a λ_=>([]:ad5))=aw a λb=>gr e 0 b:=bI λb _=>by
   unfold gr;rw[Nat.zero_min];rfl
  rw[<-this];rfl
 ·rintro c _ F rfl;dsimp only;rw[bo (aB (show(c:Int)<ay (aw a (bc e)) by rw[a1,bk];omega)),bt U];refine ae.bs (by rw[bQ (by rw[bk];omega),fD]) ?_;have C:=vf (G:=e) c;have x:∀c b,(gr e c b).length<=b:=λc b=>by
   unfold gr;rw[wc];refine dh (ip _ _) ?_;rw[qN];omega
  refine ae.aU (P:=λj=>j=((aw a (bc e),(aw a λ_=>[]),(aw a λ_=>none),(aw a λb=>gr e (c+1) b),()),())) ?_ (by rintro _ rfl;exact ae.ag.2 rfl);refine ae.steps (bc e c).length (λd A=>A=((d:Int),(aw a (bc e),(aw a λ_=>[]),(aw a λ_=>none),(aw a λb=>gr e c b++if(b:Int)∈(bc e c).take d/\c<b then[(c:Int)] else[]),()),())) ?_ ?_ ?_
  ·have:(aw a λb=>gr e c b)=aw a λb=>gr e c b++if(b:Int)∈(bc e c).take 0/\c<b then[(c:Int)] else[]:=bI λb _=>by simp
   rw[<-this];rfl
  ·rintro d _ n rfl;dsimp only;rw[bo (aB (show(d:Int)<ay (bc e c) by rw[a1];omega)),bt U];obtain⟨h,r,J,H,E⟩:=xg (List.getElem_mem n);have q:(bc e c).take (d+1)=(bc e c).take d++[(h:Int)]:=(by rw[List.take_add_one,List.getElem?_eq_getElem n,r];rfl);have o:(h:Int)∉(bc e c).take d:=λf=>by
    obtain⟨B,I,i⟩:=List.mem_take_iff_getElem.1 f;have:=gj.1 (xf e c) B d U n U;omega
   refine ae.aU (P:=λj=>j=((aw a (bc e),(aw a λ_=>[]),(aw a λ_=>none),(aw a λb=>gr e c b++if(b:Int)∈(bc e c).take (d+1)/\c<b then[(c:Int)] else[]),()),())) ?_ (by rintro _ rfl;exact ae.ag.2 rfl);refine ae.bs (y:=(h:Int)) (by rw[bQ n,r]) ?_;have p:∀b:Nat,b≠h->((b:Int)∈(bc e c).take (d+1)↔(b:Int)∈(bc e c).take d):=λb m=>(by rw[q,eN,eI];exact⟨λf=>f.resolve_right λf=>m U,.inl⟩);rw[br];refine ae.ite (λk=>?_) (λk=>?_)
   ·refine ae.bs (dd (by rw[bk];omega)) ?_;rw[dn U,aG,ah (λf=>o f.1),kB];have:=x c h;rw[dQ (by simp;omega),aG];refine ae.bs (dd (by rw[bk];omega)) ?_;rw[bo ac];rw[dn U,aG,ah (λf=>o f.1),kB,dn U,e9];refine ae.ag.2 ?_;have:aw a (bU (λb=>gr e c b++if(b:Int)∈(bc e c).take d/\c<b then[(c:Int)] else[]) h (gr e c h++[(c:Int)]))=aw a λb=>gr e c b++if(b:Int)∈(bc e c).take (d+1)/\c<b then[(c:Int)] else[]:=by
     refine bI λb m=>?_;by_cases i:b=h
     ·subst i;rw[ei,ai ⟨by rw[q];simp,U⟩]
     rw[ew _ _ i];have:=p b i;by_cases g:(b:Int)∈(bc e c).take d/\c<b
     ·rw[ai g,ai ⟨this.2 g.1,g.2⟩]
     rw[ah g,ah λf=>g ⟨this.1 f.1,f.2⟩]
    rw[<-this]
   refine ae.ag.2 ?_;have:(aw a λb=>gr e c b++if(b:Int)∈(bc e c).take d/\c<b then[(c:Int)] else[])=aw a λb=>gr e c b++if(b:Int)∈(bc e c).take (d+1)/\c<b then[(c:Int)] else[]:=by
    refine bI λb m=>?_;by_cases i:b=h
    ·subst i;rw[ah U,ah U]
    have:=p b i;by_cases g:(b:Int)∈(bc e c).take d/\c<b
    ·rw[ai g,ai ⟨this.2 g.1,g.2⟩]
    rw[ah g,ah λf=>g ⟨this.1 f.1,f.2⟩]
   rw[<-this]
  rintro _ rfl;dsimp only;rw[bi (az (show¬(((bc e c).length:Nat):Int)<ay (bc e c) by rw[a1];omega)),List.take_of_length_le (Nat.le_refl _)];refine ae.ag.2 ?_;have:(aw a λb=>gr e c b++if(b:Int)∈bc e c/\c<b then[(c:Int)] else[])=aw a λb=>gr e (c+1) b:=by
   refine bI λb m=>?_;unfold gr;by_cases k:c<b
   ·rw[fu U,fu U,iP,jc,LL];congr 1;by_cases l:(b:Int)∈bc e c
    ·rw[ai ⟨l,k⟩,pw (by unfold aX;exact aB l)];rfl
    rw[ah (λf=>l f.1),pv (by unfold aX;simpa using l)];rfl
   rw[uS U,uS U,ah (λf=>k f.2),kB]
  rw[this]
 rintro _ rfl;dsimp only;rw[bi (az (show¬((a:Int)<ay (aw a (bc e))) by rw[a1,bk];omega))];exact ae.ag.2 rfl
def i9 (d:Nat->Nat->adZ) (b:adU) (e:Nat):Prop:=∀a,a<e->∀c,aX b a c=true->bG (bn d (aX b) a c)≠2047
def i9.of (f:i9 d e b) {i:Nat} (g:a<b) (j:a<i):∃h,dJ (bn d (aX e) a i)=some h:=by
 by_cases c:aX e a i=true
 ·exact GB (f a g i c)
 rw[rL (by simpa using c) U,rV];exact⟨0,rfl⟩
def OA (f:i9 d e a) {i:Nat} (g:b<a) (m:a<=i) (c:aX e b i=false\/aX e b a=false):ih (bn d (aX e)) i a b=some 0:=by
 unfold ih;obtain⟨k,h⟩:=f.of g (i:=i) U;obtain⟨l,j⟩:=f.of g (i:=a) U;rcases c with c|c
 ·rw[rL c U,rV,j,LF];rfl
 rw[rL c U,rV,h,LG];rfl
structure ls (A:Nat->Nat->adZ) (G:adU) (n j:Nat) (X:List g5):Prop where
 len:X.length=n
 get:∀m,m<j->∃l c,X[m]?=some (some (l,c))/\∀i,i<n->ev l (i:Int)=if aX G m i=true then some (a8 (dJ (bn A (aX G) m i))) else none
def DF (c:Nat->Nat->Int) (a b d:Nat):ec (ih c a b d):=UK (CP _ _)
def r7 (a:Nat->Nat->adZ) (d:Nat->Nat->Int) (c b:Nat):ec (hd a d c b):=Oo _
def N5 {g:Nat} (T:g<=5) {f:ad5} {E:List bD} {q:List g5} (I:iQ g f E q) {e D:adU} {b:Nat} (x:b<g) (v:i9 (be E f) e b) {r:List g5} (J:ls (be E f) e g b r) (O:adU) (G:adU) {c:Nat} (w:c<g) (z:b<=c):xm (some (G,O,r,(aw g λc=>gr e g c),()),some ((g:Int),(D,()),q,()),(c:Int),(b:Int),())=some (a8 (hd (be E f) (bn (be E f) (aX e)) b c),()):=by
 unfold xm;refine aq (N1 I w x) ?_;refine aq rfl ?_;refine aq (by rw[bQ (by rw[bk];omega),fD]) ?_;dsimp only;have M:gr e g b=gK ((List.range b).filter λa=>aX e a b):=(by unfold gr;rw[Nat.min_eq_right U]);rw[M];generalize l:(List.range b).filter (λa=>aX e a b)=d;have u:∀a∈d,a<b/\aX e a b=true:=λa i=>(by rw[<-l] at i;exact⟨List.mem_range.1 (List.mem_filter.1 i).1,(List.mem_filter.1 i).2⟩);have S:d.length<=5:=by rw[<-l];refine Nat.le_trans (List.length_filter_le _ _) ?_;rw[List.length_range];omega
 let Q:=be E f
 let j:=ih (bn (be E f) (aX e)) c b
 refine ae.eq_iff.1 ?_;refine ae.aU (P:=λp=>p=(lH,(be E f c b::(d.filter λa=>aX e a c).map j).map a8,())) ?_ ?_
 ·refine ae.steps d.length (λh N=>N=((h:Int),lH,(be E f c b::((d.take h).filter λa=>aX e a c).map j).map a8,())) rfl ?_ ?_
  ·rintro h _ n rfl;dsimp only;rw[bo (aB (show(h:Int)<ay (gK d) by rw[a1,wc];omega)),bt U];refine ae.aU (P:=λp=>p=(lH,(be E f c b::((d.take (h+1)).filter λa=>aX e a c).map j).map a8,())) ?_ (by rintro _ rfl;exact ae.ag.2 rfl);obtain⟨K,L⟩:=u d[h] (List.getElem_mem n);refine ae.bs (y:=((d[h]:Nat):Int)) (by rw[bQ (by rw[wc];exact n)];simp[gK]) ?_;rw[HG n];generalize d[h]=a at*;obtain⟨C,F,s,t⟩:=J.get a K;refine ae.bs rfl (ae.bs (eC s) ?_);have A:∀B:Nat,iZ (α:=bX) (some (C,F)) (B:Int)=ev C (B:Int):=λ_=>rfl;rw[A c,t c w];by_cases k:aX e a c=true
   ·rw[ai k,ai k,z2,cond_true];refine ae.bs rfl (ae.bs (eC s) ?_);rw[A b,t b x,ai L];refine ae.bs (JN (kL _) (kL _)) (ae.bs (JO (CP _ _)) ?_);have:((d.take h).filter λa=>aX e a c).length<=5:=by
     refine dh (ip _ _) ?_;rw[dZ];omega
    rw[dQ (by simp;omega)];refine ae.ag.2 ?_;rw[fN,<-jb,fN];rfl
   rw[ah k,ah k,Option.isSome_none,cond_false,kB];exact ae.ag.2 rfl
  rintro _ rfl;dsimp only;rw[bi (az (show¬((d.length:Int)<ay (gK d)) by rw[a1,wc];omega)),List.take_of_length_le (Nat.le_refl _)];exact ae.ag.2 rfl
 rintro _ rfl;dsimp only;refine ae.bs (JP ?_ ?_) (ae.ag.2 ?_)
 ·intro R m;rcases dx.1 m with rfl|m
  ·exact kL _
  obtain⟨a,_,rfl⟩:=de.1 m;exact DF _ _ _ _
 ·have:=ip (λa=>aX e a c) d;simp only[im,gE];omega
 have al:gB (be E f c b::(d.filter λa=>aX e a c).map j)=gB (be E f c b::d.map j):=On λa i o=>OA v (u a i).1 z (.inl o);have H:gB (be E f c b::d.map j)=gB (be E f c b::(List.range b).map j):=(by rw[<-l];exact On λa i o=>OA v (fe.1 i) z (.inr o));rw[al,H];rfl
def fZ (c:Nat->Nat->adZ) (a:adU) (b:Nat):ad5:=(bc a b).map λd=>bn c (aX a) b d.toNat
def dz (b:Nat->Nat->adZ) (c:adU) (a:Nat):Int:=open Classical in if n0 (hd b (bn b (aX c)) a a)<=0\/oY (bn b (aX c) a a)=0 then 231 else if∀d,aX c a d=true->bG (bn b (aX c) a d)≠2047 then 0 else 233
def l3 (d:Nat->Nat->adZ) (e:adU) (i b:Nat) (f:ad5) (g:List g5):Prop:=∃c h,g[b]?=some (some (c,h))/\∀a,a<i->ev c ((a:Nat):Int)=if((a:Nat):Int)∈f then some (a8 (dJ (bn d (aX e) b a))) else none
def ls.set {b:Nat->Nat->adZ} {c:adU} {f a:Nat} {d:List g5} (e:ls b c f a d) (m:g5):ls b c f a (d.set a m) where
 len:=by rw[nv,e.len]
 get:=λl j=>by obtain⟨k,g,h,i⟩:=e.get l j;exact⟨k,g,by rw[lZ U,h],i⟩
def ls.next (h:ls d e b a q) (n:l3 d e b a (bc e a) q):ls d e b (a+1) q where
 len:=h.len
 get:=λf p=>by
  rcases bg f a with g|g
  ·exact h.get f g
  obtain rfl:f=a:=U;obtain⟨o,j,k,l⟩:=n;refine⟨o,j,k,λi m=>?_⟩;rw[l i m];unfold aX;by_cases c:(i:Int)∈bc e f
  ·rw[ai c,ai (aB c)]
  rw[ah c,ah (by simpa using c)]
def l3.one {b:Nat->Nat->adZ} {c:adU} {i a:Nat} {d:List g5} (g:a<d.length) (e:Nat):l3 b c i a [(a:Int)] (d.set a (some (ht [] (a:Int) (a8 (dJ (bn b (aX c) a a))),e))):=by
 refine⟨_,_,kV g,λh j=>?_⟩;rw[yK];by_cases f:h=a
 ·subst f;rw[ai rfl,ai ac]
 rw[ah U,ah (by simp;omega)];rfl
def l3.add (k:q[a]?=some (some (x,g))) (n:l3 d e b a c q) (f:Nat) (s:bX) (l:Nat):l3 d e b a (c++[(f:Int)]) (q.set a (some (ht (ht x (f:Int) s) (f:Int) (a8 (dJ (bn d (aX e) a f))),l))):=by
 have r:a<q.length:=(eT.1 k).1;obtain⟨u,t,j,o⟩:=n;rw[k] at j;cases j;refine⟨_,_,kV r,λi p=>?_⟩;rw[yK,yK,o i p];by_cases m:i=f
 ·subst m;rw[ai rfl,ai ac]
 rw[ah U,ah U];by_cases h:(i:Int)∈c
 ·rw[ai h,ai (by simp[h])]
 rw[ah h,ah (by simp[h];omega)]
def Rt (a0:b<=5) {E:List bD} {F:List g5} (Z:iQ b c E F) {V:adU} (d6:e.length=b) (r:a<b) (am:i9 (be E c) e a) (M:ls (be E c) e b a q):ae (Az ((aw b (bc e),(aw b λg=>if g<a then fZ (be E c) e g else[]),q,(aw b λd=>gr e b d),()),some ((b:Int),(V,()),F,()),(a:Int),())) λf=>f.2.1=dz (be E c) e a/\(dz (be E c) e a=0->∃k,ls (be E c) e b (a+1) k/\f.1=(aw b (bc e),(aw b λg=>if g<a+1 then fZ (be E c) e g else[]),k,(aw b λd=>gr e b d),())):=by
 classical
 unfold Az;refine ae.bs (N5 a0 Z r am M _ _ r (Nat.le_refl _)) ?_;dsimp only;refine ae.bs (mV (r7 _ _ _ _)) ?_;dsimp only;have a3:bn (be E c) (aX e) a a=js (hd (be E c) (bn (be E c) (aX e)) a a) 0:=(by rw[m3];unfold kG;rw[if_pos rfl]);rw[br];refine ae.ite (λH=>?_) (λH=>?_)
 ·refine ae.ag.2 ?_;have n:dz (be E c) e a=231:=(by unfold dz;rw[ai (.inl H)]);exact⟨n.symm,λh=>by rw[n] at h;cases h⟩
 refine ae.bs (Kr (r7 _ _ _ _)) ?_;dsimp only;rw[<-a3];have C:=tP (be E c) (aX e) a a;refine ae.bs (K2 C) ?_;dsimp only;rw[dB,br];refine ae.ite (λI=>?_) (λI=>?_)
 ·refine ae.ag.2 ?_;have n:dz (be E c) e a=231:=(by unfold dz;rw[ai (.inr I)]);exact⟨n.symm,λh=>by rw[n] at h;cases h⟩
 have n:dz (be E c) e a=if∀d,aX e a d=true->bG (bn (be E c) (aX e) a d)≠2047 then 0 else 233:=by unfold dz;rw[ah (λh=>h.elim H I)]
 have c2:∀d,d≠a->aX e a d=true->bn (be E c) (aX e) a d=lh (hd (be E c) (bn (be E c) (aX e)) a d) (dJ (bn (be E c) (aX e) a a)) 0:=λd z A=>(by rw[m3];unfold kG;rw[ah z,ai A,<-a3]);have cv:∀d,ec (hd (be E c) (bn (be E c) (aX e)) a d):=λd=>r7 _ _ _ _;have ds:=@N5 b a0 c E F Z e V a r am;have ap:=tP (be E c) (aX e);obtain⟨f,s,dl⟩:=JD (G:=e) (j:=a) U;have av:∀i∈f,∃d:Nat,i=(d:Int)/\d<b/\a<d/\aX e a d=true:=λi m=>(by obtain⟨d,rfl,z,A,L⟩:=xg (G:=e) (j:=a) (x:=i) (by rw[s];simp[m]);exact⟨d,rfl,U,by have:=dl _ m;omega,L⟩);have O:(∀d,aX e a d=true->bG (bn (be E c) (aX e) a d)≠2047)↔bG (bn (be E c) (aX e) a a)≠2047/\∀i∈f,bG (bn (be E c) (aX e) a i.toNat)≠2047:=by
  constructor
  ·intro h;refine⟨h a (Df U),λi m=>?_⟩;obtain⟨d,rfl,_,_,L⟩:=av i m;exact h d L
  rintro⟨z,A⟩ d an;have:(d:Int)∈bc e a:=(by unfold aX at an;exact of_decide_eq_true an);rw[s] at this;rcases dx.1 this with X|X
  ·obtain rfl:d=a:=U;exact z
  exact A _ X
 have d1:fZ (be E c) e a=bn (be E c) (aX e) a a::f.map λd=>bn (be E c) (aX e) a d.toNat:=(by unfold fZ;rw[s,List.map_cons,Int.toNat_natCast]);have d9:f.length<=5:=(by have:=vf (G:=e) a;rw[s,List.length_cons] at this;omega);have cs:l3 (be E c) e b a (bc e a)=l3 (be E c) e b a ((a:Int)::f):=(by rw[s]);refine ae.bs (wg C) ?_;dsimp only;refine ae.bs rfl ?_;refine ae.bs (dd (by rw[bk];omega)) ?_;rw[dn r,e9];refine ae.bs rfl ?_;dsimp only;have d7:=M.len;refine ae.bs (dd U) ?_;rw[ix (List.getElem?_eq_getElem (U:a<q.length))];refine ae.bs rfl ?_;dsimp only;have N:ls (be E c) e b a (q.set a (some (ht [] (a:Int) (a8 (dJ (bn (be E c) (aX e) a a))),1))):=M.set _;have ab:l3 (be E c) e b a [(a:Int)] (q.set a (some (ht [] (a:Int) (a8 (dJ (bn (be E c) (aX e) a a))),1))):=l3.one U 1;change ae ((q5 (bn (be E c) (aX e) a a,())).bind _) _;change ls (be E c) e b a (q.set a (some (ht [] (a:Int) (a8 (dJ (bn (be E c) (aX e) a a))),1))) at N;generalize ci:q.set a (some (ht [] (a:Int) (a8 (dJ (bn (be E c) (aX e) a a))),1))=bB at N ab;refine ae.bs (Cv C) ?_;dsimp only;rw[Bool.not_not,br];refine ae.ite (λJ=>?_) (λJ=>?_)
 ·refine ae.ag.2 ?_;rw[n,ah (λh=>(O.1 h).1 J)];exact⟨rfl,λh=>by cases h⟩
 refine ae.bs (by rw[bQ (by rw[bk];omega),fD]) ?_;have a4:((fV 1).bind λbd=>(some ((bc e a).length)).bind λbl=>(gd bd bl (bc e a).length).map λ_=>(bd,bl))=some (1,(bc e a).length):=(by rw[s];show((gd 1 (f.length+1) (f.length+1)).map λ_=>(1,f.length+1))=_;unfold gd;rw[if_pos ⟨U,U⟩];rfl);refine ae.bs a4 ?_;dsimp only;have ad:((bc e a).take (bc e a).length).drop 1=f:=(by rw[List.take_length,s];rfl);rw[ad];clear a4 ad;refine ae.aU (P:=λT=>(∃k,ls (be E c) e b a k/\l3 (be E c) e b a ((a:Int)::f) k/\(∀i∈f,bG (bn (be E c) (aX e) a i.toNat)≠2047)/\T=.inl ((aw b (bc e),(aw b λg=>if g<a+1 then fZ (be E c) e g else[]),k,(aw b λd=>gr e b d),()),()))\/∃W,T=.inr (W,233,())/\∃i∈f,bG (bn (be E c) (aX e) a i.toNat)=2047) ?_ ?_
 ·refine ae.steps f.length (λl d5=>∃k,ls (be E c) e b a k/\l3 (be E c) e b a ((a:Int)::f.take l) k/\(∀i∈f.take l,bG (bn (be E c) (aX e) a i.toNat)≠2047)/\d5=((l:Int),(aw b (bc e),aw b (bU (λg=>if g<a then fZ (be E c) e g else[]) a (bn (be E c) (aX e) a a::(f.take l).map λd=>bn (be E c) (aX e) a d.toNat)),k,(aw b λd=>gr e b d),()),())) ?_ ?_ ?_
  ·exact⟨bB,N,ab,ac,by rw[<-ci];rfl⟩
  ·rintro l _ B ⟨k,u,t,v,rfl⟩;dsimp only;rw[bo (aB (show(l:Int)<ay f by rw[a1];omega))];obtain⟨o,S,d2,d8,c1⟩:=av f[l] (List.getElem_mem B);have R:f.take (l+1)=f.take l++[(o:Int)]:=(by rw[List.take_add_one,List.getElem?_eq_getElem B,S];rfl);refine ae.bs (y:=(o:Int)) (by rw[bQ B,S]) ?_;refine ae.bs (ds u _ _ d2 U) ?_;dsimp only;refine ae.bs (wg C) ?_;dsimp only;refine ae.bs (Ko (cv o) (kL _)) ?_;dsimp only;rw[<-c2 o U c1];refine ae.bs (Cv (ap a o)) ?_;dsimp only;rw[Bool.not_not,br];refine ae.ite (λK=>?_) (λK=>?_)
   ·exact ae.ag.2 (.inr ⟨_,rfl,(o:Int),by rw[<-S];exact bA B,K⟩)
   obtain⟨d4,ce,w,co⟩:=t;have Q:a<k.length:=(List.getElem?_eq_some_iff.1 w).1;refine ae.bs (dd Q) (ae.bs (dd (by rw[bk];omega)) ?_);rw[dn r,ei];refine ae.bs rfl ?_;rw[dQ (by simp;omega)];refine ae.bs rfl ?_;refine ae.bs (wg (ap a o)) ?_;dsimp only;refine ae.bs (dd (by rw[bk];omega)) ?_;rw[bo ac,dn r,ei];refine ae.bs rfl ?_;rw[dn r,e9];refine ae.bs rfl ?_;dsimp only;refine ae.bs (ix w) ?_;refine ae.bs rfl ?_;rw[ix w];refine ae.bs rfl ?_;dsimp only;rw[bo ac];refine ae.bs (ix (List.getElem?_set_self Q)) ?_;refine ae.bs rfl ?_;rw[ix (List.getElem?_set_self Q)];refine ae.bs rfl ?_;dsimp only;rw[bt U,List.set_set];have al:aw b (bU (bU (λg=>if g<a then fZ (be E c) e g else[]) a (bn (be E c) (aX e) a a::(f.take l).map λd=>bn (be E c) (aX e) a d.toNat)) a (bn (be E c) (aX e) a a::((f.take l).map λd=>bn (be E c) (aX e) a d.toNat)++[bn (be E c) (aX e) a o]))=aw b (bU (λg=>if g<a then fZ (be E c) e g else[]) a (bn (be E c) (aX e) a a::(f.take (l+1)).map λd=>bn (be E c) (aX e) a d.toNat)):=by
    refine bI λD d0=>?_;by_cases p:D=a
    ·subst p;rw[ei,ei,R,fN];rfl
    rw[ew _ _ p,ew _ _ p,ew _ _ p]
   rw[al];refine ae.ag.2 ⟨_,u.set _,?_,?_,rfl⟩
   ·rw[R,<-jb];exact l3.add w ⟨d4,ce,w,co⟩ o _ _
   intro i m;rw[R,eN,eI] at m;rcases m with m|rfl
   ·exact v i m
   exact K
  rintro _ ⟨k,u,t,v,rfl⟩;dsimp only;rw[List.take_of_length_le (Nat.le_refl _)] at t v|-;rw[bi (az (show¬((f.length:Int)<ay f) by rw[a1];omega))];refine ae.ag.2 (.inl ⟨k,u,t,v,?_⟩);have al:aw b (bU (λg=>if g<a then fZ (be E c) e g else[]) a (bn (be E c) (aX e) a a::f.map λd=>bn (be E c) (aX e) a d.toNat))=aw b λg=>if g<a+1 then fZ (be E c) e g else[]:=by
   refine bI λD d0=>?_;by_cases p:D=a
   ·subst p;rw[ei,ai U,d1]
   rw[ew _ _ p];by_cases Y:D<a
   ·rw[ai Y,ai U]
   rw[ah Y,ah U]
  rw[al]
 rintro T (⟨k,u,t,v,rfl⟩|⟨W,rfl,i,m,d3⟩)
 ·dsimp only;refine ae.ag.2 ?_;rw[n,if_pos (O.2 ⟨J,v⟩)];exact⟨rfl,λ_=>⟨k,u.next (by rw[cs];exact t),rfl⟩⟩
 dsimp only;refine ae.ag.2 ?_;rw[n,if_neg (λh=>(O.1 h).2 i m d3)];exact⟨rfl,λh=>by cases h⟩
def ki (a:adU):Nat->ad5
 |0=>[]
 |j+1=>ki a j++bc a j
def se (a:Nat->Nat->adZ) (b:adU):Nat->ad5
 |0=>[]
 |j+1=>se a b j++fZ a b j
def oS (c:Nat->Nat->adZ) (a:adU) (e:ad5) (b:Nat):es:=(e,(aw (b+1) (λd=>((ki a d).length:Int)),(ki a b,(se c a b,()))))
def gA:es:=(([]:aN),(([]:aN),(([]:aN),(([]:aN),()))))
def iY (b:Nat->Nat->adZ) (c:adU) (e:ad5) (d:Nat):nA:=match(List.range d).find? λa=>decide (dz b c a≠0) with
 |some a=>if dz b c a=231 then(gA,(a:Int),231,()) else(gA,0,dz b c a,())
 |none=>(oS b c e d,(d:Int),0,())
def F7 {o:ad5} (f:∀c,c<a->dz d e c=0) (h:a<b) (g:dz d e a≠0):iY d e o b=if dz d e a=231 then(gA,(a:Int),231,()) else(gA,0,dz d e a,()):=by have:(List.range b).find? (λa=>decide (dz d e a≠0))=some a:=(by rw[List.find?_eq_some_iff_getElem];refine⟨aB g,a,by simpa using h,ac,λc i=>?_⟩;simp only[List.getElem_range];simpa using f c i);unfold iY;rw[this]
def CC (f:∀b,b<a->dz d e b=0):iY d e c a=(oS d e c a,(a:Int),0,()):=by have:(List.range a).find? (λh=>decide (dz d e h≠0))=none:=(by rw[List.find?_eq_none];intro b g;simpa using f b (fe.1 g));unfold iY;rw[this]
def Sa (b:dz d e a=0):∀c,aX e a c=true->bG (bn d (aX e) a c)≠2047:=by
 unfold dz at b;split at b
 ·cases b
 split at b
 ·assumption
 cases b
def yw (c:∀b,b<a->dz d e b=0):i9 d e a:=λb f=>Sa (c b f)
def Cu (a:adU):∀j,(ki a j).length<=j*a.length
 |0=>bE _
 |j+1=>by rw[ki,oi,eO,hD];have:=Cu a j;have:=vf (G:=a) j;omega
def DU (b:Nat->Nat->adZ) (a:adU):∀j,(se b a j).length=(ki a j).length
 |0=>rfl
 |j+1=>by rw[ki,se,oi,oi,DU b a j];unfold fZ;rw[gE]
def Rc (d:c.length<=100000000):Bi (c,())=some (c,()):=by
 unfold Bi;have a:((bN (([]:ad5).length+c.length)).bind λ_=>some (([]++c:ad5),()))=some (c,()):=(by rw[dQ (by simp;omega)];rfl);show m7 c.length (some ([],())) ((bN (([]:ad5).length+c.length)).bind λ_=>some (([]++c:ad5),()))=_;unfold m7;rw[a];split
 ·rename_i b;obtain rfl:=lX b;rw[ai rfl]
 rfl
def Kc (q:a<=5) (o:e.length=a) (r:c.length<=1000000) (f:List g5) (bw:adU):xl (some (aw a (bc e),aw a (fZ d e),f,bw,()),c,())=some (oS d e c a,()):=by
 unfold xl;refine aq (Rc U) ?_;refine aq rfl ?_;refine ae.eq_iff.1 ?_;dsimp only;refine ae.aU (P:=λh=>h=(gA,oS d e c a,())) ?_ (by rintro _ rfl;exact ae.ag.2 rfl);refine ae.steps a (λb i=>i=((b:Int),gA,(c,(aw (b+1) (λg=>((ki e g).length:Int)),(ki e b,(se d e b,())))),())) ?_ ?_ ?_
 ·rfl
 ·rintro b _ p rfl;dsimp only;rw[bo (aB (show(b:Int)<ay (aw a (bc e)) by rw[a1,bk];omega)),bt U];refine ae.bs rfl ?_;refine ae.bs (by rw[bQ (by rw[bk];omega),fD]) ?_;have j:=Cu e b;have k:=vf (G:=e) b;have l:=DU d e b;have m:b*e.length<=5*5:=Nat.mul_le_mul U U;have n:(fZ d e b).length=(bc e b).length:=(by unfold fZ;rw[List.length_map]);rw[dQ U];refine ae.bs rfl (ae.bs rfl ?_);refine ae.bs (by rw[bQ (by rw[bk];omega),fD]) ?_;rw[dQ U];refine ae.bs rfl ?_;rw[dQ (by rw[bk];simp;omega)];refine ae.bs rfl (ae.ag.2 ?_);rw[nL (b+1)];rfl
 rintro _ rfl;dsimp only;rw[bi (az (show¬((a:Int)<ay (aw a (bc e))) by rw[a1,bk];omega))];exact ae.ag.2 rfl
def PD {n:Nat} (g:n<=5) (e:gn n n i h r) (H:eG n n i h r=0) (p:dY c n):xj (((n:Int),(n:Int),i,h,r,()),c,())=some (iY (be (bv i h r n) c) (gb n (dq (bv i h r n)) c) c n):=by
 obtain⟨z,D,F⟩:=D5 g e H p;have q:=rA (E:=dq (bv i h r n)) p;have C:=tD n (dq (bv i h r n)) c;have B:=yx (E:=dq (bv i h r n)) g p;have L:=p.1;unfold xj;refine aq F ?_;dsimp only;rw[bi (show((0:Int)!=0)=false from rfl)];generalize gb n (dq (bv i h r n)) c=b at*;generalize bv i h r n=E at*;refine aq (I7 g q C B z) (aq rfl ?_);refine ae.eq_iff.1 ?_;dsimp only;refine ae.aU (P:=λt=>(t=.inr (iY (be E c) b c n))\/(∃d,t=.inl (gA,(aw n (bc b),aw n (fZ (be E c) b),d,(aw n λs=>gr b n s),()),()))/\iY (be E c) b c n=(oS (be E c) b c n,(n:Int),0,())) ?_ ?_
 ·refine ae.steps n (λf I=>(∀a,a<f->dz (be E c) b a=0)/\∃d,ls (be E c) b n f d/\I=((f:Int),gA,(aw n (bc b),(aw n λa=>if a<f then fZ (be E c) b a else[]),d,(aw n λs=>gr b n s),()),())) ?_ ?_ ?_
  ·exact⟨λa e=>absurd e U,aw n (λ_=>none),⟨bk _ _,λa e=>absurd e U⟩,rfl⟩
  ·rintro f _ y ⟨j,d,v,rfl⟩;dsimp only;rw[bo (aB (U:(f:Int)<(n:Int))),bt U];refine ae.aU (Rt g D q y (yw j) v) ?_;rintro⟨J,K,_⟩ ⟨x,w⟩;dsimp only at x w|-;subst x;rw[dB,br];refine ae.ite (λk=>?_) (λk=>?_)
   ·obtain⟨A,G,rfl⟩:=w k;refine ae.ag.2 ⟨λa e=>?_,A,G,rfl⟩;rcases bg a f with m|m
    ·exact j a m
    obtain rfl:a=f:=U;exact k
   rw[dB,br];have u:=F7 (o:=c) j y k;refine ae.ite (λl=>?_) (λl=>?_)
   ·refine ae.ag.2 (.inl ?_);rw[u,ai l,l];rfl
   refine ae.ag.2 (.inl ?_);rw[u,ah l];rfl
  rintro _ ⟨j,d,v,rfl⟩;dsimp only;rw[bi (az (U:¬((n:Int)<(n:Int))))];refine ae.ag.2 (.inr ⟨⟨d,?_⟩,CC j⟩);have:(aw n λa=>if a<n then fZ (be E c) b a else[])=aw n (fZ (be E c) b):=bI λa e=>if_pos e;rw[this]
 rintro t (rfl|⟨⟨d,rfl⟩,m⟩)
 ·exact ae.ag.2 rfl
 dsimp only;refine ae.bs (Kc g q U d _) ?_;rw[m];exact ae.ag.2 rfl
def Tw (e:ez f):BR (f,())=some (decide (oY f=0),()):=by
 unfold BR;have d:oY f=0↔f=0\/f=9223372036854775808:=by
  unfold oY bG e8;obtain⟨g,h⟩:=e;constructor
  ·intro a;split at a
   ·split at a<;>cases a
   split at a
   ·omega
   cases a
  intro a;rw[ah U,ai U]
 dsimp only;rw[dB,dB];by_cases b:f=0
 ·rw[aB b,aB (d.2 (.inl b))];rfl
 rw[az b];by_cases c:f=9223372036854775808
 ·rw[aB c,aB (d.2 (.inr c))];rfl
 rw[az c,az (λa=>(d.1 a).elim b c)];rfl
def XU (a:ez f) (b:ez p):ye (f,p,())=some (a8 (kK (dJ f) (dJ p)),()):=by unfold ye;refine aq (zj a) (aq (zj b) ?_);exact aq (Yp (kL _) (kL _)) rfl
def YE (a:ec y):yf (a8 y,())=some (js y 0,()):=by unfold yf;exact aq (Yz a) rfl
def XZ {a:adZ} (b:ec y) (c:ec a):BS (a8 y,a8 a,())=some (lh y a 0,()):=by unfold BS;exact aq (Yy b c) rfl
def eR (e:Nat->Nat->adZ) (b:adU) (d f a c:Nat):Int:=if(a<d/\aX b a c=true)\/(a=d/\(c:Int)∈(bc b d).take f) then bn e (aX b) a c else 0
def Oy (i:a<g) (h:b≠a):eR d e g o a b=bn d (aX e) a b:=by
 unfold eR;by_cases c:aX e a b=true
 ·rw[ai (.inl ⟨i,c⟩)]
 rw[ah (by rintro(⟨_,f⟩|⟨f,_⟩);exact c f;omega),rL (by simpa using c) h]
def ZS:eR d e 0 0 b a=0:=by unfold eR;rw[ah ac]
def ZQ:eR d e b (bc e b).length a g=eR d e (b+1) 0 a g:=by
 have i:(a<b/\aX e a g=true\/a=b/\(g:Int)∈bc e b)↔a<b+1/\aX e a g=true:=by
  constructor
  ·rintro(⟨j,f⟩|⟨rfl,f⟩)
   ·exact⟨U,f⟩
   exact⟨U,by unfold aX;exact aB f⟩
  rintro⟨j,f⟩;rcases bg a b with c|c
  ·exact .inl ⟨c,f⟩
  obtain rfl:a=b:=U;exact .inr ⟨rfl,by unfold aX at f;exact of_decide_eq_true f⟩
 unfold eR;rw[dm (a2 _)];by_cases h:a<b+1/\aX e a g=true
 ·rw[ai (i.2 h),ai (.inl h)]
 rw[ah (λc=>h (i.1 c)),ah (by rintro(c|⟨_,c⟩);exact h c;simp at c)]
def ig (a:Nat) (b:Nat->Nat->Int):adU:=aw a λc=>aw a (b c)
def Yc (S:g<=5) (Q:∀b a,ec (d b a)) (H:a<g) (G:b<g) (R:a<=b) (n k:es):ae (loop (σ:=(Int×es×List aN×es×gF×Unit)) (ρ:=(es×List aN×es×gF×Unit)) (λ(j,v,c,p,m,_)=>
 bif decide (j<(a:Int)) then
 (bh c.length j).bind λs=>
 ((aZ c s λx=>some x).bind λz=>bh z.length (b:Int)).bind λJ=>
 (aZ c s λA=>aZ A J λB=>some B).bind λO=>
 (bh c.length j).bind λt=>
 ((aZ c t λC=>some C).bind λD=>bh D.length (a:Int)).bind λK=>
 (aZ c t λE=>aZ E K λF=>some F).bind λP=>
 (ye (O,P,())).bind λ(M,_)=>
 (x1 (M,())).bind λ(u,_)=>
 (bN (m.length+([u]).length)).bind λ_=>
 some (.inl (aY j,v,c,p,(m++[u]),())) else
 some (.inr (v,c,p,m,()))) (0,n,ig g (eR d e a o),k,[a8 (d b a)],())) λL=>L=(n,ig g (eR d e a o),k,(d b a::(List.range a).map (ih (bn d (aX e)) b a)).map a8,()):=by
 refine ae.steps a (λf N=>N=((f:Int),n,ig g (eR d e a o),k,(d b a::(List.range f).map (ih (bn d (aX e)) b a)).map a8,())) rfl ?_ ?_
 ·rintro f _ r rfl;dsimp only;rw[bo (aB (U:(f:Int)<(a:Int))),bt U];have q:(ig g (eR d e a o)).length=g:=bk _ _;have h:∀i,i<g->∀{w:Type} (l:ad5->Option w),aZ (ig g (eR d e a o)) i l=l (aw g (eR d e a o i)):=λi I w l=>dn I;refine ae.bs (dd (by rw[q];omega)) ?_;rw[h f U];refine ae.bs (y:=b) ?_ ?_
  ·rw[aG,dd (by rw[bk];omega)]
  rw[h f U,dn G];refine ae.bs rfl ?_;refine ae.bs (dd (by rw[q];omega)) ?_;rw[h f U];refine ae.bs (y:=a) ?_ ?_
  ·rw[aG,dd (by rw[bk];omega)]
  rw[h f U,dn H];refine ae.bs rfl ?_;rw[Oy r U,Oy r U];refine ae.bs (XU (tP _ _ _ _) (tP _ _ _ _)) ?_;dsimp only;refine ae.bs (Yq (CP _ _)) ?_;dsimp only;rw[dQ (by simp;omega)];refine ae.ag.2 ?_;rw[List.range_succ,List.map_append,<-List.cons_append,List.map_append];rfl
 rintro _ rfl;dsimp only;rw[bi (az (U:¬((a:Int)<(a:Int))))];exact ae.ag.2 rfl
def ly (b:Nat->Nat->adZ) (c:adU) (a:Nat):Prop:=n0 (hd b (bn b (aX c)) a a)<=0\/oY (bn b (aX c) a a)=0
def J5 (b:ly d e a):dz d e a=231:=by unfold dz;exact ai b
def Sb (c:¬ly d e a) (g:aX e a b=true) (f:bG (bn d (aX e) a b)=2047):dz d e a=233:=by unfold ly at c;unfold dz;rw[ah c,ah (λc=>c b g f)]
def Fl (b:¬ly d e a) (f:∀h∈bc e a,bG (bn d (aX e) a h.toNat)≠2047):dz d e a=0:=by unfold ly at b;unfold dz;rw[ah b,ai];intro g c;exact f (g:Int) (by unfold aX at c;exact of_decide_eq_true c)
def nM (c:Nat->Nat->adZ) (a:adU) (g:ad5) (b d:Nat):es:=(g,(aw (b+1) (λf=>((ki a f).length:Int)),(ki a b++(bc a b).take d,(se c a b++((bc a b).take d).map (λe=>bn c (aX a) b e.toNat),()))))
def ZR (l:b<(bc e a).length) (n:(bc e a)[b]=(g:Int)) (p:a<o) (r:g<o):(ig o (eR d e a b)).set a ((aw o (eR d e a b a)).set g (bn d (aX e) a g))=ig o (eR d e a (b+1)):=by
 have k:(bc e a).take (b+1)=(bc e a).take b++[(g:Int)]:=(by rw[ir,a9 l,n];rfl);unfold ig;rw[e9,e9];refine bI λf q=>?_;by_cases h:f=a
 ·subst h;rw[ei];refine bI λc m=>?_;by_cases j:c=g
  ·subst j;rw[ei];unfold eR;rw[ai (.inr ⟨rfl,by rw[k];simp⟩)]
  rw[ew _ _ j];unfold eR;have:(c:Int)∈(bc e f).take (b+1)↔(c:Int)∈(bc e f).take b:=(by rw[k,eN,eI];exact⟨λi=>i.resolve_right U,.inl⟩);simp only[this]
 rw[ew _ _ h];refine bI λc m=>?_;unfold eR;have:(f=a/\(c:Int)∈(bc e a).take (b+1))↔(f=a/\(c:Int)∈(bc e a).take b):=(by constructor<;>(rintro⟨i,_⟩;exact absurd i h));simp only[this]
def X7 (O:a<=5) (v:gn a a i h r) (L:eG a a i h r=0) (w:dY c a):BU (((a:Int),(a:Int),i,h,r,()),c,())=some (iY (be (bv i h r a) c) (gb a (dq (bv i h r a)) c) c a):=by
 classical
 have bB:=rA (E:=dq (bv i h r a)) w;have ce:=tD a (dq (bv i h r a)) c;have bl:=yx (E:=dq (bv i h r a)) O w;have d8:=w.1;have bd:=λp b (c1:p<a) (t:b<a)=>X4 v L w c1 t;unfold BU;refine aq (Dj v U) ?_;have d2:(if eG a a i h r≠0 then eG a a i h r else if a≠a then 5 else if dY c a then 0 else 90)=0:=(by rw[if_neg (not_not_intro L),if_neg (not_not_intro rfl),if_pos w]);rw[d2];dsimp only;rw[bi (show((0:Int)!=0)=false from rfl)];refine aq (G7 O v L w) ?_;dsimp only;generalize gb a (dq (bv i h r a)) c=d at*;generalize bv i h r a=E at*;refine aq (Nv ce bl U) ?_;dsimp only;rw[bB];have co:(List.range a).map (bc d)=aw a (bc d):=rfl;rw[co];generalize a4:be E c=e at*;have Y:∀p b,ec (e p b):=λp b=>(by rw[<-a4];exact kL _);refine ae.eq_iff.1 ?_;refine ae.bs (fU U) ?_;refine ae.aU (P:=λap=>ap=(gA,ig a (eR e d 0 0),())) ?_ ?_
 ·refine ae.steps a (λb B=>B=((b:Int),gA,aw a (λk=>if k<b then aw a (eR e d 0 0 k) else[]),())) ?_ ?_ ?_
  ·rw[gU];rfl
  ·rintro b _ t rfl;dsimp only;rw[bo (aB (U:(b:Int)<(a:Int))),bt U];refine ae.bs (fU U) ?_;rw[jZ (by rw[bk];omega),e9,gU];refine ae.ag.2 ?_;have:aw a (bU (λk=>if k<b then aw a (eR e d 0 0 k) else[]) b (aw a λ_=>0))=aw a (λk=>if k<b+1 then aw a (eR e d 0 0 k) else[]):=by
    refine bI λS an=>?_;by_cases l:S=b
    ·subst l;rw[ei,ai U];exact bI λp _=>ZS.symm
    rw[ew _ _ l];by_cases s:S<b
    ·rw[ai s,ai U]
    rw[ah s,ah U]
   rw[this]
  rintro _ rfl;dsimp only;rw[bi (az (U:¬((a:Int)<(a:Int))))];have:aw a (λk=>if k<a then aw a (eR e d 0 0 k) else[])=ig a (eR e d 0 0):=bI λS an=>if_pos an;rw[this];exact ae.ag.2 rfl
 rintro _ rfl;dsimp only;rw[dQ (by simp;omega),Option.bind_some];refine ae.aU (P:=λn=>(n=.inr (iY e d c a))\/(n=.inl (gA,oS e d c a,())/\iY e d c a=(oS e d c a,(a:Int),0,()))) ?_ ?_
 ·refine ae.steps a (λb B=>(∀k,k<b->dz e d k=0)/\B=((b:Int),gA,ig a (eR e d b 0),nM e d c b 0,())) ?_ ?_ ?_
  ·exact⟨λk v=>absurd v U,rfl⟩
  ·rintro b _ t ⟨z,rfl⟩;dsimp only;rw[bo (aB (U:(b:Int)<(a:Int))),bt U];have d6:=yw z;have Z:=λm=>F7 (o:=c) z t m;obtain⟨ap,H,d9⟩:=JD (G:=d) (j:=b) U;have d5:=vf (G:=d) b;have N:=tP e (aX d);have ad:bn e (aX d) b b=js (hd e (bn e (aX d)) b b) 0:=by
    rw[m3];unfold kG;rw[ai rfl]
   have d0:∀p,p≠b->aX d b p=true->bn e (aX d) b p=lh (hd e (bn e (aX d)) b p) (dJ (bn e (aX d) b b)) 0:=λp a0 X=>(by rw[m3];unfold kG;rw[ah a0,ai X,<-ad]);have d1:∀p,∀W∈(e p b::(List.range b).map (ih (bn e (aX d)) p b)),ec W:=λp W K=>by
    rcases dx.1 K with rfl|K
    ·exact Y _ _
    obtain⟨k,_,rfl⟩:=de.1 K;exact DF _ _ _ _
   have d7:=Cu d b;have ed:=DU e d b;have d4:b*d.length<=5*5:=it U U;refine ae.aU (P:=λn=>(∃q,n=.inr (.inr (.inr q))/\q=iY e d c a)\/(n=.inl (gA,ig a (eR e d b (bc d b).length),nM e d c b (bc d b).length,())/\dz e d b=0)) ?_ ?_
   ·refine ae.steps (bc d b).length (λf B=>(0<f->¬ly e d b)/\(∀T∈(bc d b).take f,bG (bn e (aX d) b T.toNat)≠2047)/\B=((f:Int),gA,ig a (eR e d b f),nM e d c b f,())) ?_ ?_ ?_
    ·exact⟨λm=>absurd m U,ac,rfl⟩
    ·rintro f _ x ⟨Q,C,rfl⟩;dsimp only;have D:aC (aw a (bc d)) (b:Int)=some (bc d b):=(by rw[bQ (by rw[bk];omega),fD]);refine ae.bs D ?_;rw[bo (aB (show(f:Int)<ay (bc d b) by rw[a1];omega)),bt U];obtain⟨g,R,ek,ds,ab⟩:=xg (G:=d) (j:=b) (List.getElem_mem x);have I:g<a:=U;have am:(bc d b).take (f+1)=(bc d b).take f++[(g:Int)]:=(by rw[List.take_add_one,List.getElem?_eq_getElem x,R];rfl);have d3:g=b↔f=0:=by
      constructor
      ·intro m;rcases gk f with l|l
       ·exact l
       have X:=gj.1 (xf d b) 0 f U x l;have a3:(bc d b)[0]'(by omega)=(b:Int):=by simp only[H,List.getElem_cons_zero]
       omega
      rintro rfl;have a3:(bc d b)[0]'(by omega)=(b:Int):=by simp only[H,List.getElem_cons_zero]
      omega
     refine ae.aU (P:=λn=>(∃q,n=.inr (.inr (.inr (.inr (.inr q))))/\q=iY e d c a)\/(n=.inl (gA,ig a (eR e d b (f+1)),nM e d c b (f+1),())/\¬ly e d b/\bG (bn e (aX d) b g)≠2047)) ?_ ?_
     ·refine ae.bs D (ae.bs (y:=(g:Int)) (by rw[bQ x,R]) ?_);refine ae.bs (bd g b I t) ?_;dsimp only;refine ae.aU (Yc O Y t I ds gA (nM e d c b f)) ?_;rintro _ rfl;dsimp only;refine ae.bs (Nu (d1 g) (by simp;omega)) ?_;dsimp only;change ae (Option.bind (bif (g:Int)==(b:Int) then(yf (a8 (hd e (bn e (aX d)) b g),())).bind _ else _) _) _;rw[dB];refine ae.aU (P:=λn=>(∃q,n=.inr (.inr (.inr (.inr (.inr (.inr q)))))/\q=iY e d c a)\/(n=.inl (bn e (aX d) b g,gA,ig a (eR e d b f),nM e d c b f,())/\¬ly e d b)) ?_ ?_
      ·rw[br];refine ae.ite (λl=>?_) (λl=>?_)
       ·obtain rfl:g=b:=U;have ci:ly e d g->iY e d c a=(gA,(g:Int),231,()):=λm=>by
         rw[Z (by rw[J5 m];decide),ai (J5 m)]
        refine ae.bs (YE (r7 _ _ _ _)) ?_;dsimp only;rw[<-ad];refine ae.aU (P:=λn=>n=(decide (ly e d g),gA,ig a (eR e d g f),nM e d c g f,())) ?_ ?_
        ·refine ae.bs (Yr (r7 _ _ _ _)) ?_;dsimp only;rw[sX];refine ae.ite (λs=>?_) (λs=>?_)
         ·refine ae.ag.2 ?_;rw[aB (show ly e d g from .inl s)]
         refine ae.bs (Tw (N g g)) (ae.ag.2 ?_);have:ly e d g↔oY (bn e (aX d) g g)=0:=⟨λm=>m.resolve_left s,.inr⟩;rw[decide_eq_decide.2 this]
        rintro _ rfl;dsimp only;rw[br];refine ae.ite (λs=>?_) (λs=>?_)
        ·exact ae.ag.2 (.inl ⟨_,rfl,(ci s).symm⟩)
        exact ae.ag.2 (.inr ⟨rfl,s⟩)
       have cs:0<f:=by
        rcases gk f with m|m
        ·exact absurd (d3.2 m) U
        exact m
       have M:(ig a (eR e d b f)).length=a:=bk _ _;have A:∀{V:Type} (l:ad5->Option V),aZ (ig a (eR e d b f)) b l=l (aw a (eR e d b f b)):=λl=>dn t;refine ae.bs (dd (by rw[M];omega)) ?_;refine ae.bs (y:=b) ?_ ?_
       ·rw[A,aG,dd (by rw[bk];omega)]
       rw[A,dn t];refine ae.bs rfl ?_;have dl:(b:Int)∈(bc d b).take f:=by
        rw[H];cases f with
        |zero=>omega
        |succ f=>simp
       have c2:eR e d b f b b=bn e (aX d) b b:=(by unfold eR;exact if_pos (.inr ⟨rfl,dl⟩));rw[c2];refine ae.bs (zj (N b b)) ?_;dsimp only;refine ae.bs (XZ (r7 _ _ _ _) (kL _)) ?_;change ae (some (Sum.inl (lh (hd e (bn e (aX d)) b g) (dJ (bn e (aX d) b b)) 0,gA,ig a (eR e d b f),nM e d c b f,()))) _;rw[<-d0 g U ab];exact ae.ag.2 (.inr ⟨rfl,Q cs⟩)
      rintro n (⟨q,rfl,u⟩|⟨rfl,F⟩)
      ·exact ae.ag.2 (.inl ⟨q,rfl,u⟩)
      dsimp only;refine ae.bs (Ds (N b g)) ?_;dsimp only;rw[Bool.not_not,br];refine ae.ite (λl=>?_) (λl=>?_)
      ·refine ae.ag.2 (.inl ⟨_,rfl,?_⟩);have u:=Sb F ab l;rw[Z (by rw[u];decide),u,ah aa];rfl
      have M:(ig a (eR e d b f)).length=a:=bk _ _;have A:∀{V:Type} (l:ad5->Option V),aZ (ig a (eR e d b f)) b l=l (aw a (eR e d b f b)):=λl=>dn t;refine ae.bs (dd (by rw[M];omega)) ?_;refine ae.bs (y:=g) ?_ ?_
      ·rw[A,aG,dd (by rw[bk];omega)]
      rw[A,dn I];refine ae.bs rfl ?_;dsimp only;rw[ZR x R t I];unfold nM;dsimp only;rw[dQ (by simp;omega),Option.bind_some,dQ (by simp;omega),Option.bind_some];refine ae.ag.2 (.inr ⟨?_,F,l⟩);rw[am,List.map_append,List.append_assoc,List.append_assoc];rfl
     rintro n (⟨q,rfl,u⟩|⟨rfl,F,cv⟩)
     ·exact ae.ag.2 (.inl ⟨q,rfl,u⟩)
     refine ae.ag.2 ⟨λ_=>F,λT J=>?_,rfl⟩;rw[am,eN,eI] at J;rcases J with J|rfl
     ·exact C T J
     exact cv
    rintro _ ⟨Q,C,rfl⟩;dsimp only;have D:aC (aw a (bc d)) (b:Int)=some (bc d b):=(by rw[bQ (by rw[bk];omega),fD]);refine ae.bs D ?_;rw[bi (az (show¬(((bc d b).length:Nat):Int)<ay (bc d b) by rw[a1];omega))];rw[List.take_of_length_le (Nat.le_refl _)] at C;exact ae.ag.2 (.inr ⟨rfl,Fl (Q (by rw[H];simp)) C⟩)
   rintro n (⟨q,rfl,u⟩|⟨rfl,av⟩)
   ·exact ae.ag.2 (.inl (by rw[u]))
   dsimp only;unfold nM;dsimp only;rw[List.take_of_length_le (Nat.le_refl _)];rw[dQ (by rw[bk];simp;omega),Option.bind_some];refine ae.ag.2 ⟨λk v=>?_,?_⟩
   ·rcases bg k b with m|m
    ·exact z k m
    obtain rfl:k=b:=U;exact av
   have al:ig a (eR e d b (bc d b).length)=ig a (eR e d (b+1) 0):=bI λk _=>bI λp _=>ZQ;rw[al,nL (b+1),List.take_zero,kB,qO,kB];rfl
  rintro _ ⟨z,rfl⟩;dsimp only;rw[bi (az (U:¬((a:Int)<(a:Int))))];refine ae.ag.2 (.inr ⟨?_,CC z⟩);unfold nM oS;rw[List.take_zero,List.append_nil,List.map_nil,List.append_nil]
 rintro n (rfl|⟨rfl,m⟩)
 ·exact ae.ag.2 rfl
 rw[m];exact ae.ag.2 rfl
def yV {m:Int} {a k:Nat} (b:m.natAbs=2*a+1):a7 (m*2^k)=m/\eQ (m*2^k)=(k:Int)-65536:=by have c:(m*2^k).natAbs=(2*a+1)*2^k:=(by rw[lN,b]);have d:=wB c;unfold a7 eQ;rw[d];exact⟨Int.mul_ediv_cancel _ (by have:(0:Int)<2^k:=nq aa;omega),rfl⟩
def G4 (b:f≠0) (a:Nat):f*2^a≠0:=Int.mul_ne_zero b (by have:(0:Int)<2^a:=nq aa;omega)
def Gm {m:Int} {a:Nat} (d:m.natAbs=2*a+1) {t:Nat} (n:f+t+65536=(b:Int)) (k:-65536<=f) (l:f+t+aA m.natAbs<=65536):fa (m*2^t) f=some (m*2^b):=by have j:m≠0:=U;have e:(m*2^t).natAbs=(2*a+1)*2^t:=(by rw[lN,d]);have g:=wB e;have h:aA (m*2^t).natAbs=aA m.natAbs+t:=(by rw[lN,lE U]);unfold fa;rw[ah (G4 j t),g,h,ah U];obtain⟨c,i⟩:=eH (U:0<=f+65536);rw[i];show some (n1 (m*2^t) (c:Int))=_;rw[n2,jy,<-jz,(U:t+c=b)]
def Fr {m:Int} {a t k:Nat} (c:f=m*2^t) (b:m.natAbs=2*a+1) (e:(t:Int)+65536=(k:Int)) (d:t+aA m.natAbs<=65536):lJ f=some (m*2^k):=by unfold lJ;rw[c];exact Gm b U aa U
def Fv {a:Nat} (d:f.natAbs=2*a+1) (e:0<f) (c:Int):nX (some (f*2^b)) c=iA false f.natAbs ((b:Int)-65536) false c:=by obtain⟨g,h⟩:=yV (k:=b) d;show zi (f*2^b) c=_;unfold zi;rw[ah (G4 U b),g,h,az];have:(0:Int)<f*2^b:=oc e (nq aa);omega
def SC {a:Nat} (c:f.natAbs=2*a+1) (d:0<f):js (some (f*2^b)) 0=o8 (iL f.natAbs ((b:Int)-65536)) f.natAbs ((b:Int)-65536) 0:=by obtain⟨e,g⟩:=yV (k:=b) c;have:(0:Int)<f*2^b:=oc d (nq aa);show(if f*2^b<0 then(9221120237041090560:Int) else if f*2^b=0 then 0 else nY (f*2^b) 0)=_;rw[ah U,ah U];unfold nY;rw[e,g]
def SB {a b:Nat} (e:f.natAbs=2*a+1) (h:0<f) (c:p.natAbs=2*b+1) (d:0<p):lh (some (f*2^g)) (some (p*2^o)) 0=qr (lP f.natAbs p.natAbs) f.natAbs p.natAbs false ((g:Int)-65536-((o:Int)-65536)) 0:=by obtain⟨i,j⟩:=yV (k:=g) e;obtain⟨l,m⟩:=yV (k:=o) c;have n:(0:Int)<f*2^g:=oc h (nq aa);have q:(0:Int)<p*2^o:=oc d (nq aa);show(if p*2^o=0 then(9221120237041090560:Int) else if f*2^g=0 then 0 else r2 (f*2^g) (p*2^o) 0)=_;rw[ah U,ah U];unfold r2;rw[i,j,l,m,az U,az U];rfl
def Cd {a t:Nat} (c:p.natAbs=2*a+1) (g:(if f<9223372036854775808 then if bG f=0 then e8 f else e8 f+4503599627370496 else-(if bG f=0 then e8 f else e8 f+4503599627370496))=p*2^t) (e:bG f≠2047) (h:(if bG f=0 then-1074 else bG f-1075)+(t:Int)+65536=(b:Int)) (d:(if bG f=0 then-1074 else bG f-1075)+(t:Int)+aA p.natAbs<=65536):dJ f=some (p*2^b):=by unfold dJ;rw[ah e,g];refine Gm c h ?_ d;have:=yo f;split<;>omega
def f4:nX (lJ 4) 0=4616189618054758400:=by rw[Fr (m:=1) (a:=0) (t:=2) (k:=65538) aa aa aa aa,Fv (a:=0) aa aa];decide
def f2:nX (lJ 2) 0=4611686018427387904:=by rw[Fr (m:=1) (a:=0) (t:=1) (k:=65537) aa aa aa aa,Fv (a:=0) aa aa];decide
def f5:nX (lJ 5) 0=4617315517961601024:=by rw[Fr (m:=5) (a:=2) (t:=0) (k:=65536) aa aa aa aa,Fv (a:=2) aa aa];decide
def v4:dJ 4616189618054758400=some (1*2^65538):=Cd (a:=0) (t:=52) aa aa aa aa aa
def fc:dJ 4611686018427387904=some (1*2^65537):=Cd (a:=0) (t:=52) aa aa aa aa aa
def DQ:dJ 4617315517961601024=some (5*2^65536):=Cd (a:=2) (t:=50) aa aa aa aa aa
def v1:dJ 4607182418800017408=some (1*2^65536):=Cd (a:=0) (t:=52) aa aa aa aa aa
def aR:js (some (1*2^65538)) 0=4611686018427387904:=by rw[SC (a:=0) aa aa];decide+kernel
def ax:lh (some (1*2^65537)) (some (1*2^65537)) 0=4607182418800017408:=by rw[SB (a:=0) (b:=0) aa aa aa aa];decide
def ym:ad5:=[0,1,1]
def yn:ad5:=[0,2,3]
def tv:ad5:=[4616189618054758400,4611686018427387904,4617315517961601024]
def SE:gn 2 2 yn ym tv where
 hr:=by decide
 hc:=by decide
 hi:=by decide
 hs:=by decide
 hv:=by decide
 hw:=λb a=>by unfold tv at a;simp only[dx,List.not_mem_nil,or_false] at a;rcases a with rfl|rfl|rfl<;>exact⟨aa,aa⟩
def SF:eB 2 2 yn ym tv where
 len:=rfl
 first:=rfl
 mono:=λb e=>by have:b=0\/b=1:=U;rcases this with rfl|rfl<;>decide
 last:=rfl
 val:=rfl
 rng:=λb a e c d=>by
  have:b=0\/b=1:=U;rcases this with rfl|rfl
  ·change(0:Int)<=a at c;change(a:Int)<2 at d;have:a=0\/a=1:=U;rcases this with rfl|rfl<;>exact⟨aa,aa⟩
  change(2:Int)<=a at c;change(a:Int)<3 at d;have:a=2:=U;subst this;exact⟨aa,aa⟩
 asc:=λb a e c d=>by
  have:b=0\/b=1:=U;rcases this with rfl|rfl
  ·change(0:Int)<a at c;change(a:Int)<2 at d;have:a=1:=U;subst this;decide
  change(2:Int)<a at c;change(a:Int)<3 at d;omega
def Sr:eG 2 2 yn ym tv=0:=by refine iU.2 ⟨SF,λa b=>?_⟩;have:a=0\/a=1\/a=2:=(by have:tv.length=3:=rfl;omega);rcases this with rfl|rfl|rfl<;>decide
def Sz:dY [0,1] 2:=⟨rfl,λb a=>by
 simp only[dx,List.not_mem_nil,or_false] at a;rcases a with rfl|rfl<;>exact⟨aa,aa⟩,aa⟩
def p6:List bD:=[(0,0,4616189618054758400,()),(1,0,4611686018427387904,()),(1,1,4617315517961601024,())]
def Su:bv yn ym tv 2=p6:=rfl
def fS:adU:=[[1],[0]]
def Sv:gb 2 (dq p6) [0,1]=fS:=by decide
def Cc:bc fS 0=[0,1]:=by have a:jw fS 0 0:=.inl rfl;have b:jw fS 0 1:=.inr ⟨aa,.one ⟨aa,aa⟩⟩;unfold bc jl;show((List.filter _ [0,1]).map _)=_;simp[jd,a,b]
def Fq:bc fS 1=[1]:=by have a:jw fS 1 1:=.inl rfl;unfold bc jl;show((List.filter _ [0,1]).map _)=_;simp[jd,a]
def Sl:be p6 [0,1] 0 0=some (1*2^65538):=v4
def Sm:be p6 [0,1] 1 0=some (1*2^65537):=fc
def Sn:be p6 [0,1] 1 1=some (5*2^65536):=DQ
def Oq (b:ec y):gB [y]=y:=by
 cases y with
 |none=>rfl
 |some a=>
  have c:=b a rfl;show(if(true&&true)=true then lG (a+0) else none)=_;rw[ai (show(true&&true)=true from rfl),sm];unfold lG;rw[ai c]
def Sy (f:(b:Int)-65536=0):kK (some (1*2^b)) (some (1*2^b))=some (1*2^b):=by obtain⟨c,d⟩:=yV (m:=1) (a:=0) (k:=b) aa;have e:bz (1*2^b)=0:=(by unfold bz;rw[ah (G4 aa _),d,f]);show fa (a7 (1*2^b)*a7 (1*2^b)) (bz (1*2^b)+bz (1*2^b))=_;rw[c,e];exact Gm (m:=1) (a:=0) (t:=0) aa U aa aa
def Sx:kK (some (1*2^65536)) (some (1*2^65536))=some (1*2^65536):=Sy aa
def Sp (a:Nat):(5:Int)*2^a+(-(1*2^a)+0)=1*2^(a+2):=by rw[Int.pow_succ,Int.pow_succ];generalize(2:Int)^a=b;omega
def Sq (c:a+2=b) (d:ec (some (1*2^b))):gB [some ((5:Int)*2^a),tT (some (1*2^a))]=some (1*2^b):=by show(if(true&&(true&&true))=true then lG (5*2^a+(-(1*2^a)+0)) else none)=_;rw[ai (show(true&&(true&&true))=true from rfl),Sp,c];unfold lG;rw[ai (d _ rfl)]
abbrev hU:Nat->Nat->adZ:=be p6 [0,1]
def Fw:hd hU (bn hU (aX fS)) 0 0=some (1*2^65538):=by show gB [be p6 [0,1] 0 0]=_;rw[Sl,<-v4];exact Oq (kL _)
def SD:hd hU (bn hU (aX fS)) 0 1=some (1*2^65537):=by show gB [be p6 [0,1] 1 0]=_;rw[Sm,<-fc];exact Oq (kL _)
def Fs:bn hU (aX fS) 0 0=4611686018427387904:=by rw[m3];unfold kG;rw[ai rfl,Fw,aR]
def SA:aX fS 0 1=true:=by unfold aX;rw[Cc];decide
def Ft:bn hU (aX fS) 0 1=4607182418800017408:=by rw[m3];unfold kG;rw[ah aa,ai SA,SD,Fw,aR,fc,ax]
def J7:hd hU (bn hU (aX fS)) 1 1=some (1*2^65538):=by show gB [be p6 [0,1] 1 1,tT (kK (dJ (bn hU (aX fS) 0 1)) (dJ (bn hU (aX fS) 0 1)))]=_;rw[Sn,Ft,v1,Sx];exact Sq rfl (by rw[<-v4];exact kL _)
def Fu:bn hU (aX fS) 1 1=4611686018427387904:=by rw[m3];unfold kG;rw[ai rfl,J7,aR]
def Oc (a:0<f):dW f=1:=by unfold dW;rw[ah U,ah U]
def Nh (a:Nat):(0:Int)<1*2^a:=oc aa (nq aa)
def Ss:dz hU fS 0=0:=by
 refine Fl ?_ ?_
 ·unfold ly;rw[Fw,Fs];rintro(b|b)
  ·have:n0 (some (1*2^65538))=1:=Oc (Nh _);omega
  revert b;decide
 intro c a;rw[Cc] at a;simp only[dx,List.not_mem_nil,or_false] at a;rcases a with rfl|rfl
 ·show bG (bn hU (aX fS) 0 0)≠2047;rw[Fs];decide
 show bG (bn hU (aX fS) 0 1)≠2047;rw[Ft];decide
def St:dz hU fS 1=0:=by
 refine Fl ?_ ?_
 ·unfold ly;rw[J7,Fu];rintro(b|b)
  ·have:n0 (some (1*2^65538))=1:=Oc (Nh _);omega
  revert b;decide
 intro c a;rw[Fq] at a;simp only[dx,List.not_mem_nil,or_false] at a;subst a;show bG (bn hU (aX fS) 1 1)≠2047;rw[Fu];decide
def Sw:xj ((2,(2,(yn,(ym,(tv,()))))),[0,1],())=some (([0,1],([0,2,3],([0,1,1],([4611686018427387904,4607182418800017408,4611686018427387904],())))),2,0,()):=by
 have a:=PD (n:=2) aa SE Sr Sz;rw[Su,Sv,CC (λb g=>by
  have:b=0\/b=1:=U;rcases this with rfl|rfl
  ·exact Ss
  exact St)] at a
 refine a.trans ?_;have c:fZ hU fS 0=[4611686018427387904,4607182418800017408]:=(by unfold fZ;rw[Cc,fr,fr,qO];show[bn hU (aX fS) 0 0,bn hU (aX fS) 0 1]=_;rw[Fs,Ft]);have al:fZ hU fS 1=[4611686018427387904]:=(by unfold fZ;rw[Fq,fr,qO];show[bn hU (aX fS) 1 1]=_;rw[Fu]);have d:ki fS 0=[]:=rfl;have i1:ki fS 1=[0,1]:=(by show[]++bc fS 0=_;rw[Cc];rfl);have e:ki fS 2=[0,1,1]:=(by show ki fS 1++bc fS 1=_;rw[i1,Fq];rfl);have f:se hU fS 2=[4611686018427387904,4607182418800017408,4611686018427387904]:=(by show([]++fZ hU fS 0)++fZ hU fS 1=_;rw[c,al];rfl);unfold oS;rw[nL,nL,nL,Kb,d,i1,e,f];rfl
def H8 (a b:ad5) (c:a.length<4611686018427387904):Bt (a,b,())=some (a==b,()):=wS a b c
def Qy:Bv ()=some (true,()):=by unfold Bv;refine aq (Dq aa aa) (aq (Dq aa aa) (aq (Dq aa aa) ?_));dsimp only;rw[f4,f2,f5];refine aq Sw ?_;dsimp only;rw[bo aa,bo aa];refine aq (wS _ _ aa) ?_;dsimp only;rw[bo aa];refine aq (H8 _ _ aa) ?_;rfl
def kY (g f e:Nat) (h a d:ad5):Prop:=∃c,c<=a.length/\eB g f h (a.take c) (d.take c)/\d.length=a.length/\(∀b,c<=b->b<a.length->0<=a.getD b 0/\a.getD b 0<(e:Int))/\(∀b,c<b->b<a.length->a.getD (b-1) 0<a.getD b 0)
def eB.open (d:eB b a h c i):kY b a 0 h c i:=
 ⟨c.length,a2 _,by rw[dm (a2 _),dm (Nat.le_of_eq d.val)];exact d,d.val,λg f e=>absurd e U,λg f e=>absurd e U⟩
def kY.skip (f:kY g b a h c i):kY g b (a+1) h c i:=by obtain⟨o,j,k,l,m,n⟩:=f;exact⟨o,j,k,l,λp d e=>by have:=m p d e;omega,n⟩
def yv (b:a<c.length):(c++[f]).getD a 0=c.getD a 0:=by rw[iO,nt b,<-iO]
def FL:(c++[f]).getD c.length 0=f:=by rw[iO,oh (a2 _)];simp
def kY.add (l:kY g b a h c i) (q:Int):kY g b (a+1) h (c++[(a:Int)]) (i++[q]):=by
 obtain⟨p,m,n,r,k,o⟩:=l;refine⟨p,by simp;omega,?_,by simp;omega,λe f j=>?_,λe f j=>?_⟩
 ·rw[sB m,sB U];exact n
 ·rw[oi,zV] at j;rcases bg e c.length with d|d
  ·rw[yv d];have:=k e f d;omega
  obtain rfl:e=c.length:=U;rw[FL];omega
 rw[oi,zV] at j;rcases bg e c.length with d|d
 ·rw[yv d,yv U];exact o e f d
 obtain rfl:e=c.length:=U;rw[FL,yv U];exact(k (c.length-1) U U).2
def FM (d:a<b):(c.take b).getD a 0=c.getD a 0:=by rw[iO,l0 d,<-iO]
def kY.close (s:kY b a b h c i):eB b (a+1) (h++[(c.length:Int)]) c i:=by
 obtain⟨x,o,k,t,u,v⟩:=s;have p:=k.len;have q:=k.last;rw[dZ,fu o] at q;have n:(h++[(c.length:Int)]).getD (a+1) 0=(c.length:Int):=(by rw[<-p];exact FL);have e:∀d,d<=a->(h++[(c.length:Int)]).getD d 0=h.getD d 0:=λd l=>yv U;have r:∀d,d<=a->h.getD d 0<=(x:Int):=λd l=>(by have:=k.oZ d l;rw[dZ,fu o] at this;exact this);refine⟨by simp[p],by rw[e 0 U];exact k.first,λd l=>?_,n,t,λd m l g j=>?_,λd m l g j=>?_⟩
 ·rcases bg d a with f|f
  ·rw[e d U,e (d+1) U];exact k.mono d f
  obtain rfl:d=a:=U;rw[e d U,n,q];omega
 ·rcases bg d a with f|f
  ·rw[e d U] at g;rw[e (d+1) U] at j;have w:=r (d+1) U;have:=k.rng d m f g j;rw[FM U] at this;exact this
  obtain rfl:d=a:=U;rw[e d U] at g;rw[n] at j;exact u m U U
 rcases bg d a with f|f
 ·rw[e d U] at g;rw[e (d+1) U] at j;have w:=r (d+1) U;have:=k.asc d m f g j;rw[FM U,FM U] at this;exact this
 obtain rfl:d=a:=U;rw[e d U] at g;rw[n] at j;exact v m U U
def eB.empty (d:Nat):eB d 0 [0] [] []:=⟨rfl,rfl,λb a=>absurd a U,rfl,rfl,λb c a=>absurd a U,λb c a=>absurd a U⟩
structure sl (P:Int->Prop) (rows jI:Nat) (m:bJ):Prop where
 ex:∃st m2 sd,m=((rows:Int),(jI:Int),st,m2,sd,())/\eB rows jI st m2 sd/\(∀v∈sd,P v)/\m2.length<=jI*rows
abbrev uH:=sl ez
def uH.small (g:b<=5) (f:a<=5) (d:eB b a i c h) (e:∀j∈h,ez j) (k:c.length<=a*b):gn b a i c h:=by have l:a*b<=5*5:=it f g;exact⟨U,U,U,by rw[d.len];omega,by rw[d.val];omega,e⟩
def Ic (z:∀p,ez p->ae (vA (p,f,())) λF=>m F.1) (C:c.length<=9223372036854775807) (D:a<=5) (A:b<=5):ae (s9 (c,(a:Int),(b:Int),f,())) λl=>sl m a b l.1:=by
 have M:b*a<=5*5:=Nat.mul_le_mul A D;unfold s9;dsimp only;refine ae.aU (P:=λl=>sl m a b l.2.1) ?_ (by rintro⟨G,H,_⟩ r;exact ae.ag.2 r);refine ae.steps b (λg s=>∃h d e,s=((g:Int),((0:Int),((0:Int),([],([],([],()))))),((a:Int),(b:Int),h,d,e,()),())/\eB a g h d e/\(∀i∈e,m i)/\d.length<=g*a) ?_ ?_ ?_
 ·exact⟨[0],[],[],rfl,eB.empty a,ac,ac⟩
 ·rintro g _ B ⟨h,d,e,rfl,u,y,J⟩;have L:g*a+a<=5*5:=by
   have:(g+1)*a<=b*a:=fP _ B;rw[eO,hD] at this;omega
  dsimp only;rw[bo (aB (U:(g:Int)<(b:Int))),bt U];refine ae.aU (P:=λl=>∃d e,l=(((0:Int),((0:Int),([],([],([],()))))),((a:Int),(b:Int),h,d,e,()),())/\kY a g a h d e/\(∀i∈e,m i)/\d.length<=g*a+a) ?_ ?_
  ·refine ae.steps a (λj s=>∃d e,s=((j:Int),((0:Int),((0:Int),([],([],([],()))))),((a:Int),(b:Int),h,d,e,()),())/\kY a g j h d e/\(∀i∈e,m i)/\d.length<=g*a+j) ?_ ?_ ?_
   ·exact⟨d,e,rfl,u.open,y,U⟩
   ·rintro j _ K ⟨d,e,rfl,q,t,I⟩;have N:e.length=d.length:=by
     obtain⟨O,_,_,r,_⟩:=q;exact r
    dsimp only;rw[bo (aB (U:(j:Int)<(a:Int))),bt U];refine ae.aU (P:=λl=>∃d e,l=(((0:Int),((0:Int),([],([],([],()))))),((a:Int),(b:Int),h,d,e,()),())/\kY a g (j+1) h d e/\(∀i∈e,m i)/\d.length<=g*a+(j+1)) ?_ ?_
    ·refine ae.aU (HV c C _) ?_;rintro⟨E,_⟩ w;dsimp only at w|-;rw[r8 aa aa,Option.bind_some];unfold gM;rw[if_pos aa,Option.bind_some,br];refine ae.ite (λx=>?_) (λx=>?_)
     ·rw[dQ (by simp;omega),Option.bind_some];refine ae.aU (z E w) ?_;rintro⟨i,_⟩ v;dsimp only at v|-;rw[dQ (by simp;omega),Option.bind_some];refine ae.ag.2 ⟨_,_,rfl,q.add i,λp o=>?_,by simp;omega⟩;rcases List.mem_append.1 o with o|o
      ·exact t p o
      obtain rfl:=eI.1 o;exact v
     exact ae.ag.2 ⟨_,_,rfl,q.skip,t,U⟩
    rintro _ ⟨d,e,rfl,ax,k,n⟩;exact ae.ag.2 ⟨d,e,rfl,ax,k,n⟩
   rintro _ ⟨d,e,rfl,ax,k,n⟩;dsimp only;rw[bi (az (U:¬((a:Int)<(a:Int))))];exact ae.ag.2 ⟨d,e,rfl,ax,k,n⟩
  rintro _ ⟨d,e,rfl,ax,k,n⟩;dsimp only;rw[dQ (by rw[u.len];simp;omega),Option.bind_some];refine ae.ag.2 ⟨_,_,_,rfl,ax.close,k,by rw[Nat.add_mul,Nat.one_mul];omega⟩
 rintro _ ⟨h,d,e,rfl,ax,k,n⟩;dsimp only;rw[bi (az (U:¬((b:Int)<(b:Int))))];exact ae.ag.2 ⟨h,d,e,rfl,ax,k,n⟩
def PA (g:c.length<=9223372036854775807) (h:b<=5) (f:a<=5) (d:Int):ae (s9 (c,(b:Int),(a:Int),d,())) λi=>uH b a i.1:=
 Ic (λ_ e=>LV e d) g h f
def aai (f:m 0) {E:List bD} (e:∀g∈E,m g.2.2.1) (b c:Int):m (kQ E b c):=by
 unfold kQ;cases d:E.find? λa=>decide (a.1=b)&&decide (a.2.1=c) with
 |none=>exact f
 |some a=>exact e a (zW d)
def Pc (f:m 0) (j:gn b a i h c) (n:∀d∈c,m d) (k:Int) (l:g<a):∃d,m d/\re (((b:Int),(a:Int),i,h,c,()),k,(g:Int),())=some (d,()):=by
 by_cases e:eG b a i h c=0
 ·exact⟨_,aai f (oQ (iU.1 e).1 n) _ _,Nl j e k l⟩
 refine⟨0,f,?_⟩;unfold re;refine aq (y:=.inr (0,())) ?_ rfl;refine aq j.uh ?_;dsimp only;rw[b0,az e];rfl
def PS (n:gn g b h c i) (f:eB g b h c i) (d:o<g) (q:a<b):∃j,x6 (((g:Int),(b:Int),h,c,i,()),(o:Int),(a:Int),())=some (j,()):=by
 have s:=f.pos a U;have t:=f.pos (a+1) U;have B:=f.oZ (a+1) U;have z:=f.mono a q;have x:=f.len;have w:=n.hi;have v:=n.hc;suffices k:ae (x6 (((g:Int),(b:Int),h,c,i,()),(o:Int),(a:Int),())) λp=>True by obtain⟨⟨j,_⟩,k,_⟩:=k;exact⟨j,k⟩
 unfold x6;dsimp only;rw[az (U:¬((o:Int)<0)),az (U:¬((o:Int)>=(g:Int))),az (U:¬((a:Int)<0)),az (U:¬((a:Int)>=(b:Int)))];refine ae.bs (y:=.inl ()) rfl ?_;dsimp only;obtain⟨e,r⟩:=Int.eq_ofNat_of_zero_le s;obtain⟨d,m⟩:=Int.eq_ofNat_of_zero_le t;refine ae.bs (y:=(e:Int)) (by rw[fA U,r]) ?_;refine ae.aU (P:=λp=>True) ?_ ?_
 ·refine ae.steps (d-e) (λl u=>u=(((e+l:Nat):Int),())) rfl ?_ ?_
  ·rintro l _ A rfl;dsimp only;refine ae.bs (y:=(d:Int)) (by rw[bt U,fA U,m]) ?_;rw[bo (aB (U:((e+l:Nat):Int)<(d:Int)))];refine ae.bs (fA U) ?_;rw[dB,br];refine ae.ite (λ_=>ae.ag.2 trivial) (λ_=>?_);rw[bt U];exact ae.ag.2 rfl
  rintro _ rfl;dsimp only;refine ae.bs (y:=(d:Int)) (by rw[bt U,fA U,m]) ?_;rw[bi (az (U:¬(((e+(d-e):Nat):Int)<(d:Int))))];exact ae.ag.2 trivial
 rintro(_|p) _
 ·exact ae.ag.2 trivial
 exact ae.ag.2 trivial
structure Ph (P Q:Int->Prop) (ZF:Int):Prop where
 z:P 0
 w:∀v,P v->ez v
 q:∀v,P v->Q v
 num:∀x,ez x->ae (vA (x,(nQ ZF 3:Nat),())) λy=>P y.1
 RH:∀L:adR,L.length<=5->(∀d∈L,∃v,P v/\d=sK (dJ v))->Q (nX (gB (lJ 1::L)) 2)
def Pj {P:Int->Prop} (x:Ph P m f) (av:c.length<=9223372036854775807) (y:a<=5):ae (vz (c,(a:Int),f,())) λp=>sl m a a p.1:=by
 have ci:a*a<=5*5:=Nat.mul_le_mul y y;unfold vz;refine ae.bs (ql f (n:=3) aa aa) ?_;refine ae.aU (Ic x.num av y y) ?_;rintro⟨t,_⟩ N;dsimp only at N|-;obtain⟨X,W,Y,rfl,O,Q,ap⟩:=N.ex;have R:=uH.small y y O (λe k=>x.w e (Q e k)) ap;have M:=λ(i:Int) (h:Nat) (u:h<a)=>Pc x.z R Q i u;have ab:=λ(i h:Nat) (G:i<a) (u:h<a)=>PS R O G u;generalize(((a:Int),(a:Int),X,W,Y,()):bJ)=t at*;refine ae.aU (P:=λp=>sl m a a p.2.1) ?_ (by rintro⟨a4,J,_⟩ F;exact ae.ag.2 F);refine ae.steps a (λh C=>∃j d b,C=((h:Int),((0:Int),((0:Int),([],([],([],()))))),t,((a:Int),(a:Int),j,d,b,()),())/\eB a h j d b/\(∀e∈b,m e)/\d.length<=h*a) ?_ ?_ ?_
 ·exact⟨[0],[],[],rfl,eB.empty a,ac,ac⟩
 ·rintro h _ u ⟨j,d,b,rfl,L,Z,bl⟩;have bB:h*a+a<=5*5:=by
   have:(h+1)*a<=a*a:=fP _ u;rw[eO,hD] at this;omega
  dsimp only;rw[bo (aB (U:(h:Int)<(a:Int))),bt U];refine ae.aU (P:=λp=>∃d b,p=(((0:Int),((0:Int),([],([],([],()))))),t,((a:Int),(a:Int),j,d,b,()),())/\kY a h a j d b/\(∀e∈b,m e)/\d.length<=h*a+a) ?_ ?_
  ·refine ae.steps a (λi C=>∃d b,C=((i:Int),((0:Int),((0:Int),([],([],([],()))))),t,((a:Int),(a:Int),j,d,b,()),())/\kY a h i j d b/\(∀e∈b,m e)/\d.length<=h*a+i) ?_ ?_ ?_
   ·exact⟨d,b,rfl,L.open,Z,U⟩
   ·rintro i _ G ⟨d,b,rfl,E,K,bd⟩;have co:b.length=d.length:=by
     obtain⟨o,_,_,F,_⟩:=E;exact F
    dsimp only;rw[bo (aB (U:(i:Int)<(a:Int))),bt U];refine ae.aU (P:=λp=>∃d b,p=(((0:Int),((0:Int),([],([],([],()))))),t,((a:Int),(a:Int),j,d,b,()),())/\kY a h (i+1) j d b/\(∀e∈b,m e)/\d.length<=h*a+(i+1)) ?_ ?_
    ·have S:∀(I:Int),m I->∀e∈b++[I],m e:=λI a0 e k=>by
      rcases eN.1 k with k|k
      ·exact K e k
      obtain rfl:=eI.1 k;exact a0
     rw[dB,br];refine ae.ite (λT=>?_) (λT=>?_)
     ·refine ae.bs (Ns aa aa) ?_;dsimp only;refine ae.aU (P:=λp=>∃g:adR,p=(((0:Int),((0:Int),([],([],([],()))))),t,((a:Int),(a:Int),j,d,b,()),(lJ 1::g).map a8,())/\(∀l∈g,∃e,P e/\l=sK (dJ e))/\g.length<=a) ?_ ?_
      ·refine ae.steps a (λo C=>∃g:adR,C=((o:Int),((0:Int),((0:Int),([],([],([],()))))),t,((a:Int),(a:Int),j,d,b,()),(lJ 1::g).map a8,())/\(∀l∈g,∃e,P e/\l=sK (dJ e))/\g.length<=o) ?_ ?_ ?_
       ·exact⟨[],rfl,ac,ac⟩
       ·rintro o _ ce ⟨g,rfl,s,B⟩;dsimp only;rw[bo (aB (U:(o:Int)<(a:Int))),bt U];refine ae.aU (P:=λp=>∃g:adR,p=(((0:Int),((0:Int),([],([],([],()))))),t,((a:Int),(a:Int),j,d,b,()),(lJ 1::g).map a8,())/\(∀l∈g,∃e,P e/\l=sK (dJ e))/\g.length<=o+1) ?_ ?_
        ·rw[b0,<-decide_not,br];refine ae.ite (λV=>?_) (λV=>?_)
         ·obtain⟨D,am,an⟩:∃D:Nat,(if(o:Int)<(i:Int) then(o:Int) else(i:Int))=(D:Int)/\D<a:=by
           split
           ·exact⟨o,rfl,U⟩
           exact⟨i,rfl,U⟩
          rw[am];obtain⟨e,k,H⟩:=M (if(o:Int)>(i:Int) then(o:Int) else(i:Int)) D an;refine ae.bs H (ae.bs (zj (x.w e k)) (ae.bs (Ym (kL _)) ?_));rw[dQ (by simp;omega)];refine ae.ag.2 ⟨g++[sK (dJ e)],ac,λl r=>?_,by simp;omega⟩;rcases eN.1 r with r|r
          ·exact s l r
          obtain rfl:=eI.1 r;exact⟨e,k,rfl⟩
         exact ae.ag.2 ⟨g,rfl,s,U⟩
        rintro _ ⟨g,rfl,s,B⟩;exact ae.ag.2 ⟨g,rfl,s,B⟩
       rintro _ ⟨g,rfl,s,B⟩;dsimp only;rw[bi (az (U:¬((a:Int)<(a:Int))))];exact ae.ag.2 ⟨g,rfl,s,B⟩
      rintro _ ⟨g,rfl,s,B⟩;dsimp only;rw[dQ (by simp;omega),Option.bind_some];have a3:∀l∈lJ 1::g,ec l:=λl r=>by
       rcases dx.1 r with rfl|r
       ·exact KQ 1
       obtain⟨e,_,rfl⟩:=s l r;exact P8 (kL _)
      refine ae.bs (Nu a3 (by simp;omega)) ?_;refine ae.bs (NQ (Oo _)) ?_;dsimp only;rw[dQ (by simp;omega),Option.bind_some];exact ae.ag.2 ⟨_,_,rfl,E.add _,S _ (x.RH g U s),by simp;omega⟩
     obtain⟨J,ad⟩:=ab i h G u;refine ae.bs ad ?_;dsimp only;cases J with
     |true=>
      rw[cond_true,dQ (by simp;omega),Option.bind_some];obtain⟨e,k,H⟩:=M (i:Int) h u;refine ae.bs H ?_;dsimp only;rw[dQ (by simp;omega),Option.bind_some];exact ae.ag.2 ⟨_,_,rfl,E.add _,S _ (x.q _ k),by simp;omega⟩
     |false=>
      rw[cond_false];exact ae.ag.2 ⟨_,_,rfl,E.skip,K,U⟩
    rintro _ ⟨d,b,rfl,ax,v,A⟩;exact ae.ag.2 ⟨d,b,rfl,ax,v,A⟩
   rintro _ ⟨d,b,rfl,ax,v,A⟩;dsimp only;rw[bi (az (U:¬((a:Int)<(a:Int))))];exact ae.ag.2 ⟨d,b,rfl,ax,v,A⟩
  rintro _ ⟨d,b,rfl,ax,v,A⟩;dsimp only;rw[dQ (by rw[L.len];simp;omega),Option.bind_some];refine ae.ag.2 ⟨_,_,_,rfl,ax.close,v,by rw[Nat.add_mul,Nat.one_mul];omega⟩
 rintro _ ⟨j,d,b,rfl,ax,v,A⟩;dsimp only;rw[bi (az (U:¬((a:Int)<(a:Int))))];exact ae.ag.2 ⟨j,d,b,rfl,ax,v,A⟩
def Pk (d:c.length<=9223372036854775807) (e:a<=5) (g:Int):ae (vz (c,(a:Int),g,())) λf=>uH a a f.1:=
 Pj (P:=ez) ⟨⟨aa,aa⟩,λ_ b=>b,λ_ b=>b,λ_ b=>LV b _,λ_ _ _=>NI _ _⟩ d e
def Ik (j:c.length<=9223372036854775807) {n:Nat} (q:n<=5):ae (xP (c,(n:Int),())) λb=>b.1.length=n:=by
 unfold xP;dsimp only;refine ae.aU (P:=λb=>b.1.length=n) ?_ (by rintro⟨o,_⟩ i;exact ae.ag.2 i);refine ae.steps n (λd m=>∃a,m=(a,(d:Int),())/\a.length=d) ⟨[],rfl,rfl⟩ ?_ ?_
 ·rintro d _ p ⟨a,rfl,e⟩;dsimp only;rw[bo (aB (U:(d:Int)<(n:Int))),bt U];refine ae.aU (HV c j _) ?_;rintro⟨h,_⟩ l;dsimp only at l|-;rw[r8 aa aa,Option.bind_some];refine ae.bs (ql _ (n:=d+1) U U) ?_;have r:=wb (ar (h/2^(1:Int).toNat)) (n:=d+1) U;dsimp only;generalize nQ (ar (h/2^(1:Int).toNat)) (d+1)=b at*;refine ae.bs (Dz U) ?_;dsimp only;rw[dQ (by simp;omega),Option.bind_some,dQ (by simp;omega),Option.bind_some];have k:((fV (b:Int)).bind λf=>(some a.length).bind λg=>(gd f g a.length).map λ_=>(f,g))=some (b,a.length):=by
   have:fV (b:Int)=some b:=(by unfold fV;rw[ai U,db]);rw[this];show(gd b a.length a.length).map _=_;unfold gd;rw[ai ⟨U,a2 _⟩];rfl
  refine ae.bs k ?_;dsimp only;rw[dQ (by simp;omega),Option.bind_some];exact ae.ag.2 ⟨_,rfl,by simp;omega⟩
 rintro _ ⟨a,rfl,e⟩;dsimp only;rw[bi (az (U:¬((n:Int)<(n:Int))))];exact ae.ag.2 e
def XH (j:c.length<=9223372036854775807) (b i:Int) {f:Bool} (k:∀a,a<=5->ae (bif f then vz (c,((a:Nat):Int),i,()) else s9 (c,((a:Nat):Int),((a:Nat):Int),i,())) λe=>sl m a a e.1):ae (xR (c,b,i,f,())) λe=>∃a,a<=5/\sl m a a e.1/\e.2.1.length=a:=by
 unfold xR;refine ae.bs (ql b (n:=6) aa aa) ?_;have p:=wb b (n:=6) aa;dsimp only;generalize nQ b 6=a at*;have d:=k a U;cases f with
 |true=>
  rw[cond_true] at d|-;refine ae.aU d ?_;rintro⟨l,_⟩ g;refine ae.aU (Ik j (n:=a) U) ?_;rintro⟨o,_⟩ h;exact ae.ag.2 ⟨a,U,g,h⟩
 |false=>
  rw[cond_false] at d|-;refine ae.aU d ?_;rintro⟨l,_⟩ g;refine ae.aU (Ik j (n:=a) U) ?_;rintro⟨o,_⟩ h;exact ae.ag.2 ⟨a,U,g,h⟩
def XI (e:c.length<=9223372036854775807) (g b:Int) (f:Bool):ae (xR (c,g,b,f,())) λh=>∃a,a<=5/\uH a a h.1/\h.2.1.length=a:=
 XH e g b λa d=>by
  cases f with
  |true=>exact Pk e d b
  |false=>exact PA e d d b
def z6 (a:es):Prop:=a.1.length<1000000/\a.2.1.length<1000000/\a.2.2.1.length<1000000/\a.2.2.2.1.length<1000000
def Y5 {a:es} (b:z6 a):Bs (a,a,())=some (true,()):=by obtain⟨c,d,e,f⟩:=b;unfold Bs;refine aq (wS _ _ U) ?_;dsimp only;rw[bo ac];refine aq (wS _ _ U) ?_;dsimp only;rw[bo ac];refine aq (wS _ _ U) ?_;dsimp only;rw[bo ac];refine aq (H8 _ _ U) ?_;dsimp only;simp
def CR:z6 gA:=⟨aa,aa,aa,aa⟩
def TT (b:a<=5) (j:e.length=a) (k:c.length<=5):z6 (iY d e c a).1:=by
 unfold iY;split
 ·split
  ·exact CR
  exact CR
 have g:=Cu e a;have h:=DU d e a;have i:a*e.length<=5*5:=it b U;refine⟨?_,?_,?_,?_⟩
 ·show c.length<1000000;omega
 ·show(aw (a+1) (λf=>((ki e f).length:Int))).length<1000000;rw[bk];omega
 ·show(ki e a).length<1000000;omega
 show(se d e a).length<1000000;omega
def aah (c:Nat->Nat->adZ) (a:adU) (b:Nat):(fZ c a b).length=(bc a b).length:=by unfold fZ;rw[gE]
def UH (a:Nat):fV (a:Int)=some a:=by unfold fV;rw[ai U,db]
def Z2 (e:a*2^g=b*2^o) (h:0<a) (f:0<b):bx a+g=bx b+o/\aA a+g=aA b+o:=by have c:=congrArg bx e;have d:=congrArg aA e;rw[HP U,HP f] at c;rw[lE U,lE f] at d;exact⟨c,d⟩
def UE {a:Int} (b:p*f=a*2^65536) (r:e2 a):kK (some p) (some f)=some a:=by
 show fa (a7 p*a7 f) (bz p+bz f)=some a;have g:∀h:Nat,(2:Int)^h≠0:=λh=>(by have:(0:Int)<2^h:=nq aa;omega);by_cases c:p=0
 ·rw[c,sr] at b;rw[c,yU,sr,(Int.mul_eq_zero.1 b.symm).resolve_right (g _)];rfl
 by_cases d:f=0
 ·rw[d,Int.mul_zero] at b;rw[d,yU,Int.mul_zero,(Int.mul_eq_zero.1 b.symm).resolve_right (g _)];rfl
 have u:=rU p;have v:=rU f;have aY:=ia c;have t:=ia d;have x:=yX.1 ⟨U,LX c⟩;have y:=yX.1 ⟨U,LX d⟩;have o:a7 p*a7 f≠0:=Int.mul_ne_zero aY t;have k:bx (a7 p*a7 f).natAbs=0:=(by refine(yX.2 ?_).2;rw[Int.natAbs_mul,Nat.mul_mod,x,y]);have al:a7 p*a7 f*2^(bx p.natAbs+bx f.natAbs)=a*2^65536:=by
  rw[<-b,jz]
  conv=>rhs;rw[<-u,<-v]
  rw[jy,jy,Int.mul_left_comm (a7 f)]
 have m:bz p=(bx p.natAbs:Int)-65536:=(by rw[bz,ah c];rfl);have n:bz f=(bx f.natAbs:Int)-65536:=(by rw[bz,ah d];rfl);rw[m,n];generalize bx p.natAbs=i at*;generalize bx f.natAbs=j at*;generalize a7 p*a7 f=B at*;have e:=congrArg Int.natAbs al;rw[lN,lN] at e;have s:0<a.natAbs:=XS e U;obtain⟨l,z⟩:=Z2 e U s;rw[k] at l;have A:aA a.natAbs<=131072:=r;unfold fa;rw[ah o,k,ah U];obtain⟨w,q⟩:=eH (U:0<=(i:Int)-65536+((j:Int)-65536)+65536);rw[q,n2];congr 1;have:i+j=w+65536:=U;rw[this,jz,<-jy] at al;exact Int.mul_eq_mul_right_iff (g _)|>.1 al
def m5 (a:Int):Int:=if a<9223372036854775808 then if bG a=0 then e8 a else e8 a+4503599627370496 else-(if bG a=0 then e8 a else e8 a+4503599627370496)
def jM (a:Int):Int:=if bG a=0 then-1074 else bG a-1075
def vK (a:bG f≠2047):-1074<=jM f/\jM f<=971:=by have:=yo f;unfold jM;split<;>omega
def wa (a:Int):aA (m5 a).natAbs<=53:=dy.2 (by
 have b:=yp a;have:(2:Nat)^53=9007199254740992:=aa;rw[this];unfold m5;split<;>split<;>omega)
def CT (b:bG f≠2047):dJ f=some (m5 f*2^(jM f+65536).toNat):=by
 have h:=vK b;have g:=wa f;unfold dJ;rw[ah b];change fa (m5 f) (jM f)=_;generalize m5 f=e at*;generalize jM f=c at*;unfold fa;by_cases a:e=0
 ·rw[ai a,a,sr]
 rw[ah a,ah U];obtain⟨i,d⟩:=eH (U:0<=c+65536);rw[d,n2,db]
def UF (c:bG f≠2047) (d:bG p≠2047):kK (dJ f) (dJ p)=some (m5 f*m5 p*2^(jM f+jM p+65536).toNat):=by
 rw[CT c,CT d];have k:=vK c;have l:=vK d;have g:=wa f;have h:=wa p;refine UE ?_ ?_
 ·generalize m5 f=a;generalize m5 p=e;have:(jM f+65536).toNat+(jM p+65536).toNat=(jM f+jM p+65536).toNat+65536:=U;have al:a*2^(jM f+65536).toNat*(e*2^(jM p+65536).toNat)=a*e*(2^(jM f+65536).toNat*2^(jM p+65536).toNat):=by
   generalize(2:Int)^(jM f+65536).toNat=j;generalize(2:Int)^(jM p+65536).toNat=m;rw[jy,jy,Int.mul_left_comm j]
  rw[al,<-jz,this,jz,<-jy]
 have i:=oG g h;rw[<-Int.natAbs_mul] at i;generalize m5 f*m5 p=a at*;unfold e2;rw[lN];rcases gk a.natAbs with b|b
 ·rw[b,mJ];decide
 rw[lE b];omega
def dS:Nat:=2^67600
def H3:dS=2^67600:=by rw[dS]
def h0 (c:Nat) (b:adZ):Prop:=∃a,b=some a/\a.natAbs<=c*dS
def ws {k:Nat} (a:f.natAbs<=k*dS) (d:k<1048576):e2 f:=by refine dh (iy a) ?_;have b:aA k<=20:=dy.2 U;have c:aA dS<=67601:=(by rw[H3];exact dy.2 (y7 67600 67601 aa));have:=oG b c;omega
def Ng (d:aA a+b<=67600):a*2^b<=1*dS:=by
 rw[hD,H3];refine pD ((dy (k:=67600)).1 ?_);rcases gk a with c|c
 ·rw[c,mJ,show aA 0=0 from rfl];omega
 rw[lE c];omega
def h0.Km (a:bG f≠2047):h0 1 (dJ f):=by have c:=vK a;have b:=wa f;refine⟨_,CT a,?_⟩;rw[lN];exact Ng U
def h0.mul (a:bG f≠2047) (b:bG p≠2047):h0 1 (kK (dJ f) (dJ p)):=by have d:=vK a;have e:=vK b;have c:=oG (wa f) (wa p);rw[<-Int.natAbs_mul] at c;refine⟨_,UF a b,?_⟩;rw[lN];exact Ng U
def h0.neg (b:h0 a y):h0 a (tT y):=by obtain⟨d,rfl,c⟩:=b;exact⟨-d,rfl,by rw[qH];exact c⟩
def h0.sum {a:Nat}:∀{l:adR},(∀d∈l,h0 a d)->gp l=true/\(eS l).natAbs<=l.length*a*dS
 |[],_=>⟨rfl,bE _⟩
 |d::l,b=>by
  obtain⟨c,h⟩:=h0.sum (l:=l) λg e=>b g (by simp[e]);obtain⟨f,rfl,i⟩:=b d ac;constructor
  ·show(true&&gp l)=true;rw[c];rfl
  show(f+eS l).natAbs<=(l.length+1)*a*dS;rw[eO,eO,hD];omega
def Ot {b:adR} (e:∀d∈b,h0 a d) (g:b.length*a<1048576):gB b=some (eS b)/\h0 (b.length*a) (gB b):=by obtain⟨f,c⟩:=h0.sum e;have:gB b=some (eS b):=(by unfold gB lG;rw[ai f,ai (ws c g)]);exact⟨this,_,this,c⟩
def Xx (e:a<=9007199254740992) (g:-1074<=f):0<=lf false a f 0/\lf false a f 0<9223372036854775808:=by
 have d:0<=m9 false 0/\m9 false 0<9223372036854775808:=aa;unfold lf;have b:∀c,kP false c=c:=λc=>rfl;rw[b,b,b];split
 ·omega
 split
 ·split
  ·exact d
  omega
 split
 ·exact d
 omega
def YD {b:Bool} (c:0<a):0<=iA false a f b 0/\iA false a f b 0<9223372036854775808:=by have d:=DM (neg:=false) (rP:=b) (kJ:=0) (e:=f) c;have h:-1074<=bF a f:=(by unfold bF;omega);have g:iA false a f b 0=lf false (if bF a f<=f then a*2^(f-bF a f).toNat else g8 false a (bF a f-f).toNat b 0) (bF a f) 0:=(by unfold iA;split<;>rfl);rw[g];exact Xx d h
def YH (e:0<=f):0<=js (some f) 0/\js (some f) 0<9223372036854775808:=by
 show 0<=(if f<0 then(9221120237041090560:Int) else if f=0 then 0 else nY f 0)/\(if f<0 then(9221120237041090560:Int) else if f=0 then 0 else nY f 0)<9223372036854775808;rw[ah U];by_cases b:f=0
 ·rw[ai b];decide
 rw[ah b];unfold nY o8;have d:0<(a7 f).natAbs:=(by have:=ia b;omega);have c:58<=aA (bH ((a7 f).natAbs*2^iL (a7 f).natAbs (eQ f))):=yC (by rw[lE d];unfold iL;split<;>omega);refine YD ?_;rcases gk (bH ((a7 f).natAbs*2^iL (a7 f).natAbs (eQ f))) with a|a
 ·rw[a] at c;exact absurd c aa
 exact a
def U6 (h:0<=f) (e:f<9223372036854775808) (b:bG f≠2047) (a:oY f≠0):∃c,dJ f=some c/\0<c:=by
 refine⟨_,CT b,oc ?_ (nq aa)⟩;have i:=yp f;unfold oY at a;rw[ah b] at a;unfold m5;rw[ai e];split
 ·rename_i d;by_cases g:e8 f=0
  ·rw[ai ⟨d,g⟩] at a;exact absurd rfl a
  omega
 omega
section
section
variable {A:Nat->Nat->adZ} {G:adU} {o:ad5} {n:Nat}
def k3 {n j:Nat} (b:a<n):(j*n+a)/n=j/\(j*n+a) %n=a:=by
 constructor
 ·rw[iB,Nat.mul_add_div U,Nat.div_eq_of_lt b,j6]
 rw[iB,Nat.mul_add_mod,Nat.mod_eq_of_lt b]
def oF {n:Nat} (c:a<n) (d:b<n):a*n+b<n*n:=by have:(a+1)*n<=n*n:=fP _ c;rw[eO,hD] at this;omega
def qx {n:Nat} (a:n<=5):n*n<=25:=it a a
def pj {n:Nat} (f:n<=5) (e:a<n) (d:b<n):ar (ar ((a:Int)*(n:Int))+(b:Int))=((a*n+b:Nat):Int):=by have h:=oF e d;have i:=qx f;have c:(a:Int)*(n:Int)=((a*n:Nat):Int):=(by rw[ja]);rw[c];generalize a*n=g at*;generalize n*n=j at*;rw[bm (x:=(g:Int)) U U,bm U U];omega
def HU {n:Nat} (b:n<=5):ar ((n:Int)*(n:Int))=((n*n:Nat):Int):=by have c:=qx b;have a:(n:Int)*(n:Int)=((n*n:Nat):Int):=(by rw[ja]);rw[a];generalize n*n=d at*;rw[bm U U]
end
end
section
section
variable {A:Nat->Nat->adZ} {G:adU} {o:ad5} {n:Nat}
def wC (b:Nat->bX) (c a:Nat):bX:=if a<c then b a else lH
def Z8 (a:Nat->bX) {N p:Nat}:(aw N (wC a p)).set p (a p)=aw N (wC a (p+1)):=by
 rw[e9];refine bI λd _=>?_;by_cases b:d=p
 ·subst b;rw[ei];unfold wC;rw[ai U]
 rw[ew _ _ b];unfold wC;by_cases c:d<p
 ·rw[ai c,ai U]
 rw[ah c,ah U]
end
end
section
def X6 {st A B:ad5} (d:gn b a st A B) {o:ad5} (e:o.length<=1000000) (c:jX b a st A B o≠0) (f:fv):vH (((b:Int),(a:Int),st,A,B,()),o,f,())=some (jX b a st A B o,()):=by unfold vH;refine aq (Dj d e) ?_;dsimp only;change(bif jX b a st A B o !=0 then some (jX b a st A B o,()) else _)=_;rw[b0,az c];rfl
def Pz {st A B:ad5} (d:gn b a st A B) {o:ad5} (e:o.length<=1000000) (c:jX b a st A B o≠0) (f:fv):oM (((b:Int),(a:Int),st,A,B,()),o,f,())=some (gA,0,jX b a st A B o,()):=by unfold oM;refine aq (PJ d e c) ?_;dsimp only;rw[bo (show(jX b a st A B o !=0)=true by rw[b0,az c];rfl)];rfl
def Py {st A B:ad5} (e:gn b a st A B) {o:ad5} (f:o.length<=1000000) (d:jX b a st A B o≠0) (c:fv):oM (((b:Int),(a:Int),st,A,B,()),o,c,())=some (gA,0,jX b a st A B o,())/\ri (((b:Int),(a:Int),st,A,B,()),o,c,())=some (gA,0,jX b a st A B o,()):=by refine⟨Pz e f d c,?_⟩;unfold ri;refine aq (X6 e f d c) ?_;dsimp only;rw[bo (show(jX b a st A B o !=0)=true by rw[b0,az d];rfl)];rfl
section
variable {n:Nat} {st A B o:ad5}
def Pw (e:n<=5) (d:gn n n st A B) (c:eG n n st A B=0) (a:dY o n) {l:fv} (k:l.length<4611686018427387904) (m:∀g∈l,g.2.2.1.length<4611686018427387904) (h:k5 (gb n (dq (bv st A B n)) o) l≠0):oM (((n:Int),(n:Int),st,A,B,()),o,l,())=some (gA,0,k5 (gb n (dq (bv st A B n)) o) l,())/\ri (((n:Int),(n:Int),st,A,B,()),o,l,())=some (gA,0,k5 (gb n (dq (bv st A B n)) o) l,()):=by
 classical
 obtain⟨q,r,j⟩:=D5 e d c a;have i:=yx (E:=dq (bv st A B n)) e a;have f:=Pu i k m;have s:=a.1;have b:(k5 (gb n (dq (bv st A B n)) o) l !=0)=true:=(by rw[b0,az h];rfl);constructor
 ·unfold oM;refine aq j ?_;dsimp only;rw[bi (by rfl)];refine aq rfl (aq f.1 ?_);dsimp only;rw[bo b];rfl
 unfold ri;refine aq (y:=(k5 (gb n (dq (bv st A B n)) o) l,())) ?_ ?_
 ·unfold vH;refine aq (Dj d U) ?_;have p:(if eG n n st A B≠0 then eG n n st A B else if n≠n then 5 else if dY o n then 0 else 90)=0:=by
   rw[ah (not_not_intro c),ah (not_not_intro rfl),ai a]
  rw[p];dsimp only;rw[bi (by rfl)];refine aq (G7 e d c a) (aq f.2 ?_);dsimp only;rw[bo b]
 dsimp only;rw[bo b];rfl
end
end
section
def Un {n:Nat} (f:a<n) (g:b<n) (e:k a b=true):c9 (ha n k) a b:=by have c:a<(ha n k).length:=(by rw[tB];exact f);refine⟨c,?_⟩;have d:(ha n k)[a]=gK ((List.range n).filter (k a)):=fD c;rw[d];exact de.2 ⟨b,eY.2 ⟨fe.2 g,e⟩,rfl⟩
def R5 {n:Nat} {E:List bD} (I:E.Pairwise fL) (G:jx n n E) (f:dY c n) (h:a<n) (i:b<n) (x:a≠b) (k:be E c a b≠some 0):c9 (gb n (dq E) c) a b:=by
 obtain⟨C,D⟩:=r0 f h;obtain⟨ax,F⟩:=r0 f i;have y:=f.Dd h;have A:=f.Dd i;have H:hu c a≠hu c b:=λj=>x (by rw[<-y,j,A]);unfold be at k;rw[C,ax] at k;generalize hu c a=d at*;generalize hu c b=e at*;have B:kQ E (hK (d:Int) (e:Int)) (hp (d:Int) (e:Int))≠0:=λj=>k (by rw[j,rV]);have t:∃g∈E,g.1=hK (d:Int) (e:Int)/\g.2.1=hp (d:Int) (e:Int):=(by refine DX λw=>B (OY λg m z=>w ⟨g,m,z⟩));obtain⟨g,m,p,q⟩:=t;have o:hp (d:Int) (e:Int)<=hK (d:Int) (e:Int)/\hp (d:Int) (e:Int)≠hK (d:Int) (e:Int):=(by unfold hp hK;split<;>split<;>omega);have v:g∈dq E:=eY.2 ⟨m,by unfold qf;exact aB (by rw[p,q];exact o.1)⟩;have u:hb (dq E) d e=true:=by
  unfold hb;rw[ns];refine⟨g,v,?_⟩;rw[p,q];unfold hp hK;unfold hp hK at o;simp only[bp,fK,decide_eq_true_eq];refine⟨?_,?_⟩
  ·split<;>split<;>omega
  split<;>split<;>omega
 unfold gb;have s:da (ha n (hb (dq E))):=(by rw[Kw];exact Cl _);have l:(ha n (hb (dq E))).length=n:=tB _ _;rw[UJ (aD:=ha n (hb (dq E))) s (by rw[l];exact f) (by rw[l];exact h) (by rw[l];exact i)];have al:hu c a=d:=(by have:=r0 f h;omega);have r:hu c b=e:=(by have:=r0 f i;omega);rw[al,r];exact Un D F u
def XX {G:adU} (k:da G) (c:b<a) (l:a<g) (i:aX G b a=true) (j:aX G b g=true):aX G a g=true:=by
 have m:=c9.symm k;obtain⟨p,d⟩:=uf.1 i;obtain⟨e,f⟩:=uf.1 j;refine uf.2 ⟨e,.inr ⟨l,?_⟩⟩;rcases d with h|⟨_,n⟩
 ·omega
 rcases f with h|⟨_,o⟩
 ·omega
 exact((n.symm m).mono (pD c)).trans c (o.mono (pD c))
def XW {G:adU} (d:da G) (e:a<b) (c:c9 G a b):aX G a b=true:=uf.2 ⟨(c.lt d).2,.inr ⟨e,.one c⟩⟩
def fi (a:Nat->Int):Nat->Int
 |0=>0
 |n+1=>fi a n+a n
def Hq {b c:Nat->Int}:∀{n},(∀a,a<n->b a=c a)->fi b n=fi c n
 |0,_=>rfl
 |n+1,d=>by rw[fi,fi,Hq λa e=>d a U,d n U]
def Dv {n:Nat} (b:∀a,a<n->l a=0):fi l n=0:=by
 induction n with
 |zero=>rfl
 |succ n c=>rw[fi,c λa d=>b a U,b n U];rfl
def N2 (b:Nat->Int) (a c:Nat):fi b (a+c)=fi b a+fi (λe=>b (a+e)) c:=by
 induction c with
 |zero=>show fi b a=fi b a+0;omega
 |succ c d=>rw[<-oo,fi,d,fi];omega
def Hp {f:Nat->Int} {n k B:Nat} (b:∀a,a<n->(f a).natAbs<=k*B):(fi f n).natAbs<=n*k*B:=by
 induction n with
 |zero=>exact bE _
 |succ n c=>
  have d:=c λa g=>b a U;have e:=b n U;rw[fi,eO,eO,hD];omega
def OD (a:Nat->adZ) (n:Nat):eS ((List.range n).map a)=fi (λc=>(a c).getD 0) n:=by
 induction n with
 |zero=>rfl
 |succ n b=>
  rw[iP,fN,zz,b,fi];show _+((a n).getD 0+0)=_;omega
section
variable {A:Nat->Nat->adZ} {G:adU} {n:Nat}
def hy (A:Nat->Nat->adZ) (G:adU) (a b c:Nat):Int:=(ih (bn A (aX G)) b c a).getD 0
def i9.fin (d:i9 A G b) (f:G.length=n) {i:Nat} (e:a<b) (g:b<=n):bG (bn A (aX G) a i)≠2047:=by
 by_cases c:aX G a i=true
 ·exact d a e i c
 rw[rL (by simpa using c)]
 ·decide
 rintro rfl;exact c (Df U)
def HK (c:i9 A G b) (d:G.length=n) (e:b<=n) {x y:Nat} (f:a<b):ih (bn A (aX G)) x y a=some (hy A G a x y)/\(hy A G a x y).natAbs<=1*dS:=by obtain⟨k,j,h⟩:=(h0.mul (c.fin d f e (i:=x)) (c.fin d f e (i:=y))).neg;have g:ih (bn A (aX G)) x y a=some k:=j;unfold hy;rw[g];exact⟨rfl,h⟩
def OC (e:i9 A G b) (f:G.length=n) (h:b<=n) (j:a<b) (c:aX G a g=false\/aX G a o=false):hy A G a g o=0:=by
 unfold hy ih;have k:∀i,aX G a i=false->bn A (aX G) a i=0:=λi d=>rL d (λl=>by
  rw[l,Df U] at d;cases d)
 obtain⟨q,m⟩:=GB (e.fin f j h (i:=g));obtain⟨r,p⟩:=GB (e.fin f j h (i:=o));rcases c with c|c
 ·rw[k _ c,rV,p,LF];rfl
 rw[k _ c,rV,m,LG];rfl
def UD (d a:adZ):kK d a=kK a d:=by
 cases d with
 |none=>cases a<;>rfl
 |some b=>
  cases a with
  |none=>rfl
  |some c=>
   show fa (a7 b*a7 c) (bz b+bz c)=fa (a7 c*a7 b) (bz c+bz b);rw[g3,Int.add_comm]
def OB (a b c:Nat):hy A G a b c=hy A G a c b:=by unfold hy ih;rw[UD]
def N4 (g:i9 A G a) (j:G.length=n) (l:a<n) (p:n<=5) (i:h0 1 (A b a)):hd A (bn A (aX G)) a b=some ((A b a).getD 0+fi (λe=>hy A G e b a) a):=by
 have m:∀d∈(A b a::(List.range a).map (ih (bn A (aX G)) b a)),h0 1 d:=λd c=>by
  rcases dx.1 c with rfl|c
  ·exact i
  obtain⟨e,o,rfl⟩:=de.1 c;obtain⟨f,k⟩:=HK g j (pD l) (x:=b) (y:=a) (fe.1 o);exact⟨_,f,k⟩
 have h:=(Ot m (by simp;omega)).1;unfold hd;rw[h];show some ((A b a).getD 0+eS ((List.range a).map (ih (bn A (aX G)) b a)))=_;rw[OD];rfl
def Y6 (i:i9 A G a) (e:da G) (k:G.length=n) (f:a<n) (s:n<=5) (r:∀c d,c<n->d<n->c≠d->A c d≠some 0->c9 G c d) (t:b<n) (l:a<b) (o:aX G a b=false):hd A (bn A (aX G)) a b=some 0:=by
 have j:A b a=some 0:=(by refine DX λq=>?_;have:=XW e l (c9.symm e _ _ (r b a t f U q));rw[o] at this;cases this);rw[N4 i k f s (by rw[j,<-rV];exact h0.Km aa),j,Dv]
 ·rfl
 intro p m;refine OC i k (pD f) m ?_;by_cases g:aX G p a=true
 ·by_cases h:aX G p b=true
  ·have:=XX e m l g h;rw[o] at this;cases this
  exact .inl (by simpa using h)
 exact .inr (by simpa using g)
end
end
def fR (a:Nat) (b:Nat->Int):e6:=((a:Int),(a:Int),aw (a*a) (λc=>a8 (some (b c))),())
def EA {c:Nat->Int} (d:∀b,b<a*a->l b=c b):fR a l=fR a c:=by unfold fR;have:aw (a*a) (λb=>a8 (some (l b)))=aw (a*a) (λb=>a8 (some (c b))):=bI λb e=>(by rw[d b e]);rw[this]
def rY (a:e2 f):ec (some f):=λc b=>by cases b;exact a
def Zh (b:a<=5):AJ ((a:Int),(a:Int),((a*a:Nat):Int),())=some (0,()):=by
 have c:=qx b;unfold AJ;refine aq (y:=(false,())) ?_ ?_
 ·rw[bo (by rw[az (U:¬(a:Int)<0)];rfl),az (U:¬(a:Int)<0)]
 dsimp only;rw[cond_false];refine aq (y:=(false,())) ?_ ?_
 ·rw[bo (by rw[az (U:¬(a:Int)>64)];rfl),az (U:¬(a:Int)>64)]
 dsimp only;rw[cond_false,HU b,bi (by rw[b0,aB rfl];rfl)]
def E7 (d:a<=5) (f:∀c,c<a*a->e2 (l c)):vh (fR a l,())=some (0,()):=by
 have j:=qx d;have h:ay (fR a l).2.2.1=((a*a:Nat):Int):=(by rw[a1];exact congrArg _ (bk _ _));unfold vh;dsimp only;rw[h];refine aq (Zh d) ?_;dsimp only;rw[bi (by rfl)];refine ae.eq_iff.1 ?_;refine ae.aU (P:=λi=>i=.inl ()) ?_ (by rintro _ rfl;exact ae.ag.2 rfl);refine ae.steps (a*a) (λb c=>c=((b:Int),())) rfl ?_ ?_
 ·rintro b _ e rfl;dsimp only;rw[bo (aB (U:(b:Int)<((a*a:Nat):Int))),bt U];have g:aC (fR a l).2.2.1 (b:Int)=some (a8 (some (l b))):=by
   unfold fR;rw[bQ (by rw[bk];exact e),fD]
  refine ae.bs g (ae.bs (B7 (rY (f b e))) ?_);dsimp only;rw[bi (by rfl)];exact ae.ag.2 rfl
 rintro _ rfl;dsimp only;rw[bi (az (U:¬(((a*a:Nat):Int)<((a*a:Nat):Int))))];exact ae.ag.2 rfl
def YR (n:a<=5) {e:Nat->Nat} (h:∀c,c<a->e c<b) (i:∀c,c+1<a->e c<e (c+1)):AI (aw a (λc=>((e c:Nat):Int)),(b:Int),())=some (true,()):=by
 unfold AI;refine ae.eq_iff.1 ?_;dsimp only;refine ae.aU (P:=λl=>l=.inl ()) ?_ (by rintro _ rfl;exact ae.ag.2 rfl);have g:∀c,c<a->aC (aw a (λc=>((e c:Nat):Int))) (c:Int)=some ((e c:Nat):Int):=λc j=>(by rw[bQ (by rw[bk];exact j),fD]);refine ae.steps a (λd m=>m=((d:Int),())) rfl ?_ ?_
 ·rintro d _ f rfl;dsimp only;rw[bo (aB (show(d:Int)<ay (aw a (λc=>((e c:Nat):Int))) by rw[a1,bk];omega)),bt U];have o:=h d f;refine ae.bs (y:=.inl ()) ?_ (ae.ag.2 rfl);refine aq (g d f) ?_;rw[bo (by rw[az (U:¬((e d:Nat):Int)<0)];rfl),bo (by rw[az (U:¬((e d:Nat):Int)>=(b:Int))];rfl)];cases d with
  |zero=>rw[bi (by rfl)]
  |succ d=>
   rw[bo (by rw[aB (U:((d+1:Nat):Int)>0)];rfl)];have k:ar (((d+1:Nat):Int)-1)=(d:Int):=(by rw[(U:((d+1:Nat):Int)-1=(d:Int)),bm U U]);rw[k];refine aq (g d U) ?_;have:=i d f;rw[bi (az (U:¬((e d:Nat):Int)>=((e (d+1):Nat):Int)))]
 rintro _ rfl;dsimp only;rw[bi (az (show¬((a:Int)<ay (aw a (λc=>((e c:Nat):Int)))) by rw[a1,bk];omega))];exact ae.ag.2 rfl
def KP {l:ad5} (k:l.length<=1000000) (e:l[a]?=some f) (h:∀b,b<a->l[b]?≠some f):vy (l,f,())=some ((a:Int),()):=by
 obtain⟨m,g⟩:=List.getElem?_eq_some_iff.1 e;unfold vy;refine ae.eq_iff.1 ?_;dsimp only;refine ae.aU (P:=λb=>b=.inr ((a:Int),())) ?_ (by rintro _ rfl;exact ae.ag.2 rfl);refine ae.steps (a+1) (λc j=>c<=a/\j=((c:Int),())) ⟨Nat.zero_le _,rfl⟩ ?_ ?_
 ·rintro c _ n ⟨i,rfl⟩;dsimp only;rw[bo (aB (show(c:Int)<ay l by rw[a1];omega)),bt U];refine ae.bs (y:=l[c]'(by omega)) (bQ U) ?_
  rw[dB,br];refine ae.ite (λd=>?_) (λd=>?_)
  ·refine ae.ag.2 ?_;rcases bg c a with b|b
   ·exact absurd (by rw[a9 U,<-d]) (h c b)
   obtain rfl:c=a:=U;rfl
  refine ae.ag.2 ⟨?_,rfl⟩;rcases bg c a with b|b
  ·exact b
  obtain rfl:c=a:=U;exact absurd g.symm d
 rintro _ ⟨i,rfl⟩;omega
def uv (a d:Nat) (b:Nat->Nat) (c:Nat):Nat:=b (c/a)*d+b (c %a)
def h4 (c d:Nat) (h:Nat->Nat) (e f:Nat->Int) (g b:Nat):Int:=e b+fi (λa=>if uv c d h a=b then f a else 0) g
def I4 {c:Nat->Nat} {d:Nat->Int}:h4 b g c d l (a+1) o=h4 b g c d l a o+if uv b g c a=o then l a else 0:=by unfold h4;rw[fi,Int.add_assoc]
def RF (v:a<=5) (T:b<=a) {pz:Nat->Nat} (o:∀d,d<b->pz d<a) (J:∀d,d+1<b->pz d<pz (d+1)) {f g:Nat->Int} (B:∀c,c<b*b->e2 (g c)) (w:∀x c,x<=b*b->c<a*a->e2 (h4 b a pz f g x c)):AE (fR a f,aw b (λd=>((pz d:Nat):Int)),fR b g,())=some (fR a (h4 b a pz f g (b*b)),0,()):=by
 have t:b<=5:=U;have W:=qx v;have V:=qx t;have A:∀c,c<a*a->e2 (f c):=λc r=>(by have:=w 0 c (Nat.zero_le _) r;unfold h4 at this;rw[fi,Int.add_zero] at this;exact this);have C:∀d,d<b->aC (aw b (λd=>((pz d:Nat):Int))) (d:Int)=some ((pz d:Nat):Int):=λd h=>(by rw[bQ (by rw[bk];exact h),fD]);have M:∀c,c<b*b->aC (aw (b*b) (λc=>a8 (some (g c)))) (c:Int)=some (a8 (some (g c))):=λc r=>(by rw[bQ (by rw[bk];exact r),fD]);have L:∀c,c<a*a->aC (aw (a*a) (λc=>a8 (some (f c)))) (c:Int)=some (a8 (some (f c))):=λc r=>(by rw[bQ (by rw[bk];exact r),fD]);have O:ay (aw b (λd=>((pz d:Nat):Int)))=(b:Int):=(by rw[a1,bk]);unfold AE;refine aq (E7 v A) ?_;dsimp only;rw[bi (by rfl)];refine aq (E7 t B) ?_;dsimp only;rw[bi (by rfl),O];unfold fR;dsimp only;refine aq (y:=.inl (((0:Int),(0:Int),[],()),())) ?_ ?_
 ·refine aq (y:=(false,((0:Int),(0:Int),[],()),())) ?_ ?_
  ·rw[bo (by rw[b0,aB rfl];rfl),bo (by rw[b0,aB rfl];rfl),b0,aB rfl];rfl
  rfl
 dsimp only;refine aq (YR t o J) ?_;dsimp only;have Q:ay (aw (a*a) (λc=>a8 (some (f c))))=((a*a:Nat):Int):=(by rw[a1,bk]);rw[bi (by rfl),Q];refine aq (fU U) ?_;refine ae.eq_iff.1 ?_;generalize X:(((0:Int),(0:Int),[],()):e6)=m;refine ae.aU (P:=λs=>s=(m,((a:Int),(a:Int),aw (a*a) (λc=>a8 (some (f c))),()),())) ?_ ?_
 ·refine ae.steps (a*a) (λi c=>c=((i:Int),m,((a:Int),(a:Int),aw (a*a) (wC (λc=>a8 (some (f c))) i),()),())) ?_ ?_ ?_
  ·rw[gU];rfl
  ·rintro i _ l rfl;dsimp only;rw[bo (aB (U:(i:Int)<((a*a:Nat):Int))),bt U];refine ae.bs (L i l) (ae.bs (yj (rY (A i l))) ?_);dsimp only;refine ae.bs (dd (by rw[bk];exact l)) ?_;rw[dn l];refine ae.ag.2 ?_;have:=Z8 (λc=>a8 (some (f c))) (N:=a*a) (p:=i);rw[<-this]
  rintro _ rfl;dsimp only;rw[bi (az (U:¬(((a*a:Nat):Int)<((a*a:Nat):Int))))];refine ae.ag.2 ?_;have:aw (a*a) (wC (λc=>a8 (some (f c))) (a*a))=aw (a*a) (λc=>a8 (some (f c))):=bI λi l=>if_pos l;rw[this]
 rintro _ rfl;dsimp only;refine ae.aU (P:=λs=>s=.inl (m,((a:Int),(a:Int),aw (a*a) (λc=>a8 (some (h4 b a pz f g (b*b) c))),()),())) ?_ (by rintro _ rfl;exact ae.ag.2 rfl);refine ae.steps b (λe c=>c=((e:Int),m,((a:Int),(a:Int),aw (a*a) (λc=>a8 (some (h4 b a pz f g (e*b) c))),()),())) ?_ ?_ ?_
 ·have:aw (a*a) (λc=>a8 (some (h4 b a pz f g (0*b) c)))=aw (a*a) (λc=>a8 (some (f c))):=bI λc _=>by
   unfold h4;rw[mJ,fi,sm]
  rw[this];rfl
 ·rintro e _ q rfl;dsimp only;rw[bo (aB (U:(e:Int)<(b:Int))),bt U];refine ae.aU (P:=λs=>s=.inl (m,((a:Int),(a:Int),aw (a*a) (λc=>a8 (some (h4 b a pz f g (e*b+b) c))),()),())) ?_ (by rintro _ rfl;exact ae.ag.2 (by rw[Nat.add_mul,Nat.one_mul]));refine ae.steps b (λd c=>c=((d:Int),m,((a:Int),(a:Int),aw (a*a) (λc=>a8 (some (h4 b a pz f g (e*b+d) c))),()),())) rfl ?_ ?_
  ·rintro d _ h rfl;dsimp only;rw[bo (aB (U:(d:Int)<(b:Int))),bt U];refine ae.bs (C e q) (ae.bs (C d h) ?_);obtain⟨F,G⟩:=k3 (n:=b) (j:=e) h;have k:=oF (o e q) (o d h);have D:=oF q h;have E:uv b a pz (e*b+d)=pz e*a+pz d:=(by unfold uv;rw[F,G]);rw[pj v (o e q) (o d h),pj t q h];rw[jU (by rw[bk];exact k),fD];refine ae.bs (M _ D) ?_;have H:=w (e*b+d) (pz e*a+pz d) U k;have z:=w (e*b+d+1) (pz e*a+pz d) U k;have I:h4 b a pz f g (e*b+d+1) (pz e*a+pz d)=h4 b a pz f g (e*b+d) (pz e*a+pz d)+g (e*b+d):=(by rw[I4,if_pos E]);refine ae.bs (RG (rY H) (rY (B _ D))) ?_;dsimp only;have K:IA (some (h4 b a pz f g (e*b+d) (pz e*a+pz d))) (some (g (e*b+d)))=some (h4 b a pz f g (e*b+d+1) (pz e*a+pz d)):=by
    show lG _=_;unfold lG;rw[<-I,ai z]
   rw[K];refine ae.bs (dd (by rw[bk];exact k)) ?_;rw[dn k,e9];have R:aw (a*a) (bU (λc=>a8 (some (h4 b a pz f g (e*b+d) c))) (pz e*a+pz d) (a8 (some (h4 b a pz f g (e*b+d+1) (pz e*a+pz d)))))=aw (a*a) (λc=>a8 (some (h4 b a pz f g (e*b+d+1) c))):=by
    refine bI λc _=>?_;by_cases u:c=pz e*a+pz d
    ·rw[u,ei]
    rw[ew _ _ u,I4,ah (by rw[E];exactλS=>u S.symm),sm]
   rw[R];refine ae.bs rfl ?_;dsimp only;rw[jU (by rw[bk];exact k),fD];refine ae.bs (B7 (rY z)) ?_;dsimp only;rw[bi (by rfl)];exact ae.ag.2 (by rw[Nat.add_assoc])
  rintro _ rfl;dsimp only;rw[bi (az (U:¬((b:Int)<(b:Int))))];exact ae.ag.2 rfl
 rintro _ rfl;dsimp only;rw[bi (az (U:¬((b:Int)<(b:Int))))];exact ae.ag.2 rfl
section
structure lU (A:Nat->Nat->adZ) (G:adU) (n F own N:Nat) (r:Nat->Nat) (et:Nat->Int):Prop where
 lM:n<=5
 hW:G.length=n
 tE:da G
 Af:∀p q,h0 1 (A p q)
 Fe:∀p q,p<n->q<n->p≠q->A p q≠some 0->c9 G p q
 zO:F+own<=n
 mr:own<=N
 sD:N<=n
 ro:∀i,i<own->r i=F+i
 wo:∀i,i<N->r i<n
 ms:∀i j,i<j->j<N->r i<r j
 co:∀j,j<own->∀x,aX G (F+j) x=true->∃i,i<N/\r i=x
 Qz:∀j i,j<own->j<=i->i<N->et (j*N+i)=(A (r i) (r j)).getD 0+fi (λm=>hy A G m (r i) (r j)) F
 Ev:∀s,s<N*N->(et s).natAbs<=1000*dS
def jH (N b c a:Nat):Prop:=a/N<=a %N/\(a/N<b\/(a/N=b/\a %N<c))
def jS (A:Nat->Nat->adZ) (G:adU) (F N:Nat) (r:Nat->Nat) (c b a:Nat):Int:=open Classical in if jH N c b a then bn A (aX G) (F+a/N) (r (a %N)) else 0
def kI (A:Nat->Nat->adZ) (G:adU) (F N:Nat) (r:Nat->Nat) (c b a:Nat):bX:=open Classical in if jH N c b a then a8 (dJ (bn A (aX G) (F+a/N) (r (a %N)))) else lH
def gz (A:Nat->Nat->adZ) (G:adU) (F own N:Nat) (r:Nat->Nat) (et:Nat->Int) (b a:Nat):j9:=(fR N et,((N:Int),(own:Int),aw (N*own) (jS A G F N r b a),()),aw (N*own) (kI A G F N r b a),())
def my (A:Nat->Nat->adZ) (G:adU) (F N:Nat) (r:Nat->Nat) (et:Nat->Int) (d a b:Nat):Int:=et (b*N+a)+fi (λc=>hy A G (F+c) (r a) (r b)) d
section
variable {A:Nat->Nat->adZ} {G:adU} {n F own N:Nat} {r:Nat->Nat} {et:Nat->Int}
def Eu {own N:Nat} (c:a<own) (d:b<N):a*N+b<N*own:=by have:(a+1)*N<=own*N:=fP _ c;rw[eO,hD] at this;rw[iB N own];omega
def lU.uP (a:lU A G n F own N r et):N<=5:=dh a.sD a.lM
def J6 (k:lU A G n F own N r et) (f:a<g) (i:a<own) (h:a<=b) (e:b<N):aC (gz A G F own N r et g o).2.2.1 ((a*N+b:Nat):Int)=some (a8 (dJ (bn A (aX G) (F+a) (r b)))):=by show aC (aw (N*own) (kI A G F N r g o)) _=_;rw[bQ (by rw[bk];exact Eu i e),fD];obtain⟨c,d⟩:=k3 (n:=N) (j:=a) e;unfold kI;rw[c,d,ai ⟨by rw[c,d];exact h,.inl (by rw[c];exact f)⟩]
def N6 (d:lU A G n F own N r et) (p:i9 A G (F+g)) (y:g<=own) (q:a<N) (s:b<N):gB (some (et (b*N+a))::(List.range g).map λc=>ih (bn A (aX G)) (r a) (r b) (F+c))=some (my A G F N r et g a b)/\(my A G F N r et g a b).natAbs<=1005*dS:=by
 have z:=d.lM;have x:=d.zO;have j:∀c,c<g->ih (bn A (aX G)) (r a) (r b) (F+c)=some (hy A G (F+c) (r a) (r b))/\(hy A G (F+c) (r a) (r b)).natAbs<=1*dS:=λc e=>HK p d.hW U U;have m:=d.Ev (b*N+a) (oF s q);have t:∀i∈(some (et (b*N+a))::(List.range g).map λc=>ih (bn A (aX G)) (r a) (r b) (F+c)),h0 1000 i:=λi h=>by
  rcases dx.1 h with rfl|h
  ·exact⟨_,rfl,m⟩
  obtain⟨c,e,rfl⟩:=de.1 h;obtain⟨l,o⟩:=j c (fe.1 e);exact⟨_,l,dh o (fP _ aa)⟩
 constructor
 ·rw[(Ot t (by simp;omega)).1];show some (et (b*N+a)+eS ((List.range g).map λc=>ih (bn A (aX G)) (r a) (r b) (F+c)))=_;rw[OD];rfl
 have u:=Hp (f:=λc=>hy A G (F+c) (r a) (r b)) (n:=g) (k:=1) (B:=dS) λc e=>(j c e).2;unfold my;have v:g*1*dS<=5*dS:=fP _ U;have w:1005*dS=1000*dS+5*dS:=(by rw[<-eO]);omega
def Hr (c:lU A G n F own N r et) {h:Nat} (p:i9 A G (F+a)) (y:a<=h) (q:a<=own) (x:a<=g) (z:a<=o) (e:g<N) (f:o<N):vi (some (gz A G F own N r et h b),(g:Int),(o:Int),(a:Int),())=some (a8 (some (my A G F N r et a g o)),()):=by
 have i:=c.uP;have D:=c.lM;have E:=c.mr;obtain⟨s,B⟩:=N6 c p q e f;have l:=oF f e;have v:∀b,b<a->ec (ih (bn A (aX G)) (r g) (r o) (F+b)):=λb _=>DF _ _ _ _;unfold vi;refine aq rfl (aq rfl ?_);have al:(gz A G F own N r et h b).1.1=(N:Int):=rfl;have m:aC (gz A G F own N r et h b).1.2.2.1 ((o*N+g:Nat):Int)=some (a8 (some (et (o*N+g)))):=(by show aC (aw (N*N) (λk=>a8 (some (et k)))) _=_;rw[bQ (by rw[bk];exact l),fD]);rw[al,pj i f e];refine aq m ?_;refine ae.eq_iff.1 ?_;dsimp only;refine ae.aU (P:=λt=>t=(lH,(some (et (o*N+g))::(List.range a).map λb=>ih (bn A (aX G)) (r g) (r o) (F+b)).map a8,())) ?_ ?_
 ·refine ae.steps a (λd k=>k=((d:Int),lH,(some (et (o*N+g))::(List.range d).map λb=>ih (bn A (aX G)) (r g) (r o) (F+b)).map a8,())) rfl ?_ ?_
  ·rintro d _ C rfl;dsimp only;rw[bo (aB (U:(d:Int)<(a:Int))),bt U];refine ae.bs rfl (ae.bs rfl ?_);rw[al,pj i (U:d<N) e];refine ae.bs (J6 c U U U e) (ae.bs rfl (ae.bs rfl ?_));rw[al,pj i (U:d<N) f];refine ae.bs (J6 c U U U f) ?_;refine ae.bs (JN (kL _) (kL _)) ?_;dsimp only;refine ae.bs (JO (CP _ _)) ?_;dsimp only;rw[dQ (by simp;omega),Option.bind_some];refine ae.ag.2 ?_;rw[List.range_succ,List.map_append,<-List.cons_append,List.map_append];rfl
  rintro _ rfl;dsimp only;rw[bi (az (U:¬((a:Int)<(a:Int))))];exact ae.ag.2 rfl
 rintro _ rfl;dsimp only;refine ae.bs (JP (λu j=>?_) (by simp;omega)) ?_
 ·rcases dx.1 j with rfl|j
  ·exact rY (ws (c.Ev _ l) aa)
  obtain⟨b,w,rfl⟩:=de.1 j;exact DF _ _ _ _
 dsimp only;rw[s];exact ae.ag.2 rfl
def Au {s:Nat} (i:a<N) (k:b<=a):jH N b (a+1) s↔jH N b a s\/s=b*N+a:=by
 obtain⟨g,h⟩:=k3 (n:=N) (j:=b) i;unfold jH;constructor
 ·rintro⟨d,c|⟨c,f⟩⟩
  ·exact .inl ⟨d,.inl c⟩
  rcases bg (s %N) a with e|e
  ·exact .inl ⟨d,.inr ⟨c,e⟩⟩
  refine .inr ?_;have:=l1 s N;rw[c,iB] at this;omega
 rintro(⟨d,c|⟨c,f⟩⟩|rfl)
 ·exact⟨d,.inl c⟩
 ·exact⟨d,.inr ⟨c,U⟩⟩
 rw[g,h];exact⟨k,.inr ⟨rfl,U⟩⟩
def N9 (q:lU A G n F own N r et) (v:a<own) (h:a<=b) (f:b<N):xn (gz A G F own N r et a b,(b:Int),(a:Int),bn A (aX G) (F+a) (r b),())=some (gz A G F own N r et a (b+1),!decide (bG (bn A (aX G) (F+a) (r b))=2047),()):=by
 classical
 have u:=q.uP;have z:=q.mr;have i:=Eu v f;have t:=tP A (aX G) (F+a) (r b);obtain⟨l,m⟩:=k3 (n:=N) (j:=a) f;unfold xn;refine aq (wg t) ?_;dsimp only;have al:(gz A G F own N r et a b).1.1=(N:Int):=rfl;rw[al,pj u (U:a<N) f];have o:(gz A G F own N r et a b).2.1.2.2.1=aw (N*own) (jS A G F N r a b):=rfl;have p:(gz A G F own N r et a b).2.2.1=aw (N*own) (kI A G F N r a b):=rfl;refine aq (y:=a*N+b) (by rw[o,dd (by rw[bk];exact i)]) ?_;have w:(aw (N*own) (jS A G F N r a b)).set (a*N+b) (bn A (aX G) (F+a) (r b))=aw (N*own) (jS A G F N r a (b+1)):=by
  rw[e9];refine bI λd _=>?_;have g:=Au (s:=d) f h;by_cases e:d=a*N+b
  ·rw[e,ei];unfold jS;rw[ai ((Au f h).2 (.inr rfl)),l,m]
  rw[ew _ _ e];unfold jS;by_cases c:jH N a b d
  ·rw[ai c,ai (g.2 (.inl c))]
  rw[ah c,ah (λk=>(g.1 k).elim c e)]
 have x:(aw (N*own) (kI A G F N r a b)).set (a*N+b) (a8 (dJ (bn A (aX G) (F+a) (r b))))=aw (N*own) (kI A G F N r a (b+1)):=by
  rw[e9];refine bI λd _=>?_;have g:=Au (s:=d) f h;by_cases e:d=a*N+b
  ·rw[e,ei];unfold kI;rw[ai ((Au f h).2 (.inr rfl)),l,m]
  rw[ew _ _ e];unfold kI;by_cases c:jH N a b d
  ·rw[ai c,ai (g.2 (.inl c))]
  rw[ah c,ah (λk=>(g.1 k).elim c e)]
 rw[o,dn i,w];refine aq rfl ?_;dsimp only;refine aq (y:=a*N+b) (by rw[p,dd (by rw[bk];exact i)]) ?_;rw[p,dn i,x];refine aq rfl ?_;dsimp only;refine aq (Cv t) ?_;rfl
def Jl {j:Nat} (h:a<N*own):jH N j N a↔jH N (j+1) 0 a:=by
 have g:0<N:=by
  rcases gk N with d|d
  ·rw[d,mJ] at h;omega
  exact d
 have:=ot a g;unfold jH;constructor
 ·rintro⟨b,c|⟨c,f⟩⟩
  ·exact⟨b,.inl U⟩
  exact⟨b,.inl U⟩
 rintro⟨b,c|⟨c,f⟩⟩
 ·rcases bg (a/N) j with e|e
  ·exact⟨b,.inl e⟩
  exact⟨b,.inr ⟨U,this⟩⟩
 omega
def RU:gz A G F own N r et a N=gz A G F own N r et (a+1) 0:=by
 have al:aw (N*own) (jS A G F N r a N)=aw (N*own) (jS A G F N r (a+1) 0):=bI λd c=>by
  have:=Jl (j:=a) c;unfold jS;by_cases b:jH N a N d
  ·rw[ai b,ai (this.1 b)]
  rw[ah b,ah (λe=>b (this.2 e))]
 have f:aw (N*own) (kI A G F N r a N)=aw (N*own) (kI A G F N r (a+1) 0):=bI λd c=>by
  have:=Jl (j:=a) c;unfold kI;by_cases b:jH N a N d
  ·rw[ai b,ai (this.1 b)]
  rw[ah b,ah (λe=>b (this.2 e))]
 unfold gz;rw[al,f]
def RV:gz A G F own N r et a 0=gz A G F own N r et a a:=by
 have e:∀b,jH N a 0 b↔jH N a a b:=λb=>by
  unfold jH;constructor
  ·rintro⟨f,d|⟨d,h⟩⟩
   ·exact⟨f,.inl d⟩
   omega
  rintro⟨f,d|⟨d,h⟩⟩
  ·exact⟨f,.inl d⟩
  omega
 have al:jS A G F N r a 0=jS A G F N r a a:=by
  funext b;unfold jS;by_cases c:jH N a 0 b
  ·rw[ai c,ai ((e b).1 c)]
  rw[ah c,ah (λg=>c ((e b).2 g))]
 have i:kI A G F N r a 0=kI A G F N r a a:=by
  funext b;unfold kI;by_cases c:jH N a 0 b
  ·rw[ai c,ai ((e b).1 c)]
  rw[ah c,ah (λg=>c ((e b).2 g))]
 unfold gz;rw[al,i]
def N7 (c:lU A G n F own N r et) (e:i9 A G (F+a)) (d:a<own) (g:a<=b) (f:b<N):some (my A G F N r et a b a)=hd A (bn A (aX G)) (F+a) (r b):=by have i:=c.lM;have h:=c.zO;rw[N4 e c.hW U c.lM (c.Af _ _)];unfold my;rw[c.Qz a b d g f,c.ro a d,N2];congr 1;omega
def Rk (c:lU A G n F own N r et) (h:i9 A G (F+a)) (i:a<own) (j:a<b) (g:b<N) (m:dJ (bn A (aX G) (F+a) (F+a))=some f) (s:0<f):lh (hd A (bn A (aX G)) (F+a) (r b)) (dJ (bn A (aX G) (F+a) (F+a))) 0=bn A (aX G) (F+a) (r b):=by
 have t:=c.mr;have o:=c.zO;have q:=c.ro a i;have p:=c.ms a b j g;have k:=c.wo b g;by_cases d:aX G (F+a) (r b)=true
 ·have l:bn A (aX G) (F+a) (F+a)=js (hd A (bn A (aX G)) (F+a) (F+a)) 0:=by
   rw[m3];unfold kG;rw[ai rfl]
  rw[m3 A (aX G) (F+a) (r b)];unfold kG;rw[ah U,ai d,<-l]
 have e:aX G (F+a) (r b)=false:=(by simpa using d);rw[Y6 h c.tE c.hW U c.lM c.Fe k U e,rL e U,m];show(if f=0 then(9221120237041090560:Int) else if(0:Int)=0 then 0 else r2 0 f 0)=0;rw[ah U,ai rfl]
def Rm (d:lU A G n F own N r et) (k:i9 A G (F+a)) (i:a<own):ae (AG (gz A G F own N r et a 0,(a:Int),())) λb=>b.2.1=dz A G (F+a)/\(dz A G (F+a)=0->b.1=gz A G F own N r et (a+1) 0):=by
 classical
 have T:=d.uP;have Z:=d.lM;have ab:=d.mr;have V:=d.zO;have v:=d.ro a i;have l:=N7 d k i (Nat.le_refl a) (U:a<N);rw[v] at l;have E:bn A (aX G) (F+a) (F+a)=js (hd A (bn A (aX G)) (F+a) (F+a)) 0:=(by rw[m3];unfold kG;rw[if_pos rfl]);have t:=r7 A (bn A (aX G)) (F+a) (F+a);unfold AG;refine ae.bs (Hr d k (Nat.le_refl _) U (Nat.le_refl _) (Nat.le_refl _) U U) ?_;dsimp only;rw[l];refine ae.bs (B7 t) ?_;dsimp only;rw[bi (by rw[<-l];rfl)];refine ae.bs (mV t) ?_;dsimp only;rw[br];refine ae.ite (λg=>?_) (λg=>?_)
 ·refine ae.ag.2 ?_;have e:dz A G (F+a)=231:=(by unfold dz;rw[ai (.inl g)]);exact⟨e.symm,λb=>by rw[e] at b;cases b⟩
 refine ae.bs (Kr t) ?_;dsimp only;rw[<-E];have I:=tP A (aX G) (F+a) (F+a);refine ae.bs (K2 I) ?_;dsimp only;rw[dB,br];refine ae.ite (λm=>?_) (λm=>?_)
 ·refine ae.ag.2 ?_;have e:dz A G (F+a)=231:=(by unfold dz;rw[ai (.inr m)]);exact⟨e.symm,λb=>by rw[e] at b;cases b⟩
 have e:dz A G (F+a)=if∀c,aX G (F+a) c=true->bG (bn A (aX G) (F+a) c)≠2047 then 0 else 233:=by unfold dz;rw[ah (λb=>b.elim g m)]
 have H:=N9 d i (Nat.le_refl a) (U:a<N);rw[v,<-RV] at H;refine ae.bs H ?_;dsimp only;rw[Bool.not_not,br];refine ae.ite (λo=>?_) (λo=>?_)
 ·refine ae.ag.2 ?_;rw[e,ah (λb=>b (F+a) (Df (by rw[d.hW];omega)) o)];exact⟨rfl,λb=>by cases b⟩
 obtain⟨x,Q,R⟩:∃x,dJ (bn A (aX G) (F+a) (F+a))=some x/\0<x:=by
  have B:0<=bn A (aX G) (F+a) (F+a)/\bn A (aX G) (F+a) (F+a)<9223372036854775808:=by
   rw[E,<-l];refine YH ?_;rw[<-l] at g;have L:n0 (some (my A G F N r et a a a))=dW (my A G F N r et a a a):=rfl;rw[L] at g;unfold dW at g;split at g
   ·exact absurd aa g
   omega
  exact U6 B.1 B.2 o m
 rw[bt U];refine ae.aU (P:=λb=>(b=.inl (gz A G F own N r et a N,())/\∀c,a<c->c<N->bG (bn A (aX G) (F+a) (r c))≠2047)\/∃z,b=.inr (z,233,())/\∃c,a<c/\c<N/\bG (bn A (aX G) (F+a) (r c))=2047) ?_ ?_
 ·refine ae.steps (N-(a+1)) (λf S=>S=(((a+1+f:Nat):Int),gz A G F own N r et a (a+1+f),())/\∀c,a<c->c<a+1+f->bG (bn A (aX G) (F+a) (r c))≠2047) ⟨rfl,λc y K=>by omega⟩ ?_ ?_
  ·rintro f _ Y ⟨rfl,j⟩;dsimp only;have al:(gz A G F own N r et a (a+1+f)).1.1=(N:Int):=rfl;rw[al,bo (aB (U:((a+1+f:Nat):Int)<(N:Int))),bt U];have h:a+1+f<N:=U;generalize C:a+1+f=c at*;have p:a<c:=U;refine ae.bs (Hr d k (Nat.le_refl _) U U (Nat.le_refl _) h U) ?_;dsimp only;rw[N7 d k i U h];refine ae.bs (wg I) ?_;dsimp only;refine ae.bs (Ko (r7 _ _ _ _) (kL _)) ?_;dsimp only;rw[Rk d k i p h Q R];refine ae.bs (N9 d i U h) ?_;dsimp only;rw[Bool.not_not,br];refine ae.ite (λs=>?_) (λs=>?_)
   ·exact ae.ag.2 (.inr ⟨_,rfl,c,p,h,s⟩)
   refine ae.ag.2 ⟨by rw[(U:a+1+(f+1)=c+1)],λw y K=>?_⟩;rcases bg w c with b|b
   ·exact j w y b
   obtain rfl:w=c:=U;exact s
  rintro _ ⟨rfl,j⟩;dsimp only;have al:(gz A G F own N r et a (a+1+(N-(a+1)))).1.1=(N:Int):=rfl;have D:a+1+(N-(a+1))=N:=U;rw[al,bi (az (U:¬((a+1+(N-(a+1)):Nat):Int)<(N:Int))),D];rw[D] at j;exact ae.ag.2 (.inl ⟨rfl,j⟩)
 rintro b (⟨rfl,j⟩|⟨z,rfl,c,p,h,u⟩)
 ·dsimp only;refine ae.ag.2 ?_;have M:∀q,aX G (F+a) q=true->bG (bn A (aX G) (F+a) q)≠2047:=λq J=>by
   obtain⟨c,C,rfl⟩:=d.co a i q J;have W:=XV J;rcases kX c a with b|b|b
   ·have:=d.ms c a b U;omega
   ·subst b;rw[v];exact o
   exact j c b C
  rw[e,ai M];exact⟨rfl,λ_=>RU⟩
 dsimp only;refine ae.ag.2 ?_;have O:aX G (F+a) (r c)=true:=(by refine Classical.byContradiction λb=>?_;have X:=d.ms a c p h;rw[rL (by simpa using b) U] at u;exact absurd u aa);rw[e,if_neg (λb=>b _ O u)];exact⟨rfl,λb=>by cases b⟩
end
end
section
section
variable {A:Nat->Nat->adZ} {G:adU} {n F B N:Nat} {r:Nat->Nat} {C:Nat->Int}
def nS (a b:Nat):Nat:=max (b/a) (b %a)
def kn (a b:Nat):Nat:=min (b/a) (b %a)
def lF (A:Nat->Nat->adZ) (G:adU) (F B N:Nat) (r:Nat->Nat) (C:Nat->Int) (a:Nat):Int:=my A G F N r C B (B+nS (N-B) a) (B+kn (N-B) a)
def hF (a c d b:Nat):Prop:=kn a b<c\/(kn a b=c/\nS a b<d)
def gy (c:Nat->Int) (b e d a:Nat):bX:=open Classical in if hF b e d a then a8 (some (c a)) else lH
def Jx (y:g<a) (x:b<a) (A:g<=b) (u:l (g*a+b)=f) (v:l (b*a+g)=f):((aw (a*a) (gy l a g b)).set (g*a+b) (a8 (some f))).set (b*a+g) (a8 (some f))=aw (a*a) (gy l a g (b+1)):=by
 obtain⟨p,q⟩:=k3 (n:=a) (j:=g) x;obtain⟨r,s⟩:=k3 (n:=a) (j:=b) y;rw[e9,e9];refine bI λc B=>?_;by_cases i:c=b*a+g
 ·rw[i,ei];unfold gy;rw[ai (by unfold hF kn nS;rw[r,s];omega),v]
 rw[ew _ _ i];by_cases k:c=g*a+b
 ·rw[k,ei];unfold gy;rw[ai (by unfold hF kn nS;rw[p,q];omega),u]
 rw[ew _ _ k];have:hF a g (b+1) c↔hF a g b c:=by
  have w:=l1 c a;have o:∀e h,c/a=e->c %a=h->c=e*a+h:=λe h al t=>(by rw[al,t,iB] at w;omega);unfold hF kn nS;constructor
  ·rintro(d|⟨ax,z⟩)
   ·exact .inl d
   refine .inr ⟨ax,?_⟩;rcases bg (max (c/a) (c %a)) b with d|d
   ·exact d
   rcases Nat.le_total (c/a) (c %a) with m|m
   ·exact absurd (o g b U U) k
   exact absurd (o b g U U) i
  rintro(d|⟨ax,z⟩)
  ·exact .inl d
  exact .inr ⟨ax,U⟩
 unfold gy;by_cases d:hF a g b c
 ·rw[ai d,ai (this.2 d)]
 rw[ah d,ah (λm=>d (this.1 m))]
def Re:gy l b a 0=gy l b a a:=by
 funext t;have:hF b a 0 t↔hF b a a t:=by
  unfold hF kn nS;constructor
  ·rintro(c|⟨ax,d⟩)
   ·exact .inl c
   omega
  rintro(c|⟨ax,d⟩)
  ·exact .inl c
  omega
 unfold gy;by_cases c:hF b a 0 t
 ·rw[ai c,ai (this.1 c)]
 rw[ah c,ah (λe=>c (this.2 e))]
def Jw:aw (a*a) (gy l a b a)=aw (a*a) (gy l a (b+1) 0):=bI λc g=>by
 have h:0<a:=by
  rcases gk a with f|f
  ·rw[f,mJ] at g;omega
  exact f
 have j:=ot c h;have k:c/a<a:=uR g;have:hF a b a c↔hF a (b+1) 0 c:=by
  unfold hF kn nS;constructor
  ·rintro(d|⟨ax,i⟩)
   ·exact .inl U
   exact .inl U
  rintro(d|⟨ax,i⟩)
  ·rcases bg (min (c/a) (c %a)) b with e|e
   ·exact .inl e
   exact .inr ⟨U,U⟩
  omega
 unfold gy;by_cases d:hF a b a c
 ·rw[ai d,ai (this.1 d)]
 rw[ah d,ah (λe=>d (this.2 e))]
def Rx (g:lU A G n F B N r C) (p:i9 A G (F+B)):AH (some (gz A G F B N r C B 0),(B:Int),())=some (fR (N-B) (lF A G F B N r C),0,()):=by
 have H:=g.uP;have K:=g.lM;have L:=g.mr;have k:N-B<=5:=U;have I:=qx k;have al:ar ((gz A G F B N r C B 0).1.1-(B:Int))=((N-B:Nat):Int):=(by show ar ((N:Int)-(B:Int))=_;rw[(U:(N:Int)-(B:Int)=((N-B:Nat):Int)),bm U U]);unfold AH;refine aq rfl ?_;rw[al,HU k];refine aq (fU U) ?_;refine ae.eq_iff.1 ?_;dsimp only;generalize J:(((0:Int),(0:Int),[],()):e6)=l;generalize o:N-B=a at*;refine ae.aU (P:=λm=>m=.inl (l,fR a (lF A G F B N r C),())) ?_ (by rintro _ rfl;exact ae.ag.2 rfl);refine ae.steps a (λb i=>i=((b:Int),l,((a:Int),(a:Int),aw (a*a) (gy (lF A G F B N r C) a b 0),()),())) ?_ ?_ ?_
 ·rw[gU];have:(aw (a*a) λ_=>lH)=aw (a*a) (gy (lF A G F B N r C) a 0 0):=bI λd _=>by
   unfold gy;rw[ah (by unfold hF;omega)]
  rw[<-this];rfl
 ·rintro b _ f rfl;dsimp only;rw[bo (aB (U:(b:Int)<(a:Int))),bt U,Re];refine ae.aU (P:=λm=>m=.inl (l,((a:Int),(a:Int),aw (a*a) (gy (lF A G F B N r C) a (b+1) 0),()),())) ?_ (by rintro _ rfl;exact ae.ag.2 rfl);refine ae.steps (a-b) (λd i=>i=(((b+d:Nat):Int),l,((a:Int),(a:Int),aw (a*a) (gy (lF A G F B N r C) a b (b+d)),()),())) rfl ?_ ?_
  ·rintro d _ u rfl;dsimp only;rw[bo (aB (U:((b+d:Nat):Int)<(a:Int))),bt U];have e:b+d<a:=U;rw[<-Nat.add_assoc b d 1];have h:b<=b+d:=U;generalize b+d=c at*;have D:ar ((B:Int)+(c:Int))=((B+c:Nat):Int):=(by rw[(U:(B:Int)+(c:Int)=((B+c:Nat):Int)),bm U U]);have E:ar ((B:Int)+(b:Int))=((B+b:Nat):Int):=(by rw[(U:(B:Int)+(b:Int)=((B+b:Nat):Int)),bm U U]);rw[D,E];refine ae.bs (Hr g p (Nat.le_refl _) (Nat.le_refl _) U U U U) ?_;dsimp only;obtain⟨_,z⟩:=N6 g p (Nat.le_refl B) (U:B+c<N) (U:B+b<N);have t:e2 (my A G F N r C B (B+c) (B+b)):=ws z aa;refine ae.bs (B7 (rY t)) ?_;dsimp only;rw[bi (by rfl),pj k f e];have q:=oF f e;have s:=oF e f;refine ae.bs (dd (by rw[bk];exact q)) ?_;rw[dn q];refine ae.bs rfl ?_;dsimp only;refine ae.bs (yj (rY t)) ?_;dsimp only;rw[pj k e f];refine ae.bs (dd (by rw[List.length_set,bk];exact s)) ?_;rw[ix (List.getElem?_eq_getElem (show c*a+b<((aw (a*a) (gy (lF A G F B N r C) a b c)).set (b*a+c) (a8 (some (my A G F N r C B (B+c) (B+b))))).length by rw[List.length_set,bk];exact s))];obtain⟨v,w⟩:=k3 (n:=a) (j:=b) e;obtain⟨x,y⟩:=k3 (n:=a) (j:=c) f;rw[Jx f e h]
   ·exact ae.ag.2 rfl
   ·unfold lF nS kn;rw[o,v,w,Nat.max_eq_right h,fu h]
   unfold lF nS kn;rw[o,x,y,Nat.max_eq_left h,uS h]
  rintro _ rfl;dsimp only;rw[(U:b+(a-b)=a),bi (az (U:¬((a:Int)<(a:Int)))),Jw];exact ae.ag.2 rfl
 rintro _ rfl;dsimp only;rw[bi (az (U:¬((a:Int)<(a:Int))))];refine ae.ag.2 ?_;have:aw (a*a) (gy (lF A G F B N r C) a a 0)=aw (a*a) (λi=>a8 (some (lF A G F B N r C i))):=bI λd u=>by
  unfold gy;rw[ai (show hF a a 0 d from .inl (by
   unfold kn;have:=uR u;omega))]
 rw[this];rfl
def aas (a:lU A G n F B N r C):ar ((N:Int)*(B:Int))=((N*B:Nat):Int):=by have b:=a.uP;have e:=a.mr;have d:N*B<=25:=it b (U:B<=5);have c:(N:Int)*(B:Int)=((N*B:Nat):Int):=(by rw[ja]);rw[c];generalize N*B=f at*;rw[bm U U]
def Po (h:lU A G n F B N r C) (w:∀b,b<F->dz A G b=0):ae (AF (fR N C,(B:Int),8,())) λc=>(∃a,a<B/\(∀b,b<F+a->dz A G b=0)/\dz A G (F+a)≠0/\∃g f,c=(g,f,(if dz A G (F+a)=231 then(a:Int) else 0),dz A G (F+a),()))\/((∀b,b<F+B->dz A G b=0)/\c=(((N:Int),(B:Int),aw (N*B) (jS A G F N r B 0),()),fR (N-B) (lF A G F B N r C),(B:Int),0,())):=by
 have q:=h.uP;have W:=h.lM;have X:=h.mr;have Q:N*B<=25:=Nat.mul_le_mul q (U:B<=5);unfold AF;refine ae.bs (E7 q λe H=>ws (h.Ev e H) aa) ?_;dsimp only;have al:(fR N C).1=(N:Int):=rfl;have z:(fR N C).2.1=(N:Int):=rfl;refine ae.bs (y:=(0,fR N C,((0:Int),(0:Int),[],()),((0:Int),(0:Int),[],()),())) ?_ ?_
 ·rw[bi (by rfl),al,z];refine aq (y:=(false,fR N C,((0:Int),(0:Int),[],()),((0:Int),(0:Int),[],()),())) ?_ ?_
  ·rw[bo (by rw[b0,aB rfl];rfl),bo (by rw[az (U:¬(B:Int)<0)];rfl),az (U:¬(B:Int)>(N:Int))]
  rfl
 dsimp only;rw[bi (by rfl),al,aas h];refine ae.bs (fU U) (ae.bs (fU U) ?_);generalize T:(((0:Int),(0:Int),[],()):lD)=k;generalize S:(((0:Int),(0:Int),[],()):e6)=j;have x:((fR N C,((N:Int),(B:Int),List.replicate (N*B) (0:Int),()),List.replicate (N*B) ((false,(false,[],()),(0:Int),()):bX),()):j9)=gz A G F B N r C 0 0:=(by rw[gU,gU];have D:(aw (N*B) λ_=>(0:Int))=aw (N*B) (jS A G F N r 0 0):=bI λe _=>(by unfold jS;rw[if_neg (by rintro⟨_,c|⟨_,c⟩⟩<;>exact absurd c (Nat.not_lt_zero _))]);have E:(aw (N*B) λ_=>lH)=aw (N*B) (kI A G F N r 0 0):=bI λe _=>(by unfold kI;rw[if_neg (by rintro⟨_,c|⟨_,c⟩⟩<;>exact absurd c (Nat.not_lt_zero _))]);unfold gz;rw[<-D,<-E];rfl);refine ae.aU (P:=λc=>(∃a,a<B/\(∀b,b<F+a->dz A G b=0)/\dz A G (F+a)≠0/\∃g f,c=.inr (g,f,(if dz A G (F+a)=231 then(a:Int) else 0),dz A G (F+a),()))\/((∀b,b<F+B->dz A G b=0)/\c=.inl (k,j,gz A G F B N r C B 0,()))) ?_ ?_
 ·rcases gk B with s|s
  ·refine ae.steps 0 (λm e=>e=((0:Int),k,j,gz A G F B N r C 0 0,())) ?_ (λV e O=>by omega) ?_
   ·rw[<-x]
   rintro _ rfl;dsimp only;rw[bi (az (U:¬(0:Int)<(B:Int)))];exact ae.ag.2 (.inr ⟨λb v=>w b U,by rw[s]⟩)
  refine ae.steps 1 (λm e=>(m=0/\e=((0:Int),k,j,gz A G F B N r C 0 0,()))\/(m=1/\(∀b,b<F+B->dz A G b=0)/\e=((B:Int),k,j,gz A G F B N r C B 0,()))) ?_ ?_ ?_
  ·exact .inl ⟨rfl,by rw[<-x]⟩
  ·rintro m _ R (⟨rfl,rfl⟩|⟨rfl,_,rfl⟩)
   ·dsimp only;rw[bo (aB (U:(0:Int)<(B:Int)))];have I:ar ((B:Int)-0)=(B:Int):=(by rw[Int.sub_zero,bm U U]);rw[I,if_pos (U:(B:Int)<8)];have J:ar (0+(B:Int))=(B:Int):=(by rw[Int.zero_add,bm U U]);rw[J];refine ae.aU (P:=λc=>(∃a,a<B/\(∀b,b<F+a->dz A G b=0)/\dz A G (F+a)≠0/\∃g f,c=.inr (.inr (.inr (g,f,(if dz A G (F+a)=231 then(a:Int) else 0),dz A G (F+a),()))))\/((∀b,b<F+B->dz A G b=0)/\c=.inl (k,j,gz A G F B N r C B 0,()))) ?_ ?_
    ·refine ae.steps B (λa e=>(∀b,b<F+a->dz A G b=0)/\e=((a:Int),k,j,gz A G F B N r C a 0,())) ⟨λb v=>w b U,rfl⟩ ?_ ?_
     ·rintro a _ i ⟨d,rfl⟩;dsimp only;rw[bo (aB (U:(a:Int)<(B:Int))),bt U];refine ae.aU (Rm h (yw d) i) ?_;rintro⟨L,K,_⟩ ⟨t,u⟩;dsimp only at t u|-;subst t;rw[dB,br];refine ae.ite (λl=>?_) (λl=>?_)
      ·rw[u l];refine ae.ag.2 ⟨λb v=>?_,rfl⟩;rcases bg b (F+a) with c|c
       ·exact d b c
       obtain rfl:b=F+a:=U;exact l
      rw[dB,br];refine ae.ite (λo=>?_) (λo=>?_)
      ·exact ae.ag.2 (.inl ⟨a,i,d,l,_,_,by rw[ai o]⟩)
      exact ae.ag.2 (.inl ⟨a,i,d,l,_,_,by rw[ah o]⟩)
     rintro _ ⟨d,rfl⟩;dsimp only;rw[bi (az (U:¬((B:Int)<(B:Int))))];exact ae.ag.2 (.inr ⟨d,rfl⟩)
    rintro c (⟨a,i,d,p,g,f,rfl⟩|⟨d,rfl⟩)
    ·exact ae.ag.2 (.inl ⟨a,i,d,p,g,f,rfl⟩)
    exact ae.ag.2 (.inr ⟨rfl,d,rfl⟩)
   omega
  rintro _ (⟨M,_⟩|⟨_,d,rfl⟩)
  ·omega
  dsimp only;rw[bi (az (U:¬((B:Int)<(B:Int))))];exact ae.ag.2 (.inr ⟨d,rfl⟩)
 rintro c (⟨a,i,d,p,g,f,rfl⟩|⟨d,rfl⟩)
 ·exact ae.ag.2 (.inl ⟨a,i,d,p,g,f,rfl⟩)
 dsimp only;refine ae.bs (Rx h (yw d)) ?_;dsimp only;rw[bi (by rfl)];exact ae.ag.2 (.inr ⟨d,rfl⟩)
end
end
section
def bf (l:List bW) (t:Nat):Nat:=aO l (t+1)-aO l t
def aS (l:List bW) (t:Nat):Nat:=(dT l (t:Int)).length
def bw (l:List bW) (t a:Nat):Nat:=((dT l (t:Int)).getD a 0).toNat
def fH (l:List bW) (t:Nat):Int:=((l[t]?).map λ(a:bW)=>a.2.2.2.1).getD 0
def kj (l:List bW) (t b:Nat):Prop:=∃a,bf l t<=a/\a<aS l t/\bw l t a=b
structure iM (n:Nat) (l:List bW) (t:Nat):Prop where
 lt:t<l.length
 g:l[t]?=some ((aO l t:Int),(aO l (t+1):Int),dT l (t:Int),fH l t,())
 Jj:aO l t<aO l (t+1)
 sS:aO l (t+1)<=n
 mr:bf l t<=aS l t
 sD:aS l t<=n
 get:∀i,i<aS l t->(dT l (t:Int))[i]?=some ((bw l t i:Nat):Int)
 ro:∀i,i<bf l t->bw l t i=aO l t+i
 G9:∀i,bf l t<=i->i<aS l t->aO l (t+1)<=bw l t i
 wo:∀i,i<aS l t->bw l t i<n
 ms:∀i j,i<j->j<aS l t->bw l t i<bw l t j
def iM.of {G:adU} {l:List bW} {n t:Nat} (E:gY G l) (p:G.length=n) (e:t<l.length):iM n l t:=by
 obtain⟨D,F,P,_⟩:=E;obtain⟨y,z,A,B⟩:=(D.1 t e).at e;have m:=F t e;have g:dT l (t:Int)=l[t].2.2.1:=pa e;have I:=m.asc U U;have s:(l[t].2.1-l[t].1).toNat=bf l t:=(by unfold bf;omega);have M:bf l t<=aS l t:=(by unfold aS;rw[g,<-s];exact m.1);have o:∀i,(a:i<l[t].2.2.1.length)->(i<bf l t->l[t].2.2.1[i]=(aO l t:Int)+i)/\(bf l t<=i->(aO l (t+1):Int)<=l[t].2.2.1[i]/\l[t].2.2.1[i]<(n:Int)):=λi a=>(by have b:=m.2 i (bE _) a a;rw[s] at b;refine⟨λd=>by have:=b.1 d;omega,λd=>?_⟩;have c:=b.2 d;rw[p] at c;exact⟨by have:=c.1;omega,c.2.1⟩);have r:∀i,(a:i<l[t].2.2.1.length)->0<=l[t].2.2.1[i]/\l[t].2.2.1[i]<(n:Int):=λi a=>by
  obtain⟨b,c⟩:=o i a;rcases bg i (bf l t) with d|d
  ·have:=b d;unfold bf at d;omega
  have:=c d;omega
 have q:∀i,i<aS l t->(dT l (t:Int))[i]?=some ((bw l t i:Nat):Int):=λi a=>(by unfold aS at a;unfold bw;rw[g] at a|-;have:=r i a;rw[a9 a,iO,a9 a,jE];congr 1;omega);have j:∀i,(a:i<l[t].2.2.1.length)->((bw l t i:Nat):Int)=l[t].2.2.1[i]:=λi a=>(by have:=q i (by unfold aS;rw[g];exact a);rw[g,a9 a] at this;exact(ee this).symm);have h:∀i,i<aS l t->i<l[t].2.2.1.length:=λi a=>(by unfold aS at a;rw[g] at a;exact a);have u:∀i f,i<f->f<aS l t->bw l t i<bw l t f:=λi f K L=>(by have b:=h f L;have c:=gj.1 I i f U b K;have k:=j i U;have O:=j f b;omega);have v:∀i,i<aS l t->bw l t i<n:=λi a=>(by have:=r i (h i a);have:=j i (h i a);omega);refine⟨e,?_,A,by rw[<-p];exact B,M,?_,q,λi a=>?_,λi b c=>?_,v,u⟩
 ·rw[a9 e,g];have C:fH l t=l[t].2.2.2.1:=(by unfold fH;rw[a9 e];rfl);rw[C,<-y,<-z]
 ·have:=Gu ((List.range (aS l t)).map (bw l t)) n ?_ ?_
  ·simpa using this
  ·rw[sz];refine List.Pairwise.imp_of_mem ?_ List.pairwise_lt_range;intro w x Q J H;exact u w x H (fe.1 J)
  intro R N;obtain⟨i,a,rfl⟩:=de.1 N;exact v i (fe.1 a)
 ·have b:=h i U;have:=(o i b).1 a;have:=j i b;omega
 have k:=h i c;have:=((o i k).2 b).1;have:=j i k;omega
section
variable {n:Nat} {l:List bW} {t:Nat}
def iM.own (a:iM n l t):aO l t+bf l t=aO l (t+1):=by have:=a.Jj;unfold bf;omega
def iM.beyond (c:iM n l t) (i:(a:Int)∈dT l (t:Int)) (j:aO l (t+1)<=a):kj l t a:=by
 obtain⟨b,d,h⟩:=fC.1 i;have f:=c.get b d;rw[a9 d,h] at f;have g:a=bw l t b:=(by have:=ee f;omega);refine⟨b,?_,d,g.symm⟩;rcases bg b (bf l t) with e|e
 ·have:=c.ro b e;have:=c.own;omega
 exact e
def iM.pos (e:iM n l t) (g:(a:Int)∈dT l (t:Int)):∃b,b<aS l t/\bw l t b=a:=by obtain⟨b,c,f⟩:=fC.1 g;have d:=e.get b c;rw[a9 c,f] at d;exact⟨b,c,by have:=ee d;omega⟩
end
section
variable {G:adU} {l:List bW} {n:Nat}
def Jk (d:gY G l) (g:b<=a) (h:a<=l.length):aO l b<=aO l a:=by
 induction a with
 |zero=>
  obtain rfl:b=0:=U;exact a2 _
 |succ a e=>
  rcases bg a b with c|c
  ·obtain rfl:b=a+1:=U;exact a2 _
  have:=e c U;obtain⟨_,_,f,_⟩:=(d.1.1 a U).at U;omega
def C9 (d:gY G l) (y:G.length=n) {t:Nat} (e:t<l.length):(fH l t=-1/\∀f,¬kj l t f)\/∃a:Nat,fH l t=(a:Int)/\t<a/\a<l.length/\∀f,kj l t f->(f:Int)∈dT l (a:Int):=by
 have g:=iM.of d y e;have p:fH l t=l[t].2.2.2.1:=(by unfold fH;rw[a9 e];rfl);have h:dT l (t:Int)=l[t].2.2.1:=pa e;obtain⟨D,v,E,F⟩:=(d.1.1 t e).at e;have z:(l[t].2.1-l[t].1).toNat=bf l t:=(by unfold bf;omega);have A:=d.parent e;rcases d.2.2.1 t e with⟨k,c⟩|⟨k,c,H⟩
 ·refine .inl ⟨by rw[p,c],?_⟩;rintro f ⟨j,ax,b,_⟩;unfold aS at b;rw[h] at b;omega
 right;simp only[z] at k c;have o:bf l t<aS l t:=(by unfold aS;rw[h];exact k);have m:=g.get (bf l t) o;rw[h,a9 k] at m;have m:=ee m;rw[m,db] at c;have J:=g.wo _ o;have I:=g.G9 _ (a2 _) o;obtain⟨a,q,w,x⟩:=q1 d.1 (U:bw l t (bf l t)<G.length);rw[lV.last d.1 (⟨q,w,x⟩:lV l _ a)] at c;refine⟨a,by rw[p,c],?_,q,?_⟩
 ·rcases bg t a with s|s
  ·exact s
  have:=Jk d (U:a+1<=t+1) U;omega
 rintro f ⟨j,ax,b,rfl⟩;have r:j<l[t].2.2.1.length:=(by unfold aS at b;rw[h] at b;exact b);have i:=g.get j b;rw[h,a9 r] at i;have i:=ee i;obtain⟨B,C,K,u⟩:=A.2 j r (by rw[i,v];have:=g.G9 j ax b;omega);rw[i] at u;obtain rfl:B=a:=(by rw[c] at C;omega);exact u
def Da (g:da G) (h:G.length<=200) (f:gY G l) {t:Nat} (i:t<l.length) (d:aO l t<=a) (e:a<aO l (t+1)) (c:aX G a b=true):(b:Int)∈dT l (t:Int):=by refine SV g h f (v:=a) (q:=t) ⟨i,d,e⟩ ?_;unfold aX at c;exact of_decide_eq_true c
def Xz (g:gY G l) (i:G.length=n) {t:Nat} (w:t<l.length) (k:b<l.length) (j:kj l b a) (q:a<aO l (t+1)):fH l b<=(t:Int):=by
 rcases C9 g i k with⟨_,f⟩|⟨e,v,r,p,f⟩
 ·exact absurd j (f a)
 have o:=f a j;have d:=iM.of g i p;obtain⟨h,m,s⟩:=d.pos o;have u:aO l e<=a:=by
  rcases bg h (bf l e) with c|c
  ·have:=d.ro h c;omega
  have:=d.G9 h c m;have:=d.Jj;omega
 rcases bg t e with c|c
 ·have:=Jk g (U:t+1<=e) U;omega
 omega
end
end
end Go.h2
end
