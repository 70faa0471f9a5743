/-
  Parts of the proof: Pa27, Pa28, Pa29, Pa30, Pm1, Pm2, G24, Pm3, Pm4, Pm5, Pm6, Pm7, Pm8, Pm9, Pm10, Pm11, Pm12, Pl13, Th2, Pl16, Pl18, Th3, Pl29, Pl30, Pl40, Pl41, Pl42, Pl43, Pm13, Pl46, Pl48, Pl50, Pl51, Pl54, Pm14, Pm15, Pm16, Pm17, Pm18, Pm19, Pm20, Pm21, Pm22, Pm23, Pm24, Pm25, Pm26, Pm27, Pm28, Pm29, Pm30, Pm31, Pm32, Pm33, Pm34, Pm35: the framework (Fw), pure forms (Dn), plain laws (Pl, Th), calls of functions (Ok).
-/
import Derived.Test.YtkhcdgkdpjahpaaGreatDoorRows
import Derived.ProofKit
import Derived.Lib.LaidTab
import Derived.LaidMore
import Derived.KernelRfl
import Derived.Test.YtkhcdgkdpjahpaaGreatDoorB24d07b26

set_option linter.all false
noncomputable section
namespace Go.i9
variable{a b i p:Nat}{c g h n:cZ}{d j:Int}{e:Nat->Nat->cT}{f:cO}{k:Nat->Nat->Bool}{l:cT}{m:Type}{q w:Bool}{t:Nat->Prop}{u:cM}{v:List (Int×bD)}{x:cV}
theorem ZF:o1 (aG 0,())=some (0,()):=by
 unfold o1;refine ai (q7 (l:=[]) aI.nil (λf b=>by cases b) aa) ?_;refine ac.eq_iff.1 (ac.aU (P:=λd=>d=.inl ()) ?_ ?_)
 ·refine ac.steps 0 (λc a=>a=((0:Int),())) rfl (λc a e=>by omega) ?_;rintro _ rfl;exact ac.af.2 rfl
 rintro _ rfl;exact ac.af.2 rfl
theorem Lx {n:Nat} (e:ax n<=900000):∃c,o1 (aG (n:Int),())=some (c,())/\((c=0/\n≠0)↔n %2=1):=by
 by_cases d:n=0
 ·subst d;exact⟨0,ZF,ab⟩
 refine⟨(bq n:Int),?_,?_⟩
 ·have:=LH (z:=(n:Int)) (by rw[du];omega) U;rw[du] at this;exact this
 rw[<-xq];constructor
 ·rintro⟨a,b⟩;exact⟨b,U⟩
 rintro⟨a,b⟩;exact⟨U,a⟩
theorem aaP:z1 (w,j,q,d,())=some (s4 w j q d,()):=by
 unfold z1 s4;dsimp only;rw[dM,dM,dM,dM];by_cases a:d=1
 ·rw[az a,if_pos a];rfl
 rw[aw a,if_neg a];by_cases b:d=2
 ·rw[az b,if_pos b];rfl
 rw[aw b,if_neg b];by_cases c:d=3
 ·rw[az c,if_pos c];rfl
 rw[aw c,if_neg c];by_cases f:j>0
 ·rw[az f];rfl
 rw[aw f];by_cases e:j=0
 ·rw[az e];cases q<;>rfl
 rw[aw e];rfl
theorem Y5 (D:ax a<=800000) (F:b<=1000000):zV (w,aG (a:Int),(b:Int),q,d,())=some (aG ((gR w a b q d:Nat):Int),()):=by
 unfold zV;have v:∀g:Nat,(a:Int)/2^g=((a/2^g:Nat):Int):=λg=>(by rw[<-iI,<-Int.natCast_ediv]);have A:∀g:Nat,decide (((a:Int).natAbs:Int) %2^g≠0)=decide (a %2^g≠0):=λg=>(by rw[du,<-iI,<-Int.natCast_emod,decide_eq_decide];omega);have j:∀g,ax (a/2^g)<=800000:=λg=>Nat.le_trans (hJ (Nat.div_le_self _ _)) D;refine ai (EY (m:=(a:Int)) (n:=b) (by rw[du];omega) U) ?_;rw[v];refine ai (Lq (z:=(a:Int)) (n:=b) (by rw[du];omega) U) ?_;rw[A];dsimp only;by_cases k:a %2^b=0/\q=false
 ·refine ai (y:=.inr (aG ((a/2^b:Nat):Int),())) ?_ ?_
  ·rw[aw (λe=>e k.1),k.2];rfl
  unfold gR;rw[if_pos k]
 refine ai (y:=.inl ((false,([],())),aG ((a/2^b:Nat):Int),())) ?_ ?_
 ·by_cases e:a %2^b=0
  ·have:q=true:=by
    cases q
    ·exact absurd ⟨e,rfl⟩ k
    rfl
   rw[aw (λC=>C e),this];rfl
  rw[az e];rfl
 dsimp only;refine ai (y:=(iS a b q,(false,([],())),aG ((a/2^b:Nat):Int),())) ?_ ?_
 ·rw[bu];split
  ·rename_i e;obtain⟨c,rfl⟩:∃c,b=c+1:=⟨b-1,U⟩;have B:au (((c+1:Nat):Int)-1)=(c:Int):=(by rw[bf U U];omega);rw[B];refine ai (EY (m:=(a:Int)) (n:=c) (by rw[du];omega) U) ?_;rw[v];obtain⟨u,t,i⟩:=Lx (n:=a/2^c) (by have:=j c;omega);have p:=Ee a c 1;rw[Nat.pow_one] at p;have E:=Nat.mod_lt a (ht c);have G:2^(c+1)=2*2^c:=(by rw[jg,jf]);refine ai (y:=(decide (a/2^c %2=1),(false,([],())),aG ((a/2^(c+1):Nat):Int),())) ?_ ?_
   ·refine ai t ?_;dsimp only;rw[dM];by_cases h:u=0
    ·rw[az h];refine ai (hP (z:=((a/2^c:Nat):Int)) (by rw[du];have:=j c;omega)) ?_;dsimp only;have o:(dH ((a/2^c:Nat):Int)!=0)=decide (a/2^c %2=1):=by
      show(!(dH ((a/2^c:Nat):Int)==0))=_;rw[h8];by_cases f:a/2^c=0
      ·rw[az U,aw (λe=>(i.2 e).2 f)];rfl
      rw[aw U,az (i.1 ⟨h,f⟩)];rfl
     rw[o]
    rw[aw h,aw (λe=>h (i.2 e).1)];rfl
   dsimp only;unfold iS;by_cases r:a/2^c %2=1
   ·rw[az r];have s:a %2^(c+1)=2^c+a %2^c:=(by rw[p,r,gw]);rw[s,if_neg U];cases q
    ·show(Option.bind _ _)=_;refine ai (Lq (z:=(a:Int)) (n:=c) (by rw[du];omega) U) ?_;rw[A];dsimp only;by_cases f:a %2^c=0
     ·rw[aw (λe=>e f),f,if_neg U];rfl
     rw[az f,if_pos U];rfl
    show some (1,_,_,())=_;split<;>rfl
   rw[aw r];have s:a %2^(c+1)=a %2^c:=(by rw[p,(U:a/2^c %2=0),pV,hX]);rw[s,if_pos U];rfl
  rename_i e;obtain rfl:b=0:=U;unfold iS;rw[if_pos (by rw[Nat.pow_zero,Nat.mod_one];decide)]
 dsimp only;obtain⟨u,t,i⟩:=Lx (n:=a/2^b) (by have:=j b;omega);refine ai (y:=(decide (a/2^b %2=1),(false,([],())),aG ((a/2^b:Nat):Int),())) ?_ ?_
 ·refine ai (hP (z:=((a/2^b:Nat):Int)) (by rw[du];have:=j b;omega)) ?_;dsimp only;have o:(dH ((a/2^b:Nat):Int)!=0)=decide (a/2^b≠0):=by
   show(!(dH ((a/2^b:Nat):Int)==0))=_;rw[h8];by_cases f:a/2^b=0
   ·rw[az U,aw (λe=>e f)];rfl
   rw[aw U,az f];rfl
  rw[o];by_cases f:a/2^b=0
  ·rw[aw (λe=>e f),aw (λe=>(i.2 e).2 f)];rfl
  rw[az f];refine ai t ?_;dsimp only;rw[dM];by_cases h:u=0
  ·rw[az h,az (i.1 ⟨h,f⟩)]
  rw[aw h,aw (λe=>h (i.2 e).1)]
 dsimp only;refine ai (y:=((false,([],())),aG ((gR w a b q d:Nat):Int),())) ?_ rfl;refine ai aaP ?_;dsimp only;unfold gR;rw[if_neg k];by_cases l:s4 w (iS a b q) (decide (a/2^b %2=1)) d=true
 ·rw[if_pos l,l];refine ai (BG (n:=1) aa aa) ?_;refine ai (uW (x:=((a/2^b:Nat):Int)) (y:=1) (by rw[du];have:=j b;omega) aa) ?_;rfl
 rw[if_neg l,Bool.eq_false_iff.2 l];rfl
theorem xR (a:0<=d) (b:d<9223372036854775808):o3 (q,d,())=some (ku q d,()):=by
 unfold o3 ku;cases q
 ·rfl
 dsimp only;rw[lh 63 a (by exact b) aa U aa aa,Int.add_comm];rfl
theorem E4:wy (q,d,())=some (mB q d,()):=by
 unfold wy mB;dsimp only;refine ai (y:=if(d=3\/(d=1/\q=false)\/(d=2/\q=true)) then .inr (ku q 9218868437227405311,()) else .inl ()) ?_ ?_
 ·refine ai (y:=(decide (d=3\/(d=1/\q=false)\/(d=2/\q=true)),())) ?_ ?_
  ·rw[dM,dM,dM];by_cases e:d=3
   ·subst e;simp
   by_cases b:d=1
   ·subst b;cases q<;>simp
   by_cases c:d=2
   ·subst c;cases q<;>simp
   simp[b,c,e]
  dsimp only;by_cases a:(d=3\/(d=1/\q=false)\/(d=2/\q=true))
  ·rw[az a,if_pos a];exact ai (xR aa aa) rfl
  rw[aw a,if_neg a];rfl
 by_cases a:(d=3\/(d=1/\q=false)\/(d=2/\q=true))
 ·rw[if_pos a,if_pos a]
 rw[if_neg a,if_neg a];exact ai (xR aa aa) rfl
theorem aaO {neg qX:Bool} {e ko:Int} (c:0<a) (k:-1074<bB a e):4503599627370496<=(if bB a e<=e then a*2^(e-bB a e).toNat else gR neg a (bB a e-e).toNat qX ko):=by
 obtain⟨d,i⟩:=tF c;have j:=nV c;have l:bB a e=e+ax a-53:=(by unfold bB at*;omega);have h:(2:Nat)^52=4503599627370496:=aa;split
 ·rename_i f;have b:2^(ax a-1)*2^(e-bB a e).toNat<=a*2^(e-bB a e).toNat:=gv _ d;rw[<-gX] at b;have g:2^52<=2^(ax a-1+(e-bB a e).toNat):=nL aa U;omega
 rename_i f;have b:2^52<=a/2^(bB a e-e).toNat:=(by rw[yk (ht _),<-gX];exact da (nL aa U) d);unfold gR;split
 ·omega
 split<;>omega
theorem E5 (t:ax a<=800000) (k:0<a) (E:-500000<=d) (F:d<=500000) (B:w=true->54<=ax a):ug (q,aG (a:Int),d,w,j,())=some (h7 q a d w j,()):=by
 have G:=nV k;have H:=BZ (neg:=q) (qX:=w) (ko:=j) (e:=d) k;have o:=aaO (neg:=q) (qX:=w) (ko:=j) (e:=d) k;have p:h7 q a d w j=kR q (if bB a d<=d then a*2^(d-bB a d).toNat else gR q a (bB a d-d).toNat w j) (bB a d) j:=(by unfold h7;split<;>rfl);have r:bB a d=if(-1074:Int)>d+ax a-1-52 then-1074 else d+ax a-1-52:=by unfold bB;split<;>omega
 have I:-1074<=bB a d:=(by unfold bB;omega);have J:bB a d<=1400000:=(by unfold bB;omega);have C:-1000000<=bB a d-d:=(by unfold bB;omega);have D:bB a d-d<=1000000:=(by unfold bB;omega);unfold ug;refine ai (sS (z:=(a:Int)) (by rw[du];omega)) ?_;rw[du];dsimp only;rw[bf (x:=d+(ax a:Int)) U U,bf (x:=d+(ax a:Int)-1) U U,bf (x:=d+(ax a:Int)-1-52) U U,<-r,p,bu];split
 ·rename_i u;have K:972<=bB a d:=(by unfold bB;omega);have o:=o U;refine ai E4 ?_;clear r p C D;generalize(if bB a d<=d then a*2^(d-bB a d).toNat else gR q a (bB a d-d).toNat w j)=c at*;unfold kR;rw[if_neg U];by_cases h:c=9007199254740992
  ·rw[if_pos h,if_pos U]
  rw[if_neg h,if_pos U]
 rename_i u;refine ai (y:=(aG ((if bB a d<=d then a*2^(d-bB a d).toNat else gR q a (bB a d-d).toNat w j:Nat):Int),())) ?_ ?_
 ·rw[bu];split
  ·rename_i f;obtain⟨g,l⟩:∃g:Nat,bB a d-d=g:=⟨(bB a d-d).toNat,U⟩;rw[bf (x:=bB a d-d) U U,l,Int.toNat_natCast];refine ai (Y5 t U) ?_;dsimp only;by_cases s:bB a d<=d
   ·have v:g=0:=U;have A:w=false:=by
     cases w
     ·rfl
     have:=B rfl;exfalso;unfold bB at*;omega
    rw[if_pos s,v];unfold gR;rw[if_pos ⟨by rw[Nat.pow_zero,Nat.mod_one],A⟩,(U:(d-bB a d).toNat=0)];simp
   rw[if_neg s]
  rename_i f;obtain⟨g,l⟩:∃g:Nat,d-bB a d=g:=⟨(d-bB a d).toNat,U⟩;rw[bf (x:=d-bB a d) U U,if_pos U,l,de];refine ai (xQ (z:=(a:Int)) (n:=g) (by rw[du];omega) U) ?_;rw[jF,iI]
 generalize(if bB a d<=d then a*2^(d-bB a d).toNat else gR q a (bB a d-d).toNat w j)=c at*;generalize bB a d=b at*;dsimp only;refine ai (Zl (z:=(c:Int)) U U) ?_;dsimp only;rw[dM];unfold kR;by_cases h:c=9007199254740992
 ·rw[az (U:(c:Int)=9007199254740992),if_neg (U:¬c<4503599627370496),if_pos h];refine ai (y:=(b+1,4503599627370496,())) ?_ ?_
  ·show some (aS b,4503599627370496,())=_;unfold aS;rw[wrap64 U U]
  dsimp only;rw[bf (x:=b+1+53) U U,az (U:(4503599627370496:Int)>=4503599627370496)];by_cases f:b+1+1075>=2047
  ·rw[if_pos f];refine ai (y:=.inr (mB q j,())) ?_ rfl;refine ai (y:=(true,())) ?_ (ai E4 rfl);rw[az (U:b+1+53>1024)];rfl
  rw[if_neg f];refine ai (y:=.inr (ku q ((b+1+1075)*4503599627370496),())) ?_ rfl;refine ai (y:=(false,())) ?_ ?_
  ·rw[aw (U:¬b+1+53>1024)];rfl
  dsimp only;rw[bf (x:=b+1+1075) U U,bV (x:=b+1+1075) U U,lU aa aa,show(2:Int)^(52:Int).toNat=4503599627370496 from rfl];have aj:aF (au (4503599627370496-4503599627370496))=0:=(by rw[bf U U,bV U U];omega);have i:(b+1+1075)*4503599627370496 %18446744073709551616=(b+1+1075)*4503599627370496:=U;rw[aj,i];show((o3 (q,eA IntKind.u64 ((b+1+1075)*4503599627370496) 0,())).bind _)=_;rw[xE,lh 52 aa aa U aa U U,Int.zero_add];exact ai (xR U U) rfl
 rw[aw (U:¬(c:Int)=9007199254740992)];refine ai (y:=(b,(c:Int),())) rfl ?_;dsimp only;rw[bf (x:=b+53) U U];by_cases m:c<4503599627370496
 ·rw[aw (U:¬((c:Int)>=4503599627370496)),if_pos m,bV (x:=(c:Int)) U U];refine ai (y:=.inl ()) ?_ ?_
  ·exact ai rfl rfl
  exact ai (xR U U) rfl
 rw[az (U:((c:Int)>=4503599627370496)),if_neg m,if_neg h];by_cases f:b+1075>=2047
 ·rw[if_pos f];refine ai (y:=.inr (mB q j,())) ?_ rfl;refine ai (y:=(true,())) ?_ (ai E4 rfl);rw[az (U:b+53>1024)];rfl
 rw[if_neg f];refine ai (y:=.inr (ku q ((b+1075)*4503599627370496+((c:Int)-4503599627370496)),())) ?_ rfl;refine ai (y:=(false,())) ?_ ?_
 ·rw[aw (U:¬b+53>1024)];rfl
 dsimp only;rw[bf (x:=b+1075) U U,bV (x:=b+1075) U U,lU aa aa,show(2:Int)^(52:Int).toNat=4503599627370496 from rfl];have aj:aF (au ((c:Int)-4503599627370496))=(c:Int)-4503599627370496:=(by rw[bf U U,bV U U]);have i:(b+1075)*4503599627370496 %18446744073709551616=(b+1075)*4503599627370496:=U;rw[aj,i];show((o3 (q,eA IntKind.u64 ((b+1075)*4503599627370496) ((c:Int)-4503599627370496),())).bind _)=_;rw[xE,lh 52 U U U U U U];refine ai (xR U U) ?_;dsimp only;congr 4;omega
theorem Gr (a:dE d):dk IntKind.u64 d 52=some (d/4503599627370496)/\dr IntKind.u64 (d/4503599627370496) 2047=bG d/\dr IntKind.u64 d 4503599627370495=eX d:=by
 have b:=a.1;have c:=a.2;refine⟨?_,?_,?_⟩
 ·rw[q8 aa aa];rfl
 ·rw[p2 11 U U 2047 aa aa];rfl
 rw[p2 52 U U 4503599627370495 aa aa];rfl
theorem xM (c:dE d):qo (d,())=some (!decide (bG d=2047),()):=by obtain⟨a,b,e⟩:=Gr c;unfold qo;refine ai a ?_;rw[b,bY]
theorem Zm (a:dE d):z2 (d,())=some (decide (9223372036854775808<=d),()):=by unfold z2;dsimp only;rw[GR a]
theorem u0 (g:dE d):o2 (d,())=some (aR (dG d),()):=by
 obtain⟨i,j,k⟩:=Gr g;have t:=wT d;have s:=wS d;unfold o2 dG;refine ai (xM g) ?_;dsimp only;by_cases f:bG d=2047
 ·rw[az f,if_pos f];rfl
 rw[aw f,if_neg f,show(!!false)=false from rfl,cond_false,i,aM,j,k,bf (x:=bG d) U U];obtain⟨a,e,l,n,o,p,q,h⟩:∃a e,(bif decide (bG d>0) then some (eA IntKind.u64 (eX d) 4503599627370496,au (bG d-1075),((false,((false,([],())),((0:Int),()))):bD),()) else some (eX d,(-1074:Int),(false,((false,([],())),((0:Int),()))),()))=some (a,e,(false,((false,([],())),((0:Int),()))),())/\0<=a/\a<9007199254740992/\-1074<=e/\e<=972/\(a=(if bG d=0 then eX d else eX d+4503599627370496)/\e=(if bG d=0 then-1074 else bG d-1075)):=by
  by_cases c:bG d=0
  ·refine⟨eX d,-1074,?_,U,U,U,U,by rw[if_pos c],by rw[if_pos c]⟩;rw[aw (U:¬bG d>0)];rfl
  refine⟨eX d+4503599627370496,bG d-1075,?_,U,U,U,U,by rw[if_neg c],by rw[if_neg c]⟩;rw[az (U:bG d>0),bf U U,lh 52 U U U U U aa];rfl
 rw[<-h.1,<-h.2];refine ai l ?_;dsimp only;refine ai (Zm g) ?_;rw[ln,Option.bind_some];dsimp only;rw[nv a,jz (x:=a/4294967296) U U];have r:ax a.natAbs<=53:=df.2 U;refine ai (Lr (b:=(decide (9223372036854775808<=d),[a %4294967296,a/4294967296],())) (m:=if d<9223372036854775808 then a else-a) (aI.cons.2 ⟨⟨U,U⟩,aI.cons.2 ⟨⟨U,U⟩,aI.nil⟩⟩) ab ?_ ?_ U U) rfl
 ·unfold e6;simp only[ae];by_cases c:d<9223372036854775808
  ·rw[aw (U:¬(9223372036854775808<=d)),if_pos c,if_neg ab];omega
  rw[az (U:9223372036854775808<=d),if_neg c,if_pos rfl];omega
 split
 ·omega
 rw[pN];omega
def og (a:cT) (b:Int):Int:=match a with
 |none=>9221120237041090560
 |some c=>xO c b
theorem LC (c:dc l):wx (aR l,d,())=some (og l d,()):=by
 unfold wx;refine ai (kt c) ?_;dsimp only;rw[m1];cases l with
 |none=>rfl
 |some b=>
  have e:=c b rfl;have h:=hD e;have i:=hO e;rw[eJ];refine ai (hP U) ?_;dsimp only;rw[h8];unfold og xO;by_cases a:b=0
  ·subst a;rw[az (show a1 0=0 from rfl)];rfl
  rw[aw (gK a)];simp only;rw[if_neg a,cond_false];have g:0<(a1 b).natAbs:=(by have:=gK a;omega);refine ai (xJ U) ?_;dsimp only;rw[xp];refine ai (E5 U g U U (λf=>by cases f)) ?_;unfold bj;rw[if_neg a]
theorem It (a:Int):dc (mr a):=Ec a 0
theorem BF (a:-9223372036854775808<=d) (b:d<=9223372036854775807):r6 (d,j,())=some (og (mr d) j,()):=by unfold r6;exact ai (Ld a b) (ai (LC (It d)) rfl)
theorem ZB (j:0<a) (k:0<b) (h:ax a<=131072) (i:ax b<=131072):∃c,li a b<=c/\c<=140000/\zX (aG (a:Int),aG (b:Int),60,())=some (aG ((a*2^c/b:Nat):Int),-(c:Int),decide (a*2^c %b≠0),()):=by
 obtain⟨c,l⟩:∃c,c=62+ax b-ax a:=⟨_,rfl⟩;have o:c<=131134:=U;have p:ax (a*2^c)<=262206:=(by have:=p7 (m:=a) (n:=c);omega);refine⟨c,by unfold li;omega,U,?_⟩;unfold zX;refine ai (sS (z:=(b:Int)) (by rw[du];omega)) (ai (sS (z:=(a:Int)) (by rw[du];omega)) ?_);rw[du,du];dsimp only;have aj:(if 0>au (au (au (60+2)+(ax b:Int))-(ax a:Int)) then 0 else au (au (au (60+2)+(ax b:Int))-(ax a:Int)))=(c:Int):=(by rw[bf (x:=60+2) aa aa,bf (x:=60+2+(ax b:Int)) U U,bf U U];split<;>omega);rw[aj];refine ai (xQ (z:=(a:Int)) (n:=c) (by rw[du];omega) U) ?_;have e:(a:Int)*2^c=((a*2^c:Nat):Int):=(by rw[<-iI,<-Int.natCast_mul]);rw[e];refine ai (Le (x:=((a*2^c:Nat):Int)) (y:=(b:Int)) (by rw[du];omega) (by rw[du];omega) U U) ?_;rw[<-Int.natCast_ediv,<-Int.natCast_emod];have q:ax (a*2^c %b)<=900000:=Nat.le_trans (hJ (Nat.mod_le _ _)) U;refine ai (hP (by rw[du];omega)) ?_;dsimp only;rw[bf U U,Int.zero_sub];have f:(dH ((a*2^c %b:Nat):Int)!=0)=decide (a*2^c %b≠0):=by
  show(!(dH ((a*2^c %b:Nat):Int)==0))=_;rw[h8];by_cases d:a*2^c %b=0
  ·rw[az U,aw (λg=>g d)];rfl
  rw[aw U,az d];rfl
 rw[f]
theorem Zj {g:cT} (i:dc g) (j:dc l):z5 (aR g,aR l,d,())=some (lj g l d,()):=by
 unfold z5;refine ai (kt i) (ai (kt j) ?_);dsimp only;rw[m1,m1];cases g with
 |none=>cases l<;>rfl
 |some a=>
  cases l with
  |none=>rfl
  |some b=>
   have s:=hD (i a rfl);have t:=hD (j b rfl);have B:=hO (i a rfl);have C:=hO (j b rfl);rw[eJ,eJ];by_cases f:b=0
   ·subst f;refine ai (y:=.inr (9221120237041090560,())) ?_ rfl;exact ai (hP (z:=a1 0) aa) rfl
   refine ai (y:=.inl ((false,aG (a1 a),bj a,()),(false,aG (a1 b),bj b,()),())) ?_ ?_
   ·refine ai (hP (z:=a1 b) U) ?_;dsimp only;rw[h8,aw (gK f)];rfl
   dsimp only;refine ai (hP (z:=a1 a) U) ?_;dsimp only;rw[h8];unfold lj;simp only;rw[if_neg f];by_cases e:a=0
   ·subst e;rw[az (show a1 0=0 from rfl)];rfl
   rw[aw (gK e),if_neg e,cond_false];have k:0<(a1 a).natAbs:=(by have:=gK e;omega);have o:0<(a1 b).natAbs:=(by have:=gK f;omega);refine ai (xJ U) (ai (xJ U) ?_);obtain⟨c,q,D,A⟩:=ZB k o s t;refine ai A ?_;dsimp only;rw[bf (x:=bj a-bj b) U U,bf U U,xp,xp];have p:58<=ax ((a1 a).natAbs*2^c/(a1 b).natAbs):=Bv k o (by unfold li at q;omega);have v:0<(a1 a).natAbs*2^c/(a1 b).natAbs:=by
    rcases h9 ((a1 a).natAbs*2^c/(a1 b).natAbs) with h|h
    ·rw[h] at p;exact absurd p aa
    exact h
   have w:ax ((a1 a).natAbs*2^c/(a1 b).natAbs)<=800000:=Nat.le_trans (hJ (Nat.div_le_self _ _)) (by have:=p7 (m:=(a1 a).natAbs) (n:=c);omega);refine ai (E5 w v U U (λ_=>by omega)) ?_;have u:=YP (ko:=d) e f q;dsimp only;rw[<-u];unfold pq;have r:bj a-bj b+-(c:Int)=eh a-eh b-c:=(by unfold bj;rw[if_neg e,if_neg f];omega);rw[r];rfl
theorem ZC {B:Nat} {ex:Int} (w:0<B) (v:ax B<=131072) (E:-70000<=ex) (F:ex<=70000):∃c:Nat,118<=ax B+c/\c<=127/\(ex-c) %2=0/\zY (aG (B:Int),ex,60,())=some (aG ((bC (B*2^c):Nat):Int),(ex-c)/2,decide (bC (B*2^c)*bC (B*2^c)≠B*2^c),()):=by
 obtain⟨a,e⟩:∃a:Nat,a=if(ex-((126-ax B:Nat):Int)) %2=0 then 126-ax B else 126-ax B+1:=⟨_,rfl⟩
 have p:a<=127:=(by rw[e];split<;>omega);have q:118<=ax B+a:=(by rw[e];split<;>omega);have r:(ex-a) %2=0:=(by rw[e];split<;>omega);have A:ax (B*2^a)<=131199:=(by have:=p7 (m:=B) (n:=a);omega);have s:bC (B*2^a)<=B*2^a:=by
  obtain⟨u,G⟩:=pd (B*2^a);rcases h9 (bC (B*2^a)) with b|b
  ·omega
  exact da (Nat.le_mul_of_pos_left _ b) u
 have C:=hJ s;refine⟨a,q,p,r,?_⟩;unfold zY;refine ai (sS (z:=(B:Int)) (by rw[du];omega)) ?_;rw[du];dsimp only;have aj:(if 0>au (au (au (2*60)+6)-(ax B:Int)) then 0 else au (au (au (2*60)+6)-(ax B:Int)))=((126-ax B:Nat):Int):=(by rw[bf (x:=2*60) aa aa,bf (x:=2*60+6) aa aa,bf U U];split<;>omega);rw[aj];refine ai (y:=((a:Int),(false,([],())),())) ?_ ?_
 ·rw[bf U U];refine ai (y:=(ex-((126-ax B:Nat):Int)).tmod 2) (by unfold gU;rw[if_pos aa]) ?_;rw[bY];have h:((ex-((126-ax B:Nat):Int)).tmod 2=0)↔((ex-((126-ax B:Nat):Int)) %2=0):=by
   constructor
   ·intro d;have:=Int.dvd_of_tmod_eq_zero d;omega
   intro d;exact Int.tmod_eq_zero_of_dvd (Int.dvd_of_emod_eq_zero d)
  by_cases b:(ex-((126-ax B:Nat):Int)) %2=0
  ·rw[az (h.2 b)];show some (((126-ax B:Nat):Int),_,())=_;rw[e,if_pos b]
  rw[aw (λd=>b (h.1 d))];show some (aS ((126-ax B:Nat):Int),_,())=_;rw[bg U,e,if_neg b]
 dsimp only;refine ai (xQ (z:=(B:Int)) (n:=a) (by rw[du];omega) U) ?_;have i:(B:Int)*2^a=((B*2^a:Nat):Int):=(by rw[<-iI,<-Int.natCast_mul]);rw[i];refine ai (ZE (x:=((B*2^a:Nat):Int)) (by rw[du];omega) U) ?_;rw[Int.toNat_natCast];dsimp only;rw[bf U U];refine ai (y:=(ex-a)/2) ?_ ?_
 ·unfold gm;have:(ex-(a:Int)).tdiv 2=(ex-(a:Int))/2:=by
   obtain⟨g,o⟩:∃g,ex-(a:Int)=2*g:=⟨(ex-(a:Int))/2,U⟩;rw[o,Int.mul_tdiv_cancel_left _ aa,Cc _ aa]
  rw[if_pos aa,this,wrap64 U U]
 refine ai (Ls (x:=(bC (B*2^a):Int)) (y:=(bC (B*2^a):Int)) (by rw[du];omega) (by rw[du];omega)) ?_;rw[<-Int.natCast_mul];have D:ax (bC (B*2^a)*bC (B*2^a))<=900000:=(by have:=nU (k:=131199) (l:=131199) (U:ax (bC (B*2^a))<=131199) (U:ax (bC (B*2^a))<=131199);omega);refine ai (EW (x:=((bC (B*2^a)*bC (B*2^a):Nat):Int)) (y:=((B*2^a:Nat):Int)) (by rw[du];omega) (by rw[du];omega)) ?_;dsimp only;have j:(dy ((bC (B*2^a)*bC (B*2^a):Nat):Int) ((B*2^a:Nat):Int)!=0)=decide (bC (B*2^a)*bC (B*2^a)≠B*2^a):=by
  rw[bY];generalize bC (B*2^a)*bC (B*2^a)=f;generalize B*2^a=t;by_cases b:f=t
  ·subst b;rw[aw (show¬(f≠f) fromλd=>d rfl),az (by unfold dy;rw[if_neg U,if_neg U])];rfl
  rw[az b,aw (by unfold dy;split;omega;split<;>omega)];rfl
 rw[j]
theorem Zk (o:dc l):z6 (aR l,d,())=some (jx l d,()):=by
 unfold z6;refine ai (kt o) ?_;dsimp only;rw[m1];cases l with
 |none=>rfl
 |some a=>
  have q:=o a rfl;have i:=hD q;have F:=hO q;rw[eJ];have r:=Ff a;by_cases g:a<0
  ·refine ai (y:=.inr (9221120237041090560,())) ?_ ?_
   ·refine ai (hP (z:=a1 a) U) ?_;dsimp only;rw[r,az (show dH a<0 by unfold dH;rw[if_neg U,if_pos g];decide)];rfl
   unfold jx;simp only;rw[if_pos g]
  have x:decide (dH a<0)=false:=aw (by unfold dH;split;omega;first|decide|(split<;>omega));refine ai (y:=.inl ((false,aG (a1 a),bj a,()),())) ?_ ?_
  ·refine ai (hP (z:=a1 a) U) ?_;dsimp only;rw[r,x];rfl
  dsimp only;refine ai (hP (z:=a1 a) U) ?_;dsimp only;rw[h8];unfold jx;simp only;rw[if_neg g];by_cases e:a=0
  ·subst e;rw[az (show a1 0=0 from rfl)];rfl
  rw[aw (gK e),if_neg e,cond_false];have H:0<a1 a:=(by have:=uP (v:=a);have:=gK e;omega);obtain⟨b,u⟩:∃b:Nat,a1 a=b:=⟨(a1 a).toNat,U⟩;have h:(a1 a).natAbs=b:=U;rw[h] at i;have j:0<b:=U;have p:bj a=eh a:=(by unfold bj;rw[if_neg e]);obtain⟨c,J,K,C,D⟩:=ZC (B:=b) (ex:=bj a) j i U U;have t:58<=ax (bC (b*2^c)):=w4 (by rw[k8 j];omega);have s:0<bC (b*2^c):=by
   rcases h9 (bC (b*2^c)) with f|f
   ·rw[f] at t;exact absurd t aa
   exact f
  have A:bC (b*2^c)<=b*2^c:=(by obtain⟨E,L⟩:=pd (b*2^c);exact Nat.le_trans (Nat.le_mul_of_pos_left _ s) E);have I:=hJ A;have G:ax (b*2^c)<=131199:=(by have:=p7 (m:=b) (n:=c);omega);rw[u];refine ai D ?_;dsimp only;refine ai (E5 U s U U (λ_=>by omega)) ?_;have w:=Zu (v:=a) (ko:=d) (k:=c) U (by rw[h];omega) (by rw[<-p];exact C);dsimp only;rw[<-w];unfold oh;rw[h,p]
def qV (a:Int) (b:Nat):Nat:=((a %18446744073709551616) %(b:Int)).toNat
theorem Ba (a:Int) {n:Nat} (b:0<n):qV a n<n:=by unfold qV;have c:=lY (a %18446744073709551616) (U:(n:Int)≠0);have d:=nz (a %18446744073709551616) (U:(0:Int)<(n:Int));omega
theorem xk (a:Int) {n:Nat} (c:0<n) (e:n<=9223372036854775807):qk (a,(n:Int),())=some ((qV a n:Int),()):=by unfold qk;have d:=Ba a c;have b:(a %18446744073709551616) %(n:Int)=(qV a n:Int):=(by unfold qV;have:=Int.emod_nonneg (a %18446744073709551616) (U:(n:Int)≠0);omega);dsimp only;rw[ka a,bV (x:=(n:Int)) U U,(Bw (x:=a %18446744073709551616) (y:=(n:Int)) ⟨U,U⟩ U).2,b];show some (au (qV a n:Int),())=_;rw[x5 U]
theorem abb (a b:Int):dE (rj IntKind.u64 a b):=by unfold rj dE;rw[x6];omega
theorem MF (e:cZ) (h:e.length<=9223372036854775807) (d:Int):ac (wh (e,d,())) (λc=>dE c.1):=by
 have g:∀b c:Int,0<=c->∃f,dk IntKind.u64 b c=some f:=λb c a=>(by unfold dk;rw[if_pos a];exact⟨_,rfl⟩);unfold wh;dsimp only;refine ac.aU (P:=λ_=>True) ?_ ?_
 ·rw[bu];refine ac.ite (λa=>?_) λa=>ac.af.2 trivial;have a:0<e.length:=(by simp only[aW] at a;omega);have i:=Ba d a;refine ac.bs (xk d a h) (ac.bs (bM i) (ac.af.2 trivial))
 rintro⟨b,_⟩ _;dsimp only;obtain⟨f,j⟩:=g b 31 aa;refine ac.bs j ?_;obtain⟨l,k⟩:=g (aF (rj IntKind.u64 b f*13787848793156543929)) 29 aa;exact ac.bs k (ac.af.2 (abb _ _))
theorem BL (a:0<=d) (b:d<9223372036854775808):dE (ku q d):=by unfold ku dE;cases q<;>simp<;>omega
theorem KH (b:Bool) (a:Int):dE (mB b a):=by unfold mB;split<;>exact BL aa aa
theorem Yo (b:a<=9007199254740992) (c:-1074<=d):dE (kR q a d j):=by
 unfold kR;split
 ·exact BL U U
 split
 ·split
  ·exact KH _ _
  exact BL U U
 split
 ·exact KH _ _
 exact BL U U
theorem E2 (b:0<a):dE (h7 q a d w j):=by have c:=BZ (neg:=q) (qX:=w) (ko:=j) (e:=d) b;have g:-1074<=bB a d:=(by unfold bB;omega);have f:h7 q a d w j=kR q (if bB a d<=d then a*2^(d-bB a d).toNat else gR q a (bB a d-d).toNat w j) (bB a d) j:=(by unfold h7;split<;>rfl);rw[f];exact Yo c g
theorem Bd:dE 9221120237041090560:=⟨aa,aa⟩
theorem Lt (b:cT) (c:Int):dE (og b c):=by
 unfold og;cases b with
 |none=>exact Bd
 |some d=>
  simp only;unfold xO;by_cases a:d=0
  ·rw[if_pos a];exact⟨aa,aa⟩
  rw[if_neg a];exact E2 (by have:=gK a;omega)
theorem YN {f:cT} (j:Int):dE (lj l f j):=by
 unfold lj;cases l with
 |none=>exact Bd
 |some a=>
  cases f with
  |none=>exact Bd
  |some b=>
   simp only;by_cases c:b=0
   ·rw[if_pos c];exact⟨aa,aa⟩
   by_cases e:a=0
   ·rw[if_neg c,if_pos e];exact⟨aa,aa⟩
   rw[if_neg c,if_neg e];unfold sR pq;have h:0<(a1 a).natAbs:=(by have:=gK e;omega);have i:0<(a1 b).natAbs:=(by have:=gK c;omega);have g:58<=ax ((a1 a).natAbs*2^li (a1 a).natAbs (a1 b).natAbs/(a1 b).natAbs):=Bv h i (by unfold li;omega);refine E2 ?_;rcases h9 ((a1 a).natAbs*2^li (a1 a).natAbs (a1 b).natAbs/(a1 b).natAbs) with d|d
   ·rw[d] at g;exact absurd g aa
   exact d
theorem Zr (g:Int):dE (jx l g):=by
 unfold jx;cases l with
 |none=>exact Bd
 |some a=>
  simp only;by_cases c:a<0
  ·rw[if_pos c];exact⟨aa,aa⟩
  by_cases d:a=0
  ·rw[if_neg c,if_pos d];exact⟨aa,aa⟩
  rw[if_neg c,if_neg d];unfold np oh;have f:0<(a1 a).natAbs:=(by have:=gK d;omega);have e:58<=ax (bC ((a1 a).natAbs*2^im (a1 a).natAbs (eh a))):=w4 (by rw[k8 f];unfold im;split<;>omega);refine E2 ?_;rcases h9 (bC ((a1 a).natAbs*2^im (a1 a).natAbs (eh a))) with b|b
  ·rw[b] at e;exact absurd e aa
  exact b
theorem KD (a b:Int):dE (eA IntKind.u64 a b):=by unfold eA dE;rw[x6];omega
theorem VV (a:dE d) (b:Int):ac (zH (d,b,())) (λc=>dE c.1):=by
 have e:=a.1;have f:=a.2;unfold zH;dsimp only;refine ac.bs (xk b (n:=4) aa aa) ?_;dsimp only;rw[dM,dM,dM,bu];refine ac.ite (λ_=>?_) λ_=>?_
 ·rw[q8 aa aa,aM,lU aa aa,aM];exact ac.af.2 (KD _ _)
 rw[bu];refine ac.ite (λ_=>?_) λ_=>?_
 ·rw[q8 aa aa,aM];unfold gU;rw[if_pos aa,aM,lU aa aa,aM];exact ac.af.2 (KD _ _)
 rw[bu];refine ac.ite (λ_=>?_) λ_=>?_
 ·refine ac.bs (xM a) ?_;dsimp only;cases decide (bG d=2047)
  ·exact ac.af.2 a
  exact ac.af.2 ⟨aa,aa⟩
 unfold CZ;refine ac.bs (y:=(og (mr (d %19-9)) 0,())) ?_ (ac.af.2 ?_)
 ·refine ai (y:=d %19) ?_ ?_
  ·unfold gU;rw[if_pos aa,yg e]
  dsimp only;rw[bf (x:=d %19) U U,bf U U];exact ai (BF U U) rfl
 exact Lt _ _
structure et (rows fG:Nat) (st mv re:cZ):Prop where
 len:st.length=fG+1
 first:st.getD 0 0=0
 mono:∀j,j<fG->st.getD j 0<=st.getD (j+1) 0
 last:st.getD fG 0=(mv.length:Int)
 val:re.length=mv.length
 rng:∀j k:Nat,j<fG->st.getD j 0<=(k:Int)->(k:Int)<st.getD (j+1) 0->0<=mv.getD k 0/\mv.getD k 0<(rows:Int)
 asc:∀j k:Nat,j<fG->st.getD j 0<(k:Int)->(k:Int)<st.getD (j+1) 0->mv.getD (k-1) 0<mv.getD k 0
theorem fg {i:Nat} (a:i<c.length):ay c (i:Int)=some (c.getD i 0):=by rw[bM a,jo a]
theorem Z3 (t:c.length<=1000000):zC (c,())=some (open Classical in decide (∀a,a+1<c.length->c.getD a 0<=c.getD (a+1) 0),()):=by
 classical
 unfold zC;dsimp only;refine ac.eq_iff.1 (ac.aU (P:=λg=>match g with|.inl _=>(∀a,a+1<c.length->c.getD a 0<=c.getD (a+1) 0)|.inr q=>q=(false,())/\¬(∀a,a+1<c.length->c.getD a 0<=c.getD (a+1) 0)) ?_ ?_)
 ·refine ac.loop (λh=>∃d:Nat,(h.1=(d:Int)\/(h.1=-1/\d=0))/\d<=c.length/\(d<c.length\/c.length=0)/\(∀a,d<=a->a+1<c.length->c.getD a 0<=c.getD (a+1) 0)) (λh=>h.1.toNat) ⟨c.length-1,?_,U,U,λa e i=>by omega⟩ ?_
  ·simp only[aW];rw[bf U U];omega
  rintro⟨r,_⟩ ⟨d,e,i,s,j⟩;dsimp only at e|-;rw[bu];refine ac.ite (λk=>?_) λk=>?_
  ·obtain rfl:r=(d:Int):=U;obtain⟨b,rfl⟩:∃b,d=b+1:=⟨d-1,U⟩;have aj:au (((b+1:Nat):Int)-1)=(b:Int):=(by rw[bf U U];omega);rw[aj];refine ac.bs (fg U) (ac.bs (fg U) ?_);refine ac.bs (y:=(decide (c.getD (b+1) 0<c.getD b 0),())) (by unfold rV qe;simp only[bne_self_eq_false,Option.bind_some];rfl) ?_;dsimp only;rw[bu];refine ac.ite (λp=>?_) λp=>?_
   ·refine ac.af.2 ⟨rfl,λl=>?_⟩;have:=l b U;omega
   refine ac.af.2 ⟨⟨b,.inl rfl,U,U,λa i1 n=>?_⟩,?_⟩
   ·rcases bp b a with o|o
    ·exact j a U n
    obtain rfl:a=b:=U;omega
   show(b:Int).toNat<((b+1:Nat):Int).toNat;omega
  refine ac.af.2 ?_;intro a m;exact j a U m
 rintro(g|g) f
 ·have f:(∀a,a+1<c.length->c.getD a 0<=c.getD (a+1) 0):=f;rw[decide_eq_true f];exact ac.af.2 rfl
 obtain⟨e,i⟩:g=(false,())/\¬(∀a,a+1<c.length->c.getD a 0<=c.getD (a+1) 0):=f;rw[e,decide_eq_false i];exact ac.af.2 rfl
def hp (e:Int) (d b:cZ) (c:Nat):Prop:=∀a:Nat,d.getD c 0<=(a:Int)->(a:Int)<d.getD (c+1) 0->(if(a:Int)=d.getD c 0 then-1 else b.getD (a-1) 0)<b.getD a 0/\b.getD a 0<e
theorem hp.pos (i:hp d c g a) (l:0<=c.getD a 0):∀b:Nat,c.getD a 0<=(b:Int)->(b:Int)<c.getD (a+1) 0->0<=g.getD b 0:=by
 intro b
 induction b with
 |zero=>
  intro e f;have:=(i 0 e f).1;rw[if_pos U] at this;omega
 |succ b k=>
  intro e f;have j:=(i (b+1) e f).1;by_cases h:((b+1:Nat):Int)=c.getD a 0
  ·rw[if_pos h] at j;omega
  rw[if_neg h,tr] at j;have:=k U U;omega
theorem hp.rng (k:0<=c.getD a 0):hp d c g a↔(∀b:Nat,c.getD a 0<=(b:Int)->(b:Int)<c.getD (a+1) 0->0<=g.getD b 0/\g.getD b 0<d)/\(∀b:Nat,c.getD a 0<(b:Int)->(b:Int)<c.getD (a+1) 0->g.getD (b-1) 0<g.getD b 0):=by
 constructor
 ·intro h;refine⟨λb e f=>⟨h.pos k b e f,(h b e f).2⟩,λb e f=>?_⟩;have:=(h b U f).1;rwa[if_neg U] at this
 rintro⟨e,f⟩ b j i;refine⟨?_,(e b j i).2⟩;split
 ·have:=(e b j i).1;omega
 exact f b U i
theorem ZX {l:cZ} {lo hi t:Nat} (a:hi<=l.length) (b:lo+t<hi):((l.take hi).drop lo).length=hi-lo/\((l.take hi).drop lo)[t]?=some (l.getD (lo+t) 0):=by refine⟨by simp;omega,?_⟩;rw[ke,rr,if_pos U,bo U,jo U]
theorem ZY {l:cZ} {lo:Nat} (b:a<=l.length):((l.take a).drop lo).length=a-lo:=by simp;omega
theorem et.iff:et b a c g h↔c.length=a+1/\c.getD 0 0=0/\(∀d,d<a->c.getD d 0<=c.getD (d+1) 0)/\c.getD a 0=(g.length:Int)/\h.length=g.length/\∀d,d<a->hp (b:Int) c g d:=by
 have o:(∀d,d<a->c.getD d 0<=c.getD (d+1) 0)->c.getD 0 0=0->∀d,d<=a->0<=c.getD d 0:=λq s d=>by
  induction d with
  |zero=>intro _;omega
  |succ d r=>intro e;have:=r U;have:=q d U;omega
 constructor
 ·rintro⟨l,i,j,m,n,k,p⟩;exact⟨l,i,j,m,n,λd e=>(hp.rng (o j i d U)).2 ⟨λf=>k d f e,λf=>p d f e⟩⟩
 rintro⟨l,i,j,m,n,k⟩;exact⟨l,i,j,m,n,λd f e=>((hp.rng (o j i d U)).1 (k d e)).1 f,λd f e=>((hp.rng (o j i d U)).1 (k d e)).2 f⟩
section
open Go.Proofs
def x2:List (String×DataW Unit):=[("math/bits.deBruijn32tab",Lib.tabData .u8 nW)]
theorem aao (b:Os) (a:cQ):laidMetH Tryz.prog x2 ((World.doorLaid Tryz.prog 400 b).forCall (λ_ _=>0) ⟨#[],a,[]⟩).memory:=
 laidMetH_of_parts3 (fuel:=8) (laidMet_of_run' 8 (by kernel_rfl) (by kernel_rfl)) (by kernel_rfl) (by kernel_rfl)
theorem aan {b:World} (c:laidMetH Tryz.prog x2 b):jC E (λr=>r<b.heap.size) b:=by
 rw[MakeChecks.laidMetH_plain _ _ _ (by kernel_rfl)] at c;have f:Tryz.prog.globalNamed "math/bits.deBruijn32tab"=some 0:=(by kernel_rfl);have j:=Lib.tabIs_of_head (g:=0) (t:=266) (e:=5) (n:=32) f (by kernel_rfl) (by kernel_rfl) (by kernel_rfl) (by kernel_rfl) (by kernel_rfl) c;intro q h;have h:q∈[(⟨0,266,.u8,nW⟩:rD)]:=h;obtain rfl:=dP.1 h;have s:0<b.heap.size:=by
  have d:=j.cell f 0 aa;unfold World.cell? at d;split at d
  ·rename_i x w y v;exact(lW.1 v).1
  cases d
 refine⟨rfl,_,_,rfl,a8 _,(λc=>by cases c),.inr ⟨0,0,rfl,s,λa p i=>?_⟩⟩;obtain⟨l,i⟩:=eb.1 i;refine⟨[.int .u8 p],rfl,λo z m=>?_,rfl,rfl⟩;have k:=j.cell f a l;have u:(nW.getD a 0:Int)=p:=(by rw[jo l];exact i);rw[u] at k;cases o with
 |zero=>
  obtain rfl:=ec m;have:(⟨0,0+a*ag.size (.int .u8)+0,none⟩:Addr)=⟨0,a,none⟩:=(by show(⟨0,0+a*1+0,none⟩:Addr)=_;congr 1;omega);rw[this];exact k
 |succ o=>cases m
end
section
theorem Sx (av:b<=200) (am:a<=200) (R:c.length<=10000) (Y:g.length<=1000000) (a3:h.length<=1000000):zu (((b:Int),(a:Int),g,c,h,()),())=some (open Classical in decide (et b a g c h),()):=by
 classical
 unfold zu;refine ac.eq_iff.1 ?_;dsimp only;have X:aS (a:Int)=((a+1:Nat):Int):=bg U;have L:∀(j:¬et b a g c h),(false,())=(decide (et b a g c h),()):=λj=>(by rw[decide_eq_false j]);refine ac.aU (P:=λm=>match m with
  |.inl _=>g.length=a+1/\g.getD 0 0=0/\(∀d,d<a->g.getD d 0<=g.getD (d+1) 0)/\g.getD a 0=(c.length:Int)/\h.length=c.length
  |.inr q=>q=(false,())/\¬et b a g c h) ?_ ?_
 ·rw[X,bY];by_cases z:g.length=a+1
  ·rw[az (show aq g=((a+1:Nat):Int) by simp only[aW];omega)];refine ac.bs (y:=g.getD 0 0) (fg (i:=0) U) ?_;rw[bY];by_cases v:g.getD 0 0=0
   ·rw[az v];refine ac.bs (Z3 Y) ?_;dsimp only;by_cases o:∀r,r+1<g.length->g.getD r 0<=g.getD (r+1) 0
    ·rw[decide_eq_true o];refine ac.bs (y:=g.getD a 0) (fg U) ?_;rw[bY];by_cases w:g.getD a 0=(c.length:Int)
     ·rw[az (show g.getD a 0=aq c from w),bY];by_cases E:c.length=h.length
      ·rw[az (show aq c=aq h by simp only[aW];omega)];exact ac.af.2 ⟨z,v,λd s=>o d U,w,U⟩
      rw[aw (show¬aq c=aq h by simp only[aW];omega)];exact ac.af.2 ⟨rfl,λj=>E j.val.symm⟩
     rw[aw (show¬g.getD a 0=aq c from w)];exact ac.af.2 ⟨rfl,λj=>w j.last⟩
    rw[decide_eq_false o];exact ac.af.2 ⟨rfl,λj=>o λr R=>j.mono r (by have:=j.len;omega)⟩
   rw[aw v];exact ac.af.2 ⟨rfl,λj=>v j.first⟩
  rw[aw (show¬aq g=((a+1:Nat):Int) by simp only[aW];omega)];exact ac.af.2 ⟨rfl,λj=>z j.len⟩
 rintro(m|m) D
 rotate_left
 ·obtain⟨rfl,j⟩:m=(false,())/\¬et b a g c h:=D;exact ac.af.2 (L j)
 obtain⟨z,v,o,w,E⟩:g.length=a+1/\g.getD 0 0=0/\(∀d,d<a->g.getD d 0<=g.getD (d+1) 0)/\g.getD a 0=(c.length:Int)/\h.length=c.length:=D;have N:∀d,d<=a->0<=g.getD d 0:=λd=>by
  induction d with
  |zero=>intro _;omega
  |succ d G=>intro s;have:=G U;have:=o d U;omega
 have D:∀A d,d+A=a->g.getD d 0<=(c.length:Int):=λA=>by
  induction A with
  |zero=>intro d s;obtain rfl:d=a:=s;omega
  |succ A G=>intro d s;have:=G (d+1) U;have:=o d U;omega
 dsimp only;refine ac.aU (P:=λm=>match m with
  |.inl _=>(∀d,d<a->hp (b:Int) g c d)
  |.inr q=>q=(false,())/\¬(∀d,d<a->hp (b:Int) g c d)) ?_ ?_
 ·refine ac.steps a (λr H=>H=((r:Int),())/\∀d,d<r->hp (b:Int) g c d) ⟨rfl,λd s=>by omega⟩ ?_ ?_
  ·rintro d _ s ⟨rfl,B⟩;dsimp only;rw[bc (az (U:(d:Int)<(a:Int))),bg U];obtain⟨e,M⟩:=Int.eq_ofNat_of_zero_le (N d U);obtain⟨p,T⟩:=Int.eq_ofNat_of_zero_le (N (d+1) U);have F:p<=c.length:=(by have:=D (a-(d+1)) (d+1) U;omega);have W:e<=p:=(by have:=o d s;omega);refine ac.bs (y:=(e:Int)) (by rw[fg U,M]) (ac.bs (y:=(p:Int)) (by rw[fg U,T]) (ac.bs (y:=(e,p)) (by rw[uN,Option.bind_some,uN,Option.bind_some,w8 ⟨W,F⟩];rfl) ?_));dsimp only;have ap:=ZY (l:=c) (lo:=e) F;refine ac.aU (P:=λm=>match m with
    |.inl _=>hp (b:Int) g c d
    |.inr q=>q=.inr (.inr (false,()))/\¬hp (b:Int) g c d) ?_ ?_
   ·refine ac.steps (p-e) (λf H=>H=((if f=0 then-1 else c.getD (e+f-1) 0),(f:Int),())/\∀k:Nat,e<=k->k<e+f->(if(k:Int)=g.getD d 0 then-1 else c.getD (k-1) 0)<c.getD k 0/\c.getD k 0<(b:Int)) ⟨rfl,λk B C=>by omega⟩ ?_ ?_
    ·rintro f _ a0 ⟨rfl,C⟩;have S:=(ZX (l:=c) (lo:=e) (hi:=p) (t:=f) F U).2;have V:(if f=0 then-1 else c.getD (e+f-1) 0)=(if((e+f:Nat):Int)=g.getD d 0 then-1 else c.getD (e+f-1) 0):=by
      rw[M];by_cases Q:f=0
      ·subst Q;rw[if_pos rfl,if_pos U]
      rw[if_neg Q,if_neg U]
     dsimp only;rw[bc (az (show(f:Int)<aq ((c.take p).drop e) by simp only[aW];omega)),V];refine ac.aU (P:=λm=>match m with
      |.inl q=>q=(c.getD (e+f) 0,())/\((if((e+f:Nat):Int)=g.getD d 0 then-1 else c.getD (e+f-1) 0)<c.getD (e+f) 0/\c.getD (e+f) 0<(b:Int))
      |.inr q=>q=.inr (.inr (.inr (.inr (false,()))))/\¬((if((e+f:Nat):Int)=g.getD d 0 then-1 else c.getD (e+f-1) 0)<c.getD (e+f) 0/\c.getD (e+f) 0<(b:Int))) ?_ ?_
     ·refine ac.bs (y:=c.getD (e+f) 0) (g4 S) ?_;generalize(if((e+f:Nat):Int)=g.getD d 0 then-1 else c.getD (e+f-1) 0)=ad;generalize c.getD (e+f) 0=I;by_cases J:I<=ad
      ·rw[az J];exact ac.af.2 ⟨rfl,λj=>by omega⟩
      rw[aw J];by_cases K:I>=(b:Int)
      ·rw[az K];exact ac.af.2 ⟨rfl,λj=>by omega⟩
      rw[aw K];exact ac.af.2 ⟨rfl,U,U⟩
     rintro(m|m) n
     ·obtain⟨rfl,u⟩:=n;refine ac.af.2 ⟨?_,?_⟩
      ·rw[bg U,if_neg U];rfl
      intro k x Z;rcases bp k (e+f) with O|O
      ·exact C k x O
      obtain rfl:k=e+f:=U;exact u
     obtain⟨rfl,u⟩:=n;refine ac.af.2 ⟨rfl,λj=>u ?_⟩;exact j (e+f) U U
    rintro _ ⟨rfl,C⟩;dsimp only;rw[a6 (aw (show¬(((p-e:Nat):Int)<aq ((c.take p).drop e)) by simp only[aW];omega))];refine ac.af.2 ?_;intro k x Z;exact C k U U
   rintro(m|m) n
   ·have n:hp (b:Int) g c d:=n;refine ac.af.2 ⟨rfl,λk an=>?_⟩;rcases bp k d with x|x
    ·exact B k x
    obtain rfl:k=d:=U;exact n
   obtain⟨rfl,u⟩:=n;exact ac.af.2 ⟨rfl,λj=>u (j d s)⟩
  rintro _ ⟨rfl,B⟩;dsimp only;rw[a6 (aw (U:¬((a:Int)<(a:Int))))];exact ac.af.2 B
 rintro(m|m) n
 ·have n:(∀d,d<a->hp (b:Int) g c d):=n;refine ac.af.2 ?_;show(true,())=_;rw[decide_eq_true (et.iff.2 ⟨z,v,o,w,E,n⟩)]
 obtain⟨rfl,u⟩:m=(false,())/\¬(∀d,d<a->hp (b:Int) g c d):=n;exact ac.af.2 (L λj=>u (et.iff.1 j).2.2.2.2.2)
def jB (b:cZ):Prop:=∀a,a<b.length->bG (b.getD a 0)≠2047
open Classical in
def eW (d b:Nat) (e c a:cZ):Int:=if et d b e c a then if jB a then 0 else 4 else 1
theorem Gf.getD {b:cZ} (d:∀e∈b,dE e) (c:Nat):dE (b.getD c 0):=by
 rcases bp c b.length with a|a
 ·rw[jo a];exact d _ (bQ a)
 rw[mn a];exact⟨aa,aa⟩
theorem VU (o:∀r∈c,dE r) (s:c.length<=1000000):zA (c,(),())=some (open Classical in decide (¬jB c),()):=by
 classical
 unfold zA;refine ac.eq_iff.1 ?_;refine ac.aU (P:=λj=>∃h,j=(h,())/\(0<=h↔¬jB c)) ?_ ?_
 ·unfold CU;dsimp only;refine ac.aU (P:=λf=>match f with|.inl _=>jB c|.inr j=>0<=j.1/\¬jB c) ?_ ?_
  ·refine ac.steps c.length (λa q=>q=((a:Int),())/\∀b,b<a->bG (c.getD b 0)≠2047) ⟨rfl,λb n=>by omega⟩ ?_ ?_
   ·rintro a _ k ⟨rfl,e⟩;dsimp only;rw[bc (az (show(a:Int)<aq c by simp only[aW];omega))];refine ac.bs (fg k) ?_;unfold CS;refine ac.bs (y:=(decide (bG (c.getD a 0)=2047),())) (ai (AT (Gf.getD o a)) (by dsimp only;rw[Bool.not_not])) ?_;dsimp only;rw[bu];refine ac.ite (λi=>?_) λi=>?_
    ·exact ac.af.2 ⟨by show(0:Int)<=(a:Int);omega,λd=>d a k i⟩
    refine ac.af.2 ⟨by rw[bg U],λb n=>?_⟩;rcases bp b a with l|l
    ·exact e b l
    obtain rfl:b=a:=U;exact i
   rintro _ ⟨rfl,e⟩;dsimp only;rw[a6 (aw (show¬((c.length:Int)<aq c) by simp only[aW];omega))];exact ac.af.2 e
  rintro(f|f) g
  ·have g:jB c:=g;exact ac.af.2 ⟨_,rfl,⟨λd=>absurd d aa,λd=>absurd g d⟩⟩
  obtain⟨e,m⟩:0<=f.1/\¬jB c:=g;exact ac.af.2 ⟨f.1,rfl,λ_=>m,λ_=>e⟩
 rintro _ ⟨h,rfl,p⟩;refine ac.af.2 ?_;show(decide (h>=0),())=_;congr 1;rw[decide_eq_decide];exact p
theorem Vi (l:b<=200) (j:a<=200) (k:g.length<=10000) (m:h.length<=1000000) (f:c.length<=1000000) (n:∀o∈c,dE o):qj (((b:Int),(a:Int),h,g,c,()),())=some (eW b a h g c,()):=by
 classical
 unfold qj eW;dsimp only;refine ai (y:=(false,())) ?_ ?_
 ·unfold zx;dsimp only;rw[az (U:(b:Int)>=0),az (U:(b:Int)<=200),az (U:(a:Int)>=0),az (U:(a:Int)<=200),aw (show¬(aq g>10000) by simp only[aW];omega)];rfl
 dsimp only;rw[cond_false];refine ai (Sx l j k m f) ?_;dsimp only;by_cases d:et b a h g c
 ·rw[decide_eq_true d,if_pos d];refine ai (VU n f) ?_;dsimp only;by_cases e:jB c
  ·rw[decide_eq_false (λi=>i e),if_pos e];rfl
  rw[decide_eq_true e,if_neg e];rfl
 rw[decide_eq_false d,if_neg d];rfl
end
theorem Zi (m:∀p∈c,dE p) (q:c.length<=1000000):z7 (c,())=some (open Classical in decide (jB c),()):=by
 classical
 unfold z7;refine ac.eq_iff.1 ?_;dsimp only;refine ac.aU (P:=λf=>match f with|.inl _=>jB c|.inr n=>n=(false,())/\¬jB c) ?_ ?_
 ·refine ac.steps c.length (λa o=>o=((a:Int),())/\∀b,b<a->bG (c.getD b 0)≠2047) ⟨rfl,λb l=>by omega⟩ ?_ ?_
  ·rintro a _ h ⟨rfl,d⟩;dsimp only;rw[bc (az (show(a:Int)<aq c by simp only[aW];omega))];refine ac.bs (fg h) (ac.bs (xM (Gf.getD m a)) ?_);dsimp only;rw[Bool.not_not,bu];refine ac.ite (λg=>?_) λg=>?_
   ·exact ac.af.2 ⟨rfl,λj=>j a h g⟩
   refine ac.af.2 ⟨by rw[bg U],λb l=>?_⟩;rcases bp b a with i|i
   ·exact d b i
   obtain rfl:b=a:=U;exact g
  rintro _ ⟨rfl,d⟩;dsimp only;rw[a6 (aw (show¬((c.length:Int)<aq c) by simp only[aW];omega))];exact ac.af.2 d
 rintro(f|f) e
 ·have e:jB c:=e;rw[decide_eq_true e];exact ac.af.2 rfl
 obtain⟨d,k⟩:f=(false,())/\¬jB c:=e;rw[d,decide_eq_false k];exact ac.af.2 rfl
theorem Y4 (a3:b<=200) (an:a<=200) (ap:c.length<=10000) (a4:g.length<=1000000) (Y:h.length<=1000000) (Z:∀am∈h,dE am):o4 (((b:Int),(a:Int),g,c,h,()),())=some (eW b a g c h,()):=by
 classical
 unfold o4;refine ac.eq_iff.1 ?_;dsimp only;have W:aS (a:Int)=((a+1:Nat):Int):=bg U;have H:∀(k:¬et b a g c h),((1:Int),())=(eW b a g c h,()):=λk=>(by unfold eW;rw[if_neg k]);refine ac.bs (y:=.inl ()) ?_ ?_
 ·rw[aw (U:¬(b:Int)<0),aw (U:¬(b:Int)>200),aw (U:¬(a:Int)<0),aw (U:¬(a:Int)>200),aw (show¬(aq c>10000) by simp only[aW];omega)];rfl
 dsimp only;refine ac.aU (P:=λl=>match l with
  |.inl _=>g.length=a+1/\g.getD 0 0=0/\g.getD a 0=(c.length:Int)/\h.length=c.length
  |.inr r=>r=((1:Int),())/\¬et b a g c h) ?_ ?_
 ·rw[W,bY,bY];by_cases F:h.length=c.length
  ·rw[az (show aq h=aq c by simp only[aW];omega)];by_cases D:g.length=a+1
   ·rw[az (show aq g=((a+1:Nat):Int) by simp only[aW];omega)];refine ac.bs (y:=g.getD 0 0) (fg (i:=0) U) ?_;rw[bY];by_cases v:g.getD 0 0=0
    ·rw[az v];refine ac.bs (y:=g.getD a 0) (fg U) ?_;rw[bY];by_cases w:g.getD a 0=(c.length:Int)
     ·rw[az (show g.getD a 0=aq c from w)];exact ac.af.2 ⟨D,v,w,F⟩
     rw[aw (show¬g.getD a 0=aq c from w)];exact ac.af.2 ⟨rfl,λk=>w k.last⟩
    rw[aw v];exact ac.af.2 ⟨rfl,λk=>v k.first⟩
   rw[aw (show¬aq g=((a+1:Nat):Int) by simp only[aW];omega)];exact ac.af.2 ⟨rfl,λk=>D k.len⟩
  rw[aw (show¬aq h=aq c by simp only[aW];omega)];exact ac.af.2 ⟨rfl,λk=>F k.val⟩
 rintro(l|l) u
 rotate_left
 ·obtain⟨rfl,k⟩:l=((1:Int),())/\¬et b a g c h:=u;exact ac.af.2 (H k)
 obtain⟨D,v,w,F⟩:g.length=a+1/\g.getD 0 0=0/\g.getD a 0=(c.length:Int)/\h.length=c.length:=u;dsimp only;refine ac.aU (P:=λl=>match l with
  |.inl _=>(∀d,d<a->g.getD d 0<=g.getD (d+1) 0)
  |.inr r=>r=((1:Int),())/\¬et b a g c h) ?_ ?_
 ·refine ac.steps a (λz C=>C=((z:Int),())/\∀d,d<z->g.getD d 0<=g.getD (d+1) 0) ⟨rfl,λd q=>by omega⟩ ?_ ?_
  ·rintro d _ q ⟨rfl,s⟩;dsimp only;rw[bc (az (U:(d:Int)<(a:Int))),bg U];refine ac.bs (fg U) (ac.bs (fg U) ?_);rw[bu];refine ac.ite (λx=>?_) λx=>?_
   ·exact ac.af.2 ⟨rfl,λk=>by have:=k.mono d q;omega⟩
   refine ac.af.2 ⟨rfl,λf T=>?_⟩;rcases bp f d with o|o
   ·exact s f o
   obtain rfl:f=d:=U;omega
  rintro _ ⟨rfl,s⟩;dsimp only;rw[a6 (aw (U:¬((a:Int)<(a:Int))))];exact ac.af.2 s
 rintro(l|l) u
 rotate_left
 ·obtain⟨rfl,k⟩:l=((1:Int),())/\¬et b a g c h:=u;exact ac.af.2 (H k)
 have E:∀d,d<a->g.getD d 0<=g.getD (d+1) 0:=u;have O:∀d,d<=a->0<=g.getD d 0:=λd=>by
  induction d with
  |zero=>intro _;omega
  |succ d A=>intro q;have:=A U;have:=E d U;omega
 have u:∀G d,d+G=a->g.getD d 0<=(c.length:Int):=λG=>by
  induction G with
  |zero=>intro d q;obtain rfl:d=a:=q;omega
  |succ G A=>intro d q;have:=A (d+1) U;have:=E d U;omega
 dsimp only;refine ac.aU (P:=λl=>match l with
  |.inl _=>(∀d,d<a->hp (b:Int) g c d)
  |.inr r=>r=((1:Int),())/\¬(∀d,d<a->hp (b:Int) g c d)) ?_ ?_
 ·refine ac.steps a (λz C=>C=((z:Int),())/\∀d,d<z->hp (b:Int) g c d) ⟨rfl,λd q=>by omega⟩ ?_ ?_
  ·rintro d _ q ⟨rfl,s⟩;dsimp only;rw[bc (az (U:(d:Int)<(a:Int))),bg U];obtain⟨e,V⟩:=Int.eq_ofNat_of_zero_le (O d U);obtain⟨t,S⟩:=Int.eq_ofNat_of_zero_le (O (d+1) U);have av:t<=c.length:=(by have:=u (a-(d+1)) (d+1) U;omega);have a0:e<=t:=(by have:=E d q;omega);have M:ay g (d:Int)=some (e:Int):=(by rw[fg U,V]);have N:ay g ((d+1:Nat):Int)=some (t:Int):=(by rw[fg U,S]);refine ac.bs M ?_;refine ac.aU (P:=λl=>match l with
    |.inl _=>hp (b:Int) g c d
    |.inr r=>r=.inr (.inr ((1:Int),()))/\¬hp (b:Int) g c d) ?_ ?_
   ·refine ac.steps (t-e) (λj C=>C=(((e+j:Nat):Int),())/\∀f:Nat,e<=f->f<e+j->(if(f:Int)=g.getD d 0 then-1 else c.getD (f-1) 0)<c.getD f 0/\c.getD f 0<(b:Int)) ⟨rfl,λf s p=>by omega⟩ ?_ ?_
    ·rintro j _ bl ⟨rfl,p⟩;dsimp only;refine ac.bs N ?_;rw[bc (az (U:((e+j:Nat):Int)<(t:Int)))];have I:ay c ((e+j:Nat):Int)=some (c.getD (e+j) 0):=fg U;have X:j≠0->0<=c.getD (e+j-1) 0:=λJ=>by
      have ad:∀f:Nat,e<=f->f<e+j->0<=c.getD f 0:=by
       intro f
       induction f with
       |zero=>
        intro o B;have:=(p 0 o B).1;rw[if_pos U] at this;omega
       |succ f A=>
        intro o B;have m:=(p (f+1) o B).1;by_cases x:((f+1:Nat):Int)=g.getD d 0
        ·rw[if_pos x] at m;omega
        rw[if_neg x,tr] at m;have:=A U U;omega
      exact ad _ U U
     refine ac.aU (P:=λl=>match l with
      |.inl _=>((if((e+j:Nat):Int)=g.getD d 0 then-1 else c.getD (e+j-1) 0)<c.getD (e+j) 0/\c.getD (e+j) 0<(b:Int))
      |.inr r=>r=.inr (.inr (.inr (.inr ((1:Int),()))))/\¬((if((e+j:Nat):Int)=g.getD d 0 then-1 else c.getD (e+j-1) 0)<c.getD (e+j) 0/\c.getD (e+j) 0<(b:Int))) ?_ ?_
     ·refine ac.bs I ?_;by_cases K:c.getD (e+j) 0<0
      ·rw[az K];refine ac.af.2 ⟨rfl,λk=>?_⟩;have m:=k.1;by_cases J:j=0
       ·rw[if_pos U] at m;omega
       rw[if_neg U] at m;have:=X J;omega
      rw[aw K];refine ac.bs I ?_;by_cases L:c.getD (e+j) 0>=(b:Int)
      ·rw[az L];exact ac.af.2 ⟨rfl,λk=>by omega⟩
      rw[aw L];refine ac.bs M ?_;by_cases J:j=0
      ·rw[aw (U:¬((e+j:Nat):Int)>(e:Int))];refine ac.af.2 ⟨?_,U⟩;rw[if_pos U];omega
      rw[az (U:((e+j:Nat):Int)>(e:Int))];have aj:au (((e+j:Nat):Int)-1)=((e+j-1:Nat):Int):=(by rw[bf U U];omega);refine ac.bs I (ac.bs (y:=c.getD (e+j-1) 0) (by rw[aj];exact fg U) ?_);rw[bu];refine ac.ite (λx=>?_) λx=>?_
      ·refine ac.af.2 ⟨rfl,λk=>?_⟩;have m:=k.1;rw[if_neg U] at m;omega
      refine ac.af.2 ⟨?_,U⟩;rw[if_neg U];omega
     rintro(l|l) n
     ·refine ac.af.2 ⟨by rw[bg U];rfl,?_⟩;intro f o B;rcases bp f (e+j) with Q|Q
      ·exact p f o Q
      obtain rfl:f=e+j:=U;exact n
     obtain⟨rfl,m⟩:=n;exact ac.af.2 ⟨rfl,λk=>m (k (e+j) U U)⟩
    rintro _ ⟨rfl,p⟩;dsimp only;refine ac.bs N ?_;rw[a6 (aw (U:¬(((e+(t-e):Nat):Int)<(t:Int))))];refine ac.af.2 ?_;intro f o B;exact p f U U
   rintro(l|l) n
   ·have n:hp (b:Int) g c d:=n;refine ac.af.2 ⟨rfl,λf T=>?_⟩;rcases bp f d with o|o
    ·exact s f o
    obtain rfl:f=d:=U;exact n
   obtain⟨rfl,m⟩:=n;exact ac.af.2 ⟨rfl,λk=>m (k d q)⟩
  rintro _ ⟨rfl,s⟩;dsimp only;rw[a6 (aw (U:¬((a:Int)<(a:Int))))];exact ac.af.2 s
 rintro(l|l) n
 ·have n:(∀d,d<a->hp (b:Int) g c d):=n;have R:et b a g c h:=et.iff.2 ⟨D,v,E,w,F,n⟩;refine ac.bs (Zi Z Y) ?_;unfold eW;rw[if_pos R];by_cases p:jB h
  ·rw[decide_eq_true p,if_pos p];exact ac.af.2 rfl
  rw[decide_eq_false p,if_neg p];exact ac.af.2 rfl
 obtain⟨rfl,m⟩:l=((1:Int),())/\¬(∀d,d<a->hp (b:Int) g c d):=n;exact ac.af.2 (H λk=>m (et.iff.1 k).2.2.2.2.2)
abbrev bz:=Int×Int×Int×Unit
variable{r:bz}{s:List bz}
def hg (b d:cZ) (c:Int) (a:Nat):Nat->List bz
 |0=>[]
 |n+1=>hg b d c a n++[(b.getD (a+n) 0,c,d.getD (a+n) 0,())]
def bJ (a b c:cZ):Nat->List bz
 |0=>[]
 |j+1=>bJ a b c j++hg b c (j:Int) (a.getD j 0).toNat ((a.getD (j+1) 0).toNat-(a.getD j 0).toNat)
theorem HI (c f:cZ) (d:Int) (e a:Nat):(hg c f d e a).length=a:=by
 induction a with
 |zero=>rfl
 |succ a b=>simp[hg,b]
theorem et.pos (e:et b a c g h):∀d,d<=a->0<=c.getD d 0:=λd=>by
 have:=e.first
 induction d with
 |zero=>intro _;omega
 |succ d f=>intro i;have:=f U;have:=e.mono d U;omega
theorem et.n8 (i:et b a g c h):∀d,d<=a->g.getD d 0<=(c.length:Int):=by
 have k:∀e d,d+e=a->g.getD d 0<=(c.length:Int):=λe=>by
  have:=i.last
  induction e with
  |zero=>intro d f;obtain rfl:d=a:=f;omega
  |succ e j=>intro d f;have:=j (d+1) U;have:=i.mono d U;omega
 exactλd f=>k (a-d) d U
theorem wP (e:et b a c g h):∀d,d<=a->(bJ c g h d).length=(c.getD d 0).toNat:=λd=>by
 induction d with
 |zero=>intro _;have:=e.first;show 0=(c.getD 0 0).toNat;omega
 |succ d i=>
  intro l;have f:=i U;have j:=e.mono d U;have k:=e.pos d U;simp only[bJ,lA,HI,f];omega
theorem Dg (i:et b a g c h) (p:a<=200) (r:c.length<=10000):tX (((b:Int),(a:Int),g,c,h,()),())=some (bJ g c h a,()):=by
 unfold tX;refine ac.eq_iff.1 ?_;dsimp only;refine ac.aU (P:=λl=>l=(bJ g c h a,())) ?_ (by rintro _ rfl;exact ac.af.2 rfl);refine ac.steps a (λd m=>m=((d:Int),bJ g c h d,())) rfl ?_ ?_
 ·rintro d _ o rfl;have s:=i.len;obtain⟨f,n⟩:=Int.eq_ofNat_of_zero_le (i.pos d U);obtain⟨e,k⟩:=Int.eq_ofNat_of_zero_le (i.pos (d+1) U);have t:e<=c.length:=(by have:=i.n8 (d+1) U;omega);have u:f<=e:=(by have:=i.mono d o;omega);have q:=wP i d U;have w:=i.val;dsimp only;rw[bc (az (U:(d:Int)<(a:Int))),bg U];refine ac.bs (y:=(f:Int)) (by rw[fg U,n]) ?_;refine ac.aU (P:=λl=>l=(bJ g c h (d+1),())) ?_ (by rintro _ rfl;exact ac.af.2 rfl);refine ac.steps (e-f) (λj m=>m=(((f+j:Nat):Int),bJ g c h d++hg c h (d:Int) f j,())) (by simp[hg]) ?_ ?_
  ·rintro j _ v rfl;dsimp only;refine ac.bs (y:=(e:Int)) (by rw[fg U,k]) ?_;rw[bc (az (U:((f+j:Nat):Int)<(e:Int)))];refine ac.bs (fg U) (ac.bs (fg U) ?_);rw[dU (by simp[HI];omega)];refine ac.af.2 ?_;rw[bg U,List.append_assoc];rfl
  rintro _ rfl;dsimp only;refine ac.bs (y:=(e:Int)) (by rw[fg U,k]) ?_;rw[a6 (aw (U:¬((f+(e-f):Nat):Int)<(e:Int)))];refine ac.af.2 ?_;show(_,())=(bJ g c h d++hg c h (d:Int) (g.getD d 0).toNat ((g.getD (d+1) 0).toNat-(g.getD d 0).toNat),());rw[n,k];rfl
 rintro _ rfl;dsimp only;rw[a6 (aw (U:¬((a:Int)<(a:Int))))];exact ac.af.2 rfl
structure fD (rows fG:Nat) (st mv re:cZ):Prop where
 hr:rows<=200
 hc:fG<=200
 hi:mv.length<=10000
 hs:st.length<=1000000
 hv:re.length<=1000000
 hw:∀v∈re,dE v
theorem fD.check (d:fD b a g c h):qj (((b:Int),(a:Int),g,c,h,()),())=some (eW b a g c h,()):=Vi d.hr d.hc d.hi d.hs d.hv d.hw
theorem fD.uX (d:fD b a g c h):o4 (((b:Int),(a:Int),g,c,h,()),())=some (eW b a g c h,()):=Y4 d.hr d.hc d.hi d.hs d.hv d.hw
theorem jj:eW b a h g c=0↔et b a h g c/\jB c:=by
 unfold eW;constructor
 ·intro d;split at d
  ·split at d
   ·exact⟨by assumption,by assumption⟩
   omega
  omega
 rintro⟨e,f⟩;rw[if_pos e,if_pos f]
theorem MZ (d:fD b a g c h) (e:eW b a g c h=0):zq (((b:Int),(a:Int),g,c,h,()),())=some (bJ g c h a,()):=by unfold zq;refine ai d.check ?_;dsimp only;rw[e,bY,az rfl];exact ai (Dg (jj.1 e).1 d.hc d.hi) rfl
theorem K6 (e:fD b a g c h) (f:eW b a g c h=0):wz (((b:Int),(a:Int),g,c,h,()),())=some (bJ g c h a,()):=by have i:=(jj.1 f).1;have d:=Dg i e.hc e.hi;unfold tX at d;unfold wz;refine ai e.uX ?_;dsimp only at d|-;rw[f,bY,az rfl];exact d
def fA (a b:bz):Prop:=a.2.1<b.2.1\/(a.2.1=b.2.1/\a.1<b.1)
theorem sD:r∈hg c g d b a↔∃e,e<a/\r=(c.getD (b+e) 0,d,g.getD (b+e) 0,()):=by
 induction a with
 |zero=>simp[hg]
 |succ a k=>
  simp only[hg,dO,k,dP];constructor
  ·rintro(⟨e,j,f⟩|i)
   ·exact⟨e,U,f⟩
   exact⟨a,U,i⟩
  rintro⟨e,j,f⟩;rcases bp e a with h|h
  ·exact .inl ⟨e,h,f⟩
  obtain rfl:e=a:=U;exact .inr f
theorem S7 (h:∀f e,f<e->e<a->c.getD (b+f) 0<c.getD (b+e) 0):(hg c g d b a).Pairwise fA:=by
 induction a with
 |zero=>exact List.Pairwise.nil
 |succ a m=>
  refine List.pairwise_append.2 ⟨m λf e i p=>h f e i U,List.pairwise_singleton _ _,?_⟩;intro n j o k;obtain⟨e,l,rfl⟩:=sD.1 j;rw[dP.1 k];exact .inr ⟨rfl,h e a l U⟩
theorem xi:r∈bJ c g h a↔∃b,b<a/\r∈hg g h (b:Int) (c.getD b 0).toNat ((c.getD (b+1) 0).toNat-(c.getD b 0).toNat):=by
 induction a with
 |zero=>simp[bJ]
 |succ a j=>
  simp only[bJ,dO,j];constructor
  ·rintro(⟨b,i,d⟩|f)
   ·exact⟨b,U,d⟩
   exact⟨a,U,f⟩
  rintro⟨b,i,d⟩;rcases bp b a with e|e
  ·exact .inl ⟨b,e,d⟩
  obtain rfl:b=a:=U;exact .inr d
theorem sj (k:et b a c g h):∀d,d<=a->(bJ c g h d).Pairwise fA:=by
 intro d
 induction d with
 |zero=>intro _;exact List.Pairwise.nil
 |succ d q=>
  intro p;have C:=k.pos d U;have D:=k.pos (d+1) p;refine List.pairwise_append.2 ⟨q U,S7 ?_,?_⟩
  ·intro f i v w;have s:∀e,f+e<(c.getD (d+1) 0).toNat-(c.getD d 0).toNat->0<e->g.getD ((c.getD d 0).toNat+f) 0<g.getD ((c.getD d 0).toNat+(f+e)) 0:=by
    intro e
    induction e with
    |zero=>intro _ y;omega
    |succ e r=>
     intro x _;have m:=k.asc d ((c.getD d 0).toNat+(f+(e+1))) U U U;rw[(U:(c.getD d 0).toNat+(f+(e+1))-1=(c.getD d 0).toNat+(f+e))] at m;rcases h9 e with j|j
     ·subst j;exact m
     have:=r U j;omega
   have:=s (i-f) U U;rwa[(U:f+(i-f)=i)] at this
  intro t l u o;obtain⟨n,z,l⟩:=xi.1 l;obtain⟨i,A,rfl⟩:=sD.1 l;obtain⟨E,B,rfl⟩:=sD.1 o;exact .inl (by show(n:Int)<(d:Int);omega)
theorem Yg (a b:Int):yU ([a,b],())=some (if a≠0 then a else b,()):=by
 unfold yU;refine ac.eq_iff.1 ?_;dsimp only;refine ac.aU (P:=λf=>match f with|.inl _=>a=0/\b=0|.inr k=>k=(if a≠0 then a else b,())) ?_ ?_
 ·refine ac.steps 2 (λd l=>l=((d:Int),())/\(1<=d->a=0)/\(2<=d->b=0)) ⟨rfl,λh=>by omega,λh=>by omega⟩ ?_ ?_
  ·rintro d _ m ⟨rfl,g,i⟩;rcases(U:d=0\/d=1) with rfl|rfl
   ·show ac (bif a !=0 then _ else _) _;rw[bY];by_cases c:a=0
    ·rw[az c];exact ac.af.2 ⟨rfl,λ_=>c,λh=>by omega⟩
    rw[aw c];refine ac.af.2 ?_;rw[if_pos c]
   show ac (bif b !=0 then _ else _) _;have j:=g aa;rw[bY];by_cases c:b=0
   ·rw[az c];exact ac.af.2 ⟨rfl,λ_=>j,λ_=>c⟩
   rw[aw c];refine ac.af.2 ?_;rw[if_neg (by simpa using j)]
  rintro _ ⟨rfl,g,i⟩;exact ac.af.2 ⟨g aa,i aa⟩
 rintro(f|f) e
 ·obtain⟨rfl,rfl⟩:a=0/\b=0:=e;exact ac.af.2 rfl
 have e:f=_:=e;rw[e];exact ac.af.2 rfl
theorem S0 {a:bz} (b:fA r a):zw (a,r,())=some (1,()):=by
 unfold zw;refine ai (CM _ _) (ai (CM _ _) (ai (Yg _ _) ?_));dsimp only;congr 2;unfold dy;rcases b with b|⟨d,c⟩
 ·rw[if_neg (U:¬a.2.1<r.2.1),if_pos b];rfl
 rw[if_neg (U:¬a.2.1<r.2.1),if_neg (U:¬r.2.1<a.2.1),if_neg ab,if_neg (U:¬a.1<r.1),if_pos c]
theorem Ur (j:s.length<=1000) (f:s.Pairwise fA) {lo:Nat} (g:lo<=a) (h:a<=s.length):wd (s,(lo:Int),(a:Int),(),())=some (s,()):=by
 unfold wd;refine ac.eq_iff.1 ?_;dsimp only;refine ac.aU (P:=λd=>d=(s,())) ?_ (by rintro _ rfl;exact ac.af.2 rfl);refine ac.steps (a-lo-1) (λb c=>c=(((lo+1+b:Nat):Int),s,())) (by rw[bg U]) ?_ ?_
 ·rintro b _ i rfl;dsimp only;rw[bc (az (U:((lo+1+b:Nat):Int)<(a:Int)))];refine ac.aU (P:=λd=>d=(s,())) ?_ (by rintro _ rfl;refine ac.af.2 ?_;dsimp only;rw[bg U];rfl);refine ac.steps 0 (λ_ c=>c=(((lo+1+b:Nat):Int),s,())) rfl (λb c a=>by omega) ?_;rintro _ rfl;dsimp only;refine ac.bs (y:=.inr (.inr (s,()))) ?_ (ac.af.2 rfl);rw[az (U:((lo+1+b:Nat):Int)>(lo:Int))];have aj:au (((lo+1+b:Nat):Int)-1)=((lo+b:Nat):Int):=(by rw[bf U U];omega);rw[beq_self_eq_true,cond_true,jv U,aj,jv U];have e:fA s[lo+b] s[lo+1+b]:=List.pairwise_iff_getElem.1 f _ _ U U U;exact ai (S0 e) rfl
 rintro _ rfl;dsimp only;rw[a6 (aw (U:¬((lo+1+(a-lo-1):Nat):Int)<(a:Int)))];exact ac.af.2 rfl
theorem Z0 (h:s.length<=19) (f:s.Pairwise fA):zv (s,())=some (s,()):=by
 unfold zv;refine ai (y:=(s,())) ?_ ?_
 ·unfold CT;have c:((bK (([]:List bz).length+s.length)).bind λ_=>some (([]++s:List bz),()))=some (s,()):=by
   rw[dU (by simp;omega)];rfl
  show mz s.length (some ([],())) ((bK (([]:List bz).length+s.length)).bind λ_=>some (([]++s:List bz),()))=_;unfold mz;rw[c];split
  ·rename_i d;obtain rfl:=lv d;rw[if_pos rfl]
  rfl
 refine ai (y:=(s,())) ?_ rfl;unfold CX;refine ai (y:=(s,())) ?_ rfl;unfold CY;refine ac.eq_iff.1 ?_;dsimp only;refine ac.aU (P:=λb=>b=(0,s,())) ?_ ?_
 ·refine ac.steps 0 (λ_ a=>a=(0,20,s,())) rfl (λg a e=>by omega) ?_;rintro _ rfl;dsimp only;rw[a6 (aw (show¬((20:Int)<=aq s) by simp only[aW];omega))];exact ac.af.2 rfl
 rintro _ rfl;refine ac.bs (Ur (lo:=0) U f (Nat.zero_le _) (Nat.le_refl _)) ?_;refine ac.aU (P:=λb=>b=(s,())) ?_ (by rintro _ rfl;exact ac.af.2 rfl);refine ac.steps 0 (λ_ a=>a=(20,s,())) rfl (λg a e=>by omega) ?_;rintro _ rfl;dsimp only;rw[a6 (aw (show¬((20:Int)<aq s) by simp only[aW];omega))];exact ac.af.2 rfl
def hK (E:List bz) (a:Int):Nat:=(E.filter λb=>decide (b.2.1=a)).length
def e5 (E:List bz) (a:Int):Nat:=(E.filter λb=>decide (b.2.1<a)).length
def ph (d b:Nat) (E:List bz):bF:=((d:Int),(b:Int),aE (b+1) (λc=>(e5 E (c:Int):Int)),E.map (λa=>a.1),E.map (λa=>a.2.2.1),())
theorem CI (E:List bz) (a:Int):e5 E (a+1)=e5 E a+hK E a:=by
 unfold e5 hK
 induction E with
 |nil=>rfl
 |cons b E d=>
  simp only[jH];rcases Int.lt_trichotomy b.2.1 a with c|c|c
  ·rw[if_pos (by simpa using(by omega:b.2.1<a+1)),if_pos (by simpa using c),if_neg (by simpa using(by omega:¬b.2.1=a))];simp only[hU];omega
  ·rw[if_pos (by simpa using(by omega:b.2.1<a+1)),if_neg (by simpa using(by omega:¬b.2.1<a)),if_pos (by simpa using c)];simp only[hU];omega
  rw[if_neg (by simpa using(by omega:¬b.2.1<a+1)),if_neg (by simpa using(by omega:¬b.2.1<a)),if_neg (by simpa using(by omega:¬b.2.1=a))];omega
def jE (c b:Nat) (E:List bz):Prop:=∀a∈E,0<=a.1/\a.1<(c:Int)/\0<=a.2.1/\a.2.1<(b:Int)
theorem Hf (E:List bz) (c:bz) (a:Int):hK (E++[c]) a=hK E a+if c.2.1=a then 1 else 0:=by
 unfold hK;rw[lw,lA];congr 1;by_cases b:c.2.1=a
 ·rw[if_pos b,vu (by simpa using b)];rfl
 rw[if_neg b,tk (by simpa using b)];rfl
theorem Sa {E:List bz} (C:b<=200) (B:a<=200) (n:E.length<=19) (y:E.Pairwise fA) (t:jE b a E):zt ((b:Int),(a:Int),E,())=some (ph b a E,()):=by
 unfold zt;refine ac.eq_iff.1 ?_;dsimp only;rw[bg U];refine ac.bs (gE U) (ac.bs (Z0 n y) ?_);dsimp only;refine ac.aU (P:=λr=>r=(((0:Int),((0:Int),([],([],([],()))))),((b:Int),(a:Int),aE (a+1) (λc=>if c=0 then(0:Int) else(hK E ((c:Int)-1):Int)),E.map (λe=>e.1),E.map (λe=>e.2.2.1),()),())) ?_ ?_
 ·refine ac.steps E.length (λd s=>s=((d:Int),((0:Int),((0:Int),([],([],([],()))))),((b:Int),(a:Int),aE (a+1) (λc=>if c=0 then(0:Int) else(hK (E.take d) ((c:Int)-1):Int)),(E.take d).map (λe=>e.1),(E.take d).map (λe=>e.2.2.1),()),E,())) ?_ ?_ ?_
  ·have j:(aE (a+1) λ_=>(0:Int))=aE (a+1) λc=>if c=0 then(0:Int) else(hK (E.take 0) ((c:Int)-1):Int):=dz λc l=>by split<;>rfl
   rw[iB,j];rfl
  ·rintro d _ k rfl;have q:=t E[d] (List.getElem_mem k);obtain⟨i,w⟩:=Int.eq_ofNat_of_zero_le q.2.2.1;dsimp only;rw[bc (az (show(d:Int)<aq E by simp only[aW];omega)),jv k];have aj:aS E[d].2.1=((i+1:Nat):Int):=(by rw[w,bg U]);have p:E.take (d+1)=E.take d++[E[d]]:=(by rw[List.take_add_one,List.getElem?_eq_getElem k];rfl);rw[dU (by simp;omega),Option.bind_some,dU (by simp;omega),Option.bind_some,aj];refine ac.bs (eO (by rw[bv];omega)) (ac.bs (fj U) (ac.bs (eO (by rw[bv];omega)) ?_));rw[fj U];refine ac.af.2 ?_;have o:(aE (a+1) (λc=>if c=0 then(0:Int) else(hK (E.take d) ((c:Int)-1):Int))).set (i+1) (aS (if i+1=0 then(0:Int) else(hK (E.take d) (((i+1:Nat):Int)-1):Int)))=aE (a+1) (λc=>if c=0 then(0:Int) else(hK (E.take (d+1)) ((c:Int)-1):Int)):=by
    rw[gS];refine dz λc l=>?_;have m:∀g,hK (E.take d) g<=19:=λg=>da (hV _ _) (by rw[dX];omega);by_cases f:c=i+1
    ·subst f;rw[ir,if_neg U,if_neg U,bg (by have:=m (((i+1:Nat):Int)-1);omega),p,Hf,if_pos U]
    rw[iq _ _ f];by_cases h:c=0
    ·rw[if_pos h,if_pos h]
    rw[if_neg h,if_neg h,p,Hf,if_neg U,k4]
   dsimp only[Option.map_some];rw[bg U,o,p,List.map_append,List.map_append];rfl
  rintro _ rfl;dsimp only;rw[a6 (aw (show¬((E.length:Int)<aq E) by simp only[aW];omega)),List.take_of_length_le (Nat.le_refl _)];exact ac.af.2 rfl
 rintro _ rfl;dsimp only;refine ac.aU (P:=λr=>r=(((0:Int),((0:Int),([],([],([],()))))),ph b a E,())) ?_ (by rintro _ rfl;exact ac.af.2 rfl);have x:∀g,e5 E g<=19:=λg=>Nat.le_trans (List.length_filter_le _ _) n;have m:∀g,hK E g<=19:=λg=>Nat.le_trans (List.length_filter_le _ _) n;have v:e5 E 0=0:=by
  unfold e5;rw[List.filter_eq_nil_iff.2]
  ·rfl
  intro e q;have:=t e q;simpa using this.2.2.1
 refine ac.steps a (λd s=>s=((d:Int),((0:Int),((0:Int),([],([],([],()))))),((b:Int),(a:Int),aE (a+1) (λc=>if c<=d then(e5 E (c:Int):Int) else(hK E ((c:Int)-1):Int)),E.map (λe=>e.1),E.map (λe=>e.2.2.1),()),())) ?_ ?_ ?_
 ·have j:(aE (a+1) λc=>if c=0 then(0:Int) else(hK E ((c:Int)-1):Int))=aE (a+1) (λc=>if c<=0 then(e5 E (c:Int):Int) else(hK E ((c:Int)-1):Int)):=dz λc l=>by
   by_cases f:c=0
   ·subst f;rw[if_pos rfl,if_pos (a8 _)];show(0:Int)=((e5 E 0:Nat):Int);rw[v];rfl
   rw[if_neg f,if_neg U]
  rw[j];rfl
 ·rintro d _ k rfl;dsimp only;rw[bc (az (U:(d:Int)<(a:Int))),bg U,jv (by rw[bv];omega),jv (by rw[bv];omega),gB,gB];refine ac.bs (eO (by rw[bv];omega)) ?_;rw[fj U];refine ac.af.2 ?_;have o:(aE (a+1) (λc=>if c<=d then(e5 E (c:Int):Int) else(hK E ((c:Int)-1):Int))).set (d+1) (au ((if d+1<=d then(e5 E ((d+1:Nat):Int):Int) else(hK E (((d+1:Nat):Int)-1):Int))+(if d<=d then(e5 E (d:Int):Int) else(hK E ((d:Int)-1):Int))))=aE (a+1) (λc=>if c<=d+1 then(e5 E (c:Int):Int) else(hK E ((c:Int)-1):Int)):=by
   rw[gS];refine dz λc l=>?_;by_cases f:c=d+1
   ·subst f;have u:=CI E (d:Int);have z:=m (d:Int);have A:=x (d:Int);rw[ir,if_neg U,if_pos (a8 _),if_pos (a8 _),(U:(((d+1:Nat):Int)-1)=(d:Int)),bf U U,(U:((d+1:Nat):Int)=(d:Int)+1),u];omega
   rw[iq _ _ f];by_cases h:c<=d
   ·rw[if_pos h,if_pos U]
   rw[if_neg h,if_neg U]
  dsimp only[Option.map_some];rw[o]
 rintro _ rfl;dsimp only;rw[a6 (aw (U:¬((a:Int)<(a:Int))))];have j:aE (a+1) (λc=>if c<=a then(e5 E (c:Int):Int) else(hK E ((c:Int)-1):Int))=aE (a+1) (λc=>(e5 E (c:Int):Int)):=dz λc l=>(by rw[if_pos U]);rw[j];exact ac.af.2 rfl
def eV (b c:Int) (a:bz):Bool:=decide (a.2.1<b)||(decide (a.2.1=b)&&decide (a.1<c))
theorem GP {a:bz} (b:fA r a) (f:eV j d a=true):eV j d r=true:=by
 unfold eV at*;simp only[fZ,bd,decide_eq_true_eq] at*;rcases b with b|⟨c,e⟩
 ·omega
 omega
theorem HQ {j i:Int}:∀{E:List bz},E.Pairwise fA->E.filter (eV j i)=E.take (E.filter (eV j i)).length
 |[],_=>rfl
 |x::E,b=>by
  obtain⟨c,d⟩:=mP.1 b;by_cases a:eV j i x=true
  ·rw[vu a,hU,List.take_succ_cons];exact congrArg _ (HQ d)
  have e:E.filter (eV j i)=[]:=(by refine List.filter_eq_nil_iff.2 λh g f=>?_;exact a (GP (c h g) f));rw[tk a,e];rfl
theorem Cy {E:List bz} (d:jE b a E):E.filter (eV 0 0)=[]:=by refine List.filter_eq_nil_iff.2 λf e c=>?_;have:=d f e;unfold eV at c;simp only[fZ,bd,decide_eq_true_eq] at c;omega
theorem RT {E:List bz} (d:jE a b E) (c:Int):E.filter (eV c (a:Int))=E.filter (eV (c+1) 0):=by refine vt λf e=>?_;have:=d f e;unfold eV;rw[lX];simp only[fZ,bd,decide_eq_true_eq];omega
theorem yD {E:List bz} (d:jE b a E) (c:Int):(E.filter (eV c 0)).length=e5 E c:=by unfold e5;congr 1;refine vt λf e=>?_;have:=d f e;unfold eV;rw[lX];simp only[fZ,bd,decide_eq_true_eq];omega
theorem Cz {j i:Int} {E:List bz} (g:E.Pairwise fA) (l:a<E.length):eV j i E[a]=true↔a<(E.filter (eV j i)).length:=by
 constructor
 ·intro b;have k:∀h∈E.take (a+1),eV j i h=true:=by
   intro h m;obtain⟨e,n,rfl⟩:=Ci.1 m;rcases bp e a with f|f
   ·exact GP (gu.1 g e a U l f) b
   obtain rfl:e=a:=U;exact b
  have c:(E.take (a+1)).filter (eV j i)=E.take (a+1):=l0.2 k;have d:=(List.Sublist.filter (eV j i) (List.take_sublist (a+1) E)).length_le;rw[c,dX] at d;omega
 intro b;have c:=HQ (j:=j) (i:=i) g;have d:E[a]∈E.filter (eV j i):=(by rw[c];exact Ci.2 ⟨a,U,rfl⟩);exact(gr.1 d).2
theorem RU {j i:Int} {E:List bz} (m:E.Pairwise fA):(∃c:(E.filter (eV j i)).length<E.length,E[(E.filter (eV j i)).length].1=i/\E[(E.filter (eV j i)).length].2.1=j/\(E.filter (eV j (i+1))).length=(E.filter (eV j i)).length+1)\/((∀b,(c:b<E.length)->¬(E[b].1=i/\E[b].2.1=j))/\(E.filter (eV j (i+1))).length=(E.filter (eV j i)).length):=by
 have q:∀g:bz,eV j (i+1) g=true↔eV j i g=true\/(g.1=i/\g.2.1=j):=λg=>(by unfold eV;simp only[fZ,bd,decide_eq_true_eq];omega);have z:∀g:bz,g.1=i/\g.2.1=j->¬eV j i g=true:=λg h c=>(by unfold eV at c;simp only[fZ,bd,decide_eq_true_eq] at c;omega);generalize t:(E.filter (eV j i)).length=f;generalize u:(E.filter (eV j (i+1))).length=k;have n:∀a,(d:a<E.length)->(eV j i E[a]=true↔a<f):=λa d=>(by rw[<-t];exact Cz m d);have o:∀a,(d:a<E.length)->(eV j (i+1) E[a]=true↔a<k):=λa d=>(by rw[<-u];exact Cz m d);have F:f<=E.length:=(by rw[<-t];exact hV _ _);have G:k<=E.length:=(by rw[<-u];exact hV _ _);by_cases p:∃b,∃c:b<E.length,E[b].1=i/\E[b].2.1=j
 ·obtain⟨b,l,h⟩:=p;have A:¬b<f:=λc=>z _ h ((n b l).2 c);have B:b<k:=(o b l).1 ((q _).2 (.inr h));have r:∀a,(d:a<E.length)->f<=a->a<k->a=b:=λa d C w=>by
   have x:=(q _).1 ((o a d).2 w);have D:E[a].1=i/\E[a].2.1=j:=x.resolve_left λc=>(by have:=(n a d).1 c;omega);rcases l3 a b with e|e|e
   ·have:=gu.1 m a b d l e;rcases this with c|⟨c,v⟩<;>omega
   ·exact e
   have:=gu.1 m b a l d e;rcases this with c|⟨c,v⟩<;>omega
  have y:f=b:=r f U (a8 _) U;subst y;refine .inl ⟨l,h.1,h.2,?_⟩;rcases bp (f+1) k with e|e
  ·have:=r (f+1) U U e;omega
  omega
 refine .inr ⟨λb l h=>p ⟨b,l,h⟩,?_⟩;have s:∀a,a<E.length->(a<k↔a<f):=λa d=>(by rw[<-n a d,<-o a d,q];exact⟨λc=>c.resolve_right λh=>p ⟨a,d,h⟩,.inl⟩);rcases l3 k f with e|e|e
 ·have:=(s k U).2 e;omega
 ·exact e
 have:=(s f U).1 e;omega
def mD (b:Nat) (a:bz):Nat:=a.2.1.toNat*b+a.1.toNat
theorem YE {E:List bz} (d:jE a b E) (e:r∈E):mD a r<a*b:=by have f:=d r e;unfold mD;have c:(r.2.1.toNat+1)*a<=b*a:=gv _ U;rw[eL,gw] at c;rw[jf a b];omega
theorem YD {rows:Nat} {a b:Int×Int} (f:0<=a.1/\a.1<(rows:Int)/\0<=a.2) (g:0<=b.1/\b.1<(rows:Int)/\0<=b.2) (c:a.2.toNat*rows+a.1.toNat=b.2.toNat*rows+b.1.toNat):a.1=b.1/\a.2=b.2:=by have d:(a.2.toNat*rows+a.1.toNat)/rows=a.2.toNat:=(by rw[jf,Nat.mul_add_div U,Nat.div_eq_of_lt U,k4]);have e:(b.2.toNat*rows+b.1.toNat)/rows=b.2.toNat:=(by rw[jf,Nat.mul_add_div U,Nat.div_eq_of_lt U,k4]);rw[c,e] at d;rw[d] at c;omega
def mg (b:Nat) (E:List bz):Nat->Nat->Int
 |0,_=>0
 |i+1,a=>if a=mD b (E.getD i (0,0,0,())) then((i+1:Nat):Int) else mg b E i a
theorem G2 (d:Nat) (E:List bz) (c:Nat):∀i,(mg d E i c=0/\∀a,a<i->mD d (E.getD a (0,0,0,()))≠c)\/∃a,a<i/\mD d (E.getD a (0,0,0,()))=c/\mg d E i c=((a+1:Nat):Int)
 |0=>.inl ⟨rfl,λa b=>absurd b U⟩
 |i+1=>by
  unfold mg;by_cases e:c=mD d (E.getD i (0,0,0,()))
  ·exact .inr ⟨i,U,e.symm,if_pos e⟩
  rw[if_neg e];rcases G2 d E c i with⟨g,f⟩|⟨a,g,f,h⟩
  ·refine .inl ⟨g,λa j=>?_⟩;rcases bp a i with b|b
   ·exact f a b
   obtain rfl:a=i:=U;exactλb=>e b.symm
  exact .inr ⟨a,U,f,h⟩
theorem Sg (b:Nat) (E:List bz) (a:Nat):eH (mg b E a) (mD b (E.getD a (0,0,0,()))) ((a+1:Nat):Int)=mg b E (a+1):=by funext p;unfold eH;rw[mg]
theorem KT (e:b<=200) (d:a<=200) (g:i<=200):au (au ((a:Int)*(b:Int))+(i:Int))=((a*b+i:Nat):Int):=by have f:a*b<=200*200:=ia d e;have c:(a:Int)*(b:Int)=((a*b:Nat):Int):=(by rw[jF]);rw[c,x5 U,<-Int.natCast_add,x5 U]
theorem DE {E:List bz} (b:a<E.length):E.getD a (0,0,0,())=E[a]:=by rw[iK,bo b];rfl
def h5 (E:List bz) (b a:Int):Nat:=(E.filter (eV b a)).length
theorem KQ (E:List bz) (b a:Int):h5 E b a<=E.length:=hV _ _
def nk (e d:Nat) (E:List bz) (a:Nat) (c:Nat):bF:=((e:Int),(d:Int),aE (a+1) (λa=>(e5 E (a:Int):Int)),(E.take c).map (λb=>b.1),(E.take c).map (λb=>b.2.2.1),())
theorem Yp {e:Nat} {E:List bz} (w:p<=200) (J:e<=200) (ad:E.length<=10000) (x:E.Pairwise fA) (h:jE p e E):z9 ((p:Int),(e:Int),E,())=some (ph p e E,()):=by
 unfold z9;refine ac.eq_iff.1 ?_;dsimp only;have am:p*e<=200*200:=Nat.mul_le_mul w J;have G:au ((p:Int)*(e:Int))=((p*e:Nat):Int):=(by rw[<-Int.natCast_mul,x5 U]);rw[G];refine ac.bs (gE U) ?_;have F:e5 E 0=0:=(by rw[<-yD h,Cy h];rfl);refine ac.aU (P:=λr=>r=(((0:Int),((0:Int),([],([],([],()))))),nk p e E 0 0,aE (p*e) (mg p E E.length),())) ?_ ?_
 ·refine ac.steps E.length (λd s=>s=((d:Int),((0:Int),((0:Int),([],([],([],()))))),nk p e E 0 0,aE (p*e) (mg p E d),())) ?_ ?_ ?_
  ·have:nk p e E 0 0=((p:Int),((e:Int),([0],(([]:aQ),(([]:aQ),()))))):=by
    unfold nk;rw[m4,HO];show(_,_,[((e5 E 0:Nat):Int)],_)=_;rw[F];rfl
   rw[iB,this];rfl
  ·rintro d _ n rfl;have k:=h E[d] (List.getElem_mem n);obtain⟨Y,I⟩:=Int.eq_ofNat_of_zero_le k.1;obtain⟨Z,K⟩:=Int.eq_ofNat_of_zero_le k.2.2.1;dsimp only;rw[bc (az (show(d:Int)<aq E by simp only[aW];omega))];refine ac.bs (bM n) (ac.bs (bM n) ?_);have v:au (au (E[d].2.1*(p:Int))+E[d].1)=((mD p E[d]:Nat):Int):=by
    unfold mD;rw[I,K,KT w U U,de,de]
   have Q:=YE h (bQ n);rw[v,i5 (by rw[bv];exact Q),gS,bg U,<-DE n,Sg];exact ac.af.2 rfl
  rintro _ rfl;dsimp only;rw[a6 (aw (show¬((E.length:Int)<aq E) by simp only[aW];omega))];exact ac.af.2 rfl
 rintro _ rfl;dsimp only;refine ac.aU (P:=λr=>r=(((0:Int),((0:Int),([],([],([],()))))),ph p e E,())) ?_ (by rintro _ rfl;exact ac.af.2 rfl);refine ac.steps e (λc s=>s=((c:Int),((0:Int),((0:Int),([],([],([],()))))),nk p e E c (h5 E (c:Int) 0),aE (p*e) (mg p E E.length),())) ?_ ?_ ?_
 ·have:h5 E ((0:Nat):Int) 0=0:=by
   unfold h5;rw[show((0:Nat):Int)=0 from rfl,Cy h];rfl
  rw[this];rfl
 ·rintro c _ L rfl;dsimp only;rw[bc (az (U:(c:Int)<(e:Int)))];refine ac.aU (P:=λr=>r=(((0:Int),((0:Int),([],([],([],()))))),nk p e E c (h5 E (c:Int) (p:Int)),aE (p*e) (mg p E E.length),())) ?_ ?_
  ·refine ac.steps p (λd s=>s=((d:Int),((0:Int),((0:Int),([],([],([],()))))),nk p e E c (h5 E (c:Int) (d:Int)),aE (p*e) (mg p E E.length),())) rfl ?_ ?_
   ·rintro d _ n rfl;dsimp only;rw[bc (az (U:(d:Int)<(p:Int))),KT w U U];have v:c*p+d<p*e:=by
     have g:(c+1)*p<=e*p:=gv _ L;rw[eL,gw] at g;rw[jf p e];omega
    rw[jv (by rw[bv];exact v),gB];have C:=KQ E (c:Int) (d:Int);have u:=RU (j:=(c:Int)) (i:=(d:Int)) x;change(∃t:h5 E (c:Int) (d:Int)<E.length,E[h5 E (c:Int) (d:Int)].1=(d:Int)/\E[h5 E (c:Int) (d:Int)].2.1=(c:Int)/\h5 E (c:Int) ((d:Int)+1)=h5 E (c:Int) (d:Int)+1)\/((∀y,(t:y<E.length)->¬(E[y].1=(d:Int)/\E[y].2.1=(c:Int)))/\h5 E (c:Int) ((d:Int)+1)=h5 E (c:Int) (d:Int)) at u;rw[show(d:Int)+1=((d+1:Nat):Int) from by omega] at u;generalize h5 E (c:Int) (d:Int)=q at*;rw[bg U];have M:∀f,(t:f<E.length)->mD p E[f]=c*p+d->E[f].1=(d:Int)/\E[f].2.1=(c:Int):=(by intro f t R;have k:=h E[f] (List.getElem_mem t);exact YD (rows:=p) (a:=(E[f].1,E[f].2.1)) (b:=((d:Int),(c:Int))) ⟨k.1,k.2.1,k.2.2.1⟩ ⟨U,by dsimp only;omega,by dsimp only;omega⟩ (by simpa[mD] using R));rcases G2 p E (c*p+d) E.length with⟨W,X⟩|⟨f,l,D,T⟩
    ·rw[W];rcases u with⟨g,m,A,B⟩|⟨g,m⟩
     ·refine absurd ?_ (X q g);rw[DE g];unfold mD;rw[m,A,de,de]
     rw[a6 (aw U)];refine ac.bs rfl ?_;rw[m];exact ac.af.2 rfl
    rw[T];rw[DE l] at D;obtain⟨ar,V⟩:=M f l D;rcases u with⟨g,m,A,B⟩|⟨g,m⟩
    ·have N:f=q:=by
      rcases l3 f q with o|o|o
      ·have:=gu.1 x f q l g o;unfold fA at this;omega
      ·exact o
      have:=gu.1 x q f g l o;unfold fA at this;omega
     subst N;rw[bc (az U),(U:((f+1:Nat):Int)-1=(f:Int)),x5 U];unfold nk;dsimp only;rw[dU (by simp;omega),Option.bind_some];have S:E.take (f+1)=E.take f++[E[f]]:=(by rw[List.take_add_one,List.getElem?_eq_getElem l];rfl);rw[bM l,Option.bind_some,dU (by simp;omega),Option.bind_some,Option.bind_some];rw[B,S,List.map_append,List.map_append,<-m];exact ac.af.2 rfl
    exact absurd ⟨ar,V⟩ (g f l)
   rintro _ rfl;dsimp only;rw[a6 (aw (U:¬((p:Int)<(p:Int))))];exact ac.af.2 rfl
  rintro _ rfl;have C:=KQ E (c:Int) (p:Int);have aj:h5 E (c:Int) (p:Int)=h5 E ((c+1:Nat):Int) 0:=(by unfold h5;rw[RT h,(U:((c+1:Nat):Int)=(c:Int)+1)]);have H:h5 E ((c+1:Nat):Int) 0=e5 E ((c+1:Nat):Int):=yD h _;rw[aj] at C|-;unfold nk;dsimp only;have O:aq ((E.take (h5 E ((c+1:Nat):Int) 0)).map λz=>z.1)=(e5 E ((c+1:Nat):Int):Int):=(by rw[aW,List.length_map,List.length_take,<-H];omega);rw[dU (by rw[bv];simp;omega),Option.bind_some,O,m4 (c+1),bg U];exact ac.af.2 rfl
 rintro _ rfl;dsimp only;rw[a6 (aw (U:¬((e:Int)<(e:Int))))];have aj:h5 E (e:Int) 0=E.length:=(by unfold h5;rw[List.filter_eq_self.2];intro z k;have:=h z k;unfold eV;simp only[Bool.or_eq_true,Bool.and_eq_true,decide_eq_true_eq];omega);have:nk p e E e (h5 E (e:Int) 0)=ph p e E:=(by unfold nk ph;rw[aj,List.take_of_length_le (Nat.le_refl _)]);rw[this];exact ac.af.2 rfl
theorem tB {E:List bz} (g:E.Pairwise fA) (e:jE p b E) (f:a<E.length) (c:Int):E[a].2.1<c↔a<e5 E c:=by have d:=Cz (j:=c) (i:=0) g f;rw[yD e] at d;rw[<-d];have:=e E[a] (bQ f);unfold eV;simp only[fZ,bd,decide_eq_true_eq];omega
theorem Ha {E:List bz} (c:jE b a E):e5 E 0=0:=by rw[<-yD c,Cy c];rfl
theorem G9 {E:List bz} (c:jE b a E):e5 E (a:Int)=E.length:=by unfold e5;rw[l0.2];intro e d;have:=c e d;simpa using this.2.2.2
theorem TJ {c:Nat->Int} (d:a<b):(aE b c).getD a 0=c a:=by rw[iK,um d];rfl
theorem AO {E:List bz} (b:a<E.length):(E.map λc=>c.1).getD a 0=E[a].1:=by rw[iK,eS,bo b];rfl
theorem H7 {E:List bz} (b:a<E.length):(E.map λc=>c.2.2.1).getD a 0=E[a].2.2.1:=by rw[iK,eS,bo b];rfl
def s1 (a:Nat) (E:List bz):cZ:=aE (a+1) (λb=>(e5 E (b:Int):Int))
theorem q9 {E:List bz} (c:a<=b):(s1 b E).getD a 0=(e5 E (a:Int):Int):=TJ U
theorem CH (E:List bz) (a:Int):e5 E a<=E.length:=hV _ _
theorem aaf {E:List bz} (g:E.Pairwise fA) (e:jE b a E):et b a (s1 a E) (E.map λj=>j.1) (E.map λj=>j.2.2.1) where
 len:=bv _ _
 first:=by rw[q9 (dQ _)];show((e5 E 0:Nat):Int)=0;rw[Ha e];rfl
 mono:=λc k=>by rw[q9 U,q9 U,show((c+1:Nat):Int)=(c:Int)+1 from by omega,CI];omega
 last:=by rw[q9 (a8 _),G9 e,fL]
 val:=by simp
 rng:=λc d k h i=>by rw[q9 U] at h i;have f:d<E.length:=(by have:=CH E ((c+1:Nat):Int);omega);rw[AO f];have:=e E[d] (bQ f);exact⟨this.1,this.2.1⟩
 asc:=λc d k h i=>by rw[q9 U] at h i;have f:d<E.length:=(by have:=CH E ((c+1:Nat):Int);omega);rw[AO f,AO U];have l:=tB g e f (c:Int);have m:=tB g e f ((c+1:Nat):Int);have n:=tB g e (U:d-1<E.length) (c:Int);have o:=tB g e (U:d-1<E.length) ((c+1:Nat):Int);have:=gu.1 g (d-1) d U f U;unfold fA at this;omega
theorem LZ {rows fG:Nat} {E:List bz} (c:rows<=200) (b:fG<=200) (g:E.length<=10000) (e:∀a∈E,dE a.2.2.1):fD rows fG (s1 fG E) (E.map λa=>a.1) (E.map λa=>a.2.2.1) where
 hr:=c
 hc:=b
 hi:=by simp;omega
 hs:=by unfold s1;rw[bv];omega
 hv:=by simp;omega
 hw:=λh d=>by obtain⟨a,f,rfl⟩:=bR.1 d;exact e a f
theorem Df (c f:cZ) (d:Int) (b a:Nat):hg c f d b a=aE a λe=>(c.getD (b+e) 0,d,f.getD (b+e) 0,()):=by
 induction a with
 |zero=>rfl
 |succ a g=>rw[hg,g,m4]
theorem S8 {E:List bz} (l:E.Pairwise fA) (e:jE b a E):∀c,c<=a->bJ (s1 a E) (E.map λg=>g.1) (E.map λg=>g.2.2.1) c=E.take (e5 E (c:Int)):=by
 intro c
 induction c with
 |zero=>
  intro _;show[]=E.take (e5 E 0);rw[Ha e];rfl
 |succ c q=>
  intro u;rw[bJ,q U,q9 U,q9 U,Df,de,de];have n:e5 E ((c+1:Nat):Int)=e5 E (c:Int)+hK E (c:Int):=(by rw[show((c+1:Nat):Int)=(c:Int)+1 from by omega,CI]);have o:=CH E ((c+1:Nat):Int);have h:∀d,(f:d<E.length)->e5 E (c:Int)<=d->d<e5 E ((c+1:Nat):Int)->E[d].2.1=(c:Int):=λd f k m=>(by have s:=tB l e f (c:Int);have t:=tB l e f ((c+1:Nat):Int);omega);rw[n] at h o|-;generalize e5 E (c:Int)=i at*;generalize hK E (c:Int)=j at*;rw[lB,List.take_add];congr 1;have p:((E.drop i).take j).length=j:=(by rw[dX,kC];omega);refine List.ext_getElem (by rw[bv,p]) λr k m=>?_;rw[bv] at k;rw[gB,AO U,H7 U,vv,List.getElem_drop,<-h (i+r) U U U]
theorem HJ {E:List bz} (e:E.Pairwise fA) (d:jE b a E):bJ (s1 a E) (E.map λc=>c.1) (E.map λc=>c.2.2.1) a=E:=by rw[S8 e d a (a8 _),G9 d,c9 (a8 _)]
theorem TO {E:List bz} (c:∀b∈E,bG b.2.2.1≠2047):jB (E.map λb=>b.2.2.1):=by intro d a;rw[fL] at a;rw[H7 a];exact c _ (bQ a)
theorem G4 {E:List bz} (f:E.Pairwise fA) (e:jE b a E) (d:∀c∈E,bG c.2.2.1≠2047):eW b a (s1 a E) (E.map λc=>c.1) (E.map λc=>c.2.2.1)=0:=
 jj.2 ⟨aaf f e,TO d⟩
theorem si (e:et b a c g h):jE b a (bJ c g h a):=by intro n f;obtain⟨d,i,f⟩:=xi.1 f;obtain⟨j,k,rfl⟩:=sD.1 f;have l:=e.pos d U;have m:=e.pos (d+1) U;have:=e.rng d ((c.getD d 0).toNat+j) i U U;exact⟨this.1,this.2,by dsimp only;omega,by dsimp only;omega⟩
theorem qy (e:et b a g h c) {i:Int->Prop} (k:∀m∈c,i m):∀j∈bJ g h c a,i j.2.2.1:=by intro j f;obtain⟨d,n,f⟩:=xi.1 f;obtain⟨l,o,rfl⟩:=sD.1 f;have r:=e.pos d U;have s:=e.pos (d+1) U;have p:=e.n8 (d+1) U;have q:=e.val;dsimp only;rw[jo (U:(g.getD d 0).toNat+l<c.length)];exact k _ (List.getElem_mem _)
theorem Ds (d:jB c):∀b∈c,bG b≠2047:=by intro b e;obtain⟨f,a,rfl⟩:=ha.1 e;have:=d f a;rwa[jo a] at this
def qO (a:bz):Bool:=decide (a.1>=a.2.1)
def fl (E:List bz):List bz:=E.filter qO
theorem qQ {E:List bz} (a:E.Pairwise fA):(fl E).Pairwise fA:=List.Pairwise.sublist List.filter_sublist a
theorem qP {E:List bz} (c:jE b a E):jE b a (fl E):=λe d=>c e (gr.1 d).1
theorem A1 {E:List bz}:∀a∈fl E,a.2.1<=a.1:=λa b=>by have:=(gr.1 b).2;unfold qO at this;simpa using this
theorem Fq {b:m->Bool} {E:List m} (d:a<E.length):(E.take (a+1)).filter b=(E.take a).filter b++(if b E[a]=true then[E[a]] else[]):=by
 rw[hq,bo d,lw];congr 1;show[E[a]].filter b=_;by_cases c:b E[a]=true
 ·rw[if_pos c,vu c];rfl
 rw[if_neg c,tk c];rfl
theorem Jo:∀(a:cY) (b:Nat),a.Pairwise (· < ·)->(∀x∈a,x<b)->a.length<=b
 |[],_,_,_=>dQ _
 |x::a,b,i,d=>by
  obtain⟨c,j⟩:=mP.1 i;have p:=d x ab;have:=Jo (a.map λf=>f-(x+1)) (b-(x+1)) (by
   rw[tp];refine List.Pairwise.imp_of_mem ?_ j;intro h m k o n;have:=c h k;omega) (by
   intro f l;obtain⟨g,e,rfl⟩:=bR.1 l;have:=c g e;have:=d g (by simp[e]);omega)
  rw[fL] at this;rw[hU];omega
def Er (a:Int):Int:=if a=0 then 0 else if a=1 then 4 else if a=2 then 7 else if a=3 then 9 else 10
theorem A2 (s:a<=5) {E:List bz} (o:E.Pairwise fA) (c:jE a a E) (d:∀b∈E,b.2.1<=b.1):E.length<=15:=by
 have m:=Jo (E.map λb=>(Er b.2.1+b.1).toNat) 15 (by
  rw[tp];refine List.Pairwise.imp_of_mem ?_ o;intro e f g h n;have k:=c e g;have q:=c f h;have l:=d e g;have r:=d f h;unfold fA at n;unfold Er;split<;>split<;>(try split)<;>(try split)<;>(try split)<;>(try split)<;>(try split)<;>(try split)<;>omega) (by
  intro t p;obtain⟨j,i,rfl⟩:=bR.1 p;have k:=c j i;have l:=d j i;unfold Er;split
  ·omega
  split
  ·omega
  split
  ·omega
  split<;>omega)
 rwa[fL] at m
theorem Rf (n:a<=5) (b:fD a a g c h) (m:eW a a g c h=0):zr (((a:Int),(a:Int),g,c,h,()),())=some (ph a a (fl (bJ g c h a)),0,()):=by
 have f:=(jj.1 m).1;have j:=sj f a (Nat.le_refl _);have k:=si f;have s:=A2 n (qQ j) (qP k) A1;have r:(bJ g c h a).length<=10000:=(by rw[wP f a (Nat.le_refl _)];have:=f.n8 a (Nat.le_refl _);have:=b.hi;omega);unfold zr;refine ai b.check ?_;dsimp only;rw[m,bY,az rfl];refine ai (Dg f b.hc b.hi) ?_;dsimp only;generalize bJ g c h a=E at*;refine ac.eq_iff.1 ?_;refine ac.aU (P:=λo=>o=(((0:Int),((0:Int),([],([],([],()))))),fl E,())) ?_ ?_
 ·refine ac.steps E.length (λd p=>p=((d:Int),((0:Int),((0:Int),([],([],([],()))))),fl (E.take d),E,())) rfl ?_ ?_
  ·rintro d _ l rfl;dsimp only;rw[bc (az (show(d:Int)<aq E by simp only[aW];omega)),jv l,bg U];have q:(fl (E.take d)).length<=10000:=Nat.le_trans (List.length_filter_le _ _) (by rw[List.length_take];omega);unfold fl at*;rw[Fq l];by_cases i:qO E[d]=true
   ·have e:=i;unfold qO at e;rw[bc e,if_pos i,dU (by simp only[hU,oI];omega)];exact ac.af.2 rfl
   have e:=i;unfold qO at e;rw[a6 (by simpa using e),if_neg i,jc];exact ac.af.2 rfl
  rintro _ rfl;dsimp only;rw[a6 (aw (show¬((E.length:Int)<aq E) by simp only[aW];omega)),List.take_of_length_le (Nat.le_refl _)];exact ac.af.2 rfl
 rintro _ rfl;dsimp only;exact ac.bs (Sa b.hr b.hc U (qQ j) (qP k)) (ac.af.2 rfl)
theorem YW (n:a<=5) (e:fD a a g c h) (j:eW a a g c h=0):z8 (((a:Int),(a:Int),g,c,h,()),())=some (ph a a (fl (bJ g c h a)),0,()):=by
 have i:=(jj.1 j).1;have k:=sj i a (Nat.le_refl _);have l:=si i;have s:=A2 n (qQ k) (qP l) A1;have r:(bJ g c h a).length<=10000:=(by rw[wP i a (Nat.le_refl _)];have:=i.n8 a (Nat.le_refl _);have:=e.hi;omega);unfold z8;refine ai e.uX ?_;dsimp only;rw[j,bY,az rfl];refine ai (K6 e j) ?_;dsimp only;generalize bJ g c h a=E at*;refine ac.eq_iff.1 ?_;refine ac.aU (P:=λo=>o=(((0:Int),((0:Int),([],([],([],()))))),fl E,())) ?_ ?_
 ·refine ac.steps E.length (λb p=>p=((b:Int),((0:Int),((0:Int),([],([],([],()))))),fl (E.take b),())) rfl ?_ ?_
  ·rintro b _ m rfl;dsimp only;rw[bc (az (show(b:Int)<aq E by simp only[aW];omega)),bM m,bg U];have q:(fl (E.take b)).length<=10000:=Nat.le_trans (List.length_filter_le _ _) (by rw[List.length_take];omega);unfold fl at*;rw[Fq m];by_cases f:qO E[b]=true
   ·have d:=f;unfold qO at d;rw[aM,aM,bc d,if_pos f,aM,dU (by simp only[hU,oI];omega)];exact ac.af.2 rfl
   have d:=f;unfold qO at d;rw[aM,aM,a6 (by simpa using d),if_neg f,jc];exact ac.af.2 rfl
  rintro _ rfl;dsimp only;rw[a6 (aw (show¬((E.length:Int)<aq E) by simp only[aW];omega)),List.take_of_length_le (Nat.le_refl _)];exact ac.af.2 rfl
 rintro _ rfl;dsimp only;exact ac.bs (Yp e.hr e.hc U (qQ k) (qP l)) (ac.af.2 rfl)
def h3 (b:cO) (a:cZ):cM:=(List.range a.length).map λ(c:Nat)=>(List.range a.length).map λ(d:Nat)=>decide (a.getD d 0∈b.getD (a.getD c 0).toNat [])
theorem uv (b:cO) (a:cZ):(h3 b a).length=a.length:=by simp[h3]
theorem yF (d:a<c.length) (e:b<c.length):fe (h3 f c) a b=decide (c.getD b 0∈f.getD (c.getD a 0).toNat []):=by unfold fe h3;simp[List.getD,d,e]
theorem aam (g:0<=d/\d<f.length) (b:0<=j/\j<f.length):∃c,ay (mG f) d=some c/\ay c j=some (decide (j∈f.getD d.toNat [])):=by
 have a:d.toNat<f.length:=U;have e:j.toNat<f.length:=U;refine⟨(List.range f.length).map λ(h:Nat)=>decide ((h:Int)∈f[d.toNat]),?_,?_⟩
 ·unfold ay;rw[if_pos g.1,L7 a]
 unfold ay;rw[if_pos b.1,eS,oH e,List.getD,bo a];simp only[fB,pW,Int.toNat_of_nonneg b.1]
theorem Q9 (A:eU f) (B:∀c∈f,c.length<4611686018427387904) (K:f.length<=200) (t:∀q∈c,0<=q/\q<(f.length:Int)) (H:c.Nodup) (T:c.length<=400):Ad ((f,()),c,())=some ((h2 (h3 f c),()),0,()):=by
 classical
 rw[<-ac.eq_iff];unfold Ad;have G:hy f=0:=(by unfold hy;rw[if_neg U,if_pos A]);have aj:decide (∀q∈c,0<=q/\q<(f.length:Int))=true:=decide_eq_true t;have E:decide (¬c.Nodup)=false:=decide_eq_false (λb=>b H);simp only[E1 f B,G,Rm c _ U,aj,Rs c U,E,F9 B K (λm N=>(A.asc m N).2),HC c.length U,aM,bne_self_eq_false,cond_false,i6];simp only[ac.bT];refine ac.mono (P:=λx=>x.2.1=h3 f c) ?_ ?_
 ·refine ac.for (i0:=0) c.length (λa z=>z.2.1=(List.range c.length).map λ(m:Nat)=>if m<a then(h3 f c).getD m [] else List.replicate c.length false) rfl ?_ (dQ _) ?_ ?_
  ·apply g9;intro W;simp[ly];split<;>simp_all
  ·rintro a ⟨y,s,_⟩ _ i g;simp only at g;simp only[ac.bS,ac.bT];refine⟨λ_=>?_,λk=>by simp at k;omega⟩;refine ac.mono (P:=λx=>x.2.1=(List.range c.length).map λ(m:Nat)=>if m<a+1 then(h3 f c).getD m [] else List.replicate c.length false) ?_ (by rintro⟨y,o,_⟩ b;simp only[ac.af];exact⟨fo U,b⟩);refine ac.for (i0:=0) c.length (λd z=>z.2.1=s.set a ((List.range c.length).map λ(e:Nat)=>if e<d then fe (h3 f c) a e else false)) rfl ?_ (dQ _) ?_ ?_
   ·show s=_;apply g9;intro h;rw[pQ];by_cases j:a=h
    ·subst j;rw[if_pos rfl,g];simp[i,List.map_const']
    rw[if_neg j]
   ·rintro d ⟨S,o,_⟩ _ n l;simp only at l;have O:=t _ (bQ i);have Q:=t _ (bQ n);obtain⟨R,L,M⟩:=aam O Q;have V:o.length=c.length:=(by rw[l,g];simp);have r:a<o.length:=U;have v:o[a]=(List.range c.length).map λ(e:Nat)=>if e<d then fe (h3 f c) a e else false:=by
     have:o[a]?=some ((List.range c.length).map λ(e:Nat)=>if e<d then fe (h3 f c) a e else false):=(by rw[l,kB (by rw[g];simpa using i)]);rw[bo r] at this;exact ec this
    have I:ay c (a:Int)=some c[a]:=g4 (bo i);have J:ay c (d:Int)=some c[d]:=g4 (bo n);simp only[ac.bS,ac.bT,ac.n3,I,J,L,M,ac.af,ac.nT,ac.xh,de];refine⟨λ_=>⟨⟨U,r⟩,r,⟨U,by rw[v];simpa using n⟩,r,by rw[v];simpa using n,fo U,?_⟩,λk=>by simp at k;omega⟩;rw[v,l,List.set_set];congr 1;apply g9;intro h;rw[pQ,eS,eS];rcases bp h c.length with b|b
    ·rw[oH b];simp only[fB,fL,nG];by_cases j:d=h
     ·subst j;have C:c.getD d 0=c[d]:=(by simp[List.getD,n]);have D:c.getD a 0=c[a]:=(by simp[List.getD,i]);rw[if_pos rfl,if_pos b,if_pos U,yF i n,C,D]
     rw[if_neg j];by_cases p:h<d
     ·rw[if_pos p,if_pos U]
     rw[if_neg p,if_neg U]
    rw[if_neg U,fc (by simpa using b)];rfl
   rintro⟨S,o,_⟩ l;simp only at l;simp only[ac.bS,ac.af];refine⟨λk=>by simp at k,λ_=>?_⟩;rw[l,g];apply g9;intro h;rw[pQ,eS,eS];rcases bp h c.length with b|b
   ·rw[oH b];simp only[fB,fL,nG];by_cases j:a=h
    ·subst j;rw[if_pos rfl,if_pos b,if_pos U];congr 1;have:(h3 f c).getD a []=(List.range c.length).map λ(e:Nat)=>fe (h3 f c) a e:=by
      have F:(h3 f c).getD a []=(List.range c.length).map λ(d:Nat)=>decide (c.getD d 0∈f.getD (c.getD a 0).toNat []):=(by simp[h3,List.getD,i]);rw[F];refine hW λe w=>?_;rw[yF i (gN.1 w)]
     rw[this];refine hW λe w=>?_;rw[if_pos (gN.1 w)]
    rw[if_neg j];by_cases p:h<a
    ·rw[if_pos p,if_pos U]
    rw[if_neg p,if_neg U]
   rw[if_neg U,fc (by simpa using b)];rfl
  rintro⟨y,s,_⟩ g;simp only at g;simp only[ac.bS,ac.af];refine⟨λk=>by simp at k,λ_=>?_⟩;rw[g];apply g9;intro h;rw[eS];rcases bp h c.length with b|b
  ·rw[oH b];simp only[fB];rw[if_pos b,List.getD,bo (by rw[uv];exact b)];rfl
  rw[fc (by simpa using b),fc (by rw[uv];exact b)];rfl
 rintro⟨y,s,_⟩ g;simp only at g;subst g;rw[FN]
 ·simp only[ac.af]
 ·intro R u;unfold h3 at u;simp only[bR] at u;obtain⟨a,_,rfl⟩:=u;simp[h3]
 rw[uv];omega
section
inductive gY (A:Nat->Nat->Prop) (P:Nat->Prop):Nat->Nat->Prop
 |one {i j:Nat}:A i j->gY A P i j
 |step {i m j:Nat}:A i m->P m->gY A P m j->gY A P i j
section
variable {A:Nat->Nat->Prop} {P:Nat->Prop}
theorem gY.trans (c:gY A P b a) (e:P a) (d:gY A P a i):gY A P b i:=by
 induction c with
 |one c=>exact .step c e d
 |step c f _ g=>exact .step c f (g e d)
theorem gY.symm (f:∀d e,A d e->A e d) (c:gY A P a b):gY A P b a:=by
 induction c with
 |one c=>exact .one (f _ _ c)
 |step c g _ h=>exact h.trans g (.one (f _ _ c))
theorem gY.mono (f:∀d,P d->t d) (c:gY A P a b):gY A t a b:=by
 induction c with
 |one c=>exact .one c
 |step c e _ g=>exact .step c (f _ e) g
theorem gY.insert_iff:gY A (λf=>P f\/f=i) a b↔gY A P a b\/(gY A P a i/\gY A P i b):=by
 constructor
 ·intro c
  induction c with
  |one c=>exact .inl (.one c)
  |@step a m b c g _ d=>
   rcases g with g|rfl
   ·rcases d with d|⟨l,h⟩
    ·exact .inl (.step c g d)
    exact .inr ⟨.step c g l,h⟩
   rcases d with d|⟨_,h⟩
   ·exact .inr ⟨.one c,d⟩
   exact .inr ⟨.one c,h⟩
 rintro(c|⟨j,k⟩)
 ·exact c.mono λf e=>.inl e
 exact(j.mono λf e=>.inl e).trans (.inr rfl) (k.mono λf e=>.inl e)
theorem gY.none:gY A (λ_=>False) a b↔A a b:=by
 constructor
 ·intro c;cases c with
  |one c=>exact c
  |step _ c _=>exact c.elim
 exact .one
theorem MD:eN A i a b↔gY A (λf=>f<i) a b:=by
 constructor
 ·intro c
  induction c with
  |one c=>exact .one c
  |step c d _ e=>exact .step c d e
 intro c
 induction c with
 |one c=>exact .one c
 |step c d _ e=>exact .step c d e
end
end
section
theorem Z1:∀{d b:cZ},d.Pairwise (· < ·)->b.Pairwise (· < ·)->(∀f,f∈d↔f∈b)->d=b:=by
 intro d
 induction d with
 |nil=>
  intro b _ _ e;cases b with
  |nil=>rfl
  |cons j b=>exact absurd ((e j).2 (jI ..)) ab
 |cons f d l=>
  intro b h i e;cases b with
  |nil=>exact absurd ((e f).1 (jI ..)) ab
  |cons j b=>
   rw[mP] at h i;have k:f=j:=by
    have c:=(e f).1 (jI ..);have a:=(e j).2 (jI ..);rcases dh.1 c with c|c
    ·exact c
    rcases dh.1 a with a|a
    ·exact a.symm
    have:=i.1 _ c;have:=h.1 _ a;omega
   subst k;rw[l h.2 i.2];intro m;have:=e m;simp only[dh] at this;constructor
   ·intro g;have c:=h.1 _ g;rcases this.1 (.inr g) with a|a
    ·omega
    exact a
   intro g;have c:=i.1 _ g;rcases this.2 (.inr g) with a|a
   ·omega
   exact a
structure vo (bO:cO) (S:Nat->Prop) (T:cM) (gone:cV):Prop where
 BS:T.length=bO.length
 rows:∀v,(h:v<T.length)->T[v].length=bO.length
 jU:gone.length=bO.length
 Ie:∀v,(h:v<gone.length)->(gone[v]=true↔S v)
 Fs:∀u w,(abo:u<T.length)->(hw:w<T[u].length)->¬S u->¬S w->(T[u][w]=true↔u≠w/\gY (es bO) S u w)
def j2 (b:cM) (c:cV) (e d:Nat):cZ:=((List.range d).filter λa=>fe b e a&&!c.getD a false).map λ(a:Nat)=>(a:Int)
theorem Ea (c:vo f t u x) {v w:Nat} (m:v<f.length) (i:¬t v):(w:Int)∈j2 u x v f.length↔w<f.length/\¬t w/\v≠w/\gY (es f) t v w:=by
 unfold j2;simp only[bR,gr,gN,bd,vi];have k:∀w,w<f.length->((fe u v w=true/\x.getD w false=false)↔¬t w/\v≠w/\gY (es f) t v w):=by
  intro w j;have a:v<u.length:=(by rw[c.BS];exact m);have b:w<u[v].length:=(by rw[c.rows v a];exact j);have g:w<x.length:=(by rw[c.jU];exact j);have l:x.getD w false=x[w]:=(by simp[List.getD,g]);rw[tE a b,l,Bool.eq_false_iff,ne_eq,c.Ie w g];constructor
  ·rintro⟨d,e⟩;exact⟨e,(c.Fs v w a b i e).1 d⟩
  rintro⟨d,e⟩;exact⟨(c.Fs v w a b i d).2 e,d⟩
 constructor
 ·rintro⟨h,⟨a,b⟩,g⟩;obtain rfl:h=w:=U;exact⟨a,(k h a).1 b⟩
 exactλ⟨a,b⟩=>⟨w,⟨a,(k w a).2 b⟩,rfl⟩
theorem Ei (b:cM) (c:cV) (d a:Nat):(j2 b c d a).length<=a:=by unfold j2;rw[fL];exact da (hV _ _) ab
theorem Ej (c:d∈j2 u x b a):∃e:Nat,d=(e:Int)/\e<a:=by unfold j2 at c;simp only[bR,gr,gN] at c;obtain⟨f,⟨g,_⟩,h⟩:=c;exact⟨f,h.symm,g⟩
theorem FV (r:u.length=b) (n:∀a,(c:a<u.length)->u[a].length=b) (s:x.length=b) (v:b<=4294967296) (y:a<b):wG (some (u,x,()),(a:Int),())=some (j2 u x a b,()):=by
 rw[<-ac.eq_iff];unfold wG;have t:e8=4294967296:=rfl;simp only[ac.bT,ac.af];refine ac.mono (P:=λi=>i.1=j2 u x a b) ?_ (by rintro⟨h,_⟩ c;simp only at c;rw[c]);refine ac.for (i0:=0) b (λp q=>q.1=j2 u x a p) rfl rfl (dQ _) ?_ ?_
 ·rintro d ⟨h,_⟩ _ o e;simp only at e;have w:=Ei u x a d;simp only[aM];rw[ac.bS];refine⟨λ_=>?_,λf=>by simp at f;omega⟩;rw[ac.bT,ac.bT];have g:a<u.length:=U;have j:d<u[a].length:=(by rw[n a g];exact o);have k:ay u (a:Int)=some u[a]:=g4 (bo g);have l:ay u[a] (d:Int)=some u[a][d]:=g4 (bo j);have m:ay x (d:Int)=some (x.getD d false):=g4 (by rw[bo U];simp[List.getD,(U:d<x.length)]);refine ac.mono (P:=λi=>i=((fe u a d&&!x.getD d false),h,())) ?_ ?_
  ·simp only[k,l,m,ac.bT,ac.bS,ac.af,tE g j];refine⟨λc=>?_,λc=>?_⟩
   ·have c:u[a][d]=true:=(by simpa using c);rw[c];rfl
   have c:u[a][d]=false:=(by simpa using c);rw[c];rfl
  rintro _ rfl;simp only[ac.bS,ac.bT,ac.af,ac.qK];refine⟨λc=>⟨by rw[e];simp;omega,fo U,?_⟩,λc=>⟨fo U,?_⟩⟩
  ·unfold j2 at e|-;rw[k3,lw,gb,<-e];simp only[jH,tm];rw[if_pos c];rfl
  unfold j2 at e|-;rw[k3,lw,gb,<-e];simp only[jH,tm];rw[if_neg (by rw[c];simp)];simp
 rintro⟨h,_⟩ e;simp only at e;simp only[aM,ac.bS,ac.af];exact⟨λf=>by simp at f;omega,λ_=>e⟩
theorem RX (e:a<u.length) (h:b<u[a].length) (c d:Nat):fe (u.set a (u[a].set b true)) c d=(fe u c d||(c==a&&d==b)):=by
 unfold fe;simp only[List.getD,pQ];by_cases f:a=c
 ·subst f;rw[if_pos rfl,if_pos e,bo e];simp only[pW,pQ];by_cases g:b=d
  ·subst g;rw[if_pos rfl,if_pos h];simp
  rw[if_neg g];have:(d==b)=false:=(by rw[beq_eq_false_iff_ne];omega);simp[this]
 rw[if_neg f];have:(c==a)=false:=(by rw[beq_eq_false_iff_ne];omega);simp[this]
theorem Jp (a:cM) (b:cV) (d c:Nat):(j2 a b d c).Pairwise (· < ·):=BN _ _
theorem MY (V:u.length=a) (W:∀b,(c:b<u.length)->u[b].length=a) (av:x.length=a) (a3:a<=4294967296) (a4:b<a):ac (wF ((u,x,()),(b:Int),())) (λF=>F.1.2.1=x.set b true/\F.1.1.length=a/\(∀b,(c:b<F.1.1.length)->F.1.1[b].length=a)/\∀e d,e<a->d<a->(fe F.1.1 e d=true↔fe u e d=true\/((e:Int)∈j2 u x b a/\(d:Int)∈j2 u x b a/\e≠d))):=by
 unfold wF;simp only[FV V W av a3 a4,aM];have ad:=Ei u x b a;have M:∀J∈j2 u x b a,∃d:Nat,J=(d:Int)/\d<a:=λJ R=>Ej R;have N:=Jp u x b a;generalize j2 u x b a=h at ad M N;have bl:∀t v:Nat,(c:t<h.length)->(g:v<h.length)->h[t]=h[v]->t=v:=λt v c g L=>by
  rcases l3 t v with C|C|C
  ·have:=(gu.1 N) t v c g C;omega
  ·exact C
  have:=(gu.1 N) v t g c C;omega
 simp only[ac.bT];refine ac.mono (P:=λf:ch×Unit=>f.1.2.1=x/\f.1.1.length=a/\(∀b,(c:b<f.1.1.length)->f.1.1[b].length=a)/\∀e d,e<a->d<a->(fe f.1.1 e d=true↔fe u e d=true\/((e:Int)∈h/\(d:Int)∈h/\e≠d))) ?_ ?_
 ·refine ac.for (i0:=0) h.length (λq f=>f.1.2.1=x/\f.1.1.length=a/\(∀b,(c:b<f.1.1.length)->f.1.1[b].length=a)/\∀e d,e<a->d<a->(fe f.1.1 e d=true↔fe u e d=true\/((e:Int)∈h.take q/\(d:Int)∈h/\e≠d))) rfl ⟨rfl,V,W,λe d _ _=>by simp⟩ (dQ _) ?_ ?_
  ·rintro q ⟨⟨S,T,_⟩,_⟩ _ I ⟨m,n,o,p⟩;simp only at m n o p;simp only[ac.bS,ac.bT];refine⟨λ_=>?_,λs=>by simp at s;omega⟩;refine ac.mono (P:=λf:ch×Unit=>f.1.2.1=x/\f.1.1.length=a/\(∀b,(c:b<f.1.1.length)->f.1.1[b].length=a)/\∀e d,e<a->d<a->(fe f.1.1 e d=true↔fe u e d=true\/((e:Int)∈h.take (q+1)/\(d:Int)∈h/\e≠d))) ?_ (by rintro⟨L,_⟩ c;simp only[ac.af];exact⟨fo U,c⟩);obtain⟨l,H,bs⟩:=M _ (bQ I);refine ac.for (i0:=0) h.length (λy f=>f.1.2.1=x/\f.1.1.length=a/\(∀b,(c:b<f.1.1.length)->f.1.1[b].length=a)/\∀e d,e<a->d<a->(fe f.1.1 e d=true↔fe u e d=true\/((e:Int)∈h.take q/\(d:Int)∈h/\e≠d)\/(e=l/\(d:Int)∈h.take y/\e≠d))) rfl ⟨m,n,o,λe d j k=>by rw[p e d j k];simp⟩ (dQ _) ?_ ?_
   ·rintro y ⟨⟨K,X,_⟩,_⟩ _ E ⟨z,A,r,B⟩;simp only at z A r B;obtain⟨G,D,an⟩:=M _ (bQ E);have Y:ay h (q:Int)=some (l:Int):=g4 (by rw[bo I,H]);have Z:ay h (y:Int)=some (G:Int):=g4 (by rw[bo E,D]);have w:l<K.length:=U;have O:G<K[l].length:=(by rw[r l w];exact an);simp only[ac.bS,ac.bT,Y,Z,ac.af,ac.n3,ac.nT,ac.xh,de];refine⟨λ_=>⟨λQ=>⟨⟨U,w⟩,w,⟨U,O⟩,w,O,fo U,z,by simpa using A,λJ R=>?_,λe d j k=>?_⟩,λap=>⟨fo U,z,A,r,λe d j k=>?_⟩⟩,λs=>by simp at s;omega⟩
    ·rw[List.getElem_set];split
     ·rw[vw];exact r l w
     exact r J (by simpa using R)
    ·have Q:q≠y:=(by simp at Q;omega);have am:l≠G:=λL=>Q (bl q y I E (by rw[H,D,L]));rw[RX w O,fZ,B e d j k,<-mH E,D,dO,dP];simp only[bd,beq_iff_eq];constructor
     ·rintro((c|c|⟨c,g,i⟩)|⟨c,g⟩)
      ·exact .inl c
      ·exact .inr (.inl c)
      ·exact .inr (.inr ⟨c,.inl g,i⟩)
      exact .inr (.inr ⟨c,.inr U,U⟩)
     rintro(c|c|⟨c,g|g,i⟩)
     ·exact .inl (.inl c)
     ·exact .inl (.inr (.inl c))
     ·exact .inl (.inr (.inr ⟨c,g,i⟩))
     exact .inr ⟨c,U⟩
    have a0:q=y:=(by simp at ap;omega);have am:l=G:=(by subst a0;rw[H] at D;omega);rw[B e d j k,<-mH E,D,dO,dP];constructor
    ·rintro(c|c|⟨c,g,i⟩)
     ·exact .inl c
     ·exact .inr (.inl c)
     exact .inr (.inr ⟨c,.inl g,i⟩)
    rintro(c|c|⟨c,g|g,i⟩)
    ·exact .inl c
    ·exact .inr (.inl c)
    ·exact .inr (.inr ⟨c,g,i⟩)
    omega
   rintro⟨⟨K,X,_⟩,_⟩ ⟨z,A,r,B⟩;simp only at z A r B;simp only[ac.bS,ac.af];refine⟨λs=>by simp at s,λ_=>⟨z,A,r,λe d j k=>?_⟩⟩;rw[B e d j k,oK,<-mH I,H,dO,dP];constructor
   ·rintro(c|⟨c,g,i⟩|⟨c,g,i⟩)
    ·exact .inl c
    ·exact .inr ⟨.inl c,g,i⟩
    exact .inr ⟨.inr U,g,i⟩
   rintro(c|⟨c|c,g,i⟩)
   ·exact .inl c
   ·exact .inr (.inl ⟨c,g,i⟩)
   exact .inr (.inr ⟨U,g,i⟩)
  rintro⟨⟨S,T,_⟩,_⟩ ⟨m,n,o,p⟩;simp only at m n o p;simp only[ac.bS,ac.af];refine⟨λs=>by simp at s,λ_=>⟨m,n,o,λe d j k=>?_⟩⟩;rw[p e d j k,oK]
 rintro⟨⟨S,T,_⟩,_⟩ ⟨m,n,o,p⟩;simp only at m n o p;subst m;simp only[ac.bT,ac.n3,ac.nT,ac.af,ac.xh,de];exact⟨⟨U,U⟩,U,trivial,n,o,p⟩
theorem MX (I:eU f) (J:f.length<=4294967296) (c:vo f t u x) (n:a<f.length) (v:¬t a):ac (wF ((u,x,()),(a:Int),())) (λE=>vo f (λj=>t j\/j=a) E.1.1 E.1.2.1):=by
 refine(MY c.BS c.rows c.jU J n).mono ?_;rintro⟨⟨M,h,_⟩,_⟩ ⟨q,r,k,s⟩;simp only at q r k s|-;subst q;have z:=es.symm I;refine⟨r,k,by rw[vw];exact c.jU,λj N=>?_,λd g A o w y=>?_⟩
 ·rw[List.getElem_set];by_cases i:a=j
  ·rw[if_pos i];simp[i]
  rw[if_neg i,c.Ie];constructor
  ·exact .inl
  rintro(b|b)
  ·exact b
  exact absurd b.symm i
 have m:d<f.length:=U;have p:g<f.length:=(by rw[k d A] at o;exact o);have:=s d g m p;rw[tE A o] at this;have l:d<u.length:=(by rw[c.BS];exact m);have B:g<u[d].length:=(by rw[c.rows d l];exact p);have C:¬t d:=λb=>w (.inl b);have D:¬t g:=λb=>y (.inl b);have K:a≠d:=λb=>w (.inr b.symm);have L:a≠g:=λb=>y (.inr b.symm);rw[this,tE l B,c.Fs d g l B C D,Ea c n v,Ea c n v,gY.insert_iff];constructor
 ·rintro(⟨h,e⟩|⟨⟨_,_,_,e⟩,⟨_,_,_,G⟩,H⟩)
  ·exact⟨h,.inl e⟩
  exact⟨H,.inr ⟨e.symm z,G⟩⟩
 rintro⟨h,e|⟨e,F⟩⟩
 ·exact .inl ⟨h,e⟩
 exact .inr ⟨⟨m,C,K,e.symm z⟩,⟨p,D,L,F⟩,h⟩
theorem MO (g:eU f) (m:∀p∈f,p.length<4611686018427387904) (n:f.length<=200):ac (Ae ((f,()),())) (λj=>vo f (λ_=>False) j.1.1 j.1.2.1):=by
 unfold Ae;have q:e8=4294967296:=rfl;simp only[F9 m n (λd o=>(g.asc d o).2),aM,ac.bT,ac.uH,ac.af,de];refine⟨⟨U,U,U⟩,Fp f,λd l=>?_,ab,λd l=>by simp,λc e h i _ _=>?_⟩
 ·simp[mG]
 rw[gY.none];have b:c<f.length:=(by rw[Fp] at h;exact h);have r:e<f.length:=(by simp[mG] at i;exact i);have k:(mG f)[c][e]=decide ((e:Int)∈f[c]):=(by simp[mG,List.getD,b]);rw[k,decide_eq_true_eq];constructor
 ·exactλa=>⟨es.ne g ⟨b,a⟩,b,a⟩
 exactλa=>a.2.2
open Classical in
theorem Zd (k:eU f) (q:∀A∈f,A.length<4611686018427387904) (y:f.length<=200):Af ((f,()),())=some ((List.range f.length).map (aX f),0,()):=by
 rw[<-ac.eq_iff];unfold Af;have F:e8=4294967296:=rfl;have u:hy f=0:=(by unfold hy;rw[if_neg U,if_pos k]);simp only[E1 f q,u,aM,bne_self_eq_false,cond_false];simp only[ac.bT];refine(MO k q y).mono ?_;rintro⟨⟨h,i,_⟩,_⟩ d;simp only at d;simp only[ac.bT];refine ac.mono (P:=λC=>C.1=(List.range f.length).map (aX f)) ?_ (by rintro⟨H,_⟩ o;simp only at o;simp only[ac.af,o]);refine ac.for (i0:=0) f.length (λa n=>n.2.1=(List.range a).map (aX f)/\vo f (λc=>c<a) n.1.1 n.1.2.1) rfl ⟨rfl,?_⟩ (dQ _) ?_ ?_
 ·have:(λc:Nat=>c<0)=λ_=>False:=(by funext c;simp);rw[this];exact d
 ·rintro a ⟨⟨h,i,_⟩,B,_⟩ _ j ⟨g,d⟩;simp only at g d;have G:=Ei h i a f.length;have x:[(a:Int)]++j2 h i a f.length=aX f a:=by
   have m:=λe=>Ea d (v:=a) (w:=e) j (Nat.lt_irrefl a);refine Z1 ?_ (tJ f a) ?_
   ·rw[yj,mP];refine⟨λc b=>?_,Jp _ _ _ _⟩;obtain⟨e,rfl,_⟩:=Ej b;have:=(m e).1 b;omega
   intro c;constructor
   ·intro b;rw[yj,dh] at b;rcases b with rfl|b
    ·exact qT.2 ⟨j,.inl rfl⟩
    obtain⟨e,rfl,_⟩:=Ej b;have:=(m e).1 b;exact qT.2 ⟨this.1,.inr ⟨U,MD.2 this.2.2.2⟩⟩
   intro b;rw[yj,dh];have z:=b;unfold aX jO at b;simp only[bR] at b;obtain⟨e,_,rfl⟩:=b;obtain⟨r,s|⟨s,t⟩⟩:=qT.1 z
   ·exact .inl U
   exact .inr ((m e).2 ⟨r,U,U,MD.1 t⟩)
  rw[ac.bS];refine⟨λ_=>?_,λl=>by simp at l;omega⟩;simp only[FV d.BS d.rows d.jU (U:f.length<=4294967296) j,aM,ac.bT,ac.qK];refine⟨by simp;omega,by rw[g];simp;omega,?_⟩;refine(MX k U d j (Nat.lt_irrefl a)).mono ?_;rintro⟨⟨D,E,_⟩,_⟩ p;simp only at p;simp only[ac.af];refine⟨fo U,?_,?_⟩
  ·rw[g,x,k3,gb];rfl
  have:(λc:Nat=>c<a+1)=λc=>c<a\/c=a:=(by funext c;apply propext;omega);rw[this];exact p
 rintro⟨⟨h,i,_⟩,B,_⟩ ⟨g,_⟩;simp only at g;simp only[ac.bS,ac.af];exact⟨λl=>by simp at l,λ_=>g⟩
end
theorem yL:hy f=0↔f.length<=200/\eU f:=by
 unfold hy;by_cases a:200<f.length
 ·rw[if_pos a];constructor
  ·intro a;omega
  intro a;omega
 rw[if_neg a];by_cases b:eU f
 ·rw[if_pos b];exact⟨λ_=>⟨U,b⟩,λ_=>rfl⟩
 rw[if_neg b];exact⟨λa=>by omega,λa=>absurd a.2 b⟩
section
section
variable {P Q:Nat->Prop} {k:Nat}
end
def F2 (n:Nat) (f:Nat->Int):Prop:=∀a,a<n->f a=-1\/((a:Int)<f a/\f a<n)
section
variable {n:Nat} {f:Nat->Int} (A:F2 n f)
include A
end
end
section
def gF (a:cY):cZ:=a.map λ(b:Nat)=>(b:Int)
theorem Jm (a b:cY):gF (a++b)=gF a++gF b:=by simp[gF]
theorem uM (a:cY):(gF a).length=a.length:=by simp[gF]
section
variable {n:Nat} {f:Nat->Int} (A:F2 n f) (B:n<=200)
include A B
end
end
section
theorem m7 {b:List m} (d:a<b.length) (c:m):b.getD a c=b[a]:=by simp only[List.getD,bo d,pW]
section
variable {A:cO} (B:eU A) (C:A.length<=200)
include B C
end
end
structure rA {α:Type} (lt:α->α->Bool):Prop where
 RR:∀a b,lt a b=true->lt b a=false
 trans:∀a b c,lt b a=false->lt c b=false->lt c a=false
theorem rA.int:rA (λa b:Int=>decide (a<b)):=⟨λa b c=>by simp at c|-;omega,λa b f d e=>by simp at d e|-;omega⟩
def te {b:Type} (g:b->b->Bool) (c:Nat->b) (e f:Nat):Prop:=∀d a,d<a->a<=e->a≠f->g (c a) (c d)=false
def rC {b:Type} (f:b->b->Bool) (c:Nat->b) (e:Nat):Prop:=∀d a,d<a->a<e->f (c a) (c d)=false
def swp {c:Type} (b:Nat->c) (a:Nat):Nat->c:=eH (eH b a (b (a-1))) (a-1) (b a)
theorem L6 (b:Nat->m) (c:Nat):swp b a c=if c=a-1 then b a else if c=a then b (a-1) else b c:=rfl
theorem te.swp {k:Type} {h:k->k->Bool} (m:rA h) {f:Nat->k} {j a:Nat} (g:te h f j a) (q:0<a) (r:a<=j) (n:h (f a) (f (a-1))=true):te h (swp f a) j (a-1):=by
 intro e b p i o;rw[L6,L6,if_neg o];by_cases c:b=a
 ·subst c;rw[if_pos rfl];by_cases d:e=b-1
  ·rw[if_pos d];exact m.RR _ _ n
  rw[if_neg d,if_neg U];exact g e (b-1) U U U
 rw[if_neg c];by_cases d:e=a-1
 ·rw[if_pos d];exact g a b U i c
 rw[if_neg d];by_cases l:e=a
 ·rw[if_pos l];exact g (a-1) b U i c
 rw[if_neg l];exact g e b p i c
theorem te.done {e:m->m->Bool} (j:rA e) {d:Nat->m} (i:te e d b a) (n:a<=b) (c:a=0\/e (d a) (d (a-1))=false):rC e d (b+1):=by
 intro g f l o;by_cases h:f=a
 ·subst h;rcases c with c|c
  ·omega
  by_cases k:g=f-1
  ·subst k;exact c
  exact j.trans _ _ _ (i g (f-1) U U U) c
 exact i g f l U h
theorem aak {c:Nat->m} (g:0<a) (f:a<b):(aE b (swp c a)).Perm (aE b c):=by have d:a<(aE b c).length:=(by rw[bv];exact f);have e:a-1<(aE b c).length:=(by rw[bv];omega);have:=List.set_set_perm d e;rw[gB,gB,gS,gS] at this;exact this
theorem HN [Inhabited m] (a:List m):a=aE a.length (λb=>a[b]?.getD default):=TK a _ (λb c=>by simp[c])
theorem Us (b:cZ) (C:b.length<=1000):ac (zD (b,0,(b.length:Int),())) (λe=>∃a,e.1=aE b.length a/\rC (λf g=>decide (f<g)) a b.length/\e.1.Perm b):=by
 unfold zD;simp only[];generalize o:b.length=d at*;have u:IntKind.i64.wrap (0+1)=((1:Nat):Int):=(by rw[wrap64]<;>omega);rw[u];rcases h9 d with z|w
 ·subst z;refine ac.aU (P:=λe=>e.1=b) ?_ ?_
  ·refine ac.loop (λk=>k=(((1:Nat):Int),b,())) (λ_=>0) rfl ?_;rintro _ rfl;simp only[bu];rw[if_neg U];exact ac.af.2 rfl
  rintro⟨e,_⟩ rfl;refine ac.af.2 ⟨λ_=>0,?_,λp q r s=>by omega,List.Perm.refl _⟩;show e=[];exact lv o
 refine ac.aU (P:=λe=>∃a,e.1=aE d a/\rC (λf g=>decide (f<g)) a d/\e.1.Perm b) ?_ (λe y=>ac.af.2 y);refine ac.for d (λi A=>∃a,A=(aE d a,())/\rC (λf g=>decide (f<g)) a i/\(aE d a).Perm b) rfl ⟨λi=>b[i]?.getD default,?_,λp q r s=>by omega,?_⟩ w ?_ ?_
 ·rw[<-o,<-HN]
 ·rw[<-o,<-HN]
 ·rintro i _ r s ⟨a,rfl,j,h⟩;simp only[bu];rw[if_pos U];refine ac.aU (P:=λe=>∃a,e=(aE d a,())/\rC (λf g=>decide (f<g)) a (i+1)/\(aE d a).Perm b) ?_ ?_
  ·refine ac.loop (λk=>∃(c:Nat) (a:Nat->Int),k=((c:Int),aE d a,())/\c<=i/\te (λf g=>decide (f<g)) a i c/\(aE d a).Perm b) (λk=>k.1.toNat) ⟨i,a,rfl,a8 _,λp q x E D=>j p q x U,h⟩ ?_;rintro _ ⟨c,a,rfl,n,m,h⟩;simp only[Hi];by_cases t:0<c
   ·have B:c-1<d:=U;have v:c<d:=U;simp(disch:=omega) only[if_pos,bv,MH,eO,fj,aM,FU,bu];by_cases l:a c<a (c-1)
    ·rw[if_pos l];simp(disch:=omega) only[aM,bv,MH,eO,fj,gS];refine ac.af.2 ⟨⟨c-1,swp a c,rfl,U,m.swp rA.int t n (by simpa using l),(aak t v).trans h⟩,?_⟩;show((c-1:Nat):Int).toNat<((c:Nat):Int).toNat;omega
    rw[if_neg l];exact ac.af.2 ⟨a,rfl,m.done rA.int n (.inr (by simpa using l)),h⟩
   rw[if_neg U];exact ac.af.2 ⟨a,rfl,m.done rA.int n (.inl U),h⟩
  rintro _ ⟨a,rfl,j,h⟩;simp(disch:=omega) only[ri];exact ac.af.2 ⟨rfl,a,rfl,j,h⟩
 rintro _ ⟨a,rfl,j,h⟩;simp only[bu];rw[if_neg U];exact ac.af.2 ⟨a,rfl,j,h⟩
theorem rC.pairwise {b:Nat->Int} (e:rC (λc d=>decide (c<d)) b a):(aE a b).Pairwise (· <= ·):=by rw[gu];intro h i j g f;rw[gB,gB];have:=e h i f (by simpa[bv] using g);simpa using this
theorem Rc (a:Nat) (c:a<=12):∃b,CR ((a:Int),())=some (b,()):=by
 have:a=0\/a=1\/a=2\/a=3\/a=4\/a=5\/a=6\/a=7\/a=8\/a=9\/a=10\/a=11\/a=12:=U;rcases this with rfl|rfl|rfl|rfl|rfl|rfl|rfl|rfl|rfl|rfl|rfl|rfl|rfl
 ·exact⟨0,by kernel_rfl⟩
 ·exact⟨1,by kernel_rfl⟩
 ·exact⟨2,by kernel_rfl⟩
 ·exact⟨2,by kernel_rfl⟩
 ·exact⟨3,by kernel_rfl⟩
 ·exact⟨3,by kernel_rfl⟩
 ·exact⟨3,by kernel_rfl⟩
 ·exact⟨3,by kernel_rfl⟩
 ·exact⟨4,by kernel_rfl⟩
 ·exact⟨4,by kernel_rfl⟩
 ·exact⟨4,by kernel_rfl⟩
 ·exact⟨4,by kernel_rfl⟩
 exact⟨4,by kernel_rfl⟩
theorem Yu (a:cZ) (c:Int) (j:a.length<=12):ac (zF (a,0,(a.length:Int),c,())) (λb=>b.1.Pairwise (· <= ·)/\b.1.Perm a):=by obtain⟨b,g,i,f,e,d⟩:=Us a U;refine⟨b,?_,by rw[f];exact e.pairwise,d⟩;unfold zF;dsimp only;rw[U6];dsimp only;have h:IntKind.i64.wrap ((a.length:Int)-0)=((a.length:Nat):Int):=(by rw[Int.sub_zero];exact aa9 U);simp only[h,bu];rw[if_pos U,g];rfl
theorem Rq (a:cZ) (c:a.length<=12):ac (wc (a,())) (λb=>b.1.Pairwise (· <= ·)/\b.1.Perm a):=by unfold wc;simp only[];rw[MG _ U U];obtain⟨d,e⟩:=Rc a.length c;rw[e];simp only[aM];exact ac.aU (Yu a d c) (λb f=>ac.af.2 f)
section
open Go
theorem SA (p:c.Pairwise (· <= ·)):(Lib.compact c).length<c.length↔¬c.Nodup:=by
 have n:(Lib.compact c).length=((List.range c.length).filter (Lib.keeps c.toArray)).length:=(by simp[Lib.compact,Lib.compactUpTo]);have l:(∀a,a<c.length->Lib.keeps c.toArray a=true)↔c.Nodup:=by
  have j:∀a,(b:a<c.length)->(Lib.keeps c.toArray a=true↔a=0\/c[a]≠c[a-1]):=λa b=>(by have g:a-1<c.length:=U;simp[Lib.keeps,b,g]);constructor
  ·intro b;have o:c.Pairwise (· < ·):=by
    rw[EM];intro f i;have d:=(j (f+1) i).1 (b _ i);have g:=gu.1 p f (f+1) U i U;have q:c[f+1]≠c[f]:=by rcases d with d|d;omega;exact d
    omega
   exact o.imp (λb=>by omega)
  intro b a e;rw[j a e];by_cases k:a=0
  ·exact .inl k
  refine .inr λh=>?_;have:=(List.getElem_inj b).1 h;omega
 rw[<-l,n];have m:=hV (Lib.keeps c.toArray) (List.range c.length);rw[nG] at m;constructor
 ·intro b g;rw[l0.2 (λa e=>g a (gN.1 e)),nG] at b;omega
 intro b;rcases bp ((List.range c.length).filter (Lib.keeps c.toArray)).length c.length with d|d
 ·exact d
 refine absurd (λa e=>?_) b;have h:((List.range c.length).filter (Lib.keeps c.toArray)).length=(List.range c.length).length:=(by rw[nG];omega);exact List.length_filter_eq_length_iff.1 h a (gN.2 e)
theorem aaE (a:cZ) (e:a.length<=12):zg (a,())=some (decide (¬a.Nodup),()):=by obtain⟨c,g,h,b⟩:=Rq a e;have f:=b.length_eq;unfold zg x3;simp only[g,fB,aM];rw[show Nat.ble a.length 1000000=true from Nat.ble_eq_true_of_le U];simp only[cond_true];rw[show Nat.ble c.1.length 1000000=true from Nat.ble_eq_true_of_le U];simp only[cond_true,fB];have d:decide ((Lib.compact c.1).length<a.length)=decide (¬a.Nodup):=(by rw[decide_eq_decide,<-f,SA h,b.nodup_iff]);rw[d]
def gD (a:Nat) (b:Nat->Nat->Bool):cM:=aE a λc=>aE a (b c)
theorem xe (a:Nat) (b:Nat->Nat->Bool):(gD a b).length=a:=bv a _
theorem uG {d:Nat->Nat->Bool} (e:∀b c,b<a->c<a->k b c=d b c):gD a k=gD a d:=dz λb f=>dz λc g=>e b c f g
theorem FW (a:Nat) (g:a<=4294967296):vY ((a:Int),())=some (gD a λ_ _=>false,()):=by
 unfold vY;simp only[];rw[gE g];simp only[aM];refine ai (y:=(gD a λ_ _=>false,())) (xb a (λc=>(aE a (λb=>if b<c then List.replicate a false else[]),())) 0 rfl ?_ (dQ _) ?_ ?_) rfl
 ·rw[iB];simp
 ·intro c _ h;simp(disch:=omega) only[bv,oJ,bu,if_pos,aM,eO,fj,gS,ri];congr 4;refine dz λb f=>?_;simp only[eH];by_cases d:b=c
  ·subst d;rw[if_pos rfl,if_pos U]
  rw[if_neg d];by_cases e:b<c
  ·rw[if_pos e,if_pos U]
  rw[if_neg e,if_neg U]
 simp only[oJ,bu];rw[if_neg U];congr 2;refine congrArg (·,()) (dz λb f=>?_);rw[if_pos f,iB]
theorem FR {n:Nat} {B:Nat->Nat->Bool} {i j:Nat} (o:i<n) (p:j<n):v5 (gD n B,(i:Int),(j:Int),())=some (gD n (λb a=>B b a||(decide (i≠j)&&((decide (b=i)&&decide (a=j))||(decide (b=j)&&decide (a=i))))),()):=by
 unfold v5;simp only[bY];by_cases c:i=j
 ·subst c;simp only[decide_true,i6,cond_false];congr 2;exact uG λb a _ _=>by simp
 rw[aw (U:¬((i:Int)=(j:Int)))];unfold gD;simp(disch:=omega) only[kx,cond_true,bv,eO,aM,fj,fB,gS];rw[show eH (λl=>aE n (B l)) i (aE n (eH (B i) j true)) j=aE n (B j) from iq _ _ (λf=>c f.symm)];simp(disch:=omega) only[bv,eO,aM,fj,fB,gS];congr 2;refine dz λb m=>?_;simp only[eH];by_cases d:b=j
 ·rw[if_pos d,d];refine dz λa k=>?_;simp only[eH];have h:¬j=i:=λf=>c f.symm;by_cases e:a=i
  ·simp[e,h,c]
  simp[e,h,c]
 rw[if_neg d];by_cases g:b=i
 ·subst g;rw[if_pos rfl];refine dz λa k=>?_;simp only[eH];by_cases e:a=j
  ·simp[e,c]
  simp[e,d]
 rw[if_neg g];refine dz λa k=>?_;simp[d,g]
theorem Re (i:b<=4294967296) (f:a<b):zd (gD b k,(a:Int),())=some (gF ((List.range b).filter (k a)),()):=by
 unfold zd;simp only[];rw[show ay (gD b k) (a:Int)=some (aE b (k a)) from H8 f];simp only[aM];refine ai (y:=(gF ((List.range b).filter (k a)),())) (xb b (λc=>(gF ((List.range c).filter (k a)),())) 0 rfl rfl (dQ _) ?_ ?_) rfl
 ·intro c _ g;have h:(gF ((List.range c).filter (k a))).length<=c:=(by rw[uM];have:=hV (k a) (List.range c);simpa using this);have e:gF ((List.range (c+1)).filter (k a))=if k a c=true then gF ((List.range c).filter (k a))++[(c:Int)] else gF ((List.range c).filter (k a)):=by
   rw[k3,lw,Jm];by_cases d:k a c=true<;>simp[d,gF]
  simp(disch:=omega) only[bv,bu,if_pos,H8,aM,ri];rw[e];by_cases d:k a c=true
  ·rw[if_pos d,d,dU (by simp only[List.length_singleton];omega)];rfl
  rw[if_neg d,Bool.eq_false_iff.2 d];rfl
 simp only[bv,bu];rw[if_neg U]
def iC (a:Nat) (b:Nat->Nat->Bool):cO:=aE a λc=>gF ((List.range a).filter (b c))
theorem FO (g:a<=4294967296):v2 (gD a k,())=some ((iC a k,()),()):=by
 unfold v2;simp only[xe];rw[gE g];simp only[aM];refine ai (y:=(([],()),(iC a k,()),())) (xb a (λc=>(([],()),(aE a (λb=>if b<c then gF ((List.range a).filter (k b)) else[]),()),())) 0 rfl ?_ (dQ _) ?_ ?_) rfl
 ·rw[iB];simp
 ·intro c _ h;simp(disch:=omega) only[bu,if_pos,Re,aM,bv,eO,fj,fB,gS,ri];congr 6;refine dz λb f=>?_;simp only[eH];by_cases d:b=c
  ·subst d;rw[if_pos rfl,if_pos U]
  rw[if_neg d];by_cases e:b<c
  ·rw[if_pos e,if_pos U]
  rw[if_neg e,if_neg U]
 simp only[bu];rw[if_neg U];have:(aE a λb=>if b<a then gF ((List.range a).filter (k b)) else[])=iC a k:=dz λb f=>(by rw[if_pos f]);rw[this]
end
section
open Go
def dT (a:cZ) (b:Nat):Prop:=a.length=b/\(∀c∈a,0<=c/\c<(b:Int))/\a.Nodup
open Classical in
theorem Rh (a:cZ) (d:Nat) (D:d<=4294967296):zL (a,(d:Int),())=some (decide (dT a d),()):=by
 unfold zL;simp only[bY];by_cases t:a.length=d
 ·rw[az (U:(((a.length:Nat):Int)=(d:Int)))];simp only[i6,cond_false,gE D,aM,iB];rw[<-ac.eq_iff];refine ac.aU (P:=λm=>match m with|.inl _=>dT a d|.inr F=>F=(false,())/\¬dT a d) ?_ ?_
  ·refine ac.for d (λb G=>G=(aE d (λn=>decide ((n:Int)∈a.take b)),())/\(∀e,(c:e<a.length)->e<b->0<=a[e]/\a[e]<(d:Int))/\(a.take b).Nodup) (i0:=0) rfl ⟨ab,λe _ c=>by omega,ab⟩ (dQ _) ?_ ?_
   ·rintro b _ _ J ⟨rfl,l,h⟩;have j:b<a.length:=U;have s:ay a (b:Int)=some a[b]:=g4 (bo j);have v:a[b]∈a:=bQ j;simp(disch:=omega) only[bu,if_pos,s,aM,Hj];by_cases o:a[b]<0
    ·rw[if_pos o];exact ac.af.2 ⟨rfl,λc=>by have:=c.2.1 _ v;omega⟩
    rw[if_neg o];by_cases p:a[b]>=(d:Int)
    ·rw[if_pos p];exact ac.af.2 ⟨rfl,λc=>by have:=c.2.1 _ v;omega⟩
    rw[if_neg p];obtain⟨f,i⟩:∃f:Nat,a[b]=(f:Int):=⟨a[b].toNat,U⟩;have L:f<d:=U;rw[i];simp(disch:=omega) only[bv,eO,aM,fj,bu];by_cases g:(f:Int)∈a.take b
    ·rw[if_pos g];refine ac.af.2 ⟨rfl,λc=>?_⟩;obtain⟨x,C,u⟩:=ha.1 g;simp only[dX] at C;simp only[vv] at u;have:=(List.getElem_inj c.2.2).1 (u.trans i.symm);omega
    rw[if_neg g];simp(disch:=omega) only[aM,s,i,bv,eO,fj,gS,ri];have w:a.take (b+1)=a.take b++[(f:Int)]:=(by rw[<-mH j,i]);refine ac.af.2 ⟨rfl,?_,λe A K=>?_,?_⟩
    ·show((_,()):_×Unit)=_;refine congrArg (·,()) (dz λn _=>?_);simp only[eH];rw[w];by_cases c:n=f
     ·subst c;rw[if_pos rfl,az (k2 _ (List.mem_singleton_self _))]
     rw[if_neg c,decide_eq_decide,dO,dP];exact⟨.inl,λz=>z.resolve_right U⟩
    ·by_cases c:e=b
     ·subst c;omega
     exact l e A U
    rw[w,hF];refine⟨h,ab,λH q I r y=>?_⟩;rw[dP] at r;rw[y,r] at q;exact g q
   rintro _ ⟨rfl,l,h⟩;simp(disch:=omega) only[bu,if_neg];refine ac.af.2 ⟨t,λM E=>?_,?_⟩
   ·obtain⟨x,B,rfl⟩:=ha.1 E;exact l x B U
   rw[c9 U] at h;exact h
  rintro(m|m) k
  ·exact ac.af.2 (by rw[az (show dT a d from k)])
  exact ac.af.2 (by rw[k.1,aw k.2])
 rw[aw (U:¬(((a.length:Nat):Int)=(d:Int)))];simp only[kx,cond_true];rw[aw (λc=>t c.1)]
def mC (a:cO) (b:cZ):Int:=open Classical in if hy a≠0 then hy a else if b.length≠a.length then 2 else if dT b a.length then 0 else 90
theorem Ze (d:∀i∈f,i.length<4611686018427387904) (a:cZ):wC ((f,()),a,())=some (if mC f a=0 then((h2 (h3 f a),()),0,()) else(([],()),mC f a,())):=by
 classical
 unfold wC mC;simp only[E1 f d,aM,bY];by_cases c:hy f=0
 ·obtain⟨h,g⟩:=yL.1 c;rw[az c];simp only[i6,cond_false,c,ne_eq,not_true_eq_false,if_false];by_cases e:a.length=f.length
  ·rw[az (U:(((a.length:Nat):Int)=((f.length:Nat):Int)))];simp only[i6,cond_false,e,not_true_eq_false,if_false];rw[Rh a f.length U];simp only[aM];by_cases b:dT a f.length
   ·rw[az b];simp only[i6,cond_false,if_pos b,if_true];rw[Q9 g d h b.2.1 b.2.2 U];rfl
   rw[aw b];simp only[kx,cond_true,if_neg b];rw[if_neg U]
  rw[aw (U:¬(((a.length:Nat):Int)=((f.length:Nat):Int)))];simp only[kx,cond_true,e,not_false_eq_true,if_true];rw[if_neg U]
 rw[aw c];simp only[kx,cond_true,c,ne_eq,not_false_eq_true,if_true,if_false]
theorem aa3 (d:cO) (c:Int):zh ((d,()),c,())=some (decide (0<=c/\c<(d.length:Int)),()):=by
 unfold zh;simp only[Hi];by_cases b:c>=0
 ·rw[if_pos b];congr 2;exact decide_eq_decide.2 ⟨λa=>⟨b,a⟩,λa=>a.2⟩
 rw[if_neg b,aw (λa=>b a.1)]
theorem Yk (e:cO) (a:cZ) (n:a.length<4611686018427387904):zB (a,(some (e,()),()),())=some (decide (¬∀d∈a,0<=d/\d<(e.length:Int)),()):=by
 classical
 unfold zB CV;simp only[];rw[<-ac.eq_iff];have h:(∀d∈a,0<=d/\d<(e.length:Int))↔∀c,c<a.length->∀b:c<a.length,0<=a[c]/\a[c]<(e.length:Int):=
  ⟨λb c _ f=>b _ (bQ f),λb d m=>by obtain⟨c,f,rfl⟩:=ha.1 m;exact b c f f⟩
 refine ac.aU (P:=λj=>decide (j.1>=0)=decide (¬∀d∈a,0<=d/\d<(e.length:Int))) ?_ (λj l=>ac.af.2 (by rw[l]));refine ac.aU (U5 a.length (λc=>∀b:c<a.length,0<=a[c]/\a[c]<(e.length:Int)) ?_ ?_) ?_
 ·intro c f;simp(disch:=omega) only[bu,if_pos,g4 (bo f),aM,ri];unfold CP;simp only[aM,aa3];by_cases b:0<=a[c]/\a[c]<(e.length:Int)
  ·rw[az b,if_pos (λ_=>b)];rfl
  rw[aw b,if_neg (λk=>b (k f))];rfl
 ·simp(disch:=omega) only[bu,if_neg]
 rintro(i|i) g
 ·refine ac.af.2 ?_;rw[aw aa,aw (λb=>b (h.2 g))]
 refine ac.af.2 ?_;rw[az (show i.1>=0 from g.1),az (show¬∀d∈a,0<=d/\d<(e.length:Int) fromλb=>g.2 (h.1 b))]
theorem Rj (j:∀n∈f,n.length<4611686018427387904) (a:cZ) (l:f.length<=200->eU f->f.length<=12) (m:a.length<4611686018427387904):zc ((f,()),a,())=some (mC f a,()):=by
 classical
 unfold zc mC;simp only[FH f j,aM,bY];by_cases b:hy f=0
 ·obtain⟨k,i⟩:=yL.1 b;have o:=l k i;rw[az b];simp only[i6,cond_false,b,ne_eq,not_true_eq_false,if_false];by_cases g:a.length=f.length
  ·rw[az (U:(((a.length:Nat):Int)=((f.length:Nat):Int)))];simp only[i6,cond_false,g,not_true_eq_false,if_false];rw[Yk f a m];simp only[aM];by_cases c:∀h∈a,0<=h/\h<(f.length:Int)
   ·rw[aw (not_not_intro c)];simp only[beq_self_eq_true,cond_true];rw[aaE a U];simp only[aM,bu];by_cases d:a.Nodup
    ·rw[if_neg (not_not_intro d),if_pos ⟨g,c,d⟩]
    rw[if_pos d,if_neg (λe=>d e.2.2)]
   rw[az c,if_neg (λe=>c e.2.1)];rfl
  rw[aw (U:¬(((a.length:Nat):Int)=((f.length:Nat):Int)))];simp only[kx,cond_true,g,not_false_eq_true,if_true]
 rw[aw b];simp only[kx,cond_true,b,ne_eq,not_false_eq_true,if_true]
end
section
open Go
def n4 (c:cO) (a:cZ) (b d:Nat):Bool:=decide (a.getD d 0∈c.getD (a.getD b 0).toNat [])
theorem Is (r:eU f) (n:∀d∈c,0<=d/\d<(f.length:Int)) (l:a<c.length) (m:b<c.length):n4 f c a b=n4 f c b a:=by have j:=n _ (bQ l);have k:=n _ (bQ m);have p:∀d e:Int,0<=d/\d<(f.length:Int)->0<=e/\e<(f.length:Int)->e∈f.getD d.toNat []->d∈f.getD e.toNat []:=λd e t u i=>(by obtain⟨g,rfl⟩:∃g:Nat,d=(g:Int):=⟨d.toNat,U⟩;obtain⟨h,rfl⟩:∃h:Nat,e=(h:Int):=⟨e.toNat,U⟩;simp only[de] at i|-;have o:g<f.length:=U;have s:h<f.length:=U;rw[m7 o] at i;obtain⟨_,q⟩:=es.symm r g h ⟨o,i⟩;rw[m7 s];exact q);unfold n4;rw[m7 l,m7 m];exact decide_eq_decide.2 ⟨p _ _ j k,p _ _ k j⟩
theorem T2 (i:eU f) (j:∀g∈c,0<=g/\g<(f.length:Int)):iC c.length (λd e=>decide (d≠e)&&n4 f c d e)=h2 (h3 f c):=by unfold iC h2;rw[uv];refine hW λk a=>?_;have a:=gN.1 a;unfold gF kQ;refine congrArg _ (vt λl b=>?_);have b:=gN.1 b;rw[yF a b,yF b a];have:=Is i j a b;unfold n4 at this|-;rw[<-this,Bool.or_self];by_cases h:k=l<;>simp[h]
theorem Up (u:eU f) (F:∀c∈f,c.length<4611686018427387904) (w:∀C∈c,0<=C/\C<(f.length:Int)) (K:c.length<=400):zf ((f,()),c,())=some ((h2 (h3 f c),()),()):=by
 generalize o:c.length=j at*
 let i:Nat->Nat->Nat->Nat->Bool:=λa b d e=>decide (d≠e)&&(n4 f c d e&&((decide (d<a)&&decide (e<a))||((decide (d=a)&&decide (e<b))||(decide (e=a)&&decide (d<b)))))
 unfold zf;simp only[o];rw[FW j U];simp only[aM];refine ai (y:=(([],()),gD j (i j 0),())) (xb j (λa=>(([],()),gD j (i a 0),())) 0 rfl ?_ (dQ _) ?_ ?_) ?_
 ·refine congrArg (λl=>(([],()),l,())) (uG λd e _ _=>?_);simp[i]
 ·intro a _ I;have r:a<c.length:=U;have G:ay c (a:Int)=some c[a]:=g4 (bo r);have h:=w _ (bQ r);obtain⟨k,s⟩:∃k:Nat,c[a]=(k:Int):=⟨c[a].toNat,U⟩;have t:k<f.length:=U;simp(disch:=omega) only[bu,if_pos,G,aM,uN,o,w8,fB,s,lu];have B:(c.take a).length=a:=(by rw[dX];omega);refine ai (y:=(([],()),gD j (i a a),())) (xb a (λb=>(([],()),gD j (i a b),())) 0 rfl rfl (dQ _) ?_ ?_) ?_
  ·intro b _ J;have v:b<c.length:=U;have H:ay (c.take a) (b:Int)=some c[b]:=g4 (by rw[k1 J];exact bo v);simp(disch:=omega) only[B,bu,if_pos,H,aM,ri];rw[DN f k c[b] t (F _ (bQ t)) ((Cm f).1 u k t).1];simp only[aM,bu];have n:n4 f c a b=decide (c[b]∈f[k]):=by
    unfold n4;rw[m7 r,m7 v,s,de,m7 t]
   have q:n4 f c b a=decide (c[b]∈f[k]):=(by rw[<-n];exact Is u (by simpa[o] using w) v r);by_cases p:c[b]∈f[k]
   ·rw[if_pos p,FR I U];simp only[aM];refine congrArg (λl=>some (Sum.inl (((b+1:Nat):Int),([],()),l,()))) (uG λd e _ _=>?_);rw[az p] at n q;simp only[i];rw[lX];simp only[fZ,bd,decide_eq_true_eq];constructor
    ·rintro(⟨h,g,m⟩|⟨h,⟨rfl,rfl⟩|⟨rfl,rfl⟩⟩)
     ·exact⟨h,g,U⟩
     ·exact⟨U,n,U⟩
     exact⟨U,q,U⟩
    rintro⟨h,g,m⟩;by_cases D:(d=a/\e=b)\/(d=b/\e=a)
    ·exact .inr ⟨U,D⟩
    exact .inl ⟨h,g,U⟩
   rw[if_neg p];simp only[aM];refine congrArg (λl=>some (Sum.inl (((b+1:Nat):Int),([],()),l,()))) (uG λd e _ _=>?_);rw[aw p] at n q;simp only[i];rw[lX];simp only[fZ,bd,decide_eq_true_eq];constructor
   ·rintro⟨h,g,m⟩;exact⟨h,g,U⟩
   rintro⟨h,g,m⟩;refine⟨h,g,?_⟩;by_cases z:d=a/\e=b
   ·rw[z.1,z.2,n] at g;cases g
   by_cases A:d=b/\e=a
   ·rw[A.1,A.2,q] at g;cases g
   omega
  ·simp(disch:=omega) only[B,bu,if_neg]
  simp(disch:=omega) only[ri];refine congrArg (λl=>some (Sum.inl (((a+1:Nat):Int),([],()),l,()))) (uG λd e _ _=>?_);simp only[i];rw[lX];simp only[fZ,bd,decide_eq_true_eq];constructor
  ·rintro⟨h,g,m⟩;exact⟨h,g,U⟩
  rintro⟨h,g,m⟩;exact⟨h,g,U⟩
 ·simp(disch:=omega) only[bu,if_neg]
 rw[FO U];simp only[aM];have E:iC j (i j 0)=iC j (λd e=>decide (d≠e)&&n4 f c d e):=(by refine dz λk s=>congrArg gF (vt λL x=>?_);have x:=gN.1 x;simp[i,s,x]);rw[E,<-o,T2 u (by simpa[o] using w)]
theorem Rn (g:∀l∈f,l.length<4611686018427387904) (b:cZ) (j:f.length<=200->eU f->f.length<=12) (k:b.length<4611686018427387904):vZ ((f,()),b,())=some (if mC f b=0 then((h2 (h3 f b),()),0,()) else(([],()),mC f b,())):=by
 classical
 unfold vZ;simp only[Rj g b j k,aM,bY];by_cases a:mC f b=0
 ·rw[az a,if_pos a];simp only[i6,cond_false];have e:hy f=0:=by
   by_cases d:hy f=0
   ·exact d
   unfold mC at a;rw[if_pos d] at a;exact absurd a d
  obtain⟨m,i⟩:=yL.1 e;have c:dT b f.length:=by
   unfold mC at a;rw[if_neg (not_not_intro e)] at a;by_cases h:b.length=f.length
   ·rw[if_neg (not_not_intro h)] at a;by_cases c:dT b f.length
    ·exact c
    rw[if_neg c] at a;omega
   rw[if_pos h] at a;omega
  rw[Up i g c.2.1 (by have:=c.1;omega)];rfl
 rw[aw a,if_neg a];rfl
end
def iE (E:List bz) (b c:Nat):Bool:=E.any λa=>decide (a.1≠a.2.1)&&((decide ((b:Int)=a.1)&&decide ((c:Int)=a.2.1))||(decide ((b:Int)=a.2.1)&&decide ((c:Int)=a.1)))
def j7 (E:List bz) (b c:Nat):Bool:=E.any λa=>decide ((b:Int)=a.1)&&decide ((c:Int)=a.2.1)
theorem Cu {b:m->Bool} {E:List m} (c:a<E.length):(E.take (a+1)).any b=((E.take a).any b||b E[a]):=by rw[hq,bo c,List.any_append];simp
theorem Vd (a:Nat) (d:Nat->Nat->Bool) (e:∀b c,d b c=false):(List.replicate a (List.replicate a false))=gD a d:=by unfold gD;rw[iB];refine dz λb _=>?_;rw[iB];exact dz λc _=>(e b c).symm
theorem GV (c:b<a) (d:i<a):fe (gD a k) b i=k b i:=by unfold fe gD;rw[iK,iK,um c];show(aE a (k b))[i]?.getD false=_;rw[um d];rfl
theorem H0 (f:Nat) (d:Nat->Nat->Bool):h2 (gD f d)=iC f λb c=>b !=c&&(d b c||d c b):=by unfold h2;rw[xe];refine dz λb e=>?_;unfold kQ gF;congr 1;refine vt λc a=>?_;have a:=gN.1 a;rw[GV e a,GV a e]
theorem Iz {E:List bz} (e f:Nat):(e !=f&&(j7 E e f||j7 E f e))=iE E e f:=by
 induction E with
 |nil=>simp[j7,iE]
 |cons h E g=>
  unfold j7 iE at*;simp only[List.any_cons];rw[<-g,lX];simp only[bd,fZ,bne_iff_ne,decide_eq_true_eq];constructor
  ·rintro⟨d,(⟨b,c⟩|a)|(⟨b,c⟩|a)⟩
   ·exact .inl ⟨U,.inl ⟨b,c⟩⟩
   ·exact .inr ⟨d,.inl a⟩
   ·exact .inl ⟨U,.inr ⟨c,b⟩⟩
   exact .inr ⟨d,.inr a⟩
  rintro(⟨d,⟨b,c⟩|⟨b,c⟩⟩|⟨d,a|a⟩)
  ·exact⟨U,.inl (.inl ⟨b,c⟩)⟩
  ·exact⟨U,.inr (.inl ⟨c,b⟩)⟩
  ·exact⟨d,.inl (.inr a)⟩
  exact⟨d,.inr (.inr a)⟩
theorem Q5 (f:fD a a g c h) (p:eW a a g c h=0):vX (((a:Int),(a:Int),g,c,h,()),())=some ((iC a (iE (bJ g c h a)),()),0,()):=by
 have m:=(jj.1 p).1;have u:=si m;have y:(bJ g c h a).length<=10000:=(by rw[wP m a (Nat.le_refl _)];have:=m.n8 a (Nat.le_refl _);have:=f.hi;omega);unfold vX;refine ai f.check ?_;dsimp only;rw[p,bY,az rfl,bY,az rfl];have x:=f.hc;refine ai (FW a U) (ai (MZ f p) ?_);dsimp only;generalize bJ g c h a=E at*;refine ac.eq_iff.1 ?_;refine ac.aU (P:=λv=>v=(([],()),gD a (iE E),())) ?_ ?_
 ·refine ac.steps E.length (λb w=>w=((b:Int),([],()),gD a (iE (E.take b)),E,())) rfl ?_ ?_
  ·rintro b _ o rfl;dsimp only;rw[bc (az (show(b:Int)<aq E by simp only[aW];omega)),jv o,bg U];have t:=u E[b] (List.getElem_mem o);obtain⟨d,q⟩:=Int.eq_ofNat_of_zero_le t.1;obtain⟨e,r⟩:=Int.eq_ofNat_of_zero_le t.2.2.1;have s:=FR (n:=a) (B:=iE (E.take b)) (i:=d) (j:=e) U U;rw[<-q,<-r] at s;refine ac.bs s (ac.af.2 ?_);dsimp only;have:gD a (λk l=>iE (E.take b) k l||(decide (d≠e)&&((decide (k=d)&&decide (l=e))||(decide (k=e)&&decide (l=d)))))=gD a (iE (E.take (b+1))):=by
    refine uG λz A _ _=>?_;unfold iE;rw[Cu o,q,r];congr 1;rw[lX];simp only[bd,fZ,decide_eq_true_eq];omega
   rw[this]
  rintro _ rfl;dsimp only;rw[a6 (aw (show¬((E.length:Int)<aq E) by simp only[aW];omega)),List.take_of_length_le (Nat.le_refl _)];exact ac.af.2 rfl
 rintro _ rfl;dsimp only;exact ac.bs (FO U) (ac.af.2 rfl)
theorem YR (k:fD a a g c h) (o:eW a a g c h=0):Ac (((a:Int),(a:Int),g,c,h,()),())=some ((iC a (iE (bJ g c h a)),()),0,()):=by
 have l:=(jj.1 o).1;have u:=si l;have A:(bJ g c h a).length<=10000:=(by rw[wP l a (Nat.le_refl _)];have:=l.n8 a (Nat.le_refl _);have:=k.hi;omega);unfold Ac;refine ai k.uX ?_;dsimp only;rw[o,bY,az rfl,bY,az rfl];have z:=k.hc;refine ai (HC a U) (ai (K6 k o) ?_);dsimp only;generalize bJ g c h a=E at*;refine ac.eq_iff.1 ?_;refine ac.aU (P:=λx=>x=(([],()),gD a (j7 E),())) ?_ ?_
 ·refine ac.steps E.length (λe y=>y=((e:Int),([],()),gD a (j7 (E.take e)),())) ?_ ?_ ?_
  ·rw[Vd a (j7 (E.take 0)) λb d=>rfl];rfl
  ·rintro e _ i rfl;dsimp only;rw[bc (az (show(e:Int)<aq E by simp only[aW];omega)),bg U];have t:=u E[e] (List.getElem_mem i);obtain⟨f,m⟩:=Int.eq_ofNat_of_zero_le t.1;obtain⟨j,n⟩:=Int.eq_ofNat_of_zero_le t.2.2.1;have r:f<a:=U;have v:j<a:=U;refine ac.bs (bM i) ?_;rw[m];refine ac.bs (eO (by rw[xe];omega)) (ac.bs (bM i) ?_);rw[n];unfold gD;rw[fj r,Option.bind_some];refine ac.bs (eO (by rw[bv];omega)) ?_;rw[fj r,fj v,gS,Option.map_some,Option.bind_some,gS];refine ac.af.2 ?_;have:aE a (eH (λb=>aE a (j7 (E.take e) b)) f (aE a (eH (j7 (E.take e) f) j true)))=aE a λb=>aE a (j7 (E.take (e+1)) b):=by
    refine dz λb B=>?_;by_cases p:b=f
    ·subst p;rw[ir];refine dz λd w=>?_;unfold j7;rw[Cu i,m,n];by_cases q:d=j
     ·subst q;rw[ir];simp
     rw[iq _ _ q,aw (U:¬((d:Int)=(j:Int)))];simp
    rw[iq _ _ p];refine dz λd w=>?_;unfold j7;rw[Cu i,m,n,aw (U:¬((b:Int)=(f:Int)))];simp
   rw[this]
  rintro _ rfl;dsimp only;rw[a6 (aw (show¬((E.length:Int)<aq E) by simp only[aW];omega)),List.take_of_length_le (Nat.le_refl _)];exact ac.af.2 rfl
 rintro _ rfl;dsimp only;refine ac.bs (FN _ (λC s=>?_) (by rw[xe];omega)) (ac.af.2 ?_)
 ·rw[xe];unfold gD aE at s;obtain⟨b,_,rfl⟩:=bR.1 s;simp
 dsimp only;rw[H0];have:(λb d=>b !=d&&(j7 E b d||j7 E d b))=iE E:=(by funext b d;exact Iz b d);rw[this]
section
open Go
def j4 (b:cZ) (a:Nat):Nat:=(b.getD a 0).toNat
theorem dT.get {n:Nat} (d:dT c n) (f:a<n):ay c (a:Int)=some ((j4 c a:Nat):Int)/\j4 c a<n:=by have b:a<c.length:=(by rw[d.1];exact f);have g:=d.2.1 _ (bQ b);have e:j4 c a=c[a].toNat:=(by unfold j4;rw[m7 b]);exact⟨by rw[g4 (bo b),e];congr 1;omega,U⟩
theorem dT.inj (d:dT c i) (h:a<i) (j:b<i) (e:j4 c a=j4 c b):a=b:=by have f:a<c.length:=(by rw[d.1];exact h);have g:b<c.length:=(by rw[d.1];exact j);have k:=d.2.1 _ (bQ f);have l:=d.2.1 _ (bQ g);unfold j4 at e;rw[m7 f,m7 g] at e;exact(List.getElem_inj d.2.2).1 U
end
section
open Go
theorem VQ:∀{n:Nat} {a:cY},a.Nodup->(∀b∈a,b<n)->a.length<=n:=by
 intro n
 induction n with
 |zero=>intro a _ c;cases a with
  |nil=>exact a8 _
  |cons h a=>exact absurd (c h (jI ..)) U
 |succ n l=>
  intro a e c;have j:(a.erase n).Nodup:=e.erase n;have k:∀b∈a.erase n,b<n:=λb g=>(by have d:=c b (List.mem_of_mem_erase g);have m:b≠n:=λi=>(by subst i;exact(e.mem_erase_iff.1 g).1 rfl);omega);have d:=l j k;by_cases f:n∈a
  ·rw[List.length_erase_of_mem f] at d;omega
  rw[List.erase_of_not_mem f] at d;omega
theorem Vm {b:cY}:(a:Int)∈gF b↔a∈b:=by
 unfold gF;rw[bR];constructor
 ·rintro⟨e,d,f⟩;obtain rfl:e=a:=U;exact d
 exactλc=>⟨a,c,rfl⟩
section
variable {A:cO} (B:eU A)
include B
end
end
section
open Go
def Ao (A:cO) (a:Int):Nat:=(A.getD a.toNat []).length
section
variable {A:cO} (B:eU A) (C:A.length<=200)
include B C
end
end
section
open Go
def IN (a:cO) (b c:Int):Prop:=Ao a b<Ao a c\/(Ao a b=Ao a c/\b<c)
instance(a:cO) (b c:Int):Decidable (IN a b c):=by unfold IN;exact inferInstance
end
section
open Go
def fm (o:cZ) (a:Nat):Nat:=o.idxOf (a:Int)
section
variable {o:cZ} {n:Nat} (A:dT o n)
include A
theorem dT.mem (p:a<n):(a:Int)∈o:=by
 apply Classical.byContradiction;intro m;obtain⟨w,b,i⟩:=A;have h:o=gF (o.map Int.toNat):=by
  unfold gF;rw[pR]
  conv=>lhs;rw[<-List.map_id o]
  refine hW λg c=>?_;have:=b g c;simp only[id,Function.comp];omega
 have j:(o.map Int.toNat).Nodup:=(by rw[List.nodup_iff_pairwise_ne,tp];refine(gu.2 λr s e f k=>?_);have u:=b _ (bQ e);have v:=b _ (bQ f);have:=gu.1 (List.nodup_iff_pairwise_ne.1 i) r s e f k;omega);have l:a∉o.map Int.toNat:=λc=>m (by rw[h];exact Vm.2 c);have:=VQ (n:=n) (je.2 ⟨l,j⟩) (λg d=>by
  rcases dh.1 d with rfl|d
  ·exact p
  obtain⟨t,q,rfl⟩:=bR.1 d;have:=b t q;omega)
 rw[hU,fL] at this;omega
theorem dT.pos (d:a<n):fm o a<n/\j4 o (fm o a)=a:=by have c:=A.mem d;have b:fm o a<o.length:=List.idxOf_lt_length_iff.2 c;refine⟨by rw[<-A.1];exact b,?_⟩;unfold j4;rw[m7 b,show o[fm o a]=(a:Int) from List.getElem_idxOf b];simp
theorem dT.KS (b:a<n):fm o (j4 o a)=a:=by have c:=(A.get b).2;obtain⟨d,e⟩:=A.pos c;exact A.inj d b e
end
section
variable {B:cO} (C:eU B) {o:cZ} (A:dT o B.length)
include C A
end
end
def lV (E:List bz) (b c:Int):Int:=match E.find? λa=>decide (a.1=b)&&decide (a.2.1=c) with
 |some a=>a.2.2.1
 |none=>0
theorem Tb {E:List bz} (e:E.Pairwise fA) {b:bz} (h:r∈E) (i:b∈E) (j:r.1=b.1) (k:r.2.1=b.2.1):r=b:=by
 obtain⟨c,f,rfl⟩:=ha.1 h;obtain⟨d,g,rfl⟩:=ha.1 i;rcases l3 c d with a|a|a
 ·have:=gu.1 e c d f g a;unfold fA at this;omega
 ·subst a;rfl
 have:=gu.1 e d c g f a;unfold fA at this;omega
theorem Mw {E:List bz} (f:E.Pairwise fA) (d:r∈E):lV E r.1 r.2.1=r.2.2.1:=by
 unfold lV;cases a:E.find? λc=>decide (c.1=r.1)&&decide (c.2.1=r.2.1) with
 |none=>
  have:=yh.1 a r d;simp at this
 |some c=>
  have b:=List.find?_some a;have e:=List.mem_of_find?_eq_some a;simp only[Bool.and_eq_true,decide_eq_true_eq] at b;dsimp only;rw[Tb f e d b.1 b.2]
theorem aaY {E:List bz} (b:∀a∈E,¬(a.1=d/\a.2.1=j)):lV E d j=0:=by unfold lV;rw[yh.2];intro a c;have:=b a c;simpa using this
theorem Mx {E:List bz} (f:(E++[r]).Pairwise fA) (b c:Int):lV (E++[r]) b c=if r.1=b/\r.2.1=c then r.2.2.1 else lV E b c:=by
 by_cases a:r.1=b/\r.2.1=c
 ·rw[if_pos a,<-a.1,<-a.2,Mw f ab]
 rw[if_neg a];unfold lV;have e:List.find? (λd:bz=>decide (d.1=b)&&decide (d.2.1=c)) [r]=none:=(by refine yh.2 λd g=>?_;obtain rfl:=dP.1 g;simpa using a);rw[List.find?_append,e,Option.or_none]
theorem Mv {E:List bz} (e:∀f∈E,dE f.2.2.1) (b c:Int):dE (lV E b c):=by
 unfold lV;cases d:E.find? λa=>decide (a.1=b)&&decide (a.2.1=c) with
 |none=>exact⟨aa,aa⟩
 |some a=>exact e a (Ch d)
theorem aaX {E:List bz} (e:∀f∈E,bG f.2.2.1≠2047) (b c:Int):bG (lV E b c)≠2047:=by
 unfold lV;cases d:E.find? λa=>decide (a.1=b)&&decide (a.2.1=c) with
 |none=>show bG 0≠2047;decide
 |some a=>exact e a (Ch d)
theorem IZ (j:et i b c g h) (m:a<b):r∈bJ c g h b/\r.2.1=(a:Int)↔∃d:Nat,c.getD a 0<=(d:Int)/\(d:Int)<c.getD (a+1) 0/\r=(g.getD d 0,(a:Int),h.getD d 0,()):=by
 have t:=j.pos a U;have u:=j.pos (a+1) U;constructor
 ·rintro⟨e,k⟩;obtain⟨f,q,e⟩:=xi.1 e;obtain⟨n,s,rfl⟩:=sD.1 e;have l:f=a:=(by dsimp only at k;omega);subst l;exact⟨(c.getD f 0).toNat+n,U,U,rfl⟩
 rintro⟨d,o,p,rfl⟩;refine⟨xi.2 ⟨a,m,sD.2 ⟨d-(c.getD a 0).toNat,U,?_⟩⟩,rfl⟩;rw[(U:(c.getD a 0).toNat+(d-(c.getD a 0).toNat)=d)]
theorem K2 (r:fD i b g c h) (v:eW i b g c h=0) (n:Int) (q:a<b):qp (((i:Int),(b:Int),g,c,h,()),n,(a:Int),())=some (lV (bJ g c h b) n (a:Int),()):=by
 have f:=(jj.1 v).1;have C:=f.pos a U;have D:=f.pos (a+1) U;have K:=f.n8 (a+1) U;have L:=f.val;have I:=f.mono a q;have H:=f.len;have G:=r.hi;have z:=sj f b (a8 _);have F:=r.hc;unfold qp;refine ai (y:=.inl ()) ?_ ?_
 ·refine ai r.uX ?_;dsimp only;rw[v,bY,az rfl,aw (U:¬((a:Int)<0)),aw (U:¬((a:Int)>=(b:Int)))];rfl
 dsimp only;rw[fg (U:a<g.length),Option.bind_some];refine ac.eq_iff.1 ?_;obtain⟨e,B⟩:=Int.eq_ofNat_of_zero_le C;obtain⟨k,A⟩:=Int.eq_ofNat_of_zero_le D;have x:ay g (aS (a:Int))=some (k:Int):=(by rw[bg U,fg U,A]);rw[x,B];refine ac.aU (P:=λt=>(t=.inl ()/\∀d:Nat,e<=d->d<k->c.getD d 0≠n)\/∃d:Nat,e<=d/\d<k/\c.getD d 0=n/\t=.inr (h.getD d 0,())) ?_ ?_
 ·refine ac.steps (k-e) (λj E=>E=(((e+j:Nat):Int),())/\∀d:Nat,e<=d->d<e+j->c.getD d 0≠n) ⟨rfl,λd l o=>absurd o U⟩ ?_ ?_
  ·rintro j _ J ⟨rfl,p⟩;dsimp only;rw[Option.bind_some,bc (az (U:((e+j:Nat):Int)<(k:Int)))];refine ac.bs (fg U) ?_;by_cases m:c.getD (e+j) 0=n
   ·rw[bc (by rw[m];simp)];refine ac.bs (fg U) (ac.af.2 ?_);exact .inr ⟨e+j,U,U,m,rfl⟩
   rw[a6 (by simpa using m),bg U];refine ac.af.2 ⟨rfl,λd l o=>?_⟩;rcases bp d (e+j) with u|u
   ·exact p d l u
   obtain rfl:d=e+j:=U;exact m
  rintro _ ⟨rfl,p⟩;dsimp only;rw[Option.bind_some,a6 (aw (U:¬(((e+(k-e):Nat):Int)<(k:Int))))];exact ac.af.2 (.inl ⟨rfl,λd l o=>p d l U⟩)
 rintro t (⟨rfl,p⟩|⟨d,l,o,m,rfl⟩)
 ·refine ac.af.2 ?_;rw[aaY];intro M s w;obtain⟨d,l,o,rfl⟩:=(IZ f q).1 ⟨s,w.2⟩;exact p d U U w.1
 refine ac.af.2 ?_;have s:=((IZ f q).2 ⟨d,U,U,rfl⟩).1;have:=Mw z s;dsimp only at this;rw[m] at this;rw[this]
theorem EV {o:cZ} {n:Nat} (D:n<=10000) (E:o.length<=1000000):wL (o,(n:Int),())=some (open Classical in decide (dT o n),()):=by
 classical
 unfold wL;dsimp only;by_cases k:o.length=n
 ·rw[a6 (by rw[bY,az (show aq o=(n:Int) by rw[aW,k])];rfl)];refine ai (gE U) ?_;refine ac.eq_iff.1 ?_;refine ac.aU (P:=λm=>(m=.inl ()/\dT o n)\/(m=.inr (false,())/\¬dT o n)) ?_ ?_
  ·refine ac.steps n (λa y=>y=((a:Int),aE n (λb=>decide ((b:Int)∈o.take a)),())/\(∀d∈o.take a,0<=d/\d<(n:Int))/\(o.take a).Nodup) ?_ ?_ ?_
   ·refine⟨?_,ab,ab⟩;rw[iB];simp
   ·rintro a _ C ⟨rfl,g,h⟩;dsimp only;rw[bc (az (U:(a:Int)<(n:Int))),bM (U:a<o.length)];have s:o[a]'(by omega)∈o:=List.getElem_mem _
    have l:o.take (a+1)=o.take a++[o[a]'(by omega)]:=by rw[hq,bo U];rfl
    have i:∀d,d∈o.take (a+1)↔d∈o.take a\/d=o[a]'(by omega):=λd=>by rw[l,dO,dP]
    have w:(o.take (a+1)).Sublist o:=List.take_sublist _ _;generalize G:o[a]'(by omega)=b at*
    simp only[aM];by_cases q:b<0
    ·rw[a6 (show(decide (b<0)==false)=false by rw[az q];rfl)];refine ac.af.2 (.inr ⟨rfl,λe=>?_⟩);have:=e.2.1 b s;omega
    rw[bc (show(decide (b<0)==false)=true by rw[aw q];rfl)];by_cases r:b>=(n:Int)
    ·rw[a6 (show(decide (b>=(n:Int))==false)=false by rw[az r];rfl)];refine ac.af.2 (.inr ⟨rfl,λe=>?_⟩);have:=e.2.1 b s;omega
    rw[bc (show(decide (b>=(n:Int))==false)=true by rw[aw r];rfl)];obtain⟨p,rfl⟩:=ew (U:0<=b);rw[jv (by rw[bv];omega),gB];by_cases f:(p:Int)∈o.take a
    ·rw[bc (az f)];refine ac.af.2 (.inr ⟨rfl,λe=>?_⟩);have:=List.Nodup.sublist w e.2.2;rw[l,hF] at this;exact this.2.2 _ f _ (dP.2 rfl) rfl
    rw[a6 (aw f)];simp only[aM];rw[i5 (by rw[bv];omega),gS];refine ac.af.2 ⟨?_,?_,?_⟩
    ·rw[bg U];have:aE n (eH (λb=>decide ((b:Int)∈o.take a)) p true)=aE n (λb=>decide ((b:Int)∈o.take (a+1))):=by
      refine dz λz F=>?_;by_cases j:z=p
      ·subst j;rw[ir,az ((i _).2 (.inr rfl))]
      rw[iq _ _ j];refine decide_eq_decide.2 ⟨λc=>(i _).2 (.inl c),λc=>((i _).1 c).resolve_right λc=>j U⟩
     rw[this]
    ·intro d x;rcases(i d).1 x with c|c
     ·exact g d c
     subst c;omega
    rw[l,hF];refine⟨h,ab,λA u B v t=>?_⟩;obtain rfl:=dP.1 v;exact f (t▸u)
   rintro _ ⟨rfl,g,h⟩;dsimp only;rw[a6 (aw (U:¬((n:Int)<(n:Int))))];rw[List.take_of_length_le U] at g h;exact ac.af.2 (.inl ⟨rfl,k,g,h⟩)
  rintro m (⟨rfl,c⟩|⟨rfl,c⟩)
  ·refine ac.af.2 ?_;rw[az c]
  refine ac.af.2 ?_;rw[aw c]
 rw[bc (by rw[bY,aw (show¬(aq o=(n:Int)) by rw[aW];omega)];rfl),aw (λc=>k c.1)]
theorem By (i:fD a b g c h) (j:n.length<=1000000):wM (((a:Int),(b:Int),g,c,h,()),n,())=some (open Classical in if eW a b g c h≠0 then eW a b g c h else if a≠b then 5 else if dT n a then 0 else 90,()):=by
 classical
 unfold wM;refine ai i.uX ?_;dsimp only;have k:=i.hr;by_cases e:eW a b g c h=0
 ·rw[e,bY,az rfl,if_neg (not_not_intro rfl)];by_cases f:a=b
  ·subst f;rw[bY,az rfl,if_neg (not_not_intro rfl)];refine ai (EV U j) ?_;dsimp only;by_cases d:dT n a
   ·rw[az d,if_pos d];rfl
   rw[aw d,if_neg d];rfl
  rw[bY,aw (U:¬((a:Int)=(b:Int))),if_pos f];rfl
 rw[bY,aw e,if_pos e];rfl
theorem YF (g:a<c.length) (f:c[a]=(b:Int)) (e:(b:Int)∉c.take a):fm c b=a:=by unfold fm;have d:c=c.take a++(c[a]::c.drop (a+1)):=(by rw[List.getElem_cons_drop,kE]);rw[d,List.idxOf_append,if_neg e,f,List.idxOf_cons_self,dX];omega
theorem KP (H:a<=10000) (I:c.length<=1000000):An (c,(a:Int),())=some (open Classical in if dT c a then(aE a (λb=>(fm c b:Int)),true,()) else([],false,())):=by
 classical
 unfold An;dsimp only;by_cases p:c.length=a
 ·rw[a6 (by rw[bY,az (show aq c=(a:Int) by rw[aW,p])];rfl)];refine ai (gE U) (ai (gE U) ?_);refine ac.eq_iff.1 ?_;refine ac.aU (P:=λr=>(r=.inl (aE a (λb=>(fm c b:Int)),())/\dT c a)\/(r=.inr ([],false,())/\¬dT c a)) ?_ ?_
  ·refine ac.steps a (λd D=>D=((d:Int),aE a (λb=>if(b:Int)∈c.take d then(fm c b:Int) else 0),aE a (λb=>decide ((b:Int)∈c.take d)),())/\(∀g∈c.take d,0<=g/\g<(a:Int))/\(c.take d).Nodup) ?_ ?_ ?_
   ·refine⟨?_,ab,ab⟩;rw[iB,iB];simp
   ·rintro d _ G ⟨rfl,n,o⟩;dsimp only;rw[bc (az (show(d:Int)<aq c by rw[aW];omega)),bM (U:d<c.length)];have u:c[d]'(by omega)∈c:=List.getElem_mem _
    have q:c.take (d+1)=c.take d++[c[d]'(by omega)]:=by rw[hq,bo U];rfl
    have j:∀g,g∈c.take (d+1)↔g∈c.take d\/g=c[d]'(by omega):=λg=>by rw[q,dO,dP]
    have A:(c.take (d+1)).Sublist c:=List.take_sublist _ _;have z:∀f:Nat,c[d]'(by omega)=(f:Int)->(f:Int)∉c.take d->fm c f=d:=λf=>YF U
    generalize v:c[d]'(by omega)=b at*
    simp only[aM];by_cases s:b<0
    ·rw[a6 (show(decide (b<0)==false)=false by rw[az s];rfl)];refine ac.af.2 (.inr ⟨rfl,λh=>?_⟩);have:=h.2.1 b u;omega
    rw[bc (show(decide (b<0)==false)=true by rw[aw s];rfl)];by_cases t:b>=(a:Int)
    ·rw[a6 (show(decide (b>=(a:Int))==false)=false by rw[az t];rfl)];refine ac.af.2 (.inr ⟨rfl,λh=>?_⟩);have:=h.2.1 b u;omega
    rw[bc (show(decide (b>=(a:Int))==false)=true by rw[aw t];rfl)];obtain⟨f,rfl⟩:=ew (U:0<=b);rw[jv (by rw[bv];omega),gB];by_cases l:(f:Int)∈c.take d
    ·simp only[aM];rw[bc (az l)];refine ac.af.2 (.inr ⟨rfl,λh=>?_⟩);have:=List.Nodup.sublist A h.2.2;rw[q,hF] at this;exact this.2.2 _ l _ (dP.2 rfl) rfl
    simp only[aM];rw[a6 (aw l)];simp only[aM];rw[i5 (by rw[bv];omega),gS,i5 (by rw[bv];omega),gS];refine ac.af.2 ⟨?_,?_,?_⟩
    ·rw[bg U];have:aE a (eH (λb=>decide ((b:Int)∈c.take d)) f true)=aE a (λb=>decide ((b:Int)∈c.take (d+1))):=by
      refine dz λk B=>?_;by_cases i:k=f
      ·subst i;rw[ir,az ((j _).2 (.inr rfl))]
      rw[iq _ _ i];refine decide_eq_decide.2 ⟨λe=>(j _).2 (.inl e),λe=>((j _).1 e).resolve_right λe=>i U⟩
     rw[this];have:aE a (eH (λb=>if(b:Int)∈c.take d then(fm c b:Int) else 0) f (d:Int))=aE a (λb=>if(b:Int)∈c.take (d+1) then(fm c b:Int) else 0):=by
      refine dz λk B=>?_;by_cases i:k=f
      ·subst i;rw[ir,if_pos ((j _).2 (.inr rfl)),z k rfl l]
      rw[iq _ _ i];have:(k:Int)∈c.take (d+1)↔(k:Int)∈c.take d:=⟨λe=>((j _).1 e).resolve_right λe=>i U,λe=>(j _).2 (.inl e)⟩;by_cases m:(k:Int)∈c.take d
      ·rw[if_pos m,if_pos (this.2 m)]
      rw[if_neg m,if_neg λe=>m (this.1 e)]
     rw[this]
    ·intro g C;rcases(j g).1 C with e|e
     ·exact n g e
     subst e;omega
    rw[q,hF];refine⟨o,ab,λE x F y w=>?_⟩;obtain rfl:=dP.1 y;exact l (w▸x)
   rintro _ ⟨rfl,n,o⟩;dsimp only;rw[a6 (aw (show¬((a:Int)<aq c) by rw[aW];omega))];rw[List.take_of_length_le U] at n o|-;have h:dT c a:=⟨p,n,o⟩;refine ac.af.2 (.inl ⟨?_,h⟩);have:aE a (λb=>if(b:Int)∈c then(fm c b:Int) else 0)=aE a (λb=>(fm c b:Int)):=dz λb v=>if_pos (h.mem v);rw[this]
  rintro r (⟨rfl,e⟩|⟨rfl,e⟩)
  ·refine ac.af.2 ?_;rw[if_pos e]
  refine ac.af.2 ?_;rw[if_neg e]
 rw[bc (by rw[bY,aw (show¬(aq c=(a:Int)) by rw[aW];omega)];rfl),if_neg (λe=>p e.1)]
def hR (a b:Nat) (d c e f:cZ):Int:=open Classical in if eW a b d c e≠0 then eW a b d c e else if a≠b then 5 else if dT f a then 0 else 90
theorem Fi (d:hR a b h c n g=0):eW a b h c n=0/\a=b/\dT g a:=by
 unfold hR at d;split at d
 ·contradiction
 rename_i e;split at d
 ·cases d
 rename_i f;split at d
 ·rename_i i;exact⟨Classical.not_not.1 e,Classical.not_not.1 f,i⟩
 cases d
theorem FX (j:fD a b h c n) (k:g.length<=1000000) (d:hR a b h c n g≠0):qs (((a:Int),(b:Int),h,c,n,()),g,())=some (none,hR a b h c n g,()):=by
 classical
 unfold qs;unfold hR at d|-;refine ai j.check ?_;dsimp only;have l:=j.hr;by_cases e:eW a b h c n=0
 ·rw[if_neg (not_not_intro e)] at d|-;rw[a6 (by rw[e];rfl)];by_cases i:a=b
  ·subst i;rw[if_neg (not_not_intro rfl)] at d|-;rw[a6 (by rw[bY,az rfl];rfl)];refine ai (KP U k) ?_;by_cases f:dT g a
   ·exact absurd (if_pos f) d
   rw[if_neg f,if_neg f];rfl
  rw[if_pos i,bc (by rw[bY,aw (U:¬((a:Int)=(b:Int)))];rfl)]
 rw[if_pos e,bc (by rw[bY,aw e];rfl)]
def jV (a:Nat) (E:List bz) (b:cZ):cO:=h2 (h3 (iC a (iE E)) b)
theorem H6 (a:Nat) (b:Nat->Nat->Bool):∀d∈iC a b,d.length<=a:=by intro d c;unfold iC aE at c;obtain⟨e,_,rfl⟩:=bR.1 c;rw[uM];have:=hV (b e) (List.range a);simpa using this
theorem AN (a:Nat) (b:Nat->Nat->Bool):(iC a b).length=a:=bv _ _
theorem T3 (c:Nat) (E:List bz):iC c (iE E)=h2 (gD c (j7 E)):=by rw[H0];have:(λa b=>a !=b&&(j7 E a b||j7 E b a))=iE E:=(by funext a b;exact Iz a b);rw[this]
theorem KN (e:a<=5) {E:List bz} (b:dT c a):mC (iC a (iE E)) c=0:=by unfold mC;have d:hy (iC a (iE E))=0:=yL.2 ⟨by rw[AN];omega,by rw[T3];exact H1 _⟩;rw[if_neg (not_not_intro d),if_neg (not_not_intro (by rw[AN];exact b.1)),AN,if_pos b]
theorem Ro (e:a<=5) {E:List bz} (b:dT c a):vZ ((iC a (iE E),()),c,())=some ((jV a E c,()),0,()):=by rw[Rn (λf d=>by have:=H6 a _ f d;omega) c (λ_ _=>by rw[AN];omega) (by rw[b.1];omega),if_pos (KN e b)];rfl
theorem YZ (d:a<=5) {E:List bz} (e:dT c a):wC ((iC a (iE E),()),c,())=some ((jV a E c,()),0,()):=by rw[Ze (λf b=>by have:=H6 a _ f b;omega) c,if_pos (KN d e)];rfl
theorem AP {E:List bz} (b:dT c a):(jV a E c).length=a:=by unfold jV;rw[TV,uv,b.1]
theorem Ih (a:Nat) (E:List bz) (b:cZ):eU (jV a E b):=H1 _
theorem Ig (f:a<=5) {E:List bz} (e:dT c a):∀b∈jV a E c,b.length<4611686018427387904:=λb d=>by have:=TW _ b d;rw[uv,e.1] at this;omega
theorem YT (e:a<=5) (m:fD a a g c h) (d:eW a a g c h=0) (u:dT n a):Ai (((a:Int),(a:Int),g,c,h,()),n,())=some ((jV a (fl (bJ g c h a)) n,()),()):=by have b:=(jj.1 d).1;have p:=(jj.1 d).2;have j:=sj b a (a8 _);have k:=si b;have v:=A2 e (qQ j) (qP k) A1;have q:=qy b m.hw;have r:=qy b (Ds p);unfold Ai;refine ai (YW e m d) ?_;have o:=qQ j;have l:=qP k;have t:=LZ (rows:=a) (fG:=a) (E:=fl (bJ g c h a)) U U U (λi f=>q i (gr.1 f).1);have s:=G4 o l (λi f=>r i (gr.1 f).1);have:=YR t s;rw[HJ o l] at this;refine ai this ?_;exact ai (YZ e u) rfl
theorem Q8 (s:a<=5) (q:fD a a g c h) (k:eW a a g c h=0):vX (ph a a (fl (bJ g c h a)),())=some ((iC a (iE (fl (bJ g c h a))),()),0,()):=by have b:=(jj.1 k).1;have m:=(jj.1 k).2;have f:=sj b a (a8 _);have i:=si b;have t:=A2 s (qQ f) (qP i) A1;have n:=qy b q.hw;have o:=qy b (Ds m);have l:=qQ f;have j:=qP i;have r:=LZ (rows:=a) (fG:=a) (E:=fl (bJ g c h a)) U U U (λe d=>n e (gr.1 d).1);have p:=G4 l j (λe d=>o e (gr.1 d).1);have:=Q5 r p;rw[HJ l j] at this;exact this
def jl:bD:=(false,((false,([],())),((0:Int),())))
theorem Da:jl=aR (some 0):=by rw[eJ];rfl
theorem sI:dG 0=some 0:=by decide
theorem xd {k:Type}:∀(j:List (Int×k)) (c:Int) (e:k) (b:Int),eg (g6 j c e) b=if b=c then some e else eg j b
 |[],c,e,b=>by
  show(if c=b then some e else none)=_;by_cases d:b=c
  ·rw[if_pos d,if_pos d.symm]
  rw[if_neg d,if_neg (λf=>d f.symm)];rfl
 |(a,u)::r,c,e,b=>by
  unfold g6;by_cases h:c<a
  ·rw[if_pos h];show(if c=b then some e else eg ((a,u)::r) b)=_;by_cases d:b=c
   ·rw[if_pos d,if_pos d.symm]
   rw[if_neg d,if_neg (λf=>d f.symm)]
  rw[if_neg h];by_cases i:c=a
  ·rw[if_pos i];show(if c=b then some e else eg r b)=_;by_cases d:b=c
   ·rw[if_pos d,if_pos d.symm]
   rw[if_neg d,if_neg (λf=>d f.symm)];show _=(if a=b then some u else eg r b);rw[if_neg U]
  rw[if_neg i];show(if a=b then some u else eg (g6 r c e) b)=_;rw[xd r c e b];show _=if b=c then some e else(if a=b then some u else eg r b)
  by_cases g:a=b
  ·rw[if_pos g,if_neg U,if_pos g]
  rw[if_neg g,if_neg g]
abbrev hb:=Option (List (Int×bD)×Nat)
variable{o:List hb}
def js (a b:Int):Int:=if b>a then b else a
def iX (a b:Int):Int:=if b<a then b else a
def bh (E:List bz) (a:cZ) (b c:Nat):cT:=dG (lV E (js (a.getD b 0) (a.getD c 0)) (iX (a.getD b 0) (a.getD c 0)))
theorem Ta (E:List bz) (a:cZ) (b c:Nat):bh E a b c=bh E a c b:=by unfold bh;rw[show js (a.getD b 0) (a.getD c 0)=js (a.getD c 0) (a.getD b 0) by unfold js;split<;>split<;>omega,show iX (a.getD b 0) (a.getD c 0)=iX (a.getD c 0) (a.getD b 0) by unfold iX;split<;>split<;>omega]
structure iN (n:Nat) (o:cZ) (D:List bz) (M:List hb):Prop where
 len:M.length=n
 get:∀p,p<n->∃l c,M[p]?=some (some (l,c))/\∀q,q<n->p<=q->(eg l (q:Int)).getD jl=aR (bh D o p q)
theorem iN.nil:iN a c [] (aE a λ_=>some ([],0)) where
 len:=bv _ _
 get:=λd b=>⟨[],0,um b,λe _ _=>by
  show jl=aR (dG 0);rw[sI,Da]⟩
theorem Br (e:dT c b) (f:a<b):c.getD a 0=(j4 c a:Int)/\j4 c a<b:=by have d:a<c.length:=(by rw[e.1];exact f);have:=e.2.1 c[a] (bQ d);unfold j4;rw[jo d];omega
theorem YG {h:Nat} (e:dT c h) (r:p<h) (q:a<h) (u:a<=p) (k:b<h) (l:i<h) (v:b<=i):(iX (fm c p:Int) (fm c a:Int)=(b:Int)/\js (fm c p:Int) (fm c a:Int)=(i:Int))↔(p:Int)=js (c.getD b 0) (c.getD i 0)/\(a:Int)=iX (c.getD b 0) (c.getD i 0):=by
 obtain⟨s,w⟩:=Br e k;obtain⟨ar,x⟩:=Br e l;obtain⟨y,o⟩:=e.pos r;obtain⟨t,j⟩:=e.pos q;have m:=e.KS k;have n:=e.KS l;rw[s,ar];constructor
 ·rintro⟨f,g⟩;have:(fm c p=b/\fm c a=i)\/(fm c p=i/\fm c a=b):=by
   unfold iX at f;unfold js at g;split at f<;>split at g<;>omega
  rcases this with⟨aj,d⟩|⟨aj,d⟩
  ·rw[aj] at o;rw[d] at j;unfold js iX;split<;>split<;>omega
  rw[aj] at o;rw[d] at j;unfold js iX;split<;>split<;>omega
 rintro⟨f,g⟩;have:(p=j4 c b/\a=j4 c i)\/(p=j4 c i/\a=j4 c b):=(by unfold iX at g;unfold js at f;split at f<;>split at g<;>omega);rcases this with⟨aj,d⟩|⟨aj,d⟩
 ·rw[aj,d,m,n];unfold js iX;split<;>split<;>omega
 rw[aj,d,m,n];unfold js iX;split<;>split<;>omega
theorem iN.skip (b:iN a c s o) (l:(s++[r]).Pairwise fA) (q:r.1<r.2.1):iN a c (s++[r]) o where
 len:=b.len
 get:=λn i=>by obtain⟨m,f,g,h⟩:=b.get n i;refine⟨m,f,g,λp k j=>?_⟩;rw[h p k j];unfold bh;rw[Mx l,if_neg];rintro⟨d,e⟩;unfold js at d;unfold iX at e;split at d<;>split at e<;>omega
theorem iN.add (D:dT c p) (f:iN p c s o) {l:Nat} (F:(s++[((i:Int),(a:Int),d,())]).Pairwise fA) (E:i<p) (y:a<p) (z:a<=i) (B:(b:Int)=iX (fm c i:Int) (fm c a:Int)) (A:(l:Int)=js (fm c i:Int) (fm c a:Int)) {G H:Nat} (u:o[b]?=some (some (v,G))):iN p c (s++[((i:Int),(a:Int),d,())]) (o.set b (some (g6 v (l:Int) (aR (dG d)),H))) where
 len:=by rw[vw,f.len]
 get:=λg q=>by
  have C:b<o.length:=(eb.1 u).1;have w:∀e,e<p->g<=e->aR (bh (s++[((i:Int),(a:Int),d,())]) c g e)=if b=g/\l=e then aR (dG d) else aR (bh s c g e):=by
   intro e k j;have:=YG D E y z q k j;unfold bh;rw[Mx F];rw[<-B,<-A] at this;by_cases h:b=g/\l=e
   ·rw[if_pos h,if_pos (this.1 ⟨U,U⟩)]
   rw[if_neg h,if_neg (λf=>h (by have:=this.2 f;omega))]
  by_cases h:g=b
  ·subst h;refine⟨_,_,kB C,λe k j=>?_⟩;rw[xd,w e k j];by_cases t:l=e
   ·subst t;rw[if_pos rfl,if_pos ⟨rfl,rfl⟩];rfl
   rw[if_neg U,if_neg (λf=>t f.2)];obtain⟨x,r,m,n⟩:=f.get g q;rw[u] at m;cases m;exact n e k j
  obtain⟨x,r,m,n⟩:=f.get g q;refine⟨x,r,?_,λe k j=>?_⟩
  ·rw[lz (λf=>h f.symm),m]
  rw[w e k j,if_neg (λf=>h f.1.symm),n e k j]
theorem K1 (k:fD a a h g n) (j:eW a a h g n=0) (e:dT c a) (p:b<a) (q:i<a):wK (((a:Int),(a:Int),h,g,n,()),c,(b:Int),(i:Int),())=some (aR (bh (bJ h g n a) c b i),()):=by
 obtain⟨r,s⟩:=Br e p;obtain⟨ar,t⟩:=Br e q;have u:=e.1;have l:=qy (jj.1 j).1 k.hw;unfold wK;refine ai (fg U) (ai (fg U) ?_);obtain⟨d,m,o⟩:∃d:Nat,iX (c.getD b 0) (c.getD i 0)=(d:Int)/\d<a:=by
  unfold iX;split
  ·exact⟨_,ar,t⟩
  exact⟨_,r,s⟩
 have f:=K2 k j (js (c.getD b 0) (c.getD i 0)) o;rw[<-m] at f;refine ai f ?_;dsimp only;refine ai (u0 (Mv l _ _)) rfl
theorem FY (B:a<=5) (r:fD a a h g c) (x:eW a a h g c=0) (s:dT n a):∃b,iN a n (bJ h g c a) b/\qs (((a:Int),(a:Int),h,g,c,()),n,())=some (some ((a:Int),(jV a (fl (bJ h g c a)) n,()),b,()),0,()):=by
 have j:=(jj.1 x).1;have ad:=sj j a (a8 _);have an:=si j;have a4:=s.1;have ap:=qy j r.hw;suffices q:ac (qs (((a:Int),(a:Int),h,g,c,()),n,())) λf=>∃b,iN a n (bJ h g c a) b/\f=(some ((a:Int),(jV a (fl (bJ h g c a)) n,()),b,()),0,()) by obtain⟨f,O,b,Q,rfl⟩:=q;exact⟨b,Q,O⟩
 unfold qs;refine ac.bs r.check ?_;dsimp only;rw[a6 (by rw[x];rfl),a6 (by rw[bY,az rfl];rfl)];refine ac.bs (KP U U) ?_;rw[if_pos s];dsimp only;rw[Bool.not_true,cond_false];refine ac.bs (Rf B r x) (ac.bs (Q8 B r x) (ac.bs (Ro B s) ?_));dsimp only;generalize am:jV a (fl (bJ h g c a)) n=p;refine ac.bs (gE U) ?_;generalize T:(((a:Int),(a:Int),h,g,c,()):bF)=N;refine ac.aU (P:=λf=>f=(N,((a:Int),(p,()),aE a (λ_=>(some ([],0):hb)),()),())) ?_ ?_
 ·refine ac.steps a (λo t=>t=((o:Int),N,((a:Int),(p,()),aE a (λk=>if k<o then(some ([],0):hb) else none),()),())) ?_ ?_ ?_
  ·rw[iB];rfl
  ·rintro o _ S rfl;dsimp only;rw[bc (az (show(o:Int)<aq (List.replicate a (none:hb)) by rw[aW,List.length_replicate];omega)),bg U];refine ac.bs (eO (by rw[bv];omega)) ?_;rw[fj S,gS];refine ac.af.2 ?_;have:aE a (eH (λk=>if k<o then(some ([],0):hb) else none) o (some ([],0)))=aE a (λk=>if k<o+1 then(some ([],0):hb) else none):=by
    refine dz λk D=>?_;by_cases v:k=o
    ·subst v;rw[ir,if_pos U]
    rw[iq _ _ v];by_cases F:k<o
    ·rw[if_pos F,if_pos U]
    rw[if_neg F,if_neg U]
   dsimp only[Option.map_some];rw[this]
  rintro _ rfl;dsimp only;rw[a6 (aw (show¬((a:Int)<aq (List.replicate a (none:hb))) by rw[aW,List.length_replicate];omega))];have:aE a (λk=>if k<a then(some ([],0):hb) else none)=aE a (λ_=>(some ([],0):hb)):=dz λk D=>if_pos D;rw[this];exact ac.af.2 rfl
 rintro _ rfl;dsimp only;refine ac.aU (P:=λf=>∃b,iN a n (bJ h g c a) b/\f=(((a:Int),(p,()),b,()),())) ?_ (by rintro _ ⟨b,q,rfl⟩;exact ac.af.2 ⟨b,q,rfl⟩);subst T;refine ac.steps a (λd t=>∃b,iN a n (bJ h g c d) b/\t=((d:Int),((a:Int),(a:Int),h,g,c,()),((a:Int),(p,()),b,()),())) ⟨_,iN.nil,rfl⟩ ?_ ?_
 ·rintro d _ w ⟨b,l,rfl⟩;have z:=j.len;obtain⟨e,J⟩:=Int.eq_ofNat_of_zero_le (j.pos d U);obtain⟨m,A⟩:=Int.eq_ofNat_of_zero_le (j.pos (d+1) U);have a0:m<=g.length:=(by have:=j.n8 (d+1) U;omega);have a3:e<=m:=(by have:=j.mono d w;omega);have D:=j.val;have av:=r.hi;dsimp only;rw[bc (az (U:(d:Int)<(a:Int))),bg U];refine ac.bs (y:=(e:Int)) (by rw[fg U,J]) ?_;have K:bJ h g c (d+1)=bJ h g c d++hg g c (d:Int) e (m-e):=by
   rw[bJ,J,A];rfl
  have W:(bJ h g c (d+1)).Pairwise fA:=sj j (d+1) U;refine ac.aU (P:=λf=>∃b,iN a n (bJ h g c (d+1)) b/\f=(((a:Int),(a:Int),h,g,c,()),((a:Int),(p,()),b,()),())) ?_ (by rintro _ ⟨b,q,rfl⟩;exact ac.af.2 ⟨b,q,rfl⟩);refine ac.steps (m-e) (λi t=>∃b,iN a n (bJ h g c d++hg g c (d:Int) e i) b/\t=(((e+i:Nat):Int),((a:Int),(a:Int),h,g,c,()),((a:Int),(p,()),b,()),())) ⟨b,by simpa[hg] using l,rfl⟩ ?_ ?_
  ·rintro i _ bl ⟨b,l,rfl⟩;dsimp only;refine ac.bs (y:=(m:Int)) (by rw[fg U,A]) ?_;rw[bc (az (U:((e+i:Nat):Int)<(m:Int)))];have V:=j.rng d (e+i) w U U;obtain⟨f,C⟩:=Int.eq_ofNat_of_zero_le V.1;have M:(bJ h g c d++hg g c (d:Int) e i++[((f:Int),(d:Int),c.getD (e+i) 0,())]).Pairwise fA:=by
    refine List.Pairwise.sublist ?_ W;rw[K,kA];refine List.Sublist.append (List.Sublist.refl _) ?_;have:hg g c (d:Int) e i++[((f:Int),(d:Int),c.getD (e+i) 0,())]=hg g c (d:Int) e (i+1):=(by rw[hg,C]);rw[this,Df,Df,<-TL (m-e) (i+1) _ U];exact List.take_sublist _ _
   have R:bJ h g c d++hg g c (d:Int) e (i+1)=bJ h g c d++hg g c (d:Int) e i++[((f:Int),(d:Int),c.getD (e+i) 0,())]:=(by rw[kA,hg,C]);rw[R];refine ac.aU (P:=λZ=>∃b,iN a n (bJ h g c d++hg g c (d:Int) e i++[((f:Int),(d:Int),c.getD (e+i) 0,())]) b/\Z=(((a:Int),(a:Int),h,g,c,()),((a:Int),(p,()),b,()),())) ?_ ?_
   ·refine ac.bs (y:=(f:Int)) (by rw[fg U,C]) ?_;rw[bu];refine ac.ite (λv=>?_) (λv=>?_)
    ·have L:f<a:=U;refine ac.bs (by rw[bM (by rw[bv];omega),gB]) (ac.bs (by rw[bM (by rw[bv];omega),gB]) ?_);obtain⟨u,G,H⟩:∃u:Nat,(u:Int)=iX (fm n f:Int) (fm n d:Int)/\u<a:=by
      have:=(s.pos L).1;have:=(s.pos w).1;unfold iX;split
      ·exact⟨_,rfl,U⟩
      exact⟨_,rfl,U⟩
     obtain⟨E,I⟩:∃E:Nat,(E:Int)=js (fm n f:Int) (fm n d:Int):=by
      unfold js;split
      ·exact⟨_,rfl⟩
      exact⟨_,rfl⟩
     change ac ((bx b.length (iX (fm n f:Int) (fm n d:Int))).bind _) _;rw[<-G];refine ac.bs (eO (by rw[l.len];exact H)) ?_;refine ac.bs (fg U) ?_;refine ac.bs (sJ (r.hw _ (by rw[jo U];exact List.getElem_mem _))) ?_;dsimp only;obtain⟨Y,X,z,_⟩:=l.get u H;refine ac.bs (oP z) ?_;change ac ((pg (some (Y,X)) (js (fm n f:Int) (fm n d:Int)) _).bind _) _;rw[<-I];refine ac.bs rfl ?_;rw[oP z];exact ac.af.2 ⟨_,l.add s M L w U G I z,rfl⟩
    exact ac.af.2 ⟨b,l.skip M (by dsimp only;omega),rfl⟩
   rintro _ ⟨b,q,rfl⟩;dsimp only;rw[bg U];exact ac.af.2 ⟨b,q,rfl⟩
  rintro _ ⟨b,l,rfl⟩;dsimp only;refine ac.bs (y:=(m:Int)) (by rw[fg U,A]) ?_;rw[a6 (aw (U:¬((e+(m-e):Nat):Int)<(m:Int)))];exact ac.af.2 ⟨b,by rw[K];exact l,rfl⟩
 rintro _ ⟨b,l,rfl⟩;dsimp only;rw[a6 (aw (U:¬((a:Int)<(a:Int))))];exact ac.af.2 ⟨b,l,rfl⟩
theorem LK {E:List bz} (m:iN i c E o) (g:a<i) (l:b<i):wN (some ((i:Int),(f,()),o,()),(a:Int),(b:Int),())=some (aR (bh E c a b),()):=by
 unfold wN;dsimp only;rw[Option.bind_some];have h:∀d e:Nat,d<i->e<i->d<=e->((ay o (d:Int)).bind λt=>some (((iG (α:=bD) t (e:Int)).getD (false,((false,([],())),((0:Int),())))),()))=some (aR (bh E c d e),()):=(by intro d e q s r;obtain⟨v,u,n,p⟩:=m.get d q;refine ai (g4 n) ?_;have:=p e s r;rw[<-this];rfl);by_cases j:(b:Int)<(a:Int)
 ·rw[if_pos j,if_neg U,Ta];exact h b a l g U
 rw[if_neg j];by_cases k:(b:Int)>(a:Int)
 ·rw[if_pos k];exact h a b g l U
 rw[if_neg k];obtain rfl:a=b:=U;exact h a a g g (a8 _)
theorem Ep (b:bG d≠2047):∃e,dG d=some e:=by
 have aj:=wS d;have g:=wT d;unfold dG;rw[if_neg b];unfold e9;generalize a:(if d<9223372036854775808 then if bG d=0 then eX d else eX d+4503599627370496 else-(if bG d=0 then eX d else eX d+4503599627370496))=c;have f:ax c.natAbs<=53:=df.2 (by
  have:(2:Nat)^53=9007199254740992:=aa;rw[this];split at a<;>split at a<;>omega)
 split
 ·exact⟨_,rfl⟩
 rw[if_neg (by split<;>omega)];exact⟨_,rfl⟩
theorem Jf:jZ (some 0) (some d)=some 0:=by show e9 (a1 0*a1 d) _=some 0;rw[uQ,pP];rfl
theorem Jg:jZ (some d) (some 0)=some 0:=by show e9 (a1 d*a1 0) _=some 0;rw[uQ,Int.mul_zero];rfl
def pB (a:Nat->Nat->Int) (c d b:Nat):cT:=ob (jZ (dG (a b c)) (dG (a b d)))
def hQ (c:Nat->Nat->cT) (d:Nat->Nat->Int) (a b:Nat):cT:=fQ (c b a::(List.range a).map (pB d b a))
def lc (b:Nat->Nat->cT) (e:Nat->Nat->Bool) (d:Nat->Nat->Int) (a c:Nat):Int:=
 if c=a then jx (hQ b d a a) 0 else if e a c=true then lj (hQ b d a c) (dG (jx (hQ b d a a) 0)) 0 else 0
def uE (a:Nat->Nat->cT) (b:Nat->Nat->Bool):Nat->Nat->Nat->Int
 |0=>λ_ _=>0
 |j+1=>λd c=>if d=j then lc a b (uE a b j) j c else uE a b j d c
def be (b:Nat->Nat->cT) (d:Nat->Nat->Bool) (a c:Nat):Int:=uE b d (a+1) a c
theorem D5 {b:Nat->Nat->cT} {f:Nat->Nat->Bool} {a e:Nat}:∀{j},a<j->uE b f j a e=be b f a e
 |0,d=>absurd d U
 |j+1,d=>by
  by_cases c:a=j
  ·subst c;rfl
  rw[<-D5 (j:=j) U];show(if a=j then _ else _)=_;rw[if_neg c]
theorem LN {f l':Nat->Nat->Int} {i:Nat} (d:∀b,b<a->∀i,f b i=l' b i):hQ e f a i=hQ e l' a i:=by unfold hQ;congr 2;refine hW λb c=>?_;have c:=gN.1 c;unfold pB;rw[d b c,d b c]
theorem n9 (a:Nat->Nat->cT) (c:Nat->Nat->Bool) (b d:Nat):be a c b d=lc a c (be a c) b d:=by show(if b=b then lc a c (uE a c b) b d else uE a c b b d)=_;rw[if_pos rfl];unfold lc;rw[LN (l':=be a c) (λf e d=>D5 e),LN (i:=d) (l':=be a c) (λf e d=>D5 e)]
theorem mw (a:Nat->Nat->cT) (d:Nat->Nat->Bool) (c b:Nat):dE (be a d c b):=by
 rw[n9];unfold lc;split
 ·exact Zr 0
 split
 ·exact YN 0
 exact⟨aa,aa⟩
theorem qR (c:k b a=false) (d:a≠b):be e k b a=0:=by rw[n9];unfold lc;rw[if_neg d,if_neg (by rw[c];decide)]
theorem Fl {e:Type} {f:e->cT} {p:e->Bool}:∀{L:List e},(∀m∈L,p m=false->f m=some 0)->e0 ((L.filter p).map f)=e0 (L.map f)/\fN ((L.filter p).map f)=fN (L.map f)
 |[],_=>⟨rfl,rfl⟩
 |m::L,g=>by
  obtain⟨h,i⟩:=Fl (L:=L) λk j=>g k (by simp[j]);by_cases d:p m=true
  ·rw[vu d,ep,ep];have aj:∀a b,e0 (a::b)=e0 [a]+e0 b:=λa b=>BU [a] b;have c:∀a b,fN (a::b)=(fN [a]&&fN b):=λa b=>yz [a] b;rw[aj,aj _ (L.map f),c,c _ (L.map f),h,i];exact⟨rfl,rfl⟩
  rw[tk d,ep,g m ab (by simpa using d)];have aj:∀a b,e0 (a::b)=e0 [a]+e0 b:=λa b=>BU [a] b;have c:∀a b,fN (a::b)=(fN [a]&&fN b):=λa b=>yz [a] b;rw[aj,c,h,i];refine⟨?_,?_⟩
  ·show _=(0:Int)+0+_;omega
  show _=(true&&true&&_);simp
theorem L4 {c:m->cT} {f:m->Bool} {b:List m} (g:∀e∈b,f e=false->c e=some 0):fQ (l::(b.filter f).map c)=fQ (l::b.map c):=by obtain⟨h,i⟩:=Fl g;have aj:∀l a,e0 (l::a)=e0 [l]+e0 a:=λl a=>BU [l] a;have d:∀l a,fN (l::a)=(fN [l]&&fN a):=λl a=>yz [l] a;unfold fQ;rw[aj,aj _ (b.map c),d,d _ (b.map c),h,i]
def aY (a:cO) (c b:Nat):Bool:=decide ((b:Int)∈aX a c)
theorem KY:aY f b a=true↔a<f.length/\jD f b a:=by unfold aY;rw[decide_eq_true_eq,qT]
theorem Bu (b:a<f.length):aY f a a=true:=KY.2 ⟨b,.inl rfl⟩
theorem tL {G:cO} {j:Nat} {x:Int} (b:x∈aX G j):∃a:Nat,x=(a:Int)/\a<G.length/\j<=a/\aY G j a=true:=by have d:=b;unfold aX jO at b;obtain⟨a,e,rfl⟩:=bR.1 b;have c:=qT.1 d;exact⟨a,rfl,c.1,c.2.le,KY.2 c⟩
theorem CK {G:cO} {j:Nat} (i:j<G.length):∃b,aX G j=(j:Int)::b/\∀g∈b,(j:Int)<g:=by
 have a:(j:Int)∈aX G j:=qT.2 ⟨i,.inl rfl⟩;have f:=tJ G j;cases d:aX G j with
 |nil=>rw[d] at a;cases a
 |cons h b=>
  rw[d] at a f;obtain⟨e,k⟩:=mP.1 f;rcases dh.1 a with c|c
  ·subst c;exact⟨b,rfl,e⟩
  have:=e _ c;obtain⟨m,rfl,_,l,_⟩:=tL (G:=G) (j:=j) (x:=h) (by rw[d];simp);omega
theorem tK {G:cO} (a:Nat):(aX G a).length<=G.length:=Hg _ _ _
def gG (b:cO) (d a:Nat):cZ:=gF ((List.range (min d a)).filter λc=>aY b c a)
theorem RV (D:a<=5) (t:f.length=a) (u:eU f) (v:∀z∈f,z.length<4611686018427387904) (s:List hb):yO (some ((a:Int),(f,()),s,()),())=some ((aE a (aX f),(aE a λ_=>[]),(aE a λ_=>none),(aE a λb=>gG f a b),()),()):=by
 unfold yO;dsimp only;rw[Option.bind_some];refine ai (MR u v U) ?_;rw[t];refine ai rfl (ai (gE U) (ai rfl (ai (gE U) (ai rfl (ai (gE U) ?_)))));refine ac.eq_iff.1 ?_;dsimp only;have w:(List.range a).map (aX f)=aE a (aX f):=rfl;rw[w];refine ac.aU (P:=λj=>j=((aE a (aX f),(aE a λ_=>[]),(aE a λ_=>none),(aE a λb=>gG f a b),()),())) ?_ (by rintro _ rfl;exact ac.af.2 rfl);refine ac.steps a (λc d=>d=((c:Int),(aE a (aX f),(aE a λ_=>[]),(aE a λ_=>none),(aE a λb=>gG f c b),()),())) ?_ ?_ ?_
 ·rw[iB,iB];have:(aE a λ_=>([]:cZ))=aE a λb=>gG f 0 b:=dz λb _=>by
   unfold gG;rw[Nat.zero_min];rfl
  rw[<-this];rfl
 ·rintro c _ F rfl;dsimp only;rw[bc (az (show(c:Int)<aq (aE a (aX f)) by rw[aW,bv];omega)),bg U];refine ac.bs (by rw[bM (by rw[bv];omega),gB]) ?_;have C:=tK (G:=f) c;have x:∀c b,(gG f c b).length<=b:=λc b=>by
   unfold gG;rw[uM];refine da (hV _ _) ?_;rw[nG];omega
  refine ac.aU (P:=λj=>j=((aE a (aX f),(aE a λ_=>[]),(aE a λ_=>none),(aE a λb=>gG f (c+1) b),()),())) ?_ (by rintro _ rfl;exact ac.af.2 rfl);refine ac.steps (aX f c).length (λd A=>A=((d:Int),(aE a (aX f),(aE a λ_=>[]),(aE a λ_=>none),(aE a λb=>gG f c b++if(b:Int)∈(aX f c).take d/\c<b then[(c:Int)] else[]),()),())) ?_ ?_ ?_
  ·have:(aE a λb=>gG f c b)=aE a λb=>gG f c b++if(b:Int)∈(aX f c).take 0/\c<b then[(c:Int)] else[]:=dz λb _=>by simp
   rw[<-this];rfl
  ·rintro d _ n rfl;dsimp only;rw[bc (az (show(d:Int)<aq (aX f c) by rw[aW];omega)),bg U];obtain⟨h,r,J,H,E⟩:=tL (List.getElem_mem n);have q:(aX f c).take (d+1)=(aX f c).take d++[(h:Int)]:=(by rw[List.take_add_one,List.getElem?_eq_getElem n,r];rfl);have o:(h:Int)∉(aX f c).take d:=λe=>by
    obtain⟨B,I,i⟩:=Ci.1 e;have:=gu.1 (tJ f c) B d U n U;omega
   refine ac.aU (P:=λj=>j=((aE a (aX f),(aE a λ_=>[]),(aE a λ_=>none),(aE a λb=>gG f c b++if(b:Int)∈(aX f c).take (d+1)/\c<b then[(c:Int)] else[]),()),())) ?_ (by rintro _ rfl;exact ac.af.2 rfl);refine ac.bs (y:=(h:Int)) (by rw[bM n,r]) ?_;have p:∀b:Nat,b≠h->((b:Int)∈(aX f c).take (d+1)↔(b:Int)∈(aX f c).take d):=λb m=>(by rw[q,dO,dP];exact⟨λe=>e.resolve_right λe=>m U,.inl⟩);rw[bu];refine ac.ite (λk=>?_) (λk=>?_)
   ·refine ac.bs (eO (by rw[bv];omega)) ?_;rw[fj U,aM,if_neg (λe=>o e.1),jc];have:=x c h;rw[dU (by simp;omega),aM];refine ac.bs (eO (by rw[bv];omega)) ?_;rw[bc ab];rw[fj U,aM,if_neg (λe=>o e.1),jc,fj U,gS];refine ac.af.2 ?_;have:aE a (eH (λb=>gG f c b++if(b:Int)∈(aX f c).take d/\c<b then[(c:Int)] else[]) h (gG f c h++[(c:Int)]))=aE a λb=>gG f c b++if(b:Int)∈(aX f c).take (d+1)/\c<b then[(c:Int)] else[]:=by
     refine dz λb m=>?_;by_cases i:b=h
     ·subst i;rw[ir,if_pos ⟨by rw[q];simp,U⟩]
     rw[iq _ _ i];have:=p b i;by_cases g:(b:Int)∈(aX f c).take d/\c<b
     ·rw[if_pos g,if_pos ⟨this.2 g.1,g.2⟩]
     rw[if_neg g,if_neg λe=>g ⟨this.1 e.1,e.2⟩]
    rw[<-this]
   refine ac.af.2 ?_;have:(aE a λb=>gG f c b++if(b:Int)∈(aX f c).take d/\c<b then[(c:Int)] else[])=aE a λb=>gG f c b++if(b:Int)∈(aX f c).take (d+1)/\c<b then[(c:Int)] else[]:=by
    refine dz λb m=>?_;by_cases i:b=h
    ·subst i;rw[if_neg U,if_neg U]
    have:=p b i;by_cases g:(b:Int)∈(aX f c).take d/\c<b
    ·rw[if_pos g,if_pos ⟨this.2 g.1,g.2⟩]
    rw[if_neg g,if_neg λe=>g ⟨this.1 e.1,e.2⟩]
   rw[<-this]
  rintro _ rfl;dsimp only;rw[a6 (aw (show¬(((aX f c).length:Nat):Int)<aq (aX f c) by rw[aW];omega)),List.take_of_length_le (Nat.le_refl _)];refine ac.af.2 ?_;have:(aE a λb=>gG f c b++if(b:Int)∈aX f c/\c<b then[(c:Int)] else[])=aE a λb=>gG f (c+1) b:=by
   refine dz λb m=>?_;unfold gG;by_cases k:c<b
   ·rw[fR U,fR U,k3,lw,Jm];congr 1;by_cases l:(b:Int)∈aX f c
    ·rw[if_pos ⟨l,k⟩,vu (by unfold aY;exact az l)];rfl
    rw[if_neg (λe=>l e.1),tk (by unfold aY;simpa using l)];rfl
   rw[Nat.min_eq_right U,Nat.min_eq_right U,if_neg (λe=>k e.2),jc]
  rw[this]
 rintro _ rfl;dsimp only;rw[a6 (aw (show¬((a:Int)<aq (aE a (aX f))) by rw[aW,bv];omega))];exact ac.af.2 rfl
def td (d:Nat->Nat->cT) (b:cO) (e:Nat):Prop:=∀a,a<e->∀c,aY b a c=true->bG (be d (aY b) a c)≠2047
theorem td.of (d:td e f b) {i:Nat} (g:a<b) (j:a<i):∃h,dG (be e (aY f) a i)=some h:=by
 by_cases c:aY f a i=true
 ·exact Ep (d a g i c)
 rw[qR (by simpa using c) U,sI];exact⟨0,rfl⟩
theorem Mc (d:td e f a) {i:Nat} (g:b<a) (m:a<=i) (c:aY f b i=false\/aY f b a=false):pB (be e (aY f)) i a b=some 0:=by
 unfold pB;obtain⟨k,h⟩:=d.of g (i:=i) U;obtain⟨l,j⟩:=d.of g (i:=a) U;rcases c with c|c
 ·rw[qR c U,sI,j,Jf];rfl
 rw[qR c U,sI,h,Jg];rfl
structure kY (A:Nat->Nat->cT) (G:cO) (n j:Nat) (X:List hb):Prop where
 len:X.length=n
 get:∀m,m<j->∃l c,X[m]?=some (some (l,c))/\∀i,i<n->eg l (i:Int)=if aY G m i=true then some (aR (dG (be A (aY G) m i))) else none
theorem Mb (c:Nat->Nat->Int) (a b d:Nat):dc (pB c a b d):=Ek (Bb _ _)
theorem u1 (a:Nat->Nat->cT) (d:Nat->Nat->Int) (c b:Nat):dc (hQ a d c b):=Fm _
theorem LO {g:Nat} (T:g<=5) {f:cZ} {E:List bz} {q:List hb} (I:iN g f E q) {e D:cO} {b:Nat} (x:b<g) (v:td (bh E f) e b) {r:List hb} (J:kY (bh E f) e g b r) (O:cO) (G:cO) {c:Nat} (w:c<g) (z:b<=c):vN (some (G,O,r,(aE g λc=>gG e g c),()),some ((g:Int),(D,()),q,()),(c:Int),(b:Int),())=some (aR (hQ (bh E f) (be (bh E f) (aY e)) b c),()):=by
 unfold vN;refine ai (LK I w x) ?_;refine ai rfl ?_;refine ai (by rw[bM (by rw[bv];omega),gB]) ?_;dsimp only;have M:gG e g b=gF ((List.range b).filter λa=>aY e a b):=(by unfold gG;rw[Nat.min_eq_right U]);rw[M];generalize l:(List.range b).filter (λa=>aY e a b)=d;have u:∀a∈d,a<b/\aY e a b=true:=λa i=>(by rw[<-l] at i;exact⟨List.mem_range.1 (List.mem_filter.1 i).1,(List.mem_filter.1 i).2⟩);have S:d.length<=5:=by rw[<-l];refine Nat.le_trans (List.length_filter_le _ _) ?_;rw[List.length_range];omega
 let Q:=bh E f
 let j:=pB (be (bh E f) (aY e)) c b
 refine ac.eq_iff.1 ?_;refine ac.aU (P:=λp=>p=(jl,(bh E f c b::(d.filter λa=>aY e a c).map j).map aR,())) ?_ ?_
 ·refine ac.steps d.length (λh N=>N=((h:Int),jl,(bh E f c b::((d.take h).filter λa=>aY e a c).map j).map aR,())) rfl ?_ ?_
  ·rintro h _ n rfl;dsimp only;rw[bc (az (show(h:Int)<aq (gF d) by rw[aW,uM];omega)),bg U];refine ac.aU (P:=λp=>p=(jl,(bh E f c b::((d.take (h+1)).filter λa=>aY e a c).map j).map aR,())) ?_ (by rintro _ rfl;exact ac.af.2 rfl);obtain⟨K,L⟩:=u d[h] (List.getElem_mem n);refine ac.bs (y:=((d[h]:Nat):Int)) (by rw[bM (by rw[uM];exact n)];simp[gF]) ?_;rw[Fq n];generalize d[h]=a at*;obtain⟨C,F,s,t⟩:=J.get a K;refine ac.bs rfl (ac.bs (g4 s) ?_);have A:∀B:Nat,iG (α:=bD) (some (C,F)) (B:Int)=eg C (B:Int):=λ_=>rfl;rw[A c,t c w];by_cases k:aY e a c=true
   ·rw[if_pos k,if_pos k,yn,cond_true];refine ac.bs rfl (ac.bs (g4 s) ?_);rw[A b,t b x,if_pos L];refine ac.bs (Hs (iH _) (iH _)) (ac.bs (Ht (Bb _ _)) ?_);have:((d.take h).filter λa=>aY e a c).length<=5:=by
     refine da (hV _ _) ?_;rw[dX];omega
    rw[dU (by simp;omega)];refine ac.af.2 ?_;rw[gb,<-jd,gb];rfl
   rw[if_neg k,if_neg k,Option.isSome_none,cond_false,jc];exact ac.af.2 rfl
  rintro _ rfl;dsimp only;rw[a6 (aw (show¬((d.length:Int)<aq (gF d)) by rw[aW,uM];omega)),List.take_of_length_le (Nat.le_refl _)];exact ac.af.2 rfl
 rintro _ rfl;dsimp only;refine ac.bs (Hu ?_ ?_) (ac.af.2 ?_)
 ·intro R m;rcases dh.1 m with rfl|m
  ·exact iH _
  obtain⟨a,_,rfl⟩:=bR.1 m;exact Mb _ _ _ _
 ·have:=hV (λa=>aY e a c) d;simp only[hU,fL];omega
 have aj:fQ (bh E f c b::(d.filter λa=>aY e a c).map j)=fQ (bh E f c b::d.map j):=L4 λa i o=>Mc v (u a i).1 z (.inl o);have H:fQ (bh E f c b::d.map j)=fQ (bh E f c b::(List.range b).map j):=(by rw[<-l];exact L4 λa i o=>Mc v (gN.1 i) z (.inr o));rw[aj,H];rfl
def fY (c:Nat->Nat->cT) (a:cO) (b:Nat):cZ:=(aX a b).map λd=>be c (aY a) b d.toNat
def fv (b:Nat->Nat->cT) (c:cO) (a:Nat):Int:=open Classical in if lS (hQ b (be b (aY c)) a a)<=0\/nc (be b (aY c) a a)=0 then 231 else if∀d,aY c a d=true->bG (be b (aY c) a d)≠2047 then 0 else 233
def lC (d:Nat->Nat->cT) (e:cO) (i b:Nat) (f:cZ) (g:List hb):Prop:=∃c h,g[b]?=some (some (c,h))/\∀a,a<i->eg c ((a:Nat):Int)=if((a:Nat):Int)∈f then some (aR (dG (be d (aY e) b a))) else none
theorem kY.set {b:Nat->Nat->cT} {c:cO} {f a:Nat} {d:List hb} (e:kY b c f a d) (m:hb):kY b c f a (d.set a m) where
 len:=by rw[vw,e.len]
 get:=λl j=>by obtain⟨k,g,h,i⟩:=e.get l j;exact⟨k,g,by rw[lz U,h],i⟩
theorem kY.next (h:kY e f b a o) (n:lC e f b a (aX f a) o):kY e f b (a+1) o where
 len:=h.len
 get:=λd q=>by
  rcases bp d a with g|g
  ·exact h.get d g
  obtain rfl:d=a:=U;obtain⟨p,j,k,l⟩:=n;refine⟨p,j,k,λi m=>?_⟩;rw[l i m];unfold aY;by_cases c:(i:Int)∈aX f d
  ·rw[if_pos c,if_pos (az c)]
  rw[if_neg c,if_neg (by simpa using c)]
theorem lC.one {b:Nat->Nat->cT} {c:cO} {i a:Nat} {d:List hb} (g:a<d.length) (e:Nat):lC b c i a [(a:Int)] (d.set a (some (g6 [] (a:Int) (aR (dG (be b (aY c) a a))),e))):=by
 refine⟨_,_,kB g,λh j=>?_⟩;rw[xd];by_cases f:h=a
 ·subst f;rw[if_pos rfl,if_pos ab]
 rw[if_neg U,if_neg (by simp;omega)];rfl
theorem lC.add (k:o[a]?=some (some (v,i))) (n:lC e f b a c o) (d:Nat) (s:bD) (l:Nat):lC e f b a (c++[(d:Int)]) (o.set a (some (g6 (g6 v (d:Int) s) (d:Int) (aR (dG (be e (aY f) a d))),l))):=by
 have r:a<o.length:=(eb.1 k).1;obtain⟨u,t,j,p⟩:=n;rw[k] at j;cases j;refine⟨_,_,kB r,λh q=>?_⟩;rw[xd,xd,p h q];by_cases m:h=d
 ·subst m;rw[if_pos rfl,if_pos ab]
 rw[if_neg U,if_neg U];by_cases g:(h:Int)∈c
 ·rw[if_pos g,if_pos (by simp[g])]
 rw[if_neg g,if_neg (by simp[g];omega)]
theorem SC (a3:b<=5) {E:List bz} {F:List hb} (Z:iN b c E F) {V:cO} (em:f.length=b) (r:a<b) (an:td (bh E c) f a) (M:kY (bh E c) f b a o):ac (yP ((aE b (aX f),(aE b λg=>if g<a then fY (bh E c) f g else[]),o,(aE b λd=>gG f b d),()),some ((b:Int),(V,()),F,()),(a:Int),())) λe=>e.2.1=fv (bh E c) f a/\(fv (bh E c) f a=0->∃k,kY (bh E c) f b (a+1) k/\e.1=(aE b (aX f),(aE b λg=>if g<a+1 then fY (bh E c) f g else[]),k,(aE b λd=>gG f b d),())):=by
 classical
 unfold yP;refine ac.bs (LO a3 Z r an M _ _ r (Nat.le_refl _)) ?_;dsimp only;refine ac.bs (mj (u1 _ _ _ _)) ?_;dsimp only;have a4:be (bh E c) (aY f) a a=jx (hQ (bh E c) (be (bh E c) (aY f)) a a) 0:=(by rw[n9];unfold lc;rw[if_pos rfl]);rw[bu];refine ac.ite (λH=>?_) (λH=>?_)
 ·refine ac.af.2 ?_;have n:fv (bh E c) f a=231:=(by unfold fv;rw[if_pos (.inl H)]);exact⟨n.symm,λh=>by rw[n] at h;cases h⟩
 refine ac.bs (TX (u1 _ _ _ _)) ?_;dsimp only;rw[<-a4];have C:=mw (bh E c) (aY f) a a;refine ac.bs (UI C) ?_;dsimp only;rw[dM,bu];refine ac.ite (λI=>?_) (λI=>?_)
 ·refine ac.af.2 ?_;have n:fv (bh E c) f a=231:=(by unfold fv;rw[if_pos (.inr I)]);exact⟨n.symm,λh=>by rw[n] at h;cases h⟩
 have n:fv (bh E c) f a=if∀d,aY f a d=true->bG (be (bh E c) (aY f) a d)≠2047 then 0 else 233:=by unfold fv;rw[if_neg (λh=>h.elim H I)]
 have d2:∀d,d≠a->aY f a d=true->be (bh E c) (aY f) a d=lj (hQ (bh E c) (be (bh E c) (aY f)) a d) (dG (be (bh E c) (aY f) a a)) 0:=λd z A=>(by rw[n9];unfold lc;rw[if_neg z,if_pos A,<-a4]);have d0:∀d,dc (hQ (bh E c) (be (bh E c) (aY f)) a d):=λd=>u1 _ _ _ _;have d4:=@LO b a3 c E F Z f V a r an;have av:=mw (bh E c) (aY f);obtain⟨e,s,d3⟩:=CK (G:=f) (j:=a) U;have a0:∀i∈e,∃d:Nat,i=(d:Int)/\d<b/\a<d/\aY f a d=true:=λi m=>(by obtain⟨d,rfl,z,A,L⟩:=tL (G:=f) (j:=a) (x:=i) (by rw[s];simp[m]);exact⟨d,rfl,U,by have:=d3 _ m;omega,L⟩);have O:(∀d,aY f a d=true->bG (be (bh E c) (aY f) a d)≠2047)↔bG (be (bh E c) (aY f) a a)≠2047/\∀i∈e,bG (be (bh E c) (aY f) a i.toNat)≠2047:=by
  constructor
  ·intro h;refine⟨h a (Bu U),λi m=>?_⟩;obtain⟨d,rfl,_,_,L⟩:=a0 i m;exact h d L
  rintro⟨z,A⟩ d ap;have:(d:Int)∈aX f a:=(by unfold aY at ap;exact of_decide_eq_true ap);rw[s] at this;rcases dh.1 this with X|X
  ·obtain rfl:d=a:=U;exact z
  exact A _ X
 have d6:fY (bh E c) f a=be (bh E c) (aY f) a a::e.map λd=>be (bh E c) (aY f) a d.toNat:=(by unfold fY;rw[s,List.map_cons,Int.toNat_natCast]);have fn:e.length<=5:=(by have:=tK (G:=f) a;rw[s,List.length_cons] at this;omega);have ds:lC (bh E c) f b a (aX f a)=lC (bh E c) f b a ((a:Int)::e):=(by rw[s]);refine ac.bs (sJ C) ?_;dsimp only;refine ac.bs rfl ?_;refine ac.bs (eO (by rw[bv];omega)) ?_;rw[fj r,gS];refine ac.bs rfl ?_;dsimp only;have eq:=M.len;refine ac.bs (eO U) ?_;rw[oP (List.getElem?_eq_getElem (U:a<o.length))];refine ac.bs rfl ?_;dsimp only;have N:kY (bh E c) f b a (o.set a (some (g6 [] (a:Int) (aR (dG (be (bh E c) (aY f) a a))),1))):=M.set _;have ad:lC (bh E c) f b a [(a:Int)] (o.set a (some (g6 [] (a:Int) (aR (dG (be (bh E c) (aY f) a a))),1))):=lC.one U 1;change ac ((qg (be (bh E c) (aY f) a a,())).bind _) _;change kY (bh E c) f b a (o.set a (some (g6 [] (a:Int) (aR (dG (be (bh E c) (aY f) a a))),1))) at N;generalize cv:o.set a (some (g6 [] (a:Int) (aR (dG (be (bh E c) (aY f) a a))),1))=co at N ad;refine ac.bs (AT C) ?_;dsimp only;rw[Bool.not_not,bu];refine ac.ite (λJ=>?_) (λJ=>?_)
 ·refine ac.af.2 ?_;rw[n,if_neg (λh=>(O.1 h).1 J)];exact⟨rfl,λh=>by cases h⟩
 refine ac.bs (by rw[bM (by rw[bv];omega),gB]) ?_;have bl:((fH 1).bind λce=>(some ((aX f a).length)).bind λci=>(gh ce ci (aX f a).length).map λ_=>(ce,ci))=some (1,(aX f a).length):=(by rw[s];show((gh 1 (e.length+1) (e.length+1)).map λ_=>(1,e.length+1))=_;unfold gh;rw[if_pos ⟨U,U⟩];rfl);refine ac.bs bl ?_;dsimp only;have am:((aX f a).take (aX f a).length).drop 1=e:=(by rw[List.take_length,s];rfl);rw[am];clear bl am;refine ac.aU (P:=λT=>(∃k,kY (bh E c) f b a k/\lC (bh E c) f b a ((a:Int)::e) k/\(∀i∈e,bG (be (bh E c) (aY f) a i.toNat)≠2047)/\T=.inl ((aE b (aX f),(aE b λg=>if g<a+1 then fY (bh E c) f g else[]),k,(aE b λd=>gG f b d),()),()))\/∃W,T=.inr (W,233,())/\∃i∈e,bG (be (bh E c) (aY f) a i.toNat)=2047) ?_ ?_
 ·refine ac.steps e.length (λl el=>∃k,kY (bh E c) f b a k/\lC (bh E c) f b a ((a:Int)::e.take l) k/\(∀i∈e.take l,bG (be (bh E c) (aY f) a i.toNat)≠2047)/\el=((l:Int),(aE b (aX f),aE b (eH (λg=>if g<a then fY (bh E c) f g else[]) a (be (bh E c) (aY f) a a::(e.take l).map λd=>be (bh E c) (aY f) a d.toNat)),k,(aE b λd=>gG f b d),()),())) ?_ ?_ ?_
  ·exact⟨co,N,ad,ab,by rw[<-cv];rfl⟩
  ·rintro l _ B ⟨k,u,t,v,rfl⟩;dsimp only;rw[bc (az (show(l:Int)<aq e by rw[aW];omega))];obtain⟨p,S,d7,ex,d1⟩:=a0 e[l] (List.getElem_mem B);have R:e.take (l+1)=e.take l++[(p:Int)]:=(by rw[List.take_add_one,List.getElem?_eq_getElem B,S];rfl);refine ac.bs (y:=(p:Int)) (by rw[bM B,S]) ?_;refine ac.bs (d4 u _ _ d7 U) ?_;dsimp only;refine ac.bs (sJ C) ?_;dsimp only;refine ac.bs (TU (d0 p) (iH _)) ?_;dsimp only;rw[<-d2 p U d1];refine ac.bs (AT (av a p)) ?_;dsimp only;rw[Bool.not_not,bu];refine ac.ite (λK=>?_) (λK=>?_)
   ·exact ac.af.2 (.inr ⟨_,rfl,(p:Int),by rw[<-S];exact bQ B,K⟩)
   obtain⟨d9,cs,w,dl⟩:=t;have Q:a<k.length:=(List.getElem?_eq_some_iff.1 w).1;refine ac.bs (eO Q) (ac.bs (eO (by rw[bv];omega)) ?_);rw[fj r,ir];refine ac.bs rfl ?_;rw[dU (by simp;omega)];refine ac.bs rfl ?_;refine ac.bs (sJ (av a p)) ?_;dsimp only;refine ac.bs (eO (by rw[bv];omega)) ?_;rw[bc ab,fj r,ir];refine ac.bs rfl ?_;rw[fj r,gS];refine ac.bs rfl ?_;dsimp only;refine ac.bs (oP w) ?_;refine ac.bs rfl ?_;rw[oP w];refine ac.bs rfl ?_;dsimp only;rw[bc ab];refine ac.bs (oP (List.getElem?_set_self Q)) ?_;refine ac.bs rfl ?_;rw[oP (List.getElem?_set_self Q)];refine ac.bs rfl ?_;dsimp only;rw[bg U,List.set_set];have aj:aE b (eH (eH (λg=>if g<a then fY (bh E c) f g else[]) a (be (bh E c) (aY f) a a::(e.take l).map λd=>be (bh E c) (aY f) a d.toNat)) a (be (bh E c) (aY f) a a::((e.take l).map λd=>be (bh E c) (aY f) a d.toNat)++[be (bh E c) (aY f) a p]))=aE b (eH (λg=>if g<a then fY (bh E c) f g else[]) a (be (bh E c) (aY f) a a::(e.take (l+1)).map λd=>be (bh E c) (aY f) a d.toNat)):=by
    refine dz λD d5=>?_;by_cases q:D=a
    ·subst q;rw[ir,ir,R,gb];rfl
    rw[iq _ _ q,iq _ _ q,iq _ _ q]
   rw[aj];refine ac.af.2 ⟨_,u.set _,?_,?_,rfl⟩
   ·rw[R,<-jd];exact lC.add w ⟨d9,cs,w,dl⟩ p _ _
   intro i m;rw[R,dO,dP] at m;rcases m with m|rfl
   ·exact v i m
   exact K
  rintro _ ⟨k,u,t,v,rfl⟩;dsimp only;rw[List.take_of_length_le (Nat.le_refl _)] at t v|-;rw[a6 (aw (show¬((e.length:Int)<aq e) by rw[aW];omega))];refine ac.af.2 (.inl ⟨k,u,t,v,?_⟩);have aj:aE b (eH (λg=>if g<a then fY (bh E c) f g else[]) a (be (bh E c) (aY f) a a::e.map λd=>be (bh E c) (aY f) a d.toNat))=aE b λg=>if g<a+1 then fY (bh E c) f g else[]:=by
   refine dz λD d5=>?_;by_cases q:D=a
   ·subst q;rw[ir,if_pos U,d6]
   rw[iq _ _ q];by_cases Y:D<a
   ·rw[if_pos Y,if_pos U]
   rw[if_neg Y,if_neg U]
  rw[aj]
 rintro T (⟨k,u,t,v,rfl⟩|⟨W,rfl,i,m,d8⟩)
 ·dsimp only;refine ac.af.2 ?_;rw[n,if_pos (O.2 ⟨J,v⟩)];exact⟨rfl,λ_=>⟨k,u.next (by rw[ds];exact t),rfl⟩⟩
 dsimp only;refine ac.af.2 ?_;rw[n,if_neg (λh=>(O.1 h).2 i m d8)];exact⟨rfl,λh=>by cases h⟩
def bw (a:cO):Nat->cZ
 |0=>[]
 |j+1=>bw a j++aX a j
def it (a:Nat->Nat->cT) (b:cO):Nat->cZ
 |0=>[]
 |j+1=>it a b j++fY a b j
def ei (c:Nat->Nat->cT) (a:cO) (e:cZ) (b:Nat):dY:=(e,(aE (b+1) (λd=>((bw a d).length:Int)),(bw a b,(it c a b,()))))
def fP:dY:=(([]:aQ),(([]:aQ),(([]:aQ),(([]:aQ),()))))
def iY (b:Nat->Nat->cT) (c:cO) (e:cZ) (d:Nat):rF:=match(List.range d).find? λa=>decide (fv b c a≠0) with
 |some a=>if fv b c a=231 then(fP,(a:Int),231,()) else(fP,0,fv b c a,())
 |none=>(ei b c e d,(d:Int),0,())
theorem IK {o:cZ} (d:∀c,c<a->fv e f c=0) (h:a<b) (g:fv e f a≠0):iY e f o b=if fv e f a=231 then(fP,(a:Int),231,()) else(fP,0,fv e f a,()):=by have:(List.range b).find? (λa=>decide (fv e f a≠0))=some a:=(by rw[List.find?_eq_some_iff_getElem];refine⟨az g,a,by simpa using h,ab,λc i=>?_⟩;simp only[List.getElem_range];simpa using d c i);unfold iY;rw[this]
theorem DW (d:∀b,b<a->fv e f b=0):iY e f c a=(ei e f c a,(a:Int),0,()):=by have:(List.range a).find? (λh=>decide (fv e f h≠0))=none:=(by rw[yh];intro b g;simpa using d b (gN.1 g));unfold iY;rw[this]
theorem HK (b:fv e f a=0):∀c,aY f a c=true->bG (be e (aY f) a c)≠2047:=by
 unfold fv at b;split at b
 ·cases b
 split at b
 ·assumption
 cases b
theorem If (c:∀b,b<a->fv e f b=0):td e f a:=λb d=>HK (c b d)
theorem w2 (a:cO):∀j,(bw a j).length<=j*a.length
 |0=>dQ _
 |j+1=>by rw[bw,lA,eL,gw];have:=w2 a j;have:=tK (G:=a) j;omega
theorem pE (b:Nat->Nat->cT) (a:cO):∀j,(it b a j).length=(bw a j).length
 |0=>rfl
 |j+1=>by rw[bw,it,lA,lA,pE b a j];unfold fY;rw[fL]
theorem Sr (d:c.length<=100000000):zz (c,())=some (c,()):=by
 unfold zz;have a:((bK (([]:cZ).length+c.length)).bind λ_=>some (([]++c:cZ),()))=some (c,()):=(by rw[dU (by simp;omega)];rfl);show mz c.length (some ([],())) ((bK (([]:cZ).length+c.length)).bind λ_=>some (([]++c:cZ),()))=_;unfold mz;rw[a];split
 ·rename_i b;obtain rfl:=lv b;rw[if_pos rfl]
 rfl
theorem TN (r:a<=5) (p:f.length=a) (s:c.length<=1000000) (d:List hb) (i:cO):yQ (some (aE a (aX f),aE a (fY e f),d,i,()),c,())=some (ei e f c a,()):=by
 unfold yQ;refine ai (Sr U) ?_;refine ai rfl ?_;refine ac.eq_iff.1 ?_;dsimp only;refine ac.aU (P:=λh=>h=(fP,ei e f c a,())) ?_ (by rintro _ rfl;exact ac.af.2 rfl);refine ac.steps a (λb j=>j=((b:Int),fP,(c,(aE (b+1) (λg=>((bw f g).length:Int)),(bw f b,(it e f b,())))),())) ?_ ?_ ?_
 ·rfl
 ·rintro b _ q rfl;dsimp only;rw[bc (az (show(b:Int)<aq (aE a (aX f)) by rw[aW,bv];omega)),bg U];refine ac.bs rfl ?_;refine ac.bs (by rw[bM (by rw[bv];omega),gB]) ?_;have k:=w2 f b;have l:=tK (G:=f) b;have m:=pE e f b;have n:b*f.length<=5*5:=Nat.mul_le_mul U U;have o:(fY e f b).length=(aX f b).length:=(by unfold fY;rw[List.length_map]);rw[dU U];refine ac.bs rfl (ac.bs rfl ?_);refine ac.bs (by rw[bM (by rw[bv];omega),gB]) ?_;rw[dU U];refine ac.bs rfl ?_;rw[dU (by rw[bv];simp;omega)];refine ac.bs rfl (ac.af.2 ?_);rw[m4 (b+1)];rfl
 rintro _ rfl;dsimp only;rw[a6 (aw (show¬((a:Int)<aq (aE a (aX f))) by rw[aW,bv];omega))];exact ac.af.2 rfl
theorem FT {n:Nat} {d:cZ} (j:n<=5) (f:fD n n h g d) (H:eW n n h g d=0) (q:dT c n):qc (((n:Int),(n:Int),h,g,d,()),c,())=some (iY (bh (bJ h g d n) c) (jV n (fl (bJ h g d n)) c) c n):=by
 obtain⟨z,D,F⟩:=FY j f H q;have r:=AP (E:=fl (bJ h g d n)) q;have C:=Ih n (fl (bJ h g d n)) c;have B:=Ig (E:=fl (bJ h g d n)) j q;have L:=q.1;unfold qc;refine ai F ?_;dsimp only;rw[a6 (show((0:Int)!=0)=false from rfl)];generalize jV n (fl (bJ h g d n)) c=b at*;generalize bJ h g d n=E at*;refine ai (RV j r C B z) (ai rfl ?_);refine ac.eq_iff.1 ?_;dsimp only;refine ac.aU (P:=λt=>(t=.inr (iY (bh E c) b c n))\/(∃e,t=.inl (fP,(aE n (aX b),aE n (fY (bh E c) b),e,(aE n λs=>gG b n s),()),()))/\iY (bh E c) b c n=(ei (bh E c) b c n,(n:Int),0,())) ?_ ?_
 ·refine ac.steps n (λi I=>(∀a,a<i->fv (bh E c) b a=0)/\∃e,kY (bh E c) b n i e/\I=((i:Int),fP,(aE n (aX b),(aE n λa=>if a<i then fY (bh E c) b a else[]),e,(aE n λs=>gG b n s),()),())) ?_ ?_ ?_
  ·exact⟨λa f=>absurd f U,aE n (λ_=>none),⟨bv _ _,λa f=>absurd f U⟩,rfl⟩
  ·rintro i _ y ⟨k,e,v,rfl⟩;dsimp only;rw[bc (az (U:(i:Int)<(n:Int))),bg U];refine ac.aU (SC j D r y (If k) v) ?_;rintro⟨J,K,_⟩ ⟨x,w⟩;dsimp only at x w|-;subst x;rw[dM,bu];refine ac.ite (λl=>?_) (λl=>?_)
   ·obtain⟨A,G,rfl⟩:=w l;refine ac.af.2 ⟨λa f=>?_,A,G,rfl⟩;rcases bp a i with p|p
    ·exact k a p
    obtain rfl:a=i:=U;exact l
   rw[dM,bu];have u:=IK (o:=c) k y l;refine ac.ite (λm=>?_) (λm=>?_)
   ·refine ac.af.2 (.inl ?_);rw[u,if_pos m,m];rfl
   refine ac.af.2 (.inl ?_);rw[u,if_neg m];rfl
  rintro _ ⟨k,e,v,rfl⟩;dsimp only;rw[a6 (aw (U:¬((n:Int)<(n:Int))))];refine ac.af.2 (.inr ⟨⟨e,?_⟩,DW k⟩);have:(aE n λa=>if a<n then fY (bh E c) b a else[])=aE n (fY (bh E c) b):=dz λa f=>if_pos f;rw[this]
 rintro t (rfl|⟨⟨e,rfl⟩,p⟩)
 ·exact ac.af.2 rfl
 dsimp only;refine ac.bs (TN j r U e _) ?_;rw[p];exact ac.af.2 rfl
theorem Rb (e:fD b a h c n) (f:g.length<=1000000) (d:hR b a h c n g≠0):qc (((b:Int),(a:Int),h,c,n,()),g,())=some (fP,0,hR b a h c n g,()):=by unfold qc;refine ai (FX e f d) ?_;dsimp only;rw[bY,aw d];rfl
theorem Uw (f:dE d):Ag (d,())=some (decide (nc d=0),()):=by
 unfold Ag;have e:nc d=0↔d=0\/d=9223372036854775808:=by
  unfold nc bG eX;obtain⟨g,h⟩:=f;constructor
  ·intro a;split at a
   ·split at a<;>cases a
   split at a
   ·omega
   cases a
  intro a;rw[if_neg U,if_pos U]
 dsimp only;rw[dM,dM];by_cases b:d=0
 ·rw[az b,az (e.2 (.inl b))];rfl
 rw[aw b];by_cases c:d=9223372036854775808
 ·rw[az c,az (e.2 (.inr c))];rfl
 rw[aw c,aw (λa=>(e.1 a).elim b c)];rfl
theorem KW (a:dE d) (b:dE j):ui (d,j,())=some (aR (jZ (dG d) (dG j)),()):=by unfold ui;refine ai (u0 a) (ai (u0 b) ?_);exact ai (Zb (iH _) (iH _)) rfl
theorem Zp (a:dc l):wJ (aR l,())=some (jx l 0,()):=by unfold wJ;exact ai (Zk a) rfl
theorem YM {a:cT} (b:dc l) (c:dc a):Ah (aR l,aR a,())=some (lj l a 0,()):=by unfold Ah;exact ai (Zj b c) rfl
def eG (e:Nat->Nat->cT) (b:cO) (d f a c:Nat):Int:=if(a<d/\aY b a c=true)\/(a=d/\(c:Int)∈(aX b d).take f) then be e (aY b) a c else 0
theorem L9 (h:a<i) (g:b≠a):eG e f i p a b=be e (aY f) a b:=by
 unfold eG;by_cases c:aY f a b=true
 ·rw[if_pos (.inl ⟨h,c⟩)]
 rw[if_neg (by rintro(⟨_,d⟩|⟨d,_⟩);exact c d;omega),qR (by simpa using c) g]
theorem aau:eG e f 0 0 b a=0:=by unfold eG;rw[if_neg ab]
theorem aas:eG e f b (aX f b).length a i=eG e f (b+1) 0 a i:=by
 have h:(a<b/\aY f a i=true\/a=b/\(i:Int)∈aX f b)↔a<b+1/\aY f a i=true:=by
  constructor
  ·rintro(⟨j,d⟩|⟨rfl,d⟩)
   ·exact⟨U,d⟩
   exact⟨U,by unfold aY;exact az d⟩
  rintro⟨j,d⟩;rcases bp a b with c|c
  ·exact .inl ⟨c,d⟩
  obtain rfl:a=b:=U;exact .inr ⟨rfl,by unfold aY at d;exact of_decide_eq_true d⟩
 unfold eG;rw[c9 (a8 _)];by_cases g:a<b+1/\aY f a i=true
 ·rw[if_pos (h.2 g),if_pos (.inl g)]
 rw[if_neg (λc=>g (h.1 c)),if_neg (by rintro(c|⟨_,c⟩);exact g c;simp at c)]
def hS (a:Nat) (b:Nat->Nat->Int):cO:=aE a λc=>aE a (b c)
theorem Y0 (S:i<=5) (Q:∀b a,dc (e b a)) (H:a<i) (G:b<i) (R:a<=b) (n k:dY):ac (loop (σ:=(Int×dY×List aQ×dY×fF×Unit)) (ρ:=(dY×List aQ×dY×fF×Unit)) (λ(j,v,c,o,m,_)=>
 bif decide (j<(a:Int)) then
 (bx c.length j).bind λs=>
 ((bi c s λx=>some x).bind λz=>bx z.length (b:Int)).bind λJ=>
 (bi c s λA=>bi A J λB=>some B).bind λO=>
 (bx c.length j).bind λt=>
 ((bi c t λC=>some C).bind λD=>bx D.length (a:Int)).bind λK=>
 (bi c t λE=>bi E K λF=>some F).bind λP=>
 (ui (O,P,())).bind λ(M,_)=>
 (ud (M,())).bind λ(u,_)=>
 (bK (m.length+([u]).length)).bind λ_=>
 some (.inl (aS j,v,c,o,(m++[u]),())) else
 some (.inr (v,c,o,m,()))) (0,n,hS i (eG e f a p),k,[aR (e b a)],())) λL=>L=(n,hS i (eG e f a p),k,(e b a::(List.range a).map (pB (be e (aY f)) b a)).map aR,()):=by
 refine ac.steps a (λd N=>N=((d:Int),n,hS i (eG e f a p),k,(e b a::(List.range d).map (pB (be e (aY f)) b a)).map aR,())) rfl ?_ ?_
 ·rintro d _ r rfl;dsimp only;rw[bc (az (U:(d:Int)<(a:Int))),bg U];have q:(hS i (eG e f a p)).length=i:=bv _ _;have g:∀h,h<i->∀{w:Type} (l:cZ->Option w),bi (hS i (eG e f a p)) h l=l (aE i (eG e f a p h)):=λh I w l=>fj I;refine ac.bs (eO (by rw[q];omega)) ?_;rw[g d U];refine ac.bs (y:=b) ?_ ?_
  ·rw[aM,eO (by rw[bv];omega)]
  rw[g d U,fj G];refine ac.bs rfl ?_;refine ac.bs (eO (by rw[q];omega)) ?_;rw[g d U];refine ac.bs (y:=a) ?_ ?_
  ·rw[aM,eO (by rw[bv];omega)]
  rw[g d U,fj H];refine ac.bs rfl ?_;rw[L9 r U,L9 r U];refine ac.bs (KW (mw _ _ _ _) (mw _ _ _ _)) ?_;dsimp only;refine ac.bs (Lf (Bb _ _)) ?_;dsimp only;rw[dU (by simp;omega)];refine ac.af.2 ?_;rw[List.range_succ,List.map_append,<-List.cons_append,List.map_append];rfl
 rintro _ rfl;dsimp only;rw[a6 (aw (U:¬((a:Int)<(a:Int))))];exact ac.af.2 rfl
def kG (b:Nat->Nat->cT) (c:cO) (a:Nat):Prop:=lS (hQ b (be b (aY c)) a a)<=0\/nc (be b (aY c) a a)=0
theorem Di (b:kG e f a):fv e f a=231:=by unfold fv;exact if_pos b
theorem Tf (c:¬kG e f a) (g:aY f a b=true) (d:bG (be e (aY f) a b)=2047):fv e f a=233:=by unfold kG at c;unfold fv;rw[if_neg c,if_neg (λc=>c b g d)]
theorem Dh (b:¬kG e f a) (d:∀h∈aX f a,bG (be e (aY f) a h.toNat)≠2047):fv e f a=0:=by unfold kG at b;unfold fv;rw[if_neg b,if_pos];intro g c;exact d (g:Int) (by unfold aY at c;exact of_decide_eq_true c)
def m5 (c:Nat->Nat->cT) (a:cO) (g:cZ) (b d:Nat):dY:=(g,(aE (b+1) (λf=>((bw a f).length:Int)),(bw a b++(aX a b).take d,(it c a b++((aX a b).take d).map (λe=>be c (aY a) b e.toNat),()))))
theorem aat (l:b<(aX f a).length) (n:(aX f a)[b]=(i:Int)) (o:a<p) (r:i<p):(hS p (eG e f a b)).set a ((aE p (eG e f a b a)).set i (be e (aY f) a i))=hS p (eG e f a (b+1)):=by
 have k:(aX f a).take (b+1)=(aX f a).take b++[(i:Int)]:=(by rw[hq,bo l,n];rfl);unfold hS;rw[gS,gS];refine dz λd q=>?_;by_cases g:d=a
 ·subst g;rw[ir];refine dz λc m=>?_;by_cases j:c=i
  ·subst j;rw[ir];unfold eG;rw[if_pos (.inr ⟨rfl,by rw[k];simp⟩)]
  rw[iq _ _ j];unfold eG;have:(c:Int)∈(aX f d).take (b+1)↔(c:Int)∈(aX f d).take b:=(by rw[k,dO,dP];exact⟨λh=>h.resolve_right U,.inl⟩);simp only[this]
 rw[iq _ _ g];refine dz λc m=>?_;unfold eG;have:(d=a/\(c:Int)∈(aX f a).take (b+1))↔(d=a/\(c:Int)∈(aX f a).take b):=(by constructor<;>(rintro⟨h,_⟩;exact absurd h g));simp only[this]
theorem YV (O:a<=5) (v:fD a a h g n) (L:eW a a h g n=0) (w:dT c a):r9 (((a:Int),(a:Int),h,g,n,()),c,())=some (iY (bh (bJ h g n a) c) (jV a (fl (bJ h g n a)) c) c a):=by
 classical
 have co:=AP (E:=fl (bJ h g n a)) w;have cs:=Ih a (fl (bJ h g n a)) c;have ci:=Ig (E:=fl (bJ h g n a)) O w;have ex:=w.1;have ce:=λq b (d1:q<a) (t:b<a)=>K1 v L w d1 t;unfold r9;refine ai (By v U) ?_;have d7:(if eW a a h g n≠0 then eW a a h g n else if a≠a then 5 else if dT c a then 0 else 90)=0:=(by rw[if_neg (not_not_intro L),if_neg (not_not_intro rfl),if_pos w]);rw[d7];dsimp only;rw[a6 (show((0:Int)!=0)=false from rfl)];refine ai (YT O v L w) ?_;dsimp only;generalize jV a (fl (bJ h g n a)) c=d at*;generalize bJ h g n a=E at*;refine ai (Zd cs ci U) ?_;dsimp only;rw[co];have dl:(List.range a).map (aX d)=aE a (aX d):=rfl;rw[dl];generalize bl:bh E c=e at*;have Y:∀q b,dc (e q b):=λq b=>(by rw[<-bl];exact iH _);refine ac.eq_iff.1 ?_;refine ac.bs (gE U) ?_;refine ac.aU (P:=λav=>av=(fP,hS a (eG e d 0 0),())) ?_ ?_
 ·refine ac.steps a (λb B=>B=((b:Int),fP,aE a (λk=>if k<b then aE a (eG e d 0 0 k) else[]),())) ?_ ?_ ?_
  ·rw[iB];rfl
  ·rintro b _ t rfl;dsimp only;rw[bc (az (U:(b:Int)<(a:Int))),bg U];refine ac.bs (gE U) ?_;rw[i5 (by rw[bv];omega),gS,iB];refine ac.af.2 ?_;have:aE a (eH (λk=>if k<b then aE a (eG e d 0 0 k) else[]) b (aE a λ_=>0))=aE a (λk=>if k<b+1 then aE a (eG e d 0 0 k) else[]):=by
    refine dz λS ap=>?_;by_cases l:S=b
    ·subst l;rw[ir,if_pos U];exact dz λq _=>aau.symm
    rw[iq _ _ l];by_cases s:S<b
    ·rw[if_pos s,if_pos U]
    rw[if_neg s,if_neg U]
   rw[this]
  rintro _ rfl;dsimp only;rw[a6 (aw (U:¬((a:Int)<(a:Int))))];have:aE a (λk=>if k<a then aE a (eG e d 0 0 k) else[])=hS a (eG e d 0 0):=dz λS ap=>if_pos ap;rw[this];exact ac.af.2 rfl
 rintro _ rfl;dsimp only;rw[dU (by simp;omega),Option.bind_some];refine ac.aU (P:=λp=>(p=.inr (iY e d c a))\/(p=.inl (fP,ei e d c a,())/\iY e d c a=(ei e d c a,(a:Int),0,()))) ?_ ?_
 ·refine ac.steps a (λb B=>(∀k,k<b->fv e d k=0)/\B=((b:Int),fP,hS a (eG e d b 0),m5 e d c b 0,())) ?_ ?_ ?_
  ·exact⟨λk v=>absurd v U,rfl⟩
  ·rintro b _ t ⟨z,rfl⟩;dsimp only;rw[bc (az (U:(b:Int)<(a:Int))),bg U];have em:=If z;have Z:=λm=>IK (o:=c) z t m;obtain⟨av,H,fn⟩:=CK (G:=d) (j:=b) U;have el:=tK (G:=d) b;have N:=mw e (aY d);have am:be e (aY d) b b=jx (hQ e (be e (aY d)) b b) 0:=by
    rw[n9];unfold lc;rw[if_pos rfl]
   have d5:∀q,q≠b->aY d b q=true->be e (aY d) b q=lj (hQ e (be e (aY d)) b q) (dG (be e (aY d) b b)) 0:=λq a3 X=>(by rw[n9];unfold lc;rw[if_neg a3,if_pos X,<-am]);have d6:∀q,∀W∈(e q b::(List.range b).map (pB (be e (aY d)) q b)),dc W:=λq W K=>by
    rcases dh.1 K with rfl|K
    ·exact Y _ _
    obtain⟨k,_,rfl⟩:=bR.1 K;exact Mb _ _ _ _
   have eq:=w2 d b;have fp:=pE e d b;have d9:b*d.length<=5*5:=ia U U;refine ac.aU (P:=λp=>(∃r,p=.inr (.inr (.inr r))/\r=iY e d c a)\/(p=.inl (fP,hS a (eG e d b (aX d b).length),m5 e d c b (aX d b).length,())/\fv e d b=0)) ?_ ?_
   ·refine ac.steps (aX d b).length (λf B=>(0<f->¬kG e d b)/\(∀T∈(aX d b).take f,bG (be e (aY d) b T.toNat)≠2047)/\B=((f:Int),fP,hS a (eG e d b f),m5 e d c b f,())) ?_ ?_ ?_
    ·exact⟨λm=>absurd m U,ab,rfl⟩
    ·rintro f _ x ⟨Q,C,rfl⟩;dsimp only;have D:ay (aE a (aX d)) (b:Int)=some (aX d b):=(by rw[bM (by rw[bv];omega),gB]);refine ac.bs D ?_;rw[bc (az (show(f:Int)<aq (aX d b) by rw[aW];omega)),bg U];obtain⟨i,R,fs,d4,ad⟩:=tL (G:=d) (j:=b) (List.getElem_mem x);have I:i<a:=U;have an:(aX d b).take (f+1)=(aX d b).take f++[(i:Int)]:=(by rw[List.take_add_one,List.getElem?_eq_getElem x,R];rfl);have d8:i=b↔f=0:=by
      constructor
      ·intro m;rcases h9 f with l|l
       ·exact l
       have X:=gu.1 (tJ d b) 0 f U x l;have a4:(aX d b)[0]'(by omega)=(b:Int):=by simp only[H,List.getElem_cons_zero]
       omega
      rintro rfl;have a4:(aX d b)[0]'(by omega)=(b:Int):=by simp only[H,List.getElem_cons_zero]
      omega
     refine ac.aU (P:=λp=>(∃r,p=.inr (.inr (.inr (.inr (.inr r))))/\r=iY e d c a)\/(p=.inl (fP,hS a (eG e d b (f+1)),m5 e d c b (f+1),())/\¬kG e d b/\bG (be e (aY d) b i)≠2047)) ?_ ?_
     ·refine ac.bs D (ac.bs (y:=(i:Int)) (by rw[bM x,R]) ?_);refine ac.bs (ce i b I t) ?_;dsimp only;refine ac.aU (Y0 O Y t I d4 fP (m5 e d c b f)) ?_;rintro _ rfl;dsimp only;refine ac.bs (EZ (d6 i) (by simp;omega)) ?_;dsimp only;change ac (Option.bind (bif (i:Int)==(b:Int) then(wJ (aR (hQ e (be e (aY d)) b i),())).bind _ else _) _) _;rw[dM];refine ac.aU (P:=λp=>(∃r,p=.inr (.inr (.inr (.inr (.inr (.inr r)))))/\r=iY e d c a)\/(p=.inl (be e (aY d) b i,fP,hS a (eG e d b f),m5 e d c b f,())/\¬kG e d b)) ?_ ?_
      ·rw[bu];refine ac.ite (λl=>?_) (λl=>?_)
       ·obtain rfl:i=b:=U;have cv:kG e d i->iY e d c a=(fP,(i:Int),231,()):=λm=>by
         rw[Z (by rw[Di m];decide),if_pos (Di m)]
        refine ac.bs (Zp (u1 _ _ _ _)) ?_;dsimp only;rw[<-am];refine ac.aU (P:=λp=>p=(decide (kG e d i),fP,hS a (eG e d i f),m5 e d c i f,())) ?_ ?_
        ·refine ac.bs (Lg (u1 _ _ _ _)) ?_;dsimp only;rw[Hj];refine ac.ite (λs=>?_) (λs=>?_)
         ·refine ac.af.2 ?_;rw[az (show kG e d i from .inl s)]
         refine ac.bs (Uw (N i i)) (ac.af.2 ?_);have:kG e d i↔nc (be e (aY d) i i)=0:=⟨λm=>m.resolve_left s,.inr⟩;rw[decide_eq_decide.2 this]
        rintro _ rfl;dsimp only;rw[bu];refine ac.ite (λs=>?_) (λs=>?_)
        ·exact ac.af.2 (.inl ⟨_,rfl,(cv s).symm⟩)
        exact ac.af.2 (.inr ⟨rfl,s⟩)
       have ds:0<f:=by
        rcases h9 f with m|m
        ·exact absurd (d8.2 m) U
        exact m
       have M:(hS a (eG e d b f)).length=a:=bv _ _;have A:∀{V:Type} (l:cZ->Option V),bi (hS a (eG e d b f)) b l=l (aE a (eG e d b f b)):=λl=>fj t;refine ac.bs (eO (by rw[M];omega)) ?_;refine ac.bs (y:=b) ?_ ?_
       ·rw[A,aM,eO (by rw[bv];omega)]
       rw[A,fj t];refine ac.bs rfl ?_;have d3:(b:Int)∈(aX d b).take f:=by
        rw[H];cases f with
        |zero=>omega
        |succ f=>simp
       have d2:eG e d b f b b=be e (aY d) b b:=(by unfold eG;exact if_pos (.inr ⟨rfl,d3⟩));rw[d2];refine ac.bs (u0 (N b b)) ?_;dsimp only;refine ac.bs (YM (u1 _ _ _ _) (iH _)) ?_;change ac (some (Sum.inl (lj (hQ e (be e (aY d)) b i) (dG (be e (aY d) b b)) 0,fP,hS a (eG e d b f),m5 e d c b f,()))) _;rw[<-d5 i U ad];exact ac.af.2 (.inr ⟨rfl,Q ds⟩)
      rintro p (⟨r,rfl,u⟩|⟨rfl,F⟩)
      ·exact ac.af.2 (.inl ⟨r,rfl,u⟩)
      dsimp only;refine ac.bs (xM (N b i)) ?_;dsimp only;rw[Bool.not_not,bu];refine ac.ite (λl=>?_) (λl=>?_)
      ·refine ac.af.2 (.inl ⟨_,rfl,?_⟩);have u:=Tf F ad l;rw[Z (by rw[u];decide),u,if_neg aa];rfl
      have M:(hS a (eG e d b f)).length=a:=bv _ _;have A:∀{V:Type} (l:cZ->Option V),bi (hS a (eG e d b f)) b l=l (aE a (eG e d b f b)):=λl=>fj t;refine ac.bs (eO (by rw[M];omega)) ?_;refine ac.bs (y:=i) ?_ ?_
      ·rw[A,aM,eO (by rw[bv];omega)]
      rw[A,fj I];refine ac.bs rfl ?_;dsimp only;rw[aat x R t I];unfold m5;dsimp only;rw[dU (by simp;omega),Option.bind_some,dU (by simp;omega),Option.bind_some];refine ac.af.2 (.inr ⟨?_,F,l⟩);rw[an,List.map_append,List.append_assoc,List.append_assoc];rfl
     rintro p (⟨r,rfl,u⟩|⟨rfl,F,d0⟩)
     ·exact ac.af.2 (.inl ⟨r,rfl,u⟩)
     refine ac.af.2 ⟨λ_=>F,λT J=>?_,rfl⟩;rw[an,dO,dP] at J;rcases J with J|rfl
     ·exact C T J
     exact d0
    rintro _ ⟨Q,C,rfl⟩;dsimp only;have D:ay (aE a (aX d)) (b:Int)=some (aX d b):=(by rw[bM (by rw[bv];omega),gB]);refine ac.bs D ?_;rw[a6 (aw (show¬(((aX d b).length:Nat):Int)<aq (aX d b) by rw[aW];omega))];rw[List.take_of_length_le (Nat.le_refl _)] at C;exact ac.af.2 (.inr ⟨rfl,Dh (Q (by rw[H];simp)) C⟩)
   rintro p (⟨r,rfl,u⟩|⟨rfl,a0⟩)
   ·exact ac.af.2 (.inl (by rw[u]))
   dsimp only;unfold m5;dsimp only;rw[List.take_of_length_le (Nat.le_refl _)];rw[dU (by rw[bv];simp;omega),Option.bind_some];refine ac.af.2 ⟨λk v=>?_,?_⟩
   ·rcases bp k b with m|m
    ·exact z k m
    obtain rfl:k=b:=U;exact a0
   have aj:hS a (eG e d b (aX d b).length)=hS a (eG e d (b+1) 0):=dz λk _=>dz λq _=>aas;rw[aj,m4 (b+1),List.take_zero,jc,pS,jc];rfl
  rintro _ ⟨z,rfl⟩;dsimp only;rw[a6 (aw (U:¬((a:Int)<(a:Int))))];refine ac.af.2 (.inr ⟨?_,DW z⟩);unfold m5 ei;rw[List.take_zero,List.append_nil,List.map_nil,List.append_nil]
 rintro p (rfl|⟨rfl,m⟩)
 ·exact ac.af.2 rfl
 rw[m];exact ac.af.2 rfl
theorem YU (e:fD b a h c n) (f:g.length<=1000000) (d:hR b a h c n g≠0):r9 (((b:Int),(a:Int),h,c,n,()),g,())=some (fP,0,hR b a h c n g,()):=by unfold r9;refine ai (By e f) ?_;dsimp only;change(bif hR b a h c n g !=0 then _ else _)=_;rw[bY,aw d];rfl
theorem xo {m:Int} {a k:Nat} (b:m.natAbs=2*a+1):a1 (m*2^k)=m/\eh (m*2^k)=(k:Int)-65536:=by have c:(m*2^k).natAbs=(2*a+1)*2^k:=(by rw[lg,b]);have d:=u9 c;unfold a1 eh;rw[d];exact⟨Int.mul_ediv_cancel _ (by have:(0:Int)<2^k:=mN aa;omega),rfl⟩
theorem EQ (b:d≠0) (a:Nat):d*2^a≠0:=Int.mul_ne_zero b (by have:(0:Int)<2^a:=mN aa;omega)
theorem Eb {m:Int} {a:Nat} (e:m.natAbs=2*a+1) {t:Nat} (n:d+t+65536=(b:Int)) (k:-65536<=d) (l:d+t+ax m.natAbs<=65536):e9 (m*2^t) d=some (m*2^b):=by have j:m≠0:=U;have f:(m*2^t).natAbs=(2*a+1)*2^t:=(by rw[lg,e]);have g:=u9 f;have h:ax (m*2^t).natAbs=ax m.natAbs+t:=(by rw[lg,k8 U]);unfold e9;rw[if_neg (EQ j t),g,h,if_neg U];obtain⟨c,i⟩:=ew (U:0<=d+65536);rw[i];show some (nr (m*2^t) (c:Int))=_;rw[lT,ja,<-jb,(U:t+c=b)]
theorem Dm {m:Int} {a t k:Nat} (c:d=m*2^t) (b:m.natAbs=2*a+1) (f:(t:Int)+65536=(k:Int)) (e:t+ax m.natAbs<=65536):mr d=some (m*2^k):=by unfold mr;rw[c];exact Eb b U aa U
theorem Dq {a:Nat} (e:d.natAbs=2*a+1) (f:0<d) (c:Int):og (some (d*2^b)) c=h7 false d.natAbs ((b:Int)-65536) false c:=by obtain⟨g,h⟩:=xo (k:=b) e;show xO (d*2^b) c=_;unfold xO;rw[if_neg (EQ U b),g,h,aw];have:(0:Int)<d*2^b:=nA f (mN aa);omega
theorem TE {a:Nat} (c:d.natAbs=2*a+1) (e:0<d):jx (some (d*2^b)) 0=oh (im d.natAbs ((b:Int)-65536)) d.natAbs ((b:Int)-65536) 0:=by obtain⟨f,g⟩:=xo (k:=b) c;have:(0:Int)<d*2^b:=nA e (mN aa);show(if d*2^b<0 then(9221120237041090560:Int) else if d*2^b=0 then 0 else np (d*2^b) 0)=_;rw[if_neg U,if_neg U];unfold np;rw[f,g]
theorem TD {a b:Nat} (f:d.natAbs=2*a+1) (g:0<d) (c:j.natAbs=2*b+1) (e:0<j):lj (some (d*2^i)) (some (j*2^p)) 0=pq (li d.natAbs j.natAbs) d.natAbs j.natAbs false ((i:Int)-65536-((p:Int)-65536)) 0:=by obtain⟨h,l⟩:=xo (k:=i) f;obtain⟨m,n⟩:=xo (k:=p) c;have o:(0:Int)<d*2^i:=nA g (mN aa);have q:(0:Int)<j*2^p:=nA e (mN aa);show(if j*2^p=0 then(9221120237041090560:Int) else if d*2^i=0 then 0 else sR (d*2^i) (j*2^p) 0)=_;rw[if_neg U,if_neg U];unfold sR;rw[h,l,m,n,aw U,aw U];rfl
theorem Az {a t:Nat} (c:j.natAbs=2*a+1) (g:(if d<9223372036854775808 then if bG d=0 then eX d else eX d+4503599627370496 else-(if bG d=0 then eX d else eX d+4503599627370496))=j*2^t) (f:bG d≠2047) (h:(if bG d=0 then-1074 else bG d-1075)+(t:Int)+65536=(b:Int)) (e:(if bG d=0 then-1074 else bG d-1075)+(t:Int)+ax j.natAbs<=65536):dG d=some (j*2^b):=by unfold dG;rw[if_neg f,g];refine Eb c h ?_ e;have:=wS d;split<;>omega
theorem f4:og (mr 4) 0=4616189618054758400:=by rw[Dm (m:=1) (a:=0) (t:=2) (k:=65538) aa aa aa aa,Dq (a:=0) aa aa];decide
theorem f2:og (mr 2) 0=4611686018427387904:=by rw[Dm (m:=1) (a:=0) (t:=1) (k:=65537) aa aa aa aa,Dq (a:=0) aa aa];decide
theorem f5:og (mr 5) 0=4617315517961601024:=by rw[Dm (m:=5) (a:=2) (t:=0) (k:=65536) aa aa aa aa,Dq (a:=2) aa aa];decide
theorem v4:dG 4616189618054758400=some (1*2^65538):=Az (a:=0) (t:=52) aa aa aa aa aa
theorem e1:dG 4611686018427387904=some (1*2^65537):=Az (a:=0) (t:=52) aa aa aa aa aa
theorem B3:dG 4617315517961601024=some (5*2^65536):=Az (a:=2) (t:=50) aa aa aa aa aa
theorem v1:dG 4607182418800017408=some (1*2^65536):=Az (a:=0) (t:=52) aa aa aa aa aa
theorem aL:jx (some (1*2^65538)) 0=4611686018427387904:=by rw[TE (a:=0) aa aa];decide+kernel
theorem ar:lj (some (1*2^65537)) (some (1*2^65537)) 0=4607182418800017408:=by rw[TD (a:=0) (b:=0) aa aa aa aa];decide
def wQ:cZ:=[0,1,1]
def wR:cZ:=[0,2,3]
def sk:cZ:=[4616189618054758400,4611686018427387904,4617315517961601024]
theorem TG:fD 2 2 wR wQ sk where
 hr:=by decide
 hc:=by decide
 hi:=by decide
 hs:=by decide
 hv:=by decide
 hw:=λb a=>by unfold sk at a;simp only[dh,List.not_mem_nil,or_false] at a;rcases a with rfl|rfl|rfl<;>exact⟨aa,aa⟩
theorem TH:et 2 2 wR wQ sk where
 len:=rfl
 first:=rfl
 mono:=λb e=>by have:b=0\/b=1:=U;rcases this with rfl|rfl<;>decide
 last:=rfl
 val:=rfl
 rng:=λb a e c d=>by
  have:b=0\/b=1:=U;rcases this with rfl|rfl
  ·change(0:Int)<=a at c;change(a:Int)<2 at d;have:a=0\/a=1:=U;rcases this with rfl|rfl<;>exact⟨aa,aa⟩
  change(2:Int)<=a at c;change(a:Int)<3 at d;have:a=2:=U;subst this;exact⟨aa,aa⟩
 asc:=λb a e c d=>by
  have:b=0\/b=1:=U;rcases this with rfl|rfl
  ·change(0:Int)<a at c;change(a:Int)<2 at d;have:a=1:=U;subst this;decide
  change(2:Int)<a at c;change(a:Int)<3 at d;omega
theorem Tt:eW 2 2 wR wQ sk=0:=by refine jj.2 ⟨TH,λa b=>?_⟩;have:a=0\/a=1\/a=2:=(by have:sk.length=3:=rfl;omega);rcases this with rfl|rfl|rfl<;>decide
theorem TB:dT [0,1] 2:=⟨rfl,λb a=>by
 simp only[dh,List.not_mem_nil,or_false] at a;rcases a with rfl|rfl<;>exact⟨aa,aa⟩,aa⟩
def o9:List bz:=[(0,0,4616189618054758400,()),(1,0,4611686018427387904,()),(1,1,4617315517961601024,())]
theorem Tw:bJ wR wQ sk 2=o9:=rfl
def fw:cO:=[[1],[0]]
theorem Tx:jV 2 (fl o9) [0,1]=fw:=by decide
theorem Ay:aX fw 0=[0,1]:=by have a:jD fw 0 0:=.inl rfl;have b:jD fw 0 1:=.inr ⟨aa,.one ⟨aa,aa⟩⟩;unfold aX jO;show((List.filter _ [0,1]).map _)=_;simp[jH,a,b]
theorem Dl:aX fw 1=[1]:=by have a:jD fw 1 1:=.inl rfl;unfold aX jO;show((List.filter _ [0,1]).map _)=_;simp[jH,a]
theorem To:bh o9 [0,1] 0 0=some (1*2^65538):=v4
theorem Tp:bh o9 [0,1] 1 0=some (1*2^65537):=e1
theorem Tq:bh o9 [0,1] 1 1=some (5*2^65536):=B3
theorem L5 (b:dc l):fQ [l]=l:=by
 cases l with
 |none=>rfl
 |some a=>
  have c:=b a rfl;show(if(true&&true)=true then k9 (a+0) else none)=_;rw[if_pos (show(true&&true)=true from rfl),Int.add_zero];unfold k9;rw[if_pos c]
theorem TA (f:(b:Int)-65536=0):jZ (some (1*2^b)) (some (1*2^b))=some (1*2^b):=by obtain⟨c,d⟩:=xo (m:=1) (a:=0) (k:=b) aa;have e:bj (1*2^b)=0:=(by unfold bj;rw[if_neg (EQ aa _),d,f]);show e9 (a1 (1*2^b)*a1 (1*2^b)) (bj (1*2^b)+bj (1*2^b))=_;rw[c,e];exact Eb (m:=1) (a:=0) (t:=0) aa U aa aa
theorem Tz:jZ (some (1*2^65536)) (some (1*2^65536))=some (1*2^65536):=TA aa
theorem Tr (a:Nat):(5:Int)*2^a+(-(1*2^a)+0)=1*2^(a+2):=by rw[Int.pow_succ,Int.pow_succ];generalize(2:Int)^a=b;omega
theorem Ts (c:a+2=b) (d:dc (some (1*2^b))):fQ [some ((5:Int)*2^a),ob (some (1*2^a))]=some (1*2^b):=by show(if(true&&(true&&true))=true then k9 (5*2^a+(-(1*2^a)+0)) else none)=_;rw[if_pos (show(true&&(true&&true))=true from rfl),Tr,c];unfold k9;rw[if_pos (d _ rfl)]
abbrev hz:Nat->Nat->cT:=bh o9 [0,1]
theorem Dr:hQ hz (be hz (aY fw)) 0 0=some (1*2^65538):=by show fQ [bh o9 [0,1] 0 0]=_;rw[To,<-v4];exact L5 (iH _)
theorem TF:hQ hz (be hz (aY fw)) 0 1=some (1*2^65537):=by show fQ [bh o9 [0,1] 1 0]=_;rw[Tp,<-e1];exact L5 (iH _)
theorem Dn:be hz (aY fw) 0 0=4611686018427387904:=by rw[n9];unfold lc;rw[if_pos rfl,Dr,aL]
theorem TC:aY fw 0 1=true:=by unfold aY;rw[Ay];decide
theorem Do:be hz (aY fw) 0 1=4607182418800017408:=by rw[n9];unfold lc;rw[if_neg aa,if_pos TC,TF,Dr,aL,e1,ar]
theorem HM:hQ hz (be hz (aY fw)) 1 1=some (1*2^65538):=by show fQ [bh o9 [0,1] 1 1,ob (jZ (dG (be hz (aY fw) 0 1)) (dG (be hz (aY fw) 0 1)))]=_;rw[Tq,Do,v1,Tz];exact Ts rfl (by rw[<-v4];exact iH _)
theorem Dp:be hz (aY fw) 1 1=4611686018427387904:=by rw[n9];unfold lc;rw[if_pos rfl,HM,aL]
theorem BK (a:0<d):dH d=1:=by unfold dH;rw[if_neg U,if_neg U]
theorem KV (a:Nat):(0:Int)<1*2^a:=nA aa (mN aa)
theorem Tu:fv hz fw 0=0:=by
 refine Dh ?_ ?_
 ·unfold kG;rw[Dr,Dn];rintro(b|b)
  ·have:lS (some (1*2^65538))=1:=BK (KV _);omega
  revert b;decide
 intro c a;rw[Ay] at a;simp only[dh,List.not_mem_nil,or_false] at a;rcases a with rfl|rfl
 ·show bG (be hz (aY fw) 0 0)≠2047;rw[Dn];decide
 show bG (be hz (aY fw) 0 1)≠2047;rw[Do];decide
theorem Tv:fv hz fw 1=0:=by
 refine Dh ?_ ?_
 ·unfold kG;rw[HM,Dp];rintro(b|b)
  ·have:lS (some (1*2^65538))=1:=BK (KV _);omega
  revert b;decide
 intro c a;rw[Dl] at a;simp only[dh,List.not_mem_nil,or_false] at a;subst a;show bG (be hz (aY fw) 1 1)≠2047;rw[Dp];decide
theorem Ty:qc ((2,(2,(wR,(wQ,(sk,()))))),[0,1],())=some (([0,1],([0,2,3],([0,1,1],([4611686018427387904,4607182418800017408,4611686018427387904],())))),2,0,()):=by
 have a:=FT (n:=2) aa TG Tt TB;rw[Tw,Tx,DW (λb g=>by
  have:b=0\/b=1:=U;rcases this with rfl|rfl
  ·exact Tu
  exact Tv)] at a
 refine a.trans ?_;have c:fY hz fw 0=[4611686018427387904,4607182418800017408]:=(by unfold fY;rw[Ay,ep,ep,pS];show[be hz (aY fw) 0 0,be hz (aY fw) 0 1]=_;rw[Dn,Do]);have aj:fY hz fw 1=[4611686018427387904]:=(by unfold fY;rw[Dl,ep,pS];show[be hz (aY fw) 1 1]=_;rw[Dp]);have d:bw fw 0=[]:=rfl;have i1:bw fw 1=[0,1]:=(by show[]++aX fw 0=_;rw[Ay];rfl);have e:bw fw 2=[0,1,1]:=(by show bw fw 1++aX fw 1=_;rw[i1,Dl];rfl);have f:it hz fw 2=[4611686018427387904,4607182418800017408,4611686018427387904]:=(by show([]++fY hz fw 0)++fY hz fw 1=_;rw[c,aj];rfl);unfold ei;rw[m4,m4,m4,HO,d,i1,e,f];rfl
theorem FK (a b:cZ) (c:a.length<4611686018427387904):zJ (a,b,())=some (a==b,()):=Cd a b c
theorem RS:zM ()=some (true,()):=by unfold zM;refine ai (BF aa aa) (ai (BF aa aa) (ai (BF aa aa) ?_));dsimp only;rw[f4,f2,f5];refine ai Ty ?_;dsimp only;rw[bc aa,bc aa];refine ai (Cd _ _ aa) ?_;dsimp only;rw[bc aa];refine ai (FK _ _ aa) ?_;rfl
def kF (g f e:Nat) (h a d:cZ):Prop:=∃c,c<=a.length/\et g f h (a.take c) (d.take c)/\d.length=a.length/\(∀b,c<=b->b<a.length->0<=a.getD b 0/\a.getD b 0<(e:Int))/\(∀b,c<b->b<a.length->a.getD (b-1) 0<a.getD b 0)
theorem et.open (d:et b a g c h):kF b a 0 g c h:=
 ⟨c.length,a8 _,by rw[c9 (a8 _),c9 (Nat.le_of_eq d.val)];exact d,d.val,λi f e=>absurd e U,λi f e=>absurd e U⟩
theorem kF.skip (f:kF i b a g c h):kF i b (a+1) g c h:=by obtain⟨o,j,k,l,m,n⟩:=f;exact⟨o,j,k,l,λp d e=>by have:=m p d e;omega,n⟩
theorem wY (b:a<c.length):(c++[d]).getD a 0=c.getD a 0:=by rw[iK,lx b,<-iK]
theorem DC:(c++[d]).getD c.length 0=d:=by rw[iK,l1 (a8 _)];simp
theorem kF.add (l:kF i b a g c h) (q:Int):kF i b (a+1) g (c++[(a:Int)]) (h++[q]):=by
 obtain⟨p,m,n,r,k,o⟩:=l;refine⟨p,by simp;omega,?_,by simp;omega,λe f j=>?_,λe f j=>?_⟩
 ·rw[rx m,rx U];exact n
 ·rw[lA,List.length_singleton] at j;rcases bp e c.length with d|d
  ·rw[wY d];have:=k e f d;omega
  obtain rfl:e=c.length:=U;rw[DC];omega
 rw[lA,List.length_singleton] at j;rcases bp e c.length with d|d
 ·rw[wY d,wY U];exact o e f d
 obtain rfl:e=c.length:=U;rw[DC,wY U];exact(k (c.length-1) U U).2
theorem DD (d:a<b):(c.take b).getD a 0=c.getD a 0:=by rw[iK,k1 d,<-iK]
theorem kF.close (s:kF b a b g c h):et b (a+1) (g++[(c.length:Int)]) c h:=by
 obtain⟨x,o,k,t,u,v⟩:=s;have p:=k.len;have q:=k.last;rw[dX,fR o] at q;have n:(g++[(c.length:Int)]).getD (a+1) 0=(c.length:Int):=(by rw[<-p];exact DC);have e:∀d,d<=a->(g++[(c.length:Int)]).getD d 0=g.getD d 0:=λd l=>wY U;have r:∀d,d<=a->g.getD d 0<=(x:Int):=λd l=>(by have:=k.n8 d l;rw[dX,fR o] at this;exact this);refine⟨by simp[p],by rw[e 0 U];exact k.first,λd l=>?_,n,t,λd m l i j=>?_,λd m l i j=>?_⟩
 ·rcases bp d a with f|f
  ·rw[e d U,e (d+1) U];exact k.mono d f
  obtain rfl:d=a:=U;rw[e d U,n,q];omega
 ·rcases bp d a with f|f
  ·rw[e d U] at i;rw[e (d+1) U] at j;have w:=r (d+1) U;have:=k.rng d m f i j;rw[DD U] at this;exact this
  obtain rfl:d=a:=U;rw[e d U] at i;rw[n] at j;exact u m U U
 rcases bp d a with f|f
 ·rw[e d U] at i;rw[e (d+1) U] at j;have w:=r (d+1) U;have:=k.asc d m f i j;rw[DD U,DD U] at this;exact this
 obtain rfl:d=a:=U;rw[e d U] at i;rw[n] at j;exact v m U U
theorem et.empty (d:Nat):et d 0 [0] [] []:=⟨rfl,rfl,λb a=>absurd a U,rfl,rfl,λb c a=>absurd a U,λb c a=>absurd a U⟩
structure oB (rows fG:Nat) (m:bF):Prop where
 ex:∃st mv re,m=((rows:Int),(fG:Int),st,mv,re,())/\et rows fG st mv re/\(∀v∈re,dE v)/\mv.length<=fG*rows
theorem oB.small (i:b<=5) (f:a<=5) (d:et b a h c g) (e:∀j∈g,dE j) (k:c.length<=a*b):fD b a h c g:=by have l:a*b<=5*5:=ia f i;exact⟨U,U,U,by rw[d.len];omega,by rw[d.val];omega,e⟩
theorem Cb (x:c.length<=9223372036854775807) {rows fG:Nat} (y:rows<=5) (v:fG<=5) (s:Int):ac (tY (c,(rows:Int),(fG:Int),s,())) λi=>oB rows fG i.1:=by
 have G:fG*rows<=5*5:=Nat.mul_le_mul v y;unfold tY;dsimp only;refine ac.aU (P:=λi=>oB rows fG i.2.1) ?_ (by rintro⟨A,B,_⟩ m;exact ac.af.2 m);refine ac.steps fG (λd n=>∃e a b,n=((d:Int),((0:Int),((0:Int),([],([],([],()))))),((rows:Int),(fG:Int),e,a,b,()),())/\et rows d e a b/\(∀f∈b,dE f)/\a.length<=d*rows) ?_ ?_ ?_
 ·exact⟨[0],[],[],rfl,et.empty rows,ab,ab⟩
 ·rintro d _ w ⟨e,a,b,rfl,p,u,D⟩;have F:d*rows+rows<=5*5:=by
   have:(d+1)*rows<=fG*rows:=gv _ w;rw[eL,gw] at this;omega
  dsimp only;rw[bc (az (U:(d:Int)<(fG:Int))),bg U];refine ac.aU (P:=λi=>∃a b,i=(((0:Int),((0:Int),([],([],([],()))))),((rows:Int),(fG:Int),e,a,b,()),())/\kF rows d rows e a b/\(∀f∈b,dE f)/\a.length<=d*rows+rows) ?_ ?_
  ·refine ac.steps rows (λg n=>∃a b,n=((g:Int),((0:Int),((0:Int),([],([],([],()))))),((rows:Int),(fG:Int),e,a,b,()),())/\kF rows d g e a b/\(∀f∈b,dE f)/\a.length<=d*rows+g) ?_ ?_ ?_
   ·exact⟨a,b,rfl,p.open,u,U⟩
   ·rintro g _ E ⟨a,b,rfl,l,o,C⟩;have H:b.length=a.length:=by
     obtain⟨I,_,_,m,_⟩:=l;exact m
    dsimp only;rw[bc (az (U:(g:Int)<(rows:Int))),bg U];refine ac.aU (P:=λi=>∃a b,i=(((0:Int),((0:Int),([],([],([],()))))),((rows:Int),(fG:Int),e,a,b,()),())/\kF rows d (g+1) e a b/\(∀f∈b,dE f)/\a.length<=d*rows+(g+1)) ?_ ?_
    ·refine ac.aU (MF c x _) ?_;rintro⟨J,_⟩ r;dsimp only at r|-;rw[q8 aa aa,Option.bind_some];unfold gU;rw[if_pos aa,Option.bind_some,bu];refine ac.ite (λt=>?_) (λt=>?_)
     ·rw[dU (by simp;omega),Option.bind_some];refine ac.aU (VV r s) ?_;rintro⟨f,_⟩ q;dsimp only at q|-;rw[dU (by simp;omega),Option.bind_some];refine ac.af.2 ⟨_,_,rfl,l.add f,λz k=>?_,by simp;omega⟩;rcases List.mem_append.1 k with k|k
      ·exact o z k
      obtain rfl:=dP.1 k;exact q
     exact ac.af.2 ⟨_,_,rfl,l.skip,o,U⟩
    rintro _ ⟨a,b,rfl,ar,h,j⟩;exact ac.af.2 ⟨a,b,rfl,ar,h,j⟩
   rintro _ ⟨a,b,rfl,ar,h,j⟩;dsimp only;rw[a6 (aw (U:¬((rows:Int)<(rows:Int))))];exact ac.af.2 ⟨a,b,rfl,ar,h,j⟩
  rintro _ ⟨a,b,rfl,ar,h,j⟩;dsimp only;rw[dU (by rw[p.len];simp;omega),Option.bind_some];refine ac.af.2 ⟨_,_,_,rfl,ar.close,h,by rw[Nat.add_mul,Nat.one_mul];omega⟩
 rintro _ ⟨e,a,b,rfl,ar,h,j⟩;dsimp only;rw[a6 (aw (U:¬((fG:Int)<(fG:Int))))];exact ac.af.2 ⟨e,a,b,rfl,ar,h,j⟩
theorem MN (e:fD b a g c h) (f:Int) (k:i<a):∃j,dE j/\qp (((b:Int),(a:Int),g,c,h,()),f,(i:Int),())=some (j,()):=by
 by_cases d:eW b a g c h=0
 ·exact⟨_,Mv (qy (jj.1 d).1 e.hw) _ _,K2 e d f k⟩
 refine⟨0,⟨aa,aa⟩,?_⟩;unfold qp;refine ai (y:=.inr (0,())) ?_ rfl;refine ai e.uX ?_;dsimp only;rw[bY,aw d];rfl
theorem Rr (n:fD i b g c h) (f:et i b g c h) (d:p<i) (q:a<b):∃j,wA (((i:Int),(b:Int),g,c,h,()),(p:Int),(a:Int),())=some (j,()):=by
 have s:=f.pos a U;have t:=f.pos (a+1) U;have B:=f.n8 (a+1) U;have z:=f.mono a q;have x:=f.len;have w:=n.hi;have v:=n.hc;suffices k:ac (wA (((i:Int),(b:Int),g,c,h,()),(p:Int),(a:Int),())) λo=>True by obtain⟨⟨j,_⟩,k,_⟩:=k;exact⟨j,k⟩
 unfold wA;dsimp only;rw[aw (U:¬((p:Int)<0)),aw (U:¬((p:Int)>=(i:Int))),aw (U:¬((a:Int)<0)),aw (U:¬((a:Int)>=(b:Int)))];refine ac.bs (y:=.inl ()) rfl ?_;dsimp only;obtain⟨e,r⟩:=Int.eq_ofNat_of_zero_le s;obtain⟨d,m⟩:=Int.eq_ofNat_of_zero_le t;refine ac.bs (y:=(e:Int)) (by rw[fg U,r]) ?_;refine ac.aU (P:=λo=>True) ?_ ?_
 ·refine ac.steps (d-e) (λl u=>u=(((e+l:Nat):Int),())) rfl ?_ ?_
  ·rintro l _ A rfl;dsimp only;refine ac.bs (y:=(d:Int)) (by rw[bg U,fg U,m]) ?_;rw[bc (az (U:((e+l:Nat):Int)<(d:Int)))];refine ac.bs (fg U) ?_;rw[dM,bu];refine ac.ite (λ_=>ac.af.2 trivial) (λ_=>?_);rw[bg U];exact ac.af.2 rfl
  rintro _ rfl;dsimp only;refine ac.bs (y:=(d:Int)) (by rw[bg U,fg U,m]) ?_;rw[a6 (aw (U:¬(((e+(d-e):Nat):Int)<(d:Int))))];exact ac.af.2 trivial
 rintro(_|o) _
 ·exact ac.af.2 trivial
 exact ac.af.2 trivial
theorem MS (Z:c.length<=9223372036854775807) {n:Nat} (s:n<=5) (K:Int):ac (zG (c,(n:Int),K,())) λj=>oB n n j.1:=by
 have a3:n*n<=5*5:=Nat.mul_le_mul s s;unfold zG;refine ac.bs (xk K (n:=3) aa aa) ?_;refine ac.aU (Cb Z s s _) ?_;rintro⟨m,_⟩ G;dsimp only at G|-;obtain⟨O,N,Q,rfl,H,X,Y⟩:=G.ex;have I:=oB.small s s H X Y;have F:=λ(f:Int) (e:Nat) (q:e<n)=>MN I f q;have S:=λ(f e:Nat) (z:f<n) (q:e<n)=>Rr I H z q;generalize(((n:Int),(n:Int),O,N,Q,()):bF)=m at*;refine ac.aU (P:=λj=>oB n n j.2.1) ?_ (by rintro⟨am,C,_⟩ y;exact ac.af.2 y);refine ac.steps n (λe v=>∃g b a,v=((e:Int),((0:Int),((0:Int),([],([],([],()))))),m,((n:Int),(n:Int),g,b,a,()),())/\et n e g b a/\(∀h∈a,dE h)/\b.length<=e*n) ?_ ?_ ?_
 ·exact⟨[0],[],[],rfl,et.empty n,ab,ab⟩
 ·rintro e _ q ⟨g,b,a,rfl,E,R,ap⟩;have av:e*n+n<=5*5:=by
   have:(e+1)*n<=n*n:=gv _ q;rw[eL,gw] at this;omega
  dsimp only;rw[bc (az (U:(e:Int)<(n:Int))),bg U];refine ac.aU (P:=λj=>∃b a,j=(((0:Int),((0:Int),([],([],([],()))))),m,((n:Int),(n:Int),g,b,a,()),())/\kF n e n g b a/\(∀h∈a,dE h)/\b.length<=e*n+n) ?_ ?_
  ·refine ac.steps n (λf v=>∃b a,v=((f:Int),((0:Int),((0:Int),([],([],([],()))))),m,((n:Int),(n:Int),g,b,a,()),())/\kF n e f g b a/\(∀h∈a,dE h)/\b.length<=e*n+f) ?_ ?_ ?_
   ·exact⟨b,a,rfl,E.open,R,U⟩
   ·rintro f _ z ⟨b,a,rfl,x,D,an⟩;have a4:a.length=b.length:=by
     obtain⟨i,_,_,y,_⟩:=x;exact y
    dsimp only;rw[bc (az (U:(f:Int)<(n:Int))),bg U];refine ac.aU (P:=λj=>∃b a,j=(((0:Int),((0:Int),([],([],([],()))))),m,((n:Int),(n:Int),g,b,a,()),())/\kF n e (f+1) g b a/\(∀h∈a,dE h)/\b.length<=e*n+(f+1)) ?_ ?_
    ·have J:∀(B:Int),dE B->∀h∈a++[B],dE h:=λB ad h k=>by
      rcases dO.1 k with k|k
      ·exact D h k
      obtain rfl:=dP.1 k;exact ad
     rw[dM,bu];refine ac.ite (λL=>?_) (λL=>?_)
     ·refine ac.bs (Ld aa aa) ?_;dsimp only;refine ac.aU (P:=λj=>∃d:cL,j=(((0:Int),((0:Int),([],([],([],()))))),m,((n:Int),(n:Int),g,b,a,()),d.map aR,())/\(∀l∈d,dc l)/\d.length<=n+1) ?_ ?_
      ·refine ac.steps n (λi v=>∃d:cL,v=((i:Int),((0:Int),((0:Int),([],([],([],()))))),m,((n:Int),(n:Int),g,b,a,()),d.map aR,())/\(∀l∈d,dc l)/\d.length<=i+1) ?_ ?_ ?_
       ·exact⟨[mr 1],rfl,by intro l p;obtain rfl:=dP.1 p;exact It 1,ab⟩
       ·rintro i _ a0 ⟨d,rfl,o,u⟩;dsimp only;rw[bc (az (U:(i:Int)<(n:Int))),bg U];refine ac.aU (P:=λj=>∃d:cL,j=(((0:Int),((0:Int),([],([],([],()))))),m,((n:Int),(n:Int),g,b,a,()),d.map aR,())/\(∀l∈d,dc l)/\d.length<=(i+1)+1) ?_ ?_
        ·rw[bY,<-decide_not,bu];refine ac.ite (λM=>?_) (λM=>?_)
         ·obtain⟨w,V,W⟩:∃w:Nat,(if(i:Int)<(f:Int) then(i:Int) else(f:Int))=(w:Int)/\w<n:=by
           split
           ·exact⟨i,rfl,U⟩
           exact⟨f,rfl,U⟩
          rw[V];obtain⟨h,k,A⟩:=F (if(i:Int)>(f:Int) then(i:Int) else(f:Int)) w W;refine ac.bs A (ac.bs (u0 k) (ac.bs (Lc (iH _)) ?_));rw[dU (by simp;omega)];refine ac.af.2 ⟨d++[tx (dG h)],ab,λl p=>?_,by simp;omega⟩;rcases dO.1 p with p|p
          ·exact o l p
          obtain rfl:=dP.1 p;exact Rv (iH _)
         exact ac.af.2 ⟨d,rfl,o,U⟩
        rintro _ ⟨d,rfl,o,u⟩;exact ac.af.2 ⟨d,rfl,o,u⟩
       rintro _ ⟨d,rfl,o,u⟩;dsimp only;rw[a6 (aw (U:¬((n:Int)<(n:Int))))];exact ac.af.2 ⟨d,rfl,o,u⟩
      rintro _ ⟨d,rfl,o,u⟩;dsimp only;rw[dU (by simp;omega),Option.bind_some];refine ac.bs (EZ o U) ?_;refine ac.bs (LC (Fm _)) ?_;dsimp only;rw[dU (by simp;omega),Option.bind_some];exact ac.af.2 ⟨_,_,rfl,x.add _,J _ (Lt _ _),by simp;omega⟩
     obtain⟨C,T⟩:=S f e z q;refine ac.bs T ?_;dsimp only;cases C with
     |true=>
      rw[cond_true,dU (by simp;omega),Option.bind_some];obtain⟨h,k,A⟩:=F (f:Int) e q;refine ac.bs A ?_;dsimp only;rw[dU (by simp;omega),Option.bind_some];exact ac.af.2 ⟨_,_,rfl,x.add _,J _ k,by simp;omega⟩
     |false=>
      rw[cond_false];exact ac.af.2 ⟨_,_,rfl,x.skip,D,U⟩
    rintro _ ⟨b,a,rfl,ar,r,t⟩;exact ac.af.2 ⟨b,a,rfl,ar,r,t⟩
   rintro _ ⟨b,a,rfl,ar,r,t⟩;dsimp only;rw[a6 (aw (U:¬((n:Int)<(n:Int))))];exact ac.af.2 ⟨b,a,rfl,ar,r,t⟩
  rintro _ ⟨b,a,rfl,ar,r,t⟩;dsimp only;rw[dU (by rw[E.len];simp;omega),Option.bind_some];refine ac.af.2 ⟨_,_,_,rfl,ar.close,r,by rw[Nat.add_mul,Nat.one_mul];omega⟩
 rintro _ ⟨g,b,a,rfl,ar,r,t⟩;dsimp only;rw[a6 (aw (U:¬((n:Int)<(n:Int))))];exact ac.af.2 ⟨g,b,a,rfl,ar,r,t⟩
theorem F1 (j:c.length<=9223372036854775807) {n:Nat} (q:n<=5):ac (we (c,(n:Int),())) λb=>b.1.length=n:=by
 unfold we;dsimp only;refine ac.aU (P:=λb=>b.1.length=n) ?_ (by rintro⟨o,_⟩ i;exact ac.af.2 i);refine ac.steps n (λd m=>∃a,m=(a,(d:Int),())/\a.length=d) ⟨[],rfl,rfl⟩ ?_ ?_
 ·rintro d _ p ⟨a,rfl,e⟩;dsimp only;rw[bc (az (U:(d:Int)<(n:Int))),bg U];refine ac.aU (MF c j _) ?_;rintro⟨h,_⟩ l;dsimp only at l|-;rw[q8 aa aa,Option.bind_some];refine ac.bs (xk _ (n:=d+1) U U) ?_;have r:=Ba (au (h/2^(1:Int).toNat)) (n:=d+1) U;dsimp only;generalize qV (au (h/2^(1:Int).toNat)) (d+1)=b at*;refine ac.bs (BM U) ?_;dsimp only;rw[dU (by simp;omega),Option.bind_some,dU (by simp;omega),Option.bind_some];have k:((fH (b:Int)).bind λf=>(some a.length).bind λg=>(gh f g a.length).map λ_=>(f,g))=some (b,a.length):=by
   have:fH (b:Int)=some b:=(by unfold fH;rw[if_pos U,de]);rw[this];show(gh b a.length a.length).map _=_;unfold gh;rw[if_pos ⟨U,a8 _⟩];rfl
  refine ac.bs k ?_;dsimp only;rw[dU (by simp;omega),Option.bind_some];exact ac.af.2 ⟨_,rfl,by simp;omega⟩
 rintro _ ⟨a,rfl,e⟩;dsimp only;rw[a6 (aw (U:¬((n:Int)<(n:Int))))];exact ac.af.2 e
theorem Yx (d:c.length<=9223372036854775807) (b g:Int) (h:Bool):ac (zN (c,b,g,h,())) λi=>∃a,a<=5/\oB a a i.1/\i.2.1.length=a:=by
 unfold zN;refine ac.bs (xk b (n:=6) aa aa) ?_;have l:=Ba b (n:=6) aa;dsimp only;generalize qV b 6=a at*;cases h with
 |true=>
  rw[cond_true];refine ac.aU (MS d (n:=a) U g) ?_;rintro⟨j,_⟩ e;refine ac.aU (F1 d (n:=a) U) ?_;rintro⟨k,_⟩ f;exact ac.af.2 ⟨a,U,e,f⟩
 |false=>
  rw[cond_false];refine ac.aU (Cb d (rows:=a) (fG:=a) U U g) ?_;rintro⟨j,_⟩ e;refine ac.aU (F1 d (n:=a) U) ?_;rintro⟨k,_⟩ f;exact ac.af.2 ⟨a,U,e,f⟩
def Ck (a:dY):Prop:=a.1.length<1000000/\a.2.1.length<1000000/\a.2.2.1.length<1000000/\a.2.2.2.1.length<1000000
theorem Be:Ck fP:=⟨aa,aa,aa,aa⟩
theorem UU {A:Nat->Nat->cT} {o:cZ} (b:a<=5) (h:f.length=a) (i:o.length<=5):Ck (iY A f o a).1:=by
 unfold iY;split
 ·split
  ·exact Be
  exact Be
 have d:=w2 f a;have e:=pE A f a;have g:a*f.length<=5*5:=ia b U;refine⟨?_,?_,?_,?_⟩
 ·show o.length<1000000;omega
 ·show(aE (a+1) (λc=>((bw f c).length:Int))).length<1000000;rw[bv];omega
 ·show(bw f a).length<1000000;omega
 show(it A f a).length<1000000;omega
theorem UT (b:Nat->Nat->cT) (c:cO) (f:cZ) (a:Nat):(iY b c f a=(ei b c f a,(a:Int),0,())/\∀d,d<a->fv b c d=0)\/∃i g,iY b c f a=(fP,i,g,())/\g≠0:=by
 unfold iY;split
 ·rename_i i e;have h:=List.find?_some e;rw[decide_eq_true_eq] at h;split
  ·exact .inr ⟨_,_,rfl,aa⟩
  exact .inr ⟨_,_,rfl,h⟩
 rename_i e;refine .inl ⟨rfl,λd j=>?_⟩;simpa using yh.1 e d (gN.2 j)
theorem DH (b:cO) {a:Nat}:∀{n},a<=n->∃c,bw b n=bw b a++c
 |0,e=>by obtain rfl:a=0:=U;exact⟨[],ab⟩
 |n+1,e=>by
  rcases bp n a with d|d
  ·obtain rfl:a=n+1:=U;exact⟨[],ab⟩
  obtain⟨c,f⟩:=DH b d;exact⟨c++aX b n,by rw[bw,f,kA]⟩
theorem Mz (b:Nat->Nat->cT) (c:cO) {a:Nat}:∀{n},a<=n->∃d,it b c n=it b c a++d
 |0,f=>by obtain rfl:a=0:=U;exact⟨[],ab⟩
 |n+1,f=>by
  rcases bp n a with e|e
  ·obtain rfl:a=n+1:=U;exact⟨[],ab⟩
  obtain⟨d,g⟩:=Mz b c e;exact⟨d++fY b c n,by rw[it,g,kA]⟩
theorem aaW (c:Nat->Nat->cT) (a:cO) (b:Nat):(fY c a b).length=(aX a b).length:=by unfold fY;rw[fL]
theorem Um (c:cO) (d:a<b):(bw c (a+1)).length<=(bw c b).length/\((bw c b).take (bw c (a+1)).length).drop (bw c a).length=aX c a:=by obtain⟨f,e⟩:=DH c (show a+1<=b from d);rw[e];refine⟨by rw[lA];omega,?_⟩;rw[List.take_left,bw,List.drop_left]
theorem uu (a:cO) (b:Nat):(bw a (b+1)).length=(bw a b).length+(aX a b).length:=by rw[bw,lA]
theorem TM (d:Nat->Nat->cT) (c:cO) (e:a<i) (j:b<(aX c a).length):(bw c i)[(bw c a).length+b]?=(aX c a)[b]?/\(it d c i)[(bw c a).length+b]?=(fY d c a)[b]?:=by
 obtain⟨k,f⟩:=DH c (show a+1<=i from e);obtain⟨l,g⟩:=Mz d c (show a+1<=i from e);have aj:=pE d c a;have h:=aaW d c a;rw[f,g,bw,it];constructor
 ·rw[kA,l1 U,lx U,lB]
 rw[kA,l1 U,aj,lx U,lB]
theorem Jn (a:Nat):fH (a:Int)=some a:=by unfold fH;rw[if_pos U,de]
theorem ZZ {l:Nat} (e:b<=a) (f:a<=l):((fH (b:Int)).bind λc=>(fH (a:Int)).bind λd=>(gh c d l).map λ_=>(c,d))=some (b,a):=by rw[Jn,Jn];show(gh b a l).map _=_;unfold gh;rw[if_pos ⟨e,f⟩];rfl
theorem aaJ (e:a*2^i=b*2^p) (g:0<a) (f:0<b):bq a+i=bq b+p/\ax a+i=ax b+p:=by have c:=congrArg bq e;have d:=congrArg ax e;rw[Fy U,Fy f] at c;rw[k8 U,k8 f] at d;exact⟨c,d⟩
theorem Vz {a:Int} (b:j*d=a*2^65536) (r:eK a):jZ (some j) (some d)=some a:=by
 show e9 (a1 j*a1 d) (bj j+bj d)=some a;have g:∀h:Nat,(2:Int)^h≠0:=λh=>(by have:(0:Int)<2^h:=mN aa;omega);by_cases c:j=0
 ·rw[c,pP] at b;rw[c,uQ,pP,(Int.mul_eq_zero.1 b.symm).resolve_right (g _)];rfl
 by_cases e:d=0
 ·rw[e,Int.mul_zero] at b;rw[e,uQ,Int.mul_zero,(Int.mul_eq_zero.1 b.symm).resolve_right (g _)];rfl
 have u:=q1 j;have v:=q1 d;have aS:=gK c;have t:=gK e;have x:=xq.1 ⟨U,Jz c⟩;have y:=xq.1 ⟨U,Jz e⟩;have p:a1 j*a1 d≠0:=Int.mul_ne_zero aS t;have l:bq (a1 j*a1 d).natAbs=0:=(by refine(xq.2 ?_).2;rw[Int.natAbs_mul,Nat.mul_mod,x,y]);have aj:a1 j*a1 d*2^(bq j.natAbs+bq d.natAbs)=a*2^65536:=by
  rw[<-b,jb]
  conv=>rhs;rw[<-u,<-v]
  rw[ja,ja,Int.mul_left_comm (a1 d)]
 have n:bj j=(bq j.natAbs:Int)-65536:=(by rw[bj,if_neg c];rfl);have o:bj d=(bq d.natAbs:Int)-65536:=(by rw[bj,if_neg e];rfl);rw[n,o];generalize bq j.natAbs=i at*;generalize bq d.natAbs=k at*;generalize a1 j*a1 d=B at*;have f:=congrArg Int.natAbs aj;rw[lg,lg] at f;have s:0<a.natAbs:=YH f U;obtain⟨m,z⟩:=aaJ f U s;rw[l] at m;have A:ax a.natAbs<=131072:=r;unfold e9;rw[if_neg p,l,if_neg U];obtain⟨w,q⟩:=ew (U:0<=(i:Int)-65536+((k:Int)-65536)+65536);rw[q,lT];congr 1;have:i+k=w+65536:=U;rw[this,jb,<-ja] at aj;exact Int.mul_eq_mul_right_iff (g _)|>.1 aj
def mx (a:Int):Int:=if a<9223372036854775808 then if bG a=0 then eX a else eX a+4503599627370496 else-(if bG a=0 then eX a else eX a+4503599627370496)
def jn (a:Int):Int:=if bG a=0 then-1074 else bG a-1075
theorem uk (a:bG d≠2047):-1074<=jn d/\jn d<=971:=by have:=wS d;unfold jn;split<;>omega
theorem uL (a:Int):ax (mx a).natAbs<=53:=df.2 (by
 have b:=wT a;have:(2:Nat)^53=9007199254740992:=aa;rw[this];unfold mx;split<;>split<;>omega)
theorem Bf (b:bG d≠2047):dG d=some (mx d*2^(jn d+65536).toNat):=by
 have h:=uk b;have g:=uL d;unfold dG;rw[if_neg b];change e9 (mx d) (jn d)=_;generalize mx d=f at*;generalize jn d=c at*;unfold e9;by_cases a:f=0
 ·rw[if_pos a,a,pP]
 rw[if_neg a,if_neg U];obtain⟨i,e⟩:=ew (U:0<=c+65536);rw[e,lT,de]
theorem VA (c:bG d≠2047) (e:bG j≠2047):jZ (dG d) (dG j)=some (mx d*mx j*2^(jn d+jn j+65536).toNat):=by
 rw[Bf c,Bf e];have l:=uk c;have m:=uk e;have g:=uL d;have h:=uL j;refine Vz ?_ ?_
 ·generalize mx d=a;generalize mx j=f;have:(jn d+65536).toNat+(jn j+65536).toNat=(jn d+jn j+65536).toNat+65536:=U;have aj:a*2^(jn d+65536).toNat*(f*2^(jn j+65536).toNat)=a*f*(2^(jn d+65536).toNat*2^(jn j+65536).toNat):=by
   generalize(2:Int)^(jn d+65536).toNat=k;generalize(2:Int)^(jn j+65536).toNat=n;rw[ja,ja,Int.mul_left_comm k]
  rw[aj,<-jb,this,jb,<-ja]
 have i:=nU g h;rw[<-Int.natAbs_mul] at i;generalize mx d*mx j=a at*;unfold eK;rw[lg];rcases h9 a.natAbs with b|b
 ·rw[b,pV];decide
 rw[k8 b];omega
def nw:Nat:=2^67600
theorem FG:nw=2^67600:=by rw[nw]
def fh (c:Nat) (b:cT):Prop:=∃a,b=some a/\a.natAbs<=c*nw
theorem pu (b:d.natAbs<=a*nw) (f:a<1048576):eK d:=by refine da (hJ b) ?_;have c:ax a<=20:=df.2 U;have e:ax nw<=67601:=(by rw[FG];exact df.2 (xF 67600 67601 aa));have:=nU c e;omega
theorem fh.mono (c:fh a l) (d:a<=b):fh b l:=by obtain⟨f,rfl,e⟩:=c;exact⟨f,rfl,da e (gv _ d)⟩
theorem KU (d:ax a+b<=67600):a*2^b<=1*nw:=by
 rw[gw,FG];refine Nat.le_of_lt ((df (k:=67600)).1 ?_);rcases h9 a with c|c
 ·rw[c,pV,show ax 0=0 from rfl];omega
 rw[k8 c];omega
theorem fh.TT (a:bG d≠2047):fh 1 (dG d):=by have c:=uk a;have b:=uL d;refine⟨_,Bf a,?_⟩;rw[lg];exact KU U
theorem fh.mul (a:bG d≠2047) (b:bG j≠2047):fh 1 (jZ (dG d) (dG j)):=by have e:=uk a;have f:=uk b;have c:=nU (uL d) (uL j);rw[<-Int.natAbs_mul] at c;refine⟨_,VA a b,?_⟩;rw[lg];exact KU U
theorem fh.neg (b:fh a l):fh a (ob l):=by obtain⟨d,rfl,c⟩:=b;exact⟨-d,rfl,by rw[pN];exact c⟩
theorem fh.abs (b:fh a l):fh a (tx l):=by obtain⟨d,rfl,c⟩:=b;exact⟨_,rfl,by rw[pM];exact c⟩
theorem fh.add {c:cT} (i:fh a l) (j:fh b c) (h:a+b<1048576):fh (a+b) (nR l c)/\nR l c=some (l.getD 0+c.getD 0):=by obtain⟨d,rfl,k⟩:=i;obtain⟨e,rfl,m⟩:=j;have f:(d+e).natAbs<=(a+b)*nw:=(by rw[eL];omega);have g:nR (some d) (some e)=some (d+e):=(by show k9 (d+e)=_;unfold k9;rw[if_pos (pu f h)]);exact⟨⟨_,g,f⟩,g⟩
theorem fh.sum {a:Nat}:∀{l:cL},(∀d∈l,fh a d)->fN l=true/\(e0 l).natAbs<=l.length*a*nw
 |[],_=>⟨rfl,dQ _⟩
 |d::l,b=>by
  obtain⟨c,h⟩:=fh.sum (l:=l) λg e=>b g (by simp[e]);obtain⟨f,rfl,i⟩:=b d ab;constructor
  ·show(true&&fN l)=true;rw[c];rfl
  show(f+e0 l).natAbs<=(l.length+1)*a*nw;rw[eL,eL,gw];omega
theorem aaj {k:Nat} {l:cL} (c:∀b∈l,fh k b) (e:l.length*k<1048576):fQ l=some (e0 l)/\fh (l.length*k) (fQ l):=by obtain⟨d,a⟩:=fh.sum c;have:fQ l=some (e0 l):=(by unfold fQ k9;rw[if_pos d,if_pos (pu a e)]);exact⟨this,_,this,a⟩
theorem Yq (f:a<=9007199254740992) (g:-1074<=d):0<=kR false a d 0/\kR false a d 0<9223372036854775808:=by
 have e:0<=mB false 0/\mB false 0<9223372036854775808:=aa;unfold kR;have b:∀c,ku false c=c:=λc=>rfl;rw[b,b,b];split
 ·omega
 split
 ·split
  ·exact e
  omega
 split
 ·exact e
 omega
theorem Zo (b:0<a):0<=h7 false a d q 0/\h7 false a d q 0<9223372036854775808:=by have c:=BZ (neg:=false) (qX:=q) (ko:=0) (e:=d) b;have g:-1074<=bB a d:=(by unfold bB;omega);have f:h7 false a d q 0=kR false (if bB a d<=d then a*2^(d-bB a d).toNat else gR false a (bB a d-d).toNat q 0) (bB a d) 0:=(by unfold h7;split<;>rfl);rw[f];exact Yq c g
theorem Zs (f:0<=d):0<=jx (some d) 0/\jx (some d) 0<9223372036854775808:=by
 show 0<=(if d<0 then(9221120237041090560:Int) else if d=0 then 0 else np d 0)/\(if d<0 then(9221120237041090560:Int) else if d=0 then 0 else np d 0)<9223372036854775808;rw[if_neg U];by_cases b:d=0
 ·rw[if_pos b];decide
 rw[if_neg b];unfold np oh;have e:0<(a1 d).natAbs:=(by have:=gK b;omega);have c:58<=ax (bC ((a1 d).natAbs*2^im (a1 d).natAbs (eh d))):=w4 (by rw[k8 e];unfold im;split<;>omega);refine Zo ?_;rcases h9 (bC ((a1 d).natAbs*2^im (a1 d).natAbs (eh d))) with a|a
 ·rw[a] at c;exact absurd c aa
 exact a
theorem VZ (h:0<=d) (f:d<9223372036854775808) (b:bG d≠2047) (a:nc d≠0):∃c,dG d=some c/\0<c:=by
 refine⟨_,Bf b,nA ?_ (mN aa)⟩;have i:=wT d;unfold nc at a;rw[if_neg b] at a;unfold mx;rw[if_pos f];split
 ·rename_i e;by_cases g:eX d=0
  ·rw[if_pos ⟨e,g⟩] at a;exact absurd rfl a
  omega
 omega
section
structure eo (A:Nat->Nat->cT) (G:cO) (o:cZ) (n:Nat):Prop where
 j1:n<=5
 jU:G.length=n
 op:dT o n
 ok:∀m,m<n->fv A G m=0
section
variable {A:Nat->Nat->cT} {G:cO} {o:cZ} {n:Nat}
theorem eo.fin (c:eo A G o n) (e:a<n) (d:aY G a b=true):bG (be A (aY G) a b)≠2047:=HK (c.ok a e) b d
theorem eo.AB (b:eo A G o n) {m i:Nat} (c:m<n):bG (be A (aY G) m i)≠2047:=by
 by_cases a:aY G m i=true
 ·exact b.fin c a
 rw[qR (by simpa using a)]
 ·decide
 rintro rfl;exact a (Bu (by rw[b.jU];exact c))
theorem eo.diag (e:eo A G o n) (f:a<n):∃d,dG (be A (aY G) a a)=some d/\0<d:=by
 have g:=e.ok a f;have i:¬kG A G a:=λc=>(by rw[Di c] at g;cases g);have l:be A (aY G) a a=jx (hQ A (be A (aY G)) a a) 0:=(by rw[n9];unfold lc;rw[if_pos rfl]);have b:¬lS (hQ A (be A (aY G)) a a)<=0:=λc=>i (.inl c);have k:nc (be A (aY G) a a)≠0:=λc=>i (.inr c);have h:0<=be A (aY G) a a/\be A (aY G) a a<9223372036854775808:=by
  rw[l];cases j:hQ A (be A (aY G)) a a with
  |none=>
   rw[j] at b;exact absurd (aa:lS none<=0) b
  |some d=>
   refine Zs ?_;rw[j] at b;have:lS (some d)=dH d:=rfl;rw[this] at b;unfold dH at b;split at b
   ·exact absurd aa b
   omega
 exact VZ h.1 h.2 (e.fin f (Bu (by rw[e.jU];exact f))) k
theorem eo.ss (b:eo A G o n) (c:a<=n):(bw G a).length<=25:=by have d:=w2 G a;have e:a*G.length<=5*5:=ia (da c b.j1) (by have:=b.jU;have:=b.j1;omega);omega
theorem eo.vJ (b:eo A G o n) (a:Nat):(aX G a).length<=n:=by have:=tK (G:=G) a;rw[b.jU] at this;exact this
theorem eo.st (b:eo A G o n) {j:Nat} (c:j<=n):ay (ei A G o n).2.1 (j:Int)=some ((bw G j).length:Int):=by show ay (aE (n+1) λa=>((bw G a).length:Int)) _=_;rw[bM (by rw[bv];omega),gB]
theorem eo.at (g:eo A G o n) {a d:Nat} (k:a<n) (c:d<(aX G a).length):∃b:Nat,b<n/\a<=b/\aY G a b=true/\(aX G a)[d]?=some (b:Int)/\ay (ei A G o n).2.2.1 (((bw G a).length+d:Nat):Int)=some (b:Int)/\ay (ei A G o n).2.2.2.1 (((bw G a).length+d:Nat):Int)=some (be A (aY G) a b):=by
 obtain⟨b,e,f,l,m⟩:=tL (G:=G) (j:=a) (bQ c);obtain⟨h,i⟩:=TM A G k c;refine⟨b,by rw[g.jU] at f;exact f,l,m,by rw[bo c,e],?_,?_⟩
 ·refine g4 ?_;show(bw G n)[_]?=_;rw[h,bo c,e]
 refine g4 ?_;show(it A G n)[_]?=_;rw[i];unfold fY;rw[eS,bo c,e];rfl
theorem eo.asc (g:eo A G o n) (c:(aX G b)[a]?=some (i:Int)) (d:(aX G b)[a+1]?=some (p:Int)):i<p:=by obtain⟨ar,aj⟩:=eb.1 c;obtain⟨e,f⟩:=eb.1 d;have:=gu.1 (tJ G b) a (a+1) ar e U;omega
theorem eo.first (b:eo A G o n) (c:a<n):0<(aX G a).length/\(aX G a)[0]?=some (a:Int):=by obtain⟨e,d,_⟩:=CK (G:=G) (j:=a) (by rw[b.jU];exact c);rw[d];exact⟨ab,rfl⟩
theorem eo.MA (d:eo A G o n):∀b∈it A G n,dE b/\bG b≠2047:=by
 suffices e:∀c,c<=n->∀b∈it A G c,dE b/\bG b≠2047 from e n (a8 _);intro c
 induction c with
 |zero=>intro _ b a;cases a
 |succ c h=>
  intro j b a;rw[it] at a;rcases dO.1 a with a|a
  ·exact h U b a
  unfold fY at a;obtain⟨m,g,rfl⟩:=bR.1 a;obtain⟨l,rfl,i,k,f⟩:=tL g;rw[de];exact⟨mw _ _ _ _,d.fin U f⟩
theorem Iw (u:n<=200) (h:dT o n):yR (o,())=some (true,()):=by
 have l:=h.1;unfold yR;dsimp only;rw[show aq o=(n:Int) by rw[aW,l]];refine ai (gE U) ?_;refine ac.eq_iff.1 ?_;refine ac.aU (P:=λq=>q=.inl ()) ?_ (by rintro _ rfl;exact ac.af.2 rfl);refine ac.steps n (λa r=>r=((a:Int),aE n (λb=>decide ((b:Int)∈o.take a)),())) ?_ ?_ ?_
 ·rw[iB];simp
 ·rintro a _ t rfl;dsimp only;rw[bc (az (U:(a:Int)<(n:Int))),bM (U:a<o.length)];have j:o.take (a+1)=o.take a++[o[a]'(by omega)]:=by rw[List.take_add_one,List.getElem?_eq_getElem U];rfl
  have p:=h.2.1 _ (bQ (U:a<o.length));have i:=List.Nodup.sublist (List.take_sublist (a+1) o) h.2.2;rw[j,hF] at i;have m:o[a]'(by omega)∉o.take a:=λk=>i.2.2 _ k _ (dP.2 rfl) rfl
  have g:∀e,e∈o.take (a+1)↔e∈o.take a\/e=o[a]'(by omega):=λe=>by rw[j,dO,dP]
  clear i j;generalize w:o[a]'(by omega)=b at*
  obtain⟨d,rfl⟩:=ew p.1;simp only[aM];rw[bc (show(decide ((d:Int)<0)==false)=true by rw[aw U];rfl),bc (show(decide ((d:Int)>=(n:Int))==false)=true by rw[aw U];rfl)];rw[jv (by rw[bv];omega),gB,a6 (aw m)];simp only[aM];rw[i5 (by rw[bv];omega),gS];refine ac.af.2 ?_;rw[bg U];have:aE n (eH (λb=>decide ((b:Int)∈o.take a)) d true)=aE n (λb=>decide ((b:Int)∈o.take (a+1))):=by
   refine dz λs v=>?_;by_cases f:s=d
   ·subst f;rw[ir,az ((g _).2 (.inr rfl))]
   rw[iq _ _ f];exact decide_eq_decide.2 ⟨λc=>(g _).2 (.inl c),λc=>((g _).1 c).resolve_right λc=>f U⟩
  rw[this]
 rintro _ rfl;dsimp only;rw[a6 (aw (U:¬((n:Int)<(n:Int))))];exact ac.af.2 rfl
theorem aag (a:eo A G o n):yS (ei A G o n,())=some (true,()):=by
 have D:=a.j1;have q:aq (ei A G o n).1=(n:Int):=(by rw[aW];exact congrArg _ a.op.1);have p:aq (ei A G o n).2.2.1=((bw G n).length:Int):=aW _;unfold yS;dsimp only;rw[q,p];refine ai (y:=.inl ()) ?_ ?_
 ·refine ai (a.st (j:=0) U) ?_;rw[bc (by rfl)];refine ai (a.st (a8 n)) ?_;rw[a6 (by rw[bY,az rfl];rfl)]
 dsimp only;refine ac.eq_iff.1 ?_;refine ac.aU (P:=λe=>e=.inl ()) ?_ (by rintro _ rfl;exact ac.af.2 rfl);refine ac.steps n (λd f=>f=((d:Int),())) rfl ?_ ?_
 ·rintro j _ c rfl;dsimp only;rw[bc (az (U:(j:Int)<(n:Int))),bg U];obtain⟨h,i⟩:=Um G c;have v:=uu G j;have C:=a.ss (Nat.le_refl n);have w:=a.vJ j;obtain⟨x,k⟩:=a.first c;refine ac.aU (P:=λt=>t=.inl ()) ?_ (by rintro _ rfl;exact ac.af.2 rfl);refine ac.bs (y:=.inl ()) ?_ ?_
  ·refine ai (a.st U) (ai (a.st (show j+1<=n from c)) ?_);rw[bc (by rw[aw (U:¬((bw G j).length:Int)>((bw G (j+1)).length:Int))];rfl)];refine ai (a.st (show j+1<=n from c)) ?_;rw[a6 (aw (U:¬((bw G (j+1)).length:Int)>((bw G n).length:Int)))]
  dsimp only;refine ac.bs (a.st U) (ac.bs (a.st (show j+1<=n from c)) ?_);refine ac.bs (ZZ (l:=(bw G n).length) U h) ?_;dsimp only;have s:List.drop (bw G j).length (List.take (bw G (j+1)).length (ei A G o n).2.2.1)=aX G j:=i;rw[s,aW];refine ac.bs (y:=.inl ()) ?_ ?_
  ·rw[bc (by rw[dM,aw (U:¬((aX G j).length:Int)=0)];rfl)];refine ai (g4 k) ?_;rw[bc (by rw[bY,az rfl];rfl)];have r:(aX G j).length-1<(aX G j).length:=U;obtain⟨d,z,_,_,m,_⟩:=a.at c r;have:au ((((aX G j).length:Nat):Int)-1)=(((aX G j).length-1:Nat):Int):=by
    rw[(U:(((aX G j).length:Nat):Int)-1=(((aX G j).length-1:Nat):Int)),bf U U]
   rw[this];refine ai (g4 m) ?_;rw[a6 (aw (U:¬(d:Int)>=(n:Int)))]
  dsimp only;refine ac.aU (P:=λe=>e=.inl ()) ?_ (by rintro _ rfl;exact ac.af.2 rfl);refine ac.steps ((aX G j).length-1) (λb f=>f=(((b+1:Nat):Int),())) rfl ?_ ?_
  ·rintro b _ B rfl;dsimp only;rw[bc (az (U:((b+1:Nat):Int)<((aX G j).length:Int))),bg U];have:au (((b+1:Nat):Int)-1)=(b:Int):=by
    rw[(U:((b+1:Nat):Int)-1=(b:Int)),bf U U]
   rw[this];obtain⟨d,_,_,_,aj,_⟩:=a.at c (U:b<(aX G j).length);obtain⟨u,_,_,_,g,_⟩:=a.at c (U:b+1<(aX G j).length);have:=a.asc aj g;refine ac.bs (g4 aj) (ac.bs (g4 g) ?_);rw[a6 (aw (U:¬(d:Int)>=(u:Int)))];exact ac.af.2 rfl
  rintro _ rfl;dsimp only;rw[a6 (aw (U:¬(((aX G j).length-1+1:Nat):Int)<((aX G j).length:Int)))];exact ac.af.2 rfl
 rintro _ rfl;dsimp only;rw[a6 (aw (U:¬((n:Int)<(n:Int))))];exact ac.af.2 rfl
theorem B9 (a:eo A G o n):rR (ei A G o n,())=some (0,()):=by
 have v:=a.j1;have q:aq (ei A G o n).1=(n:Int):=(by rw[aW];exact congrArg _ a.op.1);have d:aq (ei A G o n).2.2.1=((bw G n).length:Int):=aW _;have f:aq (ei A G o n).2.2.2.1=((bw G n).length:Int):=(by rw[aW];exact congrArg _ (pE A G n));have r:aq (ei A G o n).2.1=((n+1:Nat):Int):=(by rw[aW];exact congrArg _ (bv _ _));have u:=a.ss (Nat.le_refl n);unfold rR;dsimp only;rw[q,d,f,r];refine ai (y:=.inl ()) ?_ ?_
 ·rw[a6 (aw (U:¬(n:Int)>200))];refine ai (Iw U a.op) ?_;dsimp only;rw[a6 (by rfl),bg U];refine ai (y:=(false,())) ?_ ?_
  ·rw[bc (by rw[bY,az rfl];rfl),bY,az rfl];rfl
  dsimp only;rw[a6 rfl];refine ai (aag a) ?_;dsimp only;rw[a6 (by rfl)]
 dsimp only;refine ac.eq_iff.1 ?_;refine ac.aU (P:=λg=>g=.inl ()) ?_ ?_
 ·refine ac.steps (bw G n).length (λb h=>h=((b:Int),())) rfl ?_ ?_
  ·rintro b _ d rfl;dsimp only;have i:b<(it A G n).length:=(by rw[pE];exact d);rw[bc (az (U:(b:Int)<((bw G n).length:Int))),bg U];obtain⟨m,p⟩:=a.MA _ (List.getElem_mem i);refine ac.bs (y:=(it A G n)[b]) (g4 (List.getElem?_eq_getElem i)) ?_;refine ac.bs (AT m) ?_;dsimp only;rw[a6 (by rw[aw p];rfl)];exact ac.af.2 rfl
  rintro _ rfl;dsimp only;rw[a6 (aw (U:¬(((bw G n).length:Int)<((bw G n).length:Int))))];exact ac.af.2 rfl
 rintro _ rfl;dsimp only;refine ac.aU (P:=λg=>g=.inl ()) ?_ (by rintro _ rfl;exact ac.af.2 rfl);refine ac.steps n (λb h=>h=((b:Int),())) rfl ?_ ?_
 ·rintro c _ e rfl;dsimp only;rw[bc (az (U:(c:Int)<(n:Int))),bg U];obtain⟨k,l⟩:=a.first e;obtain⟨b,_,_,_,aj,_,j⟩:=a.at e k;rw[l] at aj;obtain rfl:c=b:=(by have:=Option.some.inj aj;omega);obtain⟨t,f,s⟩:=a.diag e;refine ac.bs (a.st U) (ac.bs (y:=be A (aY G) c c) j ?_);refine ac.bs (sJ (mw _ _ _ _)) (ac.bs (mj (iH _)) ?_);dsimp only;rw[a6 (aw (by rw[f];show¬dH t<=0;rw[BK s];decide))];exact ac.af.2 rfl
 rintro _ rfl;dsimp only;rw[a6 (aw (U:¬((n:Int)<(n:Int))))];exact ac.af.2 rfl
theorem Iv:dT [] 0:=⟨rfl,ab,ab⟩
theorem FI:rR (fP,())=some (2,()):=by unfold rR;refine ai (y:=.inr (2,())) ?_ rfl;rw[a6 aa];refine ai (Iw U Iv) ?_;rfl
theorem YX (a:eo A G o n):Aj ((ei A G o n).2.1,(n:Int),((bw G n).length:Int),())=some (true,()):=by
 have h:=a.j1;have c:aq (ei A G o n).2.1=((n+1:Nat):Int):=(by rw[aW];exact congrArg _ (bv _ _));unfold Aj;dsimp only;rw[c,bg U];refine ai (y:=.inl ()) ?_ ?_
 ·rw[bc (by rw[bY,az rfl];rfl)];refine ai (a.st (j:=0) U) ?_;rw[bc (by rfl)];refine ai (a.st (a8 n)) ?_;rw[a6 (by rw[bY,az rfl];rfl)]
 dsimp only;refine ac.eq_iff.1 ?_;refine ac.aU (P:=λe=>e=.inl ()) ?_ (by rintro _ rfl;exact ac.af.2 rfl);refine ac.steps n (λd f=>f=((d:Int),())) rfl ?_ ?_
 ·rintro j _ b rfl;dsimp only;have g:=uu G j;rw[bc (az (U:(j:Int)<(n:Int))),bg U];refine ac.bs (a.st U) (ac.bs (a.st (show j+1<=n from b)) ?_);rw[a6 (aw (U:¬((bw G j).length:Int)>((bw G (j+1)).length:Int)))];exact ac.af.2 rfl
 rintro _ rfl;dsimp only;rw[a6 (aw (U:¬((n:Int)<(n:Int))))];exact ac.af.2 rfl
theorem EU (b:eo A G o n):r7 (ei A G o n,())=some (0,()):=by
 classical
 have K:=b.j1;have u:aq (ei A G o n).1=(n:Int):=(by rw[aW];exact congrArg _ b.op.1);have k:aq (ei A G o n).2.2.1=((bw G n).length:Int):=aW _;have l:aq (ei A G o n).2.2.2.1=((bw G n).length:Int):=(by rw[aW];exact congrArg _ (pE A G n));have v:aq (ei A G o n).2.1=((n+1:Nat):Int):=(by rw[aW];exact congrArg _ (bv _ _));have I:=b.ss (Nat.le_refl n);have H:=b.op.1;unfold r7;dsimp only;rw[u,k,l,v];refine ai (y:=.inl ()) ?_ ?_
 ·rw[a6 (aw (U:¬(n:Int)>200))];refine ai (EV (o:=o) (n:=n) U U) ?_;rw[az b.op];dsimp only;rw[a6 (by rfl),bg U];refine ai (y:=(false,())) ?_ ?_
  ·rw[bc (by rw[bY,az rfl];rfl),bY,az rfl];rfl
  dsimp only;rw[a6 rfl];refine ai (YX b) ?_;dsimp only;rw[a6 (by rfl)]
 dsimp only;refine ac.eq_iff.1 ?_;refine ac.aU (P:=λh=>h=.inl ()) ?_ ?_
 ·refine ac.steps n (λc f=>f=((c:Int),())) rfl ?_ ?_
  ·rintro a _ d rfl;dsimp only;rw[bc (az (U:(a:Int)<(n:Int))),bg U];have D:=uu G a;have E:=b.vJ a;have J:=b.ss (U:a<=n);obtain⟨i,j⟩:=b.first d;refine ac.aU (P:=λm=>m=.inl ()) ?_ (by rintro _ rfl;exact ac.af.2 rfl);refine ac.bs (b.st U) ?_;refine ac.aU (P:=λm=>m=.inl ()) ?_ ?_
   ·refine ac.steps (aX G a).length (λe f=>f=((((bw G a).length+e:Nat):Int),())) rfl ?_ ?_
    ·rintro e _ w rfl;dsimp only;refine ac.bs (b.st (show a+1<=n from d)) ?_;rw[bc (az (U:(((bw G a).length+e:Nat):Int)<((bw G (a+1)).length:Int))),bg U];obtain⟨c,F,_,_,aj,g,_⟩:=b.at d w;refine ac.bs (y:=.inl ()) ?_ (ac.af.2 rfl);refine ai g ?_;rw[bc (by rw[aw (U:¬(c:Int)>=(n:Int))];rfl)];refine ai (b.st U) ?_;cases e with
     |zero=>
      rw[a6 (by rw[aw (U:¬(((bw G a).length+0:Nat):Int)>((bw G a).length:Int))];rfl)]
     |succ e=>
      rw[bc (by rw[az (U:(((bw G a).length+(e+1):Nat):Int)>((bw G a).length:Int))];rfl)];obtain⟨C,_,_,_,q,r,_⟩:=b.at d (U:e<(aX G a).length);have:=b.asc q aj;refine ai g ?_;have z:au ((((bw G a).length+(e+1):Nat):Int)-1)=(((bw G a).length+e:Nat):Int):=(by rw[(U:(((bw G a).length+(e+1):Nat):Int)-1=(((bw G a).length+e:Nat):Int)),bf U U]);rw[z];refine ai r ?_;rw[a6 (aw (U:¬(c:Int)<=(C:Int)))]
    rintro _ rfl;dsimp only;refine ac.bs (b.st (show a+1<=n from d)) ?_;rw[a6 (aw (U:¬(((bw G a).length+(aX G a).length:Nat):Int)<((bw G (a+1)).length:Int)))];exact ac.af.2 rfl
   rintro _ rfl;dsimp only;refine ac.bs (b.st U) (ac.bs (b.st (show a+1<=n from d)) ?_);rw[bc (by rw[dM,aw (U:¬((bw G a).length:Int)=((bw G (a+1)).length:Int))];rfl)];obtain⟨c,_,_,_,aj,g,_⟩:=b.at d i;rw[j] at aj;obtain rfl:a=c:=(by have:=Option.some.inj aj;omega);refine ac.bs (b.st U) (ac.bs (y:=(a:Int)) g ?_);rw[a6 (by rw[bY,az rfl];rfl)];exact ac.af.2 rfl
  rintro _ rfl;dsimp only;rw[a6 (aw (U:¬((n:Int)<(n:Int))))];exact ac.af.2 rfl
 rintro _ rfl;dsimp only;refine ac.aU (P:=λh=>h=.inl ()) ?_ ?_
 ·refine ac.steps (bw G n).length (λc f=>f=((c:Int),())) rfl ?_ ?_
  ·rintro c _ k rfl;dsimp only;have p:c<(it A G n).length:=(by rw[pE];exact k);rw[bc (az (U:(c:Int)<((bw G n).length:Int))),bg U];obtain⟨s,t⟩:=b.MA _ (List.getElem_mem p);refine ac.bs (y:=(it A G n)[c]) (g4 (List.getElem?_eq_getElem p)) ?_;refine ac.bs (xM s) ?_;dsimp only;rw[a6 (by rw[aw t];rfl)];exact ac.af.2 rfl
  rintro _ rfl;dsimp only;rw[a6 (aw (U:¬(((bw G n).length:Int)<((bw G n).length:Int))))];exact ac.af.2 rfl
 rintro _ rfl;dsimp only;refine ac.aU (P:=λh=>h=.inl ()) ?_ (by rintro _ rfl;exact ac.af.2 rfl);refine ac.steps n (λc f=>f=((c:Int),())) rfl ?_ ?_
 ·rintro a _ d rfl;dsimp only;rw[bc (az (U:(a:Int)<(n:Int))),bg U];obtain⟨i,j⟩:=b.first d;obtain⟨c,_,_,_,aj,_,g⟩:=b.at d i;rw[j] at aj;obtain rfl:a=c:=(by have:=Option.some.inj aj;omega);obtain⟨B,l,x⟩:=b.diag d;refine ac.bs (b.st U) (ac.bs (y:=be A (aY G) a a) g ?_);refine ac.bs (u0 (mw _ _ _ _)) (ac.bs (Lg (iH _)) ?_);dsimp only;rw[a6 (aw (by rw[l];show¬dH B<=0;rw[BK x];decide))];exact ac.af.2 rfl
 rintro _ rfl;dsimp only;rw[a6 (aw (U:¬((n:Int)<(n:Int))))];exact ac.af.2 rfl
theorem K3:r7 (fP,())=some (2,()):=by
 classical
 unfold r7;refine ai (y:=.inr (2,())) ?_ rfl;rw[a6 aa];refine ai (EV (o:=[]) (n:=0) U ab) ?_;rw[az Iv];rfl
end
end
section
section
variable {A:Nat->Nat->cT} {G:cO} {o:cZ} {n:Nat}
def kS (A:Nat->Nat->cT) (G:cO) (n:Nat):cZ:=aE (n*n) λa=>be A (aY G) (a/n) (a %n)
theorem qv {n j:Nat} (b:a<n):(j*n+a)/n=j/\(j*n+a) %n=a:=by
 constructor
 ·rw[jf,Nat.mul_add_div U,Nat.div_eq_of_lt b,k4]
 rw[jf,Nat.mul_add_mod,Nat.mod_eq_of_lt b]
theorem rH {n:Nat} (c:a<n) (d:b<n):a*n+b<n*n:=by have:(a+1)*n<=n*n:=gv _ c;rw[eL,gw] at this;omega
theorem lq {n:Nat} (a:n<=5):n*n<=25:=ia a a
theorem vc {n:Nat} (f:n<=5) (e:a<n) (d:b<n):au (au ((a:Int)*(n:Int))+(b:Int))=((a*n+b:Nat):Int):=by have h:=rH e d;have i:=lq f;have c:(a:Int)*(n:Int)=((a*n:Nat):Int):=(by rw[jF]);rw[c];generalize a*n=g at*;generalize n*n=j at*;rw[bf (x:=(g:Int)) U U,bf U U];omega
theorem FC {n:Nat} (b:n<=5):au ((n:Int)*(n:Int))=((n*n:Nat):Int):=by have c:=lq b;have a:(n:Int)*(n:Int)=((n*n:Nat):Int):=(by rw[jF]);rw[a];generalize n*n=d at*;rw[bf U U]
theorem L1 (a:eo A G o n):rU (ei A G o n,())=some (0,()):=by have c:=a.j1;have b:aq (ei A G o n).1=(n:Int):=(by rw[aW];exact congrArg _ a.op.1);unfold rU;refine ai (B9 a) ?_;dsimp only;rw[b,a6 (by rfl),a6 (aw (U:¬(n:Int)>64))]
theorem L0:rU (fP,())=some (2,()):=by unfold rU;refine ai FI ?_;rfl
def kp (A:Nat->Nat->cT) (G:cO) (n b c a:Nat):Int:=if a/n<b\/(a/n=b/\((a %n:Nat):Int)∈(aX G b).take c) then be A (aY G) (a/n) (a %n) else 0
theorem Ym (h:eo A G o n) (k:0<n) (i:a<n):kp A G n a (aX G a).length b=kp A G n (a+1) 0 b:=by
 unfold kp;rw[c9 (a8 _)];by_cases e:b/n<a
 ·rw[if_pos (.inl e),if_pos (.inl U)]
 by_cases f:b/n=a
 ·rw[if_pos (show b/n<a+1\/_ from .inl U)];by_cases d:((b %n:Nat):Int)∈aX G a
  ·rw[if_pos (.inr ⟨f,d⟩)]
  rw[if_neg (by rintro(c|⟨_,c⟩);exact e c;exact d c),f,qR]
  ·unfold aY;exact aw d
  intro g;rw[g] at d;exact d (qT.2 ⟨by rw[h.jU];exact i,.inl rfl⟩)
 rw[if_neg (by rintro(c|⟨c,_⟩);exact e c;exact f c),if_neg (by rintro(c|⟨c,j⟩);omega;simp at j)]
theorem Yn (m:eo A G o n) (p:a<n) (l:i<n) (k:(aX G a)[b]?=some (i:Int)):(aE (n*n) (kp A G n a b)).set (a*n+i) (be A (aY G) a i)=aE (n*n) (kp A G n a (b+1)):=by
 rw[gS];refine dz λc q=>?_;have h:(aX G a).take (b+1)=(aX G a).take b++[(i:Int)]:=(by rw[hq,k];rfl);have g:=qv (n:=n) (j:=a) l;by_cases f:c=a*n+i
 ·subst f;rw[ir];unfold kp;rw[g.1,g.2,if_pos (.inr ⟨rfl,by rw[h];simp⟩)]
 rw[iq _ _ f];unfold kp;have:(c/n=a/\((c %n:Nat):Int)∈(aX G a).take (b+1))↔(c/n=a/\((c %n:Nat):Int)∈(aX G a).take b):=by
  rw[h,dO,dP];constructor
  ·rintro⟨d,e|e⟩
   ·exact⟨d,e⟩
   have:=mQ c n;rw[d,jf] at this;omega
  rintro⟨d,e⟩;exact⟨d,.inl e⟩
 simp only[this]
theorem MV (b:eo A G o n):rS (ei A G o n,())=some (((n:Int),(n:Int),kS A G n,()),0,()):=by
 have f:=b.j1;have w:=lq f;have q:aq (ei A G o n).1=(n:Int):=(by rw[aW];exact congrArg _ b.op.1);unfold rS;refine ai (L1 b) ?_;dsimp only;rw[q,a6 (by rfl),FC f];refine ai (gE U) ?_;refine ac.eq_iff.1 ?_;refine ac.aU (P:=λg=>g=(((0:Int),(0:Int),[],()),((n:Int),(n:Int),kS A G n,()),())) ?_ (by rintro _ rfl;exact ac.af.2 rfl);refine ac.steps n (λa h=>h=((a:Int),((0:Int),(0:Int),[],()),((n:Int),(n:Int),aE (n*n) (kp A G n a 0),()),())) ?_ ?_ ?_
 ·rw[iB];have:(aE (n*n) λ_=>(0:Int))=aE (n*n) (kp A G n 0 0):=dz λk _=>by
   unfold kp;rw[if_neg ab]
  rw[this];rfl
 ·rintro a _ c rfl;dsimp only;rw[bc (az (U:(a:Int)<(n:Int))),bg U];have s:=uu G a;have x:=b.ss (U:a<=n);have t:=b.vJ a;refine ac.bs (b.st U) ?_;refine ac.aU (P:=λg=>g=(((0:Int),(0:Int),[],()),((n:Int),(n:Int),aE (n*n) (kp A G n (a+1) 0),()),())) ?_ (by rintro _ rfl;exact ac.af.2 rfl);refine ac.steps (aX G a).length (λd h=>h=((((bw G a).length+d:Nat):Int),((0:Int),(0:Int),[],()),((n:Int),(n:Int),aE (n*n) (kp A G n a d),()),())) rfl ?_ ?_
  ·rintro d _ p rfl;dsimp only;refine ac.bs (b.st (show a+1<=n from c)) ?_;rw[bc (az (U:(((bw G a).length+d:Nat):Int)<((bw G (a+1)).length:Int))),bg U];obtain⟨l,e,u,v,r,aj,m⟩:=b.at c p;refine ac.bs (y:=(l:Int)) aj (ac.bs (y:=be A (aY G) a l) m ?_);rw[vc f c e];have i:=rH c e;refine ac.bs (eO (by rw[bv];exact i)) ?_;rw[fj i,Yn b c e r];exact ac.af.2 rfl
  rintro _ rfl;dsimp only;refine ac.bs (b.st (show a+1<=n from c)) ?_;rw[a6 (aw (U:¬(((bw G a).length+(aX G a).length:Nat):Int)<((bw G (a+1)).length:Int)))];have:aE (n*n) (kp A G n a (aX G a).length)=aE (n*n) (kp A G n (a+1) 0):=dz λk j=>Ym b U c;rw[this];exact ac.af.2 rfl
 rintro _ rfl;dsimp only;rw[a6 (aw (U:¬((n:Int)<(n:Int))))];have:aE (n*n) (kp A G n n 0)=kS A G n:=dz λk j=>(by unfold kp;rw[if_pos (.inl (Nat.div_lt_of_lt_mul j))]);rw[this];exact ac.af.2 rfl
theorem MU:rS (fP,())=some (((0:Int),(0:Int),[],()),2,()):=by unfold rS;refine ai L0 ?_;rfl
theorem Y1 (c:eo A G o n) (f:a<n) (t:b<n):Ak (ei A G o n,(b:Int),(a:Int),())=some (be A (aY G) a b,()):=by
 have z:=c.j1;have r:=uu G a;have x:=c.ss (U:a<=n);have s:=c.vJ a;unfold Ak;refine ai (c.st U) ?_;refine ac.eq_iff.1 ?_;refine ac.aU (P:=λh=>(h=.inl ()/\(b:Int)∉aX G a)\/h=.inr (be A (aY G) a b,())) ?_ ?_
 ·refine ac.steps (aX G a).length (λe q=>q=((((bw G a).length+e:Nat):Int),())/\(b:Int)∉(aX G a).take e) ⟨rfl,ab⟩ ?_ ?_
  ·rintro e _ l ⟨rfl,d⟩;dsimp only;rw[bg U];refine ac.bs (c.st (show a+1<=n from f)) ?_;rw[bc (az (U:(((bw G a).length+e:Nat):Int)<((bw G (a+1)).length:Int)))];obtain⟨g,w,u,v,p,aj,j⟩:=c.at f l;have m:(aX G a).take (e+1)=(aX G a).take e++[(g:Int)]:=(by rw[List.take_add_one,p];rfl);refine ac.bs (y:=(g:Int)) aj ?_;rw[dM,bu];refine ac.ite (λk=>?_) (λk=>?_)
   ·obtain rfl:g=b:=U;refine ac.bs (y:=be A (aY G) a g) j ?_;exact ac.af.2 (.inr rfl)
   rw[bg U];refine ac.af.2 ⟨rfl,λi=>?_⟩;rw[m,dO,dP] at i;exact i.elim d U
  rintro _ ⟨rfl,d⟩;dsimp only;rw[bg U];refine ac.bs (c.st (show a+1<=n from f)) ?_;rw[a6 (aw (U:¬(((bw G a).length+(aX G a).length:Nat):Int)<((bw G (a+1)).length:Int)))];rw[List.take_of_length_le (Nat.le_refl _)] at d;exact ac.af.2 (.inl ⟨rfl,d⟩)
 rintro h (⟨rfl,d⟩|rfl)
 ·refine ac.af.2 ?_;rw[qR]
  ·unfold aY;exact aw d
  rintro rfl;exact d (qT.2 ⟨by rw[c.jU];exact f,.inl rfl⟩)
 exact ac.af.2 rfl
theorem K5 (d:eo A G o n):qq (ei A G o n,())=some (((n:Int),(n:Int),kS A G n,()),0,()):=by
 have m:=d.j1;have q:=lq m;have l:aq (ei A G o n).1=(n:Int):=(by rw[aW];exact congrArg _ d.op.1);unfold qq;refine ai (EU d) ?_;dsimp only;rw[l,a6 (by rfl),a6 (aw (U:¬(n:Int)>64))];refine ac.eq_iff.1 ?_;refine ac.aU (P:=λe=>e=(((0:Int),(0:Int),[],()),((n:Int),(n:Int),kS A G n,()),())) ?_ (by rintro _ rfl;exact ac.af.2 rfl);refine ac.steps n (λa f=>f=((a:Int),((0:Int),(0:Int),[],()),((n:Int),(n:Int),aE (a*n) (λb=>be A (aY G) (b/n) (b %n)),()),())) ?_ ?_ ?_
 ·rw[pV];rfl
 ·rintro a _ h rfl;dsimp only;rw[bc (az (U:(a:Int)<(n:Int))),bg U];have p:a*n+n<=n*n:=by
   have:(a+1)*n<=n*n:=gv _ h;rw[eL,gw] at this;omega
  refine ac.aU (P:=λe=>e=(((0:Int),(0:Int),[],()),((n:Int),(n:Int),aE (a*n+n) (λb=>be A (aY G) (b/n) (b %n)),()),())) ?_ (by rintro _ rfl;exact ac.af.2 (by rw[eL,gw]));refine ac.steps n (λc f=>f=((c:Int),((0:Int),(0:Int),[],()),((n:Int),(n:Int),aE (a*n+c) (λb=>be A (aY G) (b/n) (b %n)),()),())) rfl ?_ ?_
  ·rintro c _ g rfl;dsimp only;rw[bc (az (U:(c:Int)<(n:Int))),bg U];refine ac.bs (Y1 d h g) ?_;dsimp only;rw[dU (by rw[bv];simp;omega),Option.bind_some];refine ac.af.2 ?_;obtain⟨i,k⟩:=qv (n:=n) (j:=a) g;rw[<-Nat.add_assoc,m4 (a*n+c),i,k]
  rintro _ rfl;dsimp only;rw[a6 (aw (U:¬((n:Int)<(n:Int))))];exact ac.af.2 rfl
 rintro _ rfl;dsimp only;rw[a6 (aw (U:¬((n:Int)<(n:Int))))];exact ac.af.2 rfl
theorem K4:qq (fP,())=some (((0:Int),(0:Int),[],()),2,()):=by unfold qq;refine ai K3 ?_;rfl
end
end
section
section
variable {A:Nat->Nat->cT} {G:cO} {o:cZ} {n:Nat}
def j0 (A:Nat->Nat->cT) (G:cO) (n b a:Nat):cT:=jZ (dG (be A (aY G) a (b %n))) (dG (be A (aY G) a (b/n)))
def nb (G:cO) (n b a:Nat):Bool:=aY G a (b %n)&&aY G a (b/n)
def kr (A:Nat->Nat->cT) (G:cO) (n a:Nat):cT:=fQ ((List.range n).map (j0 A G n a))
def lO (A:Nat->Nat->cT) (G:cO) (n:Nat):List bD:=aE (n*n) λa=>aR (kr A G n a)
theorem Ji (b a:Nat):dc (j0 A G n b a):=Bb _ _
theorem VB (c:eo A G o n) (d:a<n):fh 1 (j0 A G n b a):=fh.mul (c.AB d) (c.AB d)
theorem VC (c:eo A G o n) {m:Nat} (e:m<n) (b:nb G n a m=false):j0 A G n a m=some 0:=by
 unfold j0;have f:∀i,aY G m i=false->be A (aY G) m i=0:=λi d=>qR d (λg=>by
  rw[g,Bu (by rw[c.jU];exact e)] at d;cases d)
 obtain⟨k,h⟩:=Ep (c.AB (m:=m) (i:=a %n) e);obtain⟨l,j⟩:=Ep (c.AB (m:=m) (i:=a/n) e);unfold nb at b;rw[Bool.and_eq_false_iff] at b;rcases b with b|b
 ·rw[f _ b,sI,j,Jf]
 rw[f _ b,sI,h,Jg]
theorem YK (b:eo A G o n) (a:Nat):fQ (((List.range n).filter (nb G n a)).map (j0 A G n a))=kr A G n a:=by obtain⟨c,d⟩:=Fl (f:=j0 A G n a) (p:=nb G n a) (L:=List.range n) λh e g=>VC b (gN.1 e) g;unfold kr fQ;rw[c,d]
theorem YJ (b:eo A G o n) (a:Nat):fh 5 (kr A G n a):=by have h:=b.j1;have c:((List.range n).map (j0 A G n a)).length=n:=ab;refine((aaj (k:=1) (l:=(List.range n).map (j0 A G n a)) (λf d=>?_) (by rw[c];omega)).2).mono (by rw[c];omega);obtain⟨g,e,rfl⟩:=bR.1 d;exact VB b (gN.1 e)
theorem ER (a:Nat):dc (kr A G n a):=Fm _
def jN (G:cO) (n a c d b:Nat):Prop:=(((b %n:Nat):Int)∈(aX G a).take c/\((b/n:Nat):Int)∈aX G a)\/((aX G a)[c]?=some ((b %n:Nat):Int)/\((b/n:Nat):Int)∈(aX G a).take d)
def fW (A:Nat->Nat->cT) (G:cO) (n b c d a:Nat):List bD:=open Classical in((((List.range b).filter (nb G n a)).map (j0 A G n a))++if jN G n b c d a then[j0 A G n a b] else[]).map aR
theorem aaz (a c d b:Nat):(fW A G n a c d b).length<=a+1:=by unfold fW;rw[fL,lA,fL];have e:=hV (nb G n b) (List.range a);rw[nG] at e;split<;>simp<;>omega
theorem aay (a:Nat):fW A G n 0 0 0 a=[]:=by unfold fW;rw[if_neg (by unfold jN;simp)];rfl
theorem aaA (h:eo A G o n) (f:(aX G a)[b]?=some (p:Int)):fW A G n a b (aX G a).length i=fW A G n a (b+1) 0 i:=by
 have:jN G n a b (aX G a).length i↔jN G n a (b+1) 0 i:=by
  unfold jN;rw[c9 (a8 _),hq,f,Option.toList,dO,dP];constructor
  ·rintro(⟨c,d⟩|⟨c,d⟩)
   ·exact .inl ⟨.inl c,d⟩
   exact .inl ⟨.inr (ec c).symm,d⟩
  rintro(⟨c|c,d⟩|⟨c,d⟩)
  ·exact .inl ⟨c,d⟩
  ·exact .inr ⟨by rw[c],d⟩
  simp at d
 unfold fW;by_cases e:jN G n a b (aX G a).length i
 ·rw[if_pos e,if_pos (this.1 e)]
 rw[if_neg e,if_neg (λg=>e (this.2 g))]
theorem aax (g:eo A G o n):fW A G n a (aX G a).length 0 b=fW A G n (a+1) 0 0 b:=by
 have c:jN G n a (aX G a).length 0 b↔nb G n b a=true:=by
  unfold jN nb aY;rw[c9 (a8 _),bd,decide_eq_true_eq,decide_eq_true_eq];constructor
  ·rintro(c|⟨c,e⟩)
   ·exact c
   simp at e
  exact .inl
 have e:¬jN G n (a+1) 0 0 b:=(by unfold jN;simp);unfold fW;rw[if_neg e,jc,k3,lw];simp only[gb];by_cases d:nb G n b a=true
 ·rw[if_pos (c.2 d),vu d,tm];rfl
 rw[if_neg (λf=>d (c.1 f)),tk d,tm];rfl
theorem Hh (e:(aX G b)[a]?=some d):d∉(aX G b).take a:=λf=>by obtain⟨c,i⟩:=eb.1 e;obtain⟨g,j,h⟩:=Ci.1 f;have:=gu.1 (tJ G b) g a U c U;omega
theorem aaw (v:eo A G o n) {d:Nat} (r:d<n) (w:b<n) (k:(aX G a)[p]?=some (d:Int)) (m:(aX G a)[i]?=some (b:Int)):(aE (n*n) (fW A G n a p i)).set (b*n+d) (fW A G n a p i (b*n+d)++[aR (jZ (dG (be A (aY G) a d)) (dG (be A (aY G) a b)))])=aE (n*n) (fW A G n a p (i+1)):=by
 rw[gS];refine dz λe x=>?_;obtain⟨g,h⟩:=qv (n:=n) (j:=b) r;have s:=Hh k;have t:=Hh m;have q:(aX G a).take (i+1)=(aX G a).take i++[(b:Int)]:=(by rw[hq,m];rfl);by_cases l:e=b*n+d
 ·subst l;rw[ir];unfold fW;rw[if_neg (by
   unfold jN;rw[g,h];rintro(⟨c,_⟩|⟨_,c⟩)
   ·exact s c
   ·exact t c),if_pos (by
   unfold jN;rw[g,h];exact .inr ⟨k,by rw[q];simp⟩),jc,gb]
  unfold j0;rw[g,h];rfl
 rw[iq _ _ l];have:jN G n a p (i+1) e↔jN G n a p i e:=by
  unfold jN;rw[q,dO,dP,k];constructor
  ·rintro(c|⟨ar,f|f⟩)
   ·exact .inl c
   ·exact .inr ⟨ar,f⟩
   have y:=ec ar;have:=mQ e n;rw[(U:e/n=b),jf] at this;omega
  rintro(c|⟨ar,f⟩)
  ·exact .inl c
  exact .inr ⟨ar,.inl f⟩
 unfold fW;by_cases c:jN G n a p i e
 ·rw[if_pos c,if_pos (this.2 c)]
 rw[if_neg c,if_neg (λu=>c (this.1 u))]
theorem F6 (b:eo A G o n):qd (ei A G o n,())=some (((n:Int),(n:Int),lO A G n,()),0,()):=by
 have q:=b.j1;have K:=lq q;have B:aq (ei A G o n).1=(n:Int):=(by rw[aW];exact congrArg _ b.op.1);unfold qd;refine ai (L1 b) ?_;dsimp only;rw[B,a6 (by rfl),FC q];refine ai (gE U) ?_;refine ac.eq_iff.1 ?_;generalize M:(((0:Int),(0:Int),[],()):fM)=e;refine ac.aU (P:=λf=>f=(e,aE (n*n) (fW A G n n 0 0),())) ?_ ?_
 ·refine ac.steps n (λa g=>g=((a:Int),e,aE (n*n) (fW A G n a 0 0),())) ?_ ?_ ?_
  ·rw[iB];have:(aE (n*n) λ_=>([]:List bD))=aE (n*n) (fW A G n 0 0 0):=dz λc _=>(aay c).symm;rw[this];rfl
  ·rintro a _ h rfl;dsimp only;rw[bc (az (U:(a:Int)<(n:Int))),bg U];have H:=uu G a;have N:=b.ss (U:a<=n);have I:=b.vJ a;refine ac.bs (b.st U) ?_;refine ac.aU (P:=λf=>f=(e,aE (n*n) (fW A G n (a+1) 0 0),())) ?_ (by rintro _ rfl;exact ac.af.2 rfl);refine ac.steps (aX G a).length (λd g=>g=((((bw G a).length+d:Nat):Int),e,aE (n*n) (fW A G n a d 0),())) rfl ?_ ?_
   ·rintro d _ u rfl;dsimp only;refine ac.bs (b.st (show a+1<=n from h)) ?_;rw[bc (az (U:(((bw G a).length+d:Nat):Int)<((bw G (a+1)).length:Int))),bg U];obtain⟨m,k,_,_,r,s,E⟩:=b.at h u;refine ac.bs (b.st U) ?_;refine ac.aU (P:=λf=>f=(e,aE (n*n) (fW A G n a (d+1) 0),())) ?_ (by rintro _ rfl;exact ac.af.2 rfl);refine ac.steps (aX G a).length (λi g=>g=((((bw G a).length+i:Nat):Int),e,aE (n*n) (fW A G n a d i),())) rfl ?_ ?_
    ·rintro i _ v rfl;dsimp only;refine ac.bs (b.st (show a+1<=n from h)) ?_;rw[bc (az (U:(((bw G a).length+i:Nat):Int)<((bw G (a+1)).length:Int))),bg U];obtain⟨p,l,_,_,z,t,F⟩:=b.at h v;refine ac.bs (y:=(p:Int)) t (ac.bs (y:=(m:Int)) s ?_);rw[vc q l k];have j:=rH l k;refine ac.bs (eO (by rw[bv];exact j)) ?_;refine ac.bs (y:=be A (aY G) a m) E ?_;refine ac.bs (sJ (mw _ _ _ _)) ?_;dsimp only;refine ac.bs (y:=be A (aY G) a p) F ?_;refine ac.bs (sJ (mw _ _ _ _)) ?_;dsimp only;refine ac.bs (Hs (iH _) (iH _)) ?_;dsimp only;have L:=aaz (A:=A) (G:=G) (n:=n) a d i (p*n+m);rw[fj j];refine ac.bs rfl ?_;rw[dU (by simp;omega),Option.bind_some];refine ac.bs (eO (by rw[bv];exact j)) ?_;rw[bc ab,fj j,Option.bind_some,fj j,aaw b k l r z];exact ac.af.2 rfl
    rintro _ rfl;dsimp only;refine ac.bs (b.st (show a+1<=n from h)) ?_;rw[a6 (aw (U:¬(((bw G a).length+(aX G a).length:Nat):Int)<((bw G (a+1)).length:Int)))];have:aE (n*n) (fW A G n a d (aX G a).length)=aE (n*n) (fW A G n a (d+1) 0):=dz λc _=>aaA b r;rw[this];exact ac.af.2 rfl
   rintro _ rfl;dsimp only;refine ac.bs (b.st (show a+1<=n from h)) ?_;rw[a6 (aw (U:¬(((bw G a).length+(aX G a).length:Nat):Int)<((bw G (a+1)).length:Int)))];have:aE (n*n) (fW A G n a (aX G a).length 0)=aE (n*n) (fW A G n (a+1) 0 0):=dz λc _=>aax b;rw[this];exact ac.af.2 rfl
  rintro _ rfl;dsimp only;rw[a6 (aw (U:¬((n:Int)<(n:Int))))];exact ac.af.2 rfl
 rintro _ rfl;dsimp only;refine ac.aU (P:=λf=>f=(e,((n:Int),(n:Int),lO A G n,()),())) ?_ (by rintro _ rfl;exact ac.af.2 rfl);refine ac.steps (n*n) (λc g=>g=((c:Int),e,aE (n*n) (fW A G n n 0 0),((n:Int),(n:Int),aE c (λc=>aR (kr A G n c)),()),())) rfl ?_ ?_
 ·rintro c _ D rfl;dsimp only;rw[bc (az (show(c:Int)<aq (aE (n*n) (fW A G n n 0 0)) by rw[aW,bv];omega)),bg U];rw[jv (by rw[bv];exact D),gB];have x:fW A G n n 0 0 c=(((List.range n).filter (nb G n c)).map (j0 A G n c)).map aR:=by
   unfold fW;rw[if_neg (by unfold jN;simp),jc]
  have C:=hV (nb G n c) (List.range n);rw[nG] at C;rw[x];refine ac.bs (Hu (λJ w=>?_) (by rw[fL];omega)) ?_
  ·obtain⟨O,_,rfl⟩:=bR.1 w;exact Ji _ _
  dsimp only;rw[YK b,dU (by rw[bv];simp;omega),Option.bind_some];refine ac.af.2 ?_;rw[m4]
 rintro _ rfl;dsimp only;rw[a6 (aw (show¬((n*n:Nat):Int)<aq (aE (n*n) (fW A G n n 0 0)) by rw[aW,bv];omega))];exact ac.af.2 rfl
theorem Rl:qd (fP,())=some (((0:Int),(0:Int),[],()),2,()):=by unfold qd;refine ai L0 ?_;rfl
theorem K7 (a:n<=5):wI ((n:Int),(n:Int),())=some (((n:Int),(n:Int),aE (n*n) (λ_=>jl),()),()):=by have b:=lq a;unfold wI;dsimp only;rw[FC a];refine ai (gE U) ?_;rw[iB];rfl
def lr (b:Nat->bD) (c a:Nat):bD:=if a<c then b a else jl
theorem Mr (a:Nat->bD) {N p:Nat}:(aE N (lr a p)).set p (a p)=aE N (lr a (p+1)):=by
 rw[gS];refine dz λd _=>?_;by_cases b:d=p
 ·subst b;rw[ir];unfold lr;rw[if_pos U]
 rw[iq _ _ b];unfold lr;by_cases c:d<p
 ·rw[if_pos c,if_pos U]
 rw[if_neg c,if_neg U]
theorem La (m:eo A G o n):qr (ei A G o n,())=some (((n:Int),(n:Int),lO A G n,()),0,()):=by
 have h:=m.j1;have C:=lq h;unfold qr;refine ai (K5 m) ?_;dsimp only;rw[a6 (by rfl)];refine ai (K7 h) ?_;dsimp only;refine ac.eq_iff.1 ?_;generalize D:(((0:Int),(0:Int),[],()):fM)=f;refine ac.aU (P:=λi=>i=(f,((n:Int),(n:Int),lO A G n,()),())) ?_ (by rintro _ rfl;exact ac.af.2 rfl);refine ac.steps n (λa k=>k=((a:Int),f,((n:Int),(n:Int),kS A G n,()),((n:Int),(n:Int),aE (n*n) (lr (λc=>aR (kr A G n c)) (a*n)),()),())) ?_ ?_ ?_
 ·rw[pV];rfl
 ·rintro a _ g rfl;dsimp only;rw[bc (az (U:(a:Int)<(n:Int))),bg U];refine ac.aU (P:=λi=>i=(f,((n:Int),(n:Int),kS A G n,()),((n:Int),(n:Int),aE (n*n) (lr (λc=>aR (kr A G n c)) (a*n+n)),()),())) ?_ (by rintro _ rfl;exact ac.af.2 (by rw[Nat.add_mul,Nat.one_mul]));refine ac.steps n (λd k=>k=((d:Int),f,((n:Int),(n:Int),kS A G n,()),((n:Int),(n:Int),aE (n*n) (lr (λc=>aR (kr A G n c)) (a*n+d)),()),())) rfl ?_ ?_
  ·rintro d _ e rfl;dsimp only;rw[bc (az (U:(d:Int)<(n:Int))),bg U];obtain⟨v,w⟩:=qv (n:=n) (j:=a) e;refine ac.aU (P:=λi=>i=(f,((n:Int),(n:Int),kS A G n,()),((n:Int),(n:Int),aE (n*n) (lr (λc=>aR (kr A G n c)) (a*n+d)),()),((List.range n).map (j0 A G n (a*n+d))).map aR,())) ?_ ?_
   ·refine ac.steps n (λb k=>k=((b:Int),f,((n:Int),(n:Int),kS A G n,()),((n:Int),(n:Int),aE (n*n) (lr (λc=>aR (kr A G n c)) (a*n+d)),()),((List.range b).map (j0 A G n (a*n+d))).map aR,())) rfl ?_ ?_
    ·rintro b _ l rfl;dsimp only;rw[bc (az (U:(b:Int)<(n:Int))),bg U,vc h l e,vc h l g];obtain⟨r,s⟩:=qv (n:=n) (j:=b) e;obtain⟨t,u⟩:=qv (n:=n) (j:=b) g;have aj:ay (kS A G n) ((b*n+d:Nat):Int)=some (be A (aY G) b d):=by
      unfold kS;rw[bM (by rw[bv];exact rH l e),gB,r,s]
     have x:ay (kS A G n) ((b*n+a:Nat):Int)=some (be A (aY G) b a):=(by unfold kS;rw[bM (by rw[bv];exact rH l g),gB,t,u]);refine ac.bs aj (ac.bs x ?_);refine ac.bs (KW (mw _ _ _ _) (mw _ _ _ _)) ?_;dsimp only;rw[dU (by simp;omega),Option.bind_some];refine ac.af.2 ?_;rw[List.range_succ,List.map_append,List.map_append];have:j0 A G n (a*n+d) b=jZ (dG (be A (aY G) b d)) (dG (be A (aY G) b a)):=(by unfold j0;rw[v,w]);rw[<-this];rfl
    rintro _ rfl;dsimp only;rw[a6 (aw (U:¬((n:Int)<(n:Int))))];exact ac.af.2 rfl
   rintro _ rfl;dsimp only;refine ac.bs (EZ (λB y=>?_) (by rw[List.length_map,List.length_range];omega)) ?_
   ·obtain⟨b,_,rfl⟩:=bR.1 y;exact Ji _ _
   dsimp only;have q:=rH g e;rw[vc h g e];refine ac.bs (eO (by rw[bv];exact q)) ?_;rw[fj q];refine ac.af.2 ?_;have:=Mr (λc=>aR (kr A G n c)) (N:=n*n) (p:=a*n+d);rw[<-Nat.add_assoc,<-this];rfl
  rintro _ rfl;dsimp only;rw[a6 (aw (U:¬((n:Int)<(n:Int))))];exact ac.af.2 rfl
 rintro _ rfl;dsimp only;rw[a6 (aw (U:¬((n:Int)<(n:Int))))];refine ac.af.2 ?_;have:aE (n*n) (lr (λc=>aR (kr A G n c)) (n*n))=lO A G n:=dz λc z=>if_pos z;rw[this]
theorem YY:qr (fP,())=some (((0:Int),(0:Int),[],()),2,()):=by unfold qr;refine ai K4 ?_;rfl
end
end
section
theorem Rd (a b:cZ) (c:a.length<4611686018427387904):C2 (a,b,())=some (a==b,()):=Cd a b c
theorem Fa (a:dc l):r5 (aR l,aR l,())=some (true,()):=by
 unfold r5;refine ai (kt a) (ai (kt a) ?_);dsimp only;refine ai (y:=(true,())) ?_ rfl;unfold C1;dsimp only;rw[bc ab,bc ab];refine ai (y:=(true,())) ?_ rfl;unfold C0;dsimp only;rw[bc ab];refine ai (Rd _ _ ?_) ?_
 ·cases l with
  |none=>exact gO (Nat.zero_lt_succ 10) aa
  |some b=>
   have c:eK b:=a b rfl;have:=HD 4096 (hD c);rw[eJ];show(aG (a1 b)).2.1.length<_;omega
 dsimp only;rw[beq_self_eq_true]
theorem E9 {f:Nat->cT} {N:Nat} (i:N<=1000000) (c:∀a,dc (f a)):ql ((j,d,aE N (λa=>aR (f a)),()),(j,d,aE N (λa=>aR (f a)),()),())=some (true,()):=by
 unfold ql;refine ai (y:=.inl ()) ?_ ?_
 ·rw[bc ab,bc ab,a6 ab]
 dsimp only;refine ac.eq_iff.1 ?_;refine ac.aU (P:=λg=>g=.inl ()) ?_ (by rintro _ rfl;exact ac.af.2 rfl);refine ac.steps N (λa h=>h=((a:Int),())) rfl ?_ ?_
 ·rintro a _ e rfl;dsimp only;rw[bc (az (show(a:Int)<aq (aE N λa=>aR (f a)) by rw[aW,bv];omega)),bg U];have b:ay (aE N λa=>aR (f a)) (a:Int)=some (aR (f a)):=(by rw[bM (by rw[bv];exact e),gB]);refine ac.bs b (ac.bs b (ac.bs (Fa (c a)) ?_));dsimp only;rw[a6 (show(!true)=false from rfl)];exact ac.af.2 rfl
 rintro _ rfl;dsimp only;rw[a6 (aw (show¬((N:Int)<aq (aE N λa=>aR (f a))) by rw[aW,bv];omega))];exact ac.af.2 rfl
theorem LL (b a:Int):ql ((b,a,[],()),(b,a,[],()),())=some (true,()):=E9 (f:=λ_=>none) (N:=0) U (λd e c=>by cases c)
theorem LM (a:c.length<=1000000):wg ((j,d,c,()),(j,d,c,()),())=some (true,()):=by unfold wg;dsimp only;rw[bc ab,bc ab];refine ai (FK _ _ U) ?_;dsimp only;rw[beq_self_eq_true]
def hN (A:Nat->Nat->cT) (n:Nat):List bD:=aE (n*n) λa=>aR (A (a %n) (a/n))
section
variable {n:Nat} {st C D o:cZ}
theorem F4 (i:n<=5) (r:fD n n st C D) (q:eW n n st C D=0) (s:dT o n):oU (((n:Int),(n:Int),st,C,D,()),o,())=some (((n:Int),(n:Int),hN (bh (bJ st C D n) o) n,()),0,()):=by
 obtain⟨t,m,p⟩:=FY i r q s;have v:=lq i;unfold oU;refine ai p ?_;dsimp only;rw[a6 (by rfl)];refine ai rfl ?_;dsimp only;rw[a6 (aw (U:¬(n:Int)>64))];refine ai rfl (ai rfl (ai rfl ?_));generalize bJ st C D n=E at*;generalize jV n (fl E) o=G at*;refine ac.eq_iff.1 ?_;dsimp only;generalize w:(((0:Int),(0:Int),[],()):fM)=d;refine ac.aU (P:=λe=>e=(d,((n:Int),(n:Int),hN (bh E o) n,()),())) ?_ (by rintro _ rfl;exact ac.af.2 rfl);refine ac.steps n (λa f=>f=((a:Int),d,((n:Int),(n:Int),aE (a*n) (λb=>aR (bh E o (b %n) (b/n))),()),())) ?_ ?_ ?_
 ·rw[pV];rfl
 ·rintro a _ h rfl;dsimp only;rw[bc (az (U:(a:Int)<(n:Int))),bg U];have u:a*n+n<=n*n:=by
   have:(a+1)*n<=n*n:=gv _ h;rw[eL,gw] at this;omega
  refine ac.bs rfl ?_;refine ac.aU (P:=λe=>e=(d,((n:Int),(n:Int),aE (a*n+n) (λb=>aR (bh E o (b %n) (b/n))),()),())) ?_ (by rintro _ rfl;exact ac.af.2 (by rw[eL,gw]));refine ac.steps n (λc f=>f=((c:Int),d,((n:Int),(n:Int),aE (a*n+c) (λb=>aR (bh E o (b %n) (b/n))),()),())) rfl ?_ ?_
  ·rintro c _ g rfl;dsimp only;rw[bc (az (U:(c:Int)<(n:Int))),bg U];refine ac.bs (LK m g h) ?_;dsimp only;refine ac.bs (Ar (iH _)) ?_;dsimp only;rw[dU (by rw[bv];simp;omega),Option.bind_some];refine ac.af.2 ?_;obtain⟨k,l⟩:=qv (n:=n) (j:=a) g;rw[<-Nat.add_assoc,m4 (a*n+c),k,l]
  rintro _ rfl;dsimp only;rw[a6 (aw (U:¬((n:Int)<(n:Int))))];exact ac.af.2 rfl
 rintro _ rfl;dsimp only;rw[a6 (aw (U:¬((n:Int)<(n:Int))))];exact ac.af.2 rfl
theorem F3 (d:fD b a st C D) (e:o.length<=1000000) (c:hR b a st C D o≠0):oU (((b:Int),(a:Int),st,C,D,()),o,())=some (((0:Int),(0:Int),[],()),hR b a st C D o,()):=by unfold oU;refine ai (FX d e c) ?_;dsimp only;rw[bY,aw c];rfl
theorem K9 (g:n<=5) (q:fD n n st C D) (l:eW n n st C D=0) (h:dT o n):o5 (((n:Int),(n:Int),st,C,D,()),o,())=some (((n:Int),(n:Int),hN (bh (bJ st C D n) o) n,()),0,()):=by
 classical
 have x:=lq g;have w:=h.1;have t:=λc b (d:c<n) (e:b<n)=>K1 q l h d e;unfold o5;refine ai (By q U) ?_;have u:(if eW n n st C D≠0 then eW n n st C D else if n≠n then 5 else if dT o n then 0 else 90)=0:=(by rw[if_neg (not_not_intro l),if_neg (not_not_intro rfl),if_pos h]);rw[u];dsimp only;rw[a6 (by rfl),a6 (aw (U:¬(n:Int)>64))];refine ai (K7 g) ?_;dsimp only;generalize bJ st C D n=E at*;refine ac.eq_iff.1 ?_;generalize y:(((0:Int),(0:Int),[],()):fM)=f;refine ac.aU (P:=λi=>i=(f,((n:Int),(n:Int),hN (bh E o) n,()),())) ?_ (by rintro _ rfl;exact ac.af.2 rfl);refine ac.steps n (λb k=>k=((b:Int),f,((n:Int),(n:Int),aE (n*n) (lr (λa=>aR (bh E o (a %n) (a/n))) (b*n)),()),())) ?_ ?_ ?_
 ·rw[pV];rfl
 ·rintro b _ e rfl;dsimp only;rw[bc (az (U:(b:Int)<(n:Int))),bg U];refine ac.aU (P:=λi=>i=(f,((n:Int),(n:Int),aE (n*n) (lr (λa=>aR (bh E o (a %n) (a/n))) (b*n+n)),()),())) ?_ (by rintro _ rfl;exact ac.af.2 (by rw[Nat.add_mul,Nat.one_mul]));refine ac.steps n (λc k=>k=((c:Int),f,((n:Int),(n:Int),aE (n*n) (lr (λa=>aR (bh E o (a %n) (a/n))) (b*n+c)),()),())) rfl ?_ ?_
  ·rintro c _ d rfl;dsimp only;rw[bc (az (U:(c:Int)<(n:Int))),bg U];refine ac.bs (t c b d e) ?_;dsimp only;have m:=rH e d;rw[vc g e d];refine ac.bs (eO (by rw[bv];exact m)) ?_;rw[fj m];refine ac.af.2 ?_;have:=Mr (λa=>aR (bh E o (a %n) (a/n))) (N:=n*n) (p:=b*n+c);obtain⟨r,s⟩:=qv (n:=n) (j:=b) d;rw[r,s] at this;rw[<-Nat.add_assoc,<-this]
  rintro _ rfl;dsimp only;rw[a6 (aw (U:¬((n:Int)<(n:Int))))];exact ac.af.2 rfl
 rintro _ rfl;dsimp only;rw[a6 (aw (U:¬((n:Int)<(n:Int))))];refine ac.af.2 ?_;have:aE (n*n) (lr (λa=>aR (bh E o (a %n) (a/n))) (n*n))=hN (bh E o) n:=dz λa v=>if_pos v;rw[this]
theorem K8 (d:fD b a st C D) (e:o.length<=1000000) (c:hR b a st C D o≠0):o5 (((b:Int),(a:Int),st,C,D,()),o,())=some (((0:Int),(0:Int),[],()),hR b a st C D o,()):=by unfold o5;refine ai (By d e) ?_;dsimp only;change(bif hR b a st C D o !=0 then _ else _)=_;rw[bY,aw c];rfl
end
section
variable {A B:Nat->Nat->cT} {G:cO} {o:cZ} {n:Nat}
def qw (A B:Nat->Nat->cT) (G:cO) (n a:Nat):cT:=tx (nR (B (a %n) (a/n)) (ob (kr A G n a)))
def gk (A B:Nat->Nat->cT) (G:cO) (n:Nat):Nat->Int
 |0=>0
 |t+1=>if gk A B G n t<(qw A B G n t).getD 0 then(qw A B G n t).getD 0 else gk A B G n t
theorem C9 (b:eo A G o n) (c:∀d e,fh 1 (B d e)) (a:Nat):fh 6 (qw A B G n a):=by unfold qw;exact(fh.add (c _ _) (YJ b a).neg aa).1.abs
theorem Bc (a:eo A G o n) (b:∀e f,fh 1 (B e f)):∀t,(gk A B G n t).natAbs<=6*nw
 |0=>dQ _
 |t+1=>by
  unfold gk;obtain⟨g,d,c⟩:=C9 a b t;rw[d];split
  ·exact c
  exact Bc a b t
theorem G7 (a b:Int):dy a b>0↔b<a:=by
 unfold dy;split
 ·omega
 split<;>omega
theorem Ss (a b:Int):dy a b<0↔a<b:=by
 unfold dy;split
 ·omega
 split<;>omega
theorem Ut:mr 0=some 0:=rfl
theorem Q6 (b:eo A G o n) (e:∀u v,fh 1 (B u v)) {i:bF} (p:oU (i,o,())=some (((n:Int),(n:Int),hN B n,()),0,())):rT (i,ei A G o n,())=some (aR (some (gk A B G n (n*n))),0,()):=by
 have w:=b.j1;have z:=lq w;unfold rT;refine ai (B9 b) ?_;dsimp only;rw[a6 (by rfl)];refine ai p ?_;dsimp only;rw[a6 (by rfl)];refine ai (F6 b) ?_;dsimp only;refine ai (SM aa aa) ?_;dsimp only;rw[Ut];refine ac.eq_iff.1 ?_;generalize C:((false,((false,([],())),((0:Int),()))):bD)=c;refine ac.aU (P:=λg=>g=(c,aR (some (gk A B G n (n*n))),())) ?_ (by rintro _ rfl;exact ac.af.2 rfl);refine ac.steps (n*n) (λa y=>y=((a:Int),c,((n:Int),(n:Int),hN B n,()),((n:Int),(n:Int),lO A G n,()),aR (some (gk A B G n a)),())) rfl ?_ ?_
 ·rintro a _ j rfl;dsimp only;rw[bc (az (show(a:Int)<aq (hN B n) by rw[aW];unfold hN;rw[bv];omega)),bg U];have aj:ay (hN B n) (a:Int)=some (aR (B (a %n) (a/n))):=(by unfold hN;rw[bM (by rw[bv];exact j),gB]);have l:ay (lO A G n) (a:Int)=some (aR (kr A G n a)):=(by unfold lO;rw[bM (by rw[bv];exact j),gB]);obtain⟨h,f,t⟩:=C9 b e a;have r:dc (B (a %n) (a/n)):=λE k=>by
   obtain⟨D,s,q⟩:=e (a %n) (a/n);rw[s] at k;cases k;exact pu q aa
  refine ac.aU (P:=λg=>g=(c,((n:Int),(n:Int),hN B n,()),((n:Int),(n:Int),lO A G n,()),aR (some (gk A B G n (a+1))),())) ?_ (by rintro _ rfl;exact ac.af.2 rfl);refine ac.bs aj (ac.bs l (ac.bs (SU r (ER a)) ?_));dsimp only;refine ac.bs (SJ (Gh _ _)) ?_;dsimp only;change ac ((vO (aR (qw A B G n a),aR (some (gk A B G n a)),())).bind _) _;rw[f];refine ac.bs (SL (pu t aa) (pu (Bc b e a) aa)) ?_;have m:gk A B G n (a+1)=if gk A B G n a<h then h else gk A B G n a:=by rw[gk,f];rfl
  change ac (bif decide (dy h (gk A B G n a)>0) then some (c,((n:Int),(n:Int),hN B n,()),((n:Int),(n:Int),lO A G n,()),aR (qw A B G n a),()) else some (c,((n:Int),(n:Int),hN B n,()),((n:Int),(n:Int),lO A G n,()),aR (some (gk A B G n a)),())) _;rw[f,bu,m];refine ac.ite (λd=>?_) (λd=>?_)
  ·rw[if_pos ((G7 _ _).1 d)];exact ac.af.2 rfl
  rw[if_neg (λx=>d ((G7 _ _).2 x))];exact ac.af.2 rfl
 rintro _ rfl;dsimp only;rw[a6 (aw (show¬((n*n:Nat):Int)<aq (hN B n) by rw[aW];unfold hN;rw[bv];omega))];exact ac.af.2 rfl
theorem YS (b:eo A G o n) (e:∀u v,fh 1 (B u v)) {h:bF} (m:o5 (h,o,())=some (((n:Int),(n:Int),hN B n,()),0,())):r8 (h,ei A G o n,())=some (aR (some (gk A B G n (n*n))),0,()):=by
 have w:=b.j1;have z:=lq w;unfold r8;refine ai (EU b) ?_;dsimp only;rw[a6 (by rfl)];refine ai m ?_;dsimp only;rw[a6 (by rfl)];refine ai (La b) ?_;dsimp only;refine ai (y:=(aR (some (gk A B G n (n*n))),())) ?_ rfl;unfold C4;refine ac.eq_iff.1 ?_;dsimp only;refine ac.aU (P:=λg=>g=(jl,aR (some (gk A B G n (n*n))),())) ?_ (by rintro _ rfl;exact ac.af.2 rfl);refine ac.steps (n*n) (λa x=>x=((a:Int),jl,aR (some (gk A B G n a)),())) ?_ ?_ ?_
 ·show(_:Int×bD×bD×Unit)=(_,jl,aR (some 0),());rw[<-Da];rfl
 ·rintro a _ i rfl;dsimp only;rw[bc (az (show(a:Int)<aq (hN B n) by rw[aW];unfold hN;rw[bv];omega)),bg U];have aj:ay (hN B n) (a:Int)=some (aR (B (a %n) (a/n))):=(by unfold hN;rw[bM (by rw[bv];exact i),gB]);have k:ay (lO A G n) (a:Int)=some (aR (kr A G n a)):=(by unfold lO;rw[bM (by rw[bv];exact i),gB]);obtain⟨c,f,t⟩:=C9 b e a;have r:dc (B (a %n) (a/n)):=λD j=>by
   obtain⟨C,s,p⟩:=e (a %n) (a/n);rw[s] at j;cases j;exact pu p aa
  refine ac.aU (P:=λg=>g=(jl,aR (some (gk A B G n (a+1))),())) ?_ (by rintro _ rfl;exact ac.af.2 rfl);refine ac.bs aj (ac.bs k (ac.bs (Zc r (ER a)) ?_));dsimp only;refine ac.bs (Lc (Gh _ _)) ?_;dsimp only;change ac ((wH (aR (some (gk A B G n a)),aR (qw A B G n a),())).bind _) _;rw[f];have q:wH (aR (some (gk A B G n a)),aR (some c),())=some (decide (gk A B G n a<c),()):=(by unfold wH;refine ai (Y8 (pu (Bc b e a) aa) (pu t aa)) ?_;dsimp only;rw[decide_eq_decide.2 (Ss _ _)]);refine ac.bs q ?_;have l:gk A B G n (a+1)=if gk A B G n a<c then c else gk A B G n a:=by rw[gk,f];rfl
  change ac (bif decide (gk A B G n a<c) then some (jl,aR (qw A B G n a),()) else some (jl,aR (some (gk A B G n a)),())) _;rw[f,bu,l];refine ac.ite (λd=>?_) (λd=>?_)
  ·rw[if_pos d];exact ac.af.2 rfl
  rw[if_neg d];exact ac.af.2 rfl
 rintro _ rfl;dsimp only;rw[a6 (aw (show¬((n*n:Nat):Int)<aq (hN B n) by rw[aW];unfold hN;rw[bv];omega))];exact ac.af.2 rfl
theorem VE (b:eo A G o n) (c:∀e f,fh 1 (B e f)) (a:Nat):dc (some (gk A B G n a)):=λg d=>by cases d;exact pu (Bc b c a) aa
end
end
section
def yc (f:dY) (o:cZ):Prop:=(∃a b c,f=ei a b o c/\eo a b o c)\/f=fP
theorem Ra (l:a<=5) (k:fD a b g c h) {o:cZ} (r:o.length<=1000000):∃f s e,Ck f/\yc f o/\qc (((a:Int),(b:Int),g,c,h,()),o,())=some (f,s,e,())/\r9 (((a:Int),(b:Int),g,c,h,()),o,())=some (f,s,e,()):=by
 by_cases m:hR a b g c h o=0
 ·obtain⟨p,rfl,d⟩:=Fi m;have i:=FT l k p d;have j:=YV l k p d;have q:=UU (A:=bh (bJ g c h a) o) l (AP (E:=fl (bJ g c h a)) d) (o:=o) (by rw[d.1];omega);rcases UT (bh (bJ g c h a) o) (jV a (fl (bJ g c h a)) o) o a with⟨e,n⟩|⟨u,e,t,n⟩
  ·rw[e] at i j q;exact⟨_,_,_,q,.inl ⟨_,_,_,rfl,l,AP d,d,n⟩,i,j⟩
  rw[t] at i j;exact⟨_,_,_,Be,.inr rfl,i,j⟩
 exact⟨_,_,_,Be,.inr rfl,Rb k r m,YU k r m⟩
section
variable {f:dY} {o:cZ}
theorem MT (a:yc f o):∃b c,rS (f,())=some (b,c,())/\qq (f,())=some (b,c,())/\wg (b,b,())=some (true,()):=by
 rcases a with⟨e,g,h,rfl,a⟩|rfl
 ·have d:=a.j1;have:=lq d;exact⟨_,_,MV a,K5 a,LM (by unfold kS;rw[bv];omega)⟩
 exact⟨_,_,MU,K4,LM ab⟩
theorem Rk (a:yc f o):∃b c,qd (f,())=some (b,c,())/\qr (f,())=some (b,c,())/\ql (b,b,())=some (true,()):=by
 rcases a with⟨e,g,h,rfl,a⟩|rfl
 ·have d:=a.j1;have:=lq d;exact⟨_,_,F6 a,La a,E9 U ER⟩
 exact⟨_,_,Rl,YY,LL _ _⟩
theorem Ri (i:a<=5) (e:fD a b g c h) (l:o.length<=1000000):∃d j,oU (((a:Int),(b:Int),g,c,h,()),o,())=some (d,j,())/\o5 (((a:Int),(b:Int),g,c,h,()),o,())=some (d,j,())/\ql (d,d,())=some (true,()):=by
 by_cases f:hR a b g c h o=0
 ·obtain⟨k,rfl,m⟩:=Fi f;have:=lq i;exact⟨_,_,F4 i e k m,K9 i e k m,E9 U (λn=>iH _)⟩
 exact⟨_,_,F3 e l f,K8 e l f,LL _ _⟩
theorem Q7 (t:a<=5) (n:fD a b g c h) (s:o.length<=1000000) (d:yc f o):∃l r,rT (((a:Int),(b:Int),g,c,h,()),f,())=some (l,r,())/\r8 (((a:Int),(b:Int),g,c,h,()),f,())=some (l,r,())/\r5 (l,l,())=some (true,()):=by
 have u:r5 (jl,jl,())=some (true,()):=(by rw[Da,<-sI];exact Fa (iH _));rcases d with⟨j,k,i,rfl,d⟩|rfl
 ·by_cases e:hR a b g c h o=0
  ·obtain⟨m,rfl,q⟩:=Fi e;obtain rfl:a=i:=(by rw[<-q.1,<-d.op.1]);have y:=(jj.1 m).1;have x:=(jj.1 m).2;have p:∀v w,fh 1 (bh (bJ g c h a) o v w):=λv w=>fh.TT (aaX (qy y (Ds x)) _ _);exact⟨_,_,Q6 d p (F4 t n m q),YS d p (K9 t n m q),Fa (VE d p _)⟩
  refine⟨jl,hR a b g c h o,?_,?_,u⟩
  ·unfold rT;refine ai (B9 d) ?_;dsimp only;rw[a6 (by rfl)];refine ai (F3 n s e) ?_;dsimp only;rw[bc (show(hR a b g c h (ei j k o i).1 !=0)=true by rw[bY,aw (show¬hR a b g c h (ei j k o i).1=0 from e)];rfl)];rfl
  unfold r8;refine ai (EU d) ?_;dsimp only;rw[a6 (by rfl)];refine ai (K8 n s e) ?_;dsimp only;rw[bc (show(hR a b g c h (ei j k o i).1 !=0)=true by rw[bY,aw (show¬hR a b g c h (ei j k o i).1=0 from e)];rfl)];rfl
 refine⟨jl,2,?_,?_,u⟩
 ·unfold rT;exact ai FI rfl
 unfold r8;exact ai K3 rfl
end
theorem MQ (j:cZ) (h c:Int) (i:cZ) (y:j.length<=9223372036854775807) (z:i.length<=9223372036854775807):C3 (j,h,c,i,())=some (true,()):=by unfold C3;refine ac.eq_iff.1 ?_;refine ac.aU (Yx y h c true) ?_;rintro⟨C,o,_⟩ ⟨S,a,e,A⟩;dsimp only at e A|-;obtain⟨V,Q,X,rfl,ar,G,H⟩:=e.ex;have B:=oB.small a a ar G H;obtain⟨f,C,M,_,b,_,x⟩:=Ra a B (o:=o) U;refine ac.bs x ?_;dsimp only;refine ac.aU (Cb z a a c) ?_;rintro⟨I,_⟩ d;dsimp only at d|-;obtain⟨W,R,Y,rfl,D,E,F⟩:=d.ex;have g:=oB.small a a D E F;obtain⟨T,aj,k,l,m⟩:=MT b;obtain⟨J,N,n,p,q⟩:=Rk b;obtain⟨K,O,r,s,t⟩:=Ri a g (o:=o) U;obtain⟨L,P,u,v,w⟩:=Q7 a g (o:=o) U b;refine ac.bs k (ac.bs l (ac.bs n (ac.bs p (ac.bs r (ac.bs s (ac.bs u (ac.bs v ?_)))))));dsimp only;rw[bc ab];refine ac.bs m ?_;dsimp only;rw[bc ab,bc ab];refine ac.bs q ?_;dsimp only;rw[bc ab,bc ab];refine ac.bs t ?_;dsimp only;rw[bc ab,bc ab];refine ac.bs w ?_;dsimp only;rw[bc ab];exact ac.bs RS (ac.af.2 rfl)
end
end Go.i9
end
