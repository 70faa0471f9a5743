/-
  Parts of the proof: Fw1, Fw2, Fw3, Fw4, Fw5, Fw6, Fw7, Fw8, Fw40, Fw41, Fw9, Fw10, Fw11, Fw12, Fw13, Fw14, Fw15, Fw16, Fw17, Fw18, Fw19: the framework (Fw), pure forms (Dn), plain laws (Pl, Th), calls of functions (Ok).
-/
import Derived.Laws.AppendOwn
import Derived.ArgAppend
import Derived.Laws.IdiomCopy
import Derived.Laws.Cells
import Derived.Laws.MakeOwn
import Derived.Calls
import Derived.Orders
import Derived.Laws.Entries
import Derived.Maps.RangeRun

set_option linter.all false
theorem U{p:Prop}(h:p:=by omega):p:=h
theorem aa{p:Prop}(h:p:=by decide):p:=h
theorem ac{p:Prop}(h:p:=by simp):p:=h
abbrev aG:=@Option.bind_some
abbrev aY:=@Nat.le_refl
abbrev bb:=@Nat.lt_or_ge
abbrev be:=@List.getElem?_eq_getElem
abbrev bg:=@Bool.and_eq_true
abbrev bH:=@Option.some.injEq
abbrev bI:=@List.getElem_mem
abbrev bN:=@Nat.zero_le
abbrev bT:=@List.mem_map
abbrev c9:=@Option.bind_eq_some_iff
abbrev dc:=@Int.toNat_natCast
abbrev dh:=@List.mem_cons
abbrev dn:=@Nat.le_trans
abbrev dK:=@List.take_of_length_le
abbrev dV:=@Option.some.inj
abbrev eb:=@Option.map_eq_some_iff
abbrev er:=@List.map_cons
abbrev es:=@Nat.eq_of_beq_eq_true
abbrev ey:=@List.getElem?_eq_some_iff
abbrev eC:=@List.length_take
abbrev eD:=@Nat.add_mul
abbrev eH:=@List.mem_append
abbrev eM:=@List.all_eq_true
abbrev eN:=@List.getElem?_map
abbrev eR:=@Int.le_of_lt
abbrev eS:=@List.mem_singleton
abbrev eT:=@Nat.le_of_ble_eq_true
abbrev eY:=@Int.eq_ofNat_of_zero_le
abbrev e0:=@List.mem_cons_of_mem
abbrev fc:=@List.mem_filter
abbrev fd:=@List.mem_range
abbrev fe:=@Option.map_some
abbrev fu:=@List.getElem?_eq_none
abbrev fv:=@Prod.mk.injEq
abbrev fy:=@Bool.or_eq_true
abbrev fH:=@List.mem_iff_getElem
abbrev fO:=@List.nil_append
abbrev fY:=@List.cons.injEq
abbrev fZ:=@List.map_append
abbrev ga:=@Nat.mul_le_mul_right
abbrev gm:=@Nat.min_eq_left
abbrev gw:=@List.length_map
abbrev gx:=@List.pairwise_iff_getElem
abbrev gG:=@Bool.not_true
abbrev gY:=@List.ext_getElem?
abbrev g0:=@Nat.one_mul
abbrev g7:=@Nat.eq_zero_or_pos
abbrev hp:=@Nat.lt_of_lt_of_le
abbrev hR:=@Bool.not_false
abbrev hU:=@List.map_congr_left
abbrev h5:=@List.length_cons
abbrev h6:=@List.length_filter_le
abbrev ik:=@Int.emod_add_mul_ediv
abbrev il:=@Int.mul_comm
abbrev im:=@Nat.mul_comm
abbrev ip:=@Nat.zero_add
abbrev iq:=@Option.bind_assoc
abbrev iB:=@Int.lt_or_le
abbrev iD:=@List.filter_cons
abbrev iE:=@List.flatten_cons
abbrev iF:=@List.getD_eq_getElem?_getD
abbrev iG:=@List.getElem?_drop
abbrev iH:=@List.mem_cons_self
abbrev iI:=@List.mem_flatten
abbrev iJ:=@List.nodup_append
abbrev iX:=@List.filter_append
abbrev iY:=@List.getElem?_cons_zero
abbrev iZ:=@List.range_succ
abbrev i5:=@Nat.two_pow_pos
abbrev jm:=@List.cons_append
abbrev jn:=@List.nodup_cons
abbrev jo:=@List.take_add_one
abbrev jq:=@Nat.pow_add
abbrev jM:=@Nat.add_zero
abbrev jN:=@Nat.mul_le_mul
abbrev jO:=@Nat.pow_succ
abbrev ke:=@Int.mul_le_mul_of_nonneg_left
abbrev kf:=@Int.natCast_mul
abbrev kh:=@Int.pow_add
abbrev kx:=@Int.mul_assoc
abbrev ky:=@List.getElem?_set_self
abbrev kz:=@List.length_drop
abbrev kA:=@List.mem_of_getElem?
abbrev kB:=@Option.getD_some
abbrev k1:=@Int.mul_le_mul_of_nonneg_right
abbrev k2:=@List.eq_nil_of_length_eq_zero
abbrev k3:=@List.getElem?_take_of_lt
abbrev k4:=@List.mem_append_right
abbrev k5:=@Nat.lt_trichotomy
abbrev lD:=@List.getElem?_replicate
abbrev lE:=@List.getElem?_set_ne
abbrev lF:=@List.pairwise_cons
abbrev lG:=@List.take_append_drop
abbrev md:=@Array.getElem?_eq_some_iff
abbrev me:=@Bool.eq_iff_iff
abbrev mh:=@Int.ediv_nonneg
abbrev mi:=@Int.mul_nonneg
abbrev mj:=@List.append_nil
abbrev ml:=@List.drop_zero
abbrev mm:=@List.filter_eq_self
abbrev m3:=@Int.pow_pos
abbrev m5:=@List.any_eq_true
abbrev m6:=@List.length_replicate
abbrev m7:=@List.mem_append_left
abbrev m8:=@List.take_length
abbrev m9:=@Nat.add_assoc
abbrev na:=@Nat.zero_mul
abbrev nO:=@List.getElem?_append_left
abbrev nP:=@List.length_append
abbrev nS:=@Nat.add_sub_cancel_left
abbrev oL:=@Array.mem_append_right
abbrev oQ:=@Int.ediv_eq_zero_of_lt
abbrev oR:=@Int.emod_nonneg
abbrev oS:=@Int.mul_pos
abbrev oT:=@List.append_assoc
abbrev oU:=@List.drop_drop
abbrev oV:=@List.drop_eq_nil_of_le
abbrev oW:=@List.filter_cons_of_neg
abbrev oX:=@List.filter_cons_of_pos
abbrev oY:=@List.filter_nil
abbrev oZ:=@List.flatten_append
abbrev o0:=@List.getElem?_append_right
abbrev o1:=@List.getElem?_cons_succ
abbrev o2:=@List.getElem?_range
abbrev o3:=@List.length_nil
abbrev o4:=@List.length_set
abbrev o5:=@Nat.beq_refl
abbrev o6:=@Nat.le_of_lt
abbrev o7:=@Nat.pow_le_pow_right
abbrev p6:=@Array.getElem?_modify
abbrev qa:=@Int.emod_lt_of_pos
abbrev qb:=@Int.le_refl
abbrev qc:=@Int.toNat_of_nonneg
abbrev qd:=@Int.zero_add
abbrev qe:=@List.getElem?_set
abbrev qf:=@List.length_range
abbrev qg:=@List.map_map
abbrev qh:=@List.pairwise_map
abbrev qi:=@List.size_toArray
abbrev qj:=@Nat.div_add_mod
abbrev rK:=@Int.ediv_ediv_of_nonneg
abbrev rL:=@Int.ediv_lt_of_lt_mul
abbrev rM:=@Int.emod_eq_of_lt
abbrev rN:=@Int.natAbs_natCast
abbrev rO:=@Int.zero_mul
abbrev rP:=@List.all_cons
abbrev rQ:=@List.count_append
abbrev rR:=@List.drop_append_of_le_length
abbrev rS:=@List.drop_of_length_le
abbrev rT:=@List.filter_congr
abbrev rU:=@List.getElem?_take
abbrev rV:=@List.getElem_map
abbrev rW:=@List.perm_iff_count
abbrev rX:=@List.take_append_of_le_length
abbrev rY:=@Nat.mul_assoc
abbrev tG:=@Array.getElem?_toList
abbrev tH:=@Array.replicate_succ
abbrev tI:=@Array.replicate_zero
abbrev tL:=@Int.add_mul_ediv_left
abbrev tM:=@Int.ediv_le_self
abbrev tN:=@Int.natAbs_neg
abbrev tO:=@List.any_eq_false
abbrev tP:=@List.append_toArray
abbrev tQ:=@List.getElem_set_ne
abbrev tR:=@List.length_eq_one_iff
abbrev tS:=@List.push_toArray
abbrev tU:=@Nat.div_lt_of_lt_mul
abbrev tV:=@Nat.min_eq_right
abbrev tW:=@Nat.not_lt_zero
abbrev vJ:=@Array.getElem?_eq_getElem
abbrev vK:=@Array.getElem?_push
abbrev vL:=@Bool.not_eq_true'
abbrev vS:=@Int.add_mul_emod_self_left
abbrev vT:=@Int.mul_lt_mul_of_pos_right
abbrev vU:=@Int.natCast_ediv
abbrev vW:=@List.append_of_mem
abbrev vX:=@List.filter_eq_nil_iff
abbrev vY:=@List.getElem_take
abbrev vZ:=@List.map_toArray
abbrev v2:=@List.mem_toArray
abbrev v7:=@Nat.add_sub_cancel
abbrev v8:=@Nat.div_le_self
abbrev v9:=@Nat.lt_succ_self
abbrev yD:=@Array.getD_eq_getD_getElem?
abbrev yI:=@Int.fdiv_eq_ediv_of_nonneg
abbrev yJ:=@Int.tdiv_eq_ediv_of_nonneg
abbrev yK:=@Int.tmod_eq_emod_of_nonneg
abbrev yL:=@List.getElem?_append
abbrev yM:=@List.length_singleton
abbrev yN:=@List.singleton_append
abbrev yO:=@Nat.le_div_iff_mul_le
abbrev yP:=@Nat.testBit_two_pow
abbrev yR:=@Option.isSome_some
abbrev CK:=@Array.getElem?_setIfInBounds_ne
abbrev CL:=@Classical.byContradiction
abbrev CN:=@List.length_eq_zero_iff
abbrev CO:=@List.mem_of_find?_eq_some
abbrev b4:=List (Int×(Int×(List Int×(Int×Unit))))×(Option (List (Int×(Int×(List Int×(Int×Unit)))))×Option (List Int)×Unit)×Unit
abbrev b6:=List (Int×(Int×(List Int×(Int×Unit))))×(Option Int×Unit)×Unit
abbrev b7:=(List (List Int)×Unit)×(List (List Int)×Unit)×List Int×Unit
abbrev b8:=(Int×List Int×Unit)⊕((List Int×Unit)⊕(List Int×Bool×Unit))
abbrev b9:=(List Int×Unit)⊕((Int×List Int×Unit)⊕(Unit⊕(Int×Unit)))
abbrev ca:=Int×(List (List Int)×Unit)×(List (List Int)×Unit)×Unit
abbrev cb:=(List (List Int)×Unit)×(List (List Int)×Unit)×Unit
abbrev cc:=List Int×(Option (List (List Int)×Unit)×Unit)×Unit
abbrev cd:=Int×(List (List Int)×Unit)×List (List Bool)×Unit
abbrev cf:=(List (List Int)×Unit)×List (List Bool)×Unit
abbrev cg:=Int×(List (List Bool)×(List Bool×Unit))×Unit
abbrev ch:=(List (List Bool)×(List Bool×Unit))×Unit
abbrev cj:=(Int×List Bool×Unit)⊕(Unit⊕(Bool×Unit))
abbrev ck:=List (Int×(Int×(List Int×(Int×Unit))))
abbrev cl:=(Int×List Bool×Unit)⊕(List Bool×Unit)
abbrev cn:=(List (List Int)×Unit)×List Int×Unit
abbrev cp:=(List Int×Unit)⊕(List Int×Bool×Unit)
abbrev cq:=Unit⊕((Int×Unit)⊕(Unit⊕(Int×Unit)))
abbrev cr:=Int×(List Int×(List Int×Unit))×Unit
abbrev cu:=(Int×Int×Unit)⊕(Unit⊕(Bool×Unit))
abbrev cw:=List (List Bool)×(List Bool×Unit)
abbrev cx:=(List Int×(List Int×Unit))×Unit
abbrev cy:=(List (List Int)×Unit)×Int×Unit
abbrev cz:=Int×(Int×(List Int×(Int×Unit)))
abbrev cA:=(Int×Unit)⊕(Unit⊕(Bool×Unit))
abbrev cB:=(Int×Unit)⊕(Unit⊕(Int×Unit))
abbrev cC:=(List (List Int)×Unit)×Unit
abbrev cD:=Int×List (List Bool)×Unit
abbrev cE:=Int×(List Int×(Int×Unit))
abbrev cF:=List Int×(List Int×Unit)
abbrev cG:=List (List Int)×Int×Unit
abbrev cH:=List (List Bool)×Unit
abbrev cI:=List (List Int)×Unit
abbrev cK:=Int×List Bool×Unit
abbrev cL:=List Int×Bool×Unit
abbrev cM:=List Int×Int×Unit
abbrev cN:=Int×List Int×Unit
abbrev cO:=Nat×Nat×List Nat
abbrev cP:=Unit⊕(Bool×Unit)
abbrev cQ:=Int×Int×Int×Unit
abbrev cR:=Unit⊕(Int×Unit)
abbrev cS:=List Bool×Unit
abbrev cT:=Int×Bool×Unit
abbrev cU:=List Int×Unit
abbrev cV:=Bool×Int×Unit
abbrev cW:=Int×Int×Unit
abbrev cX:=Bool×Unit
abbrev cY:=Int×Unit
abbrev cZ:=Nat×Nat
abbrev c0:=List (List Go.Value)
abbrev c3:=Option (List Int)
abbrev c4:=List (Option Int)
abbrev c5:=List (List Bool)
abbrev c6:=List (List Nat)
abbrev c7:=List (List Int)
abbrev c8:=Option Go.Operand
abbrev abS:=Array Go.Value
abbrev abT:=List Go.TypeId
abbrev abU:=List Go.Value
abbrev abV:=Option Int
abbrev abW:=Option Nat
abbrev abX:=List Bool
abbrev abY:=Option cX
abbrev abZ:=Option cY
abbrev ab0:=List Nat
abbrev ab1:=List Int
abbrev ab2:=List cZ
noncomputable section
namespace Go.hT
variable{a w G:TypeId}{b i:Operand}{c h M O:Nat}{e n:World}{g B:abU}{k D V:Nat->Prop}{m:ab0}{o:Nat->abU}{p:Nat->ab0}{r T:Option Addr}{s:Exit->Act->World->Prop}{t:Array MapEntry}{u:IntKind}{x:abS}{z E:Type}{C:Array (Nat×Operand)}{I:Value}{N:Program}{S:Int}
inductive dd where
 |bx
 |dk
 deriving DecidableEq
variable{f:dd->Nat->Prop}{P:dd}
inductive ah where
 |int (k:IntKind)
 |bool
 |str
 |a6 (m:dd) (t:ah)
 |ptr (m:dd) (t:ah)
 |osl (t:ah)
 |optr (t:ah)
 |st (t:ah)
 |pr (a b:ah)
 |nil
 |de
 |mp (t:ah)
 |dJ (m:dd) (t:ah)
 deriving DecidableEq
variable{d q Q:ah}{j:List (Nat×ah)}
def ah.size:ah->Nat
 |.pr a b=>a.size+b.size
 |.st c=>c.size
 |.nil|.de=>0
 |_=>1
@[reducible] def ah.den:ah->Type
 |.int _=>Int
 |.bool=>Bool
 |.str=>ByteArray
 |.a6 _ a=>List a.den
 |.ptr _ a=>Option a.den
 |.osl a=>List a.den
 |.optr a=>a.den
 |.st a=>a.den
 |.pr b c=>b.den×c.den
 |.nil=>Unit
 |.de=>Unit
 |.mp a=>Option (List (Int×a.den)×Nat)
 |.dJ _ a=>Option (List (Int×a.den)×Nat)
def i4 {d:Type} (b:List (Int×Nat×d)) (c:List (Int×d)) (g:Nat):Prop:=
 c.Pairwise (λe f=>e.1<f.1)/\(b.map λa=>(a.1,a.2.2)).Perm c/\(b.map λa=>a.2.1).Nodup/\∀a∈b,a.2.1<g
def bL:ah->abU->Value
 |.st _,a=>.agg a.toArray
 |_,a=>a.headD undef
def dS (f:World) (c e:Nat) (d:abU):Prop:=∀a b,d[a]?=some b->f.cell? ⟨c,e+a,none⟩=some b
def hS (c:World) (b e d:Nat):Prop:=∀a,e<=a->a<d->(c.cell? ⟨b,a,none⟩).isSome=true/\c.frozen? ⟨b,a,none⟩=false
def hA (d:World) (a:Nat):Option (Array MapEntry×Nat):=match d.heap[a]? with
 |some (.map c b)=>some (c,b)
 |_=>none
def bU (c d:World) (a:Nat):Prop:=(∀b,d.cell? ⟨a,b,none⟩=c.cell? ⟨a,b,none⟩/\d.frozen? ⟨a,b,none⟩=c.frozen? ⟨a,b,none⟩)/\hA d a=hA c a
theorem bU.refl (a:World) (b:Nat):bU a a b:=⟨λ_=>⟨rfl,rfl⟩,rfl⟩
theorem bU.of_heap (b:n.heap[c]?=e.heap[c]?):bU e n c:=
 ⟨λd=>⟨World.cell?_of_block (a:=⟨c,d,none⟩) b,World.frozen?_of_block (a:=⟨c,d,none⟩) b⟩,by unfold hA;rw[b]⟩
def jj (j k:World) (d:Nat):Prop:=∀f b,hA j d=some (f,b)->∃g e,hA k d=some (g,e)/\b<=e/\∀(h:Nat) (a:MapEntry),g[h]?=some a->a.born<b->∃(i:Nat) (c:MapEntry),f[i]?=some c/\c.key=a.key/\c.born=a.born
theorem jj.of_eq (f:hA n c=hA e c):jj e n c:=
 λd a h=>⟨d,a,f.trans h,aY _,λi b g _=>⟨i,b,g,rfl,rfl⟩⟩
theorem jj.refl (a:World) (b:Nat):jj a a b:=.of_eq rfl
theorem jj.of_heap {b c:World} {a:Nat} (d:c.heap[a]?=b.heap[a]?):jj b c a:=.of_eq (bU.of_heap d).2
theorem jj.trans {b c d:World} {a:Nat} (m:jj b c a) (n:jj c d a):jj b d a:=λj e s=>by obtain⟨k,f,o,p,q⟩:=m j e s;obtain⟨l,g,w,x,y⟩:=n k f o;refine⟨l,g,w,dn p x,λt h r E=>?_⟩;obtain⟨u,i,ar,z,A⟩:=y t h r U;obtain⟨v,aj,B,C,D⟩:=q u i ar U;exact⟨v,aj,B,C.trans z,D.trans A⟩
theorem dS.ev (a:dS e c h g) (d:bU e n c):dS n c h g:=
 λf i b=>by rw[(d.1 _).1];exact a f i b
theorem hS.ev (b:hS e c M h) (a:bU e n c):hS n c M h:=
 λg d f=>by rw[(a.1 _).1,(a.1 _).2];exact b g d f
def aN (i:dd->Nat->Prop) (f:World):(A:ah)->abU->A.den->ab0->Prop
 |.int x,b,y,d=>d=[]/\b=[.int x y]
 |.bool,b,a,d=>d=[]/\b=[.bool a]
 |.str,b,z,d=>d=[]/\b=[.string z]
 |.a6 s c,b,l,d=>d=[]/\∃k n,b=[.slice k l.length n]/\l.length<=n/\(k=none->n=0)/\(l=[]\/∃a h,k=some ⟨a,h,none⟩/\i s a/\∀j g,l[j]?=some g->∃e,e.length=c.size/\dS f a (h+j*c.size) e/\aN i f c e g [])
 |.ptr s c,b,g,d=>d=[]/\match g with
  |none=>b=[.pointer none]
  |some v=>∃a h e,b=[.pointer (some ⟨a,h,none⟩)]/\i s a/\e.length=c.size/\dS f a h e/\aN i f c e v []
 |.osl c,b,l,d=>∃k n,b=[.slice k l.length n]/\((
   k=none/\l=[]/\n=0/\d=[])\/∃(a h:Nat) (t:c6),k=some ⟨a,h,none⟩/\d=a::t.flatten/\t.length=l.length/\l.length<=n/\
   hS f a h (h+n*c.size)/\∀j g r,l[j]?=some g->t[j]?=some r->∃e,e.length=c.size/\dS f a (h+j*c.size) e/\aN i f c e g r)
 |.optr c,b,v,d=>∃a h r e,b=[.pointer (some ⟨a,h,none⟩)]/\d=a::r/\e.length=c.size/\dS f a h e/\hS f a h (h+c.size)/\aN i f c e v r
 |.st c,b,g,d=>aN i f c b g d
 |.pr k a,b,g,d=>∃w f2,d=w++f2/\aN i f k (b.take k.size) g.1 w/\aN i f a (b.drop k.size) g.2 f2
 |.nil,b,_,d=>d=[]/\b=[]
 |.de,b,_,_=>b=[]
 |.mp c,b,g,d=>match g with
  |none=>d=[]/\b=[.map none]
  |some (u,q)=>∃(a:Nat) (p:Array MapEntry) (o:List (Int×Nat×c.den)),b=[.map (some a)]/\d=[a]/\i4 o u q/\hA f a=some (p,q)/\p.size=o.length/\∀(j:Nat) (m:Int×Nat×c.den),o[j]?=some m->∃e:abU,e.length=c.size/\p[j]?=some (MapEntry.mk (.int .i64 m.1) (bL c e) m.2.1)/\aN i f c e m.2.2 []
 |.dJ s c,b,g,d=>match g with
  |none=>d=[]/\b=[.map none]
  |some (u,q)=>∃(a:Nat) (p:Array MapEntry) (o:List (Int×Nat×c.den)),b=[.map (some a)]/\d=[]/\i4 o u q/\i s a/\hA f a=some (p,q)/\p.size=o.length/\∀(j:Nat) (m:Int×Nat×c.den),o[j]?=some m->∃e:abU,e.length=c.size/\p[j]?=some (MapEntry.mk (.int .i64 m.1) (bL c e) m.2.1)/\aN i f c e m.2.2 []
theorem aN.len {i:dd->Nat->Prop} {r:World}:∀{τ:ah} {e:abU} {b:τ.den} {l:ab0},aN i r τ e b l->e.length=τ.size
 |.int _,_,_,_,a=>by rw[a.2];rfl
 |.bool,_,_,_,a=>by rw[a.2];rfl
 |.str,_,_,_,a=>by rw[a.2];rfl
 |.a6 _ _,_,_,_,a=>by obtain⟨_,c,g,a,_⟩:=a;rw[a];rfl
 |.ptr _ _,_,b,_,a=>by
  obtain⟨_,a⟩:=a;cases b with
  |none=>simp only at a;rw[a];rfl
  |some w=>obtain⟨d,v,j,a,_⟩:=a;rw[a];rfl
 |.osl _,_,_,_,a=>by obtain⟨c,g,a,_⟩:=a;rw[a];rfl
 |.optr _,_,_,_,a=>by obtain⟨c,g,s,j,a,_⟩:=a;rw[a];rfl
 |.st f,_,_,_,a=>aN.len (τ:=f) a
 |.pr c d,e,_,_,a=>by obtain⟨t,f2,_,m,n⟩:=a;have o:=aN.len (τ:=c) m;have p:=aN.len (τ:=d) n;simp only[eC,kz] at o p;show e.length=c.size+d.size;omega
 |.nil,_,_,_,a=>by rw[a.2];rfl
 |.de,_,_,_,a=>by rw[show _=[] from a];rfl
 |.mp f,_,b,_,a=>by
  cases b with
  |none=>rw[a.2];rfl
  |some q=>obtain⟨d,k,h,a,_⟩:=a;rw[a];rfl
 |.dJ u f,_,b,_,a=>by
  cases b with
  |none=>rw[a.2];rfl
  |some q=>obtain⟨d,k,h,a,_⟩:=a;rw[a];rfl
theorem aN.one {j:dd->Nat->Prop} {s:World}:∀{τ:ah} {cs:abU} {b:τ.den} {m:ab0},aN j s τ cs b m->∀g∈cs,g.oneCell'=true
 |.int _,_,_,_,a=>by rw[a.2];simp[Value.oneCell']
 |.bool,_,_,_,a=>by rw[a.2];simp[Value.oneCell']
 |.str,_,_,_,a=>by rw[a.2];simp[Value.oneCell']
 |.a6 _ _,_,_,_,a=>by obtain⟨_,d,h,a,_⟩:=a;rw[a];simp[Value.oneCell']
 |.ptr _ _,_,b,_,a=>by
  obtain⟨_,a⟩:=a;cases b with
  |none=>simp only at a;rw[a];simp[Value.oneCell']
  |some x=>obtain⟨e,w,k,a,_⟩:=a;rw[a];simp[Value.oneCell']
 |.osl _,_,_,_,a=>by obtain⟨d,h,a,_⟩:=a;rw[a];simp[Value.oneCell']
 |.optr _,_,_,_,a=>by obtain⟨d,h,f,k,a,_⟩:=a;rw[a];simp[Value.oneCell']
 |.st t,_,_,_,a=>aN.one (τ:=t) a
 |.pr d e,cs,_,_,a=>by
  obtain⟨u,f2,_,n,o⟩:=a;have p:=aN.one (τ:=d) n;have q:=aN.one (τ:=e) o;intro g c;rw[<-lG d.size cs] at c;rcases eH.1 c with c|c
  ·exact p g c
  ·exact q g c
 |.nil,_,_,_,a=>by rw[a.2];simp
 |.de,_,_,_,a=>by rw[show _=[] from a];simp
 |.mp t,_,b,_,a=>by
  cases b with
  |none=>rw[a.2];simp[Value.oneCell']
  |some r=>obtain⟨e,l,i,a,_⟩:=a;rw[a];simp[Value.oneCell']
 |.dJ v t,_,b,_,a=>by
  cases b with
  |none=>rw[a.2];simp[Value.oneCell']
  |some r=>obtain⟨e,l,i,a,_⟩:=a;rw[a];simp[Value.oneCell']
theorem aN.mono {L M:dd->Nat->Prop} {A B:World} (d:∀j a,L j a->M j a/\bU A B a):∀{τ:ah} {F:abU} {g:τ.den} {x:ab0},aN L A τ F g x->(∀a∈x,bU A B a)->aN M B τ F g x
 |.int _,_,_,_,b,_=>b
 |.bool,_,_,_,b,_=>b
 |.str,_,_,_,b,_=>b
 |.a6 j w,_,T,_,b,_=>by obtain⟨H,y,E,e,c,k,l⟩:=b;refine⟨H,y,E,e,c,k,l.imp id ?_⟩;rintro⟨a,v,J,i,K⟩;refine⟨a,v,J,(d j a i).1,λu g t=>?_⟩;obtain⟨h,o,p,q⟩:=K u g t;exact⟨h,o,p.ev (d j a i).2,aN.mono d q ac⟩
 |.ptr j w,_,g,_,b,_=>by
  obtain⟨H,b⟩:=b;refine⟨H,?_⟩;cases g with
  |none=>exact b
  |some U=>
   obtain⟨a,v,h,e,c,k,l,r⟩:=b;exact⟨a,v,h,e,(d j a c).1,k,l.ev (d j a c).2,aN.mono d r ac⟩
 |.osl w,_,T,x,b,f=>by obtain⟨y,E,e,c⟩:=b;refine⟨y,E,e,c.imp id ?_⟩;rintro⟨a,v,P,J,s,S,m,R,K⟩;have i:bU A B a:=f a (by rw[s];simp);refine⟨a,v,P,J,s,S,m,R.ev i,λu g C t N=>?_⟩;obtain⟨h,o,p,q⟩:=K u g C t N;refine⟨h,o,p.ev i,aN.mono d q (λn m=>f n ?_)⟩;rw[s];exact e0 _ (iI.2 ⟨C,kA N,m⟩)
 |.optr w,_,_,_,b,f=>by obtain⟨a,v,C,h,e,c,k,l,r,Q⟩:=b;have i:bU A B a:=f a (by rw[c];simp);exact⟨a,v,C,h,e,c,k,l.ev i,r.ev i,aN.mono d Q (λn m=>f n (by rw[c];exact e0 _ m))⟩
 |.st w,_,_,_,b,f=>aN.mono (τ:=w) d b f
 |.pr y a,F,_,_,b,f=>by obtain⟨O,f2,s,e,c⟩:=b;exact⟨O,f2,s,aN.mono (τ:=y) d e (λn m=>f n (by rw[s];exact m7 _ m)),aN.mono (τ:=a) d c (λn m=>f n (by rw[s];exact k4 _ m))⟩
 |.nil,_,_,_,b,_=>b
 |.de,_,_,_,b,_=>b
 |.mp w,_,g,x,b,f=>by
  cases g with
  |none=>exact b
  |some z=>
   obtain⟨a,G,D,e,c,I,k,l,r⟩:=b;refine⟨a,G,D,e,c,I,(f a (by rw[c];simp)).2.trans k,l,λu z t=>?_⟩;obtain⟨h,o,p,q⟩:=r u z t;exact⟨h,o,p,aN.mono d q ac⟩
 |.dJ j w,_,g,x,b,f=>by
  cases g with
  |none=>exact b
  |some z=>
   obtain⟨a,G,D,e,c,I,i,k,l,r⟩:=b;refine⟨a,G,D,e,c,I,(d j a i).1,(d j a i).2.2.trans k,l,λu z t=>?_⟩;obtain⟨h,o,p,q⟩:=r u z t;exact⟨h,o,p,aN.mono d q ac⟩
def ah.ix:ah->Bool
 |.de=>false
 |.a6 _ a|.ptr _ a|.osl a|.optr a|.st a|.mp a|.dJ _ a=>a.ix
 |.pr b c=>b.ix&&c.ix
 |_=>true
theorem aN.uniq {w:dd->Nat->Prop} {B:World}:∀{τ:ah} {r:abU} {e n:τ.den} {i y:ab0},τ.ix=true->aN w B τ r e i->aN w B τ r n y->i=y
 |.int _,_,_,_,_,_,_,a,b=>a.1.trans b.1.symm
 |.bool,_,_,_,_,_,_,a,b=>a.1.trans b.1.symm
 |.str,_,_,_,_,_,_,a,b=>a.1.trans b.1.symm
 |.a6 _ _,_,_,_,_,_,_,a,b=>a.1.trans b.1.symm
 |.ptr _ _,_,_,_,_,_,_,a,b=>a.1.trans b.1.symm
 |.nil,_,_,_,_,_,_,a,b=>a.1.trans b.1.symm
 |.de,_,_,_,_,_,d,_,_=>by cases d
 |.dJ J h,r,e,n,i,y,_,a,b=>by
  have F:∀{e:(ah.dJ J h).den} {i:ab0},aN w B (.dJ J h) r e i->i=[]:=λ{e i} a=>by
   cases e with
   |none=>exact a.1
   |some T=>obtain⟨j,H,C,_,l,_⟩:=a;exact l
  rw[F a,F b]
 |.mp h,_,e,n,_,_,_,a,b=>by
  cases e with
  |none=>
   cases n with
   |none=>exact a.1.trans b.1.symm
   |some V=>
    obtain⟨j,H,C,f,_⟩:=b;have:=a.2.symm.trans f;simp at this
  |some T=>
   obtain⟨j,H,C,f,l,_⟩:=a;cases n with
   |none=>
    have:=f.symm.trans b.2;simp at this
   |some V=>
    obtain⟨E,av,Z,g,t,_⟩:=b;have:=f.symm.trans g;simp only[fY,Value.map.injEq,bH,and_true] at this;rw[l,t,this]
 |.st h,_,_,_,_,_,d,a,b=>aN.uniq (τ:=h) d a b
 |.pr D j,_,_,_,_,_,d,a,b=>by simp only[ah.ix,bg] at d;obtain⟨a3,f2,rfl,f,l⟩:=a;obtain⟨a4,bd,rfl,I,z⟩:=b;rw[aN.uniq (τ:=D) d.1 f I,aN.uniq (τ:=j) d.2 l z]
 |.optr h,_,_,_,_,_,d,a,b=>by
  obtain⟨j,K,i,k,f,rfl,I,z,_,Q⟩:=a;obtain⟨E,S,a0,p,g,rfl,bl,P,_,R⟩:=b;rw[f] at g;simp only[fY,Value.pointer.injEq,bH,Addr.mk.injEq,and_true] at g;obtain⟨rfl,rfl⟩:=g;obtain rfl:k=p:=by
   apply gY;intro c;rcases bb c k.length with m|m
   ·have ar:=z c k[c] (by simp[m]);have v:=P c (p[c]'(by omega)) ac
    rw[ar] at v;simp only[bH] at v;rw[be m,be U,v]
   ·rw[fu m,fu U]
  rw[aN.uniq (τ:=h) d Q R]
 |.osl h,_,e,n,_,_,d,a,b=>by
  obtain⟨D,ad,f,l⟩:=a;obtain⟨ab,am,g,t⟩:=b;rw[f] at g;simp only[fY,Value.slice.injEq,and_true] at g;obtain⟨rfl,bs,rfl⟩:=g;rcases l with⟨rfl,rfl,rfl,rfl⟩|⟨j,K,s,rfl,rfl,ar,v,ci,W⟩
  ·rcases t with⟨_,rfl,_,rfl⟩|⟨j,K,s,o,_⟩
   ·rfl
   ·cases o
  ·rcases t with⟨o,_⟩|⟨E,S,x,o,rfl,bB,ce,co,X⟩
   ·cases o
   ·simp only[bH,Addr.mk.injEq,and_true] at o;obtain⟨rfl,rfl⟩:=o;have:s=x:=by
     apply gY;intro c;rcases bb c e.length with m|m
     ·have aj:s[c]?=some (s[c]'(by omega)):=be U
      have G:x[c]?=some (x[c]'(by omega)):=be U
      obtain⟨k,an,L,N⟩:=W c e[c] _ (by simp[m]) aj;obtain⟨p,ap,M,O⟩:=X c (n[c]'(by omega)) _ ac G
      obtain rfl:k=p:=by
       apply gY;intro q;rcases bb q k.length with u|u
       ·have Y:=L q k[q] (by simp[u]);have A:=M q (p[q]'(by omega)) ac
        rw[Y] at A;simp only[bH] at A;rw[be u,be U,A]
       ·rw[fu u,fu U]
      rw[aj,G,aN.uniq (τ:=h) d N O]
     ·rw[fu U,fu U]
    rw[this]
inductive aV where
 |idx (i:Nat)
 |deref
 |unst
 |fst
 |snd
 deriving DecidableEq
variable{l:List aV}
def db:(τ:ah)->τ.den->List aV->(a:ah)->a.den->Prop
 |τ,d,[],a,b=>∃i:τ=a,i▸d=b
 |.osl e,k,.idx j::c,a,b=>∃f,k[j]?=some f/\db e f c a b
 |.optr e,d,.deref::c,a,b=>db e d c a b
 |.st e,d,.unst::c,a,b=>db e d c a b
 |.pr g _,d,.fst::c,a,b=>db g d.1 c a b
 |.pr _ h,d,.snd::c,a,b=>db h d.2 c a b
 |_,_,_,_,_=>False
def dH:(τ:ah)->τ.den->List aV->(a:ah)->a.den->τ.den->Prop
 |τ,_,[],a,b,e=>∃m:τ=a,m▸e=b
 |.osl g,j,.idx i::c,a,b,n=>∃h f,j[i]?=some h/\dH g h c a b f/\n=j.set i f
 |.optr g,d,.deref::c,a,b,e=>dH g d c a b e
 |.st g,d,.unst::c,a,b,e=>dH g d c a b e
 |.pr k _,d,.fst::c,a,b,e=>∃f,dH k d.1 c a b f/\e=(f,d.2)
 |.pr _ l,d,.snd::c,a,b,e=>∃f,dH l d.2 c a b f/\e=(d.1,f)
 |_,_,_,_,_,_=>False
theorem db.eX {a:d.den} {b:q.den}:db d a [] q b↔∃c:d=q,c▸a=b:=by cases d<;>exact Iff.rfl
theorem dH.eX {e a:d.den} {b:q.den}:dH d e [] q b a↔∃c:d=q,c▸a=b:=by cases d<;>exact Iff.rfl
abbrev Loc:=Option cZ
variable{v:Loc}
def aP (k:World):(τ:ah)->Loc->abU->List aV->(a:ah)->Loc->abU->Prop
 |τ,i,b,[],a,d,c=>τ=a/\i=d/\b=c
 |.osl g,_,b,.idx m::f,a,d,c=>∃e j n p h,b=[.slice (some ⟨e,j,none⟩) n p]/\m<n/\h.length=g.size/\dS k e (j+m*g.size) h/\aP k g (some (e,j+m*g.size)) h f a d c
 |.optr g,_,b,.deref::f,a,d,c=>∃e j h,b=[.pointer (some ⟨e,j,none⟩)]/\h.length=g.size/\dS k e j h/\aP k g (some (e,j)) h f a d c
 |.st g,i,b,.unst::f,a,d,c=>aP k g i b f a d c
 |.pr l _,i,b,.fst::f,a,d,c=>aP k l i (b.take l.size) f a d c
 |.pr l e,i,b,.snd::f,a,d,c=>aP k e (i.map λo=>(o.1,o.2+l.size)) (b.drop l.size) f a d c
 |_,_,_,_,_,_,_=>False
theorem dS.eq (f:dS e c h g) (i:dS e c h B) (k:g.length=B.length):g=B:=by
 apply gY;intro a;rcases bb a g.length with b|b
 ·have j:=f a g[a] (by simp[b]);have d:=i a (B[a]'(by omega)) ac
  rw[j] at d;simp only[bH] at d;rw[be b,be U,d]
 ·rw[fu b,fu U]
theorem aP.iu {w:World}:∀{p:List aV} {e:ah} {j:Loc} {f:abU} {u v:ah} {g h:Loc} {q r:abU},aP w e j f p u g q->aP w e j f p v h r->u=v/\g=h/\q=r
 |[],e,j,f,_,_,_,_,_,_,b,c=>by simp only[aP] at b c;exact⟨b.1.symm.trans c.1,b.2.1.symm.trans c.2.1,b.2.2.symm.trans c.2.2⟩
 |s::p,e,j,f,_,_,_,_,_,_,b,c=>by
  cases e<;>cases s<;>simp only[aP] at b c
  case osl.idx t i=>
   obtain⟨m,A,E,C,y,aj,_,g,k,n⟩:=b;obtain⟨x,B,F,D,z,d,_,h,l,o⟩:=c;rw[aj] at d;simp only[fY,Value.slice.injEq,bH,Addr.mk.injEq,and_true] at d;obtain⟨⟨rfl,rfl⟩,rfl,rfl⟩:=d;obtain rfl:=k.eq l U;exact aP.iu n o
  case optr.deref t=>
   obtain⟨m,A,y,aj,g,k,n⟩:=b;obtain⟨x,B,z,d,h,l,o⟩:=c;rw[aj] at d;simp only[fY,Value.pointer.injEq,bH,Addr.mk.injEq,and_true] at d;obtain⟨rfl,rfl⟩:=d;obtain rfl:=k.eq l U;exact aP.iu n o
  case st.unst t=>exact aP.iu b c
  case pr.fst a m=>exact aP.iu b c
  case pr.snd a m=>exact aP.iu b c
def p8 (c d:World) (f:Loc) (g:Nat) (b:Nat):Prop:=
 (∀a,(∀e,f=some (b,e)->a<e\/e+g<=a)->d.cell? ⟨b,a,none⟩=c.cell? ⟨b,a,none⟩)/\
 (∀a,d.frozen? ⟨b,a,none⟩=c.frozen? ⟨b,a,none⟩)/\(∀a,(d.cell? ⟨b,a,none⟩).isSome=(c.cell? ⟨b,a,none⟩).isSome)/\hA d b=hA c b
theorem p8.ev (a:p8 e n v h c) (f:∀b,v≠some (c,b)):bU e n c:=
 ⟨λd=>⟨a.1 d (λb g=>absurd g (f b)),a.2.1 d⟩,a.2.2.2⟩
theorem p8.Ja (a:p8 e n v O c) (f:hS e c M h):hS n c M h:=
 λg b d=>by rw[a.2.1,a.2.2.1];exact f g b d
def nQ (c:World) (e:Loc) (d:abU) (f:Nat):Prop:=∀b a,e=some (b,a)->dS c b a d/\hS c b a (a+f)
theorem dS.take {e:World} {b d h:Nat} {c:abU} (f:dS e b d c):dS e b d (c.take h):=λg i a=>by
 rw[rU] at a;split at a
 ·exact f g i a
 ·cases a
theorem dS.drop {f:World} {b e a:Nat} {c:abU} (g:dS f b e c):dS f b (e+a) (c.drop a):=λh i d=>by rw[iG] at d;have:=g (a+h) i d;rwa[<-m9] at this
theorem dS.append (f:dS e h c g) (i:dS e h (c+g.length) B):dS e h c (g++B):=λb d a=>by
 rw[yL] at a;split at a
 ·exact f b d a
 ·have:=i _ d a;rwa[(U:c+g.length+(b-g.length)=c+b)] at this
theorem aaC {a:List z} {d:z} (e:a[c]?=some d):∃b f,a=b++d::f/\b.length=c:=by obtain⟨g,rfl⟩:=ey.1 e;exact⟨a.take c,a.drop (c+1),by rw[List.getElem_cons_drop,lG],by simp;omega⟩
theorem aP.ev {E:dd->Nat->Prop} {y D:World}:∀{x:List aV} {τ:ah} {u:Loc} {j:abU} {z:τ.den} {p:ab0} {A:ah} {v:Loc} {n:abU},aN E y τ j z p->(∀a∈p,bU y D a)->aP y τ u j x A v n->aP D τ u j x A v n
 |[],τ,_,_,_,_,_,_,_,_,_,b=>by cases τ<;>exact b
 |s::x,τ,u,j,z,p,A,v,n,h,e,b=>by
  cases τ<;>cases s<;>simp only[aP] at b
  case osl.idx t i=>
   obtain⟨a,w,V,G,o,rfl,C,q,g,r⟩:=b;obtain⟨m,Q,f,l⟩:=h;simp only[fY,Value.slice.injEq,and_true] at f;obtain⟨rfl,rfl,rfl⟩:=f;rcases l with⟨k,_⟩|⟨F,O,L,k,rfl,ar,W,X,P⟩
   ·cases k
   ·simp only[bH,Addr.mk.injEq,and_true] at k;obtain⟨rfl,rfl⟩:=k;obtain⟨J,R,H,I⟩:=P i z[i] (L[i]'(by omega)) (by simp[C]) ac
    obtain rfl:=g.eq H U;exact⟨a,w,_,G,o,rfl,C,q,g.ev (e a ac),aP.ev I (λc d=>e c (e0 _ (iI.2 ⟨_,bI U,d⟩))) r⟩
  case optr.deref t=>
   obtain⟨a,w,o,rfl,q,g,r⟩:=b;obtain⟨F,O,S,J,B,rfl,T,M,_,N⟩:=h;simp only[fY,Value.pointer.injEq,bH,Addr.mk.injEq,and_true] at B;obtain⟨rfl,rfl⟩:=B;obtain rfl:=g.eq M U;exact⟨a,w,o,rfl,q,g.ev (e a ac),aP.ev N (λc d=>e c (by simp[d])) r⟩
  case st.unst t=>exact aP.ev (τ:=t) h e b
  case pr.fst m a=>
   obtain⟨K,f2,rfl,f,l⟩:=h;exact aP.ev (τ:=m) f (λc d=>e c (by simp[d])) b
  case pr.snd m a=>
   obtain⟨K,f2,rfl,f,l⟩:=h;exact aP.ev (τ:=a) l (λc d=>e c (by simp[d])) b
def nt:List aV->Bool
 |[]=>false
 |.idx _::_=>true
 |.deref::_=>true
 |_::a=>nt a
def fB:List aV->List aV->Bool
 |p,[]=>nt p
 |.idx _::p,.idx _::a=>fB p a
 |.deref::p,.deref::a=>fB p a
 |.unst::p,.unst::a=>fB p a
 |.fst::p,.fst::a=>fB p a
 |.snd::p,.snd::a=>fB p a
 |.fst::_,.snd::_=>true
 |.snd::_,.fst::_=>true
 |_,_=>false
theorem aP.l7 {a:Loc}:aP e d v g [] q a B↔d=q/\v=a/\g=B:=by cases d<;>exact Iff.rfl
def jx:List aV->List aV->Bool
 |.deref::a,.deref::b=>jx a b
 |.unst::a,.unst::b=>jx a b
 |.fst::a,.fst::b=>jx a b
 |.snd::a,.snd::b=>jx a b
 |.fst::_,.snd::_=>true
 |.snd::_,.fst::_=>true
 |_,_=>false
theorem sD (a:List aV):jx [] a=false:=by cases a<;>rfl
theorem AT:∀{p q:List aV},jx p q=true->fB p q=true
 |[],q,a=>by rw[sD] at a;cases a
 |s::p,[],a=>by cases s<;>cases a
 |s::p,b::q,a=>by cases s<;>cases b<;>first|(cases a;done)|exact AT (p:=p) (q:=q) a|rfl
theorem sE:∀{p q:List aV} {τ:ah} {h j:τ.den} {k f:ah} {l:k.den} {i:f.den},jx p q=true->dH τ h p k l j->db τ h q f i->db τ j q f i
 |[],q,_,_,_,_,_,_,_,d,_,_=>by rw[sD] at d;cases d
 |s::p,[],_,_,_,_,_,_,_,d,_,_=>by cases s<;>cases d
 |s::p,m::q,τ,h,j,k,f,l,i,d,c,e=>by
  cases τ<;>cases s<;>simp only[dH] at c<;>cases m<;>first|(cases d;done)|(simp only[db] at e;done)|skip
  case optr.deref.deref t=>exact sE (p:=p) (q:=q) (τ:=t) d c e
  case st.unst.unst t=>exact sE (p:=p) (q:=q) (τ:=t) d c e
  case pr.fst.fst a b=>
   obtain⟨g,c,rfl⟩:=c;exact sE (p:=p) (q:=q) (τ:=a) d c e
  case pr.snd.snd a b=>
   obtain⟨g,c,rfl⟩:=c;exact sE (p:=p) (q:=q) (τ:=b) d c e
  case pr.fst.snd a b=>
   obtain⟨g,c,rfl⟩:=c;exact e
  case pr.snd.fst a b=>
   obtain⟨g,c,rfl⟩:=c;exact e
theorem aN.sub {C:dd->Nat->Prop} {B:World}:∀{p:List aV} {τ:ah} {A:Loc} {q:abU} {n:τ.den} {m:ab0} {l:ah} {r:l.den} {z:Loc} {o:abU},aN C B τ q n m->db τ n p l r->aP B τ A q p l z o->∃e,aN C B l o r e/\∀b∈e,b∈m
 |[],τ,A,q,n,m,l,r,z,o,d,c,a=>by obtain⟨rfl,rfl⟩:=db.eX.1 c;obtain⟨_,_,rfl⟩:=aP.l7.1 a;exact⟨m,d,λb L=>L⟩
 |s::p,τ,A,q,n,m,l,r,z,o,d,c,a=>by
  cases τ<;>cases s<;>simp only[db] at c<;>simp only[aP] at a
  case osl.idx t i=>
   obtain⟨J,y,c⟩:=c;obtain⟨G,R,ad,X,I,f,u,M,v,a⟩:=a;obtain⟨V,W,rfl,d⟩:=d;rcases d with⟨_,rfl,_⟩|⟨F,Q,D,rfl,rfl,ab,Y,O,P⟩
   ·simp at y
   have Z:i<n.length:=(ey.1 y).1;obtain⟨e,E⟩:∃e,D[i]?=some e:=⟨D[i],be U⟩;obtain⟨H,N,w,x⟩:=P i J e y E;simp only[fY,Value.slice.injEq,bH,Addr.mk.injEq,and_true] at f;obtain⟨⟨rfl,rfl⟩,rfl,rfl⟩:=f;obtain rfl:=v.eq w U;obtain⟨g,j,k⟩:=aN.sub (p:=p) x c a;exact⟨g,j,λb h=>e0 _ (iI.2 ⟨e,kA E,k b h⟩)⟩
  case optr.deref t=>
   obtain⟨G,R,I,f,M,v,a⟩:=a;obtain⟨F,Q,e,H,rfl,rfl,N,w,O,x⟩:=d;simp only[fY,Value.pointer.injEq,bH,Addr.mk.injEq,and_true] at f;obtain⟨rfl,rfl⟩:=f;obtain rfl:=v.eq w U;obtain⟨g,j,k⟩:=aN.sub (p:=p) x c a;exact⟨g,j,λb h=>e0 _ (k b h)⟩
  case st.unst t=>exact aN.sub (p:=p) (τ:=t) d c a
  case pr.fst S T=>
   obtain⟨K,f2,rfl,f,u⟩:=d;obtain⟨g,j,k⟩:=aN.sub (p:=p) f c a;exact⟨g,j,λb h=>m7 _ (k b h)⟩
  case pr.snd S T=>
   obtain⟨K,f2,rfl,f,u⟩:=d;obtain⟨g,j,k⟩:=aN.sub (p:=p) u c a;exact⟨g,j,λb h=>k4 _ (k b h)⟩
theorem xz:∀(Z:List aV) {τ:ah} {loc:Loc} {u:abU} {am:τ.den} {d9:ab0} {F:ah} {ii:F.den},aN f e τ u am d9->nQ e loc u τ.size->d9.Nodup->(∀d g,loc=some (d,g)->d∉d9/\∀r,¬f r d)->(∀d∈d9,∀r,¬f r d)->db τ am Z F ii->∃y V av X,aP e τ loc u Z F y V/\aN f e F V ii av/\nQ e y V F.size/\d9.Perm (av++X)/\(∀m h,y=some (m,h)->(∃g,loc=some (m,g)/\g<=h/\h+F.size<=g+τ.size)\/m∈X)/\(∀(
   s:World) (L:dd->Nat->Prop) (D:abU) (z:F.den) (Y:ab0) (c1:τ.den),
   (∀r d,f r d->L r d)->(∀d,(∃r,f r d)\/d∈X\/(∃g,loc=some (d,g))->p8 e s y F.size d)->
   aN L s F D z Y->(y=none->Z≠[]->D=V)->(∀d g,y=some (d,g)->dS s d g D)->dH τ am Z F z c1->
   ∃q Q,aN L s τ q c1 Q/\(Z=[]->q=D)/\(loc=none->(y≠none\/D=V)->q=u)/\(∀d g,loc=some (d,g)->dS s d g q)/\Q.Perm (Y++X)/\aP s τ loc q Z F y D/\∀(c:List aV) (T:ah) (S:Loc) (P:abU),fB Z c=true->aP e τ loc u c T S P->aP s τ loc q c T S P)/\
  (∀(c:List aV) (an:ah) (z:an.den) (ad:Loc) (co:abU) (f2:ab0),jx Z c=true->an.ix=true->db τ am c an z->aP e τ loc u c an ad co->aN f e an co z f2->∀b∈f2,b∈X/\∀m h,y=some (m,h)->b≠m):=by
 intro Z
 induction Z with
 |nil=>
  intro τ loc u am d9 F ii d6 ce d4 R bd H;obtain⟨rfl,rfl⟩:=db.eX.1 H;refine⟨loc,u,d9,[],(by cases τ<;>exact⟨rfl,rfl,rfl⟩),d6,ce,ac,λm h a=>.inl ⟨h,a,U,U⟩,?_,λc _ _ _ _ _ a=>by rw[sD] at a;cases a⟩;intro s L D z Y c1 _ _ A _ M B;obtain⟨_,rfl⟩:=dH.eX.1 B;exact⟨D,Y,A,λ_=>rfl,λbB a=>a.resolve_left (λc=>c bB),M,ac,(by cases τ<;>exact⟨rfl,rfl,rfl⟩),λc _ _ _ n=>by cases c<;>simp[fB,nt] at n⟩
 |cons os Z go=>
  intro τ loc u am d9 F ii d6 ce d4 R bd H;cases τ<;>cases os<;>simp only[db] at H
  case osl.idx t i=>
   obtain⟨ap,ex,H⟩:=H;obtain⟨oN,d8,rfl,d6⟩:=d6;rcases d6 with⟨_,rfl,_⟩|⟨d,g,f1,rfl,rfl,lp,of,gf,jp⟩
   ·simp at ex
   have hv:i<am.length:=(ey.1 ex).1;obtain⟨f7,le⟩:∃f7,f1[i]?=some f7:=⟨f1[i],be U⟩;obtain⟨f4,i0,em,i1⟩:=jp i ap f7 ex le;obtain⟨cv,ic,fn,or⟩:=aaC le;have ok:∀w,w<am.length->g+w*t.size+t.size<=g+d8*t.size:=λw n=>(by have:(w+1)*t.size<=d8*t.size:=ga _ U;rw[eD,g0] at this;omega);have f0:nQ e (some (d,g+i*t.size)) f4 t.size:=(by rintro O o a;simp only[bH,fv] at a;obtain⟨rfl,rfl⟩:=a;exact⟨em,λx l M=>gf x U (by have:=ok i hv;omega)⟩);have i8:=d4;rw[fn] at i8;simp only[oZ,iE,jn,iJ,eH,not_or] at i8;obtain⟨⟨no,ek,nx⟩,i3,⟨fs,f3,ol⟩,on⟩:=i8;obtain⟨y,V,av,X,dl,ds,d0,G,W,d1,ed⟩:=go (loc:=some (d,g+i*t.size)) i1 f0 fs (by rintro O o a;simp only[bH,fv] at a;obtain⟨rfl,rfl⟩:=a;exact⟨ek,bd d ac⟩) (λb k=>bd b (by rw[fn];simp[k])) H;refine⟨y,V,av,d::(cv.flatten++(X++ic.flatten)),⟨d,g,_,d8,f4,rfl,hv,i0,em,dl⟩,ds,d0,?_,?_,?_,λc _ _ _ _ _ a=>by cases c with|nil=>cases a|cons I c=>cases I<;>cases a⟩
   ·rw[fn];simp only[oZ,iE];rw[rW] at G|-;intro b;have:=G b;simp only[rQ,List.count_cons] at this|-;omega
   ·intro m h a;right;rcases W m h a with⟨o,l,_⟩|l
    ·simp only[bH,fv] at l;rw[l.1];simp
    ·simp[l]
   ·intro s L D z Y c1 a3 v A d5 d2 B;simp only[dH] at B;obtain⟨nd,f5,lb,B,rfl⟩:=B;obtain rfl:nd=ap:=(by rw[ex] at lb;exact(dV lb).symm);obtain⟨q,Q,C,_,_,N,ab,d7,bs⟩:=d1 s L D z Y f5 a3 (by
      rintro b (a|a|⟨o,a⟩)
      ·exact v b (.inl a)
      ·exact v b (.inr (.inl (by simp[a])))
      ·simp only[bH,fv] at a;exact v b (.inr (.inl (by rw[<-a.1];simp)))) A
     (by
      intro bB rd;exact d5 bB ac) d2 B
    have a4:∀m h,y=some (m,h)->(m=d/\g+i*t.size<=h/\h+F.size<=g+i*t.size+t.size)\/m∈f7:=by
     intro m h a;rcases W m h a with⟨o,l,M,f8⟩|l
     ·simp only[bH,fv] at l;obtain⟨rfl,rfl⟩:=l;exact .inl ⟨rfl,M,f8⟩
     ·exact .inr (G.mem_iff.2 (by simp[l]))
    have el:=v d (.inr (.inl ac));have gc:∀r b,f r b->L r b/\bU e s b:=λr b k=>⟨a3 r b k,(v b (.inl ⟨r,k⟩)).ev (λo a=>by
     rcases a4 b o a with⟨rfl,_⟩|l
     ·exact bd b ac r k
     ·exact bd b (by rw[fn];simp[l]) r k)⟩
    have lt:∀(w:Nat) (hr:t.den) (a0:ab0),w≠i->am[w]?=some hr->f1[w]?=some a0->∀c2:abU,c2.length=t.size->dS e d (g+w*t.size) c2->dS s d (g+w*t.size) c2/\∀b∈a0,bU e s b:=by
     intro w hr a0 gi n cs c2 ib gt;have ra:w<am.length:=(ey.1 n).1;have i2:∀b∈a0,b∈cv.flatten\/b∈ic.flatten:=by
      intro b k;rw[fn] at cs;rcases bb w cv.length with a|a
      ·rw[nO a] at cs;exact .inl (iI.2 ⟨a0,kA cs,k⟩)
      ·rw[o0 a] at cs;obtain⟨c,E⟩:∃c,w-cv.length=c+1:=⟨w-cv.length-1,U⟩;rw[E] at cs;simp only[o1] at cs;exact .inr (iI.2 ⟨a0,kA cs,k⟩)
     refine⟨?_,?_⟩
     ·intro x hi fp;have hw:x<c2.length:=(ey.1 fp).1;rw[el.1]
      ·exact gt x hi fp
      ·intro h a;rcases a4 d h a with⟨_,l,M⟩|l
       ·rcases Nat.lt_or_gt_of_ne gi with rb|pz
        ·left;have:(w+1)*t.size<=i*t.size:=ga _ U;rw[eD,g0] at this;omega
        ·right;have:(i+1)*t.size<=w*t.size:=ga _ U;rw[eD,g0] at this;omega
       ·exact absurd l ek
     ·intro b k;refine(v b (.inr (.inl ?_))).ev ?_
      ·rcases i2 b k with a|a<;>simp[a]
      ·intro h a;rcases a4 b h a with⟨rfl,_⟩|l
       ·rcases i2 b k with a|a
        ·exact no a
        ·exact nx a
       ·rcases i2 b k with a|a
        ·exact on b a b (.inl l) rfl
        ·exact ol b l b a rfl
    refine⟨[.slice (some ⟨d,g,none⟩) am.length d8],d::(cv++Q::ic).flatten,⟨some ⟨d,g,none⟩,d8,ac,.inr ⟨d,g,cv++Q::ic,rfl,rfl,?_,by simpa using of,el.Ja gf,?_⟩⟩,ac,λ_ _=>rfl,?_,?_,⟨d,g,_,d8,q,rfl,hv,by rw[C.len],N d _ rfl,d7⟩,?_⟩
    ·rw[fn] at lp;simpa using lp
    ·intro w hr a0 n H;by_cases gi:w=i
     ·subst gi;rw[ky hv] at n;obtain rfl:=dV n;rw[o0 U,or,Nat.sub_self] at H;simp only[iY,bH] at H;subst H;exact⟨q,by rw[C.len],N d _ rfl,C⟩
     ·rw[lE (λa=>gi a.symm)] at n;have cs:f1[w]?=some a0:=by
       rw[fn];rcases bb w cv.length with a|a
       ·rw[nO a] at H|-;exact H
       ·rw[o0 a] at H|-;obtain⟨c,E⟩:∃c,w-cv.length=c+1:=⟨w-cv.length-1,U⟩;rw[E] at H|-;simpa using H
      obtain⟨c2,ib,gt,kg⟩:=jp w hr a0 n cs;obtain⟨k0,la⟩:=lt w hr a0 gi n cs c2 ib gt;exact⟨c2,ib,k0,kg.mono gc la⟩
    ·intro O o a;have ge:=(R O o a).1;refine((ce O o a).1).ev ((v O (.inr (.inr ⟨o,a⟩))).ev ?_);intro h fz;rcases a4 O h fz with⟨rfl,_⟩|l
     ·exact ge ac
     ·exact ge (by rw[fn];simp[l])
    ·rw[rW] at ab|-;intro b;have:=ab b;simp only[oZ,iE,rQ,List.count_cons] at this|-;omega
    ·intro c T S P n E;cases c with
     |nil=>exact E
     |cons I c=>
      cases I<;>simp only[fB] at n<;>first|(cases n;done)|skip
      rename_i x;obtain⟨O,o,rl,pl,io,l,M,f8,f9,hs⟩:=E;simp only[fY,Value.slice.injEq,bH,Addr.mk.injEq,and_true] at l;obtain⟨⟨rfl,rfl⟩,rfl,rfl⟩:=l;by_cases lo:x=i
      ·subst lo;obtain rfl:=f9.eq em U;exact⟨d,g,_,d8,q,rfl,M,C.len,N d _ rfl,bs c T S P n hs⟩
      ·have mo:am[x]?=some am[x]:=be M;have lk:f1[x]?=some (f1[x]'(by omega)):=be _
       obtain⟨c2,ib,gt,kg⟩:=jp x _ _ mo lk;obtain rfl:=f9.eq gt U;obtain⟨k0,la⟩:=lt x _ _ lo mo lk io f8 f9;exact⟨d,g,_,d8,io,rfl,M,f8,k0,aP.ev kg la hs⟩
  case optr.deref t=>
   obtain⟨d,g,f7,f4,rfl,rfl,i0,em,gf,i1⟩:=d6;simp only[jn] at d4;obtain⟨n5,op⟩:=d4;have f0:nQ e (some (d,g)) f4 t.size:=(by rintro O o a;simp only[bH,fv] at a;obtain⟨rfl,rfl⟩:=a;exact⟨em,gf⟩);obtain⟨y,V,av,X,dl,ds,d0,G,W,d1,ed⟩:=go (loc:=some (d,g)) i1 f0 op (by rintro O o a;simp only[bH,fv] at a;obtain⟨rfl,rfl⟩:=a;exact⟨n5,bd d ac⟩) (λb k=>bd b (by simp[k])) H;refine⟨y,V,av,d::X,⟨d,g,f4,rfl,i0,em,dl⟩,ds,d0,?_,?_,?_,?_⟩
   rotate_left 3
   ·intro c an z ad co f2 a fs d3 bl A b k;cases c with
    |nil=>cases a
    |cons I c=>
     cases I<;>first|(cases a;done)|skip
     simp only[aP] at bl;obtain⟨O,o,pm,aj,ps,ne,bl⟩:=bl;simp only[fY,Value.pointer.injEq,bH,Addr.mk.injEq,and_true] at aj;obtain⟨rfl,rfl⟩:=aj;obtain rfl:=ne.eq em U;obtain⟨ar,K⟩:=ed c an z ad co f2 a fs d3 bl A b k;exact⟨by simp[ar],K⟩
   ·rw[rW] at G|-;intro b;have:=G b;simp only[rQ,List.count_cons] at this|-;omega
   ·intro m h a;right;rcases W m h a with⟨o,l,_⟩|l
    ·simp only[bH,fv] at l;rw[l.1];simp
    ·simp[l]
   ·intro s L D z Y c1 a3 v A d5 d2 B;simp only[dH] at B;obtain⟨q,Q,C,_,_,N,ab,d7,bs⟩:=d1 s L D z Y c1 a3 (by
      rintro b (a|a|⟨o,a⟩)
      ·exact v b (.inl a)
      ·exact v b (.inr (.inl (by simp[a])))
      ·simp only[bH,fv] at a;exact v b (.inr (.inl (by rw[<-a.1];simp)))) A
     (λbB _=>d5 bB ac) d2 B
    have el:=v d (.inr (.inl ac));refine⟨[.pointer (some ⟨d,g,none⟩)],d::Q,⟨d,g,Q,q,rfl,rfl,C.len,N d g rfl,el.Ja gf,C⟩,ac,λ_ _=>rfl,?_,?_,⟨d,g,q,rfl,C.len,N d g rfl,d7⟩,?_⟩
    ·intro O o a;have ge:=(R O o a).1;refine((ce O o a).1).ev ((v O (.inr (.inr ⟨o,a⟩))).ev ?_);intro h fz;rcases W O h fz with⟨mt,l,_⟩|l
     ·simp only[bH,fv] at l;exact ge (by rw[l.1];simp)
     ·exact ge (e0 _ (G.mem_iff.2 (by simp[l])))
    ·rw[rW] at ab|-;intro b;have:=ab b;simp only[rQ,List.count_cons] at this|-;omega
    ·intro c T S P n E;cases c with
     |nil=>exact E
     |cons I c=>
      cases I<;>simp only[fB] at n<;>first|(cases n;done)|skip
      obtain⟨O,o,io,l,f8,f9,hs⟩:=E;simp only[fY,Value.pointer.injEq,bH,Addr.mk.injEq,and_true] at l;obtain⟨rfl,rfl⟩:=l;obtain rfl:=f9.eq em U;exact⟨d,g,q,rfl,C.len,N d g rfl,bs c T S P n hs⟩
  case st.unst t=>
   obtain⟨y,V,av,X,dl,ds,d0,G,W,d1,ed⟩:=go (loc:=loc) (τ:=t) d6 ce d4 R bd H;refine⟨y,V,av,X,dl,ds,d0,G,W,?_,?_⟩
   rotate_left 1
   ·intro c an z ad co f2 a fs d3 bl A b k;cases c with
    |nil=>cases a
    |cons I c=>
     cases I<;>first|(cases a;done)|skip
     exact ed c an z ad co f2 a fs d3 bl A b k
   intro s L D z Y c1 a3 v A d5 d2 B;obtain⟨q,Q,C,rg,gs,N,ab,d7,bs⟩:=d1 s L D z Y c1 a3 v A (λbB _=>d5 bB ac) d2 B;refine⟨q,Q,C,ac,gs,N,ab,d7,?_⟩;intro c T S P n E;cases c with
   |nil=>
    obtain⟨rfl,rfl,rfl⟩:=aP.l7.1 E;obtain⟨_,_,ap⟩:=aP.l7.1 (bs [] t loc u (by simpa[fB,nt] using n) (aP.l7.2 ⟨rfl,rfl,rfl⟩));exact aP.l7.2 ⟨rfl,rfl,ap⟩
   |cons I c=>
    cases I<;>simp only[fB] at n<;>first|(cases n;done)|skip
    exact bs c T S P n E
  case pr.fst j ci=>
   obtain⟨ft,f2,rfl,l,M⟩:=d6;have kd:=l.len;have ad:=M.len;simp only[eC,kz] at kd ad;have f0:nQ e loc (u.take j.size) j.size:=λd g a=>⟨(ce d g a).1.take,λx ar K=>(ce d g a).2 x ar (by show x<g+(j.size+ci.size);omega)⟩;simp only[iJ] at d4;obtain⟨i3,fs,f3⟩:=d4;obtain⟨y,V,av,X,dl,ds,d0,G,W,d1,ed⟩:=go (loc:=loc) l f0 i3 (λd g a=>⟨λc=>(R d g a).1 (by simp[c]),(R d g a).2⟩) (λb k=>bd b (by simp[k])) H;refine⟨y,V,av,X++f2,dl,ds,d0,?_,?_,?_,?_⟩
   rotate_left 3
   ·intro c an z ad co is a gl d3 bl A b k;cases c with
    |nil=>cases a
    |cons I c=>
     cases I<;>first|(cases a;done)|skip
     ·obtain⟨ar,K⟩:=ed c an z ad co is a gl d3 bl A b k;exact⟨by simp[ar],K⟩
     ·obtain⟨a0,C,N⟩:=aN.sub (p:=c) M d3 bl;have fT:b∈f2:=N b (by rw[<-aN.uniq gl A C];exact k);refine⟨by simp[fT],λm h ex ap=>?_⟩;subst ap;rcases W b h ex with⟨o,aj,_⟩|aj
      ·exact(R b o aj).1 (by simp[fT])
      ·exact f3 b (G.mem_iff.2 (by simp[aj])) b fT rfl
   ·rw[rW] at G|-;intro b;have:=G b;simp only[rQ] at this|-;omega
   ·intro m h a;rcases W m h a with⟨o,ar,K,gv⟩|ar
    ·exact .inl ⟨o,ar,K,by show h+F.size<=o+(j.size+ci.size);omega⟩
    ·exact .inr (by simp[ar])
   ·intro s L D z Y c1 a3 v A d5 d2 B;simp only[dH] at B;obtain⟨f5,B,rfl⟩:=B;obtain⟨q,Q,C,_,gs,N,ab,d7,bs⟩:=d1 s L D z Y f5 a3 (by
      rintro b (a|a|a)
      ·exact v b (.inl a)
      ·exact v b (.inr (.inl (by simp[a])))
      ·exact v b (.inr (.inr a))) A (λbB _=>d5 bB ac) d2 B
    have a4:∀m h,y=some (m,h)->(∃g,loc=some (m,g)/\g<=h/\h+F.size<=g+j.size)\/m∈ft:=λm h a=>(W m h a).imp id (λc=>G.mem_iff.2 (by simp[c]));have gc:∀r b,f r b->L r b/\bU e s b:=λr b k=>⟨a3 r b k,(v b (.inl ⟨r,k⟩)).ev (λo a=>by
     rcases a4 b o a with⟨g,c,_⟩|c
     ·exact(R b g c).2 r k
     ·exact bd b (by simp[c]) r k)⟩
    have mc:∀b∈f2,bU e s b:=λb k=>(v b (.inr (.inl (by simp[k])))).ev (λh a=>by
     rcases a4 b h a with⟨g,c,_⟩|c
     ·exact(R b g c).1 (by simp[k])
     ·exact f3 b c b k rfl)
    have mp:=C.len;refine⟨q++u.drop j.size,Q++f2,⟨Q,f2,rfl,?_,?_⟩,ac,?_,?_,?_,(by
     show aP s j loc ((q++u.drop j.size).take j.size) Z F y D;rw[rX U,dK U];exact d7),?_⟩
    ·rw[rX U,dK U];exact C
    ·rw[rR U,rS U,fO];exact M.mono gc mc
    ·intro ar K;rw[gs ar K,lG]
    ·intro d g a;refine(N d g a).append ?_;rw[mp];intro x hi fp;have el:=v d (.inr (.inr ⟨g,a⟩));have hw:x<(u.drop j.size).length:=(ey.1 fp).1;simp only[kz] at hw;rw[el.1]
     ·exact((ce d g a).1.drop) x hi fp
     ·intro h fz;rcases a4 d h fz with⟨mt,ar,K,gv⟩|c
      ·rw[a] at ar;simp only[bH,fv,true_and] at ar;right;omega
      ·exact absurd (by simp[c]) (R d g a).1
    ·rw[rW] at ab|-;intro b;have:=ab b;simp only[rQ] at this|-;omega
    ·intro c T S P n E;have aj:(q++u.drop j.size).take j.size=q:=(by rw[rX U,dK U]);have f6:(q++u.drop j.size).drop j.size=u.drop j.size:=(by rw[rR U,rS U,fO]);cases c with
     |nil=>
      obtain⟨rfl,rfl,rfl⟩:=aP.l7.1 E;obtain⟨_,_,ap⟩:=aP.l7.1 (bs [] j loc (u.take j.size) (by simpa[fB,nt] using n) (aP.l7.2 ⟨rfl,rfl,rfl⟩));exact aP.l7.2 ⟨rfl,rfl,by rw[ap,lG]⟩
     |cons I c=>
      cases I<;>simp only[fB] at n<;>first|(cases n;done)|skip
      ·show aP s j loc ((q++u.drop j.size).take j.size) c T S P;rw[aj];exact bs c T S P n E
      ·show aP s ci (loc.map λc=>(c.1,c.2+j.size)) ((q++u.drop j.size).drop j.size) c T S P;rw[f6];exact aP.ev M mc E
  case pr.snd j ci=>
   obtain⟨ft,f2,rfl,l,M⟩:=d6;have kd:=l.len;have ad:=M.len;simp only[eC,kz] at kd ad;have f0:nQ e (loc.map λc=>(c.1,c.2+j.size)) (u.drop j.size) ci.size:=by
    intro d g a;cases loc with
    |none=>simp at a
    |some c=>
     obtain⟨mz,J⟩:=c;simp only[fe,bH,fv] at a;obtain⟨rfl,rfl⟩:=a;exact⟨(ce _ _ rfl).1.drop,λx ar K=>(ce _ _ rfl).2 x U (by show x<J+(j.size+ci.size);omega)⟩
   simp only[iJ] at d4;obtain⟨i3,fs,f3⟩:=d4;have ek:∀d g,(loc.map λc=>(c.1,c.2+j.size))=some (d,g)->∃J,loc=some (d,J)/\g=J+j.size:=by
    intro d g a;cases loc with
    |none=>simp at a
    |some c=>
     obtain⟨mz,J⟩:=c;simp only[fe,bH,fv] at a;exact⟨J,by rw[a.1],a.2.symm⟩
   obtain⟨y,V,av,X,dl,ds,d0,G,W,d1,ed⟩:=go (loc:=loc.map λc=>(c.1,c.2+j.size)) M f0 fs (λd g a=>by obtain⟨J,a,_⟩:=ek d g a;exact⟨λc=>(R d J a).1 (by simp[c]),(R d J a).2⟩) (λb k=>bd b (by simp[k])) H;refine⟨y,V,av,X++ft,dl,ds,d0,?_,?_,?_,?_⟩
   rotate_left 3
   ·intro c an z ad co is a gl d3 bl A b k;cases c with
    |nil=>cases a
    |cons I c=>
     cases I<;>first|(cases a;done)|skip
     ·obtain⟨a0,C,N⟩:=aN.sub (p:=c) l d3 bl;have fT:b∈ft:=N b (by rw[<-aN.uniq gl A C];exact k);refine⟨by simp[fT],λm h ex ap=>?_⟩;subst ap;rcases W b h ex with⟨o,aj,_⟩|aj
      ·obtain⟨J,f6,_⟩:=ek _ _ aj;exact(R b J f6).1 (by simp[fT])
      ·exact f3 b fT b (G.mem_iff.2 (by simp[aj])) rfl
     ·obtain⟨ar,K⟩:=ed c an z ad co is a gl d3 bl A b k;exact⟨by simp[ar],K⟩
   ·rw[rW] at G|-;intro b;have:=G b;simp only[rQ] at this|-;omega
   ·intro m h a;rcases W m h a with⟨o,ar,K,gv⟩|ar
    ·obtain⟨J,hc,rfl⟩:=ek _ _ ar;exact .inl ⟨J,hc,U,by show h+F.size<=J+(j.size+ci.size);omega⟩
    ·exact .inr (by simp[ar])
   ·intro s L D z Y c1 a3 v A d5 d2 B;simp only[dH] at B;obtain⟨f5,B,rfl⟩:=B;obtain⟨q,Q,C,_,gs,N,ab,d7,bs⟩:=d1 s L D z Y f5 a3 (by
      rintro b (a|a|⟨g,a⟩)
      ·exact v b (.inl a)
      ·exact v b (.inr (.inl (by simp[a])))
      ·obtain⟨J,hc,rfl⟩:=ek _ _ a;exact v b (.inr (.inr ⟨J,hc⟩))) A (λbB _=>d5 bB ac) d2 B
    have a4:∀m h,y=some (m,h)->(∃g,loc=some (m,g)/\g+j.size<=h/\h+F.size<=g+j.size+ci.size)\/m∈f2:=λm h a=>by
     rcases W m h a with⟨o,ar,K,gv⟩|c
     ·obtain⟨J,hc,rfl⟩:=ek _ _ ar;exact .inl ⟨J,hc,K,gv⟩
     ·exact .inr (G.mem_iff.2 (by simp[c]))
    have gc:∀r b,f r b->L r b/\bU e s b:=λr b k=>⟨a3 r b k,(v b (.inl ⟨r,k⟩)).ev (λo a=>by
     rcases a4 b o a with⟨g,c,_⟩|c
     ·exact(R b g c).2 r k
     ·exact bd b (by simp[c]) r k)⟩
    have l2:∀b∈ft,bU e s b:=λb k=>(v b (.inr (.inl (by simp[k])))).ev (λh a=>by
     rcases a4 b h a with⟨g,c,_⟩|c
     ·exact(R b g c).1 (by simp[k])
     ·exact f3 b k b c rfl)
    have mp:=C.len;refine⟨u.take j.size++q,ft++Q,⟨ft,Q,rfl,?_,?_⟩,ac,?_,?_,?_,(by
     show aP s ci (loc.map λc=>(c.1,c.2+j.size)) ((u.take j.size++q).drop j.size) Z F y D;rw[rR (by simp;omega),rS (by simp;omega),fO];exact d7),?_⟩
    ·rw[rX (by simp;omega),List.take_take,Nat.min_self];exact l.mono gc l2
    ·rw[rR (by simp;omega),rS (by simp;omega),fO];exact C
    ·intro ar K;rw[gs (by rw[ar];rfl) K,lG]
    ·intro d g a;have el:=v d (.inr (.inr ⟨g,a⟩));have nn:dS s d g (u.take j.size):=by
      intro x hi fp;have hw:x<(u.take j.size).length:=(ey.1 fp).1;simp only[eC] at hw;rw[el.1]
      ·exact((ce d g a).1.take) x hi fp
      ·intro h fz;rcases a4 d h fz with⟨mt,ar,K,gv⟩|c
       ·rw[a] at ar;simp only[bH,fv,true_and] at ar;left;omega
       ·exact absurd (by simp[c]) (R d g a).1
     refine nn.append ?_;have:=N d (g+j.size) (by rw[a];rfl);rwa[eC,gm U]
    ·rw[rW] at ab|-;intro b;have:=ab b;simp only[rQ] at this|-;omega
    ·intro c T S P n E;have aj:(u.take j.size++q).take j.size=u.take j.size:=(by rw[rX (by simp;omega),List.take_take,Nat.min_self]);have f6:(u.take j.size++q).drop j.size=q:=(by rw[rR (by simp;omega),rS (by simp;omega),fO]);cases c with
     |nil=>
      obtain⟨rfl,rfl,rfl⟩:=aP.l7.1 E;obtain⟨_,_,ap⟩:=aP.l7.1 (bs [] ci (loc.map λc=>(c.1,c.2+j.size)) (u.drop j.size) (by simpa[fB,nt] using n) (aP.l7.2 ⟨rfl,rfl,rfl⟩));exact aP.l7.2 ⟨rfl,rfl,by rw[ap,lG]⟩
     |cons I c=>
      cases I<;>simp only[fB] at n<;>first|(cases n;done)|skip
      ·show aP s j loc ((u.take j.size++q).take j.size) c T S P;rw[aj];exact aP.ev l l2 E
      ·show aP s ci (loc.map λc=>(c.1,c.2+j.size)) ((u.take j.size++q).drop j.size) c T S P;rw[f6];exact bs c T S P n E
theorem Bb (i:List aV) {loc:Loc} {u:d.den} {τ':ah} {y:τ'.den} (J:aN f e d g u m) (K:nQ e loc g d.size) (L:m.Nodup) (M:∀a b,loc=some (a,b)->a∉m/\∀h,¬f h a) (N:∀a∈m,∀h,¬f h a) (O:db d u i τ' y):∃c j p o,aP e d loc g i τ' c j/\aN f e τ' j y p/\nQ e c j τ'.size/\m.Perm (p++o)/\(∀r s,c=some (r,s)->(∃b,loc=some (r,b)/\b<=s/\s+τ'.size<=b+d.size)\/r∈o)/\(∀(
   k:World) (q:dd->Nat->Prop) (l:abU) (B:τ'.den) (w:ab0) (A:d.den),
   (∀h a,f h a->q h a)->(∀a,(∃h,f h a)\/a∈o\/(∃b,loc=some (a,b))->p8 e k c τ'.size a)->
   aN q k τ' l B w->(c=none->i≠[]->l=j)->(∀a b,c=some (a,b)->dS k a b l)->dH d u i τ' B A->
   ∃n x,aN q k d n A x/\(i=[]->n=l)/\(loc=none->(c≠none\/l=j)->n=g)/\(∀a b,loc=some (a,b)->dS k a b n)/\x.Perm (w++o)/\aP k d loc n i τ' c l/\∀(t:List aV) (C:ah) (z:Loc) (v:abU),fB i t=true->aP e d loc g t C z v->aP k d loc n t C z v):=by
 obtain⟨c,j,p,o,D,E,F,G,H,I,_⟩:=xz i J K L M N O;exact⟨c,j,p,o,D,E,F,G,H,I⟩
def bc (a c:Nat->Prop):dd->Nat->Prop
 |.bx=>a
 |.dk=>λb=>a b\/c b
theorem l3 (a:bc D k P c):D c\/k c:=by cases P;exact .inl a;exact a
inductive ak where
 |dead
 |val (τ:ah) (x:τ.den)
 |ref (id:Nat) (p:List aV)
 |addr (id:Nat) (p:List aV)
 |view (id:Nat) (p:List aV) (lo hi:Nat)
 |app (id:Nat) (p:List aV) (τ:ah) (yB:List τ.den) (own:ab0)
 |cv (v:Value)
 |dC (l:List ak)
 |agg (l:List ak)
 |dt (f:Nat) (l:List ak)
 |jd (id:Nat) (p:List aV) (k:Int)
variable{L:List (Nat×ak)}{R:ak}
abbrev aB:=(a:ah)×a.den
variable{y:List (Nat×aB)}{F:aB}
structure aH where
 g:List (Nat×ak)
 h:List (Nat×aB)
variable{A:aH}
def al {a:Type}:List (Nat×a)->Nat->Option a
 |[],_=>none
 |(k,v)::r,n=>bif Nat.beq k n then some v else al r n
theorem bY (b:Nat) (e:z) (d:List (Nat×z)) (a:Nat):al ((b,e)::d) a=if b=a then some e else al d a:=by
 show(bif Nat.beq b a then some e else al d a)=_;by_cases c:b=a
 ·rw[if_pos c,c];simp
 ·rw[if_neg c];have:Nat.beq b a=false:=by
   cases f:Nat.beq b a
   ·rfl
   ·exact absurd (es f) c
  rw[this];rfl
def gt (a:List (Nat×ak)) (b:Nat):ak:=match al a b with|some c=>c|none=>.dead
structure dA where
 I0:Nat->Prop
 B:Nat->Prop
 F0:Nat->Prop
 w0:World
 n:Nat
 pin:ab0
 vs:Nat->Value
variable{H:dA}
def dA.ok (a:dA) (d:Nat):Prop:=d<a.n/\d∉a.pin
inductive bG (M:dd->Nat->Prop) (w:World) (h:List (Nat×aB)) (rt:Nat->abU) (fp:Nat->ab0):ak->Value->Prop
 |dead (v:Value):bG M w h rt fp .dead v
 |cv (v:Value):bG M w h rt fp (.cv v) v
 |val {τ:ah} {x:τ.den} {cs:abU} (r:aN M w τ cs x []):bG M w h rt fp (.val τ x) (bL τ cs)
 |ref {id:Nat} {p:List aV} {t:aB} {τ':ah} {loc:Loc} {cs:abU} (sU:al h id=some t) (Bm:aP w t.1 none (rt id) p τ' loc cs):bG M w h rt fp (.ref id p) (bL τ' cs)
 |addr {id:Nat} {p:List aV} {t:aB} {τ':ah} {b o:Nat} {cs:abU} (sU:al h id=some t) (Bm:aP w t.1 none (rt id) p τ' (some (b,o)) cs):bG M w h rt fp (.addr id p) (.pointer (some ⟨b,o,none⟩))
 |view {id:Nat} {p:List aV} {lo hi:Nat} {t:aB} {τ':ah} {loc:Loc} {b o len cap:Nat} (sU:al h id=some t) (Bm:aP w t.1 none (rt id) p (.osl τ') loc [.slice (some ⟨b,o,none⟩) len cap]) (UN:lo<=hi) (UO:hi<=len) (abE:len<=cap):bG M w h rt fp (.view id p lo hi) (.slice (some ⟨b,if cap=lo then o else o+lo*τ'.size,none⟩) (hi-lo) (cap-lo))
 |ku (id:Nat) (p:List aV):bG M w h rt fp (.view id p 0 0) (.slice none 0 0)
 |app {id:Nat} {p:List aV} {τ:ah} {yB:List τ.den} {own:ab0} {t:aB} {loc:Loc} {wo:abU} {xs:List τ.den} {f1 f2:ab0} {v:Value} (sU:al h id=some t) (abJ:τ.ix=true) (Bm:aP w t.1 none (rt id) p (.osl τ) loc wo) (abH:db t.1 t.2 p (.osl τ) xs) (UN:aN M w (.osl τ) wo xs f1) (abG:∀b∈f1,b∈fp id) (UO:aN M w (.osl τ) [v] (xs++yB) f2) (abL:∀i∈own,i≠id/\∃u,al h i=some u) (abM:∀b∈f2,b∈f1\/∃i∈own,b∈fp i) (abK:f2.Nodup):bG M w h rt fp (.app id p τ yB own) v
 |dC {l:List ak} {vs:abS} (Js:l.length=vs.size) (Bl:∀(i:Nat) (a:ak) (v:Value),l[i]?=some a->vs[i]?=some v->bG M w h rt fp a v):bG M w h rt fp (.dC l) (.tuple vs)
 |agg {l:List ak} {vs:abU} (Js:l.length=vs.length) (Bl:∀(i:Nat) (a:ak) (v:Value),l[i]?=some a->vs[i]?=some v->bG M w h rt fp a v):bG M w h rt fp (.agg l) (.agg (vs.map λv=>v.cells.toList).flatten.toArray)
 |jd {id:Nat} {p:List aV} {k:Int} {t:aB} {τ':ah} {loc:Loc} {b c i:Nat} {uO:Array MapEntry} {e:MapEntry} (sU:al h id=some t) (Bm:aP w t.1 none (rt id) p (.mp τ') loc [.map (some b)]) (abF:b∈fp id) (Jt:hA w b=some (uO,c)) (hi:uO[i]?=some e) (abI:e.key=.int .i64 k):bG M w h rt fp (.jd id p k) (.int .i64 (e.born:Int))
 |dt {f:Nat} {l:List ak} {vs:abS} (Js:l.length=vs.size) (Bl:∀(i:Nat) (a:ak) (v:Value),l[i]?=some a->vs[i]?=some v->bG M w h rt fp a v):bG M w h rt fp (.dt f l) (.func (.func f) #[] vs)
structure bE (C:dA) (st:aH) (Gm:abS) (w:World) (I:Nat->Prop) (rt:Nat->abU) (fp:Nat->ab0):Prop where
 n:Gm.size=C.n
 i0:∀b,C.I0 b->I b
 i1:∀b,I b->C.I0 b\/C.w0.heap.size<=b\/C.F0 b
 ib:∀b,I b\/C.B b->b<w.heap.size
 tree:∀id t,al st.h id=some t->aN (bc I C.B) w t.1 (rt id) t.2 (fp id)/\(fp id).Nodup/\∀b∈fp id,¬I b/\¬C.B b/\b<w.heap.size/\(C.w0.heap.size<=b\/C.F0 b)
 dis:∀i j t u,al st.h i=some t->al st.h j=some u->i≠j->∀b∈fp i,b∉fp j
 tmp:∀k,bG (bc I C.B) w st.h rt fp (gt st.g k) (Gm.getD k undef)
 frame:∀b,b<C.w0.heap.size->¬C.F0 b->w.heap[b]?=C.w0.heap[b]?
 evo:∀b,b<C.w0.heap.size->jj C.w0 w b
 size:C.w0.heap.size<=w.heap.size
 os:w.os=C.w0.os
 tape:w.tape=C.w0.tape
 output:w.output=C.w0.output
 pin:∀k∈C.pin,Gm.getD k undef=C.vs k
def ff (a:dA) (e:aH) (f:abS) (g:World):Prop:=∃b d c,bE a e f g b d c
structure gH (w w':World):Prop where
 os:w'.os=w.os
 tape:w'.tape=w.tape
 output:w'.output=w.output
 size:w.heap.size<=w'.heap.size
 heap:∀b,b<w.heap.size->w'.heap[b]?=w.heap[b]?
theorem gH.refl (a:World):gH a a:=⟨rfl,rfl,rfl,aY _,λ_ _=>rfl⟩
theorem gH.trans {c d e:World} (a:gH c d) (b:gH d e):gH c e:=
 ⟨b.os.trans a.os,b.tape.trans a.tape,b.output.trans a.output,dn a.size b.size,λg f=>(b.heap g (hp f a.size)).trans (a.heap g f)⟩
theorem gH.drew {b c:World} (a:gH b c):gH b c.drew:=⟨a.os,a.tape,a.output,a.size,a.heap⟩
theorem gH.alloc (a:World) (b:Obj):gH a (a.alloc b):=⟨rfl,rfl,rfl,ac,λc d=>by
 show(a.heap.push b)[c]?=_;rw[vK,if_neg U]⟩
theorem bG.mono {w E:dd->Nat->Prop} {t v:World} {x G:List (Nat×aB)} {D K:Nat->abU} {u F:Nat->ab0} (y:∀I b,w I b->E I b/\bU t v b) (f:∀id o,al x id=some o->aN w t o.1 (D id) o.2 (u id)/\∀b∈u id,bU t v b) {l:ak} {e:Value} (M:bG w t x D u l e) (n:∀id o,al x id=some o->al G id=some o/\K id=D id/\F id=u id):bG E v G K F l e:=by
 induction M with
 |dead e=>exact .dead e
 |cv e=>exact .cv e
 |val V=>exact .val (V.mono y ac)
 |ref a i=>
  obtain⟨j,k,_⟩:=n _ _ a;exact .ref j (by rw[k];exact i.ev (f _ _ a).1 (f _ _ a).2)
 |addr a i=>
  obtain⟨j,k,_⟩:=n _ _ a;exact .addr j (by rw[k];exact i.ev (f _ _ a).1 (f _ _ a).2)
 |ku id J=>exact .ku id J
 |view a i g h L=>
  obtain⟨j,k,_⟩:=n _ _ a;exact .view j (by rw[k];exact i.ev (f _ _ a).1 (f _ _ a).2) g h L
 |@app id J τ ad Z o Y W ab X f2 e a R i O g z h A H S=>
  obtain⟨j,k,C⟩:=n _ _ a;obtain⟨T,B⟩:=f _ _ a;have N:∀b∈f2,bU t v b:=λb c=>by
   rcases H b c with c|⟨d,m,c⟩
   ·exact B b (z b c)
   ·obtain⟨_,p,r⟩:=A d m;exact(f d p r).2 b c
  refine .app j R (by rw[k];exact i.ev T B) O (g.mono y (λb c=>B b (z b c))) (by rw[C];exact z) (h.mono y N) ?_ ?_ S
  ·intro d m;obtain⟨U,p,r⟩:=A d m;exact⟨U,p,(n d p r).1⟩
  ·intro b c;rcases H b c with c|⟨d,m,c⟩
   ·exact .inl c
   ·obtain⟨_,p,r⟩:=A d m;exact .inr ⟨d,m,by rw[(n d p r).2.2];exact c⟩
 |jd a i c Q m P=>
  obtain⟨j,k,C⟩:=n _ _ a;exact .jd j (by rw[k];exact i.ev (f _ _ a).1 (f _ _ a).2) (by rw[C];exact c) (by rw[((f _ _ a).2 _ c).2];exact Q) m P
 |dC q _ s=>exact .dC q (λd l e g h=>s d l e g h)
 |agg q _ s=>exact .agg q (λd l e g h=>s d l e g h)
 |dt q _ s=>exact .dt q (λd l e g h=>s d l e g h)
def aO (c:List (Nat×ak)):Operand->ak
 |.tmp g=>gt c g
 |.const (.int d e)=>.val (.int d) e
 |.const (.bool a)=>.val .bool a
 |.const (.string f)=>.val .str f
 |.const h=>.cv h
 |.func b=>.dt b []
 |.global _=>.dead
theorem bG.int {c:dd->Nat->Prop} {g:World} {e:List (Nat×aB)} {f:Nat->abU} {d:Nat->ab0} (a:IntKind) (b:Int):bG c g e f d (.val (.int a) b) (.int a b):=
 .val (τ:=.int a) (cs:=[.int a b]) ⟨rfl,rfl⟩
theorem bG.bool {b:dd->Nat->Prop} {f:World} {d:List (Nat×aB)} {e:Nat->abU} {c:Nat->ab0} (a:Bool):bG b f d e c (.val .bool a) (.bool a):=
 .val (τ:=.bool) (cs:=[.bool a]) ⟨rfl,rfl⟩
theorem bG.str {b:dd->Nat->Prop} {f:World} {d:List (Nat×aB)} {e:Nat->abU} {c:Nat->ab0} (a:ByteArray):bG b f d e c (.val .str a) (.string a):=
 .val (τ:=.str) (cs:=[.string a]) ⟨rfl,rfl⟩
theorem bE.aO {e:dA} {c:aH} {a:Act} {l:World} {f:Nat->Prop} {j:Nat->abU} {i:Nat->ab0} (m:bE e c a.tmps l f j i) (d:Operand):bG (bc f e.B) l c.h j i (aO c.g d) (a.eval d):=by
 cases d with
 |tmp o=>exact m.tmp o
 |const p=>
  cases p<;>simp only[hT.aO,Act.eval]
  case int k n=>exact .int k n
  case bool b=>exact .bool b
  case string s=>exact .str s
  all_goals exact .cv _
 |func q=>exact .dt (vs:=#[]) ac ac
 |global r=>exact .dead _
theorem iR {d:Type}:∀(c b:List (Nat×d)) (a:Nat),al (c++b) a=(al c a).or (al b a)
 |[],b,a=>by simp[al]
 |(k,v)::c,b,a=>by rw[jm,bY,bY,iR c b a];split<;>simp
theorem hz (b:Nat) (c:ak) (d:List (Nat×ak)) (a:Nat):gt ((b,c)::d) a=if b=a then c else gt d a:=by unfold gt;rw[bY];by_cases e:b=a<;>simp[e]
theorem bE.put (a:bE H A x e k o p) (f:H.ok c) {av:ak} {v:Value} (l:bG (bc k H.B) e A.h o p av v):bE H ⟨(c,av)::A.g,A.h⟩ (x.setIfInBounds c v) e k o p where
 n:=by simpa using a.n
 i0:=a.i0
 i1:=a.i1
 ib:=a.ib
 tree:=a.tree
 dis:=a.dis
 tmp:=λb=>by
  show bG _ _ _ _ _ (gt ((c,av)::A.g) b) _;unfold gt;rw[bY];have j:c<x.size:=(by rw[a.n];exact f.1);by_cases d:c=b
  ·subst d;rw[if_pos rfl];have:(x.setIfInBounds c v).getD c undef=v:=(by simp[Array.getD,j]);rw[this];exact l
  ·rw[if_neg d];have:(x.setIfInBounds c v).getD b undef=x.getD b undef:=by
    simp only[yD,CK d]
   rw[this];exact a.tmp b
 frame:=a.frame
 evo:=a.evo
 size:=a.size
 os:=a.os
 tape:=a.tape
 output:=a.output
 pin:=λb d=>by have:c≠b:=λi=>f.2 (i▸d);rw[<-a.pin b d];simp only[yD,CK this]
structure tX (C:dA) (st:aH) (w w':World) (I':Nat->Prop) (new:List (Nat×aB)) (rtn:Nat->abU) (fpn:Nat->ab0):Prop where
 tree:∀id t,al new id=some t->al st.h id=none/\aN (bc I' C.B) w' t.1 (rtn id) t.2 (fpn id)/\(fpn id).Nodup/\∀b∈fpn id,w.heap.size<=b/\b<w'.heap.size/\¬I' b
 dis:∀i j t u,al new i=some t->al new j=some u->i≠j->∀b∈fpn i,b∉fpn j
theorem tX.nil:tX H A e n k [] o p:=
 ⟨(λ_ _ a=>by cases a),(λ_ _ _ _ a=>by cases a)⟩
theorem tX.one {C:dA} {st:aH} {e w':World} {I':Nat->Prop} {id:Nat} {t:aB} {cs:abU} {f:ab0} (m:al st.h id=none) (n:aN (bc I' C.B) w' t.1 cs t.2 f) (k:f.Nodup) (j:∀b∈f,e.heap.size<=b/\b<w'.heap.size/\¬I' b):tX C st e w' I' [(id,t)] (λ_=>cs) (λ_=>f) where
 tree:=λo p a=>by
  rw[bY] at a;split at a
  ·rename_i g;subst g;obtain rfl:=dV a;exact⟨m,n,k,j⟩
  ·cases a
 dis:=λo q r p c d l=>by
  rw[bY] at c d;split at c
  ·split at d
   ·rename_i aj i;exact absurd (aj.symm.trans i) l
   ·cases d
  ·cases c
def dG (d:List (Nat×aB)) {a:Type} (b c:Nat->a):Nat->a:=λid=>match al d id with|some _=>b id|none=>c id
theorem bE.ext {r:World} {rtn:Nat->abU} {fpn:Nat->ab0} (d:bE H A x e D o p) (i:gH e r) (C:∀a,D a->k a) (E:∀a,k a->D a\/(e.heap.size<=a/\a<r.heap.size)) {new:List (Nat×aB)} (t:tX H A e r k new rtn fpn):bE H ⟨A.g,new++A.h⟩ x r k (dG new rtn o) (dG new fpn p):=by
 have M:∀y a,bc D H.B y a->bc k H.B y a/\bU e r a:=λy a b=>by
  refine⟨?_,.of_heap (i.heap a (d.ib a (l3 b)))⟩;cases y
  ·exact C a b
  ·exact b.imp (C a) id
 have U:∀id c,al A.h id=some c->al (new++A.h) id=some c/\dG new rtn o id=o id/\dG new fpn p id=p id:=λid c f=>by
  have:al new id=none:=by
   cases l:al new id with
   |none=>rfl
   |some m=>have:=(t.tree id m l).1;rw[f] at this;cases this
  refine⟨by rw[iR,this,f];rfl,by simp[dG,this],by simp[dG,this]⟩
 have F:∀id c,al (new++A.h) id=some c->(al new id=some c/\dG new rtn o id=rtn id/\dG new fpn p id=fpn id)\/(al A.h id=some c/\dG new rtn o id=o id/\dG new fpn p id=p id):=λid c f=>by
  rw[iR] at f;cases l:al new id with
  |none=>rw[l] at f;exact .inr ⟨by simpa using f,by simp[dG,l],by simp[dG,l]⟩
  |some m=>rw[l] at f;exact .inl ⟨by simpa using f,by simp[dG,l],by simp[dG,l]⟩
 have N:∀id c,al A.h id=some c->∀a∈p id,bU e r a:=λid c f a b=>.of_heap (i.heap a ((d.tree id c f).2.2 a b).2.2.1);refine{n:=d.n,i0:=λa b=>C a (d.i0 a b),i1:=?_,ib:=?_,tree:=?_,dis:=?_,tmp:=?_,frame:=?_,evo:=λa b=>(d.evo a b).trans (.of_heap (i.heap a (hp b d.size))),size:=dn d.size i.size,os:=i.os.trans d.os,tape:=i.tape.trans d.tape,output:=i.output.trans d.output,pin:=d.pin}
 ·intro a b;rcases E a b with b|⟨b,_⟩
  ·exact d.i1 a b
  ·exact .inr (.inl (dn d.size b))
 ·intro a b;rcases b with b|b
  ·rcases E a b with b|⟨_,b⟩
   ·exact hp (d.ib a (.inl b)) i.size
   ·exact b
  ·exact hp (d.ib a (.inr b)) i.size
 ·intro id c f;rcases F id c f with⟨j,z,q⟩|⟨j,z,q⟩
  ·obtain⟨_,ar,G,I⟩:=t.tree id c j;rw[z,q];refine⟨ar,G,λa b=>?_⟩;obtain⟨J,K,L⟩:=I a b;exact⟨L,λQ=>by have:=d.ib a (.inr Q);omega,K,.inl (dn d.size J)⟩
  ·obtain⟨ar,G,I⟩:=d.tree id c j;rw[z,q];refine⟨ar.mono M (N id c j),G,λa b=>?_⟩;obtain⟨J,K,L,aU⟩:=I a b;exact⟨λs=>(E a s).elim J (λW=>by omega),K,hp L i.size,aU⟩
 ·intro u v c m S T O a b;rcases F u c S with⟨j,_,q⟩|⟨j,_,q⟩<;>rcases F v m T with⟨w,_,P⟩|⟨w,_,P⟩<;>rw[q] at b<;>rw[P]
  ·exact t.dis u v c m j w O a b
  ·intro s;have:=((t.tree u c j).2.2.2 a b).1;have:=((d.tree v m w).2.2 a s).2.2.1;omega
  ·intro s;have:=((t.tree v m w).2.2.2 a s).1;have:=((d.tree u c j).2.2 a b).2.2.1;omega
  ·exact d.dis u v c m j w O a b
 ·intro V;exact(d.tmp V).mono M (λid c f=>⟨(d.tree id c f).1,N id c f⟩) U
 ·intro a b R;rw[i.heap a (hp b d.size)];exact d.frame a b R
theorem bE.UL (a:bE H A x e k o p) (b:gH e n):bE H A x n k o p:=by have:=a.ext (rtn:=o) (fpn:=p) b (λ_ a=>a) (λ_ a=>.inl a) (new:=[]) .nil;exact this
def nh:List (Nat×ak)->aH->Prop
 |[],_=>True
 |(k,a)::r,st=>gt st.g k=a/\nh r st
def ni:List (Nat×aB)->aH->Prop
 |[],_=>True
 |(k,t)::r,st=>al st.h k=some t/\ni r st
theorem nh.get (b:nh L A):∀a,gt L a=.dead\/gt L a=gt A.g a:=by
 induction L with
 |nil=>exactλa=>.inl rfl
 |cons e L d=>
  obtain⟨h,f⟩:=e;intro a;rw[hz];split
  ·rename_i c;subst c;exact .inr b.1.symm
  ·exact d b.2 a
theorem ni.get (c:ni y A):∀a b,al y a=some b->al A.h a=some b:=by
 induction y with
 |nil=>intro a b c;cases c
 |cons g y f=>
  obtain⟨j,i⟩:=g;intro a b d;rw[bY] at d;split at d
  ·rename_i e;subst e;rw[<-d];exact c.1
  ·exact f c.2 a b d
mutual
def ak.ids:ak->ab0
 |.dead|.val _ _|.cv _=>[]
 |.ref id _|.addr id _|.view id _ _ _|.jd id _ _=>[id]
 |.app id _ _ _ b=>id::b
 |.dC a|.agg a|.dt _ a=>ak.mF a
def ak.mF:List ak->ab0
 |[]=>[]
 |a::b=>a.ids++ak.mF b
end
theorem ak.xU {l:List ak} {i:Nat} (a:l[i]?=some R) {id:Nat} (b:id∈R.ids):id∈ak.mF l:=by
 induction l generalizing i with
 |nil=>simp at a
 |cons e d c=>
  simp only[ak.mF,eH];cases i with
  |zero=>simp at a;subst a;exact .inl b
  |succ i=>simp at a;exact .inr (c a)
theorem bG.rh {E:dd->Nat->Prop} {G:List (Nat×aB)} {L:Nat->abU} {F:Nat->ab0} (z:∀J a,f J a->E J a/\bU e n a) (N:bG f e y o p R I) (h:∀id∈R.ids,∀x,al y id=some x->al G id=some x/\L id=o id/\F id=p id/\aN f e x.1 (o id) x.2 (p id)/\∀a∈p id,bU e n a):bG E n G L F R I:=by
 induction N with
 |dead I=>exact .dead I
 |cv I=>exact .cv I
 |val X=>exact .val (X.mono z ac)
 |ref k j=>
  obtain⟨l,m,_,r,q⟩:=h _ (by simp[ak.ids]) _ k;exact .ref l (by rw[m];exact j.ev r q)
 |addr k j=>
  obtain⟨l,m,_,r,q⟩:=h _ (by simp[ak.ids]) _ k;exact .addr l (by rw[m];exact j.ev r q)
 |ku id K=>exact .ku id K
 |view k j d i M=>
  obtain⟨l,m,_,r,q⟩:=h _ (by simp[ak.ids]) _ k;exact .view l (by rw[m];exact j.ev r q) d i M
 |@app id K ap an ad x ab Y am Z f2 I k T j P d A i B H U=>
  obtain⟨l,m,D,V,C⟩:=h _ (by simp[ak.ids]) _ k;have O:∀a∈f2,bU e n a:=λa b=>by
   rcases H a b with b|⟨c,g,b⟩
   ·exact C a (A a b)
   ·obtain⟨_,s,v⟩:=B c g;exact(h c (by simp[ak.ids,g]) s v).2.2.2.2 a b
  refine .app l T (by rw[m];exact j.ev V C) P (d.mono z (λa b=>C a (A a b))) (by rw[D];exact A) (i.mono z O) ?_ ?_ U
  ·intro c g;obtain⟨W,s,v⟩:=B c g;exact⟨W,s,(h c (by simp[ak.ids,g]) s v).1⟩
  ·intro a b;rcases H a b with b|⟨c,g,b⟩
   ·exact .inl b
   ·obtain⟨_,s,v⟩:=B c g;exact .inr ⟨c,g,by rw[(h c (by simp[ak.ids,g]) s v).2.2.1];exact b⟩
 |jd k j b S g Q=>
  obtain⟨l,m,D,r,q⟩:=h _ (by simp[ak.ids]) _ k;exact .jd l (by rw[m];exact j.ev r q) (by rw[D];exact b) (by rw[(q _ b).2];exact S) g Q
 |dC u _ w=>exact .dC u (λc R I d i=>w c R I d i (λid t=>h id (ak.xU d t)))
 |agg u _ w=>exact .agg u (λc R I d i=>w c R I d i (λid t=>h id (ak.xU d t)))
 |dt u _ w=>exact .dt u (λc R I d i=>w c R I d i (λid t=>h id (ak.xU d t)))
theorem bE.wx {q:aH} (a:bE H q x e k o p) (v:nh A.g q) (d:ni A.h q) (w:∀c,∀id∈(gt A.g c).ids,(al A.h id).isSome=true):bE H A x e k o p where
 n:=a.n
 i0:=a.i0
 i1:=a.i1
 ib:=a.ib
 tree:=λid b f=>a.tree id b (d.get id b f)
 dis:=λs t b i m y=>a.dis s t b i (d.get s b m) (d.get t i y)
 tmp:=λc=>by
  rcases v.get c with l|l
  ·rw[l];exact .dead _
  ·have:=w c;rw[l] at this|-;refine(a.tmp c).rh (λz j u=>⟨u,bU.refl e j⟩) (λid m b f=>?_);obtain⟨i,r⟩:=Option.isSome_iff_exists.1 (this id m);have:=d.get id i r;rw[f] at this;obtain rfl:=dV this;exact⟨r,rfl,rfl,(a.tree id b f).1,λj _=>bU.refl e j⟩
 frame:=a.frame
 evo:=a.evo
 size:=a.size
 os:=a.os
 tape:=a.tape
 output:=a.output
 pin:=a.pin
def kM (a:List (Nat×ak)) (b:List (Nat×aB)):Bool:=a.all λc=>c.2.ids.all λid=>(al b id).isSome
theorem kM.get (d:kM L y=true) (c:Nat):∀id∈(gt L c).ids,(al y id).isSome=true:=by
 intro id b;unfold gt at b;cases a:al L c with
 |none=>rw[a] at b;simp[ak.ids] at b
 |some e=>
  rw[a] at b;have g:(c,e)∈L:=by
   clear d b
   induction L with
   |nil=>cases a
   |cons i l h=>
    obtain⟨k,j⟩:=i;rw[bY] at a;split at a
    ·rename_i f;subst f;obtain rfl:=dV a;simp
    ·exact e0 _ (h a)
  simp only[kM,eM] at d;exact d (c,e) g id b
section
mutual
def dM (P:Program):ah->TypeId->Prop
 |.int f,T=>∃a,P.info? T=some a/\a.size=1/\a.bytes<=24/\a.zero=some (.int f 0)/\P.underlying T=some (.int f)
 |.bool,T=>∃a,P.info? T=some a/\a.size=1/\a.bytes<=24/\a.zero=some (.bool false)/\P.underlying T=some .bool
 |.str,T=>∃a,P.info? T=some a/\a.size=1/\a.bytes<=24/\a.zero=some (.string ByteArray.empty)/\P.underlying T=some .string
 |.a6 _ b,T=>∃a E,P.info? T=some a/\a.size=1/\a.bytes<=24/\a.zero=some (.slice none 0 0)/\P.underlying T=some (.slice E)/\dM P b E
 |.osl b,T=>∃a E,P.info? T=some a/\a.size=1/\a.bytes<=24/\a.zero=some (.slice none 0 0)/\P.underlying T=some (.slice E)/\dM P b E
 |.ptr _ b,T=>∃a E,P.info? T=some a/\a.size=1/\a.bytes<=24/\a.zero=some (.pointer none)/\P.underlying T=some (.pointer E)/\dM P b E
 |.optr b,T=>∃a E,P.info? T=some a/\a.size=1/\a.bytes<=24/\a.zero=some (.pointer none)/\P.underlying T=some (.pointer E)/\dM P b E
 |.st b,T=>0<b.size/\∃a e d,P.info? T=some a/\a.size=b.size/\a.bytes<=24*b.size/\a.zero=some (.agg d)/\P.underlying T=some (.struct e)/\hn P b e.toList 0 d.toList/\d.size=b.size
 |.mp b,T=>∃a c E,P.info? T=some a/\a.size=1/\a.bytes<=24/\a.zero=some (.map none)/\P.underlying T=some (.map c E)/\P.underlying c=some (.int .i64)/\dM P b E
 |.dJ _ b,T=>∃a c E,P.info? T=some a/\a.size=1/\a.bytes<=24/\a.zero=some (.map none)/\P.underlying T=some (.map c E)/\P.underlying c=some (.int .i64)/\dM P b E
 |_,_=>False
def hn (P:Program):ah->List Field->Nat->abU->Prop
 |.pr a g,c::h,e,b=>c.offset=e/\dM P a c.type/\0<a.size/\(∃d f,P.info? c.type=some d/\d.zero=some f/\b.take a.size=f.cells.toList)/\hn P g h (e+a.size) (b.drop a.size)
 |.nil,[],_,b=>b=[]
 |_,_,_,_=>False
end
def oi:ah->Bool
 |.st _=>true
 |_=>false
structure RM (P:Program) (τ:ah) (T:TypeId) (i:TypeInfo):Prop where
 info:P.info? T=some i
 size:i.size=τ.size
 bytes:i.bytes<=24*τ.size
 pos:0<τ.size
theorem dM.info {P:Program}:∀{τ:ah} {T:TypeId},dM P τ T->∃a g,RM P τ T a/\P.underlying T=some g/\(match g with|.struct _|.array _ _=>true|_=>false)=oi τ
 |.int _,_,⟨a,b,c,d,_,e⟩=>⟨a,_,⟨b,c,d,by simp[ah.size]⟩,e,rfl⟩
 |.bool,_,⟨a,b,c,d,_,e⟩=>⟨a,_,⟨b,c,d,by simp[ah.size]⟩,e,rfl⟩
 |.str,_,⟨a,b,c,d,_,e⟩=>⟨a,_,⟨b,c,d,by simp[ah.size]⟩,e,rfl⟩
 |.a6 _ _,_,⟨a,_,b,c,d,_,e,_⟩=>⟨a,_,⟨b,c,d,by simp[ah.size]⟩,e,rfl⟩
 |.osl _,_,⟨a,_,b,c,d,_,e,_⟩=>⟨a,_,⟨b,c,d,by simp[ah.size]⟩,e,rfl⟩
 |.ptr _ _,_,⟨a,_,b,c,d,_,e,_⟩=>⟨a,_,⟨b,c,d,by simp[ah.size]⟩,e,rfl⟩
 |.optr _,_,⟨a,_,b,c,d,_,e,_⟩=>⟨a,_,⟨b,c,d,by simp[ah.size]⟩,e,rfl⟩
 |.st i,_,⟨h,a,_,_,b,c,d,_,e,_⟩=>⟨a,_,⟨b,c,d,h⟩,e,rfl⟩
 |.pr _ _,_,f=>f.elim
 |.nil,_,f=>f.elim
 |.de,_,f=>f.elim
 |.mp _,_,⟨a,_,_,b,c,d,_,e,_⟩=>⟨a,_,⟨b,c,d,by simp[ah.size]⟩,e,rfl⟩
 |.dJ _ _,_,⟨a,_,_,b,c,d,_,e,_⟩=>⟨a,_,⟨b,c,d,by simp[ah.size]⟩,e,rfl⟩
theorem dM.El {P:Program}:∀{τ:ah} {T:TypeId},dM P τ T->∃g,g.cells.size=τ.size/\∀d,P.info? T=some d->d.zero=some g
 |.int _,_,⟨d,a,_,_,b,_⟩|.bool,_,⟨d,a,_,_,b,_⟩|.str,_,⟨d,a,_,_,b,_⟩=>⟨_,rfl,λf c=>by rw[a] at c;cases c;exact b⟩
 |.a6 _ _,_,⟨d,_,a,_,_,b,_⟩|.osl _,_,⟨d,_,a,_,_,b,_⟩|.ptr _ _,_,⟨d,_,a,_,_,b,_⟩|.optr _,_,⟨d,_,a,_,_,b,_⟩=>⟨_,rfl,λf c=>by rw[a] at c;cases c;exact b⟩
 |.st n,_,⟨j,d,_,i,a,k,l,b,m,_,h⟩=>⟨.agg i,h,λf c=>by rw[a] at c;cases c;exact b⟩
 |.pr _ _,_,e=>e.elim
 |.nil,_,e=>e.elim
 |.de,_,e=>e.elim
 |.mp _,_,⟨d,_,_,a,_,_,b,_⟩=>⟨_,rfl,λf c=>by rw[a] at c;cases c;exact b⟩
 |.dJ _ _,_,⟨d,_,_,a,_,_,b,_⟩=>⟨_,rfl,λf c=>by rw[a] at c;cases c;exact b⟩
section
variable {P:Program} {τ:ah} {T:TypeId}
theorem dM.sizeOf (c:dM P τ T) (b:World):(Go.sizeOf T).run P b=.ok τ.size b:=by obtain⟨e,d,a,_⟩:=c.info;simp[Go.sizeOf,typeInfo,a.info,a.size]
theorem dM.isAgg (c:dM P τ T) (a:World):(Go.isAgg T).run P a=.ok (oi τ) a:=by obtain⟨g,b,f,e,d⟩:=c.info;simp only[Go.isAgg,Sem.run_bind,run_underlying e,Result.andThen_ok];rw[<-d];cases b<;>rfl
theorem dM.pos (a:dM P τ T):0<τ.size:=by obtain⟨d,c,b,_⟩:=a.info;exact b.pos
theorem FA:∀{τ:ah} {T:TypeId},dM P τ T->oi τ=false->τ.size=1
 |.int _,_,_,_|.bool,_,_,_|.str,_,_,_|.a6 _ _,_,_,_|.osl _,_,_,_|.ptr _ _,_,_,_|.optr _,_,_,_|.mp _,_,_,_|.dJ _ _,_,_,_=>rfl
 |.st _,_,_,a=>by cases a
 |.pr _ _,_,a,_=>a.elim
 |.nil,_,a,_=>a.elim
 |.de,_,a,_=>a.elim
theorem Cb (a:oi τ=false):bL τ g=g.headD undef:=by cases τ<;>first|rfl|cases a
theorem Cc (a:oi τ=true):bL τ g=.agg g.toArray:=by cases τ<;>first|rfl|cases a
theorem nB (d:dM P τ T) (c:g.length=τ.size) (e:∀a∈g,a.oneCell'=true):(bL τ g).cells=g.toArray:=by
 cases b:oi τ with
 |true=>rw[Cc b];rfl
 |false=>
  rw[Cb b];rw[FA d b] at c;obtain⟨a,rfl⟩:=tR.1 c;have:=e a ac;cases a<;>first|rfl|(simp[Value.oneCell'] at this)
theorem Mj (a:dM P τ T) (i:dS e c h g) (b:g.length=τ.size):(loadVar T ⟨c,h,none⟩).run P e=.ok (bL τ g) e:=by
 simp only[loadVar,Sem.run_bind,a.isAgg,Result.andThen_ok];cases d:oi τ with
 |true=>
  simp only[if_true,Sem.run_bind,a.sizeOf,Result.andThen_ok];rw[<-b,run_loadCells_list e ⟨c,h,none⟩ g (λk f j=>by rw[Addr.add_lit];exact i k f j)];rw[Cc d];rfl
 |false=>
  rw[FA a d] at b;obtain⟨f,rfl⟩:=tR.1 b;have:=i 0 f rfl;simp only[jM] at this;rw[Cb d];simp[this]
end
def kw:(τ:ah)->Option τ.den
 |.int _=>some (0:Int)
 |.bool=>some false
 |.str=>some ByteArray.empty
 |.a6 _ _=>some []
 |.osl _=>some []
 |.ptr _ _=>some none
 |.optr _=>none
 |.st c=>kw c
 |.pr a b=>match kw a,kw b with|some d,some e=>some (d,e)|_,_=>none
 |.nil=>some ()
 |.de=>none
 |.mp _=>some none
 |.dJ _ _=>some none
mutual
theorem tF {P:Program}:∀{τ:ah} {T:TypeId} {g:τ.den},dM P τ T->kw τ=some g->∃a l,P.info? T=some a/\a.zero=some l/\l=bL τ l.cells.toList/\∀(e:dd->Nat->Prop) (f:World),aN e f τ l.cells.toList g []
 |.int p,_,g,⟨a,c,h,i,d,j⟩,b=>⟨a,_,c,d,rfl,λe f=>by cases b;exact⟨rfl,rfl⟩⟩
 |.bool,_,g,⟨a,c,h,i,d,j⟩,b=>⟨a,_,c,d,rfl,λe f=>by cases b;exact⟨rfl,rfl⟩⟩
 |.str,_,g,⟨a,c,h,i,d,j⟩,b=>⟨a,_,c,d,rfl,λe f=>by cases b;exact⟨rfl,rfl⟩⟩
 |.a6 _ _,_,g,⟨a,_,c,h,i,d,j,_⟩,b=>⟨a,_,c,d,rfl,λe f=>by cases b;exact⟨rfl,none,0,rfl,aY _,λ_=>rfl,.inl rfl⟩⟩
 |.osl _,_,g,⟨a,_,c,h,i,d,j,_⟩,b=>⟨a,_,c,d,rfl,λe f=>by cases b;exact⟨none,0,rfl,.inl ⟨rfl,rfl,rfl,rfl⟩⟩⟩
 |.ptr _ _,_,g,⟨a,_,c,h,i,d,j,_⟩,b=>⟨a,_,c,d,rfl,λe f=>by cases b;exact⟨rfl,rfl⟩⟩
 |.optr _,_,_,_,b=>by cases b
 |.st n,_,g,⟨_,a,o,q,c,h,i,d,j,m,_⟩,b=>⟨a,_,c,d,rfl,λe f=>Nw (τ:=n) m b e f⟩
 |.pr _ _,_,_,k,_=>k.elim
 |.nil,_,_,k,_=>k.elim
 |.de,_,_,k,_=>k.elim
 |.mp _,_,g,⟨a,_,_,c,h,i,d,j,_⟩,b=>⟨a,_,c,d,rfl,λe f=>by cases b;exact⟨rfl,rfl⟩⟩
 |.dJ _ _,_,g,⟨a,_,_,c,h,i,d,j,_⟩,b=>⟨a,_,c,d,rfl,λe f=>by cases b;exact⟨rfl,rfl⟩⟩
theorem Nw {P:Program}:∀{τ:ah} {l:List Field} {g:Nat} {f:abU} {e:τ.den},hn P τ l g f->kw τ=some e->∀(b:dd->Nat->Prop) (d:World),aN b d τ f e []
 |.pr j k,t::y,g,f,e,a,c,b,d=>by
  obtain⟨u,m,v,⟨w,B,ar,q,r⟩,n⟩:=a;simp only[kw] at c;split at c
  ·rename_i z A o p;cases c;obtain⟨x,C,h,i,_,s⟩:=tF (τ:=j) m o;rw[ar] at h;obtain rfl:=dV h;rw[q] at i;obtain rfl:=dV i;exact⟨[],[],rfl,by rw[r];exact s b d,Nw (τ:=k) n p b d⟩
  ·cases c
 |.nil,[],_,f,e,a,c,b,d=>⟨rfl,a⟩
 |.pr _ _,[],_,_,_,a,_,_,_=>a.elim
 |.nil,_::_,_,_,_,a,_,_,_=>a.elim
 |.int _,_,_,_,_,a,_,_,_=>by cases a
 |.bool,_,_,_,_,a,_,_,_=>by cases a
 |.str,_,_,_,_,a,_,_,_=>by cases a
 |.a6 _ _,_,_,_,_,a,_,_,_=>by cases a
 |.osl _,_,_,_,_,a,_,_,_=>by cases a
 |.ptr _ _,_,_,_,_,a,_,_,_=>by cases a
 |.optr _,_,_,_,_,a,_,_,_=>by cases a
 |.st _,_,_,_,_,a,_,_,_=>by cases a
 |.de,_,_,_,_,a,_,_,_=>by cases a
 |.mp _,_,_,_,_,a,_,_,_=>by cases a
 |.dJ _ _,_,_,_,_,a,_,_,_=>by cases a
end
def a5:ah->ah->Bool
 |.int g,.int h=>if g=h then true else false
 |.bool,.bool|.str,.str|.nil,.nil=>true
 |.a6 _ a,.a6 _ b|.a6 _ a,.osl b|.osl a,.a6 _ b|.osl a,.osl b=>a5 a b
 |.ptr _ a,.ptr _ b|.ptr _ a,.optr b|.optr a,.ptr _ b|.optr a,.optr b=>a5 a b
 |.st a,.st b=>a5 a b
 |.mp a,.mp b|.mp a,.dJ _ b|.dJ _ a,.mp b|.dJ _ a,.dJ _ b=>a5 a b
 |.pr c d,.pr e f=>a5 c e&&a5 d f
 |_,_=>false
theorem a5.size:∀{τ b:ah},a5 τ b=true->τ.size=b.size:=by
 intro τ
 induction τ with
 |st h c=>intro b a;cases b<;>simp only[a5] at a<;>first|(simp only[ah.size];exact c a)|cases a
 |pr f g d e=>
  intro b a;cases b<;>simp only[a5] at a<;>try (cases a;done)
  simp only[bg] at a;simp only[ah.size];rw[d a.1,e a.2]
 |_=>intro b a;cases b<;>simp[a5] at a<;>simp[ah.size]
mutual
theorem dM.lay {P:Program}:∀{τ c:ah} {T:TypeId},a5 τ c=true->dM P τ T->dM P c T
 |.int q,c,_,a,b=>by cases c<;>simp[a5] at a;subst a;exact b
 |.bool,c,_,a,b=>by cases c<;>simp[a5] at a;exact b
 |.str,c,_,a,b=>by cases c<;>simp[a5] at a;exact b
 |.a6 _ k,c,_,a,b=>by obtain⟨h,E,d,i,j,e,f,g⟩:=b;cases c<;>simp only[a5] at a<;>first|exact⟨h,E,d,i,j,e,f,dM.lay a g⟩|cases a
 |.osl k,c,_,a,b=>by obtain⟨h,E,d,i,j,e,f,g⟩:=b;cases c<;>simp only[a5] at a<;>first|exact⟨h,E,d,i,j,e,f,dM.lay a g⟩|cases a
 |.ptr _ k,c,_,a,b=>by obtain⟨h,E,d,i,j,e,f,g⟩:=b;cases c<;>simp only[a5] at a<;>first|exact⟨h,E,d,i,j,e,f,dM.lay a g⟩|cases a
 |.optr k,c,_,a,b=>by obtain⟨h,E,d,i,j,e,f,g⟩:=b;cases c<;>simp only[a5] at a<;>first|exact⟨h,E,d,i,j,e,f,dM.lay a g⟩|cases a
 |.st k,c,_,a,b=>by
  obtain⟨p,h,n,o,d,i,j,e,f,g,l⟩:=b;cases c<;>simp only[a5] at a<;>try (cases a;done)
  have:=a5.size a;exact⟨U,h,n,o,d,U,U,e,f,hn.lay a g,U⟩
 |.pr _ _,_,_,_,b=>b.elim
 |.nil,_,_,_,b=>b.elim
 |.de,_,_,_,b=>b.elim
 |.mp k,c,_,a,b=>by obtain⟨h,m,E,d,i,j,e,f,g,l⟩:=b;cases c<;>simp only[a5] at a<;>first|exact⟨h,m,E,d,i,j,e,f,g,dM.lay a l⟩|cases a
 |.dJ _ k,c,_,a,b=>by obtain⟨h,m,E,d,i,j,e,f,g,l⟩:=b;cases c<;>simp only[a5] at a<;>first|exact⟨h,m,E,d,i,j,e,f,g,dM.lay a l⟩|cases a
theorem hn.lay {P:Program}:∀{τ c:ah} {f:List Field} {d:Nat} {e:abU},a5 τ c=true->hn P τ f d e->hn P c f d e
 |.pr k l,c,m::o,d,e,b,a=>by
  obtain⟨g,h,n,i,j⟩:=a;cases c<;>simp only[a5] at b<;>try (cases b;done)
  simp only[bg] at b;have:=a5.size b.1;exact⟨g,dM.lay b.1 h,U,by rw[<-this];exact i,by rw[<-this];exact hn.lay b.2 j⟩
 |.nil,c,[],_,_,b,a=>by cases c<;>simp[a5] at b;exact a
 |.pr _ _,_,[],_,_,_,a=>a.elim
 |.nil,_,_::_,_,_,_,a=>a.elim
 |.int _,_,_,_,_,_,a=>by cases a
 |.bool,_,_,_,_,_,a=>by cases a
 |.str,_,_,_,_,_,a=>by cases a
 |.a6 _ _,_,_,_,_,_,a=>by cases a
 |.osl _,_,_,_,_,_,a=>by cases a
 |.ptr _ _,_,_,_,_,_,a=>by cases a
 |.optr _,_,_,_,_,_,a=>by cases a
 |.st _,_,_,_,_,_,a=>by cases a
 |.de,_,_,_,_,_,a=>by cases a
 |.mp _,_,_,_,_,_,a=>by cases a
end
structure r4 where
 b:Nat
 T:TypeId
 k:IntKind
 xs:ab1
def G7 (P:Program) (a:r4):Prop:=∃b,P.underlying a.T=some (.array a.xs.length b)/\dM P (.int a.k) b
structure dY where
 P:Program
 tt:List (TypeId×ah)
 ok:∀T τ,al tt T=some τ->dM P τ T
 mix:P.follows .mixedOrders=true
 glob:List r4:=[]
 gok:∀g∈glob,G7 P g:=by intro g h;cases h
end
section
def fq:Nat:=4294967296
def aA {b:Type} (c:List b) (a:Int):Option b:=if 0<=a then c[a.toNat]? else none
theorem Jk {b:List z} {c:z} (a:aA b S=some c):S=(S.toNat:Int)/\S.toNat<b.length/\b[S.toNat]?=some c:=by
 unfold aA at a;split at a
 ·exact⟨U,(ey.1 a).1,a⟩
 ·cases a
inductive gI where
 |du (av:ak) (new:List (Nat×aB))
 |part (α:Type) (φ:α->Prop) (f:α->ak×List (Nat×aB))
 |bad
def gI.K (e:gI) (Q:ak->List (Nat×aB)->Prop):Prop:=
 match e with
 |.du c d=>Q c d
 |.part f g b=>∃a:f,g a/\Q (b a).1 (b a).2
 |.bad=>False
def ah.pure:ah->Bool
 |.osl _|.optr _|.de|.mp _=>false
 |.st c=>c.pure
 |.pr a b=>a.pure&&b.pure
 |_=>true
def dO:ah->List aV->Option ah
 |τ,[]=>some τ
 |.osl c,.idx _::b=>dO c b
 |.optr c,.deref::b=>dO c b
 |.mp c,.deref::b=>dO c b
 |.st c,.unst::b=>dO c b
 |.pr a _,.fst::b=>dO a b
 |.pr _ d,.snd::b=>dO d b
 |_,_=>none
def dU:ah->Nat->Option (List aV×ah)
 |.pr a _,0=>some ([.fst],a)
 |.pr _ c,d+1=>match dU c d with|some b=>some (.snd::b.1,b.2)|none=>none
 |_,_=>none
def dx:ah->Nat->Nat
 |.pr _ _,0=>0
 |.pr a b,c+1=>a.size+dx b c
 |_,_=>0
def pB:(e:ah)->e.den->Nat->Option aB
 |.pr a _,b,0=>some ⟨a,b.1⟩
 |.pr _ c,b,d+1=>pB c b.2 d
 |_,_,_=>none
theorem D7 {h:Program}:∀{τ:ah} {j:List Field} {f:Nat} {g:abU} {e:Nat} {s:List aV} {τf:ah},hn h τ j f g->dU τ e=some (s,τf)->∃c,j[e]?=some c/\c.offset=f+dx τ e/\dM h τf c.type
 |.pr a i,c::q,f,g,0,s,τf,d,b=>by simp only[dU,bH,fv] at b;obtain⟨rfl,rfl⟩:=b;exact⟨c,rfl,by rw[d.1];rfl,d.2.1⟩
 |.pr a i,c::q,f,g,e+1,s,τf,d,b=>by
  simp only[dU] at b;split at b
  ·rename_i k p;simp only[bH,fv] at b;obtain⟨rfl,rfl⟩:=b;obtain⟨l,m,n,o⟩:=D7 (τ:=i) d.2.2.2.2 (s:=k.1) (τf:=k.2) p;exact⟨l,by simpa using m,by rw[n];simp only[dx];omega,o⟩
  ·cases b
 |.pr _ _,[],_,_,_,_,_,d,_=>d.elim
 |.int _,_,_,_,_,_,_,_,b=>by cases b
 |.bool,_,_,_,_,_,_,_,b=>by cases b
 |.str,_,_,_,_,_,_,_,b=>by cases b
 |.a6 _ _,_,_,_,_,_,_,_,b=>by cases b
 |.osl _,_,_,_,_,_,_,_,b=>by cases b
 |.ptr _ _,_,_,_,_,_,_,_,b=>by cases b
 |.optr _,_,_,_,_,_,_,_,b=>by cases b
 |.st _,_,_,_,_,_,_,_,b=>by cases b
 |.nil,_,_,_,_,_,_,_,b=>by cases b
 |.de,_,_,_,_,_,_,_,b=>by cases b
theorem Ea:∀{τ:ah} {f:τ.den} {d:Nat} {c:aB},pB τ f d=some c->∃e,dU τ d=some (e,c.1)
 |.pr a g,f,0,c,b=>by simp only[pB,bH] at b;subst b;exact⟨_,rfl⟩
 |.pr a g,f,d+1,c,b=>by obtain⟨e,h⟩:=Ea (τ:=g) b;exact⟨.snd::e,by simp[dU,h]⟩
 |.int _,_,_,_,b=>by cases b
 |.bool,_,_,_,b=>by cases b
 |.str,_,_,_,b=>by cases b
 |.a6 _ _,_,_,_,b=>by cases b
 |.osl _,_,_,_,b=>by cases b
 |.ptr _ _,_,_,_,b=>by cases b
 |.optr _,_,_,_,b=>by cases b
 |.st _,_,_,_,b=>by cases b
 |.nil,_,_,_,b=>by cases b
 |.de,_,_,_,b=>by cases b
theorem uS:∀{τ:ah} {c:Nat} {s:List aV} {tf:ah},dU τ c=some (s,tf)->dx τ c+tf.size<=τ.size
 |.pr a d,0,s,tf,b=>by simp only[dU,bH,fv] at b;obtain⟨_,rfl⟩:=b;simp[dx,ah.size]
 |.pr a d,c+1,s,tf,b=>by
  simp only[dU] at b;split at b
  ·rename_i e f;simp only[bH,fv] at b;obtain⟨_,rfl⟩:=b;have:=uS (τ:=d) (s:=e.1) (tf:=e.2) f;simp only[dx,ah.size];omega
  ·cases b
 |.int _,_,_,_,b=>by cases b
 |.bool,_,_,_,b=>by cases b
 |.str,_,_,_,b=>by cases b
 |.a6 _ _,_,_,_,b=>by cases b
 |.osl _,_,_,_,b=>by cases b
 |.ptr _ _,_,_,_,b=>by cases b
 |.optr _,_,_,_,b=>by cases b
 |.st _,_,_,_,b=>by cases b
 |.nil,_,_,_,b=>by cases b
 |.de,_,_,_,b=>by cases b
theorem D9 {j:dd->Nat->Prop} {w:World}:∀{τ:ah} {f:τ.den} {e:Nat} {c:aB} {d:abU},aN j w τ d f []->pB τ f e=some c->aN j w c.1 ((d.drop (dx τ e)).take c.1.size) c.2 []/\dx τ e+c.1.size<=τ.size
 |.pr a k,f,0,c,d,i,b=>by simp only[pB,bH] at b;subst b;obtain⟨g,f2,h,l,m⟩:=i;obtain⟨rfl,rfl⟩:g=[]/\f2=[]:=(by simpa[eq_comm] using h);exact⟨by simpa[dx] using l,by simp[dx,ah.size]⟩
 |.pr a k,f,e+1,c,d,i,b=>by obtain⟨g,f2,h,l,m⟩:=i;obtain⟨rfl,rfl⟩:g=[]/\f2=[]:=(by simpa[eq_comm] using h);obtain⟨n,o⟩:=D9 (τ:=k) m b;refine⟨?_,by simp only[dx,ah.size];omega⟩;simp only[dx];rwa[oU] at n
 |.int _,_,_,_,_,_,b=>by cases b
 |.bool,_,_,_,_,_,b=>by cases b
 |.str,_,_,_,_,_,b=>by cases b
 |.a6 _ _,_,_,_,_,_,b=>by cases b
 |.osl _,_,_,_,_,_,b=>by cases b
 |.ptr _ _,_,_,_,_,_,b=>by cases b
 |.optr _,_,_,_,_,_,b=>by cases b
 |.st _,_,_,_,_,_,b=>by cases b
 |.nil,_,_,_,_,_,b=>by cases b
 |.de,_,_,_,_,_,b=>by cases b
theorem aP.eX {w:World} {a:Loc}:aP w d v g [] q a B↔d=q/\v=a/\g=B:=by cases d<;>exact Iff.rfl
theorem aP.append {w:World}:∀{p c:List aV} {τ u v:ah} {n q r:Loc} {m k l:abU},aP w τ n m p u q k->aP w u q k c v r l->aP w τ n m (p++c) v r l
 |[],c,τ,_,_,_,_,_,_,_,_,a,b=>by obtain⟨rfl,rfl,rfl⟩:=aP.eX.1 a;exact b
 |s::p,c,τ,_,_,_,_,_,_,_,_,a,b=>by
  cases τ<;>cases s<;>simp only[aP] at a
  case osl.idx t i=>
   obtain⟨d,o,z,x,e,f,g,h,j,y⟩:=a;exact⟨d,o,z,x,e,f,g,h,j,y.append b⟩
  case optr.deref t=>
   obtain⟨d,o,e,f,g,h,j⟩:=a;exact⟨d,o,e,f,g,h,j.append b⟩
  case st.unst t=>exact aP.append (p:=p) (τ:=t) a b
  case pr.fst t1 t2=>exact aP.append (p:=p) (τ:=t1) a b
  case pr.snd t1 t2=>exact aP.append (p:=p) (τ:=t2) a b
theorem aP.here {w:World}:aP w d v g [] d v g:=by cases d<;>exact⟨rfl,rfl,rfl⟩
theorem aP.ty {w:World}:∀{p:List aV} {τ c:ah} {m n:Loc} {e f:abU},aP w τ m e p c n f->dO τ p=some c
 |[],τ,_,_,_,_,_,a=>by obtain⟨rfl,_⟩:=aP.eX.1 a;cases τ<;>rfl
 |s::p,τ,_,_,_,_,_,a=>by
  cases τ<;>cases s<;>simp only[aP] at a
  case osl.idx t i=>obtain⟨d,o,r,q,g,h,j,k,b,l⟩:=a;exact l.ty
  case optr.deref t=>obtain⟨d,o,g,h,j,k,b⟩:=a;exact b.ty
  case st.unst t=>exact aP.ty (p:=p) (τ:=t) a
  case pr.fst t1 t2=>exact aP.ty (p:=p) (τ:=t1) a
  case pr.snd t1 t2=>exact aP.ty (p:=p) (τ:=t2) a
theorem aP.at {w:World}:∀{q:List aV} {τ r:ah} {h p:Loc} {g j:abU},aP w τ h g q r p j->g.length=τ.size->(∀b o,h=some (b,o)->dS w b o g)->j.length=r.size/\∀b o,p=some (b,o)->dS w b o j
 |[],τ,_,_,_,_,_,d,f,e=>by obtain⟨rfl,rfl,rfl⟩:=aP.eX.1 d;exact⟨f,e⟩
 |s::q,τ,_,h,_,g,_,d,f,e=>by
  cases τ<;>cases s<;>simp only[aP] at d
  case osl.idx t i=>
   obtain⟨b,o,A,z,u,v,n,k,l,x⟩:=d;exact x.at k (λm y c=>by simp only[bH,fv] at c;obtain⟨rfl,rfl⟩:=c;exact l)
  case optr.deref t=>
   obtain⟨b,o,u,v,n,k,l⟩:=d;exact l.at n (λm y c=>by simp only[bH,fv] at c;obtain⟨rfl,rfl⟩:=c;exact k)
  case st.unst t=>exact aP.at (τ:=t) d f e
  case pr.fst a b=>
   exact aP.at (τ:=a) d (by simp only[ah.size] at f;simp;omega) (λb o c=>(e b o c).take)
  case pr.snd a b=>
   refine aP.at (τ:=b) d (by simp only[ah.size] at f;simp;omega) (λm o c=>?_);cases h with
   |none=>simp at c
   |some B=>
    simp only[fe,bH,fv] at c;obtain⟨rfl,rfl⟩:=c;exact(e _ _ rfl).drop
theorem aP.Ba {w:World}:∀{τ:ah} {e:Nat} {s:List aV} {τf:ah} {l:Loc} {cs:abU},dU τ e=some (s,τf)->aP w τ l cs s τf (l.map λc=>(c.1,c.2+dx τ e)) ((cs.drop (dx τ e)).take τf.size)
 |.pr a f,0,s,τf,l,cs,d=>by
  simp only[dU,bH,fv] at d;obtain⟨rfl,rfl⟩:=d;have:(l.map λc=>(c.1,c.2+dx (.pr a f) 0))=l:=(by cases l<;>simp[dx]);rw[this];simp only[aP,dx,ml]
  first|exact aP.here|exact⟨rfl,rfl,rfl⟩|trivial|simp
 |.pr a f,e+1,s,τf,l,cs,d=>by
  simp only[dU] at d;split at d
  ·rename_i c g;simp only[bH,fv] at d;obtain⟨rfl,rfl⟩:=d;have:=aP.Ba (w:=w) (τ:=f) (s:=c.1) (τf:=c.2) (l:=l.map λc=>(c.1,c.2+a.size)) (cs:=cs.drop a.size) g;simp only[aP,dx];rw[oU] at this;cases l with
   |none=>exact this
   |some h=>simp only[fe,m9] at this|-;exact this
  ·cases d
 |.int _,_,_,_,_,_,b=>by cases b
 |.bool,_,_,_,_,_,b=>by cases b
 |.str,_,_,_,_,_,b=>by cases b
 |.a6 _ _,_,_,_,_,_,b=>by cases b
 |.osl _,_,_,_,_,_,b=>by cases b
 |.ptr _ _,_,_,_,_,_,b=>by cases b
 |.optr _,_,_,_,_,_,b=>by cases b
 |.st _,_,_,_,_,_,b=>by cases b
 |.nil,_,_,_,_,_,b=>by cases b
 |.de,_,_,_,_,_,b=>by cases b
theorem db.uniq:∀{p:List aV} {τ:ah} {e:τ.den} {c:ah} {f g:c.den},db τ e p c f->db τ e p c g->f=g
 |[],τ,_,_,_,_,a,b=>by obtain⟨rfl,a⟩:=db.eX.1 a;obtain⟨_,b⟩:=db.eX.1 b;exact a.symm.trans b
 |s::p,τ,_,_,_,_,a,b=>by
  cases τ<;>cases s<;>simp only[db] at a b
  case osl.idx=>
   obtain⟨i,h,a⟩:=a;obtain⟨j,d,b⟩:=b;rw[h] at d;obtain rfl:=dV d;exact a.uniq b
  case optr.deref=>exact db.uniq (p:=p) a b
  case st.unst=>exact db.uniq (p:=p) a b
  case pr.fst=>exact db.uniq (p:=p) a b
  case pr.snd=>exact db.uniq (p:=p) a b
def Yields (E:dY) (C:dA) (st:aH) (a:Act) (w:World) (I:Nat->Prop) (rt:Nat->abU) (fp:Nat->ab0) (o:Oper) (Q:ak->List (Nat×aB)->Prop):Prop:=
 ∃j d e i g f c,(execOp a.eval o).run E.P w=.ok (.value j) d/\gH w d/\(∀b,I b->e b)/\(∀b,e b->I b\/(w.heap.size<=b/\b<d.heap.size))/\tX C st w d e c i g/\bG (bc e C.B) d (c++st.h) (dG c i rt) (dG c g fp) f j/\Q f c
section
variable {E:dY} {C:dA} {st:aH} {a:Act} {w:World} {I:Nat->Prop} {rt:Nat->abU} {fp:Nat->ab0} {o:Oper} {Q:ak->List (Nat×aB)->Prop}
theorem Yields.pure {v:Value} (d:(execOp a.eval o).run E.P w=.ok (.value v) w) (e:bG (bc I C.B) w st.h rt fp R v) (c:Q R []):Yields E C st a w I rt fp o Q:=
 ⟨v,w,I,rt,fp,R,[],d,.refl w,λ_ b=>b,λ_ b=>.inl b,.nil,e,c⟩
theorem Yields.wp (t:bE C st a.tmps w I rt fp) (k:Yields E C st a w I rt fp o Q) {next:Act->World->Prop} {j:Exit->Act->World->Prop} {f:Nat} (u:o.dst=some f) (v:C.ok f) (x:∀b c e d,Q b c->e.defers=a.defers->ff C ⟨(f,b)::st.g,c++st.h⟩ e.tmps d->next e d):o.wp E.P a w next j:=by
 obtain⟨y,d,i,A,z,b,c,l,m,n,p,q,r,s⟩:=k;unfold Oper.wp;rw[l];show next (a.put o.dst y) d
 rw[u];exact x b c _ _ s rfl ⟨i,_,_,(t.ext m n p q).put v r⟩
def km (h:BinOp) (a:IntKind) (d:Int) (g:IntKind) (b:Int):gI:=
 let c (i:Prop) (f:Int):gI:=if a=g then .part Int (λc=>i/\f=c) (λc=>(.val (.int a) c,[])) else .bad
 let e (f:Bool):gI:=if a=g then .du (.val .bool f) [] else .bad
 match h with
 |.add=>c True (a.wrap (d+b))
 |.sub=>c True (a.wrap (d-b))
 |.mul=>c True (a.wrap (d*b))
 |.quo=>c (b≠0) (a.wrap (d.tdiv b))
 |.rem=>c (b≠0) (d.tmod b)
 |.and=>c True (a.wrap (BitVec.ofInt a.bits d&&&BitVec.ofInt a.bits b).toNat)
 |.or=>c True (a.wrap (BitVec.ofInt a.bits d|||BitVec.ofInt a.bits b).toNat)
 |.xor=>c True (a.wrap (BitVec.ofInt a.bits d^^^BitVec.ofInt a.bits b).toNat)
 |.andNot=>c True (a.wrap (BitVec.ofInt a.bits d&&&~~~BitVec.ofInt a.bits b).toNat)
 |.shl=>.part Int (λc=>0<=b/\a.wrap (d*2^min b.toNat a.bits)=c) (λc=>(.val (.int a) c,[]))
 |.shr=>.part Int (λc=>0<=b/\d.fdiv (2^min b.toNat a.bits)=c) (λc=>(.val (.int a) c,[]))
 |.eql=>e (d==b)
 |.neq=>e (d !=b)
 |.lss=>e (decide (d<b))
 |.leq=>e (decide (d<=b))
 |.gtr=>e (decide (d>b))
 |.geq=>e (decide (d>=b))
def Dd (c:BinOp) (a b:ak):gI:=
 match a,b with
 |.val (.int d) a,.val (.int e) b=>km c d a e b
 |.val .bool a,.val .bool b=>match c with
  |.eql=>.du (.val .bool (a==b)) []
  |.neq=>.du (.val .bool (!(a==b))) []
  |_=>.bad
 |_,_=>.bad
theorem Si {d:BinOp} {r:TypeId} {j:IntKind} {m:Int} (f:o.op=.binOp d G b i r) (g:a.eval b=.int u m) (h:a.eval i=.int j S) (c:(km d u m j S).K Q):Yields E C st a w I rt fp o Q:=by
 have e:∀w,(eqGuard d G b i (.int u m) (.int j S)).run E.P w=.ok () w:=λw=>(by unfold eqGuard;cases d<;>simp);have n:d=.shl->Yields E C st a w I rt fp o Q:=(by rintro rfl;simp only[km] at c;obtain⟨k,⟨l,rfl⟩,c⟩:=c;exact .pure (v:=.int u _) (by simp[execOp,f,g,h,e,binOp,Op.shift,(U:¬S<0)]) (.int u _) c);have p:d=.shr->Yields E C st a w I rt fp o Q:=(by rintro rfl;simp only[km] at c;obtain⟨k,⟨l,rfl⟩,c⟩:=c;exact .pure (v:=.int u _) (by simp[execOp,f,g,h,e,binOp,Op.shift,(U:¬S<0)]) (.int u _) c);by_cases q:u=j
 case neg=>
  cases d<;>simp only[km,q,if_false] at c
  case shl=>exact n rfl
  case shr=>exact p rfl
  all_goals exact c.elim
 subst q;cases d<;>simp only[km,if_true] at c
 case shl=>exact n rfl
 case shr=>exact p rfl
 case quo|rem=>
  obtain⟨k,⟨l,rfl⟩,c⟩:=c;exact .pure (v:=.int u _) (by simp[execOp,f,g,h,e,binOp,Op.intDiv,l]) (.int u _) c
 case add|sub|mul=>
  obtain⟨k,⟨_,rfl⟩,c⟩:=c;exact .pure (v:=.int u _) (by simp[execOp,f,g,h,e,binOp,Op.intArith]) (.int u _) c
 case and|or|xor|andNot=>
  obtain⟨k,⟨_,rfl⟩,c⟩:=c;exact .pure (v:=.int u _) (by simp only[execOp,f,g,h,Sem.run_bind,e,binOp,Op.intBits];simp) (.int u _) c
 all_goals exact .pure (v:=.bool _) (by simp[execOp,f,g,h,e,binOp,Op.intCmp]) (.bool _) c
theorem run_equalIn_bool (w:World) (c:Nat) (a b:Bool) (d:N.underlying G=some .bool):(Op.equalIn (c+1) G (.bool a) (.bool b)).run N w=.ok (a==b) w:=by simp[Op.equalIn,run_underlying d]
theorem run_eql_bool (w:World) (a b:Bool) (c:N.underlying G=some .bool):(binOp .eql G (.bool a) (.bool b)).run N w=.ok (.bool (a==b)) w:=by simp only[binOp];simp[Op.equal,Op.maxDepth,run_equalIn_bool w 9999 a b c]
theorem run_neq_bool (w:World) (a b:Bool) (c:N.underlying G=some .bool):(binOp .neq G (.bool a) (.bool b)).run N w=.ok (.bool (!(a==b))) w:=by simp only[binOp];simp[Op.equal,Op.maxDepth,run_equalIn_bool w 9999 a b c]
theorem HP (t:bE C st a.tmps w I rt fp) {h:BinOp} {D:TypeId} (q:o.op=.binOp h G b i D) (B:∀j k:Bool,(h=.eql\/h=.neq)->(aO st.g b=.val .bool j/\aO st.g i=.val .bool k)->E.P.underlying G=some .bool) (d:(Dd h (aO st.g b) (aO st.g i)).K Q):Yields E C st a w I rt fp o Q:=by
 have e:=t.aO b;have f:=t.aO i;unfold Dd at d;split at d
 ·rename_i H L J M n p;rw[n] at e;rw[p] at f;obtain⟨c,m⟩:∃c,c=a.eval b:=⟨_,rfl⟩;obtain⟨F,l⟩:∃c,c=a.eval i:=⟨_,rfl⟩;rw[<-m] at e;rw[<-l] at f;cases e with|val r=>cases f with|val s=>
  obtain⟨_,rfl⟩:=r;obtain⟨_,rfl⟩:=s;exact Si q m.symm l.symm d
 ·rename_i j k n p;have l:=B j k;have A:aO st.g b=.val .bool j/\aO st.g i=.val .bool k:=⟨n,p⟩;rw[n] at e;rw[p] at f;obtain⟨c,m⟩:∃c,c=a.eval b:=⟨_,rfl⟩;obtain⟨F,x⟩:∃c,c=a.eval i:=⟨_,rfl⟩;rw[<-m] at e;rw[<-x] at f;cases e with|val r=>cases f with|val s=>
  obtain⟨_,rfl⟩:=r;obtain⟨_,rfl⟩:=s;have z:a.eval b=.bool j:=m.symm;have y:a.eval i=.bool k:=x.symm;have u:∀w,(eqGuard h G b i (.bool j) (.bool k)).run E.P w=.ok () w:=λw=>(by unfold eqGuard;cases h<;>simp);split at d
  ·have:=l (.inl rfl) A;exact .pure (v:=.bool _) (by simp only[execOp,q,z,y,Sem.run_bind,u,Result.andThen_ok,run_eql_bool _ _ _ this];rfl) (.bool _) d
  ·have:=l (.inr rfl) A;exact .pure (v:=.bool _) (by simp only[execOp,q,z,y,Sem.run_bind,u,Result.andThen_ok,run_neq_bool _ _ _ this];rfl) (.bool _) d
  ·exact d.elim
 ·exact d.elim
end
end
section
section
variable {E:dY} {C:dA} {st:aH} {a:Act} {w:World} {I:Nat->Prop} {rt:Nat->abU} {fp:Nat->ab0} {o:Oper} {Q:ak->List (Nat×aB)->Prop}
theorem bE.notM (d:bE C st x w I rt fp) {id:Nat} (g:al st.h id=some F):∀a∈fp id,∀c,¬bc I C.B c a:=λa e c f=>by
 have:=(d.tree id F g).2.2 a e;rcases l3 f with b|b
 ·exact this.1 b
 ·exact this.2.1 b
theorem bE.jB (e:bE C st x w I rt fp) {id:Nat} (f:al st.h id=some F) {p:List aV} {τ:ah} {i:τ.den} (o:db F.1 F.2 p τ i) (q:aP w F.1 none (rt id) p d v g):∃_e:d=τ,∃a,aN (bc I C.B) w τ g i a/\nQ w v g τ.size/\∀c∈a,c∈fp id:=by obtain⟨s,r,_⟩:=e.tree id F f;obtain⟨u,t,a,y,j,k,l,m,_⟩:=Bb p (loc:=none) s (λ_ _ b=>by cases b) r (λ_ _ b=>by cases b) (e.notM f) o;obtain⟨rfl,rfl,rfl⟩:=q.iu j;exact⟨rfl,a,k,l,λc n=>m.mem_iff.2 (by simp[n])⟩
theorem bE.L9 (c:bE C st x w I rt fp) {id:Nat} (f:al st.h id=some F) (e:aP w F.1 none (rt id) l d v g):g.length=d.size/\∀a o,v=some (a,o)->dS w a o g:=e.at (c.tree id F f).1.len (λ_ _ b=>by cases b)
theorem ny {u:dd->Nat->Prop}:∀{p:List aV} {τ:ah} {E:Loc} {j:abU} {q:τ.den} {h:ab0} {e:ah} {F:Loc} {r:abU},aN u w τ j q h->aP w τ E j p (.optr e) F r->∃c o d,r=[.pointer (some ⟨c,o,none⟩)]/\d.length=e.size/\dS w c o d
 |[],τ,_,_,_,_,_,_,_,a,b=>by obtain⟨rfl,rfl,rfl⟩:=aP.eX.1 b;obtain⟨c,o,h,d,l,_,m,g,_⟩:=a;exact⟨c,o,d,l,m,g⟩
 |s::p,τ,_,j,q,h,_,_,_,a,b=>by
  cases τ<;>cases s<;>simp only[aP] at b
  case osl.idx e i=>
   obtain⟨c,o,N,J,d,rfl,t,m,g,n⟩:=b;obtain⟨I,K,f,a⟩:=a;simp only[fY,Value.slice.injEq,and_true] at f;obtain⟨rfl,rfl,rfl⟩:=f;rcases a with⟨k,_⟩|⟨v,G,B,k,_,ar,O,P,H⟩
   ·cases k
   cases k;obtain⟨z,L,x,y⟩:=H i q[i] (B[i]'(by omega)) ac ac
   obtain rfl:=g.eq x U;exact ny (p:=p) y n
  case optr.deref e=>
   obtain⟨c,o,d,rfl,m,g,n⟩:=b;obtain⟨v,G,h,z,f,_,M,C,_,D⟩:=a;simp only[fY,Value.pointer.injEq,bH,Addr.mk.injEq,and_true] at f;obtain⟨rfl,rfl⟩:=f;obtain rfl:=g.eq C U;exact ny (p:=p) D n
  case st.unst e=>exact ny (p:=p) (τ:=e) a b
  case pr.fst t1 t2=>obtain⟨A,f2,_,l,_⟩:=a;exact ny (p:=p) (τ:=t1) l b
  case pr.snd t1 t2=>obtain⟨A,f2,_,_,t⟩:=a;exact ny (p:=p) (τ:=t2) t b
def e7 (tt:List (TypeId×ah)) (a:TypeId):Option ah:=match al tt a with|some (.a6 _ b)=>some b|_=>none
def j1 (tt:List (TypeId×ah)) (a:TypeId):Option ah:=match al tt a with|some (.st b)=>some b|_=>none
theorem e7.ok {b:TypeId} {e:ah} (c:e7 E.tt b=some e):∃d a,E.P.info? b=some d/\E.P.underlying b=some (.slice a)/\dM E.P e a:=by
 unfold e7 at c;split at c
 ·rename_i j k i;cases c;obtain⟨d,a,f,_,_,_,g,h⟩:=E.ok b _ i;exact⟨d,a,f,g,h⟩
 ·cases c
theorem j1.ok {c:TypeId} {e:ah} (b:j1 E.tt c=some e):∃a d,E.P.underlying c=some (.struct a)/\hn E.P e a.toList 0 d:=by
 unfold j1 at b;split at b
 ·rename_i k h;cases b;obtain⟨_,j,a,d,i,_,_,_,f,g,_⟩:=E.ok c _ h;exact⟨a,d.toList,f,g⟩
 ·cases b
def sZ (tt:List (TypeId×ah)) (e:List (Nat×aB)) (g:TypeId) (b:ak):gI:=
 match e7 tt g with
 |none=>.bad
 |some _=>match b with
  |.val (.a6 _ _) a=>.du (.val (.int .i64) (a.length:Int)) []
  |.cv (.slice none 0 0)=>.du (.val (.int .i64) (0:Int)) []
  |.ref id d=>match al e id with
   |some ⟨c,b⟩=>match dO c d with
    |some (.osl f)=>.part (List f.den) (λa=>db c b d (.osl f) a) (λa=>(.val (.int .i64) (a.length:Int),[]))
    |_=>.bad
   |none=>.bad
  |.view _ _ i h=>.du (.val (.int .i64) ((h-i:Nat):Int)) []
  |.app id d c j _=>match al e id with
   |some ⟨k,b⟩=>.part (List c.den) (λa=>db k b d (.osl c) a) (λa=>(.val (.int .i64) ((a.length+j.length:Nat):Int),[]))
   |none=>.bad
  |_=>.bad
theorem u3 (f:e7 E.tt G=some d) (g:o.op=.call {callee:=.builtin .len,args:=#[b],argTypes:=#[G]}) (i:a.eval b=.slice r c h):(execOp a.eval o).run E.P w=.ok (.value (.int .i64 c)) w:=by obtain⟨k,j,_,e,_⟩:=e7.ok f;simp[execOp,g,resolve,invoke,builtin,i,Builtin.len_,run_underlying e,goInt]
theorem Vx (s:bE C st a.tmps w I rt fp) (j:o.op=.call {callee:=.builtin .len,args:=#[b],argTypes:=#[G]}) (c:(sZ E.tt st.h G (aO st.g b)).K Q):Yields E C st a w I rt fp o Q:=by
 have d:=s.aO b;unfold sZ at c;split at c
 ·exact c.elim
 rename_i T i;generalize f:a.eval b=U at d;split at c
 ·rename_i R B u e;rw[e] at d;cases d with|val A=>
  obtain⟨_,p,q,rfl,_⟩:=A;exact .pure (u3 i j f) (.int _ _) c
 ·rename_i e;rw[e] at d;cases d;exact .pure (u3 i j f) (.int _ _) c
 ·rename_i id t e;rw[e] at d;split at c
  ·rename_i F D l;split at c
   ·rename_i B O;obtain⟨u,m,c⟩:=c;cases d with|ref k n=>
    rw[l] at k;cases k;obtain⟨rfl,H,z,_⟩:=s.jB l m n;obtain⟨p,q,rfl,_⟩:=z;exact .pure (u3 i j f) (.int _ _) c
   ·exact c.elim
  ·exact c.elim
 ·rename_i id t P M e;rw[e] at d;cases d with
  |ku=>exact .pure (u3 i j f) (.int _ _) c
  |view k n=>exact .pure (u3 i j f) (.int _ _) c
 ·rename_i id t F V S e;rw[e] at d;split at c
  ·rename_i W D l;obtain⟨u,m,c⟩:=c;cases d with|app k N n x J L v=>
   rw[l] at k;cases k;obtain⟨p,q,r,_⟩:=v;simp only[fY,and_true] at r;have y:=db.uniq m x;subst y;rw[r] at f;have:=u3 (w:=w) i j f;rw[nP] at this;exact .pure this (.int _ _) c
  ·exact c.elim
 ·exact c.elim
theorem aP.Jx {o:Nat} (a:h<M) (b:g.length=d.size) (e:dS w c (o+h*d.size) g):aP w (.osl d) v [.slice (some ⟨c,o,none⟩) M O] [.idx h] d (some (c,o+h*d.size)) g:=⟨c,o,M,O,g,rfl,a,b,e,aP.here⟩
theorem aP.DM {o:Nat} (a:g.length=d.size) (b:dS w c o g):aP w (.optr d) v [.pointer (some ⟨c,o,none⟩)] [.deref] d (some (c,o)) g:=⟨c,o,g,rfl,a,b,aP.here⟩
def sV (
 tt:List (TypeId×ah)) (i:List (Nat×aB)) (k:TypeId) (e d:ak):gI:=
 match e7 tt k with
 |none=>.bad
 |some g=>match d with
  |.val (.int _) d=>match e with
   |.val (.a6 m b) n=>bif a5 g b then .part b.den (λh=>aA n d=some h) (λh=>(.val (.ptr m b) (some h),[])) else .bad
   |.ref id c=>match al i id with
    |some ⟨f,e⟩=>match dO f c with
     |some (.osl b)=>bif a5 g b then .part (List b.den×Nat) (λa=>db f e c (.osl b) a.1/\d=(a.2:Int)/\a.2<a.1.length) (λa=>(.addr id (c++[.idx a.2]),[])) else .bad
     |_=>.bad
    |none=>.bad
   |.view id c j l=>match al i id with
    |some ⟨f,e⟩=>match dO f c with
     |some (.osl b)=>bif a5 g b then .part (List b.den×Nat) (λa=>db f e c (.osl b) a.1/\d=(a.2:Int)/\a.2<l-j) (λa=>(.addr id (c++[.idx (j+a.2)]),[])) else .bad
     |_=>.bad
    |none=>.bad
   |_=>.bad
  |_=>.bad
theorem Eo (j:e7 E.tt G=some q) (l:a5 q d=true) (m:o.op=.indexAddr G i b) {e:Nat} (p:a.eval i=.slice (some ⟨M,O,none⟩) h e) (k:a.eval b=.int u c) (t:c<h):(execOp a.eval o).run E.P w=.ok (.value (.pointer (some ⟨M,O+c*d.size,none⟩))) w:=by obtain⟨v,r,_,f,g⟩:=e7.ok j;have n:=(g.lay l).sizeOf w;have:(0:Int)<=(c:Int)/\(c:Int)<(h:Int):=⟨U,U⟩;simp[execOp,m,p,k,Instr.indexAt,asIntOf,run_underlying f,this,n,Addr.add_lit];intro s;omega
theorem U1 (B:bE C st a.tmps w I rt fp) (N:o.op=.indexAddr G i b) (c:(sV E.tt st.h G (aO st.g i) (aO st.g b)).K Q):Yields E C st a w I rt fp o Q:=by
 have m:=B.aO i;have M:=B.aO b;unfold sV at c;split at c
 ·exact c.elim
 rename_i V L;generalize O:a.eval i=d2 at m;generalize P:a.eval b=d3 at M;split at c
 case h_2=>exact c.elim
 rename_i ad R a0;rw[a0] at M;cases M with|val T=>
 obtain⟨_,rfl⟩:=T;split at c
 ·rename_i ce f z r;cases d:a5 V f with
  |false=>rw[d] at c;exact c.elim
  |true=>
   rw[d] at c;obtain⟨W,bB,c⟩:=c;rw[r] at m;cases m with|val T=>
   obtain⟨_,X,Y,rfl,ar,am,S⟩:=T;obtain⟨aj,Z,av⟩:=Jk bB;rcases S with rfl|⟨A,v,rfl,a4,y⟩
   ·simp at Z
   obtain⟨F,p,q,D⟩:=y _ _ av;have bs:a.eval b=.int ad (R.toNat:Nat):=(by rw[P];show Value.int ad R=_;rw[<-aj]);exact .pure (Eo L d N O bs Z) (.val (τ:=.ptr ce f) (x:=some W) (cs:=[.pointer (some ⟨A,v+R.toNat*f.size,none⟩)]) ⟨rfl,A,_,F,rfl,a4,p,q,D⟩) c
 ·rename_i id ci r;split at c
  case h_2=>exact c.elim
  rename_i an W l;split at c
  case h_2=>exact c.elim
  rename_i f bl;cases d:a5 V f with
  |false=>rw[d] at c;exact c.elim
  |true=>
   rw[d] at c;obtain⟨⟨z,e⟩,⟨s,rfl,j⟩,c⟩:=c;simp only at s j c;rw[r] at m;cases m with|ref u t=>
   rw[l] at u;cases u;obtain⟨rfl,a3,k,_⟩:=B.jB l s t;obtain⟨X,Y,rfl,k⟩:=k;rcases k with⟨_,rfl,_⟩|⟨A,v,H,rfl,_,ar,am,S,y⟩
   ·simp at j
   obtain⟨F,p,q,D⟩:=y e z[e] (H[e]'(by omega)) ac ac
   exact .pure (Eo L d N O P j) (.addr l (t.append (aP.Jx j p q))) c
 ·rename_i id ci n c1 r;split at c
  case h_2=>exact c.elim
  rename_i an W l;split at c
  case h_2=>exact c.elim
  rename_i f bl;cases d:a5 V f with
  |false=>rw[d] at c;exact c.elim
  |true=>
   rw[d] at c;obtain⟨⟨z,e⟩,⟨s,rfl,j⟩,c⟩:=c;simp only at s j c;rw[r] at m;cases m with|ku=>(exact absurd j U)|view u t c2 dl ds=>
   rename_i A v d0 Y;rw[l] at u;cases u;obtain⟨ap,a3,k,_⟩:=B.jB l s t;cases ap;obtain⟨X,cv,ab,k⟩:=k;simp only[fY,Value.slice.injEq,and_true] at ab;obtain⟨rfl,rfl,rfl⟩:=ab;rcases k with⟨J,_⟩|⟨co,d1,H,J,_,ar,am,S,y⟩
   ·cases J
   cases J;have bd:n+e<z.length:=U;obtain⟨F,p,q,D⟩:=y (n+e) z[n+e] (H[n+e]'(by omega)) ac ac
   have:=Eo (w:=w) L d N O P j;rw[if_neg U,show v+n*f.size+e*f.size=v+(n+e)*f.size by rw[eD];omega] at this;exact .pure this (.addr l (t.append (aP.Jx bd p q))) c
 ·exact c.elim
theorem aN.pure {h:dd->Nat->Prop} {w:World}:∀{τ:ah} {i:abU} {e:τ.den} {g:ab0},τ.pure=true->aN h w τ i e g->g=[]
 |.int _,_,_,_,_,b=>b.1
 |.bool,_,_,_,_,b=>b.1
 |.str,_,_,_,_,b=>b.1
 |.a6 _ _,_,_,_,_,b=>b.1
 |.ptr _ _,_,_,_,_,b=>b.1
 |.nil,_,_,_,_,b=>b.1
 |.st k,_,_,_,c,b=>aN.pure (τ:=k) c b
 |.pr a f,_,_,_,c,b=>by simp only[ah.pure,bg] at c;obtain⟨n,f2,rfl,j,d⟩:=b;rw[aN.pure (τ:=a) c.1 j,aN.pure (τ:=f) c.2 d];rfl
 |.osl _,_,_,_,c,_=>by cases c
 |.optr _,_,_,_,c,_=>by cases c
 |.dJ _ _,_,e,_,_,b=>by
  cases e with
  |none=>exact b.1
  |some o=>obtain⟨f,m,l,_,d,_⟩:=b;exact d
 |.de,_,_,_,c,_=>by cases c
def tk (d:ah) (e:d.den) (id:Nat) (c:List aV) (a:ah):gI:=
 bif a.pure then .part a.den (λb=>db d e c a b) (λb=>(.val a b,[])) else .du (.ref id c) []
def s1 (tt:List (TypeId×ah)) (f:List (Nat×aB)) (g:TypeId) (c:ak):gI:=
 match al tt g with
 |none=>.bad
 |some e=>match c with
  |.val (.ptr _ a) (some h)=>bif a5 e a then .du (.val a h) [] else .bad
  |.addr id b=>match al f id with
   |some ⟨d,c⟩=>match dO d b with
    |some a=>bif a5 e a then tk d c id b a else .bad
    |none=>.bad
   |none=>.bad
  |.ref id b=>match al f id with
   |some ⟨d,c⟩=>match dO d b with
    |some (.optr a)=>bif a5 e a then tk d c id (b++[.deref]) a else .bad
    |_=>.bad
   |none=>.bad
  |_=>.bad
theorem EM (e:al E.tt G=some q) (j:a5 q d=true) (k:o.op=.load G b) (l:a.eval b=.pointer (some ⟨c,h,none⟩)) (f:dS w c h g) (i:g.length=d.size):(execOp a.eval o).run E.P w=.ok (.value (bL d g)) w:=by have:=Mj ((E.ok G q e).lay j) f i;simp[execOp,k,l,Instr.loadAt,Instr.sureAddr,this]
theorem FSq (m:bE C st a.tmps w I rt fp) {id:Nat} {k:q.den} (j:al st.h id=some ⟨q,k⟩) (e:aP w q none (rt id) l d v g) (f:(execOp a.eval o).run E.P w=.ok (.value (bL d g)) w) (b:(tk q k id l d).K Q):Yields E C st a w I rt fp o Q:=by
 unfold tk at b;cases c:d.pure with
 |true=>
  rw[c] at b;obtain⟨r,n,b⟩:=b;obtain⟨_,p,i,_⟩:=m.jB j n e;have:=i.pure c;subst this;exact .pure f (.val i) b
 |false=>
  rw[c] at b;exact .pure f (.ref j e) b
theorem VE (k:bE C st a.tmps w I rt fp) (p:o.op=.load G b) (c:(s1 E.tt st.h G (aO st.g b)).K Q):Yields E C st a w I rt fp o Q:=by
 have i:=k.aO b;unfold s1 at c;split at c
 ·exact c.elim
 rename_i t n;generalize r:a.eval b=O at i;split at c
 ·rename_i N m x j;cases d:a5 t m with
  |false=>rw[d] at c;exact c.elim
  |true=>
   rw[d] at c;rw[j] at i;cases i with|val H=>
   obtain⟨_,y,A,z,rfl,ar,s,D,F⟩:=H;exact .pure (EM n d p r D s) (.val F) c
 ·rename_i id B j;split at c
  case h_2=>exact c.elim
  rename_i J x f;split at c
  case h_2=>exact c.elim
  rename_i m q;cases d:a5 t m with
  |false=>rw[d] at c;exact c.elim
  |true=>
   rw[d] at c;rw[j] at i;cases i with|addr l e=>
   rw[f] at l;cases l;have:=e.ty;rw[q] at this;cases this;obtain⟨ar,s⟩:=k.L9 f e;exact FSq k f e (EM n d p r (s _ _ rfl) ar) c
 ·rename_i id B j;split at c
  case h_2=>exact c.elim
  rename_i J x f;split at c
  case h_2=>exact c.elim
  rename_i m q;cases d:a5 t m with
  |false=>rw[d] at c;exact c.elim
  |true=>
   rw[d] at c;rw[j] at i;cases i with|ref l e=>
   rename_i P M L;rw[f] at l;cases l;have:=e.ty;rw[q] at this;cases this;obtain⟨y,A,z,rfl,u,v⟩:=ny (k.tree id _ f).1 e;exact FSq k f (e.append (aP.DM u v)) (EM n d p r v u) c
 ·exact c.elim
def sM (tt:List (TypeId×ah)) (g:List (Nat×aB)) (h:TypeId) (k:ak) (c:Nat):gI:=
 match j1 tt h with
 |none=>.bad
 |some e=>match k with
  |.val (.ptr i (.st a)) (some l)=>bif a5 e a then match pB a l c with
   |some ⟨j,m⟩=>.du (.val (.ptr i j) (some m)) []
   |none=>.bad
   else .bad
  |.ref id b=>match al g id with
   |some ⟨f,_⟩=>match dO f b with
    |some (.optr (.st a))=>bif a5 e a then match dU a c with
     |some (d,_)=>.du (.addr id (b++(.deref::.unst::d))) []
     |none=>.bad
     else .bad
    |_=>.bad
   |none=>.bad
  |.addr id b=>match al g id with
   |some ⟨f,_⟩=>match dO f b with
    |some (.st a)=>bif a5 e a then match dU a c with
     |some (d,_)=>.du (.addr id (b++(.unst::d))) []
     |none=>.bad
     else .bad
    |_=>.bad
   |none=>.bad
  |_=>.bad
theorem D6 {f:ah} (m:j1 E.tt G=some f) (r:a5 f d=true) (u:dU d c=some (l,q)) (s:o.op=.fieldAddr G b c) (v:a.eval b=.pointer (some ⟨h,M,none⟩)):(execOp a.eval o).run E.P w=.ok (.value (.pointer (some ⟨h,M+dx d c,none⟩))) w:=by obtain⟨i,y,j,k⟩:=j1.ok m;obtain⟨g,n,t,e⟩:=D7 (hn.lay r k) u;have x:q.size≠0:=(by have:=e.pos;omega);have p:i[c]?=some g:=(by simpa using n);simp[execOp,s,v,Instr.fieldAt,run_underlying j,p,Instr.sureAddr,fieldPlace,e.sizeOf,x,Addr.add_lit,t]
theorem Ut (H:bE C st a.tmps w I rt fp) (y:o.op=.fieldAddr G b c) (d:(sM E.tt st.h G (aO st.g b) c).K Q):Yields E C st a w I rt fp o Q:=by
 have m:=H.aO b;unfold sM at d;split at d
 ·exact d.elim
 rename_i D v;generalize A:a.eval b=ad at m;split at d
 ·rename_i U e N r;cases i:a5 D e with
  |false=>rw[i] at d;exact d.elim
  |true=>
   rw[i] at d;simp only[cond_true] at d;split at d
   case h_2=>exact d.elim
   rename_i n Z J;rw[r] at m;cases m with|val X=>
   obtain⟨_,f,j,u,rfl,ar,ab,W,L⟩:=X;obtain⟨t,k⟩:=Ea J;obtain⟨M,Y⟩:=D9 (τ:=e) L J;have S:=L.len;simp only[ah.size] at S M Y;exact .pure (D6 v i k y A) (.val (τ:=.ptr U n) (x:=some Z) (cs:=[.pointer (some ⟨f,j+dx e c,none⟩)]) ⟨rfl,f,_,_,rfl,ar,by simp;omega,W.drop.take,M⟩) d
 ·rename_i id V r;split at d
  case h_2=>exact d.elim
  rename_i O N q;split at d
  case h_2=>exact d.elim
  rename_i e z;cases i:a5 D e with
  |false=>rw[i] at d;exact d.elim
  |true=>
   rw[i] at d;simp only[cond_true] at d;split at d
   case h_2=>exact d.elim
   rename_i t n k;rw[r] at m;cases m with|ref s p=>
   rw[q] at s;cases s;have:=p.ty;rw[z] at this;cases this;obtain⟨f,j,u,rfl,P,R⟩:=ny (H.tree id _ q).1 p;rename_i T;have B:aP w (.optr (.st e)) T [.pointer (some ⟨f,j,none⟩)] (.deref::.unst::t) n (some (f,j+dx e c)) ((u.drop (dx e c)).take n.size):=⟨f,j,u,rfl,P,R,aP.Ba (l:=some (f,j)) k⟩;exact .pure (D6 v i k y A) (.addr q (p.append B)) d
 ·rename_i id V r;split at d
  case h_2=>exact d.elim
  rename_i O N q;split at d
  case h_2=>exact d.elim
  rename_i e z;cases i:a5 D e with
  |false=>rw[i] at d;exact d.elim
  |true=>
   rw[i] at d;simp only[cond_true] at d;split at d
   case h_2=>exact d.elim
   rename_i t n k;rw[r] at m;cases m with|addr s p=>
   rw[q] at s;cases s;have:=p.ty;rw[z] at this;cases this;rename_i f j F;have B:aP w (.st e) (some (f,j)) F (.unst::t) n (some (f,j+dx e c)) ((F.drop (dx e c)).take n.size):=aP.Ba (l:=some (f,j)) k;exact .pure (D6 v i k y A) (.addr q (p.append B)) d
 ·exact d.elim
def uR (
 tt:List (TypeId×ah)) (i:List (Nat×aB)) (h:TypeId) (c:ak) (d:Nat):gI:=
 match j1 tt h with
 |none=>.bad
 |some f=>match c with
  |.val (.st a) k=>bif a5 f a then match pB a k d with
   |some ⟨b,l⟩=>.du (.val b l) []
   |none=>.bad
   else .bad
  |.ref id e=>match al i id with
   |some ⟨g,c⟩=>match dO g e with
    |some (.st a)=>bif a5 f a then match dU a d with
     |some (j,b)=>tk g c id (e++(.unst::j)) b
     |none=>.bad
     else .bad
    |_=>.bad
   |none=>.bad
  |_=>.bad
theorem I6 {k:ah} (s:j1 E.tt G=some k) (v:a5 k d=true) (y:dU d c=some (l,q)) (x:o.op=.field G b c) (z:a.eval b=bL (.st d) g) (C:dx d c+q.size<=g.length):(execOp a.eval o).run E.P w=.ok (.value (bL q ((g.drop (dx d c)).take q.size))) w:=by
 obtain⟨m,F,p,r⟩:=j1.ok s;obtain⟨f,t,j,e⟩:=D7 (hn.lay v r) y;have D:=e.pos;have u:m[c]?=some f:=(by simpa using t);simp only[ip] at j;have A:a.eval b=.agg g.toArray:=z;have B:(part f.type g.toArray f.offset).run E.P w=.ok (bL q ((g.drop (dx d c)).take q.size)) w:=by
  simp only[part,Sem.run_bind,e.isAgg,Result.andThen_ok,j];cases h:oi q with
  |true=>
   rw[Cc h];simp only[if_true,Sem.run_bind,e.sizeOf,Result.andThen_ok,Sem.run_pure];congr 2;apply Array.ext';rw[Array.toList_extract,List.extract_eq_take_drop,nS]
  |false=>
   have n:=FA e h;rw[Cb h,n];have i:dx d c<g.length:=U;have:(g.drop (dx d c)).take 1=[g[dx d c]]:=(by rw[List.drop_eq_getElem_cons i];rfl);rw[this];simp[i]
 simp[execOp,x,A,Instr.field,run_underlying p,u,asAgg,B]
theorem Uv (m:bE C st a.tmps w I rt fp) (u:o.op=.field G b c) (d:(uR E.tt st.h G (aO st.g b) c).K Q):Yields E C st a w I rt fp o Q:=by
 have j:=m.aO b;unfold uR at d;split at d
 ·exact d.elim
 rename_i B s;generalize x:a.eval b=P at j;split at d
 ·rename_i f J l;cases e:a5 B f with
  |false=>rw[e] at d;exact d.elim
  |true=>
   rw[e] at d;simp only[cond_true] at d;split at d
   case h_2=>exact d.elim
   rename_i q R t;rw[l] at j;cases j with|val z=>
   obtain⟨A,i⟩:=Ea t;obtain⟨H,O⟩:=D9 (τ:=f) z t;have F:=z.len;simp only[ah.size] at F;exact .pure (I6 s e i u x (by simp only at*;omega)) (.val H) d
 ·rename_i id M l;split at d
  case h_2=>exact d.elim
  rename_i L J p;split at d
  case h_2=>exact d.elim
  rename_i f D;cases e:a5 B f with
  |false=>rw[e] at d;exact d.elim
  |true=>
   rw[e] at d;simp only[cond_true] at d;split at d
   case h_2=>exact d.elim
   rename_i A q i;rw[l] at j;cases j with|ref v n=>
   rename_i S y r;rw[p] at v;cases v;have:=n.ty;rw[D] at this;cases this;obtain⟨ar,N⟩:=m.L9 p n;have k:aP w (.st f) y r (.unst::A) q (y.map λk=>(k.1,k.2+dx f c)) ((r.drop (dx f c)).take q.size):=aP.Ba i;exact FSq m p (n.append k) (I6 s e i u x (by rw[ar];exact uS i)) d
 ·exact d.elim
def ta (f:List (Nat×aB)) (b:ak):gI:=
 match b with
 |.val (.ptr h d) b=>.part d.den (λc=>b=some c) (λc=>(.val (.ptr h d) (some c),[]))
 |.ref id a=>match al f id with
  |some ⟨i,_⟩=>match dO i a with
   |some (.optr _)=>.du (.ref id a) []
   |_=>.bad
  |none=>.bad
 |.addr id a=>.du (.addr id a) []
 |.dt e g=>.du (.dt e g) []
 |_=>.bad
theorem Wt (r:bE C st a.tmps w I rt fp) (l:o.op=.nilCheck b) (c:(ta st.h (aO st.g b)).K Q):Yields E C st a w I rt fp o Q:=by
 have d:=r.aO b;unfold ta at c;generalize m:a.eval b=H at d;split at c
 ·rename_i z n p e;obtain⟨p,rfl,c⟩:=c;rw[e] at d;cases d with|val G=>
  obtain⟨_,f,k,q,rfl,ar,B,D,F⟩:=G;exact .pure (v:=.pointer (some ⟨f,k,none⟩)) (by simp[execOp,l,m,bL]) (.val (τ:=.ptr z n) (x:=some p) (cs:=[.pointer (some ⟨f,k,none⟩)]) ⟨rfl,f,k,q,rfl,ar,B,D,F⟩) c
 ·rename_i id A e;split at c
  case h_2=>exact c.elim
  rename_i J p j;split at c
  case h_2=>exact c.elim
  rename_i n y;rw[e] at d;cases d with|ref s i=>
  rw[j] at s;cases s;have:=i.ty;rw[y] at this;cases this;obtain⟨f,k,q,rfl,L,M⟩:=ny (r.tree id _ j).1 i;exact .pure (v:=.pointer (some ⟨f,k,none⟩)) (by simp[execOp,l,m,bL]) (.ref (τ':=.optr n) j i) c
 ·rename_i id A e;rw[e] at d;cases d with|addr j i=>
  exact .pure (by simp[execOp,l,m]) (.addr j i) c
 ·rename_i N O e;rw[e] at d;cases d with|dt u t=>
  exact .pure (by simp[execOp,l,m]) (.dt u t) c
 ·exact c.elim
def qw (d:Option ak) (b a:Nat):Prop:=
 match d with
 |none=>a=b
 |some (.val (.int _) c)=>c=(a:Int)
 |some _=>False
def ts (tt:List (TypeId×ah)) (k:List (Nat×aB)) (j:TypeId) (d:ak) (g f:Option ak):gI:=
 match e7 tt j with
 |none=>.bad
 |some h=>match d with
  |.val (.a6 l b) e=>bif a5 h b then
   .part cZ (λa=>qw g 0 a.1/\qw f e.length a.2/\a.1<=a.2/\a.2<=e.length) (λa=>(.val (.a6 l b) ((e.take a.2).drop a.1),[])) else .bad
  |.ref id c=>match al k id with
   |some ⟨i,d⟩=>match dO i c with
    |some (.osl b)=>bif a5 h b then
     .part (List b.den×Nat×Nat) (λa=>db i d c (.osl b) a.1/\qw g 0 a.2.1/\qw f a.1.length a.2.2/\a.2.1<=a.2.2/\a.2.2<=a.1.length) (λa=>(.view id c a.2.1 a.2.2,[])) else .bad
    |_=>.bad
   |none=>.bad
  |_=>.bad
def Dg (a:Act) (e:c8) (c b:Nat):Prop:=
 match e with
 |none=>b=c
 |some f=>∃d,a.eval f=.int d b
theorem F9 (v:e7 E.tt G=some q) (x:a5 q d=true) {g e:c8} (y:o.op=.slice G b g e none) (A:a.eval b=.slice r O M) (k:Dg a g 0 h) (f:Dg a e O c) (p:h<=c) (s:c<=M):(execOp a.eval o).run E.P w=.ok (.value (.slice (if M=h then r else r.map (·.add (h*d.size))) (c-h) (M-h))) w:=by
 obtain⟨F,D,_,t,u⟩:=e7.ok v;have z:=(u.lay x).sizeOf w;have aj:(0:Int)<=(c:Int)/\(c:Int)<=(M:Int):=⟨U,U⟩;have l:(0:Int)<=(h:Int)/\(h:Int)<=(c:Int):=⟨U,U⟩;have m:(Instr.sliceBounds true O M (g.map a.eval) (e.map a.eval) none).run E.P w=.ok (h,c,M) w:=by
  cases g with
  |none=>
   obtain rfl:h=0:=k;cases e with
   |none=>obtain rfl:c=O:=f;simp[Instr.sliceBounds]
   |some C=>obtain⟨B,i⟩:=f;simp[Instr.sliceBounds,Instr.sliceBound,i,asIntOf,aj];intro n;omega
  |some K=>
   obtain⟨H,j⟩:=k;cases e with
   |none=>obtain rfl:c=O:=f;simp[Instr.sliceBounds,Instr.sliceBound,j,asIntOf,l];intro n;omega
   |some C=>
    obtain⟨B,i⟩:=f;have I:¬M<c:=U;have J:¬c<h:=U;simp[Instr.sliceBounds,Instr.sliceBound,i,j,asIntOf,p,s]
 simp[execOp,y,A,Instr.sliceAt,Instr.slice,run_underlying t,m,z]
theorem ui (i:bE C st a.tmps w I rt fp) {e:c8} (b:qw (e.map (aO st.g)) c h):Dg a e c h:=by
 cases e with
 |none=>exact b
 |some f=>
  have:=i.aO f;simp only[fe,qw] at b;split at b
  ·rename_i d;cases d
  ·rename_i k m d;simp only[bH] at d;rw[d] at this;subst b;generalize j:a.eval f=n at this;cases this with|val l=>obtain⟨_,rfl⟩:=l;exact⟨k,j⟩
  ·exact b.elim
theorem aau (f:bE C st a.tmps w I rt fp) {R k:c8} (A:o.op=.slice G b R k none) (c:(ts E.tt st.h G (aO st.g b) (R.map (aO st.g)) (k.map (aO st.g))).K Q):Yields E C st a w I rt fp o Q:=by
 have t:=f.aO b;unfold ts at c;split at c
 ·exact c.elim
 rename_i V z;generalize F:a.eval b=co at t;split at c
 ·rename_i a0 e v y;cases i:a5 V e with
  |false=>rw[i] at c;exact c.elim
  |true=>
   rw[i] at c;obtain⟨⟨d,q⟩,⟨l,m,n,p⟩,c⟩:=c;simp only at l m n p c;rw[y] at t;cases t with|val a4=>
   obtain⟨_,L,s,rfl,ar,J,S⟩:=a4;have u:=F9 (w:=w) z i A F (ui f l) (ui f m) n U;have av:((v.take q).drop d).length=q-d:=(by simp;omega);refine .pure u (.val (τ:=.a6 a0 e) (x:=(v.take q).drop d) (cs:=[_]) ⟨rfl,_,s-d,by rw[av],U,?_,?_⟩) c
   ·intro M;by_cases ad:s=d
    ·omega
    ·rw[if_neg ad] at M;cases L with
     |none=>have:=J rfl;omega
     |some _=>cases M
   ·by_cases ce:q=d
    ·left;apply k2;omega
    ·right;rcases S with rfl|⟨r,j,rfl,ab,T⟩
     ·simp at p;omega
     ·refine⟨r,j+d*e.size,by rw[if_neg U];simp[Addr.add_lit],ab,λH W k=>?_⟩;have am:v[d+H]?=some W:=by
       rw[iG,rU] at k;split at k
       ·exact k
       ·cases k
      obtain⟨Z,X,bl,Y⟩:=T _ _ am;refine⟨Z,X,?_,Y⟩;rwa[show j+d*e.size+H*e.size=j+(d+H)*e.size by rw[eD];omega]
 ·rename_i id a3 y;split at c
  case h_2=>exact c.elim
  rename_i bd W D;split at c
  case h_2=>exact c.elim
  rename_i e ci;cases i:a5 V e with
  |false=>rw[i] at c;exact c.elim
  |true=>
   rw[i] at c;obtain⟨⟨v,d,q⟩,⟨N,l,m,n,p⟩,c⟩:=c;simp only at N l m n p c;rw[y] at t;cases t with|ref P O=>
   rw[D] at P;cases P;obtain⟨rfl,bs,B,_⟩:=f.jB D N O;obtain⟨L,s,rfl,B⟩:=B;rcases B with⟨rfl,rfl,rfl,_⟩|⟨r,j,bB,rfl,_,ar,J,S,T⟩
   ·have an:q=0:=(by simpa using p);subst an;have ap:d=0:=U;subst ap;exact .pure (F9 (w:=w) z i A F (ui f l) (ui f m) (aY _) (aY _)) (.ku id a3) c
   have u:=F9 (w:=w) z i A F (ui f l) (ui f m) n U;have:(if s=d then some (⟨r,j,none⟩:Addr) else(some (⟨r,j,none⟩:Addr)).map (·.add (d*e.size)))=some ⟨r,if s=d then j else j+d*e.size,none⟩:=(by split<;>simp[Addr.add_lit]);rw[this] at u;exact .pure u (.view D O n p J) c
 ·exact c.elim
end
end
section
def hu:(i:ah)->abU->Option i.den
 |.int d,b=>match b with
  |[.int e n]=>if d=e then some n else none
  |_=>none
 |.bool,b=>match b with
  |[.bool c]=>some c
  |_=>none
 |.str,b=>match b with
  |[.string s]=>some s
  |_=>none
 |.a6 _ _,b=>match b with
  |[.slice none 0 0]=>some []
  |_=>none
 |.osl _,b=>match b with
  |[.slice none 0 0]=>some []
  |_=>none
 |.ptr _ _,b=>match b with
  |[.pointer none]=>some none
  |_=>none
 |.st f,b=>hu f b
 |.pr a c,b=>match hu a (b.take a.size),hu c (b.drop a.size) with
  |some g,some h=>some (g,h)
  |_,_=>none
 |.nil,b=>match b with
  |[]=>some ()
  |_=>none
 |.optr _,_=>none
 |.de,_=>none
 |.mp _,_=>none
 |.dJ _ _,_=>none
theorem n6 {M:dd->Nat->Prop} {w:World}:∀{τ:ah} {d:abU} {c:τ.den},hu τ d=some c->aN M w τ d c []
 |.int j,d,c,b=>by
  simp only[hu] at b;split at b
  ·split at b
   ·rename_i f;cases b;subst f;exact⟨rfl,rfl⟩
   ·cases b
  ·cases b
 |.bool,d,c,b=>by simp only[hu] at b;split at b<;>cases b;exact⟨rfl,rfl⟩
 |.str,d,c,b=>by simp only[hu] at b;split at b<;>cases b;exact⟨rfl,rfl⟩
 |.a6 _ _,d,c,b=>by simp only[hu] at b;split at b<;>cases b;exact⟨rfl,none,0,rfl,aY _,λ_=>rfl,.inl rfl⟩
 |.osl _,d,c,b=>by simp only[hu] at b;split at b<;>cases b;exact⟨none,0,rfl,.inl ⟨rfl,rfl,rfl,rfl⟩⟩
 |.ptr _ _,d,c,b=>by simp only[hu] at b;split at b<;>cases b;exact⟨rfl,rfl⟩
 |.st i,d,c,b=>n6 (τ:=i) (by simp only[hu] at b;exact b)
 |.pr a e,d,c,b=>by
  simp only[hu] at b;split at b
  ·rename_i c k g h;cases b;exact⟨[],[],rfl,n6 (τ:=a) g,n6 (τ:=e) h⟩
  ·cases b
 |.nil,d,c,b=>by simp only[hu] at b;split at b<;>cases b;exact⟨rfl,rfl⟩
 |.optr _,d,c,b=>by simp only[hu] at b;cases b
 |.de,d,c,b=>by simp only[hu] at b;cases b
 |.mp _,d,c,b=>by simp only[hu] at b;cases b
 |.dJ _ _,d,c,b=>by simp only[hu] at b;cases b
theorem I8 (d:Nat):∀(e:abU) (b:Nat) (c:abS),let h:=(e.zipIdx b).foldl (λc (j:Value×Nat)=>c.setIfInBounds (d+j.2) j.1) c
 h.size=c.size/\(∀a,a<d+b\/d+b+e.length<=a->h[a]?=c[a]?)/\(d+b+e.length<=c.size->∀a f,e[a]?=some f->h[d+b+a]?=some f)
 |[],b,c=>⟨rfl,λ_ _=>rfl,λ_ a f k=>by simp at k⟩
 |x::e,b,c=>by
  obtain⟨l,i,m⟩:=I8 d e (b+1) (c.setIfInBounds (d+b) x);simp only[List.zipIdx_cons,List.foldl_cons];refine⟨by rw[l];simp,λa n=>?_,λo a f g=>?_⟩
  ·simp only[h5] at n;rw[i a U,CK U]
  ·simp only[h5] at o;cases a with
   |zero=>
    simp only[iY,bH] at g;subst g;rw[jM,i _ U];have:d+b<c.size:=U;simp[this]
   |succ a=>
    simp only[o1] at g;have:=m (by simp;omega) a f g;rwa[(U:d+(b+1)+a=d+b+(a+1))] at this
theorem xx (n:Nat->Option cZ):∀(m:List (Nat×Value)) (d:abS),(∀a∈m,∃f c,n a.1=some (f,c)/\a.2.cells.size=c/\f+c<=d.size)->(m.Pairwise λa j=>∀o c h k,n a.1=some (o,c)->n j.1=some (h,k)->o+c<=h\/h+k<=o)->∃j,Instr.fill n d m=some j/\j.size=d.size/\(∀b,(∀a∈m,∀o c,n a.1=some (o,c)->b<o\/o+c<=b)->j[b]?=d[b]?)/\(∀a∈m,∀o c,n a.1=some (o,c)->∀b e,a.2.cells[b]?=some e->j[o+b]?=some e)
 |[],d,_,_=>⟨d,rfl,rfl,λ_ _=>rfl,λa g=>by cases g⟩
 |(i,e)::m,d,w,u=>by
  obtain⟨f,c,p,I,N⟩:=w (i,e) ac;simp only at p I;rw[lF] at u;have H:e.cells.zipIdx.foldl (λl (a:Value×Nat)=>l.setIfInBounds (f+a.2) a.1) d=(e.cells.toList.zipIdx 0).foldl (λl (a:Value×Nat)=>l.setIfInBounds (f+a.2) a.1) d:=(by rw[<-Array.foldl_toList,Array.toList_zipIdx]);obtain⟨q,f2,r⟩:=I8 f e.cells.toList 0 d;rw[<-H] at q f2 r;simp only[Array.length_toList] at f2 r;generalize F:e.cells.zipIdx.foldl (λl (a:Value×Nat)=>l.setIfInBounds (f+a.2) a.1) d=v at q f2 r;obtain⟨j,J,K,y,aU⟩:=xx n m v (λa g=>by
   obtain⟨h,k,B,C,D⟩:=w a (e0 _ g);exact⟨h,k,B,C,by rw[q];exact D⟩) u.2
  refine⟨j,?_,by rw[K,q],λb x=>?_,λa g h k s b z t=>?_⟩
  ·have E:(decide (e.cells.size≠c)||decide (f+e.cells.size>d.size))=false:=(by simp;omega);simp only[Instr.fill,p,E];rw[show(e.cells.zipIdx.foldl (λl L=>match L with|(A,b)=>l.setIfInBounds (f+b) A) d)=v from F];simpa using J
  ·rw[y b (λa g=>x a (e0 _ g)),f2 b (by have:=x (i,e) ac f c p;omega)]
  ·rcases dh.1 g with rfl|g
   ·simp only at s t;rw[p] at s;cases s;have M:b<e.cells.size:=(md.1 t).1;rw[y (f+b) (λa g h k G=>by
     have:=u.1 a g f c h k p G;omega)]
    exact r U b z (by simpa using t)
   ·exact aU a g h k s b z t
section
variable {E:dY} {C:dA} {st:aH} {a:Act} {w:World} {I:Nat->Prop} {rt:Nat->abU} {fp:Nat->ab0} {o:Oper} {Q:ak->List (Nat×aB)->Prop}
theorem dS.alloc {w:World} {c:abS} {e:TypeId} {o:Nat} {d:abU} (f:∀a b,d[a]?=some b->c[o+a]?=some b):dS (w.alloc (.cells c e)) w.heap.size o d:=λa b g=>by rw[World.cell?_alloc_new];exact f a b g
theorem hS.alloc {w:World} {a:abS} {c:TypeId} {d b:Nat} (e:b<=a.size):hS (w.alloc (.cells a c)) w.heap.size d b:=λg _ f=>by rw[World.cell?_alloc_new,World.frozen?_alloc_new];exact⟨by simp;omega,rfl⟩
theorem Yields.new {d:Nat} {t:aB} {e:Value} {cs:abU} {f:ab0} {cells:abS} {T:TypeId} (l:al st.h d=none) (g:bE C st a.tmps w I rt fp) (p:(execOp a.eval o).run E.P w=.ok (.value e) (w.alloc (.cells cells T))) (r:e=bL t.1 cs) (q:aN (bc I C.B) (w.alloc (.cells cells T)) t.1 cs t.2 f) (j:∀c∈f,c=w.heap.size) (m:f.Nodup) (n:Q (.ref d []) [(d,t)]):Yields E C st a w I rt fp o Q:=by
 refine⟨e,_,I,λ_=>cs,λ_=>f,.ref d [],[(d,t)],p,.alloc w _,λ_ b=>b,λ_ b=>.inl b,.one l q m (λc i=>?_),?_,n⟩
 ·rw[j c i];exact⟨aY _,ac,λb=>by have:=g.ib _ (.inl b);omega⟩
 ·rw[r];have k:al ([(d,t)]++st.h) d=some t:=(by rw[yN,bY,if_pos rfl]);refine .ref (t:=t) (τ':=t.1) (loc:=none) k ?_;have:dG [(d,t)] (λ_=>cs) rt d=cs:=(by simp[dG,bY]);rw[this];exact aP.here
def s5 (tt:List (TypeId×ah)) (g:List (Nat×ah)) (h:List (Nat×aB)) (b:Nat) (f:TypeId) (e d:ak):gI:=
 match e7 tt f,al g b,al h b with
 |some i,some (.osl c),none=>match kw c,e,d with
  |some j,.val (.int _) e,.val (.int _) d=>bif a5 i c&&Nat.ble c.size 2000 then
   .part cZ (λa=>e=(a.1:Int)/\d=(a.2:Int)/\a.1<=a.2/\a.2<=fq) (λa=>(.ref b [],[(b,⟨.osl c,List.replicate a.1 j⟩)])) else .bad
  |_,_,_=>.bad
 |_,_,_=>.bad
theorem VQ (a:abS) (e c b:Nat) (g:Value) (_hz:0<a.size) (f:a[b]?=some g) (j:c<e):(madeCells a (e*a.size))[c*a.size+b]?=some g:=by have d:b<a.size:=(md.1 f).1;have h:(c+1)*a.size<=e*a.size:=ga _ j;rw[eD,g0] at h;have i:(c*a.size+b) %a.size=b:=(by rw[Nat.add_comm,Nat.add_mul_mod_self_right,Nat.mod_eq_of_lt d]);simp only[madeCells,Array.getElem?_map,Array.getElem?_range];rw[if_pos U];simp only[fe,i];rw[<-f,getElem!_pos a b d,vJ d]
theorem VS (t:bE C st a.tmps w I rt fp) (ad:o.op=.makeSlice G i b) (e:(s5 E.tt j st.h c G (aO st.g i) (aO st.g b)).K Q):Yields E C st a w I rt fp o Q:=by
 have v:=t.aO i;have u:=t.aO b;unfold s5 at e;split at e
 case h_2=>exact e.elim
 rename_i bB A X co Z;split at e
 case h_2=>exact e.elim
 rename_i ci a4 dl a3 c2 ap O N;cases l:(a5 bB A&&Nat.ble A.size 2000) with
 |false=>rw[l] at e;exact e.elim
 |true=>
  rw[l] at e;simp only[bg] at l;obtain⟨⟨q,k⟩,⟨rfl,rfl,H,r⟩,e⟩:=e;simp only at H r e;have cv:=eT l.2;rw[O] at v;rw[N] at u;generalize an:a.eval i=d2 at v;generalize am:a.eval b=d1 at u;cases v with|val bl=>cases u with|val bs=>
  obtain⟨_,rfl⟩:=bl;obtain⟨_,rfl⟩:=bs;obtain⟨av,D,_,V,W⟩:=e7.ok X;have s:=W.lay l.1;obtain⟨p,n,ar,bd,ds,M⟩:=tF s ap;obtain⟨c1,_,z,_⟩:=s.info;have F:=z.info;rw[ar] at F;cases F;have m:n.cells.size=A.size:=(by have:=(M (bc I C.B) w).len;simpa using this);have Y:(p.bytes:Int)*(k:Int)<=281474976710656:=(by have:p.bytes*k<=48000*fq:=jN (by have:=z.bytes;omega) r;have S:((p.bytes*k:Nat):Int)<=281474976710656:=(by unfold fq at this;omega);rwa[kf] at S);have x:=run_make (P:=E.P) w G D p n V ar bd a4 a3 (q:Int) (k:Int) U U Y (by unfold fq at r;omega);simp only[dc,z.size] at x;rw[<-m] at x;refine .new (d:=c) (cells:=madeCells n.cells (k*n.cells.size)) (T:=D) (cs:=[.slice (some ⟨w.heap.size,0,none⟩) q k]) (f:=[w.heap.size]) Z t ?_ rfl ?_ ac ac e
  ·simp[execOp,ad,an,am,bL,x]
  ·refine⟨some ⟨w.heap.size,0,none⟩,k,ac,.inr ⟨w.heap.size,0,List.replicate q [],rfl,ac,ac,by simpa using H,hS.alloc (by rw[size_madeCells,m];omega),λa0 ce R y J=>?_⟩⟩;have L:a0<q:=(by have:=(ey.1 y).1;simpa using this);obtain rfl:ci=ce:=(by rw[lD,if_pos L] at y;exact dV y);obtain rfl:[]=R:=(by rw[lD,if_pos L] at J;exact dV J);refine⟨n.cells.toList,by simpa using m,dS.alloc (λav d0 ab=>?_),M _ _⟩;rw[ip,<-m];exact VQ _ _ _ _ _ (by rw[m];exact s.pos) (by simpa using ab) U
def ub (tt:List (TypeId×ah)) (d:List (Nat×ah)) (e:List (Nat×aB)) (a:Nat) (c:TypeId):gI:=
 match al tt c,al d a,al e a with
 |some f,some b,none=>match kw b with
  |some g=>bif a5 f b then .du (.ref a []) [(a,⟨.optr b,g⟩)] else .bad
  |none=>.bad
 |_,_,_=>.bad
theorem Yields.box {g:q.den} {cs:abU} (r:al st.h c=none) (i:bE C st a.tmps w I rt fp) (_hT:dM E.P q G) (u:(execOp a.eval o).run E.P w=.ok (.value (.pointer (some ⟨w.heap.size,0,none⟩))) (w.alloc (.cells cs.toArray G))) (v:∀l,(∀e b,bc I C.B e b->bU w l b)->aN (bc I C.B) l q cs g []) (s:Q (.ref c []) [(c,⟨.optr q,g⟩)]):Yields E C st a w I rt fp o Q:=by have m:∀e b,bc I C.B e b->bU w (w.alloc (.cells cs.toArray G)) b:=λe b n=>.of_heap ((gH.alloc w _).heap b (i.ib b (l3 n)));have k:=v _ m;have j:=k.len;refine .new (d:=c) (t:=⟨.optr q,g⟩) (cs:=[.pointer (some ⟨w.heap.size,0,none⟩)]) (f:=[w.heap.size]) r i u rfl ⟨w.heap.size,0,[],cs,rfl,rfl,j,dS.alloc (λx y p=>by simpa using p),hS.alloc (by simp[j]),k⟩ ac ac s
theorem RT (g:bE C st a.tmps w I rt fp) (l:o.op=.alloc G) (b:(ub E.tt j st.h c G).K Q):Yields E C st a w I rt fp o Q:=by
 unfold ub at b;split at b
 case h_2=>exact b.elim
 rename_i f q i s k;split at b
 case h_2=>exact b.elim
 rename_i x m;cases d:a5 f q with
 |false=>rw[d] at b;exact b.elim
 |true=>
  rw[d] at b;have e:=(E.ok G f i).lay d;obtain⟨t,r,ar,n,u,p⟩:=tF e m;refine .box (cs:=r.cells.toList) k g e ?_ (λv _=>p _ _) b;simp[execOp,l,Instr.alloc,zeroValue,typeInfo,ar,n,newVar,newRow]
def wm (tt:List (TypeId×ah)) (e:List (Nat×aB)) (a:Nat) (d:TypeId) (b:ak):gI:=
 match al tt d,al e a with
 |some f,none=>match b with
  |.val c b=>bif a5 f c then .du (.ref a []) [(a,⟨.optr c,b⟩)] else .bad
  |_=>.bad
 |_,_=>.bad
theorem St (j:bE C st a.tmps w I rt fp) (t:o.op=.box G b) (d:(wm E.tt st.h c G (aO st.g b)).K Q):Yields E C st a w I rt fp o Q:=by
 have f:=j.aO b;unfold wm at d;split at d
 case h_2=>exact d.elim
 rename_i l r s;split at d
 case h_2=>exact d.elim
 rename_i x A p;cases e:a5 l x with
 |false=>rw[e] at d;exact d.elim
 |true=>
  rw[e] at d;rw[p] at f;generalize u:a.eval b=y at f;cases f with|val i=>
  rename_i m;have k:=(E.ok G l r).lay e;refine .box (cs:=m) s j k ?_ (λz q=>i.mono (λv n e=>⟨e,q v n e⟩) ac) d;simp[execOp,t,u,Instr.box,newVar,newRow,nB k i.len i.one]
def coe (a:ah) (b:ak):Option a.den:=
 match b with
 |.val d b=>if h:d=a then some (h▸b) else none
 |.cv c=>hu a c.cells.toList
 |_=>none
def wv (a:ah):List ak->Option (List a.den)
 |[]=>some []
 |x::c=>match coe a x,wv a c with
  |some d,some b=>some (d::b)
  |_,_=>none
theorem Dm (i:dM E.P d G) {e:Value} (c:bG f w y rt fp R e) {g:d.den} (a:coe d R=some g):aN f w d e.cells.toList g []:=by
 unfold coe at a;split at a
 ·rename_i k j;split at a
  ·rename_i h;subst h;cases a;cases c with|val b=>
   rw[nB i b.len b.one];exact b
  ·cases a
 ·cases c;exact n6 a
 ·cases a
def tp:List (Nat×Operand)->Nat->Bool
 |[],_=>true
 |q::b,a=>Nat.beq q.1 a&&tp b (a+1)
def uj (tt:List (TypeId×ah)) (g:List (Nat×ah)) (i:List (Nat×aB)) (h:Operand->ak) (b:Nat) (f:TypeId) (d:Nat) (c:List (Nat×Operand)):gI:=
 match e7 tt f,al i b with
 |some e,none=>
  let a:=match al g b with|some (.osl a)=>a|_=>e
  bif a5 e a&&Nat.ble a.size 2000&&Nat.ble d 1000&&tp c 0&&Nat.beq c.length d then
   match wv a (c.map λj=>h j.2) with
   |some k=>.du (.ref b []) [(b,⟨.osl a,k⟩)]
   |none=>.bad
  else .bad
 |_,_=>.bad
theorem Ij {f:ah}:∀{e:List ak} {d:List f.den},wv f e=some d->d.length=e.length/\∀(b:Nat) (c:f.den),d[b]?=some c->∃y:ak,e[b]?=some y/\coe f y=some c
 |[],d,a=>by cases a;exact⟨rfl,λb c a=>by simp at a⟩
 |y::e,d,a=>by
  simp only[wv] at a;split at a
  ·rename_i m l k j;cases a;obtain⟨h,i⟩:=Ij j;refine⟨by simp[h],λb c g=>?_⟩;cases b with
   |zero=>simp only[iY,bH] at g;subst g;exact⟨y,rfl,k⟩
   |succ b=>simpa using i b c (by simpa using g)
  ·cases a
theorem pU:∀{f:List (Nat×Operand)} {e:Nat},tp f e=true->∀(a:Nat) (c:Nat×Operand),f[a]?=some c->c.1=e+a
 |[],_,_,a,c,b=>by simp at b
 |x::f,e,b,a,c,d=>by
  simp only[tp,bg] at b;cases a with
  |zero=>simp only[iY,bH] at d;subst d;exact es b.1
  |succ a=>have:=pU b.2 a c (by simpa using d);omega
theorem Sx (H:bE C st a.tmps w I rt fp) {i:Array (Nat×Operand)} (d0:o.op=.buildSlice G c i) (k:(uj E.tt j st.h (aO st.g) M G c i.toList).K Q):Yields E C st a w I rt fp o Q:=by
 unfold uj at k;split at k
 case h_2=>exact k.elim
 rename_i av ci co;generalize eq:(match al j M with|some (.osl e)=>e|_=>av)=e at k;simp only at k;cases p:(a5 av e&&Nat.ble e.size 2000&&Nat.ble c 1000&&tp i.toList 0&&Nat.beq i.toList.length c) with
 |false=>rw[p] at k;exact k.elim
 |true=>
  rw[p] at k;simp only[bg] at p;obtain⟨⟨⟨⟨a3,A⟩,D⟩,x⟩,R⟩:=p;have A:=eT A;have D:=eT D;have R:i.toList.length=c:=es R;simp only[cond_true] at k;split at k
  case h_2=>exact k.elim
  rename_i m d5;obtain⟨ad,N,_,bB,ce⟩:=e7.ok ci;have u:=ce.lay a3;obtain⟨J,ed,am,_⟩:=u.info;have em:=u.pos;obtain⟨a4,bd⟩:=Ij d5;simp only[gw] at a4;have Z:m.length=c:=U;have ek:c*e.size<=16777216:=(by have:c*e.size<=1000*2000:=jN D A;omega);have S:∀(b:Nat) (l:Nat×Operand),i.toList[b]?=some l->∃r:e.den,m[b]?=some r/\aN (bc I C.B) w e (a.eval l.2).cells.toList r []:=(by intro b l q;have dl:b<m.length:=(by have:=(ey.1 q).1;omega);obtain⟨f3,aj,y⟩:=bd b m[b] ac;rw[eN,q] at aj;simp only[fe,bH] at aj;subst aj;exact⟨m[b],ac,Dm u (H.aO l.2) y⟩);obtain⟨ab,cv,c1⟩:∃a0:abS,(c*e.size=0->a0=#[])/\(c*e.size≠0->∃s,(zeroValue N).run E.P w=.ok s w/\a0=s.cells):=by
   by_cases n:c*e.size=0
   ·exact⟨#[],λ_=>rfl,λk=>absurd n k⟩
   ·obtain⟨s,_,d7⟩:=dM.El u;exact⟨s.cells,λk=>absurd k n,λ_=>⟨s,by simp[zeroValue,typeInfo,am.info,d7 J am.info],rfl⟩⟩
  obtain⟨an,ap,d8,fz,aU⟩:=xx (λJ=>some (J*e.size,e.size)) (i.toList.map λl=>(l.1,a.eval l.2)) ((Array.range (c*e.size)).map (ab[· %ab.size]!)) (by
   intro l d2;obtain⟨ft,d1,rfl⟩:=bT.1 d2;obtain⟨b,q,rfl⟩:=fH.1 d1;have v:i.toList[b]?=some i.toList[b]:=ac;obtain⟨r,_,z⟩:=S b _ v;have F:=pU x b _ v;have:(b+1)*e.size<=c*e.size:=ga _ U;rw[eD,g0] at this;refine⟨_,_,rfl,by have:=z.len;simpa using this,?_⟩;simp only[Array.size_map,Array.size_range];rw[F,ip];exact this) (by
   rw[gx];intro b L q ds dl fn fT fs f0 aj y;simp only[rV,bH,fv] at aj y;simp only[gw] at q ds;have bl:=pU x b i.toList[b] ac;have f2:=pU x L i.toList[L] ac;obtain⟨rfl,rfl⟩:=aj;obtain⟨rfl,rfl⟩:=y;left;rw[bl,f2];have:(0+b+1)*e.size<=(0+L)*e.size:=ga _ U;rw[eD,g0] at this;exact this)
  have d3:an.size=c*e.size:=(by rw[d8];simp);refine .new (d:=M) (t:=⟨.osl e,m⟩) (cells:=an) (T:=N) (cs:=[.slice (some ⟨w.heap.size,0,none⟩) c c]) (f:=[w.heap.size]) co H ?_ rfl ?_ ac ac k
  ·have d4:=u.sizeOf w;have el:¬(16777216<c*e.size):=U;have W:(Array.map (λr=>(r.fst,a.eval r.snd)) i).toList=i.toList.map λl=>(l.1,a.eval l.2):=ac;simp only[execOp,d0,Instr.buildSlice,Sem.run_bind,run_underlying bB,Result.andThen_ok,d4];rw[if_neg U];by_cases n:c*e.size=0
   ·rw[if_pos n];obtain rfl:=cv n;rw[W];simp only[Sem.run_bind,Sem.run_pure,Result.andThen_ok,ap,newRow,newObj];rfl
   ·rw[if_neg n];obtain⟨s,d6,rfl⟩:=c1 n;rw[W];simp only[Sem.run_bind,Sem.run_pure,Result.andThen_ok,d6,ap,newRow,newObj];rfl
  ·refine⟨some ⟨w.heap.size,0,none⟩,c,by rw[Z],.inr ⟨w.heap.size,0,List.replicate c [],rfl,ac,by simp[Z],(by show m.length<=c;omega),hS.alloc (by rw[d3];omega),λb r bs z V=>?_⟩⟩;have q:b<c:=(by have:b<m.length:=(ey.1 z).1;omega);obtain rfl:[]=bs:=(by rw[lD,if_pos q] at V;exact dV V);have v:i.toList[b]?=some (i.toList[b]'(by omega)):=by simp
   obtain⟨f1,Y,X⟩:=S b _ v;rw[z] at Y;obtain rfl:=dV Y;refine⟨_,X.len,dS.alloc (λad d9 c2=>?_),X.mono (λex O p=>⟨p,.of_heap ((gH.alloc w _).heap O (H.ib O (l3 p)))⟩) ac⟩;have:=aU (i.toList[b].1,a.eval i.toList[b].2) (bT.2 ⟨i.toList[b],bI _,rfl⟩) _ _ rfl ad d9 (by simpa using c2);have F:=pU x b _ v;rw[F,ip] at this;simpa using this
end
end
section
def kq (a:List (Nat×Operand)) (b:Nat):c8:=al a b
def oq (
 g:Operand->ak) (e:List (Nat×Operand)):ah->Nat->Option aB
 |.pr a h,d=>
  match(match kq e d with
   |none=>match kw a with
    |some j=>some (⟨a,j⟩:aB)
    |none=>none
   |some c=>match g c with
    |.val f b=>bif a5 a f then some ⟨f,b⟩ else none
    |.cv i=>match hu a i.cells.toList with
     |some b=>some ⟨a,b⟩
     |none=>none
    |_=>none),oq g e h (d+1) with
  |some c,some b=>some ⟨.pr c.1 b.1,(c.2,b.2)⟩
  |_,_=>none
 |.nil,_=>some ⟨.nil,()⟩
 |_,_=>none
def kN:List (Nat×Operand)->Nat->Bool
 |[],_=>true
 |q::b,a=>Nat.ble a q.1&&kN b (q.1+1)
def eW:ah->Nat
 |.pr _ a=>eW a+1
 |_=>0
theorem Ep:∀{e:List (Nat×Operand)} {d:Nat},kN e d=true->∀b∈e,d<=b.1
 |[],_,_,b,a=>by cases a
 |x::e,d,a,b,c=>by
  simp only[kN,bg] at a;rcases dh.1 c with rfl|c
  ·exact eT a.1
  ·have:=Ep a.2 b c;have:=eT a.1;omega
theorem Es:∀{b:List (Nat×Operand)} {d:Nat},kN b d=true->b.Pairwise λc f=>c.1<f.1
 |[],_,_=>List.Pairwise.nil
 |x::b,d,a=>by simp only[kN,bg] at a;exact List.Pairwise.cons (λc e=>by have:=Ep a.2 c e;omega) (Es a.2)
theorem xL {e:Type}:∀{d:List (Nat×e)} {b:Nat} {c:e},al d b=some c->(b,c)∈d
 |[],_,_,a=>by cases a
 |(g,v0)::r,b,c,a=>by
  rw[bY] at a;split at a
  ·rename_i f;subst f;cases a;simp
  ·exact e0 _ (xL a)
theorem EL {g:Type}:∀{e:List (Nat×g)} {d:Nat},al e d=none->∀c∈e,c.1≠d
 |[],_,_,c,a=>by cases a
 |(h,v0)::r,d,b,c,a=>by
  rw[bY] at b;split at b
  ·cases b
  ·rename_i f;rcases dh.1 a with rfl|a
   ·exact f
   ·exact EL b c a
theorem pM {j:Program}:∀{u:ah} {l:List Field} {e:Nat} {h:abU},hn j u l e h->∀d,d<eW u->∃f g,dU u d=some (f,g)
 |.pr a i,k::n,e,h,c,0,_=>⟨_,_,rfl⟩
 |.pr a i,k::n,e,h,c,d+1,b=>by obtain⟨f,g,m⟩:=pM (u:=i) c.2.2.2.2 d (by simp only[eW] at b;omega);exact⟨.snd::f,g,by simp[dU,m]⟩
 |.pr _ _,[],_,_,c,_,_=>c.elim
 |.int _,_,_,_,_,_,b=>by simp[eW] at b
 |.bool,_,_,_,_,_,b=>by simp[eW] at b
 |.str,_,_,_,_,_,b=>by simp[eW] at b
 |.a6 _ _,_,_,_,_,_,b=>by simp[eW] at b
 |.osl _,_,_,_,_,_,b=>by simp[eW] at b
 |.ptr _ _,_,_,_,_,_,b=>by simp[eW] at b
 |.optr _,_,_,_,_,_,b=>by simp[eW] at b
 |.st _,_,_,_,_,_,b=>by simp[eW] at b
 |.nil,_,_,_,_,_,b=>by simp[eW] at b
 |.de,_,_,_,_,_,b=>by simp[eW] at b
theorem sN:∀{u:ah} {e d:Nat} {s s':List aV} {t t':ah},dU u e=some (s,t)->dU u d=some (s',t')->e<d->dx u e+t.size<=dx u d
 |.pr a f,0,d+1,s,s',t,t',b,c,_=>by simp only[dU,bH,fv] at b;obtain⟨_,rfl⟩:=b;simp[dx]
 |.pr a f,e+1,d+1,s,s',t,t',b,c,k=>by
  simp only[dU] at b c;cases g:dU f e with
  |none=>rw[g] at b;cases b
  |some i=>
   cases h:dU f d with
   |none=>rw[h] at c;cases c
   |some j=>
    rw[g] at b;rw[h] at c;simp only[bH,fv] at b c;obtain⟨_,rfl⟩:=b;obtain⟨_,rfl⟩:=c;have:=sN (u:=f) (s:=i.1) (t:=i.2) (s':=j.1) (t':=j.2) g h U;simp only[dx];omega
 |.int _,_,_,_,_,_,_,b,_,_=>by cases b
 |.bool,_,_,_,_,_,_,b,_,_=>by cases b
 |.str,_,_,_,_,_,_,b,_,_=>by cases b
 |.a6 _ _,_,_,_,_,_,_,b,_,_=>by cases b
 |.osl _,_,_,_,_,_,_,b,_,_=>by cases b
 |.ptr _ _,_,_,_,_,_,_,b,_,_=>by cases b
 |.optr _,_,_,_,_,_,_,b,_,_=>by cases b
 |.st _,_,_,_,_,_,_,b,_,_=>by cases b
 |.nil,_,_,_,_,_,_,b,_,_=>by cases b
 |.de,_,_,_,_,_,_,b,_,_=>by cases b
theorem D8:∀{u:ah} {c:Nat} {s:List aV} {t:ah},dU u c=some (s,t)->c<eW u
 |.pr a d,0,_,_,_=>by simp[eW]
 |.pr a d,c+1,s,t,b=>by
  simp only[dU] at b;split at b
  ·rename_i e f;have:=D8 (u:=d) (s:=e.1) (t:=e.2) f;simp only[eW];omega
  ·cases b
 |.int _,_,_,_,b=>by cases b
 |.bool,_,_,_,b=>by cases b
 |.str,_,_,_,b=>by cases b
 |.a6 _ _,_,_,_,b=>by cases b
 |.osl _,_,_,_,b=>by cases b
 |.ptr _ _,_,_,_,b=>by cases b
 |.optr _,_,_,_,b=>by cases b
 |.st _,_,_,_,b=>by cases b
 |.nil,_,_,_,b=>by cases b
 |.de,_,_,_,b=>by cases b
theorem Er:∀{d:List (Nat×Operand)} {e:Nat} {b:Nat×Operand},kN d e=true->b∈d->kq d b.1=some b.2
 |[],_,_,_,a=>by cases a
 |x::d,e,b,a,c=>by
  simp only[kN,bg] at a;obtain⟨f,g⟩:=x;unfold kq;rw[bY];rcases dh.1 c with rfl|c
  ·rw[if_pos rfl]
  ·have:=Ep a.2 b c;simp only at this;rw[if_neg U];exact Er a.2 c
section
variable {E:dY} {C:dA} {st:aH} {a:Act} {w:World} {I:Nat->Prop} {rt:Nat->abU} {fp:Nat->ab0} {o:Oper} {Q:ak->List (Nat×aB)->Prop}
def wl (tt:List (TypeId×ah)) (e:Operand->ak) (d:TypeId) (a:List (Nat×Operand)):gI:=
 match j1 tt d with
 |none=>.bad
 |some c=>bif kN a 0&&a.all (λf=>Nat.blt f.1 (eW c)) then match oq e a c 0 with
  |some b=>.du (.val (.st b.1) b.2) []
  |none=>.bad
  else .bad
theorem Kj {G:Program} {k:dd->Nat->Prop} {b:List (Nat×aB)} {z:Operand->ak} {j:Operand->Value} (C:∀e,bG k w b rt fp (z e) (j e)) {parts:List (Nat×Operand)} {cells:abU}:∀{u:ah} {n:Nat} {H:List Field} {off:Nat} {zs:abU} {i:aB},hn G u H off zs->oq z parts u n=some i->cells.length=off+u.size->(∀d y f,dU u d=some (y,f)->(∀e,kq parts (n+d)=some e->(j e).cells.size=f.size/\(cells.drop (off+dx u d)).take f.size=(j e).cells.toList)/\(kq parts (n+d)=none->(cells.drop (off+dx u d)).take f.size=(zs.drop (dx u d)).take f.size))->aN k w i.1 (cells.drop off) i.2 []/\i.1.size=u.size
 |.pr a o,n,T::ab,off,zs,i,B,h,t,r=>by
  simp only[oq] at h;split at h
  case h_2=>cases h
  rename_i e am c M;cases h;obtain⟨V,A,W,⟨X,an,ar,P,Q⟩,I⟩:=B;have s:=r 0 _ a rfl;simp only[jM,dx,ml] at s;have q:aN k w e.1 ((cells.drop off).take a.size) e.2 []/\e.1.size=a.size:=by
   split at c
   ·rename_i v;split at c
    ·rename_i ap O;cases c;obtain⟨Y,av,E,F,_,aU⟩:=tF A O;rw[ar] at E;cases E;rw[P] at F;cases F;rw[s.2 v,Q];exact⟨aU k w,rfl⟩
    ·cases c
   ·rename_i m v;have g:=C m;obtain⟨Z,D⟩:=s.1 m v;split at c
    ·rename_i f S p;cases l:a5 a f with
     |false=>rw[l] at c;cases c
     |true=>
      rw[l] at c;cases c;rw[p] at g;rw[D];generalize L:j m=R at g;cases g with|val x=>
      rw[nB (A.lay l) x.len x.one];exact⟨x,(a5.size l).symm⟩
    ·rename_i R p;split at c
     ·rename_i S N;cases c;rw[p] at g;rw[D];generalize L:j m=ad at g;cases g;exact⟨n6 N,rfl⟩
     ·cases c
    ·cases c
  have J:=Kj C (parts:=parts) (cells:=cells) (u:=o) (n:=n+1) (off:=off+a.size) (zs:=zs.drop a.size) I M (by rw[t];simp only[ah.size];omega) (by
   intro d y f K;have:=r (d+1) (.snd::y) f (by simp[dU,K]);simp only[dx] at this;rw[(U:n+(d+1)=n+1+d),(U:off+(a.size+dx o d)=off+a.size+dx o d)] at this;rw[oU];exact this)
  refine⟨⟨[],[],rfl,?_,?_⟩,by simp only[ah.size];omega⟩
  ·rw[q.2];exact q.1
  ·rw[q.2,oU];exact J.1
 |.nil,n,[],off,zs,i,B,h,t,r=>by cases h;exact⟨⟨rfl,by rw[List.drop_eq_nil_iff];simp only[ah.size] at t;omega⟩,rfl⟩
 |.pr _ _,_,[],_,_,_,b,_,_,_=>b.elim
 |.nil,_,_::_,_,_,_,b,_,_,_=>b.elim
 |.int _,_,_,_,_,_,b,_,_,_=>by cases b
 |.bool,_,_,_,_,_,b,_,_,_=>by cases b
 |.str,_,_,_,_,_,b,_,_,_=>by cases b
 |.a6 _ _,_,_,_,_,_,b,_,_,_=>by cases b
 |.osl _,_,_,_,_,_,b,_,_,_=>by cases b
 |.ptr _ _,_,_,_,_,_,b,_,_,_=>by cases b
 |.optr _,_,_,_,_,_,b,_,_,_=>by cases b
 |.st _,_,_,_,_,_,b,_,_,_=>by cases b
 |.de,_,_,_,_,_,b,_,_,_=>by cases b
theorem Kk {A:Program} {o:dd->Nat->Prop} {b:List (Nat×aB)} {p:Operand->ak} {i:Operand->Value} (q:∀c,bG o w b rt fp (p c) (i c)) {t:List (Nat×Operand)}:∀{u:ah} {n:Nat} {C:List Field} {s:Nat} {z:abU} {y:aB},hn A u C s z->oq p t u n=some y->∀f x h,dU u f=some (x,h)->∀c,kq t (n+f)=some c->(i c).cells.size=h.size
 |.pr a B,n,N::T,s,z,y,F,l,f,x,h,d,c,r=>by
  simp only[oq] at l;split at l
  case h_2=>cases l
  rename_i W X e I;obtain⟨O,D,P,⟨Q,Y,ar,R,S⟩,E⟩:=F;cases f with
  |zero=>
   simp only[dU,bH,fv] at d;obtain⟨_,rfl⟩:=d;rw[jM] at r;rw[r] at e;have g:=q c;simp only at e;split at e
   ·rename_i h L j;cases k:a5 a h with
    |false=>rw[k] at e;cases e
    |true=>
     rw[j] at g;generalize H:i c=K at g;cases g with|val m=>
     rw[nB (D.lay k) m.len m.one];have:=m.len;have:=a5.size k;simp;omega
   ·rename_i K j;split at e
    ·rename_i L J;rw[j] at g;generalize H:i c=V at g;cases g;have:=(n6 (M:=o) (w:=w) J).len;simpa using this
    ·cases e
   ·cases e
  |succ f=>
   simp only[dU] at d;split at d
   ·rename_i v G;simp only[bH,fv] at d;obtain⟨_,rfl⟩:=d;exact Kk q (u:=B) (n:=n+1) E I f v.1 v.2 G c (by rwa[(U:n+1+f=n+(f+1))])
   ·cases d
 |.pr _ _,_,[],_,_,_,b,_,_,_,_,_,_,_=>b.elim
 |.nil,_,_,_,_,_,_,_,_,_,_,d,_,_=>by cases d
 |.int _,_,_,_,_,_,b,_,_,_,_,_,_,_=>by cases b
 |.bool,_,_,_,_,_,b,_,_,_,_,_,_,_=>by cases b
 |.str,_,_,_,_,_,b,_,_,_,_,_,_,_=>by cases b
 |.a6 _ _,_,_,_,_,_,b,_,_,_,_,_,_,_=>by cases b
 |.osl _,_,_,_,_,_,b,_,_,_,_,_,_,_=>by cases b
 |.ptr _ _,_,_,_,_,_,b,_,_,_,_,_,_,_=>by cases b
 |.optr _,_,_,_,_,_,b,_,_,_,_,_,_,_=>by cases b
 |.st _,_,_,_,_,_,b,_,_,_,_,_,_,_=>by cases b
 |.de,_,_,_,_,_,b,_,_,_,_,_,_,_=>by cases b
theorem run_places {P:Program} (w:World):∀(e:ah) (i:List Field) (d:Nat) (g:abU),hn P e i d g->(i.mapM λf=>do Pure.pure (f.offset,<-sizeOf f.type):Sem ab2).run P w=.ok ((List.range (eW e)).map λc=>(d+dx e c,match dU e c with|some k=>k.2.size|none=>0)) w
 |.pr a h,f::l,d,g,b=>by have j:=run_places w h l (d+a.size) (g.drop a.size) b.2.2.2.2;simp only[List.mapM_cons,Sem.run_bind,b.2.1.sizeOf,Result.andThen_ok,Sem.run_pure,j];simp only[eW,List.range_succ_eq_map,er,qg,b.1,dx,jM,dU];congr 2;apply hU;intro c _;simp only[Function.comp,dx,dU];rw[m9];cases dU h c<;>rfl
 |.nil,[],_,_,_=>rfl
 |.pr _ _,[],_,_,b=>b.elim
 |.nil,_::_,_,_,b=>b.elim
 |.int _,_,_,_,b=>by cases b
 |.bool,_,_,_,b=>by cases b
 |.str,_,_,_,b=>by cases b
 |.a6 _ _,_,_,_,b=>by cases b
 |.osl _,_,_,_,b=>by cases b
 |.ptr _ _,_,_,_,b=>by cases b
 |.optr _,_,_,_,b=>by cases b
 |.st _,_,_,_,b=>by cases b
 |.de,_,_,_,b=>by cases b
theorem Sq (am:bE C st a.tmps w I rt fp) {k:Array (Nat×Operand)} (co:o.op=.build G k) (f:(wl E.tt (aO st.g) G k.toList).K Q):Yields E C st a w I rt fp o Q:=by
 unfold wl at f;split at f
 ·exact f.elim
 rename_i b J;cases r:(kN k.toList 0&&k.toList.all (λc=>Nat.blt c.1 (eW b))) with
 |false=>rw[r] at f;exact f.elim
 |true=>
  rw[r] at f;simp only[bg,eM] at r;obtain⟨X,H⟩:=r;simp only[cond_true] at f;split at f
  case h_2=>exact f.elim
  rename_i ed an;obtain⟨m,p,i,a0,em,a3,a4,q,ad⟩:∃m p i,E.P.info? G=some m/\m.size=b.size/\m.zero=some (.agg i)/\E.P.underlying G=some (.struct p)/\hn E.P b p.toList 0 i.toList/\i.size=b.size:=by
   unfold j1 at J;split at J
   ·rename_i fT bl;cases J;obtain⟨_,m,p,i,ar,d0,_,d1,d2,d3,d4⟩:=E.ok G _ bl;exact⟨m,p,i,ar,d0,d1,d2,d3,d4⟩
   ·cases J
  have S:=Kk (λe=>am.aO e) q an;have R:=run_places (P:=E.P) w b p.toList 0 i.toList q;simp only[ip] at R S;generalize c1:((List.range (eW b)).map λj=>(dx b j,match dU b j with|some c=>c.2.size|none=>0))=V at R;have z:∀j F l,dU b j=some (F,l)->j<eW b->V.toArray[j]?=some (dx b j,l.size):=(by intro j F l d ce;rw[<-c1];simp[ce,d]);obtain⟨N,d5,d6,d7,aU⟩:=xx (λm=>V.toArray[m]?) (k.toList.map λc=>(c.1,a.eval c.2)) i (by
   intro c A;obtain⟨h,y,rfl⟩:=bT.1 A;have x:h.1<eW b:=eT (H h y);obtain⟨F,l,d⟩:=pM q h.1 x;refine⟨_,_,z _ _ _ d x,S _ _ _ d h.2 ?_,by rw[ad];exact uS d⟩;exact Er X y) (by
   rw[qh];refine(Es X).imp_of_mem ?_;intro c W A dl x ds d8 fn fs aj Y;have D:c.1<eW b:=eT (H c A);have av:W.1<eW b:=eT (H W dl);obtain⟨d9,ek,s⟩:=pM q c.1 D;obtain⟨ft,fz,r⟩:=pM q W.1 av;rw[z _ _ _ s D] at aj;rw[z _ _ _ r av] at Y;cases aj;cases Y;exact .inl (sN s r x))
  have ex:N.toList.length=b.size:=(by simp[d6,ad]);obtain⟨ab,el⟩:=Kj (w:=w) (λe=>am.aO e) (parts:=k.toList) (cells:=N.toList) (u:=b) (n:=0) (off:=0) q an U (by
   intro M F l d;have bs:M<eW b:=D8 d;simp only[ip];have eq:=uS d;refine⟨λe L=>?_,λL=>?_⟩
   ·have bB:=xL L;have T:=S M F l d e L;refine⟨T,?_⟩;apply gY;intro B;rcases bb B l.size with t|t
    ·obtain⟨O,ap⟩:∃O,(a.eval e).cells[B]?=some O:=⟨_,vJ U⟩;have:=aU (M,a.eval e) (bT.2 ⟨(M,e),bB,rfl⟩) _ _ (z _ _ _ d bs) B O ap;rw[k3 t,iG];simp only[tG];rw[this,ap]
    ·rw[fu (by simp;omega),fu (by simp;omega)]
   ·apply gY;intro B;rcases bb B l.size with t|t
    ·rw[k3 t,k3 t,iG,iG];simp only[tG];refine d7 _ ?_;intro c A ds d8 aj;obtain⟨h,y,rfl⟩:=bT.1 A;have ci:=EL L h y;have D:h.1<eW b:=eT (H h y);obtain⟨d9,ek,s⟩:=pM q h.1 D;rw[z _ _ _ s D] at aj;cases aj;rcases Nat.lt_or_gt_of_ne ci with x|bd
     ·have:=sN s d x;omega
     ·have:=sN d s bd;omega
    ·rw[fu (by simp;omega),fu (by simp;omega)])
  rw[ml] at ab;refine .pure (v:=.agg N) ?_ (.val (τ:=.st ed.1) (cs:=N.toList) ab) f;have c2:(Array.map (λe=>(e.fst,a.eval e.snd)) k).toList=k.toList.map λc=>(c.1,a.eval c.2):=ac;have cv:(p.mapM λZ=>do Pure.pure (Z.offset,<-sizeOf Z.type):Sem (Array cZ)).run E.P w=.ok V.toArray w:=(by rw[Array.mapM_eq_mapM_toList,Sem.run_map,R];rfl);have T:(zeroValue G).run E.P w=.ok (.agg i) w:=(by simp[zeroValue,typeInfo,a0,a3]);simp only[execOp,co,Instr.build,Sem.run_bind,T,run_underlying a4,Result.andThen_ok,cv,c2,Value.cells,d5];rfl
end
end
section
def en {α:Type}:List (Int×α)->Int->Option α
 |[],_=>none
 |(a,v)::r,k=>if a=k then some v else en r k
def hk {α:Type}:List (Int×α)->Int->α->List (Int×α)
 |[],k,v=>[(k,v)]
 |(a,u)::r,k,v=>if k<a then(k,v)::(a,u)::r else if k=a then(k,v)::r else(a,u)::hk r k v
def hO {α:Type} (l:List (Int×α)) (a:Int):List (Int×α):=l.filter λb=>decide (b.1≠a)
def iS {α:Type} (b:Option (List (Int×α)×Nat)) (a:Int):Option α:=b.bind λc=>en c.1 a
def u7 {α:Type} (a:Option (List (Int×α)×Nat)):Int:=match a with|some b=>(b.1.length:Int)|none=>0
section
variable {α:Type}
theorem BA:∀{l:List (Int×α)} {c:Int} {d:α},en l c=some d->(c,d)∈l
 |[],_,_,b=>by cases b
 |(a,u)::r,c,d,b=>by
  simp only[en] at b;split at b
  ·rename_i e;cases b;subst e;exact iH ..
  ·exact e0 _ (BA b)
theorem J9:∀{l:List (Int×α)} {d:Int},en l d=none->∀e,(d,e)∉l
 |[],_,_,_=>by simp
 |(a,u)::r,d,b,e=>by
  simp only[en] at b;split at b
  ·cases b
  ·rename_i f;intro g;rcases dh.1 g with c|c
   ·cases c;exact f rfl
   ·exact J9 b e c
theorem MH {l:List (Int×α)} (a:l.Pairwise (λc b=>c.1<b.1)):(l.map (·.1)).Nodup:=by rw[List.Nodup,qh];exact a.imp (λa d=>by omega)
theorem VO {l:List (Int×α)} (b:(l.map (·.1)).Nodup) {d:α}:en l S=some d↔(S,d)∈l:=by
 constructor
 ·exact BA
 ·intro c
  induction l with
  |nil=>cases c
  |cons f h e=>
   obtain⟨g,i⟩:=f;simp only[er,jn] at b;simp only[en];rcases dh.1 c with a|a
   ·cases a;rw[if_pos rfl]
   ·rw[if_neg,e b.2 a];rintro rfl;exact b.1 (bT.2 ⟨_,a,rfl⟩)
theorem Ka:∀{l:List (Int×α)} {d:Int} {e:α} {c:Int×α},c∈hk l d e->c=(d,e)\/c∈l
 |[],d,e,c,b=>by simpa[hk] using b
 |(a,u)::r,d,e,c,b=>by
  simp only[hk] at b;split at b
  ·rcases dh.1 b with b|b
   ·exact .inl b
   ·exact .inr b
  ·split at b
   ·rcases dh.1 b with b|b
    ·exact .inl b
    ·exact .inr (e0 _ b)
   ·rcases dh.1 b with b|b
    ·exact .inr (b▸iH ..)
    ·exact(Ka b).imp id (e0 _)
theorem ER:∀{l:List (Int×α)} {d:Int} {f:α},l.Pairwise (λc b=>c.1<b.1)->(hk l d f).Pairwise (λc b=>c.1<b.1)
 |[],d,f,_=>by simp[hk]
 |(c,u)::r,d,f,h=>by
  rw[lF] at h;simp only[hk];split
  ·rename_i i;rw[lF,lF];refine⟨λe a=>?_,h.1,h.2⟩;rcases dh.1 a with rfl|a
   ·exact i
   ·have:=h.1 e a;simp only at this|-;omega
  ·rename_i i;split
   ·rename_i g;subst g;rw[lF];exact⟨h.1,h.2⟩
   ·rename_i g;rw[lF];refine⟨λe a=>?_,ER h.2⟩;rcases Ka a with rfl|a
    ·simp only;omega
    ·exact h.1 e a
theorem VM {l:List (Int×α)} (c:l.Pairwise (λa b=>a.1<b.1)):(hO l S).Pairwise (λa b=>a.1<b.1):=c.filter _
theorem EQ:∀{l:List (Int×α)} {k:Int} {v:α},l.Pairwise (λa b=>a.1<b.1)->(hk l k v).Perm ((k,v)::hO l k)
 |[],k,v,_=>by simp[hk,hO]
 |(a,u)::r,k,v,h=>by
  rw[lF] at h;simp only[hk];split
  ·rename_i f;have:hO ((a,u)::r) k=(a,u)::r:=by
    unfold hO;rw[mm];intro d c;rcases dh.1 c with rfl|c
    ·simp;omega
    ·have:=h.1 d c;simp only at this;simp;omega
   rw[this]
  ·rename_i f;split
   ·rename_i e;subst e;have:hO ((k,u)::r) k=r:=by
     unfold hO;rw[iD,if_neg ac,mm];intro d c;have:=h.1 d c;simp only at this;simp;omega
    rw[this]
   ·rename_i e;have:hO ((a,u)::r) k=(a,u)::hO r k:=by
     unfold hO;rw[iD,if_pos (by simp;omega)]
    rw[this];exact((EQ h.2).cons _).trans (.swap _ _ _)
end
section
variable {P:Program} {w:World} {b:Nat} {B:Array MapEntry} {c:Nat}
theorem l1:hA w b=some (B,c)↔w.heap[b]?=some (.map B c):=by
 unfold hA;constructor
 ·intro a;split at a
  ·rename_i f e d;cases a;exact d
  ·cases a
 ·intro a;rw[a]
theorem oA (a:w.heap[b]?=some (.map B c)):(setObj b (.map t h)).run P w=.ok () {w with heap:=w.heap.setIfInBounds b (.map t h)}:=by simp[setObj,Sem.run,a]
theorem run_getObj_map (a:w.heap[b]?=some (.map B c)):(getObj b).run P w=.ok (.map B c) w:=by simp[getObj,Sem.run,a]
theorem I3 {j:IntKind} (b:Int):∀(B:List MapEntry) (c:ab1) (d:Nat),B.map (·.key)=c.map (Value.int .i64)->b∉c->Instr.findNow (.int j) (.int .i64 b) B d=some none
 |[],_,_,_,_=>rfl
 |e::B,[],_,a,_=>by cases a
 |e::B,g::c,d,a,f=>by simp only[er,fY] at a;have i:(b==g)=false:=(by simp;rintro rfl;exact f ac);simp only[Instr.findNow,a.1,Instr.sameNow,if_true,i];exact I3 b B c (d+1) a.2 (λh=>f (e0 _ h))
theorem I4 {kd:IntKind} (b:Int):∀(B:List MapEntry) (d:ab1) (f:Nat),B.map (·.key)=d.map (Value.int .i64)->b∈d->∃c e,d[c]?=some b/\B[c]?=some e/\Instr.findNow (.int kd) (.int .i64 b) B f=some (some (f+c,e.val))
 |[],[],_,_,a=>by cases a
 |[],_::_,_,a,_=>by cases a
 |e::B,[],_,a,_=>by cases a
 |e::B,h::d,f,a,m=>by
  simp only[er,fY] at a;by_cases g:b=h
  ·subst g;refine⟨0,e,rfl,rfl,?_⟩;simp only[Instr.findNow,a.1,Instr.sameNow,if_true,beq_self_eq_true];rfl
  ·have n:(b==h)=false:=(by simpa using g);obtain⟨c,i,j,k,l⟩:=I4 b B d (f+1) a.2 ((dh.1 m).resolve_left g);refine⟨c+1,i,by simpa using j,by simpa using k,?_⟩;simp only[Instr.findNow,a.1,Instr.sameNow,if_true,n];rw[l];simp only[bH,fv,and_true];omega
structure fI (M:dd->Nat->Prop) (w:World) (t:ah) (b:Nat) (l:List (Int×t.den)) (c:Nat) (uO:Array MapEntry) (L:List (Int×Nat×t.den)):Prop where
 nu:i4 L l c
 h:w.heap[b]?=some (.map uO c)
 n:uO.size=L.length
 e:∀(i:Nat) (q:Int×Nat×t.den),L[i]?=some q->∃ds:abU,ds.length=t.size/\uO[i]?=some (MapEntry.mk (.int .i64 q.1) (bL t ds) q.2.1)/\aN M w t ds q.2.2 []
variable {M:dd->Nat->Prop} {t:ah} {l:List (Int×t.den)} {L:List (Int×Nat×t.den)}
theorem fI.keys (f:fI M w t b l c B L):B.toList.map (·.key)=(L.map (·.1)).map (Value.int .i64):=by
 apply gY;intro d;simp only[eN,tG];rcases bb d L.length with a|a
 ·obtain⟨h,_,g,_⟩:=f.e d L[d] (be a);rw[g,be a];rfl
 ·rw[fu a,Array.getElem?_eq_none (by rw[f.n];exact a)];rfl
theorem i4.keys {α:Type} {L:List (Int×Nat×α)} {l:List (Int×α)} {c:Nat} (a:i4 L l c):(L.map (·.1)).Perm (l.map (·.1)):=by have:=a.2.1.map (·.1);rwa[qg] at this
theorem i4.vg {α:Type} {L:List (Int×Nat×α)} {l:List (Int×α)} {c:Nat} (a:i4 L l c):(L.map (·.1)).Nodup:=a.keys.nodup_iff.2 (MH a.1)
theorem i4.mem {α:Type} {L:List (Int×Nat×α)} {l:List (Int×α)} {c:Nat} (b:i4 L l c) {a:Int×Nat×α} (d:a∈L):en l a.1=some a.2.2:=
 (VO (MH b.1)).2 (b.2.1.mem_iff.1 (bT.2 ⟨a,d,rfl⟩))
theorem i4.len {α:Type} {L:List (Int×Nat×α)} {l:List (Int×α)} {c:Nat} (a:i4 L l c):L.length=l.length:=by have:=a.2.1.length_eq;simpa using this
theorem F2 {P:Program} {w:World} (d:P.underlying a=some (.int u)) {B:List MapEntry} {b:Option (Nat×Value)} (c:Instr.findNow (.int u) (.int .i64 S) B 0=some b):(Instr.findKey a (.int .i64 S) B).run P w=.ok b w:=by simp only[Instr.findKey,Sem.run_bind,run_underlying d,Result.andThen_ok,c];rfl
theorem mR {P:Program} {w:World} (c:P.underlying a=some (.int u)) (b:Bool) (e:Nat) (d:Int):(Instr.checkKey b (e+1) a (.int .i64 d)).run P w=.ok () w:=by simp[Instr.checkKey,Sem.run_bind,run_underlying c]
theorem fI.find (j:fI M w t b l c B L) (v:P.underlying a=some (.int u)) (d:Int):(en l d=none/\(∀o∈L,o.1≠d)/\∀f,(Instr.findKey a (.int .i64 d) B.toList).run P f=.ok none f)\/∃h m i g,en l d=some i/\L[h]?=some (d,m,i)/\g.length=t.size/\B[h]?=some ⟨.int .i64 d,bL t g,m⟩/\aN M w t g i []/\∀f,(Instr.findKey a (.int .i64 d) B.toList).run P f=.ok (some (h,bL t g)) f:=by
 by_cases k:d∈L.map (·.1)
 ·obtain⟨h,q,r,s,z⟩:=I4 (kd:=u) d B.toList _ 0 j.keys k;rw[eN] at r;obtain⟨⟨D,m,i⟩,n,rfl⟩:=eb.1 r;obtain⟨g,x,p,y⟩:=j.e h _ n;rw[tG,p] at s;cases s;refine .inr ⟨h,m,i,g,j.nu.mem (kA n),n,x,p,y,λf=>F2 v ?_⟩;rw[z,ip]
 ·refine .inl ⟨?_,λo C q=>k (bT.2 ⟨o,C,q⟩),λf=>F2 v (I3 d _ _ 0 j.keys k)⟩;cases A:en l d with
  |none=>rfl
  |some i=>exact absurd (j.nu.keys.mem_iff.2 (bT.2 ⟨_,BA A,rfl⟩)) k
theorem fI.empty (M:dd->Nat->Prop) (t:ah) (a:w.heap[b]?=some (.map #[] 0)):fI M w t b [] 0 #[] []:=
 ⟨⟨.nil,.refl _,.nil,ac⟩,a,rfl,ac⟩
def s9 {α:Type} (L:List (Int×Nat×α)) (a:Int) (d:α) (c:Nat):List (Int×Nat×α)×Nat:=
 if a∈L.map (·.1) then(L.map λb=>if b.1=a then(a,b.2.1,d) else b,c) else(L++[(a,c,d)],c+1)
theorem LH {α:Type} {d:Int} {i:α}:∀{b:List (Int×α)},(b.map (·.1)).Nodup->d∈b.map (·.1)->(b.map λc=>if c.1=d then(d,i) else c).Perm ((d,i)::hO b d)
 |[],_,e=>by cases e
 |(a,u)::b,e,j=>by
  simp only[er,jn] at e;simp only[er];by_cases f:a=d
  ·subst f;rw[if_pos rfl];have l:(b.map λc=>if c.1=a then(a,i) else c)=b:=by
    conv=>rhs;rw[<-List.map_id b]
    refine hU λc h=>?_;rw[if_neg];rfl;rintro rfl;exact e.1 (bT.2 ⟨c,h,rfl⟩)
   have g:hO ((a,u)::b) a=b:=(by unfold hO;rw[iD,if_neg ac,mm];intro c h;simp only[decide_eq_true_eq];rintro rfl;exact e.1 (bT.2 ⟨c,h,rfl⟩));rw[l,g]
  ·rw[if_neg f];have g:hO ((a,u)::b) d=(a,u)::hO b d:=by
    unfold hO;rw[iD,if_pos (by simpa using f)]
   rw[g];refine((LH e.2 ?_).cons _).trans (.swap _ _ _);simp only[er,dh] at j;exact j.resolve_left (λk=>f k.symm)
theorem i4.put {α:Type} {L:List (Int×Nat×α)} {l:List (Int×α)} {c:Nat} (e:i4 L l c) (d:Int) (h:α):i4 (s9 L d h c).1 (hk l d h) (bif (en l d).isSome then c else c+1)/\(s9 L d h c).2=(bif (en l d).isSome then c else c+1):=by
 have j:(en l d).isSome=decide (d∈L.map (·.1)):=by
  by_cases g:d∈L.map (·.1)
  ·obtain⟨a,f,rfl⟩:=bT.1 g;rw[e.mem f,decide_eq_true g];rfl
  ·rw[decide_eq_false g];cases j:en l d with
   |none=>rfl
   |some v=>exact absurd (e.keys.mem_iff.2 (bT.2 ⟨_,BA j,rfl⟩)) g
 rw[j];unfold s9;have p:((L.map λa=>(a.1,a.2.2)).filter λa=>decide (a.1≠d)).Perm (hO l d):=e.2.1.filter _;by_cases g:d∈L.map (·.1)
 ·rw[if_pos g,decide_eq_true g];refine⟨⟨ER e.1,?_,?_,?_⟩,rfl⟩
  ·have aj:((L.map λa=>if a.1=d then(d,a.2.1,h) else a).map λa=>(a.1,a.2.2))=(L.map λa=>(a.1,a.2.2)).map λa=>if a.1=d then(d,h) else a:=by
    simp only[qg];refine hU λa _=>?_;simp only[Function.comp];by_cases i:a.1=d
    ·rw[if_pos i,if_pos i]
    ·rw[if_neg i,if_neg i]
   show((L.map λa=>if a.1=d then(d,a.2.1,h) else a).map λa=>(a.1,a.2.2)).Perm _;rw[aj];refine(LH ?_ ?_).trans ((p.cons _).trans (EQ e.1).symm)
   ·rw[qg];exact e.vg
   ·rw[qg];exact g
  ·have aj:((L.map λa=>if a.1=d then(d,a.2.1,h) else a).map λa=>a.2.1)=L.map λa=>a.2.1:=by
    rw[qg];refine hU λa _=>?_;simp only[Function.comp];split<;>rfl
   show((L.map λa=>if a.1=d then(d,a.2.1,h) else a).map λa=>a.2.1).Nodup;rw[aj];exact e.2.2.1
  ·intro a f;obtain⟨r,q,rfl⟩:=bT.1 f;have:=e.2.2.2 r q;show _<c;split<;>exact this
 ·rw[if_neg g,decide_eq_false g];refine⟨⟨ER e.1,?_,?_,?_⟩,rfl⟩
  ·have m:hO l d=l:=by
    unfold hO;rw[mm];intro a f;simp only[decide_eq_true_eq];rintro rfl;exact g (e.keys.mem_iff.2 (bT.2 ⟨a,f,rfl⟩))
   have:=EQ (k:=d) (v:=h) e.1;rw[m] at this;refine List.Perm.trans ?_ this.symm;show((L++[(d,c,h)]).map λa=>(a.1,a.2.2)).Perm _;rw[fZ];exact List.perm_append_comm.trans ((e.2.1).cons _)
  ·show((L++[(d,c,h)]).map λa=>a.2.1).Nodup;rw[fZ,iJ];refine⟨e.2.2.1,ac,λs n b o i=>?_⟩;obtain⟨a,f,rfl⟩:=bT.1 n;have:=e.2.2.2 a f;simp at o;omega
  ·intro a f;rcases eH.1 f with f|f
   ·have:=e.2.2.2 a f;show _<c+1;omega
   ·simp at f;subst f;exact v9 _
theorem IZ {α:Type} {j:Int}:∀{c:List α} (b:α->Int) {g:Nat} {d:α},(c.map b).Nodup->c[g]?=some d->b d=j->c.eraseIdx g=c.filter λi=>decide (b i≠j)
 |[],b,g,d,_,a,_=>by simp at a
 |x::c,b,0,d,e,a,f=>by simp only[iY,bH] at a;subst a;simp only[er,jn] at e;rw[List.eraseIdx_cons_zero,iD,if_neg (by simpa using f),mm.2];intro i k;simp only[decide_eq_true_eq];intro h;exact e.1 (bT.2 ⟨i,k,h.trans f.symm⟩)
 |x::c,b,g+1,d,e,a,f=>by simp only[o1] at a;simp only[er,jn] at e;rw[List.eraseIdx_cons_succ,iD,if_pos,IZ b e.2 a f];simp only[decide_eq_true_eq];intro h;exact e.1 (bT.2 ⟨d,kA a,f.trans h.symm⟩)
theorem i4.del {α:Type} {L:List (Int×Nat×α)} {l:List (Int×α)} {c:Nat} (b:i4 L l c) (d:Int):i4 (L.filter λa=>decide (a.1≠d)) (hO l d) c:=by
 refine⟨VM b.1,?_,?_,λa e=>b.2.2.2 a (fc.1 e).1⟩
 ·have:=b.2.1.filter (λa=>decide (a.1≠d));rw[List.filter_map] at this;exact this
 ·exact b.2.2.1.sublist (List.filter_sublist.map _)
theorem aN.Ko (a:fI M w t b l c B L):aN M w (.mp t) [.map (some b)] (some (l,c)) [b]:=⟨b,B,L,rfl,rfl,a.nu,l1.2 a.h,a.n,a.e⟩
theorem aN.Kn (a:aN M w (.mp t) g (some (l,c)) m):∃b B L,g=[.map (some b)]/\m=[b]/\fI M w t b l c B L:=by obtain⟨b,B,L,d,e,f,h,i,j⟩:=a;exact⟨b,B,L,d,e,f,l1.1 h,i,j⟩
theorem aN.abt {a:dd} (d:aN M w (.dJ a t) g (some (l,c)) m):∃b B L,g=[.map (some b)]/\m=[]/\M a b/\fI M w t b l c B L:=by obtain⟨b,B,L,e,f,h,n,i,j,k⟩:=d;exact⟨b,B,L,e,f,n,h,l1.1 i,j,k⟩
def e9 (w:World) (b:Nat) (B:Array MapEntry) (c:Nat):World:={w with heap:=w.heap.setIfInBounds b (.map B c)}
theorem ma {es':Array MapEntry} {c':Nat} (a:w.heap[b]?=some (.map B c)):(e9 w b es' c').heap[b]?=some (.map es' c'):=by have:=(md.1 a).1;simp[e9,this]
theorem yo {c:Array MapEntry} (d:h≠b):(e9 w b c O).heap[h]?=w.heap[h]?:=by simp only[e9];rw[CK (λa=>d a.symm)]
theorem Mx {a:Array MapEntry}:(e9 w b a h).heap.size=w.heap.size:=by simp[e9]
theorem aak {es':Array MapEntry} {c':Nat} (e:w.heap[b]?=some (.map B c)) (a:Addr):(e9 w b es' c').cell? a=w.cell? a:=by
 by_cases d:a.block=b
 ·unfold World.cell?;rw[d,ma e,e]
 ·exact World.cell?_of_block (yo d)
theorem aal {es':Array MapEntry} {c':Nat} (e:w.heap[b]?=some (.map B c)) (a:Addr):(e9 w b es' c').frozen? a=w.frozen? a:=by
 by_cases d:a.block=b
 ·unfold World.frozen?;rw[d,ma e,e]
 ·exact World.frozen?_of_block (yo d)
theorem Co {a:Array MapEntry} (c:h≠b):bU w (e9 w b a O) h:=.of_heap (yo c)
theorem fI.update (f:fI M w t b l c B L) {Z:TypeId} (V:P.underlying G=some (.map a Z)) (R:P.underlying a=some (.int u)) (d:Int) {q:t.den} (X:g.length=t.size) (Y:aN M w t g q []):∃y ab,(Instr.mapUpdate G (.map (some b)) (.int .i64 d) (bL t g)).run P w=.ok () (e9 w b y (bif (en l d).isSome then c else c+1))/\(∀{E:dd->Nat->Prop},(∀x d,M x d->E x d/\d≠b)->fI E (e9 w b y (bif (en l d).isSome then c else c+1)) t b (hk l d q) (bif (en l d).isSome then c else c+1) y ab)/\jj w (e9 w b y (bif (en l d).isSome then c else c+1)) b:=by
 have I:∀{E:dd->Nat->Prop} {y:Array MapEntry} {ad:Nat},(∀x d,M x d->E x d/\d≠b)->∀{g:abU} {q:t.den},aN M w t g q []->aN E (e9 w b y ad) t g q []:=
  λs _ _ bB=>bB.mono (λx d A=>⟨(s x d A).1,Co (s x d A).2⟩) ac
 obtain⟨v,cs⟩:=f.nu.put d q;rcases f.find (P:=P) R d with⟨Q,z,U⟩|⟨D,cv,c1,ci,Q,z,U,H,co,av⟩
 ·rw[Q] at v|-;have A:d∉L.map (·.1):=λa0=>(by obtain⟨m,bs,o⟩:=bT.1 a0;exact z m bs o);simp only[Option.isSome_none,cond_false] at v|-;have aj:(s9 L d q c).1=L++[(d,c,q)]:=(by unfold s9;rw[if_neg A]);rw[aj] at v;refine⟨B.push ⟨.int .i64 d,bL t g,c⟩,L++[(d,c,q)],?_,λs=>⟨v,ma f.h,by simp[f.n],λk m p=>?_⟩,?_⟩
  ·simp only[Instr.mapUpdate,Sem.run_bind,run_underlying V,Result.andThen_ok,run_getObj_map f.h,mR R,U];exact oA f.h
  ·rcases bb k L.length with S|S
   ·rw[nO S] at p;obtain⟨O,J,K,N⟩:=f.e k m p;exact⟨O,J,by rw[vK,if_neg (by rw[f.n];omega)];exact K,I s N⟩
   ·rw[o0 S] at p;have a3:k-L.length=0:=by
     have:=(ey.1 p).1;simp at this;omega
    rw[a3] at p;simp only[iY,bH] at p;subst p;exact⟨g,X,by rw[vK,if_pos (by rw[f.n];omega)],I s Y⟩
  ·intro ap am F;rw[l1.2 f.h] at F;cases F;refine⟨_,_,l1.2 (ma f.h),Nat.le_succ _,λk o r W=>?_⟩;rw[vK] at r;split at r
   ·cases r;exact absurd W (Nat.lt_irrefl _)
   ·exact⟨k,o,r,rfl,rfl⟩
 ·rw[Q] at v|-;have A:d∈L.map (·.1):=bT.2 ⟨_,kA z,rfl⟩;simp only[yR,cond_true] at v|-;have aj:(s9 L d q c).1=L.map λm=>if m.1=d then(d,m.2.1,q) else m:=by unfold s9;rw[if_pos A]
  rw[aj] at v;have ce:∀(k:Nat) (m:Int×Nat×t.den),L[k]?=some m->m.1=d->k=D:=λk m p o=>(by have bl:=f.nu.vg;have a4:k<(L.map (·.1)).length:=(by have:=(ey.1 p).1;simpa using this);have:=List.getElem?_inj a4 bl (i:=k) (j:=D);apply this.1;rw[eN,eN,p,z];simp[o]);refine⟨B.modify D λo=>{o with key:=.int .i64 d,val:=bL t g},L.map λm=>if m.1=d then(d,m.2.1,q) else m,?_,λs=>⟨v,ma f.h,by simp[f.n],λk m p=>?_⟩,?_⟩
  ·have bd:(Instr.keyThatStays (((B[D]?).map (·.key)).getD (.int .i64 d)) (.int .i64 d)).run P w=.ok (.int .i64 d) w:=by
    rw[H];simp[Instr.keyThatStays,Instr.sameBits]
   simp only[Instr.mapUpdate,Sem.run_bind,run_underlying V,Result.andThen_ok,run_getObj_map f.h,mR R,av,bd];exact oA f.h
  ·rw[eN] at p;obtain⟨T,C,rfl⟩:=eb.1 p;by_cases o:T.1=d
   ·obtain rfl:=ce k T C o;rw[z] at C;cases C;simp only[if_true];exact⟨g,X,by rw[p6,if_pos rfl,H];rfl,I s Y⟩
   ·rw[if_neg o];obtain⟨O,J,K,N⟩:=f.e k T C;refine⟨O,J,?_,I s N⟩;rw[p6,if_neg,K];rintro rfl;rw[z] at C;cases C;exact o rfl
  ·intro ap am F;rw[l1.2 f.h] at F;cases F;refine⟨_,_,l1.2 (ma f.h),aY _,λk o r W=>?_⟩;rw[p6] at r;split at r
   ·rename_i an;subst an;rw[H] at r;simp only[fe,bH] at r;subst r;exact⟨D,_,H,rfl,rfl⟩
   ·exact⟨k,o,r,rfl,rfl⟩
theorem fI.delete (d:fI M w t b l c B L) {S:TypeId} (O:P.underlying G=some (.map a S)) (F:P.underlying a=some (.int u)) (f:Int) (an:TypeId) (U:TypeId):∃o T,(Builtin.delete_ #[G,U] an #[.map (some b),.int .i64 f]).run P w=.ok (.tuple #[]) (e9 w b o c)/\(∀{r:dd->Nat->Prop},(∀i f,M i f->r i f/\f≠b)->fI r (e9 w b o c) t b (hO l f) c o T)/\jj w (e9 w b o c) b:=by
 have I:∀{r:dd->Nat->Prop} {o:Array MapEntry} {V:Nat},(∀i f,M i f->r i f/\f≠b)->∀{J:abU} {R:t.den},aN M w t J R []->aN r (e9 w b o V) t J R []:=
  λk _ _ am=>am.mono (λi f Q=>⟨(k i f Q).1,Co (k i f Q).2⟩) ac
 rcases d.find (P:=P) F f with⟨K,D,N⟩|⟨m,a0,a3,ap,K,D,N,E,av,Z⟩
 ·have aj:hO l f=l:=by
   unfold hO;rw[mm];intro j ad;simp only[decide_eq_true_eq];rintro rfl;exact J9 K j.2 ad
  refine⟨B,L,?_,λk=>⟨by rw[aj];exact d.nu,ma d.h,d.n,λg j q=>?_⟩,?_⟩
  ·simp only[Builtin.delete_,Sem.run_bind,run_underlying O,Result.andThen_ok,run_getObj_map d.h,mR F,N,List.getElem?_toArray,iY,o1];rw[oA d.h];rfl
  ·obtain⟨y,s,v,x⟩:=d.e g j q;exact⟨y,s,v,I k x⟩
  ·intro Y W A;rw[l1.2 d.h] at A;cases A;exact⟨_,_,l1.2 (ma d.h),aY _,λg C p _=>⟨g,C,p,rfl,rfl⟩⟩
 ·have X:L.eraseIdx m=L.filter λj=>decide (j.1≠f):=IZ (·.1) d.nu.vg D rfl;refine⟨B.eraseIdxIfInBounds m,L.eraseIdx m,?_,λk=>⟨by rw[X];exact d.nu.del f,ma d.h,?_,λg j q=>?_⟩,?_⟩
  ·simp only[Builtin.delete_,Sem.run_bind,run_underlying O,Result.andThen_ok,run_getObj_map d.h,mR F,Z,List.getElem?_toArray,iY,o1];rw[oA d.h];rfl
  ·have z:m<B.size:=(md.1 E).1;have ab:m<L.length:=(ey.1 D).1;rw[Array.eraseIdxIfInBounds,dif_pos z,Array.size_eraseIdx,List.length_eraseIdx,if_pos ab,d.n]
  ·have z:m<B.size:=(md.1 E).1;rw[List.getElem?_eraseIdx] at q;rw[Array.eraseIdxIfInBounds,dif_pos z];split at q
   ·rename_i H;obtain⟨y,s,v,x⟩:=d.e g j q;exact⟨y,s,by rw[Array.getElem?_eraseIdx,if_pos H];exact v,I k x⟩
   ·rename_i H;obtain⟨y,s,v,x⟩:=d.e (g+1) j q;exact⟨y,s,by rw[Array.getElem?_eraseIdx,if_neg H];exact v,I k x⟩
  ·intro Y W A;rw[l1.2 d.h] at A;cases A;refine⟨_,_,l1.2 (ma d.h),aY _,λg C p _=>?_⟩;have z:m<B.size:=(md.1 E).1;rw[Array.eraseIdxIfInBounds,dif_pos z,Array.getElem?_eraseIdx] at p;split at p
   ·exact⟨g,C,p,rfl,rfl⟩
   ·exact⟨g+1,C,p,rfl,rfl⟩
end
end
section
section
variable {E:dY} {C:dA} {st:aH} {a:Act} {w:World} {I:Nat->Prop} {rt:Nat->abU} {fp:Nat->ab0} {o:Oper} {Q:ak->List (Nat×aB)->Prop}
def jE (tt:List (TypeId×ah)) (b:TypeId):Option ah:=match al tt b with|some (.mp a)=>some a|some (.dJ _ a)=>some a|_=>none
theorem jE.ok {d:TypeId} {i:ah} (c:jE E.tt d=some i):∃a b,E.P.underlying d=some (.map a b)/\E.P.underlying a=some (.int .i64)/\dM E.P i b:=by
 unfold jE at c;split at c
 ·rename_i k h;cases c;obtain⟨j,a,b,_,_,_,_,e,f,g⟩:=E.ok d _ h;exact⟨a,b,e,f,g⟩
 ·rename_i l k h;cases c;obtain⟨j,a,b,_,_,_,_,e,f,g⟩:=E.ok d _ h;exact⟨a,b,e,f,g⟩
 ·cases c
def vc (tt:List (TypeId×ah)) (d:List (Nat×ah)) (e:List (Nat×aB)) (a:Nat) (c:TypeId):gI:=
 match jE tt c,al d a,al e a with
 |some f,some (.mp b),none=>bif a5 f b then .du (.ref a []) [(a,⟨.mp b,some ([],0)⟩)] else .bad
 |_,_,_=>.bad
theorem Wa (f:bE C st a.tmps w I rt fp) (l:o.op=.makeMap G none) (b:(vc E.tt j st.h c G).K Q):Yields E C st a w I rt fp o Q:=by
 unfold vc at b;split at b
 case h_2=>exact b.elim
 rename_i m d p q g;cases e:a5 m d with
 |false=>rw[e] at b;exact b.elim
 |true=>
 rw[e] at b;have i:(w.alloc (.map #[] 0)).heap[w.heap.size]?=some (.map #[] 0):=(by show(w.heap.push _)[w.heap.size]?=_;rw[vK,if_pos rfl]);refine⟨.map (some w.heap.size),w.alloc (.map #[] 0),I,λ_=>[.map (some w.heap.size)],λ_=>[w.heap.size],.ref c [],[(c,⟨.mp d,some ([],0)⟩)],?_,.alloc w _,λ_ b=>b,λ_ b=>.inl b,.one g (aN.Ko (fI.empty _ _ i)) ac (λn e=>?_),?_,b⟩
 ·simp[execOp,l,Instr.makeMap,newObj,Sem.run]
 ·simp only[eS] at e;subst e;exact⟨aY _,ac,λb=>by have:=f.ib _ (.inl b);omega⟩
 ·have k:al ([(c,(⟨.mp d,some ([],0)⟩:aB))]++st.h) c=some ⟨.mp d,some ([],0)⟩:=(by rw[yN,bY,if_pos rfl]);refine .ref (t:=⟨.mp d,some ([],0)⟩) (τ':=.mp d) (loc:=none) (cs:=[.map (some w.heap.size)]) k ?_;have:dG [(c,(⟨.mp d,some ([],0)⟩:aB))] (λ_=>[Value.map (some w.heap.size)]) rt c=[.map (some w.heap.size)]:=(by simp[dG,bY]);rw[this];exact aP.here
def Bv (a:ah) (c:Option (List (Int×a.den)×Nat)) (d:a.den) (b:Int):Bool->ak
 |true=>.dC [.val a ((iS c b).getD d),.val .bool (iS c b).isSome]
 |false=>.val a ((iS c b).getD d)
def s2 (tt:List (TypeId×ah)) (j:List (Nat×aB)) (i:TypeId) (k c:ak) (f:Bool):gI:=
 match jE tt i,c with
 |some h,.val (.int .i64) c=>match k with
  |.val (.dJ l a) b=>match kw a with
   |some d=>bif a5 h a then .du (Bv a b d c f) [] else .bad
   |none=>.bad
  |.ref id g=>match al j id with
   |some e=>match dO e.1 g with
    |some (.mp a)=>match kw a with
     |some d=>bif a5 h a then .part (Option (List (Int×a.den)×Nat)) (λb=>db e.1 e.2 g (.mp a) b) (λb=>(Bv a b d c f,[])) else .bad
     |none=>.bad
    |_=>.bad
   |none=>.bad
  |_=>.bad
 |_,_=>.bad
theorem J4 {p l:TypeId} (t:E.P.underlying p=some (.map G l)) (f:E.P.underlying G=some (.int .i64)) (R:dM E.P d l) {e:Bool} (U:o.op=.lookup p b i e) {n:Int} (T:a.eval i=.int .i64 n) {x:d.den} (W:kw d=some x) {m:Option (List (Int×d.den)×Nat)} (g:(m=none/\a.eval b=.map none)\/∃q u r A z,m=some (u,r)/\a.eval b=.map (some q)/\fI (bc I C.B) w d q u r A z):∃v,(execOp a.eval o).run E.P w=.ok (.value v) w/\∀D:List (Nat×aB),bG (bc I C.B) w D rt fp (Bv d m x n e) v:=by
 obtain⟨J,y,ar,Y,K,L⟩:=tF R W;have H:(zeroValue l).run E.P w=.ok y w:=(by simp[zeroValue,typeInfo,ar,Y]);have X:∃j,aN (bc I C.B) w d j ((iS m n).getD x) []/\(Instr.lookup p (a.eval b) (.int .i64 n) e).run E.P w=.ok (if e then .tuple #[bL d j,.bool (iS m n).isSome] else bL d j) w:=by
  rcases g with⟨rfl,g⟩|⟨q,u,r,A,z,rfl,g,s⟩
  ·refine⟨y.cells.toList,by simpa[iS] using L _ _,?_⟩;rw[g];have S:(Instr.findKey G (.int .i64 n) []).run E.P w=.ok none w:=F2 f rfl;simp only[Instr.lookup,Sem.run_bind,run_underlying t,Result.andThen_ok,Sem.run_pure,mR f,S,H];rw[<-K];cases e<;>rfl
  ·rw[g];rcases s.find (P:=E.P) f n with⟨c,_,N⟩|⟨am,an,ap,M,c,_,ab,ad,O,Q⟩
   ·refine⟨y.cells.toList,by simpa[iS,c] using L _ _,?_⟩;simp only[Instr.lookup,Sem.run_bind,run_underlying t,Result.andThen_ok,Sem.run_pure,run_getObj_map s.h,mR f,N,H];rw[<-K];simp only[iS,aG,c,Option.isSome_none]
   ·refine⟨M,by simpa[iS,c] using O,?_⟩;simp only[Instr.lookup,Sem.run_bind,run_underlying t,Result.andThen_ok,Sem.run_pure,run_getObj_map s.h,mR f,Q];simp only[iS,aG,c,yR]
 obtain⟨j,F,V⟩:=X;refine⟨_,by simp only[execOp,U,T,Sem.run_bind,V];rfl,λD=>?_⟩;cases e with
 |false=>exact .val F
 |true=>
  refine .dC ac (λJ Z v c k=>?_)
  match J with
  |0=>simp at c k;subst c;subst k;exact .val F
  |1=>simp at c k;subst c;subst k;exact .bool _
  |n+2=>simp at c
theorem aN.EZ {e:Option (List (Int×d.den)×Nat)} (j:aN f w (.mp d) g e m):(e=none/\g=[.map none]/\m=[])\/∃a c b i h,e=some (c,b)/\g=[.map (some a)]/\m=[a]/\fI f w d a c b i h:=by
 cases e with
 |none=>exact .inl ⟨rfl,j.2,j.1⟩
 |some o=>
  obtain⟨c,b⟩:=o;obtain⟨a,i,h,k,l,n⟩:=j.Kn;exact .inr ⟨a,c,b,i,h,rfl,k,l,n⟩
theorem aN.No {e:Option (List (Int×d.den)×Nat)} (j:aN f w (.dJ P d) g e m):(e=none/\g=[.map none])\/∃a c b i h,e=some (c,b)/\g=[.map (some a)]/\fI f w d a c b i h:=by
 cases e with
 |none=>exact .inl ⟨rfl,j.2⟩
 |some n=>
  obtain⟨c,b⟩:=n;obtain⟨a,i,h,k,_,_,l⟩:=j.abt;exact .inr ⟨a,c,b,i,h,rfl,k,l⟩
theorem VH (s:bE C st a.tmps w I rt fp) {J:Bool} (D:o.op=.lookup G b i J) (c:(s2 E.tt st.h G (aO st.g b) (aO st.g i) J).K Q):Yields E C st a w I rt fp o Q:=by
 have f:=s.aO b;have t:=s.aO i;unfold s2 at c;split at c
 case h_2=>exact c.elim
 rename_i O a0 R P;obtain⟨ad,am,L,M,N⟩:=jE.ok R;rw[P] at t;generalize B:a.eval i=av at t;cases t with|val W=>
 obtain⟨_,rfl⟩:=W;split at c
 ·rename_i ab A x r;split at c
  case h_2=>exact c.elim
  rename_i Z u;cases e:a5 O A with
  |false=>rw[e] at c;exact c.elim
  |true=>
  rw[e] at c;rw[r] at f;generalize j:a.eval b=Y at f;cases f with|val V=>
  obtain⟨X,y,z⟩:=J4 (rt:=rt) (fp:=fp) (I:=I) (C:=C) (E:=E) (w:=w) (a:=a) (m:=x) L M (N.lay e) D B u (by
   rcases V.No with⟨aj,d⟩|⟨l,v,n,q,k,aj,d,p⟩
   ·exact .inl ⟨aj,by rw[j,d];rfl⟩
   ·exact .inr ⟨l,v,n,q,k,aj,by rw[j,d];rfl,p⟩)
  exact .pure y (z _) c
 ·rename_i id a3 r;split at c
  case h_2=>exact c.elim
  rename_i a4 F;split at c
  case h_2=>exact c.elim
  rename_i A ap;split at c
  case h_2=>exact c.elim
  rename_i Z u;cases e:a5 O A with
  |false=>rw[e] at c;exact c.elim
  |true=>
  rw[e] at c;obtain⟨x,S,c⟩:=c;rw[r] at f;generalize j:a.eval b=Y at f;cases f with|ref H T=>
  rw[F] at H;cases H;obtain⟨rfl,an,U,_⟩:=s.jB F S T;obtain⟨X,y,z⟩:=J4 (rt:=rt) (fp:=fp) (I:=I) (C:=C) (E:=E) (w:=w) (a:=a) (m:=x) L M (N.lay e) D B u (by
   rcases U.EZ with⟨aj,d,_⟩|⟨l,v,n,q,k,aj,d,_,p⟩
   ·exact .inl ⟨aj,by rw[j,d];rfl⟩
   ·exact .inr ⟨l,v,n,q,k,aj,by rw[j,d];rfl,p⟩)
  exact .pure y (z _) c
 ·exact c.elim
def s7 (tt:List (TypeId×ah)) (f:List (Nat×aB)) (e:TypeId) (g:ak):gI:=
 match jE tt e with
 |none=>.bad
 |some _=>match g with
  |.val (.dJ _ b) a=>.du (.val (.int .i64) (u7 (α:=b.den) a)) []
  |.ref id d=>match al f id with
   |some c=>match dO c.1 d with
    |some (.mp b)=>.part (Option (List (Int×b.den)×Nat)) (λa=>db c.1 c.2 d (.mp b) a) (λa=>(.val (.int .i64) (u7 a),[]))
    |_=>.bad
   |none=>.bad
  |_=>.bad
theorem Kl {q r:TypeId} (l:E.P.underlying G=some (.map q r)) (p:o.op=.call {callee:=.builtin .len,args:=#[b],argTypes:=#[G]}) {m:Option (List (Int×d.den)×Nat)} (c:(m=none/\a.eval b=.map none)\/∃f e g i k,m=some (e,g)/\a.eval b=.map (some f)/\fI (bc I C.B) w d f e g i k):(execOp a.eval o).run E.P w=.ok (.value (.int .i64 (u7 m))) w:=by
 rcases c with⟨rfl,c⟩|⟨f,e,g,i,k,rfl,c,j⟩
 ·simp[execOp,p,resolve,invoke,builtin,c,Builtin.len_,run_underlying l,goInt,u7]
 ·have s:i.size=e.length:=(by rw[j.n,j.nu.len]);simp only[execOp,p,resolve,invoke,builtin,Sem.run_bind,Sem.run_pure,Result.andThen_ok,vZ,er,List.map_nil,c,Builtin.len_,List.getElem?_toArray,iY,run_underlying l,run_getObj_map j.h,goInt,u7,s]
theorem Wc (s:bE C st a.tmps w I rt fp) (t:o.op=.call {callee:=.builtin .len,args:=#[b],argTypes:=#[G]}) (c:(s7 E.tt st.h G (aO st.g b)).K Q):Yields E C st a w I rt fp o Q:=by
 have e:=s.aO b;unfold s7 at c;split at c
 ·exact c.elim
 rename_i S y;obtain⟨J,L,x,P,R⟩:=jE.ok y;generalize f:a.eval b=T at e;split at c
 ·rename_i H F r p;rw[p] at e;cases e with|val D=>
  refine .pure (Kl (I:=I) (C:=C) (m:=r) x t ?_) (.int _ _) c;rcases D.No with⟨aj,d⟩|⟨j,q,k,n,i,aj,d,l⟩
  ·exact .inl ⟨aj,by rw[f,d];rfl⟩
  ·exact .inr ⟨j,q,k,n,i,aj,by rw[f,d];rfl,l⟩
 ·rename_i id O p;split at c
  case h_2=>exact c.elim
  rename_i U u;split at c
  case h_2=>exact c.elim
  rename_i F N;obtain⟨r,z,c⟩:=c;rw[p] at e;cases e with|ref v A=>
  rw[u] at v;cases v;obtain⟨rfl,M,B,_⟩:=s.jB u z A;refine .pure (Kl (I:=I) (C:=C) (m:=r) x t ?_) (.int _ _) c;rcases B.EZ with⟨aj,d,_⟩|⟨j,q,k,n,i,aj,d,_,l⟩
  ·exact .inl ⟨aj,by rw[f,d];rfl⟩
  ·exact .inr ⟨j,q,k,n,i,aj,by rw[f,d];rfl,l⟩
 ·exact c.elim
end
end
section
section
variable {E:dY} {C:dA} {st:aH} {a:Act} {w:World} {I:Nat->Prop} {rt:Nat->abU} {fp:Nat->ab0} {o:Oper} {Q:ak->List (Nat×aB)->Prop}
def B5 (b c d:ak):gI:=
 match b with
 |.val .bool b=>.part Bool (λa=>b=a) (λa=>(match a with|true=>c|false=>d,[]))
 |_=>.bad
theorem Zb (e:bE C st a.tmps w I rt fp) {d:Operand} (j:o.op=.pick b i d) (c:(B5 (aO st.g b) (aO st.g i) (aO st.g d)).K Q):Yields E C st a w I rt fp o Q:=by
 have f:=e.aO b;unfold B5 at c;split at c
 case h_2=>exact c.elim
 rename_i h l;obtain⟨h,rfl,c⟩:=c;rw[l] at f;generalize k:a.eval b=n at f;cases f with|val m=>
 obtain⟨_,rfl⟩:=m;cases h
 ·exact .pure (v:=a.eval d) (by simp[execOp,j,k,bL,asBool]) (e.aO d) c
 ·exact .pure (v:=a.eval i) (by simp[execOp,j,k,bL,asBool]) (e.aO i) c
def Gs (e:UnOp) (c:ak):gI:=
 match e,c with
 |.neg,.val (.int a) c=>.part Int (λb=>a.wrap (0-c)=b) (λb=>(.val (.int a) b,[]))
 |.xor,.val (.int a) c=>.part Int (λb=>a.wrap (BitVec.ofInt a.bits (if a.signed then-1 else a.max)^^^BitVec.ofInt a.bits c).toNat=b) (λb=>(.val (.int a) b,[]))
 |.not,.val .bool d=>.du (.val .bool (!d)) []
 |_,_=>.bad
theorem aa7 (l:bE C st a.tmps w I rt fp) {k:UnOp} (i:o.op=.unOp k G b) (c:(Gs k (aO st.g b)).K Q):Yields E C st a w I rt fp o Q:=by
 have d:=l.aO b;unfold Gs at c;generalize j:a.eval b=p at d;split at c
 ·rename_i f m e;obtain⟨n,rfl,c⟩:=c;rw[e] at d;cases d with|val h=>
  obtain⟨_,rfl⟩:=h;exact .pure (v:=.int f _) (by simp only[execOp,i,j,bL,Op.unary,Op.intArith];rfl) (.int f _) c
 ·rename_i f m e;obtain⟨n,rfl,c⟩:=c;rw[e] at d;cases d with|val h=>
  obtain⟨_,rfl⟩:=h;exact .pure (v:=.int f _) (by simp only[execOp,i,j,bL,Op.unary,Op.intBits];rfl) (.int f _) c
 ·rename_i q e;rw[e] at d;cases d with|val h=>
  obtain⟨_,rfl⟩:=h;exact .pure (v:=.bool _) (by simp only[execOp,i,j,bL,Op.unary];rfl) (.bool _) c
 ·exact c.elim
def zl (tt:List (TypeId×ah)) (e d:TypeId) (a:ak):gI:=
 match al tt e,al tt d,a with
 |some (.int _),some (.int c),.val (.int _) a=>.part Int (λb=>c.wrap a=b) (λb=>(.val (.int c) b,[]))
 |_,_,_=>.bad
theorem Tg (k:bE C st a.tmps w I rt fp) {e:TypeId} (l:o.op=.convert e G b) (c:(zl E.tt e G (aO st.g b)).K Q):Yields E C st a w I rt fp o Q:=by
 have d:=k.aO b;unfold zl at c;split at c
 case h_2=>exact c.elim
 rename_i s f t u i j h;obtain⟨x,rfl,c⟩:=c;generalize m:a.eval b=r at d;rw[h] at d;cases d with|val n=>
 obtain⟨_,rfl⟩:=n;obtain⟨_,_,_,_,_,p⟩:=E.ok e _ i;obtain⟨_,_,_,_,_,q⟩:=E.ok G _ j;exact .pure (v:=.int f _) (by simp[execOp,l,m,bL,convert,run_underlying p,run_underlying q,Conv.intToInt]) (.int f _) c
def oG (c:ByteArray) (a:Int):abV:=if 0<=a then(c[a.toNat]?).map λb=>(b.toNat:Int) else none
def Bt:ByteArray:=⟨#[0,1,2,2,3,3,3,3,4,4,4,4,4,4,4,4,5,5,5,5,5,5,5,5,5,5,5,5,5,5,5,5,6,6,6,6,6,6,6,6,6,6,6,6,6,6,6,6,6,6,6,6,6,6,6,6,6,6,6,6,6,6,6,6,7,7,7,7,7,7,7,7,7,7,7,7,7,7,7,7,7,7,7,7,7,7,7,7,7,7,7,7,7,7,7,7,7,7,7,7,7,7,7,7,7,7,7,7,7,7,7,7,7,7,7,7,7,7,7,7,7,7,7,7,7,7,7,7,8,8,8,8,8,8,8,8,8,8,8,8,8,8,8,8,8,8,8,8,8,8,8,8,8,8,8,8,8,8,8,8,8,8,8,8,8,8,8,8,8,8,8,8,8,8,8,8,8,8,8,8,8,8,8,8,8,8,8,8,8,8,8,8,8,8,8,8,8,8,8,8,8,8,8,8,8,8,8,8,8,8,8,8,8,8,8,8,8,8,8,8,8,8,8,8,8,8,8,8,8,8,8,8,8,8,8,8,8,8,8,8,8,8,8,8,8,8,8,8,8,8,8,8,8,8,8,8]⟩
def Cu (tt:List (TypeId×ah)) (d:TypeId) (f e:ak):gI:=
 match al tt d,f,e with
 |some .str,.cv (.string c),.val (.int _) b=>.part Int (λa=>oG c b=some a) (λa=>(.val (.int .u8) a,[]))
 |some .str,.val .str c,.val (.int _) b=>.part Int (λa=>oG c b=some a) (λa=>(.val (.int .u8) a,[]))
 |_,_,_=>.bad
theorem aaN (y:bE C st a.tmps w I rt fp) (D:o.op=.index G i b) (n:(Cu E.tt G (aO st.g i) (aO st.g b)).K Q):Yields E C st a w I rt fp o Q:=by
 have j:=y.aO i;have h:=y.aO b;have x:∀(f:ByteArray) (k:IntKind) (e c:Int),al E.tt G=some .str->a.eval i=.string f->a.eval b=.int k e->oG f e=some c->Q (.val (.int .u8) c) []->Yields E C st a w I rt fp o Q:=by
  intro f k e c p m l d q;obtain⟨_,_,_,_,_,u⟩:=E.ok G _ p;refine .pure (v:=.int .u8 c) ?_ (.int .u8 c) q;unfold oG at d;split at d
  case isFalse=>cases d
  rename_i A;obtain⟨H,B,rfl⟩:=eb.1 d;simp[execOp,D,Instr.index,m,l,asIntOf,run_underlying u,A,B]
 unfold Cu at n;split at n
 ·rename_i f k e p m l;obtain⟨c,d,q⟩:=n;rw[m] at j;rw[l] at h;generalize s:a.eval i=z at j;generalize r:a.eval b=u at h;cases j;cases h with|val t=>
  obtain⟨_,rfl⟩:=t;exact x f k e c p s r d q
 ·rename_i f k e p m l;obtain⟨c,d,q⟩:=n;rw[m] at j;rw[l] at h;generalize s:a.eval i=z at j;generalize r:a.eval b=u at h;cases j with|val F=>
  obtain⟨_,rfl⟩:=F;cases h with|val t=>
  obtain⟨_,rfl⟩:=t;exact x f k e c p s r d q
 ·exact n.elim
def A5 (d:ak) (c:Nat):gI:=
 match d with
 |.dC b=>match b[c]? with
  |some a=>.du a []
  |none=>.bad
 |_=>.bad
theorem Ul (k:bE C st a.tmps w I rt fp) (n:o.op=.extract b c) (d:(A5 (aO st.g b) c).K Q):Yields E C st a w I rt fp o Q:=by
 have f:=k.aO b;unfold A5 at d;generalize p:a.eval b=q at f;split at d
 case h_2=>exact d.elim
 rename_i s j;split at d
 case h_2=>exact d.elim
 rename_i i h;rw[j] at f;cases f with|dC r l=>
 rename_i e;have m:c<e.size:=(by have:=(ey.1 h).1;omega);have:e[c]?=some e[c]:=vJ m;exact .pure (v:=e[c]) (by simp[execOp,n,p,Instr.extract,this]) (l c i _ h this) d
def vd (c:Bool) (a:ak):List ak->gI
 |[]=>.du a []
 |y::d=>match a,y with
  |.val (.int b) a,.val (.int e) y=>if b=e then(match c with|true=>vd c (.val (.int b) (if y>a then y else a)) d|false=>vd c (.val (.int b) (if y<a then y else a)) d) else .bad
  |_,_=>.bad
theorem BG (j:bE C st a.tmps w I rt fp) (m:Bool):∀(e:List Operand) (i:ak) (f:Value),bG (bc I C.B) w st.h rt fp i f->(vd m i (e.map (aO st.g))).K Q->∃d c,((e.map a.eval).foldlM (match m with|true=>Builtin.max2|false=>Builtin.min2) f).run E.P w=.ok d w/\bG (bc I C.B) w st.h rt fp c d/\Q c []
 |[],i,f,k,b=>⟨f,i,rfl,k,b⟩
 |y::e,i,f,k,b=>by
  have l:=j.aO y;simp only[er,vd] at b;generalize p:a.eval y=A at l;split at b
  case h_2=>exact b.elim
  rename_i q x v z r;split at b
  case isFalse=>exact b.elim
  rename_i s;subst s;rw[r] at l;cases k with|val t=>cases l with|val u=>
  obtain⟨_,rfl⟩:=t;obtain⟨_,rfl⟩:=u;cases m
  ·obtain⟨d,c,ar,n,o⟩:=BG j false e _ _ (.int q _) b;refine⟨d,c,?_,n,o⟩;simp only[er,List.foldlM_cons,p,Sem.run_bind];exact ar
  ·obtain⟨d,c,ar,n,o⟩:=BG j true e _ _ (.int q _) b;refine⟨d,c,?_,n,o⟩;simp only[er,List.foldlM_cons,p,Sem.run_bind];exact ar
def Eu:ak->Bool
 |.val _ _|.cv _|.dt _ _=>true
 |_=>false
def fo (tt:List (TypeId×ah)) (i:List (Nat×ah)) (d:List (Nat×aB)) (b:Operand->ak) (g:Nat) (h:Op):gI:=
 match h with
 |.move a=>.du (b a) []
 |.assign a=>bif Eu (b a) then .du (b a) [] else .bad
 |.pick f a n=>B5 (b f) (b a) (b n)
 |.alloc c=>ub tt i d g c
 |.box c a=>wm tt d g c (b a)
 |.build c l=>wl tt b c l.toList
 |.buildSlice c e l=>uj tt i d b g c e l.toList
 |.load c a=>s1 tt d c (b a)
 |.nilCheck a=>ta d (b a)
 |.binOp h c a n _=>match b a,b n with
  |.val .bool x,.val .bool y=>match al tt c with
   |some .bool=>Dd h (.val .bool x) (.val .bool y)
   |_=>.bad
  |.val (.int k) v,.val (.int s) e=>km h k v s e
  |_,_=>.bad
 |.unOp h _ a=>Gs h (b a)
 |.convert z g a=>zl tt z g (b a)
 |.makeSlice c t f=>s5 tt i d g c (b t) (b f)
 |.slice c a u r none=>ts tt d c (b a) (u.map b) (r.map b)
 |.fieldAddr c a e=>sM tt d c (b a) e
 |.field c a e=>uR tt d c (b a) e
 |.indexAddr c a j=>sV tt d c (b a) (b j)
 |.index c a j=>Cu tt c (b a) (b j)
 |.extract a e=>A5 (b a) e
 |.call f=>match f.callee,f.args.toList,f.argTypes.toList with
  |.builtin .len,[a],[c]=>match e7 tt c with
   |some _=>sZ tt d c (b a)
   |none=>s7 tt d c (b a)
  |.builtin .max,a::m,_=>vd true (b a) (m.map b)
  |.builtin .min,a::m,_=>vd false (b a) (m.map b)
  |_,_,_=>.bad
 |.makeMap c none=>vc tt i d g c
 |.lookup c a k w=>s2 tt d c (b a) (b k) w
 |.makeFunc (.func p) q o=>bif q.isEmpty then .du (.dt p (o.toList.map b)) [] else .bad
 |_=>.bad
theorem TX (e:bE C st a.tmps w I rt fp) (d:(fo E.tt j st.h (aO st.g) c o.op).K Q):Yields E C st a w I rt fp o Q:=by
 unfold fo at d;split at d
 ·rename_i f b;exact .pure (v:=a.eval f) (by simp[execOp,b]) (e.aO f) d
 ·rename_i f b;cases B:Eu (aO st.g f) with
  |false=>rw[B] at d;exact d.elim
  |true=>rw[B] at d;exact .pure (v:=a.eval f) (by simp[execOp,b]) (e.aO f) d
 ·rename_i b;exact Zb e b d
 ·rename_i b;exact RT e b d
 ·rename_i b;exact St e b d
 ·rename_i b;exact Sq e b d
 ·rename_i b;exact Sx e b d
 ·rename_i b;exact VE e b d
 ·rename_i b;exact Wt e b d
 ·rename_i X n f u Y b;split at d
  ·rename_i P R m p;split at d
   ·rename_i M;refine HP e b (λ_ _ _ _=>?_) (by rw[m,p];exact d);exact(E.ok n _ M).choose_spec.2.2.2.2
   ·exact d.elim
  ·rename_i m p;refine HP e b (λP R _ D=>?_) (by rw[m,p];exact d);rw[m] at D;cases D.1
  ·exact d.elim
 ·rename_i b;exact aa7 e b d
 ·rename_i b;exact Tg e b d
 ·rename_i b;exact VS e b d
 ·rename_i b;exact aau e b d
 ·rename_i b;exact Ut e b d
 ·rename_i b;exact Uv e b d
 ·rename_i b;exact U1 e b d
 ·rename_i b;exact aaN e b d
 ·rename_i b;exact Ul e b d
 ·rename_i G b;obtain⟨U,i,x⟩:=G;simp only at d;split at d
  ·rename_i f n aj V;have k:i=#[f]:=(by cases i;simp_all);have J:x=#[n]:=(by cases x;simp_all);subst k;subst J;split at d
   ·exact Vx e b d
   ·exact Wc e b d
  ·rename_i f l aj;have k:i=(f::l).toArray:=(by cases i;simp_all);obtain⟨t,F,ar,r,s⟩:=BG (E:=E) e true l _ _ (e.aO f) d;refine .pure (v:=t) ?_ r s;simp only[execOp,b,resolve,invoke,builtin,Sem.run_bind,Sem.run_pure,Result.andThen_ok,k,Builtin.max_];simp only[vZ,er,ar];rfl
  ·rename_i f l aj;have k:i=(f::l).toArray:=(by cases i;simp_all);obtain⟨t,F,ar,r,s⟩:=BG (E:=E) e false l _ _ (e.aO f) d;refine .pure (v:=t) ?_ r s;simp only[execOp,b,resolve,invoke,builtin,Sem.run_bind,Sem.run_pure,Result.andThen_ok,k,Builtin.min_];simp only[vZ,er,ar];rfl
  ·exact d.elim
 ·rename_i b;exact Wa e b d
 ·rename_i b;exact VH e b d
 ·rename_i L y H b;cases q:y.isEmpty with
  |false=>rw[q] at d;exact d.elim
  |true=>
   rw[q] at d;obtain rfl:y=#[]:=(by simpa using q);refine .pure (v:=.func (.func L) #[] (H.map a.eval)) (by simp[execOp,b,Instr.makeFunc]) (.dt ac (λW f T z A=>?_)) d;rw[eN] at z;rw[Array.getElem?_map] at A;obtain⟨u,N,rfl⟩:=eb.1 z;obtain⟨S,O,rfl⟩:=eb.1 A;obtain rfl:u=S:=(by simpa[O] using N.symm);exact e.aO u
 ·exact d.elim
end
end
def dj (b:Nat) (a:ab0):Bool:=a.any λc=>Nat.beq c b
theorem ep:dj c m=true↔c∈m:=by
 simp only[dj,m5];constructor
 ·rintro⟨d,b,a⟩;rw[<-es a];exact b
 ·exactλa=>⟨c,a,o5 c⟩
def ak.dR (a:ab0) (b:ak):Bool:=b.ids.any λc=>dj c a
def tr:List aV->Option (List aV)
 |.unst::a=>(tr a).map λb=>.unst::b
 |.fst::_=>some [.snd]
 |.snd::_=>some [.fst]
 |_=>none
def pW:List aV->List aV->Option (List aV)
 |p,[]=>tr p
 |.idx _::p,.idx _::a=>pW p a
 |.deref::p,.deref::a=>pW p a
 |.unst::p,.unst::a=>pW p a
 |.fst::p,.fst::a=>pW p a
 |.snd::p,.snd::a=>pW p a
 |_,_=>none
def Ex (a b:List aV):Bool:=fB a b||(pW a b).isSome
theorem ME:∀{p b:List aV},tr p=some b->fB p b=true
 |.unst::p,b,a=>by obtain⟨d,c,rfl⟩:=eb.1 a;exact ME (p:=p) c
 |.fst::_,_,a=>by cases a;rfl
 |.snd::_,_,a=>by cases a;rfl
 |[],_,a=>by cases a
 |.idx _::_,_,a=>by cases a
 |.deref::_,_,a=>by cases a
theorem MD:∀{q p b:List aV},pW p q=some b->fB p (q++b)=true
 |[],p,b,a=>by have c:tr p=some b:=(by cases p<;>exact a);exact ME c
 |s::q,p,b,a=>by
  cases p with
  |nil=>cases s<;>cases a
  |cons d p=>cases s<;>cases d<;>first|(cases a;done)|exact MD (q:=q) (p:=p) a
theorem MF:∀{p e:List aV} {τ h:ah},dO τ p=some h->tr p=some e->∃(o:ah) (m:Nat),∀(i:World) (b:Loc) (g:abU),∃k,aP i τ b g e o (b.map λd=>(d.1,d.2+m)) k
 |.unst::p,e,τ,h,c,a=>by
  obtain⟨q,l,rfl⟩:=eb.1 a;cases τ with
  |st n=>exact MF (p:=p) (τ:=n) c l
  |_=>cases c
 |.fst::p,e,τ,h,c,a=>by
  cases a;cases τ with
  |pr f j=>exact⟨j,f.size,λi b g=>⟨_,aP.here⟩⟩
  |_=>cases c
 |.snd::p,e,τ,h,c,a=>by
  cases a;cases τ with
  |pr f j=>
   refine⟨f,0,λi b g=>⟨g.take f.size,?_⟩⟩;have:(b.map λd=>(d.1,d.2+0))=b:=(by cases b<;>rfl);rw[this];exact aP.here
  |_=>cases c
 |[],_,_,_,_,a=>by cases a
 |.idx _::_,_,_,_,_,a=>by cases a
 |.deref::_,_,_,_,_,a=>by cases a
theorem vB {o:World}:∀{q p d:List aV} {e f:ah} {j:Loc} {i:abU} {g:ah} {k:Loc} {h:abU},dO e p=some f->pW p q=some d->aP o e j i q g k h->∃l,dO g l=some f/\tr l=some d
 |[],p,d,e,f,j,i,g,k,h,c,b,a=>by obtain⟨rfl,_,_⟩:=aP.eX.1 a;have m:tr p=some d:=(by cases p<;>exact b);exact⟨p,c,m⟩
 |s::q,p,d,e,f,j,i,g,k,h,c,b,a=>by
  cases p with
  |nil=>cases s<;>cases b
  |cons n p=>
   cases e<;>cases s<;>simp only[aP] at a<;>cases n<;>first|(cases b;done)|skip
   case osl.idx.idx=>obtain⟨_,_,_,_,_,_,_,_,_,a⟩:=a;exact vB (q:=q) (p:=p) c b a
   case optr.deref.deref=>obtain⟨_,_,_,_,_,_,a⟩:=a;exact vB (q:=q) (p:=p) c b a
   case st.unst.unst=>exact vB (q:=q) (p:=p) c b a
   case pr.fst.fst=>exact vB (q:=q) (p:=p) c b a
   case pr.snd.snd=>exact vB (q:=q) (p:=p) c b a
theorem aP.split {u:World}:∀{q j:List aV} {d k:ah} {g i:Loc} {f h:abU},aP u d g f (q++j) k i h->∃e c b,aP u d g f q e c b/\aP u e c b j k i h
 |[],j,d,k,g,i,f,h,a=>⟨d,g,f,aP.here,a⟩
 |s::q,j,d,k,g,i,f,h,a=>by
  rw[jm] at a;cases d<;>cases s<;>simp only[aP] at a
  case osl.idx=>
   obtain⟨l,t,x,v,m,aj,n,o,w,a⟩:=a;obtain⟨e,c,b,p,r⟩:=aP.split (q:=q) a;exact⟨e,c,b,⟨l,t,x,v,m,aj,n,o,w,p⟩,r⟩
  case optr.deref=>
   obtain⟨l,t,m,aj,n,o,a⟩:=a;obtain⟨e,c,b,p,r⟩:=aP.split (q:=q) a;exact⟨e,c,b,⟨l,t,m,aj,n,o,p⟩,r⟩
  case st.unst=>exact aP.split (q:=q) a
  case pr.fst=>exact aP.split (q:=q) a
  case pr.snd=>exact aP.split (q:=q) a
theorem aP.upper {f D:List aV} (A:dO d f=some Q) (m:pW f l=some D) (b:aP e d none B l q (some (c,h)) g) (z:∀(l:List aV) (q:ah) (p:Loc) (g:abU),fB f l=true->aP e d none B l q p g->aP n d none B l q p g):∃s,aP n d none B l q (some (c,h)) s:=by
 obtain⟨J,u,v⟩:=vB A m b;obtain⟨L,I,k⟩:=MF u v;obtain⟨F,w⟩:=k e (some (c,h)) g;obtain⟨K,o,i,j,x⟩:=aP.split (z _ _ _ _ (MD m) (b.append w));have aj:=j.ty;rw[b.ty] at aj;obtain rfl:=dV aj;obtain⟨G,y⟩:=k n o i;obtain⟨_,a,_⟩:=x.iu y;cases o with
 |none=>cases a
 |some E=>
  obtain⟨r,C⟩:=E;simp only[fe,bH,fv] at a;obtain⟨t,H⟩:=a;obtain rfl:c=r:=t;obtain rfl:h=C:=U;exact⟨i,j⟩
def j0 (c:List (Nat×List aV)):ak->Bool
 |.ref id []=>c.any λa=>Nat.beq a.1 id
 |.ref id b=>c.any λa=>Nat.beq a.1 id&&fB a.2 b
 |.addr id b=>c.any λa=>Nat.beq a.1 id&&Ex a.2 b
 |.view id b _ _=>c.any λa=>Nat.beq a.1 id&&fB a.2 b
 |_=>false
def h1 (c:ab0) (b:List (Nat×List aV)):ak->Bool
 |.dt _ f=>f.all λa=>!(a.dR c)||j0 b a
 |.app id h _ _ g=>(g.all λe=>!(dj e c))&&b.any λd=>Nat.beq d.1 id&&jx d.2 h
 |a=>j0 b a
def dB (b:ab0) (c:List (Nat×List aV)) (a:ak):ak:=bif a.dR b&&!(h1 b c a) then .dead else a
def ej (b:ab0) (c:List (Nat×List aV)):ak->ak
 |.dC d=>.dC (d.map (dB b c))
 |a=>dB b c a
def kill (b:ab0) (d:List (Nat×List aV)) (c:List (Nat×ak)):List (Nat×ak):=c.map λa=>(a.1,ej b d a.2)
def del (a:ab0) (b:List (Nat×aB)):List (Nat×aB):=b.filter λc=>!(dj c.1 a)
theorem Bp (a:List aV):fB [] a=false:=by cases a<;>simp[fB,nt]
def uZ (b:ab0):List (Nat×List aV):=b.map λa=>(a,[])
theorem ns (c:ab0) (e:List (Nat×List aV)):∀(d:List (Nat×ak)) (b:Nat),gt (kill c e d) b=ej c e (gt d b)
 |[],b=>by simp[kill,gt,al,ej,dB,ak.dR,ak.ids]
 |(f,a)::d,b=>by
  show gt ((f,ej c e a)::kill c e d) b=_;rw[hz,hz];split
  ·rfl
  ·exact ns c e d b
theorem j2 (b:ab0):∀(d:List (Nat×aB)) (a:Nat),al (del b d) a=if a∈b then none else al d a
 |[],a=>by simp[del,al]
 |(e,t)::d,a=>by
  have g:=j2 b d a;simp only[del] at g|-;rw[iD];cases f:dj e b with
  |true=>
   have:e∈b:=ep.1 f;simp only[gG,Bool.false_eq_true,if_false];rw[g,bY];by_cases c:e=a
   ·subst c;rw[if_pos this,if_pos this]
   ·rw[if_neg c]
  |false=>
   have:e∉b:=λd=>(by rw[ep.2 d] at f;cases f);simp only[hR,if_true];rw[bY,bY,g];by_cases c:e=a
   ·subst c;rw[if_pos rfl,if_pos rfl,if_neg this]
   ·rw[if_neg c,if_neg c]
theorem Gu (a:R.dR m=false):∀id∈R.ids,id∉m:=λid c b=>by have:R.dR m=true:=(by simp only[ak.dR,m5];exact⟨id,c,ep.2 b⟩);rw[a] at this;cases this
structure lJ (C:dA) (st:aH) (w w':World) (I I':Nat->Prop) (rt:Nat->abU) (fp:Nat->ab0) (S:ab0) (JM:List (Nat×List aV)) (new:List (Nat×aB)) (rtn:Nat->abU) (fpn:Nat->ab0):Prop where
 size:w.heap.size<=w'.heap.size
 os:w'.os=w.os
 tape:w'.tape=w.tape
 output:w'.output=w.output
 heap:∀b,b<w.heap.size->(∀id∈S,∀t,al st.h id=some t->b∉fp id)->w'.heap[b]?=w.heap[b]?
 evo:∀b,b<w.heap.size->jj w w' b
 i:∀b,I b->I' b
 i2:∀b,I' b->I b\/(b<w'.heap.size/\(w.heap.size<=b\/∃id∈S,∃t,al st.h id=some t/\b∈fp id))
 tree:∀id t,al new id=some t->(id∈S\/al st.h id=none)/\aN (bc I' C.B) w' t.1 (rtn id) t.2 (fpn id)/\(fpn id).Nodup/\∀b∈fpn id,¬I' b/\b<w'.heap.size/\(w.heap.size<=b\/∃Jv∈S,∃t',al st.h Jv=some t'/\b∈fp Jv)
 dis:∀i j t u,al new i=some t->al new j=some u->i≠j->∀b∈fpn i,b∉fpn j
 keep:∀e∈JM,∀t,al st.h e.1=some t->∃t',al new e.1=some t'/\t'.1=t.1/\rtn e.1=rt e.1/\(∃abA,dO t.1 e.2=some abA)/\∀(q:List aV) (Nx:ah) (J8:Loc) (In:abU),fB e.2 q=true->aP w t.1 none (rt e.1) q Nx J8 In->aP w' t.1 none (rt e.1) q Nx J8 In
 app:∀e∈JM,∀t,al st.h e.1=some t->∀(q:List aV) (τ:ah) (xs:List τ.den) (loc:Loc) (wo:abU) (f1:ab0),jx e.2 q=true->τ.ix=true->aP w t.1 none (rt e.1) q (.osl τ) loc wo->db t.1 t.2 q (.osl τ) xs->aN (bc I C.B) w (.osl τ) wo xs f1->∃t',al new e.1=some t'/\db t'.1 t'.2 q (.osl τ) xs/\∀b∈f1,b∈fpn e.1/\bU w w' b
theorem bE.bZ {w':World} {I':Nat->Prop} {rtn:Nat->abU} {fpn:Nat->ab0} {S:ab0} {keep:List (Nat×List aV)} {new:List (Nat×aB)} (j:bE H A x e k o p) (r:lJ H A e w' k I' o p S keep new rtn fpn):bE H ⟨kill S keep A.g,new++del S A.h⟩ x w' I' (dG new rtn o) (dG new fpn p):=by
 have a0:∀ap a,bc k H.B ap a->bc I' H.B ap a/\bU e w' a:=λap a b=>by
  refine⟨?_,.of_heap (r.heap a (j.ib a (l3 b)) (λid _ d f fp=>j.notM f a fp ap b))⟩;cases ap
  ·exact r.i a b
  ·exact b.imp (r.i a) id
 have co:∀id d,al (new++del S A.h) id=some d->(al new id=some d/\dG new rtn o id=rtn id/\dG new fpn p id=fpn id)\/(al new id=none/\id∉S/\al A.h id=some d/\dG new rtn o id=o id/\dG new fpn p id=p id):=λid d f=>by
  rw[iR,j2] at f;cases C:al new id with
  |none=>
   rw[C] at f;simp only[Option.none_or] at f;split at f
   ·cases f
   ·rename_i F;exact .inr ⟨rfl,F,f,by simp[dG,C],by simp[dG,C]⟩
  |some r=>rw[C] at f;exact .inl ⟨by simpa using f,by simp[dG,C],by simp[dG,C]⟩
 have ci:∀id d,al A.h id=some d->id∉S->∀a∈p id,bU e w' a:=λid d f F a b=>.of_heap (r.heap a ((j.tree id d f).2.2 a b).2.2.1 (λN P u M G=>
  j.dis id N d u f M (λc=>F (by rw[c];exact P)) a b G))
 have ex:∀id d,al A.h id=some d->id∉S->∀a∈p id,¬I' a:=λid d f F a b s=>by
  have m:=(j.tree id d f).2.2 a b;rcases r.i2 a s with s|⟨_,s|⟨N,P,u,M,G⟩⟩
  ·exact m.1 s
  ·omega
  ·exact j.dis id N d u f M (λc=>F (by rw[c];exact P)) a b G
 refine{n:=j.n,i0:=λa b=>r.i a (j.i0 a b),i1:=?_,ib:=?_,tree:=?_,dis:=?_,tmp:=?_,frame:=?_,evo:=λa b=>(j.evo a b).trans (r.evo a (hp b j.size)),size:=dn j.size r.size,os:=r.os.trans j.os,tape:=r.tape.trans j.tape,output:=r.output.trans j.output,pin:=j.pin}
 ·intro a b;rcases r.i2 a b with b|⟨_,b|⟨N,P,u,M,G⟩⟩
  ·exact j.i1 a b
  ·exact .inr (.inl (dn j.size b))
  ·exact .inr ((j.tree N u M).2.2 a G).2.2.2
 ·intro a b;rcases b with b|b
  ·rcases r.i2 a b with b|⟨b,_⟩
   ·exact hp (j.ib a (.inl b)) r.size
   ·exact b
  ·exact hp (j.ib a (.inr b)) r.size
 ·intro id d f;rcases co id d f with⟨v,q,y⟩|⟨el,F,v,q,y⟩
  ·obtain⟨_,ar,E,z⟩:=r.tree id d v;rw[q,y];refine⟨ar,E,λa b=>?_⟩;obtain⟨ab,ad,W⟩:=z a b;rcases W with W|⟨N,P,u,M,G⟩
   ·exact⟨ab,λeq=>by have:=j.ib a (.inr eq);omega,ad,.inl (dn j.size W)⟩
   ·have m:=(j.tree N u M).2.2 a G;exact⟨ab,m.2.1,ad,m.2.2.2⟩
  ·obtain⟨ar,E,z⟩:=j.tree id d v;rw[q,y];refine⟨ar.mono a0 (ci id d v F),E,λa b=>?_⟩;obtain⟨ab,ad,W,aU⟩:=z a b;exact⟨ex id d v F a b,ad,hp W r.size,aU⟩
 ·intro l Y d J s ft d5 a b;rcases co l d s with⟨v,_,y⟩|⟨el,F,v,_,y⟩<;>rcases co Y J ft with⟨Z,_,d9⟩|⟨gc,lY,Z,_,d9⟩<;>rw[y] at b<;>rw[d9]
  ·exact r.dis l Y d J v Z d5 a b
  ·intro G;rcases((r.tree l d v).2.2.2 a b).2.2 with m|⟨N,P,u,M,ce⟩
   ·have:=((j.tree Y J Z).2.2 a G).2.2.1;omega
   ·exact j.dis Y N J u Z M (λc=>lY (by rw[c];exact P)) a G ce
  ·intro G;rcases((r.tree Y J Z).2.2.2 a G).2.2 with m|⟨N,P,u,M,ce⟩
   ·have:=((j.tree l d v).2.2 a b).2.2.1;omega
   ·exact j.dis l N d u v M (λc=>F (by rw[c];exact P)) a b ce
  ·exact j.dis l Y d J v Z d5 a b
 ·intro a4;show bG _ _ _ _ _ (gt (kill S keep A.g) a4) _;rw[ns];have D:=j.tmp a4;generalize gt A.g a4=w at D;generalize x.getD a4 undef=O at D;suffices d1:∀(w:ak) (O:Value),bG (bc k H.B) e A.h o p w O->bG (bc I' H.B) w' (new++del S A.h) (dG new rtn o) (dG new fpn p) (dB S keep w) O by
   cases w with
   |dC f0=>
    cases D with|dC cv C=>
    refine .dC (by simp[cv]) (λl av J v q=>?_);rw[eN] at v;obtain⟨d0,y,rfl⟩:=eb.1 v;exact d1 d0 J (C l d0 J y q)
   |_=>exact d1 _ _ D
  clear D;have bs:∀(w:ak) (O:Value),bG (bc k H.B) e A.h o p w O->w.dR S=false\/j0 keep w=true->bG (bc I' H.B) w' (new++del S A.h) (dG new rtn o) (dG new fpn p) w O:=by
   intro w O D fT;cases a3:w.dR S with
   |false=>
    refine D.rh a0 (λid cs d f=>?_);have F:=Gu a3 id cs;have X:al new id=none:=by
     cases C:al new id with
     |none=>rfl
     |some ds=>
      rcases(r.tree id ds C).1 with m|m
      ·exact absurd m F
      ·rw[f] at m;cases m
    refine⟨by rw[iR,X,j2,if_neg F];simpa using f,by simp[dG,X],by simp[dG,X],(j.tree id d f).1,ci id d f F⟩
   |true=>
    have Q:j0 keep w=true:=fT.resolve_left (by rw[a3];exactλj=>by cases j);have bd:∀(id:Nat) (d:aB),al A.h id=some d->∀c∈keep,c.1=id->∃u,al (new++del S A.h) id=some u/\u.1=d.1/\dG new rtn o id=o id/\(∃f7,dO d.1 c.2=some f7)/\
     ∀(m:List aV) (ek:ah) (ed:Loc) (bB:abU),fB c.2 m=true->aP e d.1 none (o id) m ek ed bB->aP w' d.1 none (o id) m ek ed bB:=by
     intro id d f c I cs;subst cs;obtain⟨u,ar,E,z,V,T⟩:=r.keep c I _ f;exact⟨u,by rw[iR,ar];rfl,E,by simp[dG,ar,z],V,T⟩
    have d2:∀(id:Nat) (m:List aV),(keep.any λc=>Nat.beq c.1 id&&fB c.2 m)=true->∃c∈keep,c.1=id/\fB c.2 m=true:=(by intro id m C;obtain⟨c,I,q⟩:=m5.1 C;simp only[bg] at q;exact⟨c,I,es q.1,q.2⟩);cases w with
    |ref id U=>
     cases U with
     |nil=>
      obtain⟨c,I,q⟩:=m5.1 (show(keep.any λc=>Nat.beq c.1 id)=true from Q);have q:=es q;cases D with|ref f K=>
      obtain⟨rfl,rfl,rfl⟩:=aP.eX.1 K;obtain⟨u,ar,E,z,_⟩:=bd id _ f c I q;rw[<-E];refine .ref (loc:=none) ar ?_;rw[z];exact aP.here
     |cons f5 U=>
      obtain⟨c,I,q,y⟩:=d2 id (f5::U) Q;cases D with|ref f K=>
      obtain⟨u,ar,E,z,V,T⟩:=bd id _ f c I q;have L:=T _ _ _ _ y K;rw[<-z,<-E] at L;exact .ref ar L
    |addr id U=>
     obtain⟨c,I,q⟩:=m5.1 (show(keep.any λc=>Nat.beq c.1 id&&Ex c.2 U)=true from Q);simp only[bg] at q;obtain⟨q,y⟩:=q;have q:=es q;cases D with|addr f K=>
     obtain⟨u,ar,E,z,V,T⟩:=bd id _ f c I q;rcases Bool.or_eq_true_iff.1 y with y|y
     ·have L:=T _ _ _ _ y K;rw[<-z,<-E] at L;exact .addr ar L
     ·obtain⟨gf,R⟩:=Option.isSome_iff_exists.1 y;obtain⟨_,V⟩:=V;obtain⟨bB,L⟩:=aP.upper V R K T;rw[<-z,<-E] at L;exact .addr ar L
    |view id U ge s=>
     obtain⟨c,I,q,y⟩:=d2 id U Q;cases D with|ku=>(exact .ku _ _)|view f K f1 f2 f3=>
     obtain⟨u,ar,E,z,V,T⟩:=bd id _ f c I q;have L:=T _ _ _ _ y K;rw[<-z,<-E] at L;exact .view ar L f1 f2 f3
    |_=>cases Q
  intro w O D;unfold dB;cases a3:w.dR S with
  |false=>simp only[Bool.false_and,cond_false];exact bs w O D (.inl a3)
  |true=>
   cases Q:h1 S keep w with
   |false=>simp only[hR,Bool.and_self,cond_true];exact .dead _
   |true=>
    simp only[gG,Bool.and_false,cond_false];cases w with
    |dt f8 f0=>
     cases D with|dt cv C=>
     refine .dt cv (λl av J v q=>bs av J (C l av J v q) ?_);have:=eM.1 Q av (kA v);simpa using this
    |app id m f6 gl dl=>
     cases D with|app f d7 K fs v f9 q c2 d8 fz=>
     have R:((dl.all λl=>!(dj l S))&&keep.any λc=>Nat.beq c.1 id&&jx c.2 m)=true:=Q;rw[bg] at R;obtain⟨am,R⟩:=R;have am:∀l∈dl,l∉S:=λl s c1=>(by have:=eM.1 am l s;rw[ep.2 c1] at this;cases this);obtain⟨c,I,R⟩:=m5.1 R;simp only[bg] at R;obtain⟨fn,d4⟩:=R;obtain rfl:=es fn;obtain⟨u,ar,E,z⟩:=r.app c I _ f m f6 _ _ _ _ d4 d7 K fs v;obtain⟨gi,ab,ad,W,_,f4⟩:=r.keep c I _ f;rw[ar] at ab;obtain rfl:=dV ab;have X:∀l∈dl,al new l=none:=λl s=>by
      cases C:al new l with
      |none=>rfl
      |some ds=>
       obtain⟨_,bl,an⟩:=c2 l s;rcases(r.tree l ds C).1 with m|m
       ·exact absurd m (am l s)
       ·rw[an] at m;cases m
     have c1:dG new rtn o c.1=o c.1:=(by simp only[dG,ar,W]);have d6:=f4 m _ _ _ (AT d4) K;rw[<-ad,<-c1] at d6;refine .app (t:=u) (by rw[iR,ar];rfl) d7 d6 E (v.mono a0 (λa b=>(z a b).2)) (λa b=>by simp only[dG,ar];exact(z a b).1) (q.mono a0 (λa b=>?_)) (λl s=>?_) (λa b=>?_) fz
     ·rcases d8 a b with b|⟨l,s,b⟩
      ·exact(z a b).2
      ·obtain⟨_,bl,an⟩:=c2 l s;exact ci l bl an (am l s) a b
     ·obtain⟨em,bl,an⟩:=c2 l s;exact⟨em,bl,by rw[iR,X l s,j2,if_neg (am l s)];simpa using an⟩
     ·rcases d8 a b with b|⟨l,s,b⟩
      ·exact .inl b
      ·exact .inr ⟨l,s,by simp only[dG,X l s];exact b⟩
    |_=>exact bs _ O D (.inr Q)
 ·intro a b d3;rw[r.heap a (hp b j.size)]
  ·exact j.frame a b d3
  ·intro id _ d f G;have:=((j.tree id d f).2.2 a G).2.2.2;rcases this with m|m
   ·omega
   ·exact d3 m
section
def iV (k:dd->Nat->Prop) (i:World) (a:ah) (l:Option Addr) (d:List a.den) (g:c6):Prop:=
 g.length=d.length/\(d=[]\/∃e h,l=some ⟨e,h,none⟩/\∀(c:Nat) (j:a.den) (f:ab0),d[c]?=some j->g[c]?=some f->∃b,b.length=a.size/\dS i e (h+c*a.size) b/\aN k i a b j f)
theorem iV.a6 {a:List d.den} (b:aN f e (.a6 P d) [.slice r c h] a []):c=a.length/\iV f e d r a (List.replicate a.length []):=by obtain⟨_,q,s,g,_,_,b⟩:=b;simp only[fY,Value.slice.injEq,and_true] at g;obtain⟨rfl,rfl,rfl⟩:=g;refine⟨rfl,ac,b.imp id ?_⟩;rintro⟨l,o,m,_,n⟩;refine⟨l,o,m,λk p t j i=>?_⟩;have:k<a.length:=(ey.1 j).1;rw[lD,if_pos this] at i;obtain rfl:=dV i;exact n k p j
theorem iV.osl {k:List d.den} (g:aN f e (.osl d) [.slice r h c] k m):h=k.length/\h<=c/\∃i,iV f e d r k i/\(∀j∈i.flatten,j∈m)/\(m.Nodup->i.flatten.Nodup)/\((r=none/\c=0/\m=[])\/∃a b,r=some ⟨a,b,none⟩/\m=a::i.flatten/\hS e a b (b+c*d.size)):=by
 obtain⟨t,j,l,g⟩:=g;simp only[fY,Value.slice.injEq,and_true] at l;obtain⟨rfl,rfl,rfl⟩:=l;rcases g with⟨rfl,rfl,rfl,rfl⟩|⟨a,b,n,rfl,rfl,ar,p,q,s⟩
 ·exact⟨rfl,aY _,[],⟨rfl,.inl rfl⟩,ac,ac,.inl ⟨rfl,rfl,rfl⟩⟩
 ·refine⟨rfl,p,n,⟨ar,.inr ⟨a,b,rfl,s⟩⟩,λj o=>e0 _ o,λg=>(jn.1 g).2,.inr ⟨a,b,rfl,rfl,q⟩⟩
theorem iV.cells {b:List d.den} {u:c6} (h:iV f e d r b u) (A:0<d.size):∃p:abU,p.length=b.length*d.size/\(∀c∈p,c.oneCell'=true)/\(∀g,r=some g->b≠[]->∀(m:Nat) c,p[m]?=some c->e.cell? (g.add m)=some c)/\∀(j:Nat) (q:d.den) (o:ab0),b[j]?=some q->u[j]?=some o->aN f e d ((p.drop (j*d.size)).take d.size) q o:=by
 obtain⟨H,h⟩:=h;rcases h with rfl|⟨g,n,rfl,h⟩
 ·exact⟨[],ac,ac,λ_ _ h=>absurd rfl h,ac⟩
 ·have x:∀a,a<b.length*d.size->∃c,e.cell? ⟨g,n+a,none⟩=some c/\c.oneCell'=true:=by
   intro a i;have z:a/d.size<b.length:=(Nat.div_lt_iff_lt_mul A).2 i;obtain⟨k,C,s,t⟩:=h (a/d.size) b[a/d.size] (u[a/d.size]'(by omega)) ac ac
   have I:=Nat.mod_lt a A;have:k[a %d.size]?=some (k[a %d.size]'(by omega)):=be _
   refine⟨_,?_,t.one _ (bI (by omega:a %d.size<k.length))⟩;have:=s _ _ this;rwa[show n+a/d.size*d.size+a %d.size=n+a by have:=qj a d.size;rw[im] at this;omega] at this
  have y:∀a,((List.range (b.length*d.size)).map λa=>(e.cell? ⟨g,n+a,none⟩).getD undef)[a]?=if a<b.length*d.size then e.cell? ⟨g,n+a,none⟩ else none:=by
   intro a;rw[eN];by_cases i:a<b.length*d.size
   ·rw[if_pos i,o2 i];obtain⟨c,w,_⟩:=x a i;simp[w]
   ·rw[if_neg i,fu (by simp;omega)];rfl
  refine⟨(List.range (b.length*d.size)).map λa=>(e.cell? ⟨g,n+a,none⟩).getD undef,ac,?_,?_,?_⟩
  ·intro c w;obtain⟨a,i,rfl⟩:=bT.1 w;obtain⟨J,F,v⟩:=x a (fd.1 i);simpa[F] using v
  ·intro G D _ m c l;cases D;rw[y] at l;split at l
   ·rw[Addr.add_lit];exact l
   ·cases l
  ·intro j q o B E;obtain⟨k,C,s,t⟩:=h j q o B E;have z:j<b.length:=(ey.1 B).1;have:(((List.range (b.length*d.size)).map λa=>(e.cell? ⟨g,n+a,none⟩).getD undef).drop (j*d.size)).take d.size=k:=by
    apply gY;intro m;rcases bb m d.size with l|l
    ·rw[k3 l,iG,y];have v:(j+1)*d.size<=b.length*d.size:=ga _ z;rw[eD,g0] at v;rw[if_pos U];have:k[m]?=some (k[m]'(by omega)):=be _
     rw[this,<-m9];exact s _ _ this
    ·rw[fu (by simp;omega),fu U]
   rw[this];exact t
section
variable {P:Program}
theorem R5 {w:World} {ty:TypeId} {j:TypeInfo} (r:P.underlying G=some (.slice a)) (C:dM P d a) (i:P.info? a=some j) (a0:d.size<=1300) {ad yd:Option Addr} {n cap m c:Nat} {olds news:abU} (F:olds.length=n*d.size) (am:∀b,ad=some b->∀(e:Nat) (f:Value),olds[e]?=some f->w.cell? (b.add e)=some f) (an:∀b,ad=some b->b.spot=none) (L:n<=cap) (Q:ad=none->cap=0) (s:news.length=m*d.size) (B:∀f∈news,f.oneCell'=true) (E:∀b,yd=some b->0<m->∀(e:Nat) (f:Value),news[e]?=some f->w.cell? (b.add e)=some f) (R:yd=none->m=0) (N:∀b,ad=some b->hS w b.block b.off (b.off+cap*d.size)) (O:n+m<=fq):∃I q,(Builtin.append_ #[G,G] ty #[.slice ad n cap,.slice yd m c]).run P w=.ok I q/\((
   n+m<=cap/\I=.slice ad (n+m) cap/\((ad=none/\q=w)\/∃b,ad=some b/\q=w.setCells b.block (b.off+n*d.size) news))\/
   ∃(g:Nat) (z:abS),cap<n+m/\n+m<=g/\I=.slice (some ⟨w.heap.size,0,none⟩) (n+m) g/\gH w q/\q.heap[w.heap.size]?=some (.cells z a (0,0))/\q.heap.size=w.heap.size+1/\g*d.size<=z.size/\∀(e:Nat) (f:Value),(olds++news)[e]?=some f->z[e]?=some f):=by
 obtain⟨a3,_,h,_⟩:=C.info;have J:=h.info;rw[i] at J;cases J;have av:=C.pos;by_cases x:n+m<=cap
 ·by_cases o:m=0
  ·subst o;obtain rfl:news=[]:=k2 (by simpa using s);have M:(Builtin.firstCells d.size 0 (.slice yd 0 c)).run P w=.ok #[] w:=by
    cases yd with
    |none=>rfl
    |some b=>simp[Builtin.firstCells,loadCells,loadCellsFrom]
   refine⟨.slice ad n cap,w,?_,.inl ⟨x,rfl,?_⟩⟩
   ·cases ad with
    |none=>simp[Builtin.append_,run_underlying r,sizeOf,typeInfo,i,Builtin.lenOf,h.size,L,M]
    |some b=>simp[Builtin.append_,run_underlying r,sizeOf,typeInfo,i,Builtin.lenOf,h.size,L,M,storeCells]
   ·cases ad with
    |none=>exact .inl ⟨rfl,rfl⟩
    |some b=>exact .inr ⟨b,rfl,rfl⟩
  ·cases ad with
   |none=>have:=Q rfl;omega
   |some b=>
    cases yd with
    |none=>exact absurd (R rfl) o
    |some k=>
     obtain⟨S,T,V⟩:=b;obtain rfl:V=none:=an _ rfl;have Z:(n+m)*d.size<=cap*d.size:=ga _ x;rw[eD] at Z;have p:=run_append_room_cells (P:=P) w G ty a j r i S T n cap k m c news (by rw[h.size];exact s) (E k rfl U) B x (λe v=>(N _ rfl _ (by rw[h.size];simp only;omega) (by rw[h.size];simp only;omega)).1) (λe v=>(N _ rfl _ (by rw[h.size];simp only;omega) (by rw[h.size];simp only;omega)).2);rw[h.size] at p;exact⟨_,_,p,.inl ⟨x,rfl,.inr ⟨_,rfl,rfl⟩⟩⟩
 ·obtain⟨l,ap,y⟩:=C.El;have y:=y j i;have o:0<m:=U;cases yd with
  |none=>have:=R rfl;omega
  |some k=>
   have K:(n+m)*j.bytes<=140737488355328:=(by have B:(n+m)*j.bytes<=fq*31200:=jN O (by have:=h.bytes;omega);unfold fq at B;omega);have D:((n+m:Nat):Int)<=9223372036854775807:=(by unfold fq at O;omega);have A:∀(H:Nat),let g:=grownCap w (n+m) H a
    n+m<=g/\gH w (w.drew.alloc (.cells (olds.toArray++news.toArray++Builtin.zeroCells l.cells (g-(n+m))) a))/\
    (w.drew.alloc (.cells (olds.toArray++news.toArray++Builtin.zeroCells l.cells (g-(n+m))) a)).heap[w.heap.size]?=some (.cells (olds.toArray++news.toArray++Builtin.zeroCells l.cells (g-(n+m))) a (0,0))/\
    g*d.size<=(olds.toArray++news.toArray++Builtin.zeroCells l.cells (g-(n+m))).size/\
    ∀(e:Nat) (f:Value),(olds++news)[e]?=some f->(olds.toArray++news.toArray++Builtin.zeroCells l.cells (g-(n+m)))[e]?=some f:=by
    intro H g;have X:n+m<=g:=grownCap_ge w (n+m) H a;refine⟨X,(gH.refl w).drew.trans (gH.alloc _ _),heap_alloc_new w.drew _,?_,?_⟩
    ·simp only[Array.size_append,qi,size_zeroCells,ap,F,s,<-eD];refine ga _ ?_;omega
    ·intro e f v;have Y:e<(olds++news).length:=(ey.1 v).1;rw[Array.getElem?_append,if_pos (by simpa using Y)];simpa using v
   cases ad with
   |some b=>
    have p:=run_append_grow (P:=P) w G ty a j l r i y b n cap olds (by rw[h.size];exact F) (am b rfl) k m c news (by rw[h.size];exact s) (E k rfl o) U D (growslice_fits U K);obtain⟨t,f2,u,f4,f5⟩:=A cap;exact⟨_,_,p,.inr ⟨_,_,U,t,rfl,f2,u,ac,f4,f5⟩⟩
   |none=>
    have W:=Q rfl;have ab:n=0:=U;subst W;subst ab;obtain rfl:olds=[]:=k2 (by simpa using F);simp only[ip] at D K A;have p:=run_append_nil (P:=P) w G ty a j l r i y k m c news (by rw[h.size];exact s) (E k rfl o) o D U;obtain⟨t,f2,u,f4,f5⟩:=A 0;simp only[fO,Array.empty_append] at t f2 u f4 f5;refine⟨_,_,p,.inr ⟨_,_,U,by rw[ip];exact t,by rw[ip],f2,u,ac,f4,f5⟩⟩
end
end
theorem yn (b:Nat):∀(h:abU) (e:Nat) (c:World) (a:Nat),a≠b->(c.setCells b e h).heap[a]?=c.heap[a]?
 |[],_,_,_,_=>rfl
 |v::g,e,c,a,d=>by rw[World.setCells,yn b g _ _ a d];simp only[World.setCell,p6];rw[if_neg (λf=>d f.symm)]
theorem vz (b:Nat):∀(e:abU) (c:Nat) (a:World),(a.setCells b c e).heap.size=a.heap.size
 |[],_,_=>rfl
 |v::d,c,a=>by rw[World.setCells,vz b d];simp
theorem oB (b:Nat):∀(d:abU) (c:Nat) (a:World),(a.setCells b c d).os=a.os/\(a.setCells b c d).tape=a.tape/\(a.setCells b c d).output=a.output
 |[],_,_=>⟨rfl,rfl,rfl⟩
 |v::e,c,a=>by rw[World.setCells];exact oB b e _ _
theorem F6 (c:Nat) (e:abU) (a:Nat) (f:World) (g:∀b,b<e.length->(f.cell? ⟨c,a+b,none⟩).isSome=true) (d:Nat):((f.setCells c a e).cell? ⟨c,d,none⟩).isSome=(f.cell? ⟨c,d,none⟩).isSome:=by
 by_cases h:a<=d/\d<a+e.length
 ·obtain⟨b,rfl⟩:∃b,d=a+b:=⟨d-a,U⟩;rw[World.cell?_setCells_in c e a f g b U,g b U];rfl
 ·rw[World.cell?_setCells_out c e a f _ (λ_ _=>by simp only;omega)]
theorem VT (c:World) (a:Addr) (f:Value) (b:Nat):hA (c.setCell a f) b=hA c b:=by
 unfold hA World.setCell;simp only[p6];by_cases d:a.block=b
 ·subst d;simp only[if_true];cases c.heap[a.block]? with
  |none=>rfl
  |some e=>cases e<;>rfl
 ·simp only[if_neg d]
theorem xR (d:Nat):∀(f:abU) (b:Nat) (c:World) (a:Nat),hA (c.setCells d b f) a=hA c a
 |[],_,_,_=>rfl
 |v::e,b,c,a=>by rw[World.setCells,xR d e (b+1),VT]
theorem pV {vs:abU} {o:Nat} {w:World} (a:h≠c):bU w (w.setCells c o vs) h:=.of_heap (yn c vs o w h a)
theorem Hx {P:Program} {ty:TypeId} {f1:TypeInfo} (d8:P.underlying G=some (.slice a)) (ce:dM P d a) (ex:P.info? a=some f1) (fT:d.size<=1300) {c:Nat} {s N:List d.den} {K:ab0} {u:c6} (ab:aN f e (.osl d) [.slice r M h] s K) (bd:iV f e d T N u) (a0:K.Nodup) (d6:∀i∈K,∀p,¬f p i) (fz:u.flatten.Nodup) (cs:∀i∈K,i∉u.flatten) (d7:∀p i,f p i->i<e.heap.size) (av:∀i∈K,i<e.heap.size) (bl:∀i∈u.flatten,i<e.heap.size) (fp:s.length+N.length<=fq):∃bs q f2,(Builtin.append_ #[G,G] ty #[.slice r M h,.slice T N.length c]).run P e=.ok bs q/\aN f q (.osl d) [bs] (s++N) f2/\aN f q (.osl d) [.slice r M h] s K/\f2.Nodup/\(∀i∈f2,i∈K\/i∈u.flatten\/(e.heap.size<=i/\i<q.heap.size))/\e.heap.size<=q.heap.size/\q.os=e.os/\q.tape=e.tape/\q.output=e.output/\(∀i,i<e.heap.size->i∉K->q.heap[i]?=e.heap[i]?)/\(∀p i,f p i->bU e q i)/\(∀i∈u.flatten,bU e q i)/\(∀i,i<e.heap.size->hA q i=hA e i):=by
 obtain⟨rfl,co,F,d1,Y,el,W⟩:=iV.osl ab;have dl:=ce.pos;obtain⟨J,R,gi,d2,f7⟩:=d1.cells dl;obtain⟨z,f3,f4,f5,f6⟩:=bd.cells dl;have Z:=d1.1;have c1:=bd.1;obtain⟨bs,q,a4,ed⟩:=R5 (P:=P) (w:=e) (ty:=ty) d8 ce ex fT (ad:=r) (yd:=T) (n:=s.length) (cap:=h) (m:=N.length) (c:=c) (olds:=J) (news:=z) R (λi v k A l=>d2 i v (by rintro rfl;simp at R;subst R;simp at l) k A l) (λi v=>by rcases W with⟨t,_⟩|⟨o,x,t,_⟩<;>rw[v] at t<;>cases t;rfl) co (λt=>by rcases W with⟨_,g,_⟩|⟨o,x,g,_⟩;exact g;rw[t] at g;cases g) f3 f4 (λi v fs k A l=>f5 i v (by rintro rfl;simp at fs) k A l) (λt=>by rcases bd.2 with rfl|⟨i,gf,g,_⟩;rfl;rw[t] at g;cases g) (λi v=>by
   rcases W with⟨t,_⟩|⟨o,x,t,_,X⟩
   ·rw[v] at t;cases t
   ·rw[v] at t;cases t;exact X) fp
 have S:(F++u).flatten=F.flatten++u.flatten:=ac;have c2:(F++u).flatten.Nodup:=(by rw[S,iJ];exact⟨el a0,fz,λbB d9 i v E=>cs bB (Y bB d9) (E▸v)⟩);have ap:∀(b:Nat) (H:d.den) (y:ab0),(s++N)[b]?=some H->(F++u)[b]?=some y->aN f e d (((J++z).drop (b*d.size)).take d.size) H y/\∀i∈y,i∈F.flatten\/i∈u.flatten:=by
  intro b H y j C;rcases bb b s.length with g|g
  ·rw[nO g] at j;rw[nO U] at C;have B:(b+1)*d.size<=s.length*d.size:=ga _ g;rw[eD,g0] at B;rw[rR U,rX (by simp;omega)];exact⟨f7 b H y j C,λi v=>.inl (iI.2 ⟨y,kA C,v⟩)⟩
  ·rw[o0 g] at j;rw[o0 U,Z] at C;have B:s.length*d.size<=b*d.size:=ga _ g;rw[List.drop_append,rS U,fO,R,show b*d.size-s.length*d.size=(b-s.length)*d.size by rw[Nat.sub_mul]];exact⟨f6 _ H y j C,λi v=>.inr (iI.2 ⟨y,kA C,v⟩)⟩
 rcases ed with⟨ds,rfl,f0⟩|⟨d3,d4,gc,em,rfl,I,eq,ge,f9,ek⟩
 ·rcases f0 with⟨rfl,rfl⟩|⟨i,rfl,rfl⟩
  ·have f8:h=0:=by rcases W with⟨_,g,_⟩|⟨o,x,g,_⟩;exact g;cases g
   obtain rfl:s=[]:=k2 U;obtain rfl:N=[]:=k2 U;exact⟨_,q,K,a4,by simpa using ab,ab,a0,λi v=>.inl v,aY _,rfl,rfl,rfl,λ_ _ _=>rfl,λ_ _ _=>bU.refl _ _,λ_ _=>bU.refl _ _,λ_ _=>rfl⟩
  ·rcases W with⟨t,_⟩|⟨o,x,t,rfl,X⟩
   ·cases t
   cases t;have am:o∉F.flatten:=(jn.1 a0).1;have an:o∉u.flatten:=cs o ac;have ft:(s.length+N.length)*d.size<=h*d.size:=ga _ ds;rw[eD] at ft;have d0:∀k,k<z.length->(e.cell? ⟨o,x+s.length*d.size+k,none⟩).isSome=true:=λk l=>(X _ U U).1;have Q:∀p b,f p b->f p b/\bU e (e.setCells o (x+s.length*d.size) z) b:=λp b j=>⟨j,pV (λE=>d6 o ac p (E▸j))⟩;have cv:hS (e.setCells o (x+s.length*d.size) z) o x (x+h*d.size):=λk B O=>(by rw[F6 o z _ e d0,World.frozen?_setCells];exact X k B O);have ci:∀k A,(J++z)[k]?=some A->(e.setCells o (x+s.length*d.size) z).cell? ⟨o,x+k,none⟩=some A:=by
    intro k A l;rcases bb k J.length with g|g
    ·rw[nO g] at l;rw[World.cell?_setCells_out o z _ e _ (λ_ _=>by simp only;omega)];have:=d2 ⟨o,x,none⟩ rfl (by rintro rfl;simp at R;subst R;simp at g) k A l;rwa[Addr.add_lit] at this
    ·rw[o0 g] at l;obtain⟨D,rfl⟩:∃D,k=J.length+D:=⟨k-J.length,U⟩;rw[nS] at l;have L:D<z.length:=(ey.1 l).1;rw[R,<-m9,World.cell?_setCells_in o z _ e d0 D L];rw[be L] at l;exact l
   refine⟨_,_,o::(F++u).flatten,a4,?_,?_,?_,?_,by rw[vz];exact aY _,(oB _ _ _ _).1,(oB _ _ _ _).2.1,(oB _ _ _ _).2.2,?_,λp b j=>(Q p b j).2,λb j=>pV (λE=>an (by have d5:b=o:=E;rw[<-d5];exact j)),λb _=>xR _ _ _ _ _⟩
   ·refine⟨some ⟨o,x,none⟩,h,ac,.inr ⟨o,x,F++u,rfl,rfl,by simp[Z,c1],by simpa using ds,cv,λb H y j C=>?_⟩⟩;obtain⟨B,O⟩:=ap b H y j C;refine⟨_,B.len,λk A l=>?_,B.mono Q (λD L=>pV (λE=>?_))⟩
    ·have V:(J++z)[b*d.size+k]?=some A:=by
      rw[rU] at l;split at l
      ·rwa[iG] at l
      ·cases l
     rw[m9];exact ci _ _ V
    ·subst E;rcases O D L with g|g
     ·exact am g
     ·exact an g
   ·refine⟨some ⟨o,x,none⟩,h,rfl,.inr ⟨o,x,F,rfl,rfl,Z,co,cv,λb H y j C=>?_⟩⟩;have fn:b<s.length:=(ey.1 j).1;obtain⟨B,O⟩:=ap b H y (by rw[nO fn];exact j) (by rw[nO U];exact C);refine⟨_,B.len,λk A l=>?_,B.mono Q (λD L=>pV (λE=>?_))⟩
    ·have V:(J++z)[b*d.size+k]?=some A:=by
      rw[rU] at l;split at l
      ·rwa[iG] at l
      ·cases l
     rw[m9];exact ci _ _ V
    ·subst E;exact am (iI.2 ⟨y,kA C,L⟩)
   ·rw[jn,S];exact⟨by simp[am,an],S▸c2⟩
   ·intro b j;rcases dh.1 j with rfl|j
    ·exact .inl ac
    ·rw[S] at j;rcases eH.1 j with g|g
     ·exact .inl (e0 _ g)
     ·exact .inr (.inl g)
   ·intro b _ j;exact yn o _ _ _ b (λE=>j (E▸by simp))
 ·have Q:∀p b,f p b->f p b/\bU e q b:=λp b j=>⟨j,.of_heap (I.heap b (d7 p b j))⟩;have a3:∀k,q.cell? ⟨e.heap.size,k,none⟩=d4[k]?/\q.frozen? ⟨e.heap.size,k,none⟩=false:=λk=>by
   simp[World.cell?,World.frozen?,eq]
  refine⟨_,q,e.heap.size::(F++u).flatten,a4,?_,ab.mono Q (λb j=>.of_heap (I.heap b (av b j))),?_,?_,I.size,I.os,I.tape,I.output,λb j _=>I.heap b j,λp b j=>(Q p b j).2,λb j=>.of_heap (I.heap b (bl b j)),λb j=>(bU.of_heap (I.heap b j)).2⟩
  ·refine⟨some ⟨e.heap.size,0,none⟩,d3,ac,.inr ⟨e.heap.size,0,F++u,rfl,rfl,by simp[Z,c1],by simpa using em,λk _ O=>?_,λb H y j C=>?_⟩⟩
   ·rw[(a3 k).1,(a3 k).2];exact⟨by simp;omega,rfl⟩
   ·obtain⟨B,O⟩:=ap b H y j C;refine⟨_,B.len,λk A l=>?_,B.mono Q (λD L=>.of_heap (I.heap D ?_))⟩
    ·rw[(a3 _).1];have V:(J++z)[b*d.size+k]?=some A:=by
      rw[rU] at l;split at l
      ·rwa[iG] at l
      ·cases l
     rw[ip];exact ek _ _ V
    ·rcases O D L with g|g
     ·exact av D (Y D g)
     ·exact bl D g
  ·rw[jn];refine⟨λg=>?_,c2⟩;rw[S] at g;rcases eH.1 g with g|g
   ·have:=av _ (Y _ g);omega
   ·have:=bl _ g;omega
  ·intro b j;rcases dh.1 j with rfl|j
   ·exact .inr (.inr ⟨aY _,U⟩)
   ·rw[S] at j;rcases eH.1 j with g|g
    ·exact .inl (Y b g)
    ·exact .inr (.inl g)
section
theorem dH.get:∀{p:List aV} {b:ah} {c j:b.den} {e:ah} {k:e.den},dH b c p e k j->∃d,db b c p e d
 |[],b,c,_,_,_,a=>by obtain⟨rfl,_⟩:=dH.eX.1 a;exact⟨c,db.eX.2 ⟨rfl,rfl⟩⟩
 |s::p,b,_,_,_,_,a=>by
  cases b<;>cases s<;>simp only[dH] at a
  case osl.idx=>obtain⟨g,f,i,a,_⟩:=a;obtain⟨d,h⟩:=dH.get (p:=p) a;exact⟨d,g,i,h⟩
  case optr.deref=>exact dH.get (p:=p) a
  case st.unst=>exact dH.get (p:=p) a
  case pr.fst=>obtain⟨f,a,_⟩:=a;exact dH.get (p:=p) a
  case pr.snd=>obtain⟨f,a,_⟩:=a;exact dH.get (p:=p) a
theorem dH.same:∀{p:List aV} {c:ah} {b:c.den} {d:ah} {g:d.den},db c b p d g->dH c b p d g b
 |[],c,b,_,_,a=>by obtain⟨rfl,rfl⟩:=db.eX.1 a;exact dH.eX.2 ⟨rfl,rfl⟩
 |s::p,c,b,_,_,a=>by
  cases c<;>cases s<;>simp only[db] at a
  case osl.idx i=>
   obtain⟨e,f,a⟩:=a;refine⟨e,e,f,dH.same (p:=p) a,?_⟩;obtain⟨h,rfl⟩:=ey.1 f;exact(List.set_getElem_self h).symm
  case optr.deref=>exact dH.same (p:=p) a
  case st.unst=>exact dH.same (p:=p) a
  case pr.fst=>exact⟨b.1,dH.same (p:=p) a,rfl⟩
  case pr.snd=>exact⟨b.2,dH.same (p:=p) a,rfl⟩
theorem BE {a:z} {b:Nat->z}:dG [(c,F)] (λ_=>a) b c=a:=by simp[dG,bY]
section
variable {E:dY} {C:dA} {st:aH} {a:Act} {A:abS} {w:World} {I:Nat->Prop} {rt:Nat->abU} {fp:Nat->ab0} {o:Oper}
theorem aai (j:g.length=M) (f:hS w h c (c+M)) (d:Nat):p8 w (w.setCells h c g) (some (h,c)) M d:=by
 have i:∀a,a<g.length->(w.cell? ⟨h,c+a,none⟩).isSome=true:=λa e=>(f _ U U).1;refine⟨λa e=>World.cell?_setCells_out h g c w _ (λb _=>?_),λa=>World.frozen?_setCells _ _ _ _ _,λa=>?_,xR _ _ _ _ _⟩
 ·have b:d=h:=b;have:=e c (by rw[b]);simp only;omega
 ·by_cases b:d=h
  ·subst b;exact F6 d g c w i a
  ·rw[((pV (w:=w) (o:=c) (vs:=g) b).1 a).1]
theorem bE.aaL (t:bE C st A w I rt fp) {id:Nat} (q:al st.h id=some F) {P:abU} (ab:aP w F.1 none (rt id) l d (some (c,M)) P) {z:d.den} {u:F.1.den} (J:dH F.1 F.2 l d z u) {n:abU} {r:ab0} (K:aN (bc I C.B) w d n z r) (d4:r.Nodup) (ci:id∉m) (ds:∀a∈r,(∃E,∃av:d.den,d.ix=true/\aN (bc I C.B) w d P av E/\a∈E)\/∃e∈m,∃i,al st.h e=some i/\a∈fp e):hS w c M (M+d.size)/\∃rtn fpn,bE C ⟨kill (id::m) [(id,l)] st.g,(id,⟨F.1,u⟩)::del (id::m) st.h⟩ A (w.setCells c M n) I rtn fpn/\rtn id=rt id/\aP (w.setCells c M n) F.1 none (rt id) l d (some (c,M)) n:=by
 obtain⟨d6,am,c1⟩:=t.tree id F q;obtain⟨av,d0⟩:=J.get;obtain⟨f6,f1,a0,ap,a3,a4,bd,v,bl,bs,bB⟩:=xz l (loc:=none) d6 (λ_ _ b=>by cases b) am (λ_ _ b=>by cases b) (t.notM q) d0;obtain⟨_,aj,D⟩:=ab.iu a3;subst aj;subst D;obtain⟨_,G⟩:=bd c M rfl;have T:c∈ap:=by
  rcases bl c M rfl with⟨an,b,_⟩|b
  ·cases b
  ·exact b
 have R:c∈fp id:=v.mem_iff.2 (by simp[T]);have ad:=v.nodup_iff.1 am;rw[iJ] at ad;obtain⟨f4,H,d2⟩:=ad;have V:∀a∈r,a∈a0\/∃e∈m,∃i,al st.h e=some i/\a∈fp e:=λa f=>by
  rcases ds a f with⟨E,f9,cv,d7,b⟩|b
  ·rw[<-aN.uniq cv a4 d7] at b;exact .inl b
  ·exact .inr b
 have d5:∀e∈m,∀i,al st.h e=some i->∀a∈fp e,a∉fp id:=λe k i j a f y=>t.dis e id i F j q (λo=>ci (o▸k)) a f y;have X:∀a∈r,a∉ap:=λa f y=>by
  rcases V a f with b|⟨e,k,i,j,b⟩
  ·exact d2 a b a y rfl
  ·exact d5 e k i j a b (v.mem_iff.2 (by simp[y]))
 have ce:∀x a,bc I C.B x a->a≠c:=λx a f o=>t.notM q c R x (o▸f);have c2:=aai (w:=w) K.len G;have ek:aN (bc I C.B) (w.setCells c M n) d n z r:=K.mono (λx a f=>⟨f,pV (ce x a f)⟩) (λa f=>pV (λo=>X a f (by rw[o];exact T)));have d9:∀s,s<n.length->(w.cell? ⟨c,M+s,none⟩).isSome=true:=λs p=>(G _ U (by have:=K.len;omega)).1;have cs:dS (w.setCells c M n) c M n:=λs ft p=>(by have Z:s<n.length:=(ey.1 p).1;rw[World.cell?_setCells_in c n M w d9 s Z];rw[be Z] at p;exact p);obtain⟨f3,Q,em,_,ex,_,L,fn,eq⟩:=bs (w.setCells c M n) (bc I C.B) n z r u (λ_ _ b=>b) (λa _=>c2 a) ek (λb=>by cases b) (λfT f7 o=>by simp only[bH,fv] at o;obtain⟨rfl,rfl⟩:=o;exact cs) J;obtain rfl:=ex rfl (.inl ac);have dl:∀a∈Q,a∈fp id\/∃e∈m,∃i,al st.h e=some i/\a∈fp e:=λa f=>by
  rcases eH.1 (L.mem_iff.1 f) with b|b
  ·rcases V a b with b|b
   ·exact .inl (v.mem_iff.2 (by simp[b]))
   ·exact .inr b
  ·exact .inl (v.mem_iff.2 (by simp[b]))
 have co:=t.bZ (S:=id::m) (keep:=[(id,l)]) (new:=[(id,⟨F.1,u⟩)]) (rtn:=λ_=>rt id) (fpn:=λ_=>Q) (w':=w.setCells c M n) (I':=I) ⟨?_,(oB _ _ _ _).1,(oB _ _ _ _).2.1,(oB _ _ _ _).2.2,?_,λa _=>.of_eq (xR _ _ _ _ _),λ_ b=>b,λ_ b=>.inl b,?_,?_,?_,?_⟩
 ·exact⟨G,_,_,co,by rw[BE],fn⟩
 ·rw[vz];exact aY _
 ·intro a _ f;exact yn c _ _ _ a (λo=>f id ac F q (o▸R))
 ·intro e i j;rw[bY] at j;split at j
  ·rename_i o;subst o;cases j;refine⟨.inl ac,em,?_,λa f=>?_⟩
   ·rw[L.nodup_iff,iJ];exact⟨d4,H,λfz ed gc el o=>X fz ed (o▸el)⟩
   ·rcases dl a f with b|⟨e,k,i,j,b⟩
    ·obtain⟨ar,N,O,fs⟩:=c1 a b;exact⟨ar,by rw[vz];exact O,.inr ⟨id,ac,F,q,b⟩⟩
    ·obtain⟨ar,N,O,fs⟩:=(t.tree e i j).2.2 a b;exact⟨ar,by rw[vz];exact O,.inr ⟨e,by simp[k],i,j,b⟩⟩
  ·cases j
 ·intro e s i ft k p d1;rw[bY] at k p;split at k
  ·split at p
   ·rename_i aj D;exact absurd (aj.symm.trans D) d1
   ·cases p
  ·cases k
 ·intro e k i j;simp only[eS] at k;subst k;rw[q] at j;obtain rfl:=dV j;refine⟨⟨F.1,u⟩,?_,rfl,rfl,⟨_,ab.ty⟩,eq⟩;rw[bY,if_pos rfl]
 ·intro e k i j an ge f8 f5 f0 f2 W d3 H Y d8;simp only[eS] at k;subst k;rw[q] at j;obtain rfl:=dV j;refine⟨⟨F.1,u⟩,by rw[bY,if_pos rfl],sE W J Y,λa f=>?_⟩;obtain⟨ar,N⟩:=bB an _ _ _ _ _ W (by exact d3) Y H d8 a f;exact⟨L.mem_iff.2 (k4 _ ar),pV (N _ _ rfl)⟩
theorem bE.store (r:bE C st A w I rt fp) {id:Nat} (y:al st.h id=some F) {i:abU} (u:aP w F.1 none (rt id) l d (some (M,c)) i) {o:d.den} {n:F.1.den} (x:dH F.1 F.2 l d o n) {f:abU} {S2:ab0} (z:aN (bc I C.B) w d f o m) (v:m.Nodup) (s:id∉S2) (t:∀e∈m,(∃j,∃E:d.den,d.ix=true/\aN (bc I C.B) w d i E j/\e∈j)\/∃k∈S2,∃D,al st.h k=some D/\e∈fp k):hS w M c (c+d.size)/\∃b a,bE C ⟨kill (id::S2) [(id,l)] st.g,(id,⟨F.1,n⟩)::del (id::S2) st.h⟩ A (w.setCells M c f) I b a:=by obtain⟨p,b,a,q,_⟩:=r.aaL y u x z v s t;exact⟨p,b,a,q⟩
inductive tY where
 |du (s:aH)
 |part (α:Type) (φ:α->Prop) (f:α->aH)
 |bad
def tY.K (c:tY) (Q:aH->Prop):Prop:=
 match c with
 |.du d=>Q d
 |.part e f b=>∃a:e,f a/\Q (b a)
 |.bad=>False
def dz (E:dY) (C:dA) (o:Oper) (st:aH) (Q:aH->Prop):Prop:=
 ∀(a:Act) (w:World),ff C st a.tmps w->∀(next:Act->World->Prop) (e:Exit->Act->World->Prop),(∀c b d,Q c->b.defers=a.defers->ff C c b.tmps d->next b d)->o.wp E.P a w next e
variable {Q:aH->Prop}
theorem dz.eval {an:List (Nat×ah)} (j:o.dst=some c) (l:C.ok c) (i:(fo E.tt an st.h (aO st.g) c o.op).K (λb e=>Q ⟨(c,b)::st.g,e++st.h⟩)):dz E C o st Q:=by
 rintro a w ⟨I,rt,fp,d⟩ next r m
 exact(TX d i).wp d j l (λb e f q n k p=>m _ f q n k p)
def pQ (b:List (Nat×aB)) (c:ak):Option (Nat×List aV):=
 match c with
 |.addr id a=>some (id,a)
 |.ref id a=>match al b id with
  |some ⟨d,_⟩=>match dO d a with
   |some (.optr _)=>some (id,a++[.deref])
   |_=>none
  |none=>none
 |_=>none
def Ct (
 tt:List (TypeId×ah)) (st:aH) (m:TypeId) (o v:ak):tY:=
 match pQ st.h o with
 |none=>.bad
 |some (
  id,p)=>match al st.h id,al tt m with
  |some ⟨b,e⟩,some n=>match dO b p with
   |none=>.bad
   |some c=>bif a5 n c then match v with
    |.ref d i=>match al st.h d with
     |some ⟨r,j⟩=>bif Nat.beq id d then .bad else
      .part (c.den×b.den) (λa=>db r j i c a.1/\dH b e p c a.1 a.2) (λa=>⟨kill [id,d] [(id,p)] st.g,(id,⟨b,a.2⟩)::del [id,d] st.h⟩)
     |none=>.bad
    |.app d i f q l=>if _e:c=.osl f then
     .part (List f.den×b.den) (λa=>d=id/\i=p/\db b e p (.osl f) a.1/\dH b e p (.osl f) (a.1++q) a.2) (λa=>⟨kill (id::l) [(id,p)] st.g,(id,⟨b,a.2⟩)::del (id::l) st.h⟩) else .bad
    |v=>match coe c v with
     |some j=>.part b.den (λk=>dH b e p c j k) (λk=>⟨kill [id] [(id,p)] st.g,(id,⟨b,k⟩)::del [id] st.h⟩)
     |none=>.bad
   else .bad
  |_,_=>.bad
theorem Zg (n:bE C st a.tmps w I rt fp) {id:Nat} (c:pQ st.h (aO st.g b)=some (id,l)) (k:al st.h id=some F) (q:dO F.1 l=some d):∃j r s,a.eval b=.pointer (some ⟨j,r,none⟩)/\aP w F.1 none (rt id) l d (some (j,r)) s:=by
 have i:=n.aO b;unfold pQ at c;generalize B:a.eval b=E at i;split at c
 ·rename_i y A m;cases c;rw[m] at i;cases i with|addr f e=>
  rw[k] at f;cases f;have:=e.ty;rw[q] at this;cases this;exact⟨_,_,_,rfl,e⟩
 ·rename_i y A m;split at c
  case h_2=>cases c
  rename_i H G p;split at c
  case h_2=>cases c
  rename_i D x;cases c;rw[k] at p;cases p;rw[m] at i;cases i with|ref f e=>
  rw[k] at f;cases f;have:=e.ty;rw[x] at this;cases this;obtain⟨j,z,v,rfl,t,u⟩:=ny (n.tree id _ k).1 e;have o:=e.append (aP.DM t u);have:=o.ty;rw[q] at this;cases this;exact⟨j,z,v,rfl,o⟩
 ·cases c
theorem aaK (l:al E.tt G=some d) (p:a5 d q=true) (r:o.op=.store G i b) (u:a.eval i=.pointer (some ⟨h,c,none⟩)) (t:(a.eval b).cells=g.toArray) (m:g.length=q.size) (k:∀b∈g,b.oneCell'=true) (f:hS w h c (c+q.size)):(execOp a.eval o).run E.P w=.ok .skip (w.setCells h c g):=by have s:=(E.ok G d l).lay p;have j:=run_storeCells_cells (P:=E.P) h c g 0 w (λe n=>by simpa using(f (c+e) U U).1) (λe n=>by simpa using(f (c+e) U U).2) k;simp only[jM] at j;have:(storeVar G ⟨h,c,none⟩ (a.eval b)).run E.P w=.ok () (w.setCells h c g):=(by simp only[storeVar,t,Sem.run_bind,s.sizeOf,Result.andThen_ok];simpa[m] using j);simp[execOp,r,u,Instr.storeAt,Instr.sureAddr,this]
theorem aaJ (dl:o.op=.store G i b) (bd:o.dst=none) (c:(Ct E.tt st G (aO st.g i) (aO st.g b)).K Q):dz E C o st Q:=by
 rintro a w ⟨I,rt,fp,f⟩ next av c2
 have h:=f.aO b;unfold Ct at c;split at c
 ·exact c.elim
 rename_i id fs ds;split at c
 case h_2=>exact c.elim
 rename_i f3 f1 an q W;split at c
 ·exact c.elim
 rename_i u d3;cases x:a5 an u with
 |false=>rw[x] at c;exact c.elim
 |true=>
 rw[x] at c;simp only[cond_true] at c;obtain⟨U,O,em,d5,z⟩:=Zg f ds q d3;have J:=(E.ok G an W).lay x;have H:∀(k:abU) (S:aH) (e:Nat->abU) (d:Nat->ab0),(a.eval b).cells=k.toArray->k.length=u.size->(∀b∈k,b.oneCell'=true)->hS w U O (O+u.size)->bE C S a.tmps (w.setCells U O k) I e d->Q S->o.wp E.P a w next av:=by
  intro k S e d aj D a0 a3 d1 d0;unfold Oper.wp;rw[aaK W x dl d5 aj D a0 a3];show next (a.put o.dst undef) _
  rw[bd];exact c2 _ _ _ d0 rfl ⟨I,e,d,d1⟩
 split at c
 ·rename_i j ad F;split at c
  case h_2=>exact c.elim
  rename_i f4 fT A;cases v:Nat.beq id j with
  |true=>rw[v] at c;exact c.elim
  |false=>
   rw[v] at c;obtain⟨⟨T,ap⟩,⟨bB,p⟩,c⟩:=c;have c1:id≠j:=λB=>(by rw[B,o5] at v;cases v);rw[F] at h;generalize N:a.eval b=ed at h;cases h with|ref r M=>
   rw[A] at r;cases r;obtain⟨t,am,ft⟩:=f.tree j _ A;obtain⟨fn,eq,f2,fz,d7,s,_,ab,_⟩:=Bb ad (τ':=u) (y:=T) t (loc:=none) (λ_ _ c=>by cases c) am (λ_ _ c=>by cases c) (f.notM A) bB;obtain⟨rfl,rfl,rfl⟩:=M.iu d7;have cv:f2.Nodup:=(iJ.1 (ab.nodup_iff.1 am)).1;obtain⟨n,e,d,m⟩:=f.store q z p s cv (S2:=[j]) (by simpa using c1) (λV L=>.inr ⟨j,ac,_,A,ab.mem_iff.2 (by simp[L])⟩);exact H _ _ e d (by rw[N];exact nB J s.len s.one) s.len s.one n m c
 ·rename_i j ad el f0 d8 F;split at c
  case isFalse=>exact c.elim
  rename_i B;subst B;obtain⟨⟨ek,ap⟩,⟨rfl,rfl,bl,p⟩,c⟩:=c;rw[F] at h;generalize N:a.eval b=ed at h;cases h with|app r ci M bs a4 ex l Y d2 cs=>
  rw[q] at r;cases r;obtain rfl:=db.uniq bl bs;obtain⟨_,aj,D⟩:=z.iu M;subst aj;subst D;have co:(ah.osl el).ix=true:=ci;obtain⟨n,e,d,m⟩:=f.store q z p l cs (S2:=d8) (λce=>(Y _ ce).1 rfl) (λV L=>by
   rcases d2 V L with R|⟨Z,X,R⟩
   ·exact .inl ⟨_,ek,co,a4,R⟩
   ·obtain⟨_,d9,d4⟩:=Y Z X;exact .inr ⟨Z,X,d9,d4,R⟩)
  exact H _ _ e d (by rw[N];have:=nB J l.len l.one;exact this) l.len l.one n m c
 ·split at c
  case h_2=>exact c.elim
  rename_i T d6;obtain⟨ap,p,c⟩:=c;have t:=Dm J h d6;obtain⟨n,e,d,m⟩:=f.store q z p t ac (S2:=[]) ac ac;exact H _ _ e d ac t.len t.one n m c
end
end
section
theorem A9 (a:List (List z)) (c b:Nat):((a.take b).drop c).flatten.Sublist a.flatten:=by have d:a.flatten=((a.take b).take c).flatten++((a.take b).drop c).flatten++(a.drop b).flatten:=(by rw[<-oZ,lG,<-oZ,lG]);rw[d];exact(List.sublist_append_right _ _).trans (List.sublist_append_left _ _)
section
variable {E:dY} {C:dA} {st:aH} {a:Act} {A:abS} {w:World} {I:Nat->Prop} {rt:Nat->abU} {fp:Nat->ab0} {o:Oper} {Q:aH->Prop}
def y6 (c:List (Nat×ah)) (st:aH) (a:Nat) (i:ak):tY:=
 match i with
 |.ref id []=>match al st.h id with
  |some b=>.du ⟨(a,.ref a [])::kill [id,a] [] st.g,(a,b)::del [id,a] st.h⟩
  |none=>.bad
 |.ref id f=>bif Nat.beq id a then .bad else .du ⟨(a,.ref id f)::kill [a] [] st.g,del [a] st.h⟩
 |.view id [] e d=>match al st.h id with
  |some ⟨.osl b,j⟩=>.du ⟨(a,.ref a [])::kill [id,a] [] st.g,(a,⟨.osl b,(j.take d).drop e⟩)::del [id,a] st.h⟩
  |_=>.bad
 |.cv (.slice none 0 0)=>match al c a with
  |some (.osl b)=>.du ⟨(a,.ref a [])::kill [a] [] st.g,(a,⟨.osl b,[]⟩)::del [a] st.h⟩
  |_=>.bad
 |_=>.bad
theorem lJ.one {w':World} {I':Nat->Prop} {S:ab0} {d:Nat} {t:aB} {cs:abU} {f:ab0} (u:d∈S\/al st.h d=none) (m:w.heap.size<=w'.heap.size) (n:w'.os=w.os) (o:w'.tape=w.tape) (p:w'.output=w.output) (q:∀a,a<w.heap.size->(∀id∈S,∀t,al st.h id=some t->a∉fp id)->w'.heap[a]?=w.heap[a]?) (v:∀a,a<w.heap.size->hA w' a=hA w a) (r:∀a,I a->I' a) (s:∀a,I' a->I a\/(a<w'.heap.size/\(w.heap.size<=a\/∃id∈S,∃t,al st.h id=some t/\a∈fp id))) (z:aN (bc I' C.B) w' t.1 cs t.2 f) (x:f.Nodup) (c:∀a∈f,¬I' a/\a<w'.heap.size/\(w.heap.size<=a\/∃j∈S,∃D,al st.h j=some D/\a∈fp j)):lJ C st w w' I I' rt fp S [] [(d,t)] (λ_=>cs) (λ_=>f):=by
 refine⟨m,n,o,p,q,λa c=>.of_eq (v a c),r,s,?_,?_,(λid g=>by cases g),(λid g=>by cases g)⟩
 ·intro A E b;rw[bY] at b;split at b
  ·rename_i k;subst k;obtain rfl:=dV b;exact⟨u,z,x,c⟩
  ·cases b
 ·intro A F E G e i y;rw[bY] at e i;split at e
  ·split at i
   ·rename_i aj l;exact absurd (aj.symm.trans l) y
   ·cases i
  ·cases e
theorem dz.Sb (d8:o.op=.assign b) (d4:o.dst=some c) (bd:C.ok c) (e:(y6 j st c (aO st.g b)).K Q):dz E C o st Q:=by
 rintro a w ⟨I,rt,fp,z⟩ next ap d7
 have p:=z.aO b;have bs:(execOp a.eval o).run E.P w=.ok (.value (a.eval b)) w:=(by simp[execOp,d8]);have O:∀(an:aH) (rtn:Nat->abU) (fpn:Nat->ab0),bE C an (a.tmps.setIfInBounds c (a.eval b)) w I rtn fpn->Q an->o.wp E.P a w next ap:=by
  intro an rtn fpn G Y;unfold Oper.wp;rw[bs];show next (a.put o.dst (a.eval b)) w
  rw[d4];exact d7 _ _ _ Y rfl ⟨I,rtn,fpn,G⟩
 have J:∀(S:ab0) (i:aB) (L:abU) (q:ab0),c∈S->aN (bc I C.B) w i.1 L i.2 q->q.Nodup->(∀m∈q,∃ce∈S,∃em,al st.h ce=some em/\m∈fp ce)->a.eval b=bL i.1 L->Q ⟨(c,.ref c [])::kill S [] st.g,(c,i)::del S st.h⟩->o.wp E.P a w next ap:=by
  intro S i L q d5 G M r d9 Y;have v:=z.bZ (lJ.one (st:=st) (C:=C) (rt:=rt) (w':=w) (I':=I) (S:=S) (d:=c) (t:=i) (cs:=L) (f:=q) (.inl d5) (aY _) rfl rfl rfl (λ_ _ _=>rfl) (λ_ _=>rfl) (λ_ e=>e) (λ_ e=>.inl e) G M (λm d3=>by
   obtain⟨x,l,co,v,a4⟩:=r m d3;obtain⟨ar,ek,ad,ci⟩:=(z.tree x co v).2.2 m a4;exact⟨ar,ad,.inr ⟨x,l,co,v,a4⟩⟩))
  refine O _ _ _ (v.put bd (av:=.ref c []) ?_) Y;rw[d9];refine .ref (t:=i) (loc:=none) (by rw[iR,bY,if_pos rfl];rfl) ?_;rw[BE];exact aP.here
 unfold y6 at e;split at e
 ·rename_i id n;split at e
  case h_2=>exact e.elim
  rename_i i u;rw[n] at p;obtain⟨am,F,el⟩:=z.tree id i u;refine J [id,c] i (rt id) (fp id) ac am F (λm r=>⟨id,ac,i,u,r⟩) ?_ e;generalize bB:a.eval b=cv at p;cases p with|ref H X=>
  rw[u] at H;cases H;obtain⟨rfl,rfl,rfl⟩:=aP.eX.1 X;rfl
 ·rename_i id ab _ n;cases r:Nat.beq id c with
  |true=>rw[r] at e;exact e.elim
  |false=>
   rw[r] at e;have d6:id≠c:=λd0=>(by rw[d0,o5] at r;cases r);have v:=z.bZ (S:=[c]) (keep:=[]) (new:=[]) (rtn:=rt) (fpn:=fp) (w':=w) (I':=I) ⟨aY _,rfl,rfl,rfl,λ_ _ _=>rfl,λ_ _=>.refl _ _,λ_ e=>e,λ_ e=>.inl e,(λ_ _ e=>by cases e),(λ_ _ _ _ e=>by cases e),(λ_ e=>by cases e),(λ_ e=>by cases e)⟩;refine O _ _ _ (v.put bd (av:=.ref id ab) ?_) e;have:=v.aO (a:=a) b;have d1:aO (kill [c] [] st.g) b=.ref id ab:=by
    cases b with
    |tmp i=>
     show gt (kill [c] [] st.g) i=_;rw[ns,show gt st.g i=.ref id ab from n];have:dj id [c]=false:=by
      cases W:dj id [c]
      ·rfl
      ·exact absurd (by simpa using ep.1 W) d6
     simp[ej,dB,ak.dR,ak.ids,this]
    |const eq=>exact absurd n (by cases eq<;>simp[aO])
    |global f0=>cases n
    |func q=>cases n
   rw[<-d1];exact this
 ·rename_i id k l n;split at e
  case h_2=>exact e.elim
  rename_i i c1 u;rw[n] at p;obtain⟨am,F,el⟩:=z.tree id _ u;generalize bB:a.eval b=cv at p J O bs;cases p with|ku=>(exact J [id,c] ⟨.osl i,[]⟩ [.slice none 0 0] [] ac ⟨none,0,rfl,.inl ⟨rfl,rfl,rfl,rfl⟩⟩ ac ac rfl e)|view H X f3 f4 f5=>
  rename_i m D f6 s;rw[u] at H;cases H;obtain⟨aj,_,d2⟩:=aP.eX.1 X;cases aj;obtain⟨fn,fz,T,G⟩:=am;rw[d2] at T;simp only[fY,Value.slice.injEq,and_true] at T;obtain⟨rfl,rfl,rfl⟩:=T;rcases G with⟨R,_⟩|⟨fs,f7,y,R,bl,ar,ek,ad,ci⟩
  ·cases R
  cases R;have V:((c1.take l).drop k).length=l-k:=(by simp;omega);refine J [id,c] ⟨.osl i,(c1.take l).drop k⟩ [.slice (some ⟨m,if s=k then D else D+k*i.size,none⟩) (l-k) (s-k)] (m::((y.take l).drop k).flatten) ac ?_ ?_ ?_ rfl e
  ·refine⟨some ⟨m,if s=k then D else D+k*i.size,none⟩,s-k,by rw[V],.inr ⟨m,_,(y.take l).drop k,rfl,rfl,by simp[ar],by simp only[V];omega,?_,?_⟩⟩
   ·intro ed a0 a3;by_cases A:s=k
    ·subst A;simp at a0 a3;omega
    ·rw[if_neg A] at a0 a3;have:k*i.size+(s-k)*i.size=s*i.size:=(by rw[<-eD];congr 1;omega);exact ad ed U U
   ·intro x ex q Z M;have f2:x<l-k:=(by rw[<-V];exact(ey.1 Z).1);rw[iG,k3 U] at Z M;obtain⟨ds,c2,fT,dl⟩:=ci (k+x) ex q Z M;refine⟨ds,c2,?_,dl⟩;rw[if_neg U];rwa[show D+k*i.size+x*i.size=D+(k+x)*i.size by rw[eD];omega]
  ·rw[bl] at F;have N:((y.take l).drop k).flatten.Sublist y.flatten:=A9 _ _ _;rw[jn] at F|-;exact⟨λW=>F.1 (N.subset W),F.2.sublist N⟩
  ·intro ft A;refine⟨id,ac,_,u,?_⟩;rw[bl];rcases dh.1 A with rfl|A
   ·simp
   ·have N:((y.take l).drop k).flatten.Sublist y.flatten:=A9 _ _ _;exact e0 _ (N.subset A)
 ·rename_i n;split at e
  case h_2=>exact e.elim
  rename_i i f1;rw[n] at p;refine J [c] ⟨.osl i,[]⟩ [.slice none 0 0] [] ac ⟨none,0,rfl,.inl ⟨rfl,rfl,rfl,rfl⟩⟩ ac ac ?_ e;generalize bB:a.eval b=cv at p;cases p;rfl
 ·exact e.elim
end
end
section
inductive kl (σ:ah) where
 |du (yB:List σ.den)
 |part (α:Type) (φ:α->Prop) (f:α->List σ.den)
 |bad
def p5 (g:List (Nat×aB)) (b:ah) (k:ak):kl b:=
 match k with
 |.val (.a6 _ j) a=>if e:j=b then .du (e▸a) else .bad
 |.cv (.slice none 0 0)=>.du []
 |.ref id c=>match al g id with
  |some ⟨f,d⟩=>bif b.pure then .part (List b.den) (λa=>db f d c (.osl b) a) (λa=>a) else .bad
  |none=>.bad
 |.view id c i h=>match al g id with
  |some ⟨f,d⟩=>bif b.pure then .part (List b.den) (λa=>db f d c (.osl b) a) (λa=>(a.take h).drop i) else .bad
  |none=>.bad
 |_=>.bad
def kl.to {f:ah} (g:kl f) (c:Nat->Prop) (b:List f.den->aH):tY:=
 match g with
 |.du e=>.part Unit (λ_=>c e.length) (λ_=>b e)
 |.part h i d=>.part h (λa=>i a/\c (d a).length) (λa=>b (d a))
 |.bad=>.bad
def y4 (
 tt:List (TypeId×ah)) (t:List (Nat×ah)) (st:aH) (a:Nat) (s:TypeId) (j k:ak):tY:=
 match e7 tt s with
 |none=>.bad
 |some o=>match j with
  |.ref id []=>match al st.h id with
   |some ⟨.osl b,d⟩=>bif a5 o b&&Nat.ble b.size 1300 then
    match b.pure,k with
    |false,.ref n []=>match al st.h n with
     |some ⟨.osl v,c⟩=>if e:v=b then bif Nat.beq id n then .bad else .part Unit (λ_=>d.length+c.length<=fq) (λ_=>⟨(a,.ref a [])::kill [id,n,a] [] st.g,(a,⟨.osl b,d++(e▸c)⟩)::del [id,n,a] st.h⟩) else .bad
     |_=>.bad
    |_,k=>(p5 st.h b k).to (λl=>d.length+l<=fq) (λc=>⟨(a,.ref a [])::kill [id,a] [] st.g,(a,⟨.osl b,d++c⟩)::del [id,a] st.h⟩)
    else .bad
   |_=>.bad
  |.ref id f=>match al st.h id,al st.h a with
   |some ⟨m,j⟩,none=>match dO m f with
    |some (.osl b)=>bif a5 o b&&Nat.ble b.size 1300&&b.ix then
     match p5 st.h b k with
     |.du c=>.part (List b.den) (λd=>db m j f (.osl b) d/\d.length+c.length<=fq) (λ_=>⟨(a,.app id f b c [a])::kill [id] [(id,f),(id,[])] st.g,(a,⟨.de,()⟩)::(id,⟨m,j⟩)::del [id] st.h⟩)
     |.part u w p=>.part (List b.den×u) (λi=>db m j f (.osl b) i.1/\w i.2/\i.1.length+(p i.2).length<=fq) (λi=>⟨(a,.app id f b (p i.2) [a])::kill [id] [(id,f),(id,[])] st.g,(a,⟨.de,()⟩)::(id,⟨m,j⟩)::del [id] st.h⟩)
     |.bad=>.bad
     else .bad
    |_=>.bad
   |_,_=>.bad
  |.view id [] r q=>match al st.h id with
   |some ⟨.osl b,d⟩=>bif a5 o b&&Nat.ble b.size 1300 then
    (p5 st.h b k).to (λl=>((d.take q).drop r).length+l<=fq) (λc=>⟨(a,.ref a [])::kill [id,a] [] st.g,(a,⟨.osl b,(d.take q).drop r++c⟩)::del [id,a] st.h⟩)
    else .bad
   |_=>.bad
  |.cv (.slice none 0 0)=>match al t a with
   |some (.osl b)=>bif a5 o b&&Nat.ble b.size 1300 then
    (p5 st.h b k).to (λl=>l<=fq) (λc=>⟨(a,.ref a [])::kill [a] [] st.g,(a,⟨.osl b,c⟩)::del [a] st.h⟩)
    else .bad
   |_=>.bad
  |_=>.bad
section
variable {E:dY} {C:dA} {st:aH} {a:Act} {A:abS} {w:World} {I:Nat->Prop} {rt:Nat->abU} {fp:Nat->ab0} {o:Oper} {Q:aH->Prop}
def we (I:Nat->Prop) (e:Nat->Prop) (w:World) (d:ah) (g:Value) (c:List d.den):Prop:=
 ∃b f a,g=.slice b c.length f/\iV (bc I e) w d b c a/\a.flatten=[]
theorem D5 {b:c6} (c:∀a∈b,a=[]):b.flatten=[]:=by
 induction b with
 |nil=>rfl
 |cons f g e=>rw[iE,c f ac,e (λa d=>c a (e0 _ d))];rfl
theorem iV.pure {f:dd->Nat->Prop} {e:ah} {g:Option Addr} {d:List e.den} {c:c6} (j:e.pure=true) (a:iV f w e g d c):c.flatten=[]:=by
 refine D5 (λn h=>?_);obtain⟨i,a⟩:=a;obtain⟨b,p,rfl⟩:=fH.1 h;rcases a with rfl|⟨l,o,_,a⟩
 ·simp only[o3] at i;omega
 ·have q:b<d.length:=U;obtain⟨m,_,_,k⟩:=a b d[b] c[b] ac ac;exact k.pure j
def kl.holds {c:ah} (e:kl c) (b:List c.den):Prop:=
 match e with
 |.du f=>b=f
 |.part g h d=>∃a:g,h a/\b=d a
 |.bad=>False
theorem kl.Cx {f:kl d} {g:List d.den->aH} (b:(f.to k g).K Q):∃a,f.holds a/\k a.length/\Q (g a):=by
 unfold kl.to at b;cases f with
 |du a=>obtain⟨_,c,e⟩:=b;exact⟨a,rfl,c,e⟩
 |part l m j=>obtain⟨h,⟨c,e⟩,i⟩:=b;exact⟨j h,⟨h,c,rfl⟩,e,i⟩
 |bad=>exact b.elim
theorem tC (y:bE C st a.tmps w I rt fp) {u:List d.den} (c:(p5 st.h d (aO st.g b)).holds u):we I C.B w d (a.eval b) u:=by
 have e:=y.aO b;unfold p5 at c;generalize Y:a.eval b=a0 at e;split at c
 ·rename_i an av q j;split at c
  case isFalse=>exact c.elim
  rename_i n;subst n;obtain rfl:u=q:=c;rw[j] at e;cases e with|val H=>
  have P:=H;obtain⟨_,v,m,rfl,_⟩:=P;obtain⟨_,f⟩:=iV.a6 H;exact⟨v,m,_,rfl,f,ac⟩
 ·rename_i j;obtain rfl:u=[]:=c;rw[j] at e;cases e;exact⟨none,0,[],rfl,⟨rfl,.inl rfl⟩,rfl⟩
 ·rename_i id O j;split at c
  case h_2=>exact c.elim
  rename_i R Q o;cases l:d.pure with
  |false=>rw[l] at c;exact c.elim
  |true=>
   rw[l] at c;obtain⟨q,z,rfl⟩:=c;rw[j] at e;cases e with|ref p D=>
   rw[o] at p;cases p;obtain⟨rfl,x,s,_⟩:=y.jB o z D;have N:=s;obtain⟨v,m,rfl,_⟩:=N;obtain⟨_,_,r,f,_⟩:=iV.osl s;exact⟨v,m,r,rfl,f,f.pure l⟩
 ·rename_i id O i k j;split at c
  case h_2=>exact c.elim
  rename_i R Q o;cases l:d.pure with
  |false=>rw[l] at c;exact c.elim
  |true=>
   rw[l] at c;obtain⟨q,z,rfl⟩:=c;rw[j] at e;cases e with|ku=>(exact⟨none,0,[],rfl,⟨rfl,.inl rfl⟩,rfl⟩)|view p D Z ab ad=>
   rename_i J G am m;rw[o] at p;cases p;obtain⟨n,x,s,_⟩:=y.jB o z D;cases n;obtain⟨aj,_,r,f,_⟩:=iV.osl s;have A:((q.take k).drop i).length=k-i:=(by simp;omega);show we I C.B w d _ ((q.take k).drop i);refine⟨_,m-i,(r.take k).drop i,by rw[A],⟨by simp[f.1],?_⟩,?_⟩
   ·obtain⟨W,f⟩:=f;by_cases X:k=i
    ·left;apply k2;omega
    ·right;rcases f with rfl|⟨S,ap,n,f⟩
     ·simp at A;omega
     ·cases n;refine⟨J,_,rfl,λt b x e E=>?_⟩;have V:t<k-i:=(by rw[<-A];exact(ey.1 e).1);rw[iG,k3 U] at e E;obtain⟨M,K,T,L⟩:=f (i+t) b x e E;refine⟨M,K,?_,L⟩;rw[if_neg U];rwa[show G+i*d.size+t*d.size=G+(i+t)*d.size by rw[eD];omega]
   ·have:=f.pure l;have F:=A9 r i k;rw[this] at F;exact List.sublist_nil.1 F
 ·exact c.elim
theorem abs {b p:Nat} {q:List d.den} (A:aN f w (.osl d) [.slice (some ⟨b,O,none⟩) p M] q m) (l:m.Nodup) (N:c<=h) (P:h<=p) (Q:p<=M):∃i,aN f w (.osl d) [.slice (some ⟨b,if M=c then O else O+c*d.size,none⟩) (h-c) (M-c)] ((q.take h).drop c) i/\i.Nodup/\∀r∈i,r∈m:=by
 obtain⟨H,J,v,C⟩:=A;simp only[fY,Value.slice.injEq,and_true] at v;obtain⟨rfl,rfl,rfl⟩:=v;rcases C with⟨j,_⟩|⟨I,R,e,j,rfl,ar,S,E,F⟩
 ·cases j
 cases j;have k:((q.take h).drop c).length=h-c:=(by simp;omega);have n:((e.take h).drop c).flatten.Sublist e.flatten:=A9 _ _ _;refine⟨b::((e.take h).drop c).flatten,⟨some ⟨b,if M=c then O else O+c*d.size,none⟩,M-c,by rw[k],.inr ⟨b,_,(e.take h).drop c,rfl,rfl,by simp[ar],by rw[k];omega,?_,?_⟩⟩,?_,?_⟩
 ·intro D s t;by_cases a:M=c
  ·subst a;simp at s t;omega
  ·rw[if_neg a] at s t;have:c*d.size+(M-c)*d.size=M*d.size:=(by rw[<-eD];congr 1;omega);exact E D U U
 ·intro g G m o u;have L:g<h-c:=(by rw[<-k];exact(ey.1 o).1);rw[iG,k3 U] at o u;obtain⟨z,x,K,y⟩:=F (c+g) G m o u;refine⟨z,x,?_,y⟩;rw[if_neg U];rwa[show O+c*d.size+g*d.size=O+(c+g)*d.size by rw[eD];omega]
 ·rw[jn] at l|-;exact⟨λB=>l.1 (n.subset B),l.2.sublist n⟩
 ·intro r a;rcases dh.1 a with rfl|a
  ·simp
  ·exact e0 _ (n.subset a)
theorem Hw (d:o.op=.call {callee:=.builtin .append,args:=#[b,i],argTypes:=#[G,G]}) {c:Value} (f:(Builtin.append_ #[G,G] o.type #[a.eval b,a.eval i]).run E.P w=.ok c e):(execOp a.eval o).run E.P w=.ok (.value c) e:=by simp only[execOp,d,resolve,invoke,builtin,Sem.run_bind,Sem.run_pure,Result.andThen_ok,vZ,er,List.map_nil,f]
theorem dz.wi (c2:o.op=.call {callee:=.builtin .append,args:=#[b,i],argTypes:=#[G,G]}) (a0:o.dst=some M) (bd:C.ok M) (v:bE C st a.tmps w I rt fp) {next:Act->World->Prop} (c1:∀V D u,Q V->D.defers=a.defers->ff C V D.tmps u->next D u) {W:ah} (an:e7 E.tt G=some W) (ci:a5 W q=true) (d1:q.size<=1300) {S:ab0} (a3:M∈S) {R J:Nat} {xs x:List q.den} {f1:ab0} {z:c6} (d3:a.eval b=.slice r R J) (d0:aN (bc I C.B) w (.osl q) [.slice r R J] xs f1) (bB:f1.Nodup) (A:∀e∈f1,∃j∈S,∃k,al st.h j=some k/\e∈fp j) (d4:a.eval i=.slice T x.length O) (bl:iV (bc I C.B) w q T x z) (ce:z.flatten.Nodup) (L:∀e∈z.flatten,∃j∈S,∃k,al st.h j=some k/\e∈fp j) (a4:∀e∈f1,e∉z.flatten) (co:xs.length+x.length<=fq) (dl:Q ⟨(M,.ref M [])::kill S [] st.g,(M,⟨.osl q,xs++x⟩)::del S st.h⟩):o.wp E.P a w next s:=by
 obtain⟨j,ex,fn,Z,ab⟩:=e7.ok an;have K:=ab.lay ci;obtain⟨fs,_,d5,_⟩:=K.info;have H:∀j k,al st.h j=some k->∀e∈fp j,e<w.heap.size/\∀N,¬bc I C.B N e:=λj k m e l=>⟨((v.tree j k m).2.2 e l).2.2.1,v.notM m e l⟩;obtain⟨y,u,f2,d6,d8,_,aU,d9,ed,ek,el,em,d7,f0,_,eq⟩:=Hx (P:=E.P) (ty:=o.type) Z K d5.info d1 d0 (c:=O) bl bB (λe l=>by obtain⟨j,_,k,m,n⟩:=A e l;exact(H j k m e n).2) ce a4 (λN e cv=>v.ib e (l3 cv)) (λe l=>by obtain⟨j,_,k,m,n⟩:=A e l;exact(H j k m e n).1) (λe l=>by obtain⟨j,_,k,m,n⟩:=L e l;exact(H j k m e n).1) co;have ds:(execOp a.eval o).run E.P w=.ok (.value y) u:=Hw (E:=E) c2 (by rw[d3,d4];exact d6);have ap:∀e∈f2,(∃j∈S,∃k,al st.h j=some k/\e∈fp j)\/(w.heap.size<=e/\e<u.heap.size):=λe l=>by
  rcases d9 e l with p|p|p
  ·exact .inl (A e p)
  ·exact .inl (L e p)
  ·exact .inr p
 have d2:=v.bZ (lJ.one (st:=st) (C:=C) (rt:=rt) (w':=u) (I':=I) (S:=S) (d:=M) (t:=⟨.osl q,xs++x⟩) (cs:=[y]) (f:=f2) (.inl a3) ed ek el em (λe l am=>d7 e l (λbs=>by obtain⟨j,F,k,m,n⟩:=A e bs;exact am j F k m n)) eq (λ_ p=>p) (λ_ p=>.inl p) d8 aU (λe l=>by
   rcases ap e l with⟨j,F,k,m,n⟩|⟨X,Y⟩
   ·obtain⟨ar,ft,fz,fT⟩:=(v.tree j k m).2.2 e n;exact⟨ar,U,.inr ⟨j,F,k,m,n⟩⟩
   ·exact⟨λad=>by have:=v.ib e (.inl ad);omega,Y,.inl X⟩))
 unfold Oper.wp;rw[ds];show next (a.put o.dst y) u
 rw[a0];refine c1 _ _ _ dl rfl ⟨I,_,_,d2.put bd (av:=.ref M []) ?_⟩;have:y=bL (.osl q) [y]:=rfl;rw[this];refine .ref (t:=⟨.osl q,xs++x⟩) (loc:=none) (by rw[iR,bY,if_pos rfl];rfl) ?_;rw[BE];exact aP.here
end
end
section
section
variable {E:dY} {C:dA} {st:aH} {a:Act} {A:abS} {w:World} {I:Nat->Prop} {rt:Nat->abU} {fp:Nat->ab0} {o:Oper} {Q:aH->Prop}
theorem Hz (kg:o.op=.call {callee:=.builtin .append,args:=#[b,i],argTypes:=#[G,G]}) (am:o.dst=some M) (ic:C.ok M) (y:bE C st a.tmps w I rt fp) {next:Act->World->Prop} (kd:∀f5 bs w',Q f5->bs.defers=a.defers->ff C f5 bs.tmps w'->next bs w') {bl:ah} (hr:e7 E.tt G=some bl) (i1:a5 bl q=true) (lb:q.size<=1300) (ds:q.ix=true) {id:Nat} (ii:aO st.g b=.ref id l) {p:d.den} (v:al st.h id=some ⟨d,p⟩) (an:al st.h M=none) {D a0:List q.den} (c1:db d p l (.osl q) D) {S2:ab0} (lo:∃d6 F J,a.eval i=.slice d6 a0.length F/\iV (bc I C.B) w q d6 a0 J/\J.flatten.Nodup/\∀e∈J.flatten,∃k∈S2,∃H,al st.h k=some H/\e∈fp k) (ci:∀k∈S2,k≠id/\∃bl,al st.h k=some bl) (i2:D.length+a0.length<=fq) (d0:Q ⟨(M,.app id l q a0 (M::S2))::kill [id] [(id,l),(id,[])] st.g,(M,⟨.de,()⟩)::(id,⟨d,p⟩)::del [id] st.h⟩):o.wp E.P a w next s:=by
 obtain⟨k,pr,ab,gt,gv⟩:=e7.ok hr;have d9:=gv.lay i1;obtain⟨rd,_,mz,_⟩:=d9.info;have d2:=y.aO b;rw[ii] at d2;generalize lk:a.eval b=rl at d2;cases d2 with|ref x dl=>
 rename_i rs d7 f7;rw[v] at x;cases x;simp only at dl;obtain⟨nd,d3,d4⟩:=y.tree id _ v;obtain⟨rg,pz,W,d5,gf,d8,gi,Z,gl,go,gs⟩:=xz l (loc:=none) nd (λ_ _ j=>by cases j) d3 (λ_ _ j=>by cases j) (y.notM v) c1;obtain⟨f8,aj,f9⟩:=dl.iu gf;subst f8;subst aj;subst f9;have fn:=Z.nodup_iff.1 d3;rw[iJ] at fn;obtain⟨i3,ex,i8⟩:=fn;obtain⟨bB,ce,rfl,_⟩:=(show aN (bc I C.B) w (.osl q) f7 D W from d8);obtain⟨d6,F,J,lp,io,is,cv⟩:=lo;have N:∀e∈W,e∈fp id:=λe f=>Z.mem_iff.2 (by simp[f]);have L:∀e∈fp id,e<w.heap.size/\∀R,¬bc I C.B R e:=λe f=>⟨(d4 e f).2.2.1,y.notM v e f⟩;have ft:∀e∈J.flatten,e<w.heap.size:=λe f=>(by obtain⟨k,n,H,O,ad⟩:=cv e f;exact((y.tree k H O).2.2 e ad).2.2.1);obtain⟨f6,w',f2,nn,nx,f3,f4,n5,of,ol,on,or,f1,no,_,os⟩:=Hx (P:=E.P) (ty:=o.type) gt d9 mz.info lb d8 (c:=F) io i3 (λe f=>(L e (N e f)).2) is (λe f hv=>by
  obtain⟨k,n,H,O,ad⟩:=cv e hv;exact y.dis id k _ H v O (ci k n).1.symm e (N e f) ad)
  (λR e c2=>y.ib e (l3 c2)) (λe f=>(L e (N e f)).1) ft i2
 have la:(execOp a.eval o).run E.P w=.ok (.value f6) w':=Hw (E:=E) kg (by rw[lk,lp];exact nn);have fs:∀e∈d5,e<w.heap.size/\e∉W:=λe f=>⟨(L e (Z.mem_iff.2 (by simp[f]))).1,λj=>i8 e j e f rfl⟩;have d1:∀e,(∃R,bc I C.B R e)\/e∈d5->bU w w' e:=λe f=>by
  rcases f with⟨R,c2⟩|f
  ·exact no R e c2
  ·exact .of_heap (f1 e (fs e f).1 (fs e f).2)
 have hs:∀e T,d7=some (e,T)->dS w' e T [.slice bB D.length ce]:=λe T m=>by
  have f:e∈d5:=by
   rcases gl e T m with⟨bd,j,_⟩|j
   ·cases j
   ·exact j
  exact(gi e T m).1.ev (d1 e (.inr f))
 obtain⟨ra,X,lt,_,l2,_,mc,fz⟩:=go w' (bc I C.B) [.slice bB D.length ce] D W p (λ_ _ j=>j) (λe f=>by
  have a3:bU w w' e:=d1 e (by
   rcases f with j|j|⟨T,j⟩
   ·exact .inl j
   ·exact .inr j
   ·cases j)
  exact⟨λA _=>(a3.1 A).1,λA=>(a3.1 A).2,λA=>by rw[(a3.1 A).1],a3.2⟩) f3 (λ_ _=>rfl) hs (dH.same c1)
 obtain rfl:=l2 rfl (.inr rfl);have K:X.Perm (fp id):=mc.trans Z.symm;have u:M≠id:=λm=>(by rw[m,v] at an;cases an);have el:∀e∈f2,e∈W\/e∈J.flatten\/(w.heap.size<=e/\e<w'.heap.size):=λe f=>n5 e f
 let Y:=f2.filter λe=>decide (w.heap.size<=e)
 have cs:∀e∈Y,w.heap.size<=e/\e<w'.heap.size:=λe f=>by
  have ed:=fc.1 f;have ab:w.heap.size<=e:=(by simpa using ed.2);rcases el e ed.1 with j|j|j
  ·have:=(L e (N e j)).1;omega
  ·have:=ft e j;omega
  ·exact j
 have le:=y.bZ (S:=[id]) (keep:=[(id,l),(id,[])]) (new:=[(M,⟨.de,()⟩),(id,⟨d,p⟩)]) (rtn:=λk=>if k=M then[] else rt id) (fpn:=λk=>if k=M then Y else X) (w':=w') (I':=I) ⟨of,ol,on,or,λe f hi=>f1 e f (λj=>hi id ac _ v (N e j)),λe f=>.of_eq (os e f),λ_ j=>j,λ_ j=>.inl j,(by
   intro k V n;rw[bY] at n;split at n
   ·rename_i m;subst m;cases n;refine⟨.inr an,(by simp only[if_true];exact rfl),(by simp only[if_true];exact f4.filter _),λe f=>?_⟩;simp only[if_true] at f;obtain⟨ar,U⟩:=cs e f;exact⟨λhc=>by have:=y.ib e (.inl hc);omega,U,.inl ar⟩
   ·rw[bY] at n;split at n
    ·rename_i _ m;subst m;cases n;have r:¬(id=M):=λm=>u m.symm;refine⟨.inl ac,(by simp only[if_neg r];exact lt),(by simp only[if_neg r];rw[K.nodup_iff];exact d3),λe f=>?_⟩;simp only[if_neg r] at f;rw[K.mem_iff] at f;exact⟨(d4 e f).1,by have:=(d4 e f).2.2.1;omega,.inr ⟨id,ac,_,v,f⟩⟩
    ·cases n),(by
   intro k A oN pl n i0 eq e f;have ek:∀a4 V,al [(M,(⟨.de,()⟩:aB)),(id,⟨d,p⟩)] a4=some V->a4=M\/a4=id:=λa4 V z=>by
    rw[bY] at z;split at z
    ·rename_i m;exact .inl m.symm
    ·rw[bY] at z;split at z
     ·rename_i _ m;exact .inr m.symm
     ·cases z
   have r:¬(id=M):=λm=>u m.symm;rcases ek k oN n with rfl|rfl<;>rcases ek A pl i0 with rfl|rfl
   ·exact absurd rfl eq
   ·simp only[if_true] at f;simp only[if_neg r];rw[K.mem_iff];intro j;have:=(L e j).1;have:=(cs e f).1;omega
   ·simp only[if_neg r] at f;simp only[if_true];rw[K.mem_iff] at f;intro j;have:=(L e f).1;have:=(cs e j).1;omega
   ·exact absurd rfl eq),(by
   intro k n V x;have ap:k=(id,l)\/k=(id,[]):=(by simpa using n);have ab:k.1=id:=by rcases ap with rfl|rfl<;>rfl
   have x:al st.h id=some V:=(by rw[<-ab];exact x);rw[v] at x;obtain rfl:=dV x;have r:¬(id=M):=λm=>u m.symm;refine⟨⟨d,p⟩,by rw[ab,bY,if_neg u,bY,if_pos rfl],rfl,by rw[ab];simp only[if_neg r],(by rcases ap with rfl|rfl;exact⟨_,dl.ty⟩;exact⟨d,by cases d<;>rfl⟩),λbd _ _ _ z d0=>?_⟩;rcases ap with rfl|rfl
   ·exact fz.2 bd _ _ _ z d0
   ·rw[Bp] at z;cases z),(by
   intro k n V x bd s0 ro fT ps rb am ds ex em k0;have ap:k=(id,l)\/k=(id,[]):=(by simpa using n);rcases ap with rfl|rfl
   ·rw[v] at x;obtain rfl:=dV x;have r:¬(id=M):=λm=>u m.symm;refine⟨⟨d,p⟩,by rw[bY,if_neg u,bY,if_pos rfl],em,λF hw=>?_⟩;obtain⟨ar,U⟩:=gs bd _ _ _ _ _ am (by exact ds) em ex k0 F hw;exact⟨by simp only[if_neg r];exact K.mem_iff.2 (Z.mem_iff.2 (k4 _ ar)),d1 F (.inr ar)⟩
   ·rw[sD] at am;cases am)⟩
 unfold Oper.wp;rw[la];show next (a.put o.dst f6) w'
 rw[am];refine kd _ _ _ d0 rfl ⟨I,_,_,le.put ic (av:=.app id l q a0 (M::S2)) ?_⟩;have r:¬(id=M):=λm=>u m.symm;have mo:al ([(M,(⟨.de,()⟩:aB)),(id,⟨d,p⟩)]++del [id] st.h) id=some ⟨d,p⟩:=(by rw[iR,bY,if_neg u,bY,if_pos rfl];rfl);have fT:al ([(M,(⟨.de,()⟩:aB)),(id,⟨d,p⟩)]++del [id] st.h) M=some ⟨.de,()⟩:=(by rw[iR,bY,if_pos rfl];rfl);have f0:al [(M,(⟨.de,()⟩:aB)),(id,⟨d,p⟩)] id=some ⟨d,p⟩:=(by rw[bY,if_neg u,bY,if_pos rfl]);have mp:al [(M,(⟨.de,()⟩:aB)),(id,⟨d,p⟩)] M=some ⟨.de,()⟩:=(by rw[bY,if_pos rfl]);have ge:dG [(M,(⟨.de,()⟩:aB)),(id,⟨d,p⟩)] (λk=>if k=M then Y else X) fp id=X:=(by simp only[dG,f0,if_neg r]);have gc:dG [(M,(⟨.de,()⟩:aB)),(id,⟨d,p⟩)] (λk=>if k=M then Y else X) fp M=Y:=(by simp only[dG,mp,if_true]);have ne:dG [(M,(⟨.de,()⟩:aB)),(id,⟨d,p⟩)] (λk=>if k=M then[] else rt id) rt id=rt id:=(by simp only[dG,f0,if_neg r]);have jp:aP w' d none (rt id) l (.osl q) d7 [.slice bB D.length ce]:=fz.1;refine .app (t:=⟨d,p⟩) mo ds (by rw[ne];exact jp) c1 f3 (λe f=>by rw[ge,K.mem_iff];exact N e f) nx ?_ ?_ f4
 ·intro k n;rcases dh.1 n with rfl|n
  ·exact⟨u,_,fT⟩
  ·obtain⟨ar,pm,U⟩:=ci k n;have co:¬(M=k):=λm=>(by rw[<-m,an] at U;cases U);refine⟨ar,pm,?_⟩;rw[iR,bY,if_neg co,bY,if_neg (λm=>ar m.symm),j2,if_neg (by simpa using ar),U];rfl
 ·intro e f;rcases el e f with j|j|j
  ·exact .inl j
  ·obtain⟨k,n,H,O,ad⟩:=cv e j;obtain⟨ar,_⟩:=ci k n;have co:¬(M=k):=λm=>(by rw[<-m,an] at O;cases O);have mt:al [(M,(⟨.de,()⟩:aB)),(id,⟨d,p⟩)] k=none:=(by rw[bY,if_neg co,bY,if_neg (λm=>ar m.symm)];rfl);exact .inr ⟨k,e0 _ n,by simp only[dG,mt];exact ad⟩
  ·exact .inr ⟨M,ac,by rw[gc];exact fc.2 ⟨f,by simpa using j.1⟩⟩
theorem Hy (O:o.op=.call {callee:=.builtin .append,args:=#[b,i],argTypes:=#[G,G]}) (A:o.dst=some c) (F:C.ok c) (y:bE C st a.tmps w I rt fp) {next:Act->World->Prop} (N:∀m e p,Q m->e.defers=a.defers->ff C m e.tmps p->next e p) {n:ah} (z:e7 E.tt G=some n) (K:a5 n d=true) (S:d.size<=1300) (M:d.ix=true) {id:Nat} (H:aO st.g b=.ref id l) {j:q.den} (T:al st.h id=some ⟨q,j⟩) (D:al st.h c=none) {r f:List d.den} (J:db q j l (.osl d) r) (U:we I C.B w d (a.eval i) f) (L:r.length+f.length<=fq) (R:Q ⟨(c,.app id l d f [c])::kill [id] [(id,l),(id,[])] st.g,(c,⟨.de,()⟩)::(id,⟨q,j⟩)::del [id] st.h⟩):o.wp E.P a w next s:=by obtain⟨V,t,u,v,x,k⟩:=U;exact Hz (S2:=[]) O A F y N z K S M H T D J ⟨V,t,u,v,x,by rw[k];exact .nil,by rw[k];simp⟩ ac L R
end
end
section
section
variable {E:dY} {C:dA} {st:aH} {o:Oper} {Q:aH->Prop}
theorem dz.app {dl:List (Nat×ah)} {W:TypeId} {A N:Operand} {t:Nat} (z:o.op=.call {callee:=.builtin .append,args:=#[A,N],argTypes:=#[W,W]}) (w:o.dst=some t) (x:C.ok t) (a:(y4 E.tt dl st t W (aO st.g A) (aO st.g N)).K Q):dz E C o st Q:=by
 rintro F J ⟨D,U,G,c⟩ next fn y
 have r:=c.aO A;unfold y4 at a;split at a
 ·exact a.elim
 rename_i V v;split at a
 ·rename_i id u;split at a
  case h_2=>exact a.elim
  rename_i e k i;cases b:(a5 V e&&Nat.ble e.size 1300) with
  |false=>rw[b] at a;exact a.elim
  |true=>
  rw[b] at a;simp only[bg] at b;obtain⟨l,d⟩:=b;have d:=eT d;simp only[cond_true] at a;rw[u] at r;generalize H:F.eval A=c1 at r;cases r with|ref M ad=>
  rw[i] at M;cases M;obtain⟨aj,_,L⟩:=aP.eX.1 ad;subst aj;subst L;obtain⟨I,T,el⟩:=c.tree id _ i;obtain⟨ap,Y,a3,_⟩:=(show aN (bc D C.B) J (.osl e) (U id) k (G id) from I);have ci:F.eval A=.slice ap k.length Y:=(by rw[H];show(U id).headD undef=_;rw[a3];rfl);have cs:aN (bc D C.B) J (.osl e) [.slice ap k.length Y] k (G id):=(by rw[<-a3];exact I);split at a
  ·rename_i m fT ds;split at a
   case h_2=>exact a.elim
   rename_i c2 s R;split at a
   case isFalse=>exact a.elim
   rename_i Z;subst Z;cases P:Nat.beq id m with
   |true=>rw[P] at a;exact a.elim
   |false=>
   rw[P] at a;have d3:id≠m:=λZ=>(by rw[Z,o5] at P;cases P);obtain⟨_,h,a⟩:=a;have am:=c.aO N;rw[ds] at am;generalize q:F.eval N=f7 at am;cases am with|ref ce d2=>
   rw[R] at ce;cases ce;obtain⟨aj,_,L⟩:=aP.eX.1 d2;subst aj;subst L;obtain⟨cv,eq,f6⟩:=c.tree m _ R;obtain⟨av,a0,a4,_⟩:=(show aN (bc D C.B) J (.osl c2) (U m) s (G m) from cv);have d4:F.eval N=.slice av s.length a0:=(by rw[q];show(U m).headD undef=_;rw[a4];rfl);have em:aN (bc D C.B) J (.osl c2) [.slice av s.length a0] s (G m):=(by rw[<-a4];exact cv);obtain⟨_,_,O,p,bl,d1,_⟩:=iV.osl em;exact dz.wi z w x c y v l d (S:=[id,m,t]) ac ci cs T (λn b=>⟨id,ac,_,i,b⟩) d4 p (d1 eq) (λn b=>⟨m,ac,_,R,bl n b⟩) (λn b d0=>c.dis id m _ _ i R d3 n b (bl n d0)) h a
  ·obtain⟨s,j,h,a⟩:=kl.Cx a;obtain⟨an,X,O,q,p,f⟩:=tC c j;exact dz.wi z w x c y v l d (S:=[id,t]) ac ci cs T (λn b=>⟨id,ac,_,i,b⟩) q p (by rw[f];simp) (by rw[f];simp) (by rw[f];simp) h a
 ·rename_i id f5 f0 u;split at a
  case h_2=>exact a.elim
  rename_i gc f8 i bd;split at a
  case h_2=>exact a.elim
  rename_i e f2;cases b:(a5 V e&&Nat.ble e.size 1300&&e.ix) with
  |false=>rw[b] at a;exact a.elim
  |true=>
  rw[b] at a;simp only[bg] at b;obtain⟨⟨l,d⟩,bB⟩:=b;have d:=eT d;simp only[cond_true] at a;split at a
  ·rename_i s j;obtain⟨k,⟨ab,h⟩,a⟩:=a;exact Hy z w x c y v l d bB u i bd ab (tC c (by rw[j];exact rfl)) h a
  ·rename_i f9 ge fp j;obtain⟨⟨k,d9⟩,⟨ab,d5,h⟩,a⟩:=a;exact Hy z w x c y v l d bB u i bd ab (tC c (by rw[j];exact⟨d9,d5,rfl⟩)) h a
  ·exact a.elim
 ·rename_i id co bs u;split at a
  case h_2=>exact a.elim
  rename_i e k i;cases b:(a5 V e&&Nat.ble e.size 1300) with
  |false=>rw[b] at a;exact a.elim
  |true=>
  rw[b] at a;simp only[bg] at b;obtain⟨l,d⟩:=b;have d:=eT d;simp only[cond_true] at a;rw[u] at r;obtain⟨I,T,el⟩:=c.tree id _ i;generalize H:F.eval A=c1 at r;cases r with|ku=>(obtain⟨s,j,h,a⟩:=kl.Cx a;obtain⟨an,X,O,q,p,f⟩:=tC c j;exact dz.wi z w x c y v l d (S:=[id,t]) ac (xs:=[]) (f1:=[]) H ⟨none,0,rfl,.inl ⟨rfl,rfl,rfl,rfl⟩⟩ ac ac q p (by rw[f];simp) (by rw[f];simp) ac (by simpa using h) (by simpa using a))|view M ad d6 d7 d8=>
  rename_i n f4 f3 Y;rw[i] at M;cases M;obtain⟨aj,_,L⟩:=aP.eX.1 ad;cases aj;obtain⟨s,j,h,a⟩:=kl.Cx a;obtain⟨an,X,O,q,p,f⟩:=tC c j;rw[L] at I;obtain⟨ex,ar,ed,ek⟩:=abs (show aN (bc D C.B) J (.osl e) _ k (G id) from I) T d6 d7 d8;have fz:((k.take bs).drop co).length=bs-co:=(by obtain⟨ft,_⟩:=iV.osl (show aN (bc D C.B) J (.osl e) _ k (G id) from I);simp;omega);exact dz.wi z w x c y v l d (S:=[id,t]) ac H ar ed (λn b=>⟨id,ac,_,i,ek n b⟩) q p (by rw[f];simp) (by rw[f];simp) (by rw[f];simp) h a
 ·rename_i u;split at a
  case h_2=>exact a.elim
  rename_i e fs;cases b:(a5 V e&&Nat.ble e.size 1300) with
  |false=>rw[b] at a;exact a.elim
  |true=>
  rw[b] at a;simp only[bg] at b;obtain⟨l,d⟩:=b;have d:=eT d;simp only[cond_true] at a;rw[u] at r;generalize H:F.eval A=c1 at r;cases r;obtain⟨s,j,h,a⟩:=kl.Cx a;obtain⟨an,X,O,q,p,f⟩:=tC c j;exact dz.wi z w x c y v l d (S:=[t]) ac (xs:=[]) (f1:=[]) H ⟨none,0,rfl,.inl ⟨rfl,rfl,rfl,rfl⟩⟩ ac ac q p (by rw[f];simp) (by rw[f];simp) ac (by simpa using h) (by simpa using a)
 ·exact a.elim
end
end
section
def g1 (E:dY) (C:dA) (B:Array Oper) (g:ab0) (st:aH) (Q:aH->Prop):Prop:=
 ∀(a:Act) (e:World),ff C st a.tmps e->∀c:Exit->Act->World->Prop,(∀d b f,Q d->b.defers=a.defers->ff C d b.tmps f->c .normal b f)->wpOps E.P B c g a e
def ji (B:Array Oper) (st:aH) (d:Oper) (a:Bool):Prop:=
 match d.guard with
 |none=>a=true
 |some (c,e)=>match(B[c]?).bind (·.dst) with
  |some b=>match gt st.g b with
   |.val .bool f=>(f==e)=a
   |.cv (.tuple _)=>a=false
   |_=>False
  |none=>False
section
variable {E:dY} {C:dA} {st:aH} {B:Array Oper} {Q:aH->Prop}
theorem ji.ok {c:Act} (j:bE C st c.tmps e k o p) {m:Oper} {i:Bool} (b:ji B st m i):Region.wanted m (yielded B c.tmps)=i:=by
 unfold ji at b;unfold Region.wanted;split at b
 ·rename_i g;rw[g];exact b.symm
 ·rename_i v u g;rw[g];split at b
  ·rename_i d l;split at b
   ·rename_i n h;have:=j.tmp d;rw[h] at this;generalize a:c.tmps.getD d undef=t at this;cases this with|val r=>
    obtain⟨_,rfl⟩:=r;have q:c.tmps[d]?=some (.bool n):=by
     rw[yD] at a;cases f:c.tmps[d]? with
     |none=>rw[f] at a;cases a
     |some s=>rw[f] at a;simp only[kB] at a;rw[a];rfl
    simp only[yielded,l,aG,q];rw[<-b];cases n<;>cases u<;>rfl
   ·rename_i w h;have:=j.tmp d;rw[h] at this;generalize a:c.tmps.getD d undef=t at this;cases this;subst b;simp only[yielded,l,aG];rw[yD] at a;cases f:c.tmps[d]? with
    |none=>rfl
    |some s=>rw[f] at a;simp only[kB] at a;rw[a];rfl
   ·exact b.elim
  ·exact b.elim
theorem g1.nil (b:Q st):g1 E C B [] st Q:=λa e c _ d=>d st a e b rfl c
theorem g1.op {a:Oper} (p:B[c]?=some a) (t:ji B st a true) (i:dz E C a st (λd=>g1 E C B m d Q)):g1 E C B (c::m) st Q:=by intro f v b e q;obtain⟨y,A,z,k⟩:=id b;simp only[wpOps,p];rw[t.ok k,if_pos rfl];exact .inl (i f v b _ _ (λd g w o l r=>o g w r e (λu h x j n s=>q u h x j (n.trans l) s)))
theorem g1.skip {a:Oper} (q:B[M]?=some a) (n:a.dst=some c) (p:C.ok c) (t:ji B st a false) (j:g1 E C B m ⟨(c,.cv undef)::st.g,st.h⟩ Q):g1 E C B (M::m) st Q:=by intro y w l e r;obtain⟨d,u,i,b⟩:=id l;simp only[wpOps,q];rw[t.ok b,if_neg ac,n];exact j _ w ⟨d,u,i,b.put p (.cv undef)⟩ e (λv f x k o s=>r v f x k o s)
theorem ff.wx {b:abS} {c:World} {st a:aH} (f:ff C st b c) (j:nh a.g st) (k:ni a.h st) (l:kM a.g a.h=true):ff C a b c:=by obtain⟨d,m,e,i⟩:=f;exact⟨d,m,e,i.wx j k (kM.get l)⟩
def J (E:dY) (C:dA) (e:Code) (st:aH) (Q:Exit->aH->Prop):Prop:=
 ∀(a:Act) (d:World),ff C st a.tmps d->a.defers=[]->e.wp E.P (λf b g=>∃c,Q f c/\ff C c b.tmps g/\b.defers=[]) a d
variable {A:Exit->aH->Prop}
theorem J.abv {b:Code} {a:aH} (i:nh a.g st) (j:ni a.h st) (k:kM a.g a.h=true) (d:J E C b a A):J E C b st A:=λc l e f=>d c l (e.wx i j k) f
theorem J.region {id:Nat} (c:g1 E C B (List.range B.size) st (λa=>A .normal a)):J E C (.region id B false) st A:=
 λb i d e=>wp_region (c b i d _ (λa _a' _w' g f h=>⟨a,g,h,f.trans e⟩))
theorem J.skip (a:A .normal st):J E C .skip st A:=λ_ _ b c=>wp_skip ⟨st,a,b,c⟩
theorem J.exit {id:Nat} (a:A (.exit id) st):J E C (.exit id) st A:=λ_ _ b c=>wp_exit ⟨st,a,b,c⟩
theorem J.ret (a:A .ret st):J E C .ret st A:=λ_ _ b c=>wp_ret ⟨st,a,b,c⟩
def aah (E:dY) (C:dA) (b:Code) (A:Exit->aH->Prop):Exit->aH->Prop
 |.normal,a=>J E C b a A
 |e,a=>A e a
theorem J.seq {d e:Code} (i:J E C d st (aah E C e A)):J E C (.seq d e) st A:=λf m j k=>by
 refine wp_seq (wp_mono (i f m j k) ?_);rintro h g n ⟨l,a,b,c⟩;cases h with
 |normal=>exact a g n b c
 |_=>exact⟨l,a,b,c⟩
theorem J.cond {a:Operand} {l m:Code} {c:Bool} (n:aO st.g a=.val .bool c) (p:c=true->J E C l st A) (o:c=false->J E C m st A):J E C (.cond a l m) st A:=by
 rintro b k ⟨f,j,h,e⟩ i;have:=e.aO a;rw[n] at this;generalize q:b.eval a=s at this;cases this with|val r=>
 obtain⟨_,rfl⟩:=r;exact wp_cond_split q (λd=>p d b k ⟨f,j,h,e⟩ i) (λd=>o d b k ⟨f,j,h,e⟩ i)
def Df (id:Nat) (A:Exit->aH->Prop):Exit->aH->Prop
 |.exit b,a=>match Nat.beq b id with
  |true=>A .normal a
  |false=>A (.exit b) a
 |e,a=>A e a
theorem J.block {id:Nat} {g:Code} (j:J E C g st (Df id A)):J E C (.block id g) st A:=λh n k m=>by
 refine wp_block (wp_mono (j h n k m) ?_);rintro i o p ⟨f,a,b,c⟩;cases i with
 |exit e=>
  simp only[Exit.inBlock];simp only[Df] at a;by_cases d:e=id
  ·subst d;rw[o5] at a;rw[if_pos rfl];exact⟨f,a,b,c⟩
  ·have:Nat.beq e id=false:=by
    cases l:Nat.beq e id
    ·rfl
    ·exact absurd (es l) d
   rw[this] at a;rw[if_neg d];exact⟨f,a,b,c⟩
 |_=>exact⟨f,a,b,c⟩
def ih {a c:Type} (b:a->Option (a⊕c)):Nat->a->Option c
 |0,_=>none
 |n+1,e=>match b e with
  |none=>none
  |some (.inl f)=>ih b n f
  |some (.inr d)=>some d
open Classical in
def loop {σ ρ:Type} (a:σ->Option (σ⊕ρ)) (d:σ):Option ρ:=
 if h:∃c,∃b,ih a b d=some c then some h.choose else none
theorem EN {e g:Type} {f:e->Option (e⊕g)}:∀{n b:Nat} {d:e} {c:g},n<=b->ih f n d=some c->ih f b d=some c
 |0,_,_,_,_,a=>by cases a
 |n+1,0,_,_,a,_=>by omega
 |n+1,b+1,d,c,h,a=>by
  simp only[ih] at a|-;split at a
  ·cases a
  ·exact EN U a
  ·exact a
theorem xO {j:Type} {e:z->Option (z⊕j)} {g:z} {b:j}:loop e g=some b↔∃a,ih e a g=some b:=by
 unfold loop;constructor
 ·intro f;split at f
  ·rename_i c;obtain⟨a,d⟩:=c.choose_spec;exact⟨a,by rw[d];exact f⟩
  ·cases f
 ·rintro⟨a,d⟩;have c:∃b,∃a,ih e a g=some b:=⟨b,a,d⟩;rw[dif_pos c];obtain⟨i,l⟩:=c.choose_spec;have k:=EN (Nat.le_max_left a i) d;have h:=EN (Nat.le_max_right a i) l;rw[k] at h;exact h.symm
theorem VI {j:Type} (d:z->Option (z⊕j)) (e:z):loop d e=match d e with
 |none=>none
 |some (.inl g)=>loop d g
 |some (.inr f)=>some f:=by
 apply Option.ext;intro f;rw[xO];cases c:d e with
 |none=>
  simp only[reduceCtorEq,iff_false];rintro⟨b,a⟩;cases b with
  |zero=>cases a
  |succ b=>simp only[ih,c] at a;cases a
 |some i=>
  cases i with
  |inl g=>
   simp only;rw[xO];constructor
   ·rintro⟨b,a⟩;cases b with
    |zero=>cases a
    |succ b=>simp only[ih,c] at a;exact⟨b,a⟩
   ·rintro⟨b,a⟩;exact⟨b+1,by simp only[ih,c];exact a⟩
  |inr k=>
   simp only;constructor
   ·rintro⟨b,a⟩;cases b with
    |zero=>cases a
    |succ b=>simp only[ih,c] at a;exact a
   ·intro h;exact⟨1,by simp only[ih,c];exact h⟩
theorem J.loop {σ ρ L:Type} {c:Code} (jy:σ->aH) {z:σ->Option (σ⊕ρ)} {s:σ} {w:ρ->Option L} {K:L} (O:(loop z s).bind w=some K) (T:nh (jy s).g st) (U:ni (jy s).h st) (V:kM (jy s).g (jy s).h=true) (S:∀e l,z e=some l->(match l with|.inl _=>True|.inr I=>w I=some K)->J E C c (jy e) (λd t=>match l with
  |.inl m=>d=.normal/\nh (jy m).g t/\ni (jy m).h t/\kM (jy m).g (jy m).h=true
  |.inr _=>(d=.normal->False)/\A d t)):J E C (.loop c) st A:=by
 obtain⟨I,Z,W⟩:=c9.1 O;obtain⟨r,a⟩:=xO.1 Z;have ad:∀(r:Nat) (e:σ) (f:Act) (n:World),ih z r e=some I->ff C (jy e) f.tmps n->f.defers=[]->∀(j:Frame) (w:List Item) (k:List Frame),
  ∃d v D,(∃t,A d t/\ff C t v.tmps D/\v.defers=[])/\Arrives E.P (lone (j.at f (.code c::.inLoop c::w)) k n) j w k d v D:=by
  intro r
  induction r with
  |zero=>intro e f n a;cases a
  |succ r ab=>
   intro e f n a F G j B k;simp only[ih] at a;cases H:z e with
   |none=>rw[H] at a;cases a
   |some l=>
    rw[H] at a;have R:=S e l H (by
     cases l with
     |inl m=>trivial
     |inr ap=>simp only at a;cases a;exact W)
    obtain⟨d,o,u,⟨y,b,q,p⟩,i⟩:=R f n F G j (.inLoop c::B) k;cases l with
    |inl m=>
     simp only at a b;obtain⟨rfl,ar,am,an⟩:=b;obtain⟨N,M,av,Y,Q⟩:=ab m o u a (q.wx ar am an) p j B k;exact⟨N,M,av,Y,.of_steps (Steps.trans i (.one step_inLoop)) Q⟩
    |inr ap=>
     obtain⟨X,b⟩:=b;cases d with
     |normal=>exact(X rfl).elim
     |exit id=>exact⟨_,o,u,⟨y,b,q,p⟩,.pass (x:=.inLoop c) rfl (λ_ _=>.inl ac) i⟩
     |goto a3=>exact⟨_,o,u,⟨y,b,q,p⟩,.pass (x:=.inLoop c) rfl (λ_ _=>.inl ac) i⟩
     |ret=>exact⟨_,o,u,⟨y,b,q,p⟩,.pass (x:=.inLoop c) rfl (λ_ _=>.inl ac) i⟩
     |panic a0=>exact⟨_,o,u,⟨y,b,q,p⟩,.pass (x:=.inLoop c) rfl (λ_ _=>.inl ac) i⟩
     |outgrown=>exact⟨_,o,u,⟨y,b,q,p⟩,.pass (x:=.inLoop c) rfl (λ_ _=>.inl ac) i⟩
 refine J.abv T U V (λf n F G j B k=>?_);obtain⟨d,v,D,b,i⟩:=ad r s f n a F G j B k;exact⟨d,v,D,b,.of_steps (.one step_loop) i⟩
end
end
def q9:dd->dd->Bool
 |.bx,_=>true
 |.dk,.dk=>true
 |.dk,.bx=>false
def uW:dd->Bool
 |.dk=>true
 |.bx=>false
def df:ah->ah->Bool
 |.int i,.int j=>if i=j then true else false
 |.bool,.bool|.str,.str|.nil,.nil=>true
 |.a6 c a,.a6 d b=>q9 c d&&df a b
 |.osl a,.a6 c b=>uW c&&df a b
 |.ptr c a,.ptr d b=>q9 c d&&df a b
 |.st a,.st b=>df a b
 |.pr e f,.pr g h=>df e g&&df f h
 |.mp a,.dJ c b=>uW c&&df a b
 |.dJ c a,.dJ d b=>q9 c d&&df a b
 |_,_=>false
theorem q9.ok (e:∀c,k c->D c) {b:dd} (d:q9 P b=true) (a:bc V k P c):bc V D b c:=by
 cases P<;>cases b
 ·exact a
 ·exact .inl a
 ·cases d
 ·exact a.imp id (e c)
theorem uW.ok (a:uW P=true):P=.dk:=by cases P;cases a;rfl
theorem df.den:∀{d υ:ah},df d υ=true->d.den=υ.den:=by
 intro d
 induction d with
 |a6 f c b=>
  intro υ a;cases υ<;>simp only[df] at a<;>try (cases a;done)
  simp only[bg] at a;exact congrArg List (b a.2)
 |ptr f c b=>
  intro υ a;cases υ<;>simp only[df] at a<;>try (cases a;done)
  simp only[bg] at a;exact congrArg Option (b a.2)
 |osl c b=>
  intro υ a;cases υ<;>simp only[df] at a<;>try (cases a;done)
  simp only[bg] at a;exact congrArg List (b a.2)
 |st c b=>
  intro υ a;cases υ with
  |st k=>exact b (υ:=k) (by simpa only[df] using a)
  |_=>simp only[df] at a;cases a
 |pr g h i j=>
  intro υ a;cases υ<;>simp only[df] at a<;>try (cases a;done)
  simp only[bg] at a;show(g.den×h.den)=_;rw[i a.1,j a.2]
 |int l=>intro υ a;cases υ<;>simp only[df] at a<;>first|rfl|cases a
 |bool=>intro υ a;cases υ<;>simp only[df] at a<;>first|rfl|cases a
 |str=>intro υ a;cases υ<;>simp only[df] at a<;>first|rfl|cases a
 |nil=>intro υ a;cases υ<;>simp only[df] at a<;>first|rfl|cases a
 |optr c _=>intro υ a;cases υ<;>simp only[df] at a<;>cases a
 |de=>intro υ a;cases υ<;>simp only[df] at a<;>cases a
 |mp c b=>
  intro υ a;cases υ<;>simp only[df] at a<;>try (cases a;done)
  simp only[bg] at a;exact congrArg (λe=>Option (List (Int×e)×Nat)) (b a.2)
 |dJ f c b=>
  intro υ a;cases υ<;>simp only[df] at a<;>try (cases a;done)
  simp only[bg] at a;exact congrArg (λe=>Option (List (Int×e)×Nat)) (b a.2)
theorem df.size:∀{c b:ah},df c b=true->c.size=b.size:=by
 intro c
 induction c with
 |st i d=>intro b a;cases b<;>simp only[df] at a<;>first|(simp only[ah.size];exact d a)|cases a
 |pr g h e f=>
  intro b a;cases b<;>simp only[df] at a<;>try (cases a;done)
  simp only[bg] at a;simp only[ah.size];rw[e a.1,f a.2]
 |_=>intro b a;cases b<;>simp only[df] at a<;>first|rfl|cases a
theorem Jr (l:z=E) {e:Option (List (Int×z)×Nat)} {i:Option (List (Int×E)×Nat)} (m:HEq e i):(e=none/\i=none)\/∃j c k,e=some (j,c)/\i=some (k,c)/\∀b:List (Int×Nat×z),i4 b j c->∃f:List (Int×Nat×E),i4 f k c/\f.length=b.length/\∀(h:Nat) (d:Int×Nat×E),f[h]?=some d->∃a:Int×Nat×z,b[h]?=some a/\a.1=d.1/\a.2.1=d.2.1/\HEq a.2.2 d.2.2:=by
 subst l;cases m;cases e with
 |none=>exact .inl ⟨rfl,rfl⟩
 |some g=>exact .inr ⟨g.1,g.2,g.1,rfl,rfl,λb n=>⟨b,n,rfl,λh a o=>⟨a,o,rfl,rfl,HEq.rfl⟩⟩⟩
theorem df.bL {a b:ah} (d:df a b=true) (c:abU):bL b c=hT.bL a c:=by cases a<;>cases b<;>simp only[df] at d<;>first|rfl|cases d
theorem Jq (f:E=z) {c:List E} {d:List z} (g:HEq c d):d.length=c.length/\∀(b:Nat) (a:z),d[b]?=some a->∃e,c[b]?=some e/\HEq e a:=by subst f;cases g;exact⟨rfl,λb a h=>⟨a,h,HEq.rfl⟩⟩
theorem UT (e:z=E) {b:Option z} {c:Option E} (f:HEq b c):(b=none/\c=none)\/∃a d,b=some a/\c=some d/\HEq a d:=by
 subst e;cases f;cases b with
 |none=>exact .inl ⟨rfl,rfl⟩
 |some a=>exact .inr ⟨a,a,rfl,rfl,HEq.rfl⟩
theorem UU {c d:Type} (e:z=c) (f:E=d) {a:z×E} {b:c×d} (g:HEq a b):HEq a.1 b.1/\HEq a.2 b.2:=by subst e;subst f;cases g;exact⟨HEq.rfl,HEq.rfl⟩
theorem aN.dk (L:∀c,D c->k c):∀{B υ:ah} {f:abU} {x:B.den} {y:υ.den} {g:ab0},df B υ=true->HEq x y->aN (bc V D) e B f x g->(∀c∈g,k c)->aN (bc V k) e υ f y []:=by
 intro B
 induction B with
 |int ds=>
  intro υ f x y g a d b _;cases υ<;>simp only[df] at a<;>try (cases a;done)
  split at a
  ·rename_i an;subst an;cases d;exact⟨rfl,b.2⟩
  ·cases a
 |bool=>intro υ f x y g a d b _;cases υ<;>simp only[df] at a<;>first|(cases a;done)|(cases d;exact⟨rfl,b.2⟩)
 |str=>intro υ f x y g a d b _;cases υ<;>simp only[df] at a<;>first|(cases a;done)|(cases d;exact⟨rfl,b.2⟩)
 |nil=>intro υ f x y g a d b _;cases υ<;>simp only[df] at a<;>first|(cases a;done)|(cases d;exact⟨rfl,b.2⟩)
 |optr w _=>intro υ f x y g a;cases υ<;>simp only[df] at a<;>cases a
 |de=>intro υ f x y g a;cases υ<;>simp only[df] at a<;>cases a
 |mp w m=>
  intro υ f x y g a d b i;cases υ<;>simp only[df] at a<;>try (cases a;done)
  simp only[bg] at a;obtain rfl:=uW.ok a.1;rcases Jr (df.den a.2) d with⟨rfl,rfl⟩|⟨bB,C,ce,rfl,rfl,l⟩
  ·exact⟨rfl,b.2⟩
  ·obtain⟨c,I,F,ar,u,M,v,A,S⟩:=b;obtain⟨G,N,j,l⟩:=l F M;refine⟨c,I,G,ar,rfl,N,.inr (i c (by rw[u];simp)),v,by rw[j];exact A,λh R O=>?_⟩;obtain⟨Q,n,p,J,K⟩:=l h R O;obtain⟨o,q,r,s⟩:=S h Q n;exact⟨o,by rw[<-df.size a.2];exact q,by rw[r,df.bL a.2,p,J],m a.2 K s ac⟩
 |dJ Z w m=>
  intro υ f x y g a d b i;cases υ<;>simp only[df] at a<;>try (cases a;done)
  simp only[bg] at a;rcases Jr (df.den a.2) d with⟨rfl,rfl⟩|⟨bB,C,ce,rfl,rfl,l⟩
  ·exact⟨rfl,b.2⟩
  ·obtain⟨c,I,F,ar,u,M,z,v,A,S⟩:=b;obtain⟨G,N,j,l⟩:=l F M;refine⟨c,I,G,ar,rfl,N,q9.ok L a.1 z,v,by rw[j];exact A,λh R O=>?_⟩;obtain⟨Q,n,p,J,K⟩:=l h R O;obtain⟨o,q,r,s⟩:=S h Q n;exact⟨o,by rw[<-df.size a.2];exact q,by rw[r,df.bL a.2,p,J],m a.2 K s ac⟩
 |st w m=>
  intro υ f x y g a d b i;cases υ with
  |st E=>exact m (υ:=E) (x:=x) (y:=y) (by simpa only[df] using a) d b i
  |_=>simp only[df] at a;cases a
 |pr ad c bl bs=>
  intro υ f x y g a d b i;cases υ<;>simp only[df] at a<;>try (cases a;done)
  rename_i C c1;simp only[bg] at a;obtain⟨c2,f2,rfl,n,p⟩:=b;obtain⟨aj,ap⟩:=UU (df.den a.1) (df.den a.2) d;have Y:=df.size a.1;exact⟨[],[],rfl,by rw[<-Y];exact bl a.1 aj n (λc z=>i c (by simp[z])),by rw[<-Y];exact bs a.2 ap p (λc z=>i c (by simp[z]))⟩
 |a6 Z w m=>
  intro υ f x y g a d b i;obtain⟨rfl,X,H,rfl,ar,u,v⟩:=b;cases υ<;>simp only[df] at a<;>try (cases a;done)
  rename_i ab E;simp only[bg] at a;obtain⟨j,l⟩:=Jq (df.den a.2) d;refine⟨rfl,X,H,by rw[j],by rw[j];exact ar,u,?_⟩;rcases v with rfl|⟨c,t,rfl,a0,bd⟩
  ·left;exact k2 (by rw[j];rfl)
  ·right;refine⟨c,t,rfl,q9.ok L a.1 a0,λh T P=>?_⟩;obtain⟨W,n,p⟩:=l h T P;obtain⟨o,q,r,s⟩:=bd h W n;rw[<-df.size a.2];exact⟨o,q,r,m a.2 p s ac⟩
 |osl w m=>
  intro υ f x y g a d b i;cases υ<;>simp only[df] at a<;>try (cases a;done)
  rename_i ab E;simp only[bg] at a;obtain rfl:=uW.ok a.1;obtain⟨X,H,rfl,b⟩:=b;obtain⟨j,l⟩:=Jq (df.den a.2) d;rcases b with⟨rfl,rfl,rfl,rfl⟩|⟨c,t,av,rfl,rfl,ar,u,v,A⟩
  ·obtain rfl:y=[]:=k2 (by rw[j];rfl);exact⟨rfl,none,0,rfl,aY _,λ_=>rfl,.inl rfl⟩
  ·refine⟨rfl,some ⟨c,t,none⟩,H,by rw[j],by rw[j];exact u,(λa=>by cases a),.inr ⟨c,t,rfl,.inr (i c ac),λh T P=>?_⟩⟩;obtain⟨W,n,p⟩:=l h T P;have dl:h<x.length:=(ey.1 n).1;obtain⟨o,q,r,s⟩:=A h W (av[h]'(by omega)) n ac
   rw[<-df.size a.2];exact⟨o,q,r,m a.2 p s (λC a4=>i C (e0 _ (iI.2 ⟨_,bI U,a4⟩)))⟩
 |ptr Z w m=>
  intro υ f x y g a d b i;obtain⟨rfl,b⟩:=b;cases υ<;>simp only[df] at a<;>try (cases a;done)
  rename_i ab E;simp only[bg] at a;refine⟨rfl,?_⟩;rcases UT (df.den a.2) d with⟨rfl,rfl⟩|⟨ad,c,rfl,rfl,a3⟩
  ·exact b
  ·obtain⟨am,t,o,ci,co,cs,aU,cv⟩:=b;exact⟨am,t,o,ci,q9.ok L a.1 co,by rw[<-df.size a.2];exact cs,aU,m a.2 a3 cv ac⟩
inductive mn:(τ:ah)->τ.den->(υ:ah)->υ.den->Prop
 |same {τ υ:ah} {x:τ.den} {y:υ.den} (h:df τ υ=true) (US:HEq x y):mn τ x υ y
 |ptr {t u:ah} {x:t.den} {y:u.den} (h:df t u=true) (US:HEq x y):mn (.optr t) x (.ptr .dk u) (some y)
theorem mn.rep {B:Nat->Prop} (h:∀a,B a->k a) {j:d.den} {l:q.den} (b:mn d j q l) (i:aN (bc D B) e d g j m) (f:∀a∈m,k a):aN (bc D k) e q g l []:=by
 cases b with
 |same b c=>exact i.dk h b c f
 |ptr b c=>
  obtain⟨a,r,u,o,rfl,rfl,ar,s,v,t⟩:=i;exact⟨rfl,a,r,o,rfl,.inr (f a ac),by rw[<-df.size b];exact ar,s,t.dk h b c (λn p=>f n (by simp[p]))⟩
theorem mn.st {c:d.den} {e:q.den} (a:mn d c q e) (b:abU):bL d b=bL q b:=by
 cases a with
 |same a _=>cases d<;>cases q<;>first|rfl|(simp only[df] at a;cases a;done)
 |ptr a _=>rfl
end Go.hT
end
